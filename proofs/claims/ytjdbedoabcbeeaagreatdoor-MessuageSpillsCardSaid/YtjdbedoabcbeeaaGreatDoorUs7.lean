/- Parts of the proof: Buddy2, Buddy3. -/
import Derived.Test.YtjdbedoabcbeeaaGreatDoorUs5
import Derived.Test.YtjdbedoabcbeeaaGreatDoorUs6
import Derived.Test.YtjdbedoabcbeeaaGreatDoorUs4
/- Package buddy: Runs, first, Take. -/
namespace Go.Proofs.YtjdbedoabcbeeaaGreatDoor
open Go.RowKit
set_option linter.unusedVariables false
set_option linter.unusedSimpArgs false
attribute [local go_sem] World.cell?_alloc_lt

/-- slices.Sort of one element. -/
theorem insertion1 (A : Option Addr) (c : Nat) (w : World) : Calls Tryz.prog 150 #[.slice A 1 c, .int .i64 0, .int .i64 1] w fun e w' => e = .returned (.tuple #[]) ∧ w = w' := by
  go_enter Tryz.func150, Tryz.ntmps150
  go_wp2_with fail
  go_loopw [6] (fun v wr => v = .int .i64 1 ∧ wr = w) (fun _ _ => 0)
  case atStart => exact ⟨rfl, rfl⟩
  case round =>
    obtain ⟨rfl, rfl⟩ := hrel
    go_wp2_with fail
    go_end0
    exact ⟨rfl, rfl⟩
set_option maxRecDepth 100000 in
theorem pdq1 (A : Option Addr) (c : Nat) (lim : Int) (w : World) : Calls Tryz.prog 124 #[.slice A 1 c, .int .i64 0, .int .i64 1, .int .i64 lim] w fun e w' => e = .returned (.tuple #[]) ∧ w = w' := by
  have hi := insertion1 A c w
  have HI := Lib.hid hi
  clear hi
  go_enter Tryz.func124, Tryz.ntmps124
  go_wp2_with fail
  go_loopw [1, 2] (fun v1 v2 wr => v1 = .int .i64 0 ∧ v2 = .int .i64 1 ∧ wr = w) (fun _ _ _ => 0)
  case atStart => exact ⟨rfl, rfl, rfl⟩
  case round =>
    obtain ⟨rfl, rfl, rfl⟩ := hrel
    go_wp2_with fail
    refine HI.out.mono ?_; rintro e w1 ⟨rfl, rfl⟩
    clear HI
    go_wp2_with fail
    (try simp only [Exit.inBlock, Exit.then])
    refine bodyPost_ret (results_none rfl _ _ _) rfl ?_
    exact ⟨rfl, rfl⟩
theorem sort1 (A : Option Addr) (c : Nat) (w : World) : Calls Tryz.prog 97 #[.slice A 1 c] w fun e w' => e = .returned (.tuple #[]) ∧ w = w' := by
  have hi := fun lim => pdq1 A c lim w
  have hb := Tryz.bits_Len 1 w (by omega) (by omega)
  have HI := Lib.hid hi; have HB := Lib.hid hb
  clear hi hb
  generalize ((Lib.bitLen (1 : Int).toNat : Nat) : Int) = lim at *
  go_enter Tryz.func97, Tryz.ntmps97
  go_wp2_with fail
  refine HB.out.mono ?_; rintro e w1 ⟨rfl, rfl⟩
  go_wp2_with fail
  refine (HI.out _).mono ?_; rintro e w1 ⟨rfl, rfl⟩
  clear HI
  go_wp2_with fail
  go_end0
  exact ⟨rfl, rfl⟩
def lenS : Value → Nat
  | .slice _ n _ => n
  | _ => 0
theorem info_intB : (Tryz.prog.info? 3).map (fun i => (i.zero, i.size, i.bytes)) = some (some (.int .i64 0), 1, 8) := by kernel_rfl
set_option maxRecDepth 100000 in
theorem bu_runs (g bt : Nat) (bs : List Nat) (n : Int) (L : Nat → List Int) (k : Nat) (hk : k < 11) (x : Int) (hx : L k = [x]) (w : World) (hB : BudAt w g bs bt n L) :
    Calls Tryz.prog 74 #[.pointer (some ⟨g, 0, none⟩), .int .i64 (k : Int)] w fun e w' => ∃ q c, e = .returned (.slice (some ⟨q, 0, none⟩) 1 c) ∧ w'.ownsRow w.heap.size 3 1 (.slice (some ⟨q, 0, none⟩) 1 c) 1 [.int .i64 x] ∧ Below w.heap.size w w' := by
  have hr := bu_right g k hk w
  obtain ⟨b, hb, hc, hm⟩ := hB.cell hk
  have hix := fun w => idx_bud g k hk w
  rw [hx] at hm
  have hbl := hm.lt
  obtain ⟨o, hrg, hi0⟩ := hm.run_range uBud
  have HR := Lib.hid hr; have HI0 := Lib.hid hi0
  clear hr hB hb hx hm hi0
  go_enter Tryz.func74, Tryz.ntmps74
  go_wp2_with fail
  refine HR.out.mono ?_; rintro e w1 ⟨rfl, rfl⟩
  clear HR
  go_wp2_with fail
  go_loopw [5] (fun v5 wr => Below w.heap.size w wr ∧ w.heap.size < wr.heap.size ∧ ((v5 = .slice none 0 0 ∧ It0 intKeys wr w.heap.size b [(x, .bool true)]) ∨ (∃ q c, v5 = .slice (some ⟨q, 0, none⟩) 1 c ∧ wr.ownsRow w.heap.size 3 1 (.slice (some ⟨q, 0, none⟩) 1 c) 1 [.int .i64 x] ∧ It1 intKeys wr w.heap.size b x (.bool true)))) (fun v _ => 1 - lenS v)
  case atStart => exact ⟨bel_alloc (Below.refl _ _) _, by simp, Or.inl ⟨rfl, HI0.out⟩⟩
  case round =>
    clear HI0 hrg hc
    obtain ⟨hB, hlt, ⟨rfl, hi0⟩ | ⟨q, c, rfl, hown, hi1⟩⟩ := hrel
    · obtain ⟨w1, hn1, hi1, hc1⟩ := hi0.next (P := Tryz.prog) (by omega) 0
      have hnx : ∀ ty, (Instr.next (.pointer (some ⟨w.heap.size, 0, none⟩)) false ty).run Tryz.prog wr = .ok (.tuple #[.bool true, .int .i64 x, .bool true]) w1 := fun ty => hn1
      have hen := hi1.entry (P := Tryz.prog)
      have hen2 : (Instr.entry (.pointer (some ⟨w.heap.size, 0, none⟩))).run Tryz.prog w1 = .ok (.tuple #[.int .i64 x, .bool true]) w1 := hen
      have hB1 := bel_ch hB hc1 (by simp)
      have hsz1 := hc1.size
      have HOK := Lib.hid (World.ownsRow_nil (w1.alloc (.cells #[.int .i64 x] 3)) w.heap.size 3 1)
      have HBL := Lib.hid (Blk.new w1 3 [.int .i64 x])
      have HB2 := Lib.hid (bel_alloc hB1 (.cells #[.int .i64 x] 3))
      have HI1 := Lib.hid (hi1.ch ((Ch.refl [] w1).alloc (.cells #[.int .i64 x] 3)) (by simp) (by simp))
      clear hn1 hen hB hB1 hi0 hi1 hc1
      go_wp2_with (at_builtin; refine wpList_push _ rfl (.tmp 22) (.tmp 24) 27 rfl w.heap.size 3 (.int .i64 0) 8 Tryz.underlying27 info_intB rfl none 0 0 [] rfl HOK.out w1.heap.size 1 (.int .i64 x) rfl (HBL.out.at_ rfl) rfl (by omega) (by omega) HB2.out.size ?_)
      intro g2 cap w8 ho8 hg8 hor8
      have hc8 : Ch [] (w1.alloc (.cells #[.int .i64 x] 3)) w8 := ch_grown hg8 (fun q hq => by cases hq)
      have HI8 := Lib.hid (HI1.out.ch hc8 (by simp) (by simp))
      have HB8 := Lib.hid (bel_trans HB2.out hc8.bel)
      have hsz8 := hc8.size
      have HO8 := Lib.hid ho8
      clear ho8 hg8 hor8 hc8 HOK HBL HB2 HI1
      go_wp2_with fail
      go_roundw
      case rel => exact ⟨HB8.out, by simp at hsz8; omega, Or.inr ⟨g2, cap, rfl, HO8.out, HI8.out⟩⟩
      case measure => simp [lenS]
    · have hn1 := hi1.next (P := Tryz.prog)
      have hso := sort1 (some ⟨q, 0, none⟩) c wr
      have HSO := Lib.hid hso; have HOW := Lib.hid hown; have HBW := Lib.hid hB
      clear hso hown hB hi1
      go_wp2_with fail
      refine HSO.out.mono ?_; rintro e w1 ⟨rfl, rfl⟩
      clear HSO hn1
      go_wp2_with fail
      go_ret
      exact ⟨q, c, rfl, HOW.out, HBW.out⟩
theorem bu_first (g bt : Nat) (bs : List Nat) (n : Int) (L : Nat → List Int) (k : Nat) (hk : k < 11) (x : Int) (hx : L k = [x]) (w : World) (hB : BudAt w g bs bt n L) :
    Calls Tryz.prog 52 #[.pointer (some ⟨g, 0, none⟩), .int .i64 (k : Int)] w fun e w' => e = .returned (.int .i64 x) ∧ Below w.heap.size w w' := by
  have hr := bu_runs g bt bs n L k hk x hx w hB
  have HR := Lib.hid hr
  clear hr hB hx
  go_enter Tryz.func52, Tryz.ntmps52
  go_wp2_with fail
  refine HR.out.mono ?_; rintro e w1 ⟨q, c, rfl, hO, hB⟩
  obtain ⟨g', hA, hc, _⟩ := own_at hO (k := 0) (u := .int .i64 x) rfl
  injection hA with hA
  injection hA with hA
  subst hA
  have hi : ∀ w : World, (Instr.indexAt 27 (.slice (some ⟨q, 0, none⟩) 1 c) (.int .i64 0)).run Tryz.prog w = .ok (.pointer (some ⟨q, 0, none⟩)) w := fun w => idx_own q 1 c 0 (by omega) w
  clear hO
  have HB := Lib.hid hB
  clear hB HR
  go_wp2_with fail
  go_ret
  exact ⟨rfl, HB.out⟩
end Go.Proofs.YtjdbedoabcbeeaaGreatDoor
/- Package buddy: Take of order 0, New; the statements' halves. -/
namespace Go.Proofs.YtjdbedoabcbeeaaGreatDoor
open Go.RowKit
set_option linter.unusedVariables false
set_option linter.unusedSimpArgs false
attribute [local go_sem] World.cell?_alloc_lt

def takeL (L : Nat → List Int) (kk : Nat) (x : Int) (j i : Nat) : List Int := if j ≤ i ∧ i < kk then [x + 2 ^ i] else if i = kk then [] else L i
theorem mdel_one (x : Int) : mdel [(x, Value.bool true)] x = [] := by unfold mdel; simp
theorem mput_nil (x : Int) : mput ([] : List (Int × Value)) x (.bool true) = [(x, .bool true)] := by unfold mput; rfl
set_option maxRecDepth 100000 in
set_option maxHeartbeats 1000000 in
theorem bu_take (g bt : Nat) (bs : List Nat) (n : Int) (L : Nat → List Int) (kk : Nat) (hkk : kk < 11) (h0 : ∀ j, j < kk → L j = []) (x : Int) (hx : L kk = [x]) (hx0 : 0 ≤ x) (hx1 : x ≤ 100000) (w : World) (hB : BudAt w g bs bt n L) :
    Calls Tryz.prog 25 #[.pointer (some ⟨g, 0, none⟩), .int .i64 0] w fun e w' => e = .returned (.tuple #[.int .i64 x, .int .i64 0]) ∧ BudAt w' g bs bt n (takeL L kk x 0) ∧ Ch (bt :: bs) w w' := by
  have hr := bu_right g 0 (by omega) w
  have ha := bu_above g bt bs n L kk hkk h0 (by rw [hx]; rfl) w hB
  have hf := bu_first g bt bs n L kk hkk x hx w hB
  have HR := Lib.hid hr; have HA := Lib.hid ha; have HF := Lib.hid hf; have HB := Lib.hid hB; have H0 := Lib.hid h0; have HX := Lib.hid hx
  clear hr ha hf hB h0 hx
  go_enter Tryz.func25, Tryz.ntmps25
  go_wp2_with fail
  refine HR.out.mono ?_; rintro e w1 ⟨rfl, rfl⟩
  go_wp2_with fail
  refine HA.out.mono ?_; rintro e w1 ⟨rfl, rfl⟩
  go_wp2_with fail
  refine HF.out.mono ?_; rintro e w1 ⟨rfl, hB1⟩
  have hB := HB.out.below hB1
  have hC1 := Ch.below hB1 (bt :: bs)
  obtain ⟨b, hb, hc, hm⟩ := hB.cell hkk
  rw [HX.out] at hm
  have hix := fun w => idx_bud g kk hkk w
  obtain ⟨w2, hd, hm2, hc2⟩ := hm.run_delete uBud kBud x 3 0
  have hdl : ∀ ty, (Builtin.delete_ #[129, 3] ty #[.map (some b), .int .i64 x]).run Tryz.prog w1 = .ok (.tuple #[]) w2 := fun ty => hd
  have hm2 : MapAt intKeys w2 b (([] : List Int).map fun x => (x, Value.bool true)) := by
    have : mdel ([x].map fun x => (x, Value.bool true)) x = [] := mdel_one x
    rw [this] at hm2
    exact hm2
  have hB2 := hB.put hb hc2 hm2
  have hC2 : Ch (bt :: bs) w w2 := hC1.trans (hc2.mono (by intro k hk; rw [List.mem_singleton] at hk; subst hk; simp [List.mem_of_getElem? hb]))
  have hB3 : BudAt w2 g bs bt n (takeL L kk x kk) := hB2.congr (fun i hi => by
    unfold takeL
    by_cases h : i = kk
    · subst h; simp
    · rw [if_neg h, if_neg (show ¬ (kk ≤ i ∧ i < kk) by omega)])
  have HB3 := Lib.hid hB3; have HC2 := Lib.hid hC2
  clear hd hm hm2 hB2 hC2 hB3 hc2 hB1 hB hC1 hb HR HA HF HB
  go_wp2_with fail
  go_loopw [6] (fun v wr => ∃ j : Nat, j ≤ kk ∧ v = .int .i64 (j : Int) ∧ BudAt wr g bs bt n (takeL L kk x j) ∧ Ch (bt :: bs) w wr) (fun v _ => (intOf v).toNat)
  case atStart => exact ⟨kk, by omega, rfl, HB3.out, HC2.out⟩
  case round =>
    clear HB3 HC2 hdl hc hix
    obtain ⟨j, hj, rfl, hB, hC⟩ := hrel
    cases j with
    | zero =>
      have hct := hB.taken
      obtain ⟨T, hT⟩ := hB.tk
      obtain ⟨w3, hu, hm3, hc3⟩ := hT.run_update uBt kBud x (.int .i64 0)
      have hu2 : (Instr.mapUpdate 60 (.map (some bt)) (.int .i64 x) (.int .i64 0)).run Tryz.prog wr = .ok () w3 := hu
      have hne : ∀ y ∈ [bt], y ∉ g :: bs := fun y hy hy2 => by
        rw [List.mem_singleton] at hy
        subst hy
        have := hB.nd
        rw [List.nodup_cons, List.nodup_cons] at this
        rcases List.mem_cons.1 hy2 with h | h
        · exact this.1 (by rw [← h]; simp)
        · exact this.2.1 h
      have hB4 : BudAt w3 g bs bt n (takeL L kk x 0) := ⟨hB.len, hB.st.ch hc3 (fun h => hne g h (by simp)), fun k b hb => (hB.fr k b hb).ch hc3 (fun h => hne b h (by simp [List.mem_of_getElem? hb])), ⟨_, hm3⟩, hB.nd⟩
      have hC4 : Ch (bt :: bs) w w3 := hC.trans (hc3.mono (by simp))
      have HB4 := Lib.hid hB4; have HC4 := Lib.hid hC4
      clear hu hm3 hc3 hB hC hne hB4 hC4 hT
      go_wp2_with fail
      go_ret2
      exact ⟨rfl, HB4.out, HC4.out⟩
    | succ i =>
      have hdr := hB.below (bel_drew (Below.refl _ wr))
      obtain ⟨b, hb, hc, hm⟩ := hdr.cell (k := i) (by omega)
      have hLi : takeL L kk x (i + 1) i = [] := by
        unfold takeL
        rw [if_neg (show ¬ (i + 1 ≤ i ∧ i < kk) by omega), if_neg (show ¬ i = kk by omega)]
        exact H0.out i (by omega)
      rw [hLi] at hm
      have hix := fun w => idx_bud g i (by omega) w
      obtain ⟨w3, hu, hm3, hc3⟩ := hm.run_update uBud kBud (x + 2 ^ i) (.bool true)
      have hu2 : (Instr.mapUpdate 129 (.map (some b)) (.int .i64 (x + 2 ^ i)) (.bool true)).run Tryz.prog wr.drew = .ok () w3 := hu
      have hm3 : MapAt intKeys w3 b ([x + 2 ^ i].map fun x => (x, Value.bool true)) := by
        have : mput (([] : List Int).map fun x => (x, Value.bool true)) (x + 2 ^ i) (.bool true) = [(x + 2 ^ i, .bool true)] := mput_nil _
        rw [this] at hm3
        exact hm3
      have hB4 := (hdr.put hb hc3 hm3).congr (L' := takeL L kk x i) (fun q hq => by
        unfold takeL
        by_cases hqi : q = i
        · subst hqi
          rw [if_pos rfl, if_pos (show q ≤ q ∧ q < kk by omega)]
        · rw [if_neg hqi]
          by_cases h1 : i + 1 ≤ q ∧ q < kk
          · rw [if_pos h1, if_pos (show i ≤ q ∧ q < kk by omega)]
          · rw [if_neg h1, if_neg (show ¬ (i ≤ q ∧ q < kk) by omega)])
      have hC4 : Ch (bt :: bs) w w3 := hC.drew.trans (hc3.mono (by intro k hk; rw [List.mem_singleton] at hk; subst hk; simp [List.mem_of_getElem? hb]))
      have hw1 : IntKind.i64.wrap ((i : Int) + 1 - 1) = (i : Int) := by rw [show (i : Int) + 1 - 1 = (i : Int) by omega]; exact i64_sm (by omega) (by omega)
      have hw2 := shl_bud 1 i (by omega) (by omega)
      have hp1 : (2 : Nat) ^ i ≤ 2 ^ 10 := Nat.pow_le_pow_right (by omega) (by omega)
      have hw3 : IntKind.i64.wrap (x + 2 ^ i) = x + 2 ^ i := by
        have e : (2 : Int) ^ i = ((2 ^ i : Nat) : Int) := by push_cast; rfl
        rw [e]
        exact i64_sm (by omega) (by omega)
      have hv : wrap64 (x + wrap64 (2 ^ i)) = x + 2 ^ i := by
        have e : (2 : Int) ^ i = ((2 ^ i : Nat) : Int) := by push_cast; rfl
        rw [e, wrap64_small (n := ((2 ^ i : Nat) : Int)) (by omega) (by omega)]
        exact wrap64_small (by omega) (by omega)
      have HB4 := Lib.hid hB4; have HC4 := Lib.hid hC4
      clear hw2 hw3 hp1
      clear hu hm hm3 hc3 hB hC hdr hB4 hC4 hb hLi
      go_upto_region 10 with fail
      go_region
      go_wp2_with fail
      go_roundw
      case rel => exact ⟨i, by omega, by go_num, HB4.out, HC4.out⟩
      case measure => simp [intOf]
def newL (m k : Nat) : List Int := if k = m then [0] else []
/-- As New makes it. -/
structure NewB (w wr : World) (g bt : Nat) (n : Int) (m i : Nat) (bs : List Nat) : Prop where
  len : bs.length = i
  st : Blk wr g 132 (.int .i64 n :: (bs.map mapV ++ (List.replicate (11 - i) (Value.map none) ++ [.map (some bt)])))
  fr : ∀ k b, bs[k]? = some b → MapAt intKeys wr b ((newL m k).map fun x => (x, Value.bool true))
  tk : MapAt intKeys wr bt []
  nd : (g :: bt :: bs).Nodup
  lo : ∀ b ∈ g :: bt :: bs, w.heap.size ≤ b
  bel : Below w.heap.size w wr
theorem set_next (n : Int) (A : List Value) (r : Nat) (t v : Value) : (Value.int .i64 n :: (A ++ (List.replicate (r + 1) (Value.map none) ++ [t]))).set (1 + A.length) v = Value.int .i64 n :: (A ++ [v] ++ (List.replicate r (Value.map none) ++ [t])) := by
  rw [Nat.add_comm 1, List.set_cons_succ, List.set_append_right _ _ (Nat.le_refl _), Nat.sub_self, List.replicate_succ, List.cons_append, List.set_cons_zero, List.append_assoc]
  rfl
theorem NewB.next {w wr : World} {g bt m i : Nat} {n : Int} {bs : List Nat} (h : NewB w wr g bt n m i bs) (hi : i < 11) {w' : World} {l : List Int} (hl : l = newL m i)
    (hst : Blk w' g 132 ((Value.int .i64 n :: (bs.map mapV ++ (List.replicate (11 - i) (Value.map none) ++ [.map (some bt)]))).set (1 + i) (.map (some wr.heap.size))))
    (hm : MapAt intKeys w' wr.heap.size (l.map fun x => (x, Value.bool true))) (hc : Ch [g] wr w') : NewB w w' g bt n m (i + 1) (bs ++ [wr.heap.size]) := by
  have hnew : ∀ b ∈ g :: bt :: bs, b < wr.heap.size := fun b hb => by
    rcases List.mem_cons.1 hb with rfl | hb
    · exact h.st.lt
    rcases List.mem_cons.1 hb with rfl | hb
    · exact h.tk.lt
    · obtain ⟨k, hk⟩ := List.getElem?_of_mem hb
      exact (h.fr k b hk).lt
  have hnd := h.nd
  have hgb : ∀ b ∈ bt :: bs, b ∉ [g] := fun b hb hb2 => by
    rw [List.mem_singleton] at hb2
    subst hb2
    rw [List.nodup_cons] at hnd
    exact hnd.1 hb
  have hlen := h.len
  refine ⟨by rw [List.length_append, hlen]; rfl, ?_, fun k b hb => ?_, h.tk.ch hc (hgb bt (by simp)), ?_, fun b hb => ?_, bel_ch h.bel hc (by simpa using h.lo g (by simp))⟩
  · have e := set_next n (bs.map mapV) (10 - i) (.map (some bt)) (.map (some wr.heap.size))
    rw [List.length_map, hlen, show 10 - i + 1 = 11 - i by omega] at e
    rw [e] at hst
    rw [List.map_append, show 11 - (i + 1) = 10 - i by omega]
    exact hst
  · by_cases hk : k < bs.length
    · rw [List.getElem?_append_left hk] at hb
      exact (h.fr k b hb).ch hc (hgb b (by simp [List.mem_of_getElem? hb]))
    · have hk2 := (List.getElem?_eq_some_iff.1 hb).1
      rw [List.length_append, List.length_singleton] at hk2
      obtain rfl : k = i := by omega
      rw [List.getElem?_append_right (by omega), hlen, Nat.sub_self] at hb
      injection hb with hb
      subst hb
      rw [← hl]
      exact hm
  · have : (g :: bt :: (bs ++ [wr.heap.size])) = (g :: bt :: bs) ++ [wr.heap.size] := rfl
    rw [this, List.nodup_append]
    refine ⟨hnd, by simp, fun a ha b hb => ?_⟩
    rw [List.mem_singleton] at hb
    subst hb
    have := hnew a ha
    omega
  · have : (g :: bt :: (bs ++ [wr.heap.size])) = (g :: bt :: bs) ++ [wr.heap.size] := rfl
    rw [this] at hb
    rcases List.mem_append.1 hb with hb | hb
    · exact h.lo b hb
    · rw [List.mem_singleton] at hb
      subst hb
      exact h.bel.size
set_option maxRecDepth 100000 in
set_option maxHeartbeats 1000000 in
theorem bu_new (n : Int) (m : Nat) (hm : m ≤ 10) (hn : n = 2 ^ m) (hn1 : 1 ≤ n) (hn2 : n ≤ 1024) (hbit : bits BinOp.and IntKind.i64 n (n - 1) = 0) (w : World) :
    Calls Tryz.prog 24 #[.int .i64 n] w fun e w' => ∃ g bs bt, e = .returned (.tuple #[.pointer (some ⟨g, 0, none⟩), .int .i64 0]) ∧ BudAt w' g bs bt n (newL m) ∧ (∀ b ∈ g :: bt :: bs, w.heap.size ≤ b) ∧ Below w.heap.size w w' := by
  have hmm := @run_makeMap Tryz.prog
  have HN := Lib.hid hn
  clear hn
  go_enter Tryz.func24, Tryz.ntmps24
  go_upto_region 4 with fail
  have hNB : NewB w ((w.alloc (.map #[] 0)).alloc (.cells #[.int .i64 n, .map none, .map none, .map none, .map none, .map none, .map none, .map none, .map none, .map none, .map none, .map none, .map (some w.heap.size)] 132)) (w.heap.size + 1) w.heap.size n m 0 [] := by
    refine ⟨rfl, ?_, by simp, (MapAt.new (κ := intKeys) w).below (bel_alloc (Below.refl _ _) _), by simp, ?_, bel_alloc (bel_alloc (Below.refl _ _) _) _⟩
    · have h := Blk.new (w.alloc (.map #[] 0)) 132 [.int .i64 n, .map none, .map none, .map none, .map none, .map none, .map none, .map none, .map none, .map none, .map none, .map none, .map (some w.heap.size)]
      rw [show (w.alloc (.map #[] 0)).heap.size = w.heap.size + 1 by simp] at h
      exact h
    · intro b hb
      rcases List.mem_cons.1 hb with rfl | hb
      · omega
      · rw [List.mem_singleton] at hb; omega
  have HNB := Lib.hid hNB
  clear hNB
  generalize (w.alloc (.map #[] 0)).alloc (.cells #[.int .i64 n, .map none, .map none, .map none, .map none, .map none, .map none, .map none, .map none, .map none, .map none, .map none, .map (some w.heap.size)] 132) = w1 at *
  generalize hg : w.heap.size + 1 = g at *
  clear hbit
  go_wp2_with fail
  go_loopw [23] (fun v wr => ∃ (i : Nat) (bs : List Nat), i ≤ 11 ∧ v = .int .i64 (i : Int) ∧ NewB w wr g w.heap.size n m i bs) (fun v _ => 11 - (intOf v).toNat)
  case atStart => exact ⟨0, [], by omega, rfl, HNB.out⟩
  case round =>
    clear HNB
    obtain ⟨i, bs, hi, rfl, hB⟩ := hrel
    by_cases hlt : i < 11
    · have hlen := hB.len
      have hgl := hB.st.lt
      have hcg : wr.cell? ⟨g, 1 + i, none⟩ = some (.map none) := hB.st.at_ (by
        rw [Nat.add_comm 1 i, List.getElem?_cons_succ, List.getElem?_append_right (by rw [List.length_map]; omega), List.length_map, hlen, Nat.sub_self, List.getElem?_append_left (by rw [List.length_replicate]; omega), List.getElem?_replicate, if_pos (by omega)])
      have hfg := hB.st.frozen (1 + i)
      have hix := fun w => idx_bud g i hlt w
      have hw1 := (World.cell?_alloc_lt wr (.map #[] 0) ⟨g, 1 + i, none⟩ hgl).trans hcg
      have hcn : Ch [g] wr ((wr.setCell ⟨g, 1 + i, none⟩ (.map (some wr.heap.size))).alloc (.map #[] 0)) := ((Ch.refl [g] wr).set (p := ⟨g, 1 + i, none⟩) (by simp) _).alloc _
      have hsn := (hB.st.set_ (1 + i) (.map (some wr.heap.size))).alloc (.map #[] 0)
      have hmn2 : MapAt intKeys ((wr.setCell ⟨g, 1 + i, none⟩ (.map (some wr.heap.size))).alloc (.map #[] 0)) wr.heap.size ([] : List (Int × Value)) := by
        have h := MapAt.new (κ := intKeys) (wr.setCell ⟨g, 1 + i, none⟩ (.map (some wr.heap.size)))
        rw [show (wr.setCell ⟨g, 1 + i, none⟩ (.map (some wr.heap.size))).heap.size = wr.heap.size by simp] at h
        exact h
      have hp2 : (2 : Nat) ^ i ≤ 2 ^ 10 := Nat.pow_le_pow_right (by omega) (by omega)
      have hpw : wrap64 ((2 : Int) ^ i) = 2 ^ i := by
        have e : (2 : Int) ^ i = ((2 ^ i : Nat) : Int) := by push_cast; rfl
        rw [e]
        have h1 : (0 : Int) ≤ ((2 ^ i : Nat) : Int) := Int.natCast_nonneg _
        have h2 : ((2 ^ i : Nat) : Int) ≤ ((2 ^ 10 : Nat) : Int) := Int.ofNat_le.2 hp2
        exact wrap64_small (by omega) (Int.le_trans h2 (by decide))
      have hfr : ((wr.alloc (.map #[] 0)).frozen? ⟨g, 1 + i, none⟩) = false := (hB.st.alloc (.map #[] 0)).frozen (1 + i)
      by_cases him : i = m
      · subst him
        obtain ⟨w3, hu, hm3, hc3⟩ := hmn2.run_update uBud kBud 0 (.bool true)
        have hu2 : (Instr.mapUpdate 129 (.map (some wr.heap.size)) (.int .i64 0) (.bool true)).run Tryz.prog ((wr.setCell ⟨g, 1 + i, none⟩ (.map (some wr.heap.size))).alloc (.map #[] 0)) = .ok () w3 := hu
        have hgn : g ≠ wr.heap.size := by omega
        have hc4 : Ch [g] wr w3 := hcn.then_ hc3 (fun q hq => by rw [List.mem_singleton] at hq; subst hq; exact Or.inr (Nat.le_refl _))
        have hst3 := hsn.ch hc3 (by simpa using hgn)
        have hnx := hB.next hlt (l := [0]) (by unfold newL; rw [if_pos rfl]) hst3 (by rw [show mput ([] : List (Int × Value)) 0 (.bool true) = [(0, .bool true)] from mput_nil 0] at hm3; exact hm3) hc4
        have hne : ((2 : Int) ^ i == n) = true := by rw [HN.out]; simp
        have HNX := Lib.hid hnx
        clear hu hm3 hc3 hc4 hst3 hnx hB hmn2 hcn hsn hp2
        go_wp2_with fail
        go_roundw
        case rel => exact ⟨i + 1, _, by omega, by go_num, HNX.out⟩
        case measure => simp [intOf]; omega
      · have hne : ((2 : Int) ^ i == n) = false := by
          rw [HN.out, beq_eq_false_iff_ne]
          intro e
          have e1 : (2 : Nat) ^ i = 2 ^ m := by exact_mod_cast e
          exact him ((Nat.pow_right_inj (by omega)).1 e1)
        have hnx := hB.next hlt (l := []) (by unfold newL; rw [if_neg him]) hsn hmn2 hcn
        have HNX := Lib.hid hnx
        clear hnx hB hmn2 hcn hsn hp2
        go_wp2_with fail
        go_roundw
        case rel => exact ⟨i + 1, _, by omega, by go_num, HNX.out⟩
        case measure => simp [intOf]; omega
    · obtain rfl : i = 11 := by omega
      have hb := hB.fr
      have hst : Blk wr g 132 (.int .i64 n :: (bs.map (fun b => Value.map (some b)) ++ [.map (some w.heap.size)])) := hB.st
      have hfin : BudAt wr g bs w.heap.size n (newL m) := ⟨hB.len, hst, hB.fr, ⟨[], hB.tk⟩, hB.nd⟩
      have HF := Lib.hid hfin; have HLO := Lib.hid hB.lo; have HBE := Lib.hid hB.bel
      clear hb hst hfin hB
      go_wp2_with fail
      go_ret2
      exact ⟨g, bs, w.heap.size, rfl, HF.out, HLO.out, HBE.out⟩
theorem halves_sum : sumL (takeL (newL 2) 2 0 0) 11 = 3 := by decide +kernel
theorem takeL_one (L : Nat → List Int) (kk : Nat) (x : Int) (h : ∀ j, (L j).length ≤ 1) (i : Nat) : (takeL L kk x 0 i).length ≤ 1 := by
  unfold takeL
  split
  · simp
  · split
    · simp
    · exact h i
theorem newL_one (m i : Nat) : (newL m i).length ≤ 1 := by unfold newL; split <;> simp
theorem halves_any (w : World) : Calls Tryz.prog 8 #[] w fun e w' => e = .returned (.bool true) ∧ Below w.heap.size w w' := by
  have hn := bu_new 4 2 (by omega) (by decide) (by omega) (by omega) (by decide +kernel) w
  have HN := Lib.hid hn
  clear hn
  go_enter Tryz.func8, Tryz.ntmps8
  go_wp2_with fail
  refine HN.out.mono ?_; rintro e w1 ⟨g, bs, bt, rfl, hB, hlo, hBe⟩
  have ht := bu_take g bt bs 4 (newL 2) 2 (by omega) (fun j hj => by unfold newL; rw [if_neg (by omega)]) 0 rfl (by omega) (by omega) w1 hB
  have HT := Lib.hid ht; have HLO := Lib.hid hlo; have HB1 := Lib.hid hBe
  clear ht hB hlo hBe HN
  go_wp2_with fail
  refine HT.out.mono ?_; rintro e w2 ⟨rfl, hB2, hC2⟩
  have hf := bu_free g bt bs 4 _ (takeL_one _ 2 0 (newL_one 2)) w2 hB2
  rw [halves_sum] at hf
  have HF := Lib.hid hf
  have HB2 := Lib.hid (bel_ch HB1.out hC2 (fun i hi => HLO.out i (List.mem_cons_of_mem _ hi)))
  clear hf hB2 hC2 HT
  go_wp2_with fail
  refine HF.out.mono ?_; rintro e w3 ⟨rfl, rfl⟩
  go_wp2_with fail
  go_ret
  exact ⟨rfl, HB2.out⟩
end Go.Proofs.YtjdbedoabcbeeaaGreatDoor
