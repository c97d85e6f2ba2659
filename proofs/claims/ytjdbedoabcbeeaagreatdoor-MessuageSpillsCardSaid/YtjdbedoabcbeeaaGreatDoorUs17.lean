/- Parts of the proof: Space, Space2, Policy, Policy2, Book. -/
import Derived.Test.YtjdbedoabcbeeaaGreatDoorUs4
import Derived.Deep.DeepCutAuto
import Derived.Deep.CutBlock
import Derived.Outline
import Derived.Test.YtjdbedoabcbeeaaGreatDoorUs11
import Derived.Test.YtjdbedoabcbeeaaGreatDoorUs10
import Derived.Maps.OwnSet
/- Package space (layer 17): New, Take of runs that lie side by side. -/
namespace Go.Proofs.YtjdbedoabcbeeaaGreatDoor
open Go.RowKit
set_option linter.unusedVariables false
set_option linter.unusedSimpArgs false
attribute [local go_sem] World.cell?_alloc_lt

/-- Runs of these sizes, side by side from a on. -/
def runsV : Nat → List Nat → List Value
  | _, [] => []
  | a, z :: zs => .int .i64 (a : Int) :: .int .i64 (z : Int) :: runsV (a + z) zs
theorem runsV_len : ∀ (Z : List Nat) (a : Nat), (runsV a Z).length = Z.length * 2
  | [], _ => rfl
  | z :: zs, a => by simp only [runsV, List.length_cons, runsV_len zs]; omega
theorem runsV_snoc (n : Nat) : ∀ (Z : List Nat) (a : Nat), runsV a (Z ++ [n]) = runsV a Z ++ [.int .i64 ((a + Z.sum : Nat) : Int), .int .i64 (n : Int)]
  | [], a => by simp [runsV]
  | z :: zs, a => by
    simp only [List.cons_append, runsV, runsV_snoc n zs, List.sum_cons]
    rw [Nat.add_assoc]
theorem runsV_at : ∀ (Z : List Nat) (a k z : Nat), Z[k]? = some z → (runsV a Z)[k * 2]? = some (.int .i64 ((a + (Z.take k).sum : Nat) : Int)) ∧ (runsV a Z)[k * 2 + 1]? = some (.int .i64 (z : Int))
  | [], _, _, _, h => by simp at h
  | y :: ys, a, 0, z, h => by
    simp at h
    subst h
    simp [runsV]
  | y :: ys, a, k + 1, z, h => by
    have ih := runsV_at ys (a + y) k z (by simpa using h)
    have e1 : (k + 1) * 2 = k * 2 + 1 + 1 := by omega
    rw [e1]
    simp only [runsV, List.getElem?_cons_succ, List.take_succ_cons, List.sum_cons]
    rw [← Nat.add_assoc]
    exact ih
theorem take_sum (Z : List Nat) {k z : Nat} (h : Z[k]? = some z) : (Z.take (k + 1)).sum = (Z.take k).sum + z := by
  rw [List.take_add_one, h]
  simp
theorem take_sum_le (Z : List Nat) (k : Nat) : (Z.take k).sum ≤ Z.sum := by
  have : Z.sum = (Z.take k).sum + (Z.drop k).sum := by rw [← List.sum_append, List.take_append_drop]
  omega
structure SpAt (w : World) (base s : Nat) (A : Option Addr) (c : Nat) (Z : List Nat) : Prop where
  st : Blk w s 109 [.slice A Z.length c]
  row : w.ownsRow base 179 2 (.slice A Z.length c) Z.length (runsV 1 Z)
section
variable {w w' : World} {base s c : Nat} {A : Option Addr} {Z : List Nat}
def spFoot (s : Nat) (A : Option Addr) : List Nat := s :: (A.map (·.block)).toList
theorem rowBlk_mem {A : Option Addr} {n c q : Nat} (hq : (Value.slice A n c).ownBlock = some q) : q ∈ (A.map (·.block)).toList := by
  cases A with
  | none => cases hq
  | some a =>
    have : (Value.slice (some a) n c).ownBlock = some a.block := rfl
    rw [this] at hq
    injection hq with hq
    subst hq
    simp
theorem SpAt.ch {S : List Nat} (H : SpAt w base s A c Z) (k : Ch S w w') (hS : ∀ x ∈ S, x ∉ spFoot s A) : SpAt w' base s A c Z :=
  ⟨H.st.ch k (fun hx => hS s hx (by simp [spFoot])), own_chV H.row k (fun q hq hx => hS q hx (List.mem_cons_of_mem _ (rowBlk_mem hq)))⟩
theorem SpAt.below (H : SpAt w base s A c Z) (k : Below w.heap.size w w') : SpAt w' base s A c Z := H.ch (Ch.below k []) (by simp)
theorem SpAt.lt (H : SpAt w base s A c Z) : ∀ x ∈ spFoot s A, x < w.heap.size := by
  intro x hx
  rcases List.mem_cons.1 hx with rfl | hx
  · exact H.st.lt
  · cases hA : A with
    | none => rw [hA] at hx; simp at hx
    | some a =>
      rw [hA] at hx
      simp at hx
      subst hx
      have hr := H.row
      rw [hA] at hr
      exact (hr.lt a.block rfl).2
end
theorem sp_new (w : World) : Calls Tryz.prog 19 #[] w fun e w' => ∃ s, e = .returned (.pointer (some ⟨s, 0, none⟩)) ∧ SpAt w' w.heap.size s none 0 [] ∧ w.heap.size ≤ s ∧ Below w.heap.size w w' := by
  go_enter Tryz.func19, Tryz.ntmps19
  go_wp2_with fail
  go_ret
  exact ⟨w.heap.size, rfl, ⟨Blk.new w 109 [.slice none 0 0], World.ownsRow_nil _ _ _ _⟩, Nat.le_refl _, bel_alloc (Below.refl _ _) _⟩
theorem info_run : (Tryz.prog.info? 179).map (fun i => (i.zero, i.size, i.bytes)) = some (some (.agg #[.int .i64 0, .int .i64 0]), 2, 16) := by kernel_rfl
theorem cut_end_run (A : Option Addr) (m c : Nat) (h : m ≤ c) : ∃ A', ∀ w, (Instr.sliceAt 107 (.slice A m c) (some (.int .i64 (m : Int))) none none).run Tryz.prog w = .ok (.slice A' 0 (c - m)) w := by
  cases A with
  | none => exact ⟨none, fun w => by simp [go_sem, h]⟩
  | some a =>
    by_cases hc : c = m
    · exact ⟨_, fun w => by simp [go_sem, h, hc]; rfl⟩
    · exact ⟨_, fun w => by simp [go_sem, h, hc]; rfl⟩
end Go.Proofs.YtjdbedoabcbeeaaGreatDoor
/- Package space: slices.Insert at the end, Take. -/
namespace Go.Proofs.YtjdbedoabcbeeaaGreatDoor
open Go.RowKit
set_option linter.unusedVariables false
set_option linter.unusedSimpArgs false
attribute [local go_sem] World.cell?_alloc_lt

set_option maxRecDepth 100000 in
theorem ins_end (A : Option Addr) (c m : Nat) (xs : List Value) (base : Nat) (B : Nat) (x y : Int) (w : World) (hm : m ≤ 1000) (hown : w.ownsRow base 179 2 (.slice A m c) m xs) (hb : base ≤ w.heap.size) (hB : Blk w B 179 [.int .i64 x, .int .i64 y]) :
    Calls Tryz.prog 83 #[.slice A m c, .int .i64 (m : Int), .slice (some ⟨B, 0, none⟩) 1 1] w fun e w' => ∃ g cp, e = .returned (.slice (some ⟨g, 0, none⟩) (m + 1) cp) ∧ w'.ownsRow base 179 2 (.slice (some ⟨g, 0, none⟩) (m + 1) cp) (m + 1) (xs ++ [.int .i64 x, .int .i64 y]) ∧ w.grownBy w' (Value.slice A m c).ownBlock ∧ ((Value.slice A m c).ownBlock = some g ∨ g = w.heap.size) := by
  have hmc : m ≤ c := by
    obtain ⟨_, h⟩ := hown
    rcases h with h | ⟨b, cap, cells, hv, h1, h2, h3, h4⟩
    · cases h.1
      omega
    · cases hv
      omega
  obtain ⟨A', hcut⟩ := cut_end_run A m c hmc
  have HO := Lib.hid hown; have HB := Lib.hid hB; have HBS := Lib.hid hb
  clear hown hB hb
  go_enter Tryz.func83, Tryz.ntmps83
  go_wp2_with (at_builtin; refine wpList_pushesN _ rfl (.tmp 23) (.tmp 24) 107 rfl base 179 _ 2 16 Tryz.underlying107 info_run rfl (by omega) A m c xs rfl HO.out B 0 1 1 [.int .i64 x, .int .i64 y] rfl rfl (fun j u hj => by rw [Nat.zero_add]; exact HB.out.at_ hj) (fun u hu => by simp at hu; rcases hu with rfl | rfl <;> rfl) (by omega) (by omega) (by omega) HBS.out ?_)
  intro gg cp w5 hown5 hgr5 hor5
  have HW5 := Lib.hid hown5; have HG5 := Lib.hid hgr5; have HR5 := Lib.hid hor5
  clear hown5 hgr5 hor5 HO HB
  go_wp2_with fail
  go_ret
  exact ⟨gg, cp, rfl, HW5.out, HG5.out, HR5.out⟩
theorem idx_run (b n c i : Nat) (hi : i < n) (w : World) : (Instr.indexAt 107 (.slice (some ⟨b, 0, none⟩) n c) (.int .i64 (i : Int))).run Tryz.prog w = .ok (.pointer (some ⟨b, i * 2, none⟩)) w := by
  simp [go_sem, hi]
theorem SpAt.run {w : World} {base s c : Nat} {A : Option Addr} {Z : List Nat} (H : SpAt w base s A c Z) {k z : Nat} (hk : Z[k]? = some z) : ∃ g, A = some ⟨g, 0, none⟩ ∧ w.cell? ⟨g, k * 2, none⟩ = some (.int .i64 ((1 + (Z.take k).sum : Nat) : Int)) ∧ w.cell? ⟨g, k * 2 + 1, none⟩ = some (.int .i64 (z : Int)) := by
  have hlt := (List.getElem?_eq_some_iff.1 hk).1
  obtain ⟨g, cap, hv, hb, _⟩ := H.row.form (by omega)
  injection hv with hA _ _
  subst hA
  have hc := runsV_at Z 1 k z hk
  have h1 := H.row.cells (g := g) rfl (k * 2) _ hc.1
  have h2 := H.row.cells (g := g) rfl (k * 2 + 1) _ hc.2
  rw [WideShapes.add_plain, Nat.zero_add] at h1 h2
  exact ⟨g, rfl, h1, h2⟩
set_option maxRecDepth 100000 in
set_option maxHeartbeats 1000000 in
theorem sp_take (base s c n : Nat) (A : Option Addr) (Z : List Nat) (hn1 : 1 ≤ n) (hn2 : n ≤ 1000) (hsum : 1 + Z.sum + n ≤ 4096) (hZ : Z.length ≤ 900) (w : World) (hb : base ≤ w.heap.size) (H : SpAt w base s A c Z) :
    Calls Tryz.prog 60 #[.pointer (some ⟨s, 0, none⟩), .int .i64 (n : Int)] w fun e w' => ∃ A' c', e = .returned (.tuple #[.int .i64 ((1 + Z.sum : Nat) : Int), .int .i64 0]) ∧ SpAt w' base s A' c' (Z ++ [n]) ∧ Ch (spFoot s A) w w' ∧ (∀ x ∈ spFoot s A', x ∈ spFoot s A ∨ w.heap.size ≤ x) := by
  have h0 := H.st.at_ (i := 0) rfl
  have HH := Lib.hid H; have HB := Lib.hid hb
  clear H hb
  have e1 : ((n : Int) < 1) = False := by simp; omega
  have e2 : ((4095 : Int) < (n : Int)) = False := by simp; omega
  go_enter Tryz.func60, Tryz.ntmps60
  go_wp2_with fail
  clear e1 e2
  go_loopw [6, 7] (fun v6 v7 wr => ∃ k : Nat, k ≤ Z.length ∧ v6 = .int .i64 ((1 + (Z.take k).sum : Nat) : Int) ∧ v7 = .int .i64 (k : Int) ∧ Below w.heap.size w wr) (fun _ v _ => Z.length - (intOf v).toNat)
  case atStart => exact ⟨0, by omega, by simp, rfl, Below.refl _ _⟩
  case round =>
    clear h0
    obtain ⟨k, hk, rfl, rfl, hBr⟩ := hrel
    have hbr := Nat.le_trans HB.out hBr.size
    have hHr := HH.out.below hBr
    have hCr := Ch.below hBr (spFoot s A)
    have h0 := hHr.st.at_ (i := 0) rfl
    have hwr := hBr.size
    have HBR := Lib.hid hBr; have HHR := Lib.hid hHr; have HCR := Lib.hid hCr; have HB2 := Lib.hid hbr
    clear hBr hHr hCr hbr HH HB
    by_cases hlt : k < Z.length
    · obtain ⟨z, hz⟩ : ∃ z, Z[k]? = some z := ⟨_, List.getElem?_eq_getElem hlt⟩
      obtain ⟨g, rfl, hc0, hc1⟩ := HHR.out.run hz
      have hix := fun w => idx_run g Z.length c k hlt w
      have hts := take_sum Z hz
      have htl := take_sum_le Z (k + 1)
      have HTS := Lib.hid hts
      rw [hts] at htl
      clear hts
      generalize (Z.take k).sum = S at *
      have hsub : IntKind.i64.wrap (((1 + S : Nat) : Int) - ((1 + S : Nat) : Int)) = 0 := by rw [Int.sub_self]; rfl
      go_wp2_with fail
      go_quiet (fail)
      go_wp2_with fail
      go_roundw
      case rel => exact ⟨k + 1, by omega, by rw [HTS.out]; go_num, by go_num, by first | exact HBR.out | exact bel_drewN HBR.out _⟩
      case measure => simp [intOf]; omega
    · obtain rfl : k = Z.length := by omega
      have hfull : (Z.take Z.length).sum = Z.sum := by rw [List.take_length]
      rw [hfull]
      clear hfull
      go_wp2_with fail
      have HBL := Lib.hid (Blk.new wr 179 [.int .i64 (1 + (Z.sum : Int)), .int .i64 (n : Int)])
      have hB0 := bel_alloc (Below.refl wr.heap.size wr) (.cells #[.int .i64 (1 + (Z.sum : Int)), .int .i64 (n : Int)] 179)
      have hH2 := HHR.out.below hB0
      have hin := ins_end A c Z.length (runsV 1 Z) base wr.heap.size (1 + (Z.sum : Int)) (n : Int) (wr.alloc (.cells #[.int .i64 (1 + (Z.sum : Int)), .int .i64 (n : Int)] 179)) (by omega) hH2.row (Nat.le_trans HB2.out hB0.size) HBL.out
      refine hin.mono ?_; rintro e w1 ⟨g, cp, rfl, hown, hgr, hor⟩
      have hc1 : Ch (Value.slice A Z.length c).ownBlock.toList (wr.alloc (.cells #[.int .i64 (1 + (Z.sum : Int)), .int .i64 (n : Int)] 179)) w1 := ch_grown hgr (fun q hq => by rw [hq]; simp)
      have hst1 : Blk w1 s 109 [.slice A Z.length c] := hH2.st.ch hc1 (fun hx => own_neV hH2.row hH2.st (by decide) (Option.mem_toList.1 hx))
      have hC : Ch (spFoot s A) w w1 := (HCR.out.alloc (.cells #[.int .i64 (1 + (Z.sum : Int)), .int .i64 (n : Int)] 179)).trans (hc1.mono (fun x hx => List.mem_cons_of_mem _ (rowBlk_mem (Option.mem_toList.1 hx))))
      have hgs : g ≠ s := by
        rintro rfl
        obtain ⟨g2, cap2, hv, hb2, hh, _⟩ : ∃ g2 cap2, (Value.slice (some ⟨g, 0, none⟩) (Z.length + 1) cp) = .slice (some ⟨g2, 0, none⟩) (Z.length + 1) cap2 ∧ base ≤ g2 ∧ (∃ cur, w1.heap[g2]? = some (.cells cur 179 (0, 0))) ∧ True := by
          obtain ⟨_, h⟩ := hown
          rcases h with h | ⟨g2, cap2, cur, hv, h1, h2, _⟩
          · cases h.1
          · exact ⟨g2, cap2, hv, h1, ⟨cur, h2⟩, trivial⟩
        cases hv
        obtain ⟨cur, hh⟩ := hh
        have h9 := hst1
        unfold Blk at h9
        rw [hh] at h9
        injection h9 with h9
        injection h9 with _ h9 _
        exact absurd h9 (by decide)
      have hm0 := hst1.at_ (i := 0) rfl
      have hf0 := hst1.frozen 0
      have HFT : Hid (∀ x ∈ spFoot s (some ⟨g, 0, none⟩), x ∈ spFoot s A ∨ w.heap.size ≤ x) := Lib.hid (by
        intro x hx
        rcases List.mem_cons.1 hx with rfl | hx
        · exact Or.inl (by simp [spFoot])
        · simp at hx
          subst hx
          rcases hor with h | h
          · exact Or.inl (List.mem_cons_of_mem _ (rowBlk_mem h))
          · rw [h]
            exact Or.inr (by simp; omega))
      have HOW := Lib.hid (own_chV hown ((Ch.refl [s] w1).set (p := ⟨s, 0, none⟩) (by simp) (.slice (some ⟨g, 0, none⟩) (Z.length + 1) cp)) (fun q hq => by cases hq; simpa using hgs))
      have HST := Lib.hid (hst1.set_ 0 (.slice (some ⟨g, 0, none⟩) (Z.length + 1) cp))
      have HC := Lib.hid (hC.set (p := ⟨s, 0, none⟩) (by simp [spFoot]) (.slice (some ⟨g, 0, none⟩) (Z.length + 1) cp))
      clear hin hown hgr hst1 hC HBL hB0 hH2 HHR h0 hc1 HBR HCR
      go_wp2_with fail
      go_ret2
      refine ⟨some ⟨g, 0, none⟩, cp, by push_cast; rfl, ⟨?_, ?_⟩, HC.out, HFT.out⟩
      · rw [List.length_append, List.length_singleton]
        exact HST.out
      · rw [List.length_append, List.length_singleton, runsV_snoc]
        have := HOW.out
        push_cast
        exact this
end Go.Proofs.YtjdbedoabcbeeaaGreatDoor
/- Package policy (layer 10). -/
namespace Go.Proofs.YtjdbedoabcbeeaaGreatDoor
open Go.RowKit
set_option linter.unusedVariables false
set_option linter.unusedSimpArgs false
attribute [local go_sem] World.cell?_alloc_lt

def pol (m : Int) (s : Nat) (n : Int) : Value := .agg #[.int .i64 m, .int .u8 s, .int .i64 n]
/-- What sets answers; what Check answers. -/
def setsE (s : Nat) (k : Int) : Int := if s = 0 then 1 else if s / 2 ^ k.toNat = 0 then 0 else 10
def chk (m : Int) (s : Nat) (n k : Int) : Int :=
  if k < 1 ∨ 8 < k then 3 else if m = 0 then 0 else if m = 1 ∨ m = 2 then setsE s k else if m = 3 then (if n < 0 ∨ k ≤ n then 10 else 0) else 1
theorem out_eq : ∀ t : Nat, t < 256 → ∀ i : Nat, i < 9 → (bits BinOp.andNot IntKind.u8 (t : Int) (allN i : Int) == 0) = decide (t / 2 ^ i = 0) := by decide +kernel
theorem allN_wf (i : Nat) (h : i < 9) : allN i < 256 := by revert i; decide
theorem sets_at (s : Nat) (hs : s < 256) (k : Int) (h0 : 0 ≤ k) (h8 : k ≤ 8) (w : World) : Calls Tryz.prog 53 #[.int .u8 s, .int .i64 k] w fun e w' => e = .returned (.int .i64 (setsE s k)) ∧ w = w' := by
  obtain ⟨i, rfl⟩ := Int.eq_ofNat_of_zero_le h0
  have ha := all_at i h0 h8
  have ho := out_eq s hs i (by omega)
  have HA := Lib.hid ha; clear ha
  by_cases h : s = 0
  · subst h
    have e : setsE 0 i = 1 := rfl
    rw [e]
    clear ho
    generalize allN i = al at *
    go_enter Tryz.func53, Tryz.ntmps53
    go_wp2_with fail
    refine (HA.out w).mono ?_; rintro e w1 ⟨rfl, rfl⟩
    go_wp2
    go_ret
    exact ⟨rfl, rfl⟩
  · have hsf : ((s : Int) == 0) = false := by rw [beq_eq_false_iff_ne]; omega
    by_cases h2 : s / 2 ^ i = 0
    · have e : setsE s i = 0 := by unfold setsE; rw [if_neg h, Int.toNat_natCast, if_pos h2]
      rw [e]
      rw [decide_eq_true h2] at ho
      clear h2 e
      have hbne : (!(bits BinOp.andNot IntKind.u8 (s : Int) (allN i : Int) == 0)) = false := by rw [ho]; rfl
      generalize allN i = al at *
      go_enter Tryz.func53, Tryz.ntmps53
      go_wp2_with fail
      refine (HA.out w).mono ?_; rintro e w1 ⟨rfl, rfl⟩
      go_wp2_with fail
      go_ret
      exact ⟨rfl, rfl⟩
    · have e : setsE s i = 10 := by unfold setsE; rw [if_neg h, Int.toNat_natCast, if_neg h2]
      rw [e]
      rw [decide_eq_false h2] at ho
      clear h2 e
      have hbne : (!(bits BinOp.andNot IntKind.u8 (s : Int) (allN i : Int) == 0)) = true := by rw [ho]; rfl
      generalize allN i = al at *
      go_enter Tryz.func53, Tryz.ntmps53
      go_wp2_with fail
      refine (HA.out w).mono ?_; rintro e w1 ⟨rfl, rfl⟩
      go_wp2_with fail
      go_ret
      exact ⟨rfl, rfl⟩
theorem check_at (m : Int) (s : Nat) (hs : s < 256) (n k : Int) (w : World) : Calls Tryz.prog 28 #[pol m s n, .int .i64 k] w fun e w' => e = .returned (.int .i64 (chk m s n k)) ∧ Below w.heap.size w w' := by
  unfold pol
  by_cases h1 : k < 1
  · have e : chk m s n k = 3 := by unfold chk; rw [if_pos (Or.inl h1)]
    rw [e]
    go_enter Tryz.func28, Tryz.ntmps28
    go_wp2_with fail
    go_ret
    exact ⟨rfl, (by repeat (first | exact Below.refl _ _ | assumption | with_reducible refine bel_alloc ?_ _ | with_reducible refine bel_drewN ?_ _ | with_reducible refine bel_drew ?_))⟩
  by_cases h2 : 8 < k
  · have e : chk m s n k = 3 := by unfold chk; rw [if_pos (Or.inr h2)]
    rw [e]
    go_enter Tryz.func28, Tryz.ntmps28
    go_wp2_with fail
    go_ret
    exact ⟨rfl, (by repeat (first | exact Below.refl _ _ | assumption | with_reducible refine bel_alloc ?_ _ | with_reducible refine bel_drewN ?_ _ | with_reducible refine bel_drew ?_))⟩
  have e : chk m s n k = if m = 0 then 0 else if m = 1 ∨ m = 2 then setsE s k else if m = 3 then (if n < 0 ∨ k ≤ n then 10 else 0) else 1 := by
    unfold chk; rw [if_neg (by omega)]
  rw [e]; clear e
  by_cases m0 : m = 0
  · subst m0
    rw [if_pos rfl]
    go_enter Tryz.func28, Tryz.ntmps28
    go_wp2_with fail
    go_ret
    exact ⟨rfl, (by repeat (first | exact Below.refl _ _ | assumption | with_reducible refine bel_alloc ?_ _ | with_reducible refine bel_drewN ?_ _ | with_reducible refine bel_drew ?_))⟩
  rw [if_neg m0]
  have b0 : (m == 0) = false := by rw [beq_eq_false_iff_ne]; exact m0
  by_cases m1 : m = 1
  · subst m1
    rw [if_pos (Or.inl rfl)]
    go_enter Tryz.func28, Tryz.ntmps28
    go_wp2_with fail
    refine (sets_at s hs k (by omega) (by omega) _).mono ?_; rintro e w1 ⟨rfl, rfl⟩
    go_wp2_with fail
    go_ret
    exact ⟨rfl, (by repeat (first | exact Below.refl _ _ | assumption | with_reducible refine bel_alloc ?_ _ | with_reducible refine bel_drewN ?_ _ | with_reducible refine bel_drew ?_))⟩
  have b1 : (m == 1) = false := by rw [beq_eq_false_iff_ne]; exact m1
  by_cases m2 : m = 2
  · subst m2
    rw [if_pos (Or.inr rfl)]
    go_enter Tryz.func28, Tryz.ntmps28
    go_wp2_with fail
    refine (sets_at s hs k (by omega) (by omega) _).mono ?_; rintro e w1 ⟨rfl, rfl⟩
    go_wp2_with fail
    go_ret
    exact ⟨rfl, (by repeat (first | exact Below.refl _ _ | assumption | with_reducible refine bel_alloc ?_ _ | with_reducible refine bel_drewN ?_ _ | with_reducible refine bel_drew ?_))⟩
  rw [if_neg (by omega)]
  have b2 : (m == 2) = false := by rw [beq_eq_false_iff_ne]; exact m2
  by_cases m3 : m = 3
  · subst m3
    rw [if_pos rfl]
    by_cases n0 : n < 0
    · rw [if_pos (Or.inl n0)]
      go_enter Tryz.func28, Tryz.ntmps28
      go_wp2_with fail
      go_ret
      exact ⟨rfl, (by repeat (first | exact Below.refl _ _ | assumption | with_reducible refine bel_alloc ?_ _ | with_reducible refine bel_drewN ?_ _ | with_reducible refine bel_drew ?_))⟩
    · by_cases n1 : k ≤ n
      · rw [if_pos (Or.inr n1)]
        go_enter Tryz.func28, Tryz.ntmps28
        go_wp2_with fail
        go_ret
        exact ⟨rfl, (by repeat (first | exact Below.refl _ _ | assumption | with_reducible refine bel_alloc ?_ _ | with_reducible refine bel_drewN ?_ _ | with_reducible refine bel_drew ?_))⟩
      · rw [if_neg (by omega)]
        go_enter Tryz.func28, Tryz.ntmps28
        go_wp2_with fail
        go_ret
        exact ⟨rfl, (by repeat (first | exact Below.refl _ _ | assumption | with_reducible refine bel_alloc ?_ _ | with_reducible refine bel_drewN ?_ _ | with_reducible refine bel_drew ?_))⟩
  rw [if_neg m3]
  have b3 : (m == 3) = false := by rw [beq_eq_false_iff_ne]; exact m3
  clear m0 m1 m2 m3
  go_enter Tryz.func28, Tryz.ntmps28
  go_wp2_with fail
  go_ret
  exact ⟨rfl, (by repeat (first | exact Below.refl _ _ | assumption | with_reducible refine bel_alloc ?_ _ | with_reducible refine bel_drewN ?_ _ | with_reducible refine bel_drew ?_))⟩
end Go.Proofs.YtjdbedoabcbeeaaGreatDoor
/- Package policy (layer 10): Permitted, Start. -/
namespace Go.Proofs.YtjdbedoabcbeeaaGreatDoor
open Go.RowKit
set_option linter.unusedVariables false
set_option linter.unusedSimpArgs false
attribute [local go_sem] World.cell?_alloc_lt

def permN (m : Int) (s : Nat) (k : Int) : Nat := if m = 1 then s else allN k
theorem chk_zero {m : Int} {s : Nat} {n k : Int} (h : chk m s n k = 0) : 1 ≤ k ∧ k ≤ 8 ∧ 0 ≤ m ∧ m ≤ 3 := by
  unfold chk at h
  split at h
  · cases h
  · split at h
    · omega
    · split at h
      · omega
      · split at h
        · omega
        · cases h
theorem chk_set {m : Int} {s : Nat} {n k : Int} (h : chk m s n k = 0) (hm : m = 1 ∨ m = 2) : 0 < s := by
  unfold chk at h
  split at h
  · cases h
  · split at h
    · omega
    · unfold setsE at h
      split at h
      · cases h
      · omega
theorem chk_rng (m : Int) (s : Nat) (n k : Int) : 0 ≤ chk m s n k ∧ chk m s n k ≤ 10 := by
  unfold chk setsE
  repeat' split
  all_goals omega
theorem perm_no (m : Int) (s : Nat) (hs : s < 256) (n k : Int) (h : chk m s n k ≠ 0) (w : World) : Calls Tryz.prog 98 #[pol m s n, .int .i64 k] w fun e w' => e = .returned (.tuple #[.int .u8 0, .int .i64 (chk m s n k)]) ∧ Below w.heap.size w w' := by
  have hc := check_at m s hs n k
  have HC := Lib.hid hc; clear hc
  have hne : (chk m s n k != 0) = true := by simp [h]
  clear h
  unfold pol at *
  generalize hcc : chk m s n k = c at *
  go_enter Tryz.func98, Tryz.ntmps98
  go_wp2_with fail
  refine (HC.out _).mono ?_; rintro e w1 ⟨rfl, hb⟩
  have hb := bel_trans (bel_alloc (Below.refl _ w) _) hb
  go_wp2
  go_ret2
  exact ⟨rfl, hb⟩
theorem perm_yes (m : Int) (s : Nat) (hs : s < 256) (n k : Int) (h : chk m s n k = 0) (w : World) : Calls Tryz.prog 98 #[pol m s n, .int .i64 k] w fun e w' => e = .returned (.tuple #[.int .u8 (permN m s k), .int .i64 0]) ∧ Below w.heap.size w w' := by
  have hc := check_at m s hs n k
  obtain ⟨k1, k8, m0, m3⟩ := chk_zero h
  rw [h] at hc
  have HC := Lib.hid hc; clear hc h
  by_cases h1 : m = 1
  · subst h1
    have e : permN 1 s k = s := rfl
    rw [e]
    unfold pol at *
    go_enter Tryz.func98, Tryz.ntmps98
    go_wp2_with fail
    refine (HC.out _).mono ?_; rintro e w1 ⟨rfl, hb⟩
    have kc := fun i => (hb.cell (p := ⟨w.heap.size, i, none⟩) (by simp)).trans (World.cell?_alloc_new w _ _ i)
    have k0 := kc 0; have k1 := kc 1; have k2 := kc 2
    simp at k0 k1 k2
    clear kc
    have hb := bel_trans (bel_alloc (Below.refl _ w) _) hb
    go_wp2
    go_ret2
    exact ⟨rfl, hb⟩
  · have e : permN m s k = allN k := by unfold permN; rw [if_neg h1]
    rw [e]
    have b1 : (m == 1) = false := by rw [beq_eq_false_iff_ne]; exact h1
    clear h1
    unfold pol at *
    go_enter Tryz.func98, Tryz.ntmps98
    go_wp2_with fail
    refine (HC.out _).mono ?_; rintro e w1 ⟨rfl, hb⟩
    have kc := fun i => (hb.cell (p := ⟨w.heap.size, i, none⟩) (by simp)).trans (World.cell?_alloc_new w _ _ i)
    have k0 := kc 0
    simp at k0
    clear kc
    have hb := bel_trans (bel_alloc (Below.refl _ w) _) hb
    go_wp2_with fail
    refine (all_at k (by omega) (by omega) _).mono ?_; rintro e w2 ⟨rfl, rfl⟩
    go_wp2
    go_ret2
    exact ⟨rfl, hb⟩
theorem start_no (m : Int) (s : Nat) (hs : s < 256) (n k own cur : Int) (h : chk m s n k ≠ 0) (w : World) : Calls Tryz.prog 141 #[pol m s n, .int .i64 k, .int .i64 own, .int .i64 cur] w fun e w' => e = .returned (.tuple #[.int .i64 0, .int .i64 0, .int .i64 (chk m s n k)]) ∧ Below w.heap.size w w' := by
  have hc := check_at m s hs n k
  have HC := Lib.hid hc; clear hc
  have hne : (chk m s n k != 0) = true := by simp [h]
  clear h
  unfold pol at *
  generalize hcc : chk m s n k = c at *
  go_enter Tryz.func141, Tryz.ntmps141
  go_wp2_with fail
  refine (HC.out _).mono ?_; rintro e w1 ⟨rfl, hb⟩
  have hb := bel_trans (bel_alloc (Below.refl _ w) _) hb
  go_wp2
  go_ret3
  exact ⟨rfl, hb⟩
theorem start_own (m : Int) (s : Nat) (hs : s < 256) (n k own cur : Int) (h : chk m s n k = 0) (ho : own < 0 ∨ k ≤ own) (w : World) : Calls Tryz.prog 141 #[pol m s n, .int .i64 k, .int .i64 own, .int .i64 cur] w fun e w' => e = .returned (.tuple #[.int .i64 0, .int .i64 0, .int .i64 10]) ∧ Below w.heap.size w w' := by
  have hc := check_at m s hs n k
  obtain ⟨k1, k8, m0, m3⟩ := chk_zero h
  rw [h] at hc
  have HC := Lib.hid hc; clear hc h
  unfold pol at *
  rcases (by omega : own < 0 ∨ (0 ≤ own ∧ k ≤ own)) with ho | ⟨ho, ho2⟩
  all_goals
    go_enter Tryz.func141, Tryz.ntmps141
    go_wp2_with fail
    refine (HC.out _).mono ?_; rintro e w1 ⟨rfl, hb⟩
    have hb := bel_trans (bel_alloc (Below.refl _ w) _) hb
    go_wp2
    go_ret3
    exact ⟨rfl, hb⟩
def startN (m : Int) (s : Nat) (n own cur : Int) : Int × Int := if m = 2 then ((nextN s cur : Int), (nextN s cur : Int)) else if m = 3 then (n, cur) else (own, cur)
theorem start_yes (m : Int) (s : Nat) (hs : s < 256) (n k own cur : Int) (h : chk m s n k = 0) (ho : 0 ≤ own) (hk : own < k) (w : World) : Calls Tryz.prog 141 #[pol m s n, .int .i64 k, .int .i64 own, .int .i64 cur] w fun e w' => e = .returned (.tuple #[.int .i64 (startN m s n own cur).1, .int .i64 (startN m s n own cur).2, .int .i64 0]) ∧ Below w.heap.size w w' := by
  have hc := check_at m s hs n k
  obtain ⟨k1, k8, m0, m3⟩ := chk_zero h
  have hset := chk_set h
  rw [h] at hc
  have HC := Lib.hid hc; clear hc h
  by_cases h2 : m = 2
  · subst h2
    have hn := next_at s hs (hset (Or.inr rfl)) cur
    have HN := Lib.hid hn; clear hn hset
    have e : startN 2 s n own cur = ((nextN s cur : Int), (nextN s cur : Int)) := rfl
    rw [e]
    unfold pol at *
    go_enter Tryz.func141, Tryz.ntmps141
    go_wp2_with fail
    refine (HC.out _).mono ?_; rintro e w1 ⟨rfl, hb⟩
    have kc := fun i => (hb.cell (p := ⟨w.heap.size, i, none⟩) (by simp)).trans (World.cell?_alloc_new w _ _ i)
    have q0 := kc 0; have q1 := kc 1; have q2 := kc 2
    simp at q0 q1 q2
    clear kc
    have hb := bel_trans (bel_alloc (Below.refl _ w) _) hb
    go_wp2_with fail
    refine (HN.out _).mono ?_; rintro e w2 ⟨rfl, hb2⟩
    have hb := bel_trans hb hb2
    go_wp2
    go_ret3
    exact ⟨rfl, hb⟩
  clear hset
  by_cases h3 : m = 3
  · subst h3
    have e : startN 3 s n own cur = (n, cur) := rfl
    rw [e]
    unfold pol at *
    go_enter Tryz.func141, Tryz.ntmps141
    go_wp2_with fail
    refine (HC.out _).mono ?_; rintro e w1 ⟨rfl, hb⟩
    have kc := fun i => (hb.cell (p := ⟨w.heap.size, i, none⟩) (by simp)).trans (World.cell?_alloc_new w _ _ i)
    have q0 := kc 0; have q1 := kc 1; have q2 := kc 2
    simp at q0 q1 q2
    clear kc
    have hb := bel_trans (bel_alloc (Below.refl _ w) _) hb
    go_wp2
    go_ret3
    exact ⟨rfl, hb⟩
  · have e : startN m s n own cur = (own, cur) := by unfold startN; rw [if_neg h2, if_neg h3]
    rw [e]
    have b2 : (m == 2) = false := by rw [beq_eq_false_iff_ne]; exact h2
    have b3 : (m == 3) = false := by rw [beq_eq_false_iff_ne]; exact h3
    clear h2 h3
    unfold pol at *
    go_enter Tryz.func141, Tryz.ntmps141
    go_wp2_with fail
    refine (HC.out _).mono ?_; rintro e w1 ⟨rfl, hb⟩
    have kc := fun i => (hb.cell (p := ⟨w.heap.size, i, none⟩) (by simp)).trans (World.cell?_alloc_new w _ _ i)
    have q0 := kc 0; have q1 := kc 1; have q2 := kc 2
    simp at q0 q1 q2
    clear kc
    have hb := bel_trans (bel_alloc (Below.refl _ w) _) hb
    go_wp2
    go_ret3
    exact ⟨rfl, hb⟩
end Go.Proofs.YtjdbedoabcbeeaaGreatDoor
/- Package bind (layer 18): a book of policies. -/
namespace Go.Proofs.YtjdbedoabcbeeaaGreatDoor
open Go.RowKit
set_option linter.unusedVariables false
set_option linter.unusedSimpArgs false
attribute [local go_sem] World.cell?_alloc_lt

abbrev Pol := Int × Nat × Int
def polv (x : Pol) : Value := .agg #[.int .i64 x.1, .int .u8 x.2.1, .int .i64 x.2.2]
/-- A book: on k nodes, page p has f p. -/
structure BookAt (w : World) (g b : Nat) (k : Int) (f : Int → Option Pol) : Prop where
  st : Blk w g 161 [.int .i64 k, .map (some b)]
  mp : ∃ m : List (Int × Value), MapAt intKeys w b m ∧ ∀ p, mget m p = (f p).map polv
  ne_ : g ≠ b
section
variable {w w' : World} {g b : Nat} {k : Int} {f : Int → Option Pol}
theorem BookAt.ch {S : List Nat} (h : BookAt w g b k f) (c : Ch S w w') (h1 : g ∉ S) (h2 : b ∉ S) : BookAt w' g b k f := by
  obtain ⟨m, hm, hf⟩ := h.mp
  exact ⟨h.st.ch c h1, ⟨m, hm.ch c h2, hf⟩, h.ne_⟩
theorem BookAt.below (h : BookAt w g b k f) (c : Below w.heap.size w w') : BookAt w' g b k f := h.ch (Ch.below c []) (by simp) (by simp)
end
theorem zPol (w : World) : (zeroValue 38).run Tryz.prog w = .ok (.agg #[.int .i64 0, .int .u8 0, .int .i64 0]) w := by kernel_rfl
theorem uPol : Tryz.prog.underlying 159 = some (.map 3 38) := Tryz.underlying159
theorem kPol : Tryz.prog.underlying 3 = some (intKeys).kind := Tryz.underlying3

theorem bnew (k : Int) (h1 : 1 ≤ k) (h8 : k ≤ 8) (w : World) : Calls Tryz.prog 46 #[.int .i64 k] w fun e w' => ∃ g b, e = .returned (.tuple #[.pointer (some ⟨g, 0, none⟩), .int .i64 0]) ∧ w.heap.size ≤ g ∧ w.heap.size ≤ b ∧ BookAt w' g b k (fun _ => none) ∧ Below w.heap.size w w' := by
  have hmm := @run_makeMap Tryz.prog
  go_enter Tryz.func46, Tryz.ntmps46
  go_wp2
  go_ret2
  refine ⟨w.heap.size + 1, w.heap.size, rfl, by omega, by omega, ⟨?_, ?_, by omega⟩, (by repeat (first | exact Below.refl _ _ | assumption | with_reducible refine bel_alloc ?_ _ | with_reducible refine bel_drewN ?_ _ | with_reducible refine bel_drew ?_))⟩
  · have h := Blk.new (w.alloc (.map #[] 0)) 161 [.int .i64 k, .map (some w.heap.size)]
    simpa using h
  · have h := MapAt.new (κ := intKeys) w
    exact ⟨[], h.below (bel_alloc (Below.refl _ _) _), fun p => rfl⟩
end Go.Proofs.YtjdbedoabcbeeaaGreatDoor
