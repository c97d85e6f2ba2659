/- Parts of the proof: Memory, Heap2, Heap3. -/
import Derived.Test.YtjdbedoabcbeeaaGreatDoorUs14
import Derived.Test.YtjdbedoabcbeeaaGreatDoorUs4
import Derived.Deep.DeepCutAuto
import Derived.Outline
import Derived.Deep.RegionHeld3
import Derived.Test.YtjdbedoabcbeeaaGreatDoorUs13
/- Package memory (layer 7): contracts. -/
namespace Go.Proofs.YtjdbedoabcbeeaaGreatDoor
open Go.RowKit
set_option linter.unusedVariables false
set_option linter.unusedSimpArgs false
attribute [local go_sem] World.cell?_alloc_lt

structure MemAt (w : World) (mb g b each nf tg bt bf : Nat) (bs : List Int) (mt mf : List (Int × Int)) : Prop where
  st : Blk w mb 144 [.pointer (some ⟨g, 0, none⟩), .pointer (some ⟨tg, 0, none⟩)]
  fs : StoreAt w g b each nf bs
  tb : TwoII w tg bt bf mt mf
  ok : Fair nf mt mf
theorem blk_ne_map {α : Type} {κ : Keys α} {w : World} {b g : Nat} {t : TypeId} {cs : List Value} {m : List (α × Value)} (h : Blk w g t cs) (hm : MapAt κ w b m) : g ≠ b := by
  intro e
  subst e
  obtain ⟨es, clock, hb, _⟩ := hm.ex
  unfold Blk at h
  rw [h] at hb
  cases hb
section
variable {w w' : World} {mb g b each nf tg bt bf : Nat} {bs : List Int} {mt mf : List (Int × Int)}
theorem MemAt.ch {S : List Nat} (h : MemAt w mb g b each nf tg bt bf bs mt mf) (k : Ch S w w') (hS : ∀ x ∈ S, x ≠ mb ∧ x ≠ g ∧ x ≠ b ∧ x ≠ tg ∧ x ≠ bt ∧ x ≠ bf) : MemAt w' mb g b each nf tg bt bf bs mt mf :=
  ⟨h.st.ch k (fun hm => (hS _ hm).1 rfl), h.fs.ch k (fun hm => (hS _ hm).2.1 rfl) (fun hm => (hS _ hm).2.2.1 rfl), h.tb.ch k (fun hm => (hS _ hm).2.2.2.1 rfl) (fun hm => (hS _ hm).2.2.2.2.1 rfl) (fun hm => (hS _ hm).2.2.2.2.2 rfl), h.ok⟩
theorem MemAt.below (h : MemAt w mb g b each nf tg bt bf bs mt mf) (k : Below w.heap.size w w') : MemAt w' mb g b each nf tg bt bf bs mt mf := ⟨h.st.below k, h.fs.below k, h.tb.below k, h.ok⟩
theorem MemAt.dn (h : MemAt w mb g b each nf tg bt bf bs mt mf) (n : Nat) : MemAt (w.drewN n) mb g b each nf tg bt bf bs mt mf := h.below (bel_drewN (Below.refl _ _) n)
end
theorem me_new (g : Nat) (w : World) : Calls Tryz.prog 45 #[.pointer (some ⟨g, 0, none⟩)] w fun e w' => ∃ mb tg bt bf, e = .returned (.tuple #[.pointer (some ⟨mb, 0, none⟩), .int .i64 0]) ∧ w.heap.size ≤ mb ∧ w.heap.size ≤ tg ∧ w.heap.size ≤ bt ∧ w.heap.size ≤ bf ∧ Blk w' mb 144 [.pointer (some ⟨g, 0, none⟩), .pointer (some ⟨tg, 0, none⟩)] ∧ TwoII w' tg bt bf [] [] ∧ Below w.heap.size w w' := by
  go_enter Tryz.func45, Tryz.ntmps45
  go_wp2_with fail
  refine (tII_New w).mono ?_; rintro e w1 ⟨tg, bt, bf, rfl, h1, h2, h3, hT, hB⟩
  have hb := Blk.new w1 144 [.pointer (some ⟨g, 0, none⟩), .pointer (some ⟨tg, 0, none⟩)]
  have hba : Below w1.heap.size w1 (w1.alloc (.cells #[.pointer (some ⟨g, 0, none⟩), .pointer (some ⟨tg, 0, none⟩)] 144)) := bel_alloc (Below.refl _ _) _
  have hT2 := hT.below hba
  have hB2 := bel_trans hB hba
  have hs := hB.size
  have HB := Lib.hid hb; have HT := Lib.hid hT2; have HB2 := Lib.hid hB2
  clear hb hba hT2 hB2 hT hB
  go_wp2_with fail
  go_ret2
  exact ⟨_, tg, bt, bf, rfl, hs, h1, h2, h3, HB.out, HT.out, HB2.out⟩
theorem me_new_nil (w : World) : Calls Tryz.prog 45 #[.pointer none] w fun e w' => e = .returned (.tuple #[.pointer none, .int .i64 1]) ∧ w = w' := by
  go_enter Tryz.func45, Tryz.ntmps45
  go_wp2_with fail
  go_ret2
  exact ⟨rfl, rfl⟩
theorem fair_put {nf : Nat} {mt mf : List (Int × Int)} {p f : Int} (hF : Fair nf mt mf) (h2 : 0 ≤ f) (h3 : f < (nf : Int)) (hp : mget mt p = none) (hf : mget mf f = none) : Fair nf (mput mt p f) (mput mf f p) := by
  refine ⟨fun q x h => ?_, fun q x => ?_⟩
  · rw [mget_put] at h
    split at h
    · injection h with h; subst h; exact ⟨h2, h3⟩
    · exact hF.fr q x h
  · rw [mget_put, mget_put]
    by_cases e : p = q
    · subst e
      rw [if_pos rfl]
      by_cases e2 : f = x
      · subst e2; rw [if_pos rfl]; simp
      · rw [if_neg e2]
        constructor
        · intro h; injection h with h; exact absurd h e2
        · intro h; have := (hF.io p x).2 h; rw [hp] at this; cases this
    · rw [if_neg e]
      by_cases e2 : f = x
      · subst e2
        rw [if_pos rfl]
        constructor
        · intro h; have := (hF.io q f).1 h; rw [hf] at this; cases this
        · intro h; injection h with h; exact absurd h e
      · rw [if_neg e2]; exact hF.io q x
theorem page_yes (mb : Nat) (n : Int) (h0 : 0 ≤ n) (h1 : n < 4096) (w : World) : Calls Tryz.prog 136 #[.pointer (some ⟨mb, 0, none⟩), .int .i64 n] w fun e w' => e = .returned (.bool true) ∧ w = w' := by
  go_enter Tryz.func136, Tryz.ntmps136
  go_wp2_with fail
  go_ret
  exact ⟨rfl, rfl⟩
section
variable (mb g b each nf tg bt bf : Nat) (bs : List Int) (mt mf : List (Int × Int)) (w : World) (hM : MemAt w mb g b each nf tg bt bf bs mt mf)
include hM
theorem both_yes (p f : Int) (h0 : 0 ≤ p) (h1 : p < 4096) (h2 : 0 ≤ f) (h3 : f < (nf : Int)) : Calls Tryz.prog 119 #[.pointer (some ⟨mb, 0, none⟩), .int .i64 p, .int .i64 f] w fun e w' => e = .returned (.bool true) ∧ w = w' := by
  have k0 := hM.st.at_ (i := 0) rfl
  have hG := hM.fs
  clear hM
  go_enter Tryz.func119, Tryz.ntmps119
  go_wp2_with fail
  refine (page_yes mb p h0 h1 w).mono ?_; rintro e w1 ⟨rfl, rfl⟩
  go_wp2_with fail
  refine (fr_len g b each nf bs w hG).mono ?_; rintro e w1 ⟨rfl, rfl⟩
  go_wp2_with fail
  go_ret
  exact ⟨rfl, rfl⟩
theorem me_map (p f : Int) (h0 : 0 ≤ p) (h1 : p < 4096) (h2 : 0 ≤ f) (h3 : f < (nf : Int)) (hp : mget mt p = none) (hf : mget mf f = none) : Calls Tryz.prog 87 #[.pointer (some ⟨mb, 0, none⟩), .int .i64 p, .int .i64 f] w fun e w' => e = .returned (.int .i64 0) ∧ MemAt w' mb g b each nf tg bt bf bs (mput mt p f) (mput mf f p) ∧ Ch [bt, bf] w w' := by
  have k1 := hM.st.at_ (i := 1) rfl
  have hbo := both_yes mb g b each nf tg bt bf bs mt mf w hM p f h0 h1 h2 h3
  have hmy := tII_Map_yes tg bt bf mt mf p f w hM.tb hp hf
  have hfair := fair_put hM.ok h2 h3 hp hf
  have HBO := Lib.hid hbo; have HMY := Lib.hid hmy; have HF := Lib.hid hfair; have HM := Lib.hid hM
  clear hbo hmy hfair hM hp hf
  go_enter Tryz.func87, Tryz.ntmps87
  go_wp2_with fail
  refine HBO.out.mono ?_; rintro e w1 ⟨rfl, rfl⟩
  go_wp2_with fail
  refine HMY.out.mono ?_; rintro e w1 ⟨rfl, hT, hc⟩
  go_wp2_with fail
  go_ret
  have n1 := blk_ne_map HM.out.st HM.out.tb.to_
  have n2 := blk_ne_map HM.out.st HM.out.tb.fr
  have n3 := blk_ne_map HM.out.fs.st HM.out.tb.to_
  have n4 := blk_ne_map HM.out.fs.st HM.out.tb.fr
  have n5 := blk_ne_map HM.out.fs.dt HM.out.tb.to_
  have n6 := blk_ne_map HM.out.fs.dt HM.out.tb.fr
  exact ⟨rfl, ⟨HM.out.st.ch hc (by simp [n1, n2]), HM.out.fs.ch hc (by simp [n3, n4]) (by simp [n5, n6]), hT, HF.out⟩, hc⟩
end
end Go.Proofs.YtjdbedoabcbeeaaGreatDoor
/- Package heap: All, Take, New. -/
namespace Go.Proofs.YtjdbedoabcbeeaaGreatDoor
open Go.RowKit
set_option linter.unusedVariables false
set_option linter.unusedSimpArgs false
attribute [local go_sem] World.cell?_alloc_lt

def maysL (N n : Nat) (ct : Nat → Nat) (mn : Int) (i : Nat) : List Bool := (List.range i).map fun j => mayB n (ct j) mn
theorem maysL_succ (N n : Nat) (ct : Nat → Nat) (mn : Int) (i : Nat) : maysL N n ct mn (i + 1) = maysL N n ct mn i ++ [mayB n (ct i) mn] := by unfold maysL; rw [List.range_succ, List.map_append]; rfl
theorem maysL_len (N n : Nat) (ct : Nat → Nat) (mn : Int) (i : Nat) : (maysL N n ct mn i).length = i := by simp [maysL]
theorem maysL_at {N n : Nat} {ct : Nat → Nat} {mn : Int} {i j : Nat} (h : j < i) : (maysL N n ct mn i).getD j false = mayB n (ct j) mn := by
  unfold maysL
  rw [List.getD_eq_getElem?_getD, List.getElem?_map, List.getElem?_range h]
  rfl
theorem info_boolH : (Tryz.prog.info? 4).map (fun i => (i.zero, i.size, i.bytes)) = some (some (.bool false), 1, 1) := by kernel_rfl
section
variable {w w' : World} {base h c n : Nat} {A : Option Addr} {mn lo hi : Int} {B : List Bd} {ct : Nat → Nat}
set_option maxRecDepth 100000 in
set_option maxHeartbeats 1000000 in
theorem he_all {m : Nat} (hok : FrOk n m) (hB8 : B.length ≤ 8) (w : World) (H : HeapAt w base h A c n mn lo hi B ct) :
    Calls Tryz.prog 116 #[.pointer (some ⟨h, 0, none⟩), .int .i64 0] w fun e w' => ∃ q cp, e = .returned (.slice q B.length cp) ∧ InBo w' q B.length (maysL B.length n ct mn B.length) ∧ Below w.heap.size w w' := by
  have HH := Lib.hid H
  have m4 := H.st.at_ (i := 4) rfl
  clear H
  obtain ⟨N, hN⟩ : ∃ N, B.length = N := ⟨_, rfl⟩
  rw [hN] at hB8 m4 ⊢
  have HN := Lib.hid hN
  clear hN
  go_enter Tryz.func116, Tryz.ntmps116
  go_wp2_with fail
  go_loopw [5, 14] (fun v5 v14 wr => ∃ (i : Nat) (q : Option Addr) (cp : Nat), i ≤ N ∧ v14 = .int .i64 (i : Int) ∧ v5 = .slice q i cp ∧ wr.ownsRow w.heap.size 4 1 (.slice q i cp) i ((maysL N n ct mn i).map Value.bool) ∧ Below w.heap.size w wr) (fun _ v _ => N - (intOf v).toNat)
  case atStart => exact ⟨0, none, 0, by omega, rfl, rfl, World.ownsRow_nil _ _ _ _, Below.refl _ _⟩
  case round =>
    clear m4
    obtain ⟨i, q, cp, hi2, rfl, rfl, hown, hB⟩ := hrel
    by_cases hlt : i < N
    · obtain ⟨b, hb⟩ : ∃ b, B[i]? = some b := ⟨_, List.getElem?_eq_getElem (by rw [HN.out]; exact hlt)⟩
      have hmy := he_may hok i b hb (by rw [HN.out]; exact hB8) wr (HH.out.below hB)
      have hsu := maysL_succ N n ct mn i
      have HMY := Lib.hid hmy; have HSU := Lib.hid hsu; have HOW := Lib.hid hown; have HBE := Lib.hid hB
      clear hmy hsu hown hB hb
      generalize mayB n (ct i) mn = mb at *
      go_wp2_with fail
      refine HMY.out.mono ?_; rintro e w1 ⟨rfl, hB1⟩
      have HOK := Lib.hid (own_chV (own_chV HOW.out (Ch.below hB1 []) (by simp)) ((Ch.refl [] w1).alloc (.cells #[.bool mb] 4)) (by simp))
      have HBL := Lib.hid (Blk.new w1 4 [.bool mb])
      have HB2 := Lib.hid (bel_alloc (bel_trans HBE.out hB1) (.cells #[.bool mb] 4))
      have hlow := fun y (hy : (Value.slice q i cp).ownBlock = some y) => (HOW.out.lt y hy).1
      have HLW := Lib.hid hlow
      clear hB1 hlow HMY HOW HBE
      go_wp2_with (at_builtin; refine wpList_push _ rfl (.tmp 17) (.tmp 22) 223 rfl w.heap.size 4 (.bool false) 1 Tryz.underlying223 info_boolH rfl q i cp ((maysL N n ct mn i).map Value.bool) rfl HOK.out w1.heap.size 1 (.bool mb) rfl (HBL.out.at_ rfl) rfl (by omega) (by omega) HB2.out.size ?_)
      intro g2 cap w8 ho8 hg8 hor8
      have HO8 := Lib.hid ho8; have HB8 := Lib.hid (HB2.out.grown hg8 HB2.out.size HLW.out)
      clear ho8 hg8 hor8 HOK HBL HB2 HLW
      go_wp2_with fail
      go_roundw
      case rel => exact ⟨i + 1, some ⟨g2, 0, none⟩, cap, by omega, by go_num, rfl, by rw [HSU.out, List.map_append]; exact HO8.out, HB8.out⟩
      case measure => simp [intOf]; omega
    · obtain rfl : i = N := by omega
      have hbo : InBo wr q i (maysL i n ct mn i) := ⟨maysL_len _ _ _ _ _, fun j hj => by
        obtain ⟨g', hA, hc, hlt2, _⟩ := own_at hown (k := j) (u := .bool ((maysL i n ct mn i).getD j false)) (by rw [map_at (f := Value.bool) (by rw [maysL_len]; exact hj) false])
        subst hA
        exact ⟨g', 0, rfl, hlt2, by rw [Nat.zero_add]; exact hc⟩⟩
      have HBO := Lib.hid hbo; have HBE := Lib.hid hB
      clear hbo hown hB
      go_wp2_with fail
      go_ret
      exact ⟨q, cp, rfl, HBO.out, HBE.out⟩
/-- One frame more of node i. -/
def ctUp (ct : Nat → Nat) (i j : Nat) : Nat := if j = i then ct i + 1 else ct j
theorem HeapAt.up (H : HeapAt w base h A c n mn lo hi B ct) {i : Nat} {b : Bd} (hb : B[i]? = some b) (hlt : ct i < n) (hc : Ch (b.bt :: b.bs) w w') (hB : BudAt w' b.g b.bs b.bt (n : Int) (frL n (ct i + 1))) : HeapAt w' base h A c n mn lo hi B (ctUp ct i) := by
  have hsub : ∀ x ∈ b.bt :: b.bs, x ∈ b.foot := fun x hx => List.mem_cons_of_mem _ hx
  have hmaps : ∀ x ∈ b.bt :: b.bs, ∃ m : List (Int × Value), MapAt intKeys w x m := fun x hx => by
    have hb0 := H.bd i b hb
    rcases List.mem_cons.1 hx with rfl | hx
    · exact hb0.tk
    · obtain ⟨k, hk⟩ := List.getElem?_of_mem hx
      exact ⟨_, hb0.fr k x hk⟩
  refine ⟨H.st.ch hc (fun hx => ?_), own_chV H.row hc (fun q hq hx => ?_), fun j b' hb' => ?_, fun j => ?_, H.dis⟩
  · obtain ⟨m, hm⟩ := hmaps _ hx
    exact blk_ne_map H.st hm rfl
  · obtain ⟨m, hm⟩ := hmaps _ hx
    exact own_ne_map H.row hm q hq rfl
  · unfold ctUp
    by_cases hji : j = i
    · subst hji
      rw [hb] at hb'
      injection hb' with hb'
      subst hb'
      rw [if_pos rfl]
      exact hB
    · rw [if_neg hji]
      refine (H.bd j b' hb').ch hc (fun x hx hm => ?_)
      have hpw := List.pairwise_iff_getElem.1 H.dis
      obtain ⟨hi1, e1⟩ := List.getElem?_eq_some_iff.1 hb
      obtain ⟨hj1, e2⟩ := List.getElem?_eq_some_iff.1 hb'
      rcases Nat.lt_or_gt_of_ne hji with hlt2 | hlt2
      · have := hpw j i hj1 hi1 hlt2
        rw [e1, e2] at this
        exact this x hm (hsub x hx)
      · have := hpw i j hi1 hj1 hlt2
        rw [e1, e2] at this
        exact this x (hsub x hx) hm
  · unfold ctUp
    split
    · omega
    · exact H.le j
set_option maxRecDepth 100000 in
set_option maxHeartbeats 1000000 in
theorem he_take {m : Nat} (hok : FrOk n m) (i : Nat) (b : Bd) (hb : B[i]? = some b) (hB8 : B.length ≤ 8) (hmay : mayB n (ct i) mn = true) (w : World) (H : HeapAt w base h A c n mn lo hi B ct) :
    Calls Tryz.prog 117 #[.pointer (some ⟨h, 0, none⟩), .int .i64 (i : Int), .int .i64 0] w fun e w' => e = .returned (.tuple #[.int .i64 ((i * n + ct i : Nat) : Int), .int .i64 0]) ∧ HeapAt w' base h A c n mn lo hi B (ctUp ct i) ∧ Ch (b.bt :: b.bs) w w' := by
  have hil := (List.getElem?_eq_some_iff.1 hb).1
  have hn := he_node i b hb hB8 w H
  have hmy := he_may hok i b hb hB8 w H
  rw [hmay] at hmy
  have hlt : ct i < n := by
    unfold mayB at hmay
    rw [Bool.and_eq_true] at hmay
    exact of_decide_eq_true hmay.1
  obtain ⟨kk, hk, h0, hx, hL⟩ := hok.step (ct i) hlt
  have hn2 := hok.n2
  have hle : i * n ≤ 8 * 1000 := Nat.mul_le_mul (by omega) hn2
  obtain ⟨p, hp⟩ : ∃ p, i * n = p := ⟨_, rfl⟩
  have hpI : (i : Int) * (n : Int) = (p : Int) := by rw [← hp]; push_cast; rfl
  rw [hp] at hle ⊢
  have HN := Lib.hid hn; have HMY := Lib.hid hmy; have HH := Lib.hid H; have H0 := Lib.hid h0; have HX := Lib.hid hx; have HL := Lib.hid hL; have HB := Lib.hid hb
  clear hn hmy H h0 hx hL hmay hp hb
  unfold Bd.ptr at HN
  go_enter Tryz.func117, Tryz.ntmps117
  go_wp2_with fail
  refine HN.out.mono ?_; rintro e w1 ⟨rfl, rfl⟩
  go_wp2_with fail
  refine HMY.out.mono ?_; rintro e w2 ⟨rfl, hB2⟩
  have hH2 := HH.out.below hB2
  have htk := bu_take b.g b.bt b.bs (n : Int) (frL n (ct i)) kk hk H0.out (ct i : Int) HX.out (by omega) (by omega) w2 (hH2.bd i b HB.out)
  have HT := Lib.hid htk; have HH2 := Lib.hid hH2; have HB2 := Lib.hid hB2
  clear htk hH2 hB2 HMY HN
  go_wp2_with fail
  refine HT.out.mono ?_; rintro e w3 ⟨rfl, hB3, hC3⟩
  have hH3 := HH2.out.up HB.out hlt hC3 (hB3.congr HL.out)
  have m0 := hH3.st.at_ (i := 0) rfl
  have HH3 := Lib.hid hH3; have HC3 := Lib.hid ((Ch.below HB2.out (b.bt :: b.bs)).trans hC3)
  clear hH3 hB3 hC3 HT HH2 HB2
  go_wp2_with fail
  go_ret2
  exact ⟨by show Ending.returned (.tuple #[.int .i64 ((p : Int) + (ct i : Int)), .int .i64 0]) = _; rw [show ((p + ct i : Nat) : Int) = (p : Int) + (ct i : Int) by push_cast; rfl], HH3.out, HC3.out⟩
end
end Go.Proofs.YtjdbedoabcbeeaaGreatDoor
/- Package heap: New. -/
namespace Go.Proofs.YtjdbedoabcbeeaaGreatDoor
open Go.RowKit
set_option linter.unusedVariables false
set_option linter.unusedSimpArgs false
attribute [local go_sem] World.cell?_alloc_lt

section
variable {w w' : World} {base h c n : Nat} {A : Option Addr} {mn lo hi : Int} {B : List Bd}
theorem BudAt.apart_row {w : World} {b : Bd} {N : Int} {L : Nat → List Int} (hb : BudAt w b.g b.bs b.bt N L) {base m c e : Nat} {A : Option Addr} {xs : List Value} (ho : w.ownsRow base e 1 (.slice A m c) m xs) (he : e ≠ 132) : ∀ q, (Value.slice A m c).ownBlock = some q → q ∉ b.foot := by
  intro q hq hm
  rcases List.mem_cons.1 hm with rfl | hm
  · exact own_neV ho hb.st he hq
  rcases List.mem_cons.1 hm with rfl | hm
  · obtain ⟨T, hT⟩ := hb.tk
    exact own_ne_map ho hT _ hq rfl
  · obtain ⟨k, hk⟩ := List.getElem?_of_mem hm
    exact own_ne_map ho (hb.fr k q hk) _ hq rfl
theorem BudAt.apart_blk {w : World} {b : Bd} {N : Int} {L : Nat → List Int} (hb : BudAt w b.g b.bs b.bt N L) {g t : Nat} {cs : List Value} (hg : Blk w g t cs) (ht : t ≠ 132) : g ∉ b.foot := by
  intro hm
  rcases List.mem_cons.1 hm with rfl | hm
  · exact hg.ne_ hb.st ht rfl
  rcases List.mem_cons.1 hm with rfl | hm
  · obtain ⟨T, hT⟩ := hb.tk
    exact blk_ne_map hg hT rfl
  · obtain ⟨k, hk⟩ := List.getElem?_of_mem hm
    exact blk_ne_map hg (hb.fr k g hk) rfl
/-- A node more: the append, then the store. -/
theorem HeapAt.add (H : HeapAt w base h A c n mn lo hi B (fun _ => 0)) {b : Bd} (hb : BudAt w b.g b.bs b.bt (n : Int) (frL n 0)) (hap : ∀ y ∈ B, ∀ x ∈ y.foot, x ∉ b.foot) {g2 cap : Nat}
    (hg : w.grownBy w' (Value.slice A B.length c).ownBlock) (ho : w'.ownsRow base 78 1 (.slice (some ⟨g2, 0, none⟩) (B.length + 1) cap) (B.length + 1) (B.map Bd.ptr ++ [b.ptr])) :
    Blk w' h 105 [.int .i64 (n : Int), .int .i64 mn, .int .i64 lo, .int .i64 hi, .slice A B.length c] ∧
    HeapAt (w'.setCell ⟨h, 4, none⟩ (.slice (some ⟨g2, 0, none⟩) (B.length + 1) cap)) base h (some ⟨g2, 0, none⟩) cap n mn lo hi (B ++ [b]) (fun _ => 0) := by
  have hc : Ch (Value.slice A B.length c).ownBlock.toList w w' := ch_grown hg (fun i hi => by rw [hi]; simp)
  have hst : Blk w' h 105 [.int .i64 (n : Int), .int .i64 mn, .int .i64 lo, .int .i64 hi, .slice A B.length c] := H.st.ch hc (fun hm => by rw [Option.mem_toList] at hm; exact own_neV H.row H.st (by decide) hm)
  have hs : Ch [h] w' (w'.setCell ⟨h, 4, none⟩ (.slice (some ⟨g2, 0, none⟩) (B.length + 1) cap)) := (Ch.refl [h] w').set (p := ⟨h, 4, none⟩) (by simp) _
  have kb : ∀ (y : Bd), BudAt w y.g y.bs y.bt (n : Int) (frL n 0) → BudAt (w'.setCell ⟨h, 4, none⟩ (.slice (some ⟨g2, 0, none⟩) (B.length + 1) cap)) y.g y.bs y.bt (n : Int) (frL n 0) := fun y hy => by
    have h1 := hy.ch hc (fun x hx => by rw [Option.mem_toList] at hx; exact hy.apart_row H.row (by decide) x hx)
    exact h1.ch hs (fun x hx => by rw [List.mem_singleton] at hx; subst hx; exact BudAt.apart_blk (b := y) h1 hst (by decide))
  have hl : (B ++ [b]).length = B.length + 1 := by simp
  refine ⟨hst, ?_, ?_, fun i y hy => ?_, fun i => Nat.zero_le _, ?_⟩
  · rw [hl]
    exact hst.set_ 4 _
  · rw [hl, List.map_append]
    exact own_chV ho hs (fun i hi hm => by rw [List.mem_singleton] at hm; subst hm; exact own_neV ho hst (by decide) hi)
  · by_cases hil : i < B.length
    · rw [List.getElem?_append_left hil] at hy
      exact kb y (H.bd i y hy)
    · have hi2 := (List.getElem?_eq_some_iff.1 hy).1
      rw [hl] at hi2
      rw [List.getElem?_append_right (by omega), show i - B.length = 0 by omega] at hy
      injection hy with hy
      subst hy
      exact kb _ hb
  · rw [List.pairwise_append]
    refine ⟨H.dis, by simp, fun y hy x hx => ?_⟩
    rw [List.mem_singleton] at hx
    subst hx
    exact hap y hy
end
theorem info_ptrH : (Tryz.prog.info? 78).map (fun i => (i.zero, i.size, i.bytes)) = some (some (.pointer none), 1, 8) := by kernel_rfl
set_option maxRecDepth 100000 in
set_option maxHeartbeats 1000000 in
theorem he_new (N n m : Nat) (hok : FrOk n m) (hN1 : 1 ≤ N) (hN8 : N ≤ 8) (mn lw hg : Int) (h1 : 0 ≤ mn) (h2 : mn ≤ lw) (h3 : lw ≤ hg) (h4 : hg ≤ (n : Int)) (w : World) :
    Calls Tryz.prog 17 #[.int .i64 (N : Int), .int .i64 (n : Int), .agg #[.int .i64 mn, .int .i64 lw, .int .i64 hg]] w fun e w' => ∃ h A c B, e = .returned (.tuple #[.pointer (some ⟨h, 0, none⟩), .int .i64 0]) ∧ HeapAt w' w.heap.size h A c n mn lw hg B (fun _ => 0) ∧ B.length = N ∧ (∀ x ∈ heapFoot h A B, w.heap.size ≤ x) ∧ Below w.heap.size w w' := by
  have hn2 := hok.n2
  have hn1 := hok.n1
  have hnew := fun w => bu_new (n : Int) m hok.m10 hok.pow (by omega) (by omega) hok.bit w
  have hfr := hok.new
  have HNEW := Lib.hid hnew; have HFR := Lib.hid hfr
  clear hnew hfr
  go_enter Tryz.func17, Tryz.ntmps17
  go_upto_region 4 with fail
  have hH0 : HeapAt ((w.alloc (.cells #[.int .i64 mn, .int .i64 lw, .int .i64 hg] 33)).alloc (.cells #[.int .i64 (n : Int), .int .i64 mn, .int .i64 lw, .int .i64 hg, .slice none 0 0] 105)) w.heap.size (w.heap.size + 1) none 0 n mn lw hg [] (fun _ => 0) := by
    refine ⟨?_, World.ownsRow_nil _ _ _ _, by simp, by simp, by simp⟩
    have h := Blk.new (w.alloc (.cells #[.int .i64 mn, .int .i64 lw, .int .i64 hg] 33)) 105 [.int .i64 (n : Int), .int .i64 mn, .int .i64 lw, .int .i64 hg, .slice none 0 0]
    rw [show (w.alloc (.cells #[.int .i64 mn, .int .i64 lw, .int .i64 hg] 33)).heap.size = w.heap.size + 1 by simp] at h
    exact h
  have hM0 := (Blk.new w 33 [.int .i64 mn, .int .i64 lw, .int .i64 hg]).alloc (.cells #[.int .i64 (n : Int), .int .i64 mn, .int .i64 lw, .int .i64 hg, .slice none 0 0] 105)
  have hB0 := bel_alloc (bel_alloc (Below.refl w.heap.size w) (.cells #[.int .i64 mn, .int .i64 lw, .int .i64 hg] 33)) (.cells #[.int .i64 (n : Int), .int .i64 mn, .int .i64 lw, .int .i64 hg, .slice none 0 0] 105)
  have HH0 := Lib.hid hH0; have HM0 := Lib.hid hM0; have HB0 := Lib.hid hB0
  clear hH0 hM0 hB0
  generalize (w.alloc (.cells #[.int .i64 mn, .int .i64 lw, .int .i64 hg] 33)).alloc (.cells #[.int .i64 (n : Int), .int .i64 mn, .int .i64 lw, .int .i64 hg, .slice none 0 0] 105) = w1 at *
  generalize hh : w.heap.size + 1 = h at *
  go_wp2_with fail
  go_loopw [22] (fun v wr => ∃ (i : Nat) (A : Option Addr) (c : Nat) (B : List Bd), i ≤ N ∧ v = .int .i64 (i : Int) ∧ B.length = i ∧ HeapAt wr w.heap.size h A c n mn lw hg B (fun _ => 0) ∧ Blk wr w.heap.size 33 [.int .i64 mn, .int .i64 lw, .int .i64 hg] ∧ (∀ x ∈ heapFoot h A B, w.heap.size ≤ x) ∧ Below w.heap.size w wr) (fun v _ => N - (intOf v).toNat)
  case atStart => exact ⟨0, none, 0, [], by omega, rfl, rfl, HH0.out, HM0.out, by intro x hx; simp [heapFoot, allB] at hx; omega, HB0.out⟩
  case round =>
    clear HH0 HM0 HB0
    obtain ⟨i, A, c, B, hiN, rfl, hBl, hH, hM, hlo, hB⟩ := hrel
    by_cases hlt : i < N
    · have HH := Lib.hid hH; have HM := Lib.hid hM; have HLO := Lib.hid hlo; have HB := Lib.hid hB; have HBL := Lib.hid hBl
      clear hH hM hlo hB hBl
      go_wp2_with fail
      refine (HNEW.out _).mono ?_; rintro e w2 ⟨bg, bbs, bbt, rfl, hbud, hfresh, hB2⟩
      have hH2 := HH.out.below hB2
      have hM2 := HM.out.below hB2
      have hbud2 := hbud.congr (L' := frL n 0) HFR.out
      have hap : ∀ y ∈ B, ∀ x ∈ y.foot, x ∉ (Bd.foot ⟨bg, bbs, bbt⟩) := fun y hy x hx hm => by
        have h1 := HH.out.lt x (by simp only [heapFoot, List.mem_cons, List.mem_append]; exact Or.inr (Or.inr (mem_allB hy hx)))
        have h2 := hfresh x hm
        omega
      have m4 := hH2.st.at_ (i := 4) rfl
      rw [HBL.out] at m4
      have hHa := hH2.below (bel_alloc (Below.refl _ w2) (.cells #[.pointer (some ⟨bg, 0, none⟩)] 78))
      have hMa := hM2.alloc (.cells #[.pointer (some ⟨bg, 0, none⟩)] 78)
      have hba := hbud2.below (bel_alloc (Below.refl _ w2) (.cells #[.pointer (some ⟨bg, 0, none⟩)] 78))
      have HOK := Lib.hid hHa.row
      rw [HBL.out] at HOK
      have HBK := Lib.hid (Blk.new w2 78 [.pointer (some ⟨bg, 0, none⟩)])
      have HBA := Lib.hid (bel_alloc (bel_trans HB.out hB2) (.cells #[.pointer (some ⟨bg, 0, none⟩)] 78))
      have HHA := Lib.hid hHa; have HMA := Lib.hid hMa; have HBU := Lib.hid hba; have HAP := Lib.hid hap; have HFS := Lib.hid hfresh; have HSZ := Lib.hid HB.out.size
      clear hH2 hM2 hbud hbud2 hap hHa hMa hba hfresh hB2 HH HM HB
      go_wp2_with (at_builtin; refine wpList_push _ rfl (.tmp 36) (.tmp 38) 103 rfl w.heap.size 78 (.pointer none) 8 Tryz.underlying103 info_ptrH rfl A i c (B.map Bd.ptr) rfl HOK.out w2.heap.size 1 (.pointer (some ⟨bg, 0, none⟩)) rfl (HBK.out.at_ rfl) rfl (by omega) (by omega) HBA.out.size ?_)
      intro g2 cap w8 ho8 hg8 hor8
      have hlow := fun y (hy : (Value.slice A i c).ownBlock = some y) => (HOK.out.lt y hy).1
      have had := HeapAt.add HHA.out (b := ⟨bg, bbs, bbt⟩) HBU.out HAP.out (by rw [HBL.out]; exact hg8) (by rw [HBL.out]; exact ho8)
      obtain ⟨hst8, hH9⟩ := had
      rw [HBL.out] at hst8 hH9
      have m4' := hst8.at_ (i := 4) rfl
      have f4' := hst8.frozen 4
      have hc8 : Ch (Value.slice A i c).ownBlock.toList (w2.alloc (.cells #[.pointer (some ⟨bg, 0, none⟩)] 78)) w8 := ch_grown hg8 (fun q hq => by rw [hq]; simp)
      have hM8 := HMA.out.ch hc8 (fun hm => by rw [Option.mem_toList] at hm; exact own_neV HOK.out HMA.out (by decide) hm)
      have hM9 : Blk (w8.setCell ⟨h, 4, none⟩ (.slice (some ⟨g2, 0, none⟩) (i + 1) cap)) w.heap.size 33 [.int .i64 mn, .int .i64 lw, .int .i64 hg] := hM8.far (by exact (hM8.ne_ hst8 (by decide))) _
      have hB8 := HBA.out.grown hg8 HBA.out.size hlow
      have hB9 : Below w.heap.size w (w8.setCell ⟨h, 4, none⟩ (.slice (some ⟨g2, 0, none⟩) (i + 1) cap)) := bel_set hB8 (p := ⟨h, 4, none⟩) (by show w.heap.size ≤ h; omega) _
      have hlo9 : ∀ x ∈ heapFoot h (some ⟨g2, 0, none⟩) (B ++ [⟨bg, bbs, bbt⟩]), w.heap.size ≤ x := fun x hx => by
        simp only [heapFoot, List.mem_cons, List.mem_append] at hx
        rcases hx with rfl | hx | hx
        · omega
        · simp at hx
          rw [hx]
          exact (ho8.lt g2 rfl).1
        · unfold allB at hx
          rw [List.flatMap_append, List.mem_append] at hx
          rcases hx with hx | hx
          · exact HLO.out x (by simp only [heapFoot, List.mem_cons, List.mem_append]; exact Or.inr (Or.inr hx))
          · rw [List.flatMap_cons, List.flatMap_nil, List.append_nil] at hx
            exact Nat.le_trans HSZ.out (HFS.out x hx)
      have HH9 := Lib.hid hH9; have HM9 := Lib.hid hM9; have HB9 := Lib.hid hB9; have HLO9 := Lib.hid hlo9
      clear hst8 hH9 hc8 hM8 hM9 hB8 hB9 hlo9 hlow ho8 hg8 hor8 HOK HBK HBA HHA HMA HBU HAP HFS m4
      go_wp2_with fail
      go_roundw
      case rel => exact ⟨i + 1, some ⟨g2, 0, none⟩, cap, B ++ [⟨bg, bbs, bbt⟩], by omega, by go_num, by rw [List.length_append, HBL.out]; rfl, HH9.out, HM9.out, HLO9.out, HB9.out⟩
      case measure => simp [intOf]; omega
    · obtain rfl : i = N := by omega
      have k0 := hM.at_ (i := 0) rfl
      have k1 := hM.at_ (i := 1) rfl
      have k2 := hM.at_ (i := 2) rfl
      have e1 : (mn < 0) = False := eq_false (by omega)
      have e2 : (lw < mn) = False := eq_false (by omega)
      have e3 : (hg < lw) = False := eq_false (by omega)
      have e4 : ((n : Int) < hg) = False := eq_false (by omega)
      have HH := Lib.hid hH; have HLO := Lib.hid hlo; have HB := Lib.hid hB; have HBL := Lib.hid hBl
      clear hH hM hlo hB hBl
      go_wp2_with fail
      go_ret2
      exact ⟨h, A, c, B, rfl, HH.out, HBL.out, HLO.out, HB.out⟩
end Go.Proofs.YtjdbedoabcbeeaaGreatDoor
