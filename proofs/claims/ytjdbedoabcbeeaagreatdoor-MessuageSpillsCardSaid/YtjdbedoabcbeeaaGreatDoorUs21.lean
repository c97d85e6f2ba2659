/- Parts of the proof: Cache. -/
import Derived.Test.YtjdbedoabcbeeaaGreatDoorUs20
import Derived.Test.YtjdbedoabcbeeaaGreatDoorUs6
import Derived.Deep.RegionLaw
import Derived.Deep.DeepCutAuto
import Derived.Deep.RegionHeld3
import Derived.Outline
/- Package cache (layer 15): contracts. -/
namespace Go.Proofs.YtjdbedoabcbeeaaGreatDoor
open Go.RowKit
set_option linter.unusedVariables false
set_option linter.unusedSimpArgs false
attribute [local go_sem] World.cell?_alloc_lt

set_option maxRecDepth 100000 in
theorem ca_new (w : World) : Calls Tryz.prog 21 #[] w fun e w' => e = .returned (.pointer (some ⟨w.heap.size, 0, none⟩)) ∧ Four w' w.heap.size 120 w.heap.size (List.replicate 4 (.slice none 0 0)) (fun _ => []) ∧ Below w.heap.size w w' := by
  go_enter Tryz.func21, Tryz.ntmps21
  go_wp2_with fail
  go_ret
  refine ⟨rfl, ⟨Blk.new w _ _, rfl, ?_, ?_, Nat.le_refl _, by decide, fun k => by simp⟩, bel_alloc (Below.refl _ _) _⟩
  · intro k v hv
    have : v = .slice none 0 0 := List.eq_of_mem_replicate (List.mem_of_getElem? hv)
    subst this
    exact ⟨rfl, Or.inl ⟨rfl, rfl⟩⟩
  · intro i j v v' b hij hv hv' hb
    have : v = .slice none 0 0 := List.eq_of_mem_replicate (List.mem_of_getElem? hv)
    subst this
    simp [Value.ownBlock] at hb
theorem idx_list (g k : Nat) (hk : k < 4) (w : World) : (Instr.indexAt 118 (.pointer (some ⟨g, 0, none⟩)) (.int .i64 (k : Int))).run Tryz.prog w = .ok (.pointer (some ⟨g, k, none⟩)) w := by
  have h1 : (k : Int) < 4 := by omega
  simp [go_sem, hk, h1]
set_option maxRecDepth 100000 in
theorem ca_list (g k : Nat) (hk : k < 4) (w : World) : Calls Tryz.prog 76 #[.pointer (some ⟨g, 0, none⟩), .int .i64 k] w fun e w' => e = .returned (.pointer (some ⟨g, k, none⟩)) ∧ w = w' := by
  have hix := fun w => idx_list g k hk w
  have h0 : (0 : Int) ≤ (k : Int) := by omega
  have h1 : (k : Int) < 4 := by omega
  go_enter Tryz.func76, Tryz.ntmps76
  go_wp2_with fail
  go_ret
  exact ⟨rfl, rfl⟩
theorem ca_push_no (base t g k : Nat) (vs : List Value) (X : Nat → List Int) (hk : k < 4) (x : Int) (w : World) (hG : Four w base t g vs X) (h8 : (X k).length = 8) : Calls Tryz.prog 107 #[.pointer (some ⟨g, 0, none⟩), .int .i64 k, .int .i64 x] w fun e w' => e = .returned (.tuple #[.bool false, .int .i64 0]) ∧ w = w' := by
  obtain ⟨A, c, _, _, hc, _⟩ := hG.at_ hk
  clear hG
  rw [h8] at hc
  clear h8
  go_enter Tryz.func107, Tryz.ntmps107
  go_wp2_with fail
  refine (ca_list g k hk w).mono ?_; rintro e w1 ⟨rfl, rfl⟩
  go_wp2_with fail
  go_ret2
  exact ⟨rfl, rfl⟩
theorem info_fint : (Tryz.prog.info? 3).map (fun i => (i.zero, i.size, i.bytes)) = some (some (.int .i64 0), 1, 8) := by kernel_rfl
theorem ca_push (base t g k : Nat) (vs : List Value) (X : Nat → List Int) (hk : k < 4) (x : Int) (w : World) (hG : Four w base t g vs X) (h8 : (X k).length < 8) : Calls Tryz.prog 107 #[.pointer (some ⟨g, 0, none⟩), .int .i64 k, .int .i64 x] w fun e w' => ∃ v', e = .returned (.tuple #[.bool true, .int .i64 0]) ∧ Four w' base t g (vs.set k v') (setX X k (X k ++ [x])) ∧ Ch (cset g vs) w w' ∧ (∀ y ∈ cset g (vs.set k v'), y ∈ cset g vs ∨ w.heap.size ≤ y) := by
  obtain ⟨A, c, hv, hown, hc, hf⟩ := hG.at_ hk
  have h8' : ((X k).length : Int) < 8 := by omega
  have hn8 : (((X k).length : Int) == 8) = false := by rw [beq_eq_false_iff_ne]; omega
  have hgl := hG.st.lt
  have hgb := hG.gb
  have HG := Lib.hid hG; clear hG
  have HV := Lib.hid hv; clear hv
  have HO := Lib.hid hown; clear hown
  generalize hxs : X k = xs at *
  have HX := Lib.hid hxs; clear hxs
  go_enter Tryz.func107, Tryz.ntmps107
  go_wp2_with fail
  refine (ca_list g k hk w).mono ?_; rintro e w1 ⟨rfl, rfl⟩
  have hoa := own_chV HO.out (w' := w.alloc (.cells #[.int .i64 x] 3)) ((Ch.refl [] w).alloc _) (by simp)
  go_wp2_with (at_builtin; refine wpList_push _ rfl (.tmp 24) (.tmp 26) 27 rfl base 3 (.int .i64 0) 8 Tryz.underlying27 info_fint rfl A xs.length c _ rfl hoa w.heap.size 1 (.int .i64 x) rfl ?_ rfl (by omega) (by omega) (by simp; omega) ?_)
  · simp
  intro g2 c2 w1 hown2 hgr hor
  have hcf := HG.out.set_ (w1 := w1) (v' := .slice (some ⟨g2, 0, none⟩) (xs.length + 1) c2) (xs' := xs ++ [x]) HV.out
    (((Ch.refl _ w).alloc _).grown hgr (fun b hb => Or.inl (by rw [hb]; simp)))
    (by rw [List.length_append, List.map_append]; exact hown2)
    (fun b hb => by
      rcases hor with h1 | h1
      · left; rw [h1]; exact hb
      · right; simp [Value.ownBlock] at hb; omega)
    (by simp; omega)
  obtain ⟨hF, hC, hS⟩ := hcf
  have hg1 : w1.cell? ⟨g, k, none⟩ = some (.slice A xs.length c) ∧ w1.frozen? ⟨g, k, none⟩ = false := by
    have hne : (Value.slice A xs.length c).ownBlock ≠ some g := own_neV HO.out HG.out.st HG.out.nt
    have hb := (HG.out.st.alloc (.cells #[.int .i64 x] 3)).grown hgr (fun e => hne e.symm)
    exact ⟨hb.at_ HV.out, hb.frozen _⟩
  obtain ⟨hc1, hf1⟩ := hg1
  have HF := Lib.hid hF; have HC := Lib.hid hC; have HS := Lib.hid hS
  clear hF hC hS hown2 hor hgr hoa
  go_wp2_with fail
  go_ret2
  exact ⟨_, rfl, HX.out ▸ HF.out, HC.out, HS.out⟩
theorem ca_pop_no (base t g k : Nat) (vs : List Value) (X : Nat → List Int) (hk : k < 4) (w : World) (hG : Four w base t g vs X) (h0 : X k = []) : Calls Tryz.prog 55 #[.pointer (some ⟨g, 0, none⟩), .int .i64 k] w fun e w' => e = .returned (.tuple #[.int .i64 0, .bool false]) ∧ w = w' := by
  obtain ⟨A, c, _, _, hc, _⟩ := hG.at_ hk
  clear hG
  rw [h0] at hc
  clear h0
  go_enter Tryz.func55, Tryz.ntmps55
  go_wp2_with fail
  refine (ca_list g k hk w).mono ?_; rintro e w1 ⟨rfl, rfl⟩
  go_wp2_with fail
  go_ret2
  exact ⟨rfl, rfl⟩
theorem ca_pop (base t g k : Nat) (vs : List Value) (X : Nat → List Int) (hk : k < 4) (xs : List Int) (x : Int) (w : World) (hG : Four w base t g vs X) (hx : X k = xs ++ [x]) : Calls Tryz.prog 55 #[.pointer (some ⟨g, 0, none⟩), .int .i64 k] w fun e w' => ∃ v', e = .returned (.tuple #[.int .i64 x, .bool true]) ∧ Four w' base t g (vs.set k v') (setX X k xs) ∧ Ch (cset g vs) w w' ∧ (∀ y ∈ cset g (vs.set k v'), y ∈ cset g vs ∨ w.heap.size ≤ y) := by
  obtain ⟨A, c, hv, hown, hc, hf⟩ := hG.at_ hk
  have hm := hG.mx k
  rw [hx] at hv hown hc hm
  obtain ⟨n, hn⟩ : ∃ n, xs.length = n := ⟨_, rfl⟩
  have hl : (xs ++ [x]).length = n + 1 := by simp [hn]
  rw [hl] at hv hown hc hm
  have hg0 := own_at hown (k := n) (u := .int .i64 x) (by rw [List.getElem?_map, List.getElem?_append_right (by omega), hn]; simp)
  obtain ⟨b, rfl, hcx, hbl, hbb, _⟩ := hg0
  have hcap := own_cap hown
  have hset := hG.set_ (w1 := w) (v' := .slice (some ⟨b, 0, none⟩) n c) (xs' := xs) hv (Ch.refl _ w) (by
      have := own_take hown (k := n) (by omega) (by simp)
      rw [← List.map_take, List.take_append_of_le_length (by omega), List.take_of_length_le (by omega)] at this
      rw [hn]; exact this) (fun b' hb' => Or.inl hb') (by omega)
  obtain ⟨hF, hC, hS⟩ := hset
  have HF := Lib.hid hF; have HC := Lib.hid hC; have HS := Lib.hid hS
  clear hF hC hS hG hv hown hx hl hn
  have hix := fun w => idx_own b (n + 1) c n (by omega) w
  have hcu := fun w => cut_hi_int b (n + 1) c n (n : Int) rfl (by omega) w
  have hn1 : ((n : Int) + 1 == 0) = false := by rw [beq_eq_false_iff_ne]; omega
  have hn2 : (n : Int) + 1 ≤ 8 := by omega
  go_enter Tryz.func55, Tryz.ntmps55
  go_wp2_with fail
  refine (ca_list g k hk w).mono ?_; rintro e w1 ⟨rfl, rfl⟩
  go_wp2_with fail
  go_ret2
  exact ⟨_, rfl, HF.out, HC.out, HS.out⟩
theorem ca_flush (base t g k m : Nat) (vs : List Value) (X : Nat → List Int) (hk : k < 4) (n : Int) (w : World) (hG : Four w base t g vs X) (hn : 1 ≤ n) (hm : min n ((X k).length : Int) = (m : Int)) (hm1 : 1 ≤ m) (hml : m ≤ (X k).length) : Calls Tryz.prog 135 #[.pointer (some ⟨g, 0, none⟩), .int .i64 k, .int .i64 n] w fun e w' => ∃ v' h c', e = .returned (.slice (some ⟨h, 0, none⟩) m c') ∧ w'.ownsRow w.heap.size 3 1 (.slice (some ⟨h, 0, none⟩) m c') m (((X k).take m).map (Value.int .i64)) ∧ Four w' base t g (vs.set k v') (setX X k ((X k).drop m)) ∧ Ch (cset g vs) w w' ∧ (∀ y ∈ cset g (vs.set k v'), y ∈ cset g vs) := by
  obtain ⟨A, c, hv, hown, hc, hf⟩ := hG.at_ hk
  have hmx := hG.mx k
  have hgl := hG.st.lt
  have HG := Lib.hid hG; clear hG
  generalize hxs : X k = xs at *
  have HX := Lib.hid hxs; clear hxs
  generalize hN : xs.length = N at *
  have hx0 := own_at hown (k := 0) (u := .int .i64 (xs[0]'(by omega))) (by rw [List.getElem?_map, List.getElem?_eq_getElem (by omega)]; rfl)
  obtain ⟨b, rfl, -, hbl, -, -⟩ := hx0
  have hcap := own_cap hown
  have hcm : c ≤ maxLen := by
    rcases hown.2 with ⟨h0, _⟩ | ⟨g', cap, cur, hvv, _, _, _, h4, _⟩
    · cases h0
    · injection hvv with _ _ h3; subst h3; exact h4
  unfold maxLen at hcm
  have hcl := cloneI_at b 0 m c ((xs.take m).map (Value.int .i64)) (by simp; omega) (by intro u hu; obtain ⟨z, _, rfl⟩ := List.mem_map.1 hu; rfl) (by omega) w hbl (by
    intro j u hj
    rw [List.getElem?_map, List.getElem?_take] at hj
    split at hj
    · obtain ⟨b', hb', hcc, _⟩ := own_at hown (k := j) (u := u) (by rw [List.getElem?_map]; exact hj)
      injection hb' with hb'; injection hb' with hb'; subst hb'
      rw [Nat.zero_add]; exact hcc
    · simp at hj)
  have HCL := Lib.hid hcl; clear hcl
  have HO := Lib.hid hown; clear hown
  have HV := Lib.hid hv; clear hv
  have HM := Lib.hid hm; clear hm
  have hcu := fun w => cut_hi_int b N c m (m : Int) rfl (by omega) w
  have HN := Lib.hid hN; clear hN
  go_enter Tryz.func135, Tryz.ntmps135
  go_wp2_with fail
  refine (ca_list g k hk w).mono ?_; rintro e w1 ⟨rfl, rfl⟩
  have hm := HM.out
  go_upto_region 5 with fail
  clear hm
  go_wp2_with fail
  refine HCL.out.mono ?_; rintro e w2 ⟨h, c', rfl, hown2, hB2⟩
  clear hcu
  have hc2 := (hB2.cell (p := ⟨g, k, none⟩) hgl).trans hc
  have hO2 := own_chV HO.out (Ch.below hB2 []) (by simp)
  have hdl := Tryz.slices_Delete_int_cells b 0 N c 0 m xs w2 (by rw [HN.out]; exact Nat.le_refl _) hcap (by omega) (by omega) (by omega) (by
    intro j hj
    obtain ⟨b', hb', hcc, _⟩ := own_at hO2 (k := j) (u := .int .i64 (xs.getD j 0)) (by rw [List.getElem?_map, List.getElem?_eq_getElem hj]; simp [List.getD_eq_getElem?_getD, hj])
    injection hb' with hb'; injection hb' with hb'; subst hb'
    rw [Nat.zero_add]; exact hcc) (by
    intro j hj
    obtain ⟨b', hb', _, _, _, hff⟩ := own_at hO2 (k := j) (u := .int .i64 (xs.getD j 0)) (by rw [List.getElem?_map, List.getElem?_eq_getElem (by rw [HN.out]; exact hj)]; simp [List.getD_eq_getElem?_getD, HN.out, hj])
    injection hb' with hb'; injection hb' with hb'; subst hb'
    rw [Nat.zero_add]; exact hff)
  have HDL := Lib.hid hdl; clear hdl
  go_wp2_with fail
  refine HDL.out.mono ?_; rintro e w3 ⟨rfl, q, hq⟩
  rw [List.take_of_length_le (show xs.length ≤ N by rw [HN.out]; exact Nat.le_refl _), List.take_zero, List.nil_append] at hq
  have hO3 := own_chV hO2 (Ch.below (bel_drewN (Below.refl _ _) q) []) (by simp)
  obtain ⟨hO4, hC4⟩ := own_over hO3 (ys := (xs.drop m ++ List.replicate (m - 0) 0).map (Value.int .i64)) (by have := HN.out; simp; omega)
  rw [← hq] at hO4 hC4
  clear hq
  have hg0 : b ≠ g := fun e => own_neV HO.out HG.out.st HG.out.nt (by subst e; rfl)
  have hC24 : Ch [b] w w3 := ((Ch.below hB2 [b]).drewN q).trans hC4
  have hset := HG.out.set_ (w1 := w3) (v' := .slice (some ⟨b, 0, none⟩) (N - m) c) (xs' := xs.drop m) HV.out (by simpa [Value.ownBlock] using hC24) (by
      have := own_take hO4 (k := N - m) (by omega) (by simp)
      rw [← List.map_take, List.take_append_of_le_length (by have := HN.out; simp; omega), List.take_of_length_le (by have := HN.out; simp; omega)] at this
      rw [List.length_drop, HN.out]; exact this) (fun b' hb' => Or.inl hb') (by have := HN.out; simp; omega)
  obtain ⟨hF, hC, hS⟩ := hset
  have hO5 : w3.ownsRow w.heap.size 3 1 (.slice (some ⟨h, 0, none⟩) m c') m ((xs.take m).map (Value.int .i64)) := own_chV hown2 (Ch.trans ((Ch.refl [b] w2).drewN q) hC4) (fun g' hg' => by
    have := (own_base hown2 g' hg').1
    simp; omega)
  have hO6 := own_chV hO5 ((Ch.refl [g] w3).set (p := ⟨g, k, none⟩) (by simp) (.slice (some ⟨b, 0, none⟩) (N - m) c)) (fun g' hg' => by
    have := (own_base hown2 g' hg').1
    simp; omega)
  have hS2 : ∀ y ∈ cset g (vs.set k (.slice (some ⟨b, 0, none⟩) (N - m) c)), y ∈ cset g vs := by
    intro y hy
    rcases cset_mem.1 hy with rfl | ⟨u, hu, hb⟩
    · simp [cset]
    · rcases List.mem_or_eq_of_mem_set hu with h1 | h1
      · exact cset_mem.2 (Or.inr ⟨u, h1, hb⟩)
      · subst h1
        exact cset_mem.2 (Or.inr ⟨_, List.mem_of_getElem? HV.out, hb⟩)
  have hg3 : w3.cell? ⟨g, k, none⟩ = some (.slice (some ⟨b, 0, none⟩) N c) ∧ w3.frozen? ⟨g, k, none⟩ = false := by
    have hb := HG.out.st.ch hC24 (by simp; exact fun e => hg0 e.symm)
    exact ⟨hb.at_ HV.out, hb.frozen _⟩
  obtain ⟨hc3, hf3⟩ := hg3
  have HF := Lib.hid hF; have HC := Lib.hid hC; have HS := Lib.hid hS2; have HR := Lib.hid hO6
  clear hF hC hS hS2 hO6 hO5 hC24 hg0 hO4 hC4 hO3 hO2 hown2 hc2 hc
  go_wp2_with fail
  go_ret
  exact ⟨_, h, c', rfl, HR.out, HF.out, HC.out, HS.out⟩
end Go.Proofs.YtjdbedoabcbeeaaGreatDoor
