/- The law TopoBents: one distance changed. -/
import Derived.Test.YtcanhegjhbhkhaaDoorTopoIn3
namespace Go.Proofs.YtcanhegjhbhkhaaDoor
open Go.RowKit Go.Shelf
set_option linter.unusedVariables false
set_option linter.unusedSimpArgs false
attribute [local go_sem] World.cell?_alloc_lt

def setD (D : List RowV) (a b : Nat) (d : Int) : List RowV := D.modify a (fun r => { r with zs := r.zs.set b d })
theorem setD_get (D : List RowV) (a b : Nat) (d : Int) (i : Nat) : (setD D a b d)[i]? = (D[i]?).map (fun r => if a = i then { r with zs := r.zs.set b d } else r) := by
  unfold setD
  rw [List.getElem?_modify]
  rfl
theorem setD_len (D : List RowV) (a b : Nat) (d : Int) : (setD D a b d).length = D.length := by unfold setD; rw [List.length_modify]
theorem setD_val (D : List RowV) (a b : Nat) (d : Int) : (setD D a b d).map RowV.val = D.map RowV.val := by
  apply List.ext_getElem?
  intro i
  rw [List.getElem?_map, List.getElem?_map, setD_get, Option.map_map]
  congr 1
  funext r
  by_cases h : a = i
  · simp [h, RowV.val]
  · simp [h]
theorem dv_setD {D : List RowV} {a b : Nat} {d : Int} {r : RowV} (hr : D[a]? = some r) (hb : b < r.zs.length) (i j : Nat) : dv (setD D a b d) i j = if a = i ∧ b = j then d else dv D i j := by
  unfold dv
  rw [setD_get]
  by_cases h : a = i
  · subst h
    rw [hr]
    by_cases h2 : b = j
    · subst h2
      simp [List.getD_eq_getElem?_getD, hb]
    · simp [h2, List.getD_eq_getElem?_getD, List.getElem?_set_ne h2]
  · simp only [h, false_and, if_false]
    cases D[i]? <;> simp
theorem sq_row {m : Nat} {D : List RowV} (h : sqB m D = true) : D.length = m ∧ ∀ r ∈ D, r.zs.length = m := by
  unfold sqB at h
  rw [Bool.and_eq_true] at h
  refine ⟨of_decide_eq_true h.1, fun r hr => ?_⟩
  have := List.all_eq_true.1 h.2 r hr
  exact of_decide_eq_true this
theorem setD_sq {m a b : Nat} {d : Int} {D : List RowV} (h : D.length = m ∧ ∀ r ∈ D, r.zs.length = m) : (setD D a b d).length = m ∧ ∀ r ∈ setD D a b d, r.zs.length = m := by
  refine ⟨by rw [setD_len]; exact h.1, fun r hr => ?_⟩
  obtain ⟨i, hi⟩ := List.getElem?_of_mem hr
  rw [setD_get] at hi
  obtain ⟨q, hq, rfl⟩ := Option.map_eq_some_iff.1 hi
  have := h.2 q (List.mem_of_getElem? hq)
  split <;> simp [this]
theorem chk_zero {t : TopoV} (h : chkT t = 0) : (1 ≤ t.N ∧ t.N ≤ 8 ∧ t.F ∈ pows ∧ 1 ≤ t.cs.length ∧ t.cs.length ≤ 16) ∧ t.cs.any (badN t.N) = false ∧ matB t.N.toNat t.ds = true := by
  have h1 : 1 ≤ t.N ∧ t.N ≤ 8 ∧ t.F ∈ pows ∧ 1 ≤ t.cs.length ∧ t.cs.length ≤ 16 := by
    apply Classical.byContradiction
    intro hn
    rw [chk_3 hn] at h
    omega
  refine ⟨h1, ?_⟩
  rw [chk_rest h1] at h
  split at h
  · omega
  · next h2 =>
    split at h
    · omega
    · next h3 => exact ⟨by simpa using h2, by simpa using h3⟩
theorem chk_ds {t : TopoV} (h : chkT t = 0) (D : List RowV) : chkT { t with ds := D } = if matB t.N.toNat D = false then 4 else 0 := by
  obtain ⟨h1, h2, _⟩ := chk_zero h
  rw [chk_rest (t := { t with ds := D }) h1]
  simp only
  rw [if_neg (by rw [h2]; simp)]
theorem mat_parts {m : Nat} {D : List RowV} (h : matB m D = true) : sqB m D = true ∧ (∀ a c, a < m → c < m → dv D a c = dv D c a) ∧ (∀ a c, a < m → c < m → okE a c (dv D a c) = true) := by
  unfold matB at h
  rw [Bool.and_eq_true, Bool.and_eq_true] at h
  refine ⟨h.1, fun a c ha hc => ?_, fun a c ha hc => ?_⟩
  · exact of_decide_eq_true h.2.1 ⟨a, ha⟩ ⟨c, hc⟩
  · exact of_decide_eq_true h.2.2 ⟨a, ha⟩ ⟨c, hc⟩
/-- One way alone: no machine. -/
theorem bent_one {t : TopoV} {m a b : Nat} {d : Int} (h : chkT t = 0) (hm : t.N = (m : Int)) (ha : a < m) (hb : b < m) (hab : a ≠ b) (hd : dv t.ds a b ≠ d) : chkT { t with ds := setD t.ds a b d } = 4 := by
  obtain ⟨_, _, h3⟩ := chk_zero h
  rw [hm, Int.toNat_natCast] at h3
  obtain ⟨h4, h5, h6⟩ := mat_parts h3
  obtain ⟨hl, hr⟩ := sq_row h4
  have hra : t.ds[a]? = some t.ds[a] := List.getElem?_eq_getElem (by omega)
  have hza : b < (t.ds[a]'(by omega)).zs.length := by rw [hr _ (List.getElem_mem _)]; exact hb
  rw [chk_ds h, hm, Int.toNat_natCast, if_pos]
  refine mat_bad ha hb (Or.inr ?_)
  rw [dv_setD hra hza, dv_setD hra hza, if_pos ⟨rfl, rfl⟩, if_neg (by omega), ← h5 a b ha hb]
  exact fun e => hd e.symm
/-- Both ways. -/
theorem bent_two {t : TopoV} {m a b : Nat} {d : Int} (h : chkT t = 0) (hm : t.N = (m : Int)) (ha : a < m) (hb : b < m) (hab : a ≠ b) : chkT { t with ds := setD (setD t.ds a b d) b a d } = if 11 ≤ d ∧ d ≤ 255 then 0 else 4 := by
  obtain ⟨_, _, h3⟩ := chk_zero h
  rw [hm, Int.toNat_natCast] at h3
  obtain ⟨h4, h5, h6⟩ := mat_parts h3
  have hsq := sq_row h4
  have hsq1 := setD_sq (a := a) (b := b) (d := d) hsq
  have hsq2 := setD_sq (a := b) (b := a) (d := d) hsq1
  obtain ⟨hl, hr⟩ := hsq
  have hra : t.ds[a]? = some t.ds[a] := List.getElem?_eq_getElem (by omega)
  have hza : b < (t.ds[a]'(by omega)).zs.length := by rw [hr _ (List.getElem_mem _)]; exact hb
  have hlb : b < (setD t.ds a b d).length := by rw [hsq1.1]; exact hb
  have hrb : (setD t.ds a b d)[b]? = some (setD t.ds a b d)[b] := List.getElem?_eq_getElem hlb
  have hzb : a < ((setD t.ds a b d)[b]'hlb).zs.length := by rw [hsq1.2 _ (List.getElem_mem _)]; exact ha
  have hdv : ∀ i j, dv (setD (setD t.ds a b d) b a d) i j = if (b = i ∧ a = j) ∨ (a = i ∧ b = j) then d else dv t.ds i j := by
    intro i j
    rw [dv_setD hrb hzb, dv_setD hra hza]
    by_cases e1 : b = i ∧ a = j
    · rw [if_pos e1, if_pos (Or.inl e1)]
    · rw [if_neg e1]
      by_cases e2 : a = i ∧ b = j
      · rw [if_pos e2, if_pos (Or.inr e2)]
      · rw [if_neg e2, if_neg (by rintro (h | h); exact e1 h; exact e2 h)]
  rw [chk_ds h, hm, Int.toNat_natCast]
  by_cases hd : 11 ≤ d ∧ d ≤ 255
  · rw [if_pos hd, mat_good hsq2.1 hsq2.2 (fun i j hi hj => ?_)]
    · simp
    · rw [hdv, hdv]
      by_cases e : (b = i ∧ a = j) ∨ (a = i ∧ b = j)
      · rw [if_pos e, if_pos (by omega)]
        refine ⟨?_, rfl⟩
        unfold okE
        rw [if_neg (by omega)]
        exact decide_eq_true (by omega)
      · rw [if_neg e, if_neg (by omega)]
        exact ⟨h6 i j hi hj, h5 i j hi hj⟩
  · rw [if_neg hd, if_pos]
    refine mat_bad ha hb (Or.inl ?_)
    rw [hdv, if_pos (Or.inr ⟨rfl, rfl⟩)]
    unfold okE
    rw [if_neg hab]
    exact decide_eq_false (by omega)
theorem own_set3 {w : World} {base g n c i : Nat} {e : TypeId} {xs : List Value} (h : w.ownsRow base e 1 (.slice (some ⟨g, 0, none⟩) n c) n xs) (hi : i < n) (u : Value) : (w.setCell ⟨g, i, none⟩ u).ownsRow base e 1 (.slice (some ⟨g, 0, none⟩) n c) n (xs.set i u) := by
  rcases h with ⟨hl, hx⟩
  refine ⟨by rw [List.length_set]; exact hl, ?_⟩
  rcases hx with ⟨hv, _⟩ | ⟨g', cap, cur, hv, hb, hg, hn, hc, hs, ht⟩
  · cases hv
  · injection hv with h1 h2 h3
    injection h1 with h1
    injection h1 with h1 _ _
    subst h1 h3
    refine Or.inr ⟨g, c, cur.setIfInBounds i u, rfl, hb, heap_setCell_same w g i cur e u hg, hn, hc, by simpa using hs, ?_⟩
    rw [Array.toList_setIfInBounds, List.take_set, ht]
/-- A distance is changed in its row. -/
theorem OwnT.setAt {base g a b : Nat} {w : World} {t : TopoV} {q : RowV} (h : OwnT base w t) (hq : t.ds[a]? = some q) (hg : q.a = some ⟨g, 0, none⟩) (hb : b < q.zs.length) (d : Int) : OwnT base (w.setCell ⟨g, b, none⟩ (.int .i64 d)) { t with ds := setD t.ds a b d } := by
  have hqm := List.mem_of_getElem? hq
  have hqo := h.rs q hqm
  have hblk : q.val.ownBlock = some g := by unfold RowV.val; rw [hg]; rfl
  have hc : Ch [g] w (w.setCell ⟨g, b, none⟩ (.int .i64 d)) := (Ch.refl [g] w).set (p := ⟨g, b, none⟩) (by simp) _
  refine ⟨own_chV h.c hc (fun i hi hm => ?_), ?_, fun r hr => ?_, fun r hr x hx => ?_, fun i j r s x hij hi hj hx => ?_⟩
  · rw [List.mem_singleton] at hm
    subst hm
    exact h.nc q hqm i hblk hi
  · simp only
    rw [setD_val, setD_len]
    exact own_chV h.d hc (fun i hi hm => by
      rw [List.mem_singleton] at hm
      subst hm
      exact own_apart h.d hqo (by decide) i hi hblk)
  · obtain ⟨i, hi⟩ := List.getElem?_of_mem hr
    rw [setD_get] at hi
    obtain ⟨s, hs, rfl⟩ := Option.map_eq_some_iff.1 hi
    by_cases e : a = i
    · subst e
      rw [hq] at hs
      injection hs with hs
      subst hs
      rw [if_pos rfl]
      simp only [RowV.val, List.length_set, List.map_set]
      unfold RowV.val at hqo
      rw [hg] at hqo ⊢
      exact own_set3 hqo hb _
    · rw [if_neg e]
      refine own_chV (h.rs s (List.mem_of_getElem? hs)) hc (fun k hk hm => ?_)
      rw [List.mem_singleton] at hm
      subst hm
      exact h.nr a i q s k e hq hs hblk hk
  · obtain ⟨i, hi⟩ := List.getElem?_of_mem hr
    rw [setD_get] at hi
    obtain ⟨s, hs, rfl⟩ := Option.map_eq_some_iff.1 hi
    refine h.nc s (List.mem_of_getElem? hs) x ?_
    by_cases e : a = i
    · rw [if_pos e] at hx; simpa [RowV.val] using hx
    · rw [if_neg e] at hx; exact hx
  · simp only at hi hj
    rw [setD_get] at hi hj
    obtain ⟨r0, hr0, rfl⟩ := Option.map_eq_some_iff.1 hi
    obtain ⟨s0, hs0, rfl⟩ := Option.map_eq_some_iff.1 hj
    have key : ∀ (k : Nat) (r : RowV), (if a = k then { r with zs := r.zs.set b d } else r).val.ownBlock = r.val.ownBlock := by
      intro k r
      split
      · simp only [RowV.val, List.length_set]
      · rfl
    rw [key] at hx ⊢
    exact h.nr i j r0 s0 x hij hr0 hs0 hx
theorem tame_len (t : TopoV) : (tameM t).cs.length ≤ 20 ∧ (tameM t).ds.length ≤ 10 ∧ ∀ r ∈ (tameM t).ds, r.zs.length ≤ 10 := by
  refine ⟨by simp [tameM]; omega, by simp [tameM]; omega, fun r hr => ?_⟩
  unfold tameM at hr
  obtain ⟨q, _, rfl⟩ := List.mem_map.1 hr
  simp [RowV.cut]
  omega
theorem same_len {t s : TopoV} (h : sameT t s) : t.cs.length = s.cs.length ∧ t.ds.length = s.ds.length ∧ ((∀ r ∈ s.ds, r.zs.length ≤ 10) → ∀ r ∈ t.ds, r.zs.length ≤ 10) := by
  obtain ⟨_, _, h3, h4⟩ := h
  have hl := congrArg List.length h4
  rw [List.length_map, List.length_map] at hl
  refine ⟨by rw [h3], hl, fun hs r hr => ?_⟩
  have : r.zs ∈ s.ds.map RowV.zs := by rw [← h4]; exact List.mem_map_of_mem hr
  obtain ⟨q, hq, e⟩ := List.mem_map.1 this
  rw [← e]
  exact hs q hq
/-- What the law keeps. -/
structure BentS (w0 w : World) (base : Nat) (t : TopoV) (x0 x1 mx : Int) : Prop where
  b3 : Blk w w0.heap.size 48 [.int .i64 t.N, .int .i64 t.F, .slice t.ca t.cs.length t.cc, .slice t.da t.ds.length t.dc]
  b4 : Blk w (w0.heap.size + 1) 57 [.int .i64 x0, .int .i64 x1]
  o : OwnT base w t
  bel : Below w0.heap.size w0 w
  m : w0.cell? ⟨2, 0, none⟩ = some (.int .i64 mx)
  lo : w0.heap.size ≤ base
section
variable {w0 w w' : World} {base : Nat} {t : TopoV} {x0 x1 mx : Int}
theorem BentS.below (h : BentS w0 w base t x0 x1 mx) (k : Below w.heap.size w w') : BentS w0 w' base t x0 x1 mx := ⟨h.b3.below k, h.b4.below k, h.o.below k, bel_trans h.bel k, h.m, h.lo⟩
theorem BentS.mw (h : BentS w0 w base t x0 x1 mx) : w.cell? ⟨2, 0, none⟩ = some (.int .i64 mx) := (h.bel.cell (p := ⟨2, 0, none⟩) (World.block_lt_of_cell? w0 _ h.m)).trans h.m
theorem BentS.set {g a b : Nat} {q : RowV} (h : BentS w0 w base t x0 x1 mx) (hq : t.ds[a]? = some q) (hg : q.a = some ⟨g, 0, none⟩) (hb : b < q.zs.length) (d : Int) : BentS w0 (w.setCell ⟨g, b, none⟩ (.int .i64 d)) base { t with ds := setD t.ds a b d } x0 x1 mx := by
  have hqo := h.o.rs q (List.mem_of_getElem? hq)
  have hblk : q.val.ownBlock = some g := by unfold RowV.val; rw [hg]; rfl
  have hc : Ch [g] w (w.setCell ⟨g, b, none⟩ (.int .i64 d)) := (Ch.refl [g] w).set (p := ⟨g, b, none⟩) (by simp) _
  have hge := own_bge hqo hblk
  have hlo := h.lo
  refine ⟨?_, h.b4.ch hc ?_, h.o.setAt hq hg hb d, bel_ch h.bel hc (by simp; omega), h.m, h.lo⟩
  · simp only
    rw [setD_len]
    exact h.b3.ch hc (fun hm => by rw [List.mem_singleton] at hm; exact own_neV hqo h.b3 (by decide) (by rw [hblk, hm]))
  · exact fun hm => by rw [List.mem_singleton] at hm; exact own_neV hqo h.b4 (by decide) (by rw [hblk, hm])
/-- A row of the machine, and a distance. -/
theorem BentS.row {a b : Nat} (h : BentS w0 w base t x0 x1 mx) (ha : a < t.ds.length) {q : RowV} (hq : t.ds[a]? = some q) (hb : b < q.zs.length) : ∃ g gd, t.da = some ⟨gd, 0, none⟩ ∧ q.a = some ⟨g, 0, none⟩ ∧ w.cell? ⟨gd, a, none⟩ = some (.slice (some ⟨g, 0, none⟩) q.zs.length q.c) ∧ w.cell? ⟨g, b, none⟩ = some (.int .i64 (q.zs.getD b 0)) ∧ w.frozen? ⟨g, b, none⟩ = false := by
  obtain ⟨gd, e1, c1, _, _, _⟩ := own_at h.o.d (k := a) (u := q.val) (by rw [List.getElem?_map, hq]; rfl)
  have hqo := h.o.rs q (List.mem_of_getElem? hq)
  unfold RowV.val at hqo
  obtain ⟨g, e2, c2, _, _, f2⟩ := own_at hqo (k := b) (u := .int .i64 (q.zs.getD b 0)) (by rw [List.getElem?_map, List.getElem?_eq_getElem hb, List.getD_eq_getElem?_getD, List.getElem?_eq_getElem hb]; rfl)
  refine ⟨g, gd, e1, e2, ?_, c2, f2⟩
  rw [c1]
  unfold RowV.val
  rw [e2]
end
set_option maxRecDepth 100000 in
set_option maxHeartbeats 8000000 in
theorem topoBents_walk (w0 : World) (t0 : TopoV) (hT : InTopo w0 t0) (hcc : t0.cs.length ≤ t0.cc) (hdc : t0.ds.length ≤ t0.dc) (hrc : RowCap t0.ds) (x0 x1 : Int) (d : Int) (_hd : (Lit.int .i64 d).wf = true) (hmx : ∃ m : Int, w0.cell? ⟨2, 0, none⟩ = some (.int .i64 m)) : Calls Tryd.prog 8 #[t0.val, .agg #[.int .i64 x0, .int .i64 x1], .int .i64 d] w0 fun e w' => e = .returned (.bool true) ∧ Below w0.heap.size w0 w' := by
  obtain ⟨mx, hm⟩ := hmx
  have htm := fun w hI => tame_any t0 w hI hcc hrc
  have HTM := Lib.hid htm; have HM := Lib.hid hm; have HT := Lib.hid hT
  clear htm hm hT hcc hdc hrc
  obtain ⟨N0, F0, ca0, cc0, cs0, da0, dc0, ds0⟩ := t0
  have hb3 := (Blk.new w0 48 [.int .i64 N0, .int .i64 F0, .slice ca0 cs0.length cc0, .slice da0 ds0.length dc0]).alloc (.cells #[.int .i64 x0, .int .i64 x1] 57)
  have hb4 := Blk.new (w0.alloc (.cells #[.int .i64 N0, .int .i64 F0, .slice ca0 cs0.length cc0, .slice da0 ds0.length dc0] 48)) 57 [.int .i64 x0, .int .i64 x1]
  rw [show (w0.alloc (.cells #[.int .i64 N0, .int .i64 F0, .slice ca0 cs0.length cc0, .slice da0 ds0.length dc0] 48)).heap.size = w0.heap.size + 1 by simp] at hb4
  have hBA := bel_alloc (bel_alloc (Below.refl w0.heap.size w0) (.cells #[.int .i64 N0, .int .i64 F0, .slice ca0 cs0.length cc0, .slice da0 ds0.length dc0] 48)) (.cells #[.int .i64 x0, .int .i64 x1] 57)
  have hb3 : Blk ((w0.alloc (.cells #[.int .i64 N0, .int .i64 F0, .slice ca0 cs0.length cc0, .slice da0 ds0.length dc0] 48)).alloc (.cells #[.int .i64 x0, .int .i64 x1] 57)) w0.heap.size 48 [.int .i64 N0, .int .i64 F0, .slice ca0 cs0.length cc0, .slice da0 ds0.length dc0] := hb3
  have hb4 : Blk ((w0.alloc (.cells #[.int .i64 N0, .int .i64 F0, .slice ca0 cs0.length cc0, .slice da0 ds0.length dc0] 48)).alloc (.cells #[.int .i64 x0, .int .i64 x1] 57)) (w0.heap.size + 1) 57 [.int .i64 x0, .int .i64 x1] := hb4
  have hcall := HTM.out _ (HT.out.below hBA)
  simp only [TopoV.val] at *
  have HC := Lib.hid hcall
  clear hcall HTM
  go_enter Tryd.func8, Tryd.ntmps8
  go_upto_region 1 with fail
  generalize (w0.alloc (.cells #[.int .i64 N0, .int .i64 F0, .slice ca0 cs0.length cc0, .slice da0 ds0.length dc0] 48)).alloc (.cells #[.int .i64 x0, .int .i64 x1] 57) = wA at *
  have j0 := hb3.at_ (i := 0) rfl
  have j1 := hb3.at_ (i := 1) rfl
  have j2 := hb3.at_ (i := 2) rfl
  have j3 := hb3.at_ (i := 3) rfl
  go_wp2_with fail
  refine HC.out.mono ?_; rintro e w1 ⟨⟨t, rfl, hO, hsm⟩, hB1⟩
  have hb31 := hb3.below hB1
  have hb41 := hb4.below hB1
  have k0 := hb31.at_ (i := 0) rfl
  have k1 := hb31.at_ (i := 1) rfl
  have k2 := hb31.at_ (i := 2) rfl
  have k3 := hb31.at_ (i := 3) rfl
  have f0 := hb31.frozen 0
  have f1 := hb31.frozen 1
  have f2 := hb31.frozen 2
  have f3 := hb31.frozen 3
  have hlo : w0.heap.size ≤ wA.heap.size := hBA.size
  have hBw := bel_trans hBA hB1
  have hc : Ch [w0.heap.size] w1 ((((w1.setCell ⟨w0.heap.size, 0, none⟩ (.int .i64 t.N)).setCell ⟨w0.heap.size, 1, none⟩ (.int .i64 t.F)).setCell ⟨w0.heap.size, 2, none⟩ (.slice t.ca t.cs.length t.cc)).setCell ⟨w0.heap.size, 3, none⟩ (.slice t.da t.ds.length t.dc)) :=
    ((((Ch.refl [w0.heap.size] w1).set (p := ⟨w0.heap.size, 0, none⟩) (by simp) _).set (p := ⟨w0.heap.size, 1, none⟩) (by simp) _).set (p := ⟨w0.heap.size, 2, none⟩) (by simp) _).set (p := ⟨w0.heap.size, 3, none⟩) (by simp) _
  have hS : BentS w0 ((((w1.setCell ⟨w0.heap.size, 0, none⟩ (.int .i64 t.N)).setCell ⟨w0.heap.size, 1, none⟩ (.int .i64 t.F)).setCell ⟨w0.heap.size, 2, none⟩ (.slice t.ca t.cs.length t.cc)).setCell ⟨w0.heap.size, 3, none⟩ (.slice t.da t.ds.length t.dc)) wA.heap.size t x0 x1 mx :=
    ⟨(((hb31.set_ 0 _).set_ 1 _).set_ 2 _).set_ 3 _, hb41.ch hc (by simp), hO.far hc (fun y hy => by rw [List.mem_singleton] at hy; subst hy; exact ⟨_, _, hb31, by decide, by decide⟩), bel_ch hBw hc (by simp), HM.out, hlo⟩
  have htl := tame_len (⟨N0, F0, ca0, cc0, cs0, da0, dc0, ds0⟩ : TopoV)
  have hsl := same_len hsm
  have hlc : t.cs.length ≤ 1000 := by omega
  have hld : t.ds.length ≤ 1000 := by omega
  have hlr : ∀ r ∈ t.ds, r.zs.length ≤ 10 := hsl.2.2 htl.2.2
  have HS := Lib.hid hS; have HLR := Lib.hid hlr
  clear hS hc hO hsm hb31 hb41 hb3 hb4 j0 j1 j2 j3 hBA hBw hB1 HC htl hsl HT hlr hlo
  go_upto_region 2 with fail
  clear k0 k1 k2 k3 f0 f1 f2 f3
  generalize (((w1.setCell ⟨w0.heap.size, 0, none⟩ (.int .i64 t.N)).setCell ⟨w0.heap.size, 1, none⟩ (.int .i64 t.F)).setCell ⟨w0.heap.size, 2, none⟩ (.slice t.ca t.cs.length t.cc)).setCell ⟨w0.heap.size, 3, none⟩ (.slice t.da t.ds.length t.dc) = w2 at *
  generalize wA.heap.size = base at *
  have hx1 := tops_any mx w2 HS.out.mw
  have HX := Lib.hid hx1
  clear hx1
  go_wp2_with fail
  refine HX.out.mono ?_; rintro e w3 ⟨rfl, hB3⟩
  have HS3 := Lib.hid (HS.out.below hB3)
  have i0 := HS3.out.b3.at_ (i := 0) rfl
  have i1 := HS3.out.b3.at_ (i := 1) rfl
  have i2 := HS3.out.b3.at_ (i := 2) rfl
  have i3 := HS3.out.b3.at_ (i := 3) rfl
  have hrk := ref_check t w3 HS3.out.o.inT
  unfold TopoV.val at hrk
  generalize hq : chkT t = q at hrk
  have HRK := Lib.hid hrk; have HQ := Lib.hid hq
  clear HS HX hB3 hrk hq
  go_wp2_with fail
  refine HRK.out.mono ?_; rintro e w4 ⟨rfl, hB4⟩
  have HS4 := Lib.hid (HS3.out.below hB4)
  have hx1 := tops_any mx w4 HS4.out.mw
  have HX := Lib.hid hx1
  have i0 := HS4.out.b3.at_ (i := 0) rfl
  clear HS3 HRK hB4 hx1 i1 i2 i3
  by_cases hq0 : q = 0
  · subst hq0
    by_cases hn2 : t.N < 2
    · go_wp2_with fail
      refine HX.out.mono ?_; rintro e w5 ⟨rfl, hB5⟩
      go_wp2_with fail
      go_ret
      exact ⟨rfl, bel_trans HS4.out.bel hB5⟩
    · obtain ⟨hcnt, _, hmat⟩ := chk_zero HQ.out
      obtain ⟨m, hmN⟩ := Int.eq_ofNat_of_zero_le (show 0 ≤ t.N by omega)
      have hm2 : 2 ≤ m := by omega
      have hm8 : m ≤ 8 := by omega
      rw [hmN, Int.toNat_natCast] at hmat
      obtain ⟨hsq, _, _⟩ := mat_parts hmat
      obtain ⟨hdl, hdr⟩ := sq_row hsq
      have hn2' : ¬ ((m : Int) < 2) := by omega
      have HMN := Lib.hid hmN; have HDR := Lib.hid hdr
      rw [hmN] at i0
      clear hcnt hmat hsq hdr HX hn2
      have r0 := HS4.out.b4.at_ (i := 0) rfl
      have r1 := HS4.out.b4.at_ (i := 1) rfl
      go_upto_region 4 with fail
      go_quiet (fail)
      have hab := umod_bd x0 (m : Int) (by omega) (by omega)
      generalize ha : wrap64 ((IntKind.u64.wrap x0).tmod (m : Int)) = a at hab ⊢
      obtain ⟨a, rfl⟩ := Int.eq_ofNat_of_zero_le hab.1
      have hbb := umod_bd x1 (m : Int) (by omega) (by omega)
      generalize hb : wrap64 ((IntKind.u64.wrap x1).tmod (m : Int)) = b at hbb ⊢
      obtain ⟨b, rfl⟩ := Int.eq_ofNat_of_zero_le hbb.1
      have ham : a < m := by omega
      have hbm : b < m := by omega
      have HS5 := Lib.hid (HS4.out.below (bel_drewN (Below.refl _ w4) nq))
      clear HS4 i0 r0 r1 ha hb hab hbb
      generalize w4.drewN nq = w5 at *
      have i0 := HS5.out.b3.at_ (i := 0) rfl
      rw [HMN.out] at i0
      go_upto_if 44 with fail
      go_cut [8] (fun v wx => ∃ b' : Nat, b' < m ∧ a ≠ b' ∧ v = .int .i64 (b' : Int) ∧ wx = w5)
      case first =>
        by_cases hab : a = b
        · subst hab
          go_wp2_with fail
          go_meet
          refine ⟨(a + 1) % m, Nat.mod_lt _ (by omega), ?_, ?_, rfl⟩
          · rcases Nat.lt_or_ge (a + 1) m with h | h
            · rw [Nat.mod_eq_of_lt h]; omega
            · have : a + 1 = m := by omega
              rw [this, Nat.mod_self]; omega
          · rfl
        · have hab2 : ¬ ((a : Int) = (b : Int)) := by omega
          go_wp2_with fail
          go_meet
          exact ⟨b, hbm, hab, rfl, rfl⟩
      case rest =>
        obtain ⟨b', hbm', hab', rfl, rfl⟩ := hcut
        clear hbm i0
        obtain ⟨q, hqa⟩ : ∃ q, t.ds[a]? = some q := ⟨t.ds[a], List.getElem?_eq_getElem (by omega)⟩
        have hql : q.zs.length = m := HDR.out q (List.mem_of_getElem? hqa)
        obtain ⟨g, gd, hda, hga, c1, c2, f2⟩ := HS5.out.row (by omega) hqa (by omega : b' < q.zs.length)
        have hdvo : q.zs.getD b' 0 = dv t.ds a b' := (dv_at hqa).symm
        rw [hdvo] at c2
        have hok := (mat_parts (chk_zero HQ.out).2.2)
        rw [HMN.out, Int.toNat_natCast] at hok
        have hokE := hok.2.2 a b' ham hbm'
        unfold okE at hokE
        rw [if_neg hab'] at hokE
        have hob := of_decide_eq_true hokE
        generalize hold : dv t.ds a b' = old at *
        have HOLD := Lib.hid hold
        have i3 := HS5.out.b3.at_ (i := 3) rfl
        rw [hda] at i3
        have hix1 := fun w => idx_rows gd 0 t.ds.length t.dc a (by omega) w
        have hix2 := fun w => idxI g 0 q.zs.length q.c b' (by omega) w
        rw [Nat.zero_add] at hix1 hix2
        have HQA := Lib.hid hqa; have HGA := Lib.hid hga; have HDA := Lib.hid hda
        clear hok hokE hqa hga hda hold hdvo
        go_upto_if 59 with fail
        go_cut [2] (fun v wx => ∃ d' : Int, old ≠ d' ∧ (d' = d ∨ d' = old + 1) ∧ v = .int .i64 d' ∧ wx = wc)
        case first =>
          by_cases hdo : old = d
          · subst hdo
            go_wp2_with fail
            go_meet
            exact ⟨old + 1, by omega, Or.inr rfl, rfl, rfl⟩
          · go_wp2_with fail
            go_meet
            exact ⟨d, hdo, Or.inl rfl, rfl, rfl⟩
        case rest =>
          obtain ⟨d', hd', _, rfl, rfl⟩ := hcut
          have hbq : b' < q.zs.length := by omega
          have hS6 := HS5.out.set HQA.out HGA.out hbq d'
          have hone := bent_one HQ.out HMN.out ham hbm' hab' (fun e => hd' (by rw [← HOLD.out]; exact e))
          have htwo := bent_two (d := d') HQ.out HMN.out ham hbm' hab'
          rw [HMN.out, HDA.out] at hone htwo
          have hsq1 := setD_sq (a := a) (b := b') (d := d') (m := m) ⟨by omega, HDR.out⟩
          have hlen1 : (setD t.ds a b' d').length = m := by rw [setD_len]; exact hdl
          have hT6 := hS6.o.inT
          have hto := to_any { t with ds := setD t.ds a b' d' } _ hT6 hlc (by simp only; omega) (fun r hr => by have := hsq1.2 r hr; omega)
          simp only [TopoV.val] at hto
          rw [hlen1, HDA.out, HMN.out] at hto
          have e0 := hS6.b3.at_ (i := 0) rfl
          have e1 := hS6.b3.at_ (i := 1) rfl
          have e2 := hS6.b3.at_ (i := 2) rfl
          have e3 := hS6.b3.at_ (i := 3) rfl
          simp only at e0 e1 e2 e3
          rw [hlen1, HDA.out] at e3
          rw [HMN.out] at e0
          have HTO := Lib.hid hto; have HS6 := Lib.hid hS6; have HONE := Lib.hid hone; have HTWO := Lib.hid htwo; have HSQ1 := Lib.hid hsq1; have HL1 := Lib.hid hlen1
          clear hto hS6 hone htwo hsq1 hlen1 hT6
          go_upto_region 10 with fail
          clear c1 c2 f2 i3
          generalize wc.setCell ⟨g, b', none⟩ (.int .i64 d') = w6 at *
          generalize hD1 : setD t.ds a b' d' = D1 at *
          go_wp2_with fail
          refine HTO.out.mono ?_; rintro e w7 ⟨⟨t7, rfl, hO7, hs7⟩, hB7⟩
          have hck := topo_check t7 w7 hO7.inT
          rw [chkT_same hs7, HONE.out] at hck
          unfold TopoV.val at hck
          have HCK := Lib.hid hck
          have HS7 := Lib.hid (HS6.out.below hB7)
          clear hck hO7 hs7 hB7 HTO HS6 e0 e1 e2 e3
          go_wp2_with fail
          refine HCK.out.mono ?_; rintro e w8 ⟨rfl, hB8⟩
          have HS8 := Lib.hid (HS7.out.below hB8)
          clear HCK HS7 hB8
          obtain ⟨q2, hq2⟩ : ∃ q2, D1[b']? = some q2 := ⟨D1[b']'(by have := HSQ1.out.1; omega), List.getElem?_eq_getElem _⟩
          have hq2l : q2.zs.length = m := HSQ1.out.2 q2 (List.mem_of_getElem? hq2)
          obtain ⟨g2, gd2, hda2, hga2, c1, c2, f2⟩ := HS8.out.row (t := { t with ds := D1 }) (a := b') (b := a) (by have := HSQ1.out.1; simp only; omega) hq2 (by omega)
          have hgd : gd2 = gd := by
            simp only at hda2
            rw [HDA.out] at hda2
            injection hda2 with h
            injection h with h
            exact h.symm
          subst hgd
          have hS9 := HS8.out.set (t := { t with ds := D1 }) hq2 hga2 (by omega : a < q2.zs.length) d'
          have hlen2 : (setD D1 b' a d').length = m := by rw [setD_len, HL1.out]
          have hsq2 := setD_sq (a := b') (b := a) (d := d') (m := m) HSQ1.out
          have hT9 := hS9.o.inT
          have hto := to_any { t with ds := setD D1 b' a d' } _ hT9 hlc (by simp only; omega) (fun r hr => by have := hsq2.2 r hr; omega)
          simp only [TopoV.val] at hto
          rw [hlen2, HDA.out, HMN.out] at hto
          have u3 := HS8.out.b3.at_ (i := 3) rfl
          simp only at u3
          rw [HL1.out, HDA.out] at u3
          have e0 := hS9.b3.at_ (i := 0) rfl
          have e1 := hS9.b3.at_ (i := 1) rfl
          have e2 := hS9.b3.at_ (i := 2) rfl
          have e3 := hS9.b3.at_ (i := 3) rfl
          simp only at e0 e1 e2 e3
          rw [hlen2, HDA.out] at e3
          rw [HMN.out] at e0
          have hix3 := fun w => idx_rows gd2 0 m t.dc b' (by omega) w
          have hix4 := fun w => idxI g2 0 q2.zs.length q2.c a (by omega) w
          rw [Nat.zero_add] at hix3 hix4
          have HTO := Lib.hid hto; have HS9 := Lib.hid hS9
          clear hto hS9 hlen2 hsq2 hT9 hda2 hga2 hq2
          go_upto_region 12 with fail
          clear c1 c2 f2 u3
          generalize w8.setCell ⟨g2, a, none⟩ (.int .i64 d') = w9 at *
          generalize hD2 : setD D1 b' a d' = D2 at *
          go_wp2_with fail
          refine HTO.out.mono ?_; rintro e w10 ⟨⟨t10, rfl, hO10, hs10⟩, hB10⟩
          have hck := topo_check t10 w10 hO10.inT
          rw [chkT_same hs10] at hck
          have HTW := HTWO.out
          rw [HTW] at hck
          unfold TopoV.val at hck
          have hbel := bel_trans HS9.out.bel hB10
          have HBEL := Lib.hid hbel
          clear hO10 hs10 hB10 HTO HS9 e0 e1 e2 e3 hbel HTW
          by_cases hdd : 11 ≤ d' ∧ d' ≤ 255
          · rw [if_pos hdd] at hck
            obtain ⟨hd1, hd2⟩ := hdd
            have HCK := Lib.hid hck
            clear hck HTWO
            go_wp2_with fail
            refine HCK.out.mono ?_; rintro e w11 ⟨rfl, hB11⟩
            go_wp2_with fail
            go_ret
            exact ⟨rfl, bel_trans HBEL.out hB11⟩
          · rw [if_neg hdd] at hck
            have HCK := Lib.hid hck
            clear hck HTWO
            rcases (by omega : ¬ 11 ≤ d' ∨ (11 ≤ d' ∧ ¬ d' ≤ 255)) with hx | ⟨hx, hy⟩
            all_goals
              clear hdd
              go_wp2_with fail
              refine HCK.out.mono ?_; rintro e w11 ⟨rfl, hB11⟩
              go_wp2_with fail
              go_ret
              refine ⟨?_, bel_trans HBEL.out hB11⟩
              first
                | rfl
                | (show Ending.returned (Value.bool (!decide (d' ≤ 255))) = _; rw [decide_eq_false (by omega)]; rfl)
                | (show Ending.returned (Value.bool (!decide (11 ≤ d'))) = _; rw [decide_eq_false (by omega)]; rfl)
  · go_wp2_with fail
    refine HX.out.mono ?_; rintro e w5 ⟨rfl, hB5⟩
    go_wp2_with fail
    go_ret
    exact ⟨rfl, bel_trans HS4.out.bel hB5⟩
end Go.Proofs.YtcanhegjhbhkhaaDoor
