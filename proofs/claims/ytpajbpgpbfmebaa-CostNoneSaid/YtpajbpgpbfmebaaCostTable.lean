/- cost.Table. -/
import Derived.Test.YtpajbpgpbfmebaaCostTo
import Derived.Test.YtpajbpgpbfmebaaGridRow
namespace Go.Proofs.Ytpajbpgpbfmebaa
open Go.RowKit
set_option linter.unusedVariables false
set_option linter.unusedSimpArgs false
attribute [local go_sem] World.cell?_alloc_lt

structure EvC where
  node : Int
  start : Int
  own : Int
  inter : Bool
/-- Events in memory. -/
structure InEs (w : World) (A : Option Addr) (n : Nat) (l : List EvC) : Prop where
  ln : l.length = n
  at_ : 0 < n → ∃ b off, A = some ⟨b, off, none⟩ ∧ b < w.heap.size ∧ ∀ j e, l[j]? = some e → w.cell? ⟨b, off + j * 4, none⟩ = some (.int .i64 e.node) ∧ w.cell? ⟨b, off + j * 4 + 1, none⟩ = some (.int .i64 e.start) ∧ w.cell? ⟨b, off + j * 4 + 2, none⟩ = some (.int .i64 e.own) ∧ w.cell? ⟨b, off + j * 4 + 3, none⟩ = some (.bool e.inter)
theorem InEs.below {w w' : World} {A : Option Addr} {n : Nat} {l : List EvC} (h : InEs w A n l) (k : Below w.heap.size w w') : InEs w' A n l :=
  ⟨h.ln, fun hn => by
    obtain ⟨b, off, ha, hb, hc⟩ := h.at_ hn
    refine ⟨b, off, ha, Nat.lt_of_lt_of_le hb k.size, fun j e hj => ?_⟩
    obtain ⟨h1, h2, h3, h4⟩ := hc j e hj
    exact ⟨(k.cell (p := ⟨b, off + j * 4, none⟩) hb).trans h1, (k.cell (p := ⟨b, off + j * 4 + 1, none⟩) hb).trans h2, (k.cell (p := ⟨b, off + j * 4 + 2, none⟩) hb).trans h3, (k.cell (p := ⟨b, off + j * 4 + 3, none⟩) hb).trans h4⟩⟩
theorem InEs.get {w : World} {A : Option Addr} {n i : Nat} {l : List EvC} (h : InEs w A n l) (hi : i < n) : ∃ b off e, A = some ⟨b, off, none⟩ ∧ b < w.heap.size ∧ l[i]? = some e ∧ w.cell? ⟨b, off + i * 4, none⟩ = some (.int .i64 e.node) ∧ w.cell? ⟨b, off + i * 4 + 1, none⟩ = some (.int .i64 e.start) ∧ w.cell? ⟨b, off + i * 4 + 2, none⟩ = some (.int .i64 e.own) ∧ w.cell? ⟨b, off + i * 4 + 3, none⟩ = some (.bool e.inter) := by
  obtain ⟨b, off, ha, hb, hc⟩ := h.at_ (by omega)
  have hl : i < l.length := by have := h.ln; omega
  have e := List.getElem?_eq_getElem hl
  exact ⟨b, off, l[i], ha, hb, e, hc i _ e⟩
theorem idx_es (b off n c i : Nat) (hi : i < n) (w : World) : (Instr.indexAt 59 (.slice (some ⟨b, off, none⟩) n c) (.int .i64 (i : Int))).run Try.prog w = .ok (.pointer (some ⟨b, off + i * 4, none⟩)) w := by
  simp [go_sem, hi]
/-- Do the nodes of an event lie in the machine? -/
def evOk (m : Nat) (e : EvC) : Bool := decide (0 ≤ e.own ∧ e.own < (m : Int) ∧ 0 ≤ e.node ∧ e.node < (m : Int))
/-- The table of the first k events. -/
def tabK (m : Nat) (l : List EvC) : Nat → List Int
  | 0 => List.replicate (m * m) 0
  | k + 1 => match l[k]? with
    | none => tabK m l k
    | some e => (tabK m l k).set (e.own.toNat * m + e.node.toNat) ((tabK m l k).getD (e.own.toNat * m + e.node.toNat) 0 + 1)
theorem tabK_succ {m k : Nat} {l : List EvC} {e : EvC} (h : l[k]? = some e) : tabK m l (k + 1) = (tabK m l k).set (e.own.toNat * m + e.node.toNat) ((tabK m l k).getD (e.own.toNat * m + e.node.toNat) 0 + 1) := by
  simp only [tabK, h]
theorem tabK_bd (m : Nat) (l : List EvC) : ∀ k i, 0 ≤ (tabK m l k).getD i 0 ∧ (tabK m l k).getD i 0 ≤ (k : Int) := by
  intro k
  induction k with
  | zero =>
    intro i
    simp only [tabK, List.getD_eq_getElem?_getD, List.getElem?_replicate]
    split <;> simp
  | succ k ih =>
    intro i
    cases hl : l[k]? with
    | none => simp only [tabK, hl]; have := ih i; omega
    | some e =>
      rw [tabK_succ hl, List.getD_eq_getElem?_getD, List.getElem?_set]
      have h1 := ih i
      have h2 := ih (e.own.toNat * m + e.node.toNat)
      rw [List.getD_eq_getElem?_getD] at h1
      split
      · split
        · simp only [Option.getD_some]; omega
        · simp only [Option.getD_none]; omega
      · omega
theorem all_take {α : Type} (f : α → Bool) (xs : List α) (i : Nat) (x : α) (h : xs[i]? = some x) : (xs.take (i + 1)).all f = ((xs.take i).all f && f x) := by
  have hl := (List.getElem?_eq_some_iff.1 h).1
  rw [List.take_succ_eq_append_getElem hl, List.all_append]
  rw [List.getElem?_eq_getElem hl] at h
  injection h with h
  rw [h]
  simp
theorem all_not {α : Type} (f : α → Bool) (xs : List α) (i : Nat) (x : α) (h : xs[i]? = some x) (hf : f x = false) : xs.all f = false :=
  List.all_eq_false.2 ⟨x, List.mem_of_getElem? h, by rw [hf]; simp⟩
set_option maxRecDepth 100000 in
theorem table_no (t : TopoV) (A : Option Addr) (n c : Nat) (w : World) (hT : InTopo w t) (h : chkT t ≠ 0) : Calls Try.prog 31 #[t.val, .slice A n c] w fun e w' => e = .returned (.tuple #[.pointer none, .int .i64 (chkT t)]) ∧ Below w.heap.size w w' := by
  have hba : Below w.heap.size w (w.alloc (.cells #[.int .i64 t.N, .int .i64 t.F, .slice t.ca t.cs.length t.cc, .slice t.da t.ds.length t.dc] 46)) := bel_alloc (Below.refl _ _) _
  have hc := topo_check t _ (hT.below hba)
  have HC := Lib.hid hc; have HBA := Lib.hid hba
  have hv : (chkT t != 0) = true := by rw [bne_iff_ne]; exact h
  clear hba hc hT h
  generalize chkT t = E at *
  unfold TopoV.val at *
  go_enter Try.func31, Try.ntmps31
  go_wp2_with fail
  refine HC.out.mono ?_; rintro e w1 ⟨rfl, hB⟩
  go_wp2_with fail
  go_ret2
  exact ⟨rfl, bel_trans HBA.out hB⟩
set_option maxRecDepth 100000 in
set_option maxHeartbeats 2000000 in
theorem table_any (t : TopoV) (m : Nat) (h : chkT t = 0) (hN : t.N = (m : Int)) (A : Option Addr) (n c : Nat) (l : List EvC) (w : World) (hT : InTopo w t) (hE : InEs w A n l) (hn : n ≤ 1000) : Calls Try.prog 31 #[t.val, .slice A n c] w fun e w' => ((l.all (evOk m) = true ∧ ∃ g b, e = .returned (.tuple #[.pointer (some ⟨g, 0, none⟩), .int .i64 0]) ∧ GridI w' g b m m (tabK m l n)) ∨ (l.all (evOk m) = false ∧ e = .returned (.tuple #[.pointer none, .int .i64 10]))) ∧ Below w.heap.size w w' := by
  have hba : Below w.heap.size w (w.alloc (.cells #[.int .i64 t.N, .int .i64 t.F, .slice t.ca t.cs.length t.cc, .slice t.da t.ds.length t.dc] 46)) := bel_alloc (Below.refl _ _) _
  have hblk := Blk.new w 46 [.int .i64 t.N, .int .i64 t.F, .slice t.ca t.cs.length t.cc, .slice t.da t.ds.length t.dc]
  have hc := topo_check t _ (hT.below hba)
  rw [h] at hc
  obtain ⟨m', hN', hm1, hm8, hmat⟩ := chk_zero h
  obtain rfl : m' = m := by omega
  have hEa := hE.below hba
  have HC := Lib.hid hc; have HBA := Lib.hid hba; have HB := Lib.hid hblk; have HE := Lib.hid hEa
  clear hba hc hT h hmat hblk hE hEa hN'
  unfold TopoV.val at *
  rw [hN] at *
  clear hN
  go_enter Try.func31, Try.ntmps31
  go_wp2_with fail
  refine HC.out.mono ?_; rintro e w1 ⟨rfl, hB⟩
  generalize w.alloc (.cells #[.int .i64 (m' : Int), .int .i64 t.F, .slice t.ca t.cs.length t.cc, .slice t.da t.ds.length t.dc] 46) = wA at *
  have q0 := (HB.out.below hB).at_ (i := 0) rfl
  go_wp2_with fail
  refine (gi_new m' m' w1 (by omega) (by omega)).mono ?_; rintro e w2 ⟨g, b, rfl, hg, hbb, hG, hB1⟩
  have hB2 := bel_trans hB hB1
  have hws := hB.size
  clear q0 hB hB1
  go_wp2_with fail
  go_loopw [31] (fun v wr => ∃ k : Nat, k ≤ n ∧ v = .int .i64 (k : Int) ∧ (l.take k).all (evOk m') = true ∧ GridI wr g b m' m' (tabK m' l k) ∧ Below wA.heap.size wA wr) (fun v _ => n - (intOf v).toNat)
  case atStart => exact ⟨0, by omega, rfl, rfl, hG, hB2⟩
  case round =>
    clear hG hB2
    obtain ⟨k, hk, rfl, hall, hG, hB⟩ := hrel
    have HAL := Lib.hid hall
    clear hall
    by_cases hlt : k < n
    · obtain ⟨be, oe, ev, rfl, hbe, hle, c0, c1, c2, c3⟩ := (HE.out.below hB).get hlt
      have hix := fun w => idx_es be oe n c k hlt w
      have h1 := all_take (evOk m') l k ev hle
      have h2 := all_not (evOk m') l k ev hle
      have hts := tabK_succ (m := m') hle
      have htb := tabK_bd m' l k (ev.own.toNat * m' + ev.node.toNat)
      rw [HAL.out, Bool.true_and] at h1
      have H1 := Lib.hid h1; have H2 := Lib.hid h2; have HTS := Lib.hid hts
      clear h1 h2 hts hle
      obtain ⟨nd, st, ow, it⟩ := ev
      simp only at *
      by_cases hok : 0 ≤ ow ∧ ow < (m' : Int) ∧ 0 ≤ nd ∧ nd < (m' : Int)
      · have h1 := H1.out
        rw [show evOk m' ⟨nd, st, ow, it⟩ = true from decide_eq_true hok] at h1
        have H3 := Lib.hid h1
        obtain ⟨g1, g2, g3, g4⟩ := hok
        clear h1 H1 H2
        obtain ⟨x, rfl⟩ := Int.eq_ofNat_of_zero_le g1
        obtain ⟨y, rfl⟩ := Int.eq_ofNat_of_zero_le g3
        rw [Int.toNat_natCast, Int.toNat_natCast] at HTS htb
        have hxm : x < m' := by omega
        have hym : y < m' := by omega
        go_upto_region 10 with fail
        have hal := bel_alloc (Below.refl wr.heap.size wr) (.cells #[.int .i64 (y : Int), .int .i64 st, .int .i64 (x : Int), .bool it] 61)
        have hGa := hG.below hal
        have hBa := bel_alloc hB (.cells #[.int .i64 (y : Int), .int .i64 st, .int .i64 (x : Int), .bool it] 61)
        have hblk := Blk.new wr 61 [.int .i64 (y : Int), .int .i64 st, .int .i64 (x : Int), .bool it]
        have hbw : b < wr.heap.size := hG.dt.lt
        clear hal hG hB c0 c1 c2 c3 hix
        generalize wr.alloc (.cells #[.int .i64 (y : Int), .int .i64 st, .int .i64 (x : Int), .bool it] 61) = wa at *
        generalize wr.heap.size = p at *
        have q0 := hblk.at_ (i := 0) rfl
        have q2 := hblk.at_ (i := 2) rfl
        have hat := gi_At_yes g b m' m' (tabK m' l k) x y (x * m' + y) wa hGa hxm hym rfl
        have hpt := gi_Put_yes g b m' m' (tabK m' l k) x y (x * m' + y) ((tabK m' l k).getD (x * m' + y) 0 + 1) wa hGa hxm hym rfl
        rw [← HTS.out] at hpt
        have HAT := Lib.hid hat; have HPT := Lib.hid hpt
        clear hat hpt hGa hblk
        generalize (tabK m' l k).getD (x * m' + y) 0 = d at *
        go_wp2_with fail
        refine HAT.out.mono ?_; rintro e w4 ⟨rfl, rfl⟩
        go_wp2_with fail
        refine HPT.out.mono ?_; rintro e w5 ⟨rfl, hG5, hc⟩
        have hB5 := bel_ch hBa hc (by simp; omega)
        clear hc
        go_wp2_with fail
        go_roundw
        case rel => exact ⟨k + 1, by omega, by go_num, H3.out, hG5, hB5⟩
        case measure => simp [intOf]; omega
      · have HX := Lib.hid (H2.out (show evOk m' ⟨nd, st, ow, it⟩ = false from decide_eq_false hok))
        clear H1 H2 HTS htb
        have hG' := hG.below (bel_alloc (Below.refl wr.heap.size wr) (.cells #[.int .i64 nd, .int .i64 st, .int .i64 ow, .bool it] 61))
        have hno := gi_At_no g b m' m' (tabK m' l k) ow nd _ hG' (by omega)
        have hB' := bel_alloc hB (.cells #[.int .i64 nd, .int .i64 st, .int .i64 ow, .bool it] 61)
        have HNO := Lib.hid hno; have HB' := Lib.hid hB'
        clear hno hG' hG hB' hok
        go_wp2_with fail
        refine HNO.out.mono ?_; rintro e w4 ⟨rfl, hw⟩
        subst hw
        go_wp2_with fail
        go_ret2
        exact ⟨Or.inr ⟨HX.out, rfl⟩, bel_trans HBA.out HB'.out⟩
    · obtain rfl : k = n := by omega
      have hall := HAL.out
      rw [List.take_of_length_le (by rw [HE.out.ln]; omega)] at hall
      have HA2 := Lib.hid hall; have HG := Lib.hid hG
      clear hall HAL hG
      go_wp2_with fail
      go_ret2
      exact ⟨Or.inl ⟨HA2.out, g, b, rfl, HG.out⟩, bel_trans HBA.out hB⟩
end Go.Proofs.Ytpajbpgpbfmebaa
