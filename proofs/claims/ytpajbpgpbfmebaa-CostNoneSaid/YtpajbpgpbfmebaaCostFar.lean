/- cost.Far; folds that come to nothing; messuageref29.Check, Sum. -/
import Derived.Test.YtpajbpgpbfmebaaCostEv
import Derived.Deep.QuietTactic
namespace Go.Proofs.Ytpajbpgpbfmebaa
open Go.RowKit
set_option linter.unusedVariables false
set_option linter.unusedSimpArgs false
attribute [local go_sem] World.cell?_alloc_lt

def farF (lim d : Int) : Int := if lim < d then 1 else 0
theorem farF_bd (lim d : Int) : 0 ≤ farF lim d ∧ farF lim d ≤ 255 := by
  unfold farF
  split <;> omega
theorem farc_any (d lim : Int) (p : Nat) (w : World) (hp : w.cell? ⟨p, 0, none⟩ = some (.int .i64 lim)) : Calls Try.prog 51 #[.int .i64 d, .pointer (some ⟨p, 0, none⟩)] w fun e w' => e = .returned (.int .i64 (farF lim d)) ∧ w = w' := by
  unfold farF
  by_cases h : lim < d
  · rw [if_pos h]
    go_enter Try.func51, Try.ntmps51
    go_wp2_with fail
    go_ret
    exact ⟨rfl, rfl⟩
  · rw [if_neg h]
    go_enter Try.func51, Try.ntmps51
    go_wp2_with fail
    go_ret
    exact ⟨rfl, rfl⟩
set_option maxRecDepth 100000 in
set_option maxHeartbeats 4000000 in
theorem fold_far (t : TopoV) (m : Nat) (h : chkT t = 0) (hN : t.N = (m : Int)) (A : Option Addr) (n c : Nat) (l : List EvC) (w : World) (hT : InTopo w t) (hE : InEs w A n l) (hn : n ≤ 1000) (hall : l.all (evOk m) = true) (p : Nat) (lim : Int) (hp : w.cell? ⟨p, 0, none⟩ = some (.int .i64 lim)) (hpl : p < w.heap.size) : Calls Try.prog 49 #[t.val, .slice A n c, .func (Fn.func 51) #[] #[.pointer (some ⟨p, 0, none⟩)]] w fun e w' => e = .returned (.tuple #[.int .i64 (foldK (farF lim) t.ds (tabK m l n) m (m * m)), .int .i64 0]) ∧ Below w.heap.size w w' := by
  have hba : Below w.heap.size w (w.alloc (.cells #[.int .i64 t.N, .int .i64 t.F, .slice t.ca t.cs.length t.cc, .slice t.da t.ds.length t.dc] 46)) := bel_alloc (Below.refl _ _) _
  have hblk := Blk.new w 46 [.int .i64 t.N, .int .i64 t.F, .slice t.ca t.cs.length t.cc, .slice t.da t.ds.length t.dc]
  have htb := table_any t m h hN A n c l _ (hT.below hba) (hE.below hba) hn
  obtain ⟨m', hN', hm1, hm8, hmat⟩ := chk_zero h
  obtain rfl : m' = m := by omega
  have hd := hT.d.below hba
  have hxb := fun i => tabK_bd m' l n i
  obtain ⟨hL, hR, hbds⟩ := mat_bds hmat
  have hmm : m' * m' ≤ 64 := Nat.le_trans (Nat.mul_le_mul hm8 hm8) (by decide)
  have hfb := foldK_bd (farF lim) t.ds (tabK m' l n) m' n hxb (by omega) (fun i hi => by
    have h1 : i / m' < m' := Nat.div_lt_of_lt_mul hi
    have h2 : i % m' < m' := Nat.mod_lt _ (by omega)
    have := hbds _ _ h1 h2
    exact farF_bd lim _)
  have HP := Lib.hid (hba.cell (p := ⟨p, 0, none⟩) hpl |>.trans hp); have HC := Lib.hid htb; have HBA := Lib.hid hba; have HB := Lib.hid hblk; have HD := Lib.hid hd; have HXB := Lib.hid hxb; have HFB := Lib.hid hfb; have HL := Lib.hid hL; have HR := Lib.hid hR; have HDB := Lib.hid hbds; have HALL := Lib.hid hall
  clear hp hba htb hT h hmat hblk hE hN' hd hxb hfb hL hR hbds hall
  obtain ⟨N, F, ca, cc, cs, da, dc, ds⟩ := t
  simp only [TopoV.val] at *
  subst hN
  generalize hxe : tabK m' l n = xs at *
  have HXE := Lib.hid hxe
  clear hxe
  go_enter Try.func49, Try.ntmps49
  go_wp2_with fail
  refine HC.out.mono ?_; rintro e w1 ⟨hor, hB⟩
  generalize w.alloc (.cells #[.int .i64 (m' : Int), .int .i64 F, .slice ca cs.length cc, .slice da ds.length dc] 46) = wA at *
  rcases hor with ⟨_, g, b, rfl, hG⟩ | ⟨hno, _⟩
  · have hG1 := hG
    have q0 := (HB.out.below hB).at_ (i := 0) rfl
    have HG := Lib.hid hG1
    clear hG hG1
    go_wp2_with fail
    go_loopw [25, 10] (fun v v10 wr => ∃ a : Nat, a ≤ m' ∧ v = .int .i64 (a : Int) ∧ v10 = .int .i64 (foldK (farF lim) ds xs m' (a * m')) ∧ Below w1.heap.size w1 wr) (fun v _ _ => m' - (intOf v).toNat)
    case atStart => exact ⟨0, by omega, rfl, by rw [Nat.zero_mul]; rfl, Below.refl _ _⟩
    case round =>
      clear q0
      obtain ⟨a, ha, rfl, rfl, hBr⟩ := hrel
      by_cases hlt : a < m'
      · have hrw := gi_Row_yes g b m' m' xs a wr (HG.out.below hBr) hlt
        have HRW := Lib.hid hrw
        clear hrw
        go_wp2_with fail
        refine HRW.out.mono ?_; rintro e w2 ⟨hh, ch, rfl, hown, hB2⟩
        have hBs := bel_trans hBr hB2
        have HO := Lib.hid hown
        clear hown hB2 HRW
        go_wp2_with fail
        go_loopw [32, 10] (fun v v10 wx => ∃ y : Nat, y ≤ m' ∧ v = .int .i64 (y : Int) ∧ v10 = .int .i64 (foldK (farF lim) ds xs m' (a * m' + y)) ∧ wx = w2) (fun v _ _ => m' - (intOf v).toNat)
        case atStart => exact ⟨0, by omega, rfl, rfl, rfl⟩
        case round =>
          obtain ⟨y, hy, rfl, rfl, rfl⟩ := hrel
          by_cases hyl : y < m'
          · have hBA := bel_trans hB hBs
            have hln : xs.length = m' * m' := by have := HG.out.ln; exact this
            have hk : a * m' + y < m' * m' := place_lt hlt hyl
            have hrow : ((xs.drop (a * m')).take m')[y]? = some (xs.getD (a * m' + y) 0) := by
              rw [List.getElem?_take, if_pos hyl, List.getElem?_drop, List.getD_eq_getElem?_getD, List.getElem?_eq_getElem (by omega)]
              rfl
            obtain ⟨gx, hgx, hcx, _, _, _⟩ := own_at HO.out (k := y) (u := .int .i64 (xs.getD (a * m' + y) 0)) (by rw [List.getElem?_map, hrow]; rfl)
            injection hgx with hgx; injection hgx with hgx; subst hgx
            have hix := fun w => idx_own hh m' ch y hyl w
            have hla : a < ds.length := by have := HL.out; omega
            obtain ⟨bx, off, r, rfl, hbx, hri, hcr, hIr, _⟩ := (HD.out.below hBA).get (i := a) hla
            have hix2 := fun w => idx_rows bx off ds.length dc a hla w
            have hrl := HR.out r (List.mem_of_getElem? hri)
            have hv1 := dv_at (c := y) hri
            obtain ⟨ra, rc, zs⟩ := r
            simp only at *
            have hyz : y < zs.length := by omega
            obtain ⟨bz, oz, rfl, hbz, hcz⟩ := hIr.get hyz
            have hiz := fun w => idxI bz oz zs.length rc y hyz w
            rw [← hv1] at hcz
            have hf1 := HFB.out (a * m' + y) (by omega)
            have hf2 := HFB.out (a * m' + y + 1) (by omega)
            have hfa := foldK_at (farF lim) ds xs (a := a) (b := y) hyl
            have hq3 := (HB.out.below hBA).at_ (i := 3) rfl
            have hx1 := HXB.out (a * m' + y)
            have hd1 := HDB.out a y hlt hyl
            rw [hfa] at hf2
            have HFA := Lib.hid hfa
            have HRL := Lib.hid hrl
            clear hIr hri hv1 hrl hln hrow hfa
            generalize dv ds a y = d at *
            generalize xs.getD (a * m' + y) 0 = x at *
            generalize foldK (farF lim) ds xs m' (a * m' + y) = s at *
            have hpc := (hBA.cell (p := ⟨p, 0, none⟩) (Nat.lt_of_lt_of_le hpl HBA.out.size)).trans HP.out
            have hca := farc_any d lim p _ hpc
            have HCA := Lib.hid hca
            have hfd := farF_bd lim d
            clear hca hpc
            generalize farF lim d = fd at *
            have hxd : 0 ≤ x * fd ∧ x * fd ≤ 1000 * 255 := ⟨Int.mul_nonneg hx1.1 (by omega), Int.mul_le_mul (by omega) (by omega) (by omega) (by omega)⟩
            have hsm1 : wrap64 (x * fd) = x * fd := wrap64_small (by omega) (by omega)
            have hsm2 : wrap64 (s + x * fd) = s + x * fd := wrap64_small (by omega) (by omega)
            go_wp2_with fail
            refine HCA.out.mono ?_; rintro e w3 ⟨rfl, hw⟩
            subst hw
            go_wp2_with fail
            go_roundw
            case rel => exact ⟨y + 1, by omega, by go_num, by rw [← Nat.add_assoc, HFA.out], by first | rfl | trivial⟩
            case measure => simp [intOf]; omega
          · obtain rfl : y = m' := by omega
            go_wp2_with fail
            go_roundw
            case rel => exact ⟨a + 1, by omega, by go_num, by rw [Nat.add_mul, Nat.one_mul], hBs⟩
            case measure => simp [intOf]; omega
      · obtain rfl : a = m' := by omega
        go_wp2_with fail
        go_ret2
        exact ⟨rfl, bel_trans HBA.out (bel_trans hB (by first | exact hBr.mono hB.size | exact hBr))⟩
  · rw [HALL.out] at hno; cases hno

set_option maxRecDepth 100000 in
theorem cost_far (t : TopoV) (m : Nat) (h : chkT t = 0) (hN : t.N = (m : Int)) (A : Option Addr) (n c : Nat) (l : List EvC) (lim : Int) (w : World) (hT : InTopo w t) (hE : InEs w A n l) (hn : n ≤ 1000) (hall : l.all (evOk m) = true) : Calls Try.prog 28 #[t.val, .slice A n c, .int .i64 lim] w fun e w' => e = .returned (.tuple #[.int .i64 (foldK (farF lim) t.ds (tabK m l n) m (m * m)), .int .i64 0]) ∧ Below w.heap.size w w' := by
  have hba : Below w.heap.size w ((w.alloc (.cells #[.int .i64 t.N, .int .i64 t.F, .slice t.ca t.cs.length t.cc, .slice t.da t.ds.length t.dc] 46)).alloc (.cells #[.int .i64 lim] 3)) := bel_alloc (bel_alloc (Below.refl _ _) _) _
  have hpb := Blk.new (w.alloc (.cells #[.int .i64 t.N, .int .i64 t.F, .slice t.ca t.cs.length t.cc, .slice t.da t.ds.length t.dc] 46)) 3 [.int .i64 lim]
  rw [World.size_alloc] at hpb
  have hfo := fold_far t m h hN A n c l _ (hT.below hba) (hE.below hba) hn hall (w.heap.size + 1) lim (hpb.at_ rfl) hpb.lt
  have HF := Lib.hid hfo; have HBA := Lib.hid hba
  clear hba hfo hT hE h hN hall hpb
  generalize foldK (farF lim) t.ds (tabK m l n) m (m * m) = s at *
  unfold TopoV.val at *
  go_enter Try.func28, Try.ntmps28
  go_wp2_with fail
  refine HF.out.mono ?_; rintro e w1 ⟨rfl, hB⟩
  go_wp2_with fail
  go_ret2
  exact ⟨rfl, bel_trans HBA.out hB⟩
/-- A fold over what is no machine. -/
theorem fold_no (t : TopoV) (A : Option Addr) (n c : Nat) (fv : Value) (w : World) (hT : InTopo w t) (h : chkT t ≠ 0) : Calls Try.prog 49 #[t.val, .slice A n c, fv] w fun e w' => e = .returned (.tuple #[.int .i64 0, .int .i64 (chkT t)]) ∧ Below w.heap.size w w' := by
  have hba : Below w.heap.size w (w.alloc (.cells #[.int .i64 t.N, .int .i64 t.F, .slice t.ca t.cs.length t.cc, .slice t.da t.ds.length t.dc] 46)) := bel_alloc (Below.refl _ _) _
  have htb := table_no t A n c _ (hT.below hba) h
  have HC := Lib.hid htb; have HBA := Lib.hid hba
  have hv : (chkT t != 0) = true := by rw [bne_iff_ne]; exact h
  clear hba htb hT h
  generalize chkT t = E at *
  unfold TopoV.val at *
  go_enter Try.func49, Try.ntmps49
  go_wp2_with fail
  refine HC.out.mono ?_; rintro e w1 ⟨rfl, hB⟩
  go_wp2_with fail
  go_ret2
  exact ⟨rfl, bel_trans HBA.out hB⟩
/-- A fold over events of which one may not be. -/
theorem fold_bad (t : TopoV) (m : Nat) (h : chkT t = 0) (hN : t.N = (m : Int)) (A : Option Addr) (n c : Nat) (l : List EvC) (fv : Value) (w : World) (hT : InTopo w t) (hE : InEs w A n l) (hn : n ≤ 1000) (hall : l.all (evOk m) = false) : Calls Try.prog 49 #[t.val, .slice A n c, fv] w fun e w' => e = .returned (.tuple #[.int .i64 0, .int .i64 10]) ∧ Below w.heap.size w w' := by
  have hba : Below w.heap.size w (w.alloc (.cells #[.int .i64 t.N, .int .i64 t.F, .slice t.ca t.cs.length t.cc, .slice t.da t.ds.length t.dc] 46)) := bel_alloc (Below.refl _ _) _
  have htb := table_any t m h hN A n c l _ (hT.below hba) (hE.below hba) hn
  have HC := Lib.hid htb; have HBA := Lib.hid hba; have HALL := Lib.hid hall
  clear hba htb hT h hE hN hall
  unfold TopoV.val at *
  go_enter Try.func49, Try.ntmps49
  go_wp2_with fail
  refine HC.out.mono ?_; rintro e w1 ⟨hor, hB⟩
  rcases hor with ⟨hy, _⟩ | ⟨_, rfl⟩
  · rw [HALL.out] at hy; cases hy
  · clear HC
    go_wp2_with fail
    go_ret2
    exact ⟨rfl, bel_trans HBA.out hB⟩
/-- Whatever fold says of a machine and events that come to nothing, Sum and Far say too. -/
theorem sum_of (t : TopoV) (A : Option Addr) (n c : Nat) (E : Int) (w : World) (hf : ∀ fv, Calls Try.prog 49 #[t.val, .slice A n c, fv] (w.alloc (.cells #[.int .i64 t.N, .int .i64 t.F, .slice t.ca t.cs.length t.cc, .slice t.da t.ds.length t.dc] 46)) fun e w' => e = .returned (.tuple #[.int .i64 0, .int .i64 E]) ∧ Below (w.alloc (.cells #[.int .i64 t.N, .int .i64 t.F, .slice t.ca t.cs.length t.cc, .slice t.da t.ds.length t.dc] 46)).heap.size (w.alloc (.cells #[.int .i64 t.N, .int .i64 t.F, .slice t.ca t.cs.length t.cc, .slice t.da t.ds.length t.dc] 46)) w') : Calls Try.prog 27 #[t.val, .slice A n c] w fun e w' => e = .returned (.tuple #[.int .i64 0, .int .i64 E]) ∧ Below w.heap.size w w' := by
  have hba : Below w.heap.size w (w.alloc (.cells #[.int .i64 t.N, .int .i64 t.F, .slice t.ca t.cs.length t.cc, .slice t.da t.ds.length t.dc] 46)) := bel_alloc (Below.refl _ _) _
  have HF := Lib.hid hf; have HBA := Lib.hid hba
  clear hf hba
  unfold TopoV.val at *
  go_enter Try.func27, Try.ntmps27
  go_wp2_with fail
  refine (HF.out _).mono ?_; rintro e w1 ⟨rfl, hB⟩
  go_wp2_with fail
  go_ret2
  exact ⟨rfl, bel_trans HBA.out hB⟩
theorem far_of (t : TopoV) (A : Option Addr) (n c : Nat) (E lim : Int) (w : World) (hf : ∀ fv, Calls Try.prog 49 #[t.val, .slice A n c, fv] ((w.alloc (.cells #[.int .i64 t.N, .int .i64 t.F, .slice t.ca t.cs.length t.cc, .slice t.da t.ds.length t.dc] 46)).alloc (.cells #[.int .i64 lim] 3)) fun e w' => e = .returned (.tuple #[.int .i64 0, .int .i64 E]) ∧ Below ((w.alloc (.cells #[.int .i64 t.N, .int .i64 t.F, .slice t.ca t.cs.length t.cc, .slice t.da t.ds.length t.dc] 46)).alloc (.cells #[.int .i64 lim] 3)).heap.size ((w.alloc (.cells #[.int .i64 t.N, .int .i64 t.F, .slice t.ca t.cs.length t.cc, .slice t.da t.ds.length t.dc] 46)).alloc (.cells #[.int .i64 lim] 3)) w') : Calls Try.prog 28 #[t.val, .slice A n c, .int .i64 lim] w fun e w' => e = .returned (.tuple #[.int .i64 0, .int .i64 E]) ∧ Below w.heap.size w w' := by
  have hba : Below w.heap.size w ((w.alloc (.cells #[.int .i64 t.N, .int .i64 t.F, .slice t.ca t.cs.length t.cc, .slice t.da t.ds.length t.dc] 46)).alloc (.cells #[.int .i64 lim] 3)) := bel_alloc (bel_alloc (Below.refl _ _) _) _
  have HF := Lib.hid hf; have HBA := Lib.hid hba
  clear hf hba
  unfold TopoV.val at *
  go_enter Try.func28, Try.ntmps28
  go_wp2_with fail
  refine (HF.out _).mono ?_; rintro e w1 ⟨rfl, hB⟩
  go_wp2_with fail
  go_ret2
  exact ⟨rfl, bel_trans HBA.out hB⟩
end Go.Proofs.Ytpajbpgpbfmebaa
