/- messuageref29.Check, Sum. -/
import Derived.Test.YtpajbpgpbfmebaaCostFar
namespace Go.Proofs.Ytpajbpgpbfmebaa
open Go.RowKit
set_option linter.unusedVariables false
set_option linter.unusedSimpArgs false
attribute [local go_sem] World.cell?_alloc_lt

set_option maxRecDepth 100000 in
theorem rc_no (t : TopoV) (A : Option Addr) (n c : Nat) (w : World) (hT : InTopo w t) (h : chkT t ≠ 0) : Calls Try.prog 29 #[t.val, .slice A n c] w fun e w' => e = .returned (.int .i64 (chkT t)) ∧ Below w.heap.size w w' := by
  have hba : Below w.heap.size w (w.alloc (.cells #[.int .i64 t.N, .int .i64 t.F, .slice t.ca t.cs.length t.cc, .slice t.da t.ds.length t.dc] 42)) := bel_alloc (Below.refl _ _) _
  have hc := ref_check t _ (hT.below hba)
  have HC := Lib.hid hc; have HBA := Lib.hid hba
  have hv : (chkT t != 0) = true := by rw [bne_iff_ne]; exact h
  clear hba hc hT h
  generalize chkT t = E at *
  unfold TopoV.val at *
  go_enter Try.func29, Try.ntmps29
  go_wp2_with fail
  refine HC.out.mono ?_; rintro e w1 ⟨rfl, hB⟩
  go_wp2_with fail
  go_ret
  exact ⟨rfl, bel_trans HBA.out hB⟩
def rcV (b : Bool) : Int := if b then 0 else 10
set_option maxRecDepth 100000 in
set_option maxHeartbeats 4000000 in
theorem rc_any (t : TopoV) (m : Nat) (h : chkT t = 0) (hN : t.N = (m : Int)) (A : Option Addr) (n c : Nat) (l : List EvC) (w : World) (hT : InTopo w t) (hE : InEs w A n l) (hn : n ≤ 1000) : Calls Try.prog 29 #[t.val, .slice A n c] w fun e w' => e = .returned (.int .i64 (rcV (l.all (evOk m)))) ∧ Below w.heap.size w w' := by
  have hba : Below w.heap.size w (w.alloc (.cells #[.int .i64 t.N, .int .i64 t.F, .slice t.ca t.cs.length t.cc, .slice t.da t.ds.length t.dc] 42)) := bel_alloc (Below.refl _ _) _
  have hblk := Blk.new w 42 [.int .i64 t.N, .int .i64 t.F, .slice t.ca t.cs.length t.cc, .slice t.da t.ds.length t.dc]
  have hc := ref_check t _ (hT.below hba)
  rw [h] at hc
  have HC := Lib.hid hc; have HBA := Lib.hid hba; have HB := Lib.hid hblk; have HE := Lib.hid (hE.below hba); have HNN := Lib.hid hN
  obtain ⟨r, hr⟩ : ∃ r, rcV (l.all (evOk m)) = r := ⟨_, rfl⟩
  rw [hr]
  have HR := Lib.hid hr
  clear hba hc hT h hblk hE hN hr
  unfold TopoV.val at *
  go_enter Try.func29, Try.ntmps29
  go_wp2_with fail
  refine HC.out.mono ?_; rintro e w1 ⟨rfl, hB⟩
  generalize w.alloc (.cells #[.int .i64 t.N, .int .i64 t.F, .slice t.ca t.cs.length t.cc, .slice t.da t.ds.length t.dc] 42) = wA at *
  go_wp2_with fail
  go_loopw [6] (fun v wr => ∃ i : Nat, i ≤ n ∧ v = .int .i64 (i : Int) ∧ (l.take i).all (evOk m) = true ∧ Below wA.heap.size wA wr) (fun v _ => n - (intOf v).toNat)
  case atStart => exact ⟨0, by omega, rfl, rfl, hB⟩
  case round =>
    clear hB
    obtain ⟨i, hi, rfl, hok, hB⟩ := hrel
    have HOK := Lib.hid hok
    clear hok
    have q0 := (HB.out.below hB).at_ (i := 0) rfl
    rw [HNN.out] at q0
    by_cases hlt : i < n
    · obtain ⟨b, off, e, rfl, hb, hei, h0, h1, h2, h3⟩ := HE.out.get hlt
      replace h0 := (hB.cell (p := ⟨b, off + i * 4, none⟩) hb).trans h0
      replace h2 := (hB.cell (p := ⟨b, off + i * 4 + 2, none⟩) hb).trans h2
      have hix := fun w => idx_e16 b off n c i hlt w
      have ha1 := all_take (evOk m) l i e hei
      have ha2 := all_not (evOk m) l i e hei
      rw [HOK.out, Bool.true_and] at ha1
      have HA1 := Lib.hid ha1; have HA2 := Lib.hid ha2
      clear ha1 ha2 hei h1 h3
      obtain ⟨en, es, eo, ei⟩ := e
      simp only at *
      have hbad : evOk m ⟨en, es, eo, ei⟩ = false → r = 10 := fun h => by rw [← HR.out, HA2.out h]; rfl
      have hgood : 0 ≤ eo → eo < (m : Int) → 0 ≤ en → en < (m : Int) → (l.take (i + 1)).all (evOk m) = true := fun a b c d => by rw [HA1.out]; exact decide_eq_true ⟨a, b, c, d⟩
      have HBAD := Lib.hid hbad; have HGOOD := Lib.hid hgood
      clear hbad hgood HA1 HA2
      rcases Classical.em (eo < 0) with g1 | g1
      · have hr := HBAD.out (decide_eq_false (fun h => by simp only at h; omega))
        have HRR := Lib.hid hr
        clear hr HBAD HGOOD
        go_upto_region 7 with fail
        go_quiet (fail)
        go_wp2_with fail
        go_ret
        exact ⟨by rw [HRR.out]; rfl, bel_trans HBA.out (bel_drewN hB _)⟩
      · rcases Classical.em ((m : Int) ≤ eo) with g2 | g2
        · have hr := HBAD.out (decide_eq_false (fun h => by simp only at h; omega))
          have HRR := Lib.hid hr
          clear hr HBAD HGOOD
          go_upto_region 7 with fail
          go_quiet (fail)
          go_wp2_with fail
          go_ret
          exact ⟨by rw [HRR.out]; rfl, bel_trans HBA.out (bel_drewN hB _)⟩
        · rcases Classical.em (en < 0) with g3 | g3
          · have hr := HBAD.out (decide_eq_false (fun h => by simp only at h; omega))
            have HRR := Lib.hid hr
            clear hr HBAD HGOOD
            go_upto_region 7 with fail
            go_quiet (fail)
            go_wp2_with fail
            go_ret
            exact ⟨by rw [HRR.out]; rfl, bel_trans HBA.out (bel_drewN hB _)⟩
          · rcases Classical.em ((m : Int) ≤ en) with g4 | g4
            · have hr := HBAD.out (decide_eq_false (fun h => by simp only at h; omega))
              have HRR := Lib.hid hr
              clear hr HBAD HGOOD
              go_upto_region 7 with fail
              go_quiet (fail)
              go_wp2_with fail
              go_ret
              exact ⟨by rw [HRR.out]; rfl, bel_trans HBA.out (bel_drewN hB _)⟩
            · have hg := HGOOD.out (by omega) (by omega) (by omega) (by omega)
              have HG := Lib.hid hg
              clear hg HBAD HGOOD
              go_upto_region 7 with fail
              go_quiet (fail)
              go_wp2_with fail
              go_roundw
              case rel => exact ⟨i + 1, by omega, by go_num, HG.out, bel_drewN hB _⟩
              case measure => simp [intOf]; omega
    · obtain rfl : i = n := by omega
      have hok := HOK.out
      rw [List.take_of_length_le (by rw [HE.out.ln]; omega)] at hok
      have hr : r = 0 := by rw [← HR.out, hok]; rfl
      have HRR := Lib.hid hr
      clear hr hok
      go_wp2_with fail
      go_ret
      exact ⟨by rw [HRR.out]; rfl, bel_trans HBA.out hB⟩
theorem sumE_mono {D : List RowV} {m : Nat} {l : List EvC} (hl : l.all (evOk m) = true) (hm : ∀ a c, a < m → c < m → 10 ≤ dv D a c ∧ dv D a c ≤ 255) (k : Nat) (hk : k ≤ l.length) : 10 * (k : Int) ≤ sumE (fun d => d) D l k ∧ sumE (fun d => d) D l k ≤ 255 * (k : Int) :=
  sumE_bd (f := fun d => d) hl (fun a b ha hb => hm a b ha hb) k hk
set_option maxRecDepth 100000 in
set_option maxHeartbeats 4000000 in
theorem rsum_any (t : TopoV) (m : Nat) (hmat : matB m t.ds = true) (A : Option Addr) (n c : Nat) (l : List EvC) (lim : Int) (w : World) (hT : InTopo w t) (hE : InEs w A n l) (hn : n ≤ 1000) (hall : l.all (evOk m) = true) : Calls Try.prog 32 #[t.val, .slice A n c, .int .i64 lim] w fun e w' => e = .returned (.tuple #[.int .i64 (sumE (fun d => d) t.ds l n), .int .i64 (sumE (farF lim) t.ds l n)]) ∧ Below w.heap.size w w' := by
  have hba : Below w.heap.size w (w.alloc (.cells #[.int .i64 t.N, .int .i64 t.F, .slice t.ca t.cs.length t.cc, .slice t.da t.ds.length t.dc] 42)) := bel_alloc (Below.refl _ _) _
  have hblk := Blk.new w 42 [.int .i64 t.N, .int .i64 t.F, .slice t.ca t.cs.length t.cc, .slice t.da t.ds.length t.dc]
  have hd := hT.d.below hba
  obtain ⟨hL, hR, hdv⟩ := mat_bds hmat
  have hb1 := fun k (hk : k ≤ l.length) => sumE_mono hall hdv k hk
  have hb2 := fun k (hk : k ≤ l.length) => sumE_bd (f := farF lim) (D := t.ds) (lo := 0) (hi := 255) hall (fun a b _ _ => farF_bd lim _) k hk
  have hln := hE.ln
  have HBA := Lib.hid hba; have HB := Lib.hid hblk; have HE := Lib.hid (hE.below hba); have HD := Lib.hid hd; have HL := Lib.hid hL; have HR := Lib.hid hR; have HB1 := Lib.hid hb1; have HB2 := Lib.hid hb2; have HALL := Lib.hid hall; have HLN := Lib.hid hln; have HDV := Lib.hid hdv
  clear hba hT hblk hE hd hL hR hb1 hb2 hall hmat hln hdv
  obtain ⟨N, F, ca, cc, cs, da, dc, ds⟩ := t
  simp only [TopoV.val] at *
  go_enter Try.func32, Try.ntmps32
  go_wp2_with fail
  generalize w.alloc (.cells #[.int .i64 N, .int .i64 F, .slice ca cs.length cc, .slice da ds.length dc] 42) = wA at *
  have hB0 := Below.refl wA.heap.size wA
  go_loopw [10, 8, 9] (fun v v8 v9 wr => ∃ i : Nat, i ≤ n ∧ v = .int .i64 (i : Int) ∧ v8 = .int .i64 (sumE (fun d => d) ds l i) ∧ v9 = .int .i64 (sumE (farF lim) ds l i) ∧ Below wA.heap.size wA wr) (fun v _ _ _ => n - (intOf v).toNat)
  case atStart => exact ⟨0, by omega, rfl, rfl, rfl, hB0⟩
  case round =>
    clear hB0
    obtain ⟨i, hi, rfl, rfl, rfl, hB⟩ := hrel
    by_cases hlt : i < n
    · have q3 := (HB.out.below hB).at_ (i := 3) rfl
      obtain ⟨b, off, e, rfl, hb, hei, h0, h1, h2, h3⟩ := HE.out.get hlt
      replace h0 := (hB.cell (p := ⟨b, off + i * 4, none⟩) hb).trans h0
      replace h2 := (hB.cell (p := ⟨b, off + i * 4 + 2, none⟩) hb).trans h2
      have hix := fun w => idx_e16 b off n c i hlt w
      obtain ⟨a, y, ha, hy, ham, hym⟩ := evOk_at (List.all_eq_true.1 HALL.out e (List.mem_of_getElem? hei))
      have hs1 := sumE_succ (f := fun d => d) (D := ds) hei
      have hs2 := sumE_succ (f := farF lim) (D := ds) hei
      have hx1 := HB1.out i (by rw [HLN.out]; omega)
      have hx2 := HB1.out (i + 1) (by rw [HLN.out]; omega)
      have hy1 := HB2.out i (by rw [HLN.out]; omega)
      have hy2 := HB2.out (i + 1) (by rw [HLN.out]; omega)
      rw [ha, hy, Int.toNat_natCast, Int.toNat_natCast] at hs1 hs2
      rw [hs1] at hx2
      rw [hs2] at hy2
      rw [ha] at h2
      rw [hy] at h0
      have hla : a < ds.length := by have := HL.out; omega
      obtain ⟨bx, off2, r, rfl, hbx, hri, hcr, hIr, _⟩ := HD.out.get (i := a) hla
      replace hcr := (hB.cell (p := ⟨bx, off2 + a, none⟩) hbx).trans hcr
      have hix2 := fun w => idx_rows bx off2 ds.length dc a hla w
      have hrl := HR.out r (List.mem_of_getElem? hri)
      have hv1 := dv_at (c := y) hri
      obtain ⟨ra, rc, zs⟩ := r
      simp only at *
      have hyz : y < zs.length := by omega
      obtain ⟨bz, oz, rfl, hbz, hcz⟩ := (hIr.below hB).get hyz
      have hiz := fun w => idxI bz oz zs.length rc y hyz w
      rw [← hv1] at hcz
      have hd1 := HDV.out a y ham hym
      have HS1 := Lib.hid hs1; have HS2 := Lib.hid hs2; have HRL := Lib.hid hrl
      clear hs1 hs2 hrl hri hv1 hei ha hy h1 h3 hIr
      generalize sumE (fun d => d) ds l i = p at *
      generalize sumE (farF lim) ds l i = q at *
      generalize dv ds a y = d at *
      have hsm1 : wrap64 (p + d) = p + d := wrap64_small (by omega) (by omega)
      have hsm2 : wrap64 (q + 1) = q + 1 := wrap64_small (by omega) (by omega)
      by_cases hfar : lim < d
      · have hf : farF lim d = 1 := if_pos hfar
        rw [hf] at HS2
        clear hf
        go_upto_region 5 with fail
        go_quiet (fail)
        go_wp2_with fail
        go_roundw
        case rel => exact ⟨i + 1, by omega, by go_num, by rw [HS1.out], by rw [HS2.out], bel_drewN hB _⟩
        case measure => simp [intOf]; omega
      · have hf : farF lim d = 0 := if_neg hfar
        rw [hf, Int.add_zero] at HS2
        clear hf
        go_upto_region 5 with fail
        go_quiet (fail)
        go_wp2_with fail
        go_roundw
        case rel => exact ⟨i + 1, by omega, by go_num, by rw [HS1.out], by rw [HS2.out], bel_drewN hB _⟩
        case measure => simp [intOf]; omega
    · obtain rfl : i = n := by omega
      go_wp2_with fail
      go_ret2
      exact ⟨rfl, bel_trans HBA.out hB⟩
end Go.Proofs.Ytpajbpgpbfmebaa
