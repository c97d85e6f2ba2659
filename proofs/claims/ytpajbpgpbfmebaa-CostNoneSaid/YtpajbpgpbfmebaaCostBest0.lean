/- cost.Best and messuageref29.Best. -/
import Derived.Test.YtpajbpgpbfmebaaCost
import Derived.OwnWalk
namespace Go.Proofs.Ytpajbpgpbfmebaa
open Go.RowKit
set_option linter.unusedVariables false
set_option linter.unusedSimpArgs false
attribute [local go_sem] World.cell?_alloc_lt

theorem chk_zero {t : TopoV} (h : chkT t = 0) : ∃ m : Nat, t.N = (m : Int) ∧ 1 ≤ m ∧ m ≤ 8 ∧ matB m t.ds = true := by
  unfold chkT at h
  split at h
  · omega
  · rename_i hc
    split at h
    · omega
    · split at h
      · omega
      · rename_i hm
        have hc2 : cntB t = true := by simpa using hc
        unfold cntB at hc2
        rw [Bool.and_eq_true, Bool.and_eq_true] at hc2
        have h1 := of_decide_eq_true hc2.2.1
        obtain ⟨m, hN⟩ := Int.eq_ofNat_of_zero_le (show 0 ≤ t.N by omega)
        refine ⟨m, hN, by omega, by omega, ?_⟩
        rw [hN, Int.toNat_natCast] at hm
        simpa using hm
/-- The best node of the first k ones, and its sum. -/
def bestK (D : List RowV) (xs : List Int) (n : Nat) : Nat → Int × Int
  | 0 => (0, -1)
  | k + 1 => if (bestK D xs n k).2 < 0 ∨ sumTo D k xs n < (bestK D xs n k).2 then ((k : Int), sumTo D k xs n) else bestK D xs n k
section
variable (t : TopoV) (A : Option Addr) (n c : Nat) (xs : List Int) (w : World) (hT : InTopo w t) (hI : InI w A n xs) (hn : n ≤ 1000)
include hT hI hn
omit hI hn in
set_option maxRecDepth 100000 in
theorem best_no (h : chkT t ≠ 0) : Calls Try.prog 19 #[t.val, .slice A n c] w fun e w' => e = .returned (.tuple #[.int .i64 0, .int .i64 0, .int .i64 (chkT t)]) ∧ Below w.heap.size w w' := by
  have hba : Below w.heap.size w (w.alloc (.cells #[.int .i64 t.N, .int .i64 t.F, .slice t.ca t.cs.length t.cc, .slice t.da t.ds.length t.dc] 46)) := bel_alloc (Below.refl _ _) _
  have hc := topo_check t _ (hT.below hba)
  have HC := Lib.hid hc; have HBA := Lib.hid hba
  have hv : (chkT t != 0) = true := by rw [bne_iff_ne]; exact h
  clear hba hc hT h
  generalize chkT t = E at *
  unfold TopoV.val at *
  go_enter Try.func19, Try.ntmps19
  go_wp2_with fail
  refine HC.out.mono ?_; rintro e w1 ⟨rfl, hB⟩
  go_wp2_with fail
  go_ret3
  exact ⟨rfl, bel_trans HBA.out hB⟩
set_option maxRecDepth 100000 in
theorem best_bad (h : chkT t = 0) (hb : xs.any (badN t.N) = true) : Calls Try.prog 19 #[t.val, .slice A n c] w fun e w' => e = .returned (.tuple #[.int .i64 0, .int .i64 0, .int .i64 10]) ∧ Below w.heap.size w w' := by
  have hba : Below w.heap.size w (w.alloc (.cells #[.int .i64 t.N, .int .i64 t.F, .slice t.ca t.cs.length t.cc, .slice t.da t.ds.length t.dc] 46)) := bel_alloc (Below.refl _ _) _
  have hblk := Blk.new w 46 [.int .i64 t.N, .int .i64 t.F, .slice t.ca t.cs.length t.cc, .slice t.da t.ds.length t.dc]
  have hc := topo_check t _ (hT.below hba)
  rw [h] at hc
  obtain ⟨m, hN, hm1, hm8, hmat⟩ := chk_zero h
  rw [hN] at hb
  have hall := fun (w : World) (hT : InTopo w t) (hI : InI w A n xs) => cost_all t m 0 hm8 hN hmat (by omega) A n c xs w hT hI hn 0 false (fun _ => ⟨rfl, rfl⟩) (fun hg => by rw [hb] at hg; cases hg)
  have HC := Lib.hid hc; have HBA := Lib.hid hba; have HB := Lib.hid hblk; have HALL := Lib.hid hall; have HTA := Lib.hid (hT.below hba); have HI := Lib.hid (hI.below hba)
  clear hba hc hT hI h hmat hblk hall hb
  unfold TopoV.val at *
  rw [hN] at *
  clear hN
  go_enter Try.func19, Try.ntmps19
  go_wp2_with fail
  refine HC.out.mono ?_; rintro e w1 ⟨rfl, hB⟩
  generalize w.alloc (.cells #[.int .i64 (m : Int), .int .i64 t.F, .slice t.ca t.cs.length t.cc, .slice t.da t.ds.length t.dc] 46) = wA at *
  have hb1 := HB.out.below hB
  have q0 := hb1.at_ (i := 0) rfl
  have q1 := hb1.at_ (i := 1) rfl
  have q2 := hb1.at_ (i := 2) rfl
  have q3 := hb1.at_ (i := 3) rfl
  have hall := HALL.out w1 (HTA.out.below hB) (HI.out.below hB)
  have HAL := Lib.hid hall
  clear hb1 hall
  go_wp2_with fail
  go_loopw [20] (fun v wr => v = .int .i64 0 ∧ wr = w1) (fun _ _ => 0)
  case atStart => exact ⟨rfl, rfl⟩
  case round =>
    obtain ⟨rfl, rfl⟩ := hrel
    go_wp2_with fail
    refine HAL.out.mono ?_; rintro e w2 ⟨rfl, hB2⟩
    go_wp2_with fail
    go_ret3
    exact ⟨rfl, bel_trans (bel_trans HBA.out hB) hB2⟩
set_option maxRecDepth 100000 in
set_option maxHeartbeats 2000000 in
theorem best_yes (m : Nat) (h : chkT t = 0) (hN : t.N = (m : Int)) (hb : xs.any (badN t.N) = false) : Calls Try.prog 19 #[t.val, .slice A n c] w fun e w' => e = .returned (.tuple #[.int .i64 (bestK t.ds xs n m).1, .int .i64 (bestK t.ds xs n m).2, .int .i64 0]) ∧ Below w.heap.size w w' := by
  have hba : Below w.heap.size w (w.alloc (.cells #[.int .i64 t.N, .int .i64 t.F, .slice t.ca t.cs.length t.cc, .slice t.da t.ds.length t.dc] 46)) := bel_alloc (Below.refl _ _) _
  have hblk := Blk.new w 46 [.int .i64 t.N, .int .i64 t.F, .slice t.ca t.cs.length t.cc, .slice t.da t.ds.length t.dc]
  have hc := topo_check t _ (hT.below hba)
  rw [h] at hc
  obtain ⟨m', hN', hm1, hm8, hmat⟩ := chk_zero h
  obtain rfl : m' = m := by omega
  rw [hN] at hb
  have hall := fun (a : Nat) (ha : a < m') (w : World) (hT : InTopo w t) (hI : InI w A n xs) => cost_all t m' a hm8 hN hmat ha A n c xs w hT hI hn (sumTo t.ds a xs n) true (fun hg => by rw [hb] at hg; cases hg) (fun _ => ⟨rfl, rfl⟩)
  have HC := Lib.hid hc; have HBA := Lib.hid hba; have HB := Lib.hid hblk; have HALL := Lib.hid hall; have HTA := Lib.hid (hT.below hba); have HI := Lib.hid (hI.below hba)
  clear hba hc hT hI h hmat hblk hall hb hN'
  have hst : ∀ k, bestK t.ds xs n (k + 1) = if (bestK t.ds xs n k).2 < 0 ∨ sumTo t.ds k xs n < (bestK t.ds xs n k).2 then ((k : Int), sumTo t.ds k xs n) else bestK t.ds xs n k := fun k => rfl
  have HST := Lib.hid hst
  clear hst
  unfold TopoV.val at *
  rw [hN] at *
  clear hN
  go_enter Try.func19, Try.ntmps19
  go_wp2_with fail
  refine HC.out.mono ?_; rintro e w1 ⟨rfl, hB⟩
  generalize w.alloc (.cells #[.int .i64 (m' : Int), .int .i64 t.F, .slice t.ca t.cs.length t.cc, .slice t.da t.ds.length t.dc] 46) = wA at *
  have hb1 := HB.out.below hB
  have q0 := hb1.at_ (i := 0) rfl
  go_wp2_with fail
  go_loopw [20, 8, 9] (fun v v8 v9 wr => ∃ k : Nat, k ≤ m' ∧ v = .int .i64 (k : Int) ∧ v8 = .int .i64 (bestK t.ds xs n k).1 ∧ v9 = .int .i64 (bestK t.ds xs n k).2 ∧ Below wA.heap.size wA wr) (fun v _ _ _ => m' - (intOf v).toNat)
  case atStart => exact ⟨0, by omega, rfl, rfl, rfl, hB⟩
  case round =>
    clear hb1 q0 hB
    obtain ⟨k, hk, rfl, rfl, rfl, hB⟩ := hrel
    have hb1 := HB.out.below hB
    have q0 := hb1.at_ (i := 0) rfl
    have q1 := hb1.at_ (i := 1) rfl
    have q2 := hb1.at_ (i := 2) rfl
    have q3 := hb1.at_ (i := 3) rfl
    clear hb1
    by_cases hlt : k < m'
    · have hal := HALL.out k hlt wr (HTA.out.below hB) (HI.out.below hB)
      have hs := HST.out k
      have HAL := Lib.hid hal; have HS := Lib.hid hs
      clear hal hs
      generalize hbk : bestK t.ds xs n k = p at *
      obtain ⟨b, l⟩ := p
      simp only at *
      have HBK := Lib.hid hbk
      clear hbk
      generalize sumTo t.ds k xs n = s at *
      rcases Classical.em (l < 0) with g1 | g1
      · have hs := HS.out
        rw [if_pos (Or.inl g1)] at hs
        have HS2 := Lib.hid hs
        clear hs HS
        go_wp2_with fail
        refine HAL.out.mono ?_; rintro e w2 ⟨rfl, hB2⟩
        have hB3 := bel_trans hB hB2
        clear hB2 HAL
        go_wp2_with fail
        go_roundw
        case rel => exact ⟨k + 1, by omega, by go_num, by rw [HS2.out], by rw [HS2.out], hB3⟩
        case measure => simp [intOf]; omega
      · rcases Classical.em (s < l) with g2 | g2
        · have hs := HS.out
          rw [if_pos (Or.inr g2)] at hs
          have HS2 := Lib.hid hs
          clear hs HS
          go_wp2_with fail
          refine HAL.out.mono ?_; rintro e w2 ⟨rfl, hB2⟩
          have hB3 := bel_trans hB hB2
          clear hB2 HAL
          go_wp2_with fail
          go_roundw
          case rel => exact ⟨k + 1, by omega, by go_num, by rw [HS2.out], by rw [HS2.out], hB3⟩
          case measure => simp [intOf]; omega
        · have hs := HS.out
          rw [if_neg (fun h => h.elim g1 g2)] at hs
          have HS2 := Lib.hid hs
          clear hs HS
          go_wp2_with fail
          refine HAL.out.mono ?_; rintro e w2 ⟨rfl, hB2⟩
          have hB3 := bel_trans hB hB2
          clear hB2 HAL
          go_wp2_with fail
          go_roundw
          case rel => exact ⟨k + 1, by omega, by go_num, by rw [HS2.out], by rw [HS2.out], hB3⟩
          case measure => simp [intOf]; omega
    · obtain rfl : k = m' := by omega
      go_wp2_with fail
      go_ret3
      exact ⟨rfl, bel_trans HBA.out hB⟩
end
set_option maxRecDepth 100000 in
set_option maxHeartbeats 4000000 in
theorem ref_best (t : TopoV) (m : Nat) (hm8 : m ≤ 8) (hmat : matB m t.ds = true) (hN : t.N = (m : Int)) (A : Option Addr) (n c : Nat) (xs : List Int) (w : World) (hT : InTopo w t) (hI : InI w A n xs) (hn : n ≤ 1000) (hb : xs.any (badN (m : Int)) = false) : Calls Try.prog 23 #[t.val, .slice A n c] w fun e w' => e = .returned (.tuple #[.int .i64 (bestK t.ds xs n m).1, .int .i64 (bestK t.ds xs n m).2]) ∧ Below w.heap.size w w' := by
  have hblk := Blk.new w 42 [.int .i64 t.N, .int .i64 t.F, .slice t.ca t.cs.length t.cc, .slice t.da t.ds.length t.dc]
  have hba : Below w.heap.size w (w.alloc (.cells #[.int .i64 t.N, .int .i64 t.F, .slice t.ca t.cs.length t.cc, .slice t.da t.ds.length t.dc] 42)) := bel_alloc (Below.refl _ _) _
  have hd := hT.d.below hba
  have hIa := hI.below hba
  obtain ⟨hL, hR, _⟩ := mat_bds hmat
  have hbd := fun a (ha : a < m) => sumTo_bd (xs := xs) (a := a) hmat ha
  have hln := hI.ln
  clear hT hI hmat
  obtain ⟨N, F, ca, cc, cs, da, dc, ds⟩ := t
  simp only [TopoV.val] at *
  subst hN
  have hst : ∀ k, bestK ds xs n (k + 1) = if (bestK ds xs n k).2 < 0 ∨ sumTo ds k xs n < (bestK ds xs n k).2 then ((k : Int), sumTo ds k xs n) else bestK ds xs n k := fun k => rfl
  have HBA := Lib.hid hba; have HD := Lib.hid hd; have HB := Lib.hid hblk; have HI := Lib.hid hIa; have HL := Lib.hid hL; have HR := Lib.hid hR; have HBD := Lib.hid hbd; have HLN := Lib.hid hln; have HNO := Lib.hid hb; have HST := Lib.hid hst
  clear hba hd hblk hIa hL hR hbd hln hb hst
  go_enter Try.func23, Try.ntmps23
  go_wp2_with fail
  generalize w.alloc (.cells #[.int .i64 (m : Int), .int .i64 F, .slice ca cs.length cc, .slice da ds.length dc] 42) = wA at *
  go_loopw [8, 6, 7] (fun v v6 v7 wr => ∃ k : Nat, k ≤ m ∧ v = .int .i64 (k : Int) ∧ v6 = .int .i64 (bestK ds xs n k).1 ∧ v7 = .int .i64 (bestK ds xs n k).2 ∧ Below wA.heap.size wA wr) (fun v _ _ _ => m - (intOf v).toNat)
  case atStart => exact ⟨0, by omega, rfl, rfl, rfl, Below.refl _ _⟩
  case round =>
    obtain ⟨k, hk, rfl, rfl, rfl, hB⟩ := hrel
    have hb1 := HB.out.below hB
    have q0 := hb1.at_ (i := 0) rfl
    clear hb1
    by_cases hlt : k < m
    · have hs := HST.out k
      have HS := Lib.hid hs
      clear hs
      generalize hbk : bestK ds xs n k = p at *
      obtain ⟨b, l⟩ := p
      simp only at *
      have HBK := Lib.hid hbk
      clear hbk
      go_wp2_with fail
      go_loopw [10, 9] (fun v v9 wr => ∃ i : Nat, i ≤ n ∧ v = .int .i64 (i : Int) ∧ v9 = .int .i64 (sumTo ds k xs i) ∧ Below wA.heap.size wA wr) (fun v _ _ => n - (intOf v).toNat)
      case atStart => exact ⟨0, by omega, rfl, rfl, hB⟩
      case round =>
        clear q0 hB
        obtain ⟨i, hi, rfl, rfl, hB⟩ := hrel
        have hb1 := HB.out.below hB
        have q3 := hb1.at_ (i := 3) rfl
        clear hb1
        by_cases hil : i < n
        · have hix0 := HI.out.below hB
          have hxi : xs[i]? = some (xs.getD i 0) := by rw [List.getD_eq_getElem?_getD, List.getElem?_eq_getElem (by rw [HLN.out]; exact hil)]; rfl
          have hnb : badN (m : Int) (xs.getD i 0) = false := by
            cases hc : badN (m : Int) (xs.getD i 0) with
            | false => rfl
            | true =>
              have := any_of _ xs i _ hxi hc
              rw [HNO.out] at this
              cases this
          have hpre : ∀ j, (xs.take j).any (badN (m : Int)) = false := by
            intro j
            rw [List.any_eq_false]
            intro x hx
            have h1 := HNO.out
            rw [List.any_eq_false] at h1
            exact h1 x (List.mem_of_mem_take hx)
          have hs1 := HBD.out k hlt i (by rw [HLN.out]; omega) (hpre i)
          have hs2 := HBD.out k hlt (i + 1) (by rw [HLN.out]; omega) (hpre (i + 1))
          have hsu := sumTo_succ ds k xs i (by rw [HLN.out]; exact hil)
          rw [hsu] at hs2
          obtain ⟨bc, oc, rfl, hbc, hcx⟩ := hix0.get hil
          have hix := fun w => idxI bc oc n c i hil w
          unfold badN at hnb
          rw [Bool.or_eq_false_iff] at hnb
          have hx0 := of_decide_eq_false hnb.1
          have hx1 := of_decide_eq_false hnb.2
          have HSU := Lib.hid hsu
          clear hix0 hxi hnb hpre hsu
          generalize xs.getD i 0 = x at *
          obtain ⟨y, rfl⟩ := Int.eq_ofNat_of_zero_le (show 0 ≤ x by omega)
          have hym : y < m := by omega
          rw [Int.toNat_natCast] at HSU hs2
          have hla : k < ds.length := by have := HL.out; omega
          obtain ⟨bx, off, r, rfl, hbx, hri, hcr, hIr, _⟩ := HD.out.get (i := k) hla
          replace hcr := (hB.cell (p := ⟨bx, off + k, none⟩) hbx).trans hcr
          replace hIr := hIr.below hB
          have hix2 := fun w => idx_rows bx off ds.length dc k hla w
          have hrl := HR.out r (List.mem_of_getElem? hri)
          have hv1 := dv_at (c := y) hri
          obtain ⟨ra, rc, zs⟩ := r
          simp only at *
          have hyz : y < zs.length := by omega
          obtain ⟨bz, oz, rfl, hbz, hcz⟩ := hIr.get hyz
          have hiz := fun w => idxI bz oz zs.length rc y hyz w
          rw [← hv1] at hcz
          have HRL := Lib.hid hrl
          clear hIr hri hv1 hrl
          generalize dv ds k y = d at *
          generalize hsi : sumTo ds k xs i = s at *
          have HSI := Lib.hid hsi
          clear hsi
          have hsm : IntKind.i64.wrap (s + d) = s + d := i64_sm (by omega) (by omega)
          go_upto_region 9 with fail
          go_quiet (fail)
          go_wp2_with fail
          go_roundw
          case rel => exact ⟨i + 1, by omega, by go_num, by rw [HSU.out], bel_drewN hB _⟩
          case measure => simp [intOf]; omega
        · obtain rfl : i = n := by omega
          generalize sumTo ds k xs i = s at *
          rcases Classical.em (l < 0) with g1 | g1
          · have hs := HS.out
            rw [if_pos (Or.inl g1)] at hs
            have HS2 := Lib.hid hs
            clear hs HS
            go_wp2_with fail
            go_roundw
            case rel => exact ⟨k + 1, by omega, by go_num, by rw [HS2.out], by rw [HS2.out], hB⟩
            case measure => simp [intOf]; omega
          · rcases Classical.em (s < l) with g2 | g2
            · have hs := HS.out
              rw [if_pos (Or.inr g2)] at hs
              have HS2 := Lib.hid hs
              clear hs HS
              go_wp2_with fail
              go_roundw
              case rel => exact ⟨k + 1, by omega, by go_num, by rw [HS2.out], by rw [HS2.out], hB⟩
              case measure => simp [intOf]; omega
            · have hs := HS.out
              rw [if_neg (fun h => h.elim g1 g2)] at hs
              have HS2 := Lib.hid hs
              clear hs HS
              go_wp2_with fail
              go_roundw
              case rel => exact ⟨k + 1, by omega, by go_num, by rw [HS2.out], by rw [HS2.out], hB⟩
              case measure => simp [intOf]; omega
    · obtain rfl : k = m := by omega
      go_wp2_with fail
      go_ret2
      exact ⟨rfl, bel_trans HBA.out hB⟩
end Go.Proofs.Ytpajbpgpbfmebaa
