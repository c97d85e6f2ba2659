/- Package cost (layer 29): all, Best; messuageref29.Best. -/
import Derived.Test.YtpajbpgpbfmebaaTopoRef
namespace Go.Proofs.Ytpajbpgpbfmebaa
open Go.RowKit
set_option linter.unusedVariables false
set_option linter.unusedSimpArgs false
attribute [local go_sem] World.cell?_alloc_lt

/-- The distances from a node to some nodes, added. -/
def sumTo (D : List RowV) (a : Nat) (xs : List Int) (k : Nat) : Int := ((xs.take k).map fun x => dv D a x.toNat).foldl (· + ·) 0
theorem sumTo_zero (D : List RowV) (a : Nat) (xs : List Int) : sumTo D a xs 0 = 0 := rfl
theorem sumTo_succ (D : List RowV) (a : Nat) (xs : List Int) (k : Nat) (h : k < xs.length) : sumTo D a xs (k + 1) = sumTo D a xs k + dv D a (xs.getD k 0).toNat := by
  unfold sumTo
  rw [List.take_succ_eq_append_getElem h, List.map_append, List.foldl_append, List.getD_eq_getElem?_getD, List.getElem?_eq_getElem h]
  rfl
theorem mat_bds {m : Nat} {D : List RowV} (h : matB m D = true) : D.length = m ∧ (∀ r ∈ D, r.zs.length = m) ∧ ∀ a c, a < m → c < m → 10 ≤ dv D a c ∧ dv D a c ≤ 255 := by
  unfold matB sqB at h
  rw [Bool.and_eq_true, Bool.and_eq_true, Bool.and_eq_true, List.all_eq_true] at h
  refine ⟨of_decide_eq_true h.1.1, fun r hr => of_decide_eq_true (h.1.2 r hr), fun a c ha hc => ?_⟩
  have h2 := of_decide_eq_true h.2.2 ⟨a, ha⟩ ⟨c, hc⟩
  unfold okE at h2
  simp only at h2
  split at h2
  · have := of_decide_eq_true h2; omega
  · have := of_decide_eq_true h2; omega
theorem sumTo_bd {m : Nat} {D : List RowV} {a : Nat} {xs : List Int} (h : matB m D = true) (ha : a < m) : ∀ k, k ≤ xs.length → (xs.take k).any (badN (m : Int)) = false → 0 ≤ sumTo D a xs k ∧ sumTo D a xs k ≤ 255 * (k : Int) := by
  intro k
  induction k with
  | zero => intro _ _; rw [sumTo_zero]; omega
  | succ k ih =>
    intro hk hb
    have hl : k < xs.length := by omega
    have hxi : xs[k]? = some (xs.getD k 0) := by rw [List.getD_eq_getElem?_getD, List.getElem?_eq_getElem hl]; rfl
    rw [any_take _ xs k _ hxi, Bool.or_eq_false_iff] at hb
    have h1 := ih (by omega) hb.1
    have h2 := hb.2
    unfold badN at h2
    rw [Bool.or_eq_false_iff] at h2
    have h3 := of_decide_eq_false h2.1
    have h4 := of_decide_eq_false h2.2
    have h5 := (mat_bds h).2.2 a (xs.getD k 0).toNat ha (by omega)
    rw [sumTo_succ _ _ _ _ hl]
    omega
set_option maxRecDepth 100000 in
set_option maxHeartbeats 2000000 in
theorem cost_all (t : TopoV) (m a : Nat) (hm8 : m ≤ 8) (hN : t.N = (m : Int)) (hmat : matB m t.ds = true) (ha : a < m) (A : Option Addr) (n c : Nat) (xs : List Int) (w : World) (hT : InTopo w t) (hI : InI w A n xs) (hn : n ≤ 1000) (r : Int) (ok : Bool) (hbad : xs.any (badN (m : Int)) = true → r = 0 ∧ ok = false) (hgood : xs.any (badN (m : Int)) = false → r = sumTo t.ds a xs n ∧ ok = true) :
    Calls Try.prog 44 #[t.val, .int .i64 (a : Int), .slice A n c] w fun e w' => e = .returned (.tuple #[.int .i64 r, .bool ok]) ∧ Below w.heap.size w w' := by
  have hb := Blk.new w 46 [.int .i64 t.N, .int .i64 t.F, .slice t.ca t.cs.length t.cc, .slice t.da t.ds.length t.dc]
  have hba : Below w.heap.size w (w.alloc (.cells #[.int .i64 t.N, .int .i64 t.F, .slice t.ca t.cs.length t.cc, .slice t.da t.ds.length t.dc] 46)) := bel_alloc (Below.refl _ _) _
  have hd := hT.d.below hba
  have hIa := hI.below hba
  obtain ⟨hL, hR, _⟩ := mat_bds hmat
  have hbd := sumTo_bd (xs := xs) hmat ha
  have hln := hI.ln
  clear hT hI hmat
  obtain ⟨N, F, ca, cc, cs, da, dc, ds⟩ := t
  simp only [TopoV.val] at *
  subst hN
  have HBA := Lib.hid hba; have HD := Lib.hid hd; have HB := Lib.hid hb; have HI := Lib.hid hIa; have HL := Lib.hid hL; have HR := Lib.hid hR; have HBD := Lib.hid hbd; have HLN := Lib.hid hln; have HBAD := Lib.hid hbad; have HGOOD := Lib.hid hgood
  clear hbad hgood hba hd hb hIa hL hR hbd hln
  go_enter Try.func44, Try.ntmps44
  go_wp2_with fail
  generalize w.alloc (.cells #[.int .i64 (m : Int), .int .i64 F, .slice ca cs.length cc, .slice da ds.length dc] 46) = wA at *
  go_loopw [13, 8] (fun v v8 wr => ∃ i : Nat, i ≤ n ∧ v = .int .i64 (i : Int) ∧ v8 = .int .i64 (sumTo ds a xs i) ∧ (xs.take i).any (badN (m : Int)) = false ∧ wr = wA) (fun v _ _ => n - (intOf v).toNat)
  case atStart => exact ⟨0, by omega, rfl, rfl, rfl, rfl⟩
  case round =>
    obtain ⟨i, hi, rfl, rfl, hno, rfl⟩ := hrel
    have HNO := Lib.hid hno
    clear hno
    have q0 := HB.out.at_ (i := 0) rfl
    have q3 := HB.out.at_ (i := 3) rfl
    by_cases hlt : i < n
    · have hxi : xs[i]? = some (xs.getD i 0) := by rw [List.getD_eq_getElem?_getD, List.getElem?_eq_getElem (by rw [HLN.out]; exact hlt)]; rfl
      obtain ⟨bc, oc, rfl, hbc, hcx⟩ := HI.out.get hlt
      have hix := fun w => idxI bc oc n c i hlt w
      have h1 := any_take (badN (m : Int)) xs i _ hxi
      have h2 := any_of (badN (m : Int)) xs i _ hxi
      rw [HNO.out, Bool.false_or] at h1
      have hsu := sumTo_succ ds a xs i (by rw [HLN.out]; exact hlt)
      have hb1 := HBD.out i (by rw [HLN.out]; omega) HNO.out
      have H1 := Lib.hid h1; have H2 := Lib.hid h2; have HSU := Lib.hid hsu
      clear h1 h2 hxi hsu
      generalize xs.getD i 0 = x at *
      generalize hsi : sumTo ds a xs i = s at *
      have HSI := Lib.hid hsi
      clear hsi
      by_cases hx : x < 0
      · have hbx : badN (m : Int) x = true := by unfold badN; rw [decide_eq_true hx]; rfl
        obtain ⟨e1, e2⟩ := HBAD.out (H2.out hbx)
        have E1 := Lib.hid e1; have E2 := Lib.hid e2
        clear e1 e2
        clear hbx H1 H2
        go_wp2_with fail
        go_ret2
        exact ⟨by rw [E1.out, E2.out]; rfl, HBA.out⟩
      · by_cases hx2 : (m : Int) ≤ x
        · have hbx : badN (m : Int) x = true := by unfold badN; rw [decide_eq_true hx2, Bool.or_true]
          obtain ⟨e1, e2⟩ := HBAD.out (H2.out hbx)
          have E1 := Lib.hid e1; have E2 := Lib.hid e2
          clear e1 e2
          clear hbx H1 H2
          go_wp2_with fail
          go_ret2
          exact ⟨by rw [E1.out, E2.out]; rfl, HBA.out⟩
        · have hbx : badN (m : Int) x = false := by unfold badN; rw [decide_eq_false hx, decide_eq_false hx2]; rfl
          have h1 := H1.out
          rw [hbx] at h1
          have H3 := Lib.hid h1
          clear h1 hbx H1 H2
          obtain ⟨y, rfl⟩ := Int.eq_ofNat_of_zero_le (show 0 ≤ x by omega)
          have hym : y < m := by omega
          rw [Int.toNat_natCast] at HSU
          have hla : a < ds.length := by have := HL.out; omega
          obtain ⟨bx, off, r, rfl, hbx, hri, hcr, hIr, _⟩ := HD.out.get (i := a) hla
          have hix2 := fun w => idx_rows bx off ds.length dc a hla w
          have hrl := HR.out r (List.mem_of_getElem? hri)
          have hv1 := dv_at (c := y) hri
          obtain ⟨ra, rc, zs⟩ := r
          simp only at *
          have hyz : y < zs.length := by omega
          obtain ⟨bz, oz, rfl, hbz, hcz⟩ := hIr.get hyz
          have hiz := fun w => idxI bz oz zs.length rc y hyz w
          rw [← hv1] at hcz
          have hb2 := HBD.out (i + 1) (by rw [HLN.out]; omega) H3.out
          rw [HSU.out] at hb2
          have HRL := Lib.hid hrl
          clear hIr hri hv1 hrl
          generalize dv ds a y = d at *
          have hsm : wrap64 (s + d) = s + d := wrap64_small (by omega) (by omega)
          go_wp2_with fail
          go_roundw
          case rel => exact ⟨i + 1, by omega, by go_num, by rw [HSU.out], H3.out, by first | rfl | trivial⟩
          case measure => simp [intOf]; omega
    · obtain rfl : i = n := by omega
      have hno := HNO.out
      rw [List.take_of_length_le (by rw [HLN.out]; omega)] at hno
      obtain ⟨e1, e2⟩ := HGOOD.out hno
      have E1 := Lib.hid e1; have E2 := Lib.hid e2
      clear hno HNO e1 e2
      go_wp2_with fail
      go_ret2
      exact ⟨by rw [E1.out, E2.out]; rfl, HBA.out⟩
end Go.Proofs.Ytpajbpgpbfmebaa
