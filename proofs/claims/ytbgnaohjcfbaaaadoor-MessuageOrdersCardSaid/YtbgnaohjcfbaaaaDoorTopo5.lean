/- Package topo (layer 3): Check. -/
import Derived.Test.YtbgnaohjcfbaaaaDoorTopo4
namespace Go.Proofs.YtbgnaohjcfbaaaaDoor
open Go.RowKit
set_option linter.unusedVariables false
set_option linter.unusedSimpArgs false
attribute [local go_sem] World.cell?_alloc_lt

/-- What Check says. -/
def chkT (t : TopoV) : Int := if cntB t = false then 3 else if t.cs.any (badN t.N) = true then 10 else if matB t.N.toNat t.ds = false then 4 else 0
set_option maxRecDepth 100000 in
theorem topo_check (t : TopoV) (w : World) (hT : InTopo w t) : Calls Tryd.prog 34 #[t.val] w fun e w' => e = .returned (.int .i64 (chkT t)) ∧ Below w.heap.size w w' := by
  have hb := Blk.new w 47 [.int .i64 t.N, .int .i64 t.F, .slice t.ca t.cs.length t.cc, .slice t.da t.ds.length t.dc]
  have hba : Below w.heap.size w (w.alloc (.cells #[.int .i64 t.N, .int .i64 t.F, .slice t.ca t.cs.length t.cc, .slice t.da t.ds.length t.dc] 47)) := bel_alloc (Below.refl _ _) _
  have hc := topo_counts t (w.alloc (.cells #[.int .i64 t.N, .int .i64 t.F, .slice t.ca t.cs.length t.cc, .slice t.da t.ds.length t.dc] 47)) hT.c63
  have hTA := hT.below hba
  have HC := Lib.hid hc; have HTA := Lib.hid hTA; have HB := Lib.hid hb; have HBA := Lib.hid hba
  clear hc hTA hb hba hT
  cases hcn : cntB t with
  | false =>
    have HC2 := HC.out
    rw [hcn] at HC2
    have he : chkT t = 3 := by unfold chkT; rw [if_pos hcn]
    have HE := Lib.hid he
    have HC3 := Lib.hid HC2
    clear HC2 HC he hcn
    unfold TopoV.val at *
    go_enter Tryd.func34, Tryd.ntmps34
    go_wp2_with fail
    refine HC3.out.mono ?_; rintro e w1 ⟨rfl, hB⟩
    go_wp2_with fail
    go_ret
    exact ⟨by rw [HE.out]; rfl, bel_trans HBA.out hB⟩
  | true =>
    have HC2 := HC.out
    rw [hcn] at HC2
    have HC3 := Lib.hid HC2
    have h0 : chkT t = if t.cs.any (badN t.N) = true then 10 else if matB t.N.toNat t.ds = false then 4 else 0 := by unfold chkT; rw [if_neg (by rw [hcn]; simp)]
    have hm : 1 ≤ t.N ∧ t.N ≤ 8 := by
      unfold cntB at hcn
      rw [Bool.and_eq_true, Bool.and_eq_true] at hcn
      exact of_decide_eq_true hcn.2.1
    obtain ⟨m, hmN⟩ := Int.eq_ofNat_of_zero_le (show 0 ≤ t.N by omega)
    have hm1 : 1 ≤ m := by omega
    have hm8 : m ≤ 8 := by omega
    rw [show t.N.toNat = m by omega] at h0
    have hcb := fun (w : World) (hI : InI w t.ca t.cs.length t.cs) (p : Nat) (hp : w.cell? ⟨p, 0, none⟩ = some (.int .i64 t.N)) => contains_bad t.ca t.cs.length t.cc p t.cs t.N w hI HTA.out.c63 hp
    have hmx := fun (w : World) (hI : InTopo w t) => topo_matrix t m hm1 hm8 hmN w hI
    have HCB := Lib.hid hcb; have HMX := Lib.hid hmx; have HE0 := Lib.hid h0
    clear HC2 HC hcn hm hcb hmx h0 hmN
    unfold TopoV.val at *
    go_enter Tryd.func34, Tryd.ntmps34
    go_wp2_with fail
    refine HC3.out.mono ?_; rintro e w1 ⟨rfl, hB⟩
    generalize w.alloc (.cells #[.int .i64 t.N, .int .i64 t.F, .slice t.ca t.cs.length t.cc, .slice t.da t.ds.length t.dc] 47) = wA at *
    have hb1 := HB.out.below hB
    have q0 := hb1.at_ (i := 0) rfl
    have q1 := hb1.at_ (i := 1) rfl
    have q2 := hb1.at_ (i := 2) rfl
    have q3 := hb1.at_ (i := 3) rfl
    have hT1 := HTA.out.below hB
    have hcb1 := HCB.out w1 hT1.c w.heap.size q0
    have hmx1 := HMX.out w1 hT1
    have HCB1 := Lib.hid hcb1; have HMX1 := Lib.hid hmx1
    clear hb1 hT1 hcb1 hmx1
    cases hbad : t.cs.any (badN t.N) with
    | true =>
      have h1 := HCB1.out
      rw [hbad] at h1
      have H1 := Lib.hid h1
      have he := HE0.out
      rw [if_pos hbad] at he
      have HE := Lib.hid he
      clear h1 he hbad HCB1 HMX1 HE0
      go_wp2_with fail
      refine H1.out.mono ?_; rintro e w2 ⟨rfl, rfl⟩
      go_wp2_with fail
      go_ret
      exact ⟨by rw [HE.out]; rfl, bel_trans HBA.out hB⟩
    | false =>
      have h1 := HCB1.out
      rw [hbad] at h1
      have H1 := Lib.hid h1
      have he := HE0.out
      rw [if_neg (by rw [hbad]; simp)] at he
      have HE := Lib.hid he
      clear h1 he hbad HCB1 HE0
      go_wp2_with fail
      refine H1.out.mono ?_; rintro e w2 ⟨rfl, rfl⟩
      cases hmat : matB m t.ds with
      | true =>
        have h2 := HMX1.out
        rw [hmat] at h2
        have H2 := Lib.hid h2
        have he := HE.out
        rw [if_neg (by rw [hmat]; simp)] at he
        have HE2 := Lib.hid he
        clear h2 he hmat HMX1 HE
        go_wp2_with fail
        refine H2.out.mono ?_; rintro e w3 ⟨rfl, hB3⟩
        go_wp2_with fail
        go_ret
        exact ⟨by rw [HE2.out]; rfl, bel_trans (bel_trans HBA.out hB) hB3⟩
      | false =>
        have h2 := HMX1.out
        rw [hmat] at h2
        have H2 := Lib.hid h2
        have he := HE.out
        rw [if_pos hmat] at he
        have HE2 := Lib.hid he
        clear h2 he hmat HMX1 HE
        go_wp2_with fail
        refine H2.out.mono ?_; rintro e w3 ⟨rfl, hB3⟩
        go_wp2_with fail
        go_ret
        exact ⟨by rw [HE2.out]; rfl, bel_trans (bel_trans HBA.out hB) hB3⟩
end Go.Proofs.YtbgnaohjcfbaaaaDoor
