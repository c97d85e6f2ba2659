/- messuageref03.Check. -/
import Derived.Test.YtcanhegjhbhkhaaDoorTopo5
import Derived.Deep.DeepCutAuto
import Derived.Outline
import Derived.Deep.QuietTactic
namespace Go.Proofs.YtcanhegjhbhkhaaDoor
open Go.RowKit
set_option linter.unusedVariables false
set_option linter.unusedSimpArgs false
attribute [local go_sem] World.cell?_alloc_lt

def powV (k : Nat) : Int := (2 : Int) ^ k
theorem powV_all : ∀ k : Nat, k < 12 → (k < 11 → 1 ≤ powV k ∧ powV k ≤ 1024 ∧ powV (k + 1) = 2 * powV k ∧ pows.take (k + 1) = pows.take k ++ [powV k]) ∧ (¬ (k < 11) → powV k = 2048 ∧ pows.take k = pows) := by decide
theorem chk_3 {t : TopoV} (h : ¬ (1 ≤ t.N ∧ t.N ≤ 8 ∧ t.F ∈ pows ∧ 1 ≤ t.cs.length ∧ t.cs.length ≤ 16)) : chkT t = 3 := by
  unfold chkT
  rw [if_pos]
  unfold cntB
  rw [Bool.eq_false_iff]
  intro hc
  rw [Bool.and_eq_true, Bool.and_eq_true] at hc
  have h1 := of_decide_eq_true hc.1
  have h2 := of_decide_eq_true hc.2.1
  have h3 := of_decide_eq_true hc.2.2
  exact h ⟨h2.1, h2.2, h1, h3.1, h3.2⟩
theorem chk_rest {t : TopoV} (h : 1 ≤ t.N ∧ t.N ≤ 8 ∧ t.F ∈ pows ∧ 1 ≤ t.cs.length ∧ t.cs.length ≤ 16) : chkT t = if t.cs.any (badN t.N) = true then 10 else if matB t.N.toNat t.ds = false then 4 else 0 := by
  unfold chkT
  rw [if_neg]
  unfold cntB
  rw [decide_eq_true h.2.2.1, decide_eq_true ⟨h.1, h.2.1⟩, decide_eq_true ⟨h.2.2.2.1, h.2.2.2.2⟩]
  simp
theorem mat_bad {m a c : Nat} {D : List RowV} (ha : a < m) (hc : c < m) (h : okE a c (dv D a c) = false ∨ dv D a c ≠ dv D c a) : matB m D = false := by
  unfold matB
  rcases h with h | h
  · have : okB m D = false := decide_eq_false fun hh => by
      have := hh ⟨a, ha⟩ ⟨c, hc⟩
      rw [h] at this
      cases this
    rw [this, Bool.and_false, Bool.and_false]
  · have : symB m D = false := decide_eq_false fun hh => h (hh ⟨a, ha⟩ ⟨c, hc⟩)
    rw [this, Bool.false_and, Bool.and_false]
theorem mat_len {m : Nat} {D : List RowV} (h : D.length ≠ m) : matB m D = false := by
  unfold matB sqB
  rw [decide_eq_false h, Bool.false_and, Bool.false_and]
theorem mat_row {m : Nat} {D : List RowV} {r : RowV} (hr : r ∈ D) (h : r.zs.length ≠ m) : matB m D = false := by
  unfold matB sqB
  have : D.all (fun r => decide (r.zs.length = m)) = false := by
    rw [List.all_eq_false]
    exact ⟨r, hr, by simpa using h⟩
  rw [this, Bool.and_false, Bool.false_and]
theorem mat_good {m : Nat} {D : List RowV} (h0 : D.length = m) (h1 : ∀ r ∈ D, r.zs.length = m) (h2 : ∀ a c, a < m → c < m → okE a c (dv D a c) = true ∧ dv D a c = dv D c a) : matB m D = true := by
  unfold matB sqB
  rw [decide_eq_true h0, show D.all (fun r => decide (r.zs.length = m)) = true from List.all_eq_true.2 fun r hr => decide_eq_true (h1 r hr),
    show symB m D = true from decide_eq_true fun a c => (h2 a c a.2 c.2).2, show okB m D = true from decide_eq_true fun a c => (h2 a c a.2 c.2).1]
  rfl
set_option maxRecDepth 100000 in
set_option maxHeartbeats 4000000 in
theorem ref_check (t : TopoV) (w : World) (hT : InTopo w t) : Calls Tryd.prog 27 #[t.val] w fun e w' => e = .returned (.int .i64 (chkT t)) ∧ Below w.heap.size w w' := by
  have hb := Blk.new w 48 [.int .i64 t.N, .int .i64 t.F, .slice t.ca t.cs.length t.cc, .slice t.da t.ds.length t.dc]
  have hba : Below w.heap.size w (w.alloc (.cells #[.int .i64 t.N, .int .i64 t.F, .slice t.ca t.cs.length t.cc, .slice t.da t.ds.length t.dc] 48)) := bel_alloc (Below.refl _ _) _
  have hTA := hT.below hba
  have h3 := chk_3 (t := t)
  have hrest := chk_rest (t := t)
  have HTA := Lib.hid hTA; have HB := Lib.hid hb; have HBA := Lib.hid hba; have H3 := Lib.hid h3; have HR := Lib.hid hrest
  clear hTA hb hba hT h3 hrest
  generalize chkT t = E at *
  obtain ⟨N, F, ca, cc, cs, da, dc, ds⟩ := t
  simp only [TopoV.val] at *
  have hcc63 := HTA.out.c63
  have hdd63 := HTA.out.d63
  simp only at hcc63 hdd63
  go_enter Tryd.func27, Tryd.ntmps27
  have q1 := HB.out.at_ (i := 1) rfl
  have hBx : Below (w.alloc (.cells #[.int .i64 N, .int .i64 F, .slice ca cs.length cc, .slice da ds.length dc] 48)).heap.size (w.alloc (.cells #[.int .i64 N, .int .i64 F, .slice ca cs.length cc, .slice da ds.length dc] 48)) (w.alloc (.cells #[.int .i64 N, .int .i64 F, .slice ca cs.length cc, .slice da ds.length dc] 48)) := Below.refl _ _
  clear q1
  go_wp2_with fail
  generalize w.alloc (.cells #[.int .i64 N, .int .i64 F, .slice ca cs.length cc, .slice da ds.length dc] 48) = wA at *
  clear hBx
  go_loopw [3, 4] (fun v3 v4 wr => ∃ k : Nat, k < 12 ∧ v3 = .bool (decide (F ∈ pows.take k)) ∧ v4 = .int .i64 (powV k) ∧ wr = wA) (fun _ v _ => 2048 - (intOf v).toNat)
  case atStart => exact ⟨0, by omega, rfl, rfl, rfl⟩
  case round =>
    obtain ⟨k, hk, rfl, rfl, rfl⟩ := hrel
    have q0 := HB.out.at_ (i := 0) rfl
    have q1 := HB.out.at_ (i := 1) rfl
    have q2 := HB.out.at_ (i := 2) rfl
    have q3 := HB.out.at_ (i := 3) rfl
    obtain ⟨hpa, hpb⟩ := powV_all k hk
    by_cases hlt : k < 11
    · obtain ⟨p1, p2, p3, p4⟩ := hpa hlt
      clear hpa hpb
      have hstep : decide (F ∈ pows.take (k + 1)) = (decide (F ∈ pows.take k) || decide (F = powV k)) := by
        rw [p4, Bool.eq_iff_iff]
        simp
      have HS := Lib.hid hstep; have P3 := Lib.hid p3
      clear hstep p3 p4
      generalize hf : powV k = f at *
      have HF := Lib.hid hf
      clear hf
      cases hd : decide (F ∈ pows.take k) with
      | true =>
        have hs := HS.out
        rw [hd, Bool.true_or] at hs
        have HS2 := Lib.hid hs
        clear hs hd HS
        go_wp2_with fail
        go_roundw
        case rel => exact ⟨k + 1, by omega, by rw [HS2.out], by rw [P3.out], by first | rfl | trivial⟩
        case measure => simp [intOf]; omega
      | false =>
        have hs := HS.out
        rw [hd, Bool.false_or] at hs
        have heq : (F == f) = decide (F = f) := by
          by_cases e : F = f
          · subst e; simp
          · rw [decide_eq_false e, beq_eq_false_iff_ne]; exact e
        rw [← hs] at heq
        have HS2 := Lib.hid heq
        clear hs hd HS heq
        go_wp2_with fail
        go_roundw
        case rel => exact ⟨k + 1, by omega, by rw [← HS2.out], by rw [P3.out], by first | rfl | trivial⟩
        case measure => simp [intOf]; omega
    · obtain ⟨p1, p2⟩ := hpb hlt
      rw [p1, p2]
      clear hpa hpb p1 p2 hlt hk
      by_cases hall : 1 ≤ N ∧ N ≤ 8 ∧ F ∈ pows ∧ 1 ≤ cs.length ∧ cs.length ≤ 16
      · have he := HR.out hall
        obtain ⟨m, rfl⟩ := Int.eq_ofNat_of_zero_le (show 0 ≤ N by omega)
        rw [Int.toNat_natCast] at he
        obtain ⟨hN1, hN8, hF, hc1, hc16⟩ := hall
        have hF2 := decide_eq_true hF
        rw [hF2]
        have HE0 := Lib.hid he
        clear hF hF2 he H3 HR
        have hBx : Below wr.heap.size wr wr := Below.refl _ _
        obtain ⟨wA, rfl⟩ : ∃ x, x = wr := ⟨_, rfl⟩
        go_wp2_with fail
        go_loopw [5] (fun v wr => ∃ i : Nat, i ≤ cs.length ∧ v = .int .i64 (i : Int) ∧ (cs.take i).any (badN (m : Int)) = false ∧ Below wA.heap.size wA wr) (fun v _ => cs.length - (intOf v).toNat)
        case atStart => exact ⟨0, by omega, rfl, rfl, hBx⟩
        case round =>
          clear hBx q0 q1 q2 q3
          obtain ⟨i, hi, rfl, hno, hB⟩ := hrel
          have HNO := Lib.hid hno
          clear hno
          have hbr := HB.out.below hB
          have q0 := hbr.at_ (i := 0) rfl
          have q2 := hbr.at_ (i := 2) rfl
          have q3 := hbr.at_ (i := 3) rfl
          have HBR := Lib.hid hbr
          clear hbr
          by_cases hlt : i < cs.length
          · have hcI := HTA.out.c.below hB
            simp only at hcI
            have hxi : cs[i]? = some (cs.getD i 0) := by rw [List.getD_eq_getElem?_getD, List.getElem?_eq_getElem hlt]; rfl
            obtain ⟨bc, oc, rfl, hbc, hcx⟩ := hcI.get hlt
            have hix := fun w => idxI bc oc cs.length cc i hlt w
            have h1 := any_take (badN (m : Int)) cs i _ hxi
            have h2 := any_of (badN (m : Int)) cs i _ hxi
            rw [HNO.out, Bool.false_or] at h1
            have H1 := Lib.hid h1; have H2 := Lib.hid h2
            clear h1 h2 hxi hcI
            generalize cs.getD i 0 = x at *
            by_cases hx : x < 0
            · have hbx : badN (m : Int) x = true := by unfold badN; rw [decide_eq_true hx]; rfl
              have he := HE0.out
              rw [if_pos (H2.out hbx)] at he
              have HE := Lib.hid he
              clear hbx he HE0 H1 H2
              go_upto_region 11 with fail
              go_quiet (fail)
              go_wp2_with fail
              go_ret
              exact ⟨by rw [HE.out]; rfl, bel_trans HBA.out (bel_drewN hB _)⟩
            · by_cases hx2 : (m : Int) ≤ x
              · have hbx : badN (m : Int) x = true := by unfold badN; rw [decide_eq_true hx2, Bool.or_true]
                have he := HE0.out
                rw [if_pos (H2.out hbx)] at he
                have HE := Lib.hid he
                clear hbx he HE0 H1 H2
                go_upto_region 11 with fail
                go_quiet (fail)
                go_wp2_with fail
                go_ret
                exact ⟨by rw [HE.out]; rfl, bel_trans HBA.out (bel_drewN hB _)⟩
              · have hbx : badN (m : Int) x = false := by unfold badN; rw [decide_eq_false hx, decide_eq_false hx2]; rfl
                have h1 := H1.out
                rw [hbx] at h1
                have H3 := Lib.hid h1
                clear h1 hbx H1 H2
                go_upto_region 11 with fail
                go_quiet (fail)
                go_wp2_with fail
                go_roundw
                case rel => exact ⟨i + 1, by omega, by go_num, H3.out, bel_drewN hB _⟩
                case measure => simp [intOf]; omega
          · obtain rfl : i = cs.length := by omega
            have hno := HNO.out
            rw [List.take_length] at hno
            have he := HE0.out
            rw [if_neg (by rw [hno]; simp)] at he
            have HE1 := Lib.hid he
            clear he hno HNO HE0 hlt
            by_cases hlen : ds.length = m
            · have hne : ((ds.length : Int) != (m : Int)) = false := by rw [bne_eq_false_iff_eq]; omega
              have HL := Lib.hid hlen
              clear hlen
              go_wp2_with fail
              go_loopw [6] (fun v wr => ∃ i : Nat, i ≤ m ∧ v = .int .i64 (i : Int) ∧ (∀ k r, k < i → ds[k]? = some r → r.zs.length = m) ∧ Below wA.heap.size wA wr) (fun v _ => m - (intOf v).toNat)
              case atStart => exact ⟨0, by omega, rfl, fun k r h => by omega, hB⟩
              case round =>
                clear hB q0 q2 q3 HBR
                obtain ⟨i, him, rfl, hsq, hB⟩ := hrel
                have HSQ := Lib.hid hsq
                clear hsq
                have hbr := HB.out.below hB
                have q0 := hbr.at_ (i := 0) rfl
                have q3 := hbr.at_ (i := 3) rfl
                clear hbr
                by_cases hlt : i < m
                · have hdd := HTA.out.d
                  simp only at hdd
                  have hli : i < ds.length := by have := HL.out; omega
                  obtain ⟨bx, off, r, rfl, hbx, hri, hcr, hIr, hr63⟩ := hdd.get (i := i) hli
                  replace hcr := (hB.cell (p := ⟨bx, off + i, none⟩) hbx).trans hcr
                  have hix := fun w => idx_rows bx off ds.length dc i hli w
                  clear hdd hIr
                  by_cases hrl : r.zs.length = m
                  · have hne2 : ((r.zs.length : Int) != (m : Int)) = false := by rw [bne_eq_false_iff_eq]; omega
                    have HRL := Lib.hid hrl; have HRI := Lib.hid hri
                    clear hrl hri
                    go_upto_region 18 with fail
                    go_quiet (fail)
                    go_wp2_with fail
                    go_roundw
                    case rel => exact ⟨i + 1, by omega, by go_num, fun k r' hk hr => by
                      by_cases e : k = i
                      · subst e
                        rw [HRI.out] at hr
                        injection hr with hr
                        subst hr
                        exact HRL.out
                      · exact HSQ.out k r' (by omega) hr, bel_drewN hB _⟩
                    case measure => simp [intOf]; omega
                  · have hne2 : ((r.zs.length : Int) != (m : Int)) = true := by rw [bne_iff_ne]; omega
                    have he := HE1.out
                    rw [if_pos (mat_row (List.mem_of_getElem? hri) hrl)] at he
                    have HE := Lib.hid he
                    clear he hrl hri HE1
                    go_upto_region 18 with fail
                    go_quiet (fail)
                    go_wp2_with fail
                    go_ret
                    exact ⟨by rw [HE.out]; rfl, bel_trans HBA.out (bel_drewN hB _)⟩
                · obtain rfl : i = m := by omega
                  have hrows : ∀ k r, k < i → ds[k]? = some r → r.zs.length = i := HSQ.out
                  have HROW := Lib.hid hrows
                  clear hrows HSQ hlt
                  go_wp2_with fail
                  go_loopw [7] (fun v wr => ∃ x : Nat, x ≤ i ∧ v = .int .i64 (x : Int) ∧ (∀ a c : Nat, a < x → c < i → okE a c (dv ds a c) = true ∧ dv ds a c = dv ds c a) ∧ Below wA.heap.size wA wr) (fun v _ => i - (intOf v).toNat)
                  case atStart => exact ⟨0, by omega, rfl, fun a c h => by omega, hB⟩
                  case round =>
                    clear hB q0 q3
                    obtain ⟨x, hxm, rfl, hok, hB⟩ := hrel
                    have HOK := Lib.hid hok
                    clear hok
                    have hbr := HB.out.below hB
                    have q0 := hbr.at_ (i := 0) rfl
                    have q3 := hbr.at_ (i := 3) rfl
                    clear hbr
                    by_cases hxl : x < i
                    · go_wp2_with fail
                      go_loopw [8] (fun v wr => ∃ y : Nat, y ≤ i ∧ v = .int .i64 (y : Int) ∧ (∀ c : Nat, c < y → okE x c (dv ds x c) = true ∧ dv ds x c = dv ds c x) ∧ Below wA.heap.size wA wr) (fun v _ => i - (intOf v).toNat)
                      case atStart => exact ⟨0, by omega, rfl, fun c h => by omega, hB⟩
                      case round =>
                        clear hB q0 q3
                        obtain ⟨y, hym, rfl, hok, hB⟩ := hrel
                        have HOK2 := Lib.hid hok
                        clear hok
                        have hbr := HB.out.below hB
                        have q0 := hbr.at_ (i := 0) rfl
                        have q3 := hbr.at_ (i := 3) rfl
                        clear hbr
                        by_cases hyl : y < i
                        · have hdd := HTA.out.d
                          simp only at hdd
                          have hlx : x < ds.length := by have := HL.out; omega
                          have hly : y < ds.length := by have := HL.out; omega
                          obtain ⟨bx, off, r, rfl, hbx, hri, hcr, hIr, _⟩ := hdd.get (i := x) hlx
                          obtain ⟨bx2, off2, r2, he2, _, hri2, hcr2, hIr2, _⟩ := hdd.get (i := y) hly
                          injection he2 with he2
                          injection he2 with he2 he3
                          subst he2 he3
                          replace hcr := (hB.cell (p := ⟨bx, off + x, none⟩) hbx).trans hcr
                          replace hcr2 := (hB.cell (p := ⟨bx, off + y, none⟩) hbx).trans hcr2
                          have hix := fun w => idx_rows bx off ds.length dc x hlx w
                          have hix2 := fun w => idx_rows bx off ds.length dc y hly w
                          have hrl := HROW.out x r hxl hri
                          have hrl2 := HROW.out y r2 hyl hri2
                          have hv1 := dv_at (c := y) hri
                          have hv2 := dv_at (c := x) hri2
                          replace hIr := hIr.below hB
                          replace hIr2 := hIr2.below hB
                          obtain ⟨ra, rc, zs⟩ := r
                          obtain ⟨ra2, rc2, zs2⟩ := r2
                          simp only at *
                          have hyz : y < zs.length := by omega
                          have hxz : x < zs2.length := by omega
                          obtain ⟨bz, oz, rfl, hbz, hcz⟩ := hIr.get hyz
                          obtain ⟨bz2, oz2, rfl, hbz2, hcz2⟩ := hIr2.get hxz
                          have hiz := fun w => idxI bz oz zs.length rc y hyz w
                          have hiz2 := fun w => idxI bz2 oz2 zs2.length rc2 x hxz w
                          rw [← hv1] at hcz
                          rw [← hv2] at hcz2
                          clear hIr hIr2 hri hri2 hrl hrl2 hv1 hv2 hdd
                          by_cases hxy : x = y
                          · subst hxy
                            clear hcz2 hiz2 hix2 hcr2
                            by_cases hd : dv ds x x = 10
                            · have hok : okE x x (dv ds x x) = true := by unfold okE; rw [if_pos rfl, decide_eq_true hd]
                              have HOE := Lib.hid hok
                              have hd1 : (dv ds x x != 10) = false := by rw [bne_eq_false_iff_eq]; exact hd
                              have hd2 : ((x : Int) != (x : Int)) = false := by rw [bne_eq_false_iff_eq]
                              clear hok hd
                              generalize hdd : dv ds x x = d at *
                              have HDD := Lib.hid hdd
                              clear hdd
                              go_wp2_with fail
                              go_roundw
                              case rel => exact ⟨x + 1, by omega, by go_num, fun c hc => by
                                by_cases e : c = x
                                · subst e; exact by rw [HDD.out]; exact ⟨HOE.out, rfl⟩
                                · exact HOK2.out c (by omega), hB⟩
                              case measure => simp [intOf]; omega
                            · have hok : okE x x (dv ds x x) = false := by unfold okE; rw [if_pos rfl, decide_eq_false hd]
                              have hd1 : (dv ds x x != 10) = true := by rw [bne_iff_ne]; exact hd
                              have he := HE1.out
                              rw [if_pos (mat_bad hxl hyl (Or.inl hok))] at he
                              have HE := Lib.hid he
                              clear he HE1
                              clear hok hd
                              generalize dv ds x x = d at *
                              go_wp2_with fail
                              go_ret
                              exact ⟨by rw [HE.out]; rfl, bel_trans HBA.out hB⟩
                          · have hn1 : ((x : Int) == (y : Int)) = false := by rw [beq_eq_false_iff_ne]; omega
                            have hn2 : ((x : Int) != (y : Int)) = true := by rw [bne_iff_ne]; omega
                            by_cases hok : 10 < dv ds x y ∧ dv ds x y ≤ 255
                            · have hoe : okE x y (dv ds x y) = true := by unfold okE; rw [if_neg hxy, decide_eq_true hok]
                              have HOE := Lib.hid hoe
                              obtain ⟨g1, g2⟩ := hok
                              clear hoe
                              by_cases hs : dv ds x y = dv ds y x
                              · have hs1 : (dv ds x y != dv ds y x) = false := by rw [bne_eq_false_iff_eq]; exact hs
                                have HSS := Lib.hid hs
                                clear hs
                                generalize hdd : dv ds x y = d at *
                                generalize hdd2 : dv ds y x = d2 at *
                                have HDD := Lib.hid hdd; have HDD2 := Lib.hid hdd2
                                clear hdd hdd2
                                go_wp2_with fail
                                go_roundw
                                case rel => exact ⟨y + 1, by omega, by go_num, fun c hc => by
                                  by_cases e : c = y
                                  · subst e; exact by rw [HDD.out, HDD2.out]; exact ⟨HOE.out, HSS.out⟩
                                  · exact HOK2.out c (by omega), hB⟩
                                case measure => simp [intOf]; omega
                              · have hs1 : (dv ds x y != dv ds y x) = true := by rw [bne_iff_ne]; exact hs
                                have he := HE1.out
                                rw [if_pos (mat_bad hxl hyl (Or.inr hs))] at he
                                have HE := Lib.hid he
                                clear he HE1
                                clear hs HOE
                                generalize dv ds x y = d at *
                                generalize dv ds y x = d2 at *
                                go_wp2_with fail
                                go_ret
                                exact ⟨by rw [HE.out]; rfl, bel_trans HBA.out hB⟩
                            · have hoe : okE x y (dv ds x y) = false := by unfold okE; rw [if_neg hxy, decide_eq_false hok]
                              have he := HE1.out
                              rw [if_pos (mat_bad hxl hyl (Or.inl hoe))] at he
                              have HE := Lib.hid he
                              clear he HE1
                              clear hoe hcz2
                              generalize dv ds x y = d at *
                              rcases Classical.em (d < 11) with g1 | g1
                              · clear hok
                                go_wp2_with fail
                                go_ret
                                exact ⟨by rw [HE.out]; rfl, bel_trans HBA.out hB⟩
                              · have g2 : 255 < d := by omega
                                clear hok
                                go_wp2_with fail
                                go_ret
                                exact ⟨by rw [HE.out]; rfl, bel_trans HBA.out hB⟩
                        · obtain rfl : y = i := by omega
                          go_wp2_with fail
                          go_roundw
                          case rel => exact ⟨x + 1, by omega, by go_num, fun a c ha hc => by
                            by_cases e : a = x
                            · subst e; exact HOK2.out c hc
                            · exact HOK.out a c (by omega) hc, hB⟩
                          case measure => simp [intOf]; omega
                    · obtain rfl : x = i := by omega
                      have hgood := mat_good HL.out (fun r hr => by
                        obtain ⟨k, hk, hkr⟩ := List.mem_iff_getElem.1 hr
                        exact HROW.out k r (by have := HL.out; omega) (by rw [List.getElem?_eq_getElem hk, hkr])) HOK.out
                      have he := HE1.out
                      rw [if_neg (by rw [hgood]; simp)] at he
                      have HE := Lib.hid he
                      clear he hgood HE1
                      go_wp2_with fail
                      go_ret
                      exact ⟨by rw [HE.out]; rfl, bel_trans HBA.out hB⟩
            · have hne : ((ds.length : Int) != (m : Int)) = true := by rw [bne_iff_ne]; omega
              have he := HE1.out
              rw [if_pos (mat_len hlen)] at he
              have HE := Lib.hid he
              clear he hlen HE1
              go_wp2_with fail
              go_ret
              exact ⟨by rw [HE.out]; rfl, bel_trans HBA.out hB⟩
      · have HE := Lib.hid (H3.out hall)
        rcases Classical.em (N < 1) with g1 | g1
        · clear hall
          go_wp2_with fail
          go_ret
          exact ⟨by rw [HE.out]; rfl, HBA.out⟩
        · rcases Classical.em (8 < N) with g2 | g2
          · clear hall
            go_wp2_with fail
            go_ret
            exact ⟨by rw [HE.out]; rfl, HBA.out⟩
          · cases hF : decide (F ∈ pows) with
            | false =>
              have HFF := Lib.hid hF
              clear hall hF
              go_wp2_with fail
              go_ret
              exact ⟨by rw [HE.out]; rfl, HBA.out⟩
            | true =>
              have hF2 := of_decide_eq_true hF
              have hn : cs.length < 1 ∨ 16 < cs.length := by
                rcases Classical.em (cs.length < 1) with h | h
                · exact Or.inl h
                · rcases Classical.em (16 < cs.length) with h' | h'
                  · exact Or.inr h'
                  · exact absurd ⟨by omega, by omega, hF2, by omega, by omega⟩ hall
              clear hall hF hF2
              rcases hn with g3 | g3
              · have g4 : (cs.length : Int) < 1 := by omega
                go_wp2_with fail
                go_ret
                exact ⟨by rw [HE.out]; rfl, HBA.out⟩
              · have g4 : (16 : Int) < (cs.length : Int) := by omega
                have g5 : ¬ ((cs.length : Int) < 1) := by omega
                go_wp2_with fail
                go_ret
                exact ⟨by rw [HE.out]; rfl, HBA.out⟩
end Go.Proofs.YtcanhegjhbhkhaaDoor
