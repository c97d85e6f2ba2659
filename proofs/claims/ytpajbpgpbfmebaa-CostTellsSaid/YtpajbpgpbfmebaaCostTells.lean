/- The law CostTells. -/
import Derived.Test.YtpajbpgpbfmebaaCostMore
import Derived.Deep.QuietTactic
import Derived.BigQuiet
namespace Go.Proofs.Ytpajbpgpbfmebaa
open Go.RowKit
set_option linter.unusedVariables false
set_option linter.unusedSimpArgs false
attribute [local go_sem] World.cell?_alloc_lt

set_option maxRecDepth 100000 in
set_option maxHeartbeats 8000000 in
theorem costTells_walk (w0 : World) (t : TopoV) (hT : InTopo w0 t) (hk1 : t.cs.length ≤ t.cc) (hk2 : t.ds.length ≤ t.dc) (a : Option Addr) (len cap : Nat) (l0 : List EvC) (hE0 : InEs w0 a len l0) (hlc : len ≤ cap) (hl63 : len ≤ 9223372036854775807) (lim : Int) (_wa : (Lit.int .i64 lim).wf = true) : Calls Try.prog 10 #[t.val, .slice a len cap, .int .i64 lim] w0 fun e w' => e = .returned (.bool true) ∧ Below w0.heap.size w0 w' := by
  have hba : Below w0.heap.size w0 (w0.alloc (.cells #[.int .i64 t.N, .int .i64 t.F, .slice t.ca t.cs.length t.cc, .slice t.da t.ds.length t.dc] 42)) := bel_alloc (Below.refl _ _) _
  have htm := tame_any t (w0.alloc (.cells #[.int .i64 t.N, .int .i64 t.F, .slice t.ca t.cs.length t.cc, .slice t.da t.ds.length t.dc] 42)) hk1 hk2 hT.c63 hT.d63
  have hTT := tame_in hT
  obtain ⟨n, hnl, hn60, hmin⟩ : ∃ n : Nat, n ≤ len ∧ n ≤ 60 ∧ (if (60 : Int) < (len : Int) then (60 : Int) else (len : Int)) = (n : Int) := by
    by_cases h : (60 : Int) < (len : Int)
    · exact ⟨60, by omega, by omega, by rw [if_pos h]; rfl⟩
    · exact ⟨len, by omega, by omega, by rw [if_neg h]⟩
  have hl0 := hE0.take hnl
  generalize l0.take n = l at hl0
  have hcut := fun w => cut_e16 a len cap n (n : Int) rfl (by omega) w
  have hblk := Blk.new w0 42 [.int .i64 t.N, .int .i64 t.F, .slice t.ca t.cs.length t.cc, .slice t.da t.ds.length t.dc]
  have HTM := Lib.hid htm; have HTT := Lib.hid hTT; have HBA := Lib.hid hba; have HB := Lib.hid hblk; have HL0 := Lib.hid hl0
  clear htm hTT hba hT hblk hk1 hk2 hl0 hE0
  generalize tameV t = T at *
  unfold TopoV.val at *
  go_enter Try.func10, Try.ntmps10
  go_wp2_with fail
  refine HTM.out.mono ?_; rintro e w1 ⟨rfl, hB1⟩
  have hb1 := HB.out.below hB1
  have q0 := hb1.at_ (i := 0) rfl
  have q1 := hb1.at_ (i := 1) rfl
  have q2 := hb1.at_ (i := 2) rfl
  have q3 := hb1.at_ (i := 3) rfl
  have f0 := hb1.frozen 0; have f1 := hb1.frozen 1; have f2 := hb1.frozen 2; have f3 := hb1.frozen 3
  go_upto_region 2 with fail
  have hb2 : Blk _ w0.heap.size 42 [.int .i64 T.N, .int .i64 T.F, .slice T.ca T.cs.length T.cc, .slice T.da T.ds.length T.dc] := (((hb1.set_ 0 (.int .i64 T.N)).set_ 1 (.int .i64 T.F)).set_ 2 (.slice T.ca T.cs.length T.cc)).set_ 3 (.slice T.da T.ds.length T.dc)
  have hB2 : Below w0.heap.size w0 ((((w1.setCell ⟨w0.heap.size, 0, none⟩ (.int .i64 T.N)).setCell ⟨w0.heap.size, 1, none⟩ (.int .i64 T.F)).setCell ⟨w0.heap.size, 2, none⟩ (.slice T.ca T.cs.length T.cc)).setCell ⟨w0.heap.size, 3, none⟩ (.slice T.da T.ds.length T.dc)) :=
    bel_set (bel_set (bel_set (bel_set (bel_trans HBA.out hB1) (by simp) _) (by simp) _) (by simp) _) (by simp) _
  clear q0 q1 q2 q3 f0 f1 f2 f3 hb1 hB1
  generalize (((w1.setCell ⟨w0.heap.size, 0, none⟩ (.int .i64 T.N)).setCell ⟨w0.heap.size, 1, none⟩ (.int .i64 T.F)).setCell ⟨w0.heap.size, 2, none⟩ (.slice T.ca T.cs.length T.cc)).setCell ⟨w0.heap.size, 3, none⟩ (.slice T.da T.ds.length T.dc) = w2 at *
  have hTw := HTT.out.below hB2
  have HT2 := Lib.hid hTw; have HB2 := Lib.hid hb2; have HBB := Lib.hid hB2; have HL2 := Lib.hid (HL0.out.below hB2)
  clear hTw hb2 hB2 HTM HTT HBA HB
  go_wp2_with fail
  refine (events_any _ _ _ _ _ HL2.out (by omega)).mono ?_; rintro e w3 ⟨⟨A2, c2, rfl, hE3⟩, hB3⟩
  have HE3 := Lib.hid hE3
  have hBc := hB3
  clear hE3 hB3
  have hB3x := Below.refl w3.heap.size w3
  by_cases hch : chkT T = 0
  · obtain ⟨m, hN, hm1, hm8, hmat⟩ := chk_zero hch
    have HCH := Lib.hid hch; have HN := Lib.hid hN
    cases hall : l.all (evOk m) with
    | false =>
      have HALL := Lib.hid hall
      clear hch hN hmat hall
      have q0 := (HB2.out.below hBc).at_ (i := 0) rfl
      have q1 := (HB2.out.below hBc).at_ (i := 1) rfl
      have q2 := (HB2.out.below hBc).at_ (i := 2) rfl
      have q3 := (HB2.out.below hBc).at_ (i := 3) rfl
      go_wp2_with fail
      refine (to_any T _).mono ?_; rintro e wt1 ⟨rfl, hBt⟩
      replace hBc := bel_trans hBc hBt; replace hB3x := bel_trans hB3x hBt
      clear hBt q0 q1 q2 q3
      go_wp2_with fail
      refine (table_any T m HCH.out HN.out A2 n c2 l _ (HT2.out.below hBc) (HE3.out.below hB3x) (by omega)).mono ?_; rintro e wf1 ⟨hor, hBf⟩
      replace hBc := bel_trans hBc hBf; replace hB3x := bel_trans hB3x hBf
      clear hBf
      obtain rfl : e = .returned (.tuple #[.pointer none, .int .i64 10]) := by
        rcases hor with ⟨hy, _⟩ | ⟨_, h⟩
        · rw [HALL.out] at hy; cases hy
        · exact h
      have q0 := (HB2.out.below hBc).at_ (i := 0) rfl
      have q1 := (HB2.out.below hBc).at_ (i := 1) rfl
      have q2 := (HB2.out.below hBc).at_ (i := 2) rfl
      have q3 := (HB2.out.below hBc).at_ (i := 3) rfl
      go_wp2_with fail
      refine (to_any T _).mono ?_; rintro e wt2 ⟨rfl, hBt⟩
      replace hBc := bel_trans hBc hBt; replace hB3x := bel_trans hB3x hBt
      clear hBt q0 q1 q2 q3
      go_wp2_with fail
      refine (sum_of T A2 n c2 10 _ (fun fv => fold_bad T m HCH.out HN.out A2 n c2 l fv _ (HT2.out.below (bel_trans hBc (bel_alloc (Below.refl _ _) _))) (HE3.out.below (bel_trans hB3x (bel_alloc (Below.refl _ _) _))) (by omega) HALL.out)).mono ?_; rintro e wf2 ⟨rfl, hBf⟩
      replace hBc := bel_trans hBc hBf; replace hB3x := bel_trans hB3x hBf
      clear hBf
      have q0 := (HB2.out.below hBc).at_ (i := 0) rfl
      have q1 := (HB2.out.below hBc).at_ (i := 1) rfl
      have q2 := (HB2.out.below hBc).at_ (i := 2) rfl
      have q3 := (HB2.out.below hBc).at_ (i := 3) rfl
      go_wp2_with fail
      refine (to_any T _).mono ?_; rintro e wt3 ⟨rfl, hBt⟩
      replace hBc := bel_trans hBc hBt; replace hB3x := bel_trans hB3x hBt
      clear hBt q0 q1 q2 q3
      go_wp2_with fail
      refine (far_of T A2 n c2 10 lim _ (fun fv => fold_bad T m HCH.out HN.out A2 n c2 l fv _ (HT2.out.below (bel_trans hBc (bel_alloc (bel_alloc (Below.refl _ _) _) _))) (HE3.out.below (bel_trans hB3x (bel_alloc (bel_alloc (Below.refl _ _) _) _))) (by omega) HALL.out)).mono ?_; rintro e wf3 ⟨rfl, hBf⟩
      replace hBc := bel_trans hBc hBf; replace hB3x := bel_trans hB3x hBf
      clear hBf
      have q0 := (HB2.out.below hBc).at_ (i := 0) rfl
      have q1 := (HB2.out.below hBc).at_ (i := 1) rfl
      have q2 := (HB2.out.below hBc).at_ (i := 2) rfl
      have q3 := (HB2.out.below hBc).at_ (i := 3) rfl
      go_wp2_with fail
      refine (rc_any T m HCH.out HN.out a n cap l _ (HT2.out.below hBc) (HL2.out.below hBc) (by omega)).mono ?_; rintro e w7 ⟨rfl, hBf⟩
      replace hBc := bel_trans hBc hBf; replace hB3x := bel_trans hB3x hBf
      clear hBf q0 q1 q2 q3
      rw [HALL.out]
      unfold rcV
      simp only [Bool.false_eq_true, if_false]
      go_wp2_with fail
      refine (costs_any _).mono ?_; rintro e w8 ⟨rfl, hBf⟩
      replace hBc := bel_trans hBc hBf; replace hB3x := bel_trans hB3x hBf
      clear hBf
      go_wp2_with fail
      go_ret
      exact ⟨rfl, bel_trans HBB.out hBc⟩
    | true =>
      have HALL := Lib.hid hall
      obtain ⟨hL, hR, hdv⟩ := mat_bds hmat
      have hlen := HL2.out.ln
      have hs1 := sumE_mono (D := T.ds) hall hdv n (by omega)
      have hbd2 := sumE_bd (f := farF lim) (D := T.ds) (lo := 0) (hi := 255) hall (fun a b _ _ => farF_bd lim _) n (by omega)
      have hfn := fun (w : World) (hT : InTopo w T) (hE : InEs w A2 n l) => sum_ev T m HCH.out HN.out A2 n c2 l w hT hE (by omega) HALL.out
      have hff := fun (w : World) (hT : InTopo w T) (hE : InEs w A2 n l) => far_ev T m HCH.out HN.out A2 n c2 l lim w hT hE (by omega) HALL.out
      have hrs := fun (w : World) (hT : InTopo w T) (hE : InEs w a n l) => rsum_any T m hmat a n cap l lim w hT hE (by omega) HALL.out
      have HF := Lib.hid hfn; have HG := Lib.hid hff; have HRS := Lib.hid hrs; have HLEN := Lib.hid hlen
      clear hfn hff hrs hlen hL hR hdv hmat hall hch hN
      generalize sumE (fun d => d) T.ds l n = sA at *
      generalize sumE (farF lim) T.ds l n = gA at *
      have q0 := (HB2.out.below hBc).at_ (i := 0) rfl
      have q1 := (HB2.out.below hBc).at_ (i := 1) rfl
      have q2 := (HB2.out.below hBc).at_ (i := 2) rfl
      have q3 := (HB2.out.below hBc).at_ (i := 3) rfl
      go_wp2_with fail
      refine (to_any T _).mono ?_; rintro e wt1 ⟨rfl, hBt⟩
      replace hBc := bel_trans hBc hBt; replace hB3x := bel_trans hB3x hBt
      clear hBt q0 q1 q2 q3
      go_wp2_with fail
      refine (table_any T m HCH.out HN.out A2 n c2 l _ (HT2.out.below hBc) (HE3.out.below hB3x) (by omega)).mono ?_; rintro e wf1 ⟨hor, hBf⟩
      replace hBc := bel_trans hBc hBf; replace hB3x := bel_trans hB3x hBf
      clear hBf
      have hor2 : ∃ g b, e = .returned (.tuple #[.pointer (some ⟨g, 0, none⟩), .int .i64 0]) ∧ GridI wf1 g b m m (tabK m l n) := by
        rcases hor with ⟨_, h⟩ | ⟨hno, _⟩
        · exact h
        · rw [HALL.out] at hno; cases hno
      clear hor
      obtain ⟨g, b, rfl, hG⟩ := hor2
      have hBg := Below.refl wf1.heap.size wf1
      have HGG := Lib.hid hG
      clear hG
      have q0 := (HB2.out.below hBc).at_ (i := 0) rfl
      have q1 := (HB2.out.below hBc).at_ (i := 1) rfl
      have q2 := (HB2.out.below hBc).at_ (i := 2) rfl
      have q3 := (HB2.out.below hBc).at_ (i := 3) rfl
      go_wp2_with fail
      refine (to_any T _).mono ?_; rintro e wt2 ⟨rfl, hBt⟩
      replace hBc := bel_trans hBc hBt; replace hB3x := bel_trans hB3x hBt
      replace hBg := bel_trans hBg hBt
      clear hBt q0 q1 q2 q3
      go_wp2_with fail
      refine (HF.out _ (HT2.out.below hBc) (HE3.out.below hB3x)).mono ?_; rintro e wf2 ⟨rfl, hBf⟩
      replace hBc := bel_trans hBc hBf; replace hB3x := bel_trans hB3x hBf
      replace hBg := bel_trans hBg hBf
      clear hBf
      have q0 := (HB2.out.below hBc).at_ (i := 0) rfl
      have q1 := (HB2.out.below hBc).at_ (i := 1) rfl
      have q2 := (HB2.out.below hBc).at_ (i := 2) rfl
      have q3 := (HB2.out.below hBc).at_ (i := 3) rfl
      go_wp2_with fail
      refine (to_any T _).mono ?_; rintro e wt3 ⟨rfl, hBt⟩
      replace hBc := bel_trans hBc hBt; replace hB3x := bel_trans hB3x hBt
      replace hBg := bel_trans hBg hBt
      clear hBt q0 q1 q2 q3
      go_wp2_with fail
      refine (HG.out _ (HT2.out.below hBc) (HE3.out.below hB3x)).mono ?_; rintro e wf3 ⟨rfl, hBf⟩
      replace hBc := bel_trans hBc hBf; replace hB3x := bel_trans hB3x hBf
      replace hBg := bel_trans hBg hBf
      clear hBf
      have q0 := (HB2.out.below hBc).at_ (i := 0) rfl
      have q1 := (HB2.out.below hBc).at_ (i := 1) rfl
      have q2 := (HB2.out.below hBc).at_ (i := 2) rfl
      have q3 := (HB2.out.below hBc).at_ (i := 3) rfl
      go_wp2_with fail
      refine (rc_any T m HCH.out HN.out a n cap l _ (HT2.out.below hBc) (HL2.out.below hBc) (by omega)).mono ?_; rintro e w7 ⟨rfl, hBf⟩
      replace hBc := bel_trans hBc hBf; replace hB3x := bel_trans hB3x hBf
      replace hBg := bel_trans hBg hBf
      clear hBf q0 q1 q2 q3
      rw [HALL.out]
      unfold rcV
      simp only [if_true]
      go_wp2_with fail
      refine (costs_any _).mono ?_; rintro e w8 ⟨rfl, hBf⟩
      replace hBc := bel_trans hBc hBf; replace hB3x := bel_trans hB3x hBf
      replace hBg := bel_trans hBg hBf
      clear hBf
      have q0 := (HB2.out.below hBc).at_ (i := 0) rfl
      have q1 := (HB2.out.below hBc).at_ (i := 1) rfl
      have q2 := (HB2.out.below hBc).at_ (i := 2) rfl
      have q3 := (HB2.out.below hBc).at_ (i := 3) rfl
      go_wp2_with fail
      refine (HRS.out _ (HT2.out.below hBc) (HL2.out.below hBc)).mono ?_; rintro e w9 ⟨rfl, hBf⟩
      replace hBc := bel_trans hBc hBf; replace hB3x := bel_trans hB3x hBf
      replace hBg := bel_trans hBg hBf
      clear hBf q0 q1 q2 q3
      have q0 := (HB2.out.below hBc).at_ (i := 0) rfl
      rw [HN.out] at q0
      have hG9 := HGG.out.below hBg
      have HG9 := Lib.hid hG9
      have hlt0 : ¬ (sA < 10 * (n : Int)) := by omega
      have hw10 : IntKind.i64.wrap (10 * (n : Int)) = 10 * (n : Int) := i64_sm (by omega) (by omega)
      have hns : (sA != sA) = false := by rw [bne_eq_false_iff_eq]
      have hng : (gA != gA) = false := by rw [bne_eq_false_iff_eq]
      have hnm : ((m : Int) != (m : Int)) = false := by rw [bne_eq_false_iff_eq]
      have hdl : decide (sA < 10 * (n : Int)) = false := decide_eq_false hlt0
      clear hG9
      go_upto_region 13 with fail
      go_quiet (first
        | (go_at_call 33; exact Calls.quiet_of_same ((gi_Rows g b m m _ _ (by first | exact HG9.out | exact HG9.out.below (bel_drewN (Below.refl _ _) _))).mono fun _ _ h => ⟨h.1, h.2.symm⟩))
        | (go_at_call 34; exact Calls.quiet_of_same ((gi_Cols g b m m _ _ (by first | exact HG9.out | exact HG9.out.below (bel_drewN (Below.refl _ _) _))).mono fun _ _ h => ⟨h.1, h.2.symm⟩)))
      obtain ⟨wQ, hwQ⟩ : ∃ x, x = w9.drewN nq := ⟨_, rfl⟩
      rw [← hwQ]
      have hBq : Below w9.heap.size w9 wQ := by rw [hwQ]; exact bel_drewN (Below.refl _ _) _
      have q0 := (HB2.out.below (bel_trans hBc hBq)).at_ (i := 0) rfl
      rw [HN.out] at q0
      have HGQ := Lib.hid (HG9.out.below hBq); have HLQ := Lib.hid (HL2.out.below (bel_trans hBc hBq)); have HBQ := Lib.hid (bel_trans HBB.out (bel_trans hBc hBq))
      have htc := fun (x y : Nat) (hx : x < m) (hy : y < m) => tab_cnt (m := m) HALL.out hx hy n
      have HTC := Lib.hid htc
      clear hwQ hBq hBc hBg hB3x htc hdl hw10 hlt0 hns hng hnm HG9
      go_wp2_with fail
      go_loopw [17] (fun v wr => ∃ x : Nat, x ≤ m ∧ v = .int .i64 (x : Int) ∧ wr = wQ) (fun v _ => m - (intOf v).toNat)
      case atStart => exact ⟨0, by omega, rfl, rfl⟩
      case round =>
        obtain ⟨x, hx, rfl, rfl⟩ := hrel
        by_cases hxl : x < m
        · go_wp2_with fail
          go_loopw [18] (fun v wx => ∃ y : Nat, y ≤ m ∧ v = .int .i64 (y : Int) ∧ wx = wr) (fun v _ => m - (intOf v).toNat)
          case atStart => exact ⟨0, by omega, rfl, rfl⟩
          case round =>
            obtain ⟨y, hy, rfl, rfl⟩ := hrel
            by_cases hyl : y < m
            · go_wp2_with fail
              go_loopw [20, 19] (fun v v19 wy => ∃ i : Nat, i ≤ n ∧ v = .int .i64 (i : Int) ∧ v19 = .int .i64 (cntE l (x : Int) (y : Int) i) ∧ wy = wr) (fun v _ _ => n - (intOf v).toNat)
              case atStart => exact ⟨0, by omega, rfl, rfl, rfl⟩
              case round =>
                obtain ⟨i, hi, rfl, rfl, rfl⟩ := hrel
                have hcb := cntE_bd l (x : Int) (y : Int) i
                by_cases hil : i < n
                · obtain ⟨be, oe, ev, rfl, hbe, hei, h0, h1, h2, h3⟩ := HLQ.out.get hil
                  have hix := fun w => idx_e16 be oe n cap i hil w
                  have hcs := cntE_succ (a := (x : Int)) (b := (y : Int)) hei
                  have HCS := Lib.hid hcs
                  obtain ⟨en, es, eo, ei⟩ := ev
                  simp only at *
                  clear hei hcs h1 h3
                  generalize hce : cntE l (x : Int) (y : Int) i = ce at *
                  have HCE := Lib.hid hce
                  clear hce
                  by_cases g1 : eo = (x : Int)
                  · have g1b : (eo == (x : Int)) = true := by rw [beq_iff_eq]; exact g1
                    by_cases g2 : en = (y : Int)
                    · have g2b : (en == (y : Int)) = true := by rw [beq_iff_eq]; exact g2
                      have hs := HCS.out
                      rw [if_pos ⟨g1, g2⟩] at hs
                      have HS := Lib.hid hs
                      clear hs g1 g2 HCS
                      go_wp2_with fail
                      go_roundw
                      case rel => exact ⟨i + 1, by omega, by go_num, by rw [HS.out], by first | rfl | trivial⟩
                      case measure => simp [intOf]; omega
                    · have g2b : (en == (y : Int)) = false := by rw [beq_eq_false_iff_ne]; exact g2
                      have hs := HCS.out
                      rw [if_neg (fun h => g2 h.2)] at hs
                      have HS := Lib.hid hs
                      clear hs g1 g2 HCS
                      go_wp2_with fail
                      go_roundw
                      case rel => exact ⟨i + 1, by omega, by go_num, by rw [HS.out], by first | rfl | trivial⟩
                      case measure => simp [intOf]; omega
                  · have g1b : (eo == (x : Int)) = false := by rw [beq_eq_false_iff_ne]; exact g1
                    have hs := HCS.out
                    rw [if_neg (fun h => g1 h.1)] at hs
                    have HS := Lib.hid hs
                    clear hs g1 HCS
                    go_wp2_with fail
                    go_roundw
                    case rel => exact ⟨i + 1, by omega, by go_num, by rw [HS.out], by first | rfl | trivial⟩
                    case measure => simp [intOf]; omega
                · obtain rfl : i = n := by omega
                  have hat := gi_At_yes g b m m (tabK m l i) x y (x * m + y) wr HGQ.out hxl hyl rfl
                  rw [HTC.out x y hxl hyl] at hat
                  have HAT := Lib.hid hat
                  clear hat
                  generalize cntE l (x : Int) (y : Int) i = ce at *
                  have hnn : (ce != ce) = false := by rw [bne_eq_false_iff_eq]
                  go_wp2_with fail
                  refine HAT.out.mono ?_; rintro e wz ⟨rfl, rfl⟩
                  go_wp2_with fail
                  go_roundw
                  case rel => exact ⟨y + 1, by omega, by go_num, by first | rfl | trivial⟩
                  case measure => simp [intOf]; omega
            · obtain rfl : y = m := by omega
              go_wp2_with fail
              go_roundw
              case rel => exact ⟨x + 1, by omega, by go_num, by first | rfl | trivial⟩
              case measure => simp [intOf]; omega
        · obtain rfl : x = m := by omega
          go_wp2_with fail
          go_ret
          exact ⟨rfl, HBQ.out⟩
  · have e3 : (chkT T != 0) = true := by rw [bne_iff_ne]; exact hch
    have HCH := Lib.hid hch
    clear hch
    have q0 := (HB2.out.below hBc).at_ (i := 0) rfl
    have q1 := (HB2.out.below hBc).at_ (i := 1) rfl
    have q2 := (HB2.out.below hBc).at_ (i := 2) rfl
    have q3 := (HB2.out.below hBc).at_ (i := 3) rfl
    go_wp2_with fail
    refine (to_any T _).mono ?_; rintro e wt1 ⟨rfl, hBt⟩
    replace hBc := bel_trans hBc hBt; replace hB3x := bel_trans hB3x hBt
    clear hBt q0 q1 q2 q3
    go_wp2_with fail
    refine (table_no T A2 n c2 _ (HT2.out.below hBc) HCH.out).mono ?_; rintro e wf1 ⟨rfl, hBf⟩
    replace hBc := bel_trans hBc hBf; replace hB3x := bel_trans hB3x hBf
    clear hBf
    have q0 := (HB2.out.below hBc).at_ (i := 0) rfl
    have q1 := (HB2.out.below hBc).at_ (i := 1) rfl
    have q2 := (HB2.out.below hBc).at_ (i := 2) rfl
    have q3 := (HB2.out.below hBc).at_ (i := 3) rfl
    go_wp2_with fail
    refine (to_any T _).mono ?_; rintro e wt2 ⟨rfl, hBt⟩
    replace hBc := bel_trans hBc hBt; replace hB3x := bel_trans hB3x hBt
    clear hBt q0 q1 q2 q3
    go_wp2_with fail
    refine (sum_of T A2 n c2 (chkT T) _ (fun fv => fold_no T A2 n c2 fv _ (HT2.out.below (bel_trans hBc (bel_alloc (Below.refl _ _) _))) HCH.out)).mono ?_; rintro e wf2 ⟨rfl, hBf⟩
    replace hBc := bel_trans hBc hBf; replace hB3x := bel_trans hB3x hBf
    clear hBf
    have q0 := (HB2.out.below hBc).at_ (i := 0) rfl
    have q1 := (HB2.out.below hBc).at_ (i := 1) rfl
    have q2 := (HB2.out.below hBc).at_ (i := 2) rfl
    have q3 := (HB2.out.below hBc).at_ (i := 3) rfl
    go_wp2_with fail
    refine (to_any T _).mono ?_; rintro e wt3 ⟨rfl, hBt⟩
    replace hBc := bel_trans hBc hBt; replace hB3x := bel_trans hB3x hBt
    clear hBt q0 q1 q2 q3
    go_wp2_with fail
    refine (far_of T A2 n c2 (chkT T) lim _ (fun fv => fold_no T A2 n c2 fv _ (HT2.out.below (bel_trans hBc (bel_alloc (bel_alloc (Below.refl _ _) _) _))) HCH.out)).mono ?_; rintro e wf3 ⟨rfl, hBf⟩
    replace hBc := bel_trans hBc hBf; replace hB3x := bel_trans hB3x hBf
    clear hBf
    have q0 := (HB2.out.below hBc).at_ (i := 0) rfl
    have q1 := (HB2.out.below hBc).at_ (i := 1) rfl
    have q2 := (HB2.out.below hBc).at_ (i := 2) rfl
    have q3 := (HB2.out.below hBc).at_ (i := 3) rfl
    go_wp2_with fail
    refine (rc_no T a n cap _ (HT2.out.below hBc) HCH.out).mono ?_; rintro e w7 ⟨rfl, hBf⟩
    replace hBc := bel_trans hBc hBf; replace hB3x := bel_trans hB3x hBf
    clear hBf q0 q1 q2 q3
    go_wp2_with fail
    refine (costs_any _).mono ?_; rintro e w8 ⟨rfl, hBf⟩
    replace hBc := bel_trans hBc hBf; replace hB3x := bel_trans hB3x hBf
    clear hBf
    go_wp2_with fail
    go_ret
    exact ⟨rfl, bel_trans HBB.out hBc⟩
end Go.Proofs.Ytpajbpgpbfmebaa
