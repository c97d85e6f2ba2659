/- The law CostBest. -/
import Derived.Test.YtpajbpgpbfmebaaTopoIn
import Derived.Test.YtpajbpgpbfmebaaClone
namespace Go.Proofs.Ytpajbpgpbfmebaa
open Go.RowKit
set_option linter.unusedVariables false
set_option linter.unusedSimpArgs false
attribute [local go_sem] World.cell?_alloc_lt

theorem tame_in {w : World} {t : TopoV} (h : InTopo w t) : InTopo w (tameV t) := by
  obtain ⟨N, F, ca, cc, cs, da, dc, ds⟩ := t
  refine ⟨?_, ?_, ?_, ?_⟩
  · have := h.c.take (k := (cs.take 20).length) (by simp only [List.length_take]; omega)
    simp only at this
    rw [List.length_take] at this
    show InI w ca (cs.take 20).length (cs.take 20)
    rw [List.length_take]
    have e : cs.take (min 20 cs.length) = cs.take 20 := by
      rw [← List.take_take, List.take_length]
    rw [e] at this
    exact this
  · have := h.d.take (k := (ds.take 10).length) (by simp only [List.length_take]; omega)
    simp only at this
    rw [List.length_take] at this
    show InRs w da (ds.take 10).length (ds.take 10)
    rw [List.length_take]
    have e : ds.take (min 10 ds.length) = ds.take 10 := by
      rw [← List.take_take, List.take_length]
    rw [e] at this
    exact this
  · show (cs.take 20).length ≤ _
    rw [List.length_take]; have := h.c63; simp only at this; omega
  · show (ds.take 10).length ≤ _
    rw [List.length_take]; have := h.d63; simp only at this; omega
set_option maxRecDepth 100000 in
set_option maxHeartbeats 4000000 in
theorem costBest_walk (w0 : World) (t : TopoV) (hT : InTopo w0 t) (hk1 : t.cs.length ≤ t.cc) (hk2 : t.ds.length ≤ t.dc) (a : Option Addr) (len cap : Nat) (zs : List Int) (hz : InInts .i64 w0 a len zs) (hlc : len ≤ cap) : Calls Try.prog 5 #[t.val, .slice a len cap] w0 fun e w' => e = .returned (.bool true) ∧ Below w0.heap.size w0 w' := by
  have hmx := hz.mx
  obtain ⟨n, hnl, hn40, hmin⟩ : ∃ n : Nat, n ≤ len ∧ n ≤ 40 ∧ (if (40 : Int) < (len : Int) then (40 : Int) else (len : Int)) = (n : Int) := by
    by_cases h : (40 : Int) < (len : Int)
    · exact ⟨40, by omega, by omega, by rw [if_pos h]; rfl⟩
    · exact ⟨len, by omega, by omega, by rw [if_neg h]⟩
  have hI := (InI.inn hz).take hnl
  generalize zs.take n = xs at hI
  have hcut := fun w => cut_ints a len cap n (n : Int) rfl (by omega) w
  have hba : Below w0.heap.size w0 (w0.alloc (.cells #[.int .i64 t.N, .int .i64 t.F, .slice t.ca t.cs.length t.cc, .slice t.da t.ds.length t.dc] 42)) := bel_alloc (Below.refl _ _) _
  have htm := tame_any t (w0.alloc (.cells #[.int .i64 t.N, .int .i64 t.F, .slice t.ca t.cs.length t.cc, .slice t.da t.ds.length t.dc] 42)) hk1 hk2 hT.c63 hT.d63
  have hTT := tame_in hT
  have hblk := Blk.new w0 42 [.int .i64 t.N, .int .i64 t.F, .slice t.ca t.cs.length t.cc, .slice t.da t.ds.length t.dc]
  have HTM := Lib.hid htm; have HTT := Lib.hid hTT; have HBA := Lib.hid hba; have HI := Lib.hid hI; have HB := Lib.hid hblk
  clear htm hTT hba hI hT hblk hk1 hk2 hz
  generalize tameV t = T at *
  unfold TopoV.val at *
  go_enter Try.func5, Try.ntmps5
  go_wp2_with fail
  refine HTM.out.mono ?_; rintro e w1 ⟨rfl, hB1⟩
  have hb1 := HB.out.below hB1
  have q0 := hb1.at_ (i := 0) rfl
  have q1 := hb1.at_ (i := 1) rfl
  have q2 := hb1.at_ (i := 2) rfl
  have q3 := hb1.at_ (i := 3) rfl
  have f0 := hb1.frozen 0; have f1 := hb1.frozen 1; have f2 := hb1.frozen 2; have f3 := hb1.frozen 3
  go_upto_region 2 with fail
  have hb2 : Blk _ w0.heap.size 42 [.int .i64 T.N, .int .i64 T.F, .slice T.ca T.cs.length T.cc, .slice T.da T.ds.length T.dc] := (((hb1.set_ 0 (.int .i64 T.N)).set_ 1 (.int .i64 T.F)).set_ 2 (.slice T.ca T.cs.length T.cc)).set_ 3 (.slice T.da T.ds.length T.dc)
  have hB2 : Below w0.heap.size w0 ((((w1.setCell ⟨w0.heap.size, 0, none⟩ (.int .i64 T.N)).setCell ⟨w0.heap.size, 1, none⟩ (.int .i64 T.F)).setCell ⟨w0.heap.size, 2, none⟩ (.slice T.ca T.cs.length T.cc)).setCell ⟨w0.heap.size, 3, none⟩ (.slice T.da T.ds.length T.dc)) :=
    bel_set (bel_set (bel_set (bel_set (bel_trans HBA.out hB1) (by simp) _) (by simp) _) (by simp) _) (by simp) _
  clear q0 q1 q2 q3 f0 f1 f2 f3 hb1 hB1
  generalize (((w1.setCell ⟨w0.heap.size, 0, none⟩ (.int .i64 T.N)).setCell ⟨w0.heap.size, 1, none⟩ (.int .i64 T.F)).setCell ⟨w0.heap.size, 2, none⟩ (.slice T.ca T.cs.length T.cc)).setCell ⟨w0.heap.size, 3, none⟩ (.slice T.da T.ds.length T.dc) = w2 at *
  have hTw := HTT.out.below hB2
  have hIw := HI.out.below hB2
  have hw2 := hB2.size
  have HT2 := Lib.hid hTw; have HB2 := Lib.hid hb2; have HI2 := Lib.hid hIw; have HBB := Lib.hid hB2
  clear hTw hIw hb2 hB2 HTM HTT HBA HI HB
  go_cut [1] (fun v wx => ∃ A' c', v = .slice A' n c' ∧ wx.ownsRow w0.heap.size 3 1 (.slice A' n c') n (xs.map (Value.int .i64)) ∧ Below w2.heap.size w2 wx)
  case first =>
    have hown := own_made0 w2 w0.heap.size 3 1 hw2
    have HO := Lib.hid hown
    clear hown
    have hxl := HI2.out.ln
    have hal := bel_alloc (Below.refl _ w2) (.cells #[] 3)
    have hrd := HI2.out.reads.below hal
    obtain ⟨i0, hi0', hz0, hz1, hz2⟩ := info_parts info_int
    have HR := Lib.hid hrd; have HI0 := Lib.hid hi0'; have HZ0 := Lib.hid hz0; have HZ1 := Lib.hid hz1; have HZ2 := Lib.hid hz2; have HAL := Lib.hid hal
    clear hrd hi0' hz0 hz1 hz2 hal hxl
    go_wp2_with (at_builtin; refine wpList_append_any _ (by rfl) (.tmp 14) (.tmp 19) _ (by rfl) w0.heap.size 3 i0 _ 1 8 Try.underlying22 HI0.out HZ0.out HZ1.out HZ2.out rfl (by omega) (.slice (some ⟨w2.heap.size, 0, none⟩) 0 0) 0 [] (by rfl) HO.out w2.heap.size a n cap (xs.map (Value.int .i64)) (by rfl) HR.out (fun u hu => by obtain ⟨z, _, rfl⟩ := List.mem_map.1 hu; rfl) (by unfold maxLen; omega) (by omega) (by simp; omega) ?_)
    intro vA y2 ho hgr hor
    have hB4 := HAL.out.grown hgr (by simp) (fun k hk => by simp only [Value.ownBlock, Option.some.injEq] at hk; omega)
    try rw [Nat.zero_add] at ho
    try rw [List.nil_append] at ho
    obtain ⟨A0, d0, rfl⟩ := own_slice ho
    have HO4 := Lib.hid ho
    clear ho hgr hor
    go_wp2_with fail
    go_meet
    exact ⟨A0, d0, rfl, HO4.out, hB4⟩
  case rest =>
    obtain ⟨A', c', rfl, hown, hB3⟩ := hcut
    have hT3 := HT2.out.below hB3
    have hb3 := HB2.out.below hB3
    have hI3 := InI.own hown
    have hBB3 := bel_trans HBB.out hB3
    have q0 := hb3.at_ (i := 0) rfl
    have q1 := hb3.at_ (i := 1) rfl
    have q2 := hb3.at_ (i := 2) rfl
    have q3 := hb3.at_ (i := 3) rfl
    have hto := to_any T wc
    have HTO := Lib.hid hto; have HT3 := Lib.hid hT3; have HI3 := Lib.hid hI3; have HB3 := Lib.hid hb3; have HBB3 := Lib.hid hBB3
    clear hto hT3 hI3 hb3 hBB3 HT2 HB2 HBB HI2 hown hB3
    go_wp2_with fail
    refine HTO.out.mono ?_; rintro e w4 ⟨rfl, hB4⟩
    have hT4 := HT3.out.below hB4
    have hI4 := HI3.out.below hB4
    have hb4 := HB3.out.below hB4
    have hBB4 := bel_trans HBB3.out hB4
    have HT4 := Lib.hid hT4; have HI4 := Lib.hid hI4; have HB4 := Lib.hid hb4; have HBB4 := Lib.hid hBB4
    clear hT4 hI4 hb4 hBB4 HTO HT3 HI3 HB3 HBB3 hB4 q0 q1 q2 q3
    by_cases hch : chkT T = 0
    · obtain ⟨m, hN, hm1, hm8, hmat⟩ := chk_zero hch
      have hrc := fun (w : World) (h : InTopo w T) => ref_check T w h
      rw [hch] at hrc
      have HRC := Lib.hid hrc
      clear hrc
      cases hbad : xs.any (badN (m : Int)) with
      | true =>
        have hbn := best_bad T A' n c' xs w4 HT4.out HI4.out (by omega) hch (by rw [hN]; exact hbad)
        have HBN := Lib.hid hbn
        have HBAD := Lib.hid hbad
        clear hbn hbad hmat hch
        have HNN := Lib.hid hN
        clear hN
        go_wp2_with fail
        refine HBN.out.mono ?_; rintro e w5 ⟨rfl, hB5⟩
        have hT5 := HT4.out.below hB5
        have hI5 := HI4.out.below hB5
        have hrc := HRC.out w5 hT5
        have HRC5 := Lib.hid hrc
        have hb5 := HB4.out.below hB5
        have q0 := hb5.at_ (i := 0) rfl
        have q1 := hb5.at_ (i := 1) rfl
        have q2 := hb5.at_ (i := 2) rfl
        have q3 := hb5.at_ (i := 3) rfl
        have hBB5 := bel_trans HBB4.out hB5
        have HB5 := Lib.hid hb5; have HI5 := Lib.hid hI5
        clear hrc hb5 hB5 HBN HRC HT4 HI4 HB4 HBB4 hT5 hI5
        go_wp2_with fail
        refine HRC5.out.mono ?_; rintro e w6 ⟨rfl, hB6⟩
        have hBB6 := bel_trans hBB5 hB6
        have HI6 := Lib.hid (HI5.out.below hB6); have HB6 := Lib.hid (HB5.out.below hB6)
        clear HRC5 hB6 hBB5 q0 q1 q2 q3 HI5 HB5
        go_wp2_with fail
        go_loopw [9, 8] (fun v v8 wr => ∃ i : Nat, i ≤ n ∧ v = .int .i64 (i : Int) ∧ ((v8 = .int .i64 0 ∧ (xs.take i).any (badN (m : Int)) = false) ∨ v8 = .int .i64 10) ∧ Below w6.heap.size w6 wr) (fun v v8 _ => (n - (intOf v).toNat) + (10 - (intOf v8).toNat))
        case atStart => exact ⟨0, by omega, rfl, Or.inl ⟨rfl, rfl⟩, Below.refl _ _⟩
        case round =>
          obtain ⟨i, hi, rfl, hor, hBr⟩ := hrel
          have hBB7 := bel_trans hBB6 hBr
          have hb7 := HB6.out.below hBr
          have q0 := hb7.at_ (i := 0) rfl
          rw [HNN.out] at q0
          clear hb7
          rcases hor with ⟨rfl, hno⟩ | rfl
          · by_cases hlt : i < n
            · have hxi : xs[i]? = some (xs.getD i 0) := by rw [List.getD_eq_getElem?_getD, List.getElem?_eq_getElem (by rw [HI6.out.ln]; exact hlt)]; rfl
              obtain ⟨bc, oc, rfl, hbc, hcx⟩ := (HI6.out.below hBr).get hlt
              have hix := fun w => idxI bc oc n c' i hlt w
              have h1 := any_take (badN (m : Int)) xs i _ hxi
              rw [hno, Bool.false_or] at h1
              have H1 := Lib.hid h1
              clear h1 hxi hno
              generalize xs.getD i 0 = x at *
              by_cases hx : x < 0
              · clear H1
                go_upto_region 8 with fail
                go_quiet (fail)
                go_wp2_with fail
                go_roundw
                case rel => exact ⟨i + 1, by omega, by go_num, Or.inr rfl, bel_drewN hBr _⟩
                case measure => simp [intOf]; omega
              · by_cases hx2 : (m : Int) ≤ x
                · clear H1
                  go_upto_region 8 with fail
                  go_quiet (fail)
                  go_wp2_with fail
                  go_roundw
                  case rel => exact ⟨i + 1, by omega, by go_num, Or.inr rfl, bel_drewN hBr _⟩
                  case measure => simp [intOf]; omega
                · have hbx : badN (m : Int) x = false := by unfold badN; rw [decide_eq_false hx, decide_eq_false hx2]; rfl
                  have h1 := H1.out
                  rw [hbx] at h1
                  have H3 := Lib.hid h1
                  clear h1 hbx H1
                  go_upto_region 8 with fail
                  go_quiet (fail)
                  go_wp2_with fail
                  go_roundw
                  case rel => exact ⟨i + 1, by omega, by go_num, Or.inl ⟨rfl, H3.out⟩, bel_drewN hBr _⟩
                  case measure => simp [intOf]; omega
            · obtain rfl : i = n := by omega
              rw [List.take_of_length_le (by rw [HI6.out.ln]; omega), HBAD.out] at hno
              cases hno
          · rcases Classical.em (i < n) with h0 | h0
            all_goals
              go_wp2_with fail
              refine (costs_any _).mono ?_; rintro e w7 ⟨rfl, hB7⟩
              go_wp2_with fail
              go_ret
              exact ⟨rfl, bel_trans hBB7 hB7⟩
      | false =>
        have hbn := best_yes T A' n c' xs w4 HT4.out HI4.out (by omega) m hch hN (by rw [hN]; exact hbad)
        have hrb := fun (w : World) (hT : InTopo w T) (hI : InI w A' n xs) => ref_best T m hm8 hmat hN A' n c' xs w hT hI (by omega) hbad
        have HBN := Lib.hid hbn; have HRB := Lib.hid hrb
        have HBAD := Lib.hid hbad
        have HNN := Lib.hid hN
        clear hbn hrb hbad hmat hch hN
        generalize (bestK T.ds xs n m).1 = b1 at *
        generalize (bestK T.ds xs n m).2 = b2 at *
        go_wp2_with fail
        refine HBN.out.mono ?_; rintro e w5 ⟨rfl, hB5⟩
        have hT5 := HT4.out.below hB5
        have hI5 := HI4.out.below hB5
        have hrc := HRC.out w5 hT5
        have HRC5 := Lib.hid hrc
        have hb5 := HB4.out.below hB5
        have q0 := hb5.at_ (i := 0) rfl
        have q1 := hb5.at_ (i := 1) rfl
        have q2 := hb5.at_ (i := 2) rfl
        have q3 := hb5.at_ (i := 3) rfl
        have hBB5 := bel_trans HBB4.out hB5
        have HB5 := Lib.hid hb5; have HI5 := Lib.hid hI5; have HT5 := Lib.hid hT5
        clear hrc hb5 hB5 HBN HRC HT4 HI4 HB4 HBB4 hT5 hI5
        go_wp2_with fail
        refine HRC5.out.mono ?_; rintro e w6 ⟨rfl, hB6⟩
        have hBB6 := bel_trans hBB5 hB6
        have HI6 := Lib.hid (HI5.out.below hB6); have HB6 := Lib.hid (HB5.out.below hB6); have HT6 := Lib.hid (HT5.out.below hB6)
        clear HRC5 hB6 hBB5 q0 q1 q2 q3 HI5 HB5 HT5
        go_wp2_with fail
        go_loopw [9, 8] (fun v v8 wr => ∃ i : Nat, i ≤ n ∧ v = .int .i64 (i : Int) ∧ v8 = .int .i64 0 ∧ Below w6.heap.size w6 wr) (fun v _ _ => n - (intOf v).toNat)
        case atStart => exact ⟨0, by omega, rfl, rfl, Below.refl _ _⟩
        case round =>
          obtain ⟨i, hi, rfl, rfl, hBr⟩ := hrel
          have hBB7 := bel_trans hBB6 hBr
          have hb7 := HB6.out.below hBr
          have q0 := hb7.at_ (i := 0) rfl
          rw [HNN.out] at q0
          by_cases hlt : i < n
          · clear hb7
            have hxi : xs[i]? = some (xs.getD i 0) := by rw [List.getD_eq_getElem?_getD, List.getElem?_eq_getElem (by rw [HI6.out.ln]; exact hlt)]; rfl
            have hnb : badN (m : Int) (xs.getD i 0) = false := by
              cases hc : badN (m : Int) (xs.getD i 0) with
              | false => rfl
              | true =>
                have := any_of _ xs i _ hxi hc
                rw [HBAD.out] at this
                cases this
            obtain ⟨bc, oc, rfl, hbc, hcx⟩ := (HI6.out.below hBr).get hlt
            have hix := fun w => idxI bc oc n c' i hlt w
            unfold badN at hnb
            rw [Bool.or_eq_false_iff] at hnb
            have hx0 := of_decide_eq_false hnb.1
            have hx1 := of_decide_eq_false hnb.2
            clear hxi hnb
            generalize xs.getD i 0 = x at *
            go_upto_region 8 with fail
            go_quiet (fail)
            go_wp2_with fail
            go_roundw
            case rel => exact ⟨i + 1, by omega, by go_num, rfl, bel_drewN hBr _⟩
            case measure => simp [intOf]; omega
          · obtain rfl : i = n := by omega
            have HB7 := Lib.hid hb7
            clear hb7 q0
            go_wp2_with fail
            refine (costs_any _).mono ?_; rintro e w7 ⟨rfl, hB7⟩
            have hB67 := bel_trans hBr hB7
            have hb8 := HB7.out.below hB7
            have q0 := hb8.at_ (i := 0) rfl
            have q1 := hb8.at_ (i := 1) rfl
            have q2 := hb8.at_ (i := 2) rfl
            have q3 := hb8.at_ (i := 3) rfl
            have hrb := HRB.out w7 (HT6.out.below hB67) (HI6.out.below hB67)
            have HRB7 := Lib.hid hrb
            have hBB8 := bel_trans hBB7 hB7
            clear hb8 hrb hB67 hB7 hBB7 HB7
            go_wp2_with fail
            refine HRB7.out.mono ?_; rintro e w8 ⟨rfl, hB8⟩
            go_wp2_with fail
            go_ret
            exact ⟨rfl, bel_trans hBB8 hB8⟩
    · have hbn := best_no T A' n c' w4 HT4.out hch
      have HBN := Lib.hid hbn
      have hrc := fun (w : World) (h : InTopo w T) => ref_check T w h
      have HRC := Lib.hid hrc
      clear hbn hrc
      have e1 : (chkT T == 0) = false := by rw [beq_eq_false_iff_ne]; exact hch
      have e2 : (chkT T != chkT T) = false := by rw [bne_eq_false_iff_eq]
      have e3 : (chkT T != 0) = true := by rw [bne_iff_ne]; exact hch
      clear hch
      generalize chkT T = E at *
      go_wp2_with fail
      refine HBN.out.mono ?_; rintro e w5 ⟨rfl, hB5⟩
      have hrc := HRC.out w5 (HT4.out.below hB5)
      have HRC5 := Lib.hid hrc
      have hb5 := HB4.out.below hB5
      have q0 := hb5.at_ (i := 0) rfl
      have q1 := hb5.at_ (i := 1) rfl
      have q2 := hb5.at_ (i := 2) rfl
      have q3 := hb5.at_ (i := 3) rfl
      have hBB5 := bel_trans HBB4.out hB5
      clear hrc hb5 hB5 HBN HRC HT4 HI4 HB4 HBB4
      go_wp2_with fail
      refine HRC5.out.mono ?_; rintro e w6 ⟨rfl, hB6⟩
      have hBB6 := bel_trans hBB5 hB6
      clear HRC5 hB6 hBB5 q0 q1 q2 q3
      go_wp2_with fail
      go_loopw [9, 8] (fun v v8 wr => v = .int .i64 0 ∧ v8 = .int .i64 E ∧ wr = w6) (fun _ _ _ => 0)
      case atStart => exact ⟨rfl, rfl, rfl⟩
      case round =>
        obtain ⟨rfl, rfl, rfl⟩ := hrel
        rcases Classical.em (0 < n) with h0 | h0
        · go_wp2_with fail
          refine (costs_any _).mono ?_; rintro e w7 ⟨rfl, hB7⟩
          go_wp2_with fail
          go_ret
          exact ⟨rfl, bel_trans hBB6 hB7⟩
        · go_wp2_with fail
          refine (costs_any _).mono ?_; rintro e w7 ⟨rfl, hB7⟩
          go_wp2_with fail
          go_ret
          exact ⟨rfl, bel_trans hBB6 hB7⟩
end Go.Proofs.Ytpajbpgpbfmebaa
