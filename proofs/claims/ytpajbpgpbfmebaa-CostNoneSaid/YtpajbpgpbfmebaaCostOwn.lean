/- The law CostOwn. -/
import Derived.Test.YtpajbpgpbfmebaaCostPure
import Derived.Test.YtpajbpgpbfmebaaCostBest
import Derived.Test.YtpajbpgpbfmebaaOwnRows
namespace Go.Proofs.Ytpajbpgpbfmebaa
open Go.RowKit
set_option linter.unusedVariables false
set_option linter.unusedSimpArgs false
attribute [local go_sem] World.cell?_alloc_lt

set_option maxRecDepth 100000 in
set_option maxHeartbeats 4000000 in
theorem costOwn_walk (w0 : World) (t : TopoV) (hT : InTopo w0 t) (hk1 : t.cs.length ≤ t.cc) (hk2 : t.ds.length ≤ t.dc) (nd : Int) (_wn : (Lit.int .i64 nd).wf = true) (tm : Int) (_wt : (Lit.int .i64 tm).wf = true) : Calls Try.prog 6 #[t.val, .int .i64 nd, .int .i64 tm] w0 fun e w' => e = .returned (.bool true) ∧ Below w0.heap.size w0 w' := by
  have hba : Below w0.heap.size w0 (w0.alloc (.cells #[.int .i64 t.N, .int .i64 t.F, .slice t.ca t.cs.length t.cc, .slice t.da t.ds.length t.dc] 42)) := bel_alloc (Below.refl _ _) _
  have htm := tame_any t (w0.alloc (.cells #[.int .i64 t.N, .int .i64 t.F, .slice t.ca t.cs.length t.cc, .slice t.da t.ds.length t.dc] 42)) hk1 hk2 hT.c63 hT.d63
  have hTT := tame_in hT
  have hblk := Blk.new w0 42 [.int .i64 t.N, .int .i64 t.F, .slice t.ca t.cs.length t.cc, .slice t.da t.ds.length t.dc]
  obtain ⟨hq1, hq2⟩ := umod1_bd tm 9 (by omega) (by omega)
  have HTM := Lib.hid htm; have HTT := Lib.hid hTT; have HBA := Lib.hid hba; have HB := Lib.hid hblk
  clear htm hTT hba hT hblk hk1 hk2
  generalize tameV t = T at *
  unfold TopoV.val at *
  go_enter Try.func6, Try.ntmps6
  go_wp2_with fail
  refine HTM.out.mono ?_; rintro e w1 ⟨rfl, hB1⟩
  have hb1 := HB.out.below hB1
  have q0 := hb1.at_ (i := 0) rfl
  have q1 := hb1.at_ (i := 1) rfl
  have q2 := hb1.at_ (i := 2) rfl
  have q3 := hb1.at_ (i := 3) rfl
  have f0 := hb1.frozen 0; have f1 := hb1.frozen 1; have f2 := hb1.frozen 2; have f3 := hb1.frozen 3
  go_upto_region 2 with fail
  have hb2 : Blk _ w0.heap.size 42 [.int .i64 T.N, .int .i64 T.F, .slice T.ca T.cs.length T.cc, .slice T.da T.ds.length T.dc] := (((hb1.set_ 0 (.int .i64 T.N)).set_ 1 (.int .i64 T.F)).set_ 2 (.slice T.ca T.cs.length T.cc)).set_ 3 (.slice T.da T.ds.length T.dc)
  have hB2 : Below w0.heap.size w0 ((((w1.setCell ⟨w0.heap.size, 0, none⟩ (.int .i64 T.N)).setCell ⟨w0.heap.size, 1, none⟩ (.int .i64 T.F)).setCell ⟨w0.heap.size, 2, none⟩ (.slice T.ca T.cs.length T.cc)).setCell ⟨w0.heap.size, 3, none⟩ (.slice T.da T.ds.length T.dc)) :=
    bel_set (bel_set (bel_set (bel_set (bel_trans HBA.out hB1) (by simp) _) (by simp) _) (by simp) _) (by simp) _
  clear q0 q1 q2 q3 f0 f1 f2 f3 hb1 hB1
  generalize (((w1.setCell ⟨w0.heap.size, 0, none⟩ (.int .i64 T.N)).setCell ⟨w0.heap.size, 1, none⟩ (.int .i64 T.F)).setCell ⟨w0.heap.size, 2, none⟩ (.slice T.ca T.cs.length T.cc)).setCell ⟨w0.heap.size, 3, none⟩ (.slice T.da T.ds.length T.dc) = w2 at *
  have hTw := HTT.out.below hB2
  have HT2 := Lib.hid hTw; have HB2 := Lib.hid hb2; have HBB := Lib.hid hB2
  clear hTw hb2 hB2 HTM HTT HBA HB
  go_wp2_with fail
  refine (costs_any _).mono ?_; rintro e w3 ⟨rfl, hB3⟩
  have hb3 := HB2.out.below hB3
  have q0 := hb3.at_ (i := 0) rfl
  have q1 := hb3.at_ (i := 1) rfl
  have q2 := hb3.at_ (i := 2) rfl
  have q3 := hb3.at_ (i := 3) rfl
  have hT3 := HT2.out.below hB3
  have hBB3 := bel_trans HBB.out hB3
  have hrc := ref_check T w3 hT3
  have HT3 := Lib.hid hT3; have HB3 := Lib.hid hb3; have HBB3 := Lib.hid hBB3
  clear hb3 hT3 hBB3 HT2 HB2 HBB hB3
  by_cases hch : chkT T = 0
  · rw [hch] at hrc
    obtain ⟨m, hN, hm1, hm8, hmat⟩ := chk_zero hch
    obtain ⟨hr1, hr2⟩ := umod_bd nd (m : Int) (by omega) (by omega)
    have HRC := Lib.hid hrc; have HM := Lib.hid hmat; have HCH := Lib.hid hch; have HN := Lib.hid hN
    clear hrc hmat hch hN
    go_wp2_with fail
    refine HRC.out.mono ?_; rintro e w4 ⟨rfl, hB4⟩
    clear q0 q1 q2 q3
    have hb4 := HB3.out.below hB4
    have hT4 := HT3.out.below hB4
    have hBB4 := bel_trans HBB3.out hB4
    have q0 := hb4.at_ (i := 0) rfl
    have HT4 := Lib.hid hT4; have HB4 := Lib.hid hb4; have HBB4 := Lib.hid hBB4
    clear hb4 hT4 hBB4 HT3 HB3 HBB3 hB4 HRC
    have hq0 := q0
    rw [HN.out] at q0
    have hum : IntKind.u64.wrap (m : Int) = (m : Int) := by
      simp only [IntKind.wrap]
      simp [IntKind.signed, IntKind.bits]
      omega
    have hne : ((m : Int) == 0) = false := by rw [beq_eq_false_iff_ne]; omega
    have hne2 : (m : Int) ≠ 0 := by omega
    have HQ0 := Lib.hid hq0
    clear hq0
    go_upto_region 6 with fail
    generalize wrap64 ((IntKind.u64.wrap nd).tmod (m : Int)) = kk at *
    generalize wrap64 (1 + wrap64 ((IntKind.u64.wrap tm).tmod 9)) = nn at *
    obtain ⟨k, rfl⟩ := Int.eq_ofNat_of_zero_le hr1
    obtain ⟨n, rfl⟩ := Int.eq_ofNat_of_zero_le (show 0 ≤ nn by omega)
    clear hum hne hne2 q0
    have hB44 := Below.refl w4.heap.size w4
    go_wp2_with fail
    go_loopw [11, 9] (fun v v9 wr => ∃ (i : Nat) (A : Option Addr) (c : Nat), i ≤ n ∧ v = .int .i64 (i : Int) ∧ v9 = .slice A i c ∧ wr.ownsRow w4.heap.size 3 1 (.slice A i c) i ((List.replicate i (k : Int)).map (Value.int .i64)) ∧ Below w4.heap.size w4 wr) (fun v _ _ => n - (intOf v).toNat)
    case atStart => exact ⟨0, none, 0, by omega, rfl, rfl, ⟨rfl, Or.inl ⟨rfl, rfl⟩⟩, hB44⟩
    case round =>
      clear hB44
      obtain ⟨i, A, c, hi, rfl, rfl, hown, hB⟩ := hrel
      by_cases hlt : i < n
      · have hoa := own_chV hown ((Ch.refl [] wr).alloc (.cells #[.int .i64 (k : Int)] 3)) (by simp)
        have hsz := hB.size
        have HO := Lib.hid hown; have HOA := Lib.hid hoa
        clear hown hoa
        go_wp2_with (at_builtin; refine wpList_push _ rfl (.tmp 49) (.tmp 51) 22 rfl w4.heap.size 3 (.int .i64 0) 8 Try.underlying22 info_int rfl A i c _ rfl HOA.out wr.heap.size 1 (.int .i64 (k : Int)) rfl ?_ rfl (by omega) (by omega) (by simp; omega) ?_)
        · simp
        intro g2 cp2 w5 hown2 hgr hor
        have hba := bel_alloc hB (.cells #[.int .i64 (k : Int)] 3)
        have hc3 : Ch (Value.slice A i c).ownBlock.toList (wr.alloc (.cells #[.int .i64 (k : Int)] 3)) w5 := ch_grown hgr (fun q hq => by rw [hq]; simp)
        have hB3 := bel_ch hba hc3 (fun q hq => by rw [Option.mem_toList] at hq; exact (HO.out.lt q hq).1)
        have hown3 : w5.ownsRow w4.heap.size 3 1 (.slice (some ⟨g2, 0, none⟩) (i + 1) cp2) (i + 1) ((List.replicate (i + 1) (k : Int)).map (Value.int .i64)) := by
          rw [List.replicate_succ', List.map_append, List.map_singleton]
          first | exact hown2 | (rw [List.map_replicate]; exact hown2)
        have HO3 := Lib.hid hown3
        clear hown2 hown3 hgr hor hc3 hba hB HO HOA
        go_wp2_with fail
        go_roundw
        case rel => exact ⟨i + 1, some ⟨g2, 0, none⟩, cp2, by omega, by go_num, rfl, HO3.out, hB3⟩
        case measure => simp [intOf]; omega
      · obtain rfl : i = n := by omega
        have hx1 := InI.own hown
        have hT5 := HT4.out.below hB
        have hb5 := HB4.out.below hB
        have hBB5 := bel_trans HBB4.out hB
        have HX1 := Lib.hid hx1; have HT5 := Lib.hid hT5; have HB5 := Lib.hid hb5; have HBB5 := Lib.hid hBB5
        clear hown hx1 hT5 hb5 hBB5 hB HT4 HB4 HBB4
        have hBrr := Below.refl wr.heap.size wr
        obtain ⟨w5, rfl⟩ : ∃ x, x = wr := ⟨_, rfl⟩
        go_wp2_with fail
        go_loopw [12, 10] (fun v v10 wr => ∃ (j : Nat) (A : Option Addr) (c : Nat), j ≤ m ∧ v = .int .i64 (j : Int) ∧ v10 = .slice A j c ∧ wr.ownsRow w5.heap.size 3 1 (.slice A j c) j ((rangeI j).map (Value.int .i64)) ∧ Below w5.heap.size w5 wr) (fun v _ _ => m - (intOf v).toNat)
        case atStart => exact ⟨0, none, 0, by omega, rfl, rfl, ⟨rfl, Or.inl ⟨rfl, rfl⟩⟩, hBrr⟩
        case round =>
          clear hBrr
          obtain ⟨j, A2, c2, hj, rfl, rfl, hown, hB⟩ := hrel
          have q0 := (HB5.out.below hB).at_ (i := 0) rfl
          rw [HN.out] at q0
          by_cases hlt2 : j < m
          · have hoa := own_chV hown ((Ch.refl [] wr).alloc (.cells #[.int .i64 (j : Int)] 3)) (by simp)
            have hsz := hB.size
            have HO := Lib.hid hown; have HOA := Lib.hid hoa
            clear hown hoa
            go_wp2_with (at_builtin; refine wpList_push _ rfl (.tmp 59) (.tmp 61) 22 rfl w5.heap.size 3 (.int .i64 0) 8 Try.underlying22 info_int rfl A2 j c2 _ rfl HOA.out wr.heap.size 1 (.int .i64 (j : Int)) rfl ?_ rfl (by omega) (by omega) (by simp; omega) ?_)
            · simp
            intro g2 cp2 w6 hown2 hgr hor
            have hba := bel_alloc hB (.cells #[.int .i64 (j : Int)] 3)
            have hc3 : Ch (Value.slice A2 j c2).ownBlock.toList (wr.alloc (.cells #[.int .i64 (j : Int)] 3)) w6 := ch_grown hgr (fun q hq => by rw [hq]; simp)
            have hB3 := bel_ch hba hc3 (fun q hq => by rw [Option.mem_toList] at hq; exact (HO.out.lt q hq).1)
            have hown3 : w6.ownsRow w5.heap.size 3 1 (.slice (some ⟨g2, 0, none⟩) (j + 1) cp2) (j + 1) ((rangeI (j + 1)).map (Value.int .i64)) := by
              rw [rangeI_succ, List.map_append, List.map_singleton]
              exact hown2
            have HO3 := Lib.hid hown3
            clear hown2 hown3 hgr hor hc3 hba hB HO HOA q0
            go_wp2_with fail
            go_roundw
            case rel => exact ⟨j + 1, some ⟨g2, 0, none⟩, cp2, by omega, by go_num, rfl, HO3.out, hB3⟩
            case measure => simp [intOf]; omega
          · obtain rfl : j = m := by omega
            have hkj : k < j := by omega
            have hx2 := InI.own hown
            have hx1 := HX1.out.below hB
            have hT6 := HT5.out.below hB
            have hb6 := HB5.out.below hB
            have hBB6 := bel_trans HBB5.out hB
            have hnn : ∀ a, a < j → 0 ≤ sumTo T.ds a (rangeI j) j := fun a ha => (sumTo_bd (xs := rangeI j) HM.out ha j (by rw [rangeI_len]; omega) (by rw [List.take_of_length_le (by rw [rangeI_len]; omega)]; exact rangeI_ok j)).1
            have hsb : ∀ a, a < j → ∀ y, y ≤ j → 0 ≤ sumTo T.ds a (rangeI j) y ∧ sumTo T.ds a (rangeI j) y ≤ 255 * (y : Int) := fun a ha y hy => sumTo_bd (xs := rangeI j) HM.out ha y (by rw [rangeI_len]; omega) (by
              rw [List.any_eq_false]
              intro x hx
              have h1 := rangeI_ok j
              rw [List.any_eq_false] at h1
              exact h1 x (List.mem_of_mem_take hx))
            obtain ⟨b, hb, hbe, hbi⟩ := best_spec T.ds (rangeI j) j j hnn j (by omega) (Nat.le_refl _)
            have hp1 := fun (w : World) (hT : InTopo w T) (hI : InI w A i (List.replicate i (k : Int))) => best_yes T A i c _ w hT hI (by omega) j HCH.out HN.out (by rw [HN.out]; exact rep_ok i hkj)
            have hp2 := fun (w : World) (hT : InTopo w T) (hI : InI w A2 j (rangeI j)) => best_yes T A2 j c2 _ w hT hI (by omega) j HCH.out HN.out (by rw [HN.out]; exact rangeI_ok j)
            rw [best_rep HM.out hkj (by omega)] at hp1
            rw [hbe] at hp2
            simp only at hp1 hp2
            have hs0 := hnn b hb
            have hsm := hsb b hb j (Nat.le_refl _)
            have hbds := mat_bds HM.out
            have HP1 := Lib.hid hp1; have HP2 := Lib.hid hp2; have HX2 := Lib.hid hx2; have HX1' := Lib.hid hx1; have HT6 := Lib.hid hT6; have HB6 := Lib.hid hb6; have HBB6 := Lib.hid hBB6; have HBI := Lib.hid hbi; have HSB := Lib.hid hsb; have HBD := Lib.hid hbds
            clear hown hx2 hx1 hT6 hb6 hBB6 hbe hp1 hp2 hnn hbi hsb hbds HT5 HB5 HBB5 HX1 hB
            generalize sumTo T.ds b (rangeI j) j = s at *
            have hq6 := HB6.out.at_ (i := 0) rfl
            have HQ6 := Lib.hid hq6
            clear hq6
            go_upto_region 15 with fail
            clear q0
            have q1 := HB6.out.at_ (i := 1) rfl
            have q2 := HB6.out.at_ (i := 2) rfl
            have q3 := HB6.out.at_ (i := 3) rfl
            have q0 := HQ6.out
            have hto := to_any T wr
            have HTO := Lib.hid hto
            clear hto
            go_wp2_with fail
            refine HTO.out.mono ?_; rintro e w7 ⟨rfl, hB7⟩
            clear q0 q1 q2 q3
            have hP := HP1.out w7 (HT6.out.below hB7) (HX1'.out.below hB7)
            have HP := Lib.hid hP
            have HT7 := Lib.hid (HT6.out.below hB7); have HX7 := Lib.hid (HX2.out.below hB7); have HB7 := Lib.hid (HB6.out.below hB7); have HBB7 := Lib.hid (bel_trans HBB6.out hB7)
            clear hP hB7 HT6 HX2 HB6 HBB6 HTO HX1' HP1 HQ6
            go_wp2_with fail
            refine HP.out.mono ?_; rintro e w8 ⟨rfl, hB8⟩
            have HT8 := Lib.hid (HT7.out.below hB8); have HX8 := Lib.hid (HX7.out.below hB8); have HB8 := Lib.hid (HB7.out.below hB8); have HBB8 := Lib.hid (bel_trans HBB7.out hB8)
            clear hB8 HT7 HX7 HB7 HBB7 HP
            have q0 := HB8.out.at_ (i := 0) rfl
            have q1 := HB8.out.at_ (i := 1) rfl
            have q2 := HB8.out.at_ (i := 2) rfl
            have q3 := HB8.out.at_ (i := 3) rfl
            have hto := to_any T w8
            have HTO := Lib.hid hto
            clear hto
            go_wp2_with fail
            refine HTO.out.mono ?_; rintro e w9 ⟨rfl, hB9⟩
            clear q0 q1 q2 q3
            have hP := HP2.out w9 (HT8.out.below hB9) (HX8.out.below hB9)
            have HP := Lib.hid hP
            have HT9 := Lib.hid (HT8.out.below hB9); have HB9 := Lib.hid (HB8.out.below hB9); have HBB9 := Lib.hid (bel_trans HBB8.out hB9)
            clear hP hB9 HT8 HX8 HB8 HBB8 HTO HP2
            go_wp2_with fail
            refine HP.out.mono ?_; rintro e wA ⟨rfl, hBA⟩
            have hdA := (HT9.out.below hBA).d
            have HDA := Lib.hid hdA; have HBl := Lib.hid (HB9.out.below hBA); have HBBA := Lib.hid (bel_trans HBB9.out hBA)
            clear hdA hBA HT9 HB9 HBB9 HP
            have q0 := HBl.out.at_ (i := 0) rfl
            have q3 := HBl.out.at_ (i := 3) rfl
            rw [HN.out] at q0
            have hm10 : wrap64 (10 * (i : Int)) = 10 * (i : Int) := wrap64_small (by omega) (by omega)
            obtain ⟨hL, hR, hdv⟩ := HBD.out
            have HL := Lib.hid hL; have HR := Lib.hid hR; have HDV := Lib.hid hdv
            clear HBD hL hR hdv
            go_wp2_with fail
            go_loopw [19] (fun v wr => ∃ x : Nat, x ≤ j ∧ v = .int .i64 (x : Int) ∧ wr = wA) (fun v _ => j - (intOf v).toNat)
            case atStart => exact ⟨0, by omega, rfl, rfl⟩
            case round =>
              obtain ⟨x, hx, rfl, rfl⟩ := hrel
              by_cases hxl : x < j
              · have hla : x < T.ds.length := by have := HL.out; omega
                obtain ⟨bx, off, r, hda, hbx, hri, hcr, hIr, _⟩ := HDA.out.get (i := x) hla
                rw [hda] at q3
                have hix2 := fun w => idx_rows bx off T.ds.length T.dc x hla w
                have hrl := HR.out r (List.mem_of_getElem? hri)
                have HRI := Lib.hid hri; have HIR := Lib.hid hIr; have HRL := Lib.hid hrl; have HDAA := Lib.hid hda
                clear hri hIr hrl hda
                obtain ⟨ra, rc, zs⟩ := r
                simp only at *
                have hsq := HSB.out x hxl
                have hbi := HBI.out x hxl
                have HSQ := Lib.hid hsq; have HBX := Lib.hid hbi
                clear hsq hbi
                go_wp2_with fail
                go_loopw [21, 20] (fun v v20 wx => ∃ y : Nat, y ≤ j ∧ v = .int .i64 (y : Int) ∧ v20 = .int .i64 (sumTo T.ds x (rangeI j) y) ∧ wx = wr) (fun v _ _ => j - (intOf v).toNat)
                case atStart => exact ⟨0, by omega, rfl, rfl, rfl⟩
                case round =>
                  obtain ⟨y, hy, rfl, rfl, rfl⟩ := hrel
                  by_cases hyl : y < j
                  · have hyz : y < zs.length := by have := HRL.out; omega
                    obtain ⟨bz, oz, rfl, hbz, hcz⟩ := HIR.out.get hyz
                    have hiz := fun w => idxI bz oz zs.length rc y hyz w
                    have hv1 := dv_at (c := y) HRI.out
                    simp only at hv1
                    rw [← hv1] at hcz
                    have hsu := sumTo_succ T.ds x (rangeI j) y (by rw [rangeI_len]; exact hyl)
                    rw [rangeI_getD hyl, Int.toNat_natCast] at hsu
                    have hs1 := HSQ.out y (by omega)
                    have hs2 := HSQ.out (y + 1) (by omega)
                    rw [hsu] at hs2
                    have HSU := Lib.hid hsu
                    clear hv1 hsu
                    generalize dv T.ds x y = d at *
                    generalize sumTo T.ds x (rangeI j) y = p at *
                    have hsm : wrap64 (p + d) = p + d := wrap64_small (by omega) (by omega)
                    go_wp2_with fail
                    go_roundw
                    case rel => exact ⟨y + 1, by omega, by go_num, by rw [HSU.out], by first | rfl | trivial⟩
                    case measure => simp [intOf]; omega
                  · obtain rfl : y = j := by omega
                    have hbi := HBX.out
                    clear HBX HSQ
                    generalize sumTo T.ds x (rangeI y) y = p at *
                    have hn1 : ¬ p < s := by omega
                    rcases Classical.em (x < b) with hc | hc
                    · have hne : (p == s) = false := by rw [beq_eq_false_iff_ne]; have := hbi.2 hc; omega
                      clear hbi
                      go_wp2_with fail
                      go_roundw
                      case rel => exact ⟨x + 1, by omega, by go_num, by first | rfl | trivial⟩
                      case measure => simp [intOf]; omega
                    · clear hbi
                      cases hps : (p == s) with
                      | false =>
                        go_wp2_with fail
                        go_roundw
                        case rel => exact ⟨x + 1, by omega, by go_num, by first | rfl | trivial⟩
                        case measure => simp [intOf]; omega
                      | true =>
                        go_wp2_with fail
                        go_roundw
                        case rel => exact ⟨x + 1, by omega, by go_num, by first | rfl | trivial⟩
                        case measure => simp [intOf]; omega
              · obtain rfl : x = j := by omega
                go_wp2_with fail
                go_ret
                exact ⟨rfl, HBBA.out⟩
  · have e3 : (chkT T != 0) = true := by rw [bne_iff_ne]; exact hch
    have HRC := Lib.hid hrc
    clear hch hrc
    generalize chkT T = E at *
    go_wp2_with fail
    refine HRC.out.mono ?_; rintro e w4 ⟨rfl, hB4⟩
    have hBB4 := bel_trans HBB3.out hB4
    clear q0 q1 q2 q3
    go_wp2_with fail
    refine (costs_any _).mono ?_; rintro e w5 ⟨rfl, hB5⟩
    go_wp2_with fail
    go_ret
    exact ⟨rfl, bel_trans hBB4 hB5⟩
end Go.Proofs.Ytpajbpgpbfmebaa
