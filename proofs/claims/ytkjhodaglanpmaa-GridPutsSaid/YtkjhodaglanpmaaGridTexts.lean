/- The closed test of the laws of layer 2, and the law GridTexts. -/
import Derived.Test.YtkjhodaglanpmaaGridI3
import Derived.Test.YtkjhodaglanpmaaGridS3
import Derived.Test.YtkjhodaglanpmaaArgs
namespace Go.Proofs.Ytkjhodaglanpmaa
open Go.RowKit
set_option linter.unusedVariables false

set_option maxHeartbeats 1000000 in
theorem grids_any (w : World) : Calls Try.prog 14 #[] w fun e w' => e = .returned (.bool true) ∧ Below w.heap.size w w' := by
  go_enter Try.func14, Try.ntmps14
  go_wp2_with fail
  refine (gi_new 2 3 w (by omega) (by omega)).mono ?_; rintro e w1 ⟨g, b, rfl, hg, hb, hG, hB⟩
  go_wp2_with fail
  refine (gi_Put_yes g b 2 3 _ 1 2 5 7 _ hG (by omega) (by omega) (by omega)).mono ?_; rintro e w2 ⟨rfl, hG, hc⟩
  have hB := bel_ch hB hc (by simp; omega)
  go_wp2_with fail
  refine (gi_Turned g b 2 3 _ _ hG).mono ?_; rintro e w3 ⟨g3, b3, rfl, hg3, hb3, hG3, hB3⟩
  have hG := hG.below hB3
  have hB := bel_trans hB hB3
  go_wp2_with fail
  refine (gi_At_yes g3 b3 3 2 _ 2 1 5 _ hG3 (by omega) (by omega) (by omega)).mono ?_; rintro e w4 ⟨rfl, rfl⟩
  rw [show (turnTo 0 ((List.replicate (2 * 3) (0 : Int)).set 5 7) 2 3 ((List.replicate (2 * 3) (0 : Int)).set 5 7).length).getD 5 0 = 7 by decide]
  go_wp2_with fail
  refine (gi_Rows g b 2 3 _ _ hG).mono ?_; rintro e w5 ⟨rfl, rfl⟩
  go_wp2_with fail
  refine (gi_Cols g b 2 3 _ _ hG).mono ?_; rintro e w6 ⟨rfl, rfl⟩
  go_wp2
  go_ret
  exact ⟨rfl, hB⟩
/-- The first k texts, in a table of twenty. -/
def txs (ss : List ByteArray) (k : Nat) : List ByteArray := (List.range 20).map fun j => if j < k then ss.getD j ByteArray.empty else ByteArray.empty
theorem txs_length (ss : List ByteArray) (k : Nat) : (txs ss k).length = 20 := by simp [txs]
theorem txs_zero (ss : List ByteArray) : txs ss 0 = List.replicate (5 * 4) ByteArray.empty := by
  unfold txs
  simp
  decide +revert
theorem txs_get (ss : List ByteArray) (k j : Nat) (h : j < 20) : (txs ss k).getD j ByteArray.empty = if j < k then ss.getD j ByteArray.empty else ByteArray.empty := by
  simp [txs, List.getD_eq_getElem?_getD, h]
theorem txs_succ (ss : List ByteArray) (k : Nat) (h : k < 20) : (txs ss k).set k (ss.getD k ByteArray.empty) = txs ss (k + 1) := by
  apply List.ext_getElem
  · simp [txs]
  · intro i h1 h2
    simp only [txs_length] at h2
    rw [List.getElem_set]
    split
    · rename_i e; subst e; simp [txs]
    · rename_i e
      simp only [txs, List.getElem_map, List.getElem_range]
      by_cases c : i < k
      · rw [if_pos c, if_pos (by omega)]
      · rw [if_neg c, if_neg (by omega)]
def hereS : ByteArray := ⟨#[104, 101, 114, 101]⟩

set_option maxRecDepth 100000 in
set_option maxHeartbeats 2000000 in
theorem gridTexts_walk (w0 : World) (a : Option Addr) (len cap : Nat) (ss : List ByteArray) (hs : InStrs w0 a len ss) (r0 : Int) (_h1 : (Lit.int .i64 r0).wf = true) (c0 : Int) (_h2 : (Lit.int .i64 c0).wf = true) :
    Calls Try.prog 3 #[.slice a len cap, .int .i64 r0, .int .i64 c0] w0 fun e w' => e = .returned (.bool true) ∧ Below w0.heap.size w0 w' := by
  have hbr := umod_bd r0 5 (by omega) (by omega)
  generalize hr : wrap64 ((IntKind.u64.wrap r0).tmod 5) = r' at hbr
  have HR := Lib.hid hr; clear hr
  obtain ⟨r, rfl⟩ := Int.eq_ofNat_of_zero_le hbr.1
  have hbc := umod_bd c0 4 (by omega) (by omega)
  generalize hc : wrap64 ((IntKind.u64.wrap c0).tmod 4) = c' at hbc
  have HC := Lib.hid hc; clear hc
  obtain ⟨c, rfl⟩ := Int.eq_ofNat_of_zero_le hbc.1
  have hr5 : r < 5 := by omega
  have hc4 : c < 4 := by omega
  have hmx := hs.mx
  have HSS := Lib.hid hs; clear hs
  go_enter Try.func3, Try.ntmps3
  go_wp2_with fail
  refine (gs_new 5 4 w0 (by omega) (by omega)).mono ?_; rintro e w1 ⟨g, b, rfl, hg, hb, hG, hB⟩
  go_wp2_with fail
  refine (grids_any w1).mono ?_; rintro e w2 ⟨rfl, hB2⟩
  have hG := hG.below hB2
  have hB := bel_trans hB hB2
  rw [← txs_zero ss] at hG
  go_wp2_with fail
  go_loopw [9] (fun i wr => ∃ k : Nat, k ≤ len ∧ k ≤ 20 ∧ i = .int .i64 k ∧ GridS wr g b 5 4 (txs ss k) ∧ Below w0.heap.size w0 wr) (fun i _ => 20 - (intOf i).toNat)
  case atStart => exact ⟨0, by omega, by omega, rfl, hG, hB⟩
  case round =>
    obtain ⟨k, hk, hk2, rfl, hG, hB⟩ := hrel
    by_cases hboth : k < len ∧ k < 20
    · obtain ⟨hlt, hlt2⟩ := hboth
      · obtain ⟨bx, off, ha, hbx, hcell⟩ := HSS.out.at_ (by omega)
        have kv := (hB.cell (p := ⟨bx, off + k, none⟩) hbx).trans (hcell k hlt)
        clear hcell
        have e1 : (k : Int) / 4 = ((k / 4 : Nat) : Int) := by omega
        have e2 : (k : Int) % 4 = ((k % 4 : Nat) : Int) := by omega
        have E1 := Lib.hid e1; have E2 := Lib.hid e2; clear e1 e2
        have p1 : k / 4 < 5 := by omega
        have p2 : k % 4 < 4 := by omega
        have p3 : k / 4 * 4 + k % 4 = k := by omega
        have hts := txs_succ ss k hlt2
        have HT := Lib.hid hts; have H3 := Lib.hid p3; clear hts p3
        generalize hv : ss.getD k ByteArray.empty = v at *
        go_wp2_with fail
        rw [E1.out, E2.out]
        refine (gs_Put_yes g b 5 4 _ (k / 4) (k % 4) k v wr hG p1 p2 H3.out).mono ?_; rintro e w3 ⟨rfl, hG3, hc3⟩
        have hB3 := bel_ch hB hc3 (by simp; omega)
        rw [HT.out] at hG3
        clear ha
        go_wp2
        go_roundw
        case rel => exact ⟨k + 1, by omega, by omega, by go_num, hG3, hB3⟩
        case measure => simp [intOf]; omega
    · have hfin : ∀ i, i < 20 → (txs ss k).getD i ByteArray.empty = if i < len then ss.getD i ByteArray.empty else ByteArray.empty := by
        intro i hi
        rw [txs_get ss k i hi]
        by_cases h1 : i < k
        · rw [if_pos h1, if_pos (by omega)]
        · rw [if_neg h1]
          by_cases h2 : i < len
          · exact absurd h1 (by omega)
          · rw [if_neg h2]
      have HF := Lib.hid hfin; clear hfin
      generalize hts : txs ss k = ts at *
      have htl : ts.length = 20 := by rw [← hts]; exact txs_length ss k
      have HTL := Lib.hid htl; clear hts htl
      obtain ⟨d, hd⟩ : ∃ d, r * 4 + c = d := ⟨_, rfl⟩
      have HD := Lib.hid hd
      have hd20 : d < 20 := by omega
      have hdI : 4 * (r : Int) + (c : Int) = (d : Int) := by omega
      have HDI := Lib.hid hdI; clear hdI hd
      rcases (by omega : len ≤ k ∨ (k < len ∧ 20 ≤ k)) with hh | ⟨hh, hh2⟩
      all_goals
        go_wp2_with fail
        rw [HR.out, HC.out]
        refine (gs_Put_yes g b 5 4 ts r c d ⟨#[104, 101, 114, 101]⟩ wr hG hr5 hc4 HD.out).mono ?_; rintro e w3 ⟨rfl, hG3, hc3⟩
        have hB3 := bel_ch hB hc3 (by simp; omega)
        clear hG hB hc3 hh
        go_wp2_with fail
        go_loopw [12] (fun i wr => ∃ k : Nat, k ≤ 20 ∧ i = .int .i64 k ∧ w3 = wr) (fun i _ => 20 - (intOf i).toNat)
        case atStart => exact ⟨0, by omega, rfl, rfl⟩
        case round =>
          obtain ⟨i, hi, rfl, rfl⟩ := hrel
          by_cases hi20 : i < 20
          · have e1 : (i : Int) / 4 = ((i / 4 : Nat) : Int) := by omega
            have e2 : (i : Int) % 4 = ((i % 4 : Nat) : Int) := by omega
            have E1 := Lib.hid e1; have E2 := Lib.hid e2; clear e1 e2
            have p1 : i / 4 < 5 := by omega
            have p2 : i % 4 < 4 := by omega
            have p3 : i / 4 * 4 + i % 4 = i := by omega
            have H3 := Lib.hid p3; clear p3
            have hval : (ts.set d ⟨#[104, 101, 114, 101]⟩).getD i ByteArray.empty = if i = d then (⟨#[104, 101, 114, 101]⟩ : ByteArray) else if i < len then ss.getD i ByteArray.empty else ByteArray.empty := by
              rw [List.getD_eq_getElem?_getD, List.getElem?_set]
              by_cases h : d = i
              · subst h; rw [if_pos rfl, if_pos rfl, HTL.out, if_pos hd20]; rfl
              · rw [if_neg h, if_neg (fun e => h e.symm), ← List.getD_eq_getElem?_getD]
                exact HF.out i hi20
            have HV := Lib.hid hval; clear hval
            by_cases hq : i = d
            · have hqb : ((i : Int) == 4 * (r : Int) + (c : Int)) = true := by rw [HDI.out, beq_iff_eq]; omega
              have hv2 : (ts.set d ⟨#[104, 101, 114, 101]⟩).getD i ByteArray.empty = ⟨#[104, 101, 114, 101]⟩ := by rw [HV.out, if_pos hq]
              have HV2 := Lib.hid hv2; clear hv2 hq
              by_cases hl : i < len
              · obtain ⟨bx, off, ha, hbx, hcell⟩ := HSS.out.at_ (by omega)
                have kv := (hB3.cell (p := ⟨bx, off + i, none⟩) hbx).trans (hcell i hl)
                clear hcell
                go_wp2_with fail
                rw [E1.out, E2.out]
                refine (gs_At_yes g b 5 4 _ (i / 4) (i % 4) i w3 hG3 p1 p2 H3.out).mono ?_; rintro e w4 ⟨rfl, rfl⟩
                rw [HV2.out]
                clear ha
                go_wp2
                go_roundw
                case rel => exact ⟨i + 1, by omega, by go_num, by trivial⟩
                case measure => simp [intOf]; omega
              · try (exfalso; omega)
                all_goals
                  go_wp2_with fail
                  rw [E1.out, E2.out]
                  refine (gs_At_yes g b 5 4 _ (i / 4) (i % 4) i w3 hG3 p1 p2 H3.out).mono ?_; rintro e w4 ⟨rfl, rfl⟩
                  rw [HV2.out]
                  go_wp2
                  go_roundw
                  case rel => exact ⟨i + 1, by omega, by go_num, by trivial⟩
                  case measure => simp [intOf]; omega
            · have hqb : ((i : Int) == 4 * (r : Int) + (c : Int)) = false := by rw [HDI.out, beq_eq_false_iff_ne]; omega
              by_cases hl : i < len
              · have hv2 : (ts.set d ⟨#[104, 101, 114, 101]⟩).getD i ByteArray.empty = ss.getD i ByteArray.empty := by rw [HV.out, if_neg hq, if_pos hl]
                have HV2 := Lib.hid hv2; clear hv2 hq
                obtain ⟨bx, off, ha, hbx, hcell⟩ := HSS.out.at_ (by omega)
                have kv := (hB3.cell (p := ⟨bx, off + i, none⟩) hbx).trans (hcell i hl)
                clear hcell
                generalize ss.getD i ByteArray.empty = v at *
                go_wp2_with fail
                rw [E1.out, E2.out]
                refine (gs_At_yes g b 5 4 _ (i / 4) (i % 4) i w3 hG3 p1 p2 H3.out).mono ?_; rintro e w4 ⟨rfl, rfl⟩
                rw [HV2.out]
                clear ha
                go_wp2
                go_roundw
                case rel => exact ⟨i + 1, by omega, by go_num, by trivial⟩
                case measure => simp [intOf]; omega
              · have hv2 : (ts.set d ⟨#[104, 101, 114, 101]⟩).getD i ByteArray.empty = ⟨#[]⟩ := by rw [HV.out, if_neg hq, if_neg hl]; rfl
                have HV2 := Lib.hid hv2; clear hv2 hq
                try (exfalso; omega)
                all_goals
                  go_wp2_with fail
                  rw [E1.out, E2.out]
                  refine (gs_At_yes g b 5 4 _ (i / 4) (i % 4) i w3 hG3 p1 p2 H3.out).mono ?_; rintro e w4 ⟨rfl, rfl⟩
                  rw [HV2.out]
                  go_wp2
                  go_roundw
                  case rel => exact ⟨i + 1, by omega, by go_num, by trivial⟩
                  case measure => simp [intOf]; omega
          · go_wp2
            go_ret
            exact ⟨rfl, hB3⟩
end Go.Proofs.Ytkjhodaglanpmaa
