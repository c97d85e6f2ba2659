/- The walk of ClassRows. -/
import Derived.Test.YtinijpjbbbbhjaaDoorA4
import Derived.Lib.Hide
namespace Go.Proofs.YtinijpjbbbbhjaaDoor
open Go.RowKit
set_option linter.unusedVariables false

theorem rows_no (c : Int) (w : World) (hT : Tab w) (h : c < 0 ∨ 4 ≤ c) : Calls Tryd.prog 5 #[.int .i64 c] w fun e w' => e = .returned (.bool true) ∧ Below w.heap.size w w' := by
  rcases (by omega : c < 0 ∨ (0 ≤ c ∧ 3 < c)) with h' | ⟨h', h''⟩
  all_goals
    go_enter Tryd.func5, Tryd.ntmps5
    go_wp2_with fail
    refine (size_no c w h).mono ?_; rintro e w1 ⟨rfl, hb⟩
    go_wp2_with fail
    refine (order_no c _ h).mono ?_; rintro e w2 ⟨rfl, hb2⟩
    have hb2 := bel_trans hb hb2
    go_wp2_with fail
    refine (count_no c _ h).mono ?_; rintro e w3 ⟨rfl, hb3⟩
    have hb3 := bel_trans hb2 hb3
    go_wp2_with fail
    refine (classes_any _ (hT.below hb3)).mono ?_; rintro e w4 ⟨rfl, hb4⟩
    have hb4 := bel_trans hb3 hb4
    go_wp2
    all_goals go_ret
    all_goals exact ⟨rfl, hb4⟩

theorem eq3_0 (w : World) : (Op.equalIn 10000 29 (.agg #[.int .i64 8, .int .i64 0, .int .i64 8]) (.agg #[.int .i64 8, .int .i64 0, .int .i64 8])).run Tryd.prog w = .ok true w := by kernel_rfl
theorem eq3_1 (w : World) : (Op.equalIn 10000 29 (.agg #[.int .i64 16, .int .i64 0, .int .i64 4]) (.agg #[.int .i64 16, .int .i64 0, .int .i64 4])).run Tryd.prog w = .ok true w := by kernel_rfl
theorem eq3_2 (w : World) : (Op.equalIn 10000 29 (.agg #[.int .i64 32, .int .i64 1, .int .i64 4]) (.agg #[.int .i64 32, .int .i64 1, .int .i64 4])).run Tryd.prog w = .ok true w := by kernel_rfl
theorem eq3_3 (w : World) : (Op.equalIn 10000 29 (.agg #[.int .i64 64, .int .i64 2, .int .i64 4]) (.agg #[.int .i64 64, .int .i64 2, .int .i64 4])).run Tryd.prog w = .ok true w := by kernel_rfl
attribute [local go_sem] eq3_0 eq3_1 eq3_2 eq3_3

theorem rows_yes (c : Int) (w : World) (hT : Tab w) (h : 0 ≤ c) (h3 : c ≤ 3) : Calls Tryd.prog 5 #[.int .i64 c] w fun e w' => e = .returned (.bool true) ∧ Below w.heap.size w w' := by
  rcases (by omega : c = 0 ∨ c = 1 ∨ c = 2 ∨ c = 3) with rfl | rfl | rfl | rfl
  all_goals
    go_enter Tryd.func5, Tryd.ntmps5
    go_wp2_with fail
    refine (size_yes _ w hT h h3).mono ?_; rintro e w1 ⟨rfl, hb⟩
    go_wp2_with fail
    refine (order_yes _ _ (hT.below hb) h h3).mono ?_; rintro e w2 ⟨rfl, hb2⟩
    have hb2 := bel_trans hb hb2
    go_wp2_with fail
    refine (count_yes _ _ (hT.below hb2) h h3).mono ?_; rintro e w3 ⟨rfl, hb3⟩
    have hb3 := bel_trans hb2 hb3
    simp only [szOf, ordOf, cntOf, Int.reduceEq, if_true, if_false]
    go_wp2_with fail
    refine (classes_any _ (hT.below hb3)).mono ?_; rintro e w4 ⟨rfl, hb4⟩
    have hb4 := bel_trans hb3 hb4
    go_wp2_with fail
    refine (row_yes _ _ h h3).mono ?_; rintro e w5 ⟨rfl, hb5⟩
    have hb5 := bel_trans hb4 hb5
    simp only [szOf, ordOf, cntOf, Int.reduceEq, if_true, if_false]
    go_wp2
    all_goals go_ret
    all_goals exact ⟨rfl, hb5⟩

theorem rows_walk (c : Int) (_h : (Lit.int .i64 c).wf = true) (w : World) (hT : Tab w) : Calls Tryd.prog 5 #[.int .i64 c] w fun e w' => e = .returned (.bool true) ∧ Below w.heap.size w w' := by
  by_cases h : 0 ≤ c ∧ c ≤ 3
  · exact rows_yes c w hT h.1 h.2
  · exact rows_no c w hT (by omega)

theorem fits_big (n k : Int) (w : World) (hT : Tab w) (hk1 : 64 < k) (hk2 : k ≤ 1024) (hk : wrap64 (1 + wrap64 ((IntKind.u64.wrap n).tmod 1024)) = k) : Calls Tryd.prog 4 #[.int .i64 n] w fun e w' => e = .returned (.bool true) ∧ Below w.heap.size w w' := by
  have HK := Lib.hid hk; clear hk
  go_enter Tryd.func4, Tryd.ntmps4
  go_wp2_with fail
  rw [HK.out]
  refine (of_big k w hT hk1).mono ?_; rintro e w1 ⟨rfl, hb⟩
  go_wp2_with fail
  refine (pages_yes k _ (by omega) (by omega)).mono ?_; rintro e w2 ⟨rfl, rfl⟩
  go_wp2_with fail
  all_goals
    refine (pages_yes _ _ (by omega) (by omega)).mono ?_; rintro e w2 ⟨rfl, rfl⟩
    go_wp2_with fail
    refine (classes_any _ (hT.below hb)).mono ?_; rintro e w4 ⟨rfl, hb4⟩
    have hb4 := bel_trans hb hb4
    go_wp2
    all_goals go_ret
    all_goals exact ⟨rfl, hb4⟩
theorem fits_small (n k : Int) (w : World) (hT : Tab w) (hk1 : 1 ≤ k) (hk2 : k ≤ 64) (hk : wrap64 (1 + wrap64 ((IntKind.u64.wrap n).tmod 1024)) = k) : Calls Tryd.prog 4 #[.int .i64 n] w fun e w' => e = .returned (.bool true) ∧ Below w.heap.size w w' := by
  have HK := Lib.hid hk; clear hk
  obtain ⟨c, hc, hsz, hc0, hc3, hlo⟩ : ∃ c, clsOf k = c ∧ k ≤ szOf c ∧ 0 ≤ c ∧ c ≤ 3 ∧ (1 ≤ c → szOf (c - 1) < k ∧ szOf c = 2 * szOf (c - 1)) := by
    refine ⟨clsOf k, rfl, ?_⟩
    unfold clsOf
    split
    · simp [szOf]; omega
    split
    · simp [szOf]; omega
    split
    · simp [szOf]; omega
    · simp [szOf]; omega
  have HC := Lib.hid hc; clear hc
  by_cases hz : c = 0
  · subst hz
    have hs0 : szOf 0 = 8 := by decide
    rw [hs0] at hsz
    clear hlo
    have HS := Lib.hid hs0; clear hs0
    go_enter Tryd.func4, Tryd.ntmps4
    go_wp2_with fail
    rw [HK.out]
    refine (of_yes k w hT hk1 hk2).mono ?_; rintro e w1 ⟨rfl, hb⟩
    rw [HC.out]
    go_wp2_with fail
    refine (pages_yes k _ (by omega) (by omega)).mono ?_; rintro e w2 ⟨rfl, rfl⟩
    go_wp2_with fail
    refine (pages_yes _ _ (by omega) (by omega)).mono ?_; rintro e w2 ⟨rfl, rfl⟩
    go_wp2_with fail
    refine (classes_any _ (hT.below hb)).mono ?_; rintro e w4 ⟨rfl, hb4⟩
    have hb4 := bel_trans hb hb4
    go_wp2_with fail
    all_goals
      refine (size_yes _ _ (hT.below hb4) (by omega) (by omega)).mono ?_; rintro e w5 ⟨rfl, hb5⟩
      have hb5 := bel_trans hb4 hb5
      rw [HS.out]
      go_wp2
      go_ret
      exact ⟨rfl, hb5⟩
  · obtain ⟨hlo, hdb⟩ := hlo (by omega)
    generalize hS : szOf c = s at *
    generalize hS1 : szOf (c - 1) = s1 at *
    have HS := Lib.hid hS; clear hS
    have HS1 := Lib.hid hS1; clear hS1
    have hz1 : 1 ≤ c := by omega
    have HD := Lib.hid hdb
    have hd1 : s ≤ 2 * s1 := by omega
    have hd2 : 2 * s1 ≤ s := by omega
    have hd3 : s ≤ 64 := by rw [← HS.out]; unfold szOf; split; omega; split; omega; split <;> omega
    have hd4 : 0 ≤ s1 := by omega
    clear hdb hz
    go_enter Tryd.func4, Tryd.ntmps4
    go_wp2_with fail
    rw [HK.out]
    refine (of_yes k w hT hk1 hk2).mono ?_; rintro e w1 ⟨rfl, hb⟩
    rw [HC.out]
    go_wp2_with fail
    refine (pages_yes k _ (by omega) (by omega)).mono ?_; rintro e w2 ⟨rfl, rfl⟩
    go_wp2_with fail
    refine (pages_yes _ _ (by omega) (by omega)).mono ?_; rintro e w2 ⟨rfl, rfl⟩
    go_wp2_with fail
    refine (classes_any _ (hT.below hb)).mono ?_; rintro e w4 ⟨rfl, hb4⟩
    have hb4 := bel_trans hb hb4
    go_wp2_with fail
    all_goals
      refine (size_yes _ _ (hT.below hb4) (by omega) (by omega)).mono ?_; rintro e w5 ⟨rfl, hb5⟩
      have hb5 := bel_trans hb4 hb5
      rw [HS.out]
      go_wp2_with fail
      refine (size_yes _ _ (hT.below hb5) (by omega) (by omega)).mono ?_; rintro e w6 ⟨rfl, hb6⟩
      have hb6 := bel_trans hb5 hb6
      rw [HS1.out]
      go_wp2
      go_ret
      exact ⟨rfl, hb6⟩
theorem fits_walk (n : Int) (_h : (Lit.int .i64 n).wf = true) (w : World) (hT : Tab w) : Calls Tryd.prog 4 #[.int .i64 n] w fun e w' => e = .returned (.bool true) ∧ Below w.heap.size w w' := by
  have hb := umod1_bd n 1024 (by omega) (by omega)
  generalize hk : wrap64 (1 + wrap64 ((IntKind.u64.wrap n).tmod 1024)) = k at hb
  by_cases h : k ≤ 64
  · exact fits_small n k w hT hb.1 h hk
  · exact fits_big n k w hT (by omega) hb.2 hk
end Go.Proofs.YtinijpjbbbbhjaaDoor
