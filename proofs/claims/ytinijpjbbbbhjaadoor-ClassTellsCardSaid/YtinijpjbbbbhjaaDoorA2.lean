/- The walk of ClassTells. -/
import Derived.Test.YtinijpjbbbbhjaaDoorA1
namespace Go.Proofs.YtinijpjbbbbhjaaDoor
open Go.RowKit

theorem ret_bool {b : Bool} (h : b = true) : Ending.returned (.bool b) = .returned (.bool true) := by rw [h]

theorem tells_a (n : Int) (w : World) (hT : Tab w) (h : n < 1) : Calls Tryd.prog 3 #[.int .i64 n] w fun e w' => e = .returned (.bool true) ∧ Below w.heap.size w w' := by
  go_enter Tryd.func3, Tryd.ntmps3
  go_wp2_with fail
  refine (of_no n w h).mono ?_; rintro e w1 ⟨rfl, hb⟩
  go_wp2_with fail
  refine (pages_no n _ (Or.inl h)).mono ?_; rintro e w2 ⟨rfl, rfl⟩
  go_wp2_with fail
  refine (classes_any _ (hT.below hb)).mono ?_; rintro e w3 ⟨rfl, hb2⟩
  go_wp2
  go_ret
  exact ⟨rfl, hb.trans (hb2.mono hb.size)⟩

theorem tells_b (n : Int) (w : World) (hT : Tab w) (h : 1 ≤ n) (h2 : n ≤ 64) : Calls Tryd.prog 3 #[.int .i64 n] w fun e w' => e = .returned (.bool true) ∧ Below w.heap.size w w' := by
  go_enter Tryd.func3, Tryd.ntmps3
  go_wp2_with fail
  refine (of_yes n w hT h h2).mono ?_; rintro e w1 ⟨rfl, hb⟩
  go_wp2_with fail
  refine (pages_yes n _ h (by omega)).mono ?_; rintro e w2 ⟨rfl, rfl⟩
  go_wp2_with fail
  refine (classes_any _ (hT.below hb)).mono ?_; rintro e w3 ⟨rfl, hb2⟩
  go_wp2_with fail
  refine (rclass n _ h h2).mono ?_; rintro e w4 ⟨rfl, rfl⟩
  go_wp2
  all_goals go_ret
  all_goals first | exact ⟨rfl, hb.trans (hb2.mono hb.size)⟩ | exact ⟨ret_bool (decide_eq_true (by omega)), hb.trans (hb2.mono hb.size)⟩

theorem tells_c (n : Int) (w : World) (hT : Tab w) (h : 64 < n) (h2 : n ≤ 1024) : Calls Tryd.prog 3 #[.int .i64 n] w fun e w' => e = .returned (.bool true) ∧ Below w.heap.size w w' := by
  go_enter Tryd.func3, Tryd.ntmps3
  go_wp2_with fail
  refine (of_big n w hT h).mono ?_; rintro e w1 ⟨rfl, hb⟩
  go_wp2_with fail
  refine (pages_yes n _ (by omega) (by omega)).mono ?_; rintro e w2 ⟨rfl, rfl⟩
  go_wp2_with fail
  refine (classes_any _ (hT.below hb)).mono ?_; rintro e w3 ⟨rfl, hb2⟩
  go_wp2
  all_goals go_ret
  all_goals first | exact ⟨rfl, hb.trans (hb2.mono hb.size)⟩ | exact ⟨ret_bool (decide_eq_true (by omega)), hb.trans (hb2.mono hb.size)⟩

theorem tells_d (n : Int) (w : World) (hT : Tab w) (h : 1024 < n) : Calls Tryd.prog 3 #[.int .i64 n] w fun e w' => e = .returned (.bool true) ∧ Below w.heap.size w w' := by
  go_enter Tryd.func3, Tryd.ntmps3
  go_wp2_with fail
  refine (of_big n w hT (by omega)).mono ?_; rintro e w1 ⟨rfl, hb⟩
  go_wp2_with fail
  refine (pages_no n _ (Or.inr h)).mono ?_; rintro e w2 ⟨rfl, rfl⟩
  go_wp2_with fail
  refine (classes_any _ (hT.below hb)).mono ?_; rintro e w3 ⟨rfl, hb2⟩
  go_wp2
  all_goals go_ret
  all_goals first | exact ⟨rfl, hb.trans (hb2.mono hb.size)⟩ | exact ⟨ret_bool (decide_eq_true (by omega)), hb.trans (hb2.mono hb.size)⟩

theorem tells_walk (n : Int) (_h : (Lit.int .i64 n).wf = true) (w : World) (hT : Tab w) : Calls Tryd.prog 3 #[.int .i64 n] w fun e w' => e = .returned (.bool true) ∧ Below w.heap.size w w' := by
  by_cases h : n < 1
  · exact tells_a n w hT h
  by_cases h2 : n ≤ 64
  · exact tells_b n w hT (by omega) h2
  by_cases h3 : n ≤ 1024
  · exact tells_c n w hT (by omega) h3
  · exact tells_d n w hT (by omega)
end Go.Proofs.YtinijpjbbbbhjaaDoor
