/- Span.Index (layer 13). -/
import Derived.Test.YtinijpjbbbbhjaaDoorB1
namespace Go.Proofs.YtinijpjbbbbhjaaDoor
open Go.RowKit
set_option linter.unusedVariables false

theorem index_out (g : Nat) (c : Int) (t : Nat) (i : Int) (w : World) (hS : SpanAt w g c t) (h : 0 ≤ i) (h' : szOf c * cntOf c ≤ i) : Calls Tryd.prog 19 #[.pointer (some ⟨g, 0, none⟩), .int .i64 i] w fun e w' => e = .returned (.tuple #[.int .i64 0, .int .i64 6]) ∧ Below w.heap.size w w' := by
  obtain ⟨k0, k1, k2, k3, f3⟩ := hS.cells
  rcases (by have := hS.c0; have := hS.c3; omega : c = 0 ∨ c = 1 ∨ c = 2 ∨ c = 3) with rfl | rfl | rfl | rfl
  all_goals
    simp only [szOf, cntOf, Int.reduceEq, if_true, if_false, Int.reduceMul] at k1 k2 h'
    clear hS
    have hd : decide (i < 0) = false := by simpa using h
    go_enter Tryd.func19, Tryd.ntmps19
    go_wp2_with fail
    refine wp_region_quiet_lit (by kernel_rfl) (by kernel_rfl) ?_
    repeat (first | go_big_quiet_step (fail) | quiet_step (fail))
    refine wpQuiet_nil ?_; intro _ hw'; obtain ⟨nq, hw''⟩ := hw'; subst hw''
    go_wp2
    go_ret2
    exact ⟨rfl, bel_drewN (Below.refl _ _) _⟩
theorem index_bad (g : Nat) (c : Int) (t : Nat) (i : Int) (w : World) (hS : SpanAt w g c t) (h : 0 ≤ i) (h' : i < szOf c * cntOf c) (h2 : ¬ i % szOf c = 0) : Calls Tryd.prog 19 #[.pointer (some ⟨g, 0, none⟩), .int .i64 i] w fun e w' => e = .returned (.tuple #[.int .i64 0, .int .i64 6]) ∧ Below w.heap.size w w' := by
  obtain ⟨k0, k1, k2, k3, f3⟩ := hS.cells
  have hm : (i % szOf c != 0) = true := by simpa using h2
  have hq : decide (szOf c * cntOf c ≤ i) = false := by simpa using h'
  rcases (by have := hS.c0; have := hS.c3; omega : c = 0 ∨ c = 1 ∨ c = 2 ∨ c = 3) with rfl | rfl | rfl | rfl
  all_goals
    simp only [szOf, cntOf, Int.reduceEq, if_true, if_false, Int.reduceMul] at k1 k2 h' h2 hm hq
    clear hS
    have hd : decide (i < 0) = false := by simpa using h
    go_enter Tryd.func19, Tryd.ntmps19
    go_wp2_with fail
    refine wp_region_quiet_lit (by kernel_rfl) (by kernel_rfl) ?_
    repeat (first | go_big_quiet_step (fail) | quiet_step (fail))
    refine wpQuiet_nil ?_; intro _ hw'; obtain ⟨nq, hw''⟩ := hw'; subst hw''
    go_wp2
    go_ret2
    exact ⟨rfl, bel_drewN (Below.refl _ _) _⟩
theorem index_yes (g : Nat) (c : Int) (t : Nat) (i : Int) (w : World) (hS : SpanAt w g c t) (h : 0 ≤ i) (h' : i < szOf c * cntOf c) (h2 : i % szOf c = 0) : Calls Tryd.prog 19 #[.pointer (some ⟨g, 0, none⟩), .int .i64 i] w fun e w' => e = .returned (.tuple #[.int .i64 (i / szOf c), .int .i64 0]) ∧ Below w.heap.size w w' := by
  obtain ⟨k0, k1, k2, k3, f3⟩ := hS.cells
  have hm : (i % szOf c != 0) = false := by simpa using h2
  have hq : decide (szOf c * cntOf c ≤ i) = false := by simpa using h'
  rcases (by have := hS.c0; have := hS.c3; omega : c = 0 ∨ c = 1 ∨ c = 2 ∨ c = 3) with rfl | rfl | rfl | rfl
  all_goals
    simp only [szOf, cntOf, Int.reduceEq, if_true, if_false, Int.reduceMul] at k1 k2 h' h2 hm hq
    clear hS
    have hd : decide (i < 0) = false := by simpa using h
    go_enter Tryd.func19, Tryd.ntmps19
    go_wp2_with fail
    refine wp_region_quiet_lit (by kernel_rfl) (by kernel_rfl) ?_
    repeat (first | go_big_quiet_step (fail) | quiet_step (fail))
    refine wpQuiet_nil ?_; intro _ hw'; obtain ⟨nq, hw''⟩ := hw'; subst hw''
    go_wp2
    go_ret2
    exact ⟨rfl, bel_drewN (Below.refl _ _) _⟩
end Go.Proofs.YtinijpjbbbbhjaaDoor
