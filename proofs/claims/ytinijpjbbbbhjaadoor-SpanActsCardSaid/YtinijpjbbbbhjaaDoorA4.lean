/- More walks of package class: sizes, orders and counts of a class; the reference's row; the laws ClassFits and ClassRows. -/
import Derived.Test.YtinijpjbbbbhjaaDoorA1
import Derived.Test.YtinijpjbbbbhjaaDoorBase
namespace Go.Proofs.YtinijpjbbbbhjaaDoor
open Go.RowKit
attribute [local go_sem] World.cell?_alloc_lt

def szOf (c : Int) : Int := if c = 0 then 8 else if c = 1 then 16 else if c = 2 then 32 else 64
def ordOf (c : Int) : Int := if c = 0 then 0 else if c = 1 then 0 else if c = 2 then 1 else 2
def cntOf (c : Int) : Int := if c = 0 then 8 else 4

theorem class_of_no (c : Int) (w : World) (h : c < 0 ∨ 4 ≤ c) : Calls Tryd.prog 32 #[.int .i64 c] w fun e w' => e = .returned (.tuple #[.agg #[.int .i64 0, .int .i64 0], .int .i64 1]) ∧ Below w.heap.size w w' := by
  rcases h with h | h
  · go_enter Tryd.func32, Tryd.ntmps32
    go_wp2
    exact bodyPost_ret (v := .tuple #[.agg #[.int .i64 0, .int .i64 0], .int .i64 1]) (by simp [results, Tryd.results32, go_sem]) rfl ⟨rfl, (Below.refl _ _).alloc (Nat.le_refl _) _⟩
  · have h0 : 0 ≤ c := by omega
    go_enter Tryd.func32, Tryd.ntmps32
    go_wp2
    exact bodyPost_ret (v := .tuple #[.agg #[.int .i64 0, .int .i64 0], .int .i64 1]) (by simp [results, Tryd.results32, go_sem]) rfl ⟨rfl, (Below.refl _ _).alloc (Nat.le_refl _) _⟩

theorem class_of_yes (c : Int) (w : World) (hT : Tab w) (h : 0 ≤ c) (h3 : c ≤ 3) : Calls Tryd.prog 32 #[.int .i64 c] w fun e w' => e = .returned (.tuple #[.agg #[.int .i64 (szOf c), .int .i64 (ordOf c)], .int .i64 0]) ∧ Below w.heap.size w w' := by
  have hp := hT.pos
  obtain ⟨c0, c1, c2, c3, c4, c5, c6, c7⟩ := hT
  rcases (by omega : c = 0 ∨ c = 1 ∨ c = 2 ∨ c = 3) with rfl | rfl | rfl | rfl
  · go_enter Tryd.func32, Tryd.ntmps32
    go_wp2
    exact bodyPost_ret (v := .tuple #[.agg #[.int .i64 8, .int .i64 0], .int .i64 0]) (by simp [results, Tryd.results32, go_sem]) rfl ⟨rfl, (Below.refl _ _).alloc (Nat.le_refl _) _⟩
  · go_enter Tryd.func32, Tryd.ntmps32
    go_wp2
    exact bodyPost_ret (v := .tuple #[.agg #[.int .i64 16, .int .i64 0], .int .i64 0]) (by simp [results, Tryd.results32, go_sem]) rfl ⟨rfl, (Below.refl _ _).alloc (Nat.le_refl _) _⟩
  · go_enter Tryd.func32, Tryd.ntmps32
    go_wp2
    exact bodyPost_ret (v := .tuple #[.agg #[.int .i64 32, .int .i64 1], .int .i64 0]) (by simp [results, Tryd.results32, go_sem]) rfl ⟨rfl, (Below.refl _ _).alloc (Nat.le_refl _) _⟩
  · go_enter Tryd.func32, Tryd.ntmps32
    go_wp2
    exact bodyPost_ret (v := .tuple #[.agg #[.int .i64 64, .int .i64 2], .int .i64 0]) (by simp [results, Tryd.results32, go_sem]) rfl ⟨rfl, (Below.refl _ _).alloc (Nat.le_refl _) _⟩

theorem size_no (c : Int) (w : World) (h : c < 0 ∨ 4 ≤ c) : Calls Tryd.prog 13 #[.int .i64 c] w fun e w' => e = .returned (.tuple #[.int .i64 0, .int .i64 1]) ∧ Below w.heap.size w w' := by
  go_enter Tryd.func13, Tryd.ntmps13
  go_wp2_with fail
  refine (class_of_no c w h).mono ?_; rintro e w1 ⟨rfl, hb⟩
  go_wp2
  go_ret2
  exact ⟨rfl, hb.alloc hb.size _⟩
theorem size_yes (c : Int) (w : World) (hT : Tab w) (h : 0 ≤ c) (h3 : c ≤ 3) : Calls Tryd.prog 13 #[.int .i64 c] w fun e w' => e = .returned (.tuple #[.int .i64 (szOf c), .int .i64 0]) ∧ Below w.heap.size w w' := by
  go_enter Tryd.func13, Tryd.ntmps13
  go_wp2_with fail
  refine (class_of_yes c w hT h h3).mono ?_; rintro e w1 ⟨rfl, hb⟩
  go_wp2
  go_ret2
  exact ⟨rfl, hb.alloc hb.size _⟩

theorem order_no (c : Int) (w : World) (h : c < 0 ∨ 4 ≤ c) : Calls Tryd.prog 14 #[.int .i64 c] w fun e w' => e = .returned (.tuple #[.int .i64 0, .int .i64 1]) ∧ Below w.heap.size w w' := by
  go_enter Tryd.func14, Tryd.ntmps14
  go_wp2_with fail
  refine (class_of_no c w h).mono ?_; rintro e w1 ⟨rfl, hb⟩
  go_wp2
  go_ret2
  exact ⟨rfl, hb.alloc hb.size _⟩
theorem order_yes (c : Int) (w : World) (hT : Tab w) (h : 0 ≤ c) (h3 : c ≤ 3) : Calls Tryd.prog 14 #[.int .i64 c] w fun e w' => e = .returned (.tuple #[.int .i64 (ordOf c), .int .i64 0]) ∧ Below w.heap.size w w' := by
  go_enter Tryd.func14, Tryd.ntmps14
  go_wp2_with fail
  refine (class_of_yes c w hT h h3).mono ?_; rintro e w1 ⟨rfl, hb⟩
  go_wp2
  go_ret2
  exact ⟨rfl, hb.alloc hb.size _⟩

theorem count_no (c : Int) (w : World) (h : c < 0 ∨ 4 ≤ c) : Calls Tryd.prog 15 #[.int .i64 c] w fun e w' => e = .returned (.tuple #[.int .i64 0, .int .i64 1]) ∧ Below w.heap.size w w' := by
  go_enter Tryd.func15, Tryd.ntmps15
  go_wp2_with fail
  refine (class_of_no c w h).mono ?_; rintro e w1 ⟨rfl, hb⟩
  go_wp2
  go_ret2
  exact ⟨rfl, hb.alloc hb.size _⟩
theorem count_yes (c : Int) (w : World) (hT : Tab w) (h : 0 ≤ c) (h3 : c ≤ 3) : Calls Tryd.prog 15 #[.int .i64 c] w fun e w' => e = .returned (.tuple #[.int .i64 (cntOf c), .int .i64 0]) ∧ Below w.heap.size w w' := by
  rcases (by omega : c = 0 ∨ c = 1 ∨ c = 2 ∨ c = 3) with rfl | rfl | rfl | rfl
  all_goals
    go_enter Tryd.func15, Tryd.ntmps15
    go_wp2_with fail
    refine (class_of_yes _ w hT (by omega) (by omega)).mono ?_; rintro e w1 ⟨rfl, hb⟩
    simp only [szOf, ordOf, Int.reduceEq, if_true, if_false]
    go_wp2
    go_quiet (fail)
    go_wp2
    go_ret2
    exact ⟨rfl, bel_drewN (bel_alloc hb _) _⟩

theorem row_yes (c : Int) (w : World) (h : 0 ≤ c) (h3 : c ≤ 3) : Calls Tryd.prog 16 #[.int .i64 c] w fun e w' => e = .returned (.agg #[.int .i64 (szOf c), .int .i64 (ordOf c), .int .i64 (cntOf c)]) ∧ Below w.heap.size w w' := by
  rcases (by omega : c = 0 ∨ c = 1 ∨ c = 2 ∨ c = 3) with rfl | rfl | rfl | rfl
  all_goals
    have i0 : ∀ w, (Instr.index 54 (.agg #[.int .i64 8, .int .i64 0, .int .i64 8, .int .i64 16, .int .i64 0, .int .i64 4, .int .i64 32, .int .i64 1, .int .i64 4, .int .i64 64, .int .i64 2, .int .i64 4]) (.int .i64 0)).run Tryd.prog w = .ok (.agg #[.int .i64 8, .int .i64 0, .int .i64 8]) w := fun _ => by kernel_rfl
    have i1 : ∀ w, (Instr.index 54 (.agg #[.int .i64 8, .int .i64 0, .int .i64 8, .int .i64 16, .int .i64 0, .int .i64 4, .int .i64 32, .int .i64 1, .int .i64 4, .int .i64 64, .int .i64 2, .int .i64 4]) (.int .i64 1)).run Tryd.prog w = .ok (.agg #[.int .i64 16, .int .i64 0, .int .i64 4]) w := fun _ => by kernel_rfl
    have i2 : ∀ w, (Instr.index 54 (.agg #[.int .i64 8, .int .i64 0, .int .i64 8, .int .i64 16, .int .i64 0, .int .i64 4, .int .i64 32, .int .i64 1, .int .i64 4, .int .i64 64, .int .i64 2, .int .i64 4]) (.int .i64 2)).run Tryd.prog w = .ok (.agg #[.int .i64 32, .int .i64 1, .int .i64 4]) w := fun _ => by kernel_rfl
    have i3 : ∀ w, (Instr.index 54 (.agg #[.int .i64 8, .int .i64 0, .int .i64 8, .int .i64 16, .int .i64 0, .int .i64 4, .int .i64 32, .int .i64 1, .int .i64 4, .int .i64 64, .int .i64 2, .int .i64 4]) (.int .i64 3)).run Tryd.prog w = .ok (.agg #[.int .i64 64, .int .i64 2, .int .i64 4]) w := fun _ => by kernel_rfl
    go_enter Tryd.func16, Tryd.ntmps16
    go_wp2
    exact bodyPost_ret (v := .agg #[.int .i64 _, .int .i64 _, .int .i64 _]) (by simp [results, Tryd.results16, go_sem]; exact ⟨rfl, rfl, rfl⟩) rfl ⟨rfl, bel_alloc (Below.refl _ _) _⟩
end Go.Proofs.YtinijpjbbbbhjaaDoor
