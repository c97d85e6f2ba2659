/- Walks of the functions of package class (layer 12), and of its reference. -/
import Derived.Test.YtinijpjbbbbhjaaDoorRows
import Derived.WalkKit
import Derived.WalkLawsBesides
import Derived.WalkSpells
import Derived.Deep.QuietTactic
import Derived.BigQuiet
namespace Go.Proofs.YtinijpjbbbbhjaaDoor
open Go.RowKit
attribute [local go_sem] World.cell?_alloc_lt

/-- What the table of classes holds. -/
structure Tab (w : World) : Prop where
  c0 : w.cell? ⟨0, 0, none⟩ = some (.int .i64 8)
  c1 : w.cell? ⟨0, 1, none⟩ = some (.int .i64 0)
  c2 : w.cell? ⟨0, 2, none⟩ = some (.int .i64 16)
  c3 : w.cell? ⟨0, 3, none⟩ = some (.int .i64 0)
  c4 : w.cell? ⟨0, 4, none⟩ = some (.int .i64 32)
  c5 : w.cell? ⟨0, 5, none⟩ = some (.int .i64 1)
  c6 : w.cell? ⟨0, 6, none⟩ = some (.int .i64 64)
  c7 : w.cell? ⟨0, 7, none⟩ = some (.int .i64 2)

theorem Tab.pos {w : World} (h : Tab w) : 0 < w.heap.size := World.block_lt_of_cell? w _ h.c0
theorem Tab.below {w w' : World} (h : Tab w) (hb : Below w.heap.size w w') : Tab w' := by
  have h0 : 0 < w.heap.size := World.block_lt_of_cell? w _ h.c0
  exact ⟨(hb.cell h0).trans h.c0, (hb.cell h0).trans h.c1, (hb.cell h0).trans h.c2, (hb.cell h0).trans h.c3, (hb.cell h0).trans h.c4, (hb.cell h0).trans h.c5, (hb.cell h0).trans h.c6, (hb.cell h0).trans h.c7⟩

theorem of_no (n : Int) (w : World) (h : n < 1) : Calls Tryd.prog 9 #[.int .i64 n] w fun e w' => e = .returned (.tuple #[.int .i64 0, .int .i64 8]) ∧ Below w.heap.size w w' := by
  go_enter Tryd.func9, Tryd.ntmps9
  go_wp2
  go_ret2
  exact ⟨rfl, Below.refl _ _⟩

def rowsV : Value := .agg #[.int .i64 8, .int .i64 0, .int .i64 16, .int .i64 0, .int .i64 32, .int .i64 1, .int .i64 64, .int .i64 2]
theorem idx0 (w : World) : (Instr.index 51 (.agg #[.int .i64 8, .int .i64 0, .int .i64 16, .int .i64 0, .int .i64 32, .int .i64 1, .int .i64 64, .int .i64 2]) (.int .i64 0)).run Tryd.prog w = .ok (.agg #[.int .i64 8, .int .i64 0]) w := by kernel_rfl
theorem idx1 (w : World) : (Instr.index 51 (.agg #[.int .i64 8, .int .i64 0, .int .i64 16, .int .i64 0, .int .i64 32, .int .i64 1, .int .i64 64, .int .i64 2]) (.int .i64 1)).run Tryd.prog w = .ok (.agg #[.int .i64 16, .int .i64 0]) w := by kernel_rfl
theorem idx2 (w : World) : (Instr.index 51 (.agg #[.int .i64 8, .int .i64 0, .int .i64 16, .int .i64 0, .int .i64 32, .int .i64 1, .int .i64 64, .int .i64 2]) (.int .i64 2)).run Tryd.prog w = .ok (.agg #[.int .i64 32, .int .i64 1]) w := by kernel_rfl
theorem idx3 (w : World) : (Instr.index 51 (.agg #[.int .i64 8, .int .i64 0, .int .i64 16, .int .i64 0, .int .i64 32, .int .i64 1, .int .i64 64, .int .i64 2]) (.int .i64 3)).run Tryd.prog w = .ok (.agg #[.int .i64 64, .int .i64 2]) w := by kernel_rfl
attribute [local go_sem] idx0 idx1 idx2 idx3

def clsOf (n : Int) : Int := if n ≤ 8 then 0 else if n ≤ 16 then 1 else if n ≤ 32 then 2 else 3

theorem of_yes (n : Int) (w : World) (hT : Tab w) (h : 1 ≤ n) (h2 : n ≤ 64) : Calls Tryd.prog 9 #[.int .i64 n] w fun e w' => e = .returned (.tuple #[.int .i64 (clsOf n), .int .i64 0]) ∧ Below w.heap.size w w' := by
  have hp := hT.pos
  obtain ⟨c0, c1, c2, c3, c4, c5, c6, c7⟩ := hT
  go_enter Tryd.func9, Tryd.ntmps9
  go_wp2
  refine wp_loop_rounds 4 ?_
  by_cases h8 : n ≤ 8
  · rw [rounds_succ]; go_wp2; go_ret2
    exact ⟨by rw [clsOf, if_pos h8]; rfl, ((Below.refl _ _).alloc (Nat.le_refl _) _)⟩
  have g8 : 8 < n := by omega
  by_cases h16 : n ≤ 16
  · rw [rounds_succ]; go_wp2; rw [rounds_succ]; go_wp2; go_ret2
    exact ⟨by rw [clsOf, if_neg (by omega), if_pos h16]; rfl, (((Below.refl _ _).alloc (Nat.le_refl _) _).alloc (by simp) _)⟩
  have g16 : 16 < n := by omega
  by_cases h32 : n ≤ 32
  · rw [rounds_succ]; go_wp2; rw [rounds_succ]; go_wp2; rw [rounds_succ]; go_wp2; go_ret2
    exact ⟨by rw [clsOf, if_neg (by omega), if_neg (by omega), if_pos h32]; rfl, ((((Below.refl _ _).alloc (Nat.le_refl _) _).alloc (by simp) _).alloc (by simp; omega) _)⟩
  · have g32 : 32 < n := by omega
    rw [rounds_succ]; go_wp2; rw [rounds_succ]; go_wp2; rw [rounds_succ]; go_wp2; rw [rounds_succ]; go_wp2; go_ret2
    exact ⟨by rw [clsOf, if_neg (by omega), if_neg (by omega), if_neg (by omega)]; rfl, (((((Below.refl _ _).alloc (Nat.le_refl _) _).alloc (by simp) _).alloc (by simp; omega) _).alloc (by simp; omega) _)⟩

theorem of_big (n : Int) (w : World) (hT : Tab w) (h : 64 < n) : Calls Tryd.prog 9 #[.int .i64 n] w fun e w' => e = .returned (.tuple #[.int .i64 0, .int .i64 8]) ∧ Below w.heap.size w w' := by
  have hp := hT.pos
  obtain ⟨c0, c1, c2, c3, c4, c5, c6, c7⟩ := hT
  go_enter Tryd.func9, Tryd.ntmps9
  go_wp2
  refine wp_loop_rounds 5 ?_
  rw [rounds_succ]; go_wp2; rw [rounds_succ]; go_wp2; rw [rounds_succ]; go_wp2; rw [rounds_succ]; go_wp2; rw [rounds_succ]; go_wp2; go_ret2
  exact ⟨rfl, (((((Below.refl _ _).alloc (Nat.le_refl _) _).alloc (by simp) _).alloc (by simp; omega) _).alloc (by simp; omega) _)⟩

theorem pages_no (n : Int) (w : World) (h : n < 1 ∨ 1024 < n) : Calls Tryd.prog 10 #[.int .i64 n] w fun e w' => e = .returned (.tuple #[.int .i64 0, .int .i64 8]) ∧ w = w' := by
  rcases h with h | h
  · go_enter Tryd.func10, Tryd.ntmps10
    go_wp2
    go_ret2
    exact ⟨rfl, rfl⟩
  · have h0 : 1 ≤ n := by omega
    go_enter Tryd.func10, Tryd.ntmps10
    go_wp2
    go_ret2
    exact ⟨rfl, rfl⟩
theorem pages_yes (n : Int) (w : World) (h : 1 ≤ n) (h2 : n ≤ 1024) : Calls Tryd.prog 10 #[.int .i64 n] w fun e w' => e = .returned (.tuple #[.int .i64 ((n + 64 - 1) / 64), .int .i64 0]) ∧ w = w' := by
  go_enter Tryd.func10, Tryd.ntmps10
  go_wp2
  go_ret2
  exact ⟨rfl, rfl⟩

theorem classes_any (w : World) (hT : Tab w) : Calls Tryd.prog 11 #[] w fun e w' => e = .returned (.bool true) ∧ Below w.heap.size w w' := by
  go_enter Tryd.func11, Tryd.ntmps11
  go_wp2_with fail
  refine (of_yes 17 w hT (by omega) (by omega)).mono ?_; rintro e w1 ⟨rfl, hb⟩
  rw [show clsOf 17 = 2 by decide]
  go_wp2_with fail
  refine (pages_yes 65 _ (by omega) (by omega)).mono ?_; rintro e w2 ⟨rfl, rfl⟩
  go_wp2
  go_ret
  exact ⟨rfl, hb⟩

theorem rclass (n : Int) (w : World) (h : 1 ≤ n) (h2 : n ≤ 64) : Calls Tryd.prog 12 #[.int .i64 n] w fun e w' => e = .returned (.int .i64 (clsOf n)) ∧ w = w' := by
  go_enter Tryd.func12, Tryd.ntmps12
  go_wp2
  refine wp_loop_rounds 4 ?_
  by_cases h8 : n ≤ 8
  · rw [rounds_succ]; go_wp2; go_ret
    exact ⟨by rw [clsOf, if_pos h8]; rfl, rfl⟩
  have g8 : 8 < n := by omega
  by_cases h16 : n ≤ 16
  · rw [rounds_succ]; go_wp2; rw [rounds_succ]; go_wp2; go_ret
    exact ⟨by rw [clsOf, if_neg (by omega), if_pos h16]; rfl, rfl⟩
  have g16 : 16 < n := by omega
  by_cases h32 : n ≤ 32
  · rw [rounds_succ]; go_wp2; rw [rounds_succ]; go_wp2; rw [rounds_succ]; go_wp2; go_ret
    exact ⟨by rw [clsOf, if_neg (by omega), if_neg (by omega), if_pos h32]; rfl, rfl⟩
  · have g32 : 32 < n := by omega
    rw [rounds_succ]; go_wp2; rw [rounds_succ]; go_wp2; rw [rounds_succ]; go_wp2; rw [rounds_succ]; go_wp2; go_ret
    exact ⟨by rw [clsOf, if_neg (by omega), if_neg (by omega), if_neg (by omega)]; rfl, rfl⟩

end Go.Proofs.YtinijpjbbbbhjaaDoor
