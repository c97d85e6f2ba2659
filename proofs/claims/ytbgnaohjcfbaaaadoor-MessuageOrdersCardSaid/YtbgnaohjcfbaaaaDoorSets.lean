/- nodeset.Of, Count; the statements' own sets. -/
import Derived.Test.YtbgnaohjcfbaaaaDoorText
import Derived.Test.YtbgnaohjcfbaaaaDoorInts
import Derived.Test.YtbgnaohjcfbaaaaDoorRefNodes
namespace Go.Proofs.YtbgnaohjcfbaaaaDoor
open Go.RowKit
set_option linter.unusedVariables false
set_option linter.unusedSimpArgs false
attribute [local go_sem] World.cell?_alloc_lt

theorem ints_one (xs : List Int) : ∀ u ∈ xs.map (Value.int .i64), u.oneCell' = true := by
  intro u hu
  obtain ⟨z, _, rfl⟩ := List.mem_map.1 hu
  rfl
/-- A node more. -/
def orN (s n : Nat) : Nat := s ||| 2 ^ n
def okN (n : Int) : Bool := decide (0 ≤ n ∧ n < 8)
/-- The set of the first so many; none: one is none. -/
def setK (l : List Int) : Nat → Option Nat
  | 0 => some 0
  | k + 1 => match setK l k with
    | none => none
    | some s => if okN (l.getD k 0) = true then some (orN s (l.getD k 0).toNat) else none
theorem or_lt : ∀ s : Nat, s < 256 → ∀ n : Nat, n < 8 → orN s n < 256 := by decide +kernel
theorem or_bits : ∀ s : Nat, s < 256 → ∀ n : Nat, n < 8 → bits BinOp.or IntKind.u8 (s : Int) ((2 ^ n : Int) % 256) = (orN s n : Int) := by decide +kernel
theorem setK_lt (l : List Int) (k s : Nat) (h : setK l k = some s) : s < 256 := by
  induction k generalizing s with
  | zero => simp [setK] at h; omega
  | succ k ih =>
    simp only [setK] at h
    split at h
    · cases h
    · rename_i t ht
      split at h
      · rename_i hn
        injection h with h
        subst h
        have := of_decide_eq_true hn
        exact or_lt t (ih t ht) _ (by omega)
      · cases h
theorem setK_none (l : List Int) (k m : Nat) (h : setK l k = none) (hk : k ≤ m) : setK l m = none := by
  induction m with
  | zero =>
    obtain rfl : k = 0 := by omega
    exact h
  | succ m ih =>
    by_cases e : k = m + 1
    · subst e; exact h
    · simp only [setK, ih (by omega)]
def setV (o : Option Nat) : Value := match o with
  | some s => .tuple #[.int .u8 (s : Int), .int .i64 0]
  | none => .tuple #[.int .u8 0, .int .i64 10]
end Go.Proofs.YtbgnaohjcfbaaaaDoor
