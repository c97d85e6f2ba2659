/- The reference of layer 1: its small functions. -/
import Derived.Test.YtbgnaohjcfbaaaaDoorNodes
namespace Go.Proofs.YtbgnaohjcfbaaaaDoor
open Go.RowKit
set_option linter.unusedVariables false
set_option linter.unusedSimpArgs false
attribute [local go_sem] World.cell?_alloc_lt

def nodesTo (s i : Nat) : List Nat := (List.range i).filter (fun j => s / 2 ^ j % 2 = 1)
theorem nodesTo_succ (s i : Nat) : nodesTo s (i + 1) = if s / 2 ^ i % 2 = 1 then nodesTo s i ++ [i] else nodesTo s i := by
  unfold nodesTo
  rw [List.range_succ, List.filter_append]
  by_cases h : s / 2 ^ i % 2 = 1 <;> simp [h]
theorem nodesTo_len (s i : Nat) : (nodesTo s i).length ≤ i := by
  have := List.length_filter_le (fun j => decide (s / 2 ^ j % 2 = 1)) (List.range i)
  simpa [nodesTo] using this
end Go.Proofs.YtbgnaohjcfbaaaaDoor
