/- Events and their counts, as lists: no program in sight. -/
import Derived.Test.YtinijpjbbbbhjaaBase2
namespace Go.Proofs.Ytinijpjbbbbhjaa
set_option linter.unusedVariables false
set_option linter.unusedSimpArgs false

structure Ev where
  node : Int
  start : Int
  own : Int
  il : Bool
  deriving DecidableEq
def Ev.cells (x : Ev) : List Value := [.int .i64 x.node, .int .i64 x.start, .int .i64 x.own, .bool x.il]
theorem Ev.cells_len (x : Ev) : x.cells.length = 4 := rfl
def evCells (l : List Ev) : List Value := l.flatMap Ev.cells
theorem evCells_snoc (l : List Ev) (x : Ev) : evCells (l ++ [x]) = evCells l ++ x.cells := by simp [evCells]
theorem evCells_len (l : List Ev) : (evCells l).length = l.length * 4 := by
  unfold evCells
  induction l with
  | nil => rfl
  | cons x r ih => rw [List.flatMap_cons, List.length_append, ih, Ev.cells_len, List.length_cons]; omega
theorem evCells_at (l : List Ev) (i j : Nat) (x : Ev) (h : l[i]? = some x) (hj : j < 4) : (evCells l)[i * 4 + j]? = x.cells[j]? := by
  unfold evCells
  induction l generalizing i with
  | nil => simp at h
  | cons y r ih =>
    rw [List.flatMap_cons]
    cases i with
    | zero =>
      simp at h
      subst h
      rw [List.getElem?_append_left (by rw [Ev.cells_len]; omega)]
      congr 1; omega
    | succ i =>
      rw [List.getElem?_append_right (by rw [Ev.cells_len]; omega), Ev.cells_len, ← ih i (by simpa using h)]
      congr 1; omega
/-- May an event be, of so many nodes? -/
def Ev.right (x : Ev) (n : Nat) : Bool := decide (0 ≤ x.node ∧ x.node < (n : Int) ∧ 0 ≤ x.start ∧ x.start < (n : Int) ∧ 0 ≤ x.own ∧ x.own < (n : Int))
/-- Field j of the counts of node k: hit, miss, foreign, local, other, interleave. -/
def inc (x : Ev) (k : Int) : Nat → Bool
  | 0 => decide (x.node = k ∧ x.start = k)
  | 1 => decide (x.node = k ∧ x.start ≠ k)
  | 2 => decide (x.node ≠ k ∧ x.start = k)
  | 3 => decide (x.node = k ∧ x.own = k)
  | 4 => decide (x.node = k ∧ x.own ≠ k)
  | 5 => decide (x.node = k ∧ x.start = k) && x.il
  | _ => false
def cc (l : List Ev) (k : Int) (j : Nat) : Nat := l.countP (fun x => inc x k j)
theorem cc_nil (k : Int) (j : Nat) : cc [] k j = 0 := rfl
theorem cc_snoc (l : List Ev) (x : Ev) (k : Int) (j : Nat) : cc (l ++ [x]) k j = cc l k j + if inc x k j then 1 else 0 := by
  unfold cc
  rw [List.countP_append]
  by_cases h : inc x k j = true
  · rw [if_pos h]; simp [List.countP_cons, h]
  · rw [if_neg h]; simp [List.countP_cons, h]
theorem cc_le (l : List Ev) (k : Int) (j : Nat) : cc l k j ≤ l.length := List.countP_le_length
theorem cc_reverse (l : List Ev) (k : Int) (j : Nat) : cc l.reverse k j = cc l k j := by unfold cc; rw [List.countP_reverse]
/-- Hits and misses of a node are the events that came of it. -/
theorem cc_node (l : List Ev) (k : Int) : cc l k 0 + cc l k 1 = l.countP (fun x => decide (x.node = k)) := by
  unfold cc
  induction l with
  | nil => rfl
  | cons x r ih =>
    simp only [List.countP_cons, inc] at ih ⊢
    by_cases h : x.node = k <;> by_cases h2 : x.start = k <;> simp [h, h2] at ih ⊢ <;> omega
theorem cc_own (l : List Ev) (k : Int) : cc l k 3 + cc l k 4 = l.countP (fun x => decide (x.node = k)) := by
  unfold cc
  induction l with
  | nil => rfl
  | cons x r ih =>
    simp only [List.countP_cons, inc] at ih ⊢
    by_cases h : x.node = k <;> by_cases h2 : x.own = k <;> simp [h, h2] at ih ⊢ <;> omega
/-- So many events came of the first nodes. -/
def upto (l : List Ev) (n : Nat) : Nat := l.countP (fun x => decide (0 ≤ x.node ∧ x.node < (n : Int)))
theorem upto_zero (l : List Ev) : upto l 0 = 0 := by
  unfold upto
  rw [List.countP_eq_zero]
  intro x _ h
  simp at h
  omega
theorem upto_succ (l : List Ev) (n : Nat) : upto l (n + 1) = upto l n + l.countP (fun x => decide (x.node = (n : Int))) := by
  unfold upto
  induction l with
  | nil => rfl
  | cons x r ih =>
    simp only [List.countP_cons] at ih ⊢
    by_cases h : x.node = (n : Int)
    · have h1 : decide (0 ≤ x.node ∧ x.node < ((n + 1 : Nat) : Int)) = true := decide_eq_true (by omega)
      have h2 : decide (0 ≤ x.node ∧ x.node < (n : Int)) = false := decide_eq_false (by omega)
      rw [h1, h2, decide_eq_true h, if_pos rfl, if_neg Bool.false_ne_true]
      omega
    · by_cases h3 : 0 ≤ x.node ∧ x.node < (n : Int)
      · have h1 : decide (0 ≤ x.node ∧ x.node < ((n + 1 : Nat) : Int)) = true := decide_eq_true (by omega)
        rw [h1, decide_eq_true h3, decide_eq_false h, if_pos rfl, if_neg Bool.false_ne_true]
        omega
      · have h1 : decide (0 ≤ x.node ∧ x.node < ((n + 1 : Nat) : Int)) = false := decide_eq_false (by omega)
        rw [h1, decide_eq_false h3, decide_eq_false h, if_neg Bool.false_ne_true]
        omega
theorem upto_all (l : List Ev) (n : Nat) (h : ∀ x ∈ l, x.right n = true) : upto l n = l.length := by
  unfold upto
  rw [List.countP_eq_length]
  intro x hx
  have := h x hx
  unfold Ev.right at this
  simp at this ⊢
  omega
end Go.Proofs.Ytinijpjbbbbhjaa
