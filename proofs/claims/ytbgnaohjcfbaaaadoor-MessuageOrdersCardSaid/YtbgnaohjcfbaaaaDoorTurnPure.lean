/- Rows as columns: no program in sight. -/
import Derived.Test.YtbgnaohjcfbaaaaDoorGridI2
namespace Go.Proofs.YtbgnaohjcfbaaaaDoor
set_option linter.unusedVariables false
set_option linter.unusedSimpArgs false

theorem pos_lt {rows cols j : Nat} (hj : j < rows * cols) : 0 < cols ∧ 0 < rows ∧ j / cols < rows ∧ j % cols < cols ∧ j % cols * rows + j / cols < rows * cols := by
  have hc : 0 < cols := by
    rcases Nat.eq_zero_or_pos cols with h | h
    · subst h; omega
    · exact h
  have h1 : j / cols < rows := by rw [Nat.div_lt_iff_lt_mul hc]; exact hj
  have h2 : j % cols < cols := Nat.mod_lt _ hc
  refine ⟨hc, Nat.lt_of_le_of_lt (Nat.zero_le _) h1, h1, h2, ?_⟩
  have h3 : (j % cols + 1) * rows ≤ cols * rows := Nat.mul_le_mul_right _ h2
  rw [Nat.add_mul, Nat.one_mul, Nat.mul_comm cols rows] at h3
  exact Nat.lt_of_lt_of_le (Nat.add_lt_add_left h1 _) h3
theorem pos_inj {rows cols j k : Nat} (hj : j < rows * cols) (hk : k < rows * cols) (h : j % cols * rows + j / cols = k % cols * rows + k / cols) : j = k := by
  obtain ⟨hc, hr, j1, j2, _⟩ := pos_lt hj
  obtain ⟨_, _, k1, k2, _⟩ := pos_lt hk
  have e1 : (j % cols * rows + j / cols) / rows = j % cols := by
    rw [Nat.mul_comm, Nat.mul_add_div hr, Nat.div_eq_of_lt j1, Nat.add_zero]
  have e2 : (k % cols * rows + k / cols) / rows = k % cols := by
    rw [Nat.mul_comm, Nat.mul_add_div hr, Nat.div_eq_of_lt k1, Nat.add_zero]
  have e3 : j % cols = k % cols := by rw [← e1, ← e2, h]
  have e4 : j / cols = k / cols := by rw [e3] at h; omega
  rw [← Nat.div_add_mod j cols, ← Nat.div_add_mod k cols, e3, e4]
section
variable {α : Type} (z : α) (xs : List α) (rows cols : Nat) (hl : xs.length = rows * cols)
include hl
theorem turnTo_get (k : Nat) (hk : k ≤ xs.length) : ∀ j, j < k → (turnTo z xs rows cols k)[j % cols * rows + j / cols]? = some (xs.getD j z) := by
  induction k with
  | zero => intro j hj; omega
  | succ k ih =>
    intro j hj
    rw [turnTo_succ]
    by_cases e : j = k
    · subst e
      rw [List.getElem?_set_self]
      rw [turnTo_length, hl]
      exact (pos_lt (by omega)).2.2.2.2
    · rw [List.getElem?_set_ne]
      · exact ih (by omega) j (by omega)
      · intro h
        exact e (pos_inj (rows := rows) (cols := cols) (by omega) (by omega) h).symm
/-- Place (c, r) of the turned table. -/
theorem turned_at (r c : Nat) (hr : r < rows) (hc : c < cols) : (turnTo z xs rows cols xs.length)[c * rows + r]? = some (xs.getD (r * cols + c) z) := by
  have hj : r * cols + c < xs.length := by rw [hl]; exact place_lt hr hc
  have h := turnTo_get z xs rows cols hl xs.length (Nat.le_refl _) (r * cols + c) hj
  have e1 : (r * cols + c) % cols = c := by rw [Nat.mul_comm, Nat.mul_add_mod, Nat.mod_eq_of_lt hc]
  have e2 : (r * cols + c) / cols = r := by rw [Nat.mul_comm, Nat.mul_add_div (by omega), Nat.div_eq_of_lt hc, Nat.add_zero]
  rw [e1, e2] at h
  exact h
theorem turned_twice : turnTo z (turnTo z xs rows cols xs.length) cols rows (turnTo z xs rows cols xs.length).length = xs := by
  have hl2 : (turnTo z xs rows cols xs.length).length = cols * rows := by rw [turnTo_length, hl, Nat.mul_comm]
  apply List.ext_getElem?
  intro i
  by_cases hi : i < xs.length
  · obtain ⟨hc, hr, i1, i2, _⟩ := pos_lt (rows := rows) (cols := cols) (j := i) (by omega)
    have h := turned_at z (turnTo z xs rows cols xs.length) cols rows hl2 (i % cols) (i / cols) i2 i1
    have e : i / cols * cols + i % cols = i := by rw [Nat.mul_comm]; exact Nat.div_add_mod i cols
    rw [e] at h
    rw [h, List.getD_eq_getElem?_getD, turned_at z xs rows cols hl (i / cols) (i % cols) i1 i2, e, List.getD_eq_getElem?_getD, List.getElem?_eq_getElem hi]
    rfl
  · rw [List.getElem?_eq_none (by rw [turnTo_length, turnTo_length]; omega), List.getElem?_eq_none (by omega)]
end
/-- Is a square table the same, turned? -/
theorem turned_same {α : Type} (z : α) (xs : List α) (m : Nat) (hl : xs.length = m * m) : turnTo z xs m m xs.length = xs ↔ ∀ r c, r < m → c < m → xs.getD (r * m + c) z = xs.getD (c * m + r) z := by
  constructor
  · intro h r c hr hc
    have := turned_at z xs m m hl r c hr hc
    rw [h] at this
    rw [List.getD_eq_getElem?_getD (i := c * m + r), this]
    rfl
  · intro h
    apply List.ext_getElem?
    intro i
    by_cases hi : i < xs.length
    · obtain ⟨hc, hr, i1, i2, _⟩ := pos_lt (rows := m) (cols := m) (j := i) (by omega)
      have e : i / m * m + i % m = i := by rw [Nat.mul_comm]; exact Nat.div_add_mod i m
      have := turned_at z xs m m hl (i % m) (i / m) i2 i1
      rw [e] at this
      rw [this, h (i % m) (i / m) i2 i1, e, List.getD_eq_getElem?_getD, List.getElem?_eq_getElem hi]
      rfl
    · rw [List.getElem?_eq_none (by rw [turnTo_length]; omega), List.getElem?_eq_none (by omega)]
end Go.Proofs.YtbgnaohjcfbaaaaDoor
