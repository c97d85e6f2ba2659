/- Loads that are made even, as plain mathematics. -/
import Derived.Test.YtmheafagafdnlaaBase
import Derived.Lib.Slices
namespace Go.Proofs.Ytmheafagafdnlaa
open Go.RowKit
set_option linter.unusedVariables false
set_option linter.unusedSimpArgs false

/-- The first greatest of the first k. -/
def frmK (l : List Int) : Nat → Nat
  | 0 => 0
  | k + 1 => if l.getD (frmK l k) 0 < l.getD k 0 then k else frmK l k
/-- The first least of the first k that is below its cap; -1: none. -/
def tgtK (l c : List Int) : Nat → Int
  | 0 => -1
  | k + 1 => if l.getD k 0 < c.getD k 0 ∧ (tgtK l c k < 0 ∨ l.getD k 0 < l.getD (tgtK l c k).toNat 0) then (k : Int) else tgtK l c k
theorem frmK_le (l : List Int) (k : Nat) : frmK l k ≤ k := by
  induction k with
  | zero => exact Nat.le_refl _
  | succ k ih => unfold frmK; split <;> omega
theorem frmK_lt (l : List Int) (k : Nat) (h : 0 < k) : frmK l k < k := by
  cases k with
  | zero => omega
  | succ k => unfold frmK; split; omega; have := frmK_le l k; omega
theorem frmK_max (l : List Int) (k : Nat) : ∀ i, i < k → l.getD i 0 ≤ l.getD (frmK l k) 0 := by
  induction k with
  | zero => intro i h; omega
  | succ k ih =>
    intro i hi
    unfold frmK
    by_cases hik : i = k
    · subst hik
      split
      · exact Int.le_refl _
      · omega
    · have := ih i (by omega)
      split
      · omega
      · exact this
theorem frmK_first (l : List Int) (k : Nat) : ∀ i, i < frmK l k → l.getD i 0 < l.getD (frmK l k) 0 := by
  induction k with
  | zero => intro i h; unfold frmK at h; omega
  | succ k ih =>
    intro i hi
    unfold frmK at hi ⊢
    split at hi
    · rename_i h
      rw [if_pos h]
      have := frmK_max l k i (by omega)
      omega
    · rename_i h
      rw [if_neg h]
      exact ih i hi
theorem max_frm (l : List Int) (k : Nat) (h0 : 0 < k) (hk : k ≤ l.length) : Lib.maxOf (l.take k) = l.getD (frmK l k) 0 := by
  induction k with
  | zero => omega
  | succ k ih =>
    by_cases h : k = 0
    · subst h
      rw [Lib.maxOf_one]
      unfold frmK frmK
      split <;> rfl
    · rw [Lib.maxOf_step l k (by omega) (by omega), ih (by omega) (by omega)]
      conv => rhs; unfold frmK
      split
      · omega
      · omega
theorem idx_frm (l : List Int) (h : 0 < l.length) : Lib.idxOf l (Lib.maxOf l) = (frmK l l.length : Int) := by
  have h1 := max_frm l l.length h (Nat.le_refl _)
  rw [List.take_length] at h1
  rw [h1]
  have h2 := Lib.idxOf_hit l l.length (frmK l l.length) (l.getD (frmK l l.length) 0) (frmK_lt l _ h) (Nat.le_refl _) rfl (fun j hj => by
    have := frmK_first l _ j hj
    omega)
  rw [List.take_length] at h2
  exact h2
theorem tgtK_bd (l c : List Int) (k : Nat) : -1 ≤ tgtK l c k ∧ tgtK l c k < (k : Int) := by
  induction k with
  | zero => unfold tgtK; omega
  | succ k ih => unfold tgtK; split <;> omega
theorem tgtK_none (l c : List Int) (k : Nat) (h : tgtK l c k < 0) : ∀ i, i < k → c.getD i 0 ≤ l.getD i 0 := by
  induction k with
  | zero => intro i h; omega
  | succ k ih =>
    intro i hi
    unfold tgtK at h
    split at h
    · omega
    · rename_i hn
      have := ih h
      by_cases hik : i = k
      · subst hik
        by_cases hc : l.getD i 0 < c.getD i 0
        · exact absurd ⟨hc, Or.inl h⟩ hn
        · omega
      · exact this i (by omega)
theorem tgtK_some (l c : List Int) (k : Nat) (h : 0 ≤ tgtK l c k) : l.getD (tgtK l c k).toNat 0 < c.getD (tgtK l c k).toNat 0 ∧ ∀ i, i < k → l.getD i 0 < c.getD i 0 → l.getD (tgtK l c k).toNat 0 ≤ l.getD i 0 := by
  induction k with
  | zero => unfold tgtK at h; omega
  | succ k ih =>
    unfold tgtK at h ⊢
    split
    · rename_i hc
      rw [Int.toNat_natCast]
      refine ⟨hc.1, fun i hi hl => ?_⟩
      by_cases hik : i = k
      · subst hik; exact Int.le_refl _
      · rcases hc.2 with h2 | h2
        · have := tgtK_none l c k h2 i (by omega); omega
        · by_cases h3 : 0 ≤ tgtK l c k
          · have := (ih h3).2 i (by omega) hl; omega
          · have := tgtK_none l c k (by omega) i (by omega); omega
    · rename_i hc
      rw [if_neg hc] at h
      refine ⟨(ih h).1, fun i hi hl => ?_⟩
      by_cases hik : i = k
      · subst hik
        by_cases h2 : l.getD i 0 < l.getD (tgtK l c i).toNat 0
        · exact absurd ⟨hl, Or.inr h2⟩ hc
        · omega
      · exact (ih h).2 i (by omega) hl
/-- The next move. -/
def nxt (l c : List Int) : Option (Nat × Nat) :=
  if tgtK l c l.length < 0 ∨ l.getD (frmK l l.length) 0 - l.getD (tgtK l c l.length).toNat 0 ≤ 1 then none else some (frmK l l.length, (tgtK l c l.length).toNat)
def mv (l : List Int) (f t : Nat) : List Int := (l.set f (l.getD f 0 - 1)).set t ((l.set f (l.getD f 0 - 1)).getD t 0 + 1)
theorem mv_len (l : List Int) (f t : Nat) : (mv l f t).length = l.length := by unfold mv; rw [List.length_set, List.length_set]
theorem getD_set (l : List Int) (i j : Nat) (v : Int) : (l.set i v).getD j 0 = if i = j ∧ j < l.length then v else l.getD j 0 := by
  rw [List.getD_eq_getElem?_getD, List.getD_eq_getElem?_getD, List.getElem?_set]
  by_cases h : i = j
  · subst h
    by_cases h2 : i < l.length
    · simp [h2]
    · simp [h2]
  · simp [h]
theorem nxt_some {l c : List Int} {f t : Nat} (h : nxt l c = some (f, t)) (h0 : 0 < l.length) : f < l.length ∧ t < l.length ∧ f ≠ t ∧ 2 ≤ l.getD f 0 - l.getD t 0 ∧ l.getD t 0 < c.getD t 0 ∧ (∀ i, i < l.length → l.getD i 0 ≤ l.getD f 0) ∧ (∀ i, i < l.length → l.getD i 0 < c.getD i 0 → l.getD t 0 ≤ l.getD i 0) := by
  unfold nxt at h
  split at h
  · cases h
  · rename_i hn
    injection h with h
    injection h with h1 h2
    subst h1 h2
    have hb := tgtK_bd l c l.length
    have h3 : 0 ≤ tgtK l c l.length := by omega
    have hs := tgtK_some l c l.length h3
    have hm := frmK_max l l.length
    have hd : 2 ≤ l.getD (frmK l l.length) 0 - l.getD (tgtK l c l.length).toNat 0 := by omega
    refine ⟨frmK_lt l _ h0, by omega, ?_, hd, hs.1, hm, hs.2⟩
    intro e
    rw [e] at hd
    omega
theorem nxt_none {l c : List Int} (h : nxt l c = none) : (∀ i, i < l.length → c.getD i 0 ≤ l.getD i 0) ∨ (∃ t, t < l.length ∧ l.getD t 0 < c.getD t 0 ∧ (∀ i, i < l.length → l.getD i 0 ≤ l.getD t 0 + 1) ∧ ∀ i, i < l.length → l.getD i 0 < c.getD i 0 → l.getD t 0 ≤ l.getD i 0) := by
  unfold nxt at h
  split at h
  · rename_i hc
    by_cases h3 : 0 ≤ tgtK l c l.length
    · right
      have hb := tgtK_bd l c l.length
      have hs := tgtK_some l c l.length h3
      refine ⟨(tgtK l c l.length).toNat, by omega, hs.1, fun i hi => ?_, hs.2⟩
      have := frmK_max l l.length i hi
      rcases hc with hc | hc <;> omega
    · left
      exact tgtK_none l c _ (by omega)
  · cases h
theorem mv_at (l : List Int) (f t i : Nat) (hf : f < l.length) (ht : t < l.length) (hne : f ≠ t) : (mv l f t).getD i 0 = if i = t then l.getD t 0 + 1 else if i = f then l.getD f 0 - 1 else l.getD i 0 := by
  unfold mv
  rw [getD_set, getD_set, getD_set, List.length_set]
  by_cases h1 : i = t
  · subst h1
    rw [if_pos ⟨rfl, ht⟩, if_neg (by omega), if_pos rfl]
  · rw [if_neg (by omega), if_neg h1]
    by_cases h2 : i = f
    · subst h2
      rw [if_pos ⟨rfl, hf⟩, if_pos rfl]
    · rw [if_neg (by omega), if_neg h2]
/-- A sum over a list. -/
def sumG (g : Int → Int) (l : List Int) : Int := (l.map g).sum
theorem sumG_set (g : Int → Int) : ∀ (l : List Int) (i : Nat) (v : Int), i < l.length → sumG g (l.set i v) = sumG g l - g (l.getD i 0) + g v := by
  intro l
  induction l with
  | nil => intro i v h; simp at h
  | cons x xs ih =>
    intro i v h
    cases i with
    | zero => simp [sumG]; omega
    | succ i =>
      have := ih i v (by simpa using h)
      simp only [sumG, List.set_cons_succ, List.map_cons, List.sum_cons, List.getD_cons_succ] at this ⊢
      omega
theorem sumG_mv (g : Int → Int) (l : List Int) (f t : Nat) (hf : f < l.length) (ht : t < l.length) (hne : f ≠ t) : sumG g (mv l f t) = sumG g l - g (l.getD f 0) + g (l.getD f 0 - 1) - g (l.getD t 0) + g (l.getD t 0 + 1) := by
  unfold mv
  rw [sumG_set g _ t _ (by rw [List.length_set]; exact ht), sumG_set g l f _ hf, getD_set, if_neg (by omega)]
theorem sumG_nonneg (g : Int → Int) (h : ∀ x, 0 ≤ g x) (l : List Int) : 0 ≤ sumG g l := by
  induction l with
  | nil => simp [sumG]
  | cons x xs ih => have := h x; simp only [sumG, List.map_cons, List.sum_cons] at ih ⊢; omega
theorem sumG_le (g : Int → Int) (B : Int) (l : List Int) (h : ∀ x ∈ l, g x ≤ B) : sumG g l ≤ B * l.length := by
  induction l with
  | nil => simp [sumG]
  | cons x xs ih =>
    have h1 := h x (by simp)
    have h2 := ih (fun y hy => h y (by simp [hy]))
    simp only [sumG, List.map_cons, List.sum_cons, List.length_cons] at h2 ⊢
    rw [Int.natCast_add, Int.mul_add]
    omega
def sq (x : Int) : Int := x * x
theorem sq_nonneg (x : Int) : 0 ≤ sq x := by
  unfold sq
  rcases Int.le_total 0 x with h | h
  · exact Int.mul_nonneg h h
  · have := Int.mul_nonneg (show 0 ≤ -x by omega) (show 0 ≤ -x by omega)
    rw [Int.neg_mul_neg] at this
    exact this
theorem sq_mv (l : List Int) (f t : Nat) (hf : f < l.length) (ht : t < l.length) (hne : f ≠ t) (h : 2 ≤ l.getD f 0 - l.getD t 0) : sumG sq (mv l f t) + 2 ≤ sumG sq l := by
  rw [sumG_mv sq l f t hf ht hne]
  generalize l.getD f 0 = a at *
  generalize l.getD t 0 = b at *
  have e1 : sq (a - 1) = sq a - 2 * a + 1 := by unfold sq; rw [Int.sub_mul, Int.mul_sub]; omega
  have e2 : sq (b + 1) = sq b + 2 * b + 1 := by unfold sq; rw [Int.add_mul, Int.mul_add]; omega
  rw [e1, e2]
  omega
/-- Loads behind moves, each of them the next one. -/
def steps (c : List Int) : List Int → List (Nat × Nat) → Option (List Int)
  | l, [] => some l
  | l, m :: ms => if nxt l c = some m then steps c (mv l m.1 m.2) ms else none
theorem steps_snoc (c : List Int) : ∀ (ms : List (Nat × Nat)) (l now : List Int) (m : Nat × Nat), steps c l ms = some now → nxt now c = some m → steps c l (ms ++ [m]) = some (mv now m.1 m.2) := by
  intro ms
  induction ms with
  | nil =>
    intro l now m h hn
    simp only [steps] at h
    injection h with h
    subst h
    simp only [List.nil_append, steps, if_pos hn]
  | cons x xs ih =>
    intro l now m h hn
    simp only [List.cons_append, steps] at h ⊢
    split at h
    · rename_i hx
      rw [if_pos hx]
      exact ih _ _ _ h hn
    · cases h
theorem steps_take (c : List Int) : ∀ (ms : List (Nat × Nat)) (l now : List Int) (i : Nat), steps c l ms = some now → i < ms.length → ∃ cur m, steps c l (ms.take i) = some cur ∧ ms[i]? = some m ∧ nxt cur c = some m ∧ steps c l (ms.take (i + 1)) = some (mv cur m.1 m.2) := by
  intro ms
  induction ms with
  | nil => intro l now i h hi; simp at hi
  | cons x xs ih =>
    intro l now i h hi
    simp only [steps] at h
    split at h
    · rename_i hx
      cases i with
      | zero => exact ⟨l, x, by simp [steps], by simp, hx, by simp [steps, hx]⟩
      | succ i =>
        obtain ⟨cur, m, h1, h2, h3, h4⟩ := ih _ _ i h (by simpa using hi)
        exact ⟨cur, m, by simp only [List.take_succ_cons, steps, if_pos hx]; exact h1, by simpa using h2, h3, by simp only [List.take_succ_cons, steps, if_pos hx] at h4 ⊢; exact h4⟩
    · cases h
theorem steps_inv (c : List Int) (P : List Int → Prop) (hP : ∀ l f t, P l → nxt l c = some (f, t) → P (mv l f t)) : ∀ (ms : List (Nat × Nat)) (l now : List Int), P l → steps c l ms = some now → P now := by
  intro ms
  induction ms with
  | nil => intro l now h h2; simp only [steps] at h2; injection h2 with h2; subst h2; exact h
  | cons x xs ih =>
    intro l now h h2
    simp only [steps] at h2
    split at h2
    · rename_i hx
      exact ih _ _ (hP l x.1 x.2 h hx) h2
    · cases h2
/-- May a load and a cap be? -/
def okAt (a b : Int) : Bool := decide (0 ≤ b ∧ b ≤ 1000 ∧ 0 ≤ a ∧ a ≤ b)
def okK (l c : List Int) (k : Nat) : Bool := (List.range k).all fun i => okAt (l.getD i 0) (c.getD i 0)
theorem okK_succ (l c : List Int) (k : Nat) : okK l c (k + 1) = (okK l c k && okAt (l.getD k 0) (c.getD k 0)) := by unfold okK; rw [List.range_succ, List.all_append]; simp
theorem okK_at (l c : List Int) (k : Nat) (h : okK l c k = true) : ∀ i, i < k → 0 ≤ c.getD i 0 ∧ c.getD i 0 ≤ 1000 ∧ 0 ≤ l.getD i 0 ∧ l.getD i 0 ≤ c.getD i 0 := by
  intro i hi
  unfold okK at h
  rw [List.all_eq_true] at h
  exact of_decide_eq_true (h i (List.mem_range.2 hi))
theorem okK_of (l c : List Int) (k : Nat) (h : ∀ i, i < k → 0 ≤ c.getD i 0 ∧ c.getD i 0 ≤ 1000 ∧ 0 ≤ l.getD i 0 ∧ l.getD i 0 ≤ c.getD i 0) : okK l c k = true := by
  unfold okK
  rw [List.all_eq_true]
  intro i hi
  exact decide_eq_true (h i (List.mem_range.1 hi))
theorem okK_no (l c : List Int) (k n : Nat) (h : okAt (l.getD k 0) (c.getD k 0) = false) (hk : k < n) : okK l c n = false := by
  cases hn : okK l c n with
  | false => rfl
  | true =>
    have := okK_at l c n hn k hk
    unfold okAt at h
    rw [decide_eq_true this] at h
    exact h
def chkP (l c : List Int) : Int := if 1 ≤ l.length ∧ l.length ≤ 8 ∧ c.length = l.length then (if okK l c l.length = true then 0 else 1) else 3
structure Fit (l c : List Int) : Prop where
  l1 : 1 ≤ l.length
  l8 : l.length ≤ 8
  le : c.length = l.length
  ok : ∀ i, i < l.length → 0 ≤ c.getD i 0 ∧ c.getD i 0 ≤ 1000 ∧ 0 ≤ l.getD i 0 ∧ l.getD i 0 ≤ c.getD i 0
theorem fit_of {l c : List Int} (h : chkP l c = 0) : Fit l c := by
  unfold chkP at h
  split at h
  · rename_i h1
    split at h
    · rename_i h2
      exact ⟨h1.1, h1.2.1, h1.2.2, okK_at l c _ h2⟩
    · omega
  · omega
theorem chk_of {l c : List Int} (h : Fit l c) : chkP l c = 0 := by
  unfold chkP
  rw [if_pos ⟨h.l1, h.l8, h.le⟩, if_pos (okK_of l c _ h.ok)]
theorem Fit.mv {l c : List Int} {f t : Nat} (h : Fit l c) (hn : nxt l c = some (f, t)) : Fit (mv l f t) c := by
  obtain ⟨hf, ht, hne, hd, hc, hm, hl⟩ := nxt_some hn (by have := h.l1; omega)
  refine ⟨by rw [mv_len]; exact h.l1, by rw [mv_len]; exact h.l8, by rw [mv_len]; exact h.le, fun i hi => ?_⟩
  rw [mv_len] at hi
  rw [mv_at l f t i hf ht hne]
  have h0 := h.ok i hi
  have h1 := h.ok t ht
  have h2 := h.ok f hf
  split
  · rename_i e; subst e; omega
  · split
    · rename_i e; subst e; omega
    · exact h0
theorem fit_sq {l c : List Int} (h : Fit l c) : sumG sq l ≤ 8000000 := by
  have h1 := sumG_le sq 1000000 l (fun x hx => by
    obtain ⟨i, hi⟩ := List.mem_iff_getElem?.1 hx
    have hil := (List.getElem?_eq_some_iff.1 hi).1
    have := h.ok i hil
    rw [List.getD_eq_getElem?_getD (l := l), hi] at this
    simp only [Option.getD_some] at this
    have h2 := Int.mul_le_mul (show x ≤ 1000 by omega) (show x ≤ 1000 by omega) (by omega) (show (0:Int) ≤ 1000 by omega)
    unfold sq
    omega)
  have h8 := h.l8
  omega
end Go.Proofs.Ytmheafagafdnlaa
