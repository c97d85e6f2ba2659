/- Cells laid over a block from a place on. -/
import Derived.Test.YtbgnaohjcfbaaaaDoorBase2
import Derived.Deep.MidRow
namespace Go.Proofs.YtbgnaohjcfbaaaaDoor
open Go.RowKit
set_option linter.unusedVariables false
set_option linter.unusedSimpArgs false

/-- us laid over cs from place o on. -/
def putL {α : Type} : List α → Nat → List α → List α
  | cs, _, [] => cs
  | cs, o, v :: vs => putL (cs.set o v) (o + 1) vs
theorem putL_len {α : Type} : ∀ (us cs : List α) (o : Nat), (putL cs o us).length = cs.length := by
  intro us
  induction us with
  | nil => intro cs o; rfl
  | cons v vs ih => intro cs o; rw [putL, ih, List.length_set]
theorem putL_map {α β : Type} (f : α → β) : ∀ (us cs : List α) (o : Nat), (putL cs o us).map f = putL (cs.map f) o (us.map f) := by
  intro us
  induction us with
  | nil => intro cs o; rfl
  | cons v vs ih => intro cs o; rw [putL, ih, List.map_cons, putL, List.map_set]
theorem putL_get {α : Type} : ∀ (us cs : List α) (o i : Nat), o + us.length ≤ cs.length → (putL cs o us)[i]? = if o ≤ i ∧ i < o + us.length then us[i - o]? else cs[i]? := by
  intro us
  induction us with
  | nil => intro cs o i h; rw [putL, if_neg (fun h2 => by simp at h2; omega)]
  | cons v vs ih =>
    intro cs o i h
    simp only [List.length_cons] at h ⊢
    rw [putL, ih _ _ _ (by rw [List.length_set]; omega)]
    by_cases h1 : o + 1 ≤ i ∧ i < o + 1 + vs.length
    · rw [if_pos h1, if_pos (by omega), show i - o = (i - (o + 1)) + 1 from by omega, List.getElem?_cons_succ]
    · rw [if_neg h1]
      by_cases h2 : i = o
      · subst h2
        rw [if_pos (by omega), Nat.sub_self, List.getElem?_set_self (by omega)]
        rfl
      · rw [if_neg (by omega), List.getElem?_set_ne (by omega)]
theorem Blk.setCells {g : Nat} {t : TypeId} : ∀ (us cs : List Value) (o : Nat) (w : World), Blk w g t cs → Blk (w.setCells g o us) g t (putL cs o us) ∧ Ch [g] w (w.setCells g o us) := by
  intro us
  induction us with
  | nil => intro cs o w h; exact ⟨h, Ch.refl _ _⟩
  | cons v vs ih =>
    intro cs o w h
    obtain ⟨h1, h2⟩ := ih (cs.set o v) (o + 1) _ (h.set_ o v)
    exact ⟨h1, ((Ch.refl [g] w).set (p := ⟨g, o, none⟩) (by simp) v).trans h2⟩
theorem blk_range {w : World} {b : Nat} {t : TypeId} {cs : List Value} (h : Blk w b t cs) (o n : Nat) : w.rangeAt b o ((cs.drop o).take n) := by
  intro j v hj
  rw [List.getElem?_take] at hj
  split at hj
  · rw [List.getElem?_drop] at hj
    exact h.at_ hj
  · cases hj
theorem blk_there {w : World} {b : Nat} {t : TypeId} {cs : List Value} (h : Blk w b t cs) (o n : Nat) (hl : o + n ≤ cs.length) : w.there b o n := by
  intro j hj
  refine ⟨?_, h.frozen _⟩
  rw [h.cell, List.getElem?_eq_getElem (by omega)]
  rfl
end Go.Proofs.YtbgnaohjcfbaaaaDoor
