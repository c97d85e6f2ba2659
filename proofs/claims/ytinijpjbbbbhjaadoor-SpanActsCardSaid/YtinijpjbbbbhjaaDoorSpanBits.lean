/- Bits of a span, as sets: no program in sight. -/
import Derived.Test.YtinijpjbbbbhjaaDoorB3
import Derived.Test.YtinijpjbbbbhjaaDoorReads
namespace Go.Proofs.YtinijpjbbbbhjaaDoor
open Go.RowKit
set_option linter.unusedVariables false
set_option linter.unusedSimpArgs false

/-- t's bits are the members of L. -/
structure Bits (t : Nat) (L : List Nat) : Prop where
  lt : t < 256
  at_ : ∀ x, x < 8 → (t / 2 ^ x % 2 = 1 ↔ x ∈ L)
theorem an_bits0 : ∀ t : Nat, t < 256 → ∀ x : Nat, x < 8 → anN t x < 256 ∧ ∀ y : Nat, y < 8 → (anN t x / 2 ^ y % 2 = 1 ↔ (t / 2 ^ y % 2 = 1 ∧ y ≠ x)) := by decide +kernel
theorem or_bits0 : ∀ t : Nat, t < 256 → ∀ x : Nat, x < 8 → orN t x < 256 ∧ ∀ y : Nat, y < 8 → (orN t x / 2 ^ y % 2 = 1 ↔ (t / 2 ^ y % 2 = 1 ∨ y = x)) := by decide +kernel
theorem no_bits0 : ∀ t : Nat, t < 256 → (∀ y : Nat, y < 8 → ¬ t / 2 ^ y % 2 = 1) → t = 0 := by decide +kernel
theorem Bits.give {t : Nat} {L L' : List Nat} (h : Bits t L) {x : Nat} (hx : x < 8) (hL : ∀ y, y ∈ L' ↔ (y ∈ L ∧ y ≠ x)) : Bits (anN t x) L' := by
  obtain ⟨h1, h2⟩ := an_bits0 t h.lt x hx
  refine ⟨h1, fun y hy => ?_⟩
  rw [h2 y hy, h.at_ y hy, hL y]
theorem Bits.nil {t : Nat} (h : Bits t []) : t = 0 := no_bits0 t h.lt (fun y hy e => by have := (h.at_ y hy).1 e; simp at this)
/-- The first i are taken. -/
theorem full_bits : ∀ i : Nat, i ≤ 8 → Bits (2 ^ i - 1) (List.range i) := by
  intro i hi
  have h1 : ∀ i : Nat, i ≤ 8 → 2 ^ i - 1 < 256 ∧ ∀ x : Nat, x < 8 → ((2 ^ i - 1) / 2 ^ x % 2 = 1 ↔ x < i) := by decide +kernel
  obtain ⟨a, b⟩ := h1 i hi
  exact ⟨a, fun x hx => by rw [b x hx, List.mem_range]⟩
theorem fill_take : ∀ i : Nat, i < 8 → tzN (255 - (2 ^ i - 1)) = i ∧ orN (2 ^ i - 1) i = 2 ^ (i + 1) - 1 ∧ ocN (2 ^ (i + 1) - 1) = i + 1 ∧ orN (2 ^ i - 1) i < 256 := by decide +kernel
theorem fill_tz : ∀ i : Nat, i ≤ 8 → tzN (255 - (2 ^ i - 1)) = i := by decide +kernel
theorem erase_mem {L : List Nat} (hn : L.Nodup) {k x : Nat} (hk : L[k]? = some x) (y : Nat) : y ∈ L.take k ++ L.drop (k + 1) ↔ (y ∈ L ∧ y ≠ x) := by
  obtain ⟨hkl, hke⟩ := List.getElem?_eq_some_iff.1 hk
  have e : L = L.take k ++ x :: L.drop (k + 1) := by rw [← hke, ← List.drop_eq_getElem_cons hkl, List.take_append_drop]
  have hp := hn
  rw [e, List.nodup_append] at hp
  obtain ⟨_, h2, h3⟩ := hp
  rw [List.nodup_cons] at h2
  constructor
  · intro hy
    rw [List.mem_append] at hy
    rcases hy with hy | hy
    · exact ⟨List.mem_of_mem_take hy, h3 y hy x (by simp)⟩
    · exact ⟨List.mem_of_mem_drop hy, fun e2 => h2.1 (e2 ▸ hy)⟩
  · rintro ⟨hy, hne⟩
    rw [e, List.mem_append, List.mem_cons] at hy
    rw [List.mem_append]
    rcases hy with hy | hy | hy
    · exact Or.inl hy
    · exact absurd hy hne
    · exact Or.inr hy
theorem erase_nodup {L : List Nat} (hn : L.Nodup) (k : Nat) : (L.take k ++ L.drop (k + 1)).Nodup := by
  rw [← List.eraseIdx_eq_take_drop_succ]
  exact hn.eraseIdx k
end Go.Proofs.YtinijpjbbbbhjaaDoor
