/- nodeset.Of, Count; the statements' own sets. -/
import Derived.Test.YtbgnaohjcfbaaaaDoorText
import Derived.Test.YtbgnaohjcfbaaaaDoorRefNodes
namespace Go.Proofs.YtbgnaohjcfbaaaaDoor
open Go.RowKit
set_option linter.unusedVariables false
set_option linter.unusedSimpArgs false
attribute [local go_sem] World.cell?_alloc_lt

/-- A slice of ints that reads as a list. -/
structure InI (w : World) (A : Option Addr) (n : Nat) (xs : List Int) : Prop where
  ln : xs.length = n
  at_ : 0 < n → ∃ b off, A = some ⟨b, off, none⟩ ∧ b < w.heap.size ∧ ∀ j u, xs[j]? = some u → w.cell? ⟨b, off + j, none⟩ = some (.int .i64 u)
section
variable {w w' : World} {A : Option Addr} {n : Nat} {xs : List Int}
theorem InI.below (h : InI w A n xs) (k : Below w.heap.size w w') : InI w' A n xs :=
  ⟨h.ln, fun hn => by
    obtain ⟨b, off, ha, hb, hc⟩ := h.at_ hn
    exact ⟨b, off, ha, Nat.lt_of_lt_of_le hb k.size, fun j u hj => (k.cell (p := ⟨b, off + j, none⟩) hb).trans (hc j u hj)⟩⟩
theorem InI.dn (h : InI w A n xs) (k : Nat) : InI (w.drewN k) A n xs := ⟨h.ln, h.at_⟩
theorem InI.get (h : InI w A n xs) {i : Nat} (hi : i < n) : ∃ b off, A = some ⟨b, off, none⟩ ∧ b < w.heap.size ∧ w.cell? ⟨b, off + i, none⟩ = some (.int .i64 (xs.getD i 0)) := by
  obtain ⟨b, off, ha, hb, hc⟩ := h.at_ (by omega)
  refine ⟨b, off, ha, hb, hc i _ ?_⟩
  have hl : i < xs.length := by have := h.ln; omega
  rw [List.getElem?_eq_getElem hl, List.getD_eq_getElem?_getD, List.getElem?_eq_getElem hl]
  rfl
theorem InI.own {base c : Nat} (h : w.ownsRow base 3 1 (.slice A n c) n (xs.map (Value.int .i64))) : InI w A n xs := by
  refine ⟨by have := h.1; simp at this; omega, fun hn => ?_⟩
  obtain ⟨g, cap, hv, hb, hlt⟩ := h.form hn
  injection hv with hA _ _
  refine ⟨g, 0, hA, hlt, fun j u hj => ?_⟩
  obtain ⟨g', hA', hc, _⟩ := own_at h (k := j) (u := .int .i64 u) (by rw [List.getElem?_map, hj]; rfl)
  rw [hA] at hA'
  injection hA' with hA'
  injection hA' with hA'
  subst hA'
  rw [Nat.zero_add]
  exact hc
theorem InI.inn (h : InInts .i64 w A n xs) : InI w A n xs :=
  ⟨h.ln, fun hn => by
    obtain ⟨b, off, ha, hb, hc⟩ := h.at_ hn
    refine ⟨b, off, ha, hb, fun j u hj => ?_⟩
    have hjl := (List.getElem?_eq_some_iff.1 hj).1
    have := hc j (by have := h.ln; omega)
    rw [List.getD_eq_getElem?_getD, hj] at this
    exact this⟩
theorem InI.take {k : Nat} (h : InI w A n xs) (hk : k ≤ n) : InI w A k (xs.take k) :=
  ⟨by rw [List.length_take, h.ln]; omega, fun hn => by
    obtain ⟨b, off, ha, hb, hc⟩ := h.at_ (by omega)
    refine ⟨b, off, ha, hb, fun j u hj => ?_⟩
    rw [List.getElem?_take] at hj
    split at hj
    · exact hc j u hj
    · cases hj⟩
theorem InI.reads (h : InI w A n xs) : Reads w w.heap.size 1 A n (xs.map (Value.int .i64)) := by
  refine ⟨by rw [List.length_map, h.ln]; omega, fun hn => ?_⟩
  obtain ⟨b, off, ha, hb, hc⟩ := h.at_ hn
  refine ⟨⟨b, off, none⟩, ha, hb, fun j u hj => ?_⟩
  rw [List.getElem?_map] at hj
  obtain ⟨z, hz, rfl⟩ := Option.map_eq_some_iff.1 hj
  rw [WideShapes.add_plain]
  exact hc j z hz
end
theorem ints_one (xs : List Int) : ∀ u ∈ xs.map (Value.int .i64), u.oneCell' = true := by
  intro u hu
  obtain ⟨z, _, rfl⟩ := List.mem_map.1 hu
  rfl
theorem idxI (b off n c i : Nat) (hi : i < n) (w : World) : (Instr.indexAt 23 (.slice (some ⟨b, off, none⟩) n c) (.int .i64 (i : Int))).run Tryd.prog w = .ok (.pointer (some ⟨b, off + i, none⟩)) w := by
  simp [go_sem, hi]
/-- A node more. -/
def orN (s n : Nat) : Nat := s ||| 2 ^ n
def okN (n : Int) : Bool := decide (0 ≤ n ∧ n < 8)
/-- The set of the first so many; none: one is none. -/
def setK (l : List Int) : Nat → Option Nat
  | 0 => some 0
  | k + 1 => match setK l k with
    | none => none
    | some s => if okN (l.getD k 0) = true then some (orN s (l.getD k 0).toNat) else none
theorem or_lt : ∀ s : Nat, s < 256 → ∀ n : Nat, n < 8 → orN s n < 256 := by decide +kernel
theorem or_bits : ∀ s : Nat, s < 256 → ∀ n : Nat, n < 8 → bits BinOp.or IntKind.u8 (s : Int) ((2 ^ n : Int) % 256) = (orN s n : Int) := by decide +kernel
theorem setK_lt (l : List Int) (k s : Nat) (h : setK l k = some s) : s < 256 := by
  induction k generalizing s with
  | zero => simp [setK] at h; omega
  | succ k ih =>
    simp only [setK] at h
    split at h
    · cases h
    · rename_i t ht
      split at h
      · rename_i hn
        injection h with h
        subst h
        have := of_decide_eq_true hn
        exact or_lt t (ih t ht) _ (by omega)
      · cases h
theorem setK_none (l : List Int) (k m : Nat) (h : setK l k = none) (hk : k ≤ m) : setK l m = none := by
  induction m with
  | zero =>
    obtain rfl : k = 0 := by omega
    exact h
  | succ m ih =>
    by_cases e : k = m + 1
    · subst e; exact h
    · simp only [setK, ih (by omega)]
def setV (o : Option Nat) : Value := match o with
  | some s => .tuple #[.int .u8 (s : Int), .int .i64 0]
  | none => .tuple #[.int .u8 0, .int .i64 10]
theorem InI.of_blk {w : World} {q : Nat} {xs : List Int} (h : Blk w q 3 (xs.map (Value.int .i64))) : InI w (some ⟨q, 0, none⟩) xs.length xs :=
  ⟨rfl, fun _ => ⟨q, 0, rfl, h.lt, fun j u hj => by
    rw [Nat.zero_add]
    exact h.at_ (by rw [List.getElem?_map, hj]; rfl)⟩⟩
end Go.Proofs.YtbgnaohjcfbaaaaDoor
