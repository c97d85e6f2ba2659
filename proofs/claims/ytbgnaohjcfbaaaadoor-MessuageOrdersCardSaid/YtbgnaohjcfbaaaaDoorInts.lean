/- Slices of ints that read as lists. -/
import Derived.Test.YtbgnaohjcfbaaaaDoorOwn
import Derived.Test.YtbgnaohjcfbaaaaDoorReads
import Derived.Test.YtbgnaohjcfbaaaaDoorArgs
import Derived.Test.YtbgnaohjcfbaaaaDoorCuts
namespace Go.Proofs.YtbgnaohjcfbaaaaDoor
open Go.RowKit
set_option linter.unusedVariables false
set_option linter.unusedSimpArgs false
attribute [local go_sem] World.cell?_alloc_lt

/-- A slice of ints that reads as a list. -/
structure InI (w : World) (A : Option Addr) (n : Nat) (xs : List Int) : Prop where
  ln : xs.length = n
  at_ : 0 < n → ∃ b off, A = some ⟨b, off, none⟩ ∧ b < w.heap.size ∧ ∀ j u, xs[j]? = some u → w.cell? ⟨b, off + j, none⟩ = some (.int .i64 u)
section
variable {w w' : World} {A : Option Addr} {n : Nat} {xs : List Int}
theorem InI.below (h : InI w A n xs) (k : Below w.heap.size w w') : InI w' A n xs :=
  ⟨h.ln, fun hn => by
    obtain ⟨b, off, ha, hb, hc⟩ := h.at_ hn
    exact ⟨b, off, ha, Nat.lt_of_lt_of_le hb k.size, fun j u hj => (k.cell (p := ⟨b, off + j, none⟩) hb).trans (hc j u hj)⟩⟩
theorem InI.dn (h : InI w A n xs) (k : Nat) : InI (w.drewN k) A n xs := ⟨h.ln, h.at_⟩
theorem InI.ch {S : List Nat} (h : InI w A n xs) (k : Ch S w w') (hne : ∀ b off, A = some ⟨b, off, none⟩ → b ∉ S) : InI w' A n xs :=
  ⟨h.ln, fun hn => by
    obtain ⟨b, off, ha, hb, hc⟩ := h.at_ hn
    exact ⟨b, off, ha, Nat.lt_of_lt_of_le hb k.size, fun j u hj => (World.cell?_of_block (k.block b hb (hne b off ha))).trans (hc j u hj)⟩⟩
theorem InI.get (h : InI w A n xs) {i : Nat} (hi : i < n) : ∃ b off, A = some ⟨b, off, none⟩ ∧ b < w.heap.size ∧ w.cell? ⟨b, off + i, none⟩ = some (.int .i64 (xs.getD i 0)) := by
  obtain ⟨b, off, ha, hb, hc⟩ := h.at_ (by omega)
  refine ⟨b, off, ha, hb, hc i _ ?_⟩
  have hl : i < xs.length := by have := h.ln; omega
  rw [List.getElem?_eq_getElem hl, List.getD_eq_getElem?_getD, List.getElem?_eq_getElem hl]
  rfl
theorem InI.own {base c : Nat} (h : w.ownsRow base 3 1 (.slice A n c) n (xs.map (Value.int .i64))) : InI w A n xs := by
  refine ⟨by have := h.1; simp at this; omega, fun hn => ?_⟩
  obtain ⟨g, cap, hv, hb, hlt⟩ := h.form hn
  injection hv with hA _ _
  refine ⟨g, 0, hA, hlt, fun j u hj => ?_⟩
  obtain ⟨g', hA', hc, _⟩ := own_at h (k := j) (u := .int .i64 u) (by rw [List.getElem?_map, hj]; rfl)
  rw [hA] at hA'
  injection hA' with hA'
  injection hA' with hA'
  subst hA'
  rw [Nat.zero_add]
  exact hc
theorem InI.row {a : Option Addr} {len cap k : Nat} {zs : List Int} (h : IsRow .i64 w a len cap zs) (hk : k ≤ len) : InI w a k (zs.take k) := by
  rcases h with ⟨rfl, rfl, rfl, rfl⟩ | ⟨x, rfl, hlc, hcm, hzl, hc, _⟩
  · obtain rfl : k = 0 := by omega
    exact ⟨rfl, fun h => absurd h (by omega)⟩
  · refine ⟨by rw [List.length_take]; omega, fun hn => ?_⟩
    have h0 := hc 0 (by omega)
    obtain ⟨b, off, rfl⟩ := spot_none h0
    refine ⟨b, off, rfl, ?_, fun j u hj => ?_⟩
    · have := World.block_lt_of_cell? w _ h0
      simpa [Addr.add] using this
    · rw [List.getElem?_take] at hj
      split at hj
      · have hjl := (List.getElem?_eq_some_iff.1 hj).1
        have := hc j hjl
        rw [List.getD_eq_getElem?_getD, hj, WideShapes.add_plain] at this
        exact this
      · cases hj
end
theorem idxI (b off n c i : Nat) (hi : i < n) (w : World) : (Instr.indexAt 23 (.slice (some ⟨b, off, none⟩) n c) (.int .i64 (i : Int))).run Tryd.prog w = .ok (.pointer (some ⟨b, off + i, none⟩)) w := by
  simp [go_sem, hi]
theorem InI.reads {w : World} {A : Option Addr} {n : Nat} {xs : List Int} (h : InI w A n xs) : Reads w w.heap.size 1 A n (xs.map (Value.int .i64)) := by
  refine ⟨by rw [List.length_map, h.ln]; omega, fun hn => ?_⟩
  obtain ⟨b, off, ha, hb, hc⟩ := h.at_ hn
  refine ⟨⟨b, off, none⟩, ha, hb, fun j u hj => ?_⟩
  rw [List.getElem?_map] at hj
  obtain ⟨z, hz, rfl⟩ := Option.map_eq_some_iff.1 hj
  rw [WideShapes.add_plain]
  exact hc j z hz
theorem InI.inn {w : World} {A : Option Addr} {n : Nat} {xs : List Int} (h : InInts .i64 w A n xs) : InI w A n xs :=
  ⟨h.ln, fun hn => by
    obtain ⟨b, off, ha, hb, hc⟩ := h.at_ hn
    refine ⟨b, off, ha, hb, fun j u hj => ?_⟩
    have hjl := (List.getElem?_eq_some_iff.1 hj).1
    have := hc j (by have := h.ln; omega)
    rw [List.getD_eq_getElem?_getD, hj] at this
    exact this⟩
theorem InI.take {w : World} {A : Option Addr} {n k : Nat} {xs : List Int} (h : InI w A n xs) (hk : k ≤ n) : InI w A k (xs.take k) :=
  ⟨by rw [List.length_take, h.ln]; omega, fun hn => by
    obtain ⟨b, off, ha, hb, hc⟩ := h.at_ (by omega)
    refine ⟨b, off, ha, hb, fun j u hj => ?_⟩
    rw [List.getElem?_take] at hj
    split at hj
    · exact hc j u hj
    · cases hj⟩
theorem cut_ints (a : Option Addr) (len cap n : Nat) (N : Int) (hN : N = (n : Int)) (h : n ≤ cap) (w : World) : (Instr.sliceAt 23 (.slice a len cap) none (some (.int .i64 N)) none).run Tryd.prog w = .ok (.slice a n cap) w := by
  subst hN
  have h2 : (n : Int) ≤ (cap : Int) := by omega
  cases a <;> simp [go_sem, h, h2, Addr.add]
theorem InI.of_blk {w : World} {q : Nat} {xs : List Int} (h : Blk w q 3 (xs.map (Value.int .i64))) : InI w (some ⟨q, 0, none⟩) xs.length xs :=
  ⟨rfl, fun _ => ⟨q, 0, rfl, h.lt, fun j u hj => by
    rw [Nat.zero_add]
    exact h.at_ (by rw [List.getElem?_map, hj]; rfl)⟩⟩
end Go.Proofs.YtbgnaohjcfbaaaaDoor
