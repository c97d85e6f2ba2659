/- An argument that is a slice of rows of ints. -/
import Derived.Test.YtpajbpgpbfmebaaArgs
import Derived.Deep.Slices
namespace Go.Proofs.Ytpajbpgpbfmebaa
open Go.ChangeShapes Go.WideShapes Go.RowKit Go.Deep
set_option linter.unusedVariables false
set_option linter.unusedSimpArgs false

/-- Rows of ints that came in: row i lies at A i, is L i long (of C i), and holds Z i. -/
structure InRows (w : World) (a : Option Addr) (len : Nat) (A : Nat → Option Addr) (L C : Nat → Nat) (Z : Nat → List Int) : Prop where
  mx : len ≤ 9223372036854775807
  at_ : 0 < len → ∃ b off, a = some ⟨b, off, none⟩ ∧ b < w.heap.size ∧ ∀ i, i < len → w.cell? ⟨b, off + i, none⟩ = some (.slice (A i) (L i) (C i)) ∧ InInts .i64 w (A i) (L i) (Z i)
section
variable {H : Type} {enc : TypeId × Value → H} {P : Program} {W : World} {base : Nat} {held : Bool}
theorem open_inRows {t e f : TypeId} {a : Option Addr} {len cap : Nat} {d : DataW H} {ps : List MemPlace} (hu : P.underlying t = some (.slice e)) (he : P.underlying e = some (.slice f)) (hf : P.underlying f = some (.int .i64)) (hc : P.cellsOf e = 1) (hcf : P.cellsOf f = 1)
    (h : DataW.Trod enc P W base (fun _ => true) held t (.slice a len cap) d ps) : ∃ A L C Z, InRows W a len A L C Z := by
  obtain ⟨fuel, hh⟩ := h
  rcases open_slice1 hu hc hh with ⟨hcs, _⟩ | ⟨x, l, c, m, n, V, D, Pl, hcs, _, hl, hm, hmm, _, hi⟩
  · simp [Value.cells] at hcs
    obtain ⟨rfl, rfl, rfl⟩ := hcs
    exact ⟨fun _ => none, fun _ => 0, fun _ => 0, fun _ => [], by omega, fun h => absurd h (by omega)⟩
  · simp [Value.cells] at hcs
    obtain ⟨rfl, rfl, rfl⟩ := hcs
    simp at hmm
    subst hmm
    have key : ∀ i : Nat, ∃ y : Option Addr × Nat × Nat × List Int, i < len → V i = .slice y.1 y.2.1 y.2.2.1 ∧ InInts .i64 W y.1 y.2.1 y.2.2.2 := by
      intro i
      by_cases hil : i < len
      · obtain ⟨_, ht⟩ := hi i (by omega)
        have hshape : ∃ A l c, V i = .slice A l c := by
          rcases open_ints he hf hcf ht with ⟨hcs, _⟩ | ⟨x, l, c, zs, hcs, _⟩
          · exact ⟨none, 0, 0, by simpa using hcs⟩
          · exact ⟨some x, l, c, by simpa using hcs⟩
        obtain ⟨A, l, c, hV⟩ := hshape
        rw [hV] at ht
        obtain ⟨zs, hz⟩ := open_inInts (a := A) (len := l) (cap := c) he hf hcf ⟨n, ht⟩
        exact ⟨(A, l, c, zs), fun _ => ⟨hV, hz⟩⟩
      · exact ⟨(none, 0, 0, []), fun h => absurd h hil⟩
    obtain ⟨F, hF⟩ := Classical.axiomOfChoice key
    refine ⟨fun i => (F i).1, fun i => (F i).2.1, fun i => (F i).2.2.1, fun i => (F i).2.2.2, by unfold maxLen at hm; omega, fun hp => ?_⟩
    obtain ⟨b, off, rfl⟩ := spot_none (hi 0 (by omega)).1
    refine ⟨b, off, rfl, World.block_lt_of_cell? W _ (hi 0 (by omega)).1 |> (by simpa [Addr.add] using ·), fun i hil => ?_⟩
    have h1 := (hi i (by omega)).1
    rw [Go.WideShapes.add_plain] at h1
    obtain ⟨h2, h3⟩ := hF i hil
    exact ⟨by rw [h1, h2], h3⟩
end
end Go.Proofs.Ytpajbpgpbfmebaa
