/- An argument that is a Topo, with the rows' capacities. -/
import Derived.Test.YtcanhegjhbhkhaaDoorTopoTo
import Derived.Deep.Slices
import Derived.Lib.SmallJoins
namespace Go.Proofs.YtcanhegjhbhkhaaDoor
open Go.ChangeShapes Go.WideShapes Go.RowKit Go.Deep
set_option linter.unusedVariables false
set_option linter.unusedSimpArgs false

/-- Rows of ints that came in, with their capacities. -/
structure InRowsC (w : World) (a : Option Addr) (len : Nat) (A : Nat → Option Addr) (L C : Nat → Nat) (Z : Nat → List Int) : Prop where
  mx : len ≤ 9223372036854775807
  at_ : 0 < len → ∃ b off, a = some ⟨b, off, none⟩ ∧ b < w.heap.size ∧ ∀ i, i < len → w.cell? ⟨b, off + i, none⟩ = some (.slice (A i) (L i) (C i)) ∧ InInts .i64 w (A i) (L i) (Z i) ∧ L i ≤ C i
theorem open_inRowsC {H : Type} {enc : TypeId × Value → H} {P : Program} {W : World} {base : Nat} {held : Bool} {t e f : TypeId} {a : Option Addr} {len cap : Nat} {d : DataW H} {ps : List MemPlace} (hu : P.underlying t = some (.slice e)) (he : P.underlying e = some (.slice f)) (hf : P.underlying f = some (.int .i64)) (hc : P.cellsOf e = 1) (hcf : P.cellsOf f = 1)
    (h : DataW.Trod enc P W base (fun _ => true) held t (.slice a len cap) d ps) : ∃ A L C Z, InRowsC W a len A L C Z := by
  obtain ⟨fuel, hh⟩ := h
  rcases open_slice1 hu hc hh with ⟨hcs, _⟩ | ⟨x, l, c, m, n, V, D, Pl, hcs, _, hl, hm, hmm, _, hi⟩
  · simp [Value.cells] at hcs
    obtain ⟨rfl, rfl, rfl⟩ := hcs
    exact ⟨fun _ => none, fun _ => 0, fun _ => 0, fun _ => [], by omega, fun h => absurd h (by omega)⟩
  · simp [Value.cells] at hcs
    obtain ⟨rfl, rfl, rfl⟩ := hcs
    simp at hmm
    subst hmm
    have key : ∀ i : Nat, ∃ y : Option Addr × Nat × Nat × List Int, i < len → V i = .slice y.1 y.2.1 y.2.2.1 ∧ InInts .i64 W y.1 y.2.1 y.2.2.2 ∧ y.2.1 ≤ y.2.2.1 := by
      intro i
      by_cases hil : i < len
      · obtain ⟨_, ht⟩ := hi i (by omega)
        have hshape : ∃ A l c, V i = .slice A l c ∧ l ≤ c := by
          rcases open_ints he hf hcf ht with ⟨hcs, _⟩ | ⟨x, l, c, zs, hcs, _, hl, _⟩
          · exact ⟨none, 0, 0, by simpa using hcs, Nat.le_refl _⟩
          · exact ⟨some x, l, c, by simpa using hcs, by omega⟩
        obtain ⟨A, l, c, hV, hlc⟩ := hshape
        rw [hV] at ht
        obtain ⟨zs, hz⟩ := open_inInts (a := A) (len := l) (cap := c) he hf hcf ⟨n, ht⟩
        exact ⟨(A, l, c, zs), fun _ => ⟨hV, hz, hlc⟩⟩
      · exact ⟨(none, 0, 0, []), fun h => absurd h hil⟩
    obtain ⟨F, hF⟩ := Classical.axiomOfChoice key
    refine ⟨fun i => (F i).1, fun i => (F i).2.1, fun i => (F i).2.2.1, fun i => (F i).2.2.2, by unfold maxLen at hm; omega, fun hp => ?_⟩
    obtain ⟨b, off, rfl⟩ := spot_none (hi 0 (by omega)).1
    refine ⟨b, off, rfl, World.block_lt_of_cell? W _ (hi 0 (by omega)).1 |> (by simpa [Addr.add] using ·), fun i hil => ?_⟩
    have h1 := (hi i (by omega)).1
    rw [Go.WideShapes.add_plain] at h1
    obtain ⟨h2, h3, h4⟩ := hF i hil
    exact ⟨by rw [h1, h2], h3, h4⟩
theorem InRs.of_inC {w : World} {a : Option Addr} {len : Nat} {A : Nat → Option Addr} {L C : Nat → Nat} {Z : Nat → List Int} (h : InRowsC w a len A L C Z) : InRs w a len ((List.range len).map fun i => ⟨A i, C i, Z i⟩) := by
  refine ⟨by simp, fun hn => ?_⟩
  obtain ⟨b, off, ha, hb, hc⟩ := h.at_ hn
  refine ⟨b, off, ha, hb, fun j r hj => ?_⟩
  rw [List.getElem?_map] at hj
  obtain ⟨i, hi, rfl⟩ := Option.map_eq_some_iff.1 hj
  have hjl : j < len := by
    have := (List.getElem?_eq_some_iff.1 hi).1
    simpa using this
  rw [List.getElem?_range hjl] at hi
  injection hi with hi
  subst hi
  obtain ⟨h1, h2, _⟩ := hc j hjl
  have hl := h2.ln
  refine ⟨by simp only; rw [hl]; exact h1, ?_, ?_⟩
  · simp only
    rw [hl]
    exact InI.inn h2
  · simp only
    rw [hl]
    exact h2.mx
section
variable {H : Type} {enc : TypeId × Value → H} {W : World} {base : Nat} {held : Bool}
set_option maxRecDepth 100000 in
theorem open_topoC {r : Reach} {b0 : Nat} {v : Value} {d : DataW H} {p : List MemPlace} (hv : Value.okWide Tryd.prog W r b0 48 v) (h : DataW.Trod enc Tryd.prog W base (fun _ => true) held 48 v d p) :
    ∃ t : TopoV, v = t.val ∧ InTopo W t ∧ t.cs.length ≤ t.cc ∧ t.ds.length ≤ t.dc ∧ RowCap t.ds := by
  obtain ⟨v0, v1, v2, v3, y0, y1, y2, y3, k, rfl, _, _, h0, h1, h2, h3⟩ := Go.Joins.open_agg4 Tryd.underlying48 (by kernel_rfl) (by kernel_rfl) hv h
  obtain ⟨N, e0, _, _⟩ := DataW.trod_int Tryd.underlying3 h0
  obtain ⟨F, e1, _, _⟩ := DataW.trod_int Tryd.underlying3 h1
  simp only [List.cons.injEq, and_true] at e0 e1
  subst e0 e1
  have hc : ∃ a l c, v2 = .slice a l c ∧ l ≤ c := by
    rcases open_ints Tryd.underlying23 Tryd.underlying3 (by kernel_rfl) h2 with ⟨hcs, _⟩ | ⟨x, l, c, zs, hcs, _, hl, _⟩
    · exact ⟨none, 0, 0, by simpa using hcs, Nat.le_refl _⟩
    · exact ⟨some x, l, c, by simpa using hcs, hl⟩
  obtain ⟨ca, cl, cc, rfl, hcl⟩ := hc
  obtain ⟨zs, hz⟩ := open_inInts (a := ca) (len := cl) (cap := cc) Tryd.underlying23 Tryd.underlying3 (by kernel_rfl) ⟨k, h2⟩
  have hd : ∃ a l c, v3 = .slice a l c ∧ l ≤ c := by
    rcases open_slice1 Tryd.underlying46 (by kernel_rfl) h3 with ⟨hcs, _⟩ | ⟨x, l, c, m, n, V, D, Pl, hcs, _, hl, _⟩
    · exact ⟨none, 0, 0, by simpa using hcs, Nat.le_refl _⟩
    · exact ⟨some x, l, c, by simpa using hcs, hl⟩
  obtain ⟨da, dl, dc, rfl, hdl⟩ := hd
  obtain ⟨A, L, C, Z, hr⟩ := open_inRowsC (a := da) (len := dl) (cap := dc) Tryd.underlying46 Tryd.underlying23 Tryd.underlying3 (by kernel_rfl) (by kernel_rfl) ⟨k, h3⟩
  have hrs := InRs.of_inC hr
  have hzl := hz.ln
  refine ⟨⟨N, F, ca, cc, zs, da, dc, (List.range dl).map fun i => ⟨A i, C i, Z i⟩⟩, ?_, ⟨?_, ?_, ?_, ?_⟩, ?_, ?_, ?_⟩
  · simp [TopoV.val, hzl]
  · show InI W ca zs.length zs
    rw [hzl]
    exact InI.inn hz
  · show InRs W da ((List.range dl).map fun i => (⟨A i, C i, Z i⟩ : RowV)).length _
    rw [List.length_map, List.length_range]
    exact hrs
  · show zs.length ≤ _
    rw [hzl]; exact hz.mx
  · simp; exact hr.mx
  · show zs.length ≤ cc
    omega
  · simp; exact hdl
  · intro r hrm
    obtain ⟨i, hi, rfl⟩ := List.mem_map.1 hrm
    have hil := List.mem_range.1 hi
    obtain ⟨b, off, _, _, hcx⟩ := hr.at_ (by omega)
    obtain ⟨_, h2, h3⟩ := hcx i hil
    have := h2.ln
    simp only
    omega
end
set_option maxRecDepth 100000 in
theorem open_two {H : Type} {enc : TypeId × Value → H} {W : World} {base : Nat} {held : Bool} {r : Reach} {b0 : Nat} {v : Value} {d : DataW H} {p : List MemPlace} (hv : Value.okWide Tryd.prog W r b0 57 v) (h : DataW.Trod enc Tryd.prog W base (fun _ => true) held 57 v d p) :
    ∃ (a b : Int), v = .agg #[.int .i64 a, .int .i64 b] := by
  obtain ⟨a, b, rfl, _⟩ := WideMaps.open_pair (e := 3) (q := .i64) ⟨Tryd.underlying57, by kernel_rfl, by kernel_rfl, by kernel_rfl⟩ Tryd.underlying3 hv h
  exact ⟨a, b, rfl⟩
end Go.Proofs.YtcanhegjhbhkhaaDoor
