/- An argument that is a Topo. -/
import Derived.Test.YtpajbpgpbfmebaaCosts
import Derived.Test.YtpajbpgpbfmebaaInRows
import Derived.Lib.SmallJoins
namespace Go.Proofs.Ytpajbpgpbfmebaa
open Go.ChangeShapes Go.WideShapes Go.RowKit Go.Deep
set_option linter.unusedVariables false
set_option linter.unusedSimpArgs false

theorem InRs.of_in {w : World} {a : Option Addr} {len : Nat} {A : Nat → Option Addr} {L C : Nat → Nat} {Z : Nat → List Int} (h : InRows w a len A L C Z) : InRs w a len ((List.range len).map fun i => ⟨A i, C i, Z i⟩) := by
  refine ⟨by simp, fun hn => ?_⟩
  obtain ⟨b, off, ha, hb, hc⟩ := h.at_ hn
  refine ⟨b, off, ha, hb, fun j r hj => ?_⟩
  rw [List.getElem?_map] at hj
  obtain ⟨i, hi, rfl⟩ := Option.map_eq_some_iff.1 hj
  have hjl : j < len := by
    have := (List.getElem?_eq_some_iff.1 hi).1
    simpa using this
  rw [List.getElem?_range hjl] at hi
  injection hi with hi
  subst hi
  obtain ⟨h1, h2⟩ := hc j hjl
  have hl := h2.ln
  refine ⟨by simp only; rw [hl]; exact h1, ?_, ?_⟩
  · simp only
    rw [hl]
    exact InI.inn h2
  · simp only
    rw [hl]
    exact h2.mx
section
variable {H : Type} {enc : TypeId × Value → H} {W : World} {base : Nat} {held : Bool}
set_option maxRecDepth 100000 in
theorem open_topo {r : Reach} {b0 : Nat} {v : Value} {d : DataW H} {p : List MemPlace} (hv : Value.okWide Try.prog W r b0 42 v) (h : DataW.Trod enc Try.prog W base (fun _ => true) held 42 v d p) :
    ∃ t : TopoV, v = t.val ∧ InTopo W t ∧ t.cs.length ≤ t.cc ∧ t.ds.length ≤ t.dc := by
  obtain ⟨v0, v1, v2, v3, y0, y1, y2, y3, k, rfl, _, _, h0, h1, h2, h3⟩ := Go.Joins.open_agg4 Try.underlying42 (by kernel_rfl) (by kernel_rfl) hv h
  obtain ⟨N, e0, _, _⟩ := DataW.trod_int Try.underlying3 h0
  obtain ⟨F, e1, _, _⟩ := DataW.trod_int Try.underlying3 h1
  simp only [List.cons.injEq, and_true] at e0 e1
  subst e0 e1
  have hc : ∃ a l c, v2 = .slice a l c ∧ l ≤ c := by
    rcases open_ints Try.underlying22 Try.underlying3 (by kernel_rfl) h2 with ⟨hcs, _⟩ | ⟨x, l, c, zs, hcs, _, hl, _⟩
    · exact ⟨none, 0, 0, by simpa using hcs, Nat.le_refl _⟩
    · exact ⟨some x, l, c, by simpa using hcs, hl⟩
  obtain ⟨ca, cl, cc, rfl, hcl⟩ := hc
  obtain ⟨zs, hz⟩ := open_inInts (a := ca) (len := cl) (cap := cc) Try.underlying22 Try.underlying3 (by kernel_rfl) ⟨k, h2⟩
  have hd : ∃ a l c, v3 = .slice a l c ∧ l ≤ c := by
    rcases open_slice1 Try.underlying40 (by kernel_rfl) h3 with ⟨hcs, _⟩ | ⟨x, l, c, m, n, V, D, Pl, hcs, _, hl, _⟩
    · exact ⟨none, 0, 0, by simpa using hcs, Nat.le_refl _⟩
    · exact ⟨some x, l, c, by simpa using hcs, hl⟩
  obtain ⟨da, dl, dc, rfl, hdl⟩ := hd
  obtain ⟨A, L, C, Z, hr⟩ := open_inRows (a := da) (len := dl) (cap := dc) Try.underlying40 Try.underlying22 Try.underlying3 (by kernel_rfl) (by kernel_rfl) ⟨k, h3⟩
  have hrs := InRs.of_in hr
  have hzl := hz.ln
  refine ⟨⟨N, F, ca, cc, zs, da, dc, (List.range dl).map fun i => ⟨A i, C i, Z i⟩⟩, ?_, ⟨?_, ?_, ?_, ?_⟩, ?_, ?_⟩
  · simp [TopoV.val, hzl]
  · show InI W ca zs.length zs
    rw [hzl]
    exact InI.inn hz
  · show InRs W da ((List.range dl).map fun i => (⟨A i, C i, Z i⟩ : RowV)).length _
    rw [List.length_map, List.length_range]
    exact hrs
  · show zs.length ≤ _
    rw [hzl]; exact hz.mx
  · simp; exact hr.mx
  · show zs.length ≤ cc
    omega
  · simp; exact hdl
end
set_option maxRecDepth 100000 in
theorem open_intsC {H : Type} {enc : TypeId × Value → H} {W : World} {base : Nat} {held : Bool} {r : Reach} {b0 : Nat} {v : Value} {d : DataW H} {p : List MemPlace} (hv : Value.okWide Try.prog W r b0 22 v) (h : DataW.Trod enc Try.prog W base (fun _ => true) held 22 v d p) :
    ∃ a len cap zs, v = .slice a len cap ∧ InInts .i64 W a len zs ∧ len ≤ cap := by
  obtain ⟨a, len, cap, rfl⟩ := WideShapes.okWide_slice Try.underlying22 hv
  obtain ⟨zs, hz⟩ := open_inInts (a := a) (len := len) (cap := cap) Try.underlying22 Try.underlying3 (by kernel_rfl) h
  refine ⟨a, len, cap, zs, rfl, hz, ?_⟩
  obtain ⟨fuel, hf⟩ := h
  rcases ChangeShapes.open_ints Try.underlying22 Try.underlying3 (by kernel_rfl) hf with ⟨hcs, _⟩ | ⟨x, l, c, zs, hcs, _, hl, _⟩
  · simp [Value.cells] at hcs
    obtain ⟨rfl, rfl, rfl⟩ := hcs
    omega
  · simp [Value.cells] at hcs
    obtain ⟨rfl, rfl, rfl⟩ := hcs
    exact hl
end Go.Proofs.Ytpajbpgpbfmebaa
