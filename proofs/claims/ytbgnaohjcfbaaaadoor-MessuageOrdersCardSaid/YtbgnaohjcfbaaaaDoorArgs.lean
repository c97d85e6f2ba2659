/- Arguments that are slices: what a law's walk gets of them. -/
import Derived.Test.YtbgnaohjcfbaaaaDoorBase
import Derived.ProofKit
import Derived.OpenShut
import Derived.SliceStrings
import Derived.SizedLaws
import Derived.ChangeSlices
namespace Go.Proofs.YtbgnaohjcfbaaaaDoor
open Go.ChangeShapes Go.WideShapes Go.RowKit
set_option linter.unusedVariables false
set_option linter.unusedSimpArgs false

/-- A slice of whole numbers that came in. -/
structure InInts (k : IntKind) (w : World) (a : Option Addr) (len : Nat) (zs : List Int) : Prop where
  ln : zs.length = len
  mx : len ≤ 9223372036854775807
  at_ : 0 < len → ∃ b off, a = some ⟨b, off, none⟩ ∧ b < w.heap.size ∧ ∀ i, i < len → w.cell? ⟨b, off + i, none⟩ = some (.int k (zs.getD i 0))
  wf : ∀ z ∈ zs, (Lit.int k z).wf = true
/-- A slice of texts that came in. -/
structure InStrs (w : World) (a : Option Addr) (len : Nat) (ss : List ByteArray) : Prop where
  ln : ss.length = len
  mx : len ≤ 9223372036854775807
  at_ : 0 < len → ∃ b off, a = some ⟨b, off, none⟩ ∧ b < w.heap.size ∧ ∀ i, i < len → w.cell? ⟨b, off + i, none⟩ = some (.string (ss.getD i ByteArray.empty))
section
variable {H : Type} {enc : TypeId × Value → H} {P : Program} {W : World} {base : Nat} {held : Bool}
theorem spot_none {w : World} {a : Addr} {v : Value} (h : w.cell? (a.add 0) = some v) : ∃ b off, a = ⟨b, off, none⟩ := by
  obtain ⟨b, off, spot⟩ := a
  have hspot : spot = none := by simpa [Addr.add] using World.cell?_spot h
  subst hspot
  exact ⟨b, off, rfl⟩
theorem open_inInts {t e : TypeId} {k : IntKind} {a : Option Addr} {len cap : Nat} {d : DataW H} {ps : List MemPlace} (hu : P.underlying t = some (.slice e)) (he : P.underlying e = some (.int k)) (hc : P.cellsOf e = 1)
    (h : DataW.Trod enc P W base (fun _ => true) held t (.slice a len cap) d ps) : ∃ zs, InInts k W a len zs := by
  obtain ⟨fuel, hf⟩ := h
  rcases open_ints hu he hc hf with ⟨hcs, _⟩ | ⟨x, l, c, zs, hcs, _, hl, hm, hz, _, hcell, hwz⟩
  · simp [Value.cells] at hcs
    obtain ⟨rfl, rfl, rfl⟩ := hcs
    exact ⟨[], rfl, by omega, fun h => absurd h (by omega), by simp⟩
  · simp [Value.cells] at hcs
    obtain ⟨rfl, rfl, rfl⟩ := hcs
    simp at hz
    refine ⟨zs.take len, by simp; omega, by unfold maxLen at hm; omega, fun hp => ?_, fun z hz' => hwz z (List.mem_of_mem_take hz')⟩
    obtain ⟨b, off, rfl⟩ := spot_none (hcell 0 (by omega))
    refine ⟨b, off, rfl, World.block_lt_of_cell? W _ (hcell 0 (by omega)) |> (by simpa [Addr.add] using ·), fun i hi => ?_⟩
    have := hcell i (by omega)
    rw [Go.WideShapes.add_plain] at this
    rw [this]
    simp [List.getD_eq_getElem?_getD, List.getElem?_take, hi]
theorem open_inStrs {t e : TypeId} {a : Option Addr} {len cap : Nat} {d : DataW H} {ps : List MemPlace} (hu : P.underlying t = some (.slice e)) (he : P.underlying e = some .string) (hc : P.cellsOf e = 1)
    (h : DataW.Trod enc P W base (fun _ => true) held t (.slice a len cap) d ps) : ∃ ss, InStrs W a len ss := by
  obtain ⟨fuel, hf⟩ := h
  rcases open_strings hu he hc hf with ⟨hcs, _⟩ | ⟨x, l, c, ss, hcs, _, hl, hm, hz, _, hcell, hws⟩
  · simp [Value.cells] at hcs
    obtain ⟨rfl, rfl, rfl⟩ := hcs
    exact ⟨[], rfl, by omega, fun h => absurd h (by omega)⟩
  · simp [Value.cells] at hcs
    obtain ⟨rfl, rfl, rfl⟩ := hcs
    simp at hz
    refine ⟨ss.take len, by simp; omega, by unfold maxLen at hm; omega, fun hp => ?_⟩
    obtain ⟨b, off, rfl⟩ := spot_none (hcell 0 (by omega))
    refine ⟨b, off, rfl, World.block_lt_of_cell? W _ (hcell 0 (by omega)) |> (by simpa [Addr.add] using ·), fun i hi => ?_⟩
    have := hcell i (by omega)
    rw [Go.WideShapes.add_plain] at this
    rw [this]
    simp [List.getD_eq_getElem?_getD, List.getElem?_take, hi]
/-- A slice weighs what its elements weigh. -/
theorem sized_inInts {t e : TypeId} {k : IntKind} {a : Option Addr} {len cap : Nat} {d : DataW H} {ps : List MemPlace} {ts : List TypeId} {ds : List (DataW H)} {j : Nat} (B : Nat)
    (hsz : (DataW.weightsEach P ts ds).all (· ≤ reachBytes) = true) (ht : ts[j]? = some t) (hd : ds[j]? = some d) (hu : P.underlying t = some (.slice e)) (he : P.underlying e = some (.int k)) (hc : P.cellsOf e = 1) (hB : P.bytesOf e = B)
    (h : DataW.Trod enc P W base (fun _ => true) held t (.slice a len cap) d ps) : len * B ≤ 140737488351232 := by
  obtain ⟨fuel, hf⟩ := h
  rcases open_ints hu he hc hf with ⟨hcs, _⟩ | ⟨x, l, c, zs, hcs, _, hl, _, hz, hx, _, _⟩
  · simp [Value.cells] at hcs
    obtain ⟨rfl, rfl, rfl⟩ := hcs
    simp
  · simp [Value.cells] at hcs
    obtain ⟨rfl, rfl, rfl⟩ := hcs
    obtain ⟨hx, _⟩ := Prod.mk.inj hx
    subst hx
    have z := sized_slice hsz ht hd hu
    rw [hB] at z
    simp at hz
    have h1 : (lits (H := H) k (zs.take len)).length + (lits (H := H) k (zs.drop len)).length = zs.length := by
      simp [lits]
      omega
    rw [h1] at z
    exact Nat.le_trans (Nat.mul_le_mul_right _ (by omega)) z
end
theorem idx_int {A : Option Addr} {b off len cap i : Nat} (ha : A = some ⟨b, off, none⟩) (hi : i < len) (w : World) : (Instr.indexAt 23 (.slice A len cap) (.int .i64 (i : Int))).run Tryd.prog w = .ok (.pointer (some ⟨b, off + i, none⟩)) w := by
  subst ha
  simp [go_sem, hi]
theorem idx_str {A : Option Addr} {b off len cap i : Nat} (ha : A = some ⟨b, off, none⟩) (hi : i < len) (w : World) : (Instr.indexAt 78 (.slice A len cap) (.int .i64 (i : Int))).run Tryd.prog w = .ok (.pointer (some ⟨b, off + i, none⟩)) w := by
  subst ha
  simp [go_sem, hi]
theorem idx_byte {A : Option Addr} {b off len cap i : Nat} (ha : A = some ⟨b, off, none⟩) (hi : i < len) (w : World) : (Instr.indexAt 34 (.slice A len cap) (.int .i64 (i : Int))).run Tryd.prog w = .ok (.pointer (some ⟨b, off + i, none⟩)) w := by
  subst ha
  simp [go_sem, hi]
end Go.Proofs.YtbgnaohjcfbaaaaDoor
