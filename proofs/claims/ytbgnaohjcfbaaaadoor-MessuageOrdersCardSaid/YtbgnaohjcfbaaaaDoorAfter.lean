/- Regions that draw their order and whose calls make memory of their own alone: one walk. -/
import Derived.Test.YtbgnaohjcfbaaaaDoorBase
import Derived.Lib.Hide
namespace Go.Proofs.YtbgnaohjcfbaaaaDoor
open Go.RowKit
set_option linter.unusedVariables false
set_option linter.unusedSimpArgs false

/-- The worlds that hold what w holds, and more. -/
def After (w : World) := {w' : World // Below w.heap.size w w'}
instance (w : World) : Nonempty (After w) := ⟨⟨w, Below.refl _ _⟩⟩
theorem wp_region_after {P : Program} {id : Nat} {Q : Exit → Act → World → Prop} {a : Act} {w : World} {l : List Oper} (hm : P.follows .mixedOrders = true) (hB : Region.lexB .any l.toArray = true)
    (h : wpQuiet P l.toArray (fun w' => ∃ x : After w, w' = x.1) (fun a' => ∀ w', (∃ x : After w, w' = x.1) → Q .normal a' w') l a) : (Code.region id l.toArray true).wp P Q a w :=
  wp_region_quiet (C := fun w' => ∃ x : After w, w' = x.1) hm hB ⟨⟨w.drew, bel_drew (Below.refl _ _)⟩, rfl⟩ (by simpa using h)
theorem after_call {P : Program} {f : FuncId} {args : Array Value} {w : World} {v : Value} (h : ∀ w, Calls P f args w fun e w' => e = .returned v ∧ Below w.heap.size w w') (x : After w) :
    Calls P f args x.1 fun e w'' => e = .returned v ∧ ∃ y : After w, w'' = y.1 :=
  (h x.1).mono fun _ w'' ⟨he, hb⟩ => ⟨he, ⟨w'', bel_trans x.2 hb⟩, rfl⟩
theorem after_cell {w : World} {g i : Nat} {v : Value} (h : w.cell? ⟨g, i, none⟩ = some v) (x : After w) : x.1.cell? ⟨g, i, none⟩ = some v :=
  (x.2.cell (p := ⟨g, i, none⟩) (World.block_lt_of_cell? w _ h)).trans h
theorem bel_after {w0 w : World} (h : Below w0.heap.size w0 w) (x : After w) : Below w0.heap.size w0 x.1 := bel_trans h x.2
end Go.Proofs.YtbgnaohjcfbaaaaDoor
