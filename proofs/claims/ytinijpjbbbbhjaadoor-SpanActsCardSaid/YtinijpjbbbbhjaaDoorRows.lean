/-
  NARROWER THAN 'FOR EVERY INPUT', by the rows' own cells (each row's printed sentence says how): ClassTells: laid · ClassFits: laid · ClassRows: laid · SpanPlaces: laid · SpanFills: laid · SpanActs: laid.
  DERIVED. THE GIVEN ROWS OF THIS SEAT. 6 by the template 'for every input the law returns true; each argument reads behind the call as it read before'; 0 by the template 'total and deterministic' (their statements: YtinijpjbbbbhjaaDoorTotals.lean).
  GIVEN WITH THE SEED: the statements are not yours to turn. If you find one false, say at which input.
  Laid BY PROGRAM, IN A SANDBOX (cutbox-rows.mjs): the forced cells as the released guide's own fill.sh prints them over the translation 683bdc914534f55a… (all of the seat's roots in one cut). By AI agents, Wed Nov 11 2026. No macro, syntax, notation, axiom, sorry.
-/
import Derived.Test.YtinijpjbbbbhjaaDoorChecked
import GoSem.Claim
import GoSem.ClaimJoined
import GoSem.ClaimMapViews
import Derived.JoinedTies
import Derived.KernelRfl
namespace Go.Proofs.YtinijpjbbbbhjaaDoor
/- THE CELL 'sum', in the pinned program and in every row, IS THE sha256 OF THE DUMP (.gsa) THAT YtinijpjbbbbhjaaDoorProg.lean LOADS. Nothing in Lean hashes anything: it is a label: what it is worth is what the hold of that sum in a sandbox is worth. -/
noncomputable def Tryd.pinned : Pinned := { name := "ytinijpjbbbbhjaadoor", sum := "683bdc914534f55ae61b7e546fa6c5131597578e7e2f6863ebce85a84ae0d4af", checked := Tryd.checked }
namespace Rows
def none {H : Type} : Left H := { results := [], args := [] }

/- WHAT THE LISTED PACKAGE-LEVEL VARIABLES READ AS WHEN THE CALL BEGINS. Each datum BY PROGRAM (the guide's laid-datum.mjs) off the statement by which the dump's own 'gosem.cut.vars' lays the variable. In a bare row this is a premise. The card (YtinijpjbbbbhjaaDoorCards.lean) ties it to the program's text. -/
def laid_messuage_class_rows {H : Type} : DataW H := .agg [.agg [.lit (.int .i64 8), .lit (.int .i64 0)], .agg [.lit (.int .i64 16), .lit (.int .i64 0)], .agg [.lit (.int .i64 32), .lit (.int .i64 1)], .agg [.lit (.int .i64 64), .lit (.int .i64 2)]]

/-- 'messuagelaw12.ClassTells': WHATEVER THE INPUT: true; the input reads as it did. -/
def classTellsSpec : ChangeSpec := { name := "classTells", fn := fun _ => fun
  | [d] => { results := [.lit (.bool true)], args := [d] }
  | _ => none }
def classTellsRow : OpenClaim := { program := "ytinijpjbbbbhjaadoor", sum := "683bdc914534f55ae61b7e546fa6c5131597578e7e2f6863ebce85a84ae0d4af", func := "messuage/messuagelaw12.ClassTells", spec := "classTells", named := ["messuage/class.rows"], apart := false, laid := [("messuage/class.rows", laid_messuage_class_rows)] }
def ClassTellsSaid : Prop := classTellsRow.holds Tryd.pinned (OpenSpec.ofChange classTellsSpec)

/-- ITS FALSE NEIGHBOUR: 'it returns false'. Refute it at one input. -/
def classTellsWrong : ChangeSpec := { name := "classTells", fn := fun _ => fun
  | [d] => { results := [.lit (.bool false)], args := [d] }
  | _ => none }
def ClassTellsWrongFalsely : Prop := classTellsRow.holds Tryd.pinned (OpenSpec.ofChange classTellsWrong)

/-- 'messuagelaw12.ClassFits': WHATEVER THE INPUT: true; the input reads as it did. -/
def classFitsSpec : ChangeSpec := { name := "classFits", fn := fun _ => fun
  | [d] => { results := [.lit (.bool true)], args := [d] }
  | _ => none }
def classFitsRow : OpenClaim := { program := "ytinijpjbbbbhjaadoor", sum := "683bdc914534f55ae61b7e546fa6c5131597578e7e2f6863ebce85a84ae0d4af", func := "messuage/messuagelaw12.ClassFits", spec := "classFits", named := ["messuage/class.rows"], apart := false, laid := [("messuage/class.rows", laid_messuage_class_rows)] }
def ClassFitsSaid : Prop := classFitsRow.holds Tryd.pinned (OpenSpec.ofChange classFitsSpec)

/-- ITS FALSE NEIGHBOUR: 'it returns false'. Refute it at one input. -/
def classFitsWrong : ChangeSpec := { name := "classFits", fn := fun _ => fun
  | [d] => { results := [.lit (.bool false)], args := [d] }
  | _ => none }
def ClassFitsWrongFalsely : Prop := classFitsRow.holds Tryd.pinned (OpenSpec.ofChange classFitsWrong)

/-- 'messuagelaw12.ClassRows': WHATEVER THE INPUT: true; the input reads as it did. -/
def classRowsSpec : ChangeSpec := { name := "classRows", fn := fun _ => fun
  | [d] => { results := [.lit (.bool true)], args := [d] }
  | _ => none }
def classRowsRow : OpenClaim := { program := "ytinijpjbbbbhjaadoor", sum := "683bdc914534f55ae61b7e546fa6c5131597578e7e2f6863ebce85a84ae0d4af", func := "messuage/messuagelaw12.ClassRows", spec := "classRows", named := ["messuage/class.rows"], apart := false, laid := [("messuage/class.rows", laid_messuage_class_rows)] }
def ClassRowsSaid : Prop := classRowsRow.holds Tryd.pinned (OpenSpec.ofChange classRowsSpec)

/-- ITS FALSE NEIGHBOUR: 'it returns false'. Refute it at one input. -/
def classRowsWrong : ChangeSpec := { name := "classRows", fn := fun _ => fun
  | [d] => { results := [.lit (.bool false)], args := [d] }
  | _ => none }
def ClassRowsWrongFalsely : Prop := classRowsRow.holds Tryd.pinned (OpenSpec.ofChange classRowsWrong)

/-- 'messuagelaw13.SpanPlaces': WHATEVER THE INPUT: true; the input reads as it did. -/
def spanPlacesSpec : ChangeSpec := { name := "spanPlaces", fn := fun _ => fun
  | [d] => { results := [.lit (.bool true)], args := [d] }
  | _ => none }
def spanPlacesRow : OpenClaim := { program := "ytinijpjbbbbhjaadoor", sum := "683bdc914534f55ae61b7e546fa6c5131597578e7e2f6863ebce85a84ae0d4af", func := "messuage/messuagelaw13.SpanPlaces", spec := "spanPlaces", named := ["messuage/class.rows"], apart := false, laid := [("messuage/class.rows", laid_messuage_class_rows)] }
def SpanPlacesSaid : Prop := spanPlacesRow.holds Tryd.pinned (OpenSpec.ofChange spanPlacesSpec)

/-- ITS FALSE NEIGHBOUR: 'it returns false'. Refute it at one input. -/
def spanPlacesWrong : ChangeSpec := { name := "spanPlaces", fn := fun _ => fun
  | [d] => { results := [.lit (.bool false)], args := [d] }
  | _ => none }
def SpanPlacesWrongFalsely : Prop := spanPlacesRow.holds Tryd.pinned (OpenSpec.ofChange spanPlacesWrong)

/-- 'messuagelaw13.SpanFills': WHATEVER THE INPUT: true; the input reads as it did. -/
def spanFillsSpec : ChangeSpec := { name := "spanFills", fn := fun _ => fun
  | [d1, d2] => { results := [.lit (.bool true)], args := [d1, d2] }
  | _ => none }
def spanFillsRow : OpenClaim := { program := "ytinijpjbbbbhjaadoor", sum := "683bdc914534f55ae61b7e546fa6c5131597578e7e2f6863ebce85a84ae0d4af", func := "messuage/messuagelaw13.SpanFills", spec := "spanFills", named := ["messuage/class.rows"], apart := false, laid := [("messuage/class.rows", laid_messuage_class_rows)] }
def SpanFillsSaid : Prop := spanFillsRow.holds Tryd.pinned (OpenSpec.ofChange spanFillsSpec)

/-- ITS FALSE NEIGHBOUR: 'it returns false'. Refute it at one input. -/
def spanFillsWrong : ChangeSpec := { name := "spanFills", fn := fun _ => fun
  | [d1, d2] => { results := [.lit (.bool false)], args := [d1, d2] }
  | _ => none }
def SpanFillsWrongFalsely : Prop := spanFillsRow.holds Tryd.pinned (OpenSpec.ofChange spanFillsWrong)

/-- 'messuagelaw13.SpanActs': WHATEVER THE INPUT: true; the input reads as it did. -/
def spanActsSpec : ChangeSpec := { name := "spanActs", fn := fun _ => fun
  | [d1, d2, d3] => { results := [.lit (.bool true)], args := [d1, d2, d3] }
  | _ => none }
def spanActsRow : OpenClaim := { program := "ytinijpjbbbbhjaadoor", sum := "683bdc914534f55ae61b7e546fa6c5131597578e7e2f6863ebce85a84ae0d4af", func := "messuage/messuagelaw13.SpanActs", spec := "spanActs", named := ["messuage/class.rows"], apart := false, laid := [("messuage/class.rows", laid_messuage_class_rows)] }
def SpanActsSaid : Prop := spanActsRow.holds Tryd.pinned (OpenSpec.ofChange spanActsSpec)

/-- ITS FALSE NEIGHBOUR: 'it returns false'. Refute it at one input. -/
def spanActsWrong : ChangeSpec := { name := "spanActs", fn := fun _ => fun
  | [d1, d2, d3] => { results := [.lit (.bool false)], args := [d1, d2, d3] }
  | _ => none }
def SpanActsWrongFalsely : Prop := spanActsRow.holds Tryd.pinned (OpenSpec.ofChange spanActsWrong)

/- THE SECOND FORM. 'bulk': how many values and letters a reading holds, each counted each time it is reached (what is shared counts as often as it is met; a slice's spare places count too). A statement '..UptoSaid' is the law's where the arguments, and the package variables that the reading takes, are together of bulk at most 1048576: NARROWER than '..Said'. Prove '..Said' where nothing that the law and all that it calls make is longer than what came in: it says more and counts as full. Else prove '..UptoSaid'. A law counts once. -/
mutual
def uptoBulk {H : Type} : DataW H → Nat
  | .lit (.string bytes) => bytes.length + 1
  | .lit _ => 1
  | .nil => 1
  | .ptr d => uptoBulk d + 1
  | .slice elems spare => uptoBulkAll elems + uptoBulkAll spare + 1
  | .agg parts => uptoBulkAll parts + 1
  | .iface _ d => uptoBulk d + 1
  | .map entries => uptoBulkEntries entries + 1
  | .held _ => 1
def uptoBulkAll {H : Type} : List (DataW H) → Nat
  | [] => 0
  | d :: r => uptoBulk d + uptoBulkAll r
def uptoBulkEntries {H : Type} : List (Lit × DataW H) → Nat
  | [] => 0
  | x :: r => uptoBulkEntry x + uptoBulkEntries r
def uptoBulkEntry {H : Type} : Lit × DataW H → Nat
  | (.string bytes, d) => bytes.length + uptoBulk d + 1
  | (_, d) => uptoBulk d + 1
 end
def uptoSmall : (H : Type) → List (DataW H) → Bool := fun _ ds => decide (uptoBulkAll ds ≤ 1048576)
def OpenSpec.upto (s : _root_.Go.ChangeSpec) : _root_.Go.OpenSpec := { _root_.Go.OpenSpec.ofChange s with cond := some uptoSmall }

/-- 'messuagelaw12.ClassTells', WHERE WHAT IT READS IS OF BULK AT MOST 1048576: true; the input reads as it did. -/
def classTellsUptoRow : OpenClaim := { program := "ytinijpjbbbbhjaadoor", sum := "683bdc914534f55ae61b7e546fa6c5131597578e7e2f6863ebce85a84ae0d4af", func := "messuage/messuagelaw12.ClassTells", spec := "classTells", named := ["messuage/class.rows"], apart := false, laid := [("messuage/class.rows", laid_messuage_class_rows)], narrowed := true }
def ClassTellsUptoSaid : Prop := classTellsUptoRow.holds Tryd.pinned (OpenSpec.upto classTellsSpec)

/-- 'messuagelaw12.ClassFits', WHERE WHAT IT READS IS OF BULK AT MOST 1048576: true; the input reads as it did. -/
def classFitsUptoRow : OpenClaim := { program := "ytinijpjbbbbhjaadoor", sum := "683bdc914534f55ae61b7e546fa6c5131597578e7e2f6863ebce85a84ae0d4af", func := "messuage/messuagelaw12.ClassFits", spec := "classFits", named := ["messuage/class.rows"], apart := false, laid := [("messuage/class.rows", laid_messuage_class_rows)], narrowed := true }
def ClassFitsUptoSaid : Prop := classFitsUptoRow.holds Tryd.pinned (OpenSpec.upto classFitsSpec)

/-- 'messuagelaw12.ClassRows', WHERE WHAT IT READS IS OF BULK AT MOST 1048576: true; the input reads as it did. -/
def classRowsUptoRow : OpenClaim := { program := "ytinijpjbbbbhjaadoor", sum := "683bdc914534f55ae61b7e546fa6c5131597578e7e2f6863ebce85a84ae0d4af", func := "messuage/messuagelaw12.ClassRows", spec := "classRows", named := ["messuage/class.rows"], apart := false, laid := [("messuage/class.rows", laid_messuage_class_rows)], narrowed := true }
def ClassRowsUptoSaid : Prop := classRowsUptoRow.holds Tryd.pinned (OpenSpec.upto classRowsSpec)

/-- 'messuagelaw13.SpanPlaces', WHERE WHAT IT READS IS OF BULK AT MOST 1048576: true; the input reads as it did. -/
def spanPlacesUptoRow : OpenClaim := { program := "ytinijpjbbbbhjaadoor", sum := "683bdc914534f55ae61b7e546fa6c5131597578e7e2f6863ebce85a84ae0d4af", func := "messuage/messuagelaw13.SpanPlaces", spec := "spanPlaces", named := ["messuage/class.rows"], apart := false, laid := [("messuage/class.rows", laid_messuage_class_rows)], narrowed := true }
def SpanPlacesUptoSaid : Prop := spanPlacesUptoRow.holds Tryd.pinned (OpenSpec.upto spanPlacesSpec)

/-- 'messuagelaw13.SpanFills', WHERE WHAT IT READS IS OF BULK AT MOST 1048576: true; the input reads as it did. -/
def spanFillsUptoRow : OpenClaim := { program := "ytinijpjbbbbhjaadoor", sum := "683bdc914534f55ae61b7e546fa6c5131597578e7e2f6863ebce85a84ae0d4af", func := "messuage/messuagelaw13.SpanFills", spec := "spanFills", named := ["messuage/class.rows"], apart := false, laid := [("messuage/class.rows", laid_messuage_class_rows)], narrowed := true }
def SpanFillsUptoSaid : Prop := spanFillsUptoRow.holds Tryd.pinned (OpenSpec.upto spanFillsSpec)

/-- 'messuagelaw13.SpanActs', WHERE WHAT IT READS IS OF BULK AT MOST 1048576: true; the input reads as it did. -/
def spanActsUptoRow : OpenClaim := { program := "ytinijpjbbbbhjaadoor", sum := "683bdc914534f55ae61b7e546fa6c5131597578e7e2f6863ebce85a84ae0d4af", func := "messuage/messuagelaw13.SpanActs", spec := "spanActs", named := ["messuage/class.rows"], apart := false, laid := [("messuage/class.rows", laid_messuage_class_rows)], narrowed := true }
def SpanActsUptoSaid : Prop := spanActsUptoRow.holds Tryd.pinned (OpenSpec.upto spanActsSpec)

end Rows
end Go.Proofs.YtinijpjbbbbhjaaDoor
