/-
  No cell of these rows narrows 'for every input' (looked for: loops, veiled, ifaces, maps, wideKeys, modest, calm, conditions, laid).
  DERIVED. THE GIVEN ROWS OF THIS SEAT. 10 by the template 'for every input the law returns true; each argument reads behind the call as it read before'; 0 by the template 'total and deterministic' (their statements: YtkjhodaglanpmaaTotals.lean).
  GIVEN WITH THE SEED: the statements are not yours to turn. If you find one false, say at which input.
  Laid BY PROGRAM, IN A SANDBOX (cutbox-rows.mjs): the forced cells as the released guide's own fill.sh prints them over the translation c23afa467ef2fe4c… (all of the seat's roots in one cut). By AI agents, Wed Nov 11 2026. No macro, syntax, notation, axiom, sorry.
-/
import Derived.Test.YtkjhodaglanpmaaChecked
import GoSem.Claim
import GoSem.ClaimJoined
import GoSem.ClaimMapViews
import Derived.JoinedTies
import Derived.KernelRfl
namespace Go.Proofs.Ytkjhodaglanpmaa
/- THE CELL 'sum', in the pinned program and in every row, IS THE sha256 OF THE DUMP (.gsa) THAT YtkjhodaglanpmaaProg.lean LOADS. Nothing in Lean hashes anything: it is a label: what it is worth is what the hold of that sum in a sandbox is worth. -/
noncomputable def Try.pinned : Pinned := { name := "ytkjhodaglanpmaa", sum := "c23afa467ef2fe4cc4c98111ada28373650e16cdd59d72ee9b9b7fb58433d061", checked := Try.checked }
namespace Rows
def none {H : Type} : Left H := { results := [], args := [] }

/-- 'messuagelaw02.GridTexts': WHATEVER THE INPUT: true; the input reads as it did. -/
def gridTextsSpec : ChangeSpec := { name := "gridTexts", fn := fun _ => fun
  | [d1, d2, d3] => { results := [.lit (.bool true)], args := [d1, d2, d3] }
  | _ => none }
def gridTextsRow : OpenClaim := { program := "ytkjhodaglanpmaa", sum := "c23afa467ef2fe4cc4c98111ada28373650e16cdd59d72ee9b9b7fb58433d061", func := "messuage/messuagelaw02.GridTexts", spec := "gridTexts", apart := false }
def GridTextsSaid : Prop := gridTextsRow.holds Try.pinned (OpenSpec.ofChange gridTextsSpec)

/-- ITS FALSE NEIGHBOUR: 'it returns false'. Refute it at one input. -/
def gridTextsWrong : ChangeSpec := { name := "gridTexts", fn := fun _ => fun
  | [d1, d2, d3] => { results := [.lit (.bool false)], args := [d1, d2, d3] }
  | _ => none }
def GridTextsWrongFalsely : Prop := gridTextsRow.holds Try.pinned (OpenSpec.ofChange gridTextsWrong)

/-- 'messuagelaw06.TableSwaps': WHATEVER THE INPUT: true; the input reads as it did. -/
def tableSwapsSpec : ChangeSpec := { name := "tableSwaps", fn := fun _ => fun
  | [d1, d2] => { results := [.lit (.bool true)], args := [d1, d2] }
  | _ => none }
def tableSwapsRow : OpenClaim := { program := "ytkjhodaglanpmaa", sum := "c23afa467ef2fe4cc4c98111ada28373650e16cdd59d72ee9b9b7fb58433d061", func := "messuage/messuagelaw06.TableSwaps", spec := "tableSwaps", apart := false }
def TableSwapsSaid : Prop := tableSwapsRow.holds Try.pinned (OpenSpec.ofChange tableSwapsSpec)

/-- ITS FALSE NEIGHBOUR: 'it returns false'. Refute it at one input. -/
def tableSwapsWrong : ChangeSpec := { name := "tableSwaps", fn := fun _ => fun
  | [d1, d2] => { results := [.lit (.bool false)], args := [d1, d2] }
  | _ => none }
def TableSwapsWrongFalsely : Prop := tableSwapsRow.holds Try.pinned (OpenSpec.ofChange tableSwapsWrong)

/-- 'messuagelaw06.TableTexts': WHATEVER THE INPUT: true; the input reads as it did. -/
def tableTextsSpec : ChangeSpec := { name := "tableTexts", fn := fun _ => fun
  | [d1, d2] => { results := [.lit (.bool true)], args := [d1, d2] }
  | _ => none }
def tableTextsRow : OpenClaim := { program := "ytkjhodaglanpmaa", sum := "c23afa467ef2fe4cc4c98111ada28373650e16cdd59d72ee9b9b7fb58433d061", func := "messuage/messuagelaw06.TableTexts", spec := "tableTexts", apart := false }
def TableTextsSaid : Prop := tableTextsRow.holds Try.pinned (OpenSpec.ofChange tableTextsSpec)

/-- ITS FALSE NEIGHBOUR: 'it returns false'. Refute it at one input. -/
def tableTextsWrong : ChangeSpec := { name := "tableTexts", fn := fun _ => fun
  | [d1, d2] => { results := [.lit (.bool false)], args := [d1, d2] }
  | _ => none }
def TableTextsWrongFalsely : Prop := tableTextsRow.holds Try.pinned (OpenSpec.ofChange tableTextsWrong)

/-- 'messuagelaw05.FramesApart': WHATEVER THE INPUT: true; the input reads as it did. -/
def framesApartSpec : ChangeSpec := { name := "framesApart", fn := fun _ => fun
  | [d1, d2, d3] => { results := [.lit (.bool true)], args := [d1, d2, d3] }
  | _ => none }
def framesApartRow : OpenClaim := { program := "ytkjhodaglanpmaa", sum := "c23afa467ef2fe4cc4c98111ada28373650e16cdd59d72ee9b9b7fb58433d061", func := "messuage/messuagelaw05.FramesApart", spec := "framesApart", apart := false }
def FramesApartSaid : Prop := framesApartRow.holds Try.pinned (OpenSpec.ofChange framesApartSpec)

/-- ITS FALSE NEIGHBOUR: 'it returns false'. Refute it at one input. -/
def framesApartWrong : ChangeSpec := { name := "framesApart", fn := fun _ => fun
  | [d1, d2, d3] => { results := [.lit (.bool false)], args := [d1, d2, d3] }
  | _ => none }
def FramesApartWrongFalsely : Prop := framesApartRow.holds Try.pinned (OpenSpec.ofChange framesApartWrong)

/-- 'messuagelaw06.TableClears': WHATEVER THE INPUT: true; the input reads as it did. -/
def tableClearsSpec : ChangeSpec := { name := "tableClears", fn := fun _ => fun
  | [d] => { results := [.lit (.bool true)], args := [d] }
  | _ => none }
def tableClearsRow : OpenClaim := { program := "ytkjhodaglanpmaa", sum := "c23afa467ef2fe4cc4c98111ada28373650e16cdd59d72ee9b9b7fb58433d061", func := "messuage/messuagelaw06.TableClears", spec := "tableClears", apart := false }
def TableClearsSaid : Prop := tableClearsRow.holds Try.pinned (OpenSpec.ofChange tableClearsSpec)

/-- ITS FALSE NEIGHBOUR: 'it returns false'. Refute it at one input. -/
def tableClearsWrong : ChangeSpec := { name := "tableClears", fn := fun _ => fun
  | [d] => { results := [.lit (.bool false)], args := [d] }
  | _ => none }
def TableClearsWrongFalsely : Prop := tableClearsRow.holds Try.pinned (OpenSpec.ofChange tableClearsWrong)

/-- 'messuagelaw02.GridRows': WHATEVER THE INPUT: true; the input reads as it did. -/
def gridRowsSpec : ChangeSpec := { name := "gridRows", fn := fun _ => fun
  | [d] => { results := [.lit (.bool true)], args := [d] }
  | _ => none }
def gridRowsRow : OpenClaim := { program := "ytkjhodaglanpmaa", sum := "c23afa467ef2fe4cc4c98111ada28373650e16cdd59d72ee9b9b7fb58433d061", func := "messuage/messuagelaw02.GridRows", spec := "gridRows", apart := false }
def GridRowsSaid : Prop := gridRowsRow.holds Try.pinned (OpenSpec.ofChange gridRowsSpec)

/-- ITS FALSE NEIGHBOUR: 'it returns false'. Refute it at one input. -/
def gridRowsWrong : ChangeSpec := { name := "gridRows", fn := fun _ => fun
  | [d] => { results := [.lit (.bool false)], args := [d] }
  | _ => none }
def GridRowsWrongFalsely : Prop := gridRowsRow.holds Try.pinned (OpenSpec.ofChange gridRowsWrong)

/-- 'messuagelaw02.GridSames': WHATEVER THE INPUT: true; the input reads as it did. -/
def gridSamesSpec : ChangeSpec := { name := "gridSames", fn := fun _ => fun
  | [d1, d2, d3] => { results := [.lit (.bool true)], args := [d1, d2, d3] }
  | _ => none }
def gridSamesRow : OpenClaim := { program := "ytkjhodaglanpmaa", sum := "c23afa467ef2fe4cc4c98111ada28373650e16cdd59d72ee9b9b7fb58433d061", func := "messuage/messuagelaw02.GridSames", spec := "gridSames", apart := false }
def GridSamesSaid : Prop := gridSamesRow.holds Try.pinned (OpenSpec.ofChange gridSamesSpec)

/-- ITS FALSE NEIGHBOUR: 'it returns false'. Refute it at one input. -/
def gridSamesWrong : ChangeSpec := { name := "gridSames", fn := fun _ => fun
  | [d1, d2, d3] => { results := [.lit (.bool false)], args := [d1, d2, d3] }
  | _ => none }
def GridSamesWrongFalsely : Prop := gridSamesRow.holds Try.pinned (OpenSpec.ofChange gridSamesWrong)

/-- 'messuagelaw05.FramesActs': WHATEVER THE INPUT: true; the input reads as it did. -/
def framesActsSpec : ChangeSpec := { name := "framesActs", fn := fun _ => fun
  | [d1, d2, d3] => { results := [.lit (.bool true)], args := [d1, d2, d3] }
  | _ => none }
def framesActsRow : OpenClaim := { program := "ytkjhodaglanpmaa", sum := "c23afa467ef2fe4cc4c98111ada28373650e16cdd59d72ee9b9b7fb58433d061", func := "messuage/messuagelaw05.FramesActs", spec := "framesActs", apart := false }
def FramesActsSaid : Prop := framesActsRow.holds Try.pinned (OpenSpec.ofChange framesActsSpec)

/-- ITS FALSE NEIGHBOUR: 'it returns false'. Refute it at one input. -/
def framesActsWrong : ChangeSpec := { name := "framesActs", fn := fun _ => fun
  | [d1, d2, d3] => { results := [.lit (.bool false)], args := [d1, d2, d3] }
  | _ => none }
def FramesActsWrongFalsely : Prop := framesActsRow.holds Try.pinned (OpenSpec.ofChange framesActsWrong)

/-- 'messuagelaw05.FramesCopies': WHATEVER THE INPUT: true; the input reads as it did. -/
def framesCopiesSpec : ChangeSpec := { name := "framesCopies", fn := fun _ => fun
  | [d1, d2, d3] => { results := [.lit (.bool true)], args := [d1, d2, d3] }
  | _ => none }
def framesCopiesRow : OpenClaim := { program := "ytkjhodaglanpmaa", sum := "c23afa467ef2fe4cc4c98111ada28373650e16cdd59d72ee9b9b7fb58433d061", func := "messuage/messuagelaw05.FramesCopies", spec := "framesCopies", apart := false }
def FramesCopiesSaid : Prop := framesCopiesRow.holds Try.pinned (OpenSpec.ofChange framesCopiesSpec)

/-- ITS FALSE NEIGHBOUR: 'it returns false'. Refute it at one input. -/
def framesCopiesWrong : ChangeSpec := { name := "framesCopies", fn := fun _ => fun
  | [d1, d2, d3] => { results := [.lit (.bool false)], args := [d1, d2, d3] }
  | _ => none }
def FramesCopiesWrongFalsely : Prop := framesCopiesRow.holds Try.pinned (OpenSpec.ofChange framesCopiesWrong)

/-- 'messuagelaw02.GridPuts': WHATEVER THE INPUT: true; the input reads as it did. -/
def gridPutsSpec : ChangeSpec := { name := "gridPuts", fn := fun _ => fun
  | [d1, d2, d3] => { results := [.lit (.bool true)], args := [d1, d2, d3] }
  | _ => none }
def gridPutsRow : OpenClaim := { program := "ytkjhodaglanpmaa", sum := "c23afa467ef2fe4cc4c98111ada28373650e16cdd59d72ee9b9b7fb58433d061", func := "messuage/messuagelaw02.GridPuts", spec := "gridPuts", apart := false }
def GridPutsSaid : Prop := gridPutsRow.holds Try.pinned (OpenSpec.ofChange gridPutsSpec)

/-- ITS FALSE NEIGHBOUR: 'it returns false'. Refute it at one input. -/
def gridPutsWrong : ChangeSpec := { name := "gridPuts", fn := fun _ => fun
  | [d1, d2, d3] => { results := [.lit (.bool false)], args := [d1, d2, d3] }
  | _ => none }
def GridPutsWrongFalsely : Prop := gridPutsRow.holds Try.pinned (OpenSpec.ofChange gridPutsWrong)

/- THE SECOND FORM. 'bulk': how many values and letters a reading holds, each counted each time it is reached (what is shared counts as often as it is met; a slice's spare places count too). A statement '..UptoSaid' is the law's where the arguments, and the package variables that the reading takes, are together of bulk at most 1048576: NARROWER than '..Said'. Prove '..Said' where nothing that the law and all that it calls make is longer than what came in: it says more and counts as full. Else prove '..UptoSaid'. A law counts once. -/
mutual
def uptoBulk {H : Type} : DataW H → Nat
  | .lit (.string bytes) => bytes.length + 1
  | .lit _ => 1
  | .nil => 1
  | .ptr d => uptoBulk d + 1
  | .slice elems spare => uptoBulkAll elems + uptoBulkAll spare + 1
  | .agg parts => uptoBulkAll parts + 1
  | .iface _ d => uptoBulk d + 1
  | .map entries => uptoBulkEntries entries + 1
  | .held _ => 1
def uptoBulkAll {H : Type} : List (DataW H) → Nat
  | [] => 0
  | d :: r => uptoBulk d + uptoBulkAll r
def uptoBulkEntries {H : Type} : List (Lit × DataW H) → Nat
  | [] => 0
  | x :: r => uptoBulkEntry x + uptoBulkEntries r
def uptoBulkEntry {H : Type} : Lit × DataW H → Nat
  | (.string bytes, d) => bytes.length + uptoBulk d + 1
  | (_, d) => uptoBulk d + 1
 end
def uptoSmall : (H : Type) → List (DataW H) → Bool := fun _ ds => decide (uptoBulkAll ds ≤ 1048576)
def OpenSpec.upto (s : _root_.Go.ChangeSpec) : _root_.Go.OpenSpec := { _root_.Go.OpenSpec.ofChange s with cond := some uptoSmall }

/-- 'messuagelaw02.GridTexts', WHERE WHAT IT READS IS OF BULK AT MOST 1048576: true; the input reads as it did. -/
def gridTextsUptoRow : OpenClaim := { program := "ytkjhodaglanpmaa", sum := "c23afa467ef2fe4cc4c98111ada28373650e16cdd59d72ee9b9b7fb58433d061", func := "messuage/messuagelaw02.GridTexts", spec := "gridTexts", apart := false, narrowed := true }
def GridTextsUptoSaid : Prop := gridTextsUptoRow.holds Try.pinned (OpenSpec.upto gridTextsSpec)

/-- 'messuagelaw06.TableSwaps', WHERE WHAT IT READS IS OF BULK AT MOST 1048576: true; the input reads as it did. -/
def tableSwapsUptoRow : OpenClaim := { program := "ytkjhodaglanpmaa", sum := "c23afa467ef2fe4cc4c98111ada28373650e16cdd59d72ee9b9b7fb58433d061", func := "messuage/messuagelaw06.TableSwaps", spec := "tableSwaps", apart := false, narrowed := true }
def TableSwapsUptoSaid : Prop := tableSwapsUptoRow.holds Try.pinned (OpenSpec.upto tableSwapsSpec)

/-- 'messuagelaw06.TableTexts', WHERE WHAT IT READS IS OF BULK AT MOST 1048576: true; the input reads as it did. -/
def tableTextsUptoRow : OpenClaim := { program := "ytkjhodaglanpmaa", sum := "c23afa467ef2fe4cc4c98111ada28373650e16cdd59d72ee9b9b7fb58433d061", func := "messuage/messuagelaw06.TableTexts", spec := "tableTexts", apart := false, narrowed := true }
def TableTextsUptoSaid : Prop := tableTextsUptoRow.holds Try.pinned (OpenSpec.upto tableTextsSpec)

/-- 'messuagelaw05.FramesApart', WHERE WHAT IT READS IS OF BULK AT MOST 1048576: true; the input reads as it did. -/
def framesApartUptoRow : OpenClaim := { program := "ytkjhodaglanpmaa", sum := "c23afa467ef2fe4cc4c98111ada28373650e16cdd59d72ee9b9b7fb58433d061", func := "messuage/messuagelaw05.FramesApart", spec := "framesApart", apart := false, narrowed := true }
def FramesApartUptoSaid : Prop := framesApartUptoRow.holds Try.pinned (OpenSpec.upto framesApartSpec)

/-- 'messuagelaw06.TableClears', WHERE WHAT IT READS IS OF BULK AT MOST 1048576: true; the input reads as it did. -/
def tableClearsUptoRow : OpenClaim := { program := "ytkjhodaglanpmaa", sum := "c23afa467ef2fe4cc4c98111ada28373650e16cdd59d72ee9b9b7fb58433d061", func := "messuage/messuagelaw06.TableClears", spec := "tableClears", apart := false, narrowed := true }
def TableClearsUptoSaid : Prop := tableClearsUptoRow.holds Try.pinned (OpenSpec.upto tableClearsSpec)

/-- 'messuagelaw02.GridRows', WHERE WHAT IT READS IS OF BULK AT MOST 1048576: true; the input reads as it did. -/
def gridRowsUptoRow : OpenClaim := { program := "ytkjhodaglanpmaa", sum := "c23afa467ef2fe4cc4c98111ada28373650e16cdd59d72ee9b9b7fb58433d061", func := "messuage/messuagelaw02.GridRows", spec := "gridRows", apart := false, narrowed := true }
def GridRowsUptoSaid : Prop := gridRowsUptoRow.holds Try.pinned (OpenSpec.upto gridRowsSpec)

/-- 'messuagelaw02.GridSames', WHERE WHAT IT READS IS OF BULK AT MOST 1048576: true; the input reads as it did. -/
def gridSamesUptoRow : OpenClaim := { program := "ytkjhodaglanpmaa", sum := "c23afa467ef2fe4cc4c98111ada28373650e16cdd59d72ee9b9b7fb58433d061", func := "messuage/messuagelaw02.GridSames", spec := "gridSames", apart := false, narrowed := true }
def GridSamesUptoSaid : Prop := gridSamesUptoRow.holds Try.pinned (OpenSpec.upto gridSamesSpec)

/-- 'messuagelaw05.FramesActs', WHERE WHAT IT READS IS OF BULK AT MOST 1048576: true; the input reads as it did. -/
def framesActsUptoRow : OpenClaim := { program := "ytkjhodaglanpmaa", sum := "c23afa467ef2fe4cc4c98111ada28373650e16cdd59d72ee9b9b7fb58433d061", func := "messuage/messuagelaw05.FramesActs", spec := "framesActs", apart := false, narrowed := true }
def FramesActsUptoSaid : Prop := framesActsUptoRow.holds Try.pinned (OpenSpec.upto framesActsSpec)

/-- 'messuagelaw05.FramesCopies', WHERE WHAT IT READS IS OF BULK AT MOST 1048576: true; the input reads as it did. -/
def framesCopiesUptoRow : OpenClaim := { program := "ytkjhodaglanpmaa", sum := "c23afa467ef2fe4cc4c98111ada28373650e16cdd59d72ee9b9b7fb58433d061", func := "messuage/messuagelaw05.FramesCopies", spec := "framesCopies", apart := false, narrowed := true }
def FramesCopiesUptoSaid : Prop := framesCopiesUptoRow.holds Try.pinned (OpenSpec.upto framesCopiesSpec)

/-- 'messuagelaw02.GridPuts', WHERE WHAT IT READS IS OF BULK AT MOST 1048576: true; the input reads as it did. -/
def gridPutsUptoRow : OpenClaim := { program := "ytkjhodaglanpmaa", sum := "c23afa467ef2fe4cc4c98111ada28373650e16cdd59d72ee9b9b7fb58433d061", func := "messuage/messuagelaw02.GridPuts", spec := "gridPuts", apart := false, narrowed := true }
def GridPutsUptoSaid : Prop := gridPutsUptoRow.holds Try.pinned (OpenSpec.upto gridPutsSpec)

end Rows
end Go.Proofs.Ytkjhodaglanpmaa
