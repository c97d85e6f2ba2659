/-
  No cell of these rows narrows 'for every input' (looked for: loops, veiled, ifaces, maps, wideKeys, modest, calm, conditions, laid).
  DERIVED. THE GIVEN ROWS OF THIS SEAT. 9 by the template 'for every input the law returns true; each argument reads behind the call as it read before'; 0 by the template 'total and deterministic' (their statements: YtmheafagafdnlaaTotals.lean).
  GIVEN WITH THE SEED: the statements are not yours to turn. If you find one false, say at which input.
  Laid BY PROGRAM, IN A SANDBOX (cutbox-rows.mjs): the forced cells as the released guide's own fill.sh prints them over the translation 0f4cf89c35b5f91f… (all of the seat's roots in one cut). By AI agents, Wed Nov 11 2026. No macro, syntax, notation, axiom, sorry.
-/
import Derived.Test.YtmheafagafdnlaaChecked
import GoSem.Claim
import GoSem.ClaimJoined
import GoSem.ClaimMapViews
import Derived.JoinedTies
import Derived.KernelRfl
namespace Go.Proofs.Ytmheafagafdnlaa
/- THE CELL 'sum', in the pinned program and in every row, IS THE sha256 OF THE DUMP (.gsa) THAT YtmheafagafdnlaaProg.lean LOADS. Nothing in Lean hashes anything: it is a label: what it is worth is what the hold of that sum in a sandbox is worth. -/
noncomputable def Try.pinned : Pinned := { name := "ytmheafagafdnlaa", sum := "0f4cf89c35b5f91fd0f08cfd0ac641d25d852cfef07c3b37ce5438f82180e6e1", checked := Try.checked }
namespace Rows
def none {H : Type} : Left H := { results := [], args := [] }

/-- 'messuagelaw10.PolicyRound': WHATEVER THE INPUT: true; the input reads as it did. -/
def policyRoundSpec : ChangeSpec := { name := "policyRound", fn := fun _ => fun
  | [d1, d2] => { results := [.lit (.bool true)], args := [d1, d2] }
  | _ => none }
def policyRoundRow : OpenClaim := { program := "ytmheafagafdnlaa", sum := "0f4cf89c35b5f91fd0f08cfd0ac641d25d852cfef07c3b37ce5438f82180e6e1", func := "messuage/messuagelaw10.PolicyRound", spec := "policyRound", apart := false }
def PolicyRoundSaid : Prop := policyRoundRow.holds Try.pinned (OpenSpec.ofChange policyRoundSpec)

/-- ITS FALSE NEIGHBOUR: 'it returns false'. Refute it at one input. -/
def policyRoundWrong : ChangeSpec := { name := "policyRound", fn := fun _ => fun
  | [d1, d2] => { results := [.lit (.bool false)], args := [d1, d2] }
  | _ => none }
def PolicyRoundWrongFalsely : Prop := policyRoundRow.holds Try.pinned (OpenSpec.ofChange policyRoundWrong)

/-- 'messuagelaw18.BindEdges': WHATEVER THE INPUT: true; the input reads as it did. -/
def bindEdgesSpec : ChangeSpec := { name := "bindEdges", fn := fun _ => fun
  | [d1, d2, d3] => { results := [.lit (.bool true)], args := [d1, d2, d3] }
  | _ => none }
def bindEdgesRow : OpenClaim := { program := "ytmheafagafdnlaa", sum := "0f4cf89c35b5f91fd0f08cfd0ac641d25d852cfef07c3b37ce5438f82180e6e1", func := "messuage/messuagelaw18.BindEdges", spec := "bindEdges", apart := false }
def BindEdgesSaid : Prop := bindEdgesRow.holds Try.pinned (OpenSpec.ofChange bindEdgesSpec)

/-- ITS FALSE NEIGHBOUR: 'it returns false'. Refute it at one input. -/
def bindEdgesWrong : ChangeSpec := { name := "bindEdges", fn := fun _ => fun
  | [d1, d2, d3] => { results := [.lit (.bool false)], args := [d1, d2, d3] }
  | _ => none }
def BindEdgesWrongFalsely : Prop := bindEdgesRow.holds Try.pinned (OpenSpec.ofChange bindEdgesWrong)

/-- 'messuagelaw30.PlanEvens': WHATEVER THE INPUT: true; the input reads as it did. -/
def planEvensSpec : ChangeSpec := { name := "planEvens", fn := fun _ => fun
  | [d1, d2] => { results := [.lit (.bool true)], args := [d1, d2] }
  | _ => none }
def planEvensRow : OpenClaim := { program := "ytmheafagafdnlaa", sum := "0f4cf89c35b5f91fd0f08cfd0ac641d25d852cfef07c3b37ce5438f82180e6e1", func := "messuage/messuagelaw30.PlanEvens", spec := "planEvens", apart := false }
def PlanEvensSaid : Prop := planEvensRow.holds Try.pinned (OpenSpec.ofChange planEvensSpec)

/-- ITS FALSE NEIGHBOUR: 'it returns false'. Refute it at one input. -/
def planEvensWrong : ChangeSpec := { name := "planEvens", fn := fun _ => fun
  | [d1, d2] => { results := [.lit (.bool false)], args := [d1, d2] }
  | _ => none }
def PlanEvensWrongFalsely : Prop := planEvensRow.holds Try.pinned (OpenSpec.ofChange planEvensWrong)

/-- 'messuagelaw30.PlanAgain': WHATEVER THE INPUT: true; the input reads as it did. -/
def planAgainSpec : ChangeSpec := { name := "planAgain", fn := fun _ => fun
  | [d1, d2] => { results := [.lit (.bool true)], args := [d1, d2] }
  | _ => none }
def planAgainRow : OpenClaim := { program := "ytmheafagafdnlaa", sum := "0f4cf89c35b5f91fd0f08cfd0ac641d25d852cfef07c3b37ce5438f82180e6e1", func := "messuage/messuagelaw30.PlanAgain", spec := "planAgain", apart := false }
def PlanAgainSaid : Prop := planAgainRow.holds Try.pinned (OpenSpec.ofChange planAgainSpec)

/-- ITS FALSE NEIGHBOUR: 'it returns false'. Refute it at one input. -/
def planAgainWrong : ChangeSpec := { name := "planAgain", fn := fun _ => fun
  | [d1, d2] => { results := [.lit (.bool false)], args := [d1, d2] }
  | _ => none }
def PlanAgainWrongFalsely : Prop := planAgainRow.holds Try.pinned (OpenSpec.ofChange planAgainWrong)

/-- 'messuagelaw10.PolicyMore': WHATEVER THE INPUT: true; the input reads as it did. -/
def policyMoreSpec : ChangeSpec := { name := "policyMore", fn := fun _ => fun
  | [d1, d2, d3] => { results := [.lit (.bool true)], args := [d1, d2, d3] }
  | _ => none }
def policyMoreRow : OpenClaim := { program := "ytmheafagafdnlaa", sum := "0f4cf89c35b5f91fd0f08cfd0ac641d25d852cfef07c3b37ce5438f82180e6e1", func := "messuage/messuagelaw10.PolicyMore", spec := "policyMore", apart := false }
def PolicyMoreSaid : Prop := policyMoreRow.holds Try.pinned (OpenSpec.ofChange policyMoreSpec)

/-- ITS FALSE NEIGHBOUR: 'it returns false'. Refute it at one input. -/
def policyMoreWrong : ChangeSpec := { name := "policyMore", fn := fun _ => fun
  | [d1, d2, d3] => { results := [.lit (.bool false)], args := [d1, d2, d3] }
  | _ => none }
def PolicyMoreWrongFalsely : Prop := policyMoreRow.holds Try.pinned (OpenSpec.ofChange policyMoreWrong)

/-- 'messuagelaw10.PolicyLone': WHATEVER THE INPUT: true; the input reads as it did. -/
def policyLoneSpec : ChangeSpec := { name := "policyLone", fn := fun _ => fun
  | [d1, d2] => { results := [.lit (.bool true)], args := [d1, d2] }
  | _ => none }
def policyLoneRow : OpenClaim := { program := "ytmheafagafdnlaa", sum := "0f4cf89c35b5f91fd0f08cfd0ac641d25d852cfef07c3b37ce5438f82180e6e1", func := "messuage/messuagelaw10.PolicyLone", spec := "policyLone", apart := false }
def PolicyLoneSaid : Prop := policyLoneRow.holds Try.pinned (OpenSpec.ofChange policyLoneSpec)

/-- ITS FALSE NEIGHBOUR: 'it returns false'. Refute it at one input. -/
def policyLoneWrong : ChangeSpec := { name := "policyLone", fn := fun _ => fun
  | [d1, d2] => { results := [.lit (.bool false)], args := [d1, d2] }
  | _ => none }
def PolicyLoneWrongFalsely : Prop := policyLoneRow.holds Try.pinned (OpenSpec.ofChange policyLoneWrong)

/-- 'messuagelaw10.PolicyTells': WHATEVER THE INPUT: true; the input reads as it did. -/
def policyTellsSpec : ChangeSpec := { name := "policyTells", fn := fun _ => fun
  | [d1, d2] => { results := [.lit (.bool true)], args := [d1, d2] }
  | _ => none }
def policyTellsRow : OpenClaim := { program := "ytmheafagafdnlaa", sum := "0f4cf89c35b5f91fd0f08cfd0ac641d25d852cfef07c3b37ce5438f82180e6e1", func := "messuage/messuagelaw10.PolicyTells", spec := "policyTells", apart := false }
def PolicyTellsSaid : Prop := policyTellsRow.holds Try.pinned (OpenSpec.ofChange policyTellsSpec)

/-- ITS FALSE NEIGHBOUR: 'it returns false'. Refute it at one input. -/
def policyTellsWrong : ChangeSpec := { name := "policyTells", fn := fun _ => fun
  | [d1, d2] => { results := [.lit (.bool false)], args := [d1, d2] }
  | _ => none }
def PolicyTellsWrongFalsely : Prop := policyTellsRow.holds Try.pinned (OpenSpec.ofChange policyTellsWrong)

/-- 'messuagelaw30.PlanSums': WHATEVER THE INPUT: true; the input reads as it did. -/
def planSumsSpec : ChangeSpec := { name := "planSums", fn := fun _ => fun
  | [d1, d2] => { results := [.lit (.bool true)], args := [d1, d2] }
  | _ => none }
def planSumsRow : OpenClaim := { program := "ytmheafagafdnlaa", sum := "0f4cf89c35b5f91fd0f08cfd0ac641d25d852cfef07c3b37ce5438f82180e6e1", func := "messuage/messuagelaw30.PlanSums", spec := "planSums", apart := false }
def PlanSumsSaid : Prop := planSumsRow.holds Try.pinned (OpenSpec.ofChange planSumsSpec)

/-- ITS FALSE NEIGHBOUR: 'it returns false'. Refute it at one input. -/
def planSumsWrong : ChangeSpec := { name := "planSums", fn := fun _ => fun
  | [d1, d2] => { results := [.lit (.bool false)], args := [d1, d2] }
  | _ => none }
def PlanSumsWrongFalsely : Prop := planSumsRow.holds Try.pinned (OpenSpec.ofChange planSumsWrong)

/-- 'messuagelaw30.PlanFull': WHATEVER THE INPUT: true; the input reads as it did. -/
def planFullSpec : ChangeSpec := { name := "planFull", fn := fun _ => fun
  | [d1, d2] => { results := [.lit (.bool true)], args := [d1, d2] }
  | _ => none }
def planFullRow : OpenClaim := { program := "ytmheafagafdnlaa", sum := "0f4cf89c35b5f91fd0f08cfd0ac641d25d852cfef07c3b37ce5438f82180e6e1", func := "messuage/messuagelaw30.PlanFull", spec := "planFull", apart := false }
def PlanFullSaid : Prop := planFullRow.holds Try.pinned (OpenSpec.ofChange planFullSpec)

/-- ITS FALSE NEIGHBOUR: 'it returns false'. Refute it at one input. -/
def planFullWrong : ChangeSpec := { name := "planFull", fn := fun _ => fun
  | [d1, d2] => { results := [.lit (.bool false)], args := [d1, d2] }
  | _ => none }
def PlanFullWrongFalsely : Prop := planFullRow.holds Try.pinned (OpenSpec.ofChange planFullWrong)

/- THE SECOND FORM. 'bulk': how many values and letters a reading holds, each counted each time it is reached (what is shared counts as often as it is met; a slice's spare places count too). A statement '..UptoSaid' is the law's where the arguments, and the package variables that the reading takes, are together of bulk at most 1048576: NARROWER than '..Said'. Prove '..Said' where nothing that the law and all that it calls make is longer than what came in: it says more and counts as full. Else prove '..UptoSaid'. A law counts once. -/
mutual
def uptoBulk {H : Type} : DataW H → Nat
  | .lit (.string bytes) => bytes.length + 1
  | .lit _ => 1
  | .nil => 1
  | .ptr d => uptoBulk d + 1
  | .slice elems spare => uptoBulkAll elems + uptoBulkAll spare + 1
  | .agg parts => uptoBulkAll parts + 1
  | .iface _ d => uptoBulk d + 1
  | .map entries => uptoBulkEntries entries + 1
  | .held _ => 1
def uptoBulkAll {H : Type} : List (DataW H) → Nat
  | [] => 0
  | d :: r => uptoBulk d + uptoBulkAll r
def uptoBulkEntries {H : Type} : List (Lit × DataW H) → Nat
  | [] => 0
  | x :: r => uptoBulkEntry x + uptoBulkEntries r
def uptoBulkEntry {H : Type} : Lit × DataW H → Nat
  | (.string bytes, d) => bytes.length + uptoBulk d + 1
  | (_, d) => uptoBulk d + 1
 end
def uptoSmall : (H : Type) → List (DataW H) → Bool := fun _ ds => decide (uptoBulkAll ds ≤ 1048576)
def OpenSpec.upto (s : _root_.Go.ChangeSpec) : _root_.Go.OpenSpec := { _root_.Go.OpenSpec.ofChange s with cond := some uptoSmall }

/-- 'messuagelaw10.PolicyRound', WHERE WHAT IT READS IS OF BULK AT MOST 1048576: true; the input reads as it did. -/
def policyRoundUptoRow : OpenClaim := { program := "ytmheafagafdnlaa", sum := "0f4cf89c35b5f91fd0f08cfd0ac641d25d852cfef07c3b37ce5438f82180e6e1", func := "messuage/messuagelaw10.PolicyRound", spec := "policyRound", apart := false, narrowed := true }
def PolicyRoundUptoSaid : Prop := policyRoundUptoRow.holds Try.pinned (OpenSpec.upto policyRoundSpec)

/-- 'messuagelaw18.BindEdges', WHERE WHAT IT READS IS OF BULK AT MOST 1048576: true; the input reads as it did. -/
def bindEdgesUptoRow : OpenClaim := { program := "ytmheafagafdnlaa", sum := "0f4cf89c35b5f91fd0f08cfd0ac641d25d852cfef07c3b37ce5438f82180e6e1", func := "messuage/messuagelaw18.BindEdges", spec := "bindEdges", apart := false, narrowed := true }
def BindEdgesUptoSaid : Prop := bindEdgesUptoRow.holds Try.pinned (OpenSpec.upto bindEdgesSpec)

/-- 'messuagelaw30.PlanEvens', WHERE WHAT IT READS IS OF BULK AT MOST 1048576: true; the input reads as it did. -/
def planEvensUptoRow : OpenClaim := { program := "ytmheafagafdnlaa", sum := "0f4cf89c35b5f91fd0f08cfd0ac641d25d852cfef07c3b37ce5438f82180e6e1", func := "messuage/messuagelaw30.PlanEvens", spec := "planEvens", apart := false, narrowed := true }
def PlanEvensUptoSaid : Prop := planEvensUptoRow.holds Try.pinned (OpenSpec.upto planEvensSpec)

/-- 'messuagelaw30.PlanAgain', WHERE WHAT IT READS IS OF BULK AT MOST 1048576: true; the input reads as it did. -/
def planAgainUptoRow : OpenClaim := { program := "ytmheafagafdnlaa", sum := "0f4cf89c35b5f91fd0f08cfd0ac641d25d852cfef07c3b37ce5438f82180e6e1", func := "messuage/messuagelaw30.PlanAgain", spec := "planAgain", apart := false, narrowed := true }
def PlanAgainUptoSaid : Prop := planAgainUptoRow.holds Try.pinned (OpenSpec.upto planAgainSpec)

/-- 'messuagelaw10.PolicyMore', WHERE WHAT IT READS IS OF BULK AT MOST 1048576: true; the input reads as it did. -/
def policyMoreUptoRow : OpenClaim := { program := "ytmheafagafdnlaa", sum := "0f4cf89c35b5f91fd0f08cfd0ac641d25d852cfef07c3b37ce5438f82180e6e1", func := "messuage/messuagelaw10.PolicyMore", spec := "policyMore", apart := false, narrowed := true }
def PolicyMoreUptoSaid : Prop := policyMoreUptoRow.holds Try.pinned (OpenSpec.upto policyMoreSpec)

/-- 'messuagelaw10.PolicyLone', WHERE WHAT IT READS IS OF BULK AT MOST 1048576: true; the input reads as it did. -/
def policyLoneUptoRow : OpenClaim := { program := "ytmheafagafdnlaa", sum := "0f4cf89c35b5f91fd0f08cfd0ac641d25d852cfef07c3b37ce5438f82180e6e1", func := "messuage/messuagelaw10.PolicyLone", spec := "policyLone", apart := false, narrowed := true }
def PolicyLoneUptoSaid : Prop := policyLoneUptoRow.holds Try.pinned (OpenSpec.upto policyLoneSpec)

/-- 'messuagelaw10.PolicyTells', WHERE WHAT IT READS IS OF BULK AT MOST 1048576: true; the input reads as it did. -/
def policyTellsUptoRow : OpenClaim := { program := "ytmheafagafdnlaa", sum := "0f4cf89c35b5f91fd0f08cfd0ac641d25d852cfef07c3b37ce5438f82180e6e1", func := "messuage/messuagelaw10.PolicyTells", spec := "policyTells", apart := false, narrowed := true }
def PolicyTellsUptoSaid : Prop := policyTellsUptoRow.holds Try.pinned (OpenSpec.upto policyTellsSpec)

/-- 'messuagelaw30.PlanSums', WHERE WHAT IT READS IS OF BULK AT MOST 1048576: true; the input reads as it did. -/
def planSumsUptoRow : OpenClaim := { program := "ytmheafagafdnlaa", sum := "0f4cf89c35b5f91fd0f08cfd0ac641d25d852cfef07c3b37ce5438f82180e6e1", func := "messuage/messuagelaw30.PlanSums", spec := "planSums", apart := false, narrowed := true }
def PlanSumsUptoSaid : Prop := planSumsUptoRow.holds Try.pinned (OpenSpec.upto planSumsSpec)

/-- 'messuagelaw30.PlanFull', WHERE WHAT IT READS IS OF BULK AT MOST 1048576: true; the input reads as it did. -/
def planFullUptoRow : OpenClaim := { program := "ytmheafagafdnlaa", sum := "0f4cf89c35b5f91fd0f08cfd0ac641d25d852cfef07c3b37ce5438f82180e6e1", func := "messuage/messuagelaw30.PlanFull", spec := "planFull", apart := false, narrowed := true }
def PlanFullUptoSaid : Prop := planFullUptoRow.holds Try.pinned (OpenSpec.upto planFullSpec)

end Rows
end Go.Proofs.Ytmheafagafdnlaa
