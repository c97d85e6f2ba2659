/-
  No cell of these rows narrows 'for every input' (looked for: loops, veiled, ifaces, maps, wideKeys, modest, calm, conditions, laid).
  DERIVED. THE GIVEN ROWS OF THIS SEAT. 8 by the template 'for every input the law returns true; each argument reads behind the call as it read before'; 0 by the template 'total and deterministic' (their statements: YtpajbpgpbfmebaaTotals.lean).
  GIVEN WITH THE SEED: the statements are not yours to turn. If you find one false, say at which input.
  Laid BY PROGRAM, IN A SANDBOX (cutbox-rows.mjs): the forced cells as the released guide's own fill.sh prints them over the translation 7dca4dd56c1724ac… (all of the seat's roots in one cut). By AI agents, Wed Nov 11 2026. No macro, syntax, notation, axiom, sorry.
-/
import Derived.Test.YtpajbpgpbfmebaaChecked
import GoSem.Claim
import GoSem.ClaimJoined
import GoSem.ClaimMapViews
import Derived.JoinedTies
import Derived.KernelRfl
namespace Go.Proofs.Ytpajbpgpbfmebaa
/- THE CELL 'sum', in the pinned program and in every row, IS THE sha256 OF THE DUMP (.gsa) THAT YtpajbpgpbfmebaaProg.lean LOADS. Nothing in Lean hashes anything: it is a label: what it is worth is what the hold of that sum in a sandbox is worth. -/
noncomputable def Try.pinned : Pinned := { name := "ytpajbpgpbfmebaa", sum := "7dca4dd56c1724acef1adf47032f17d5c8a3d31f330bde79c5bd07c98720e202", checked := Try.checked }
namespace Rows
def none {H : Type} : Left H := { results := [], args := [] }

/-- 'messuagelaw07.MemoryParts': WHATEVER THE INPUT: true; the input reads as it did. -/
def memoryPartsSpec : ChangeSpec := { name := "memoryParts", fn := fun _ => fun
  | [d1, d2, d3] => { results := [.lit (.bool true)], args := [d1, d2, d3] }
  | _ => none }
def memoryPartsRow : OpenClaim := { program := "ytpajbpgpbfmebaa", sum := "7dca4dd56c1724acef1adf47032f17d5c8a3d31f330bde79c5bd07c98720e202", func := "messuage/messuagelaw07.MemoryParts", spec := "memoryParts", apart := false }
def MemoryPartsSaid : Prop := memoryPartsRow.holds Try.pinned (OpenSpec.ofChange memoryPartsSpec)

/-- ITS FALSE NEIGHBOUR: 'it returns false'. Refute it at one input. -/
def memoryPartsWrong : ChangeSpec := { name := "memoryParts", fn := fun _ => fun
  | [d1, d2, d3] => { results := [.lit (.bool false)], args := [d1, d2, d3] }
  | _ => none }
def MemoryPartsWrongFalsely : Prop := memoryPartsRow.holds Try.pinned (OpenSpec.ofChange memoryPartsWrong)

/-- 'messuagelaw07.MemoryHoles': WHATEVER THE INPUT: true; the input reads as it did. -/
def memoryHolesSpec : ChangeSpec := { name := "memoryHoles", fn := fun _ => fun
  | [d1, d2, d3] => { results := [.lit (.bool true)], args := [d1, d2, d3] }
  | _ => none }
def memoryHolesRow : OpenClaim := { program := "ytpajbpgpbfmebaa", sum := "7dca4dd56c1724acef1adf47032f17d5c8a3d31f330bde79c5bd07c98720e202", func := "messuage/messuagelaw07.MemoryHoles", spec := "memoryHoles", apart := false }
def MemoryHolesSaid : Prop := memoryHolesRow.holds Try.pinned (OpenSpec.ofChange memoryHolesSpec)

/-- ITS FALSE NEIGHBOUR: 'it returns false'. Refute it at one input. -/
def memoryHolesWrong : ChangeSpec := { name := "memoryHoles", fn := fun _ => fun
  | [d1, d2, d3] => { results := [.lit (.bool false)], args := [d1, d2, d3] }
  | _ => none }
def MemoryHolesWrongFalsely : Prop := memoryHolesRow.holds Try.pinned (OpenSpec.ofChange memoryHolesWrong)

/-- 'messuagelaw29.CostBest': WHATEVER THE INPUT: true; the input reads as it did. -/
def costBestSpec : ChangeSpec := { name := "costBest", fn := fun _ => fun
  | [d1, d2] => { results := [.lit (.bool true)], args := [d1, d2] }
  | _ => none }
def costBestRow : OpenClaim := { program := "ytpajbpgpbfmebaa", sum := "7dca4dd56c1724acef1adf47032f17d5c8a3d31f330bde79c5bd07c98720e202", func := "messuage/messuagelaw29.CostBest", spec := "costBest", unfollowed := true, recurses := true, apart := false }
def CostBestSaid : Prop := costBestRow.holds Try.pinned (OpenSpec.ofChange costBestSpec)

/-- ITS FALSE NEIGHBOUR: 'it returns false'. Refute it at one input. -/
def costBestWrong : ChangeSpec := { name := "costBest", fn := fun _ => fun
  | [d1, d2] => { results := [.lit (.bool false)], args := [d1, d2] }
  | _ => none }
def CostBestWrongFalsely : Prop := costBestRow.holds Try.pinned (OpenSpec.ofChange costBestWrong)

/-- 'messuagelaw29.CostOwn': WHATEVER THE INPUT: true; the input reads as it did. -/
def costOwnSpec : ChangeSpec := { name := "costOwn", fn := fun _ => fun
  | [d1, d2, d3] => { results := [.lit (.bool true)], args := [d1, d2, d3] }
  | _ => none }
def costOwnRow : OpenClaim := { program := "ytpajbpgpbfmebaa", sum := "7dca4dd56c1724acef1adf47032f17d5c8a3d31f330bde79c5bd07c98720e202", func := "messuage/messuagelaw29.CostOwn", spec := "costOwn", unfollowed := true, recurses := true, apart := false }
def CostOwnSaid : Prop := costOwnRow.holds Try.pinned (OpenSpec.ofChange costOwnSpec)

/-- ITS FALSE NEIGHBOUR: 'it returns false'. Refute it at one input. -/
def costOwnWrong : ChangeSpec := { name := "costOwn", fn := fun _ => fun
  | [d1, d2, d3] => { results := [.lit (.bool false)], args := [d1, d2, d3] }
  | _ => none }
def CostOwnWrongFalsely : Prop := costOwnRow.holds Try.pinned (OpenSpec.ofChange costOwnWrong)

/-- 'messuagelaw07.MemoryMoves': WHATEVER THE INPUT: true; the input reads as it did. -/
def memoryMovesSpec : ChangeSpec := { name := "memoryMoves", fn := fun _ => fun
  | [d1, d2] => { results := [.lit (.bool true)], args := [d1, d2] }
  | _ => none }
def memoryMovesRow : OpenClaim := { program := "ytpajbpgpbfmebaa", sum := "7dca4dd56c1724acef1adf47032f17d5c8a3d31f330bde79c5bd07c98720e202", func := "messuage/messuagelaw07.MemoryMoves", spec := "memoryMoves", apart := false }
def MemoryMovesSaid : Prop := memoryMovesRow.holds Try.pinned (OpenSpec.ofChange memoryMovesSpec)

/-- ITS FALSE NEIGHBOUR: 'it returns false'. Refute it at one input. -/
def memoryMovesWrong : ChangeSpec := { name := "memoryMoves", fn := fun _ => fun
  | [d1, d2] => { results := [.lit (.bool false)], args := [d1, d2] }
  | _ => none }
def MemoryMovesWrongFalsely : Prop := memoryMovesRow.holds Try.pinned (OpenSpec.ofChange memoryMovesWrong)

/-- 'messuagelaw29.CostNone': WHATEVER THE INPUT: true; the input reads as it did. -/
def costNoneSpec : ChangeSpec := { name := "costNone", fn := fun _ => fun
  | [d1, d2] => { results := [.lit (.bool true)], args := [d1, d2] }
  | _ => none }
def costNoneRow : OpenClaim := { program := "ytpajbpgpbfmebaa", sum := "7dca4dd56c1724acef1adf47032f17d5c8a3d31f330bde79c5bd07c98720e202", func := "messuage/messuagelaw29.CostNone", spec := "costNone", unfollowed := true, recurses := true, apart := false }
def CostNoneSaid : Prop := costNoneRow.holds Try.pinned (OpenSpec.ofChange costNoneSpec)

/-- ITS FALSE NEIGHBOUR: 'it returns false'. Refute it at one input. -/
def costNoneWrong : ChangeSpec := { name := "costNone", fn := fun _ => fun
  | [d1, d2] => { results := [.lit (.bool false)], args := [d1, d2] }
  | _ => none }
def CostNoneWrongFalsely : Prop := costNoneRow.holds Try.pinned (OpenSpec.ofChange costNoneWrong)

/-- 'messuagelaw29.CostMore': WHATEVER THE INPUT: true; the input reads as it did. -/
def costMoreSpec : ChangeSpec := { name := "costMore", fn := fun _ => fun
  | [d1, d2, d3] => { results := [.lit (.bool true)], args := [d1, d2, d3] }
  | _ => none }
def costMoreRow : OpenClaim := { program := "ytpajbpgpbfmebaa", sum := "7dca4dd56c1724acef1adf47032f17d5c8a3d31f330bde79c5bd07c98720e202", func := "messuage/messuagelaw29.CostMore", spec := "costMore", unfollowed := true, recurses := true, apart := false }
def CostMoreSaid : Prop := costMoreRow.holds Try.pinned (OpenSpec.ofChange costMoreSpec)

/-- ITS FALSE NEIGHBOUR: 'it returns false'. Refute it at one input. -/
def costMoreWrong : ChangeSpec := { name := "costMore", fn := fun _ => fun
  | [d1, d2, d3] => { results := [.lit (.bool false)], args := [d1, d2, d3] }
  | _ => none }
def CostMoreWrongFalsely : Prop := costMoreRow.holds Try.pinned (OpenSpec.ofChange costMoreWrong)

/-- 'messuagelaw29.CostTells': WHATEVER THE INPUT: true; the input reads as it did. -/
def costTellsSpec : ChangeSpec := { name := "costTells", fn := fun _ => fun
  | [d1, d2, d3] => { results := [.lit (.bool true)], args := [d1, d2, d3] }
  | _ => none }
def costTellsRow : OpenClaim := { program := "ytpajbpgpbfmebaa", sum := "7dca4dd56c1724acef1adf47032f17d5c8a3d31f330bde79c5bd07c98720e202", func := "messuage/messuagelaw29.CostTells", spec := "costTells", unfollowed := true, recurses := true, apart := false }
def CostTellsSaid : Prop := costTellsRow.holds Try.pinned (OpenSpec.ofChange costTellsSpec)

/-- ITS FALSE NEIGHBOUR: 'it returns false'. Refute it at one input. -/
def costTellsWrong : ChangeSpec := { name := "costTells", fn := fun _ => fun
  | [d1, d2, d3] => { results := [.lit (.bool false)], args := [d1, d2, d3] }
  | _ => none }
def CostTellsWrongFalsely : Prop := costTellsRow.holds Try.pinned (OpenSpec.ofChange costTellsWrong)

/- THE SECOND FORM. 'bulk': how many values and letters a reading holds, each counted each time it is reached (what is shared counts as often as it is met; a slice's spare places count too). A statement '..UptoSaid' is the law's where the arguments, and the package variables that the reading takes, are together of bulk at most 1048576: NARROWER than '..Said'. Prove '..Said' where nothing that the law and all that it calls make is longer than what came in: it says more and counts as full. Else prove '..UptoSaid'. A law counts once. -/
mutual
def uptoBulk {H : Type} : DataW H → Nat
  | .lit (.string bytes) => bytes.length + 1
  | .lit _ => 1
  | .nil => 1
  | .ptr d => uptoBulk d + 1
  | .slice elems spare => uptoBulkAll elems + uptoBulkAll spare + 1
  | .agg parts => uptoBulkAll parts + 1
  | .iface _ d => uptoBulk d + 1
  | .map entries => uptoBulkEntries entries + 1
  | .held _ => 1
def uptoBulkAll {H : Type} : List (DataW H) → Nat
  | [] => 0
  | d :: r => uptoBulk d + uptoBulkAll r
def uptoBulkEntries {H : Type} : List (Lit × DataW H) → Nat
  | [] => 0
  | x :: r => uptoBulkEntry x + uptoBulkEntries r
def uptoBulkEntry {H : Type} : Lit × DataW H → Nat
  | (.string bytes, d) => bytes.length + uptoBulk d + 1
  | (_, d) => uptoBulk d + 1
 end
def uptoSmall : (H : Type) → List (DataW H) → Bool := fun _ ds => decide (uptoBulkAll ds ≤ 1048576)
def OpenSpec.upto (s : _root_.Go.ChangeSpec) : _root_.Go.OpenSpec := { _root_.Go.OpenSpec.ofChange s with cond := some uptoSmall }

/-- 'messuagelaw07.MemoryParts', WHERE WHAT IT READS IS OF BULK AT MOST 1048576: true; the input reads as it did. -/
def memoryPartsUptoRow : OpenClaim := { program := "ytpajbpgpbfmebaa", sum := "7dca4dd56c1724acef1adf47032f17d5c8a3d31f330bde79c5bd07c98720e202", func := "messuage/messuagelaw07.MemoryParts", spec := "memoryParts", apart := false, narrowed := true }
def MemoryPartsUptoSaid : Prop := memoryPartsUptoRow.holds Try.pinned (OpenSpec.upto memoryPartsSpec)

/-- 'messuagelaw07.MemoryHoles', WHERE WHAT IT READS IS OF BULK AT MOST 1048576: true; the input reads as it did. -/
def memoryHolesUptoRow : OpenClaim := { program := "ytpajbpgpbfmebaa", sum := "7dca4dd56c1724acef1adf47032f17d5c8a3d31f330bde79c5bd07c98720e202", func := "messuage/messuagelaw07.MemoryHoles", spec := "memoryHoles", apart := false, narrowed := true }
def MemoryHolesUptoSaid : Prop := memoryHolesUptoRow.holds Try.pinned (OpenSpec.upto memoryHolesSpec)

/-- 'messuagelaw29.CostBest', WHERE WHAT IT READS IS OF BULK AT MOST 1048576: true; the input reads as it did. -/
def costBestUptoRow : OpenClaim := { program := "ytpajbpgpbfmebaa", sum := "7dca4dd56c1724acef1adf47032f17d5c8a3d31f330bde79c5bd07c98720e202", func := "messuage/messuagelaw29.CostBest", spec := "costBest", unfollowed := true, recurses := true, apart := false, narrowed := true }
def CostBestUptoSaid : Prop := costBestUptoRow.holds Try.pinned (OpenSpec.upto costBestSpec)

/-- 'messuagelaw29.CostOwn', WHERE WHAT IT READS IS OF BULK AT MOST 1048576: true; the input reads as it did. -/
def costOwnUptoRow : OpenClaim := { program := "ytpajbpgpbfmebaa", sum := "7dca4dd56c1724acef1adf47032f17d5c8a3d31f330bde79c5bd07c98720e202", func := "messuage/messuagelaw29.CostOwn", spec := "costOwn", unfollowed := true, recurses := true, apart := false, narrowed := true }
def CostOwnUptoSaid : Prop := costOwnUptoRow.holds Try.pinned (OpenSpec.upto costOwnSpec)

/-- 'messuagelaw07.MemoryMoves', WHERE WHAT IT READS IS OF BULK AT MOST 1048576: true; the input reads as it did. -/
def memoryMovesUptoRow : OpenClaim := { program := "ytpajbpgpbfmebaa", sum := "7dca4dd56c1724acef1adf47032f17d5c8a3d31f330bde79c5bd07c98720e202", func := "messuage/messuagelaw07.MemoryMoves", spec := "memoryMoves", apart := false, narrowed := true }
def MemoryMovesUptoSaid : Prop := memoryMovesUptoRow.holds Try.pinned (OpenSpec.upto memoryMovesSpec)

/-- 'messuagelaw29.CostNone', WHERE WHAT IT READS IS OF BULK AT MOST 1048576: true; the input reads as it did. -/
def costNoneUptoRow : OpenClaim := { program := "ytpajbpgpbfmebaa", sum := "7dca4dd56c1724acef1adf47032f17d5c8a3d31f330bde79c5bd07c98720e202", func := "messuage/messuagelaw29.CostNone", spec := "costNone", unfollowed := true, recurses := true, apart := false, narrowed := true }
def CostNoneUptoSaid : Prop := costNoneUptoRow.holds Try.pinned (OpenSpec.upto costNoneSpec)

/-- 'messuagelaw29.CostMore', WHERE WHAT IT READS IS OF BULK AT MOST 1048576: true; the input reads as it did. -/
def costMoreUptoRow : OpenClaim := { program := "ytpajbpgpbfmebaa", sum := "7dca4dd56c1724acef1adf47032f17d5c8a3d31f330bde79c5bd07c98720e202", func := "messuage/messuagelaw29.CostMore", spec := "costMore", unfollowed := true, recurses := true, apart := false, narrowed := true }
def CostMoreUptoSaid : Prop := costMoreUptoRow.holds Try.pinned (OpenSpec.upto costMoreSpec)

/-- 'messuagelaw29.CostTells', WHERE WHAT IT READS IS OF BULK AT MOST 1048576: true; the input reads as it did. -/
def costTellsUptoRow : OpenClaim := { program := "ytpajbpgpbfmebaa", sum := "7dca4dd56c1724acef1adf47032f17d5c8a3d31f330bde79c5bd07c98720e202", func := "messuage/messuagelaw29.CostTells", spec := "costTells", unfollowed := true, recurses := true, apart := false, narrowed := true }
def CostTellsUptoSaid : Prop := costTellsUptoRow.holds Try.pinned (OpenSpec.upto costTellsSpec)

end Rows
end Go.Proofs.Ytpajbpgpbfmebaa
