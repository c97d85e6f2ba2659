/-
  No cell of these rows narrows 'for every input' (looked for: loops, veiled, ifaces, maps, wideKeys, modest, calm, conditions, laid).
  DERIVED. THE GIVEN ROWS OF THIS SEAT. 5 by the template 'for every input the law returns true; each argument reads behind the call as it read before'; 0 by the template 'total and deterministic' (their statements: YtinijpjbbbbhjaaTotals.lean).
  GIVEN WITH THE SEED: the statements are not yours to turn. If you find one false, say at which input.
  Laid BY PROGRAM, IN A SANDBOX (cutbox-rows.mjs): the forced cells as the released guide's own fill.sh prints them over the translation a7ab898b55900f99… (all of the seat's roots in one cut). By AI agents, Wed Nov 11 2026. No macro, syntax, notation, axiom, sorry.
-/
import Derived.Test.YtinijpjbbbbhjaaChecked
import GoSem.Claim
import GoSem.ClaimJoined
import GoSem.ClaimMapViews
import Derived.JoinedTies
import Derived.KernelRfl
namespace Go.Proofs.Ytinijpjbbbbhjaa
/- THE CELL 'sum', in the pinned program and in every row, IS THE sha256 OF THE DUMP (.gsa) THAT YtinijpjbbbbhjaaProg.lean LOADS. Nothing in Lean hashes anything: it is a label: what it is worth is what the hold of that sum in a sandbox is worth. -/
noncomputable def Try.pinned : Pinned := { name := "ytinijpjbbbbhjaa", sum := "a7ab898b55900f99ccef771ae8ebee0d6a315de566462d67dba26810567b18d1", checked := Try.checked }
namespace Rows
def none {H : Type} : Left H := { results := [], args := [] }

/-- 'messuagelaw16.StatsCounts': WHATEVER THE INPUT: true; the input reads as it did. -/
def statsCountsSpec : ChangeSpec := { name := "statsCounts", fn := fun _ => fun
  | [d1, d2] => { results := [.lit (.bool true)], args := [d1, d2] }
  | _ => none }
def statsCountsRow : OpenClaim := { program := "ytinijpjbbbbhjaa", sum := "a7ab898b55900f99ccef771ae8ebee0d6a315de566462d67dba26810567b18d1", func := "messuage/messuagelaw16.StatsCounts", spec := "statsCounts", apart := false }
def StatsCountsSaid : Prop := statsCountsRow.holds Try.pinned (OpenSpec.ofChange statsCountsSpec)

/-- ITS FALSE NEIGHBOUR: 'it returns false'. Refute it at one input. -/
def statsCountsWrong : ChangeSpec := { name := "statsCounts", fn := fun _ => fun
  | [d1, d2] => { results := [.lit (.bool false)], args := [d1, d2] }
  | _ => none }
def StatsCountsWrongFalsely : Prop := statsCountsRow.holds Try.pinned (OpenSpec.ofChange statsCountsWrong)

/-- 'messuagelaw16.StatsOne': WHATEVER THE INPUT: true; the input reads as it did. -/
def statsOneSpec : ChangeSpec := { name := "statsOne", fn := fun _ => fun
  | [d1, d2] => { results := [.lit (.bool true)], args := [d1, d2] }
  | _ => none }
def statsOneRow : OpenClaim := { program := "ytinijpjbbbbhjaa", sum := "a7ab898b55900f99ccef771ae8ebee0d6a315de566462d67dba26810567b18d1", func := "messuage/messuagelaw16.StatsOne", spec := "statsOne", apart := false }
def StatsOneSaid : Prop := statsOneRow.holds Try.pinned (OpenSpec.ofChange statsOneSpec)

/-- ITS FALSE NEIGHBOUR: 'it returns false'. Refute it at one input. -/
def statsOneWrong : ChangeSpec := { name := "statsOne", fn := fun _ => fun
  | [d1, d2] => { results := [.lit (.bool false)], args := [d1, d2] }
  | _ => none }
def StatsOneWrongFalsely : Prop := statsOneRow.holds Try.pinned (OpenSpec.ofChange statsOneWrong)

/-- 'messuagelaw16.StatsTurned': WHATEVER THE INPUT: true; the input reads as it did. -/
def statsTurnedSpec : ChangeSpec := { name := "statsTurned", fn := fun _ => fun
  | [d] => { results := [.lit (.bool true)], args := [d] }
  | _ => none }
def statsTurnedRow : OpenClaim := { program := "ytinijpjbbbbhjaa", sum := "a7ab898b55900f99ccef771ae8ebee0d6a315de566462d67dba26810567b18d1", func := "messuage/messuagelaw16.StatsTurned", spec := "statsTurned", apart := false }
def StatsTurnedSaid : Prop := statsTurnedRow.holds Try.pinned (OpenSpec.ofChange statsTurnedSpec)

/-- ITS FALSE NEIGHBOUR: 'it returns false'. Refute it at one input. -/
def statsTurnedWrong : ChangeSpec := { name := "statsTurned", fn := fun _ => fun
  | [d] => { results := [.lit (.bool false)], args := [d] }
  | _ => none }
def StatsTurnedWrongFalsely : Prop := statsTurnedRow.holds Try.pinned (OpenSpec.ofChange statsTurnedWrong)

/-- 'messuagelaw15.CacheHalf': WHATEVER THE INPUT: true; the input reads as it did. -/
def cacheHalfSpec : ChangeSpec := { name := "cacheHalf", fn := fun _ => fun
  | [d1, d2] => { results := [.lit (.bool true)], args := [d1, d2] }
  | _ => none }
def cacheHalfRow : OpenClaim := { program := "ytinijpjbbbbhjaa", sum := "a7ab898b55900f99ccef771ae8ebee0d6a315de566462d67dba26810567b18d1", func := "messuage/messuagelaw15.CacheHalf", spec := "cacheHalf", apart := false }
def CacheHalfSaid : Prop := cacheHalfRow.holds Try.pinned (OpenSpec.ofChange cacheHalfSpec)

/-- ITS FALSE NEIGHBOUR: 'it returns false'. Refute it at one input. -/
def cacheHalfWrong : ChangeSpec := { name := "cacheHalf", fn := fun _ => fun
  | [d1, d2] => { results := [.lit (.bool false)], args := [d1, d2] }
  | _ => none }
def CacheHalfWrongFalsely : Prop := cacheHalfRow.holds Try.pinned (OpenSpec.ofChange cacheHalfWrong)

/-- 'messuagelaw15.CacheApart': WHATEVER THE INPUT: true; the input reads as it did. -/
def cacheApartSpec : ChangeSpec := { name := "cacheApart", fn := fun _ => fun
  | [d] => { results := [.lit (.bool true)], args := [d] }
  | _ => none }
def cacheApartRow : OpenClaim := { program := "ytinijpjbbbbhjaa", sum := "a7ab898b55900f99ccef771ae8ebee0d6a315de566462d67dba26810567b18d1", func := "messuage/messuagelaw15.CacheApart", spec := "cacheApart", apart := false }
def CacheApartSaid : Prop := cacheApartRow.holds Try.pinned (OpenSpec.ofChange cacheApartSpec)

/-- ITS FALSE NEIGHBOUR: 'it returns false'. Refute it at one input. -/
def cacheApartWrong : ChangeSpec := { name := "cacheApart", fn := fun _ => fun
  | [d] => { results := [.lit (.bool false)], args := [d] }
  | _ => none }
def CacheApartWrongFalsely : Prop := cacheApartRow.holds Try.pinned (OpenSpec.ofChange cacheApartWrong)

/- THE SECOND FORM. 'bulk': how many values and letters a reading holds, each counted each time it is reached (what is shared counts as often as it is met; a slice's spare places count too). A statement '..UptoSaid' is the law's where the arguments, and the package variables that the reading takes, are together of bulk at most 1048576: NARROWER than '..Said'. Prove '..Said' where nothing that the law and all that it calls make is longer than what came in: it says more and counts as full. Else prove '..UptoSaid'. A law counts once. -/
mutual
def uptoBulk {H : Type} : DataW H → Nat
  | .lit (.string bytes) => bytes.length + 1
  | .lit _ => 1
  | .nil => 1
  | .ptr d => uptoBulk d + 1
  | .slice elems spare => uptoBulkAll elems + uptoBulkAll spare + 1
  | .agg parts => uptoBulkAll parts + 1
  | .iface _ d => uptoBulk d + 1
  | .map entries => uptoBulkEntries entries + 1
  | .held _ => 1
def uptoBulkAll {H : Type} : List (DataW H) → Nat
  | [] => 0
  | d :: r => uptoBulk d + uptoBulkAll r
def uptoBulkEntries {H : Type} : List (Lit × DataW H) → Nat
  | [] => 0
  | x :: r => uptoBulkEntry x + uptoBulkEntries r
def uptoBulkEntry {H : Type} : Lit × DataW H → Nat
  | (.string bytes, d) => bytes.length + uptoBulk d + 1
  | (_, d) => uptoBulk d + 1
 end
def uptoSmall : (H : Type) → List (DataW H) → Bool := fun _ ds => decide (uptoBulkAll ds ≤ 1048576)
def OpenSpec.upto (s : _root_.Go.ChangeSpec) : _root_.Go.OpenSpec := { _root_.Go.OpenSpec.ofChange s with cond := some uptoSmall }

/-- 'messuagelaw16.StatsCounts', WHERE WHAT IT READS IS OF BULK AT MOST 1048576: true; the input reads as it did. -/
def statsCountsUptoRow : OpenClaim := { program := "ytinijpjbbbbhjaa", sum := "a7ab898b55900f99ccef771ae8ebee0d6a315de566462d67dba26810567b18d1", func := "messuage/messuagelaw16.StatsCounts", spec := "statsCounts", apart := false, narrowed := true }
def StatsCountsUptoSaid : Prop := statsCountsUptoRow.holds Try.pinned (OpenSpec.upto statsCountsSpec)

/-- 'messuagelaw16.StatsOne', WHERE WHAT IT READS IS OF BULK AT MOST 1048576: true; the input reads as it did. -/
def statsOneUptoRow : OpenClaim := { program := "ytinijpjbbbbhjaa", sum := "a7ab898b55900f99ccef771ae8ebee0d6a315de566462d67dba26810567b18d1", func := "messuage/messuagelaw16.StatsOne", spec := "statsOne", apart := false, narrowed := true }
def StatsOneUptoSaid : Prop := statsOneUptoRow.holds Try.pinned (OpenSpec.upto statsOneSpec)

/-- 'messuagelaw16.StatsTurned', WHERE WHAT IT READS IS OF BULK AT MOST 1048576: true; the input reads as it did. -/
def statsTurnedUptoRow : OpenClaim := { program := "ytinijpjbbbbhjaa", sum := "a7ab898b55900f99ccef771ae8ebee0d6a315de566462d67dba26810567b18d1", func := "messuage/messuagelaw16.StatsTurned", spec := "statsTurned", apart := false, narrowed := true }
def StatsTurnedUptoSaid : Prop := statsTurnedUptoRow.holds Try.pinned (OpenSpec.upto statsTurnedSpec)

/-- 'messuagelaw15.CacheHalf', WHERE WHAT IT READS IS OF BULK AT MOST 1048576: true; the input reads as it did. -/
def cacheHalfUptoRow : OpenClaim := { program := "ytinijpjbbbbhjaa", sum := "a7ab898b55900f99ccef771ae8ebee0d6a315de566462d67dba26810567b18d1", func := "messuage/messuagelaw15.CacheHalf", spec := "cacheHalf", apart := false, narrowed := true }
def CacheHalfUptoSaid : Prop := cacheHalfUptoRow.holds Try.pinned (OpenSpec.upto cacheHalfSpec)

/-- 'messuagelaw15.CacheApart', WHERE WHAT IT READS IS OF BULK AT MOST 1048576: true; the input reads as it did. -/
def cacheApartUptoRow : OpenClaim := { program := "ytinijpjbbbbhjaa", sum := "a7ab898b55900f99ccef771ae8ebee0d6a315de566462d67dba26810567b18d1", func := "messuage/messuagelaw15.CacheApart", spec := "cacheApart", apart := false, narrowed := true }
def CacheApartUptoSaid : Prop := cacheApartUptoRow.holds Try.pinned (OpenSpec.upto cacheApartSpec)

end Rows
end Go.Proofs.Ytinijpjbbbbhjaa
