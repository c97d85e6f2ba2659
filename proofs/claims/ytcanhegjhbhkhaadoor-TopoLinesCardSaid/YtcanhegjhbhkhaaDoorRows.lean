/-
  NARROWER THAN 'FOR EVERY INPUT', by the rows' own cells (each row's printed sentence says how): NodesetLists: laid · NodesetParses: laid · NodesetMore: laid · NodesetCuts: laid · TopoLines: laid · TopoBents: laid · TopoChecks: laid · TopoParses: laid.
  DERIVED. THE GIVEN ROWS OF THIS SEAT. 8 by the template 'for every input the law returns true; each argument reads behind the call as it read before'; 0 by the template 'total and deterministic' (their statements: YtcanhegjhbhkhaaDoorTotals.lean).
  GIVEN WITH THE SEED: the statements are not yours to turn. If you find one false, say at which input.
  Laid BY PROGRAM, IN A SANDBOX (cutbox-rows.mjs): the forced cells as the released guide's own fill.sh prints them over the translation 39aad23e5f0aec4d… (all of the seat's roots in one cut). By AI agents, Wed Nov 11 2026. No macro, syntax, notation, axiom, sorry.
-/
import Derived.Test.YtcanhegjhbhkhaaDoorChecked
import GoSem.PinnedTables
import GoSem.Claim
import GoSem.ClaimJoined
import GoSem.ClaimMapViews
import Derived.JoinedTies
import Derived.KernelRfl
namespace Go.Proofs.YtcanhegjhbhkhaaDoor
/- THE CELL 'sum', in the pinned program and in every row, IS THE sha256 OF THE DUMP (.gsa) THAT YtcanhegjhbhkhaaDoorProg.lean LOADS. Nothing in Lean hashes anything: it is a label: what it is worth is what the hold of that sum in a sandbox is worth. -/
noncomputable def Tryd.pinned : Pinned := { name := "ytcanhegjhbhkhaadoor", sum := "39aad23e5f0aec4d2b707da247a15bd87f1fa9c0032d17d8a4e7c962aff63609", checked := Tryd.checked }
namespace Rows
def none {H : Type} : Left H := { results := [], args := [] }

/- WHAT THE LISTED PACKAGE-LEVEL VARIABLES READ AS WHEN THE CALL BEGINS. Each datum BY PROGRAM (the guide's laid-datum.mjs) off the statement by which the dump's own 'gosem.cut.vars' lays the variable. In a bare row this is a premise. The card (YtcanhegjhbhkhaaDoorCards.lean) ties it to the program's text. -/
def laid_unicode_utf8_acceptRanges {H : Type} : DataW H := .agg [.agg [.lit (.int .u8 128), .lit (.int .u8 191)], .agg [.lit (.int .u8 160), .lit (.int .u8 191)], .agg [.lit (.int .u8 128), .lit (.int .u8 159)], .agg [.lit (.int .u8 144), .lit (.int .u8 191)], .agg [.lit (.int .u8 128), .lit (.int .u8 143)], .agg [.lit (.int .u8 0), .lit (.int .u8 0)], .agg [.lit (.int .u8 0), .lit (.int .u8 0)], .agg [.lit (.int .u8 0), .lit (.int .u8 0)], .agg [.lit (.int .u8 0), .lit (.int .u8 0)], .agg [.lit (.int .u8 0), .lit (.int .u8 0)], .agg [.lit (.int .u8 0), .lit (.int .u8 0)], .agg [.lit (.int .u8 0), .lit (.int .u8 0)], .agg [.lit (.int .u8 0), .lit (.int .u8 0)], .agg [.lit (.int .u8 0), .lit (.int .u8 0)], .agg [.lit (.int .u8 0), .lit (.int .u8 0)], .agg [.lit (.int .u8 0), .lit (.int .u8 0)]]
/-- One of Go's own tables, pinned by name: the form's constant. -/
def laid_unicode_utf8_first : DataW Unit := Go.Pinned.utf8First
def laid_math_bits_deBruijn32tab {H : Type} : DataW H := .agg [.lit (.int .u8 0), .lit (.int .u8 1), .lit (.int .u8 28), .lit (.int .u8 2), .lit (.int .u8 29), .lit (.int .u8 14), .lit (.int .u8 24), .lit (.int .u8 3), .lit (.int .u8 30), .lit (.int .u8 22), .lit (.int .u8 20), .lit (.int .u8 15), .lit (.int .u8 25), .lit (.int .u8 17), .lit (.int .u8 4), .lit (.int .u8 8), .lit (.int .u8 31), .lit (.int .u8 27), .lit (.int .u8 13), .lit (.int .u8 23), .lit (.int .u8 21), .lit (.int .u8 19), .lit (.int .u8 16), .lit (.int .u8 7), .lit (.int .u8 26), .lit (.int .u8 12), .lit (.int .u8 18), .lit (.int .u8 6), .lit (.int .u8 11), .lit (.int .u8 5), .lit (.int .u8 10), .lit (.int .u8 9)]
def laid_math_bits_deBruijn64tab {H : Type} : DataW H := .agg [.lit (.int .u8 0), .lit (.int .u8 1), .lit (.int .u8 56), .lit (.int .u8 2), .lit (.int .u8 57), .lit (.int .u8 49), .lit (.int .u8 28), .lit (.int .u8 3), .lit (.int .u8 61), .lit (.int .u8 58), .lit (.int .u8 42), .lit (.int .u8 50), .lit (.int .u8 38), .lit (.int .u8 29), .lit (.int .u8 17), .lit (.int .u8 4), .lit (.int .u8 62), .lit (.int .u8 47), .lit (.int .u8 59), .lit (.int .u8 36), .lit (.int .u8 45), .lit (.int .u8 43), .lit (.int .u8 51), .lit (.int .u8 22), .lit (.int .u8 53), .lit (.int .u8 39), .lit (.int .u8 33), .lit (.int .u8 30), .lit (.int .u8 24), .lit (.int .u8 18), .lit (.int .u8 12), .lit (.int .u8 5), .lit (.int .u8 63), .lit (.int .u8 55), .lit (.int .u8 48), .lit (.int .u8 27), .lit (.int .u8 60), .lit (.int .u8 41), .lit (.int .u8 37), .lit (.int .u8 16), .lit (.int .u8 46), .lit (.int .u8 35), .lit (.int .u8 44), .lit (.int .u8 21), .lit (.int .u8 52), .lit (.int .u8 32), .lit (.int .u8 23), .lit (.int .u8 11), .lit (.int .u8 54), .lit (.int .u8 26), .lit (.int .u8 40), .lit (.int .u8 15), .lit (.int .u8 34), .lit (.int .u8 20), .lit (.int .u8 31), .lit (.int .u8 10), .lit (.int .u8 25), .lit (.int .u8 14), .lit (.int .u8 19), .lit (.int .u8 9), .lit (.int .u8 13), .lit (.int .u8 8), .lit (.int .u8 7), .lit (.int .u8 6)]
def laid_internal_strconv_uint64pow10 {H : Type} : DataW H := .agg [.lit (.int .u64 1), .lit (.int .u64 10), .lit (.int .u64 100), .lit (.int .u64 1000), .lit (.int .u64 10000), .lit (.int .u64 100000), .lit (.int .u64 1000000), .lit (.int .u64 10000000), .lit (.int .u64 100000000), .lit (.int .u64 1000000000), .lit (.int .u64 10000000000), .lit (.int .u64 100000000000), .lit (.int .u64 1000000000000), .lit (.int .u64 10000000000000), .lit (.int .u64 100000000000000), .lit (.int .u64 1000000000000000), .lit (.int .u64 10000000000000000), .lit (.int .u64 100000000000000000), .lit (.int .u64 1000000000000000000), .lit (.int .u64 10000000000000000000)]

/-- 'messuagelaw01.NodesetLists': WHATEVER THE INPUT: true; the input reads as it did. -/
def nodesetListsSpec : ChangeSpec := { name := "nodesetLists", fn := fun _ => fun
  | [d1, d2] => { results := [.lit (.bool true)], args := [d1, d2] }
  | _ => none }
def nodesetListsRow : OpenClaim := { program := "ytcanhegjhbhkhaadoor", sum := "39aad23e5f0aec4d2b707da247a15bd87f1fa9c0032d17d8a4e7c962aff63609", func := "messuage/messuagelaw01.NodesetLists", spec := "nodesetLists", inPlace := ["internal/abi.NoEscape", "internal/bytealg.MakeNoZero", "internal/bytealg.IndexByteString", "internal/bytealg.IndexString"], unfollowed := true, recurses := true, named := ["unicode/utf8.first", "unicode/utf8.acceptRanges", "internal/bytealg.MaxLen"], apart := false, laid := [("unicode/utf8.acceptRanges", laid_unicode_utf8_acceptRanges), ("unicode/utf8.first", laid_unicode_utf8_first)] }
def NodesetListsSaid : Prop := nodesetListsRow.holds Tryd.pinned (OpenSpec.ofChange nodesetListsSpec)

/-- ITS FALSE NEIGHBOUR: 'it returns false'. Refute it at one input. -/
def nodesetListsWrong : ChangeSpec := { name := "nodesetLists", fn := fun _ => fun
  | [d1, d2] => { results := [.lit (.bool false)], args := [d1, d2] }
  | _ => none }
def NodesetListsWrongFalsely : Prop := nodesetListsRow.holds Tryd.pinned (OpenSpec.ofChange nodesetListsWrong)

/-- 'messuagelaw01.NodesetParses': WHATEVER THE INPUT: true; the input reads as it did. -/
def nodesetParsesSpec : ChangeSpec := { name := "nodesetParses", fn := fun _ => fun
  | [d] => { results := [.lit (.bool true)], args := [d] }
  | _ => none }
def nodesetParsesRow : OpenClaim := { program := "ytcanhegjhbhkhaadoor", sum := "39aad23e5f0aec4d2b707da247a15bd87f1fa9c0032d17d8a4e7c962aff63609", func := "messuage/messuagelaw01.NodesetParses", spec := "nodesetParses", inPlace := ["internal/bytealg.IndexByteString", "internal/bytealg.IndexString", "internal/abi.NoEscape", "internal/bytealg.MakeNoZero"], unfollowed := true, recurses := true, named := ["unicode/utf8.first", "unicode/utf8.acceptRanges", "internal/bytealg.MaxLen"], apart := false, laid := [("unicode/utf8.acceptRanges", laid_unicode_utf8_acceptRanges), ("unicode/utf8.first", laid_unicode_utf8_first)] }
def NodesetParsesSaid : Prop := nodesetParsesRow.holds Tryd.pinned (OpenSpec.ofChange nodesetParsesSpec)

/-- ITS FALSE NEIGHBOUR: 'it returns false'. Refute it at one input. -/
def nodesetParsesWrong : ChangeSpec := { name := "nodesetParses", fn := fun _ => fun
  | [d] => { results := [.lit (.bool false)], args := [d] }
  | _ => none }
def NodesetParsesWrongFalsely : Prop := nodesetParsesRow.holds Tryd.pinned (OpenSpec.ofChange nodesetParsesWrong)

/-- 'messuagelaw01.NodesetMore': WHATEVER THE INPUT: true; the input reads as it did. -/
def nodesetMoreSpec : ChangeSpec := { name := "nodesetMore", fn := fun _ => fun
  | [d1, d2] => { results := [.lit (.bool true)], args := [d1, d2] }
  | _ => none }
def nodesetMoreRow : OpenClaim := { program := "ytcanhegjhbhkhaadoor", sum := "39aad23e5f0aec4d2b707da247a15bd87f1fa9c0032d17d8a4e7c962aff63609", func := "messuage/messuagelaw01.NodesetMore", spec := "nodesetMore", inPlace := ["internal/bytealg.IndexByteString", "internal/bytealg.IndexString", "internal/abi.NoEscape", "internal/bytealg.MakeNoZero"], unfollowed := true, recurses := true, named := ["unicode/utf8.first", "unicode/utf8.acceptRanges", "internal/bytealg.MaxLen"], apart := false, laid := [("unicode/utf8.acceptRanges", laid_unicode_utf8_acceptRanges), ("unicode/utf8.first", laid_unicode_utf8_first)] }
def NodesetMoreSaid : Prop := nodesetMoreRow.holds Tryd.pinned (OpenSpec.ofChange nodesetMoreSpec)

/-- ITS FALSE NEIGHBOUR: 'it returns false'. Refute it at one input. -/
def nodesetMoreWrong : ChangeSpec := { name := "nodesetMore", fn := fun _ => fun
  | [d1, d2] => { results := [.lit (.bool false)], args := [d1, d2] }
  | _ => none }
def NodesetMoreWrongFalsely : Prop := nodesetMoreRow.holds Tryd.pinned (OpenSpec.ofChange nodesetMoreWrong)

/-- 'messuagelaw01.NodesetCuts': WHATEVER THE INPUT: true; the input reads as it did. -/
def nodesetCutsSpec : ChangeSpec := { name := "nodesetCuts", fn := fun _ => fun
  | [d1, d2, d3] => { results := [.lit (.bool true)], args := [d1, d2, d3] }
  | _ => none }
def nodesetCutsRow : OpenClaim := { program := "ytcanhegjhbhkhaadoor", sum := "39aad23e5f0aec4d2b707da247a15bd87f1fa9c0032d17d8a4e7c962aff63609", func := "messuage/messuagelaw01.NodesetCuts", spec := "nodesetCuts", inPlace := ["internal/bytealg.IndexByteString", "internal/bytealg.IndexString", "internal/abi.NoEscape", "internal/bytealg.MakeNoZero"], unfollowed := true, recurses := true, named := ["unicode/utf8.first", "unicode/utf8.acceptRanges", "internal/bytealg.MaxLen"], apart := false, laid := [("unicode/utf8.acceptRanges", laid_unicode_utf8_acceptRanges), ("unicode/utf8.first", laid_unicode_utf8_first)] }
def NodesetCutsSaid : Prop := nodesetCutsRow.holds Tryd.pinned (OpenSpec.ofChange nodesetCutsSpec)

/-- ITS FALSE NEIGHBOUR: 'it returns false'. Refute it at one input. -/
def nodesetCutsWrong : ChangeSpec := { name := "nodesetCuts", fn := fun _ => fun
  | [d1, d2, d3] => { results := [.lit (.bool false)], args := [d1, d2, d3] }
  | _ => none }
def NodesetCutsWrongFalsely : Prop := nodesetCutsRow.holds Tryd.pinned (OpenSpec.ofChange nodesetCutsWrong)

/-- 'messuagelaw03.TopoLines': WHATEVER THE INPUT: true; the input reads as it did. -/
def topoLinesSpec : ChangeSpec := { name := "topoLines", fn := fun _ => fun
  | [d1, d2, d3] => { results := [.lit (.bool true)], args := [d1, d2, d3] }
  | _ => none }
def topoLinesRow : OpenClaim := { program := "ytcanhegjhbhkhaadoor", sum := "39aad23e5f0aec4d2b707da247a15bd87f1fa9c0032d17d8a4e7c962aff63609", func := "messuage/messuagelaw03.TopoLines", spec := "topoLines", inPlace := ["internal/bytealg.CountString", "internal/bytealg.IndexByteString", "internal/bytealg.IndexString"], unfollowed := true, recurses := true, named := ["unicode/utf8.first", "unicode/utf8.acceptRanges", "internal/bytealg.MaxLen"], apart := false, laid := [("unicode/utf8.acceptRanges", laid_unicode_utf8_acceptRanges), ("unicode/utf8.first", laid_unicode_utf8_first)] }
def TopoLinesSaid : Prop := topoLinesRow.holds Tryd.pinned (OpenSpec.ofChange topoLinesSpec)

/-- ITS FALSE NEIGHBOUR: 'it returns false'. Refute it at one input. -/
def topoLinesWrong : ChangeSpec := { name := "topoLines", fn := fun _ => fun
  | [d1, d2, d3] => { results := [.lit (.bool false)], args := [d1, d2, d3] }
  | _ => none }
def TopoLinesWrongFalsely : Prop := topoLinesRow.holds Tryd.pinned (OpenSpec.ofChange topoLinesWrong)

/-- 'messuagelaw03.TopoBents': WHATEVER THE INPUT: true; the input reads as it did. -/
def topoBentsSpec : ChangeSpec := { name := "topoBents", fn := fun _ => fun
  | [d1, d2, d3] => { results := [.lit (.bool true)], args := [d1, d2, d3] }
  | _ => none }
def topoBentsRow : OpenClaim := { program := "ytcanhegjhbhkhaadoor", sum := "39aad23e5f0aec4d2b707da247a15bd87f1fa9c0032d17d8a4e7c962aff63609", func := "messuage/messuagelaw03.TopoBents", spec := "topoBents", inPlace := ["internal/bytealg.CountString", "internal/bytealg.IndexByteString", "internal/bytealg.IndexString"], unfollowed := true, recurses := true, named := ["unicode/utf8.first", "unicode/utf8.acceptRanges", "internal/bytealg.MaxLen"], apart := false, laid := [("unicode/utf8.acceptRanges", laid_unicode_utf8_acceptRanges), ("unicode/utf8.first", laid_unicode_utf8_first)] }
def TopoBentsSaid : Prop := topoBentsRow.holds Tryd.pinned (OpenSpec.ofChange topoBentsSpec)

/-- ITS FALSE NEIGHBOUR: 'it returns false'. Refute it at one input. -/
def topoBentsWrong : ChangeSpec := { name := "topoBents", fn := fun _ => fun
  | [d1, d2, d3] => { results := [.lit (.bool false)], args := [d1, d2, d3] }
  | _ => none }
def TopoBentsWrongFalsely : Prop := topoBentsRow.holds Tryd.pinned (OpenSpec.ofChange topoBentsWrong)

/-- 'messuagelaw03.TopoChecks': WHATEVER THE INPUT: true; the input reads as it did. -/
def topoChecksSpec : ChangeSpec := { name := "topoChecks", fn := fun _ => fun
  | [d] => { results := [.lit (.bool true)], args := [d] }
  | _ => none }
def topoChecksRow : OpenClaim := { program := "ytcanhegjhbhkhaadoor", sum := "39aad23e5f0aec4d2b707da247a15bd87f1fa9c0032d17d8a4e7c962aff63609", func := "messuage/messuagelaw03.TopoChecks", spec := "topoChecks", inPlace := ["internal/bytealg.CountString", "internal/bytealg.IndexByteString", "internal/bytealg.IndexString"], unfollowed := true, recurses := true, named := ["internal/strconv.uint64pow10", "math/bits.deBruijn32tab", "math/bits.deBruijn64tab", "unicode/utf8.first", "unicode/utf8.acceptRanges", "internal/bytealg.MaxLen"], apart := false, laid := [("math/bits.deBruijn32tab", laid_math_bits_deBruijn32tab), ("math/bits.deBruijn64tab", laid_math_bits_deBruijn64tab), ("internal/strconv.uint64pow10", laid_internal_strconv_uint64pow10), ("unicode/utf8.acceptRanges", laid_unicode_utf8_acceptRanges), ("unicode/utf8.first", laid_unicode_utf8_first)] }
def TopoChecksSaid : Prop := topoChecksRow.holds Tryd.pinned (OpenSpec.ofChange topoChecksSpec)

/-- ITS FALSE NEIGHBOUR: 'it returns false'. Refute it at one input. -/
def topoChecksWrong : ChangeSpec := { name := "topoChecks", fn := fun _ => fun
  | [d] => { results := [.lit (.bool false)], args := [d] }
  | _ => none }
def TopoChecksWrongFalsely : Prop := topoChecksRow.holds Tryd.pinned (OpenSpec.ofChange topoChecksWrong)

/-- 'messuagelaw03.TopoParses': WHATEVER THE INPUT: true; the input reads as it did. -/
def topoParsesSpec : ChangeSpec := { name := "topoParses", fn := fun _ => fun
  | [d] => { results := [.lit (.bool true)], args := [d] }
  | _ => none }
def topoParsesRow : OpenClaim := { program := "ytcanhegjhbhkhaadoor", sum := "39aad23e5f0aec4d2b707da247a15bd87f1fa9c0032d17d8a4e7c962aff63609", func := "messuage/messuagelaw03.TopoParses", spec := "topoParses", inPlace := ["internal/bytealg.CountString", "internal/bytealg.IndexByteString", "internal/bytealg.IndexString"], unfollowed := true, recurses := true, named := ["unicode/utf8.first", "unicode/utf8.acceptRanges", "internal/bytealg.MaxLen", "internal/strconv.uint64pow10", "math/bits.deBruijn32tab", "math/bits.deBruijn64tab"], apart := false, laid := [("math/bits.deBruijn32tab", laid_math_bits_deBruijn32tab), ("math/bits.deBruijn64tab", laid_math_bits_deBruijn64tab), ("internal/strconv.uint64pow10", laid_internal_strconv_uint64pow10), ("unicode/utf8.acceptRanges", laid_unicode_utf8_acceptRanges), ("unicode/utf8.first", laid_unicode_utf8_first)] }
def TopoParsesSaid : Prop := topoParsesRow.holds Tryd.pinned (OpenSpec.ofChange topoParsesSpec)

/-- ITS FALSE NEIGHBOUR: 'it returns false'. Refute it at one input. -/
def topoParsesWrong : ChangeSpec := { name := "topoParses", fn := fun _ => fun
  | [d] => { results := [.lit (.bool false)], args := [d] }
  | _ => none }
def TopoParsesWrongFalsely : Prop := topoParsesRow.holds Tryd.pinned (OpenSpec.ofChange topoParsesWrong)

/- THE SECOND FORM. 'bulk': how many values and letters a reading holds, each counted each time it is reached (what is shared counts as often as it is met; a slice's spare places count too). A statement '..UptoSaid' is the law's where the arguments, and the package variables that the reading takes, are together of bulk at most 1048576: NARROWER than '..Said'. Prove '..Said' where nothing that the law and all that it calls make is longer than what came in: it says more and counts as full. Else prove '..UptoSaid'. A law counts once. -/
mutual
def uptoBulk {H : Type} : DataW H → Nat
  | .lit (.string bytes) => bytes.length + 1
  | .lit _ => 1
  | .nil => 1
  | .ptr d => uptoBulk d + 1
  | .slice elems spare => uptoBulkAll elems + uptoBulkAll spare + 1
  | .agg parts => uptoBulkAll parts + 1
  | .iface _ d => uptoBulk d + 1
  | .map entries => uptoBulkEntries entries + 1
  | .held _ => 1
def uptoBulkAll {H : Type} : List (DataW H) → Nat
  | [] => 0
  | d :: r => uptoBulk d + uptoBulkAll r
def uptoBulkEntries {H : Type} : List (Lit × DataW H) → Nat
  | [] => 0
  | x :: r => uptoBulkEntry x + uptoBulkEntries r
def uptoBulkEntry {H : Type} : Lit × DataW H → Nat
  | (.string bytes, d) => bytes.length + uptoBulk d + 1
  | (_, d) => uptoBulk d + 1
 end
def uptoSmall : (H : Type) → List (DataW H) → Bool := fun _ ds => decide (uptoBulkAll ds ≤ 1048576)
def OpenSpec.upto (s : _root_.Go.ChangeSpec) : _root_.Go.OpenSpec := { _root_.Go.OpenSpec.ofChange s with cond := some uptoSmall }

/-- 'messuagelaw01.NodesetLists', WHERE WHAT IT READS IS OF BULK AT MOST 1048576: true; the input reads as it did. -/
def nodesetListsUptoRow : OpenClaim := { program := "ytcanhegjhbhkhaadoor", sum := "39aad23e5f0aec4d2b707da247a15bd87f1fa9c0032d17d8a4e7c962aff63609", func := "messuage/messuagelaw01.NodesetLists", spec := "nodesetLists", inPlace := ["internal/abi.NoEscape", "internal/bytealg.MakeNoZero", "internal/bytealg.IndexByteString", "internal/bytealg.IndexString"], unfollowed := true, recurses := true, named := ["unicode/utf8.first", "unicode/utf8.acceptRanges", "internal/bytealg.MaxLen"], apart := false, laid := [("unicode/utf8.acceptRanges", laid_unicode_utf8_acceptRanges), ("unicode/utf8.first", laid_unicode_utf8_first)], narrowed := true }
def NodesetListsUptoSaid : Prop := nodesetListsUptoRow.holds Tryd.pinned (OpenSpec.upto nodesetListsSpec)

/-- 'messuagelaw01.NodesetParses', WHERE WHAT IT READS IS OF BULK AT MOST 1048576: true; the input reads as it did. -/
def nodesetParsesUptoRow : OpenClaim := { program := "ytcanhegjhbhkhaadoor", sum := "39aad23e5f0aec4d2b707da247a15bd87f1fa9c0032d17d8a4e7c962aff63609", func := "messuage/messuagelaw01.NodesetParses", spec := "nodesetParses", inPlace := ["internal/bytealg.IndexByteString", "internal/bytealg.IndexString", "internal/abi.NoEscape", "internal/bytealg.MakeNoZero"], unfollowed := true, recurses := true, named := ["unicode/utf8.first", "unicode/utf8.acceptRanges", "internal/bytealg.MaxLen"], apart := false, laid := [("unicode/utf8.acceptRanges", laid_unicode_utf8_acceptRanges), ("unicode/utf8.first", laid_unicode_utf8_first)], narrowed := true }
def NodesetParsesUptoSaid : Prop := nodesetParsesUptoRow.holds Tryd.pinned (OpenSpec.upto nodesetParsesSpec)

/-- 'messuagelaw01.NodesetMore', WHERE WHAT IT READS IS OF BULK AT MOST 1048576: true; the input reads as it did. -/
def nodesetMoreUptoRow : OpenClaim := { program := "ytcanhegjhbhkhaadoor", sum := "39aad23e5f0aec4d2b707da247a15bd87f1fa9c0032d17d8a4e7c962aff63609", func := "messuage/messuagelaw01.NodesetMore", spec := "nodesetMore", inPlace := ["internal/bytealg.IndexByteString", "internal/bytealg.IndexString", "internal/abi.NoEscape", "internal/bytealg.MakeNoZero"], unfollowed := true, recurses := true, named := ["unicode/utf8.first", "unicode/utf8.acceptRanges", "internal/bytealg.MaxLen"], apart := false, laid := [("unicode/utf8.acceptRanges", laid_unicode_utf8_acceptRanges), ("unicode/utf8.first", laid_unicode_utf8_first)], narrowed := true }
def NodesetMoreUptoSaid : Prop := nodesetMoreUptoRow.holds Tryd.pinned (OpenSpec.upto nodesetMoreSpec)

/-- 'messuagelaw01.NodesetCuts', WHERE WHAT IT READS IS OF BULK AT MOST 1048576: true; the input reads as it did. -/
def nodesetCutsUptoRow : OpenClaim := { program := "ytcanhegjhbhkhaadoor", sum := "39aad23e5f0aec4d2b707da247a15bd87f1fa9c0032d17d8a4e7c962aff63609", func := "messuage/messuagelaw01.NodesetCuts", spec := "nodesetCuts", inPlace := ["internal/bytealg.IndexByteString", "internal/bytealg.IndexString", "internal/abi.NoEscape", "internal/bytealg.MakeNoZero"], unfollowed := true, recurses := true, named := ["unicode/utf8.first", "unicode/utf8.acceptRanges", "internal/bytealg.MaxLen"], apart := false, laid := [("unicode/utf8.acceptRanges", laid_unicode_utf8_acceptRanges), ("unicode/utf8.first", laid_unicode_utf8_first)], narrowed := true }
def NodesetCutsUptoSaid : Prop := nodesetCutsUptoRow.holds Tryd.pinned (OpenSpec.upto nodesetCutsSpec)

/-- 'messuagelaw03.TopoLines', WHERE WHAT IT READS IS OF BULK AT MOST 1048576: true; the input reads as it did. -/
def topoLinesUptoRow : OpenClaim := { program := "ytcanhegjhbhkhaadoor", sum := "39aad23e5f0aec4d2b707da247a15bd87f1fa9c0032d17d8a4e7c962aff63609", func := "messuage/messuagelaw03.TopoLines", spec := "topoLines", inPlace := ["internal/bytealg.CountString", "internal/bytealg.IndexByteString", "internal/bytealg.IndexString"], unfollowed := true, recurses := true, named := ["unicode/utf8.first", "unicode/utf8.acceptRanges", "internal/bytealg.MaxLen"], apart := false, laid := [("unicode/utf8.acceptRanges", laid_unicode_utf8_acceptRanges), ("unicode/utf8.first", laid_unicode_utf8_first)], narrowed := true }
def TopoLinesUptoSaid : Prop := topoLinesUptoRow.holds Tryd.pinned (OpenSpec.upto topoLinesSpec)

/-- 'messuagelaw03.TopoBents', WHERE WHAT IT READS IS OF BULK AT MOST 1048576: true; the input reads as it did. -/
def topoBentsUptoRow : OpenClaim := { program := "ytcanhegjhbhkhaadoor", sum := "39aad23e5f0aec4d2b707da247a15bd87f1fa9c0032d17d8a4e7c962aff63609", func := "messuage/messuagelaw03.TopoBents", spec := "topoBents", inPlace := ["internal/bytealg.CountString", "internal/bytealg.IndexByteString", "internal/bytealg.IndexString"], unfollowed := true, recurses := true, named := ["unicode/utf8.first", "unicode/utf8.acceptRanges", "internal/bytealg.MaxLen"], apart := false, laid := [("unicode/utf8.acceptRanges", laid_unicode_utf8_acceptRanges), ("unicode/utf8.first", laid_unicode_utf8_first)], narrowed := true }
def TopoBentsUptoSaid : Prop := topoBentsUptoRow.holds Tryd.pinned (OpenSpec.upto topoBentsSpec)

/-- 'messuagelaw03.TopoChecks', WHERE WHAT IT READS IS OF BULK AT MOST 1048576: true; the input reads as it did. -/
def topoChecksUptoRow : OpenClaim := { program := "ytcanhegjhbhkhaadoor", sum := "39aad23e5f0aec4d2b707da247a15bd87f1fa9c0032d17d8a4e7c962aff63609", func := "messuage/messuagelaw03.TopoChecks", spec := "topoChecks", inPlace := ["internal/bytealg.CountString", "internal/bytealg.IndexByteString", "internal/bytealg.IndexString"], unfollowed := true, recurses := true, named := ["internal/strconv.uint64pow10", "math/bits.deBruijn32tab", "math/bits.deBruijn64tab", "unicode/utf8.first", "unicode/utf8.acceptRanges", "internal/bytealg.MaxLen"], apart := false, laid := [("math/bits.deBruijn32tab", laid_math_bits_deBruijn32tab), ("math/bits.deBruijn64tab", laid_math_bits_deBruijn64tab), ("internal/strconv.uint64pow10", laid_internal_strconv_uint64pow10), ("unicode/utf8.acceptRanges", laid_unicode_utf8_acceptRanges), ("unicode/utf8.first", laid_unicode_utf8_first)], narrowed := true }
def TopoChecksUptoSaid : Prop := topoChecksUptoRow.holds Tryd.pinned (OpenSpec.upto topoChecksSpec)

/-- 'messuagelaw03.TopoParses', WHERE WHAT IT READS IS OF BULK AT MOST 1048576: true; the input reads as it did. -/
def topoParsesUptoRow : OpenClaim := { program := "ytcanhegjhbhkhaadoor", sum := "39aad23e5f0aec4d2b707da247a15bd87f1fa9c0032d17d8a4e7c962aff63609", func := "messuage/messuagelaw03.TopoParses", spec := "topoParses", inPlace := ["internal/bytealg.CountString", "internal/bytealg.IndexByteString", "internal/bytealg.IndexString"], unfollowed := true, recurses := true, named := ["unicode/utf8.first", "unicode/utf8.acceptRanges", "internal/bytealg.MaxLen", "internal/strconv.uint64pow10", "math/bits.deBruijn32tab", "math/bits.deBruijn64tab"], apart := false, laid := [("math/bits.deBruijn32tab", laid_math_bits_deBruijn32tab), ("math/bits.deBruijn64tab", laid_math_bits_deBruijn64tab), ("internal/strconv.uint64pow10", laid_internal_strconv_uint64pow10), ("unicode/utf8.acceptRanges", laid_unicode_utf8_acceptRanges), ("unicode/utf8.first", laid_unicode_utf8_first)], narrowed := true }
def TopoParsesUptoSaid : Prop := topoParsesUptoRow.holds Tryd.pinned (OpenSpec.upto topoParsesSpec)

end Rows
end Go.Proofs.YtcanhegjhbhkhaaDoor
