/-
  NARROWER THAN 'FOR EVERY INPUT', by the rows' own cells (each row's printed sentence says how): RuleParses: laid · RuleTexts: laid · RuleSame: laid · RuleJoins: laid.
  DERIVED. THE GIVEN ROWS OF THIS SEAT. 4 by the template 'for every input the law returns true; each argument reads behind the call as it read before'; 0 by the template 'total and deterministic' (their statements: YtdpcnbbaipdmjaaDoorTotals.lean).
  GIVEN WITH THE SEED: the statements are not yours to turn. If you find one false, say at which input.
  Laid BY PROGRAM, IN A SANDBOX (cutbox-rows.mjs): the forced cells as the released guide's own fill.sh prints them over the translation 041f47b0ec3af693… (all of the seat's roots in one cut). By AI agents, Wed Nov 11 2026. No macro, syntax, notation, axiom, sorry.
-/
import Derived.Test.YtdpcnbbaipdmjaaDoorChecked
import GoSem.PinnedTables
import GoSem.Claim
import GoSem.ClaimJoined
import GoSem.ClaimMapViews
import Derived.JoinedTies
import Derived.KernelRfl
namespace Go.Proofs.YtdpcnbbaipdmjaaDoor
/- THE CELL 'sum', in the pinned program and in every row, IS THE sha256 OF THE DUMP (.gsa) THAT YtdpcnbbaipdmjaaDoorProg.lean LOADS. Nothing in Lean hashes anything: it is a label: what it is worth is what the hold of that sum in a sandbox is worth. -/
noncomputable def Tryd.pinned : Pinned := { name := "ytdpcnbbaipdmjaadoor", sum := "041f47b0ec3af6935dc81936c5ee906e5f8ac4ab757ee340c4344c08396a3431", checked := Tryd.checked }
namespace Rows
def none {H : Type} : Left H := { results := [], args := [] }

/- WHAT THE LISTED PACKAGE-LEVEL VARIABLES READ AS WHEN THE CALL BEGINS. Each datum BY PROGRAM (the guide's laid-datum.mjs) off the statement by which the dump's own 'gosem.cut.vars' lays the variable. In a bare row this is a premise. The card (YtdpcnbbaipdmjaaDoorCards.lean) ties it to the program's text. -/
def laid_unicode_utf8_acceptRanges {H : Type} : DataW H := .agg [.agg [.lit (.int .u8 128), .lit (.int .u8 191)], .agg [.lit (.int .u8 160), .lit (.int .u8 191)], .agg [.lit (.int .u8 128), .lit (.int .u8 159)], .agg [.lit (.int .u8 144), .lit (.int .u8 191)], .agg [.lit (.int .u8 128), .lit (.int .u8 143)], .agg [.lit (.int .u8 0), .lit (.int .u8 0)], .agg [.lit (.int .u8 0), .lit (.int .u8 0)], .agg [.lit (.int .u8 0), .lit (.int .u8 0)], .agg [.lit (.int .u8 0), .lit (.int .u8 0)], .agg [.lit (.int .u8 0), .lit (.int .u8 0)], .agg [.lit (.int .u8 0), .lit (.int .u8 0)], .agg [.lit (.int .u8 0), .lit (.int .u8 0)], .agg [.lit (.int .u8 0), .lit (.int .u8 0)], .agg [.lit (.int .u8 0), .lit (.int .u8 0)], .agg [.lit (.int .u8 0), .lit (.int .u8 0)], .agg [.lit (.int .u8 0), .lit (.int .u8 0)]]
/-- One of Go's own tables, pinned by name: the form's constant. -/
def laid_unicode_utf8_first : DataW Unit := Go.Pinned.utf8First

/-- 'messuagelaw26.RuleParses': WHATEVER THE INPUT: true; the input reads as it did. -/
def ruleParsesSpec : ChangeSpec := { name := "ruleParses", fn := fun _ => fun
  | [d] => { results := [.lit (.bool true)], args := [d] }
  | _ => none }
def ruleParsesRow : OpenClaim := { program := "ytdpcnbbaipdmjaadoor", sum := "041f47b0ec3af6935dc81936c5ee906e5f8ac4ab757ee340c4344c08396a3431", func := "messuage/messuagelaw26.RuleParses", spec := "ruleParses", inPlace := ["internal/bytealg.IndexByteString", "internal/bytealg.IndexString"], unfollowed := true, recurses := true, named := ["unicode/utf8.first", "unicode/utf8.acceptRanges", "internal/bytealg.MaxLen"], apart := false, laid := [("unicode/utf8.acceptRanges", laid_unicode_utf8_acceptRanges), ("unicode/utf8.first", laid_unicode_utf8_first)] }
def RuleParsesSaid : Prop := ruleParsesRow.holds Tryd.pinned (OpenSpec.ofChange ruleParsesSpec)

/-- ITS FALSE NEIGHBOUR: 'it returns false'. Refute it at one input. -/
def ruleParsesWrong : ChangeSpec := { name := "ruleParses", fn := fun _ => fun
  | [d] => { results := [.lit (.bool false)], args := [d] }
  | _ => none }
def RuleParsesWrongFalsely : Prop := ruleParsesRow.holds Tryd.pinned (OpenSpec.ofChange ruleParsesWrong)

/-- 'messuagelaw26.RuleTexts': WHATEVER THE INPUT: true; the input reads as it did. -/
def ruleTextsSpec : ChangeSpec := { name := "ruleTexts", fn := fun _ => fun
  | [d] => { results := [.lit (.bool true)], args := [d] }
  | _ => none }
def ruleTextsRow : OpenClaim := { program := "ytdpcnbbaipdmjaadoor", sum := "041f47b0ec3af6935dc81936c5ee906e5f8ac4ab757ee340c4344c08396a3431", func := "messuage/messuagelaw26.RuleTexts", spec := "ruleTexts", inPlace := ["internal/abi.NoEscape", "internal/bytealg.MakeNoZero", "internal/bytealg.IndexByteString", "internal/bytealg.IndexString"], unfollowed := true, recurses := true, named := ["unicode/utf8.first", "unicode/utf8.acceptRanges", "internal/bytealg.MaxLen"], apart := false, laid := [("unicode/utf8.acceptRanges", laid_unicode_utf8_acceptRanges), ("unicode/utf8.first", laid_unicode_utf8_first)] }
def RuleTextsSaid : Prop := ruleTextsRow.holds Tryd.pinned (OpenSpec.ofChange ruleTextsSpec)

/-- ITS FALSE NEIGHBOUR: 'it returns false'. Refute it at one input. -/
def ruleTextsWrong : ChangeSpec := { name := "ruleTexts", fn := fun _ => fun
  | [d] => { results := [.lit (.bool false)], args := [d] }
  | _ => none }
def RuleTextsWrongFalsely : Prop := ruleTextsRow.holds Tryd.pinned (OpenSpec.ofChange ruleTextsWrong)

/-- 'messuagelaw26.RuleSame': WHATEVER THE INPUT: true; the input reads as it did. -/
def ruleSameSpec : ChangeSpec := { name := "ruleSame", fn := fun _ => fun
  | [d1, d2] => { results := [.lit (.bool true)], args := [d1, d2] }
  | _ => none }
def ruleSameRow : OpenClaim := { program := "ytdpcnbbaipdmjaadoor", sum := "041f47b0ec3af6935dc81936c5ee906e5f8ac4ab757ee340c4344c08396a3431", func := "messuage/messuagelaw26.RuleSame", spec := "ruleSame", inPlace := ["internal/bytealg.IndexByteString", "internal/bytealg.IndexString", "internal/abi.NoEscape", "internal/bytealg.MakeNoZero"], unfollowed := true, recurses := true, named := ["unicode/utf8.first", "unicode/utf8.acceptRanges", "internal/bytealg.MaxLen"], apart := false, laid := [("unicode/utf8.acceptRanges", laid_unicode_utf8_acceptRanges), ("unicode/utf8.first", laid_unicode_utf8_first)] }
def RuleSameSaid : Prop := ruleSameRow.holds Tryd.pinned (OpenSpec.ofChange ruleSameSpec)

/-- ITS FALSE NEIGHBOUR: 'it returns false'. Refute it at one input. -/
def ruleSameWrong : ChangeSpec := { name := "ruleSame", fn := fun _ => fun
  | [d1, d2] => { results := [.lit (.bool false)], args := [d1, d2] }
  | _ => none }
def RuleSameWrongFalsely : Prop := ruleSameRow.holds Tryd.pinned (OpenSpec.ofChange ruleSameWrong)

/-- 'messuagelaw26.RuleJoins': WHATEVER THE INPUT: true; the input reads as it did. -/
def ruleJoinsSpec : ChangeSpec := { name := "ruleJoins", fn := fun _ => fun
  | [d1, d2] => { results := [.lit (.bool true)], args := [d1, d2] }
  | _ => none }
def ruleJoinsRow : OpenClaim := { program := "ytdpcnbbaipdmjaadoor", sum := "041f47b0ec3af6935dc81936c5ee906e5f8ac4ab757ee340c4344c08396a3431", func := "messuage/messuagelaw26.RuleJoins", spec := "ruleJoins", inPlace := ["internal/bytealg.IndexByteString", "internal/bytealg.IndexString", "internal/abi.NoEscape", "internal/bytealg.MakeNoZero"], unfollowed := true, recurses := true, named := ["unicode/utf8.first", "unicode/utf8.acceptRanges", "internal/bytealg.MaxLen"], apart := false, laid := [("unicode/utf8.acceptRanges", laid_unicode_utf8_acceptRanges), ("unicode/utf8.first", laid_unicode_utf8_first)] }
def RuleJoinsSaid : Prop := ruleJoinsRow.holds Tryd.pinned (OpenSpec.ofChange ruleJoinsSpec)

/-- ITS FALSE NEIGHBOUR: 'it returns false'. Refute it at one input. -/
def ruleJoinsWrong : ChangeSpec := { name := "ruleJoins", fn := fun _ => fun
  | [d1, d2] => { results := [.lit (.bool false)], args := [d1, d2] }
  | _ => none }
def RuleJoinsWrongFalsely : Prop := ruleJoinsRow.holds Tryd.pinned (OpenSpec.ofChange ruleJoinsWrong)

/- THE SECOND FORM. 'bulk': how many values and letters a reading holds, each counted each time it is reached (what is shared counts as often as it is met; a slice's spare places count too). A statement '..UptoSaid' is the law's where the arguments, and the package variables that the reading takes, are together of bulk at most 1048576: NARROWER than '..Said'. Prove '..Said' where nothing that the law and all that it calls make is longer than what came in: it says more and counts as full. Else prove '..UptoSaid'. A law counts once. -/
mutual
def uptoBulk {H : Type} : DataW H → Nat
  | .lit (.string bytes) => bytes.length + 1
  | .lit _ => 1
  | .nil => 1
  | .ptr d => uptoBulk d + 1
  | .slice elems spare => uptoBulkAll elems + uptoBulkAll spare + 1
  | .agg parts => uptoBulkAll parts + 1
  | .iface _ d => uptoBulk d + 1
  | .map entries => uptoBulkEntries entries + 1
  | .held _ => 1
def uptoBulkAll {H : Type} : List (DataW H) → Nat
  | [] => 0
  | d :: r => uptoBulk d + uptoBulkAll r
def uptoBulkEntries {H : Type} : List (Lit × DataW H) → Nat
  | [] => 0
  | x :: r => uptoBulkEntry x + uptoBulkEntries r
def uptoBulkEntry {H : Type} : Lit × DataW H → Nat
  | (.string bytes, d) => bytes.length + uptoBulk d + 1
  | (_, d) => uptoBulk d + 1
 end
def uptoSmall : (H : Type) → List (DataW H) → Bool := fun _ ds => decide (uptoBulkAll ds ≤ 1048576)
def OpenSpec.upto (s : _root_.Go.ChangeSpec) : _root_.Go.OpenSpec := { _root_.Go.OpenSpec.ofChange s with cond := some uptoSmall }

/-- 'messuagelaw26.RuleParses', WHERE WHAT IT READS IS OF BULK AT MOST 1048576: true; the input reads as it did. -/
def ruleParsesUptoRow : OpenClaim := { program := "ytdpcnbbaipdmjaadoor", sum := "041f47b0ec3af6935dc81936c5ee906e5f8ac4ab757ee340c4344c08396a3431", func := "messuage/messuagelaw26.RuleParses", spec := "ruleParses", inPlace := ["internal/bytealg.IndexByteString", "internal/bytealg.IndexString"], unfollowed := true, recurses := true, named := ["unicode/utf8.first", "unicode/utf8.acceptRanges", "internal/bytealg.MaxLen"], apart := false, laid := [("unicode/utf8.acceptRanges", laid_unicode_utf8_acceptRanges), ("unicode/utf8.first", laid_unicode_utf8_first)], narrowed := true }
def RuleParsesUptoSaid : Prop := ruleParsesUptoRow.holds Tryd.pinned (OpenSpec.upto ruleParsesSpec)

/-- 'messuagelaw26.RuleTexts', WHERE WHAT IT READS IS OF BULK AT MOST 1048576: true; the input reads as it did. -/
def ruleTextsUptoRow : OpenClaim := { program := "ytdpcnbbaipdmjaadoor", sum := "041f47b0ec3af6935dc81936c5ee906e5f8ac4ab757ee340c4344c08396a3431", func := "messuage/messuagelaw26.RuleTexts", spec := "ruleTexts", inPlace := ["internal/abi.NoEscape", "internal/bytealg.MakeNoZero", "internal/bytealg.IndexByteString", "internal/bytealg.IndexString"], unfollowed := true, recurses := true, named := ["unicode/utf8.first", "unicode/utf8.acceptRanges", "internal/bytealg.MaxLen"], apart := false, laid := [("unicode/utf8.acceptRanges", laid_unicode_utf8_acceptRanges), ("unicode/utf8.first", laid_unicode_utf8_first)], narrowed := true }
def RuleTextsUptoSaid : Prop := ruleTextsUptoRow.holds Tryd.pinned (OpenSpec.upto ruleTextsSpec)

/-- 'messuagelaw26.RuleSame', WHERE WHAT IT READS IS OF BULK AT MOST 1048576: true; the input reads as it did. -/
def ruleSameUptoRow : OpenClaim := { program := "ytdpcnbbaipdmjaadoor", sum := "041f47b0ec3af6935dc81936c5ee906e5f8ac4ab757ee340c4344c08396a3431", func := "messuage/messuagelaw26.RuleSame", spec := "ruleSame", inPlace := ["internal/bytealg.IndexByteString", "internal/bytealg.IndexString", "internal/abi.NoEscape", "internal/bytealg.MakeNoZero"], unfollowed := true, recurses := true, named := ["unicode/utf8.first", "unicode/utf8.acceptRanges", "internal/bytealg.MaxLen"], apart := false, laid := [("unicode/utf8.acceptRanges", laid_unicode_utf8_acceptRanges), ("unicode/utf8.first", laid_unicode_utf8_first)], narrowed := true }
def RuleSameUptoSaid : Prop := ruleSameUptoRow.holds Tryd.pinned (OpenSpec.upto ruleSameSpec)

/-- 'messuagelaw26.RuleJoins', WHERE WHAT IT READS IS OF BULK AT MOST 1048576: true; the input reads as it did. -/
def ruleJoinsUptoRow : OpenClaim := { program := "ytdpcnbbaipdmjaadoor", sum := "041f47b0ec3af6935dc81936c5ee906e5f8ac4ab757ee340c4344c08396a3431", func := "messuage/messuagelaw26.RuleJoins", spec := "ruleJoins", inPlace := ["internal/bytealg.IndexByteString", "internal/bytealg.IndexString", "internal/abi.NoEscape", "internal/bytealg.MakeNoZero"], unfollowed := true, recurses := true, named := ["unicode/utf8.first", "unicode/utf8.acceptRanges", "internal/bytealg.MaxLen"], apart := false, laid := [("unicode/utf8.acceptRanges", laid_unicode_utf8_acceptRanges), ("unicode/utf8.first", laid_unicode_utf8_first)], narrowed := true }
def RuleJoinsUptoSaid : Prop := ruleJoinsUptoRow.holds Tryd.pinned (OpenSpec.upto ruleJoinsSpec)

end Rows
end Go.Proofs.YtdpcnbbaipdmjaaDoor
