/-
  DERIVED. GIVEN WITH THE SEED: THE CARDS: each row of YtdpcnbbaipdmjaaDoorRows.lean that lists a variable, with what it lists TIED to the program's text (the seventh form; the later family's looks); each row that meets fmt, with fmt's text TOLD by the authors' own Lean function (tested against real Go, not proved from fmt's source: count such statements apart). THE CARD IS WHAT COUNTS. Prove the row's statement (the work); the ties are given (YtdpcnbbaipdmjaaDoorTie.lean); close each card by the builder's one call (the guide's Derived/Test/ToyasCard.lean, 'card_holds'). Laid BY PROGRAM, IN A SANDBOX (cutbox-door.mjs). By AI agents, Wed Nov 11 2026. No macro, syntax, notation, axiom, sorry.
-/
import Derived.Test.YtdpcnbbaipdmjaaDoorRows
import GoSem.ClaimSeven
namespace Go.Proofs.YtdpcnbbaipdmjaaDoor
namespace Rows

/-- THE TIED CARD OF 'messuagelaw26.RuleParses'. -/
def ruleParsesCard : Claim7 := { stood := { row := ruleParsesRow, standIns := [], harness := (true, "63db85d4f8efa329dd17c1f83098e1d9aa33f993df142da920d6c910edada735"), looks := false }, kinds := [], alts := [], laidByText := true, laidKinds := [.data, .pinned], laidTests := true, laidLooks := .later }
def RuleParsesCardSaid : Prop := Claim7.holds Tryd.pinned (.plain (OpenSpec.ofChange ruleParsesSpec)) ruleParsesCard

/-- THE TIED CARD OF 'messuagelaw26.RuleTexts'. -/
def ruleTextsCard : Claim7 := { stood := { row := ruleTextsRow, standIns := [], harness := (true, "63db85d4f8efa329dd17c1f83098e1d9aa33f993df142da920d6c910edada735"), looks := false }, kinds := [], alts := [], laidByText := true, laidKinds := [.data, .pinned], laidTests := true, laidLooks := .later }
def RuleTextsCardSaid : Prop := Claim7.holds Tryd.pinned (.plain (OpenSpec.ofChange ruleTextsSpec)) ruleTextsCard

/-- THE TIED CARD OF 'messuagelaw26.RuleSame'. -/
def ruleSameCard : Claim7 := { stood := { row := ruleSameRow, standIns := [], harness := (true, "63db85d4f8efa329dd17c1f83098e1d9aa33f993df142da920d6c910edada735"), looks := false }, kinds := [], alts := [], laidByText := true, laidKinds := [.data, .pinned], laidTests := true, laidLooks := .later }
def RuleSameCardSaid : Prop := Claim7.holds Tryd.pinned (.plain (OpenSpec.ofChange ruleSameSpec)) ruleSameCard

/-- THE TIED CARD OF 'messuagelaw26.RuleJoins'. -/
def ruleJoinsCard : Claim7 := { stood := { row := ruleJoinsRow, standIns := [], harness := (true, "63db85d4f8efa329dd17c1f83098e1d9aa33f993df142da920d6c910edada735"), looks := false }, kinds := [], alts := [], laidByText := true, laidKinds := [.data, .pinned], laidTests := true, laidLooks := .later }
def RuleJoinsCardSaid : Prop := Claim7.holds Tryd.pinned (.plain (OpenSpec.ofChange ruleJoinsSpec)) ruleJoinsCard

/-- THE SECOND FORM's CARD OF 'messuagelaw26.RuleParses'. -/
def ruleParsesUptoCard : Claim7 := { stood := { row := ruleParsesUptoRow, standIns := [], harness := (true, "63db85d4f8efa329dd17c1f83098e1d9aa33f993df142da920d6c910edada735"), looks := false }, kinds := [], alts := [], laidByText := true, laidKinds := [.data, .pinned], laidTests := true, laidLooks := .later }
def RuleParsesUptoCardSaid : Prop := Claim7.holds Tryd.pinned (.plain (OpenSpec.upto ruleParsesSpec)) ruleParsesUptoCard

/-- THE SECOND FORM's CARD OF 'messuagelaw26.RuleTexts'. -/
def ruleTextsUptoCard : Claim7 := { stood := { row := ruleTextsUptoRow, standIns := [], harness := (true, "63db85d4f8efa329dd17c1f83098e1d9aa33f993df142da920d6c910edada735"), looks := false }, kinds := [], alts := [], laidByText := true, laidKinds := [.data, .pinned], laidTests := true, laidLooks := .later }
def RuleTextsUptoCardSaid : Prop := Claim7.holds Tryd.pinned (.plain (OpenSpec.upto ruleTextsSpec)) ruleTextsUptoCard

/-- THE SECOND FORM's CARD OF 'messuagelaw26.RuleSame'. -/
def ruleSameUptoCard : Claim7 := { stood := { row := ruleSameUptoRow, standIns := [], harness := (true, "63db85d4f8efa329dd17c1f83098e1d9aa33f993df142da920d6c910edada735"), looks := false }, kinds := [], alts := [], laidByText := true, laidKinds := [.data, .pinned], laidTests := true, laidLooks := .later }
def RuleSameUptoCardSaid : Prop := Claim7.holds Tryd.pinned (.plain (OpenSpec.upto ruleSameSpec)) ruleSameUptoCard

/-- THE SECOND FORM's CARD OF 'messuagelaw26.RuleJoins'. -/
def ruleJoinsUptoCard : Claim7 := { stood := { row := ruleJoinsUptoRow, standIns := [], harness := (true, "63db85d4f8efa329dd17c1f83098e1d9aa33f993df142da920d6c910edada735"), looks := false }, kinds := [], alts := [], laidByText := true, laidKinds := [.data, .pinned], laidTests := true, laidLooks := .later }
def RuleJoinsUptoCardSaid : Prop := Claim7.holds Tryd.pinned (.plain (OpenSpec.upto ruleJoinsSpec)) ruleJoinsUptoCard
end Rows
end Go.Proofs.YtdpcnbbaipdmjaaDoor
