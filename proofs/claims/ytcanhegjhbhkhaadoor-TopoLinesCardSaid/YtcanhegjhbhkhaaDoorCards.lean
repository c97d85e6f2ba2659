/-
  DERIVED. GIVEN WITH THE SEED: THE CARDS: each row of YtcanhegjhbhkhaaDoorRows.lean that lists a variable, with what it lists TIED to the program's text (the seventh form; the later family's looks); each row that meets fmt, with fmt's text TOLD by the authors' own Lean function (tested against real Go, not proved from fmt's source: count such statements apart). THE CARD IS WHAT COUNTS. Prove the row's statement (the work); the ties are given (YtcanhegjhbhkhaaDoorTie.lean); close each card by the builder's one call (the guide's Derived/Test/ToyasCard.lean, 'card_holds'). Laid BY PROGRAM, IN A SANDBOX (cutbox-door.mjs). By AI agents, Wed Nov 11 2026. No macro, syntax, notation, axiom, sorry.
-/
import Derived.Test.YtcanhegjhbhkhaaDoorRows
import GoSem.ClaimSeven
namespace Go.Proofs.YtcanhegjhbhkhaaDoor
namespace Rows

/-- THE TIED CARD OF 'messuagelaw01.NodesetLists'. -/
def nodesetListsCard : Claim7 := { stood := { row := nodesetListsRow, standIns := [], harness := (true, "801d5d2c93d73892f4091848f905bd7e7444300ed68a4234c0dbcc0871c82cd2"), looks := false }, kinds := [], alts := [], laidByText := true, laidKinds := [.data, .pinned], laidTests := true, laidLooks := .later }
def NodesetListsCardSaid : Prop := Claim7.holds Tryd.pinned (.plain (OpenSpec.ofChange nodesetListsSpec)) nodesetListsCard

/-- THE TIED CARD OF 'messuagelaw01.NodesetParses'. -/
def nodesetParsesCard : Claim7 := { stood := { row := nodesetParsesRow, standIns := [], harness := (true, "801d5d2c93d73892f4091848f905bd7e7444300ed68a4234c0dbcc0871c82cd2"), looks := false }, kinds := [], alts := [], laidByText := true, laidKinds := [.data, .pinned], laidTests := true, laidLooks := .later }
def NodesetParsesCardSaid : Prop := Claim7.holds Tryd.pinned (.plain (OpenSpec.ofChange nodesetParsesSpec)) nodesetParsesCard

/-- THE TIED CARD OF 'messuagelaw01.NodesetMore'. -/
def nodesetMoreCard : Claim7 := { stood := { row := nodesetMoreRow, standIns := [], harness := (true, "801d5d2c93d73892f4091848f905bd7e7444300ed68a4234c0dbcc0871c82cd2"), looks := false }, kinds := [], alts := [], laidByText := true, laidKinds := [.data, .pinned], laidTests := true, laidLooks := .later }
def NodesetMoreCardSaid : Prop := Claim7.holds Tryd.pinned (.plain (OpenSpec.ofChange nodesetMoreSpec)) nodesetMoreCard

/-- THE TIED CARD OF 'messuagelaw01.NodesetCuts'. -/
def nodesetCutsCard : Claim7 := { stood := { row := nodesetCutsRow, standIns := [], harness := (true, "801d5d2c93d73892f4091848f905bd7e7444300ed68a4234c0dbcc0871c82cd2"), looks := false }, kinds := [], alts := [], laidByText := true, laidKinds := [.data, .pinned], laidTests := true, laidLooks := .later }
def NodesetCutsCardSaid : Prop := Claim7.holds Tryd.pinned (.plain (OpenSpec.ofChange nodesetCutsSpec)) nodesetCutsCard

/-- THE TIED CARD OF 'messuagelaw03.TopoLines'. -/
def topoLinesCard : Claim7 := { stood := { row := topoLinesRow, standIns := [], harness := (true, "801d5d2c93d73892f4091848f905bd7e7444300ed68a4234c0dbcc0871c82cd2"), looks := false }, kinds := [], alts := [], laidByText := true, laidKinds := [.data, .pinned], laidTests := true, laidLooks := .later }
def TopoLinesCardSaid : Prop := Claim7.holds Tryd.pinned (.plain (OpenSpec.ofChange topoLinesSpec)) topoLinesCard

/-- THE TIED CARD OF 'messuagelaw03.TopoBents'. -/
def topoBentsCard : Claim7 := { stood := { row := topoBentsRow, standIns := [], harness := (true, "801d5d2c93d73892f4091848f905bd7e7444300ed68a4234c0dbcc0871c82cd2"), looks := false }, kinds := [], alts := [], laidByText := true, laidKinds := [.data, .pinned], laidTests := true, laidLooks := .later }
def TopoBentsCardSaid : Prop := Claim7.holds Tryd.pinned (.plain (OpenSpec.ofChange topoBentsSpec)) topoBentsCard

/-- THE TIED CARD OF 'messuagelaw03.TopoChecks'. -/
def topoChecksCard : Claim7 := { stood := { row := topoChecksRow, standIns := [], harness := (true, "801d5d2c93d73892f4091848f905bd7e7444300ed68a4234c0dbcc0871c82cd2"), looks := false }, kinds := [], alts := [], laidByText := true, laidKinds := [.data, .data, .data, .data, .pinned], laidTests := true, laidLooks := .later }
def TopoChecksCardSaid : Prop := Claim7.holds Tryd.pinned (.plain (OpenSpec.ofChange topoChecksSpec)) topoChecksCard

/-- THE TIED CARD OF 'messuagelaw03.TopoParses'. -/
def topoParsesCard : Claim7 := { stood := { row := topoParsesRow, standIns := [], harness := (true, "801d5d2c93d73892f4091848f905bd7e7444300ed68a4234c0dbcc0871c82cd2"), looks := false }, kinds := [], alts := [], laidByText := true, laidKinds := [.data, .data, .data, .data, .pinned], laidTests := true, laidLooks := .later }
def TopoParsesCardSaid : Prop := Claim7.holds Tryd.pinned (.plain (OpenSpec.ofChange topoParsesSpec)) topoParsesCard

/-- THE SECOND FORM's CARD OF 'messuagelaw01.NodesetLists'. -/
def nodesetListsUptoCard : Claim7 := { stood := { row := nodesetListsUptoRow, standIns := [], harness := (true, "801d5d2c93d73892f4091848f905bd7e7444300ed68a4234c0dbcc0871c82cd2"), looks := false }, kinds := [], alts := [], laidByText := true, laidKinds := [.data, .pinned], laidTests := true, laidLooks := .later }
def NodesetListsUptoCardSaid : Prop := Claim7.holds Tryd.pinned (.plain (OpenSpec.upto nodesetListsSpec)) nodesetListsUptoCard

/-- THE SECOND FORM's CARD OF 'messuagelaw01.NodesetParses'. -/
def nodesetParsesUptoCard : Claim7 := { stood := { row := nodesetParsesUptoRow, standIns := [], harness := (true, "801d5d2c93d73892f4091848f905bd7e7444300ed68a4234c0dbcc0871c82cd2"), looks := false }, kinds := [], alts := [], laidByText := true, laidKinds := [.data, .pinned], laidTests := true, laidLooks := .later }
def NodesetParsesUptoCardSaid : Prop := Claim7.holds Tryd.pinned (.plain (OpenSpec.upto nodesetParsesSpec)) nodesetParsesUptoCard

/-- THE SECOND FORM's CARD OF 'messuagelaw01.NodesetMore'. -/
def nodesetMoreUptoCard : Claim7 := { stood := { row := nodesetMoreUptoRow, standIns := [], harness := (true, "801d5d2c93d73892f4091848f905bd7e7444300ed68a4234c0dbcc0871c82cd2"), looks := false }, kinds := [], alts := [], laidByText := true, laidKinds := [.data, .pinned], laidTests := true, laidLooks := .later }
def NodesetMoreUptoCardSaid : Prop := Claim7.holds Tryd.pinned (.plain (OpenSpec.upto nodesetMoreSpec)) nodesetMoreUptoCard

/-- THE SECOND FORM's CARD OF 'messuagelaw01.NodesetCuts'. -/
def nodesetCutsUptoCard : Claim7 := { stood := { row := nodesetCutsUptoRow, standIns := [], harness := (true, "801d5d2c93d73892f4091848f905bd7e7444300ed68a4234c0dbcc0871c82cd2"), looks := false }, kinds := [], alts := [], laidByText := true, laidKinds := [.data, .pinned], laidTests := true, laidLooks := .later }
def NodesetCutsUptoCardSaid : Prop := Claim7.holds Tryd.pinned (.plain (OpenSpec.upto nodesetCutsSpec)) nodesetCutsUptoCard

/-- THE SECOND FORM's CARD OF 'messuagelaw03.TopoLines'. -/
def topoLinesUptoCard : Claim7 := { stood := { row := topoLinesUptoRow, standIns := [], harness := (true, "801d5d2c93d73892f4091848f905bd7e7444300ed68a4234c0dbcc0871c82cd2"), looks := false }, kinds := [], alts := [], laidByText := true, laidKinds := [.data, .pinned], laidTests := true, laidLooks := .later }
def TopoLinesUptoCardSaid : Prop := Claim7.holds Tryd.pinned (.plain (OpenSpec.upto topoLinesSpec)) topoLinesUptoCard

/-- THE SECOND FORM's CARD OF 'messuagelaw03.TopoBents'. -/
def topoBentsUptoCard : Claim7 := { stood := { row := topoBentsUptoRow, standIns := [], harness := (true, "801d5d2c93d73892f4091848f905bd7e7444300ed68a4234c0dbcc0871c82cd2"), looks := false }, kinds := [], alts := [], laidByText := true, laidKinds := [.data, .pinned], laidTests := true, laidLooks := .later }
def TopoBentsUptoCardSaid : Prop := Claim7.holds Tryd.pinned (.plain (OpenSpec.upto topoBentsSpec)) topoBentsUptoCard

/-- THE SECOND FORM's CARD OF 'messuagelaw03.TopoChecks'. -/
def topoChecksUptoCard : Claim7 := { stood := { row := topoChecksUptoRow, standIns := [], harness := (true, "801d5d2c93d73892f4091848f905bd7e7444300ed68a4234c0dbcc0871c82cd2"), looks := false }, kinds := [], alts := [], laidByText := true, laidKinds := [.data, .data, .data, .data, .pinned], laidTests := true, laidLooks := .later }
def TopoChecksUptoCardSaid : Prop := Claim7.holds Tryd.pinned (.plain (OpenSpec.upto topoChecksSpec)) topoChecksUptoCard

/-- THE SECOND FORM's CARD OF 'messuagelaw03.TopoParses'. -/
def topoParsesUptoCard : Claim7 := { stood := { row := topoParsesUptoRow, standIns := [], harness := (true, "801d5d2c93d73892f4091848f905bd7e7444300ed68a4234c0dbcc0871c82cd2"), looks := false }, kinds := [], alts := [], laidByText := true, laidKinds := [.data, .data, .data, .data, .pinned], laidTests := true, laidLooks := .later }
def TopoParsesUptoCardSaid : Prop := Claim7.holds Tryd.pinned (.plain (OpenSpec.upto topoParsesSpec)) topoParsesUptoCard
end Rows
end Go.Proofs.YtcanhegjhbhkhaaDoor
