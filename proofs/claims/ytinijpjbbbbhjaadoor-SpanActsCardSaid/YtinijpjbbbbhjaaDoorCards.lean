/-
  DERIVED. GIVEN WITH THE SEED: THE CARDS: each row of YtinijpjbbbbhjaaDoorRows.lean that lists a variable, with what it lists TIED to the program's text (the seventh form; the later family's looks); each row that meets fmt, with fmt's text TOLD by the authors' own Lean function (tested against real Go, not proved from fmt's source: count such statements apart). THE CARD IS WHAT COUNTS. Prove the row's statement (the work); the ties are given (YtinijpjbbbbhjaaDoorTie.lean); close each card by the builder's one call (the guide's Derived/Test/ToyasCard.lean, 'card_holds'). Laid BY PROGRAM, IN A SANDBOX (cutbox-door.mjs). By AI agents, Wed Nov 11 2026. No macro, syntax, notation, axiom, sorry.
-/
import Derived.Test.YtinijpjbbbbhjaaDoorRows
import GoSem.ClaimSeven
namespace Go.Proofs.YtinijpjbbbbhjaaDoor
namespace Rows

/-- THE TIED CARD OF 'messuagelaw12.ClassTells'. -/
def classTellsCard : Claim7 := { stood := { row := classTellsRow, standIns := [], harness := (true, "ddfc816d5fa8e3166ee114be6a8305462c4083d0d70bc78ef99f459c92945964"), looks := false }, kinds := [], alts := [], laidByText := true, laidKinds := [.data], laidTests := true, laidLooks := .later }
def ClassTellsCardSaid : Prop := Claim7.holds Tryd.pinned (.plain (OpenSpec.ofChange classTellsSpec)) classTellsCard

/-- THE TIED CARD OF 'messuagelaw12.ClassFits'. -/
def classFitsCard : Claim7 := { stood := { row := classFitsRow, standIns := [], harness := (true, "ddfc816d5fa8e3166ee114be6a8305462c4083d0d70bc78ef99f459c92945964"), looks := false }, kinds := [], alts := [], laidByText := true, laidKinds := [.data], laidTests := true, laidLooks := .later }
def ClassFitsCardSaid : Prop := Claim7.holds Tryd.pinned (.plain (OpenSpec.ofChange classFitsSpec)) classFitsCard

/-- THE TIED CARD OF 'messuagelaw12.ClassRows'. -/
def classRowsCard : Claim7 := { stood := { row := classRowsRow, standIns := [], harness := (true, "ddfc816d5fa8e3166ee114be6a8305462c4083d0d70bc78ef99f459c92945964"), looks := false }, kinds := [], alts := [], laidByText := true, laidKinds := [.data], laidTests := true, laidLooks := .later }
def ClassRowsCardSaid : Prop := Claim7.holds Tryd.pinned (.plain (OpenSpec.ofChange classRowsSpec)) classRowsCard

/-- THE TIED CARD OF 'messuagelaw13.SpanPlaces'. -/
def spanPlacesCard : Claim7 := { stood := { row := spanPlacesRow, standIns := [], harness := (true, "ddfc816d5fa8e3166ee114be6a8305462c4083d0d70bc78ef99f459c92945964"), looks := false }, kinds := [], alts := [], laidByText := true, laidKinds := [.data], laidTests := true, laidLooks := .later }
def SpanPlacesCardSaid : Prop := Claim7.holds Tryd.pinned (.plain (OpenSpec.ofChange spanPlacesSpec)) spanPlacesCard

/-- THE TIED CARD OF 'messuagelaw13.SpanFills'. -/
def spanFillsCard : Claim7 := { stood := { row := spanFillsRow, standIns := [], harness := (true, "ddfc816d5fa8e3166ee114be6a8305462c4083d0d70bc78ef99f459c92945964"), looks := false }, kinds := [], alts := [], laidByText := true, laidKinds := [.data], laidTests := true, laidLooks := .later }
def SpanFillsCardSaid : Prop := Claim7.holds Tryd.pinned (.plain (OpenSpec.ofChange spanFillsSpec)) spanFillsCard

/-- THE TIED CARD OF 'messuagelaw13.SpanActs'. -/
def spanActsCard : Claim7 := { stood := { row := spanActsRow, standIns := [], harness := (true, "ddfc816d5fa8e3166ee114be6a8305462c4083d0d70bc78ef99f459c92945964"), looks := false }, kinds := [], alts := [], laidByText := true, laidKinds := [.data], laidTests := true, laidLooks := .later }
def SpanActsCardSaid : Prop := Claim7.holds Tryd.pinned (.plain (OpenSpec.ofChange spanActsSpec)) spanActsCard

/-- THE SECOND FORM's CARD OF 'messuagelaw12.ClassTells'. -/
def classTellsUptoCard : Claim7 := { stood := { row := classTellsUptoRow, standIns := [], harness := (true, "ddfc816d5fa8e3166ee114be6a8305462c4083d0d70bc78ef99f459c92945964"), looks := false }, kinds := [], alts := [], laidByText := true, laidKinds := [.data], laidTests := true, laidLooks := .later }
def ClassTellsUptoCardSaid : Prop := Claim7.holds Tryd.pinned (.plain (OpenSpec.upto classTellsSpec)) classTellsUptoCard

/-- THE SECOND FORM's CARD OF 'messuagelaw12.ClassFits'. -/
def classFitsUptoCard : Claim7 := { stood := { row := classFitsUptoRow, standIns := [], harness := (true, "ddfc816d5fa8e3166ee114be6a8305462c4083d0d70bc78ef99f459c92945964"), looks := false }, kinds := [], alts := [], laidByText := true, laidKinds := [.data], laidTests := true, laidLooks := .later }
def ClassFitsUptoCardSaid : Prop := Claim7.holds Tryd.pinned (.plain (OpenSpec.upto classFitsSpec)) classFitsUptoCard

/-- THE SECOND FORM's CARD OF 'messuagelaw12.ClassRows'. -/
def classRowsUptoCard : Claim7 := { stood := { row := classRowsUptoRow, standIns := [], harness := (true, "ddfc816d5fa8e3166ee114be6a8305462c4083d0d70bc78ef99f459c92945964"), looks := false }, kinds := [], alts := [], laidByText := true, laidKinds := [.data], laidTests := true, laidLooks := .later }
def ClassRowsUptoCardSaid : Prop := Claim7.holds Tryd.pinned (.plain (OpenSpec.upto classRowsSpec)) classRowsUptoCard

/-- THE SECOND FORM's CARD OF 'messuagelaw13.SpanPlaces'. -/
def spanPlacesUptoCard : Claim7 := { stood := { row := spanPlacesUptoRow, standIns := [], harness := (true, "ddfc816d5fa8e3166ee114be6a8305462c4083d0d70bc78ef99f459c92945964"), looks := false }, kinds := [], alts := [], laidByText := true, laidKinds := [.data], laidTests := true, laidLooks := .later }
def SpanPlacesUptoCardSaid : Prop := Claim7.holds Tryd.pinned (.plain (OpenSpec.upto spanPlacesSpec)) spanPlacesUptoCard

/-- THE SECOND FORM's CARD OF 'messuagelaw13.SpanFills'. -/
def spanFillsUptoCard : Claim7 := { stood := { row := spanFillsUptoRow, standIns := [], harness := (true, "ddfc816d5fa8e3166ee114be6a8305462c4083d0d70bc78ef99f459c92945964"), looks := false }, kinds := [], alts := [], laidByText := true, laidKinds := [.data], laidTests := true, laidLooks := .later }
def SpanFillsUptoCardSaid : Prop := Claim7.holds Tryd.pinned (.plain (OpenSpec.upto spanFillsSpec)) spanFillsUptoCard

/-- THE SECOND FORM's CARD OF 'messuagelaw13.SpanActs'. -/
def spanActsUptoCard : Claim7 := { stood := { row := spanActsUptoRow, standIns := [], harness := (true, "ddfc816d5fa8e3166ee114be6a8305462c4083d0d70bc78ef99f459c92945964"), looks := false }, kinds := [], alts := [], laidByText := true, laidKinds := [.data], laidTests := true, laidLooks := .later }
def SpanActsUptoCardSaid : Prop := Claim7.holds Tryd.pinned (.plain (OpenSpec.upto spanActsSpec)) spanActsUptoCard
end Rows
end Go.Proofs.YtinijpjbbbbhjaaDoor
