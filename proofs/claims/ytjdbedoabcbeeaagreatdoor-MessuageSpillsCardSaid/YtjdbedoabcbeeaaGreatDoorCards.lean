/-
  DERIVED. GIVEN WITH THE SEED: THE CARDS: each row of YtjdbedoabcbeeaaGreatDoorRows.lean that lists a variable, with what it lists TIED to the program's text (the seventh form; the later family's looks); each row that meets fmt, with fmt's text TOLD by the authors' own Lean function (tested against real Go, not proved from fmt's source: count such statements apart). THE CARD IS WHAT COUNTS. Prove the row's statement (the work); the ties are given (YtjdbedoabcbeeaaGreatDoorTie.lean); close each card by the builder's one call (the guide's Derived/Test/ToyasCard.lean, 'card_holds'). Laid BY PROGRAM, IN A SANDBOX (cutbox-door.mjs). By AI agents, Wed Nov 11 2026. No macro, syntax, notation, axiom, sorry.
-/
import Derived.Test.YtjdbedoabcbeeaaGreatDoorRows
import GoSem.ClaimSeven
namespace Go.Proofs.YtjdbedoabcbeeaaGreatDoor
namespace Rows

/-- THE TIED CARD OF 'messuagetop.MessuageSpreads'. -/
def messuageSpreadsCard : Claim7 := { stood := { row := messuageSpreadsRow, standIns := [], harness := (true, "e51ba7e6094b7334e84a18b4b18ef7c1e04703b7b8fb1459798f7be9d62bdf3d"), looks := false }, kinds := [], alts := [], laidByText := true, laidKinds := [.data, .data, .pinned], laidTests := true, laidLooks := .later }
def MessuageSpreadsCardSaid : Prop := Claim7.holds Tryz.pinned (.plain (OpenSpec.ofChange messuageSpreadsSpec)) messuageSpreadsCard

/-- THE TIED CARD OF 'messuagetop.MessuageSpills'. -/
def messuageSpillsCard : Claim7 := { stood := { row := messuageSpillsRow, standIns := [], harness := (true, "e51ba7e6094b7334e84a18b4b18ef7c1e04703b7b8fb1459798f7be9d62bdf3d"), looks := false }, kinds := [], alts := [], laidByText := true, laidKinds := [.data, .data, .pinned], laidTests := true, laidLooks := .later }
def MessuageSpillsCardSaid : Prop := Claim7.holds Tryz.pinned (.plain (OpenSpec.ofChange messuageSpillsSpec)) messuageSpillsCard

/-- THE SECOND FORM's CARD OF 'messuagetop.MessuageSpreads'. -/
def messuageSpreadsUptoCard : Claim7 := { stood := { row := messuageSpreadsUptoRow, standIns := [], harness := (true, "e51ba7e6094b7334e84a18b4b18ef7c1e04703b7b8fb1459798f7be9d62bdf3d"), looks := false }, kinds := [], alts := [], laidByText := true, laidKinds := [.data, .data, .pinned], laidTests := true, laidLooks := .later }
def MessuageSpreadsUptoCardSaid : Prop := Claim7.holds Tryz.pinned (.plain (OpenSpec.upto messuageSpreadsSpec)) messuageSpreadsUptoCard

/-- THE SECOND FORM's CARD OF 'messuagetop.MessuageSpills'. -/
def messuageSpillsUptoCard : Claim7 := { stood := { row := messuageSpillsUptoRow, standIns := [], harness := (true, "e51ba7e6094b7334e84a18b4b18ef7c1e04703b7b8fb1459798f7be9d62bdf3d"), looks := false }, kinds := [], alts := [], laidByText := true, laidKinds := [.data, .data, .pinned], laidTests := true, laidLooks := .later }
def MessuageSpillsUptoCardSaid : Prop := Claim7.holds Tryz.pinned (.plain (OpenSpec.upto messuageSpillsSpec)) messuageSpillsUptoCard
end Rows
end Go.Proofs.YtjdbedoabcbeeaaGreatDoor
