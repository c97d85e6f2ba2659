/-
  DERIVED. GIVEN WITH THE SEED: THE CARDS: each row of YtbgnaohjcfbaaaaDoorRows.lean that lists a variable, with what it lists TIED to the program's text (the seventh form; the later family's looks); each row that meets fmt, with fmt's text TOLD by the authors' own Lean function (tested against real Go, not proved from fmt's source: count such statements apart). THE CARD IS WHAT COUNTS. Prove the row's statement (the work); the ties are given (YtbgnaohjcfbaaaaDoorTie.lean); close each card by the builder's one call (the guide's Derived/Test/ToyasCard.lean, 'card_holds'). Laid BY PROGRAM, IN A SANDBOX (cutbox-door.mjs). By AI agents, Wed Nov 11 2026. No macro, syntax, notation, axiom, sorry.
-/
import Derived.Test.YtbgnaohjcfbaaaaDoorRows
import GoSem.ClaimSeven
namespace Go.Proofs.YtbgnaohjcfbaaaaDoor
namespace Rows

/-- THE TIED CARD OF 'messuagetop.MessuagePages'. -/
def messuagePagesCard : Claim7 := { stood := { row := messuagePagesRow, standIns := [], harness := (true, "e7e248bcc8e7d9cbf5c919f3605e764a567b5caa1bfea9e92dfce097b50f8f77"), looks := false }, kinds := [], alts := [], laidByText := true, laidKinds := [.data, .pinned], laidTests := true, laidLooks := .later }
def MessuagePagesCardSaid : Prop := Claim7.holds Tryd.pinned (.plain (OpenSpec.ofChange messuagePagesSpec)) messuagePagesCard

/-- THE TIED CARD OF 'messuagetop.MessuageOrders'. -/
def messuageOrdersCard : Claim7 := { stood := { row := messuageOrdersRow, standIns := [], harness := (true, "e7e248bcc8e7d9cbf5c919f3605e764a567b5caa1bfea9e92dfce097b50f8f77"), looks := false }, kinds := [], alts := [], laidByText := true, laidKinds := [.data, .data, .data, .data, .pinned], laidTests := true, laidLooks := .later }
def MessuageOrdersCardSaid : Prop := Claim7.holds Tryd.pinned (.plain (OpenSpec.ofChange messuageOrdersSpec)) messuageOrdersCard

/-- THE SECOND FORM's CARD OF 'messuagetop.MessuagePages'. -/
def messuagePagesUptoCard : Claim7 := { stood := { row := messuagePagesUptoRow, standIns := [], harness := (true, "e7e248bcc8e7d9cbf5c919f3605e764a567b5caa1bfea9e92dfce097b50f8f77"), looks := false }, kinds := [], alts := [], laidByText := true, laidKinds := [.data, .pinned], laidTests := true, laidLooks := .later }
def MessuagePagesUptoCardSaid : Prop := Claim7.holds Tryd.pinned (.plain (OpenSpec.upto messuagePagesSpec)) messuagePagesUptoCard

/-- THE SECOND FORM's CARD OF 'messuagetop.MessuageOrders'. -/
def messuageOrdersUptoCard : Claim7 := { stood := { row := messuageOrdersUptoRow, standIns := [], harness := (true, "e7e248bcc8e7d9cbf5c919f3605e764a567b5caa1bfea9e92dfce097b50f8f77"), looks := false }, kinds := [], alts := [], laidByText := true, laidKinds := [.data, .data, .data, .data, .pinned], laidTests := true, laidLooks := .later }
def MessuageOrdersUptoCardSaid : Prop := Claim7.holds Tryd.pinned (.plain (OpenSpec.upto messuageOrdersSpec)) messuageOrdersUptoCard
end Rows
end Go.Proofs.YtbgnaohjcfbaaaaDoor
