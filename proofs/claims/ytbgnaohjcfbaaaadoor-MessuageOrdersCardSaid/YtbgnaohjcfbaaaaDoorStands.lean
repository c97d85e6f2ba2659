/- The statements' stands: is a set read? -/
import Derived.Test.YtbgnaohjcfbaaaaDoorParseAny
namespace Go.Proofs.YtbgnaohjcfbaaaaDoor
open Go.RowKit
set_option linter.unusedVariables false
set_option linter.unusedSimpArgs false
attribute [local go_sem] World.cell?_alloc_lt

def standsB : ByteArray := ⟨#[48, 44, 50, 45, 52]⟩
theorem stands_o : parseO standsB = some 29 := by decide +kernel
theorem stands_any (w : World) : Calls Tryd.prog 7 #[] w fun e w' => e = .returned (.bool true) ∧ Below w.heap.size w w' := by
  have hp := parse_any standsB (by decide) w
  rw [stands_o] at hp
  have HP := Lib.hid hp
  clear hp
  go_enter Tryd.func7, Tryd.ntmps7
  go_wp2_with fail
  refine HP.out.mono ?_; rintro e w1 ⟨rfl, hB⟩
  unfold parseV
  go_wp2_with fail
  go_ret
  exact ⟨rfl, hB⟩
end Go.Proofs.YtbgnaohjcfbaaaaDoor
