/- Package nodeset (layer 1): Parse, of any text. -/
import Derived.Test.YtbgnaohjcfbaaaaDoorParse2
namespace Go.Proofs.YtbgnaohjcfbaaaaDoor
open Go.RowKit Go.Shelf
set_option linter.unusedVariables false
set_option linter.unusedSimpArgs false

theorem parse_any (text : ByteArray) (hs : text.size ≤ 4611686018427387904) (w : World) : Calls Tryd.prog 23 #[.string text] w fun e w' => e = .returned (parseV (parseO text)) ∧ Below w.heap.size w w' := by
  unfold parseO
  by_cases h : text = noneB
  · rw [if_pos h, h]
    exact parse_none w
  · rw [if_neg h]
    exact parse_some text hs h w
end Go.Proofs.YtbgnaohjcfbaaaaDoor
