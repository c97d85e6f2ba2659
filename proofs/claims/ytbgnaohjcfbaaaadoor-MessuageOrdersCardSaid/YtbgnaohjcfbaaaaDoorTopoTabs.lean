/- The table of strconv's powers, out of what the row says of the listed variables. -/
import Derived.Test.YtbgnaohjcfbaaaaDoorTopoLine
import Derived.Test.YtbgnaohjcfbaaaaDoorRows
import Derived.Lib.LaidTab
import Derived.Lay
namespace Go.Proofs.YtbgnaohjcfbaaaaDoor
open Go.RowKit Go.Shelf
set_option linter.unusedVariables false
theorem pow_data : (Rows.laid_internal_strconv_uint64pow10 : DataW Unit) = Lib.tabData .u64 Lib.pow10Tab := by kernel_rfl
theorem powtab_of {n0 n1 : String} {a0 a1 : DataW Unit} {rest : List (String × DataW Unit)} {W : World} (h : laidMet Tryd.prog ((n0, a0) :: (n1, a1) :: ("internal/strconv.uint64pow10", Rows.laid_internal_strconv_uint64pow10) :: rest) W) : PowTab W := by
  obtain ⟨ps, hL, _⟩ := h
  obtain ⟨_, _, _, _, _, q1, _, _, _, _, hL1, _⟩ := hL
  obtain ⟨_, _, _, _, _, q2, _, _, _, _, hL2, _⟩ := hL1
  obtain ⟨g', t', cs, fuel, p, q, hg', ht', hvar, hd, _⟩ := hL2
  rw [pow_data] at hd
  obtain rfl := Option.some.inj ((show Tryd.prog.globalNamed "internal/strconv.uint64pow10" = some 3 by kernel_rfl).symm.trans hg')
  obtain rfl := Option.some.inj ((show (Tryd.prog.globals[3]?).map (·.type) = some 162 by kernel_rfl).symm.trans ht')
  unfold PowTab Lib.TabIs
  rw [hvar, ← Lib.cells_of_tab Tryd.underlying162 Tryd.underlying36 (by kernel_rfl) (by kernel_rfl) hd]
end Go.Proofs.YtbgnaohjcfbaaaaDoor
