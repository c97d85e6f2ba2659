/- messuagelaw07.moves. -/
import Derived.Test.YtbgnaohjcfbaaaaDoorMemMove
namespace Go.Proofs.YtbgnaohjcfbaaaaDoor
open Go.RowKit
set_option linter.unusedVariables false
set_option linter.unusedSimpArgs false
attribute [local go_sem] World.cell?_alloc_lt

def mvT0 : List (Int × Int) := mput [] 1 0
def mvF0 : List (Int × Int) := mput [] 0 1
def mvT1 : List (Int × Int) := mput mvT0 1 3
def mvF1 : List (Int × Int) := mput (mdel mvF0 0) 3 1
def mvB0 : List Int := List.replicate 256 0
def mvB1 : List Int := wrB mvT0 mvB0 64 [97]
def mvB2 : List Int := putL mvB1 192 (frBs mvB1 0)
theorem mv_rd : rdB mvT1 mvB2 64 1 = [97] := by decide +kernel
theorem mv_m0 : mapped mvT0 1 := by unfold mapped; decide +kernel
theorem mv_m1 : mapped mvT1 1 := by unfold mapped; decide +kernel
theorem mv_l1 : mvT1.length = 1 := by decide +kernel
theorem mem_fair0 (nf : Nat) : Fair nf [] [] := ⟨fun p f h => (by cases h), fun p f => (by constructor <;> (intro h; cases h))⟩
end Go.Proofs.YtbgnaohjcfbaaaaDoor
