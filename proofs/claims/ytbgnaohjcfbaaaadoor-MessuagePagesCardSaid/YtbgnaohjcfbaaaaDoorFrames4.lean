/- Package frames (layer 5): Len; the law's own 'holds'. -/
import Derived.Test.YtbgnaohjcfbaaaaDoorFrames3
import Derived.Laws.BytesArg
import Derived.Lib.SlBytesConst
namespace Go.Proofs.YtbgnaohjcfbaaaaDoor
open Go.RowKit
set_option linter.unusedVariables false
set_option linter.unusedSimpArgs false
attribute [local go_sem] World.cell?_alloc_lt

theorem fr_len (g b each nf : Nat) (bs : List Int) (w : World) (hG : StoreAt w g b each nf bs) : Calls Tryd.prog 50 #[.pointer (some ⟨g, 0, none⟩)] w fun e w' => e = .returned (.int .i64 nf) ∧ w = w' := by
  have k1 := hG.st.at_ (i := 1) rfl
  clear hG
  go_enter Tryd.func50, Tryd.ntmps50
  go_wp2_with fail
  go_ret
  exact ⟨rfl, rfl⟩
/-- The text of a row of the call's own bytes. -/
theorem text_own {w : World} {base h c m : Nat} {xs : List Int} (hl : xs.length = m) (hown : w.ownsRow base 5 1 (.slice (some ⟨h, 0, none⟩) m c) m (xs.map (Value.int .u8))) :
    (convert 34 9 (.slice (some ⟨h, 0, none⟩) m c)).run Tryd.prog w = .ok (.string (strOfNums xs)) w := by
  refine run_convert_bytes_arg w 34 5 Tryd.underlying34 Tryd.underlying5 h 0 m c xs hl ?_ 9 Tryd.underlying9
  intro i hi
  obtain ⟨g, hA, hc, _⟩ := own_at hown (map_at (f := Value.int .u8) (show i < xs.length by omega) 0)
  injection hA with hA
  injection hA with hA
  subst hA
  rw [Nat.zero_add]
  exact hc
end Go.Proofs.YtbgnaohjcfbaaaaDoor
