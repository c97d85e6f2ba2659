/- Package frames (layer 5): Len; the law's own 'holds'. -/
import Derived.Test.YtpajbpgpbfmebaaFrames3
import Derived.Laws.BytesArg
import Derived.Lib.SlBytesConst
namespace Go.Proofs.Ytpajbpgpbfmebaa
open Go.RowKit
set_option linter.unusedVariables false
set_option linter.unusedSimpArgs false
attribute [local go_sem] World.cell?_alloc_lt

theorem fr_len (g b each nf : Nat) (bs : List Int) (w : World) (hG : StoreAt w g b each nf bs) : Calls Try.prog 56 #[.pointer (some ⟨g, 0, none⟩)] w fun e w' => e = .returned (.int .i64 nf) ∧ w = w' := by
  have k1 := hG.st.at_ (i := 1) rfl
  clear hG
  go_enter Try.func56, Try.ntmps56
  go_wp2_with fail
  go_ret
  exact ⟨rfl, rfl⟩
/-- The text of a row of the call's own bytes. -/
theorem text_own {w : World} {base h c m : Nat} {xs : List Int} (hl : xs.length = m) (hown : w.ownsRow base 5 1 (.slice (some ⟨h, 0, none⟩) m c) m (xs.map (Value.int .u8))) :
    (convert 23 9 (.slice (some ⟨h, 0, none⟩) m c)).run Try.prog w = .ok (.string (strOfNums xs)) w := by
  refine run_convert_bytes_arg w 23 5 Try.underlying23 Try.underlying5 h 0 m c xs hl ?_ 9 Try.underlying9
  intro i hi
  obtain ⟨g, hA, hc, _⟩ := own_at hown (map_at (f := Value.int .u8) (show i < xs.length by omega) 0)
  injection hA with hA
  injection hA with hA
  subst hA
  rw [Nat.zero_add]
  exact hc
end Go.Proofs.Ytpajbpgpbfmebaa
