/- Package frames (layer 5): Len; the law's own 'holds'. -/
import Derived.Test.YtkjhodaglanpmaaFrames3
import Derived.Laws.BytesArg
import Derived.Lib.SlBytesConst
namespace Go.Proofs.Ytkjhodaglanpmaa
open Go.RowKit
set_option linter.unusedVariables false
set_option linter.unusedSimpArgs false
attribute [local go_sem] World.cell?_alloc_lt

theorem fr_len (g b each nf : Nat) (bs : List Int) (w : World) (hG : StoreAt w g b each nf bs) : Calls Try.prog 43 #[.pointer (some ⟨g, 0, none⟩)] w fun e w' => e = .returned (.int .i64 nf) ∧ w = w' := by
  have k1 := hG.st.at_ (i := 1) rfl
  clear hG
  go_enter Try.func43, Try.ntmps43
  go_wp2_with fail
  go_ret
  exact ⟨rfl, rfl⟩
/-- The text of a row of the call's own bytes. -/
theorem text_own {w : World} {base h c m : Nat} {xs : List Int} (hl : xs.length = m) (hown : w.ownsRow base 5 1 (.slice (some ⟨h, 0, none⟩) m c) m (xs.map (Value.int .u8))) :
    (convert 50 9 (.slice (some ⟨h, 0, none⟩) m c)).run Try.prog w = .ok (.string (strOfNums xs)) w := by
  refine run_convert_bytes_arg w 50 5 Try.underlying50 Try.underlying5 h 0 m c xs hl ?_ 9 Try.underlying9
  intro i hi
  obtain ⟨g, hA, hc, _⟩ := own_at hown (map_at (f := Value.int .u8) (show i < xs.length by omega) 0)
  injection hA with hA
  injection hA with hA
  subst hA
  rw [Nat.zero_add]
  exact hc
def heldBs : List Int := putL (List.replicate 512 0) 382 [97, 98]
theorem held_part : (heldBs.drop 382).take 2 = [97, 98] := by decide +kernel
set_option maxRecDepth 100000 in
theorem holds_any (w0 : World) : Calls Try.prog 30 #[] w0 fun e w' => e = .returned (.bool true) ∧ Below w0.heap.size w0 w' := by
  go_enter Try.func30, Try.ntmps30
  go_wp2_with fail
  refine (fr_new 2 4 w0 (by omega) (by omega) (by omega) (by omega)).mono ?_; rintro e w1 ⟨g, b, rfl, hg, hb, hG, hB⟩
  have hG := hG.below (bel_alloc (Below.refl _ _) (.cells #[.int .u8 97, .int .u8 98] 5 (2, 3)))
  have hsv := fr_save g b 4 8 _ 5 62 w1.heap.size 0 2 2 [97, 98] rfl _ hG (by omega) (by omega) (by
    intro j u hj
    rw [Nat.zero_add]
    match j, hj with
    | 0, hj => injection hj with hj; subst hj; exact World.cell?_alloc_mark w1 _ _ _ 0
    | 1, hj => injection hj with hj; subst hj; exact World.cell?_alloc_mark w1 _ _ _ 1
    | j + 2, hj => simp at hj)
  have HSV := Lib.hid hsv; clear hsv
  have hB := bel_alloc hB (.cells #[.int .u8 97, .int .u8 98] 5 (2, 3))
  have hcv := Lib.run_convert_bytes_const (P := Try.prog) w1 50 5 #[.int .u8 97, .int .u8 98] 2 2 Try.underlying50 Try.underlying5
  go_wp2_with fail
  refine HSV.out.mono ?_; rintro e w2 ⟨rfl, hG, hc⟩
  clear HSV
  have hB := bel_ch hB hc (by simp; omega)
  clear hc
  have hG : StoreAt w2 g b 4 8 heldBs := hG
  go_wp2_with fail
  refine (fr_load g b 4 8 _ 5 62 2 w2 hG (by omega) (by omega)).mono ?_; rintro e w3 ⟨h, c, rfl, hown, hc⟩
  have hG := hG.below hc
  have hB := bel_trans hB hc
  clear hc
  rw [show 5 * 64 + 62 = 382 from rfl, held_part] at hown
  go_wp2_with fail
  refine (fr_node g b 4 8 _ 5 w3 hG (by omega)).mono ?_; rintro e w4 ⟨rfl, rfl⟩
  go_wp2_with fail
  refine (fr_first g b 4 8 _ 1 2 w3 hG rfl (by omega)).mono ?_; rintro e w4 ⟨rfl, hc⟩
  have hG := hG.below hc
  have hB := bel_trans hB hc
  have hown := own_below hown hc
  clear hc
  have htx := text_own (m := 2) (xs := [97, 98]) rfl hown
  rw [show strOfNums [97, 98] = ⟨#[97, 98]⟩ from rfl] at htx
  clear hown
  go_wp2_with fail
  refine (fr_len g b 4 8 _ w4 hG).mono ?_; rintro e w5 ⟨rfl, rfl⟩
  go_wp2_with fail
  go_ret
  exact ⟨rfl, hB⟩
end Go.Proofs.Ytkjhodaglanpmaa
