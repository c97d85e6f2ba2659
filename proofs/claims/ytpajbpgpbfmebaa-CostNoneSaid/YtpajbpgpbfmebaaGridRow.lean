/- Contracts of package grid (layer 2): Row, of ints. -/
import Derived.Test.YtpajbpgpbfmebaaGridI3
import Derived.Test.YtpajbpgpbfmebaaClone
import Derived.StillTailTactics
namespace Go.Proofs.Ytpajbpgpbfmebaa
open Go.RowKit
set_option linter.unusedVariables false
set_option linter.unusedSimpArgs false
attribute [local go_sem] World.cell?_alloc_lt

theorem i64_small {n : Int} (h0 : -9223372036854775808 ≤ n) (h1 : n ≤ 9223372036854775807) : IntKind.i64.wrap n = n := by
  simp only [IntKind.wrap]
  simp [IntKind.signed, IntKind.bits]
  omega
theorem gi_Row_no (g b rows cols : Nat) (xs : List Int) (r : Int) (w : World) (hG : GridI w g b rows cols xs) (h : r < 0 ∨ (rows : Int) ≤ r) :
    Calls Try.prog 63 #[.pointer (some ⟨g, 0, none⟩), .int .i64 r] w fun e w' => e = .returned (.slice none 0 0) ∧ w = w' := by
  have k0 := hG.st.at_ (i := 0) rfl
  rcases (by omega : r < 0 ∨ (0 ≤ r ∧ (rows : Int) ≤ r)) with h | ⟨h, h2⟩
  all_goals
    go_enter Try.func63, Try.ntmps63
    go_wp2
    go_ret
    exact ⟨rfl, rfl⟩
theorem row_cut {xs : List Int} {rows cols r : Nat} (hl : xs.length = rows * cols) (hr : r < rows) : r * cols + cols ≤ xs.length := by
  rw [hl]
  have := Nat.mul_le_mul_right cols (show r + 1 ≤ rows from hr)
  rw [Nat.add_mul] at this
  omega
set_option maxRecDepth 100000 in
theorem gi_Row_yes (g b rows cols : Nat) (xs : List Int) (r : Nat) (w : World) (hG : GridI w g b rows cols xs) (hr : r < rows) :
    Calls Try.prog 63 #[.pointer (some ⟨g, 0, none⟩), .int .i64 r] w fun e w' => ∃ h c, e = .returned (.slice (some ⟨h, 0, none⟩) cols c) ∧ w'.ownsRow w.heap.size 3 1 (.slice (some ⟨h, 0, none⟩) cols c) cols (((xs.drop (r * cols)).take cols).map (Value.int .i64)) ∧ Below w.heap.size w w' := by
  have k0 := hG.st.at_ (i := 0) rfl
  have k1 := hG.st.at_ (i := 1) rfl
  have k2 := hG.st.at_ (i := 2) rfl
  have hcut := row_cut hG.ln hr
  have hle := hG.le
  have hc64 := hG.c64
  have hbl := hG.dt.lt
  have hcl := fun w2 (hw : Below w.heap.size w w2) => cloneI_at b (r * cols) cols (xs.length - r * cols) (((xs.drop (r * cols)).take cols).map (Value.int .i64)) (by simp; omega) (by intro u hu; obtain ⟨z, _, rfl⟩ := List.mem_map.1 hu; rfl) (by omega) w2 (by have := hw.size; omega) (by
    intro j u hj
    have hB := hG.dt.below hw
    refine hB.at_ ?_
    rw [List.getElem?_map, List.getElem?_take] at hj
    split at hj
    · rw [List.getElem?_drop] at hj
      rw [List.getElem?_map]; exact hj
    · simp at hj)
  have HCL := Lib.hid hcl; clear hcl
  obtain ⟨p, hp⟩ : ∃ p, r * cols = p := ⟨_, rfl⟩
  have hm1 : (r : Int) * (cols : Int) = (p : Int) := by rw [← hp]; simp
  have hm2 : ((r : Int) + 1) * (cols : Int) = (p : Int) + cols := by rw [Int.add_mul, hm1, Int.one_mul]
  rw [hp] at HCL hcut ⊢
  have hif : (if xs.length = p then some (⟨b, 0, none⟩ : Addr) else some ⟨b, p, none⟩) = some ⟨b, p, none⟩ := by
    split
    · rename_i e
      have : cols = 0 := by omega
      subst this
      rw [Nat.mul_zero] at hp
      subst hp
      rfl
    · rfl
  have hcols : ((p : Int) + (cols : Int)).toNat - p = cols := by omega
  have HIF := Lib.hid hif; have HCO := Lib.hid hcols; clear hif hcols
  clear hp
  have v1 : IntKind.i64.wrap (p : Int) = p := i64_small (by omega) (by omega)
  have v2 : IntKind.i64.wrap ((r : Int) + 1) = r + 1 := i64_small (by omega) (by have := hG.r64; omega)
  have v3 : IntKind.i64.wrap ((p : Int) + cols) = p + cols := i64_small (by omega) (by omega)
  have i1 : (0 : Int) ≤ p := by omega
  have i2 : (p : Int) ≤ p + cols := by omega
  have i3 : (p : Int) + cols ≤ xs.length := by omega
  go_enter Try.func63, Try.ntmps63
  go_wp2_with fail
  go_still_tail 18, (by kernel_rfl)
  change wpList _ _ _ _ _ w.drew
  rw [HIF.out, HCO.out]
  go_wp2_with fail
  refine (HCL.out w.drew (bel_drew (Below.refl _ _))).mono ?_; rintro e w2 ⟨h, c, rfl, hown, hB⟩
  go_wp2
  go_ret
  exact ⟨h, c, rfl, hown, bel_trans (bel_drew (Below.refl _ w)) hB⟩
end Go.Proofs.Ytpajbpgpbfmebaa
