/- The law BindEdges. -/
import Derived.Test.YtmheafagafdnlaaBook2
namespace Go.Proofs.Ytmheafagafdnlaa
open Go.RowKit
set_option linter.unusedVariables false
set_option linter.unusedSimpArgs false
attribute [local go_sem] World.cell?_alloc_lt

theorem chk_bind : ∀ s : Nat, s < 256 → 0 < s → chk 1 s 0 8 = 0 := by decide +kernel
set_option maxRecDepth 100000 in
set_option maxHeartbeats 2000000 in
theorem bindEdges_walk (pg : Int) (_h1 : (Lit.int .i64 pg).wf = true) (nn : Int) (_h2 : (Lit.int .i64 nn).wf = true) (z : Int) (hz : (Lit.int .u8 z).wf = true) (w0 : World) :
    Calls Try.prog 4 #[.int .i64 pg, .int .i64 nn, .int .u8 z] w0 fun e w' => e = .returned (.bool true) ∧ Below w0.heap.size w0 w' := by
  have hzb := bounds_u8 hz
  obtain ⟨z, rfl⟩ := Int.eq_ofNat_of_zero_le hzb.1
  have hs0 : 0 < z % 255 + 1 := by omega
  have hs : z % 255 + 1 < 256 := by omega
  have hse : (z : Int) % 255 + 1 = ((z % 255 + 1 : Nat) : Int) := by omega
  generalize z % 255 + 1 = s at hs0 hs hse
  have hck := chk_bind s hs hs0
  have hbp := umod1_bd pg 4000 (by omega) (by omega)
  generalize hp : wrap64 (1 + wrap64 ((IntKind.u64.wrap pg).tmod 4000)) = p at hbp
  have hbn := umod1_bd nn 90 (by omega) (by omega)
  generalize hn : wrap64 (1 + wrap64 ((IntKind.u64.wrap nn).tmod 90)) = n' at hbn
  obtain ⟨n, rfl⟩ := Int.eq_ofNat_of_zero_le (show 0 ≤ n' by omega)
  clear hz hzb
  have HP := Lib.hid hp; have HN := Lib.hid hn; have HSE := Lib.hid hse; clear hp hn hse
  go_enter Try.func4, Try.ntmps4
  go_wp2_with fail
  refine (bnew 8 (by omega) (by omega) w0).mono ?_; rintro e w1 ⟨g, b, rfl, hg, hb, hK, hB⟩
  go_wp2_with fail
  rw [HP.out, HN.out, HSE.out]
  refine (binds_any w1).mono ?_; rintro e w2 ⟨rfl, hc⟩
  have hB := bel_trans hB hc; have hK := hK.below hc; clear hc
  have hst := bset g b 8 _ p n (1, s, 0) hs (by omega) (by omega) (by omega) (by omega) hck w2 hK
  unfold polv at hst
  have HST := Lib.hid hst; clear hst hck
  go_wp2_with fail
  refine HST.out.mono ?_; rintro e w3 ⟨rfl, hK, hc⟩
  clear HST
  have hB := bel_ch hB hc (by simp; omega)
  clear hc
  generalize hf : (fun q : Int => if p ≤ q ∧ q < p + (n : Int) then some ((1, s, 0) : Pol) else none) = f at hK
  have hin : ∀ q : Int, p ≤ q → q < p + n → f q = some (1, s, 0) := fun q h1 h2 => by rw [← hf]; exact if_pos ⟨h1, h2⟩
  have hout : ∀ q : Int, q < p ∨ p + n ≤ q → f q = none := fun q h => by rw [← hf]; exact if_neg (by omega)
  have HIN := Lib.hid hin; have HOUT := Lib.hid hout; clear hin hout hf
  go_wp2_with fail
  refine (bof_none g b 8 f (p - 1) w3 hK (HOUT.out _ (by omega))).mono ?_; rintro e w4 ⟨rfl, hc⟩
  have hB := bel_trans hB hc; have hK := hK.below hc; clear hc
  have hK := hK.below (bel_alloc (Below.refl _ _) (.cells #[.int .i64 0, .int .u8 0, .int .i64 0] 24))
  have hB := bel_alloc hB (.cells #[.int .i64 0, .int .u8 0, .int .i64 0] 24)
  go_wp2_with fail
  refine (bof_none g b 8 f (p + n) _ hK (HOUT.out _ (by omega))).mono ?_; rintro e w5 ⟨rfl, hc⟩
  have hB := bel_trans hB hc; have hK := hK.below hc; clear hc
  have hK := hK.below (bel_alloc (Below.refl _ _) (.cells #[.int .i64 0, .int .u8 0, .int .i64 0] 24))
  have hB := bel_alloc hB (.cells #[.int .i64 0, .int .u8 0, .int .i64 0] 24)
  go_wp2_with fail
  go_loopw [16] (fun vi wx => ∃ j : Nat, j ≤ n ∧ vi = .int .i64 (p + j) ∧ BookAt wx g b 8 f ∧ Below w0.heap.size w0 wx) (fun i _ => (p + n - intOf i).toNat)
  case atStart => exact ⟨0, by omega, by go_num, hK, hB⟩
  case round =>
    clear hK hB
    obtain ⟨j, hj, rfl, hK, hB⟩ := hrel
    by_cases hlt : j < n
    · go_wp2_with fail
      refine (bof_some g b 8 f (p + j) 1 s 0 wr hK (HIN.out _ (by omega) (by omega))).mono ?_; rintro e w6 ⟨rfl, hc⟩
      have hB := bel_trans hB hc; have hK := hK.below hc; clear hc
      have hK := hK.below (bel_alloc (Below.refl _ _) (.cells #[.int .i64 1, .int .u8 s, .int .i64 0] 24))
      have hB := bel_alloc hB (.cells #[.int .i64 1, .int .u8 s, .int .i64 0] 24)
      go_wp2_with fail
      go_roundw
      case rel => exact ⟨j + 1, by omega, by go_num, hK, hB⟩
      case measure => simp [intOf]; omega
    · obtain rfl : j = n := by omega
      have hcl := bclear g b 8 f p j (by omega) (by omega) (by omega) (by omega) wr hK
      have HCL := Lib.hid hcl; clear hcl
      go_wp2_with fail
      refine HCL.out.mono ?_; rintro e w7 ⟨rfl, hK, hc⟩
      clear HCL
      have hB := bel_ch hB hc (by simp; omega)
      clear hc
      have hnone : (fun q : Int => if p ≤ q ∧ q < p + (j : Int) then none else f q) = fun _ => none := by
        funext q
        by_cases h : p ≤ q ∧ q < p + (j : Int)
        · rw [if_pos h]
        · rw [if_neg h]; exact HOUT.out q (by omega)
      rw [hnone] at hK
      clear hnone
      go_wp2_with fail
      go_loopw [19] (fun vi wx => ∃ i : Nat, i ≤ j ∧ vi = .int .i64 (p + i) ∧ BookAt wx g b 8 (fun _ => none) ∧ Below w0.heap.size w0 wx) (fun i _ => (p + j - intOf i).toNat)
      case atStart => exact ⟨0, by omega, by go_num, hK, hB⟩
      case round =>
        clear hK hB
        obtain ⟨i, hi, rfl, hK, hB⟩ := hrel
        by_cases hlt2 : i < j
        · go_wp2_with fail
          refine (bof_none g b 8 _ (p + i) wr hK rfl).mono ?_; rintro e w8 ⟨rfl, hc⟩
          have hB := bel_trans hB hc; have hK := hK.below hc; clear hc
          have hK := hK.below (bel_alloc (Below.refl _ _) (.cells #[.int .i64 0, .int .u8 0, .int .i64 0] 24))
          have hB := bel_alloc hB (.cells #[.int .i64 0, .int .u8 0, .int .i64 0] 24)
          go_wp2_with fail
          refine (bok_none g b 8 _ (p + i) 7 _ hK (by omega) (by omega) rfl).mono ?_; rintro e w9 ⟨rfl, hc⟩
          have hB := bel_trans hB hc; have hK := hK.below hc; clear hc
          go_wp2_with fail
          go_roundw
          case rel => exact ⟨i + 1, by omega, by go_num, hK, hB⟩
          case measure => simp [intOf]; omega
        · obtain rfl : i = j := by omega
          go_wp2_with fail
          go_ret
          exact ⟨rfl, hB⟩
end Go.Proofs.Ytmheafagafdnlaa
