/- The closed test of the laws of layer 13, and the law SpanPlaces. -/
import Derived.Test.YtinijpjbbbbhjaaDoorB2
namespace Go.Proofs.YtinijpjbbbbhjaaDoor
open Go.RowKit
set_option linter.unusedVariables false
set_option linter.unusedSimpArgs false

theorem bel_grown {w w1 w2 : World} {g : Nat} (h : Below w.heap.size w w1) (hg : w1.grownBy w2 (some g)) (hr : w.heap.size ≤ g) : Below w.heap.size w w2 := h.grown hg h.size (fun k hk => by cases hk; exact hr)

theorem spans_any (w : World) (hT : Tab w) : Calls Tryd.prog 18 #[] w fun e w' => e = .returned (.bool true) ∧ Below w.heap.size w w' := by
  go_enter Tryd.func18, Tryd.ntmps18
  go_wp2_with fail
  refine (new_yes 1 w hT (by omega) (by omega)).mono ?_; rintro e w1 ⟨g, rfl, hg, hS, hb⟩
  go_wp2_with fail
  refine (take_yes g 1 0 0 _ hS (by decide) (by decide) (by decide) (by decide)).mono ?_; rintro e w2 ⟨rfl, hS2, hb2⟩
  have hb2 := bel_grown hb hb2 hg
  rw [show orN 0 0 = 1 by decide] at hS2
  go_wp2_with fail
  refine (take_yes g 1 1 1 _ hS2 (by decide) (by decide) (by decide) (by decide)).mono ?_; rintro e w3 ⟨rfl, hS3, hb3⟩
  have hb3 := bel_grown hb2 hb3 hg
  rw [show orN 1 1 = 3 by decide] at hS3
  go_wp2_with fail
  refine (give_yes g 1 3 0 _ hS3 (by decide) (by decide) (by decide)).mono ?_; rintro e w4 ⟨rfl, hS4, hb4⟩
  have hb4 := bel_grown hb3 hb4 hg
  rw [show anN 3 0 = 2 by decide] at hS4
  go_wp2_with fail
  refine (take_yes g 1 2 0 _ hS4 (by decide) (by decide) (by decide) (by decide)).mono ?_; rintro e w5 ⟨rfl, hS5, hb5⟩
  have hb5 := bel_grown hb4 hb5 hg
  rw [show orN 2 0 = 3 by decide] at hS5
  go_wp2_with fail
  refine (index_yes g 1 3 32 _ hS5 (by decide) (by decide) (by decide)).mono ?_; rintro e w6 ⟨rfl, hb6⟩
  have hb6 := bel_trans hb5 hb6
  rw [show (32 : Int) / szOf 1 = 2 by decide]
  go_wp2
  go_ret
  exact ⟨rfl, hb6⟩

/-- How many objects begin below a place. -/
def nAt (s k a : Int) : Int := if a ≤ 0 then 0 else min ((a + s - 1) / s) k


theorem nAt_0 (a : Int) : (a < 0 → nAt 8 8 (a + 1) = nAt 8 8 a) ∧ (0 ≤ a → a < 64 → a % 8 = 0 → nAt 8 8 (a + 1) = nAt 8 8 a + 1 ∧ nAt 8 8 a = a / 8) ∧ (0 ≤ a → a < 64 → ¬ a % 8 = 0 → nAt 8 8 (a + 1) = nAt 8 8 a) ∧ (64 ≤ a → nAt 8 8 (a + 1) = nAt 8 8 a) ∧ 0 ≤ nAt 8 8 a ∧ nAt 8 8 a ≤ 8 := by
  unfold nAt
  refine ⟨fun h => ?_, fun h h2 h3 => ⟨?_, ?_⟩, fun h h2 h3 => ?_, fun h => ?_, ?_, ?_⟩
  all_goals (repeat' split) <;> omega

set_option maxHeartbeats 1000000 in
theorem places_0 (n : Int) (hk : wrap64 ((IntKind.u64.wrap n).tmod 4) = 0) (w : World) (hT : Tab w) : Calls Tryd.prog 6 #[.int .i64 n] w fun e w' => e = .returned (.bool true) ∧ Below w.heap.size w w' := by
  have HK := Lib.hid hk; clear hk
  go_enter Tryd.func6, Tryd.ntmps6
  go_wp2_with fail
  rw [HK.out]
  refine (new_yes 0 w hT (by omega) (by omega)).mono ?_; rintro e w1 ⟨g, rfl, hg, hS, hb⟩
  go_wp2_with fail
  refine (row_yes 0 _ (by omega) (by omega)).mono ?_; rintro e w2 ⟨rfl, hb2⟩
  simp only [szOf, ordOf, cntOf, Int.reduceEq, if_true, if_false]
  have hS := hS.below hb2
  have hb2 := bel_trans hb hb2
  go_wp2_with fail
  refine (spans_any _ (hT.below (bel_alloc hb2 _))).mono ?_; rintro e w3 ⟨rfl, hb3⟩
  have hS := (hS.below (bel_alloc (Below.refl _ _) _)).below hb3
  have q1 := (hb3.cell (p := ⟨w2.heap.size, 0, none⟩) (by simp)).trans (World.cell?_alloc_new w2 _ _ 0)
  have q3 := (hb3.cell (p := ⟨w2.heap.size, 2, none⟩) (by simp)).trans (World.cell?_alloc_new w2 _ _ 2)
  have hq : w2.heap.size < w3.heap.size := by have := hb3.size; simp at this; omega
  have hb3 := bel_trans (bel_alloc hb2 _) hb3
  simp at q1 q3
  generalize w2.heap.size = r at *
  clear hb hb2
  go_wp2_with fail
  go_loopw [7, 8] (fun m i wr => ∃ a : Int, -3 ≤ a ∧ a ≤ 300 ∧ i = .int .i64 a ∧ m = .int .i64 (nAt 8 8 a) ∧ SpanAt wr g 0 0 ∧ wr.cell? ⟨r, 0, none⟩ = some (.int .i64 8) ∧ wr.cell? ⟨r, 2, none⟩ = some (.int .i64 8) ∧ r < wr.heap.size ∧ Below w.heap.size w wr)
    (fun _ i _ => (300 - intOf i).toNat)
  case atStart => exact ⟨-3, by omega, by omega, rfl, rfl, hS, q1, q3, hq, hb3⟩
  case round =>
    obtain ⟨a, ha, ha2, rfl, rfl, hS, q1, q3, hq, hb3⟩ := hrel
    obtain ⟨n1, n2, n3, n4, n5, n6⟩ := nAt_0 a
    by_cases hend : a < 300
    · by_cases c1 : a < 0
      · have n1 := n1 c1
        have N1 := Lib.hid n1; clear n1 n2 n3 n4
        go_wp2_with fail
        refine (index_neg g 0 0 a _ hS c1).mono ?_; rintro e w4 ⟨rfl, hb4⟩
        have hS := hS.below hb4
        have q1 := (hb4.cell (p := ⟨r, 0, none⟩) hq).trans q1
        have q3 := (hb4.cell (p := ⟨r, 2, none⟩) hq).trans q3
        have hq := Nat.lt_of_lt_of_le hq hb4.size
        have hb4 := bel_trans hb3 hb4
        go_wp2
        go_roundw
        case rel => exact ⟨a + 1, by omega, by omega, rfl, by rw [N1.out], hS, q1, q3, hq, hb4⟩
        case measure => simp [intOf]; omega
      · have c1' : 0 ≤ a := by omega
        by_cases c2 : 64 ≤ a
        · have n4 := n4 c2
          have N1 := Lib.hid n4; clear n1 n2 n3 n4
          go_wp2_with fail
          refine (index_out g 0 0 a _ hS c1' (by simpa [szOf, cntOf] using c2)).mono ?_; rintro e w4 ⟨rfl, hb4⟩
          have hS := hS.below hb4
          have q1 := (hb4.cell (p := ⟨r, 0, none⟩) hq).trans q1
          have q3 := (hb4.cell (p := ⟨r, 2, none⟩) hq).trans q3
          have hq := Nat.lt_of_lt_of_le hq hb4.size
          have hb4 := bel_trans hb3 hb4
          go_wp2
          all_goals
            go_roundw
            case rel => exact ⟨a + 1, by omega, by omega, rfl, by rw [N1.out], hS, q1, q3, hq, hb4⟩
            case measure => simp [intOf]; omega
        · have c2' : a < 64 := by omega
          by_cases c3 : a % 8 = 0
          · obtain ⟨n2, n2'⟩ := n2 c1' c2' c3
            have N1 := Lib.hid n2; have N2 := Lib.hid n2'; clear n1 n2 n2' n3 n4
            have c3' : (a % 8 == 0) = true := by simpa using c3
            go_wp2_with fail
            refine (index_yes g 0 0 a _ hS c1' (by simpa [szOf, cntOf] using c2') (by simpa [szOf] using c3)).mono ?_; rintro e w4 ⟨rfl, hb4⟩
            rw [show a / szOf 0 = nAt 8 8 a from N2.out.symm]
            have hS := hS.below hb4
            have q1 := (hb4.cell (p := ⟨r, 0, none⟩) hq).trans q1
            have q3 := (hb4.cell (p := ⟨r, 2, none⟩) hq).trans q3
            have hq := Nat.lt_of_lt_of_le hq hb4.size
            have hb4 := bel_trans hb3 hb4
            go_wp2
            go_roundw
            case rel => exact ⟨a + 1, by omega, by omega, rfl, by rw [N1.out]; first | rfl | rw [N2.out], hS, q1, q3, hq, hb4⟩
            case measure => simp [intOf]; omega
          · have n3 := n3 c1' c2' c3
            have N1 := Lib.hid n3; clear n1 n2 n3 n4
            have c3' : (a % 8 == 0) = false := by simpa using c3
            go_wp2_with fail
            refine (index_bad g 0 0 a _ hS c1' (by simpa [szOf, cntOf] using c2') (by simpa [szOf] using c3)).mono ?_; rintro e w4 ⟨rfl, hb4⟩
            have hS := hS.below hb4
            have q1 := (hb4.cell (p := ⟨r, 0, none⟩) hq).trans q1
            have q3 := (hb4.cell (p := ⟨r, 2, none⟩) hq).trans q3
            have hq := Nat.lt_of_lt_of_le hq hb4.size
            have hb4 := bel_trans hb3 hb4
            go_wp2
            go_roundw
            case rel => exact ⟨a + 1, by omega, by omega, rfl, by rw [N1.out], hS, q1, q3, hq, hb4⟩
            case measure => simp [intOf]; omega
    · have e : a = 300 := by omega
      have e2 : nAt 8 8 a = 8 := by rw [e]; decide
      have E2 := Lib.hid e2
      clear n1 n2 n3 n4 e e2
      go_wp2
      go_ret
      rw [E2.out]
      exact ⟨rfl, hb3⟩

theorem nAt_1 (a : Int) : (a < 0 → nAt 16 4 (a + 1) = nAt 16 4 a) ∧ (0 ≤ a → a < 64 → a % 16 = 0 → nAt 16 4 (a + 1) = nAt 16 4 a + 1 ∧ nAt 16 4 a = a / 16) ∧ (0 ≤ a → a < 64 → ¬ a % 16 = 0 → nAt 16 4 (a + 1) = nAt 16 4 a) ∧ (64 ≤ a → nAt 16 4 (a + 1) = nAt 16 4 a) ∧ 0 ≤ nAt 16 4 a ∧ nAt 16 4 a ≤ 4 := by
  unfold nAt
  refine ⟨fun h => ?_, fun h h2 h3 => ⟨?_, ?_⟩, fun h h2 h3 => ?_, fun h => ?_, ?_, ?_⟩
  all_goals (repeat' split) <;> omega

set_option maxHeartbeats 1000000 in
theorem places_1 (n : Int) (hk : wrap64 ((IntKind.u64.wrap n).tmod 4) = 1) (w : World) (hT : Tab w) : Calls Tryd.prog 6 #[.int .i64 n] w fun e w' => e = .returned (.bool true) ∧ Below w.heap.size w w' := by
  have HK := Lib.hid hk; clear hk
  go_enter Tryd.func6, Tryd.ntmps6
  go_wp2_with fail
  rw [HK.out]
  refine (new_yes 1 w hT (by omega) (by omega)).mono ?_; rintro e w1 ⟨g, rfl, hg, hS, hb⟩
  go_wp2_with fail
  refine (row_yes 1 _ (by omega) (by omega)).mono ?_; rintro e w2 ⟨rfl, hb2⟩
  simp only [szOf, ordOf, cntOf, Int.reduceEq, if_true, if_false]
  have hS := hS.below hb2
  have hb2 := bel_trans hb hb2
  go_wp2_with fail
  refine (spans_any _ (hT.below (bel_alloc hb2 _))).mono ?_; rintro e w3 ⟨rfl, hb3⟩
  have hS := (hS.below (bel_alloc (Below.refl _ _) _)).below hb3
  have q1 := (hb3.cell (p := ⟨w2.heap.size, 0, none⟩) (by simp)).trans (World.cell?_alloc_new w2 _ _ 0)
  have q3 := (hb3.cell (p := ⟨w2.heap.size, 2, none⟩) (by simp)).trans (World.cell?_alloc_new w2 _ _ 2)
  have hq : w2.heap.size < w3.heap.size := by have := hb3.size; simp at this; omega
  have hb3 := bel_trans (bel_alloc hb2 _) hb3
  simp at q1 q3
  generalize w2.heap.size = r at *
  clear hb hb2
  go_wp2_with fail
  go_loopw [7, 8] (fun m i wr => ∃ a : Int, -3 ≤ a ∧ a ≤ 300 ∧ i = .int .i64 a ∧ m = .int .i64 (nAt 16 4 a) ∧ SpanAt wr g 1 0 ∧ wr.cell? ⟨r, 0, none⟩ = some (.int .i64 16) ∧ wr.cell? ⟨r, 2, none⟩ = some (.int .i64 4) ∧ r < wr.heap.size ∧ Below w.heap.size w wr)
    (fun _ i _ => (300 - intOf i).toNat)
  case atStart => exact ⟨-3, by omega, by omega, rfl, rfl, hS, q1, q3, hq, hb3⟩
  case round =>
    obtain ⟨a, ha, ha2, rfl, rfl, hS, q1, q3, hq, hb3⟩ := hrel
    obtain ⟨n1, n2, n3, n4, n5, n6⟩ := nAt_1 a
    by_cases hend : a < 300
    · by_cases c1 : a < 0
      · have n1 := n1 c1
        have N1 := Lib.hid n1; clear n1 n2 n3 n4
        go_wp2_with fail
        refine (index_neg g 1 0 a _ hS c1).mono ?_; rintro e w4 ⟨rfl, hb4⟩
        have hS := hS.below hb4
        have q1 := (hb4.cell (p := ⟨r, 0, none⟩) hq).trans q1
        have q3 := (hb4.cell (p := ⟨r, 2, none⟩) hq).trans q3
        have hq := Nat.lt_of_lt_of_le hq hb4.size
        have hb4 := bel_trans hb3 hb4
        go_wp2
        go_roundw
        case rel => exact ⟨a + 1, by omega, by omega, rfl, by rw [N1.out], hS, q1, q3, hq, hb4⟩
        case measure => simp [intOf]; omega
      · have c1' : 0 ≤ a := by omega
        by_cases c2 : 64 ≤ a
        · have n4 := n4 c2
          have N1 := Lib.hid n4; clear n1 n2 n3 n4
          go_wp2_with fail
          refine (index_out g 1 0 a _ hS c1' (by simpa [szOf, cntOf] using c2)).mono ?_; rintro e w4 ⟨rfl, hb4⟩
          have hS := hS.below hb4
          have q1 := (hb4.cell (p := ⟨r, 0, none⟩) hq).trans q1
          have q3 := (hb4.cell (p := ⟨r, 2, none⟩) hq).trans q3
          have hq := Nat.lt_of_lt_of_le hq hb4.size
          have hb4 := bel_trans hb3 hb4
          go_wp2
          all_goals
            go_roundw
            case rel => exact ⟨a + 1, by omega, by omega, rfl, by rw [N1.out], hS, q1, q3, hq, hb4⟩
            case measure => simp [intOf]; omega
        · have c2' : a < 64 := by omega
          by_cases c3 : a % 16 = 0
          · obtain ⟨n2, n2'⟩ := n2 c1' c2' c3
            have N1 := Lib.hid n2; have N2 := Lib.hid n2'; clear n1 n2 n2' n3 n4
            have c3' : (a % 16 == 0) = true := by simpa using c3
            go_wp2_with fail
            refine (index_yes g 1 0 a _ hS c1' (by simpa [szOf, cntOf] using c2') (by simpa [szOf] using c3)).mono ?_; rintro e w4 ⟨rfl, hb4⟩
            rw [show a / szOf 1 = nAt 16 4 a from N2.out.symm]
            have hS := hS.below hb4
            have q1 := (hb4.cell (p := ⟨r, 0, none⟩) hq).trans q1
            have q3 := (hb4.cell (p := ⟨r, 2, none⟩) hq).trans q3
            have hq := Nat.lt_of_lt_of_le hq hb4.size
            have hb4 := bel_trans hb3 hb4
            go_wp2
            go_roundw
            case rel => exact ⟨a + 1, by omega, by omega, rfl, by rw [N1.out]; first | rfl | rw [N2.out], hS, q1, q3, hq, hb4⟩
            case measure => simp [intOf]; omega
          · have n3 := n3 c1' c2' c3
            have N1 := Lib.hid n3; clear n1 n2 n3 n4
            have c3' : (a % 16 == 0) = false := by simpa using c3
            go_wp2_with fail
            refine (index_bad g 1 0 a _ hS c1' (by simpa [szOf, cntOf] using c2') (by simpa [szOf] using c3)).mono ?_; rintro e w4 ⟨rfl, hb4⟩
            have hS := hS.below hb4
            have q1 := (hb4.cell (p := ⟨r, 0, none⟩) hq).trans q1
            have q3 := (hb4.cell (p := ⟨r, 2, none⟩) hq).trans q3
            have hq := Nat.lt_of_lt_of_le hq hb4.size
            have hb4 := bel_trans hb3 hb4
            go_wp2
            go_roundw
            case rel => exact ⟨a + 1, by omega, by omega, rfl, by rw [N1.out], hS, q1, q3, hq, hb4⟩
            case measure => simp [intOf]; omega
    · have e : a = 300 := by omega
      have e2 : nAt 16 4 a = 4 := by rw [e]; decide
      have E2 := Lib.hid e2
      clear n1 n2 n3 n4 e e2
      go_wp2
      go_ret
      rw [E2.out]
      exact ⟨rfl, hb3⟩

theorem nAt_2 (a : Int) : (a < 0 → nAt 32 4 (a + 1) = nAt 32 4 a) ∧ (0 ≤ a → a < 128 → a % 32 = 0 → nAt 32 4 (a + 1) = nAt 32 4 a + 1 ∧ nAt 32 4 a = a / 32) ∧ (0 ≤ a → a < 128 → ¬ a % 32 = 0 → nAt 32 4 (a + 1) = nAt 32 4 a) ∧ (128 ≤ a → nAt 32 4 (a + 1) = nAt 32 4 a) ∧ 0 ≤ nAt 32 4 a ∧ nAt 32 4 a ≤ 4 := by
  unfold nAt
  refine ⟨fun h => ?_, fun h h2 h3 => ⟨?_, ?_⟩, fun h h2 h3 => ?_, fun h => ?_, ?_, ?_⟩
  all_goals (repeat' split) <;> omega

set_option maxHeartbeats 1000000 in
theorem places_2 (n : Int) (hk : wrap64 ((IntKind.u64.wrap n).tmod 4) = 2) (w : World) (hT : Tab w) : Calls Tryd.prog 6 #[.int .i64 n] w fun e w' => e = .returned (.bool true) ∧ Below w.heap.size w w' := by
  have HK := Lib.hid hk; clear hk
  go_enter Tryd.func6, Tryd.ntmps6
  go_wp2_with fail
  rw [HK.out]
  refine (new_yes 2 w hT (by omega) (by omega)).mono ?_; rintro e w1 ⟨g, rfl, hg, hS, hb⟩
  go_wp2_with fail
  refine (row_yes 2 _ (by omega) (by omega)).mono ?_; rintro e w2 ⟨rfl, hb2⟩
  simp only [szOf, ordOf, cntOf, Int.reduceEq, if_true, if_false]
  have hS := hS.below hb2
  have hb2 := bel_trans hb hb2
  go_wp2_with fail
  refine (spans_any _ (hT.below (bel_alloc hb2 _))).mono ?_; rintro e w3 ⟨rfl, hb3⟩
  have hS := (hS.below (bel_alloc (Below.refl _ _) _)).below hb3
  have q1 := (hb3.cell (p := ⟨w2.heap.size, 0, none⟩) (by simp)).trans (World.cell?_alloc_new w2 _ _ 0)
  have q3 := (hb3.cell (p := ⟨w2.heap.size, 2, none⟩) (by simp)).trans (World.cell?_alloc_new w2 _ _ 2)
  have hq : w2.heap.size < w3.heap.size := by have := hb3.size; simp at this; omega
  have hb3 := bel_trans (bel_alloc hb2 _) hb3
  simp at q1 q3
  generalize w2.heap.size = r at *
  clear hb hb2
  go_wp2_with fail
  go_loopw [7, 8] (fun m i wr => ∃ a : Int, -3 ≤ a ∧ a ≤ 300 ∧ i = .int .i64 a ∧ m = .int .i64 (nAt 32 4 a) ∧ SpanAt wr g 2 0 ∧ wr.cell? ⟨r, 0, none⟩ = some (.int .i64 32) ∧ wr.cell? ⟨r, 2, none⟩ = some (.int .i64 4) ∧ r < wr.heap.size ∧ Below w.heap.size w wr)
    (fun _ i _ => (300 - intOf i).toNat)
  case atStart => exact ⟨-3, by omega, by omega, rfl, rfl, hS, q1, q3, hq, hb3⟩
  case round =>
    obtain ⟨a, ha, ha2, rfl, rfl, hS, q1, q3, hq, hb3⟩ := hrel
    obtain ⟨n1, n2, n3, n4, n5, n6⟩ := nAt_2 a
    by_cases hend : a < 300
    · by_cases c1 : a < 0
      · have n1 := n1 c1
        have N1 := Lib.hid n1; clear n1 n2 n3 n4
        go_wp2_with fail
        refine (index_neg g 2 0 a _ hS c1).mono ?_; rintro e w4 ⟨rfl, hb4⟩
        have hS := hS.below hb4
        have q1 := (hb4.cell (p := ⟨r, 0, none⟩) hq).trans q1
        have q3 := (hb4.cell (p := ⟨r, 2, none⟩) hq).trans q3
        have hq := Nat.lt_of_lt_of_le hq hb4.size
        have hb4 := bel_trans hb3 hb4
        go_wp2
        go_roundw
        case rel => exact ⟨a + 1, by omega, by omega, rfl, by rw [N1.out], hS, q1, q3, hq, hb4⟩
        case measure => simp [intOf]; omega
      · have c1' : 0 ≤ a := by omega
        by_cases c2 : 128 ≤ a
        · have n4 := n4 c2
          have N1 := Lib.hid n4; clear n1 n2 n3 n4
          go_wp2_with fail
          refine (index_out g 2 0 a _ hS c1' (by simpa [szOf, cntOf] using c2)).mono ?_; rintro e w4 ⟨rfl, hb4⟩
          have hS := hS.below hb4
          have q1 := (hb4.cell (p := ⟨r, 0, none⟩) hq).trans q1
          have q3 := (hb4.cell (p := ⟨r, 2, none⟩) hq).trans q3
          have hq := Nat.lt_of_lt_of_le hq hb4.size
          have hb4 := bel_trans hb3 hb4
          go_wp2
          all_goals
            go_roundw
            case rel => exact ⟨a + 1, by omega, by omega, rfl, by rw [N1.out], hS, q1, q3, hq, hb4⟩
            case measure => simp [intOf]; omega
        · have c2' : a < 128 := by omega
          by_cases c3 : a % 32 = 0
          · obtain ⟨n2, n2'⟩ := n2 c1' c2' c3
            have N1 := Lib.hid n2; have N2 := Lib.hid n2'; clear n1 n2 n2' n3 n4
            have c3' : (a % 32 == 0) = true := by simpa using c3
            go_wp2_with fail
            refine (index_yes g 2 0 a _ hS c1' (by simpa [szOf, cntOf] using c2') (by simpa [szOf] using c3)).mono ?_; rintro e w4 ⟨rfl, hb4⟩
            rw [show a / szOf 2 = nAt 32 4 a from N2.out.symm]
            have hS := hS.below hb4
            have q1 := (hb4.cell (p := ⟨r, 0, none⟩) hq).trans q1
            have q3 := (hb4.cell (p := ⟨r, 2, none⟩) hq).trans q3
            have hq := Nat.lt_of_lt_of_le hq hb4.size
            have hb4 := bel_trans hb3 hb4
            go_wp2
            go_roundw
            case rel => exact ⟨a + 1, by omega, by omega, rfl, by rw [N1.out]; first | rfl | rw [N2.out], hS, q1, q3, hq, hb4⟩
            case measure => simp [intOf]; omega
          · have n3 := n3 c1' c2' c3
            have N1 := Lib.hid n3; clear n1 n2 n3 n4
            have c3' : (a % 32 == 0) = false := by simpa using c3
            go_wp2_with fail
            refine (index_bad g 2 0 a _ hS c1' (by simpa [szOf, cntOf] using c2') (by simpa [szOf] using c3)).mono ?_; rintro e w4 ⟨rfl, hb4⟩
            have hS := hS.below hb4
            have q1 := (hb4.cell (p := ⟨r, 0, none⟩) hq).trans q1
            have q3 := (hb4.cell (p := ⟨r, 2, none⟩) hq).trans q3
            have hq := Nat.lt_of_lt_of_le hq hb4.size
            have hb4 := bel_trans hb3 hb4
            go_wp2
            go_roundw
            case rel => exact ⟨a + 1, by omega, by omega, rfl, by rw [N1.out], hS, q1, q3, hq, hb4⟩
            case measure => simp [intOf]; omega
    · have e : a = 300 := by omega
      have e2 : nAt 32 4 a = 4 := by rw [e]; decide
      have E2 := Lib.hid e2
      clear n1 n2 n3 n4 e e2
      go_wp2
      go_ret
      rw [E2.out]
      exact ⟨rfl, hb3⟩

theorem nAt_3 (a : Int) : (a < 0 → nAt 64 4 (a + 1) = nAt 64 4 a) ∧ (0 ≤ a → a < 256 → a % 64 = 0 → nAt 64 4 (a + 1) = nAt 64 4 a + 1 ∧ nAt 64 4 a = a / 64) ∧ (0 ≤ a → a < 256 → ¬ a % 64 = 0 → nAt 64 4 (a + 1) = nAt 64 4 a) ∧ (256 ≤ a → nAt 64 4 (a + 1) = nAt 64 4 a) ∧ 0 ≤ nAt 64 4 a ∧ nAt 64 4 a ≤ 4 := by
  unfold nAt
  refine ⟨fun h => ?_, fun h h2 h3 => ⟨?_, ?_⟩, fun h h2 h3 => ?_, fun h => ?_, ?_, ?_⟩
  all_goals (repeat' split) <;> omega

set_option maxHeartbeats 1000000 in
theorem places_3 (n : Int) (hk : wrap64 ((IntKind.u64.wrap n).tmod 4) = 3) (w : World) (hT : Tab w) : Calls Tryd.prog 6 #[.int .i64 n] w fun e w' => e = .returned (.bool true) ∧ Below w.heap.size w w' := by
  have HK := Lib.hid hk; clear hk
  go_enter Tryd.func6, Tryd.ntmps6
  go_wp2_with fail
  rw [HK.out]
  refine (new_yes 3 w hT (by omega) (by omega)).mono ?_; rintro e w1 ⟨g, rfl, hg, hS, hb⟩
  go_wp2_with fail
  refine (row_yes 3 _ (by omega) (by omega)).mono ?_; rintro e w2 ⟨rfl, hb2⟩
  simp only [szOf, ordOf, cntOf, Int.reduceEq, if_true, if_false]
  have hS := hS.below hb2
  have hb2 := bel_trans hb hb2
  go_wp2_with fail
  refine (spans_any _ (hT.below (bel_alloc hb2 _))).mono ?_; rintro e w3 ⟨rfl, hb3⟩
  have hS := (hS.below (bel_alloc (Below.refl _ _) _)).below hb3
  have q1 := (hb3.cell (p := ⟨w2.heap.size, 0, none⟩) (by simp)).trans (World.cell?_alloc_new w2 _ _ 0)
  have q3 := (hb3.cell (p := ⟨w2.heap.size, 2, none⟩) (by simp)).trans (World.cell?_alloc_new w2 _ _ 2)
  have hq : w2.heap.size < w3.heap.size := by have := hb3.size; simp at this; omega
  have hb3 := bel_trans (bel_alloc hb2 _) hb3
  simp at q1 q3
  generalize w2.heap.size = r at *
  clear hb hb2
  go_wp2_with fail
  go_loopw [7, 8] (fun m i wr => ∃ a : Int, -3 ≤ a ∧ a ≤ 300 ∧ i = .int .i64 a ∧ m = .int .i64 (nAt 64 4 a) ∧ SpanAt wr g 3 0 ∧ wr.cell? ⟨r, 0, none⟩ = some (.int .i64 64) ∧ wr.cell? ⟨r, 2, none⟩ = some (.int .i64 4) ∧ r < wr.heap.size ∧ Below w.heap.size w wr)
    (fun _ i _ => (300 - intOf i).toNat)
  case atStart => exact ⟨-3, by omega, by omega, rfl, rfl, hS, q1, q3, hq, hb3⟩
  case round =>
    obtain ⟨a, ha, ha2, rfl, rfl, hS, q1, q3, hq, hb3⟩ := hrel
    obtain ⟨n1, n2, n3, n4, n5, n6⟩ := nAt_3 a
    by_cases hend : a < 300
    · by_cases c1 : a < 0
      · have n1 := n1 c1
        have N1 := Lib.hid n1; clear n1 n2 n3 n4
        go_wp2_with fail
        refine (index_neg g 3 0 a _ hS c1).mono ?_; rintro e w4 ⟨rfl, hb4⟩
        have hS := hS.below hb4
        have q1 := (hb4.cell (p := ⟨r, 0, none⟩) hq).trans q1
        have q3 := (hb4.cell (p := ⟨r, 2, none⟩) hq).trans q3
        have hq := Nat.lt_of_lt_of_le hq hb4.size
        have hb4 := bel_trans hb3 hb4
        go_wp2
        go_roundw
        case rel => exact ⟨a + 1, by omega, by omega, rfl, by rw [N1.out], hS, q1, q3, hq, hb4⟩
        case measure => simp [intOf]; omega
      · have c1' : 0 ≤ a := by omega
        by_cases c2 : 256 ≤ a
        · have n4 := n4 c2
          have N1 := Lib.hid n4; clear n1 n2 n3 n4
          go_wp2_with fail
          refine (index_out g 3 0 a _ hS c1' (by simpa [szOf, cntOf] using c2)).mono ?_; rintro e w4 ⟨rfl, hb4⟩
          have hS := hS.below hb4
          have q1 := (hb4.cell (p := ⟨r, 0, none⟩) hq).trans q1
          have q3 := (hb4.cell (p := ⟨r, 2, none⟩) hq).trans q3
          have hq := Nat.lt_of_lt_of_le hq hb4.size
          have hb4 := bel_trans hb3 hb4
          go_wp2
          all_goals
            go_roundw
            case rel => exact ⟨a + 1, by omega, by omega, rfl, by rw [N1.out], hS, q1, q3, hq, hb4⟩
            case measure => simp [intOf]; omega
        · have c2' : a < 256 := by omega
          by_cases c3 : a % 64 = 0
          · obtain ⟨n2, n2'⟩ := n2 c1' c2' c3
            have N1 := Lib.hid n2; have N2 := Lib.hid n2'; clear n1 n2 n2' n3 n4
            have c3' : (a % 64 == 0) = true := by simpa using c3
            go_wp2_with fail
            refine (index_yes g 3 0 a _ hS c1' (by simpa [szOf, cntOf] using c2') (by simpa [szOf] using c3)).mono ?_; rintro e w4 ⟨rfl, hb4⟩
            rw [show a / szOf 3 = nAt 64 4 a from N2.out.symm]
            have hS := hS.below hb4
            have q1 := (hb4.cell (p := ⟨r, 0, none⟩) hq).trans q1
            have q3 := (hb4.cell (p := ⟨r, 2, none⟩) hq).trans q3
            have hq := Nat.lt_of_lt_of_le hq hb4.size
            have hb4 := bel_trans hb3 hb4
            go_wp2
            go_roundw
            case rel => exact ⟨a + 1, by omega, by omega, rfl, by rw [N1.out]; first | rfl | rw [N2.out], hS, q1, q3, hq, hb4⟩
            case measure => simp [intOf]; omega
          · have n3 := n3 c1' c2' c3
            have N1 := Lib.hid n3; clear n1 n2 n3 n4
            have c3' : (a % 64 == 0) = false := by simpa using c3
            go_wp2_with fail
            refine (index_bad g 3 0 a _ hS c1' (by simpa [szOf, cntOf] using c2') (by simpa [szOf] using c3)).mono ?_; rintro e w4 ⟨rfl, hb4⟩
            have hS := hS.below hb4
            have q1 := (hb4.cell (p := ⟨r, 0, none⟩) hq).trans q1
            have q3 := (hb4.cell (p := ⟨r, 2, none⟩) hq).trans q3
            have hq := Nat.lt_of_lt_of_le hq hb4.size
            have hb4 := bel_trans hb3 hb4
            go_wp2
            go_roundw
            case rel => exact ⟨a + 1, by omega, by omega, rfl, by rw [N1.out], hS, q1, q3, hq, hb4⟩
            case measure => simp [intOf]; omega
    · have e : a = 300 := by omega
      have e2 : nAt 64 4 a = 4 := by rw [e]; decide
      have E2 := Lib.hid e2
      clear n1 n2 n3 n4 e e2
      go_wp2
      go_ret
      rw [E2.out]
      exact ⟨rfl, hb3⟩

theorem places_walk (n : Int) (_h : (Lit.int .i64 n).wf = true) (w : World) (hT : Tab w) : Calls Tryd.prog 6 #[.int .i64 n] w fun e w' => e = .returned (.bool true) ∧ Below w.heap.size w w' := by
  have hbd := umod_bd n 4 (by omega) (by omega)
  rcases (by omega : wrap64 ((IntKind.u64.wrap n).tmod 4) = 0 ∨ wrap64 ((IntKind.u64.wrap n).tmod 4) = 1 ∨ wrap64 ((IntKind.u64.wrap n).tmod 4) = 2 ∨ wrap64 ((IntKind.u64.wrap n).tmod 4) = 3) with h | h | h | h
  · exact places_0 n h w hT
  · exact places_1 n h w hT
  · exact places_2 n h w hT
  · exact places_3 n h w hT
end Go.Proofs.YtinijpjbbbbhjaaDoor
