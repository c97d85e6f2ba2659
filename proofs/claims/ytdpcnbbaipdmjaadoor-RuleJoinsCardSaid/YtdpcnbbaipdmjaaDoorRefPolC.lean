/- messuageref10.Check. -/
import Derived.Test.YtdpcnbbaipdmjaaDoorRefNodes
import Derived.Test.YtdpcnbbaipdmjaaDoorPolicy
namespace Go.Proofs.YtdpcnbbaipdmjaaDoor
open Go.RowKit
set_option linter.unusedVariables false
set_option linter.unusedSimpArgs false
attribute [local go_sem] World.cell?_alloc_lt

theorem nodes_last : ∀ s : Nat, s < 256 → 0 < s → ∀ i : Nat, i < 9 → (decide (s / 2 ^ i = 0) = decide ((nodesN s).getD ((nodesN s).length - 1) 0 < i)) := by decide +kernel
theorem chk_rest {m : Int} {s : Nat} {n k : Int} (h1 : 1 ≤ k) (h8 : k ≤ 8) (m0 : 0 ≤ m) (m3 : m ≤ 3) : chk m s n k = if m = 0 then 0 else if m = 1 ∨ m = 2 then setsE s k else if n < 0 ∨ k ≤ n then 10 else 0 := by
  unfold chk
  rw [if_neg (by omega)]
  by_cases a : m = 0
  · rw [if_pos a, if_pos a]
  · rw [if_neg a, if_neg a]
    by_cases b : m = 1 ∨ m = 2
    · rw [if_pos b, if_pos b]
    · rw [if_neg b, if_neg b, if_pos (by omega)]
set_option maxHeartbeats 2000000 in
theorem rcheck_at (m : Int) (s : Nat) (hs : s < 256) (n k : Int) (w : World) : Calls Tryd.prog 12 #[.agg #[.int .i64 m, .int .u8 s, .int .i64 n], .int .i64 k] w fun e w' => e = .returned (.int .i64 (chk m s n k)) ∧ Below w.heap.size w w' := by
  by_cases h1 : k < 1
  · have e : chk m s n k = 3 := by unfold chk; rw [if_pos (Or.inl h1)]
    rw [e]
    go_enter Tryd.func12, Tryd.ntmps12
    go_wp2_with fail
    go_ret
    exact ⟨rfl, (by repeat (first | exact Below.refl _ _ | assumption | with_reducible refine bel_alloc ?_ _ | with_reducible refine bel_drewN ?_ _ | with_reducible refine bel_drew ?_))⟩
  by_cases h2 : 8 < k
  · have e : chk m s n k = 3 := by unfold chk; rw [if_pos (Or.inr h2)]
    rw [e]
    go_enter Tryd.func12, Tryd.ntmps12
    go_wp2_with fail
    go_ret
    exact ⟨rfl, (by repeat (first | exact Below.refl _ _ | assumption | with_reducible refine bel_alloc ?_ _ | with_reducible refine bel_drewN ?_ _ | with_reducible refine bel_drew ?_))⟩
  by_cases hm0 : m < 0
  · have e : chk m s n k = 1 := by unfold chk; rw [if_neg (by omega), if_neg (by omega), if_neg (by omega), if_neg (by omega)]
    rw [e]
    go_enter Tryd.func12, Tryd.ntmps12
    go_wp2_with fail
    go_ret
    exact ⟨rfl, (by repeat (first | exact Below.refl _ _ | assumption | with_reducible refine bel_alloc ?_ _ | with_reducible refine bel_drewN ?_ _ | with_reducible refine bel_drew ?_))⟩
  by_cases hm3 : 3 < m
  · have e : chk m s n k = 1 := by unfold chk; rw [if_neg (by omega), if_neg (by omega), if_neg (by omega), if_neg (by omega)]
    rw [e]
    go_enter Tryd.func12, Tryd.ntmps12
    go_wp2_with fail
    go_ret
    exact ⟨rfl, (by repeat (first | exact Below.refl _ _ | assumption | with_reducible refine bel_alloc ?_ _ | with_reducible refine bel_drewN ?_ _ | with_reducible refine bel_drew ?_))⟩
  rw [chk_rest (by omega) (by omega) (by omega) (by omega)]
  have HL := Lib.hid (rlist_at s hs)
  by_cases m0 : m = 0
  · subst m0
    rw [if_pos rfl]
    go_enter Tryd.func12, Tryd.ntmps12
    go_wp2_with fail
    refine (HL.out _).mono ?_; rintro e w1 ⟨A, c, rfl, hown, hB⟩
    have q0 := (hB.cell (p := ⟨w.heap.size, 0, none⟩) (by simp)).trans (World.cell?_alloc_new w _ _ 0)
    simp at q0
    have hB := bel_trans (bel_alloc (Below.refl _ w) _) hB
    go_wp2_with fail
    go_ret
    exact ⟨rfl, hB⟩
  rw [if_neg m0]
  by_cases m3 : m = 3
  · subst m3
    rw [if_neg (by omega)]
    rcases (by omega : n < 0 ∨ (0 ≤ n ∧ k ≤ n) ∨ (0 ≤ n ∧ n < k)) with n0 | ⟨n0, n1⟩ | ⟨n0, n1⟩
    · rw [if_pos (Or.inl n0)]
      go_enter Tryd.func12, Tryd.ntmps12
      go_wp2_with fail
      refine (HL.out _).mono ?_; rintro e w1 ⟨A, c, rfl, hown, hB⟩
      have q0 := (hB.cell (p := ⟨w.heap.size, 0, none⟩) (by simp)).trans (World.cell?_alloc_new w _ _ 0)
      have q2 := (hB.cell (p := ⟨w.heap.size, 2, none⟩) (by simp)).trans (World.cell?_alloc_new w _ _ 2)
      simp at q0 q2
      have hB := bel_trans (bel_alloc (Below.refl _ w) _) hB
      go_wp2_with fail
      go_ret
      exact ⟨rfl, hB⟩
    · rw [if_pos (Or.inr n1)]
      go_enter Tryd.func12, Tryd.ntmps12
      go_wp2_with fail
      refine (HL.out _).mono ?_; rintro e w1 ⟨A, c, rfl, hown, hB⟩
      have q0 := (hB.cell (p := ⟨w.heap.size, 0, none⟩) (by simp)).trans (World.cell?_alloc_new w _ _ 0)
      have q2 := (hB.cell (p := ⟨w.heap.size, 2, none⟩) (by simp)).trans (World.cell?_alloc_new w _ _ 2)
      simp at q0 q2
      have hB := bel_trans (bel_alloc (Below.refl _ w) _) hB
      go_wp2_with fail
      go_ret
      exact ⟨rfl, hB⟩
    · rw [if_neg (by omega)]
      go_enter Tryd.func12, Tryd.ntmps12
      go_wp2_with fail
      refine (HL.out _).mono ?_; rintro e w1 ⟨A, c, rfl, hown, hB⟩
      have q0 := (hB.cell (p := ⟨w.heap.size, 0, none⟩) (by simp)).trans (World.cell?_alloc_new w _ _ 0)
      have q2 := (hB.cell (p := ⟨w.heap.size, 2, none⟩) (by simp)).trans (World.cell?_alloc_new w _ _ 2)
      simp at q0 q2
      have hB := bel_trans (bel_alloc (Below.refl _ w) _) hB
      go_wp2_with fail
      go_ret
      exact ⟨rfl, hB⟩
  rw [if_pos (by omega)]
  obtain ⟨i, rfl⟩ := Int.eq_ofNat_of_zero_le (show 0 ≤ k by omega)
  have t12 : m = 1 ∨ m = 2 := by omega
  by_cases s0 : s = 0
  · subst s0
    rw [show setsE 0 i = 1 from rfl]
    clear m0 m3
    rcases t12 with rfl | rfl
    all_goals
      go_enter Tryd.func12, Tryd.ntmps12
      go_wp2_with fail
      go_ret
      exact ⟨rfl, (by repeat (first | exact Below.refl _ _ | assumption | with_reducible refine bel_alloc ?_ _ | with_reducible refine bel_drewN ?_ _ | with_reducible refine bel_drew ?_))⟩
  have hsf : ((s : Int) == 0) = false := by rw [beq_eq_false_iff_ne]; omega
  have hlast := nodes_last s hs (by omega) i (by omega)
  have hp := nodes_pos s hs (by omega)
  have hp8 := nodes_len s hs
  have hl1 : (nodesN s).length - 1 < (nodesN s).length := by omega
  have hw := wrap64_small (n := ((nodesN s).length : Int) - 1) (by omega) (by omega)
  have hl2 : ((nodesN s).length : Int) - 1 = (((nodesN s).length - 1 : Nat) : Int) := by omega
  rw [hl2] at hw
  clear m0 m3
  by_cases hd : s / 2 ^ i = 0
  · have e : setsE s i = 0 := by unfold setsE; rw [if_neg s0, Int.toNat_natCast, if_pos hd]
    rw [e]
    rw [decide_eq_true hd] at hlast
    have hcmp : ¬ ((i : Int) ≤ ((nodesN s).getD ((nodesN s).length - 1) 0 : Int)) := by
      have := of_decide_eq_true hlast.symm
      omega
    clear hlast hd e s0
    generalize nodesN s = l at *
    rcases t12 with rfl | rfl
    all_goals
      have HCM := Lib.hid hcmp
      clear hcmp
      go_enter Tryd.func12, Tryd.ntmps12
      go_wp2_with fail
      refine (HL.out _).mono ?_; rintro e w1 ⟨A, c, rfl, hown, hB⟩
      have q0 := (hB.cell (p := ⟨w.heap.size, 0, none⟩) (by simp)).trans (World.cell?_alloc_new w _ _ 0)
      simp at q0
      obtain ⟨ga, hA, hcq, _⟩ := own_at hown (map_at (f := ofN) hl1 0)
      have hib := fun w => idx_int (cap := c) hA hl1 w
      simp only [Nat.zero_add] at hib
      clear hA
      have hcmp := HCM.out
      generalize l.getD (l.length - 1) 0 = x at *
      unfold ofN at hcq
      have hB := bel_trans (bel_alloc (Below.refl _ w) _) hB
      go_wp2_with fail
      go_ret
      exact ⟨rfl, hB⟩
  · have e : setsE s i = 10 := by unfold setsE; rw [if_neg s0, Int.toNat_natCast, if_neg hd]
    rw [e]
    rw [decide_eq_false hd] at hlast
    have hcmp : ((i : Int) ≤ ((nodesN s).getD ((nodesN s).length - 1) 0 : Int)) := by
      have := of_decide_eq_false hlast.symm
      omega
    clear hlast hd e s0
    generalize nodesN s = l at *
    rcases t12 with rfl | rfl
    all_goals
      have HCM := Lib.hid hcmp
      clear hcmp
      go_enter Tryd.func12, Tryd.ntmps12
      go_wp2_with fail
      refine (HL.out _).mono ?_; rintro e w1 ⟨A, c, rfl, hown, hB⟩
      have q0 := (hB.cell (p := ⟨w.heap.size, 0, none⟩) (by simp)).trans (World.cell?_alloc_new w _ _ 0)
      simp at q0
      obtain ⟨ga, hA, hcq, _⟩ := own_at hown (map_at (f := ofN) hl1 0)
      have hib := fun w => idx_int (cap := c) hA hl1 w
      simp only [Nat.zero_add] at hib
      clear hA
      have hcmp := HCM.out
      generalize l.getD (l.length - 1) 0 = x at *
      unfold ofN at hcq
      have hB := bel_trans (bel_alloc (Below.refl _ w) _) hB
      go_wp2_with fail
      go_ret
      exact ⟨rfl, hB⟩
end Go.Proofs.YtdpcnbbaipdmjaaDoor
