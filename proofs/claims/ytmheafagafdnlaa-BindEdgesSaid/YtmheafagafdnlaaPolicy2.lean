/- Package policy (layer 10): Permitted, Start. -/
import Derived.Test.YtmheafagafdnlaaPolicy
namespace Go.Proofs.Ytmheafagafdnlaa
open Go.RowKit
set_option linter.unusedVariables false
set_option linter.unusedSimpArgs false
attribute [local go_sem] World.cell?_alloc_lt

def permN (m : Int) (s : Nat) (k : Int) : Nat := if m = 1 then s else allN k
theorem chk_zero {m : Int} {s : Nat} {n k : Int} (h : chk m s n k = 0) : 1 ≤ k ∧ k ≤ 8 ∧ 0 ≤ m ∧ m ≤ 3 := by
  unfold chk at h
  split at h
  · cases h
  · split at h
    · omega
    · split at h
      · omega
      · split at h
        · omega
        · cases h
theorem chk_set {m : Int} {s : Nat} {n k : Int} (h : chk m s n k = 0) (hm : m = 1 ∨ m = 2) : 0 < s := by
  unfold chk at h
  split at h
  · cases h
  · split at h
    · omega
    · unfold setsE at h
      split at h
      · cases h
      · omega
theorem chk_rng (m : Int) (s : Nat) (n k : Int) : 0 ≤ chk m s n k ∧ chk m s n k ≤ 10 := by
  unfold chk setsE
  repeat' split
  all_goals omega
theorem perm_no (m : Int) (s : Nat) (hs : s < 256) (n k : Int) (h : chk m s n k ≠ 0) (w : World) : Calls Try.prog 26 #[pol m s n, .int .i64 k] w fun e w' => e = .returned (.tuple #[.int .u8 0, .int .i64 (chk m s n k)]) ∧ Below w.heap.size w w' := by
  have hc := check_at m s hs n k
  have HC := Lib.hid hc; clear hc
  have hne : (chk m s n k != 0) = true := by simp [h]
  clear h
  unfold pol at *
  generalize hcc : chk m s n k = c at *
  go_enter Try.func26, Try.ntmps26
  go_wp2_with fail
  refine (HC.out _).mono ?_; rintro e w1 ⟨rfl, hb⟩
  have hb := bel_trans (bel_alloc (Below.refl _ w) _) hb
  go_wp2
  go_ret2
  exact ⟨rfl, hb⟩
theorem perm_yes (m : Int) (s : Nat) (hs : s < 256) (n k : Int) (h : chk m s n k = 0) (w : World) : Calls Try.prog 26 #[pol m s n, .int .i64 k] w fun e w' => e = .returned (.tuple #[.int .u8 (permN m s k), .int .i64 0]) ∧ Below w.heap.size w w' := by
  have hc := check_at m s hs n k
  obtain ⟨k1, k8, m0, m3⟩ := chk_zero h
  rw [h] at hc
  have HC := Lib.hid hc; clear hc h
  by_cases h1 : m = 1
  · subst h1
    have e : permN 1 s k = s := rfl
    rw [e]
    unfold pol at *
    go_enter Try.func26, Try.ntmps26
    go_wp2_with fail
    refine (HC.out _).mono ?_; rintro e w1 ⟨rfl, hb⟩
    have kc := fun i => (hb.cell (p := ⟨w.heap.size, i, none⟩) (by simp)).trans (World.cell?_alloc_new w _ _ i)
    have k0 := kc 0; have k1 := kc 1; have k2 := kc 2
    simp at k0 k1 k2
    clear kc
    have hb := bel_trans (bel_alloc (Below.refl _ w) _) hb
    go_wp2
    go_ret2
    exact ⟨rfl, hb⟩
  · have e : permN m s k = allN k := by unfold permN; rw [if_neg h1]
    rw [e]
    have b1 : (m == 1) = false := by rw [beq_eq_false_iff_ne]; exact h1
    clear h1
    unfold pol at *
    go_enter Try.func26, Try.ntmps26
    go_wp2_with fail
    refine (HC.out _).mono ?_; rintro e w1 ⟨rfl, hb⟩
    have kc := fun i => (hb.cell (p := ⟨w.heap.size, i, none⟩) (by simp)).trans (World.cell?_alloc_new w _ _ i)
    have k0 := kc 0
    simp at k0
    clear kc
    have hb := bel_trans (bel_alloc (Below.refl _ w) _) hb
    go_wp2_with fail
    refine (all_at k (by omega) (by omega) _).mono ?_; rintro e w2 ⟨rfl, rfl⟩
    go_wp2
    go_ret2
    exact ⟨rfl, hb⟩
theorem start_no (m : Int) (s : Nat) (hs : s < 256) (n k own cur : Int) (h : chk m s n k ≠ 0) (w : World) : Calls Try.prog 14 #[pol m s n, .int .i64 k, .int .i64 own, .int .i64 cur] w fun e w' => e = .returned (.tuple #[.int .i64 0, .int .i64 0, .int .i64 (chk m s n k)]) ∧ Below w.heap.size w w' := by
  have hc := check_at m s hs n k
  have HC := Lib.hid hc; clear hc
  have hne : (chk m s n k != 0) = true := by simp [h]
  clear h
  unfold pol at *
  generalize hcc : chk m s n k = c at *
  go_enter Try.func14, Try.ntmps14
  go_wp2_with fail
  refine (HC.out _).mono ?_; rintro e w1 ⟨rfl, hb⟩
  have hb := bel_trans (bel_alloc (Below.refl _ w) _) hb
  go_wp2
  go_ret3
  exact ⟨rfl, hb⟩
theorem start_own (m : Int) (s : Nat) (hs : s < 256) (n k own cur : Int) (h : chk m s n k = 0) (ho : own < 0 ∨ k ≤ own) (w : World) : Calls Try.prog 14 #[pol m s n, .int .i64 k, .int .i64 own, .int .i64 cur] w fun e w' => e = .returned (.tuple #[.int .i64 0, .int .i64 0, .int .i64 10]) ∧ Below w.heap.size w w' := by
  have hc := check_at m s hs n k
  obtain ⟨k1, k8, m0, m3⟩ := chk_zero h
  rw [h] at hc
  have HC := Lib.hid hc; clear hc h
  unfold pol at *
  rcases (by omega : own < 0 ∨ (0 ≤ own ∧ k ≤ own)) with ho | ⟨ho, ho2⟩
  all_goals
    go_enter Try.func14, Try.ntmps14
    go_wp2_with fail
    refine (HC.out _).mono ?_; rintro e w1 ⟨rfl, hb⟩
    have hb := bel_trans (bel_alloc (Below.refl _ w) _) hb
    go_wp2
    go_ret3
    exact ⟨rfl, hb⟩
def startN (m : Int) (s : Nat) (n own cur : Int) : Int × Int := if m = 2 then ((nextN s cur : Int), (nextN s cur : Int)) else if m = 3 then (n, cur) else (own, cur)
theorem start_yes (m : Int) (s : Nat) (hs : s < 256) (n k own cur : Int) (h : chk m s n k = 0) (ho : 0 ≤ own) (hk : own < k) (w : World) : Calls Try.prog 14 #[pol m s n, .int .i64 k, .int .i64 own, .int .i64 cur] w fun e w' => e = .returned (.tuple #[.int .i64 (startN m s n own cur).1, .int .i64 (startN m s n own cur).2, .int .i64 0]) ∧ Below w.heap.size w w' := by
  have hc := check_at m s hs n k
  obtain ⟨k1, k8, m0, m3⟩ := chk_zero h
  have hset := chk_set h
  rw [h] at hc
  have HC := Lib.hid hc; clear hc h
  by_cases h2 : m = 2
  · subst h2
    have hn := next_at s hs (hset (Or.inr rfl)) cur
    have HN := Lib.hid hn; clear hn hset
    have e : startN 2 s n own cur = ((nextN s cur : Int), (nextN s cur : Int)) := rfl
    rw [e]
    unfold pol at *
    go_enter Try.func14, Try.ntmps14
    go_wp2_with fail
    refine (HC.out _).mono ?_; rintro e w1 ⟨rfl, hb⟩
    have kc := fun i => (hb.cell (p := ⟨w.heap.size, i, none⟩) (by simp)).trans (World.cell?_alloc_new w _ _ i)
    have q0 := kc 0; have q1 := kc 1; have q2 := kc 2
    simp at q0 q1 q2
    clear kc
    have hb := bel_trans (bel_alloc (Below.refl _ w) _) hb
    go_wp2_with fail
    refine (HN.out _).mono ?_; rintro e w2 ⟨rfl, hb2⟩
    have hb := bel_trans hb hb2
    go_wp2
    go_ret3
    exact ⟨rfl, hb⟩
  clear hset
  by_cases h3 : m = 3
  · subst h3
    have e : startN 3 s n own cur = (n, cur) := rfl
    rw [e]
    unfold pol at *
    go_enter Try.func14, Try.ntmps14
    go_wp2_with fail
    refine (HC.out _).mono ?_; rintro e w1 ⟨rfl, hb⟩
    have kc := fun i => (hb.cell (p := ⟨w.heap.size, i, none⟩) (by simp)).trans (World.cell?_alloc_new w _ _ i)
    have q0 := kc 0; have q1 := kc 1; have q2 := kc 2
    simp at q0 q1 q2
    clear kc
    have hb := bel_trans (bel_alloc (Below.refl _ w) _) hb
    go_wp2
    go_ret3
    exact ⟨rfl, hb⟩
  · have e : startN m s n own cur = (own, cur) := by unfold startN; rw [if_neg h2, if_neg h3]
    rw [e]
    have b2 : (m == 2) = false := by rw [beq_eq_false_iff_ne]; exact h2
    have b3 : (m == 3) = false := by rw [beq_eq_false_iff_ne]; exact h3
    clear h2 h3
    unfold pol at *
    go_enter Try.func14, Try.ntmps14
    go_wp2_with fail
    refine (HC.out _).mono ?_; rintro e w1 ⟨rfl, hb⟩
    have kc := fun i => (hb.cell (p := ⟨w.heap.size, i, none⟩) (by simp)).trans (World.cell?_alloc_new w _ _ i)
    have q0 := kc 0; have q1 := kc 1; have q2 := kc 2
    simp at q0 q1 q2
    clear kc
    have hb := bel_trans (bel_alloc (Below.refl _ w) _) hb
    go_wp2
    go_ret3
    exact ⟨rfl, hb⟩
theorem starts_any (w : World) : Calls Try.prog 12 #[] w fun e w' => e = .returned (.bool true) ∧ Below w.heap.size w w' := by
  have h := start_yes 2 5 (by omega) 0 3 1 0 rfl (by omega) (by omega)
  rw [show startN 2 5 0 1 0 = (2, 2) from by decide +kernel] at h
  unfold pol at h
  have H := Lib.hid h; clear h
  go_enter Try.func12, Try.ntmps12
  go_wp2_with fail
  refine (H.out w).mono ?_; rintro e w1 ⟨rfl, hb⟩
  go_wp2
  go_ret
  exact ⟨rfl, hb⟩
end Go.Proofs.Ytmheafagafdnlaa
