/- The law PolicyMore. -/
import Derived.Test.YtmheafagafdnlaaPolicy2
import Derived.Test.YtmheafagafdnlaaAfter
import Derived.Lib.SmallJoins
namespace Go.Proofs.Ytmheafagafdnlaa
open Go.RowKit
set_option linter.unusedVariables false
set_option linter.unusedSimpArgs false
attribute [local go_sem] World.cell?_alloc_lt

section
variable {H : Type} {enc : TypeId × Value → H} {W : World} {base : Nat} {held : Bool}
theorem open_pol {r : Reach} {b0 : Nat} {v : Value} {d : DataW H} {p : List MemPlace} (hv : Value.okWide Try.prog W r b0 54 v) (h : DataW.Trod enc Try.prog W base (fun _ => true) held 54 v d p) :
    ∃ (m : Int) (s : Nat) (n : Int), v = .agg #[.int .i64 m, .int .u8 s, .int .i64 n] ∧ s < 256 := by
  obtain ⟨v0, v1, v2, y0, y1, y2, k, rfl, _, _, h0, h1, h2⟩ := Go.Joins.open_agg3 Try.underlying54 (by kernel_rfl) (by kernel_rfl) hv h
  obtain ⟨m, e0, _, _⟩ := DataW.trod_int Try.underlying3 h0
  obtain ⟨s, e1, _, ws⟩ := DataW.trod_int Try.underlying5 h1
  obtain ⟨n, e2, _, _⟩ := DataW.trod_int Try.underlying3 h2
  simp only [List.cons.injEq, and_true] at e0 e1 e2
  subst e0 e1 e2
  have hb := bounds_u8 ws
  obtain ⟨s, rfl⟩ := Int.eq_ofNat_of_zero_le hb.1
  exact ⟨m, s, n, rfl, by omega⟩
end
/-- What Permitted, Start answer, of all policies. -/
def permT (m : Int) (s : Nat) (n k : Int) : Nat × Int := if chk m s n k = 0 then (permN m s k, 0) else (0, chk m s n k)
theorem perm_any (m : Int) (s : Nat) (hs : s < 256) (n k : Int) (w : World) : Calls Try.prog 26 #[.agg #[.int .i64 m, .int .u8 s, .int .i64 n], .int .i64 k] w fun e w' => e = .returned (.tuple #[.int .u8 (permT m s n k).1, .int .i64 (permT m s n k).2]) ∧ Below w.heap.size w w' := by
  unfold permT
  by_cases h : chk m s n k = 0
  · rw [if_pos h]; exact perm_yes m s hs n k h w
  · rw [if_neg h]; exact perm_no m s hs n k h w
def startT (m : Int) (s : Nat) (n k own cur : Int) : Int × Int × Int := if chk m s n k = 0 then (if 0 ≤ own ∧ own < k then ((startN m s n own cur).1, (startN m s n own cur).2, 0) else (0, 0, 10)) else (0, 0, chk m s n k)
theorem start_any (m : Int) (s : Nat) (hs : s < 256) (n k own cur : Int) (w : World) : Calls Try.prog 14 #[.agg #[.int .i64 m, .int .u8 s, .int .i64 n], .int .i64 k, .int .i64 own, .int .i64 cur] w fun e w' => e = .returned (.tuple #[.int .i64 (startT m s n k own cur).1, .int .i64 (startT m s n k own cur).2.1, .int .i64 (startT m s n k own cur).2.2]) ∧ Below w.heap.size w w' := by
  unfold startT
  by_cases h : chk m s n k = 0
  · rw [if_pos h]
    by_cases h2 : 0 ≤ own ∧ own < k
    · rw [if_pos h2]; exact start_yes m s hs n k own cur h h2.1 h2.2 w
    · rw [if_neg h2]; exact start_own m s hs n k own cur h (by omega) w
  · rw [if_neg h]; exact start_no m s hs n k own cur h w
theorem to_any (m : Int) (s : Nat) (n : Int) (w : World) : Calls Try.prog 27 #[.agg #[.int .i64 m, .int .u8 s, .int .i64 n]] w fun e w' => e = .returned (.agg #[.int .i64 m, .int .u8 s, .int .i64 n]) ∧ Below w.heap.size w w' := by
  go_enter Try.func27, Try.ntmps27
  go_wp2_with fail
  exact bodyPost_ret (v := .agg #[.int .i64 m, .int .u8 s, .int .i64 n]) (by simp [results, Try.results27, go_sem]) rfl ⟨rfl, (by repeat (first | exact Below.refl _ _ | assumption | with_reducible refine bel_alloc ?_ _ | with_reducible refine bel_drewN ?_ _ | with_reducible refine bel_drew ?_))⟩
/-- Policies that are alike. -/
structure Alike (m : Int) (s : Nat) (n : Int) (s' : Nat) (n' : Int) : Prop where
  c : chk m s' n' 8 = chk m s n 8
  p : permT m s' n' 8 = permT m s n 8
  t : startT m s' n' 8 5 2 = startT m s n 8 5 2
theorem alike {m : Int} {s : Nat} {n : Int} {s' : Nat} {n' : Int} (h1 : m = 1 ∨ m = 2 → s' = s) (h2 : m = 3 → n' = n) : Alike m s n s' n' := by
  have e : chk m s' n' 8 = chk m s n 8 := by
    unfold chk
    by_cases a : m = 1 ∨ m = 2
    · rw [h1 a]; repeat' split
      all_goals first | rfl | omega
    · by_cases b : m = 3
      · rw [h2 b]; repeat' split
        all_goals first | rfl | omega
      · repeat' split
        all_goals first | rfl | omega
  refine ⟨e, ?_, ?_⟩
  · unfold permT
    rw [e]
    unfold permN
    by_cases a : m = 1
    · rw [h1 (Or.inl a)]
    · rw [if_neg a, if_neg a]
  · unfold startT
    rw [e]
    unfold startN
    by_cases a : m = 2
    · rw [h1 (Or.inr a)]; simp only [if_pos a]
    · by_cases b : m = 3
      · rw [h2 b]; simp only [if_neg a, if_pos b]
      · simp only [if_neg a, if_neg b]
set_option maxRecDepth 100000 in
set_option maxHeartbeats 2000000 in
theorem policyMore_walk (w0 : World) (m : Int) (s : Nat) (n : Int) (hs : s < 256) (z : Int) (hz : (Lit.int .u8 z).wf = true) (nd : Int) (_h2 : (Lit.int .i64 nd).wf = true) :
    Calls Try.prog 7 #[.agg #[.int .i64 m, .int .u8 s, .int .i64 n], .int .u8 z, .int .i64 nd] w0 fun e w' => e = .returned (.bool true) ∧ Below w0.heap.size w0 w' := by
  have hzb := bounds_u8 hz
  obtain ⟨s', rfl⟩ := Int.eq_ofNat_of_zero_le hzb.1
  have hs' : s' < 256 := by omega
  clear hz hzb
  by_cases m3 : m = 3
  · have n1 : (m != 1) = true := by subst m3; rfl
    have n2 : (m != 2) = true := by subst m3; rfl
    have n3 : (m != 3) = false := by subst m3; rfl
    have AL := Lib.hid (alike (m := m) (s := s) (n := n) (s' := s') (n' := n) (by omega) (by omega))
    try clear m1
    try clear m2
    try clear m12
    try clear m3
    go_enter Try.func7, Try.ntmps7
    go_wp2_with fail
    refine (to_any m s n _).mono ?_; rintro e w1 ⟨rfl, hb⟩
    have hp := (Blk.new w0 54 [.int .i64 m, .int .u8 s, .int .i64 n])
    have hB := bel_trans ((by repeat (first | exact Below.refl _ _ | assumption | with_reducible refine bel_alloc ?_ _ | with_reducible refine bel_drewN ?_ _ | with_reducible refine bel_drew ?_)) : Below w0.heap.size w0 _) hb
    have hp1 := (hp.alloc _).below hb
    have hq1 := (Blk.new (w0.alloc (.cells #[.int .i64 m, .int .u8 s, .int .i64 n] 54)) 54 [.int .i64 m, .int .u8 s', .int .i64 n]).below hb
    have hsz : (w0.alloc (.cells #[.int .i64 m, .int .u8 s, .int .i64 n] 54)).heap.size = w0.heap.size + 1 := by simp
    rw [hsz] at hq1
    clear hsz hb hp
    go_wp2_with fail
    refine (perm_any m s hs n 8 _).mono ?_; rintro e w2 ⟨rfl, hb⟩
    have hB := bel_trans hB hb; have hp2 := hp1.below hb; have hq2 := hq1.below hb; clear hp1 hq1 hb
    have q0 := hq2.at_ (i := 0) rfl; have q1 := hq2.at_ (i := 1) rfl; have q2 := hq2.at_ (i := 2) rfl
    go_wp2_with fail
    refine (to_any m s' n _).mono ?_; rintro e w3 ⟨rfl, hb⟩
    have hB := bel_trans hB hb; have hp3 := hp2.below hb; have hq3 := hq2.below hb; clear hp2 hq2 hb q0 q1 q2
    go_wp2_with fail
    refine (perm_any m s' hs' n 8 _).mono ?_; rintro e w4 ⟨rfl, hb⟩
    have hB := bel_trans hB hb; have hp4 := hp3.below hb; have hq4 := hq3.below hb; clear hp3 hq3 hb
    rw [AL.out.p]
    have q0 := hp4.at_ (i := 0) rfl; have q1 := hp4.at_ (i := 1) rfl; have q2 := hp4.at_ (i := 2) rfl
    go_wp2_with fail
    refine (to_any m s n _).mono ?_; rintro e w5 ⟨rfl, hb⟩
    have hB := bel_trans hB hb; have hp5 := hp4.below hb; have hq5 := hq4.below hb; clear hp4 hq4 hb q0 q1 q2
    go_wp2_with fail
    refine (start_any m s hs n 8 5 2 _).mono ?_; rintro e w6 ⟨rfl, hb⟩
    have hB := bel_trans hB hb; have hp6 := hp5.below hb; have hq6 := hq5.below hb; clear hp5 hq5 hb
    have q0 := hq6.at_ (i := 0) rfl; have q1 := hq6.at_ (i := 1) rfl; have q2 := hq6.at_ (i := 2) rfl
    go_wp2_with fail
    refine (to_any m s' n _).mono ?_; rintro e w7 ⟨rfl, hb⟩
    have hB := bel_trans hB hb; have hp7 := hp6.below hb; have hq7 := hq6.below hb; clear hp6 hq6 hb q0 q1 q2
    go_wp2_with fail
    refine (start_any m s' hs' n 8 5 2 _).mono ?_; rintro e w8 ⟨rfl, hb⟩
    have hB := bel_trans hB hb; have hp8 := hp7.below hb; have hq8 := hq7.below hb; clear hp7 hq7 hb
    rw [AL.out.t]
    have hca := check_at m s hs n 8
    have hcb := check_at m s' hs' n 8
    rw [AL.out.c] at hcb
    unfold pol at hca hcb
    have HCA := Lib.hid hca; have HCB := Lib.hid hcb; clear hca hcb
    have q0 := after_cell (hp8.at_ (i := 0) rfl); have q1 := after_cell (hp8.at_ (i := 1) rfl); have q2 := after_cell (hp8.at_ (i := 2) rfl)
    have r0 := after_cell (hq8.at_ (i := 0) rfl); have r1 := after_cell (hq8.at_ (i := 1) rfl); have r2 := after_cell (hq8.at_ (i := 2) rfl)
    generalize startT m s n 8 5 2 = st at *
    generalize permT m s n 8 = pe at *
    generalize chk m s n 8 = ck at *
    clear hp8 hq8
    go_wp2_with fail
    refine wp_region_after (by kernel_rfl) (by kernel_rfl) ?_
    repeat (first | go_big_quiet_step (first | (go_at_call 12; exact after_call starts_any _) | (go_at_call 27; exact after_call (to_any _ _ _) _) | (go_at_call_of 28 ((s : Int)); exact after_call HCA.out _) | (go_at_call 28; exact after_call HCB.out _)) | quiet_step (first | (go_at_call 12; exact after_call starts_any _) | (go_at_call 27; exact after_call (to_any _ _ _) _) | (go_at_call_of 28 ((s : Int)); exact after_call HCA.out _) | (go_at_call 28; exact after_call HCB.out _)))
    refine wpQuiet_nil ?_; intro _ hw'; obtain ⟨xq, hw''⟩ := hw'; subst hw''
    have hB := bel_after hB xq
    go_wp2
    go_ret
    exact ⟨rfl, hB⟩
  have n3 : (m != 3) = true := by simp [m3]
  by_cases m12 : m = 1 ∨ m = 2
  · rcases (by omega : m = 1 ∨ (m ≠ 1 ∧ m = 2)) with m1 | ⟨m1, m2⟩
    · have n1 : (m != 1) = false := by subst m1; rfl
      have AL := Lib.hid (alike (m := m) (s := s) (n := n) (s' := s) (n' := nd) (by omega) (by omega))
      try clear m1
      try clear m2
      try clear m12
      try clear m3
      go_enter Try.func7, Try.ntmps7
      go_wp2_with fail
      refine (to_any m s n _).mono ?_; rintro e w1 ⟨rfl, hb⟩
      have hp := (Blk.new w0 54 [.int .i64 m, .int .u8 s, .int .i64 n])
      have hB := bel_trans ((by repeat (first | exact Below.refl _ _ | assumption | with_reducible refine bel_alloc ?_ _ | with_reducible refine bel_drewN ?_ _ | with_reducible refine bel_drew ?_)) : Below w0.heap.size w0 _) hb
      have hp1 := (hp.alloc _).below hb
      have hq1 := (Blk.new (w0.alloc (.cells #[.int .i64 m, .int .u8 s, .int .i64 n] 54)) 54 [.int .i64 m, .int .u8 s, .int .i64 nd]).below hb
      have hsz : (w0.alloc (.cells #[.int .i64 m, .int .u8 s, .int .i64 n] 54)).heap.size = w0.heap.size + 1 := by simp
      rw [hsz] at hq1
      clear hsz hb hp
      go_wp2_with fail
      refine (perm_any m s hs n 8 _).mono ?_; rintro e w2 ⟨rfl, hb⟩
      have hB := bel_trans hB hb; have hp2 := hp1.below hb; have hq2 := hq1.below hb; clear hp1 hq1 hb
      have q0 := hq2.at_ (i := 0) rfl; have q1 := hq2.at_ (i := 1) rfl; have q2 := hq2.at_ (i := 2) rfl
      go_wp2_with fail
      refine (to_any m s nd _).mono ?_; rintro e w3 ⟨rfl, hb⟩
      have hB := bel_trans hB hb; have hp3 := hp2.below hb; have hq3 := hq2.below hb; clear hp2 hq2 hb q0 q1 q2
      go_wp2_with fail
      refine (perm_any m s hs nd 8 _).mono ?_; rintro e w4 ⟨rfl, hb⟩
      have hB := bel_trans hB hb; have hp4 := hp3.below hb; have hq4 := hq3.below hb; clear hp3 hq3 hb
      rw [AL.out.p]
      have q0 := hp4.at_ (i := 0) rfl; have q1 := hp4.at_ (i := 1) rfl; have q2 := hp4.at_ (i := 2) rfl
      go_wp2_with fail
      refine (to_any m s n _).mono ?_; rintro e w5 ⟨rfl, hb⟩
      have hB := bel_trans hB hb; have hp5 := hp4.below hb; have hq5 := hq4.below hb; clear hp4 hq4 hb q0 q1 q2
      go_wp2_with fail
      refine (start_any m s hs n 8 5 2 _).mono ?_; rintro e w6 ⟨rfl, hb⟩
      have hB := bel_trans hB hb; have hp6 := hp5.below hb; have hq6 := hq5.below hb; clear hp5 hq5 hb
      have q0 := hq6.at_ (i := 0) rfl; have q1 := hq6.at_ (i := 1) rfl; have q2 := hq6.at_ (i := 2) rfl
      go_wp2_with fail
      refine (to_any m s nd _).mono ?_; rintro e w7 ⟨rfl, hb⟩
      have hB := bel_trans hB hb; have hp7 := hp6.below hb; have hq7 := hq6.below hb; clear hp6 hq6 hb q0 q1 q2
      go_wp2_with fail
      refine (start_any m s hs nd 8 5 2 _).mono ?_; rintro e w8 ⟨rfl, hb⟩
      have hB := bel_trans hB hb; have hp8 := hp7.below hb; have hq8 := hq7.below hb; clear hp7 hq7 hb
      rw [AL.out.t]
      have hca := check_at m s hs n 8
      have hcb := check_at m s hs nd 8
      rw [AL.out.c] at hcb
      unfold pol at hca hcb
      have HCA := Lib.hid hca; have HCB := Lib.hid hcb; clear hca hcb
      have q0 := after_cell (hp8.at_ (i := 0) rfl); have q1 := after_cell (hp8.at_ (i := 1) rfl); have q2 := after_cell (hp8.at_ (i := 2) rfl)
      have r0 := after_cell (hq8.at_ (i := 0) rfl); have r1 := after_cell (hq8.at_ (i := 1) rfl); have r2 := after_cell (hq8.at_ (i := 2) rfl)
      generalize startT m s n 8 5 2 = st at *
      generalize permT m s n 8 = pe at *
      generalize chk m s n 8 = ck at *
      clear hp8 hq8
      go_wp2_with fail
      refine wp_region_after (by kernel_rfl) (by kernel_rfl) ?_
      repeat (first | go_big_quiet_step (first | (go_at_call 12; exact after_call starts_any _) | (go_at_call 27; exact after_call (to_any _ _ _) _) | (go_at_call_of 28 (n); exact after_call HCA.out _) | (go_at_call 28; exact after_call HCB.out _)) | quiet_step (first | (go_at_call 12; exact after_call starts_any _) | (go_at_call 27; exact after_call (to_any _ _ _) _) | (go_at_call_of 28 (n); exact after_call HCA.out _) | (go_at_call 28; exact after_call HCB.out _)))
      refine wpQuiet_nil ?_; intro _ hw'; obtain ⟨xq, hw''⟩ := hw'; subst hw''
      have hB := bel_after hB xq
      go_wp2
      go_ret
      exact ⟨rfl, hB⟩
    · have n1 : (m != 1) = true := by simp [m1]
      have n2 : (m != 2) = false := by simp [m2]
      have AL := Lib.hid (alike (m := m) (s := s) (n := n) (s' := s) (n' := nd) (by omega) (by omega))
      try clear m1
      try clear m2
      try clear m12
      try clear m3
      go_enter Try.func7, Try.ntmps7
      go_wp2_with fail
      refine (to_any m s n _).mono ?_; rintro e w1 ⟨rfl, hb⟩
      have hp := (Blk.new w0 54 [.int .i64 m, .int .u8 s, .int .i64 n])
      have hB := bel_trans ((by repeat (first | exact Below.refl _ _ | assumption | with_reducible refine bel_alloc ?_ _ | with_reducible refine bel_drewN ?_ _ | with_reducible refine bel_drew ?_)) : Below w0.heap.size w0 _) hb
      have hp1 := (hp.alloc _).below hb
      have hq1 := (Blk.new (w0.alloc (.cells #[.int .i64 m, .int .u8 s, .int .i64 n] 54)) 54 [.int .i64 m, .int .u8 s, .int .i64 nd]).below hb
      have hsz : (w0.alloc (.cells #[.int .i64 m, .int .u8 s, .int .i64 n] 54)).heap.size = w0.heap.size + 1 := by simp
      rw [hsz] at hq1
      clear hsz hb hp
      go_wp2_with fail
      refine (perm_any m s hs n 8 _).mono ?_; rintro e w2 ⟨rfl, hb⟩
      have hB := bel_trans hB hb; have hp2 := hp1.below hb; have hq2 := hq1.below hb; clear hp1 hq1 hb
      have q0 := hq2.at_ (i := 0) rfl; have q1 := hq2.at_ (i := 1) rfl; have q2 := hq2.at_ (i := 2) rfl
      go_wp2_with fail
      refine (to_any m s nd _).mono ?_; rintro e w3 ⟨rfl, hb⟩
      have hB := bel_trans hB hb; have hp3 := hp2.below hb; have hq3 := hq2.below hb; clear hp2 hq2 hb q0 q1 q2
      go_wp2_with fail
      refine (perm_any m s hs nd 8 _).mono ?_; rintro e w4 ⟨rfl, hb⟩
      have hB := bel_trans hB hb; have hp4 := hp3.below hb; have hq4 := hq3.below hb; clear hp3 hq3 hb
      rw [AL.out.p]
      have q0 := hp4.at_ (i := 0) rfl; have q1 := hp4.at_ (i := 1) rfl; have q2 := hp4.at_ (i := 2) rfl
      go_wp2_with fail
      refine (to_any m s n _).mono ?_; rintro e w5 ⟨rfl, hb⟩
      have hB := bel_trans hB hb; have hp5 := hp4.below hb; have hq5 := hq4.below hb; clear hp4 hq4 hb q0 q1 q2
      go_wp2_with fail
      refine (start_any m s hs n 8 5 2 _).mono ?_; rintro e w6 ⟨rfl, hb⟩
      have hB := bel_trans hB hb; have hp6 := hp5.below hb; have hq6 := hq5.below hb; clear hp5 hq5 hb
      have q0 := hq6.at_ (i := 0) rfl; have q1 := hq6.at_ (i := 1) rfl; have q2 := hq6.at_ (i := 2) rfl
      go_wp2_with fail
      refine (to_any m s nd _).mono ?_; rintro e w7 ⟨rfl, hb⟩
      have hB := bel_trans hB hb; have hp7 := hp6.below hb; have hq7 := hq6.below hb; clear hp6 hq6 hb q0 q1 q2
      go_wp2_with fail
      refine (start_any m s hs nd 8 5 2 _).mono ?_; rintro e w8 ⟨rfl, hb⟩
      have hB := bel_trans hB hb; have hp8 := hp7.below hb; have hq8 := hq7.below hb; clear hp7 hq7 hb
      rw [AL.out.t]
      have hca := check_at m s hs n 8
      have hcb := check_at m s hs nd 8
      rw [AL.out.c] at hcb
      unfold pol at hca hcb
      have HCA := Lib.hid hca; have HCB := Lib.hid hcb; clear hca hcb
      have q0 := after_cell (hp8.at_ (i := 0) rfl); have q1 := after_cell (hp8.at_ (i := 1) rfl); have q2 := after_cell (hp8.at_ (i := 2) rfl)
      have r0 := after_cell (hq8.at_ (i := 0) rfl); have r1 := after_cell (hq8.at_ (i := 1) rfl); have r2 := after_cell (hq8.at_ (i := 2) rfl)
      generalize startT m s n 8 5 2 = st at *
      generalize permT m s n 8 = pe at *
      generalize chk m s n 8 = ck at *
      clear hp8 hq8
      go_wp2_with fail
      refine wp_region_after (by kernel_rfl) (by kernel_rfl) ?_
      repeat (first | go_big_quiet_step (first | (go_at_call 12; exact after_call starts_any _) | (go_at_call 27; exact after_call (to_any _ _ _) _) | (go_at_call_of 28 (n); exact after_call HCA.out _) | (go_at_call 28; exact after_call HCB.out _)) | quiet_step (first | (go_at_call 12; exact after_call starts_any _) | (go_at_call 27; exact after_call (to_any _ _ _) _) | (go_at_call_of 28 (n); exact after_call HCA.out _) | (go_at_call 28; exact after_call HCB.out _)))
      refine wpQuiet_nil ?_; intro _ hw'; obtain ⟨xq, hw''⟩ := hw'; subst hw''
      have hB := bel_after hB xq
      go_wp2
      go_ret
      exact ⟨rfl, hB⟩
  · have n1 : (m != 1) = true := by simp; omega
    have n2 : (m != 2) = true := by simp; omega
    have AL := Lib.hid (alike (m := m) (s := s) (n := n) (s' := s') (n' := nd) (by omega) (by omega))
    try clear m1
    try clear m2
    try clear m12
    try clear m3
    go_enter Try.func7, Try.ntmps7
    go_wp2_with fail
    refine (to_any m s n _).mono ?_; rintro e w1 ⟨rfl, hb⟩
    have hp := (Blk.new w0 54 [.int .i64 m, .int .u8 s, .int .i64 n])
    have hB := bel_trans ((by repeat (first | exact Below.refl _ _ | assumption | with_reducible refine bel_alloc ?_ _ | with_reducible refine bel_drewN ?_ _ | with_reducible refine bel_drew ?_)) : Below w0.heap.size w0 _) hb
    have hp1 := (hp.alloc _).below hb
    have hq1 := (Blk.new (w0.alloc (.cells #[.int .i64 m, .int .u8 s, .int .i64 n] 54)) 54 [.int .i64 m, .int .u8 s', .int .i64 nd]).below hb
    have hsz : (w0.alloc (.cells #[.int .i64 m, .int .u8 s, .int .i64 n] 54)).heap.size = w0.heap.size + 1 := by simp
    rw [hsz] at hq1
    clear hsz hb hp
    go_wp2_with fail
    refine (perm_any m s hs n 8 _).mono ?_; rintro e w2 ⟨rfl, hb⟩
    have hB := bel_trans hB hb; have hp2 := hp1.below hb; have hq2 := hq1.below hb; clear hp1 hq1 hb
    have q0 := hq2.at_ (i := 0) rfl; have q1 := hq2.at_ (i := 1) rfl; have q2 := hq2.at_ (i := 2) rfl
    go_wp2_with fail
    refine (to_any m s' nd _).mono ?_; rintro e w3 ⟨rfl, hb⟩
    have hB := bel_trans hB hb; have hp3 := hp2.below hb; have hq3 := hq2.below hb; clear hp2 hq2 hb q0 q1 q2
    go_wp2_with fail
    refine (perm_any m s' hs' nd 8 _).mono ?_; rintro e w4 ⟨rfl, hb⟩
    have hB := bel_trans hB hb; have hp4 := hp3.below hb; have hq4 := hq3.below hb; clear hp3 hq3 hb
    rw [AL.out.p]
    have q0 := hp4.at_ (i := 0) rfl; have q1 := hp4.at_ (i := 1) rfl; have q2 := hp4.at_ (i := 2) rfl
    go_wp2_with fail
    refine (to_any m s n _).mono ?_; rintro e w5 ⟨rfl, hb⟩
    have hB := bel_trans hB hb; have hp5 := hp4.below hb; have hq5 := hq4.below hb; clear hp4 hq4 hb q0 q1 q2
    go_wp2_with fail
    refine (start_any m s hs n 8 5 2 _).mono ?_; rintro e w6 ⟨rfl, hb⟩
    have hB := bel_trans hB hb; have hp6 := hp5.below hb; have hq6 := hq5.below hb; clear hp5 hq5 hb
    have q0 := hq6.at_ (i := 0) rfl; have q1 := hq6.at_ (i := 1) rfl; have q2 := hq6.at_ (i := 2) rfl
    go_wp2_with fail
    refine (to_any m s' nd _).mono ?_; rintro e w7 ⟨rfl, hb⟩
    have hB := bel_trans hB hb; have hp7 := hp6.below hb; have hq7 := hq6.below hb; clear hp6 hq6 hb q0 q1 q2
    go_wp2_with fail
    refine (start_any m s' hs' nd 8 5 2 _).mono ?_; rintro e w8 ⟨rfl, hb⟩
    have hB := bel_trans hB hb; have hp8 := hp7.below hb; have hq8 := hq7.below hb; clear hp7 hq7 hb
    rw [AL.out.t]
    have hca := check_at m s hs n 8
    have hcb := check_at m s' hs' nd 8
    rw [AL.out.c] at hcb
    unfold pol at hca hcb
    have HCA := Lib.hid hca; have HCB := Lib.hid hcb; clear hca hcb
    have q0 := after_cell (hp8.at_ (i := 0) rfl); have q1 := after_cell (hp8.at_ (i := 1) rfl); have q2 := after_cell (hp8.at_ (i := 2) rfl)
    have r0 := after_cell (hq8.at_ (i := 0) rfl); have r1 := after_cell (hq8.at_ (i := 1) rfl); have r2 := after_cell (hq8.at_ (i := 2) rfl)
    generalize startT m s n 8 5 2 = st at *
    generalize permT m s n 8 = pe at *
    generalize chk m s n 8 = ck at *
    clear hp8 hq8
    go_wp2_with fail
    refine wp_region_after (by kernel_rfl) (by kernel_rfl) ?_
    repeat (first | go_big_quiet_step (first | (go_at_call 12; exact after_call starts_any _) | (go_at_call 27; exact after_call (to_any _ _ _) _) | (go_at_call_of 28 (n); exact after_call HCA.out _) | (go_at_call 28; exact after_call HCB.out _)) | quiet_step (first | (go_at_call 12; exact after_call starts_any _) | (go_at_call 27; exact after_call (to_any _ _ _) _) | (go_at_call_of 28 (n); exact after_call HCA.out _) | (go_at_call 28; exact after_call HCB.out _)))
    refine wpQuiet_nil ?_; intro _ hw'; obtain ⟨xq, hw''⟩ := hw'; subst hw''
    have hB := bel_after hB xq
    go_wp2
    go_ret
    exact ⟨rfl, hB⟩
end Go.Proofs.Ytmheafagafdnlaa
