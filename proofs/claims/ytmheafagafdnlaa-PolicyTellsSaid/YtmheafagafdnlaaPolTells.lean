/- The law PolicyTells. -/
import Derived.Test.YtmheafagafdnlaaRefPol
namespace Go.Proofs.Ytmheafagafdnlaa
open Go.RowKit
set_option linter.unusedVariables false
set_option linter.unusedSimpArgs false
attribute [local go_sem] World.cell?_alloc_lt

section
variable {H : Type} {enc : TypeId × Value → H} {W : World} {base : Nat} {held : Bool}
theorem open_ask {r : Reach} {b0 : Nat} {v : Value} {d : DataW H} {p : List MemPlace} (hv : Value.okWide Try.prog W r b0 61 v) (h : DataW.Trod enc Try.prog W base (fun _ => true) held 61 v d p) :
    ∃ (k own cur : Int), v = .agg #[.int .i64 k, .int .i64 own, .int .i64 cur] := by
  obtain ⟨v0, v1, v2, y0, y1, y2, k, rfl, _, _, h0, h1, h2⟩ := Go.Joins.open_agg3 Try.underlying61 (by kernel_rfl) (by kernel_rfl) hv h
  obtain ⟨m, e0, _, _⟩ := DataW.trod_int Try.underlying3 h0
  obtain ⟨s, e1, _, _⟩ := DataW.trod_int Try.underlying3 h1
  obtain ⟨n, e2, _, _⟩ := DataW.trod_int Try.underlying3 h2
  simp only [List.cons.injEq, and_true] at e0 e1 e2
  subst e0 e1 e2
  exact ⟨m, s, n, rfl⟩
end
theorem permN_lt {m : Int} {s : Nat} {k : Int} (hs : s < 256) (h1 : 1 ≤ k) (h8 : k ≤ 8) : permN m s k < 256 := by
  unfold permN
  split
  · exact hs
  · obtain ⟨i, rfl⟩ := Int.eq_ofNat_of_zero_le (show 0 ≤ k by omega)
    exact allN_wf i (by omega)
set_option maxRecDepth 100000 in
set_option maxHeartbeats 4000000 in
theorem policyTells_walk (w0 : World) (m : Int) (s : Nat) (n : Int) (hs : s < 256) (k own cur : Int) :
    Calls Try.prog 9 #[.agg #[.int .i64 m, .int .u8 s, .int .i64 n], .agg #[.int .i64 k, .int .i64 own, .int .i64 cur]] w0 fun e w' => e = .returned (.bool true) ∧ Below w0.heap.size w0 w' := by
  have hrc := rcheck_at m s hs n k
  have hcc := check_at m s hs n k
  have hpp := perm_any m s hs n k
  have hss := start_any m s hs n k own cur
  unfold pol at hcc
  by_cases hc : chk m s n k = 0
  · obtain ⟨k1, k8, m0, m3⟩ := chk_zero hc
    have hset := chk_set hc
    have hrs := rstart_at m s hs n own cur (fun h => hset (Or.inr h))
    have hrp := rperm_at m s hs n k (by omega) (by omega)
    have hpl := permN_lt (m := m) hs k1 k8
    have hha := has_at (permN m s k) hpl (startN m s n own cur).1
    have hrh := rhas_at (permN m s k) hpl (startN m s n own cur).1
    rw [show permT m s n k = (permN m s k, 0) from by unfold permT; rw [if_pos hc]] at hpp
    have est : startT m s n k own cur = if 0 ≤ own ∧ own < k then ((startN m s n own cur).1, (startN m s n own cur).2, 0) else (0, 0, 10) := by unfold startT; rw [if_pos hc]
    rw [est] at hss
    rw [hc] at hrc hcc
    clear hset hc est hpl m0 m3 k1 k8
    generalize permN m s k = pn at *
    generalize hasN pn (startN m s n own cur).1 = hv at *
    generalize startN m s n own cur = st at *
    have HRC := Lib.hid hrc; have HCC := Lib.hid hcc; have HPP := Lib.hid hpp; have HRP := Lib.hid hrp; have HHA := Lib.hid hha; have HRH := Lib.hid hrh; have HRS := Lib.hid hrs
    clear hrc hcc hpp hrp hha hrh hrs
    rcases (by omega : own < 0 ∨ (0 ≤ own ∧ k ≤ own) ∨ (0 ≤ own ∧ own < k)) with ho | ⟨ho, ho2⟩ | ⟨ho, ho2⟩
    · rw [if_neg (by omega)] at hss
      have HSS := Lib.hid hss; clear hss
      go_enter Try.func9, Try.ntmps9
      go_wp2_with fail
      refine (HRC.out _).mono ?_; rintro e w1 ⟨rfl, hb⟩
      have hB := bel_trans ((by repeat (first | exact Below.refl _ _ | assumption | with_reducible refine bel_alloc ?_ _ | with_reducible refine bel_drewN ?_ _ | with_reducible refine bel_drew ?_)) : Below w0.heap.size w0 _) hb
      have hp1 := ((Blk.new w0 54 [.int .i64 m, .int .u8 s, .int .i64 n]).alloc (.cells #[.int .i64 k, .int .i64 own, .int .i64 cur] 61)).below hb
      have hq1 := (Blk.new (w0.alloc (.cells #[.int .i64 m, .int .u8 s, .int .i64 n] 54)) 61 [.int .i64 k, .int .i64 own, .int .i64 cur]).below hb
      rw [show (w0.alloc (.cells #[.int .i64 m, .int .u8 s, .int .i64 n] 54)).heap.size = w0.heap.size + 1 from by simp] at hq1
      clear hb
      have p0 := after_cell (hp1.at_ (i := 0) rfl); have p1 := after_cell (hp1.at_ (i := 1) rfl); have p2 := after_cell (hp1.at_ (i := 2) rfl)
      have a0 := after_cell (hq1.at_ (i := 0) rfl); have a1 := after_cell (hq1.at_ (i := 1) rfl); have a2 := after_cell (hq1.at_ (i := 2) rfl)
      go_wp2_with fail
      refine wp_region_after (by kernel_rfl) (by kernel_rfl) ?_
      repeat (first | go_big_quiet_step (first | (go_at_call 27; exact after_call (to_any _ _ _) _) | (go_at_call 26; exact after_call HPP.out _)) | quiet_step (first | (go_at_call 27; exact after_call (to_any _ _ _) _) | (go_at_call 26; exact after_call HPP.out _)))
      refine wpQuiet_nil ?_; intro _ hw'; obtain ⟨xq, hw''⟩ := hw'; subst hw''
      have hB := bel_after hB xq
      have hp2 := hp1.below xq.2
      have hq2 := hq1.below xq.2
      generalize xq.1 = w2 at *
      clear xq hp1 hq1 p0 p1 p2 a0 a1 a2
      have p0 := after_cell (hp2.at_ (i := 0) rfl); have p1 := after_cell (hp2.at_ (i := 1) rfl); have p2 := after_cell (hp2.at_ (i := 2) rfl)
      have a0 := after_cell (hq2.at_ (i := 0) rfl); have a1 := after_cell (hq2.at_ (i := 1) rfl); have a2 := after_cell (hq2.at_ (i := 2) rfl)
      go_wp2_with fail
      refine wp_region_after (by kernel_rfl) (by kernel_rfl) ?_
      repeat (first | go_big_quiet_step (first | (go_at_call 27; exact after_call (to_any _ _ _) _) | (go_at_call 14; exact after_call HSS.out _)) | quiet_step (first | (go_at_call 27; exact after_call (to_any _ _ _) _) | (go_at_call 14; exact after_call HSS.out _)))
      refine wpQuiet_nil ?_; intro _ hw'; obtain ⟨xq, hw''⟩ := hw'; subst hw''
      have hB := bel_after hB xq
      have hp3 := hp2.below xq.2
      have hq3 := hq2.below xq.2
      generalize xq.1 = w3 at *
      clear xq hp2 hq2 p0 p1 p2 a0 a1 a2
      have p0 := after_cell (hp3.at_ (i := 0) rfl); have p1 := after_cell (hp3.at_ (i := 1) rfl); have p2 := after_cell (hp3.at_ (i := 2) rfl)
      have a0 := after_cell (hq3.at_ (i := 0) rfl); have a1 := after_cell (hq3.at_ (i := 1) rfl); have a2 := after_cell (hq3.at_ (i := 2) rfl)
      go_wp2_with fail
      refine wp_region_after (by kernel_rfl) (by kernel_rfl) ?_
      repeat (first | go_big_quiet_step (first | (go_at_call 12; exact after_call starts_any _) | (go_at_call 27; exact after_call (to_any _ _ _) _) | (go_at_call 28; exact after_call HCC.out _)) | quiet_step (first | (go_at_call 12; exact after_call starts_any _) | (go_at_call 27; exact after_call (to_any _ _ _) _) | (go_at_call 28; exact after_call HCC.out _)))
      refine wpQuiet_nil ?_; intro _ hw'; obtain ⟨xq, hw''⟩ := hw'; subst hw''
      have hB := bel_after hB xq
      have hp4 := hp3.below xq.2
      have hq4 := hq3.below xq.2
      generalize xq.1 = w4 at *
      clear xq hp3 hq3 p0 p1 p2 a0 a1 a2
      have p0 := hp4.at_ (i := 0) rfl; have p1 := hp4.at_ (i := 1) rfl; have p2 := hp4.at_ (i := 2) rfl
      have a0 := hq4.at_ (i := 0) rfl; have a1 := hq4.at_ (i := 1) rfl; have a2 := hq4.at_ (i := 2) rfl
      go_wp2_with fail
      refine (HRP.out _).mono ?_; rintro e w5 ⟨rfl, hb⟩
      have hB := bel_trans hB hb
      have hp5 := hp4.below hb
      have hq5 := hq4.below hb
      clear hb hp4 hq4 p0 p1 p2 a0 a1 a2
      have p0 := hp5.at_ (i := 0) rfl; have p1 := hp5.at_ (i := 1) rfl; have p2 := hp5.at_ (i := 2) rfl
      have a0 := hq5.at_ (i := 0) rfl; have a1 := hq5.at_ (i := 1) rfl; have a2 := hq5.at_ (i := 2) rfl
      go_wp2_with fail
      go_ret
      exact ⟨rfl, hB⟩
    · rw [if_neg (by omega)] at hss
      have HSS := Lib.hid hss; clear hss
      go_enter Try.func9, Try.ntmps9
      go_wp2_with fail
      refine (HRC.out _).mono ?_; rintro e w1 ⟨rfl, hb⟩
      have hB := bel_trans ((by repeat (first | exact Below.refl _ _ | assumption | with_reducible refine bel_alloc ?_ _ | with_reducible refine bel_drewN ?_ _ | with_reducible refine bel_drew ?_)) : Below w0.heap.size w0 _) hb
      have hp1 := ((Blk.new w0 54 [.int .i64 m, .int .u8 s, .int .i64 n]).alloc (.cells #[.int .i64 k, .int .i64 own, .int .i64 cur] 61)).below hb
      have hq1 := (Blk.new (w0.alloc (.cells #[.int .i64 m, .int .u8 s, .int .i64 n] 54)) 61 [.int .i64 k, .int .i64 own, .int .i64 cur]).below hb
      rw [show (w0.alloc (.cells #[.int .i64 m, .int .u8 s, .int .i64 n] 54)).heap.size = w0.heap.size + 1 from by simp] at hq1
      clear hb
      have p0 := after_cell (hp1.at_ (i := 0) rfl); have p1 := after_cell (hp1.at_ (i := 1) rfl); have p2 := after_cell (hp1.at_ (i := 2) rfl)
      have a0 := after_cell (hq1.at_ (i := 0) rfl); have a1 := after_cell (hq1.at_ (i := 1) rfl); have a2 := after_cell (hq1.at_ (i := 2) rfl)
      go_wp2_with fail
      refine wp_region_after (by kernel_rfl) (by kernel_rfl) ?_
      repeat (first | go_big_quiet_step (first | (go_at_call 27; exact after_call (to_any _ _ _) _) | (go_at_call 26; exact after_call HPP.out _)) | quiet_step (first | (go_at_call 27; exact after_call (to_any _ _ _) _) | (go_at_call 26; exact after_call HPP.out _)))
      refine wpQuiet_nil ?_; intro _ hw'; obtain ⟨xq, hw''⟩ := hw'; subst hw''
      have hB := bel_after hB xq
      have hp2 := hp1.below xq.2
      have hq2 := hq1.below xq.2
      generalize xq.1 = w2 at *
      clear xq hp1 hq1 p0 p1 p2 a0 a1 a2
      have p0 := after_cell (hp2.at_ (i := 0) rfl); have p1 := after_cell (hp2.at_ (i := 1) rfl); have p2 := after_cell (hp2.at_ (i := 2) rfl)
      have a0 := after_cell (hq2.at_ (i := 0) rfl); have a1 := after_cell (hq2.at_ (i := 1) rfl); have a2 := after_cell (hq2.at_ (i := 2) rfl)
      go_wp2_with fail
      refine wp_region_after (by kernel_rfl) (by kernel_rfl) ?_
      repeat (first | go_big_quiet_step (first | (go_at_call 27; exact after_call (to_any _ _ _) _) | (go_at_call 14; exact after_call HSS.out _)) | quiet_step (first | (go_at_call 27; exact after_call (to_any _ _ _) _) | (go_at_call 14; exact after_call HSS.out _)))
      refine wpQuiet_nil ?_; intro _ hw'; obtain ⟨xq, hw''⟩ := hw'; subst hw''
      have hB := bel_after hB xq
      have hp3 := hp2.below xq.2
      have hq3 := hq2.below xq.2
      generalize xq.1 = w3 at *
      clear xq hp2 hq2 p0 p1 p2 a0 a1 a2
      have p0 := after_cell (hp3.at_ (i := 0) rfl); have p1 := after_cell (hp3.at_ (i := 1) rfl); have p2 := after_cell (hp3.at_ (i := 2) rfl)
      have a0 := after_cell (hq3.at_ (i := 0) rfl); have a1 := after_cell (hq3.at_ (i := 1) rfl); have a2 := after_cell (hq3.at_ (i := 2) rfl)
      go_wp2_with fail
      refine wp_region_after (by kernel_rfl) (by kernel_rfl) ?_
      repeat (first | go_big_quiet_step (first | (go_at_call 12; exact after_call starts_any _) | (go_at_call 27; exact after_call (to_any _ _ _) _) | (go_at_call 28; exact after_call HCC.out _)) | quiet_step (first | (go_at_call 12; exact after_call starts_any _) | (go_at_call 27; exact after_call (to_any _ _ _) _) | (go_at_call 28; exact after_call HCC.out _)))
      refine wpQuiet_nil ?_; intro _ hw'; obtain ⟨xq, hw''⟩ := hw'; subst hw''
      have hB := bel_after hB xq
      have hp4 := hp3.below xq.2
      have hq4 := hq3.below xq.2
      generalize xq.1 = w4 at *
      clear xq hp3 hq3 p0 p1 p2 a0 a1 a2
      have p0 := hp4.at_ (i := 0) rfl; have p1 := hp4.at_ (i := 1) rfl; have p2 := hp4.at_ (i := 2) rfl
      have a0 := hq4.at_ (i := 0) rfl; have a1 := hq4.at_ (i := 1) rfl; have a2 := hq4.at_ (i := 2) rfl
      go_wp2_with fail
      refine (HRP.out _).mono ?_; rintro e w5 ⟨rfl, hb⟩
      have hB := bel_trans hB hb
      have hp5 := hp4.below hb
      have hq5 := hq4.below hb
      clear hb hp4 hq4 p0 p1 p2 a0 a1 a2
      have p0 := hp5.at_ (i := 0) rfl; have p1 := hp5.at_ (i := 1) rfl; have p2 := hp5.at_ (i := 2) rfl
      have a0 := hq5.at_ (i := 0) rfl; have a1 := hq5.at_ (i := 1) rfl; have a2 := hq5.at_ (i := 2) rfl
      go_wp2_with fail
      go_ret
      exact ⟨rfl, hB⟩
    · rw [if_pos ⟨ho, ho2⟩] at hss
      have HSS := Lib.hid hss; clear hss
      go_enter Try.func9, Try.ntmps9
      go_wp2_with fail
      refine (HRC.out _).mono ?_; rintro e w1 ⟨rfl, hb⟩
      have hB := bel_trans ((by repeat (first | exact Below.refl _ _ | assumption | with_reducible refine bel_alloc ?_ _ | with_reducible refine bel_drewN ?_ _ | with_reducible refine bel_drew ?_)) : Below w0.heap.size w0 _) hb
      have hp1 := ((Blk.new w0 54 [.int .i64 m, .int .u8 s, .int .i64 n]).alloc (.cells #[.int .i64 k, .int .i64 own, .int .i64 cur] 61)).below hb
      have hq1 := (Blk.new (w0.alloc (.cells #[.int .i64 m, .int .u8 s, .int .i64 n] 54)) 61 [.int .i64 k, .int .i64 own, .int .i64 cur]).below hb
      rw [show (w0.alloc (.cells #[.int .i64 m, .int .u8 s, .int .i64 n] 54)).heap.size = w0.heap.size + 1 from by simp] at hq1
      clear hb
      have p0 := after_cell (hp1.at_ (i := 0) rfl); have p1 := after_cell (hp1.at_ (i := 1) rfl); have p2 := after_cell (hp1.at_ (i := 2) rfl)
      have a0 := after_cell (hq1.at_ (i := 0) rfl); have a1 := after_cell (hq1.at_ (i := 1) rfl); have a2 := after_cell (hq1.at_ (i := 2) rfl)
      go_wp2_with fail
      refine wp_region_after (by kernel_rfl) (by kernel_rfl) ?_
      repeat (first | go_big_quiet_step (first | (go_at_call 27; exact after_call (to_any _ _ _) _) | (go_at_call 26; exact after_call HPP.out _)) | quiet_step (first | (go_at_call 27; exact after_call (to_any _ _ _) _) | (go_at_call 26; exact after_call HPP.out _)))
      refine wpQuiet_nil ?_; intro _ hw'; obtain ⟨xq, hw''⟩ := hw'; subst hw''
      have hB := bel_after hB xq
      have hp2 := hp1.below xq.2
      have hq2 := hq1.below xq.2
      generalize xq.1 = w2 at *
      clear xq hp1 hq1 p0 p1 p2 a0 a1 a2
      have p0 := after_cell (hp2.at_ (i := 0) rfl); have p1 := after_cell (hp2.at_ (i := 1) rfl); have p2 := after_cell (hp2.at_ (i := 2) rfl)
      have a0 := after_cell (hq2.at_ (i := 0) rfl); have a1 := after_cell (hq2.at_ (i := 1) rfl); have a2 := after_cell (hq2.at_ (i := 2) rfl)
      go_wp2_with fail
      refine wp_region_after (by kernel_rfl) (by kernel_rfl) ?_
      repeat (first | go_big_quiet_step (first | (go_at_call 27; exact after_call (to_any _ _ _) _) | (go_at_call 14; exact after_call HSS.out _)) | quiet_step (first | (go_at_call 27; exact after_call (to_any _ _ _) _) | (go_at_call 14; exact after_call HSS.out _)))
      refine wpQuiet_nil ?_; intro _ hw'; obtain ⟨xq, hw''⟩ := hw'; subst hw''
      have hB := bel_after hB xq
      have hp3 := hp2.below xq.2
      have hq3 := hq2.below xq.2
      generalize xq.1 = w3 at *
      clear xq hp2 hq2 p0 p1 p2 a0 a1 a2
      have p0 := after_cell (hp3.at_ (i := 0) rfl); have p1 := after_cell (hp3.at_ (i := 1) rfl); have p2 := after_cell (hp3.at_ (i := 2) rfl)
      have a0 := after_cell (hq3.at_ (i := 0) rfl); have a1 := after_cell (hq3.at_ (i := 1) rfl); have a2 := after_cell (hq3.at_ (i := 2) rfl)
      go_wp2_with fail
      refine wp_region_after (by kernel_rfl) (by kernel_rfl) ?_
      repeat (first | go_big_quiet_step (first | (go_at_call 12; exact after_call starts_any _) | (go_at_call 27; exact after_call (to_any _ _ _) _) | (go_at_call 28; exact after_call HCC.out _)) | quiet_step (first | (go_at_call 12; exact after_call starts_any _) | (go_at_call 27; exact after_call (to_any _ _ _) _) | (go_at_call 28; exact after_call HCC.out _)))
      refine wpQuiet_nil ?_; intro _ hw'; obtain ⟨xq, hw''⟩ := hw'; subst hw''
      have hB := bel_after hB xq
      have hp4 := hp3.below xq.2
      have hq4 := hq3.below xq.2
      generalize xq.1 = w4 at *
      clear xq hp3 hq3 p0 p1 p2 a0 a1 a2
      have p0 := hp4.at_ (i := 0) rfl; have p1 := hp4.at_ (i := 1) rfl; have p2 := hp4.at_ (i := 2) rfl
      have a0 := hq4.at_ (i := 0) rfl; have a1 := hq4.at_ (i := 1) rfl; have a2 := hq4.at_ (i := 2) rfl
      go_wp2_with fail
      refine (HRP.out _).mono ?_; rintro e w5 ⟨rfl, hb⟩
      have hB := bel_trans hB hb
      have hp5 := hp4.below hb
      have hq5 := hq4.below hb
      clear hb hp4 hq4 p0 p1 p2 a0 a1 a2
      have p0 := hp5.at_ (i := 0) rfl; have p1 := hp5.at_ (i := 1) rfl; have p2 := hp5.at_ (i := 2) rfl
      have a0 := hq5.at_ (i := 0) rfl; have a1 := hq5.at_ (i := 1) rfl; have a2 := hq5.at_ (i := 2) rfl
      go_wp2_with fail
      refine (HRS.out _).mono ?_; rintro e w6 ⟨rfl, hb⟩
      have hB := bel_trans hB hb
      go_wp2_with fail
      refine (HHA.out _).mono ?_; rintro e w7 ⟨rfl, rfl⟩
      go_wp2_with fail
      refine (HRH.out _).mono ?_; rintro e w8 ⟨rfl, rfl⟩
      go_wp2_with fail
      go_ret
      exact ⟨rfl, hB⟩
  · rw [show permT m s n k = (0, chk m s n k) from by unfold permT; rw [if_neg hc]] at hpp
    rw [show startT m s n k own cur = (0, 0, chk m s n k) from by unfold startT; rw [if_neg hc]] at hss
    have hcn : (chk m s n k != 0) = true := by simp [hc]
    clear hc
    generalize chk m s n k = c at *
    have HRC := Lib.hid hrc; have HCC := Lib.hid hcc; have HPP := Lib.hid hpp; have HSS := Lib.hid hss
    clear hrc hcc hpp hss
    go_enter Try.func9, Try.ntmps9
    go_wp2_with fail
    refine (HRC.out _).mono ?_; rintro e w1 ⟨rfl, hb⟩
    have hB := bel_trans ((by repeat (first | exact Below.refl _ _ | assumption | with_reducible refine bel_alloc ?_ _ | with_reducible refine bel_drewN ?_ _ | with_reducible refine bel_drew ?_)) : Below w0.heap.size w0 _) hb
    have hp1 := ((Blk.new w0 54 [.int .i64 m, .int .u8 s, .int .i64 n]).alloc (.cells #[.int .i64 k, .int .i64 own, .int .i64 cur] 61)).below hb
    have hq1 := (Blk.new (w0.alloc (.cells #[.int .i64 m, .int .u8 s, .int .i64 n] 54)) 61 [.int .i64 k, .int .i64 own, .int .i64 cur]).below hb
    rw [show (w0.alloc (.cells #[.int .i64 m, .int .u8 s, .int .i64 n] 54)).heap.size = w0.heap.size + 1 from by simp] at hq1
    clear hb
    have p0 := after_cell (hp1.at_ (i := 0) rfl); have p1 := after_cell (hp1.at_ (i := 1) rfl); have p2 := after_cell (hp1.at_ (i := 2) rfl)
    have a0 := after_cell (hq1.at_ (i := 0) rfl); have a1 := after_cell (hq1.at_ (i := 1) rfl); have a2 := after_cell (hq1.at_ (i := 2) rfl)
    go_wp2_with fail
    refine wp_region_after (by kernel_rfl) (by kernel_rfl) ?_
    repeat (first | go_big_quiet_step (first | (go_at_call 27; exact after_call (to_any _ _ _) _) | (go_at_call 26; exact after_call HPP.out _)) | quiet_step (first | (go_at_call 27; exact after_call (to_any _ _ _) _) | (go_at_call 26; exact after_call HPP.out _)))
    refine wpQuiet_nil ?_; intro _ hw'; obtain ⟨xq, hw''⟩ := hw'; subst hw''
    have hB := bel_after hB xq
    have hp2 := hp1.below xq.2
    have hq2 := hq1.below xq.2
    generalize xq.1 = w2 at *
    clear xq hp1 hq1 p0 p1 p2 a0 a1 a2
    have p0 := after_cell (hp2.at_ (i := 0) rfl); have p1 := after_cell (hp2.at_ (i := 1) rfl); have p2 := after_cell (hp2.at_ (i := 2) rfl)
    have a0 := after_cell (hq2.at_ (i := 0) rfl); have a1 := after_cell (hq2.at_ (i := 1) rfl); have a2 := after_cell (hq2.at_ (i := 2) rfl)
    go_wp2_with fail
    refine wp_region_after (by kernel_rfl) (by kernel_rfl) ?_
    repeat (first | go_big_quiet_step (first | (go_at_call 27; exact after_call (to_any _ _ _) _) | (go_at_call 14; exact after_call HSS.out _)) | quiet_step (first | (go_at_call 27; exact after_call (to_any _ _ _) _) | (go_at_call 14; exact after_call HSS.out _)))
    refine wpQuiet_nil ?_; intro _ hw'; obtain ⟨xq, hw''⟩ := hw'; subst hw''
    have hB := bel_after hB xq
    have hp3 := hp2.below xq.2
    have hq3 := hq2.below xq.2
    generalize xq.1 = w3 at *
    clear xq hp2 hq2 p0 p1 p2 a0 a1 a2
    have p0 := after_cell (hp3.at_ (i := 0) rfl); have p1 := after_cell (hp3.at_ (i := 1) rfl); have p2 := after_cell (hp3.at_ (i := 2) rfl)
    have a0 := after_cell (hq3.at_ (i := 0) rfl); have a1 := after_cell (hq3.at_ (i := 1) rfl); have a2 := after_cell (hq3.at_ (i := 2) rfl)
    go_wp2_with fail
    refine wp_region_after (by kernel_rfl) (by kernel_rfl) ?_
    repeat (first | go_big_quiet_step (first | (go_at_call 12; exact after_call starts_any _) | (go_at_call 27; exact after_call (to_any _ _ _) _) | (go_at_call 28; exact after_call HCC.out _)) | quiet_step (first | (go_at_call 12; exact after_call starts_any _) | (go_at_call 27; exact after_call (to_any _ _ _) _) | (go_at_call 28; exact after_call HCC.out _)))
    refine wpQuiet_nil ?_; intro _ hw'; obtain ⟨xq, hw''⟩ := hw'; subst hw''
    have hB := bel_after hB xq
    have hp4 := hp3.below xq.2
    have hq4 := hq3.below xq.2
    generalize xq.1 = w4 at *
    clear xq hp3 hq3 p0 p1 p2 a0 a1 a2
    go_wp2_with fail
    go_ret
    exact ⟨rfl, hB⟩
end Go.Proofs.Ytmheafagafdnlaa
