/- Contracts of slices.Equal and of grid's Same (layer 2), elements of the kind int. -/
import Derived.Test.YtbgnaohjcfbaaaaDoorGridI2
namespace Go.Proofs.YtbgnaohjcfbaaaaDoor
open Go.RowKit
set_option linter.unusedVariables false
set_option linter.unusedSimpArgs false

/-- Two rows that are read. -/
theorem eqi_len (b1 b2 c1 c2 : Nat) (xs ys : List Int) (w : World) (hl : xs.length ≤ 4096) (hl2 : ys.length ≤ 4096) (hne : xs.length ≠ ys.length) :
    Calls Tryd.prog 88 #[.slice (some ⟨b1, 0, none⟩) xs.length c1, .slice (some ⟨b2, 0, none⟩) ys.length c2] w fun e w' => e = .returned (.bool false) ∧ ∃ n, w' = w.drewN n := by
  have hn : ((xs.length : Int) != (ys.length : Int)) = true := by rw [bne_iff_ne]; omega
  go_enter Tryd.func88, Tryd.ntmps88
  go_wp2
  go_ret
  exact ⟨rfl, 0, rfl⟩

set_option maxHeartbeats 1000000 in
theorem eqi_any (b1 b2 c1 c2 : Nat) (xs ys : List Int) (w : World) (h1 : Blk w b1 3 (xs.map (Value.int .i64))) (h2 : Blk w b2 3 (ys.map (Value.int .i64))) (hl : xs.length ≤ 4096) (hl2 : xs.length = ys.length) :
    Calls Tryd.prog 88 #[.slice (some ⟨b1, 0, none⟩) xs.length c1, .slice (some ⟨b2, 0, none⟩) xs.length c2] w fun e w' => e = .returned (.bool (decide (xs = ys))) ∧ ∃ n, w' = w.drewN n := by
  have HL := Lib.hid hl2; clear hl2
  go_enter Tryd.func88, Tryd.ntmps88
  go_wp2_with fail
  go_loopw [13] (fun i wr => ∃ k : Nat, k ≤ xs.length ∧ i = .int .i64 k ∧ (∀ j, j < k → xs.getD j 0 = ys.getD j 0) ∧ ∃ n, wr = w.drewN n) (fun i _ => xs.length - (intOf i).toNat)
  case atStart => exact ⟨0, Nat.zero_le _, rfl, fun j hj => absurd hj (by omega), 0, rfl⟩
  case round =>
    obtain ⟨k, hk, rfl, hal, n0, rfl⟩ := hrel
    have HA := Lib.hid hal; clear hal
    by_cases hlt : k < xs.length
    · have x1 := h1.at_ (map_at hlt 0)
      have x2 := h2.at_ (map_at (HL.out ▸ hlt) 0)
      by_cases he : xs.getD k 0 = ys.getD k 0
      · have HE := Lib.hid he
        have hb : (xs.getD k 0 != ys.getD k 0) = false := by rw [he]; simp
        clear he
        generalize hx : xs.getD k 0 = x at *
        generalize hy : ys.getD k 0 = y at *
        have HX := Lib.hid hx; have HY := Lib.hid hy; clear hx hy
        go_wp2_with fail
        go_quiet (fail)
        go_wp2
        go_roundw
        case rel =>
          refine ⟨k + 1, by omega, by go_num, fun j hj => ?_, _, by first | exact World.drewN_drewN .. | rfl⟩
          rcases (by omega : j < k ∨ j = k) with h | h
          · exact HA.out j h
          · rw [h, HX.out, HY.out]; exact HE.out
        case measure => simp [intOf]; omega
      · have HE := Lib.hid he
        have hb : (xs.getD k 0 != ys.getD k 0) = true := by rw [bne_iff_ne]; exact he
        clear he
        generalize hx : xs.getD k 0 = x at *
        generalize hy : ys.getD k 0 = y at *
        have HX := Lib.hid hx; have HY := Lib.hid hy; clear hx hy
        go_wp2_with fail
        go_quiet (fail)
        go_wp2
        go_ret
        refine ⟨?_, _, by first | exact World.drewN_drewN .. | rfl⟩
        have e : decide (xs = ys) = false := by
          refine decide_eq_false fun e => HE.out ?_
          rw [← HX.out, ← HY.out, e]
        rw [e]; rfl
    · have e : k = xs.length := by omega
      have hfin : decide (xs = ys) = true := by
        refine decide_eq_true (List.ext_getElem HL.out fun j h3 h4 => ?_)
        have := HA.out j (by omega)
        simpa [List.getD_eq_getElem?_getD, h3, h4] using this
      have HF := Lib.hid hfin; clear hfin
      go_wp2
      go_ret
      rw [HF.out]
      exact ⟨rfl, _, rfl⟩

theorem gi_Same_shape (g b g2 b2 rows cols rows2 cols2 : Nat) (xs ys : List Int) (w : World) (hG : GridI w g b rows cols xs) (hG2 : GridI w g2 b2 rows2 cols2 ys) (h : rows ≠ rows2 ∨ cols ≠ cols2) :
    Calls Tryd.prog 68 #[.pointer (some ⟨g, 0, none⟩), .pointer (some ⟨g2, 0, none⟩)] w fun e w' => e = .returned (.bool false) ∧ Below w.heap.size w w' := by
  have k0 := hG.st.at_ (i := 0) rfl
  have k1 := hG.st.at_ (i := 1) rfl
  have q0 := hG2.st.at_ (i := 0) rfl
  have q1 := hG2.st.at_ (i := 1) rfl
  by_cases h1 : rows = rows2
  · have hc : ((cols : Int) == (cols2 : Int)) = false := by rw [beq_eq_false_iff_ne]; omega
    subst h1
    clear h
    go_enter Tryd.func68, Tryd.ntmps68
    go_wp2_with fail
    refine wp_region_quiet_lit (by kernel_rfl) (by kernel_rfl) ?_
    repeat (first | go_big_quiet_step (fail) | quiet_step (fail))
    refine wpQuiet_nil ?_; intro _ hw'; obtain ⟨nq, hw''⟩ := hw'; subst hw''
    go_wp2
    go_ret
    exact ⟨rfl, bel_drewN (Below.refl _ _) _⟩
  · have hc : ((rows : Int) == (rows2 : Int)) = false := by rw [beq_eq_false_iff_ne]; omega
    clear h
    go_enter Tryd.func68, Tryd.ntmps68
    go_wp2_with fail
    refine wp_region_quiet_lit (by kernel_rfl) (by kernel_rfl) ?_
    repeat (first | go_big_quiet_step (fail) | quiet_step (fail))
    refine wpQuiet_nil ?_; intro _ hw'; obtain ⟨nq, hw''⟩ := hw'; subst hw''
    go_wp2
    go_ret
    exact ⟨rfl, bel_drewN (Below.refl _ _) _⟩
theorem gi_Same (g b g2 b2 rows cols : Nat) (xs ys : List Int) (w : World) (hG : GridI w g b rows cols xs) (hG2 : GridI w g2 b2 rows cols ys) :
    Calls Tryd.prog 68 #[.pointer (some ⟨g, 0, none⟩), .pointer (some ⟨g2, 0, none⟩)] w fun e w' => e = .returned (.bool (decide (xs = ys))) ∧ Below w.heap.size w w' := by
  have k0 := hG.st.at_ (i := 0) rfl
  have k1 := hG.st.at_ (i := 1) rfl
  have k2 := hG.st.at_ (i := 2) rfl
  have q0 := hG2.st.at_ (i := 0) rfl
  have q1 := hG2.st.at_ (i := 1) rfl
  have q2 := hG2.st.at_ (i := 2) rfl
  have hl : xs.length = ys.length := hG.ln.trans hG2.ln.symm
  rw [← hl] at q2
  have HL := Lib.hid hl; clear hl
  have hle := hG.le
  go_enter Tryd.func68, Tryd.ntmps68
  go_wp2_with fail
  refine wp_region_quiet_lit (by kernel_rfl) (by kernel_rfl) ?_
  repeat (first | go_big_quiet_step (((go_at_call 88; exact Calls.quiet_of (eqi_any b b2 _ _ xs ys _ (hG.dt.drewN _) (hG2.dt.drewN _) hle HL.out)))) | quiet_step (((go_at_call 88; exact Calls.quiet_of (eqi_any b b2 _ _ xs ys _ (hG.dt.drewN _) (hG2.dt.drewN _) hle HL.out)))))
  refine wpQuiet_nil ?_; intro _ hw'; obtain ⟨nq, hw''⟩ := hw'; subst hw''
  go_wp2
  go_ret
  exact ⟨rfl, bel_drewN (Below.refl _ _) _⟩
theorem gi_Same_nil (w : World) : Calls Tryd.prog 68 #[.pointer none, .pointer none] w fun e w' => e = .returned (.bool true) ∧ w = w' := by
  go_enter Tryd.func68, Tryd.ntmps68
  go_wp2
  go_ret
  exact ⟨rfl, rfl⟩
theorem gi_Same_lone (a : Addr) (w : World) : Calls Tryd.prog 68 #[.pointer (some a), .pointer none] w fun e w' => e = .returned (.bool false) ∧ w = w' := by
  go_enter Tryd.func68, Tryd.ntmps68
  go_wp2
  go_ret
  exact ⟨rfl, rfl⟩
end Go.Proofs.YtbgnaohjcfbaaaaDoor
