/- The law RuleTexts. -/
import Derived.Test.YtdpcnbbaipdmjaaDoorRuleTexts
namespace Go.Proofs.YtdpcnbbaipdmjaaDoor
open Go.RowKit Go.Shelf
set_option linter.unusedVariables false
set_option linter.unusedSimpArgs false
attribute [local go_sem] World.cell?_alloc_lt

section
variable {H : Type} {enc : TypeId × Value → H} {W : World} {base : Nat} {held : Bool}
set_option maxRecDepth 100000 in
theorem open_pol {r : Reach} {b0 : Nat} {v : Value} {d : DataW H} {p : List MemPlace} (hv : Value.okWide Tryd.prog W r b0 29 v) (h : DataW.Trod enc Tryd.prog W base (fun _ => true) held 29 v d p) :
    ∃ (m : Int) (s : Nat) (n : Int), v = .agg #[.int .i64 m, .int .u8 s, .int .i64 n] ∧ s < 256 := by
  obtain ⟨v0, v1, v2, y0, y1, y2, k, rfl, _, _, h0, h1, h2⟩ := Go.Joins.open_agg3 Tryd.underlying29 (by kernel_rfl) (by kernel_rfl) hv h
  obtain ⟨m, e0, _, _⟩ := DataW.trod_int Tryd.underlying3 h0
  obtain ⟨s, e1, _, ws⟩ := DataW.trod_int Tryd.underlying5 h1
  obtain ⟨n, e2, _, _⟩ := DataW.trod_int Tryd.underlying3 h2
  simp only [List.cons.injEq, and_true] at e0 e1 e2
  subst e0 e1 e2
  have hb := bounds_u8 ws
  obtain ⟨s, rfl⟩ := Int.eq_ofNat_of_zero_le hb.1
  exact ⟨m, s, n, rfl, by omega⟩
end
/-- A rule's text comes back as what of it counts. -/
theorem txt_back {m : Int} {s : Nat} {n : Int} (hs : s < 256) (h : chk m s n 8 = 0) :
    (txtR m s n).size ≤ 80 ∧ ruleO (txtR m s n) = some ⟨m, if m = 1 ∨ m = 2 then s else 0, if m = 3 then n else 0⟩ := by
  have hz := text_sizeR s hs
  rcases chk_zero h with rfl | ⟨rfl, h0⟩ | ⟨rfl, h0⟩ | ⟨rfl, k, rfl, hk⟩
  · refine ⟨?_, rule_loc⟩
    show (ByteArray.size ⟨#[108, 111, 99, 97, 108]⟩) ≤ 80
    decide
  · refine ⟨?_, rule_mem s hs h0⟩
    show (ByteArray.size (_ ++ _)) ≤ 80
    rw [ByteArray.size_append, show (⟨#[109, 101, 109, 98, 105, 110, 100, 61]⟩ : ByteArray).size = 8 from rfl]; omega
  · refine ⟨?_, rule_int s hs h0⟩
    show (ByteArray.size (_ ++ _)) ≤ 80
    rw [ByteArray.size_append, show (⟨#[105, 110, 116, 101, 114, 108, 101, 97, 118, 101, 61]⟩ : ByteArray).size = 11 from rfl]; omega
  · refine ⟨?_, rule_pre k hk⟩
    show (ByteArray.size (_ ++ _)) ≤ 80
    rw [ByteArray.size_append, show (⟨#[112, 114, 101, 102, 101, 114, 114, 101, 100, 61]⟩ : ByteArray).size = 10 from rfl, digB_size]; omega
set_option maxRecDepth 100000 in
set_option maxHeartbeats 4000000 in
theorem ruleTexts_walk (w0 : World) (m : Int) (s : Nat) (n : Int) (hs : s < 256) (_h : True) : Calls Tryd.prog 4 #[.agg #[.int .i64 m, .int .u8 (s : Int), .int .i64 n]] w0 fun e w' => e = .returned (.bool true) ∧ Below w0.heap.size w0 w' := by
  have hch := fun w => rcheck_at m s hs n 8 w
  have hto := fun w => to_any m s n w
  have hb0 := Blk.new w0 29 [.int .i64 m, .int .u8 (s : Int), .int .i64 n]
  have hB0 := bel_alloc (Below.refl w0.heap.size w0) (.cells #[.int .i64 m, .int .u8 (s : Int), .int .i64 n] 29)
  by_cases hc : chk m s n 8 = 0
  · have htx := fun w => ruleText_yes m s hs n hc w
    have hrx := fun w => rruleText_yes m s hs n hc w
    obtain ⟨hz, hb⟩ := txt_back hs hc
    rw [hc] at hch
    have hor := chk_zero hc
    clear hc
    generalize txtR m s n = x at *
    have hpx := fun w => ruleParse_any x (by omega) w
    rw [hb] at hpx
    simp only [ruleV, Pol.v] at hpx
    rcases hor with rfl | ⟨rfl, _⟩ | ⟨rfl, _⟩ | ⟨rfl, k, rfl, hk⟩
    · simp only [reduceIte, or_true, true_or, or_self, show ¬ ((0 : Int) = 1) from by omega, show ¬ ((0 : Int) = 2) from by omega, show ¬ ((0 : Int) = 3) from by omega, show ¬ ((1 : Int) = 3) from by omega, show ¬ ((2 : Int) = 3) from by omega, show ¬ ((3 : Int) = 1) from by omega, show ¬ ((3 : Int) = 2) from by omega] at hpx
      have HCH := Lib.hid hch; have HTO := Lib.hid hto; have HB0 := Lib.hid hB0; have HK0 := Lib.hid hb0
      have HTX := Lib.hid htx; have HRX := Lib.hid hrx; have HPX := Lib.hid hpx
      clear hch hto hB0 hb0 htx hrx hpx hb
      go_enter Tryd.func4, Tryd.ntmps4
      go_wp2_with fail
      refine (HTO.out _).mono ?_; rintro e w1 ⟨rfl, hB1⟩
      have HB1 := Lib.hid (bel_trans HB0.out hB1)
      have HK1 := Lib.hid (HK0.out.below hB1)
      clear hB1 HK0 HB0
      go_wp2_with fail
      refine (HTX.out _).mono ?_; rintro e w2 ⟨rfl, hB1⟩
      have HB2 := Lib.hid (bel_trans HB1.out hB1)
      have HK2 := Lib.hid (HK1.out.below hB1)
      clear hB1 HK1 HB1
      go_wp2_with fail
      refine (rules_any _).mono ?_; rintro e w3 ⟨rfl, hB1⟩
      have HB3 := Lib.hid (bel_trans HB2.out hB1)
      have HK3 := Lib.hid (HK2.out.below hB1)
      clear hB1 HK2 HB2
      have q0 := HK3.out.at_ (i := 0) rfl
      have q1 := HK3.out.at_ (i := 1) rfl
      have q2 := HK3.out.at_ (i := 2) rfl
      go_wp2_with fail
      refine (HCH.out _).mono ?_; rintro e w4 ⟨rfl, hB1⟩
      have HB4 := Lib.hid (bel_trans HB3.out hB1)
      have HK4 := Lib.hid (HK3.out.below hB1)
      clear hB1 HK3 HB3 q0 q1 q2
      go_wp2_with fail
      refine (HPX.out _).mono ?_; rintro e w5 ⟨rfl, hB1⟩
      have HB5 := Lib.hid (bel_trans HB4.out hB1)
      have HK5 := Lib.hid (HK4.out.below hB1)
      clear hB1 HK4 HB4
      have q0 := HK5.out.at_ (i := 0) rfl
      have q1 := HK5.out.at_ (i := 1) rfl
      have q2 := HK5.out.at_ (i := 2) rfl
      have hl := HK5.out.lt
      go_upto_region 12 with fail
      clear q0 q1 q2 hl
      have hb6 := (Blk.new w5 24 [.int .i64 0, .int .u8 0, .int .i64 0]).alloc (.cells #[.int .i64 0, .int .u8 0, .int .i64 0] 29)
      have hb7 := Blk.new (w5.alloc (.cells #[.int .i64 0, .int .u8 0, .int .i64 0] 24)) 29 [.int .i64 0, .int .u8 0, .int .i64 0]
      have hb8 := (HK5.out.alloc (.cells #[.int .i64 0, .int .u8 0, .int .i64 0] 24)).alloc (.cells #[.int .i64 0, .int .u8 0, .int .i64 0] 29)
      have hsz : (w5.alloc (.cells #[.int .i64 0, .int .u8 0, .int .i64 0] 24)).heap.size = w5.heap.size + 1 := by simp
      rw [hsz] at hb7
      have HB6 := Lib.hid (bel_alloc (bel_alloc HB5.out (.cells #[.int .i64 0, .int .u8 0, .int .i64 0] 24)) (.cells #[.int .i64 0, .int .u8 0, .int .i64 0] 29))
      generalize (w5.alloc (.cells #[.int .i64 0, .int .u8 0, .int .i64 0] 24)).alloc (.cells #[.int .i64 0, .int .u8 0, .int .i64 0] 29) = w6 at *
      have p0 := after_cell (hb6.at_ (i := 0) rfl)
      have p1 := after_cell (hb6.at_ (i := 1) rfl)
      have p2 := after_cell (hb6.at_ (i := 2) rfl)
      have q0 := after_cell (hb7.at_ (i := 0) rfl)
      have q1 := after_cell (hb7.at_ (i := 1) rfl)
      have q2 := after_cell (hb7.at_ (i := 2) rfl)
      have r0 := after_cell (hb8.at_ (i := 0) rfl)
      have r1 := after_cell (hb8.at_ (i := 1) rfl)
      have r2 := after_cell (hb8.at_ (i := 2) rfl)
      clear hb6 hb7 hb8 hsz HK5 HB5
      refine wp_region_after (by kernel_rfl) (by kernel_rfl) ?_
      repeat (first | go_big_quiet_step (first | (go_at_call 13; exact after_call HRX.out _) | (go_at_call 10; exact after_call (to_any _ _ _) _)) | quiet_step (first | (go_at_call 13; exact after_call HRX.out _) | (go_at_call 10; exact after_call (to_any _ _ _) _)))
      refine wpQuiet_nil ?_; intro _ hw'; obtain ⟨xq, hw''⟩ := hw'; subst hw''
      go_wp2_with fail
      go_ret
      exact ⟨rfl, bel_after HB6.out _⟩
    · simp only [reduceIte, or_true, true_or, or_self, show ¬ ((0 : Int) = 1) from by omega, show ¬ ((0 : Int) = 2) from by omega, show ¬ ((0 : Int) = 3) from by omega, show ¬ ((1 : Int) = 3) from by omega, show ¬ ((2 : Int) = 3) from by omega, show ¬ ((3 : Int) = 1) from by omega, show ¬ ((3 : Int) = 2) from by omega] at hpx
      have HCH := Lib.hid hch; have HTO := Lib.hid hto; have HB0 := Lib.hid hB0; have HK0 := Lib.hid hb0
      have HTX := Lib.hid htx; have HRX := Lib.hid hrx; have HPX := Lib.hid hpx
      clear hch hto hB0 hb0 htx hrx hpx hb
      go_enter Tryd.func4, Tryd.ntmps4
      go_wp2_with fail
      refine (HTO.out _).mono ?_; rintro e w1 ⟨rfl, hB1⟩
      have HB1 := Lib.hid (bel_trans HB0.out hB1)
      have HK1 := Lib.hid (HK0.out.below hB1)
      clear hB1 HK0 HB0
      go_wp2_with fail
      refine (HTX.out _).mono ?_; rintro e w2 ⟨rfl, hB1⟩
      have HB2 := Lib.hid (bel_trans HB1.out hB1)
      have HK2 := Lib.hid (HK1.out.below hB1)
      clear hB1 HK1 HB1
      go_wp2_with fail
      refine (rules_any _).mono ?_; rintro e w3 ⟨rfl, hB1⟩
      have HB3 := Lib.hid (bel_trans HB2.out hB1)
      have HK3 := Lib.hid (HK2.out.below hB1)
      clear hB1 HK2 HB2
      have q0 := HK3.out.at_ (i := 0) rfl
      have q1 := HK3.out.at_ (i := 1) rfl
      have q2 := HK3.out.at_ (i := 2) rfl
      go_wp2_with fail
      refine (HCH.out _).mono ?_; rintro e w4 ⟨rfl, hB1⟩
      have HB4 := Lib.hid (bel_trans HB3.out hB1)
      have HK4 := Lib.hid (HK3.out.below hB1)
      clear hB1 HK3 HB3 q0 q1 q2
      go_wp2_with fail
      refine (HPX.out _).mono ?_; rintro e w5 ⟨rfl, hB1⟩
      have HB5 := Lib.hid (bel_trans HB4.out hB1)
      have HK5 := Lib.hid (HK4.out.below hB1)
      clear hB1 HK4 HB4
      have q0 := HK5.out.at_ (i := 0) rfl
      have q1 := HK5.out.at_ (i := 1) rfl
      have q2 := HK5.out.at_ (i := 2) rfl
      have hl := HK5.out.lt
      go_upto_region 12 with fail
      clear q0 q1 q2 hl
      have hb6 := (Blk.new w5 24 [.int .i64 1, .int .u8 (s : Int), .int .i64 0]).alloc (.cells #[.int .i64 1, .int .u8 (s : Int), .int .i64 0] 29)
      have hb7 := Blk.new (w5.alloc (.cells #[.int .i64 1, .int .u8 (s : Int), .int .i64 0] 24)) 29 [.int .i64 1, .int .u8 (s : Int), .int .i64 0]
      have hb8 := (HK5.out.alloc (.cells #[.int .i64 1, .int .u8 (s : Int), .int .i64 0] 24)).alloc (.cells #[.int .i64 1, .int .u8 (s : Int), .int .i64 0] 29)
      have hsz : (w5.alloc (.cells #[.int .i64 1, .int .u8 (s : Int), .int .i64 0] 24)).heap.size = w5.heap.size + 1 := by simp
      rw [hsz] at hb7
      have HB6 := Lib.hid (bel_alloc (bel_alloc HB5.out (.cells #[.int .i64 1, .int .u8 (s : Int), .int .i64 0] 24)) (.cells #[.int .i64 1, .int .u8 (s : Int), .int .i64 0] 29))
      generalize (w5.alloc (.cells #[.int .i64 1, .int .u8 (s : Int), .int .i64 0] 24)).alloc (.cells #[.int .i64 1, .int .u8 (s : Int), .int .i64 0] 29) = w6 at *
      have p0 := after_cell (hb6.at_ (i := 0) rfl)
      have p1 := after_cell (hb6.at_ (i := 1) rfl)
      have p2 := after_cell (hb6.at_ (i := 2) rfl)
      have q0 := after_cell (hb7.at_ (i := 0) rfl)
      have q1 := after_cell (hb7.at_ (i := 1) rfl)
      have q2 := after_cell (hb7.at_ (i := 2) rfl)
      have r0 := after_cell (hb8.at_ (i := 0) rfl)
      have r1 := after_cell (hb8.at_ (i := 1) rfl)
      have r2 := after_cell (hb8.at_ (i := 2) rfl)
      clear hb6 hb7 hb8 hsz HK5 HB5
      refine wp_region_after (by kernel_rfl) (by kernel_rfl) ?_
      repeat (first | go_big_quiet_step (first | (go_at_call 13; exact after_call HRX.out _) | (go_at_call 10; exact after_call (to_any _ _ _) _)) | quiet_step (first | (go_at_call 13; exact after_call HRX.out _) | (go_at_call 10; exact after_call (to_any _ _ _) _)))
      refine wpQuiet_nil ?_; intro _ hw'; obtain ⟨xq, hw''⟩ := hw'; subst hw''
      go_wp2_with fail
      go_ret
      exact ⟨rfl, bel_after HB6.out _⟩
    · simp only [reduceIte, or_true, true_or, or_self, show ¬ ((0 : Int) = 1) from by omega, show ¬ ((0 : Int) = 2) from by omega, show ¬ ((0 : Int) = 3) from by omega, show ¬ ((1 : Int) = 3) from by omega, show ¬ ((2 : Int) = 3) from by omega, show ¬ ((3 : Int) = 1) from by omega, show ¬ ((3 : Int) = 2) from by omega] at hpx
      have HCH := Lib.hid hch; have HTO := Lib.hid hto; have HB0 := Lib.hid hB0; have HK0 := Lib.hid hb0
      have HTX := Lib.hid htx; have HRX := Lib.hid hrx; have HPX := Lib.hid hpx
      clear hch hto hB0 hb0 htx hrx hpx hb
      go_enter Tryd.func4, Tryd.ntmps4
      go_wp2_with fail
      refine (HTO.out _).mono ?_; rintro e w1 ⟨rfl, hB1⟩
      have HB1 := Lib.hid (bel_trans HB0.out hB1)
      have HK1 := Lib.hid (HK0.out.below hB1)
      clear hB1 HK0 HB0
      go_wp2_with fail
      refine (HTX.out _).mono ?_; rintro e w2 ⟨rfl, hB1⟩
      have HB2 := Lib.hid (bel_trans HB1.out hB1)
      have HK2 := Lib.hid (HK1.out.below hB1)
      clear hB1 HK1 HB1
      go_wp2_with fail
      refine (rules_any _).mono ?_; rintro e w3 ⟨rfl, hB1⟩
      have HB3 := Lib.hid (bel_trans HB2.out hB1)
      have HK3 := Lib.hid (HK2.out.below hB1)
      clear hB1 HK2 HB2
      have q0 := HK3.out.at_ (i := 0) rfl
      have q1 := HK3.out.at_ (i := 1) rfl
      have q2 := HK3.out.at_ (i := 2) rfl
      go_wp2_with fail
      refine (HCH.out _).mono ?_; rintro e w4 ⟨rfl, hB1⟩
      have HB4 := Lib.hid (bel_trans HB3.out hB1)
      have HK4 := Lib.hid (HK3.out.below hB1)
      clear hB1 HK3 HB3 q0 q1 q2
      go_wp2_with fail
      refine (HPX.out _).mono ?_; rintro e w5 ⟨rfl, hB1⟩
      have HB5 := Lib.hid (bel_trans HB4.out hB1)
      have HK5 := Lib.hid (HK4.out.below hB1)
      clear hB1 HK4 HB4
      have q0 := HK5.out.at_ (i := 0) rfl
      have q1 := HK5.out.at_ (i := 1) rfl
      have q2 := HK5.out.at_ (i := 2) rfl
      have hl := HK5.out.lt
      go_upto_region 12 with fail
      clear q0 q1 q2 hl
      have hb6 := (Blk.new w5 24 [.int .i64 2, .int .u8 (s : Int), .int .i64 0]).alloc (.cells #[.int .i64 2, .int .u8 (s : Int), .int .i64 0] 29)
      have hb7 := Blk.new (w5.alloc (.cells #[.int .i64 2, .int .u8 (s : Int), .int .i64 0] 24)) 29 [.int .i64 2, .int .u8 (s : Int), .int .i64 0]
      have hb8 := (HK5.out.alloc (.cells #[.int .i64 2, .int .u8 (s : Int), .int .i64 0] 24)).alloc (.cells #[.int .i64 2, .int .u8 (s : Int), .int .i64 0] 29)
      have hsz : (w5.alloc (.cells #[.int .i64 2, .int .u8 (s : Int), .int .i64 0] 24)).heap.size = w5.heap.size + 1 := by simp
      rw [hsz] at hb7
      have HB6 := Lib.hid (bel_alloc (bel_alloc HB5.out (.cells #[.int .i64 2, .int .u8 (s : Int), .int .i64 0] 24)) (.cells #[.int .i64 2, .int .u8 (s : Int), .int .i64 0] 29))
      generalize (w5.alloc (.cells #[.int .i64 2, .int .u8 (s : Int), .int .i64 0] 24)).alloc (.cells #[.int .i64 2, .int .u8 (s : Int), .int .i64 0] 29) = w6 at *
      have p0 := after_cell (hb6.at_ (i := 0) rfl)
      have p1 := after_cell (hb6.at_ (i := 1) rfl)
      have p2 := after_cell (hb6.at_ (i := 2) rfl)
      have q0 := after_cell (hb7.at_ (i := 0) rfl)
      have q1 := after_cell (hb7.at_ (i := 1) rfl)
      have q2 := after_cell (hb7.at_ (i := 2) rfl)
      have r0 := after_cell (hb8.at_ (i := 0) rfl)
      have r1 := after_cell (hb8.at_ (i := 1) rfl)
      have r2 := after_cell (hb8.at_ (i := 2) rfl)
      clear hb6 hb7 hb8 hsz HK5 HB5
      refine wp_region_after (by kernel_rfl) (by kernel_rfl) ?_
      repeat (first | go_big_quiet_step (first | (go_at_call 13; exact after_call HRX.out _) | (go_at_call 10; exact after_call (to_any _ _ _) _)) | quiet_step (first | (go_at_call 13; exact after_call HRX.out _) | (go_at_call 10; exact after_call (to_any _ _ _) _)))
      refine wpQuiet_nil ?_; intro _ hw'; obtain ⟨xq, hw''⟩ := hw'; subst hw''
      go_wp2_with fail
      go_ret
      exact ⟨rfl, bel_after HB6.out _⟩
    · simp only [reduceIte, or_true, true_or, or_self, show ¬ ((0 : Int) = 1) from by omega, show ¬ ((0 : Int) = 2) from by omega, show ¬ ((0 : Int) = 3) from by omega, show ¬ ((1 : Int) = 3) from by omega, show ¬ ((2 : Int) = 3) from by omega, show ¬ ((3 : Int) = 1) from by omega, show ¬ ((3 : Int) = 2) from by omega] at hpx
      have HCH := Lib.hid hch; have HTO := Lib.hid hto; have HB0 := Lib.hid hB0; have HK0 := Lib.hid hb0
      have HTX := Lib.hid htx; have HRX := Lib.hid hrx; have HPX := Lib.hid hpx
      clear hch hto hB0 hb0 htx hrx hpx hb
      go_enter Tryd.func4, Tryd.ntmps4
      go_wp2_with fail
      refine (HTO.out _).mono ?_; rintro e w1 ⟨rfl, hB1⟩
      have HB1 := Lib.hid (bel_trans HB0.out hB1)
      have HK1 := Lib.hid (HK0.out.below hB1)
      clear hB1 HK0 HB0
      go_wp2_with fail
      refine (HTX.out _).mono ?_; rintro e w2 ⟨rfl, hB1⟩
      have HB2 := Lib.hid (bel_trans HB1.out hB1)
      have HK2 := Lib.hid (HK1.out.below hB1)
      clear hB1 HK1 HB1
      go_wp2_with fail
      refine (rules_any _).mono ?_; rintro e w3 ⟨rfl, hB1⟩
      have HB3 := Lib.hid (bel_trans HB2.out hB1)
      have HK3 := Lib.hid (HK2.out.below hB1)
      clear hB1 HK2 HB2
      have q0 := HK3.out.at_ (i := 0) rfl
      have q1 := HK3.out.at_ (i := 1) rfl
      have q2 := HK3.out.at_ (i := 2) rfl
      go_wp2_with fail
      refine (HCH.out _).mono ?_; rintro e w4 ⟨rfl, hB1⟩
      have HB4 := Lib.hid (bel_trans HB3.out hB1)
      have HK4 := Lib.hid (HK3.out.below hB1)
      clear hB1 HK3 HB3 q0 q1 q2
      go_wp2_with fail
      refine (HPX.out _).mono ?_; rintro e w5 ⟨rfl, hB1⟩
      have HB5 := Lib.hid (bel_trans HB4.out hB1)
      have HK5 := Lib.hid (HK4.out.below hB1)
      clear hB1 HK4 HB4
      have q0 := HK5.out.at_ (i := 0) rfl
      have q1 := HK5.out.at_ (i := 1) rfl
      have q2 := HK5.out.at_ (i := 2) rfl
      have hl := HK5.out.lt
      go_upto_region 12 with fail
      clear q0 q1 q2 hl
      have hb6 := (Blk.new w5 24 [.int .i64 3, .int .u8 0, .int .i64 (k : Int)]).alloc (.cells #[.int .i64 3, .int .u8 0, .int .i64 (k : Int)] 29)
      have hb7 := Blk.new (w5.alloc (.cells #[.int .i64 3, .int .u8 0, .int .i64 (k : Int)] 24)) 29 [.int .i64 3, .int .u8 0, .int .i64 (k : Int)]
      have hb8 := (HK5.out.alloc (.cells #[.int .i64 3, .int .u8 0, .int .i64 (k : Int)] 24)).alloc (.cells #[.int .i64 3, .int .u8 0, .int .i64 (k : Int)] 29)
      have hsz : (w5.alloc (.cells #[.int .i64 3, .int .u8 0, .int .i64 (k : Int)] 24)).heap.size = w5.heap.size + 1 := by simp
      rw [hsz] at hb7
      have HB6 := Lib.hid (bel_alloc (bel_alloc HB5.out (.cells #[.int .i64 3, .int .u8 0, .int .i64 (k : Int)] 24)) (.cells #[.int .i64 3, .int .u8 0, .int .i64 (k : Int)] 29))
      generalize (w5.alloc (.cells #[.int .i64 3, .int .u8 0, .int .i64 (k : Int)] 24)).alloc (.cells #[.int .i64 3, .int .u8 0, .int .i64 (k : Int)] 29) = w6 at *
      have p0 := after_cell (hb6.at_ (i := 0) rfl)
      have p1 := after_cell (hb6.at_ (i := 1) rfl)
      have p2 := after_cell (hb6.at_ (i := 2) rfl)
      have q0 := after_cell (hb7.at_ (i := 0) rfl)
      have q1 := after_cell (hb7.at_ (i := 1) rfl)
      have q2 := after_cell (hb7.at_ (i := 2) rfl)
      have r0 := after_cell (hb8.at_ (i := 0) rfl)
      have r1 := after_cell (hb8.at_ (i := 1) rfl)
      have r2 := after_cell (hb8.at_ (i := 2) rfl)
      clear hb6 hb7 hb8 hsz HK5 HB5
      refine wp_region_after (by kernel_rfl) (by kernel_rfl) ?_
      repeat (first | go_big_quiet_step (first | (go_at_call 13; exact after_call HRX.out _) | (go_at_call 10; exact after_call (to_any _ _ _) _)) | quiet_step (first | (go_at_call 13; exact after_call HRX.out _) | (go_at_call 10; exact after_call (to_any _ _ _) _)))
      refine wpQuiet_nil ?_; intro _ hw'; obtain ⟨xq, hw''⟩ := hw'; subst hw''
      go_wp2_with fail
      go_ret
      exact ⟨rfl, bel_after HB6.out _⟩
  · have htx := fun w => ruleText_no m s hs n hc w
    have hne : (chk m s n 8 != 0) = true := by rw [bne_iff_ne]; exact hc
    generalize chk m s n 8 = x at *
    have HCH := Lib.hid hch; have HTO := Lib.hid hto; have HB0 := Lib.hid hB0; have HK0 := Lib.hid hb0
    have HTX := Lib.hid htx
    clear hch hto hB0 hb0 htx
    go_enter Tryd.func4, Tryd.ntmps4
    go_wp2_with fail
    refine (HTO.out _).mono ?_; rintro e w1 ⟨rfl, hB1⟩
    have HB1 := Lib.hid (bel_trans HB0.out hB1)
    have HK1 := Lib.hid (HK0.out.below hB1)
    clear hB1 HK0 HB0
    go_wp2_with fail
    refine (HTX.out _).mono ?_; rintro e w2 ⟨rfl, hB1⟩
    have HB2 := Lib.hid (bel_trans HB1.out hB1)
    have HK2 := Lib.hid (HK1.out.below hB1)
    clear hB1 HK1 HB1
    go_wp2_with fail
    refine (rules_any _).mono ?_; rintro e w3 ⟨rfl, hB1⟩
    have HB3 := Lib.hid (bel_trans HB2.out hB1)
    have HK3 := Lib.hid (HK2.out.below hB1)
    clear hB1 HK2 HB2
    have q0 := HK3.out.at_ (i := 0) rfl
    have q1 := HK3.out.at_ (i := 1) rfl
    have q2 := HK3.out.at_ (i := 2) rfl
    go_wp2_with fail
    refine (HCH.out _).mono ?_; rintro e w4 ⟨rfl, hB1⟩
    have HB4 := Lib.hid (bel_trans HB3.out hB1)
    clear hB1 HB3 HK3 q0 q1 q2
    go_wp2_with fail
    go_ret
    exact ⟨rfl, HB4.out⟩
end Go.Proofs.YtdpcnbbaipdmjaaDoor
