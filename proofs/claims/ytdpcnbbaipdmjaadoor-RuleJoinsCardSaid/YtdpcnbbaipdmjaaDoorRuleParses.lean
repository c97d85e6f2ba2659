/- The statement's to, rules; the law RuleParses. -/
import Derived.Test.YtdpcnbbaipdmjaaDoorRuleRef
import Derived.Test.YtdpcnbbaipdmjaaDoorAfter
import Derived.Deep.QuietTactic
import Derived.BigQuiet
namespace Go.Proofs.YtdpcnbbaipdmjaaDoor
open Go.RowKit Go.Shelf
set_option linter.unusedVariables false
set_option linter.unusedSimpArgs false
attribute [local go_sem] World.cell?_alloc_lt

theorem to_any (m : Int) (s : Nat) (n : Int) (w : World) : Calls Tryd.prog 10 #[.agg #[.int .i64 m, .int .u8 (s : Int), .int .i64 n]] w fun e w' => e = .returned (.agg #[.int .i64 m, .int .u8 (s : Int), .int .i64 n]) ∧ Below w.heap.size w w' := by
  go_enter Tryd.func10, Tryd.ntmps10
  go_wp2_with fail
  exact bodyPost_ret (v := .agg #[.int .i64 m, .int .u8 (s : Int), .int .i64 n]) (by simp [results, Tryd.results10, go_sem]) rfl ⟨rfl, by repeat (first | exact bel_alloc (bel_alloc (Below.refl _ _) _) _ | refine bel_set ?_ ?_ _ | (simp; done))⟩
theorem rule_yes : ruleO ⟨#[105, 110, 116, 101, 114, 108, 101, 97, 118, 101, 61, 48, 44, 50, 45, 51]⟩ = some ⟨2, 13, 0⟩ := by decide +kernel
theorem rule_no : ruleO ⟨#[109, 101, 109, 98, 105, 110, 100, 61, 110, 111, 110, 101]⟩ = none := by decide +kernel
set_option maxRecDepth 100000 in
theorem rules_any (w : World) : Calls Tryd.prog 9 #[] w fun e w' => e = .returned (.bool true) ∧ Below w.heap.size w w' := by
  have h1 := fun w => ruleParse_any ⟨#[105, 110, 116, 101, 114, 108, 101, 97, 118, 101, 61, 48, 44, 50, 45, 51]⟩ (by decide) w
  have h2 := fun w => ruleParse_any ⟨#[109, 101, 109, 98, 105, 110, 100, 61, 110, 111, 110, 101]⟩ (by decide) w
  rw [rule_yes] at h1
  rw [rule_no] at h2
  simp only [ruleV, Pol.v] at h1 h2
  have H1 := Lib.hid h1; have H2 := Lib.hid h2
  clear h1 h2
  go_enter Tryd.func9, Tryd.ntmps9
  go_wp2_with fail
  refine (H1.out _).mono ?_; rintro e w1 ⟨rfl, hB1⟩
  go_upto_region 2 with fail
  have hb1 := Blk.new w1 24 [.int .i64 2, .int .u8 13, .int .i64 0]
  have hB2 := bel_alloc hB1 (.cells #[.int .i64 2, .int .u8 13, .int .i64 0] 24)
  have HB1 := Lib.hid hb1; have HB2 := Lib.hid hB2
  clear hb1 hB2 hB1
  go_wp2_with fail
  refine (H2.out _).mono ?_; rintro e w2 ⟨rfl, hB3⟩
  have hb2 := HB1.out.below hB3
  have q0 := hb2.at_ (i := 0) rfl
  have q1 := hb2.at_ (i := 1) rfl
  have q2 := hb2.at_ (i := 2) rfl
  have hl := hb2.lt
  have hB4 := bel_trans HB2.out hB3
  clear hb2 hB3
  go_wp2_with fail
  go_ret
  exact ⟨rfl, bel_alloc hB4 _⟩
/-- What Parse and the document's answer say of a text. -/
theorem rule_two (t : ByteArray) (ht : t.size ≤ 1000) : ∃ (m : Int) (s : Nat) (n : Int) (b : Int) (ok : Bool), (∀ w : World, Calls Tryd.prog 7 #[.string t] w fun e w' => e = .returned (.tuple #[.agg #[.int .i64 m, .int .u8 (s : Int), .int .i64 n], .int .i64 b]) ∧ Below w.heap.size w w') ∧ (∀ w : World, Calls Tryd.prog 8 #[.string t] w fun e w' => e = .returned (.tuple #[.agg #[.int .i64 m, .int .u8 (s : Int), .int .i64 n], .bool ok]) ∧ Below w.heap.size w w') ∧ ((b = 0 ∧ ok = true) ∨ (b = 2 ∧ ok = false)) := by
  have h1 := fun w => ruleParse_any t (by omega) w
  have h2 := fun w => rruleParse_any t ht w
  cases h : ruleO t with
  | none =>
    rw [h] at h1 h2
    exact ⟨0, 0, 0, 2, false, h1, h2, Or.inr ⟨rfl, rfl⟩⟩
  | some p =>
    obtain ⟨m, s, n⟩ := p
    rw [h] at h1 h2
    exact ⟨m, s, n, 0, true, h1, h2, Or.inl ⟨rfl, rfl⟩⟩
set_option maxRecDepth 100000 in
set_option maxHeartbeats 4000000 in
theorem ruleParses_walk (s : ByteArray) (hs : s.size ≤ 140737488351232) (w0 : World) (_h : True) : Calls Tryd.prog 3 #[.string s] w0 fun e w' => e = .returned (.bool true) ∧ Below w0.heap.size w0 w' := by
  obtain ⟨k, hk, hk60, hmin0, hsz⟩ := min_cut s 60
  have hmin : min (s.size : Int) 60 = (k : Int) := hmin0
  have hcut := fun w => cut_str_hi s k hk w
  clear hmin0
  generalize s.extract 0 k = x at *
  obtain ⟨pm, ps, pn, b, ok, h1, h2, hor⟩ := rule_two x (by omega)
  have H1 := Lib.hid h1; have H2 := Lib.hid h2
  clear h1 h2
  rcases hor with ⟨rfl, rfl⟩ | ⟨rfl, rfl⟩
  all_goals
    go_enter Tryd.func3, Tryd.ntmps3
    go_wp2_with fail
    refine (H1.out _).mono ?_; rintro e w1 ⟨rfl, hB1⟩
    go_upto_region 3 with fail
    have hb1 := Blk.new w1 24 [.int .i64 pm, .int .u8 (ps : Int), .int .i64 pn]
    have hB2 := bel_alloc hB1 (.cells #[.int .i64 pm, .int .u8 (ps : Int), .int .i64 pn] 24)
    have HB1 := Lib.hid hb1; have HB2 := Lib.hid hB2
    clear hb1 hB2 hB1
    go_wp2_with fail
    refine (H2.out _).mono ?_; rintro e w2 ⟨rfl, hB3⟩
    have hB4 := bel_trans HB2.out hB3
    have hb2 := HB1.out.below hB3
    have hb3 := hb2.alloc (.cells #[.int .i64 pm, .int .u8 (ps : Int), .int .i64 pn] 29)
    have hb4 := Blk.new w2 29 [.int .i64 pm, .int .u8 (ps : Int), .int .i64 pn]
    have hB5 := bel_alloc hB4 (.cells #[.int .i64 pm, .int .u8 (ps : Int), .int .i64 pn] 29)
    go_upto_region 4 with fail
    generalize hw3 : w2.alloc (.cells #[.int .i64 pm, .int .u8 (ps : Int), .int .i64 pn] 29) = w3 at *
    have q0 := after_cell (hb3.at_ (i := 0) rfl)
    have q1 := after_cell (hb3.at_ (i := 1) rfl)
    have q2 := after_cell (hb3.at_ (i := 2) rfl)
    have p0 := after_cell (hb4.at_ (i := 0) rfl)
    have p1 := after_cell (hb4.at_ (i := 1) rfl)
    have p2 := after_cell (hb4.at_ (i := 2) rfl)
    have HB5 := Lib.hid hB5
    clear hb2 hb3 hb4 hB3 hB4 hB5 hw3
    refine wp_region_after (by kernel_rfl) (by kernel_rfl) ?_
    repeat (first | go_big_quiet_step (first | (go_at_call 9; exact after_call rules_any _) | (go_at_call 10; exact after_call (to_any _ _ _) _)) | quiet_step (first | (go_at_call 9; exact after_call rules_any _) | (go_at_call 10; exact after_call (to_any _ _ _) _)))
    refine wpQuiet_nil ?_; intro _ hw'; obtain ⟨xq, hw''⟩ := hw'; subst hw''
    go_wp2_with fail
    go_ret
    exact ⟨rfl, bel_after HB5.out _⟩
end Go.Proofs.YtdpcnbbaipdmjaaDoor
