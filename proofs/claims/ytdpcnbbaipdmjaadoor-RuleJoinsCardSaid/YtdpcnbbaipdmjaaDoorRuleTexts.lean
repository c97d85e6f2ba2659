/- rule.Text, messuageref26.Text; the law RuleTexts. -/
import Derived.Test.YtdpcnbbaipdmjaaDoorRuleParses
import Derived.Test.YtdpcnbbaipdmjaaDoorRefPolC
import Derived.Test.YtdpcnbbaipdmjaaDoorRefText
import Derived.Lib.SmallJoins
namespace Go.Proofs.YtdpcnbbaipdmjaaDoor
open Go.RowKit Go.Shelf
set_option linter.unusedVariables false
set_option linter.unusedSimpArgs false
attribute [local go_sem] World.cell?_alloc_lt

theorem parse_textR : ∀ s : Nat, s < 256 → parseO (textB s) = some s := by decide +kernel
theorem text_sizeR : ∀ s : Nat, s < 256 → (textB s).size ≤ 60 := by decide +kernel
def memB : ByteArray := ⟨#[109, 101, 109, 98, 105, 110, 100, 61]⟩
def intB : ByteArray := ⟨#[105, 110, 116, 101, 114, 108, 101, 97, 118, 101, 61]⟩
def preB : ByteArray := ⟨#[112, 114, 101, 102, 101, 114, 114, 101, 100, 61]⟩
theorem rule_mem : ∀ s : Nat, s < 256 → 0 < s → ruleO (⟨#[109, 101, 109, 98, 105, 110, 100, 61]⟩ ++ textB s) = some ⟨1, s, 0⟩ := by decide +kernel
theorem rule_int : ∀ s : Nat, s < 256 → 0 < s → ruleO (⟨#[105, 110, 116, 101, 114, 108, 101, 97, 118, 101, 61]⟩ ++ textB s) = some ⟨2, s, 0⟩ := by decide +kernel
theorem rule_pre : ∀ n : Nat, n < 8 → ruleO (⟨#[112, 114, 101, 102, 101, 114, 114, 101, 100, 61]⟩ ++ digB n) = some ⟨3, 0, n⟩ := by decide +kernel
theorem rule_loc : ruleO ⟨#[108, 111, 99, 97, 108]⟩ = some ⟨0, 0, 0⟩ := by decide +kernel
/-- The text of a rule. -/
def txtR (m : Int) (s : Nat) (n : Int) : ByteArray :=
  if m = 1 then ⟨#[109, 101, 109, 98, 105, 110, 100, 61]⟩ ++ textB s else if m = 2 then ⟨#[105, 110, 116, 101, 114, 108, 101, 97, 118, 101, 61]⟩ ++ textB s else if m = 3 then ⟨#[112, 114, 101, 102, 101, 114, 114, 101, 100, 61]⟩ ++ digB n.toNat else ⟨#[108, 111, 99, 97, 108]⟩
theorem chk_zero {m : Int} {s : Nat} {n : Int} (h : chk m s n 8 = 0) : m = 0 ∨ (m = 1 ∧ 0 < s) ∨ (m = 2 ∧ 0 < s) ∨ (m = 3 ∧ ∃ k : Nat, n = k ∧ k < 8) := by
  unfold chk setsE at h
  by_cases m0 : m = 0
  · exact Or.inl m0
  · rw [if_neg (by omega), if_neg m0] at h
    by_cases m12 : m = 1 ∨ m = 2
    · rw [if_pos m12] at h
      by_cases s0 : s = 0
      · rw [if_pos s0] at h; omega
      · rcases m12 with m1 | m2
        · exact Or.inr (Or.inl ⟨m1, by omega⟩)
        · exact Or.inr (Or.inr (Or.inl ⟨m2, by omega⟩))
    · rw [if_neg m12] at h
      by_cases m3 : m = 3
      · rw [if_pos m3] at h
        by_cases hn : n < 0 ∨ 8 ≤ n
        · rw [if_pos hn] at h; omega
        · exact Or.inr (Or.inr (Or.inr ⟨m3, n.toNat, by omega, by omega⟩))
      · rw [if_neg m3] at h; omega
/-- A pair, returned. -/
theorem ruleText_no (m : Int) (s : Nat) (hs : s < 256) (n : Int) (h : chk m s n 8 ≠ 0) (w : World) : Calls Tryd.prog 11 #[.agg #[.int .i64 m, .int .u8 (s : Int), .int .i64 n]] w fun e w' => e = .returned (.tuple #[.string ⟨#[]⟩, .int .i64 1]) ∧ Below w.heap.size w w' := by
  have hc := fun w => check_at m s hs n 8 w
  unfold pol at hc
  have hne : (chk m s n 8 != 0) = true := by rw [bne_iff_ne]; exact h
  generalize chk m s n 8 = x at *
  have HC := Lib.hid hc
  clear hc h
  have hB0 := bel_alloc (Below.refl w.heap.size w) (.cells #[.int .i64 m, .int .u8 (s : Int), .int .i64 n] 24)
  have HB0 := Lib.hid hB0
  clear hB0
  go_enter Tryd.func11, Tryd.ntmps11
  go_wp2_with fail
  refine (HC.out _).mono ?_; rintro e w1 ⟨rfl, hB1⟩
  have hB2 := bel_trans HB0.out hB1
  have HB2 := Lib.hid hB2
  clear hB1 hB2
  go_wp2_with fail
  exact bodyPost_ret (v := .tuple #[.string ⟨#[]⟩, .int .i64 1]) (by simp [results, Tryd.results11, go_sem]) rfl ⟨rfl, HB2.out⟩
set_option maxRecDepth 100000 in
theorem ruleText_yes (m : Int) (s : Nat) (hs : s < 256) (n : Int) (h : chk m s n 8 = 0) (w : World) : Calls Tryd.prog 11 #[.agg #[.int .i64 m, .int .u8 (s : Int), .int .i64 n]] w fun e w' => e = .returned (.tuple #[.string (txtR m s n), .int .i64 0]) ∧ Below w.heap.size w w' := by
  have hc := fun w => check_at m s hs n 8 w
  unfold pol at hc
  rw [h] at hc
  have HC := Lib.hid hc
  clear hc
  have htx := fun w => text_at s hs w
  have hz := text_sizeR s hs
  have hor := chk_zero h
  clear h
  obtain ⟨V, hV⟩ : ∃ V, txtR m s n = V := ⟨_, rfl⟩
  rw [hV]
  unfold txtR at hV
  generalize textB s = x at *
  have HT := Lib.hid htx
  clear htx
  have hb0 := Blk.new w 24 [.int .i64 m, .int .u8 (s : Int), .int .i64 n]
  have hB0 := bel_alloc (Below.refl w.heap.size w) (.cells #[.int .i64 m, .int .u8 (s : Int), .int .i64 n] 24)
  have HB0 := Lib.hid hB0
  have HK := Lib.hid hb0
  clear hB0 hb0
  rcases hor with rfl | ⟨rfl, _⟩ | ⟨rfl, _⟩ | ⟨rfl, k, rfl, hk⟩
  · have HV := Lib.hid (show (⟨#[108, 111, 99, 97, 108]⟩ : ByteArray) = V by simpa using hV)
    clear hV
    go_enter Tryd.func11, Tryd.ntmps11
    go_wp2_with fail
    refine (HC.out _).mono ?_; rintro e w1 ⟨rfl, hB1⟩
    have hb1 := HK.out.below hB1
    have q0 := hb1.at_ (i := 0) rfl
    have q1 := hb1.at_ (i := 1) rfl
    have q2 := hb1.at_ (i := 2) rfl
    have HB2 := Lib.hid (bel_trans HB0.out hB1)
    clear hb1 hB1
    go_wp2_with fail
    exact bodyPost_ret (v := .tuple #[.string ⟨#[108, 111, 99, 97, 108]⟩, .int .i64 0]) (by simp [results, Tryd.results11, go_sem]) rfl ⟨by rw [HV.out], HB2.out⟩
  · have HV := Lib.hid (show (⟨#[109, 101, 109, 98, 105, 110, 100, 61]⟩ ++ x : ByteArray) = V by simpa using hV)
    clear hV
    go_enter Tryd.func11, Tryd.ntmps11
    go_wp2_with fail
    refine (HC.out _).mono ?_; rintro e w1 ⟨rfl, hB1⟩
    have hb1 := HK.out.below hB1
    have q0 := hb1.at_ (i := 0) rfl
    have q1 := hb1.at_ (i := 1) rfl
    have q2 := hb1.at_ (i := 2) rfl
    have HB2 := Lib.hid (bel_trans HB0.out hB1)
    clear hb1 hB1
    go_wp2_with fail
    refine (HT.out _).mono ?_; rintro e w2 ⟨rfl, hB3⟩
    have HB3 := Lib.hid (bel_trans HB2.out hB3)
    clear hB3 q0 q1 q2
    go_wp2_with fail
    exact bodyPost_ret (v := .tuple #[.string (⟨#[109, 101, 109, 98, 105, 110, 100, 61]⟩ ++ x), .int .i64 0]) (by simp [results, Tryd.results11, go_sem]) rfl ⟨by rw [HV.out], HB3.out⟩
  · have HV := Lib.hid (show (⟨#[105, 110, 116, 101, 114, 108, 101, 97, 118, 101, 61]⟩ ++ x : ByteArray) = V by simpa using hV)
    clear hV
    go_enter Tryd.func11, Tryd.ntmps11
    go_wp2_with fail
    refine (HC.out _).mono ?_; rintro e w1 ⟨rfl, hB1⟩
    have hb1 := HK.out.below hB1
    have q0 := hb1.at_ (i := 0) rfl
    have q1 := hb1.at_ (i := 1) rfl
    have q2 := hb1.at_ (i := 2) rfl
    have HB2 := Lib.hid (bel_trans HB0.out hB1)
    clear hb1 hB1
    go_wp2_with fail
    refine (HT.out _).mono ?_; rintro e w2 ⟨rfl, hB3⟩
    have HB3 := Lib.hid (bel_trans HB2.out hB3)
    clear hB3 q0 q1 q2
    go_wp2_with fail
    exact bodyPost_ret (v := .tuple #[.string (⟨#[105, 110, 116, 101, 114, 108, 101, 97, 118, 101, 61]⟩ ++ x), .int .i64 0]) (by simp [results, Tryd.results11, go_sem]) rfl ⟨by rw [HV.out], HB3.out⟩
  · have HV := Lib.hid (show (⟨#[112, 114, 101, 102, 101, 114, 114, 101, 100, 61]⟩ ++ digB k : ByteArray) = V by simpa using hV)
    have hdc := dig_conv k hk
    have hdz : (digB k).size = 1 := rfl
    generalize digB k = y at *
    clear hV
    go_enter Tryd.func11, Tryd.ntmps11
    go_wp2_with fail
    refine (HC.out _).mono ?_; rintro e w1 ⟨rfl, hB1⟩
    have hb1 := HK.out.below hB1
    have q0 := hb1.at_ (i := 0) rfl
    have q1 := hb1.at_ (i := 1) rfl
    have q2 := hb1.at_ (i := 2) rfl
    have HB2 := Lib.hid (bel_trans HB0.out hB1)
    clear hb1 hB1
    go_wp2_with fail
    exact bodyPost_ret (v := .tuple #[.string (⟨#[112, 114, 101, 102, 101, 114, 114, 101, 100, 61]⟩ ++ y), .int .i64 0]) (by simp [results, Tryd.results11, go_sem]) rfl ⟨by rw [HV.out], HB2.out⟩
set_option maxRecDepth 100000 in
theorem rruleText_yes (m : Int) (s : Nat) (hs : s < 256) (n : Int) (h : chk m s n 8 = 0) (w : World) : Calls Tryd.prog 13 #[.agg #[.int .i64 m, .int .u8 (s : Int), .int .i64 n]] w fun e w' => e = .returned (.string (txtR m s n)) ∧ Below w.heap.size w w' := by
  have htx := fun w => rtext_at s hs w
  have hz := text_sizeR s hs
  have hor := chk_zero h
  clear h
  obtain ⟨V, hV⟩ : ∃ V, txtR m s n = V := ⟨_, rfl⟩
  rw [hV]
  unfold txtR at hV
  generalize textB s = x at *
  have HT := Lib.hid htx
  clear htx
  have hB0 := bel_alloc (Below.refl w.heap.size w) (.cells #[.int .i64 m, .int .u8 (s : Int), .int .i64 n] 29)
  rcases hor with rfl | ⟨rfl, _⟩ | ⟨rfl, _⟩ | ⟨rfl, k, rfl, hk⟩
  · have HV := Lib.hid (show (⟨#[108, 111, 99, 97, 108]⟩ : ByteArray) = V by simpa using hV)
    have HB0 := Lib.hid hB0
    clear hV hB0
    go_enter Tryd.func13, Tryd.ntmps13
    go_wp2_with fail
    exact bodyPost_ret (v := .string ⟨#[108, 111, 99, 97, 108]⟩) (by simp [results, Tryd.results13, go_sem]) rfl ⟨by rw [HV.out], HB0.out⟩
  · have HV := Lib.hid (show (⟨#[109, 101, 109, 98, 105, 110, 100, 61]⟩ ++ x : ByteArray) = V by simpa using hV)
    have HB0 := Lib.hid hB0
    clear hV hB0
    go_enter Tryd.func13, Tryd.ntmps13
    go_wp2_with fail
    refine (HT.out _).mono ?_; rintro e w2 ⟨rfl, hB3⟩
    have HB3 := Lib.hid (bel_trans HB0.out hB3)
    clear hB3
    go_wp2_with fail
    exact bodyPost_ret (v := .string (⟨#[109, 101, 109, 98, 105, 110, 100, 61]⟩ ++ x)) (by simp [results, Tryd.results13, go_sem]) rfl ⟨by rw [HV.out], HB3.out⟩
  · have HV := Lib.hid (show (⟨#[105, 110, 116, 101, 114, 108, 101, 97, 118, 101, 61]⟩ ++ x : ByteArray) = V by simpa using hV)
    have HB0 := Lib.hid hB0
    clear hV hB0
    go_enter Tryd.func13, Tryd.ntmps13
    go_wp2_with fail
    refine (HT.out _).mono ?_; rintro e w2 ⟨rfl, hB3⟩
    have HB3 := Lib.hid (bel_trans HB0.out hB3)
    clear hB3
    go_wp2_with fail
    exact bodyPost_ret (v := .string (⟨#[105, 110, 116, 101, 114, 108, 101, 97, 118, 101, 61]⟩ ++ x)) (by simp [results, Tryd.results13, go_sem]) rfl ⟨by rw [HV.out], HB3.out⟩
  · have HV := Lib.hid (show (⟨#[112, 114, 101, 102, 101, 114, 114, 101, 100, 61]⟩ ++ digB k : ByteArray) = V by simpa using hV)
    have hc := conv_byte ((w.alloc (.cells #[.int .i64 3, .int .u8 (s : Int), .int .i64 (k : Int)] 29)).alloc (.cells #[.int .u8 (48 + (k : Int))] 5)) (w.heap.size + 1) (48 + k) (by
      rw [show ((48 + k : Nat) : Int) = 48 + (k : Int) by omega]
      simp)
    have h0 : (0 : Int) ≤ (k : Int) := by omega
    have h1 : (k : Int) < 8 := by omega
    have HB1 := Lib.hid (bel_alloc hB0 (.cells #[.int .u8 (48 + (k : Int))] 5))
    have hyz : (digB k).size = 1 := rfl
    unfold digB at *
    generalize (⟨#[UInt8.ofNat (48 + k)]⟩ : ByteArray) = y at *
    clear hV hB0
    go_enter Tryd.func13, Tryd.ntmps13
    go_wp2_with fail
    exact bodyPost_ret (v := .string (⟨#[112, 114, 101, 102, 101, 114, 114, 101, 100, 61]⟩ ++ y)) (by simp [results, Tryd.results13, go_sem]) rfl ⟨by rw [HV.out], HB1.out⟩
end Go.Proofs.YtdpcnbbaipdmjaaDoor
