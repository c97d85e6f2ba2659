/- Calls at no store, and calls of whatever answer (layer 5). -/
import Derived.Test.YtkjhodaglanpmaaFramesRef3
namespace Go.Proofs.Ytkjhodaglanpmaa
open Go.RowKit
set_option linter.unusedVariables false
set_option linter.unusedSimpArgs false
attribute [local go_sem] World.cell?_alloc_lt

theorem none_any (w : World) : Calls Try.prog 42 #[] w fun e w' => e = .returned (.pointer none) ∧ w = w' := by
  go_enter Try.func42, Try.ntmps42
  go_wp2_with fail
  go_ret
  exact ⟨rfl, rfl⟩
theorem nil_frame (n : Int) (w : World) : Calls Try.prog 69 #[.pointer none, .int .i64 n] w fun e w' => e = .returned (.tuple #[.pointer none, .int .i64 1]) ∧ w = w' := by
  go_enter Try.func69, Try.ntmps69
  go_wp2_with fail
  go_ret2
  exact ⟨rfl, rfl⟩
theorem nil_part (n at_ m : Int) (w : World) : Calls Try.prog 67 #[.pointer none, .int .i64 n, .int .i64 at_, .int .i64 m] w fun e w' => e = .returned (.tuple #[.slice none 0 0, .int .i64 1]) ∧ w = w' := by
  go_enter Try.func67, Try.ntmps67
  go_wp2_with fail
  refine (nil_frame n w).mono ?_; rintro e w1 ⟨rfl, rfl⟩
  go_wp2_with fail
  go_ret2
  exact ⟨rfl, rfl⟩
theorem nil_load (n at_ m : Int) (w : World) : Calls Try.prog 32 #[.pointer none, .int .i64 n, .int .i64 at_, .int .i64 m] w fun e w' => e = .returned (.tuple #[.slice none 0 0, .int .i64 1]) ∧ w = w' := by
  go_enter Try.func32, Try.ntmps32
  go_wp2_with fail
  refine (nil_part n at_ m w).mono ?_; rintro e w1 ⟨rfl, rfl⟩
  go_wp2_with fail
  refine (cloneB_nil w).mono ?_; rintro e w1 ⟨rfl, rfl⟩
  go_wp2_with fail
  go_ret2
  exact ⟨rfl, rfl⟩
theorem nil_node (n : Int) (w : World) : Calls Try.prog 33 #[.pointer none, .int .i64 n] w fun e w' => e = .returned (.tuple #[.int .i64 0, .int .i64 1]) ∧ w = w' := by
  go_enter Try.func33, Try.ntmps33
  go_wp2_with fail
  refine (nil_frame n w).mono ?_; rintro e w1 ⟨rfl, rfl⟩
  go_wp2_with fail
  go_ret2
  exact ⟨rfl, rfl⟩
theorem nil_first (n : Int) (w : World) : Calls Try.prog 34 #[.pointer none, .int .i64 n] w fun e w' => e = .returned (.tuple #[.int .i64 0, .int .i64 1]) ∧ w = w' := by
  go_enter Try.func34, Try.ntmps34
  go_wp2_with fail
  go_ret2
  exact ⟨rfl, rfl⟩
theorem nil_len (w : World) : Calls Try.prog 43 #[.pointer none] w fun e w' => e = .returned (.int .i64 0) ∧ w = w' := by
  go_enter Try.func43, Try.ntmps43
  go_wp2_with fail
  go_ret
  exact ⟨rfl, rfl⟩
theorem nil_save (n at_ : Int) (w : World) : Calls Try.prog 31 #[.pointer none, .int .i64 n, .int .i64 at_, .slice none 0 0] w fun e w' => e = .returned (.int .i64 1) ∧ w = w' := by
  have hcp := run_copy_none (P := Try.prog) w 50 50 3 5 none none 0 0 0 0 Try.underlying50 (by kernel_rfl) (by simp)
  go_enter Try.func31, Try.ntmps31
  go_wp2_with fail
  refine (nil_part n at_ _ w).mono ?_; rintro e w1 ⟨rfl, rfl⟩
  go_wp2_with fail
  go_ret
  exact ⟨rfl, rfl⟩
theorem nil_copy (n m : Int) (w : World) : Calls Try.prog 44 #[.pointer none, .int .i64 n, .int .i64 m] w fun e w' => e = .returned (.int .i64 1) ∧ w = w' := by
  go_enter Try.func44, Try.ntmps44
  go_wp2_with fail
  refine (nil_frame n w).mono ?_; rintro e w1 ⟨rfl, rfl⟩
  go_wp2_with fail
  go_ret
  exact ⟨rfl, rfl⟩
theorem nil_clear (n : Int) (w : World) : Calls Try.prog 45 #[.pointer none, .int .i64 n] w fun e w' => e = .returned (.int .i64 1) ∧ w = w' := by
  go_enter Try.func45, Try.ntmps45
  go_wp2_with fail
  refine (nil_frame n w).mono ?_; rintro e w1 ⟨rfl, rfl⟩
  go_wp2_with fail
  go_ret
  exact ⟨rfl, rfl⟩
theorem fr_new_no (nodes each : Int) (w : World) (h : nodes < 1 ∨ 8 < nodes ∨ each < 1 ∨ 1024 < each) :
    Calls Try.prog 29 #[.int .i64 nodes, .int .i64 each] w fun e w' => e = .returned (.tuple #[.pointer none, .int .i64 3]) ∧ w = w' := by
  rcases (by omega : nodes < 1 ∨ (1 ≤ nodes ∧ 8 < nodes) ∨ (1 ≤ nodes ∧ nodes ≤ 8 ∧ each < 1) ∨ (1 ≤ nodes ∧ nodes ≤ 8 ∧ 1 ≤ each ∧ 1024 < each)) with h | ⟨h, h2⟩ | ⟨h, h2, h3⟩ | ⟨h, h2, h3, h4⟩
  all_goals
    go_enter Try.func29, Try.ntmps29
    go_wp2_with fail
    go_ret2
    exact ⟨rfl, rfl⟩
theorem fr_node_no (g b each nf : Nat) (bs : List Int) (n : Int) (w : World) (hG : StoreAt w g b each nf bs) (hn : n < 0 ∨ (nf : Int) ≤ n) :
    Calls Try.prog 33 #[.pointer (some ⟨g, 0, none⟩), .int .i64 n] w fun e w' => e = .returned (.tuple #[.int .i64 0, .int .i64 1]) ∧ w = w' := by
  go_enter Try.func33, Try.ntmps33
  go_wp2_with fail
  refine (fr_frame_no g b each nf bs n w hG hn).mono ?_; rintro e w1 ⟨rfl, rfl⟩
  go_wp2_with fail
  go_ret2
  exact ⟨rfl, rfl⟩
set_option maxRecDepth 100000 in
theorem fr_first_no (g b each nf : Nat) (bs : List Int) (nn : Nat) (w : World) (hG : StoreAt w g b each nf bs) (hf : nf = nn * each) :
    Calls Try.prog 34 #[.pointer (some ⟨g, 0, none⟩), .int .i64 nn] w fun e w' => e = .returned (.tuple #[.int .i64 0, .int .i64 10]) ∧ Below w.heap.size w w' := by
  have k0 := hG.st.at_ (i := 0) rfl
  have k1 := hG.st.at_ (i := 1) rfl
  have he1 := hG.e1
  have he0 : (each : Int) ≠ 0 := by omega
  have hmx := hG.mx
  have hdv : nf / each = nn := by rw [hf, Nat.mul_div_cancel _ (by omega)]
  have hq : (nf : Int) / (each : Int) = (nn : Int) := by rw [← hdv, Int.natCast_ediv]
  have hnn : nn ≤ nf := by rw [← hdv]; exact Nat.div_le_self _ _
  have hd0 : decide ((nn : Int) < 0) = false := decide_eq_false (by omega)
  have hd1 : decide ((nn : Int) ≤ (nn : Int)) = true := decide_eq_true (by omega)
  clear hf hdv
  go_enter Try.func34, Try.ntmps34
  go_wp2_with fail
  refine wp_region_quiet_lit (by kernel_rfl) (by kernel_rfl) ?_
  repeat (first | go_big_quiet_step (fail) | quiet_step (fail))
  refine wpQuiet_nil ?_; intro _ hw'; obtain ⟨nq, hw''⟩ := hw'; subst hw''
  go_wp2_with fail
  go_ret2
  exact ⟨rfl, bel_quiet ⟨nq, rfl⟩⟩
/-- What a load tells. -/
def loadL (nf : Nat) (bs : List Int) (f at_ m : Int) : List Int := if partE nf f at_ m = 0 then (bs.drop (f.toNat * 64 + at_.toNat)).take m.toNat else []
theorem InB.nil (w : World) (A : Option Addr) : InB w A 0 [] := ⟨rfl, fun h => absurd h (by omega)⟩
theorem fr_load_any (g b each nf : Nat) (bs : List Int) (f at_ m : Int) (w : World) (hG : StoreAt w g b each nf bs) (hm : m ≤ 9223372036854775807) :
    Calls Try.prog 32 #[.pointer (some ⟨g, 0, none⟩), .int .i64 f, .int .i64 at_, .int .i64 m] w fun e w' => ∃ A n c, e = .returned (.tuple #[.slice A n c, .int .i64 (partE nf f at_ m)]) ∧ InB w' A n (loadL nf bs f at_ m) ∧ Below w.heap.size w w' := by
  unfold loadL
  by_cases h : partE nf f at_ m = 0
  · rw [if_pos h, h]
    obtain ⟨f', a', m', rfl, rfl, rfl, hf, ha⟩ := partE_ok h
    rw [Int.toNat_natCast, Int.toNat_natCast, Int.toNat_natCast]
    have hin := frame_in hG.ln hf ha
    refine (fr_load g b each nf bs f' a' m' w hG hf ha).mono ?_
    rintro e w1 ⟨h1, c, rfl, hown, hB⟩
    exact ⟨_, m', c, rfl, InB.of_own (by rw [List.length_take, List.length_drop]; omega) hown, hB⟩
  · rw [if_neg h]
    refine (fr_load_no g b each nf bs f at_ m w hG h hm).mono ?_
    rintro e w1 ⟨rfl, rfl⟩
    exact ⟨none, 0, 0, rfl, InB.nil _ _, Below.refl _ _⟩
theorem rs_load_any (r tb nodes each : Nat) (bs : List Int) (f at_ m : Int) (w : World) (hR : RefS w r tb nodes each bs) (hm : m ≤ 9223372036854775807) :
    Calls Try.prog 48 #[.pointer (some ⟨r, 0, none⟩), .int .i64 f, .int .i64 at_, .int .i64 m] w fun e w' => ∃ A n c, e = .returned (.tuple #[.slice A n c, .int .i64 (partE (nodes * each) f at_ m)]) ∧ InB w' A n (loadL (nodes * each) bs f at_ m) ∧ (∀ b off, A = some ⟨b, off, none⟩ → w.heap.size ≤ b) ∧ Below w.heap.size w w' := by
  unfold loadL
  by_cases h : partE (nodes * each) f at_ m = 0
  · rw [if_pos h, h]
    obtain ⟨f', a', m', rfl, rfl, rfl, hf, ha⟩ := partE_ok h
    rw [Int.toNat_natCast, Int.toNat_natCast, Int.toNat_natCast]
    have hin := frame_in hR.ln hf ha
    refine (rs_load r tb nodes each bs f' a' m' w hR hf ha).mono ?_
    rintro e w1 ⟨A, c, rfl, hown, hB⟩
    refine ⟨A, m', c, rfl, InB.of_own (by rw [List.length_take, List.length_drop]; omega) hown, fun b off hA => ?_, hB⟩
    subst hA
    rcases hown.2 with ⟨h0, _⟩ | ⟨g', cap, cur, hv, hb, _⟩
    · cases h0
    · injection hv with hA _ _
      injection hA with hA
      injection hA with hA _ _
      subst hA
      exact hb
  · rw [if_neg h]
    refine (rs_load_no r tb nodes each bs f at_ m w hR h hm).mono ?_
    rintro e w1 ⟨rfl, hB⟩
    exact ⟨none, 0, 0, rfl, InB.nil _ _, fun b off h => (by cases h), hB⟩
/-- Copy and Clear of whatever. -/
def copyB (nf : Nat) (bs : List Int) (f m : Int) : List Int := if hasF nf f && hasF nf m then putL bs (m.toNat * 64) (frBs bs f.toNat) else bs
def clearB (nf : Nat) (bs : List Int) (f : Int) : List Int := if hasF nf f then putL bs (f.toNat * 64) zeros64 else bs
theorem fr_copy_any (g b each nf : Nat) (bs : List Int) (f m : Int) (w : World) (hG : StoreAt w g b each nf bs) :
    Calls Try.prog 44 #[.pointer (some ⟨g, 0, none⟩), .int .i64 f, .int .i64 m] w fun e w' => e = .returned (.int .i64 (if hasF nf f && hasF nf m then 0 else 1)) ∧ StoreAt w' g b each nf (copyB nf bs f m) ∧ Ch [b] w w' := by
  unfold copyB
  by_cases hf : 0 ≤ f ∧ f < (nf : Int)
  · have h1 : hasF nf f = true := decide_eq_true hf
    by_cases hm : 0 ≤ m ∧ m < (nf : Int)
    · have h2 : hasF nf m = true := decide_eq_true hm
      rw [h1, h2]
      obtain ⟨f, rfl⟩ := Int.eq_ofNat_of_zero_le hf.1
      obtain ⟨m, rfl⟩ := Int.eq_ofNat_of_zero_le hm.1
      exact fr_copy g b each nf bs f m w hG (by omega) (by omega)
    · have h2 : hasF nf m = false := decide_eq_false hm
      rw [h1, h2]
      obtain ⟨f, rfl⟩ := Int.eq_ofNat_of_zero_le hf.1
      exact (fr_copy_to g b each nf bs f m w hG (by omega) (by omega)).mono fun e w' ⟨h1, h2⟩ => ⟨h1, h2 ▸ hG, h2 ▸ Ch.refl _ _⟩
  · have h1 : hasF nf f = false := decide_eq_false hf
    rw [h1]
    exact (fr_copy_from g b each nf bs f m w hG (by omega)).mono fun e w' ⟨h1, h2⟩ => ⟨h1, h2 ▸ hG, h2 ▸ Ch.refl _ _⟩
theorem fr_clear_any (g b each nf : Nat) (bs : List Int) (f : Int) (w : World) (hG : StoreAt w g b each nf bs) :
    Calls Try.prog 45 #[.pointer (some ⟨g, 0, none⟩), .int .i64 f] w fun e w' => e = .returned (.int .i64 (if hasF nf f then 0 else 1)) ∧ StoreAt w' g b each nf (clearB nf bs f) ∧ Ch [b] w w' := by
  unfold clearB
  by_cases hf : 0 ≤ f ∧ f < (nf : Int)
  · have h1 : hasF nf f = true := decide_eq_true hf
    rw [h1]
    obtain ⟨f, rfl⟩ := Int.eq_ofNat_of_zero_le hf.1
    exact fr_clear g b each nf bs f w hG (by omega)
  · have h1 : hasF nf f = false := decide_eq_false hf
    rw [h1]
    exact (fr_clear_no g b each nf bs f w hG (by omega)).mono fun e w' ⟨h1, h2⟩ => ⟨h1, h2 ▸ hG, h2 ▸ Ch.refl _ _⟩
end Go.Proofs.Ytkjhodaglanpmaa
