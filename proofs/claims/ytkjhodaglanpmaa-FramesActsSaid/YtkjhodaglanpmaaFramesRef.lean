/- The reference's store (layer 5); Save, Load, Copy, Clear of whatever. -/
import Derived.Test.YtkjhodaglanpmaaFramesCopies
import Derived.Test.YtkjhodaglanpmaaAfter
import Derived.Test.YtkjhodaglanpmaaGridRow
import Derived.Test.YtkjhodaglanpmaaReads
namespace Go.Proofs.Ytkjhodaglanpmaa
open Go.RowKit
set_option linter.unusedVariables false
set_option linter.unusedSimpArgs false
attribute [local go_sem] World.cell?_alloc_lt

theorem ret_bf {a b : Bool} (h : a = b) : Ending.returned (.bool a) = .returned (.bool b) := by rw [h]
/-- What a part's place answers: 0, no such frame, beyond its bytes. -/
def partE (nf : Nat) (f at_ m : Int) : Int := if 0 ≤ f ∧ f < (nf : Int) then (if at_ < 0 ∨ m < 0 ∨ 64 < at_ ∨ 64 - at_ < m then 7 else 0) else 1
theorem partE_ok {nf : Nat} {f at_ m : Int} (h : partE nf f at_ m = 0) : ∃ f' a' m' : Nat, f = (f' : Int) ∧ at_ = (a' : Int) ∧ m = (m' : Int) ∧ f' < nf ∧ a' + m' ≤ 64 := by
  unfold partE at h
  split at h
  · split at h
    · omega
    · obtain ⟨f', rfl⟩ := Int.eq_ofNat_of_zero_le (show 0 ≤ f by omega)
      obtain ⟨a', rfl⟩ := Int.eq_ofNat_of_zero_le (show 0 ≤ at_ by omega)
      obtain ⟨m', rfl⟩ := Int.eq_ofNat_of_zero_le (show 0 ≤ m by omega)
      exact ⟨f', a', m', rfl, rfl, rfl, by omega, by omega⟩
  · omega
theorem partE_frame {nf : Nat} {f at_ m : Int} (h : f < 0 ∨ (nf : Int) ≤ f) : partE nf f at_ m = 1 := by unfold partE; rw [if_neg (by omega)]
theorem partE_bound {nf f : Nat} {at_ m : Int} (hf : f < nf) (h : at_ < 0 ∨ m < 0 ∨ 64 < at_ ∨ 64 - at_ < m) : partE nf f at_ m = 7 := by unfold partE; rw [if_pos (by omega), if_pos h]
theorem partE_zero {nf f a m : Nat} (hf : f < nf) (h : a + m ≤ 64) : partE nf f a m = 0 := by unfold partE; rw [if_pos (by omega), if_neg (by omega)]
theorem partE_cases (nf : Nat) (f at_ m : Int) : (f < 0 ∨ (nf : Int) ≤ f) ∨ (∃ f' : Nat, f = (f' : Int) ∧ f' < nf ∧ (at_ < 0 ∨ m < 0 ∨ 64 < at_ ∨ 64 - at_ < m)) ∨ (∃ f' a' m' : Nat, f = (f' : Int) ∧ at_ = (a' : Int) ∧ m = (m' : Int) ∧ f' < nf ∧ a' + m' ≤ 64) := by
  by_cases h : f < 0 ∨ (nf : Int) ≤ f
  · exact Or.inl h
  · obtain ⟨f', rfl⟩ := Int.eq_ofNat_of_zero_le (show 0 ≤ f by omega)
    by_cases h2 : at_ < 0 ∨ m < 0 ∨ 64 < at_ ∨ 64 - at_ < m
    · exact Or.inr (Or.inl ⟨f', rfl, by omega, h2⟩)
    · obtain ⟨a', rfl⟩ := Int.eq_ofNat_of_zero_le (show 0 ≤ at_ by omega)
      obtain ⟨m', rfl⟩ := Int.eq_ofNat_of_zero_le (show 0 ≤ m by omega)
      exact Or.inr (Or.inr ⟨f', a', m', rfl, rfl, rfl, by omega, by omega⟩)
set_option maxRecDepth 100000 in
theorem fr_part_frame (g b each nf : Nat) (bs : List Int) (n at_ m : Int) (w : World) (hG : StoreAt w g b each nf bs) (hn : n < 0 ∨ (nf : Int) ≤ n) :
    Calls Try.prog 67 #[.pointer (some ⟨g, 0, none⟩), .int .i64 n, .int .i64 at_, .int .i64 m] w fun e w' => e = .returned (.tuple #[.slice none 0 0, .int .i64 1]) ∧ w = w' := by
  go_enter Try.func67, Try.ntmps67
  go_wp2_with fail
  refine (fr_frame_no g b each nf bs n w hG hn).mono ?_; rintro e w1 ⟨rfl, rfl⟩
  go_wp2_with fail
  go_ret2
  exact ⟨rfl, rfl⟩
set_option maxRecDepth 100000 in
theorem fr_part_bound (g b each nf : Nat) (bs : List Int) (n : Nat) (at_ m : Int) (w : World) (hG : StoreAt w g b each nf bs) (hn : n < nf) (h : at_ < 0 ∨ m < 0 ∨ 64 < at_ ∨ 64 - at_ < m) (hm : m ≤ 9223372036854775807) :
    Calls Try.prog 67 #[.pointer (some ⟨g, 0, none⟩), .int .i64 n, .int .i64 at_, .int .i64 m] w fun e w' => e = .returned (.tuple #[.slice none 0 0, .int .i64 7]) ∧ w = w' := by
  rcases (by omega : at_ < 0 ∨ (0 ≤ at_ ∧ m < 0) ∨ (0 ≤ at_ ∧ 0 ≤ m ∧ 64 < at_) ∨ (0 ≤ at_ ∧ 0 ≤ m ∧ at_ ≤ 64 ∧ 64 - at_ < m)) with h | ⟨h, h2⟩ | ⟨h, h2, h3⟩ | ⟨h, h2, h3, h4⟩
  all_goals
    go_enter Try.func67, Try.ntmps67
    go_wp2_with fail
    refine (fr_frame g b each nf bs n w hG hn).mono ?_; rintro e w1 ⟨rfl, rfl⟩
    go_wp2_with fail
    go_ret2
    exact ⟨rfl, rfl⟩
set_option maxRecDepth 100000 in
theorem fr_load_no (g b each nf : Nat) (bs : List Int) (n at_ m : Int) (w : World) (hG : StoreAt w g b each nf bs) (h : partE nf n at_ m ≠ 0) (hm : m ≤ 9223372036854775807) :
    Calls Try.prog 32 #[.pointer (some ⟨g, 0, none⟩), .int .i64 n, .int .i64 at_, .int .i64 m] w fun e w' => e = .returned (.tuple #[.slice none 0 0, .int .i64 (partE nf n at_ m)]) ∧ w = w' := by
  have key : Calls Try.prog 67 #[.pointer (some ⟨g, 0, none⟩), .int .i64 n, .int .i64 at_, .int .i64 m] w fun e w' => e = .returned (.tuple #[.slice none 0 0, .int .i64 (partE nf n at_ m)]) ∧ w = w' := by
    rcases partE_cases nf n at_ m with h1 | ⟨f, rfl, hf, h1⟩ | ⟨f, a, m', rfl, rfl, rfl, hf, h1⟩
    · rw [partE_frame h1]; exact fr_part_frame g b each nf bs n at_ m w hG h1
    · rw [partE_bound hf h1]; exact fr_part_bound g b each nf bs f at_ m w hG hf h1 hm
    · exact absurd (partE_zero hf h1) h
  generalize partE nf n at_ m = pe at *
  have KEY := Lib.hid key; clear key h
  go_enter Try.func32, Try.ntmps32
  go_wp2_with fail
  refine KEY.out.mono ?_; rintro e w1 ⟨rfl, rfl⟩
  go_wp2_with fail
  refine (cloneB_nil w).mono ?_; rintro e w1 ⟨rfl, rfl⟩
  go_wp2_with fail
  go_ret2
  exact ⟨rfl, rfl⟩
set_option maxRecDepth 100000 in
theorem fr_save_no (g b each nf : Nat) (bs : List Int) (n at_ : Int) (A : Option Addr) (m mc : Nat) (w : World) (hG : StoreAt w g b each nf bs) (h : partE nf n at_ (m : Int) ≠ 0) (hm : m ≤ 9223372036854775807) :
    Calls Try.prog 31 #[.pointer (some ⟨g, 0, none⟩), .int .i64 n, .int .i64 at_, .slice A m mc] w fun e w' => e = .returned (.int .i64 (partE nf n at_ m)) ∧ w = w' := by
  have key : Calls Try.prog 67 #[.pointer (some ⟨g, 0, none⟩), .int .i64 n, .int .i64 at_, .int .i64 (m : Int)] w fun e w' => e = .returned (.tuple #[.slice none 0 0, .int .i64 (partE nf n at_ m)]) ∧ w = w' := by
    rcases partE_cases nf n at_ m with h1 | ⟨f, rfl, hf, h1⟩ | ⟨f, a, m', rfl, rfl, hme, hf, h1⟩
    · rw [partE_frame h1]; exact fr_part_frame g b each nf bs n at_ m w hG h1
    · rw [partE_bound hf h1]; exact fr_part_bound g b each nf bs f at_ m w hG hf h1 (by omega)
    · exact absurd (partE_zero hf (show a + m ≤ 64 by omega)) h
  have hcp := run_copy_none (P := Try.prog) w 50 50 3 5 none A 0 0 m mc Try.underlying50 (by kernel_rfl) (by simp)
  generalize partE nf n at_ m = pe at *
  have KEY := Lib.hid key; clear key h
  go_enter Try.func31, Try.ntmps31
  go_wp2_with fail
  refine KEY.out.mono ?_; rintro e w1 ⟨rfl, rfl⟩
  clear hG
  go_wp2_with fail
  go_ret
  exact ⟨rfl, rfl⟩
/-- The reference's store. -/
structure RefS (w : World) (r tb nodes each : Nat) (bs : List Int) : Prop where
  st : Blk w r 80 [.int .i64 nodes, .int .i64 each, .slice (some ⟨tb, 0, none⟩) bs.length bs.length]
  dt : Blk w tb 5 (bs.map (Value.int .u8))
  ln : bs.length = nodes * each * 64
  mx : nodes * each ≤ 8192
section
variable {w w' : World} {r tb nodes each : Nat} {bs : List Int}
theorem RefS.ch {S : List Nat} (h : RefS w r tb nodes each bs) (k : Ch S w w') (h1 : r ∉ S) (h2 : tb ∉ S) : RefS w' r tb nodes each bs := ⟨h.st.ch k h1, h.dt.ch k h2, h.ln, h.mx⟩
theorem RefS.below (h : RefS w r tb nodes each bs) (k : Below w.heap.size w w') : RefS w' r tb nodes each bs := ⟨h.st.below k, h.dt.below k, h.ln, h.mx⟩
theorem RefS.dn (h : RefS w r tb nodes each bs) (n : Nat) : RefS (w.drewN n) r tb nodes each bs := ⟨h.st, h.dt, h.ln, h.mx⟩
end
set_option maxRecDepth 100000 in
theorem rs_new (nodes each : Nat) (w : World) (h : nodes ≤ 8) (h2 : each ≤ 1024) :
    Calls Try.prog 46 #[.int .i64 nodes, .int .i64 each] w fun e w' => ∃ r tb, e = .returned (.pointer (some ⟨r, 0, none⟩)) ∧ w.heap.size ≤ r ∧ w.heap.size ≤ tb ∧ RefS w' r tb nodes each (List.replicate (nodes * each * 64) 0) ∧ Below w.heap.size w w' := by
  have hle : nodes * each ≤ 8192 := Nat.le_trans (Nat.mul_le_mul h h2) (by decide)
  have hm : (64 : Int) * (nodes : Int) * (each : Int) = ((nodes * each * 64 : Nat) : Int) := by
    rw [Int.natCast_mul, Int.natCast_mul, Int.mul_assoc, Int.mul_comm]
    rfl
  generalize hn : nodes * each = n at *
  have HN := Lib.hid hn; clear hn
  have m0 : (0 : Int) ≤ (64 : Int) * (nodes : Int) * (each : Int) := by omega
  have m1 : (64 : Int) * (nodes : Int) * (each : Int) ≤ 524288 := by omega
  have HM := Lib.hid hm; clear hm
  go_enter Try.func46, Try.ntmps46
  go_wp2_with (at_make; refine wpList_make_bytes _ rfl _ _ rfl _ _ _ _ (n * 64) rfl rfl HM.out HM.out (by omega) ?_)
  intro w1 hd hgr
  have hb : Below w.heap.size w w1 := (Below.refl _ _).grown hgr (Nat.le_refl _) (fun k h => by cases h)
  go_wp2
  go_ret
  refine ⟨w1.heap.size, w.heap.size, rfl, hb.size, Nat.le_refl _, ⟨?_, ?_, ?_, by rw [HN.out]; exact hle⟩, bel_alloc hb _⟩
  · rw [List.length_replicate]; exact Blk.new _ _ _
  · rw [List.map_replicate]; exact hd.alloc _
  · rw [List.length_replicate, HN.out]
def hasF (nf : Nat) (f : Int) : Bool := decide (0 ≤ f ∧ f < (nf : Int))
theorem rs_has (r tb nodes each : Nat) (bs : List Int) (f : Int) (w : World) (hR : RefS w r tb nodes each bs) :
    Calls Try.prog 49 #[.pointer (some ⟨r, 0, none⟩), .int .i64 f] w fun e w' => e = .returned (.bool (hasF (nodes * each) f)) ∧ ∃ n, w' = w.drewN n := by
  have k0 := hR.st.at_ (i := 0) rfl
  have k1 := hR.st.at_ (i := 1) rfl
  have hmx := hR.mx
  have hm : (nodes : Int) * (each : Int) = ((nodes * each : Nat) : Int) := by simp
  generalize nodes * each = nf at *
  have v1 : IntKind.i64.wrap (nf : Int) = nf := i64_small (by omega) (by omega)
  clear hR
  rcases (by omega : f < 0 ∨ (0 ≤ f ∧ (nf : Int) ≤ f) ∨ (0 ≤ f ∧ f < (nf : Int))) with h | ⟨h, h2⟩ | ⟨h, h2⟩
  · rw [show hasF nf f = false from decide_eq_false (by omega)]
    have d0 : decide (0 ≤ f) = false := decide_eq_false (by omega)
    go_enter Try.func49, Try.ntmps49
    go_wp2_with fail
    refine wp_region_quiet_lit (by kernel_rfl) (by kernel_rfl) ?_
    repeat (first | go_big_quiet_step (fail) | quiet_step (fail))
    refine wpQuiet_nil ?_; intro _ hw'; obtain ⟨nq, hw''⟩ := hw'; subst hw''
    go_wp2_with fail
    go_ret
    exact ⟨rfl, _, rfl⟩
  · rw [show hasF nf f = false from decide_eq_false (by omega)]
    have d0 : decide (0 ≤ f) = true := decide_eq_true (by omega)
    have d1 : decide (f < (nf : Int)) = false := decide_eq_false (by omega)
    go_enter Try.func49, Try.ntmps49
    go_wp2_with fail
    refine wp_region_quiet_lit (by kernel_rfl) (by kernel_rfl) ?_
    repeat (first | go_big_quiet_step (fail) | quiet_step (fail))
    refine wpQuiet_nil ?_; intro _ hw'; obtain ⟨nq, hw''⟩ := hw'; subst hw''
    go_wp2_with fail
    go_ret
    exact ⟨rfl, _, rfl⟩
  · rw [show hasF nf f = true from decide_eq_true (by omega)]
    have d0 : decide (0 ≤ f) = true := decide_eq_true (by omega)
    have d1 : decide (f < (nf : Int)) = true := decide_eq_true (by omega)
    go_enter Try.func49, Try.ntmps49
    go_wp2_with fail
    refine wp_region_quiet_lit (by kernel_rfl) (by kernel_rfl) ?_
    repeat (first | go_big_quiet_step (fail) | quiet_step (fail))
    refine wpQuiet_nil ?_; intro _ hw'; obtain ⟨nq, hw''⟩ := hw'; subst hw''
    go_wp2_with fail
    go_ret
    exact ⟨rfl, _, rfl⟩
end Go.Proofs.Ytkjhodaglanpmaa
