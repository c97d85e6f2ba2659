/- The reference's store (layer 5): DocSave, DocLoad. -/
import Derived.Test.YtkjhodaglanpmaaFramesRef
namespace Go.Proofs.Ytkjhodaglanpmaa
open Go.RowKit
set_option linter.unusedVariables false
set_option linter.unusedSimpArgs false
attribute [local go_sem] World.cell?_alloc_lt

theorem Ch.keep {w w' : World} {S : List Nat} {b o : Nat} {v : Value} (k : Ch S w w') (hn : b ∉ S) (h : w.cell? ⟨b, o, none⟩ = some v) : w'.cell? ⟨b, o, none⟩ = some v := by
  have hb := World.block_lt_of_cell? w _ h
  rw [← h]
  exact World.cell?_of_block (k.block b hb hn)
theorem putL_succ (bs us : List Int) (o i : Nat) (u : Int) (hu : us[i]? = some u) (ho : o + us.length ≤ bs.length) : putL bs o (us.take (i + 1)) = (putL bs o (us.take i)).set (o + i) u := by
  obtain ⟨hi, hx⟩ := List.getElem?_eq_some_iff.1 hu
  have l1 : (us.take (i + 1)).length = i + 1 := by rw [List.length_take]; omega
  have l2 : (us.take i).length = i := by rw [List.length_take]; omega
  apply List.ext_getElem?
  intro j
  rw [putL_get _ _ _ _ (by omega), l1]
  by_cases e : o + i = j
  · subst e
    rw [List.getElem?_set_self (by rw [putL_len]; omega), if_pos (by omega), show o + i - o = i from by omega, List.getElem?_take, if_pos (by omega), hu]
  · rw [List.getElem?_set_ne e, putL_get _ _ _ _ (by omega), l2]
    by_cases h : o ≤ j ∧ j < o + i
    · rw [if_pos (by omega), if_pos h, List.getElem?_take, List.getElem?_take, if_pos (by omega), if_pos (by omega)]
    · rw [if_neg (by omega), if_neg h]
theorem RefS.set_ {w : World} {r tb nodes each : Nat} {bs : List Int} (h : RefS w r tb nodes each bs) (k : Nat) (u : Int) : RefS (w.setCell ⟨tb, k, none⟩ (.int .u8 u)) r tb nodes each (bs.set k u) :=
  ⟨by rw [List.length_set]; exact h.st.far (p := ⟨tb, k, none⟩) (h.st.ne_ h.dt (by decide)) _, by rw [List.map_set]; exact h.dt.set_ _ _, by rw [List.length_set]; exact h.ln, h.mx⟩
theorem idx_b (b off len cap i : Nat) (hi : i < len) (w : World) : (Instr.indexAt 50 (.slice (some ⟨b, off, none⟩) len cap) (.int .i64 (i : Int))).run Try.prog w = .ok (.pointer (some ⟨b, off + i, none⟩)) w := by
  simp [go_sem, hi]
theorem idx_b0 (b len i : Nat) (hi : i < len) (w : World) : (Instr.indexAt 50 (.slice (some ⟨b, 0, none⟩) len len) (.int .i64 (i : Int))).run Try.prog w = .ok (.pointer (some ⟨b, i, none⟩)) w := by
  simp [go_sem, hi]
set_option maxRecDepth 100000 in
theorem rs_save_no (r tb nodes each : Nat) (bs : List Int) (f at_ : Int) (A : Option Addr) (m mc : Nat) (w : World) (hR : RefS w r tb nodes each bs) (h : partE (nodes * each) f at_ (m : Int) ≠ 0) (hm : m ≤ 9223372036854775807) :
    Calls Try.prog 47 #[.pointer (some ⟨r, 0, none⟩), .int .i64 f, .int .i64 at_, .slice A m mc] w fun e w' => e = .returned (.int .i64 (partE (nodes * each) f at_ m)) ∧ Below w.heap.size w w' := by
  rcases partE_cases (nodes * each) f at_ m with h1 | ⟨f, rfl, hf, h1⟩ | ⟨f, a, m', rfl, rfl, hme, hf, h1⟩
  · rw [partE_frame h1]
    have hh := rs_has r tb nodes each bs f w hR
    rw [show hasF (nodes * each) f = false from decide_eq_false (by omega)] at hh
    have HH := Lib.hid hh; clear hh h
    go_enter Try.func47, Try.ntmps47
    go_wp2_with fail
    refine HH.out.mono ?_; rintro e w1 ⟨rfl, n1, hn1⟩
    have hb := bel_quiet ⟨n1, hn1⟩
    clear hn1
    go_wp2_with fail
    go_ret
    exact ⟨rfl, hb⟩
  · rw [partE_bound hf h1]
    have hh := rs_has r tb nodes each bs (f : Int) w hR
    rw [show hasF (nodes * each) (f : Int) = true from decide_eq_true (by omega)] at hh
    have HH := Lib.hid hh; clear hh h
    rcases (by omega : at_ < 0 ∨ (0 ≤ at_ ∧ 64 < at_) ∨ (0 ≤ at_ ∧ at_ ≤ 64 ∧ 64 - at_ < (m : Int))) with h | ⟨h, h2⟩ | ⟨h, h2, h3⟩
    all_goals
      go_enter Try.func47, Try.ntmps47
      go_wp2_with fail
      refine HH.out.mono ?_; rintro e w1 ⟨rfl, n1, hn1⟩
      have hb := bel_quiet ⟨n1, hn1⟩
      clear hn1
      go_wp2_with fail
      go_ret
      exact ⟨rfl, hb⟩
  · exact absurd (partE_zero hf (show a + m ≤ 64 by omega)) h
set_option maxRecDepth 100000 in
set_option maxHeartbeats 1000000 in
theorem rs_save (r tb nodes each : Nat) (bs : List Int) (f at_ : Nat) (A : Option Addr) (m mc : Nat) (us : List Int) (w : World) (hR : RefS w r tb nodes each bs) (hf : f < nodes * each) (hat : at_ + m ≤ 64) (hI : InB w A m us) (hne : ∀ b off, A = some ⟨b, off, none⟩ → b ≠ tb) :
    Calls Try.prog 47 #[.pointer (some ⟨r, 0, none⟩), .int .i64 f, .int .i64 at_, .slice A m mc] w fun e w' => e = .returned (.int .i64 0) ∧ RefS w' r tb nodes each (putL bs (f * 64 + at_) us) ∧ Ch [tb] w w' := by
  have hh := rs_has r tb nodes each bs (f : Int) w hR
  rw [show hasF (nodes * each) (f : Int) = true from decide_eq_true (by omega)] at hh
  have HH := Lib.hid hh; clear hh
  have hul := hI.ln
  have hmx := hR.mx
  have hbl := hR.ln
  go_enter Try.func47, Try.ntmps47
  go_wp2_with fail
  refine HH.out.mono ?_; rintro e w1 ⟨rfl, n1, hn1⟩
  have hR1 := hR.below (bel_quiet ⟨n1, hn1⟩)
  have hI1 := hI.below (bel_quiet ⟨n1, hn1⟩)
  have hC1 : Ch [tb] w w1 := Ch.below (bel_quiet ⟨n1, hn1⟩) _
  clear hn1 hR hI HH
  go_wp2_with fail
  go_loopw [9] (fun vi wx => ∃ i : Nat, i ≤ m ∧ vi = .int .i64 i ∧ RefS wx r tb nodes each (putL bs (f * 64 + at_) (us.take i)) ∧ Ch [tb] w1 wx) (fun vi _ => m - (intOf vi).toNat)
  case atStart => exact ⟨0, by omega, rfl, hR1, Ch.refl _ _⟩
  case round =>
    clear hR1
    obtain ⟨i, hi, rfl, hR, hC⟩ := hrel
    by_cases him : i < m
    · obtain ⟨bx, ox, rfl, hbx, hcell⟩ := hI1.at_ (by omega)
      have hui : us[i]? = some (us[i]'(by omega)) := List.getElem?_eq_getElem (by omega)
      have kb := hcell i _ hui
      have kb := hC.keep (by simpa using hne bx ox rfl) kb
      have hps := putL_succ bs us (f * 64 + at_) i _ hui (by rw [hbl]; omega)
      generalize us[i]'(by omega) = u at *
      have k2 := hR.st.at_ (i := 2) rfl
      have hpl : (putL bs (f * 64 + at_) (us.take i)).length = bs.length := putL_len _ _ _
      generalize putL bs (f * 64 + at_) (us.take i) = bs1 at *
      have HPS := Lib.hid hps; clear hps hui hcell
      have hix := fun w => idx_b bx ox m mc i him w
      have hkk : f * 64 + at_ + i < bs1.length := by omega
      have hix2 := fun w => idx_b0 tb bs1.length (f * 64 + at_ + i) hkk w
      have kf := hR.dt.frozen (f * 64 + at_ + i)
      have kv := hR.dt.at_ (map_at (f := Value.int .u8) hkk 0)
      have hset := hR.set_ (f * 64 + at_ + i) u
      have HST := Lib.hid hset; clear hset
      obtain ⟨k, hk⟩ : ∃ k, f * 64 + at_ + i = k := ⟨_, rfl⟩
      rw [hk] at hix2 kf kv hkk HST HPS
      have hk64 : (64 : Int) * (f : Int) + (at_ : Int) + (i : Int) = (k : Int) := by omega
      have hkb : k ≤ 524288 := by omega
      have v1 : IntKind.i64.wrap ((64 : Int) * (f : Int)) = (64 : Int) * (f : Int) := i64_small (by omega) (by omega)
      have v2 : IntKind.i64.wrap ((64 : Int) * (f : Int) + (at_ : Int)) = (64 : Int) * (f : Int) + (at_ : Int) := i64_small (by omega) (by omega)
      have v3 : IntKind.i64.wrap (k : Int) = (k : Int) := i64_small (by omega) (by omega)
      have i1 : (0 : Int) ≤ k := by omega
      have i2 : (k : Int) < bs1.length := by omega
      have i3 : (0 : Int) ≤ i := by omega
      have i4 : (i : Int) < m := by omega
      clear hk hpl hR
      go_wp2_with fail
      go_still_tail 15, (by kernel_rfl)
      change wpList _ _ _ _ _ wr.drew
      go_wp2_with fail
      go_roundw
      case rel => exact ⟨i + 1, by omega, by go_num, by rw [HPS.out]; exact ⟨HST.out.st, HST.out.dt, HST.out.ln, HST.out.mx⟩, ((hC.drew).set (by simp) _)⟩
      case measure => simp [intOf]; omega
    · obtain rfl : i = m := by omega
      rw [List.take_of_length_le (by omega)] at hR
      go_wp2_with fail
      go_ret
      exact ⟨rfl, hR, hC1.trans hC⟩
set_option maxRecDepth 100000 in
theorem rs_load_no (r tb nodes each : Nat) (bs : List Int) (f at_ m : Int) (w : World) (hR : RefS w r tb nodes each bs) (h : partE (nodes * each) f at_ m ≠ 0) (hm : m ≤ 9223372036854775807) :
    Calls Try.prog 48 #[.pointer (some ⟨r, 0, none⟩), .int .i64 f, .int .i64 at_, .int .i64 m] w fun e w' => e = .returned (.tuple #[.slice none 0 0, .int .i64 (partE (nodes * each) f at_ m)]) ∧ Below w.heap.size w w' := by
  rcases partE_cases (nodes * each) f at_ m with h1 | ⟨f, rfl, hf, h1⟩ | ⟨f, a, m', rfl, rfl, rfl, hf, h1⟩
  · rw [partE_frame h1]
    have hh := rs_has r tb nodes each bs f w hR
    rw [show hasF (nodes * each) f = false from decide_eq_false (by omega)] at hh
    have HH := Lib.hid hh; clear hh h
    go_enter Try.func48, Try.ntmps48
    go_wp2_with fail
    refine HH.out.mono ?_; rintro e w1 ⟨rfl, n1, hn1⟩
    have hb := bel_quiet ⟨n1, hn1⟩
    clear hn1
    go_wp2_with fail
    go_ret2
    exact ⟨rfl, hb⟩
  · rw [partE_bound hf h1]
    have hh := rs_has r tb nodes each bs (f : Int) w hR
    rw [show hasF (nodes * each) (f : Int) = true from decide_eq_true (by omega)] at hh
    have HH := Lib.hid hh; clear hh h
    rcases (by omega : at_ < 0 ∨ (0 ≤ at_ ∧ 64 < at_) ∨ (0 ≤ at_ ∧ at_ ≤ 64 ∧ m < 0) ∨ (0 ≤ at_ ∧ at_ ≤ 64 ∧ 0 ≤ m ∧ 64 - at_ < m)) with h | ⟨h, h2⟩ | ⟨h, h2, h3⟩ | ⟨h, h2, h3, h4⟩
    all_goals
      go_enter Try.func48, Try.ntmps48
      go_wp2_with fail
      refine HH.out.mono ?_; rintro e w1 ⟨rfl, n1, hn1⟩
      have hb := bel_quiet ⟨n1, hn1⟩
      clear hn1
      go_wp2_with fail
      go_ret2
      exact ⟨rfl, hb⟩
  · exact absurd (partE_zero hf h1) h
end Go.Proofs.Ytkjhodaglanpmaa
