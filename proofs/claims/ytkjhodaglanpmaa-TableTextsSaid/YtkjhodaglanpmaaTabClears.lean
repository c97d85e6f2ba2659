/- The laws of layer 6 (table): TableClears, TableSwaps, TableTexts. -/
import Derived.Test.YtkjhodaglanpmaaTabII
import Derived.Test.YtkjhodaglanpmaaTabSI
import Derived.Test.YtkjhodaglanpmaaTabIS
import Derived.Test.YtkjhodaglanpmaaArgs
namespace Go.Proofs.Ytkjhodaglanpmaa
open Go.RowKit
set_option linter.unusedVariables false
set_option linter.unusedSimpArgs false

set_option maxHeartbeats 1000000 in
theorem tables_any (w : World) : Calls Try.prog 18 #[] w fun e w' => e = .returned (.bool true) ∧ Below w.heap.size w w' := by
  go_enter Try.func18, Try.ntmps18
  go_wp2_with fail
  refine (tIS_New w).mono ?_; rintro e w1 ⟨g, bt, bf, rfl, hg, hbt, hbf, hT, hB⟩
  go_wp2_with fail
  refine (tIS_Map_yes g bt bf [] [] 1 ⟨#[97]⟩ _ hT rfl rfl).mono ?_; rintro e w2 ⟨rfl, hT, hc⟩
  have hB := bel_ch hB hc (by simp; omega)
  go_wp2_with fail
  refine (tIS_Remap_yes g bt bf _ _ 1 ⟨#[98]⟩ ⟨#[97]⟩ _ hT (by decide) (by decide)).mono ?_; rintro e w3 ⟨rfl, hT, hc⟩
  have hB := bel_ch hB hc (by simp; omega)
  rw [show mput (mput ([] : List (Int × ByteArray)) 1 ⟨#[97]⟩) 1 ⟨#[98]⟩ = [(1, ⟨#[98]⟩)] by decide, show mput (mdel (mput ([] : List (ByteArray × Int)) ⟨#[97]⟩ 1) ⟨#[97]⟩) ⟨#[98]⟩ 1 = [(⟨#[98]⟩, 1)] by decide] at hT
  go_wp2_with fail
  refine (tIS_From g bt bf _ _ ⟨#[97]⟩ _ hT).mono ?_; rintro e w4 ⟨rfl, rfl⟩
  rw [show mget [((⟨#[98]⟩ : ByteArray), (1 : Int))] ⟨#[97]⟩ = none by decide]
  go_wp2_with fail
  refine (tIS_From g bt bf _ _ ⟨#[98]⟩ _ hT).mono ?_; rintro e w5 ⟨rfl, rfl⟩
  rw [show mget [((⟨#[98]⟩ : ByteArray), (1 : Int))] ⟨#[98]⟩ = some 1 by decide]
  go_wp2_with fail
  refine (tIS_Len g bt bf _ _ _ hT).mono ?_; rintro e w6 ⟨rfl, rfl⟩
  go_wp2
  go_ret
  exact ⟨rfl, hB⟩

/-- Pages lo to hi - 1, each on the frame 100 behind it. -/
structure Inv1 (lo hi : Int) (mt mf : List (Int × Int)) : Prop where
  to_ : ∀ a, mget mt a = if lo ≤ a ∧ a < hi then some (100 + a) else none
  fr : ∀ b, mget mf b = if 100 + lo ≤ b ∧ b < 100 + hi then some (b - 100) else none
  len : (mt.length : Int) = hi - lo
theorem Inv1.nil : Inv1 0 0 [] [] := ⟨fun a => by rw [if_neg (by omega)]; rfl, fun b => by rw [if_neg (by omega)]; rfl, rfl⟩
theorem Inv1.put {hi : Int} {mt mf : List (Int × Int)} (h : Inv1 0 hi mt mf) (h0 : 0 ≤ hi) : mget mt hi = none ∧ mget mf (100 + hi) = none ∧ Inv1 0 (hi + 1) (mput mt hi (100 + hi)) (mput mf (100 + hi) hi) := by
  have e1 : mget mt hi = none := by rw [h.to_, if_neg (by omega)]
  have e2 : mget mf (100 + hi) = none := by rw [h.fr, if_neg (by omega)]
  refine ⟨e1, e2, fun a => ?_, fun b => ?_, ?_⟩
  · rw [mget_put, h.to_]
    by_cases e : hi = a
    · subst e; rw [if_pos rfl, if_pos (by omega)]
    · rw [if_neg e]
      by_cases c : 0 ≤ a ∧ a < hi
      · rw [if_pos c, if_pos (by omega)]
      · rw [if_neg c, if_neg (by omega)]
  · rw [mget_put, h.fr]
    by_cases e : 100 + hi = b
    · subst e; rw [if_pos rfl, if_pos (by omega)]; congr 1; omega
    · rw [if_neg e]
      by_cases c : 100 + 0 ≤ b ∧ b < 100 + hi
      · rw [if_pos c, if_pos (by omega)]
      · rw [if_neg c, if_neg (by omega)]
  · rw [length_mput, e1]
    have := h.len
    simp
    omega
theorem Inv1.del {lo hi : Int} {mt mf : List (Int × Int)} (h : Inv1 lo hi mt mf) (hl : lo < hi) (hnd : (mt.map (·.1)).Nodup) : mget mt lo = some (100 + lo) ∧ Inv1 (lo + 1) hi (mdel mt lo) (mdel mf (100 + lo)) := by
  have e1 : mget mt lo = some (100 + lo) := by rw [h.to_, if_pos (by omega)]
  refine ⟨e1, fun a => ?_, fun b => ?_, ?_⟩
  · rw [mget_del, h.to_]
    by_cases e : lo = a
    · subst e; rw [if_pos rfl, if_neg (by omega)]
    · rw [if_neg e]
      by_cases c : lo ≤ a ∧ a < hi
      · rw [if_pos c, if_pos (by omega)]
      · rw [if_neg c, if_neg (by omega)]
  · rw [mget_del, h.fr]
    by_cases e : 100 + lo = b
    · subst e; rw [if_pos rfl, if_neg (by omega)]
    · rw [if_neg e]
      by_cases c : 100 + lo ≤ b ∧ b < 100 + hi
      · rw [if_pos c, if_pos (by omega)]
      · rw [if_neg c, if_neg (by omega)]
  · rw [length_mdel _ _ hnd, e1]
    have := h.len
    simp
    omega
/-- The other way about: page n - 1 - j on frame 100 + j. -/
structure Inv2 (n i : Int) (mt mf : List (Int × Int)) : Prop where
  to_ : ∀ a, mget mt a = if n - 1 - i < a ∧ a ≤ n - 1 then some (100 + (n - 1 - a)) else none
  fr : ∀ b, mget mf b = if 100 ≤ b ∧ b < 100 + i then some (n - 1 - (b - 100)) else none
  len : (mt.length : Int) = i
theorem Inv2.start {n : Int} {mt mf : List (Int × Int)} (h : Inv1 n n mt mf) : Inv2 n 0 mt mf :=
  ⟨fun a => by rw [h.to_, if_neg (by omega), if_neg (by omega)], fun b => by rw [h.fr, if_neg (by omega), if_neg (by omega)], by have := h.len; omega⟩
theorem Inv2.put {n i : Int} {mt mf : List (Int × Int)} (h : Inv2 n i mt mf) (h0 : 0 ≤ i) (h1 : i < n) : mget mt (n - 1 - i) = none ∧ mget mf (100 + i) = none ∧ Inv2 n (i + 1) (mput mt (n - 1 - i) (100 + i)) (mput mf (100 + i) (n - 1 - i)) := by
  have e1 : mget mt (n - 1 - i) = none := by rw [h.to_, if_neg (by omega)]
  have e2 : mget mf (100 + i) = none := by rw [h.fr, if_neg (by omega)]
  refine ⟨e1, e2, fun a => ?_, fun b => ?_, ?_⟩
  · rw [mget_put, h.to_]
    by_cases e : n - 1 - i = a
    · rw [if_pos e, if_pos (by omega)]; congr 1; omega
    · rw [if_neg e]
      by_cases c : n - 1 - i < a ∧ a ≤ n - 1
      · rw [if_pos c, if_pos (by omega)]
      · rw [if_neg c, if_neg (by omega)]
  · rw [mget_put, h.fr]
    by_cases e : 100 + i = b
    · rw [if_pos e, if_pos (by omega)]; congr 1; omega
    · rw [if_neg e]
      by_cases c : 100 ≤ b ∧ b < 100 + i
      · rw [if_pos c, if_pos (by omega)]
      · rw [if_neg c, if_neg (by omega)]
  · rw [length_mput, e1]
    have := h.len
    simp
    omega
theorem TwoII.nodup {w : World} {g bt bf : Nat} {mt mf : List (Int × Int)} (h : TwoII w g bt bf mt mf) : (mt.map (·.1)).Nodup := by
  have := h.to_.nd
  rw [List.map_map] at this
  exact this

set_option maxHeartbeats 2000000 in
theorem clears_a (w0 : World) (a : Option Addr) (len cap : Nat) (hl : len ≤ 20) : Calls Try.prog 7 #[.slice a len cap] w0 fun e w' => e = .returned (.bool true) ∧ Below w0.heap.size w0 w' := by
  go_enter Try.func7, Try.ntmps7
  go_wp2_with fail
  refine (tII_New w0).mono ?_; rintro e w1 ⟨g, bt, bf, rfl, hg, hbt, hbf, hT, hB⟩
  go_wp2_with fail
  refine (tables_any w1).mono ?_; rintro e w2 ⟨rfl, hB2⟩
  have hT := hT.below hB2
  have hB := bel_trans hB hB2
  clear hB2
  go_wp2_with fail
  go_loopw [5] (fun i wr => ∃ (k : Int) (mt mf : List (Int × Int)), 0 ≤ k ∧ k ≤ (len : Int) ∧ i = .int .i64 k ∧ TwoII wr g bt bf mt mf ∧ Inv1 0 k mt mf ∧ Below w0.heap.size w0 wr) (fun i _ => ((len : Int) - intOf i).toNat)
  case atStart => exact ⟨0, [], [], by omega, by omega, rfl, hT, Inv1.nil, hB⟩
  case round =>
    obtain ⟨k, mt, mf, hk0, hk, rfl, hT, hI, hB⟩ := hrel
    have HI := Lib.hid hI; clear hI
    by_cases hlt : k < (len : Int)
    · obtain ⟨e1, e2, hI2⟩ := HI.out.put hk0
      have HI2 := Lib.hid hI2; have E1 := Lib.hid e1; have E2 := Lib.hid e2; clear hI2 e1 e2
      go_wp2_with fail
      refine (tII_Map_yes g bt bf mt mf k (100 + k) wr hT E1.out E2.out).mono ?_; rintro e w3 ⟨rfl, hT3, hc3⟩
      have hB3 := bel_ch hB hc3 (by simp; omega)
      go_wp2
      go_roundw
      case rel => exact ⟨k + 1, _, _, by omega, by omega, rfl, hT3, HI2.out, hB3⟩
      case measure => simp [intOf]; omega
    · have hkn : k = (len : Int) := by omega
      subst hkn
      go_wp2_with fail
      go_loopw [6] (fun i wr => ∃ (k : Int) (mt mf : List (Int × Int)), 0 ≤ k ∧ k ≤ (len : Int) ∧ i = .int .i64 k ∧ TwoII wr g bt bf mt mf ∧ Inv1 k (len : Int) mt mf ∧ Below w0.heap.size w0 wr) (fun i _ => ((len : Int) - intOf i).toNat)
      case atStart => exact ⟨0, mt, mf, by omega, by omega, rfl, hT, HI.out, hB⟩
      case round =>
        clear hT HI hB hlt hk0 hk
        obtain ⟨k, mt, mf, hk0, hk, rfl, hT, hI, hB⟩ := hrel
        have HI := Lib.hid hI; clear hI
        by_cases hlt : k < (len : Int)
        · obtain ⟨e1, hI2⟩ := HI.out.del hlt hT.nodup
          have e3 : mget (mdel mt k) k = none := by rw [mget_del, if_pos rfl]
          have e4 : mget (mdel mf (100 + k)) (100 + k) = none := by rw [mget_del, if_pos rfl]
          have e5 : (((mdel mt k).length : Nat) : Int) = (len : Int) - 1 - k := by rw [hI2.len]; omega
          have HI2 := Lib.hid hI2; have E1 := Lib.hid e1; have E3 := Lib.hid e3; have E4 := Lib.hid e4; have E5 := Lib.hid e5; clear hI2 e1 e3 e4 e5
          go_wp2_with fail
          refine (tII_Unmap_yes g bt bf mt mf k (100 + k) wr hT E1.out).mono ?_; rintro e w3 ⟨rfl, hT3, hc3⟩
          have hB3 := bel_ch hB hc3 (by simp; omega)
          go_wp2_with fail
          refine (tII_To g bt bf _ _ k w3 hT3).mono ?_; rintro e w4 ⟨rfl, rfl⟩
          rw [E3.out]
          go_wp2_with fail
          refine (tII_From g bt bf _ _ (100 + k) w3 hT3).mono ?_; rintro e w4 ⟨rfl, rfl⟩
          rw [E4.out]
          go_wp2_with fail
          refine (tII_Len g bt bf _ _ w3 hT3).mono ?_; rintro e w4 ⟨rfl, rfl⟩
          rw [E5.out]
          go_wp2
          go_roundw
          case rel => exact ⟨k + 1, _, _, by omega, by omega, rfl, hT3, HI2.out, hB3⟩
          case measure => simp [intOf]; omega
        · have hkn : k = (len : Int) := by omega
          subst hkn
          have hI2 := Inv2.start HI.out
          go_wp2_with fail
          go_loopw [13] (fun i wr => ∃ (k : Int) (mt mf : List (Int × Int)), 0 ≤ k ∧ k ≤ (len : Int) ∧ i = .int .i64 k ∧ TwoII wr g bt bf mt mf ∧ Inv2 (len : Int) k mt mf ∧ Below w0.heap.size w0 wr) (fun i _ => ((len : Int) - intOf i).toNat)
          case atStart => exact ⟨0, mt, mf, by omega, by omega, rfl, hT, hI2, hB⟩
          case round =>
            clear hT HI hB hlt hk0 hk hI2
            obtain ⟨k, mt, mf, hk0, hk, rfl, hT, hI, hB⟩ := hrel
            have HI := Lib.hid hI; clear hI
            by_cases hlt : k < (len : Int)
            · obtain ⟨e1, e2, hI2⟩ := HI.out.put hk0 hlt
              have HI2 := Lib.hid hI2; have E1 := Lib.hid e1; have E2 := Lib.hid e2; clear hI2 e1 e2
              go_wp2_with fail
              refine (tII_Map_yes g bt bf mt mf ((len : Int) - 1 - k) (100 + k) wr hT E1.out E2.out).mono ?_; rintro e w3 ⟨rfl, hT3, hc3⟩
              have hB3 := bel_ch hB hc3 (by simp; omega)
              go_wp2
              go_roundw
              case rel => exact ⟨k + 1, _, _, by omega, by omega, rfl, hT3, HI2.out, hB3⟩
              case measure => simp [intOf]; omega
            · have hkn : k = (len : Int) := by omega
              subst hkn
              have e5 := HI.out.len
              have E5 := Lib.hid e5; clear e5
              go_wp2_with fail
              refine (tII_Len g bt bf _ _ wr hT).mono ?_; rintro e w4 ⟨rfl, rfl⟩
              rw [E5.out]
              go_wp2
              go_ret
              exact ⟨rfl, hB⟩

set_option maxHeartbeats 2000000 in
theorem clears_b (w0 : World) (a : Option Addr) (len cap : Nat) (hl : 20 < len) : Calls Try.prog 7 #[.slice a len cap] w0 fun e w' => e = .returned (.bool true) ∧ Below w0.heap.size w0 w' := by
  go_enter Try.func7, Try.ntmps7
  go_wp2_with fail
  refine (tII_New w0).mono ?_; rintro e w1 ⟨g, bt, bf, rfl, hg, hbt, hbf, hT, hB⟩
  go_wp2_with fail
  refine (tables_any w1).mono ?_; rintro e w2 ⟨rfl, hB2⟩
  have hT := hT.below hB2
  have hB := bel_trans hB hB2
  clear hB2
  go_wp2_with fail
  go_loopw [5] (fun i wr => ∃ (k : Int) (mt mf : List (Int × Int)), 0 ≤ k ∧ k ≤ (20 : Int) ∧ i = .int .i64 k ∧ TwoII wr g bt bf mt mf ∧ Inv1 0 k mt mf ∧ Below w0.heap.size w0 wr) (fun i _ => ((20 : Int) - intOf i).toNat)
  case atStart => exact ⟨0, [], [], by omega, by omega, rfl, hT, Inv1.nil, hB⟩
  case round =>
    obtain ⟨k, mt, mf, hk0, hk, rfl, hT, hI, hB⟩ := hrel
    have HI := Lib.hid hI; clear hI
    by_cases hlt : k < (20 : Int)
    · obtain ⟨e1, e2, hI2⟩ := HI.out.put hk0
      have HI2 := Lib.hid hI2; have E1 := Lib.hid e1; have E2 := Lib.hid e2; clear hI2 e1 e2
      go_wp2_with fail
      refine (tII_Map_yes g bt bf mt mf k (100 + k) wr hT E1.out E2.out).mono ?_; rintro e w3 ⟨rfl, hT3, hc3⟩
      have hB3 := bel_ch hB hc3 (by simp; omega)
      go_wp2
      go_roundw
      case rel => exact ⟨k + 1, _, _, by omega, by omega, rfl, hT3, HI2.out, hB3⟩
      case measure => simp [intOf]; omega
    · have hkn : k = (20 : Int) := by omega
      subst hkn
      go_wp2_with fail
      go_loopw [6] (fun i wr => ∃ (k : Int) (mt mf : List (Int × Int)), 0 ≤ k ∧ k ≤ (20 : Int) ∧ i = .int .i64 k ∧ TwoII wr g bt bf mt mf ∧ Inv1 k (20 : Int) mt mf ∧ Below w0.heap.size w0 wr) (fun i _ => ((20 : Int) - intOf i).toNat)
      case atStart => exact ⟨0, mt, mf, by omega, by omega, rfl, hT, HI.out, hB⟩
      case round =>
        clear hT HI hB hlt hk0 hk
        obtain ⟨k, mt, mf, hk0, hk, rfl, hT, hI, hB⟩ := hrel
        have HI := Lib.hid hI; clear hI
        by_cases hlt : k < (20 : Int)
        · obtain ⟨e1, hI2⟩ := HI.out.del hlt hT.nodup
          have e3 : mget (mdel mt k) k = none := by rw [mget_del, if_pos rfl]
          have e4 : mget (mdel mf (100 + k)) (100 + k) = none := by rw [mget_del, if_pos rfl]
          have e5 : (((mdel mt k).length : Nat) : Int) = (20 : Int) - 1 - k := by rw [hI2.len]; omega
          have HI2 := Lib.hid hI2; have E1 := Lib.hid e1; have E3 := Lib.hid e3; have E4 := Lib.hid e4; have E5 := Lib.hid e5; clear hI2 e1 e3 e4 e5
          go_wp2_with fail
          refine (tII_Unmap_yes g bt bf mt mf k (100 + k) wr hT E1.out).mono ?_; rintro e w3 ⟨rfl, hT3, hc3⟩
          have hB3 := bel_ch hB hc3 (by simp; omega)
          go_wp2_with fail
          refine (tII_To g bt bf _ _ k w3 hT3).mono ?_; rintro e w4 ⟨rfl, rfl⟩
          rw [E3.out]
          go_wp2_with fail
          refine (tII_From g bt bf _ _ (100 + k) w3 hT3).mono ?_; rintro e w4 ⟨rfl, rfl⟩
          rw [E4.out]
          go_wp2_with fail
          refine (tII_Len g bt bf _ _ w3 hT3).mono ?_; rintro e w4 ⟨rfl, rfl⟩
          rw [E5.out]
          go_wp2
          go_roundw
          case rel => exact ⟨k + 1, _, _, by omega, by omega, rfl, hT3, HI2.out, hB3⟩
          case measure => simp [intOf]; omega
        · have hkn : k = (20 : Int) := by omega
          subst hkn
          have hI2 := Inv2.start HI.out
          go_wp2_with fail
          go_loopw [13] (fun i wr => ∃ (k : Int) (mt mf : List (Int × Int)), 0 ≤ k ∧ k ≤ (20 : Int) ∧ i = .int .i64 k ∧ TwoII wr g bt bf mt mf ∧ Inv2 (20 : Int) k mt mf ∧ Below w0.heap.size w0 wr) (fun i _ => ((20 : Int) - intOf i).toNat)
          case atStart => exact ⟨0, mt, mf, by omega, by omega, rfl, hT, hI2, hB⟩
          case round =>
            clear hT HI hB hlt hk0 hk hI2
            obtain ⟨k, mt, mf, hk0, hk, rfl, hT, hI, hB⟩ := hrel
            have HI := Lib.hid hI; clear hI
            by_cases hlt : k < (20 : Int)
            · obtain ⟨e1, e2, hI2⟩ := HI.out.put hk0 hlt
              have HI2 := Lib.hid hI2; have E1 := Lib.hid e1; have E2 := Lib.hid e2; clear hI2 e1 e2
              go_wp2_with fail
              refine (tII_Map_yes g bt bf mt mf ((20 : Int) - 1 - k) (100 + k) wr hT E1.out E2.out).mono ?_; rintro e w3 ⟨rfl, hT3, hc3⟩
              have hB3 := bel_ch hB hc3 (by simp; omega)
              go_wp2
              go_roundw
              case rel => exact ⟨k + 1, _, _, by omega, by omega, rfl, hT3, HI2.out, hB3⟩
              case measure => simp [intOf]; omega
            · have hkn : k = (20 : Int) := by omega
              subst hkn
              have e5 := HI.out.len
              have E5 := Lib.hid e5; clear e5
              go_wp2_with fail
              refine (tII_Len g bt bf _ _ wr hT).mono ?_; rintro e w4 ⟨rfl, rfl⟩
              rw [E5.out]
              go_wp2
              go_ret
              exact ⟨rfl, hB⟩

theorem clears_walk (w0 : World) (a : Option Addr) (len cap : Nat) (zs : List Int) (hz : InInts .i64 w0 a len zs) (hy : len * 8 ≤ 140737488351232) : Calls Try.prog 7 #[.slice a len cap] w0 fun e w' => e = .returned (.bool true) ∧ Below w0.heap.size w0 w' := by
  by_cases h : len ≤ 20
  · exact clears_a w0 a len cap h
  · exact clears_b w0 a len cap (by omega)
end Go.Proofs.Ytkjhodaglanpmaa
