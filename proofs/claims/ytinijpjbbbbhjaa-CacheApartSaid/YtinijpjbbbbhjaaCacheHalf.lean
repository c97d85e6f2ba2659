/- The law CacheHalf. -/
import Derived.Test.YtinijpjbbbbhjaaCache
namespace Go.Proofs.Ytinijpjbbbbhjaa
open Go.RowKit
set_option linter.unusedVariables false
set_option linter.unusedSimpArgs false
attribute [local go_sem] World.cell?_alloc_lt

/-- n numbers from a on. -/
def ups (a : Nat) : Nat → List Int
  | 0 => []
  | n + 1 => ups a n ++ [((a + n : Nat) : Int)]
theorem ups_succ (a n : Nat) : ups a (n + 1) = ups a n ++ [((a + n : Nat) : Int)] := rfl
theorem ups_len (a n : Nat) : (ups a n).length = n := by
  induction n with
  | zero => rfl
  | succ n ih => rw [ups, List.length_append, ih]; rfl
theorem ups_at (a n i : Nat) (h : i < n) : (ups a n)[i]? = some ((a + i : Nat) : Int) := by
  induction n with
  | zero => omega
  | succ n ih =>
    rw [ups]
    by_cases hi : i < n
    · rw [List.getElem?_append_left (by rw [ups_len]; omega)]; exact ih hi
    · obtain rfl : i = n := by omega
      rw [List.getElem?_append_right (by rw [ups_len]; omega), ups_len, Nat.sub_self]
      rfl
theorem setX_self (X : Nat → List Int) (k : Nat) (xs : List Int) : setX X k xs k = xs := by simp [setX]
theorem setX_ne (X : Nat → List Int) (k i : Nat) (xs : List Int) (h : i ≠ k) : setX X k xs i = X i := by simp [setX, h]
theorem own_re {w : World} {base e s n : Nat} {v : Value} {xs : List Value} (h : w.ownsRow base e s v n xs) : w.ownsRow 0 e s v n xs := by
  refine ⟨h.1, ?_⟩
  rcases h.2 with h2 | ⟨g, cap, cur, hv, _, r⟩
  · exact Or.inl h2
  · exact Or.inr ⟨g, cap, cur, hv, Nat.zero_le _, r⟩
set_option maxRecDepth 100000 in
theorem caches_any (w0 : World) : Calls Try.prog 17 #[] w0 fun e w' => e = .returned (.bool true) ∧ Below w0.heap.size w0 w' := by
  go_enter Try.func17, Try.ntmps17
  go_wp2_with fail
  refine (ca_new w0).mono ?_; rintro e w1 ⟨rfl, hG, hB⟩
  have hb0 : w0.heap.size ≤ w0.heap.size := Nat.le_refl _
  generalize hH : w0.heap.size = H at hG hB ⊢
  generalize hg : H = g at *
  go_wp2_with fail
  go_loopw [2] (fun v wr => ∃ (j n : Nat) (vs : List Value) (X : Nat → List Int), n + 1 ≤ j ∧ j ≤ n + 1 ∧ j ≤ 4 ∧ v = .int .i64 j ∧ Four wr g 70 g vs X ∧ X 2 = ups 1 n ∧ Below g w0 wr) (fun v _ => 4 - (intOf v).toNat)
  case atStart => exact ⟨1, 0, _, _, by omega, by omega, by omega, rfl, hG, rfl, hB⟩
  case round =>
    clear hG hB
    obtain ⟨j, n, vs, X, hj1, hj2, hj4, rfl, hG, hX, hB⟩ := hrel
    have HX := Lib.hid hX; clear hX
    by_cases hlt : j < 4
    · have hp := ca_push g _ g 2 vs X (by omega) (j : Int) wr hG (by rw [HX.out, ups_len]; omega)
      have HP := Lib.hid hp; clear hp
      go_wp2_with fail
      refine HP.out.mono ?_; rintro e w2 ⟨v', rfl, hG2, hc, _⟩
      have hB2 : Below g w0 w2 := by
        subst hH hg
        exact bel_ch hB hc (fun i hi => (hG.lt i hi).1)
      clear hc hG hB
      go_wp2_with fail
      go_roundw
      case rel => exact ⟨j + 1, n + 1, _, _, by omega, by omega, by omega, by go_num, hG2, by rw [setX_self, HX.out, ups, show ((1 + n : Nat) : Int) = (j : Int) by omega], hB2⟩
      case measure => simp [intOf]; omega
    · obtain rfl : j = 4 := by omega
      obtain rfl : n = 3 := by omega
      have hx : X 2 = [1, 2] ++ [3] := HX.out
      have HX2 := Lib.hid hx; clear hx
      go_wp2_with fail
      refine (ca_pop g _ g 2 vs X (by omega) [1, 2] 3 wr hG HX2.out).mono ?_; rintro e w2 ⟨v', rfl, hG2, hc, _⟩
      have hB2 : Below g w0 w2 := by
        subst hH hg
        exact bel_ch hB hc (fun i hi => (hG.lt i hi).1)
      clear hc hG hB
      have hX3 : setX X 2 [1, 2] 2 = [1, 2] := setX_self _ _ _
      generalize setX X 2 [1, 2] = Y at *
      generalize vs.set 2 v' = us at *
      have HX3 := Lib.hid hX3; clear hX3
      go_wp2_with fail
      refine (ca_flush g _ g 2 1 us Y (by omega) 1 w2 hG2 (by omega) (by rw [HX3.out]; rfl) (by omega) (by rw [HX3.out]; decide)).mono ?_; rintro e w3 ⟨v2, h, c', rfl, hown, hG3, hc, _⟩
      have hB3 : Below g w0 w3 := by
        subst hH hg
        exact bel_ch hB2 hc (fun i hi => (hG2.lt i hi).1)
      clear hc hG2 hB2
      rw [HX3.out] at hown
      obtain ⟨h', hh, hcell, _⟩ := own_at hown (k := 0) (u := .int .i64 1) rfl
      injection hh with hh; injection hh with hh; subst hh
      rw [HX3.out, show List.drop 1 ([1, 2] : List Int) = [2] from rfl] at hG3
      have hX4 : setX Y 2 [2] 2 = [2] := setX_self _ _ _
      generalize setX Y 2 [2] = Z at *
      have HX4 := Lib.hid hX4; clear hX4 hown
      have hln := ca_len g _ g 2 _ Z (by omega) w3 hG3
      rw [HX4.out] at hln
      have HL := Lib.hid hln; clear hln
      go_wp2_with fail
      refine HL.out.mono ?_; rintro e w4 ⟨rfl, rfl⟩
      go_wp2_with fail
      go_ret
      exact ⟨rfl, by rw [hH]; exact hB3⟩
theorem ups_drop (m : Nat) (h1 : 1 ≤ m) (h8 : m ≤ 8) : ((ups 0 8).drop m).length = 8 - m := by rw [List.length_drop, ups_len]
set_option maxRecDepth 100000 in
set_option maxHeartbeats 1000000 in
theorem cacheHalf_walk (n : Int) (_h1 : (Lit.int .i64 n).wf = true) (class_ : Int) (_h2 : (Lit.int .i64 class_).wf = true) (w0 : World) :
    Calls Try.prog 6 #[.int .i64 n, .int .i64 class_] w0 fun e w' => e = .returned (.bool true) ∧ Below w0.heap.size w0 w' := by
  obtain ⟨hk0, hk4⟩ := umod_bd class_ 4 (by omega) (by omega)
  obtain ⟨k, hk⟩ := Int.eq_ofNat_of_zero_le hk0
  rw [hk] at hk0 hk4
  have hkn : k < 4 := by omega
  have HK := Lib.hid hk; clear hk
  obtain ⟨hm0, hm8⟩ := umod1_bd n 8 (by omega) (by omega)
  obtain ⟨m, hm⟩ := Int.eq_ofNat_of_zero_le (show 0 ≤ wrap64 (1 + wrap64 ((IntKind.u64.wrap n).tmod 8)) by omega)
  rw [hm] at hm0 hm8
  have hmn : 1 ≤ m ∧ m ≤ 8 := by omega
  obtain ⟨hm1, hmn⟩ := hmn
  have HM := Lib.hid hm; clear hm
  go_enter Try.func6, Try.ntmps6
  go_wp2_with fail
  refine (ca_new w0).mono ?_; rintro e w1 ⟨rfl, hG, hB⟩
  generalize hH : w0.heap.size = H at hG hB ⊢
  generalize hg : H = g at *
  go_wp2_with fail
  rw [HK.out]
  refine (caches_any w1).mono ?_; rintro e w2 ⟨rfl, hc⟩
  replace hG := hG.below hc
  replace hB : Below g w0 w2 := by subst hH hg; exact bel_trans hB hc
  clear hc
  go_wp2_with fail
  go_loopw [7] (fun v wr => ∃ (j : Nat) (vs : List Value) (X : Nat → List Int), j ≤ 8 ∧ v = .int .i64 j ∧ Four wr g 70 g vs X ∧ X k = ups 0 j ∧ Below g w0 wr) (fun v _ => 8 - (intOf v).toNat)
  case atStart => exact ⟨0, _, _, by omega, rfl, hG, rfl, hB⟩
  case round =>
    clear hG hB
    obtain ⟨j, vs, X, hj8, rfl, hG, hX, hB⟩ := hrel
    have HX := Lib.hid hX; clear hX
    by_cases hlt : j < 8
    · have hp := ca_push g _ g k vs X hkn (j : Int) wr hG (by rw [HX.out, ups_len]; omega)
      have HP := Lib.hid hp; clear hp
      go_wp2_with fail
      refine HP.out.mono ?_; rintro e w2 ⟨v', rfl, hG2, hc, _⟩
      have hB2 : Below g w0 w2 := by
        subst hH hg
        exact bel_ch hB hc (fun i hi => (hG.lt i hi).1)
      clear hc hG hB
      go_wp2_with fail
      go_roundw
      case rel => exact ⟨j + 1, _, _, by omega, by go_num, hG2, by rw [setX_self, HX.out, ups, Nat.zero_add], hB2⟩
      case measure => simp [intOf]; omega
    · obtain rfl : j = 8 := by omega
      have hno := ca_push_no g _ g k vs X hkn 99 wr hG (by rw [HX.out]; rfl)
      have hfl := ca_flush g _ g k m vs X hkn (m : Int) wr hG (by omega) (by rw [HX.out, ups_len]; omega) hm1 (by rw [HX.out, ups_len]; exact hmn)
      rw [HX.out] at hfl
      have HNO := Lib.hid hno; have HFL := Lib.hid hfl; clear hno hfl
      go_wp2_with fail
      refine HNO.out.mono ?_; rintro e w2 ⟨rfl, rfl⟩
      go_wp2_with fail
      rw [HM.out]
      refine HFL.out.mono ?_; rintro e w2 ⟨v', h, c', rfl, hown, hG2, hc, hS⟩
      have hB2 : Below g w0 w2 := by
        subst hH hg
        exact bel_ch hB hc (fun i hi => (hG.lt i hi).1)
      have hhl := (own_base hown h rfl).2
      have hhn : h ∉ cset g (vs.set k v') := fun hm => by
        have h1 := (hG.lt h (hS h hm)).2
        have h2 := (own_base hown h rfl).1
        omega
      have hown := own_re hown
      clear hc hG hB HNO HFL HX hS
      have hX2 : setX X k ((ups 0 8).drop m) k = (ups 0 8).drop m := setX_self _ _ _
      generalize setX X k ((ups 0 8).drop m) = Y at *
      generalize vs.set k v' = us at *
      have HX2 := Lib.hid hX2; clear hX2
      have hln := ca_len g _ g k us Y hkn w2 hG2
      rw [HX2.out, ups_drop m hm1 hmn, show ((8 - m : Nat) : Int) = 8 - (m : Int) by omega] at hln
      have HL := Lib.hid hln; clear hln
      go_wp2_with fail
      refine HL.out.mono ?_; rintro e w4 ⟨rfl, rfl⟩
      go_wp2_with fail
      go_loopw [14] (fun v wr => ∃ (j : Nat) (vs : List Value) (X : Nat → List Int), j ≤ m ∧ v = .int .i64 j ∧ Four wr g 70 g vs X ∧ X k = (ups 0 8).drop m ++ ups 50 j ∧ Below g w0 wr ∧ h ∉ cset g vs ∧ h < wr.heap.size ∧ wr.ownsRow 0 3 1 (.slice (some ⟨h, 0, none⟩) m c') m (((ups 0 8).take m).map (Value.int .i64))) (fun v _ => m - (intOf v).toNat)
      case atStart => exact ⟨0, _, _, by omega, rfl, hG2, by rw [HX2.out, ups, List.append_nil], hB2, hhn, hhl, hown⟩
      case round =>
        clear hG2 hB2 hhn hhl hown HX2 HL
        obtain ⟨j, vs, X, hj8, rfl, hG, hX, hB, hhn, hhl, hown⟩ := hrel
        have HX := Lib.hid hX; clear hX
        by_cases hlt : j < m
        · have hp := ca_push g _ g k vs X hkn (50 + (j : Int)) _ hG (by rw [HX.out, List.length_append, ups_len, ups_drop m hm1 hmn]; omega)
          have HP := Lib.hid hp; clear hp
          have hj0 : (0 : Int) ≤ (j : Int) := by omega
          have hjm : (j : Int) < (m : Int) := by omega
          go_wp2_with fail
          refine HP.out.mono ?_; rintro e w2 ⟨v', rfl, hG2, hc, hS⟩
          have hB2 : Below g w0 w2 := by
            subst hH hg
            exact bel_ch hB hc (fun i hi => (hG.lt i hi).1)
          have hown2 := own_chV hown hc (fun b hb => by simp [Value.ownBlock] at hb; subst hb; exact hhn)
          have hhn2 : h ∉ cset g (vs.set k v') := fun hm => by
            rcases hS h hm with h1 | h1
            · exact hhn h1
            · omega
          have hhl2 := Nat.lt_of_lt_of_le hhl hc.size
          clear hc hG hB hown hhn hhl hS
          obtain ⟨h', hh, hcell, _⟩ := own_at hown2 (k := j) (u := .int .i64 ((0 + j : Nat) : Int)) (by rw [List.getElem?_map, List.getElem?_take, if_pos hlt, ups_at 0 8 j (by omega)]; rfl)
          injection hh with hh; injection hh with hh; subst hh
          rw [Nat.zero_add] at hcell
          have HO := Lib.hid hown2; clear hown2
          have hix := fun w => idx_own h m c' j hlt w
          go_wp2_with fail
          go_roundw
          case rel => exact ⟨j + 1, _, _, by omega, by go_num, hG2, by rw [setX_self, HX.out, List.append_assoc, ups_succ 50 j, show ((50 + j : Nat) : Int) = 50 + (j : Int) by omega], hB2, hhn2, hhl2, HO.out⟩
          case measure => simp [intOf]; omega
        · obtain rfl : j = m := by omega
          obtain ⟨i, rfl⟩ : ∃ i, j = i + 1 := ⟨j - 1, by omega⟩
          have hx : X k = ((ups 0 8).drop (i + 1) ++ ups 50 i) ++ [50 + (i : Int)] := by rw [HX.out, ups_succ 50 i, List.append_assoc, show ((50 + i : Nat) : Int) = 50 + (i : Int) by omega]
          have hp := ca_pop g _ g k vs X hkn _ _ _ hG hx
          have HP := Lib.hid hp; clear hp hx HX
          go_wp2_with fail
          refine HP.out.mono ?_; rintro e w2 ⟨v', rfl, hG2, hc, hS⟩
          have hB2 : Below g w0 w2 := by
            subst hH hg
            exact bel_ch hB hc (fun i hi => (hG.lt i hi).1)
          clear hc hG hB hown hhn hhl hS
          have hln := ca_len g _ g k _ _ hkn w2 hG2
          rw [setX_self, List.length_append, ups_len, ups_drop (i + 1) hm1 hmn, show ((8 - (i + 1) + i : Nat) : Int) = 7 by omega] at hln
          have HL := Lib.hid hln; clear hln
          go_wp2_with fail
          refine HL.out.mono ?_; rintro e w4 ⟨rfl, rfl⟩
          go_wp2_with fail
          go_ret
          exact ⟨rfl, by rw [hH]; exact hB2⟩
end Go.Proofs.Ytinijpjbbbbhjaa
