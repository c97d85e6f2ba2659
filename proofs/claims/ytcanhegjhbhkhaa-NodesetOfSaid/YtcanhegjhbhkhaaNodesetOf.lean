/- The law NodesetOf. -/
import Derived.Test.YtcanhegjhbhkhaaSets
namespace Go.Proofs.Ytcanhegjhbhkhaa
open Go.RowKit
set_option linter.unusedVariables false
set_option linter.unusedSimpArgs false
attribute [local go_sem] World.cell?_alloc_lt

theorem open_intsC {H : Type} {enc : TypeId × Value → H} {W : World} {base : Nat} {held : Bool} {r : Reach} {b0 : Nat} {v : Value} {d : DataW H} {p : List MemPlace} (hv : Value.okWide Try.prog W r b0 26 v) (h : DataW.Trod enc Try.prog W base (fun _ => true) held 26 v d p) :
    ∃ a len cap zs, v = .slice a len cap ∧ InInts .i64 W a len zs ∧ len ≤ cap := by
  obtain ⟨a, len, cap, rfl⟩ := WideShapes.okWide_slice Try.underlying26 hv
  obtain ⟨zs, hz⟩ := open_inInts (a := a) (len := len) (cap := cap) Try.underlying26 Try.underlying3 (by kernel_rfl) h
  refine ⟨a, len, cap, zs, rfl, hz, ?_⟩
  obtain ⟨fuel, hf⟩ := h
  rcases ChangeShapes.open_ints Try.underlying26 Try.underlying3 (by kernel_rfl) hf with ⟨hcs, _⟩ | ⟨x, l, c, zs, hcs, _, hl, _⟩
  · simp [Value.cells] at hcs
    obtain ⟨rfl, rfl, rfl⟩ := hcs
    omega
  · simp [Value.cells] at hcs
    obtain ⟨rfl, rfl, rfl⟩ := hcs
    exact hl
theorem cut_ints (a : Option Addr) (len cap n : Nat) (N : Int) (hN : N = (n : Int)) (h : n ≤ cap) (w : World) : (Instr.sliceAt 26 (.slice a len cap) none (some (.int .i64 N)) none).run Try.prog w = .ok (.slice a n cap) w := by
  subst hN
  have h2 : (n : Int) ≤ (cap : Int) := by omega
  cases a <;> simp [go_sem, h, h2, Addr.add]
theorem all_no (n : Int) (h : n < 0 ∨ 8 < n) (w : World) : Calls Try.prog 11 #[.int .i64 n] w fun e w' => e = .returned (.tuple #[.int .u8 0, .int .i64 3]) ∧ w = w' := by
  rcases (by omega : n < 0 ∨ (0 ≤ n ∧ 8 < n)) with h | ⟨h, h2⟩
  all_goals
    go_enter Try.func11, Try.ntmps11
    go_wp2_with fail
    go_ret2
    exact ⟨rfl, rfl⟩
theorem all_cnt : ∀ m : Nat, m < 9 → allN (m : Int) < 256 ∧ ocN (allN (m : Int)) = m ∧ (0 < m → hasN (allN (m : Int)) ((m : Int) - 1) = true) := by decide +kernel
set_option maxRecDepth 100000 in
set_option maxHeartbeats 2000000 in
theorem nodesetOf_walk (w0 : World) (a0 : Option Addr) (n0 c0 : Nat) (z0 : List Int) (h0 : InInts .i64 w0 a0 n0 z0) (k0 : n0 ≤ c0) (n : Int) (_h2 : (Lit.int .i64 n).wf = true) :
    Calls Try.prog 4 #[.slice a0 n0 c0, .int .i64 n] w0 fun e w' => e = .returned (.bool true) ∧ Below w0.heap.size w0 w' := by
  have hn0 := h0.mx
  obtain ⟨N, hN8, hNn, hmin⟩ : ∃ N : Nat, N ≤ 20 ∧ N ≤ n0 ∧ min (n0 : Int) 20 = (N : Int) := by
    by_cases h : (20 : Int) < (n0 : Int)
    · exact ⟨20, by omega, by omega, by omega⟩
    · exact ⟨n0, by omega, by omega, by omega⟩
  have hl := (InI.inn h0).take hNn
  clear h0
  generalize z0.take N = l at hl
  have hcut0 := fun w => cut_ints a0 n0 c0 N (N : Int) rfl (by omega) w
  have hma := own_made0 w0 w0.heap.size 3 1 (Nat.le_refl _)
  have hba : Below w0.heap.size w0 (w0.alloc (.cells #[] 3)) := bel_alloc (Below.refl _ _) _
  have hr1 := (hl.below hba).reads
  have hsz := hba.size
  obtain ⟨i0, hi0', hz0, hz1, hz2⟩ := info_parts info_int
  have HI := Lib.hid hi0'; have HZ0 := Lib.hid hz0; have HZ1 := Lib.hid hz1; have HZ2 := Lib.hid hz2
  have HMA := Lib.hid hma; have HR1 := Lib.hid hr1; have HBA := Lib.hid hba
  clear hi0' hz0 hz1 hz2 hma hr1 hba hl
  go_enter Try.func4, Try.ntmps4
  go_wp2_with (at_builtin; refine wpList_append_any _ rfl (.tmp 12) (.tmp 17) 26 rfl w0.heap.size 3 i0 _ 1 8 Try.underlying26 HI.out HZ0.out HZ1.out HZ2.out rfl (by omega) (.slice (some ⟨w0.heap.size, 0, none⟩) 0 0) 0 [] rfl HMA.out _ a0 N c0 (l.map (Value.int .i64)) rfl HR1.out (ints_one l) (by unfold maxLen; omega) (by omega) hsz ?_)
  intro v2 w3 hown2 hgr2 hor2
  have hc3 : Ch [w0.heap.size] (w0.alloc (.cells #[] 3)) w3 := ch_grown hgr2 (fun q hq => by simp [Value.ownBlock] at hq; subst hq; simp)
  have hB3 := bel_ch HBA.out hc3 (fun q hq => by simp at hq; omega)
  try rw [Nat.zero_add] at hown2
  try rw [List.nil_append] at hown2
  obtain ⟨A2, c2, rfl⟩ := own_slice hown2
  have hl3 := InI.own hown2
  clear hown2 hgr2 hor2 hc3 HMA HR1 HBA hcut0 hmin
  have hof := of_any A2 N c2 l w3 hl3 (by omega)
  by_cases hn : 0 ≤ n ∧ n ≤ 8
  · obtain ⟨m, rfl⟩ := Int.eq_ofNat_of_zero_le hn.1
    obtain ⟨ha256, hcnt, hhas⟩ := all_cnt m (by omega)
    have hal := all_at (m : Int) (by omega) (by omega)
    have hct := count_any (allN (m : Int)) ha256
    rw [hcnt] at hct
    have HAL := Lib.hid hal; have HCT := Lib.hid hct
    have hh2 : 0 < m → ∀ w, Calls Try.prog 10 #[.int .u8 (allN (m : Int) : Int), .int .i64 ((m : Int) - 1)] w fun e w' => e = .returned (.bool true) ∧ w = w' := fun h w => by
      have := has_at (allN (m : Int)) ha256 ((m : Int) - 1) w
      rw [hhas h] at this
      exact this
    have HH2 := Lib.hid hh2
    have hm8 : (m : Int) ≤ 8 := by omega
    have hm0 : (0 : Int) ≤ (m : Int) := by omega
    clear hal hct hh2 hcnt hhas hn
    generalize allN (m : Int) = al at *
    cases hsk : setK l N with
    | some s =>
      rw [hsk] at hof
      have HSK := Lib.hid hsk
      replace hof : Calls Try.prog 5 #[.slice A2 N c2] w3 fun e w' => e = .returned (.tuple #[.int .u8 (s : Int), .int .i64 0]) ∧ w3 = w' := hof
      have HOF := Lib.hid hof
      clear hsk hof
      have hs0 := setK_lt l N s HSK.out
      by_cases hmz : 0 < m
      · have hmi : (0 : Int) < (m : Int) := by omega
        go_wp2_with fail
        refine HOF.out.mono ?_; rintro e w4 ⟨rfl, rfl⟩
        go_wp2_with fail
        refine (HAL.out _).mono ?_; rintro e w4 ⟨rfl, rfl⟩
        go_wp2_with fail
        refine (sets_any _).mono ?_; rintro e w5 ⟨rfl, hB5⟩
        have hlX := hl3.below hB5
        have hBE := bel_trans hB3 hB5
        clear hB5 hl3 hB3
        go_wp2_with fail
        refine (HCT.out _).mono ?_; rintro e w6 ⟨rfl, rfl⟩
        go_wp2_with fail
        refine (HH2.out hmz _).mono ?_; rintro e w6 ⟨rfl, rfl⟩
        go_wp2_with fail
        go_loop [9, 10, 11] (fun vs vr vi => ∃ (k s : Nat) (b : Bool), k ≤ N ∧ s < 256 ∧ vi = .int .i64 k ∧ vs = .int .u8 s ∧ vr = .bool b ∧ ((b = true ∧ setK l k = some s) ∨ (b = false ∧ setK l k = none))) (fun _ _ vi => N - (intOf vi).toNat)
        case atStart => exact ⟨0, 0, true, by omega, by omega, rfl, rfl, rfl, Or.inl ⟨rfl, rfl⟩⟩
        case round =>
          obtain ⟨k, s, b, hkN, hs256, rfl, rfl, rfl, hbs⟩ := hrel
          have HBS := Lib.hid hbs; clear hbs
          by_cases hlt : k < N
          · obtain ⟨b1, o1, rfl, _, hc1⟩ := hlX.get hlt
            have hi1 := fun w => idxI b1 o1 N c2 k hlt w
            have hst : ∀ s, setK l k = some s → setK l (k + 1) = if okN (l.getD k 0) = true then some (orN s (l.getD k 0).toNat) else none := fun s h => by simp only [setK, h]
            have hsn : setK l k = none → setK l (k + 1) = none := fun h => by simp only [setK, h]
            have HST := Lib.hid hst; have HSN := Lib.hid hsn
            clear hst hsn
            generalize l.getD k 0 = x at *
            by_cases hx : 0 ≤ x ∧ x < 8
            · have hok : okN x = true := decide_eq_true hx
              obtain ⟨m, rfl⟩ := Int.eq_ofNat_of_zero_le hx.1
              have hm8 : m < 8 := by omega
              have hob := or_bits s hs256 m hm8
              have hor := or_lt s hs256 m hm8
              have hnew : (b = true ∧ setK l (k + 1) = some (orN s m)) ∨ (b = false ∧ setK l (k + 1) = none) := by
                rcases HBS.out with ⟨h1, h2⟩ | ⟨h1, h2⟩
                · left; exact ⟨h1, (HST.out s h2).trans (if_pos hok)⟩
                · right; exact ⟨h1, HSN.out h2⟩
              have HNEW := Lib.hid hnew; have HOB := Lib.hid hob
              obtain ⟨hx0, hx8⟩ := hx
              have hx7 : (m : Int) ≤ 7 := by omega
              clear hnew hok HBS HST HSN hob hx8
              have hx8 : (m : Int) < 8 := by omega
              go_wp2_with fail
              go_round
              case rel => exact ⟨k + 1, orN s m, b, by omega, hor, by go_num, by rw [← HOB.out], rfl, HNEW.out⟩
              case measure => simp [intOf]; omega
            · have hok : okN x = false := decide_eq_false hx
              have hnew : setK l (k + 1) = none := by
                rcases HBS.out with ⟨h1, h2⟩ | ⟨h1, h2⟩
                · exact (HST.out s h2).trans (if_neg (by rw [hok]; decide))
                · exact HSN.out h2
              have HNEW := Lib.hid hnew
              clear hnew hok HBS HST HSN
              rcases (by omega : x < 0 ∨ (0 ≤ x ∧ 7 < x)) with h | ⟨h, h'⟩
              all_goals
                clear hx
                go_wp2_with fail
                go_round
                case rel => exact ⟨k + 1, s, false, by omega, hs256, by go_num, rfl, rfl, Or.inr ⟨rfl, HNEW.out⟩⟩
                case measure => simp [intOf]; omega
          · obtain rfl : k = N := by omega
            rcases HBS.out with ⟨rfl, h2⟩ | ⟨rfl, h2⟩
            · have e := HSK.out.symm.trans h2
              injection e with e
              subst e
              clear h2
              go_wp2_with fail
              go_ret
              exact ⟨rfl, hBE⟩
            · exact absurd (HSK.out.symm.trans h2) (by simp)
      · obtain rfl : m = 0 := by omega
        go_wp2_with fail
        refine HOF.out.mono ?_; rintro e w4 ⟨rfl, rfl⟩
        go_wp2_with fail
        refine (HAL.out _).mono ?_; rintro e w4 ⟨rfl, rfl⟩
        go_wp2_with fail
        refine (sets_any _).mono ?_; rintro e w5 ⟨rfl, hB5⟩
        have hlX := hl3.below hB5
        have hBE := bel_trans hB3 hB5
        clear hB5 hl3 hB3
        go_wp2_with fail
        refine (HCT.out _).mono ?_; rintro e w6 ⟨rfl, rfl⟩
        go_wp2_with fail
        go_loop [9, 10, 11] (fun vs vr vi => ∃ (k s : Nat) (b : Bool), k ≤ N ∧ s < 256 ∧ vi = .int .i64 k ∧ vs = .int .u8 s ∧ vr = .bool b ∧ ((b = true ∧ setK l k = some s) ∨ (b = false ∧ setK l k = none))) (fun _ _ vi => N - (intOf vi).toNat)
        case atStart => exact ⟨0, 0, true, by omega, by omega, rfl, rfl, rfl, Or.inl ⟨rfl, rfl⟩⟩
        case round =>
          obtain ⟨k, s, b, hkN, hs256, rfl, rfl, rfl, hbs⟩ := hrel
          have HBS := Lib.hid hbs; clear hbs
          by_cases hlt : k < N
          · obtain ⟨b1, o1, rfl, _, hc1⟩ := hlX.get hlt
            have hi1 := fun w => idxI b1 o1 N c2 k hlt w
            have hst : ∀ s, setK l k = some s → setK l (k + 1) = if okN (l.getD k 0) = true then some (orN s (l.getD k 0).toNat) else none := fun s h => by simp only [setK, h]
            have hsn : setK l k = none → setK l (k + 1) = none := fun h => by simp only [setK, h]
            have HST := Lib.hid hst; have HSN := Lib.hid hsn
            clear hst hsn
            generalize l.getD k 0 = x at *
            by_cases hx : 0 ≤ x ∧ x < 8
            · have hok : okN x = true := decide_eq_true hx
              obtain ⟨m, rfl⟩ := Int.eq_ofNat_of_zero_le hx.1
              have hm8 : m < 8 := by omega
              have hob := or_bits s hs256 m hm8
              have hor := or_lt s hs256 m hm8
              have hnew : (b = true ∧ setK l (k + 1) = some (orN s m)) ∨ (b = false ∧ setK l (k + 1) = none) := by
                rcases HBS.out with ⟨h1, h2⟩ | ⟨h1, h2⟩
                · left; exact ⟨h1, (HST.out s h2).trans (if_pos hok)⟩
                · right; exact ⟨h1, HSN.out h2⟩
              have HNEW := Lib.hid hnew; have HOB := Lib.hid hob
              obtain ⟨hx0, hx8⟩ := hx
              have hx7 : (m : Int) ≤ 7 := by omega
              clear hnew hok HBS HST HSN hob hx8
              have hx8 : (m : Int) < 8 := by omega
              go_wp2_with fail
              go_round
              case rel => exact ⟨k + 1, orN s m, b, by omega, hor, by go_num, by rw [← HOB.out], rfl, HNEW.out⟩
              case measure => simp [intOf]; omega
            · have hok : okN x = false := decide_eq_false hx
              have hnew : setK l (k + 1) = none := by
                rcases HBS.out with ⟨h1, h2⟩ | ⟨h1, h2⟩
                · exact (HST.out s h2).trans (if_neg (by rw [hok]; decide))
                · exact HSN.out h2
              have HNEW := Lib.hid hnew
              clear hnew hok HBS HST HSN
              rcases (by omega : x < 0 ∨ (0 ≤ x ∧ 7 < x)) with h | ⟨h, h'⟩
              all_goals
                clear hx
                go_wp2_with fail
                go_round
                case rel => exact ⟨k + 1, s, false, by omega, hs256, by go_num, rfl, rfl, Or.inr ⟨rfl, HNEW.out⟩⟩
                case measure => simp [intOf]; omega
          · obtain rfl : k = N := by omega
            rcases HBS.out with ⟨rfl, h2⟩ | ⟨rfl, h2⟩
            · have e := HSK.out.symm.trans h2
              injection e with e
              subst e
              clear h2
              go_wp2_with fail
              go_ret
              exact ⟨rfl, hBE⟩
            · exact absurd (HSK.out.symm.trans h2) (by simp)
    | none =>
      rw [hsk] at hof
      have HSK := Lib.hid hsk
      replace hof : Calls Try.prog 5 #[.slice A2 N c2] w3 fun e w' => e = .returned (.tuple #[.int .u8 0, .int .i64 10]) ∧ w3 = w' := hof
      have HOF := Lib.hid hof
      clear hsk hof
      by_cases hmz : 0 < m
      · have hmi : (0 : Int) < (m : Int) := by omega
        go_wp2_with fail
        refine HOF.out.mono ?_; rintro e w4 ⟨rfl, rfl⟩
        go_wp2_with fail
        refine (HAL.out _).mono ?_; rintro e w4 ⟨rfl, rfl⟩
        go_wp2_with fail
        refine (sets_any _).mono ?_; rintro e w5 ⟨rfl, hB5⟩
        have hlX := hl3.below hB5
        have hBE := bel_trans hB3 hB5
        clear hB5 hl3 hB3
        go_wp2_with fail
        refine (HCT.out _).mono ?_; rintro e w6 ⟨rfl, rfl⟩
        go_wp2_with fail
        refine (HH2.out hmz _).mono ?_; rintro e w6 ⟨rfl, rfl⟩
        go_wp2_with fail
        go_loop [9, 10, 11] (fun vs vr vi => ∃ (k s : Nat) (b : Bool), k ≤ N ∧ s < 256 ∧ vi = .int .i64 k ∧ vs = .int .u8 s ∧ vr = .bool b ∧ ((b = true ∧ setK l k = some s) ∨ (b = false ∧ setK l k = none))) (fun _ _ vi => N - (intOf vi).toNat)
        case atStart => exact ⟨0, 0, true, by omega, by omega, rfl, rfl, rfl, Or.inl ⟨rfl, rfl⟩⟩
        case round =>
          obtain ⟨k, s, b, hkN, hs256, rfl, rfl, rfl, hbs⟩ := hrel
          have HBS := Lib.hid hbs; clear hbs
          by_cases hlt : k < N
          · obtain ⟨b1, o1, rfl, _, hc1⟩ := hlX.get hlt
            have hi1 := fun w => idxI b1 o1 N c2 k hlt w
            have hst : ∀ s, setK l k = some s → setK l (k + 1) = if okN (l.getD k 0) = true then some (orN s (l.getD k 0).toNat) else none := fun s h => by simp only [setK, h]
            have hsn : setK l k = none → setK l (k + 1) = none := fun h => by simp only [setK, h]
            have HST := Lib.hid hst; have HSN := Lib.hid hsn
            clear hst hsn
            generalize l.getD k 0 = x at *
            by_cases hx : 0 ≤ x ∧ x < 8
            · have hok : okN x = true := decide_eq_true hx
              obtain ⟨m, rfl⟩ := Int.eq_ofNat_of_zero_le hx.1
              have hm8 : m < 8 := by omega
              have hob := or_bits s hs256 m hm8
              have hor := or_lt s hs256 m hm8
              have hnew : (b = true ∧ setK l (k + 1) = some (orN s m)) ∨ (b = false ∧ setK l (k + 1) = none) := by
                rcases HBS.out with ⟨h1, h2⟩ | ⟨h1, h2⟩
                · left; exact ⟨h1, (HST.out s h2).trans (if_pos hok)⟩
                · right; exact ⟨h1, HSN.out h2⟩
              have HNEW := Lib.hid hnew; have HOB := Lib.hid hob
              obtain ⟨hx0, hx8⟩ := hx
              have hx7 : (m : Int) ≤ 7 := by omega
              clear hnew hok HBS HST HSN hob hx8
              have hx8 : (m : Int) < 8 := by omega
              go_wp2_with fail
              go_round
              case rel => exact ⟨k + 1, orN s m, b, by omega, hor, by go_num, by rw [← HOB.out], rfl, HNEW.out⟩
              case measure => simp [intOf]; omega
            · have hok : okN x = false := decide_eq_false hx
              have hnew : setK l (k + 1) = none := by
                rcases HBS.out with ⟨h1, h2⟩ | ⟨h1, h2⟩
                · exact (HST.out s h2).trans (if_neg (by rw [hok]; decide))
                · exact HSN.out h2
              have HNEW := Lib.hid hnew
              clear hnew hok HBS HST HSN
              rcases (by omega : x < 0 ∨ (0 ≤ x ∧ 7 < x)) with h | ⟨h, h'⟩
              all_goals
                clear hx
                go_wp2_with fail
                go_round
                case rel => exact ⟨k + 1, s, false, by omega, hs256, by go_num, rfl, rfl, Or.inr ⟨rfl, HNEW.out⟩⟩
                case measure => simp [intOf]; omega
          · obtain rfl : k = N := by omega
            rcases HBS.out with ⟨rfl, h2⟩ | ⟨rfl, h2⟩
            · exact absurd (HSK.out.symm.trans h2) (by simp)
            · clear h2
              go_wp2_with fail
              go_ret
              exact ⟨rfl, hBE⟩
      · obtain rfl : m = 0 := by omega
        go_wp2_with fail
        refine HOF.out.mono ?_; rintro e w4 ⟨rfl, rfl⟩
        go_wp2_with fail
        refine (HAL.out _).mono ?_; rintro e w4 ⟨rfl, rfl⟩
        go_wp2_with fail
        refine (sets_any _).mono ?_; rintro e w5 ⟨rfl, hB5⟩
        have hlX := hl3.below hB5
        have hBE := bel_trans hB3 hB5
        clear hB5 hl3 hB3
        go_wp2_with fail
        refine (HCT.out _).mono ?_; rintro e w6 ⟨rfl, rfl⟩
        go_wp2_with fail
        go_loop [9, 10, 11] (fun vs vr vi => ∃ (k s : Nat) (b : Bool), k ≤ N ∧ s < 256 ∧ vi = .int .i64 k ∧ vs = .int .u8 s ∧ vr = .bool b ∧ ((b = true ∧ setK l k = some s) ∨ (b = false ∧ setK l k = none))) (fun _ _ vi => N - (intOf vi).toNat)
        case atStart => exact ⟨0, 0, true, by omega, by omega, rfl, rfl, rfl, Or.inl ⟨rfl, rfl⟩⟩
        case round =>
          obtain ⟨k, s, b, hkN, hs256, rfl, rfl, rfl, hbs⟩ := hrel
          have HBS := Lib.hid hbs; clear hbs
          by_cases hlt : k < N
          · obtain ⟨b1, o1, rfl, _, hc1⟩ := hlX.get hlt
            have hi1 := fun w => idxI b1 o1 N c2 k hlt w
            have hst : ∀ s, setK l k = some s → setK l (k + 1) = if okN (l.getD k 0) = true then some (orN s (l.getD k 0).toNat) else none := fun s h => by simp only [setK, h]
            have hsn : setK l k = none → setK l (k + 1) = none := fun h => by simp only [setK, h]
            have HST := Lib.hid hst; have HSN := Lib.hid hsn
            clear hst hsn
            generalize l.getD k 0 = x at *
            by_cases hx : 0 ≤ x ∧ x < 8
            · have hok : okN x = true := decide_eq_true hx
              obtain ⟨m, rfl⟩ := Int.eq_ofNat_of_zero_le hx.1
              have hm8 : m < 8 := by omega
              have hob := or_bits s hs256 m hm8
              have hor := or_lt s hs256 m hm8
              have hnew : (b = true ∧ setK l (k + 1) = some (orN s m)) ∨ (b = false ∧ setK l (k + 1) = none) := by
                rcases HBS.out with ⟨h1, h2⟩ | ⟨h1, h2⟩
                · left; exact ⟨h1, (HST.out s h2).trans (if_pos hok)⟩
                · right; exact ⟨h1, HSN.out h2⟩
              have HNEW := Lib.hid hnew; have HOB := Lib.hid hob
              obtain ⟨hx0, hx8⟩ := hx
              have hx7 : (m : Int) ≤ 7 := by omega
              clear hnew hok HBS HST HSN hob hx8
              have hx8 : (m : Int) < 8 := by omega
              go_wp2_with fail
              go_round
              case rel => exact ⟨k + 1, orN s m, b, by omega, hor, by go_num, by rw [← HOB.out], rfl, HNEW.out⟩
              case measure => simp [intOf]; omega
            · have hok : okN x = false := decide_eq_false hx
              have hnew : setK l (k + 1) = none := by
                rcases HBS.out with ⟨h1, h2⟩ | ⟨h1, h2⟩
                · exact (HST.out s h2).trans (if_neg (by rw [hok]; decide))
                · exact HSN.out h2
              have HNEW := Lib.hid hnew
              clear hnew hok HBS HST HSN
              rcases (by omega : x < 0 ∨ (0 ≤ x ∧ 7 < x)) with h | ⟨h, h'⟩
              all_goals
                clear hx
                go_wp2_with fail
                go_round
                case rel => exact ⟨k + 1, s, false, by omega, hs256, by go_num, rfl, rfl, Or.inr ⟨rfl, HNEW.out⟩⟩
                case measure => simp [intOf]; omega
          · obtain rfl : k = N := by omega
            rcases HBS.out with ⟨rfl, h2⟩ | ⟨rfl, h2⟩
            · exact absurd (HSK.out.symm.trans h2) (by simp)
            · clear h2
              go_wp2_with fail
              go_ret
              exact ⟨rfl, hBE⟩
  · have hal := all_no n (by omega)
    have HAL := Lib.hid hal
    clear hal
    cases hsk : setK l N with
    | some s =>
      rw [hsk] at hof
      have HSK := Lib.hid hsk
      replace hof : Calls Try.prog 5 #[.slice A2 N c2] w3 fun e w' => e = .returned (.tuple #[.int .u8 (s : Int), .int .i64 0]) ∧ w3 = w' := hof
      have HOF := Lib.hid hof
      clear hsk hof
      have hs0 := setK_lt l N s HSK.out
      rcases (by omega : n < 0 ∨ (0 ≤ n ∧ 8 < n)) with h | ⟨h, h'⟩
      all_goals
        go_wp2_with fail
        refine HOF.out.mono ?_; rintro e w4 ⟨rfl, rfl⟩
        go_wp2_with fail
        refine (HAL.out _).mono ?_; rintro e w4 ⟨rfl, rfl⟩
        go_wp2_with fail
        refine (sets_any _).mono ?_; rintro e w5 ⟨rfl, hB5⟩
        have hlX := hl3.below hB5
        have hBE := bel_trans hB3 hB5
        clear hB5 hl3 hB3
        go_wp2_with fail
        go_loop [9, 10, 11] (fun vs vr vi => ∃ (k s : Nat) (b : Bool), k ≤ N ∧ s < 256 ∧ vi = .int .i64 k ∧ vs = .int .u8 s ∧ vr = .bool b ∧ ((b = true ∧ setK l k = some s) ∨ (b = false ∧ setK l k = none))) (fun _ _ vi => N - (intOf vi).toNat)
        case atStart => exact ⟨0, 0, true, by omega, by omega, rfl, rfl, rfl, Or.inl ⟨rfl, rfl⟩⟩
        case round =>
          obtain ⟨k, s, b, hkN, hs256, rfl, rfl, rfl, hbs⟩ := hrel
          have HBS := Lib.hid hbs; clear hbs
          by_cases hlt : k < N
          · obtain ⟨b1, o1, rfl, _, hc1⟩ := hlX.get hlt
            have hi1 := fun w => idxI b1 o1 N c2 k hlt w
            have hst : ∀ s, setK l k = some s → setK l (k + 1) = if okN (l.getD k 0) = true then some (orN s (l.getD k 0).toNat) else none := fun s h => by simp only [setK, h]
            have hsn : setK l k = none → setK l (k + 1) = none := fun h => by simp only [setK, h]
            have HST := Lib.hid hst; have HSN := Lib.hid hsn
            clear hst hsn
            generalize l.getD k 0 = x at *
            by_cases hx : 0 ≤ x ∧ x < 8
            · have hok : okN x = true := decide_eq_true hx
              obtain ⟨m, rfl⟩ := Int.eq_ofNat_of_zero_le hx.1
              have hm8 : m < 8 := by omega
              have hob := or_bits s hs256 m hm8
              have hor := or_lt s hs256 m hm8
              have hnew : (b = true ∧ setK l (k + 1) = some (orN s m)) ∨ (b = false ∧ setK l (k + 1) = none) := by
                rcases HBS.out with ⟨h1, h2⟩ | ⟨h1, h2⟩
                · left; exact ⟨h1, (HST.out s h2).trans (if_pos hok)⟩
                · right; exact ⟨h1, HSN.out h2⟩
              have HNEW := Lib.hid hnew; have HOB := Lib.hid hob
              obtain ⟨hx0, hx8⟩ := hx
              have hx7 : (m : Int) ≤ 7 := by omega
              clear hnew hok HBS HST HSN hob hx8
              have hx8 : (m : Int) < 8 := by omega
              go_wp2_with fail
              go_round
              case rel => exact ⟨k + 1, orN s m, b, by omega, hor, by go_num, by rw [← HOB.out], rfl, HNEW.out⟩
              case measure => simp [intOf]; omega
            · have hok : okN x = false := decide_eq_false hx
              have hnew : setK l (k + 1) = none := by
                rcases HBS.out with ⟨h1, h2⟩ | ⟨h1, h2⟩
                · exact (HST.out s h2).trans (if_neg (by rw [hok]; decide))
                · exact HSN.out h2
              have HNEW := Lib.hid hnew
              clear hnew hok HBS HST HSN
              rcases (by omega : x < 0 ∨ (0 ≤ x ∧ 7 < x)) with h | ⟨h, h'⟩
              all_goals
                clear hx
                go_wp2_with fail
                go_round
                case rel => exact ⟨k + 1, s, false, by omega, hs256, by go_num, rfl, rfl, Or.inr ⟨rfl, HNEW.out⟩⟩
                case measure => simp [intOf]; omega
          · obtain rfl : k = N := by omega
            rcases HBS.out with ⟨rfl, h2⟩ | ⟨rfl, h2⟩
            · have e := HSK.out.symm.trans h2
              injection e with e
              subst e
              clear h2
              go_wp2_with fail
              go_ret
              exact ⟨rfl, hBE⟩
            · exact absurd (HSK.out.symm.trans h2) (by simp)
    | none =>
      rw [hsk] at hof
      have HSK := Lib.hid hsk
      replace hof : Calls Try.prog 5 #[.slice A2 N c2] w3 fun e w' => e = .returned (.tuple #[.int .u8 0, .int .i64 10]) ∧ w3 = w' := hof
      have HOF := Lib.hid hof
      clear hsk hof
      rcases (by omega : n < 0 ∨ (0 ≤ n ∧ 8 < n)) with h | ⟨h, h'⟩
      all_goals
        go_wp2_with fail
        refine HOF.out.mono ?_; rintro e w4 ⟨rfl, rfl⟩
        go_wp2_with fail
        refine (HAL.out _).mono ?_; rintro e w4 ⟨rfl, rfl⟩
        go_wp2_with fail
        refine (sets_any _).mono ?_; rintro e w5 ⟨rfl, hB5⟩
        have hlX := hl3.below hB5
        have hBE := bel_trans hB3 hB5
        clear hB5 hl3 hB3
        go_wp2_with fail
        go_loop [9, 10, 11] (fun vs vr vi => ∃ (k s : Nat) (b : Bool), k ≤ N ∧ s < 256 ∧ vi = .int .i64 k ∧ vs = .int .u8 s ∧ vr = .bool b ∧ ((b = true ∧ setK l k = some s) ∨ (b = false ∧ setK l k = none))) (fun _ _ vi => N - (intOf vi).toNat)
        case atStart => exact ⟨0, 0, true, by omega, by omega, rfl, rfl, rfl, Or.inl ⟨rfl, rfl⟩⟩
        case round =>
          obtain ⟨k, s, b, hkN, hs256, rfl, rfl, rfl, hbs⟩ := hrel
          have HBS := Lib.hid hbs; clear hbs
          by_cases hlt : k < N
          · obtain ⟨b1, o1, rfl, _, hc1⟩ := hlX.get hlt
            have hi1 := fun w => idxI b1 o1 N c2 k hlt w
            have hst : ∀ s, setK l k = some s → setK l (k + 1) = if okN (l.getD k 0) = true then some (orN s (l.getD k 0).toNat) else none := fun s h => by simp only [setK, h]
            have hsn : setK l k = none → setK l (k + 1) = none := fun h => by simp only [setK, h]
            have HST := Lib.hid hst; have HSN := Lib.hid hsn
            clear hst hsn
            generalize l.getD k 0 = x at *
            by_cases hx : 0 ≤ x ∧ x < 8
            · have hok : okN x = true := decide_eq_true hx
              obtain ⟨m, rfl⟩ := Int.eq_ofNat_of_zero_le hx.1
              have hm8 : m < 8 := by omega
              have hob := or_bits s hs256 m hm8
              have hor := or_lt s hs256 m hm8
              have hnew : (b = true ∧ setK l (k + 1) = some (orN s m)) ∨ (b = false ∧ setK l (k + 1) = none) := by
                rcases HBS.out with ⟨h1, h2⟩ | ⟨h1, h2⟩
                · left; exact ⟨h1, (HST.out s h2).trans (if_pos hok)⟩
                · right; exact ⟨h1, HSN.out h2⟩
              have HNEW := Lib.hid hnew; have HOB := Lib.hid hob
              obtain ⟨hx0, hx8⟩ := hx
              have hx7 : (m : Int) ≤ 7 := by omega
              clear hnew hok HBS HST HSN hob hx8
              have hx8 : (m : Int) < 8 := by omega
              go_wp2_with fail
              go_round
              case rel => exact ⟨k + 1, orN s m, b, by omega, hor, by go_num, by rw [← HOB.out], rfl, HNEW.out⟩
              case measure => simp [intOf]; omega
            · have hok : okN x = false := decide_eq_false hx
              have hnew : setK l (k + 1) = none := by
                rcases HBS.out with ⟨h1, h2⟩ | ⟨h1, h2⟩
                · exact (HST.out s h2).trans (if_neg (by rw [hok]; decide))
                · exact HSN.out h2
              have HNEW := Lib.hid hnew
              clear hnew hok HBS HST HSN
              rcases (by omega : x < 0 ∨ (0 ≤ x ∧ 7 < x)) with h | ⟨h, h'⟩
              all_goals
                clear hx
                go_wp2_with fail
                go_round
                case rel => exact ⟨k + 1, s, false, by omega, hs256, by go_num, rfl, rfl, Or.inr ⟨rfl, HNEW.out⟩⟩
                case measure => simp [intOf]; omega
          · obtain rfl : k = N := by omega
            rcases HBS.out with ⟨rfl, h2⟩ | ⟨rfl, h2⟩
            · exact absurd (HSK.out.symm.trans h2) (by simp)
            · clear h2
              go_wp2_with fail
              go_ret
              exact ⟨rfl, hBE⟩
end Go.Proofs.Ytcanhegjhbhkhaa
