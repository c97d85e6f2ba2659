/- Package plan (layer 30): contracts of check, greatest, least; the reference's Right, Next. -/
import Derived.Test.YtmheafagafdnlaaPlanPure
import Derived.Test.YtmheafagafdnlaaCuts
import Derived.Test.YtmheafagafdnlaaClone
import Derived.Test.YtmheafagafdnlaaShelf
import Derived.Deep.DeepCutAuto
import Derived.Outline
namespace Go.Proofs.Ytmheafagafdnlaa
open Go.RowKit
set_option linter.unusedVariables false
set_option linter.unusedSimpArgs false
attribute [local go_sem] World.cell?_alloc_lt

/-- A slice of ints that reads as a list. -/
structure InI (w : World) (A : Option Addr) (n : Nat) (xs : List Int) : Prop where
  ln : xs.length = n
  at_ : 0 < n → ∃ b off, A = some ⟨b, off, none⟩ ∧ b < w.heap.size ∧ ∀ j u, xs[j]? = some u → w.cell? ⟨b, off + j, none⟩ = some (.int .i64 u)
section
variable {w w' : World} {A : Option Addr} {n : Nat} {xs : List Int}
theorem InI.below (h : InI w A n xs) (k : Below w.heap.size w w') : InI w' A n xs :=
  ⟨h.ln, fun hn => by
    obtain ⟨b, off, ha, hb, hc⟩ := h.at_ hn
    exact ⟨b, off, ha, Nat.lt_of_lt_of_le hb k.size, fun j u hj => (k.cell (p := ⟨b, off + j, none⟩) hb).trans (hc j u hj)⟩⟩
theorem InI.dn (h : InI w A n xs) (k : Nat) : InI (w.drewN k) A n xs := ⟨h.ln, h.at_⟩
theorem InI.ch {S : List Nat} (h : InI w A n xs) (k : Ch S w w') (hne : ∀ b off, A = some ⟨b, off, none⟩ → b ∉ S) : InI w' A n xs :=
  ⟨h.ln, fun hn => by
    obtain ⟨b, off, ha, hb, hc⟩ := h.at_ hn
    exact ⟨b, off, ha, Nat.lt_of_lt_of_le hb k.size, fun j u hj => (World.cell?_of_block (k.block b hb (hne b off ha))).trans (hc j u hj)⟩⟩
theorem InI.get (h : InI w A n xs) {i : Nat} (hi : i < n) : ∃ b off, A = some ⟨b, off, none⟩ ∧ b < w.heap.size ∧ w.cell? ⟨b, off + i, none⟩ = some (.int .i64 (xs.getD i 0)) := by
  obtain ⟨b, off, ha, hb, hc⟩ := h.at_ (by omega)
  refine ⟨b, off, ha, hb, hc i _ ?_⟩
  have hl : i < xs.length := by have := h.ln; omega
  rw [List.getElem?_eq_getElem hl, List.getD_eq_getElem?_getD, List.getElem?_eq_getElem hl]
  rfl
theorem InI.own {base c : Nat} (h : w.ownsRow base 3 1 (.slice A n c) n (xs.map (Value.int .i64))) : InI w A n xs := by
  refine ⟨by have := h.1; simp at this; omega, fun hn => ?_⟩
  obtain ⟨g, cap, hv, hb, hlt⟩ := h.form hn
  injection hv with hA _ _
  refine ⟨g, 0, hA, hlt, fun j u hj => ?_⟩
  obtain ⟨g', hA', hc, _⟩ := own_at h (k := j) (u := .int .i64 u) (by rw [List.getElem?_map, hj]; rfl)
  rw [hA] at hA'
  injection hA' with hA'
  injection hA' with hA'
  subst hA'
  rw [Nat.zero_add]
  exact hc
theorem InI.row {a : Option Addr} {len cap k : Nat} {zs : List Int} (h : IsRow .i64 w a len cap zs) (hk : k ≤ len) : InI w a k (zs.take k) := by
  rcases h with ⟨rfl, rfl, rfl, rfl⟩ | ⟨x, rfl, hlc, hcm, hzl, hc, _⟩
  · obtain rfl : k = 0 := by omega
    exact ⟨rfl, fun h => absurd h (by omega)⟩
  · refine ⟨by rw [List.length_take]; omega, fun hn => ?_⟩
    have h0 := hc 0 (by omega)
    obtain ⟨b, off, rfl⟩ := spot_none h0
    refine ⟨b, off, rfl, ?_, fun j u hj => ?_⟩
    · have := World.block_lt_of_cell? w _ h0
      simpa [Addr.add] using this
    · rw [List.getElem?_take] at hj
      split at hj
      · have hjl := (List.getElem?_eq_some_iff.1 hj).1
        have := hc j hjl
        rw [List.getD_eq_getElem?_getD, hj, WideShapes.add_plain] at this
        exact this
      · cases hj
end
theorem idxI (b off n c i : Nat) (hi : i < n) (w : World) : (Instr.indexAt 43 (.slice (some ⟨b, off, none⟩) n c) (.int .i64 (i : Int))).run Try.prog w = .ok (.pointer (some ⟨b, off + i, none⟩)) w := by
  simp [go_sem, hi]
theorem within_any (a b : Int) (w : World) : Calls Try.prog 50 #[.int .i64 a, .int .i64 b] w fun e w' => e = .returned (.bool (decide (0 ≤ a ∧ a ≤ b))) ∧ w = w' := by
  by_cases h : 0 ≤ a
  · have e : decide (0 ≤ a ∧ a ≤ b) = decide (a ≤ b) := by simp [h]
    rw [e]
    go_enter Try.func50, Try.ntmps50
    go_wp2
    go_ret
    exact ⟨rfl, rfl⟩
  · have e : decide (0 ≤ a ∧ a ≤ b) = false := by simp [h]
    rw [e]
    clear e
    go_enter Try.func50, Try.ntmps50
    go_wp2
    go_ret
    exact ⟨rfl, rfl⟩
section
variable (A B : Option Addr) (n m c d : Nat) (l cs : List Int) (w : World) (hl : InI w A n l) (hc : InI w B m cs) (hn63 : n ≤ 9223372036854775807) (hm63 : m ≤ 9223372036854775807)
include hl hc hn63 hm63
set_option maxRecDepth 100000 in
theorem check_any : Calls Try.prog 39 #[.slice A n c, .slice B m d] w fun e w' => e = .returned (.int .i64 (chkP l cs)) ∧ w = w' := by
  have hln := hl.ln; have hcn := hc.ln
  by_cases hbad : n < 1 ∨ 8 < n ∨ m ≠ n
  · have e : chkP l cs = 3 := by unfold chkP; rw [if_neg (by omega)]
    rw [e]
    clear e hl hc hln hcn
    rcases (by omega : n < 1 ∨ (1 ≤ n ∧ 8 < n) ∨ (1 ≤ n ∧ n ≤ 8 ∧ m ≠ n)) with h | ⟨h, h2⟩ | ⟨h, h2, h3⟩
    · go_enter Try.func39, Try.ntmps39
      go_wp2_with fail
      go_ret
      exact ⟨rfl, rfl⟩
    · have h' : (1 : Int) ≤ (n : Int) := by omega
      have h2' : (8 : Int) < (n : Int) := by omega
      go_enter Try.func39, Try.ntmps39
      go_wp2_with fail
      go_ret
      exact ⟨rfl, rfl⟩
    · have h' : (1 : Int) ≤ (n : Int) := by omega
      have h2' : (n : Int) ≤ 8 := by omega
      have h3' : ((m : Int) == (n : Int)) = false := by rw [beq_eq_false_iff_ne]; omega
      have h4' : ((m : Int) != (n : Int)) = true := by rw [bne_iff_ne]; omega
      clear hbad
      go_enter Try.func39, Try.ntmps39
      go_wp2_with fail
      go_ret
      exact ⟨rfl, rfl⟩
  · have hmn : m = n := by omega
    subst hmn
    have h' : (1 : Int) ≤ (m : Int) := by omega
    have h2' : (m : Int) ≤ 8 := by omega
    have e : chkP l cs = if okK l cs m = true then 0 else 1 := by unfold chkP; rw [if_pos (by omega), hln]
    obtain ⟨v, hv⟩ : ∃ v, chkP l cs = v := ⟨_, rfl⟩
    have HV : Hid ((okK l cs m = true → (0 : Int) = v) ∧ (okK l cs m = false → (1 : Int) = v)) := ⟨fun h => by rw [← hv, e, if_pos h], fun h => by rw [← hv, e, if_neg (by rw [h]; decide)]⟩
    rw [hv]
    have HLN := Lib.hid hln; have HCN := Lib.hid hcn
    clear hbad e hln hcn hv
    go_enter Try.func39, Try.ntmps39
    go_wp2_with fail
    go_loop [24] (fun v => ∃ i : Nat, i ≤ m ∧ v = .int .i64 i ∧ okK l cs i = true) (fun v => m - (intOf v).toNat)
    case atStart => exact ⟨0, by omega, rfl, rfl⟩
    case round =>
      obtain ⟨i, him, rfl, hok⟩ := hrel
      have HOK := Lib.hid hok; clear hok
      by_cases hlt : i < m
      · obtain ⟨b1, o1, rfl, _, hc1⟩ := hl.get hlt
        obtain ⟨b2, o2, rfl, _, hc2⟩ := hc.get hlt
        have hi1 := fun w => idxI b1 o1 m c i hlt w
        have hi2 := fun w => idxI b2 o2 m d i hlt w
        have hs := okK_succ l cs i
        rw [HOK.out, Bool.true_and] at hs
        have hno := okK_no l cs i m
        generalize l.getD i 0 = x at *
        generalize cs.getD i 0 = y at *
        by_cases hy : 0 ≤ y ∧ y ≤ 1000
        · by_cases hx : 0 ≤ x ∧ x ≤ y
          · have hs2 : okK l cs (i + 1) = true := by rw [hs]; unfold okAt; exact decide_eq_true ⟨hy.1, hy.2, hx.1, hx.2⟩
            have e1 : decide (0 ≤ y ∧ y ≤ 1000) = true := decide_eq_true hy
            have e2 : decide (0 ≤ x ∧ x ≤ y) = true := decide_eq_true hx
            have W1 := within_any y 1000; have W2 := within_any x y
            rw [e1] at W1; rw [e2] at W2
            have W1 := Lib.hid W1; have W2 := Lib.hid W2
            have HS := Lib.hid hs2
            clear hs hs2 hno e1 e2 hx hy
            go_wp2_with fail
            refine (W1.out _).mono ?_; rintro e w' ⟨rfl, rfl⟩
            go_wp2_with fail
            refine (W2.out _).mono ?_; rintro e w' ⟨rfl, rfl⟩
            go_wp2_with fail
            go_round
            case rel => exact ⟨i + 1, by omega, by go_num, HS.out⟩
            case measure => simp [intOf]; omega
          · have e1 : decide (0 ≤ y ∧ y ≤ 1000) = true := decide_eq_true hy
            have e2 : decide (0 ≤ x ∧ x ≤ y) = false := decide_eq_false hx
            have W1 := within_any y 1000; have W2 := within_any x y
            rw [e1] at W1; rw [e2] at W2
            have HN := Lib.hid (hno (by unfold okAt; exact decide_eq_false (fun h => hx ⟨h.2.2.1, h.2.2.2⟩)) hlt)
            have W1 := Lib.hid W1; have W2 := Lib.hid W2
            clear hs hno e1 e2 hx hy
            go_wp2_with fail
            refine (W1.out _).mono ?_; rintro e w' ⟨rfl, rfl⟩
            go_wp2_with fail
            refine (W2.out _).mono ?_; rintro e w' ⟨rfl, rfl⟩
            go_wp2_with fail
            go_ret
            exact ⟨ret_int (HV.out.2 HN.out), rfl⟩
        · have e1 : decide (0 ≤ y ∧ y ≤ 1000) = false := decide_eq_false hy
          have W1 := within_any y 1000
          rw [e1] at W1
          have HN := Lib.hid (hno (by unfold okAt; exact decide_eq_false (fun h => hy ⟨h.1, h.2.1⟩)) hlt)
          have W1 := Lib.hid W1
          clear hs hno e1 hy
          go_wp2_with fail
          refine (W1.out _).mono ?_; rintro e w' ⟨rfl, rfl⟩
          go_wp2_with fail
          go_ret
          exact ⟨ret_int (HV.out.2 HN.out), rfl⟩
      · obtain rfl : i = m := by omega
        go_wp2_with fail
        go_ret
        exact ⟨ret_int (HV.out.1 HOK.out), rfl⟩
end
section
variable (A B : Option Addr) (n m c d : Nat) (l cs : List Int) (w : World) (hl : InI w A n l) (hn63 : n ≤ 9223372036854775807)
include hl hn63
theorem greatest_any (hn : 0 < n) : Calls Try.prog 41 #[.slice A n c] w fun e w' => e = .returned (.int .i64 (frmK l n : Int)) ∧ w = w' := by
  have hln := hl.ln
  obtain ⟨b, off, rfl, _, hcell⟩ := hl.at_ hn
  have hcz : ∀ j, j < l.length → w.cell? ⟨b, off + j, none⟩ = some (.int .i64 (l.getD j 0)) := fun j hj => hcell j _ (by rw [List.getD_eq_getElem?_getD, List.getElem?_eq_getElem hj]; rfl)
  have hM := Try.slices_Max_int b off n c l w hn (by omega) hn63 hcz
  have hI := Try.slices_Index_int b off n c l (Lib.maxOf (l.take n)) w (by omega) hn63 hcz
  have hx := idx_frm l (by omega)
  rw [List.take_of_length_le (by omega)] at hM hI
  rw [hx, hln] at hI
  have HM := Lib.hid hM; have HI := Lib.hid hI
  clear hM hI hx hcell hcz hln hl
  go_enter Try.func41, Try.ntmps41
  go_wp2_with fail
  refine HM.out.mono ?_; rintro e w1 ⟨rfl, hw⟩
  subst hw
  go_wp2_with fail
  refine HI.out.mono ?_; rintro e w1 ⟨rfl, hw⟩
  subst hw
  go_wp2_with fail
  go_ret
  exact ⟨rfl, rfl⟩
theorem least_any (hc : InI w B m cs) (hmn : m = n) : Calls Try.prog 42 #[.slice A n c, .slice B m d] w fun e w' => e = .returned (.int .i64 (tgtK l cs n)) ∧ w = w' := by
  subst hmn
  have hm63 := hn63
  go_enter Try.func42, Try.ntmps42
  go_wp2_with fail
  go_loop [5, 10] (fun v i => ∃ k : Nat, k ≤ m ∧ i = .int .i64 k ∧ v = .int .i64 (tgtK l cs k)) (fun _ i => m - (intOf i).toNat)
  case atStart => exact ⟨0, by omega, rfl, rfl⟩
  case round =>
    obtain ⟨k, hkm, rfl, rfl⟩ := hrel
    by_cases hlt : k < m
    · obtain ⟨b1, o1, hA, _, hc1⟩ := hl.get hlt
      obtain ⟨b2, o2, hB, _, hc2⟩ := hc.get hlt
      have hbd := tgtK_bd l cs k
      have hstep : tgtK l cs (k + 1) = if l.getD k 0 < cs.getD k 0 ∧ (tgtK l cs k < 0 ∨ l.getD k 0 < l.getD (tgtK l cs k).toNat 0) then (k : Int) else tgtK l cs k := rfl
      have hc3 : 0 ≤ tgtK l cs k → ∃ t : Nat, tgtK l cs k = (t : Int) ∧ t < m ∧ w.cell? ⟨b1, o1 + t, none⟩ = some (.int .i64 (l.getD t 0)) := fun h => by
        obtain ⟨t, ht⟩ := Int.eq_ofNat_of_zero_le h
        obtain ⟨b', o', hA', _, hc'⟩ := hl.get (show t < m by omega)
        rw [hA] at hA'
        injection hA' with hA'
        injection hA' with e1 e2
        subst e1 e2
        exact ⟨t, ht, by omega, hc'⟩
      subst hA hB
      have hi1 := fun w => idxI b1 o1 m c k hlt w
      have hi2 := fun w => idxI b2 o2 m d k hlt w
      have HST := Lib.hid hstep; clear hstep
      by_cases h1 : l.getD k 0 < cs.getD k 0
      · by_cases h2 : tgtK l cs k < 0
        · have hs : tgtK l cs (k + 1) = (k : Int) := by rw [HST.out, if_pos ⟨h1, Or.inl h2⟩]
          have HS := Lib.hid hs
          clear hs HST hc3 hl hc
          generalize tgtK l cs k = tk at *
          go_wp2_with fail
          go_round
          case rel => exact ⟨k + 1, by omega, by go_num, by rw [HS.out]⟩
          case measure => simp [intOf]; omega
        · obtain ⟨t, ht, htm, hc4⟩ := hc3 (by omega)
          have hi3 := fun w => idxI b1 o1 m c t htm w
          rw [ht] at HST ⊢
          rw [Int.toNat_natCast] at HST
          have ht0 : ¬ ((t : Int) < 0) := by omega
          by_cases h3 : l.getD k 0 < l.getD t 0
          · have hs : tgtK l cs (k + 1) = (k : Int) := by rw [HST.out, if_pos ⟨h1, Or.inr h3⟩]
            have HS := Lib.hid hs
            clear hs HST hc3 hl hc ht h2 hbd
            generalize l.getD k 0 = x at *
            generalize l.getD t 0 = z at *
            go_wp2_with fail
            go_round
            case rel => exact ⟨k + 1, by omega, by go_num, by rw [HS.out]⟩
            case measure => simp [intOf]; omega
          · have hs : tgtK l cs (k + 1) = (t : Int) := by rw [HST.out, if_neg (by rintro ⟨_, h | h⟩; omega; exact h3 h)]
            have HS := Lib.hid hs
            clear hs HST hc3 hl hc ht h2 hbd
            generalize l.getD k 0 = x at *
            generalize l.getD t 0 = z at *
            go_wp2_with fail
            go_round
            case rel => exact ⟨k + 1, by omega, by go_num, by rw [HS.out]⟩
            case measure => simp [intOf]; omega
      · have hs : tgtK l cs (k + 1) = tgtK l cs k := by rw [HST.out, if_neg (fun h => h1 h.1)]
        have HS := Lib.hid hs
        clear hs HST hc3 hl hc
        generalize tgtK l cs k = tk at *
        go_wp2_with fail
        go_round
        case rel => exact ⟨k + 1, by omega, by go_num, by rw [HS.out]⟩
        case measure => simp [intOf]; omega
    · obtain rfl : k = m := by omega
      clear hl hc
      go_wp2_with fail
      go_ret
      exact ⟨rfl, rfl⟩
end
end Go.Proofs.Ytmheafagafdnlaa
