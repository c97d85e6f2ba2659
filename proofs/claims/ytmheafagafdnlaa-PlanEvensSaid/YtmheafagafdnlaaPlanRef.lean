/- The reference of layer 30: Right, Next. -/
import Derived.Test.YtmheafagafdnlaaPlan
namespace Go.Proofs.Ytmheafagafdnlaa
open Go.RowKit
set_option linter.unusedVariables false
set_option linter.unusedSimpArgs false
attribute [local go_sem] World.cell?_alloc_lt

theorem sub_sm {a b : Int} (h0 : -4000000000000000000 ≤ a) (h1 : a ≤ 4000000000000000000) (h2 : -4000000000000000000 ≤ b) (h3 : b ≤ 4000000000000000000) : IntKind.i64.wrap (a - b) = a - b := i64_sm (by omega) (by omega)
section
variable (A B : Option Addr) (n m c d : Nat) (l cs : List Int) (w : World) (hl : InI w A n l) (hc : InI w B m cs) (hn63 : n ≤ 9223372036854775807) (hm63 : m ≤ 9223372036854775807)
include hl hc hn63 hm63
set_option maxRecDepth 100000 in
set_option maxHeartbeats 1000000 in
theorem right_any : Calls Try.prog 24 #[.slice A n c, .slice B m d] w fun e w' => e = .returned (.int .i64 (chkP l cs)) ∧ ∃ k, w' = w.drewN k := by
  have hln := hl.ln; have hcn := hc.ln
  by_cases hbad : n < 1 ∨ 8 < n ∨ m ≠ n
  · have e : chkP l cs = 3 := by unfold chkP; rw [if_neg (by omega)]
    rw [e]
    clear e hl hc hln hcn
    rcases (by omega : n < 1 ∨ (1 ≤ n ∧ 8 < n) ∨ (1 ≤ n ∧ n ≤ 8 ∧ m ≠ n)) with h | ⟨h, h2⟩ | ⟨h, h2, h3⟩
    · go_enter Try.func24, Try.ntmps24
      go_wp2_with fail
      go_ret
      exact ⟨rfl, 0, rfl⟩
    · have h' : (1 : Int) ≤ (n : Int) := by omega
      have h2' : (8 : Int) < (n : Int) := by omega
      go_enter Try.func24, Try.ntmps24
      go_wp2_with fail
      go_ret
      exact ⟨rfl, 0, rfl⟩
    · have h' : (1 : Int) ≤ (n : Int) := by omega
      have h2' : (n : Int) ≤ 8 := by omega
      have h3' : ((m : Int) == (n : Int)) = false := by rw [beq_eq_false_iff_ne]; omega
      have h4' : ((m : Int) != (n : Int)) = true := by rw [bne_iff_ne]; omega
      clear hbad
      go_enter Try.func24, Try.ntmps24
      go_wp2_with fail
      go_ret
      exact ⟨rfl, 0, rfl⟩
  · have hmn : m = n := by omega
    subst hmn
    have h' : (1 : Int) ≤ (m : Int) := by omega
    have h2' : (m : Int) ≤ 8 := by omega
    have e : chkP l cs = if okK l cs m = true then 0 else 1 := by unfold chkP; rw [if_pos (by omega), hln]
    obtain ⟨v, hv⟩ : ∃ v, chkP l cs = v := ⟨_, rfl⟩
    have HV : Hid ((okK l cs m = true → (0 : Int) = v) ∧ (okK l cs m = false → (1 : Int) = v)) := ⟨fun h => by rw [← hv, e, if_pos h], fun h => by rw [← hv, e, if_neg (by rw [h]; decide)]⟩
    rw [hv]
    have HLN := Lib.hid hln; have HCN := Lib.hid hcn
    clear hbad e hln hcn hv
    go_enter Try.func24, Try.ntmps24
    go_wp2_with fail
    go_loopw [5] (fun v wr => ∃ (i q : Nat), i ≤ m ∧ v = .int .i64 i ∧ okK l cs i = true ∧ wr = w.drewN q) (fun v _ => m - (intOf v).toNat)
    case atStart => exact ⟨0, 0, by omega, rfl, rfl, rfl⟩
    case round =>
      obtain ⟨i, q, him, rfl, hok, rfl⟩ := hrel
      have HOK := Lib.hid hok; clear hok
      by_cases hlt : i < m
      · obtain ⟨b1, o1, rfl, _, hc1⟩ := hl.get hlt
        obtain ⟨b2, o2, rfl, _, hc2⟩ := hc.get hlt
        have hi1 := fun w => idxI b1 o1 m c i hlt w
        have hi2 := fun w => idxI b2 o2 m d i hlt w
        have hs := okK_succ l cs i
        rw [HOK.out, Bool.true_and] at hs
        have hno := okK_no l cs i m
        generalize l.getD i 0 = x at *
        generalize cs.getD i 0 = y at *
        clear hl hc
        by_cases hok : okAt x y = true
        · have hb : 0 ≤ y ∧ y ≤ 1000 ∧ 0 ≤ x ∧ x ≤ y := of_decide_eq_true hok
          obtain ⟨g1, g2, g3, g4⟩ := hb
          have g5 : x ≤ 1000 := by omega
          have HS := Lib.hid (hs.trans hok)
          clear hs hno hok
          have f1 : decide (x < 0) = false := decide_eq_false (by omega)
          have f2 : decide (1000 < x) = false := decide_eq_false (by omega)
          have f3 : decide (y < 0) = false := decide_eq_false (by omega)
          have f4 : decide (1000 < y) = false := decide_eq_false (by omega)
          have f5 : decide (y < x) = false := decide_eq_false (by omega)
          go_wp2_with fail
          go_quiet (fail)
          clear f1 f2 f3 f4 f5
          go_wp2_with fail
          go_roundw
          case rel => exact ⟨i + 1, _, by omega, by go_num, HS.out, by first | rfl | rw [World.drewN_drewN]⟩
          case measure => simp [intOf]; omega
        · have HN := Lib.hid (hno (by simpa using hok) hlt)
          have hcases : x < 0 ∨ (0 ≤ x ∧ 1000 < x) ∨ (0 ≤ x ∧ x ≤ 1000 ∧ y < 0) ∨ (0 ≤ x ∧ x ≤ 1000 ∧ 0 ≤ y ∧ 1000 < y) ∨ (0 ≤ x ∧ x ≤ 1000 ∧ 0 ≤ y ∧ y ≤ 1000 ∧ y < x) := by
            have hb : ¬ (0 ≤ y ∧ y ≤ 1000 ∧ 0 ≤ x ∧ x ≤ y) := fun h => hok (decide_eq_true h)
            omega
          clear hs hno hok
          rcases hcases with h | ⟨ha, h⟩ | ⟨ha, hb, h⟩ | ⟨ha, hb, hcc, h⟩ | ⟨ha, hb, hcc, hd, h⟩
          · have f1 : decide (x < 0) = true := decide_eq_true h
            go_wp2_with fail
            go_quiet (fail)
            clear f1
            go_wp2_with fail
            go_ret
            exact ⟨ret_int (HV.out.2 HN.out), _, by first | rfl | rw [World.drewN_drewN]⟩
          · have f1 : decide (x < 0) = false := decide_eq_false (by omega)
            have f2 : decide (1000 < x) = true := decide_eq_true h
            go_wp2_with fail
            go_quiet (fail)
            clear f1 f2
            go_wp2_with fail
            go_ret
            exact ⟨ret_int (HV.out.2 HN.out), _, by first | rfl | rw [World.drewN_drewN]⟩
          · have f1 : decide (x < 0) = false := decide_eq_false (by omega)
            have f2 : decide (1000 < x) = false := decide_eq_false (by omega)
            have f3 : decide (y < 0) = true := decide_eq_true h
            go_wp2_with fail
            go_quiet (fail)
            clear f1 f2 f3
            go_wp2_with fail
            go_ret
            exact ⟨ret_int (HV.out.2 HN.out), _, by first | rfl | rw [World.drewN_drewN]⟩
          · have f1 : decide (x < 0) = false := decide_eq_false (by omega)
            have f2 : decide (1000 < x) = false := decide_eq_false (by omega)
            have f3 : decide (y < 0) = false := decide_eq_false (by omega)
            have f4 : decide (1000 < y) = true := decide_eq_true h
            go_wp2_with fail
            go_quiet (fail)
            clear f1 f2 f3 f4
            go_wp2_with fail
            go_ret
            exact ⟨ret_int (HV.out.2 HN.out), _, by first | rfl | rw [World.drewN_drewN]⟩
          · have f1 : decide (x < 0) = false := decide_eq_false (by omega)
            have f2 : decide (1000 < x) = false := decide_eq_false (by omega)
            have f3 : decide (y < 0) = false := decide_eq_false (by omega)
            have f4 : decide (1000 < y) = false := decide_eq_false (by omega)
            have f5 : decide (y < x) = true := decide_eq_true h
            go_wp2_with fail
            go_quiet (fail)
            clear f1 f2 f3 f4 f5
            go_wp2_with fail
            go_ret
            exact ⟨ret_int (HV.out.2 HN.out), _, by first | rfl | rw [World.drewN_drewN]⟩
      · obtain rfl : i = m := by omega
        clear hl hc
        go_wp2_with fail
        go_ret
        exact ⟨ret_int (HV.out.1 HOK.out), _, rfl⟩
def nxtV : Option (Nat × Nat) → Value
  | none => .tuple #[.int .i64 0, .int .i64 0, .bool false]
  | some (f, t) => .tuple #[.int .i64 (f : Int), .int .i64 (t : Int), .bool true]
set_option maxRecDepth 100000 in
set_option maxHeartbeats 1000000 in
theorem next_any (hmn : m = n) (hn1 : 0 < n) (hb : ∀ i, i < n → 0 ≤ l.getD i 0 ∧ l.getD i 0 ≤ 1000) : Calls Try.prog 25 #[.slice A n c, .slice B m d] w fun e w' => e = .returned (nxtV (nxt l cs)) ∧ ∃ k, w' = w.drewN k := by
  subst hmn
  have hln := hl.ln
  obtain ⟨v, hv⟩ : ∃ v, nxtV (nxt l cs) = v := ⟨_, rfl⟩
  have HV : Hid ((tgtK l cs m < 0 → v = .tuple #[.int .i64 0, .int .i64 0, .bool false]) ∧ ∀ t : Nat, tgtK l cs m = (t : Int) → (l.getD (frmK l m) 0 - l.getD t 0 ≤ 1 → v = .tuple #[.int .i64 0, .int .i64 0, .bool false]) ∧ (1 < l.getD (frmK l m) 0 - l.getD t 0 → v = .tuple #[.int .i64 (frmK l m : Int), .int .i64 (t : Int), .bool true])) := by
    subst hv
    unfold nxt
    rw [hln]
    refine ⟨fun h => by rw [if_pos (Or.inl h)]; rfl, fun t ht => ⟨fun h => ?_, fun h => ?_⟩⟩
    · rw [ht, Int.toNat_natCast, if_pos (Or.inr h)]; rfl
    · rw [ht, Int.toNat_natCast, if_neg (by omega)]; rfl
  rw [hv]
  have HB := Lib.hid hb
  clear hv hln hb
  go_enter Try.func25, Try.ntmps25
  go_wp2_with fail
  go_loopw [7, 8] (fun v i wr => ∃ (k q : Nat), k ≤ m ∧ i = .int .i64 k ∧ v = .int .i64 (frmK l k : Int) ∧ wr = w.drewN q) (fun _ i _ => m - (intOf i).toNat)
  case atStart => exact ⟨0, 0, by omega, rfl, rfl, rfl⟩
  case round =>
    obtain ⟨k, q, hkm, rfl, rfl, rfl⟩ := hrel
    by_cases hlt : k < m
    · obtain ⟨b1, o1, hA, _, hc1⟩ := hl.get hlt
      have hfl := frmK_le l k
      have hstep : frmK l (k + 1) = if l.getD (frmK l k) 0 < l.getD k 0 then k else frmK l k := rfl
      have hfm : frmK l k < m := by omega
      obtain ⟨b', o', hA', _, hc2⟩ := hl.get hfm
      rw [hA] at hA'
      injection hA' with hA'
      injection hA' with e1 e2
      subst e1 e2
      subst hA
      have hi1 := fun w => idxI b1 o1 m c k hlt w
      have hi2 := fun w => idxI b1 o1 m c (frmK l k) hfm w
      have HST := Lib.hid hstep; clear hstep hl hc
      generalize frmK l k = f at *
      by_cases h1 : l.getD f 0 < l.getD k 0
      · have HS := Lib.hid (HST.out.trans (if_pos h1))
        have d1 : decide (l.getD f 0 < l.getD k 0) = true := decide_eq_true h1
        generalize l.getD f 0 = x at *
        generalize l.getD k 0 = y at *
        go_wp2_with fail
        go_quiet (fail)
        clear d1
        go_wp2_with fail
        go_roundw
        case rel => exact ⟨k + 1, _, by omega, by go_num, by rw [HS.out], rfl⟩
        case measure => simp [intOf]; omega
      · have HS := Lib.hid (HST.out.trans (if_neg h1))
        have d1 : decide (l.getD f 0 < l.getD k 0) = false := decide_eq_false h1
        generalize l.getD f 0 = x at *
        generalize l.getD k 0 = y at *
        go_wp2_with fail
        go_quiet (fail)
        clear d1
        go_wp2_with fail
        go_roundw
        case rel => exact ⟨k + 1, _, by omega, by go_num, by rw [HS.out], rfl⟩
        case measure => simp [intOf]; omega
    · obtain rfl : k = m := by omega
      have hfm := frmK_lt l k hn1
      have hff := hl.get hfm
      have hf0 := HB.out _ hfm
      generalize hfe : frmK l k = f at *
      have HFE := Lib.hid hfe; clear hfe
      go_wp2_with fail
      go_loopw [9, 10] (fun v i wr => ∃ (j q : Nat), j ≤ k ∧ i = .int .i64 j ∧ v = .int .i64 (tgtK l cs j) ∧ wr = w.drewN q) (fun _ i _ => k - (intOf i).toNat)
      case atStart => exact ⟨0, _, by omega, rfl, rfl, rfl⟩
      case round =>
        obtain ⟨j, q, hjm, rfl, rfl, rfl⟩ := hrel
        by_cases hlt : j < k
        · obtain ⟨b1, o1, hA, _, hc1⟩ := hl.get hlt
          obtain ⟨b2, o2, hB, _, hc2⟩ := hc.get hlt
          have hbd := tgtK_bd l cs j
          have hstep : tgtK l cs (j + 1) = if l.getD j 0 < cs.getD j 0 ∧ (tgtK l cs j < 0 ∨ l.getD j 0 < l.getD (tgtK l cs j).toNat 0) then (j : Int) else tgtK l cs j := rfl
          have hc3 : 0 ≤ tgtK l cs j → ∃ t : Nat, tgtK l cs j = (t : Int) ∧ t < k ∧ w.cell? ⟨b1, o1 + t, none⟩ = some (.int .i64 (l.getD t 0)) := fun h => by
            obtain ⟨t, ht⟩ := Int.eq_ofNat_of_zero_le h
            obtain ⟨b', o', hA', _, hc'⟩ := hl.get (show t < k by omega)
            rw [hA] at hA'
            injection hA' with hA'
            injection hA' with e1 e2
            subst e1 e2
            exact ⟨t, ht, by omega, hc'⟩
          subst hA hB
          have hi1 := fun w => idxI b1 o1 k c j hlt w
          have hi2 := fun w => idxI b2 o2 k d j hlt w
          have HST := Lib.hid hstep; clear hstep hff hf0
          by_cases h1 : l.getD j 0 < cs.getD j 0
          · have d1 : decide (l.getD j 0 < cs.getD j 0) = true := decide_eq_true h1
            by_cases h2 : tgtK l cs j < 0
            · have hs : tgtK l cs (j + 1) = (j : Int) := by rw [HST.out, if_pos ⟨h1, Or.inl h2⟩]
              have HS := Lib.hid hs
              have d2 : decide (tgtK l cs j < 0) = true := decide_eq_true h2
              clear hs HST hc3 hl hc
              generalize tgtK l cs j = tk at *
              generalize l.getD j 0 = x at *
              generalize cs.getD j 0 = y at *
              go_wp2_with fail
              go_quiet (fail)
              clear d1 d2
              go_wp2_with fail
              go_roundw
              case rel => exact ⟨j + 1, _, by omega, by go_num, by rw [HS.out], rfl⟩
              case measure => simp [intOf]; omega
            · obtain ⟨t, ht, htm, hc4⟩ := hc3 (by omega)
              have hi3 := fun w => idxI b1 o1 k c t htm w
              rw [ht] at HST ⊢
              rw [Int.toNat_natCast] at HST
              have ht0 : ¬ ((t : Int) < 0) := by omega
              have d2 : decide ((t : Int) < 0) = false := decide_eq_false ht0
              by_cases h3 : l.getD j 0 < l.getD t 0
              · have hs : tgtK l cs (j + 1) = (j : Int) := by rw [HST.out, if_pos ⟨h1, Or.inr h3⟩]
                have HS := Lib.hid hs
                have d3 : decide (l.getD j 0 < l.getD t 0) = true := decide_eq_true h3
                clear hs HST hc3 hl hc ht h2 hbd
                generalize l.getD j 0 = x at *
                generalize l.getD t 0 = z at *
                generalize cs.getD j 0 = y at *
                go_wp2_with fail
                go_quiet (fail)
                clear d1 d2 d3
                go_wp2_with fail
                go_roundw
                case rel => exact ⟨j + 1, _, by omega, by go_num, by rw [HS.out], rfl⟩
                case measure => simp [intOf]; omega
              · have hs : tgtK l cs (j + 1) = (t : Int) := by rw [HST.out, if_neg (by rintro ⟨_, h | h⟩; omega; exact h3 h)]
                have HS := Lib.hid hs
                have d3 : decide (l.getD j 0 < l.getD t 0) = false := decide_eq_false h3
                clear hs HST hc3 hl hc ht h2 hbd
                generalize l.getD j 0 = x at *
                generalize l.getD t 0 = z at *
                generalize cs.getD j 0 = y at *
                go_wp2_with fail
                go_quiet (fail)
                clear d1 d2 d3
                go_wp2_with fail
                go_roundw
                case rel => exact ⟨j + 1, _, by omega, by go_num, by rw [HS.out], rfl⟩
                case measure => simp [intOf]; omega
          · have hs : tgtK l cs (j + 1) = tgtK l cs j := by rw [HST.out, if_neg (fun h => h1 h.1)]
            have HS := Lib.hid hs
            have d1 : decide (l.getD j 0 < cs.getD j 0) = false := decide_eq_false h1
            clear hs HST hc3 hl hc
            generalize tgtK l cs j = tk at *
            generalize l.getD j 0 = x at *
            generalize cs.getD j 0 = y at *
            go_wp2_with fail
            go_quiet (fail)
            clear d1
            go_wp2_with fail
            go_roundw
            case rel => exact ⟨j + 1, _, by omega, by go_num, by rw [HS.out], rfl⟩
            case measure => simp [intOf]; omega
        · obtain rfl : j = k := by omega
          have hbd := tgtK_bd l cs j
          have hv1 := HV.out.1
          have hv2 := HV.out.2
          have hall := HB.out
          obtain ⟨b1, o1, hA, _, hc1⟩ := hff
          by_cases h2 : tgtK l cs j < 0
          · have HE := Lib.hid (hv1 h2)
            have d2 : decide (tgtK l cs j < 0) = true := decide_eq_true h2
            clear hv1 hv2 hl hc hall hf0 HV
            generalize tgtK l cs j = tk at *
            go_wp2_with fail
            go_quiet (fail)
            clear d2
            go_wp2_with fail
            go_ret3
            exact ⟨by rw [HE.out]; rfl, _, by rw [World.drewN_drewN]⟩
          · obtain ⟨t, ht⟩ := Int.eq_ofNat_of_zero_le (show 0 ≤ tgtK l cs j by omega)
            have htm : t < j := by omega
            obtain ⟨hv3, hv4⟩ := hv2 t ht
            obtain ⟨b', o', hA', _, hc2⟩ := hl.get htm
            rw [hA] at hA'
            injection hA' with hA'
            injection hA' with e1 e2
            subst e1 e2
            subst hA
            have ht0 := hall t htm
            have hi1 := fun w => idxI b1 o1 j c f hfm w
            have hi2 := fun w => idxI b1 o1 j c t htm w
            have d2 : decide ((t : Int) < 0) = false := decide_eq_false (by omega)
            rw [ht]
            have d0 : IntKind.i64.wrap (l.getD f 0 - l.getD t 0) = l.getD f 0 - l.getD t 0 := sub_sm (by omega) (by omega) (by omega) (by omega)
            by_cases h3 : l.getD f 0 - l.getD t 0 ≤ 1
            · have HE := Lib.hid (hv3 h3)
              have d3 : decide (l.getD f 0 - l.getD t 0 ≤ 1) = true := decide_eq_true h3
              clear hv1 hv2 hv3 hv4 hl hc hall HV ht h2 hbd
              generalize l.getD f 0 = x at *
              generalize l.getD t 0 = z at *
              go_wp2_with fail
              go_quiet (fail)
              clear d2 d3 d0
              go_wp2_with fail
              go_ret3
              exact ⟨by rw [HE.out]; rfl, _, by rw [World.drewN_drewN]⟩
            · have HE := Lib.hid (hv4 (by omega))
              have d3 : decide (l.getD f 0 - l.getD t 0 ≤ 1) = false := decide_eq_false h3
              clear hv1 hv2 hv3 hv4 hl hc hall HV ht h2 hbd
              generalize l.getD f 0 = x at *
              generalize l.getD t 0 = z at *
              go_wp2_with fail
              go_quiet (fail)
              clear d2 d3 d0
              go_wp2_with fail
              go_ret3
              exact ⟨by rw [HE.out]; rfl, _, by rw [World.drewN_drewN]⟩
end
end Go.Proofs.Ytmheafagafdnlaa
