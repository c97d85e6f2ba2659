/- The law PlanSums. -/
import Derived.Test.YtmheafagafdnlaaPlanAgain
namespace Go.Proofs.Ytmheafagafdnlaa
open Go.RowKit
set_option linter.unusedVariables false
set_option linter.unusedSimpArgs false
attribute [local go_sem] World.cell?_alloc_lt

def sumL (l : List Int) (k : Nat) : Int := (l.take k).sum
theorem sumL_succ (l : List Int) (k : Nat) (h : k < l.length) : sumL l (k + 1) = sumL l k + l.getD k 0 := by
  unfold sumL
  rw [List.take_succ_eq_append_getElem h, List.sum_append, List.getD_eq_getElem?_getD, List.getElem?_eq_getElem h]
  simp
theorem sumL_all (l : List Int) : sumL l l.length = sumG (fun x => x) l := by
  unfold sumL sumG
  rw [List.take_length, List.map_id']
theorem sum_mv {l c : List Int} {f t : Nat} (hn : nxt l c = some (f, t)) (h0 : 0 < l.length) : sumG (fun x => x) (mv l f t) = sumG (fun x => x) l := by
  obtain ⟨hf, ht, hne, _, _, _, _⟩ := nxt_some hn h0
  rw [sumG_mv _ l f t hf ht hne]
  omega
/-- Bounds of all loads stay bounds. -/
theorem bd_mv {l c : List Int} {f t : Nat} {lo hi : Int} (hn : nxt l c = some (f, t)) (h0 : 0 < l.length) (h : ∀ i, i < l.length → lo ≤ l.getD i 0 ∧ l.getD i 0 ≤ hi) : ∀ i, i < (mv l f t).length → lo ≤ (mv l f t).getD i 0 ∧ (mv l f t).getD i 0 ≤ hi := by
  obtain ⟨hf, ht, hne, hd, _, _, _⟩ := nxt_some hn h0
  intro i hi'
  rw [mv_len] at hi'
  rw [mv_at l f t i hf ht hne]
  have h1 := h f hf
  have h2 := h t ht
  have h3 := h i hi'
  split
  · omega
  · split
    · omega
    · exact h3
structure After_ (l c now : List Int) : Prop where
  len : now.length = l.length
  sum : sumG (fun x => x) now = sumG (fun x => x) l
  bd : ∀ lo hi, (∀ i, i < l.length → lo ≤ l.getD i 0 ∧ l.getD i 0 ≤ hi) → ∀ i, i < now.length → lo ≤ now.getD i 0 ∧ now.getD i 0 ≤ hi
theorem after_steps {l c now : List Int} {ms : List (Nat × Nat)} (h0 : 0 < l.length) (hs : steps c l ms = some now) : After_ l c now := by
  refine steps_inv c (fun x => After_ l c x) ?_ ms l now ⟨rfl, rfl, fun lo hi h => h⟩ hs
  intro x f t hx hn
  have hx0 : 0 < x.length := by rw [hx.len]; exact h0
  exact ⟨by rw [mv_len]; exact hx.len, (sum_mv hn hx0).trans hx.sum, fun lo hi h => bd_mv hn hx0 (hx.bd lo hi h)⟩
theorem spread_le {l c now : List Int} {ms : List (Nat × Nat)} (h0 : 0 < l.length) (hs : steps c l ms = some now) : spreadOf now ≤ spreadOf l := by
  have ha := after_steps h0 hs
  have h1 := ha.bd (Lib.minOf l) (Lib.maxOf l) (fun i hi => ⟨minOf_le l h0 i hi, maxOf_ge l h0 i hi⟩)
  have hn0 : 0 < now.length := by rw [ha.len]; exact h0
  obtain ⟨i, hi, hie⟩ := maxOf_at now hn0
  obtain ⟨j, hj, hje⟩ := minOf_at now hn0
  have := h1 i hi
  have := h1 j hj
  unfold spreadOf
  omega
theorem spread_one {l c now : List Int} {ms : List (Nat × Nat)} {top : Int} (hF : Fit l c) (hs : steps c l ms = some now) (hn : nxt now c = none) (ht : ∀ i, i < l.length → l.getD i 0 ≤ top) (hc : ∀ i, i < c.length → top ≤ c.getD i 0) : spreadOf now ≤ 1 := by
  have h0 : 0 < l.length := hF.l1
  have ha := after_steps h0 hs
  have hFn := steps_fit hF hs
  have hb := ha.bd 0 top (fun i hi => ⟨(hF.ok i hi).2.2.1, ht i hi⟩)
  have hn0 : 0 < now.length := by rw [ha.len]; exact h0
  obtain ⟨i, hi, hie⟩ := maxOf_at now hn0
  obtain ⟨j, hj, hje⟩ := minOf_at now hn0
  have hbi := hb i hi
  have hcj := hc j (by have := hF.le; have := ha.len; omega)
  unfold spreadOf
  rcases nxt_none hn with h | ⟨t, htl, htc, h1, h2⟩
  · have := h j hj
    omega
  · have h3 := h1 i hi
    by_cases hjc : now.getD j 0 < c.getD j 0
    · have := h2 j hj hjc
      omega
    · omega
def topK (l : List Int) : Nat → Int
  | 0 => 0
  | k + 1 => max (topK l k) (l.getD k 0)
theorem topK_ge (l : List Int) (k : Nat) : ∀ i, i < k → l.getD i 0 ≤ topK l k := by
  induction k with
  | zero => intro i h; omega
  | succ k ih =>
    intro i hi
    unfold topK
    by_cases h : i = k
    · subst h; omega
    · have := ih i (by omega); omega
theorem topK_bd (l : List Int) (k : Nat) (B : Int) (hB : 0 ≤ B) (h : ∀ i, i < k → l.getD i 0 ≤ B) : 0 ≤ topK l k ∧ topK l k ≤ B := by
  induction k with
  | zero => unfold topK; omega
  | succ k ih =>
    have := ih (fun i hi => h i (by omega))
    have := h k (by omega)
    unfold topK
    omega
def freeK (c : List Int) (top : Int) : Nat → Bool
  | 0 => true
  | k + 1 => freeK c top k && decide (top ≤ c.getD k 0)
theorem freeK_all (c : List Int) (top : Int) (k : Nat) (h : freeK c top k = true) : ∀ i, i < k → top ≤ c.getD i 0 := by
  induction k with
  | zero => intro i hi; omega
  | succ k ih =>
    intro i hi
    unfold freeK at h
    rw [Bool.and_eq_true] at h
    by_cases e : i = k
    · subst e; exact of_decide_eq_true h.2
    · exact ih h.1 i (by omega)
theorem sumL_bd (l : List Int) (k : Nat) (hk : k ≤ l.length) (h : ∀ i, i < l.length → 0 ≤ l.getD i 0 ∧ l.getD i 0 ≤ 1000) : 0 ≤ sumL l k ∧ sumL l k ≤ 1000 * k := by
  induction k with
  | zero => simp [sumL]
  | succ k ih =>
    have := ih (by omega)
    rw [sumL_succ l k (by omega)]
    have := h k (by omega)
    omega
set_option maxRecDepth 100000 in
set_option maxHeartbeats 2000000 in
theorem planSums_walk (w0 : World) (a0 : Option Addr) (n0 c0 : Nat) (z0 : List Int) (h0 : InInts .i64 w0 a0 n0 z0) (y0 : n0 * 8 ≤ 140737488351232) (a1 : Option Addr) (n1 c1 : Nat) (z1 : List Int) (h1 : InInts .i64 w0 a1 n1 z1) (y1 : n1 * 8 ≤ 140737488351232) :
    Calls Try.prog 10 #[.slice a0 n0 c0, .slice a1 n1 c1] w0 fun e w' => e = .returned (.bool true) ∧ Below w0.heap.size w0 w' := by
  have hl := InI.inn h0
  have hc := InI.inn h1
  clear h0 h1
  generalize z0 = l at hl
  generalize z1 = cs at hc
  have hn0 : n0 ≤ 9223372036854775807 := by omega
  have hn1 : n1 ≤ 9223372036854775807 := by omega
  by_cases hck : chkP l cs = 0
  · have hF := fit_of hck
    have hev := even_yes a0 a1 n0 n1 c0 c1 l cs w0 hl hc hn0 hn1 hF
    have HE := Lib.hid hev; have HF := Lib.hid hF
    have hln := hl.ln; have hcn := hc.ln
    have hn8 : n0 ≤ 8 := by have := hF.l8; omega
    have hnn : n1 = n0 := by have := hF.le; omega
    have hn01 : 0 < n0 := by have := hF.l1; omega
    clear hev hck hF
    have HLN := Lib.hid hln; have HCN := Lib.hid hcn
    clear hln hcn
    subst hnn
    go_enter Try.func10, Try.ntmps10
    go_wp2_with fail
    refine HE.out.mono ?_; rintro e w1 ⟨A', ms, c', now, rfl, hown, hst, hnn, hml, hB⟩
    have HST := Lib.hid hst; have HNN := Lib.hid hnn; have HM := Lib.hid hown
    clear hst hnn hown HE
    go_wp2_with fail
    refine (plans_any w1).mono ?_; rintro e w2 ⟨rfl, hB2⟩
    have hB := bel_trans hB hB2
    have hM := own_chV HM.out (Ch.below hB2 []) (by simp)
    clear HM hB2
    have hap := apply_steps a0 A' n1 ms.length c0 c' w0.heap.size l cs now ms w2 (hl.below hB) hM rfl (by omega) (by omega) HF.out HST.out
    have HAP := Lib.hid hap
    clear hap hM
    go_wp2_with fail
    refine HAP.out.mono ?_; rintro e w3 ⟨g, cg, rfl, hown, hB3⟩
    have hB := bel_trans hB hB3
    have hN := InI.own hown
    have hl3 := hl.below hB
    have hc3 := hc.below hB
    have hFn := steps_fit HF.out HST.out
    have hokl : ∀ i, i < n1 → 0 ≤ l.getD i 0 ∧ l.getD i 0 ≤ 1000 := fun i hi => by have := HF.out.ok i (by rw [HLN.out]; exact hi); omega
    have hnl : now.length = n1 := by have h1 := hFn.le; have h3 := HCN.out; omega
    have hokn : ∀ i, i < n1 → 0 ≤ now.getD i 0 ∧ now.getD i 0 ≤ cs.getD i 0 ∧ cs.getD i 0 ≤ 1000 := fun i hi => by have := hFn.ok i (by rw [hnl]; exact hi); omega
    have HOL := Lib.hid hokl; have HON := Lib.hid hokn; have HNL := Lib.hid hnl
    have htop := topK_bd l n1 1000 (by omega) (fun i hi => (hokl i hi).2)
    clear hokl hokn hnl hFn hown hB3 HAP hl hc
    go_wp2_with fail
    go_loopw [9, 11, 12] (fun v u i wr => ∃ (k q : Nat), k ≤ n1 ∧ i = .int .i64 k ∧ v = .int .i64 (sumL l k - sumL now k) ∧ u = .int .i64 (topK l k) ∧ wr = w3.drewN q) (fun _ _ i _ => n1 - (intOf i).toNat)
    case atStart => exact ⟨0, 0, by omega, rfl, rfl, rfl, rfl⟩
    case round =>
      obtain ⟨k, q, hkm, rfl, rfl, rfl, rfl⟩ := hrel
      by_cases hlt : k < n1
      · obtain ⟨b1, o1, rfl, _, hk1⟩ := hl3.get hlt
        obtain ⟨b2, o2, rfl, _, hk2⟩ := hc3.get hlt
        obtain ⟨b3, o3, hA3, _, hk3⟩ := hN.get hlt
        injection hA3 with hA3; injection hA3 with e1 e2
        subst e1 e2
        rw [Nat.zero_add] at hk3
        have hi1 := fun w => idxI b1 o1 n1 c0 k hlt w
        have hi2 := fun w => idxI b2 o2 n1 c1 k hlt w
        have hi3 := fun w => idx_own g n1 cg k hlt w
        have s1 := sumL_succ l k (by rw [HLN.out]; exact hlt)
        have s2 := sumL_succ now k (by rw [HNL.out]; exact hlt)
        have b1' := sumL_bd l k (by rw [HLN.out]; omega) (fun i hi => HOL.out i (by rw [← HLN.out]; exact hi))
        have b2' := sumL_bd now k (by rw [HNL.out]; omega) (fun i hi => by have := HON.out i (by rw [← HNL.out]; exact hi); omega)
        have s3 : topK l (k + 1) = max (topK l k) (l.getD k 0) := rfl
        have x0 := HOL.out k hlt
        have z0' := HON.out k hlt
        have hs12 : sumL l (k + 1) - sumL now (k + 1) = sumL l k - sumL now k + l.getD k 0 - now.getD k 0 := by omega
        have H12 := Lib.hid hs12; have H3 := Lib.hid s3
        have hk8 : (k : Int) ≤ 8 := by omega
        clear s1 s2 s3 hs12 hl3 hc3 hN
        generalize hD : sumL l k - sumL now k = D at *
        have hD1 : -8000 ≤ D ∧ D ≤ 8000 := by omega
        clear hD b1' b2'
        generalize topK l k = tp at *
        generalize l.getD k 0 = x at *
        generalize now.getD k 0 = z at *
        generalize cs.getD k 0 = y at *
        have d0 : IntKind.i64.wrap (D + x) = D + x := i64_sm (by omega) (by omega)
        have d1 : IntKind.i64.wrap (D + x - z) = D + x - z := i64_sm (by omega) (by omega)
        go_upto_region 12 with fail
        go_quiet (fail)
        clear d0 d1
        have d2 : decide (z < 0) = false := decide_eq_false (by omega)
        have d3 : decide (y < z) = false := decide_eq_false (by omega)
        go_wp2_with fail
        go_quiet (fail)
        clear d2 d3
        go_wp2_with fail
        go_roundw
        case rel => exact ⟨k + 1, _, by omega, by go_num, by rw [H12.out], by rw [H3.out], rfl⟩
        case measure => simp [intOf]; omega
      · obtain rfl : k = n1 := by omega
        have hsum : sumL l k - sumL now k = 0 := by
          have h1 := (after_steps (by rw [HLN.out]; exact hn01) HST.out).sum
          have h2 := sumL_all l
          have h3 := sumL_all now
          rw [HLN.out] at h2
          rw [HNL.out] at h3
          omega
        rw [hsum]
        obtain ⟨tp, htp⟩ : ∃ tp, topK l k = tp := ⟨_, rfl⟩
        rw [htp] at htop ⊢
        have HTP := Lib.hid htp
        clear htp hsum
        go_wp2_with fail
        go_loop [10, 13] (fun v i => ∃ j : Nat, j ≤ k ∧ i = .int .i64 j ∧ v = .bool (freeK cs tp j)) (fun _ i => k - (intOf i).toNat)
        case atStart => exact ⟨0, by omega, rfl, rfl⟩
        case round =>
          obtain ⟨j, hjk, rfl, rfl⟩ := hrel
          by_cases hlt2 : j < k
          · obtain ⟨b2, o2, hA2, _, hk2⟩ := hc3.get hlt2
            have hstep : freeK cs tp (j + 1) = (freeK cs tp j && decide (tp ≤ cs.getD j 0)) := rfl
            have HST2 := Lib.hid hstep
            clear hstep hl3 hc3 hN
            subst hA2
            have hi2 := fun w => idxI b2 o2 k c1 j hlt2 w
            generalize cs.getD j 0 = y at *
            cases hfr : freeK cs tp j with
            | false =>
              rw [hfr, Bool.false_and] at HST2
              clear hfr
              go_wp2_with fail
              go_round
              case rel => exact ⟨j + 1, by omega, by go_num, by rw [HST2.out]⟩
              case measure => simp [intOf]; omega
            | true =>
              rw [hfr, Bool.true_and] at HST2
              clear hfr
              by_cases hty : tp ≤ y
              · go_wp2_with fail
                go_round
                case rel => exact ⟨j + 1, by omega, by go_num, by rw [HST2.out, decide_eq_true hty]⟩
                case measure => simp [intOf]; omega
              · go_wp2_with fail
                go_round
                case rel => exact ⟨j + 1, by omega, by go_num, by rw [HST2.out, decide_eq_false hty]⟩
                case measure => simp [intOf]; omega
          · obtain rfl : j = k := by omega
            have hsp1 := spread_any (some ⟨g, 0, none⟩) j cg now (w3.drewN q) (hN.dn q) hn0 hn01 (fun i hi => by have := HON.out i hi; omega)
            have hsp2 := spread_any a0 j c0 l (w3.drewN q) (hl3.dn q) hn0 hn01 HOL.out
            have hle := spread_le (by rw [HLN.out]; exact hn01) HST.out
            have hone : freeK cs tp j = true → spreadOf now ≤ 1 := fun h => spread_one HF.out HST.out HNN.out (top := tp) (fun i hi => by rw [← HTP.out]; exact topK_ge l j i (by rw [← HLN.out]; exact hi)) (fun i hi => freeK_all cs tp j h i (by rw [← HCN.out]; exact hi))
            have HS1 := Lib.hid hsp1; have HS2 := Lib.hid hsp2; have HONE := Lib.hid hone
            have hB4 := bel_drewN hB q
            clear hsp1 hsp2 hone hl3 hc3 hN
            generalize spreadOf now = sn at *
            generalize spreadOf l = sl at *
            cases hfr : freeK cs tp j with
            | false =>
              clear hfr HONE
              go_wp2_with fail
              refine HS1.out.mono ?_; rintro e w4 ⟨rfl, rfl⟩
              go_wp2_with fail
              refine HS2.out.mono ?_; rintro e w4 ⟨rfl, rfl⟩
              go_wp2_with fail
              go_ret
              exact ⟨rfl, hB4⟩
            | true =>
              have h1 := HONE.out hfr
              clear hfr HONE
              go_wp2_with fail
              refine HS1.out.mono ?_; rintro e w4 ⟨rfl, rfl⟩
              go_wp2_with fail
              refine HS2.out.mono ?_; rintro e w4 ⟨rfl, rfl⟩
              go_wp2_with fail
              refine HS1.out.mono ?_; rintro e w4 ⟨rfl, rfl⟩
              go_wp2_with fail
              go_ret
              exact ⟨rfl, hB4⟩
  · have hev := even_no a0 a1 n0 n1 c0 c1 l cs w0 hl hc hn0 hn1 hck
    clear hl hc
    generalize chkP l cs = v at *
    have hv1 : (v == 0) = false := by rw [beq_eq_false_iff_ne]; exact hck
    have hv2 : (v != 0) = true := by rw [bne_iff_ne]; exact hck
    have HE := Lib.hid hev
    clear hev hck
    go_enter Try.func10, Try.ntmps10
    go_wp2_with fail
    refine HE.out.mono ?_; rintro e w1 ⟨rfl, rfl⟩
    go_wp2_with fail
    refine (plans_any w0).mono ?_; rintro e w2 ⟨rfl, hB⟩
    go_wp2_with fail
    refine (plans_any w2).mono ?_; rintro e w3 ⟨rfl, hB2⟩
    have hB3 := bel_trans hB hB2
    clear hB hB2
    go_wp2_with fail
    go_ret
    exact ⟨rfl, hB3⟩
end Go.Proofs.Ytmheafagafdnlaa
