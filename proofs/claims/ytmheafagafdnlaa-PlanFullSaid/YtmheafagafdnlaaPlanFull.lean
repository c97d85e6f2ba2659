/- The law PlanFull. -/
import Derived.Test.YtmheafagafdnlaaPlanSums
namespace Go.Proofs.Ytmheafagafdnlaa
open Go.RowKit
set_option linter.unusedVariables false
set_option linter.unusedSimpArgs false
attribute [local go_sem] World.cell?_alloc_lt

theorem full_none (c : List Int) : nxt c c = none := by
  cases h : nxt c c with
  | none => rfl
  | some m =>
    obtain ⟨f, t⟩ := m
    by_cases h0 : 0 < c.length
    · obtain ⟨_, _, _, _, h1, _, _⟩ := nxt_some h h0
      omega
    · have : c = [] := List.eq_nil_of_length_eq_zero (by omega)
      subst this
      simp [nxt, tgtK] at h
theorem full_one {c l now : List Int} {ms : List (Nat × Nat)} {k : Nat} (h0 : 0 < l.length) (hk : l.getD k 0 = c.getD k 0 - 1) (ho : ∀ i, i < l.length → i ≠ k → l.getD i 0 = c.getD i 0) (hs : steps c l ms = some now) : ms.length ≤ 1 := by
  cases ms with
  | nil => simp
  | cons m ms =>
    simp only [steps] at hs
    split at hs
    · rename_i hn
      obtain ⟨f, t⟩ := m
      obtain ⟨hf, ht, hne, hd, hc, hm, _⟩ := nxt_some hn h0
      have htk : t = k := by
        by_cases e : t = k
        · exact e
        · have := ho t ht e; omega
      have hnn : nxt (mv l f t) c = none := by
        cases h : nxt (mv l f t) c with
        | none => rfl
        | some m' =>
          obtain ⟨f', t'⟩ := m'
          obtain ⟨hf', ht', hne', hd', hc', _, _⟩ := nxt_some h (by rw [mv_len]; exact h0)
          rw [mv_len] at hf' ht'
          rw [mv_at l f t t' hf ht hne] at hd' hc'
          rw [mv_at l f t f' hf ht hne] at hd'
          have hmf := hm f' hf'
          by_cases e1 : t' = t
          · subst e1
            rw [if_pos rfl] at hc'
            rw [htk] at hc'
            omega
          · rw [if_neg e1] at hd' hc'
            by_cases e2 : t' = f
            · subst e2
              rw [if_pos rfl] at hd' hc'
              by_cases e3 : f' = t
              · rw [if_pos e3] at hd'; omega
              · rw [if_neg e3, if_neg hne'] at hd'; omega
            · rw [if_neg e2] at hc'
              have := ho t' ht' (by rw [← htk]; exact e1)
              omega
      have := (steps_last hs hnn).1
      subst this
      simp
    · cases hs
def capF (x : Int) : Int := wrap64 (1 + wrap64 ((IntKind.u64.wrap x).tmod 50))
theorem capF_bd (x : Int) : 1 ≤ capF x ∧ capF x ≤ 50 := umod1_bd x 50 (by omega) (by omega)
def capL (l : List Int) (k : Nat) : List Int := (l.take k).map capF
theorem capL_succ (l : List Int) (k : Nat) (h : k < l.length) : capL l (k + 1) = capL l k ++ [capF (l.getD k 0)] := by
  unfold capL
  rw [List.take_succ_eq_append_getElem h, List.map_append, List.getD_eq_getElem?_getD, List.getElem?_eq_getElem h]
  rfl
theorem capL_len (l : List Int) (k : Nat) (h : k ≤ l.length) : (capL l k).length = k := by unfold capL; rw [List.length_map, List.length_take]; omega
theorem capL_bd (l : List Int) (k : Nat) : ∀ x ∈ capL l k, 1 ≤ x ∧ x ≤ 50 := by
  intro x hx
  obtain ⟨y, _, rfl⟩ := List.mem_map.1 hx
  exact capF_bd y
theorem getD_mem (l : List Int) (i : Nat) (h : i < l.length) : l.getD i 0 ∈ l := by
  rw [List.getD_eq_getElem?_getD, List.getElem?_eq_getElem h]
  exact List.getElem_mem h
theorem full_fit (c : List Int) (h1 : 1 ≤ c.length) (h8 : c.length ≤ 8) (hb : ∀ x ∈ c, 1 ≤ x ∧ x ≤ 50) : Fit c c := by
  refine ⟨h1, h8, rfl, fun i hi => ?_⟩
  have := hb _ (getD_mem c i hi)
  omega
theorem less_fit (c : List Int) (k : Nat) (h1 : 1 ≤ c.length) (h8 : c.length ≤ 8) (hb : ∀ x ∈ c, 1 ≤ x ∧ x ≤ 50) : Fit (c.set k (c.getD k 0 - 1)) c := by
  refine ⟨by rw [List.length_set]; exact h1, by rw [List.length_set]; exact h8, by rw [List.length_set], fun i hi => ?_⟩
  rw [List.length_set] at hi
  have := hb _ (getD_mem c i hi)
  rw [getD_set]
  split
  · rename_i e; obtain ⟨rfl, _⟩ := e; omega
  · omega
set_option maxRecDepth 100000 in
set_option maxHeartbeats 2000000 in
theorem planFull_walk (w0 : World) (a0 : Option Addr) (n0 c0 : Nat) (z0 : List Int) (h0 : InInts .i64 w0 a0 n0 z0) (y0 : n0 * 8 ≤ 140737488351232) (at_ : Int) (_h2 : (Lit.int .i64 at_).wf = true) :
    Calls Try.prog 11 #[.slice a0 n0 c0, .int .i64 at_] w0 fun e w' => e = .returned (.bool true) ∧ Below w0.heap.size w0 w' := by
  have hl := InI.inn h0
  clear h0
  generalize z0 = l at hl
  have hn0 : n0 ≤ 9223372036854775807 := by omega
  obtain ⟨N, hN8, hNn, hmin, hN0⟩ : ∃ N : Nat, N ≤ 8 ∧ N ≤ n0 ∧ min (n0 : Int) 8 = (N : Int) ∧ (n0 = 0 ↔ N = 0) := by
    by_cases h : (8 : Int) < (n0 : Int)
    · exact ⟨8, by omega, by omega, by omega, by omega⟩
    · exact ⟨n0, by omega, by omega, by omega, Iff.rfl⟩
  by_cases hz : N = 0
  · subst hz
    have hnn : n0 = 0 := hN0.2 rfl
    clear hN0 hmin hN8 hNn hl
    subst hnn
    go_enter Try.func11, Try.ntmps11
    go_wp2_with fail
    refine (plans_any w0).mono ?_; rintro e w2 ⟨rfl, hB⟩
    go_wp2_with fail
    refine (plans_any w2).mono ?_; rintro e w3 ⟨rfl, hB2⟩
    have hB3 := bel_trans hB hB2
    clear hB hB2
    go_wp2_with fail
    go_ret
    exact ⟨rfl, hB3⟩
  · have hN1 : 1 ≤ N := by omega
    have hNz : ((N : Int) == 0) = false := by rw [beq_eq_false_iff_ne]; omega
    have hNi : (N : Int) ≤ 8 := by omega
    have hNj : (1 : Int) ≤ (N : Int) := by omega
    have hln := hl.ln
    have HLN := Lib.hid hln
    clear hN0 hz hln
    go_enter Try.func11, Try.ntmps11
    go_wp2_with fail
    refine (plans_any w0).mono ?_; rintro e w2 ⟨rfl, hB⟩
    have hown0 : w2.ownsRow w0.heap.size 3 1 (.slice none 0 0) 0 ((capL l 0).map (Value.int .i64)) := ⟨rfl, Or.inl ⟨rfl, rfl⟩⟩
    have HMIN := Lib.hid hmin
    go_wp2_with fail
    clear hmin
    go_loopw [6, 7] (fun v i wr => ∃ (k : Nat) (A : Option Addr) (cp : Nat), k ≤ N ∧ i = .int .i64 k ∧ v = .slice A k cp ∧ wr.ownsRow w0.heap.size 3 1 (.slice A k cp) k ((capL l k).map (Value.int .i64)) ∧ Below w0.heap.size w0 wr) (fun _ i _ => N - (intOf i).toNat)
    case atStart => exact ⟨0, none, 0, by omega, rfl, rfl, hown0, hB⟩
    case round =>
      clear hown0 hB
      obtain ⟨k, A, cp, hkN, rfl, rfl, hown, hB⟩ := hrel
      by_cases hlt : k < N
      · obtain ⟨b1, o1, rfl, hb1, hk1⟩ := hl.get (show k < n0 by omega)
        replace hk1 := (hB.cell (p := ⟨b1, o1 + k, none⟩) hb1).trans hk1
        have hi1 := fun w => idxI b1 o1 n0 c0 k (by omega) w
        have hs := capL_succ l k (by rw [HLN.out]; omega)
        have HS := Lib.hid hs
        clear hs
        have hFe : wrap64 (1 + wrap64 ((IntKind.u64.wrap (l.getD k 0)).tmod 50)) = capF (l.getD k 0) := rfl
        generalize capF (l.getD k 0) = v at *
        generalize l.getD k 0 = x at *
        have hkN2 : (k : Int) < (N : Int) := by omega
        have hoa := own_chV hown ((Ch.refl [] wr).alloc (.cells #[.int .i64 v] 3)) (by simp)
        have hw := hB.size
        have hown1 := Lib.hid hown
        clear hown
        go_wp2_with (at_builtin; rw [hFe]; refine wpList_push _ rfl (.tmp 32) (.tmp 41) 43 rfl w0.heap.size 3 (.int .i64 0) 8 Try.underlying43 info_clI rfl A k cp _ rfl hoa wr.heap.size 1 (.int .i64 v) rfl ?_ rfl (by omega) (by omega) (by simp; omega) ?_)
        · simp
        intro g2 cp2 w3 hown2 hgr hor
        have hba := bel_alloc hB (.cells #[.int .i64 v] 3)
        have hc3 : Ch (Value.slice A k cp).ownBlock.toList (wr.alloc (.cells #[.int .i64 v] 3)) w3 := ch_grown hgr (fun q hq => by rw [hq]; simp)
        have hB3 := bel_ch hba hc3 (fun q hq => by rw [Option.mem_toList] at hq; exact (hown1.out.lt q hq).1)
        have hown3 : w3.ownsRow w0.heap.size 3 1 (.slice (some ⟨g2, 0, none⟩) (k + 1) cp2) (k + 1) ((capL l (k + 1)).map (Value.int .i64)) := by rw [HS.out, List.map_append]; exact hown2
        have HO3 := Lib.hid hown3
        clear hown2 hown3 hgr hor hc3 hba hB hoa hown1 hFe
        go_wp2_with fail
        go_roundw
        case rel => exact ⟨k + 1, some ⟨g2, 0, none⟩, cp2, by omega, by go_num, rfl, HO3.out, hB3⟩
        case measure => simp [intOf]; omega
      · obtain rfl : k = N := by omega
        clear hl
        have hcl := capL_len l k (by rw [HLN.out]; exact hNn)
        have hcb := capL_bd l k
        generalize capL l k = c at *
        have HCL := Lib.hid hcl; have HCB := Lib.hid hcb
        clear hcl hcb
        have hFf := full_fit c (by rw [HCL.out]; exact hN1) (by rw [HCL.out]; exact hN8) HCB.out
        have hI := InI.own hown
        have hev := even_yes A A k k cp cp c c wr hI hI (by omega) (by omega) hFf
        have HEV := Lib.hid hev
        have HO := Lib.hid hown
        clear hFf hI hev hown
        go_wp2_with fail
        refine HEV.out.mono ?_; rintro e w3 ⟨A', ms, c', now, rfl, _, hst, _, _, hB3⟩
        obtain ⟨rfl, _⟩ := steps_last hst (full_none c)
        have hO3 := own_chV HO.out (Ch.below hB3 []) (by simp)
        have hB4 := bel_trans hB hB3
        clear hst hB hB3 HO HEV
        obtain ⟨hj0, hjk⟩ := umod_bd at_ (k : Int) (by omega) (by omega)
        obtain ⟨j, hj⟩ := Int.eq_ofNat_of_zero_le hj0
        rw [hj] at hj0 hjk
        have hjn : j < k := by omega
        have HJ := Lib.hid hj; clear hj
        obtain ⟨gc, rfl, _, _, _, _⟩ := own_at hO3 (k := 0) (u := .int .i64 (c.getD 0 0)) (map_at (by have := HCL.out; omega) 0)
        have hma := own_made0 w3 w0.heap.size 3 1 hB4.size
        have hba : Below w3.heap.size w3 (w3.alloc (.cells #[] 3)) := bel_alloc (Below.refl _ _) _
        have hOa := own_chV hO3 (Ch.below hba []) (by simp)
        have hr1 := (InI.own hOa).reads
        have hBa := bel_trans hB4 hba
        have hsz := hBa.size
        have hgc := (hO3.lt gc rfl).2
        have HMA := Lib.hid hma; have HR1 := Lib.hid hr1; have HOA := Lib.hid hOa
        clear hma hr1 hOa hba hO3 hB4
        obtain ⟨i0, hi0', hz0, hz1, hz2⟩ := info_parts info_clI
        have HI := Lib.hid hi0'; have HZ0 := Lib.hid hz0; have HZ1 := Lib.hid hz1; have HZ2 := Lib.hid hz2
        clear hi0' hz0 hz1 hz2
        go_wp2_with (at_builtin; refine wpList_append_any _ rfl (.tmp 62) (.tmp 63) 43 rfl w0.heap.size 3 i0 _ 1 8 Try.underlying43 HI.out HZ0.out HZ1.out HZ2.out rfl (by omega) (.slice (some ⟨w3.heap.size, 0, none⟩) 0 0) 0 [] rfl HMA.out _ (some ⟨gc, 0, none⟩) k cp (c.map (Value.int .i64)) rfl HR1.out (ints_one c) (by unfold maxLen; omega) (by omega) hsz ?_)
        intro v2 w4 hown2 hgr2 hor2
        have hc4 : Ch [w3.heap.size] (w3.alloc (.cells #[] 3)) w4 := ch_grown hgr2 (fun q hq => by simp [Value.ownBlock] at hq; subst hq; simp)
        have hO4 := own_chV HOA.out hc4 (fun q hq hm => by simp [Value.ownBlock] at hq; simp at hm; omega)
        have hB4 := bel_ch hBa hc4 (fun q hq => by simp at hq; subst hq; have := (HMA.out.lt w3.heap.size rfl).1; omega)
        try rw [Nat.zero_add] at hown2
        try rw [List.nil_append] at hown2
        obtain ⟨A2, c2, rfl⟩ := own_slice hown2
        obtain ⟨g, rfl, hcj, hgl, hgb, hfj⟩ := own_at hown2 (k := j) (u := .int .i64 (c.getD j 0)) (map_at (by have := HCL.out; omega) 0)
        have hgg : g ≠ gc := by
          rcases hor2 with h | h
          · simp [Value.ownBlock] at h; omega
          · simp [Value.ownBlock] at h; omega
        have hcj0 := HCB.out (c.getD j 0) (getD_mem c j (by rw [HCL.out]; exact hjn))
        have hi1 := fun w => idx_own g k c2 j hjn w
        have HL := Lib.hid hown2; have HC := Lib.hid hO4
        clear hown2 hO4 hc4 hgr2 hor2 hBa HMA HR1 HOA
        generalize hce : c.getD j 0 = x at *
        have HCE := Lib.hid hce; clear hce
        rw [HJ.out]
        go_upto_region 15 with fail
        have hL2 := own_set1 HL.out hjn (.int .i64 (x - 1))
        rw [← List.map_set, ← HCE.out] at hL2
        have hC2 := own_chV HC.out ((Ch.refl [g] w4).set (p := ⟨g, j, none⟩) (by simp) (.int .i64 (x - 1))) (fun q hq hm => by
          simp [Value.ownBlock] at hq
          simp at hm
          omega)
        have hB5 := bel_set hB4 (p := ⟨g, j, none⟩) hgb (.int .i64 (x - 1))
        rw [HCE.out] at hL2
        generalize w4.setCell ⟨g, j, none⟩ (.int .i64 (x - 1)) = w5 at *
        have hLf := less_fit c j (by rw [HCL.out]; exact hN1) (by rw [HCL.out]; exact hN8) HCB.out
        rw [HCE.out] at hLf
        obtain ⟨ld, hld⟩ : ∃ ld, c.set j (x - 1) = ld := ⟨_, rfl⟩
        have hk1 : ld.getD j 0 = c.getD j 0 - 1 := by rw [← hld, getD_set, if_pos ⟨rfl, by rw [HCL.out]; exact hjn⟩, HCE.out]
        have ho1 : ∀ i, i < ld.length → i ≠ j → ld.getD i 0 = c.getD i 0 := fun i hi hn => by rw [← hld, getD_set, if_neg (fun h => hn h.1.symm)]
        have hll : ld.length = k := by rw [← hld, List.length_set]; exact HCL.out
        rw [hld] at hL2 hLf
        have hev := even_yes (some ⟨g, 0, none⟩) (some ⟨gc, 0, none⟩) k k c2 cp ld c w5 (InI.own hL2) (InI.own hC2) (by omega) (by omega) hLf
        have HEV := Lib.hid hev
        have HL2 := Lib.hid hL2; have HC2 := Lib.hid hC2; have HLF := Lib.hid hLf; have HK1 := Lib.hid hk1; have HO1 := Lib.hid ho1; have HLL := Lib.hid hll
        clear hev hL2 hC2 hLf hk1 ho1 hll hld HL HC hB4 hcj hfj
        go_wp2_with fail
        refine HEV.out.mono ?_; rintro e w6 ⟨A6, ms, c6, now6, rfl, hown6, hst6, _, _, hB6⟩
        have hms := full_one (by rw [HLL.out]; exact hN1) HK1.out HO1.out hst6
        have hL6 := own_chV HL2.out (Ch.below hB6 []) (by simp)
        have hB7 := bel_trans hB5 hB6
        have hap := apply_steps (some ⟨g, 0, none⟩) A6 k ms.length c2 c6 w5.heap.size ld c now6 ms
        have HST := Lib.hid hst6; have HM := Lib.hid hown6; have HL6 := Lib.hid hL6; have HAP := Lib.hid hap
        clear hst6 hown6 hL6 hap hB6 hB5 HEV HL2 HC2
        have hm1 : (ms.length : Int) ≤ 1 := by omega
        have hm0 : (0 : Int) ≤ (ms.length : Int) := by omega
        have hm2 : ¬ (50 * (k : Int) < (ms.length : Int)) := by omega
        go_wp2_with fail
        go_loopw [14] (fun v wr => ∃ (i q : Nat), i ≤ ms.length ∧ v = .int .i64 i ∧ wr = w6.drewN q) (fun v _ => ms.length - (intOf v).toNat)
        case atStart => exact ⟨0, 0, by omega, rfl, rfl⟩
        case round =>
          obtain ⟨i, q, him, rfl, rfl⟩ := hrel
          by_cases hlt2 : i < ms.length
          · obtain ⟨cur, mo, h1, h2, h3, _⟩ := steps_take c ms ld now6 i HST.out hlt2
            have hFc := steps_fit HLF.out h1
            obtain ⟨f, t⟩ := mo
            obtain ⟨_, _, hne, _, _, _, _⟩ := nxt_some h3 (by have := hFc.l1; omega)
            obtain ⟨bm, rfl, _, _, hcm1, hcm2⟩ := own2_at HM.out hlt2 h2
            simp only at hcm1 hcm2
            have hi0 := fun w => idx_move bm ms.length c6 i hlt2 w
            have hft : ((t : Int) == (f : Int)) = false := by rw [beq_eq_false_iff_ne]; omega
            clear h1 h2 h3 hFc
            go_wp2_with fail
            go_quiet (fail)
            clear hft
            go_wp2_with fail
            go_roundw
            case rel => exact ⟨i + 1, _, by omega, by go_num, rfl⟩
            case measure => simp [intOf]; omega
          · obtain rfl : i = ms.length := by omega
            have hLq := own_chV HL6.out (Ch.below (bel_drewN (Below.refl _ _) q) []) (by simp)
            have hMq := own_chV HM.out (Ch.below (bel_drewN (Below.refl _ _) q) []) (by simp)
            have hBq := bel_drewN hB7 q
            have hap := HAP.out (w6.drewN q) (InI.own hLq) hMq (by first | trivial | rfl) (by omega) (by omega) HLF.out HST.out
            have HAP2 := Lib.hid hap
            have HLQ := Lib.hid hLq
            clear hap hMq hLq hB7
            go_wp2_with fail
            refine HAP2.out.mono ?_; rintro e w8 ⟨g8, c8, rfl, hown8, hB8⟩
            have hB9 := bel_trans hBq hB8
            have hL8 := own_chV HLQ.out (Ch.below hB8 []) (by simp)
            have hFn := steps_fit HLF.out HST.out
            have hnl : now6.length = k := by have h1 := hFn.le; have h3 := HCL.out; omega
            have hsp1 := spread_any (some ⟨g8, 0, none⟩) k c8 now6 w8 (InI.own hown8) (by omega) (by omega) (fun i hi => by have := hFn.ok i (by rw [hnl]; exact hi); omega)
            have hsp2 := spread_any (some ⟨g, 0, none⟩) k c2 ld w8 (InI.own hL8) (by omega) (by omega) (fun i hi => by have := HLF.out.ok i (by rw [HLL.out]; exact hi); omega)
            have hle := spread_le (by rw [HLL.out]; exact hN1) HST.out
            have HS1 := Lib.hid hsp1; have HS2 := Lib.hid hsp2
            clear hsp1 hsp2 hFn hnl hown8 hL8 hB8 hBq HAP2
            generalize spreadOf now6 = sn at *
            generalize spreadOf ld = sl at *
            go_wp2_with fail
            refine HS1.out.mono ?_; rintro e w9 ⟨rfl, rfl⟩
            go_wp2_with fail
            refine HS2.out.mono ?_; rintro e w9 ⟨rfl, rfl⟩
            go_wp2_with fail
            go_ret
            exact ⟨rfl, hB9⟩
end Go.Proofs.Ytmheafagafdnlaa
