/- The law PlanAgain. -/
import Derived.Test.YtmheafagafdnlaaPlanPlans
namespace Go.Proofs.Ytmheafagafdnlaa
open Go.RowKit
set_option linter.unusedVariables false
set_option linter.unusedSimpArgs false
attribute [local go_sem] World.cell?_alloc_lt

theorem InI.reads {w : World} {A : Option Addr} {n : Nat} {xs : List Int} (h : InI w A n xs) : Reads w w.heap.size 1 A n (xs.map (Value.int .i64)) := by
  refine ⟨by rw [List.length_map, h.ln]; omega, fun hn => ?_⟩
  obtain ⟨b, off, ha, hb, hc⟩ := h.at_ hn
  refine ⟨⟨b, off, none⟩, ha, hb, fun j u hj => ?_⟩
  rw [List.getElem?_map] at hj
  obtain ⟨z, hz, rfl⟩ := Option.map_eq_some_iff.1 hj
  rw [WideShapes.add_plain]
  exact hc j z hz
theorem InI.inn {w : World} {A : Option Addr} {n : Nat} {xs : List Int} (h : InInts .i64 w A n xs) : InI w A n xs :=
  ⟨h.ln, fun hn => by
    obtain ⟨b, off, ha, hb, hc⟩ := h.at_ hn
    refine ⟨b, off, ha, hb, fun j u hj => ?_⟩
    have hjl := (List.getElem?_eq_some_iff.1 hj).1
    have := hc j (by have := h.ln; omega)
    rw [List.getD_eq_getElem?_getD, hj] at this
    exact this⟩
theorem ints_one (xs : List Int) : ∀ u ∈ xs.map (Value.int .i64), u.oneCell' = true := by
  intro u hu
  obtain ⟨z, _, rfl⟩ := List.mem_map.1 hu
  rfl
theorem row_len {k : IntKind} {w : World} {a : Option Addr} {len cap : Nat} {zs : List Int} (h : IsRow k w a len cap zs) : len ≤ 9223372036854775807 ∧ len ≤ cap := by
  rcases h with ⟨_, rfl, rfl, _⟩ | ⟨x, _, h1, h2, _⟩
  · exact ⟨by omega, by omega⟩
  · unfold maxLen at h2; exact ⟨by omega, h1⟩
set_option maxRecDepth 100000 in
set_option maxHeartbeats 2000000 in
theorem planAgain_walk (w0 : World) (a0 : Option Addr) (n0 c0 : Nat) (z0 : List Int) (h0 : InInts .i64 w0 a0 n0 z0) (y0 : n0 * 8 ≤ 140737488351232) (a1 : Option Addr) (n1 c1 : Nat) (z1 : List Int) (h1 : InInts .i64 w0 a1 n1 z1) (y1 : n1 * 8 ≤ 140737488351232) :
    Calls Try.prog 6 #[.slice a0 n0 c0, .slice a1 n1 c1] w0 fun e w' => e = .returned (.bool true) ∧ Below w0.heap.size w0 w' := by
  have hl := InI.inn h0
  have hc := InI.inn h1
  clear h0 h1
  generalize z0 = l at hl
  generalize z1 = cs at hc
  have hn0 : n0 ≤ 9223372036854775807 := by omega
  have hn1 : n1 ≤ 9223372036854775807 := by omega
  by_cases hck : chkP l cs = 0
  · have hF := fit_of hck
    have hev := even_yes a0 a1 n0 n1 c0 c1 l cs w0 hl hc hn0 hn1 hF
    have HE := Lib.hid hev; have HF := Lib.hid hF
    have hln := hl.ln; have hcn := hc.ln
    have hn8 : n0 ≤ 8 := by have := hF.l8; omega
    have hnn : n1 = n0 := by have := hF.le; omega
    have hn01 : 0 < n0 := by have := hF.l1; omega
    clear hev hck hF
    have HLN := Lib.hid hln; have HCN := Lib.hid hcn
    clear hln hcn
    subst hnn
    go_enter Try.func6, Try.ntmps6
    go_wp2_with fail
    refine HE.out.mono ?_; rintro e w1 ⟨A', ms, c', now, rfl, hown, hst, hnn, hml, hB⟩
    have HST := Lib.hid hst; have HNN := Lib.hid hnn; have HM := Lib.hid hown
    clear hst hnn hown HE
    go_wp2_with fail
    refine (plans_any w1).mono ?_; rintro e w2 ⟨rfl, hB2⟩
    have hB := bel_trans hB hB2
    have hM := own_chV HM.out (Ch.below hB2 []) (by simp)
    clear HM hB2
    have hl2 := hl.below hB
    have HM := Lib.hid hM
    clear hM hl
    have hma := own_made0 w2 w0.heap.size 3 1 hB.size
    have hba : Below w2.heap.size w2 (w2.alloc (.cells #[] 3)) := bel_alloc (Below.refl _ _) _
    have hr1 := (hl2.below hba).reads
    have hMa := own_chV HM.out (Ch.below hba []) (by simp)
    have hBa := bel_trans hB hba
    have hCa := hc.below hBa
    have hC0 := Lib.hid hc
    have hsz := hBa.size
    have HMA := Lib.hid hma; have HR1 := Lib.hid hr1; have HM2 := Lib.hid hMa
    clear hma hr1 hMa hba HM hl2 hB hc
    obtain ⟨i0, hi0', hz0, hz1, hz2⟩ := info_parts info_clI
    have HI := Lib.hid hi0'; have HZ0 := Lib.hid hz0; have HZ1 := Lib.hid hz1; have HZ2 := Lib.hid hz2
    clear hi0' hz0 hz1 hz2
    go_wp2_with (at_builtin; refine wpList_append_any _ rfl (.tmp 24) (.tmp 25) 43 rfl w0.heap.size 3 i0 _ 1 8 Try.underlying43 HI.out HZ0.out HZ1.out HZ2.out rfl (by omega) (.slice (some ⟨w2.heap.size, 0, none⟩) 0 0) 0 [] rfl HMA.out _ a0 n1 c0 (l.map (Value.int .i64)) rfl HR1.out (ints_one l) (by unfold maxLen; omega) (by omega) hsz ?_)
    intro v2 w3 hown2 hgr2 hor2
    have hc3 : Ch [w2.heap.size] (w2.alloc (.cells #[] 3)) w3 := ch_grown hgr2 (fun q hq => by simp [Value.ownBlock] at hq; subst hq; simp)
    have hM3 := own_chV HM2.out hc3 (fun q hq hm => by
      simp at hm
      subst hm
      exact own_apart HMA.out HM2.out (by decide) _ rfl hq)
    have hB3 := bel_ch hBa hc3 (fun q hq => by simp at hq; subst hq; have := (HMA.out.lt w2.heap.size rfl).1; omega)
    try rw [Nat.zero_add] at hown2
    try rw [List.nil_append] at hown2
    obtain ⟨A2, c2, rfl⟩ := own_slice hown2
    obtain ⟨g, rfl, _, _, _, _⟩ := own_at hown2 (k := 0) (u := .int .i64 (l.getD 0 0)) (map_at (by have := HLN.out; omega) 0)
    have HO := Lib.hid hown2; have HM3 := Lib.hid hM3
    clear hown2 hM3 hc3 hgr2 hor2 hBa hCa HMA HR1 HM2
    go_wp2_with fail
    go_loopw [8] (fun v wr => ∃ (i : Nat) (cur : List Int), i ≤ ms.length ∧ v = .int .i64 i ∧ wr.ownsRow w0.heap.size 3 1 (.slice (some ⟨g, 0, none⟩) n1 c2) n1 (cur.map (Value.int .i64)) ∧ wr.ownsRow w0.heap.size 51 2 (.slice A' ms.length c') ms.length (mvCells ms) ∧ steps cs l (ms.take i) = some cur ∧ Below w0.heap.size w0 wr) (fun v _ => ms.length - (intOf v).toNat)
    case atStart => exact ⟨0, l, by omega, rfl, HO.out, HM3.out, rfl, hB3⟩
    case round =>
      clear hB3 HO HM3
      obtain ⟨i, cur, him, rfl, hown, hM, hst, hB⟩ := hrel
      have HS := Lib.hid hst; clear hst
      by_cases hlt : i < ms.length
      · obtain ⟨cur', mo, h1, h2, h3, h4⟩ := steps_take cs ms l now i HST.out hlt
        rw [HS.out] at h1
        injection h1 with h1
        subst h1
        have hFn := steps_fit HF.out HS.out
        have hnl : cur.length = n1 := by have h1 := hFn.le; have h3 := HCN.out; omega
        obtain ⟨f, t⟩ := mo
        obtain ⟨hf, ht, hne, hd, _, _, _⟩ := nxt_some h3 (by omega)
        have hokf := hFn.ok f hf
        have hokt := hFn.ok t ht
        rw [hnl] at hf ht
        obtain ⟨bm, rfl, hbl, hbb, hcm1, hcm2⟩ := own2_at hM hlt h2
        simp only at hcm1 hcm2 h4
        obtain ⟨gx, hgx, hcf, hgl, hgb, hff⟩ := own_at hown (k := f) (u := .int .i64 (cur.getD f 0)) (map_at (by omega) 0)
        injection hgx with hgx; injection hgx with hgx; subst hgx
        obtain ⟨gx, hgx, hct, _, _, hft⟩ := own_at hown (k := t) (u := .int .i64 (cur.getD t 0)) (map_at (by omega) 0)
        injection hgx with hgx; injection hgx with hgx; subst hgx
        have hgm : g ≠ bm := fun e => own_apart hown hM (by decide) g rfl (by subst e; rfl)
        have hi0 := fun w => idx_move bm ms.length c' i hlt w
        have hi1 := fun w => idx_own g n1 c2 f hf w
        have hi2 := fun w => idx_own g n1 c2 t ht w
        have hx0 : 0 ≤ cur.getD f 0 ∧ cur.getD f 0 ≤ 1000 := by omega
        have hz0 : 0 ≤ cur.getD t 0 ∧ cur.getD t 0 ≤ 1000 := by omega
        have d2 : decide (cur.getD f 0 - cur.getD t 0 ≤ 1) = false := decide_eq_false (by omega)
        have d0 : IntKind.i64.wrap (cur.getD f 0 - cur.getD t 0) = cur.getD f 0 - cur.getD t 0 := sub_sm (by omega) (by omega) (by omega) (by omega)
        have H4 := Lib.hid h4; have HO := Lib.hid hown; have HM := Lib.hid hM
        have hgetf : (cur.set f (cur.getD f 0 - 1)).getD t 0 = cur.getD t 0 := by rw [getD_set, if_neg (by omega)]
        have hmv : mv cur f t = (cur.set f (cur.getD f 0 - 1)).set t (cur.getD t 0 + 1) := by unfold mv; rw [hgetf]
        have HMV := Lib.hid hmv
        have HNL := Lib.hid hnl
        have H2 := Lib.hid h2
        clear h2 h3 h4 hFn hd hokf hokt hown hM hmv hgetf hnl
        generalize hxe : cur.getD f 0 = x at *
        generalize hze : cur.getD t 0 = z at *
        have HX := Lib.hid hxe; have HZ := Lib.hid hze
        clear hxe hze
        have hff1 := hff
        go_wp2_with fail
        go_quiet (fail)
        clear d0 d2
        have hO1 := own_chV HO.out (Ch.below (bel_drewN (Below.refl _ _) nq) []) (by simp)
        have hM1 := own_chV HM.out (Ch.below (bel_drewN (Below.refl _ _) nq) []) (by simp)
        have hB1 := bel_drewN hB nq
        go_upto_region 11 with fail
        have hO2 := own_set1 hO1 hf (.int .i64 (x - 1))
        rw [← List.map_set] at hO2
        have hM2 := own_chV hM1 ((Ch.refl [g] _).set (p := ⟨g, f, none⟩) (by simp) (.int .i64 (x - 1))) (fun gg hg hm => by
          simp at hm
          simp [Value.ownBlock] at hg
          omega)
        have hB2 := bel_set hB1 (p := ⟨g, f, none⟩) hgb (.int .i64 (x - 1))
        have hz2 : (cur.set f (x - 1)).getD t 0 = z := by rw [getD_set, if_neg (by omega)]; exact HZ.out
        obtain ⟨gx, hgx, hct2, _, _, hft2⟩ := own_at hO2 (k := t) (u := .int .i64 ((cur.set f (x - 1)).getD t 0)) (map_at (by rw [List.length_set]; have := HNL.out; omega) 0)
        injection hgx with hgx; injection hgx with hgx; subst hgx
        rw [hz2] at hct2
        obtain ⟨bx, hbx, _, _, hcm1', hcm2'⟩ := own2_at hM2 hlt H2.out
        injection hbx with hbx; injection hbx with hbx; subst hbx
        simp only at hcm1' hcm2'
        have HO2 := Lib.hid hO2; have HM2 := Lib.hid hM2
        clear hO1 hM1 hB1 hO2 hM2 hz2 hct hcf hff hff1 hft hcm1 hcm2
        generalize (wr.drewN nq).setCell ⟨g, f, none⟩ (.int .i64 (x - 1)) = w4 at *
        go_wp2_with fail
        have hO3 := own_set1 HO2.out ht (.int .i64 (z + 1))
        rw [← List.map_set, ← HMV.out] at hO3
        have hM3 := own_chV HM2.out ((Ch.refl [g] _).set (p := ⟨g, t, none⟩) (by simp) (.int .i64 (z + 1))) (fun gg hg hm => by
          simp at hm
          simp [Value.ownBlock] at hg
          omega)
        have hB3 := bel_set hB2 (p := ⟨g, t, none⟩) hgb (.int .i64 (z + 1))
        have HO3 := Lib.hid hO3; have HM3 := Lib.hid hM3
        clear hO3 hM3 hB2 hct2 hft2 hcm1' hcm2'
        go_roundw
        case rel => exact ⟨i + 1, mv cur f t, by omega, by go_num, HO3.out, HM3.out, H4.out, hB3⟩
        case measure => simp [intOf]; omega
      · obtain rfl : i = ms.length := by omega
        have hst := HS.out
        rw [List.take_of_length_le (Nat.le_refl _), HST.out] at hst
        injection hst with hst
        subst hst
        have hFn := steps_fit HF.out HS.out
        have hN := InI.own hown
        have hC := hC0.out.below hB
        have hev := even_yes (some ⟨g, 0, none⟩) a1 n1 n1 c2 c1 now cs wr hN hC hn0 hn1 hFn
        have HE := Lib.hid hev
        clear hFn hN hC hev hown hM
        go_wp2_with fail
        refine HE.out.mono ?_; rintro e w4 ⟨A3, ms3, c3, now3, rfl, _, hst3, _, _, hB4⟩
        obtain ⟨rfl, _⟩ := steps_last hst3 HNN.out
        have hB5 := bel_trans hB hB4
        clear hst3 hB hB4
        go_wp2_with fail
        go_ret
        exact ⟨rfl, hB5⟩
  · have hev := even_no a0 a1 n0 n1 c0 c1 l cs w0 hl hc hn0 hn1 hck
    clear hl hc
    generalize chkP l cs = v at *
    have hv1 : (v == 0) = false := by rw [beq_eq_false_iff_ne]; exact hck
    have hv2 : (v != 0) = true := by rw [bne_iff_ne]; exact hck
    have HE := Lib.hid hev
    clear hev hck
    go_enter Try.func6, Try.ntmps6
    go_wp2_with fail
    refine HE.out.mono ?_; rintro e w1 ⟨rfl, rfl⟩
    go_wp2_with fail
    refine (plans_any w0).mono ?_; rintro e w2 ⟨rfl, hB⟩
    go_wp2_with fail
    refine (plans_any w2).mono ?_; rintro e w3 ⟨rfl, hB2⟩
    have hB3 := bel_trans hB hB2
    clear hB hB2
    go_wp2_with fail
    go_ret
    exact ⟨rfl, hB3⟩
end Go.Proofs.Ytmheafagafdnlaa
