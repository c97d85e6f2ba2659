/- plan.Even. -/
import Derived.Test.YtmheafagafdnlaaPlanRef
import Derived.Test.YtmheafagafdnlaaOwnRows
namespace Go.Proofs.Ytmheafagafdnlaa
open Go.RowKit
set_option linter.unusedVariables false
set_option linter.unusedSimpArgs false
attribute [local go_sem] World.cell?_alloc_lt

def mvCells (ms : List (Nat × Nat)) : List Value := ms.flatMap fun m => [.int .i64 (m.1 : Int), .int .i64 (m.2 : Int)]
theorem mvCells_snoc (ms : List (Nat × Nat)) (m : Nat × Nat) : mvCells (ms ++ [m]) = mvCells ms ++ [.int .i64 (m.1 : Int), .int .i64 (m.2 : Int)] := by simp [mvCells]
theorem mvCells_at : ∀ (ms : List (Nat × Nat)) (i : Nat) (m : Nat × Nat), ms[i]? = some m → (mvCells ms)[i * 2]? = some (.int .i64 (m.1 : Int)) ∧ (mvCells ms)[i * 2 + 1]? = some (.int .i64 (m.2 : Int)) := by
  intro ms
  induction ms with
  | nil => intro i m h; simp at h
  | cons x xs ih =>
    intro i m h
    cases i with
    | zero => simp at h; subst h; simp [mvCells]
    | succ i =>
      have := ih i m (by simpa using h)
      have e : mvCells (x :: xs) = .int .i64 (x.1 : Int) :: .int .i64 (x.2 : Int) :: mvCells xs := by simp [mvCells]
      rw [e, show (i + 1) * 2 = i * 2 + 1 + 1 by omega]
      simpa using this
def lenOf : Value → Nat
  | .slice _ n _ => n
  | _ => 0
theorem info_move : (Try.prog.info? 51).map (fun i => (i.zero, i.size, i.bytes)) = some (some (.agg #[.int .i64 0, .int .i64 0]), 2, 16) := by kernel_rfl
theorem steps_fit {c l now : List Int} {ms : List (Nat × Nat)} (h : Fit l c) (hs : steps c l ms = some now) : Fit now c :=
  steps_inv c (fun l => Fit l c) (fun l f t h hn => h.mv hn) ms l now h hs
section
variable (A B : Option Addr) (n m c d : Nat) (l cs : List Int) (w : World) (hl : InI w A n l) (hc : InI w B m cs) (hn63 : n ≤ 9223372036854775807) (hm63 : m ≤ 9223372036854775807)
include hl hc hn63 hm63
theorem even_no (hno : chkP l cs ≠ 0) : Calls Try.prog 22 #[.slice A n c, .slice B m d] w fun e w' => e = .returned (.tuple #[.slice none 0 0, .int .i64 (chkP l cs)]) ∧ w = w' := by
  have hck := check_any A B n m c d l cs w hl hc hn63 hm63
  clear hl hc
  generalize chkP l cs = v at *
  have hv : (v == 0) = false := by rw [beq_eq_false_iff_ne]; exact hno
  have hv2 : (v != 0) = true := by rw [bne_iff_ne]; exact hno
  have HCK := Lib.hid hck
  clear hck hno
  go_enter Try.func22, Try.ntmps22
  go_wp2_with fail
  refine HCK.out.mono ?_; rintro e w1 ⟨rfl, rfl⟩
  go_wp2_with fail
  go_ret2
  exact ⟨rfl, rfl⟩
set_option maxRecDepth 100000 in
set_option maxHeartbeats 2000000 in
theorem even_yes (hF : Fit l cs) : Calls Try.prog 22 #[.slice A n c, .slice B m d] w fun e w' => ∃ A' ms c' now, e = .returned (.tuple #[.slice A' ms.length c', .int .i64 0]) ∧ w'.ownsRow w.heap.size 51 2 (.slice A' ms.length c') ms.length (mvCells ms) ∧ steps cs l ms = some now ∧ nxt now cs = none ∧ ms.length ≤ 4000000 ∧ Below w.heap.size w w' := by
  have hck := check_any A B n m c d l cs w hl hc hn63 hm63
  rw [chk_of hF] at hck
  have hln := hl.ln
  have hcn := hc.ln
  have hn1 : 0 < n := by have := hF.l1; omega
  have hn8 : n ≤ 8 := by have := hF.l8; omega
  have hmn : m = n := by have := hF.le; omega
  subst hmn
  obtain ⟨b, off, rfl, hb, hcell⟩ := hl.at_ hn1
  have hcl := cloneI_at b off m c (l.map (Value.int .i64)) (by simp [hln]) (by intro u hu; obtain ⟨z, _, rfl⟩ := List.mem_map.1 hu; rfl) (by omega) w hb (by
    intro j u hj
    rw [List.getElem?_map] at hj
    obtain ⟨z, hz, rfl⟩ := Option.map_eq_some_iff.1 hj
    exact hcell j z hz)
  have HCK := Lib.hid hck; have HCL := Lib.hid hcl
  have HF := Lib.hid hF; have HLN := Lib.hid hln; have HCN := Lib.hid hcn
  clear hck hcl hF hln hcn hcell hl
  go_enter Try.func22, Try.ntmps22
  go_wp2_with fail
  refine HCK.out.mono ?_; rintro e w1 ⟨rfl, rfl⟩
  go_wp2_with fail
  refine HCL.out.mono ?_; rintro e w1 ⟨g, cg, rfl, hown, hB⟩
  have hown0 : w1.ownsRow w.heap.size 51 2 (.slice none 0 0) 0 (mvCells []) := ⟨rfl, Or.inl ⟨rfl, rfl⟩⟩
  go_wp2_with fail
  go_loopw [8] (fun v wr => ∃ (ms : List (Nat × Nat)) (now : List Int) (A' : Option Addr) (c' : Nat), v = .slice A' ms.length c' ∧ wr.ownsRow w.heap.size 51 2 (.slice A' ms.length c') ms.length (mvCells ms) ∧ wr.ownsRow w.heap.size 3 1 (.slice (some ⟨g, 0, none⟩) m cg) m (now.map (Value.int .i64)) ∧ steps cs l ms = some now ∧ sumG sq now + 2 * (ms.length : Int) ≤ 8000000 ∧ Below w.heap.size w wr) (fun v _ => 4000001 - lenOf v)
  case atStart => exact ⟨[], l, none, 0, rfl, hown0, hown, rfl, by have := fit_sq HF.out; simp; omega, hB⟩
  case round =>
    clear hown hB hown0
    obtain ⟨ms, now, A', c', rfl, hownM, hown, hst, hsq, hB⟩ := hrel
    have hFn := steps_fit HF.out hst
    have hnl : now.length = m := by have h1 := hFn.le; rw [HCN.out] at h1; omega
    have hN := InI.own hown
    have hC := hc.below hB
    have hgr := greatest_any (some ⟨g, 0, none⟩) m cg now wr hN hn63 hn1
    have hls := least_any (some ⟨g, 0, none⟩) B m m cg d now cs wr hN hn63 hC rfl
    have hsn := sumG_nonneg sq sq_nonneg now
    have hml : ms.length ≤ 4000000 := by omega
    have hff := frmK_lt now m hn1
    have htb := tgtK_bd now cs m
    have hnx : nxt now cs = if tgtK now cs m < 0 ∨ now.getD (frmK now m) 0 - now.getD (tgtK now cs m).toNat 0 ≤ 1 then none else some (frmK now m, (tgtK now cs m).toNat) := by unfold nxt; rw [hnl]
    have hok := hFn.ok
    rw [hnl] at hok
    obtain ⟨gx, hgx, hcf, hgl, hgb, hff2⟩ := own_at hown (k := frmK now m) (u := .int .i64 (now.getD (frmK now m) 0)) (map_at (by omega) 0)
    injection hgx with hgx; injection hgx with hgx; subst hgx
    have HGR := Lib.hid hgr; have HLS := Lib.hid hls; have HST := Lib.hid hst; have HNX := Lib.hid hnx; have HOK := Lib.hid hok
    have HFN := Lib.hid hFn; have HNL := Lib.hid hnl
    clear hgr hls hst hnx hFn hnl hC hok
    have hi1 := fun w => idx_own g m cg (frmK now m) hff w
    obtain ⟨f, hf⟩ : ∃ f, frmK now m = f := ⟨_, rfl⟩
    rw [hf] at HGR HNX hff hcf hi1 hff2
    have hf0 := HOK.out f hff
    clear hf
    have hx0 : 0 ≤ now.getD f 0 ∧ now.getD f 0 ≤ 1000 := by omega
    clear hf0
    by_cases ht : tgtK now cs m < 0
    · have hnn : nxt now cs = none := HNX.out.trans (if_pos (Or.inl ht))
      have HNN := Lib.hid hnn
      have d1 : decide (tgtK now cs m < 0) = true := decide_eq_true ht
      have HM := Lib.hid hownM
      clear hnn HNX HOK hownM hown hN
      generalize tgtK now cs m = tt at *
      generalize now.getD f 0 = x at *
      go_wp2_with fail
      refine HGR.out.mono ?_; rintro e w2 ⟨rfl, rfl⟩
      go_wp2_with fail
      refine HLS.out.mono ?_; rintro e w2 ⟨rfl, rfl⟩
      go_wp2_with fail
      go_quiet (fail)
      clear d1
      go_wp2_with fail
      go_ret2
      exact ⟨A', ms, c', now, rfl, own_chV HM.out (Ch.below (bel_drewN (Below.refl _ _) _) []) (by simp), HST.out, HNN.out, hml, bel_drewN hB _⟩
    · obtain ⟨t, hte⟩ := Int.eq_ofNat_of_zero_le (show 0 ≤ tgtK now cs m by omega)
      rw [hte] at HLS HNX htb
      rw [Int.toNat_natCast] at HNX
      have htm : t < m := by omega
      have htn : ¬ ((t : Int) < 0) := by omega
      clear ht hte
      obtain ⟨gx, hgx, hct, _, _, _⟩ := own_at hown (k := t) (u := .int .i64 (now.getD t 0)) (map_at (by have := HNL.out; omega) 0)
      injection hgx with hgx; injection hgx with hgx; subst hgx
      have hi2 := fun w => idx_own g m cg t htm w
      have ht0 := HOK.out t htm
      have hz0 : 0 ≤ now.getD t 0 ∧ now.getD t 0 ≤ 1000 := by omega
      have d1 : decide ((t : Int) < 0) = false := decide_eq_false htn
      by_cases hd : now.getD f 0 - now.getD t 0 ≤ 1
      · have hnn : nxt now cs = none := HNX.out.trans (if_pos (Or.inr hd))
        have HNN := Lib.hid hnn
        have d2 : decide (now.getD f 0 - now.getD t 0 ≤ 1) = true := decide_eq_true hd
        have d0 : IntKind.i64.wrap (now.getD f 0 - now.getD t 0) = now.getD f 0 - now.getD t 0 := sub_sm (by omega) (by omega) (by omega) (by omega)
        have HM := Lib.hid hownM
        clear hnn HNX HOK hownM hown hN ht0
        generalize now.getD f 0 = x at *
        generalize now.getD t 0 = z at *
        go_wp2_with fail
        refine HGR.out.mono ?_; rintro e w2 ⟨rfl, rfl⟩
        go_wp2_with fail
        refine HLS.out.mono ?_; rintro e w2 ⟨rfl, rfl⟩
        go_wp2_with fail
        go_quiet (fail)
        clear d1 d2 d0
        go_wp2_with fail
        go_ret2
        exact ⟨A', ms, c', now, rfl, own_chV HM.out (Ch.below (bel_drewN (Below.refl _ _) _) []) (by simp), HST.out, HNN.out, hml, bel_drewN hB _⟩
      · have hns : nxt now cs = some (f, t) := HNX.out.trans (if_neg (by intro h; rcases h with h | h; exact htn h; exact hd h))
        obtain ⟨_, _, hne, _, _, _, _⟩ := nxt_some hns (by have := HNL.out; omega)
        have hsq2 := sq_mv now f t (by have := HNL.out; omega) (by have := HNL.out; omega) hne (by omega)
        have hst2 := steps_snoc cs ms l now (f, t) HST.out hns
        have d2 : decide (now.getD f 0 - now.getD t 0 ≤ 1) = false := decide_eq_false hd
        have d0 : IntKind.i64.wrap (now.getD f 0 - now.getD t 0) = now.getD f 0 - now.getD t 0 := sub_sm (by omega) (by omega) (by omega) (by omega)
        have HM := Lib.hid hownM; have HO := Lib.hid hown; have HS2 := Lib.hid hst2
        have hgetf : (now.set f (now.getD f 0 - 1)).getD t 0 = now.getD t 0 := by rw [getD_set, if_neg (by omega)]
        have hmv : mv now f t = (now.set f (now.getD f 0 - 1)).set t (now.getD t 0 + 1) := by unfold mv; rw [hgetf]
        have HMV := Lib.hid hmv
        have hap := own_apart hown hownM (by decide) g rfl
        have HAP := Lib.hid hap
        clear hns HNX HOK hownM hown hN ht0 hst2 hgetf hmv hap
        have hsq3 : sumG sq (mv now f t) + 2 * ((ms.length + 1 : Nat) : Int) ≤ 8000000 := by omega
        have HS3 := Lib.hid hsq3
        clear hsq3 hsq2 hsq hsn
        generalize hxe : now.getD f 0 = x at *
        generalize hze : now.getD t 0 = z at *
        clear hxe
        have hfz := hff2
        go_wp2_with fail
        refine HGR.out.mono ?_; rintro e w2 ⟨rfl, rfl⟩
        go_wp2_with fail
        refine HLS.out.mono ?_; rintro e w2 ⟨rfl, rfl⟩
        go_wp2_with fail
        go_quiet (fail)
        clear d1 d2 d0
        have hO1 := own_chV HO.out (Ch.below (bel_drewN (Below.refl _ _) nq) []) (by simp)
        have hM1 := own_chV HM.out (Ch.below (bel_drewN (Below.refl _ _) nq) []) (by simp)
        have hB1 := bel_drewN hB nq
        go_upto_region 10 with fail
        have hO2 := own_set1 hO1 hff (.int .i64 (x - 1))
        rw [← List.map_set] at hO2
        have hM2 := own_chV hM1 ((Ch.refl [g] _).set (p := ⟨g, f, none⟩) (by simp) (.int .i64 (x - 1))) (fun gg hg hm => by simp at hm; subst hm; exact HAP.out hg)
        have hB2 := bel_set hB1 (p := ⟨g, f, none⟩) hgb (.int .i64 (x - 1))
        have hl2 : (now.set f (x - 1)).length = m := by rw [List.length_set]; exact HNL.out
        have hz2 : (now.set f (x - 1)).getD t 0 = now.getD t 0 := by rw [getD_set, if_neg (by omega)]
        obtain ⟨gx, hgx, hct2, _, _, hft2⟩ := own_at hO2 (k := t) (u := .int .i64 ((now.set f (x - 1)).getD t 0)) (map_at (by omega) 0)
        injection hgx with hgx; injection hgx with hgx; subst hgx
        rw [hz2, hze] at hct2
        have HO2 := Lib.hid hO2; have HM2 := Lib.hid hM2
        clear hO1 hM1 hB1 hO2 hM2 hz2 hze hl2 hct hcf hff2 hfz
        generalize (wr.drewN nq).setCell ⟨g, f, none⟩ (.int .i64 (x - 1)) = w3 at *
        go_upto_region 11 with fail
        have hO3 := own_set1 HO2.out htm (.int .i64 (z + 1))
        rw [← List.map_set] at hO3
        have hM3 := own_chV HM2.out ((Ch.refl [g] _).set (p := ⟨g, t, none⟩) (by simp) (.int .i64 (z + 1))) (fun gg hg hm => by simp at hm; subst hm; exact HAP.out hg)
        have hB3 := bel_set hB2 (p := ⟨g, t, none⟩) hgb (.int .i64 (z + 1))
        rw [← HMV.out] at hO3
        have HO3 := Lib.hid hO3; have HM3 := Lib.hid hM3
        clear hO3 hM3 hB2 hct2 hft2
        generalize w3.setCell ⟨g, t, none⟩ (.int .i64 (z + 1)) = w4 at *
        have hnews := Blk.new w4 51 [.int .i64 (f : Int), .int .i64 (t : Int)]
        have HNW := Lib.hid hnews; clear hnews
        have hO4 := own_chV HO3.out ((Ch.refl [] w4).alloc (.cells #[.int .i64 (f : Int), .int .i64 (t : Int)] 51)) (by simp)
        have hM4 := own_chV HM3.out ((Ch.refl [] w4).alloc (.cells #[.int .i64 (f : Int), .int .i64 (t : Int)] 51)) (by simp)
        have hB4 := bel_alloc hB3 (.cells #[.int .i64 (f : Int), .int .i64 (t : Int)] 51)
        have hw4 := hB4.size
        have HO4 := Lib.hid hO4; have HM4 := Lib.hid hM4; have HB4 := Lib.hid hB4
        clear hO4 hM4 hB4 hB3
        go_wp2_with (at_builtin; refine wpList_pushesN _ rfl (.tmp 51) (.tmp 55) 44 rfl w.heap.size 51 _ 2 16 Try.underlying44 info_move rfl (by omega) A' ms.length c' (mvCells ms) rfl HM4.out w4.heap.size 0 1 1 [.int .i64 (f : Int), .int .i64 (t : Int)] rfl rfl (fun j u hj => by rw [Nat.zero_add]; exact HNW.out.at_ hj) (fun u hu => by simp at hu; rcases hu with rfl | rfl <;> rfl) (by omega) (by omega) (by omega) hw4 ?_)
        intro gg cp w5 hown5 hgr5 hor5
        have hc5 : Ch (Value.slice A' ms.length c').ownBlock.toList (w4.alloc (.cells #[.int .i64 (f : Int), .int .i64 (t : Int)] 51)) w5 := ch_grown hgr5 (fun q hq => by rw [hq]; simp)
        have hO5 := own_chV HO4.out hc5 (fun q hq hm => by
          simp [Value.ownBlock] at hq
          subst hq
          rw [Option.mem_toList] at hm
          exact HAP.out hm)
        have hB5 := bel_ch HB4.out hc5 (fun q hq => by rw [Option.mem_toList] at hq; exact (HM4.out.lt q hq).1)
        have hl5 : (ms ++ [(f, t)]).length = ms.length + 1 := by simp
        rw [← mvCells_snoc ms (f, t), ← hl5] at hown5
        have HW5 := Lib.hid hown5; have HO5 := Lib.hid hO5; have HL5 := Lib.hid hl5
        clear hown5 hO5 hc5 hgr5 hor5 hl5
        go_wp2_with fail
        go_roundw
        case rel => exact ⟨ms ++ [(f, t)], mv now f t, some ⟨gg, 0, none⟩, cp, by rw [HL5.out], HW5.out, HO5.out, HS2.out, by rw [HL5.out]; exact HS3.out, hB5⟩
        case measure => simp [lenOf]; omega
end
end Go.Proofs.Ytmheafagafdnlaa
