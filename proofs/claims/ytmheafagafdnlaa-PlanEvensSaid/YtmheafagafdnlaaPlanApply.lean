/- plan.Spread, plan.Apply; the statements' own plans. -/
import Derived.Test.YtmheafagafdnlaaPlanEven
namespace Go.Proofs.Ytmheafagafdnlaa
open Go.RowKit
set_option linter.unusedVariables false
set_option linter.unusedSimpArgs false
attribute [local go_sem] World.cell?_alloc_lt

theorem maxOf_ge (l : List Int) (h : 0 < l.length) : ∀ i, i < l.length → l.getD i 0 ≤ Lib.maxOf l := by
  intro i hi
  have h1 := max_frm l l.length h (Nat.le_refl _)
  rw [List.take_length] at h1
  rw [h1]
  exact frmK_max l _ i hi
theorem maxOf_at (l : List Int) (h : 0 < l.length) : ∃ i, i < l.length ∧ l.getD i 0 = Lib.maxOf l := by
  have h1 := max_frm l l.length h (Nat.le_refl _)
  rw [List.take_length] at h1
  exact ⟨_, frmK_lt l _ h, h1.symm⟩
theorem minOf_k (l : List Int) (k : Nat) (h0 : 0 < k) (hk : k ≤ l.length) : (∀ i, i < k → Lib.minOf (l.take k) ≤ l.getD i 0) ∧ ∃ i, i < k ∧ l.getD i 0 = Lib.minOf (l.take k) := by
  induction k with
  | zero => omega
  | succ k ih =>
    by_cases h : k = 0
    · subst h
      rw [Lib.minOf_one]
      refine ⟨fun i hi => ?_, 0, by omega, rfl⟩
      obtain rfl : i = 0 := by omega
      exact Int.le_refl _
    · obtain ⟨h1, i, hi, h2⟩ := ih (by omega) (by omega)
      rw [Lib.minOf_step l k (by omega) (by omega)]
      refine ⟨fun j hj => ?_, ?_⟩
      · by_cases hjk : j = k
        · subst hjk; omega
        · have := h1 j (by omega); omega
      · rcases Int.le_total (Lib.minOf (l.take k)) (l.getD k 0) with h3 | h3
        · exact ⟨i, by omega, by omega⟩
        · exact ⟨k, by omega, by omega⟩
theorem minOf_le (l : List Int) (h : 0 < l.length) : ∀ i, i < l.length → Lib.minOf l ≤ l.getD i 0 := by
  have := (minOf_k l l.length h (Nat.le_refl _)).1
  rw [List.take_length] at this
  exact this
theorem minOf_at (l : List Int) (h : 0 < l.length) : ∃ i, i < l.length ∧ l.getD i 0 = Lib.minOf l := by
  have := (minOf_k l l.length h (Nat.le_refl _)).2
  rw [List.take_length] at this
  exact this
def spreadOf (l : List Int) : Int := Lib.maxOf l - Lib.minOf l
section
variable (A : Option Addr) (n c : Nat) (l : List Int) (w : World) (hl : InI w A n l) (hn63 : n ≤ 9223372036854775807)
include hl hn63
theorem spread_any (hn : 0 < n) (hb : ∀ i, i < n → 0 ≤ l.getD i 0 ∧ l.getD i 0 ≤ 1000) : Calls Try.prog 34 #[.slice A n c] w fun e w' => e = .returned (.int .i64 (spreadOf l)) ∧ w = w' := by
  have hln := hl.ln
  obtain ⟨b, off, rfl, _, hcell⟩ := hl.at_ hn
  have hcz : ∀ j, j < l.length → w.cell? ⟨b, off + j, none⟩ = some (.int .i64 (l.getD j 0)) := fun j hj => hcell j _ (by rw [List.getD_eq_getElem?_getD, List.getElem?_eq_getElem hj]; rfl)
  have hM := Try.slices_Max_int b off n c l w hn (by omega) hn63 hcz
  have hI := Try.slices_Min_int b off n c l w hn (by omega) hn63 hcz
  rw [List.take_of_length_le (by omega)] at hM hI
  obtain ⟨i, hi, hie⟩ := maxOf_at l (by omega)
  obtain ⟨j, hj, hje⟩ := minOf_at l (by omega)
  have h1 := hb i (by omega)
  have h2 := hb j (by omega)
  rw [hie] at h1
  rw [hje] at h2
  have hn1 : ((n : Int) == 0) = false := by rw [beq_eq_false_iff_ne]; omega
  have HM := Lib.hid hM; have HI := Lib.hid hI
  clear hM hI hcell hcz hln hl hie hje
  unfold spreadOf
  generalize Lib.maxOf l = x at *
  generalize Lib.minOf l = y at *
  go_enter Try.func34, Try.ntmps34
  go_wp2_with fail
  refine HM.out.mono ?_; rintro e w1 ⟨rfl, hw⟩
  subst hw
  go_wp2_with fail
  refine HI.out.mono ?_; rintro e w1 ⟨rfl, hw⟩
  subst hw
  go_wp2_with fail
  go_ret
  exact ⟨rfl, rfl⟩
end
theorem idx_move (b n c i : Nat) (hi : i < n) (w : World) : (Instr.indexAt 44 (.slice (some ⟨b, 0, none⟩) n c) (.int .i64 (i : Int))).run Try.prog w = .ok (.pointer (some ⟨b, i * 2, none⟩)) w := by
  simp [go_sem, hi]
theorem own2_at {w : World} {base e n c : Nat} {A : Option Addr} {ms : List (Nat × Nat)} {i : Nat} {m : Nat × Nat} (h : w.ownsRow base e 2 (.slice A n c) n (mvCells ms)) (hi : i < n) (hm : ms[i]? = some m) : ∃ g, A = some ⟨g, 0, none⟩ ∧ g < w.heap.size ∧ base ≤ g ∧ w.cell? ⟨g, i * 2, none⟩ = some (.int .i64 (m.1 : Int)) ∧ w.cell? ⟨g, i * 2 + 1, none⟩ = some (.int .i64 (m.2 : Int)) := by
  obtain ⟨g, cap, hv, hb, hlt⟩ := h.form (by omega)
  injection hv with hA _ _
  subst hA
  have hc := mvCells_at ms i m hm
  have h1 := h.cells (g := g) rfl (i * 2) _ hc.1
  have h2 := h.cells (g := g) rfl (i * 2 + 1) _ hc.2
  rw [WideShapes.add_plain, Nat.zero_add] at h1 h2
  exact ⟨g, rfl, hlt, hb, h1, h2⟩
section
variable (A B : Option Addr) (n m c d base : Nat) (l cs now : List Int) (ms : List (Nat × Nat)) (w : World) (hl : InI w A n l) (hm : w.ownsRow base 51 2 (.slice B m d) m (mvCells ms)) (hml : ms.length = m) (hn63 : n ≤ 1000) (hm63 : m ≤ 9223372036854775807)
include hl hm hml hn63 hm63
set_option maxRecDepth 100000 in
set_option maxHeartbeats 1000000 in
theorem apply_steps (hF : Fit l cs) (hs : steps cs l ms = some now) : Calls Try.prog 33 #[.slice A n c, .slice B m d] w fun e w' => ∃ g c', e = .returned (.tuple #[.slice (some ⟨g, 0, none⟩) n c', .int .i64 0]) ∧ w'.ownsRow w.heap.size 3 1 (.slice (some ⟨g, 0, none⟩) n c') n (now.map (Value.int .i64)) ∧ Below w.heap.size w w' := by
  have hln := hl.ln
  have hn1 : 0 < n := by have := hF.l1; omega
  obtain ⟨b, off, rfl, hb, hcell⟩ := hl.at_ hn1
  have hcl := cloneI_at b off n c (l.map (Value.int .i64)) (by simp [hln]) (by intro u hu; obtain ⟨z, _, rfl⟩ := List.mem_map.1 hu; rfl) (by omega) w hb (by
    intro j u hj
    rw [List.getElem?_map] at hj
    obtain ⟨z, hz, rfl⟩ := Option.map_eq_some_iff.1 hj
    exact hcell j z hz)
  have HCL := Lib.hid hcl; have HF := Lib.hid hF; have HLN := Lib.hid hln; have HM := Lib.hid hm; have HML := Lib.hid hml; have HS := Lib.hid hs
  clear hcl hF hln hcell hl hm hml hs
  go_enter Try.func33, Try.ntmps33
  go_wp2_with fail
  refine HCL.out.mono ?_; rintro e w1 ⟨g, cg, rfl, hown, hB⟩
  go_wp2_with fail
  go_loopw [13] (fun v wr => ∃ (i : Nat) (cur : List Int), i ≤ m ∧ v = .int .i64 i ∧ wr.ownsRow w.heap.size 3 1 (.slice (some ⟨g, 0, none⟩) n cg) n (cur.map (Value.int .i64)) ∧ steps cs l (ms.take i) = some cur ∧ Below w.heap.size w wr) (fun v _ => m - (intOf v).toNat)
  case atStart => exact ⟨0, l, by omega, rfl, hown, rfl, hB⟩
  case round =>
    clear hown hB
    obtain ⟨i, cur, him, rfl, hown, hst, hB⟩ := hrel
    have HST := Lib.hid hst; clear hst
    by_cases hlt : i < m
    · obtain ⟨cur', mo, h1, h2, h3, h4⟩ := steps_take cs ms l now i HS.out (by rw [HML.out]; exact hlt)
      rw [HST.out] at h1
      injection h1 with h1
      subst h1
      have hFn := steps_fit HF.out HST.out
      have hnl : cur.length = n := by have h1 := hFn.le; have h2 := HF.out.le; have h3 := HLN.out; omega
      obtain ⟨f, t⟩ := mo
      obtain ⟨hf, ht, hne, hd, _, _, _⟩ := nxt_some h3 (by omega)
      have hokf := hFn.ok f hf
      have hokt := hFn.ok t ht
      rw [hnl] at hf ht
      obtain ⟨bm, rfl, hbl, hbb, hcm1, hcm2⟩ := own2_at HM.out hlt h2
      have hw1 : w.heap.size ≤ wr.heap.size := hB.size
      replace hcm1 := (hB.cell (p := ⟨bm, i * 2, none⟩) hbl).trans hcm1
      replace hcm2 := (hB.cell (p := ⟨bm, i * 2 + 1, none⟩) hbl).trans hcm2
      simp only at hcm1 hcm2 h4
      obtain ⟨gx, hgx, hcf, hgl, hgb, hff⟩ := own_at hown (k := f) (u := .int .i64 (cur.getD f 0)) (map_at (by omega) 0)
      injection hgx with hgx; injection hgx with hgx; subst hgx
      obtain ⟨gx, hgx, hct, _, _, hft⟩ := own_at hown (k := t) (u := .int .i64 (cur.getD t 0)) (map_at (by omega) 0)
      injection hgx with hgx; injection hgx with hgx; subst hgx
      have hi0 := fun w => idx_move bm m d i hlt w
      have hi1 := fun w => idx_own g n cg f hf w
      have hi2 := fun w => idx_own g n cg t ht w
      have hfi : (f : Int) < (n : Int) := by omega
      have hti : (t : Int) < (n : Int) := by omega
      have hf0 : ¬ ((f : Int) < 0) := by omega
      have ht0 : ¬ ((t : Int) < 0) := by omega
      have hx0 : 0 ≤ cur.getD f 0 ∧ cur.getD f 0 ≤ 1000 := by omega
      have hx1 : ¬ (cur.getD f 0 < 1) := by omega
      have hz0 : 0 ≤ cur.getD t 0 ∧ cur.getD t 0 ≤ 1000 := by omega
      have H4 := Lib.hid h4; have HO := Lib.hid hown
      have hgetf : (cur.set f (cur.getD f 0 - 1)).getD t 0 = cur.getD t 0 := by rw [getD_set, if_neg (by omega)]
      have hmv : mv cur f t = (cur.set f (cur.getD f 0 - 1)).set t (cur.getD t 0 + 1) := by unfold mv; rw [hgetf]
      have HMV := Lib.hid hmv
      have HNL := Lib.hid hnl
      clear h2 h3 h4 hFn hd hokf hokt hown hmv hgetf hnl
      generalize hxe : cur.getD f 0 = x at *
      generalize hze : cur.getD t 0 = z at *
      have HX := Lib.hid hxe; have HZ := Lib.hid hze
      clear hxe hze
      go_upto_region 5 with fail
      have hblk := Blk.new wr 51 [.int .i64 (f : Int), .int .i64 (t : Int)]
      have hca : Ch [] wr (wr.alloc (.cells #[.int .i64 (f : Int), .int .i64 (t : Int)] 51)) := (Ch.refl [] wr).alloc _
      have hO2 := own_chV HO.out hca (by simp)
      have hB2 := bel_trans hB hca.bel
      have hgp : g ≠ wr.heap.size := by omega
      have hgl2 := Nat.lt_of_lt_of_le hgl hca.size
      have HO2 := Lib.hid hO2
      clear hca hO2 hB hcf hct hff hft hcm1 hcm2 hi0
      generalize wr.alloc (.cells #[.int .i64 (f : Int), .int .i64 (t : Int)] 51) = wa at *
      generalize wr.heap.size = p at *
      have q0 := hblk.at_ (i := 0) rfl
      have q1 := hblk.at_ (i := 1) rfl
      have hO2 := HO2.out
      obtain ⟨gx, hgx, hcf, _, _, hff⟩ := own_at hO2 (k := f) (u := .int .i64 x) (by rw [← HX.out]; exact map_at (by have := HNL.out; omega) 0)
      injection hgx with hgx; injection hgx with hgx; subst hgx
      have hpg : p ≠ g := fun e => hgp e.symm
      clear hO2
      go_upto_region 10 with fail
      have hO3 := own_set1 HO2.out hf (.int .i64 (x - 1))
      rw [← List.map_set] at hO3
      have hblk3 := hblk.far (p := ⟨g, f, none⟩) hpg (.int .i64 (x - 1))
      have hB3 := bel_set hB2 (p := ⟨g, f, none⟩) hgb (.int .i64 (x - 1))
      have hz2 : (cur.set f (x - 1)).getD t 0 = z := by rw [getD_set, if_neg (by omega)]; exact HZ.out
      obtain ⟨gx, hgx, hct, _, _, hft⟩ := own_at hO3 (k := t) (u := .int .i64 ((cur.set f (x - 1)).getD t 0)) (map_at (by rw [List.length_set]; have := HNL.out; omega) 0)
      injection hgx with hgx; injection hgx with hgx; subst hgx
      rw [hz2] at hct
      have HO3 := Lib.hid hO3
      clear hO3 hcf hff q0 q1 hblk hB2 hz2
      generalize wa.setCell ⟨g, f, none⟩ (.int .i64 (x - 1)) = w3 at *
      have q0 := hblk3.at_ (i := 0) rfl
      have q1 := hblk3.at_ (i := 1) rfl
      clear hblk3
      go_wp2_with fail
      have hO4 := own_set1 HO3.out ht (.int .i64 (z + 1))
      rw [← List.map_set, ← HMV.out] at hO4
      have hB4 := bel_set hB3 (p := ⟨g, t, none⟩) hgb (.int .i64 (z + 1))
      have HO4 := Lib.hid hO4
      clear hO4 hB3 q0 q1 hct hft
      go_roundw
      case rel => exact ⟨i + 1, mv cur f t, by omega, by go_num, HO4.out, H4.out, hB4⟩
      case measure => simp [intOf]; omega
    · obtain rfl : i = m := by omega
      have hst := HST.out
      rw [List.take_of_length_le (by rw [HML.out]; exact Nat.le_refl _), HS.out] at hst
      injection hst with hst
      subst hst
      have HO := Lib.hid hown
      clear hown
      go_wp2_with fail
      go_ret2
      exact ⟨g, cg, rfl, HO.out, hB⟩
end
end Go.Proofs.Ytmheafagafdnlaa
