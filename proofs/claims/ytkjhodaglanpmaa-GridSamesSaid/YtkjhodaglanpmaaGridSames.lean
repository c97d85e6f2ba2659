/- The law GridSames. -/
import Derived.Test.YtkjhodaglanpmaaGridTexts
import Derived.Test.YtkjhodaglanpmaaGridS3
import Derived.WideKeyPair
namespace Go.Proofs.Ytkjhodaglanpmaa
open Go.RowKit
set_option linter.unusedVariables false
set_option linter.unusedSimpArgs false
attribute [local go_sem] World.cell?_alloc_lt

section
variable {H : Type} {enc : TypeId × Value → H} {W : World} {base : Nat} {held : Bool}
set_option maxRecDepth 100000 in
theorem open_two {r : Reach} {b0 : Nat} {v : Value} {d : DataW H} {p : List MemPlace} (hv : Value.okWide Try.prog W r b0 67 v) (h : DataW.Trod enc Try.prog W base (fun _ => true) held 67 v d p) :
    ∃ (a b : Int), v = .agg #[.int .i64 a, .int .i64 b] := by
  obtain ⟨a, b, rfl, _⟩ := WideMaps.open_pair (e := 3) (q := .i64) ⟨Try.underlying67, by kernel_rfl, by kernel_rfl, by kernel_rfl⟩ Try.underlying3 hv h
  exact ⟨a, b, rfl⟩
end
theorem gs_Same_sq (g b g2 b2 m n : Nat) (c0 : Bool) (hc : decide (m = n) = c0) (w : World) (hG : GridS w g b m n (List.replicate (m * n) ByteArray.empty)) (hG2 : GridS w g2 b2 n m (List.replicate (n * m) ByteArray.empty)) :
    Calls Try.prog 39 #[.pointer (some ⟨g, 0, none⟩), .pointer (some ⟨g2, 0, none⟩)] w fun e w' => e = .returned (.bool c0) ∧ Below w.heap.size w w' := by
  by_cases h : m = n
  · subst h
    have := gs_Same g b g2 b2 m m _ _ w hG hG2
    rw [decide_eq_true rfl] at this
    rw [decide_eq_true rfl] at hc
    rw [← hc]
    exact this
  · rw [decide_eq_false h] at hc
    rw [← hc]
    exact gs_Same_shape g b g2 b2 m n n m _ _ w hG hG2 (Or.inl h)
def xS : ByteArray := ⟨#[120]⟩
theorem xS_ne : xS ≠ ByteArray.empty := by
  intro h
  have := congrArg ByteArray.size h
  simp [xS, ByteArray.size] at this
theorem set_ne {L i : Nat} (h : i < L) : (List.replicate L ByteArray.empty).set i xS ≠ List.replicate L ByteArray.empty := by
  intro e
  have := congrArg (fun l => l[i]?) e
  simp [h] at this
  exact xS_ne this
theorem set_back {L i : Nat} (h : i < L) : ((List.replicate L ByteArray.empty).set i xS).set i ByteArray.empty ≠ (List.replicate L ByteArray.empty).set i xS := by
  intro e
  have := congrArg (fun l => l[i]?) e
  simp [h] at this
  exact xS_ne this.symm
set_option maxRecDepth 100000 in
set_option maxHeartbeats 4000000 in
theorem gridSames_walk (w0 : World) (r0 : Int) (_h1 : (Lit.int .i64 r0).wf = true) (c0 : Int) (_h2 : (Lit.int .i64 c0).wf = true) (a0 a1 : Int) :
    Calls Try.prog 9 #[.int .i64 r0, .int .i64 c0, .agg #[.int .i64 a0, .int .i64 a1]] w0 fun e w' => e = .returned (.bool true) ∧ Below w0.heap.size w0 w' := by
  have hbm := umod1_bd r0 6 (by omega) (by omega)
  generalize hm : wrap64 (1 + wrap64 ((IntKind.u64.wrap r0).tmod 6)) = m at hbm
  obtain ⟨m, rfl⟩ := Int.eq_ofNat_of_zero_le (show 0 ≤ m by omega)
  have hbn := umod1_bd c0 6 (by omega) (by omega)
  generalize hn : wrap64 (1 + wrap64 ((IntKind.u64.wrap c0).tmod 6)) = n at hbn
  obtain ⟨n, rfl⟩ := Int.eq_ofNat_of_zero_le (show 0 ≤ n by omega)
  have hbr := umod_bd a0 m (by omega) (by omega)
  generalize hr : wrap64 ((IntKind.u64.wrap a0).tmod (m : Int)) = r at hbr
  obtain ⟨r, rfl⟩ := Int.eq_ofNat_of_zero_le hbr.1
  have hbk := umod_bd a1 n (by omega) (by omega)
  generalize hk : wrap64 ((IntKind.u64.wrap a1).tmod (n : Int)) = k at hbk
  obtain ⟨k, rfl⟩ := Int.eq_ofNat_of_zero_le hbk.1
  have hrm : r < m := by omega
  have hkn : k < n := by omega
  have hi := place_lt hrm hkn
  obtain ⟨cb, hcb, hcb2⟩ : ∃ cb, decide (m = n) = cb ∧ ((m : Int) == (n : Int)) = cb := by
    refine ⟨_, rfl, ?_⟩
    by_cases h : m = n
    · subst h; simp
    · rw [decide_eq_false h, beq_eq_false_iff_ne]; omega
  have HM := Lib.hid hm; have HN := Lib.hid hn; have HR := Lib.hid hr; have HK := Lib.hid hk; have HCB := Lib.hid hcb
  clear hm hn hr hk hcb
  have hm0 : (m : Int) ≠ 0 := by omega
  have hn0 : (n : Int) ≠ 0 := by omega
  go_enter Try.func9, Try.ntmps9
  go_wp2_with fail
  rw [HM.out, HN.out]
  refine (gs_new m n _ (by omega) (by omega)).mono ?_; rintro e w1 ⟨ga, ba, rfl, hga, hba, hA, hb⟩
  have hbx := (Blk.new w0 67 [.int .i64 a0, .int .i64 a1]).below hb
  have hB := bel_trans (bel_alloc (Below.refl _ w0) _) hb
  simp only [World.size_alloc] at hga hba
  clear hb
  go_wp2_with fail
  refine (gs_new m n _ (by omega) (by omega)).mono ?_; rintro e w2 ⟨gb, bb, rfl, hgb, hbb, hC, hb⟩
  have hbx := hbx.below hb; have hlA := hA.st.lt; have hlA2 := hA.dt.lt; have hA := hA.below hb; have hB := bel_trans hB hb; have hs2 := hb.size; clear hb
  go_wp2_with fail
  refine (gs_new n m _ (by omega) (by omega)).mono ?_; rintro e w3 ⟨gc, bc, rfl, hgc, hbc, hD, hb⟩
  have hbx := hbx.below hb; have hlC := hC.st.lt; have hlC2 := hC.dt.lt; have hA := hA.below hb; have hC := hC.below hb; have hB := bel_trans hB hb; have hs3 := hb.size; clear hb
  have q0 := hbx.at_ (i := 0) rfl
  have q1 := hbx.at_ (i := 1) rfl
  go_wp2_with fail
  refine wp_region_quiet_lit (by kernel_rfl) (by kernel_rfl) ?_
  repeat (first | go_big_quiet_step (fail) | quiet_step (fail))
  refine wpQuiet_nil ?_; intro _ hw'; obtain ⟨nq, hw''⟩ := hw'; subst hw''
  rw [HR.out, HK.out]
  have hb := bel_drewN (Below.refl _ w3) nq
  have hlD := hD.st.lt; have hlD2 := hD.dt.lt
  have hss : w3.heap.size ≤ (w3.drewN nq).heap.size := Nat.le_refl _
  have hA := hA.below hb; have hC := hC.below hb; have hD := hD.below hb; have hB := bel_trans hB hb; clear hb q0 q1 hbx
  generalize w3.drewN nq = w4 at *
  go_wp2_with fail
  refine (grids_any w4).mono ?_; rintro e w5 ⟨rfl, hb⟩
  have hA := hA.below hb; have hC := hC.below hb; have hD := hD.below hb; have hB := bel_trans hB hb; have hss := Nat.le_trans hss hb.size; clear hb
  go_wp2_with fail
  refine (gs_Same ga ba gb bb m n _ _ w5 hA hC).mono ?_; rintro e w6 ⟨rfl, hb⟩
  rw [decide_eq_true rfl]
  have hA := hA.below hb; have hC := hC.below hb; have hD := hD.below hb; have hB := bel_trans hB hb; have hss := Nat.le_trans hss hb.size; clear hb
  go_wp2_with fail
  refine (gs_Same_sq ga ba gc bc m n cb HCB.out w6 hA hD).mono ?_; rintro e w7 ⟨rfl, hb⟩
  have hA := hA.below hb; have hC := hC.below hb; have hD := hD.below hb; have hB := bel_trans hB hb; have hss := Nat.le_trans hss hb.size; clear hb
  have hx : (cb != cb) = false := by cases cb <;> rfl
  go_wp2_with fail
  refine (gs_Put_yes ga ba m n _ r k _ xS w7 hA hrm hkn rfl).mono ?_; rintro e w8 ⟨rfl, hA, hc⟩
  have hC := hC.ch hc (by simp; omega) (by simp; omega); have hD := hD.ch hc (by simp; omega) (by simp; omega); have hB := bel_ch hB hc (by simp; omega); have hss := Nat.le_trans hss hc.size; clear hc
  go_wp2_with fail
  refine (gs_Same ga ba gb bb m n _ _ w8 hA hC).mono ?_; rintro e w9 ⟨rfl, hb⟩
  rw [decide_eq_false (set_ne hi)]
  have hA := hA.below hb; have hC := hC.below hb; have hD := hD.below hb; have hB := bel_trans hB hb; have hss := Nat.le_trans hss hb.size; clear hb
  go_wp2_with fail
  refine (gs_Put_yes gb bb m n _ r k _ xS w9 hC hrm hkn rfl).mono ?_; rintro e w10 ⟨rfl, hC, hc⟩
  have hA := hA.ch hc (by simp; omega) (by simp; omega); have hD := hD.ch hc (by simp; omega) (by simp; omega); have hB := bel_ch hB hc (by simp; omega); have hss := Nat.le_trans hss hc.size; clear hc
  go_wp2_with fail
  refine (gs_Same gb bb ga ba m n _ _ w10 hC hA).mono ?_; rintro e w11 ⟨rfl, hb⟩
  rw [decide_eq_true rfl]
  have hA := hA.below hb; have hC := hC.below hb; have hD := hD.below hb; have hB := bel_trans hB hb; have hss := Nat.le_trans hss hb.size; clear hb
  go_wp2_with fail
  refine (gs_Turned ga ba m n _ w11 hA).mono ?_; rintro e w12 ⟨gta, bta, rfl, _, _, hTA, hb⟩
  have hA := hA.below hb; have hC := hC.below hb; have hD := hD.below hb; have hB := bel_trans hB hb; have hss := Nat.le_trans hss hb.size; clear hb
  go_wp2_with fail
  refine (gs_Turned gb bb m n _ w12 hC).mono ?_; rintro e w13 ⟨gtb, btb, rfl, _, _, hTB, hb⟩
  have hTA := hTA.below hb
  have hA := hA.below hb; have hC := hC.below hb; have hD := hD.below hb; have hB := bel_trans hB hb; have hss := Nat.le_trans hss hb.size; clear hb
  go_wp2_with fail
  refine (gs_Same gta bta gtb btb n m _ _ w13 hTA hTB).mono ?_; rintro e w14 ⟨rfl, hb⟩
  rw [decide_eq_true rfl]
  have hA := hA.below hb; have hC := hC.below hb; have hD := hD.below hb; have hB := bel_trans hB hb; have hss := Nat.le_trans hss hb.size; clear hb
  clear hTA hTB
  go_wp2_with fail
  refine (gs_Turned gc bc n m _ w14 hD).mono ?_; rintro e w15 ⟨gtc, btc, rfl, _, _, hTC, hb⟩
  have hA := hA.below hb; have hC := hC.below hb; have hD := hD.below hb; have hB := bel_trans hB hb; have hss := Nat.le_trans hss hb.size; clear hb
  go_wp2_with fail
  refine (gs_Rows gtc btc m n _ w15 hTC).mono ?_; rintro e w16 ⟨rfl, rfl⟩
  go_wp2_with fail
  refine (gs_Put_yes ga ba m n _ r k _ ByteArray.empty w15 hA hrm hkn rfl).mono ?_; rintro e w17 ⟨rfl, hA, hc⟩
  have hC := hC.ch hc (by simp; omega) (by simp; omega); have hB := bel_ch hB hc (by simp; omega); clear hc
  go_wp2_with fail
  refine (gs_Same ga ba gb bb m n _ _ w17 hA hC).mono ?_; rintro e w18 ⟨rfl, hb⟩
  rw [decide_eq_false (set_back hi)]
  have hB := bel_trans hB hb
  go_wp2
  go_ret
  exact ⟨rfl, hB⟩
end Go.Proofs.Ytkjhodaglanpmaa
