/- The law MemoryHoles. -/
import Derived.Test.YtpajbpgpbfmebaaMemMoves
import Derived.Deep.OwnRows
namespace Go.Proofs.Ytpajbpgpbfmebaa
open Go.RowKit
set_option linter.unusedVariables false
set_option linter.unusedSimpArgs false
attribute [local go_sem] World.cell?_alloc_lt

def onesL (i k : Nat) : List Int := List.replicate i 1 ++ List.replicate (k - i) 0
theorem onesL_len (i k : Nat) (h : i ≤ k) : (onesL i k).length = k := by unfold onesL; simp; omega
theorem onesL_set (i k : Nat) (h : i < k) : (onesL i k).set i 1 = onesL (i + 1) k := by
  unfold onesL
  rw [List.set_append_right _ _ (by simp), List.length_replicate, Nat.sub_self, show k - i = (k - (i + 1)) + 1 by omega, List.replicate_succ, List.set_cons_zero, List.replicate_succ', List.append_assoc]
  rfl
theorem idx_b0 (b len i : Nat) (hi : i < len) (w : World) : (Instr.indexAt 23 (.slice (some ⟨b, 0, none⟩) len len) (.int .i64 (i : Int))).run Try.prog w = .ok (.pointer (some ⟨b, i, none⟩)) w := by
  simp [go_sem, hi]
theorem InB.blk {w : World} {q : Nat} {us : List Int} {n : Nat} (hl : us.length = n) (h : Blk w q 5 (us.map (Value.int .u8))) : InB w (some ⟨q, 0, none⟩) n us :=
  ⟨hl, fun _ => ⟨q, 0, rfl, h.lt, fun j u hj => by rw [Nat.zero_add]; exact h.at_ (by rw [List.getElem?_map, hj]; rfl)⟩⟩
theorem wpList_make_bytes (w : World) {ops : Array Oper} {rest : List Oper} {o : Oper} {a : Act} {Q : Exit → Act → World → Prop}
    (hg : o.guard = none) (l c : Operand) (hop : o.op = Op.makeSlice 23 l c) (kl kc : IntKind) (L C : Int) (n : Nat) (hl : a.eval l = .int kl L) (hc : a.eval c = .int kc C) (hL : L = n) (hC : C = n) (hn : n ≤ 140737488355328)
    (hK : ∀ w', Blk w' w.heap.size 5 ((List.replicate n (0 : Int)).map (Value.int .u8)) → w.grownBy w' none → wpList Try.prog ops Q rest (a.put o.dst (.slice (some ⟨w.heap.size, 0, none⟩) n n)) w') :
    wpList Try.prog ops Q (o :: rest) a w := by
  obtain ⟨i0, hi, hz0, hz1, hz2⟩ := info_parts info_u8
  refine wpList_make_full w hg l c 23 hop w.heap.size 5 i0 (.int .u8 0) 1 Try.underlying23 hi hz0 hz1 kl kc L C n hl hc hL hC (by rw [hz2]; omega) (by unfold maxLen; omega) (Nat.le_refl _) ?_
  intro w' h1 h2
  have hd := Blk.of_own_wide h1
  rw [Nat.mul_one, made_one (.int .u8 0) rfl n] at hd
  exact hK w' (by rw [List.map_replicate]; exact hd) h2
def hitB (a h : Nat) : Nat → Bool
  | 0 => false
  | i + 1 => hitB a h i || decide ((a + i) / 64 = h)
theorem hitB_true (a h : Nat) : ∀ k, hitB a h k = true → ∃ x, a ≤ x ∧ x < a + k ∧ x / 64 = h := by
  intro k
  induction k with
  | zero => intro e; cases e
  | succ k ih =>
    intro e
    rw [hitB, Bool.or_eq_true] at e
    rcases e with e | e
    · obtain ⟨x, h1, h2, h3⟩ := ih e; exact ⟨x, h1, by omega, h3⟩
    · exact ⟨a + k, by omega, by omega, of_decide_eq_true e⟩
theorem hitB_false (a h : Nat) : ∀ k, hitB a h k = false → ∀ x, a ≤ x → x < a + k → x / 64 ≠ h := by
  intro k
  induction k with
  | zero => intro e x h1 h2; omega
  | succ k ih =>
    intro e x h1 h2
    rw [hitB, Bool.or_eq_false_iff] at e
    by_cases hx : x = a + k
    · subst hx; exact of_decide_eq_false e.2
    · exact ih e.1 x h1 (by omega)
/-- Pages and frames of the law. -/
structure HoInv (h p : Int) (mt mf : List (Int × Int)) : Prop where
  t : ∀ q : Int, mget mt q = if 0 ≤ q ∧ q < p ∧ q ≠ h then some q else none
  f : ∀ q : Int, mget mf q = if 0 ≤ q ∧ q < p ∧ q ≠ h then some q else none
theorem ho_step (h p : Int) (m : List (Int × Int)) (hp : 0 ≤ p) (hh : p ≠ h) (H : ∀ q : Int, mget m q = if 0 ≤ q ∧ q < p ∧ q ≠ h then some q else none) : ∀ q : Int, mget (mput m p p) q = if 0 ≤ q ∧ q < p + 1 ∧ q ≠ h then some q else none := by
  intro q
  rw [mget_put, H]
  by_cases e : p = q
  · subst e; rw [if_pos rfl, if_pos (by omega)]
  · rw [if_neg e]
    by_cases c : 0 ≤ q ∧ q < p ∧ q ≠ h
    · rw [if_pos c, if_pos (by omega)]
    · rw [if_neg c, if_neg (by omega)]
theorem HoInv.skip {h : Int} {mt mf : List (Int × Int)} (H : HoInv h h mt mf) : HoInv h (h + 1) mt mf := by
  refine ⟨fun q => ?_, fun q => ?_⟩
  · rw [H.t]
    by_cases c : 0 ≤ q ∧ q < h ∧ q ≠ h
    · rw [if_pos c, if_pos (by omega)]
    · rw [if_neg c, if_neg (by omega)]
  · rw [H.f]
    by_cases c : 0 ≤ q ∧ q < h ∧ q ≠ h
    · rw [if_pos c, if_pos (by omega)]
    · rw [if_neg c, if_neg (by omega)]
def zero64 : List Int := List.replicate 64 0
set_option maxRecDepth 100000 in
set_option maxHeartbeats 4000000 in
theorem memoryHoles_walk (hole : Int) (_h1 : (Lit.int .i64 hole).wf = true) (at_ : Int) (_h2 : (Lit.int .i64 at_).wf = true) (n : Int) (_h3 : (Lit.int .i64 n).wf = true) (w0 : World) : Calls Try.prog 4 #[.int .i64 hole, .int .i64 at_, .int .i64 n] w0 fun e w' => e = .returned (.bool true) ∧ Below w0.heap.size w0 w' := by
  have hhb := umod_bd hole 6 (by omega) (by omega)
  generalize hh : wrap64 ((IntKind.u64.wrap hole).tmod 6) = h at hhb
  obtain ⟨h, rfl⟩ := Int.eq_ofNat_of_zero_le hhb.1
  have hkb := umod_bd n 200 (by omega) (by omega)
  generalize hk : wrap64 ((IntKind.u64.wrap n).tmod 200) = k at hkb
  obtain ⟨k, rfl⟩ := Int.eq_ofNat_of_zero_le hkb.1
  have hab := umod_bd at_ (384 - (k : Int)) (by omega) (by omega)
  generalize ha : wrap64 ((IntKind.u64.wrap at_).tmod (384 - (k : Int))) = ad at hab
  obtain ⟨ad, rfl⟩ := Int.eq_ofNat_of_zero_le hab.1
  have HH := Lib.hid hh; have HK := Lib.hid hk; have HA := Lib.hid ha
  have hh6 : h < 6 := by omega
  have hk2 : k < 200 := by omega
  have hak : ad + k < 384 := by omega
  clear hh hk ha hhb hkb hab
  go_enter Try.func4, Try.ntmps4
  go_wp2_with fail
  refine (fr_new 1 8 w0 (by omega) (by omega) (by omega) (by omega)).mono ?_; rintro e w1 ⟨g, b, rfl, hg, hb, hG, hB⟩
  go_wp2_with fail
  refine (me_new g w1).mono ?_; rintro e w2 ⟨mb, tg, bt, bf, rfl, h1, h2, h3, h4, hS, hT, hB2⟩
  have hM : MemAt w2 mb g b 8 8 tg bt bf (List.replicate 512 0) [] [] := ⟨hS, hG.below hB2, hT, mem_fair0 8⟩
  have hs1 := hB.size
  have hB3 := bel_trans hB hB2
  clear hS hG hT hB hB2
  go_wp2_with fail
  refine (moves_any w2).mono ?_; rintro e w3 ⟨rfl, hB4⟩
  have hM3 := hM.below hB4
  have hB5 := bel_trans hB3 hB4
  clear hM hB3 hB4
  rw [HH.out]
  go_wp2_with fail
  go_loopw [12] (fun v wr => ∃ (p : Nat) (mt mf : List (Int × Int)), p ≤ 6 ∧ v = .int .i64 (p : Int) ∧ MemAt wr mb g b 8 8 tg bt bf (List.replicate 512 0) mt mf ∧ HoInv (h : Int) (p : Int) mt mf ∧ Below w0.heap.size w0 wr) (fun v _ => 6 - (intOf v).toNat)
  case atStart => exact ⟨0, [], [], by omega, rfl, hM3, ⟨fun q => by rw [if_neg (by omega)]; rfl, fun q => by rw [if_neg (by omega)]; rfl⟩, hB5⟩
  case round =>
    clear hM3 hB5
    obtain ⟨p, mt, mf, hp6, rfl, hM, hO, hB⟩ := hrel
    have HO := Lib.hid hO; clear hO
    by_cases hlt : p < 6
    · by_cases hph : p = h
      · subst hph
        have hO2 := HO.out.skip
        have HO2 := Lib.hid hO2
        clear hO2
        go_wp2_with fail
        go_roundw
        case rel => exact ⟨p + 1, mt, mf, by omega, by go_num, hM, by have := HO2.out; exact this, hB⟩
        case measure => simp [intOf]; omega
      · have hne : ((p : Int) != (h : Int)) = true := by rw [bne_iff_ne]; omega
        have hmp := me_map mb g b 8 8 tg bt bf _ mt mf wr hM p p (by omega) (by omega) (by omega) (by omega) (by rw [HO.out.t, if_neg (by omega)]) (by rw [HO.out.f, if_neg (by omega)])
        have hO2 : HoInv (h : Int) ((p : Int) + 1) (mput mt p p) (mput mf p p) := ⟨ho_step h p mt (by omega) (by omega) HO.out.t, ho_step h p mf (by omega) (by omega) HO.out.f⟩
        have HMP := Lib.hid hmp; have HO2 := Lib.hid hO2
        clear hmp hM hO2
        go_wp2_with fail
        refine HMP.out.mono ?_; rintro e w4 ⟨rfl, hM, hc⟩
        have hB6 := bel_ch hB hc (by simp; omega)
        clear hc HMP
        go_wp2_with fail
        go_roundw
        case rel => exact ⟨p + 1, _, _, by omega, by go_num, hM, by have := HO2.out; exact this, hB6⟩
        case measure => simp [intOf]; omega
    · obtain rfl : p = 6 := by omega
      have HM := Lib.hid hM
      clear hM
      go_upto_region 12 with fail
      rw [HK.out]
      go_upto_region 13 with fail
      rw [HA.out]
      go_wp2_with (at_make; refine wpList_make_bytes _ rfl _ _ rfl _ _ _ _ k rfl rfl rfl rfl (by omega) ?_)
      intro w9 hd hgr
      have hb9 : Below wr.heap.size wr w9 := (Below.refl _ _).grown hgr (Nat.le_refl _) (fun k h => by cases h)
      obtain ⟨wA, rfl⟩ : ∃ x, x = wr := ⟨_, rfl⟩
      have hq0 := hB.size
      have hbw := HM.out.fs.dt.lt
      have HB := Lib.hid hB
      clear hgr hB
      generalize hqe : wA.heap.size = q at *
      have HQ := Lib.hid hqe; clear hqe
      go_wp2_with fail
      go_loopw [16] (fun v wx => ∃ i : Nat, i ≤ k ∧ v = .int .i64 (i : Int) ∧ Blk wx q 5 ((onesL i k).map (Value.int .u8)) ∧ Below wA.heap.size wA wx) (fun v _ => k - (intOf v).toNat)
      case atStart => exact ⟨0, by omega, rfl, by unfold onesL; simpa using hd, by have := HQ.out; subst this; exact hb9⟩
      case round =>
        clear hd hb9
        obtain ⟨i, hik, rfl, hd, hb⟩ := hrel
        by_cases hlt : i < k
        · have hl := onesL_len i k hik
          have hia := fun w => idx_b0 q k i hlt w
          have kf := hd.frozen i
          have kc := hd.at_ (i := i) (v := .int .u8 ((onesL i k).getD i 0)) (map_at (by omega) 0)
          have hd2 := hd.set_ i (.int .u8 1)
          rw [← List.map_set, onesL_set i k hlt] at hd2
          have hb2 : Below wA.heap.size wA (wr.setCell ⟨q, i, none⟩ (.int .u8 1)) := bel_set hb (p := ⟨q, i, none⟩) (by have := HQ.out; simp; omega) _
          have HD := Lib.hid hd2
          clear hd hd2 hl
          go_wp2_with fail
          go_roundw
          case rel => exact ⟨i + 1, by omega, by go_num, HD.out, hb2⟩
          case measure => simp [intOf]; omega
        · obtain rfl : i = k := by omega
          have HD := Lib.hid hd
          clear hd
          obtain ⟨wB, rfl⟩ : ∃ x, x = wr := ⟨_, rfl⟩
          go_wp2_with fail
          go_loopw [17, 18] (fun v1 v2 wy => ∃ j : Nat, j ≤ i ∧ v1 = .bool (hitB ad h j) ∧ v2 = .int .i64 (j : Int) ∧ wy = wB) (fun _ v _ => i - (intOf v).toNat)
          case atStart => exact ⟨0, by omega, rfl, rfl, rfl⟩
          case round =>
            obtain ⟨j, hji, rfl, rfl, rfl⟩ := hrel
            by_cases hjl : j < i
            · have hs : hitB ad h (j + 1) = (hitB ad h j || decide ((ad + j) / 64 = h)) := rfl
              cases hv : hitB ad h j with
              | true =>
                rw [hv, Bool.true_or] at hs
                have HS := Lib.hid hs; clear hs hv
                go_wp2_with fail
                go_roundw
                case rel => exact ⟨j + 1, by omega, by rw [HS.out], by go_num, by first | rfl | trivial⟩
                case measure => simp [intOf]; omega
              | false =>
                rw [hv, Bool.false_or] at hs
                have heq : (((ad : Int) + (j : Int)) / 64 == (h : Int)) = decide ((ad + j) / 64 = h) := by
                  by_cases e : (ad + j) / 64 = h
                  · rw [decide_eq_true e, beq_iff_eq]; omega
                  · rw [decide_eq_false e, beq_eq_false_iff_ne]; omega
                rw [← hs] at heq
                have HS := Lib.hid heq; clear hs hv heq
                go_wp2_with fail
                go_roundw
                case rel => exact ⟨j + 1, by omega, by rw [← HS.out], by go_num, by first | rfl | trivial⟩
                case measure => simp [intOf]; omega
            · obtain rfl : j = i := by omega
              have hMB := HM.out.below hb
              have hBB := bel_trans HB.out hb
              have hones : onesL j j = List.replicate j 1 := by unfold onesL; simp
              have hI := InB.blk (onesL_len j j hik) HD.out
              rw [hones] at hI
              cases hv : hitB ad h j with
              | false =>
                have hmp : ∀ x, ad ≤ x → x < ad + j → mapped mt (x / 64) := by
                  intro x h1 h2
                  have h3 := hitB_false ad h j hv x h1 h2
                  unfold mapped
                  rw [HO.out.t, if_pos ⟨by omega, by omega, by omega⟩]
                  rfl
                have hOff : Off (some ⟨q, 0, none⟩) b := by
                  intro x e
                  injection e with e
                  subst e
                  have := HQ.out
                  show q ≠ b
                  omega
                have hwr := me_write mb g b 8 8 tg bt bf _ mt mf wr hMB ad j (some ⟨q, 0, none⟩) j (List.replicate j 1) hI (fun _ => hOff) (by omega) (by omega) (by omega) hmp
                have hrw := rd_wr hMB.ok (List.replicate 512 0) (List.replicate j 1) ad (by rw [List.length_replicate]) (fun i hi => hmp _ (by omega) (by rw [List.length_replicate] at hi; omega)) 0 j (by rw [List.length_replicate]; omega)
                rw [List.drop_zero, List.take_of_length_le (by rw [List.length_replicate]; omega), Nat.add_zero] at hrw
                have HWR := Lib.hid hwr; have HMP := Lib.hid hmp; have HI := Lib.hid hI
                clear hwr hmp hMB hI hones
                generalize wrB mt (List.replicate 512 0) ad (List.replicate j 1) = bs1 at *
                go_wp2_with fail
                refine HWR.out.mono ?_; rintro e w5 ⟨rfl, hM5, hc⟩
                have hI5 := HI.out.ch1 (b := b) hOff hc
                have hB6 := bel_ch hBB hc (by simp; omega)
                have hrd := me_read mb g b 8 8 tg bt bf _ mt mf w5 hM5 ad j (by omega) (by omega) HMP.out
                rw [hrw] at hrd
                have HRD := Lib.hid hrd; have HI5 := Lib.hid hI5
                clear hrd hc hM5 hBB HWR HI hI5
                go_wp2_with fail
                refine HRD.out.mono ?_; rintro e w6 ⟨A, c, rfl, hown, hB8⟩
                have htx := text_in (c := c) (InB.own hown)
                have hB9 := bel_trans hB6 hB8
                have htb := text_in (c := j) (HI5.out.below hB8)
                have hsn : ∀ s : ByteArray, (s.toList == s.toList) = true := fun s => by simp
                clear hown hB8 hB6
                go_wp2_with fail
                go_ret
                exact ⟨rfl, hB9⟩
              | true =>
                obtain ⟨x, hx1, hx2, hx3⟩ := hitB_true ad h j hv
                have hno : ∃ x, ad ≤ x ∧ x < ad + j ∧ ¬ mapped mt (x / 64) := by
                  refine ⟨x, hx1, hx2, ?_⟩
                  unfold mapped
                  rw [HO.out.t, if_neg (by omega)]
                  simp
                have hwr := me_write_no mb g b 8 8 tg bt bf _ mt mf wr hMB ad j (some ⟨q, 0, none⟩) j (by omega) (by omega) hno
                have HWR := Lib.hid hwr; have HNO := Lib.hid hno; have HM := Lib.hid hMB
                clear hwr hno hMB hI hones hx1 hx2 hx3
                go_wp2_with fail
                refine HWR.out.mono ?_; rintro e w5 ⟨rfl, hc⟩
                have hM5 := HM.out.below hc
                have hB6 := bel_trans hBB hc
                have hrd := me_read_no mb g b 8 8 tg bt bf _ mt mf w5 hM5 ad j (by omega) (by omega) HNO.out
                have HRD := Lib.hid hrd
                have HM5 := Lib.hid hM5.fs
                clear hrd hc hM5 hBB HWR HM
                go_wp2_with fail
                refine HRD.out.mono ?_; rintro e w6 ⟨rfl, hB8⟩
                have hG := HM5.out.below hB8
                have hB9 := bel_trans hB6 hB8
                clear hB8 hB6 HM5 HRD
                go_wp2_with fail
                go_loopw [22] (fun v wx => ∃ i : Nat, i ≤ 6 ∧ v = .int .i64 (i : Int) ∧ StoreAt wx g b 8 8 (List.replicate 512 0) ∧ Below w0.heap.size w0 wx) (fun v _ => 6 - (intOf v).toNat)
                case atStart => exact ⟨0, by omega, rfl, hG, hB9⟩
                case round =>
                  clear hG hB9
                  obtain ⟨i, hi6, rfl, hG, hB⟩ := hrel
                  by_cases hlt : i < 6
                  · have hld := fr_load g b 8 8 _ i 0 64 wr hG (by omega) (by omega)
                    have hz : ((List.replicate 512 (0 : Int)).drop (i * 64 + 0)).take 64 = zero64 := by
                      unfold zero64
                      rw [List.drop_replicate, List.take_replicate]
                      congr 1
                      omega
                    rw [hz] at hld
                    have HLD := Lib.hid hld; have HG := Lib.hid hG
                    clear hld hG hz
                    go_wp2_with fail
                    refine HLD.out.mono ?_; rintro e w7 ⟨hh, c, rfl, hown, hB8⟩
                    have hG7 := HG.out.below hB8
                    have hB9 := bel_trans hB hB8
                    have hI7 := InB.own hown
                    have hal : Below w7.heap.size w7 (w7.alloc (.cells (zero64.map (Value.int .u8)).toArray 5)).drew := bel_drew (bel_alloc (Below.refl _ _) _)
                    have htx := text_in (c := c) (hI7.below (bel_drew (Below.refl _ _)))
                    have htx2 := text_in (c := c) (hI7.below hal)
                    have hmk0 := fun w : World => run_make_row' (P := Try.prog) 23 5 (.int .u8 0) 1 Try.underlying23 info_u8 rfl .i64 .i64 64 (by omega) (by omega) w
                    have hmk : ∀ w : World, (Instr.makeSlice 23 (.int .i64 64) (.int .i64 64)).run Try.prog w = .ok (.slice (some ⟨w.heap.size, 0, none⟩) 64 64) (w.alloc (.cells (zero64.map (Value.int .u8)).toArray 5)) := fun w => (hmk0 w).trans (by rw [show madeCells #[Value.int .u8 0] 64 = (zero64.map (Value.int .u8)).toArray from Array.ext' (by have := made_one (.int .u8 0) rfl 64; unfold zero64; rw [List.map_replicate]; exact this)])
                    clear hmk0
                    have hsn : ∀ s : ByteArray, (!(s.toList == s.toList)) = false := fun s => by simp
                    have htz := text_in (c := 64) ((InB.blk (q := w7.heap.size) (n := 64) (us := zero64) rfl (Blk.new w7 5 (zero64.map (Value.int .u8)))).below (bel_drew (Below.refl _ _)))
                    have hsn := hsn (strOfNums zero64)
                    have HAL := Lib.hid hal
                    have HG7 := Lib.hid hG7; have HB9 := Lib.hid hB9
                    clear hown hG7 hB9 hB8 HG HLD hB hal hI7
                    generalize strOfNums zero64 = z64 at *
                    go_upto_region 31 with fail
                    go_region_with (fail)
                    all_goals
                      have hG9 := HG7.out.below HAL.out
                      have hB9 := bel_trans HB9.out HAL.out
                      clear htx htx2 htz hmk
                      generalize (w7.alloc (.cells (zero64.map (Value.int .u8)).toArray 5)).drew = w8 at *
                      go_wp2_with fail
                      go_roundw
                      case rel => exact ⟨i + 1, by omega, by go_num, hG9, hB9⟩
                      case measure => simp [intOf]; omega
                  · go_wp2_with fail
                    go_ret
                    exact ⟨rfl, hB⟩
end Go.Proofs.Ytpajbpgpbfmebaa
