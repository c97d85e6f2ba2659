/- The law SpanActs. -/
import Derived.Test.YtinijpjbbbbhjaaDoorSpanRef
import Derived.Test.YtinijpjbbbbhjaaDoorInRecs
import Derived.Test.YtinijpjbbbbhjaaDoorAfter
namespace Go.Proofs.YtinijpjbbbbhjaaDoor
open Go.RowKit
set_option linter.unusedVariables false
set_option linter.unusedSimpArgs false
attribute [local go_sem] World.cell?_alloc_lt

/-- Acts that came in: a yes or no, a number. -/
structure InActs (w : World) (a : Option Addr) (len : Nat) (G : Nat → Bool) (I : Nat → Int) : Prop where
  mx : len ≤ 9223372036854775807
  at_ : 0 < len → ∃ b off, a = some ⟨b, off, none⟩ ∧ b < w.heap.size ∧ ∀ i, i < len → w.cell? ⟨b, off + i * 2, none⟩ = some (.bool (G i)) ∧ w.cell? ⟨b, off + i * 2 + 1, none⟩ = some (.int .i64 (I i))
theorem open_acts {H : Type} {enc : TypeId × Value → H} {W : World} {base : Nat} {held : Bool} {r : Reach} {b0 : Nat} {v : Value} {d : DataW H} {p : List MemPlace} (hv : Value.okWide Tryd.prog W r b0 39 v) (h : DataW.Trod enc Tryd.prog W base (fun _ => true) held 39 v d p) :
    ∃ a len cap G I, v = .slice a len cap ∧ InActs W a len G I := by
  obtain ⟨a, len, cap, rfl⟩ := WideShapes.okWide_slice Tryd.underlying39 hv
  obtain ⟨V, hm, _, hc⟩ := open_recs Tryd.underlying39 Tryd.underlying44 (by kernel_rfl) (by kernel_rfl) (by decide) h
  refine ⟨a, len, cap, fun i => match V i 0 with | .bool x => x | _ => false, fun i => match V i 1 with | .int _ x => x | _ => 0, rfl, hm, fun hp => ?_⟩
  obtain ⟨b, off, ha, hb, hcell⟩ := hc hp
  refine ⟨b, off, ha, hb, fun i hi => ?_⟩
  obtain ⟨h0, n0, y0, t0⟩ := hcell i hi 0 _ rfl
  obtain ⟨h1, n1, y1, t1⟩ := hcell i hi 1 _ rfl
  obtain ⟨x0, e0, _⟩ := DataW.trod_bool Tryd.underlying4 t0
  obtain ⟨x1, e1, _⟩ := DataW.trod_int Tryd.underlying3 t1
  simp only [List.cons.injEq, and_true] at e0 e1
  rw [e0] at h0
  rw [e1] at h1
  refine ⟨?_, ?_⟩
  · rw [e0]; exact h0
  · rw [e1]; exact h1
theorem idx_act {A : Option Addr} {b off len cap i : Nat} (ha : A = some ⟨b, off, none⟩) (hi : i < len) (w : World) : (Instr.indexAt 39 (.slice A len cap) (.int .i64 (i : Int))).run Tryd.prog w = .ok (.pointer (some ⟨b, off + i * 2, none⟩)) w := by
  subst ha
  simp [go_sem, hi]
theorem SpanAt.chg {w w' : World} {S : List Nat} {g : Nat} {c : Int} {t : Nat} (h : SpanAt w g c t) (k : Ch S w w') (hg : g ∉ S) : SpanAt w' g c t := ⟨(k.block g h.lt hg).trans h.blk, h.c0, h.c3, h.ht⟩
theorem SpanAt.dr {w : World} {g : Nat} {c : Int} {t : Nat} (h : SpanAt w g c t) : SpanAt w.drew g c t := ⟨h.blk, h.c0, h.c3, h.ht⟩
theorem RefAt.dr {w : World} {r tb : Nat} {c : Int} {n t : Nat} (h : RefAt w r tb c n t) : RefAt w.drew r tb c n t := ⟨h.st, h.tk⟩
theorem Ch.keep {w w' : World} {S : List Nat} {b o : Nat} {v : Value} (k : Ch S w w') (hn : b ∉ S) (h : w.cell? ⟨b, o, none⟩ = some v) : w'.cell? ⟨b, o, none⟩ = some v := by
  have hb := World.block_lt_of_cell? w _ h
  rw [← h]
  exact World.cell?_of_block (k.block b hb hn)
theorem after_call2 {P : Program} {f : FuncId} {args : Array Value} {w : World} {v : Value} (h : ∀ w', Below w.heap.size w w' → Calls P f args w' fun e w'' => e = .returned v ∧ Below w'.heap.size w' w'') (x : After w) :
    Calls P f args x.1 fun e w'' => e = .returned v ∧ ∃ y : After w, w'' = y.1 :=
  (h x.1 x.2).mono fun _ w'' ⟨he, hb⟩ => ⟨he, ⟨w'', bel_trans x.2 hb⟩, rfl⟩
theorem used_b (g : Nat) (c : Int) (t : Nat) (w : World) (hS : SpanAt w g c t) : ∀ w', Below w.heap.size w w' → Calls Tryd.prog 24 #[.pointer (some ⟨g, 0, none⟩)] w' fun e w'' => e = .returned (.int .i64 (ocN t)) ∧ Below w'.heap.size w' w'' :=
  fun w' hb => (used_at g c t w' (hS.below hb)).mono fun _ _ h => ⟨h.1, h.2 ▸ Below.refl _ _⟩
theorem empty_b (g : Nat) (c : Int) (t : Nat) (w : World) (hS : SpanAt w g c t) : ∀ w', Below w.heap.size w w' → Calls Tryd.prog 23 #[.pointer (some ⟨g, 0, none⟩)] w' fun e w'' => e = .returned (.bool ((ocN t : Int) == 0)) ∧ Below w'.heap.size w' w'' :=
  fun w' hb => (empty_at g c t w' (hS.below hb)).mono fun _ _ h => ⟨h.1, h.2 ▸ Below.refl _ _⟩
theorem full_b (g : Nat) (c : Int) (t n : Nat) (w : World) (hS : SpanAt w g c t) (hn : cntOf c = (n : Int)) : ∀ w', Below w.heap.size w w' → Calls Tryd.prog 21 #[.pointer (some ⟨g, 0, none⟩)] w' fun e w'' => e = .returned (.bool ((ocN t : Int) == (n : Int))) ∧ Below w'.heap.size w' w'' :=
  fun w' hb => (full_at g c t w' (hS.below hb)).mono fun _ _ h => ⟨by rw [← hn]; exact h.1, h.2⟩
theorem none_any (w : World) : Calls Tryd.prog 25 #[] w fun e w' => e = .returned (.pointer none) ∧ w = w' := by
  go_enter Tryd.func25, Tryd.ntmps25
  go_wp2
  go_ret
  exact ⟨rfl, rfl⟩
set_option maxRecDepth 100000 in
set_option maxHeartbeats 3000000 in
theorem spanActs_walk (w0 : World) (c : Int) (_h1 : (Lit.int .i64 c).wf = true) (a : Option Addr) (len cap : Nat) (G : Nat → Bool) (I : Nat → Int) (hs : InActs w0 a len G I) (off : Int) (_h2 : (Lit.int .i64 off).wf = true) (hT : Tab w0) :
    Calls Tryd.prog 8 #[.int .i64 c, .slice a len cap, .int .i64 off] w0 fun e w' => e = .returned (.bool true) ∧ Below w0.heap.size w0 w' := by
  go_enter Tryd.func8, Tryd.ntmps8
  go_wp2_with fail
  refine (none_any w0).mono ?_; rintro e w1 ⟨rfl, rfl⟩
  go_wp2_with fail
  refine (take_nil w0).mono ?_; rintro e w1 ⟨rfl, rfl⟩
  go_wp2_with fail
  refine (none_any w0).mono ?_; rintro e w1 ⟨rfl, rfl⟩
  go_wp2_with fail
  refine (index_nil 0 w0).mono ?_; rintro e w1 ⟨rfl, rfl⟩
  go_wp2_with fail
  refine (spans_any w0 hT).mono ?_; rintro e w1 ⟨rfl, hB⟩
  have hT := hT.below hB
  go_wp2_with fail
  refine (none_any w1).mono ?_; rintro e w2 ⟨rfl, rfl⟩
  go_wp2_with fail
  refine (give_nil 0 w1).mono ?_; rintro e w2 ⟨rfl, rfl⟩
  go_wp2_with fail
  refine (none_any w1).mono ?_; rintro e w2 ⟨rfl, rfl⟩
  go_wp2_with fail
  refine (has_nil 0 w1).mono ?_; rintro e w2 ⟨rfl, rfl⟩
  go_wp2_with fail
  refine (none_any w1).mono ?_; rintro e w2 ⟨rfl, rfl⟩
  go_wp2_with fail
  refine (used_nil w1).mono ?_; rintro e w2 ⟨rfl, rfl⟩
  go_wp2_with fail
  refine (none_any w1).mono ?_; rintro e w2 ⟨rfl, rfl⟩
  go_wp2_with fail
  refine (class_nil w1).mono ?_; rintro e w2 ⟨rfl, rfl⟩
  go_wp2_with fail
  refine (none_any w1).mono ?_; rintro e w2 ⟨rfl, rfl⟩
  go_wp2_with fail
  refine (full_nil w1).mono ?_; rintro e w2 ⟨rfl, hc⟩
  have hT := hT.below hc
  have hB := bel_trans hB hc
  clear hc
  go_wp2_with fail
  refine (none_any w2).mono ?_; rintro e w3 ⟨rfl, rfl⟩
  go_wp2_with fail
  refine (empty_nil w2).mono ?_; rintro e w3 ⟨rfl, rfl⟩
  go_wp2_with fail
  by_cases hcr : 0 ≤ c ∧ c ≤ 3
  · obtain ⟨hc0, hc3⟩ := hcr
    obtain ⟨n, hn⟩ := Int.eq_ofNat_of_zero_le (show 0 ≤ cntOf c by have := cnt_pos c; omega)
    have hf0 : Fit 0 n := by
      unfold Fit
      unfold cntOf at hn
      split at hn <;> omega
    have HN := Lib.hid hn; clear hn
    refine (new_yes c w2 hT hc0 hc3).mono ?_; rintro e w3 ⟨g, rfl, hg, hS, hc⟩
    have hgB : w0.heap.size ≤ g := Nat.le_trans hB.size hg
    have hB := bel_trans hB hc
    clear hc
    go_wp2_with fail
    refine (refNew c n w3 hc0 hc3 HN.out).mono ?_; rintro e w4 ⟨r, tb, rfl, hr, htb, hR, hc⟩
    have hgr : g ≠ r := by have := hS.lt; omega
    have hgt : g ≠ tb := by have := hS.lt; omega
    have hrB : w0.heap.size ≤ r := Nat.le_trans hB.size hr
    have htB : w0.heap.size ≤ tb := Nat.le_trans hB.size htb
    have hS := hS.below hc
    have hB := bel_trans hB hc
    clear hc
    have hsm := hs.mx
    go_wp2_with fail
    go_loopw [14] (fun vi wx => ∃ i t : Nat, i ≤ len ∧ i ≤ 40 ∧ vi = .int .i64 i ∧ Fit t n ∧ SpanAt wx g c t ∧ RefAt wx r tb c n t ∧ Below w0.heap.size w0 wx) (fun vi _ => 40 - (intOf vi).toNat)
    case atStart => exact ⟨0, 0, by omega, by omega, rfl, hf0, hS, hR, hB⟩
    case round =>
      clear hS hR hB hT
      obtain ⟨i, t, hi, hi40, rfl, hf, hS, hR, hB⟩ := hrel
      have hf8 := hf.lt
      rcases (by omega : (i < len ∧ i < 40) ∨ (i < len ∧ 40 ≤ i) ∨ len ≤ i) with ⟨hil, hi4⟩ | ⟨hil, hi4⟩ | hil
      · obtain ⟨bx, ox, rfl, hbx, hcell⟩ := hs.at_ (by omega)
        obtain ⟨kg, ki⟩ := hcell i hil
        replace kg := (hB.cell (p := ⟨bx, ox + i * 2, none⟩) hbx).trans kg
        replace ki := (hB.cell (p := ⟨bx, ox + i * 2 + 1, none⟩) hbx).trans ki
        have hia := fun w => idx_act (b := bx) (off := ox) (cap := cap) rfl hil w
        have hi0 : (0 : Int) ≤ (i : Int) := Int.natCast_nonneg _
        have hi1 : (i : Int) < (len : Int) := by omega
        clear hcell
        generalize G i = gi at kg
        generalize I i = x at ki
        cases gi with
        | true =>
          have hf2 := hf.give x
          go_wp2_with fail
          go_region_held3 (fun w' => w'.cell? ⟨bx, ox + i * 2 + 1, none⟩ = some (.int .i64 x))
            (first | go_keep | exact Ch.keep hcS (by simp; omega) (by assumption) | exact Ch.keep hcR (by simp; omega) (by assumption))
            (first
              | (go_at_call 22; refine (give_any g c t n x _ (by first | exact hS.chg hcR (by simp; omega) | exact hS.dr.chg hcR (by simp; omega)) HN.out hf).mono ?_; rintro e wS ⟨rfl, hS2, hcS⟩; have hR2 := hR1.ch hcS (by simp; omega) (by simp; omega); have hB2 := bel_ch (bel_ch (bel_drew hB) hcR (by simp; omega)) hcS (by simp; omega))
              | (go_at_call 29; refine (refGive_any r tb c n t x _ (by first | exact hR.ch hcS (by simp; omega) (by simp; omega) | exact hR.dr.ch hcS (by simp; omega) (by simp; omega)) hf).mono ?_; rintro e wR ⟨rfl, hR2, hcR⟩; have hS2 := hS1.chg hcR (by simp; omega); have hB2 := bel_ch (bel_ch (bel_drew hB) hcS (by simp; omega)) hcR (by simp; omega))
              | (go_at_call 22; refine (give_any g c t n x _ (by first | exact hS | exact hS.dr) HN.out hf).mono ?_; rintro e wS ⟨rfl, hS1, hcS⟩)
              | (go_at_call 29; refine (refGive_any r tb c n t x _ (by first | exact hR | exact hR.dr) hf).mono ?_; rintro e wR ⟨rfl, hR1, hcR⟩))
          all_goals
            generalize giveT t n x = t2 at *
            generalize giveE t n x = ge at *
            clear hS hR hB hcS hcR
            go_wp2_with fail
            refine (refUsed r tb c n t2 _ hR2 hf2).mono ?_; rintro e w5 ⟨rfl, rfl⟩
            have q1 := after_cell (hR2.st.at_ (i := 1) rfl)
            have HU := Lib.hid (used_b g c t2 _ hS2); have HF := Lib.hid (full_b g c t2 n _ hS2 HN.out); have HE := Lib.hid (empty_b g c t2 _ hS2)
            generalize ocN t2 = oc at *
            go_wp2_with fail
            refine wp_region_after (by kernel_rfl) (by kernel_rfl) ?_
            repeat (first | go_big_quiet_step (first | (go_at_call 24; exact after_call2 HU.out _) | (go_at_call 21; exact after_call2 HF.out _) | (go_at_call 23; exact after_call2 HE.out _)) | quiet_step (first | (go_at_call 24; exact after_call2 HU.out _) | (go_at_call 21; exact after_call2 HF.out _) | (go_at_call 23; exact after_call2 HE.out _)))
            refine wpQuiet_nil ?_; intro _ hw'; obtain ⟨xq, hw''⟩ := hw'; subst hw''
            have hS3 := hS2.below xq.2
            have hR3 := hR2.below xq.2
            have hB3 := bel_after hB2 xq
            clear HU HF HE q1
            go_wp2
            go_roundw
            case rel => exact ⟨i + 1, t2, by omega, by omega, by go_num, hf2, hS3, hR3, hB3⟩
            case measure => simp [intOf]; omega
        | false =>
          have hf2 := hf.take
          go_wp2_with fail
          refine (take_any g c t n _ hS HN.out hf).mono ?_; rintro e wS ⟨rfl, hS1, hcS⟩
          have hR1 := hR.ch hcS (by simp; omega) (by simp; omega)
          have hB1 := bel_ch hB hcS (by simp; omega)
          go_wp2_with fail
          refine (refTake_any r tb c n t _ hR1 hf).mono ?_; rintro e wR ⟨rfl, hR2, hcR⟩
          have hS2 := hS1.chg hcR (by simp; omega)
          have hB2 := bel_ch hB1 hcR (by simp; omega)
          clear hS hR hB hcS hcR hS1 hR1 hB1
          generalize takeT t n = t2 at *
          generalize takeE t n = te at *
          generalize takeI t n = ti at *
          go_wp2_with fail
          refine (refUsed r tb c n t2 _ hR2 hf2).mono ?_; rintro e w5 ⟨rfl, rfl⟩
          have q1 := after_cell (hR2.st.at_ (i := 1) rfl)
          have HU := Lib.hid (used_b g c t2 _ hS2); have HF := Lib.hid (full_b g c t2 n _ hS2 HN.out); have HE := Lib.hid (empty_b g c t2 _ hS2)
          generalize ocN t2 = oc at *
          go_wp2_with fail
          refine wp_region_after (by kernel_rfl) (by kernel_rfl) ?_
          repeat (first | go_big_quiet_step (first | (go_at_call 24; exact after_call2 HU.out _) | (go_at_call 21; exact after_call2 HF.out _) | (go_at_call 23; exact after_call2 HE.out _)) | quiet_step (first | (go_at_call 24; exact after_call2 HU.out _) | (go_at_call 21; exact after_call2 HF.out _) | (go_at_call 23; exact after_call2 HE.out _)))
          refine wpQuiet_nil ?_; intro _ hw'; obtain ⟨xq, hw''⟩ := hw'; subst hw''
          have hS3 := hS2.below xq.2
          have hR3 := hR2.below xq.2
          have hB3 := bel_after hB2 xq
          clear HU HF HE q1
          go_wp2
          go_roundw
          case rel => exact ⟨i + 1, t2, by omega, by omega, by go_num, hf2, hS3, hR3, hB3⟩
          case measure => simp [intOf]; omega
      all_goals
        have hz := sz_pos c
        have q1 := hR.st.at_ (i := 1) rfl
        go_wp2_with fail
        go_loop [20] (fun vj => ∃ j : Int, -1 ≤ j ∧ j ≤ (n : Int) + 1 ∧ vj = .int .i64 j) (fun vj => ((n : Int) + 1 - intOf vj).toNat)
        case atStart => exact ⟨-1, by omega, by omega, rfl⟩
        case round =>
          obtain ⟨j, hj1, hj2, rfl⟩ := hrel
          rcases (by omega : j < 0 ∨ (0 ≤ j ∧ j < (n : Int)) ∨ j = (n : Int) ∨ j = (n : Int) + 1) with hj | ⟨hj, hj3⟩ | hj | hj
          · go_wp2_with fail
            refine (has_no g c t j wr hS (Or.inl hj)).mono ?_; rintro e w5 ⟨rfl, rfl⟩
            go_wp2_with fail
            go_round
            case rel => exact ⟨j + 1, by omega, by omega, rfl⟩
            case measure => simp [intOf]; omega
          · obtain ⟨k, rfl⟩ := Int.eq_ofNat_of_zero_le hj
            have kb := hR.bit (show k < n by omega)
            have hix := fun w => idx_bool tb n k (by omega) w
            have hh := has_at g c t (k : Int) wr hS hj (by rw [HN.out]; exact hj3)
            rw [Int.toNat_natCast] at hh
            have HH := Lib.hid hh; clear hh
            generalize decide (t / 2 ^ k % 2 = 1) = bt at *
            go_wp2_with fail
            refine (HH.out).mono ?_; rintro e w5 ⟨rfl, rfl⟩
            go_wp2_with fail
            go_round
            case rel => exact ⟨(k : Int) + 1, by omega, by omega, rfl⟩
            case measure => simp [intOf]; omega
          · have hj4 : (0 : Int) ≤ j := by omega
            have hj5 : (n : Int) ≤ j := by omega
            have hj6 : j ≤ (n : Int) := by omega
            clear hj
            go_wp2_with fail
            refine (has_no g c t j wr hS (Or.inr (by rw [HN.out]; exact hj5))).mono ?_; rintro e w5 ⟨rfl, rfl⟩
            go_wp2_with fail
            go_round
            case rel => exact ⟨j + 1, by omega, by omega, rfl⟩
            case measure => simp [intOf]; omega
          · have hj5 : (n : Int) < j := by omega
            clear hj
            rcases (by omega : off < 0 ∨ (0 ≤ off ∧ szOf c * (n : Int) ≤ off) ∨ (0 ≤ off ∧ off < szOf c * (n : Int))) with o1 | ⟨o1, o2⟩ | ⟨o1, o2⟩
            · have hid2 := fun w hS => index_neg g c t off w hS o1
              have hrow := fun w => row_yes c w hc0 hc3
              simp only [HN.out] at hrow
              have HRW := Lib.hid hrow; have HID := Lib.hid hid2
              clear hrow hid2
              generalize szOf c = s at *
              generalize ordOf c = s2 at *
              have m0 : (0 : Int) ≤ s * (n : Int) := Int.mul_nonneg (by omega) (by omega)
              have m1 : s * (n : Int) ≤ 512 := Int.le_trans (Int.mul_le_mul_of_nonneg_left (show (n : Int) ≤ 8 by omega) (by omega)) (by omega)
              go_wp2_with fail
              refine (HRW.out wr).mono ?_; rintro e w5 ⟨rfl, hb⟩
              have hS5 := hS.below hb
              have hB5 := bel_trans hB hb
              have hrw := (Blk.new w5 29 [.int .i64 s, .int .i64 s2, .int .i64 (n : Int)])
              have hS6 := hS5.below (bel_alloc (Below.refl _ _) (.cells #[.int .i64 s, .int .i64 s2, .int .i64 (n : Int)] 29))
              have hB6 := bel_alloc hB5 (.cells #[.int .i64 s, .int .i64 s2, .int .i64 (n : Int)] 29)
              clear hb hS hS5
              go_wp2_with fail
              refine (HID.out _ hS6).mono ?_; rintro e w6 ⟨rfl, hb⟩
              have hS7 := hS6.below hb
              have hB7 := bel_trans hB6 hb
              have hrw := hrw.below hb
              have r0 := hrw.at_ (i := 0) rfl
              have r2 := hrw.at_ (i := 2) rfl
              clear hb hS6 hrw hB5 hB6
              go_wp2_with fail
              refine (class_at g c t w6 hS7).mono ?_; rintro e w7 ⟨rfl, rfl⟩
              go_wp2_with fail
              go_ret
              exact ⟨rfl, hB7⟩
            · have hid2 := fun w hS => index_out g c t off w hS o1 (by rw [HN.out]; exact o2)
              have hrow := fun w => row_yes c w hc0 hc3
              simp only [HN.out] at hrow
              have HRW := Lib.hid hrow; have HID := Lib.hid hid2
              clear hrow hid2
              generalize szOf c = s at *
              generalize ordOf c = s2 at *
              have m0 : (0 : Int) ≤ s * (n : Int) := Int.mul_nonneg (by omega) (by omega)
              have m1 : s * (n : Int) ≤ 512 := Int.le_trans (Int.mul_le_mul_of_nonneg_left (show (n : Int) ≤ 8 by omega) (by omega)) (by omega)
              go_wp2_with fail
              refine (HRW.out wr).mono ?_; rintro e w5 ⟨rfl, hb⟩
              have hS5 := hS.below hb
              have hB5 := bel_trans hB hb
              have hrw := (Blk.new w5 29 [.int .i64 s, .int .i64 s2, .int .i64 (n : Int)])
              have hS6 := hS5.below (bel_alloc (Below.refl _ _) (.cells #[.int .i64 s, .int .i64 s2, .int .i64 (n : Int)] 29))
              have hB6 := bel_alloc hB5 (.cells #[.int .i64 s, .int .i64 s2, .int .i64 (n : Int)] 29)
              clear hb hS hS5
              go_wp2_with fail
              refine (HID.out _ hS6).mono ?_; rintro e w6 ⟨rfl, hb⟩
              have hS7 := hS6.below hb
              have hB7 := bel_trans hB6 hb
              have hrw := hrw.below hb
              have r0 := hrw.at_ (i := 0) rfl
              have r2 := hrw.at_ (i := 2) rfl
              clear hb hS6 hrw hB5 hB6
              go_wp2_with fail
              refine (class_at g c t w6 hS7).mono ?_; rintro e w7 ⟨rfl, rfl⟩
              go_wp2_with fail
              go_ret
              exact ⟨rfl, hB7⟩
            · by_cases o3 : off % szOf c = 0
              · have hid2 := fun w hS => index_yes g c t off w hS o1 (by rw [HN.out]; exact o2) o3
                have om : (off % szOf c != 0) = false := by simpa using o3
                clear o3
                have hrow := fun w => row_yes c w hc0 hc3
                simp only [HN.out] at hrow
                have HRW := Lib.hid hrow; have HID := Lib.hid hid2
                clear hrow hid2
                generalize szOf c = s at *
                generalize ordOf c = s2 at *
                have m0 : (0 : Int) ≤ s * (n : Int) := Int.mul_nonneg (by omega) (by omega)
                have m1 : s * (n : Int) ≤ 512 := Int.le_trans (Int.mul_le_mul_of_nonneg_left (show (n : Int) ≤ 8 by omega) (by omega)) (by omega)
                go_wp2_with fail
                refine (HRW.out wr).mono ?_; rintro e w5 ⟨rfl, hb⟩
                have hS5 := hS.below hb
                have hB5 := bel_trans hB hb
                have hrw := (Blk.new w5 29 [.int .i64 s, .int .i64 s2, .int .i64 (n : Int)])
                have hS6 := hS5.below (bel_alloc (Below.refl _ _) (.cells #[.int .i64 s, .int .i64 s2, .int .i64 (n : Int)] 29))
                have hB6 := bel_alloc hB5 (.cells #[.int .i64 s, .int .i64 s2, .int .i64 (n : Int)] 29)
                clear hb hS hS5
                go_wp2_with fail
                refine (HID.out _ hS6).mono ?_; rintro e w6 ⟨rfl, hb⟩
                have hS7 := hS6.below hb
                have hB7 := bel_trans hB6 hb
                have hrw := hrw.below hb
                have r0 := hrw.at_ (i := 0) rfl
                have r2 := hrw.at_ (i := 2) rfl
                clear hb hS6 hrw hB5 hB6
                go_wp2_with fail
                refine (class_at g c t w6 hS7).mono ?_; rintro e w7 ⟨rfl, rfl⟩
                go_wp2_with fail
                go_ret
                exact ⟨rfl, hB7⟩
              · have hid2 := fun w hS => index_bad g c t off w hS o1 (by rw [HN.out]; exact o2) o3
                have om : (off % szOf c != 0) = true := by simpa using o3
                clear o3
                have hrow := fun w => row_yes c w hc0 hc3
                simp only [HN.out] at hrow
                have HRW := Lib.hid hrow; have HID := Lib.hid hid2
                clear hrow hid2
                generalize szOf c = s at *
                generalize ordOf c = s2 at *
                have m0 : (0 : Int) ≤ s * (n : Int) := Int.mul_nonneg (by omega) (by omega)
                have m1 : s * (n : Int) ≤ 512 := Int.le_trans (Int.mul_le_mul_of_nonneg_left (show (n : Int) ≤ 8 by omega) (by omega)) (by omega)
                go_wp2_with fail
                refine (HRW.out wr).mono ?_; rintro e w5 ⟨rfl, hb⟩
                have hS5 := hS.below hb
                have hB5 := bel_trans hB hb
                have hrw := (Blk.new w5 29 [.int .i64 s, .int .i64 s2, .int .i64 (n : Int)])
                have hS6 := hS5.below (bel_alloc (Below.refl _ _) (.cells #[.int .i64 s, .int .i64 s2, .int .i64 (n : Int)] 29))
                have hB6 := bel_alloc hB5 (.cells #[.int .i64 s, .int .i64 s2, .int .i64 (n : Int)] 29)
                clear hb hS hS5
                go_wp2_with fail
                refine (HID.out _ hS6).mono ?_; rintro e w6 ⟨rfl, hb⟩
                have hS7 := hS6.below hb
                have hB7 := bel_trans hB6 hb
                have hrw := hrw.below hb
                have r0 := hrw.at_ (i := 0) rfl
                have r2 := hrw.at_ (i := 2) rfl
                clear hb hS6 hrw hB5 hB6
                go_wp2_with fail
                refine (class_at g c t w6 hS7).mono ?_; rintro e w7 ⟨rfl, rfl⟩
                go_wp2_with fail
                go_ret
                exact ⟨rfl, hB7⟩
  · rcases (by omega : c < 0 ∨ (0 ≤ c ∧ 3 < c)) with h | ⟨h, h2⟩
    all_goals
      refine (new_no c w2 (by omega)).mono ?_; rintro e w3 ⟨rfl, hc⟩
      have hB := bel_trans hB hc
      clear hc hcr
      go_wp2_with fail
      go_ret
      exact ⟨rfl, hB⟩
end Go.Proofs.YtinijpjbbbbhjaaDoor
