/- The law FramesActs. -/
import Derived.Test.YtkjhodaglanpmaaFramesIn
namespace Go.Proofs.Ytkjhodaglanpmaa
open Go.RowKit
set_option linter.unusedVariables false
set_option linter.unusedSimpArgs false
attribute [local go_sem] World.cell?_alloc_lt

theorem copy_save {nf : Nat} {bs : List Int} {f m : Int} (h1 : hasF nf f = true) (h2 : hasF nf m = true) (hl : bs.length = nf * 64) : (loadL nf bs f 0 64).length = 64 ∧ partE nf f 0 64 = 0 ∧ partE nf m 0 64 = 0 ∧ saveB nf bs m 0 (loadL nf bs f 0 64) = copyB nf bs f m := by
  have e1 : 0 ≤ f ∧ f < (nf : Int) := of_decide_eq_true h1
  have e2 : 0 ≤ m ∧ m < (nf : Int) := of_decide_eq_true h2
  obtain ⟨f, rfl⟩ := Int.eq_ofNat_of_zero_le e1.1
  obtain ⟨m, rfl⟩ := Int.eq_ofNat_of_zero_le e2.1
  have p1 : partE nf (f : Int) 0 64 = 0 := partE_zero (a := 0) (m := 64) (by omega) (by omega)
  have p2 : partE nf (m : Int) 0 64 = 0 := partE_zero (a := 0) (m := 64) (by omega) (by omega)
  have hln : (loadL nf bs f 0 64).length = 64 := by
    unfold loadL
    rw [if_pos p1, List.length_take, List.length_drop]
    simp
    omega
  refine ⟨hln, p1, p2, ?_⟩
  unfold saveB copyB
  rw [hln, if_pos (show partE nf (m : Int) 0 ((64 : Nat) : Int) = 0 from p2), h1, h2]
  rw [Bool.and_self, if_pos rfl]
  unfold loadL frBs
  rw [if_pos p1]
  rfl
theorem make64 (w : World) : ∃ w', (Instr.makeSlice 50 (.int .i64 64) (.int .i64 64)).run Try.prog w = .ok (.slice (some ⟨w.heap.size, 0, none⟩) 64 64) w' ∧ Blk w' w.heap.size 5 ((List.replicate 64 (0 : Int)).map (Value.int .u8)) ∧ Below w.heap.size w w' := by
  obtain ⟨i0, hi, hz0, hz1, hz2⟩ := info_parts info_byte
  obtain ⟨w', hrun, r1, r2⟩ := run_make_full (P := Try.prog) w w.heap.size 50 5 i0 (.int .u8 0) 1 Try.underlying50 hi hz0 hz1 .i64 .i64 64 (by rw [hz2]; omega) (by unfold maxLen; omega) (Nat.le_refl _)
  have hd := Blk.of_own_wide r1
  rw [Nat.mul_one, made_one (.int .u8 0) rfl 64] at hd
  exact ⟨w', hrun, by rw [List.map_replicate]; exact hd, (Below.refl _ _).grown r2 (Nat.le_refl _) (fun k h => by cases h)⟩
theorem InB.of_blk {w : World} {q : Nat} {us : List Int} (h : Blk w q 5 (us.map (Value.int .u8))) : InB w (some ⟨q, 0, none⟩) us.length us :=
  ⟨rfl, fun _ => ⟨q, 0, rfl, h.lt, fun j u hj => by
    rw [Nat.zero_add]
    exact h.at_ (by rw [List.getElem?_map, hj]; rfl)⟩⟩
theorem rs_save_64 (r tb nodes each nf : Nat) (bs : List Int) (f : Int) (w : World) (hR : RefS w r tb nodes each bs) (hn : nodes * each = nf) (q : Nat) (hd : Blk w q 5 ((List.replicate 64 (0 : Int)).map (Value.int .u8))) (hq : q ≠ tb) (hf : hasF nf f = true) :
    Calls Try.prog 47 #[.pointer (some ⟨r, 0, none⟩), .int .i64 f, .int .i64 0, .slice (some ⟨q, 0, none⟩) 64 64] w fun e w' => e = .returned (.int .i64 0) ∧ RefS w' r tb nodes each (clearB nf bs f) ∧ Ch [tb] w w' := by
  have hl : zeros64.length = 64 := zeros64_len
  have key := rs_save_nf r tb nodes each nf bs f 0 w hR hn (some ⟨q, 0, none⟩) 64 zeros64 (InB.of_blk hd) (by omega) (fun b off h => by injection h with h; injection h with h; omega)
  have e1 : 0 ≤ f ∧ f < (nf : Int) := of_decide_eq_true hf
  obtain ⟨f, rfl⟩ := Int.eq_ofNat_of_zero_le e1.1
  have p1 : partE nf (f : Int) 0 ((64 : Nat) : Int) = 0 := partE_zero (a := 0) (m := 64) (by omega) (by omega)
  have hsv : saveB nf bs (f : Int) 0 zeros64 = clearB nf bs (f : Int) := by
    unfold saveB clearB
    rw [hl, if_pos p1, if_pos hf]
    rfl
  rw [hsv, hl, p1] at key
  exact key
theorem own_setL {w : World} {base g n c i : Nat} {e : TypeId} {xs : List Int} (h : w.ownsRow base e 1 (.slice (some ⟨g, 0, none⟩) n c) n (xs.map (Value.int .u8))) (hi : i < n) (z : Int) : (w.setCell ⟨g, i, none⟩ (.int .u8 z)).ownsRow base e 1 (.slice (some ⟨g, 0, none⟩) n c) n ((xs.set i z).map (Value.int .u8)) := by
  rw [List.map_set]
  exact own_set h hi _
theorem keep2 {w w' : World} {S : List Nat} {b : Nat} {x y : Value} (k : Ch S w w') (hn : b ∉ S) (h : w.cell? ⟨b, 1, none⟩ = some x ∧ w.cell? ⟨b, 2, none⟩ = some y) : w'.cell? ⟨b, 1, none⟩ = some x ∧ w'.cell? ⟨b, 2, none⟩ = some y := ⟨k.keep hn h.1, k.keep hn h.2⟩
set_option maxRecDepth 100000 in
set_option maxHeartbeats 40000000 in
theorem framesActs_walk (w0 : World) (nodes : Int) (_h1 : (Lit.int .i64 nodes).wf = true) (each : Int) (_h2 : (Lit.int .i64 each).wf = true) (a : Option Addr) (len cap : Nat) (V : Nat → ActV) (hs : InActs w0 a len V) :
    Calls Try.prog 10 #[.int .i64 nodes, .int .i64 each, .slice a len cap] w0 fun e w' => e = .returned (.bool true) ∧ Below w0.heap.size w0 w' := by
  have hmx := hs.mx
  have hE : ∃ E : Int, ((1 ≤ nodes ∧ nodes ≤ 8 ∧ 40 < each ∧ each ≤ 1024) → (1023 ≤ E ∧ E ≤ 1024 ∧ wrap64 (1024 - each.tmod 2) = E)) ∧ (¬ (1 ≤ nodes ∧ nodes ≤ 8 ∧ 40 < each ∧ each ≤ 1024) → E = each) := by
    by_cases h : 1 ≤ nodes ∧ nodes ≤ 8 ∧ 40 < each ∧ each ≤ 1024
    · refine ⟨1024 - each % 2, fun _ => ⟨by omega, by omega, ?_⟩, fun h' => absurd h h'⟩
      rw [Int.tmod_eq_emod_of_nonneg (by omega), wrap64_small (by omega) (by omega)]
    · exact ⟨each, fun h' => absurd h' h, fun _ => rfl⟩
  obtain ⟨E, hE1, hE2⟩ := hE
  go_enter Try.func10, Try.ntmps10
  go_wp2_with fail
  refine (none_any w0).mono ?_; rintro e w1 ⟨rfl, rfl⟩
  go_wp2_with fail
  refine (nil_load 0 0 0 w0).mono ?_; rintro e w1 ⟨rfl, rfl⟩
  go_wp2_with fail
  refine (none_any w0).mono ?_; rintro e w1 ⟨rfl, rfl⟩
  go_wp2_with fail
  refine (nil_node 0 w0).mono ?_; rintro e w1 ⟨rfl, rfl⟩
  go_wp2_with fail
  refine (none_any w0).mono ?_; rintro e w1 ⟨rfl, rfl⟩
  go_wp2_with fail
  refine (nil_first 0 w0).mono ?_; rintro e w1 ⟨rfl, rfl⟩
  go_wp2_with fail
  refine (holds_any w0).mono ?_; rintro e w1 ⟨rfl, hB⟩
  go_wp2_with fail
  refine (none_any w1).mono ?_; rintro e w2 ⟨rfl, rfl⟩
  go_wp2_with fail
  refine (nil_len w1).mono ?_; rintro e w2 ⟨rfl, rfl⟩
  go_wp2_with fail
  refine (none_any w1).mono ?_; rintro e w2 ⟨rfl, rfl⟩
  go_wp2_with fail
  refine (nil_save 0 0 w1).mono ?_; rintro e w2 ⟨rfl, rfl⟩
  go_wp2_with fail
  refine (none_any w1).mono ?_; rintro e w2 ⟨rfl, rfl⟩
  go_wp2_with fail
  refine (nil_copy 0 0 w1).mono ?_; rintro e w2 ⟨rfl, rfl⟩
  go_wp2_with fail
  refine (none_any w1).mono ?_; rintro e w2 ⟨rfl, rfl⟩
  go_wp2_with fail
  refine (nil_clear 0 w1).mono ?_; rintro e w2 ⟨rfl, rfl⟩
  go_upto_region 6 with fail
  go_cut [99] from 86 to 99 (fun v99 wx => v99 = .bool (decide (1 ≤ nodes ∧ nodes ≤ 8 ∧ 40 < each ∧ each ≤ 1024)) ∧ wx = w1)
  case first =>
    rcases (by omega : (1 ≤ nodes ∧ nodes ≤ 8 ∧ 40 < each ∧ each ≤ 1024) ∨ nodes < 1 ∨ (1 ≤ nodes ∧ 8 < nodes) ∨ (1 ≤ nodes ∧ nodes ≤ 8 ∧ each ≤ 40) ∨ (1 ≤ nodes ∧ nodes ≤ 8 ∧ 40 < each ∧ 1024 < each)) with ⟨h1, h2, h3, h4⟩ | h1 | ⟨h1, h2⟩ | ⟨h1, h2, h3⟩ | ⟨h1, h2, h3, h4⟩
    · clear hE1 hE2
      go_wp2_with fail
      go_meet
      exact ⟨by rw [decide_eq_true ⟨h1, h2, h3, h4⟩], rfl⟩
    all_goals
      have hf : decide (1 ≤ nodes ∧ nodes ≤ 8 ∧ 40 < each ∧ each ≤ 1024) = false := decide_eq_false (by omega)
      have HF := Lib.hid hf; clear hf
      clear hE1 hE2
      go_wp2_with fail
      go_meet
      exact ⟨by first | (rw [HF.out]; done) | (rw [HF.out, decide_eq_false (show ¬ each ≤ 1024 by omega)]), rfl⟩
  case rest =>
    obtain ⟨rfl, rfl⟩ := hcut
    replace hE1 : decide (1 ≤ nodes ∧ nodes ≤ 8 ∧ 40 < each ∧ each ≤ 1024) = true → (1023 ≤ E ∧ E ≤ 1024 ∧ wrap64 (1024 - each.tmod 2) = E) := fun h => hE1 (of_decide_eq_true h)
    replace hE2 : decide (1 ≤ nodes ∧ nodes ≤ 8 ∧ 40 < each ∧ each ≤ 1024) = false → E = each := fun h => hE2 (of_decide_eq_false h)
    generalize decide (1 ≤ nodes ∧ nodes ≤ 8 ∧ 40 < each ∧ each ≤ 1024) = cb at *
    go_upto_if 99 with fail
    go_cut [1] from 86 to 102 (fun v1 wx => v1 = .int .i64 E ∧ wx = wc)
    case first =>
      cases cb with
      | true =>
        have e3 := (hE1 rfl).2.2
        clear hE1 hE2
        go_wp2_with fail
        go_meet
        exact ⟨by rw [e3], rfl⟩
      | false =>
        have e3 := hE2 rfl
        clear hE1 hE2
        subst e3
        go_wp2_with fail
        go_meet
        exact ⟨rfl, rfl⟩
    case rest =>
      clear hE1 hE2
      obtain ⟨rfl, rfl⟩ := hcut
      have hB0 := hB
      by_cases hbad : nodes < 1 ∨ 8 < nodes ∨ E < 1 ∨ 1024 < E
      · go_wp2_with fail
        refine (fr_new_no nodes E wc hbad).mono ?_; rintro e w2 ⟨rfl, rfl⟩
        rcases (by omega : nodes < 1 ∨ (1 ≤ nodes ∧ 8 < nodes) ∨ (1 ≤ nodes ∧ nodes ≤ 8 ∧ E < 1) ∨ (1 ≤ nodes ∧ nodes ≤ 8 ∧ 1 ≤ E ∧ 1024 < E)) with h | ⟨h, h2⟩ | ⟨h, h2, h3⟩ | ⟨h, h2, h3, h4⟩
        all_goals
          go_wp2_with fail
          go_ret
          exact ⟨rfl, hB⟩
      · obtain ⟨nd, rfl⟩ := Int.eq_ofNat_of_zero_le (show 0 ≤ nodes by omega)
        obtain ⟨ea, rfl⟩ := Int.eq_ofNat_of_zero_le (show 0 ≤ E by omega)
        have hd1 : 1 ≤ nd := by omega
        have hd8 : nd ≤ 8 := by omega
        have he1 : 1 ≤ ea := by omega
        have he2 : ea ≤ 1024 := by omega
        clear hbad
        have hi1 : (1 : Int) ≤ (nd : Int) := by omega
        have hi2 : (nd : Int) ≤ 8 := by omega
        have hi3 : (1 : Int) ≤ (ea : Int) := by omega
        have hi4 : (ea : Int) ≤ 1024 := by omega
        go_wp2_with fail
        refine (fr_new nd ea wc hd1 hd8 he1 he2).mono ?_; rintro e w2 ⟨g, b, rfl, hg, hb, hG, hc⟩
        have hB := bel_trans hB0 hc
        have hgw := hB0.size
        clear hc hB0
        have hbl := hG.dt.lt
        have hgl := hG.st.lt
        go_wp2_with fail
        refine (rs_new nd ea w2 hd8 he2).mono ?_; rintro e w3 ⟨r, tb, rfl, hr, htb, hR, hc⟩
        have hB := bel_trans hB hc
        have hG := hG.below hc
        clear hc
        have hnf : nd * ea ≤ 8192 := hR.mx
        have hmul : (nd : Int) * (ea : Int) = ((nd * ea : Nat) : Int) := by simp
        have hdvn : (nd * ea) / ea = nd := Nat.mul_div_cancel _ (by omega)
        generalize hnfe : nd * ea = nf at *
        generalize List.replicate (nf * 64) (0 : Int) = bs0 at *
        have HNF := Lib.hid hnfe; clear hnfe
        have hgb : g ≠ tb ∧ g ≠ r ∧ b ≠ tb ∧ b ≠ r := by omega
        obtain ⟨n1, n2, n3, n4⟩ := hgb
        go_wp2_with fail
        go_loopw [16] (fun vi wx => ∃ (i : Nat) (bs : List Int), i ≤ len ∧ i ≤ 40 ∧ vi = .int .i64 i ∧ StoreAt wx g b ea nf bs ∧ RefS wx r tb nd ea bs ∧ Below w0.heap.size w0 wx) (fun vi _ => 40 - (intOf vi).toNat)
        case atStart => exact ⟨0, bs0, by omega, by omega, rfl, hG, hR, hB⟩
        case round =>
          obtain ⟨i, bs, hil, hi40, rfl, hG, hR, hB⟩ := hrel
          have hR0l : bs.length = nf * 64 := hG.ln
          by_cases hlt : i < len ∧ i < 40
          · obtain ⟨hlt, hlt40⟩ := hlt
            obtain ⟨bx, ox, rfl, hbx, hcell⟩ := hs.at_ (by omega)
            obtain ⟨c0, c1, c2, c3, c4, hin, hlc, hwn⟩ := hcell i hlt
            generalize hvi : V i = vi at *
            obtain ⟨what, fr, at_, nn, A, L, C, Z⟩ := vi
            clear hvi
            simp only at c0 c1 c2 c3 c4 hin hlc hwn
            replace c0 := (hB.cell (p := ⟨bx, ox + i * 5, none⟩) hbx).trans c0
            replace c1 := (hB.cell (p := ⟨bx, ox + i * 5 + 1, none⟩) hbx).trans c1
            replace c2 := (hB.cell (p := ⟨bx, ox + i * 5 + 2, none⟩) hbx).trans c2
            replace c3 := (hB.cell (p := ⟨bx, ox + i * 5 + 3, none⟩) hbx).trans c3
            replace c4 := (hB.cell (p := ⟨bx, ox + i * 5 + 4, none⟩) hbx).trans c4
            have hia := fun w => idx_act (b := bx) (off := ox) (cap := cap) rfl hlt w
            have hi0 : (0 : Int) ≤ (i : Int) := Int.natCast_nonneg _
            have hi1 : (i : Int) < (len : Int) := by omega
            have hi5 : (i : Int) < 40 := by omega
            have hmin : ∃ n : Nat, n ≤ L ∧ n ≤ 70 ∧ (if (70 : Int) < (L : Int) then (70 : Int) else (L : Int)) = (n : Int) := by
              by_cases h : (70 : Int) < (L : Int)
              · exact ⟨70, by omega, by omega, by rw [if_pos h]; rfl⟩
              · exact ⟨L, by omega, by omega, by rw [if_neg h]⟩
            obtain ⟨n, hnL, hn70, hmin⟩ := hmin
            have hIB := InB.take hin hnL
            generalize Z.take n = us at hIB
            have hul := hIB.ln
            obtain rfl : us.length = n := hul
            have hcut := cut_bytes A L C us.length (us.length : Int) rfl (by omega)
            replace hIB := hIB.below hB
            clear hcell hin
            have hbk := umod_bd what 5 (by omega) (by omega)
            generalize hk : wrap64 ((IntKind.u64.wrap what).tmod 5) = kk at hbk
            have HK := Lib.hid hk; clear hk
            go_upto_region 16 with fail
            have hblk := Blk.new wr 77 [.int .i64 what, .int .i64 fr, .int .i64 at_, .int .i64 nn, .slice A L C]
            have hba : Below wr.heap.size wr (wr.alloc (.cells #[.int .i64 what, .int .i64 fr, .int .i64 at_, .int .i64 nn, .slice A L C] 77)) := bel_alloc (Below.refl _ _) _
            have hpl : g < wr.heap.size ∧ b < wr.heap.size ∧ r < wr.heap.size ∧ tb < wr.heap.size ∧ w0.heap.size ≤ wr.heap.size := ⟨hG.st.lt, hG.dt.lt, hR.st.lt, hR.dt.lt, hB.size⟩
            replace hG := hG.below hba
            replace hR := hR.below hba
            replace hB := bel_trans hB hba
            replace hIB := hIB.below hba
            clear hba c0 c1 c2 c3 c4
            generalize wr.alloc (.cells #[.int .i64 what, .int .i64 fr, .int .i64 at_, .int .i64 nn, .slice A L C] 77) = wa at *
            generalize wr.heap.size = p at *
            obtain ⟨hp1, hp2, hp3, hp4, hp5⟩ := hpl
            have q0 := hblk.at_ (i := 0) rfl
            have q1 := hblk.at_ (i := 1) rfl
            have q2 := hblk.at_ (i := 2) rfl
            have q3 := hblk.at_ (i := 3) rfl
            have q4 := hblk.at_ (i := 4) rfl
            go_upto_region 17 with fail
            rw [HK.out]
            rcases (by omega : (kk = 0 ∨ kk = 1) ∨ kk = 2 ∨ kk = 3 ∨ kk = 4) with e | e | e | e
            · as_aux_lemma =>
                rcases e with e | e
                all_goals
                  clear HK hbk
                  subst e
                  go_upto_region 19 with fail
                  have hbw : b < wa.heap.size ∧ tb < wa.heap.size ∧ g < wa.heap.size ∧ r < wa.heap.size ∧ p < wa.heap.size := ⟨hG.dt.lt, hR.dt.lt, hG.st.lt, hR.st.lt, hblk.lt⟩
                  obtain ⟨x1, x2, x3, x4, x5⟩ := hbw
                  have hba : Below wa.heap.size wa (wa.alloc (.cells #[] 5)) := bel_alloc (Below.refl _ _) _
                  have hma := own_made0 wa wa.heap.size 5 1 (Nat.le_refl _)
                  have hr1 := (hIB.below hba).reads
                  have HMA := Lib.hid hma; have HR1 := Lib.hid hr1; have HBA := Lib.hid hba
                  clear hma hr1 hba hIB
                  obtain ⟨i0, hi0', hz0, hz1, hz2⟩ := info_parts info_byte
                  go_wp2_with (at_builtin; refine wpList_append_any _ rfl (.tmp 154) (.tmp 161) 50 rfl wa.heap.size 5 i0 _ 1 1 Try.underlying50 hi0' hz0 hz1 hz2 rfl (by omega) (.slice (some ⟨wa.heap.size, 0, none⟩) 0 0) 0 [] rfl HMA.out _ A us.length C (us.map (Value.int .u8)) rfl HR1.out (bytes_oneL _) (by unfold maxLen; omega) (by omega) (by simp <;> omega) ?_)
                  intro v2 w2 hown2 hgr2 hor2
                  have hb2 := HBA.out.grown hgr2 (by simp <;> omega) (fun q hq => by simp [Value.ownBlock] at hq; omega)
                  obtain ⟨A2, c2, rfl⟩ := own_slice hown2
                  have hA2 : ∀ bb off, A2 = some ⟨bb, off, none⟩ → wa.heap.size ≤ bb := by
                    intro bb off hA
                    subst hA
                    rcases hown2.2 with ⟨h0, _⟩ | ⟨g', cp, cur, hv, hb, _⟩
                    · cases h0
                    · injection hv with hA _ _
                      injection hA with hA
                      injection hA with hA _ _
                      subst hA
                      exact hb
                  have hAb : ∀ bb off, A2 = some ⟨bb, off, none⟩ → bb ∉ [b] := fun bb off hA => by have := hA2 bb off hA; simp; omega
                  have hAt : ∀ bb off, A2 = some ⟨bb, off, none⟩ → bb ∉ [tb] := fun bb off hA => by have := hA2 bb off hA; simp; omega
                  have hAn : ∀ bb off, A2 = some ⟨bb, off, none⟩ → bb ≠ tb := fun bb off hA => by have := hA2 bb off hA; omega
                  have hI2 : InB w2 A2 us.length us := InB.of_own rfl hown2
                  replace hG := hG.below hb2
                  replace hR := hR.below hb2
                  replace hB := bel_trans hB hb2
                  replace q1 := (hb2.cell (p := ⟨p, 1, none⟩) x5).trans q1
                  replace q2 := (hb2.cell (p := ⟨p, 2, none⟩) x5).trans q2
                  have hwa2 := hb2.size
                  generalize wa.heap.size = hw at *
                  clear hgr2 hor2 hb2 HMA HR1 HBA q0 q3 q4 hblk hcut hz0 hz1 hz2 hi0'
                  have hu1 : us.length ≤ 1000 := by omega
                  have HS := Lib.hid hA2; clear hA2
                  have HI := Lib.hid hI2; clear hI2
                  have HO := Lib.hid hown2; clear hown2
                  go_upto_region 20 with fail
                  go_region_held3 (fun w' => w'.cell? ⟨p, 1, none⟩ = some (.int .i64 fr) ∧ w'.cell? ⟨p, 2, none⟩ = some (.int .i64 at_))
                    (first | go_keep | exact keep2 hcS (by simp; omega) (by first | assumption | exact ⟨by assumption, by assumption⟩) | exact keep2 hcR (by simp; omega) (by first | assumption | exact ⟨by assumption, by assumption⟩))
                    (first
                      | (go_at_call 31; refine (fr_save_any g b ea nf bs fr at_ A2 c2 us _ (by first | exact hG.ch hcR (by simp; omega) (by simp; omega) | exact (hG.below (bel_drew (Below.refl _ _))).ch hcR (by simp; omega) (by simp; omega)) (by first | exact HI.out.chS hcR hAt | exact HI.out.dr.chS hcR hAt) hu1).mono ?_; rintro e wS ⟨rfl, hG2, hcS⟩; have hR2 := hR1.ch hcS (by simp; omega) (by simp; omega); have hC2 : Ch [b, tb] w2 wS := by first | exact (hcR.mono (by simp)).trans (hcS.mono (by simp)) | exact ((Ch.refl _ w2).drew.trans (hcR.mono (by simp))).trans (hcS.mono (by simp)) | exact ((Ch.refl _ w2).drew.trans (hcR.mono (by simp))).drew.trans (hcS.mono (by simp)))
                      | (go_at_call 47; refine (rs_save_nf r tb nd ea nf bs fr at_ _ (by first | exact hR.ch hcS (by simp; omega) (by simp; omega) | exact (hR.below (bel_drew (Below.refl _ _))).ch hcS (by simp; omega) (by simp; omega)) HNF.out A2 c2 us (by first | exact HI.out.chS hcS hAb | exact HI.out.dr.chS hcS hAb) hu1 hAn).mono ?_; rintro e wR ⟨rfl, hR2, hcR⟩; have hG2 := hG1.ch hcR (by simp; omega) (by simp; omega); have hC2 : Ch [b, tb] w2 wR := by first | exact (hcS.mono (by simp)).trans (hcR.mono (by simp)) | exact ((Ch.refl _ w2).drew.trans (hcS.mono (by simp))).trans (hcR.mono (by simp)) | exact ((Ch.refl _ w2).drew.trans (hcS.mono (by simp))).drew.trans (hcR.mono (by simp)))
                      | (go_at_call 31; refine (fr_save_any g b ea nf bs fr at_ A2 c2 us _ (by first | exact hG | exact hG.below (bel_drew (Below.refl _ _))) (by first | exact HI.out | exact HI.out.dr) hu1).mono ?_; rintro e wS ⟨rfl, hG1, hcS⟩)
                      | (go_at_call 47; refine (rs_save_nf r tb nd ea nf bs fr at_ _ (by first | exact hR | exact hR.below (bel_drew (Below.refl _ _))) HNF.out A2 c2 us (by first | exact HI.out | exact HI.out.dr) hu1 hAn).mono ?_; rintro e wR ⟨rfl, hR1, hcR⟩))
                  all_goals
                    generalize saveB nf bs fr at_ us = bs2 at *
                    generalize partE nf fr at_ us.length = pe at *
                    have hwo := own_ch HO.out hC2 (fun q hq => by have := own_base HO.out q hq; simp; omega)
                    have hB2 := bel_ch hB hC2 (by simp; omega)
                    clear HI HO hG hR hB hC2 HS
                    go_wp2_with fail
                    have hxs : ∃ xs : List Int, xs.length = us.length ∧ World.ownsRow _ hw 5 1 (.slice A2 us.length c2) us.length (xs.map (Value.int .u8)) := ⟨us, rfl, hwo⟩
                    clear hwo
                    obtain ⟨xs, hxl, hwo⟩ := hxs
                    go_loopw [19] (fun vk wx => ∃ (k : Nat) (xs : List Int), k ≤ us.length ∧ xs.length = us.length ∧ vk = .int .i64 k ∧ wx.ownsRow hw 5 1 (.slice A2 us.length c2) us.length (xs.map (Value.int .u8)) ∧ StoreAt wx g b ea nf bs2 ∧ RefS wx r tb nd ea bs2 ∧ Below w0.heap.size w0 wx) (fun vk _ => us.length - (intOf vk).toNat)
                    case atStart => exact ⟨0, xs, by omega, hxl, rfl, hwo, hG2, hR2, hB2⟩
                    case round =>
                      clear hwo hG2 hR2 hB2 hxl
                      obtain ⟨k, xs, hk, hxl, rfl, hwo, hG2, hR2, hB2⟩ := hrel
                      by_cases hkl : k < us.length
                      · have hkv : (xs.map (Value.int .u8))[k]? = some (.int .u8 (xs[k]'(by omega))) := by rw [List.getElem?_map, List.getElem?_eq_getElem (by omega)]; rfl
                        obtain ⟨g2, hA2, kc, hg2, hgb, kf⟩ := own_at hwo hkv
                        subst hA2
                        have hixb := fun w => idx_byte (b := g2) (off := 0) (cap := c2) rfl hkl w
                        simp only [Nat.zero_add] at hixb
                        have hk0 : (0 : Int) ≤ (k : Int) := Int.natCast_nonneg _
                        have hk1 : (k : Int) < (us.length : Int) := by omega
                        have hk2 : k + 1 ≤ us.length := hkl
                        generalize xs[k]'(by omega) = xk at *
                        go_wp2_with fail
                        go_roundw
                        case rel => exact ⟨k + 1, _, hk2, by rw [List.length_set]; exact hxl, by go_num, own_setL hwo hkl _, hG2.ch ((Ch.refl [g2] wr).set (by simp) _) (by simp; omega) (by simp; omega), hR2.ch ((Ch.refl [g2] wr).set (by simp) _) (by simp; omega) (by simp; omega), bel_ch hB2 ((Ch.refl [g2] wr).set (by simp) _) (by simp; omega)⟩
                        case measure => simp [intOf]; omega
                      · have hk0 : k = us.length := by omega
                        subst hk0
                        go_wp2_with fail
                        go_roundw
                        case rel => exact ⟨i + 1, bs2, by omega, by omega, by go_num, hG2, hR2, hB2⟩
                        case measure => simp [intOf]; omega
            · as_aux_lemma =>
                clear HK hbk hcut hIB hmin
                subst e
                have hn63 : nn ≤ 9223372036854775807 := (bounds_i64 hwn).2
                go_wp2_with fail
                refine (fr_load_any g b ea nf bs fr at_ nn wa hG hn63).mono ?_; rintro e w2 ⟨A1, n1, c1, rfl, hI1, hc⟩
                replace hG := hG.below hc
                replace hR := hR.below hc
                replace hB := bel_trans hB hc
                have hpw := hblk.lt
                replace q1 := (hc.cell (p := ⟨p, 1, none⟩) hpw).trans q1
                replace q2 := (hc.cell (p := ⟨p, 2, none⟩) hpw).trans q2
                replace q3 := (hc.cell (p := ⟨p, 3, none⟩) hpw).trans q3
                clear hc q0 q4
                go_wp2_with fail
                refine (rs_load_nf r tb nd ea nf bs fr at_ w2 hR HNF.out nn hn63).mono ?_; rintro e w3 ⟨A3, n3, c3, rfl, hI3, _, hc⟩
                replace hG := hG.below hc
                replace hR := hR.below hc
                replace hB := bel_trans hB hc
                replace hI1 := hI1.below hc
                have tx1 := text_in (c := c1) hI1
                have tx3 := text_in (c := c3) hI3
                clear hc hI1 hI3 q1 q2 q3
                have hsn : (!((strOfNums (loadL nf bs fr at_ nn)).toList == (strOfNums (loadL nf bs fr at_ nn)).toList)) = false := by simp
                generalize strOfNums (loadL nf bs fr at_ nn) = sx at *
                generalize partE nf fr at_ nn = pe at *
                go_wp2_with fail
                go_roundw
                case rel => exact ⟨i + 1, bs, by omega, by omega, by go_num, hG, hR, hB⟩
                case measure => simp [intOf]; omega
            · as_aux_lemma =>
                clear HK hbk hcut hIB hmin
                subst e
                have hpw := hblk.lt
                have hpb : p ∉ [b] := by simp; omega
                have hpt : p ∉ [tb] := by simp; omega
                clear q0 q2 q4 hblk
                have hca := fr_copy_any g b ea nf bs fr nn wa hG
                by_cases h12 : hasF nf fr = true ∧ hasF nf nn = true
                · obtain ⟨h1, h2⟩ := h12
                  obtain ⟨hul, p1, p2, hcs⟩ := copy_save h1 h2 hR0l
                  rw [← hcs, h1, h2] at hca
                  simp only [Bool.and_self, if_true] at hca
                  have HCA := Lib.hid hca; clear hca hcs
                  have hl63 : (64 : Int) ≤ 9223372036854775807 := by omega
                  go_wp2_with fail
                  refine HCA.out.mono ?_; rintro e w2 ⟨rfl, hG2, hcS⟩
                  replace hR := hR.ch hcS (by simp; omega) (by simp; omega)
                  replace hB := bel_ch hB hcS (by simp; omega)
                  replace q1 := hcS.keep hpb q1
                  replace q3 := hcS.keep hpb q3
                  clear hcS hG HCA
                  have hh1 := rs_has_nf r tb nd ea nf bs fr w2 hR HNF.out
                  rw [h1] at hh1
                  have HH1 := Lib.hid hh1; clear hh1
                  go_wp2_with fail
                  refine HH1.out.mono ?_; rintro e w3 ⟨rfl, n3, hn3⟩
                  have hb3 := bel_quiet ⟨n3, hn3⟩
                  have hpw2 : p < w2.heap.size := World.block_lt_of_cell? w2 _ q1
                  replace hG2 := hG2.below hb3
                  replace hR := hR.below hb3
                  replace hB := bel_trans hB hb3
                  replace q1 := (hb3.cell (p := ⟨p, 1, none⟩) hpw2).trans q1
                  replace q3 := (hb3.cell (p := ⟨p, 3, none⟩) hpw2).trans q3
                  clear hn3 hb3 HH1 hpw2
                  have hh2 := rs_has_nf r tb nd ea nf bs nn w3 hR HNF.out
                  rw [h2] at hh2
                  have HH2 := Lib.hid hh2; clear hh2
                  go_wp2_with fail
                  refine HH2.out.mono ?_; rintro e w4 ⟨rfl, n3, hn3⟩
                  have hb3 := bel_quiet ⟨n3, hn3⟩
                  have hpw2 : p < w3.heap.size := World.block_lt_of_cell? w3 _ q1
                  replace hG2 := hG2.below hb3
                  replace hR := hR.below hb3
                  replace hB := bel_trans hB hb3
                  replace q1 := (hb3.cell (p := ⟨p, 1, none⟩) hpw2).trans q1
                  replace q3 := (hb3.cell (p := ⟨p, 3, none⟩) hpw2).trans q3
                  clear hn3 hb3 HH2 hpw2
                  go_wp2_with fail
                  refine (rs_load_nf r tb nd ea nf bs fr 0 w4 hR HNF.out 64 hl63).mono ?_; rintro e w5 ⟨A3, n3, c3, rfl, hI3, hA3, hc⟩
                  have hpw2 : p < w4.heap.size := World.block_lt_of_cell? w4 _ q1
                  have htw := hR.dt.lt
                  replace hG2 := hG2.below hc
                  replace hR := hR.below hc
                  replace hB := bel_trans hB hc
                  replace q3 := (hc.cell (p := ⟨p, 3, none⟩) hpw2).trans q3
                  clear hc q1
                  rw [p1]
                  obtain rfl : (loadL nf bs fr 0 64).length = n3 := hI3.ln
                  have hA4 : ∀ bb off, A3 = some ⟨bb, off, none⟩ → bb ≠ tb := fun bb off hA => by have := hA3 bb off hA; omega
                  clear hA3
                  generalize loadL nf bs fr 0 64 = us at *
                  have hu1 : us.length ≤ 1000 := by omega
                  have HUL := Lib.hid hul; clear hul p1
                  have HI3 := Lib.hid hI3; clear hI3
                  rw [show (64 : Int) = ((64 : Nat) : Int) from rfl, ← HUL.out] at p2
                  have HP2 := Lib.hid p2; clear p2
                  go_wp2_with fail
                  refine (rs_save_nf r tb nd ea nf bs nn 0 w5 hR HNF.out A3 c3 us HI3.out hu1 hA4).mono ?_; rintro e w6 ⟨rfl, hR2, hcR⟩
                  have hG3 := hG2.ch hcR (by simp; omega) (by simp; omega)
                  have hB3 := bel_ch hB hcR (by simp; omega)
                  generalize saveB nf bs nn 0 us = bs2 at *
                  go_wp2_with fail
                  go_roundw
                  case rel => exact ⟨i + 1, bs2, by omega, by omega, by go_num, hG3, hR2, hB3⟩
                  case measure => simp [intOf]; omega
                · have hf12 : (hasF nf fr && hasF nf nn) = false := by
                    cases h1 : hasF nf fr <;> cases h2 : hasF nf nn <;> simp_all
                  have hcb : copyB nf bs fr nn = bs := by unfold copyB; rw [hf12]; rfl
                  rw [hcb, hf12] at hca
                  simp only [Bool.false_eq_true, if_false] at hca
                  have HCA := Lib.hid hca; clear hca hcb h12
                  go_wp2_with fail
                  refine HCA.out.mono ?_; rintro e w2 ⟨rfl, hG2, hcS⟩
                  replace hR := hR.ch hcS (by simp; omega) (by simp; omega)
                  replace hB := bel_ch hB hcS (by simp; omega)
                  replace q1 := hcS.keep hpb q1
                  replace q3 := hcS.keep hpb q3
                  clear hcS hG HCA
                  have hh1 := rs_has_nf r tb nd ea nf bs fr w2 hR HNF.out
                  cases h1 : hasF nf fr with
                  | false =>
                    rw [h1] at hh1
                    have HH1 := Lib.hid hh1; clear hh1 hf12 h1
                    go_wp2_with fail
                    refine HH1.out.mono ?_; rintro e w3 ⟨rfl, n3, hn3⟩
                    have hb3 := bel_quiet ⟨n3, hn3⟩
                    replace hG2 := hG2.below hb3
                    replace hR := hR.below hb3
                    replace hB := bel_trans hB hb3
                    clear hn3 hb3 HH1 q1 q3
                    go_wp2_with fail
                    go_roundw
                    case rel => exact ⟨i + 1, bs, by omega, by omega, by go_num, hG2, hR, hB⟩
                    case measure => simp [intOf]; omega
                  | true =>
                    have h2 : hasF nf nn = false := by rw [h1] at hf12; simpa using hf12
                    rw [h1] at hh1
                    have HH1 := Lib.hid hh1; clear hh1 hf12 h1
                    have H2 := Lib.hid h2; clear h2
                    go_wp2_with fail
                    refine HH1.out.mono ?_; rintro e w3 ⟨rfl, n3, hn3⟩
                    have hb3 := bel_quiet ⟨n3, hn3⟩
                    have hpw2 : p < w2.heap.size := World.block_lt_of_cell? w2 _ q1
                    replace hG2 := hG2.below hb3
                    replace hR := hR.below hb3
                    replace hB := bel_trans hB hb3
                    replace q3 := (hb3.cell (p := ⟨p, 3, none⟩) hpw2).trans q3
                    clear hn3 hb3 HH1 hpw2 q1
                    have hh2 := rs_has_nf r tb nd ea nf bs nn w3 hR HNF.out
                    rw [H2.out] at hh2
                    have HH2 := Lib.hid hh2; clear hh2
                    go_wp2_with fail
                    refine HH2.out.mono ?_; rintro e w4 ⟨rfl, n3, hn3⟩
                    have hb3 := bel_quiet ⟨n3, hn3⟩
                    replace hG2 := hG2.below hb3
                    replace hR := hR.below hb3
                    replace hB := bel_trans hB hb3
                    clear hn3 hb3 HH2 q3
                    go_wp2_with fail
                    go_roundw
                    case rel => exact ⟨i + 1, bs, by omega, by omega, by go_num, hG2, hR, hB⟩
                    case measure => simp [intOf]; omega
            · as_aux_lemma =>
                clear HK hbk hcut hIB hmin
                subst e
                have hpw := hblk.lt
                have hpb : p ∉ [b] := by simp; omega
                clear q0 q2 q3 q4 hblk
                have hca := fr_clear_any g b ea nf bs fr wa hG
                cases h1 : hasF nf fr with
                | false =>
                  have hcb : clearB nf bs fr = bs := by unfold clearB; rw [h1]; rfl
                  rw [hcb, h1] at hca
                  simp only [Bool.false_eq_true, if_false] at hca
                  have HCA := Lib.hid hca; clear hca hcb
                  go_wp2_with fail
                  refine HCA.out.mono ?_; rintro e w2 ⟨rfl, hG2, hcS⟩
                  replace hR := hR.ch hcS (by simp; omega) (by simp; omega)
                  replace hB := bel_ch hB hcS (by simp; omega)
                  replace q1 := hcS.keep hpb q1
                  clear hcS hG HCA
                  have hh1 := rs_has_nf r tb nd ea nf bs fr w2 hR HNF.out
                  rw [h1] at hh1
                  have HH1 := Lib.hid hh1; clear hh1 h1
                  go_wp2_with fail
                  refine HH1.out.mono ?_; rintro e w3 ⟨rfl, n3, hn3⟩
                  have hb3 := bel_quiet ⟨n3, hn3⟩
                  replace hG2 := hG2.below hb3
                  replace hR := hR.below hb3
                  replace hB := bel_trans hB hb3
                  clear hn3 hb3 HH1 q1
                  go_wp2_with fail
                  go_roundw
                  case rel => exact ⟨i + 1, bs, by omega, by omega, by go_num, hG2, hR, hB⟩
                  case measure => simp [intOf]; omega
                | true =>
                  have H1 := Lib.hid h1
                  rw [h1] at hca
                  simp only [if_true] at hca
                  have HCA := Lib.hid hca; clear hca h1
                  go_wp2_with fail
                  refine HCA.out.mono ?_; rintro e w2 ⟨rfl, hG2, hcS⟩
                  replace hR := hR.ch hcS (by simp; omega) (by simp; omega)
                  replace hB := bel_ch hB hcS (by simp; omega)
                  replace q1 := hcS.keep hpb q1
                  clear hcS hG HCA
                  have hh1 := rs_has_nf r tb nd ea nf bs fr w2 hR HNF.out
                  rw [H1.out] at hh1
                  have HH1 := Lib.hid hh1; clear hh1
                  go_wp2_with fail
                  refine HH1.out.mono ?_; rintro e w3 ⟨rfl, n3, hn3⟩
                  have hb3 := bel_quiet ⟨n3, hn3⟩
                  have hpw2 : p < w2.heap.size := World.block_lt_of_cell? w2 _ q1
                  replace hG2 := hG2.below hb3
                  replace hR := hR.below hb3
                  replace hB := bel_trans hB hb3
                  replace q1 := (hb3.cell (p := ⟨p, 1, none⟩) hpw2).trans q1
                  clear hn3 hb3 HH1 hpw2
                  have hpw3 : p < w3.heap.size := World.block_lt_of_cell? w3 _ q1
                  have htw := hR.dt.lt
                  have HR := Lib.hid hR; clear hR
                  obtain ⟨wM, hmk, hdM, hbM⟩ := make64 w3
                  obtain ⟨wN, hmn, hdN, hbN⟩ := make64 w3.drew
                  have HDM := Lib.hid hdM; have HDN := Lib.hid hdN; clear hdM hdN
                  have hkM : wM.cell? ⟨p, 1, none⟩ = some (.int .i64 fr) := (hbM.cell (p := ⟨p, 1, none⟩) hpw3).trans q1
                  have hkN : wN.cell? ⟨p, 1, none⟩ = some (.int .i64 fr) := (hbN.cell (p := ⟨p, 1, none⟩) hpw3).trans q1
                  have hRM := HR.out.below hbM
                  have hRN := (HR.out.below (bel_drew (Below.refl _ _))).below hbN
                  have HRM := Lib.hid hRM; have HRN := Lib.hid hRN; clear hRM hRN
                  go_upto_region 43 with fail
                  go_region_held3 (fun w' => w'.cell? ⟨p, 1, none⟩ = some (.int .i64 fr))
                    (first | go_keep | exact hkM | exact hkN | exact Ch.keep hcR (by simp; omega) (by assumption))
                    (first
                      | (go_at_call 47; refine (rs_save_64 r tb nd ea nf bs fr _ (by first | exact HRM.out | exact HRN.out | exact HRM.out.below (bel_drew (Below.refl _ _)) | exact HRN.out.below (bel_drew (Below.refl _ _))) HNF.out _ (by first | exact HDM.out | exact HDN.out | exact HDM.out.below (bel_drew (Below.refl _ _)) | exact HDN.out.below (bel_drew (Below.refl _ _))) (by first | omega | (simp; omega)) H1.out).mono ?_; rintro e wR ⟨rfl, hR2, hcR⟩))
                  all_goals
                    have hG3 : StoreAt wR g b ea nf (clearB nf bs fr) := by
                      first
                        | exact (hG2.below hbM).ch hcR (by simp; omega) (by simp; omega)
                        | exact ((hG2.below hbM).below (bel_drew (Below.refl _ _))).ch hcR (by simp; omega) (by simp; omega)
                        | exact ((hG2.below (bel_drew (Below.refl _ _))).below hbN).ch hcR (by simp; omega) (by simp; omega)
                    have hB3 : Below w0.heap.size w0 wR := by
                      first
                        | exact bel_ch (bel_trans hB hbM) hcR (by simp; omega)
                        | exact bel_ch (bel_drew (bel_trans hB hbM)) hcR (by simp; omega)
                        | exact bel_ch (bel_trans (bel_drew hB) hbN) hcR (by simp; omega)
                    generalize clearB nf bs fr = bs2 at *
                    go_wp2_with fail
                    go_roundw
                    case rel => exact ⟨i + 1, bs2, by omega, by omega, by go_num, hG3, hR2, hB3⟩
                    case measure => simp [intOf]; omega
          · as_aux_lemma =>
              clear hs
              have hsz := hG.ln
              have e8 := hG.mx
              rcases (by omega : len ≤ i ∨ (i < len ∧ 40 ≤ i)) with h1 | ⟨h1, h2⟩
              all_goals
                go_wp2_with fail
                go_loopw [28] (fun vk wx => ∃ k : Nat, k ≤ nf ∧ vk = .int .i64 k ∧ StoreAt wx g b ea nf bs ∧ RefS wx r tb nd ea bs ∧ Below w0.heap.size w0 wx) (fun vk _ => nf - (intOf vk).toNat)
                case atStart => exact ⟨0, by omega, rfl, hG, hR, hB⟩
                case round =>
                  clear hG hR hB
                  obtain ⟨k, hk, rfl, hG, hR, hB⟩ := hrel
                  by_cases hkn : k < nf
                  · have hk0 : (0 : Int) ≤ (k : Int) := by omega
                    have hk1 : (k : Int) < (nf : Int) := by omega
                    go_wp2_with fail
                    refine (fr_load g b ea nf bs k 0 64 _ hG hkn (by omega)).mono ?_; rintro e wL ⟨h3, c3, rfl, hown, hc⟩
                    replace hG := hG.below hc
                    replace hR := hR.below hc
                    replace hB := bel_trans hB hc
                    clear hc
                    go_wp2_with fail
                    refine (fr_node g b ea nf bs k wL hG hkn).mono ?_; rintro e w5 ⟨rfl, rfl⟩
                    rw [Nat.add_zero] at hown
                    have q2 := hR.st.at_ (i := 2) rfl
                    have hul : ((bs.drop (k * 64)).take 64).length = 64 := by simp; omega
                    have tx1 := fun n => text_own (w := wL.drewN n) hul hown
                    have tx2 := fun n => run_convert_bytes_arg (wL.drewN n) 50 5 Try.underlying50 Try.underlying5 tb (64 * k) 64 (nf * 64 - 64 * k) ((bs.drop (k * 64)).take 64) hul (by
                      intro i hi
                      have hdt := (hR.dt.drewN n).cell (64 * k + i)
                      rw [hdt, Nat.mul_comm 64 k, List.getElem?_map, List.getElem?_eq_getElem (by omega)]
                      simp [List.getD_eq_getElem?_getD, List.getElem?_take, List.getElem?_drop, hi, List.getElem?_eq_getElem (show k * 64 + i < bs.length by omega)]) 9 Try.underlying9
                    have hcu := fun w => cut_lh_b tb bs.length (k * 64) 64 (64 * (k : Int)) (64 * (k : Int) + 64) (by omega) (by omega) (by omega) w
                    unfold cutA at hcu
                    rw [if_neg (by omega)] at hcu
                    have hqn : (k : Int).tdiv (ea : Int) = (k : Int) / (ea : Int) := by rw [Int.tdiv_eq_ediv_of_nonneg (by omega)]
                    have hqb : (k : Int) / (ea : Int) ≤ (k : Int) := Int.ediv_le_self _ (by omega)
                    have hqc : 0 ≤ (k : Int) / (ea : Int) := Int.ediv_nonneg (by omega) (by omega)
                    have hqw : IntKind.i64.wrap ((k : Int) / (ea : Int)) = (k : Int) / (ea : Int) := i64_sm (by omega) (by omega)
                    have hea0 : ((ea : Int) == 0) = false := by rw [beq_eq_false_iff_ne]; omega
                    generalize strOfNums ((bs.drop (k * 64)).take 64) = sx at *
                    have hw1 : IntKind.i64.wrap (64 * (k : Int)) = 64 * (k : Int) := i64_sm (by omega) (by omega)
                    have hw2 : IntKind.i64.wrap (64 * (k : Int) + 64) = 64 * (k : Int) + 64 := i64_sm (by omega) (by omega)
                    clear hown hul
                    go_wp2_with fail
                    refine wp_region_quiet_lit (by kernel_rfl) (by kernel_rfl) ?_
                    repeat (first | go_big_quiet_step (fail) | quiet_step (fail))
                    refine wpQuiet_nil ?_; intro _ hw'; obtain ⟨nq, hw''⟩ := hw'; subst hw''
                    replace hG := hG.below (bel_drewN (Below.refl _ _) nq)
                    replace hR := hR.dn nq
                    replace hB := bel_drewN hB nq
                    clear tx1 tx2 hcu hqn hqb hqc hqw hw1 hw2
                    go_wp2_with fail
                    go_roundw
                    case rel => exact ⟨k + 1, by omega, by go_num, hG, hR, hB⟩
                    case measure => simp [intOf]; omega
                  · have hkn : k = nf := by omega
                    subst hkn
                    go_wp2_with fail
                    refine (fr_node_no g b ea k bs (k : Int) _ hG (by omega)).mono ?_; rintro e w2 ⟨rfl, rfl⟩
                    go_wp2_with fail
                    refine (fr_first_no g b ea k bs nd _ hG HNF.out.symm).mono ?_; rintro e w2 ⟨rfl, hc⟩
                    replace hG := hG.below hc
                    replace hB := bel_trans hB hc
                    go_wp2_with fail
                    refine (fr_len g b ea k bs _ hG).mono ?_; rintro e w3 ⟨rfl, rfl⟩
                    go_wp2_with fail
                    go_ret
                    exact ⟨rfl, hB⟩
end Go.Proofs.Ytkjhodaglanpmaa
