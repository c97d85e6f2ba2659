/- The law StatsTurned. -/
import Derived.Test.YtinijpjbbbbhjaaStatsIn
import Derived.Deep.DeepCutAuto
namespace Go.Proofs.Ytinijpjbbbbhjaa
open Go.RowKit
set_option linter.unusedVariables false
set_option linter.unusedSimpArgs false
attribute [local go_sem] World.cell?_alloc_lt

theorem Blk.new2 (w : World) (o : Obj) (t : TypeId) (cs : List Value) : Blk ((w.alloc o).alloc (.cells cs.toArray t)) (w.heap.size + 1) t cs := by
  have h := Blk.new (w.alloc o) t cs
  have e : (w.alloc o).heap.size = w.heap.size + 1 := by simp
  rw [e] at h
  exact h
theorem i64_sm {n : Int} (h0 : -9223372036854775808 ≤ n) (h1 : n ≤ 9223372036854775807) : IntKind.i64.wrap n = n := by
  simp only [IntKind.wrap]
  simp [IntKind.signed, IntKind.bits]
  omega
set_option maxRecDepth 100000 in
set_option maxHeartbeats 3000000 in
theorem statsTurned_walk (w0 : World) (a : Option Addr) (len cap : Nat) (E : Nat → Ev) (hs : InEv w0 a len E) :
    Calls Try.prog 5 #[.slice a len cap] w0 fun e w' => e = .returned (.bool true) ∧ Below w0.heap.size w0 w' := by
  have hmx := hs.mx
  have hn : ∃ n : Nat, n ≤ len ∧ n ≤ 30 ∧ (if (30 : Int) < (len : Int) then (30 : Int) else (len : Int)) = (n : Int) := by
    by_cases h : (30 : Int) < (len : Int)
    · exact ⟨30, by omega, by omega, by rw [if_pos h]; rfl⟩
    · exact ⟨len, by omega, by omega, by rw [if_neg h]⟩
  obtain ⟨n, hnl, hn30, hmin⟩ := hn
  go_enter Try.func5, Try.ntmps5
  go_wp2_with fail
  refine (log_new 4 w0 (by omega) (by omega)).mono ?_; rintro e w1 ⟨g1, c1, rfl, hG1, hB1⟩
  go_wp2_with fail
  refine (log_new 4 w1 (by omega) (by omega)).mono ?_; rintro e w2 ⟨g2, c2, rfl, hG2, hB2⟩
  have hgg : g1 ≠ g2 := by have := hG1.st.lt; have := hG2.gb; omega
  have hcc : c1 ≠ c2 := by have := hG1.ctlt; have := hG2.cb; omega
  have hb01 : w0.heap.size ≤ w1.heap.size := hB1.size
  have hG1 := hG1.below hB2
  have hb12 := hB2.size
  have hB := bel_trans hB1 hB2
  clear hB1 hB2
  go_wp2_with fail
  refine (counts_any w2).mono ?_; rintro e w3 ⟨rfl, hc⟩
  have hG1 := hG1.below hc
  have hG2 := hG2.below hc
  have hb13 := hc.size
  have hB := bel_trans hB hc
  clear hc
  go_wp2_with fail
  have r1 : ∀ q ∈ rowOf (none : Option Addr), q ∉ rowOf (none : Option Addr) := by simp [rowOf]
  go_loopw [8] (fun vi wx => ∃ (i : Nat) (A B : Option Addr) (c d : Nat), i ≤ n ∧ vi = .int .i64 i ∧ LogAt wx w0.heap.size g1 c1 4 A c (flt (((List.range n).map E).take i) 4) ∧ LogAt wx w1.heap.size g2 c2 4 B d (flt (((List.range n).map E).reverse.take i) 4) ∧ (∀ q ∈ rowOf A, q ∉ rowOf B) ∧ Below w0.heap.size w0 wx ∧ w1.heap.size ≤ wx.heap.size) (fun vi _ => n - (intOf vi).toNat)
  case atStart => exact ⟨0, none, none, 0, 0, by omega, rfl, hG1, hG2, r1, hB, by omega⟩
  case round =>
    clear hG1 hG2 hB r1 hb12 hb13
    obtain ⟨i, A, B, c, d, hi, rfl, hG1, hG2, hdj, hB, hb1w⟩ := hrel
    by_cases hin : i < n
    · obtain ⟨bx, off, rfl, hbx, hcell⟩ := hs.at_ (by omega)
      obtain ⟨x0, x1, x2, x3⟩ := hcell i (by omega)
      obtain ⟨y0, y1, y2, y3⟩ := hcell (n - 1 - i) (by omega)
      replace x0 := (hB.cell (p := ⟨bx, off + i * 4, none⟩) hbx).trans x0
      replace x1 := (hB.cell (p := ⟨bx, off + i * 4 + 1, none⟩) hbx).trans x1
      replace x2 := (hB.cell (p := ⟨bx, off + i * 4 + 2, none⟩) hbx).trans x2
      replace x3 := (hB.cell (p := ⟨bx, off + i * 4 + 3, none⟩) hbx).trans x3
      replace y0 := (hB.cell (p := ⟨bx, off + (n - 1 - i) * 4, none⟩) hbx).trans y0
      replace y1 := (hB.cell (p := ⟨bx, off + (n - 1 - i) * 4 + 1, none⟩) hbx).trans y1
      replace y2 := (hB.cell (p := ⟨bx, off + (n - 1 - i) * 4 + 2, none⟩) hbx).trans y2
      replace y3 := (hB.cell (p := ⟨bx, off + (n - 1 - i) * 4 + 3, none⟩) hbx).trans y3
      have hx1 := fun w => idx_ev (b := bx) (off := off) (cap := cap) rfl (show i < len by omega) w
      have hx2 : ∀ w : World, (Instr.indexAt 22 (.slice (some ⟨bx, off, none⟩) len cap) (.int .i64 ((n : Int) - 1 - (i : Int)))).run Try.prog w = .ok (.pointer (some ⟨bx, off + (n - 1 - i) * 4, none⟩)) w := fun w => by
        rw [show (n : Int) - 1 - (i : Int) = ((n - 1 - i : Nat) : Int) from by omega]
        exact idx_ev (b := bx) (off := off) (cap := cap) rfl (show n - 1 - i < len by omega) w
      have hE1 : flt (((List.range n).map E).take (i + 1)) 4 = addL (flt (((List.range n).map E).take i) 4) (E i) 4 := by
        rw [List.take_succ_eq_append_getElem (by simpa using hin), flt_snoc]
        simp
      have hE2 : flt (((List.range n).map E).reverse.take (i + 1)) 4 = addL (flt (((List.range n).map E).reverse.take i) 4) (E (n - 1 - i)) 4 := by
        rw [List.take_succ_eq_append_getElem (by simpa using hin), flt_snoc]
        simp
      have hl1 : (flt (((List.range n).map E).take i) 4).length < 1000 := by
        have := flt_le (((List.range n).map E).take i) 4
        have := List.length_take_le i ((List.range n).map E)
        omega
      have hl2 : (flt (((List.range n).map E).reverse.take i) 4).length < 1000 := by
        have := flt_le (((List.range n).map E).reverse.take i) 4
        have := List.length_take_le i ((List.range n).map E).reverse
        omega
      have HE1 := Lib.hid hE1; have HE2 := Lib.hid hE2; clear hE1 hE2 hcell
      generalize flt (((List.range n).map E).take i) 4 = l1 at *
      generalize flt (((List.range n).map E).reverse.take i) 4 = l2 at *
      generalize hex : E i = ex at *
      generalize hey : E (n - 1 - i) = ey at *
      have HEX := Lib.hid hex; have HEY := Lib.hid hey; clear hex hey
      generalize (n - 1 - i) = j at *
      obtain ⟨xn, xs, xo, xi⟩ := ex
      obtain ⟨yn, ys, yo, yi⟩ := ey
      have hw1 : IntKind.i64.wrap ((n : Int) - 1) = (n : Int) - 1 := i64_sm (by omega) (by omega)
      have hw2 : IntKind.i64.wrap ((n : Int) - 1 - (i : Int)) = (n : Int) - 1 - (i : Int) := i64_sm (by omega) (by omega)
      obtain ⟨wo, hwo⟩ : ∃ wo : World, wo = wr := ⟨_, rfl⟩
      go_upto_region 9 with fail
      go_cut [9, 10] (fun v9 v10 wx => ∃ p q : Nat, v9 = .pointer (some ⟨p, 0, none⟩) ∧ v10 = .pointer (some ⟨q, 0, none⟩) ∧ Blk wx p 38 [.int .i64 xn, .int .i64 xs, .int .i64 xo, .bool xi] ∧ Blk wx q 38 [.int .i64 yn, .int .i64 ys, .int .i64 yo, .bool yi] ∧ wo.heap.size ≤ q ∧ Below wo.heap.size wo wx)
      case first =>
        subst hwo
        go_region_held3 (fun w' => w'.cell? ⟨bx, off + i * 4, none⟩ = some (.int .i64 xn) ∧ w'.cell? ⟨bx, off + i * 4 + 1, none⟩ = some (.int .i64 xs) ∧ w'.cell? ⟨bx, off + i * 4 + 2, none⟩ = some (.int .i64 xo) ∧ w'.cell? ⟨bx, off + i * 4 + 3, none⟩ = some (.bool xi) ∧ w'.cell? ⟨bx, off + j * 4, none⟩ = some (.int .i64 yn) ∧ w'.cell? ⟨bx, off + j * 4 + 1, none⟩ = some (.int .i64 ys) ∧ w'.cell? ⟨bx, off + j * 4 + 2, none⟩ = some (.int .i64 yo) ∧ w'.cell? ⟨bx, off + j * 4 + 3, none⟩ = some (.bool yi)) (go_keep) (fail)
        all_goals
          go_wp2_with fail
          go_meet
          first
            | exact ⟨_, _, rfl, rfl, ((Blk.new wo 38 [.int .i64 xn, .int .i64 xs, .int .i64 xo, .bool xi]).alloc _).drew, (Blk.new2 wo _ 38 [.int .i64 yn, .int .i64 ys, .int .i64 yo, .bool yi]).drew, by omega, bel_drew (bel_alloc (bel_alloc (Below.refl _ _) _) _)⟩
            | exact ⟨_, _, rfl, rfl, (Blk.new2 wo _ 38 [.int .i64 xn, .int .i64 xs, .int .i64 xo, .bool xi]).drew, ((Blk.new wo 38 [.int .i64 yn, .int .i64 ys, .int .i64 yo, .bool yi]).alloc _).drew, by omega, bel_drew (bel_alloc (bel_alloc (Below.refl _ _) _) _)⟩
      case rest =>
        obtain ⟨p, q, rfl, rfl, hp, hq, hqw, hb⟩ := hcut
        subst hwo
        have hs1 := hG1.st.lt; have hs2 := hG2.st.lt; have hs3 := hG1.ctlt; have hs4 := hG2.ctlt
        have hr1 := hG1.row_lt; have hr2 := hG2.row_lt
        have hG1 := hG1.below hb
        have hG2 := hG2.below hb
        have hB := bel_trans hB hb
        have hbs := hb.size
        have p0 := hp.at_ (i := 0) rfl; have p1 := hp.at_ (i := 1) rfl; have p2 := hp.at_ (i := 2) rfl; have p3 := hp.at_ (i := 3) rfl
        clear x0 x1 x2 x3 y0 y1 y2 y3 hx1 hx2 hw1 hw2
        go_wp2_with fail
        refine (add_any w0.heap.size g1 c1 4 c A l1 ⟨xn, xs, xo, xi⟩ _ hG1 hB.size hl1).mono ?_; rintro e w5 ⟨rfl, A', c', hA⟩
        have hq5 := hq.ch hA.ch (by
          simp only [List.mem_cons, not_or]
          exact ⟨by omega, by omega, fun hm => by have := (hr1 q hm).1; omega⟩)
        have hG25 := LogAt.other hG1 hG2 hgg hcc hdj hA.ch
        have hB5 := hA.bel (fun z hz => (hr1 z hz).2) (Nat.le_refl _) hB
        have hdj5 : ∀ z ∈ rowOf A', z ∉ rowOf B := fun z hz hz2 => by
          rcases hA.row z hz with h | h
          · exact hdj z h hz2
          · have := (hr2 z hz2).1; omega
        have hG15 := hA.log
        have hs5 := hA.ch.size
        have hr5 := hG25.row_lt
        have q0 := hq5.at_ (i := 0) rfl; have q1 := hq5.at_ (i := 1) rfl; have q2 := hq5.at_ (i := 2) rfl; have q3 := hq5.at_ (i := 3) rfl
        clear hA hp p0 p1 p2 p3 hq hG1 hG2 hB
        generalize addE ⟨xn, xs, xo, xi⟩ 4 = ae at *
        go_wp2_with fail
        refine (add_any w1.heap.size g2 c2 4 d B l2 ⟨yn, ys, yo, yi⟩ _ hG25 (by omega) hl2).mono ?_; rintro e w6 ⟨rfl, B', d', hA⟩
        have hG16 := LogAt.other hG25 hG15 (fun e => hgg e.symm) (fun e => hcc e.symm) (fun z hz hz2 => hdj5 z hz2 hz) hA.ch
        have hB6 := hA.bel (fun z hz => (hr5 z hz).2) hb01 hB5
        have hr15 := hG15.row_lt
        have hdj6 : ∀ z ∈ rowOf A', z ∉ rowOf B' := fun z hz hz2 => by
          rcases hA.row z hz2 with h | h
          · exact hdj5 z hz h
          · have := (hr15 z hz).1; omega
        have hG26 := hA.log
        have hs6 := hA.ch.size
        rw [← HE1.out] at hG16
        rw [← HE2.out] at hG26
        clear hA hG25 hG15 hB5 q0 q1 q2 q3 hq5
        generalize addE ⟨yn, ys, yo, yi⟩ 4 = be at *
        go_wp2
        go_roundw
        case rel => exact ⟨i + 1, A', B', c', d', by omega, by go_num, hG16, hG26, hdj6, hB6, by omega⟩
        case measure => simp [intOf]; omega
    · obtain rfl : i = n := by omega
      have e1 : ((List.range i).map E).take i = (List.range i).map E := List.take_of_length_le (by simp)
      have e2 : ((List.range i).map E).reverse.take i = ((List.range i).map E).reverse := List.take_of_length_le (by simp)
      rw [e1] at hG1
      rw [e2, flt_reverse] at hG2
      clear e1 e2 hdj
      generalize flt ((List.range i).map E) 4 = l at *
      go_wp2_with fail
      go_loopw [11] (fun vk wx => ∃ k : Nat, k ≤ 4 ∧ vk = .int .i64 k ∧ LogAt wx w0.heap.size g1 c1 4 A c l ∧ LogAt wx w1.heap.size g2 c2 4 B d l.reverse ∧ Below w0.heap.size w0 wx) (fun vk _ => 4 - (intOf vk).toNat)
      case atStart => exact ⟨0, by omega, rfl, hG1, hG2, hB⟩
      case round =>
        clear hG1 hG2 hB
        obtain ⟨k, hk, rfl, hG1, hG2, hB⟩ := hrel
        by_cases hk4 : k < 4
        · have hv := cntV_reverse l (k : Int)
          have HV := Lib.hid hv; clear hv
          go_wp2_with fail
          refine (node_yes w0.heap.size g1 c1 4 c A l k _ hG1 hk4).mono ?_; rintro e w5 ⟨rfl, hb⟩
          have hG1 := hG1.below hb
          have hG2 := hG2.below hb
          have hB := bel_trans hB hb
          clear hb
          unfold cntV at HV
          unfold cntV
          generalize cc l k 0 = n0 at *
          generalize cc l k 1 = n1 at *
          generalize cc l k 2 = n2 at *
          generalize cc l k 3 = n3 at *
          generalize cc l k 4 = n4 at *
          generalize cc l k 5 = n5 at *
          have q := Blk.new w5 24 [.int .i64 n0, .int .i64 n1, .int .i64 n2, .int .i64 n3, .int .i64 n4, .int .i64 n5]
          have hG1 := hG1.below (bel_alloc (Below.refl _ _) (.cells #[.int .i64 n0, .int .i64 n1, .int .i64 n2, .int .i64 n3, .int .i64 n4, .int .i64 n5] 24))
          have hG2 := hG2.below (bel_alloc (Below.refl _ _) (.cells #[.int .i64 n0, .int .i64 n1, .int .i64 n2, .int .i64 n3, .int .i64 n4, .int .i64 n5] 24))
          have hB := bel_alloc hB (.cells #[.int .i64 n0, .int .i64 n1, .int .i64 n2, .int .i64 n3, .int .i64 n4, .int .i64 n5] 24)
          go_wp2_with fail
          refine (node_yes w1.heap.size g2 c2 4 d B l.reverse k _ hG2 hk4).mono ?_; rintro e w6 ⟨rfl, hb⟩
          have hG1 := hG1.below hb
          have hG2 := hG2.below hb
          have hB := bel_trans hB hb
          have q := q.below hb
          unfold cntV
          rw [HV.out]
          have q0 := q.at_ (i := 0) rfl; have q1 := q.at_ (i := 1) rfl; have q2 := q.at_ (i := 2) rfl; have q3 := q.at_ (i := 3) rfl; have q4 := q.at_ (i := 4) rfl; have q5 := q.at_ (i := 5) rfl
          have hql := q.lt
          have hG1 := hG1.below (bel_alloc (Below.refl _ _) (.cells #[.int .i64 n0, .int .i64 n1, .int .i64 n2, .int .i64 n3, .int .i64 n4, .int .i64 n5] 24))
          have hG2 := hG2.below (bel_alloc (Below.refl _ _) (.cells #[.int .i64 n0, .int .i64 n1, .int .i64 n2, .int .i64 n3, .int .i64 n4, .int .i64 n5] 24))
          have hB := bel_alloc hB (.cells #[.int .i64 n0, .int .i64 n1, .int .i64 n2, .int .i64 n3, .int .i64 n4, .int .i64 n5] 24)
          clear hb q
          go_wp2
          go_roundw
          case rel => exact ⟨k + 1, by omega, by go_num, hG1, hG2, hB⟩
          case measure => simp [intOf]; omega
        · have hlr : (l.reverse.length : Nat) = l.length := List.length_reverse
          have HLR := Lib.hid hlr; clear hlr
          go_wp2_with fail
          refine (events_any w0.heap.size g1 c1 4 c A l _ hG1).mono ?_; rintro e w5 ⟨A1, c1', rfl, _, hb⟩
          have hG2 := hG2.below hb
          have hB := bel_trans hB hb
          go_wp2_with fail
          refine (events_any w1.heap.size g2 c2 4 d B l.reverse _ hG2).mono ?_; rintro e w6 ⟨A2, c2', rfl, _, hb⟩
          have hB := bel_trans hB hb
          rw [HLR.out]
          go_wp2_with fail
          go_ret
          exact ⟨rfl, hB⟩
end Go.Proofs.Ytinijpjbbbbhjaa
