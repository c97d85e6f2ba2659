/- The law CostMore. -/
import Derived.Test.YtpajbpgpbfmebaaCostRef2
import Derived.Test.YtpajbpgpbfmebaaCostOwn
import Derived.Deep.RegionHeld3
namespace Go.Proofs.Ytpajbpgpbfmebaa
open Go.RowKit
set_option linter.unusedVariables false
set_option linter.unusedSimpArgs false
attribute [local go_sem] World.cell?_alloc_lt

theorem InEs.drop {w : World} {b off n k : Nat} {l : List EvC} (h : InEs w (some ⟨b, off, none⟩) n l) (hk : k ≤ n) : InEs w (some ⟨b, off + k * 4, none⟩) (n - k) (l.drop k) :=
  ⟨by rw [List.length_drop, h.ln], fun hn => by
    obtain ⟨b2, off2, ha, hb, hc⟩ := h.at_ (by omega)
    injection ha with ha
    injection ha with ha1 ha2
    subst ha1 ha2
    refine ⟨b, off + k * 4, rfl, hb, fun j e hj => ?_⟩
    rw [List.getElem?_drop] at hj
    have := hc _ e hj
    rw [show off + (k + j) * 4 = off + k * 4 + j * 4 by omega] at this
    exact this⟩
theorem cut_e16d {w0 : World} {a : Option Addr} {n c k : Nat} {l : List EvC} (hE : InEs w0 a n l) (hk : k ≤ n) (hc : n ≤ c) (hc63 : n ≤ 60) : ∃ A', (∀ w, (Instr.sliceAt 64 (.slice a n c) (some (.int .i64 (k : Int))) none none).run Try.prog w = .ok (.slice A' (n - k) (c - k)) w) ∧ InEs w0 A' (n - k) (l.drop k) := by
  have h0 : (0 : Int) ≤ (k : Int) := by omega
  have h1 : (k : Int) ≤ (n : Int) := by omega
  have h2 : (n : Int) ≤ (c : Int) := by omega
  by_cases hnk : n = k
  · subst hnk
    have hz : ∀ A, InEs w0 A (n - n) (l.drop n) := fun A => ⟨by rw [List.length_drop, hE.ln], fun h => absurd h (by omega)⟩
    by_cases e : c = n
    · subst e
      refine ⟨a, fun w => ?_, hz a⟩
      cases a <;> simp [go_sem]
    · have h3 : ¬ (c = n) := e
      refine ⟨a.map (·.add (n * 4)), fun w => ?_, hz _⟩
      cases a <;> simp [go_sem, h0, h1, h2, hk, hc, h3, Addr.add]
  · obtain ⟨b, off, rfl, _, _⟩ := hE.at_ (by omega)
    refine ⟨some ⟨b, off + k * 4, none⟩, fun w => ?_, hE.drop hk⟩
    have h3 : ¬ (c = k) := by omega
    simp [go_sem, h0, h1, h2, hk, hc, h3, Addr.add]
theorem sum_ev (t : TopoV) (m : Nat) (h : chkT t = 0) (hN : t.N = (m : Int)) (A : Option Addr) (n c : Nat) (l : List EvC) (w : World) (hT : InTopo w t) (hE : InEs w A n l) (hn : n ≤ 60) (hall : l.all (evOk m) = true) : Calls Try.prog 27 #[t.val, .slice A n c] w fun e w' => e = .returned (.tuple #[.int .i64 (sumE (fun d => d) t.ds l n), .int .i64 0]) ∧ Below w.heap.size w w' := by
  rw [← fold_events (fun d => d) t.ds m l hall n]
  exact cost_sum t m h hN A n c l w hT hE (by omega) hall
theorem far_ev (t : TopoV) (m : Nat) (h : chkT t = 0) (hN : t.N = (m : Int)) (A : Option Addr) (n c : Nat) (l : List EvC) (lim : Int) (w : World) (hT : InTopo w t) (hE : InEs w A n l) (hn : n ≤ 60) (hall : l.all (evOk m) = true) : Calls Try.prog 28 #[t.val, .slice A n c, .int .i64 lim] w fun e w' => e = .returned (.tuple #[.int .i64 (sumE (farF lim) t.ds l n), .int .i64 0]) ∧ Below w.heap.size w w' := by
  rw [← fold_events (farF lim) t.ds m l hall n]
  exact cost_far t m h hN A n c l lim w hT hE (by omega) hall
theorem all_take2 {l : List EvC} {m : Nat} (k : Nat) (h : l.all (evOk m) = true) : (l.take k).all (evOk m) = true := List.all_eq_true.2 fun e he => List.all_eq_true.1 h e (List.mem_of_mem_take he)
theorem all_drop2 {l : List EvC} {m : Nat} (k : Nat) (h : l.all (evOk m) = true) : (l.drop k).all (evOk m) = true := List.all_eq_true.2 fun e he => List.all_eq_true.1 h e (List.mem_of_mem_drop he)
theorem bel_keep {w a b : World} {p : Addr} {v : Value} (h : Below w.heap.size w b) (hp : p.block < w.heap.size) (hc : w.cell? p = some v) : b.cell? p = some v := (h.cell hp).trans hc
theorem keep4 {a b : World} {g : Nat} {v0 v1 v2 v3 : Value} (h : Below a.heap.size a b) (hg : g < a.heap.size) (c0 : a.cell? ⟨g, 0, none⟩ = some v0) (c1 : a.cell? ⟨g, 1, none⟩ = some v1) (c2 : a.cell? ⟨g, 2, none⟩ = some v2) (c3 : a.cell? ⟨g, 3, none⟩ = some v3) : b.cell? ⟨g, 0, none⟩ = some v0 ∧ b.cell? ⟨g, 1, none⟩ = some v1 ∧ b.cell? ⟨g, 2, none⟩ = some v2 ∧ b.cell? ⟨g, 3, none⟩ = some v3 :=
  ⟨(h.cell (p := ⟨g, 0, none⟩) hg).trans c0, (h.cell (p := ⟨g, 1, none⟩) hg).trans c1, (h.cell (p := ⟨g, 2, none⟩) hg).trans c2, (h.cell (p := ⟨g, 3, none⟩) hg).trans c3⟩
theorem keep4' {a b : World} {g : Nat} {v0 v1 v2 v3 : Value} (h : Below a.heap.size a b) (hg : g < a.heap.size) (c : a.cell? ⟨g, 0, none⟩ = some v0 ∧ a.cell? ⟨g, 1, none⟩ = some v1 ∧ a.cell? ⟨g, 2, none⟩ = some v2 ∧ a.cell? ⟨g, 3, none⟩ = some v3) : b.cell? ⟨g, 0, none⟩ = some v0 ∧ b.cell? ⟨g, 1, none⟩ = some v1 ∧ b.cell? ⟨g, 2, none⟩ = some v2 ∧ b.cell? ⟨g, 3, none⟩ = some v3 :=
  keep4 h hg c.1 c.2.1 c.2.2.1 c.2.2.2
set_option maxRecDepth 100000 in
set_option maxHeartbeats 8000000 in
theorem costMore_walk (w0 : World) (t : TopoV) (hT : InTopo w0 t) (hk1 : t.cs.length ≤ t.cc) (hk2 : t.ds.length ≤ t.dc) (a : Option Addr) (len cap : Nat) (l0 : List EvC) (hE0 : InEs w0 a len l0) (hlc : len ≤ cap) (hl63 : len ≤ 9223372036854775807) (at_ : Int) (_wa : (Lit.int .i64 at_).wf = true) : Calls Try.prog 9 #[t.val, .slice a len cap, .int .i64 at_] w0 fun e w' => e = .returned (.bool true) ∧ Below w0.heap.size w0 w' := by
  have hba : Below w0.heap.size w0 (w0.alloc (.cells #[.int .i64 t.N, .int .i64 t.F, .slice t.ca t.cs.length t.cc, .slice t.da t.ds.length t.dc] 42)) := bel_alloc (Below.refl _ _) _
  have htm := tame_any t (w0.alloc (.cells #[.int .i64 t.N, .int .i64 t.F, .slice t.ca t.cs.length t.cc, .slice t.da t.ds.length t.dc] 42)) hk1 hk2 hT.c63 hT.d63
  have hTT := tame_in hT
  obtain ⟨n, hnl, hn40, hmin⟩ : ∃ n : Nat, n ≤ len ∧ n ≤ 40 ∧ (if (40 : Int) < (len : Int) then (40 : Int) else (len : Int)) = (n : Int) := by
    by_cases h : (40 : Int) < (len : Int)
    · exact ⟨40, by omega, by omega, by rw [if_pos h]; rfl⟩
    · exact ⟨len, by omega, by omega, by rw [if_neg h]⟩
  have hl0 := hE0.take hnl
  generalize l0.take n = l at hl0
  have hcut := fun w => cut_e16 a len cap n (n : Int) rfl (by omega) w
  have hblk := Blk.new w0 42 [.int .i64 t.N, .int .i64 t.F, .slice t.ca t.cs.length t.cc, .slice t.da t.ds.length t.dc]
  have HTM := Lib.hid htm; have HTT := Lib.hid hTT; have HBA := Lib.hid hba; have HB := Lib.hid hblk; have HL0 := Lib.hid hl0
  clear htm hTT hba hT hblk hk1 hk2 hl0 hE0
  generalize tameV t = T at *
  unfold TopoV.val at *
  go_enter Try.func9, Try.ntmps9
  go_wp2_with fail
  refine HTM.out.mono ?_; rintro e w1 ⟨rfl, hB1⟩
  have hb1 := HB.out.below hB1
  have q0 := hb1.at_ (i := 0) rfl
  have q1 := hb1.at_ (i := 1) rfl
  have q2 := hb1.at_ (i := 2) rfl
  have q3 := hb1.at_ (i := 3) rfl
  have f0 := hb1.frozen 0; have f1 := hb1.frozen 1; have f2 := hb1.frozen 2; have f3 := hb1.frozen 3
  go_upto_region 2 with fail
  have hb2 : Blk _ w0.heap.size 42 [.int .i64 T.N, .int .i64 T.F, .slice T.ca T.cs.length T.cc, .slice T.da T.ds.length T.dc] := (((hb1.set_ 0 (.int .i64 T.N)).set_ 1 (.int .i64 T.F)).set_ 2 (.slice T.ca T.cs.length T.cc)).set_ 3 (.slice T.da T.ds.length T.dc)
  have hB2 : Below w0.heap.size w0 ((((w1.setCell ⟨w0.heap.size, 0, none⟩ (.int .i64 T.N)).setCell ⟨w0.heap.size, 1, none⟩ (.int .i64 T.F)).setCell ⟨w0.heap.size, 2, none⟩ (.slice T.ca T.cs.length T.cc)).setCell ⟨w0.heap.size, 3, none⟩ (.slice T.da T.ds.length T.dc)) :=
    bel_set (bel_set (bel_set (bel_set (bel_trans HBA.out hB1) (by simp) _) (by simp) _) (by simp) _) (by simp) _
  clear q0 q1 q2 q3 f0 f1 f2 f3 hb1 hB1
  generalize (((w1.setCell ⟨w0.heap.size, 0, none⟩ (.int .i64 T.N)).setCell ⟨w0.heap.size, 1, none⟩ (.int .i64 T.F)).setCell ⟨w0.heap.size, 2, none⟩ (.slice T.ca T.cs.length T.cc)).setCell ⟨w0.heap.size, 3, none⟩ (.slice T.da T.ds.length T.dc) = w2 at *
  have hTw := HTT.out.below hB2
  have HT2 := Lib.hid hTw; have HB2 := Lib.hid hb2; have HBB := Lib.hid hB2; have HL2 := Lib.hid (HL0.out.below hB2)
  clear hTw hb2 hB2 HTM HTT HBA HB
  go_wp2_with fail
  refine (costs_any _).mono ?_; rintro e w3 ⟨rfl, hB3⟩
  have hb3 := HB2.out.below hB3
  have q0 := hb3.at_ (i := 0) rfl
  have q1 := hb3.at_ (i := 1) rfl
  have q2 := hb3.at_ (i := 2) rfl
  have q3 := hb3.at_ (i := 3) rfl
  have hT3 := HT2.out.below hB3
  have hBB3 := bel_trans HBB.out hB3
  have HT3 := Lib.hid hT3; have HB3 := Lib.hid hb3; have HBB3 := Lib.hid hBB3; have HL3 := Lib.hid (HL2.out.below hB3)
  clear hb3 hT3 hBB3 HT2 HB2 HBB hB3

  by_cases hch : chkT T = 0
  · obtain ⟨m, hN, hm1, hm8, hmat⟩ := chk_zero hch
    have hrc := rc_any T m hch hN a n cap l w3 HT3.out HL3.out (by omega)
    cases hall : l.all (evOk m) with
    | false =>
      rw [hall] at hrc
      have HRC := Lib.hid hrc
      clear hrc hN hmat hall hch
      go_wp2_with fail
      refine HRC.out.mono ?_; rintro e w4 ⟨rfl, hB4⟩
      have hBB4 := bel_trans HBB3.out hB4
      clear q0 q1 q2 q3 HRC
      go_wp2_with fail
      refine (costs_any _).mono ?_; rintro e w5 ⟨rfl, hB5⟩
      go_wp2_with fail
      go_ret
      exact ⟨rfl, bel_trans hBB4 hB5⟩
    | true =>
      rw [hall] at hrc
      obtain ⟨hr1, hr2⟩ := umod_bd at_ ((n : Int) + 1) (by omega) (by omega)
      have hbds := (mat_bds hmat).2.2
      have HRC := Lib.hid hrc; have HCH := Lib.hid hch; have HN := Lib.hid hN; have HALL := Lib.hid hall; have HBD := Lib.hid hbds
      clear hrc hN hmat hall hch hbds
      go_wp2_with fail
      refine HRC.out.mono ?_; rintro e w4 ⟨rfl, hB4⟩
      have hb4 := HB3.out.below hB4
      have hT4 := HT3.out.below hB4
      have hL4 := HL3.out.below hB4
      have hBB4 := bel_trans HBB3.out hB4
      clear q0 q1 q2 q3 HRC
      have HT4 := Lib.hid hT4; have HB4 := Lib.hid hb4; have HBB4 := Lib.hid hBB4; have HL4 := Lib.hid hL4
      clear hb4 hT4 hBB4 HT3 HB3 HBB3 hB4 HL3 hL4
      have hum : IntKind.u64.wrap ((n : Int) + 1) = (n : Int) + 1 := by
        simp only [IntKind.wrap]
        simp [IntKind.signed, IntKind.bits]
        omega
      have hne : ((n : Int) + 1 == 0) = false := by rw [beq_eq_false_iff_ne]; omega
      have hne2 : (n : Int) + 1 ≠ 0 := by omega
      go_upto_region 6 with fail
      generalize wrap64 ((IntKind.u64.wrap at_).tmod ((n : Int) + 1)) = kk at *
      obtain ⟨k, rfl⟩ := Int.eq_ofNat_of_zero_le hr1
      have hkn : k ≤ n := by omega
      clear hum hne hne2 hr1 hr2
      have hd1 := sumE_drop (fun d => d) T.ds l k (n - k)
      have hd2 := sumE_drop (farF 20) T.ds l k (n - k)
      rw [show k + (n - k) = n by omega] at hd1 hd2
      have hlen := HL4.out.ln
      have hs1 := sumE_mono (D := T.ds) HALL.out HBD.out n (by omega)
      have hs2 := sumE_bd (f := farF 20) (D := T.ds) (lo := 0) (hi := 255) HALL.out (fun a b _ _ => farF_bd 20 _) n (by omega)
      have hs3 := sumE_mono (D := T.ds) HALL.out HBD.out k (by omega)
      have hs4 := sumE_bd (f := farF 20) (D := T.ds) (lo := 0) (hi := 255) HALL.out (fun a b _ _ => farF_bd 20 _) k (by omega)
      have hfn1 := fun (A : Option Addr) (c : Nat) (w : World) (hT : InTopo w T) (hE : InEs w A n l) => sum_ev T m HCH.out HN.out A n c l w hT hE (by omega) HALL.out
      have hfn2 := fun (A : Option Addr) (c : Nat) (w : World) (hT : InTopo w T) (hE : InEs w A k (l.take k)) => sum_ev T m HCH.out HN.out A k c (l.take k) w hT hE (by omega) (all_take2 k HALL.out)
      have hfn3 := fun (A : Option Addr) (c : Nat) (w : World) (hT : InTopo w T) (hE : InEs w A (n - k) (l.drop k)) => sum_ev T m HCH.out HN.out A (n - k) c (l.drop k) w hT hE (by omega) (all_drop2 k HALL.out)
      have hff1 := fun (A : Option Addr) (c : Nat) (w : World) (hT : InTopo w T) (hE : InEs w A n l) => far_ev T m HCH.out HN.out A n c l 20 w hT hE (by omega) HALL.out
      have hff2 := fun (A : Option Addr) (c : Nat) (w : World) (hT : InTopo w T) (hE : InEs w A k (l.take k)) => far_ev T m HCH.out HN.out A k c (l.take k) 20 w hT hE (by omega) (all_take2 k HALL.out)
      have hff3 := fun (A : Option Addr) (c : Nat) (w : World) (hT : InTopo w T) (hE : InEs w A (n - k) (l.drop k)) => far_ev T m HCH.out HN.out A (n - k) c (l.drop k) 20 w hT hE (by omega) (all_drop2 k HALL.out)
      rw [sumE_take _ _ _ _ k (Nat.le_refl _)] at hfn2 hff2
      obtain ⟨AD, hcd, hED⟩ := cut_e16d HL4.out hkn (show n ≤ cap by omega) (by omega)
      have hcu := fun w => cut_e16 a n cap k (k : Int) rfl (by omega) w
      have hF1 := Lib.hid hfn1; have hF2 := Lib.hid hfn2; have hF3 := Lib.hid hfn3; have hG1 := Lib.hid hff1; have hG2 := Lib.hid hff2; have hG3 := Lib.hid hff3
      have HD1 := Lib.hid hd1; have HD2 := Lib.hid hd2; have HED := Lib.hid hED
      have HT0 := Lib.hid (HL4.out.take hkn)
      clear hfn1 hfn2 hfn3 hff1 hff2 hff3 hd1 hd2 hlen hED
      generalize sumE (fun d => d) T.ds l n = sA at *
      generalize sumE (fun d => d) T.ds l k = sB at *
      generalize sumE (fun d => d) T.ds (l.drop k) (n - k) = sC at *
      generalize sumE (farF 20) T.ds l n = gA at *
      generalize sumE (farF 20) T.ds l k = gB at *
      generalize sumE (farF 20) T.ds (l.drop k) (n - k) = gC at *
      have hbS : wrap64 (sB + sC) = sB + sC := by have := HD1.out; exact wrap64_small (by omega) (by omega)
      have hbG : wrap64 (gB + gC) = gB + gC := by have := HD2.out; exact wrap64_small (by omega) (by omega)
      have heS : (sA == sB + sC) = true := by rw [HD1.out]; exact beq_self_eq_true _
      have heG : (gA == gB + gC) = true := by rw [HD2.out]; exact beq_self_eq_true _
      have HX := Lib.hid (And.intro (And.intro hbS hbG) (And.intro heS heG))
      clear hbS hbG heS heG
      have hbl := HB4.out.lt
      have HCD := Lib.hid hcd; have HCU := Lib.hid hcu
      clear hcd hcu
      have hBc := Below.refl w4.heap.size w4

      have q0 := (HB4.out.below hBc).at_ (i := 0) rfl
      have q1 := (HB4.out.below hBc).at_ (i := 1) rfl
      have q2 := (HB4.out.below hBc).at_ (i := 2) rfl
      have q3 := (HB4.out.below hBc).at_ (i := 3) rfl
      go_wp2_with fail
      refine (to_any T _).mono ?_; rintro e wt6 ⟨rfl, hBt6⟩
      clear q0 q1 q2 q3
      have hB1_6 := bel_trans hBc hBt6
      clear hBt6
      go_wp2_with fail
      refine (events_any _ _ _ _ _ (HL4.out.below hB1_6) (by omega)).mono ?_; rintro e we6 ⟨⟨A6, c6, rfl, hE6⟩, hBe6⟩
      have hB2_6 := bel_trans hB1_6 hBe6
      have hT6 := HT4.out.below hB2_6
      clear hBe6 hB1_6
      go_wp2_with fail
      refine (hF1.out _ _ _ hT6 hE6).mono ?_; rintro e wf6 ⟨rfl, hBf6⟩
      replace hBc := bel_trans hB2_6 hBf6
      clear hBf6 hB2_6 hT6 hE6

      have q0 := (HB4.out.below hBc).at_ (i := 0) rfl
      have q1 := (HB4.out.below hBc).at_ (i := 1) rfl
      have q2 := (HB4.out.below hBc).at_ (i := 2) rfl
      have q3 := (HB4.out.below hBc).at_ (i := 3) rfl
      have hxc := HCU.out
      have hblc := (HB4.out.below hBc).lt
      have HTc := Lib.hid (HT4.out.below hBc); have HEc := Lib.hid (HT0.out.below hBc)
      go_upto_region 7 with fail
      obtain ⟨wd, hwd⟩ : ∃ wd : World, wd = wf6 := ⟨_, rfl⟩
      subst hwd
      go_cut [10, 11] (fun v1 v2 wx => v1 = .int .i64 sB ∧ v2 = .int .i64 0 ∧ Below wd.heap.size wd wx)
      case first =>
        go_region_held3 (fun w' => w'.cell? ⟨w0.heap.size, 0, none⟩ = some (.int .i64 T.N) ∧ w'.cell? ⟨w0.heap.size, 1, none⟩ = some (.int .i64 T.F) ∧ w'.cell? ⟨w0.heap.size, 2, none⟩ = some (.slice T.ca T.cs.length T.cc) ∧ w'.cell? ⟨w0.heap.size, 3, none⟩ = some (.slice T.da T.ds.length T.dc))
          (first | go_keep | exact keep4 hBy hby (by assumption) (by assumption) (by assumption) (by assumption) | exact keep4' hBy hby (by assumption) | exact keep4 hBx hbx (by assumption) (by assumption) (by assumption) (by assumption) | exact keep4' hBx hbx (by assumption))
          (first
            | (go_at_call 27; refine (hF2.out _ _ _ hT2 hE2).mono ?_; rintro e ws ⟨rfl, hBs⟩; have hBz := bel_trans hB2 hBs; have hBy := hBs; have hby := hb2)
            | (go_at_call 20; refine (to_any T _).mono ?_; rintro e wt ⟨rfl, hBy⟩; have hT2 := hT1.below hBy; have hE2 := hE1.below hBy; have hB2 := bel_trans hB1 hBy; have hby := hb1; have hb2 := Nat.lt_of_lt_of_le hb1 hBy.size)
            | (go_at_call 30; refine (events_any _ _ _ _ _ hEi (by omega)).mono ?_; rintro e we ⟨⟨Ax, cx, rfl, hE2⟩, hBy⟩; have hT2 := hT1.below hBy; have hB2 := bel_trans hB1 hBy; have hby := hb1; have hb2 := Nat.lt_of_lt_of_le hb1 hBy.size)
            | (go_at_call 20; refine (to_any T _).mono ?_; rintro e wt ⟨rfl, hBx⟩; have hbx := hblc; have hB1 : Below wd.heap.size wd wt := (by first | exact hBx | exact bel_trans (bel_drew (Below.refl _ _)) hBx); have hT1 := HTc.out.below hB1; have hEi := HEc.out.below hB1; have hb1 := Nat.lt_of_lt_of_le hblc hB1.size)
            | (go_at_call 30; refine (events_any _ _ _ _ _ (by first | exact HEc.out | exact HEc.out.below (bel_drew (Below.refl _ _))) (by omega)).mono ?_; rintro e we ⟨⟨Ax, cx, rfl, hE1⟩, hBx⟩; have hbx := hblc; have hB1 : Below wd.heap.size wd we := (by first | exact hBx | exact bel_trans (bel_drew (Below.refl _ _)) hBx); have hT1 := HTc.out.below hB1; have hb1 := Nat.lt_of_lt_of_le hblc hB1.size))
        all_goals
          go_wp2_with fail
          go_meet
          exact ⟨rfl, rfl, by first | exact hBz | exact bel_drew hBz⟩
      case rest =>
        obtain ⟨rfl, rfl, hBn⟩ := hcut
        replace hBc := bel_trans hBc hBn
        clear hBn q0 q1 q2 q3 hxc hblc HTc HEc

        have q0 := (HB4.out.below hBc).at_ (i := 0) rfl
        have q1 := (HB4.out.below hBc).at_ (i := 1) rfl
        have q2 := (HB4.out.below hBc).at_ (i := 2) rfl
        have q3 := (HB4.out.below hBc).at_ (i := 3) rfl
        have hxc := HCD.out
        have hblc := (HB4.out.below hBc).lt
        have HTc := Lib.hid (HT4.out.below hBc); have HEc := Lib.hid (HED.out.below hBc)
        go_upto_region 8 with fail
        obtain ⟨wd, hwd⟩ : ∃ wd : World, wd = wc := ⟨_, rfl⟩
        subst hwd
        go_cut [12, 13] (fun v1 v2 wx => v1 = .int .i64 sC ∧ v2 = .int .i64 0 ∧ Below wd.heap.size wd wx)
        case first =>
          go_region_held3 (fun w' => w'.cell? ⟨w0.heap.size, 0, none⟩ = some (.int .i64 T.N) ∧ w'.cell? ⟨w0.heap.size, 1, none⟩ = some (.int .i64 T.F) ∧ w'.cell? ⟨w0.heap.size, 2, none⟩ = some (.slice T.ca T.cs.length T.cc) ∧ w'.cell? ⟨w0.heap.size, 3, none⟩ = some (.slice T.da T.ds.length T.dc))
            (first | go_keep | exact keep4 hBy hby (by assumption) (by assumption) (by assumption) (by assumption) | exact keep4' hBy hby (by assumption) | exact keep4 hBx hbx (by assumption) (by assumption) (by assumption) (by assumption) | exact keep4' hBx hbx (by assumption))
            (first
              | (go_at_call 27; refine (hF3.out _ _ _ hT2 hE2).mono ?_; rintro e ws ⟨rfl, hBs⟩; have hBz := bel_trans hB2 hBs; have hBy := hBs; have hby := hb2)
              | (go_at_call 20; refine (to_any T _).mono ?_; rintro e wt ⟨rfl, hBy⟩; have hT2 := hT1.below hBy; have hE2 := hE1.below hBy; have hB2 := bel_trans hB1 hBy; have hby := hb1; have hb2 := Nat.lt_of_lt_of_le hb1 hBy.size)
              | (go_at_call 30; refine (events_any _ _ _ _ _ hEi (by omega)).mono ?_; rintro e we ⟨⟨Ax, cx, rfl, hE2⟩, hBy⟩; have hT2 := hT1.below hBy; have hB2 := bel_trans hB1 hBy; have hby := hb1; have hb2 := Nat.lt_of_lt_of_le hb1 hBy.size)
              | (go_at_call 20; refine (to_any T _).mono ?_; rintro e wt ⟨rfl, hBx⟩; have hbx := hblc; have hB1 : Below wd.heap.size wd wt := (by first | exact hBx | exact bel_trans (bel_drew (Below.refl _ _)) hBx); have hT1 := HTc.out.below hB1; have hEi := HEc.out.below hB1; have hb1 := Nat.lt_of_lt_of_le hblc hB1.size)
              | (go_at_call 30; refine (events_any _ _ _ _ _ (by first | exact HEc.out | exact HEc.out.below (bel_drew (Below.refl _ _))) (by omega)).mono ?_; rintro e we ⟨⟨Ax, cx, rfl, hE1⟩, hBx⟩; have hbx := hblc; have hB1 : Below wd.heap.size wd we := (by first | exact hBx | exact bel_trans (bel_drew (Below.refl _ _)) hBx); have hT1 := HTc.out.below hB1; have hb1 := Nat.lt_of_lt_of_le hblc hB1.size))
          all_goals
            go_wp2_with fail
            go_meet
            exact ⟨rfl, rfl, by first | exact hBz | exact bel_drew hBz⟩
        case rest =>
          obtain ⟨rfl, rfl, hBn⟩ := hcut
          replace hBc := bel_trans hBc hBn
          clear hBn q0 q1 q2 q3 hxc hblc HTc HEc

          have q0 := (HB4.out.below hBc).at_ (i := 0) rfl
          have q1 := (HB4.out.below hBc).at_ (i := 1) rfl
          have q2 := (HB4.out.below hBc).at_ (i := 2) rfl
          have q3 := (HB4.out.below hBc).at_ (i := 3) rfl
          go_wp2_with fail
          refine (to_any T _).mono ?_; rintro e wt9 ⟨rfl, hBt9⟩
          clear q0 q1 q2 q3
          have hB1_9 := bel_trans hBc hBt9
          clear hBt9
          go_wp2_with fail
          refine (events_any _ _ _ _ _ (HL4.out.below hB1_9) (by omega)).mono ?_; rintro e we9 ⟨⟨A9, c9, rfl, hE9⟩, hBe9⟩
          have hB2_9 := bel_trans hB1_9 hBe9
          have hT9 := HT4.out.below hB2_9
          clear hBe9 hB1_9
          go_wp2_with fail
          refine (hG1.out _ _ _ hT9 hE9).mono ?_; rintro e wf9 ⟨rfl, hBf9⟩
          replace hBc := bel_trans hB2_9 hBf9
          clear hBf9 hB2_9 hT9 hE9

          have q0 := (HB4.out.below hBc).at_ (i := 0) rfl
          have q1 := (HB4.out.below hBc).at_ (i := 1) rfl
          have q2 := (HB4.out.below hBc).at_ (i := 2) rfl
          have q3 := (HB4.out.below hBc).at_ (i := 3) rfl
          have hxc := HCU.out
          have hblc := (HB4.out.below hBc).lt
          have HTc := Lib.hid (HT4.out.below hBc); have HEc := Lib.hid (HT0.out.below hBc)
          go_upto_region 10 with fail
          obtain ⟨wd, hwd⟩ : ∃ wd : World, wd = wf9 := ⟨_, rfl⟩
          subst hwd
          go_cut [16, 17] (fun v1 v2 wx => v1 = .int .i64 gB ∧ v2 = .int .i64 0 ∧ Below wd.heap.size wd wx)
          case first =>
            go_region_held3 (fun w' => w'.cell? ⟨w0.heap.size, 0, none⟩ = some (.int .i64 T.N) ∧ w'.cell? ⟨w0.heap.size, 1, none⟩ = some (.int .i64 T.F) ∧ w'.cell? ⟨w0.heap.size, 2, none⟩ = some (.slice T.ca T.cs.length T.cc) ∧ w'.cell? ⟨w0.heap.size, 3, none⟩ = some (.slice T.da T.ds.length T.dc))
              (first | go_keep | exact keep4 hBy hby (by assumption) (by assumption) (by assumption) (by assumption) | exact keep4' hBy hby (by assumption) | exact keep4 hBx hbx (by assumption) (by assumption) (by assumption) (by assumption) | exact keep4' hBx hbx (by assumption))
              (first
                | (go_at_call 28; refine (hG2.out _ _ _ hT2 hE2).mono ?_; rintro e ws ⟨rfl, hBs⟩; have hBz := bel_trans hB2 hBs; have hBy := hBs; have hby := hb2)
                | (go_at_call 20; refine (to_any T _).mono ?_; rintro e wt ⟨rfl, hBy⟩; have hT2 := hT1.below hBy; have hE2 := hE1.below hBy; have hB2 := bel_trans hB1 hBy; have hby := hb1; have hb2 := Nat.lt_of_lt_of_le hb1 hBy.size)
                | (go_at_call 30; refine (events_any _ _ _ _ _ hEi (by omega)).mono ?_; rintro e we ⟨⟨Ax, cx, rfl, hE2⟩, hBy⟩; have hT2 := hT1.below hBy; have hB2 := bel_trans hB1 hBy; have hby := hb1; have hb2 := Nat.lt_of_lt_of_le hb1 hBy.size)
                | (go_at_call 20; refine (to_any T _).mono ?_; rintro e wt ⟨rfl, hBx⟩; have hbx := hblc; have hB1 : Below wd.heap.size wd wt := (by first | exact hBx | exact bel_trans (bel_drew (Below.refl _ _)) hBx); have hT1 := HTc.out.below hB1; have hEi := HEc.out.below hB1; have hb1 := Nat.lt_of_lt_of_le hblc hB1.size)
                | (go_at_call 30; refine (events_any _ _ _ _ _ (by first | exact HEc.out | exact HEc.out.below (bel_drew (Below.refl _ _))) (by omega)).mono ?_; rintro e we ⟨⟨Ax, cx, rfl, hE1⟩, hBx⟩; have hbx := hblc; have hB1 : Below wd.heap.size wd we := (by first | exact hBx | exact bel_trans (bel_drew (Below.refl _ _)) hBx); have hT1 := HTc.out.below hB1; have hb1 := Nat.lt_of_lt_of_le hblc hB1.size))
            all_goals
              go_wp2_with fail
              go_meet
              exact ⟨rfl, rfl, by first | exact hBz | exact bel_drew hBz⟩
          case rest =>
            obtain ⟨rfl, rfl, hBn⟩ := hcut
            replace hBc := bel_trans hBc hBn
            clear hBn q0 q1 q2 q3 hxc hblc HTc HEc

            have q0 := (HB4.out.below hBc).at_ (i := 0) rfl
            have q1 := (HB4.out.below hBc).at_ (i := 1) rfl
            have q2 := (HB4.out.below hBc).at_ (i := 2) rfl
            have q3 := (HB4.out.below hBc).at_ (i := 3) rfl
            have hxc := HCD.out
            have hblc := (HB4.out.below hBc).lt
            have HTc := Lib.hid (HT4.out.below hBc); have HEc := Lib.hid (HED.out.below hBc)
            go_upto_region 11 with fail
            obtain ⟨wd, hwd⟩ : ∃ wd : World, wd = wc := ⟨_, rfl⟩
            subst hwd
            go_cut [18, 19] (fun v1 v2 wx => v1 = .int .i64 gC ∧ v2 = .int .i64 0 ∧ Below wd.heap.size wd wx)
            case first =>
              go_region_held3 (fun w' => w'.cell? ⟨w0.heap.size, 0, none⟩ = some (.int .i64 T.N) ∧ w'.cell? ⟨w0.heap.size, 1, none⟩ = some (.int .i64 T.F) ∧ w'.cell? ⟨w0.heap.size, 2, none⟩ = some (.slice T.ca T.cs.length T.cc) ∧ w'.cell? ⟨w0.heap.size, 3, none⟩ = some (.slice T.da T.ds.length T.dc))
                (first | go_keep | exact keep4 hBy hby (by assumption) (by assumption) (by assumption) (by assumption) | exact keep4' hBy hby (by assumption) | exact keep4 hBx hbx (by assumption) (by assumption) (by assumption) (by assumption) | exact keep4' hBx hbx (by assumption))
                (first
                  | (go_at_call 28; refine (hG3.out _ _ _ hT2 hE2).mono ?_; rintro e ws ⟨rfl, hBs⟩; have hBz := bel_trans hB2 hBs; have hBy := hBs; have hby := hb2)
                  | (go_at_call 20; refine (to_any T _).mono ?_; rintro e wt ⟨rfl, hBy⟩; have hT2 := hT1.below hBy; have hE2 := hE1.below hBy; have hB2 := bel_trans hB1 hBy; have hby := hb1; have hb2 := Nat.lt_of_lt_of_le hb1 hBy.size)
                  | (go_at_call 30; refine (events_any _ _ _ _ _ hEi (by omega)).mono ?_; rintro e we ⟨⟨Ax, cx, rfl, hE2⟩, hBy⟩; have hT2 := hT1.below hBy; have hB2 := bel_trans hB1 hBy; have hby := hb1; have hb2 := Nat.lt_of_lt_of_le hb1 hBy.size)
                  | (go_at_call 20; refine (to_any T _).mono ?_; rintro e wt ⟨rfl, hBx⟩; have hbx := hblc; have hB1 : Below wd.heap.size wd wt := (by first | exact hBx | exact bel_trans (bel_drew (Below.refl _ _)) hBx); have hT1 := HTc.out.below hB1; have hEi := HEc.out.below hB1; have hb1 := Nat.lt_of_lt_of_le hblc hB1.size)
                  | (go_at_call 30; refine (events_any _ _ _ _ _ (by first | exact HEc.out | exact HEc.out.below (bel_drew (Below.refl _ _))) (by omega)).mono ?_; rintro e we ⟨⟨Ax, cx, rfl, hE1⟩, hBx⟩; have hbx := hblc; have hB1 : Below wd.heap.size wd we := (by first | exact hBx | exact bel_trans (bel_drew (Below.refl _ _)) hBx); have hT1 := HTc.out.below hB1; have hb1 := Nat.lt_of_lt_of_le hblc hB1.size))
              all_goals
                go_wp2_with fail
                go_meet
                exact ⟨rfl, rfl, by first | exact hBz | exact bel_drew hBz⟩
            case rest =>
              obtain ⟨rfl, rfl, hBn⟩ := hcut
              replace hBc := bel_trans hBc hBn
              clear hBn q0 q1 q2 q3 hxc hblc HTc HEc

              obtain ⟨⟨hbS, hbG⟩, heS, heG⟩ := HX.out
              have HBc := Lib.hid hBc
              clear hBc
              go_wp2_with fail
              go_ret
              exact ⟨rfl, bel_trans HBB4.out HBc.out⟩
  · have hrc := rc_no T a n cap w3 HT3.out hch
    have e3 : (chkT T != 0) = true := by rw [bne_iff_ne]; exact hch
    have HRC := Lib.hid hrc
    clear hch hrc
    generalize chkT T = E at *
    go_wp2_with fail
    refine HRC.out.mono ?_; rintro e w4 ⟨rfl, hB4⟩
    have hBB4 := bel_trans HBB3.out hB4
    clear q0 q1 q2 q3
    go_wp2_with fail
    refine (costs_any _).mono ?_; rintro e w5 ⟨rfl, hB5⟩
    go_wp2_with fail
    go_ret
    exact ⟨rfl, bel_trans hBB4 hB5⟩
end Go.Proofs.Ytpajbpgpbfmebaa
