/- The law NodesetLists. -/
import Derived.Test.YtcanhegjhbhkhaaDoorRefText
namespace Go.Proofs.YtcanhegjhbhkhaaDoor
open Go.RowKit Go.Shelf
set_option linter.unusedVariables false
set_option linter.unusedSimpArgs false
attribute [local go_sem] World.cell?_alloc_lt

def nodesI (s : Nat) : List Int := (nodesN s).map Int.ofNat
theorem nodesI_len (s : Nat) : (nodesI s).length = (nodesN s).length := by simp [nodesI]
theorem nodes_row (s : Nat) : (nodesN s).map ofN = (nodesI s).map (Value.int .i64) := by
  unfold nodesI
  rw [List.map_map]
  rfl
theorem setK_nodes : ∀ s : Nat, s < 256 → setK (nodesI s) (nodesN s).length = some s := by decide +kernel
theorem parse_text : ∀ s : Nat, s < 256 → parseO (textB s) = some s := by decide +kernel
theorem text_size : ∀ s : Nat, s < 256 → (textB s).size ≤ 60 ∧ 1 ≤ (textB s).size := by decide +kernel
theorem oc_len : ∀ s : Nat, s < 256 → (ocN s : Int) = ((nodesN s).length : Int) := by decide +kernel
theorem next_none (n : Int) (w : World) : Calls Tryd.prog 12 #[.int .u8 0, .int .i64 n] w fun e w' => e = .returned (.tuple #[.int .i64 0, .bool false]) ∧ Below w.heap.size w w' := by
  have hL := list_at 0 (by omega) w
  rw [show nodesN 0 = [] from by decide] at hL
  have HL := Lib.hid hL
  clear hL
  go_enter Tryd.func12, Tryd.ntmps12
  go_wp2_with fail
  refine HL.out.mono ?_; rintro e w1 ⟨A, c, rfl, hown, hB⟩
  have HB := Lib.hid hB
  clear hown hB
  go_wp2_with fail
  go_loopw [13] (fun vi wx => vi = .int .i64 0 ∧ wx = w1) (fun _ _ => 0)
  case atStart => exact ⟨rfl, rfl⟩
  case round =>
    obtain ⟨rfl, rfl⟩ := hrel
    go_wp2_with fail
    go_ret2
    exact ⟨rfl, HB.out⟩
theorem rnext_none (n : Int) (w : World) : Calls Tryd.prog 13 #[.int .u8 0, .int .i64 n] w fun e w' => e = .returned (.tuple #[.int .i64 0, .bool false]) ∧ Below w.heap.size w w' := by
  have hL := rlist_at 0 (by omega) w
  rw [show nodesN 0 = [] from by decide] at hL
  have HL := Lib.hid hL
  clear hL
  go_enter Tryd.func13, Tryd.ntmps13
  go_wp2_with fail
  refine HL.out.mono ?_; rintro e w1 ⟨A, c, rfl, hown, hB⟩
  have HB := Lib.hid hB
  clear hown hB
  go_wp2_with fail
  go_loopw [7] (fun vi wx => vi = .int .i64 0 ∧ wx = w1) (fun _ _ => 0)
  case atStart => exact ⟨rfl, rfl⟩
  case round =>
    obtain ⟨rfl, rfl⟩ := hrel
    go_wp2_with fail
    go_ret2
    exact ⟨rfl, HB.out⟩
theorem next_all (s : Nat) (hs : s < 256) (n : Int) : ∃ (v : Int) (b : Bool), (∀ w : World, Calls Tryd.prog 12 #[.int .u8 s, .int .i64 n] w fun e w' => e = .returned (.tuple #[.int .i64 v, .bool b]) ∧ Below w.heap.size w w') ∧ ∀ w : World, Calls Tryd.prog 13 #[.int .u8 s, .int .i64 n] w fun e w' => e = .returned (.tuple #[.int .i64 v, .bool b]) ∧ Below w.heap.size w w' := by
  by_cases h : s = 0
  · subst h
    exact ⟨0, false, next_none n, rnext_none n⟩
  · exact ⟨_, true, fun w => next_at s hs (by omega) n w, fun w => rnext_at s hs (by omega) n w⟩
set_option maxRecDepth 100000 in
theorem same_any (A B : Option Addr) (n c d : Nat) (xs : List Int) (w : World) (hA : InI w A n xs) (hB : InI w B n xs) (hn : n ≤ 9223372036854775807) : Calls Tryd.prog 18 #[.slice A n c, .slice B n d] w fun e w' => e = .returned (.bool true) ∧ Below w.heap.size w w' := by
  have HA := Lib.hid hA; have HBB := Lib.hid hB
  clear hA hB
  have hne : ((n : Int) != (n : Int)) = false := by rw [bne_eq_false_iff_eq]
  have hB0 := Below.refl w.heap.size w
  go_enter Tryd.func18, Tryd.ntmps18
  go_wp2_with fail
  go_loopw [5] (fun v wr => ∃ i : Nat, i ≤ n ∧ v = .int .i64 (i : Int) ∧ Below w.heap.size w wr) (fun v _ => n - (intOf v).toNat)
  case atStart => exact ⟨0, by omega, rfl, hB0⟩
  case round =>
    clear hB0
    obtain ⟨i, hi, rfl, hBr⟩ := hrel
    by_cases hlt : i < n
    · obtain ⟨b1, o1, rfl, _, hc1⟩ := (HA.out.below hBr).get hlt
      obtain ⟨b2, o2, rfl, _, hc2⟩ := (HBB.out.below hBr).get hlt
      have hi1 := fun w => idxI b1 o1 n c i hlt w
      have hi2 := fun w => idxI b2 o2 n d i hlt w
      generalize xs.getD i 0 = x at *
      have hxx : (x != x) = false := by rw [bne_eq_false_iff_eq]
      go_upto_region 6 with fail
      go_quiet (fail)
      go_wp2_with fail
      go_roundw
      case rel => exact ⟨i + 1, by omega, by go_num, bel_drewN hBr _⟩
      case measure => simp [intOf]; omega
    · obtain rfl : i = n := by omega
      go_wp2_with fail
      go_ret
      exact ⟨rfl, hBr⟩
set_option maxRecDepth 100000 in
set_option maxHeartbeats 4000000 in
theorem nodesetLists_walk (s : Int) (hs : (Lit.int .u8 s).wf = true) (node : Int) (_hn : (Lit.int .i64 node).wf = true) (w0 : World) (_h : True) : Calls Tryd.prog 3 #[.int .u8 s, .int .i64 node] w0 fun e w' => e = .returned (.bool true) ∧ Below w0.heap.size w0 w' := by
  obtain ⟨t, rfl, ht⟩ : ∃ t : Nat, s = (t : Int) ∧ t < 256 := by
    simp [Lit.wf, IntKind.min, IntKind.max, IntKind.signed, IntKind.bits] at hs
    exact ⟨s.toNat, by omega, by omega⟩
  obtain ⟨v, b, hn1, hn2⟩ := next_all t ht node
  have hl1 := fun w => list_at t ht w
  have hl2 := fun w => rlist_at t ht w
  have hof := fun (A : Option Addr) (c : Nat) (w : World) (h : InI w A (nodesN t).length (nodesI t)) => of_any A (nodesN t).length c (nodesI t) w h (by have := nodes_len t ht; omega)
  rw [setK_nodes t ht] at hof
  have htx := fun w => text_at t ht w
  have hrt := fun w => rtext_at t ht w
  have hpa := fun w => parse_any (textB t) (by have := (text_size t ht).1; omega) w
  rw [parse_text t ht] at hpa
  have hct := fun w => count_any t ht w
  rw [oc_len t ht] at hct
  have hsa := fun (A B : Option Addr) (c d : Nat) (w : World) (hA : InI w A (nodesN t).length (nodesI t)) (hB : InI w B (nodesN t).length (nodesI t)) => same_any A B (nodesN t).length c d (nodesI t) w hA hB (by have := nodes_len t ht; omega)
  have hh1 := fun w => has_at t ht node w
  have hh2 := fun w => rhas_at t ht node w
  have hnl := nodes_len t ht
  simp only [setV, parseV] at hof hpa
  have HN1 := Lib.hid hn1; have HN2 := Lib.hid hn2; have HL1 := Lib.hid hl1; have HL2 := Lib.hid hl2; have HOF := Lib.hid hof; have HTX := Lib.hid htx; have HRT := Lib.hid hrt; have HPA := Lib.hid hpa; have HCT := Lib.hid hct; have HSA := Lib.hid hsa; have HH1 := Lib.hid hh1; have HH2 := Lib.hid hh2
  clear hn1 hn2 hl1 hl2 hof htx hrt hpa hct hsa hh1 hh2
  simp only [nodes_row] at HL1 HL2
  generalize nodesI t = xs at *
  generalize (nodesN t).length = n at *
  generalize textB t = tx at *
  generalize hasN t node = hb at *
  have htt : (tx.toList == tx.toList) = true := by simp
  have hnn : ((n : Int) == (n : Int)) = true := by simp
  have hvv : (v == v) = true := by simp
  have hbb : (b == b) = true := by simp
  have hhh : (hb == hb) = true := by simp
  have hst : ((t : Int) == (t : Int)) = true := by simp
  go_enter Tryd.func3, Tryd.ntmps3
  go_wp2_with fail
  refine (HL1.out _).mono ?_; rintro e w1 ⟨A, c, rfl, hown, hB1⟩
  have hI := InI.own hown
  clear hown
  have HI := Lib.hid hI
  clear hI
  go_wp2_with fail
  refine (HN1.out _).mono ?_; rintro e w2 ⟨rfl, hB⟩
  have hB2 := bel_trans hB1 hB; have HI2 := Lib.hid (HI.out.below hB)
  clear hB hB1 HI
  go_wp2_with fail
  refine (HN2.out _).mono ?_; rintro e w3 ⟨rfl, hB⟩
  have hB3 := bel_trans hB2 hB; have HI3 := Lib.hid (HI2.out.below hB)
  clear hB hB2 HI2
  go_wp2_with fail
  refine (HOF.out _ _ _ HI3.out).mono ?_; rintro e w4 ⟨rfl, rfl⟩
  go_wp2_with fail
  refine (HTX.out _).mono ?_; rintro e w5 ⟨rfl, hB⟩
  have hB5 := bel_trans hB3 hB; have HI5 := Lib.hid (HI3.out.below hB)
  clear hB hB3 HI3
  go_wp2_with fail
  refine (HPA.out _).mono ?_; rintro e w6 ⟨rfl, hB⟩
  have hB6 := bel_trans hB5 hB; have HI6 := Lib.hid (HI5.out.below hB)
  clear hB hB5 HI5
  go_wp2_with fail
  refine (sets_any _).mono ?_; rintro e w7 ⟨rfl, hB⟩
  have hB7 := bel_trans hB6 hB; have HI7 := Lib.hid (HI6.out.below hB)
  clear hB hB6 HI6
  go_wp2_with fail
  refine (HL2.out _).mono ?_; rintro e w8 ⟨A2, c2, rfl, hown, hB⟩
  have hB8 := bel_trans hB7 hB; have HI8 := Lib.hid (HI7.out.below hB)
  have HJ8 := Lib.hid (InI.own hown)
  clear hB hB7 HI7 hown
  go_wp2_with fail
  refine (HSA.out _ _ _ _ _ HI8.out HJ8.out).mono ?_; rintro e w9 ⟨rfl, hB⟩
  have hB9 := bel_trans hB8 hB
  clear hB hB8 HI8 HJ8
  go_wp2_with fail
  refine (HCT.out _).mono ?_; rintro e wa ⟨rfl, rfl⟩
  go_wp2_with fail
  refine (HH1.out _).mono ?_; rintro e wb ⟨rfl, rfl⟩
  go_wp2_with fail
  refine (HH2.out _).mono ?_; rintro e wc ⟨rfl, rfl⟩
  go_wp2_with fail
  refine (HTX.out _).mono ?_; rintro e wd ⟨rfl, hB⟩
  have hBd := bel_trans hB9 hB
  clear hB hB9
  go_wp2_with fail
  refine (HRT.out _).mono ?_; rintro e we ⟨rfl, hB⟩
  have hBe := bel_trans hBd hB
  clear hB hBd
  go_wp2_with fail
  go_ret
  exact ⟨rfl, hBe⟩
end Go.Proofs.YtcanhegjhbhkhaaDoor
