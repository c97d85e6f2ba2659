/- The law PolicyRound. -/
import Derived.Test.YtmheafagafdnlaaPolicy2
namespace Go.Proofs.Ytmheafagafdnlaa
open Go.RowKit
set_option linter.unusedVariables false
set_option linter.unusedSimpArgs false
attribute [local go_sem] World.cell?_alloc_lt

def nextNN (s n : Nat) : Nat := (((nodesN s).find? (fun i : Nat => decide (n < i))).getD ((nodesN s).headD 0))
theorem nextNN_eq (s n : Nat) : nextN s (n : Int) = nextNN s n := by
  unfold nextN nextL nextNN
  simp
/-- The nodes that i starts begin at, from n0 on: which were seen, and the next one. -/
def orb (s n0 : Nat) : Nat → Nat × Nat
  | 0 => (0, n0)
  | i + 1 => ((orb s n0 i).1 + 2 ^ (orb s n0 i).2, nextNN s (orb s n0 i).2)
def orbOk (s n0 : Nat) : Nat → Nat → Nat → Bool
  | 0, _, _ => true
  | f + 1, v, n => decide (v < 256) && decide (n < 8) && decide (v / 2 ^ n % 2 = 0) && decide (s / 2 ^ n % 2 = 1) && orbOk s n0 f (v + 2 ^ n) (nextNN s n)
theorem orb_all : ∀ s : Nat, s < 256 → ∀ n0 ∈ nodesN s, orbOk s n0 (ocN s) 0 n0 = true := by decide +kernel
theorem orb_ok {s n0 : Nat} (hs : s < 256) (hn : n0 ∈ nodesN s) {i : Nat} (hi : i < ocN s) :
    (orb s n0 i).1 < 256 ∧ (orb s n0 i).2 < 8 ∧ (orb s n0 i).1 / 2 ^ (orb s n0 i).2 % 2 = 0 ∧ s / 2 ^ (orb s n0 i).2 % 2 = 1 := by
  have h := orb_all s hs n0 hn
  suffices ∀ (i f : Nat), i + f = ocN s → orbOk s n0 f (orb s n0 i).1 (orb s n0 i).2 = true by
    have := this i (ocN s - i) (by omega)
    obtain ⟨f, hf⟩ : ∃ f, ocN s - i = f + 1 := ⟨ocN s - i - 1, by omega⟩
    rw [hf] at this
    simp [orbOk] at this
    exact ⟨this.1.1.1.1, this.1.1.1.2, this.1.1.2, this.1.2⟩
  intro i
  induction i with
  | zero => intro f hf; rw [show f = ocN s by omega]; exact h
  | succ i ih =>
    intro f hf
    have := ih (f + 1) (by omega)
    simp only [orbOk, Bool.and_eq_true] at this
    exact this.2
theorem next_mem (s : Nat) (hs : s < 256) (h0 : 0 < s) (cur : Int) : nextN s cur ∈ nodesN s := by
  have hp := nodes_pos s hs h0
  unfold nextN nextL
  cases h : (nodesN s).find? (fun i : Nat => decide (cur < (i : Int))) with
  | some x => exact List.mem_of_find?_eq_some h
  | none =>
    cases hl : nodesN s with
    | nil => rw [hl] at hp; simp at hp
    | cons x l => simp
def seenL (v : Nat) : List Value := (List.range 8).map (fun j => .bool (decide (v / 2 ^ j % 2 = 1)))
theorem seen_at (v : Nat) {n : Nat} (hn : n < 8) : (seenL v)[n]? = some (.bool (decide (v / 2 ^ n % 2 = 1))) := by
  unfold seenL
  simp [hn]
theorem seen_bits : ∀ v : Nat, v < 256 → ∀ n : Nat, n < 8 → v / 2 ^ n % 2 = 0 → ∀ j : Nat, j < 8 → decide ((v + 2 ^ n) / 2 ^ j % 2 = 1) = if n = j then true else decide (v / 2 ^ j % 2 = 1) := by decide +kernel
theorem seen_set {v n : Nat} (hv : v < 256) (hn : n < 8) (h : v / 2 ^ n % 2 = 0) : (seenL v).set n (.bool true) = seenL (v + 2 ^ n) := by
  apply List.ext_getElem
  · simp [seenL]
  · intro i h1 h2
    have hi : i < 8 := by simpa [seenL] using h2
    rw [List.getElem_set]
    simp only [seenL, List.getElem_map, List.getElem_range]
    rw [seen_bits v hv n hn h i hi]
    by_cases e : n = i
    · subst e; simp
    · rw [if_neg e, if_neg e]
theorem count_at (s : Nat) (hs : s < 256) (w : World) : Calls Try.prog 13 #[.int .u8 s] w fun e w' => e = .returned (.int .i64 (ocN s)) ∧ w = w' := by
  have h := Lib.hid (oc8 s hs)
  go_enter Try.func13, Try.ntmps13
  go_wp2_with fail
  refine (h.out w).mono ?_; rintro e w1 ⟨rfl, rfl⟩
  go_wp2
  go_ret
  exact ⟨rfl, rfl⟩
theorem chk_round : ∀ s : Nat, s < 256 → 0 < s → chk 2 s 0 8 = 0 := by decide +kernel
set_option maxRecDepth 100000 in
set_option maxHeartbeats 2000000 in
theorem policyRound_walk (z : Int) (hz : (Lit.int .u8 z).wf = true) (cur : Int) (_h2 : (Lit.int .i64 cur).wf = true) (w0 : World) :
    Calls Try.prog 3 #[.int .u8 z, .int .i64 cur] w0 fun e w' => e = .returned (.bool true) ∧ Below w0.heap.size w0 w' := by
  have hzb := bounds_u8 hz
  obtain ⟨s, rfl⟩ := Int.eq_ofNat_of_zero_le hzb.1
  have hs : s < 256 := by omega
  clear hz hzb
  by_cases h0 : s = 0
  · subst h0
    go_enter Try.func3, Try.ntmps3
    go_wp2_with fail
    refine (starts_any _).mono ?_; rintro e w1 ⟨rfl, hb⟩
    have hB := bel_trans (bel_alloc (Below.refl _ w0) _) hb
    go_wp2_with fail
    refine (starts_any _).mono ?_; rintro e w2 ⟨rfl, hb2⟩
    have hB := bel_trans hB hb2
    go_wp2
    go_ret
    exact ⟨rfl, hB⟩
  have hsf : ((s : Int) == 0) = false := by rw [beq_eq_false_iff_ne]; omega
  have hpos : 0 < s := by omega
  have hmem := next_mem s hs hpos cur
  have hck := chk_round s hs hpos
  have hOK := fun i (hi : i < ocN s) => orb_ok hs hmem hi
  have hst := fun cu => start_yes 2 s hs 0 8 0 cu hck (by omega) (by omega)
  have HOC := Lib.hid (count_at s hs)
  have hoc8 : ∀ s : Nat, s < 256 → ocN s ≤ 8 := by decide +kernel
  have hoc8 := hoc8 s hs
  have HOK := Lib.hid hOK; have HST := Lib.hid hst; clear hOK hst hck hmem h0
  generalize hn0 : nextN s cur = n0 at HOK
  have hcu : nextN s cur = (orb s n0 0).2 := hn0
  have HCU := Lib.hid hcu; clear hcu hn0
  go_enter Try.func3, Try.ntmps3
  go_wp2_with fail
  refine (starts_any _).mono ?_; rintro e w1 ⟨rfl, hb⟩
  have hB := bel_trans (bel_alloc (Below.refl _ w0) _) hb
  have hP : Blk w1 w0.heap.size 24 [.int .i64 2, .int .u8 s, .int .i64 0] := (Blk.new w0 _ _).below hb
  go_wp2_with fail
  have hlt0 : w0.heap.size < w1.heap.size := by have := hb.size; simp at this; omega
  have hA : Blk (w1.alloc (.cells (seenL 0).toArray 26)) w1.heap.size 26 (seenL (orb s n0 0).1) := Blk.new w1 _ _
  go_loopw [1, 7] (fun vc vi wx => ∃ (i : Nat) (cu : Int), i ≤ ocN s ∧ vi = .int .i64 i ∧ vc = .int .i64 cu ∧ nextN s cu = (orb s n0 i).2 ∧ Blk wx w0.heap.size 24 [.int .i64 2, .int .u8 s, .int .i64 0] ∧ Blk wx w1.heap.size 26 (seenL (orb s n0 i).1) ∧ Below w0.heap.size w0 wx) (fun _ i _ => ocN s - (intOf i).toNat)
  case atStart => exact ⟨0, cur, by omega, rfl, rfl, HCU.out, hP.alloc _, hA, bel_alloc hB _⟩
  case round =>
    clear hP hA hB hb
    obtain ⟨i, cu, hi, rfl, rfl, hcu, hP, hA, hB⟩ := hrel
    have q1 := hP.at_ (i := 1) rfl
    have q0 := hP.at_ (i := 0) rfl
    have q2 := hP.at_ (i := 2) rfl
    by_cases hlt : i < ocN s
    · obtain ⟨hv, hn, hvn, hsn⟩ := HOK.out i hlt
      have hst2 := HST.out cu
      rw [show startN 2 s 0 0 cu = ((nextN s cu : Int), (nextN s cu : Int)) from rfl, hcu] at hst2
      unfold pol at hst2
      have hnn := nextNN_eq s (orb s n0 i).2
      have ho1 : (orb s n0 (i + 1)).1 = (orb s n0 i).1 + 2 ^ (orb s n0 i).2 := rfl
      have ho2 : (orb s n0 (i + 1)).2 = nextNN s (orb s n0 i).2 := rfl
      have HO1 := Lib.hid ho1; have HO2 := Lib.hid ho2; have HNN := Lib.hid hnn; clear ho1 ho2 hnn
      generalize (orb s n0 i).2 = n at *
      generalize (orb s n0 i).1 = v at *
      have hset := seen_set hv hn hvn
      have hsa := seen_at v hn
      rw [decide_eq_false (by omega)] at hsa
      have qn := hA.at_ hsa
      have qf := hA.frozen n
      have hha := has_at s hs n
      have hh : hasN s n = true := by
        unfold hasN
        rw [decide_eq_true (by omega), Int.toNat_natCast, decide_eq_true hsn]
        rfl
      rw [hh] at hha
      have hH := Lib.hid hha; have HS2 := Lib.hid hst2; have HSET := Lib.hid hset
      clear hha hst2 hset hh hsa hsn hvn
      have hn8 : (n : Int) < 8 := by omega
      have hn0' : ¬ (n : Int) < 0 := by omega
      go_wp2_with fail
      refine (HOC.out _).mono ?_; rintro e w2 ⟨rfl, rfl⟩
      go_wp2_with fail
      refine (HS2.out _).mono ?_; rintro e w3 ⟨rfl, hb3⟩
      have hB3 := bel_trans hB hb3
      have hP3 := hP.below hb3
      have hA3 := hA.below hb3
      have q1 := hP3.at_ (i := 1) rfl
      have qn := (hb3.cell (p := ⟨w1.heap.size, n, none⟩) hA.lt).trans qn
      have qf := hA3.frozen n
      clear hP hA hB q0 q2
      go_wp2_with fail
      refine (hH.out _).mono ?_; rintro e w4 ⟨rfl, rfl⟩
      go_wp2_with fail
      have hP4 : Blk (w3.setCell ⟨w1.heap.size, n, none⟩ (.bool true)) w0.heap.size 24 [.int .i64 2, .int .u8 s, .int .i64 0] := hP3.far (by simp; omega) _
      have hA4 := hA3.set_ n (.bool true)
      rw [HSET.out] at hA4
      have hB4 := bel_set hB3 (p := ⟨w1.heap.size, n, none⟩) (by simp; omega) (.bool true)
      go_roundw
      case rel => exact ⟨i + 1, n, by omega, by go_num, rfl, by rw [HNN.out, HO2.out], hP4, by rw [HO1.out]; exact hA4, hB4⟩
      case measure => simp [intOf]; omega
    · obtain rfl : i = ocN s := by omega
      go_wp2_with fail
      refine (HOC.out _).mono ?_; rintro e w2 ⟨rfl, rfl⟩
      go_wp2_with fail
      go_ret
      exact ⟨rfl, hB⟩
end Go.Proofs.Ytmheafagafdnlaa
