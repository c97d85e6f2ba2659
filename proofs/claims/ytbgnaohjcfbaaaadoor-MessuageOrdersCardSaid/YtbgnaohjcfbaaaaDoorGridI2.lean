/- More contracts of package grid (layer 2), elements of the kind int. -/
import Derived.Test.YtbgnaohjcfbaaaaDoorGridI
import Derived.Deep.OwnRows
namespace Go.Proofs.YtbgnaohjcfbaaaaDoor
open Go.RowKit
set_option linter.unusedVariables false
set_option linter.unusedSimpArgs false
attribute [local go_sem] World.cell?_alloc_lt

/-- A table's places, turned, the first k of them. -/
def turnTo {α : Type} (z : α) (xs : List α) (rows cols k : Nat) : List α := (List.range k).foldl (fun ys j => ys.set (j % cols * rows + j / cols) (xs.getD j z)) (List.replicate xs.length z)
theorem turnTo_succ {α : Type} (z : α) (xs : List α) (rows cols k : Nat) : turnTo z xs rows cols (k + 1) = (turnTo z xs rows cols k).set (k % cols * rows + k / cols) (xs.getD k z) := by
  unfold turnTo
  rw [List.range_succ, List.foldl_append]
  rfl
theorem turnTo_length {α : Type} (z : α) (xs : List α) (rows cols k : Nat) : (turnTo z xs rows cols k).length = xs.length := by
  induction k with
  | zero => simp [turnTo]
  | succ k ih => rw [turnTo_succ, List.length_set, ih]


theorem gi_Turned_nil (w : World) : Calls Tryd.prog 69 #[.pointer none] w fun e w' => e = .returned (.pointer none) ∧ w = w' := by
  go_enter Tryd.func69, Tryd.ntmps69
  go_wp2
  go_ret
  exact ⟨rfl, rfl⟩

set_option maxRecDepth 100000 in
set_option maxHeartbeats 1000000 in
theorem gi_Turned (g b rows cols : Nat) (xs : List Int) (w : World) (hG : GridI w g b rows cols xs) : Calls Tryd.prog 69 #[.pointer (some ⟨g, 0, none⟩)] w fun e w' => ∃ g' b', e = .returned (.pointer (some ⟨g', 0, none⟩)) ∧ w.heap.size ≤ g' ∧ w.heap.size ≤ b' ∧ GridI w' g' b' cols rows (turnTo 0 xs rows cols xs.length) ∧ Below w.heap.size w w' := by
  have k0 := hG.st.at_ (i := 0) rfl
  have k1 := hG.st.at_ (i := 1) rfl
  have k2 := hG.st.at_ (i := 2) rfl
  have hle := hG.le
  have hgl := hG.st.lt
  have hbl := hG.dt.lt
  have hmk := fun wx => run_make_row' (P := Tryd.prog) 23 3 (.int .i64 0) 8 Tryd.underlying23 info_int rfl .i64 .i64 xs.length (by omega) (by omega) wx
  go_enter Tryd.func69, Tryd.ntmps69
  go_wp2_with fail
  go_region
  go_wp2_with fail
  go_loopw [29] (fun i wr => ∃ k : Nat, k ≤ xs.length ∧ i = .int .i64 k ∧ GridI wr g b rows cols xs ∧ Blk wr w.heap.size 3 ((turnTo 0 xs rows cols k).map (Value.int .i64)) ∧ Blk wr (w.heap.size + 1) 139 [.int .i64 cols, .int .i64 rows, .slice (some ⟨w.heap.size, 0, none⟩) xs.length xs.length] ∧ Below w.heap.size w wr) (fun i _ => xs.length - (intOf i).toNat)
  case atStart =>
    have hb : Below w.heap.size w (((w.alloc (.cells (madeCells #[.int .i64 0] xs.length) 3)).alloc (.cells #[.int .i64 cols, .int .i64 rows, .slice (some ⟨w.heap.size, 0, none⟩) xs.length xs.length] 139)).drew) := bel_drew (bel_alloc (bel_alloc (Below.refl _ _) _) _)
    refine ⟨0, Nat.zero_le _, rfl, hG.below hb, ?_, ?_, hb⟩
    · have h := Blk.new w 3 (madeCells #[.int .i64 0] xs.length).toList
      rw [Array.toArray_toList] at h
      have e := made_one (.int .i64 0) rfl xs.length
      simp only [turnTo, List.range_zero, List.foldl_nil, List.map_replicate]
      rw [← e]
      exact (h.alloc _).drew
    · have h := Blk.new (w.alloc (.cells (madeCells #[.int .i64 0] xs.length) 3)) 139 [.int .i64 cols, .int .i64 rows, .slice (some ⟨w.heap.size, 0, none⟩) xs.length xs.length]
      rw [World.size_alloc] at h
      exact h.drew
  case round =>
    obtain ⟨k, hk, rfl, hG, hD, hS, hb⟩ := hrel
    by_cases hlt : k < xs.length
    · have hn := hG.ln
      have hc0 : 0 < cols := by
        rcases Nat.eq_zero_or_pos cols with h | h
        · subst h; rw [Nat.mul_zero] at hn; omega
        · exact h
      have k0 := hG.st.at_ (i := 0) rfl
      have k1 := hG.st.at_ (i := 1) rfl
      have s2 := hS.at_ (i := 2) rfl
      have kv := hG.dt.at_ (map_at hlt 0)
      obtain ⟨d, hd, hdl, q, p, hq, hp, hql, hpl, hqp⟩ : ∃ d, k % cols * rows + k / cols = d ∧ d < xs.length ∧ ∃ q p, k % cols = q ∧ k / cols = p ∧ q < cols ∧ p < rows ∧ q * rows + p = d := by
        refine ⟨_, rfl, ?_, _, _, rfl, rfl, Nat.mod_lt _ hc0, ?_, rfl⟩
        · rw [hn, Nat.mul_comm rows cols]
          exact place_lt (Nat.mod_lt _ hc0) (Nat.div_lt_of_lt_mul (by rw [Nat.mul_comm]; omega))
        · exact Nat.div_lt_of_lt_mul (by rw [Nat.mul_comm]; omega)
      have hl2 : d < (turnTo 0 xs rows cols k).length := by rw [turnTo_length]; exact hdl
      have dv := hD.at_ (map_at hl2 0)
      have df := hD.frozen d
      have hD2 := hD.set_ d ((Value.int .i64) (xs.getD k 0))
      rw [← List.map_set] at hD2
      have hts := turnTo_succ 0 xs rows cols k
      rw [hd] at hts
      rw [← hts] at hD2
      have hq' : (k : Int) % (cols : Int) = (q : Int) := by rw [← hq]; simp
      have hp' : (k : Int) / (cols : Int) = (p : Int) := by rw [← hp]; simp
      have m0 : (0 : Int) ≤ (q : Int) * (rows : Int) := Int.mul_nonneg (by omega) (by omega)
      have e1 : (q : Int) * (rows : Int) + (p : Int) = (d : Int) := by rw [← hqp]; simp
      have m1 : (q : Int) * (rows : Int) ≤ 4096 := by omega
      have m2 : (q : Int) * (rows : Int) + (p : Int) < xs.length := by omega
      have e2 : ((q : Int) * (rows : Int) + (p : Int)).toNat = d := by omega
      have hgl := hG.st.lt
      have hcI : (1 : Int) ≤ (cols : Int) := by omega
      clear hd hq hp hqp hts e1 hn hl2
      have HD := Lib.hid hD2; have HG := Lib.hid hG; have HS := Lib.hid hS; have HB := Lib.hid hb
      clear hD2 hG hS hb hD
      generalize xs.getD k 0 = v at *
      go_wp2_with fail
      go_region
      go_wp2
      go_roundw
      case rel =>
        have hc := ((Ch.refl [w.heap.size] wr).set (p := ⟨w.heap.size, d, none⟩) (by simp) ((Value.int .i64) v)).drew
        exact ⟨k + 1, by omega, by go_num, HG.out.ch hc (by simp; omega) (by simp; omega), HD.out.drew, (HS.out.far (p := ⟨w.heap.size, d, none⟩) (by simp) _).drew, bel_drew (bel_set HB.out (Nat.le_refl _) _)⟩
      case measure => simp [intOf]; omega
    · have e : k = xs.length := by omega
      subst e
      go_wp2
      go_ret
      refine ⟨w.heap.size + 1, w.heap.size, rfl, by omega, Nat.le_refl _, ⟨?_, hD, ?_, hG.c64, hG.r64⟩, hb⟩
      · rw [turnTo_length]; exact hS
      · rw [turnTo_length, hG.ln, Nat.mul_comm]
end Go.Proofs.YtbgnaohjcfbaaaaDoor
