/- The reference of layer 1: its small functions. -/
import Derived.Test.YtcanhegjhbhkhaaDoorNodes
namespace Go.Proofs.YtcanhegjhbhkhaaDoor
open Go.RowKit
set_option linter.unusedVariables false
set_option linter.unusedSimpArgs false
attribute [local go_sem] World.cell?_alloc_lt

theorem rhas_at (s : Nat) (hs : s < 256) (n : Int) (w : World) : Calls Tryd.prog 22 #[.int .u8 s, .int .i64 n] w fun e w' => e = .returned (.bool (hasN s n)) ∧ w = w' := by
  by_cases h0 : n < 0
  · have he : hasN s n = false := by unfold hasN; rw [decide_eq_false (by omega)]; rfl
    rw [he]
    go_enter Tryd.func22, Tryd.ntmps22
    go_wp2_with fail
    go_ret
    exact ⟨rfl, rfl⟩
  by_cases h8 : 8 ≤ n
  · have he : hasN s n = false := by unfold hasN; rw [decide_eq_false (by omega)]; rfl
    rw [he]
    go_enter Tryd.func22, Tryd.ntmps22
    go_wp2_with fail
    go_ret
    exact ⟨rfl, rfl⟩
  obtain ⟨i, rfl⟩ := Int.eq_ofNat_of_zero_le (show 0 ≤ n by omega)
  have hi : i < 8 := by omega
  have HQ := Lib.hid (has_eq s hs i hi)
  have he : hasN s i = decide (s / 2 ^ i % 2 = 1) := by unfold hasN; rw [decide_eq_true (by omega)]; simp
  rw [he]
  go_enter Tryd.func22, Tryd.ntmps22
  go_wp2_with fail
  go_ret
  exact ⟨ret_bool2 (by simpa using HQ.out), rfl⟩
def nodesTo (s i : Nat) : List Nat := (List.range i).filter (fun j => s / 2 ^ j % 2 = 1)
theorem nodesTo_succ (s i : Nat) : nodesTo s (i + 1) = if s / 2 ^ i % 2 = 1 then nodesTo s i ++ [i] else nodesTo s i := by
  unfold nodesTo
  rw [List.range_succ, List.filter_append]
  by_cases h : s / 2 ^ i % 2 = 1 <;> simp [h]
theorem nodesTo_len (s i : Nat) : (nodesTo s i).length ≤ i := by
  have := List.length_filter_le (fun j => decide (s / 2 ^ j % 2 = 1)) (List.range i)
  simpa [nodesTo] using this
theorem rlist_at (s : Nat) (hs : s < 256) (w0 : World) : Calls Tryd.prog 19 #[.int .u8 s] w0 fun e w' => ∃ A c, e = .returned (.slice A (nodesN s).length c) ∧ w'.ownsRow w0.heap.size 3 1 (.slice A (nodesN s).length c) (nodesN s).length ((nodesN s).map ofN) ∧ Below w0.heap.size w0 w' := by
  have hfin : nodesTo s 8 = nodesN s := rfl
  have HF := Lib.hid hfin; clear hfin
  go_enter Tryd.func19, Tryd.ntmps19
  go_wp2_with fail
  go_loopw [3, 4] (fun vl vi wx => ∃ (i : Nat) (A : Option Addr) (c : Nat), i ≤ 8 ∧ vi = .int .i64 i ∧ vl = .slice A (nodesTo s i).length c ∧ wx.ownsRow w0.heap.size 3 1 (.slice A (nodesTo s i).length c) (nodesTo s i).length ((nodesTo s i).map ofN) ∧ Below w0.heap.size w0 wx) (fun _ i _ => 8 - (intOf i).toNat)
  case atStart => exact ⟨0, none, 0, by omega, rfl, rfl, World.ownsRow_nil _ _ _ _, Below.refl _ _⟩
  case round =>
    obtain ⟨i, A, c, hi, rfl, rfl, hown, hB⟩ := hrel
    by_cases hlt : i < 8
    · have hl8 := nodesTo_len s i
      have hsu := nodesTo_succ s i
      have hha := rhas_at s hs i
      by_cases hb : s / 2 ^ i % 2 = 1
      · have he : hasN s i = true := by unfold hasN; rw [decide_eq_true (by omega)]; simp [hb]
        rw [he] at hha
        rw [if_pos hb] at hsu
        have HA := Lib.hid hha; have HS := Lib.hid hsu; clear hha hsu hb he
        generalize nodesTo s i = xs at *
        go_wp2_with fail
        refine (HA.out wr).mono ?_; rintro e w1 ⟨rfl, rfl⟩
        go_wp2_with (at_builtin; refine wpList_push _ rfl (.tmp 12) (.tmp 14) 23 rfl w0.heap.size 3 (.int .i64 0) 8 Tryd.underlying23 info_int rfl A xs.length c (xs.map ofN) rfl (hown.alloc _) _ 1 (ofN i) rfl ?_ rfl (by omega) (by omega) ?_ ?_)
        · exact World.cell?_alloc_new _ _ _ 0
        · simp; have := hB.size; omega
        intro ga cp w4 hown4 hgr4 hor
        have hB4 := (bel_alloc hB (.cells #[ofN i] 3)).grown hgr4 (by simp; have := hB.size; omega) (fun k hk => (own_base hown k hk).1)
        have hlen : (xs ++ [i]).length = xs.length + 1 := by simp
        have hown4 : w4.ownsRow w0.heap.size 3 1 (.slice (some ⟨ga, 0, none⟩) (xs.length + 1) cp) (xs.length + 1) ((xs ++ [i]).map ofN) := by rw [List.map_append]; exact hown4
        clear hown hgr4 hor hB
        go_wp2
        go_roundw
        case rel => exact ⟨i + 1, some ⟨ga, 0, none⟩, cp, by omega, by go_num, by rw [HS.out, hlen], by rw [HS.out, hlen]; exact hown4, hB4⟩
        case measure => simp [intOf]; omega
      · have he : hasN s i = false := by unfold hasN; rw [decide_eq_true (by omega)]; simp [hb]
        rw [he] at hha
        rw [if_neg hb] at hsu
        have HA := Lib.hid hha; have HS := Lib.hid hsu; clear hha hsu hb he
        generalize nodesTo s i = xs at *
        go_wp2_with fail
        refine (HA.out wr).mono ?_; rintro e w1 ⟨rfl, rfl⟩
        go_wp2_with fail
        go_roundw
        case rel => exact ⟨i + 1, A, c, by omega, by go_num, by rw [HS.out], by rw [HS.out]; exact hown, hB⟩
        case measure => simp [intOf]; omega
    · obtain rfl : i = 8 := by omega
      rw [HF.out] at hown ⊢
      go_wp2
      go_ret
      exact ⟨_, _, rfl, hown, hB⟩
theorem rnext_at (s : Nat) (hs : s < 256) (h0 : 0 < s) (n : Int) (w0 : World) : Calls Tryd.prog 13 #[.int .u8 s, .int .i64 n] w0 fun e w' => e = .returned (.tuple #[.int .i64 (nextN s n), .bool true]) ∧ Below w0.heap.size w0 w' := by
  have hpos := nodes_pos s hs h0
  have hmax := nodes_len s hs
  have hL := rlist_at s hs w0
  unfold nextN
  generalize nodesN s = l at *
  have HL := Lib.hid hL; clear hL
  go_enter Tryd.func13, Tryd.ntmps13
  go_wp2_with fail
  refine HL.out.mono ?_; rintro e w1 ⟨A, c, rfl, hown, hB⟩
  go_wp2_with fail
  go_loopw [7] (fun vi wx => ∃ (i : Nat), i ≤ l.length ∧ vi = .int .i64 i ∧ (∀ j, j < i → ¬ n < (l.getD j 0 : Int)) ∧ wx = w1) (fun i _ => l.length - (intOf i).toNat)
  case atStart => exact ⟨0, by omega, rfl, fun j hj => absurd hj (by omega), rfl⟩
  case round =>
    obtain ⟨i, hi, rfl, hbelow, rfl⟩ := hrel
    have HBE := Lib.hid hbelow; clear hbelow
    by_cases hlt : i < l.length
    · obtain ⟨ga, hA, hcq, _⟩ := own_at hown (map_at (f := ofN) hlt 0)
      have hib := fun w => idx_int (cap := c) hA hlt w
      simp only [Nat.zero_add] at hib
      clear hA
      by_cases hx : n < (l.getD i 0 : Int)
      · have hn := nextL_hit l n i hlt HBE.out hx
        have HN := Lib.hid hn; clear hn
        generalize hxx : l.getD i 0 = x at *
        unfold ofN at hcq
        go_wp2_with fail
        go_wp2
        go_ret2
        rw [HN.out]
        exact ⟨rfl, hB⟩
      · have hbe2 : ∀ j, j < i + 1 → ¬ n < (l.getD j 0 : Int) := fun j hj => by
          rcases Nat.lt_succ_iff_lt_or_eq.1 hj with h | rfl
          · exact HBE.out j h
          · exact hx
        have HB2 := Lib.hid hbe2; clear hbe2
        generalize hxx : l.getD i 0 = x at *
        unfold ofN at hcq
        go_wp2_with fail
        go_wp2
        go_roundw
        case rel => exact ⟨i + 1, by omega, by go_num, HB2.out, by trivial⟩
        case measure => simp [intOf]; omega
    · obtain rfl : i = l.length := by omega
      have hn := nextL_miss l n HBE.out
      have HN := Lib.hid hn; clear hn
      obtain ⟨ga, hA, hcq, _⟩ := own_at hown (map_at (f := ofN) hpos 0)
      have hib := fun w => idx_int (cap := c) hA hpos w
      simp only [Nat.zero_add, Int.cast_ofNat_Int] at hib
      clear hA
      generalize l.getD 0 0 = x at *
      unfold ofN at hcq
      go_wp2_with fail
      go_ret2
      rw [HN.out]
      exact ⟨rfl, hB⟩
end Go.Proofs.YtcanhegjhbhkhaaDoor
