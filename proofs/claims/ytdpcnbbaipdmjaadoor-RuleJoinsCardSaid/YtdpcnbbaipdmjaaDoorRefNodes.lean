/- The reference of layer 1: its small functions. -/
import Derived.Test.YtdpcnbbaipdmjaaDoorNodes
namespace Go.Proofs.YtdpcnbbaipdmjaaDoor
open Go.RowKit
set_option linter.unusedVariables false
set_option linter.unusedSimpArgs false
attribute [local go_sem] World.cell?_alloc_lt

theorem rhas_at (s : Nat) (hs : s < 256) (n : Int) (w : World) : Calls Tryd.prog 41 #[.int .u8 s, .int .i64 n] w fun e w' => e = .returned (.bool (hasN s n)) ∧ w = w' := by
  by_cases h0 : n < 0
  · have he : hasN s n = false := by unfold hasN; rw [decide_eq_false (by omega)]; rfl
    rw [he]
    go_enter Tryd.func41, Tryd.ntmps41
    go_wp2_with fail
    go_ret
    exact ⟨rfl, rfl⟩
  by_cases h8 : 8 ≤ n
  · have he : hasN s n = false := by unfold hasN; rw [decide_eq_false (by omega)]; rfl
    rw [he]
    go_enter Tryd.func41, Tryd.ntmps41
    go_wp2_with fail
    go_ret
    exact ⟨rfl, rfl⟩
  obtain ⟨i, rfl⟩ := Int.eq_ofNat_of_zero_le (show 0 ≤ n by omega)
  have hi : i < 8 := by omega
  have HQ := Lib.hid (has_eq s hs i hi)
  have he : hasN s i = decide (s / 2 ^ i % 2 = 1) := by unfold hasN; rw [decide_eq_true (by omega)]; simp
  rw [he]
  go_enter Tryd.func41, Tryd.ntmps41
  go_wp2_with fail
  go_ret
  exact ⟨ret_bool2 (by simpa using HQ.out), rfl⟩
def nodesTo (s i : Nat) : List Nat := (List.range i).filter (fun j => s / 2 ^ j % 2 = 1)
theorem nodesTo_succ (s i : Nat) : nodesTo s (i + 1) = if s / 2 ^ i % 2 = 1 then nodesTo s i ++ [i] else nodesTo s i := by
  unfold nodesTo
  rw [List.range_succ, List.filter_append]
  by_cases h : s / 2 ^ i % 2 = 1 <;> simp [h]
theorem nodesTo_len (s i : Nat) : (nodesTo s i).length ≤ i := by
  have := List.length_filter_le (fun j => decide (s / 2 ^ j % 2 = 1)) (List.range i)
  simpa [nodesTo] using this
theorem rlist_at (s : Nat) (hs : s < 256) (w0 : World) : Calls Tryd.prog 25 #[.int .u8 s] w0 fun e w' => ∃ A c, e = .returned (.slice A (nodesN s).length c) ∧ w'.ownsRow w0.heap.size 3 1 (.slice A (nodesN s).length c) (nodesN s).length ((nodesN s).map ofN) ∧ Below w0.heap.size w0 w' := by
  have hfin : nodesTo s 8 = nodesN s := rfl
  have HF := Lib.hid hfin; clear hfin
  go_enter Tryd.func25, Tryd.ntmps25
  go_wp2_with fail
  go_loopw [3, 4] (fun vl vi wx => ∃ (i : Nat) (A : Option Addr) (c : Nat), i ≤ 8 ∧ vi = .int .i64 i ∧ vl = .slice A (nodesTo s i).length c ∧ wx.ownsRow w0.heap.size 3 1 (.slice A (nodesTo s i).length c) (nodesTo s i).length ((nodesTo s i).map ofN) ∧ Below w0.heap.size w0 wx) (fun _ i _ => 8 - (intOf i).toNat)
  case atStart => exact ⟨0, none, 0, by omega, rfl, rfl, World.ownsRow_nil _ _ _ _, Below.refl _ _⟩
  case round =>
    obtain ⟨i, A, c, hi, rfl, rfl, hown, hB⟩ := hrel
    by_cases hlt : i < 8
    · have hl8 := nodesTo_len s i
      have hsu := nodesTo_succ s i
      have hha := rhas_at s hs i
      by_cases hb : s / 2 ^ i % 2 = 1
      · have he : hasN s i = true := by unfold hasN; rw [decide_eq_true (by omega)]; simp [hb]
        rw [he] at hha
        rw [if_pos hb] at hsu
        have HA := Lib.hid hha; have HS := Lib.hid hsu; clear hha hsu hb he
        generalize nodesTo s i = xs at *
        go_wp2_with fail
        refine (HA.out wr).mono ?_; rintro e w1 ⟨rfl, rfl⟩
        go_wp2_with (at_builtin; refine wpList_push _ rfl (.tmp 12) (.tmp 14) 40 rfl w0.heap.size 3 (.int .i64 0) 8 Tryd.underlying40 info_int rfl A xs.length c (xs.map ofN) rfl (hown.alloc _) _ 1 (ofN i) rfl ?_ rfl (by omega) (by omega) ?_ ?_)
        · exact World.cell?_alloc_new _ _ _ 0
        · simp; have := hB.size; omega
        intro ga cp w4 hown4 hgr4 hor
        have hB4 := (bel_alloc hB (.cells #[ofN i] 3)).grown hgr4 (by simp; have := hB.size; omega) (fun k hk => (own_base hown k hk).1)
        have hlen : (xs ++ [i]).length = xs.length + 1 := by simp
        have hown4 : w4.ownsRow w0.heap.size 3 1 (.slice (some ⟨ga, 0, none⟩) (xs.length + 1) cp) (xs.length + 1) ((xs ++ [i]).map ofN) := by rw [List.map_append]; exact hown4
        clear hown hgr4 hor hB
        go_wp2
        go_roundw
        case rel => exact ⟨i + 1, some ⟨ga, 0, none⟩, cp, by omega, by go_num, by rw [HS.out, hlen], by rw [HS.out, hlen]; exact hown4, hB4⟩
        case measure => simp [intOf]; omega
      · have he : hasN s i = false := by unfold hasN; rw [decide_eq_true (by omega)]; simp [hb]
        rw [he] at hha
        rw [if_neg hb] at hsu
        have HA := Lib.hid hha; have HS := Lib.hid hsu; clear hha hsu hb he
        generalize nodesTo s i = xs at *
        go_wp2_with fail
        refine (HA.out wr).mono ?_; rintro e w1 ⟨rfl, rfl⟩
        go_wp2_with fail
        go_roundw
        case rel => exact ⟨i + 1, A, c, by omega, by go_num, by rw [HS.out], by rw [HS.out]; exact hown, hB⟩
        case measure => simp [intOf]; omega
    · obtain rfl : i = 8 := by omega
      rw [HF.out] at hown ⊢
      go_wp2
      go_ret
      exact ⟨_, _, rfl, hown, hB⟩
end Go.Proofs.YtdpcnbbaipdmjaaDoor
