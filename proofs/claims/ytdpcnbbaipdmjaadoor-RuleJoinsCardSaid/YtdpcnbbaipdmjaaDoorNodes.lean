/- Package nodeset (layer 1): the small functions. -/
import Derived.Test.YtdpcnbbaipdmjaaDoorOwn
import Derived.Test.YtdpcnbbaipdmjaaDoorArgs
import Derived.Lib.Hide
namespace Go.Proofs.YtdpcnbbaipdmjaaDoor
open Go.RowKit
set_option linter.unusedVariables false
set_option linter.unusedSimpArgs false
attribute [local go_sem] World.cell?_alloc_lt

def tzN (t : Nat) : Nat := if t % 2 = 1 then 0 else if t / 2 % 2 = 1 then 1 else if t / 4 % 2 = 1 then 2 else if t / 8 % 2 = 1 then 3 else if t / 16 % 2 = 1 then 4 else if t / 32 % 2 = 1 then 5 else if t / 64 % 2 = 1 then 6 else if t / 128 % 2 = 1 then 7 else 8
def ocN (t : Nat) : Nat := t % 2 + t / 2 % 2 + t / 4 % 2 + t / 8 % 2 + t / 16 % 2 + t / 32 % 2 + t / 64 % 2 + t / 128 % 2
/-- The nodes of a set, rising. -/
def nodesN (t : Nat) : List Nat := (List.range 8).filter (fun i => t / 2 ^ i % 2 = 1)
def dropN (t : Nat) : Nat := t - 2 ^ tzN t
set_option maxRecDepth 100000 in
theorem tz8 (t : Nat) (ht : t < 256) (w : World) : Calls Tryd.prog 27 #[.int .u8 t] w fun e w' => e = .returned (.int .i64 (tzN t)) ∧ w = w' := by
  go_enter Tryd.func27, Tryd.ntmps27
  go_wp2
  go_ret
  refine ⟨ret_int ?_, rfl⟩
  clear w
  revert t
  decide +kernel
theorem ret_bool2 {a b : Bool} (h : a = b) : Ending.returned (.bool a) = .returned (.bool b) := by rw [h]
theorem and8 : ∀ t : Nat, t < 256 → 0 < t → bits BinOp.and IntKind.u8 (t : Int) ((t : Int) - 1) = (dropN t : Int) := by decide +kernel
theorem nodes_tz : ∀ t : Nat, t < 256 → 0 < t → nodesN t = tzN t :: nodesN (dropN t) ∧ dropN t < t := by decide +kernel
theorem nodes_lt : ∀ t : Nat, t < 256 → ∀ i ∈ nodesN t, i < 8 := by decide +kernel
theorem nodes_len : ∀ t : Nat, t < 256 → (nodesN t).length ≤ 8 := by decide +kernel
theorem info_int : (Tryd.prog.info? 3).map (fun i => (i.zero, i.size, i.bytes)) = some (some (.int .i64 0), 1, 8) := by kernel_rfl
def ofN (n : Nat) : Value := .int .i64 (n : Int)
theorem list_at (s : Nat) (hs : s < 256) (w0 : World) : Calls Tryd.prog 14 #[.int .u8 s] w0 fun e w' => ∃ A c, e = .returned (.slice A (nodesN s).length c) ∧ w'.ownsRow w0.heap.size 3 1 (.slice A (nodesN s).length c) (nodesN s).length ((nodesN s).map ofN) ∧ Below w0.heap.size w0 w' := by
  go_enter Tryd.func14, Tryd.ntmps14
  go_wp2_with fail
  go_loopw [0, 3] (fun vt vl wx => ∃ (t : Nat) (xs : List Nat) (A : Option Addr) (c : Nat), t < 256 ∧ xs ++ nodesN t = nodesN s ∧ vt = .int .u8 t ∧ vl = .slice A xs.length c ∧ wx.ownsRow w0.heap.size 3 1 (.slice A xs.length c) xs.length (xs.map ofN) ∧ Below w0.heap.size w0 wx) (fun t _ _ => (intOf t).toNat)
  case atStart => exact ⟨s, [], none, 0, hs, rfl, rfl, rfl, World.ownsRow_nil _ _ _ _, Below.refl _ _⟩
  case round =>
    obtain ⟨t, xs, A, c, ht, hx, rfl, rfl, hown, hB⟩ := hrel
    have hl8 : xs.length ≤ 8 := by
      have := nodes_len s hs
      rw [← hx, List.length_append] at this
      omega
    have HX := Lib.hid hx; clear hx
    by_cases h0 : 0 < t
    · obtain ⟨e1, e2⟩ := nodes_tz t ht h0
      have e3 := and8 t ht h0
      have E1 := Lib.hid e1; have E3 := Lib.hid e3; clear e1 e3
      go_wp2_with fail
      refine (tz8 t ht wr).mono ?_; rintro e w1 ⟨rfl, rfl⟩
      go_wp2_with (at_builtin; refine wpList_push _ rfl (.tmp 10) (.tmp 13) 40 rfl w0.heap.size 3 (.int .i64 0) 8 Tryd.underlying40 info_int rfl A xs.length c (xs.map ofN) rfl (hown.alloc _) _ 1 (ofN (tzN t)) rfl ?_ rfl (by omega) (by omega) ?_ ?_)
      · exact World.cell?_alloc_new _ _ _ 0
      · simp; have := hB.size; omega
      intro ga cp w4 hown4 hgr4 hor
      have hB4 := (bel_alloc hB (.cells #[ofN (tzN t)] 3)).grown hgr4 (by simp; have := hB.size; omega) (fun k hk => (own_base hown k hk).1)
      have hlen : (xs ++ [tzN t]).length = xs.length + 1 := by simp
      have hown4 : w4.ownsRow w0.heap.size 3 1 (.slice (some ⟨ga, 0, none⟩) (xs.length + 1) cp) (xs.length + 1) ((xs ++ [tzN t]).map ofN) := by rw [List.map_append]; exact hown4
      clear hown hgr4 hor hB
      go_wp2
      go_roundw
      case rel => exact ⟨dropN t, xs ++ [tzN t], _, _, by omega, by rw [List.append_assoc]; simpa [E1.out] using HX.out, by rw [E3.out], by rw [hlen], by rw [hlen]; exact hown4, hB4⟩
      case measure => rw [E3.out]; simp [intOf]; omega
    · obtain rfl : t = 0 := by omega
      have hx := HX.out
      rw [show nodesN 0 = [] from by decide, List.append_nil] at hx
      subst hx
      go_wp2
      go_ret
      exact ⟨_, _, rfl, hown, hB⟩
theorem right_at (n : Int) (w : World) : Calls Tryd.prog 43 #[.int .i64 n] w fun e w' => e = .returned (.bool (decide (0 ≤ n ∧ n < 8))) ∧ w = w' := by
  by_cases h : 0 ≤ n
  · by_cases h2 : n < 8
    · have e : decide (0 ≤ n ∧ n < 8) = true := decide_eq_true ⟨h, h2⟩
      rw [e]
      go_enter Tryd.func43, Tryd.ntmps43
      go_wp2
      go_ret
      exact ⟨rfl, rfl⟩
    · have e : decide (0 ≤ n ∧ n < 8) = false := decide_eq_false (fun e => h2 e.2)
      rw [e]
      go_enter Tryd.func43, Tryd.ntmps43
      go_wp2
      go_ret
      exact ⟨rfl, rfl⟩
  · have e : decide (0 ≤ n ∧ n < 8) = false := decide_eq_false (fun e => h e.1)
    rw [e]
    go_enter Tryd.func43, Tryd.ntmps43
    go_wp2
    go_ret
    exact ⟨rfl, rfl⟩
def hasN (s : Nat) (n : Int) : Bool := decide (0 ≤ n ∧ n < 8) && decide (s / 2 ^ n.toNat % 2 = 1)
theorem has_eq : ∀ t : Nat, t < 256 → ∀ i : Nat, i < 8 → (bits BinOp.and IntKind.u8 ((t : Int) / 2 ^ i) 1 == 1) = decide (t / 2 ^ i % 2 = 1) := by decide +kernel
theorem has_at (s : Nat) (hs : s < 256) (n : Int) (w : World) : Calls Tryd.prog 28 #[.int .u8 s, .int .i64 n] w fun e w' => e = .returned (.bool (hasN s n)) ∧ w = w' := by
  by_cases h : 0 ≤ n ∧ n < 8
  · obtain ⟨i, rfl⟩ := Int.eq_ofNat_of_zero_le h.1
    have hi : i < 8 := by omega
    have he : decide (0 ≤ (i : Int) ∧ (i : Int) < 8) = true := decide_eq_true h
    have HE := Lib.hid he; clear he
    have HQ := Lib.hid (has_eq s hs i hi)
    go_enter Tryd.func28, Tryd.ntmps28
    go_wp2_with fail
    refine (right_at i w).mono ?_; rintro e w1 ⟨rfl, rfl⟩
    rw [HE.out]
    go_wp2_with fail
    go_ret
    refine ⟨ret_bool2 ?_, rfl⟩
    unfold hasN
    rw [HE.out]
    simpa using HQ.out
  · have he : decide (0 ≤ n ∧ n < 8) = false := decide_eq_false h
    have HE := Lib.hid he; clear he h
    go_enter Tryd.func28, Tryd.ntmps28
    go_wp2_with fail
    refine (right_at n w).mono ?_; rintro e w1 ⟨rfl, rfl⟩
    rw [HE.out]
    go_wp2_with fail
    go_ret
    refine ⟨ret_bool2 ?_, rfl⟩
    unfold hasN
    rw [HE.out]
    rfl
def allN (n : Int) : Nat := 2 ^ n.toNat - 1
theorem all_eq : ∀ i : Nat, i < 9 → ((2 ^ i : Int) % 256 - 1) % 256 = (allN i : Int) := by decide +kernel
theorem all_at (n : Int) (h0 : 0 ≤ n) (h8 : n ≤ 8) (w : World) : Calls Tryd.prog 52 #[.int .i64 n] w fun e w' => e = .returned (.tuple #[.int .u8 (allN n), .int .i64 0]) ∧ w = w' := by
  obtain ⟨i, rfl⟩ := Int.eq_ofNat_of_zero_le h0
  have HQ := Lib.hid (all_eq i (by omega))
  go_enter Tryd.func52, Tryd.ntmps52
  go_wp2_with fail
  go_ret2
  rw [HQ.out]
  exact ⟨rfl, rfl⟩
/-- The first node behind one, going round. -/
def nextL (l : List Nat) (n : Int) : Nat := (l.find? (fun i : Nat => decide (n < (i : Int)))).getD (l.headD 0)
theorem nextL_hit : ∀ (l : List Nat) (n : Int) (i : Nat), i < l.length → (∀ j, j < i → ¬ n < (l.getD j 0 : Int)) → n < (l.getD i 0 : Int) → nextL l n = l.getD i 0 := by
  intro l n
  suffices ∀ (l : List Nat) (i : Nat), i < l.length → (∀ j, j < i → ¬ n < (l.getD j 0 : Int)) → n < (l.getD i 0 : Int) → l.find? (fun i : Nat => decide (n < (i : Int))) = some (l.getD i 0) by
    intro i h1 h2 h3
    unfold nextL
    rw [this l i h1 h2 h3]
    rfl
  intro l
  induction l with
  | nil => intro i h; simp at h
  | cons x l ih =>
    intro i h1 h2 h3
    match i with
    | 0 =>
      have h3 : n < (x : Int) := h3
      simp [h3]
    | i + 1 =>
      have h0 : ¬ n < (x : Int) := h2 0 (by omega)
      rw [List.find?_cons_of_neg (by simpa using h0)]
      exact ih i (by simpa using h1) (fun j hj => h2 (j + 1) (by omega)) h3
theorem nextL_miss (l : List Nat) (n : Int) (h : ∀ j, j < l.length → ¬ n < (l.getD j 0 : Int)) : nextL l n = l.getD 0 0 := by
  unfold nextL
  rw [List.find?_eq_none.2]
  · cases l <;> rfl
  · intro x hx
    obtain ⟨j, hj, rfl⟩ := List.getElem_of_mem hx
    have := h j hj
    simpa [List.getD_eq_getElem?_getD, List.getElem?_eq_getElem hj] using this
def nextN (s : Nat) (n : Int) : Nat := nextL (nodesN s) n
theorem nodes_pos : ∀ t : Nat, t < 256 → 0 < t → 0 < (nodesN t).length := by decide +kernel
end Go.Proofs.YtdpcnbbaipdmjaaDoor
