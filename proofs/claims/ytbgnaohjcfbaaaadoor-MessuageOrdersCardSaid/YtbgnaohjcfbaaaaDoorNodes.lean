/- Package nodeset (layer 1): the small functions. -/
import Derived.Test.YtbgnaohjcfbaaaaDoorOwn
import Derived.Test.YtbgnaohjcfbaaaaDoorArgs
import Derived.Lib.Hide
namespace Go.Proofs.YtbgnaohjcfbaaaaDoor
open Go.RowKit
set_option linter.unusedVariables false
set_option linter.unusedSimpArgs false
attribute [local go_sem] World.cell?_alloc_lt

def tzN (t : Nat) : Nat := if t % 2 = 1 then 0 else if t / 2 % 2 = 1 then 1 else if t / 4 % 2 = 1 then 2 else if t / 8 % 2 = 1 then 3 else if t / 16 % 2 = 1 then 4 else if t / 32 % 2 = 1 then 5 else if t / 64 % 2 = 1 then 6 else if t / 128 % 2 = 1 then 7 else 8
def ocN (t : Nat) : Nat := t % 2 + t / 2 % 2 + t / 4 % 2 + t / 8 % 2 + t / 16 % 2 + t / 32 % 2 + t / 64 % 2 + t / 128 % 2
/-- The nodes of a set, rising. -/
def nodesN (t : Nat) : List Nat := (List.range 8).filter (fun i => t / 2 ^ i % 2 = 1)
def dropN (t : Nat) : Nat := t - 2 ^ tzN t
theorem ret_bool2 {a b : Bool} (h : a = b) : Ending.returned (.bool a) = .returned (.bool b) := by rw [h]
theorem and8 : ∀ t : Nat, t < 256 → 0 < t → bits BinOp.and IntKind.u8 (t : Int) ((t : Int) - 1) = (dropN t : Int) := by decide +kernel
theorem nodes_tz : ∀ t : Nat, t < 256 → 0 < t → nodesN t = tzN t :: nodesN (dropN t) ∧ dropN t < t := by decide +kernel
theorem nodes_lt : ∀ t : Nat, t < 256 → ∀ i ∈ nodesN t, i < 8 := by decide +kernel
theorem nodes_len : ∀ t : Nat, t < 256 → (nodesN t).length ≤ 8 := by decide +kernel
theorem info_int : (Tryd.prog.info? 3).map (fun i => (i.zero, i.size, i.bytes)) = some (some (.int .i64 0), 1, 8) := by kernel_rfl
def ofN (n : Nat) : Value := .int .i64 (n : Int)
theorem right_at (n : Int) (w : World) : Calls Tryd.prog 46 #[.int .i64 n] w fun e w' => e = .returned (.bool (decide (0 ≤ n ∧ n < 8))) ∧ w = w' := by
  by_cases h : 0 ≤ n
  · by_cases h2 : n < 8
    · have e : decide (0 ≤ n ∧ n < 8) = true := decide_eq_true ⟨h, h2⟩
      rw [e]
      go_enter Tryd.func46, Tryd.ntmps46
      go_wp2
      go_ret
      exact ⟨rfl, rfl⟩
    · have e : decide (0 ≤ n ∧ n < 8) = false := decide_eq_false (fun e => h2 e.2)
      rw [e]
      go_enter Tryd.func46, Tryd.ntmps46
      go_wp2
      go_ret
      exact ⟨rfl, rfl⟩
  · have e : decide (0 ≤ n ∧ n < 8) = false := decide_eq_false (fun e => h e.1)
    rw [e]
    go_enter Tryd.func46, Tryd.ntmps46
    go_wp2
    go_ret
    exact ⟨rfl, rfl⟩
def hasN (s : Nat) (n : Int) : Bool := decide (0 ≤ n ∧ n < 8) && decide (s / 2 ^ n.toNat % 2 = 1)
theorem has_eq : ∀ t : Nat, t < 256 → ∀ i : Nat, i < 8 → (bits BinOp.and IntKind.u8 ((t : Int) / 2 ^ i) 1 == 1) = decide (t / 2 ^ i % 2 = 1) := by decide +kernel
theorem has_at (s : Nat) (hs : s < 256) (n : Int) (w : World) : Calls Tryd.prog 21 #[.int .u8 s, .int .i64 n] w fun e w' => e = .returned (.bool (hasN s n)) ∧ w = w' := by
  by_cases h : 0 ≤ n ∧ n < 8
  · obtain ⟨i, rfl⟩ := Int.eq_ofNat_of_zero_le h.1
    have hi : i < 8 := by omega
    have he : decide (0 ≤ (i : Int) ∧ (i : Int) < 8) = true := decide_eq_true h
    have HE := Lib.hid he; clear he
    have HQ := Lib.hid (has_eq s hs i hi)
    go_enter Tryd.func21, Tryd.ntmps21
    go_wp2_with fail
    refine (right_at i w).mono ?_; rintro e w1 ⟨rfl, rfl⟩
    rw [HE.out]
    go_wp2_with fail
    go_ret
    refine ⟨ret_bool2 ?_, rfl⟩
    unfold hasN
    rw [HE.out]
    simpa using HQ.out
  · have he : decide (0 ≤ n ∧ n < 8) = false := decide_eq_false h
    have HE := Lib.hid he; clear he h
    go_enter Tryd.func21, Tryd.ntmps21
    go_wp2_with fail
    refine (right_at n w).mono ?_; rintro e w1 ⟨rfl, rfl⟩
    rw [HE.out]
    go_wp2_with fail
    go_ret
    refine ⟨ret_bool2 ?_, rfl⟩
    unfold hasN
    rw [HE.out]
    rfl
def allN (n : Int) : Nat := 2 ^ n.toNat - 1
theorem all_eq : ∀ i : Nat, i < 9 → ((2 ^ i : Int) % 256 - 1) % 256 = (allN i : Int) := by decide +kernel
/-- The first node behind one, going round. -/
def nextL (l : List Nat) (n : Int) : Nat := (l.find? (fun i : Nat => decide (n < (i : Int)))).getD (l.headD 0)
theorem nextL_hit : ∀ (l : List Nat) (n : Int) (i : Nat), i < l.length → (∀ j, j < i → ¬ n < (l.getD j 0 : Int)) → n < (l.getD i 0 : Int) → nextL l n = l.getD i 0 := by
  intro l n
  suffices ∀ (l : List Nat) (i : Nat), i < l.length → (∀ j, j < i → ¬ n < (l.getD j 0 : Int)) → n < (l.getD i 0 : Int) → l.find? (fun i : Nat => decide (n < (i : Int))) = some (l.getD i 0) by
    intro i h1 h2 h3
    unfold nextL
    rw [this l i h1 h2 h3]
    rfl
  intro l
  induction l with
  | nil => intro i h; simp at h
  | cons x l ih =>
    intro i h1 h2 h3
    match i with
    | 0 =>
      have h3 : n < (x : Int) := h3
      simp [h3]
    | i + 1 =>
      have h0 : ¬ n < (x : Int) := h2 0 (by omega)
      rw [List.find?_cons_of_neg (by simpa using h0)]
      exact ih i (by simpa using h1) (fun j hj => h2 (j + 1) (by omega)) h3
theorem nextL_miss (l : List Nat) (n : Int) (h : ∀ j, j < l.length → ¬ n < (l.getD j 0 : Int)) : nextL l n = l.getD 0 0 := by
  unfold nextL
  rw [List.find?_eq_none.2]
  · cases l <;> rfl
  · intro x hx
    obtain ⟨j, hj, rfl⟩ := List.getElem_of_mem hx
    have := h j hj
    simpa [List.getD_eq_getElem?_getD, List.getElem?_eq_getElem hj] using this
def nextN (s : Nat) (n : Int) : Nat := nextL (nodesN s) n
theorem nodes_pos : ∀ t : Nat, t < 256 → 0 < t → 0 < (nodesN t).length := by decide +kernel
end Go.Proofs.YtbgnaohjcfbaaaaDoor
