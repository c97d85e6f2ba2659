/- Package policy (layer 10). -/
import Derived.Test.YtdpcnbbaipdmjaaDoorNodes
namespace Go.Proofs.YtdpcnbbaipdmjaaDoor
open Go.RowKit
set_option linter.unusedVariables false
set_option linter.unusedSimpArgs false
attribute [local go_sem] World.cell?_alloc_lt

def pol (m : Int) (s : Nat) (n : Int) : Value := .agg #[.int .i64 m, .int .u8 s, .int .i64 n]
/-- What sets answers; what Check answers. -/
def setsE (s : Nat) (k : Int) : Int := if s = 0 then 1 else if s / 2 ^ k.toNat = 0 then 0 else 10
def chk (m : Int) (s : Nat) (n k : Int) : Int :=
  if k < 1 ∨ 8 < k then 3 else if m = 0 then 0 else if m = 1 ∨ m = 2 then setsE s k else if m = 3 then (if n < 0 ∨ k ≤ n then 10 else 0) else 1
theorem out_eq : ∀ t : Nat, t < 256 → ∀ i : Nat, i < 9 → (bits BinOp.andNot IntKind.u8 (t : Int) (allN i : Int) == 0) = decide (t / 2 ^ i = 0) := by decide +kernel
theorem allN_wf (i : Nat) (h : i < 9) : allN i < 256 := by revert i; decide
theorem sets_at (s : Nat) (hs : s < 256) (k : Int) (h0 : 0 ≤ k) (h8 : k ≤ 8) (w : World) : Calls Tryd.prog 40 #[.int .u8 s, .int .i64 k] w fun e w' => e = .returned (.int .i64 (setsE s k)) ∧ w = w' := by
  obtain ⟨i, rfl⟩ := Int.eq_ofNat_of_zero_le h0
  have ha := all_at i h0 h8
  have ho := out_eq s hs i (by omega)
  have HA := Lib.hid ha; clear ha
  by_cases h : s = 0
  · subst h
    have e : setsE 0 i = 1 := rfl
    rw [e]
    clear ho
    generalize allN i = al at *
    go_enter Tryd.func40, Tryd.ntmps40
    go_wp2_with fail
    refine (HA.out w).mono ?_; rintro e w1 ⟨rfl, rfl⟩
    go_wp2
    go_ret
    exact ⟨rfl, rfl⟩
  · have hsf : ((s : Int) == 0) = false := by rw [beq_eq_false_iff_ne]; omega
    by_cases h2 : s / 2 ^ i = 0
    · have e : setsE s i = 0 := by unfold setsE; rw [if_neg h, Int.toNat_natCast, if_pos h2]
      rw [e]
      rw [decide_eq_true h2] at ho
      clear h2 e
      have hbne : (!(bits BinOp.andNot IntKind.u8 (s : Int) (allN i : Int) == 0)) = false := by rw [ho]; rfl
      generalize allN i = al at *
      go_enter Tryd.func40, Tryd.ntmps40
      go_wp2_with fail
      refine (HA.out w).mono ?_; rintro e w1 ⟨rfl, rfl⟩
      go_wp2_with fail
      go_ret
      exact ⟨rfl, rfl⟩
    · have e : setsE s i = 10 := by unfold setsE; rw [if_neg h, Int.toNat_natCast, if_neg h2]
      rw [e]
      rw [decide_eq_false h2] at ho
      clear h2 e
      have hbne : (!(bits BinOp.andNot IntKind.u8 (s : Int) (allN i : Int) == 0)) = true := by rw [ho]; rfl
      generalize allN i = al at *
      go_enter Tryd.func40, Tryd.ntmps40
      go_wp2_with fail
      refine (HA.out w).mono ?_; rintro e w1 ⟨rfl, rfl⟩
      go_wp2_with fail
      go_ret
      exact ⟨rfl, rfl⟩
theorem check_at (m : Int) (s : Nat) (hs : s < 256) (n k : Int) (w : World) : Calls Tryd.prog 24 #[pol m s n, .int .i64 k] w fun e w' => e = .returned (.int .i64 (chk m s n k)) ∧ Below w.heap.size w w' := by
  unfold pol
  by_cases h1 : k < 1
  · have e : chk m s n k = 3 := by unfold chk; rw [if_pos (Or.inl h1)]
    rw [e]
    go_enter Tryd.func24, Tryd.ntmps24
    go_wp2_with fail
    go_ret
    exact ⟨rfl, (by repeat (first | exact Below.refl _ _ | assumption | with_reducible refine bel_alloc ?_ _ | with_reducible refine bel_drewN ?_ _ | with_reducible refine bel_drew ?_))⟩
  by_cases h2 : 8 < k
  · have e : chk m s n k = 3 := by unfold chk; rw [if_pos (Or.inr h2)]
    rw [e]
    go_enter Tryd.func24, Tryd.ntmps24
    go_wp2_with fail
    go_ret
    exact ⟨rfl, (by repeat (first | exact Below.refl _ _ | assumption | with_reducible refine bel_alloc ?_ _ | with_reducible refine bel_drewN ?_ _ | with_reducible refine bel_drew ?_))⟩
  have e : chk m s n k = if m = 0 then 0 else if m = 1 ∨ m = 2 then setsE s k else if m = 3 then (if n < 0 ∨ k ≤ n then 10 else 0) else 1 := by
    unfold chk; rw [if_neg (by omega)]
  rw [e]; clear e
  by_cases m0 : m = 0
  · subst m0
    rw [if_pos rfl]
    go_enter Tryd.func24, Tryd.ntmps24
    go_wp2_with fail
    go_ret
    exact ⟨rfl, (by repeat (first | exact Below.refl _ _ | assumption | with_reducible refine bel_alloc ?_ _ | with_reducible refine bel_drewN ?_ _ | with_reducible refine bel_drew ?_))⟩
  rw [if_neg m0]
  have b0 : (m == 0) = false := by rw [beq_eq_false_iff_ne]; exact m0
  by_cases m1 : m = 1
  · subst m1
    rw [if_pos (Or.inl rfl)]
    go_enter Tryd.func24, Tryd.ntmps24
    go_wp2_with fail
    refine (sets_at s hs k (by omega) (by omega) _).mono ?_; rintro e w1 ⟨rfl, rfl⟩
    go_wp2_with fail
    go_ret
    exact ⟨rfl, (by repeat (first | exact Below.refl _ _ | assumption | with_reducible refine bel_alloc ?_ _ | with_reducible refine bel_drewN ?_ _ | with_reducible refine bel_drew ?_))⟩
  have b1 : (m == 1) = false := by rw [beq_eq_false_iff_ne]; exact m1
  by_cases m2 : m = 2
  · subst m2
    rw [if_pos (Or.inr rfl)]
    go_enter Tryd.func24, Tryd.ntmps24
    go_wp2_with fail
    refine (sets_at s hs k (by omega) (by omega) _).mono ?_; rintro e w1 ⟨rfl, rfl⟩
    go_wp2_with fail
    go_ret
    exact ⟨rfl, (by repeat (first | exact Below.refl _ _ | assumption | with_reducible refine bel_alloc ?_ _ | with_reducible refine bel_drewN ?_ _ | with_reducible refine bel_drew ?_))⟩
  rw [if_neg (by omega)]
  have b2 : (m == 2) = false := by rw [beq_eq_false_iff_ne]; exact m2
  by_cases m3 : m = 3
  · subst m3
    rw [if_pos rfl]
    by_cases n0 : n < 0
    · rw [if_pos (Or.inl n0)]
      go_enter Tryd.func24, Tryd.ntmps24
      go_wp2_with fail
      go_ret
      exact ⟨rfl, (by repeat (first | exact Below.refl _ _ | assumption | with_reducible refine bel_alloc ?_ _ | with_reducible refine bel_drewN ?_ _ | with_reducible refine bel_drew ?_))⟩
    · by_cases n1 : k ≤ n
      · rw [if_pos (Or.inr n1)]
        go_enter Tryd.func24, Tryd.ntmps24
        go_wp2_with fail
        go_ret
        exact ⟨rfl, (by repeat (first | exact Below.refl _ _ | assumption | with_reducible refine bel_alloc ?_ _ | with_reducible refine bel_drewN ?_ _ | with_reducible refine bel_drew ?_))⟩
      · rw [if_neg (by omega)]
        go_enter Tryd.func24, Tryd.ntmps24
        go_wp2_with fail
        go_ret
        exact ⟨rfl, (by repeat (first | exact Below.refl _ _ | assumption | with_reducible refine bel_alloc ?_ _ | with_reducible refine bel_drewN ?_ _ | with_reducible refine bel_drew ?_))⟩
  rw [if_neg m3]
  have b3 : (m == 3) = false := by rw [beq_eq_false_iff_ne]; exact m3
  clear m0 m1 m2 m3
  go_enter Tryd.func24, Tryd.ntmps24
  go_wp2_with fail
  go_ret
  exact ⟨rfl, (by repeat (first | exact Below.refl _ _ | assumption | with_reducible refine bel_alloc ?_ _ | with_reducible refine bel_drewN ?_ _ | with_reducible refine bel_drew ?_))⟩
end Go.Proofs.YtdpcnbbaipdmjaaDoor
