/- Package nodeset: digit, Text. -/
import Derived.Test.YtbgnaohjcfbaaaaDoorNodes
import Derived.Test.YtbgnaohjcfbaaaaDoorOwnRows
import Derived.Test.YtbgnaohjcfbaaaaDoorShelf
import Derived.Lib.Join
import Derived.WalkLawsBesides
import Derived.Deep.DeepCutAuto
import Derived.Outline
namespace Go.Proofs.YtbgnaohjcfbaaaaDoor
open Go.RowKit
set_option linter.unusedVariables false
set_option linter.unusedSimpArgs false
attribute [local go_sem] World.cell?_alloc_lt

def digB (n : Nat) : ByteArray := ⟨#[UInt8.ofNat (48 + n)]⟩
set_option maxRecDepth 100000 in
theorem dig_conv : ∀ n : Nat, n < 8 → ∀ w : World, (convert 21 9 (.int .i32 (48 + (n : Int)))).run Tryd.prog w = .ok (.string (digB n)) w := by
  intro n hn
  rcases (by omega : n = 0 ∨ n = 1 ∨ n = 2 ∨ n = 3 ∨ n = 4 ∨ n = 5 ∨ n = 6 ∨ n = 7) with rfl | rfl | rfl | rfl | rfl | rfl | rfl | rfl <;> (intro w; rfl)
def bitN (s i : Nat) : Bool := decide (i < 8) && decide (s / 2 ^ i % 2 = 1)
theorem has_bit (s i : Nat) : hasN s (i : Int) = bitN s i := by
  unfold hasN bitN
  rw [Int.toNat_natCast]
  congr 1
  by_cases h : i < 8
  · rw [decide_eq_true (show (0 : Int) ≤ (i : Int) ∧ (i : Int) < 8 by omega), decide_eq_true h]
  · rw [decide_eq_false (show ¬ ((0 : Int) ≤ (i : Int) ∧ (i : Int) < 8) by omega), decide_eq_false h]
def lastF (s : Nat) : Nat → Nat → Nat
  | 0, i => i
  | f + 1, i => if bitN s (i + 1) = true then lastF s f (i + 1) else i
def lastN (s i : Nat) : Nat := lastF s 8 i
def restF (s : Nat) : Nat → Nat → List (Nat × Nat)
  | 0, _ => []
  | f + 1, n => if n < 8 then (if bitN s n = true then (if lastN s n < n + 2 then (n, n) :: restF s f (n + 1) else (n, lastN s n) :: restF s f (lastN s n + 1)) else restF s f (n + 1)) else []
def restN (s n : Nat) : List (Nat × Nat) := restF s 9 n
def partsN (s : Nat) : List (Nat × Nat) := restN s 0
theorem last_step : ∀ s : Nat, s < 256 → ∀ i : Nat, i < 8 → bitN s (i + 1) = true → lastN s (i + 1) = lastN s i ∧ i + 1 < 8 := by decide +kernel
theorem last_stop : ∀ s : Nat, s < 256 → ∀ i : Nat, i < 8 → bitN s (i + 1) = false → lastN s i = i := by decide +kernel
theorem rest_no : ∀ s : Nat, s < 256 → ∀ n : Nat, n < 8 → bitN s n = false → restN s (n + 1) = restN s n := by decide +kernel
theorem rest_one : ∀ s : Nat, s < 256 → ∀ n : Nat, n < 8 → (bitN s n && decide (lastN s n < n + 2)) = true → restN s n = (n, n) :: restN s (n + 1) := by decide +kernel
theorem rest_two : ∀ s : Nat, s < 256 → ∀ n : Nat, n < 8 → (bitN s n && decide (n + 2 ≤ lastN s n)) = true → restN s n = (n, lastN s n) :: restN s (lastN s n + 1) ∧ lastN s n < 8 := by decide +kernel
theorem rest_end : ∀ s : Nat, s < 256 → restN s 8 = [] := by decide +kernel
theorem parts_len : ∀ s : Nat, s < 256 → (partsN s).length ≤ 8 := by decide +kernel
def partB (p : Nat × Nat) : ByteArray := if p.1 = p.2 then digB p.1 else digB p.1 ++ ⟨#[45]⟩ ++ digB p.2
def partV (p : Nat × Nat) : Value := .string (partB p)
/-- A set's text. -/
def textB (s : Nat) : ByteArray := if (partsN s).length = 0 then ⟨#[110, 111, 110, 101]⟩ else ⟨(Lib.join (((partsN s).map partB).map (·.data.toList)) [44]).toArray⟩
theorem text_len : ∀ s : Nat, s < 256 → (Lib.join (((partsN s).map partB).map (·.data.toList)) [44]).length ≤ 60 := by decide +kernel
theorem info_str : (Tryd.prog.info? 9).map (fun i => (i.zero, i.size, i.bytes)) = some (some (.string ByteArray.empty), 1, 16) := by kernel_rfl
end Go.Proofs.YtbgnaohjcfbaaaaDoor
