/- messuageref03: Digits, row. -/
import Derived.Test.YtbgnaohjcfbaaaaDoorTopoText1
import Derived.Laws.BytesArg
namespace Go.Proofs.YtbgnaohjcfbaaaaDoor
open Go.RowKit Go.Shelf
set_option linter.unusedVariables false
set_option linter.unusedSimpArgs false
attribute [local go_sem] World.cell?_alloc_lt

theorem conv_one (w : World) (g x : Nat) (hc : w.cell? ⟨g, 0, none⟩ = some (.int .u8 (x : Int))) : (convert 34 9 (.slice (some ⟨g, 0, none⟩) 1 1)).run Tryd.prog w = .ok (.string (bytesOf [UInt8.ofNat x])) w := by
  have h := run_convert_bytes_arg w 34 5 Tryd.underlying34 Tryd.underlying5 g 0 1 1 [(x : Int)] rfl (fun i hi => by
    obtain rfl : i = 0 := by simpa using hi
    exact hc) 9 Tryd.underlying9
  rw [h]
  simp [strOfNums, bytesOf]
theorem bytes_add (a b : List UInt8) : bytesOf a ++ bytesOf b = bytesOf (a ++ b) := by
  apply bytes_inj
  show ((bytesOf a) ++ (bytesOf b)).data.toList = _
  rw [ByteArray.data_append]
  simp [bytesOf]
theorem bytes_size (a : List UInt8) : (bytesOf a).size = a.length := rfl
theorem dec_step (n : Nat) (h : n < 10000) : dec4 n = (if n / 10 = 0 then [] else dec4 (n / 10)) ++ [dg8 (n % 10)] := by
  unfold dec4
  by_cases h1 : n < 10
  · rw [if_pos h1, if_pos (by omega), Nat.mod_eq_of_lt h1]; rfl
  · rw [if_neg h1, if_neg (show ¬ n / 10 = 0 by omega)]
    by_cases h2 : n < 100
    · rw [if_pos h2, if_pos (by omega)]; rfl
    · rw [if_neg h2, if_neg (show ¬ n / 10 < 10 by omega)]
      by_cases h3 : n < 1000
      · rw [if_pos h3, if_pos (by omega), show n / 10 / 10 = n / 100 by omega]; rfl
      · rw [if_neg h3, if_neg (show ¬ n / 10 < 100 by omega), if_pos (by omega), show n / 10 / 100 = n / 1000 by omega, show n / 10 / 10 = n / 100 by omega]; rfl
def empV : Value → Nat
  | .string s => if s.size = 0 then 1 else 0
  | _ => 0
theorem body_take (word : List UInt8) (l : List Int) (i : Nat) (x : Int) (h : l[i]? = some x) : bodyL word (l.take (i + 1)) = bodyL word (l.take i) ++ [32] ++ numB x := by
  unfold bodyL
  rw [List.take_add_one, h, List.flatMap_append]
  simp
theorem body_len (word : List UInt8) : ∀ (l : List Int), (bodyL word l).length ≤ word.length + 5 * l.length := by
  intro l
  unfold bodyL
  rw [List.length_append]
  have : (l.flatMap fun n => 32 :: numB n).length ≤ 5 * l.length := by
    induction l with
    | nil => simp
    | cons n l ih =>
      have := dec_len n.toNat
      rw [List.flatMap_cons, List.length_append, List.length_cons, List.length_cons]
      unfold numB at ih ⊢
      omega
  omega
end Go.Proofs.YtbgnaohjcfbaaaaDoor
