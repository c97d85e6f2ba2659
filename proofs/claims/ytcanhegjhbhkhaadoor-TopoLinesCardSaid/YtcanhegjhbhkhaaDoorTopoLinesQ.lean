/- The law TopoLines: how its loops come along (plain). -/
import Derived.Test.YtcanhegjhbhkhaaDoorTopoLinesP
namespace Go.Proofs.YtcanhegjhbhkhaaDoor
open Go.RowKit Go.Shelf
set_option linter.unusedVariables false
set_option linter.unusedSimpArgs false

def lnB (b : List UInt8) : ByteArray := bytesOf (b ++ [10])
/-- Where line j begins. -/
def begL (Ls : List (List UInt8)) (j : Nat) : Nat := (flatB (Ls.take j)).length
theorem flat_append (a b : List (List UInt8)) : flatB (a ++ b) = flatB a ++ flatB b := by unfold flatB; simp
theorem flat_cons (b : List UInt8) (r : List (List UInt8)) : flatB (b :: r) = b ++ 10 :: flatB r := by unfold flatB; simp
theorem flat_drop (Ls : List (List UInt8)) (j : Nat) : (flatB Ls).drop (begL Ls j) = flatB (Ls.drop j) := by
  unfold begL
  conv => lhs; rw [show Ls = Ls.take j ++ Ls.drop j from (List.take_append_drop j Ls).symm]
  rw [flat_append]
  have : (List.take j (Ls.take j ++ Ls.drop j)) = Ls.take j := by rw [List.take_append_drop]
  rw [this, List.drop_left]
theorem beg_succ {Ls : List (List UInt8)} {j : Nat} {b : List UInt8} (h : Ls[j]? = some b) : begL Ls (j + 1) = begL Ls j + b.length + 1 := by
  unfold begL
  rw [List.take_add_one, h]
  show (flatB (_ ++ [b])).length = _
  rw [flat_append, List.length_append, flat_cons]
  simp [flatB]
  omega
theorem beg_all (Ls : List (List UInt8)) : begL Ls Ls.length = (flatB Ls).length := by unfold begL; rw [List.take_length]
theorem beg_le (Ls : List (List UInt8)) (j : Nat) : begL Ls j ≤ (flatB Ls).length := by
  unfold begL
  conv => rhs; rw [show Ls = Ls.take j ++ Ls.drop j from (List.take_append_drop j Ls).symm, flat_append, List.length_append]
  omega
/-- How far the cutting has come: j lines, the next one begins at f, i is looked at. -/
structure LnAt (Ls : List (List UInt8)) (j f i : Nat) : Prop where
  jn : j ≤ Ls.length
  f_ : f = begL Ls j
  lo : f ≤ i
  hi : ∀ b, Ls[j]? = some b → i ≤ f + b.length
  en : j = Ls.length → i = f
theorem LnAt.zero (Ls : List (List UInt8)) : LnAt Ls 0 0 0 := ⟨Nat.zero_le _, rfl, Nat.le_refl _, fun b _ => Nat.zero_le _, fun _ => rfl⟩
theorem LnAt.le {Ls : List (List UInt8)} {j f i : Nat} (h : LnAt Ls j f i) : i ≤ (flatB Ls).length := by
  by_cases hj : j < Ls.length
  · have hb : Ls[j]? = some Ls[j] := List.getElem?_eq_getElem hj
    have h1 := h.hi _ hb
    have h2 := beg_succ hb
    have h3 := beg_le Ls (j + 1)
    have h4 := h.f_
    omega
  · have := h.en (by have := h.jn; omega)
    have h4 := h.f_
    have h3 := beg_le Ls j
    omega
theorem LnAt.look {Ls : List (List UInt8)} {j f i : Nat} (h : LnAt Ls j f i) (hi : i < (flatB Ls).length) : ∃ b, Ls[j]? = some b ∧ j < Ls.length ∧ i ≤ f + b.length ∧ (flatB Ls)[i]? = (b ++ [10])[i - f]? := by
  have hj : j < Ls.length := by
    rcases Nat.lt_or_ge j Ls.length with h1 | h1
    · exact h1
    · have h2 := h.jn
      obtain rfl : j = Ls.length := by omega
      have := h.en rfl
      have h4 := h.f_
      rw [beg_all] at h4
      omega
  have hb : Ls[j]? = some Ls[j] := List.getElem?_eq_getElem hj
  refine ⟨Ls[j], hb, hj, h.hi _ hb, ?_⟩
  have hd := flat_drop Ls j
  rw [← h.f_] at hd
  have hlo := h.lo
  have e : (flatB Ls)[i]? = ((flatB Ls).drop f)[i - f]? := by
    rw [List.getElem?_drop]
    congr 1
    omega
  rw [e, hd, List.drop_eq_getElem_cons hj, flat_cons]
  have hle := h.hi _ hb
  rw [show Ls[j] ++ 10 :: flatB (Ls.drop (j + 1)) = (Ls[j] ++ [10]) ++ flatB (Ls.drop (j + 1)) by simp]
  rw [List.getElem?_append_left (by rw [List.length_append, List.length_singleton]; omega)]
/-- No line's end. -/
theorem LnAt.step {Ls : List (List UInt8)} {j f i : Nat} (h : LnAt Ls j f i) (hi : i < (flatB Ls).length) (hne : (flatB Ls)[i]? ≠ some 10) : LnAt Ls j f (i + 1) := by
  obtain ⟨b, hb, hj, hle, hg⟩ := h.look hi
  have hlt : i ≠ f + b.length := by
    intro e
    apply hne
    rw [hg, e]
    simp
  refine ⟨h.jn, h.f_, by have := h.lo; omega, fun b' hb' => ?_, fun e => by omega⟩
  rw [hb] at hb'
  injection hb' with hb'
  subst hb'
  omega
/-- A line's end. -/
theorem LnAt.cut {Ls : List (List UInt8)} {j f i : Nat} (hno : ∀ b ∈ Ls, ∀ x ∈ b, x ≠ 10) (h : LnAt Ls j f i) (hi : i < (flatB Ls).length) (he : (flatB Ls)[i]? = some 10) :
    ∃ b, Ls[j]? = some b ∧ LnAt Ls (j + 1) (i + 1) (i + 1) ∧ ((flatB Ls).drop f).take (i + 1 - f) = b ++ [10] := by
  obtain ⟨b, hb, hj, hle, hg⟩ := h.look hi
  have hlo := h.lo
  have hlt : i = f + b.length := by
    rcases Nat.lt_or_ge i (f + b.length) with h1 | h1
    · exfalso
      rw [hg, List.getElem?_append_left (by omega)] at he
      exact hno b (List.mem_of_getElem? hb) 10 (List.mem_of_getElem? he) rfl
    · omega
  have hs := beg_succ hb
  have hf := h.f_
  refine ⟨b, hb, ⟨by omega, by omega, Nat.le_refl _, fun b' _ => Nat.le_add_right _ _, fun _ => rfl⟩, ?_⟩
  have hd := flat_drop Ls j
  rw [← h.f_] at hd
  have hbe : Ls[j] = b := by
    have := List.getElem?_eq_getElem hj
    rw [this] at hb
    injection hb
  rw [hd, List.drop_eq_getElem_cons hj, hbe, flat_cons, show b ++ 10 :: flatB (Ls.drop (j + 1)) = (b ++ [10]) ++ flatB (Ls.drop (j + 1)) by simp]
  rw [List.take_append_of_le_length (by rw [List.length_append, List.length_singleton]; omega), List.take_of_length_le (by rw [List.length_append, List.length_singleton]; omega)]
theorem LnAt.done {Ls : List (List UInt8)} {j f i : Nat} (h : LnAt Ls j f i) (hi : ¬ i < (flatB Ls).length) : j = Ls.length := by
  rcases Nat.lt_or_ge j Ls.length with h1 | h1
  · exfalso
    have hb : Ls[j]? = some Ls[j] := List.getElem?_eq_getElem h1
    have h2 := h.hi _ hb
    have h3 := beg_succ hb
    have h4 := beg_le Ls (j + 1)
    have h5 := h.f_
    omega
  · have := h.jn
    omega
/-- The text ahead of line i. -/
def sofar (Ls : List (List UInt8)) (k : Nat) (twice : Bool) (i : Nat) : List (List UInt8) := if i ≤ k then Ls.take i else bentL (Ls.take i) k twice
theorem sofar_all {Ls : List (List UInt8)} {k : Nat} {twice : Bool} (hk : k < Ls.length) : sofar Ls k twice Ls.length = bentL Ls k twice := by
  unfold sofar
  rw [if_neg (by omega), List.take_length]
theorem sofar_zero (Ls : List (List UInt8)) (k : Nat) (twice : Bool) : sofar Ls k twice 0 = [] := by unfold sofar; rw [if_pos (by omega)]; rfl
theorem sofar_plain {Ls : List (List UInt8)} {k i : Nat} {twice : Bool} {b : List UInt8} (hb : Ls[i]? = some b) (hne : i ≠ k) : sofar Ls k twice (i + 1) = sofar Ls k twice i ++ [b] := by
  have hi := (List.getElem?_eq_some_iff.1 hb).1
  unfold sofar
  by_cases h : i + 1 ≤ k
  · rw [if_pos h, if_pos (by omega), List.take_add_one, hb]; rfl
  · rw [if_neg h, if_neg (by omega)]
    have hl : (Ls.take i).length = i := by rw [List.length_take]; omega
    rw [List.take_add_one, hb]
    show bentL (Ls.take i ++ [b]) k twice = _
    unfold bentL
    cases twice with
    | true =>
      simp only [if_true]
      rw [List.take_append_of_le_length (by omega), List.drop_append_of_le_length (by omega), List.append_assoc]
    | false =>
      simp only [Bool.false_eq_true, if_false]
      rw [List.take_append_of_le_length (by omega), List.drop_append_of_le_length (by omega), List.append_assoc]
theorem sofar_none {Ls : List (List UInt8)} {k : Nat} (hk : k < Ls.length) : sofar Ls k false (k + 1) = sofar Ls k false k := by
  unfold sofar
  rw [if_neg (by omega), if_pos (Nat.le_refl _)]
  unfold bentL
  simp only [Bool.false_eq_true, if_false]
  rw [List.take_take, Nat.min_eq_left (by omega), List.drop_eq_nil_of_le (by rw [List.length_take]; omega), List.append_nil]
theorem sofar_two {Ls : List (List UInt8)} {k : Nat} {b : List UInt8} (hb : Ls[k]? = some b) : sofar Ls k true (k + 1) = sofar Ls k true k ++ [b] ++ [b] := by
  have hk := (List.getElem?_eq_some_iff.1 hb).1
  unfold sofar
  rw [if_neg (by omega), if_pos (Nat.le_refl _)]
  unfold bentL
  simp only [if_true]
  rw [List.take_take, Nat.min_self, List.take_add_one, hb]
  have hl : (Ls.take k).length = k := by rw [List.length_take]; omega
  simp only [Option.toList_some]
  rw [List.drop_append_of_le_length (by omega), List.drop_eq_nil_of_le (by omega)]
  simp
theorem sofar_len (Ls : List (List UInt8)) (k : Nat) (twice : Bool) (i : Nat) : ∀ b ∈ sofar Ls k twice i, b ∈ Ls := by
  intro b hb
  unfold sofar at hb
  split at hb
  · exact List.mem_of_mem_take hb
  · unfold bentL at hb
    split at hb
    · rcases List.mem_append.1 hb with hb | hb
      · exact List.mem_of_mem_take (List.mem_of_mem_take hb)
      · exact List.mem_of_mem_take (List.mem_of_mem_drop hb)
    · rcases List.mem_append.1 hb with hb | hb
      · exact List.mem_of_mem_take (List.mem_of_mem_take hb)
      · exact List.mem_of_mem_take (List.mem_of_mem_drop hb)
theorem sofar_count (Ls : List (List UInt8)) (k : Nat) (twice : Bool) (i : Nat) : (sofar Ls k twice i).length ≤ Ls.length + 1 := by
  unfold sofar
  split
  · rw [List.length_take]; omega
  · unfold bentL
    split
    · simp only [List.length_append, List.length_take, List.length_drop]; omega
    · simp only [List.length_append, List.length_take, List.length_drop]; omega
theorem sofar_size {Ls : List (List UInt8)} {M : Nat} (hM : ∀ b ∈ Ls, b.length ≤ M) (k : Nat) (twice : Bool) (i : Nat) : (flatB (sofar Ls k twice i)).length ≤ (M + 1) * (Ls.length + 1) := by
  have h := flat_len (sofar Ls k twice i) M (fun b hb => hM b (sofar_len Ls k twice i b hb))
  have h2 := sofar_count Ls k twice i
  have h3 := Nat.mul_le_mul_left (M + 1) h2
  omega
theorem add_line (Ls : List (List UInt8)) (b : List UInt8) : bytesOf (flatB Ls) ++ lnB b = bytesOf (flatB (Ls ++ [b])) := by
  unfold lnB
  rw [bytes_add, flat_snoc]
end Go.Proofs.YtcanhegjhbhkhaaDoor
