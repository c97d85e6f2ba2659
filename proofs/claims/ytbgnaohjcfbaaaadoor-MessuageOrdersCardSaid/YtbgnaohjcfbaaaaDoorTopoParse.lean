/- topo.Parse: what it computes. -/
import Derived.Test.YtbgnaohjcfbaaaaDoorTopoEnd
namespace Go.Proofs.YtbgnaohjcfbaaaaDoor
open Go.RowKit Go.Shelf
set_option linter.unusedVariables false
set_option linter.unusedSimpArgs false
attribute [local go_sem] World.cell?_alloc_lt

def nodesW : ByteArray := ⟨#[110, 111, 100, 101, 115]⟩
def framesW : ByteArray := ⟨#[102, 114, 97, 109, 101, 115]⟩
def cpusW : ByteArray := ⟨#[99, 112, 117, 115]⟩
def distW : ByteArray := ⟨#[100, 105, 115, 116]⟩
/-- The rows behind k lines more, and the reader. -/
def distR (ls : List ByteArray) (r : Rd) : Nat → List (List Int) × Rd
  | 0 => ([], r)
  | k + 1 => ((distR ls r k).1 ++ [(takeR ls distW false (distR ls r k).2).1], (takeR ls distW false (distR ls r k).2).2)
/-- What is read of a text's lines, ahead of the check. -/
structure Read where
  N : Int
  F : Int
  C : List Int
  D : List (List Int)
  r : Rd
def readL (ls : List ByteArray) (whole : Bool) : Read :=
  let r1 := (takeR ls nodesW true ⟨0, false⟩).2
  let r2 := (takeR ls framesW true r1).2
  let r3 := (takeR ls cpusW false r2).2
  let N := singleV ls nodesW ⟨0, false⟩
  ⟨N, singleV ls framesW r1, (takeR ls cpusW false r2).1, (distR ls r3 N.toNat).1, endR ls.length whole (distR ls r3 N.toNat).2⟩
def readT (x : ByteArray) : Read := readL (wordsB 10 x).dropLast (decide ((wordsB 10 x).getLast? = some ⟨#[]⟩))
theorem take_at (ls : List ByteArray) (word : ByteArray) (one : Bool) (r : Rd) : (takeR ls word one r).2.at_ ≤ r.at_ + 1 := by
  unfold takeR
  split
  · simp
  · split <;> simp
theorem dist_at (ls : List ByteArray) (r : Rd) (k : Nat) : (distR ls r k).2.at_ ≤ r.at_ + k := by
  induction k with
  | zero => simp [distR]
  | succ k ih =>
    have := take_at ls distW false (distR ls r k).2
    simp only [distR]
    omega
theorem num_bd (x : ByteArray) : 0 ≤ (numT x).1 ∧ (numT x).1 < 10000 := by
  unfold numT
  split
  · next h =>
    unfold okNum at h
    rw [Bool.and_eq_true, Bool.and_eq_true] at h
    have h1 := of_decide_eq_true h.1
    have h2 := valT_lt _ h.2.2
    rw [len_dataT] at h2
    have h3 : 10 ^ x.size ≤ 10 ^ 4 := Nat.pow_le_pow_right (by omega) (by omega)
    simp only
    omega
  · simp
theorem take_bd (ls : List ByteArray) (word : ByteArray) (one : Bool) (r : Rd) : ∀ v ∈ (takeR ls word one r).1, 0 ≤ v ∧ v < 10000 := by
  intro v hv
  unfold takeR at hv
  split at hv
  · simp at hv
  · split at hv
    · simp at hv
    · simp only [numsT, List.mem_map] at hv
      obtain ⟨x, _, rfl⟩ := hv
      exact num_bd x
theorem single_bd (ls : List ByteArray) (word : ByteArray) (r : Rd) : 0 ≤ singleV ls word r ∧ singleV ls word r < 10000 := by
  unfold singleV
  split
  · omega
  · next h =>
    have hl := take_some (ls := ls) (word := word) (one := true) (r := r) (by simpa using h)
    rw [List.getD_eq_getElem?_getD, List.getElem?_eq_getElem hl]
    exact take_bd ls word true r _ (List.getElem_mem hl)
theorem tops_yes : (readT ⟨#[110, 111, 100, 101, 115, 32, 49, 10, 102, 114, 97, 109, 101, 115, 32, 52, 10, 99, 112, 117, 115, 32, 48, 32, 48, 10, 100, 105, 115, 116, 32, 49, 48, 10]⟩).N = 1 := by decide +kernel
end Go.Proofs.YtbgnaohjcfbaaaaDoor
