/- messuageref03.Parse: what it computes, line by line (plain). -/
import Derived.Test.YtcanhegjhbhkhaaDoorTopoRCut
namespace Go.Proofs.YtcanhegjhbhkhaaDoor
open Go.RowKit Go.Shelf
set_option linter.unusedVariables false
set_option linter.unusedSimpArgs false

/-- The numbers of a line, and whether it is one. -/
def lineV (s word : ByteArray) (one : Bool) : List Int × Bool :=
  if (headBad (wordsB 32 s) word one || (wordsB 32 s).tail.any noNum) = true then ([], false) else (numsT (wordsB 32 s).tail, true)
def wordI (i : Nat) : ByteArray := if i = 0 then nodesW else if i = 1 then framesW else if i = 2 then cpusW else distW
def rdI (ls : List ByteArray) : Nat → Rd
  | 0 => ⟨0, false⟩
  | i + 1 => (takeR ls (wordI i) (decide (i < 2)) (rdI ls i)).2
def numsI (ls : List ByteArray) (i : Nat) : List Int := (takeR ls (wordI i) (decide (i < 2)) (rdI ls i)).1
theorem takeR_bad {ls : List ByteArray} {word : ByteArray} {one : Bool} {r : Rd} (h : r.bad = true) : takeR ls word one r = ([], r) := by
  unfold takeR
  rw [if_pos h]
theorem takeR_out {ls : List ByteArray} {word : ByteArray} {one : Bool} {i : Nat} (h : ls.length ≤ i) : takeR ls word one ⟨i, false⟩ = ([], ⟨i + 1, true⟩) := by
  unfold takeR
  rw [if_neg (by simp), if_pos (by simp only; omega)]
theorem takeR_in {ls : List ByteArray} {word s : ByteArray} {one : Bool} {i : Nat} (h : ls[i]? = some s) :
    takeR ls word one ⟨i, false⟩ = (numsT (wordsB 32 s).tail, ⟨i + 1, !(lineV s word one).2⟩) := by
  have hi : i < ls.length := (List.getElem?_eq_some_iff.1 h).1
  unfold takeR lineV
  rw [if_neg (by simp), if_neg (by simp only; omega)]
  rw [show ls.getD i ByteArray.empty = s from by rw [List.getD_eq_getElem?_getD, h]; rfl]
  cases hb : (headBad (wordsB 32 s) word one || (wordsB 32 s).tail.any noNum) <;> simp
theorem rdI_stays {ls : List ByteArray} {i : Nat} (h : (rdI ls i).bad = true) : ∀ j, rdI ls (i + j) = rdI ls i
  | 0 => rfl
  | j + 1 => by
    have ih := rdI_stays h j
    show (takeR ls (wordI (i + j)) (decide (i + j < 2)) (rdI ls (i + j))).2 = _
    rw [ih, takeR_bad h]
theorem rdI_ok {ls : List ByteArray} : ∀ {i : Nat}, (rdI ls i).bad = false → rdI ls i = ⟨i, false⟩
  | 0, _ => rfl
  | i + 1, h => by
    have hp : (rdI ls i).bad = false := by
      cases hb : (rdI ls i).bad with
      | false => rfl
      | true =>
        have := rdI_stays hb 1
        rw [this, hb] at h
        cases h
    have ih := rdI_ok hp
    have e : rdI ls (i + 1) = (takeR ls (wordI i) (decide (i < 2)) (rdI ls i)).2 := rfl
    rw [e, ih] at h ⊢
    by_cases hl : ls.length ≤ i
    · rw [takeR_out hl] at h
      cases h
    · have hz : ls[i]? = some (ls[i]'(by omega)) := List.getElem?_eq_getElem (by omega)
      rw [takeR_in hz] at h ⊢
      simp only at h ⊢
      rw [h]
theorem rdI_next {ls : List ByteArray} {i : Nat} {s : ByteArray} (h : rdI ls i = ⟨i, false⟩) (hz : ls[i]? = some s) : rdI ls (i + 1) = ⟨i + 1, !(lineV s (wordI i) (decide (i < 2))).2⟩ := by
  have e : rdI ls (i + 1) = (takeR ls (wordI i) (decide (i < 2)) (rdI ls i)).2 := rfl
  rw [e, h, takeR_in hz]
theorem rdI_out {ls : List ByteArray} {i : Nat} (h : rdI ls i = ⟨i, false⟩) (hz : ls.length ≤ i) : rdI ls (i + 1) = ⟨i + 1, true⟩ := by
  have e : rdI ls (i + 1) = (takeR ls (wordI i) (decide (i < 2)) (rdI ls i)).2 := rfl
  rw [e, h, takeR_out hz]
theorem numsI_of {ls : List ByteArray} {i : Nat} {s : ByteArray} (h : rdI ls i = ⟨i, false⟩) (hz : ls[i]? = some s) (hl : (lineV s (wordI i) (decide (i < 2))).2 = true) : numsI ls i = (lineV s (wordI i) (decide (i < 2))).1 := by
  unfold numsI
  rw [h, takeR_in hz]
  unfold lineV at hl ⊢
  cases hb : (headBad (wordsB 32 s) (wordI i) (decide (i < 2)) || (wordsB 32 s).tail.any noNum) with
  | true => rw [hb] at hl; simp at hl
  | false => simp
theorem lineV_some {s word : ByteArray} {one : Bool} (h : (lineV s word one).2 = true) : 0 < (lineV s word one).1.length := by
  unfold lineV at h ⊢
  cases hb : (headBad (wordsB 32 s) word one || (wordsB 32 s).tail.any noNum) with
  | true => rw [hb] at h; simp at h
  | false =>
    rw [if_neg (by simp)]
    rw [Bool.or_eq_false_iff] at hb
    have h1 := hb.1
    unfold headBad at h1
    simp only [Bool.or_eq_false_iff, decide_eq_false_iff_not] at h1
    unfold numsT
    rw [List.length_map, List.length_tail]
    omega
theorem distR_I (ls : List ByteArray) : ∀ k, distR ls (rdI ls 3) k = ((List.range k).map (fun j => numsI ls (3 + j)), rdI ls (3 + k))
  | 0 => rfl
  | k + 1 => by
    have ih := distR_I ls k
    have e : distR ls (rdI ls 3) (k + 1) = ((distR ls (rdI ls 3) k).1 ++ [(takeR ls distW false (distR ls (rdI ls 3) k).2).1], (takeR ls distW false (distR ls (rdI ls 3) k).2).2) := rfl
    have hw : wordI (3 + k) = distW := by unfold wordI; rw [if_neg (by omega), if_neg (by omega), if_neg (by omega)]
    have hd : decide (3 + k < 2) = false := decide_eq_false (by omega)
    rw [e, ih, List.range_succ, List.map_append]
    have e2 : rdI ls (3 + (k + 1)) = (takeR ls (wordI (3 + k)) (decide (3 + k < 2)) (rdI ls (3 + k))).2 := rfl
    have e3 : numsI ls (3 + k) = (takeR ls (wordI (3 + k)) (decide (3 + k < 2)) (rdI ls (3 + k))).1 := rfl
    rw [e2]
    simp only [List.map_cons, List.map_nil, e3, hw, hd]
/-- How many nodes are told, ahead of line i. -/
def nodI (ls : List ByteArray) (i : Nat) : Int := if 1 ≤ i then (numsI ls 0).getD 0 0 else 0
def frmI (ls : List ByteArray) (i : Nat) : Int := if 2 ≤ i then (numsI ls 1).getD 0 0 else 0
def cpuI (ls : List ByteArray) (i : Nat) : List Int := if 3 ≤ i then numsI ls 2 else []
def dstI (ls : List ByteArray) (i : Nat) : List (List Int) := (List.range (i - 3)).map fun j => numsI ls (3 + j)
theorem rdI_pre {ls : List ByteArray} {i j : Nat} (h : (rdI ls i).bad = false) (hj : j ≤ i) : (rdI ls j).bad = false := by
  cases hb : (rdI ls j).bad with
  | false => rfl
  | true =>
    have := rdI_stays hb (i - j)
    rw [show j + (i - j) = i by omega] at this
    rw [this, hb] at h
    cases h
theorem singleV_0 {ls : List ByteArray} : singleV ls nodesW ⟨0, false⟩ = if (rdI ls 1).bad = true then 0 else (numsI ls 0).getD 0 0 := rfl
theorem singleV_1 {ls : List ByteArray} : singleV ls framesW (rdI ls 1) = if (rdI ls 2).bad = true then 0 else (numsI ls 1).getD 0 0 := rfl
theorem readL_I (ls : List ByteArray) (whole : Bool) : readL ls whole = ⟨singleV ls nodesW ⟨0, false⟩, singleV ls framesW (rdI ls 1), numsI ls 2, (List.range (singleV ls nodesW ⟨0, false⟩).toNat).map (fun j => numsI ls (3 + j)), endR ls.length whole (rdI ls (3 + (singleV ls nodesW ⟨0, false⟩).toNat))⟩ := by
  have e : readL ls whole = ⟨singleV ls nodesW ⟨0, false⟩, singleV ls framesW (rdI ls 1), numsI ls 2, (distR ls (rdI ls 3) (singleV ls nodesW ⟨0, false⟩).toNat).1, endR ls.length whole (distR ls (rdI ls 3) (singleV ls nodesW ⟨0, false⟩).toNat).2⟩ := rfl
  rw [e, distR_I]
theorem nodI_bd (ls : List ByteArray) (i : Nat) : 0 ≤ nodI ls i ∧ nodI ls i < 10000 := by
  unfold nodI
  split
  · rw [List.getD_eq_getElem?_getD]
    cases h : (numsI ls 0)[0]? with
    | none => simp
    | some v => exact take_bd ls _ _ _ v (List.mem_of_getElem? h)
  · omega
/-- A line that is none: it is told. -/
theorem read_bad {ls : List ByteArray} {whole : Bool} {i : Nat} (h : (rdI ls i).bad = false) (hi : (i : Int) < 3 + nodI ls i) (hb : rdI ls (i + 1) = ⟨i + 1, true⟩) : outP (readL ls whole) = (zeroT, ((i : Int) + 1), 2) := by
  have hr : (readL ls whole).r = ⟨i + 1, true⟩ := by
    rw [readL_I]
    simp only
    have key : rdI ls (3 + (singleV ls nodesW ⟨0, false⟩).toNat) = ⟨i + 1, true⟩ := by
      have hge : i + 1 ≤ 3 + (singleV ls nodesW ⟨0, false⟩).toNat := by
        by_cases h0 : i = 0
        · omega
        · have h1 := rdI_pre h (show 1 ≤ i by omega)
          rw [singleV_0, h1, if_neg (by simp)]
          unfold nodI at hi
          rw [if_pos (by omega)] at hi
          omega
      have := rdI_stays (ls := ls) (i := i + 1) (by rw [hb]) (3 + (singleV ls nodesW ⟨0, false⟩).toNat - (i + 1))
      rw [show i + 1 + (3 + (singleV ls nodesW ⟨0, false⟩).toNat - (i + 1)) = 3 + (singleV ls nodesW ⟨0, false⟩).toNat by omega] at this
      rw [this, hb]
    rw [key]
    unfold endR
    rw [if_neg (by simp)]
  unfold outP
  rw [hr]
  simp
/-- All lines are read. -/
theorem read_all {ls : List ByteArray} {whole : Bool} {i : Nat} (h : (rdI ls i).bad = false) (h3 : 3 ≤ i) (hi : (i : Int) = 3 + nodI ls i) : readL ls whole = ⟨nodI ls i, frmI ls i, cpuI ls i, dstI ls i, endR ls.length whole ⟨i, false⟩⟩ := by
  have h1 := rdI_pre h (show 1 ≤ i by omega)
  have h2 := rdI_pre h (show 2 ≤ i by omega)
  have e0 : singleV ls nodesW ⟨0, false⟩ = nodI ls i := by
    rw [singleV_0, h1, if_neg (by simp)]
    unfold nodI
    rw [if_pos (by omega)]
  have e1 : singleV ls framesW (rdI ls 1) = frmI ls i := by
    rw [singleV_1, h2, if_neg (by simp)]
    unfold frmI
    rw [if_pos (by omega)]
  have e2 : cpuI ls i = numsI ls 2 := by unfold cpuI; rw [if_pos h3]
  have e3 : (nodI ls i).toNat = i - 3 := by omega
  rw [readL_I, e0, e1, e2, e3, show 3 + (i - 3) = i by omega, rdI_ok h]
  rfl
end Go.Proofs.YtcanhegjhbhkhaaDoor
