/- A right text with one line left out, or twice there: which line is wrong (plain). -/
import Derived.Test.YtcanhegjhbhkhaaDoorTopoRPure
namespace Go.Proofs.YtcanhegjhbhkhaaDoor
open Go.RowKit Go.Shelf
set_option linter.unusedVariables false
set_option linter.unusedSimpArgs false

theorem words_body (word : ByteArray) (l : List Int) (hs : Small l) (hw : ∀ x ∈ word.data.toList, x ≠ 32) : wordsB 32 (bytesOf (bodyL word.data.toList l)) = word :: l.map (fun n => bytesOf (numB n)) := by
  rw [words_of (L := word.data.toList :: l.map numB) (split_body l _ hs hw), List.map_cons, List.map_map]
  rfl
/-- A line of another word. -/
theorem line_other {word want : ByteArray} {l : List Int} {one : Bool} (hs : Small l) (hw : ∀ x ∈ word.data.toList, x ≠ 32) (hne : word ≠ want) : (lineV (bytesOf (bodyL word.data.toList l)) want one).2 = false := by
  unfold lineV headBad
  rw [words_body word l hs hw]
  simp [hne]
/-- The first i lines are right ones, with these numbers. -/
def GoodTo (ls : List ByteArray) (i : Nat) : Prop := ∀ j, j < i → ∃ l : List Int, ls[j]? = some (bytesOf (bodyL (wordI j).data.toList l)) ∧ Small l ∧ l ≠ [] ∧ (j < 2 → l.length = 1)
theorem word_no32 (j : Nat) : ∀ x ∈ (wordI j).data.toList, x ≠ 32 := by
  unfold wordI
  split
  · decide
  · split
    · decide
    · split <;> decide
theorem rdI_good {ls : List ByteArray} : ∀ {i : Nat}, GoodTo ls i → rdI ls i = ⟨i, false⟩
  | 0, _ => rfl
  | i + 1, h => by
    have ih := rdI_good (ls := ls) (i := i) (fun j hj => h j (by omega))
    obtain ⟨l, h1, h2, h3, h4⟩ := h i (by omega)
    have e : rdI ls (i + 1) = (takeR ls (wordI i) (decide (i < 2)) (rdI ls i)).2 := rfl
    rw [e, ih, take_good h1 h2 (word_no32 i) h3 (fun hd => h4 (of_decide_eq_true hd))]
theorem numsI_good {ls : List ByteArray} {i : Nat} {l : List Int} (h : GoodTo ls i) (h1 : ls[i]? = some (bytesOf (bodyL (wordI i).data.toList l))) (h2 : Small l) (h3 : l ≠ []) (h4 : i < 2 → l.length = 1) : numsI ls i = l := by
  unfold numsI
  rw [rdI_good h, take_good h1 h2 (word_no32 i) h3 (fun hd => h4 (of_decide_eq_true hd))]
section
variable (N F : Int) (cs : List Int) (ds : List (List Int))
/-- The lines with line k left out, or twice there. -/
def bentL {α : Type} (Ls : List α) (k : Nat) (twice : Bool) : List α := if twice = true then Ls.take (k + 1) ++ Ls.drop k else Ls.take k ++ Ls.drop (k + 1)
def wantL (n k : Nat) (twice : Bool) : Nat := if 3 ≤ k then (if twice = true then n + 1 else n) else (if twice = true then k + 2 else k + 1)
structure MachL : Prop where
  hN : 0 ≤ N ∧ N < 10000
  hF : 0 ≤ F ∧ F < 10000
  hc : Small cs
  hn : cs ≠ []
  hd : ∀ z ∈ ds, Small z ∧ z ≠ []
  hl : (ds.length : Int) = N
  hp : 0 < ds.length
variable {N F cs ds}
theorem lines_len : (linesM N F cs ds).length = 3 + ds.length := by
  unfold linesM
  simp
  omega
theorem lines_at (h : MachL N F cs ds) (j : Nat) (hj : j < 3 + ds.length) : ∃ l : List Int, (linesM N F cs ds)[j]? = some (bodyL (wordI j).data.toList l) ∧ Small l ∧ l ≠ [] ∧ (j < 2 → l.length = 1) ∧ (j = 0 → l = [N]) := by
  match j with
  | 0 => exact ⟨[N], rfl, small_one h.hN, by simp, fun _ => rfl, fun _ => rfl⟩
  | 1 => exact ⟨[F], rfl, small_one h.hF, by simp, fun _ => rfl, by omega⟩
  | 2 => exact ⟨cs, rfl, h.hc, h.hn, by omega, by omega⟩
  | j + 3 =>
    have hz : ds[j]? = some (ds[j]'(by omega)) := List.getElem?_eq_getElem (by omega)
    have hm := h.hd _ (List.mem_of_getElem? hz)
    refine ⟨ds[j]'(by omega), ?_, hm.1, hm.2, by omega, by omega⟩
    have hw : wordI (j + 3) = distW := by unfold wordI; rw [if_neg (by omega), if_neg (by omega), if_neg (by omega)]
    rw [hw]
    unfold linesM
    simp [hz]
theorem bent_get {α : Type} {Ls : List α} {k : Nat} {twice : Bool} (hk : k < Ls.length) (j : Nat) : (bentL Ls k twice)[j]? = if twice = true then (if j ≤ k then Ls[j]? else Ls[j - 1]?) else (if j < k then Ls[j]? else Ls[j + 1]?) := by
  unfold bentL
  cases twice with
  | true =>
    rw [if_pos rfl, if_pos rfl, List.getElem?_append, List.length_take, Nat.min_eq_left (by omega)]
    by_cases h : j < k + 1
    · rw [if_pos h, if_pos (by omega), List.getElem?_take_of_lt h]
    · rw [if_neg h, if_neg (by omega), List.getElem?_drop]
      congr 1
      omega
  | false =>
    rw [if_neg (by simp), if_neg (by simp), List.getElem?_append, List.length_take, Nat.min_eq_left (by omega)]
    by_cases h : j < k
    · rw [if_pos h, if_pos h, List.getElem?_take_of_lt h]
    · rw [if_neg h, if_neg h, List.getElem?_drop]
      congr 1
      omega
theorem bent_len {α : Type} {Ls : List α} {k : Nat} {twice : Bool} (hk : k < Ls.length) : (bentL Ls k twice).length = if twice = true then Ls.length + 1 else Ls.length - 1 := by
  unfold bentL
  cases twice with
  | true => simp; omega
  | false => simp; omega
theorem words_apart {i j : Nat} (h : i < j) (h3 : i < 3) (hj : j = i + 1) : wordI i ≠ wordI j := by
  subst hj
  match i with
  | 0 => decide
  | 1 => decide
  | 2 => decide
/-- The one line that is wrong. -/
theorem bent_out (h : MachL N F cs ds) (k : Nat) (hk : k < 3 + ds.length) (twice : Bool) :
    outP (readT (bytesOf (flatB (bentL (linesM N F cs ds) k twice)))) = (zeroT, (wantL (3 + ds.length) k twice : Int), 2) := by
  have hkl : k < (linesM N F cs ds).length := by rw [lines_len]; exact hk
  have hno : ∀ b ∈ bentL (linesM N F cs ds) k twice, ∀ x ∈ b, x ≠ 10 := by
    intro b hb
    apply lines_no10 h.hN h.hF h.hc (fun z hz => (h.hd z hz).1)
    unfold bentL at hb
    split at hb
    · rcases List.mem_append.1 hb with hb | hb
      · exact List.mem_of_mem_take hb
      · exact List.mem_of_mem_drop hb
    · rcases List.mem_append.1 hb with hb | hb
      · exact List.mem_of_mem_take hb
      · exact List.mem_of_mem_drop hb
  rw [read_lines _ hno]
  obtain ⟨ls, hls⟩ : ∃ ls, (bentL (linesM N F cs ds) k twice).map bytesOf = ls := ⟨_, rfl⟩
  rw [hls]
  have hget : ∀ j, ls[j]? = (if twice = true then (if j ≤ k then (linesM N F cs ds)[j]? else (linesM N F cs ds)[j - 1]?) else (if j < k then (linesM N F cs ds)[j]? else (linesM N F cs ds)[j + 1]?)).map bytesOf := fun j => by
    rw [← hls, List.getElem?_map, bent_get hkl]
  have hlen : ls.length = if twice = true then 3 + ds.length + 1 else 3 + ds.length - 1 := by
    rw [← hls, List.length_map, bent_len hkl, lines_len]
  have hpre : ∀ j, j < k → ls[j]? = ((linesM N F cs ds)[j]?).map bytesOf := fun j hj => by
    rw [hget j]
    cases twice with
    | true => rw [if_pos rfl, if_pos (by omega)]
    | false => rw [if_neg (by simp), if_pos hj]
  have hgp : GoodTo ls k := fun j hj => by
    obtain ⟨l, h1, h2, h3, h4, _⟩ := lines_at h j (by omega)
    exact ⟨l, by rw [hpre j hj, h1]; rfl, h2, h3, h4⟩
  have hpos := h.hp
  by_cases hk3 : k < 3
  · -- one of the first lines
    have hw3 : wantL (3 + ds.length) k twice = if twice = true then k + 2 else k + 1 := by
      unfold wantL
      rw [if_neg (by omega)]
    cases twice with
    | false =>
      obtain ⟨l, h1, h2, h3, h4, _⟩ := lines_at h (k + 1) (by omega)
      have hz : ls[k]? = some (bytesOf (bodyL (wordI (k + 1)).data.toList l)) := by
        rw [hget k, if_neg (by simp), if_neg (by omega), h1]; rfl
      have hr := rdI_good hgp
      have hn := rdI_next hr hz
      rw [line_other h2 (word_no32 _) (Ne.symm (words_apart (by omega) hk3 rfl))] at hn
      have hbd := nodI_bd ls k
      rw [read_bad (by rw [hr]) (by omega) hn, hw3, if_neg (by simp)]
      simp
    | true =>
      obtain ⟨l, h1, h2, h3, h4, h5⟩ := lines_at h k (by omega)
      have hzk : ls[k]? = some (bytesOf (bodyL (wordI k).data.toList l)) := by
        rw [hget k, if_pos rfl, if_pos (by omega), h1]; rfl
      have hz : ls[k + 1]? = some (bytesOf (bodyL (wordI k).data.toList l)) := by
        rw [hget (k + 1), if_pos rfl, if_neg (by omega), Nat.add_sub_cancel, h1]; rfl
      have hg1 : GoodTo ls (k + 1) := fun j hj => by
        by_cases hjk : j < k
        · exact hgp j hjk
        · obtain rfl : j = k := by omega
          exact ⟨l, hzk, h2, h3, h4⟩
      have hr := rdI_good hg1
      have hn := rdI_next hr hz
      rw [line_other h2 (word_no32 _) (words_apart (by omega) hk3 rfl)] at hn
      have hnd : ((k + 1 : Nat) : Int) < 3 + nodI ls (k + 1) := by
        by_cases hk2 : k < 2
        · have := nodI_bd ls (k + 1)
          omega
        · obtain ⟨l0, g1, g2, g3, g4, g5⟩ := lines_at h 0 (by omega)
          have hg0 : GoodTo ls 0 := fun j hj => absurd hj (by omega)
          have hn0 := numsI_good hg0 (show ls[0]? = _ by rw [hpre 0 (by omega), g1]; rfl) g2 g3 g4
          unfold nodI
          rw [if_pos (by omega), hn0, g5 rfl]
          have hl := h.hl
          simp
          omega
      rw [read_bad (by rw [hr]) hnd hn, hw3, if_pos rfl]
      simp
      omega
  · -- one of the rows
    have hw3 : wantL (3 + ds.length) k twice = if twice = true then 3 + ds.length + 1 else 3 + ds.length := by
      unfold wantL
      rw [if_pos (by omega)]
    obtain ⟨l0, g1, g2, g3, g4, g5⟩ := lines_at h 0 (by omega)
    have hg0 : GoodTo ls 0 := fun j hj => absurd hj (by omega)
    have hn0 := numsI_good hg0 (show ls[0]? = _ by rw [hpre 0 (by omega), g1]; rfl) g2 g3 g4
    have hnod : ∀ i, 1 ≤ i → nodI ls i = N := fun i hi => by
      unfold nodI
      rw [if_pos hi, hn0, g5 rfl]
      rfl
    have hl := h.hl
    have hrows : ∀ j, k ≤ j → j < ls.length → ∃ l : List Int, ls[j]? = some (bytesOf (bodyL (wordI j).data.toList l)) ∧ Small l ∧ l ≠ [] ∧ (j < 2 → l.length = 1) := by
      intro j hj hjl
      have hw : ∀ i, 3 ≤ i → wordI i = distW := fun i hi => by unfold wordI; rw [if_neg (by omega), if_neg (by omega), if_neg (by omega)]
      cases twice with
      | true =>
        rw [if_pos rfl] at hlen
        by_cases hjk : j ≤ k
        · obtain ⟨l, h1, h2, h3, h4, _⟩ := lines_at h j (by omega)
          exact ⟨l, by rw [hget j, if_pos rfl, if_pos hjk, h1]; rfl, h2, h3, h4⟩
        · obtain ⟨l, h1, h2, h3, h4, _⟩ := lines_at h (j - 1) (by omega)
          refine ⟨l, ?_, h2, h3, by omega⟩
          rw [hget j, if_pos rfl, if_neg hjk, h1, hw j (by omega), hw (j - 1) (by omega)]; rfl
      | false =>
        rw [if_neg (by simp)] at hlen
        obtain ⟨l, h1, h2, h3, h4, _⟩ := lines_at h (j + 1) (by omega)
        refine ⟨l, ?_, h2, h3, by omega⟩
        rw [hget j, if_neg (by simp), if_neg (by omega), h1, hw j (by omega), hw (j + 1) (by omega)]; rfl
    have hgall : ∀ i, i ≤ ls.length → GoodTo ls i := fun i hi j hj => by
      by_cases hjk : j < k
      · exact hgp j hjk
      · exact hrows j (by omega) (by omega)
    cases twice with
    | false =>
      rw [if_neg (by simp)] at hlen
      have hr := rdI_good (hgall (2 + ds.length) (by omega))
      have hn := rdI_out hr (by omega)
      rw [read_bad (by rw [hr]) (by rw [hnod _ (by omega)]; omega) hn, hw3, if_neg (by simp)]
      simp
      omega
    | true =>
      rw [if_pos rfl] at hlen
      have hr := rdI_good (hgall (3 + ds.length) (by omega))
      have hra := read_all (whole := true) (ls := ls) (i := 3 + ds.length) (by rw [hr]) (by omega) (by rw [hnod _ (by omega)]; omega)
      rw [hra, hlen]
      have he : endR (3 + ds.length + 1) true ⟨3 + ds.length, false⟩ = ⟨3 + ds.length + 1, true⟩ := by
        unfold endR
        rw [if_pos ⟨rfl, Or.inr (by simp)⟩]
      rw [he]
      unfold outP
      rw [if_pos rfl, hw3, if_pos rfl]
end
end Go.Proofs.YtcanhegjhbhkhaaDoor
