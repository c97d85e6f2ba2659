/- Bytes by their virtual addresses, as plain mathematics. -/
import Derived.Test.YtbgnaohjcfbaaaaDoorTabII
import Derived.Test.YtbgnaohjcfbaaaaDoorFrames5
namespace Go.Proofs.YtbgnaohjcfbaaaaDoor
open Go.RowKit
set_option linter.unusedVariables false
set_option linter.unusedSimpArgs false

/-- The frame of a page. -/
def frOf (mt : List (Int × Int)) (p : Nat) : Nat := ((mget mt (p : Int)).getD 0).toNat
/-- Where the byte at an address lies. -/
def posN (mt : List (Int × Int)) (a : Nat) : Nat := frOf mt (a / 64) * 64 + a % 64
def wrB (mt : List (Int × Int)) : List Int → Nat → List Int → List Int
  | bs, _, [] => bs
  | bs, a, u :: us => wrB mt (bs.set (posN mt a) u) (a + 1) us
def rdB (mt : List (Int × Int)) (bs : List Int) (a n : Nat) : List Int := (List.range n).map fun i => bs.getD (posN mt (a + i)) 0
/-- Each page has a frame of its own. -/
structure Fair (nf : Nat) (mt mf : List (Int × Int)) : Prop where
  fr : ∀ (p f : Int), mget mt p = some f → 0 ≤ f ∧ f < (nf : Int)
  io : ∀ (p f : Int), mget mt p = some f ↔ mget mf f = some p
def mapped (mt : List (Int × Int)) (p : Nat) : Prop := (mget mt (p : Int)).isSome = true
section
variable {nf : Nat} {mt mf : List (Int × Int)}
theorem Fair.at_ (h : Fair nf mt mf) {p : Nat} (hm : mapped mt p) : mget mt (p : Int) = some (frOf mt p : Int) ∧ frOf mt p < nf := by
  unfold mapped at hm
  cases hf : mget mt (p : Int) with
  | none => rw [hf] at hm; cases hm
  | some f =>
    have := h.fr _ _ hf
    unfold frOf
    rw [hf, Option.getD_some]
    exact ⟨by rw [show ((f.toNat : Nat) : Int) = f by omega], by omega⟩
theorem Fair.inj (h : Fair nf mt mf) {p q : Nat} (hp : mapped mt p) (hq : mapped mt q) (he : frOf mt p = frOf mt q) : p = q := by
  have h1 := (h.io _ _).1 (h.at_ hp).1
  have h2 := (h.io _ _).1 (h.at_ hq).1
  rw [he, h2] at h1
  injection h1 with h1
  omega
theorem pos_lt (h : Fair nf mt mf) {a : Nat} (hm : mapped mt (a / 64)) : posN mt a < nf * 64 := by
  have := (h.at_ hm).2
  unfold posN
  omega
theorem pos_inj (h : Fair nf mt mf) {a b : Nat} (ha : mapped mt (a / 64)) (hb : mapped mt (b / 64)) (he : posN mt a = posN mt b) : a = b := by
  unfold posN at he
  have h1 : frOf mt (a / 64) = frOf mt (b / 64) := by omega
  have h2 := h.inj ha hb h1
  omega
theorem pos_in {a i : Nat} (h : a % 64 + i < 64) : posN mt (a + i) = posN mt a + i := by
  unfold posN
  rw [show (a + i) / 64 = a / 64 by omega]
  omega
theorem wrB_len (us : List Int) : ∀ (bs : List Int) (a : Nat), (wrB mt bs a us).length = bs.length := by
  induction us with
  | nil => intro bs a; rfl
  | cons u us ih => intro bs a; rw [wrB, ih, List.length_set]
theorem wrB_far (us : List Int) : ∀ (bs : List Int) (a q : Nat), (∀ i, i < us.length → posN mt (a + i) ≠ q) → (wrB mt bs a us)[q]? = bs[q]? := by
  induction us with
  | nil => intro bs a q h; rfl
  | cons u us ih =>
    intro bs a q h
    rw [wrB, ih _ _ _ (fun i hi => by
      have := h (i + 1) (by simp; omega)
      rw [show a + (i + 1) = a + 1 + i by omega] at this
      exact this), List.getElem?_set_ne (by have := h 0 (by simp); rw [Nat.add_zero] at this; exact this)]
theorem wrB_at (hF : Fair nf mt mf) (us : List Int) : ∀ (bs : List Int) (a : Nat), bs.length = nf * 64 → (∀ i, i < us.length → mapped mt ((a + i) / 64)) → ∀ i, i < us.length → (wrB mt bs a us)[posN mt (a + i)]? = us[i]? := by
  induction us with
  | nil => intro bs a hl h i hi; simp at hi
  | cons u us ih =>
    intro bs a hl h i hi
    have hm := fun i (hi : i < us.length) => (show a + 1 + i = a + (i + 1) by omega) ▸ h (i + 1) (by simp; omega)
    have h0 : mapped mt (a / 64) := h 0 (by simp)
    cases i with
    | zero =>
      rw [wrB, wrB_far _ _ _ _ (fun j hj => by
        intro he
        have := pos_inj hF (hm j hj) h0 he
        omega), Nat.add_zero, List.getElem?_set_self (by rw [hl]; exact pos_lt hF h0)]
      rfl
    | succ i =>
      rw [wrB, show a + (i + 1) = a + 1 + i by omega, ih _ _ (by rw [List.length_set]; exact hl) hm i (by simpa using hi)]
      rfl
theorem wrB_append (us vs : List Int) : ∀ (bs : List Int) (a : Nat), wrB mt bs a (us ++ vs) = wrB mt (wrB mt bs a us) (a + us.length) vs := by
  induction us with
  | nil => intro bs a; rfl
  | cons u us ih => intro bs a; rw [List.cons_append, wrB, wrB, ih, List.length_cons, show a + 1 + us.length = a + (us.length + 1) by omega]
/-- Within one page: one stretch of bytes. -/
theorem wrB_page (us : List Int) : ∀ (bs : List Int) (a : Nat), a % 64 + us.length ≤ 64 → wrB mt bs a us = putL bs (posN mt a) us := by
  induction us with
  | nil => intro bs a h; rfl
  | cons u us ih =>
    intro bs a h
    rw [wrB, putL]
    cases us with
    | nil => rfl
    | cons v vs =>
      simp only [List.length_cons] at h
      rw [ih _ _ (by simp only [List.length_cons]; omega), pos_in (by omega)]
theorem rdB_len (bs : List Int) (a n : Nat) : (rdB mt bs a n).length = n := by unfold rdB; simp
theorem rdB_at (bs : List Int) (a n i : Nat) : (rdB mt bs a n)[i]? = if i < n then some (bs.getD (posN mt (a + i)) 0) else none := by
  by_cases hi : i < n
  · rw [if_pos hi]
    unfold rdB
    rw [List.getElem?_map, List.getElem?_range hi]
    rfl
  · rw [if_neg hi]
    exact List.getElem?_eq_none (by rw [rdB_len]; omega)
theorem rdB_append (bs : List Int) (a n m : Nat) : rdB mt bs a (n + m) = rdB mt bs a n ++ rdB mt bs (a + n) m := by
  unfold rdB
  rw [List.range_add, List.map_append, List.map_map]
  congr 1
  apply List.map_congr_left
  intro i _
  simp [Nat.add_assoc]
theorem rdB_page (bs : List Int) (a n : Nat) (h : a % 64 + n ≤ 64) (hl : posN mt a + n ≤ bs.length) : rdB mt bs a n = (bs.drop (posN mt a)).take n := by
  apply List.ext_getElem?
  intro i
  rw [rdB_at]
  by_cases hi : i < n
  · rw [if_pos hi, List.getElem?_take, if_pos hi, List.getElem?_drop, pos_in (by omega), List.getD_eq_getElem?_getD, List.getElem?_eq_getElem (show posN mt a + i < bs.length by omega)]
    rfl
  · rw [if_neg hi, List.getElem?_take, if_neg hi]
/-- What was written is read. -/
theorem rd_wr (hF : Fair nf mt mf) (bs us : List Int) (a : Nat) (hl : bs.length = nf * 64) (hm : ∀ i, i < us.length → mapped mt ((a + i) / 64)) (k n : Nat) (hk : k + n ≤ us.length) : rdB mt (wrB mt bs a us) (a + k) n = (us.drop k).take n := by
  apply List.ext_getElem?
  intro i
  rw [rdB_at]
  by_cases hi : i < n
  · rw [if_pos hi, List.getElem?_take, if_pos hi, List.getElem?_drop, List.getD_eq_getElem?_getD, show a + k + i = a + (k + i) by omega, wrB_at hF us bs a hl hm (k + i) (by omega), List.getElem?_eq_getElem (show k + i < us.length by omega)]
    rfl
  · rw [if_neg hi, List.getElem?_take, if_neg hi]
end
/-- Pieces of bytes, page by page, from an address to another one. -/
def Cov (mt : List (Int × Int)) : Nat → List (Nat × Nat × Nat) → Nat → Prop
  | a, [], e => e = a
  | a, p :: ps, e => mapped mt (a / 64) ∧ p.1 = frOf mt (a / 64) ∧ p.2.1 = a % 64 ∧ 1 ≤ p.2.2 ∧ a % 64 + p.2.2 ≤ 64 ∧ Cov mt (a + p.2.2) ps e
theorem cov_snoc (mt : List (Int × Int)) (s : Nat) : ∀ (P : List (Nat × Nat × Nat)) (a e : Nat), Cov mt a P e → mapped mt (e / 64) → 1 ≤ s → e % 64 + s ≤ 64 → Cov mt a (P ++ [(frOf mt (e / 64), e % 64, s)]) (e + s) := by
  intro P
  induction P with
  | nil => intro a e h hm h1 h2; simp only [Cov] at h; subst h; exact ⟨hm, rfl, rfl, h1, h2, rfl⟩
  | cons p ps ih => intro a e h hm h1 h2; exact ⟨h.1, h.2.1, h.2.2.1, h.2.2.2.1, h.2.2.2.2.1, ih _ _ h.2.2.2.2.2 hm h1 h2⟩
theorem cov_le (mt : List (Int × Int)) : ∀ (P : List (Nat × Nat × Nat)) (a e : Nat), Cov mt a P e → a + P.length ≤ e := by
  intro P
  induction P with
  | nil => intro a e h; simp only [Cov] at h; simp; omega
  | cons p ps ih => intro a e h; have := ih _ _ h.2.2.2.2.2; have := h.2.2.2.1; simp; omega
theorem cov_take (mt : List (Int × Int)) : ∀ (P : List (Nat × Nat × Nat)) (a e i : Nat), Cov mt a P e → i < P.length → ∃ c p, Cov mt a (P.take i) c ∧ P[i]? = some p ∧ mapped mt (c / 64) ∧ p.1 = frOf mt (c / 64) ∧ p.2.1 = c % 64 ∧ 1 ≤ p.2.2 ∧ c % 64 + p.2.2 ≤ 64 ∧ Cov mt a (P.take (i + 1)) (c + p.2.2) ∧ c + p.2.2 ≤ e ∧ a ≤ c := by
  intro P
  induction P with
  | nil => intro a e i h hi; simp at hi
  | cons p ps ih =>
    intro a e i h hi
    cases i with
    | zero =>
      have := cov_le mt ps _ _ h.2.2.2.2.2
      exact ⟨a, p, rfl, rfl, h.1, h.2.1, h.2.2.1, h.2.2.2.1, h.2.2.2.2.1, ⟨h.1, h.2.1, h.2.2.1, h.2.2.2.1, h.2.2.2.2.1, rfl⟩, by omega, Nat.le_refl _⟩
    | succ i =>
      obtain ⟨c, q, h1, h2, h3, h4, h5, h6, h7, h8, h9, h10⟩ := ih _ _ i h.2.2.2.2.2 (by simpa using hi)
      exact ⟨c, q, ⟨h.1, h.2.1, h.2.2.1, h.2.2.2.1, h.2.2.2.2.1, h1⟩, by simpa using h2, h3, h4, h5, h6, h7, ⟨h.1, h.2.1, h.2.2.1, h.2.2.2.1, h.2.2.2.2.1, h8⟩, h9, by have := h.2.2.2.1; omega⟩
theorem cov_fun (mt : List (Int × Int)) : ∀ (P : List (Nat × Nat × Nat)) (a e e' : Nat), Cov mt a P e → Cov mt a P e' → e = e' := by
  intro P
  induction P with
  | nil => intro a e e' h h'; simp only [Cov] at h h'; omega
  | cons p ps ih => intro a e e' h h'; exact ih _ _ _ h.2.2.2.2.2 h'.2.2.2.2.2
end Go.Proofs.YtbgnaohjcfbaaaaDoor
