/- Four rows of ints of the call's own that lie in one block. -/
import Derived.Test.YtinijpjbbbbhjaaCuts
import Derived.Test.YtinijpjbbbbhjaaPut
import Derived.Test.YtinijpjbbbbhjaaClone
namespace Go.Proofs.Ytinijpjbbbbhjaa
open Go.RowKit
set_option linter.unusedVariables false
set_option linter.unusedSimpArgs false
attribute [local go_sem] World.cell?_alloc_lt

section
variable {w w' : World} {base n k e s : Nat} {v : Value} {xs : List Value}
theorem own_chV {S : List Nat} (h : w.ownsRow base e s v n xs) (k : Ch S w w') (hn : ∀ g, v.ownBlock = some g → g ∉ S) : w'.ownsRow base e s v n xs := by
  refine ⟨h.1, ?_⟩
  rcases h.2 with h2 | ⟨g, cap, cur, hv, hg, hh, r⟩
  · exact Or.inl h2
  · refine Or.inr ⟨g, cap, cur, hv, hg, ?_, r⟩
    rw [k.block g (Array.getElem?_eq_some_iff.1 hh).1 (hn g (by rw [hv]; rfl))]
    exact hh
theorem own_blkV (h : w.ownsRow base e s v n xs) : ∀ g, v.ownBlock = some g → ∃ cur, w.heap[g]? = some (.cells cur e (0, 0)) := by
  intro g hg
  rcases h.2 with ⟨h0, _⟩ | ⟨g', cap, cur, hv, _, hh, _⟩
  · rw [h0] at hg; simp [Value.ownBlock] at hg
  · rw [hv] at hg
    have : g' = g := by simpa [Value.ownBlock] using hg
    subst this
    exact ⟨cur, hh⟩
theorem own_neV {t b : Nat} {cs : List Value} (h : w.ownsRow base e s v n xs) (hb : Blk w b t cs) (hne : e ≠ t) : v.ownBlock ≠ some b := by
  intro hg
  obtain ⟨cur, hh⟩ := own_blkV h b hg
  unfold Blk at hb
  rw [hh] at hb
  injection hb with hb
  injection hb with _ ht
  exact hne ht
theorem own_take {A : Option Addr} {c : Nat} (h : w.ownsRow base e 1 (.slice A n c) n xs) (hk : k ≤ n) (hA : A ≠ none) : w.ownsRow base e 1 (.slice A k c) k (xs.take k) := by
  rcases h.2 with ⟨h0, _⟩ | ⟨g, cap, cur, hv, hg, hh, hnc, hcm, hsz, ht⟩
  · injection h0 with h1 _ _; exact absurd h1 hA
  · injection hv with h1 h2 h3
    subst h1 h3
    refine ⟨by rw [List.length_take, h.1]; omega, Or.inr ⟨g, c, cur, rfl, hg, hh, by omega, hcm, hsz, ?_⟩⟩
    rw [← ht, List.take_take, Nat.mul_one, Nat.mul_one, Nat.min_eq_left hk]
/-- What is laid over a row of the call's own from its head on. -/
theorem own_over {g c : Nat} {ys : List Value} (h : w.ownsRow base e 1 (.slice (some ⟨g, 0, none⟩) n c) n xs) (hy : ys.length = n) : (w.setCells g 0 ys).ownsRow base e 1 (.slice (some ⟨g, 0, none⟩) n c) n ys ∧ Ch [g] w (w.setCells g 0 ys) := by
  rcases h.2 with ⟨h0, _⟩ | ⟨g', cap, cur, hv, hg, hh, hnc, hcm, hsz, ht⟩
  · cases h0
  · injection hv with h1 _ h3
    injection h1 with h1
    injection h1 with h1
    subst h1 h3
    have hb : Blk w g e cur.toList := by unfold Blk; rw [hh]
    obtain ⟨hb2, hc⟩ := Blk.setCells ys cur.toList 0 w hb
    refine ⟨⟨by omega, Or.inr ⟨g, c, (putL cur.toList 0 ys).toArray, rfl, hg, hb2, hnc, hcm, by simp [putL_len, hsz], ?_⟩⟩, hc⟩
    rw [Nat.mul_one]
    apply List.ext_getElem?
    intro i
    rw [show (putL cur.toList 0 ys).toArray.toList = putL cur.toList 0 ys from rfl, List.getElem?_take, putL_get _ _ _ _ (by have : cur.toList.length = cur.size := Array.length_toList; omega)]
    by_cases hi : i < n
    · rw [if_pos hi, if_pos (by omega), Nat.sub_zero]
    · rw [if_neg hi, List.getElem?_eq_none (by omega)]
end

theorem ch_keep {w w' : World} {S : List Nat} {b o : Nat} {v : Value} (k : Ch S w w') (hn : b ∉ S) (h : w.cell? ⟨b, o, none⟩ = some v) : w'.cell? ⟨b, o, none⟩ = some v := by
  have hb := World.block_lt_of_cell? w _ h
  rw [← h]
  exact World.cell?_of_block (k.block b hb hn)

/-- Four slices of ints in a block. -/
structure Four (w : World) (base t g : Nat) (vs : List Value) (X : Nat → List Int) : Prop where
  st : Blk w g t vs
  ln : vs.length = 4
  row : ∀ (k : Nat) (v : Value), vs[k]? = some v → w.ownsRow base 3 1 v (X k).length ((X k).map (Value.int .i64))
  ap : ∀ (i j : Nat) (v v' : Value) (b : Nat), i ≠ j → vs[i]? = some v → vs[j]? = some v' → v.ownBlock = some b → v'.ownBlock ≠ some b
  gb : base ≤ g
  nt : 3 ≠ t
  mx : ∀ k, (X k).length ≤ 8
/-- The blocks that it may write. -/
def cset (g : Nat) (vs : List Value) : List Nat := g :: vs.filterMap Value.ownBlock
def setX (X : Nat → List Int) (k : Nat) (xs : List Int) : Nat → List Int := fun i => if i = k then xs else X i
theorem cset_mem {g x : Nat} {vs : List Value} : x ∈ cset g vs ↔ x = g ∨ ∃ v, v ∈ vs ∧ v.ownBlock = some x := by
  unfold cset; simp [List.mem_filterMap]
section
variable {w w' w1 : World} {base t g k n : Nat} {vs : List Value} {X : Nat → List Int}
theorem Four.lt (h : Four w base t g vs X) : ∀ x ∈ cset g vs, base ≤ x ∧ x < w.heap.size := by
  intro x hx
  rcases cset_mem.1 hx with rfl | ⟨v, hv, hb⟩
  · exact ⟨h.gb, h.st.lt⟩
  · obtain ⟨k, hk⟩ := List.mem_iff_getElem?.1 hv
    exact (h.row k v hk).lt x hb
theorem Four.ch {S : List Nat} (h : Four w base t g vs X) (k : Ch S w w') (hd : ∀ x ∈ cset g vs, x ∉ S) : Four w' base t g vs X :=
  ⟨h.st.ch k (hd g (by simp [cset])), h.ln, fun i v hv => own_chV (h.row i v hv) k (fun b hb => hd b (cset_mem.2 (Or.inr ⟨v, List.mem_of_getElem? hv, hb⟩))), h.ap, h.gb, h.nt, h.mx⟩
theorem Four.below (h : Four w base t g vs X) (k : Below w.heap.size w w') : Four w' base t g vs X := h.ch (Ch.below k []) (by simp)
theorem Four.dn (h : Four w base t g vs X) (n : Nat) : Four (w.drewN n) base t g vs X := h.below (bel_drewN (Below.refl _ _) n)
theorem Four.at_ (h : Four w base t g vs X) (hk : k < 4) : ∃ A c, vs[k]? = some (.slice A (X k).length c) ∧ w.ownsRow base 3 1 (.slice A (X k).length c) (X k).length ((X k).map (Value.int .i64)) ∧ w.cell? ⟨g, k, none⟩ = some (.slice A (X k).length c) ∧ w.frozen? ⟨g, k, none⟩ = false := by
  have hv : vs[k]? = some (vs[k]'(by have := h.ln; omega)) := List.getElem?_eq_getElem _
  generalize vs[k]'(by have := h.ln; omega) = v at hv
  have hr := h.row k v hv
  obtain ⟨A, c, rfl⟩ := own_slice hr
  exact ⟨A, c, hv, hr, h.st.at_ hv, h.st.frozen _⟩
theorem Four.set_ {v v' : Value} {xs' : List Int} (h : Four w base t g vs X) (hv : vs[k]? = some v) (hc : Ch v.ownBlock.toList w w1) (hown : w1.ownsRow base 3 1 v' xs'.length (xs'.map (Value.int .i64))) (ho : ∀ b, v'.ownBlock = some b → v.ownBlock = some b ∨ w.heap.size ≤ b) (hl : xs'.length ≤ 8) :
    Four (w1.setCell ⟨g, k, none⟩ v') base t g (vs.set k v') (setX X k xs') ∧ Ch (cset g vs) w (w1.setCell ⟨g, k, none⟩ v') ∧ ∀ x ∈ cset g (vs.set k v'), x ∈ cset g vs ∨ w.heap.size ≤ x := by
  have hk : k < 4 := by have := (List.getElem?_eq_some_iff.1 hv).1; have := h.ln; omega
  have hgv : v.ownBlock ≠ some g := own_neV (h.row k v hv) h.st h.nt
  have hgv' : v'.ownBlock ≠ some g := fun e => by
    rcases ho g e with h1 | h1
    · exact hgv h1
    · have := h.st.lt; omega
  have hg1 : Blk w1 g t vs := h.st.ch hc (by intro hm; rw [Option.mem_toList] at hm; exact hgv hm)
  have hcs : Ch [g] w1 (w1.setCell ⟨g, k, none⟩ v') := (Ch.refl [g] w1).set (by simp) _
  have hmem : v ∈ vs := List.mem_of_getElem? hv
  refine ⟨⟨hg1.set_ k v', by rw [List.length_set]; exact h.ln, ?_, ?_, h.gb, h.nt, ?_⟩, ?_, ?_⟩
  · intro j u hu
    by_cases hj : j = k
    · subst hj
      rw [List.getElem?_set_self (by have := h.ln; omega)] at hu
      injection hu with hu
      subst hu
      simp only [setX, if_pos rfl]
      exact own_chV hown hcs (fun b hb => by simp; rintro rfl; exact hgv' hb)
    · rw [List.getElem?_set_ne (by omega)] at hu
      simp only [setX, if_neg hj]
      have h1 := own_chV (h.row j u hu) hc (fun b hb hm => by
        rw [Option.mem_toList] at hm
        exact h.ap j k u v b hj hu hv hb hm)
      exact own_chV h1 hcs (fun b hb => by simp; rintro rfl; exact own_neV (h.row j u hu) h.st h.nt hb)
  · intro i j u u' b hij hu hu' hb hb'
    by_cases hi : i = k
    · subst hi
      rw [List.getElem?_set_self (by have := h.ln; omega)] at hu
      injection hu with hu
      subst hu
      rw [List.getElem?_set_ne (by omega)] at hu'
      rcases ho b hb with h1 | h1
      · exact h.ap i j v u' b hij hv hu' h1 hb'
      · have := ((h.row j u' hu').lt b hb').2; omega
    · rw [List.getElem?_set_ne (by omega)] at hu
      by_cases hj : j = k
      · subst hj
        rw [List.getElem?_set_self (by have := h.ln; omega)] at hu'
        injection hu' with hu'
        subst hu'
        rcases ho b hb' with h1 | h1
        · exact h.ap i j u v b hij hu hv hb h1
        · have := ((h.row i u hu).lt b hb).2; omega
      · rw [List.getElem?_set_ne (by omega)] at hu'
        exact h.ap i j u u' b hij hu hu' hb hb'
  · intro i
    unfold setX
    split
    · exact hl
    · exact h.mx i
  · refine (hc.mono ?_).then_ hcs ?_
    · intro b hb
      rw [Option.mem_toList] at hb
      exact cset_mem.2 (Or.inr ⟨v, hmem, hb⟩)
    · intro b hb
      simp at hb
      subst hb
      left; simp [cset]
  · intro x hx
    rcases cset_mem.1 hx with rfl | ⟨u, hu, hb⟩
    · left; simp [cset]
    · rcases List.mem_or_eq_of_mem_set hu with h1 | h1
      · left; exact cset_mem.2 (Or.inr ⟨u, h1, hb⟩)
      · subst h1
        rcases ho x hb with h2 | h2
        · left; exact cset_mem.2 (Or.inr ⟨v, hmem, h2⟩)
        · right; exact h2
end
end Go.Proofs.Ytinijpjbbbbhjaa
