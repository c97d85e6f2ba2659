/- A slice of rows of bytes that came in. -/
import Derived.Test.YtbgnaohjcfbaaaaDoorArgs
import Derived.Test.YtbgnaohjcfbaaaaDoorMemMoves
import Derived.Deep.Slices
namespace Go.Proofs.YtbgnaohjcfbaaaaDoor
open Go.ChangeShapes Go.WideShapes Go.RowKit Go.Deep
set_option linter.unusedVariables false
set_option linter.unusedSimpArgs false

/-- Rows of bytes that came in: row i lies at A i, is L i long (of C i), and holds Z i. -/
structure InRowsB (w : World) (a : Option Addr) (len : Nat) (A : Nat → Option Addr) (L C : Nat → Nat) (Z : Nat → List Int) : Prop where
  mx : len ≤ 9223372036854775807
  at_ : 0 < len → ∃ b off, a = some ⟨b, off, none⟩ ∧ b < w.heap.size ∧ ∀ i, i < len → w.cell? ⟨b, off + i, none⟩ = some (.slice (A i) (L i) (C i)) ∧ InInts .u8 w (A i) (L i) (Z i) ∧ L i ≤ C i
section
variable {H : Type} {enc : TypeId × Value → H} {P : Program} {W : World} {base : Nat} {held : Bool}
theorem open_inRowsB {t e f : TypeId} {a : Option Addr} {len cap : Nat} {d : DataW H} {ps : List MemPlace} (hu : P.underlying t = some (.slice e)) (he : P.underlying e = some (.slice f)) (hf : P.underlying f = some (.int .u8)) (hc : P.cellsOf e = 1) (hcf : P.cellsOf f = 1)
    (h : DataW.Trod enc P W base (fun _ => true) held t (.slice a len cap) d ps) : ∃ A L C Z, InRowsB W a len A L C Z := by
  obtain ⟨fuel, hh⟩ := h
  rcases open_slice1 hu hc hh with ⟨hcs, _⟩ | ⟨x, l, c, m, n, V, D, Pl, hcs, _, hl, hm, hmm, _, hi⟩
  · simp [Value.cells] at hcs
    obtain ⟨rfl, rfl, rfl⟩ := hcs
    exact ⟨fun _ => none, fun _ => 0, fun _ => 0, fun _ => [], by omega, fun h => absurd h (by omega)⟩
  · simp [Value.cells] at hcs
    obtain ⟨rfl, rfl, rfl⟩ := hcs
    simp at hmm
    subst hmm
    have key : ∀ i : Nat, ∃ y : Option Addr × Nat × Nat × List Int, i < len → V i = .slice y.1 y.2.1 y.2.2.1 ∧ InInts .u8 W y.1 y.2.1 y.2.2.2 ∧ y.2.1 ≤ y.2.2.1 := by
      intro i
      by_cases hil : i < len
      · obtain ⟨_, ht⟩ := hi i (by omega)
        have hshape : ∃ A l c, V i = .slice A l c ∧ l ≤ c := by
          rcases open_ints he hf hcf ht with ⟨hcs, _⟩ | ⟨x, l, c, zs, hcs, _, hl, _⟩
          · exact ⟨none, 0, 0, by simpa using hcs, Nat.le_refl _⟩
          · exact ⟨some x, l, c, by simpa using hcs, by omega⟩
        obtain ⟨A, l, c, hV, hlc⟩ := hshape
        rw [hV] at ht
        obtain ⟨zs, hz⟩ := open_inInts (a := A) (len := l) (cap := c) he hf hcf ⟨n, ht⟩
        exact ⟨(A, l, c, zs), fun _ => ⟨hV, hz, hlc⟩⟩
      · exact ⟨(none, 0, 0, []), fun h => absurd h hil⟩
    obtain ⟨F, hF⟩ := Classical.axiomOfChoice key
    refine ⟨fun i => (F i).1, fun i => (F i).2.1, fun i => (F i).2.2.1, fun i => (F i).2.2.2, by unfold maxLen at hm; omega, fun hp => ?_⟩
    obtain ⟨b, off, rfl⟩ := spot_none (hi 0 (by omega)).1
    refine ⟨b, off, rfl, World.block_lt_of_cell? W _ (hi 0 (by omega)).1 |> (by simpa [Addr.add] using ·), fun i hil => ?_⟩
    have h1 := (hi i (by omega)).1
    rw [Go.WideShapes.add_plain] at h1
    obtain ⟨h2, h3, h4⟩ := hF i hil
    exact ⟨by rw [h1, h2], h3, h4⟩
end
set_option maxRecDepth 100000 in
theorem open_brows {H : Type} {enc : TypeId × Value → H} {W : World} {base : Nat} {held : Bool} {r : Reach} {b0 : Nat} {v : Value} {d : DataW H} {p : List MemPlace} (hv : Value.okWide Tryd.prog W r b0 22 v) (h : DataW.Trod enc Tryd.prog W base (fun _ => true) held 22 v d p) :
    ∃ a len cap A L C Z, v = .slice a len cap ∧ InRowsB W a len A L C Z := by
  obtain ⟨a, len, cap, rfl⟩ := WideShapes.okWide_slice Tryd.underlying22 hv
  obtain ⟨A, L, C, Z, hz⟩ := open_inRowsB Tryd.underlying22 Tryd.underlying34 Tryd.underlying5 (by kernel_rfl) (by kernel_rfl) h
  exact ⟨a, len, cap, A, L, C, Z, rfl, hz⟩

/-! ### Bytes of other pages. -/
section
variable {nf : Nat} {mt mf : List (Int × Int)}
theorem rd_far (hF : Fair nf mt mf) (bs us : List Int) (a b n : Nat) (hma : ∀ i, i < us.length → mapped mt ((a + i) / 64)) (hmb : ∀ i, i < n → mapped mt ((b + i) / 64)) (hd : ∀ i j, i < us.length → j < n → a + i ≠ b + j) : rdB mt (wrB mt bs a us) b n = rdB mt bs b n := by
  apply List.ext_getElem?
  intro j
  rw [rdB_at, rdB_at]
  by_cases hj : j < n
  · rw [if_pos hj, if_pos hj, List.getD_eq_getElem?_getD, List.getD_eq_getElem?_getD, wrB_far us bs a _ (fun i hi he => hd i j hi hj (pos_inj hF (hma i hi) (hmb j hj) he))]
  · rw [if_neg hj, if_neg hj]
theorem rd_map (bs : List Int) (p f : Int) (a n : Nat) (h : ∀ i, i < n → (((a + i) / 64 : Nat) : Int) ≠ p) : rdB (mput mt p f) bs a n = rdB mt bs a n := by
  apply List.ext_getElem?
  intro j
  rw [rdB_at, rdB_at]
  by_cases hj : j < n
  · rw [if_pos hj, if_pos hj]
    have : posN (mput mt p f) (a + j) = posN mt (a + j) := by
      unfold posN frOf
      rw [mget_put, if_neg (fun e => h j hj e.symm)]
    rw [this]
  · rw [if_neg hj, if_neg hj]
end
def pgT : Nat → List (Int × Int)
  | 0 => []
  | p + 1 => mput (pgT p) ((p : Int) + 1) (2 * (p : Int))
def pgF : Nat → List (Int × Int)
  | 0 => []
  | p + 1 => mput (pgF p) (2 * (p : Int)) ((p : Int) + 1)
theorem pg_none (p : Nat) (h : p < 6) : mget (pgT p) ((p : Int) + 1) = none ∧ mget (pgF p) (2 * (p : Int)) = none := by
  obtain rfl | rfl | rfl | rfl | rfl | rfl : p = 0 ∨ p = 1 ∨ p = 2 ∨ p = 3 ∨ p = 4 ∨ p = 5 := by omega
  all_goals decide +kernel
theorem pg_len : ∀ p : Nat, p ≤ 6 → (pgT p).length = p := by
  intro p h
  obtain rfl | rfl | rfl | rfl | rfl | rfl | rfl : p = 0 ∨ p = 1 ∨ p = 2 ∨ p = 3 ∨ p = 4 ∨ p = 5 ∨ p = 6 := by omega
  all_goals decide +kernel
/-- The pages 1 to m stand on frames, and hold their texts. -/
structure PgInv (m : Nat) (us : Nat → List Int) (bs : List Int) (mt : List (Int × Int)) : Prop where
  mp : ∀ q, q < m → mapped mt (q + 1)
  rd : ∀ q, q < m → rdB mt bs (64 * (q + 1)) (us q).length = us q
  ln : mt.length = m
theorem page_of {q i : Nat} (h : i < 64) : (64 * (q + 1) + i) / 64 = q + 1 := by omega
section
variable {m nf : Nat} {us : Nat → List Int} {bs : List Int} {mt mf : List (Int × Int)}
theorem PgInv.zero : PgInv 0 us bs [] := ⟨fun q h => absurd h (by omega), fun q h => absurd h (by omega), rfl⟩
theorem PgInv.step (h : PgInv m us bs mt) (hu : ∀ q, (us q).length ≤ 64) (f : Int) (hn : mget mt ((m : Int) + 1) = none) (hF : Fair nf (mput mt ((m : Int) + 1) f) mf) (hl : bs.length = nf * 64) : PgInv (m + 1) us (wrB (mput mt ((m : Int) + 1) f) bs (64 * (m + 1)) (us m)) (mput mt ((m : Int) + 1) f) := by
  have hmp : ∀ q, q < m + 1 → mapped (mput mt ((m : Int) + 1) f) (q + 1) := by
    intro q hq
    unfold mapped
    rw [mget_put]
    split
    · rfl
    · next hne =>
      have hq2 : q < m := by
        apply Classical.byContradiction
        intro h2
        apply hne
        have : q = m := by omega
        subst this
        simp
      exact h.mp q hq2
  refine ⟨hmp, fun q hq => ?_, ?_⟩
  · have hum := hu m
    have huq := hu q
    by_cases e : q = m
    · subst e
      have := rd_wr hF bs (us q) (64 * (q + 1)) hl (fun i hi => by rw [page_of (by omega)]; exact hmp q hq) 0 (us q).length (by omega)
      rw [Nat.add_zero, List.drop_zero, List.take_length] at this
      exact this
    · rw [rd_far hF bs (us m) _ _ _ (fun i hi => by rw [page_of (by omega)]; exact hmp m (by omega)) (fun i hi => by rw [page_of (by omega)]; exact hmp q hq) (fun i j hi hj => by omega), rd_map _ _ _ _ _ (fun i hi => by rw [page_of (by omega)]; omega)]
      exact h.rd q (by omega)
  · rw [length_mput, hn]
    have := h.ln
    simp
    omega
theorem PgInv.move (h : PgInv m us bs mt) (hu : ∀ q, (us q).length ≤ 64) {p f was : Nat} (hp1 : p < m) (hF : Fair nf mt mf) (hl : bs.length = nf * 64) (h3 : f < nf) (hp : mget mt ((p : Int) + 1) = some (was : Int)) (hf : mget mf (f : Int) = none) : PgInv m us (putL bs (f * 64) (frBs bs was)) (mput mt ((p : Int) + 1) f) := by
  have key := fun q (hq : q < m) => rd_move (p := p + 1) hF hl h3 (by exact_mod_cast hp) hf (64 * (q + 1)) (us q).length (fun k h1 h2 => by have := hu q; rw [show k / 64 = q + 1 by omega]; exact h.mp q hq)
  have e : ((p + 1 : Nat) : Int) = (p : Int) + 1 := by omega
  rw [e] at key
  refine ⟨fun q hq => ?_, fun q hq => ?_, ?_⟩
  · unfold mapped
    rw [mget_put]
    split
    · rfl
    · exact h.mp q hq
  · rw [(key q hq).1]; exact h.rd q hq
  · rw [length_mput, hp]
    have := h.ln
    simpa using this
end
end Go.Proofs.YtbgnaohjcfbaaaaDoor
