/- Rows of the call's own, of elements of any size: what keeps them, a store, a cut, an append. -/
import Derived.Test.YtbgnaohjcfbaaaaDoorCuts
import Derived.Test.YtbgnaohjcfbaaaaDoorPut
import Derived.Test.YtbgnaohjcfbaaaaDoorClone
namespace Go.Proofs.YtbgnaohjcfbaaaaDoor
open Go.RowKit
set_option linter.unusedVariables false
set_option linter.unusedSimpArgs false
attribute [local go_sem] World.cell?_alloc_lt

section
variable {w w' : World} {base n k e s : Nat} {v : Value} {xs : List Value}
theorem own_chV {S : List Nat} (h : w.ownsRow base e s v n xs) (k : Ch S w w') (hn : ∀ g, v.ownBlock = some g → g ∉ S) : w'.ownsRow base e s v n xs := by
  refine ⟨h.1, ?_⟩
  rcases h.2 with h2 | ⟨g, cap, cur, hv, hg, hh, r⟩
  · exact Or.inl h2
  · refine Or.inr ⟨g, cap, cur, hv, hg, ?_, r⟩
    rw [k.block g (Array.getElem?_eq_some_iff.1 hh).1 (hn g (by rw [hv]; rfl))]
    exact hh
theorem own_blkV (h : w.ownsRow base e s v n xs) : ∀ g, v.ownBlock = some g → ∃ cur, w.heap[g]? = some (.cells cur e (0, 0)) := by
  intro g hg
  rcases h.2 with ⟨h0, _⟩ | ⟨g', cap, cur, hv, _, hh, _⟩
  · rw [h0] at hg; simp [Value.ownBlock] at hg
  · rw [hv] at hg
    have : g' = g := by simpa [Value.ownBlock] using hg
    subst this
    exact ⟨cur, hh⟩
theorem own_neV {t b : Nat} {cs : List Value} (h : w.ownsRow base e s v n xs) (hb : Blk w b t cs) (hne : e ≠ t) : v.ownBlock ≠ some b := by
  intro hg
  obtain ⟨cur, hh⟩ := own_blkV h b hg
  unfold Blk at hb
  rw [hh] at hb
  injection hb with hb
  injection hb with _ ht
  exact hne ht
theorem own_take {A : Option Addr} {c : Nat} (h : w.ownsRow base e 1 (.slice A n c) n xs) (hk : k ≤ n) (hA : A ≠ none) : w.ownsRow base e 1 (.slice A k c) k (xs.take k) := by
  rcases h.2 with ⟨h0, _⟩ | ⟨g, cap, cur, hv, hg, hh, hnc, hcm, hsz, ht⟩
  · injection h0 with h1 _ _; exact absurd h1 hA
  · injection hv with h1 h2 h3
    subst h1 h3
    refine ⟨by rw [List.length_take, h.1]; omega, Or.inr ⟨g, c, cur, rfl, hg, hh, by omega, hcm, hsz, ?_⟩⟩
    rw [← ht, List.take_take, Nat.mul_one, Nat.mul_one, Nat.min_eq_left hk]
/-- What is laid over a row of the call's own from its head on. -/
theorem own_over {g c : Nat} {ys : List Value} (h : w.ownsRow base e 1 (.slice (some ⟨g, 0, none⟩) n c) n xs) (hy : ys.length = n) : (w.setCells g 0 ys).ownsRow base e 1 (.slice (some ⟨g, 0, none⟩) n c) n ys ∧ Ch [g] w (w.setCells g 0 ys) := by
  rcases h.2 with ⟨h0, _⟩ | ⟨g', cap, cur, hv, hg, hh, hnc, hcm, hsz, ht⟩
  · cases h0
  · injection hv with h1 _ h3
    injection h1 with h1
    injection h1 with h1
    subst h1 h3
    have hb : Blk w g e cur.toList := by unfold Blk; rw [hh]
    obtain ⟨hb2, hc⟩ := Blk.setCells ys cur.toList 0 w hb
    refine ⟨⟨by omega, Or.inr ⟨g, c, (putL cur.toList 0 ys).toArray, rfl, hg, hb2, hnc, hcm, by simp [putL_len, hsz], ?_⟩⟩, hc⟩
    rw [Nat.mul_one]
    apply List.ext_getElem?
    intro i
    rw [show (putL cur.toList 0 ys).toArray.toList = putL cur.toList 0 ys from rfl, List.getElem?_take, putL_get _ _ _ _ (by have : cur.toList.length = cur.size := Array.length_toList; omega)]
    by_cases hi : i < n
    · rw [if_pos hi, if_pos (by omega), Nat.sub_zero]
    · rw [if_neg hi, List.getElem?_eq_none (by omega)]
end

theorem ch_keep {w w' : World} {S : List Nat} {b o : Nat} {v : Value} (k : Ch S w w') (hn : b ∉ S) (h : w.cell? ⟨b, o, none⟩ = some v) : w'.cell? ⟨b, o, none⟩ = some v := by
  have hb := World.block_lt_of_cell? w _ h
  rw [← h]
  exact World.cell?_of_block (k.block b hb hn)

theorem own_set1 {w : World} {base g n c i : Nat} {e : TypeId} {xs : List Value} (h : w.ownsRow base e 1 (.slice (some ⟨g, 0, none⟩) n c) n xs) (hi : i < n) (u : Value) : (w.setCell ⟨g, i, none⟩ u).ownsRow base e 1 (.slice (some ⟨g, 0, none⟩) n c) n (xs.set i u) := by
  refine ⟨by rw [List.length_set]; exact h.1, ?_⟩
  rcases h.2 with ⟨h0, _⟩ | ⟨g', cap, cur, hv, hb, hh, h1, h2, h3, h4⟩
  · cases h0
  · injection hv with hA hn hc
    injection hA with hA
    injection hA with hA
    subst hA hc
    refine Or.inr ⟨g, c, cur.setIfInBounds i u, rfl, hb, ?_, h1, h2, by simp [h3], ?_⟩
    · simp [World.setCell, Array.getElem?_modify, hh]
    · rw [Array.toList_setIfInBounds, List.take_set, h4]
theorem wpList_pushesN {P : Program} (w : World) {ops : Array Oper} {rest : List Oper} {o : Oper} {a : Act} {Q : Exit → Act → World → Prop} (hgd : o.guard = none) (s x : Operand) (t : TypeId)
    (ho : o.op = .call { callee := .builtin .append, args := #[s, x], argTypes := #[t, t] })
    (base : Nat) (e : TypeId) (z : Value) (sz bytes : Nat) (ht : P.underlying t = some (.slice e)) (hinfo : (P.info? e).map (fun i => (i.zero, i.size, i.bytes)) = some (some z, sz, bytes)) (hz1 : z.cells.size = sz) (hsz : 0 < sz)
    (A : Option Addr) (n c : Nat) (xs : List Value) (hs : a.eval s = .slice A n c) (hown : w.ownsRow base e sz (.slice A n c) n xs)
    (B off m mc : Nat) (us : List Value) (hx : a.eval x = .slice (some ⟨B, off, none⟩) m mc) (hl : us.length = m * sz) (hc : ∀ j u, us[j]? = some u → w.cell? ⟨B, off + j, none⟩ = some u) (h1 : ∀ u ∈ us, u.oneCell' = true)
    (hm : 0 < m) (hb : (n + m) * bytes ≤ 140737488355328) (hn63 : n + m ≤ 9223372036854775807) (hbase : base ≤ w.heap.size)
    (h : ∀ g cap w', w'.ownsRow base e sz (.slice (some ⟨g, 0, none⟩) (n + m) cap) (n + m) (xs ++ us) → w.grownBy w' (Value.slice A n c).ownBlock → ((Value.slice A n c).ownBlock = some g ∨ g = w.heap.size) → wpList P ops Q rest (a.put o.dst (.slice (some ⟨g, 0, none⟩) (n + m) cap)) w') : wpList P ops Q (o :: rest) a w := by
  obtain ⟨i0, hi, hz0, hz1', hz2⟩ := info_parts hinfo
  refine wpList_append_lies w hgd s x t ho base e i0 z sz bytes ht hi hz0 hz1' hz2 hz1 hsz _ n xs hs hown ⟨B, off, none⟩ m mc us hx hl ?_ h1 hm (by unfold maxLen; omega) hb hbase _ rfl (fun g cap w' h1 h2 h3 _ => h g cap w' h1 h2 h3)
  intro j v hj
  have := hc j v hj
  rw [WideShapes.add_plain]; exact this
/-- Two rows of different elements lie apart. -/
theorem own_apart {w : World} {b1 b2 e1 e2 s1 s2 n1 n2 : Nat} {v1 v2 : Value} {x1 x2 : List Value} (h1 : w.ownsRow b1 e1 s1 v1 n1 x1) (h2 : w.ownsRow b2 e2 s2 v2 n2 x2) (hne : e1 ≠ e2) : ∀ g, v1.ownBlock = some g → v2.ownBlock ≠ some g := by
  intro g hg hg2
  obtain ⟨c1, h3⟩ := own_blkV h1 g hg
  obtain ⟨c2, h4⟩ := own_blkV h2 g hg2
  rw [h3] at h4
  injection h4 with h4
  injection h4 with _ h5
  exact hne h5
theorem own_base0 {w : World} {base b' e s n : Nat} {v : Value} {xs : List Value} (h : w.ownsRow base e s v n xs) (hb : b' ≤ base) : w.ownsRow b' e s v n xs := by
  refine ⟨h.1, ?_⟩
  rcases h.2 with h2 | ⟨g, cap, cur, hv, hg, r⟩
  · exact Or.inl h2
  · exact Or.inr ⟨g, cap, cur, hv, Nat.le_trans hb hg, r⟩
end Go.Proofs.YtbgnaohjcfbaaaaDoor
