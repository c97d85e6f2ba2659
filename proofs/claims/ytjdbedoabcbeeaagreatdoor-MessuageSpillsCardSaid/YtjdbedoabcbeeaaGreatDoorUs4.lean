/- Parts of the proof: OwnRows, Mach, MapRange, Ints. -/
import Derived.Test.YtjdbedoabcbeeaaGreatDoorUs3
import Derived.Test.YtjdbedoabcbeeaaGreatDoorUs2
import Derived.Maps.RangeRun
import Derived.Test.YtjdbedoabcbeeaaGreatDoorUs1
/- Rows of the call's own, of elements of any size: what keeps them, a store, a cut, an append. -/
namespace Go.Proofs.YtjdbedoabcbeeaaGreatDoor
open Go.RowKit
set_option linter.unusedVariables false
set_option linter.unusedSimpArgs false
attribute [local go_sem] World.cell?_alloc_lt

section
variable {w w' : World} {base n k e s : Nat} {v : Value} {xs : List Value}
theorem own_chV {S : List Nat} (h : w.ownsRow base e s v n xs) (k : Ch S w w') (hn : ∀ g, v.ownBlock = some g → g ∉ S) : w'.ownsRow base e s v n xs := by
  refine ⟨h.1, ?_⟩
  rcases h.2 with h2 | ⟨g, cap, cur, hv, hg, hh, r⟩
  · exact Or.inl h2
  · refine Or.inr ⟨g, cap, cur, hv, hg, ?_, r⟩
    rw [k.block g (Array.getElem?_eq_some_iff.1 hh).1 (hn g (by rw [hv]; rfl))]
    exact hh
theorem own_blkV (h : w.ownsRow base e s v n xs) : ∀ g, v.ownBlock = some g → ∃ cur, w.heap[g]? = some (.cells cur e (0, 0)) := by
  intro g hg
  rcases h.2 with ⟨h0, _⟩ | ⟨g', cap, cur, hv, _, hh, _⟩
  · rw [h0] at hg; simp [Value.ownBlock] at hg
  · rw [hv] at hg
    have : g' = g := by simpa [Value.ownBlock] using hg
    subst this
    exact ⟨cur, hh⟩
theorem own_neV {t b : Nat} {cs : List Value} (h : w.ownsRow base e s v n xs) (hb : Blk w b t cs) (hne : e ≠ t) : v.ownBlock ≠ some b := by
  intro hg
  obtain ⟨cur, hh⟩ := own_blkV h b hg
  unfold Blk at hb
  rw [hh] at hb
  injection hb with hb
  injection hb with _ ht
  exact hne ht
theorem own_take {A : Option Addr} {c : Nat} (h : w.ownsRow base e 1 (.slice A n c) n xs) (hk : k ≤ n) (hA : A ≠ none) : w.ownsRow base e 1 (.slice A k c) k (xs.take k) := by
  rcases h.2 with ⟨h0, _⟩ | ⟨g, cap, cur, hv, hg, hh, hnc, hcm, hsz, ht⟩
  · injection h0 with h1 _ _; exact absurd h1 hA
  · injection hv with h1 h2 h3
    subst h1 h3
    refine ⟨by rw [List.length_take, h.1]; omega, Or.inr ⟨g, c, cur, rfl, hg, hh, by omega, hcm, hsz, ?_⟩⟩
    rw [← ht, List.take_take, Nat.mul_one, Nat.mul_one, Nat.min_eq_left hk]
/-- What is laid over a row of the call's own from its head on. -/
theorem own_over {g c : Nat} {ys : List Value} (h : w.ownsRow base e 1 (.slice (some ⟨g, 0, none⟩) n c) n xs) (hy : ys.length = n) : (w.setCells g 0 ys).ownsRow base e 1 (.slice (some ⟨g, 0, none⟩) n c) n ys ∧ Ch [g] w (w.setCells g 0 ys) := by
  rcases h.2 with ⟨h0, _⟩ | ⟨g', cap, cur, hv, hg, hh, hnc, hcm, hsz, ht⟩
  · cases h0
  · injection hv with h1 _ h3
    injection h1 with h1
    injection h1 with h1
    subst h1 h3
    have hb : Blk w g e cur.toList := by unfold Blk; rw [hh]
    obtain ⟨hb2, hc⟩ := Blk.setCells ys cur.toList 0 w hb
    refine ⟨⟨by omega, Or.inr ⟨g, c, (putL cur.toList 0 ys).toArray, rfl, hg, hb2, hnc, hcm, by simp [putL_len, hsz], ?_⟩⟩, hc⟩
    rw [Nat.mul_one]
    apply List.ext_getElem?
    intro i
    rw [show (putL cur.toList 0 ys).toArray.toList = putL cur.toList 0 ys from rfl, List.getElem?_take, putL_get _ _ _ _ (by have : cur.toList.length = cur.size := Array.length_toList; omega)]
    by_cases hi : i < n
    · rw [if_pos hi, if_pos (by omega), Nat.sub_zero]
    · rw [if_neg hi, List.getElem?_eq_none (by omega)]
end

theorem ch_keep {w w' : World} {S : List Nat} {b o : Nat} {v : Value} (k : Ch S w w') (hn : b ∉ S) (h : w.cell? ⟨b, o, none⟩ = some v) : w'.cell? ⟨b, o, none⟩ = some v := by
  have hb := World.block_lt_of_cell? w _ h
  rw [← h]
  exact World.cell?_of_block (k.block b hb hn)

theorem own_set1 {w : World} {base g n c i : Nat} {e : TypeId} {xs : List Value} (h : w.ownsRow base e 1 (.slice (some ⟨g, 0, none⟩) n c) n xs) (hi : i < n) (u : Value) : (w.setCell ⟨g, i, none⟩ u).ownsRow base e 1 (.slice (some ⟨g, 0, none⟩) n c) n (xs.set i u) := by
  refine ⟨by rw [List.length_set]; exact h.1, ?_⟩
  rcases h.2 with ⟨h0, _⟩ | ⟨g', cap, cur, hv, hb, hh, h1, h2, h3, h4⟩
  · cases h0
  · injection hv with hA hn hc
    injection hA with hA
    injection hA with hA
    subst hA hc
    refine Or.inr ⟨g, c, cur.setIfInBounds i u, rfl, hb, ?_, h1, h2, by simp [h3], ?_⟩
    · simp [World.setCell, Array.getElem?_modify, hh]
    · rw [Array.toList_setIfInBounds, List.take_set, h4]
theorem wpList_pushesN {P : Program} (w : World) {ops : Array Oper} {rest : List Oper} {o : Oper} {a : Act} {Q : Exit → Act → World → Prop} (hgd : o.guard = none) (s x : Operand) (t : TypeId)
    (ho : o.op = .call { callee := .builtin .append, args := #[s, x], argTypes := #[t, t] })
    (base : Nat) (e : TypeId) (z : Value) (sz bytes : Nat) (ht : P.underlying t = some (.slice e)) (hinfo : (P.info? e).map (fun i => (i.zero, i.size, i.bytes)) = some (some z, sz, bytes)) (hz1 : z.cells.size = sz) (hsz : 0 < sz)
    (A : Option Addr) (n c : Nat) (xs : List Value) (hs : a.eval s = .slice A n c) (hown : w.ownsRow base e sz (.slice A n c) n xs)
    (B off m mc : Nat) (us : List Value) (hx : a.eval x = .slice (some ⟨B, off, none⟩) m mc) (hl : us.length = m * sz) (hc : ∀ j u, us[j]? = some u → w.cell? ⟨B, off + j, none⟩ = some u) (h1 : ∀ u ∈ us, u.oneCell' = true)
    (hm : 0 < m) (hb : (n + m) * bytes ≤ 140737488355328) (hn63 : n + m ≤ 9223372036854775807) (hbase : base ≤ w.heap.size)
    (h : ∀ g cap w', w'.ownsRow base e sz (.slice (some ⟨g, 0, none⟩) (n + m) cap) (n + m) (xs ++ us) → w.grownBy w' (Value.slice A n c).ownBlock → ((Value.slice A n c).ownBlock = some g ∨ g = w.heap.size) → wpList P ops Q rest (a.put o.dst (.slice (some ⟨g, 0, none⟩) (n + m) cap)) w') : wpList P ops Q (o :: rest) a w := by
  obtain ⟨i0, hi, hz0, hz1', hz2⟩ := info_parts hinfo
  refine wpList_append_lies w hgd s x t ho base e i0 z sz bytes ht hi hz0 hz1' hz2 hz1 hsz _ n xs hs hown ⟨B, off, none⟩ m mc us hx hl ?_ h1 hm (by unfold maxLen; omega) hb hbase _ rfl (fun g cap w' h1 h2 h3 _ => h g cap w' h1 h2 h3)
  intro j v hj
  have := hc j v hj
  rw [WideShapes.add_plain]; exact this
/-- Two rows of different elements lie apart. -/
theorem own_apart {w : World} {b1 b2 e1 e2 s1 s2 n1 n2 : Nat} {v1 v2 : Value} {x1 x2 : List Value} (h1 : w.ownsRow b1 e1 s1 v1 n1 x1) (h2 : w.ownsRow b2 e2 s2 v2 n2 x2) (hne : e1 ≠ e2) : ∀ g, v1.ownBlock = some g → v2.ownBlock ≠ some g := by
  intro g hg hg2
  obtain ⟨c1, h3⟩ := own_blkV h1 g hg
  obtain ⟨c2, h4⟩ := own_blkV h2 g hg2
  rw [h3] at h4
  injection h4 with h4
  injection h4 with _ h5
  exact hne h5
theorem own_base0 {w : World} {base b' e s n : Nat} {v : Value} {xs : List Value} (h : w.ownsRow base e s v n xs) (hb : b' ≤ base) : w.ownsRow b' e s v n xs := by
  refine ⟨h.1, ?_⟩
  rcases h.2 with h2 | ⟨g, cap, cur, hv, hg, r⟩
  · exact Or.inl h2
  · exact Or.inr ⟨g, cap, cur, hv, Nat.le_trans hb hg, r⟩
end Go.Proofs.YtjdbedoabcbeeaaGreatDoor
/- Parts of a world that lie apart: each block has one owner. -/
namespace Go.Proofs.YtjdbedoabcbeeaaGreatDoor
open Go.RowKit
set_option linter.unusedVariables false

/-- A part: what holds of the world, and the blocks that it stands on. -/
structure Part where
  holds : World → Prop
  foot : List Nat
  keep : ∀ (S : List Nat) (w w' : World), holds w → Ch S w w' → (∀ x ∈ S, x ∉ foot) → holds w'
  lt : ∀ w, holds w → ∀ x ∈ foot, x < w.heap.size
/-- All parts hold, their blocks are new since w0, and each block has one owner. -/
structure Mach (w0 w : World) (ps : List Part) : Prop where
  all : ∀ (k : Nat) (p : Part), ps[k]? = some p → p.holds w ∧ ∀ x ∈ p.foot, w0.heap.size ≤ x
  own : ∃ col : Nat → Nat, ∀ (k : Nat) (p : Part), ps[k]? = some p → ∀ x ∈ p.foot, col x = k
  bel : Below w0.heap.size w0 w
section
variable {w0 w w' : World} {ps : List Part}
theorem Mach.get (H : Mach w0 w ps) {k : Nat} {p : Part} (hk : ps[k]? = some p) : p.holds w := (H.all k p hk).1
theorem Mach.low (H : Mach w0 w ps) {k : Nat} {p : Part} (hk : ps[k]? = some p) : ∀ x ∈ p.foot, w0.heap.size ≤ x := (H.all k p hk).2
theorem Mach.ne (H : Mach w0 w ps) {j k : Nat} {p q : Part} (hj : ps[j]? = some p) (hk : ps[k]? = some q) (hne : j ≠ k) : ∀ x ∈ p.foot, x ∉ q.foot := by
  obtain ⟨col, hc⟩ := H.own
  intro x hx hx2
  exact hne ((hc j p hj x hx).symm.trans (hc k q hk x hx2))
theorem Mach.nil (w : World) : Mach w w [] := ⟨fun k p h => by simp at h, ⟨fun _ => 0, fun k p h => by simp at h⟩, Below.refl _ _⟩
/-- Nothing of the parts changes. -/
theorem Mach.below (H : Mach w0 w ps) (h : Below w.heap.size w w') : Mach w0 w' ps :=
  ⟨fun k p hk => ⟨p.keep [] w w' (H.get hk) (Ch.below h []) (by simp), H.low hk⟩, H.own, bel_trans H.bel h⟩
/-- One part changes. -/
theorem Mach.upd (H : Mach w0 w ps) {k : Nat} {p p' : Part} (hk : ps[k]? = some p) (hc : Ch p.foot w w') (hp : p'.holds w') (hf : ∀ x ∈ p'.foot, x ∈ p.foot ∨ w.heap.size ≤ x) : Mach w0 w' (ps.set k p') := by
  have hkl := (List.getElem?_eq_some_iff.1 hk).1
  have hsz := H.bel.size
  refine ⟨fun j q hq => ?_, ?_, bel_ch H.bel hc (H.low hk)⟩
  · by_cases hjk : k = j
    · subst hjk
      rw [List.getElem?_set_self hkl] at hq
      injection hq with hq
      subst hq
      exact ⟨hp, fun x hx => (hf x hx).elim (H.low hk x) (fun h => Nat.le_trans hsz h)⟩
    · rw [List.getElem?_set_ne hjk] at hq
      exact ⟨q.keep p.foot w w' (H.get hq) hc (H.ne hk hq hjk), H.low hq⟩
  · obtain ⟨col, hcol⟩ := H.own
    refine ⟨fun x => if x < w.heap.size then col x else k, fun j q hq x hx => ?_⟩
    by_cases hjk : k = j
    · subst hjk
      rw [List.getElem?_set_self hkl] at hq
      injection hq with hq
      subst hq
      show (if x < w.heap.size then col x else k) = k
      split
      · rename_i hlt
        rcases hf x hx with h | h
        · exact hcol k p hk x h
        · omega
      · rfl
    · rw [List.getElem?_set_ne hjk] at hq
      have := q.lt w (H.get hq) x hx
      show (if x < w.heap.size then col x else k) = j
      rw [if_pos this]
      exact hcol j q hq x hx
/-- One part more. -/
theorem Mach.add (H : Mach w0 w ps) {p' : Part} (hb : Below w.heap.size w w') (hp : p'.holds w') (hf : ∀ x ∈ p'.foot, w.heap.size ≤ x) : Mach w0 w' (ps ++ [p']) := by
  have hsz := H.bel.size
  refine ⟨fun j q hq => ?_, ?_, bel_trans H.bel hb⟩
  · by_cases hj : j < ps.length
    · rw [List.getElem?_append_left hj] at hq
      exact ⟨q.keep [] w w' (H.get hq) (Ch.below hb []) (by simp), H.low hq⟩
    · have hl := (List.getElem?_eq_some_iff.1 hq).1
      rw [List.length_append, List.length_singleton] at hl
      obtain rfl : j = ps.length := by omega
      rw [List.getElem?_append_right (Nat.le_refl _), Nat.sub_self] at hq
      injection hq with hq
      subst hq
      exact ⟨hp, fun x hx => Nat.le_trans hsz (hf x hx)⟩
  · obtain ⟨col, hcol⟩ := H.own
    refine ⟨fun x => if x < w.heap.size then col x else ps.length, fun j q hq x hx => ?_⟩
    show (if x < w.heap.size then col x else ps.length) = j
    by_cases hj : j < ps.length
    · rw [List.getElem?_append_left hj] at hq
      rw [if_pos (q.lt w (H.get hq) x hx)]
      exact hcol j q hq x hx
    · have hl := (List.getElem?_eq_some_iff.1 hq).1
      rw [List.length_append, List.length_singleton] at hl
      obtain rfl : j = ps.length := by omega
      rw [List.getElem?_append_right (Nat.le_refl _), Nat.sub_self] at hq
      injection hq with hq
      subst hq
      have := hf x hx
      rw [if_neg (by omega)]
/-- Two parts become one. -/
theorem Mach.weaken (H : Mach w0 w ps) {k : Nat} {p p' : Part} (hk : ps[k]? = some p) (hp : p'.holds w) (hf : ∀ x ∈ p'.foot, x ∈ p.foot) : Mach w0 w (ps.set k p') :=
  H.upd hk (Ch.refl _ w) hp (fun x hx => Or.inl (hf x hx))
end
end Go.Proofs.YtjdbedoabcbeeaaGreatDoor
/- A range over a map of no more than one entry. -/
namespace Go.Proofs.YtjdbedoabcbeeaaGreatDoor
open Go.RowKit
set_option linter.unusedVariables false
set_option linter.unusedSimpArgs false

section
variable {α : Type} {κ : Keys α}
/-- An iterator over map b: no step yet. -/
structure It0 (κ : Keys α) (w : World) (r b : Nat) (m : List (α × Value)) : Prop where
  ex : ∃ es clock, w.heap[b]? = some (.map es clock) ∧ w.heap[r]? = some (.mapIter (some b) clock #[] clock) ∧ es.toList.map (fun e => (e.key, e.val)) = m.map (fun p => (κ.val p.1, p.2)) ∧ (es.toList.map (·.born)).Nodup ∧ ∀ e ∈ es.toList, e.born < clock
/-- The only entry was handed out. -/
structure It1 (κ : Keys α) (w : World) (r b : Nat) (a : α) (v : Value) : Prop where
  ex : ∃ e clock, w.heap[b]? = some (.map #[e] clock) ∧ w.heap[r]? = some (.mapIter (some b) clock #[e.born] clock) ∧ e.key = κ.val a ∧ e.val = v ∧ e.born < clock
theorem It0.ch {S : List Nat} {w w' : World} {r b : Nat} {m : List (α × Value)} (h : It0 κ w r b m) (k : Ch S w w') (hr : r ∉ S) (hb : b ∉ S) : It0 κ w' r b m := by
  obtain ⟨es, clock, h1, h2, h3⟩ := h.ex
  exact ⟨es, clock, (k.block b (Array.getElem?_eq_some_iff.1 h1).1 hb).trans h1, (k.block r (Array.getElem?_eq_some_iff.1 h2).1 hr).trans h2, h3⟩
theorem It1.ch {S : List Nat} {w w' : World} {r b : Nat} {a : α} {v : Value} (h : It1 κ w r b a v) (k : Ch S w w') (hr : r ∉ S) (hb : b ∉ S) : It1 κ w' r b a v := by
  obtain ⟨e, clock, h1, h2, h3⟩ := h.ex
  exact ⟨e, clock, (k.block b (Array.getElem?_eq_some_iff.1 h1).1 hb).trans h1, (k.block r (Array.getElem?_eq_some_iff.1 h2).1 hr).trans h2, h3⟩
theorem MapAt.run_range {P : Program} {w : World} {b : Nat} {m : List (α × Value)} {T K E : TypeId} (h : MapAt κ w b m) (hT : P.underlying T = some (.map K E)) :
    ∃ o, (Instr.range T (.map (some b))).run P w = .ok (.pointer (some ⟨w.heap.size, 0, none⟩)) (w.alloc o) ∧ It0 κ (w.alloc o) w.heap.size b m := by
  have hlt := h.lt
  obtain ⟨es, clock, hb, he, hnd, hbc⟩ := h.ex
  refine ⟨_, run_range_map w T K E b es clock hT hb, es, clock, ?_, heap_alloc_new w _, he, hnd, hbc⟩
  rw [heap_alloc_old w _ hlt, hb]
theorem It0.next_nil {P : Program} {w : World} {r b : Nat} (h : It0 κ w r b []) (ty : TypeId) : (Instr.next (.pointer (some ⟨r, 0, none⟩)) false ty).run P w = .ok (.tuple #[.bool false]) w := by
  obtain ⟨es, clock, hb, hr, he, hnd, hbc⟩ := h.ex
  have h0 : es.toList = [] := by simpa using he
  rcases run_next_at (P := P) w ty r b clock clock #[] es clock hr hb hbc (Nat.le_refl _) with ⟨_, h2⟩ | ⟨e, hm, _⟩
  · exact h2
  · unfold leftOf at hm
    have : e ∈ es.toList := by
      simp at hm
      simpa using hm
    rw [h0] at this
    cases this
theorem It0.next {P : Program} {w : World} {r b : Nat} {a : α} {v : Value} (h : It0 κ w r b [(a, v)]) (hrb : r ≠ b) (ty : TypeId) :
    ∃ w', (Instr.next (.pointer (some ⟨r, 0, none⟩)) false ty).run P w = .ok (.tuple #[.bool true, κ.val a, v]) w' ∧ It1 κ w' r b a v ∧ Ch [r] w w' := by
  obtain ⟨es, clock, hb, hr, he, hnd, hbc⟩ := h.ex
  obtain ⟨e0, he0⟩ : ∃ e0, es.toList = [e0] := by
    have hl := congrArg List.length he
    simp only [List.length_map, List.length_cons, List.length_nil] at hl
    match hq : es.toList, hl with
    | [e0], _ => exact ⟨e0, rfl⟩
  have hes : es = #[e0] := by
    apply Array.ext'
    rw [he0]
  subst hes
  have hk : e0.key = κ.val a ∧ e0.val = v := by simpa using he
  rcases run_next_at (P := P) w ty r b clock clock #[] #[e0] clock hr hb hbc (Nat.le_refl _) with ⟨h1, _⟩ | ⟨e, hm, w1, hal, hrun⟩
  · unfold leftOf at h1
    simp at h1
  · have hee : e = e0 := by
      unfold leftOf at hm
      simpa using hm
    subst hee
    have hw1 : Ch [r] w w1 := by
      rcases hal with rfl | rfl
      · exact Ch.refl _ _
      · exact (Ch.refl _ _).drew
    have hlr : r < w1.heap.size := Nat.lt_of_lt_of_le (Array.getElem?_eq_some_iff.1 hr).1 hw1.size
    have hlb : b < w.heap.size := (Array.getElem?_eq_some_iff.1 hb).1
    have hcs := setBlock_ch w1 r (.mapIter (some b) clock (#[].push e.born) clock)
    have hca : Ch [r] w (ChangeMaps.setBlock w1 r (.mapIter (some b) clock (#[].push e.born) clock)) := hw1.trans hcs
    refine ⟨ChangeMaps.setBlock w1 r (.mapIter (some b) clock (#[].push e.born) clock), ?_, ⟨e, clock, ?_, setBlock_at _ hlr, hk.1, hk.2, hbc e (by simp)⟩, hca⟩
    · rw [hrun, hk.1, hk.2]
    · exact (hca.block b hlb (by simpa using fun h => hrb h.symm)).trans hb
theorem It1.entry {P : Program} {w : World} {r b : Nat} {a : α} {v : Value} (h : It1 κ w r b a v) : (Instr.entry (.pointer (some ⟨r, 0, none⟩))).run P w = .ok (.tuple #[κ.val a, v]) w := by
  obtain ⟨e, clock, hb, hr, hk, hv, hbc⟩ := h.ex
  have := run_entry_at (P := P) w r b clock #[] #[e] clock e (by simpa using hr) hb (by simp) (by simp)
  rw [hk, hv] at this
  exact this
theorem It1.next {P : Program} {w : World} {r b : Nat} {a : α} {v : Value} (h : It1 κ w r b a v) (ty : TypeId) : (Instr.next (.pointer (some ⟨r, 0, none⟩)) false ty).run P w = .ok (.tuple #[.bool false]) w := by
  obtain ⟨e, clock, hb, hr, hk, hv, hbc⟩ := h.ex
  rcases run_next_at (P := P) w ty r b clock clock #[e.born] #[e] clock hr hb (by simpa using hbc) (Nat.le_refl _) with ⟨_, h2⟩ | ⟨e', hm, _⟩
  · exact h2
  · unfold leftOf at hm
    simp at hm
end
end Go.Proofs.YtjdbedoabcbeeaaGreatDoor
/- Slices of ints that read as lists. -/
namespace Go.Proofs.YtjdbedoabcbeeaaGreatDoor
open Go.RowKit
set_option linter.unusedVariables false
set_option linter.unusedSimpArgs false
attribute [local go_sem] World.cell?_alloc_lt

/-- A slice of ints that reads as a list. -/
structure InI (w : World) (A : Option Addr) (n : Nat) (xs : List Int) : Prop where
  ln : xs.length = n
  at_ : 0 < n → ∃ b off, A = some ⟨b, off, none⟩ ∧ b < w.heap.size ∧ ∀ j u, xs[j]? = some u → w.cell? ⟨b, off + j, none⟩ = some (.int .i64 u)
section
variable {w w' : World} {A : Option Addr} {n : Nat} {xs : List Int}
theorem InI.below (h : InI w A n xs) (k : Below w.heap.size w w') : InI w' A n xs :=
  ⟨h.ln, fun hn => by
    obtain ⟨b, off, ha, hb, hc⟩ := h.at_ hn
    exact ⟨b, off, ha, Nat.lt_of_lt_of_le hb k.size, fun j u hj => (k.cell (p := ⟨b, off + j, none⟩) hb).trans (hc j u hj)⟩⟩
theorem InI.dn (h : InI w A n xs) (k : Nat) : InI (w.drewN k) A n xs := ⟨h.ln, h.at_⟩
theorem InI.ch {S : List Nat} (h : InI w A n xs) (k : Ch S w w') (hne : ∀ b off, A = some ⟨b, off, none⟩ → b ∉ S) : InI w' A n xs :=
  ⟨h.ln, fun hn => by
    obtain ⟨b, off, ha, hb, hc⟩ := h.at_ hn
    exact ⟨b, off, ha, Nat.lt_of_lt_of_le hb k.size, fun j u hj => (World.cell?_of_block (k.block b hb (hne b off ha))).trans (hc j u hj)⟩⟩
theorem InI.get (h : InI w A n xs) {i : Nat} (hi : i < n) : ∃ b off, A = some ⟨b, off, none⟩ ∧ b < w.heap.size ∧ w.cell? ⟨b, off + i, none⟩ = some (.int .i64 (xs.getD i 0)) := by
  obtain ⟨b, off, ha, hb, hc⟩ := h.at_ (by omega)
  refine ⟨b, off, ha, hb, hc i _ ?_⟩
  have hl : i < xs.length := by have := h.ln; omega
  rw [List.getElem?_eq_getElem hl, List.getD_eq_getElem?_getD, List.getElem?_eq_getElem hl]
  rfl
theorem InI.own {base c : Nat} (h : w.ownsRow base 3 1 (.slice A n c) n (xs.map (Value.int .i64))) : InI w A n xs := by
  refine ⟨by have := h.1; simp at this; omega, fun hn => ?_⟩
  obtain ⟨g, cap, hv, hb, hlt⟩ := h.form hn
  injection hv with hA _ _
  refine ⟨g, 0, hA, hlt, fun j u hj => ?_⟩
  obtain ⟨g', hA', hc, _⟩ := own_at h (k := j) (u := .int .i64 u) (by rw [List.getElem?_map, hj]; rfl)
  rw [hA] at hA'
  injection hA' with hA'
  injection hA' with hA'
  subst hA'
  rw [Nat.zero_add]
  exact hc
theorem InI.row {a : Option Addr} {len cap k : Nat} {zs : List Int} (h : IsRow .i64 w a len cap zs) (hk : k ≤ len) : InI w a k (zs.take k) := by
  rcases h with ⟨rfl, rfl, rfl, rfl⟩ | ⟨x, rfl, hlc, hcm, hzl, hc, _⟩
  · obtain rfl : k = 0 := by omega
    exact ⟨rfl, fun h => absurd h (by omega)⟩
  · refine ⟨by rw [List.length_take]; omega, fun hn => ?_⟩
    have h0 := hc 0 (by omega)
    obtain ⟨b, off, rfl⟩ := spot_none h0
    refine ⟨b, off, rfl, ?_, fun j u hj => ?_⟩
    · have := World.block_lt_of_cell? w _ h0
      simpa [Addr.add] using this
    · rw [List.getElem?_take] at hj
      split at hj
      · have hjl := (List.getElem?_eq_some_iff.1 hj).1
        have := hc j hjl
        rw [List.getD_eq_getElem?_getD, hj, WideShapes.add_plain] at this
        exact this
      · cases hj
end
theorem idxI (b off n c i : Nat) (hi : i < n) (w : World) : (Instr.indexAt 27 (.slice (some ⟨b, off, none⟩) n c) (.int .i64 (i : Int))).run Tryz.prog w = .ok (.pointer (some ⟨b, off + i, none⟩)) w := by
  simp [go_sem, hi]
theorem InI.reads {w : World} {A : Option Addr} {n : Nat} {xs : List Int} (h : InI w A n xs) : Reads w w.heap.size 1 A n (xs.map (Value.int .i64)) := by
  refine ⟨by rw [List.length_map, h.ln]; omega, fun hn => ?_⟩
  obtain ⟨b, off, ha, hb, hc⟩ := h.at_ hn
  refine ⟨⟨b, off, none⟩, ha, hb, fun j u hj => ?_⟩
  rw [List.getElem?_map] at hj
  obtain ⟨z, hz, rfl⟩ := Option.map_eq_some_iff.1 hj
  rw [WideShapes.add_plain]
  exact hc j z hz
theorem InI.inn {w : World} {A : Option Addr} {n : Nat} {xs : List Int} (h : InInts .i64 w A n xs) : InI w A n xs :=
  ⟨h.ln, fun hn => by
    obtain ⟨b, off, ha, hb, hc⟩ := h.at_ hn
    refine ⟨b, off, ha, hb, fun j u hj => ?_⟩
    have hjl := (List.getElem?_eq_some_iff.1 hj).1
    have := hc j (by have := h.ln; omega)
    rw [List.getD_eq_getElem?_getD, hj] at this
    exact this⟩
theorem InI.take {w : World} {A : Option Addr} {n k : Nat} {xs : List Int} (h : InI w A n xs) (hk : k ≤ n) : InI w A k (xs.take k) :=
  ⟨by rw [List.length_take, h.ln]; omega, fun hn => by
    obtain ⟨b, off, ha, hb, hc⟩ := h.at_ (by omega)
    refine ⟨b, off, ha, hb, fun j u hj => ?_⟩
    rw [List.getElem?_take] at hj
    split at hj
    · exact hc j u hj
    · cases hj⟩
theorem cut_ints (a : Option Addr) (len cap n : Nat) (N : Int) (hN : N = (n : Int)) (h : n ≤ cap) (w : World) : (Instr.sliceAt 27 (.slice a len cap) none (some (.int .i64 N)) none).run Tryz.prog w = .ok (.slice a n cap) w := by
  subst hN
  have h2 : (n : Int) ≤ (cap : Int) := by omega
  cases a <;> simp [go_sem, h, h2, Addr.add]
theorem InI.of_blk {w : World} {q : Nat} {xs : List Int} (h : Blk w q 3 (xs.map (Value.int .i64))) : InI w (some ⟨q, 0, none⟩) xs.length xs :=
  ⟨rfl, fun _ => ⟨q, 0, rfl, h.lt, fun j u hj => by
    rw [Nat.zero_add]
    exact h.at_ (by rw [List.getElem?_map, hj]; rfl)⟩⟩
end Go.Proofs.YtjdbedoabcbeeaaGreatDoor
