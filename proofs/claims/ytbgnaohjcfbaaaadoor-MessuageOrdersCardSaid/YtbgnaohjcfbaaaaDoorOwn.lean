/- Rows of the call's own: slices that it made and appends to. -/
import Derived.Test.YtbgnaohjcfbaaaaDoorMap
namespace Go.Proofs.YtbgnaohjcfbaaaaDoor
open Go.RowKit
set_option linter.unusedVariables false
set_option linter.unusedSimpArgs false

section
variable {w w' : World} {base n k : Nat} {e : TypeId} {A : Option Addr} {c : Nat} {xs : List Value} {u : Value}
theorem own_at (h : w.ownsRow base e 1 (.slice A n c) n xs) (hk : xs[k]? = some u) : ∃ g, A = some ⟨g, 0, none⟩ ∧ w.cell? ⟨g, k, none⟩ = some u ∧ g < w.heap.size ∧ base ≤ g ∧ w.frozen? ⟨g, k, none⟩ = false := by
  have hl : k < xs.length := (List.getElem?_eq_some_iff.1 hk).1
  have hn : 0 < n := by have := h.1; omega
  obtain ⟨g, cap, hv, hb, hlt⟩ := h.form hn
  injection hv with hA _ _
  subst hA
  have hc := h.cells (g := g) rfl k u hk
  rw [WideShapes.add_plain, Nat.zero_add] at hc
  refine ⟨g, rfl, hc, hlt, hb, ?_⟩
  rcases h.2 with ⟨h0, _⟩ | ⟨g', cap', cur, hv', _, hh, _⟩
  · cases h0
  · injection hv' with ha
    injection ha with ha
    injection ha with ha
    subst ha
    simp [World.frozen?, hh]
theorem own_len (h : w.ownsRow base e 1 (.slice A n c) n xs) : xs.length = n := by have := h.1; omega
theorem own_ch {S : List Nat} (h : w.ownsRow base e 1 (.slice A n c) n xs) (k : Ch S w w') (hn : ∀ g, (Value.slice A n c).ownBlock = some g → g ∉ S) : w'.ownsRow base e 1 (.slice A n c) n xs := by
  refine ⟨h.1, ?_⟩
  rcases h.2 with h2 | ⟨g, cap, cur, hv, hg, hh, r⟩
  · exact Or.inl h2
  · refine Or.inr ⟨g, cap, cur, hv, hg, ?_, r⟩
    rw [k.block g (Array.getElem?_eq_some_iff.1 hh).1 (hn g (by rw [hv]; rfl))]
    exact hh
theorem own_below (h : w.ownsRow base e 1 (.slice A n c) n xs) (k : Below w.heap.size w w') : w'.ownsRow base e 1 (.slice A n c) n xs :=
  own_ch h (Ch.below k []) (fun _ _ => by simp)
theorem own_blk (h : w.ownsRow base e 1 (.slice A n c) n xs) : ∀ g, (Value.slice A n c).ownBlock = some g → ∃ cur, w.heap[g]? = some (.cells cur e (0, 0)) := by
  intro g hg
  rcases h.2 with ⟨h0, _⟩ | ⟨g', cap, cur, hv, _, hh, _⟩
  · injection h0 with h0; subst h0; simp [Value.ownBlock] at hg
  · rw [hv] at hg
    have : g' = g := by simpa [Value.ownBlock] using hg
    subst this
    exact ⟨cur, hh⟩
theorem own_ne_map {α : Type} {κ : Keys α} {b : Nat} {m : List (α × Value)} (h : w.ownsRow base e 1 (.slice A n c) n xs) (hm : MapAt κ w b m) : ∀ g, (Value.slice A n c).ownBlock = some g → g ≠ b := by
  intro g hg e
  subst e
  obtain ⟨cur, hh⟩ := own_blk h g hg
  obtain ⟨es, clock, hb, _⟩ := hm.ex
  rw [hh] at hb
  cases hb
theorem own_ne_blk {t : TypeId} {b : Nat} {cs : List Value} (h : w.ownsRow base e 1 (.slice A n c) n xs) (hb : Blk w b t cs) (hne : e ≠ t) : ∀ g, (Value.slice A n c).ownBlock = some g → g ≠ b := by
  intro g hg e'
  subst e'
  obtain ⟨cur, hh⟩ := own_blk h g hg
  unfold Blk at hb
  rw [hh] at hb
  injection hb with hb
  injection hb with _ ht
  exact hne ht
theorem own_base (h : w.ownsRow base e 1 (.slice A n c) n xs) : ∀ g, (Value.slice A n c).ownBlock = some g → base ≤ g ∧ g < w.heap.size := h.lt
/-- What an append to a row of the call's own may have changed. -/
theorem ch_grown {S : List Nat} (hg : w.grownBy w' (Value.slice A n c).ownBlock) (hs : ∀ g, (Value.slice A n c).ownBlock = some g → g ∈ S) : Ch S w w' :=
  (Ch.refl S w).grown hg (fun k hk => Or.inl (hs k hk))
end

/-- append(xs, x): one element more, behind a row of the call's own (or nil). -/
theorem wpList_push {P : Program} (w : World) {ops : Array Oper} {rest : List Oper} {o : Oper} {a : Act} {Q : Exit → Act → World → Prop} (hgd : o.guard = none) (s x : Operand) (t : TypeId)
    (ho : o.op = .call { callee := .builtin .append, args := #[s, x], argTypes := #[t, t] })
    (base : Nat) (e : TypeId) (z : Value) (bytes : Nat) (ht : P.underlying t = some (.slice e)) (hinfo : (P.info? e).map (fun i => (i.zero, i.size, i.bytes)) = some (some z, 1, bytes)) (hz1 : z.cells = #[z])
    (A : Option Addr) (n c : Nat) (xs : List Value) (hs : a.eval s = .slice A n c) (hown : w.ownsRow base e 1 (.slice A n c) n xs)
    (H m : Nat) (u : Value) (hx : a.eval x = .slice (some ⟨H, 0, none⟩) 1 m) (hc : w.cell? ⟨H, 0, none⟩ = some u) (h1 : u.oneCell' = true)
    (hb : (n + 1) * bytes ≤ 140737488355328) (hn63 : n + 1 ≤ 9223372036854775807) (hbase : base ≤ w.heap.size)
    (h : ∀ g cap w', w'.ownsRow base e 1 (.slice (some ⟨g, 0, none⟩) (n + 1) cap) (n + 1) (xs ++ [u]) → w.grownBy w' (Value.slice A n c).ownBlock → ((Value.slice A n c).ownBlock = some g ∨ g = w.heap.size) → wpList P ops Q rest (a.put o.dst (.slice (some ⟨g, 0, none⟩) (n + 1) cap)) w') : wpList P ops Q (o :: rest) a w := by
  obtain ⟨i0, hi, hz0, hz1', hz2⟩ := info_parts hinfo
  refine wpList_append_lies w hgd s x t ho base e i0 z 1 bytes ht hi hz0 hz1' hz2 (by rw [hz1]; rfl) (by decide) _ n xs hs hown ⟨H, 0, none⟩ 1 m [u] hx rfl ?_ ?_ (by decide) (by unfold maxLen; omega) hb hbase _ rfl (fun g cap w' h1 h2 h3 _ => h g cap w' h1 h2 h3)
  · intro j v hj
    match j, hj with
    | 0, hj => simp at hj; subst hj; simpa [Addr.add] using hc
  · intro v hv; simp at hv; subst hv; exact h1
end Go.Proofs.YtbgnaohjcfbaaaaDoor
