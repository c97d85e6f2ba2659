/- slices.Clone. -/
import Derived.Test.YtbgnaohjcfbaaaaDoorOwn
import Derived.Test.YtbgnaohjcfbaaaaDoorArgs
import Derived.ArgAppend
namespace Go.Proofs.YtbgnaohjcfbaaaaDoor
open Go.RowKit
set_option linter.unusedVariables false
set_option linter.unusedSimpArgs false

/-- append(xs, us...), us not empty. -/
theorem wpList_pushes {P : Program} (w : World) {ops : Array Oper} {rest : List Oper} {o : Oper} {a : Act} {Q : Exit → Act → World → Prop} (hgd : o.guard = none) (s x : Operand) (t : TypeId)
    (ho : o.op = .call { callee := .builtin .append, args := #[s, x], argTypes := #[t, t] })
    (base : Nat) (e : TypeId) (z : Value) (bytes : Nat) (ht : P.underlying t = some (.slice e)) (hinfo : (P.info? e).map (fun i => (i.zero, i.size, i.bytes)) = some (some z, 1, bytes)) (hz1 : z.cells = #[z])
    (A : Option Addr) (n c : Nat) (xs : List Value) (hs : a.eval s = .slice A n c) (hown : w.ownsRow base e 1 (.slice A n c) n xs)
    (B off m mc : Nat) (us : List Value) (hx : a.eval x = .slice (some ⟨B, off, none⟩) m mc) (hl : us.length = m) (hc : ∀ j u, us[j]? = some u → w.cell? ⟨B, off + j, none⟩ = some u) (h1 : ∀ u ∈ us, u.oneCell' = true)
    (hm : 0 < m) (hb : (n + m) * bytes ≤ 140737488355328) (hn63 : n + m ≤ 9223372036854775807) (hbase : base ≤ w.heap.size)
    (h : ∀ g cap w', w'.ownsRow base e 1 (.slice (some ⟨g, 0, none⟩) (n + m) cap) (n + m) (xs ++ us) → w.grownBy w' (Value.slice A n c).ownBlock → ((Value.slice A n c).ownBlock = some g ∨ g = w.heap.size) → wpList P ops Q rest (a.put o.dst (.slice (some ⟨g, 0, none⟩) (n + m) cap)) w') : wpList P ops Q (o :: rest) a w := by
  obtain ⟨i0, hi, hz0, hz1', hz2⟩ := info_parts hinfo
  refine wpList_append_lies w hgd s x t ho base e i0 z 1 bytes ht hi hz0 hz1' hz2 (by rw [hz1]; rfl) (by decide) _ n xs hs hown ⟨B, off, none⟩ m mc us hx (by omega) ?_ h1 hm (by unfold maxLen; omega) hb hbase _ rfl (fun g cap w' h1 h2 h3 _ => h g cap w' h1 h2 h3)
  intro j v hj
  have := hc j v hj
  rw [WideShapes.add_plain]; exact this
theorem own_made (w : World) (e : TypeId) : (w.alloc (.cells #[] e)).ownsRow w.heap.size e 1 (.slice (some ⟨w.heap.size, 0, none⟩) 0 0) 0 [] :=
  ⟨rfl, Or.inr ⟨w.heap.size, 0, #[], rfl, Nat.le_refl _, heap_alloc_new w _, by omega, by simp, by simp, by simp⟩⟩
--CL
theorem info_clB : (Tryd.prog.info? 5).map (fun i => (i.zero, i.size, i.bytes)) = some (some (.int .u8 0), 1, 1) := by kernel_rfl
set_option maxRecDepth 100000 in
theorem cloneB_nil (w0 : World) : Calls Tryd.prog 53 #[.slice none 0 0] w0 fun e w' => e = .returned (.slice none 0 0) ∧ w0 = w' := by
  have hn : ∀ w : World, (binOp .eql 34 (.slice none 0 0) (.slice none 0 0)).run Tryd.prog w = .ok (.bool true) w := fun _ => rfl
  go_enter Tryd.func53, Tryd.ntmps53
  go_wp2
  go_ret
  exact ⟨rfl, rfl⟩
set_option maxRecDepth 100000 in
theorem cloneB_at (B off m mc : Nat) (us : List Value) (hl : us.length = m) (h1 : ∀ u ∈ us, u.oneCell' = true) (hbd : m * 1 ≤ 140737488355328) (w0 : World) (hB : B < w0.heap.size) (hc : ∀ j u, us[j]? = some u → w0.cell? ⟨B, off + j, none⟩ = some u) :
    Calls Tryd.prog 53 #[.slice (some ⟨B, off, none⟩) m mc] w0 fun e w' => ∃ g c, e = .returned (.slice (some ⟨g, 0, none⟩) m c) ∧ w'.ownsRow w0.heap.size 5 1 (.slice (some ⟨g, 0, none⟩) m c) m us ∧ Below w0.heap.size w0 w' := by
  have hown := own_made w0 5
  have hn : ∀ w : World, (binOp .eql 34 (.slice (some ⟨B, off, none⟩) m mc) (.slice none 0 0)).run Tryd.prog w = .ok (.bool false) w := fun _ => rfl
  by_cases hm : 0 < m
  · go_enter Tryd.func53, Tryd.ntmps53
    go_wp2_with (at_builtin; refine wpList_pushes _ rfl (.tmp 5) (.tmp 6) 34 rfl w0.heap.size 5 (.int .u8 0) 1 Tryd.underlying34 info_clB rfl (some ⟨w0.heap.size, 0, none⟩) 0 0 [] rfl hown B off m mc us rfl hl ?_ h1 hm (by omega) (by omega) ?_ ?_)
    · intro j u hj
      exact (World.cell?_alloc_lt _ _ _ hB).trans (hc j u hj)
    · simp
    intro g cp w4 hown4 hgr4 hor
    have hB4 := (bel_alloc (Below.refl _ w0) (.cells #[] 5)).grown hgr4 (by simp) (fun k hk => (own_base hown k hk).1)
    try rw [Nat.zero_add, List.nil_append] at hown4
    go_wp2
    go_ret
    exact ⟨g, cp, by first | rfl | rw [Nat.zero_add], hown4, hB4⟩
  · obtain rfl : m = 0 := by omega
    obtain rfl : us = [] := List.eq_nil_of_length_eq_zero hl
    go_enter Tryd.func53, Tryd.ntmps53
    go_wp2
    go_ret
    exact ⟨w0.heap.size, 0, rfl, hown, (by repeat (first | exact Below.refl _ _ | assumption | with_reducible refine bel_alloc ?_ _ | with_reducible refine bel_drewN ?_ _ | with_reducible refine bel_drew ?_))⟩
end Go.Proofs.YtbgnaohjcfbaaaaDoor
