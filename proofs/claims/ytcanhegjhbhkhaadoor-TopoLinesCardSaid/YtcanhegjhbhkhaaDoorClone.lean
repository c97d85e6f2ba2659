/- slices.Clone. -/
import Derived.Test.YtcanhegjhbhkhaaDoorOwn
import Derived.Test.YtcanhegjhbhkhaaDoorArgs
import Derived.ArgAppend
namespace Go.Proofs.YtcanhegjhbhkhaaDoor
open Go.RowKit
set_option linter.unusedVariables false
set_option linter.unusedSimpArgs false

/-- append(xs, us...), us not empty. -/
theorem wpList_pushes {P : Program} (w : World) {ops : Array Oper} {rest : List Oper} {o : Oper} {a : Act} {Q : Exit → Act → World → Prop} (hgd : o.guard = none) (s x : Operand) (t : TypeId)
    (ho : o.op = .call { callee := .builtin .append, args := #[s, x], argTypes := #[t, t] })
    (base : Nat) (e : TypeId) (z : Value) (bytes : Nat) (ht : P.underlying t = some (.slice e)) (hinfo : (P.info? e).map (fun i => (i.zero, i.size, i.bytes)) = some (some z, 1, bytes)) (hz1 : z.cells = #[z])
    (A : Option Addr) (n c : Nat) (xs : List Value) (hs : a.eval s = .slice A n c) (hown : w.ownsRow base e 1 (.slice A n c) n xs)
    (B off m mc : Nat) (us : List Value) (hx : a.eval x = .slice (some ⟨B, off, none⟩) m mc) (hl : us.length = m) (hc : ∀ j u, us[j]? = some u → w.cell? ⟨B, off + j, none⟩ = some u) (h1 : ∀ u ∈ us, u.oneCell' = true)
    (hm : 0 < m) (hb : (n + m) * bytes ≤ 140737488355328) (hn63 : n + m ≤ 9223372036854775807) (hbase : base ≤ w.heap.size)
    (h : ∀ g cap w', w'.ownsRow base e 1 (.slice (some ⟨g, 0, none⟩) (n + m) cap) (n + m) (xs ++ us) → w.grownBy w' (Value.slice A n c).ownBlock → ((Value.slice A n c).ownBlock = some g ∨ g = w.heap.size) → wpList P ops Q rest (a.put o.dst (.slice (some ⟨g, 0, none⟩) (n + m) cap)) w') : wpList P ops Q (o :: rest) a w := by
  obtain ⟨i0, hi, hz0, hz1', hz2⟩ := info_parts hinfo
  refine wpList_append_lies w hgd s x t ho base e i0 z 1 bytes ht hi hz0 hz1' hz2 (by rw [hz1]; rfl) (by decide) _ n xs hs hown ⟨B, off, none⟩ m mc us hx (by omega) ?_ h1 hm (by unfold maxLen; omega) hb hbase _ rfl (fun g cap w' h1 h2 h3 _ => h g cap w' h1 h2 h3)
  intro j v hj
  have := hc j v hj
  rw [WideShapes.add_plain]; exact this
theorem own_made (w : World) (e : TypeId) : (w.alloc (.cells #[] e)).ownsRow w.heap.size e 1 (.slice (some ⟨w.heap.size, 0, none⟩) 0 0) 0 [] :=
  ⟨rfl, Or.inr ⟨w.heap.size, 0, #[], rfl, Nat.le_refl _, heap_alloc_new w _, by omega, by simp, by simp, by simp⟩⟩
--CL
end Go.Proofs.YtcanhegjhbhkhaaDoor
