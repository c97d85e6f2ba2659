/- Events that came in; two logs beside each other. -/
import Derived.Test.YtinijpjbbbbhjaaStats3
import Derived.Test.YtinijpjbbbbhjaaInRecs
namespace Go.Proofs.Ytinijpjbbbbhjaa
open Go.RowKit
set_option linter.unusedVariables false
set_option linter.unusedSimpArgs false
attribute [local go_sem] World.cell?_alloc_lt

/-- Events that came in. -/
structure InEv (w : World) (a : Option Addr) (len : Nat) (E : Nat → Ev) : Prop where
  mx : len ≤ 9223372036854775807
  at_ : 0 < len → ∃ b off, a = some ⟨b, off, none⟩ ∧ b < w.heap.size ∧ ∀ i, i < len → w.cell? ⟨b, off + i * 4, none⟩ = some (.int .i64 (E i).node) ∧ w.cell? ⟨b, off + i * 4 + 1, none⟩ = some (.int .i64 (E i).start) ∧ w.cell? ⟨b, off + i * 4 + 2, none⟩ = some (.int .i64 (E i).own) ∧ w.cell? ⟨b, off + i * 4 + 3, none⟩ = some (.bool (E i).il)
def intV : Value → Int
  | .int _ x => x
  | _ => 0
def boolV : Value → Bool
  | .bool x => x
  | _ => false
theorem open_evs {H : Type} {enc : TypeId × Value → H} {W : World} {base : Nat} {held : Bool} {r : Reach} {b0 : Nat} {v : Value} {d : DataW H} {p : List MemPlace} (hv : Value.okWide Try.prog W r b0 22 v) (h : DataW.Trod enc Try.prog W base (fun _ => true) held 22 v d p) :
    ∃ a len cap E, v = .slice a len cap ∧ InEv W a len E := by
  obtain ⟨a, len, cap, rfl⟩ := WideShapes.okWide_slice Try.underlying22 hv
  obtain ⟨V, hm, _, hc⟩ := open_recs Try.underlying22 Try.underlying38 (by kernel_rfl) (by kernel_rfl) (by decide) h
  refine ⟨a, len, cap, fun i => ⟨intV (V i 0), intV (V i 1), intV (V i 2), boolV (V i 3)⟩, rfl, hm, fun hp => ?_⟩
  obtain ⟨b, off, ha, hb, hcell⟩ := hc hp
  refine ⟨b, off, ha, hb, fun i hi => ?_⟩
  obtain ⟨h0, n0, y0, t0⟩ := hcell i hi 0 _ rfl
  obtain ⟨h1, n1, y1, t1⟩ := hcell i hi 1 _ rfl
  obtain ⟨h2, n2, y2, t2⟩ := hcell i hi 2 _ rfl
  obtain ⟨h3, n3, y3, t3⟩ := hcell i hi 3 _ rfl
  obtain ⟨x0, e0, _⟩ := DataW.trod_int Try.underlying3 t0
  obtain ⟨x1, e1, _⟩ := DataW.trod_int Try.underlying3 t1
  obtain ⟨x2, e2, _⟩ := DataW.trod_int Try.underlying3 t2
  obtain ⟨x3, e3, _⟩ := DataW.trod_bool Try.underlying4 t3
  simp only [List.cons.injEq, and_true] at e0 e1 e2 e3
  rw [e0] at h0
  rw [e1] at h1
  rw [e2] at h2
  rw [e3] at h3
  refine ⟨?_, ?_, ?_, ?_⟩
  · show _ = some (Value.int .i64 (intV (V i 0))); rw [e0]; exact h0
  · show _ = some (Value.int .i64 (intV (V i 1))); rw [e1]; exact h1
  · show _ = some (Value.int .i64 (intV (V i 2))); rw [e2]; exact h2
  · show _ = some (Value.bool (boolV (V i 3))); rw [e3]; exact h3
theorem idx_ev {A : Option Addr} {b off len cap i : Nat} (ha : A = some ⟨b, off, none⟩) (hi : i < len) (w : World) : (Instr.indexAt 22 (.slice A len cap) (.int .i64 (i : Int))).run Try.prog w = .ok (.pointer (some ⟨b, off + i * 4, none⟩)) w := by
  subst ha
  simp [go_sem, hi]
/-- The events that are right. -/
def flt (l : List Ev) (n : Nat) : List Ev := l.filter (fun x => x.right n)
theorem flt_snoc (l : List Ev) (x : Ev) (n : Nat) : flt (l ++ [x]) n = addL (flt l n) x n := by
  unfold flt addL
  rw [List.filter_append]
  by_cases h : x.right n = true <;> simp [h]
theorem flt_le (l : List Ev) (n : Nat) : (flt l n).length ≤ l.length := List.length_filter_le _ _
theorem flt_right (l : List Ev) (n : Nat) : ∀ x ∈ flt l n, x.right n = true := by
  intro x hx
  unfold flt at hx
  rw [List.mem_filter] at hx
  exact hx.2
theorem flt_reverse (l : List Ev) (n : Nat) : flt l.reverse n = (flt l n).reverse := by unfold flt; rw [List.filter_reverse]
theorem cntV_reverse (l : List Ev) (k : Int) : cntV l.reverse k = cntV l k := by unfold cntV; simp only [cc_reverse]
section
variable {w w' : World} {b1 b2 g1 g2 c1 c2 n1 n2 c d : Nat} {A B : Option Addr} {l m : List Ev}
theorem LogAt.chS {S : List Nat} (h : LogAt w b1 g1 c1 n1 A c l) (k : Ch S w w') (hg : g1 ∉ S) (hc : c1 ∉ S) (hr : ∀ q ∈ rowOf A, q ∉ S) : LogAt w' b1 g1 c1 n1 A c l := by
  obtain ⟨cs, hb, hh⟩ := h.ct
  exact ⟨h.st.ch k hg, ⟨cs, hb.ch k hc, hh⟩, own_ch4 h.ev k (fun q hq => hr q (mem_rowOf.1 hq)), h.n8, h.mx, h.gb, h.cb⟩
theorem LogAt.row_lt (h : LogAt w b1 g1 c1 n1 A c l) : ∀ q ∈ rowOf A, q < w.heap.size ∧ b1 ≤ q := fun q hq => ⟨(h.ev.lt q (mem_rowOf.2 hq)).2, (h.ev.lt q (mem_rowOf.2 hq)).1⟩
theorem LogAt.other (h1 : LogAt w b1 g1 c1 n1 A c l) (h2 : LogAt w b2 g2 c2 n2 B d m) (hg : g1 ≠ g2) (hc : c1 ≠ c2) (hr : ∀ q ∈ rowOf A, q ∉ rowOf B) (k : Ch (g1 :: c1 :: rowOf A) w w') : LogAt w' b2 g2 c2 n2 B d m := by
  obtain ⟨cs1, hb1, _⟩ := h1.ct
  obtain ⟨cs2, hb2, _⟩ := h2.ct
  have e1 : g2 ≠ c1 := h2.st.ne_ hb1 (by decide)
  have e2 : c2 ≠ g1 := hb2.ne_ h1.st (by decide)
  have r1 : ∀ q ∈ rowOf A, q ≠ g2 := fun q hq e => own_ne4 h1.ev h2.st (by decide) (by rw [← e]; exact mem_rowOf.2 hq)
  have r2 : ∀ q ∈ rowOf A, q ≠ c2 := fun q hq e => own_ne4 h1.ev hb2 (by decide) (by rw [← e]; exact mem_rowOf.2 hq)
  have r3 : ∀ q ∈ rowOf B, q ≠ g1 := fun q hq e => own_ne4 h2.ev h1.st (by decide) (by rw [← e]; exact mem_rowOf.2 hq)
  have r4 : ∀ q ∈ rowOf B, q ≠ c1 := fun q hq e => own_ne4 h2.ev hb1 (by decide) (by rw [← e]; exact mem_rowOf.2 hq)
  refine h2.chS k ?_ ?_ ?_
  · simp only [List.mem_cons, not_or]
    exact ⟨fun e => hg e.symm, e1, fun hm => r1 _ hm rfl⟩
  · simp only [List.mem_cons, not_or]
    exact ⟨e2, fun e => hc e.symm, fun hm => r2 _ hm rfl⟩
  · intro q hq
    simp only [List.mem_cons, not_or]
    exact ⟨r3 q hq, r4 q hq, fun hm => hr q hm hq⟩
theorem Add2.bel {A' : Option Addr} {c' : Nat} {w0 : World} (h : Add2 w w' b1 g1 c1 n1 A l A' c') (hrow : ∀ q ∈ rowOf A, b1 ≤ q) (hb : w0.heap.size ≤ b1) (hB : Below w0.heap.size w0 w) : Below w0.heap.size w0 w' :=
  bel_ch hB h.ch (fun q hq => by
    simp only [List.mem_cons] at hq
    rcases hq with rfl | rfl | hq
    · exact Nat.le_trans hb h.log.gb
    · exact Nat.le_trans hb h.log.cb
    · exact Nat.le_trans hb (hrow q hq))
end
end Go.Proofs.Ytinijpjbbbbhjaa
