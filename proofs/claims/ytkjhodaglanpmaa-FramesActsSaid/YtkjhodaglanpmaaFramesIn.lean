/- Calls that came in (layer 5); the reference's contracts with the count named. -/
import Derived.Test.YtkjhodaglanpmaaFramesRef4
namespace Go.Proofs.Ytkjhodaglanpmaa
open Go.RowKit
set_option linter.unusedVariables false
set_option linter.unusedSimpArgs false
attribute [local go_sem] World.cell?_alloc_lt

structure ActV where
  what : Int
  fr : Int
  at_ : Int
  n : Int
  A : Option Addr
  L : Nat
  C : Nat
  Z : List Int
structure InActs (w : World) (a : Option Addr) (len : Nat) (V : Nat → ActV) : Prop where
  mx : len ≤ 9223372036854775807
  at_ : 0 < len → ∃ b off, a = some ⟨b, off, none⟩ ∧ b < w.heap.size ∧ ∀ i, i < len → w.cell? ⟨b, off + i * 5, none⟩ = some (.int .i64 (V i).what) ∧ w.cell? ⟨b, off + i * 5 + 1, none⟩ = some (.int .i64 (V i).fr) ∧ w.cell? ⟨b, off + i * 5 + 2, none⟩ = some (.int .i64 (V i).at_) ∧ w.cell? ⟨b, off + i * 5 + 3, none⟩ = some (.int .i64 (V i).n) ∧ w.cell? ⟨b, off + i * 5 + 4, none⟩ = some (.slice (V i).A (V i).L (V i).C) ∧ InInts .u8 w (V i).A (V i).L (V i).Z ∧ (V i).L ≤ (V i).C ∧ (Lit.int .i64 (V i).n).wf = true
def intV : Value → Int
  | .int _ x => x
  | _ => 0
set_option maxRecDepth 100000 in
theorem open_acts {H : Type} {enc : TypeId × Value → H} {W : World} {base : Nat} {held : Bool} {r : Reach} {b0 : Nat} {v : Value} {d : DataW H} {p : List MemPlace} (hv : Value.okWide Try.prog W r b0 71 v) (h : DataW.Trod enc Try.prog W base (fun _ => true) held 71 v d p) :
    ∃ a len cap V, v = .slice a len cap ∧ InActs W a len V := by
  obtain ⟨a, len, cap, rfl⟩ := WideShapes.okWide_slice Try.underlying71 hv
  obtain ⟨V, hm, _, hc⟩ := open_recs Try.underlying71 Try.underlying77 (by kernel_rfl) (by kernel_rfl) (by decide) h
  have key : ∀ i : Nat, ∃ y : ActV, i < len → ∃ b off, a = some ⟨b, off, none⟩ ∧ b < W.heap.size ∧ W.cell? ⟨b, off + i * 5, none⟩ = some (.int .i64 y.what) ∧ W.cell? ⟨b, off + i * 5 + 1, none⟩ = some (.int .i64 y.fr) ∧ W.cell? ⟨b, off + i * 5 + 2, none⟩ = some (.int .i64 y.at_) ∧ W.cell? ⟨b, off + i * 5 + 3, none⟩ = some (.int .i64 y.n) ∧ W.cell? ⟨b, off + i * 5 + 4, none⟩ = some (.slice y.A y.L y.C) ∧ InInts .u8 W y.A y.L y.Z ∧ y.L ≤ y.C ∧ (Lit.int .i64 y.n).wf = true := by
    intro i
    by_cases hi : i < len
    · obtain ⟨b, off, ha, hb, hcell⟩ := hc (by omega)
      obtain ⟨h0, n0, y0, t0⟩ := hcell i hi 0 _ rfl
      obtain ⟨h1, n1, y1, t1⟩ := hcell i hi 1 _ rfl
      obtain ⟨h2, n2, y2, t2⟩ := hcell i hi 2 _ rfl
      obtain ⟨h3, n3, y3, t3⟩ := hcell i hi 3 _ rfl
      obtain ⟨h4, n4, y4, t4⟩ := hcell i hi 4 _ rfl
      obtain ⟨x0, e0, _⟩ := DataW.trod_int Try.underlying3 t0
      obtain ⟨x1, e1, _⟩ := DataW.trod_int Try.underlying3 t1
      obtain ⟨x2, e2, _⟩ := DataW.trod_int Try.underlying3 t2
      obtain ⟨x3, e3, w3⟩ := DataW.trod_int Try.underlying3 t3
      simp only [List.cons.injEq, and_true] at e0 e1 e2 e3
      have hshape : ∃ A l c, V i 4 = .slice A l c ∧ l ≤ c := by
        rcases ChangeShapes.open_ints Try.underlying50 Try.underlying5 (by kernel_rfl) t4 with ⟨hcs, _⟩ | ⟨x, l, c, zs, hcs, _, hl, _⟩
        · exact ⟨none, 0, 0, by simpa using hcs, Nat.le_refl _⟩
        · exact ⟨some x, l, c, by simpa using hcs, hl⟩
      obtain ⟨A, l, c, hV, hlc⟩ := hshape
      rw [hV] at t4
      obtain ⟨zs, hz⟩ := open_inInts (a := A) (len := l) (cap := c) Try.underlying50 Try.underlying5 (by kernel_rfl) ⟨n4, t4⟩
      rw [e0] at h0
      rw [e1] at h1
      rw [e2] at h2
      rw [e3] at h3
      rw [hV] at h4
      exact ⟨⟨x0, x1, x2, x3, A, l, c, zs⟩, fun _ => ⟨b, off, ha, hb, h0, h1, h2, h3, h4, hz, hlc, by first | exact w3 | exact w3.1 | exact w3.2⟩⟩
    · exact ⟨⟨0, 0, 0, 0, none, 0, 0, []⟩, fun h => absurd h hi⟩
  obtain ⟨F, hF⟩ := Classical.axiomOfChoice key
  refine ⟨a, len, cap, F, rfl, hm, fun hp => ?_⟩
  obtain ⟨b, off, ha, hb, _⟩ := hF 0 hp
  refine ⟨b, off, ha, hb, fun i hi => ?_⟩
  obtain ⟨b', off', ha', _, h⟩ := hF i hi
  rw [ha] at ha'
  injection ha' with ha'
  injection ha' with e1 e2 _
  subst e1 e2
  exact h
theorem idx_act {A : Option Addr} {b off len cap i : Nat} (ha : A = some ⟨b, off, none⟩) (hi : i < len) (w : World) : (Instr.indexAt 71 (.slice A len cap) (.int .i64 (i : Int))).run Try.prog w = .ok (.pointer (some ⟨b, off + i * 5, none⟩)) w := by
  subst ha
  simp [go_sem, hi]
section
variable {w w' : World} {n : Nat} {A : Option Addr} {us : List Int}
theorem InB.chS {S : List Nat} (h : InB w A n us) (k : Ch S w w') (hne : ∀ b off, A = some ⟨b, off, none⟩ → b ∉ S) : InB w' A n us :=
  ⟨h.ln, fun hn => by
    obtain ⟨b, off, ha, hb, hc⟩ := h.at_ hn
    exact ⟨b, off, ha, Nat.lt_of_lt_of_le hb k.size, fun j u hj => k.keep (hne b off ha) (hc j u hj)⟩⟩
theorem InB.dr (h : InB w A n us) : InB w.drew A n us := ⟨h.ln, h.at_⟩
end
section
variable (r tb nodes each nf : Nat) (bs : List Int) (f at_ : Int) (w : World) (hR : RefS w r tb nodes each bs) (hn : nodes * each = nf)
include hR hn
theorem rs_save_nf (A : Option Addr) (mc : Nat) (us : List Int) (hI : InB w A us.length us) (hm : us.length ≤ 1000) (hne : ∀ b off, A = some ⟨b, off, none⟩ → b ≠ tb) :
    Calls Try.prog 47 #[.pointer (some ⟨r, 0, none⟩), .int .i64 f, .int .i64 at_, .slice A us.length mc] w fun e w' => e = .returned (.int .i64 (partE nf f at_ us.length)) ∧ RefS w' r tb nodes each (saveB nf bs f at_ us) ∧ Ch [tb] w w' := by
  subst hn
  exact rs_save_any r tb nodes each bs f at_ A mc us w hR hI hm hne
theorem rs_load_nf (m : Int) (hm : m ≤ 9223372036854775807) :
    Calls Try.prog 48 #[.pointer (some ⟨r, 0, none⟩), .int .i64 f, .int .i64 at_, .int .i64 m] w fun e w' => ∃ A n c, e = .returned (.tuple #[.slice A n c, .int .i64 (partE nf f at_ m)]) ∧ InB w' A n (loadL nf bs f at_ m) ∧ (∀ b off, A = some ⟨b, off, none⟩ → w.heap.size ≤ b) ∧ Below w.heap.size w w' := by
  subst hn
  exact rs_load_any r tb nodes each bs f at_ m w hR hm
theorem rs_has_nf : Calls Try.prog 49 #[.pointer (some ⟨r, 0, none⟩), .int .i64 f] w fun e w' => e = .returned (.bool (hasF nf f)) ∧ ∃ n, w' = w.drewN n := by
  subst hn
  exact rs_has r tb nodes each bs f w hR
end
end Go.Proofs.Ytkjhodaglanpmaa
