/- What the listed variable gives the walks: the eight cells of the table of classes. -/
import Derived.Test.YtinijpjbbbbhjaaDoorA1
import Derived.ProofKit
import Derived.LaidMore
import Derived.OpenShut
import Derived.Stop.Joined
namespace Go.Proofs.YtinijpjbbbbhjaaDoor
open Go.ChangeShapes Go.WideShapes Go.ChangeAt Go.RowKit

theorem own : ownKnob Tryd.prog.godebug = none := by kernel_rfl
theorem gRows : Tryd.prog.globalNamed "messuage/class.rows" = some 0 := by kernel_rfl
theorem tRows : (Tryd.prog.globals[0]?).map (·.type) = some 51 := by kernel_rfl
theorem c50 : Tryd.prog.cellsOf 50 = 2 := by kernel_rfl
theorem c51 : Tryd.prog.cellsOf 51 = 8 := by kernel_rfl
theorem c3_ : Tryd.prog.cellsOf 3 = 1 := by kernel_rfl

abbrev laidL : List (String × DataW Unit) := [("messuage/class.rows", Rows.laid_messuage_class_rows)]

theorem door_met (os : Os) (args : Array Value) : laidMetH Tryd.prog laidL ((World.doorLaid Tryd.prog 400 os).forCall (fun _ _ => 0) ⟨#[], args, []⟩).memory :=
  laidMetH_of_parts3 (fuel := 8) (laidMet_of_run' 8 (by kernel_rfl) (by kernel_rfl)) (by kernel_rfl) (by kernel_rfl)

theorem pair_of {H : Type} {enc : TypeId × Value → H} {w : World} {base : Nat} {spare : Nat → Bool} {held : Bool} {fuel : Nat} {cs : List Value} {a b : Int} {x : DataW H × List MemPlace}
    (h : DataW.trod enc Tryd.prog w base spare held fuel 50 cs = some x) (hx : x.1 = .agg [.lit (.int .i64 a), .lit (.int .i64 b)]) : cs = [.int .i64 a, .int .i64 b] := by
  obtain ⟨xs, n, _, rfl, hl, hn, hf⟩ := DataW.trod_struct Tryd.underlying50 h
  have h0 := hf 0 _ rfl
  have h1 := hf 1 _ rfl
  rw [c50] at hl
  match cs, hl, xs, hn with
  | [u, v], _, [y0, y1], _ =>
    have g0 : DataW.trod enc Tryd.prog w base spare held n 3 (([u, v].drop 0).take (Tryd.prog.cellsOf 3)) = some y0 := h0
    have g1 : DataW.trod enc Tryd.prog w base spare held n 3 (([u, v].drop 1).take (Tryd.prog.cellsOf 3)) = some y1 := h1
    rw [c3_] at g0 g1
    obtain ⟨k0, e0, f0, _⟩ := DataW.trod_int Tryd.underlying3 g0
    obtain ⟨k1, e1, f1, _⟩ := DataW.trod_int Tryd.underlying3 g1
    subst f0 f1
    simp only [List.drop_zero, List.take_succ_cons, List.take_zero, List.drop_succ_cons, List.cons.injEq, and_true] at e0 e1
    simp only [List.map_cons, List.map_nil, DataW.agg.injEq, List.cons.injEq, DataW.lit.injEq, Lit.int.injEq, true_and, and_true] at hx
    rw [e0, e1, hx.1, hx.2]

theorem tab_of {W : World} (h : laidMetH Tryd.prog laidL W) : Tab W := by
  rw [MakeChecks.laidMetH_plain _ _ _ (by kernel_rfl)] at h
  obtain ⟨ps, ⟨g0, t0, cs0, f0, p0, q0, hg0, ht0, hv0, hd0, _, _⟩, _, _⟩ := h
  obtain rfl := Option.some.inj (gRows.symm.trans hg0)
  obtain rfl := Option.some.inj (tRows.symm.trans ht0)
  obtain ⟨xs, m1, rfl, hx1, hlen, hn3, hel⟩ := DataW.trod_array Tryd.underlying51 hd0
  simp only [Rows.laid_messuage_class_rows, Prod.mk.injEq, DataW.agg.injEq] at hx1
  obtain ⟨hx1, _⟩ := hx1
  obtain ⟨l1⟩ := cs0
  rw [c51] at hlen
  have h0 := hel 0 (by decide)
  have h1 := hel 1 (by decide)
  have h2 := hel 2 (by decide)
  have h3 := hel 3 (by decide)
  match xs, hn3, hx1, h0, h1, h2, h3 with
  | [x0, x1, x2, x3], _, hx1, h0, h1, h2, h3 =>
    simp only [List.map_cons, List.map_nil, List.cons.injEq, and_true] at hx1
    obtain ⟨e0, e1, e2, e3⟩ := hx1
    match l1, hlen with
    | [u0, u1, u2, u3, u4, u5, u6, u7], _ =>
      have k0 := pair_of (show DataW.trod _ Tryd.prog _ _ _ _ _ 50 _ = some x0 from h0) e0.symm
      have k1 := pair_of (show DataW.trod _ Tryd.prog _ _ _ _ _ 50 _ = some x1 from h1) e1.symm
      have k2 := pair_of (show DataW.trod _ Tryd.prog _ _ _ _ _ 50 _ = some x2 from h2) e2.symm
      have k3 := pair_of (show DataW.trod _ Tryd.prog _ _ _ _ _ 50 _ = some x3 from h3) e3.symm
      simp [c50] at k0 k1 k2 k3
      obtain ⟨rfl, rfl⟩ := k0
      obtain ⟨rfl, rfl⟩ := k1
      obtain ⟨rfl, rfl⟩ := k2
      obtain ⟨rfl, rfl⟩ := k3
      exact ⟨World.var?_cell hg0 hv0 0, World.var?_cell hg0 hv0 1, World.var?_cell hg0 hv0 2, World.var?_cell hg0 hv0 3, World.var?_cell hg0 hv0 4, World.var?_cell hg0 hv0 5, World.var?_cell hg0 hv0 6, World.var?_cell hg0 hv0 7⟩
end Go.Proofs.YtinijpjbbbbhjaaDoor
