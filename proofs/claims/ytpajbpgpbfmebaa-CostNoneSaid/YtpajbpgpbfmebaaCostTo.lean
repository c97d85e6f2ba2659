/- messuagelaw29.to, tame. -/
import Derived.Test.YtpajbpgpbfmebaaCostBest0
import Derived.Laws.Rows
namespace Go.Proofs.Ytpajbpgpbfmebaa
open Go.RowKit
set_option linter.unusedVariables false
set_option linter.unusedSimpArgs false
attribute [local go_sem] World.cell?_alloc_lt

set_option maxRecDepth 100000 in
theorem to_any (t : TopoV) (w : World) : Calls Try.prog 20 #[t.val] w fun e w' => e = .returned t.val ∧ Below w.heap.size w w' := by
  obtain ⟨N, F, ca, cc, cs, da, dc, ds⟩ := t
  simp only [TopoV.val]
  have hb := Blk.new w 42 [.int .i64 N, .int .i64 F, .slice ca cs.length cc, .slice da ds.length dc]
  have hba : Below w.heap.size w (w.alloc (.cells #[.int .i64 N, .int .i64 F, .slice ca cs.length cc, .slice da ds.length dc] 42)) := bel_alloc (Below.refl _ _) _
  go_enter Try.func20, Try.ntmps20
  go_wp2_with fail
  have hz := Blk.new (w.alloc (.cells #[.int .i64 N, .int .i64 F, .slice ca cs.length cc, .slice da ds.length dc] 42)) 46 [.int .i64 N, .int .i64 F, .slice ca cs.length cc, .slice da ds.length dc]
  rw [show (w.alloc (.cells #[.int .i64 N, .int .i64 F, .slice ca cs.length cc, .slice da ds.length dc] 42)).heap.size = w.heap.size + 1 by simp] at hz
  exact bodyPost_ret (results_cell_row Try.results20 _ _ (w.heap.size + 1) 46 _ (0, 0) _ rfl hz Try.underlying46 rfl (by kernel_rfl)) rfl ⟨rfl, bel_alloc hba _⟩
def tameV (t : TopoV) : TopoV := { t with cs := t.cs.take 20, ds := t.ds.take 10 }
theorem cut_rows (a : Option Addr) (len cap n : Nat) (N : Int) (hN : N = (n : Int)) (h : n ≤ cap) (w : World) : (Instr.sliceAt 40 (.slice a len cap) none (some (.int .i64 N)) none).run Try.prog w = .ok (.slice a n cap) w := by
  subst hN
  have h2 : (n : Int) ≤ (cap : Int) := by omega
  cases a <;> simp [go_sem, h, h2, Addr.add]
theorem InRs.take {w : World} {A : Option Addr} {n k : Nat} {D : List RowV} (h : InRs w A n D) (hk : k ≤ n) : InRs w A k (D.take k) :=
  ⟨by rw [List.length_take, h.ln]; omega, fun hn => by
    obtain ⟨b, off, ha, hb, hc⟩ := h.at_ (by omega)
    refine ⟨b, off, ha, hb, fun j r hj => ?_⟩
    rw [List.getElem?_take] at hj
    split at hj
    · exact hc j r hj
    · cases hj⟩
set_option maxRecDepth 100000 in
theorem tame_any (t : TopoV) (w : World) (h1 : t.cs.length ≤ t.cc) (h2 : t.ds.length ≤ t.dc) (h3 : t.cs.length ≤ 9223372036854775807) (h4 : t.ds.length ≤ 9223372036854775807) : Calls Try.prog 18 #[t.val] w fun e w' => e = .returned (tameV t).val ∧ Below w.heap.size w w' := by
  obtain ⟨N, F, ca, cc, cs, da, dc, ds⟩ := t
  simp only [TopoV.val, tameV] at *
  obtain ⟨n, hn, hnl, hn2⟩ : ∃ n : Nat, (cs.take 20).length = n ∧ n ≤ cs.length ∧ (if (20 : Int) < (cs.length : Int) then (20 : Int) else (cs.length : Int)) = (n : Int) := by
    refine ⟨_, rfl, by rw [List.length_take]; omega, ?_⟩
    rw [List.length_take]
    split <;> omega
  obtain ⟨m, hm, hml, hm2⟩ : ∃ n : Nat, (ds.take 10).length = n ∧ n ≤ ds.length ∧ (if (10 : Int) < (ds.length : Int) then (10 : Int) else (ds.length : Int)) = (n : Int) := by
    refine ⟨_, rfl, by rw [List.length_take]; omega, ?_⟩
    rw [List.length_take]
    split <;> omega
  rw [hn, hm]
  have hc1 := fun w => cut_ints ca cs.length cc n (n : Int) rfl (by omega) w
  have hc2 := fun w => cut_rows da ds.length dc m (m : Int) rfl (by omega) w
  clear hn hm
  generalize cs.length = x at *
  generalize ds.length = y at *
  go_enter Try.func18, Try.ntmps18
  go_wp2_with fail
  have hz := Blk.new (w.alloc (.cells #[.int .i64 N, .int .i64 F, .slice ca n cc, .slice da m dc] 42)) 42 [.int .i64 N, .int .i64 F, .slice ca n cc, .slice da m dc]
  rw [show (w.alloc (.cells #[.int .i64 N, .int .i64 F, .slice ca n cc, .slice da m dc] 42)).heap.size = w.heap.size + 1 by simp] at hz
  exact bodyPost_ret (results_cell_row Try.results18 _ _ (w.heap.size + 1) 42 _ (0, 0) _ rfl hz Try.underlying42 rfl (by kernel_rfl)) rfl ⟨rfl, bel_alloc (bel_alloc (Below.refl _ _) _) _⟩
end Go.Proofs.Ytpajbpgpbfmebaa
