/- messuagelaw03: tops, from. -/
import Derived.Test.YtcanhegjhbhkhaaDoorTopoParse2
namespace Go.Proofs.YtcanhegjhbhkhaaDoor
open Go.RowKit Go.Shelf
set_option linter.unusedVariables false
set_option linter.unusedSimpArgs false
attribute [local go_sem] World.cell?_alloc_lt

def topsA : ByteArray := ⟨#[110, 111, 100, 101, 115, 32, 49, 10, 102, 114, 97, 109, 101, 115, 32, 52, 10, 99, 112, 117, 115, 32, 48, 32, 48, 10, 100, 105, 115, 116, 32, 49, 48, 10]⟩
def topsB : ByteArray := ⟨#[110, 111, 100, 101, 115, 32, 49, 10, 102, 114, 97, 109, 101, 115, 32, 48, 52, 10]⟩
theorem topsA_out : (outP (readT topsA)).2 = (0, 0) ∧ (outP (readT topsA)).1.N = 1 ∧ (outP (readT topsA)).1.F = 4 ∧ (outP (readT topsA)).1.cs.length = 2 ∧ (outP (readT topsA)).1.ds.length = 1 := by decide +kernel
theorem topsB_out : (outP (readT topsB)).2 = (2, 2) := by decide +kernel
set_option maxRecDepth 100000 in
theorem tops_any (m : Int) (w : World) (hm : w.cell? ⟨2, 0, none⟩ = some (.int .i64 m)) : Calls Tryd.prog 26 #[] w fun e w' => e = .returned (.bool true) ∧ Below w.heap.size w w' := by
  have hp := fun w hm => topo_parse topsA (by decide) m w hm
  have hq := fun w hm => topo_parse topsB (by decide) m w hm
  obtain ⟨a1, a2, a3, a4, a5⟩ := topsA_out
  have b1 := topsB_out
  rw [a1] at hp
  rw [b1] at hq
  have HP := Lib.hid (hp w hm); have HQ := Lib.hid hq; have HM := Lib.hid hm
  have A2 := Lib.hid a2; have A3 := Lib.hid a3; have A4 := Lib.hid a4; have A5 := Lib.hid a5
  clear hp hq hm a1 a2 a3 a4 a5 b1
  go_enter Tryd.func26, Tryd.ntmps26
  go_wp2_with fail
  refine HP.out.mono ?_; rintro e w1 ⟨⟨t, rfl, hT, hs⟩, hB⟩
  obtain ⟨s1, s2, s3, s4⟩ := hs
  have s4 := congrArg List.length s4
  rw [List.length_map, List.length_map, A5.out] at s4
  rw [A2.out] at s1
  rw [A3.out] at s2
  have s3 := congrArg List.length s3
  rw [A4.out] at s3
  have HB := Lib.hid hB
  obtain ⟨N, F, ca, cc, cs, da, dc, ds⟩ := t
  simp only at s1 s2 s3 s4
  subst s1 s2
  unfold TopoV.val
  simp only
  clear hT hB HP
  have hcl : (cs.length : Int) = 2 := by omega
  have hdl : (ds.length : Int) = 1 := by omega
  go_upto_region 2 with fail
  have hb1 := Blk.new w1 53 [.int .i64 1, .int .i64 4, .slice ca 2 cc, .slice da 1 dc]
  have hB1 := bel_alloc HB.out (.cells #[.int .i64 1, .int .i64 4, .slice ca 2 cc, .slice da 1 dc] 53)
  have hq := HQ.out _ ((hB1.cell (p := ⟨2, 0, none⟩) (World.block_lt_of_cell? w _ HM.out)).trans HM.out)
  have HQ2 := Lib.hid hq; have HB1 := Lib.hid hB1
  clear hq hB1 HQ
  generalize w1.alloc (.cells #[.int .i64 1, .int .i64 4, .slice ca 2 cc, .slice da 1 dc] 53) = w2 at *
  generalize w1.heap.size = p1 at *
  go_wp2_with fail
  refine HQ2.out.mono ?_; rintro e w3 ⟨⟨t, rfl, hT, hs⟩, hB3⟩
  have hb3 := (hb1.below hB3).alloc (.cells #[.int .i64 t.N, .int .i64 t.F, .slice t.ca t.cs.length t.cc, .slice t.da t.ds.length t.dc] 53)
  have q0 := hb3.at_ (i := 0) rfl
  have q1 := hb3.at_ (i := 1) rfl
  have q2 := hb3.at_ (i := 2) rfl
  have q3 := hb3.at_ (i := 3) rfl
  have hB4 := bel_alloc (bel_trans HB1.out hB3) (.cells #[.int .i64 t.N, .int .i64 t.F, .slice t.ca t.cs.length t.cc, .slice t.da t.ds.length t.dc] 53)
  have HB4 := Lib.hid hB4
  clear hb1 hb3 hB3 hT hs HQ2 hB4
  unfold TopoV.val
  go_wp2_with fail
  go_ret
  exact ⟨rfl, HB4.out⟩
set_option maxRecDepth 100000 in
theorem from_any (t : TopoV) (w : World) : Calls Tryd.prog 34 #[t.val] w fun e w' => e = .returned t.val ∧ Below w.heap.size w w' := by
  obtain ⟨N, F, ca, cc, cs, da, dc, ds⟩ := t
  simp only [TopoV.val]
  have hba : Below w.heap.size w (w.alloc (.cells #[.int .i64 N, .int .i64 F, .slice ca cs.length cc, .slice da ds.length dc] 53)) := bel_alloc (Below.refl _ _) _
  go_enter Tryd.func34, Tryd.ntmps34
  go_wp2_with fail
  have hz := Blk.new (w.alloc (.cells #[.int .i64 N, .int .i64 F, .slice ca cs.length cc, .slice da ds.length dc] 53)) 48 [.int .i64 N, .int .i64 F, .slice ca cs.length cc, .slice da ds.length dc]
  rw [show (w.alloc (.cells #[.int .i64 N, .int .i64 F, .slice ca cs.length cc, .slice da ds.length dc] 53)).heap.size = w.heap.size + 1 by simp] at hz
  exact bodyPost_ret (results_cell_row Tryd.results34 _ _ (w.heap.size + 1) 48 _ (0, 0) _ rfl hz Tryd.underlying48 rfl (by kernel_rfl)) rfl ⟨rfl, bel_alloc hba _⟩
end Go.Proofs.YtcanhegjhbhkhaaDoor
