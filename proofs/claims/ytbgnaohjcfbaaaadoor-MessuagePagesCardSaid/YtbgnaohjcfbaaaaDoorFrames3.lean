/- Package frames (layer 5): New, Node, First. -/
import Derived.Test.YtbgnaohjcfbaaaaDoorFrames2
import Derived.OwnWalk
namespace Go.Proofs.YtbgnaohjcfbaaaaDoor
open Go.RowKit
set_option linter.unusedVariables false
set_option linter.unusedSimpArgs false
attribute [local go_sem] World.cell?_alloc_lt

theorem Blk.of_own_wide {w : World} {base : Nat} {e : TypeId} {g n s : Nat} {xs : List Value} (h : w.ownsRow base e s (.slice (some ⟨g, 0, none⟩) n n) n xs) : Blk w g e xs := by
  rcases h.2 with ⟨h0, _⟩ | ⟨g', cap, cur, hv, _, hh, _, _, hsz, ht⟩
  · cases h0
  · injection hv with ha _ hc
    injection ha with ha
    injection ha with ha
    subst ha hc
    unfold Blk
    rw [hh, ← ht, List.take_of_length_le (by simp [hsz])]
def zFrame : Value := .agg (List.replicate 64 (Value.int .u8 0)).toArray
theorem made_same (k : Nat) (v : Value) (hk : 0 < k) (n : Nat) : (madeCells (List.replicate k v).toArray n).toList = List.replicate n v := by
  apply List.ext_getElem?
  intro i
  by_cases h : i < n
  · have hm : i % k < k := Nat.mod_lt _ hk
    simp [madeCells, h, hm]
  · simp [madeCells, h]
theorem made_frames (n : Nat) : (madeCells zFrame.cells n).toList = List.replicate n (Value.int .u8 0) := made_same 64 _ (by decide) n
theorem info_frame : (Tryd.prog.info? 103).map (fun i => (i.zero, i.size, i.bytes)) = some (some zFrame, 64, 64) := by kernel_rfl
/-- make([]frame, n). -/
theorem wpList_make_frames (w : World) {ops : Array Oper} {rest : List Oper} {o : Oper} {a : Act} {Q : Exit → Act → World → Prop}
    (hg : o.guard = none) (l c : Operand) (hop : o.op = Op.makeSlice 59 l c)
    (kl kc : IntKind) (L C : Int) (n : Nat) (hl : a.eval l = .int kl L) (hc : a.eval c = .int kc C) (hL : L = (n : Int)) (hC : C = (n : Int)) (b2 : n ≤ 8192)
    (hK : ∀ w', Blk w' w.heap.size 103 (List.replicate (n * 64) (Value.int .u8 0)) → w.grownBy w' none → wpList Tryd.prog ops Q rest (a.put o.dst (.slice (some ⟨w.heap.size, 0, none⟩) n n)) w') :
    wpList Tryd.prog ops Q (o :: rest) a w := by
  obtain ⟨i0, hi, hz0, hz1, hz2⟩ := info_parts info_frame
  refine wpList_make_full w hg l c 59 hop w.heap.size 103 i0 zFrame 64 Tryd.underlying59 hi hz0 hz1 kl kc L C n hl hc hL hC (by rw [hz2]; omega) (by unfold maxLen; omega) (Nat.le_refl _) ?_
  intro w' h1 h2
  have hd := Blk.of_own_wide h1
  rw [made_frames] at hd
  exact hK w' hd h2
set_option maxRecDepth 100000 in
theorem fr_new (nodes each : Nat) (w : World) (h1 : 1 ≤ nodes) (h2 : nodes ≤ 8) (h3 : 1 ≤ each) (h4 : each ≤ 1024) :
    Calls Tryd.prog 5 #[.int .i64 nodes, .int .i64 each] w fun e w' => ∃ g b, e = .returned (.tuple #[.pointer (some ⟨g, 0, none⟩), .int .i64 0]) ∧ w.heap.size ≤ g ∧ w.heap.size ≤ b ∧ StoreAt w' g b each (nodes * each) (List.replicate (nodes * each * 64) 0) ∧ Below w.heap.size w w' := by
  have hle : nodes * each ≤ 8192 := Nat.le_trans (Nat.mul_le_mul h2 h4) (by decide)
  have hm : (nodes : Int) * (each : Int) = ((nodes * each : Nat) : Int) := by simp
  generalize hn : nodes * each = n at *
  have HN := Lib.hid hn; clear hn
  have m0 : (0 : Int) ≤ (nodes : Int) * (each : Int) := by omega
  have m1 : (nodes : Int) * (each : Int) ≤ 8192 := by omega
  have HM := Lib.hid hm; clear hm
  go_enter Tryd.func5, Tryd.ntmps5
  go_wp2_with (at_make; refine wpList_make_frames _ rfl _ _ rfl _ _ _ _ n rfl rfl HM.out HM.out hle ?_)
  intro w1 hd hgr
  have hb : Below w.heap.size w w1 := (Below.refl _ _).grown hgr (Nat.le_refl _) (fun k h => by cases h)
  go_wp2
  go_ret2
  refine ⟨w1.heap.size, w.heap.size, rfl, hb.size, Nat.le_refl _, ⟨Blk.new _ _ _, ?_, by simp, hle, h3, h4⟩, bel_alloc hb _⟩
  rw [List.map_replicate]; exact hd.alloc _
end Go.Proofs.YtbgnaohjcfbaaaaDoor
