/- Package frames (layer 5): New, Node, First. -/
import Derived.Test.YtkjhodaglanpmaaFrames2
import Derived.OwnWalk
namespace Go.Proofs.Ytkjhodaglanpmaa
open Go.RowKit
set_option linter.unusedVariables false
set_option linter.unusedSimpArgs false
attribute [local go_sem] World.cell?_alloc_lt

theorem Blk.of_own_wide {w : World} {base : Nat} {e : TypeId} {g n s : Nat} {xs : List Value} (h : w.ownsRow base e s (.slice (some ⟨g, 0, none⟩) n n) n xs) : Blk w g e xs := by
  rcases h.2 with ⟨h0, _⟩ | ⟨g', cap, cur, hv, _, hh, _, _, hsz, ht⟩
  · cases h0
  · injection hv with ha _ hc
    injection ha with ha
    injection ha with ha
    subst ha hc
    unfold Blk
    rw [hh, ← ht, List.take_of_length_le (by simp [hsz])]
def zFrame : Value := .agg (List.replicate 64 (Value.int .u8 0)).toArray
theorem made_same (k : Nat) (v : Value) (hk : 0 < k) (n : Nat) : (madeCells (List.replicate k v).toArray n).toList = List.replicate n v := by
  apply List.ext_getElem?
  intro i
  by_cases h : i < n
  · have hm : i % k < k := Nat.mod_lt _ hk
    simp [madeCells, h, hm]
  · simp [madeCells, h]
theorem made_frames (n : Nat) : (madeCells zFrame.cells n).toList = List.replicate n (Value.int .u8 0) := made_same 64 _ (by decide) n
theorem info_frame : (Try.prog.info? 120).map (fun i => (i.zero, i.size, i.bytes)) = some (some zFrame, 64, 64) := by kernel_rfl
/-- make([]frame, n). -/
theorem wpList_make_frames (w : World) {ops : Array Oper} {rest : List Oper} {o : Oper} {a : Act} {Q : Exit → Act → World → Prop}
    (hg : o.guard = none) (l c : Operand) (hop : o.op = Op.makeSlice 108 l c)
    (kl kc : IntKind) (L C : Int) (n : Nat) (hl : a.eval l = .int kl L) (hc : a.eval c = .int kc C) (hL : L = (n : Int)) (hC : C = (n : Int)) (b2 : n ≤ 8192)
    (hK : ∀ w', Blk w' w.heap.size 120 (List.replicate (n * 64) (Value.int .u8 0)) → w.grownBy w' none → wpList Try.prog ops Q rest (a.put o.dst (.slice (some ⟨w.heap.size, 0, none⟩) n n)) w') :
    wpList Try.prog ops Q (o :: rest) a w := by
  obtain ⟨i0, hi, hz0, hz1, hz2⟩ := info_parts info_frame
  refine wpList_make_full w hg l c 108 hop w.heap.size 120 i0 zFrame 64 Try.underlying108 hi hz0 hz1 kl kc L C n hl hc hL hC (by rw [hz2]; omega) (by unfold maxLen; omega) (Nat.le_refl _) ?_
  intro w' h1 h2
  have hd := Blk.of_own_wide h1
  rw [made_frames] at hd
  exact hK w' hd h2
set_option maxRecDepth 100000 in
theorem fr_new (nodes each : Nat) (w : World) (h1 : 1 ≤ nodes) (h2 : nodes ≤ 8) (h3 : 1 ≤ each) (h4 : each ≤ 1024) :
    Calls Try.prog 29 #[.int .i64 nodes, .int .i64 each] w fun e w' => ∃ g b, e = .returned (.tuple #[.pointer (some ⟨g, 0, none⟩), .int .i64 0]) ∧ w.heap.size ≤ g ∧ w.heap.size ≤ b ∧ StoreAt w' g b each (nodes * each) (List.replicate (nodes * each * 64) 0) ∧ Below w.heap.size w w' := by
  have hle : nodes * each ≤ 8192 := Nat.le_trans (Nat.mul_le_mul h2 h4) (by decide)
  have hm : (nodes : Int) * (each : Int) = ((nodes * each : Nat) : Int) := by simp
  generalize hn : nodes * each = n at *
  have HN := Lib.hid hn; clear hn
  have m0 : (0 : Int) ≤ (nodes : Int) * (each : Int) := by omega
  have m1 : (nodes : Int) * (each : Int) ≤ 8192 := by omega
  have HM := Lib.hid hm; clear hm
  go_enter Try.func29, Try.ntmps29
  go_wp2_with (at_make; refine wpList_make_frames _ rfl _ _ rfl _ _ _ _ n rfl rfl HM.out HM.out hle ?_)
  intro w1 hd hgr
  have hb : Below w.heap.size w w1 := (Below.refl _ _).grown hgr (Nat.le_refl _) (fun k h => by cases h)
  go_wp2
  go_ret2
  refine ⟨w1.heap.size, w.heap.size, rfl, hb.size, Nat.le_refl _, ⟨Blk.new _ _ _, ?_, by simp, hle, h3, h4⟩, bel_alloc hb _⟩
  rw [List.map_replicate]; exact hd.alloc _
set_option maxRecDepth 100000 in
theorem fr_node (g b each nf : Nat) (bs : List Int) (n : Nat) (w : World) (hG : StoreAt w g b each nf bs) (hn : n < nf) :
    Calls Try.prog 33 #[.pointer (some ⟨g, 0, none⟩), .int .i64 n] w fun e w' => e = .returned (.tuple #[.int .i64 ((n / each : Nat) : Int), .int .i64 0]) ∧ w = w' := by
  have k0 := hG.st.at_ (i := 0) rfl
  have he1 := hG.e1
  have he0 : (each : Int) ≠ 0 := by omega
  have hmx := hG.mx
  have hq : wrap64 ((n : Int) / (each : Int)) = ((n / each : Nat) : Int) := by
    have : n / each ≤ n := Nat.div_le_self _ _
    rw [← Int.natCast_ediv]
    generalize n / each = q at *
    exact wrap64_small (by omega) (by omega)
  have HQ := Lib.hid hq; clear hq
  go_enter Try.func33, Try.ntmps33
  go_wp2_with fail
  refine (fr_frame g b each nf bs n w hG hn).mono ?_; rintro e w1 ⟨rfl, rfl⟩
  go_wp2_with fail
  go_ret2
  rw [← HQ.out]
  exact ⟨rfl, rfl⟩
set_option maxRecDepth 100000 in
theorem fr_first (g b each nf : Nat) (bs : List Int) (nd nn : Nat) (w : World) (hG : StoreAt w g b each nf bs) (hf : nf = nn * each) (hn : nd < nn) :
    Calls Try.prog 34 #[.pointer (some ⟨g, 0, none⟩), .int .i64 nd] w fun e w' => e = .returned (.tuple #[.int .i64 ((nd * each : Nat) : Int), .int .i64 0]) ∧ Below w.heap.size w w' := by
  have k0 := hG.st.at_ (i := 0) rfl
  have k1 := hG.st.at_ (i := 1) rfl
  have he1 := hG.e1
  have he0 : (each : Int) ≠ 0 := by omega
  have hmx := hG.mx
  have hdv : nf / each = nn := by rw [hf, Nat.mul_div_cancel _ (by omega)]
  have hle : nd * each ≤ nf := by rw [hf]; exact Nat.mul_le_mul_right _ (by omega)
  have hm : (nd : Int) * (each : Int) = ((nd * each : Nat) : Int) := by simp
  have hq : (nf : Int) / (each : Int) = (nn : Int) := by rw [← hdv, Int.natCast_ediv]
  have hnn : nn ≤ nf := by rw [← hdv]; exact Nat.div_le_self _ _
  have hd0 : decide ((nd : Int) < 0) = false := decide_eq_false (by omega)
  have hd1 : decide ((nn : Int) ≤ (nd : Int)) = false := decide_eq_false (by omega)
  clear hf hdv
  generalize nd * each = p at *
  go_enter Try.func34, Try.ntmps34
  go_wp2_with fail
  refine wp_region_quiet_lit (by kernel_rfl) (by kernel_rfl) ?_
  repeat (first | go_big_quiet_step (fail) | quiet_step (fail))
  refine wpQuiet_nil ?_; intro _ hw'; obtain ⟨nq, hw''⟩ := hw'; subst hw''
  go_wp2_with fail
  go_ret2
  exact ⟨rfl, bel_drewN (Below.refl _ _) _⟩
end Go.Proofs.Ytkjhodaglanpmaa
