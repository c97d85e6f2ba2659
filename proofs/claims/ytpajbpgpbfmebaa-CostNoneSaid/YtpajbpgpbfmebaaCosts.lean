/- messuagelaw29.costs. -/
import Derived.Test.YtpajbpgpbfmebaaCostFold
namespace Go.Proofs.Ytpajbpgpbfmebaa
open Go.RowKit
set_option linter.unusedVariables false
set_option linter.unusedSimpArgs false
attribute [local go_sem] World.cell?_alloc_lt

def cosT (p : Nat) : TopoV := ⟨2, 4, some ⟨p, 0, none⟩, 1, [0], some ⟨p + 1 + 1 + 1, 0, none⟩, 2, [⟨some ⟨p + 1, 0, none⟩, 2, [10, 20]⟩, ⟨some ⟨p + 1 + 1, 0, none⟩, 2, [20, 10]⟩]⟩
theorem cosT_cnt (p : Nat) : cntB (cosT p) = true := by
  unfold cntB
  simp [cosT, pows]
theorem cosT_mat (p : Nat) : matB 2 (cosT p).ds = true := by
  refine mat_good rfl ?_ ?_
  · intro r hr
    simp [cosT] at hr
    rcases hr with rfl | rfl <;> rfl
  · intro a c ha hc
    obtain rfl | rfl : a = 0 ∨ a = 1 := by omega
    all_goals obtain rfl | rfl : c = 0 ∨ c = 1 := by omega
    all_goals simp [cosT, dv, okE]
theorem cosT_chk (p : Nat) : chkT (cosT p) = 0 := by
  unfold chkT
  rw [if_neg (by rw [cosT_cnt]; simp), if_neg (by show ¬ ([(0 : Int)].any (badN 2) = true); decide), if_neg (by rw [show (cosT p).N.toNat = 2 from rfl, cosT_mat]; simp)]
theorem InI.blkn {w : World} {q n : Nat} {xs : List Int} (hl : xs.length = n) (h : Blk w q 3 (xs.map (Value.int .i64))) : InI w (some ⟨q, 0, none⟩) n xs := by
  subst hl
  exact InI.of_blk h
theorem cosT_in {w : World} {p : Nat} (b0 : Blk w p 3 [.int .i64 0]) (b1 : Blk w (p + 1) 3 [.int .i64 10, .int .i64 20]) (b2 : Blk w (p + 1 + 1) 3 [.int .i64 20, .int .i64 10]) (b3 : Blk w (p + 1 + 1 + 1) 22 [.slice (some ⟨p + 1, 0, none⟩) 2 2, .slice (some ⟨p + 1 + 1, 0, none⟩) 2 2]) : InTopo w (cosT p) := by
  refine ⟨InI.blkn rfl b0, ⟨rfl, fun _ => ⟨p + 1 + 1 + 1, 0, rfl, b3.lt, fun j r hj => ?_⟩⟩, by simp [cosT], by simp [cosT]⟩
  rw [Nat.zero_add]
  match j, hj with
  | 0, hj =>
    injection hj with hj
    subst hj
    exact ⟨b3.at_ rfl, InI.blkn rfl b1, by simp⟩
  | 1, hj =>
    injection hj with hj
    subst hj
    exact ⟨b3.at_ rfl, InI.blkn rfl b2, by simp⟩
  | j + 2, hj => simp [cosT] at hj
theorem es_one {w : World} {q : Nat} (h : Blk w q 61 [.int .i64 1, .int .i64 0, .int .i64 0, .bool false]) : InEs w (some ⟨q, 0, none⟩) 1 [⟨1, 0, 0, false⟩] :=
  ⟨rfl, fun _ => ⟨q, 0, rfl, h.lt, fun j e hj => by
    match j, hj with
    | 0, hj =>
      injection hj with hj
      subst hj
      exact ⟨h.at_ (i := 0) rfl, h.at_ (i := 1) rfl, h.at_ (i := 2) rfl, h.at_ (i := 3) rfl⟩
    | j + 1, hj => simp at hj⟩⟩
theorem cos_fold (p : Nat) : foldK (fun d => d) (cosT p).ds (tabK 2 [⟨1, 0, 0, false⟩] 1) 2 (2 * 2) = 20 := by
  simp [foldK, tabK, cosT, dv]
theorem cos_best (p : Nat) : bestK (cosT p).ds [1, 1, 0] 3 2 = (1, 40) := by
  simp [bestK, sumTo, cosT, dv]
def cosW (w0 : World) : World := ((((w0.alloc (.cells #[.int .i64 0] 3)).alloc (.cells #[.int .i64 10, .int .i64 20] 3)).alloc (.cells #[.int .i64 20, .int .i64 10] 3)).alloc (.cells #[.slice (some ⟨w0.heap.size + 1, 0, none⟩) 2 2, .slice (some ⟨w0.heap.size + 1 + 1, 0, none⟩) 2 2] 22)).alloc (.cells #[.int .i64 2, .int .i64 4, .slice (some ⟨w0.heap.size, 0, none⟩) 1 1, .slice (some ⟨w0.heap.size + 1 + 1 + 1, 0, none⟩) 2 2] 46)
theorem cosW_facts (w0 : World) : InTopo (cosW w0) (cosT w0.heap.size) ∧ Blk (cosW w0) (w0.heap.size + 1 + 1 + 1 + 1) 46 [.int .i64 2, .int .i64 4, .slice (some ⟨w0.heap.size, 0, none⟩) 1 1, .slice (some ⟨w0.heap.size + 1 + 1 + 1, 0, none⟩) 2 2] ∧ Below w0.heap.size w0 (cosW w0) ∧ (cosW w0).heap.size = w0.heap.size + 1 + 1 + 1 + 1 + 1 := by
  have c0 := Blk.new w0 3 [.int .i64 0]
  have c1 := Blk.new (w0.alloc (.cells #[.int .i64 0] 3)) 3 [.int .i64 10, .int .i64 20]
  have c2 := Blk.new ((w0.alloc (.cells #[.int .i64 0] 3)).alloc (.cells #[.int .i64 10, .int .i64 20] 3)) 3 [.int .i64 20, .int .i64 10]
  have c3 := Blk.new (((w0.alloc (.cells #[.int .i64 0] 3)).alloc (.cells #[.int .i64 10, .int .i64 20] 3)).alloc (.cells #[.int .i64 20, .int .i64 10] 3)) 22 [.slice (some ⟨w0.heap.size + 1, 0, none⟩) 2 2, .slice (some ⟨w0.heap.size + 1 + 1, 0, none⟩) 2 2]
  have c4 := Blk.new ((((w0.alloc (.cells #[.int .i64 0] 3)).alloc (.cells #[.int .i64 10, .int .i64 20] 3)).alloc (.cells #[.int .i64 20, .int .i64 10] 3)).alloc (.cells #[.slice (some ⟨w0.heap.size + 1, 0, none⟩) 2 2, .slice (some ⟨w0.heap.size + 1 + 1, 0, none⟩) 2 2] 22)) 46 [.int .i64 2, .int .i64 4, .slice (some ⟨w0.heap.size, 0, none⟩) 1 1, .slice (some ⟨w0.heap.size + 1 + 1 + 1, 0, none⟩) 2 2]
  simp only [World.size_alloc] at c1 c2 c3 c4
  refine ⟨cosT_in ((((c0.alloc _).alloc _).alloc _).alloc _) (((c1.alloc _).alloc _).alloc _) ((c2.alloc _).alloc _) (c3.alloc _), c4, ?_, ?_⟩
  · unfold cosW
    exact bel_alloc (bel_alloc (bel_alloc (bel_alloc (bel_alloc (Below.refl _ _) _) _) _) _) _
  · unfold cosW
    simp
set_option maxRecDepth 100000 in
theorem costs_any (w0 : World) : Calls Try.prog 22 #[] w0 fun e w' => e = .returned (.bool true) ∧ Below w0.heap.size w0 w' := by
  obtain ⟨hT, hB, hb, hz⟩ := cosW_facts w0
  have hea := Blk.new (cosW w0) 61 [.int .i64 1, .int .i64 0, .int .i64 0, .bool false]
  rw [hz] at hea
  have hal := bel_alloc (Below.refl (cosW w0).heap.size (cosW w0)) (.cells #[.int .i64 1, .int .i64 0, .int .i64 0, .bool false] 61)
  have hsm := cost_sum (cosT w0.heap.size) 2 (cosT_chk _) rfl (some ⟨w0.heap.size + 1 + 1 + 1 + 1 + 1, 0, none⟩) 1 1 [⟨1, 0, 0, false⟩] _ (hT.below hal) (es_one hea) (by omega) rfl
  rw [cos_fold] at hsm
  have HSM := Lib.hid hsm; have HT := Lib.hid (hT.below hal); have HB := Lib.hid (hB.below hal); have HBB := Lib.hid (bel_trans hb hal)
  clear hsm hT hB hb hz hea hal
  go_enter Try.func22, Try.ntmps22
  go_wp2_with fail
  refine HSM.out.mono ?_; rintro e w2 ⟨rfl, hB2⟩
  have hT2 := HT.out.below hB2
  have hb2 := HB.out.below hB2
  have hBB2 := bel_trans HBB.out hB2
  clear HSM HT HB HBB hB2
  have q0 := hb2.at_ (i := 0) rfl
  have q1 := hb2.at_ (i := 1) rfl
  have q2 := hb2.at_ (i := 2) rfl
  have q3 := hb2.at_ (i := 3) rfl
  have hn := Blk.new w2 3 [.int .i64 1, .int .i64 1, .int .i64 0]
  have hal2 := bel_alloc (Below.refl w2.heap.size w2) (.cells #[.int .i64 1, .int .i64 1, .int .i64 0] 3)
  have hbe := best_yes (cosT w0.heap.size) (some ⟨w2.heap.size, 0, none⟩) 3 3 [1, 1, 0] _ (hT2.below hal2) (InI.blkn rfl hn) (by omega) 2 (cosT_chk _) rfl (by show [(1 : Int), 1, 0].any (badN 2) = false; decide)
  rw [cos_best] at hbe
  have HBE := Lib.hid hbe
  have HB3 := Lib.hid (bel_trans hBB2 hal2)
  clear hbe hT2 hb2 hBB2 hn hal2
  go_wp2_with fail
  refine HBE.out.mono ?_; rintro e w3 ⟨rfl, hB4⟩
  go_wp2_with fail
  go_ret
  exact ⟨rfl, bel_trans HB3.out hB4⟩
end Go.Proofs.Ytpajbpgpbfmebaa
