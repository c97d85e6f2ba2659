/- The statements' own plans. -/
import Derived.Test.YtmheafagafdnlaaPlanApply
namespace Go.Proofs.Ytmheafagafdnlaa
open Go.RowKit
set_option linter.unusedVariables false
set_option linter.unusedSimpArgs false
attribute [local go_sem] World.cell?_alloc_lt

theorem steps_first {c l now : List Int} {ms : List (Nat × Nat)} {m : Nat × Nat} (h : steps c l ms = some now) (hn : nxt now c = none) (hm : nxt l c = some m) : ∃ ms', ms = m :: ms' ∧ steps c (mv l m.1 m.2) ms' = some now := by
  cases ms with
  | nil => simp only [steps] at h; injection h with h; subst h; rw [hm] at hn; cases hn
  | cons x xs =>
    simp only [steps] at h
    split at h
    · rename_i hx
      rw [hm] at hx
      injection hx with hx
      subst hx
      exact ⟨xs, rfl, h⟩
    · cases h
theorem steps_last {c l now : List Int} {ms : List (Nat × Nat)} (h : steps c l ms = some now) (hm : nxt l c = none) : ms = [] ∧ now = l := by
  cases ms with
  | nil => simp only [steps] at h; injection h with h; exact ⟨rfl, h.symm⟩
  | cons x xs =>
    simp only [steps] at h
    rw [hm] at h
    simp at h
theorem InI.of_blk {w : World} {q : Nat} {xs : List Int} (h : Blk w q 3 (xs.map (Value.int .i64))) : InI w (some ⟨q, 0, none⟩) xs.length xs :=
  ⟨rfl, fun _ => ⟨q, 0, rfl, h.lt, fun j u hj => by
    rw [Nat.zero_add]
    exact h.at_ (by rw [List.getElem?_map, hj]; rfl)⟩⟩
theorem plans_fit : Fit [3, 0] [9, 9] := ⟨by decide, by decide, by decide, by decide⟩
theorem plans_n1 : nxt [3, 0] [9, 9] = some (0, 1) := by decide
theorem plans_n2 : nxt (mv [3, 0] 0 1) [9, 9] = none := by decide
theorem plans_ms {now : List Int} {ms : List (Nat × Nat)} (h : steps [9, 9] [3, 0] ms = some now) (hn : nxt now [9, 9] = none) : ms = [(0, 1)] := by
  obtain ⟨ms', rfl, h2⟩ := steps_first h hn plans_n1
  rw [(steps_last h2 plans_n2).1]
set_option maxRecDepth 100000 in
theorem plans_any (w0 : World) : Calls Try.prog 23 #[] w0 fun e w' => e = .returned (.bool true) ∧ Below w0.heap.size w0 w' := by
  have hb1 := Blk.new w0 3 [.int .i64 3, .int .i64 0]
  have hb2 := Blk.new (w0.alloc (.cells #[.int .i64 3, .int .i64 0] 3)) 3 [.int .i64 9, .int .i64 9]
  have hev := even_yes _ _ 2 2 2 2 [3, 0] [9, 9] _ (InI.of_blk (xs := [3, 0]) (hb1.alloc _)) (InI.of_blk (xs := [9, 9]) hb2) (by omega) (by omega) plans_fit
  have hsz : (w0.alloc (.cells #[.int .i64 3, .int .i64 0] 3)).heap.size = w0.heap.size + 1 := by simp
  rw [hsz] at hev
  clear hsz
  have HE := Lib.hid hev
  have hB0 : Below w0.heap.size w0 ((w0.alloc (.cells #[.int .i64 3, .int .i64 0] 3)).alloc (.cells #[.int .i64 9, .int .i64 9] 3)) := bel_alloc (bel_alloc (Below.refl _ _) _) _
  have HB0 := Lib.hid hB0
  clear hb1 hb2 hev hB0
  go_enter Try.func23, Try.ntmps23
  go_wp2_with fail
  refine HE.out.mono ?_; rintro e w1 ⟨A', ms, c', now, rfl, hown, hst, hnn, _, hB⟩
  obtain rfl := plans_ms hst hnn
  have hB1 := bel_trans HB0.out hB
  clear hst hnn hB HE HB0
  obtain ⟨g, rfl, hgl, _, hc0, hc1⟩ := own2_at hown (i := 0) (m := (0, 1)) (by decide) rfl
  simp only [Nat.zero_mul, Nat.zero_add] at hc0 hc1
  have hi0 := fun w => idx_move g 1 c' 0 (by decide) w
  have hb3 := Blk.new w1 3 [.int .i64 3, .int .i64 0]
  have hsp := spread_any (some ⟨w1.heap.size, 0, none⟩) 2 2 [3, 0] _ (InI.of_blk (xs := [3, 0]) hb3) (by omega) (by omega) (by decide)
  rw [show spreadOf [3, 0] = 3 by decide] at hsp
  have HSP := Lib.hid hsp
  have hB2 := bel_alloc hB1 (.cells #[.int .i64 3, .int .i64 0] 3)
  have HB2 := Lib.hid hB2
  clear hb3 hsp hB2 hown
  go_wp2_with fail
  refine HSP.out.mono ?_; rintro e w2 ⟨rfl, rfl⟩
  go_wp2_with fail
  go_ret
  exact ⟨rfl, HB2.out⟩
end Go.Proofs.Ytmheafagafdnlaa
