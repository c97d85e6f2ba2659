/- The laws PolicyLone, PolicyMore. -/
import Derived.Test.YtmheafagafdnlaaPolicy2
namespace Go.Proofs.Ytmheafagafdnlaa
open Go.RowKit
set_option linter.unusedVariables false
set_option linter.unusedSimpArgs false
attribute [local go_sem] World.cell?_alloc_lt

theorem next_one (cur : Int) : nextN 1 cur = 0 := by
  unfold nextN
  rw [show nodesN 1 = [0] from by decide]
  unfold nextL
  by_cases h : cur < 0 <;> simp [h]
theorem policyLone_walk (m : Int) (_h1 : (Lit.int .i64 m).wf = true) (cur : Int) (_h2 : (Lit.int .i64 cur).wf = true) (w0 : World) :
    Calls Try.prog 8 #[.int .i64 m, .int .i64 cur] w0 fun e w' => e = .returned (.bool true) ∧ Below w0.heap.size w0 w' := by
  have hb4 := umod_bd m 4 (by omega) (by omega)
  generalize hm : wrap64 ((IntKind.u64.wrap m).tmod 4) = m' at hb4
  have key : ∀ mm : Int, (mm = 0 ∨ mm = 1 ∨ mm = 2 ∨ mm = 3) → chk mm 1 0 1 = 0 ∧ permN mm 1 1 = 1 ∧ (startN mm 1 0 0 cur).1 = 0 ∧ (startN mm 1 0 0 cur).2 = if mm = 2 then 0 else cur := by
    intro mm h
    unfold startN
    rw [next_one]
    rcases h with rfl | rfl | rfl | rfl <;> refine ⟨rfl, rfl, ?_, ?_⟩ <;> rfl
  obtain ⟨c1, c2, c3, c4⟩ := key m' (by omega)
  have hp := perm_yes m' 1 (by omega) 0 1 c1
  have hst := start_yes m' 1 (by omega) 0 1 0 cur c1 (by omega) (by omega)
  rw [c2] at hp
  rw [c3, c4] at hst
  unfold pol at hp hst
  have HP := Lib.hid hp; have HST := Lib.hid hst; clear hp hst c1 c2 c3 c4 key
  by_cases h2 : m' = 2
  · subst h2
    go_enter Try.func8, Try.ntmps8
    go_wp2_with fail
    refine (HP.out _).mono ?_; rintro e w1 ⟨rfl, hb⟩
    have kc := fun i => (hb.cell (p := ⟨w0.heap.size, i, none⟩) (by simp)).trans (World.cell?_alloc_new w0 _ _ i)
    have q0 := kc 0; have q1 := kc 1; have q2 := kc 2
    simp at q0 q1 q2
    clear kc
    have hB := bel_trans (bel_alloc (Below.refl _ w0) _) hb
    have hlt := hb.size
    simp at hlt
    go_wp2_with fail
    refine (HST.out _).mono ?_; rintro e w2 ⟨rfl, hb2⟩
    have q0 := (hb2.cell (p := ⟨w0.heap.size, 0, none⟩) (by simp; omega)).trans q0
    have q1 := (hb2.cell (p := ⟨w0.heap.size, 1, none⟩) (by simp; omega)).trans q1
    have q2 := (hb2.cell (p := ⟨w0.heap.size, 2, none⟩) (by simp; omega)).trans q2
    have hB := bel_trans hB hb2
    go_wp2_with fail
    refine (starts_any _).mono ?_; rintro e w3 ⟨rfl, hb3⟩
    have hB := bel_trans hB hb3
    go_wp2
    go_ret
    exact ⟨rfl, hB⟩
  · have b2 : (m' == 2) = false := by rw [beq_eq_false_iff_ne]; exact h2
    rw [if_neg h2] at HST
    clear h2
    go_enter Try.func8, Try.ntmps8
    go_wp2_with fail
    refine (HP.out _).mono ?_; rintro e w1 ⟨rfl, hb⟩
    have kc := fun i => (hb.cell (p := ⟨w0.heap.size, i, none⟩) (by simp)).trans (World.cell?_alloc_new w0 _ _ i)
    have q0 := kc 0; have q1 := kc 1; have q2 := kc 2
    simp at q0 q1 q2
    clear kc
    have hB := bel_trans (bel_alloc (Below.refl _ w0) _) hb
    have hlt := hb.size
    simp at hlt
    go_wp2_with fail
    refine (HST.out _).mono ?_; rintro e w2 ⟨rfl, hb2⟩
    have q0 := (hb2.cell (p := ⟨w0.heap.size, 0, none⟩) (by simp; omega)).trans q0
    have q1 := (hb2.cell (p := ⟨w0.heap.size, 1, none⟩) (by simp; omega)).trans q1
    have q2 := (hb2.cell (p := ⟨w0.heap.size, 2, none⟩) (by simp; omega)).trans q2
    have hB := bel_trans hB hb2
    go_wp2_with fail
    refine (starts_any _).mono ?_; rintro e w3 ⟨rfl, hb3⟩
    have hB := bel_trans hB hb3
    go_wp2
    go_ret
    exact ⟨rfl, hB⟩
end Go.Proofs.Ytmheafagafdnlaa
