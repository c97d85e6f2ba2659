/- messuageref03.number. -/
import Derived.Test.YtcanhegjhbhkhaaDoorTopoSame
namespace Go.Proofs.YtcanhegjhbhkhaaDoor
open Go.RowKit Go.Shelf
set_option linter.unusedVariables false
set_option linter.unusedSimpArgs false
attribute [local go_sem] World.cell?_alloc_lt

def rnumV (t : ByteArray) : Int := if okNum t = true then (valT t.data.toList : Int) else -1
set_option maxRecDepth 100000 in
theorem rnumber_any (t : ByteArray) (ht : t.size ≤ 9223372036854775807) (w : World) : Calls Tryd.prog 70 #[.string t] w fun e w' => e = .returned (.int .i64 (rnumV t)) ∧ w = w' := by
  obtain ⟨V1, hV1⟩ : ∃ V, rnumV t = V := ⟨_, rfl⟩
  rw [hV1]
  have hbad : okNum t = false → V1 = -1 := fun h => by
    rw [← hV1]; unfold rnumV; rw [h]; rfl
  have hgood : okNum t = true → V1 = (valT t.data.toList : Int) := fun h => by
    rw [← hV1]; unfold rnumV; rw [h]; rfl
  have HBAD := Lib.hid hbad; have HGOOD := Lib.hid hgood
  clear hV1 hbad hgood
  by_cases h1 : 1 ≤ t.size ∧ t.size ≤ 4
  · have hhead : t.data.toList.head? = some (t[0]'(by omega)) := by
      rw [List.head?_eq_getElem?, List.getElem?_eq_getElem (by rw [len_dataT]; omega)]
      rfl
    by_cases h2 : 1 < t.size ∧ t[0]'(by omega) = 48
    · have hno : okNum t = false := by
        unfold okNum
        rw [hhead, h2.2, decide_eq_true h2.1]
        simp
      obtain rfl := HBAD.out hno
      have h48 : ∀ h, (((t[0]'h).toNat : Int) == 48) = true := fun h => by rw [h2.2]; rfl
      obtain ⟨ha, hb⟩ := h1
      have hc := h2.1
      clear hno HBAD HGOOD hhead h2
      go_enter Tryd.func70, Tryd.ntmps70
      go_wp2_with fail
      go_ret
      exact ⟨rfl, rfl⟩
    · have hok : okNum t = t.data.toList.all digT := by
        unfold okNum
        rw [hhead, decide_eq_true h1, Bool.true_and]
        have : (decide (1 < t.size) && decide (some (t[0]'(by omega)) = some (48 : UInt8))) = false := by
          rw [Bool.and_eq_false_iff, decide_eq_false_iff_not, decide_eq_false_iff_not]
          by_cases a : 1 < t.size
          · exact Or.inr (fun e => h2 ⟨a, by injection e⟩)
          · exact Or.inl a
        rw [this]; rfl
      have hstop : ∀ i : Nat, ∀ h : i < t.size, digT t[i] = false → V1 = -1 := fun i h hd => HBAD.out (by
        rw [hok, List.all_eq_false]
        exact ⟨t[i], List.getElem_mem (by rw [len_dataT]; exact h), by rw [hd]; simp⟩)
      have hend : t.data.toList.all digT = true → V1 = (valT t.data.toList : Int) := fun h => HGOOD.out (by rw [hok]; exact h)
      have HSTOP := Lib.hid hstop; have HEND := Lib.hid hend
      have h48 : t.size = 1 ∨ (1 < t.size ∧ ∀ h, (((t[0]'h).toNat : Int) == 48) = false) := by
        by_cases a : 1 < t.size
        · refine Or.inr ⟨a, fun h => ?_⟩
          rw [beq_eq_false_iff_ne]
          intro e
          apply h2
          refine ⟨a, UInt8.toNat_inj.1 ?_⟩
          show (t[0]'h).toNat = 48
          omega
        · exact Or.inl (by omega)
      clear HBAD HGOOD hhead h2 hok hstop hend
      obtain ⟨ha, hb⟩ := h1
      rcases h48 with h48 | ⟨h49, h48⟩
      all_goals
        go_enter Tryd.func70, Tryd.ntmps70
        go_wp2_with fail
        go_loopw [3, 4] (fun v3 v4 wr => ∃ pos : Nat, pos ≤ t.size ∧ v4 = .int .i64 (pos : Int) ∧ v3 = .int .i64 (valT (t.data.toList.take pos) : Int) ∧ (t.data.toList.take pos).all digT = true ∧ wr = w) (fun _ v4 _ => t.size - (intOf v4).toNat)
        case atStart => exact ⟨0, by omega, rfl, rfl, rfl, rfl⟩
        case round =>
          obtain ⟨pos, hp, rfl, rfl, hall, rfl⟩ := hrel
          have hval := valT_lt _ hall
          rw [List.length_take, len_dataT] at hval
          by_cases hlt : pos < t.size
          · cases hd : digT t[pos] with
            | true =>
              have hd2 := of_decide_eq_true hd
              have hv3 : valT (t.data.toList.take pos) < 1000 := by
                have : 10 ^ min pos t.size ≤ 10 ^ 3 := Nat.pow_le_pow_right (by omega) (by omega)
                omega
              have hall2 : (t.data.toList.take (pos + 1)).all digT = true := by
                rw [take_data hlt, List.all_append, hall, List.all_cons, hd]; rfl
              have hv5 : (valT (t.data.toList.take (pos + 1)) : Int) = 10 * (valT (t.data.toList.take pos) : Int) + ((t[pos].toNat : Int) - 48) := by
                rw [take_data hlt, valT_snoc]; omega
              have HA2 := Lib.hid hall2; have HV5 := Lib.hid hv5
              have hc1 : (48 : Int) ≤ (t[pos].toNat : Int) := by omega
              have hc2 : (t[pos].toNat : Int) ≤ 57 := by omega
              clear hall2 hv5 hd hall hval hd2
              generalize valT (t.data.toList.take pos) = vv at *
              go_wp2_with fail
              go_roundw
              case rel => exact ⟨pos + 1, by omega, by go_num, by rw [HV5.out], HA2.out, trivial⟩
              case measure => simp [intOf]; omega
            | false =>
              obtain rfl := HSTOP.out pos hlt hd
              have hd2 := of_decide_eq_false hd
              clear hd HSTOP HEND hall hval
              rcases (by omega : (t[pos].toNat : Int) < 48 ∨ (¬ (t[pos].toNat : Int) < 48 ∧ (57 : Int) < (t[pos].toNat : Int))) with hr | ⟨hr, hr2⟩
              all_goals
                clear hd2
                go_wp2_with fail
                go_ret
                exact ⟨rfl, rfl⟩
          · obtain rfl : pos = t.size := by omega
            rw [List.take_of_length_le (by rw [len_dataT]; omega)] at hall ⊢
            have hv1 := HEND.out hall
            clear HSTOP HEND hall hval
            generalize valT t.data.toList = vv at *
            subst hv1
            go_wp2_with fail
            go_ret
            exact ⟨rfl, rfl⟩
  · have hno : okNum t = false := by
      unfold okNum
      rw [decide_eq_false h1, Bool.false_and]
    obtain rfl := HBAD.out hno
    clear hno HBAD HGOOD
    rcases (by omega : t.size < 1 ∨ (1 ≤ t.size ∧ 4 < t.size)) with h | ⟨ha, hb⟩
    all_goals
      clear h1
      go_enter Tryd.func70, Tryd.ntmps70
      go_wp2_with fail
      go_ret
      exact ⟨rfl, rfl⟩
end Go.Proofs.YtcanhegjhbhkhaaDoor
