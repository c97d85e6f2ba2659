/- Package topo: number. -/
import Derived.Test.YtbgnaohjcfbaaaaDoorTopo5
import Derived.Deep.DeepCutAuto
import Derived.Outline
import Derived.Deep.QuietTactic
import Derived.Laws.RangeAny
import Derived.Laws.RangeString
import Derived.Lib.OthersKept
namespace Go.Proofs.YtbgnaohjcfbaaaaDoor
open Go.RowKit
set_option linter.unusedVariables false
set_option linter.unusedSimpArgs false
attribute [local go_sem] World.cell?_alloc_lt

theorem len_dataT (t : ByteArray) : t.data.toList.length = t.size := by rw [Array.length_toList]; rfl
def digT (x : UInt8) : Bool := decide (48 ≤ x.toNat ∧ x.toNat ≤ 57)
def valT (l : List UInt8) : Nat := l.foldl (fun n x => 10 * n + (x.toNat - 48)) 0
def okNum (w : ByteArray) : Bool := decide (1 ≤ w.size ∧ w.size ≤ 4) && (!(decide (1 < w.size) && decide (w.data.toList.head? = some 48)) && w.data.toList.all digT)
def numT (w : ByteArray) : Int × Bool := if okNum w = true then ((valT w.data.toList : Int), true) else (0, false)
theorem valT_snoc (l : List UInt8) (x : UInt8) : valT (l ++ [x]) = 10 * valT l + (x.toNat - 48) := by simp [valT]
theorem valT_key : ∀ (l : List UInt8) (n : Nat), l.all digT = true → l.foldl (fun n x => 10 * n + (x.toNat - 48)) n < (n + 1) * 10 ^ l.length := by
  intro l
  induction l with
  | nil => intro n _; simp
  | cons x r ih =>
    intro n h
    rw [List.all_cons, Bool.and_eq_true] at h
    have h3 := of_decide_eq_true h.1
    have h1 := ih (10 * n + (x.toNat - 48)) h.2
    rw [List.foldl_cons, List.length_cons, Nat.pow_succ, Nat.mul_comm (10 ^ r.length) 10, ← Nat.mul_assoc]
    exact Nat.lt_of_lt_of_le h1 (Nat.mul_le_mul_right _ (by omega))
theorem valT_lt (l : List UInt8) (h : l.all digT = true) : valT l < 10 ^ l.length := by
  have := valT_key l 0 h
  simpa [valT] using this
theorem take_data {t : ByteArray} {i : Nat} (h : i < t.size) : t.data.toList.take (i + 1) = t.data.toList.take i ++ [t[i]] := by
  rw [List.take_add_one, List.getElem?_eq_getElem (by rw [len_dataT]; exact h)]
  rfl
theorem rune_not {t : ByteArray} {i : Nat} (h : i < t.size) (hd : digT t[i] = false) : (Utf8.decode t i).1 < 48 ∨ 57 < (Utf8.decode t i).1 := by
  have hd2 := of_decide_eq_false hd
  by_cases ha : t[i].toNat < 128
  · rw [decode_ascii t i h ha]
    show t[i].toNat < 48 ∨ 57 < t[i].toNat
    omega
  · have := (decode_high t i h (by omega)).1
    omega
set_option maxRecDepth 100000 in
theorem topo_number (t : ByteArray) (ht : t.size ≤ 9223372036854775807) (w : World) : Calls Tryd.prog 60 #[.string t] w fun e w' => e = .returned (.tuple #[.int .i64 (numT t).1, .bool (numT t).2]) ∧ Below w.heap.size w w' := by
  have hB0 := Below.refl w.heap.size w
  obtain ⟨V1, hV1⟩ : ∃ V, (numT t).1 = V := ⟨_, rfl⟩
  obtain ⟨V2, hV2⟩ : ∃ V, (numT t).2 = V := ⟨_, rfl⟩
  rw [hV1, hV2]
  have hbad : okNum t = false → V1 = 0 ∧ V2 = false := fun h => by
    rw [← hV1, ← hV2]; unfold numT; rw [h]; exact ⟨rfl, rfl⟩
  have hgood : okNum t = true → V1 = (valT t.data.toList : Int) ∧ V2 = true := fun h => by
    rw [← hV1, ← hV2]; unfold numT; rw [h]; exact ⟨rfl, rfl⟩
  have HBAD := Lib.hid hbad; have HGOOD := Lib.hid hgood; have HB0 := Lib.hid hB0
  clear hV1 hV2 hbad hgood hB0
  by_cases h1 : 1 ≤ t.size ∧ t.size ≤ 4
  · have hhead : t.data.toList.head? = some (t[0]'(by omega)) := by
      rw [List.head?_eq_getElem?, List.getElem?_eq_getElem (by rw [len_dataT]; omega)]
      rfl
    by_cases h2 : 1 < t.size ∧ t[0]'(by omega) = 48
    · have hno : okNum t = false := by
        unfold okNum
        rw [hhead, h2.2, decide_eq_true h2.1]
        simp
      obtain ⟨rfl, rfl⟩ := HBAD.out hno
      have h48 : ∀ h, (((t[0]'h).toNat : Int) == 48) = true := fun h => by rw [h2.2]; rfl
      obtain ⟨ha, hb⟩ := h1
      have hc := h2.1
      clear hno HBAD HGOOD hhead h2
      go_enter Tryd.func60, Tryd.ntmps60
      go_wp2_with fail
      exact bodyPost_ret (v := .tuple #[.int .i64 0, .bool false]) (by simp [results, Tryd.results60, go_sem]) rfl ⟨rfl, HB0.out⟩
    · have hok : okNum t = t.data.toList.all digT := by
        unfold okNum
        rw [hhead, decide_eq_true h1, Bool.true_and]
        have : (decide (1 < t.size) && decide (some (t[0]'(by omega)) = some (48 : UInt8))) = false := by
          rw [Bool.and_eq_false_iff, decide_eq_false_iff_not, decide_eq_false_iff_not]
          by_cases a : 1 < t.size
          · exact Or.inr (fun e => h2 ⟨a, by injection e⟩)
          · exact Or.inl a
        rw [this]; rfl
      have hstop : ∀ i : Nat, ∀ h : i < t.size, digT t[i] = false → V1 = 0 ∧ V2 = false := fun i h hd => HBAD.out (by
        rw [hok, List.all_eq_false]
        exact ⟨t[i], List.getElem_mem (by rw [len_dataT]; exact h), by rw [hd]; simp⟩)
      have hend : t.data.toList.all digT = true → V1 = (valT t.data.toList : Int) ∧ V2 = true := fun h => HGOOD.out (by rw [hok]; exact h)
      have HSTOP := Lib.hid hstop; have HEND := Lib.hid hend
      have h48 : t.size = 1 ∨ (1 < t.size ∧ ∀ h, (((t[0]'h).toNat : Int) == 48) = false) := by
        by_cases a : 1 < t.size
        · refine Or.inr ⟨a, fun h => ?_⟩
          rw [beq_eq_false_iff_ne]
          intro e
          apply h2
          refine ⟨a, UInt8.toNat_inj.1 ?_⟩
          show (t[0]'h).toNat = 48
          omega
        · exact Or.inl (by omega)
      clear HBAD HGOOD hhead h2 hok hstop hend
      obtain ⟨ha, hb⟩ := h1
      have hit0 := World.iter_heap w t 0
      have HI0 := Lib.hid hit0
      have hBi : Below w.heap.size w (w.iter t 0) := bel_alloc HB0.out _
      have HBI := Lib.hid hBi
      clear hit0 hBi
      rcases h48 with h48 | ⟨h49, h48⟩
      all_goals
        go_enter Tryd.func60, Tryd.ntmps60
        go_wp2_with fail
        go_loopw [4] (fun v wr => ∃ pos : Nat, pos ≤ t.size ∧ v = .int .i64 (valT (t.data.toList.take pos) : Int) ∧ (t.data.toList.take pos).all digT = true ∧ wr.heap[w.heap.size]? = some (.stringIter t pos) ∧ Below w.heap.size w wr) (fun _ wr => t.size - wr.iterPos w.heap.size)
        case atStart => exact ⟨0, by omega, rfl, rfl, HI0.out, HBI.out⟩
        case round =>
          obtain ⟨pos, hp, rfl, hall, hit, hBr⟩ := hrel
          have hval := valT_lt _ hall
          rw [List.length_take, len_dataT] at hval
          have hv4 : valT (t.data.toList.take pos) < 10000 := by
            have : 10 ^ min pos t.size ≤ 10 ^ 4 := Nat.pow_le_pow_right (by omega) (by omega)
            omega
          by_cases hlt : pos < t.size
          · cases hd : digT t[pos] with
            | true =>
              have hd2 := of_decide_eq_true hd
              have hv3 : valT (t.data.toList.take pos) < 1000 := by
                have : 10 ^ min pos t.size ≤ 10 ^ 3 := Nat.pow_le_pow_right (by omega) (by omega)
                omega
              have hnx : ∀ ty, (Instr.next (.pointer (some ⟨w.heap.size, 0, none⟩)) true ty).run Tryd.prog wr = _ := fun ty => Lib.run_next_ascii_at wr w.heap.size t pos ty hit hlt (by omega)
              have hall2 : (t.data.toList.take (pos + 1)).all digT = true := by
                rw [take_data hlt, List.all_append, hall, List.all_cons, hd]; rfl
              have hv5 : (valT (t.data.toList.take (pos + 1)) : Int) = 10 * (valT (t.data.toList.take pos) : Int) + ((t[pos].toNat : Int) - 48) := by
                rw [take_data hlt, valT_snoc]; omega
              have hit2 := Lib.iterAt_heap wr w.heap.size t pos (pos + 1) hit
              have hB2 := Lib.below_iterAt hBr (k := w.heap.size) (Nat.le_refl _) t (pos + 1)
              have HA2 := Lib.hid hall2; have HV5 := Lib.hid hv5; have HI2 := Lib.hid hit2; have HB2 := Lib.hid hB2
              have HIT := Lib.hid hit
              clear hall2 hv5 hit2 hB2 hd hBr hit hall hval hv4
              have hc1 : (48 : Int) ≤ (t[pos].toNat : Int) := by omega
              have hc2 : (t[pos].toNat : Int) ≤ 57 := by omega
              clear hd2
              generalize valT (t.data.toList.take pos) = vv at *
              generalize t[pos].toNat = cc at *
              go_wp2_with fail
              go_roundw
              case rel => exact ⟨pos + 1, by omega, by rw [HV5.out], HA2.out, HI2.out, HB2.out⟩
              case measure =>
                simp only [World.iterPos, HI2.out, HIT.out]
                omega
            | false =>
              obtain ⟨rfl, rfl⟩ := HSTOP.out pos hlt hd
              have hr := rune_not hlt hd
              have hnx : ∀ ty, (Instr.next (.pointer (some ⟨w.heap.size, 0, none⟩)) true ty).run Tryd.prog wr = _ := fun ty => Lib.run_next_any_at wr w.heap.size t pos ty hit hlt
              have hB2 := Lib.below_iterAt hBr (k := w.heap.size) (Nat.le_refl _) t (pos + (Utf8.decode t pos).2)
              generalize wr.iterAt w.heap.size t (pos + (Utf8.decode t pos).2) = w2 at *
              generalize (Utf8.decode t pos).1 = rr at *
              have HB2 := Lib.hid hB2
              clear hB2 hd HSTOP HEND hit hBr hall hval hv4
              rcases hr with hr | hr
              · have hr2 : ((rr : Int) < 48) := by omega
                go_wp2_with fail
                exact bodyPost_ret (v := .tuple #[.int .i64 0, .bool false]) (by simp [results, Tryd.results60, go_sem]) rfl ⟨rfl, HB2.out⟩
              · have hr2 : ¬ ((rr : Int) < 48) := by omega
                have hr3 : ((57 : Int) < (rr : Int)) := by omega
                go_wp2_with fail
                exact bodyPost_ret (v := .tuple #[.int .i64 0, .bool false]) (by simp [results, Tryd.results60, go_sem]) rfl ⟨rfl, HB2.out⟩
          · obtain rfl : pos = t.size := by omega
            rw [List.take_of_length_le (by rw [len_dataT]; omega)] at hall ⊢
            obtain ⟨hv1, hv2⟩ := HEND.out hall
            have hnx : ∀ ty, (Instr.next (.pointer (some ⟨w.heap.size, 0, none⟩)) true ty).run Tryd.prog wr = _ := fun ty => Lib.run_next_end_at wr w.heap.size t t.size ty hit hlt
            have HBr := Lib.hid hBr
            clear HSTOP HEND hit hBr hall hval hv4
            generalize valT t.data.toList = vv at *
            subst hv1 hv2
            go_wp2_with fail
            exact bodyPost_ret (v := .tuple #[.int .i64 (vv : Int), .bool true]) (by simp [results, Tryd.results60, go_sem]) rfl ⟨rfl, HBr.out⟩
  · have hno : okNum t = false := by
      unfold okNum
      rw [decide_eq_false h1, Bool.false_and]
    obtain ⟨rfl, rfl⟩ := HBAD.out hno
    clear hno HBAD HGOOD
    rcases (by omega : t.size < 1 ∨ (1 ≤ t.size ∧ 4 < t.size)) with h | ⟨ha, hb⟩
    all_goals
      clear h1
      go_enter Tryd.func60, Tryd.ntmps60
      go_wp2_with fail
      exact bodyPost_ret (v := .tuple #[.int .i64 0, .bool false]) (by simp [results, Tryd.results60, go_sem]) rfl ⟨rfl, HB0.out⟩
end Go.Proofs.YtbgnaohjcfbaaaaDoor
