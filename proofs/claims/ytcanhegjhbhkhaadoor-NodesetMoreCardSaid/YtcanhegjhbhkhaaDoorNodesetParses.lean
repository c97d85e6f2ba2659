/- The law NodesetParses. -/
import Derived.Test.YtcanhegjhbhkhaaDoorRefParse
namespace Go.Proofs.YtcanhegjhbhkhaaDoor
open Go.RowKit Go.Shelf
set_option linter.unusedVariables false
set_option linter.unusedSimpArgs false
attribute [local go_sem] World.cell?_alloc_lt

theorem parse_any (text : ByteArray) (hs : text.size ≤ 4611686018427387904) (w : World) : Calls Tryd.prog 15 #[.string text] w fun e w' => e = .returned (parseV (parseO text)) ∧ Below w.heap.size w w' := by
  unfold parseO
  by_cases h : text = noneB
  · rw [if_pos h, h]
    exact parse_none w
  · rw [if_neg h]
    exact parse_some text hs h w
theorem rparse_any (text : ByteArray) (hs : text.size ≤ 1000) (w : World) : Calls Tryd.prog 24 #[.string text] w fun e w' => e = .returned (rparseV (parseO text)) ∧ Below w.heap.size w w' := by
  unfold parseO
  by_cases h : text = noneB
  · rw [if_pos h, h]
    exact (rparse_none w).mono fun e w' ⟨he, hw⟩ => ⟨he, by rw [← hw]; exact Below.refl _ _⟩
  · rw [if_neg h]
    exact rparse_some text hs h w
theorem min_cut (s : ByteArray) (m : Nat) : ∃ k : Nat, k ≤ s.size ∧ k ≤ m ∧ min (s.size : Int) (m : Int) = (k : Int) ∧ (s.extract 0 k).size ≤ m := by
  by_cases h : m < s.size
  · exact ⟨m, by omega, Nat.le_refl _, by omega, by rw [ByteArray.size_extract]; omega⟩
  · exact ⟨s.size, by omega, by omega, by omega, by rw [ByteArray.size_extract]; omega⟩
set_option maxRecDepth 100000 in
set_option maxHeartbeats 4000000 in
theorem nodesetParses_walk (s : ByteArray) (hs : s.size ≤ 140737488351232) (w0 : World) (_h : True) : Calls Tryd.prog 4 #[.string s] w0 fun e w' => e = .returned (.bool true) ∧ Below w0.heap.size w0 w' := by
  obtain ⟨k, hk, hk60, hmin0, hsz⟩ := min_cut s 60
  have hmin : min (s.size : Int) 60 = (k : Int) := hmin0
  clear hmin0
  have hcut := fun w => cut_str_hi s k hk w
  generalize s.extract 0 k = x at *
  have hpa := fun w => parse_any x (by omega) w
  have hrp := fun w => rparse_any x (by omega) w
  cases ho : parseO x with
  | none =>
    rw [ho] at hpa hrp
    have HPA := Lib.hid hpa; have HRP := Lib.hid hrp
    clear hpa hrp ho
    simp only [parseV, rparseV] at HPA HRP
    go_enter Tryd.func4, Tryd.ntmps4
    go_wp2_with fail
    refine (HPA.out _).mono ?_; rintro e w1 ⟨rfl, hB1⟩
    go_wp2_with fail
    refine (HRP.out _).mono ?_; rintro e w2 ⟨rfl, hB2⟩
    go_wp2_with fail
    refine (sets_any _).mono ?_; rintro e w3 ⟨rfl, hB3⟩
    go_wp2_with fail
    go_ret
    exact ⟨rfl, bel_trans (bel_trans hB1 hB2) hB3⟩
  | some st =>
    rw [ho] at hpa hrp
    have HPA := Lib.hid hpa; have HRP := Lib.hid hrp
    clear hpa hrp ho
    simp only [parseV, rparseV] at HPA HRP
    go_enter Tryd.func4, Tryd.ntmps4
    go_wp2_with fail
    refine (HPA.out _).mono ?_; rintro e w1 ⟨rfl, hB1⟩
    go_wp2_with fail
    refine (HRP.out _).mono ?_; rintro e w2 ⟨rfl, hB2⟩
    go_wp2_with fail
    refine (sets_any _).mono ?_; rintro e w3 ⟨rfl, hB3⟩
    go_wp2_with fail
    go_ret
    exact ⟨rfl, bel_trans (bel_trans hB1 hB2) hB3⟩
end Go.Proofs.YtcanhegjhbhkhaaDoor
