/- The law NodesetParses. -/
import Derived.Test.YtdpcnbbaipdmjaaDoorRefParse
namespace Go.Proofs.YtdpcnbbaipdmjaaDoor
open Go.RowKit Go.Shelf
set_option linter.unusedVariables false
set_option linter.unusedSimpArgs false
attribute [local go_sem] World.cell?_alloc_lt

theorem parse_any (text : ByteArray) (hs : text.size ≤ 4611686018427387904) (w : World) : Calls Tryd.prog 38 #[.string text] w fun e w' => e = .returned (parseV (parseO text)) ∧ Below w.heap.size w w' := by
  unfold parseO
  by_cases h : text = noneB
  · rw [if_pos h, h]
    exact parse_none w
  · rw [if_neg h]
    exact parse_some text hs h w
theorem rparse_any (text : ByteArray) (hs : text.size ≤ 1000) (w : World) : Calls Tryd.prog 23 #[.string text] w fun e w' => e = .returned (rparseV (parseO text)) ∧ Below w.heap.size w w' := by
  unfold parseO
  by_cases h : text = noneB
  · rw [if_pos h, h]
    exact (rparse_none w).mono fun e w' ⟨he, hw⟩ => ⟨he, by rw [← hw]; exact Below.refl _ _⟩
  · rw [if_neg h]
    exact rparse_some text hs h w
theorem min_cut (s : ByteArray) (m : Nat) : ∃ k : Nat, k ≤ s.size ∧ k ≤ m ∧ min (s.size : Int) (m : Int) = (k : Int) ∧ (s.extract 0 k).size ≤ m := by
  by_cases h : m < s.size
  · exact ⟨m, by omega, Nat.le_refl _, by omega, by rw [ByteArray.size_extract]; omega⟩
  · exact ⟨s.size, by omega, by omega, by omega, by rw [ByteArray.size_extract]; omega⟩
end Go.Proofs.YtdpcnbbaipdmjaaDoor
