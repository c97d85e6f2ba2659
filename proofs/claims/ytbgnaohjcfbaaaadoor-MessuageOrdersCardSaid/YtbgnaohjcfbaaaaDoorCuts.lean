/- Cuts of rows of ints that the call owns; one element taken out of such a row. -/
import Derived.Test.YtbgnaohjcfbaaaaDoorReads
import Derived.Test.YtbgnaohjcfbaaaaDoorOwn
import Derived.Deep.RegionHeld3
namespace Go.Proofs.YtbgnaohjcfbaaaaDoor
open Go.RowKit
set_option linter.unusedVariables false
set_option linter.unusedSimpArgs false
attribute [local go_sem] World.cell?_alloc_lt

theorem i64_sm {n : Int} (h0 : -9223372036854775808 ≤ n) (h1 : n ≤ 9223372036854775807) : IntKind.i64.wrap n = n := by
  simp only [IntKind.wrap]
  simp [IntKind.signed, IntKind.bits]
  omega
/-- The address of s[k:]. -/
def cutA (g cp k : Nat) : Option Addr := if cp = k then some ⟨g, 0, none⟩ else some ⟨g, k, none⟩
theorem cut_lo_int (g m cp k : Nat) (K : Int) (hK : K = (k : Int)) (hk : k ≤ m) (hm : m ≤ cp) (w : World) : (Instr.sliceAt 23 (.slice (some ⟨g, 0, none⟩) m cp) (some (.int .i64 K)) none none).run Tryd.prog w = .ok (.slice (cutA g cp k) (m - k) (cp - k)) w := by
  subst hK
  have h0 : (0 : Int) ≤ (k : Int) := by omega
  have h1 : (k : Int) ≤ (m : Int) := by omega
  have h2 : (m : Int) ≤ (cp : Int) := by omega
  unfold cutA
  by_cases e : cp = k
  · subst e
    have : m = cp := by omega
    subst this
    simp [go_sem]
  · rw [if_neg e]
    have h3 : ¬ (cp = k) := e
    simp [go_sem, h0, h1, h2, hk, hm, h3, Addr.add]
    omega
theorem cut_hi_int (g m cp n : Nat) (N : Int) (hN : N = (n : Int)) (h : n ≤ cp) (w : World) : (Instr.sliceAt 23 (.slice (some ⟨g, 0, none⟩) m cp) none (some (.int .i64 N)) none).run Tryd.prog w = .ok (.slice (some ⟨g, 0, none⟩) n cp) w := by
  subst hN
  have h2 : (n : Int) ≤ (cp : Int) := by omega
  simp [go_sem, h, h2, Addr.add]
theorem idx_own (g m cp i : Nat) (hi : i < m) (w : World) : (Instr.indexAt 23 (.slice (some ⟨g, 0, none⟩) m cp) (.int .i64 (i : Int))).run Tryd.prog w = .ok (.pointer (some ⟨g, i, none⟩)) w := by
  simp [go_sem, hi]
theorem own_made0 (w : World) (base : Nat) (e : TypeId) (s : Nat) (hb : base ≤ w.heap.size) : (w.alloc (.cells #[] e)).ownsRow base e s (.slice (some ⟨w.heap.size, 0, none⟩) 0 0) 0 [] :=
  ⟨by simp, Or.inr ⟨w.heap.size, 0, #[], rfl, hb, heap_alloc_new w _, by omega, by simp, by simp, by simp⟩⟩
section
variable {w : World} {base g m cp k : Nat} {e : TypeId} {xs : List Value}
theorem reads_hi (h : w.ownsRow base e 1 (.slice (some ⟨g, 0, none⟩) m cp) m xs) (hk : k ≤ m) : Reads w w.heap.size 1 (some ⟨g, 0, none⟩) k (xs.take k) := by
  have hr := Reads.of_own h
  refine ⟨by rw [List.length_take, hr.1]; omega, fun hk0 => ?_⟩
  obtain ⟨ad, ha, hb, hc⟩ := hr.2 (by omega)
  refine ⟨ad, ha, hb, fun j u hj => ?_⟩
  rw [List.getElem?_take] at hj
  split at hj
  · exact hc j u hj
  · cases hj
theorem reads_lo (h : w.ownsRow base e 1 (.slice (some ⟨g, 0, none⟩) m cp) m xs) (hk : k ≤ m) (hm : m ≤ cp) : Reads w w.heap.size 1 (cutA g cp k) (m - k) (xs.drop k) := by
  have hr := (Reads.of_own h).cut hk hm
  rw [Nat.mul_one] at hr
  have ea : (if cp = k then (some ⟨g, 0, none⟩ : Option Addr) else (some (⟨g, 0, none⟩ : Addr)).map (·.add k)) = cutA g cp k := by
    unfold cutA
    split
    · rfl
    · simp [WideShapes.add_plain]
  rw [ea] at hr
  exact hr
theorem own_cap (h : w.ownsRow base e 1 (.slice (some ⟨g, 0, none⟩) m cp) m xs) : m ≤ cp := by
  rcases h.2 with ⟨h0, _⟩ | ⟨g', cap, cur, hv, _, _, hnc, _⟩
  · cases h0
  · injection hv with _ _ hc
    subst hc
    exact hnc
theorem own_slice {s n : Nat} {v : Value} (h : w.ownsRow base e s v n xs) : ∃ A c, v = .slice A n c := by
  rcases h.2 with ⟨h0, h1⟩ | ⟨g', cap, cur, hv, _⟩
  · exact ⟨none, 0, by rw [h0, h1]⟩
  · exact ⟨_, _, hv⟩
end
end Go.Proofs.YtbgnaohjcfbaaaaDoor
