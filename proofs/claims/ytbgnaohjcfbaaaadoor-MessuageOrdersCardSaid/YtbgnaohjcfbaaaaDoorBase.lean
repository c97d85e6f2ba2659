/- Small words on worlds that the walks of this seat share. -/
import Derived.Test.YtbgnaohjcfbaaaaDoorRows
import Derived.WalkKit
import Derived.WalkLawsBesides
import Derived.WalkSpells
import Derived.Deep.QuietTactic
import Derived.BigQuiet
namespace Go.Proofs.YtbgnaohjcfbaaaaDoor
open Go.RowKit

theorem bel_alloc {w w' : World} (h : Below w.heap.size w w') (o : Obj) : Below w.heap.size w (w'.alloc o) := h.alloc h.size o
theorem bel_drew {w w' : World} (h : Below w.heap.size w w') : Below w.heap.size w w'.drew := h.drew
theorem bel_drewN {w w' : World} (h : Below w.heap.size w w') (n : Nat) : Below w.heap.size w (w'.drewN n) := ⟨h.os, h.tape, h.output, h.size, h.block⟩
theorem bel_set {w w' : World} (h : Below w.heap.size w w') {p : Addr} (hp : w.heap.size ≤ p.block) (u : Value) : Below w.heap.size w (w'.setCell p u) := h.setCell hp u
theorem bel_trans {w w1 w2 : World} (h : Below w.heap.size w w1) (k : Below w1.heap.size w1 w2) : Below w.heap.size w w2 := h.trans (k.mono h.size)
theorem bel_quiet {w w1 : World} (h : ∃ n, w1 = w.drewN n) : Below w.heap.size w w1 := by
  obtain ⟨n, rfl⟩ := h
  exact bel_drewN (Below.refl _ _) n

theorem ret_bool {b : Bool} (h : b = true) : Ending.returned (.bool b) = .returned (.bool true) := by rw [h]
theorem ret_int {k : IntKind} {a b : Int} (h : a = b) : Ending.returned (.int k a) = .returned (.int k b) := by rw [h]

theorem u64_bd (n : Int) : 0 ≤ IntKind.u64.wrap n ∧ IntKind.u64.wrap n < 18446744073709551616 := by
  simp only [IntKind.wrap]
  simp [IntKind.signed, IntKind.bits]
  constructor <;> omega
theorem wrap64_small {n : Int} (h0 : -9223372036854775808 ≤ n) (h1 : n ≤ 9223372036854775807) : wrap64 n = n := by
  unfold wrap64
  omega
theorem umod_bd (n m : Int) (h : 0 < m) (hm : m ≤ 4611686018427387904) : 0 ≤ wrap64 ((IntKind.u64.wrap n).tmod m) ∧ wrap64 ((IntKind.u64.wrap n).tmod m) < m := by
  obtain ⟨h0, h1⟩ := u64_bd n
  have h2 := Int.emod_nonneg (IntKind.u64.wrap n) (show m ≠ 0 by omega)
  have h3 := Int.emod_lt_of_pos (IntKind.u64.wrap n) h
  rw [Int.tmod_eq_emod_of_nonneg h0]
  have : wrap64 (IntKind.u64.wrap n % m) = IntKind.u64.wrap n % m := by
    generalize IntKind.u64.wrap n % m = r at *
    exact wrap64_small (by omega) (by omega)
  rw [this]
  exact ⟨h2, h3⟩
theorem umod1_bd (n m : Int) (h : 0 < m) (hm : m ≤ 4611686018427387904) : 1 ≤ wrap64 (1 + wrap64 ((IntKind.u64.wrap n).tmod m)) ∧ wrap64 (1 + wrap64 ((IntKind.u64.wrap n).tmod m)) ≤ m := by
  obtain ⟨h0, h1⟩ := umod_bd n m h hm
  rw [wrap64_small (by omega) (by omega)]
  omega

/-- A slice of whole numbers that came in. -/
def IsRow (k : IntKind) (w : World) (a : Option Addr) (len cap : Nat) (zs : List Int) : Prop :=
  (a = none ∧ len = 0 ∧ cap = 0 ∧ zs = []) ∨
  ∃ x, a = some x ∧ len ≤ cap ∧ cap ≤ maxLen ∧ zs.length = cap ∧ (∀ i, i < zs.length → w.cell? (x.add i) = some (.int k (zs.getD i 0))) ∧ ∀ n ∈ zs, (Lit.int k n).wf = true
end Go.Proofs.YtbgnaohjcfbaaaaDoor
