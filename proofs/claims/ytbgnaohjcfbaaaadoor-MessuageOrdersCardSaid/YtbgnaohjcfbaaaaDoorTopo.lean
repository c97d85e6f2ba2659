/- Package topo (layer 3): counts, the processors' nodes. -/
import Derived.Test.YtbgnaohjcfbaaaaDoorInts
import Derived.Test.YtbgnaohjcfbaaaaDoorGridI3
import Derived.Test.YtbgnaohjcfbaaaaDoorTurnPure
import Derived.Laws.BitsAllLaws
namespace Go.Proofs.YtbgnaohjcfbaaaaDoor
open Go.RowKit
set_option linter.unusedVariables false
set_option linter.unusedSimpArgs false
attribute [local go_sem] World.cell?_alloc_lt

structure RowV where
  a : Option Addr
  c : Nat
  zs : List Int
/-- A slice of rows of ints. -/
structure InRs (w : World) (A : Option Addr) (n : Nat) (D : List RowV) : Prop where
  ln : D.length = n
  at_ : 0 < n → ∃ b off, A = some ⟨b, off, none⟩ ∧ b < w.heap.size ∧ ∀ j r, D[j]? = some r → w.cell? ⟨b, off + j, none⟩ = some (.slice r.a r.zs.length r.c) ∧ InI w r.a r.zs.length r.zs ∧ r.zs.length ≤ 9223372036854775807
theorem InRs.below {w w' : World} {A : Option Addr} {n : Nat} {D : List RowV} (h : InRs w A n D) (k : Below w.heap.size w w') : InRs w' A n D :=
  ⟨h.ln, fun hn => by
    obtain ⟨b, off, ha, hb, hc⟩ := h.at_ hn
    exact ⟨b, off, ha, Nat.lt_of_lt_of_le hb k.size, fun j r hj => ⟨(k.cell (p := ⟨b, off + j, none⟩) hb).trans (hc j r hj).1, (hc j r hj).2.1.below k, (hc j r hj).2.2⟩⟩⟩
structure TopoV where
  N : Int
  F : Int
  ca : Option Addr
  cc : Nat
  cs : List Int
  da : Option Addr
  dc : Nat
  ds : List RowV
def TopoV.val (t : TopoV) : Value := .agg #[.int .i64 t.N, .int .i64 t.F, .slice t.ca t.cs.length t.cc, .slice t.da t.ds.length t.dc]
structure InTopo (w : World) (t : TopoV) : Prop where
  c : InI w t.ca t.cs.length t.cs
  d : InRs w t.da t.ds.length t.ds
  c63 : t.cs.length ≤ 9223372036854775807
  d63 : t.ds.length ≤ 9223372036854775807
theorem InTopo.below {w w' : World} {t : TopoV} (h : InTopo w t) (k : Below w.heap.size w w') : InTopo w' t := ⟨h.c.below k, h.d.below k, h.c63, h.d63⟩
def pows : List Int := [1, 2, 4, 8, 16, 32, 64, 128, 256, 512, 1024]
theorem pow_bits (F : Int) (h1 : 1 ≤ F) (h2 : F ≤ 1024) : (bits .and .i64 F (F - 1) == 0) = decide (F ∈ pows) := by
  obtain ⟨k, rfl⟩ := Int.eq_ofNat_of_zero_le (show 0 ≤ F by omega)
  have key : ∀ k : Nat, k < 1025 → 1 ≤ k → (bits .and .i64 (k : Int) ((k : Int) - 1) == 0) = decide ((k : Int) ∈ pows) := by decide +kernel
  exact key k (by omega) (by omega)
theorem pow_bd {F : Int} (h : F ∈ pows) : 1 ≤ F ∧ F ≤ 1024 := by
  simp [pows] at h
  omega
/-- Are the counts as they must be? -/
def cntB (t : TopoV) : Bool := decide (t.F ∈ pows) && (decide (1 ≤ t.N ∧ t.N ≤ 8) && decide (1 ≤ t.cs.length ∧ t.cs.length ≤ 16))
set_option maxRecDepth 100000 in
theorem topo_counts (t : TopoV) (w : World) (h63 : t.cs.length ≤ 9223372036854775807) : Calls Tryd.prog 54 #[t.val] w fun e w' => e = .returned (.bool (cntB t)) ∧ Below w.heap.size w w' := by
  have hb := Blk.new w 47 [.int .i64 t.N, .int .i64 t.F, .slice t.ca t.cs.length t.cc, .slice t.da t.ds.length t.dc]
  unfold cntB TopoV.val
  generalize t.N = N at *
  generalize t.F = F at *
  generalize t.cs.length = n at *
  generalize t.ds.length = m at *
  have hba : Below w.heap.size w (w.alloc (.cells #[.int .i64 N, .int .i64 F, .slice t.ca n t.cc, .slice t.da m t.dc] 47)) := bel_alloc (Below.refl _ _) _
  have HBA := Lib.hid hba
  clear hb hba
  by_cases h : 1 ≤ F ∧ F ≤ 1024
  · have hp := pow_bits F h.1 h.2
    cases hd : decide (F ∈ pows) with
    | false =>
      rw [hd] at hp
      obtain ⟨h1, h2⟩ := h
      have HD := Lib.hid hd; clear hd
      go_enter Tryd.func54, Tryd.ntmps54
      go_wp2_with fail
      go_ret
      exact ⟨rfl, HBA.out⟩
    | true =>
      rw [hd] at hp
      obtain ⟨h1, h2⟩ := h
      have HD := Lib.hid hd; clear hd
      go_enter Tryd.func54, Tryd.ntmps54
      go_wp2_with fail
      all_goals go_ret
      all_goals refine ⟨congrArg (fun b => Ending.returned (Value.bool b)) ?_, HBA.out⟩
      all_goals
        rw [Bool.eq_iff_iff]
        simp
        try omega
  · have hd : decide (F ∈ pows) = false := decide_eq_false fun hm => h (pow_bd hm)
    rw [hd, Bool.false_and]
    rcases Classical.em (1 ≤ F) with h1 | h1
    · have h2 : ¬ F ≤ 1024 := fun h2 => h ⟨h1, h2⟩
      clear h hd
      go_enter Tryd.func54, Tryd.ntmps54
      go_wp2_with fail
      go_ret
      exact ⟨rfl, HBA.out⟩
    · clear h hd
      go_enter Tryd.func54, Tryd.ntmps54
      go_wp2_with fail
      go_ret
      exact ⟨rfl, HBA.out⟩
end Go.Proofs.YtbgnaohjcfbaaaaDoor
