/- zone.Order's comparison: cmp.Compare, cmp.Or, the function value. -/
import Derived.Test.YtbgnaohjcfbaaaaDoorTopo5
import Derived.Test.YtbgnaohjcfbaaaaDoorAfter
import Derived.Test.YtbgnaohjcfbaaaaDoorOwnRows
import Derived.Test.YtbgnaohjcfbaaaaDoorCuts
import Derived.Deep.RegionHeld3
import Derived.Deep.DeepCutAuto
import Derived.Deep.CutBlock
import Derived.Outline
namespace Go.Proofs.YtbgnaohjcfbaaaaDoor
open Go.RowKit
set_option linter.unusedVariables false
set_option linter.unusedSimpArgs false
attribute [local go_sem] World.cell?_alloc_lt

def cmpI (a b : Int) : Int := if a < b then -1 else if b < a then 1 else 0
def orI (x y : Int) : Int := if x ≠ 0 then x else y
/-- The comparison by the distances, then by the nodes. -/
def cmpF (F : List Int) (a b : Int) : Int := orI (cmpI (F.getD a.toNat 0) (F.getD b.toNat 0)) (cmpI a b)
theorem nan_any (a : Int) (w : World) : Calls Tryd.prog 63 #[.int .i64 a] w fun e w' => e = .returned (.bool false) ∧ w = w' := by
  go_enter Tryd.func63, Tryd.ntmps63
  go_wp2_with fail
  go_ret
  exact ⟨rfl, rfl⟩
set_option maxRecDepth 100000 in
theorem compare_any (a b : Int) (w : World) : Calls Tryd.prog 43 #[.int .i64 a, .int .i64 b] w fun e w' => e = .returned (.int .i64 (cmpI a b)) ∧ w = w' := by
  have h1 := fun w => nan_any a w
  have h2 := fun w => nan_any b w
  have H1 := Lib.hid h1; have H2 := Lib.hid h2
  clear h1 h2
  rcases (by omega : a < b ∨ (¬ a < b ∧ b < a) ∨ (¬ a < b ∧ ¬ b < a)) with h | ⟨h, h'⟩ | ⟨h, h'⟩
  · have e : cmpI a b = -1 := by unfold cmpI; rw [if_pos h]
    rw [e]
    clear e
    go_enter Tryd.func43, Tryd.ntmps43
    go_wp2_with fail
    refine (H1.out _).mono ?_; rintro e w1 ⟨rfl, rfl⟩
    go_wp2_with fail
    refine (H2.out _).mono ?_; rintro e w1 ⟨rfl, rfl⟩
    go_wp2_with fail
    go_ret
    exact ⟨rfl, rfl⟩
  · have e : cmpI a b = 1 := by unfold cmpI; rw [if_neg h, if_pos h']
    rw [e]
    clear e
    go_enter Tryd.func43, Tryd.ntmps43
    go_wp2_with fail
    refine (H1.out _).mono ?_; rintro e w1 ⟨rfl, rfl⟩
    go_wp2_with fail
    refine (H2.out _).mono ?_; rintro e w1 ⟨rfl, rfl⟩
    go_wp2_with fail
    go_ret
    exact ⟨rfl, rfl⟩
  · have e : cmpI a b = 0 := by unfold cmpI; rw [if_neg h, if_neg h']
    rw [e]
    clear e
    go_enter Tryd.func43, Tryd.ntmps43
    go_wp2_with fail
    refine (H1.out _).mono ?_; rintro e w1 ⟨rfl, rfl⟩
    go_wp2_with fail
    refine (H2.out _).mono ?_; rintro e w1 ⟨rfl, rfl⟩
    go_wp2_with fail
    go_ret
    exact ⟨rfl, rfl⟩
set_option maxRecDepth 100000 in
theorem or_any (g : Nat) (x y : Int) (w : World) (hx : w.cell? ⟨g, 0, none⟩ = some (.int .i64 x)) (hy : w.cell? ⟨g, 1, none⟩ = some (.int .i64 y)) : Calls Tryd.prog 42 #[.slice (some ⟨g, 0, none⟩) 2 2] w fun e w' => e = .returned (.int .i64 (orI x y)) ∧ w = w' := by
  unfold orI
  have i0 := fun w => idxI g 0 2 2 0 (by omega) w
  have i1 := fun w => idxI g 0 2 2 1 (by omega) w
  by_cases h0 : x = 0
  · subst h0
    rw [if_neg (by simp)]
    by_cases h1 : y = 0
    · subst h1
      go_enter Tryd.func42, Tryd.ntmps42
      go_wp2_with fail
      go_loopw [8] (fun v wr => ∃ i : Nat, i ≤ 2 ∧ v = .int .i64 (i : Int) ∧ wr = w) (fun v _ => 2 - (intOf v).toNat)
      case atStart => exact ⟨0, by omega, rfl, rfl⟩
      case round =>
        obtain ⟨i, hi, rfl, rfl⟩ := hrel
        rcases (by omega : i = 0 ∨ i = 1 ∨ i = 2) with rfl | rfl | rfl
        · go_wp2_with fail
          go_roundw
          case rel => exact ⟨1, by omega, by go_num, trivial⟩
          case measure => simp [intOf]
        · go_wp2_with fail
          go_roundw
          case rel => exact ⟨2, by omega, by go_num, trivial⟩
          case measure => simp [intOf]
        · go_wp2_with fail
          go_ret
          exact ⟨rfl, rfl⟩
    · go_enter Tryd.func42, Tryd.ntmps42
      go_wp2_with fail
      go_loopw [8] (fun v wr => ∃ i : Nat, i ≤ 1 ∧ v = .int .i64 (i : Int) ∧ wr = w) (fun v _ => 2 - (intOf v).toNat)
      case atStart => exact ⟨0, by omega, rfl, rfl⟩
      case round =>
        obtain ⟨i, hi, rfl, rfl⟩ := hrel
        rcases (by omega : i = 0 ∨ i = 1) with rfl | rfl
        · go_wp2_with fail
          go_roundw
          case rel => exact ⟨1, by omega, by go_num, trivial⟩
          case measure => simp [intOf]
        · go_wp2_with fail
          go_ret
          exact ⟨rfl, rfl⟩
  · rw [if_pos h0]
    go_enter Tryd.func42, Tryd.ntmps42
    go_wp2_with fail
    go_loopw [8] (fun v wr => v = .int .i64 0 ∧ wr = w) (fun v _ => 2 - (intOf v).toNat)
    case atStart => exact ⟨rfl, rfl⟩
    case round =>
      obtain ⟨rfl, rfl⟩ := hrel
      go_wp2_with fail
      go_ret
      exact ⟨rfl, rfl⟩
/-- The distances that the function value reads. -/
structure FarAt (w : World) (p : Nat) (F : List Int) : Prop where
  ex : ∃ A c, w.cell? ⟨p, 0, none⟩ = some (.slice A F.length c) ∧ InI w A F.length F
theorem FarAt.below {w w' : World} {p : Nat} {F : List Int} (h : FarAt w p F) (k : Below w.heap.size w w') : FarAt w' p F := by
  obtain ⟨A, c, h1, h2⟩ := h.ex
  exact ⟨A, c, (k.cell (p := ⟨p, 0, none⟩) (World.block_lt_of_cell? w _ h1)).trans h1, h2.below k⟩
theorem FarAt.ch {w w' : World} {p g : Nat} {F : List Int} (h : FarAt w p F) (k : Ch [g] w w') (hp : p ≠ g) (hF : ∀ A c b off, w.cell? ⟨p, 0, none⟩ = some (.slice A F.length c) → A = some ⟨b, off, none⟩ → b ≠ g) : FarAt w' p F := by
  obtain ⟨A, c, h1, h2⟩ := h.ex
  exact ⟨A, c, ch_keep k (by simpa using hp) h1, h2.ch k (fun b off hA => by simpa using hF A c b off h1 hA)⟩
set_option maxRecDepth 100000 in
theorem order1_any (F : List Int) (p a b : Nat) (w : World) (hF : FarAt w p F) (ha : a < F.length) (hb : b < F.length) : Calls Tryd.prog 41 #[.int .i64 (a : Int), .int .i64 (b : Int), .pointer (some ⟨p, 0, none⟩)] w fun e w' => e = .returned (.int .i64 (cmpF F (a : Int) (b : Int))) ∧ Below w.heap.size w w' := by
  obtain ⟨A, c, hp, hI⟩ := hF.ex
  obtain ⟨g, off, rfl, hg, hca⟩ := hI.get ha
  obtain ⟨g', off', hA, _, hcb⟩ := hI.get hb
  injection hA with hA
  injection hA with hA hA2
  subst hA hA2
  have ia := fun w => idxI g off F.length c a ha w
  have ib := fun w => idxI g off F.length c b hb w
  have e0 : cmpF F (a : Int) (b : Int) = orI (cmpI (F.getD a 0) (F.getD b 0)) (cmpI (a : Int) (b : Int)) := by
    unfold cmpF
    rw [Int.toNat_natCast, Int.toNat_natCast]
  rw [e0]
  clear hF hI
  generalize F.getD a 0 = fa at *
  generalize F.getD b 0 = fb at *
  go_enter Tryd.func41, Tryd.ntmps41
  go_upto_region 1 with fail
  go_region_held3 (fun w' => w'.cell? ⟨p, 0, none⟩ = some (.slice (some ⟨g, off, none⟩) F.length c) ∧ w'.cell? ⟨g, off + a, none⟩ = some (.int .i64 fa) ∧ w'.cell? ⟨g, off + b, none⟩ = some (.int .i64 fb)) (go_keep)
    (first
      | (go_at_call 43; refine (compare_any _ _ _).mono ?_; rintro e wS ⟨rfl, rfl⟩)
      | (go_at_call 42; refine (or_any _ _ _ _ (by first | exact (Blk.new _ _ _).at_ (i := 0) rfl | exact (Blk.new _ _ _).drew.at_ (i := 0) rfl) (by first | exact (Blk.new _ _ _).at_ (i := 1) rfl | exact (Blk.new _ _ _).drew.at_ (i := 1) rfl)).mono ?_; rintro e wS ⟨rfl, rfl⟩))
  all_goals
    go_wp2_with fail
    go_ret
    refine ⟨rfl, ?_⟩
    repeat (first | exact Below.refl _ _ | refine bel_drew ?_ | refine bel_alloc ?_ _)
end Go.Proofs.YtbgnaohjcfbaaaaDoor
