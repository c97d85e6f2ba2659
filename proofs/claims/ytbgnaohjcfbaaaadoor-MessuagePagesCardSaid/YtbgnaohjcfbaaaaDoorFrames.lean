/- Package frames (layer 5): contracts. -/
import Derived.Test.YtbgnaohjcfbaaaaDoorClone
namespace Go.Proofs.YtbgnaohjcfbaaaaDoor
open Go.RowKit
set_option linter.unusedVariables false
set_option linter.unusedSimpArgs false
attribute [local go_sem] World.cell?_alloc_lt

/-- A store of nf frames, so many a node: its bytes. -/
structure StoreAt (w : World) (g b : Nat) (each nf : Nat) (bs : List Int) : Prop where
  st : Blk w g 61 [.int .i64 each, .slice (some ⟨b, 0, none⟩) nf nf]
  dt : Blk w b 103 (bs.map (Value.int .u8))
  ln : bs.length = nf * 64
  mx : nf ≤ 8192
  e1 : 1 ≤ each
  e2 : each ≤ 1024
section
variable {w w' : World} {g b each nf : Nat} {bs : List Int}
theorem StoreAt.ch {S : List Nat} (h : StoreAt w g b each nf bs) (k : Ch S w w') (h1 : g ∉ S) (h2 : b ∉ S) : StoreAt w' g b each nf bs := ⟨h.st.ch k h1, h.dt.ch k h2, h.ln, h.mx, h.e1, h.e2⟩
theorem StoreAt.below (h : StoreAt w g b each nf bs) (k : Below w.heap.size w w') : StoreAt w' g b each nf bs := ⟨h.st.below k, h.dt.below k, h.ln, h.mx, h.e1, h.e2⟩
end
theorem idx_frame (b nf i : Nat) (hi : i < nf) (w : World) : (Instr.indexAt 59 (.slice (some ⟨b, 0, none⟩) nf nf) (.int .i64 (i : Int))).run Tryd.prog w = .ok (.pointer (some ⟨b, i * 64, none⟩)) w := by
  simp [go_sem, hi]
theorem fr_frame (g b each nf : Nat) (bs : List Int) (n : Nat) (w : World) (hG : StoreAt w g b each nf bs) (hn : n < nf) :
    Calls Tryd.prog 52 #[.pointer (some ⟨g, 0, none⟩), .int .i64 n] w fun e w' => e = .returned (.tuple #[.pointer (some ⟨b, n * 64, none⟩), .int .i64 0]) ∧ w = w' := by
  have k1 := hG.st.at_ (i := 1) rfl
  have hib := fun w => idx_frame b nf n hn w
  go_enter Tryd.func52, Tryd.ntmps52
  go_wp2_with fail
  go_ret2
  exact ⟨rfl, rfl⟩
theorem fr_frame_no (g b each nf : Nat) (bs : List Int) (n : Int) (w : World) (hG : StoreAt w g b each nf bs) (hn : n < 0 ∨ (nf : Int) ≤ n) :
    Calls Tryd.prog 52 #[.pointer (some ⟨g, 0, none⟩), .int .i64 n] w fun e w' => e = .returned (.tuple #[.pointer none, .int .i64 1]) ∧ w = w' := by
  have k1 := hG.st.at_ (i := 1) rfl
  rcases (by omega : n < 0 ∨ (0 ≤ n ∧ (nf : Int) ≤ n)) with h | ⟨h, h2⟩
  all_goals
    go_enter Tryd.func52, Tryd.ntmps52
    go_wp2_with fail
    go_ret2
    exact ⟨rfl, rfl⟩
/-- Where part (at, m) of a frame at off begins. -/
def partAt (o at_ : Nat) : Nat := if at_ = 64 then o else o + at_
theorem cut_frame (b o at_ m : Nat) (h : at_ + m ≤ 64) (w : World) : (Instr.sliceAt 103 (.pointer (some ⟨b, o, none⟩)) (some (.int .i64 (at_ : Int))) (some (.int .i64 ((at_ : Int) + (m : Int)))) none).run Tryd.prog w = .ok (.slice (some ⟨b, partAt o at_, none⟩) m (64 - at_)) w := by
  have hal : Tryd.prog.arrayLen 103 = 64 := by kernel_rfl
  have hsz : (sizeOf (Tryd.prog.elem 103)).run Tryd.prog w = .ok 1 w := by kernel_rfl
  have hr := run_sliceAt_array_lh (P := Tryd.prog) w 103 ⟨b, o, none⟩ (by kernel_rfl) .i64 .i64 (at_ : Int) ((at_ : Int) + (m : Int)) (by omega) (by omega) (by rw [hal]; omega)
  rw [hr, hsz, hal, Result.andThen_ok]
  unfold slicedAt partAt
  rw [WideShapes.add_plain, show ((at_ : Int) + (m : Int)).toNat = at_ + m from by omega, Int.toNat_natCast, Nat.mul_one, show at_ + m - at_ = m from by omega]
  by_cases h64 : at_ = 64
  · subst h64; rfl
  · rw [if_neg h64, if_neg (by omega)]
set_option maxRecDepth 100000 in
theorem fr_part (g b each nf : Nat) (bs : List Int) (n at_ m : Nat) (w : World) (hG : StoreAt w g b each nf bs) (hn : n < nf) (hat : at_ + m ≤ 64) :
    Calls Tryd.prog 51 #[.pointer (some ⟨g, 0, none⟩), .int .i64 n, .int .i64 at_, .int .i64 m] w fun e w' => e = .returned (.tuple #[.slice (some ⟨b, partAt (n * 64) at_, none⟩) m (64 - at_), .int .i64 0]) ∧ w = w' := by
  have hcut := fun w => cut_frame b (n * 64) at_ m hat w
  go_enter Tryd.func51, Tryd.ntmps51
  go_wp2_with fail
  refine (fr_frame g b each nf bs n w hG hn).mono ?_; rintro e w1 ⟨rfl, rfl⟩
  go_wp2_with fail
  go_ret2
  exact ⟨rfl, rfl⟩
end Go.Proofs.YtbgnaohjcfbaaaaDoor
