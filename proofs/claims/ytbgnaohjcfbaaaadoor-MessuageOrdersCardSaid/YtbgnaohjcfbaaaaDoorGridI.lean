/- Contracts of package grid (layer 2), elements of the kind int. -/
import Derived.Test.YtbgnaohjcfbaaaaDoorBase2
namespace Go.Proofs.YtbgnaohjcfbaaaaDoor
open Go.RowKit
set_option linter.unusedVariables false
set_option linter.unusedSimpArgs false

theorem info_int : (Tryd.prog.info? 3).map (fun i => (i.zero, i.size, i.bytes)) = some (some (.int .i64 0), 1, 8) := by kernel_rfl
/-- A table: its block, its places' block, row by row. -/
structure GridI (w : World) (g b : Nat) (rows cols : Nat) (xs : List Int) : Prop where
  st : Blk w g 139 [.int .i64 rows, .int .i64 cols, .slice (some ⟨b, 0, none⟩) xs.length xs.length]
  dt : Blk w b 3 (xs.map (Value.int .i64))
  ln : xs.length = rows * cols
  r64 : rows ≤ 64
  c64 : cols ≤ 64
section
variable {w w' : World} {g b rows cols : Nat} {xs : List Int}
theorem GridI.ch {S : List Nat} (h : GridI w g b rows cols xs) (k : Ch S w w') (h1 : g ∉ S) (h2 : b ∉ S) : GridI w' g b rows cols xs := ⟨h.st.ch k h1, h.dt.ch k h2, h.ln, h.r64, h.c64⟩
theorem GridI.below (h : GridI w g b rows cols xs) (k : Below w.heap.size w w') : GridI w' g b rows cols xs := ⟨h.st.below k, h.dt.below k, h.ln, h.r64, h.c64⟩
theorem GridI.ne_ (h : GridI w g b rows cols xs) : b ≠ g := h.dt.ne_ h.st (by decide)
theorem GridI.le (h : GridI w g b rows cols xs) : xs.length ≤ 4096 := by
  rw [h.ln]
  exact Nat.le_trans (Nat.mul_le_mul h.r64 h.c64) (by decide)
theorem place_lt {rows cols r c : Nat} (hr : r < rows) (hc : c < cols) : r * cols + c < rows * cols := by
  have : (r + 1) * cols ≤ rows * cols := Nat.mul_le_mul_right _ hr
  rw [Nat.add_mul] at this
  omega

theorem gi_new_no (r c : Int) (w : World) (h : r < 0 ∨ 64 < r ∨ c < 0 ∨ 64 < c) : Calls Tryd.prog 86 #[.int .i64 r, .int .i64 c] w fun e w' => e = .returned (.tuple #[.pointer none, .int .i64 3]) ∧ w = w' := by
  rcases (by omega : r < 0 ∨ (0 ≤ r ∧ 64 < r) ∨ (0 ≤ r ∧ r ≤ 64 ∧ c < 0) ∨ (0 ≤ r ∧ r ≤ 64 ∧ 0 ≤ c ∧ 64 < c)) with h | ⟨h, h2⟩ | ⟨h, h2, h3⟩ | ⟨h, h2, h3, h4⟩
  all_goals
    go_enter Tryd.func86, Tryd.ntmps86
    go_wp2
    go_ret2
    exact ⟨rfl, rfl⟩
set_option maxRecDepth 100000 in
theorem gi_new (r c : Nat) (w : World) (h : r ≤ 64) (h2 : c ≤ 64) : Calls Tryd.prog 86 #[.int .i64 r, .int .i64 c] w fun e w' => ∃ g b, e = .returned (.tuple #[.pointer (some ⟨g, 0, none⟩), .int .i64 0]) ∧ w.heap.size ≤ g ∧ w.heap.size ≤ b ∧ GridI w' g b r c (List.replicate (r * c) 0) ∧ Below w.heap.size w w' := by
  obtain ⟨i0, hi, hz0, hz1, hz2⟩ := info_parts info_int
  have hm : (r : Int) * (c : Int) = ((r * c : Nat) : Int) := by simp
  have hle : r * c ≤ 4096 := Nat.le_trans (Nat.mul_le_mul h h2) (by decide)
  generalize hn : r * c = n at *
  have HN := Lib.hid hn; clear hn
  have m0 : (0 : Int) ≤ (r : Int) * (c : Int) := by omega
  have m1 : (r : Int) * (c : Int) ≤ 4096 := by omega
  have HM := Lib.hid hm; clear hm
  go_enter Tryd.func86, Tryd.ntmps86
  go_wp2_with (at_make; refine wpList_make_full _ rfl _ _ 23 rfl w.heap.size 3 i0 (.int .i64 0) 1 Tryd.underlying23 hi hz0 hz1 _ _ _ _ n rfl rfl HM.out HM.out ?_ (by unfold maxLen; omega) (Nat.le_refl _) ?_)
  · rw [hz2]; omega
  intro w1 hown hgr
  have hb : Below w.heap.size w w1 := (Below.refl _ _).grown hgr (Nat.le_refl _) (fun k h => by cases h)
  have hd := Blk.of_own hown
  go_wp2
  go_ret2
  refine ⟨w1.heap.size, w.heap.size, rfl, hb.size, Nat.le_refl _, ⟨?_, ?_, ?_, h, h2⟩, bel_alloc hb _⟩
  · rw [List.length_replicate]; exact Blk.new _ _ _
  · rw [List.map_replicate, ← made_one (.int .i64 0) rfl]; exact hd.alloc _
  · rw [List.length_replicate]; exact HN.out.symm

theorem gi_at_yes (g b rows cols : Nat) (xs : List Int) (r c i : Nat) (w : World) (hG : GridI w g b rows cols xs) (hr : r < rows) (hc : c < cols) (hi : r * cols + c = i) :
    Calls Tryd.prog 99 #[.pointer (some ⟨g, 0, none⟩), .int .i64 r, .int .i64 c] w fun e w' => e = .returned (.tuple #[.int .i64 i, .int .i64 0]) ∧ w = w' := by
  have k0 := hG.st.at_ (i := 0) rfl
  have k1 := hG.st.at_ (i := 1) rfl
  have hl := place_lt hr hc
  have hle : rows * cols ≤ 4096 := hG.ln ▸ hG.le
  have hi' : (r : Int) * (cols : Int) + (c : Int) = (i : Int) := by rw [← hi]; simp
  have m0 : (0 : Int) ≤ (r : Int) * (cols : Int) := by omega
  have m1 : (r : Int) * (cols : Int) ≤ 4096 := by omega
  have m2 := hG.c64
  have HI := Lib.hid hi'; clear hi' hi hl hle
  go_enter Tryd.func99, Tryd.ntmps99
  go_wp2
  go_ret2
  rw [← HI.out]
  exact ⟨rfl, rfl⟩
theorem gi_at_no (g b rows cols : Nat) (xs : List Int) (r c : Int) (w : World) (hG : GridI w g b rows cols xs) (h : r < 0 ∨ (rows : Int) ≤ r ∨ c < 0 ∨ (cols : Int) ≤ c) :
    Calls Tryd.prog 99 #[.pointer (some ⟨g, 0, none⟩), .int .i64 r, .int .i64 c] w fun e w' => e = .returned (.tuple #[.int .i64 0, .int .i64 1]) ∧ w = w' := by
  have k0 := hG.st.at_ (i := 0) rfl
  have k1 := hG.st.at_ (i := 1) rfl
  rcases (by omega : r < 0 ∨ (0 ≤ r ∧ (rows : Int) ≤ r) ∨ (0 ≤ r ∧ r < (rows : Int) ∧ c < 0) ∨ (0 ≤ r ∧ r < (rows : Int) ∧ 0 ≤ c ∧ (cols : Int) ≤ c)) with h | ⟨h, h2⟩ | ⟨h, h2, h3⟩ | ⟨h, h2, h3, h4⟩
  all_goals
    go_enter Tryd.func99, Tryd.ntmps99
    go_wp2
    go_ret2
    exact ⟨rfl, rfl⟩
theorem gi_at_nil (r c : Int) (w : World) : Calls Tryd.prog 99 #[.pointer none, .int .i64 r, .int .i64 c] w fun e w' => e = .returned (.tuple #[.int .i64 0, .int .i64 1]) ∧ w = w' := by
  go_enter Tryd.func99, Tryd.ntmps99
  go_wp2
  go_ret2
  exact ⟨rfl, rfl⟩


theorem gi_Put_yes (g b rows cols : Nat) (xs : List Int) (r c i : Nat) (x : Int) (w : World) (hG : GridI w g b rows cols xs) (hr : r < rows) (hc : c < cols) (hi : r * cols + c = i) :
    Calls Tryd.prog 87 #[.pointer (some ⟨g, 0, none⟩), .int .i64 r, .int .i64 c, .int .i64 x] w fun e w' => e = .returned (.int .i64 0) ∧ GridI w' g b rows cols (xs.set i x) ∧ Ch [b] w w' := by
  have k2 := hG.st.at_ (i := 2) rfl
  have hl : i < xs.length := by rw [hG.ln, ← hi]; exact place_lt hr hc
  have kv := hG.dt.at_ (map_at hl 0)
  have kf := hG.dt.frozen i
  have hx := hG.le
  have HI := Lib.hid hi; clear hi
  go_enter Tryd.func87, Tryd.ntmps87
  go_wp2_with fail
  refine (gi_at_yes g b rows cols xs r c i w hG hr hc HI.out).mono ?_; rintro e w1 ⟨rfl, rfl⟩
  go_wp2
  go_ret
  refine ⟨rfl, ⟨?_, by rw [List.map_set]; exact hG.dt.set_ _ _, by rw [List.length_set]; exact hG.ln, hG.r64, hG.c64⟩, (Ch.refl _ _).set (by simp) _⟩
  rw [List.length_set]
  exact hG.st.far (p := ⟨b, i, none⟩) (fun e => hG.ne_ e.symm) _
theorem gi_Put_no (g b rows cols : Nat) (xs : List Int) (r c : Int) (x : Int) (w : World) (hG : GridI w g b rows cols xs) (h : r < 0 ∨ (rows : Int) ≤ r ∨ c < 0 ∨ (cols : Int) ≤ c) :
    Calls Tryd.prog 87 #[.pointer (some ⟨g, 0, none⟩), .int .i64 r, .int .i64 c, .int .i64 x] w fun e w' => e = .returned (.int .i64 1) ∧ w = w' := by
  go_enter Tryd.func87, Tryd.ntmps87
  go_wp2_with fail
  refine (gi_at_no g b rows cols xs r c w hG h).mono ?_; rintro e w1 ⟨rfl, rfl⟩
  go_wp2
  go_ret
  exact ⟨rfl, rfl⟩
theorem gi_Put_nil (r c : Int) (x : Int) (w : World) : Calls Tryd.prog 87 #[.pointer none, .int .i64 r, .int .i64 c, .int .i64 x] w fun e w' => e = .returned (.int .i64 1) ∧ w = w' := by
  go_enter Tryd.func87, Tryd.ntmps87
  go_wp2_with fail
  refine (gi_at_nil r c w).mono ?_; rintro e w1 ⟨rfl, rfl⟩
  go_wp2
  go_ret
  exact ⟨rfl, rfl⟩
end
end Go.Proofs.YtbgnaohjcfbaaaaDoor
