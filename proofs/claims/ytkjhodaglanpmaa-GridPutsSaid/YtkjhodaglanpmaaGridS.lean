/- Contracts of package grid (layer 2), elements of the kind string. -/
import Derived.Test.YtkjhodaglanpmaaGridI
namespace Go.Proofs.Ytkjhodaglanpmaa
open Go.RowKit
set_option linter.unusedVariables false

theorem info_string : (Try.prog.info? 9).map (fun i => (i.zero, i.size, i.bytes)) = some (some (.string ByteArray.empty), 1, 16) := by kernel_rfl
/-- A table: its block, its places' block, row by row. -/
structure GridS (w : World) (g b : Nat) (rows cols : Nat) (xs : List ByteArray) : Prop where
  st : Blk w g 95 [.int .i64 rows, .int .i64 cols, .slice (some ⟨b, 0, none⟩) xs.length xs.length]
  dt : Blk w b 9 (xs.map Value.string)
  ln : xs.length = rows * cols
  r64 : rows ≤ 64
  c64 : cols ≤ 64
section
variable {w w' : World} {g b rows cols : Nat} {xs : List ByteArray}
theorem GridS.ch {S : List Nat} (h : GridS w g b rows cols xs) (k : Ch S w w') (h1 : g ∉ S) (h2 : b ∉ S) : GridS w' g b rows cols xs := ⟨h.st.ch k h1, h.dt.ch k h2, h.ln, h.r64, h.c64⟩
theorem GridS.below (h : GridS w g b rows cols xs) (k : Below w.heap.size w w') : GridS w' g b rows cols xs := ⟨h.st.below k, h.dt.below k, h.ln, h.r64, h.c64⟩
theorem GridS.ne_ (h : GridS w g b rows cols xs) : b ≠ g := h.dt.ne_ h.st (by decide)
theorem GridS.le (h : GridS w g b rows cols xs) : xs.length ≤ 4096 := by
  rw [h.ln]
  exact Nat.le_trans (Nat.mul_le_mul h.r64 h.c64) (by decide)
theorem gs_new_no (r c : Int) (w : World) (h : r < 0 ∨ 64 < r ∨ c < 0 ∨ 64 < c) : Calls Try.prog 13 #[.int .i64 r, .int .i64 c] w fun e w' => e = .returned (.tuple #[.pointer none, .int .i64 3]) ∧ w = w' := by
  rcases (by omega : r < 0 ∨ (0 ≤ r ∧ 64 < r) ∨ (0 ≤ r ∧ r ≤ 64 ∧ c < 0) ∨ (0 ≤ r ∧ r ≤ 64 ∧ 0 ≤ c ∧ 64 < c)) with h | ⟨h, h2⟩ | ⟨h, h2, h3⟩ | ⟨h, h2, h3, h4⟩
  all_goals
    go_enter Try.func13, Try.ntmps13
    go_wp2
    go_ret2
    exact ⟨rfl, rfl⟩
set_option maxRecDepth 100000 in
theorem gs_new (r c : Nat) (w : World) (h : r ≤ 64) (h2 : c ≤ 64) : Calls Try.prog 13 #[.int .i64 r, .int .i64 c] w fun e w' => ∃ g b, e = .returned (.tuple #[.pointer (some ⟨g, 0, none⟩), .int .i64 0]) ∧ w.heap.size ≤ g ∧ w.heap.size ≤ b ∧ GridS w' g b r c (List.replicate (r * c) ByteArray.empty) ∧ Below w.heap.size w w' := by
  obtain ⟨i0, hi, hz0, hz1, hz2⟩ := info_parts info_string
  have hm : (r : Int) * (c : Int) = ((r * c : Nat) : Int) := by simp
  have hle : r * c ≤ 4096 := Nat.le_trans (Nat.mul_le_mul h h2) (by decide)
  generalize hn : r * c = n at *
  have HN := Lib.hid hn; clear hn
  have m0 : (0 : Int) ≤ (r : Int) * (c : Int) := by omega
  have m1 : (r : Int) * (c : Int) ≤ 4096 := by omega
  have HM := Lib.hid hm; clear hm
  go_enter Try.func13, Try.ntmps13
  go_wp2_with (at_make; refine wpList_make_full _ rfl _ _ 22 rfl w.heap.size 9 i0 (.string ByteArray.empty) 1 Try.underlying22 hi hz0 hz1 _ _ _ _ n rfl rfl HM.out HM.out ?_ (by unfold maxLen; omega) (Nat.le_refl _) ?_)
  · rw [hz2]; omega
  intro w1 hown hgr
  have hb : Below w.heap.size w w1 := (Below.refl _ _).grown hgr (Nat.le_refl _) (fun k h => by cases h)
  have hd := Blk.of_own hown
  go_wp2
  go_ret2
  refine ⟨w1.heap.size, w.heap.size, rfl, hb.size, Nat.le_refl _, ⟨?_, ?_, ?_, h, h2⟩, bel_alloc hb _⟩
  · rw [List.length_replicate]; exact Blk.new _ _ _
  · rw [List.map_replicate, ← made_one (.string ByteArray.empty) rfl]; exact hd.alloc _
  · rw [List.length_replicate]; exact HN.out.symm

theorem gs_at_yes (g b rows cols : Nat) (xs : List ByteArray) (r c i : Nat) (w : World) (hG : GridS w g b rows cols xs) (hr : r < rows) (hc : c < cols) (hi : r * cols + c = i) :
    Calls Try.prog 61 #[.pointer (some ⟨g, 0, none⟩), .int .i64 r, .int .i64 c] w fun e w' => e = .returned (.tuple #[.int .i64 i, .int .i64 0]) ∧ w = w' := by
  have k0 := hG.st.at_ (i := 0) rfl
  have k1 := hG.st.at_ (i := 1) rfl
  have hl := place_lt hr hc
  have hle : rows * cols ≤ 4096 := hG.ln ▸ hG.le
  have hi' : (r : Int) * (cols : Int) + (c : Int) = (i : Int) := by rw [← hi]; simp
  have m0 : (0 : Int) ≤ (r : Int) * (cols : Int) := by omega
  have m1 : (r : Int) * (cols : Int) ≤ 4096 := by omega
  have m2 := hG.c64
  have HI := Lib.hid hi'; clear hi' hi hl hle
  go_enter Try.func61, Try.ntmps61
  go_wp2
  go_ret2
  rw [← HI.out]
  exact ⟨rfl, rfl⟩
theorem gs_at_no (g b rows cols : Nat) (xs : List ByteArray) (r c : Int) (w : World) (hG : GridS w g b rows cols xs) (h : r < 0 ∨ (rows : Int) ≤ r ∨ c < 0 ∨ (cols : Int) ≤ c) :
    Calls Try.prog 61 #[.pointer (some ⟨g, 0, none⟩), .int .i64 r, .int .i64 c] w fun e w' => e = .returned (.tuple #[.int .i64 0, .int .i64 1]) ∧ w = w' := by
  have k0 := hG.st.at_ (i := 0) rfl
  have k1 := hG.st.at_ (i := 1) rfl
  rcases (by omega : r < 0 ∨ (0 ≤ r ∧ (rows : Int) ≤ r) ∨ (0 ≤ r ∧ r < (rows : Int) ∧ c < 0) ∨ (0 ≤ r ∧ r < (rows : Int) ∧ 0 ≤ c ∧ (cols : Int) ≤ c)) with h | ⟨h, h2⟩ | ⟨h, h2, h3⟩ | ⟨h, h2, h3, h4⟩
  all_goals
    go_enter Try.func61, Try.ntmps61
    go_wp2
    go_ret2
    exact ⟨rfl, rfl⟩
theorem gs_at_nil (r c : Int) (w : World) : Calls Try.prog 61 #[.pointer none, .int .i64 r, .int .i64 c] w fun e w' => e = .returned (.tuple #[.int .i64 0, .int .i64 1]) ∧ w = w' := by
  go_enter Try.func61, Try.ntmps61
  go_wp2
  go_ret2
  exact ⟨rfl, rfl⟩

theorem gs_At_yes (g b rows cols : Nat) (xs : List ByteArray) (r c i : Nat) (w : World) (hG : GridS w g b rows cols xs) (hr : r < rows) (hc : c < cols) (hi : r * cols + c = i) :
    Calls Try.prog 16 #[.pointer (some ⟨g, 0, none⟩), .int .i64 r, .int .i64 c] w fun e w' => e = .returned (.tuple #[Value.string (xs.getD i ByteArray.empty), .int .i64 0]) ∧ w = w' := by
  have k2 := hG.st.at_ (i := 2) rfl
  have hl : i < xs.length := by rw [hG.ln, ← hi]; exact place_lt hr hc
  have kv := hG.dt.at_ (map_at hl ByteArray.empty)
  generalize xs.getD i ByteArray.empty = v at kv ⊢
  have hx := hG.le
  have HI := Lib.hid hi; clear hi
  go_enter Try.func16, Try.ntmps16
  go_wp2_with fail
  refine (gs_at_yes g b rows cols xs r c i w hG hr hc HI.out).mono ?_; rintro e w1 ⟨rfl, rfl⟩
  go_wp2
  go_ret2
  exact ⟨rfl, rfl⟩
theorem gs_At_no (g b rows cols : Nat) (xs : List ByteArray) (r c : Int) (w : World) (hG : GridS w g b rows cols xs) (h : r < 0 ∨ (rows : Int) ≤ r ∨ c < 0 ∨ (cols : Int) ≤ c) :
    Calls Try.prog 16 #[.pointer (some ⟨g, 0, none⟩), .int .i64 r, .int .i64 c] w fun e w' => e = .returned (.tuple #[.string ByteArray.empty, .int .i64 1]) ∧ w = w' := by
  go_enter Try.func16, Try.ntmps16
  go_wp2_with fail
  refine (gs_at_no g b rows cols xs r c w hG h).mono ?_; rintro e w1 ⟨rfl, rfl⟩
  go_wp2
  go_ret2
  exact ⟨rfl, rfl⟩
theorem gs_At_nil (r c : Int) (w : World) : Calls Try.prog 16 #[.pointer none, .int .i64 r, .int .i64 c] w fun e w' => e = .returned (.tuple #[.string ByteArray.empty, .int .i64 1]) ∧ w = w' := by
  go_enter Try.func16, Try.ntmps16
  go_wp2_with fail
  refine (gs_at_nil r c w).mono ?_; rintro e w1 ⟨rfl, rfl⟩
  go_wp2
  go_ret2
  exact ⟨rfl, rfl⟩

theorem gs_Put_yes (g b rows cols : Nat) (xs : List ByteArray) (r c i : Nat) (x : ByteArray) (w : World) (hG : GridS w g b rows cols xs) (hr : r < rows) (hc : c < cols) (hi : r * cols + c = i) :
    Calls Try.prog 15 #[.pointer (some ⟨g, 0, none⟩), .int .i64 r, .int .i64 c, .string x] w fun e w' => e = .returned (.int .i64 0) ∧ GridS w' g b rows cols (xs.set i x) ∧ Ch [b] w w' := by
  have k2 := hG.st.at_ (i := 2) rfl
  have hl : i < xs.length := by rw [hG.ln, ← hi]; exact place_lt hr hc
  have kv := hG.dt.at_ (map_at hl ByteArray.empty)
  have kf := hG.dt.frozen i
  have hx := hG.le
  have HI := Lib.hid hi; clear hi
  go_enter Try.func15, Try.ntmps15
  go_wp2_with fail
  refine (gs_at_yes g b rows cols xs r c i w hG hr hc HI.out).mono ?_; rintro e w1 ⟨rfl, rfl⟩
  go_wp2
  go_ret
  refine ⟨rfl, ⟨?_, by rw [List.map_set]; exact hG.dt.set_ _ _, by rw [List.length_set]; exact hG.ln, hG.r64, hG.c64⟩, (Ch.refl _ _).set (by simp) _⟩
  rw [List.length_set]
  exact hG.st.far (p := ⟨b, i, none⟩) (fun e => hG.ne_ e.symm) _
theorem gs_Put_no (g b rows cols : Nat) (xs : List ByteArray) (r c : Int) (x : ByteArray) (w : World) (hG : GridS w g b rows cols xs) (h : r < 0 ∨ (rows : Int) ≤ r ∨ c < 0 ∨ (cols : Int) ≤ c) :
    Calls Try.prog 15 #[.pointer (some ⟨g, 0, none⟩), .int .i64 r, .int .i64 c, .string x] w fun e w' => e = .returned (.int .i64 1) ∧ w = w' := by
  go_enter Try.func15, Try.ntmps15
  go_wp2_with fail
  refine (gs_at_no g b rows cols xs r c w hG h).mono ?_; rintro e w1 ⟨rfl, rfl⟩
  go_wp2
  go_ret
  exact ⟨rfl, rfl⟩
theorem gs_Put_nil (r c : Int) (x : ByteArray) (w : World) : Calls Try.prog 15 #[.pointer none, .int .i64 r, .int .i64 c, .string x] w fun e w' => e = .returned (.int .i64 1) ∧ w = w' := by
  go_enter Try.func15, Try.ntmps15
  go_wp2_with fail
  refine (gs_at_nil r c w).mono ?_; rintro e w1 ⟨rfl, rfl⟩
  go_wp2
  go_ret
  exact ⟨rfl, rfl⟩
end
end Go.Proofs.Ytkjhodaglanpmaa
