/- Parts of the proof: GridI, GridI2, GridI3, TurnPure, Topo. -/
import Derived.Test.YtjdbedoabcbeeaaGreatDoorUs1
import Derived.Deep.OwnRows
import Derived.Test.YtjdbedoabcbeeaaGreatDoorUs4
import Derived.Laws.BitsAllLaws
/- Contracts of package grid (layer 2), elements of the kind int. -/
namespace Go.Proofs.YtjdbedoabcbeeaaGreatDoor
open Go.RowKit
set_option linter.unusedVariables false
set_option linter.unusedSimpArgs false

theorem info_int : (Tryz.prog.info? 3).map (fun i => (i.zero, i.size, i.bytes)) = some (some (.int .i64 0), 1, 8) := by kernel_rfl
/-- A table: its block, its places' block, row by row. -/
structure GridI (w : World) (g b : Nat) (rows cols : Nat) (xs : List Int) : Prop where
  st : Blk w g 196 [.int .i64 rows, .int .i64 cols, .slice (some ⟨b, 0, none⟩) xs.length xs.length]
  dt : Blk w b 3 (xs.map (Value.int .i64))
  ln : xs.length = rows * cols
  r64 : rows ≤ 64
  c64 : cols ≤ 64
section
variable {w w' : World} {g b rows cols : Nat} {xs : List Int}
theorem GridI.ch {S : List Nat} (h : GridI w g b rows cols xs) (k : Ch S w w') (h1 : g ∉ S) (h2 : b ∉ S) : GridI w' g b rows cols xs := ⟨h.st.ch k h1, h.dt.ch k h2, h.ln, h.r64, h.c64⟩
theorem GridI.below (h : GridI w g b rows cols xs) (k : Below w.heap.size w w') : GridI w' g b rows cols xs := ⟨h.st.below k, h.dt.below k, h.ln, h.r64, h.c64⟩
theorem GridI.ne_ (h : GridI w g b rows cols xs) : b ≠ g := h.dt.ne_ h.st (by decide)
theorem GridI.le (h : GridI w g b rows cols xs) : xs.length ≤ 4096 := by
  rw [h.ln]
  exact Nat.le_trans (Nat.mul_le_mul h.r64 h.c64) (by decide)
theorem place_lt {rows cols r c : Nat} (hr : r < rows) (hc : c < cols) : r * cols + c < rows * cols := by
  have : (r + 1) * cols ≤ rows * cols := Nat.mul_le_mul_right _ hr
  rw [Nat.add_mul] at this
  omega

theorem gi_new_no (r c : Int) (w : World) (h : r < 0 ∨ 64 < r ∨ c < 0 ∨ 64 < c) : Calls Tryz.prog 90 #[.int .i64 r, .int .i64 c] w fun e w' => e = .returned (.tuple #[.pointer none, .int .i64 3]) ∧ w = w' := by
  rcases (by omega : r < 0 ∨ (0 ≤ r ∧ 64 < r) ∨ (0 ≤ r ∧ r ≤ 64 ∧ c < 0) ∨ (0 ≤ r ∧ r ≤ 64 ∧ 0 ≤ c ∧ 64 < c)) with h | ⟨h, h2⟩ | ⟨h, h2, h3⟩ | ⟨h, h2, h3, h4⟩
  all_goals
    go_enter Tryz.func90, Tryz.ntmps90
    go_wp2
    go_ret2
    exact ⟨rfl, rfl⟩
set_option maxRecDepth 100000 in
theorem gi_new (r c : Nat) (w : World) (h : r ≤ 64) (h2 : c ≤ 64) : Calls Tryz.prog 90 #[.int .i64 r, .int .i64 c] w fun e w' => ∃ g b, e = .returned (.tuple #[.pointer (some ⟨g, 0, none⟩), .int .i64 0]) ∧ w.heap.size ≤ g ∧ w.heap.size ≤ b ∧ GridI w' g b r c (List.replicate (r * c) 0) ∧ Below w.heap.size w w' := by
  obtain ⟨i0, hi, hz0, hz1, hz2⟩ := info_parts info_int
  have hm : (r : Int) * (c : Int) = ((r * c : Nat) : Int) := by simp
  have hle : r * c ≤ 4096 := Nat.le_trans (Nat.mul_le_mul h h2) (by decide)
  generalize hn : r * c = n at *
  have HN := Lib.hid hn; clear hn
  have m0 : (0 : Int) ≤ (r : Int) * (c : Int) := by omega
  have m1 : (r : Int) * (c : Int) ≤ 4096 := by omega
  have HM := Lib.hid hm; clear hm
  go_enter Tryz.func90, Tryz.ntmps90
  go_wp2_with (at_make; refine wpList_make_full _ rfl _ _ 27 rfl w.heap.size 3 i0 (.int .i64 0) 1 Tryz.underlying27 hi hz0 hz1 _ _ _ _ n rfl rfl HM.out HM.out ?_ (by unfold maxLen; omega) (Nat.le_refl _) ?_)
  · rw [hz2]; omega
  intro w1 hown hgr
  have hb : Below w.heap.size w w1 := (Below.refl _ _).grown hgr (Nat.le_refl _) (fun k h => by cases h)
  have hd := Blk.of_own hown
  go_wp2
  go_ret2
  refine ⟨w1.heap.size, w.heap.size, rfl, hb.size, Nat.le_refl _, ⟨?_, ?_, ?_, h, h2⟩, bel_alloc hb _⟩
  · rw [List.length_replicate]; exact Blk.new _ _ _
  · rw [List.map_replicate, ← made_one (.int .i64 0) rfl]; exact hd.alloc _
  · rw [List.length_replicate]; exact HN.out.symm

theorem gi_at_yes (g b rows cols : Nat) (xs : List Int) (r c i : Nat) (w : World) (hG : GridI w g b rows cols xs) (hr : r < rows) (hc : c < cols) (hi : r * cols + c = i) :
    Calls Tryz.prog 121 #[.pointer (some ⟨g, 0, none⟩), .int .i64 r, .int .i64 c] w fun e w' => e = .returned (.tuple #[.int .i64 i, .int .i64 0]) ∧ w = w' := by
  have k0 := hG.st.at_ (i := 0) rfl
  have k1 := hG.st.at_ (i := 1) rfl
  have hl := place_lt hr hc
  have hle : rows * cols ≤ 4096 := hG.ln ▸ hG.le
  have hi' : (r : Int) * (cols : Int) + (c : Int) = (i : Int) := by rw [← hi]; simp
  have m0 : (0 : Int) ≤ (r : Int) * (cols : Int) := by omega
  have m1 : (r : Int) * (cols : Int) ≤ 4096 := by omega
  have m2 := hG.c64
  have HI := Lib.hid hi'; clear hi' hi hl hle
  go_enter Tryz.func121, Tryz.ntmps121
  go_wp2
  go_ret2
  rw [← HI.out]
  exact ⟨rfl, rfl⟩
theorem gi_at_no (g b rows cols : Nat) (xs : List Int) (r c : Int) (w : World) (hG : GridI w g b rows cols xs) (h : r < 0 ∨ (rows : Int) ≤ r ∨ c < 0 ∨ (cols : Int) ≤ c) :
    Calls Tryz.prog 121 #[.pointer (some ⟨g, 0, none⟩), .int .i64 r, .int .i64 c] w fun e w' => e = .returned (.tuple #[.int .i64 0, .int .i64 1]) ∧ w = w' := by
  have k0 := hG.st.at_ (i := 0) rfl
  have k1 := hG.st.at_ (i := 1) rfl
  rcases (by omega : r < 0 ∨ (0 ≤ r ∧ (rows : Int) ≤ r) ∨ (0 ≤ r ∧ r < (rows : Int) ∧ c < 0) ∨ (0 ≤ r ∧ r < (rows : Int) ∧ 0 ≤ c ∧ (cols : Int) ≤ c)) with h | ⟨h, h2⟩ | ⟨h, h2, h3⟩ | ⟨h, h2, h3, h4⟩
  all_goals
    go_enter Tryz.func121, Tryz.ntmps121
    go_wp2
    go_ret2
    exact ⟨rfl, rfl⟩
theorem gi_at_nil (r c : Int) (w : World) : Calls Tryz.prog 121 #[.pointer none, .int .i64 r, .int .i64 c] w fun e w' => e = .returned (.tuple #[.int .i64 0, .int .i64 1]) ∧ w = w' := by
  go_enter Tryz.func121, Tryz.ntmps121
  go_wp2
  go_ret2
  exact ⟨rfl, rfl⟩


theorem gi_Put_yes (g b rows cols : Nat) (xs : List Int) (r c i : Nat) (x : Int) (w : World) (hG : GridI w g b rows cols xs) (hr : r < rows) (hc : c < cols) (hi : r * cols + c = i) :
    Calls Tryz.prog 91 #[.pointer (some ⟨g, 0, none⟩), .int .i64 r, .int .i64 c, .int .i64 x] w fun e w' => e = .returned (.int .i64 0) ∧ GridI w' g b rows cols (xs.set i x) ∧ Ch [b] w w' := by
  have k2 := hG.st.at_ (i := 2) rfl
  have hl : i < xs.length := by rw [hG.ln, ← hi]; exact place_lt hr hc
  have kv := hG.dt.at_ (map_at hl 0)
  have kf := hG.dt.frozen i
  have hx := hG.le
  have HI := Lib.hid hi; clear hi
  go_enter Tryz.func91, Tryz.ntmps91
  go_wp2_with fail
  refine (gi_at_yes g b rows cols xs r c i w hG hr hc HI.out).mono ?_; rintro e w1 ⟨rfl, rfl⟩
  go_wp2
  go_ret
  refine ⟨rfl, ⟨?_, by rw [List.map_set]; exact hG.dt.set_ _ _, by rw [List.length_set]; exact hG.ln, hG.r64, hG.c64⟩, (Ch.refl _ _).set (by simp) _⟩
  rw [List.length_set]
  exact hG.st.far (p := ⟨b, i, none⟩) (fun e => hG.ne_ e.symm) _
theorem gi_Put_no (g b rows cols : Nat) (xs : List Int) (r c : Int) (x : Int) (w : World) (hG : GridI w g b rows cols xs) (h : r < 0 ∨ (rows : Int) ≤ r ∨ c < 0 ∨ (cols : Int) ≤ c) :
    Calls Tryz.prog 91 #[.pointer (some ⟨g, 0, none⟩), .int .i64 r, .int .i64 c, .int .i64 x] w fun e w' => e = .returned (.int .i64 1) ∧ w = w' := by
  go_enter Tryz.func91, Tryz.ntmps91
  go_wp2_with fail
  refine (gi_at_no g b rows cols xs r c w hG h).mono ?_; rintro e w1 ⟨rfl, rfl⟩
  go_wp2
  go_ret
  exact ⟨rfl, rfl⟩
theorem gi_Put_nil (r c : Int) (x : Int) (w : World) : Calls Tryz.prog 91 #[.pointer none, .int .i64 r, .int .i64 c, .int .i64 x] w fun e w' => e = .returned (.int .i64 1) ∧ w = w' := by
  go_enter Tryz.func91, Tryz.ntmps91
  go_wp2_with fail
  refine (gi_at_nil r c w).mono ?_; rintro e w1 ⟨rfl, rfl⟩
  go_wp2
  go_ret
  exact ⟨rfl, rfl⟩
end
end Go.Proofs.YtjdbedoabcbeeaaGreatDoor
/- More contracts of package grid (layer 2), elements of the kind int. -/
namespace Go.Proofs.YtjdbedoabcbeeaaGreatDoor
open Go.RowKit
set_option linter.unusedVariables false
set_option linter.unusedSimpArgs false
attribute [local go_sem] World.cell?_alloc_lt

/-- A table's places, turned, the first k of them. -/
def turnTo {α : Type} (z : α) (xs : List α) (rows cols k : Nat) : List α := (List.range k).foldl (fun ys j => ys.set (j % cols * rows + j / cols) (xs.getD j z)) (List.replicate xs.length z)
theorem turnTo_succ {α : Type} (z : α) (xs : List α) (rows cols k : Nat) : turnTo z xs rows cols (k + 1) = (turnTo z xs rows cols k).set (k % cols * rows + k / cols) (xs.getD k z) := by
  unfold turnTo
  rw [List.range_succ, List.foldl_append]
  rfl
theorem turnTo_length {α : Type} (z : α) (xs : List α) (rows cols k : Nat) : (turnTo z xs rows cols k).length = xs.length := by
  induction k with
  | zero => simp [turnTo]
  | succ k ih => rw [turnTo_succ, List.length_set, ih]


theorem gi_Turned_nil (w : World) : Calls Tryz.prog 70 #[.pointer none] w fun e w' => e = .returned (.pointer none) ∧ w = w' := by
  go_enter Tryz.func70, Tryz.ntmps70
  go_wp2
  go_ret
  exact ⟨rfl, rfl⟩

set_option maxRecDepth 100000 in
set_option maxHeartbeats 1000000 in
theorem gi_Turned (g b rows cols : Nat) (xs : List Int) (w : World) (hG : GridI w g b rows cols xs) : Calls Tryz.prog 70 #[.pointer (some ⟨g, 0, none⟩)] w fun e w' => ∃ g' b', e = .returned (.pointer (some ⟨g', 0, none⟩)) ∧ w.heap.size ≤ g' ∧ w.heap.size ≤ b' ∧ GridI w' g' b' cols rows (turnTo 0 xs rows cols xs.length) ∧ Below w.heap.size w w' := by
  have k0 := hG.st.at_ (i := 0) rfl
  have k1 := hG.st.at_ (i := 1) rfl
  have k2 := hG.st.at_ (i := 2) rfl
  have hle := hG.le
  have hgl := hG.st.lt
  have hbl := hG.dt.lt
  have hmk := fun wx => run_make_row' (P := Tryz.prog) 27 3 (.int .i64 0) 8 Tryz.underlying27 info_int rfl .i64 .i64 xs.length (by omega) (by omega) wx
  go_enter Tryz.func70, Tryz.ntmps70
  go_wp2_with fail
  go_region
  go_wp2_with fail
  go_loopw [29] (fun i wr => ∃ k : Nat, k ≤ xs.length ∧ i = .int .i64 k ∧ GridI wr g b rows cols xs ∧ Blk wr w.heap.size 3 ((turnTo 0 xs rows cols k).map (Value.int .i64)) ∧ Blk wr (w.heap.size + 1) 196 [.int .i64 cols, .int .i64 rows, .slice (some ⟨w.heap.size, 0, none⟩) xs.length xs.length] ∧ Below w.heap.size w wr) (fun i _ => xs.length - (intOf i).toNat)
  case atStart =>
    have hb : Below w.heap.size w (((w.alloc (.cells (madeCells #[.int .i64 0] xs.length) 3)).alloc (.cells #[.int .i64 cols, .int .i64 rows, .slice (some ⟨w.heap.size, 0, none⟩) xs.length xs.length] 196)).drew) := bel_drew (bel_alloc (bel_alloc (Below.refl _ _) _) _)
    refine ⟨0, Nat.zero_le _, rfl, hG.below hb, ?_, ?_, hb⟩
    · have h := Blk.new w 3 (madeCells #[.int .i64 0] xs.length).toList
      rw [Array.toArray_toList] at h
      have e := made_one (.int .i64 0) rfl xs.length
      simp only [turnTo, List.range_zero, List.foldl_nil, List.map_replicate]
      rw [← e]
      exact (h.alloc _).drew
    · have h := Blk.new (w.alloc (.cells (madeCells #[.int .i64 0] xs.length) 3)) 196 [.int .i64 cols, .int .i64 rows, .slice (some ⟨w.heap.size, 0, none⟩) xs.length xs.length]
      rw [World.size_alloc] at h
      exact h.drew
  case round =>
    obtain ⟨k, hk, rfl, hG, hD, hS, hb⟩ := hrel
    by_cases hlt : k < xs.length
    · have hn := hG.ln
      have hc0 : 0 < cols := by
        rcases Nat.eq_zero_or_pos cols with h | h
        · subst h; rw [Nat.mul_zero] at hn; omega
        · exact h
      have k0 := hG.st.at_ (i := 0) rfl
      have k1 := hG.st.at_ (i := 1) rfl
      have s2 := hS.at_ (i := 2) rfl
      have kv := hG.dt.at_ (map_at hlt 0)
      obtain ⟨d, hd, hdl, q, p, hq, hp, hql, hpl, hqp⟩ : ∃ d, k % cols * rows + k / cols = d ∧ d < xs.length ∧ ∃ q p, k % cols = q ∧ k / cols = p ∧ q < cols ∧ p < rows ∧ q * rows + p = d := by
        refine ⟨_, rfl, ?_, _, _, rfl, rfl, Nat.mod_lt _ hc0, ?_, rfl⟩
        · rw [hn, Nat.mul_comm rows cols]
          exact place_lt (Nat.mod_lt _ hc0) (Nat.div_lt_of_lt_mul (by rw [Nat.mul_comm]; omega))
        · exact Nat.div_lt_of_lt_mul (by rw [Nat.mul_comm]; omega)
      have hl2 : d < (turnTo 0 xs rows cols k).length := by rw [turnTo_length]; exact hdl
      have dv := hD.at_ (map_at hl2 0)
      have df := hD.frozen d
      have hD2 := hD.set_ d ((Value.int .i64) (xs.getD k 0))
      rw [← List.map_set] at hD2
      have hts := turnTo_succ 0 xs rows cols k
      rw [hd] at hts
      rw [← hts] at hD2
      have hq' : (k : Int) % (cols : Int) = (q : Int) := by rw [← hq]; simp
      have hp' : (k : Int) / (cols : Int) = (p : Int) := by rw [← hp]; simp
      have m0 : (0 : Int) ≤ (q : Int) * (rows : Int) := Int.mul_nonneg (by omega) (by omega)
      have e1 : (q : Int) * (rows : Int) + (p : Int) = (d : Int) := by rw [← hqp]; simp
      have m1 : (q : Int) * (rows : Int) ≤ 4096 := by omega
      have m2 : (q : Int) * (rows : Int) + (p : Int) < xs.length := by omega
      have e2 : ((q : Int) * (rows : Int) + (p : Int)).toNat = d := by omega
      have hgl := hG.st.lt
      have hcI : (1 : Int) ≤ (cols : Int) := by omega
      clear hd hq hp hqp hts e1 hn hl2
      have HD := Lib.hid hD2; have HG := Lib.hid hG; have HS := Lib.hid hS; have HB := Lib.hid hb
      clear hD2 hG hS hb hD
      generalize xs.getD k 0 = v at *
      go_wp2_with fail
      go_region
      go_wp2
      go_roundw
      case rel =>
        have hc := ((Ch.refl [w.heap.size] wr).set (p := ⟨w.heap.size, d, none⟩) (by simp) ((Value.int .i64) v)).drew
        exact ⟨k + 1, by omega, by go_num, HG.out.ch hc (by simp; omega) (by simp; omega), HD.out.drew, (HS.out.far (p := ⟨w.heap.size, d, none⟩) (by simp) _).drew, bel_drew (bel_set HB.out (Nat.le_refl _) _)⟩
      case measure => simp [intOf]; omega
    · have e : k = xs.length := by omega
      subst e
      go_wp2
      go_ret
      refine ⟨w.heap.size + 1, w.heap.size, rfl, by omega, Nat.le_refl _, ⟨?_, hD, ?_, hG.c64, hG.r64⟩, hb⟩
      · rw [turnTo_length]; exact hS
      · rw [turnTo_length, hG.ln, Nat.mul_comm]
end Go.Proofs.YtjdbedoabcbeeaaGreatDoor
/- Contracts of slices.Equal and of grid's Same (layer 2), elements of the kind int. -/
namespace Go.Proofs.YtjdbedoabcbeeaaGreatDoor
open Go.RowKit
set_option linter.unusedVariables false
set_option linter.unusedSimpArgs false

/-- Two rows that are read. -/
theorem eqi_len (b1 b2 c1 c2 : Nat) (xs ys : List Int) (w : World) (hl : xs.length ≤ 4096) (hl2 : ys.length ≤ 4096) (hne : xs.length ≠ ys.length) :
    Calls Tryz.prog 92 #[.slice (some ⟨b1, 0, none⟩) xs.length c1, .slice (some ⟨b2, 0, none⟩) ys.length c2] w fun e w' => e = .returned (.bool false) ∧ ∃ n, w' = w.drewN n := by
  have hn : ((xs.length : Int) != (ys.length : Int)) = true := by rw [bne_iff_ne]; omega
  go_enter Tryz.func92, Tryz.ntmps92
  go_wp2
  go_ret
  exact ⟨rfl, 0, rfl⟩

set_option maxHeartbeats 1000000 in
theorem eqi_any (b1 b2 c1 c2 : Nat) (xs ys : List Int) (w : World) (h1 : Blk w b1 3 (xs.map (Value.int .i64))) (h2 : Blk w b2 3 (ys.map (Value.int .i64))) (hl : xs.length ≤ 4096) (hl2 : xs.length = ys.length) :
    Calls Tryz.prog 92 #[.slice (some ⟨b1, 0, none⟩) xs.length c1, .slice (some ⟨b2, 0, none⟩) xs.length c2] w fun e w' => e = .returned (.bool (decide (xs = ys))) ∧ ∃ n, w' = w.drewN n := by
  have HL := Lib.hid hl2; clear hl2
  go_enter Tryz.func92, Tryz.ntmps92
  go_wp2_with fail
  go_loopw [13] (fun i wr => ∃ k : Nat, k ≤ xs.length ∧ i = .int .i64 k ∧ (∀ j, j < k → xs.getD j 0 = ys.getD j 0) ∧ ∃ n, wr = w.drewN n) (fun i _ => xs.length - (intOf i).toNat)
  case atStart => exact ⟨0, Nat.zero_le _, rfl, fun j hj => absurd hj (by omega), 0, rfl⟩
  case round =>
    obtain ⟨k, hk, rfl, hal, n0, rfl⟩ := hrel
    have HA := Lib.hid hal; clear hal
    by_cases hlt : k < xs.length
    · have x1 := h1.at_ (map_at hlt 0)
      have x2 := h2.at_ (map_at (HL.out ▸ hlt) 0)
      by_cases he : xs.getD k 0 = ys.getD k 0
      · have HE := Lib.hid he
        have hb : (xs.getD k 0 != ys.getD k 0) = false := by rw [he]; simp
        clear he
        generalize hx : xs.getD k 0 = x at *
        generalize hy : ys.getD k 0 = y at *
        have HX := Lib.hid hx; have HY := Lib.hid hy; clear hx hy
        go_wp2_with fail
        go_quiet (fail)
        go_wp2
        go_roundw
        case rel =>
          refine ⟨k + 1, by omega, by go_num, fun j hj => ?_, _, by first | exact World.drewN_drewN .. | rfl⟩
          rcases (by omega : j < k ∨ j = k) with h | h
          · exact HA.out j h
          · rw [h, HX.out, HY.out]; exact HE.out
        case measure => simp [intOf]; omega
      · have HE := Lib.hid he
        have hb : (xs.getD k 0 != ys.getD k 0) = true := by rw [bne_iff_ne]; exact he
        clear he
        generalize hx : xs.getD k 0 = x at *
        generalize hy : ys.getD k 0 = y at *
        have HX := Lib.hid hx; have HY := Lib.hid hy; clear hx hy
        go_wp2_with fail
        go_quiet (fail)
        go_wp2
        go_ret
        refine ⟨?_, _, by first | exact World.drewN_drewN .. | rfl⟩
        have e : decide (xs = ys) = false := by
          refine decide_eq_false fun e => HE.out ?_
          rw [← HX.out, ← HY.out, e]
        rw [e]; rfl
    · have e : k = xs.length := by omega
      have hfin : decide (xs = ys) = true := by
        refine decide_eq_true (List.ext_getElem HL.out fun j h3 h4 => ?_)
        have := HA.out j (by omega)
        simpa [List.getD_eq_getElem?_getD, h3, h4] using this
      have HF := Lib.hid hfin; clear hfin
      go_wp2
      go_ret
      rw [HF.out]
      exact ⟨rfl, _, rfl⟩

theorem gi_Same_shape (g b g2 b2 rows cols rows2 cols2 : Nat) (xs ys : List Int) (w : World) (hG : GridI w g b rows cols xs) (hG2 : GridI w g2 b2 rows2 cols2 ys) (h : rows ≠ rows2 ∨ cols ≠ cols2) :
    Calls Tryz.prog 69 #[.pointer (some ⟨g, 0, none⟩), .pointer (some ⟨g2, 0, none⟩)] w fun e w' => e = .returned (.bool false) ∧ Below w.heap.size w w' := by
  have k0 := hG.st.at_ (i := 0) rfl
  have k1 := hG.st.at_ (i := 1) rfl
  have q0 := hG2.st.at_ (i := 0) rfl
  have q1 := hG2.st.at_ (i := 1) rfl
  by_cases h1 : rows = rows2
  · have hc : ((cols : Int) == (cols2 : Int)) = false := by rw [beq_eq_false_iff_ne]; omega
    subst h1
    clear h
    go_enter Tryz.func69, Tryz.ntmps69
    go_wp2_with fail
    refine wp_region_quiet_lit (by kernel_rfl) (by kernel_rfl) ?_
    repeat (first | go_big_quiet_step (fail) | quiet_step (fail))
    refine wpQuiet_nil ?_; intro _ hw'; obtain ⟨nq, hw''⟩ := hw'; subst hw''
    go_wp2
    go_ret
    exact ⟨rfl, bel_drewN (Below.refl _ _) _⟩
  · have hc : ((rows : Int) == (rows2 : Int)) = false := by rw [beq_eq_false_iff_ne]; omega
    clear h
    go_enter Tryz.func69, Tryz.ntmps69
    go_wp2_with fail
    refine wp_region_quiet_lit (by kernel_rfl) (by kernel_rfl) ?_
    repeat (first | go_big_quiet_step (fail) | quiet_step (fail))
    refine wpQuiet_nil ?_; intro _ hw'; obtain ⟨nq, hw''⟩ := hw'; subst hw''
    go_wp2
    go_ret
    exact ⟨rfl, bel_drewN (Below.refl _ _) _⟩
theorem gi_Same (g b g2 b2 rows cols : Nat) (xs ys : List Int) (w : World) (hG : GridI w g b rows cols xs) (hG2 : GridI w g2 b2 rows cols ys) :
    Calls Tryz.prog 69 #[.pointer (some ⟨g, 0, none⟩), .pointer (some ⟨g2, 0, none⟩)] w fun e w' => e = .returned (.bool (decide (xs = ys))) ∧ Below w.heap.size w w' := by
  have k0 := hG.st.at_ (i := 0) rfl
  have k1 := hG.st.at_ (i := 1) rfl
  have k2 := hG.st.at_ (i := 2) rfl
  have q0 := hG2.st.at_ (i := 0) rfl
  have q1 := hG2.st.at_ (i := 1) rfl
  have q2 := hG2.st.at_ (i := 2) rfl
  have hl : xs.length = ys.length := hG.ln.trans hG2.ln.symm
  rw [← hl] at q2
  have HL := Lib.hid hl; clear hl
  have hle := hG.le
  go_enter Tryz.func69, Tryz.ntmps69
  go_wp2_with fail
  refine wp_region_quiet_lit (by kernel_rfl) (by kernel_rfl) ?_
  repeat (first | go_big_quiet_step (((go_at_call 92; exact Calls.quiet_of (eqi_any b b2 _ _ xs ys _ (hG.dt.drewN _) (hG2.dt.drewN _) hle HL.out)))) | quiet_step (((go_at_call 92; exact Calls.quiet_of (eqi_any b b2 _ _ xs ys _ (hG.dt.drewN _) (hG2.dt.drewN _) hle HL.out)))))
  refine wpQuiet_nil ?_; intro _ hw'; obtain ⟨nq, hw''⟩ := hw'; subst hw''
  go_wp2
  go_ret
  exact ⟨rfl, bel_drewN (Below.refl _ _) _⟩
theorem gi_Same_nil (w : World) : Calls Tryz.prog 69 #[.pointer none, .pointer none] w fun e w' => e = .returned (.bool true) ∧ w = w' := by
  go_enter Tryz.func69, Tryz.ntmps69
  go_wp2
  go_ret
  exact ⟨rfl, rfl⟩
theorem gi_Same_lone (a : Addr) (w : World) : Calls Tryz.prog 69 #[.pointer (some a), .pointer none] w fun e w' => e = .returned (.bool false) ∧ w = w' := by
  go_enter Tryz.func69, Tryz.ntmps69
  go_wp2
  go_ret
  exact ⟨rfl, rfl⟩
end Go.Proofs.YtjdbedoabcbeeaaGreatDoor
/- Rows as columns: no program in sight. -/
namespace Go.Proofs.YtjdbedoabcbeeaaGreatDoor
set_option linter.unusedVariables false
set_option linter.unusedSimpArgs false

theorem pos_lt {rows cols j : Nat} (hj : j < rows * cols) : 0 < cols ∧ 0 < rows ∧ j / cols < rows ∧ j % cols < cols ∧ j % cols * rows + j / cols < rows * cols := by
  have hc : 0 < cols := by
    rcases Nat.eq_zero_or_pos cols with h | h
    · subst h; omega
    · exact h
  have h1 : j / cols < rows := by rw [Nat.div_lt_iff_lt_mul hc]; exact hj
  have h2 : j % cols < cols := Nat.mod_lt _ hc
  refine ⟨hc, Nat.lt_of_le_of_lt (Nat.zero_le _) h1, h1, h2, ?_⟩
  have h3 : (j % cols + 1) * rows ≤ cols * rows := Nat.mul_le_mul_right _ h2
  rw [Nat.add_mul, Nat.one_mul, Nat.mul_comm cols rows] at h3
  exact Nat.lt_of_lt_of_le (Nat.add_lt_add_left h1 _) h3
theorem pos_inj {rows cols j k : Nat} (hj : j < rows * cols) (hk : k < rows * cols) (h : j % cols * rows + j / cols = k % cols * rows + k / cols) : j = k := by
  obtain ⟨hc, hr, j1, j2, _⟩ := pos_lt hj
  obtain ⟨_, _, k1, k2, _⟩ := pos_lt hk
  have e1 : (j % cols * rows + j / cols) / rows = j % cols := by
    rw [Nat.mul_comm, Nat.mul_add_div hr, Nat.div_eq_of_lt j1, Nat.add_zero]
  have e2 : (k % cols * rows + k / cols) / rows = k % cols := by
    rw [Nat.mul_comm, Nat.mul_add_div hr, Nat.div_eq_of_lt k1, Nat.add_zero]
  have e3 : j % cols = k % cols := by rw [← e1, ← e2, h]
  have e4 : j / cols = k / cols := by rw [e3] at h; omega
  rw [← Nat.div_add_mod j cols, ← Nat.div_add_mod k cols, e3, e4]
section
variable {α : Type} (z : α) (xs : List α) (rows cols : Nat) (hl : xs.length = rows * cols)
include hl
theorem turnTo_get (k : Nat) (hk : k ≤ xs.length) : ∀ j, j < k → (turnTo z xs rows cols k)[j % cols * rows + j / cols]? = some (xs.getD j z) := by
  induction k with
  | zero => intro j hj; omega
  | succ k ih =>
    intro j hj
    rw [turnTo_succ]
    by_cases e : j = k
    · subst e
      rw [List.getElem?_set_self]
      rw [turnTo_length, hl]
      exact (pos_lt (by omega)).2.2.2.2
    · rw [List.getElem?_set_ne]
      · exact ih (by omega) j (by omega)
      · intro h
        exact e (pos_inj (rows := rows) (cols := cols) (by omega) (by omega) h).symm
/-- Place (c, r) of the turned table. -/
theorem turned_at (r c : Nat) (hr : r < rows) (hc : c < cols) : (turnTo z xs rows cols xs.length)[c * rows + r]? = some (xs.getD (r * cols + c) z) := by
  have hj : r * cols + c < xs.length := by rw [hl]; exact place_lt hr hc
  have h := turnTo_get z xs rows cols hl xs.length (Nat.le_refl _) (r * cols + c) hj
  have e1 : (r * cols + c) % cols = c := by rw [Nat.mul_comm, Nat.mul_add_mod, Nat.mod_eq_of_lt hc]
  have e2 : (r * cols + c) / cols = r := by rw [Nat.mul_comm, Nat.mul_add_div (by omega), Nat.div_eq_of_lt hc, Nat.add_zero]
  rw [e1, e2] at h
  exact h
theorem turned_twice : turnTo z (turnTo z xs rows cols xs.length) cols rows (turnTo z xs rows cols xs.length).length = xs := by
  have hl2 : (turnTo z xs rows cols xs.length).length = cols * rows := by rw [turnTo_length, hl, Nat.mul_comm]
  apply List.ext_getElem?
  intro i
  by_cases hi : i < xs.length
  · obtain ⟨hc, hr, i1, i2, _⟩ := pos_lt (rows := rows) (cols := cols) (j := i) (by omega)
    have h := turned_at z (turnTo z xs rows cols xs.length) cols rows hl2 (i % cols) (i / cols) i2 i1
    have e : i / cols * cols + i % cols = i := by rw [Nat.mul_comm]; exact Nat.div_add_mod i cols
    rw [e] at h
    rw [h, List.getD_eq_getElem?_getD, turned_at z xs rows cols hl (i / cols) (i % cols) i1 i2, e, List.getD_eq_getElem?_getD, List.getElem?_eq_getElem hi]
    rfl
  · rw [List.getElem?_eq_none (by rw [turnTo_length, turnTo_length]; omega), List.getElem?_eq_none (by omega)]
end
/-- Is a square table the same, turned? -/
theorem turned_same {α : Type} (z : α) (xs : List α) (m : Nat) (hl : xs.length = m * m) : turnTo z xs m m xs.length = xs ↔ ∀ r c, r < m → c < m → xs.getD (r * m + c) z = xs.getD (c * m + r) z := by
  constructor
  · intro h r c hr hc
    have := turned_at z xs m m hl r c hr hc
    rw [h] at this
    rw [List.getD_eq_getElem?_getD (i := c * m + r), this]
    rfl
  · intro h
    apply List.ext_getElem?
    intro i
    by_cases hi : i < xs.length
    · obtain ⟨hc, hr, i1, i2, _⟩ := pos_lt (rows := m) (cols := m) (j := i) (by omega)
      have e : i / m * m + i % m = i := by rw [Nat.mul_comm]; exact Nat.div_add_mod i m
      have := turned_at z xs m m hl (i % m) (i / m) i2 i1
      rw [e] at this
      rw [this, h (i % m) (i / m) i2 i1, e, List.getD_eq_getElem?_getD, List.getElem?_eq_getElem hi]
      rfl
    · rw [List.getElem?_eq_none (by rw [turnTo_length]; omega), List.getElem?_eq_none (by omega)]
end Go.Proofs.YtjdbedoabcbeeaaGreatDoor
/- Package topo (layer 3): counts, the processors' nodes. -/
namespace Go.Proofs.YtjdbedoabcbeeaaGreatDoor
open Go.RowKit
set_option linter.unusedVariables false
set_option linter.unusedSimpArgs false
attribute [local go_sem] World.cell?_alloc_lt

structure RowV where
  a : Option Addr
  c : Nat
  zs : List Int
/-- A slice of rows of ints. -/
structure InRs (w : World) (A : Option Addr) (n : Nat) (D : List RowV) : Prop where
  ln : D.length = n
  at_ : 0 < n → ∃ b off, A = some ⟨b, off, none⟩ ∧ b < w.heap.size ∧ ∀ j r, D[j]? = some r → w.cell? ⟨b, off + j, none⟩ = some (.slice r.a r.zs.length r.c) ∧ InI w r.a r.zs.length r.zs ∧ r.zs.length ≤ 9223372036854775807
theorem InRs.below {w w' : World} {A : Option Addr} {n : Nat} {D : List RowV} (h : InRs w A n D) (k : Below w.heap.size w w') : InRs w' A n D :=
  ⟨h.ln, fun hn => by
    obtain ⟨b, off, ha, hb, hc⟩ := h.at_ hn
    exact ⟨b, off, ha, Nat.lt_of_lt_of_le hb k.size, fun j r hj => ⟨(k.cell (p := ⟨b, off + j, none⟩) hb).trans (hc j r hj).1, (hc j r hj).2.1.below k, (hc j r hj).2.2⟩⟩⟩
structure TopoV where
  N : Int
  F : Int
  ca : Option Addr
  cc : Nat
  cs : List Int
  da : Option Addr
  dc : Nat
  ds : List RowV
def TopoV.val (t : TopoV) : Value := .agg #[.int .i64 t.N, .int .i64 t.F, .slice t.ca t.cs.length t.cc, .slice t.da t.ds.length t.dc]
structure InTopo (w : World) (t : TopoV) : Prop where
  c : InI w t.ca t.cs.length t.cs
  d : InRs w t.da t.ds.length t.ds
  c63 : t.cs.length ≤ 9223372036854775807
  d63 : t.ds.length ≤ 9223372036854775807
theorem InTopo.below {w w' : World} {t : TopoV} (h : InTopo w t) (k : Below w.heap.size w w') : InTopo w' t := ⟨h.c.below k, h.d.below k, h.c63, h.d63⟩
def pows : List Int := [1, 2, 4, 8, 16, 32, 64, 128, 256, 512, 1024]
theorem pow_bits (F : Int) (h1 : 1 ≤ F) (h2 : F ≤ 1024) : (bits .and .i64 F (F - 1) == 0) = decide (F ∈ pows) := by
  obtain ⟨k, rfl⟩ := Int.eq_ofNat_of_zero_le (show 0 ≤ F by omega)
  have key : ∀ k : Nat, k < 1025 → 1 ≤ k → (bits .and .i64 (k : Int) ((k : Int) - 1) == 0) = decide ((k : Int) ∈ pows) := by decide +kernel
  exact key k (by omega) (by omega)
theorem pow_bd {F : Int} (h : F ∈ pows) : 1 ≤ F ∧ F ≤ 1024 := by
  simp [pows] at h
  omega
/-- Are the counts as they must be? -/
def cntB (t : TopoV) : Bool := decide (t.F ∈ pows) && (decide (1 ≤ t.N ∧ t.N ≤ 8) && decide (1 ≤ t.cs.length ∧ t.cs.length ≤ 16))
set_option maxRecDepth 100000 in
theorem topo_counts (t : TopoV) (w : World) (h63 : t.cs.length ≤ 9223372036854775807) : Calls Tryz.prog 39 #[t.val] w fun e w' => e = .returned (.bool (cntB t)) ∧ Below w.heap.size w w' := by
  have hb := Blk.new w 30 [.int .i64 t.N, .int .i64 t.F, .slice t.ca t.cs.length t.cc, .slice t.da t.ds.length t.dc]
  unfold cntB TopoV.val
  generalize t.N = N at *
  generalize t.F = F at *
  generalize t.cs.length = n at *
  generalize t.ds.length = m at *
  have hba : Below w.heap.size w (w.alloc (.cells #[.int .i64 N, .int .i64 F, .slice t.ca n t.cc, .slice t.da m t.dc] 30)) := bel_alloc (Below.refl _ _) _
  have HBA := Lib.hid hba
  clear hb hba
  by_cases h : 1 ≤ F ∧ F ≤ 1024
  · have hp := pow_bits F h.1 h.2
    cases hd : decide (F ∈ pows) with
    | false =>
      rw [hd] at hp
      obtain ⟨h1, h2⟩ := h
      have HD := Lib.hid hd; clear hd
      go_enter Tryz.func39, Tryz.ntmps39
      go_wp2_with fail
      go_ret
      exact ⟨rfl, HBA.out⟩
    | true =>
      rw [hd] at hp
      obtain ⟨h1, h2⟩ := h
      have HD := Lib.hid hd; clear hd
      go_enter Tryz.func39, Tryz.ntmps39
      go_wp2_with fail
      all_goals go_ret
      all_goals refine ⟨congrArg (fun b => Ending.returned (Value.bool b)) ?_, HBA.out⟩
      all_goals
        rw [Bool.eq_iff_iff]
        simp
        try omega
  · have hd : decide (F ∈ pows) = false := decide_eq_false fun hm => h (pow_bd hm)
    rw [hd, Bool.false_and]
    rcases Classical.em (1 ≤ F) with h1 | h1
    · have h2 : ¬ F ≤ 1024 := fun h2 => h ⟨h1, h2⟩
      clear h hd
      go_enter Tryz.func39, Tryz.ntmps39
      go_wp2_with fail
      go_ret
      exact ⟨rfl, HBA.out⟩
    · clear h hd
      go_enter Tryz.func39, Tryz.ntmps39
      go_wp2_with fail
      go_ret
      exact ⟨rfl, HBA.out⟩
end Go.Proofs.YtjdbedoabcbeeaaGreatDoor
