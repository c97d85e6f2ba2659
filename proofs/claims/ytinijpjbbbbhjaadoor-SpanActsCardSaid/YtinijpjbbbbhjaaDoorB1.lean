/- Walks of package span (layer 13). -/
import Derived.Test.YtinijpjbbbbhjaaDoorA4
import Derived.Lib.Hide
namespace Go.Proofs.YtinijpjbbbbhjaaDoor
open Go.RowKit
set_option linter.unusedVariables false
attribute [local go_sem] World.cell?_alloc_lt

def tzN (t : Nat) : Nat := if t % 2 = 1 then 0 else if t / 2 % 2 = 1 then 1 else if t / 4 % 2 = 1 then 2 else if t / 8 % 2 = 1 then 3 else if t / 16 % 2 = 1 then 4 else if t / 32 % 2 = 1 then 5 else if t / 64 % 2 = 1 then 6 else if t / 128 % 2 = 1 then 7 else 8
def ocN (t : Nat) : Nat := t % 2 + t / 2 % 2 + t / 4 % 2 + t / 8 % 2 + t / 16 % 2 + t / 32 % 2 + t / 64 % 2 + t / 128 % 2
def orN (t i : Nat) : Nat := if t / 2 ^ i % 2 = 1 then t else t + 2 ^ i
def anN (t i : Nat) : Nat := if t / 2 ^ i % 2 = 1 then t - 2 ^ i else t
set_option maxRecDepth 100000 in
theorem tz8 (t : Nat) (ht : t < 256) (w : World) : Calls Tryd.prog 33 #[.int .u8 t] w fun e w' => e = .returned (.int .i64 (tzN t)) ∧ w = w' := by
  go_enter Tryd.func33, Tryd.ntmps33
  go_wp2
  go_ret
  refine ⟨ret_int ?_, rfl⟩
  clear w
  revert t
  decide +kernel
set_option maxRecDepth 100000 in
theorem oc8 (t : Nat) (ht : t < 256) (w : World) : Calls Tryd.prog 34 #[.int .u8 t] w fun e w' => e = .returned (.int .i64 (ocN t)) ∧ w = w' := by
  go_enter Tryd.func34, Tryd.ntmps34
  go_wp2
  go_ret
  refine ⟨ret_int ?_, rfl⟩
  clear w
  revert t
  decide +kernel
theorem xor8 : ∀ t : Nat, t < 256 → bits BinOp.xor IntKind.u8 IntKind.u8.max (t : Int) = ((255 - t : Nat) : Int) := by decide +kernel
theorem or8 : ∀ t : Nat, t < 256 → ∀ i : Nat, i < 8 → bits BinOp.or IntKind.u8 (t : Int) (2 ^ i % 256) = (orN t i : Int) := by decide +kernel
theorem an8 : ∀ t : Nat, t < 256 → ∀ i : Nat, i < 8 → bits BinOp.andNot IntKind.u8 (t : Int) (2 ^ i % 256) = (anN t i : Int) := by decide +kernel

/-- A span at block g: its class, its bits. -/
structure SpanAt (w : World) (g : Nat) (c : Int) (t : Nat) : Prop where
  blk : w.heap[g]? = some (.cells #[.int .i64 c, .int .i64 (szOf c), .int .i64 (cntOf c), .int .u8 (t : Int)] 56 (0, 0))
  c0 : 0 ≤ c
  c3 : c ≤ 3
  ht : t < 256

theorem SpanAt.cells {w : World} {g : Nat} {c : Int} {t : Nat} (h : SpanAt w g c t) : w.cell? ⟨g, 0, none⟩ = some (.int .i64 c) ∧ w.cell? ⟨g, 1, none⟩ = some (.int .i64 (szOf c)) ∧ w.cell? ⟨g, 2, none⟩ = some (.int .i64 (cntOf c)) ∧ w.cell? ⟨g, 3, none⟩ = some (.int .u8 (t : Int)) ∧ w.frozen? ⟨g, 3, none⟩ = false := by
  simp [World.cell?, World.frozen?, h.blk]
theorem SpanAt.lt {w : World} {g : Nat} {c : Int} {t : Nat} (h : SpanAt w g c t) : g < w.heap.size := World.block_lt_of_cell? w _ h.cells.1
theorem SpanAt.below {w w' : World} {g : Nat} {c : Int} {t : Nat} (h : SpanAt w g c t) (hb : Below w.heap.size w w') : SpanAt w' g c t := ⟨(hb.block g h.lt).trans h.blk, h.c0, h.c3, h.ht⟩
theorem SpanAt.dn {w : World} {g : Nat} {c : Int} {t : Nat} (h : SpanAt w g c t) (n : Nat) : SpanAt (w.drewN n) g c t := ⟨h.blk, h.c0, h.c3, h.ht⟩
theorem SpanAt.stored {w : World} {g : Nat} {c : Int} {t : Nat} (h : SpanAt w g c t) (t' : Nat) (ht : t' < 256) : SpanAt (w.setCell ⟨g, 3, none⟩ (.int .u8 (t' : Int))).drew g c t' ∧ w.grownBy (w.setCell ⟨g, 3, none⟩ (.int .u8 (t' : Int))).drew (some g) := by
  refine ⟨⟨?_, h.c0, h.c3, ht⟩, ⟨rfl, rfl, rfl, by simp, fun k hk hne => ?_⟩⟩
  · show (w.setCell ⟨g, 3, none⟩ (.int .u8 (t' : Int))).heap[g]? = _
    simp [World.setCell, Array.getElem?_modify, h.blk]
  · exact Below.heap_setCell _ _ _ _ (by simpa using hne)

theorem new_yes (c : Int) (w : World) (hT : Tab w) (h : 0 ≤ c) (h3 : c ≤ 3) : Calls Tryd.prog 17 #[.int .i64 c] w fun e w' => ∃ g, e = .returned (.tuple #[.pointer (some ⟨g, 0, none⟩), .int .i64 0]) ∧ w.heap.size ≤ g ∧ SpanAt w' g c 0 ∧ Below w.heap.size w w' := by
  go_enter Tryd.func17, Tryd.ntmps17
  go_wp2_with fail
  refine (count_yes _ w hT h h3).mono ?_; rintro e w1 ⟨rfl, hb⟩
  go_wp2_with fail
  refine (size_yes _ _ (hT.below hb) h h3).mono ?_; rintro e w2 ⟨rfl, hb2⟩
  have hb2 := bel_trans hb hb2
  go_wp2
  go_ret2
  exact ⟨_, rfl, hb2.size, ⟨heap_alloc_new _ _, h, h3, by omega⟩, bel_alloc hb2 _⟩
theorem new_no (c : Int) (w : World) (h : c < 0 ∨ 4 ≤ c) : Calls Tryd.prog 17 #[.int .i64 c] w fun e w' => e = .returned (.tuple #[.pointer none, .int .i64 1]) ∧ Below w.heap.size w w' := by
  go_enter Tryd.func17, Tryd.ntmps17
  go_wp2_with fail
  refine (count_no _ w h).mono ?_; rintro e w1 ⟨rfl, hb⟩
  go_wp2
  go_ret2
  exact ⟨rfl, hb⟩

theorem take_yes (g : Nat) (c : Int) (t i : Nat) (w : World) (hS : SpanAt w g c t) (hi : tzN (255 - t) = i) (hc : (i : Int) < cntOf c) (h8 : i < 8) (ho : orN t i < 256) :
    Calls Tryd.prog 20 #[.pointer (some ⟨g, 0, none⟩)] w fun e w' => e = .returned (.tuple #[.int .i64 i, .int .i64 0]) ∧ SpanAt w' g c (orN t i) ∧ w.grownBy w' (some g) := by
  obtain ⟨k0, k1, k2, k3, f3⟩ := hS.cells
  have ht := hS.ht
  have st := hS.stored _ ho
  have HS := Lib.hid st; clear st
  have HO := Lib.hid (or8 t ht _ h8)
  have HI := Lib.hid hi; clear hi
  go_enter Tryd.func20, Tryd.ntmps20
  go_wp2_with fail
  rw [xor8 t ht]
  refine (tz8 _ (by omega) w).mono ?_; rintro e w1 ⟨rfl, rfl⟩
  rw [HI.out]
  go_wp2_with fail
  go_region
  go_wp2
  go_ret2
  rw [HO.out]
  exact ⟨rfl, HS.out⟩
theorem take_no (g : Nat) (c : Int) (t : Nat) (w : World) (hS : SpanAt w g c t) (hc : cntOf c ≤ (tzN (255 - t) : Int)) :
    Calls Tryd.prog 20 #[.pointer (some ⟨g, 0, none⟩)] w fun e w' => e = .returned (.tuple #[.int .i64 0, .int .i64 14]) ∧ w = w' := by
  obtain ⟨k0, k1, k2, k3, f3⟩ := hS.cells
  have ht := hS.ht
  go_enter Tryd.func20, Tryd.ntmps20
  go_wp2_with fail
  rw [xor8 t ht]
  refine (tz8 _ (by omega) w).mono ?_; rintro e w1 ⟨rfl, rfl⟩
  generalize tzN (255 - t) = i at *
  go_wp2_with fail
  go_ret2
  exact ⟨rfl, rfl⟩
theorem take_nil (w : World) : Calls Tryd.prog 20 #[.pointer none] w fun e w' => e = .returned (.tuple #[.int .i64 0, .int .i64 1]) ∧ w = w' := by
  go_enter Tryd.func20, Tryd.ntmps20
  go_wp2
  go_ret2
  exact ⟨rfl, rfl⟩
theorem used_at (g : Nat) (c : Int) (t : Nat) (w : World) (hS : SpanAt w g c t) : Calls Tryd.prog 24 #[.pointer (some ⟨g, 0, none⟩)] w fun e w' => e = .returned (.int .i64 (ocN t)) ∧ w = w' := by
  obtain ⟨k0, k1, k2, k3, f3⟩ := hS.cells
  have ht := hS.ht
  go_enter Tryd.func24, Tryd.ntmps24
  go_wp2_with fail
  refine (oc8 _ ht w).mono ?_; rintro e w1 ⟨rfl, rfl⟩
  go_wp2
  go_ret
  exact ⟨rfl, rfl⟩
theorem used_nil (w : World) : Calls Tryd.prog 24 #[.pointer none] w fun e w' => e = .returned (.int .i64 0) ∧ w = w' := by
  go_enter Tryd.func24, Tryd.ntmps24
  go_wp2
  go_ret
  exact ⟨rfl, rfl⟩
theorem class_at (g : Nat) (c : Int) (t : Nat) (w : World) (hS : SpanAt w g c t) : Calls Tryd.prog 27 #[.pointer (some ⟨g, 0, none⟩)] w fun e w' => e = .returned (.int .i64 c) ∧ w = w' := by
  obtain ⟨k0, k1, k2, k3, f3⟩ := hS.cells
  go_enter Tryd.func27, Tryd.ntmps27
  go_wp2
  go_ret
  exact ⟨rfl, rfl⟩
theorem class_nil (w : World) : Calls Tryd.prog 27 #[.pointer none] w fun e w' => e = .returned (.int .i64 (-1)) ∧ w = w' := by
  go_enter Tryd.func27, Tryd.ntmps27
  go_wp2
  go_ret
  exact ⟨rfl, rfl⟩
theorem empty_at (g : Nat) (c : Int) (t : Nat) (w : World) (hS : SpanAt w g c t) : Calls Tryd.prog 23 #[.pointer (some ⟨g, 0, none⟩)] w fun e w' => e = .returned (.bool ((ocN t : Int) == 0)) ∧ w = w' := by
  go_enter Tryd.func23, Tryd.ntmps23
  go_wp2_with fail
  refine (used_at g c t w hS).mono ?_; rintro e w1 ⟨rfl, rfl⟩
  go_wp2
  go_ret
  exact ⟨rfl, rfl⟩
theorem empty_nil (w : World) : Calls Tryd.prog 23 #[.pointer none] w fun e w' => e = .returned (.bool true) ∧ w = w' := by
  go_enter Tryd.func23, Tryd.ntmps23
  go_wp2_with fail
  refine (used_nil w).mono ?_; rintro e w1 ⟨rfl, rfl⟩
  go_wp2
  go_ret
  exact ⟨rfl, rfl⟩
theorem full_at (g : Nat) (c : Int) (t : Nat) (w : World) (hS : SpanAt w g c t) : Calls Tryd.prog 21 #[.pointer (some ⟨g, 0, none⟩)] w fun e w' => e = .returned (.bool ((ocN t : Int) == cntOf c)) ∧ Below w.heap.size w w' := by
  obtain ⟨k0, k1, k2, k3, f3⟩ := hS.cells
  go_enter Tryd.func21, Tryd.ntmps21
  go_wp2_with fail
  go_quiet ((go_at_call 24; exact Calls.quiet_of_same ((used_at g c t _ (hS.dn _)).mono fun _ _ h => ⟨h.1, h.2.symm⟩)))
  go_wp2
  go_ret
  exact ⟨rfl, bel_drewN (Below.refl _ _) _⟩
theorem full_nil (w : World) : Calls Tryd.prog 21 #[.pointer none] w fun e w' => e = .returned (.bool false) ∧ Below w.heap.size w w' := by
  go_enter Tryd.func21, Tryd.ntmps21
  go_wp2_with fail
  go_region
  go_wp2
  go_ret
  exact ⟨rfl, bel_drew (Below.refl _ _)⟩

theorem has_no (g : Nat) (c : Int) (t : Nat) (i : Int) (w : World) (hS : SpanAt w g c t) (h : i < 0 ∨ cntOf c ≤ i) : Calls Tryd.prog 26 #[.pointer (some ⟨g, 0, none⟩), .int .i64 i] w fun e w' => e = .returned (.bool false) ∧ w = w' := by
  obtain ⟨k0, k1, k2, k3, f3⟩ := hS.cells
  rcases (by omega : i < 0 ∨ (0 ≤ i ∧ cntOf c ≤ i)) with h' | ⟨h', h''⟩
  all_goals
    go_enter Tryd.func26, Tryd.ntmps26
    go_wp2
    go_ret
    exact ⟨rfl, rfl⟩
theorem hasb : ∀ t : Nat, t < 256 → ∀ k : Nat, k < 8 → (bits BinOp.and IntKind.u8 ((t : Int) / 2 ^ min k 8) 1 == 1) = decide (t / 2 ^ k % 2 = 1) := by decide +kernel
theorem cnt8 (c : Int) : cntOf c ≤ 8 := by unfold cntOf; split <;> omega
theorem has_at (g : Nat) (c : Int) (t : Nat) (i : Int) (w : World) (hS : SpanAt w g c t) (h : 0 ≤ i) (h' : i < cntOf c) : Calls Tryd.prog 26 #[.pointer (some ⟨g, 0, none⟩), .int .i64 i] w fun e w' => e = .returned (.bool (decide (t / 2 ^ i.toNat % 2 = 1))) ∧ w = w' := by
  obtain ⟨k0, k1, k2, k3, f3⟩ := hS.cells
  have ht := hS.ht
  go_enter Tryd.func26, Tryd.ntmps26
  go_wp2
  go_ret
  have h8 := cnt8 c
  rw [hasb t ht i.toNat (by omega)]
  exact ⟨rfl, rfl⟩
theorem has_nil (i : Int) (w : World) : Calls Tryd.prog 26 #[.pointer none, .int .i64 i] w fun e w' => e = .returned (.bool false) ∧ w = w' := by
  go_enter Tryd.func26, Tryd.ntmps26
  go_wp2
  go_ret
  exact ⟨rfl, rfl⟩
theorem give_nil (i : Int) (w : World) : Calls Tryd.prog 22 #[.pointer none, .int .i64 i] w fun e w' => e = .returned (.int .i64 1) ∧ w = w' := by
  go_enter Tryd.func22, Tryd.ntmps22
  go_wp2
  go_ret
  exact ⟨rfl, rfl⟩
theorem give_no (g : Nat) (c : Int) (t : Nat) (i : Int) (w : World) (hS : SpanAt w g c t) (h : (i < 0 ∨ cntOf c ≤ i) ∨ (0 ≤ i ∧ i < cntOf c ∧ ¬ t / 2 ^ i.toNat % 2 = 1)) : Calls Tryd.prog 22 #[.pointer (some ⟨g, 0, none⟩), .int .i64 i] w fun e w' => e = .returned (.int .i64 6) ∧ w = w' := by
  rcases h with h | ⟨h, h', h''⟩
  · go_enter Tryd.func22, Tryd.ntmps22
    go_wp2_with fail
    refine (has_no g c t i _ hS h).mono ?_; rintro e w1 ⟨rfl, rfl⟩
    go_wp2_with fail
    go_ret
    exact ⟨rfl, rfl⟩
  · have hx := decide_eq_false h''
    have HX := Lib.hid hx; clear hx h''
    go_enter Tryd.func22, Tryd.ntmps22
    go_wp2_with fail
    refine (has_at g c t i _ hS h h').mono ?_; rintro e w1 ⟨rfl, rfl⟩
    rw [HX.out]
    go_wp2_with fail
    go_ret
    exact ⟨rfl, rfl⟩
theorem give_yes (g : Nat) (c : Int) (t i : Nat) (w : World) (hS : SpanAt w g c t) (h' : (i : Int) < cntOf c) (h'' : t / 2 ^ i % 2 = 1) (ho : anN t i < 256) : Calls Tryd.prog 22 #[.pointer (some ⟨g, 0, none⟩), .int .i64 i] w fun e w' => e = .returned (.int .i64 0) ∧ SpanAt w' g c (anN t i) ∧ w.grownBy w' (some g) := by
  obtain ⟨k0, k1, k2, k3, f3⟩ := hS.cells
  have ht := hS.ht
  have h8 := cnt8 c
  have hx := decide_eq_true h''
  have HX := Lib.hid hx; clear hx h''
  have st := hS.stored _ ho
  have HS := Lib.hid st; clear st
  have HO := Lib.hid (an8 t ht i (by omega))
  go_enter Tryd.func22, Tryd.ntmps22
  go_wp2_with fail
  refine (has_at g c t i _ hS (by omega) h').mono ?_; rintro e w1 ⟨rfl, rfl⟩
  rw [Int.toNat_natCast, HX.out]
  go_wp2_with fail
  go_region
  go_wp2
  go_ret
  rw [HO.out]
  exact ⟨rfl, HS.out⟩

theorem sz_pos (c : Int) : 8 ≤ szOf c ∧ szOf c ≤ 64 := by unfold szOf; split; omega; split; omega; split <;> omega
theorem cnt_pos (c : Int) : 4 ≤ cntOf c := by unfold cntOf; split <;> omega
theorem index_nil (i : Int) (w : World) : Calls Tryd.prog 19 #[.pointer none, .int .i64 i] w fun e w' => e = .returned (.tuple #[.int .i64 0, .int .i64 1]) ∧ w = w' := by
  go_enter Tryd.func19, Tryd.ntmps19
  go_wp2
  go_ret2
  exact ⟨rfl, rfl⟩
theorem index_neg (g : Nat) (c : Int) (t : Nat) (i : Int) (w : World) (hS : SpanAt w g c t) (h : i < 0) : Calls Tryd.prog 19 #[.pointer (some ⟨g, 0, none⟩), .int .i64 i] w fun e w' => e = .returned (.tuple #[.int .i64 0, .int .i64 6]) ∧ Below w.heap.size w w' := by
  obtain ⟨k0, k1, k2, k3, f3⟩ := hS.cells
  go_enter Tryd.func19, Tryd.ntmps19
  go_wp2_with fail
  go_quiet (fail)
  go_wp2
  go_ret2
  exact ⟨rfl, bel_drewN (Below.refl _ _) _⟩
end Go.Proofs.YtinijpjbbbbhjaaDoor
