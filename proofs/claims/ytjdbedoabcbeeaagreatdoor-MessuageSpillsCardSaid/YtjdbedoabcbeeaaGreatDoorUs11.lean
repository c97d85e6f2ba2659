/- Parts of the proof: Nodes, Order. -/
import Derived.Test.YtjdbedoabcbeeaaGreatDoorUs8
import Derived.Test.YtjdbedoabcbeeaaGreatDoorUs3
import Derived.Lib.Hide
import Derived.Test.YtjdbedoabcbeeaaGreatDoorUs10
import Derived.Lib.SliceRun
/- Package nodeset (layer 1): the small functions. -/
namespace Go.Proofs.YtjdbedoabcbeeaaGreatDoor
open Go.RowKit
set_option linter.unusedVariables false
set_option linter.unusedSimpArgs false
attribute [local go_sem] World.cell?_alloc_lt

def tzN (t : Nat) : Nat := if t % 2 = 1 then 0 else if t / 2 % 2 = 1 then 1 else if t / 4 % 2 = 1 then 2 else if t / 8 % 2 = 1 then 3 else if t / 16 % 2 = 1 then 4 else if t / 32 % 2 = 1 then 5 else if t / 64 % 2 = 1 then 6 else if t / 128 % 2 = 1 then 7 else 8
def ocN (t : Nat) : Nat := t % 2 + t / 2 % 2 + t / 4 % 2 + t / 8 % 2 + t / 16 % 2 + t / 32 % 2 + t / 64 % 2 + t / 128 % 2
/-- The nodes of a set, rising. -/
def nodesN (t : Nat) : List Nat := (List.range 8).filter (fun i => t / 2 ^ i % 2 = 1)
def dropN (t : Nat) : Nat := t - 2 ^ tzN t
set_option maxRecDepth 100000 in
theorem tz8 (t : Nat) (ht : t < 256) (w : World) : Calls Tryz.prog 133 #[.int .u8 t] w fun e w' => e = .returned (.int .i64 (tzN t)) ∧ w = w' := by
  go_enter Tryz.func133, Tryz.ntmps133
  go_wp2
  go_ret
  refine ⟨ret_int ?_, rfl⟩
  clear w
  revert t
  decide +kernel
set_option maxRecDepth 100000 in
theorem oc8 (t : Nat) (ht : t < 256) (w : World) : Calls Tryz.prog 165 #[.int .u8 t] w fun e w' => e = .returned (.int .i64 (ocN t)) ∧ w = w' := by
  go_enter Tryz.func165, Tryz.ntmps165
  go_wp2
  go_ret
  refine ⟨ret_int ?_, rfl⟩
  clear w
  revert t
  decide +kernel
theorem ret_bool2 {a b : Bool} (h : a = b) : Ending.returned (.bool a) = .returned (.bool b) := by rw [h]
theorem and8 : ∀ t : Nat, t < 256 → 0 < t → bits BinOp.and IntKind.u8 (t : Int) ((t : Int) - 1) = (dropN t : Int) := by decide +kernel
theorem nodes_tz : ∀ t : Nat, t < 256 → 0 < t → nodesN t = tzN t :: nodesN (dropN t) ∧ dropN t < t := by decide +kernel
theorem nodes_lt : ∀ t : Nat, t < 256 → ∀ i ∈ nodesN t, i < 8 := by decide +kernel
theorem nodes_len : ∀ t : Nat, t < 256 → (nodesN t).length ≤ 8 := by decide +kernel
def ofN (n : Nat) : Value := .int .i64 (n : Int)
theorem list_at (s : Nat) (hs : s < 256) (w0 : World) : Calls Tryz.prog 186 #[.int .u8 s] w0 fun e w' => ∃ A c, e = .returned (.slice A (nodesN s).length c) ∧ w'.ownsRow w0.heap.size 3 1 (.slice A (nodesN s).length c) (nodesN s).length ((nodesN s).map ofN) ∧ Below w0.heap.size w0 w' := by
  go_enter Tryz.func186, Tryz.ntmps186
  go_wp2_with fail
  go_loopw [0, 3] (fun vt vl wx => ∃ (t : Nat) (xs : List Nat) (A : Option Addr) (c : Nat), t < 256 ∧ xs ++ nodesN t = nodesN s ∧ vt = .int .u8 t ∧ vl = .slice A xs.length c ∧ wx.ownsRow w0.heap.size 3 1 (.slice A xs.length c) xs.length (xs.map ofN) ∧ Below w0.heap.size w0 wx) (fun t _ _ => (intOf t).toNat)
  case atStart => exact ⟨s, [], none, 0, hs, rfl, rfl, rfl, World.ownsRow_nil _ _ _ _, Below.refl _ _⟩
  case round =>
    obtain ⟨t, xs, A, c, ht, hx, rfl, rfl, hown, hB⟩ := hrel
    have hl8 : xs.length ≤ 8 := by
      have := nodes_len s hs
      rw [← hx, List.length_append] at this
      omega
    have HX := Lib.hid hx; clear hx
    by_cases h0 : 0 < t
    · obtain ⟨e1, e2⟩ := nodes_tz t ht h0
      have e3 := and8 t ht h0
      have E1 := Lib.hid e1; have E3 := Lib.hid e3; clear e1 e3
      go_wp2_with fail
      refine (tz8 t ht wr).mono ?_; rintro e w1 ⟨rfl, rfl⟩
      go_wp2_with (at_builtin; refine wpList_push _ rfl (.tmp 10) (.tmp 13) 27 rfl w0.heap.size 3 (.int .i64 0) 8 Tryz.underlying27 info_int rfl A xs.length c (xs.map ofN) rfl (hown.alloc _) _ 1 (ofN (tzN t)) rfl ?_ rfl (by omega) (by omega) ?_ ?_)
      · exact World.cell?_alloc_new _ _ _ 0
      · simp; have := hB.size; omega
      intro ga cp w4 hown4 hgr4 hor
      have hB4 := (bel_alloc hB (.cells #[ofN (tzN t)] 3)).grown hgr4 (by simp; have := hB.size; omega) (fun k hk => (own_base hown k hk).1)
      have hlen : (xs ++ [tzN t]).length = xs.length + 1 := by simp
      have hown4 : w4.ownsRow w0.heap.size 3 1 (.slice (some ⟨ga, 0, none⟩) (xs.length + 1) cp) (xs.length + 1) ((xs ++ [tzN t]).map ofN) := by rw [List.map_append]; exact hown4
      clear hown hgr4 hor hB
      go_wp2
      go_roundw
      case rel => exact ⟨dropN t, xs ++ [tzN t], _, _, by omega, by rw [List.append_assoc]; simpa [E1.out] using HX.out, by rw [E3.out], by rw [hlen], by rw [hlen]; exact hown4, hB4⟩
      case measure => rw [E3.out]; simp [intOf]; omega
    · obtain rfl : t = 0 := by omega
      have hx := HX.out
      rw [show nodesN 0 = [] from by decide, List.append_nil] at hx
      subst hx
      go_wp2
      go_ret
      exact ⟨_, _, rfl, hown, hB⟩
theorem right_at (n : Int) (w : World) : Calls Tryz.prog 96 #[.int .i64 n] w fun e w' => e = .returned (.bool (decide (0 ≤ n ∧ n < 8))) ∧ w = w' := by
  by_cases h : 0 ≤ n
  · by_cases h2 : n < 8
    · have e : decide (0 ≤ n ∧ n < 8) = true := decide_eq_true ⟨h, h2⟩
      rw [e]
      go_enter Tryz.func96, Tryz.ntmps96
      go_wp2
      go_ret
      exact ⟨rfl, rfl⟩
    · have e : decide (0 ≤ n ∧ n < 8) = false := decide_eq_false (fun e => h2 e.2)
      rw [e]
      go_enter Tryz.func96, Tryz.ntmps96
      go_wp2
      go_ret
      exact ⟨rfl, rfl⟩
  · have e : decide (0 ≤ n ∧ n < 8) = false := decide_eq_false (fun e => h e.1)
    rw [e]
    go_enter Tryz.func96, Tryz.ntmps96
    go_wp2
    go_ret
    exact ⟨rfl, rfl⟩
def hasN (s : Nat) (n : Int) : Bool := decide (0 ≤ n ∧ n < 8) && decide (s / 2 ^ n.toNat % 2 = 1)
theorem has_eq : ∀ t : Nat, t < 256 → ∀ i : Nat, i < 8 → (bits BinOp.and IntKind.u8 ((t : Int) / 2 ^ i) 1 == 1) = decide (t / 2 ^ i % 2 = 1) := by decide +kernel
theorem has_at (s : Nat) (hs : s < 256) (n : Int) (w : World) : Calls Tryz.prog 129 #[.int .u8 s, .int .i64 n] w fun e w' => e = .returned (.bool (hasN s n)) ∧ w = w' := by
  by_cases h : 0 ≤ n ∧ n < 8
  · obtain ⟨i, rfl⟩ := Int.eq_ofNat_of_zero_le h.1
    have hi : i < 8 := by omega
    have he : decide (0 ≤ (i : Int) ∧ (i : Int) < 8) = true := decide_eq_true h
    have HE := Lib.hid he; clear he
    have HQ := Lib.hid (has_eq s hs i hi)
    go_enter Tryz.func129, Tryz.ntmps129
    go_wp2_with fail
    refine (right_at i w).mono ?_; rintro e w1 ⟨rfl, rfl⟩
    rw [HE.out]
    go_wp2_with fail
    go_ret
    refine ⟨ret_bool2 ?_, rfl⟩
    unfold hasN
    rw [HE.out]
    simpa using HQ.out
  · have he : decide (0 ≤ n ∧ n < 8) = false := decide_eq_false h
    have HE := Lib.hid he; clear he h
    go_enter Tryz.func129, Tryz.ntmps129
    go_wp2_with fail
    refine (right_at n w).mono ?_; rintro e w1 ⟨rfl, rfl⟩
    rw [HE.out]
    go_wp2_with fail
    go_ret
    refine ⟨ret_bool2 ?_, rfl⟩
    unfold hasN
    rw [HE.out]
    rfl
def allN (n : Int) : Nat := 2 ^ n.toNat - 1
theorem all_eq : ∀ i : Nat, i < 9 → ((2 ^ i : Int) % 256 - 1) % 256 = (allN i : Int) := by decide +kernel
theorem all_at (n : Int) (h0 : 0 ≤ n) (h8 : n ≤ 8) (w : World) : Calls Tryz.prog 75 #[.int .i64 n] w fun e w' => e = .returned (.tuple #[.int .u8 (allN n), .int .i64 0]) ∧ w = w' := by
  obtain ⟨i, rfl⟩ := Int.eq_ofNat_of_zero_le h0
  have HQ := Lib.hid (all_eq i (by omega))
  go_enter Tryz.func75, Tryz.ntmps75
  go_wp2_with fail
  go_ret2
  rw [HQ.out]
  exact ⟨rfl, rfl⟩
/-- The first node behind one, going round. -/
def nextL (l : List Nat) (n : Int) : Nat := (l.find? (fun i : Nat => decide (n < (i : Int)))).getD (l.headD 0)
theorem nextL_hit : ∀ (l : List Nat) (n : Int) (i : Nat), i < l.length → (∀ j, j < i → ¬ n < (l.getD j 0 : Int)) → n < (l.getD i 0 : Int) → nextL l n = l.getD i 0 := by
  intro l n
  suffices ∀ (l : List Nat) (i : Nat), i < l.length → (∀ j, j < i → ¬ n < (l.getD j 0 : Int)) → n < (l.getD i 0 : Int) → l.find? (fun i : Nat => decide (n < (i : Int))) = some (l.getD i 0) by
    intro i h1 h2 h3
    unfold nextL
    rw [this l i h1 h2 h3]
    rfl
  intro l
  induction l with
  | nil => intro i h; simp at h
  | cons x l ih =>
    intro i h1 h2 h3
    match i with
    | 0 =>
      have h3 : n < (x : Int) := h3
      simp [h3]
    | i + 1 =>
      have h0 : ¬ n < (x : Int) := h2 0 (by omega)
      rw [List.find?_cons_of_neg (by simpa using h0)]
      exact ih i (by simpa using h1) (fun j hj => h2 (j + 1) (by omega)) h3
theorem nextL_miss (l : List Nat) (n : Int) (h : ∀ j, j < l.length → ¬ n < (l.getD j 0 : Int)) : nextL l n = l.getD 0 0 := by
  unfold nextL
  rw [List.find?_eq_none.2]
  · cases l <;> rfl
  · intro x hx
    obtain ⟨j, hj, rfl⟩ := List.getElem_of_mem hx
    have := h j hj
    simpa [List.getD_eq_getElem?_getD, List.getElem?_eq_getElem hj] using this
def nextN (s : Nat) (n : Int) : Nat := nextL (nodesN s) n
theorem nodes_pos : ∀ t : Nat, t < 256 → 0 < t → 0 < (nodesN t).length := by decide +kernel
theorem next_at (s : Nat) (hs : s < 256) (h0 : 0 < s) (n : Int) (w0 : World) : Calls Tryz.prog 173 #[.int .u8 s, .int .i64 n] w0 fun e w' => e = .returned (.tuple #[.int .i64 (nextN s n), .bool true]) ∧ Below w0.heap.size w0 w' := by
  have hpos := nodes_pos s hs h0
  have hmax := nodes_len s hs
  have hL := list_at s hs w0
  unfold nextN
  generalize nodesN s = l at *
  have HL := Lib.hid hL; clear hL
  go_enter Tryz.func173, Tryz.ntmps173
  go_wp2_with fail
  refine HL.out.mono ?_; rintro e w1 ⟨A, c, rfl, hown, hB⟩
  go_wp2_with fail
  go_loopw [13] (fun vi wx => ∃ (i : Nat), i ≤ l.length ∧ vi = .int .i64 i ∧ (∀ j, j < i → ¬ n < (l.getD j 0 : Int)) ∧ wx = w1) (fun i _ => l.length - (intOf i).toNat)
  case atStart => exact ⟨0, by omega, rfl, fun j hj => absurd hj (by omega), rfl⟩
  case round =>
    obtain ⟨i, hi, rfl, hbelow, rfl⟩ := hrel
    have HBE := Lib.hid hbelow; clear hbelow
    by_cases hlt : i < l.length
    · obtain ⟨ga, hA, hcq, _⟩ := own_at hown (map_at (f := ofN) hlt 0)
      have hib := fun w => idx_int (cap := c) hA hlt w
      simp only [Nat.zero_add] at hib
      clear hA
      by_cases hx : n < (l.getD i 0 : Int)
      · have hn := nextL_hit l n i hlt HBE.out hx
        have HN := Lib.hid hn; clear hn
        generalize hxx : l.getD i 0 = x at *
        unfold ofN at hcq
        go_wp2_with fail
        go_wp2
        go_ret2
        rw [HN.out]
        exact ⟨rfl, hB⟩
      · have hbe2 : ∀ j, j < i + 1 → ¬ n < (l.getD j 0 : Int) := fun j hj => by
          rcases Nat.lt_succ_iff_lt_or_eq.1 hj with h | rfl
          · exact HBE.out j h
          · exact hx
        have HB2 := Lib.hid hbe2; clear hbe2
        generalize hxx : l.getD i 0 = x at *
        unfold ofN at hcq
        go_wp2_with fail
        go_wp2
        go_roundw
        case rel => exact ⟨i + 1, by omega, by go_num, HB2.out, by trivial⟩
        case measure => simp [intOf]; omega
    · obtain rfl : i = l.length := by omega
      have hn := nextL_miss l n HBE.out
      have HN := Lib.hid hn; clear hn
      obtain ⟨ga, hA, hcq, _⟩ := own_at hown (map_at (f := ofN) hpos 0)
      have hib := fun w => idx_int (cap := c) hA hpos w
      simp only [Nat.zero_add, Int.cast_ofNat_Int] at hib
      clear hA
      generalize l.getD 0 0 = x at *
      unfold ofN at hcq
      go_wp2_with fail
      go_ret2
      rw [HN.out]
      exact ⟨rfl, hB⟩
end Go.Proofs.YtjdbedoabcbeeaaGreatDoor
/- zone.Order, Within, Nearest. -/
namespace Go.Proofs.YtjdbedoabcbeeaaGreatDoor
open Go.RowKit
set_option linter.unusedVariables false
set_option linter.unusedSimpArgs false
attribute [local go_sem] World.cell?_alloc_lt

def delN (s : Nat) (x : Int) : Bool := !(hasN s x)
theorem within1_any (s : Nat) (hs : s < 256) (x : Int) (pb : Nat) (w : World) (hc : w.cell? ⟨pb, 0, none⟩ = some (.int .u8 s)) : Calls Tryz.prog 128 #[.int .i64 x, .pointer (some ⟨pb, 0, none⟩)] w fun e w' => e = .returned (.bool (delN s x)) ∧ w = w' := by
  have hh := fun w => has_at s hs x w
  unfold delN
  generalize hasN s x = b at *
  have HH := Lib.hid hh
  clear hh
  go_enter Tryz.func128, Tryz.ntmps128
  go_wp2_with fail
  refine (HH.out _).mono ?_; rintro e w1 ⟨rfl, rfl⟩
  go_wp2_with fail
  go_ret
  exact ⟨rfl, rfl⟩
/-- The first one that goes. -/
def idxD (s : Nat) : List Int → Nat → Int
  | [], _ => -1
  | x :: xs, i => if delN s x = true then (i : Int) else idxD s xs (i + 1)
theorem idxD_miss (s : Nat) : ∀ (xs : List Int) (i : Nat), (∀ x ∈ xs, delN s x = false) → idxD s xs i = -1
  | [], _, _ => rfl
  | x :: xs, i, h => by
    unfold idxD
    rw [if_neg (by rw [h x (List.mem_cons_self ..)]; simp)]
    exact idxD_miss s xs (i + 1) (fun y hy => h y (List.mem_cons_of_mem _ hy))
theorem idxD_hit (s : Nat) : ∀ (xs : List Int) (i k : Nat), k < xs.length → (∀ j, j < k → delN s (xs.getD j 0) = false) → delN s (xs.getD k 0) = true → idxD s xs i = ((i + k : Nat) : Int)
  | [], _, k, h, _, _ => by simp at h
  | x :: xs, i, 0, _, _, h => by
    unfold idxD
    rw [if_pos (by simpa using h)]
    rfl
  | x :: xs, i, k + 1, hk, ha, h => by
    unfold idxD
    rw [if_neg (by have := ha 0 (by omega); simp at this; rw [this]; simp)]
    rw [idxD_hit s xs (i + 1) k (by simp at hk; omega) (fun j hj => by have := ha (j + 1) (by omega); simpa using this) (by simpa using h)]
    congr 1
    omega
set_option maxRecDepth 100000 in
theorem indexfunc_any (s : Nat) (hs : s < 256) (pb : Nat) (A : Option Addr) (n c : Nat) (xs : List Int) (w : World) (hI : InI w A n xs) (hn : n ≤ 9223372036854775807) (hc : w.cell? ⟨pb, 0, none⟩ = some (.int .u8 s)) :
    Calls Tryz.prog 67 #[.slice A n c, .func (Fn.func 128) #[] #[.pointer (some ⟨pb, 0, none⟩)]] w fun e w' => e = .returned (.int .i64 (idxD s xs 0)) ∧ w = w' := by
  obtain ⟨R, hR⟩ : ∃ R, idxD s xs 0 = R := ⟨_, rfl⟩
  rw [hR]
  have hln := hI.ln
  have hmiss : (∀ x ∈ xs, delN s x = false) → R = -1 := fun h => by rw [← hR]; exact idxD_miss s xs 0 h
  have hhit : ∀ k, k < n → (∀ j, j < k → delN s (xs.getD j 0) = false) → delN s (xs.getD k 0) = true → R = (k : Int) := fun k hk h1 h2 => by
    rw [← hR, idxD_hit s xs 0 k (by omega) h1 h2, Nat.zero_add]
  have HI := Lib.hid hI; have HM := Lib.hid hmiss; have HH := Lib.hid hhit
  clear hI hmiss hhit hR
  go_enter Tryz.func67, Tryz.ntmps67
  go_wp2_with fail
  go_loopw [8] (fun v wr => ∃ i : Nat, i ≤ n ∧ v = .int .i64 (i : Int) ∧ (∀ j, j < i → delN s (xs.getD j 0) = false) ∧ wr = w) (fun v _ => n - (intOf v).toNat)
  case atStart => exact ⟨0, by omega, rfl, fun j hj => absurd hj (by omega), rfl⟩
  case round =>
    obtain ⟨i, hi, rfl, hall, rfl⟩ := hrel
    by_cases hlt : i < n
    · obtain ⟨b, off, rfl, hb, hx⟩ := HI.out.get hlt
      have hix := fun w => idxI b off n c i hlt w
      have hcl := within1_any s hs (xs.getD i 0) pb wr hc
      have hnx : delN s (xs.getD i 0) = false → ∀ j, j < i + 1 → delN s (xs.getD j 0) = false := fun h j hj => by
        by_cases e : j < i
        · exact hall j e
        · obtain rfl : j = i := by omega
          exact h
      have hhx : delN s (xs.getD i 0) = true → R = (i : Int) := fun h => HH.out i hlt hall h
      have HC := Lib.hid hcl; have HN := Lib.hid hnx; have HX := Lib.hid hhx
      clear hcl hnx hhx hall
      generalize xs.getD i 0 = x at *
      cases hd : delN s x with
      | true =>
        rw [hd] at HC
        obtain rfl := HX.out hd
        clear HX hd HN
        go_wp2_with fail
        refine HC.out.mono ?_; rintro e w1 ⟨rfl, rfl⟩
        go_wp2_with fail
        go_ret
        exact ⟨rfl, rfl⟩
      | false =>
        rw [hd] at HC
        have HN2 := Lib.hid (HN.out hd)
        clear HX hd HN
        go_wp2_with fail
        refine HC.out.mono ?_; rintro e w1 ⟨rfl, rfl⟩
        go_wp2_with fail
        go_roundw
        case rel => exact ⟨i + 1, by omega, by go_num, HN2.out, trivial⟩
        case measure => simp [intOf]; omega
    · obtain rfl : i = n := by omega
      obtain rfl := HM.out (fun x hx => by
        obtain ⟨j, hj⟩ := List.getElem?_of_mem hx
        have hjl := (List.getElem?_eq_some_iff.1 hj).1
        have := hall j (by omega)
        rw [List.getD_eq_getElem?_getD, hj] at this
        exact this)
      clear hall HM HH
      go_wp2_with fail
      go_ret
      exact ⟨rfl, rfl⟩
theorem own_putL {w : World} {base e g n c o : Nat} {xs ys : List Value} (h : w.ownsRow base e 1 (.slice (some ⟨g, 0, none⟩) n c) n xs) (hy : o + ys.length ≤ n) : (w.setCells g o ys).ownsRow base e 1 (.slice (some ⟨g, 0, none⟩) n c) n (putL xs o ys) ∧ Ch [g] w (w.setCells g o ys) := by
  have hxl : xs.length = n := own_len h
  rcases h.2 with ⟨h0, _⟩ | ⟨g', cap, cur, hv, hg, hh, hnc, hcm, hsz, ht⟩
  · cases h0
  · injection hv with h1 _ h3
    injection h1 with h1
    injection h1 with h1
    subst h1 h3
    have hb : Blk w g e cur.toList := by unfold Blk; rw [hh]
    obtain ⟨hb2, hc⟩ := Blk.setCells ys cur.toList o w hb
    have hcl : cur.toList.length = cur.size := Array.length_toList
    refine ⟨⟨by rw [putL_len]; omega, Or.inr ⟨g, c, (putL cur.toList o ys).toArray, rfl, hg, hb2, hnc, hcm, by simp [putL_len, hsz], ?_⟩⟩, hc⟩
    rw [Nat.mul_one]
    apply List.ext_getElem?
    intro i
    have hxi : ∀ i, i < n → xs[i]? = cur.toList[i]? := fun i hi => by
      rw [← ht, Nat.mul_one, List.getElem?_take_of_lt hi]
    rw [show (putL cur.toList o ys).toArray.toList = putL cur.toList o ys from rfl, List.getElem?_take, putL_get _ _ _ _ (by omega), putL_get _ _ _ _ (by omega)]
    by_cases hi : i < n
    · rw [if_pos hi, hxi i hi]
    · rw [if_neg hi, if_neg (by omega), List.getElem?_eq_none (by omega)]
theorem putL_take {α : Type} (cs us : List α) (o : Nat) (h : o + us.length ≤ cs.length) : (putL cs o us).take o = cs.take o := by
  apply List.ext_getElem?
  intro i
  rw [List.getElem?_take, List.getElem?_take]
  by_cases hi : i < o
  · rw [if_pos hi, if_pos hi, putL_get _ _ _ _ h, if_neg (by omega)]
  · rw [if_neg hi, if_neg hi]
/-- Those of a set. -/
def keepN (s : Nat) (xs : List Int) : List Int := xs.filter fun x => hasN s x
theorem keepN_pre (s : Nat) (xs : List Int) (h : ∀ x ∈ xs, delN s x = false) : keepN s xs = xs := by
  unfold keepN
  rw [List.filter_eq_self]
  intro x hx
  have := h x hx
  unfold delN at this
  simpa using this
theorem keepN_snoc (s : Nat) (xs : List Int) {i : Nat} {x : Int} (h : xs[i]? = some x) : keepN s (xs.take (i + 1)) = if delN s x = true then keepN s (xs.take i) else keepN s (xs.take i) ++ [x] := by
  unfold keepN
  rw [List.take_add_one, h, List.filter_append]
  unfold delN
  cases h2 : hasN s x <;> simp [h2]
theorem zero_int (w : World) : (zeroValue 3).run Tryz.prog w = .ok (.int .i64 0) w := by kernel_rfl
theorem take_getD {s : Nat} {xs : List Int} {n : Nat} (h : ∀ j, j < n → delN s (xs.getD j 0) = false) (hn : n ≤ xs.length) : ∀ x ∈ xs.take n, delN s x = false := by
  intro x hx
  obtain ⟨j, hj⟩ := List.getElem?_of_mem hx
  rw [List.getElem?_take] at hj
  split at hj
  · next hjn =>
    have := h j hjn
    rw [List.getD_eq_getElem?_getD, hj] at this
    exact this
  · cases hj
theorem least_true (P : Nat → Bool) : ∀ k, P k = true → ∃ m, m ≤ k ∧ P m = true ∧ ∀ j, j < m → P j = false := by
  intro k
  induction k using Nat.strongRecOn with
  | _ k ih =>
    intro h
    by_cases hx : ∃ j, j < k ∧ P j = true
    · obtain ⟨j, hj, hjd⟩ := hx
      obtain ⟨m, h1, h2, h3⟩ := ih j hj hjd
      exact ⟨m, by omega, h2, h3⟩
    · refine ⟨k, Nat.le_refl _, h, fun j hj => ?_⟩
      cases hc : P j with
      | false => rfl
      | true => exact absurd ⟨j, hj, hc⟩ hx
/-- What is known of the index found. -/
theorem idxD_two (s : Nat) (xs : List Int) : (idxD s xs 0 = -1 ∧ keepN s xs = xs) ∨ ∃ k, k < xs.length ∧ idxD s xs 0 = (k : Int) ∧ keepN s (xs.take k) = xs.take k ∧ keepN s (xs.take (k + 1)) = xs.take k := by
  by_cases h : ∃ k, k < xs.length ∧ delN s (xs.getD k 0) = true
  · obtain ⟨k0, hk0, hd0⟩ := h
    obtain ⟨k, hkk, hd, hmin⟩ := least_true (fun k => delN s (xs.getD k 0)) k0 hd0
    have hk : k < xs.length := by omega
    right
    have hz : xs[k]? = some xs[k] := List.getElem?_eq_getElem hk
    have hp := keepN_pre s (xs.take k) (take_getD hmin (by omega))
    refine ⟨k, hk, by rw [idxD_hit s xs 0 k hk hmin hd, Nat.zero_add], hp, ?_⟩
    rw [keepN_snoc s xs hz, if_pos (by rw [List.getD_eq_getElem?_getD, hz] at hd; exact hd), hp]
  · left
    have hall : ∀ x ∈ xs, delN s x = false := fun x hx => by
      obtain ⟨j, hj⟩ := List.getElem?_of_mem hx
      have hjl := (List.getElem?_eq_some_iff.1 hj).1
      cases hc : delN s x with
      | false => rfl
      | true => exact absurd ⟨j, hjl, by rw [List.getD_eq_getElem?_getD, hj]; exact hc⟩ h
    exact ⟨idxD_miss s xs 0 hall, keepN_pre s xs hall⟩
set_option maxRecDepth 100000 in
set_option maxHeartbeats 1000000 in
theorem deletefunc_any (s : Nat) (hs : s < 256) (pb g n c base : Nat) (xs : List Int) (w : World) (hl : xs.length = n) (hn : n ≤ 1000) (hown : w.ownsRow base 3 1 (.slice (some ⟨g, 0, none⟩) n c) n (xs.map (Value.int .i64)))
    (hc : w.cell? ⟨pb, 0, none⟩ = some (.int .u8 s)) (hpg : pb ≠ g) :
    Calls Tryz.prog 127 #[.slice (some ⟨g, 0, none⟩) n c, .func (Fn.func 128) #[] #[.pointer (some ⟨pb, 0, none⟩)]] w fun e w' =>
      e = .returned (.slice (some ⟨g, 0, none⟩) (keepN s xs).length c) ∧ w'.ownsRow base 3 1 (.slice (some ⟨g, 0, none⟩) (keepN s xs).length c) (keepN s xs).length ((keepN s xs).map (Value.int .i64)) ∧ Ch [g] w w' := by
  have hidx := indexfunc_any s hs pb (some ⟨g, 0, none⟩) n c xs w (InI.own hown) (by omega) hc
  have hnc : n ≤ c := own_cap hown
  rcases idxD_two s xs with ⟨h1, h2⟩ | ⟨k, hk, h1, h2, h3⟩
  · rw [h1] at hidx
    rw [h2, hl]
    have HI := Lib.hid hidx; have HOW := Lib.hid hown
    clear hidx hown h1 h2
    go_enter Tryz.func127, Tryz.ntmps127
    go_wp2_with fail
    refine HI.out.mono ?_; rintro e w1 ⟨rfl, rfl⟩
    go_wp2_with fail
    go_ret
    exact ⟨rfl, HOW.out, Ch.refl _ _⟩
  · rw [h1] at hidx
    have hk1 : ((k : Int) == -1) = false := by rw [beq_eq_false_iff_ne]; omega
    have HI := Lib.hid hidx; have HOW := Lib.hid hown; have HK3 := Lib.hid h3; have HK2 := Lib.hid h2; have HC := Lib.hid hc
    clear hidx hown h1 h2 h3 hc
    obtain ⟨R, hR⟩ : ∃ R, keepN s xs = R := ⟨_, rfl⟩
    rw [hR]
    have HR := Lib.hid hR
    clear hR
    go_enter Tryz.func127, Tryz.ntmps127
    go_wp2_with fail
    refine HI.out.mono ?_; rintro e w1 ⟨rfl, rfl⟩
    clear HI
    go_wp2_with fail
    go_loopw [5, 6] (fun v5 v6 wr => ∃ (i j : Nat) (y : List Int), i < j ∧ j ≤ n ∧ v5 = .int .i64 (i : Int) ∧ v6 = .int .i64 (j : Int) ∧ y.length = n ∧ y.take i = keepN s (xs.take j) ∧ y.drop j = xs.drop j ∧ wr.ownsRow base 3 1 (.slice (some ⟨g, 0, none⟩) n c) n (y.map (Value.int .i64)) ∧ Ch [g] w wr) (fun _ v _ => n - (intOf v).toNat)
    case atStart => exact ⟨k, k + 1, xs, by omega, by omega, rfl, by go_num, hl, HK3.out.symm, rfl, HOW.out, Ch.refl _ _⟩
    case round =>
      obtain ⟨i, j, y, hij, hjn, rfl, rfl, hyl, hyt, hyd, hyo, hch⟩ := hrel
      have hcw := ch_keep hch (show pb ∉ [g] by simpa using hpg) HC.out
      by_cases hlt : j < n
      · have hxj : xs[j]? = some (xs.getD j 0) := by rw [List.getD_eq_getElem?_getD, List.getElem?_eq_getElem (by omega)]; rfl
        have hyj : y[j]? = some (xs.getD j 0) := by
          have := congrArg (fun l => l[0]?) hyd
          simp only [List.getElem?_drop, Nat.add_zero] at this
          rw [this, hxj]
        have hsn := keepN_snoc s xs hxj
        have hcj : wr.cell? ⟨g, j, none⟩ = some (.int .i64 (xs.getD j 0)) := by
          obtain ⟨g', hA, hc, _⟩ := own_at hyo (k := j) (u := .int .i64 (xs.getD j 0)) (by rw [List.getElem?_map, hyj]; rfl)
          injection hA with hA
          injection hA with hA
          subst hA
          exact hc
        have hix : ∀ w : World, (Instr.indexAt 27 (.slice (some ⟨g, 0, none⟩) n c) (.int .i64 (j : Int))).run Tryz.prog w = .ok (.pointer (some ⟨g, j, none⟩)) w := fun w => idx_own g n c j hlt w
        have hcl := within1_any s hs (xs.getD j 0) pb wr hcw
        have hyd2 : y.drop (j + 1) = xs.drop (j + 1) := by
          have := congrArg (List.drop 1) hyd
          rw [List.drop_drop, List.drop_drop] at this
          exact this
        have HCL := Lib.hid hcl; have HSN := Lib.hid hsn; have HYO := Lib.hid hyo; have HCH := Lib.hid hch; have HYT := Lib.hid hyt; have HYD := Lib.hid hyd2
        clear hcl hsn hyo hch hyt hyd hyd2 hyj hxj
        generalize xs.getD j 0 = x at *
        cases hd : delN s x with
        | true =>
          rw [hd] at HCL
          have hs2 := HSN.out
          rw [hd, if_pos rfl] at hs2
          have HS2 := Lib.hid hs2
          clear HSN hs2 hd
          go_wp2_with fail
          refine HCL.out.mono ?_; rintro e w1 ⟨rfl, rfl⟩
          go_wp2_with fail
          go_roundw
          case rel => exact ⟨i, j + 1, y, by omega, by omega, rfl, by go_num, hyl, by rw [HS2.out]; exact HYT.out, HYD.out, HYO.out, HCH.out⟩
          case measure => simp [intOf]; omega
        | false =>
          rw [hd] at HCL
          have hs2 := HSN.out
          rw [hd, if_neg (by simp)] at hs2
          have hyo2 := own_set1 HYO.out (i := i) (by omega) (.int .i64 x)
          rw [map_set_int] at hyo2
          have hch2 : Ch [g] w (wr.setCell ⟨g, i, none⟩ (.int .i64 x)) := HCH.out.set (p := ⟨g, i, none⟩) (by simp) _
          have hil : i < y.length := by omega
          have hyt2 : (y.set i x).take (i + 1) = keepN s (xs.take j) ++ [x] := by
            rw [List.take_add_one, List.take_set_of_le (Nat.le_refl _), HYT.out, List.getElem?_set_self hil]; rfl
          have hyd3 : (y.set i x).drop (j + 1) = xs.drop (j + 1) := by
            rw [List.drop_set_of_lt (by omega), HYD.out]
          obtain ⟨ci, hci⟩ : ∃ ci, wr.cell? ⟨g, i, none⟩ = some ci := by
            obtain ⟨g', hA, hc, _⟩ := own_at HYO.out (k := i) (u := .int .i64 (y.getD i 0)) (by rw [map_at (f := Value.int .i64) hil 0])
            injection hA with hA
            injection hA with hA
            subst hA
            exact ⟨_, hc⟩
          have hfi : wr.frozen? ⟨g, i, none⟩ = false := by
            obtain ⟨g', hA, hc, _, _, hf⟩ := own_at HYO.out (k := i) (u := .int .i64 (y.getD i 0)) (by rw [map_at (f := Value.int .i64) hil 0])
            injection hA with hA
            injection hA with hA
            subst hA
            exact hf
          have hii : ∀ w : World, (Instr.indexAt 27 (.slice (some ⟨g, 0, none⟩) n c) (.int .i64 (i : Int))).run Tryz.prog w = .ok (.pointer (some ⟨g, i, none⟩)) w := fun w => idx_own g n c i (by omega) w
          rw [← hs2] at hyt2
          have HO2 := Lib.hid hyo2; have HC2 := Lib.hid hch2; have HT2 := Lib.hid hyt2; have HD3 := Lib.hid hyd3
          clear HSN hs2 hd hyo2 hch2 hyt2 hyd3 HYT HYD HYO HCH
          go_wp2_with fail
          refine HCL.out.mono ?_; rintro e w1 ⟨rfl, rfl⟩
          go_wp2_with fail
          go_roundw
          case rel => exact ⟨i + 1, j + 1, y.set i x, by omega, by omega, by go_num, by go_num, by simp [hyl], HT2.out, HD3.out, HO2.out, HC2.out⟩
          case measure => simp [intOf]; omega
      · obtain rfl : j = n := by omega
        have hxt : xs.take j = xs := List.take_of_length_le (by omega)
        rw [hxt, HR.out] at hyt
        clear hxt
        have hrl : R.length = i := by rw [← hyt, List.length_take]; omega
        have hpl := own_putL (o := i) (ys := List.replicate (j - i) (Value.int .i64 0)) hyo (by simp; omega)
        have hwf := hpl.1
        have htk := own_take (k := i) hwf (by omega) (by simp)
        rw [putL_take _ _ _ (by simp [hyl]; omega), ← List.map_take, hyt] at htk
        have hcut : cutA g c i = some ⟨g, i, none⟩ := by unfold cutA; rw [if_neg (by omega)]
        have hlo := fun w => cut_lo_int g j c i (i : Int) rfl (by omega) (by omega) w
        rw [hcut] at hlo
        have hhi := fun w => cut_hi_int g j c i (i : Int) rfl (by omega) w
        have hcs : ∀ q, q < j - i → (wr.cell? ⟨g, i + q, none⟩).isSome = true := fun q hq => by
          obtain ⟨g', hA, hc, _⟩ := own_at hyo (k := i + q) (u := .int .i64 (y.getD (i + q) 0)) (by rw [map_at (f := Value.int .i64) (by omega) 0])
          injection hA with hA
          injection hA with hA
          subst hA
          rw [hc]; rfl
        have hfs : ∀ q, q < j - i → wr.frozen? ⟨g, i + q, none⟩ = false := fun q hq => by
          obtain ⟨g', hA, hc, _, _, hf⟩ := own_at hyo (k := i + q) (u := .int .i64 (y.getD (i + q) 0)) (by rw [map_at (f := Value.int .i64) (by omega) 0])
          injection hA with hA
          injection hA with hA
          subst hA
          exact hf
        have hclr := fun ty => Lib.run_clear_slice (P := Tryz.prog) wr 27 3 ty (.int .i64 0) Tryz.underlying27 zero_int rfl rfl g i (j - i) (c - i) (by omega) hcs hfs
        have HTK := Lib.hid htk; have HCH := Lib.hid (hch.then_ hpl.2 (fun q hq => Or.inl hq)); have HRL := Lib.hid hrl
        clear hcs hfs htk hpl hwf hyt hyd hyo hch hrl hcut
        go_wp2_with fail
        go_ret
        rw [HRL.out]
        exact ⟨rfl, HTK.out, HCH.out⟩
end Go.Proofs.YtjdbedoabcbeeaaGreatDoor
