/- nodeset.Of, Count; the statements' own sets. -/
import Derived.Test.YtcanhegjhbhkhaaDoorText
import Derived.Test.YtcanhegjhbhkhaaDoorRefNodes
namespace Go.Proofs.YtcanhegjhbhkhaaDoor
open Go.RowKit
set_option linter.unusedVariables false
set_option linter.unusedSimpArgs false
attribute [local go_sem] World.cell?_alloc_lt

/-- A slice of ints that reads as a list. -/
structure InI (w : World) (A : Option Addr) (n : Nat) (xs : List Int) : Prop where
  ln : xs.length = n
  at_ : 0 < n → ∃ b off, A = some ⟨b, off, none⟩ ∧ b < w.heap.size ∧ ∀ j u, xs[j]? = some u → w.cell? ⟨b, off + j, none⟩ = some (.int .i64 u)
section
variable {w w' : World} {A : Option Addr} {n : Nat} {xs : List Int}
theorem InI.below (h : InI w A n xs) (k : Below w.heap.size w w') : InI w' A n xs :=
  ⟨h.ln, fun hn => by
    obtain ⟨b, off, ha, hb, hc⟩ := h.at_ hn
    exact ⟨b, off, ha, Nat.lt_of_lt_of_le hb k.size, fun j u hj => (k.cell (p := ⟨b, off + j, none⟩) hb).trans (hc j u hj)⟩⟩
theorem InI.dn (h : InI w A n xs) (k : Nat) : InI (w.drewN k) A n xs := ⟨h.ln, h.at_⟩
theorem InI.get (h : InI w A n xs) {i : Nat} (hi : i < n) : ∃ b off, A = some ⟨b, off, none⟩ ∧ b < w.heap.size ∧ w.cell? ⟨b, off + i, none⟩ = some (.int .i64 (xs.getD i 0)) := by
  obtain ⟨b, off, ha, hb, hc⟩ := h.at_ (by omega)
  refine ⟨b, off, ha, hb, hc i _ ?_⟩
  have hl : i < xs.length := by have := h.ln; omega
  rw [List.getElem?_eq_getElem hl, List.getD_eq_getElem?_getD, List.getElem?_eq_getElem hl]
  rfl
theorem InI.own {base c : Nat} (h : w.ownsRow base 3 1 (.slice A n c) n (xs.map (Value.int .i64))) : InI w A n xs := by
  refine ⟨by have := h.1; simp at this; omega, fun hn => ?_⟩
  obtain ⟨g, cap, hv, hb, hlt⟩ := h.form hn
  injection hv with hA _ _
  refine ⟨g, 0, hA, hlt, fun j u hj => ?_⟩
  obtain ⟨g', hA', hc, _⟩ := own_at h (k := j) (u := .int .i64 u) (by rw [List.getElem?_map, hj]; rfl)
  rw [hA] at hA'
  injection hA' with hA'
  injection hA' with hA'
  subst hA'
  rw [Nat.zero_add]
  exact hc
theorem InI.inn (h : InInts .i64 w A n xs) : InI w A n xs :=
  ⟨h.ln, fun hn => by
    obtain ⟨b, off, ha, hb, hc⟩ := h.at_ hn
    refine ⟨b, off, ha, hb, fun j u hj => ?_⟩
    have hjl := (List.getElem?_eq_some_iff.1 hj).1
    have := hc j (by have := h.ln; omega)
    rw [List.getD_eq_getElem?_getD, hj] at this
    exact this⟩
theorem InI.take {k : Nat} (h : InI w A n xs) (hk : k ≤ n) : InI w A k (xs.take k) :=
  ⟨by rw [List.length_take, h.ln]; omega, fun hn => by
    obtain ⟨b, off, ha, hb, hc⟩ := h.at_ (by omega)
    refine ⟨b, off, ha, hb, fun j u hj => ?_⟩
    rw [List.getElem?_take] at hj
    split at hj
    · exact hc j u hj
    · cases hj⟩
theorem InI.reads (h : InI w A n xs) : Reads w w.heap.size 1 A n (xs.map (Value.int .i64)) := by
  refine ⟨by rw [List.length_map, h.ln]; omega, fun hn => ?_⟩
  obtain ⟨b, off, ha, hb, hc⟩ := h.at_ hn
  refine ⟨⟨b, off, none⟩, ha, hb, fun j u hj => ?_⟩
  rw [List.getElem?_map] at hj
  obtain ⟨z, hz, rfl⟩ := Option.map_eq_some_iff.1 hj
  rw [WideShapes.add_plain]
  exact hc j z hz
end
theorem ints_one (xs : List Int) : ∀ u ∈ xs.map (Value.int .i64), u.oneCell' = true := by
  intro u hu
  obtain ⟨z, _, rfl⟩ := List.mem_map.1 hu
  rfl
theorem idxI (b off n c i : Nat) (hi : i < n) (w : World) : (Instr.indexAt 23 (.slice (some ⟨b, off, none⟩) n c) (.int .i64 (i : Int))).run Tryd.prog w = .ok (.pointer (some ⟨b, off + i, none⟩)) w := by
  simp [go_sem, hi]
/-- A node more. -/
def orN (s n : Nat) : Nat := s ||| 2 ^ n
def okN (n : Int) : Bool := decide (0 ≤ n ∧ n < 8)
/-- The set of the first so many; none: one is none. -/
def setK (l : List Int) : Nat → Option Nat
  | 0 => some 0
  | k + 1 => match setK l k with
    | none => none
    | some s => if okN (l.getD k 0) = true then some (orN s (l.getD k 0).toNat) else none
theorem or_lt : ∀ s : Nat, s < 256 → ∀ n : Nat, n < 8 → orN s n < 256 := by decide +kernel
theorem or_bits : ∀ s : Nat, s < 256 → ∀ n : Nat, n < 8 → bits BinOp.or IntKind.u8 (s : Int) ((2 ^ n : Int) % 256) = (orN s n : Int) := by decide +kernel
theorem setK_lt (l : List Int) (k s : Nat) (h : setK l k = some s) : s < 256 := by
  induction k generalizing s with
  | zero => simp [setK] at h; omega
  | succ k ih =>
    simp only [setK] at h
    split at h
    · cases h
    · rename_i t ht
      split at h
      · rename_i hn
        injection h with h
        subst h
        have := of_decide_eq_true hn
        exact or_lt t (ih t ht) _ (by omega)
      · cases h
theorem setK_none (l : List Int) (k m : Nat) (h : setK l k = none) (hk : k ≤ m) : setK l m = none := by
  induction m with
  | zero =>
    obtain rfl : k = 0 := by omega
    exact h
  | succ m ih =>
    by_cases e : k = m + 1
    · subst e; exact h
    · simp only [setK, ih (by omega)]
def setV (o : Option Nat) : Value := match o with
  | some s => .tuple #[.int .u8 (s : Int), .int .i64 0]
  | none => .tuple #[.int .u8 0, .int .i64 10]
theorem of_any (A : Option Addr) (n c : Nat) (l : List Int) (w : World) (hl : InI w A n l) (hn63 : n ≤ 9223372036854775807) :
    Calls Tryd.prog 14 #[.slice A n c] w fun e w' => e = .returned (setV (setK l n)) ∧ w = w' := by
  obtain ⟨v, hv⟩ : ∃ v, setV (setK l n) = v := ⟨_, rfl⟩
  have HV := Lib.hid hv
  rw [hv]
  clear hv
  go_enter Tryd.func14, Tryd.ntmps14
  go_wp2_with fail
  go_loop [4, 9] (fun v i => ∃ k s : Nat, k ≤ n ∧ i = .int .i64 k ∧ setK l k = some s ∧ v = .int .u8 s) (fun _ i => n - (intOf i).toNat)
  case atStart => exact ⟨0, 0, by omega, rfl, rfl, rfl⟩
  case round =>
    obtain ⟨k, s, hkn, rfl, hs, rfl⟩ := hrel
    have hs256 := setK_lt l k s hs
    have HS := Lib.hid hs; clear hs
    by_cases hlt : k < n
    · obtain ⟨b1, o1, rfl, _, hc1⟩ := hl.get hlt
      have hi1 := fun w => idxI b1 o1 n c k hlt w
      have hst : setK l (k + 1) = if okN (l.getD k 0) = true then some (orN s (l.getD k 0).toNat) else none := by simp only [setK, HS.out]
      have HST := Lib.hid hst; clear hst hl
      generalize l.getD k 0 = x at *
      have hr := right_at x
      cases hok : okN x with
      | true =>
        have hx : 0 ≤ x ∧ x < 8 := of_decide_eq_true hok
        rw [show decide (0 ≤ x ∧ x < 8) = true from hok] at hr
        have HR := Lib.hid hr
        obtain ⟨m, rfl⟩ := Int.eq_ofNat_of_zero_le hx.1
        have hm8 : m < 8 := by omega
        have hob := or_bits s hs256 m hm8
        have HE := Lib.hid (HST.out.trans (if_pos hok))
        obtain ⟨hx0, hx8⟩ := hx
        clear hr hok HST
        go_wp2_with fail
        refine (HR.out _).mono ?_; rintro e w1 ⟨rfl, rfl⟩
        go_wp2_with fail
        go_round
        case rel => exact ⟨k + 1, orN s m, by omega, by go_num, HE.out, by rw [← hob]⟩
        case measure => simp [intOf]; omega
      | false =>
        rw [show decide (0 ≤ x ∧ x < 8) = false from hok] at hr
        have HR := Lib.hid hr
        have hne : setK l n = none := setK_none l (k + 1) n (HST.out.trans (if_neg (by rw [hok]; decide))) hlt
        have HNE := Lib.hid hne
        clear hr hok HST hne
        go_wp2_with fail
        refine (HR.out _).mono ?_; rintro e w1 ⟨rfl, rfl⟩
        go_wp2_with fail
        go_ret2
        exact ⟨by rw [← HV.out, HNE.out]; rfl, rfl⟩
    · obtain rfl : k = n := by omega
      go_wp2_with fail
      go_ret2
      exact ⟨by rw [← HV.out, HS.out]; rfl, rfl⟩
theorem count_any (t : Nat) (ht : t < 256) (w : World) : Calls Tryd.prog 20 #[.int .u8 t] w fun e w' => e = .returned (.int .i64 (ocN t)) ∧ w = w' := by
  have hoc := oc8 t ht w
  have HO := Lib.hid hoc
  clear hoc
  generalize ocN t = v at *
  go_enter Tryd.func20, Tryd.ntmps20
  go_wp2_with fail
  refine HO.out.mono ?_; rintro e w1 ⟨rfl, rfl⟩
  go_wp2_with fail
  go_ret
  exact ⟨rfl, rfl⟩
theorem InI.of_blk {w : World} {q : Nat} {xs : List Int} (h : Blk w q 3 (xs.map (Value.int .i64))) : InI w (some ⟨q, 0, none⟩) xs.length xs :=
  ⟨rfl, fun _ => ⟨q, 0, rfl, h.lt, fun j u hj => by
    rw [Nat.zero_add]
    exact h.at_ (by rw [List.getElem?_map, hj]; rfl)⟩⟩
theorem sets_of : setV (setK [0, 2, 3, 4] 4) = .tuple #[.int .u8 29, .int .i64 0] := rfl
theorem sets_text : textB 29 = ⟨#[48, 44, 50, 45, 52]⟩ := by decide +kernel
set_option maxRecDepth 100000 in
theorem sets_any (w0 : World) : Calls Tryd.prog 17 #[] w0 fun e w' => e = .returned (.bool true) ∧ Below w0.heap.size w0 w' := by
  have hb1 := Blk.new w0 3 [.int .i64 0, .int .i64 2, .int .i64 3, .int .i64 4]
  have hof := of_any _ 4 4 [0, 2, 3, 4] _ (InI.of_blk (xs := [0, 2, 3, 4]) hb1) (by omega)
  rw [sets_of] at hof
  have HOF := Lib.hid hof
  have hBa := bel_alloc (Below.refl w0.heap.size w0) (.cells #[.int .i64 0, .int .i64 2, .int .i64 3, .int .i64 4] 3)
  have HBA := Lib.hid hBa
  have hnx := next_at 29 (by omega) (by omega) 4
  rw [show nextN 29 4 = 0 from by decide] at hnx
  have htx := text_at 29 (by omega)
  rw [sets_text] at htx
  have hct := count_any 29 (by omega)
  rw [show ocN 29 = 4 from by decide] at hct
  have HNX := Lib.hid hnx; have HTX := Lib.hid htx; have HCT := Lib.hid hct
  clear hb1 hof hBa hnx htx hct
  go_enter Tryd.func17, Tryd.ntmps17
  go_wp2_with fail
  refine HOF.out.mono ?_; rintro e w1 ⟨rfl, rfl⟩
  go_wp2_with fail
  refine (HNX.out _).mono ?_; rintro e w2 ⟨rfl, hB2⟩
  go_wp2_with fail
  refine (HTX.out _).mono ?_; rintro e w3 ⟨rfl, hB3⟩
  have hB := bel_trans (bel_trans HBA.out hB2) hB3
  clear hB2 hB3 HBA
  go_wp2_with fail
  refine (HCT.out _).mono ?_; rintro e w4 ⟨rfl, rfl⟩
  go_wp2_with fail
  go_ret
  exact ⟨rfl, hB⟩
end Go.Proofs.YtcanhegjhbhkhaaDoor
