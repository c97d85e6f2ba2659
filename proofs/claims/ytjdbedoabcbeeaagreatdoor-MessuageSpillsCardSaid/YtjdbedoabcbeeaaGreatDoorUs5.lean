/- Parts of the proof: Buddy. -/
import Derived.Test.YtjdbedoabcbeeaaGreatDoorUs4
import Derived.Test.YtjdbedoabcbeeaaGreatDoorUs3
import Derived.Deep.DeepCutAuto
import Derived.Deep.MidRow
import Derived.Deep.CutBlock
import Derived.Outline
/- Package buddy (layer 8): what a buddy holds; right, above, Runs, first, Has, Free. -/
namespace Go.Proofs.YtjdbedoabcbeeaaGreatDoor
open Go.RowKit
set_option linter.unusedVariables false
set_option linter.unusedSimpArgs false
attribute [local go_sem] World.cell?_alloc_lt

/-- A buddy of n frames: of order k the free runs L k. -/
structure BudAt (w : World) (g : Nat) (bs : List Nat) (bt : Nat) (n : Int) (L : Nat → List Int) : Prop where
  len : bs.length = 11
  st : Blk w g 132 (.int .i64 n :: (bs.map (fun b => Value.map (some b)) ++ [.map (some bt)]))
  fr : ∀ k b, bs[k]? = some b → MapAt intKeys w b ((L k).map fun x => (x, Value.bool true))
  tk : ∃ T : List (Int × Value), MapAt intKeys w bt T
  nd : (g :: bt :: bs).Nodup
section
variable {w w' : World} {g bt : Nat} {bs : List Nat} {n : Int} {L : Nat → List Int}
theorem BudAt.ch {S : List Nat} (h : BudAt w g bs bt n L) (k : Ch S w w') (hS : ∀ x ∈ S, x ∉ g :: bt :: bs) : BudAt w' g bs bt n L := by
  obtain ⟨T, hT⟩ := h.tk
  have hn : ∀ y, y ∈ g :: bt :: bs → y ∉ S := fun y hy hs => hS y hs hy
  exact ⟨h.len, h.st.ch k (hn g (by simp)), fun i b hb => (h.fr i b hb).ch k (hn b (by simp [List.mem_of_getElem? hb])), ⟨T, hT.ch k (hn bt (by simp))⟩, h.nd⟩
theorem BudAt.below (h : BudAt w g bs bt n L) (k : Below w.heap.size w w') : BudAt w' g bs bt n L := h.ch (Ch.below k []) (by simp)
theorem BudAt.dn (h : BudAt w g bs bt n L) (i : Nat) : BudAt (w.drewN i) g bs bt n L := h.below (bel_drewN (Below.refl _ _) i)
theorem BudAt.cell (h : BudAt w g bs bt n L) {k : Nat} (hk : k < 11) : ∃ b, bs[k]? = some b ∧ w.cell? ⟨g, 1 + k, none⟩ = some (.map (some b)) ∧ MapAt intKeys w b ((L k).map fun x => (x, Value.bool true)) := by
  have hl := h.len
  have hb : bs[k]? = some bs[k] := List.getElem?_eq_getElem (by omega)
  refine ⟨bs[k], hb, ?_, h.fr k _ hb⟩
  refine h.st.at_ ?_
  rw [Nat.add_comm 1 k, List.getElem?_cons_succ, List.getElem?_append_left (by rw [List.length_map]; omega), List.getElem?_map, hb]
  rfl
theorem BudAt.taken (h : BudAt w g bs bt n L) : w.cell? ⟨g, 12, none⟩ = some (.map (some bt)) := by
  refine h.st.at_ ?_
  rw [List.getElem?_cons_succ, List.getElem?_append_right (by rw [List.length_map, h.len]; omega), List.length_map, h.len]
  rfl
theorem BudAt.ne (h : BudAt w g bs bt n L) {k b : Nat} (hb : bs[k]? = some b) : b ≠ g ∧ b ≠ bt := by
  have := h.nd
  rw [List.nodup_cons, List.nodup_cons] at this
  have hm := List.mem_of_getElem? hb
  refine ⟨fun e => this.1 (by rw [← e]; simp [hm]), fun e => this.2.1 (by rw [← e]; exact hm)⟩
/-- One order's map is another one now. -/
theorem BudAt.put (h : BudAt w g bs bt n L) {k b : Nat} (hb : bs[k]? = some b) (hc : Ch [b] w w') {l : List Int} (hm : MapAt intKeys w' b (l.map fun x => (x, Value.bool true))) : BudAt w' g bs bt n (fun j => if j = k then l else L j) := by
  obtain ⟨T, hT⟩ := h.tk
  have hne := h.ne hb
  have hnb : bs.Nodup := by have := h.nd; rw [List.nodup_cons, List.nodup_cons] at this; exact this.2.2
  refine ⟨h.len, h.st.ch hc (by simpa using fun e => hne.1 e.symm), fun i b' hb' => ?_, ⟨T, hT.ch hc (by simpa using fun e => hne.2 e.symm)⟩, h.nd⟩
  by_cases hik : i = k
  · subst hik
    rw [hb] at hb'
    injection hb' with hb'
    subst hb'
    rw [if_pos rfl]
    exact hm
  · rw [if_neg hik]
    refine (h.fr i b' hb').ch hc ?_
    rw [List.mem_singleton]
    intro e
    subst e
    have h1 := (List.getElem?_eq_some_iff.1 hb)
    have h2 := (List.getElem?_eq_some_iff.1 hb')
    have hpw := List.pairwise_iff_getElem.1 hnb
    rcases Nat.lt_or_gt_of_ne hik with hlt | hlt
    · exact hpw i k h2.1 h1.1 hlt (h2.2.trans h1.2.symm)
    · exact hpw k i h1.1 h2.1 hlt (h1.2.trans h2.2.symm)
theorem BudAt.congr (h : BudAt w g bs bt n L) {L' : Nat → List Int} (hL : ∀ k, k < 11 → L k = L' k) : BudAt w g bs bt n L' :=
  ⟨h.len, h.st, fun k b hb => by
    have hk := (List.getElem?_eq_some_iff.1 hb).1
    rw [← hL k (by rw [← h.len]; exact hk)]
    exact h.fr k b hb, h.tk, h.nd⟩
end
theorem uBud : Tryz.prog.underlying 129 = some (.map 3 4) := Tryz.underlying129
theorem kBud : Tryz.prog.underlying 3 = some (intKeys).kind := Tryz.underlying3
theorem uBt : Tryz.prog.underlying 60 = some (.map 3 3) := Tryz.underlying60
theorem idx_bud (g k : Nat) (hk : k < 11) (w : World) : (Instr.indexAt 130 (.pointer (some ⟨g, 1, none⟩)) (.int .i64 (k : Int))).run Tryz.prog w = .ok (.pointer (some ⟨g, 1 + k, none⟩)) w := by
  have h1 : (k : Int) < 11 := by omega
  by_cases h0 : k = 0 <;> simp [go_sem, hk, h1, Addr.add, h0]
theorem bu_right (g : Nat) (k : Nat) (hk : k < 11) (w : World) : Calls Tryz.prog 50 #[.pointer (some ⟨g, 0, none⟩), .int .i64 (k : Int)] w fun e w' => e = .returned (.bool true) ∧ w = w' := by
  have h1 : (k : Int) < 11 := by omega
  go_enter Tryz.func50, Tryz.ntmps50
  go_wp2_with fail
  go_ret
  exact ⟨rfl, rfl⟩
set_option maxRecDepth 100000 in
theorem bu_above (g bt : Nat) (bs : List Nat) (n : Int) (L : Nat → List Int) (kk : Nat) (hkk : kk < 11) (h0 : ∀ j, j < kk → L j = []) (h1 : (L kk).length = 1) (w : World) (hB : BudAt w g bs bt n L) :
    Calls Tryz.prog 51 #[.pointer (some ⟨g, 0, none⟩), .int .i64 0] w fun e w' => e = .returned (.tuple #[.int .i64 (kk : Int), .bool true]) ∧ w = w' := by
  have HB := Lib.hid hB; have H0 := Lib.hid h0; have H1 := Lib.hid h1
  clear hB h0 h1
  go_enter Tryz.func51, Tryz.ntmps51
  go_wp2_with fail
  go_loopw [6] (fun v wr => ∃ i : Nat, i ≤ kk ∧ v = .int .i64 (i : Int) ∧ wr = w) (fun v _ => kk - (intOf v).toNat)
  case atStart => exact ⟨0, by omega, rfl, rfl⟩
  case round =>
    obtain ⟨i, hi, rfl, rfl⟩ := hrel
    obtain ⟨b, hb, hc, hm⟩ := HB.out.cell (k := i) (by omega)
    have hix := fun w => idx_bud g i (by omega) w
    have hl := fun ty => hm.run_len uBud ty
    by_cases hlt : i < kk
    · rw [H0.out i hlt] at hl
      clear hm
      go_wp2_with fail
      go_roundw
      case rel => exact ⟨i + 1, by omega, by go_num, trivial⟩
      case measure => simp [intOf]; omega
    · obtain rfl : i = kk := by omega
      rw [List.length_map, H1.out] at hl
      clear hm
      go_wp2_with fail
      go_ret2
      exact ⟨rfl, rfl⟩
set_option maxRecDepth 100000 in
theorem bu_above_no (g bt : Nat) (bs : List Nat) (n : Int) (L : Nat → List Int) (h0 : ∀ j, j < 11 → L j = []) (w : World) (hB : BudAt w g bs bt n L) :
    Calls Tryz.prog 51 #[.pointer (some ⟨g, 0, none⟩), .int .i64 0] w fun e w' => e = .returned (.tuple #[.int .i64 0, .bool false]) ∧ w = w' := by
  have HB := Lib.hid hB; have H0 := Lib.hid h0
  clear hB h0
  go_enter Tryz.func51, Tryz.ntmps51
  go_wp2_with fail
  go_loopw [6] (fun v wr => ∃ i : Nat, i ≤ 11 ∧ v = .int .i64 (i : Int) ∧ wr = w) (fun v _ => 11 - (intOf v).toNat)
  case atStart => exact ⟨0, by omega, rfl, rfl⟩
  case round =>
    obtain ⟨i, hi, rfl, rfl⟩ := hrel
    by_cases hlt : i < 11
    · obtain ⟨b, hb, hc, hm⟩ := HB.out.cell (k := i) hlt
      have hix := fun w => idx_bud g i hlt w
      have hl := fun ty => hm.run_len uBud ty
      rw [H0.out i hlt] at hl
      clear hm
      go_wp2_with fail
      go_roundw
      case rel => exact ⟨i + 1, by omega, by go_num, trivial⟩
      case measure => simp [intOf]; omega
    · obtain rfl : i = 11 := by omega
      go_wp2_with fail
      go_ret2
      exact ⟨rfl, rfl⟩
set_option maxRecDepth 100000 in
theorem bu_has (g bt : Nat) (bs : List Nat) (n : Int) (L : Nat → List Int) (kk : Nat) (hkk : kk < 11) (h0 : ∀ j, j < kk → L j = []) (h1 : (L kk).length = 1) (w : World) (hB : BudAt w g bs bt n L) :
    Calls Tryz.prog 174 #[.pointer (some ⟨g, 0, none⟩), .int .i64 0] w fun e w' => e = .returned (.bool true) ∧ w = w' := by
  have ha := bu_above g bt bs n L kk hkk h0 h1 w hB
  have hr := bu_right g 0 (by omega) w
  have HA := Lib.hid ha; have HR := Lib.hid hr
  clear ha hr hB h0 h1
  go_enter Tryz.func174, Tryz.ntmps174
  go_wp2_with fail
  refine HR.out.mono ?_; rintro e w1 ⟨rfl, rfl⟩
  go_wp2_with fail
  refine HA.out.mono ?_; rintro e w1 ⟨rfl, rfl⟩
  go_wp2_with fail
  go_ret
  exact ⟨rfl, rfl⟩
theorem bu_has_no (g bt : Nat) (bs : List Nat) (n : Int) (L : Nat → List Int) (h0 : ∀ j, j < 11 → L j = []) (w : World) (hB : BudAt w g bs bt n L) :
    Calls Tryz.prog 174 #[.pointer (some ⟨g, 0, none⟩), .int .i64 0] w fun e w' => e = .returned (.bool false) ∧ w = w' := by
  have ha := bu_above_no g bt bs n L h0 w hB
  have hr := bu_right g 0 (by omega) w
  have HA := Lib.hid ha; have HR := Lib.hid hr
  clear ha hr hB h0
  go_enter Tryz.func174, Tryz.ntmps174
  go_wp2_with fail
  refine HR.out.mono ?_; rintro e w1 ⟨rfl, rfl⟩
  go_wp2_with fail
  refine HA.out.mono ?_; rintro e w1 ⟨rfl, rfl⟩
  go_wp2_with fail
  go_ret
  exact ⟨rfl, rfl⟩
/-- How many frames are free, up to an order. -/
def sumL (L : Nat → List Int) : Nat → Nat
  | 0 => 0
  | k + 1 => sumL L k + (L k).length * 2 ^ k
theorem sumL_le (L : Nat → List Int) (h : ∀ j, (L j).length ≤ 1) : ∀ k, sumL L k ≤ 2 ^ k - 1
  | 0 => by simp [sumL]
  | k + 1 => by
    have h1 := sumL_le L h k
    have h2 := h k
    have h3 : (L k).length * 2 ^ k ≤ 1 * 2 ^ k := Nat.mul_le_mul_right _ h2
    have h4 := Nat.two_pow_pos k
    simp only [sumL, Nat.pow_succ]
    omega
theorem shl_bud (l k : Nat) (hl : l ≤ 1) (hk : k < 11) : IntKind.i64.wrap ((l : Int) * 2 ^ k) = ((l * 2 ^ k : Nat) : Int) := by
  have h1 : (2 : Nat) ^ k ≤ 2 ^ 10 := Nat.pow_le_pow_right (by omega) (by omega)
  have h2 : l * 2 ^ k ≤ 1 * 2 ^ k := Nat.mul_le_mul_right _ hl
  have e : (l : Int) * 2 ^ k = ((l * 2 ^ k : Nat) : Int) := by push_cast; rfl
  rw [e]
  exact i64_sm (by omega) (by omega)
def mapV (b : Nat) : Value := .map (some b)
theorem size_bud : (Tryz.prog.info? 130).map (·.size) = some 11 := by kernel_rfl
theorem wpList_load_bud (w : World) {ops : Array Oper} {rest : List Oper} {o : Oper} {a : Act} {Q : Exit → Act → World → Prop} (hgd : o.guard = none) (x : Operand) (ho : o.op = .load 130 x)
    {g bt : Nat} {bs : List Nat} {n : Int} {L : Nat → List Int} (hB : BudAt w g bs bt n L) (hx : a.eval x = .pointer (some ⟨g, 1, none⟩))
    (h : wpList Tryz.prog ops Q rest (a.put o.dst (.agg (bs.map mapV).toArray)) w) : wpList Tryz.prog ops Q (o :: rest) a w := by
  have hl := hB.len
  have hr := blk_range hB.st 1 11
  have e : ((Value.int .i64 n :: (bs.map (fun b => Value.map (some b)) ++ [.map (some bt)])).drop 1).take 11 = bs.map mapV := by
    rw [List.drop_one, List.tail_cons, List.take_append_of_le_length (by rw [List.length_map]; omega), List.take_of_length_le (by rw [List.length_map]; omega)]
    rfl
  rw [e] at hr
  exact wpList_load_mid hgd 130 x ho g 1 hx _ _ hr Tryz.underlying130 rfl (by rw [size_bud, List.length_map, hl]) h
theorem idx_agg (bs : List Nat) (k b : Nat) (hk : k < 11) (hb : bs[k]? = some b) (w : World) : (Instr.index 130 (.agg (bs.map mapV).toArray) (.int .i64 (k : Int))).run Tryz.prog w = .ok (.map (some b)) w := by
  have h1 : (k : Int) < 11 := by omega
  simp [go_sem, Instr.index, hk, h1, hb, mapV]
set_option maxRecDepth 100000 in
theorem bu_free (g bt : Nat) (bs : List Nat) (n : Int) (L : Nat → List Int) (h1 : ∀ j, (L j).length ≤ 1) (w : World) (hB : BudAt w g bs bt n L) :
    Calls Tryz.prog 26 #[.pointer (some ⟨g, 0, none⟩)] w fun e w' => e = .returned (.int .i64 (sumL L 11 : Nat)) ∧ w = w' := by
  have HB := Lib.hid hB; have H1 := Lib.hid h1
  clear hB h1
  go_enter Tryz.func26, Tryz.ntmps26
  go_upto_region 4 with fail
  go_wp2_with (with_reducible refine wpList_load_bud _ rfl _ rfl HB.out rfl ?_)
  go_loopw [3, 12] (fun v3 v12 wr => ∃ i : Nat, i ≤ 11 ∧ v12 = .int .i64 (i : Int) ∧ v3 = .int .i64 (sumL L i : Nat) ∧ wr = w) (fun _ v _ => 11 - (intOf v).toNat)
  case atStart => exact ⟨0, by omega, rfl, rfl, rfl⟩
  case round =>
    obtain ⟨i, hi, rfl, rfl, rfl⟩ := hrel
    by_cases hlt : i < 11
    · obtain ⟨b, hb, hc, hm⟩ := HB.out.cell (k := i) hlt
      have hix := fun w => idx_agg bs i b hlt hb w
      have hl := fun ty => hm.run_len uBud ty
      rw [List.length_map] at hl
      have hs := shl_bud (L i).length i (H1.out i) hlt
      have hsl := sumL_le L H1.out i
      have hsl2 := sumL_le L H1.out (i + 1)
      have hp1 : (2 : Nat) ^ i ≤ 2 ^ 10 := Nat.pow_le_pow_right (by omega) (by omega)
      have hp2 : (2 : Nat) ^ (i + 1) ≤ 2 ^ 11 := Nat.pow_le_pow_right (by omega) (by omega)
      have hsu : sumL L (i + 1) = sumL L i + (L i).length * 2 ^ i := rfl
      have HSU := Lib.hid hsu
      clear hm hc hb
      generalize sumL L i = S1 at *
      generalize (L i).length = l at *
      generalize hS2 : sumL L (i + 1) = S2 at *
      have HS2 := Lib.hid hS2
      clear hS2
      have hw : wrap64 ((S1 : Int) + (l : Int) * 2 ^ i) = (S2 : Int) := by
        have e : (S1 : Int) + (l : Int) * 2 ^ i = ((S1 + l * 2 ^ i : Nat) : Int) := by push_cast; rfl
        rw [e, ← HSU.out]
        exact wrap64_small (by omega) (by omega)
      have HW := Lib.hid hw
      clear hw
      go_wp2_with fail
      go_roundw
      case rel => exact ⟨i + 1, by omega, by go_num, by rw [HW.out, HS2.out], trivial⟩
      case measure => simp [intOf]; omega
    · obtain rfl : i = 11 := by omega
      go_wp2_with fail
      go_ret
      exact ⟨rfl, rfl⟩
end Go.Proofs.YtjdbedoabcbeeaaGreatDoor
