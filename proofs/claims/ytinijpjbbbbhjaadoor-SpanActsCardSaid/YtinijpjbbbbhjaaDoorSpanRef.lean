/- The reference's span (layer 13), and the calls of a span in one form each, whatever they answer. -/
import Derived.Test.YtinijpjbbbbhjaaDoorSpanBits
import Derived.Test.YtinijpjbbbbhjaaDoorCuts
import Derived.Laws.MakeOwn
namespace Go.Proofs.YtinijpjbbbbhjaaDoor
open Go.RowKit
set_option linter.unusedVariables false
set_option linter.unusedSimpArgs false
attribute [local go_sem] World.cell?_alloc_lt

/-- What Give answers and leaves of t. -/
def giveOk (t n : Nat) (i : Int) : Bool := decide (0 ≤ i ∧ i < (n : Int) ∧ t / 2 ^ i.toNat % 2 = 1)
def giveE (t n : Nat) (i : Int) : Int := if giveOk t n i then 0 else 6
def giveT (t n : Nat) (i : Int) : Nat := if giveOk t n i then anN t i.toNat else t
def takeI (t n : Nat) : Int := if tzN (255 - t) < n then (tzN (255 - t) : Int) else 0
def takeE (t n : Nat) : Int := if tzN (255 - t) < n then 0 else 14
def takeT (t n : Nat) : Nat := if tzN (255 - t) < n then orN t (tzN (255 - t)) else t
theorem an_lt8 : ∀ t : Nat, t < 256 → ∀ i : Nat, i < 8 → anN t i < 256 ∧ anN t i ≤ t := by decide +kernel
theorem or_lt8 : ∀ t : Nat, t < 256 → ∀ i : Nat, i < 8 → orN t i < 256 ∧ (t < 16 → i < 4 → orN t i < 16) := by decide +kernel
/-- Of so many objects: 4 or 8; no bits beyond. -/
def Fit (t n : Nat) : Prop := (n = 4 ∧ t < 16) ∨ (n = 8 ∧ t < 256)
theorem Fit.lt {t n : Nat} (h : Fit t n) : t < 256 ∧ 4 ≤ n ∧ n ≤ 8 := by unfold Fit at h; omega
theorem Fit.give {t n : Nat} (h : Fit t n) (i : Int) : Fit (giveT t n i) n := by
  unfold giveT
  split
  · rename_i hg
    unfold giveOk at hg
    simp only [decide_eq_true_eq] at hg
    have hl := h.lt
    have := an_lt8 t hl.1 i.toNat (by omega)
    unfold Fit at h ⊢
    omega
  · exact h
theorem Fit.take {t n : Nat} (h : Fit t n) : Fit (takeT t n) n := by
  unfold takeT
  split
  · rename_i hg
    have hl := h.lt
    have := or_lt8 t hl.1 (tzN (255 - t)) (by omega)
    unfold Fit at h ⊢
    omega
  · exact h
section
variable {w : World} {g : Nat} {c : Int} {t n : Nat}
theorem give_any (g : Nat) (c : Int) (t n : Nat) (i : Int) (w : World) (hS : SpanAt w g c t) (hn : cntOf c = (n : Int)) (hf : Fit t n) :
    Calls Tryd.prog 22 #[.pointer (some ⟨g, 0, none⟩), .int .i64 i] w fun e w' => e = .returned (.int .i64 (giveE t n i)) ∧ SpanAt w' g c (giveT t n i) ∧ Ch [g] w w' := by
  have hl := hf.lt
  unfold giveE giveT
  by_cases h : giveOk t n i = true
  · rw [if_pos h, if_pos h]
    unfold giveOk at h
    simp only [decide_eq_true_eq] at h
    obtain ⟨h0, h1, h2⟩ := h
    obtain ⟨k, rfl⟩ := Int.eq_ofNat_of_zero_le h0
    rw [Int.toNat_natCast] at h2 ⊢
    exact (give_yes g c t k w hS (by rw [hn]; exact h1) h2 (an_lt8 t hl.1 k (by omega)).1).mono fun e w' ⟨a, b, d⟩ => ⟨a, b, (Ch.refl _ w).grown d (fun q hq => by cases hq; exact Or.inl (by simp))⟩
  · rw [if_neg h, if_neg h]
    unfold giveOk at h
    simp only [decide_eq_true_eq] at h
    refine (give_no g c t i w hS ?_).mono fun e w' ⟨a, b⟩ => ⟨a, b ▸ hS, b ▸ Ch.refl _ w⟩
    rw [hn]
    by_cases h0 : 0 ≤ i ∧ i < (n : Int)
    · exact Or.inr ⟨h0.1, h0.2, fun h2 => h ⟨h0.1, h0.2, h2⟩⟩
    · exact Or.inl (by omega)
theorem take_any (g : Nat) (c : Int) (t n : Nat) (w : World) (hS : SpanAt w g c t) (hn : cntOf c = (n : Int)) (hf : Fit t n) :
    Calls Tryd.prog 20 #[.pointer (some ⟨g, 0, none⟩)] w fun e w' => e = .returned (.tuple #[.int .i64 (takeI t n), .int .i64 (takeE t n)]) ∧ SpanAt w' g c (takeT t n) ∧ Ch [g] w w' := by
  have hl := hf.lt
  unfold takeI takeE takeT
  by_cases h : tzN (255 - t) < n
  · rw [if_pos h, if_pos h, if_pos h]
    exact (take_yes g c t _ w hS rfl (by rw [hn]; omega) (by omega) (or_lt8 t hl.1 _ (by omega)).1).mono fun e w' ⟨a, b, d⟩ => ⟨a, b, (Ch.refl _ w).grown d (fun q hq => by cases hq; exact Or.inl (by simp))⟩
  · rw [if_neg h, if_neg h, if_neg h]
    exact (take_no g c t w hS (by rw [hn]; omega)).mono fun e w' ⟨a, b⟩ => ⟨a, b ▸ hS, b ▸ Ch.refl _ w⟩
end
/-- The reference's span: a yes or no for each object. -/
def bitV (t : Nat) (i : Nat) : Value := .bool (decide (t / 2 ^ i % 2 = 1))
structure RefAt (w : World) (r tb : Nat) (c : Int) (n t : Nat) : Prop where
  st : Blk w r 47 [.int .i64 c, .slice (some ⟨tb, 0, none⟩) n n]
  tk : Blk w tb 4 ((List.range n).map (bitV t))
theorem RefAt.ch {w w' : World} {S : List Nat} {r tb : Nat} {c : Int} {n t : Nat} (h : RefAt w r tb c n t) (k : Ch S w w') (h1 : r ∉ S) (h2 : tb ∉ S) : RefAt w' r tb c n t := ⟨h.st.ch k h1, h.tk.ch k h2⟩
theorem RefAt.below {w w' : World} {r tb : Nat} {c : Int} {n t : Nat} (h : RefAt w r tb c n t) (k : Below w.heap.size w w') : RefAt w' r tb c n t := ⟨h.st.below k, h.tk.below k⟩
theorem RefAt.bit {w : World} {r tb : Nat} {c : Int} {n t i : Nat} (h : RefAt w r tb c n t) (hi : i < n) : w.cell? ⟨tb, i, none⟩ = some (.bool (decide (t / 2 ^ i % 2 = 1))) := by
  refine h.tk.at_ ?_
  rw [List.getElem?_map, List.getElem?_range hi]
  rfl
theorem RefAt.set_ {w : World} {r tb : Nat} {c : Int} {n t t' i : Nat} {b : Bool} (h : RefAt w r tb c n t) (hi : i < n) (ht : ∀ j, j < n → decide (t' / 2 ^ j % 2 = 1) = if j = i then b else decide (t / 2 ^ j % 2 = 1)) :
    RefAt (w.setCell ⟨tb, i, none⟩ (.bool b)) r tb c n t' := by
  refine ⟨h.st.far (p := ⟨tb, i, none⟩) (h.st.ne_ h.tk (by decide)) _, ?_⟩
  have := h.tk.set_ i (.bool b)
  have e : ((List.range n).map (bitV t)).set i (.bool b) = (List.range n).map (bitV t') := by
    apply List.ext_getElem?
    intro j
    by_cases hj : j < n
    · rw [List.getElem?_map, List.getElem?_range hj]
      by_cases e : i = j
      · subst e
        rw [List.getElem?_set_self (by simp [hj])]
        simp [bitV, ht i hj]
      · rw [List.getElem?_set_ne e, List.getElem?_map, List.getElem?_range hj]
        simp only [Option.map_some, bitV]
        rw [ht j hj, if_neg (fun h => e h.symm)]
    · rw [List.getElem?_eq_none (by simp; omega), List.getElem?_eq_none (by simp; omega)]
  rw [e] at this
  exact this
theorem idx_bool (g m i : Nat) (hi : i < m) (w : World) : (Instr.indexAt 45 (.slice (some ⟨g, 0, none⟩) m m) (.int .i64 (i : Int))).run Tryd.prog w = .ok (.pointer (some ⟨g, i, none⟩)) w := by
  simp [go_sem, hi]
theorem an_bit : ∀ t : Nat, t < 256 → ∀ i : Nat, i < 8 → ∀ j : Nat, j < 8 → decide (anN t i / 2 ^ j % 2 = 1) = if j = i then false else decide (t / 2 ^ j % 2 = 1) := by decide +kernel
theorem or_bit : ∀ t : Nat, t < 256 → ∀ i : Nat, i < 8 → ∀ j : Nat, j < 8 → decide (orN t i / 2 ^ j % 2 = 1) = if j = i then true else decide (t / 2 ^ j % 2 = 1) := by decide +kernel
theorem refGive_any (r tb : Nat) (c : Int) (n t : Nat) (i : Int) (w : World) (hR : RefAt w r tb c n t) (hf : Fit t n) :
    Calls Tryd.prog 29 #[.pointer (some ⟨r, 0, none⟩), .int .i64 i] w fun e w' => e = .returned (.int .i64 (giveE t n i)) ∧ RefAt w' r tb c n (giveT t n i) ∧ Ch [tb] w w' := by
  have hl := hf.lt
  have k1 := hR.st.at_ (i := 1) rfl
  rcases (by omega : i < 0 ∨ (0 ≤ i ∧ (n : Int) ≤ i) ∨ (0 ≤ i ∧ i < (n : Int))) with h | ⟨h, h2⟩ | ⟨h, h2⟩
  · have hg : giveOk t n i = false := decide_eq_false (by omega)
    unfold giveE giveT
    rw [hg, if_neg Bool.false_ne_true, if_neg Bool.false_ne_true]
    clear hg
    go_enter Tryd.func29, Tryd.ntmps29
    go_wp2_with fail
    go_ret
    exact ⟨rfl, hR, Ch.refl _ _⟩
  · have hg : giveOk t n i = false := decide_eq_false (by omega)
    unfold giveE giveT
    rw [hg, if_neg Bool.false_ne_true, if_neg Bool.false_ne_true]
    clear hg
    go_enter Tryd.func29, Tryd.ntmps29
    go_wp2_with fail
    go_ret
    exact ⟨rfl, hR, Ch.refl _ _⟩
  · obtain ⟨k, rfl⟩ := Int.eq_ofNat_of_zero_le h
    have hkn : k < n := by omega
    have kb := hR.bit hkn
    have kf := hR.tk.frozen k
    have hix := fun w => idx_bool tb n k hkn w
    unfold giveE giveT giveOk
    rw [Int.toNat_natCast]
    by_cases hb : t / 2 ^ k % 2 = 1
    · rw [decide_eq_true hb] at kb
      rw [decide_eq_true (show 0 ≤ (k : Int) ∧ (k : Int) < (n : Int) ∧ t / 2 ^ k % 2 = 1 from ⟨h, h2, hb⟩), if_pos rfl, if_pos rfl]
      have hst := hR.set_ (b := false) hkn (fun j hj => an_bit t hl.1 k (by omega) j (by omega))
      have HST := Lib.hid hst
      clear hst hb hR hf
      go_enter Tryd.func29, Tryd.ntmps29
      go_wp2_with fail
      go_ret
      exact ⟨rfl, HST.out, (Ch.refl _ _).set (by simp) _⟩
    · rw [decide_eq_false hb] at kb
      rw [decide_eq_false (fun h => hb h.2.2), if_neg Bool.false_ne_true, if_neg Bool.false_ne_true]
      clear hb
      go_enter Tryd.func29, Tryd.ntmps29
      go_wp2_with fail
      go_ret
      exact ⟨rfl, hR, Ch.refl _ _⟩
theorem tz_low : ∀ t : Nat, t < 256 → ∀ j : Nat, j < 8 → j < tzN (255 - t) → decide (t / 2 ^ j % 2 = 1) = true := by decide +kernel
theorem tz_at : ∀ t : Nat, t < 256 → tzN (255 - t) < 8 → decide (t / 2 ^ tzN (255 - t) % 2 = 1) = false := by decide +kernel
theorem refTake_any (r tb : Nat) (c : Int) (n t : Nat) (w : World) (hR : RefAt w r tb c n t) (hf : Fit t n) :
    Calls Tryd.prog 30 #[.pointer (some ⟨r, 0, none⟩)] w fun e w' => e = .returned (.tuple #[.int .i64 (takeI t n), .int .i64 (takeE t n)]) ∧ RefAt w' r tb c n (takeT t n) ∧ Ch [tb] w w' := by
  have hl := hf.lt
  have k1 := hR.st.at_ (i := 1) rfl
  have tlow := tz_low t hl.1
  have tat := tz_at t hl.1
  unfold takeI takeE takeT
  generalize hz : tzN (255 - t) = z at *
  have HLOW := Lib.hid tlow; have HAT := Lib.hid tat; clear tlow tat hz
  have HF := Lib.hid hf; have HR := Lib.hid hR; clear hf hR
  by_cases hzn : z < n
  · rw [if_pos hzn, if_pos hzn, if_pos hzn]
    go_enter Tryd.func30, Tryd.ntmps30
    go_wp2_with fail
    go_loop [4] (fun vi => ∃ i : Nat, i ≤ z ∧ vi = .int .i64 i) (fun vi => n - (intOf vi).toNat)
    case atStart => exact ⟨0, by omega, rfl⟩
    case round =>
      obtain ⟨i, hi, rfl⟩ := hrel
      have hin : i < n := by omega
      have kb := HR.out.bit hin
      have kf := HR.out.tk.frozen i
      have hix := fun w => idx_bool tb n i hin w
      by_cases e : i = z
      · subst e
        rw [HAT.out (by omega)] at kb
        have hst := HR.out.set_ (b := true) hin (fun j hj => or_bit t hl.1 i (by omega) j (by omega))
        have HST := Lib.hid hst
        clear hst
        go_wp2_with fail
        go_ret2
        exact ⟨rfl, HST.out, (Ch.refl _ _).set (by simp) _⟩
      · rw [HLOW.out i (by omega) (by omega)] at kb
        go_wp2_with fail
        go_round
        case rel => exact ⟨i + 1, by omega, by go_num⟩
        case measure => simp [intOf]; omega
  · rw [if_neg hzn, if_neg hzn, if_neg hzn]
    go_enter Tryd.func30, Tryd.ntmps30
    go_wp2_with fail
    go_loop [4] (fun vi => ∃ i : Nat, i ≤ n ∧ vi = .int .i64 i) (fun vi => n - (intOf vi).toNat)
    case atStart => exact ⟨0, by omega, rfl⟩
    case round =>
      obtain ⟨i, hi, rfl⟩ := hrel
      by_cases hin : i < n
      · have kb := HR.out.bit hin
        have hix := fun w => idx_bool tb n i hin w
        rw [HLOW.out i (by omega) (by omega)] at kb
        go_wp2_with fail
        go_round
        case rel => exact ⟨i + 1, by omega, by go_num⟩
        case measure => simp [intOf]; omega
      · go_wp2_with fail
        go_ret2
        exact ⟨rfl, HR.out, Ch.refl _ _⟩
/-- How many bits below i. -/
def upN (t i : Nat) : Nat := ((List.range i).filter (fun j => t / 2 ^ j % 2 = 1)).length
theorem upN_succ (t i : Nat) : upN t (i + 1) = upN t i + if decide (t / 2 ^ i % 2 = 1) = true then 1 else 0 := by
  unfold upN
  rw [List.range_succ, List.filter_append, List.length_append]
  by_cases h : t / 2 ^ i % 2 = 1 <;> simp [h]
theorem upN_le (t i : Nat) : upN t i ≤ i := by
  unfold upN
  exact Nat.le_trans (List.length_filter_le _ _) (by simp)
theorem upN_8 : ∀ t : Nat, t < 256 → upN t 8 = ocN t := by decide +kernel
theorem upN_4 : ∀ t : Nat, t < 16 → upN t 4 = ocN t := by decide +kernel
theorem upN_fit {t n : Nat} (h : Fit t n) : upN t n = ocN t := by
  unfold Fit at h
  rcases h with ⟨rfl, h⟩ | ⟨rfl, h⟩
  · exact upN_4 t h
  · exact upN_8 t h
theorem refUsed (r tb : Nat) (c : Int) (n t : Nat) (w : World) (hR : RefAt w r tb c n t) (hf : Fit t n) :
    Calls Tryd.prog 31 #[.pointer (some ⟨r, 0, none⟩)] w fun e w' => e = .returned (.int .i64 (ocN t)) ∧ w = w' := by
  have hl := hf.lt
  have k1 := hR.st.at_ (i := 1) rfl
  rw [← upN_fit hf]
  have HR := Lib.hid hR; clear hf hR
  go_enter Tryd.func31, Tryd.ntmps31
  go_wp2_with fail
  go_loop [3, 4] (fun vs vi => ∃ i : Nat, i ≤ n ∧ vi = .int .i64 i ∧ vs = .int .i64 (upN t i)) (fun _ vi => n - (intOf vi).toNat)
  case atStart => exact ⟨0, by omega, rfl, rfl⟩
  case round =>
    obtain ⟨i, hi, rfl, rfl⟩ := hrel
    by_cases hin : i < n
    · have kb := HR.out.bit hin
      have hix := fun w => idx_bool tb n i hin w
      have hu := upN_succ t i
      have hle := upN_le t i
      by_cases hb : t / 2 ^ i % 2 = 1
      · rw [decide_eq_true hb] at kb hu
        rw [if_pos rfl] at hu
        have HU := Lib.hid hu
        clear hu hb
        go_wp2_with fail
        go_round
        case rel => exact ⟨i + 1, by omega, by go_num, by rw [HU.out]; go_num⟩
        case measure => simp [intOf]; omega
      · rw [decide_eq_false hb] at kb hu
        rw [if_neg Bool.false_ne_true] at hu
        have HU := Lib.hid hu
        clear hu hb
        go_wp2_with fail
        go_round
        case rel => exact ⟨i + 1, by omega, by go_num, by rw [HU.out]; first | rfl | go_num⟩
        case measure => simp [intOf]; omega
    · obtain rfl : i = n := by omega
      go_wp2_with fail
      go_ret
      exact ⟨rfl, rfl⟩
theorem info_bool : (Tryd.prog.info? 4).map (fun i => (i.zero, i.size, i.bytes)) = some (some (.bool false), 1, 1) := by kernel_rfl
theorem blk_own_full {w : World} {base : Nat} {e : TypeId} {g n s : Nat} {xs : List Value} (h : w.ownsRow base e s (.slice (some ⟨g, 0, none⟩) n n) n xs) : Blk w g e xs := by
  rcases h.2 with ⟨h0, _⟩ | ⟨g', cap, cur, hv, _, hh, _, _, hsz, ht⟩
  · cases h0
  · injection hv with ha _ hc
    injection ha with ha
    injection ha with ha
    subst ha hc
    unfold Blk
    rw [hh, ← ht, List.take_of_length_le (by simp [hsz])]
theorem wpList_make_bools (w : World) {ops : Array Oper} {rest : List Oper} {o : Oper} {a : Act} {Q : Exit → Act → World → Prop}
    (hg : o.guard = none) (l c : Operand) (hop : o.op = Op.makeSlice 45 l c) (kl kc : IntKind) (L C : Int) (n : Nat) (hl : a.eval l = .int kl L) (hc : a.eval c = .int kc C) (hL : L = n) (hC : C = n) (hn : n ≤ 8)
    (hK : ∀ w', Blk w' w.heap.size 4 ((List.range n).map (bitV 0)) → w.grownBy w' none → wpList Tryd.prog ops Q rest (a.put o.dst (.slice (some ⟨w.heap.size, 0, none⟩) n n)) w') :
    wpList Tryd.prog ops Q (o :: rest) a w := by
  obtain ⟨i0, hi, hz0, hz1, hz2⟩ := info_parts info_bool
  refine wpList_make_full w hg l c 45 hop w.heap.size 4 i0 (.bool false) 1 Tryd.underlying45 hi hz0 hz1 kl kc L C n hl hc hL hC (by rw [hz2]; omega) (by unfold maxLen; omega) (Nat.le_refl _) ?_
  intro w' h1 h2
  have hd := blk_own_full h1
  rw [Nat.mul_one, made_one (.bool false) rfl n] at hd
  have e : List.replicate n (Value.bool false) = (List.range n).map (bitV 0) := by
    apply List.ext_getElem?
    intro i
    by_cases h : i < n
    · rw [List.getElem?_replicate, if_pos h, List.getElem?_map, List.getElem?_range h]
      simp [bitV]
    · rw [List.getElem?_eq_none (by simp; omega), List.getElem?_eq_none (by simp; omega)]
  rw [e] at hd
  exact hK w' hd h2
theorem idx3_2 (x y z : Int) (w : World) : (Instr.index 29 (.agg #[.int .i64 x, .int .i64 y, .int .i64 z]) (.int .i64 2)).run Tryd.prog w = .ok (.int .i64 z) w := by kernel_rfl
theorem refNew (c : Int) (n : Nat) (w : World) (h : 0 ≤ c) (h3 : c ≤ 3) (hn : cntOf c = (n : Int)) :
    Calls Tryd.prog 28 #[.int .i64 c] w fun e w' => ∃ r tb, e = .returned (.pointer (some ⟨r, 0, none⟩)) ∧ w.heap.size ≤ r ∧ w.heap.size ≤ tb ∧ RefAt w' r tb c n 0 ∧ Below w.heap.size w w' := by
  have hix := idx3_2
  have h8 := cnt8 c
  rw [hn] at h8
  go_enter Tryd.func28, Tryd.ntmps28
  go_wp2_with fail
  refine (row_yes c w h h3).mono ?_; rintro e w1 ⟨rfl, hb⟩
  rw [hn]
  clear hn
  generalize szOf c = s1 at *
  generalize ordOf c = s2 at *
  have hsz := hb.size
  go_wp2_with (at_make; refine wpList_make_bools _ rfl _ _ rfl _ _ _ _ n rfl rfl rfl rfl (by omega) ?_)
  intro w2 hd hgr
  have hb2 : Below w1.heap.size w1 w2 := (Below.refl _ _).grown hgr (Nat.le_refl _) (fun k h => by cases h)
  have hb3 := bel_trans hb hb2
  have hs2 := hb2.size
  clear hgr
  go_wp2
  go_ret
  exact ⟨w2.heap.size, w1.heap.size, rfl, hb3.size, hsz, ⟨Blk.new _ _ _, hd.alloc _⟩, bel_alloc hb3 _⟩
end Go.Proofs.YtinijpjbbbbhjaaDoor
