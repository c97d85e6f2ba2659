/- Sums of distances, the best node, tables of events: plain laws. -/
import Derived.Test.YtpajbpgpbfmebaaTopoIn
namespace Go.Proofs.Ytpajbpgpbfmebaa
open Go.RowKit
set_option linter.unusedVariables false
set_option linter.unusedSimpArgs false

theorem mat_at {m : Nat} {D : List RowV} (h : matB m D = true) {a c : Nat} (ha : a < m) (hc : c < m) : okE a c (dv D a c) = true := by
  unfold matB at h
  rw [Bool.and_eq_true, Bool.and_eq_true] at h
  exact of_decide_eq_true h.2.2 ⟨a, ha⟩ ⟨c, hc⟩
theorem mat_own {m : Nat} {D : List RowV} (h : matB m D = true) {a : Nat} (ha : a < m) : dv D a a = 10 := by
  have := mat_at h ha ha
  unfold okE at this
  rw [if_pos rfl] at this
  exact of_decide_eq_true this
theorem mat_far {m : Nat} {D : List RowV} (h : matB m D = true) {a c : Nat} (ha : a < m) (hc : c < m) (hne : a ≠ c) : 11 ≤ dv D a c ∧ dv D a c ≤ 255 := by
  have := mat_at h ha hc
  unfold okE at this
  rw [if_neg hne] at this
  have := of_decide_eq_true this
  omega
theorem best_spec (D : List RowV) (xs : List Int) (n m : Nat) (h : ∀ a, a < m → 0 ≤ sumTo D a xs n) : ∀ k, 1 ≤ k → k ≤ m → ∃ b : Nat, b < k ∧ bestK D xs n k = ((b : Int), sumTo D b xs n) ∧ ∀ i, i < k → sumTo D b xs n ≤ sumTo D i xs n ∧ (i < b → sumTo D b xs n < sumTo D i xs n) := by
  intro k
  induction k with
  | zero => intro h; omega
  | succ k ih =>
    intro _ hk
    by_cases h0 : k = 0
    · subst h0
      refine ⟨0, by omega, ?_, fun i hi => ?_⟩
      · simp [bestK]
      · obtain rfl : i = 0 := by omega
        omega
    · obtain ⟨b, hb, he, hi⟩ := ih (by omega) (by omega)
      have hsb := h b (by omega)
      by_cases hlt : sumTo D k xs n < sumTo D b xs n
      · refine ⟨k, by omega, ?_, fun i hik => ?_⟩
        · simp only [bestK, he]
          rw [if_pos (Or.inr hlt)]
        · by_cases e : i = k
          · subst e; omega
          · have := (hi i (by omega)).1
            omega
      · refine ⟨b, by omega, ?_, fun i hik => ?_⟩
        · simp only [bestK, he]
          rw [if_neg (by omega)]
        · by_cases e : i = k
          · subst e; omega
          · exact hi i (by omega)
theorem sumTo_rep (D : List RowV) (a k n : Nat) : ∀ j, j ≤ n → sumTo D a (List.replicate n (k : Int)) j = (j : Int) * dv D a k := by
  intro j
  induction j with
  | zero => intro _; rw [sumTo_zero]; simp
  | succ j ih =>
    intro hj
    rw [sumTo_succ _ _ _ _ (by simp; omega), ih (by omega)]
    have : (List.replicate n (k : Int)).getD j 0 = (k : Int) := by
      rw [List.getD_eq_getElem?_getD, List.getElem?_replicate, if_pos (by omega)]
      rfl
    rw [this, Int.toNat_natCast, Int.natCast_succ, Int.add_mul]
    omega
/-- Of one node alone, however often, that is the best. -/
theorem best_rep {m : Nat} {D : List RowV} (h : matB m D = true) {k n : Nat} (hk : k < m) (hn : 1 ≤ n) : bestK D (List.replicate n (k : Int)) n m = ((k : Int), 10 * (n : Int)) := by
  have hs : ∀ a, sumTo D a (List.replicate n (k : Int)) n = (n : Int) * dv D a k := fun a => sumTo_rep D a k n n (Nat.le_refl _)
  obtain ⟨b, hb, he, hi⟩ := best_spec D (List.replicate n (k : Int)) n m (fun a ha => by
    rw [hs]
    have := (mat_bds h).2.2 a k ha hk
    exact Int.mul_nonneg (by omega) (by omega)) m (by omega) (Nat.le_refl _)
  have hle := (hi k hk).1
  have hbk : b = k := by
    rcases Classical.em (b = k) with e | e
    · exact e
    · exfalso
      rw [hs, hs, mat_own h hk] at hle
      have h2 := (mat_far h hb hk e).1
      have h3 : (n : Int) * 11 ≤ (n : Int) * dv D b k := Int.mul_le_mul_of_nonneg_left h2 (by omega)
      omega
  subst hbk
  rw [he, hs, mat_own h hb]
  congr 1
  omega
def rangeI (m : Nat) : List Int := (List.range m).map Int.ofNat
theorem rangeI_len (m : Nat) : (rangeI m).length = m := by simp [rangeI]
theorem rangeI_at {m i : Nat} (h : i < m) : (rangeI m)[i]? = some (i : Int) := by
  unfold rangeI
  rw [List.getElem?_map, List.getElem?_range h]
  rfl
theorem rangeI_getD {m i : Nat} (h : i < m) : (rangeI m).getD i 0 = (i : Int) := by
  rw [List.getD_eq_getElem?_getD, rangeI_at h]
  rfl
theorem rangeI_succ (m : Nat) : rangeI (m + 1) = rangeI m ++ [(m : Int)] := by
  unfold rangeI
  rw [List.range_succ, List.map_append]
  rfl
theorem rangeI_ok (m : Nat) : (rangeI m).any (badN (m : Int)) = false := by
  rw [List.any_eq_false]
  intro x hx
  unfold rangeI at hx
  obtain ⟨i, hi, rfl⟩ := List.mem_map.1 hx
  have := List.mem_range.1 hi
  unfold badN
  simp
  omega
theorem rep_ok {m k : Nat} (n : Nat) (h : k < m) : (List.replicate n (k : Int)).any (badN (m : Int)) = false := by
  rw [List.any_eq_false]
  intro x hx
  obtain ⟨_, rfl⟩ := List.mem_replicate.1 hx
  unfold badN
  simp
  omega
/-- Something of each event's distance, added. -/
def sumE (f : Int → Int) (D : List RowV) (l : List EvC) : Nat → Int
  | 0 => 0
  | k + 1 => match l[k]? with
    | none => sumE f D l k
    | some e => sumE f D l k + f (dv D e.own.toNat e.node.toNat)
theorem sumE_succ {f : Int → Int} {D : List RowV} {l : List EvC} {k : Nat} {e : EvC} (h : l[k]? = some e) : sumE f D l (k + 1) = sumE f D l k + f (dv D e.own.toNat e.node.toNat) := by
  simp only [sumE, h]
theorem foldK_set (f : Int → Int) (D : List RowV) (xs : List Int) (m p : Nat) (hp : p < xs.length) : ∀ k, foldK f D (xs.set p (xs.getD p 0 + 1)) m k = foldK f D xs m k + (if p < k then f (dv D (p / m) (p % m)) else 0) := by
  intro k
  induction k with
  | zero => simp [foldK]
  | succ k ih =>
    rw [foldK, foldK, ih]
    by_cases e : p = k
    · subst e
      rw [if_neg (by omega), if_pos (by omega)]
      have : (xs.set p (xs.getD p 0 + 1)).getD p 0 = xs.getD p 0 + 1 := by
        rw [List.getD_eq_getElem?_getD, List.getElem?_set_self hp]
        rfl
      rw [this, Int.add_mul]
      omega
    · have : (xs.set p (xs.getD p 0 + 1)).getD k 0 = xs.getD k 0 := by
        rw [List.getD_eq_getElem?_getD, List.getElem?_set_ne e, ← List.getD_eq_getElem?_getD]
      rw [this]
      by_cases h : p < k
      · rw [if_pos h, if_pos (by omega)]; omega
      · rw [if_neg h, if_neg (by omega)]; omega
theorem tabK_len (m : Nat) (l : List EvC) : ∀ k, (tabK m l k).length = m * m := by
  intro k
  induction k with
  | zero => simp [tabK]
  | succ k ih =>
    cases h : l[k]? with
    | none => simp only [tabK, h]; exact ih
    | some e => rw [tabK_succ h, List.length_set]; exact ih
theorem foldK_zero (f : Int → Int) (D : List RowV) (N m : Nat) : ∀ k, foldK f D (List.replicate N 0) m k = 0 := by
  intro k
  induction k with
  | zero => rfl
  | succ k ih =>
    rw [foldK, ih]
    have : (List.replicate N (0 : Int)).getD k 0 = 0 := by
      rw [List.getD_eq_getElem?_getD, List.getElem?_replicate]
      split <;> rfl
    rw [this]
    simp
theorem evOk_at {m : Nat} {e : EvC} (h : evOk m e = true) : ∃ a b : Nat, e.own = (a : Int) ∧ e.node = (b : Int) ∧ a < m ∧ b < m := by
  have := of_decide_eq_true h
  obtain ⟨a, ha⟩ := Int.eq_ofNat_of_zero_le this.1
  obtain ⟨b, hb⟩ := Int.eq_ofNat_of_zero_le this.2.2.1
  exact ⟨a, b, ha, hb, by omega, by omega⟩
theorem fold_events (f : Int → Int) (D : List RowV) (m : Nat) (l : List EvC) (hl : l.all (evOk m) = true) : ∀ k, foldK f D (tabK m l k) m (m * m) = sumE f D l k := by
  intro k
  induction k with
  | zero => simp only [tabK, sumE]; exact foldK_zero f D _ m _
  | succ k ih =>
    cases h : l[k]? with
    | none => simp only [tabK, sumE, h]; exact ih
    | some e =>
      obtain ⟨a, b, ha, hb, ham, hbm⟩ := evOk_at (List.all_eq_true.1 hl e (List.mem_of_getElem? h))
      have hp : a * m + b < m * m := place_lt ham hbm
      rw [tabK_succ h, sumE_succ h, foldK_set _ _ _ _ _ (by rw [tabK_len, ha, hb, Int.toNat_natCast, Int.toNat_natCast]; exact hp), ih, ha, hb, Int.toNat_natCast, Int.toNat_natCast, if_pos hp]
      have h1 : (a * m + b) / m = a := by rw [Nat.mul_comm a m, Nat.mul_add_div (by omega), Nat.div_eq_of_lt hbm]; omega
      have h2 : (a * m + b) % m = b := by rw [Nat.mul_comm a m, Nat.mul_add_mod, Nat.mod_eq_of_lt hbm]
      rw [h1, h2]
theorem sumE_bd {f : Int → Int} {D : List RowV} {m : Nat} {lo hi : Int} {l : List EvC} (hl : l.all (evOk m) = true) (hf : ∀ a b, a < m → b < m → lo ≤ f (dv D a b) ∧ f (dv D a b) ≤ hi) : ∀ k, k ≤ l.length → lo * (k : Int) ≤ sumE f D l k ∧ sumE f D l k ≤ hi * (k : Int) := by
  intro k
  induction k with
  | zero => intro _; simp [sumE]
  | succ k ih =>
    intro hk
    have hlt : k < l.length := by omega
    have h := List.getElem?_eq_getElem hlt
    obtain ⟨a, b, ha, hb, ham, hbm⟩ := evOk_at (List.all_eq_true.1 hl _ (List.mem_of_getElem? h))
    have h1 := ih (by omega)
    have h2 := hf a b ham hbm
    rw [sumE_succ h, ha, hb, Int.toNat_natCast, Int.toNat_natCast, Int.natCast_succ, Int.mul_add, Int.mul_add]
    omega
/-- The sum of some and of the others. -/
theorem sumE_take (f : Int → Int) (D : List RowV) (l : List EvC) (k : Nat) : ∀ j, j ≤ k → sumE f D (l.take k) j = sumE f D l j := by
  intro j
  induction j with
  | zero => intro _; rfl
  | succ j ih =>
    intro hj
    have h : (l.take k)[j]? = l[j]? := by rw [List.getElem?_take, if_pos (by omega)]
    simp only [sumE, h, ih (by omega)]
theorem sumE_drop (f : Int → Int) (D : List RowV) (l : List EvC) (k : Nat) : ∀ j, sumE f D l k + sumE f D (l.drop k) j = sumE f D l (k + j) := by
  intro j
  induction j with
  | zero => simp [sumE]
  | succ j ih =>
    have h : (l.drop k)[j]? = l[k + j]? := by rw [List.getElem?_drop]
    rw [← Nat.add_assoc]
    simp only [sumE, h]
    split
    · exact ih
    · rw [← ih]; omega
/-- How many events go from a node to another one. -/
def cntE (l : List EvC) (a b : Int) : Nat → Int
  | 0 => 0
  | k + 1 => match l[k]? with
    | none => cntE l a b k
    | some e => if e.own = a ∧ e.node = b then cntE l a b k + 1 else cntE l a b k
theorem cntE_succ {l : List EvC} {a b : Int} {k : Nat} {e : EvC} (h : l[k]? = some e) : cntE l a b (k + 1) = if e.own = a ∧ e.node = b then cntE l a b k + 1 else cntE l a b k := by
  simp only [cntE, h]
theorem cntE_bd (l : List EvC) (a b : Int) : ∀ k, 0 ≤ cntE l a b k ∧ cntE l a b k ≤ (k : Int) := by
  intro k
  induction k with
  | zero => simp [cntE]
  | succ k ih =>
    cases h : l[k]? with
    | none => simp only [cntE, h]; omega
    | some e => rw [cntE_succ h]; split <;> omega
theorem tab_cnt {m : Nat} {l : List EvC} (hl : l.all (evOk m) = true) {a b : Nat} (ha : a < m) (hb : b < m) : ∀ k, (tabK m l k).getD (a * m + b) 0 = cntE l (a : Int) (b : Int) k := by
  intro k
  induction k with
  | zero =>
    simp only [tabK, cntE, List.getD_eq_getElem?_getD, List.getElem?_replicate]
    split <;> rfl
  | succ k ih =>
    cases h : l[k]? with
    | none => simp only [tabK, cntE, h]; exact ih
    | some e =>
      obtain ⟨a', b', ha', hb', ham, hbm⟩ := evOk_at (List.all_eq_true.1 hl e (List.mem_of_getElem? h))
      rw [tabK_succ h, cntE_succ h, ha', hb', Int.toNat_natCast, Int.toNat_natCast, List.getD_eq_getElem?_getD]
      by_cases e2 : a' = a ∧ b' = b
      · obtain ⟨rfl, rfl⟩ := e2
        rw [if_pos ⟨rfl, rfl⟩, List.getElem?_set_self (by rw [tabK_len]; exact place_lt ha hb), Option.getD_some, ih]
      · rw [if_neg (by rintro ⟨h1, h2⟩; exact e2 ⟨by omega, by omega⟩), List.getElem?_set_ne, ← List.getD_eq_getElem?_getD, ih]
        intro e3
        apply e2
        have h1 : (a' * m + b') / m = (a * m + b) / m := by rw [e3]
        rw [Nat.mul_comm a' m, Nat.mul_comm a m, Nat.mul_add_div (by omega), Nat.mul_add_div (by omega), Nat.div_eq_of_lt hbm, Nat.div_eq_of_lt hb] at h1
        have h2 : a' = a := by omega
        subst h2
        exact ⟨rfl, by omega⟩
end Go.Proofs.Ytpajbpgpbfmebaa
