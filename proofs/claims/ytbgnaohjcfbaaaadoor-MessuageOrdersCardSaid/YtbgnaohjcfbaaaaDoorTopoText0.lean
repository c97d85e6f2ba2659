/- The text of a machine: words, numbers, lines, as plain lists of bytes. -/
import Derived.Test.YtbgnaohjcfbaaaaDoorTopoParse2
import Derived.Test.YtbgnaohjcfbaaaaDoorSplit
import Derived.Lib.IndexBytes
import Derived.Lib.ItoaNum
namespace Go.Proofs.YtbgnaohjcfbaaaaDoor
open Go.RowKit Go.Shelf
set_option linter.unusedVariables false
set_option linter.unusedSimpArgs false

theorem splitK_one (c : UInt8) : ∀ (n : Nat) (l : List UInt8), l.length ≤ n → Lib.splitK [c] 0 (Lib.count l [c]) l = splitL c l := by
  intro n
  induction n with
  | zero =>
    intro l hl
    obtain rfl : l = [] := List.eq_nil_of_length_eq_zero (by omega)
    have h : Lib.index [] [c] = -1 := by rw [Lib.index_one]; rfl
    rw [Lib.count_miss h]
    rfl
  | succ n ih =>
    intro l hl
    by_cases h : Lib.indexByte l c = -1
    · have h2 : Lib.index l [c] = -1 := by rw [Lib.index_one]; exact h
      rw [Lib.count_miss h2, splitL_none h]
      rfl
    · have hge := Lib.indexByte_ge l c
      obtain ⟨o, ho⟩ := Int.eq_ofNat_of_zero_le (show 0 ≤ Lib.indexByte l c by omega)
      have h2 : Lib.index l [c] = (o : Int) := by rw [Lib.index_one]; exact ho
      have hlo := (Lib.indexByte_some ho).1
      have hol := (List.getElem?_eq_some_iff.1 hlo).1
      rw [Lib.count_hit (by simp) h2, splitL_some ho, Nat.add_comm 1]
      rw [show Lib.splitK [c] 0 (Lib.count (List.drop (o + [c].length) l) [c] + 1) l = if Lib.index l [c] == -1 then [l] else l.take ((Lib.index l [c]).toNat + 0) :: Lib.splitK [c] 0 (Lib.count (List.drop (o + [c].length) l) [c]) (l.drop ((Lib.index l [c]).toNat + [c].length)) from rfl]
      rw [h2, if_neg (by simp), Int.toNat_natCast, Nat.add_zero]
      congr 1
      exact ih _ (by rw [List.length_drop]; simp; omega)
theorem words_data (c : UInt8) (s : ByteArray) : (wordsB c s).map (·.data.toList) = splitL c s.data.toList := by
  unfold wordsB
  rw [Lib.splitB_data]
  exact splitK_one c _ s.data.toList (Nat.le_refl _)
theorem bytes_inj {x y : ByteArray} (h : x.data.toList = y.data.toList) : x = y := by
  obtain ⟨⟨x⟩⟩ := x
  obtain ⟨⟨y⟩⟩ := y
  simp only at h
  rw [h]
theorem words_of {c : UInt8} {s : ByteArray} {L : List (List UInt8)} (h : splitL c s.data.toList = L) : wordsB c s = L.map bytesOf := by
  have h1 := words_data c s
  rw [h] at h1
  have h2 : (wordsB c s).map (fun x : ByteArray => bytesOf x.data.toList) = L.map bytesOf := by
    rw [← h1, List.map_map]; rfl
  rw [← h2]
  have : (fun x : ByteArray => bytesOf x.data.toList) = id := by funext x; exact bytesOf_data x
  rw [this, List.map_id]
theorem split_line {c : UInt8} : ∀ {l : List UInt8} (r : List UInt8), (∀ x ∈ l, x ≠ c) → splitL c (l ++ c :: r) = l :: splitL c r := by
  intro l
  induction l with
  | nil => intro r _; simp [splitL]
  | cons x l ih =>
    intro r h
    have hx : x ≠ c := h x (List.mem_cons_self ..)
    rw [List.cons_append, splitL, if_neg hx, ih r (fun y hy => h y (List.mem_cons_of_mem _ hy))]
theorem split_last {c : UInt8} : ∀ {l : List UInt8}, (∀ x ∈ l, x ≠ c) → splitL c l = [l] := by
  intro l
  induction l with
  | nil => intro _; rfl
  | cons x l ih =>
    intro h
    rw [splitL, if_neg (h x (List.mem_cons_self ..)), ih (fun y hy => h y (List.mem_cons_of_mem _ hy))]
/-- The parts joined again. -/
theorem split_join (c : UInt8) : ∀ (l : List UInt8), ∃ p ps, splitL c l = p :: ps ∧ l = p ++ ps.flatMap (fun q => c :: q) ∧ (∀ x ∈ p, x ≠ c) ∧ ∀ q ∈ ps, ∀ x ∈ q, x ≠ c := by
  intro l
  induction l with
  | nil => exact ⟨[], [], rfl, rfl, by simp, by simp⟩
  | cons x l ih =>
    obtain ⟨p, ps, h1, h2, h3, h4⟩ := ih
    by_cases e : x = c
    · subst e
      refine ⟨[], p :: ps, by rw [splitL, if_pos rfl, h1], ?_, by simp, fun q hq => ?_⟩
      · rw [h2]; simp
      · rcases List.mem_cons.1 hq with rfl | hq
        · exact h3
        · exact h4 q hq
    · refine ⟨x :: p, ps, by rw [splitL, if_neg e, h1], by rw [List.cons_append, ← h2], fun y hy => ?_, h4⟩
      rcases List.mem_cons.1 hy with rfl | hy
      · exact e
      · exact h3 y hy
/-! ### Numbers. -/
def dg8 (n : Nat) : UInt8 := UInt8.ofNat (48 + n)
def dec4 (n : Nat) : List UInt8 := if n < 10 then [dg8 n] else if n < 100 then [dg8 (n / 10), dg8 (n % 10)] else if n < 1000 then [dg8 (n / 100), dg8 (n / 10 % 10), dg8 (n % 10)] else [dg8 (n / 1000), dg8 (n / 100 % 10), dg8 (n / 10 % 10), dg8 (n % 10)]
theorem dec_eq (n : Nat) (h : n < 10000) : Lib.decDigits n = dec4 n := by
  unfold dec4
  by_cases h1 : n < 10
  · rw [if_pos h1, Lib.decDigits, dif_pos h1]; rfl
  · rw [if_neg h1, Lib.decDigits, dif_neg h1]
    by_cases h2 : n < 100
    · rw [if_pos h2, Lib.decDigits, dif_pos (by omega)]; rfl
    · rw [if_neg h2, Lib.decDigits, dif_neg (by omega)]
      by_cases h3 : n < 1000
      · rw [if_pos h3, Lib.decDigits, dif_pos (by omega), show n / 10 / 10 = n / 100 by omega]; rfl
      · rw [if_neg h3, Lib.decDigits, dif_neg (by omega), Lib.decDigits, dif_pos (by omega), show n / 10 / 10 / 10 = n / 1000 by omega, show n / 10 / 10 = n / 100 by omega]; rfl
def okL (l : List UInt8) : Bool := decide (1 ≤ l.length ∧ l.length ≤ 4) && (!(decide (1 < l.length) && decide (l.head? = some 48)) && l.all digT)
theorem okNum_eq (w : ByteArray) : okNum w = okL w.data.toList := by
  unfold okNum okL
  rw [len_dataT]
theorem dec_ok2 : ∀ a b : Fin 100, (okL (dec4 (100 * a + b)) && decide (valT (dec4 (100 * a + b)) = 100 * a + b)) = true := by decide +kernel
theorem dec_ok (n : Nat) (h : n < 10000) : (okL (dec4 n) && decide (valT (dec4 n) = n)) = true := by
  have := dec_ok2 ⟨n / 100, by omega⟩ ⟨n % 100, by omega⟩
  simp only at this
  rw [show 100 * (n / 100) + n % 100 = n by omega] at this
  exact this
theorem dec_back1 : ∀ a : Fin 10, dec4 (valT [dg8 a]) = [dg8 a] := by decide +kernel
theorem dec_back2 : ∀ a b : Fin 10, a ≠ 0 → dec4 (valT [dg8 a, dg8 b]) = [dg8 a, dg8 b] := by decide +kernel
theorem dec_back3 : ∀ a b c : Fin 10, a ≠ 0 → dec4 (valT [dg8 a, dg8 b, dg8 c]) = [dg8 a, dg8 b, dg8 c] := by decide +kernel
theorem dec_back4 : ∀ a b c d : Fin 10, a ≠ 0 → dec4 (valT [dg8 a, dg8 b, dg8 c, dg8 d]) = [dg8 a, dg8 b, dg8 c, dg8 d] := by decide +kernel
theorem dig_of {x : UInt8} (h : digT x = true) : ∃ a : Fin 10, x = dg8 a ∧ (x ≠ 48 → a ≠ 0) := by
  have h2 := of_decide_eq_true h
  refine ⟨⟨x.toNat - 48, by omega⟩, ?_, fun hx e => ?_⟩
  · unfold dg8
    simp only
    rw [show 48 + (x.toNat - 48) = x.toNat by omega]
    exact (UInt8.ofNat_toNat).symm
  · apply hx
    have e2 := congrArg Fin.val e
    simp only at e2
    apply UInt8.toNat_inj.1
    show x.toNat = 48
    have : (0 : Fin 10).val = 0 := rfl
    omega
theorem dec_back {l : List UInt8} (h : okL l = true) : dec4 (valT l) = l := by
  unfold okL at h
  rw [Bool.and_eq_true, Bool.and_eq_true] at h
  obtain ⟨h1, h2, h3⟩ := h
  have h1 := of_decide_eq_true h1
  have hd : ∀ x ∈ l, digT x = true := List.all_eq_true.1 h3
  match l, h1, h2, hd with
  | [x], _, _, hd =>
    obtain ⟨a, rfl, _⟩ := dig_of (hd x (by simp))
    exact dec_back1 a
  | [x, y], _, h2, hd =>
    obtain ⟨a, rfl, ha⟩ := dig_of (hd x (by simp))
    obtain ⟨b, rfl, _⟩ := dig_of (hd y (by simp))
    exact dec_back2 a b (ha (by simpa using h2))
  | [x, y, z], _, h2, hd =>
    obtain ⟨a, rfl, ha⟩ := dig_of (hd x (by simp))
    obtain ⟨b, rfl, _⟩ := dig_of (hd y (by simp))
    obtain ⟨c, rfl, _⟩ := dig_of (hd z (by simp))
    exact dec_back3 a b c (ha (by simpa using h2))
  | [x, y, z, v], _, h2, hd =>
    obtain ⟨a, rfl, ha⟩ := dig_of (hd x (by simp))
    obtain ⟨b, rfl, _⟩ := dig_of (hd y (by simp))
    obtain ⟨c, rfl, _⟩ := dig_of (hd z (by simp))
    obtain ⟨d, rfl, _⟩ := dig_of (hd v (by simp))
    exact dec_back4 a b c d (ha (by simpa using h2))
  | [], h1, _, _ => simp at h1
  | a :: b :: c :: d :: e :: t, h1, _, _ => simp at h1
theorem numT_dec (n : Nat) (h : n < 10000) : numT (bytesOf (dec4 n)) = ((n : Int), true) := by
  have h2 := dec_ok n h
  rw [Bool.and_eq_true] at h2
  have h3 : okNum (bytesOf (dec4 n)) = true := by rw [okNum_eq]; exact h2.1
  have h4 := of_decide_eq_true h2.2
  unfold numT
  rw [if_pos h3]
  have h5 : valT (bytesOf (dec4 n)).data.toList = n := h4
  rw [h5]
theorem numT_back {w : ByteArray} (h : (numT w).2 = true) : ∃ n : Nat, n < 10000 ∧ (numT w).1 = (n : Int) ∧ w.data.toList = dec4 n := by
  have hb := num_bd w
  unfold numT at h hb ⊢
  split at h
  · next ho =>
    rw [if_pos ho] at hb ⊢
    simp only at hb ⊢
    refine ⟨valT w.data.toList, by omega, rfl, (dec_back ?_).symm⟩
    rw [← okNum_eq]; exact ho
  · cases h
/-- The digits are no blanks, and no line ends. -/
theorem dec_digits (n : Nat) (h : n < 10000) : ∀ x ∈ dec4 n, x ≠ 32 ∧ x ≠ 10 := by
  have h2 := dec_ok n h
  rw [Bool.and_eq_true] at h2
  have h3 := h2.1
  unfold okL at h3
  rw [Bool.and_eq_true, Bool.and_eq_true] at h3
  intro x hx
  have h4 := of_decide_eq_true (List.all_eq_true.1 h3.2.2 x hx)
  constructor
  · rintro rfl
    exact absurd h4.1 (by decide)
  · rintro rfl
    exact absurd h4.1 (by decide)
theorem dec_len (n : Nat) : (dec4 n).length ≤ 4 := by
  unfold dec4
  split
  · simp
  · split
    · simp
    · split <;> simp
end Go.Proofs.YtbgnaohjcfbaaaaDoor
