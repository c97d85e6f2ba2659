/- Names of rules: rule.named, messuageref26.Name; texts that are cut. -/
import Derived.Test.YtdpcnbbaipdmjaaDoorRuleTexts
import Derived.Shelf.Strings.SlTrimAscii
import Derived.Lib.IndexLaws
import Derived.Lib.IndexBytes
namespace Go.Proofs.YtdpcnbbaipdmjaaDoor
open Go.RowKit Go.Shelf
set_option linter.unusedVariables false
set_option linter.unusedSimpArgs false
attribute [local go_sem] World.cell?_alloc_lt

/-! ### Trim at letters. -/
def letL : List UInt8 := [97, 98, 99, 100, 101, 102, 103, 104, 105, 106, 107, 108, 109, 110, 111, 112, 113, 114, 115, 116, 117, 118, 119, 120, 121, 122]
def letter (x : UInt8) : Bool := decide (97 ≤ x.toNat ∧ x.toNat ≤ 122)
theorem let_ofNat : ∀ n : Nat, n < 256 → letL.contains (UInt8.ofNat n) = letter (UInt8.ofNat n) := by decide +kernel
theorem let_all (x : UInt8) : letL.contains x = letter x := by
  have h := let_ofNat x.toNat x.toNat_lt
  rw [UInt8.ofNat_toNat] at h
  exact h
/-- A name. -/
def okName (b : ByteArray) : Bool := decide (1 ≤ b.size ∧ b.size ≤ 16) && b.data.toList.all letter
theorem dropWhile_head {α : Type} {p : α → Bool} : ∀ {l t : List α} {x : α}, l.dropWhile p = x :: t → p x = false ∧ x ∈ l := by
  intro l
  induction l with
  | nil => intro t x h; simp at h
  | cons y l ih =>
    intro t x h
    rw [List.dropWhile_cons] at h
    split at h
    · obtain ⟨h1, h2⟩ := ih h
      exact ⟨h1, List.mem_cons_of_mem _ h2⟩
    · next hy =>
      injection h with h1 h2
      subst h1
      exact ⟨by simpa using hy, List.mem_cons_self⟩
theorem dropWhile_nil {α : Type} {p : α → Bool} : ∀ {l : List α}, l.dropWhile p = [] ↔ l.all p = true := by
  intro l
  induction l with
  | nil => simp
  | cons y l ih =>
    rw [List.dropWhile_cons, List.all_cons]
    by_cases hy : p y = true
    · rw [if_pos hy, ih, hy]; simp
    · rw [if_neg hy]; simp [hy]
theorem trimS_nil (l : List UInt8) : Lib.trimS l letL = [] ↔ l.all letter = true := by
  have hf : ∀ m : List UInt8, m.all (fun x => letL.contains x) = m.all letter := fun m => by
    congr 1; funext x; exact let_all x
  unfold Lib.trimS Lib.trimLeftS
  rw [dropWhile_nil, hf]
  unfold Lib.trimRightS
  rw [List.all_reverse]
  constructor
  · intro h
    cases hd : l.reverse.dropWhile (fun x => letL.contains x) with
    | nil =>
      rw [dropWhile_nil, hf, List.all_reverse] at hd
      exact hd
    | cons x t =>
      obtain ⟨h1, h2⟩ := dropWhile_head hd
      rw [hd] at h
      rw [List.all_cons, ← let_all] at h
      rw [Bool.and_eq_true] at h
      rw [h.1] at h1
      cases h1
  · intro h
    have : l.reverse.dropWhile (fun x => letL.contains x) = [] := by rw [dropWhile_nil, hf, List.all_reverse]; exact h
    rw [this]; rfl
theorem trim_let (s : ByteArray) (hs : s.size ≤ 9223372036854775807) (w : World) : Calls Tryd.prog 47 #[.string s, .string ⟨#[97, 98, 99, 100, 101, 102, 103, 104, 105, 106, 107, 108, 109, 110, 111, 112, 113, 114, 115, 116, 117, 118, 119, 120, 121, 122]⟩] w fun e w' => e = .returned (.string ⟨(Lib.trimS s.data.toList letL).toArray⟩) ∧ Below w.heap.size w w' :=
  Any.strings_Trim_laid Tryd.lays160 (by kernel_rfl) s ⟨#[97, 98, 99, 100, 101, 102, 103, 104, 105, 106, 107, 108, 109, 110, 111, 112, 113, 114, 115, 116, 117, 118, 119, 120, 121, 122]⟩ w hs (by decide) (ascii_of_all (by decide))
theorem bytes_nil (l : List UInt8) : (⟨l.toArray⟩ : ByteArray).toList.isEmpty = decide (l = []) := by
  by_cases h : l = []
  · subst h; rw [Lib.toList_data]; rfl
  · rw [decide_eq_false h, List.isEmpty_eq_false_iff]
    apply str_ne_nil
    intro h2
    apply h
    injection h2 with h3
    simpa using h3
theorem named_any (s : ByteArray) (hs : s.size ≤ 9223372036854775807) (w : World) : Calls Tryd.prog 34 #[.string s] w fun e w' => e = .returned (.bool (okName s)) ∧ Below w.heap.size w w' := by
  have ht := fun w => trim_let s hs w
  have hb := bytes_nil (Lib.trimS s.data.toList letL)
  have hB0 := Below.refl w.heap.size w
  have hd : okName s = (decide (1 ≤ s.size ∧ s.size ≤ 16) && decide (Lib.trimS s.data.toList letL = [])) := by
    unfold okName
    congr 1
    by_cases h : s.data.toList.all letter = true
    · rw [decide_eq_true ((trimS_nil _).2 h)]; exact h
    · rw [decide_eq_false (fun h2 => h ((trimS_nil _).1 h2))]; simpa using h
  obtain ⟨V, hV⟩ : ∃ V, okName s = V := ⟨_, rfl⟩
  rw [hV]
  rw [hV] at hd
  generalize (decide (Lib.trimS s.data.toList letL = [])) = d at *
  generalize (⟨(Lib.trimS s.data.toList letL).toArray⟩ : ByteArray) = R at *
  by_cases h1 : 1 ≤ s.size
  · by_cases h2 : s.size ≤ 16
    · rw [decide_eq_true ⟨h1, h2⟩, Bool.true_and] at hd
      have HT := Lib.hid ht; have HB := Lib.hid hB0; have HV := Lib.hid hd
      clear ht hB0 hd hV
      go_enter Tryd.func34, Tryd.ntmps34
      go_wp2_with fail
      refine (HT.out _).mono ?_; rintro e w1 ⟨rfl, hB1⟩
      have HB1 := Lib.hid (bel_trans HB.out hB1)
      clear hB1
      go_wp2_with fail
      go_ret
      exact ⟨by rw [HV.out, ← hb]; rfl, HB1.out⟩
    · rw [decide_eq_false (by omega), Bool.false_and] at hd
      subst hd
      have HB := Lib.hid hB0
      clear ht hB0 hV hb
      go_enter Tryd.func34, Tryd.ntmps34
      go_wp2_with fail
      go_ret
      exact ⟨rfl, HB.out⟩
  · rw [decide_eq_false (by omega), Bool.false_and] at hd
    subst hd
    have HB := Lib.hid hB0
    clear ht hB0 hV hb
    go_enter Tryd.func34, Tryd.ntmps34
    go_wp2_with fail
    go_ret
    exact ⟨rfl, HB.out⟩
/-! ### The document's answer on names. -/
theorem name_any (s : ByteArray) (hs : s.size ≤ 9223372036854775807) (w : World) : Calls Tryd.prog 18 #[.string s] w fun e w' => e = .returned (.bool (okName s)) ∧ w = w' := by
  obtain ⟨V, hV⟩ : ∃ V, okName s = V := ⟨_, rfl⟩
  rw [hV]
  have hstop : ∀ i : Nat, ∀ h : i < s.size, letter s[i] = false → V = false := by
    intro i hi hl
    rw [← hV]
    unfold okName
    have : s.data.toList.all letter = false := by
      rw [List.all_eq_false]
      exact ⟨s[i], List.getElem_mem (by rw [len_data]; exact hi), by rw [hl]; simp⟩
    rw [this, Bool.and_false]
  have hend : (∀ i : Nat, ∀ h : i < s.size, letter s[i] = true) → V = decide (1 ≤ s.size ∧ s.size ≤ 16) := by
    intro ha
    rw [← hV]
    unfold okName
    have : s.data.toList.all letter = true := by
      rw [List.all_eq_true]
      intro x hx
      obtain ⟨i, hi, rfl⟩ := List.getElem_of_mem hx
      exact ha i (by rw [len_data] at hi; exact hi)
    rw [this, Bool.and_true]
  have HS := Lib.hid hstop; have HE := Lib.hid hend
  clear hstop hend hV
  go_enter Tryd.func18, Tryd.ntmps18
  go_wp2_with fail
  go_loop [3] (fun v => ∃ i : Nat, i ≤ s.size ∧ v = .int .i64 (i : Int) ∧ ∀ j : Nat, ∀ h : j < s.size, j < i → letter s[j] = true) (fun v => s.size - (intOf v).toNat)
  case atStart => exact ⟨0, by omega, rfl, fun j _ h => by omega⟩
  case round =>
    obtain ⟨i, hi, rfl, ha⟩ := hrel
    have HA := Lib.hid ha
    clear ha
    by_cases hlt : i < s.size
    · cases hc : letter s[i] with
      | true =>
        have hc2 := of_decide_eq_true hc
        have h1 : ((s[i].toNat : Int) < 97) = False := eq_false (by omega)
        have h2 : ((122 : Int) < (s[i].toNat : Int)) = False := eq_false (by omega)
        have HC := Lib.hid hc
        clear hc hc2
        go_wp2_with fail
        go_round
        case rel =>
          refine ⟨i + 1, by omega, by go_num, fun j h hj => ?_⟩
          by_cases e : j = i
          · subst e; exact HC.out
          · exact HA.out j h (by omega)
        case measure => simp [intOf]; omega
      | false =>
        obtain rfl := HS.out i hlt hc
        have hc2 := of_decide_eq_false hc
        clear hc HS HE HA
        by_cases h1 : s[i].toNat < 97
        · have h3 : ((s[i].toNat : Int) < 97) := by omega
          go_wp2_with fail
          go_ret
          exact ⟨rfl, rfl⟩
        · have h3 : ¬ ((s[i].toNat : Int) < 97) := by omega
          have h4 : ((122 : Int) < (s[i].toNat : Int)) := by omega
          go_wp2_with fail
          go_ret
          exact ⟨rfl, rfl⟩
    · have hv := HE.out (fun j h => HA.out j h (by omega))
      clear HS HE HA
      by_cases h1 : 1 ≤ s.size
      · by_cases h2 : s.size ≤ 16
        · rw [decide_eq_true ⟨h1, h2⟩] at hv
          subst hv
          have hd2 : decide ((s.size : Int) ≤ 16) = true := decide_eq_true (by omega)
          go_wp2_with fail
          go_ret
          exact ⟨rfl, rfl⟩
        · rw [decide_eq_false (by omega)] at hv
          subst hv
          have hd2 : decide ((s.size : Int) ≤ 16) = false := decide_eq_false (by omega)
          go_wp2_with fail
          go_ret
          exact ⟨rfl, rfl⟩
      · rw [decide_eq_false (by omega)] at hv
        subst hv
        go_wp2_with fail
        go_ret
        exact ⟨rfl, rfl⟩
/-! ### A text, cut at its first separator. -/
theorem cut_first {a sub r : List UInt8} {c : UInt8} {tl : List UInt8} (hs : sub = c :: tl) (ha : ∀ x ∈ a, x ≠ c) : Lib.cut (a ++ sub ++ r) sub = (a, r, true) := by
  have hi : Lib.index (a ++ sub ++ r) sub = (a.length : Int) := by
    refine Lib.index_first (by simp) ?_ ?_
    · unfold Lib.occAt
      rw [List.append_assoc, List.drop_left, List.isPrefixOf_iff_prefix]
      exact List.prefix_append _ _
    · intro j hj
      unfold Lib.occAt
      rw [List.append_assoc, List.drop_append_of_le_length (by omega), List.drop_eq_getElem_cons hj, hs, List.cons_append]
      simp only [List.isPrefixOf, Bool.and_eq_false_iff, beq_eq_false_iff_ne]
      exact Or.inl (fun e => ha _ (List.getElem_mem hj) e.symm)
  unfold Lib.cut
  rw [hi, if_pos (by omega), Int.toNat_natCast]
  rw [List.append_assoc, List.take_left, ← List.append_assoc]
  rw [show a.length + sub.length = (a ++ sub).length by simp, List.drop_left]
end Go.Proofs.YtdpcnbbaipdmjaaDoor
