/- messuageref03: Digits, row. -/
import Derived.Test.YtcanhegjhbhkhaaDoorTopoText1
import Derived.Laws.BytesArg
namespace Go.Proofs.YtcanhegjhbhkhaaDoor
open Go.RowKit Go.Shelf
set_option linter.unusedVariables false
set_option linter.unusedSimpArgs false
attribute [local go_sem] World.cell?_alloc_lt

theorem conv_one (w : World) (g x : Nat) (hc : w.cell? ⟨g, 0, none⟩ = some (.int .u8 (x : Int))) : (convert 44 9 (.slice (some ⟨g, 0, none⟩) 1 1)).run Tryd.prog w = .ok (.string (bytesOf [UInt8.ofNat x])) w := by
  have h := run_convert_bytes_arg w 44 5 Tryd.underlying44 Tryd.underlying5 g 0 1 1 [(x : Int)] rfl (fun i hi => by
    obtain rfl : i = 0 := by simpa using hi
    exact hc) 9 Tryd.underlying9
  rw [h]
  simp [strOfNums, bytesOf]
theorem bytes_add (a b : List UInt8) : bytesOf a ++ bytesOf b = bytesOf (a ++ b) := by
  apply bytes_inj
  show ((bytesOf a) ++ (bytesOf b)).data.toList = _
  rw [ByteArray.data_append]
  simp [bytesOf]
theorem bytes_size (a : List UInt8) : (bytesOf a).size = a.length := rfl
theorem dec_step (n : Nat) (h : n < 10000) : dec4 n = (if n / 10 = 0 then [] else dec4 (n / 10)) ++ [dg8 (n % 10)] := by
  unfold dec4
  by_cases h1 : n < 10
  · rw [if_pos h1, if_pos (by omega), Nat.mod_eq_of_lt h1]; rfl
  · rw [if_neg h1, if_neg (show ¬ n / 10 = 0 by omega)]
    by_cases h2 : n < 100
    · rw [if_pos h2, if_pos (by omega)]; rfl
    · rw [if_neg h2, if_neg (show ¬ n / 10 < 10 by omega)]
      by_cases h3 : n < 1000
      · rw [if_pos h3, if_pos (by omega), show n / 10 / 10 = n / 100 by omega]; rfl
      · rw [if_neg h3, if_neg (show ¬ n / 10 < 100 by omega), if_pos (by omega), show n / 10 / 100 = n / 1000 by omega, show n / 10 / 10 = n / 100 by omega]; rfl
def empV : Value → Nat
  | .string s => if s.size = 0 then 1 else 0
  | _ => 0
set_option maxRecDepth 100000 in
set_option maxHeartbeats 2000000 in
theorem digits_any (n : Nat) (hn : n < 10000) (w : World) : Calls Tryd.prog 62 #[.int .i64 (n : Int)] w fun e w' => e = .returned (.string (bytesOf (dec4 n))) ∧ Below w.heap.size w w' := by
  have hB0 := Below.refl w.heap.size w
  have HB0 := Lib.hid hB0
  clear hB0
  obtain ⟨DN, hDN⟩ : ∃ DN, bytesOf (dec4 n) = DN := ⟨_, rfl⟩
  have HDN := Lib.hid hDN
  rw [hDN]
  clear hDN
  go_enter Tryd.func62, Tryd.ntmps62
  go_wp2_with fail
  go_loopw [0, 3] (fun v0 v3 wr => ∃ (m : Nat) (s : List UInt8), m < 10000 ∧ v0 = .int .i64 (m : Int) ∧ v3 = .string (bytesOf s) ∧ ((s = [] ∧ m = n) ∨ (s ≠ [] ∧ dec4 n = (if m = 0 then [] else dec4 m) ++ s)) ∧ Below w.heap.size w wr) (fun v0 v3 _ => 2 * (intOf v0).toNat + empV v3)
  case atStart => exact ⟨n, [], hn, rfl, rfl, Or.inl ⟨rfl, rfl⟩, HB0.out⟩
  case round =>
    obtain ⟨m, s, hm, rfl, rfl, hs, hB⟩ := hrel
    by_cases hx : 0 < m
    · have hgo : s = [] ∨ 0 < m := Or.inr hx
      have hsl : s.length ≤ 4 := by
        rcases hs with ⟨rfl, _⟩ | ⟨_, h⟩
        · simp
        · have := dec_len n
          rw [h, List.length_append] at this
          omega
      have hnew : dec4 n = (if m / 10 = 0 then [] else dec4 (m / 10)) ++ (dg8 (m % 10) :: s) := by
        rcases hs with ⟨rfl, rfl⟩ | ⟨h1, h⟩
        · exact dec_step m hm
        · rw [h]
          rcases hgo with h2 | h2
          · exact absurd h2 h1
          · rw [if_neg (by omega), dec_step m hm, List.append_assoc]
            rfl
      have HNEW := Lib.hid hnew
      have hk10 : m % 10 < 10 := Nat.mod_lt _ (by omega)
      have hrem : ((m : Int).tmod 10) = ((m % 10 : Nat) : Int) := by rw [Int.tmod_eq_emod_of_nonneg (by omega)]; omega
      have hquo : ((m : Int).tdiv 10) = ((m / 10 : Nat) : Int) := by rw [Int.tdiv_eq_ediv_of_nonneg (by omega)]; omega
      have hdlt : m / 10 ≤ m := by omega
      have hdlt2 : 0 < m → m / 10 < m := by omega
      have hd10 : m / 10 < 10000 := by omega
      have hd8 : dg8 (m % 10) = UInt8.ofNat (48 + m % 10) := rfl
      have HM := Lib.hid hdlt2; have HD8 := Lib.hid hd8
      generalize m % 10 = k at *
      generalize m / 10 = q at *
      have hcv := conv_one (wr.alloc (.cells #[.int .u8 (48 + (k : Int))] 5)) wr.heap.size (48 + k) (by
        have h := (Blk.new wr 5 [.int .u8 (48 + (k : Int))]).at_ (i := 0) rfl
        rw [show ((48 + k : Nat) : Int) = 48 + (k : Int) by omega]
        exact h)
      have hB2 := bel_alloc hB (.cells #[.int .u8 (48 + (k : Int))] 5)
      have hadd := bytes_add [UInt8.ofNat (48 + k)] s
      have hz1 : (bytesOf [UInt8.ofNat (48 + k)]).size ≤ 1 := Nat.le_refl _
      have hz2 : (bytesOf s).size ≤ 4 := hsl
      have hemp : (bytesOf s).toList.isEmpty = s.isEmpty := by rw [Lib.toList_data]; rfl
      have hempv : empV (.string (bytesOf s)) = if s = [] then 1 else 0 := by
        unfold empV
        cases s <;> simp [bytesOf, ByteArray.size]
      have hempn : empV (.string (bytesOf ([UInt8.ofNat (48 + k)] ++ s))) = 0 := by
        unfold empV
        simp [bytesOf, ByteArray.size]
      rw [← hadd] at hempn
      have HADD := Lib.hid hadd; have HEV := Lib.hid hempv; have HEN := Lib.hid hempn
      clear hnew hd8 hadd hB hdlt2 hempv hempn hs
      generalize bytesOf [UInt8.ofNat (48 + k)] = S1 at *
      generalize bytesOf s = S at *
      clear hgo
      have hx2 : (0 : Int) < (m : Int) := by omega
      clear hemp
      go_wp2_with fail
      go_roundw
      case rel => exact ⟨q, _, hd10, rfl, congrArg Value.string HADD.out, Or.inr ⟨by simp, by rw [HNEW.out, HD8.out]; rfl⟩, hB2⟩
      case measure =>
        have := HM.out hx
        rw [HEN.out]
        simp [intOf]
        omega
    obtain rfl : m = 0 := by omega
    by_cases hs0 : s = []
    · obtain rfl : s = [] := hs0
      have hn0 : n = 0 := by
        rcases hs with ⟨_, h⟩ | ⟨h, _⟩
        · exact h.symm
        · exact absurd rfl h
      have HN0 := Lib.hid hn0
      have hcv := conv_one (wr.alloc (.cells #[.int .u8 48] 5)) wr.heap.size 48 ((Blk.new wr 5 [.int .u8 48]).at_ (i := 0) rfl)
      have hB2 := bel_alloc hB (.cells #[.int .u8 48] 5)
      have hadd := bytes_add [UInt8.ofNat 48] []
      have hz1 : (bytesOf [UInt8.ofNat 48]).size ≤ 1 := Nat.le_refl _
      have hz2 : (bytesOf ([] : List UInt8)).size ≤ 4 := Nat.zero_le _
      have he2 : (bytesOf ([] : List UInt8)).toList.isEmpty = true := by rw [Lib.toList_data]; rfl
      have hev : empV (.string (bytesOf [])) = 1 := rfl
      have hen : empV (.string (bytesOf ([UInt8.ofNat 48] ++ []))) = 0 := rfl
      rw [← hadd] at hen
      have HADD := Lib.hid hadd; have HEV := Lib.hid hev; have HEN := Lib.hid hen
      clear hs hB hn0 hadd hev hen hx
      generalize bytesOf [UInt8.ofNat 48] = S1 at *
      generalize bytesOf ([] : List UInt8) = S at *
      go_wp2_with fail
      go_roundw
      case rel => exact ⟨0, _, by omega, rfl, congrArg Value.string HADD.out, Or.inr ⟨by simp, by rw [HN0.out]; rfl⟩, hB2⟩
      case measure =>
        rw [HEN.out, HEV.out]
        simp [intOf]
    · have hm0 : (0 : Nat) = 0 := rfl
      have hdone : dec4 n = s := by
        rcases hs with ⟨h1, _⟩ | ⟨_, h⟩
        · exact absurd h1 hs0
        · rw [h, if_pos hm0]; rfl
      have he2 : (bytesOf s).toList.isEmpty = false := by
        rw [Lib.toList_data]
        cases s with
        | nil => exact absurd rfl hs0
        | cons a l => rfl
      have HD := Lib.hid hdone
      have hS : bytesOf s = DN := by rw [← HDN.out, HD.out]
      clear hs hs0 hm0 hdone hx
      rw [hS] at he2 ⊢
      go_wp2_with fail
      go_ret
      exact ⟨by first | rfl | (rw [HE1.out]; rfl), hB⟩
theorem body_take (word : List UInt8) (l : List Int) (i : Nat) (x : Int) (h : l[i]? = some x) : bodyL word (l.take (i + 1)) = bodyL word (l.take i) ++ [32] ++ numB x := by
  unfold bodyL
  rw [List.take_add_one, h, List.flatMap_append]
  simp
theorem body_len (word : List UInt8) : ∀ (l : List Int), (bodyL word l).length ≤ word.length + 5 * l.length := by
  intro l
  unfold bodyL
  rw [List.length_append]
  have : (l.flatMap fun n => 32 :: numB n).length ≤ 5 * l.length := by
    induction l with
    | nil => simp
    | cons n l ih =>
      have := dec_len n.toNat
      rw [List.flatMap_cons, List.length_append, List.length_cons, List.length_cons]
      unfold numB at ih ⊢
      omega
  omega
set_option maxRecDepth 100000 in
set_option maxHeartbeats 2000000 in
theorem row_any (word : List UInt8) (hw : word.length ≤ 100) (A : Option Addr) (n c : Nat) (l : List Int) (w : World) (hI : InI w A n l) (hs : Small l) (hn : n ≤ 1000) : Calls Tryd.prog 45 #[.string (bytesOf word), .slice A n c] w fun e w' => e = .returned (.string (bytesOf (bodyL word l ++ [10]))) ∧ Below w.heap.size w w' := by
  have hB0 := Below.refl w.heap.size w
  have hln := hI.ln
  have HI := Lib.hid hI; have HS := Lib.hid hs; have HB0 := Lib.hid hB0
  obtain ⟨OUT, hOUT⟩ : ∃ OUT, bytesOf (bodyL word l ++ [10]) = OUT := ⟨_, rfl⟩
  rw [hOUT]
  have HOUT := Lib.hid hOUT
  obtain ⟨W0, hW0⟩ : ∃ W0, bytesOf word = W0 := ⟨_, rfl⟩
  rw [hW0]
  have HW0 := Lib.hid hW0
  have HLN := Lib.hid hln
  clear hOUT hW0 hI hs hB0 hln
  go_enter Tryd.func45, Tryd.ntmps45
  go_wp2_with fail
  go_loopw [0, 5] (fun v0 v5 wr => ∃ i : Nat, i ≤ n ∧ v5 = .int .i64 (i : Int) ∧ v0 = .string (bytesOf (bodyL word (l.take i))) ∧ Below w.heap.size w wr) (fun _ v5 _ => n - (intOf v5).toNat)
  case atStart => exact ⟨0, by omega, rfl, by rw [← HW0.out]; simp [bodyL], HB0.out⟩
  case round =>
    obtain ⟨i, hi, rfl, rfl, hB⟩ := hrel
    have hbl := body_len word (l.take i)
    rw [List.length_take] at hbl
    have hz0 : (bytesOf (bodyL word (l.take i))).size ≤ 6000 := by rw [bytes_size]; omega
    by_cases hlt : i < n
    · obtain ⟨b, off, rfl, hb, hc⟩ := HI.out.get hlt
      have kv := (hB.cell (p := ⟨b, off + i, none⟩) hb).trans hc
      have hix := fun w => idxI b off n c i hlt w
      have hxi : l[i]? = some (l.getD i 0) := by
        have : i < l.length := by rw [HLN.out]; exact hlt
        rw [List.getD_eq_getElem?_getD, List.getElem?_eq_getElem this]; rfl
      have hsm := HS.out (l.getD i 0) (List.mem_of_getElem? hxi)
      have htk := body_take word l i _ hxi
      generalize l.getD i 0 = x at *
      obtain ⟨m, rfl⟩ := Int.eq_ofNat_of_zero_le hsm.1
      have hdg := fun w => digits_any m (by omega) w
      have e1 : bytesOf (bodyL word (l.take i)) ++ (⟨#[32]⟩ : ByteArray) ++ bytesOf (dec4 m) = bytesOf (bodyL word (l.take (i + 1))) := by
        rw [htk, ← bytes_add, ← bytes_add]; rfl
      have HE1 := Lib.hid e1; have HDG := Lib.hid hdg
      have hz1 : (bytesOf (dec4 m)).size ≤ 4 := dec_len m
      have hz3 : (⟨#[32]⟩ : ByteArray).size ≤ 1 := Nat.le_refl _
      clear hc htk e1 hdg hxi hbl hsm
      generalize bytesOf (bodyL word (l.take i)) = S at *
      generalize bytesOf (dec4 m) = S2 at *
      have hz4 : (S ++ (⟨#[32]⟩ : ByteArray)).size ≤ 6001 := by rw [ByteArray.size_append]; omega
      have HB := Lib.hid hB
      clear hB
      go_wp2_with fail
      refine (HDG.out _).mono ?_; rintro e w1 ⟨rfl, hB1⟩
      have hB2 := bel_trans HB.out hB1
      clear hB1
      go_wp2_with fail
      go_roundw
      case rel => exact ⟨i + 1, by omega, by go_num, congrArg Value.string HE1.out, hB2⟩
      case measure => simp [intOf]; omega
    · obtain rfl : i = n := by omega
      rw [List.take_of_length_le (by rw [HLN.out]; omega)] at hz0 ⊢
      have e1 : bytesOf (bodyL word l) ++ (⟨#[10]⟩ : ByteArray) = OUT := by rw [← HOUT.out, ← bytes_add]; rfl
      have HE1 := Lib.hid e1
      clear e1 hbl
      generalize bytesOf (bodyL word l) = S at *
      go_wp2_with fail
      go_ret
      exact ⟨by first | rfl | (rw [HE1.out]; rfl), hB⟩
end Go.Proofs.YtcanhegjhbhkhaaDoor
