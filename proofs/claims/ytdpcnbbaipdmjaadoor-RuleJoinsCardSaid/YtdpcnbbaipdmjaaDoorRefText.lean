/- messuageref01.digit, Text. -/
import Derived.Test.YtdpcnbbaipdmjaaDoorNodesetParses
import Derived.Laws.BytesArg
namespace Go.Proofs.YtdpcnbbaipdmjaaDoor
open Go.RowKit Go.Shelf
set_option linter.unusedVariables false
set_option linter.unusedSimpArgs false
attribute [local go_sem] World.cell?_alloc_lt

/-- A byte as a text. -/
theorem conv_byte (w : World) (g x : Nat) (hc : w.cell? ⟨g, 0, none⟩ = some (.int .u8 (x : Int))) : (convert 42 9 (.slice (some ⟨g, 0, none⟩) 1 1)).run Tryd.prog w = .ok (.string ⟨#[UInt8.ofNat x]⟩) w := by
  have h := run_convert_bytes_arg w 42 5 Tryd.underlying42 Tryd.underlying5 g 0 1 1 [(x : Int)] rfl (fun i hi => by
    obtain rfl : i = 0 := by simpa using hi
    exact hc) 9 Tryd.underlying9
  rw [h]
  simp [strOfNums]
theorem rdigit_at (n : Nat) (hn : n < 8) (w : World) : Calls Tryd.prog 42 #[.int .i64 n] w fun e w' => e = .returned (.string (digB n)) ∧ Below w.heap.size w w' := by
  have hc := conv_byte (w.alloc (.cells #[.int .u8 (48 + (n : Int))] 5)) w.heap.size (48 + n) (by
    have h := (Blk.new w 5 [.int .u8 (48 + (n : Int))]).at_ (i := 0) rfl
    rw [show ((48 + n : Nat) : Int) = 48 + (n : Int) by omega]
    exact h)
  have h0 : (0 : Int) ≤ (n : Int) := by omega
  have h1 : (n : Int) < 8 := by omega
  unfold digB
  generalize (⟨#[UInt8.ofNat (48 + n)]⟩ : ByteArray) = s at *
  go_enter Tryd.func42, Tryd.ntmps42
  go_wp2_with fail
  go_ret
  exact ⟨rfl, bel_alloc (Below.refl _ _) _⟩
/-- The text of some parts, as it grows. -/
def addB (o : ByteArray) (q : Nat × Nat) : ByteArray := if q.1 = q.2 then (if o = ⟨#[]⟩ then o else o ++ ⟨#[44]⟩) ++ digB q.1 else ((if o = ⟨#[]⟩ then o else o ++ ⟨#[44]⟩) ++ digB q.1 ++ ⟨#[45]⟩) ++ digB q.2
def growB (P : List (Nat × Nat)) : ByteArray := P.foldl addB ⟨#[]⟩
theorem growB_snoc (P : List (Nat × Nat)) (q : Nat × Nat) : growB (P ++ [q]) = addB (growB P) q := by simp [growB]
theorem grow_text : ∀ s : Nat, s < 256 → (if growB (partsN s) = ⟨#[]⟩ then noneB else growB (partsN s)) = textB s := by decide +kernel
theorem digB_size (n : Nat) : (digB n).size = 1 := rfl
theorem addB_size (o : ByteArray) (q : Nat × Nat) : (addB o q).size ≤ o.size + 4 := by
  have h1 : (if o = (⟨#[]⟩ : ByteArray) then o else o ++ ⟨#[44]⟩).size ≤ o.size + 1 := by
    split
    · omega
    · rw [ByteArray.size_append]; exact Nat.le_refl _
  unfold addB
  split
  · rw [ByteArray.size_append, digB_size]; omega
  · rw [ByteArray.size_append, ByteArray.size_append, ByteArray.size_append, digB_size, digB_size, show (⟨#[45]⟩ : ByteArray).size = 1 from rfl]; omega
theorem foldl_size : ∀ (P : List (Nat × Nat)) (o : ByteArray), (P.foldl addB o).size ≤ o.size + 4 * P.length := by
  intro P
  induction P with
  | nil => intro o; simp
  | cons q P ih =>
    intro o
    have h1 := ih (addB o q)
    have h2 := addB_size o q
    rw [List.foldl_cons, List.length_cons]
    omega
theorem growB_size (P : List (Nat × Nat)) : (growB P).size ≤ 4 * P.length := by
  have := foldl_size P ⟨#[]⟩
  have e : (⟨#[]⟩ : ByteArray).size = 0 := rfl
  unfold growB
  omega
theorem str_ne_nil {x : ByteArray} (h : x ≠ ⟨#[]⟩) : x.toList ≠ [] := by
  intro e
  apply h
  rw [Lib.toList_data] at e
  obtain ⟨⟨l⟩⟩ := x
  simp only at e
  rw [e]
set_option maxRecDepth 100000 in
set_option maxHeartbeats 4000000 in
theorem rtext_at (s : Nat) (hs : s < 256) (w0 : World) : Calls Tryd.prog 26 #[.int .u8 s] w0 fun e w' => e = .returned (.string (textB s)) ∧ Below w0.heap.size w0 w' := by
  have hB0 := Below.refl w0.heap.size w0
  go_enter Tryd.func26, Tryd.ntmps26
  go_wp2_with fail
  go_loopw [4, 3] (fun i v wr => ∃ (n : Nat) (P : List (Nat × Nat)), n ≤ 8 ∧ i = .int .i64 n ∧ v = .string (growB P) ∧ P ++ restN s n = partsN s ∧ Below w0.heap.size w0 wr) (fun i _ _ => 8 - (intOf i).toNat)
  case atStart => exact ⟨0, [], by omega, rfl, rfl, rfl, hB0⟩
  case round =>
    clear hB0
    obtain ⟨n, P, hn8, rfl, rfl, hP, hB⟩ := hrel
    have HP := Lib.hid hP; clear hP
    by_cases hlt : n < 8
    · have hh := rhas_at s hs (n : Int)
      rw [has_bit] at hh
      have hn8i : (n : Int) < 8 := by omega
      cases hb : bitN s n with
      | false =>
        rw [hb] at hh
        have HH := Lib.hid hh
        have hr := rest_no s hs n hlt hb
        have HR := Lib.hid hr
        clear hh hb hr
        go_wp2_with fail
        refine (HH.out _).mono ?_; rintro e w1 ⟨rfl, rfl⟩
        go_wp2_with fail
        go_roundw
        case rel => exact ⟨n + 1, P, by omega, by go_num, rfl, by rw [HR.out]; exact HP.out, hB⟩
        case measure => simp [intOf]; omega
      | true =>
        rw [hb] at hh
        have HH := Lib.hid hh
        have hr1 : lastN s n < n + 2 → restN s n = (n, n) :: restN s (n + 1) := fun h => rest_one s hs n hlt (by rw [hb, decide_eq_true h]; rfl)
        have hr2 : n + 2 ≤ lastN s n → restN s n = (n, lastN s n) :: restN s (lastN s n + 1) ∧ lastN s n < 8 := fun h => rest_two s hs n hlt (by rw [hb, decide_eq_true h]; rfl)
        have HR1 := Lib.hid hr1; have HR2 := Lib.hid hr2
        clear hh hb hr1 hr2
        have hBw := hB
        go_wp2_with fail
        refine (HH.out _).mono ?_; rintro e w1 ⟨rfl, rfl⟩
        clear HH
        go_wp2_with fail
        go_loop [5] (fun v => ∃ l : Nat, n ≤ l ∧ l < 8 ∧ v = .int .i64 l ∧ lastN s l = lastN s n) (fun v => 8 - (intOf v).toNat)
        case atStart => exact ⟨n, by omega, hlt, rfl, rfl⟩
        case round =>
          obtain ⟨l, hl1, hl2, rfl, hll⟩ := hrel
          have HLL := Lib.hid hll; clear hll
          have hh := rhas_at s hs ((l + 1 : Nat) : Int)
          rw [has_bit, show ((l + 1 : Nat) : Int) = (l : Int) + 1 from by simp] at hh
          have hl8 : (l : Int) < 8 := by omega
          cases hb : bitN s (l + 1) with
          | true =>
            rw [hb] at hh
            have HH := Lib.hid hh
            obtain ⟨hs1, hs2⟩ := last_step s hs l hl2 hb
            have HS1 := Lib.hid hs1
            clear hh hb hs1
            go_wp2_with fail
            refine (HH.out _).mono ?_; rintro e w1 ⟨rfl, rfl⟩
            go_wp2_with fail
            go_round
            case rel => exact ⟨l + 1, by omega, hs2, by go_num, HS1.out.trans HLL.out⟩
            case measure => simp [intOf]; omega
          | false =>
            rw [hb] at hh
            have HH := Lib.hid hh
            have hs1 := last_stop s hs l hl2 hb
            have hle : lastN s n = l := by rw [← HLL.out]; exact hs1
            have HLE := Lib.hid hle
            clear hh hb hs1 hle
            have hgs := fun q => growB_snoc P q
            have hoz : (growB P).size ≤ 32 := by
              have h1 := growB_size P
              have h2 := parts_len s hs
              rw [← HP.out, List.length_append] at h2
              omega
            have hdz1 := digB_size n
            have hdz2 := digB_size l
            have hdg := fun w => rdigit_at n hlt w
            have hdl := fun w => rdigit_at l hl2 w
            have HDG := Lib.hid hdg; have HDL := Lib.hid hdl; have HGS := Lib.hid hgs
            clear hdg hdl hgs
            generalize hgo : growB P = o at *
            have HGO := Lib.hid hgo
            clear hgo
            by_cases h0 : o = ⟨#[]⟩
            · subst h0
              go_wp2_with fail
              refine (HH.out _).mono ?_; rintro e w1 ⟨rfl, rfl⟩
              by_cases hc : l < n + 2
              · have hci : ¬ ((2 : Int) ≤ (l : Int) - (n : Int)) := by omega
                have hst := HR1.out (by rw [HLE.out]; exact hc)
                have hgn := HGS.out (n, n)
                unfold addB at hgn
                rw [if_pos rfl, if_pos rfl] at hgn
                have HST := Lib.hid hst; have HGN := Lib.hid hgn
                clear hst hgn hc
                go_wp2_with fail
                refine (HDG.out _).mono ?_; rintro e w2 ⟨rfl, hB2⟩
                have hB3 := bel_trans hBw hB2
                clear hB2 hBw
                go_wp2_with fail
                go_roundw
                case rel => exact ⟨n + 1, P ++ [(n, n)], by omega, by go_num, by rw [HGN.out], by rw [List.append_assoc, ← HP.out, HST.out]; rfl, hB3⟩
                case measure => simp [intOf]; omega
              · have hci : (2 : Int) ≤ (l : Int) - (n : Int) := by omega
                have hst := (HR2.out (by rw [HLE.out]; omega)).1
                rw [HLE.out] at hst
                have hgn := HGS.out (n, l)
                unfold addB at hgn
                rw [if_neg (show ¬ (n, l).1 = (n, l).2 by simp only; omega), if_pos rfl] at hgn
                have HST := Lib.hid hst; have HGN := Lib.hid hgn
                clear hst hgn hc
                go_wp2_with fail
                refine (HDG.out _).mono ?_; rintro e w2 ⟨rfl, hB2⟩
                have hB3 := bel_trans hBw hB2
                clear hB2 hBw
                go_wp2_with fail
                refine (HDL.out _).mono ?_; rintro e w3 ⟨rfl, hB2⟩
                have hB4 := bel_trans hB3 hB2
                clear hB2 hB3
                go_wp2_with fail
                go_roundw
                case rel => exact ⟨l + 1, P ++ [(n, l)], by omega, by go_num, by rw [HGN.out], by rw [List.append_assoc, ← HP.out, HST.out]; rfl, hB4⟩
                case measure => simp [intOf]; omega
            · have hn0 := str_ne_nil h0
              have hn1 : (o.toList == []) = false := by rw [beq_eq_false_iff_ne]; exact hn0
              have hn2 : o.toList.isEmpty = false := by rw [← Bool.not_eq_true, List.isEmpty_iff]; exact hn0
              have H0 := Lib.hid h0
              clear h0
              go_wp2_with fail
              refine (HH.out _).mono ?_; rintro e w1 ⟨rfl, rfl⟩
              by_cases hc : l < n + 2
              · have hci : ¬ ((2 : Int) ≤ (l : Int) - (n : Int)) := by omega
                have hst := HR1.out (by rw [HLE.out]; exact hc)
                have hgn := HGS.out (n, n)
                unfold addB at hgn
                rw [if_pos rfl, if_neg H0.out] at hgn
                have HST := Lib.hid hst; have HGN := Lib.hid hgn
                clear hst hgn hc
                go_wp2_with fail
                refine (HDG.out _).mono ?_; rintro e w2 ⟨rfl, hB2⟩
                have hB3 := bel_trans hBw hB2
                clear hB2 hBw
                go_wp2_with fail
                go_roundw
                case rel => exact ⟨n + 1, P ++ [(n, n)], by omega, by go_num, by rw [HGN.out], by rw [List.append_assoc, ← HP.out, HST.out]; rfl, hB3⟩
                case measure => simp [intOf]; omega
              · have hci : (2 : Int) ≤ (l : Int) - (n : Int) := by omega
                have hst := (HR2.out (by rw [HLE.out]; omega)).1
                rw [HLE.out] at hst
                have hgn := HGS.out (n, l)
                unfold addB at hgn
                rw [if_neg (show ¬ (n, l).1 = (n, l).2 by simp only; omega), if_neg H0.out] at hgn
                have HST := Lib.hid hst; have HGN := Lib.hid hgn
                clear hst hgn hc
                go_wp2_with fail
                refine (HDG.out _).mono ?_; rintro e w2 ⟨rfl, hB2⟩
                have hB3 := bel_trans hBw hB2
                clear hB2 hBw
                go_wp2_with fail
                refine (HDL.out _).mono ?_; rintro e w3 ⟨rfl, hB2⟩
                have hB4 := bel_trans hB3 hB2
                clear hB2 hB3
                go_wp2_with fail
                go_roundw
                case rel => exact ⟨l + 1, P ++ [(n, l)], by omega, by go_num, by rw [HGN.out], by rw [List.append_assoc, ← HP.out, HST.out]; rfl, hB4⟩
                case measure => simp [intOf]; omega
    · obtain rfl : n = 8 := by omega
      have hPe : P = partsN s := by have := HP.out; rw [rest_end s hs, List.append_nil] at this; exact this
      subst hPe
      have ht := grow_text s hs
      clear HP
      generalize growB (partsN s) = o at *
      by_cases h0 : o = ⟨#[]⟩
      · rw [if_pos h0] at ht
        subst h0
        have HT := Lib.hid ht
        clear ht
        go_wp2_with fail
        go_ret
        exact ⟨by rw [← HT.out]; rfl, hB⟩
      · rw [if_neg h0] at ht
        have HT := Lib.hid ht
        have hn0 := str_ne_nil h0
        have hn1 : (o.toList == []) = false := by rw [beq_eq_false_iff_ne]; exact hn0
        have hn2 : o.toList.isEmpty = false := by rw [← Bool.not_eq_true, List.isEmpty_iff]; exact hn0
        clear ht h0
        go_wp2_with fail
        go_ret
        exact ⟨by rw [← HT.out]; rfl, hB⟩
end Go.Proofs.YtdpcnbbaipdmjaaDoor
