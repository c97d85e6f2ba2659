/- Package nodeset: digit, Text. -/
import Derived.Test.YtdpcnbbaipdmjaaDoorNodes
import Derived.Test.YtdpcnbbaipdmjaaDoorOwnRows
import Derived.Test.YtdpcnbbaipdmjaaDoorShelf
import Derived.WalkLawsBesides
import Derived.Deep.DeepCutAuto
import Derived.Outline
namespace Go.Proofs.YtdpcnbbaipdmjaaDoor
open Go.RowKit
set_option linter.unusedVariables false
set_option linter.unusedSimpArgs false
attribute [local go_sem] World.cell?_alloc_lt

def digB (n : Nat) : ByteArray := ⟨#[UInt8.ofNat (48 + n)]⟩
set_option maxRecDepth 100000 in
theorem dig_conv : ∀ n : Nat, n < 8 → ∀ w : World, (convert 21 9 (.int .i32 (48 + (n : Int)))).run Tryd.prog w = .ok (.string (digB n)) w := by
  intro n hn
  rcases (by omega : n = 0 ∨ n = 1 ∨ n = 2 ∨ n = 3 ∨ n = 4 ∨ n = 5 ∨ n = 6 ∨ n = 7) with rfl | rfl | rfl | rfl | rfl | rfl | rfl | rfl <;> (intro w; rfl)
theorem digit_at (n : Nat) (hn : n < 8) (w : World) : Calls Tryd.prog 29 #[.int .i64 n] w fun e w' => e = .returned (.string (digB n)) ∧ w = w' := by
  have hc := dig_conv n hn
  have h0 : (0 : Int) ≤ (n : Int) := by omega
  have h1 : (n : Int) < 8 := by omega
  go_enter Tryd.func29, Tryd.ntmps29
  go_wp2_with fail
  go_ret
  exact ⟨rfl, rfl⟩
def bitN (s i : Nat) : Bool := decide (i < 8) && decide (s / 2 ^ i % 2 = 1)
theorem has_bit (s i : Nat) : hasN s (i : Int) = bitN s i := by
  unfold hasN bitN
  rw [Int.toNat_natCast]
  congr 1
  by_cases h : i < 8
  · rw [decide_eq_true (show (0 : Int) ≤ (i : Int) ∧ (i : Int) < 8 by omega), decide_eq_true h]
  · rw [decide_eq_false (show ¬ ((0 : Int) ≤ (i : Int) ∧ (i : Int) < 8) by omega), decide_eq_false h]
def lastF (s : Nat) : Nat → Nat → Nat
  | 0, i => i
  | f + 1, i => if bitN s (i + 1) = true then lastF s f (i + 1) else i
def lastN (s i : Nat) : Nat := lastF s 8 i
def restF (s : Nat) : Nat → Nat → List (Nat × Nat)
  | 0, _ => []
  | f + 1, n => if n < 8 then (if bitN s n = true then (if lastN s n < n + 2 then (n, n) :: restF s f (n + 1) else (n, lastN s n) :: restF s f (lastN s n + 1)) else restF s f (n + 1)) else []
def restN (s n : Nat) : List (Nat × Nat) := restF s 9 n
def partsN (s : Nat) : List (Nat × Nat) := restN s 0
theorem last_step : ∀ s : Nat, s < 256 → ∀ i : Nat, i < 8 → bitN s (i + 1) = true → lastN s (i + 1) = lastN s i ∧ i + 1 < 8 := by decide +kernel
theorem last_stop : ∀ s : Nat, s < 256 → ∀ i : Nat, i < 8 → bitN s (i + 1) = false → lastN s i = i := by decide +kernel
theorem rest_no : ∀ s : Nat, s < 256 → ∀ n : Nat, n < 8 → bitN s n = false → restN s (n + 1) = restN s n := by decide +kernel
theorem rest_one : ∀ s : Nat, s < 256 → ∀ n : Nat, n < 8 → (bitN s n && decide (lastN s n < n + 2)) = true → restN s n = (n, n) :: restN s (n + 1) := by decide +kernel
theorem rest_two : ∀ s : Nat, s < 256 → ∀ n : Nat, n < 8 → (bitN s n && decide (n + 2 ≤ lastN s n)) = true → restN s n = (n, lastN s n) :: restN s (lastN s n + 1) ∧ lastN s n < 8 := by decide +kernel
theorem rest_end : ∀ s : Nat, s < 256 → restN s 8 = [] := by decide +kernel
theorem parts_len : ∀ s : Nat, s < 256 → (partsN s).length ≤ 8 := by decide +kernel
def partB (p : Nat × Nat) : ByteArray := if p.1 = p.2 then digB p.1 else digB p.1 ++ ⟨#[45]⟩ ++ digB p.2
def partV (p : Nat × Nat) : Value := .string (partB p)
/-- A set's text. -/
def textB (s : Nat) : ByteArray := if (partsN s).length = 0 then ⟨#[110, 111, 110, 101]⟩ else ⟨(Lib.join (((partsN s).map partB).map (·.data.toList)) [44]).toArray⟩
theorem text_len : ∀ s : Nat, s < 256 → (Lib.join (((partsN s).map partB).map (·.data.toList)) [44]).length ≤ 60 := by decide +kernel
theorem info_str : (Tryd.prog.info? 9).map (fun i => (i.zero, i.size, i.bytes)) = some (some (.string ByteArray.empty), 1, 16) := by kernel_rfl
set_option maxRecDepth 100000 in
set_option maxHeartbeats 1000000 in
theorem text_at (s : Nat) (hs : s < 256) (w0 : World) : Calls Tryd.prog 15 #[.int .u8 s] w0 fun e w' => e = .returned (.string (textB s)) ∧ Below w0.heap.size w0 w' := by
  go_enter Tryd.func15, Tryd.ntmps15
  go_wp2_with fail
  go_loopw [3, 4] (fun v i wr => ∃ (n : Nat) (P : List (Nat × Nat)) (A : Option Addr) (c : Nat), n ≤ 8 ∧ P.length ≤ n ∧ i = .int .i64 n ∧ v = .slice A P.length c ∧ P ++ restN s n = partsN s ∧ wr.ownsRow w0.heap.size 9 1 (.slice A P.length c) P.length (P.map partV) ∧ Below w0.heap.size w0 wr) (fun _ i _ => 8 - (intOf i).toNat)
  case atStart => exact ⟨0, [], none, 0, by omega, by simp, rfl, rfl, rfl, ⟨rfl, Or.inl ⟨rfl, rfl⟩⟩, Below.refl _ _⟩
  case round =>
    obtain ⟨n, P, A, c, hn8, hPn, rfl, rfl, hP, hown, hB⟩ := hrel
    have HP := Lib.hid hP; clear hP
    by_cases hlt : n < 8
    · have hh := has_at s hs (n : Int)
      rw [has_bit] at hh
      have hn8i : (n : Int) < 8 := by omega
      cases hb : bitN s n with
      | false =>
        rw [hb] at hh
        have HH := Lib.hid hh
        have hr := rest_no s hs n hlt hb
        have HR := Lib.hid hr
        clear hh hb hr
        go_wp2_with fail
        refine (HH.out _).mono ?_; rintro e w1 ⟨rfl, rfl⟩
        go_wp2_with fail
        go_roundw
        case rel => exact ⟨n + 1, P, A, c, by omega, by omega, by go_num, rfl, by rw [HR.out]; exact HP.out, hown, hB⟩
        case measure => simp [intOf]; omega
      | true =>
        rw [hb] at hh
        have HH := Lib.hid hh
        have hr1 : lastN s n < n + 2 → restN s n = (n, n) :: restN s (n + 1) := fun h => rest_one s hs n hlt (by rw [hb, decide_eq_true h]; rfl)
        have hr2 : n + 2 ≤ lastN s n → restN s n = (n, lastN s n) :: restN s (lastN s n + 1) ∧ lastN s n < 8 := fun h => rest_two s hs n hlt (by rw [hb, decide_eq_true h]; rfl)
        have HR1 := Lib.hid hr1; have HR2 := Lib.hid hr2
        clear hh hb hr1 hr2
        go_wp2_with fail
        refine (HH.out _).mono ?_; rintro e w1 ⟨rfl, rfl⟩
        clear HH
        go_wp2_with fail
        go_loop [5] (fun v => ∃ l : Nat, n ≤ l ∧ l < 8 ∧ v = .int .i64 l ∧ lastN s l = lastN s n) (fun v => 8 - (intOf v).toNat)
        case atStart => exact ⟨n, by omega, hlt, rfl, rfl⟩
        case round =>
          obtain ⟨l, hl1, hl2, rfl, hll⟩ := hrel
          have HLL := Lib.hid hll; clear hll
          have hh := has_at s hs ((l + 1 : Nat) : Int)
          rw [has_bit, show ((l + 1 : Nat) : Int) = (l : Int) + 1 from by simp] at hh
          have hl8 : (l : Int) < 8 := by omega
          cases hb : bitN s (l + 1) with
          | true =>
            rw [hb] at hh
            have HH := Lib.hid hh
            obtain ⟨hs1, hs2⟩ := last_step s hs l hl2 hb
            have HS1 := Lib.hid hs1
            clear hh hb hs1
            go_wp2_with fail
            refine (HH.out _).mono ?_; rintro e w1 ⟨rfl, rfl⟩
            go_wp2_with fail
            go_round
            case rel => exact ⟨l + 1, by omega, hs2, by go_num, HS1.out.trans HLL.out⟩
            case measure => simp [intOf]; omega
          | false =>
            rw [hb] at hh
            have HH := Lib.hid hh
            have hs1 := last_stop s hs l hl2 hb
            have hle : lastN s n = l := by rw [← HLL.out]; exact hs1
            have HLE := Lib.hid hle
            clear hh hb hs1 hle
            by_cases hc : l < n + 2
            · have hci : (l : Int) < (n : Int) + 2 := by omega
              have hst := HR1.out (by rw [HLE.out]; exact hc)
              have HST := Lib.hid hst
              clear hst
              have hdg := digit_at n hlt
              have HDG := Lib.hid hdg
              clear hdg
              go_wp2_with fail
              refine (HH.out _).mono ?_; rintro e w1 ⟨rfl, rfl⟩
              go_wp2_with fail
              refine (HDG.out _).mono ?_; rintro e w1 ⟨rfl, rfl⟩
              have hoa := own_chV hown ((Ch.refl [] wr).alloc (.cells #[.string (digB n)] 9)) (by simp)
              have hsz := hB.size
              have HO := Lib.hid hown
              clear hown
              go_wp2_with (at_builtin; refine wpList_push _ rfl (.tmp 25) (.tmp 28) 45 rfl w0.heap.size 9 (.string ByteArray.empty) 16 Tryd.underlying45 info_str rfl A P.length c _ rfl hoa wr.heap.size 1 (.string (digB n)) rfl ?_ rfl (by omega) (by omega) (by simp; omega) ?_)
              · simp
              intro g2 cp2 w3 hown2 hgr hor
              have hba := bel_alloc hB (.cells #[.string (digB n)] 9)
              have hc3 : Ch (Value.slice A P.length c).ownBlock.toList (wr.alloc (.cells #[.string (digB n)] 9)) w3 := ch_grown hgr (fun q hq => by rw [hq]; simp)
              have hB3 := bel_ch hba hc3 (fun q hq => by rw [Option.mem_toList] at hq; exact (HO.out.lt q hq).1)
              have hl3 : (P ++ [(n, n)]).length = P.length + 1 := by simp
              have hown3 : w3.ownsRow w0.heap.size 9 1 (.slice (some ⟨g2, 0, none⟩) (P ++ [(n, n)]).length cp2) (P ++ [(n, n)]).length ((P ++ [(n, n)]).map partV) := by
                rw [hl3, List.map_append, List.map_singleton]
                have e : partV (n, n) = .string (digB n) := by unfold partV partB; rw [if_pos rfl]
                rw [e]
                exact hown2
              have HO3 := Lib.hid hown3; have HL3 := Lib.hid hl3
              clear hown2 hown3 hgr hor hc3 hba hB hoa HO hl3
              go_wp2_with fail
              go_roundw
              case rel => exact ⟨n + 1, P ++ [(n, n)], some ⟨g2, 0, none⟩, cp2, by omega, by rw [HL3.out]; omega, by go_num, by rw [HL3.out], by rw [List.append_assoc, ← HP.out, HST.out]; rfl, HO3.out, hB3⟩
              case measure => simp [intOf]; omega
            · have hci : ¬ ((l : Int) < (n : Int) + 2) := by omega
              have hst := (HR2.out (by rw [HLE.out]; omega)).1
              rw [HLE.out] at hst
              have HST := Lib.hid hst
              clear hst
              have hdg := digit_at n hlt
              have hdl := digit_at l hl2
              have HDG := Lib.hid hdg; have HDL := Lib.hid hdl
              clear hdg hdl
              go_wp2_with fail
              refine (HH.out _).mono ?_; rintro e w1 ⟨rfl, rfl⟩
              go_wp2_with fail
              refine (HDG.out _).mono ?_; rintro e w1 ⟨rfl, rfl⟩
              go_wp2_with fail
              refine (HDL.out _).mono ?_; rintro e w1 ⟨rfl, rfl⟩
              have hne : n ≠ l := by omega
              have e : partV (n, l) = .string (digB n ++ ⟨#[45]⟩ ++ digB l) := by unfold partV partB; rw [if_neg hne]
              have HE := Lib.hid e
              clear e
              have hoa := own_chV hown ((Ch.refl [] wr).alloc (.cells #[.string (digB n ++ ⟨#[45]⟩ ++ digB l)] 9)) (by simp)
              have hsz := hB.size
              have HO := Lib.hid hown
              clear hown
              go_wp2_with (at_builtin; refine wpList_push _ rfl (.tmp 30) (.tmp 37) 45 rfl w0.heap.size 9 (.string ByteArray.empty) 16 Tryd.underlying45 info_str rfl A P.length c _ rfl hoa wr.heap.size 1 ((.string (digB n ++ ⟨#[45]⟩ ++ digB l))) rfl ?_ rfl (by omega) (by omega) (by simp; omega) ?_)
              · simp
              intro g2 cp2 w3 hown2 hgr hor
              have hba := bel_alloc hB (.cells #[.string (digB n ++ ⟨#[45]⟩ ++ digB l)] 9)
              have hc3 : Ch (Value.slice A P.length c).ownBlock.toList (wr.alloc (.cells #[.string (digB n ++ ⟨#[45]⟩ ++ digB l)] 9)) w3 := ch_grown hgr (fun q hq => by rw [hq]; simp)
              have hB3 := bel_ch hba hc3 (fun q hq => by rw [Option.mem_toList] at hq; exact (HO.out.lt q hq).1)
              have hl3 : (P ++ [(n, l)]).length = P.length + 1 := by simp
              have hown3 : w3.ownsRow w0.heap.size 9 1 (.slice (some ⟨g2, 0, none⟩) (P ++ [(n, l)]).length cp2) (P ++ [(n, l)]).length ((P ++ [(n, l)]).map partV) := by
                rw [hl3, List.map_append, List.map_singleton, HE.out]
                exact hown2
              have HO3 := Lib.hid hown3; have HL3 := Lib.hid hl3
              clear hown2 hown3 hgr hor hc3 hba hB hoa HO hl3
              go_wp2_with fail
              go_roundw
              case rel => exact ⟨l + 1, P ++ [(n, l)], some ⟨g2, 0, none⟩, cp2, by omega, by rw [HL3.out]; omega, by go_num, by rw [HL3.out], by rw [List.append_assoc, ← HP.out, HST.out]; rfl, HO3.out, hB3⟩
              case measure => simp [intOf]; omega
    · obtain rfl : n = 8 := by omega
      have hPe : P = partsN s := by have := HP.out; rw [rest_end s hs, List.append_nil] at this; exact this
      subst hPe
      clear HP
      by_cases h0 : (partsN s).length = 0
      · have ht : textB s = ⟨#[110, 111, 110, 101]⟩ := by unfold textB; rw [if_pos h0]
        have HT := Lib.hid ht
        rw [h0] at hown ⊢
        clear ht h0 hown
        go_wp2_with fail
        go_ret
        exact ⟨by rw [HT.out]; rfl, hB⟩
      · have ht : textB s = ⟨(Lib.join (((partsN s).map partB).map (·.data.toList)) [44]).toArray⟩ := by unfold textB; rw [if_neg h0]
        have HT := Lib.hid ht
        obtain ⟨g, cap, hv, _, hlt2⟩ := hown.form (by omega)
        injection hv with hA hx hcx
        subst hA
        subst hcx
        have hcap := own_cap hown
        have hjn := Tryd.strings_Join g 0 c ((partsN s).map partB) ⟨#[44]⟩ wr (by
          intro j x hj
          rw [List.getElem?_map] at hj
          obtain ⟨q, hq, rfl⟩ := Option.map_eq_some_iff.1 hj
          obtain ⟨g', hg', hcc, _⟩ := own_at hown (k := j) (u := .string (partB q)) (by rw [List.getElem?_map, hq]; rfl)
          injection hg' with hg'; injection hg' with hg'; subst hg'
          rw [Nat.zero_add]; exact hcc) hlt2 (by have := parts_len s hs; simp; omega) (by simpa using hcap) (by have := text_len s hs; show (Lib.join (((partsN s).map partB).map (·.data.toList)) [44]).length ≤ _; omega)
        rw [List.length_map] at hjn
        have HJN := Lib.hid hjn
        have hn0 : (((partsN s).length : Int) == 0) = false := by rw [beq_eq_false_iff_ne]; omega
        clear ht hown hjn h0 hcap
        generalize partsN s = P at *
        go_wp2_with fail
        refine HJN.out.mono ?_; rintro e w4 ⟨rfl, hB4⟩
        have hB5 := bel_trans hB hB4
        clear hB hB4
        go_wp2_with fail
        go_ret
        exact ⟨by rw [HT.out, List.map_map]; rfl, hB5⟩
end Go.Proofs.YtdpcnbbaipdmjaaDoor
