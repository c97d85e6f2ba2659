/- Package topo: line (strconv.Itoa). -/
import Derived.Test.YtbgnaohjcfbaaaaDoorTopoRow
import Derived.Lib.SmallJoins
namespace Go.Proofs.YtbgnaohjcfbaaaaDoor
open Go.RowKit Go.Shelf
set_option linter.unusedVariables false
set_option linter.unusedSimpArgs false
attribute [local go_sem] World.cell?_alloc_lt

/-- The table of strconv's powers. -/
def PowTab (w : World) : Prop := Lib.TabIs Tryd.prog w "internal/strconv.uint64pow10" .u64 Lib.pow10Tab
theorem PowTab.below {w w' : World} (h : PowTab w) (k : Below w.heap.size w w') : PowTab w' := Go.Joins.tab_stays (g := 3) (by kernel_rfl) h k (Nat.le_refl _)
theorem bel_growS (w : World) (k : Nat) (os : Array Obj) : Below w.heap.size w (Go.Sort.grow (w.drewN k) os) := by
  refine bel_trans (bel_drewN (Below.refl _ w) k) ⟨rfl, rfl, rfl, ?_, fun i hi => ?_⟩
  · show (w.drewN k).heap.size ≤ ((w.drewN k).heap ++ os).size
    rw [Array.size_append]; omega
  · show ((w.drewN k).heap ++ os)[i]? = (w.drewN k).heap[i]?
    rw [Array.getElem?_append_left hi]
theorem itoa_call (n : Nat) (hn : n < 10000) (w : World) (ht : PowTab w) : Calls Tryd.prog 58 #[.int .i64 (n : Int)] w fun e w' => e = .returned (.string (bytesOf (dec4 n))) ∧ Below w.heap.size w w' :=
  (Tryd.strconv_Itoa (n : Int) (by omega) (by omega) w ht).mono fun e w' ⟨he, k, os, hw⟩ => by
    subst hw
    refine ⟨?_, bel_growS w k os⟩
    rw [he]
    unfold Lib.itoa
    rw [if_neg (by omega), Int.toNat_natCast, dec_eq n hn]
    rfl
set_option maxRecDepth 100000 in
set_option maxHeartbeats 2000000 in
theorem line_any (word : List UInt8) (hw : word.length ≤ 100) (A : Option Addr) (n c : Nat) (l : List Int) (w : World) (hI : InI w A n l) (hs : Small l) (hn : n ≤ 1000) (ht : PowTab w) : Calls Tryd.prog 35 #[.string (bytesOf word), .slice A n c] w fun e w' => e = .returned (.string (bytesOf (bodyL word l ++ [10]))) ∧ Below w.heap.size w w' := by
  have hB0 := Below.refl w.heap.size w
  have hln := hI.ln
  have HI := Lib.hid hI; have HS := Lib.hid hs; have HB0 := Lib.hid hB0; have HT := Lib.hid ht
  obtain ⟨OUT, hOUT⟩ : ∃ OUT, bytesOf (bodyL word l ++ [10]) = OUT := ⟨_, rfl⟩
  rw [hOUT]
  have HOUT := Lib.hid hOUT
  obtain ⟨W0, hW0⟩ : ∃ W0, bytesOf word = W0 := ⟨_, rfl⟩
  rw [hW0]
  have HW0 := Lib.hid hW0
  have HLN := Lib.hid hln
  clear hOUT hW0 hI hs hB0 hln ht
  go_enter Tryd.func35, Tryd.ntmps35
  go_wp2_with fail
  go_loopw [0, 9] (fun v0 v5 wr => ∃ i : Nat, i ≤ n ∧ v5 = .int .i64 (i : Int) ∧ v0 = .string (bytesOf (bodyL word (l.take i))) ∧ Below w.heap.size w wr) (fun _ v5 _ => n - (intOf v5).toNat)
  case atStart => exact ⟨0, by omega, rfl, by rw [← HW0.out]; simp [bodyL], HB0.out⟩
  case round =>
    obtain ⟨i, hi, rfl, rfl, hB⟩ := hrel
    have hbl := body_len word (l.take i)
    rw [List.length_take] at hbl
    have hz0 : (bytesOf (bodyL word (l.take i))).size ≤ 6000 := by rw [bytes_size]; omega
    by_cases hlt : i < n
    · obtain ⟨b, off, rfl, hb, hc⟩ := HI.out.get hlt
      have kv := (hB.cell (p := ⟨b, off + i, none⟩) hb).trans hc
      have hix := fun w => idxI b off n c i hlt w
      have hxi : l[i]? = some (l.getD i 0) := by
        have : i < l.length := by rw [HLN.out]; exact hlt
        rw [List.getD_eq_getElem?_getD, List.getElem?_eq_getElem this]; rfl
      have hsm := HS.out (l.getD i 0) (List.mem_of_getElem? hxi)
      have htk := body_take word l i _ hxi
      generalize l.getD i 0 = x at *
      obtain ⟨m, rfl⟩ := Int.eq_ofNat_of_zero_le hsm.1
      have hdg := itoa_call m (by omega) wr (HT.out.below hB)
      have e1 : bytesOf (bodyL word (l.take i)) ++ ((⟨#[32]⟩ : ByteArray) ++ bytesOf (dec4 m)) = bytesOf (bodyL word (l.take (i + 1))) := by
        rw [htk, show (⟨#[32]⟩ : ByteArray) = bytesOf [32] from rfl, bytes_add, bytes_add, List.append_assoc]; rfl
      have HE1 := Lib.hid e1; have HDG := Lib.hid hdg
      have hz1 : (bytesOf (dec4 m)).size ≤ 4 := dec_len m
      have hz3 : (⟨#[32]⟩ : ByteArray).size ≤ 1 := Nat.le_refl _
      clear hc htk e1 hdg hxi hbl hsm
      generalize bytesOf (bodyL word (l.take i)) = S at *
      generalize bytesOf (dec4 m) = S2 at *
      have hz4 : ((⟨#[32]⟩ : ByteArray) ++ S2).size ≤ 5 := by rw [ByteArray.size_append]; omega
      have HB := Lib.hid hB
      clear hB
      go_wp2_with fail
      refine HDG.out.mono ?_; rintro e w1 ⟨rfl, hB1⟩
      have hB2 := bel_trans HB.out hB1
      clear hB1
      go_wp2_with fail
      go_roundw
      case rel => exact ⟨i + 1, by omega, by go_num, congrArg Value.string HE1.out, hB2⟩
      case measure => simp [intOf]; omega
    · obtain rfl : i = n := by omega
      rw [List.take_of_length_le (by rw [HLN.out]; omega)] at hz0 ⊢
      have e1 : bytesOf (bodyL word l) ++ (⟨#[10]⟩ : ByteArray) = OUT := by rw [← HOUT.out, ← bytes_add]; rfl
      have HE1 := Lib.hid e1
      clear e1 hbl
      generalize bytesOf (bodyL word l) = S at *
      go_wp2_with fail
      go_ret
      exact ⟨by first | rfl | (rw [HE1.out]; rfl), hB⟩
end Go.Proofs.YtbgnaohjcfbaaaaDoor
