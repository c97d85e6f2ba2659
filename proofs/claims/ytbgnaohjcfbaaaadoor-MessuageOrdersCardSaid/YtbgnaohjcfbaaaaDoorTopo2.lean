/- Package topo (layer 3): the processors' nodes. -/
import Derived.Test.YtbgnaohjcfbaaaaDoorTopo
namespace Go.Proofs.YtbgnaohjcfbaaaaDoor
open Go.RowKit
set_option linter.unusedVariables false
set_option linter.unusedSimpArgs false
attribute [local go_sem] World.cell?_alloc_lt

/-- Is a processor's node none? -/
def badN (N : Int) (c : Int) : Bool := decide (c < 0) || decide (N ≤ c)
theorem bad_any (x N : Int) (p : Nat) (w : World) (hp : w.cell? ⟨p, 0, none⟩ = some (.int .i64 N)) : Calls Tryd.prog 56 #[.int .i64 x, .pointer (some ⟨p, 0, none⟩)] w fun e w' => e = .returned (.bool (badN N x)) ∧ w = w' := by
  unfold badN
  rcases Classical.em (x < 0) with h | h
  · have hd : (decide (x < 0) || decide (N ≤ x)) = true := by rw [decide_eq_true h]; rfl
    rw [hd]
    clear hd
    go_enter Tryd.func56, Tryd.ntmps56
    go_wp2_with fail
    go_ret
    exact ⟨rfl, rfl⟩
  · have hd : (decide (x < 0) || decide (N ≤ x)) = decide (N ≤ x) := by rw [decide_eq_false h]; rfl
    rw [hd]
    clear hd
    go_enter Tryd.func56, Tryd.ntmps56
    go_wp2_with fail
    go_ret
    exact ⟨rfl, rfl⟩
theorem any_take {α : Type} (f : α → Bool) (xs : List α) (i : Nat) (x : α) (h : xs[i]? = some x) : (xs.take (i + 1)).any f = ((xs.take i).any f || f x) := by
  have hl := (List.getElem?_eq_some_iff.1 h).1
  rw [List.take_succ_eq_append_getElem hl, List.any_append]
  rw [List.getElem?_eq_getElem hl] at h
  injection h with h
  rw [h]
  simp
theorem any_of {α : Type} (f : α → Bool) (xs : List α) (i : Nat) (x : α) (h : xs[i]? = some x) (hf : f x = true) : xs.any f = true :=
  List.any_eq_true.2 ⟨x, List.mem_of_getElem? h, hf⟩
set_option maxRecDepth 100000 in
theorem index_bad (A : Option Addr) (n c p : Nat) (xs : List Int) (N : Int) (w : World) (hI : InI w A n xs) (hn : n ≤ 9223372036854775807) (hp : w.cell? ⟨p, 0, none⟩ = some (.int .i64 N)) :
    Calls Tryd.prog 64 #[.slice A n c, .func (Fn.func 56) #[] #[.pointer (some ⟨p, 0, none⟩)]] w fun e w' => ∃ r : Int, e = .returned (.int .i64 r) ∧ w = w' ∧ (decide (0 ≤ r) = xs.any (badN N)) := by
  have HI := Lib.hid hI; clear hI
  go_enter Tryd.func64, Tryd.ntmps64
  go_wp2_with fail
  go_loopw [8, 5] (fun v v5 wr => ∃ (i : Nat), i ≤ n ∧ v = .int .i64 (i : Int) ∧ wr = w ∧ (xs.take i).any (badN N) = false) (fun v _ _ => n - (intOf v).toNat)
  case atStart => exact ⟨0, by omega, rfl, rfl, rfl⟩
  case round =>
    obtain ⟨i, hi, rfl, rfl, hno⟩ := hrel
    have HNO := Lib.hid hno; clear hno
    by_cases hlt : i < n
    · have hln := HI.out.ln
      obtain ⟨b, off, rfl, hb, hc⟩ := HI.out.get hlt
      have hxi : xs[i]? = some (xs.getD i 0) := by rw [List.getD_eq_getElem?_getD, List.getElem?_eq_getElem (by omega)]; rfl
      have hix := fun w => idxI b off n c i hlt w
      have h1 := any_take (badN N) xs i _ hxi
      have h2 := any_of (badN N) xs i _ hxi
      rw [HNO.out, Bool.false_or] at h1
      have hbd := bad_any (xs.getD i 0) N p wr hp
      have H1 := Lib.hid h1; have H2 := Lib.hid h2; have HBD := Lib.hid hbd
      clear h1 h2 hxi hbd hln
      generalize xs.getD i 0 = x at *
      cases hbx : badN N x with
      | true =>
        have h3 := H2.out hbx
        have h4 := HBD.out
        rw [hbx] at h4
        have HBX := Lib.hid h4
        have H3 := Lib.hid h3
        clear H1 H2 h3 h4 HBD hbx
        go_wp2_with fail
        refine HBX.out.mono ?_; rintro e w1 ⟨rfl, rfl⟩
        go_wp2_with fail
        go_ret
        exact ⟨_, rfl, rfl, by rw [H3.out]; exact decide_eq_true (by omega)⟩
      | false =>
        have h3 := H1.out
        rw [hbx] at h3
        have h4 := HBD.out
        rw [hbx] at h4
        have HBX := Lib.hid h4
        have H3 := Lib.hid h3
        clear H1 H2 h3 h4 HBD hbx
        go_wp2_with fail
        refine HBX.out.mono ?_; rintro e w1 ⟨rfl, rfl⟩
        go_wp2_with fail
        go_roundw
        case rel => exact ⟨i + 1, by omega, by go_num, by first | rfl | trivial, H3.out⟩
        case measure => simp [intOf]; omega
    · obtain rfl : i = n := by omega
      have hno := HNO.out
      rw [List.take_of_length_le (by rw [HI.out.ln]; omega)] at hno
      have HNO2 := Lib.hid hno
      clear hno
      go_wp2_with fail
      go_ret
      exact ⟨_, rfl, rfl, by rw [HNO2.out]; rfl⟩
set_option maxRecDepth 100000 in
theorem contains_bad (A : Option Addr) (n c p : Nat) (xs : List Int) (N : Int) (w : World) (hI : InI w A n xs) (hn : n ≤ 9223372036854775807) (hp : w.cell? ⟨p, 0, none⟩ = some (.int .i64 N)) :
    Calls Tryd.prog 55 #[.slice A n c, .func (Fn.func 56) #[] #[.pointer (some ⟨p, 0, none⟩)]] w fun e w' => e = .returned (.bool (xs.any (badN N))) ∧ w = w' := by
  have h := index_bad A n c p xs N w hI hn hp
  have H := Lib.hid h
  clear h hI
  go_enter Tryd.func55, Tryd.ntmps55
  go_wp2_with fail
  refine H.out.mono ?_; rintro e w1 ⟨r, rfl, rfl, hr⟩
  have HR := Lib.hid hr
  clear hr H
  go_wp2_with fail
  go_ret
  exact ⟨by rw [← HR.out]; rfl, rfl⟩
end Go.Proofs.YtbgnaohjcfbaaaaDoor
