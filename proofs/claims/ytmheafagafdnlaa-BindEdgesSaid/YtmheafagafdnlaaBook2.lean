/- Package bind (layer 18): reading and clearing a book. -/
import Derived.Test.YtmheafagafdnlaaBook
namespace Go.Proofs.Ytmheafagafdnlaa
open Go.RowKit
set_option linter.unusedVariables false
set_option linter.unusedSimpArgs false
attribute [local go_sem] World.cell?_alloc_lt

theorem blook {w : World} {g b : Nat} {k : Int} {f : Int → Option Pol} (h : BookAt w g b k f) (p : Int) : (Instr.lookup 75 (.map (some b)) (.int .i64 p) true).run Try.prog w = .ok (.tuple #[((f p).map polv).getD (.agg #[.int .i64 0, .int .u8 0, .int .i64 0]), .bool (f p).isSome]) w := by
  obtain ⟨m, hm, hf⟩ := h.mp
  have hr := hm.run_lookup uPol kPol _ zPol p
  rw [hf p, Option.isSome_map] at hr
  exact hr
theorem bof_some (g b : Nat) (k : Int) (f : Int → Option Pol) (p : Int) (m : Int) (s : Nat) (n : Int) (w : World) (h : BookAt w g b k f) (hp : f p = some (m, s, n)) :
    Calls Try.prog 19 #[.pointer (some ⟨g, 0, none⟩), .int .i64 p] w fun e w' => e = .returned (.tuple #[.agg #[.int .i64 m, .int .u8 s, .int .i64 n], .bool true]) ∧ Below w.heap.size w w' := by
  have hl := fun o => blook (h.below (bel_alloc (Below.refl _ w) o)) p
  have k1 := h.st.at_ (i := 1) rfl
  rw [hp] at hl
  simp only [Option.map_some, Option.getD_some, Option.isSome_some, polv] at hl
  have hgl := h.st.lt
  clear hp h
  go_enter Try.func19, Try.ntmps19
  go_wp2_with fail
  exact bodyPost_ret (v := .tuple #[.agg #[.int .i64 m, .int .u8 s, .int .i64 n], .bool true]) (by simp [results, Try.results19, go_sem]) rfl ⟨rfl, (by repeat (first | exact Below.refl _ _ | assumption | with_reducible refine bel_alloc ?_ _ | with_reducible refine bel_drewN ?_ _ | with_reducible refine bel_drew ?_))⟩
theorem bof_none (g b : Nat) (k : Int) (f : Int → Option Pol) (p : Int) (w : World) (h : BookAt w g b k f) (hp : f p = none) :
    Calls Try.prog 19 #[.pointer (some ⟨g, 0, none⟩), .int .i64 p] w fun e w' => e = .returned (.tuple #[.agg #[.int .i64 0, .int .u8 0, .int .i64 0], .bool false]) ∧ Below w.heap.size w w' := by
  have hl := fun o => blook (h.below (bel_alloc (Below.refl _ w) o)) p
  have k1 := h.st.at_ (i := 1) rfl
  rw [hp] at hl
  simp only [Option.map_none, Option.getD_none, Option.isSome_none] at hl
  have hgl := h.st.lt
  clear hp h
  go_enter Try.func19, Try.ntmps19
  go_wp2_with fail
  exact bodyPost_ret (v := .tuple #[.agg #[.int .i64 0, .int .u8 0, .int .i64 0], .bool false]) (by simp [results, Try.results19, go_sem]) rfl ⟨rfl, (by repeat (first | exact Below.refl _ _ | assumption | with_reducible refine bel_alloc ?_ _ | with_reducible refine bel_drewN ?_ _ | with_reducible refine bel_drew ?_))⟩
theorem bok_out (g b : Nat) (k : Int) (f : Int → Option Pol) (p nd : Int) (w : World) (h : BookAt w g b k f) (hk : k ≤ nd) (h0 : 0 ≤ nd) :
    Calls Try.prog 21 #[.pointer (some ⟨g, 0, none⟩), .int .i64 p, .int .i64 nd] w fun e w' => e = .returned (.bool false) ∧ Below w.heap.size w w' := by
  have k0 := h.st.at_ (i := 0) rfl
  clear h
  go_enter Try.func21, Try.ntmps21
  go_wp2_with fail
  go_ret
  exact ⟨rfl, (by repeat (first | exact Below.refl _ _ | assumption | with_reducible refine bel_alloc ?_ _ | with_reducible refine bel_drewN ?_ _ | with_reducible refine bel_drew ?_))⟩
theorem bok_none (g b : Nat) (k : Int) (f : Int → Option Pol) (p nd : Int) (w : World) (h : BookAt w g b k f) (hk : nd < k) (h0 : 0 ≤ nd) (hp : f p = none) :
    Calls Try.prog 21 #[.pointer (some ⟨g, 0, none⟩), .int .i64 p, .int .i64 nd] w fun e w' => e = .returned (.bool true) ∧ Below w.heap.size w w' := by
  have hl := blook h p
  have k0 := h.st.at_ (i := 0) rfl
  have k1 := h.st.at_ (i := 1) rfl
  rw [hp] at hl
  simp only [Option.map_none, Option.getD_none, Option.isSome_none] at hl
  clear hp h
  go_enter Try.func21, Try.ntmps21
  go_wp2_with fail
  go_ret
  exact ⟨rfl, (by repeat (first | exact Below.refl _ _ | assumption | with_reducible refine bel_alloc ?_ _ | with_reducible refine bel_drewN ?_ _ | with_reducible refine bel_drew ?_))⟩
/-- A Bind's page. -/
theorem bok_bind (g b : Nat) (k : Int) (f : Int → Option Pol) (p nd : Int) (s : Nat) (n : Int) (hs : s < 256) (w : World) (h : BookAt w g b k f) (hk : nd < k) (h0 : 0 ≤ nd) (hp : f p = some (1, s, n)) :
    Calls Try.prog 21 #[.pointer (some ⟨g, 0, none⟩), .int .i64 p, .int .i64 nd] w fun e w' => e = .returned (.bool (hasN s nd)) ∧ Below w.heap.size w w' := by
  have hl := blook h p
  have k0 := h.st.at_ (i := 0) rfl
  have k1 := h.st.at_ (i := 1) rfl
  rw [hp] at hl
  simp only [Option.map_some, Option.getD_some, Option.isSome_some, polv] at hl
  have HH := Lib.hid (has_at s hs nd)
  clear hp h
  go_enter Try.func21, Try.ntmps21
  go_wp2_with fail
  refine (HH.out _).mono ?_; rintro e w2 ⟨rfl, rfl⟩
  go_wp2
  go_ret
  exact ⟨rfl, (by repeat (first | exact Below.refl _ _ | assumption | with_reducible refine bel_alloc ?_ _ | with_reducible refine bel_drewN ?_ _ | with_reducible refine bel_drew ?_))⟩
theorem bclear (g b : Nat) (k : Int) (f : Int → Option Pol) (p : Int) (n : Nat) (h0 : 0 ≤ p) (h1 : 1 ≤ n) (h2 : n ≤ 4096) (h3 : p ≤ 4096 - n) (w0 : World) (hb : BookAt w0 g b k f) :
    Calls Try.prog 20 #[.pointer (some ⟨g, 0, none⟩), .int .i64 p, .int .i64 n] w0 fun e w' => e = .returned (.int .i64 0) ∧ BookAt w' g b k (fun q => if p ≤ q ∧ q < p + n then none else f q) ∧ Ch [b] w0 w' := by
  obtain ⟨m0, hm0, hf0⟩ := hb.mp
  have hst0 := hb.st
  have hne := hb.ne_
  have HF0 := Lib.hid hf0; clear hf0 hb
  have hgl := hst0.lt
  have hbl := hm0.lt
  go_enter Try.func20, Try.ntmps20
  go_wp2_with fail
  refine (bright g p n h0 (by omega) (by omega) (by omega) _).mono ?_; rintro e w1 ⟨rfl, rfl⟩
  go_wp2_with fail
  go_loopw [14] (fun vi wx => ∃ (j : Nat) (m : List (Int × Value)), j ≤ n ∧ vi = .int .i64 j ∧ Blk wx g 77 [.int .i64 k, .map (some b)] ∧ MapAt intKeys wx b m ∧ (∀ q, mget m q = if p ≤ q ∧ q < p + j then none else mget m0 q) ∧ Ch [b] w0 wx) (fun i _ => n - (intOf i).toNat)
  case atStart => exact ⟨0, m0, by omega, rfl, hst0, hm0, fun q => by rw [if_neg (by omega)], Ch.refl _ _⟩
  case round =>
    obtain ⟨j, m, hj, rfl, hst, hm, hq, hch⟩ := hrel
    have HQ := Lib.hid hq; clear hq
    by_cases hlt : j < n
    · have k1 := hst.at_ (i := 1) rfl
      obtain ⟨w3, r3, m3, c3⟩ := hm.run_delete (P := Try.prog) uPol kPol (p + j) 3 0
      have r3 : (Builtin.delete_ #[75, 3] 0 #[.map (some b), .int .i64 (p + j)]).run Try.prog wr = .ok (.tuple #[]) w3 := r3
      have hst3 := hst.ch c3 (by simp [hne])
      have hch3 := hch.trans c3
      have hq3 : ∀ q, mget (mdel m (p + j)) q = if p ≤ q ∧ q < p + ((j + 1 : Nat) : Int) then none else mget m0 q := by
        intro q
        rw [mget_del]
        by_cases e : p + j = q
        · rw [if_pos e, if_pos (by omega)]
        · rw [if_neg e, HQ.out q]
          by_cases e2 : p ≤ q ∧ q < p + j
          · rw [if_pos e2, if_pos (by omega)]
          · rw [if_neg e2, if_neg (by omega)]
      have HQ3 := Lib.hid hq3
      clear hq3 c3 hst hm hch HQ hst0 hm0
      go_wp2_with fail
      go_roundw
      case rel => exact ⟨j + 1, _, by omega, by go_num, hst3, m3, HQ3.out, hch3⟩
      case measure => simp [intOf]; omega
    · obtain rfl : j = n := by omega
      go_wp2_with fail
      go_ret
      refine ⟨rfl, ⟨hst, ⟨m, hm, fun q => ?_⟩, hne⟩, hch⟩
      rw [HQ.out q]
      by_cases e : p ≤ q ∧ q < p + j
      · rw [if_pos e, if_pos e]; rfl
      · rw [if_neg e, if_neg e]; exact HF0.out q
theorem binds_any (w0 : World) : Calls Try.prog 17 #[] w0 fun e w' => e = .returned (.bool true) ∧ Below w0.heap.size w0 w' := by
  go_enter Try.func17, Try.ntmps17
  go_wp2_with fail
  refine (bnew 2 (by omega) (by omega) w0).mono ?_; rintro e w1 ⟨g, b, rfl, hg, hb, hK, hB⟩
  have hst := bset g b 2 _ 5 2 (1, 2, 0) (by decide) (by omega) (by omega) (by omega) (by omega) (by decide +kernel) w1 hK
  unfold polv at hst
  go_wp2_with fail
  refine hst.mono ?_; rintro e w2 ⟨rfl, hK, hc⟩
  have hB := bel_ch hB hc (by simp; omega)
  generalize hf : (fun q : Int => if 5 ≤ q ∧ q < 5 + ((2 : Nat) : Int) then some ((1, 2, 0) : Pol) else none) = f at hK
  have f6 : f 6 = some (1, 2, 0) := by rw [← hf]; rfl
  have f7 : f 7 = none := by rw [← hf]; rfl
  clear hf hst
  have F6 := Lib.hid f6; have F7 := Lib.hid f7; clear f6 f7
  go_wp2_with fail
  refine (bof_none g b 2 f 7 w2 hK F7.out).mono ?_; rintro e w3 ⟨rfl, hc⟩
  have hB := bel_trans hB hc; have hK := hK.below hc; clear hc
  have hK := hK.below (bel_alloc (Below.refl _ _) (.cells #[.int .i64 0, .int .u8 0, .int .i64 0] 24))
  have hB := bel_alloc hB (.cells #[.int .i64 0, .int .u8 0, .int .i64 0] 24)
  have t1 := Lib.hid (show hasN 2 1 = true from by decide +kernel)
  have t2 := Lib.hid (show hasN 2 0 = false from by decide +kernel)
  go_wp2_with fail
  refine (bok_bind g b 2 f 6 1 2 0 (by omega) _ hK (by omega) (by omega) F6.out).mono ?_; rintro e w4 ⟨rfl, hc⟩
  rw [t1.out]
  have hB := bel_trans hB hc; have hK := hK.below hc; clear hc
  go_wp2_with fail
  refine (bok_bind g b 2 f 6 0 2 0 (by omega) _ hK (by omega) (by omega) F6.out).mono ?_; rintro e w5 ⟨rfl, hc⟩
  rw [t2.out]
  have hB := bel_trans hB hc; have hK := hK.below hc; clear hc
  go_wp2_with fail
  refine (bok_none g b 2 f 7 0 _ hK (by omega) (by omega) F7.out).mono ?_; rintro e w6 ⟨rfl, hc⟩
  have hB := bel_trans hB hc; have hK := hK.below hc; clear hc
  go_wp2_with fail
  refine (bok_out g b 2 f 7 2 _ hK (by omega) (by omega)).mono ?_; rintro e w7 ⟨rfl, hc⟩
  have hB := bel_trans hB hc
  go_wp2
  go_ret
  exact ⟨rfl, hB⟩
end Go.Proofs.Ytmheafagafdnlaa
