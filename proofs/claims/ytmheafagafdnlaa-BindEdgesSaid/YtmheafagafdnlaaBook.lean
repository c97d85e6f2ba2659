/- Package bind (layer 18): a book of policies. -/
import Derived.Test.YtmheafagafdnlaaPolicy2
import Derived.Test.YtmheafagafdnlaaAfter
import Derived.Maps.OwnSet
namespace Go.Proofs.Ytmheafagafdnlaa
open Go.RowKit
set_option linter.unusedVariables false
set_option linter.unusedSimpArgs false
attribute [local go_sem] World.cell?_alloc_lt

abbrev Pol := Int × Nat × Int
def polv (x : Pol) : Value := .agg #[.int .i64 x.1, .int .u8 x.2.1, .int .i64 x.2.2]
/-- A book: on k nodes, page p has f p. -/
structure BookAt (w : World) (g b : Nat) (k : Int) (f : Int → Option Pol) : Prop where
  st : Blk w g 77 [.int .i64 k, .map (some b)]
  mp : ∃ m : List (Int × Value), MapAt intKeys w b m ∧ ∀ p, mget m p = (f p).map polv
  ne_ : g ≠ b
section
variable {w w' : World} {g b : Nat} {k : Int} {f : Int → Option Pol}
theorem BookAt.ch {S : List Nat} (h : BookAt w g b k f) (c : Ch S w w') (h1 : g ∉ S) (h2 : b ∉ S) : BookAt w' g b k f := by
  obtain ⟨m, hm, hf⟩ := h.mp
  exact ⟨h.st.ch c h1, ⟨m, hm.ch c h2, hf⟩, h.ne_⟩
theorem BookAt.below (h : BookAt w g b k f) (c : Below w.heap.size w w') : BookAt w' g b k f := h.ch (Ch.below c []) (by simp) (by simp)
end
theorem zPol (w : World) : (zeroValue 24).run Try.prog w = .ok (.agg #[.int .i64 0, .int .u8 0, .int .i64 0]) w := by kernel_rfl
theorem uPol : Try.prog.underlying 75 = some (.map 3 24) := Try.underlying75
theorem kPol : Try.prog.underlying 3 = some (intKeys).kind := Try.underlying3

theorem bnew (k : Int) (h1 : 1 ≤ k) (h8 : k ≤ 8) (w : World) : Calls Try.prog 16 #[.int .i64 k] w fun e w' => ∃ g b, e = .returned (.tuple #[.pointer (some ⟨g, 0, none⟩), .int .i64 0]) ∧ w.heap.size ≤ g ∧ w.heap.size ≤ b ∧ BookAt w' g b k (fun _ => none) ∧ Below w.heap.size w w' := by
  have hmm := @run_makeMap Try.prog
  go_enter Try.func16, Try.ntmps16
  go_wp2
  go_ret2
  refine ⟨w.heap.size + 1, w.heap.size, rfl, by omega, by omega, ⟨?_, ?_, by omega⟩, (by repeat (first | exact Below.refl _ _ | assumption | with_reducible refine bel_alloc ?_ _ | with_reducible refine bel_drewN ?_ _ | with_reducible refine bel_drew ?_))⟩
  · have h := Blk.new (w.alloc (.map #[] 0)) 77 [.int .i64 k, .map (some w.heap.size)]
    simpa using h
  · have h := MapAt.new (κ := intKeys) w
    exact ⟨[], h.below (bel_alloc (Below.refl _ _) _), fun p => rfl⟩
theorem bright (g : Nat) (p n : Int) (h0 : 0 ≤ p) (h1 : 1 ≤ n) (h2 : n ≤ 4096) (h3 : p ≤ 4096 - n) (w : World) : Calls Try.prog 38 #[.pointer (some ⟨g, 0, none⟩), .int .i64 p, .int .i64 n] w fun e w' => e = .returned (.bool true) ∧ w = w' := by
  go_enter Try.func38, Try.ntmps38
  go_wp2
  go_ret
  exact ⟨rfl, rfl⟩
theorem bset (g b : Nat) (k : Int) (f : Int → Option Pol) (p : Int) (n : Nat) (x : Pol) (hx : x.2.1 < 256) (h0 : 0 ≤ p) (h1 : 1 ≤ n) (h2 : n ≤ 4096) (h3 : p ≤ 4096 - n) (hc : chk x.1 x.2.1 x.2.2 k = 0) (w0 : World) (hb : BookAt w0 g b k f) :
    Calls Try.prog 18 #[.pointer (some ⟨g, 0, none⟩), .int .i64 p, .int .i64 n, polv x] w0 fun e w' => e = .returned (.int .i64 0) ∧ BookAt w' g b k (fun q => if p ≤ q ∧ q < p + n then some x else f q) ∧ Ch [b] w0 w' := by
  have hck := check_at x.1 x.2.1 hx x.2.2 k
  rw [hc] at hck
  unfold pol at hck
  have HCK := Lib.hid hck; clear hck hc
  obtain ⟨m0, hm0, hf0⟩ := hb.mp
  have hst0 := hb.st
  have hne := hb.ne_
  have HF0 := Lib.hid hf0; clear hf0 hb
  obtain ⟨xm, xs, xn⟩ := x
  dsimp only at hx HCK
  unfold polv
  dsimp only
  go_enter Try.func18, Try.ntmps18
  have hbx : Blk (w0.alloc (.cells #[.int .i64 xm, .int .u8 xs, .int .i64 xn] 24)) w0.heap.size 24 [.int .i64 xm, .int .u8 xs, .int .i64 xn] := Blk.new w0 _ _
  have hst1 := hst0.alloc (.cells #[.int .i64 xm, .int .u8 xs, .int .i64 xn] 24)
  have hm1 := hm0.below (bel_alloc (Below.refl _ _) (.cells #[.int .i64 xm, .int .u8 xs, .int .i64 xn] 24))
  have hB1 : Below w0.heap.size w0 (w0.alloc (.cells #[.int .i64 xm, .int .u8 xs, .int .i64 xn] 24)) := bel_alloc (Below.refl _ _) _
  have hgl := hst0.lt
  have hbl := hm0.lt
  go_wp2_with fail
  refine (bright g p n h0 (by omega) (by omega) (by omega) _).mono ?_; rintro e w1 ⟨rfl, rfl⟩
  generalize w0.alloc (.cells #[.int .i64 xm, .int .u8 xs, .int .i64 xn] 24) = w1 at *
  have q0 := after_cell (hbx.at_ (i := 0) rfl); have q1 := after_cell (hbx.at_ (i := 1) rfl); have q2 := after_cell (hbx.at_ (i := 2) rfl)
  have k0 := after_cell (hst1.at_ (i := 0) rfl)
  go_wp2_with fail
  refine wp_region_after (by kernel_rfl) (by kernel_rfl) ?_
  repeat (first | go_big_quiet_step ((go_at_call 28; exact after_call HCK.out _)) | quiet_step ((go_at_call 28; exact after_call HCK.out _)))
  refine wpQuiet_nil ?_; intro _ hw'; obtain ⟨xq, hw''⟩ := hw'; subst hw''
  have hB2 := bel_after hB1 xq
  have hbx2 := hbx.below xq.2
  have hst2 := hst1.below xq.2
  have hm2 := hm1.below xq.2
  generalize xq.1 = w2 at *
  clear xq hbx hst1 hm1 hB1 hst0 hm0 q0 q1 q2 k0
  go_wp2_with fail
  go_loopw [26] (fun vi wx => ∃ (j : Nat) (m : List (Int × Value)), j ≤ n ∧ vi = .int .i64 j ∧ Blk wx g 77 [.int .i64 k, .map (some b)] ∧ MapAt intKeys wx b m ∧ Blk wx w0.heap.size 24 [.int .i64 xm, .int .u8 xs, .int .i64 xn] ∧ (∀ q, mget m q = if p ≤ q ∧ q < p + j then some (.agg #[.int .i64 xm, .int .u8 xs, .int .i64 xn]) else mget m0 q) ∧ Ch [b] w0 wx) (fun i _ => n - (intOf i).toNat)
  case atStart => exact ⟨0, m0, by omega, rfl, hst2, hm2, hbx2, fun q => by rw [if_neg (by omega)], Ch.below hB2 _⟩
  case round =>
    clear hst2 hm2 hbx2 hB2
    obtain ⟨j, m, hj, rfl, hst, hm, hbx, hq, hch⟩ := hrel
    have HQ := Lib.hid hq; clear hq
    by_cases hlt : j < n
    · have q0 := hbx.at_ (i := 0) rfl; have q1 := hbx.at_ (i := 1) rfl; have q2 := hbx.at_ (i := 2) rfl
      have k1 := hst.at_ (i := 1) rfl
      have hmd : MapAt intKeys wr.drew b m := hm.of_block rfl
      obtain ⟨w3, r3, m3, c3⟩ := hmd.run_update (P := Try.prog) uPol kPol (p + j) (.agg #[.int .i64 xm, .int .u8 xs, .int .i64 xn])
      have r3 : (Instr.mapUpdate 75 (.map (some b)) (.int .i64 (p + j)) (.agg #[.int .i64 xm, .int .u8 xs, .int .i64 xn])).run Try.prog wr.drew = .ok () w3 := r3
      have c3' : Ch [b] wr w3 := ((Ch.refl [b] wr).drew).trans c3
      have hst3 := hst.ch c3' (by simp [hne])
      have hbx3 := hbx.ch c3' (by simp; omega)
      have hch3 := hch.trans c3'
      have hq3 : ∀ q, mget (mput m (p + j) (.agg #[.int .i64 xm, .int .u8 xs, .int .i64 xn])) q = if p ≤ q ∧ q < p + ((j + 1 : Nat) : Int) then some (.agg #[.int .i64 xm, .int .u8 xs, .int .i64 xn]) else mget m0 q := by
        intro q
        rw [mget_put]
        by_cases e : p + j = q
        · rw [if_pos e, if_pos (by omega)]
        · rw [if_neg e, HQ.out q]
          by_cases e2 : p ≤ q ∧ q < p + j
          · rw [if_pos e2, if_pos (by omega)]
          · rw [if_neg e2, if_neg (by omega)]
      have HQ3 := Lib.hid hq3
      clear hq3 c3 c3' hmd hst hm hbx hch HQ
      go_wp2_with fail
      go_region
      go_wp2_with fail
      go_roundw
      case rel => exact ⟨j + 1, _, by omega, by go_num, hst3, m3, hbx3, HQ3.out, hch3⟩
      case measure => simp [intOf]; omega
    · obtain rfl : j = n := by omega
      go_wp2_with fail
      go_ret
      refine ⟨rfl, ⟨hst, ⟨m, hm, fun q => ?_⟩, hne⟩, hch⟩
      rw [HQ.out q]
      by_cases e : p ≤ q ∧ q < p + j
      · rw [if_pos e, if_pos e]; rfl
      · rw [if_neg e, if_neg e]; exact HF0.out q
end Go.Proofs.Ytmheafagafdnlaa
