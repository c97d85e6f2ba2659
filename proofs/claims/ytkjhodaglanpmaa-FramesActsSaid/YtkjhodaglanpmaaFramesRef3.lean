/- The store and its reference side by side (layer 5). -/
import Derived.Test.YtkjhodaglanpmaaFramesRef2
import Derived.Test.YtkjhodaglanpmaaCuts
import Derived.Test.YtkjhodaglanpmaaInRecs
import Derived.Deep.DeepCutAuto
namespace Go.Proofs.Ytkjhodaglanpmaa
open Go.RowKit
set_option linter.unusedVariables false
set_option linter.unusedSimpArgs false
attribute [local go_sem] World.cell?_alloc_lt

theorem InB.of_own {w : World} {base m c : Nat} {A : Option Addr} {xs : List Int} (hl : xs.length = m) (h : w.ownsRow base 5 1 (.slice A m c) m (xs.map (Value.int .u8))) : InB w A m xs :=
  ⟨hl, fun hm => by
    obtain ⟨g, cap, hv, hg, hlt⟩ := h.form hm
    injection hv with hA _ _
    subst hA
    refine ⟨g, 0, rfl, hlt, fun j u hu => ?_⟩
    have hc := h.cells (g := g) rfl j (.int .u8 u) (by rw [List.getElem?_map, hu]; rfl)
    rw [WideShapes.add_plain] at hc
    exact hc⟩
theorem InB.reads {w : World} {A : Option Addr} {m : Nat} {us : List Int} (h : InB w A m us) : Reads w w.heap.size 1 A m (us.map (Value.int .u8)) :=
  ⟨by rw [List.length_map, h.ln, Nat.mul_one], fun hm => by
    obtain ⟨b, off, e, hb, hc⟩ := h.at_ hm
    refine ⟨_, e, hb, fun j u hj => ?_⟩
    rw [List.getElem?_map] at hj
    obtain ⟨z, hz, rfl⟩ := Option.map_eq_some_iff.1 hj
    rw [WideShapes.add_plain]
    exact hc j z hz⟩
theorem bytes_oneL (l : List Int) : ∀ u ∈ l.map (Value.int .u8), u.oneCell' = true := by intro u hu; obtain ⟨z, _, rfl⟩ := List.mem_map.1 hu; rfl
theorem cut_lh_b (g N lo m : Nat) (L H : Int) (hL : L = (lo : Int)) (hH : H = (lo : Int) + (m : Int)) (h : lo + m ≤ N) (w : World) : (Instr.sliceAt 50 (.slice (some ⟨g, 0, none⟩) N N) (some (.int .i64 L)) (some (.int .i64 H)) none).run Try.prog w = .ok (.slice (cutA g N lo) m (N - lo)) w := by
  subst hL hH
  have h0 : (0 : Int) ≤ (lo : Int) := by omega
  have h1 : (lo : Int) ≤ (lo : Int) + (m : Int) := by omega
  have h2 : (lo : Int) + (m : Int) ≤ (N : Int) := by omega
  have h5 : ((lo : Int) + (m : Int)).toNat - lo = m := by omega
  unfold cutA
  by_cases e : N = lo
  · subst e
    have hm : m = 0 := by omega
    subst hm
    simp [go_sem]
  · rw [if_neg e]
    have h3 : ¬ (N = lo) := e
    simp [go_sem, h0, h1, h2, h3, h5, Addr.add]
    omega
theorem cut_reads {w : World} {tb : Nat} {bs : List Int} (hd : Blk w tb 5 (bs.map (Value.int .u8))) (lo m : Nat) (h : lo + m ≤ bs.length) : InB w (cutA tb bs.length lo) m ((bs.drop lo).take m) :=
  ⟨by rw [List.length_take, List.length_drop]; omega, fun hm => by
    refine ⟨tb, lo, by unfold cutA; rw [if_neg (by omega)], hd.lt, fun j u hj => ?_⟩
    rw [List.getElem?_take] at hj
    split at hj
    · rw [List.getElem?_drop] at hj
      refine hd.at_ ?_
      rw [List.getElem?_map, hj]
      rfl
    · cases hj⟩
set_option maxRecDepth 100000 in
theorem rs_load (r tb nodes each : Nat) (bs : List Int) (f at_ m : Nat) (w : World) (hR : RefS w r tb nodes each bs) (hf : f < nodes * each) (hat : at_ + m ≤ 64) :
    Calls Try.prog 48 #[.pointer (some ⟨r, 0, none⟩), .int .i64 f, .int .i64 at_, .int .i64 m] w fun e w' => ∃ A c, e = .returned (.tuple #[.slice A m c, .int .i64 0]) ∧ w'.ownsRow w.heap.size 5 1 (.slice A m c) m (((bs.drop (f * 64 + at_)).take m).map (Value.int .u8)) ∧ Below w.heap.size w w' := by
  have hh := rs_has r tb nodes each bs (f : Int) w hR
  rw [show hasF (nodes * each) (f : Int) = true from decide_eq_true (by omega)] at hh
  have HH := Lib.hid hh; clear hh
  have hmx := hR.mx
  have hbl := hR.ln
  have hin : f * 64 + at_ + m ≤ bs.length := by rw [hbl]; omega
  have hcr := fun w' (hb : Below w.heap.size w w') => (cut_reads (hR.below hb).dt (f * 64 + at_) m hin).reads
  have k2 := hR.st.at_ (i := 2) rfl
  have hrl := hR.st.lt
  obtain ⟨i0, hi0, hz0, hz1, hz2⟩ := info_parts info_byte
  have hcut := fun w => cut_lh_b tb bs.length (f * 64 + at_) m ((64 : Int) * (f : Int) + (at_ : Int)) ((64 : Int) * (f : Int) + (at_ : Int) + (m : Int)) (by omega) (by omega) hin w
  have hf8 : f < 8192 := by omega
  have ha8 : at_ ≤ 64 := by omega
  have hm8 : m ≤ 64 := by omega
  clear hbl hmx
  have ha1 : ¬ ((at_ : Int) < 0) := by omega
  have ha2 : ¬ ((64 : Int) < (at_ : Int)) := by omega
  have ha3 : ¬ ((m : Int) < 0) := by omega
  have ha4 : ¬ ((64 : Int) - (at_ : Int) < (m : Int)) := by omega
  have ha5 : ¬ ((64 : Int) < (at_ : Int) + (m : Int)) := by omega
  generalize f * 64 + at_ = lo at *
  have HCR := Lib.hid hcr; clear hcr hR
  go_enter Try.func48, Try.ntmps48
  go_wp2_with fail
  refine HH.out.mono ?_; rintro e w1 ⟨rfl, n1, hn1⟩
  have hb1 := bel_quiet ⟨n1, hn1⟩
  have k2 := (hb1.cell (p := ⟨r, 2, none⟩) hrl).trans k2
  have hrl1 : r < w1.heap.size := Nat.lt_of_lt_of_le hrl hb1.size
  have hs1 := hb1.size
  have hma := own_made0 w1 w.heap.size 5 1 hb1.size
  have hr1 := HCR.out (w1.alloc (.cells #[] 5)) (bel_alloc hb1 _)
  have hbb := bel_alloc hb1 (.cells #[] 5)
  have HMA := Lib.hid hma; have HR1 := Lib.hid hr1; have HBB := Lib.hid hbb
  clear hn1 hma hr1 hbb
  go_wp2_with (at_builtin; refine wpList_append_any _ rfl (.tmp 30) (.tmp 45) 50 rfl w.heap.size 5 i0 _ 1 1 Try.underlying50 hi0 hz0 hz1 hz2 rfl (by omega) (.slice (some ⟨w1.heap.size, 0, none⟩) 0 0) 0 [] rfl HMA.out _ (cutA tb bs.length lo) m (bs.length - lo) (((bs.drop lo).take m).map (Value.int .u8)) rfl HR1.out (bytes_oneL _) (by unfold maxLen; omega) (by omega) (by simp; omega) ?_)
  intro v2 w2 hown2 hgr2 hor2
  have hB2 : Below w.heap.size w w2 := by first | exact HBB.out.grown hgr2 (by simp; omega) (fun q hq => by simp [Value.ownBlock] at hq; omega) | exact HBB.out.drew.grown hgr2 (by simp; omega) (fun q hq => by simp [Value.ownBlock] at hq; omega)
 -- (by simp; omega) (fun q hq => by simp [Value.ownBlock] at hq; omega)
  obtain ⟨A2, c2, rfl⟩ := own_slice hown2
  clear hgr2 hor2
  go_wp2_with fail
  go_ret2
  exact ⟨A2, c2, rfl, by rw [List.map_take, List.map_drop]; exact hown2, hB2⟩
/-- What a save leaves. -/
def saveB (nf : Nat) (bs : List Int) (f at_ : Int) (us : List Int) : List Int := if partE nf f at_ us.length = 0 then putL bs (f.toNat * 64 + at_.toNat) us else bs
theorem fr_save_any (g b each nf : Nat) (bs : List Int) (f at_ : Int) (A : Option Addr) (mc : Nat) (us : List Int) (w : World) (hG : StoreAt w g b each nf bs) (hI : InB w A us.length us) (hm : us.length ≤ 1000) :
    Calls Try.prog 31 #[.pointer (some ⟨g, 0, none⟩), .int .i64 f, .int .i64 at_, .slice A us.length mc] w fun e w' => e = .returned (.int .i64 (partE nf f at_ us.length)) ∧ StoreAt w' g b each nf (saveB nf bs f at_ us) ∧ Ch [b] w w' := by
  unfold saveB
  by_cases h : partE nf f at_ us.length = 0
  · rw [if_pos h, h]
    obtain ⟨f', a', m', rfl, rfl, hme, hf, ha⟩ := partE_ok h
    rw [Int.toNat_natCast, Int.toNat_natCast]
    exact fr_save_in g b each nf bs f' a' A us.length mc us w hG hf (by omega) hI
  · rw [if_neg h]
    exact (fr_save_no g b each nf bs f at_ A us.length mc w hG h (by omega)).mono fun e w' ⟨h1, h2⟩ => ⟨h1, h2 ▸ hG, h2 ▸ Ch.refl _ _⟩
theorem rs_save_any (r tb nodes each : Nat) (bs : List Int) (f at_ : Int) (A : Option Addr) (mc : Nat) (us : List Int) (w : World) (hR : RefS w r tb nodes each bs) (hI : InB w A us.length us) (hm : us.length ≤ 1000) (hne : ∀ b off, A = some ⟨b, off, none⟩ → b ≠ tb) :
    Calls Try.prog 47 #[.pointer (some ⟨r, 0, none⟩), .int .i64 f, .int .i64 at_, .slice A us.length mc] w fun e w' => e = .returned (.int .i64 (partE (nodes * each) f at_ us.length)) ∧ RefS w' r tb nodes each (saveB (nodes * each) bs f at_ us) ∧ Ch [tb] w w' := by
  unfold saveB
  by_cases h : partE (nodes * each) f at_ us.length = 0
  · rw [if_pos h, h]
    obtain ⟨f', a', m', rfl, rfl, hme, hf, ha⟩ := partE_ok h
    rw [Int.toNat_natCast, Int.toNat_natCast]
    exact rs_save r tb nodes each bs f' a' A us.length mc us w hR hf (by omega) hI hne
  · rw [if_neg h]
    exact (rs_save_no r tb nodes each bs f at_ A us.length mc w hR h (by omega)).mono fun e w' ⟨h1, h2⟩ => ⟨h1, hR.below h2, Ch.below h2 _⟩
/-- A byte of the call's own row is changed. -/
theorem own_set {w : World} {base g n c i : Nat} {e : TypeId} {xs : List Value} (h : w.ownsRow base e 1 (.slice (some ⟨g, 0, none⟩) n c) n xs) (hi : i < n) (u : Value) : (w.setCell ⟨g, i, none⟩ u).ownsRow base e 1 (.slice (some ⟨g, 0, none⟩) n c) n (xs.set i u) := by
  refine ⟨by rw [List.length_set]; exact h.1, ?_⟩
  rcases h.2 with ⟨h0, _⟩ | ⟨g', cap, cur, hv, hb, hh, h1, h2, h3, h4⟩
  · cases h0
  · injection hv with hA hn hc
    injection hA with hA
    injection hA with hA
    subst hA hc
    refine Or.inr ⟨g, c, cur.setIfInBounds i u, rfl, hb, ?_, h1, h2, by simp [h3], ?_⟩
    · simp [World.setCell, Array.getElem?_modify, hh]
    · rw [Array.toList_setIfInBounds, List.take_set, h4]
end Go.Proofs.Ytkjhodaglanpmaa
