/- Rows of texts; the reader of topo: take. -/
import Derived.Test.YtbgnaohjcfbaaaaDoorTopoNum
import Derived.Test.YtbgnaohjcfbaaaaDoorShelf
import Derived.Test.YtbgnaohjcfbaaaaDoorOwnRows
import Derived.Lib.SplitLaws
namespace Go.Proofs.YtbgnaohjcfbaaaaDoor
open Go.RowKit Go.Shelf
set_option linter.unusedVariables false
set_option linter.unusedSimpArgs false
attribute [local go_sem] World.cell?_alloc_lt

/-! ### Rows of names. -/
structure InZ (w : World) (A : Option Addr) (n : Nat) (zs : List ByteArray) : Prop where
  ln : zs.length = n
  at_ : 0 < n → ∃ b off, A = some ⟨b, off, none⟩ ∧ b < w.heap.size ∧ ∀ j z, zs[j]? = some z → w.cell? ⟨b, off + j, none⟩ = some (.string z)
section
variable {w w' : World} {A : Option Addr} {n : Nat} {zs : List ByteArray}
theorem InZ.below (h : InZ w A n zs) (k : Below w.heap.size w w') : InZ w' A n zs :=
  ⟨h.ln, fun hn => by
    obtain ⟨b, off, ha, hb, hc⟩ := h.at_ hn
    exact ⟨b, off, ha, Nat.lt_of_lt_of_le hb k.size, fun j u hj => (k.cell (p := ⟨b, off + j, none⟩) hb).trans (hc j u hj)⟩⟩
theorem InZ.get (h : InZ w A n zs) {i : Nat} (hi : i < n) : ∃ b off z, A = some ⟨b, off, none⟩ ∧ b < w.heap.size ∧ zs[i]? = some z ∧ w.cell? ⟨b, off + i, none⟩ = some (.string z) := by
  obtain ⟨b, off, ha, hb, hc⟩ := h.at_ (by omega)
  have hl : i < zs.length := by have := h.ln; omega
  exact ⟨b, off, zs[i], ha, hb, List.getElem?_eq_getElem hl, hc i _ (List.getElem?_eq_getElem hl)⟩
theorem InZ.own {base c : Nat} (h : w.ownsRow base 9 1 (.slice A n c) n (zs.map Value.string)) : InZ w A n zs := by
  refine ⟨by have := h.1; simp at this; omega, fun hn => ?_⟩
  obtain ⟨g, cap, hv, hb, hlt⟩ := h.form hn
  injection hv with hA _ _
  refine ⟨g, 0, hA, hlt, fun j u hj => ?_⟩
  obtain ⟨g', hA', hc, _⟩ := own_at h (k := j) (u := .string u) (by rw [List.getElem?_map, hj]; rfl)
  rw [hA] at hA'
  injection hA' with hA'
  injection hA' with hA'
  subst hA'
  rw [Nat.zero_add]
  exact hc
theorem InZ.inn (h : InStrs w A n zs) : InZ w A n zs :=
  ⟨h.ln, fun hn => by
    obtain ⟨b, off, ha, hb, hc⟩ := h.at_ hn
    refine ⟨b, off, ha, hb, fun j u hj => ?_⟩
    have hjl := (List.getElem?_eq_some_iff.1 hj).1
    have := hc j (by have := h.ln; omega)
    rw [List.getD_eq_getElem?_getD, hj] at this
    exact this⟩
theorem InZ.take {k : Nat} (h : InZ w A n zs) (hk : k ≤ n) : InZ w A k (zs.take k) :=
  ⟨by rw [List.length_take, h.ln]; omega, fun hn => by
    obtain ⟨b, off, ha, hb, hc⟩ := h.at_ (by omega)
    refine ⟨b, off, ha, hb, fun j u hj => ?_⟩
    rw [List.getElem?_take] at hj
    split at hj
    · exact hc j u hj
    · cases hj⟩
theorem InZ.reads (h : InZ w A n zs) : Reads w w.heap.size 1 A n (zs.map Value.string) := by
  refine ⟨by rw [List.length_map, h.ln]; omega, fun hn => ?_⟩
  obtain ⟨b, off, ha, hb, hc⟩ := h.at_ hn
  refine ⟨⟨b, off, none⟩, ha, hb, fun j u hj => ?_⟩
  rw [List.getElem?_map] at hj
  obtain ⟨z, hz, rfl⟩ := Option.map_eq_some_iff.1 hj
  rw [WideShapes.add_plain]
  exact hc j z hz
end
theorem strs_one (zs : List ByteArray) : ∀ u ∈ zs.map Value.string, u.oneCell' = true := by
  intro u hu
  obtain ⟨z, _, rfl⟩ := List.mem_map.1 hu
  rfl
theorem idx_z (b off n c i : Nat) (hi : i < n) (w : World) : (Instr.indexAt 78 (.slice (some ⟨b, off, none⟩) n c) (.int .i64 (i : Int))).run Tryd.prog w = .ok (.pointer (some ⟨b, off + i, none⟩)) w := by
  simp [go_sem, hi]
theorem cut_z (a : Option Addr) (len cap n : Nat) (N : Int) (hN : N = (n : Int)) (h : n ≤ cap) (w : World) : (Instr.sliceAt 78 (.slice a len cap) none (some (.int .i64 N)) none).run Tryd.prog w = .ok (.slice a n cap) w := by
  subst hN
  have h2 : (n : Int) ≤ (cap : Int) := by omega
  cases a <;> simp [go_sem, h, h2, Addr.add]

theorem cut_lo_z (g m cp k : Nat) (K : Int) (hK : K = (k : Int)) (hk : k ≤ m) (hm : m ≤ cp) (w : World) : (Instr.sliceAt 78 (.slice (some ⟨g, 0, none⟩) m cp) (some (.int .i64 K)) none none).run Tryd.prog w = .ok (.slice (cutA g cp k) (m - k) (cp - k)) w := by
  subst hK
  have h0 : (0 : Int) ≤ (k : Int) := by omega
  have h1 : (k : Int) ≤ (m : Int) := by omega
  have h2 : (m : Int) ≤ (cp : Int) := by omega
  unfold cutA
  by_cases e : cp = k
  · subst e
    have : m = cp := by omega
    subst this
    simp [go_sem]
  · rw [if_neg e]
    have h3 : ¬ (cp = k) := e
    simp [go_sem, h0, h1, h2, hk, hm, h3, Addr.add]
    omega

theorem info_intT : (Tryd.prog.info? 3).map (fun i => (i.zero, i.size, i.bytes)) = some (some (.int .i64 0), 1, 8) := by kernel_rfl
/-! ### Words, numbers. -/
def wordsB (c : UInt8) (s : ByteArray) : List ByteArray := Lib.splitB ⟨#[c]⟩ 0 (Lib.countB s ⟨#[c]⟩) s
theorem words_len (c : UInt8) (s : ByteArray) : (wordsB c s).length = Lib.countB s ⟨#[c]⟩ + 1 := Lib.splitB_all ⟨#[c]⟩ (Nat.le_refl 1) 0 _ s rfl
theorem split_size (sep : ByteArray) : ∀ (k : Nat) (s x : ByteArray), x ∈ Lib.splitB sep 0 k s → x.size ≤ s.size := by
  intro k
  induction k with
  | zero => intro s x hx; rw [Lib.splitB_zero] at hx; rw [List.mem_singleton.1 hx]; exact Nat.le_refl _
  | succ k ih =>
    intro s x hx
    unfold Lib.splitB at hx
    split at hx
    · rw [List.mem_singleton.1 hx]; exact Nat.le_refl _
    · rcases List.mem_cons.1 hx with rfl | hx
      · rw [ByteArray.size_extract]; omega
      · have := ih _ x hx
        rw [ByteArray.size_extract] at this
        omega
theorem words_size (c : UInt8) (s x : ByteArray) (h : x ∈ wordsB c s) : x.size ≤ s.size := split_size _ _ s x h
def numsT (ws : List ByteArray) : List Int := ws.map (fun x => (numT x).1)
def noNum (x : ByteArray) : Bool := !(numT x).2
structure Rd where
  at_ : Nat
  bad : Bool
def headBad (ws : List ByteArray) (word : ByteArray) (one : Bool) : Bool := !(decide (ws.head? = some word)) || (decide (ws.length < 2) || (one && decide (ws.length ≠ 2)))
def takeR (ls : List ByteArray) (word : ByteArray) (one : Bool) (r : Rd) : List Int × Rd :=
  if r.bad = true then ([], r) else if ls.length < r.at_ + 1 then ([], ⟨r.at_ + 1, true⟩) else
  (numsT (wordsB 32 (ls.getD r.at_ ByteArray.empty)).tail, ⟨r.at_ + 1, headBad (wordsB 32 (ls.getD r.at_ ByteArray.empty)) word one || (wordsB 32 (ls.getD r.at_ ByteArray.empty)).tail.any noNum⟩)
/-- The reader's block. -/
def RdAt (w : World) (b : Nat) (A : Option Addr) (n c : Nat) (r : Rd) : Prop := Blk w b 82 [.slice A n c, .int .i64 (r.at_ : Int), .bool r.bad]
theorem split_call (c : UInt8) (s : ByteArray) (hs : s.size < 4294967281) (m : Int) (w : World) (hm : w.cell? ⟨0, 0, none⟩ = some (.int .i64 m)) : Calls Tryd.prog 36 #[.string s, .string ⟨#[c]⟩] w fun e w' => e = .returned (.slice (some ⟨w.heap.size, 0, none⟩) (wordsB c s).length (wordsB c s).length) ∧ w' = w.alloc (.cells ((wordsB c s).map Value.string).toArray 9) := by
  have h := Tryd.strings_Split s ⟨#[c]⟩ m w hs hm (Nat.le_refl 1)
  rw [words_len]
  exact h
theorem rd_of {w : World} {rb n c at_ : Nat} {A : Option Addr} {b : Bool} (h : Blk w rb 82 [.slice A n c, .int .i64 ((at_ : Int) + 1), .bool b]) : RdAt w rb A n c ⟨at_ + 1, b⟩ := by
  unfold RdAt
  rw [show (((⟨at_ + 1, b⟩ : Rd).at_ : Nat) : Int) = (at_ : Int) + 1 from by simp]
  exact h
set_option maxRecDepth 100000 in
set_option maxHeartbeats 4000000 in
theorem take_any (rb : Nat) (A : Option Addr) (n c : Nat) (ls : List ByteArray) (r : Rd) (word : ByteArray) (one : Bool) (m : Int) (w : World) (hr : RdAt w rb A n c r) (hz : InZ w A n ls) (hn : n ≤ 1000000) (hat : r.at_ ≤ 1000000) (hls : ∀ z ∈ ls, z.size ≤ 1000000) (hm : w.cell? ⟨0, 0, none⟩ = some (.int .i64 m)) (h2 : 0 < rb) :
    Calls Tryd.prog 38 #[.pointer (some ⟨rb, 0, none⟩), .string word, .bool one] w fun e w' => (∃ A' c', e = .returned (.slice A' (takeR ls word one r).1.length c') ∧ w'.ownsRow w.heap.size 3 1 (.slice A' (takeR ls word one r).1.length c') (takeR ls word one r).1.length ((takeR ls word one r).1.map (Value.int .i64))) ∧ RdAt w' rb A n c (takeR ls word one r).2 ∧ Ch [rb] w w' := by
  obtain ⟨at_, bad⟩ := r
  have hat : at_ ≤ 1000000 := hat
  have hln := hz.ln
  have hBk : Blk w rb 82 [.slice A n c, .int .i64 (at_ : Int), .bool bad] := hr
  clear hr
  have hrbl := hBk.lt
  have q0 := hBk.at_ (i := 0) rfl
  have q1 := hBk.at_ (i := 1) rfl
  have q2 := hBk.at_ (i := 2) rfl
  have f1 := hBk.frozen 1
  have f2 := hBk.frozen 2
  cases bad with
  | true =>
    have e : takeR ls word one ⟨at_, true⟩ = ([], ⟨at_, true⟩) := by unfold takeR; rw [if_pos rfl]
    rw [e]
    have HK := Lib.hid hBk
    clear hBk e hz
    go_enter Tryd.func38, Tryd.ntmps38
    go_wp2_with fail
    go_ret
    exact ⟨⟨none, 0, rfl, ⟨rfl, Or.inl ⟨rfl, rfl⟩⟩⟩, HK.out, Ch.refl _ _⟩
  | false =>
    have hwr : IntKind.i64.wrap ((at_ : Int) + 1) = (at_ : Int) + 1 := i64_sm (by omega) (by omega)
    have hb1 : Blk (w.setCell ⟨rb, 1, none⟩ (.int .i64 ((at_ : Int) + 1))) rb 82 [.slice A n c, .int .i64 ((at_ : Int) + 1), .bool false] := hBk.set_ 1 _
    have hc1 : Ch [rb] w (w.setCell ⟨rb, 1, none⟩ (.int .i64 ((at_ : Int) + 1))) := (Ch.refl [rb] w).set (p := ⟨rb, 1, none⟩) (by simp) _
    by_cases hl : ls.length < at_ + 1
    · have e : takeR ls word one ⟨at_, false⟩ = ([], ⟨at_ + 1, true⟩) := by unfold takeR; rw [if_neg (by simp), if_pos hl]
      rw [e]
      clear hBk e hz
      have hgt : ((n : Int) < (at_ : Int) + 1) := by omega
      go_enter Tryd.func38, Tryd.ntmps38
      go_upto_region 4 with fail
      generalize w.setCell ⟨rb, 1, none⟩ (.int .i64 ((at_ : Int) + 1)) = w1 at *
      have HC1 := Lib.hid hc1; have HK1 := Lib.hid hb1
      clear hc1 hb1
      have h30 := HK1.out.at_ (i := 0) rfl
      have h31 := HK1.out.at_ (i := 1) rfl
      have h32 := HK1.out.frozen 2
      have h33 := HK1.out.at_ (i := 2) rfl
      go_quiet (fail)
      go_wp2_with fail
      go_ret
      exact ⟨⟨none, 0, rfl, ⟨rfl, Or.inl ⟨rfl, rfl⟩⟩⟩, rd_of (b := true) (by exact (HK1.out.drewN _).set_ 2 _), (HC1.out.drewN _).set (p := ⟨rb, 2, none⟩) (by simp) _⟩
    · have hlt : at_ < n := by omega
      obtain ⟨b, off, z, rfl, hb, hzi, hcell⟩ := hz.get hlt
      have hgd : ls.getD at_ ByteArray.empty = z := by rw [List.getD_eq_getElem?_getD, hzi]; rfl
      have e : takeR ls word one ⟨at_, false⟩ = (numsT (wordsB 32 z).tail, ⟨at_ + 1, headBad (wordsB 32 z) word one || (wordsB 32 z).tail.any noNum⟩) := by
        unfold takeR; rw [if_neg (by simp), if_neg hl, hgd]
      rw [e]
      have hzs := hls z (List.mem_of_getElem? hzi)
      obtain ⟨y, tl, hws⟩ : ∃ y tl, wordsB 32 z = y :: tl := by
        have := words_len 32 z
        match hq : wordsB 32 z with
        | [] => rw [hq] at this; simp at this
        | y :: tl => exact ⟨y, tl, rfl⟩
      have hlz := words_len 32 z
      rw [hws] at hlz
      have hsw : ∀ x ∈ tl, x.size ≤ 1000000 := fun x hx => by
        have := words_size 32 z x (by rw [hws]; exact List.mem_cons_of_mem _ hx)
        omega
      have htl : tl.length ≤ 1000000 := by
        have h1 := Lib.countB_le ⟨#[32]⟩ (Nat.le_refl 1) z.size z (Nat.le_refl _)
        rw [List.length_cons] at hlz
        omega
      have hHB : headBad (y :: tl) word one = (!(decide (y = word)) || (decide (tl.length + 1 < 2) || (one && decide (tl.length + 1 ≠ 2)))) := by
        unfold headBad; simp
      rw [hws, List.tail_cons]
      generalize hb0g : headBad (y :: tl) word one = B0
      rw [hHB] at hb0g
      have hspl := fun w hm => split_call 32 z (by omega) m w hm
      rw [hws] at hspl
      simp only [List.length_cons, List.map_cons] at hspl
      clear hlz
      have hbr : b ≠ rb := by
        intro e
        subst e
        rw [hBk.cell] at hcell
        match hq : off + at_ with
        | 0 => rw [hq] at hcell; simp at hcell
        | 1 => rw [hq] at hcell; simp at hcell
        | 2 => rw [hq] at hcell; simp at hcell
        | k + 3 => rw [hq] at hcell; simp at hcell
      have hc2 := ch_keep hc1 (show b ∉ [rb] by simpa using hbr) hcell
      have hm2 := ch_keep hc1 (show 0 ∉ [rb] by simp; omega) hm
      have hidx : ∀ w : World, (Instr.indexAt 78 (.slice (some ⟨b, off, none⟩) n c) (.int .i64 ((at_ : Int) + 1 - 1))).run Tryd.prog w = .ok (.pointer (some ⟨b, off + at_, none⟩)) w := fun w => by
        rw [show (at_ : Int) + 1 - 1 = (at_ : Int) from by omega]
        exact idx_z b off n c at_ hlt w
      have hidx2 := fun w => idx_z b off n c at_ hlt w
      have h11 : (at_ : Int) + 1 - 1 = (at_ : Int) := by omega
      have hwt : IntKind.i64.wrap (at_ : Int) = (at_ : Int) := i64_sm (by omega) (by omega)
      clear hBk e hz hgd hzi hcell hm hls hl
      have hgt : ¬ ((n : Int) < (at_ : Int) + 1) := by omega
      go_enter Tryd.func38, Tryd.ntmps38
      go_upto_region 4 with fail
      generalize w.setCell ⟨rb, 1, none⟩ (.int .i64 ((at_ : Int) + 1)) = w1 at *
      have HC1 := Lib.hid hc1; have HK1 := Lib.hid hb1
      clear hc1 hb1
      have h30 := HK1.out.at_ (i := 0) rfl
      have h31 := HK1.out.at_ (i := 1) rfl
      have h33 := HK1.out.at_ (i := 2) rfl
      go_quiet (fail)
      go_upto_region 7 with fail
      have hcq : Blk (w1.drewN nq) rb 82 [.slice (some ⟨b, off, none⟩) n c, .int .i64 ((at_ : Int) + 1), .bool false] ∧ (w1.drewN nq).cell? ⟨b, off + at_, none⟩ = some (.string z) := ⟨HK1.out.drewN nq, hc2⟩
      have hmq : (w1.drewN nq).cell? ⟨0, 0, none⟩ = some (.int .i64 m) := hm2
      have hcq1 : Ch [rb] w (w1.drewN nq) := HC1.out.drewN nq
      clear HC1 HK1 hc2 hm2 h30 h31 h33
      generalize w1.drewN nq = w2 at *
      have HS0 := Lib.hid hcq; have HCQ := Lib.hid hcq1; have HMQ := Lib.hid hmq
      clear hcq hcq1 hmq
      have k0 := HS0.out.1.at_ (i := 0) rfl
      have k1 := HS0.out.1.at_ (i := 1) rfl
      have k2 := HS0.out.2
      have hmx : w2.drew.cell? ⟨0, 0, none⟩ = some (.int .i64 m) := HMQ.out
      go_region_with (go_at_call 36; refine (hspl _ hmx).mono ?_; rintro e wS ⟨rfl, rfl⟩)
      all_goals
        have hb4 : Blk ((w2.alloc (.cells (Value.string y :: tl.map Value.string).toArray 9)).drew) w2.heap.size 9 ((y :: tl).map Value.string) := (Blk.new w2 9 ((y :: tl).map Value.string)).drew
        have hr4 : Blk ((w2.alloc (.cells (Value.string y :: tl.map Value.string).toArray 9)).drew) rb 82 [.slice (some ⟨b, off, none⟩) n c, .int .i64 ((at_ : Int) + 1), .bool false] := (HS0.out.1.alloc _).drew
        have hc4 : Ch [rb] w ((w2.alloc (.cells (Value.string y :: tl.map Value.string).toArray 9)).drew) := (HCQ.out.alloc _).drew
        have hgr : w2.heap.size ≠ rb := by have := HS0.out.1.lt; omega
        have hc0 : w.heap.size ≤ w2.heap.size := HCQ.out.size
        generalize (w2.alloc (.cells (Value.string y :: tl.map Value.string).toArray 9)).drew = w4 at *
        generalize w2.heap.size = g at *
        have HG := Lib.hid hb4; have HR4 := Lib.hid hr4; have HC4 := Lib.hid hc4; have HSZ := Lib.hid hsw; have HHB := Lib.hid hb0g
        clear hb4 hr4 hc4 HS0 HCQ HMQ k0 k1 k2 hmx hsw hHB hb0g hws hspl
        have hi0 := fun w => idx_z g 0 (tl.length + 1) (tl.length + 1) 0 (by omega) w
        have hcl := fun w => cut_lo_z g (tl.length + 1) (tl.length + 1) 1 1 rfl (by omega) (Nat.le_refl _) w
        have p0 := HG.out.at_ (i := 0) (v := .string y) rfl
        have p1 := HR4.out.at_ (i := 2) rfl
        have f4 := HR4.out.frozen 2
        rcases (by
          by_cases h1 : y = word
          · by_cases h2 : tl.length + 1 < 2
            · exact Or.inr (Or.inl ⟨h1, h2⟩)
            · by_cases h3 : one = true
              · by_cases h4 : tl.length + 1 = 2
                · exact Or.inr (Or.inr (Or.inl ⟨h1, h3, h4⟩))
                · exact Or.inr (Or.inr (Or.inr (Or.inl ⟨h1, by omega, h3, h4⟩)))
              · exact Or.inr (Or.inr (Or.inr (Or.inr ⟨h1, by omega, by simpa using h3⟩)))
          · exact Or.inl h1 : y ≠ word ∨ (y = word ∧ tl.length + 1 < 2) ∨ (y = word ∧ one = true ∧ tl.length + 1 = 2) ∨ (y = word ∧ 2 ≤ tl.length + 1 ∧ one = true ∧ tl.length + 1 ≠ 2) ∨ (y = word ∧ 2 ≤ tl.length + 1 ∧ one = false)) with h1 | ⟨h1, h2'⟩ | ⟨h1, h3, h4⟩ | ⟨h1, h2', h3, h4⟩ | ⟨h1, h2', h3⟩
        · obtain rfl : B0 = true := by rw [← HHB.out, decide_eq_false h1]; rfl
          have hyw := str_ne h1
          try clear h2'
          try clear h4
          clear HHB h1
          go_wp2_with fail
          go_loopw [73, 8] (fun v v8 wr => ∃ (k : Nat) (A' : Option Addr) (c' : Nat), k ≤ tl.length ∧ v = .int .i64 (k : Int) ∧ v8 = .slice A' k c' ∧ wr.ownsRow w.heap.size 3 1 (.slice A' k c') k ((numsT (tl.take k)).map (Value.int .i64)) ∧ Blk wr rb 82 [.slice (some ⟨b, off, none⟩) n c, .int .i64 ((at_ : Int) + 1), .bool (true || (tl.take k).any noNum)] ∧ Blk wr g 9 ((y :: tl).map Value.string) ∧ Ch [rb] w wr) (fun v _ _ => tl.length - (intOf v).toNat)
          case atStart =>
            refine ⟨0, none, 0, by omega, rfl, rfl, ⟨rfl, Or.inl ⟨rfl, rfl⟩⟩, ?_, HG.out.far (by simpa using hgr) _, HC4.out.set (p := ⟨rb, 2, none⟩) (by simp) _⟩
            simpa using HR4.out.set_ 2 (.bool true)
          case round =>
            obtain ⟨k, A', c', hk, rfl, rfl, hown, hrd, hgb, hch⟩ := hrel
            by_cases hkl : k < tl.length
            · have hxk : tl[k]? = some tl[k] := List.getElem?_eq_getElem hkl
              have hcx := hgb.at_ (i := k + 1) (v := .string tl[k]) (by rw [List.map_cons, List.getElem?_cons_succ, List.getElem?_map, hxk]; rfl)
              have hcut2 : cutA g (tl.length + 1) 1 = some ⟨g, 1, none⟩ := by unfold cutA; rw [if_neg (by omega)]
              have hidk : ∀ w : World, (Instr.indexAt 78 (.slice (some ⟨g, 1, none⟩) (tl.length + 1 - 1) (tl.length + 1 - 1)) (.int .i64 (k : Int))).run Tryd.prog w = .ok (.pointer (some ⟨g, k + 1, none⟩)) w := fun w => by
                rw [Nat.add_comm k 1]; exact idx_z g 1 _ _ k (by omega) w
              have hnum := fun w => topo_number tl[k] (by have := HSZ.out _ (List.getElem_mem hkl); omega) w
              have hnn : numsT (tl.take (k + 1)) = numsT (tl.take k) ++ [(numT tl[k]).1] := by
                unfold numsT; rw [List.take_add_one, hxk, List.map_append]; rfl
              have han : (tl.take (k + 1)).any noNum = ((tl.take k).any noNum || !(numT tl[k]).2) := by
                rw [List.take_add_one, hxk, List.any_append]; simp [noNum]
              have HNN := Lib.hid hnn; have HAN := Lib.hid han; have HNU := Lib.hid hnum
              clear hnn han hnum hxk
              rw [hcut2]
              generalize numsT (tl.take k) = nl at *
              generalize (tl.take k).any noNum = bk at *
              generalize (numT tl[k]).1 = nv at *
              generalize (numT tl[k]).2 = nb at *
              generalize tl[k] = xk at *
              have hidk2 : ∀ w : World, (Instr.indexAt 78 (.slice (some ⟨g, 1, none⟩) tl.length tl.length) (.int .i64 (k : Int))).run Tryd.prog w = .ok (.pointer (some ⟨g, k + 1, none⟩)) w := fun w => by
                rw [Nat.add_comm k 1]; exact idx_z g 1 _ _ k (by omega) w
              have HRD := Lib.hid hrd; have HGB := Lib.hid hgb; have HCH := Lib.hid hch; have HOW := Lib.hid hown
              clear hrd hgb hch hown
              try rw [hcut2]
              go_wp2_with fail
              refine (HNU.out _).mono ?_; rintro e w5 ⟨rfl, hB5⟩
              have hrd5 := HRD.out.below hB5
              have HGB5 := Lib.hid (HGB.out.below hB5)
              have HCH5 := Lib.hid (HCH.out.trans (Ch.below hB5 [rb]))
              have HOW5 := Lib.hid (own_chV HOW.out (Ch.below hB5 []) (by simp))
              clear hB5 HRD HGB HCH HOW HNU hcx
              generalize hcb : (true || bk) = cb at *
              have j1 := hrd5.at_ (i := 2) rfl
              have j2 := hrd5.frozen 2
              have hset : ∀ v : Bool, Blk (w5.setCell ⟨rb, 2, none⟩ (.bool v)) rb 82 [.slice (some ⟨b, off, none⟩) n c, .int .i64 ((at_ : Int) + 1), .bool v] := fun v => hrd5.set_ 2 _
              have HST := Lib.hid hset
              clear hset hrd5
              have hlow := fun q (hq : (Value.slice A' k c').ownBlock = some q) => (HOW5.out.lt q hq).1
              have HLW := Lib.hid hlow
              clear hlow
              obtain rfl : cb = true := by rw [← hcb]; rfl
              · go_upto_region 15 with fail
                generalize hwz : w5.setCell ⟨rb, 2, none⟩ (.bool (true)) = w6 at *
                have hr6 := HST.out (true)
                rw [hwz] at hr6
                have hc6 : Ch [rb] w w6 := by rw [← hwz]; exact HCH5.out.set (p := ⟨rb, 2, none⟩) (by simp) _
                have hg6 : Blk w6 g 9 ((y :: tl).map Value.string) := by rw [← hwz]; exact HGB5.out.far (by simpa using hgr) _
                have ho6 : w6.ownsRow w.heap.size 3 1 (.slice A' k c') k (nl.map (Value.int .i64)) := by rw [← hwz]; exact own_chV HOW5.out ((Ch.refl [rb] w5).set (p := ⟨rb, 2, none⟩) (by simp) _) (fun q hq hm => by have := HLW.out q hq; simp at hm; omega)
                have HOK := Lib.hid (own_chV ho6 ((Ch.refl [] w6).alloc (.cells #[.int .i64 nv] 3)) (by simp))
                have HBK := Lib.hid (Blk.new w6 3 [.int .i64 nv])
                have HRK := Lib.hid (hr6.alloc (.cells #[.int .i64 nv] 3))
                have HGK := Lib.hid (hg6.alloc (.cells #[.int .i64 nv] 3))
                have HC7 := Lib.hid (hc6.alloc (.cells #[.int .i64 nv] 3))
                have HCB := Lib.hid hcb
                clear hr6 hc6 hg6 ho6 hwz hcb HST HGB5 HCH5 HOW5 j1 j2
                go_wp2_with (at_builtin; refine wpList_push _ rfl (.tmp 93) (.tmp 95) 23 rfl w.heap.size 3 (.int .i64 0) 8 Tryd.underlying23 info_intT rfl A' k c' (nl.map (Value.int .i64)) rfl HOK.out w6.heap.size 1 (.int .i64 nv) rfl (HBK.out.at_ rfl) rfl (by omega) (by omega) HC7.out.size ?_)
                intro g2 cap w8 ho8 hg8 hor8
                have hc8 : Ch (Value.slice A' k c').ownBlock.toList (w6.alloc (.cells #[.int .i64 nv] 3)) w8 := ch_grown hg8 (fun q hq => by rw [hq]; simp)
                have hr8 := HRK.out.ch hc8 (fun hq => by rw [Option.mem_toList] at hq; have := HLW.out _ hq; omega)
                have hg9 := HGK.out.ch hc8 (fun hq => by rw [Option.mem_toList] at hq; exact own_neV HOK.out HGK.out (by decide) hq)
                have hc9 := HC7.out.then_ hc8 (fun q hq => Or.inr (by rw [Option.mem_toList] at hq; exact HLW.out q hq))
                have HO8 := Lib.hid ho8; have HR8 := Lib.hid hr8; have HG9 := Lib.hid hg9; have HC9 := Lib.hid hc9
                clear ho8 hg8 hor8 hc8 hr8 hg9 hc9 HOK HBK HRK HGK HC7
                go_wp2_with fail
                go_roundw
                case rel => exact ⟨k + 1, _, _, by omega, by go_num, rfl, by rw [HNN.out, List.map_append]; exact HO8.out, by rw [HAN.out, ← Bool.or_assoc, HCB.out]; rw [Bool.true_or]; exact HR8.out, HG9.out, HC9.out⟩
                case measure => simp [intOf]; omega
            · obtain rfl : k = tl.length := by omega
              rw [List.take_of_length_le (Nat.le_refl _)] at hown hrd
              have hII := hown
              have hlN : (numsT tl).length = tl.length := by simp [numsT]
              have HII := Lib.hid hII; have HRD := Lib.hid hrd; have HCH := Lib.hid hch; have HLN := Lib.hid hlN
              clear hown hrd hgb hch hII hlN
              go_wp2_with fail
              go_ret
              exact ⟨⟨A', c', by rw [HLN.out]; rfl, by rw [HLN.out]; exact HII.out⟩, rd_of HRD.out, HCH.out⟩
        · obtain rfl : B0 = true := by rw [← HHB.out, decide_eq_true h1, decide_eq_true h2']; rfl
          have hyw := str_eq h1
          have hl2 : ((tl.length : Int) + 1 < 2) := by omega
          try clear h2'
          try clear h4
          clear HHB h1
          go_wp2_with fail
          go_loopw [73, 8] (fun v v8 wr => ∃ (k : Nat) (A' : Option Addr) (c' : Nat), k ≤ tl.length ∧ v = .int .i64 (k : Int) ∧ v8 = .slice A' k c' ∧ wr.ownsRow w.heap.size 3 1 (.slice A' k c') k ((numsT (tl.take k)).map (Value.int .i64)) ∧ Blk wr rb 82 [.slice (some ⟨b, off, none⟩) n c, .int .i64 ((at_ : Int) + 1), .bool (true || (tl.take k).any noNum)] ∧ Blk wr g 9 ((y :: tl).map Value.string) ∧ Ch [rb] w wr) (fun v _ _ => tl.length - (intOf v).toNat)
          case atStart =>
            refine ⟨0, none, 0, by omega, rfl, rfl, ⟨rfl, Or.inl ⟨rfl, rfl⟩⟩, ?_, HG.out.far (by simpa using hgr) _, HC4.out.set (p := ⟨rb, 2, none⟩) (by simp) _⟩
            simpa using HR4.out.set_ 2 (.bool true)
          case round =>
            obtain ⟨k, A', c', hk, rfl, rfl, hown, hrd, hgb, hch⟩ := hrel
            by_cases hkl : k < tl.length
            · exfalso; omega
            · obtain rfl : k = tl.length := by omega
              rw [List.take_of_length_le (Nat.le_refl _)] at hown hrd
              have hII := hown
              have hlN : (numsT tl).length = tl.length := by simp [numsT]
              have HII := Lib.hid hII; have HRD := Lib.hid hrd; have HCH := Lib.hid hch; have HLN := Lib.hid hlN
              clear hown hrd hgb hch hII hlN
              go_wp2_with fail
              go_ret
              exact ⟨⟨A', c', by rw [HLN.out]; rfl, by rw [HLN.out]; exact HII.out⟩, rd_of HRD.out, HCH.out⟩
        · obtain rfl : B0 = false := by rw [← HHB.out, decide_eq_true h1, decide_eq_false (show ¬ (tl.length + 1 < 2) by omega), h3, decide_eq_false (show ¬ (tl.length + 1 ≠ 2) by omega)]; rfl
          have hyw := str_eq h1
          have hl2 : ¬ ((tl.length : Int) + 1 < 2) := by omega
          have hl3 : ((tl.length : Int) + 1 != 2) = false := by rw [bne_eq_false_iff_eq]; omega
          subst h3
          try clear h2'
          try clear h4
          clear HHB h1
          go_wp2_with fail
          go_loopw [73, 8] (fun v v8 wr => ∃ (k : Nat) (A' : Option Addr) (c' : Nat), k ≤ tl.length ∧ v = .int .i64 (k : Int) ∧ v8 = .slice A' k c' ∧ wr.ownsRow w.heap.size 3 1 (.slice A' k c') k ((numsT (tl.take k)).map (Value.int .i64)) ∧ Blk wr rb 82 [.slice (some ⟨b, off, none⟩) n c, .int .i64 ((at_ : Int) + 1), .bool (false || (tl.take k).any noNum)] ∧ Blk wr g 9 ((y :: tl).map Value.string) ∧ Ch [rb] w wr) (fun v _ _ => tl.length - (intOf v).toNat)
          case atStart =>
            refine ⟨0, none, 0, by omega, rfl, rfl, ⟨rfl, Or.inl ⟨rfl, rfl⟩⟩, ?_, HG.out.far (by simpa using hgr) _, HC4.out.set (p := ⟨rb, 2, none⟩) (by simp) _⟩
            simpa using HR4.out.set_ 2 (.bool false)
          case round =>
            obtain ⟨k, A', c', hk, rfl, rfl, hown, hrd, hgb, hch⟩ := hrel
            by_cases hkl : k < tl.length
            · have hxk : tl[k]? = some tl[k] := List.getElem?_eq_getElem hkl
              have hcx := hgb.at_ (i := k + 1) (v := .string tl[k]) (by rw [List.map_cons, List.getElem?_cons_succ, List.getElem?_map, hxk]; rfl)
              have hcut2 : cutA g (tl.length + 1) 1 = some ⟨g, 1, none⟩ := by unfold cutA; rw [if_neg (by omega)]
              have hidk : ∀ w : World, (Instr.indexAt 78 (.slice (some ⟨g, 1, none⟩) (tl.length + 1 - 1) (tl.length + 1 - 1)) (.int .i64 (k : Int))).run Tryd.prog w = .ok (.pointer (some ⟨g, k + 1, none⟩)) w := fun w => by
                rw [Nat.add_comm k 1]; exact idx_z g 1 _ _ k (by omega) w
              have hnum := fun w => topo_number tl[k] (by have := HSZ.out _ (List.getElem_mem hkl); omega) w
              have hnn : numsT (tl.take (k + 1)) = numsT (tl.take k) ++ [(numT tl[k]).1] := by
                unfold numsT; rw [List.take_add_one, hxk, List.map_append]; rfl
              have han : (tl.take (k + 1)).any noNum = ((tl.take k).any noNum || !(numT tl[k]).2) := by
                rw [List.take_add_one, hxk, List.any_append]; simp [noNum]
              have HNN := Lib.hid hnn; have HAN := Lib.hid han; have HNU := Lib.hid hnum
              clear hnn han hnum hxk
              rw [hcut2]
              generalize numsT (tl.take k) = nl at *
              generalize (tl.take k).any noNum = bk at *
              generalize (numT tl[k]).1 = nv at *
              generalize (numT tl[k]).2 = nb at *
              generalize tl[k] = xk at *
              have hidk2 : ∀ w : World, (Instr.indexAt 78 (.slice (some ⟨g, 1, none⟩) tl.length tl.length) (.int .i64 (k : Int))).run Tryd.prog w = .ok (.pointer (some ⟨g, k + 1, none⟩)) w := fun w => by
                rw [Nat.add_comm k 1]; exact idx_z g 1 _ _ k (by omega) w
              have HRD := Lib.hid hrd; have HGB := Lib.hid hgb; have HCH := Lib.hid hch; have HOW := Lib.hid hown
              clear hrd hgb hch hown
              try rw [hcut2]
              go_wp2_with fail
              refine (HNU.out _).mono ?_; rintro e w5 ⟨rfl, hB5⟩
              have hrd5 := HRD.out.below hB5
              have HGB5 := Lib.hid (HGB.out.below hB5)
              have HCH5 := Lib.hid (HCH.out.trans (Ch.below hB5 [rb]))
              have HOW5 := Lib.hid (own_chV HOW.out (Ch.below hB5 []) (by simp))
              clear hB5 HRD HGB HCH HOW HNU hcx
              generalize hcb : (false || bk) = cb at *
              have j1 := hrd5.at_ (i := 2) rfl
              have j2 := hrd5.frozen 2
              have hset : ∀ v : Bool, Blk (w5.setCell ⟨rb, 2, none⟩ (.bool v)) rb 82 [.slice (some ⟨b, off, none⟩) n c, .int .i64 ((at_ : Int) + 1), .bool v] := fun v => hrd5.set_ 2 _
              have HST := Lib.hid hset
              clear hset hrd5
              have hlow := fun q (hq : (Value.slice A' k c').ownBlock = some q) => (HOW5.out.lt q hq).1
              have HLW := Lib.hid hlow
              clear hlow
              cases cb
              · go_upto_region 15 with fail
                generalize hwz : w5.setCell ⟨rb, 2, none⟩ (.bool (!nb)) = w6 at *
                have hr6 := HST.out (!nb)
                rw [hwz] at hr6
                have hc6 : Ch [rb] w w6 := by rw [← hwz]; exact HCH5.out.set (p := ⟨rb, 2, none⟩) (by simp) _
                have hg6 : Blk w6 g 9 ((y :: tl).map Value.string) := by rw [← hwz]; exact HGB5.out.far (by simpa using hgr) _
                have ho6 : w6.ownsRow w.heap.size 3 1 (.slice A' k c') k (nl.map (Value.int .i64)) := by rw [← hwz]; exact own_chV HOW5.out ((Ch.refl [rb] w5).set (p := ⟨rb, 2, none⟩) (by simp) _) (fun q hq hm => by have := HLW.out q hq; simp at hm; omega)
                have HOK := Lib.hid (own_chV ho6 ((Ch.refl [] w6).alloc (.cells #[.int .i64 nv] 3)) (by simp))
                have HBK := Lib.hid (Blk.new w6 3 [.int .i64 nv])
                have HRK := Lib.hid (hr6.alloc (.cells #[.int .i64 nv] 3))
                have HGK := Lib.hid (hg6.alloc (.cells #[.int .i64 nv] 3))
                have HC7 := Lib.hid (hc6.alloc (.cells #[.int .i64 nv] 3))
                have HCB := Lib.hid hcb
                clear hr6 hc6 hg6 ho6 hwz hcb HST HGB5 HCH5 HOW5 j1 j2
                go_wp2_with (at_builtin; refine wpList_push _ rfl (.tmp 93) (.tmp 95) 23 rfl w.heap.size 3 (.int .i64 0) 8 Tryd.underlying23 info_intT rfl A' k c' (nl.map (Value.int .i64)) rfl HOK.out w6.heap.size 1 (.int .i64 nv) rfl (HBK.out.at_ rfl) rfl (by omega) (by omega) HC7.out.size ?_)
                intro g2 cap w8 ho8 hg8 hor8
                have hc8 : Ch (Value.slice A' k c').ownBlock.toList (w6.alloc (.cells #[.int .i64 nv] 3)) w8 := ch_grown hg8 (fun q hq => by rw [hq]; simp)
                have hr8 := HRK.out.ch hc8 (fun hq => by rw [Option.mem_toList] at hq; have := HLW.out _ hq; omega)
                have hg9 := HGK.out.ch hc8 (fun hq => by rw [Option.mem_toList] at hq; exact own_neV HOK.out HGK.out (by decide) hq)
                have hc9 := HC7.out.then_ hc8 (fun q hq => Or.inr (by rw [Option.mem_toList] at hq; exact HLW.out q hq))
                have HO8 := Lib.hid ho8; have HR8 := Lib.hid hr8; have HG9 := Lib.hid hg9; have HC9 := Lib.hid hc9
                clear ho8 hg8 hor8 hc8 hr8 hg9 hc9 HOK HBK HRK HGK HC7
                go_wp2_with fail
                go_roundw
                case rel => exact ⟨k + 1, _, _, by omega, by go_num, rfl, by rw [HNN.out, List.map_append]; exact HO8.out, by rw [HAN.out, ← Bool.or_assoc, HCB.out]; rw [Bool.false_or]; exact HR8.out, HG9.out, HC9.out⟩
                case measure => simp [intOf]; omega
              · go_upto_region 15 with fail
                generalize hwz : w5.setCell ⟨rb, 2, none⟩ (.bool (true)) = w6 at *
                have hr6 := HST.out (true)
                rw [hwz] at hr6
                have hc6 : Ch [rb] w w6 := by rw [← hwz]; exact HCH5.out.set (p := ⟨rb, 2, none⟩) (by simp) _
                have hg6 : Blk w6 g 9 ((y :: tl).map Value.string) := by rw [← hwz]; exact HGB5.out.far (by simpa using hgr) _
                have ho6 : w6.ownsRow w.heap.size 3 1 (.slice A' k c') k (nl.map (Value.int .i64)) := by rw [← hwz]; exact own_chV HOW5.out ((Ch.refl [rb] w5).set (p := ⟨rb, 2, none⟩) (by simp) _) (fun q hq hm => by have := HLW.out q hq; simp at hm; omega)
                have HOK := Lib.hid (own_chV ho6 ((Ch.refl [] w6).alloc (.cells #[.int .i64 nv] 3)) (by simp))
                have HBK := Lib.hid (Blk.new w6 3 [.int .i64 nv])
                have HRK := Lib.hid (hr6.alloc (.cells #[.int .i64 nv] 3))
                have HGK := Lib.hid (hg6.alloc (.cells #[.int .i64 nv] 3))
                have HC7 := Lib.hid (hc6.alloc (.cells #[.int .i64 nv] 3))
                have HCB := Lib.hid hcb
                clear hr6 hc6 hg6 ho6 hwz hcb HST HGB5 HCH5 HOW5 j1 j2
                go_wp2_with (at_builtin; refine wpList_push _ rfl (.tmp 93) (.tmp 95) 23 rfl w.heap.size 3 (.int .i64 0) 8 Tryd.underlying23 info_intT rfl A' k c' (nl.map (Value.int .i64)) rfl HOK.out w6.heap.size 1 (.int .i64 nv) rfl (HBK.out.at_ rfl) rfl (by omega) (by omega) HC7.out.size ?_)
                intro g2 cap w8 ho8 hg8 hor8
                have hc8 : Ch (Value.slice A' k c').ownBlock.toList (w6.alloc (.cells #[.int .i64 nv] 3)) w8 := ch_grown hg8 (fun q hq => by rw [hq]; simp)
                have hr8 := HRK.out.ch hc8 (fun hq => by rw [Option.mem_toList] at hq; have := HLW.out _ hq; omega)
                have hg9 := HGK.out.ch hc8 (fun hq => by rw [Option.mem_toList] at hq; exact own_neV HOK.out HGK.out (by decide) hq)
                have hc9 := HC7.out.then_ hc8 (fun q hq => Or.inr (by rw [Option.mem_toList] at hq; exact HLW.out q hq))
                have HO8 := Lib.hid ho8; have HR8 := Lib.hid hr8; have HG9 := Lib.hid hg9; have HC9 := Lib.hid hc9
                clear ho8 hg8 hor8 hc8 hr8 hg9 hc9 HOK HBK HRK HGK HC7
                go_wp2_with fail
                go_roundw
                case rel => exact ⟨k + 1, _, _, by omega, by go_num, rfl, by rw [HNN.out, List.map_append]; exact HO8.out, by rw [HAN.out, ← Bool.or_assoc, HCB.out]; rw [Bool.true_or]; exact HR8.out, HG9.out, HC9.out⟩
                case measure => simp [intOf]; omega
            · obtain rfl : k = tl.length := by omega
              rw [List.take_of_length_le (Nat.le_refl _)] at hown hrd
              have hII := hown
              have hlN : (numsT tl).length = tl.length := by simp [numsT]
              have HII := Lib.hid hII; have HRD := Lib.hid hrd; have HCH := Lib.hid hch; have HLN := Lib.hid hlN
              clear hown hrd hgb hch hII hlN
              go_wp2_with fail
              go_ret
              exact ⟨⟨A', c', by rw [HLN.out]; rfl, by rw [HLN.out]; exact HII.out⟩, rd_of HRD.out, HCH.out⟩
        · obtain rfl : B0 = true := by rw [← HHB.out, decide_eq_true h1, decide_eq_false (show ¬ (tl.length + 1 < 2) by omega), h3, decide_eq_true h4]; rfl
          have hyw := str_eq h1
          have hl2 : ¬ ((tl.length : Int) + 1 < 2) := by omega
          have hl3 : ((tl.length : Int) + 1 != 2) = true := by rw [bne_iff_ne]; omega
          subst h3
          try clear h2'
          try clear h4
          clear HHB h1
          go_wp2_with fail
          go_loopw [73, 8] (fun v v8 wr => ∃ (k : Nat) (A' : Option Addr) (c' : Nat), k ≤ tl.length ∧ v = .int .i64 (k : Int) ∧ v8 = .slice A' k c' ∧ wr.ownsRow w.heap.size 3 1 (.slice A' k c') k ((numsT (tl.take k)).map (Value.int .i64)) ∧ Blk wr rb 82 [.slice (some ⟨b, off, none⟩) n c, .int .i64 ((at_ : Int) + 1), .bool (true || (tl.take k).any noNum)] ∧ Blk wr g 9 ((y :: tl).map Value.string) ∧ Ch [rb] w wr) (fun v _ _ => tl.length - (intOf v).toNat)
          case atStart =>
            refine ⟨0, none, 0, by omega, rfl, rfl, ⟨rfl, Or.inl ⟨rfl, rfl⟩⟩, ?_, HG.out.far (by simpa using hgr) _, HC4.out.set (p := ⟨rb, 2, none⟩) (by simp) _⟩
            simpa using HR4.out.set_ 2 (.bool true)
          case round =>
            obtain ⟨k, A', c', hk, rfl, rfl, hown, hrd, hgb, hch⟩ := hrel
            by_cases hkl : k < tl.length
            · have hxk : tl[k]? = some tl[k] := List.getElem?_eq_getElem hkl
              have hcx := hgb.at_ (i := k + 1) (v := .string tl[k]) (by rw [List.map_cons, List.getElem?_cons_succ, List.getElem?_map, hxk]; rfl)
              have hcut2 : cutA g (tl.length + 1) 1 = some ⟨g, 1, none⟩ := by unfold cutA; rw [if_neg (by omega)]
              have hidk : ∀ w : World, (Instr.indexAt 78 (.slice (some ⟨g, 1, none⟩) (tl.length + 1 - 1) (tl.length + 1 - 1)) (.int .i64 (k : Int))).run Tryd.prog w = .ok (.pointer (some ⟨g, k + 1, none⟩)) w := fun w => by
                rw [Nat.add_comm k 1]; exact idx_z g 1 _ _ k (by omega) w
              have hnum := fun w => topo_number tl[k] (by have := HSZ.out _ (List.getElem_mem hkl); omega) w
              have hnn : numsT (tl.take (k + 1)) = numsT (tl.take k) ++ [(numT tl[k]).1] := by
                unfold numsT; rw [List.take_add_one, hxk, List.map_append]; rfl
              have han : (tl.take (k + 1)).any noNum = ((tl.take k).any noNum || !(numT tl[k]).2) := by
                rw [List.take_add_one, hxk, List.any_append]; simp [noNum]
              have HNN := Lib.hid hnn; have HAN := Lib.hid han; have HNU := Lib.hid hnum
              clear hnn han hnum hxk
              rw [hcut2]
              generalize numsT (tl.take k) = nl at *
              generalize (tl.take k).any noNum = bk at *
              generalize (numT tl[k]).1 = nv at *
              generalize (numT tl[k]).2 = nb at *
              generalize tl[k] = xk at *
              have hidk2 : ∀ w : World, (Instr.indexAt 78 (.slice (some ⟨g, 1, none⟩) tl.length tl.length) (.int .i64 (k : Int))).run Tryd.prog w = .ok (.pointer (some ⟨g, k + 1, none⟩)) w := fun w => by
                rw [Nat.add_comm k 1]; exact idx_z g 1 _ _ k (by omega) w
              have HRD := Lib.hid hrd; have HGB := Lib.hid hgb; have HCH := Lib.hid hch; have HOW := Lib.hid hown
              clear hrd hgb hch hown
              try rw [hcut2]
              go_wp2_with fail
              refine (HNU.out _).mono ?_; rintro e w5 ⟨rfl, hB5⟩
              have hrd5 := HRD.out.below hB5
              have HGB5 := Lib.hid (HGB.out.below hB5)
              have HCH5 := Lib.hid (HCH.out.trans (Ch.below hB5 [rb]))
              have HOW5 := Lib.hid (own_chV HOW.out (Ch.below hB5 []) (by simp))
              clear hB5 HRD HGB HCH HOW HNU hcx
              generalize hcb : (true || bk) = cb at *
              have j1 := hrd5.at_ (i := 2) rfl
              have j2 := hrd5.frozen 2
              have hset : ∀ v : Bool, Blk (w5.setCell ⟨rb, 2, none⟩ (.bool v)) rb 82 [.slice (some ⟨b, off, none⟩) n c, .int .i64 ((at_ : Int) + 1), .bool v] := fun v => hrd5.set_ 2 _
              have HST := Lib.hid hset
              clear hset hrd5
              have hlow := fun q (hq : (Value.slice A' k c').ownBlock = some q) => (HOW5.out.lt q hq).1
              have HLW := Lib.hid hlow
              clear hlow
              obtain rfl : cb = true := by rw [← hcb]; rfl
              · go_upto_region 15 with fail
                generalize hwz : w5.setCell ⟨rb, 2, none⟩ (.bool (true)) = w6 at *
                have hr6 := HST.out (true)
                rw [hwz] at hr6
                have hc6 : Ch [rb] w w6 := by rw [← hwz]; exact HCH5.out.set (p := ⟨rb, 2, none⟩) (by simp) _
                have hg6 : Blk w6 g 9 ((y :: tl).map Value.string) := by rw [← hwz]; exact HGB5.out.far (by simpa using hgr) _
                have ho6 : w6.ownsRow w.heap.size 3 1 (.slice A' k c') k (nl.map (Value.int .i64)) := by rw [← hwz]; exact own_chV HOW5.out ((Ch.refl [rb] w5).set (p := ⟨rb, 2, none⟩) (by simp) _) (fun q hq hm => by have := HLW.out q hq; simp at hm; omega)
                have HOK := Lib.hid (own_chV ho6 ((Ch.refl [] w6).alloc (.cells #[.int .i64 nv] 3)) (by simp))
                have HBK := Lib.hid (Blk.new w6 3 [.int .i64 nv])
                have HRK := Lib.hid (hr6.alloc (.cells #[.int .i64 nv] 3))
                have HGK := Lib.hid (hg6.alloc (.cells #[.int .i64 nv] 3))
                have HC7 := Lib.hid (hc6.alloc (.cells #[.int .i64 nv] 3))
                have HCB := Lib.hid hcb
                clear hr6 hc6 hg6 ho6 hwz hcb HST HGB5 HCH5 HOW5 j1 j2
                go_wp2_with (at_builtin; refine wpList_push _ rfl (.tmp 93) (.tmp 95) 23 rfl w.heap.size 3 (.int .i64 0) 8 Tryd.underlying23 info_intT rfl A' k c' (nl.map (Value.int .i64)) rfl HOK.out w6.heap.size 1 (.int .i64 nv) rfl (HBK.out.at_ rfl) rfl (by omega) (by omega) HC7.out.size ?_)
                intro g2 cap w8 ho8 hg8 hor8
                have hc8 : Ch (Value.slice A' k c').ownBlock.toList (w6.alloc (.cells #[.int .i64 nv] 3)) w8 := ch_grown hg8 (fun q hq => by rw [hq]; simp)
                have hr8 := HRK.out.ch hc8 (fun hq => by rw [Option.mem_toList] at hq; have := HLW.out _ hq; omega)
                have hg9 := HGK.out.ch hc8 (fun hq => by rw [Option.mem_toList] at hq; exact own_neV HOK.out HGK.out (by decide) hq)
                have hc9 := HC7.out.then_ hc8 (fun q hq => Or.inr (by rw [Option.mem_toList] at hq; exact HLW.out q hq))
                have HO8 := Lib.hid ho8; have HR8 := Lib.hid hr8; have HG9 := Lib.hid hg9; have HC9 := Lib.hid hc9
                clear ho8 hg8 hor8 hc8 hr8 hg9 hc9 HOK HBK HRK HGK HC7
                go_wp2_with fail
                go_roundw
                case rel => exact ⟨k + 1, _, _, by omega, by go_num, rfl, by rw [HNN.out, List.map_append]; exact HO8.out, by rw [HAN.out, ← Bool.or_assoc, HCB.out]; rw [Bool.true_or]; exact HR8.out, HG9.out, HC9.out⟩
                case measure => simp [intOf]; omega
            · obtain rfl : k = tl.length := by omega
              rw [List.take_of_length_le (Nat.le_refl _)] at hown hrd
              have hII := hown
              have hlN : (numsT tl).length = tl.length := by simp [numsT]
              have HII := Lib.hid hII; have HRD := Lib.hid hrd; have HCH := Lib.hid hch; have HLN := Lib.hid hlN
              clear hown hrd hgb hch hII hlN
              go_wp2_with fail
              go_ret
              exact ⟨⟨A', c', by rw [HLN.out]; rfl, by rw [HLN.out]; exact HII.out⟩, rd_of HRD.out, HCH.out⟩
        · obtain rfl : B0 = false := by rw [← HHB.out, decide_eq_true h1, decide_eq_false (show ¬ (tl.length + 1 < 2) by omega), h3]; rfl
          have hyw := str_eq h1
          have hl2 : ¬ ((tl.length : Int) + 1 < 2) := by omega
          subst h3
          try clear h2'
          try clear h4
          clear HHB h1
          go_wp2_with fail
          go_loopw [73, 8] (fun v v8 wr => ∃ (k : Nat) (A' : Option Addr) (c' : Nat), k ≤ tl.length ∧ v = .int .i64 (k : Int) ∧ v8 = .slice A' k c' ∧ wr.ownsRow w.heap.size 3 1 (.slice A' k c') k ((numsT (tl.take k)).map (Value.int .i64)) ∧ Blk wr rb 82 [.slice (some ⟨b, off, none⟩) n c, .int .i64 ((at_ : Int) + 1), .bool (false || (tl.take k).any noNum)] ∧ Blk wr g 9 ((y :: tl).map Value.string) ∧ Ch [rb] w wr) (fun v _ _ => tl.length - (intOf v).toNat)
          case atStart =>
            refine ⟨0, none, 0, by omega, rfl, rfl, ⟨rfl, Or.inl ⟨rfl, rfl⟩⟩, ?_, HG.out.far (by simpa using hgr) _, HC4.out.set (p := ⟨rb, 2, none⟩) (by simp) _⟩
            simpa using HR4.out.set_ 2 (.bool false)
          case round =>
            obtain ⟨k, A', c', hk, rfl, rfl, hown, hrd, hgb, hch⟩ := hrel
            by_cases hkl : k < tl.length
            · have hxk : tl[k]? = some tl[k] := List.getElem?_eq_getElem hkl
              have hcx := hgb.at_ (i := k + 1) (v := .string tl[k]) (by rw [List.map_cons, List.getElem?_cons_succ, List.getElem?_map, hxk]; rfl)
              have hcut2 : cutA g (tl.length + 1) 1 = some ⟨g, 1, none⟩ := by unfold cutA; rw [if_neg (by omega)]
              have hidk : ∀ w : World, (Instr.indexAt 78 (.slice (some ⟨g, 1, none⟩) (tl.length + 1 - 1) (tl.length + 1 - 1)) (.int .i64 (k : Int))).run Tryd.prog w = .ok (.pointer (some ⟨g, k + 1, none⟩)) w := fun w => by
                rw [Nat.add_comm k 1]; exact idx_z g 1 _ _ k (by omega) w
              have hnum := fun w => topo_number tl[k] (by have := HSZ.out _ (List.getElem_mem hkl); omega) w
              have hnn : numsT (tl.take (k + 1)) = numsT (tl.take k) ++ [(numT tl[k]).1] := by
                unfold numsT; rw [List.take_add_one, hxk, List.map_append]; rfl
              have han : (tl.take (k + 1)).any noNum = ((tl.take k).any noNum || !(numT tl[k]).2) := by
                rw [List.take_add_one, hxk, List.any_append]; simp [noNum]
              have HNN := Lib.hid hnn; have HAN := Lib.hid han; have HNU := Lib.hid hnum
              clear hnn han hnum hxk
              rw [hcut2]
              generalize numsT (tl.take k) = nl at *
              generalize (tl.take k).any noNum = bk at *
              generalize (numT tl[k]).1 = nv at *
              generalize (numT tl[k]).2 = nb at *
              generalize tl[k] = xk at *
              have hidk2 : ∀ w : World, (Instr.indexAt 78 (.slice (some ⟨g, 1, none⟩) tl.length tl.length) (.int .i64 (k : Int))).run Tryd.prog w = .ok (.pointer (some ⟨g, k + 1, none⟩)) w := fun w => by
                rw [Nat.add_comm k 1]; exact idx_z g 1 _ _ k (by omega) w
              have HRD := Lib.hid hrd; have HGB := Lib.hid hgb; have HCH := Lib.hid hch; have HOW := Lib.hid hown
              clear hrd hgb hch hown
              try rw [hcut2]
              go_wp2_with fail
              refine (HNU.out _).mono ?_; rintro e w5 ⟨rfl, hB5⟩
              have hrd5 := HRD.out.below hB5
              have HGB5 := Lib.hid (HGB.out.below hB5)
              have HCH5 := Lib.hid (HCH.out.trans (Ch.below hB5 [rb]))
              have HOW5 := Lib.hid (own_chV HOW.out (Ch.below hB5 []) (by simp))
              clear hB5 HRD HGB HCH HOW HNU hcx
              generalize hcb : (false || bk) = cb at *
              have j1 := hrd5.at_ (i := 2) rfl
              have j2 := hrd5.frozen 2
              have hset : ∀ v : Bool, Blk (w5.setCell ⟨rb, 2, none⟩ (.bool v)) rb 82 [.slice (some ⟨b, off, none⟩) n c, .int .i64 ((at_ : Int) + 1), .bool v] := fun v => hrd5.set_ 2 _
              have HST := Lib.hid hset
              clear hset hrd5
              have hlow := fun q (hq : (Value.slice A' k c').ownBlock = some q) => (HOW5.out.lt q hq).1
              have HLW := Lib.hid hlow
              clear hlow
              cases cb
              · go_upto_region 15 with fail
                generalize hwz : w5.setCell ⟨rb, 2, none⟩ (.bool (!nb)) = w6 at *
                have hr6 := HST.out (!nb)
                rw [hwz] at hr6
                have hc6 : Ch [rb] w w6 := by rw [← hwz]; exact HCH5.out.set (p := ⟨rb, 2, none⟩) (by simp) _
                have hg6 : Blk w6 g 9 ((y :: tl).map Value.string) := by rw [← hwz]; exact HGB5.out.far (by simpa using hgr) _
                have ho6 : w6.ownsRow w.heap.size 3 1 (.slice A' k c') k (nl.map (Value.int .i64)) := by rw [← hwz]; exact own_chV HOW5.out ((Ch.refl [rb] w5).set (p := ⟨rb, 2, none⟩) (by simp) _) (fun q hq hm => by have := HLW.out q hq; simp at hm; omega)
                have HOK := Lib.hid (own_chV ho6 ((Ch.refl [] w6).alloc (.cells #[.int .i64 nv] 3)) (by simp))
                have HBK := Lib.hid (Blk.new w6 3 [.int .i64 nv])
                have HRK := Lib.hid (hr6.alloc (.cells #[.int .i64 nv] 3))
                have HGK := Lib.hid (hg6.alloc (.cells #[.int .i64 nv] 3))
                have HC7 := Lib.hid (hc6.alloc (.cells #[.int .i64 nv] 3))
                have HCB := Lib.hid hcb
                clear hr6 hc6 hg6 ho6 hwz hcb HST HGB5 HCH5 HOW5 j1 j2
                go_wp2_with (at_builtin; refine wpList_push _ rfl (.tmp 93) (.tmp 95) 23 rfl w.heap.size 3 (.int .i64 0) 8 Tryd.underlying23 info_intT rfl A' k c' (nl.map (Value.int .i64)) rfl HOK.out w6.heap.size 1 (.int .i64 nv) rfl (HBK.out.at_ rfl) rfl (by omega) (by omega) HC7.out.size ?_)
                intro g2 cap w8 ho8 hg8 hor8
                have hc8 : Ch (Value.slice A' k c').ownBlock.toList (w6.alloc (.cells #[.int .i64 nv] 3)) w8 := ch_grown hg8 (fun q hq => by rw [hq]; simp)
                have hr8 := HRK.out.ch hc8 (fun hq => by rw [Option.mem_toList] at hq; have := HLW.out _ hq; omega)
                have hg9 := HGK.out.ch hc8 (fun hq => by rw [Option.mem_toList] at hq; exact own_neV HOK.out HGK.out (by decide) hq)
                have hc9 := HC7.out.then_ hc8 (fun q hq => Or.inr (by rw [Option.mem_toList] at hq; exact HLW.out q hq))
                have HO8 := Lib.hid ho8; have HR8 := Lib.hid hr8; have HG9 := Lib.hid hg9; have HC9 := Lib.hid hc9
                clear ho8 hg8 hor8 hc8 hr8 hg9 hc9 HOK HBK HRK HGK HC7
                go_wp2_with fail
                go_roundw
                case rel => exact ⟨k + 1, _, _, by omega, by go_num, rfl, by rw [HNN.out, List.map_append]; exact HO8.out, by rw [HAN.out, ← Bool.or_assoc, HCB.out]; rw [Bool.false_or]; exact HR8.out, HG9.out, HC9.out⟩
                case measure => simp [intOf]; omega
              · go_upto_region 15 with fail
                generalize hwz : w5.setCell ⟨rb, 2, none⟩ (.bool (true)) = w6 at *
                have hr6 := HST.out (true)
                rw [hwz] at hr6
                have hc6 : Ch [rb] w w6 := by rw [← hwz]; exact HCH5.out.set (p := ⟨rb, 2, none⟩) (by simp) _
                have hg6 : Blk w6 g 9 ((y :: tl).map Value.string) := by rw [← hwz]; exact HGB5.out.far (by simpa using hgr) _
                have ho6 : w6.ownsRow w.heap.size 3 1 (.slice A' k c') k (nl.map (Value.int .i64)) := by rw [← hwz]; exact own_chV HOW5.out ((Ch.refl [rb] w5).set (p := ⟨rb, 2, none⟩) (by simp) _) (fun q hq hm => by have := HLW.out q hq; simp at hm; omega)
                have HOK := Lib.hid (own_chV ho6 ((Ch.refl [] w6).alloc (.cells #[.int .i64 nv] 3)) (by simp))
                have HBK := Lib.hid (Blk.new w6 3 [.int .i64 nv])
                have HRK := Lib.hid (hr6.alloc (.cells #[.int .i64 nv] 3))
                have HGK := Lib.hid (hg6.alloc (.cells #[.int .i64 nv] 3))
                have HC7 := Lib.hid (hc6.alloc (.cells #[.int .i64 nv] 3))
                have HCB := Lib.hid hcb
                clear hr6 hc6 hg6 ho6 hwz hcb HST HGB5 HCH5 HOW5 j1 j2
                go_wp2_with (at_builtin; refine wpList_push _ rfl (.tmp 93) (.tmp 95) 23 rfl w.heap.size 3 (.int .i64 0) 8 Tryd.underlying23 info_intT rfl A' k c' (nl.map (Value.int .i64)) rfl HOK.out w6.heap.size 1 (.int .i64 nv) rfl (HBK.out.at_ rfl) rfl (by omega) (by omega) HC7.out.size ?_)
                intro g2 cap w8 ho8 hg8 hor8
                have hc8 : Ch (Value.slice A' k c').ownBlock.toList (w6.alloc (.cells #[.int .i64 nv] 3)) w8 := ch_grown hg8 (fun q hq => by rw [hq]; simp)
                have hr8 := HRK.out.ch hc8 (fun hq => by rw [Option.mem_toList] at hq; have := HLW.out _ hq; omega)
                have hg9 := HGK.out.ch hc8 (fun hq => by rw [Option.mem_toList] at hq; exact own_neV HOK.out HGK.out (by decide) hq)
                have hc9 := HC7.out.then_ hc8 (fun q hq => Or.inr (by rw [Option.mem_toList] at hq; exact HLW.out q hq))
                have HO8 := Lib.hid ho8; have HR8 := Lib.hid hr8; have HG9 := Lib.hid hg9; have HC9 := Lib.hid hc9
                clear ho8 hg8 hor8 hc8 hr8 hg9 hc9 HOK HBK HRK HGK HC7
                go_wp2_with fail
                go_roundw
                case rel => exact ⟨k + 1, _, _, by omega, by go_num, rfl, by rw [HNN.out, List.map_append]; exact HO8.out, by rw [HAN.out, ← Bool.or_assoc, HCB.out]; rw [Bool.true_or]; exact HR8.out, HG9.out, HC9.out⟩
                case measure => simp [intOf]; omega
            · obtain rfl : k = tl.length := by omega
              rw [List.take_of_length_le (Nat.le_refl _)] at hown hrd
              have hII := hown
              have hlN : (numsT tl).length = tl.length := by simp [numsT]
              have HII := Lib.hid hII; have HRD := Lib.hid hrd; have HCH := Lib.hid hch; have HLN := Lib.hid hlN
              clear hown hrd hgb hch hII hlN
              go_wp2_with fail
              go_ret
              exact ⟨⟨A', c', by rw [HLN.out]; rfl, by rw [HLN.out]; exact HII.out⟩, rd_of HRD.out, HCH.out⟩
end Go.Proofs.YtbgnaohjcfbaaaaDoor
