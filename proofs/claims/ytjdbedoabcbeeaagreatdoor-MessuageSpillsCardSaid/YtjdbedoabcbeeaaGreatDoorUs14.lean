/- Parts of the proof: Frames3, Frames4, Frames5, MemPure. -/
import Derived.Test.YtjdbedoabcbeeaaGreatDoorUs13
import Derived.OwnWalk
import Derived.Laws.BytesArg
import Derived.Lib.SlBytesConst
import Derived.Deep.MidRow
/- Package frames (layer 5): New, Node, First. -/
namespace Go.Proofs.YtjdbedoabcbeeaaGreatDoor
open Go.RowKit
set_option linter.unusedVariables false
set_option linter.unusedSimpArgs false
attribute [local go_sem] World.cell?_alloc_lt

theorem Blk.of_own_wide {w : World} {base : Nat} {e : TypeId} {g n s : Nat} {xs : List Value} (h : w.ownsRow base e s (.slice (some ⟨g, 0, none⟩) n n) n xs) : Blk w g e xs := by
  rcases h.2 with ⟨h0, _⟩ | ⟨g', cap, cur, hv, _, hh, _, _, hsz, ht⟩
  · cases h0
  · injection hv with ha _ hc
    injection ha with ha
    injection ha with ha
    subst ha hc
    unfold Blk
    rw [hh, ← ht, List.take_of_length_le (by simp [hsz])]
def zFrame : Value := .agg (List.replicate 64 (Value.int .u8 0)).toArray
theorem made_same (k : Nat) (v : Value) (hk : 0 < k) (n : Nat) : (madeCells (List.replicate k v).toArray n).toList = List.replicate n v := by
  apply List.ext_getElem?
  intro i
  by_cases h : i < n
  · have hm : i % k < k := Nat.mod_lt _ hk
    simp [madeCells, h, hm]
  · simp [madeCells, h]
theorem made_frames (n : Nat) : (madeCells zFrame.cells n).toList = List.replicate n (Value.int .u8 0) := made_same 64 _ (by decide) n
theorem info_frame : (Tryz.prog.info? 190).map (fun i => (i.zero, i.size, i.bytes)) = some (some zFrame, 64, 64) := by kernel_rfl
/-- make([]frame, n). -/
theorem wpList_make_frames (w : World) {ops : Array Oper} {rest : List Oper} {o : Oper} {a : Act} {Q : Exit → Act → World → Prop}
    (hg : o.guard = none) (l c : Operand) (hop : o.op = Op.makeSlice 149 l c)
    (kl kc : IntKind) (L C : Int) (n : Nat) (hl : a.eval l = .int kl L) (hc : a.eval c = .int kc C) (hL : L = (n : Int)) (hC : C = (n : Int)) (b2 : n ≤ 8192)
    (hK : ∀ w', Blk w' w.heap.size 190 (List.replicate (n * 64) (Value.int .u8 0)) → w.grownBy w' none → wpList Tryz.prog ops Q rest (a.put o.dst (.slice (some ⟨w.heap.size, 0, none⟩) n n)) w') :
    wpList Tryz.prog ops Q (o :: rest) a w := by
  obtain ⟨i0, hi, hz0, hz1, hz2⟩ := info_parts info_frame
  refine wpList_make_full w hg l c 149 hop w.heap.size 190 i0 zFrame 64 Tryz.underlying149 hi hz0 hz1 kl kc L C n hl hc hL hC (by rw [hz2]; omega) (by unfold maxLen; omega) (Nat.le_refl _) ?_
  intro w' h1 h2
  have hd := Blk.of_own_wide h1
  rw [made_frames] at hd
  exact hK w' hd h2
set_option maxRecDepth 100000 in
theorem fr_new (nodes each : Nat) (w : World) (h1 : 1 ≤ nodes) (h2 : nodes ≤ 8) (h3 : 1 ≤ each) (h4 : each ≤ 1024) :
    Calls Tryz.prog 44 #[.int .i64 nodes, .int .i64 each] w fun e w' => ∃ g b, e = .returned (.tuple #[.pointer (some ⟨g, 0, none⟩), .int .i64 0]) ∧ w.heap.size ≤ g ∧ w.heap.size ≤ b ∧ StoreAt w' g b each (nodes * each) (List.replicate (nodes * each * 64) 0) ∧ Below w.heap.size w w' := by
  have hle : nodes * each ≤ 8192 := Nat.le_trans (Nat.mul_le_mul h2 h4) (by decide)
  have hm : (nodes : Int) * (each : Int) = ((nodes * each : Nat) : Int) := by simp
  generalize hn : nodes * each = n at *
  have HN := Lib.hid hn; clear hn
  have m0 : (0 : Int) ≤ (nodes : Int) * (each : Int) := by omega
  have m1 : (nodes : Int) * (each : Int) ≤ 8192 := by omega
  have HM := Lib.hid hm; clear hm
  go_enter Tryz.func44, Tryz.ntmps44
  go_wp2_with (at_make; refine wpList_make_frames _ rfl _ _ rfl _ _ _ _ n rfl rfl HM.out HM.out hle ?_)
  intro w1 hd hgr
  have hb : Below w.heap.size w w1 := (Below.refl _ _).grown hgr (Nat.le_refl _) (fun k h => by cases h)
  go_wp2
  go_ret2
  refine ⟨w1.heap.size, w.heap.size, rfl, hb.size, Nat.le_refl _, ⟨Blk.new _ _ _, ?_, by simp, hle, h3, h4⟩, bel_alloc hb _⟩
  rw [List.map_replicate]; exact hd.alloc _
set_option maxRecDepth 100000 in
theorem fr_node (g b each nf : Nat) (bs : List Int) (n : Nat) (w : World) (hG : StoreAt w g b each nf bs) (hn : n < nf) :
    Calls Tryz.prog 36 #[.pointer (some ⟨g, 0, none⟩), .int .i64 n] w fun e w' => e = .returned (.tuple #[.int .i64 ((n / each : Nat) : Int), .int .i64 0]) ∧ w = w' := by
  have k0 := hG.st.at_ (i := 0) rfl
  have he1 := hG.e1
  have he0 : (each : Int) ≠ 0 := by omega
  have hmx := hG.mx
  have hq : wrap64 ((n : Int) / (each : Int)) = ((n / each : Nat) : Int) := by
    have : n / each ≤ n := Nat.div_le_self _ _
    rw [← Int.natCast_ediv]
    generalize n / each = q at *
    exact wrap64_small (by omega) (by omega)
  have HQ := Lib.hid hq; clear hq
  go_enter Tryz.func36, Tryz.ntmps36
  go_wp2_with fail
  refine (fr_frame g b each nf bs n w hG hn).mono ?_; rintro e w1 ⟨rfl, rfl⟩
  go_wp2_with fail
  go_ret2
  rw [← HQ.out]
  exact ⟨rfl, rfl⟩
end Go.Proofs.YtjdbedoabcbeeaaGreatDoor
/- Package frames (layer 5): Len; the law's own 'holds'. -/
namespace Go.Proofs.YtjdbedoabcbeeaaGreatDoor
open Go.RowKit
set_option linter.unusedVariables false
set_option linter.unusedSimpArgs false
attribute [local go_sem] World.cell?_alloc_lt

theorem fr_len (g b each nf : Nat) (bs : List Int) (w : World) (hG : StoreAt w g b each nf bs) : Calls Tryz.prog 145 #[.pointer (some ⟨g, 0, none⟩)] w fun e w' => e = .returned (.int .i64 nf) ∧ w = w' := by
  have k1 := hG.st.at_ (i := 1) rfl
  clear hG
  go_enter Tryz.func145, Tryz.ntmps145
  go_wp2_with fail
  go_ret
  exact ⟨rfl, rfl⟩
/-- The text of a row of the call's own bytes. -/
theorem text_own {w : World} {base h c m : Nat} {xs : List Int} (hl : xs.length = m) (hown : w.ownsRow base 5 1 (.slice (some ⟨h, 0, none⟩) m c) m (xs.map (Value.int .u8))) :
    (convert 42 9 (.slice (some ⟨h, 0, none⟩) m c)).run Tryz.prog w = .ok (.string (strOfNums xs)) w := by
  refine run_convert_bytes_arg w 42 5 Tryz.underlying42 Tryz.underlying5 h 0 m c xs hl ?_ 9 Tryz.underlying9
  intro i hi
  obtain ⟨g, hA, hc, _⟩ := own_at hown (map_at (f := Value.int .u8) (show i < xs.length by omega) 0)
  injection hA with hA
  injection hA with hA
  subst hA
  rw [Nat.zero_add]
  exact hc
end Go.Proofs.YtjdbedoabcbeeaaGreatDoor
/- Package frames (layer 5): Copy, Clear; Save of whatever bytes; texts of incoming bytes. -/
namespace Go.Proofs.YtjdbedoabcbeeaaGreatDoor
open Go.RowKit
set_option linter.unusedVariables false
set_option linter.unusedSimpArgs false
attribute [local go_sem] World.cell?_alloc_lt

/-- A frame's bytes. -/
def frBs (bs : List Int) (n : Nat) : List Int := (bs.drop (n * 64)).take 64
theorem frBs_len {bs : List Int} {n nf : Nat} (hl : bs.length = nf * 64) (hn : n < nf) : (frBs bs n).length = 64 := by
  unfold frBs
  rw [List.length_take, List.length_drop]
  omega
theorem info_frame_size : (Tryz.prog.info? 190).map (·.size) = some 64 := by kernel_rfl
theorem bytes_one (l : List Int) : (l.map (Value.int .u8)).toArray.all (·.oneCell') = true :=
  all_oneCell_toArray (by intro u hu; obtain ⟨z, _, rfl⟩ := List.mem_map.1 hu; rfl)
/-- The store behind a frame that is written whole. -/
theorem store_put {w : World} {g b each nf : Nat} {bs us : List Int} {m : Nat} (hG : StoreAt w g b each nf bs) (hm : m < nf) (hu : us.length = 64) :
    StoreAt (w.setCells b (m * 64) (us.map (Value.int .u8))) g b each nf (putL bs (m * 64) us) ∧ Ch [b] w (w.setCells b (m * 64) (us.map (Value.int .u8))) := by
  obtain ⟨hb2, hch⟩ := Blk.setCells (us.map (Value.int .u8)) _ (m * 64) w hG.dt
  refine ⟨⟨hG.st.ch hch (by simpa using (hG.st.ne_ hG.dt (by decide))), ?_, by rw [putL_len]; exact hG.ln, hG.mx, hG.e1, hG.e2⟩, hch⟩
  rw [putL_map]
  exact hb2
/-- Loads a frame whole. -/
theorem wpList_load_frame (w : World) {ops : Array Oper} {rest : List Oper} {o : Oper} {a : Act} {Q : Exit → Act → World → Prop} (hgd : o.guard = none) (x : Operand) (ho : o.op = .load 190 x)
    {g b each nf : Nat} {bs : List Int} (n : Nat) (hG : StoreAt w g b each nf bs) (hn : n < nf) (hx : a.eval x = .pointer (some ⟨b, n * 64, none⟩))
    (h : wpList Tryz.prog ops Q rest (a.put o.dst (.agg ((frBs bs n).map (Value.int .u8)).toArray)) w) : wpList Tryz.prog ops Q (o :: rest) a w := by
  have hr := blk_range hG.dt (n * 64) 64
  rw [← List.map_drop, ← List.map_take] at hr
  exact wpList_load_mid hgd 190 x ho b (n * 64) hx _ _ hr Tryz.underlying190 rfl (by rw [info_frame_size, List.length_map]; exact congrArg some (frBs_len hG.ln hn).symm) h
theorem wpList_store_frame (w : World) {ops : Array Oper} {rest : List Oper} {o : Oper} {a : Act} {Q : Exit → Act → World → Prop} (hgd : o.guard = none) (x y : Operand) (ho : o.op = .store 190 x y)
    {g b each nf : Nat} {bs us : List Int} (m : Nat) (hG : StoreAt w g b each nf bs) (hm : m < nf) (hu : us.length = 64) (hx : a.eval x = .pointer (some ⟨b, m * 64, none⟩)) (hy : a.eval y = .agg (us.map (Value.int .u8)).toArray)
    (h : ∀ w', StoreAt w' g b each nf (putL bs (m * 64) us) → Ch [b] w w' → wpList Tryz.prog ops Q rest (a.put o.dst undef) w') : wpList Tryz.prog ops Q (o :: rest) a w := by
  have hs := store_put hG hm hu
  refine wpList_store_mid hgd 190 x y ho b (m * 64) _ hx hy ?_ (by rw [info_frame_size]; simp [hu]) (bytes_one _) ?_
  · exact blk_there hG.dt _ _ (by have := hG.ln; simp [hu]; omega)
  · exact h _ hs.1 hs.2
def zeros64 : List Int := List.replicate 64 0
theorem zeros64_len : zeros64.length = 64 := by unfold zeros64; simp
set_option maxRecDepth 100000 in
theorem fr_clear (g b each nf : Nat) (bs : List Int) (n : Nat) (w : World) (hG : StoreAt w g b each nf bs) (hn : n < nf) :
    Calls Tryz.prog 86 #[.pointer (some ⟨g, 0, none⟩), .int .i64 n] w fun e w' => e = .returned (.int .i64 0) ∧ StoreAt w' g b each nf (putL bs (n * 64) zeros64) ∧ Ch [b] w w' := by
  have HG := Lib.hid hG; clear hG
  go_enter Tryz.func86, Tryz.ntmps86
  go_wp2_with fail
  refine (fr_frame g b each nf bs n w HG.out hn).mono ?_; rintro e w1 ⟨rfl, rfl⟩
  go_wp2_with (with_reducible refine wpList_store_frame _ rfl _ _ rfl n HG.out hn zeros64_len rfl rfl ?_)
  intro w1 hG1 hc1
  go_wp2
  go_ret
  exact ⟨rfl, hG1, hc1⟩
theorem fr_clear_no (g b each nf : Nat) (bs : List Int) (n : Int) (w : World) (hG : StoreAt w g b each nf bs) (hn : n < 0 ∨ (nf : Int) ≤ n) :
    Calls Tryz.prog 86 #[.pointer (some ⟨g, 0, none⟩), .int .i64 n] w fun e w' => e = .returned (.int .i64 1) ∧ w = w' := by
  go_enter Tryz.func86, Tryz.ntmps86
  go_wp2_with fail
  refine (fr_frame_no g b each nf bs n w hG hn).mono ?_; rintro e w1 ⟨rfl, rfl⟩
  go_wp2_with fail
  go_ret
  exact ⟨rfl, rfl⟩
/-- Bytes that came in, nil and empty let in. -/
structure InB (w : World) (a : Option Addr) (n : Nat) (us : List Int) : Prop where
  ln : us.length = n
  at_ : 0 < n → ∃ b off, a = some ⟨b, off, none⟩ ∧ b < w.heap.size ∧ ∀ j u, us[j]? = some u → w.cell? ⟨b, off + j, none⟩ = some (.int .u8 u)
theorem InB.below {w w' : World} {a : Option Addr} {n : Nat} {us : List Int} (h : InB w a n us) (k : Below w.heap.size w w') : InB w' a n us :=
  ⟨h.ln, fun hn => by
    obtain ⟨b, off, e, hb, hc⟩ := h.at_ hn
    exact ⟨b, off, e, Nat.lt_of_lt_of_le hb k.size, fun j u hu => (k.cell (p := ⟨b, off + j, none⟩) hb).trans (hc j u hu)⟩⟩
theorem InB.take {w : World} {a : Option Addr} {len n : Nat} {zs : List Int} (h : InInts .u8 w a len zs) (hn : n ≤ len) : InB w a n (zs.take n) :=
  ⟨by rw [List.length_take, h.ln]; omega, fun h0 => by
    obtain ⟨b, off, e, hb, hc⟩ := h.at_ (by omega)
    refine ⟨b, off, e, hb, fun j u hj => ?_⟩
    rw [List.getElem?_take] at hj
    split at hj
    · rename_i hjn
      have := hc j (by omega)
      rw [List.getD_eq_getElem?_getD, hj] at this
      exact this
    · cases hj⟩
theorem text_in {w : World} {a : Option Addr} {n c : Nat} {us : List Int} (h : InB w a n us) :
    (convert 42 9 (.slice a n c)).run Tryz.prog w = .ok (.string (strOfNums us)) w := by
  cases a with
  | none =>
    have h0 : n = 0 := by
      rcases Nat.eq_zero_or_pos n with e | e
      · exact e
      · obtain ⟨b, off, e, _⟩ := h.at_ e; cases e
    subst h0
    obtain rfl : us = [] := List.eq_nil_of_length_eq_zero h.ln
    exact run_convert_bytes_nil w 42 5 Tryz.underlying42 Tryz.underlying5 0 c 9 Tryz.underlying9
  | some x =>
    rcases Nat.eq_zero_or_pos n with e | e
    · subst e
      obtain rfl : us = [] := List.eq_nil_of_length_eq_zero h.ln
      rw [run_convert_bytes_string w 42 9 5 _ 0 c Tryz.underlying42 Tryz.underlying5 Tryz.underlying9]
      have hl : (loadCells x 0).run Tryz.prog w = .ok #[] w := by simpa using run_loadCells_list (P := Tryz.prog) w x [] (by simp)
      rw [run_bytesToString w x 0 c [] hl, foldl_push_bytes]
      simp [strOfNums, ByteArray.empty, ByteArray.emptyWithCapacity]
      rfl
    · obtain ⟨b, off, ha, _, hc⟩ := h.at_ e
      obtain rfl : x = ⟨b, off, none⟩ := Option.some.inj ha
      refine run_convert_bytes_arg w 42 5 Tryz.underlying42 Tryz.underlying5 b off n c us h.ln ?_ 9 Tryz.underlying9
      intro i hi
      refine hc i _ ?_
      rw [List.getD_eq_getElem?_getD, List.getElem?_eq_getElem (by rw [h.ln]; exact hi)]
      rfl
set_option maxRecDepth 100000 in
theorem fr_save_none (g b each nf : Nat) (bs : List Int) (n at_ : Nat) (a : Option Addr) (mc : Nat) (w : World) (hG : StoreAt w g b each nf bs) (hn : n < nf) (hat : at_ ≤ 64) :
    Calls Tryz.prog 63 #[.pointer (some ⟨g, 0, none⟩), .int .i64 n, .int .i64 at_, .slice a 0 mc] w fun e w' => e = .returned (.int .i64 0) ∧ w = w' := by
  have hcp := run_copy_none (P := Tryz.prog) w 42 42 3 5 (some ⟨b, partAt (n * 64) at_, none⟩) a 0 (64 - at_) 0 mc Tryz.underlying42 (by kernel_rfl) (by simp)
  go_enter Tryz.func63, Tryz.ntmps63
  go_wp2_with fail
  refine (fr_part g b each nf bs n at_ 0 w hG hn (by omega)).mono ?_; rintro e w1 ⟨rfl, rfl⟩
  clear hG
  go_wp2_with fail
  go_ret
  exact ⟨rfl, rfl⟩
set_option maxRecDepth 100000 in
theorem fr_save_in (g b each nf : Nat) (bs : List Int) (n at_ : Nat) (a : Option Addr) (m mc : Nat) (us : List Int) (w : World) (hG : StoreAt w g b each nf bs) (hn : n < nf) (hat : at_ + m ≤ 64) (hI : InB w a m us) :
    Calls Tryz.prog 63 #[.pointer (some ⟨g, 0, none⟩), .int .i64 n, .int .i64 at_, .slice a m mc] w fun e w' => e = .returned (.int .i64 0) ∧ StoreAt w' g b each nf (putL bs (n * 64 + at_) us) ∧ Ch [b] w w' := by
  rcases Nat.eq_zero_or_pos m with e | e
  · subst e
    obtain rfl : us = [] := List.eq_nil_of_length_eq_zero hI.ln
    refine Calls.mono ?_ (fun e w' (h : e = .returned (.int .i64 0) ∧ w = w') => ?_)
    · exact fr_save_none g b each nf bs n at_ a mc w hG hn (by omega)
    · obtain ⟨h1, rfl⟩ := h
      exact ⟨h1, hG, Ch.refl _ _⟩
  · obtain ⟨bx, off, rfl, hbx, hc⟩ := hI.at_ e
    exact fr_save g b each nf bs n at_ bx off m mc us hI.ln w hG hn hat hc
end Go.Proofs.YtjdbedoabcbeeaaGreatDoor
/- Bytes by their virtual addresses, as plain mathematics. -/
namespace Go.Proofs.YtjdbedoabcbeeaaGreatDoor
open Go.RowKit
set_option linter.unusedVariables false
set_option linter.unusedSimpArgs false

/-- The frame of a page. -/
def frOf (mt : List (Int × Int)) (p : Nat) : Nat := ((mget mt (p : Int)).getD 0).toNat
/-- Where the byte at an address lies. -/
def posN (mt : List (Int × Int)) (a : Nat) : Nat := frOf mt (a / 64) * 64 + a % 64
def wrB (mt : List (Int × Int)) : List Int → Nat → List Int → List Int
  | bs, _, [] => bs
  | bs, a, u :: us => wrB mt (bs.set (posN mt a) u) (a + 1) us
def rdB (mt : List (Int × Int)) (bs : List Int) (a n : Nat) : List Int := (List.range n).map fun i => bs.getD (posN mt (a + i)) 0
/-- Each page has a frame of its own. -/
structure Fair (nf : Nat) (mt mf : List (Int × Int)) : Prop where
  fr : ∀ (p f : Int), mget mt p = some f → 0 ≤ f ∧ f < (nf : Int)
  io : ∀ (p f : Int), mget mt p = some f ↔ mget mf f = some p
def mapped (mt : List (Int × Int)) (p : Nat) : Prop := (mget mt (p : Int)).isSome = true
section
variable {nf : Nat} {mt mf : List (Int × Int)}
theorem Fair.at_ (h : Fair nf mt mf) {p : Nat} (hm : mapped mt p) : mget mt (p : Int) = some (frOf mt p : Int) ∧ frOf mt p < nf := by
  unfold mapped at hm
  cases hf : mget mt (p : Int) with
  | none => rw [hf] at hm; cases hm
  | some f =>
    have := h.fr _ _ hf
    unfold frOf
    rw [hf, Option.getD_some]
    exact ⟨by rw [show ((f.toNat : Nat) : Int) = f by omega], by omega⟩
theorem Fair.inj (h : Fair nf mt mf) {p q : Nat} (hp : mapped mt p) (hq : mapped mt q) (he : frOf mt p = frOf mt q) : p = q := by
  have h1 := (h.io _ _).1 (h.at_ hp).1
  have h2 := (h.io _ _).1 (h.at_ hq).1
  rw [he, h2] at h1
  injection h1 with h1
  omega
theorem posM_lt (h : Fair nf mt mf) {a : Nat} (hm : mapped mt (a / 64)) : posN mt a < nf * 64 := by
  have := (h.at_ hm).2
  unfold posN
  omega
theorem posM_inj (h : Fair nf mt mf) {a b : Nat} (ha : mapped mt (a / 64)) (hb : mapped mt (b / 64)) (he : posN mt a = posN mt b) : a = b := by
  unfold posN at he
  have h1 : frOf mt (a / 64) = frOf mt (b / 64) := by omega
  have h2 := h.inj ha hb h1
  omega
theorem pos_in {a i : Nat} (h : a % 64 + i < 64) : posN mt (a + i) = posN mt a + i := by
  unfold posN
  rw [show (a + i) / 64 = a / 64 by omega]
  omega
theorem wrB_len (us : List Int) : ∀ (bs : List Int) (a : Nat), (wrB mt bs a us).length = bs.length := by
  induction us with
  | nil => intro bs a; rfl
  | cons u us ih => intro bs a; rw [wrB, ih, List.length_set]
theorem wrB_far (us : List Int) : ∀ (bs : List Int) (a q : Nat), (∀ i, i < us.length → posN mt (a + i) ≠ q) → (wrB mt bs a us)[q]? = bs[q]? := by
  induction us with
  | nil => intro bs a q h; rfl
  | cons u us ih =>
    intro bs a q h
    rw [wrB, ih _ _ _ (fun i hi => by
      have := h (i + 1) (by simp; omega)
      rw [show a + (i + 1) = a + 1 + i by omega] at this
      exact this), List.getElem?_set_ne (by have := h 0 (by simp); rw [Nat.add_zero] at this; exact this)]
theorem wrB_at (hF : Fair nf mt mf) (us : List Int) : ∀ (bs : List Int) (a : Nat), bs.length = nf * 64 → (∀ i, i < us.length → mapped mt ((a + i) / 64)) → ∀ i, i < us.length → (wrB mt bs a us)[posN mt (a + i)]? = us[i]? := by
  induction us with
  | nil => intro bs a hl h i hi; simp at hi
  | cons u us ih =>
    intro bs a hl h i hi
    have hm := fun i (hi : i < us.length) => (show a + 1 + i = a + (i + 1) by omega) ▸ h (i + 1) (by simp; omega)
    have h0 : mapped mt (a / 64) := h 0 (by simp)
    cases i with
    | zero =>
      rw [wrB, wrB_far _ _ _ _ (fun j hj => by
        intro he
        have := posM_inj hF (hm j hj) h0 he
        omega), Nat.add_zero, List.getElem?_set_self (by rw [hl]; exact posM_lt hF h0)]
      rfl
    | succ i =>
      rw [wrB, show a + (i + 1) = a + 1 + i by omega, ih _ _ (by rw [List.length_set]; exact hl) hm i (by simpa using hi)]
      rfl
theorem wrB_append (us vs : List Int) : ∀ (bs : List Int) (a : Nat), wrB mt bs a (us ++ vs) = wrB mt (wrB mt bs a us) (a + us.length) vs := by
  induction us with
  | nil => intro bs a; rfl
  | cons u us ih => intro bs a; rw [List.cons_append, wrB, wrB, ih, List.length_cons, show a + 1 + us.length = a + (us.length + 1) by omega]
/-- Within one page: one stretch of bytes. -/
theorem wrB_page (us : List Int) : ∀ (bs : List Int) (a : Nat), a % 64 + us.length ≤ 64 → wrB mt bs a us = putL bs (posN mt a) us := by
  induction us with
  | nil => intro bs a h; rfl
  | cons u us ih =>
    intro bs a h
    rw [wrB, putL]
    cases us with
    | nil => rfl
    | cons v vs =>
      simp only [List.length_cons] at h
      rw [ih _ _ (by simp only [List.length_cons]; omega), pos_in (by omega)]
theorem rdB_len (bs : List Int) (a n : Nat) : (rdB mt bs a n).length = n := by unfold rdB; simp
theorem rdB_at (bs : List Int) (a n i : Nat) : (rdB mt bs a n)[i]? = if i < n then some (bs.getD (posN mt (a + i)) 0) else none := by
  by_cases hi : i < n
  · rw [if_pos hi]
    unfold rdB
    rw [List.getElem?_map, List.getElem?_range hi]
    rfl
  · rw [if_neg hi]
    exact List.getElem?_eq_none (by rw [rdB_len]; omega)
theorem rdB_append (bs : List Int) (a n m : Nat) : rdB mt bs a (n + m) = rdB mt bs a n ++ rdB mt bs (a + n) m := by
  unfold rdB
  rw [List.range_add, List.map_append, List.map_map]
  congr 1
  apply List.map_congr_left
  intro i _
  simp [Nat.add_assoc]
theorem rdB_page (bs : List Int) (a n : Nat) (h : a % 64 + n ≤ 64) (hl : posN mt a + n ≤ bs.length) : rdB mt bs a n = (bs.drop (posN mt a)).take n := by
  apply List.ext_getElem?
  intro i
  rw [rdB_at]
  by_cases hi : i < n
  · rw [if_pos hi, List.getElem?_take, if_pos hi, List.getElem?_drop, pos_in (by omega), List.getD_eq_getElem?_getD, List.getElem?_eq_getElem (show posN mt a + i < bs.length by omega)]
    rfl
  · rw [if_neg hi, List.getElem?_take, if_neg hi]
/-- What was written is read. -/
theorem rd_wr (hF : Fair nf mt mf) (bs us : List Int) (a : Nat) (hl : bs.length = nf * 64) (hm : ∀ i, i < us.length → mapped mt ((a + i) / 64)) (k n : Nat) (hk : k + n ≤ us.length) : rdB mt (wrB mt bs a us) (a + k) n = (us.drop k).take n := by
  apply List.ext_getElem?
  intro i
  rw [rdB_at]
  by_cases hi : i < n
  · rw [if_pos hi, List.getElem?_take, if_pos hi, List.getElem?_drop, List.getD_eq_getElem?_getD, show a + k + i = a + (k + i) by omega, wrB_at hF us bs a hl hm (k + i) (by omega), List.getElem?_eq_getElem (show k + i < us.length by omega)]
    rfl
  · rw [if_neg hi, List.getElem?_take, if_neg hi]
end
/-- Pieces of bytes, page by page, from an address to another one. -/
def Cov (mt : List (Int × Int)) : Nat → List (Nat × Nat × Nat) → Nat → Prop
  | a, [], e => e = a
  | a, p :: ps, e => mapped mt (a / 64) ∧ p.1 = frOf mt (a / 64) ∧ p.2.1 = a % 64 ∧ 1 ≤ p.2.2 ∧ a % 64 + p.2.2 ≤ 64 ∧ Cov mt (a + p.2.2) ps e
theorem cov_snoc (mt : List (Int × Int)) (s : Nat) : ∀ (P : List (Nat × Nat × Nat)) (a e : Nat), Cov mt a P e → mapped mt (e / 64) → 1 ≤ s → e % 64 + s ≤ 64 → Cov mt a (P ++ [(frOf mt (e / 64), e % 64, s)]) (e + s) := by
  intro P
  induction P with
  | nil => intro a e h hm h1 h2; simp only [Cov] at h; subst h; exact ⟨hm, rfl, rfl, h1, h2, rfl⟩
  | cons p ps ih => intro a e h hm h1 h2; exact ⟨h.1, h.2.1, h.2.2.1, h.2.2.2.1, h.2.2.2.2.1, ih _ _ h.2.2.2.2.2 hm h1 h2⟩
theorem cov_le (mt : List (Int × Int)) : ∀ (P : List (Nat × Nat × Nat)) (a e : Nat), Cov mt a P e → a + P.length ≤ e := by
  intro P
  induction P with
  | nil => intro a e h; simp only [Cov] at h; simp; omega
  | cons p ps ih => intro a e h; have := ih _ _ h.2.2.2.2.2; have := h.2.2.2.1; simp; omega
theorem cov_take (mt : List (Int × Int)) : ∀ (P : List (Nat × Nat × Nat)) (a e i : Nat), Cov mt a P e → i < P.length → ∃ c p, Cov mt a (P.take i) c ∧ P[i]? = some p ∧ mapped mt (c / 64) ∧ p.1 = frOf mt (c / 64) ∧ p.2.1 = c % 64 ∧ 1 ≤ p.2.2 ∧ c % 64 + p.2.2 ≤ 64 ∧ Cov mt a (P.take (i + 1)) (c + p.2.2) ∧ c + p.2.2 ≤ e ∧ a ≤ c := by
  intro P
  induction P with
  | nil => intro a e i h hi; simp at hi
  | cons p ps ih =>
    intro a e i h hi
    cases i with
    | zero =>
      have := cov_le mt ps _ _ h.2.2.2.2.2
      exact ⟨a, p, rfl, rfl, h.1, h.2.1, h.2.2.1, h.2.2.2.1, h.2.2.2.2.1, ⟨h.1, h.2.1, h.2.2.1, h.2.2.2.1, h.2.2.2.2.1, rfl⟩, by omega, Nat.le_refl _⟩
    | succ i =>
      obtain ⟨c, q, h1, h2, h3, h4, h5, h6, h7, h8, h9, h10⟩ := ih _ _ i h.2.2.2.2.2 (by simpa using hi)
      exact ⟨c, q, ⟨h.1, h.2.1, h.2.2.1, h.2.2.2.1, h.2.2.2.2.1, h1⟩, by simpa using h2, h3, h4, h5, h6, h7, ⟨h.1, h.2.1, h.2.2.1, h.2.2.2.1, h.2.2.2.2.1, h8⟩, h9, by have := h.2.2.2.1; omega⟩
theorem cov_fun (mt : List (Int × Int)) : ∀ (P : List (Nat × Nat × Nat)) (a e e' : Nat), Cov mt a P e → Cov mt a P e' → e = e' := by
  intro P
  induction P with
  | nil => intro a e e' h h'; simp only [Cov] at h h'; omega
  | cons p ps ih => intro a e e' h h'; exact ih _ _ _ h.2.2.2.2.2 h'.2.2.2.2.2
end Go.Proofs.YtjdbedoabcbeeaaGreatDoor
