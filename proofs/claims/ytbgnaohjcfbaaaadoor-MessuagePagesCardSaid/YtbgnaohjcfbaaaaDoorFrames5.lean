/- Package frames (layer 5): Copy, Clear; Save of whatever bytes; texts of incoming bytes. -/
import Derived.Test.YtbgnaohjcfbaaaaDoorFrames4
import Derived.Deep.MidRow
namespace Go.Proofs.YtbgnaohjcfbaaaaDoor
open Go.RowKit
set_option linter.unusedVariables false
set_option linter.unusedSimpArgs false
attribute [local go_sem] World.cell?_alloc_lt

/-- A frame's bytes. -/
def frBs (bs : List Int) (n : Nat) : List Int := (bs.drop (n * 64)).take 64
theorem frBs_len {bs : List Int} {n nf : Nat} (hl : bs.length = nf * 64) (hn : n < nf) : (frBs bs n).length = 64 := by
  unfold frBs
  rw [List.length_take, List.length_drop]
  omega
theorem info_frame_size : (Tryd.prog.info? 103).map (·.size) = some 64 := by kernel_rfl
theorem bytes_one (l : List Int) : (l.map (Value.int .u8)).toArray.all (·.oneCell') = true :=
  all_oneCell_toArray (by intro u hu; obtain ⟨z, _, rfl⟩ := List.mem_map.1 hu; rfl)
/-- The store behind a frame that is written whole. -/
theorem store_put {w : World} {g b each nf : Nat} {bs us : List Int} {m : Nat} (hG : StoreAt w g b each nf bs) (hm : m < nf) (hu : us.length = 64) :
    StoreAt (w.setCells b (m * 64) (us.map (Value.int .u8))) g b each nf (putL bs (m * 64) us) ∧ Ch [b] w (w.setCells b (m * 64) (us.map (Value.int .u8))) := by
  obtain ⟨hb2, hch⟩ := Blk.setCells (us.map (Value.int .u8)) _ (m * 64) w hG.dt
  refine ⟨⟨hG.st.ch hch (by simpa using (hG.st.ne_ hG.dt (by decide))), ?_, by rw [putL_len]; exact hG.ln, hG.mx, hG.e1, hG.e2⟩, hch⟩
  rw [putL_map]
  exact hb2
/-- Loads a frame whole. -/
theorem wpList_load_frame (w : World) {ops : Array Oper} {rest : List Oper} {o : Oper} {a : Act} {Q : Exit → Act → World → Prop} (hgd : o.guard = none) (x : Operand) (ho : o.op = .load 103 x)
    {g b each nf : Nat} {bs : List Int} (n : Nat) (hG : StoreAt w g b each nf bs) (hn : n < nf) (hx : a.eval x = .pointer (some ⟨b, n * 64, none⟩))
    (h : wpList Tryd.prog ops Q rest (a.put o.dst (.agg ((frBs bs n).map (Value.int .u8)).toArray)) w) : wpList Tryd.prog ops Q (o :: rest) a w := by
  have hr := blk_range hG.dt (n * 64) 64
  rw [← List.map_drop, ← List.map_take] at hr
  exact wpList_load_mid hgd 103 x ho b (n * 64) hx _ _ hr Tryd.underlying103 rfl (by rw [info_frame_size, List.length_map]; exact congrArg some (frBs_len hG.ln hn).symm) h
theorem wpList_store_frame (w : World) {ops : Array Oper} {rest : List Oper} {o : Oper} {a : Act} {Q : Exit → Act → World → Prop} (hgd : o.guard = none) (x y : Operand) (ho : o.op = .store 103 x y)
    {g b each nf : Nat} {bs us : List Int} (m : Nat) (hG : StoreAt w g b each nf bs) (hm : m < nf) (hu : us.length = 64) (hx : a.eval x = .pointer (some ⟨b, m * 64, none⟩)) (hy : a.eval y = .agg (us.map (Value.int .u8)).toArray)
    (h : ∀ w', StoreAt w' g b each nf (putL bs (m * 64) us) → Ch [b] w w' → wpList Tryd.prog ops Q rest (a.put o.dst undef) w') : wpList Tryd.prog ops Q (o :: rest) a w := by
  have hs := store_put hG hm hu
  refine wpList_store_mid hgd 103 x y ho b (m * 64) _ hx hy ?_ (by rw [info_frame_size]; simp [hu]) (bytes_one _) ?_
  · exact blk_there hG.dt _ _ (by have := hG.ln; simp [hu]; omega)
  · exact h _ hs.1 hs.2
set_option maxRecDepth 100000 in
theorem fr_copy (g b each nf : Nat) (bs : List Int) (n m : Nat) (w : World) (hG : StoreAt w g b each nf bs) (hn : n < nf) (hm : m < nf) :
    Calls Tryd.prog 30 #[.pointer (some ⟨g, 0, none⟩), .int .i64 n, .int .i64 m] w fun e w' => e = .returned (.int .i64 0) ∧ StoreAt w' g b each nf (putL bs (m * 64) (frBs bs n)) ∧ Ch [b] w w' := by
  have hl := frBs_len hG.ln hn
  have HL := Lib.hid hl; clear hl
  have HG := Lib.hid hG; clear hG
  go_enter Tryd.func30, Tryd.ntmps30
  go_wp2_with fail
  refine (fr_frame g b each nf bs n w HG.out hn).mono ?_; rintro e w1 ⟨rfl, rfl⟩
  go_wp2_with fail
  refine (fr_frame g b each nf bs m w HG.out hm).mono ?_; rintro e w1 ⟨rfl, rfl⟩
  go_wp2_with (first | (with_reducible refine wpList_load_frame _ rfl _ rfl n HG.out hn rfl ?_) | (with_reducible refine wpList_store_frame _ rfl _ _ rfl m HG.out hm HL.out rfl rfl ?_))
  intro w1 hG1 hc1
  go_wp2
  go_ret
  exact ⟨rfl, hG1, hc1⟩
theorem fr_copy_from (g b each nf : Nat) (bs : List Int) (n m : Int) (w : World) (hG : StoreAt w g b each nf bs) (hn : n < 0 ∨ (nf : Int) ≤ n) :
    Calls Tryd.prog 30 #[.pointer (some ⟨g, 0, none⟩), .int .i64 n, .int .i64 m] w fun e w' => e = .returned (.int .i64 1) ∧ w = w' := by
  go_enter Tryd.func30, Tryd.ntmps30
  go_wp2_with fail
  refine (fr_frame_no g b each nf bs n w hG hn).mono ?_; rintro e w1 ⟨rfl, rfl⟩
  go_wp2_with fail
  go_ret
  exact ⟨rfl, rfl⟩
theorem fr_copy_to (g b each nf : Nat) (bs : List Int) (n : Nat) (m : Int) (w : World) (hG : StoreAt w g b each nf bs) (hn : n < nf) (hm : m < 0 ∨ (nf : Int) ≤ m) :
    Calls Tryd.prog 30 #[.pointer (some ⟨g, 0, none⟩), .int .i64 n, .int .i64 m] w fun e w' => e = .returned (.int .i64 1) ∧ w = w' := by
  go_enter Tryd.func30, Tryd.ntmps30
  go_wp2_with fail
  refine (fr_frame g b each nf bs n w hG hn).mono ?_; rintro e w1 ⟨rfl, rfl⟩
  go_wp2_with fail
  refine (fr_frame_no g b each nf bs m w hG hm).mono ?_; rintro e w1 ⟨rfl, rfl⟩
  go_wp2_with fail
  go_ret
  exact ⟨rfl, rfl⟩
/-- Bytes that came in, nil and empty let in. -/
structure InB (w : World) (a : Option Addr) (n : Nat) (us : List Int) : Prop where
  ln : us.length = n
  at_ : 0 < n → ∃ b off, a = some ⟨b, off, none⟩ ∧ b < w.heap.size ∧ ∀ j u, us[j]? = some u → w.cell? ⟨b, off + j, none⟩ = some (.int .u8 u)
theorem InB.below {w w' : World} {a : Option Addr} {n : Nat} {us : List Int} (h : InB w a n us) (k : Below w.heap.size w w') : InB w' a n us :=
  ⟨h.ln, fun hn => by
    obtain ⟨b, off, e, hb, hc⟩ := h.at_ hn
    exact ⟨b, off, e, Nat.lt_of_lt_of_le hb k.size, fun j u hu => (k.cell (p := ⟨b, off + j, none⟩) hb).trans (hc j u hu)⟩⟩
theorem InB.take {w : World} {a : Option Addr} {len n : Nat} {zs : List Int} (h : InInts .u8 w a len zs) (hn : n ≤ len) : InB w a n (zs.take n) :=
  ⟨by rw [List.length_take, h.ln]; omega, fun h0 => by
    obtain ⟨b, off, e, hb, hc⟩ := h.at_ (by omega)
    refine ⟨b, off, e, hb, fun j u hj => ?_⟩
    rw [List.getElem?_take] at hj
    split at hj
    · rename_i hjn
      have := hc j (by omega)
      rw [List.getD_eq_getElem?_getD, hj] at this
      exact this
    · cases hj⟩
theorem text_in {w : World} {a : Option Addr} {n c : Nat} {us : List Int} (h : InB w a n us) :
    (convert 34 9 (.slice a n c)).run Tryd.prog w = .ok (.string (strOfNums us)) w := by
  cases a with
  | none =>
    have h0 : n = 0 := by
      rcases Nat.eq_zero_or_pos n with e | e
      · exact e
      · obtain ⟨b, off, e, _⟩ := h.at_ e; cases e
    subst h0
    obtain rfl : us = [] := List.eq_nil_of_length_eq_zero h.ln
    exact run_convert_bytes_nil w 34 5 Tryd.underlying34 Tryd.underlying5 0 c 9 Tryd.underlying9
  | some x =>
    rcases Nat.eq_zero_or_pos n with e | e
    · subst e
      obtain rfl : us = [] := List.eq_nil_of_length_eq_zero h.ln
      rw [run_convert_bytes_string w 34 9 5 _ 0 c Tryd.underlying34 Tryd.underlying5 Tryd.underlying9]
      have hl : (loadCells x 0).run Tryd.prog w = .ok #[] w := by simpa using run_loadCells_list (P := Tryd.prog) w x [] (by simp)
      rw [run_bytesToString w x 0 c [] hl, foldl_push_bytes]
      simp [strOfNums, ByteArray.empty, ByteArray.emptyWithCapacity]
      rfl
    · obtain ⟨b, off, ha, _, hc⟩ := h.at_ e
      obtain rfl : x = ⟨b, off, none⟩ := Option.some.inj ha
      refine run_convert_bytes_arg w 34 5 Tryd.underlying34 Tryd.underlying5 b off n c us h.ln ?_ 9 Tryd.underlying9
      intro i hi
      refine hc i _ ?_
      rw [List.getD_eq_getElem?_getD, List.getElem?_eq_getElem (by rw [h.ln]; exact hi)]
      rfl
set_option maxRecDepth 100000 in
theorem fr_save_none (g b each nf : Nat) (bs : List Int) (n at_ : Nat) (a : Option Addr) (mc : Nat) (w : World) (hG : StoreAt w g b each nf bs) (hn : n < nf) (hat : at_ ≤ 64) :
    Calls Tryd.prog 27 #[.pointer (some ⟨g, 0, none⟩), .int .i64 n, .int .i64 at_, .slice a 0 mc] w fun e w' => e = .returned (.int .i64 0) ∧ w = w' := by
  have hcp := run_copy_none (P := Tryd.prog) w 34 34 3 5 (some ⟨b, partAt (n * 64) at_, none⟩) a 0 (64 - at_) 0 mc Tryd.underlying34 (by kernel_rfl) (by simp)
  go_enter Tryd.func27, Tryd.ntmps27
  go_wp2_with fail
  refine (fr_part g b each nf bs n at_ 0 w hG hn (by omega)).mono ?_; rintro e w1 ⟨rfl, rfl⟩
  clear hG
  go_wp2_with fail
  go_ret
  exact ⟨rfl, rfl⟩
set_option maxRecDepth 100000 in
theorem fr_save_in (g b each nf : Nat) (bs : List Int) (n at_ : Nat) (a : Option Addr) (m mc : Nat) (us : List Int) (w : World) (hG : StoreAt w g b each nf bs) (hn : n < nf) (hat : at_ + m ≤ 64) (hI : InB w a m us) :
    Calls Tryd.prog 27 #[.pointer (some ⟨g, 0, none⟩), .int .i64 n, .int .i64 at_, .slice a m mc] w fun e w' => e = .returned (.int .i64 0) ∧ StoreAt w' g b each nf (putL bs (n * 64 + at_) us) ∧ Ch [b] w w' := by
  rcases Nat.eq_zero_or_pos m with e | e
  · subst e
    obtain rfl : us = [] := List.eq_nil_of_length_eq_zero hI.ln
    refine Calls.mono ?_ (fun e w' (h : e = .returned (.int .i64 0) ∧ w = w') => ?_)
    · exact fr_save_none g b each nf bs n at_ a mc w hG hn (by omega)
    · obtain ⟨h1, rfl⟩ := h
      exact ⟨h1, hG, Ch.refl _ _⟩
  · obtain ⟨bx, off, rfl, hbx, hc⟩ := hI.at_ e
    exact fr_save g b each nf bs n at_ bx off m mc us hI.ln w hG hn hat hc
end Go.Proofs.YtbgnaohjcfbaaaaDoor
