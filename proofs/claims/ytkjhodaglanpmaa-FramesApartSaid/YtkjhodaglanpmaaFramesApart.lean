/- The law FramesApart. -/
import Derived.Test.YtkjhodaglanpmaaFrames4
namespace Go.Proofs.Ytkjhodaglanpmaa
open Go.RowKit
set_option linter.unusedVariables false
set_option linter.unusedSimpArgs false
attribute [local go_sem] World.cell?_alloc_lt

set_option maxRecDepth 100000 in
theorem fr_save0 (g b each nf : Nat) (bs : List Int) (n at_ : Nat) (a : Option Addr) (mc : Nat) (w : World) (hG : StoreAt w g b each nf bs) (hn : n < nf) (hat : at_ ≤ 64) :
    Calls Try.prog 31 #[.pointer (some ⟨g, 0, none⟩), .int .i64 n, .int .i64 at_, .slice a 0 mc] w fun e w' => e = .returned (.int .i64 0) ∧ w = w' := by
  have hcp := run_copy_none (P := Try.prog) w 50 50 3 5 (some ⟨b, partAt (n * 64) at_, none⟩) a 0 (64 - at_) 0 mc Try.underlying50 (by kernel_rfl) (by simp)
  go_enter Try.func31, Try.ntmps31
  go_wp2_with fail
  refine (fr_part g b each nf bs n at_ 0 w hG hn (by omega)).mono ?_; rintro e w1 ⟨rfl, rfl⟩
  clear hG
  go_wp2_with fail
  go_ret
  exact ⟨rfl, rfl⟩
set_option maxRecDepth 100000 in
theorem open_bytes {H : Type} {enc : TypeId × Value → H} {W : World} {base : Nat} {held : Bool} {r : Reach} {b0 : Nat} {v : Value} {d : DataW H} {p : List MemPlace} (hv : Value.okWide Try.prog W r b0 50 v) (h : DataW.Trod enc Try.prog W base (fun _ => true) held 50 v d p) :
    ∃ a len cap zs, v = .slice a len cap ∧ InInts .u8 W a len zs ∧ len ≤ cap := by
  obtain ⟨a, len, cap, rfl⟩ := WideShapes.okWide_slice Try.underlying50 hv
  obtain ⟨zs, hz⟩ := open_inInts Try.underlying50 Try.underlying5 (by kernel_rfl) h
  refine ⟨a, len, cap, zs, rfl, hz, ?_⟩
  obtain ⟨fuel, hf⟩ := h
  rcases ChangeShapes.open_ints Try.underlying50 Try.underlying5 (by kernel_rfl) hf with ⟨hcs, _⟩ | ⟨x, l, c, zs, hcs, _, hl, _⟩
  · simp [Value.cells] at hcs; omega
  · simp [Value.cells] at hcs; omega
/-- What the frames hold behind the save. -/
def apB (m k : Nat) (us : List Int) : List Int := putL (List.replicate (m * 4 * 64) 0) (k * 64) us
def zero64 : List Int := List.replicate 64 0
def apW (i k : Nat) (us : List Int) : List Int := if i = k then putL zero64 0 us else zero64
theorem apW_len (i k : Nat) (us : List Int) : (apW i k us).length = 64 := by
  unfold apW zero64
  split
  · rw [putL_len]; simp
  · simp
theorem apB_part {m i k : Nat} {us : List Int} (hi : i < m * 4) (hk : k < m * 4) (hu : us.length ≤ 64) : ((apB m k us).drop (i * 64)).take 64 = apW i k us := by
  have hbl : k * 64 + us.length ≤ (List.replicate (m * 4 * 64) (0 : Int)).length := by simp; omega
  apply List.ext_getElem?
  intro j
  rw [List.getElem?_take]
  by_cases hj : j < 64
  · rw [if_pos hj, List.getElem?_drop]
    unfold apB apW zero64
    rw [putL_get _ _ _ _ hbl]
    by_cases e : i = k
    · subst e
      rw [if_pos rfl, putL_get _ _ _ _ (by simp; omega)]
      by_cases h2 : j < us.length
      · rw [if_pos (by omega), if_pos (by omega)]
        congr 1; omega
      · rw [if_neg (by omega), if_neg (by omega), List.getElem?_replicate, List.getElem?_replicate, if_pos (by omega), if_pos hj]
    · rw [if_neg e, if_neg (by omega), List.getElem?_replicate, List.getElem?_replicate, if_pos (by omega), if_pos hj]
  · rw [if_neg hj, List.getElem?_eq_none (by rw [apW_len]; omega)]
theorem cut_bytes (a : Option Addr) (len cap n : Nat) (N : Int) (hN : N = (n : Int)) (h : n ≤ cap) (w : World) : (Instr.sliceAt 50 (.slice a len cap) none (some (.int .i64 N)) none).run Try.prog w = .ok (.slice a n cap) w := by
  subst hN
  have e : Option.map (fun x : Addr => x.add 0) a = a := by
    cases a with
    | none => rfl
    | some x => simp [Addr.add]
  have h2 : (n : Int) ≤ (cap : Int) := by omega
  simp [go_sem, h, h2, e]
theorem made_bytes (n : Nat) : (madeCells (Value.int .u8 0).cells (n * 1)).toList = List.replicate n (Value.int .u8 0) := by
  rw [Nat.mul_one]
  exact made_one _ rfl n
theorem info_byte : (Try.prog.info? 5).map (fun i => (i.zero, i.size, i.bytes)) = some (some (.int .u8 0), 1, 1) := by kernel_rfl
theorem wpList_make_page (w : World) {ops : Array Oper} {rest : List Oper} {o : Oper} {a : Act} {Q : Exit → Act → World → Prop}
    (hg : o.guard = none) (l c : Operand) (hop : o.op = Op.makeSlice 50 l c) (kl kc : IntKind) (L C : Int) (hl : a.eval l = .int kl L) (hc : a.eval c = .int kc C) (hL : L = 64) (hC : C = 64)
    (hK : ∀ w', Blk w' w.heap.size 5 (zero64.map (Value.int .u8)) → w.grownBy w' none → wpList Try.prog ops Q rest (a.put o.dst (.slice (some ⟨w.heap.size, 0, none⟩) 64 64)) w') :
    wpList Try.prog ops Q (o :: rest) a w := by
  obtain ⟨i0, hi, hz0, hz1, hz2⟩ := info_parts info_byte
  refine wpList_make_full w hg l c 50 hop w.heap.size 5 i0 (.int .u8 0) 1 Try.underlying50 hi hz0 hz1 kl kc L C 64 hl hc hL hC (by rw [hz2]; omega) (by unfold maxLen; omega) (Nat.le_refl _) ?_
  intro w' h1 h2
  have hd := Blk.of_own_wide h1
  rw [made_bytes] at hd
  exact hK w' (by unfold zero64; rw [List.map_replicate]; exact hd) h2
/-- The text of a block of bytes. -/
theorem text_blk {w : World} {h m : Nat} {xs : List Int} (hl : xs.length = m) (hb : Blk w h 5 (xs.map (Value.int .u8))) :
    (convert 50 9 (.slice (some ⟨h, 0, none⟩) m m)).run Try.prog w = .ok (.string (strOfNums xs)) w := by
  refine run_convert_bytes_arg w 50 5 Try.underlying50 Try.underlying5 h 0 m m xs hl ?_ 9 Try.underlying9
  intro i hi
  rw [Nat.zero_add]
  exact hb.at_ (map_at (f := Value.int .u8) (show i < xs.length by omega) 0)
set_option maxRecDepth 100000 in
set_option maxHeartbeats 2000000 in
theorem framesApart_walk (w0 : World) (nd : Int) (_h1 : (Lit.int .i64 nd).wf = true) (fr : Int) (_h2 : (Lit.int .i64 fr).wf = true) (a : Option Addr) (len cap : Nat) (zs : List Int) (hs : InInts .u8 w0 a len zs) (hlc : len ≤ cap) :
    Calls Try.prog 6 #[.int .i64 nd, .int .i64 fr, .slice a len cap] w0 fun e w' => e = .returned (.bool true) ∧ Below w0.heap.size w0 w' := by
  have hbm := umod1_bd nd 8 (by omega) (by omega)
  generalize hm : wrap64 (1 + wrap64 ((IntKind.u64.wrap nd).tmod 8)) = m at hbm
  obtain ⟨m, rfl⟩ := Int.eq_ofNat_of_zero_le (show 0 ≤ m by omega)
  have hbk := umod_bd fr (4 * m) (by omega) (by omega)
  generalize hk : wrap64 ((IntKind.u64.wrap fr).tmod (4 * (m : Int))) = k at hbk
  obtain ⟨k, rfl⟩ := Int.eq_ofNat_of_zero_le hbk.1
  have HM := Lib.hid hm; have HK := Lib.hid hk
  clear hm hk
  have hmx := hs.mx
  have hln := hs.ln
  have h40 : (4 : Int) * (m : Int) ≠ 0 := by omega
  have hkm : k < m * 4 := by omega
  rcases (by omega : len = 0 ∨ (0 < len ∧ len ≤ 64) ∨ 64 < len) with hl | ⟨hl, hl2⟩ | hl
  · subst hl
    have hcut := cut_bytes a 0 cap 0 (0) (by omega) (by omega)
    go_enter Try.func6, Try.ntmps6
    go_wp2_with fail
    rw [HM.out]
    refine (fr_new m 4 w0 (by omega) (by omega) (by omega) (by omega)).mono ?_; rintro e w1 ⟨g, b, rfl, hg, hb, hG, hB⟩
    go_wp2_with fail
    refine (holds_any w1).mono ?_; rintro e w2 ⟨rfl, hc⟩
    have hB := bel_trans hB hc
    have hG := hG.below hc
    clear hc
    go_wp2_with fail
    rw [HK.out]
    refine (fr_save0 g b 4 (m * 4) _ k 0 a cap w2 hG hkm (by omega)).mono ?_; rintro e w3 ⟨rfl, rfl⟩
    have hG2 := hG
    have hG : StoreAt w2 g b 4 (m * 4) (apB m k []) := hG
    clear hG2
    have hul : (([] : List Int)).length ≤ 64 := by simp <;> omega
    go_wp2_with fail
    go_loopw [11] (fun vi wx => ∃ i : Nat, i ≤ m * 4 ∧ vi = .int .i64 i ∧ StoreAt wx g b 4 (m * 4) (apB m k (([] : List Int))) ∧ Below w0.heap.size w0 wx) (fun i _ => m * 4 - (intOf i).toNat)
    case atStart => exact ⟨0, by omega, rfl, hG, hB⟩
    case round =>
      clear hG hB
      obtain ⟨i, hi, rfl, hG, hB⟩ := hrel
      by_cases him : i < m * 4
      · go_wp2_with fail
        refine (fr_load g b 4 (m * 4) _ i 0 64 wr hG him (by omega)).mono ?_; rintro e w4 ⟨h1, c1, rfl, hown4, hc⟩
        rw [Nat.add_zero, apB_part him hkm hul] at hown4
        have hG := hG.below hc
        have hB := bel_trans hB hc
        have hw4 := hB.size
        have hgl := hG.st.lt; have hbl := hG.dt.lt
        clear hc
        go_wp2_with (at_make; refine wpList_make_page _ rfl _ _ rfl _ _ _ _ rfl rfl rfl rfl ?_)
        intro w5 hd hgr
        have hb5 : Below w4.heap.size w4 w5 := (Below.refl _ _).grown hgr (Nat.le_refl _) (fun k h => by cases h)
        have hG := hG.below hb5
        have hB := bel_trans hB hb5
        have hown := own_below hown4 hb5
        clear hgr
        by_cases hik : i = k
        · have heq : ((i : Int) == (k : Int)) = true := by rw [beq_iff_eq]; omega
          have hap : apW i k (([] : List Int)) = putL zero64 0 (([] : List Int)) := by unfold apW; rw [if_pos hik]
          have hcp := run_copy_none (P := Try.prog) w5 50 50 3 5 (some ⟨w4.heap.size, 0, none⟩) a 64 64 0 cap Try.underlying50 (by kernel_rfl) (by simp)
          have hdc := hd
          have hGc := hG
          have hBc := hB
          have hownc := hown
          rw [show zero64 = apW i k [] from by rw [hap]; rfl] at hdc
          clear hik hap
          clear hown4 hd hb5 hG hB hown
          go_wp2_with fail
          refine (fr_node g b 4 (m * 4) _ i w5 hGc him).mono ?_; rintro e w7 ⟨rfl, rfl⟩
          go_wp2_with fail
          refine (fr_first g b 4 (m * 4) _ (i / 4) m w5 hGc rfl (by omega)).mono ?_; rintro e w7 ⟨rfl, hc⟩
          have hG := hGc.below hc
          have hB := bel_trans hBc hc
          have tx1 := text_own (apW_len i k _) (own_below hownc hc)
          have tx2 := text_blk (apW_len i k _) (hdc.below hc)
          clear hc hGc hBc hownc hdc
          obtain ⟨q, hq⟩ : ∃ q, i / 4 * 4 = q := ⟨_, rfl⟩
          have hq1 : q ≤ i := by omega
          have hq2 : i < q + 4 := by omega
          rw [hq]
          clear hq
          have hsn : ∀ s : ByteArray, (!(s.toList == s.toList)) = false := fun s => by simp
          have hsn := hsn (strOfNums (apW i k (([] : List Int))))
          generalize strOfNums (apW i k (([] : List Int))) = sx at *
          go_wp2_with fail
          go_roundw
          case rel => exact ⟨i + 1, by omega, by go_num, hG, hB⟩
          case measure => simp [intOf]; omega
        · have heq : ((i : Int) == (k : Int)) = false := by rw [beq_eq_false_iff_ne]; omega
          have hap : apW i k (([] : List Int)) = zero64 := by unfold apW; rw [if_neg hik]
          have hdc := hd
          rw [← hap] at hdc
          have hGc := hG
          have hBc := hB
          have hownc := hown
          clear hik hap
          clear hown4 hd hb5 hG hB hown
          go_wp2_with fail
          refine (fr_node g b 4 (m * 4) _ i w5 hGc him).mono ?_; rintro e w7 ⟨rfl, rfl⟩
          go_wp2_with fail
          refine (fr_first g b 4 (m * 4) _ (i / 4) m w5 hGc rfl (by omega)).mono ?_; rintro e w7 ⟨rfl, hc⟩
          have hG := hGc.below hc
          have hB := bel_trans hBc hc
          have tx1 := text_own (apW_len i k _) (own_below hownc hc)
          have tx2 := text_blk (apW_len i k _) (hdc.below hc)
          clear hc hGc hBc hownc hdc
          obtain ⟨q, hq⟩ : ∃ q, i / 4 * 4 = q := ⟨_, rfl⟩
          have hq1 : q ≤ i := by omega
          have hq2 : i < q + 4 := by omega
          rw [hq]
          clear hq
          have hsn : ∀ s : ByteArray, (!(s.toList == s.toList)) = false := fun s => by simp
          have hsn := hsn (strOfNums (apW i k (([] : List Int))))
          generalize strOfNums (apW i k (([] : List Int))) = sx at *
          go_wp2_with fail
          go_roundw
          case rel => exact ⟨i + 1, by omega, by go_num, hG, hB⟩
          case measure => simp [intOf]; omega
      · obtain rfl : i = m * 4 := by omega
        go_wp2_with fail
        go_ret
        exact ⟨rfl, hB⟩
  · have hl3 : (len : Int) ≤ 64 := by omega
    obtain ⟨bx, off, rfl, hbx, hcell⟩ := hs.at_ (by omega)
    have hul0 : (zs.take len).length = len := by rw [List.length_take, hln]; omega
    have hin : ∀ j u, (zs.take len)[j]? = some u → w0.cell? ⟨bx, off + j, none⟩ = some (.int .u8 u) := by
      intro j u hj
      rw [List.getElem?_take] at hj
      split at hj
      · rename_i hjn
        have := hcell j (by omega)
        rw [List.getD_eq_getElem?_getD, hj] at this
        exact this
      · cases hj
    have HIN := Lib.hid hin; clear hin hcell hs
    have hcut := cut_bytes (some ⟨bx, off, none⟩) len cap len ((len : Int)) (by omega) (by omega)
    go_enter Try.func6, Try.ntmps6
    go_wp2_with fail
    rw [HM.out]
    refine (fr_new m 4 w0 (by omega) (by omega) (by omega) (by omega)).mono ?_; rintro e w1 ⟨g, b, rfl, hg, hb, hG, hB⟩
    go_wp2_with fail
    refine (holds_any w1).mono ?_; rintro e w2 ⟨rfl, hc⟩
    have hB := bel_trans hB hc
    have hG := hG.below hc
    clear hc
    go_wp2_with fail
    rw [HK.out]
    have hsv := fr_save g b 4 (m * 4) _ k 0 bx off len cap (zs.take len) hul0 w2 hG hkm (by omega) (fun j u hj => (hB.cell (p := ⟨bx, off + j, none⟩) hbx).trans (HIN.out j u hj))
    refine hsv.mono ?_; rintro e w3 ⟨rfl, hG2, hc⟩
    have hB := bel_ch hB hc (by simp; omega)
    have hG : StoreAt w3 g b 4 (m * 4) (apB m k (zs.take len)) := hG2
    clear hsv hc
    clear hG2
    have hul : (zs.take len).length ≤ 64 := by simp <;> omega
    go_wp2_with fail
    go_loopw [11] (fun vi wx => ∃ i : Nat, i ≤ m * 4 ∧ vi = .int .i64 i ∧ StoreAt wx g b 4 (m * 4) (apB m k (zs.take len)) ∧ Below w0.heap.size w0 wx) (fun i _ => m * 4 - (intOf i).toNat)
    case atStart => exact ⟨0, by omega, rfl, hG, hB⟩
    case round =>
      clear hG hB
      obtain ⟨i, hi, rfl, hG, hB⟩ := hrel
      by_cases him : i < m * 4
      · go_wp2_with fail
        refine (fr_load g b 4 (m * 4) _ i 0 64 wr hG him (by omega)).mono ?_; rintro e w4 ⟨h1, c1, rfl, hown4, hc⟩
        rw [Nat.add_zero, apB_part him hkm hul] at hown4
        have hG := hG.below hc
        have hB := bel_trans hB hc
        have hw4 := hB.size
        have hgl := hG.st.lt; have hbl := hG.dt.lt
        clear hc
        go_wp2_with (at_make; refine wpList_make_page _ rfl _ _ rfl _ _ _ _ rfl rfl rfl rfl ?_)
        intro w5 hd hgr
        have hb5 : Below w4.heap.size w4 w5 := (Below.refl _ _).grown hgr (Nat.le_refl _) (fun k h => by cases h)
        have hG := hG.below hb5
        have hB := bel_trans hB hb5
        have hown := own_below hown4 hb5
        clear hgr
        by_cases hik : i = k
        · have heq : ((i : Int) == (k : Int)) = true := by rw [beq_iff_eq]; omega
          have hap : apW i k (zs.take len) = putL zero64 0 (zs.take len) := by unfold apW; rw [if_pos hik]
          have hcp := run_copy_cells (P := Try.prog) w5 50 50 3 5 w4.heap.size 0 64 64 ⟨bx, off, none⟩ len cap ((zs.take len).map (Value.int .u8)) Try.underlying50 (by kernel_rfl) (by rw [List.length_map, hul0]; exact (Nat.min_eq_left (by omega)).symm) (by
            intro j v hj
            rw [List.getElem?_map] at hj
            obtain ⟨u, hu, rfl⟩ := Option.map_eq_some_iff.1 hj
            rw [WideShapes.add_plain]
            exact (hB.cell (p := ⟨bx, off + j, none⟩) hbx).trans (HIN.out j u hu)) (by
            intro j hj
            rw [List.length_map, hul0] at hj
            rw [Nat.zero_add, hd.cell, List.getElem?_map, List.getElem?_eq_getElem (by unfold zero64; rw [List.length_replicate]; omega)]
            rfl) (fun j hj => hd.frozen _) (by intro u hu; obtain ⟨z, _, rfl⟩ := List.mem_map.1 hu; rfl)
          obtain ⟨hdc, hcc⟩ := Blk.setCells ((zs.take len).map (Value.int .u8)) _ 0 w5 hd
          rw [← putL_map, ← hap] at hdc
          rw [List.length_map, hul0] at hcp
          have hGc := hG.ch hcc (by simp; omega) (by simp; omega)
          have hBc := bel_ch hB hcc (by simp; omega)
          have hownc := own_ch hown hcc (fun gg hgg => by have := (own_base hown4 gg hgg).2; simp; omega)
          generalize w5.setCells w4.heap.size 0 ((zs.take len).map (Value.int .u8)) = w6 at *
          clear hcc
          clear hik hap
          clear hown4 hd hb5 hG hB hown
          go_wp2_with fail
          refine (fr_node g b 4 (m * 4) _ i w6 hGc him).mono ?_; rintro e w7 ⟨rfl, rfl⟩
          go_wp2_with fail
          refine (fr_first g b 4 (m * 4) _ (i / 4) m w6 hGc rfl (by omega)).mono ?_; rintro e w7 ⟨rfl, hc⟩
          have hG := hGc.below hc
          have hB := bel_trans hBc hc
          have tx1 := text_own (apW_len i k _) (own_below hownc hc)
          have tx2 := text_blk (apW_len i k _) (hdc.below hc)
          clear hc hGc hBc hownc hdc
          obtain ⟨q, hq⟩ : ∃ q, i / 4 * 4 = q := ⟨_, rfl⟩
          have hq1 : q ≤ i := by omega
          have hq2 : i < q + 4 := by omega
          rw [hq]
          clear hq
          have hsn : ∀ s : ByteArray, (!(s.toList == s.toList)) = false := fun s => by simp
          have hsn := hsn (strOfNums (apW i k (zs.take len)))
          generalize strOfNums (apW i k (zs.take len)) = sx at *
          go_wp2_with fail
          go_roundw
          case rel => exact ⟨i + 1, by omega, by go_num, hG, hB⟩
          case measure => simp [intOf]; omega
        · have heq : ((i : Int) == (k : Int)) = false := by rw [beq_eq_false_iff_ne]; omega
          have hap : apW i k (zs.take len) = zero64 := by unfold apW; rw [if_neg hik]
          have hdc := hd
          rw [← hap] at hdc
          have hGc := hG
          have hBc := hB
          have hownc := hown
          clear hik hap
          clear hown4 hd hb5 hG hB hown
          go_wp2_with fail
          refine (fr_node g b 4 (m * 4) _ i w5 hGc him).mono ?_; rintro e w7 ⟨rfl, rfl⟩
          go_wp2_with fail
          refine (fr_first g b 4 (m * 4) _ (i / 4) m w5 hGc rfl (by omega)).mono ?_; rintro e w7 ⟨rfl, hc⟩
          have hG := hGc.below hc
          have hB := bel_trans hBc hc
          have tx1 := text_own (apW_len i k _) (own_below hownc hc)
          have tx2 := text_blk (apW_len i k _) (hdc.below hc)
          clear hc hGc hBc hownc hdc
          obtain ⟨q, hq⟩ : ∃ q, i / 4 * 4 = q := ⟨_, rfl⟩
          have hq1 : q ≤ i := by omega
          have hq2 : i < q + 4 := by omega
          rw [hq]
          clear hq
          have hsn : ∀ s : ByteArray, (!(s.toList == s.toList)) = false := fun s => by simp
          have hsn := hsn (strOfNums (apW i k (zs.take len)))
          generalize strOfNums (apW i k (zs.take len)) = sx at *
          go_wp2_with fail
          go_roundw
          case rel => exact ⟨i + 1, by omega, by go_num, hG, hB⟩
          case measure => simp [intOf]; omega
      · obtain rfl : i = m * 4 := by omega
        go_wp2_with fail
        go_ret
        exact ⟨rfl, hB⟩
  · have hl3 : (64 : Int) < (len : Int) := by omega
    obtain ⟨bx, off, rfl, hbx, hcell⟩ := hs.at_ (by omega)
    have hul0 : (zs.take 64).length = 64 := by rw [List.length_take, hln]; omega
    have hin : ∀ j u, (zs.take 64)[j]? = some u → w0.cell? ⟨bx, off + j, none⟩ = some (.int .u8 u) := by
      intro j u hj
      rw [List.getElem?_take] at hj
      split at hj
      · rename_i hjn
        have := hcell j (by omega)
        rw [List.getD_eq_getElem?_getD, hj] at this
        exact this
      · cases hj
    have HIN := Lib.hid hin; clear hin hcell hs
    have hcut := cut_bytes (some ⟨bx, off, none⟩) len cap 64 (64) (by omega) (by omega)
    go_enter Try.func6, Try.ntmps6
    go_wp2_with fail
    rw [HM.out]
    refine (fr_new m 4 w0 (by omega) (by omega) (by omega) (by omega)).mono ?_; rintro e w1 ⟨g, b, rfl, hg, hb, hG, hB⟩
    go_wp2_with fail
    refine (holds_any w1).mono ?_; rintro e w2 ⟨rfl, hc⟩
    have hB := bel_trans hB hc
    have hG := hG.below hc
    clear hc
    go_wp2_with fail
    rw [HK.out]
    have hsv := fr_save g b 4 (m * 4) _ k 0 bx off 64 cap (zs.take 64) hul0 w2 hG hkm (by omega) (fun j u hj => (hB.cell (p := ⟨bx, off + j, none⟩) hbx).trans (HIN.out j u hj))
    refine hsv.mono ?_; rintro e w3 ⟨rfl, hG2, hc⟩
    have hB := bel_ch hB hc (by simp; omega)
    have hG : StoreAt w3 g b 4 (m * 4) (apB m k (zs.take 64)) := hG2
    clear hsv hc
    clear hG2
    have hul : (zs.take 64).length ≤ 64 := by simp <;> omega
    go_wp2_with fail
    go_loopw [11] (fun vi wx => ∃ i : Nat, i ≤ m * 4 ∧ vi = .int .i64 i ∧ StoreAt wx g b 4 (m * 4) (apB m k (zs.take 64)) ∧ Below w0.heap.size w0 wx) (fun i _ => m * 4 - (intOf i).toNat)
    case atStart => exact ⟨0, by omega, rfl, hG, hB⟩
    case round =>
      clear hG hB
      obtain ⟨i, hi, rfl, hG, hB⟩ := hrel
      by_cases him : i < m * 4
      · go_wp2_with fail
        refine (fr_load g b 4 (m * 4) _ i 0 64 wr hG him (by omega)).mono ?_; rintro e w4 ⟨h1, c1, rfl, hown4, hc⟩
        rw [Nat.add_zero, apB_part him hkm hul] at hown4
        have hG := hG.below hc
        have hB := bel_trans hB hc
        have hw4 := hB.size
        have hgl := hG.st.lt; have hbl := hG.dt.lt
        clear hc
        go_wp2_with (at_make; refine wpList_make_page _ rfl _ _ rfl _ _ _ _ rfl rfl rfl rfl ?_)
        intro w5 hd hgr
        have hb5 : Below w4.heap.size w4 w5 := (Below.refl _ _).grown hgr (Nat.le_refl _) (fun k h => by cases h)
        have hG := hG.below hb5
        have hB := bel_trans hB hb5
        have hown := own_below hown4 hb5
        clear hgr
        by_cases hik : i = k
        · have heq : ((i : Int) == (k : Int)) = true := by rw [beq_iff_eq]; omega
          have hap : apW i k (zs.take 64) = putL zero64 0 (zs.take 64) := by unfold apW; rw [if_pos hik]
          have hcp := run_copy_cells (P := Try.prog) w5 50 50 3 5 w4.heap.size 0 64 64 ⟨bx, off, none⟩ 64 cap ((zs.take 64).map (Value.int .u8)) Try.underlying50 (by kernel_rfl) (by rw [List.length_map, hul0]; exact (Nat.min_eq_left (by omega)).symm) (by
            intro j v hj
            rw [List.getElem?_map] at hj
            obtain ⟨u, hu, rfl⟩ := Option.map_eq_some_iff.1 hj
            rw [WideShapes.add_plain]
            exact (hB.cell (p := ⟨bx, off + j, none⟩) hbx).trans (HIN.out j u hu)) (by
            intro j hj
            rw [List.length_map, hul0] at hj
            rw [Nat.zero_add, hd.cell, List.getElem?_map, List.getElem?_eq_getElem (by unfold zero64; rw [List.length_replicate]; omega)]
            rfl) (fun j hj => hd.frozen _) (by intro u hu; obtain ⟨z, _, rfl⟩ := List.mem_map.1 hu; rfl)
          obtain ⟨hdc, hcc⟩ := Blk.setCells ((zs.take 64).map (Value.int .u8)) _ 0 w5 hd
          rw [← putL_map, ← hap] at hdc
          rw [List.length_map, hul0] at hcp
          have hGc := hG.ch hcc (by simp; omega) (by simp; omega)
          have hBc := bel_ch hB hcc (by simp; omega)
          have hownc := own_ch hown hcc (fun gg hgg => by have := (own_base hown4 gg hgg).2; simp; omega)
          generalize w5.setCells w4.heap.size 0 ((zs.take 64).map (Value.int .u8)) = w6 at *
          clear hcc
          clear hik hap
          clear hown4 hd hb5 hG hB hown
          go_wp2_with fail
          refine (fr_node g b 4 (m * 4) _ i w6 hGc him).mono ?_; rintro e w7 ⟨rfl, rfl⟩
          go_wp2_with fail
          refine (fr_first g b 4 (m * 4) _ (i / 4) m w6 hGc rfl (by omega)).mono ?_; rintro e w7 ⟨rfl, hc⟩
          have hG := hGc.below hc
          have hB := bel_trans hBc hc
          have tx1 := text_own (apW_len i k _) (own_below hownc hc)
          have tx2 := text_blk (apW_len i k _) (hdc.below hc)
          clear hc hGc hBc hownc hdc
          obtain ⟨q, hq⟩ : ∃ q, i / 4 * 4 = q := ⟨_, rfl⟩
          have hq1 : q ≤ i := by omega
          have hq2 : i < q + 4 := by omega
          rw [hq]
          clear hq
          have hsn : ∀ s : ByteArray, (!(s.toList == s.toList)) = false := fun s => by simp
          have hsn := hsn (strOfNums (apW i k (zs.take 64)))
          generalize strOfNums (apW i k (zs.take 64)) = sx at *
          go_wp2_with fail
          go_roundw
          case rel => exact ⟨i + 1, by omega, by go_num, hG, hB⟩
          case measure => simp [intOf]; omega
        · have heq : ((i : Int) == (k : Int)) = false := by rw [beq_eq_false_iff_ne]; omega
          have hap : apW i k (zs.take 64) = zero64 := by unfold apW; rw [if_neg hik]
          have hdc := hd
          rw [← hap] at hdc
          have hGc := hG
          have hBc := hB
          have hownc := hown
          clear hik hap
          clear hown4 hd hb5 hG hB hown
          go_wp2_with fail
          refine (fr_node g b 4 (m * 4) _ i w5 hGc him).mono ?_; rintro e w7 ⟨rfl, rfl⟩
          go_wp2_with fail
          refine (fr_first g b 4 (m * 4) _ (i / 4) m w5 hGc rfl (by omega)).mono ?_; rintro e w7 ⟨rfl, hc⟩
          have hG := hGc.below hc
          have hB := bel_trans hBc hc
          have tx1 := text_own (apW_len i k _) (own_below hownc hc)
          have tx2 := text_blk (apW_len i k _) (hdc.below hc)
          clear hc hGc hBc hownc hdc
          obtain ⟨q, hq⟩ : ∃ q, i / 4 * 4 = q := ⟨_, rfl⟩
          have hq1 : q ≤ i := by omega
          have hq2 : i < q + 4 := by omega
          rw [hq]
          clear hq
          have hsn : ∀ s : ByteArray, (!(s.toList == s.toList)) = false := fun s => by simp
          have hsn := hsn (strOfNums (apW i k (zs.take 64)))
          generalize strOfNums (apW i k (zs.take 64)) = sx at *
          go_wp2_with fail
          go_roundw
          case rel => exact ⟨i + 1, by omega, by go_num, hG, hB⟩
          case measure => simp [intOf]; omega
      · obtain rfl : i = m * 4 := by omega
        go_wp2_with fail
        go_ret
        exact ⟨rfl, hB⟩
end Go.Proofs.Ytkjhodaglanpmaa
