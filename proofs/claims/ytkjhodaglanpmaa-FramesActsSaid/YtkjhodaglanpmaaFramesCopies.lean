/- The law FramesCopies. -/
import Derived.Test.YtkjhodaglanpmaaFrames5
namespace Go.Proofs.Ytkjhodaglanpmaa
open Go.RowKit
set_option linter.unusedVariables false
set_option linter.unusedSimpArgs false
attribute [local go_sem] World.cell?_alloc_lt

/-- The first n bytes of a frame. -/
def fpart (bs : List Int) (k n : Nat) : List Int := (bs.drop (k * 64)).take n
theorem fpart_len {bs : List Int} {k n nf : Nat} (hl : bs.length = nf * 64) (hk : k < nf) (hn : n ≤ 64) : (fpart bs k n).length = n := by
  unfold fpart
  rw [List.length_take, List.length_drop]
  omega
theorem fpart_get (bs : List Int) (k n j : Nat) : (fpart bs k n)[j]? = if j < n then bs[k * 64 + j]? else none := by
  unfold fpart
  rw [List.getElem?_take]
  split
  · rw [List.getElem?_drop]
  · rfl
theorem fpart_same {bs us : List Int} {k n nf : Nat} (hl : bs.length = nf * 64) (hk : k < nf) (hu : us.length ≤ 64) (hn : n ≤ us.length) : fpart (putL bs (k * 64) us) k n = us.take n := by
  apply List.ext_getElem?
  intro j
  rw [fpart_get, List.getElem?_take]
  by_cases h : j < n
  · rw [if_pos h, if_pos h, putL_get _ _ _ _ (by omega), if_pos (by omega)]
    congr 1; omega
  · rw [if_neg h, if_neg h]
theorem fpart_other {bs us : List Int} {k i n nf : Nat} (hl : bs.length = nf * 64) (hk : k < nf) (hu : us.length ≤ 64) (hn : n ≤ 64) (hi : i ≠ k) : fpart (putL bs (k * 64) us) i n = fpart bs i n := by
  apply List.ext_getElem?
  intro j
  rw [fpart_get, fpart_get]
  by_cases h : j < n
  · rw [if_pos h, if_pos h, putL_get _ _ _ _ (by omega), if_neg (by omega)]
  · rw [if_neg h, if_neg h]
theorem frBs_take {bs : List Int} {k n : Nat} (hn : n ≤ 64) : (frBs bs k).take n = fpart bs k n := by
  unfold frBs fpart
  rw [List.take_take, Nat.min_eq_left hn]
theorem frBs_fpart (bs : List Int) (k : Nat) : frBs bs k = fpart bs k 64 := rfl
/-- What the law's store holds: behind the save, the copy, the clearing. -/
def cp1 (x : Nat) (us : List Int) : List Int := putL (List.replicate (2 * 8 * 64) 0) (x * 64 + 0) us
def cp2 (x y : Nat) (us : List Int) : List Int := putL (cp1 x us) (y * 64) (frBs (cp1 x us) x)
def cp3 (x y : Nat) (us : List Int) : List Int := putL (cp2 x y us) (x * 64) zeros64
theorem cp1_len (x : Nat) (us : List Int) : (cp1 x us).length = 16 * 64 := by unfold cp1; rw [putL_len, List.length_replicate]
theorem cp2_len (x y : Nat) (us : List Int) : (cp2 x y us).length = 16 * 64 := by unfold cp2; rw [putL_len, cp1_len]
section
variable {x y : Nat} {us : List Int} (hx : x < 16) (hy : y < 16) (hu : us.length ≤ 64)
include hx hu
theorem cp1_x : fpart (cp1 x us) x us.length = us := by
  unfold cp1
  rw [Nat.add_zero, fpart_same (nf := 16) (by rw [List.length_replicate]) hx hu (Nat.le_refl _), List.take_length]
include hy
theorem cp2_y : fpart (cp2 x y us) y us.length = us := by
  have hl := frBs_len (n := x) (cp1_len x us) hx
  unfold cp2
  rw [fpart_same (nf := 16) (cp1_len x us) hy (by omega) (by omega), frBs_take hu, cp1_x hx hu]
theorem cp2_x : fpart (cp2 x y us) x us.length = us := by
  by_cases e : x = y
  · subst e; exact cp2_y hx hx hu
  · have hl := frBs_len (n := x) (cp1_len x us) hx
    unfold cp2
    rw [fpart_other (nf := 16) (cp1_len x us) hy (by omega) hu e, cp1_x hx hu]
theorem cp3_y : fpart (cp3 x y us) y us.length = if x = y then List.replicate us.length 0 else us := by
  unfold cp3
  by_cases e : x = y
  · subst e
    rw [if_pos rfl, fpart_same (nf := 16) (cp2_len x x us) hx (by rw [zeros64_len]; omega) (by rw [zeros64_len]; exact hu)]
    unfold zeros64
    rw [List.take_replicate, Nat.min_eq_left hu]
  · rw [if_neg e, fpart_other (nf := 16) (cp2_len x y us) hx (by rw [zeros64_len]; omega) hu (fun h => e h.symm), cp2_y hx hy hu]
end
theorem cut_bytes (a : Option Addr) (len cap n : Nat) (N : Int) (hN : N = (n : Int)) (h : n ≤ cap) (w : World) : (Instr.sliceAt 50 (.slice a len cap) none (some (.int .i64 N)) none).run Try.prog w = .ok (.slice a n cap) w := by
  subst hN
  have e : Option.map (fun x : Addr => x.add 0) a = a := by
    cases a with
    | none => rfl
    | some x => simp [Addr.add]
  have h2 : (n : Int) ≤ (cap : Int) := by omega
  simp [go_sem, h, h2, e]
set_option maxRecDepth 100000 in
theorem open_bytes {H : Type} {enc : TypeId × Value → H} {W : World} {base : Nat} {held : Bool} {r : Reach} {b0 : Nat} {v : Value} {d : DataW H} {p : List MemPlace} (hv : Value.okWide Try.prog W r b0 50 v) (h : DataW.Trod enc Try.prog W base (fun _ => true) held 50 v d p) :
    ∃ a len cap zs, v = .slice a len cap ∧ InInts .u8 W a len zs ∧ len ≤ cap := by
  obtain ⟨a, len, cap, rfl⟩ := WideShapes.okWide_slice Try.underlying50 hv
  obtain ⟨zs, hz⟩ := open_inInts Try.underlying50 Try.underlying5 (by kernel_rfl) h
  refine ⟨a, len, cap, zs, rfl, hz, ?_⟩
  obtain ⟨fuel, hf⟩ := h
  rcases ChangeShapes.open_ints Try.underlying50 Try.underlying5 (by kernel_rfl) hf with ⟨hcs, _⟩ | ⟨x, l, c, zs, hcs, _, hl, _⟩
  · simp [Value.cells] at hcs; omega
  · simp [Value.cells] at hcs; omega
/-- The text of a block of bytes. -/
theorem text_blk {w : World} {h m : Nat} {xs : List Int} (hl : xs.length = m) (hb : Blk w h 5 (xs.map (Value.int .u8))) :
    (convert 50 9 (.slice (some ⟨h, 0, none⟩) m m)).run Try.prog w = .ok (.string (strOfNums xs)) w := by
  refine run_convert_bytes_arg w 50 5 Try.underlying50 Try.underlying5 h 0 m m xs hl ?_ 9 Try.underlying9
  intro i hi
  rw [Nat.zero_add]
  exact hb.at_ (map_at (f := Value.int .u8) (show i < xs.length by omega) 0)
theorem info_byte : (Try.prog.info? 5).map (fun i => (i.zero, i.size, i.bytes)) = some (some (.int .u8 0), 1, 1) := by kernel_rfl
theorem wpList_make_bytes (w : World) {ops : Array Oper} {rest : List Oper} {o : Oper} {a : Act} {Q : Exit → Act → World → Prop}
    (hg : o.guard = none) (l c : Operand) (hop : o.op = Op.makeSlice 50 l c) (kl kc : IntKind) (L C : Int) (n : Nat) (hl : a.eval l = .int kl L) (hc : a.eval c = .int kc C) (hL : L = n) (hC : C = n) (hn : n ≤ 140737488355328)
    (hK : ∀ w', Blk w' w.heap.size 5 ((List.replicate n (0 : Int)).map (Value.int .u8)) → w.grownBy w' none → wpList Try.prog ops Q rest (a.put o.dst (.slice (some ⟨w.heap.size, 0, none⟩) n n)) w') :
    wpList Try.prog ops Q (o :: rest) a w := by
  obtain ⟨i0, hi, hz0, hz1, hz2⟩ := info_parts info_byte
  refine wpList_make_full w hg l c 50 hop w.heap.size 5 i0 (.int .u8 0) 1 Try.underlying50 hi hz0 hz1 kl kc L C n hl hc hL hC (by rw [hz2]; omega) (by unfold maxLen; omega) (Nat.le_refl _) ?_
  intro w' h1 h2
  have hd := Blk.of_own_wide h1
  rw [Nat.mul_one, made_one (.int .u8 0) rfl n] at hd
  exact hK w' (by rw [List.map_replicate]; exact hd) h2
set_option maxRecDepth 100000 in
set_option maxHeartbeats 2000000 in
theorem framesCopies_walk (w0 : World) (fr : Int) (_h1 : (Lit.int .i64 fr).wf = true) (tt : Int) (_h2 : (Lit.int .i64 tt).wf = true) (a : Option Addr) (len cap : Nat) (zs : List Int) (hs : InInts .u8 w0 a len zs) (hlc : len ≤ cap) :
    Calls Try.prog 11 #[.int .i64 fr, .int .i64 tt, .slice a len cap] w0 fun e w' => e = .returned (.bool true) ∧ Below w0.heap.size w0 w' := by
  have hbx := umod_bd fr 16 (by omega) (by omega)
  generalize hx : wrap64 ((IntKind.u64.wrap fr).tmod 16) = x at hbx
  obtain ⟨x, rfl⟩ := Int.eq_ofNat_of_zero_le hbx.1
  have hby := umod_bd tt 16 (by omega) (by omega)
  generalize hy : wrap64 ((IntKind.u64.wrap tt).tmod 16) = y at hby
  obtain ⟨y, rfl⟩ := Int.eq_ofNat_of_zero_le hby.1
  have HX := Lib.hid hx; have HY := Lib.hid hy
  clear hx hy
  have hx16 : x < 16 := by omega
  have hy16 : y < 16 := by omega
  have hmx := hs.mx
  have hn : ∃ n : Nat, n ≤ len ∧ n ≤ 64 ∧ (if (64 : Int) < (len : Int) then (64 : Int) else (len : Int)) = (n : Int) := by
    by_cases h : (64 : Int) < (len : Int)
    · exact ⟨64, by omega, by omega, by rw [if_pos h]; rfl⟩
    · exact ⟨len, by omega, by omega, by rw [if_neg h]⟩
  obtain ⟨n, hnl, hn64, hmin⟩ := hn
  have hI := InB.take hs hnl
  generalize zs.take n = us at hI
  have hul := hI.ln
  obtain rfl : us.length = n := hul
  have HI := Lib.hid hI; clear hI hs
  have hcut := cut_bytes a len cap us.length (us.length : Int) rfl (by omega)
  go_enter Try.func11, Try.ntmps11
  go_wp2_with fail
  refine (fr_new 2 8 w0 (by omega) (by omega) (by omega) (by omega)).mono ?_; rintro e w1 ⟨g, b, rfl, hg, hb, hG, hB⟩
  go_wp2_with fail
  refine (holds_any w1).mono ?_; rintro e w2 ⟨rfl, hc⟩
  have hB := bel_trans hB hc
  have hG := hG.below hc
  clear hc
  go_wp2_with fail
  rw [HX.out, HY.out]
  refine (fr_save_in g b 8 (2 * 8) _ x 0 a us.length cap us w2 hG hx16 (by omega) (HI.out.below hB)).mono ?_; rintro e w3 ⟨rfl, hG2, hc⟩
  have hB := bel_ch hB hc (by simp; omega)
  have hG : StoreAt w3 g b 8 (2 * 8) (cp1 x us) := hG2
  clear hc hG2
  go_wp2_with fail
  refine (fr_copy g b 8 (2 * 8) _ x y w3 hG hx16 hy16).mono ?_; rintro e w4 ⟨rfl, hG2, hc⟩
  have hB := bel_ch hB hc (by simp; omega)
  have hG : StoreAt w4 g b 8 (2 * 8) (cp2 x y us) := hG2
  clear hc hG2
  go_wp2_with fail
  refine (fr_load g b 8 (2 * 8) _ x 0 us.length w4 hG hx16 (by omega)).mono ?_; rintro e w5 ⟨h1, c1, rfl, hown1, hc⟩
  rw [Nat.add_zero] at hown1
  replace hown1 : w5.ownsRow w4.heap.size 5 1 (.slice (some ⟨h1, 0, none⟩) us.length c1) us.length ((fpart (cp2 x y us) x us.length).map (Value.int .u8)) := hown1
  rw [cp2_x hx16 hy16 hn64] at hown1
  have hB := bel_trans hB hc
  have hG := hG.below hc
  clear hc
  go_wp2_with fail
  refine (fr_load g b 8 (2 * 8) _ y 0 us.length w5 hG hy16 (by omega)).mono ?_; rintro e w6 ⟨h2, c2, rfl, hown2, hc⟩
  rw [Nat.add_zero] at hown2
  replace hown2 : w6.ownsRow w5.heap.size 5 1 (.slice (some ⟨h2, 0, none⟩) us.length c2) us.length ((fpart (cp2 x y us) y us.length).map (Value.int .u8)) := hown2
  rw [cp2_y hx16 hy16 hn64] at hown2
  have hB := bel_trans hB hc
  have hG := hG.below hc
  have hown1 := own_below hown1 hc
  clear hc
  have tx1 := text_own rfl hown1
  have tx2 := text_own rfl hown2
  have tx3 := text_in (c := cap) (HI.out.below hB)
  have hsn : ∀ s : ByteArray, (!(s.toList == s.toList)) = false := fun s => by simp
  have hsn2 : ∀ s : ByteArray, (s.toList == s.toList) = true := fun s => by simp
  have hsn3 := hsn2 (strOfNums us)
  have hsu := hsn (strOfNums us)
  generalize hsx : strOfNums us = sx at *
  have HSX := Lib.hid hsx; clear hsx
  go_wp2_with fail
  refine (fr_clear g b 8 (2 * 8) _ x w6 hG hx16).mono ?_; rintro e w7 ⟨rfl, hG2, hc⟩
  have hB := bel_ch hB hc (by simp; omega)
  have hG : StoreAt w7 g b 8 (2 * 8) (cp3 x y us) := hG2
  clear hc hG2 hown1 hown2 tx1 tx2 tx3
  go_wp2_with fail
  refine (fr_load g b 8 (2 * 8) _ y 0 us.length w7 hG hy16 (by omega)).mono ?_; rintro e w8 ⟨h3, c3, rfl, hown3, hc⟩
  rw [Nat.add_zero] at hown3
  replace hown3 : w8.ownsRow w7.heap.size 5 1 (.slice (some ⟨h3, 0, none⟩) us.length c3) us.length ((fpart (cp3 x y us) y us.length).map (Value.int .u8)) := hown3
  rw [cp3_y hx16 hy16 hn64] at hown3
  have hB := bel_trans hB hc
  have hG := hG.below hc
  clear hc
  have tx3 := text_in (c := cap) (HI.out.below hB)
  rw [HSX.out] at tx3
  by_cases hxy : x = y
  · rw [if_pos hxy] at hown3
    have heq : ((x : Int) == (y : Int)) = true := by rw [beq_iff_eq]; omega
    clear hxy
    go_wp2_with (at_make; refine wpList_make_bytes _ rfl _ _ rfl _ _ _ _ us.length rfl rfl rfl rfl (by omega) ?_)
    intro w9 hd hgr
    have hb9 : Below w8.heap.size w8 w9 := (Below.refl _ _).grown hgr (Nat.le_refl _) (fun k h => by cases h)
    have tx4 := text_own (xs := List.replicate us.length 0) (by rw [List.length_replicate]) (own_below hown3 hb9)
    have tx5 := text_blk (xs := List.replicate us.length 0) (by rw [List.length_replicate]) (by rw [List.map_replicate]; exact hd)
    have hG := hG.below hb9
    have hB := bel_trans hB hb9
    have hsz := hsn2 (strOfNums (List.replicate us.length 0))
    clear hsn hsn2
    generalize strOfNums (List.replicate us.length 0) = sz at *
    clear hd hgr hb9 hown3 tx3
    go_wp2_with fail
    refine (fr_copy_to g b 8 (2 * 8) _ x 16 w9 hG hx16 (by omega)).mono ?_; rintro e w10 ⟨rfl, rfl⟩
    go_wp2_with fail
    refine (fr_copy_from g b 8 (2 * 8) _ (-1) y w9 hG (by omega)).mono ?_; rintro e w10 ⟨rfl, rfl⟩
    go_wp2_with fail
    go_ret
    exact ⟨rfl, hB⟩
  · rw [if_neg hxy] at hown3
    have heq : ((x : Int) == (y : Int)) = false := by rw [beq_eq_false_iff_ne]; omega
    have tx4 := text_own rfl hown3
    rw [HSX.out] at tx4
    clear hxy hown3
    go_wp2_with fail
    refine (fr_copy_to g b 8 (2 * 8) _ x 16 w8 hG hx16 (by omega)).mono ?_; rintro e w9 ⟨rfl, rfl⟩
    go_wp2_with fail
    refine (fr_copy_from g b 8 (2 * 8) _ (-1) y w8 hG (by omega)).mono ?_; rintro e w9 ⟨rfl, rfl⟩
    go_wp2_with fail
    go_ret
    exact ⟨rfl, hB⟩
end Go.Proofs.Ytkjhodaglanpmaa
