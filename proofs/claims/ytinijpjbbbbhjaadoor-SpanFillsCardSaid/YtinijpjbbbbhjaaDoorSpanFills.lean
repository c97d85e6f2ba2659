/- The law SpanFills. -/
import Derived.Test.YtinijpjbbbbhjaaDoorSpanBits
import Derived.Test.YtinijpjbbbbhjaaDoorArgs
import Derived.Test.YtinijpjbbbbhjaaDoorCuts
namespace Go.Proofs.YtinijpjbbbbhjaaDoor
open Go.RowKit
set_option linter.unusedVariables false
set_option linter.unusedSimpArgs false
attribute [local go_sem] World.cell?_alloc_lt

theorem info_int : (Tryd.prog.info? 3).map (fun i => (i.zero, i.size, i.bytes)) = some (some (.int .i64 0), 1, 8) := by kernel_rfl
def vInt (x : Nat) : Value := .int .i64 (x : Int)
def lenV : Value → Nat
  | .slice _ m _ => m
  | _ => 0
theorem idx3_2 (x y z : Int) (w : World) : (Instr.index 29 (.agg #[.int .i64 x, .int .i64 y, .int .i64 z]) (.int .i64 2)).run Tryd.prog w = .ok (.int .i64 z) w := by kernel_rfl
set_option maxRecDepth 100000 in
set_option maxHeartbeats 2000000 in
theorem spanFills_walk (w0 : World) (cl : Int) (_h1 : (Lit.int .i64 cl).wf = true) (a : Option Addr) (len cap : Nat) (zs : List Int) (hs : InInts .i64 w0 a len zs) (hb8 : len * 8 ≤ 140737488351232) (hT : Tab w0) :
    Calls Tryd.prog 7 #[.int .i64 cl, .slice a len cap] w0 fun e w' => e = .returned (.bool true) ∧ Below w0.heap.size w0 w' := by
  have hbd := umod_bd cl 4 (by omega) (by omega)
  generalize hk : wrap64 ((IntKind.u64.wrap cl).tmod 4) = c at hbd
  have HK := Lib.hid hk; clear hk
  have hix := idx3_2
  obtain ⟨i0, hi0, hz0, hz1', hz2⟩ := info_parts info_int
  go_enter Tryd.func7, Tryd.ntmps7
  go_wp2_with fail
  rw [HK.out]
  refine (new_yes c w0 hT (by omega) (by omega)).mono ?_; rintro e w1 ⟨g, rfl, hg, hS, hb⟩
  go_wp2_with fail
  refine (row_yes c _ (by omega) (by omega)).mono ?_; rintro e w2 ⟨rfl, hb2⟩
  have hS := hS.below hb2
  have hb2 := bel_trans hb hb2
  have hc4 := cnt_pos c
  have hc8 := cnt8 c
  clear hb
  obtain ⟨n, hn⟩ := Int.eq_ofNat_of_zero_le (show 0 ≤ cntOf c by omega)
  have HN := Lib.hid hn
  rw [hn] at hc4 hc8
  rw [hn]
  clear hn
  generalize szOf c = s1 at *
  generalize ordOf c = s2 at *
  go_wp2_with fail
  refine (spans_any _ (hT.below hb2)).mono ?_; rintro e w3 ⟨rfl, hb3⟩
  have hS := hS.below hb3
  have hb3 := bel_trans hb2 hb3
  clear hb2
  go_wp2_with fail
  have hB := hb3
  clear hb3
  have hown : w3.ownsRow w0.heap.size 3 1 (.slice none 0 0) 0 ((List.range 0).map vInt) := ⟨rfl, Or.inl ⟨rfl, rfl⟩⟩
  go_loopw [9, 10] (fun lf vi wx => ∃ (i : Nat) (A : Option Addr) (cp : Nat), i ≤ n ∧ vi = .int .i64 i ∧ lf = .slice A i cp ∧ wx.ownsRow w0.heap.size 3 1 (.slice A i cp) i ((List.range i).map vInt) ∧ SpanAt wx g c (2 ^ i - 1) ∧ Below w0.heap.size w0 wx) (fun _ vi _ => n - (intOf vi).toNat)
  case atStart => exact ⟨0, none, 0, by omega, rfl, rfl, hown, hS, hB⟩
  case round =>
    clear hown hS hB
    obtain ⟨i, A, cp, hi, rfl, rfl, hown, hS, hB⟩ := hrel
    have hi8 : i ≤ 8 := by omega
    by_cases hin : i < n
    · obtain ⟨ft, fo, fc, fl⟩ := fill_take i (by omega)
      have FO := Lib.hid fo; have FC := Lib.hid fc
      clear fo fc
      obtain ⟨bl, hfu, heq⟩ : ∃ bl : Bool, ((ocN (2 ^ (i + 1) - 1) : Int) == cntOf c) = bl ∧ ((i : Int) == (n : Int) - 1) = bl := by
        by_cases hl : i + 1 = n
        · exact ⟨true, by rw [HN.out, FC.out, beq_iff_eq]; omega, by rw [beq_iff_eq]; omega⟩
        · exact ⟨false, by rw [HN.out, FC.out, beq_eq_false_iff_ne]; omega, by rw [beq_eq_false_iff_ne]; omega⟩
      have HFU := Lib.hid hfu; clear hfu
      have hTK := fun w hS => take_yes g c (2 ^ i - 1) i w hS ft (by rw [HN.out]; omega) (by omega) fl
      rw [FO.out] at hTK
      have HTK := Lib.hid hTK; clear hTK ft fl
      go_wp2_with fail
      refine (HTK.out _ hS).mono ?_; rintro e w4 ⟨rfl, hS4, hc⟩
      have hc4 : Ch [g] wr w4 := (Ch.refl _ wr).grown hc (fun k hk => by cases hk; exact Or.inl (by simp))
      have hown := own_ch hown hc4 (fun q hq => own_ne_blk hown (t := 56) (cs := [.int .i64 c, .int .i64 (szOf c), .int .i64 (cntOf c), .int .u8 ((2 ^ i - 1 : Nat) : Int)]) hS.blk (by decide) q hq |> (by simpa using ·))
      have hB := bel_ch hB hc4 (by simpa using hg)
      clear hc hc4 hS
      go_wp2_with fail
      refine (full_at g c _ w4 hS4).mono ?_; rintro e w5 ⟨rfl, hc⟩
      rw [HFU.out]
      have hS5 := hS4.below hc
      have hown := own_below hown hc
      have hB := bel_trans hB hc
      clear hc hS4
      go_wp2_with (at_builtin; refine wpList_push _ rfl (.tmp 61) (.tmp 63) 34 rfl w0.heap.size 3 (.int .i64 0) 8 Tryd.underlying34 info_int rfl A i cp ((List.range i).map vInt) rfl (hown.alloc _) _ 1 (vInt i) rfl ?_ rfl (by omega) (by omega) ?_ ?_)
      · exact World.cell?_alloc_new _ _ _ 0
      · simp; have := hB.size; omega
      intro ga cp2 w6 hown6 hgr6 hor
      have hc6 : Ch ((Value.slice A i cp).ownBlock.toList) w5 w6 := ((Ch.refl _ w5).alloc (.cells #[vInt i] 3)).grown hgr6 (fun k hk => Or.inl (by rw [hk]; simp))
      have hB6 := bel_ch hB hc6 (fun q hq => by simp at hq; exact (own_base hown q hq).1)
      have hS6 : SpanAt w6 g c (2 ^ (i + 1) - 1) := ⟨(hc6.block g hS5.lt (fun hm => by simp at hm; exact own_ne_blk hown (t := 56) (cs := [.int .i64 c, .int .i64 (szOf c), .int .i64 (cntOf c), .int .u8 ((2 ^ (i + 1) - 1 : Nat) : Int)]) hS5.blk (by decide) g hm rfl)).trans hS5.blk, hS5.c0, hS5.c3, hS5.ht⟩
      have hown6 : w6.ownsRow w0.heap.size 3 1 (.slice (some ⟨ga, 0, none⟩) (i + 1) cp2) (i + 1) ((List.range (i + 1)).map vInt) := by rw [List.range_succ, List.map_append]; exact hown6
      clear hown hgr6 hor hB hS5 hc6
      go_wp2
      go_roundw
      case rel => exact ⟨i + 1, some ⟨ga, 0, none⟩, cp2, by omega, by go_num, rfl, hown6, hS6, hB6⟩
      case measure => simp [intOf]; omega
    · obtain rfl : i = n := by omega
      have htz := fill_tz i hi8
      have hTN := fun w hS => take_no g c (2 ^ i - 1) w hS (by rw [HN.out, htz]; omega)
      have HTN := Lib.hid hTN; clear hTN htz
      have hbits := full_bits i hi8
      go_wp2_with fail
      refine (HTN.out _ hS).mono ?_; rintro e w4 ⟨rfl, rfl⟩
      go_wp2_with fail
      clear hin
      have hB8 : w0.heap.size ≤ wr.heap.size := hB.size
      go_loopw [9, 15] (fun lf vi wx => ∃ (L : List Nat) (t : Nat) (A : Option Addr) (cp j : Nat), lf = .slice A L.length cp ∧ vi = .int .i64 j ∧ wx.ownsRow w0.heap.size 3 1 (.slice A L.length cp) L.length (L.map vInt) ∧ L.Nodup ∧ (∀ x ∈ L, x < i) ∧ Bits t L ∧ SpanAt wx g c t ∧ j + L.length ≤ 8 ∧ Below w0.heap.size w0 wx) (fun lf _ _ => lenV lf)
      case atStart => exact ⟨List.range i, _, A, cp, 0, by rw [List.length_range], rfl, by rw [List.length_range]; exact hown, List.nodup_range, fun x hx => List.mem_range.1 hx, hbits, hS, by rw [List.length_range]; omega, hB⟩
      case round =>
        clear hown hS hB hbits hB8
        obtain ⟨L, t, A, cp, j, rfl, rfl, hown, hnd, hlt, hbits, hS, hj8, hB⟩ := hrel
        by_cases hL : 0 < L.length
        · obtain ⟨k, z, hk, hkz⟩ : ∃ (k : Nat) (z : Int), k < L.length ∧ ((j < len → z = zs.getD j 0 ∧ wrap64 ((IntKind.u64.wrap z).tmod (L.length : Int)) = (k : Int)) ∧ (len ≤ j → k = 0)) := by
            by_cases h : j < len
            · have hb := umod_bd (zs.getD j 0) (L.length : Int) (by omega) (by omega)
              obtain ⟨k, hk⟩ := Int.eq_ofNat_of_zero_le hb.1
              exact ⟨k, zs.getD j 0, by omega, fun _ => ⟨rfl, hk⟩, fun h2 => by omega⟩
            · exact ⟨0, 0, hL, fun h2 => by omega, fun _ => rfl⟩
          have hx8 : L.getD k 0 < i := hlt _ (by rw [List.getD_eq_getElem?_getD, List.getElem?_eq_getElem hk]; exact List.getElem_mem hk)
          have hkx : L[k]? = some (L.getD k 0) := by rw [List.getD_eq_getElem?_getD, List.getElem?_eq_getElem hk]; rfl
          generalize L.getD k 0 = x at *
          have hkv : (L.map vInt)[k]? = some (vInt x) := by rw [List.getElem?_map, hkx]; rfl
          obtain ⟨ga, rfl, kc, hga, hga0, _⟩ := own_at hown hkv
          have hmem : x ∈ L := List.mem_of_getElem? hkx
          have hbx := (hbits.at_ x (by omega)).2 hmem
          have hemem := erase_mem hnd hkx
          have hend := erase_nodup hnd k
          have hbits2 := hbits.give (by omega) hemem
          have hnb : ¬ anN t x / 2 ^ x % 2 = 1 := fun h => by have := ((hbits2.at_ x (by omega)).1 h); rw [hemem] at this; exact this.2 rfl
          have hcp := own_cap hown
          have hix := fun w => idx_own ga L.length cp k hk w
          have hGY := fun w hS => give_yes g c t x w hS (by rw [HN.out]; omega) hbx hbits2.lt
          have hGN := fun w hS => give_no g c (anN t x) x w hS (Or.inr ⟨by omega, by rw [HN.out]; omega, by rw [Int.toNat_natCast]; exact hnb⟩)
          have HGY := Lib.hid hGY; have HGN := Lib.hid hGN
          have HE := Lib.hid hemem; have HD := Lib.hid hend; have HB2 := Lib.hid hbits2
          have HND := Lib.hid hnd; have HLT := Lib.hid hlt
          have vInt_one1 : ∀ u ∈ (L.map vInt).take k, u.oneCell' = true := fun u hu => by obtain ⟨q, _, rfl⟩ := List.mem_map.1 (List.mem_of_mem_take hu); rfl
          have vInt_one2 : ∀ u ∈ (L.map vInt).drop (k + 1), u.oneCell' = true := fun u hu => by obtain ⟨q, _, rfl⟩ := List.mem_map.1 (List.mem_of_mem_drop hu); rfl
          clear hGY hGN hkx hmem hbx hemem hend hbits2 hnb hbits hnd hlt
          by_cases hjl : j < len
          · obtain ⟨hz, hkk⟩ := hkz.1 hjl
            obtain ⟨bx, off, rfl, hbx, hcell⟩ := hs.at_ (by omega)
            have hzc : wr.cell? ⟨bx, off + j, none⟩ = some (.int .i64 z) := by rw [hz]; exact (hB.cell (p := ⟨bx, off + j, none⟩) hbx).trans (hcell j hjl)
            have hix2 := fun w => idx_int (b := bx) (off := off) (cap := cap) rfl hjl w
            clear hz hcell hkz
            go_wp2_with fail
            refine (HGY.out _ hS).mono ?_; rintro e w4 ⟨rfl, hS4, hc⟩
            have hc4 : Ch [g] wr w4 := (Ch.refl _ wr).grown hc (fun q hq => by cases hq; exact Or.inl (by simp))
            have hown4 := own_ch hown hc4 (fun q hq => own_ne_blk hown (t := 56) (cs := [.int .i64 c, .int .i64 (szOf c), .int .i64 (cntOf c), .int .u8 (t : Int)]) hS.blk (by decide) q hq |> (by simpa using ·))
            have hB4 := bel_ch hB hc4 (by simpa using hg)
            obtain ⟨g2, hA2, kc4, _⟩ := own_at hown4 hkv
            obtain rfl : ga = g2 := by injection hA2 with hA2; injection hA2
            clear hc hc4 hS hown hB hA2 kc
            go_wp2_with fail
            refine (HGN.out _ hS4).mono ?_; rintro e w5 ⟨rfl, rfl⟩
            go_wp2_with fail
            have hcl := fun w => cut_hi_int ga L.length cp k (k : Int) rfl (by omega) w
            have hcd := fun w => cut_lo_int ga L.length cp (k + 1) ((k : Int) + 1) (by omega) (by omega) hcp w
            have hr1 := (reads_hi hown4 (Nat.le_of_lt hk)).alloc (Nat.le_refl _) (.cells #[] 3)
            have hr2 := (reads_lo hown4 (show k + 1 ≤ L.length by omega) hcp).alloc (Nat.le_refl _) (.cells #[] 3)
            have hma := own_made0 w4 w0.heap.size 3 1 hB4.size
            have hB5 := bel_alloc hB4 (.cells #[] 3)
            have hz1 : w0.heap.size ≤ w4.heap.size := hB4.size
            have hgl4 := hS4.lt
            have hSa : SpanAt (w4.alloc (.cells #[] 3)) g c (anN t x) := hS4.below (bel_alloc (Below.refl _ _) _)
            have HR1 := Lib.hid hr1; have HR2 := Lib.hid hr2; have HMA := Lib.hid hma; have HB5 := Lib.hid hB5; have HSA := Lib.hid hSa
            clear hr1 hr2 hma hB5 hSa hown4 hB4 hS4
            have hw64 : IntKind.i64.wrap ((k : Int) + 1) = (k : Int) + 1 := i64_sm (by omega) (by omega)
            go_region_held3 (fun _ => True) (trivial)
              (first
                | (refine step_append_any _ (by rfl) (.tmp 105) (.tmp 108) _ (by rfl) w0.heap.size 3 i0 _ 1 8 Tryd.underlying34 hi0 hz0 hz1' hz2 rfl (by omega) (.slice (some ⟨w4.heap.size, 0, none⟩) 0 0) 0 [] (by rfl) (by first | exact HMA.out | exact HMA.out.drew) w4.heap.size (some ⟨ga, 0, none⟩) k cp ((L.map vInt).take k) (by rfl) (by first | exact HR1.out | exact HR1.out.drew) vInt_one1 (by unfold maxLen; omega) (by omega) (by simp; omega) ?_; intro v6 w6 hown6 hgr6 hor6)
                | (refine step_append_any _ (by rfl) (.tmp 109) (.tmp 113) _ (by rfl) w0.heap.size 3 i0 _ 1 8 Tryd.underlying34 hi0 hz0 hz1' hz2 rfl (by omega) v6 (0 + k) ([] ++ (L.map vInt).take k) (by rfl) (by first | exact hown6 | exact hown6.drew) w4.heap.size (cutA ga cp (k + 1)) (L.length - (k + 1)) (cp - (k + 1)) ((L.map vInt).drop (k + 1)) (by rfl) (by first | exact HR2.out.grown hgr6 (by simp) (fun q hq => by simp [Value.ownBlock] at hq; omega) | exact HR2.out.drew.grown hgr6 (by simp) (fun q hq => by simp [Value.ownBlock] at hq; omega)) vInt_one2 (by unfold maxLen; omega) (by omega) (by have := hgr6.size; simp at this; omega) ?_; intro v7 w7 hown7 hgr7 hor7))
            clear hw64
            have e6 : ∀ q, v6.ownBlock = some q → w4.heap.size ≤ q := by
              intro q hq
              rcases hor6 with h | h <;> rw [h] at hq <;> simp [Value.ownBlock] at hq <;> omega
            have hB6 : Below w0.heap.size w0 w6 := by
              first | exact HB5.out.grown hgr6 (by simp; omega) (fun q hq => by simp [Value.ownBlock] at hq; omega) | exact (HB5.out.drew).grown hgr6 (by simp; omega) (fun q hq => by simp [Value.ownBlock] at hq; omega)
            have hgl : g < w4.heap.size := hgl4
            have hS6 : SpanAt w6 g c (anN t x) := ⟨(hgr6.block g (by simp; omega) (by simp [Value.ownBlock]; omega)).trans HSA.out.blk, HSA.out.c0, HSA.out.c3, HSA.out.ht⟩
            have hgl6 := hS6.lt
            have hB7 : Below w0.heap.size w0 w7 := by
              first | exact hB6.grown hgr7 hB6.size (fun q hq => by have := e6 q hq; omega) | exact (hB6.drew).grown hgr7 hB6.size (fun q hq => by have := e6 q hq; omega)
            have hS7 : SpanAt w7 g c (anN t x) := ⟨(hgr7.block g hgl6 (fun hq => by have := e6 g hq.symm; omega)).trans hS6.blk, hS6.c0, hS6.c3, hS6.ht⟩
            have hel : (L.take k ++ L.drop (k + 1)).length = 0 + k + (L.length - (k + 1)) := by simp; omega
            have helm : (L.take k ++ L.drop (k + 1)).length + 1 = L.length := by rw [hel]; omega
            have hem : [] ++ (L.map vInt).take k ++ (L.map vInt).drop (k + 1) = (L.take k ++ L.drop (k + 1)).map vInt := by simp
            rw [hem, ← hel] at hown7
            obtain ⟨A2, cp2, rfl⟩ := own_slice hown7
            generalize L.take k ++ L.drop (k + 1) = L2 at *
            clear hel hem hgr6 hgr7 hor6 hor7 hown6 hB6 hS6 HSA HB5 HMA HR1 HR2 hcl hcd
            go_wp2
            go_roundw
            case rel => exact ⟨L2, _, A2, cp2, j + 1, rfl, by go_num, hown7, HD.out, fun y hy => HLT.out y ((HE.out y).1 hy).1, HB2.out, hS7, by omega, hB7⟩
            case measure => simp [lenV]; omega
          · have hz0 : (0 : Int) = (k : Int) := by have := hkz.2 (by omega); omega
            have hix0 : ∀ w : World, (Instr.indexAt 34 (.slice (some ⟨ga, 0, none⟩) L.length cp) (.int .i64 0)).run Tryd.prog w = .ok (.pointer (some ⟨ga, k, none⟩)) w := fun w => by rw [hz0]; exact hix w
            have HZ := Lib.hid hz0
            clear hkz hz0 hix
            go_wp2_with fail
            refine (HGY.out _ hS).mono ?_; rintro e w4 ⟨rfl, hS4, hc⟩
            have hc4 : Ch [g] wr w4 := (Ch.refl _ wr).grown hc (fun q hq => by cases hq; exact Or.inl (by simp))
            have hown4 := own_ch hown hc4 (fun q hq => own_ne_blk hown (t := 56) (cs := [.int .i64 c, .int .i64 (szOf c), .int .i64 (cntOf c), .int .u8 (t : Int)]) hS.blk (by decide) q hq |> (by simpa using ·))
            have hB4 := bel_ch hB hc4 (by simpa using hg)
            obtain ⟨g2, hA2, kc4, _⟩ := own_at hown4 hkv
            obtain rfl : ga = g2 := by injection hA2 with hA2; injection hA2
            clear hc hc4 hS hown hB hA2 kc
            go_wp2_with fail
            refine (HGN.out _ hS4).mono ?_; rintro e w5 ⟨rfl, rfl⟩
            go_wp2_with fail
            have hcl := fun w => cut_hi_int ga L.length cp k 0 HZ.out (by omega) w
            have hcd := fun w => cut_lo_int ga L.length cp (k + 1) 1 (by have := HZ.out; omega) (by omega) hcp w
            have hr1 := (reads_hi hown4 (Nat.le_of_lt hk)).alloc (Nat.le_refl _) (.cells #[] 3)
            have hr2 := (reads_lo hown4 (show k + 1 ≤ L.length by omega) hcp).alloc (Nat.le_refl _) (.cells #[] 3)
            have hma := own_made0 w4 w0.heap.size 3 1 hB4.size
            have hB5 := bel_alloc hB4 (.cells #[] 3)
            have hz1 : w0.heap.size ≤ w4.heap.size := hB4.size
            have hgl4 := hS4.lt
            have hSa : SpanAt (w4.alloc (.cells #[] 3)) g c (anN t x) := hS4.below (bel_alloc (Below.refl _ _) _)
            have HR1 := Lib.hid hr1; have HR2 := Lib.hid hr2; have HMA := Lib.hid hma; have HB5 := Lib.hid hB5; have HSA := Lib.hid hSa
            clear hr1 hr2 hma hB5 hSa hown4 hB4 hS4
            have hw1 : IntKind.i64.wrap 1 = 1 := i64_sm (by omega) (by omega)
            have hw2 : IntKind.i64.wrap (0 + 1) = 1 := i64_sm (by omega) (by omega)
            have hw3 : (1 : Int) ≤ (L.length : Int) := by omega
            go_region_held3 (fun _ => True) (trivial)
              (first
                | (refine step_append_any _ (by rfl) (.tmp 105) (.tmp 108) _ (by rfl) w0.heap.size 3 i0 _ 1 8 Tryd.underlying34 hi0 hz0 hz1' hz2 rfl (by omega) (.slice (some ⟨w4.heap.size, 0, none⟩) 0 0) 0 [] (by rfl) (by first | exact HMA.out | exact HMA.out.drew) w4.heap.size (some ⟨ga, 0, none⟩) k cp ((L.map vInt).take k) (by rfl) (by first | exact HR1.out | exact HR1.out.drew) vInt_one1 (by unfold maxLen; omega) (by omega) (by simp; omega) ?_; intro v6 w6 hown6 hgr6 hor6)
                | (refine step_append_any _ (by rfl) (.tmp 109) (.tmp 113) _ (by rfl) w0.heap.size 3 i0 _ 1 8 Tryd.underlying34 hi0 hz0 hz1' hz2 rfl (by omega) v6 (0 + k) ([] ++ (L.map vInt).take k) (by rfl) (by first | exact hown6 | exact hown6.drew) w4.heap.size (cutA ga cp (k + 1)) (L.length - (k + 1)) (cp - (k + 1)) ((L.map vInt).drop (k + 1)) (by rfl) (by first | exact HR2.out.grown hgr6 (by simp) (fun q hq => by simp [Value.ownBlock] at hq; omega) | exact HR2.out.drew.grown hgr6 (by simp) (fun q hq => by simp [Value.ownBlock] at hq; omega)) vInt_one2 (by unfold maxLen; omega) (by omega) (by have := hgr6.size; simp at this; omega) ?_; intro v7 w7 hown7 hgr7 hor7))
            have e6 : ∀ q, v6.ownBlock = some q → w4.heap.size ≤ q := by
              intro q hq
              rcases hor6 with h | h <;> rw [h] at hq <;> simp [Value.ownBlock] at hq <;> omega
            have hB6 : Below w0.heap.size w0 w6 := by
              first | exact HB5.out.grown hgr6 (by simp; omega) (fun q hq => by simp [Value.ownBlock] at hq; omega) | exact (HB5.out.drew).grown hgr6 (by simp; omega) (fun q hq => by simp [Value.ownBlock] at hq; omega)
            have hgl : g < w4.heap.size := hgl4
            have hS6 : SpanAt w6 g c (anN t x) := ⟨(hgr6.block g (by simp; omega) (by simp [Value.ownBlock]; omega)).trans HSA.out.blk, HSA.out.c0, HSA.out.c3, HSA.out.ht⟩
            have hgl6 := hS6.lt
            have hB7 : Below w0.heap.size w0 w7 := by
              first | exact hB6.grown hgr7 hB6.size (fun q hq => by have := e6 q hq; omega) | exact (hB6.drew).grown hgr7 hB6.size (fun q hq => by have := e6 q hq; omega)
            have hS7 : SpanAt w7 g c (anN t x) := ⟨(hgr7.block g hgl6 (fun hq => by have := e6 g hq.symm; omega)).trans hS6.blk, hS6.c0, hS6.c3, hS6.ht⟩
            have hel : (L.take k ++ L.drop (k + 1)).length = 0 + k + (L.length - (k + 1)) := by simp; omega
            have helm : (L.take k ++ L.drop (k + 1)).length + 1 = L.length := by rw [hel]; omega
            have hem : [] ++ (L.map vInt).take k ++ (L.map vInt).drop (k + 1) = (L.take k ++ L.drop (k + 1)).map vInt := by simp
            rw [hem, ← hel] at hown7
            obtain ⟨A2, cp2, rfl⟩ := own_slice hown7
            generalize L.take k ++ L.drop (k + 1) = L2 at *
            clear hel hem hgr6 hgr7 hor6 hor7 hown6 hB6 hS6 HSA HB5 HMA HR1 HR2 hcl hcd
            go_wp2
            go_roundw
            case rel => exact ⟨L2, _, A2, cp2, j + 1, rfl, by go_num, hown7, HD.out, fun y hy => HLT.out y ((HE.out y).1 hy).1, HB2.out, hS7, by omega, hB7⟩
            case measure => simp [lenV]; omega
        · have hl0 : L = [] := List.eq_nil_of_length_eq_zero (by omega)
          subst hl0
          have ht0 := hbits.nil
          subst ht0
          have ho0 : ocN 0 = 0 := by decide
          have HO0 := Lib.hid ho0; clear ho0
          clear hL
          go_wp2_with fail
          refine (empty_at g c 0 _ hS).mono ?_; rintro e w4 ⟨rfl, rfl⟩
          rw [HO0.out]
          go_wp2_with fail
          refine (used_at g c 0 _ hS).mono ?_; rintro e w4 ⟨rfl, rfl⟩
          rw [HO0.out]
          go_wp2_with fail
          go_ret
          exact ⟨rfl, hB⟩
end Go.Proofs.YtinijpjbbbbhjaaDoor
