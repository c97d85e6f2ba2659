/- The law MemoryParts. -/
import Derived.Test.YtpajbpgpbfmebaaMemMoves
import Derived.Deep.RegionHeld3
import Derived.Laws.BitsAllLaws
import Derived.StillTailTactics
namespace Go.Proofs.Ytpajbpgpbfmebaa
open Go.RowKit
set_option linter.unusedVariables false
set_option linter.unusedSimpArgs false
attribute [local go_sem] World.cell?_alloc_lt

/-- The frames that are left. -/
structure LeftInv (p : Nat) (L : List Int) (mt mf : List (Int × Int)) : Prop where
  ln : L.length = 8 - p
  nd : L.Nodup
  fr : ∀ f ∈ L, 0 ≤ f ∧ f < 8 ∧ mget mf f = none
  mp : ∀ q : Nat, q < p → mapped mt q
  no : ∀ q : Nat, p ≤ q → mget mt (q : Int) = none
theorem left_start : LeftInv 0 [0, 1, 2, 3, 4, 5, 6, 7] [] [] := by
  refine ⟨rfl, by decide, ?_, fun q h => by omega, fun q _ => rfl⟩
  intro f hf
  simp at hf
  exact ⟨by omega, by omega, rfl⟩
theorem LeftInv.step {p k : Nat} {L : List Int} {mt mf : List (Int × Int)} (h : LeftInv p L mt mf) (hk : k < L.length) : LeftInv (p + 1) (L.take k ++ L.drop (k + 1)) (mput mt p (L.getD k 0)) (mput mf (L.getD k 0) p) := by
  have hln := h.ln
  have hg : L.getD k 0 = L[k] := by rw [List.getD_eq_getElem?_getD, List.getElem?_eq_getElem hk]; rfl
  rw [hg]
  have hsub : ∀ f ∈ L.take k ++ L.drop (k + 1), f ∈ L ∧ f ≠ L[k] := by
    intro f hf
    have hnd := h.nd
    rw [← List.take_append_drop k L, List.drop_eq_getElem_cons hk, List.nodup_append] at hnd
    obtain ⟨_, h2, h3⟩ := hnd
    rw [List.nodup_cons] at h2
    rcases List.mem_append.1 hf with hf | hf
    · exact ⟨List.mem_of_mem_take hf, h3 f hf _ (List.mem_cons_self ..)⟩
    · exact ⟨List.mem_of_mem_drop hf, fun e => h2.1 (e ▸ hf)⟩
  refine ⟨by rw [List.length_append, List.length_take, List.length_drop]; omega, ?_, ?_, ?_, ?_⟩
  · have hnd := h.nd
    refine List.Nodup.sublist ?_ hnd
    conv => rhs; rw [← List.take_append_drop k L]
    refine List.Sublist.append (List.Sublist.refl _) ?_
    rw [← List.drop_drop]
    exact List.drop_sublist _ _
  · intro f hf
    obtain ⟨h1, h2⟩ := hsub f hf
    obtain ⟨h3, h4, h5⟩ := h.fr f h1
    refine ⟨h3, h4, ?_⟩
    rw [mget_put, if_neg (fun e => h2 e.symm)]
    exact h5
  · intro q hq
    unfold mapped
    rw [mget_put]
    by_cases e : (p : Int) = (q : Int)
    · rw [if_pos e]; rfl
    · rw [if_neg e]; exact h.mp q (by omega)
  · intro q hq
    rw [mget_put, if_neg (by omega)]
    exact h.no q (by omega)
theorem own_capV {w : World} {base e n : Nat} {v : Value} {xs : List Value} (h : w.ownsRow base e 1 v n xs) (h0 : 0 < n) : ∃ g c, v = .slice (some ⟨g, 0, none⟩) n c ∧ n ≤ c ∧ base ≤ g ∧ g < w.heap.size := by
  rcases h.2 with ⟨_, h2⟩ | ⟨g, cap, cur, hv, hb, hh, h1, _⟩
  · omega
  · exact ⟨g, cap, hv, h1, hb, (Array.getElem?_eq_some_iff.1 hh).1⟩
theorem own_ne_mapV {α : Type} {κ : Keys α} {w : World} {base e s n b : Nat} {v : Value} {xs : List Value} {m : List (α × Value)} (h : w.ownsRow base e s v n xs) (hm : MapAt κ w b m) : ∀ g, v.ownBlock = some g → g ≠ b := by
  intro g hg ee
  subst ee
  obtain ⟨cur, hh⟩ := own_blkV h g hg
  obtain ⟨es, clock, hb, _⟩ := hm.ex
  rw [hh] at hb
  cases hb
theorem info_int : (Try.prog.info? 3).map (fun i => (i.zero, i.size, i.bytes)) = some (some (.int .i64 0), 1, 8) := by kernel_rfl
theorem ints_ok (l : List Int) : ∀ u ∈ l.map (Value.int .i64), u.oneCell' = true := by intro u hu; obtain ⟨z, _, rfl⟩ := List.mem_map.1 hu; rfl
theorem bel_grn {w a b : World} {row : Option Nat} (h : Below w.heap.size w a) (hg : a.grownBy b row) (hr : ∀ k, row = some k → w.heap.size ≤ k) : Below w.heap.size w b := h.grown hg h.size hr
def xr (u : Int) : Int := bits .xor .u8 u 1
theorem xr_xr (u : Int) (h0 : 0 ≤ u) (h1 : u < 256) : xr (xr u) = u := by
  obtain ⟨k, rfl⟩ := Int.eq_ofNat_of_zero_le h0
  unfold xr
  have hk : k ^^^ 1 < 2 ^ 8 := Nat.xor_lt_two_pow (by omega) (by omega)
  have e1 := u8_xor_nat k 1 (by omega) (by omega)
  have e2 := u8_xor_nat (k ^^^ 1) 1 (by omega) (by omega)
  rw [show bits .xor .u8 (k : Int) 1 = ((k ^^^ 1 : Nat) : Int) from e1, show bits .xor .u8 ((k ^^^ 1 : Nat) : Int) 1 = ((k ^^^ 1 ^^^ 1 : Nat) : Int) from e2, Nat.xor_assoc, Nat.xor_self, Nat.xor_zero]
theorem xr_map (us : List Int) (h : ∀ u ∈ us, 0 ≤ u ∧ u < 256) : (us.map xr).map xr = us := by
  rw [List.map_map]
  conv => rhs; rw [← List.map_id us]
  exact List.map_congr_left fun u hu => xr_xr u (h u hu).1 (h u hu).2
/-- The bytes after i rounds. -/
def curL (us : List Int) (i : Nat) : List Int := (us.take i).map xr ++ us.drop i
theorem curL_len (us : List Int) (i : Nat) : (curL us i).length = us.length := by unfold curL; rw [List.length_append, List.length_map, List.length_take, List.length_drop]; omega
theorem curL_at (us : List Int) (i : Nat) (h : i < us.length) : (curL us i)[i]? = some (us.getD i 0) := by
  unfold curL
  rw [List.getElem?_append_right (by rw [List.length_map, List.length_take]; omega), List.length_map, List.length_take, Nat.min_eq_left (by omega), Nat.sub_self, List.getElem?_drop, Nat.add_zero, List.getD_eq_getElem?_getD, List.getElem?_eq_getElem h]
  rfl
theorem curL_set (us : List Int) (i : Nat) (h : i < us.length) : (curL us i).set i (xr (us.getD i 0)) = curL us (i + 1) := by
  unfold curL
  rw [List.set_append_right _ _ (by rw [List.length_map, List.length_take]; omega), List.length_map, List.length_take, Nat.min_eq_left (by omega), Nat.sub_self, List.drop_eq_getElem_cons h, List.set_cons_zero, List.take_succ_eq_append_getElem h, List.map_append, List.append_assoc, List.getD_eq_getElem?_getD, List.getElem?_eq_getElem h]
  rfl
theorem rd_one {nf : Nat} {mt mf : List (Int × Int)} {bs us : List Int} {a n i : Nat} (h : rdB mt bs a n = us) (hi : i < n) : rdB mt bs (a + i) 1 = [us.getD i 0] := by
  have h1 := rdB_at (mt := mt) bs a n i
  rw [h, if_pos hi] at h1
  rw [List.getD_eq_getElem?_getD, h1]
  unfold rdB
  simp [List.range_succ]
theorem rd_set {nf : Nat} {mt mf : List (Int × Int)} {bs us : List Int} {a n i : Nat} (hF : Fair nf mt mf) (hl : bs.length = nf * 64) (hm : ∀ k, a ≤ k → k < a + n → mapped mt (k / 64)) (h : rdB mt bs a n = us) (hi : i < n) (v : Int) : rdB mt (wrB mt bs (a + i) [v]) a n = us.set i v := by
  apply List.ext_getElem?
  intro j
  rw [← h, rdB_at, List.getElem?_set, rdB_len, rdB_at]
  by_cases hj : j < n
  · rw [if_pos hj, if_pos hj]
    have hw : wrB mt bs (a + i) [v] = bs.set (posN mt (a + i)) v := rfl
    rw [hw]
    by_cases e : i = j
    · subst e
      rw [if_pos rfl, if_pos hj, List.getD_eq_getElem?_getD, List.getElem?_set_self (by rw [hl]; exact pos_lt hF (hm _ (by omega) (by omega)))]
      rfl
    · rw [if_neg e, List.getD_eq_getElem?_getD, List.getD_eq_getElem?_getD, List.getElem?_set_ne (fun e2 => e (by have := pos_inj hF (hm _ (by omega) (by omega)) (hm _ (by omega) (by omega)) e2; omega))]
  · rw [if_neg hj, if_neg hj]
    by_cases e : i = j
    · subst e; exact absurd hi hj
    · rw [if_neg e]
theorem InB.blk1 {w : World} {q : Nat} {v : Int} (h : Blk w q 5 [.int .u8 v]) : InB w (some ⟨q, 0, none⟩) 1 [v] :=
  ⟨rfl, fun _ => ⟨q, 0, rfl, h.lt, fun j u hj => by rw [Nat.zero_add]; exact h.at_ (by match j, hj with | 0, hj => injection hj with hj; subst hj; rfl)⟩⟩
theorem keep1 {w w' : World} {S : List Nat} {p q o : Nat} {x y : Value} (k : Ch S w w') (h1 : p ∉ S) (h2 : q ∉ S) (h : w.cell? ⟨p, 0, none⟩ = some x ∧ w.cell? ⟨q, o, none⟩ = some y) : w'.cell? ⟨p, 0, none⟩ = some x ∧ w'.cell? ⟨q, o, none⟩ = some y := ⟨ch_keep k h1 h.1, ch_keep k h2 h.2⟩
theorem idx_own_b (g m cp i : Nat) (hi : i < m) (w : World) : (Instr.indexAt 23 (.slice (some ⟨g, 0, none⟩) m cp) (.int .i64 (i : Int))).run Try.prog w = .ok (.pointer (some ⟨g, i, none⟩)) w := by
  simp [go_sem, hi]
theorem own_frz {w : World} {base e g n c i : Nat} {xs : List Value} (h : w.ownsRow base e 1 (.slice (some ⟨g, 0, none⟩) n c) n xs) (hi : i < n) : w.frozen? ⟨g, i, none⟩ = false := by
  obtain ⟨cur, hh⟩ := own_blkV h g rfl
  exact (show Blk w g e cur.toList from by unfold Blk; rw [hh]).frozen i
def initL : List Int := [0, 1, 2, 3, 4, 5, 6, 7]
theorem own_init (w : World) (base : Nat) (hb : base ≤ w.heap.size) : (w.alloc (.cells #[.int .i64 0, .int .i64 1, .int .i64 2, .int .i64 3, .int .i64 4, .int .i64 5, .int .i64 6, .int .i64 7] 3)).ownsRow base 3 1 (.slice (some ⟨w.heap.size, 0, none⟩) 8 8) 8 (initL.map (Value.int .i64)) :=
  ⟨rfl, Or.inr ⟨w.heap.size, 8, _, rfl, hb, heap_alloc_new w _, by omega, by first | simp | decide, by first | rfl | simp, by first | rfl | simp [initL]⟩⟩
theorem grown_alloc (w : World) (o : Obj) (row : Option Nat) : w.grownBy (w.alloc o) row := ⟨rfl, rfl, rfl, by simp, fun k hk _ => Below.heap_alloc _ _ _ hk⟩
set_option maxRecDepth 100000 in
set_option maxHeartbeats 4000000 in
theorem memoryParts_walk (w0 : World) (a2 : Option Addr) (len2 cap2 : Nat) (zs2 : List Int) (hz : InInts .i64 w0 a2 len2 zs2) (hy : len2 * 8 ≤ 140737488351232) (at_ : Int) (_h2 : (Lit.int .i64 at_).wf = true) (a : Option Addr) (len cap : Nat) (zs : List Int) (hs : InInts .u8 w0 a len zs) (hlc : len ≤ cap) : Calls Try.prog 3 #[.slice a2 len2 cap2, .int .i64 at_, .slice a len cap] w0 fun e w' => e = .returned (.bool true) ∧ Below w0.heap.size w0 w' := by
  have hmx := hs.mx
  have hmx2 := hz.mx
  obtain ⟨n, hnl, hn400, hmin⟩ : ∃ n : Nat, n ≤ len ∧ n ≤ 400 ∧ (if (400 : Int) < (len : Int) then (400 : Int) else (len : Int)) = (n : Int) := by
    by_cases h : (400 : Int) < (len : Int)
    · exact ⟨400, by omega, by omega, by rw [if_pos h]; rfl⟩
    · exact ⟨len, by omega, by omega, by rw [if_neg h]⟩
  have hI := InB.take hs hnl
  have hus : ∀ u ∈ zs.take n, 0 ≤ u ∧ u < 256 := by
    intro u hu
    have := hs.wf u (List.mem_of_mem_take hu)
    simp only [Lit.wf, Bool.and_eq_true, decide_eq_true_eq] at this
    have h1 : IntKind.u8.min = 0 := by decide
    have h2 : IntKind.u8.max = 255 := by decide
    omega
  generalize zs.take n = us at hI hus
  have hul := hI.ln
  have hub : ∀ u ∈ us, 0 ≤ u ∧ u < 256 := hus
  have hcut := fun w => cut_bytes a len cap n (n : Int) rfl (by omega) w
  have hab := umod_bd at_ (512 - (n : Int)) (by omega) (by omega)
  generalize ha : wrap64 ((IntKind.u64.wrap at_).tmod (512 - (n : Int))) = ad at hab
  obtain ⟨ad, rfl⟩ := Int.eq_ofNat_of_zero_le hab.1
  have had : ad + n < 512 := by omega
  have HA := Lib.hid ha
  clear ha hab
  have HI := Lib.hid hI; have HZ := Lib.hid hz
  clear hI hs hz
  go_enter Try.func3, Try.ntmps3
  go_wp2_with fail
  refine (fr_new 1 8 w0 (by omega) (by omega) (by omega) (by omega)).mono ?_; rintro e w1 ⟨g, b, rfl, hg, hb, hG, hB⟩
  go_wp2_with fail
  refine (me_new g w1).mono ?_; rintro e w2 ⟨mb, tg, bt, bf, rfl, h1, h2, h3, h4, hS, hT, hB2⟩
  have hM : MemAt w2 mb g b 8 8 tg bt bf (List.replicate 512 0) [] [] := ⟨hS, hG.below hB2, hT, mem_fair0 8⟩
  have hs1 := hB.size
  have hB3 := bel_trans hB hB2
  clear hS hG hT hB hB2
  go_wp2_with fail
  refine (moves_any w2).mono ?_; rintro e w3 ⟨rfl, hB4⟩
  have hM3 := hM.below hB4
  have hB5 := bel_trans hB3 hB4
  clear hM hB3 hB4
  have hoi := own_init w3 w0.heap.size hB5.size
  have hM4 := hM3.below (bel_alloc (Below.refl _ _) (.cells #[.int .i64 0, .int .i64 1, .int .i64 2, .int .i64 3, .int .i64 4, .int .i64 5, .int .i64 6, .int .i64 7] 3))
  have hB6 := bel_alloc hB5 (.cells #[.int .i64 0, .int .i64 1, .int .i64 2, .int .i64 3, .int .i64 4, .int .i64 5, .int .i64 6, .int .i64 7] 3)
  have HO := Lib.hid hoi; have HM4 := Lib.hid hM4
  clear hoi hM3 hM4 hB5
  go_wp2_with fail
  go_loopw [12, 11] (fun v v2 wr => ∃ (p : Nat) (L : List Int) (mt mf : List (Int × Int)), p ≤ 8 ∧ v = .int .i64 (p : Int) ∧ wr.ownsRow w0.heap.size 3 1 v2 L.length (L.map (Value.int .i64)) ∧ MemAt wr mb g b 8 8 tg bt bf (List.replicate 512 0) mt mf ∧ LeftInv p L mt mf ∧ Below w0.heap.size w0 wr) (fun v _ _ => 8 - (intOf v).toNat)
  case atStart => exact ⟨0, initL, [], [], by omega, rfl, HO.out, HM4.out, left_start, hB6⟩
  case round =>
    clear HO HM4 hB6
    obtain ⟨p, L, mt, mf, hp8, rfl, hown, hM, hV, hB⟩ := hrel
    by_cases hlt : p < 8
    · have hln := hV.ln
      obtain ⟨gl, cl, rfl, hcl, hgb, hgl⟩ := own_capV hown (by omega)
      obtain ⟨kk, hkl, hkk⟩ : ∃ kk : Nat, kk < L.length ∧ (if (p : Int) < (len2 : Int) then wrap64 ((IntKind.u64.wrap (zs2.getD p 0)).tmod (L.length : Int)) else 0) = (kk : Int) := by
        by_cases h : (p : Int) < (len2 : Int)
        · have := umod_bd (zs2.getD p 0) (L.length : Int) (by omega) (by omega)
          exact ⟨(wrap64 ((IntKind.u64.wrap (zs2.getD p 0)).tmod (L.length : Int))).toNat, by omega, by rw [if_pos h]; omega⟩
        · exact ⟨0, by omega, by rw [if_neg h]; rfl⟩
      have HKK := Lib.hid hkk
      have HV := Lib.hid hV; have HO := Lib.hid hown; have HM := Lib.hid hM; have HB := Lib.hid hB
      have hwr := hB.size
      have hL0 : L.length ≤ 8 := by omega
      have HLN := Lib.hid hln
      clear hV hown hM hB hkk hln
      go_upto_if 48 with fail
      go_cut [13] (fun v wx => v = .int .i64 (kk : Int) ∧ wx = wr)
      case first =>
        by_cases hpl : p < len2
        · have hkk := HKK.out
          rw [if_pos (by omega)] at hkk
          obtain ⟨bx, off, ha, hbx, hcell⟩ := HZ.out.at_ (by omega)
          have kv := (HB.out.cell (p := ⟨bx, off + p, none⟩) hbx).trans (hcell p hpl)
          have hia := fun w => idx_int (cap := cap2) ha hpl w
          have HKK2 := Lib.hid hkk
          clear hcell ha hkk
          generalize zs2.getD p 0 = v at *
          go_wp2_with fail
          go_meet
          exact ⟨by rw [HKK2.out], rfl⟩
        · have hkk := HKK.out
          rw [if_neg (by omega)] at hkk
          have HKK2 := Lib.hid hkk
          clear hkk
          go_wp2_with fail
          go_meet
          exact ⟨by rw [← HKK2.out], rfl⟩
      case rest =>
        obtain ⟨rfl, rfl⟩ := hcut
        obtain ⟨gx, hgx, hcf, _, _, hff⟩ := own_at HO.out (k := kk) (u := .int .i64 (L.getD kk 0)) (map_at (by omega) 0)
        injection hgx with hgx; injection hgx with hgx; subst hgx
        have hix := fun w => idx_own gl L.length cl kk hkl w
        have hfr := HV.out.fr (L.getD kk 0) (by rw [List.getD_eq_getElem?_getD, List.getElem?_eq_getElem hkl]; exact List.getElem_mem hkl)
        obtain ⟨hf0, hf8, hfn⟩ := hfr
        have hmp := me_map mb g b 8 8 tg bt bf _ mt mf _ HM.out p (L.getD kk 0) (by omega) (by omega) (by omega) (by omega) (HV.out.no p (Nat.le_refl _)) hfn
        have hV2 := HV.out.step hkl
        have HMP := Lib.hid hmp; have HV2 := Lib.hid hV2
        have hg1 := own_ne_mapV HO.out HM.out.tb.to_ gl rfl
        have hg2 := own_ne_mapV HO.out HM.out.tb.fr gl rfl
        clear hmp hV2 HV hfn HM
        generalize L.getD kk 0 = f at *
        go_wp2_with fail
        refine HMP.out.mono ?_; rintro e w5 ⟨rfl, hM5, hc⟩
        go_upto_region 14 with fail
        have hO5 := own_chV HO.out hc (fun q hq hm => by
          simp only [Value.ownBlock, Option.some.injEq] at hq
          subst hq
          simp at hm
          rcases hm with hm | hm
          · exact hg1 hm
          · exact hg2 hm)
        have hB7 := bel_ch HB.out hc (by simp; omega)
        have hr1 := reads_hi hO5 (k := kk) (by omega)
        have hr2 := reads_lo hO5 (k := kk + 1) (by omega) hcl
        have hc1 := fun w => cut_hi_int gl L.length cl kk (kk : Int) rfl (by omega) w
        have hc2 := fun w => cut_lo_int gl L.length cl (kk + 1) ((kk : Int) + 1) (by omega) (by omega) hcl w
        have hsm : IntKind.i64.wrap ((kk : Int) + 1) = (kk : Int) + 1 := i64_sm (by omega) (by omega)
        have hB5s := hB7.size
        have HR1 := Lib.hid hr1; have HR2 := Lib.hid hr2; have HM5 := Lib.hid hM5; have HB7 := Lib.hid hB7
        obtain ⟨i0, hi0', hz0, hz1, hz2⟩ := info_parts info_int
        have HI0 := Lib.hid hi0'; have HZ0 := Lib.hid hz0; have HZ1 := Lib.hid hz1; have HZ2 := Lib.hid hz2
        clear hi0' hz0 hz1 hz2 hr1 hr2 hO5 hM5 hc hB7 hg1 hg2 HMP HO hcf hff hix
        have hBx := bel_drew (Below.refl w5.heap.size w5)
        refine wp_region_noPanic ?_
        refine wp_region_held_drew (S := fun _ => True) (by kernel_rfl) trivial (fun hHeld => ?_)
        generalize w5.drew = x at *
        refine wpAnyH_take (i := 1) (oi := ⟨some 68, _, _, _, _, _⟩) (v := .slice (some ⟨gl, 0, none⟩) L.length cl) rfl (by kernel_rfl) (by kernel_rfl) (by kernel_rfl) (fun _ _ _ h => h) (Or.inl ⟨by rfl, by intro w hSw; go_simp⟩) (by trivial) ?_
        try simp only [Act.put, List.setIfInBounds_toArray, List.set_cons_zero, List.set_cons_succ]
        refine wpAnyH_take (i := 2) (oi := ⟨some 69, _, _, _, _, _⟩) (v := .int .i64 (kk : Int)) rfl (by kernel_rfl) (by kernel_rfl) (by kernel_rfl) (fun _ _ _ h => h) (Or.inl ⟨by rfl, by intro w hSw; go_simp⟩) (by trivial) ?_
        try simp only [Act.put, List.setIfInBounds_toArray, List.set_cons_zero, List.set_cons_succ]
        refine wpAnyH_take (i := 3) (oi := ⟨some 70, _, _, _, _, _⟩) (v := .slice (some ⟨gl, 0, none⟩) kk cl) rfl (by kernel_rfl) (by kernel_rfl) (by kernel_rfl) (fun _ _ _ h => h) (Or.inl ⟨by rfl, by intro w hSw; go_simp⟩) (by trivial) ?_
        try simp only [Act.put, List.setIfInBounds_toArray, List.set_cons_zero, List.set_cons_succ]
        refine wpAnyH_take (i := 5) (oi := ⟨some 72, _, _, _, _, _⟩) (v := .slice (some ⟨gl, 0, none⟩) L.length cl) rfl (by kernel_rfl) (by kernel_rfl) (by kernel_rfl) (fun _ _ _ h => h) (Or.inl ⟨by rfl, by intro w hSw; go_simp⟩) (by trivial) ?_
        try simp only [Act.put, List.setIfInBounds_toArray, List.set_cons_zero, List.set_cons_succ]
        refine wpAnyH_take (i := 6) (oi := ⟨some 73, _, _, _, _, _⟩) (v := .int .i64 (kk : Int)) rfl (by kernel_rfl) (by kernel_rfl) (by kernel_rfl) (fun _ _ _ h => h) (Or.inl ⟨by rfl, by intro w hSw; go_simp⟩) (by trivial) ?_
        try simp only [Act.put, List.setIfInBounds_toArray, List.set_cons_zero, List.set_cons_succ]
        refine wpAnyH_take (i := 7) (oi := ⟨some 74, _, _, _, _, _⟩) (v := .int .i64 ((kk : Int) + 1)) rfl (by kernel_rfl) (by kernel_rfl) (by kernel_rfl) (fun _ _ _ h => h) (Or.inl ⟨by rfl, by intro w hSw; go_simp⟩) (by trivial) ?_
        try simp only [Act.put, List.setIfInBounds_toArray, List.set_cons_zero, List.set_cons_succ]
        refine wpAnyH_take (i := 8) (oi := ⟨some 75, _, _, _, _, _⟩) (v := .slice (cutA gl cl (kk + 1)) (L.length - (kk + 1)) (cl - (kk + 1))) rfl (by kernel_rfl) (by kernel_rfl) (by kernel_rfl) (fun _ _ _ h => h) (Or.inl ⟨by rfl, by intro w hSw; go_simp⟩) (by trivial) ?_
        try simp only [Act.put, List.setIfInBounds_toArray, List.set_cons_zero, List.set_cons_succ]
        refine wpAnyH_ready (rs := [0]) (by kernel_rfl) (by simp) ?_
        refine AllReadyH.cons (o := ⟨some 67, _, _, _, _, _⟩) rfl (fun K hK => ?_) ?_
        · go_simp
          refine hK.out _ _ trivial (fun hHeld => ?_)
          clear hK K
          have hx0 := hBx.size
          have hT := own_made0 x w0.heap.size 3 1 (by omega)
          have hTb : w5.heap.size ≤ x.heap.size := hx0
          replace hBx := bel_alloc hBx (.cells #[] 3)
          generalize x.alloc (.cells #[] 3) = y at *
          generalize x.heap.size = p1 at *
          clear x
          try simp only [Act.put, List.setIfInBounds_toArray, List.set_cons_zero, List.set_cons_succ]
          refine wpAnyH_ready (rs := [4]) (by kernel_rfl) (by simp) ?_
          refine AllReadyH.cons (o := ⟨some 71, _, _, _, _, _⟩) rfl (fun K hK => ?_) ?_
          · refine step_append_any _ (by rfl) (.tmp 67) (.tmp 70) _ (by rfl) w0.heap.size 3 i0 _ 1 8 Try.underlying22 HI0.out HZ0.out HZ1.out HZ2.out rfl (by omega) (.slice (some ⟨p1, 0, none⟩) 0 0) 0 [] (by rfl) hT w5.heap.size (some ⟨gl, 0, none⟩) kk cl ((L.take kk).map (Value.int .i64)) (by rfl) (by have := HR1.out.below hBx; rw [← List.map_take] at this; exact this) (ints_ok _) (by unfold maxLen; omega) (by omega) (by have := hBx.size; omega) ?_
            intro vA y2 ho hgr hor
            refine hK.out _ _ trivial (fun hHeld => ?_)
            clear hK K
            have hBy : Below w5.heap.size w5 y2 := bel_grn hBx hgr (fun q hq => by simp only [Value.ownBlock, Option.some.injEq] at hq; omega)
            have hAb : ∀ q, vA.ownBlock = some q → w5.heap.size ≤ q := by
              intro q hq
              rcases hor with e | e
              · rw [e] at hq
                simp only [Value.ownBlock, Option.some.injEq] at hq
                omega
              · rw [e] at hq
                injection hq with hq
                have := hBx.size
                omega
            clear hT hgr hor hBx
            try simp only [Act.put, List.setIfInBounds_toArray, List.set_cons_zero, List.set_cons_succ]
            refine wpAnyH_ready (rs := [9]) (by kernel_rfl) (by simp) ?_
            refine AllReadyH.cons (o := ⟨some 76, _, _, _, _, _⟩) rfl (fun K hK => ?_) ?_
            · rw [Nat.zero_add, List.nil_append] at ho
              refine step_append_any _ (by rfl) (.tmp 71) (.tmp 75) _ (by rfl) w0.heap.size 3 i0 _ 1 8 Try.underlying22 HI0.out HZ0.out HZ1.out HZ2.out rfl (by omega) vA kk _ (by rfl) ho w5.heap.size (cutA gl cl (kk + 1)) (L.length - (kk + 1)) (cl - (kk + 1)) ((L.drop (kk + 1)).map (Value.int .i64)) (by rfl) (by have := HR2.out.below hBy; rw [← List.map_drop] at this; exact this) (ints_ok _) (by unfold maxLen; omega) (by omega) (by have := hBy.size; omega) ?_
              intro vB y3 ho3 hgr3 hor3
              refine hK.out _ _ trivial (fun hHeld => ?_)
              clear hK K
              have hBz : Below w5.heap.size w5 y3 := bel_grn hBy hgr3 (fun q hq => by
                have h1 := hAb q hq
                omega)
              have hL' : L.length - (kk + 1) + kk = (L.take kk ++ L.drop (kk + 1)).length := by rw [List.length_append, List.length_take, List.length_drop]; omega
              rw [← List.map_append, Nat.add_comm, hL'] at ho3
              have HO3 := Lib.hid ho3
              clear ho hgr3 hor3 hBy ho3 hL'
              try simp only [Act.put, List.setIfInBounds_toArray, List.set_cons_zero, List.set_cons_succ]
              refine wpAnyH_take (i := 10) (oi := ⟨some 11, _, _, _, _, _⟩) (v := vB) rfl (by kernel_rfl) (by kernel_rfl) (by kernel_rfl) (fun _ _ _ h => h) (Or.inl ⟨by rfl, by intro w hSw; go_simp⟩) (by trivial) ?_
              try simp only [Act.put, List.setIfInBounds_toArray, List.set_cons_zero, List.set_cons_succ]
              refine wpAnyH_done (by kernel_rfl) ?_ _
              refine NoPanic.normal ?_
              have hM9 := HM5.out.below hBz
              have hB9 := bel_trans HB7.out hBz
              clear hBz HR1 HR2 HM5 HB7
              go_wp2_with fail
              go_roundw
              case rel => exact ⟨p + 1, _, _, _, by omega, by go_num, HO3.out, hM9, HV2.out, hB9⟩
              case measure => simp [intOf]; omega
            · exact AllReadyH.nil
          · exact AllReadyH.nil
        · exact AllReadyH.nil
    · obtain rfl : p = 8 := by omega
      have hbw := hM.fs.dt.lt
      have hOff : 0 < n → Off a b := by
        intro h0 x e
        obtain ⟨bx, off, e2, hbx, _⟩ := HI.out.at_ h0
        rw [e] at e2
        injection e2 with e2
        subst e2
        show bx ≠ b
        omega
      have hwr := me_write mb g b 8 8 tg bt bf (List.replicate 512 0) mt mf wr hM ad n a cap us (HI.out.below hB) hOff (by omega) (by omega) (by omega) (fun k _ hk => hV.mp _ (by omega))
      have hrw := rd_wr hM.ok (List.replicate 512 0) us ad (by rw [List.length_replicate]) (fun k hk => hV.mp _ (by omega)) 0 n (by omega)
      rw [List.drop_zero, List.take_of_length_le (by omega), Nat.add_zero] at hrw
      have HWR := Lib.hid hwr; have HRW := Lib.hid hrw; have HV := Lib.hid hV.mp
      clear hwr hrw hV hown hM hOff
      generalize wrB mt (List.replicate 512 0) ad us = bs1 at *
      go_upto_region 17 with fail
      rw [HA.out]
      go_wp2_with fail
      refine HWR.out.mono ?_; rintro e w5 ⟨rfl, hM, hc⟩
      have hB8 := bel_ch hB hc (by simp; omega)
      clear hc hB HWR
      go_wp2_with fail
      have HUB := Lib.hid hub
      clear hub
      go_loopw [15] (fun v wx => ∃ (i : Nat) (bs : List Int), i ≤ n ∧ v = .int .i64 (i : Int) ∧ MemAt wx mb g b 8 8 tg bt bf bs mt mf ∧ rdB mt bs ad n = curL us i ∧ Below w0.heap.size w0 wx) (fun v _ => n - (intOf v).toNat)
      case atStart => exact ⟨0, bs1, by omega, rfl, hM, HRW.out, hB8⟩
      case round =>
        clear hM hB8 HRW
        obtain ⟨i, bs, hin, rfl, hM, hrd, hB⟩ := hrel
        by_cases hlt : i < n
        · have hr1 := rd_one (nf := 8) (mf := mf) hrd hlt
          have hcc : (curL us i).getD i 0 = us.getD i 0 := by rw [List.getD_eq_getElem?_getD, curL_at us i (by omega)]; rfl
          rw [hcc] at hr1
          have hme := me_read mb g b 8 8 tg bt bf bs mt mf wr hM (ad + i) 1 (by omega) (by omega) (fun k _ hk => HV.out _ (by omega))
          rw [hr1] at hme
          have hst := rd_set hM.ok hM.fs.ln (fun k _ hk => HV.out _ (by omega)) hrd hlt (xr (us.getD i 0))
          rw [curL_set us i (by omega)] at hst
          have hln : bs.length = 8 * 64 := hM.fs.ln
          obtain ⟨bx, off, rfl, hbx, hcell⟩ := HI.out.at_ (by omega)
          have kv := (hB.cell (p := ⟨bx, off + i, none⟩) hbx).trans (hcell i (us.getD i 0) (by rw [List.getD_eq_getElem?_getD, List.getElem?_eq_getElem (by omega)]; rfl))
          have hib := fun w => idx_byte (cap := cap) (A := some ⟨bx, off, none⟩) (b := bx) (off := off) rfl hlt w
          have HME := Lib.hid hme; have HST := Lib.hid hst; have HM := Lib.hid hM; have HRD := Lib.hid hrd
          clear hr1 hcc hme hst hM hcell hln hrd
          generalize hxe : xr (us.getD i 0) = v at *
          generalize us.getD i 0 = u at *
          unfold xr at hxe
          go_wp2_with fail
          refine HME.out.mono ?_; rintro e w6 ⟨A6, c6, rfl, hown6, hB9⟩
          obtain ⟨h6, c6', he6, hc6, hb6, hl6⟩ := own_capV hown6 (by omega)
          injection he6 with he6 _ hec
          subst he6 hec
          have hx6 := hown6.cells (g := h6) rfl 0 (.int .u8 u) rfl
          rw [WideShapes.add_plain] at hx6
          have kv6 := (hB9.cell (p := ⟨bx, off + i, none⟩) (Nat.lt_of_lt_of_le hbx hB.size)).trans kv
          have hM6 := HM.out.below hB9
          have hB10 := bel_trans hB hB9
          have HM6 := Lib.hid hM6
          have hbw9 : b < wr.heap.size := HM.out.fs.dt.lt
          have hh6 : h6 ∉ [b] := by simp; omega
          have hbxb : bx ∉ [b] := by simp; omega
          clear hM6 HM hown6 hB9 hB kv HME
          go_upto_region 23 with fail
          have hbl : Below w6.heap.size w6 (w6.alloc (.cells #[.int .u8 v] 5)).drew := bel_drew (bel_alloc (Below.refl _ _) _)
          have hMA := HM6.out.below hbl
          have hIA : InB (w6.alloc (.cells #[.int .u8 v] 5)).drew (some ⟨w6.heap.size, 0, none⟩) 1 [v] := (InB.blk1 (Blk.new w6 5 [.int .u8 v])).below (bel_drew (Below.refl _ _))
          have hbw6 := hB10.size
          have hwr := me_write mb g b 8 8 tg bt bf bs mt mf _ hMA (ad + i) 1 (some ⟨w6.heap.size, 0, none⟩) 1 [v] hIA (fun _ x e => by injection e with e; subst e; show w6.heap.size ≠ b; have := HM6.out.fs.dt.lt; omega) (by omega) (by omega) (by omega) (fun k _ hk => HV.out _ (by omega))
          rw [show ((ad + i : Nat) : Int) = (ad : Int) + (i : Int) from by omega] at hwr
          have hsm : IntKind.i64.wrap ((ad : Int) + (i : Int)) = (ad : Int) + (i : Int) := i64_sm (by omega) (by omega)
          have HWR := Lib.hid hwr
          clear hwr hMA hIA
          go_region_held3 (fun w' => w'.cell? ⟨h6, 0, none⟩ = some (.int .u8 u) ∧ w'.cell? ⟨bx, off + i, none⟩ = some (.int .u8 u))
            (first | go_keep | exact ⟨ch_keep hc7 hh6 (by assumption), ch_keep hc7 hbxb (by assumption)⟩ | exact keep1 hc7 hh6 hbxb (by assumption))
            (first | (go_at_call 15; refine HWR.out.mono ?_; rintro e w7 ⟨rfl, hM7, hc7⟩))
          have hB11 := bel_ch (bel_trans hB10 hbl) hc7 (by simp; omega)
          have HM7 := Lib.hid hM7
          clear hM7 hc7 hbl HWR HM6 hB10 hx6 kv6
          go_wp2_with fail
          go_roundw
          case rel => exact ⟨i + 1, _, by omega, by go_num, HM7.out, HST.out, hB11⟩
          case measure => simp [intOf]; omega
        · obtain rfl : i = n := by omega
          have hcu : curL us i = us.map xr := by
            unfold curL
            rw [List.take_of_length_le (by omega), List.drop_eq_nil_of_le (by omega), List.append_nil]
          rw [hcu] at hrd
          have hme := me_read mb g b 8 8 tg bt bf bs mt mf wr hM ad i (by omega) (by omega) (fun k _ hk => HV.out _ (by omega))
          rw [hrd] at hme
          have HME := Lib.hid hme
          have HUL := Lib.hid hul
          clear hcu hrd hme hM hul
          go_wp2_with fail
          refine HME.out.mono ?_; rintro e w6 ⟨A6, c6, rfl, hown6, hB9⟩
          have hB10 := bel_trans hB hB9
          have hbs6 := hB.size
          have HO6 := Lib.hid hown6
          clear hown6 hB9 hB HME
          go_wp2_with fail
          go_loopw [20] (fun v wx => ∃ (j : Nat), j ≤ i ∧ v = .int .i64 (j : Int) ∧ wx.ownsRow wr.heap.size 5 1 (.slice A6 i c6) i ((curL (us.map xr) j).map (Value.int .u8)) ∧ Below w0.heap.size w0 wx) (fun v _ => i - (intOf v).toNat)
          case atStart => exact ⟨0, by omega, rfl, HO6.out, hB10⟩
          case round =>
            clear HO6 hB10
            obtain ⟨j, hji, rfl, hown, hB⟩ := hrel
            have hml : (us.map xr).length = i := by rw [List.length_map]; exact HUL.out
            by_cases hlt : j < i
            · obtain ⟨h6, c6', he6, hc6, hb6, hl6⟩ := own_capV hown (by omega)
              injection he6 with he6 _ hec
              subst he6 hec
              have hx6 := hown.cells (g := h6) rfl j (.int .u8 ((us.map xr).getD j 0)) (by rw [List.getElem?_map, curL_at _ _ (by omega)]; rfl)
              rw [WideShapes.add_plain, Nat.zero_add] at hx6
              have hib := fun w => idx_own_b h6 i c6 j hlt w
              have hO2 := own_set1 hown hlt (.int .u8 (xr ((us.map xr).getD j 0)))
              rw [← List.map_set, curL_set _ _ (by omega)] at hO2
              have hfz := own_frz hown hlt
              have hB2 := bel_set hB (p := ⟨h6, j, none⟩) (by show w0.heap.size ≤ h6; omega) (.int .u8 (xr ((us.map xr).getD j 0)))
              have HO2 := Lib.hid hO2
              clear hown hO2 hml
              generalize hxe : xr ((us.map xr).getD j 0) = v at *
              generalize (us.map xr).getD j 0 = u at *
              unfold xr at hxe
              go_wp2_with fail
              go_roundw
              case rel => exact ⟨j + 1, by omega, by go_num, HO2.out, hB2⟩
              case measure => simp [intOf]; omega
            · obtain rfl : j = i := by omega
              have hcu : curL (us.map xr) j = us := by
                unfold curL
                rw [List.take_of_length_le (by omega), List.drop_eq_nil_of_le (by omega), List.append_nil]
                exact xr_map us HUB.out
              rw [hcu] at hown
              have htx := text_in (c := c6) (InB.own hown)
              have htb := text_in (c := cap) (HI.out.below hB)
              have hsn : ∀ s : ByteArray, (s.toList == s.toList) = true := fun s => by simp
              clear hown hcu hml
              go_wp2_with fail
              go_ret
              exact ⟨rfl, hB⟩
end Go.Proofs.Ytpajbpgpbfmebaa
