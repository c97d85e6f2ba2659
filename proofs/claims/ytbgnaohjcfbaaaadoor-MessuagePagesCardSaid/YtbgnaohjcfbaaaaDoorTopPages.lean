/- The law MessuagePages. -/
import Derived.Test.YtbgnaohjcfbaaaaDoorTopRows
import Derived.Test.YtbgnaohjcfbaaaaDoorParseAny
namespace Go.Proofs.YtbgnaohjcfbaaaaDoor
open Go.RowKit
set_option linter.unusedVariables false
set_option linter.unusedSimpArgs false
attribute [local go_sem] World.cell?_alloc_lt

def standsB : ByteArray := ⟨#[48, 44, 50, 45, 52]⟩
theorem stands_o : parseO standsB = some 29 := by decide +kernel
theorem stands_any (w : World) : Calls Tryd.prog 7 #[] w fun e w' => e = .returned (.bool true) ∧ Below w.heap.size w w' := by
  have hp := parse_any standsB (by decide) w
  rw [stands_o] at hp
  have HP := Lib.hid hp
  clear hp
  go_enter Tryd.func7, Tryd.ntmps7
  go_wp2_with fail
  refine HP.out.mono ?_; rintro e w1 ⟨rfl, hB⟩
  unfold parseV
  go_wp2_with fail
  go_ret
  exact ⟨rfl, hB⟩
theorem InB.cut {w : World} {a : Option Addr} {len n : Nat} {zs : List Int} (h : InB w a len zs) (hn : n ≤ len) : InB w a n (zs.take n) :=
  ⟨by rw [List.length_take, h.ln]; omega, fun h0 => by
    obtain ⟨b, off, e, hb, hc⟩ := h.at_ (by omega)
    refine ⟨b, off, e, hb, fun j u hj => ?_⟩
    rw [List.getElem?_take] at hj
    split at hj
    · exact hc j u hj
    · cases hj⟩
set_option maxRecDepth 100000 in
theorem topcut_any (A : Option Addr) (n c : Nat) (zs : List Int) (N : Nat) (hN : N ≤ 1000) (w : World) (hI : InB w A n zs) (hc : n ≤ c) (hn : n ≤ 9223372036854775807) : Calls Tryd.prog 10 #[.slice A n c, .int .i64 (N : Int)] w fun e w' => ∃ A' c', e = .returned (.slice A' (zs.take N).length c') ∧ w'.ownsRow w.heap.size 5 1 (.slice A' (zs.take N).length c') (zs.take N).length ((zs.take N).map (Value.int .u8)) ∧ Below w.heap.size w w' := by
  obtain ⟨m, hm, hml, hm2, hmN⟩ : ∃ m : Nat, (zs.take N).length = m ∧ m ≤ n ∧ min (n : Int) (N : Int) = (m : Int) ∧ m ≤ N := by
    refine ⟨_, rfl, by have := hI.ln; rw [List.length_take]; omega, ?_, by rw [List.length_take]; omega⟩
    have := hI.ln
    rw [List.length_take]
    omega
  have hIt := InB.cut hI hml
  have hzt : zs.take N = zs.take m := by
    have := hI.ln
    rw [← hm, List.length_take, List.take_eq_take_iff]
    omega
  rw [hm, hzt]
  rw [hzt] at hm
  have hcut := fun w => cut_bytes A n c m (m : Int) rfl (by omega) w
  generalize zs.take m = us at *
  have HI := Lib.hid hIt
  clear hI hIt hzt
  have hown := own_made w 5
  by_cases h0 : 0 < m
  · obtain ⟨b, off, rfl, hb, hcl⟩ := HI.out.at_ h0
    have HC := Lib.hid hcl; clear hcl
    go_enter Tryd.func10, Tryd.ntmps10
    go_wp2_with (at_builtin; refine wpList_pushes _ rfl (.tmp 5) (.tmp 11) 34 rfl w.heap.size 5 (.int .u8 0) 1 Tryd.underlying34 info_u8 rfl (some ⟨w.heap.size, 0, none⟩) 0 0 [] rfl hown b off m c (us.map (Value.int .u8)) rfl (by rw [List.length_map]; exact hm) ?_ (fun u hu => by obtain ⟨z, _, rfl⟩ := List.mem_map.1 hu; rfl) h0 (by omega) (by omega) ?_ ?_)
    · intro j u hj
      rw [List.getElem?_map] at hj
      obtain ⟨z, hz, rfl⟩ := Option.map_eq_some_iff.1 hj
      exact (World.cell?_alloc_lt _ _ _ hb).trans (HC.out j z hz)
    · simp
    intro g cp w4 hown4 hgr4 hor
    have hB4 := (bel_alloc (Below.refl _ w) (.cells #[] 5)).grown hgr4 (by simp) (fun k hk => (own_base hown k hk).1)
    go_wp2_with fail
    go_ret
    exact ⟨_, cp, rfl, hown4, hB4⟩
  · obtain rfl : m = 0 := by omega
    obtain rfl : us = [] := List.eq_nil_of_length_eq_zero hm
    have hBa : Below w.heap.size w (w.alloc (.cells #[] 5)) := bel_alloc (Below.refl _ w) _
    have HO := Lib.hid hown; have HB := Lib.hid hBa
    clear hown hBa
    rcases A with _ | ⟨b, off, k⟩
    all_goals
      go_enter Tryd.func10, Tryd.ntmps10
      go_wp2_with fail
      go_ret
      exact ⟨_, 0, rfl, HO.out, HB.out⟩
theorem own_capv {w : World} {base m c s : Nat} {e : TypeId} {A : Option Addr} {xs : List Value} (h : w.ownsRow base e s (.slice A m c) m xs) : m ≤ c := by
  rcases h.2 with ⟨hv, h0⟩ | ⟨g, cap, cur, hv, _, _, hc, _⟩
  · omega
  · injection hv with _ _ h3
    omega
theorem me_frame (mb g b each nf tg bt bf : Nat) (bs : List Int) (mt mf : List (Int × Int)) (w : World) (hM : MemAt w mb g b each nf tg bt bf bs mt mf) (f : Int) : Calls Tryd.prog 13 #[.pointer (some ⟨mb, 0, none⟩), .int .i64 f] w fun e w' => e = .returned (.tuple #[.int .i64 ((mget mt f).getD 0), .bool (mget mt f).isSome]) ∧ w = w' := by
  have k1 := hM.st.at_ (i := 1) rfl
  have hT := tII_To tg bt bf mt mf f w hM.tb
  have HT := Lib.hid hT
  clear hM hT
  go_enter Tryd.func13, Tryd.ntmps13
  go_wp2_with fail
  refine HT.out.mono ?_; rintro e w1 ⟨rfl, rfl⟩
  go_wp2_with fail
  go_ret2
  exact ⟨rfl, rfl⟩
set_option maxRecDepth 100000 in
set_option maxHeartbeats 4000000 in
theorem messuagePages_walk (w0 : World) (a : Option Addr) (len cap : Nat) (A : Nat → Option Addr) (L C : Nat → Nat) (Z : Nat → List Int) (hs : InRowsB w0 a len A L C Z) (a2 : Option Addr) (len2 cap2 : Nat) (zs2 : List Int) (hz : InInts .i64 w0 a2 len2 zs2) (hy : len2 * 8 ≤ 140737488351232) (_h : True) : Calls Tryd.prog 3 #[.slice a len cap, .slice a2 len2 cap2] w0 fun e w' => e = .returned (.bool true) ∧ Below w0.heap.size w0 w' := by
  have hmx := hs.mx
  obtain ⟨n, hnl, hn6, hmin⟩ : ∃ n : Nat, n ≤ len ∧ n ≤ 6 ∧ min (len : Int) 6 = (n : Int) := by
    by_cases h : (6 : Int) < (len : Int)
    · exact ⟨6, by omega, by omega, by omega⟩
    · exact ⟨len, by omega, by omega, by omega⟩
  obtain ⟨us, hus⟩ : ∃ us : Nat → List Int, us = fun q => (Z q).take 64 := ⟨_, rfl⟩
  have hu64 : ∀ q, (us q).length ≤ 64 := fun q => by rw [hus]; simp only [List.length_take]; omega
  -- the cut of a row
  have hrow : ∀ p, p < n → ∃ bx off, a = some ⟨bx, off, none⟩ ∧ bx < w0.heap.size ∧ w0.cell? ⟨bx, off + p, none⟩ = some (.slice (A p) (L p) (C p)) ∧ (∀ w, (Instr.indexAt 22 (.slice (some ⟨bx, off, none⟩) len cap) (.int .i64 (p : Int))).run Tryd.prog w = .ok (.pointer (some ⟨bx, off + p, none⟩)) w) ∧ ∀ w, Below w0.heap.size w0 w → Calls Tryd.prog 10 #[.slice (A p) (L p) (C p), .int .i64 64] w fun e w' => ∃ A' c', e = .returned (.slice A' (us p).length c') ∧ w'.ownsRow w.heap.size 5 1 (.slice A' (us p).length c') (us p).length ((us p).map (Value.int .u8)) ∧ Below w.heap.size w w' := by
    intro p hp
    obtain ⟨bx, off, ha, hb, hc⟩ := hs.at_ (by omega)
    obtain ⟨h1, h2, h3⟩ := hc p (by omega)
    refine ⟨bx, off, ha, hb, h1, fun w => by simp [go_sem, show p < len by omega], fun w hB => ?_⟩
    have hI := (InB.take h2 (Nat.le_refl _)).below hB
    rw [List.take_of_length_le (by have := h2.ln; omega)] at hI
    have := topcut_any (A p) (L p) (C p) (Z p) 64 (by omega) w hI h3 h2.mx
    rw [hus]
    exact this
  have HR := Lib.hid hrow; have HZ := Lib.hid hz; have HU := Lib.hid hu64
  clear hrow hz hu64 hs hus
  go_enter Tryd.func3, Tryd.ntmps3
  go_wp2_with fail
  refine (fr_new 4 4 w0 (by omega) (by omega) (by omega) (by omega)).mono ?_; rintro e w1 ⟨g, b, rfl, hg, hb, hG, hB⟩
  go_wp2_with fail
  refine (me_new g w1).mono ?_; rintro e w2 ⟨mb, tg, bt, bf, rfl, h1, h2, h3, h4, hS, hT, hB2⟩
  have hM : MemAt w2 mb g b 4 16 tg bt bf (List.replicate 1024 0) [] [] := ⟨hS, hG.below hB2, hT, mem_fair0 16⟩
  have hs1 := hB.size
  have hB3 := bel_trans hB hB2
  clear hS hG hT hB hB2
  go_wp2_with fail
  refine (stands_any w2).mono ?_; rintro e w3 ⟨rfl, hB4⟩
  have hM3 := hM.below hB4
  have hB5 := bel_trans hB3 hB4
  clear hM hB3 hB4
  go_wp2_with fail
  go_loopw [10] (fun v wr => ∃ (p : Nat) (bs : List Int), p ≤ n ∧ v = .int .i64 (p : Int) ∧ MemAt wr mb g b 4 16 tg bt bf bs (pgT p) (pgF p) ∧ PgInv p us bs (pgT p) ∧ Below w0.heap.size w0 wr) (fun v _ => n - (intOf v).toNat)
  case atStart => exact ⟨0, _, by omega, rfl, hM3, PgInv.zero, hB5⟩
  case round =>
    clear hM3 hB5
    obtain ⟨p, bs, hpn, rfl, hM, hV, hB⟩ := hrel
    by_cases hlt : p < n
    · obtain ⟨e1, e2⟩ := pg_none p (by omega)
      have hmp := me_map mb g b 4 16 tg bt bf _ _ _ wr hM ((p : Int) + 1) (2 * (p : Int)) (by omega) (by omega) (by omega) (by omega) e1 e2
      have hfair := fair_put hM.ok (f := 2 * (p : Int)) (by omega) (by omega) e1 e2
      have hV2 := hV.step HU.out (2 * (p : Int)) e1 hfair hM.fs.ln
      have HMP := Lib.hid hmp; have HV2 := Lib.hid hV2
      obtain ⟨bx, off, rfl, hbx, hcell, hia, hct⟩ := HR.out p hlt
      have HC := Lib.hid hcell; have HCT := Lib.hid hct
      clear hmp hM e1 e2 hV hV2 hfair hcell hct
      go_wp2_with fail
      refine HMP.out.mono ?_; rintro e w4 ⟨rfl, hM, hc⟩
      have hB6 := bel_ch hB hc (by simp; omega)
      have kv := (hB6.cell (p := ⟨bx, off + p, none⟩) hbx).trans HC.out
      have HM := Lib.hid hM
      clear hc HMP hM
      go_wp2_with fail
      refine (HCT.out w4 hB6).mono ?_; rintro e w5 ⟨A', c', rfl, hown, hB7⟩
      have hM5 := HM.out.below hB7
      have hB8 := bel_trans hB6 hB7
      have hOff : 0 < (us p).length → Off A' b := by
        intro h0 x e
        obtain ⟨g', cp', hv, hgb, _⟩ := hown.form h0
        injection hv with hA _ _
        rw [e] at hA
        injection hA with hA
        have := HM.out.fs.dt.lt
        subst hA
        show g' ≠ b
        omega
      have hwr := me_write mb g b 4 16 tg bt bf bs _ _ w5 hM5 (64 * (p + 1)) (us p).length A' c' (us p) (InB.own hown) hOff (by have := HU.out p; omega) (own_capv hown) (by have := HU.out p; omega) (fun k h1 h2 => by have := HU.out p; rw [show k / 64 = p + 1 by omega]; exact HV2.out.mp p (by omega))
      rw [show ((64 * (p + 1) : Nat) : Int) = 64 * ((p : Int) + 1) by omega] at hwr
      have HWR := Lib.hid hwr
      clear hwr hM5 hown hOff kv hB7 hB6 HM
      go_wp2_with fail
      refine HWR.out.mono ?_; rintro e w6 ⟨rfl, hM, hc⟩
      have hB9 := bel_ch hB8 hc (by simp; omega)
      clear hc HWR hB8
      go_wp2_with fail
      go_roundw
      case rel => exact ⟨p + 1, _, by omega, by go_num, hM, HV2.out, hB9⟩
      case measure => simp [intOf]; omega
    · obtain rfl : p = n := by omega
      have HM := Lib.hid hM; have HV := Lib.hid hV
      clear hM hV
      go_wp2_with fail
      go_loopw [11] (fun v wr => ∃ (i : Nat) (bs : List Int) (mt mf : List (Int × Int)), i ≤ len2 ∧ i ≤ 30 ∧ v = .int .i64 (i : Int) ∧ MemAt wr mb g b 4 16 tg bt bf bs mt mf ∧ PgInv p us bs mt ∧ Below w0.heap.size w0 wr) (fun v _ => 30 - (intOf v).toNat)
      case atStart => exact ⟨0, _, _, _, by omega, by omega, rfl, HM.out, HV.out, hB⟩
      case round =>
        clear HM hB HV
        obtain ⟨i, bs, mt, mf, hi, hi30, rfl, hM, hV, hB⟩ := hrel
        have HV := Lib.hid hV; clear hV
        have HM := Lib.hid hM; clear hM
        by_cases hgo : i < len2 ∧ i < 30 ∧ 0 < p
        · obtain ⟨hi1, hi2, hp0⟩ := hgo
          obtain ⟨bx, off, ha, hbx, hcell⟩ := HZ.out.at_ (by omega)
          have kv := (hB.cell (p := ⟨bx, off + i, none⟩) hbx).trans (hcell i hi1)
          have hia := fun w => idx_int (cap := cap2) ha hi1 w
          clear hcell ha
          generalize zs2.getD i 0 = v at *
          have hqb := umod_bd v (p : Int) (by omega) (by omega)
          generalize hq : wrap64 ((IntKind.u64.wrap v).tmod (p : Int)) = q at hqb
          obtain ⟨q, rfl⟩ := Int.eq_ofNat_of_zero_le hqb.1
          have hkb := umod_bd ((IntKind.u64.wrap v).tdiv 8) 16 (by omega) (by omega)
          generalize hk : wrap64 ((IntKind.u64.wrap ((IntKind.u64.wrap v).tdiv 8)).tmod 16) = k at hkb
          obtain ⟨k, rfl⟩ := Int.eq_ofNat_of_zero_le hkb.1
          have hqp : q < p := by omega
          have hk16 : k < 16 := by omega
          have hpg := me_page mb g b 4 16 tg bt bf bs mt mf wr HM.out (k : Int)
          cases hf : mget mf (k : Int) with
          | some z =>
            rw [hf] at hpg
            have HPG := Lib.hid hpg
            clear hpg hf hkb hqb
            go_wp2_with fail
            refine HPG.out.mono ?_; rintro e w6 ⟨rfl, rfl⟩
            clear HPG
            go_wp2_with fail
            go_roundw
            case rel => exact ⟨i + 1, bs, mt, mf, by omega, by omega, by go_num, HM.out, HV.out, hB⟩
            case measure => simp [intOf]; omega
          | none =>
            rw [hf] at hpg
            have HPG := Lib.hid hpg
            have hmp := HV.out.mp q hqp
            obtain ⟨hwas, hwn⟩ := HM.out.ok.at_ hmp
            have hmv := me_move mb g b 4 16 tg bt bf bs mt mf wr HM.out (q + 1) k (frOf mt (q + 1)) (by omega) (by omega) hwas hf
            rw [show ((q + 1 : Nat) : Int) = (q : Int) + 1 by omega] at hwas hmv
            have hV2 := HV.out.move HU.out hqp HM.out.ok HM.out.fs.ln hk16 hwas hf
            have hne : frOf mt (q + 1) ≠ k := by
              intro e
              rw [e] at hwas
              have := (HM.out.ok.io _ _).1 hwas
              rw [hf] at this
              cases this
            have hfr2 : mget (mput mt ((q : Int) + 1) k) ((q : Int) + 1) = some (k : Int) := by rw [mget_put, if_pos rfl]
            have hpg2 : mget (mput (mdel mf (frOf mt (q + 1))) k ((q : Int) + 1)) (frOf mt (q + 1) : Int) = none := by
              rw [mget_put, if_neg (by omega), mget_del, if_pos rfl]
            have HMV := Lib.hid hmv; have HV2 := Lib.hid hV2; have HFR := Lib.hid hfr2; have HP2 := Lib.hid hpg2
            clear hmv hpg hwas hf hV2 HV hmp hfr2 hpg2 hkb hqb hwn HM
            generalize putL bs (k * 64) (frBs bs (frOf mt (q + 1))) = bs2 at *
            generalize mput mt ((q : Int) + 1) k = mt2 at *
            generalize mput (mdel mf (frOf mt (q + 1))) k ((q : Int) + 1) = mf2 at *
            generalize frOf mt (q + 1) = was at *
            go_wp2_with fail
            refine HPG.out.mono ?_; rintro e w6 ⟨rfl, rfl⟩
            clear HPG
            go_wp2_with fail
            refine HMV.out.mono ?_; rintro e w6 ⟨rfl, hM1, hc⟩
            have hB7 := bel_ch hB hc (by simp; omega)
            have h3f := me_frame mb g b 4 16 tg bt bf bs2 mt2 mf2 w6 hM1 ((q : Int) + 1)
            have h3p := me_page mb g b 4 16 tg bt bf bs2 mt2 mf2 w6 hM1 (was : Int)
            rw [HFR.out] at h3f
            rw [HP2.out] at h3p
            have H3F := Lib.hid h3f; have H3P := Lib.hid h3p; have HM := Lib.hid hM1
            clear hc hB HMV h3f h3p hM1
            go_wp2_with fail
            refine H3F.out.mono ?_; rintro e w7 ⟨rfl, rfl⟩
            go_wp2_with fail
            refine H3P.out.mono ?_; rintro e w7 ⟨rfl, rfl⟩
            clear H3F H3P
            go_wp2_with fail
            go_roundw
            case rel => exact ⟨i + 1, bs2, mt2, mf2, by omega, by omega, by go_num, HM.out, HV2.out, hB7⟩
            case measure => simp [intOf]; omega
        · rcases (by omega : ¬ i < len2 ∨ (i < len2 ∧ ¬ i < 30) ∨ (i < len2 ∧ i < 30 ∧ ¬ 0 < p)) with hx | ⟨hx, hy2⟩ | ⟨hx, hy2, hz2⟩
          all_goals
            clear hgo
            go_wp2_with fail
            go_loopw [22] (fun v wr => ∃ (r : Nat), r ≤ p ∧ v = .int .i64 (r : Int) ∧ MemAt wr mb g b 4 16 tg bt bf bs mt mf ∧ Below w0.heap.size w0 wr) (fun v _ => p - (intOf v).toNat)
            case atStart => exact ⟨0, by omega, rfl, HM.out, hB⟩
            case round =>
              clear HM hB
              obtain ⟨r, hrp, rfl, hM, hB⟩ := hrel
              by_cases hlt : r < p
              · obtain ⟨bx, off, ea, hbx, hcell, hia, hct⟩ := HR.out r hlt
                subst ea
                have kv := (hB.cell (p := ⟨bx, off + r, none⟩) hbx).trans hcell
                have hct := hct wr hB
                have HCT := Lib.hid hct; have HM := Lib.hid hM
                clear hct hM hcell
                go_wp2_with fail
                refine HCT.out.mono ?_; rintro e w5 ⟨A', c', rfl, hown, hB7⟩
                have hM5 := HM.out.below hB7
                have hB8 := bel_trans hB hB7
                have hrd := me_read mb g b 4 16 tg bt bf bs mt mf w5 hM5 (64 * (r + 1)) (us r).length (by have := HU.out r; omega) (by have := HU.out r; omega) (fun k h1 h2 => by have := HU.out r; rw [show k / 64 = r + 1 by omega]; exact HV.out.mp r (by omega))
                rw [HV.out.rd r hlt, show ((64 * (r + 1) : Nat) : Int) = 64 * ((r : Int) + 1) by omega] at hrd
                have HRD := Lib.hid hrd; have HM5 := Lib.hid hM5; have HI := Lib.hid (InB.own hown)
                clear hrd hM5 hown kv hB hB7 HM HCT
                go_wp2_with fail
                refine HRD.out.mono ?_; rintro e w6 ⟨A2, c2, rfl, hown, hB9⟩
                have htx := text_in (c := c2) (InB.own hown)
                have htb := text_in (c := c') (HI.out.below hB9)
                have hB10 := bel_trans hB8 hB9
                have hsn : ∀ s : ByteArray, (!(s.toList == s.toList)) = false := fun s => by simp
                have HM6 := Lib.hid (HM5.out.below hB9)
                clear hown hB8 hB9 HM5 HI HRD
                go_wp2_with fail
                go_roundw
                case rel => exact ⟨r + 1, by omega, by go_num, HM6.out, hB10⟩
                case measure => simp [intOf]; omega
              · have hmd := me_mapped mb g b 4 16 tg bt bf bs mt mf wr hM
                rw [HV.out.ln] at hmd
                have HMD := Lib.hid hmd
                clear hmd hM
                go_wp2_with fail
                refine HMD.out.mono ?_; rintro e w7 ⟨rfl, rfl⟩
                go_wp2_with fail
                go_ret
                exact ⟨rfl, hB⟩
end Go.Proofs.YtbgnaohjcfbaaaaDoor
