/- The law TopoLines: of a right text with one line left out, or twice there, the line that is wrong is told. -/
import Derived.Test.YtcanhegjhbhkhaaDoorTopoLinesQ
import Derived.Test.YtcanhegjhbhkhaaDoorTopoBents
import Derived.Test.YtcanhegjhbhkhaaDoorTopoChecks
namespace Go.Proofs.YtcanhegjhbhkhaaDoor
open Go.RowKit Go.Shelf
set_option linter.unusedVariables false
set_option linter.unusedSimpArgs false
attribute [local go_sem] World.cell?_alloc_lt

theorem mach_of {t : TopoV} (h : chkT t = 0) : MachL t.N t.F t.cs (t.ds.map RowV.zs) ∧ t.cs.length ≤ 16 ∧ t.ds.length ≤ 8 ∧ ∀ r ∈ t.ds, r.zs.length ≤ 8 := by
  obtain ⟨hcnt, hbad, hmat⟩ := chk_zero h
  obtain ⟨hl, hr⟩ := rows_small hmat
  have hFb := pow_bd hcnt.2.2.1
  have hsm : Small t.cs := fun x hx => by
    have := List.any_eq_false.1 hbad x hx
    unfold badN at this
    simp at this
    omega
  refine ⟨⟨by omega, by omega, hsm, by intro e; rw [e] at hcnt; simp at hcnt, fun z hz => ?_, by rw [List.length_map]; omega, by rw [List.length_map]; omega⟩, hcnt.2.2.2.2, by omega, fun r hr' => by have := (hr r hr').2; omega⟩
  obtain ⟨r, hrm, rfl⟩ := List.mem_map.1 hz
  refine ⟨(hr r hrm).1, fun e => ?_⟩
  have := (hr r hrm).2
  rw [e] at this
  simp at this
  omega
set_option maxRecDepth 100000 in
set_option maxHeartbeats 4000000 in
theorem topoLines_walk (w0 : World) (t0 : TopoV) (hT : InTopo w0 t0) (hcc : t0.cs.length ≤ t0.cc) (hdc : t0.ds.length ≤ t0.dc) (hrc : RowCap t0.ds) (x : Int) (_hx : (Lit.int .i64 x).wf = true) (twice : Bool) (hmx : ∃ m : Int, w0.cell? ⟨2, 0, none⟩ = some (.int .i64 m)) : Calls Tryd.prog 7 #[t0.val, .int .i64 x, .bool twice] w0 fun e w' => e = .returned (.bool true) ∧ Below w0.heap.size w0 w' := by
  obtain ⟨mx, hm⟩ := hmx
  have htm := fun w hI => tame_any t0 w hI hcc hrc
  have HTM := Lib.hid htm; have HM := Lib.hid hm; have HT := Lib.hid hT
  clear htm hm hT hcc hdc hrc
  obtain ⟨N0, F0, ca0, cc0, cs0, da0, dc0, ds0⟩ := t0
  have hb3 := Blk.new w0 48 [.int .i64 N0, .int .i64 F0, .slice ca0 cs0.length cc0, .slice da0 ds0.length dc0]
  have hBA := bel_alloc (Below.refl w0.heap.size w0) (.cells #[.int .i64 N0, .int .i64 F0, .slice ca0 cs0.length cc0, .slice da0 ds0.length dc0] 48)
  have hb3 : Blk (w0.alloc (.cells #[.int .i64 N0, .int .i64 F0, .slice ca0 cs0.length cc0, .slice da0 ds0.length dc0] 48)) w0.heap.size 48 [.int .i64 N0, .int .i64 F0, .slice ca0 cs0.length cc0, .slice da0 ds0.length dc0] := hb3
  have hcall := HTM.out _ (HT.out.below hBA)
  simp only [TopoV.val] at *
  have HC := Lib.hid hcall
  clear hcall HTM
  go_enter Tryd.func7, Tryd.ntmps7
  go_upto_region 1 with fail
  generalize w0.alloc (.cells #[.int .i64 N0, .int .i64 F0, .slice ca0 cs0.length cc0, .slice da0 ds0.length dc0] 48) = wA at *
  have j0 := hb3.at_ (i := 0) rfl
  have j1 := hb3.at_ (i := 1) rfl
  have j2 := hb3.at_ (i := 2) rfl
  have j3 := hb3.at_ (i := 3) rfl
  go_wp2_with fail
  refine HC.out.mono ?_; rintro e w1 ⟨⟨t, rfl, hO, hsm⟩, hB1⟩
  have hb31 := hb3.below hB1
  have k0 := hb31.at_ (i := 0) rfl
  have k1 := hb31.at_ (i := 1) rfl
  have k2 := hb31.at_ (i := 2) rfl
  have k3 := hb31.at_ (i := 3) rfl
  have f0 := hb31.frozen 0
  have f1 := hb31.frozen 1
  have f2 := hb31.frozen 2
  have f3 := hb31.frozen 3
  have hBw := bel_trans hBA hB1
  have hc : Ch [w0.heap.size] w1 ((((w1.setCell ⟨w0.heap.size, 0, none⟩ (.int .i64 t.N)).setCell ⟨w0.heap.size, 1, none⟩ (.int .i64 t.F)).setCell ⟨w0.heap.size, 2, none⟩ (.slice t.ca t.cs.length t.cc)).setCell ⟨w0.heap.size, 3, none⟩ (.slice t.da t.ds.length t.dc)) :=
    ((((Ch.refl [w0.heap.size] w1).set (p := ⟨w0.heap.size, 0, none⟩) (by simp) _).set (p := ⟨w0.heap.size, 1, none⟩) (by simp) _).set (p := ⟨w0.heap.size, 2, none⟩) (by simp) _).set (p := ⟨w0.heap.size, 3, none⟩) (by simp) _
  have hb1 : Blk ((((w1.setCell ⟨w0.heap.size, 0, none⟩ (.int .i64 t.N)).setCell ⟨w0.heap.size, 1, none⟩ (.int .i64 t.F)).setCell ⟨w0.heap.size, 2, none⟩ (.slice t.ca t.cs.length t.cc)).setCell ⟨w0.heap.size, 3, none⟩ (.slice t.da t.ds.length t.dc)) w0.heap.size 48 [.int .i64 t.N, .int .i64 t.F, .slice t.ca t.cs.length t.cc, .slice t.da t.ds.length t.dc] := (((hb31.set_ 0 _).set_ 1 _).set_ 2 _).set_ 3 _
  have hT1 := (hO.far hc (fun y hy => by rw [List.mem_singleton] at hy; subst hy; exact ⟨_, _, hb31, by decide, by decide⟩)).inT
  have hBb := bel_ch hBw hc (by simp)
  have HB1 := Lib.hid hb1; have HT1 := Lib.hid hT1; have HBb := Lib.hid hBb
  clear hc hO hsm hb31 hb3 j0 j1 j2 j3 hBA hBw hB1 HC HT hb1 hT1 hBb
  go_upto_region 2 with fail
  clear k0 k1 k2 k3 f0 f1 f2 f3
  generalize (((w1.setCell ⟨w0.heap.size, 0, none⟩ (.int .i64 t.N)).setCell ⟨w0.heap.size, 1, none⟩ (.int .i64 t.F)).setCell ⟨w0.heap.size, 2, none⟩ (.slice t.ca t.cs.length t.cc)).setCell ⟨w0.heap.size, 3, none⟩ (.slice t.da t.ds.length t.dc) = w2 at *
  have hm2 := (HBb.out.cell (p := ⟨2, 0, none⟩) (World.block_lt_of_cell? w0 _ HM.out)).trans HM.out
  have HX := Lib.hid (tops_any mx w2 hm2)
  clear hm2
  go_wp2_with fail
  refine HX.out.mono ?_; rintro e w3 ⟨rfl, hB3⟩
  have hb3 := HB1.out.below hB3
  have hT3 := HT1.out.below hB3
  have i0 := hb3.at_ (i := 0) rfl
  have i1 := hb3.at_ (i := 1) rfl
  have i2 := hb3.at_ (i := 2) rfl
  have i3 := hb3.at_ (i := 3) rfl
  have hrk := ref_check t w3 hT3
  unfold TopoV.val at hrk
  generalize hq : chkT t = q at hrk
  have HRK := Lib.hid hrk; have HQ := Lib.hid hq; have HB3 := Lib.hid hb3; have HT3 := Lib.hid hT3; have HBc := Lib.hid (bel_trans HBb.out hB3)
  clear HX hB3 hrk hq hb3 hT3 HB1 HT1 HBb
  go_wp2_with fail
  refine HRK.out.mono ?_; rintro e w4 ⟨rfl, hB4⟩
  have hb4 := HB3.out.below hB4
  have hT4 := HT3.out.below hB4
  have hBd := bel_trans HBc.out hB4
  have hm4 := (hBd.cell (p := ⟨2, 0, none⟩) (World.block_lt_of_cell? w0 _ HM.out)).trans HM.out
  have HX := Lib.hid (tops_any mx w4 hm4)
  have HB4 := Lib.hid hb4; have HT4 := Lib.hid hT4; have HBD := Lib.hid hBd
  clear HRK hB4 hb4 hT4 hBd hm4 i0 i1 i2 i3 HB3 HT3 HBc
  by_cases hq0 : q = 0
  · subst hq0
    obtain ⟨hML, hc16, hd8, hr8⟩ := mach_of HQ.out
    have htx := ref_text t w4 HT4.out HQ.out
    unfold TopoV.val at htx
    have i0 := HB4.out.at_ (i := 0) rfl
    have i1 := HB4.out.at_ (i := 1) rfl
    have i2 := HB4.out.at_ (i := 2) rfl
    have i3 := HB4.out.at_ (i := 3) rfl
    obtain ⟨Ls, hLs⟩ : ∃ Ls, linesM t.N t.F t.cs (t.ds.map RowV.zs) = Ls := ⟨_, rfl⟩
    have hno := lines_no10 hML.hN hML.hF hML.hc (fun z hz => (hML.hd z hz).1)
    have hbo := fun k hk => bent_out hML k hk twice
    have hlen := lines_len (N := t.N) (F := t.F) (cs := t.cs) (ds := t.ds.map RowV.zs)
    unfold textM at htx
    rw [hLs] at htx hno hbo hlen
    have hlb : ∀ b ∈ Ls, b.length ≤ 86 := by
      intro b hb
      rw [← hLs] at hb
      unfold linesM at hb
      rcases List.mem_cons.1 hb with rfl | hb
      · have h1 := body_len nodesW.data.toList [t.N]
        have e : nodesW.data.toList.length = 5 := rfl
        rw [e] at h1
        simp only [List.length_cons, List.length_nil] at h1
        omega
      rcases List.mem_cons.1 hb with rfl | hb
      · have h1 := body_len framesW.data.toList [t.F]
        have e : framesW.data.toList.length = 6 := rfl
        rw [e] at h1
        simp only [List.length_cons, List.length_nil] at h1
        omega
      rcases List.mem_cons.1 hb with rfl | hb
      · have h1 := body_len cpusW.data.toList t.cs
        have e : cpusW.data.toList.length = 4 := rfl
        rw [e] at h1
        omega
      obtain ⟨z, hz, rfl⟩ := List.mem_map.1 hb
      obtain ⟨r, hrm, rfl⟩ := List.mem_map.1 hz
      have h1 := body_len distW.data.toList r.zs
      have e : distW.data.toList.length = 4 := rfl
      have := hr8 r hrm
      rw [e] at h1
      omega
    rw [List.length_map] at hlen hbo
    obtain ⟨n, hn⟩ : ∃ n, 3 + t.ds.length = n := ⟨_, rfl⟩
    rw [hn] at hlen hbo
    have hn11 : n ≤ 11 := by omega
    have hn3 : 4 ≤ n := by have := hML.hp; rw [List.length_map] at this; omega
    have hts := sofar_size hlb
    rw [hlen] at hts
    have hfs := flat_len Ls 86 hlb
    rw [hlen] at hfs
    have HTX := Lib.hid htx; have HNO := Lib.hid hno; have HBO := Lib.hid hbo; have HTS := Lib.hid hts; have HLB := Lib.hid hlb; have HLEN := Lib.hid hlen
    clear htx hno hbo hlen hML hlb hc16 hd8 hr8 hts hLs HX
    go_wp2_with fail
    refine HTX.out.mono ?_; rintro e w5 ⟨rfl, hB5⟩
    have HB5 := Lib.hid (bel_trans HBD.out hB5)
    clear hB5 HTX HT4 HB4 HBD i0 i1 i2 i3 HQ
    obtain ⟨S, hS⟩ : ∃ S, bytesOf (flatB Ls) = S := ⟨_, rfl⟩
    have hSs : S.size = (flatB Ls).length := by rw [← hS]; rfl
    have hSd : S.data.toList = flatB Ls := by rw [← hS]; simp [bytesOf]
    rw [hS]
    have hS9 : S.size ≤ 87 * n := by omega
    obtain ⟨pre, hpre⟩ : ∃ pre : Nat → List Value, ∀ j, (Ls.take j).map (fun b => Value.string (lnB b)) = pre j := ⟨_, fun _ => rfl⟩
    have HPRE := Lib.hid hpre
    have hp0 : ([] : List Value) = pre 0 := hpre 0
    have HP0 := Lib.hid hp0
    clear hpre hp0
    have HSS := Lib.hid hSs; have HSD := Lib.hid hSd; have HS := Lib.hid hS
    clear hSs hSd hfs hS
    go_wp2_with fail
    go_loopw [8, 9, 10] (fun v8 v9 v10 wr => ∃ (j f i : Nat) (A : Option Addr) (c : Nat), LnAt Ls j f i ∧ v10 = .int .i64 (i : Int) ∧ v9 = .int .i64 (f : Int) ∧ v8 = .slice A j c ∧ wr.ownsRow w0.heap.size 9 1 (.slice A j c) j (pre j) ∧ Below w0.heap.size w0 wr) (fun _ _ v _ => S.size - (intOf v).toNat)
    case atStart => exact ⟨0, 0, 0, none, 0, LnAt.zero _, rfl, rfl, rfl, by rw [← HP0.out]; exact World.ownsRow_nil _ _ _ _, HB5.out⟩
    case round =>
      clear HB5
      obtain ⟨j, f, i, A, c, hat, rfl, rfl, rfl, hown, hB⟩ := hrel
      have hile := hat.le
      rw [← HSS.out] at hile
      have hjl := hat.jn
      rw [HLEN.out] at hjl
      by_cases hlt : i < S.size
      · have hgt : (flatB Ls)[i]? = some (S[i]'hlt) := by
          rw [← HSD.out, List.getElem?_eq_getElem (by rw [HSD.out, ← HSS.out]; exact hlt)]
          rfl
        have hlt2 : i < (flatB Ls).length := by rw [← HSS.out]; exact hlt
        by_cases he : S[i]'hlt = 10
        · obtain ⟨b, hb, hnx, htk⟩ := hat.cut HNO.out hlt2 (by rw [hgt, he])
          have hce : (((S[i]'hlt).toNat : Int) == 10) = true := by rw [he]; rfl
          have hlo := hat.lo
          have hsl := fun w => cut_str_mid S f (i + 1) (by omega) (by omega) w
          have hlnb : S.extract f (i + 1) = lnB b := by
            rw [← extract_mid S f (i + 1), HSD.out, htk]; rfl
          have htk2 : pre (j + 1) = pre j ++ [Value.string (S.extract f (i + 1))] := by
            rw [hlnb, ← HPRE.out, ← HPRE.out, List.take_add_one, hb, List.map_append]; rfl
          have hjn := (List.getElem?_eq_some_iff.1 hb).1
          rw [HLEN.out] at hjn
          have HN := Lib.hid hnx; have HTK := Lib.hid htk2
          clear hnx hat he hgt htk hlnb htk2 hb
          have hoa := own_chV hown ((Ch.refl [] wr).alloc (.cells #[.string (S.extract f (i + 1))] 9)) (by simp)
          have hsz := hB.size
          go_wp2_with (at_builtin; (refine wpList_push _ rfl (.tmp 40) (.tmp 46) 52 rfl w0.heap.size 9 (.string ByteArray.empty) 16 Tryd.underlying52 info_strC rfl A j c _ rfl hoa wr.heap.size 1 (.string (S.extract f (i + 1))) rfl ?_ rfl (by omega) (by omega) (by simp; omega) ?_))
          · simp
          intro ga cp w6 hown6 hgr6 hor
          have hB6 := (bel_alloc hB (.cells #[.string (S.extract f (i + 1))] 9)).grown hgr6 (by simp; have := hB.size; omega) (fun k hk => (own_base hown k hk).1)
          rw [← HTK.out] at hown6
          have HO6 := Lib.hid hown6; have HB6 := Lib.hid hB6
          clear hown hown6 hgr6 hor hB hB6 hoa
          go_wp2_with fail
          go_roundw
          case rel => exact ⟨j + 1, i + 1, i + 1, some ⟨ga, 0, none⟩, cp, HN.out, by go_num, by go_num, rfl, HO6.out, HB6.out⟩
          case measure => simp [intOf]; omega
        · have hnx := hat.step hlt2 (by rw [hgt]; intro e; injection e with e; exact he e)
          have hce : (((S[i]'hlt).toNat : Int) == 10) = false := by
            rw [beq_eq_false_iff_ne]; intro e; exact he (UInt8.toNat_inj.1 (by show _ = 10; omega))
          have HN := Lib.hid hnx
          clear hnx hat he hgt
          go_wp2_with fail
          go_roundw
          case rel => exact ⟨j, f, i + 1, A, c, HN.out, by go_num, rfl, rfl, hown, hB⟩
          case measure => simp [intOf]; omega
      · have hjd := hat.done (by rw [← HSS.out]; exact hlt)
        rw [HLEN.out] at hjd
        subst hjd
        have htl : Ls.take j = Ls := by rw [← HLEN.out]; exact List.take_length
        have hpa : pre j = Ls.map (fun b => Value.string (lnB b)) := by rw [← HPRE.out, htl]
        rw [hpa] at hown
        clear hpa
        have HOW := Lib.hid hown; have HB := Lib.hid hB
        clear hat hown hB htl
        obtain ⟨g, cp, hv, hbg, hgl⟩ := HOW.out.form (by omega)
        injection hv with hA _ _
        subst hA
        clear hbg
        generalize wr = wz at *
        go_upto_region 14 with fail
        have hkb := umod_bd x (j : Int) (by omega) (by omega)
        generalize hke : wrap64 ((IntKind.u64.wrap x).tmod (j : Int)) = kk at hkb ⊢
        obtain ⟨k, rfl⟩ := Int.eq_ofNat_of_zero_le hkb.1
        have hkj : k < j := by omega
        clear hke hkb hlt hile hjl
        have hbk := HBO.out k hkj
        have HBK := Lib.hid hbk
        clear hbk HBO
        go_wp2_with fail
        go_loopw [12, 13] (fun v12 v13 wx => ∃ i : Nat, i ≤ j ∧ v13 = .int .i64 (i : Int) ∧ v12 = .string (bytesOf (flatB (sofar Ls k twice i))) ∧ wx = wz) (fun _ v _ => j - (intOf v).toNat)
        case atStart => exact ⟨0, by omega, rfl, by rw [sofar_zero]; rfl, rfl⟩
        case round =>
          obtain ⟨i, hi, rfl, rfl, rfl⟩ := hrel
          by_cases hlt : i < j
          · obtain ⟨b, hb⟩ : ∃ b, Ls[i]? = some b := ⟨_, List.getElem?_eq_getElem (by rw [HLEN.out]; exact hlt)⟩
            have hcell : wr.cell? ⟨g, i, none⟩ = some (.string (lnB b)) := by
              obtain ⟨g', hA, hc, _⟩ := own_at HOW.out (k := i) (u := .string (lnB b)) (by rw [List.getElem?_map, hb]; rfl)
              injection hA with hA
              injection hA with hA
              subst hA
              exact hc
            have hix : ∀ w : World, (Instr.indexAt 52 (.slice (some ⟨g, 0, none⟩) j c) (.int .i64 (i : Int))).run Tryd.prog w = .ok (.pointer (some ⟨g, i, none⟩)) w := fun w => by
              have := idx_z g 0 j c i hlt w
              rw [Nat.zero_add] at this
              exact this
            have hz2 : (lnB b).size ≤ 100 := by
              have := HLB.out b (List.mem_of_getElem? hb)
              unfold lnB
              rw [bytes_size, List.length_append, List.length_singleton]
              omega
            have hz1 : (bytesOf (flatB (sofar Ls k twice i))).size ≤ 2000 := by
              have := HTS.out k twice i
              rw [bytes_size]
              omega
            have e1 := add_line (sofar Ls k twice i) b
            by_cases hik : i = k
            · subst hik
              have hne : ((i : Int) != (i : Int)) = false := by simp
              have heq : ((i : Int) == (i : Int)) = true := by simp
              cases twice with
              | true =>
                have e2 := add_line (sofar Ls i true i ++ [b]) b
                rw [← e1, ← sofar_two hb] at e2
                have HE := Lib.hid e2
                clear e1 e2 hb
                generalize bytesOf (flatB (sofar Ls i true i)) = S1 at *
                generalize lnB b = LB at *
                go_wp2_with fail
                go_roundw
                case rel => exact ⟨i + 1, by omega, by go_num, congrArg Value.string HE.out, trivial⟩
                case measure => simp [intOf]; omega
              | false =>
                have e2 := sofar_none (Ls := Ls) (k := i) (by rw [HLEN.out]; exact hlt)
                have HE := Lib.hid e2
                clear e1 e2 hb
                go_wp2_with fail
                go_roundw
                case rel => exact ⟨i + 1, by omega, by go_num, by rw [HE.out], trivial⟩
                case measure => simp [intOf]; omega
            · have hne : ((i : Int) != (k : Int)) = true := by simp; omega
              have heq : ((i : Int) == (k : Int)) = false := by simp; omega
              rw [← sofar_plain hb hik] at e1
              have HE := Lib.hid e1
              clear e1 hb hik
              generalize bytesOf (flatB (sofar Ls k twice i)) = S1 at *
              generalize lnB b = LB at *
              go_wp2_with fail
              go_roundw
              case rel => exact ⟨i + 1, by omega, by go_num, congrArg Value.string HE.out, trivial⟩
              case measure => simp [intOf]; omega
          · obtain rfl : i = j := by omega
            have hsa := sofar_all (Ls := Ls) (k := k) (twice := twice) (by rw [HLEN.out]; exact hkj)
            rw [HLEN.out] at hsa
            have hts := HTS.out k twice i
            rw [hsa] at hts
            rw [hsa]
            have hmx := (HB.out.cell (p := ⟨2, 0, none⟩) (World.block_lt_of_cell? w0 _ HM.out)).trans HM.out
            have hp := topo_parse (bytesOf (flatB (bentL Ls k twice))) (by rw [bytes_size]; omega) mx wr hmx
            rw [HBK.out] at hp
            have HP := Lib.hid hp
            clear hp hmx hts hsa HBK HOW HTS HLB HLEN
            generalize bytesOf (flatB (bentL Ls k twice)) = X at *
            go_wp2_with fail
            refine HP.out.mono ?_; rintro e w7 ⟨⟨u, rfl, hU, hsu⟩, hB7⟩
            have hBz := bel_alloc (bel_trans HB.out hB7) (.cells #[.int .i64 u.N, .int .i64 u.F, .slice u.ca u.cs.length u.cc, .slice u.da u.ds.length u.dc] 53)
            have HBZ := Lib.hid hBz
            clear hU hsu hB7 HP hBz
            unfold TopoV.val
            by_cases h3 : 3 ≤ k
            · have h3' : (3 : Int) ≤ (k : Int) := by omega
              cases twice with
              | true =>
                have hw : ((wantL i k true : Nat) : Int) = (i : Int) + 1 := by unfold wantL; rw [if_pos h3, if_pos rfl]; rfl
                rw [hw]
                clear hw
                go_wp2_with fail
                go_ret
                exact ⟨rfl, HBZ.out⟩
              | false =>
                have hw : ((wantL i k false : Nat) : Int) = (i : Int) := by unfold wantL; rw [if_pos h3, if_neg (by simp)]
                rw [hw]
                clear hw
                go_wp2_with fail
                go_ret
                exact ⟨rfl, HBZ.out⟩
            · have h3' : ¬ (3 : Int) ≤ (k : Int) := by omega
              cases twice with
              | true =>
                have hw : ((wantL i k true : Nat) : Int) = (k : Int) + 2 := by unfold wantL; rw [if_neg h3, if_pos rfl]; rfl
                rw [hw]
                clear hw
                go_wp2_with fail
                go_ret
                exact ⟨rfl, HBZ.out⟩
              | false =>
                have hw : ((wantL i k false : Nat) : Int) = (k : Int) + 1 := by unfold wantL; rw [if_neg h3, if_neg (by simp)]; rfl
                rw [hw]
                clear hw
                go_wp2_with fail
                go_ret
                exact ⟨rfl, HBZ.out⟩
  · go_wp2_with fail
    refine HX.out.mono ?_; rintro e w5 ⟨rfl, hB5⟩
    go_wp2_with fail
    go_ret
    exact ⟨rfl, bel_trans HBD.out hB5⟩
end Go.Proofs.YtcanhegjhbhkhaaDoor
