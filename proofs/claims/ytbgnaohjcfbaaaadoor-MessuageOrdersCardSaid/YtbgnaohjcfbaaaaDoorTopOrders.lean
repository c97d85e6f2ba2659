/- The law MessuageOrders: of nodes in a row the order of a node is itself, and then by turns those on both sides; those of a set are its nodes, as they come there; a machine that went through its text has the same orders. -/
import Derived.Test.YtbgnaohjcfbaaaaDoorTopLine2
import Derived.Test.YtbgnaohjcfbaaaaDoorTopoText2
import Derived.Test.YtbgnaohjcfbaaaaDoorTopoTabs
import Derived.Test.YtbgnaohjcfbaaaaDoorStands
namespace Go.Proofs.YtbgnaohjcfbaaaaDoor
open Go.RowKit Go.Shelf
set_option linter.unusedVariables false
set_option linter.unusedSimpArgs false
attribute [local go_sem] World.cell?_alloc_lt

theorem out_textO {t : TopoV} (h : chkT t = 0) : outP (readT (bytesOf (textM t.N t.F t.cs (t.ds.map RowV.zs)))) = (Read.mk' ⟨t.N, t.F, t.cs, t.ds.map RowV.zs, ⟨3 + (t.ds.map RowV.zs).length, false⟩⟩, 0, 0) ∧ sameT (Read.mk' ⟨t.N, t.F, t.cs, t.ds.map RowV.zs, ⟨3 + (t.ds.map RowV.zs).length, false⟩⟩) t := by
  obtain ⟨hcnt, hbad, hmat⟩ := chk_zeroT h
  have hs : sameT (Read.mk' ⟨t.N, t.F, t.cs, t.ds.map RowV.zs, ⟨3 + (t.ds.map RowV.zs).length, false⟩⟩) t := ⟨rfl, rfl, rfl, by simp [Read.mk', Function.comp_def]⟩
  refine ⟨?_, hs⟩
  obtain ⟨hl, hr⟩ := rows_small hmat
  have hFb := pow_bd hcnt.2.2.1
  have hsm : Small t.cs := fun x hx => by
    have := List.any_eq_false.1 hbad x hx
    unfold badN at this
    simp at this
    omega
  rw [read_text (by omega) (by omega) hsm (by intro e; rw [e] at hcnt; simp at hcnt) (fun z hz => by
    obtain ⟨r, hrm, rfl⟩ := List.mem_map.1 hz
    refine ⟨(hr r hrm).1, fun e => ?_⟩
    have := (hr r hrm).2
    rw [e] at this
    simp at this
    omega) (by rw [List.length_map]; omega)]
  unfold outP
  rw [if_neg (by simp), chkT_same hs, h]
  simp
theorem text_sizeO {t : TopoV} (h : chkT t = 0) : (bytesOf (textM t.N t.F t.cs (t.ds.map RowV.zs))).size ≤ 900000 := by
  obtain ⟨hcnt, hbad, hmat⟩ := chk_zeroT h
  obtain ⟨hl, hr⟩ := rows_small hmat
  have h := flat_len (linesM t.N t.F t.cs (t.ds.map RowV.zs)) 510 (fun b hb => by
    unfold linesM at hb
    rcases List.mem_cons.1 hb with rfl | hb
    · have h1 := body_len nodesW.data.toList [t.N]
      have e : nodesW.data.toList.length = 5 := rfl
      rw [e] at h1
      simp only [List.length_cons, List.length_nil] at h1
      omega
    rcases List.mem_cons.1 hb with rfl | hb
    · have h1 := body_len framesW.data.toList [t.F]
      have e : framesW.data.toList.length = 6 := rfl
      rw [e] at h1
      simp only [List.length_cons, List.length_nil] at h1
      omega
    rcases List.mem_cons.1 hb with rfl | hb
    · have h1 := body_len cpusW.data.toList t.cs
      have e : cpusW.data.toList.length = 4 := rfl
      rw [e] at h1
      omega
    obtain ⟨z, hz, rfl⟩ := List.mem_map.1 hb
    obtain ⟨r, hrm, rfl⟩ := List.mem_map.1 hz
    have h1 := body_len distW.data.toList r.zs
    have e : distW.data.toList.length = 4 := rfl
    have := (hr r hrm).2
    rw [e] at h1
    omega)
  rw [bytes_size]
  unfold textM
  have h2 : (linesM t.N t.F t.cs (t.ds.map RowV.zs)).length = 3 + t.ds.length := by unfold linesM; simp; omega
  rw [h2] at h
  omega
theorem keepN_at {s : Nat} {xs : List Int} {i : Nat} {x : Int} (hx : xs[i]? = some x) (hd : delN s x = false) : (keepN s xs)[(keepN s (xs.take i)).length]? = some x := by
  have hi := (List.getElem?_eq_some_iff.1 hx).1
  have e : xs = xs.take i ++ x :: xs.drop (i + 1) := by
    conv => lhs; rw [← List.take_append_drop i xs]
    rw [List.drop_eq_getElem_cons hi]
    have := List.getElem?_eq_getElem hi
    rw [this] at hx
    injection hx with hx
    rw [hx]
  have hk : keepN s xs = keepN s (xs.take i) ++ x :: keepN s (xs.drop (i + 1)) := by
    conv => lhs; rw [e]
    unfold keepN
    rw [List.filter_append, List.filter_cons]
    unfold delN at hd
    rw [if_pos (by simpa using hd)]
  rw [hk, List.getElem?_append_right (Nat.le_refl _), Nat.sub_self]
  rfl
set_option maxRecDepth 100000 in
set_option maxHeartbeats 4000000 in
theorem messuageOrders_walk (x : Int) (_hx : (Lit.int .i64 x).wf = true) (y : Int) (_hy : (Lit.int .i64 y).wf = true) (s0 : Int) (hs0 : (Lit.int .u8 s0).wf = true) (w0 : World) (hmx : ∃ m : Int, w0.cell? ⟨0, 0, none⟩ = some (.int .i64 m)) (hpt : PowTab w0) : Calls Tryd.prog 4 #[.int .i64 x, .int .i64 y, .int .u8 s0] w0 fun e w' => e = .returned (.bool true) ∧ Below w0.heap.size w0 w' := by
  obtain ⟨mx, hm⟩ := hmx
  obtain ⟨s, rfl, hs⟩ : ∃ s : Nat, s0 = (s : Int) ∧ s < 256 := by
    simp [Lit.wf, IntKind.min, IntKind.max, IntKind.signed, IntKind.bits] at hs0
    exact ⟨s0.toNat, by omega, by omega⟩
  have HM := Lib.hid hm; have HPT := Lib.hid hpt
  clear hm hpt hs0
  go_enter Tryd.func4, Tryd.ntmps4
  go_upto_region 2 with fail
  have hnb := umod1_bd x 8 (by omega) (by omega)
  generalize hne : wrap64 (1 + wrap64 ((IntKind.u64.wrap x).tmod 8)) = nn at hnb ⊢
  obtain ⟨n, rfl⟩ := Int.eq_ofNat_of_zero_le (show 0 ≤ nn by omega)
  have hn1 : 1 ≤ n := by omega
  have hn8 : n ≤ 8 := by omega
  clear hne hnb
  go_upto_region 3 with fail
  have hkb := umod_bd y (n : Int) (by omega) (by omega)
  generalize hke : wrap64 ((IntKind.u64.wrap y).tmod (n : Int)) = kk at hkb ⊢
  obtain ⟨k, rfl⟩ := Int.eq_ofNat_of_zero_le hkb.1
  have hkn : k < n := by omega
  clear hke hkb
  go_wp2_with fail
  refine (line_top n hn8 16 w0).mono ?_; rintro e w1 ⟨t, rfl, hT, hN, hF, hc, hd, hB1⟩
  have hchk := chk_line hn1 hn8 hN (Or.inl hF) hc hd
  have hdl := len_line hd
  have hb1 := Blk.new w1 47 [.int .i64 t.N, .int .i64 t.F, .slice t.ca t.cs.length t.cc, .slice t.da t.ds.length t.dc]
  have hBa := bel_alloc hB1 (.cells #[.int .i64 t.N, .int .i64 t.F, .slice t.ca t.cs.length t.cc, .slice t.da t.ds.length t.dc] 47)
  have hT1 := hT.below (bel_alloc (Below.refl _ w1) (.cells #[.int .i64 t.N, .int .i64 t.F, .slice t.ca t.cs.length t.cc, .slice t.da t.ds.length t.dc] 47))
  have HB1 := Lib.hid hb1; have HBA := Lib.hid hBa; have HT1 := Lib.hid hT1; have HCH := Lib.hid hchk; have HD := Lib.hid hd; have HDL := Lib.hid hdl
  clear hb1 hBa hT1 hT hN hF hc hd hB1 hchk hdl
  unfold TopoV.val
  go_upto_region 4 with fail
  generalize w1.alloc (.cells #[.int .i64 t.N, .int .i64 t.F, .slice t.ca t.cs.length t.cc, .slice t.da t.ds.length t.dc] 47) = w2 at *
  generalize w1.heap.size = p9 at *
  have htx := topo_text t w2 HT1.out HCH.out (HPT.out.below HBA.out)
  have hou := out_textO HCH.out
  have hts := text_sizeO HCH.out
  obtain ⟨S, hS⟩ : ∃ S, bytesOf (textM t.N t.F t.cs (t.ds.map RowV.zs)) = S := ⟨_, rfl⟩
  rw [hS] at htx hou hts
  unfold TopoV.val at htx
  have j0 := HB1.out.at_ (i := 0) rfl
  have j1 := HB1.out.at_ (i := 1) rfl
  have j2 := HB1.out.at_ (i := 2) rfl
  have j3 := HB1.out.at_ (i := 3) rfl
  have HTX := Lib.hid htx; have HOU := Lib.hid hou
  clear htx hou hS
  go_wp2_with fail
  refine HTX.out.mono ?_; rintro e w3 ⟨rfl, hB3⟩
  have HB3 := Lib.hid (HB1.out.below hB3); have HT3 := Lib.hid (HT1.out.below hB3); have HBC := Lib.hid (bel_trans HBA.out hB3)
  have hm3 := (HBC.out.cell (p := ⟨0, 0, none⟩) (World.block_lt_of_cell? w0 _ HM.out)).trans HM.out
  have hp := topo_parse S hts mx w3 hm3
  rw [HOU.out.1] at hp
  have HP := Lib.hid hp
  clear hp hm3 hB3 HB1 HT1 HBA HTX j0 j1 j2 j3
  go_wp2_with fail
  refine HP.out.mono ?_; rintro e w4 ⟨⟨u, rfl, hU, hsu⟩, hB4⟩
  have hsut : sameT u t := ⟨hsu.1.trans HOU.out.2.1, hsu.2.1.trans HOU.out.2.2.1, hsu.2.2.1.trans HOU.out.2.2.2.1, hsu.2.2.2.trans HOU.out.2.2.2.2⟩
  have hb4 := Blk.new w4 47 [.int .i64 u.N, .int .i64 u.F, .slice u.ca u.cs.length u.cc, .slice u.da u.ds.length u.dc]
  have hBx := bel_alloc (Below.refl _ w4) (.cells #[.int .i64 u.N, .int .i64 u.F, .slice u.ca u.cs.length u.cc, .slice u.da u.ds.length u.dc] 47)
  have hchu : chkT u = 0 := by rw [chkT_same hsut]; exact HCH.out
  have hud : u.ds.map RowV.zs = rowsLn n n := hsut.2.2.2.trans HD.out
  have HB5 := Lib.hid hb4; have HU5 := Lib.hid (hU.below hBx); have HB9 := Lib.hid ((HB3.out.below hB4).below hBx); have HT5 := Lib.hid ((HT3.out.below hB4).below hBx); have HBD := Lib.hid (bel_trans (bel_trans HBC.out hB4) hBx); have HCU := Lib.hid hchu; have HUD := Lib.hid hud
  clear hsu hsut hb4 hBx hU hB4 HP HB3 HT3 HBC HOU hchu hud
  unfold TopoV.val
  go_upto_region 6 with fail
  generalize w4.alloc (.cells #[.int .i64 u.N, .int .i64 u.F, .slice u.ca u.cs.length u.cc, .slice u.da u.ds.length u.dc] 47) = w5 at *
  generalize w4.heap.size = p12 at *
  have j0 := HB5.out.at_ (i := 0) rfl
  have j1 := HB5.out.at_ (i := 1) rfl
  have j2 := HB5.out.at_ (i := 2) rfl
  have j3 := HB5.out.at_ (i := 3) rfl
  obtain ⟨r, hr, hrz⟩ := row_line hkn HUD.out
  obtain ⟨r', hr', hrz'⟩ := row_line hkn HD.out
  have hor := order_any u k r HCU.out hr w5 HU5.out
  have hul := len_line HUD.out
  rw [hrz, hul, order_line hkn hn8] at hor
  unfold TopoV.val at hor
  rw [hul] at hor
  have HOR := Lib.hid hor; have HRZ := Lib.hid hrz'; have HR := Lib.hid hr'; have HUL := Lib.hid hul
  clear hor hr hrz hrz' hr' hul
  rw [HUL.out] at j3
  go_wp2_with fail
  refine HOR.out.mono ?_; rintro e w6 ⟨⟨ga, ca, rfl, hOa⟩, hB6⟩
  have HB9' := Lib.hid (HB9.out.below hB6); have HT6 := Lib.hid (HT5.out.below hB6); have HBE := Lib.hid (bel_trans HBD.out hB6); have HOA := Lib.hid hOa
  clear hB6 hOa HOR HB5 HU5 HB9 HT5 HBD HCU HUD HUL j0 j1 j2 j3
  have j0 := HB9'.out.at_ (i := 0) rfl
  have j1 := HB9'.out.at_ (i := 1) rfl
  have j2 := HB9'.out.at_ (i := 2) rfl
  have j3 := HB9'.out.at_ (i := 3) rfl
  have hwi := within_any t k r' s hs HCH.out HR.out w6 HT6.out
  unfold withL at hwi
  rw [HRZ.out, order_line hkn hn8] at hwi
  unfold TopoV.val at hwi
  have HWI := Lib.hid hwi
  clear hwi
  generalize hWg : wantW n k n = W at *
  have hWl : W.length = n := by
    have := congrArg List.length hWg
    rw [← this, ← order_line hkn hn8, ordL_len, rowLn_len]
  have hWn : NodeL n W := by
    rw [← hWg, ← order_line hkn hn8]
    have := ordL_nodes (rowLn n k)
    rw [rowLn_len] at this
    exact this
  have HWG := Lib.hid hWg; have HWL := Lib.hid hWl; have HWN := Lib.hid hWn
  clear hWg hWl hWn
  go_wp2_with fail
  refine HWI.out.mono ?_; rintro e w7 ⟨⟨gb, cb, rfl, hOb⟩, hB7⟩
  have HOA7 := Lib.hid (own_chV HOA.out (Ch.below hB7 []) (by simp)); have HOB := Lib.hid hOb; have HBF := Lib.hid (bel_trans HBE.out hB7)
  clear hB7 hOb HWI HB9' HT6 HBE HOA j0 j1 j2 j3 HR HRZ HCH HD HDL
  go_wp2_with fail
  refine (stands_any w7).mono ?_; rintro e w8 ⟨rfl, hB8⟩
  have HOA8 := Lib.hid (own_chV HOA7.out (Ch.below hB8 []) (by simp)); have HOB8 := Lib.hid (own_chV HOB.out (Ch.below hB8 []) (by simp)); have HBG := Lib.hid (bel_trans HBF.out hB8)
  clear hB8 HOA7 HOB HBF
  go_upto_region 10 with fail
  go_wp2_with fail
  go_loopw [19, 20] (fun v19 v20 wr => ∃ (d : Nat) (A : Option Addr) (c : Nat), d ≤ n ∧ v20 = .int .i64 (d : Int) ∧ v19 = .slice A (wantW n k d).length c ∧ wr.ownsRow w8.heap.size 3 1 (.slice A (wantW n k d).length c) (wantW n k d).length ((wantW n k d).map (Value.int .i64)) ∧ Below w8.heap.size w8 wr) (fun _ v _ => n - (intOf v).toNat)
  case atStart => exact ⟨0, none, 0, by omega, rfl, rfl, World.ownsRow_nil _ _ _ _, Below.refl _ _⟩
  case round =>
    obtain ⟨d, A, c, hd, rfl, rfl, hown, hB⟩ := hrel
    have hwl := wantW_len n k d
    by_cases hlt : d < n
    · obtain ⟨m, hm⟩ : ∃ m, (wantW n k d).length = m := ⟨_, rfl⟩
      rw [hm] at hown hwl ⊢
      have HOW := Lib.hid hown; have HBW := Lib.hid hB; have HM := Lib.hid hm
      clear hown hB hm
      by_cases hdk : d ≤ k
      · by_cases hdb : 0 < d ∧ k + d < n
        · have hA : (0 : Int) ≤ (k : Int) - (d : Int) := by omega
          have hB1 : (0 : Int) < (d : Int) := by omega
          have hB2 : (k : Int) + (d : Int) < (n : Int) := by omega
          have hsu : wantW n k (d + 1) = wantW n k d ++ [(k : Int) - (d : Int), (k : Int) + (d : Int)] := by
            rw [wantW_succ]
            unfold stepW
            rw [if_pos hdk, if_pos hdb]
            rfl
          have HSU := Lib.hid hsu
          clear hsu hdk hdb
          go_upto_region 15 with fail
          have HOK1 := Lib.hid (own_chV HOW.out ((Ch.refl [] wr).alloc (.cells #[.int .i64 ((k : Int) - (d : Int))] 3)) (by simp))
          have HBL1 := Lib.hid (Blk.new wr 3 [.int .i64 ((k : Int) - (d : Int))])
          have HBW1 := Lib.hid (bel_alloc HBW.out (.cells #[.int .i64 ((k : Int) - (d : Int))] 3))
          have hlow1 := fun q (hq : (Value.slice A m c).ownBlock = some q) => (HOW.out.lt q hq).1
          have HLW1 := Lib.hid hlow1
          clear hlow1
          go_wp2_with (at_builtin; refine wpList_push _ rfl (.tmp 93) (.tmp 97) 23 rfl w8.heap.size 3 (.int .i64 0) 8 Tryd.underlying23 info_intO rfl A m c ((wantW n k d).map (Value.int .i64)) rfl HOK1.out _ 1 (.int .i64 ((k : Int) - (d : Int))) rfl (HBL1.out.at_ rfl) rfl (by omega) (by omega) HBW1.out.size ?_)
          intro g1 cp1 wq1 ho1 hg1 hor1
          have HO1 := Lib.hid ho1; have HB1 := Lib.hid (HBW1.out.grown hg1 HBW1.out.size HLW1.out)
          clear ho1 hg1 hor1 HOK1 HBL1 HBW1 HLW1
          go_upto_region 17 with fail
          have HOK2 := Lib.hid (own_chV HO1.out ((Ch.refl [] wq1).alloc (.cells #[.int .i64 ((k : Int) + (d : Int))] 3)) (by simp))
          have HBL2 := Lib.hid (Blk.new wq1 3 [.int .i64 ((k : Int) + (d : Int))])
          have HBW2 := Lib.hid (bel_alloc HB1.out (.cells #[.int .i64 ((k : Int) + (d : Int))] 3))
          have hlow2 := fun q (hq : (Value.slice (some ⟨g1, 0, none⟩) (m + 1) cp1).ownBlock = some q) => (HO1.out.lt q hq).1
          have HLW2 := Lib.hid hlow2
          clear hlow2
          go_wp2_with (at_builtin; refine wpList_push _ rfl (.tmp 108) (.tmp 112) 23 rfl w8.heap.size 3 (.int .i64 0) 8 Tryd.underlying23 info_intO rfl (some ⟨g1, 0, none⟩) (m + 1) cp1 ((wantW n k d).map (Value.int .i64) ++ [.int .i64 ((k : Int) - (d : Int))]) rfl HOK2.out _ 1 (.int .i64 ((k : Int) + (d : Int))) rfl (HBL2.out.at_ rfl) rfl (by omega) (by omega) HBW2.out.size ?_)
          intro g2 cp2 wq2 ho2 hg2 hor2
          have HO2 := Lib.hid ho2; have HB2 := Lib.hid (HBW2.out.grown hg2 HBW2.out.size HLW2.out)
          clear ho2 hg2 hor2 HOK2 HBL2 HBW2 HLW2
          go_wp2_with fail
          go_roundw
          case rel => exact ⟨d + 1, (some ⟨g2, 0, none⟩), cp2, by omega, by go_num, by rw [HSU.out]; exact congrArg (fun z => Value.slice (some ⟨g2, 0, none⟩) z cp2) (by simp [HM.out]), by rw [HSU.out, List.map_append, List.length_append, HM.out]; have h := HO2.out; first | exact h | (rw [List.append_assoc] at h; exact h), HB2.out⟩
          case measure => simp [intOf]; omega
        · have hnb : (d = 0) ∨ (¬ ((k : Int) + (d : Int) < (n : Int)) ∧ (0 : Int) < (d : Int)) := by omega
          have hA : (0 : Int) ≤ (k : Int) - (d : Int) := by omega
          have hsu : wantW n k (d + 1) = wantW n k d ++ [(k : Int) - (d : Int)] := by
            rw [wantW_succ]
            unfold stepW
            rw [if_pos hdk, if_neg hdb]
            rfl
          have HSU := Lib.hid hsu
          clear hsu hdk hdb
          go_upto_region 15 with fail
          have HOK1 := Lib.hid (own_chV HOW.out ((Ch.refl [] wr).alloc (.cells #[.int .i64 ((k : Int) - (d : Int))] 3)) (by simp))
          have HBL1 := Lib.hid (Blk.new wr 3 [.int .i64 ((k : Int) - (d : Int))])
          have HBW1 := Lib.hid (bel_alloc HBW.out (.cells #[.int .i64 ((k : Int) - (d : Int))] 3))
          have hlow1 := fun q (hq : (Value.slice A m c).ownBlock = some q) => (HOW.out.lt q hq).1
          have HLW1 := Lib.hid hlow1
          clear hlow1
          go_wp2_with (at_builtin; refine wpList_push _ rfl (.tmp 93) (.tmp 97) 23 rfl w8.heap.size 3 (.int .i64 0) 8 Tryd.underlying23 info_intO rfl A m c ((wantW n k d).map (Value.int .i64)) rfl HOK1.out _ 1 (.int .i64 ((k : Int) - (d : Int))) rfl (HBL1.out.at_ rfl) rfl (by omega) (by omega) HBW1.out.size ?_)
          intro g1 cp1 wq1 ho1 hg1 hor1
          have HO1 := Lib.hid ho1; have HB1 := Lib.hid (HBW1.out.grown hg1 HBW1.out.size HLW1.out)
          clear ho1 hg1 hor1 HOK1 HBL1 HBW1 HLW1
          rcases hnb with hnb | hnb
          all_goals
            go_wp2_with fail
            go_roundw
            case rel => exact ⟨d + 1, (some ⟨g1, 0, none⟩), cp1, by omega, by go_num, by rw [HSU.out]; exact congrArg (fun z => Value.slice (some ⟨g1, 0, none⟩) z cp1) (by simp [HM.out]), by rw [HSU.out, List.map_append, List.length_append, HM.out]; exact HO1.out, HB1.out⟩
            case measure => simp [intOf]; omega
      · by_cases hdb : 0 < d ∧ k + d < n
        · have hA : ¬ ((0 : Int) ≤ (k : Int) - (d : Int)) := by omega
          have hB1 : (0 : Int) < (d : Int) := by omega
          have hB2 : (k : Int) + (d : Int) < (n : Int) := by omega
          have hsu : wantW n k (d + 1) = wantW n k d ++ [(k : Int) + (d : Int)] := by
            rw [wantW_succ]
            unfold stepW
            rw [if_neg hdk, if_pos hdb]
            rfl
          have HSU := Lib.hid hsu
          clear hsu hdk hdb
          go_upto_region 17 with fail
          have HOK2 := Lib.hid (own_chV HOW.out ((Ch.refl [] wr).alloc (.cells #[.int .i64 ((k : Int) + (d : Int))] 3)) (by simp))
          have HBL2 := Lib.hid (Blk.new wr 3 [.int .i64 ((k : Int) + (d : Int))])
          have HBW2 := Lib.hid (bel_alloc HBW.out (.cells #[.int .i64 ((k : Int) + (d : Int))] 3))
          have hlow2 := fun q (hq : (Value.slice A m c).ownBlock = some q) => (HOW.out.lt q hq).1
          have HLW2 := Lib.hid hlow2
          clear hlow2
          go_wp2_with (at_builtin; refine wpList_push _ rfl (.tmp 108) (.tmp 112) 23 rfl w8.heap.size 3 (.int .i64 0) 8 Tryd.underlying23 info_intO rfl A m c ((wantW n k d).map (Value.int .i64)) rfl HOK2.out _ 1 (.int .i64 ((k : Int) + (d : Int))) rfl (HBL2.out.at_ rfl) rfl (by omega) (by omega) HBW2.out.size ?_)
          intro g2 cp2 wq2 ho2 hg2 hor2
          have HO2 := Lib.hid ho2; have HB2 := Lib.hid (HBW2.out.grown hg2 HBW2.out.size HLW2.out)
          clear ho2 hg2 hor2 HOK2 HBL2 HBW2 HLW2
          go_wp2_with fail
          go_roundw
          case rel => exact ⟨d + 1, (some ⟨g2, 0, none⟩), cp2, by omega, by go_num, by rw [HSU.out]; exact congrArg (fun z => Value.slice (some ⟨g2, 0, none⟩) z cp2) (by simp [HM.out]), by rw [HSU.out, List.map_append, List.length_append, HM.out]; exact HO2.out, HB2.out⟩
          case measure => simp [intOf]; omega
        · have hnb : (d = 0) ∨ (¬ ((k : Int) + (d : Int) < (n : Int)) ∧ (0 : Int) < (d : Int)) := by omega
          have hA : ¬ ((0 : Int) ≤ (k : Int) - (d : Int)) := by omega
          have hsu : wantW n k (d + 1) = wantW n k d := by
            rw [wantW_succ]
            unfold stepW
            rw [if_neg hdk, if_neg hdb]
            simp
          have hnb2 := hnb.resolve_left (by omega)
          clear hnb
          have HSU := Lib.hid hsu
          clear hsu hdk hdb
          go_wp2_with fail
          go_roundw
          case rel => exact ⟨d + 1, A, c, by omega, by go_num, by rw [HSU.out, HM.out], by rw [HSU.out, HM.out]; exact HOW.out, HBW.out⟩
          case measure => simp [intOf]; omega
    · obtain rfl : d = n := by omega
      rw [HWG.out] at hown ⊢
      have HOW := Lib.hid hown; have HBW := Lib.hid hB
      clear hown hB hwl
      have HOA9 := Lib.hid (own_chV HOA8.out (Ch.below HBW.out []) (by simp)); have HOB9 := Lib.hid (own_chV HOB8.out (Ch.below HBW.out []) (by simp)); have HBH := Lib.hid (bel_trans HBG.out HBW.out)
      clear HOA8 HOB8 HBG HBW
      have hWl := HWL.out
      rw [hWl] at HOW ⊢
      obtain ⟨gw, cw, hv, hbw, hgw⟩ := HOW.out.form (by omega)
      injection hv with hA _ hcw
      subst hA
      subst hcw
      obtain ⟨K, hK⟩ : ∃ K, keepN s W = K := ⟨_, rfl⟩
      have HK := Lib.hid hK
      rw [hK] at HOB9 ⊢
      clear hK hbw hgw hWl
      generalize wr = wz at *
      go_wp2_with fail
      go_loopw [21, 22] (fun v21 v22 wx => ∃ i : Nat, i ≤ d ∧ v22 = .int .i64 (i : Int) ∧ v21 = .int .i64 ((keepN s (W.take i)).length : Nat) ∧ Below wz.heap.size wz wx) (fun _ v _ => d - (intOf v).toNat)
      case atStart => exact ⟨0, by omega, rfl, by simp [keepN], Below.refl _ _⟩
      case round =>
        obtain ⟨i, hi, rfl, rfl, hB⟩ := hrel
        by_cases hlt : i < d
        · obtain ⟨z, hz⟩ : ∃ z, W[i]? = some z := ⟨_, List.getElem?_eq_getElem (by rw [HWL.out]; exact hlt)⟩
          obtain ⟨a, rfl, had⟩ := HWN.out z (List.mem_of_getElem? hz)
          have cel : ∀ {g c : Nat}, wz.ownsRow w5.heap.size 3 1 (.slice (some ⟨g, 0, none⟩) d c) d (W.map (Value.int .i64)) ∨ wz.ownsRow w8.heap.size 3 1 (.slice (some ⟨g, 0, none⟩) d c) d (W.map (Value.int .i64)) → wr.cell? ⟨g, i, none⟩ = some (.int .i64 (a : Int)) := fun {g c} h => by
            rcases h with h | h
            all_goals
              obtain ⟨g', hA, hc, hlt2, _⟩ := own_at h (k := i) (u := .int .i64 (a : Int)) (by rw [List.getElem?_map, hz]; rfl)
              injection hA with hA
              injection hA with hA
              subst hA
              exact (hB.cell (p := ⟨g, i, none⟩) hlt2).trans hc
          have c1 := cel (Or.inl HOA9.out)
          have c2 := cel (Or.inr HOW.out)
          have hx1 := fun w => idx_own ga d ca i hlt w
          have hx2 := fun w => idx_own gw d c i hlt w
          have hsn := keepN_snoc s W hz
          have hkat := keepN_at (s := s) hz
          have hhas := fun w => has_at s hs (a : Int) w
          have hml : (keepN s (W.take i)).length ≤ 8 := by
            have h1 : (keepN s (W.take i)).length ≤ (W.take i).length := List.length_filter_le _ _
            rw [List.length_take] at h1
            omega
          rw [HK.out] at hkat
          have HSN := Lib.hid hsn; have HKAT := Lib.hid hkat; have HHAS := Lib.hid hhas; have HBX := Lib.hid hB
          clear cel hsn hkat hhas hB hz
          go_upto_region 22 with fail
          go_quiet (fail)
          have HBX2 := Lib.hid (bel_drewN HBX.out nq)
          have c1' : (wr.drewN nq).cell? ⟨ga, i, none⟩ = some (.int .i64 (a : Int)) := c1
          clear c1 c2 HBX
          generalize wr.drewN nq = wy at *
          cases hd : delN s (a : Int) with
          | true =>
            have hh : hasN s (a : Int) = false := by unfold delN at hd; simpa using hd
            rw [hh] at HHAS
            have hs2 := HSN.out
            rw [hd, if_pos rfl] at hs2
            have HS2 := Lib.hid hs2
            clear HSN hs2 HKAT hd hh
            go_wp2_with fail
            refine (HHAS.out _).mono ?_; rintro e w1 ⟨rfl, rfl⟩
            go_wp2_with fail
            go_roundw
            case rel => exact ⟨i + 1, by omega, by go_num, by rw [HS2.out], HBX2.out⟩
            case measure => simp [intOf]; omega
          | false =>
            have hh : hasN s (a : Int) = true := by unfold delN at hd; simpa using hd
            rw [hh] at HHAS
            have hs2 := HSN.out
            rw [hd, if_neg (by simp)] at hs2
            have hs3 := congrArg List.length hs2
            rw [List.length_append, List.length_singleton] at hs3
            have hk2 := HKAT.out hd
            have hmk := (List.getElem?_eq_some_iff.1 hk2).1
            have hKl : K.length ≤ 8 := by
              rw [← HK.out]
              have h1 : (keepN s W).length ≤ W.length := List.length_filter_le _ _
              rw [HWL.out] at h1
              omega
            obtain ⟨m, hm⟩ : ∃ m, (keepN s (W.take i)).length = m := ⟨_, rfl⟩
            rw [hm] at hk2 hmk hs3 hml ⊢
            have c3 : wy.cell? ⟨gb, m, none⟩ = some (.int .i64 (a : Int)) := by
              obtain ⟨g', hA, hc, hlt2, _⟩ := own_at HOB9.out (k := m) (u := .int .i64 (a : Int)) (by rw [List.getElem?_map, hk2]; rfl)
              injection hA with hA
              injection hA with hA
              subst hA
              exact (HBX2.out.cell (p := ⟨gb, m, none⟩) hlt2).trans hc
            have hx3 := fun w => idx_own gb K.length cb m hmk w
            have hge : ¬ ((K.length : Int) ≤ (m : Int)) := by omega
            have HS3 := Lib.hid hs3
            clear HSN hs2 hs3 HKAT hk2 hd hh hm
            go_wp2_with fail
            refine (HHAS.out _).mono ?_; rintro e w1 ⟨rfl, rfl⟩
            go_upto_region 25 with fail
            go_quiet (fail)
            have HBX3 := Lib.hid (bel_drewN HBX2.out nq)
            clear c1' c3 HBX2
            generalize wy.drewN nq = wv at *
            go_wp2_with fail
            go_roundw
            case rel => exact ⟨i + 1, by omega, by go_num, by rw [HS3.out]; rfl, HBX3.out⟩
            case measure => simp [intOf]; omega
        · have hid : i = d := by omega
          have htk : W.take i = W := List.take_of_length_le (by rw [HWL.out]; omega)
          have hKl : K.length ≤ 8 := by
            rw [← HK.out]
            have h1 : (keepN s W).length ≤ W.length := List.length_filter_le _ _
            rw [HWL.out] at h1
            omega
          rw [htk, HK.out]
          subst hid
          have HBX := Lib.hid (bel_trans HBH.out hB)
          clear htk hB
          go_wp2_with fail
          go_ret
          exact ⟨rfl, HBX.out⟩
end Go.Proofs.YtbgnaohjcfbaaaaDoor
