/- The law TopoChecks. -/
import Derived.Test.YtcanhegjhbhkhaaDoorTopoSame
import Derived.Test.YtcanhegjhbhkhaaDoorTopoBents
import Derived.Test.YtcanhegjhbhkhaaDoorAfter
import Derived.Deep.QuietTactic
import Derived.BigQuiet
namespace Go.Proofs.YtcanhegjhbhkhaaDoor
open Go.RowKit Go.Shelf
set_option linter.unusedVariables false
set_option linter.unusedSimpArgs false
attribute [local go_sem] World.cell?_alloc_lt

theorem after_call2 {P : Program} {f : FuncId} {args : Array Value} {w : World} {v : Value} (h : ∀ w', Below w.heap.size w w' → Calls P f args w' fun e w'' => e = .returned v ∧ Below w'.heap.size w' w'') (x : After w) :
    Calls P f args x.1 fun e w'' => e = .returned v ∧ ∃ y : After w, w'' = y.1 :=
  (h x.1 x.2).mono fun _ w'' ⟨he, hb⟩ => ⟨he, ⟨w'', bel_trans x.2 hb⟩, rfl⟩
set_option maxRecDepth 100000 in
theorem topo_text_no (t : TopoV) (w : World) (hT : InTopo w t) (q : Int) (hq : chkT t = q) (hne : q ≠ 0) : Calls Tryd.prog 32 #[t.val] w fun e w' => e = .returned (.tuple #[.string ⟨#[]⟩, .int .i64 q]) ∧ Below w.heap.size w w' := by
  have hck := fun w hT => topo_check t w hT
  rw [hq] at hck
  obtain ⟨N, F, ca, cc, cs, da, dc, ds⟩ := t
  simp only [TopoV.val] at *
  have hba : Below w.heap.size w (w.alloc (.cells #[.int .i64 N, .int .i64 F, .slice ca cs.length cc, .slice da ds.length dc] 53)) := bel_alloc (Below.refl _ _) _
  have hck2 := hck _ (hT.below hba)
  have HCK := Lib.hid hck2; have HBA := Lib.hid hba
  clear hck hck2 hba hT hq
  go_enter Tryd.func32, Tryd.ntmps32
  go_wp2_with fail
  refine HCK.out.mono ?_; rintro e w2 ⟨rfl, hB2⟩
  go_wp2_with fail
  go_ret2
  exact ⟨rfl, bel_trans HBA.out hB2⟩
theorem text_size {N F : Int} {cs : List Int} {ds : List RowV} (hc : cs.length ≤ 100) (hd : ds.length ≤ 100) (hr : ∀ r ∈ ds, r.zs.length ≤ 10) : (bytesOf (textM N F cs (ds.map RowV.zs))).size ≤ 900000 := by
  have h := flat_len (linesM N F cs (ds.map RowV.zs)) 510 (fun b hb => by
    unfold linesM at hb
    rcases List.mem_cons.1 hb with rfl | hb
    · have h1 := body_len nodesW.data.toList [N]
      have e : nodesW.data.toList.length = 5 := rfl
      rw [e] at h1
      simp only [List.length_cons, List.length_nil] at h1
      omega
    rcases List.mem_cons.1 hb with rfl | hb
    · have h1 := body_len framesW.data.toList [F]
      have e : framesW.data.toList.length = 6 := rfl
      rw [e] at h1
      simp only [List.length_cons, List.length_nil] at h1
      omega
    rcases List.mem_cons.1 hb with rfl | hb
    · have h1 := body_len cpusW.data.toList cs
      have e : cpusW.data.toList.length = 4 := rfl
      rw [e] at h1
      omega
    obtain ⟨z, hz, rfl⟩ := List.mem_map.1 hb
    obtain ⟨r, hrm, rfl⟩ := List.mem_map.1 hz
    have h1 := body_len distW.data.toList r.zs
    have e : distW.data.toList.length = 4 := rfl
    have := hr r hrm
    rw [e] at h1
    omega)
  unfold textM
  rw [bytes_size]
  have hl : (linesM N F cs (ds.map RowV.zs)).length ≤ 103 := by unfold linesM; simp; omega
  have : (510 + 1) * (linesM N F cs (ds.map RowV.zs)).length ≤ 511 * 103 := Nat.mul_le_mul_left _ hl
  omega
theorem sameT.trans {a b c : TopoV} (h : sameT a b) (k : sameT b c) : sameT a c := ⟨h.1.trans k.1, h.2.1.trans k.2.1, h.2.2.1.trans k.2.2.1, h.2.2.2.trans k.2.2.2⟩
/-- What a good machine's text is read as. -/
theorem out_text {t : TopoV} (h : chkT t = 0) : outP (readT (bytesOf (textM t.N t.F t.cs (t.ds.map RowV.zs)))) = (Read.mk' ⟨t.N, t.F, t.cs, t.ds.map RowV.zs, ⟨3 + (t.ds.map RowV.zs).length, false⟩⟩, 0, 0) ∧ sameT (Read.mk' ⟨t.N, t.F, t.cs, t.ds.map RowV.zs, ⟨3 + (t.ds.map RowV.zs).length, false⟩⟩) t := by
  obtain ⟨hcnt, hbad, hmat⟩ := chk_zero h
  have hs : sameT (Read.mk' ⟨t.N, t.F, t.cs, t.ds.map RowV.zs, ⟨3 + (t.ds.map RowV.zs).length, false⟩⟩) t := ⟨rfl, rfl, rfl, by simp [Read.mk', Function.comp_def]⟩
  refine ⟨?_, hs⟩
  obtain ⟨hl, hr⟩ := rows_small hmat
  have hFb := pow_bd hcnt.2.2.1
  have hsm : Small t.cs := fun x hx => by
    have := List.any_eq_false.1 hbad x hx
    unfold badN at this
    simp at this
    omega
  rw [read_text (by omega) (by omega) hsm (by intro e; rw [e] at hcnt; simp at hcnt) (fun z hz => by
    obtain ⟨r, hrm, rfl⟩ := List.mem_map.1 hz
    refine ⟨(hr r hrm).1, fun e => ?_⟩
    have := (hr r hrm).2
    rw [e] at this
    simp at this
    omega) (by rw [List.length_map]; omega)]
  unfold outP
  rw [if_neg (by simp), chkT_same hs, h]
  simp
set_option maxRecDepth 100000 in
set_option maxHeartbeats 8000000 in
theorem topoChecks_walk (w0 : World) (t0 : TopoV) (hT : InTopo w0 t0) (hcc : t0.cs.length ≤ t0.cc) (hdc : t0.ds.length ≤ t0.dc) (hrc : RowCap t0.ds) (hmx : ∃ m : Int, w0.cell? ⟨2, 0, none⟩ = some (.int .i64 m)) (hpt : PowTab w0) : Calls Tryd.prog 9 #[t0.val] w0 fun e w' => e = .returned (.bool true) ∧ Below w0.heap.size w0 w' := by
  obtain ⟨mx, hm⟩ := hmx
  have htm := fun w hI => tame_any t0 w hI hcc hrc
  have HTM := Lib.hid htm; have HM := Lib.hid hm; have HT := Lib.hid hT; have HPT := Lib.hid hpt
  clear htm hm hT hcc hdc hrc hpt
  obtain ⟨N0, F0, ca0, cc0, cs0, da0, dc0, ds0⟩ := t0
  have hb3 := Blk.new w0 48 [.int .i64 N0, .int .i64 F0, .slice ca0 cs0.length cc0, .slice da0 ds0.length dc0]
  have hBA := bel_alloc (Below.refl w0.heap.size w0) (.cells #[.int .i64 N0, .int .i64 F0, .slice ca0 cs0.length cc0, .slice da0 ds0.length dc0] 48)
  have hb3 : Blk (w0.alloc (.cells #[.int .i64 N0, .int .i64 F0, .slice ca0 cs0.length cc0, .slice da0 ds0.length dc0] 48)) w0.heap.size 48 [.int .i64 N0, .int .i64 F0, .slice ca0 cs0.length cc0, .slice da0 ds0.length dc0] := hb3
  have hcall := HTM.out _ (HT.out.below hBA)
  simp only [TopoV.val] at *
  have HC := Lib.hid hcall
  clear hcall HTM
  go_enter Tryd.func9, Tryd.ntmps9
  go_upto_region 1 with fail
  generalize w0.alloc (.cells #[.int .i64 N0, .int .i64 F0, .slice ca0 cs0.length cc0, .slice da0 ds0.length dc0] 48) = wA at *
  have j0 := hb3.at_ (i := 0) rfl
  have j1 := hb3.at_ (i := 1) rfl
  have j2 := hb3.at_ (i := 2) rfl
  have j3 := hb3.at_ (i := 3) rfl
  go_wp2_with fail
  refine HC.out.mono ?_; rintro e w1 ⟨⟨t, rfl, hO, hsm⟩, hB1⟩
  have hb31 := hb3.below hB1
  have k0 := hb31.at_ (i := 0) rfl
  have k1 := hb31.at_ (i := 1) rfl
  have k2 := hb31.at_ (i := 2) rfl
  have k3 := hb31.at_ (i := 3) rfl
  have f0 := hb31.frozen 0
  have f1 := hb31.frozen 1
  have f2 := hb31.frozen 2
  have f3 := hb31.frozen 3
  have hBw := bel_trans hBA hB1
  have hc : Ch [w0.heap.size] w1 ((((w1.setCell ⟨w0.heap.size, 0, none⟩ (.int .i64 t.N)).setCell ⟨w0.heap.size, 1, none⟩ (.int .i64 t.F)).setCell ⟨w0.heap.size, 2, none⟩ (.slice t.ca t.cs.length t.cc)).setCell ⟨w0.heap.size, 3, none⟩ (.slice t.da t.ds.length t.dc)) :=
    ((((Ch.refl [w0.heap.size] w1).set (p := ⟨w0.heap.size, 0, none⟩) (by simp) _).set (p := ⟨w0.heap.size, 1, none⟩) (by simp) _).set (p := ⟨w0.heap.size, 2, none⟩) (by simp) _).set (p := ⟨w0.heap.size, 3, none⟩) (by simp) _
  have hb1 : Blk ((((w1.setCell ⟨w0.heap.size, 0, none⟩ (.int .i64 t.N)).setCell ⟨w0.heap.size, 1, none⟩ (.int .i64 t.F)).setCell ⟨w0.heap.size, 2, none⟩ (.slice t.ca t.cs.length t.cc)).setCell ⟨w0.heap.size, 3, none⟩ (.slice t.da t.ds.length t.dc)) w0.heap.size 48 [.int .i64 t.N, .int .i64 t.F, .slice t.ca t.cs.length t.cc, .slice t.da t.ds.length t.dc] := (((hb31.set_ 0 _).set_ 1 _).set_ 2 _).set_ 3 _
  have hT1 := (hO.far hc (fun y hy => by rw [List.mem_singleton] at hy; subst hy; exact ⟨_, _, hb31, by decide, by decide⟩)).inT
  have hBb := bel_ch hBw hc (by simp)
  have htl := tame_len (⟨N0, F0, ca0, cc0, cs0, da0, dc0, ds0⟩ : TopoV)
  have hsl := same_len hsm
  have hlc : t.cs.length ≤ 100 := by omega
  have hld : t.ds.length ≤ 100 := by omega
  have hlr : ∀ r ∈ t.ds, r.zs.length ≤ 10 := hsl.2.2 htl.2.2
  have HB1 := Lib.hid hb1; have HT1 := Lib.hid hT1; have HBb := Lib.hid hBb; have HLR := Lib.hid hlr
  clear hc hO hsm hb31 hb3 j0 j1 j2 j3 hBA hBw hB1 HC htl hsl HT hlr hb1 hT1 hBb
  go_upto_region 2 with fail
  clear k0 k1 k2 k3 f0 f1 f2 f3
  generalize (((w1.setCell ⟨w0.heap.size, 0, none⟩ (.int .i64 t.N)).setCell ⟨w0.heap.size, 1, none⟩ (.int .i64 t.F)).setCell ⟨w0.heap.size, 2, none⟩ (.slice t.ca t.cs.length t.cc)).setCell ⟨w0.heap.size, 3, none⟩ (.slice t.da t.ds.length t.dc) = w2 at *
  have e0 := HB1.out.at_ (i := 0) rfl
  have e1 := HB1.out.at_ (i := 1) rfl
  have e2 := HB1.out.at_ (i := 2) rfl
  have e3 := HB1.out.at_ (i := 3) rfl
  have hto := to_any t w2 HT1.out (by omega) (by omega) (fun r hr => by have := HLR.out r hr; omega)
  unfold TopoV.val at hto
  have HTO := Lib.hid hto
  clear hto
  go_wp2_with fail
  refine HTO.out.mono ?_; rintro e w3 ⟨⟨u, rfl, hOu, hsu⟩, hB3⟩
  have hb13 := (HB1.out.below hB3).alloc (.cells #[.int .i64 u.N, .int .i64 u.F, .slice u.ca u.cs.length u.cc, .slice u.da u.ds.length u.dc] 53)
  have hbu := Blk.new w3 53 [.int .i64 u.N, .int .i64 u.F, .slice u.ca u.cs.length u.cc, .slice u.da u.ds.length u.dc]
  have hTu := hOu.inT.below (bel_alloc (Below.refl _ w3) (.cells #[.int .i64 u.N, .int .i64 u.F, .slice u.ca u.cs.length u.cc, .slice u.da u.ds.length u.dc] 53))
  have hT3 := (HT1.out.below hB3).below (bel_alloc (Below.refl _ w3) (.cells #[.int .i64 u.N, .int .i64 u.F, .slice u.ca u.cs.length u.cc, .slice u.da u.ds.length u.dc] 53))
  have hBc := bel_alloc (bel_trans HBb.out hB3) (.cells #[.int .i64 u.N, .int .i64 u.F, .slice u.ca u.cs.length u.cc, .slice u.da u.ds.length u.dc] 53)
  have HB13 := Lib.hid hb13; have HBU := Lib.hid hbu; have HTU := Lib.hid hTu; have HT3 := Lib.hid hT3; have HBC := Lib.hid hBc; have HSU := Lib.hid hsu
  clear hb13 hbu hTu hT3 hBc hsu hOu hB3 HTO HB1 HT1 HBb e0 e1 e2 e3
  go_upto_region 3 with fail
  generalize w3.alloc (.cells #[.int .i64 u.N, .int .i64 u.F, .slice u.ca u.cs.length u.cc, .slice u.da u.ds.length u.dc] 53) = w4 at *
  generalize w3.heap.size = p3 at *
  have q0 := HBU.out.at_ (i := 0) rfl
  have q1 := HBU.out.at_ (i := 1) rfl
  have q2 := HBU.out.at_ (i := 2) rfl
  have q3 := HBU.out.at_ (i := 3) rfl
  have hck := topo_check u w4 HTU.out
  rw [chkT_same HSU.out] at hck
  obtain ⟨q, hq⟩ : ∃ q, chkT t = q := ⟨_, rfl⟩
  rw [hq] at hck
  unfold TopoV.val at hck
  have HCK := Lib.hid hck; have HQ := Lib.hid hq
  clear hck hq
  go_wp2_with fail
  refine HCK.out.mono ?_; rintro e w5 ⟨rfl, hB5⟩
  have HB5 := Lib.hid hB5
  have hU5 := HTU.out.below hB5
  have q0 := (HBU.out.below hB5).at_ (i := 0) rfl
  have q1 := (HBU.out.below hB5).at_ (i := 1) rfl
  have q2 := (HBU.out.below hB5).at_ (i := 2) rfl
  have q3 := (HBU.out.below hB5).at_ (i := 3) rfl
  by_cases hq0 : q = 0
  · have hchu : chkT u = 0 := by rw [chkT_same HSU.out, HQ.out, hq0]
    have htx := topo_text u w5 hU5 hchu (HPT.out.below (bel_trans HBC.out hB5))
    subst hq0
    have hout := out_text hchu
    obtain ⟨S, hSx⟩ : ∃ S, bytesOf (textM u.N u.F u.cs (u.ds.map RowV.zs)) = S := ⟨_, rfl⟩
    have htm2 : bytesOf (textM t.N t.F t.cs (t.ds.map RowV.zs)) = S := by
      obtain ⟨x1, x2, x3, x4⟩ := HSU.out
      rw [← hSx, x1, x2, x3, x4]
    have hsl2 := same_len HSU.out
    have hS9 : S.size ≤ 900000 := by
      rw [← hSx]
      exact text_size (by omega) (by omega) (fun r hr => by
        have : r.zs ∈ u.ds.map RowV.zs := List.mem_map_of_mem hr
        rw [HSU.out.2.2.2] at this
        obtain ⟨y, hy, e⟩ := List.mem_map.1 this
        have := HLR.out y hy
        rw [← e]; exact this)
    clear hsl2
    rw [hSx] at htx hout
    unfold TopoV.val at htx
    have HTX := Lib.hid htx; have HOUT := Lib.hid hout; have HTM2 := Lib.hid htm2
    clear hU5 hB5 htx hout htm2 hSx hchu
    go_wp2_with fail
    refine HTX.out.mono ?_; rintro e w6 ⟨rfl, hB6⟩
    have HBX := Lib.hid (bel_trans HB5.out hB6)
    clear hB6 HTX HCK HB5 q0 q1 q2 q3
    · -- all is compared
      have b13 := HB13.out.below HBX.out
      have bu := HBU.out.below HBX.out
      have hT6 := HT3.out.below HBX.out
      have hU6 := HTU.out.below HBX.out
      have hbel6 := bel_trans HBC.out HBX.out
      have hm6 := (hbel6.cell (p := ⟨2, 0, none⟩) (World.block_lt_of_cell? w0 _ HM.out)).trans HM.out
      have r0 := after_cell (b13.at_ (i := 0) rfl)
      have r1 := after_cell (b13.at_ (i := 1) rfl)
      have r2 := after_cell (b13.at_ (i := 2) rfl)
      have r3 := after_cell (b13.at_ (i := 3) rfl)
      have s0 := after_cell (bu.at_ (i := 0) rfl)
      have s1 := after_cell (bu.at_ (i := 1) rfl)
      have s2 := after_cell (bu.at_ (i := 2) rfl)
      have s3 := after_cell (bu.at_ (i := 3) rfl)
      have ha1 : ∀ w', Below w6.heap.size w6 w' → _ := fun w' h => tops_any mx w' ((h.cell (p := ⟨2, 0, none⟩) (World.block_lt_of_cell? w6 _ hm6)).trans hm6)
      have ha2 : ∀ w', Below w6.heap.size w6 w' → _ := fun w' h => ref_check t w' (hT6.below h)
      have ha3 : ∀ w', Below w6.heap.size w6 w' → _ := fun w' (h : Below w6.heap.size w6 w') => from_any u w'
      have ha4 : ∀ w', Below w6.heap.size w6 w' → _ := fun w' h => same_any u t w' (hU6.below h) (hT6.below h) HSU.out
      rw [HQ.out] at ha2
      unfold TopoV.val at ha2 ha3 ha4
      have HA1 := Lib.hid ha1; have HA2 := Lib.hid ha2; have HA3 := Lib.hid ha3; have HA4 := Lib.hid ha4
      have HB136 := Lib.hid b13; have HBEL6 := Lib.hid hbel6; have HT6 := Lib.hid hT6; have HM6 := Lib.hid hm6
      clear b13 bu hT6 hU6 hbel6 hm6 ha1 ha2 ha3 ha4
      go_upto_region 5 with fail
      refine wp_region_after (by kernel_rfl) (by kernel_rfl) ?_
      repeat (first | go_big_quiet_step (first | (go_at_call 26; exact after_call2 HA1.out _) | (go_at_call 27; exact after_call2 HA2.out _) | (go_at_call 34; exact after_call2 HA3.out _) | (go_at_call 33; exact after_call2 HA4.out _)) | quiet_step (first | (go_at_call 26; exact after_call2 HA1.out _) | (go_at_call 27; exact after_call2 HA2.out _) | (go_at_call 34; exact after_call2 HA3.out _) | (go_at_call 33; exact after_call2 HA4.out _)))
      refine wpQuiet_nil ?_; intro _ hw'; obtain ⟨xq, hw''⟩ := hw'; subst hw''
      go_upto_region 9 with fail
      have hb7 := HB136.out.below xq.2
      have hT7 := HT6.out.below xq.2
      have hbel7 := bel_trans HBEL6.out xq.2
      have hm7 := (xq.2.cell (p := ⟨2, 0, none⟩) (World.block_lt_of_cell? w6 _ HM6.out)).trans HM6.out
      have hp := topo_parse S hS9 mx xq.1 hm7
      rw [HOUT.out.1] at hp
      have HPX := Lib.hid hp; have HB7 := Lib.hid hb7; have HT7 := Lib.hid hT7; have HBEL7 := Lib.hid hbel7; have HM7 := Lib.hid hm7
      clear hp hb7 hT7 hbel7 hm7 HA1 HA2 HA3 HA4 HB136 HT6 HBEL6 HM6 r0 r1 r2 r3 s0 s1 s2 s3
      change Code.wp _ _ _ _ xq.1
      generalize xq.1 = w7 at *
      go_wp2_with fail
      refine HPX.out.mono ?_; rintro e w8 ⟨⟨y, rfl, hTy, hsy⟩, hB8⟩
      have hb8 := (HB7.out.below hB8).alloc (.cells #[.int .i64 y.N, .int .i64 y.F, .slice y.ca y.cs.length y.cc, .slice y.da y.ds.length y.dc] 53)
      have hby := Blk.new w8 53 [.int .i64 y.N, .int .i64 y.F, .slice y.ca y.cs.length y.cc, .slice y.da y.ds.length y.dc]
      have hT8 := (HT7.out.below hB8).below (bel_alloc (Below.refl _ w8) (.cells #[.int .i64 y.N, .int .i64 y.F, .slice y.ca y.cs.length y.cc, .slice y.da y.ds.length y.dc] 53))
      have hTy8 := hTy.below (bel_alloc (Below.refl _ w8) (.cells #[.int .i64 y.N, .int .i64 y.F, .slice y.ca y.cs.length y.cc, .slice y.da y.ds.length y.dc] 53))
      have hbel8 := bel_alloc (bel_trans HBEL7.out hB8) (.cells #[.int .i64 y.N, .int .i64 y.F, .slice y.ca y.cs.length y.cc, .slice y.da y.ds.length y.dc] 53)
      have hsyt := (hsy.trans HOUT.out.2).trans HSU.out
      have HB8 := Lib.hid hb8; have HBY := Lib.hid hby; have HT8 := Lib.hid hT8; have HTY := Lib.hid hTy8; have HBEL8 := Lib.hid hbel8; have HSY := Lib.hid hsyt
      clear hb8 hby hT8 hTy8 hbel8 hsyt hTy hsy hB8 HPX HB7 HT7 HBEL7 HM7
      unfold TopoV.val
      go_upto_region 10 with fail
      generalize w8.alloc (.cells #[.int .i64 y.N, .int .i64 y.F, .slice y.ca y.cs.length y.cc, .slice y.da y.ds.length y.dc] 53) = w9 at *
      generalize w8.heap.size = p7 at *
      have r0 := after_cell (HB8.out.at_ (i := 0) rfl)
      have r1 := after_cell (HB8.out.at_ (i := 1) rfl)
      have r2 := after_cell (HB8.out.at_ (i := 2) rfl)
      have r3 := after_cell (HB8.out.at_ (i := 3) rfl)
      have s0 := after_cell (HBY.out.at_ (i := 0) rfl)
      have s1 := after_cell (HBY.out.at_ (i := 1) rfl)
      have s2 := after_cell (HBY.out.at_ (i := 2) rfl)
      have s3 := after_cell (HBY.out.at_ (i := 3) rfl)
      have ha2 : ∀ w', Below w9.heap.size w9 w' → _ := fun w' h => ref_text t w' (HT8.out.below h) HQ.out
      have ha3 : ∀ w', Below w9.heap.size w9 w' → _ := fun w' (h : Below w9.heap.size w9 w') => from_any y w'
      have ha4 : ∀ w', Below w9.heap.size w9 w' → _ := fun w' h => same_any y t w' (HTY.out.below h) (HT8.out.below h) HSY.out
      rw [HTM2.out] at ha2
      unfold TopoV.val at ha2 ha3 ha4
      have HA2 := Lib.hid ha2; have HA3 := Lib.hid ha3; have HA4 := Lib.hid ha4
      clear ha2 ha3 ha4
      have hSS := str_eq (rfl : S = S)
      refine wp_region_after (by kernel_rfl) (by kernel_rfl) ?_
      repeat (first | go_big_quiet_step (first | (go_at_call 28; exact after_call2 HA2.out _) | (go_at_call 34; exact after_call2 HA3.out _) | (go_at_call 33; exact after_call2 HA4.out _)) | quiet_step (first | (go_at_call 28; exact after_call2 HA2.out _) | (go_at_call 34; exact after_call2 HA3.out _) | (go_at_call 33; exact after_call2 HA4.out _)))
      refine wpQuiet_nil ?_; intro _ hw'; obtain ⟨xq, hw''⟩ := hw'; subst hw''
      go_wp2_with fail
      go_ret
      exact ⟨rfl, bel_after HBEL8.out _⟩
  · have htx := topo_text_no u w5 hU5 q (by rw [chkT_same HSU.out]; exact HQ.out) hq0
    unfold TopoV.val at htx
    have HTX := Lib.hid htx
    clear hU5 hB5 htx
    go_wp2_with fail
    refine HTX.out.mono ?_; rintro e w6 ⟨rfl, hB6⟩
    have HBX := Lib.hid (bel_trans HB5.out hB6)
    clear hB6 HTX HCK HB5 q0 q1 q2 q3
    · -- all is compared
      have b13 := HB13.out.below HBX.out
      have bu := HBU.out.below HBX.out
      have hT6 := HT3.out.below HBX.out
      have hU6 := HTU.out.below HBX.out
      have hbel6 := bel_trans HBC.out HBX.out
      have hm6 := (hbel6.cell (p := ⟨2, 0, none⟩) (World.block_lt_of_cell? w0 _ HM.out)).trans HM.out
      have r0 := after_cell (b13.at_ (i := 0) rfl)
      have r1 := after_cell (b13.at_ (i := 1) rfl)
      have r2 := after_cell (b13.at_ (i := 2) rfl)
      have r3 := after_cell (b13.at_ (i := 3) rfl)
      have s0 := after_cell (bu.at_ (i := 0) rfl)
      have s1 := after_cell (bu.at_ (i := 1) rfl)
      have s2 := after_cell (bu.at_ (i := 2) rfl)
      have s3 := after_cell (bu.at_ (i := 3) rfl)
      have ha1 : ∀ w', Below w6.heap.size w6 w' → _ := fun w' h => tops_any mx w' ((h.cell (p := ⟨2, 0, none⟩) (World.block_lt_of_cell? w6 _ hm6)).trans hm6)
      have ha2 : ∀ w', Below w6.heap.size w6 w' → _ := fun w' h => ref_check t w' (hT6.below h)
      have ha3 : ∀ w', Below w6.heap.size w6 w' → _ := fun w' (h : Below w6.heap.size w6 w') => from_any u w'
      have ha4 : ∀ w', Below w6.heap.size w6 w' → _ := fun w' h => same_any u t w' (hU6.below h) (hT6.below h) HSU.out
      rw [HQ.out] at ha2
      unfold TopoV.val at ha2 ha3 ha4
      have HA1 := Lib.hid ha1; have HA2 := Lib.hid ha2; have HA3 := Lib.hid ha3; have HA4 := Lib.hid ha4
      have HB136 := Lib.hid b13; have HBEL6 := Lib.hid hbel6; have HT6 := Lib.hid hT6; have HM6 := Lib.hid hm6
      clear b13 bu hT6 hU6 hbel6 hm6 ha1 ha2 ha3 ha4
      go_upto_region 5 with fail
      refine wp_region_after (by kernel_rfl) (by kernel_rfl) ?_
      repeat (first | go_big_quiet_step (first | (go_at_call 26; exact after_call2 HA1.out _) | (go_at_call 27; exact after_call2 HA2.out _) | (go_at_call 34; exact after_call2 HA3.out _) | (go_at_call 33; exact after_call2 HA4.out _)) | quiet_step (first | (go_at_call 26; exact after_call2 HA1.out _) | (go_at_call 27; exact after_call2 HA2.out _) | (go_at_call 34; exact after_call2 HA3.out _) | (go_at_call 33; exact after_call2 HA4.out _)))
      refine wpQuiet_nil ?_; intro _ hw'; obtain ⟨xq, hw''⟩ := hw'; subst hw''
      go_wp2_with fail
      go_ret
      exact ⟨rfl, bel_after HBEL6.out _⟩
end Go.Proofs.YtcanhegjhbhkhaaDoor
