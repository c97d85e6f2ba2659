/- The law TopoParses: of all texts the machine is told, or the line that is wrong; what is read has just its text. -/
import Derived.Test.YtcanhegjhbhkhaaDoorTopoRParse
import Derived.Test.YtcanhegjhbhkhaaDoorTopoChecks
import Derived.Test.YtcanhegjhbhkhaaDoorTopoTabs
namespace Go.Proofs.YtcanhegjhbhkhaaDoor
open Go.RowKit Go.Shelf
set_option linter.unusedVariables false
set_option linter.unusedSimpArgs false
attribute [local go_sem] World.cell?_alloc_lt

theorem min_cutT (s : ByteArray) (m : Nat) : ∃ k : Nat, k ≤ s.size ∧ k ≤ m ∧ min (s.size : Int) (m : Int) = (k : Int) ∧ (s.extract 0 k).size ≤ m := by
  by_cases h : m < s.size
  · exact ⟨m, by omega, Nat.le_refl _, by omega, by rw [ByteArray.size_extract]; omega⟩
  · exact ⟨s.size, by omega, by omega, by omega, by rw [ByteArray.size_extract]; omega⟩
theorem outP_zero {R : Read} {V : TopoV} {L E : Int} (h : outP R = (V, L, E)) (hE : E = 0) : R.r.bad = false ∧ chkT R.mk' = 0 ∧ V = R.mk' := by
  unfold outP at h
  split at h
  · injection h with _ h; injection h with _ h; omega
  · next hb =>
    split at h
    · next hc => injection h with _ h; injection h with _ h; omega
    · next hc =>
      injection h with h _
      exact ⟨by simpa using hb, by omega, h.symm⟩
theorem back_text {x : ByteArray} {t : TopoV} (h : (readT x).r.bad = false) (hs : sameT t (readT x).mk') : bytesOf (textM t.N t.F t.cs (t.ds.map RowV.zs)) = x := by
  obtain ⟨h1, h2, h3, h4⟩ := hs
  have hb := (text_back h).1
  rw [h1, h2, h3, h4]
  have e : (readT x).mk'.ds.map RowV.zs = (readT x).D := by
    unfold Read.mk'
    simp [Function.comp_def]
  rw [e]
  show bytesOf (textM (readT x).N (readT x).F (readT x).C (readT x).D) = x
  rw [← hb, bytesOf_data]
set_option maxRecDepth 100000 in
set_option maxHeartbeats 4000000 in
theorem topoParses_walk (s : ByteArray) (hs : s.size ≤ 140737488351232) (w0 : World) (hmx : ∃ m : Int, w0.cell? ⟨2, 0, none⟩ = some (.int .i64 m)) (hpt : PowTab w0) : Calls Tryd.prog 10 #[.string s] w0 fun e w' => e = .returned (.bool true) ∧ Below w0.heap.size w0 w' := by
  obtain ⟨mx, hm⟩ := hmx
  obtain ⟨k, hk, hk4, hmin0, hsz⟩ := min_cutT s 400
  have hmin : min (s.size : Int) 400 = (k : Int) := hmin0
  have hcut := fun w => cut_str_hi s k hk w
  clear hmin0
  generalize s.extract 0 k = x at *
  obtain ⟨V, L, E, hV⟩ : ∃ V L E, outP (readT x) = (V, L, E) := ⟨_, _, _, rfl⟩
  have hp := topo_parse x (by omega) mx w0 hm
  have hr := fun w => ref_parse x (by omega) w
  rw [hV] at hp hr
  have hz := outP_zero hV
  have HP := Lib.hid hp; have HR := Lib.hid hr; have HZ := Lib.hid hz; have HM := Lib.hid hm; have HPT := Lib.hid hpt
  clear hp hr hz hm hpt hV
  go_enter Tryd.func10, Tryd.ntmps10
  go_wp2_with fail
  refine HP.out.mono ?_; rintro e w1 ⟨⟨t, rfl, hT, hst⟩, hB1⟩
  have hb1 := Blk.new w1 53 [.int .i64 t.N, .int .i64 t.F, .slice t.ca t.cs.length t.cc, .slice t.da t.ds.length t.dc]
  have hT1 := hT.below (bel_alloc (Below.refl _ w1) (.cells #[.int .i64 t.N, .int .i64 t.F, .slice t.ca t.cs.length t.cc, .slice t.da t.ds.length t.dc] 53))
  have hBa := bel_alloc hB1 (.cells #[.int .i64 t.N, .int .i64 t.F, .slice t.ca t.cs.length t.cc, .slice t.da t.ds.length t.dc] 53)
  have HB1 := Lib.hid hb1; have HT1 := Lib.hid hT1; have HBA := Lib.hid hBa; have HST := Lib.hid hst
  clear hb1 hT1 hBa hB1 hT HP hst
  unfold TopoV.val
  go_upto_region 3 with fail
  generalize w1.alloc (.cells #[.int .i64 t.N, .int .i64 t.F, .slice t.ca t.cs.length t.cc, .slice t.da t.ds.length t.dc] 53) = w2 at *
  generalize w1.heap.size = p1 at *
  go_wp2_with fail
  refine (HR.out _).mono ?_; rintro e w3 ⟨⟨u, rfl, hU, hsu⟩, hB3⟩
  have hb3 := (HB1.out.below hB3).alloc (.cells #[.int .i64 u.N, .int .i64 u.F, .slice u.ca u.cs.length u.cc, .slice u.da u.ds.length u.dc] 48)
  have hbu := Blk.new w3 48 [.int .i64 u.N, .int .i64 u.F, .slice u.ca u.cs.length u.cc, .slice u.da u.ds.length u.dc]
  have hTb := bel_alloc hB3 (.cells #[.int .i64 u.N, .int .i64 u.F, .slice u.ca u.cs.length u.cc, .slice u.da u.ds.length u.dc] 48)
  have hT3 := HT1.out.below hTb
  have hU3 := hU.below (bel_alloc (Below.refl _ w3) (.cells #[.int .i64 u.N, .int .i64 u.F, .slice u.ca u.cs.length u.cc, .slice u.da u.ds.length u.dc] 48))
  have hBc := bel_trans HBA.out hTb
  have hsame : sameT t u := HST.out.trans ⟨hsu.1.symm, hsu.2.1.symm, hsu.2.2.1.symm, hsu.2.2.2.symm⟩
  have HB3 := Lib.hid hb3; have HBU := Lib.hid hbu; have HT3 := Lib.hid hT3; have HU3 := Lib.hid hU3; have HBC := Lib.hid hBc; have HSAME := Lib.hid hsame
  clear hb3 hbu hTb hT3 hU3 hBc hsame hU hsu hB3 HB1 HT1 HBA HR
  unfold TopoV.val
  go_upto_region 4 with fail
  generalize w3.alloc (.cells #[.int .i64 u.N, .int .i64 u.F, .slice u.ca u.cs.length u.cc, .slice u.da u.ds.length u.dc] 48) = w4 at *
  generalize w3.heap.size = p3 at *
  have r0 := after_cell (HB3.out.at_ (i := 0) rfl)
  have r1 := after_cell (HB3.out.at_ (i := 1) rfl)
  have r2 := after_cell (HB3.out.at_ (i := 2) rfl)
  have r3 := after_cell (HB3.out.at_ (i := 3) rfl)
  have s0 := after_cell (HBU.out.at_ (i := 0) rfl)
  have s1 := after_cell (HBU.out.at_ (i := 1) rfl)
  have s2 := after_cell (HBU.out.at_ (i := 2) rfl)
  have s3 := after_cell (HBU.out.at_ (i := 3) rfl)
  have hm4 := (HBC.out.cell (p := ⟨2, 0, none⟩) (World.block_lt_of_cell? w0 _ HM.out)).trans HM.out
  have ha1 : ∀ w', Below w4.heap.size w4 w' → _ := fun w' h => tops_any mx w' ((h.cell (p := ⟨2, 0, none⟩) (World.block_lt_of_cell? w4 _ hm4)).trans hm4)
  have ha3 : ∀ w', Below w4.heap.size w4 w' → _ := fun w' (h : Below w4.heap.size w4 w') => from_any t w'
  have ha4 : ∀ w', Below w4.heap.size w4 w' → _ := fun w' h => same_any t u w' (HT3.out.below h) (HU3.out.below h) HSAME.out
  unfold TopoV.val at ha3 ha4
  have HA1 := Lib.hid ha1; have HA3 := Lib.hid ha3; have HA4 := Lib.hid ha4
  clear ha1 ha3 ha4 hm4
  refine wp_region_after (by kernel_rfl) (by kernel_rfl) ?_
  repeat (first | go_big_quiet_step (first | (go_at_call 26; exact after_call2 HA1.out _) | (go_at_call 34; exact after_call2 HA3.out _) | (go_at_call 33; exact after_call2 HA4.out _)) | quiet_step (first | (go_at_call 26; exact after_call2 HA1.out _) | (go_at_call 34; exact after_call2 HA3.out _) | (go_at_call 33; exact after_call2 HA4.out _)))
  refine wpQuiet_nil ?_; intro _ hw'; obtain ⟨xq, hw''⟩ := hw'; subst hw''
  go_upto_region 6 with fail
  have hT5 := HT3.out.below xq.2
  have hB5 := bel_after HBC.out xq
  have HT5 := Lib.hid hT5; have HB5 := Lib.hid hB5; have HBT := Lib.hid (HB3.out.below xq.2)
  clear hT5 hB5 HA1 HA3 HA4 HT3 HU3 HB3 HBU HBC r0 r1 r2 r3 s0 s1 s2 s3
  change Code.wp _ _ _ _ xq.1
  generalize xq.1 = w5 at *
  by_cases hE : E = 0
  · obtain ⟨z1, z2, rfl⟩ := HZ.out hE
    subst hE
    have htx := topo_text t w5 HT5.out (by rw [chkT_same HST.out]; exact z2) (HPT.out.below HB5.out)
    rw [back_text z1 HST.out] at htx
    unfold TopoV.val at htx
    have HTX := Lib.hid htx
    clear htx HZ z1 z2
    have q0 := HBT.out.at_ (i := 0) rfl
    have q1 := HBT.out.at_ (i := 1) rfl
    have q2 := HBT.out.at_ (i := 2) rfl
    have q3 := HBT.out.at_ (i := 3) rfl
    go_wp2_with fail
    refine HTX.out.mono ?_; rintro e w6 ⟨rfl, hB6⟩
    have HB6 := Lib.hid (bel_trans HB5.out hB6)
    clear hB6 HTX q0 q1 q2 q3
    go_wp2_with fail
    go_ret
    exact ⟨rfl, HB6.out⟩
  · go_wp2_with fail
    go_ret
    exact ⟨rfl, HB5.out⟩
end Go.Proofs.YtcanhegjhbhkhaaDoor
