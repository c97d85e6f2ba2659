/- Parts of the proof: Choose, TopLine2, MaMem, SpillPure. -/
import Derived.Test.YtjdbedoabcbeeaaGreatDoorUs12
import Derived.Test.YtjdbedoabcbeeaaGreatDoorUs17
import Derived.Test.YtjdbedoabcbeeaaGreatDoorUs22
import Derived.Test.YtjdbedoabcbeeaaGreatDoorUs24
/- Package choose (layer 11): Node. -/
namespace Go.Proofs.YtjdbedoabcbeeaaGreatDoor
open Go.RowKit
set_option linter.unusedVariables false
set_option linter.unusedSimpArgs false
attribute [local go_sem] World.cell?_alloc_lt

theorem results_cell1 {P : Program} {fn : Func} {p u : Tmp} {ty : TypeId} (h : fn.results = #[.cell p ty, .tmp u]) (tmps : Array Value) (w : World) (g : Nat) (t : TypeId) (cs : Array Value) (fr : Nat × Nat) (d : TypeDesc)
    (hp : (tmps.getD p undef) = .pointer (some ⟨g, 0, none⟩)) (hg : w.heap[g]? = some (.cells cs t fr))
    (hu : P.underlying ty = some d) (hd : (match d with | .struct _ | .array _ _ => true | _ => false) = true) (hi : (P.info? ty).map (·.size) = some cs.size) :
    (results fn tmps).run P w = .ok (.tuple #[.agg cs, tmps.getD u undef]) w := by
  have hp' : tmps[p]?.getD undef = .pointer (some ⟨g, 0, none⟩) := by simpa using hp
  simp [results, h, hp', asAddr, run_loadVar_row w g t ty cs fr d hg hu hd hi]
theorem permN_lt (m : Int) (s : Nat) (hs : s < 256) (k : Int) (h8 : k ≤ 8) : permN m s k < 256 := by
  unfold permN
  split
  · exact hs
  · unfold allN
    have : 2 ^ k.toNat ≤ 2 ^ 8 := Nat.pow_le_pow_right (by omega) (by omega)
    omega
def choV (o : Int × Bool) (st nx : Int) : Value := .agg #[.int .i64 (if o.2 = true then o.1 else 0), .int .i64 st, .int .i64 nx]
def choE (o : Int × Bool) : Int := if o.2 = true then 0 else 5
set_option maxRecDepth 100000 in
set_option maxHeartbeats 4000000 in
theorem choose_any (t : TopoV) (m : Int) (s : Nat) (hs : s < 256) (pn : Int) (cpu own st : Nat) (cur nx : Int) (r : RowV) (A : Option Addr) (ml mc : Nat) (M : List Bool) (o : Int × Bool)
    (hok : chkT t = 0) (hpol : chk m s pn t.N = 0) (hcpu : t.cs[cpu]? = some (own : Int)) (hst : startN m s pn (own : Int) cur = ((st : Int), nx)) (hr : t.ds[st]? = some r) (ho : nearV (withL (permN m s t.N) r.zs) M = o)
    (w : World) (hT : InTopo w t) (hM : InBo w A ml M) (hml : ml ≤ 1000) :
    Calls Tryz.prog 115 #[t.val, .agg #[.int .i64 m, .int .u8 (s : Int), .int .i64 pn], .int .i64 (cpu : Int), .int .i64 cur, .slice A ml mc] w fun e w' => e = .returned (.tuple #[choV o (st : Int) nx, .int .i64 (choE o)]) ∧ Below w.heap.size w w' := by
  obtain ⟨hN1, hN8, hc1, hc16, hdl, hrl, hcs⟩ := chk_okT hok
  have hol := hcs _ (List.mem_of_getElem? hcpu)
  have hcl := (List.getElem?_eq_some_iff.1 hcpu).1
  have hpl := permN_lt m s hs t.N hN8
  have hck := fun w hT => topo_check t w hT
  rw [hok] at hck
  have hpe := fun w => perm_yes m s hs pn t.N hpol w
  have hsy := fun w => start_yes m s hs pn t.N (own : Int) cur hpol hol.1 hol.2 w
  rw [hst] at hsy
  have hnr := fun w hT hM => nearest_any t st r (permN m s t.N) hpl A ml mc M hok hr w hT hM hml
  rw [ho] at hnr
  have hW : ∃ wA, wA = ((w.alloc (.cells #[.int .i64 t.N, .int .i64 t.F, .slice t.ca t.cs.length t.cc, .slice t.da t.ds.length t.dc] 30)).alloc (.cells #[.int .i64 m, .int .u8 (s : Int), .int .i64 pn] 38)).alloc (.cells #[.int .i64 0, .int .i64 0, .int .i64 0] 220) := ⟨_, rfl⟩
  obtain ⟨wA, hWA⟩ := hW
  have hbA : Below w.heap.size w wA := by rw [hWA]; exact bel_alloc (bel_alloc (bel_alloc (Below.refl _ _) _) _) _
  have hb5 : Blk wA w.heap.size 30 [.int .i64 t.N, .int .i64 t.F, .slice t.ca t.cs.length t.cc, .slice t.da t.ds.length t.dc] := by
    rw [hWA]; exact ((Blk.new w 30 [.int .i64 t.N, .int .i64 t.F, .slice t.ca t.cs.length t.cc, .slice t.da t.ds.length t.dc]).alloc _).alloc _
  have hb6 : Blk wA (w.heap.size + 1) 38 [.int .i64 m, .int .u8 (s : Int), .int .i64 pn] := by
    rw [hWA]
    have h := (Blk.new (w.alloc (.cells #[.int .i64 t.N, .int .i64 t.F, .slice t.ca t.cs.length t.cc, .slice t.da t.ds.length t.dc] 30)) 38 [.int .i64 m, .int .u8 (s : Int), .int .i64 pn]).alloc (.cells #[.int .i64 0, .int .i64 0, .int .i64 0] 220)
    rw [show (w.alloc (.cells #[.int .i64 t.N, .int .i64 t.F, .slice t.ca t.cs.length t.cc, .slice t.da t.ds.length t.dc] 30)).heap.size = w.heap.size + 1 by simp] at h
    exact h
  have hb10 : Blk wA (w.heap.size + 1 + 1) 220 [.int .i64 0, .int .i64 0, .int .i64 0] := by
    rw [hWA]
    have h := Blk.new ((w.alloc (.cells #[.int .i64 t.N, .int .i64 t.F, .slice t.ca t.cs.length t.cc, .slice t.da t.ds.length t.dc] 30)).alloc (.cells #[.int .i64 m, .int .u8 (s : Int), .int .i64 pn] 38)) 220 [.int .i64 0, .int .i64 0, .int .i64 0]
    rw [show ((w.alloc (.cells #[.int .i64 t.N, .int .i64 t.F, .slice t.ca t.cs.length t.cc, .slice t.da t.ds.length t.dc] 30)).alloc (.cells #[.int .i64 m, .int .u8 (s : Int), .int .i64 pn] 38)).heap.size = w.heap.size + 1 + 1 by simp] at h
    exact h
  have hTA := hT.below hbA
  have hMA := hM.below hbA
  have hcc := fun w hT => (hck w hT)
  obtain ⟨N, F, ca, cc, cs, da, dc, ds⟩ := t
  simp only [TopoV.val] at *
  have HCK := Lib.hid (hcc wA hTA); have HPE := Lib.hid hpe; have HSY := Lib.hid hsy; have HNR := Lib.hid hnr; have HBA := Lib.hid hbA; have HB5 := Lib.hid hb5; have HB6 := Lib.hid hb6; have HB10 := Lib.hid hb10; have HTA := Lib.hid hTA; have HMA := Lib.hid hMA; have HCPU := Lib.hid hcpu
  clear hck hpe hsy hnr hbA hb5 hb6 hb10 hTA hMA hcc hT hM hok hpol hcpu hst hr ho hcs hrl
  unfold pol at HPE HSY
  generalize permN m s N = S at *
  go_enter Tryz.func115, Tryz.ntmps115
  go_upto_region 1 with fail
  rw [← hWA]
  clear hWA
  generalize hg1 : w.heap.size + 1 + 1 = g10 at *
  generalize hg0 : w.heap.size + 1 = g6 at *
  have j0 := HB5.out.at_ (i := 0) rfl
  have j1 := HB5.out.at_ (i := 1) rfl
  have j2 := HB5.out.at_ (i := 2) rfl
  have j3 := HB5.out.at_ (i := 3) rfl
  go_wp2_with fail
  refine HCK.out.mono ?_; rintro e w2 ⟨rfl, hB2⟩
  have hBw2 := bel_trans HBA.out hB2
  have b5 := HB5.out.below hB2
  have b6 := HB6.out.below hB2
  have b10 := HB10.out.below hB2
  have hI := (HTA.out.below hB2).c
  have hgc : cs.getD cpu 0 = (own : Int) := by rw [List.getD_eq_getElem?_getD, HCPU.out]; rfl
  have hlc : cs.length ≤ 16 := hc16
  have hI : InI w2 ca cs.length cs := hI
  obtain ⟨bc, oc, hca, hbc, hcc⟩ := hI.get hcl
  subst hca
  rw [hgc] at hcc
  have i0 := b5.at_ (i := 0) rfl
  have i2 := b5.at_ (i := 2) rfl
  have p0 := b6.at_ (i := 0) rfl
  have p1 := b6.at_ (i := 1) rfl
  have p2 := b6.at_ (i := 2) rfl
  have e1 : ((cpu : Int) < 0) = False := eq_false (by omega)
  have e2 : ((cs.length : Int) ≤ (cpu : Int)) = False := eq_false (by omega)
  have e3 : (cs.length ≤ cpu) = False := eq_false (by omega)
  have HBW2 := Lib.hid hBw2; have B5 := Lib.hid b5; have B6 := Lib.hid b6; have B10 := Lib.hid b10; have HT2 := Lib.hid (HTA.out.below hB2); have HM2 := Lib.hid (HMA.out.below hB2); have HCC := Lib.hid hcc
  clear hBw2 b5 b6 b10 hI hB2 hgc hcc HCK HBA HB5 HB6 HB10 HTA HMA HCPU j0 j1 j2 j3
  go_wp2_with fail
  refine (HPE.out _).mono ?_; rintro e w3 ⟨rfl, hB3⟩
  clear i0 i2 p0 p1 p2
  have HBW3 := Lib.hid (bel_trans HBW2.out hB3); have C5 := Lib.hid (B5.out.below hB3); have C6 := Lib.hid (B6.out.below hB3); have C10 := Lib.hid (B10.out.below hB3); have HT3 := Lib.hid (HT2.out.below hB3); have HM3 := Lib.hid (HM2.out.below hB3); have HCC3 := Lib.hid ((hB3.cell (p := ⟨bc, oc + cpu, none⟩) hbc).trans HCC.out)
  clear hB3 HBW2 B5 B6 B10 HT2 HM2 HCC HPE
  have i0 := after_cell (C5.out.at_ (i := 0) rfl)
  have i2 := after_cell (C5.out.at_ (i := 2) rfl)
  have p0 := after_cell (C6.out.at_ (i := 0) rfl)
  have p1 := after_cell (C6.out.at_ (i := 1) rfl)
  have p2 := after_cell (C6.out.at_ (i := 2) rfl)
  have c0 := after_cell HCC3.out
  have hix := fun w => idxI bc oc cs.length cc cpu hcl w
  have ha : ∀ w', Below w3.heap.size w3 w' → _ := fun w' (_ : Below w3.heap.size w3 w') => HSY.out w'
  have HA := Lib.hid ha
  clear ha
  go_upto_region 9 with fail
  refine wp_region_after (by kernel_rfl) (by kernel_rfl) ?_
  repeat (first | go_big_quiet_step ((go_at_call 141; exact after_callB HA.out _)) | quiet_step ((go_at_call 141; exact after_callB HA.out _)))
  refine wpQuiet_nil ?_; intro _ hw'; obtain ⟨xq, hw''⟩ := hw'; subst hw''
  go_upto_region 12 with fail
  have HBW4 := Lib.hid (bel_after HBW3.out xq); have D5 := Lib.hid (C5.out.below xq.2); have D10 := Lib.hid (C10.out.below xq.2); have HT4 := Lib.hid (HT3.out.below xq.2); have HM4 := Lib.hid (HM3.out.below xq.2)
  clear i0 i2 p0 p1 p2 c0 HBW3 C5 C6 C10 HT3 HM3 HA HSY HCC3
  change Code.wp _ _ _ _ xq.1
  generalize xq.1 = w4 at *
  have j0 := D5.out.at_ (i := 0) rfl
  have j1 := D5.out.at_ (i := 1) rfl
  have j2 := D5.out.at_ (i := 2) rfl
  have j3 := D5.out.at_ (i := 3) rfl
  have hnr := HNR.out w4 HT4.out HM4.out
  have HNR4 := Lib.hid hnr
  clear hnr HNR
  obtain ⟨o1, o2⟩ := o
  go_wp2_with fail
  refine HNR4.out.mono ?_; rintro e w5 ⟨rfl, hB5⟩
  have e10 := D10.out.below hB5
  have k0 := e10.at_ (i := 0) rfl
  have k1 := e10.at_ (i := 1) rfl
  have k2 := e10.at_ (i := 2) rfl
  have f0 := e10.frozen 0
  have f1 := e10.frozen 1
  have f2 := e10.frozen 2
  have hset : ∀ v0 v1 v2 : Value, Blk (((w5.setCell ⟨g10, 0, none⟩ v0).setCell ⟨g10, 1, none⟩ v1).setCell ⟨g10, 2, none⟩ v2) g10 220 [v0, v1, v2] ∧ Below w.heap.size w (((w5.setCell ⟨g10, 0, none⟩ v0).setCell ⟨g10, 1, none⟩ v1).setCell ⟨g10, 2, none⟩ v2) := fun v0 v1 v2 =>
    ⟨((e10.set_ 0 v0).set_ 1 v1).set_ 2 v2, bel_ch (bel_trans HBW4.out hB5) ((((Ch.refl [g10] w5).set (p := ⟨g10, 0, none⟩) (by simp) _).set (p := ⟨g10, 1, none⟩) (by simp) _).set (p := ⟨g10, 2, none⟩) (by simp) _) (by intro x hx; simp at hx; omega)⟩
  have HS := Lib.hid hset
  clear hset e10 hB5 HNR4 D5 D10 HT4 HM4 HBW4 j0 j1 j2 j3
  cases o2 with
  | true =>
    have hz := HS.out (.int .i64 o1) (.int .i64 (st : Int)) (.int .i64 nx)
    have HZ := Lib.hid hz
    clear hz HS
    go_wp2_with fail
    exact bodyPost_ret (results_cell1 Tryz.results115 _ _ g10 220 _ (0, 0) _ rfl HZ.out.1 Tryz.underlying220 rfl (by kernel_rfl)) rfl ⟨rfl, HZ.out.2⟩
  | false =>
    have hz := HS.out (.int .i64 0) (.int .i64 (st : Int)) (.int .i64 nx)
    have HZ := Lib.hid hz
    clear hz HS
    go_wp2_with fail
    exact bodyPost_ret (results_cell1 Tryz.results115 _ _ g10 220 _ (0, 0) _ rfl HZ.out.1 Tryz.underlying220 rfl (by kernel_rfl)) rfl ⟨rfl, HZ.out.2⟩
end Go.Proofs.YtjdbedoabcbeeaaGreatDoor
/- Nodes in a row are a machine; the orders of their nodes (plain). -/
namespace Go.Proofs.YtjdbedoabcbeeaaGreatDoor
open Go.RowKit
set_option linter.unusedVariables false
set_option linter.unusedSimpArgs false

theorem dvL_map (D : List RowV) (a c : Nat) : dv D a c = (((D.map RowV.zs)[a]?).map (fun z => z.getD c 0)).getD 0 := by
  unfold dv
  rw [List.getElem?_map, Option.map_map]
  rfl
theorem sqBL_map (m : Nat) (D : List RowV) : sqB m D = (decide ((D.map RowV.zs).length = m) && (D.map RowV.zs).all (fun z => decide (z.length = m))) := by
  unfold sqB
  rw [List.length_map, List.all_map]
  rfl
theorem chkL_same {t s : TopoV} (h1 : t.N = s.N) (h2 : t.F = s.F) (h3 : t.cs = s.cs) (h4 : t.ds.map RowV.zs = s.ds.map RowV.zs) : chkT t = chkT s := by
  unfold chkT cntB matB symB okB
  rw [h1, h2, h3]
  simp only [sqBL_map, dvL_map, h4]
def tLn (n : Nat) (F : Int) : TopoV := ⟨(n : Int), F, none, 0, idL n, none, 0, (rowsLn n n).map fun z => ⟨none, 0, z⟩⟩
theorem chk_tLn16 : ∀ n : Fin 8, chkT (tLn (n.val + 1) 16) = 0 := by decide +kernel
theorem chk_tLn8 : ∀ n : Fin 8, chkT (tLn (n.val + 1) 8) = 0 := by decide +kernel
theorem chk_line {t : TopoV} {n : Nat} (h1 : 1 ≤ n) (h8 : n ≤ 8) (hN : t.N = (n : Int)) (hF : t.F = 16 ∨ t.F = 8) (hc : t.cs = idL n) (hd : t.ds.map RowV.zs = rowsLn n n) : chkT t = 0 := by
  obtain ⟨m, rfl⟩ : ∃ m, n = m + 1 := ⟨n - 1, by omega⟩
  have e : ((tLn (m + 1) t.F).ds.map RowV.zs) = rowsLn (m + 1) (m + 1) := by unfold tLn; simp [Function.comp_def]
  rw [chkL_same (s := tLn (m + 1) t.F) hN rfl hc (hd.trans e.symm)]
  rcases hF with h | h
  · rw [h]; exact chk_tLn16 ⟨m, by omega⟩
  · rw [h]; exact chk_tLn8 ⟨m, by omega⟩
theorem row_line {t : TopoV} {n k : Nat} (hk : k < n) (hd : t.ds.map RowV.zs = rowsLn n n) : ∃ r, t.ds[k]? = some r ∧ r.zs = rowLn n k := by
  have h := congrArg (fun l => l[k]?) hd
  simp only [List.getElem?_map] at h
  unfold rowsLn at h
  rw [List.getElem?_map, List.getElem?_range hk] at h
  cases hx : t.ds[k]? with
  | none => rw [hx] at h; cases h
  | some r =>
    rw [hx] at h
    injection h with h
    exact ⟨r, rfl, h⟩
theorem len_line {t : TopoV} {n : Nat} (hd : t.ds.map RowV.zs = rowsLn n n) : t.ds.length = n := by
  have := congrArg List.length hd
  rw [List.length_map] at this
  rw [this]; simp [rowsLn]
/-- Itself, and by turns those on both sides. -/
def stepW (n k d : Nat) : List Int := (if d ≤ k then [(k : Int) - (d : Int)] else []) ++ (if 0 < d ∧ k + d < n then [(k : Int) + (d : Int)] else [])
def wantW (n k d : Nat) : List Int := (List.range d).flatMap (stepW n k)
theorem wantW_succ (n k d : Nat) : wantW n k (d + 1) = wantW n k d ++ stepW n k d := by unfold wantW; rw [List.range_succ, List.flatMap_append]; simp
theorem wantW_len (n k : Nat) : ∀ d, (wantW n k d).length ≤ 2 * d
  | 0 => by simp [wantW]
  | d + 1 => by
    have := wantW_len n k d
    rw [wantW_succ, List.length_append]
    have : (stepW n k d).length ≤ 2 := by unfold stepW; split <;> split <;> simp
    omega
theorem order_line8 : ∀ n k : Fin 9, k < n → ordL (rowLn n.val k.val) = wantW n.val k.val n.val := by decide +kernel
theorem order_line {n k : Nat} (hk : k < n) (h8 : n ≤ 8) : ordL (rowLn n k) = wantW n k n := order_line8 ⟨n, by omega⟩ ⟨k, by omega⟩ hk
end Go.Proofs.YtjdbedoabcbeeaaGreatDoor
/- memory.Frame, Store; bind.Of; what the machine reads. -/
namespace Go.Proofs.YtjdbedoabcbeeaaGreatDoor
open Go.RowKit
set_option linter.unusedVariables false
set_option linter.unusedSimpArgs false
attribute [local go_sem] World.cell?_alloc_lt

theorem me_frame (mb g b each nf tg bt bf : Nat) (bs : List Int) (mt mf : List (Int × Int)) (w : World) (hM : MemAt w mb g b each nf tg bt bf bs mt mf) (f : Int) : Calls Tryz.prog 34 #[.pointer (some ⟨mb, 0, none⟩), .int .i64 f] w fun e w' => e = .returned (.tuple #[.int .i64 ((mget mt f).getD 0), .bool (mget mt f).isSome]) ∧ w = w' := by
  have k1 := hM.st.at_ (i := 1) rfl
  have hT := tII_To tg bt bf mt mf f w hM.tb
  have HT := Lib.hid hT
  clear hM hT
  go_enter Tryz.func34, Tryz.ntmps34
  go_wp2_with fail
  refine HT.out.mono ?_; rintro e w1 ⟨rfl, rfl⟩
  go_wp2_with fail
  go_ret2
  exact ⟨rfl, rfl⟩
theorem me_store (mb g b each nf tg bt bf : Nat) (bs : List Int) (mt mf : List (Int × Int)) (w : World) (hM : MemAt w mb g b each nf tg bt bf bs mt mf) : Calls Tryz.prog 35 #[.pointer (some ⟨mb, 0, none⟩)] w fun e w' => e = .returned (.pointer (some ⟨g, 0, none⟩)) ∧ w = w' := by
  have k0 := hM.st.at_ (i := 0) rfl
  clear hM
  go_enter Tryz.func35, Tryz.ntmps35
  go_wp2_with fail
  go_ret
  exact ⟨rfl, rfl⟩
theorem blook {w : World} {g b : Nat} {k : Int} {f : Int → Option Pol} (h : BookAt w g b k f) (p : Int) : (Instr.lookup 159 (.map (some b)) (.int .i64 p) true).run Tryz.prog w = .ok (.tuple #[((f p).map polv).getD (.agg #[.int .i64 0, .int .u8 0, .int .i64 0]), .bool (f p).isSome]) w := by
  obtain ⟨m, hm, hf⟩ := h.mp
  have hr := hm.run_lookup uPol kPol _ zPol p
  rw [hf p, Option.isSome_map] at hr
  exact hr
theorem bof_none (g b : Nat) (k : Int) (f : Int → Option Pol) (p : Int) (w : World) (h : BookAt w g b k f) (hp : f p = none) :
    Calls Tryz.prog 84 #[.pointer (some ⟨g, 0, none⟩), .int .i64 p] w fun e w' => e = .returned (.tuple #[.agg #[.int .i64 0, .int .u8 0, .int .i64 0], .bool false]) ∧ Below w.heap.size w w' := by
  have hl := fun o => blook (h.below (bel_alloc (Below.refl _ w) o)) p
  have k1 := h.st.at_ (i := 1) rfl
  rw [hp] at hl
  simp only [Option.map_none, Option.getD_none, Option.isSome_none] at hl
  have hgl := h.st.lt
  clear hp h
  go_enter Tryz.func84, Tryz.ntmps84
  go_wp2_with fail
  exact bodyPost_ret (v := .tuple #[.agg #[.int .i64 0, .int .u8 0, .int .i64 0], .bool false]) (by simp [results, Tryz.results84, go_sem]) rfl ⟨rfl, (by repeat (first | exact Below.refl _ _ | assumption | with_reducible refine bel_alloc ?_ _ | with_reducible refine bel_drewN ?_ _ | with_reducible refine bel_drew ?_))⟩
end Go.Proofs.YtjdbedoabcbeeaaGreatDoor
/- Where pages come to stand (plain). -/
namespace Go.Proofs.YtjdbedoabcbeeaaGreatDoor
open Go.RowKit
set_option linter.unusedVariables false
set_option linter.unusedSimpArgs false

/-- The nodes as they come, from a node on. -/
def comeL (n st : Nat) : List Int := withL (allN (n : Int)) (rowLn n st)
theorem come_head7 : ∀ n st : Fin 7, st < n → (comeL n.val st.val).head? = some (st.val : Int) := by decide +kernel
theorem come_head {n st : Nat} (h : st < n) (h6 : n ≤ 6) : (comeL n st).head? = some (st : Int) := come_head7 ⟨n, by omega⟩ ⟨st, by omega⟩ h
theorem next7 : ∀ n c : Fin 7, c < n → nextN (2 ^ n.val - 1) (c.val : Int) = (c.val + 1) % n.val := by decide +kernel
theorem next_line {n c : Nat} (h : c < n) (h6 : n ≤ 6) : nextN (2 ^ n - 1) (c : Int) = (c + 1) % n := next7 ⟨n, by omega⟩ ⟨c, by omega⟩ h
theorem come_len5 : ∀ n st : Fin 5, st < n → (comeL n.val st.val).length = n.val := by decide +kernel
theorem come_len {n st : Nat} (h : st < n) (h4 : n ≤ 4) : (comeL n st).length = n := come_len5 ⟨n, by omega⟩ ⟨st, by omega⟩ h
theorem come_nodup5 : ∀ n st : Fin 5, st < n → (comeL n.val st.val).Nodup := by decide +kernel
theorem come_nodup {n st : Nat} (h : st < n) (h4 : n ≤ 4) : (comeL n st).Nodup := come_nodup5 ⟨n, by omega⟩ ⟨st, by omega⟩ h
def farL (n st : Nat) (x : Int) : Int := (rowLn n st).getD x.toNat 0
theorem come_rise5 : ∀ n st : Fin 5, st < n → ((comeL n.val st.val).map (farL n.val st.val)).Pairwise (fun a b => a ≤ b) := by decide +kernel
theorem come_rise {n st : Nat} (h : st < n) (h4 : n ≤ 4) : ((comeL n st).map (farL n st)).Pairwise (fun a b => a ≤ b) := come_rise5 ⟨n, by omega⟩ ⟨st, by omega⟩ h
theorem come_pos5 : ∀ n st : Fin 5, st < n → ∀ x ∈ comeL n.val st.val, 0 ≤ farL n.val st.val x := by decide +kernel
theorem come_pos {n st : Nat} (h : st < n) (h4 : n ≤ 4) : ∀ x ∈ comeL n st, 0 ≤ farL n st x := come_pos5 ⟨n, by omega⟩ ⟨st, by omega⟩ h
theorem come_node {n st : Nat} (i : Nat) {x : Int} (hx : (comeL n st)[i]? = some x) : ∃ j : Nat, x = (j : Int) ∧ j < n := by
  have h := withL_nodes (allN (n : Int)) (rowLn n st) x (List.mem_of_getElem? hx)
  rw [rowLn_len] at h
  exact h
theorem near_at : ∀ (l : List Int) (M : List Bool) (q : Nat) (x : Int), l[q]? = some x → M.getD x.toNat false = true → (∀ i y, i < q → l[i]? = some y → M.getD y.toNat false = false) → nearV l M = (x, true)
  | [], M, q, x, h, _, _ => by simp at h
  | y :: ys, M, 0, x, h, hm, _ => by
    simp at h
    subst h
    unfold nearV
    rw [if_pos hm]
  | y :: ys, M, q + 1, x, h, hm, ha => by
    unfold nearV
    rw [if_neg (by rw [ha 0 y (by omega) rfl]; simp)]
    exact near_at ys M q x (by simpa using h) hm (fun i z hi hz => ha (i + 1) z (by omega) (by simpa using hz))
theorem near_head {l : List Int} {M : List Bool} {x : Int} (h : l.head? = some x) (hm : M.getD x.toNat false = true) : nearV l M = (x, true) :=
  near_at l M 0 x (by cases l with | nil => simp at h | cons y ys => simpa using h) hm (fun i _ hi => by omega)
theorem near_none : ∀ (l : List Int) (M : List Bool), (∀ y ∈ l, M.getD y.toNat false = false) → nearV l M = (0, false)
  | [], _, _ => rfl
  | y :: ys, M, ha => by
    unfold nearV
    rw [if_neg (by rw [ha y (by simp)]; simp)]
    exact near_none ys M (fun z hz => ha z (List.mem_cons_of_mem _ hz))
/-- The frames that pages have are taken ones. -/
def Taken (each : Nat) (ct : Nat → Nat) (mt : List (Int × Int)) : Prop := ∀ (q f : Int), mget mt q = some f → ∃ j c : Nat, c < ct j ∧ f = ((j * each + c : Nat) : Int)
theorem Taken.put {each : Nat} {ct : Nat → Nat} {mt : List (Int × Int)} (h : Taken each ct mt) (j : Nat) (p : Int) : Taken each (ctUp ct j) (mput mt p ((j * each + ct j : Nat) : Int)) := by
  intro q f hq
  rw [mget_put] at hq
  split at hq
  · injection hq with hq
    exact ⟨j, ct j, by unfold ctUp; rw [if_pos rfl]; omega, hq.symm⟩
  · obtain ⟨i, c, h1, h2⟩ := h q f hq
    refine ⟨i, c, ?_, h2⟩
    unfold ctUp
    split
    · next e => subst e; omega
    · exact h1
theorem Taken.free {each : Nat} {ct : Nat → Nat} {mt : List (Int × Int)} (h : Taken each ct mt) (hle : ∀ i, ct i ≤ each) {j : Nat} (hj : ct j < each) (q : Int) : mget mt q ≠ some ((j * each + ct j : Nat) : Int) := by
  intro hq
  obtain ⟨i, c, h1, h2⟩ := h q _ hq
  have hi := hle i
  have e : j * each + ct j = i * each + c := by exact_mod_cast h2
  have hij : j = i := by
    rcases Nat.lt_trichotomy j i with hlt | heq | hgt
    · have : (j + 1) * each ≤ i * each := Nat.mul_le_mul_right _ hlt
      rw [Nat.succ_mul] at this
      omega
    · exact heq
    · have : (i + 1) * each ≤ j * each := Nat.mul_le_mul_right _ hgt
      rw [Nat.succ_mul] at this
      omega
  subst hij
  omega
theorem frame_node {j each c : Nat} (h : c < each) : (j * each + c) / each = j := by
  rw [Nat.mul_comm, Nat.mul_add_div (by omega), Nat.div_eq_of_lt h]
  omega
theorem frame_lt {j each c n : Nat} (h : c < each) (hj : j < n) : j * each + c < n * each := by
  have : (j + 1) * each ≤ n * each := Nat.mul_le_mul_right _ hj
  rw [Nat.succ_mul] at this
  omega
theorem may_ok {n c : Nat} {mn : Int} (h1 : c < n) (h2 : mn ≤ (n : Int) - (c : Int) - 1) : mayB n c mn = true := by
  unfold mayB
  rw [decide_eq_true h1, decide_eq_true h2]
  rfl
theorem may_no {n c : Nat} {mn : Int} (h2 : (n : Int) - (c : Int) - 1 < mn) : mayB n c mn = false := by
  unfold mayB
  rw [decide_eq_false (by omega : ¬ mn ≤ (n : Int) - (c : Int) - 1), Bool.and_false]
/-- What stands on other frames stays. -/
theorem byte_kept {nf : Nat} {mt mf : List (Int × Int)} {bs : List Int} {p q f : Nat} (hF : Fair nf mt mf) (hl : bs.length = nf * 64) (hp : mapped mt p) (hq : mapped mt q) (hne : p ≠ q) (hf : frOf mt p = f) (v : Int) : (wrB mt (putL bs (f * 64) zeros64) (64 * p) [v]).getD (posN mt (64 * q)) 0 = bs.getD (posN mt (64 * q)) 0 := by
  have hnf : frOf mt q ≠ f := fun e => hne (hF.inj hp hq (hf.trans e.symm))
  have hlt := (hF.at_ hp).2
  rw [hf] at hlt
  have e1 : posN mt (64 * q) = frOf mt q * 64 := by
    unfold posN
    rw [show 64 * q / 64 = q by omega]
    omega
  have e2 : posN mt (64 * p) = f * 64 := by
    unfold posN
    rw [show 64 * p / 64 = p by omega, hf]
    omega
  rw [List.getD_eq_getElem?_getD, List.getD_eq_getElem?_getD, wrB_far [v] _ _ _ (fun i hi => by
    simp at hi
    subst hi
    rw [Nat.add_zero, e1, e2]
    omega), putL_get _ _ _ _ (by rw [zeros64_len]; omega)]
  rw [if_neg (by
    rw [e1, zeros64_len]
    omega)]
theorem byte_new {nf : Nat} {mt mf : List (Int × Int)} {bs : List Int} {p f : Nat} (hF : Fair nf mt mf) (hl : bs.length = nf * 64) (hp : mapped mt p) (v : Int) : (wrB mt (putL bs (f * 64) zeros64) (64 * p) [v]).getD (posN mt (64 * p)) 0 = v := by
  have h := wrB_at hF [v] (putL bs (f * 64) zeros64) (64 * p) (by rw [putL_len]; exact hl) (fun i hi => by simp at hi; subst hi; rw [show (64 * p + 0) / 64 = p by omega]; exact hp) 0 (by simp)
  rw [Nat.add_zero] at h
  rw [List.getD_eq_getElem?_getD, h]
  rfl
theorem frOf_put {mt : List (Int × Int)} {p q : Nat} (f : Int) (h : p ≠ q) : frOf (mput mt (p : Int) f) q = frOf mt q := by
  unfold frOf
  rw [mget_put, if_neg (by omega)]
theorem posN_put {mt : List (Int × Int)} {p q : Nat} (f : Int) (h : p ≠ q) : posN (mput mt (p : Int) f) (64 * q) = posN mt (64 * q) := by
  unfold posN
  rw [show 64 * q / 64 = q by omega, frOf_put f h]
theorem mapped_put {mt : List (Int × Int)} {p q : Nat} (f : Int) (h : p = q ∨ mapped mt q) : mapped (mput mt (p : Int) f) q := by
  unfold mapped at *
  rw [mget_put]
  split
  · rfl
  · rename_i hne
    rcases h with h | h
    · subst h; exact absurd rfl hne
    · exact h
end Go.Proofs.YtjdbedoabcbeeaaGreatDoor
