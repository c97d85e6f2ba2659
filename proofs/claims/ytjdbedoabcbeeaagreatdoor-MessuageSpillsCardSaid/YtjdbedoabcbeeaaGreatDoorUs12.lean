/- Parts of the proof: Order2, Nearest. -/
import Derived.Test.YtjdbedoabcbeeaaGreatDoorUs11
/- zone.Order, Within, Nearest: the walks. -/
namespace Go.Proofs.YtjdbedoabcbeeaaGreatDoor
open Go.RowKit
set_option linter.unusedVariables false
set_option linter.unusedSimpArgs false
attribute [local go_sem] World.cell?_alloc_lt

theorem chk_okT {t : TopoV} (h : chkT t = 0) : 1 ≤ t.N ∧ t.N ≤ 8 ∧ 1 ≤ t.cs.length ∧ t.cs.length ≤ 16 ∧ (t.ds.length : Int) = t.N ∧ (∀ r ∈ t.ds, (r.zs.length : Int) = t.N) ∧ ∀ x ∈ t.cs, 0 ≤ x ∧ x < t.N := by
  unfold chkT at h
  split at h
  · omega
  · next h1 =>
    split at h
    · omega
    · next h2 =>
      split at h
      · omega
      · next h3 =>
        have h1 : cntB t = true := by simpa using h1
        have h3 : matB t.N.toNat t.ds = true := by simpa using h3
        have h2 : t.cs.any (badN t.N) = false := by simpa using h2
        unfold cntB at h1
        rw [Bool.and_eq_true, Bool.and_eq_true] at h1
        have a1 := of_decide_eq_true h1.2.1
        have a2 := of_decide_eq_true h1.2.2
        unfold matB sqB at h3
        rw [Bool.and_eq_true, Bool.and_eq_true] at h3
        have b1 := of_decide_eq_true h3.1.1
        refine ⟨a1.1, a1.2, a2.1, a2.2, by omega, fun r hr => ?_, fun x hx => ?_⟩
        · have := of_decide_eq_true (List.all_eq_true.1 h3.1.2 r hr)
          omega
        · have := List.any_eq_false.1 h2 x hx
          unfold badN at this
          simp at this
          omega
def idL (n : Nat) : List Int := (List.range n).map fun i : Nat => (i : Int)
theorem idL_len (n : Nat) : (idL n).length = n := by simp [idL]
theorem idL_succ (n : Nat) : idL (n + 1) = idL n ++ [(n : Int)] := by unfold idL; rw [List.range_succ, List.map_append]; rfl
theorem idL_nodes (n : Nat) : NodeL n (idL n) := by
  intro x hx
  unfold idL at hx
  obtain ⟨a, ha, rfl⟩ := List.mem_map.1 hx
  exact ⟨a, rfl, List.mem_range.1 ha⟩
/-- The nodes in order, for the distances of one of them. -/
def ordL (F : List Int) : List Int := sortF F (idL F.length)
theorem insS_len (lt : Int → Int → Bool) : ∀ (k : Nat) (d : List Int) (i : Nat), (insS lt d i k).length = d.length
  | 0, _, _ => rfl
  | k + 1, d, i => by unfold insS; rw [insS_len lt k, insJ_len]
theorem ordL_len (F : List Int) : (ordL F).length = F.length := by unfold ordL sortF; rw [insS_len, idL_len]
theorem info_intO : (Tryz.prog.info? 3).map (fun i => (i.zero, i.size, i.bytes)) = some (some (.int .i64 0), 1, 8) := by kernel_rfl
set_option maxRecDepth 100000 in
set_option maxHeartbeats 1000000 in
theorem order_any (t : TopoV) (k : Nat) (r : RowV) (hok : chkT t = 0) (hr : t.ds[k]? = some r) (w : World) (hT : InTopo w t) :
    Calls Tryz.prog 126 #[t.val, .int .i64 (k : Int)] w fun e w' => (∃ g c, e = .returned (.tuple #[.slice (some ⟨g, 0, none⟩) t.ds.length c, .int .i64 0]) ∧ w'.ownsRow w.heap.size 3 1 (.slice (some ⟨g, 0, none⟩) t.ds.length c) t.ds.length ((ordL r.zs).map (Value.int .i64))) ∧ Below w.heap.size w w' := by
  obtain ⟨R, hRR⟩ : ∃ R, ordL r.zs = R := ⟨_, rfl⟩
  rw [hRR]
  have HRR := Lib.hid hRR
  clear hRR
  obtain ⟨hN1, hN8, _, _, hdl, hrl, _⟩ := chk_okT hok
  have hrl := hrl r (List.mem_of_getElem? hr)
  have hkl := (List.getElem?_eq_some_iff.1 hr).1
  obtain ⟨b, off, hda, hb, hat⟩ := hT.d.at_ (by omega)
  obtain ⟨hcr, hIr, hr63⟩ := hat k r hr
  clear hat
  have hck := fun w hT => topo_check t w hT
  rw [hok] at hck
  have hba := bel_alloc (Below.refl w.heap.size w) (.cells #[.int .i64 t.N, .int .i64 t.F, .slice t.ca t.cs.length t.cc, .slice t.da t.ds.length t.dc] 30)
  have hbk := Blk.new w 30 [.int .i64 t.N, .int .i64 t.F, .slice t.ca t.cs.length t.cc, .slice t.da t.ds.length t.dc]
  have hcx := hck _ (hT.below hba)
  obtain ⟨N, F, ca, cc, cs, da, dc, ds⟩ := t
  simp only [TopoV.val] at *
  subst hda
  obtain ⟨n, hn⟩ : ∃ n, ds.length = n := ⟨_, rfl⟩
  have hzn : r.zs.length = n := by omega
  rw [hn] at hcx hbk hba hdl hkl ⊢
  obtain rfl : N = (n : Int) := by omega
  have HCX := Lib.hid hcx; have HBK := Lib.hid hbk; have HBA := Lib.hid hba; have HIR := Lib.hid hIr; have HCR := Lib.hid hcr; have HZN := Lib.hid hzn
  clear hcx hbk hba hck hT hIr hcr hzn hok hr hrl hdl hr63 hn
  go_enter Tryz.func126, Tryz.ntmps126
  go_upto_region 1 with fail
  generalize w.alloc (.cells #[.int .i64 (n : Int), .int .i64 F, .slice ca cs.length cc, .slice (some ⟨b, off, none⟩) n dc] 30) = w1 at *
  have j0 := HBK.out.at_ (i := 0) rfl
  have j1 := HBK.out.at_ (i := 1) rfl
  have j2 := HBK.out.at_ (i := 2) rfl
  have j3 := HBK.out.at_ (i := 3) rfl
  go_wp2_with fail
  refine HCX.out.mono ?_; rintro e w2 ⟨rfl, hB2⟩
  have hbk2 := HBK.out.below hB2
  have hB0 := bel_trans HBA.out hB2
  have j0 := hbk2.at_ (i := 0) rfl
  have j3 := hbk2.at_ (i := 3) rfl
  have HB0 := Lib.hid hB0; have HBK2 := Lib.hid hbk2
  clear hB2 HCX HBK HBA hbk2 hB0 j1 j2
  have hk0 : ((k : Int) < 0) = False := eq_false (by omega)
  have hk1 : ((n : Int) ≤ (k : Int)) = False := eq_false (by omega)
  have hk2 : (n ≤ k) = False := eq_false (by omega)
  go_wp2_with fail
  clear hk0 hk1 hk2
  go_loopw [7, 25] (fun v7 v25 wr => ∃ (i : Nat) (A : Option Addr) (c : Nat), i ≤ n ∧ v25 = .int .i64 (i : Int) ∧ v7 = .slice A i c ∧ wr.ownsRow w2.heap.size 3 1 (.slice A i c) i ((idL i).map (Value.int .i64)) ∧ Below w2.heap.size w2 wr) (fun _ v _ => n - (intOf v).toNat)
  case atStart => exact ⟨0, none, 0, by omega, rfl, rfl, World.ownsRow_nil _ _ _ _, Below.refl _ _⟩
  case round =>
    clear j0 j3
    obtain ⟨i, A, c, hi, rfl, rfl, hown, hB⟩ := hrel
    by_cases hlt : i < n
    · have hlow := fun q (hq : (Value.slice A i c).ownBlock = some q) => (hown.lt q hq).1
      have HLW := Lib.hid hlow
      have HOK := Lib.hid (own_chV hown ((Ch.refl [] wr).alloc (.cells #[.int .i64 (i : Int)] 3)) (by simp))
      have HBL := Lib.hid (Blk.new wr 3 [.int .i64 (i : Int)])
      have HBW := Lib.hid (bel_alloc hB (.cells #[.int .i64 (i : Int)] 3))
      clear hown hB hlow
      go_wp2_with (at_builtin; refine wpList_push _ rfl (.tmp 28) (.tmp 30) 27 rfl w2.heap.size 3 (.int .i64 0) 8 Tryz.underlying27 info_intO rfl A i c ((idL i).map (Value.int .i64)) rfl HOK.out wr.heap.size 1 (.int .i64 (i : Int)) rfl (HBL.out.at_ rfl) rfl (by omega) (by omega) HBW.out.size ?_)
      intro g2 cap w8 ho8 hg8 hor8
      have HO8 := Lib.hid ho8; have HB8 := Lib.hid (HBW.out.grown hg8 HBW.out.size HLW.out)
      clear ho8 hg8 hor8 HOK HBL HBW HLW
      go_wp2_with fail
      go_roundw
      case rel => exact ⟨i + 1, some ⟨g2, 0, none⟩, cap, by omega, by go_num, rfl, by rw [idL_succ, List.map_append]; exact HO8.out, HB8.out⟩
      case measure => simp [intOf]; omega
    · obtain rfl : i = n := by omega
      obtain ⟨g, cp, hv, hbg, hgl⟩ := hown.form (by omega)
      injection hv with hA _ hcp
      subst hA
      subst hcp
      have hBr := bel_trans HB0.out hB
      have hbk3 := HBK2.out.below hB
      have j3 := hbk3.at_ (i := 3) rfl
      have hcr3 := (hBr.cell (p := ⟨b, off + k, none⟩) hb).trans HCR.out
      have hix : ∀ w : World, (Instr.indexAt 28 (.slice (some ⟨b, off, none⟩) i dc) (.int .i64 (k : Int))).run Tryz.prog w = .ok (.pointer (some ⟨b, off + k, none⟩)) w := fun w => idx_rows b off i dc k hkl w
      have hBf := bel_alloc hBr (.cells #[.slice r.a r.zs.length r.c] 27)
      have hbp := Blk.new wr 27 [.slice r.a r.zs.length r.c]
      have hof := own_chV hown ((Ch.refl [] wr).alloc (.cells #[.slice r.a r.zs.length r.c] 27)) (by simp)
      have hng : wr.heap.size ≠ g := fun e => own_neV hof hbp (by decide) (by rw [e]; rfl)
      have hfar : ∀ w', Ch [g] (wr.alloc (.cells #[.slice r.a r.zs.length r.c] 27)) w' → FarAt w' wr.heap.size r.zs := fun w' h => by
        have hbl := bel_ch hBf h (by simp; have := HB0.out.size; omega)
        exact ⟨r.a, r.c, (hbp.ch h (by simpa using hng)).at_ rfl, HIR.out.below hbl⟩
      have hsf := sortfunc_any r.zs wr.heap.size g i c w2.heap.size (idL i) _ (idL_len i) (by omega) (hfar _ (Ch.refl _ _)) (by rw [HZN.out]; exact idL_nodes i) hof hfar
      rw [show sortF r.zs (idL i) = ordL r.zs by unfold ordL; rw [HZN.out]] at hsf
      have HSF := Lib.hid hsf; have HBF := Lib.hid hBf; have HSZ := Lib.hid HB0.out.size; have HBG := Lib.hid hbg
      clear hown hB hBr hbk3 hBf hbp hof hfar hsf HIR HCR HZN HBK2 HB0 hng hbg
      rw [HRR.out] at HSF
      go_wp2_with fail
      refine HSF.out.mono ?_; rintro e w9 ⟨rfl, hO, hC⟩
      have HO9 := Lib.hid (own_base0 hO HSZ.out)
      have HB9 := Lib.hid (bel_ch HBF.out hC (by have := HBG.out; have := HSZ.out; simp; omega))
      clear hO hC HSF HBF
      go_wp2_with fail
      go_ret2
      exact ⟨⟨g, c, rfl, HO9.out⟩, HB9.out⟩
/-- The nodes of a set, as they come in order. -/
def withL (s : Nat) (F : List Int) : List Int := keepN s (ordL F)
set_option maxRecDepth 100000 in
set_option maxHeartbeats 1000000 in
theorem within_any (t : TopoV) (k : Nat) (r : RowV) (s : Nat) (hs : s < 256) (hok : chkT t = 0) (hr : t.ds[k]? = some r) (w : World) (hT : InTopo w t) :
    Calls Tryz.prog 99 #[t.val, .int .i64 (k : Int), .int .u8 (s : Int)] w fun e w' => (∃ g c, e = .returned (.tuple #[.slice (some ⟨g, 0, none⟩) (withL s r.zs).length c, .int .i64 0]) ∧ w'.ownsRow w.heap.size 3 1 (.slice (some ⟨g, 0, none⟩) (withL s r.zs).length c) (withL s r.zs).length ((withL s r.zs).map (Value.int .i64))) ∧ Below w.heap.size w w' := by
  obtain ⟨hN1, hN8, _, _, hdl, hrl, _⟩ := chk_okT hok
  have hrl := hrl r (List.mem_of_getElem? hr)
  have hba := bel_alloc (bel_alloc (Below.refl w.heap.size w) (.cells #[.int .i64 t.N, .int .i64 t.F, .slice t.ca t.cs.length t.cc, .slice t.da t.ds.length t.dc] 30)) (.cells #[.int .u8 (s : Int)] 36)
  have hbk := (Blk.new w 30 [.int .i64 t.N, .int .i64 t.F, .slice t.ca t.cs.length t.cc, .slice t.da t.ds.length t.dc]).alloc (.cells #[.int .u8 (s : Int)] 36)
  have hbs := Blk.new (w.alloc (.cells #[.int .i64 t.N, .int .i64 t.F, .slice t.ca t.cs.length t.cc, .slice t.da t.ds.length t.dc] 30)) 36 [.int .u8 (s : Int)]
  rw [show (w.alloc (.cells #[.int .i64 t.N, .int .i64 t.F, .slice t.ca t.cs.length t.cc, .slice t.da t.ds.length t.dc] 30)).heap.size = w.heap.size + 1 by simp] at hbs
  have hor := order_any t k r hok hr _ (hT.below hba)
  have hol := ordL_len r.zs
  obtain ⟨n, hn⟩ : ∃ n, t.ds.length = n := ⟨_, rfl⟩
  rw [hn] at hor hba hbk hbs hdl
  obtain ⟨N, F, ca, cc, cs, da, dc, ds⟩ := t
  simp only [TopoV.val] at *
  rw [hn] at hor ⊢
  obtain ⟨R, hR⟩ : ∃ R, withL s r.zs = R := ⟨_, rfl⟩
  rw [hR]
  unfold withL at hR
  have HOR := Lib.hid hor; have HBK := Lib.hid hbk; have HBA := Lib.hid hba; have HBS := Lib.hid hbs; have HR := Lib.hid hR; have HOL := Lib.hid hol
  clear hor hbk hba hbs hR hT hok hr hn hol
  generalize ordL r.zs = O at *
  go_enter Tryz.func99, Tryz.ntmps99
  go_upto_region 1 with fail
  generalize (w.alloc (.cells #[.int .i64 N, .int .i64 F, .slice ca cs.length cc, .slice da n dc] 30)).alloc (.cells #[.int .u8 (s : Int)] 36) = w1 at *
  have j0 := HBK.out.at_ (i := 0) rfl
  have j1 := HBK.out.at_ (i := 1) rfl
  have j2 := HBK.out.at_ (i := 2) rfl
  have j3 := HBK.out.at_ (i := 3) rfl
  go_wp2_with fail
  refine HOR.out.mono ?_; rintro e w2 ⟨⟨g, c, rfl, hO⟩, hB2⟩
  have hsb := HBS.out.below hB2
  have hpg : w.heap.size + 1 ≠ g := fun e => own_neV hO hsb (by decide) (by rw [e]; rfl)
  have hdf := deletefunc_any s hs (w.heap.size + 1) g n c w1.heap.size O w2 (by have := HOL.out; omega) (by omega) hO (hsb.at_ rfl) hpg
  rw [HR.out] at hdf
  have hbg : w1.heap.size ≤ g := (hO.lt g rfl).1
  have HDF := Lib.hid hdf; have HB2 := Lib.hid (bel_trans HBA.out hB2); have HSZ := Lib.hid HBA.out.size; have HBG := Lib.hid hbg
  clear hO hB2 hsb hpg hdf HOR HBK HBA HBS HR HOL j0 j1 j2 j3 hbg
  go_wp2_with fail
  refine HDF.out.mono ?_; rintro e w3 ⟨rfl, hO, hC⟩
  have HO9 := Lib.hid (own_base0 hO HSZ.out)
  have HB9 := Lib.hid (bel_ch HB2.out hC (by have := HBG.out; have := HSZ.out; simp; omega))
  clear hO hC HDF HB2
  go_wp2_with fail
  go_ret2
  exact ⟨⟨g, c, rfl, HO9.out⟩, HB9.out⟩
theorem insS_nodes (lt : Int → Int → Bool) {n : Nat} : ∀ (k : Nat) (d : List Int) (i : Nat), NodeL n d → i + k ≤ d.length → NodeL n (insS lt d i k)
  | 0, _, _, h, _ => h
  | k + 1, d, i, h, hk => by
    unfold insS
    exact insS_nodes lt k _ (i + 1) (insJ_nodes lt i d h (by omega)) (by rw [insJ_len]; omega)
theorem ordL_nodes (F : List Int) : NodeL F.length (ordL F) := by
  unfold ordL sortF
  cases hF : F.length with
  | zero => intro x hx; simp [idL, insS] at hx
  | succ n => exact insS_nodes _ _ _ _ (idL_nodes _) (by rw [idL_len]; omega)
theorem keepN_nodes {n s : Nat} {l : List Int} (h : NodeL n l) : NodeL n (keepN s l) := fun x hx => h x (List.mem_filter.1 hx).1
theorem withL_nodes (s : Nat) (F : List Int) : NodeL F.length (withL s F) := keepN_nodes (ordL_nodes F)
end Go.Proofs.YtjdbedoabcbeeaaGreatDoor
/- zone.Nearest. -/
namespace Go.Proofs.YtjdbedoabcbeeaaGreatDoor
open Go.RowKit
set_option linter.unusedVariables false
set_option linter.unusedSimpArgs false
attribute [local go_sem] World.cell?_alloc_lt

/-- A slice of answers. -/
structure InBo (w : World) (A : Option Addr) (m : Nat) (M : List Bool) : Prop where
  ln : M.length = m
  at_ : ∀ i, i < m → ∃ b off, A = some ⟨b, off, none⟩ ∧ b < w.heap.size ∧ w.cell? ⟨b, off + i, none⟩ = some (.bool (M.getD i false))
theorem InBo.below {w w' : World} {A : Option Addr} {m : Nat} {M : List Bool} (h : InBo w A m M) (k : Below w.heap.size w w') : InBo w' A m M :=
  ⟨h.ln, fun i hi => by
    obtain ⟨b, off, h1, h2, h3⟩ := h.at_ i hi
    exact ⟨b, off, h1, Nat.lt_of_lt_of_le h2 k.size, (k.cell (p := ⟨b, off + i, none⟩) h2).trans h3⟩⟩
def nearV : List Int → List Bool → Int × Bool
  | [], _ => (0, false)
  | x :: xs, M => if M.getD x.toNat false = true then (x, true) else nearV xs M
theorem nearV_step {l : List Int} {M : List Bool} {i : Nat} {x : Int} (hx : l[i]? = some x) : nearV (l.drop i) M = if M.getD x.toNat false = true then (x, true) else nearV (l.drop (i + 1)) M := by
  have hi := (List.getElem?_eq_some_iff.1 hx).1
  rw [List.drop_eq_getElem_cons hi]
  have : l[i] = x := by
    have := List.getElem?_eq_getElem hi
    rw [this] at hx
    injection hx
  rw [this]
  rfl
theorem idx_bo (b off m mc a : Nat) (ha : a < m) (w : World) : (Instr.indexAt 223 (.slice (some ⟨b, off, none⟩) m mc) (.int .i64 (a : Int))).run Tryz.prog w = .ok (.pointer (some ⟨b, off + a, none⟩)) w := by
  simp [go_sem, ha]
set_option maxRecDepth 100000 in
set_option maxHeartbeats 1000000 in
theorem nearest_any (t : TopoV) (k : Nat) (r : RowV) (s : Nat) (hs : s < 256) (A : Option Addr) (m mc : Nat) (M : List Bool) (hok : chkT t = 0) (hr : t.ds[k]? = some r) (w : World) (hT : InTopo w t) (hM : InBo w A m M) (hm : m ≤ 1000) :
    Calls Tryz.prog 142 #[t.val, .int .i64 (k : Int), .int .u8 (s : Int), .slice A m mc] w fun e w' => e = .returned (.tuple #[.int .i64 (nearV (withL s r.zs) M).1, .bool (nearV (withL s r.zs) M).2]) ∧ Below w.heap.size w w' := by
  have hba := bel_alloc (Below.refl w.heap.size w) (.cells #[.int .i64 t.N, .int .i64 t.F, .slice t.ca t.cs.length t.cc, .slice t.da t.ds.length t.dc] 30)
  have hbk := Blk.new w 30 [.int .i64 t.N, .int .i64 t.F, .slice t.ca t.cs.length t.cc, .slice t.da t.ds.length t.dc]
  have hwi := within_any t k r s hs hok hr _ (hT.below hba)
  have hnl := withL_nodes s r.zs
  have hll : (withL s r.zs).length ≤ 8 := by
    have h1 : (withL s r.zs).length ≤ (ordL r.zs).length := List.length_filter_le _ _
    obtain ⟨_, hN8, _, _, _, hrl, _⟩ := chk_okT hok
    have := hrl r (List.mem_of_getElem? hr)
    rw [ordL_len] at h1
    omega
  obtain ⟨N, F, ca, cc, cs, da, dc, ds⟩ := t
  simp only [TopoV.val] at *
  obtain ⟨L, hL⟩ : ∃ L, withL s r.zs = L := ⟨_, rfl⟩
  rw [hL] at hwi hnl hll ⊢
  obtain ⟨n, hn⟩ : ∃ n, L.length = n := ⟨_, rfl⟩
  rw [hn] at hwi hll
  have HN := Lib.hid hn
  clear hn
  obtain ⟨V, hV⟩ : ∃ V, nearV L M = V := ⟨_, rfl⟩
  rw [hV]
  have HWI := Lib.hid hwi; have HBK := Lib.hid hbk; have HBA := Lib.hid hba; have HV := Lib.hid hV; have HM := Lib.hid hM; have HNL := Lib.hid hnl
  have HML := Lib.hid hM.ln
  clear hwi hbk hba hV hM hT hok hr hnl hL
  go_enter Tryz.func142, Tryz.ntmps142
  go_upto_region 1 with fail
  generalize w.alloc (.cells #[.int .i64 N, .int .i64 F, .slice ca cs.length cc, .slice da ds.length dc] 30) = w1 at *
  have j0 := HBK.out.at_ (i := 0) rfl
  have j1 := HBK.out.at_ (i := 1) rfl
  have j2 := HBK.out.at_ (i := 2) rfl
  have j3 := HBK.out.at_ (i := 3) rfl
  go_wp2_with fail
  refine HWI.out.mono ?_; rintro e w2 ⟨⟨g, c, rfl, hO⟩, hB2⟩
  have HO := Lib.hid hO; have HB := Lib.hid (bel_trans HBA.out hB2)
  have HM2 := Lib.hid (HM.out.below HB.out)
  clear hO hB2 HWI HBK HBA j0 j1 j2 j3 HM
  go_wp2_with fail
  go_loopw [25] (fun v wr => ∃ i : Nat, i ≤ n ∧ v = .int .i64 (i : Int) ∧ nearV (L.drop i) M = V ∧ wr = w2) (fun v _ => n - (intOf v).toNat)
  case atStart => exact ⟨0, by omega, rfl, HV.out, rfl⟩
  case round =>
    clear HV
    obtain ⟨i, hi, rfl, hnv, rfl⟩ := hrel
    by_cases hlt : i < n
    · obtain ⟨x, hx⟩ : ∃ x, L[i]? = some x := ⟨_, List.getElem?_eq_getElem (by rw [HN.out]; exact hlt)⟩
      obtain ⟨a, rfl, haF⟩ := HNL.out x (List.mem_of_getElem? hx)
      rw [nearV_step hx, Int.toNat_natCast] at hnv
      have hcx : wr.cell? ⟨g, i, none⟩ = some (.int .i64 (a : Int)) := by
        obtain ⟨g', hA, hc, _⟩ := own_at HO.out (k := i) (u := .int .i64 (a : Int)) (by rw [List.getElem?_map, hx]; rfl)
        injection hA with hA
        injection hA with hA
        subst hA
        exact hc
      have hix : ∀ w : World, (Instr.indexAt 27 (.slice (some ⟨g, 0, none⟩) n c) (.int .i64 (i : Int))).run Tryz.prog w = .ok (.pointer (some ⟨g, i, none⟩)) w := fun w => idx_own g n c i hlt w
      have HNV := Lib.hid hnv
      clear hnv hx
      by_cases ham : a < m
      · obtain ⟨b, off, hA, hb, hcb⟩ := HM2.out.at_ a ham
        subst hA
        have hib := fun w => idx_bo b off m mc a ham w
        cases hv : M.getD a false with
        | true =>
          rw [hv] at hcb
          have h1 := HNV.out
          rw [if_pos hv] at h1
          subst h1
          clear HNV hv
          go_wp2_with fail
          go_ret2
          exact ⟨rfl, HB.out⟩
        | false =>
          rw [hv] at hcb
          have h1 := HNV.out
          rw [if_neg (by rw [hv]; simp)] at h1
          have H1 := Lib.hid h1
          clear HNV hv h1
          go_wp2_with fail
          go_roundw
          case rel => exact ⟨i + 1, by omega, by go_num, H1.out, trivial⟩
          case measure => simp [intOf]; omega
      · have hgd : M.getD a false = false := by
          rw [List.getD_eq_getElem?_getD, List.getElem?_eq_none (by rw [HML.out]; omega)]; rfl
        have h1 := HNV.out
        rw [if_neg (by rw [hgd]; simp)] at h1
        have H1 := Lib.hid h1
        clear HNV h1 hgd
        go_wp2_with fail
        go_roundw
        case rel => exact ⟨i + 1, by omega, by go_num, H1.out, trivial⟩
        case measure => simp [intOf]; omega
    · have hin : i = n := by omega
      rw [show L.drop i = [] from List.drop_eq_nil_of_le (by rw [HN.out]; omega)] at hnv
      have h1 : ((0 : Int), false) = V := hnv
      subst h1
      clear hnv
      subst hin
      go_wp2_with fail
      go_ret2
      exact ⟨rfl, HB.out⟩
end Go.Proofs.YtjdbedoabcbeeaaGreatDoor
