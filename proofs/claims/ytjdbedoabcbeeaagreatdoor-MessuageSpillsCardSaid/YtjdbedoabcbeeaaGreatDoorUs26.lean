/- Parts of the proof: Acquire, Touch, Reach. -/
import Derived.Test.YtjdbedoabcbeeaaGreatDoorUs25
/- The machine's acquire, where a node has room. -/
namespace Go.Proofs.YtjdbedoabcbeeaaGreatDoor
open Go.RowKit
set_option linter.unusedVariables false
set_option linter.unusedSimpArgs false
attribute [local go_sem] World.cell?_alloc_lt

theorem bel_setc {w a : World} {b i : Nat} (h : Below w.heap.size w a) (u : Value) (hb : w.heap.size ≤ b) : Below w.heap.size w (a.setCell ⟨b, i, none⟩ u) := bel_ch h ((Ch.refl [b] a).set (p := ⟨b, i, none⟩) (by simp) u) (by simpa using hb)
theorem heap_sub {h : Nat} {A : Option Addr} {B : List Bd} {j : Nat} {bb : Bd} (hb : B[j]? = some bb) : ∀ k, k ∈ bb.bt :: bb.bs → k ∈ heapFoot h A B := by
  intro k hk
  simp only [heapFoot, List.mem_cons, List.mem_append]
  exact Or.inr (Or.inr (mem_allB (List.mem_of_getElem? hb) (List.mem_cons_of_mem _ hk)))
theorem tmp_heap {w w' : World} {base h c n b t j : Nat} {A : Option Addr} {mn lo hi : Int} {B : List Bd} {ct : Nat → Nat} {cs : List Value} {bb : Bd} (hx : Blk w b t cs) (H : HeapAt w base h A c n mn lo hi B ct) (hb : B[j]? = some bb) (hc : Ch (bb.bt :: bb.bs) w w') : Blk w' b t cs := by
  refine hx.ch hc (fun hm => ?_)
  have hb0 := H.bd j bb hb
  have : ∃ m : List (Int × Value), MapAt intKeys w b m := by
    rcases List.mem_cons.1 hm with e | hm
    · rw [e]; exact hb0.tk
    · obtain ⟨k, hk⟩ := List.getElem?_of_mem hm
      exact ⟨_, hb0.fr k b hk⟩
  obtain ⟨m, hm2⟩ := this
  exact blk_ne_map hx hm2 rfl
theorem tmp_log {w w' : World} {base g bc nodes c b t : Nat} {A : Option Addr} {evs : List Ev} {cs : List Value} (hx : Blk w b t cs) (H : LogAt w base g bc nodes A c evs) (hc : Ch (g :: bc :: rowOf A) w w') (h1 : t ≠ 98) (h2 : t ≠ 44) (h3 : 227 ≠ t) : Blk w' b t cs := by
  refine hx.ch hc (fun hm => ?_)
  obtain ⟨cc, hcc, _⟩ := H.ct
  rcases List.mem_cons.1 hm with e | hm
  · exact hx.ne_ H.st h1 e
  rcases List.mem_cons.1 hm with e | hm
  · exact hx.ne_ hcc h2 e
  · exact own_neV H.ev hx h3 (mem_rowOf.2 hm)
theorem log_fresh {w W : World} {g bc x : Nat} {A A' : Option Addr} (hs : w.heap.size ≤ W.heap.size) (h : ∀ q, q ∈ rowOf A' → q ∈ rowOf A ∨ W.heap.size ≤ q) (hx : x ∈ logFoot g bc A') : x ∈ logFoot g bc A ∨ w.heap.size ≤ x := by
  unfold logFoot at *
  rcases List.mem_cons.1 hx with rfl | hx
  · exact Or.inl (by simp)
  rcases List.mem_cons.1 hx with rfl | hx
  · exact Or.inl (by simp)
  · rcases h x hx with h | h
    · exact Or.inl (List.mem_cons_of_mem _ (List.mem_cons_of_mem _ h))
    · exact Or.inr (Nat.le_trans hs h)
theorem keep9 {w w' : World} {a1 a2 a3 a4 a5 a6 a7 a8 a9 i1 i2 i3 i4 i5 i6 i7 i8 i9 : Nat} {v1 v2 v3 v4 v5 v6 v7 v8 v9 : Value} (k : Below w.heap.size w w')
    (h : w.cell? ⟨a1, i1, none⟩ = some v1 ∧ w.cell? ⟨a2, i2, none⟩ = some v2 ∧ w.cell? ⟨a3, i3, none⟩ = some v3 ∧ w.cell? ⟨a4, i4, none⟩ = some v4 ∧ w.cell? ⟨a5, i5, none⟩ = some v5 ∧ w.cell? ⟨a6, i6, none⟩ = some v6 ∧ w.cell? ⟨a7, i7, none⟩ = some v7 ∧ w.cell? ⟨a8, i8, none⟩ = some v8 ∧ w.cell? ⟨a9, i9, none⟩ = some v9) :
    w'.cell? ⟨a1, i1, none⟩ = some v1 ∧ w'.cell? ⟨a2, i2, none⟩ = some v2 ∧ w'.cell? ⟨a3, i3, none⟩ = some v3 ∧ w'.cell? ⟨a4, i4, none⟩ = some v4 ∧ w'.cell? ⟨a5, i5, none⟩ = some v5 ∧ w'.cell? ⟨a6, i6, none⟩ = some v6 ∧ w'.cell? ⟨a7, i7, none⟩ = some v7 ∧ w'.cell? ⟨a8, i8, none⟩ = some v8 ∧ w'.cell? ⟨a9, i9, none⟩ = some v9 := by
  obtain ⟨h1, h2, h3, h4, h5, h6, h7, h8, h9⟩ := h
  exact ⟨after_cell h1 ⟨w', k⟩, after_cell h2 ⟨w', k⟩, after_cell h3 ⟨w', k⟩, after_cell h4 ⟨w', k⟩, after_cell h5 ⟨w', k⟩, after_cell h6 ⟨w', k⟩, after_cell h7 ⟨w', k⟩, after_cell h8 ⟨w', k⟩, after_cell h9 ⟨w', k⟩⟩
section
variable {w0 w : World} {S : MSt}
set_option maxRecDepth 100000 in
set_option maxHeartbeats 700000 in
theorem ma_acquire {mm : Nat} (H : Mach w0 w (mparts w0.heap.size S)) (hok : FrOk S.each mm) (hBl : S.B.length = S.N) (hN : S.t.N = (S.N : Int)) (hck : chkT S.t = 0) (i : Nat) (c : CpuR) (hc : S.cpus[i]? = some c) (own : Nat) (how : S.t.cs[i]? = some (own : Int))
    (m : Int) (s : Nat) (hs : s < 256) (pn : Int) (hpol : chk m s pn S.t.N = 0) (st : Nat) (nx : Int) (hst : startN m s pn (own : Int) c.cur = ((st : Int), nx)) (r : RowV) (hr : S.t.ds[st]? = some r) (j : Nat) (hj : j < S.N) (hnv : nearV (withL (permN m s S.t.N) r.zs) (maysL S.N S.each S.ct S.mn S.N) = ((j : Int), true))
    (hmay : mayB S.each (S.ct j) S.mn = true) (hev : S.evs.length < 1000) (nd : Nat) (hnd : c.nd = (nd : Int)) (hnd8 : nd < S.N) (hst8 : st < S.N) :
    Calls Tryz.prog 85 #[ptr S.m, .int .i64 (i : Int), ptr c.b, .agg #[.int .i64 m, .int .u8 (s : Int), .int .i64 pn], .int .i64 0] w fun e w' => ∃ A' c', e = .returned (.tuple #[.int .i64 ((j * S.each + S.ct j : Nat) : Int), .int .i64 (j : Int), .int .i64 0]) ∧
      Mach w0 w' (mparts w0.heap.size { S with ct := ctUp S.ct j, cpus := S.cpus.set i { c with cur := nx }, lA := A', lc := c', evs := S.evs ++ [Ev.mk (j : Int) (st : Int) (nd : Int) (decide (m = 2))] }) := by
  have H1 := H.below (bel_alloc (Below.refl w.heap.size w) (.cells #[.int .i64 m, .int .u8 (s : Int), .int .i64 pn] 38))
  have hbx := Blk.new w 38 [.int .i64 m, .int .u8 (s : Int), .int .i64 pn]
  have HM := Lib.hid H1; have HBX := Lib.hid hbx; have HCP := Lib.hid hc
  clear H1 H hbx
  unfold ptr at *
  go_enter Tryz.func85, Tryz.ntmps85
  go_upto_region 1 with fail
  generalize w.alloc (.cells #[.int .i64 m, .int .u8 (s : Int), .int .i64 pn] 38) = wA at *
  generalize w.heap.size = bx at *
  have hMM := M_mac HM.out
  have hC := M_cpu HM.out HCP.out
  have m0 : wA.cell? ⟨S.m, 0, none⟩ = some (.int .i64 S.t.N) := hMM.at_ (i := 0) rfl
  have m1 : wA.cell? ⟨S.m, 1, none⟩ = some (.int .i64 S.t.F) := hMM.at_ (i := 1) rfl
  have m2 : wA.cell? ⟨S.m, 2, none⟩ = some (.slice S.t.ca S.t.cs.length S.t.cc) := hMM.at_ (i := 2) rfl
  have m3 : wA.cell? ⟨S.m, 3, none⟩ = some (.slice S.t.da S.t.ds.length S.t.dc) := hMM.at_ (i := 3) rfl
  have m5 : wA.cell? ⟨S.m, 5, none⟩ = some (.pointer (some ⟨S.h, 0, none⟩)) := hMM.at_ (i := 5) rfl
  have j0 := HBX.out.at_ (i := 0) rfl
  have j1 := HBX.out.at_ (i := 1) rfl
  have j2 := HBX.out.at_ (i := 2) rfl
  have c4 := hC.st.at_ (i := 4) rfl
  have hall := fun w' (hb : Below wA.heap.size wA w') => he_all hok (by rw [hBl]; have := chk_okT hck; omega) w' (M_heap (HM.out.below hb))
  have hcho := fun w' hT q mc hI => choose_any S.t m s hs pn i own st c.cur nx r q S.N mc (maysL S.N S.each S.ct S.mn S.N) _ hck hpol how hst hr hnv w' hT hI (by have := chk_okT hck; omega)
  rw [hBl] at hall
  simp only [choV, choE, if_true, TopoV.val] at hcho
  have HA := Lib.hid hall; have HC := Lib.hid hcho
  have HB0 := Lib.hid (Below.refl wA.heap.size wA)
  have HOK := Lib.hid hok; have HN := Lib.hid hN; have HMAY := Lib.hid hmay; have HEV := Lib.hid hev; have HND := Lib.hid hnd; have HBL := Lib.hid hBl; have HN8 : Hid (S.N ≤ 8) := Lib.hid (by have := chk_okT hck; omega); have HR := Lib.hid (And.intro hnd8 (And.intro hst8 hj))
  clear hall hcho hMM hC hok hN hmay hev hnd hBl hck how hpol hst hr hnv hnd8 hst8 hj hs hc
  go_cut [13, 14] (fun v1 v2 wx => ∃ b13, v1 = .pointer (some ⟨b13, 0, none⟩) ∧ v2 = .int .i64 0 ∧ wA.heap.size ≤ b13 ∧ Below wA.heap.size wA wx ∧ Blk wx b13 220 [.int .i64 (j : Int), .int .i64 (st : Int), .int .i64 nx])
  case first =>
    go_region_held3 (fun w' => w'.cell? ⟨S.m, 0, none⟩ = some (.int .i64 S.t.N) ∧ w'.cell? ⟨S.m, 1, none⟩ = some (.int .i64 S.t.F) ∧ w'.cell? ⟨S.m, 2, none⟩ = some (.slice S.t.ca S.t.cs.length S.t.cc) ∧ w'.cell? ⟨S.m, 3, none⟩ = some (.slice S.t.da S.t.ds.length S.t.dc) ∧ w'.cell? ⟨S.m, 5, none⟩ = some (.pointer (some ⟨S.h, 0, none⟩)) ∧ w'.cell? ⟨bx, 0, none⟩ = some (.int .i64 m) ∧ w'.cell? ⟨bx, 1, none⟩ = some (.int .u8 (s : Int)) ∧ w'.cell? ⟨bx, 2, none⟩ = some (.int .i64 pn) ∧ w'.cell? ⟨c.b, 4, none⟩ = some (.int .i64 c.cur))
      (first | exact keep9 (w := wA) (by (repeat (first | exact Below.refl _ _ | assumption | with_reducible refine bel_alloc ?_ _ | with_reducible refine bel_drewN ?_ _ | with_reducible refine bel_drew ?_ | with_reducible refine bel_setc ?_ _ (by omega)))) ⟨m0, m1, m2, m3, m5, j0, j1, j2, c4⟩)
      (first
        | (go_at_call 115; refine (HC.out _ (hT5.below (by (repeat (first | exact Below.refl _ _ | assumption | with_reducible refine bel_alloc ?_ _ | with_reducible refine bel_drewN ?_ _ | with_reducible refine bel_drew ?_ | with_reducible refine bel_setc ?_ _ (by omega))))) q mc (hI5.below (by (repeat (first | exact Below.refl _ _ | assumption | with_reducible refine bel_alloc ?_ _ | with_reducible refine bel_drewN ?_ _ | with_reducible refine bel_drew ?_ | with_reducible refine bel_setc ?_ _ (by omega)))))).mono ?_; rintro e w6 ⟨rfl, hBz⟩; have hB56 : Below w5.heap.size w5 w6 := bel_trans (by (repeat (first | exact Below.refl _ _ | assumption | with_reducible refine bel_alloc ?_ _ | with_reducible refine bel_drewN ?_ _ | with_reducible refine bel_drew ?_ | with_reducible refine bel_setc ?_ _ (by omega)))) hBz; have hB6 : Below wA.heap.size wA w6 := bel_trans hB5 hB56; have hs6 := hB6.size; (try have z5 := (Blk.new w5 220 [.int .i64 0, .int .i64 0, .int .i64 0]).below (by first | exact hBz | exact bel_trans (bel_drew (Below.refl _ _)) hBz)); (try have z1 := z0.below hB56); (try have y0 := z5.at_ (i := 0) rfl); (try have y1 := z5.at_ (i := 1) rfl); (try have y2 := z5.at_ (i := 2) rfl); (try have g0 := z5.frozen 0); (try have g1 := z5.frozen 1); (try have g2 := z5.frozen 2); (try have x0 := z1.at_ (i := 0) rfl); (try have x1 := z1.at_ (i := 1) rfl); (try have x2 := z1.at_ (i := 2) rfl); (try have v0 := z1.frozen 0); (try have v1 := z1.frozen 1); (try have v2 := z1.frozen 2))
        | (go_at_call 116; refine (HA.out _ (by (repeat (first | exact Below.refl _ _ | assumption | with_reducible refine bel_alloc ?_ _ | with_reducible refine bel_drewN ?_ _ | with_reducible refine bel_drew ?_ | with_reducible refine bel_setc ?_ _ (by omega))))).mono ?_; rintro e w5 ⟨q, mc, rfl, hI5, hBy⟩; have hB5 : Below wA.heap.size wA w5 := bel_trans (by (repeat (first | exact Below.refl _ _ | assumption | with_reducible refine bel_alloc ?_ _ | with_reducible refine bel_drewN ?_ _ | with_reducible refine bel_drew ?_ | with_reducible refine bel_setc ?_ _ (by omega)))) hBy; have hT5 := (M_topo (HM.out.below hB5)).inT; have hs5 := hB5.size; (try have z0 := (Blk.new wA 220 [.int .i64 0, .int .i64 0, .int .i64 0]).below (by first | exact hBy | exact bel_trans (bel_drew (Below.refl _ _)) hBy))))
    all_goals
      go_wp2_with fail
      go_meet
      refine ⟨_, rfl, rfl, by first | exact hs6 | exact hs5 | exact Nat.le_refl _, by (repeat (first | exact Below.refl _ _ | assumption | with_reducible refine bel_alloc ?_ _ | with_reducible refine bel_drewN ?_ _ | with_reducible refine bel_drew ?_ | with_reducible refine bel_setc ?_ _ (by omega))), ?_⟩
      first
        | exact ((z1.set_ 0 _).set_ 1 _).set_ 2 _
        | exact ((z5.set_ 0 _).set_ 1 _).set_ 2 _
        | exact Blk.new w6 220 [.int .i64 (j : Int), .int .i64 (st : Int), .int .i64 nx]
        | exact (((Blk.new w6 220 [.int .i64 0, .int .i64 0, .int .i64 0]).set_ 0 _).set_ 1 _).set_ 2 _
  case rest =>
    obtain ⟨b13, rfl, rfl, hb13, hBx, hblk⟩ := hcut
    have M1 := HM.out.below hBx
    have hcp := M_cpu M1 HCP.out
    have hbx1 := HBX.out.below hBx
    have r4 := hcp.st.at_ (i := 4) rfl
    have f4 := hcp.st.frozen 4
    have hst4 := hcp.st.set_ 4 (.int .i64 nx)
    have hch4 : Ch [c.b] wc (wc.setCell ⟨c.b, 4, none⟩ (.int .i64 nx)) := (Ch.refl [c.b] wc).set (p := ⟨c.b, 4, none⟩) (by simp) _
    have M2 := M_setcpu M1 HCP.out (c' := { c with cur := nx }) rfl rfl hch4 hst4 (hcp.st.ne_ hcp.ca.st (by decide))
    have hne1 : b13 ∉ [c.b] := by have := hblk.ne_ hcp.st (by decide); simpa using this
    have hne2 : bx ∉ [c.b] := by have := hbx1.ne_ hcp.st (by decide); simpa using this
    have hblk2 := hblk.ch hch4 hne1
    have hbx2 := hbx1.ch hch4 hne2
    have q2 := hblk.at_ (i := 2) rfl
    have HM2 := Lib.hid M2; have HBK := Lib.hid hblk2; have HBX2 := Lib.hid hbx2
    clear m0 m1 m2 m3 m5 j0 j1 j2 c4 HA HC HB0 HM HBX M1 M2 hcp hbx1 hst4 hch4 hblk hblk2 hbx2 hBx hne1 hne2
    go_upto_region 5 with fail
    generalize wc.setCell ⟨c.b, 4, none⟩ (.int .i64 nx) = wB at *
    clear r4 f4 q2
    have hMM := M_mac HM2.out
    have m5 : wB.cell? ⟨S.m, 5, none⟩ = some (.pointer (some ⟨S.h, 0, none⟩)) := hMM.at_ (i := 5) rfl
    have k0 := HBK.out.at_ (i := 0) rfl
    obtain ⟨bb, hbb⟩ : ∃ bb, S.B[j]? = some bb := ⟨_, List.getElem?_eq_getElem (by rw [HBL.out]; exact HR.out.2.2)⟩
    have htk := fun W (hb : Below wB.heap.size wB W) => he_take HOK.out j bb hbb (by rw [HBL.out]; exact HN8.out) HMAY.out W (show HeapAt W w0.heap.size S.h S.hA S.hc S.each S.mn S.lo S.hi S.B S.ct from (HM2.out.below hb).get (k := 0) rfl)
    have HTK := Lib.hid htk; have HBB := Lib.hid hbb
    clear htk hMM hbb
    go_region_held3 (fun w' => w'.cell? ⟨S.m, 5, none⟩ = some (.pointer (some ⟨S.h, 0, none⟩)) ∧ w'.cell? ⟨b13, 0, none⟩ = some (.int .i64 (j : Int)))
      (first | go_keep | exact ⟨hk5, hk0⟩)
      (first
        | (go_at_call 117; refine (HTK.out _ (by (repeat (first | exact Below.refl _ _ | assumption | with_reducible refine bel_alloc ?_ _ | with_reducible refine bel_drewN ?_ _ | with_reducible refine bel_drew ?_ | with_reducible refine bel_setc ?_ _ (by omega))))).mono ?_; rintro e w7 ⟨rfl, hH7, hC7⟩; have hC7' : Ch (bb.bt :: bb.bs) wB w7 := (Ch.below (by (repeat (first | exact Below.refl _ _ | assumption | with_reducible refine bel_alloc ?_ _ | with_reducible refine bel_drewN ?_ _ | with_reducible refine bel_drew ?_ | with_reducible refine bel_setc ?_ _ (by omega)))) _).trans hC7; have M7 := HM2.out.upd (k := 0) (p' := heapP w0.heap.size S.h S.hA S.hc S.each S.mn S.lo S.hi S.B (ctUp S.ct j)) rfl (hC7'.mono (heap_sub HBB.out)) hH7 (fun x hx => Or.inl hx); have hHB : HeapAt wB w0.heap.size S.h S.hA S.hc S.each S.mn S.lo S.hi S.B S.ct := HM2.out.get (k := 0) rfl; have b7 := tmp_heap HBK.out hHB HBB.out hC7'; have x7 := tmp_heap HBX2.out hHB HBB.out hC7'; have hk0 := b7.at_ (i := 0) rfl; have hMM7 := M7.get (k := 5) rfl; have hk5 : w7.cell? ⟨S.m, 5, none⟩ = some (.pointer (some ⟨S.h, 0, none⟩)) := Blk.at_ (g := S.m) (t := 66) hMM7 (i := 5) rfl))
    have M8 : Mach w0 w7 (mparts w0.heap.size { S with ct := ctUp S.ct j, cpus := S.cpus.set i { c with cur := nx } }) := M7
    have HM8 := Lib.hid M8; have HBK7 := Lib.hid b7; have HBX7 := Lib.hid x7
    clear M7 M8 hMM7 hk5 hk0 b7 x7 hHB hH7 hC7 hC7' HTK HM2 HBK HBX2 m5 k0
    go_upto_region 8 with fail
    have hcl := (List.getElem?_eq_some_iff.1 HCP.out).1
    have hc8 : ({ S with ct := ctUp S.ct j, cpus := S.cpus.set i { c with cur := nx } } : MSt).cpus[i]? = some { c with cur := nx } := by
      show (S.cpus.set i { c with cur := nx })[i]? = _
      rw [List.getElem?_set_self hcl]
    have hnd := HND.out
    have hcs := (M_cpu HM8.out hc8).st
    rw [show ({ c with cur := nx } : CpuR).nd = (nd : Int) from hnd] at hcs
    have hMM := M_mac HM8.out
    have m8 : w7.cell? ⟨S.m, 8, none⟩ = some (.pointer (some ⟨S.gl, 0, none⟩)) := hMM.at_ (i := 8) rfl
    have k0 := HBK7.out.at_ (i := 0) rfl
    have k1 := HBK7.out.at_ (i := 1) rfl
    have x0 := HBX7.out.at_ (i := 0) rfl
    have c0 : w7.cell? ⟨c.b, 0, none⟩ = some (.int .i64 (nd : Int)) := hcs.at_ (i := 0) rfl
    have hnr := HR.out
    have hri : Ev.right ⟨(j : Int), (st : Int), (nd : Int), decide (m = 2)⟩ S.N = true := by unfold Ev.right; simp; omega
    have hE : addE ⟨(j : Int), (st : Int), (nd : Int), decide (m = 2)⟩ S.N = 0 := by unfold addE; rw [hri]; rfl
    have hL : addL S.evs ⟨(j : Int), (st : Int), (nd : Int), decide (m = 2)⟩ S.N = S.evs ++ [Ev.mk (j : Int) (st : Int) (nd : Int) (decide (m = 2))] := by unfold addL; rw [hri]; rfl
    have hadd := fun W (hb : Below w7.heap.size w7 W) => add_any w0.heap.size S.gl S.bc S.N S.lc S.lA S.evs ⟨(j : Int), (st : Int), (nd : Int), decide (m = 2)⟩ W (show LogAt W w0.heap.size S.gl S.bc S.N S.lA S.lc S.evs from (HM8.out.below hb).get (k := 8) rfl) (Nat.le_trans HM8.out.bel.size hb.size) HEV.out
    rw [hE, hL] at hadd
    simp only [evV] at hadd
    have HAD := Lib.hid hadd
    have HLG : Hid (LogAt w7 w0.heap.size S.gl S.bc S.N S.lA S.lc S.evs) := Lib.hid (HM8.out.get (k := 8) rfl)
    clear hadd hri hE hL hnr hMM hcs hnd
    go_region_held3 (fun w' => w'.cell? ⟨S.m, 8, none⟩ = some (.pointer (some ⟨S.gl, 0, none⟩)) ∧ w'.cell? ⟨b13, 0, none⟩ = some (.int .i64 (j : Int)) ∧ w'.cell? ⟨b13, 1, none⟩ = some (.int .i64 (st : Int)) ∧ w'.cell? ⟨c.b, 0, none⟩ = some (.int .i64 (nd : Int)) ∧ w'.cell? ⟨bx, 0, none⟩ = some (.int .i64 m))
      (first | go_keep | exact hkeep)
      (first
        | (go_at_call 118; refine (HAD.out _ (by (repeat (first | exact Below.refl _ _ | assumption | with_reducible refine bel_alloc ?_ _ | with_reducible refine bel_drewN ?_ _ | with_reducible refine bel_drew ?_ | with_reducible refine bel_setc ?_ _ (by omega))))).mono ?_; rintro e w9 ⟨rfl, A', c', hA9⟩; have hC9 : Ch (S.gl :: S.bc :: rowOf S.lA) w7 w9 := (Ch.below (by (repeat (first | exact Below.refl _ _ | assumption | with_reducible refine bel_alloc ?_ _ | with_reducible refine bel_drewN ?_ _ | with_reducible refine bel_drew ?_ | with_reducible refine bel_setc ?_ _ (by omega)))) _).trans hA9.ch; have M9 := HM8.out.upd (k := 8) (p' := logP w0.heap.size S.gl S.bc S.N A' c' (S.evs ++ [Ev.mk (j : Int) (st : Int) (nd : Int) (decide (m = 2))])) rfl hC9 hA9.log (fun x hx => log_fresh (Below.size (w := w7) (by (repeat (first | exact Below.refl _ _ | assumption | with_reducible refine bel_alloc ?_ _ | with_reducible refine bel_drewN ?_ _ | with_reducible refine bel_drew ?_ | with_reducible refine bel_setc ?_ _ (by omega))))) hA9.row hx); have M9 : Mach w0 w9 (mparts w0.heap.size { S with ct := ctUp S.ct j, cpus := S.cpus.set i { c with cur := nx }, lA := A', lc := c', evs := S.evs ++ [Ev.mk (j : Int) (st : Int) (nd : Int) (decide (m = 2))] }) := M9; have b9 := tmp_log HBK7.out HLG.out hC9 (by decide) (by decide) (by decide); have x9 := tmp_log HBX7.out HLG.out hC9 (by decide) (by decide) (by decide); have hcs9 := (M_cpu M9 hc8).st; have hMM9 := M_mac M9; have hkeep : w9.cell? ⟨S.m, 8, none⟩ = some (.pointer (some ⟨S.gl, 0, none⟩)) ∧ w9.cell? ⟨b13, 0, none⟩ = some (.int .i64 (j : Int)) ∧ w9.cell? ⟨b13, 1, none⟩ = some (.int .i64 (st : Int)) ∧ w9.cell? ⟨c.b, 0, none⟩ = some (.int .i64 (nd : Int)) ∧ w9.cell? ⟨bx, 0, none⟩ = some (.int .i64 m) := ⟨hMM9.at_ (i := 8) rfl, b9.at_ (i := 0) rfl, b9.at_ (i := 1) rfl, by rw [← HND.out]; exact hcs9.at_ (i := 0) rfl, x9.at_ (i := 0) rfl⟩))
    have HM9 := Lib.hid M9
    have kk0 := hkeep.2.1
    clear hkeep M9 b9 x9 hcs9 hMM9 hA9 hC9 HM8 HAD HLG m8 k0 k1 x0 c0 hc8
    go_upto_region 9 with fail
    go_quiet (fail)
    go_wp2_with fail
    exact bodyPost_ret (v := .tuple #[.int .i64 ((j : Int) * (S.each : Int) + (S.ct j : Int)), .int .i64 (j : Int), .int .i64 0]) (by simp [results, Tryz.results85, go_sem]) rfl ⟨A', c', by push_cast; rfl, HM9.out.below (by (repeat (first | exact Below.refl _ _ | assumption | with_reducible refine bel_alloc ?_ _ | with_reducible refine bel_drewN ?_ _ | with_reducible refine bel_drew ?_ | with_reducible refine bel_setc ?_ _ (by omega))))⟩
end
end Go.Proofs.YtjdbedoabcbeeaaGreatDoor
/- The machine's touch of a page that is not mapped, where a node has room. -/
namespace Go.Proofs.YtjdbedoabcbeeaaGreatDoor
open Go.RowKit
set_option linter.unusedVariables false
set_option linter.unusedSimpArgs false
attribute [local go_sem] World.cell?_alloc_lt

section
variable {w0 w : World} {S : MSt}
set_option maxRecDepth 100000 in
set_option maxHeartbeats 2000000 in
theorem ma_touch {mm : Nat} (H : Mach w0 w (mparts w0.heap.size S)) (hok : FrOk S.each mm) (hBl : S.B.length = S.N) (hN : S.t.N = (S.N : Int)) (hck : chkT S.t = 0) (i : Nat) (c : CpuR) (hc : S.cpus[i]? = some c) (own : Nat) (how : S.t.cs[i]? = some (own : Int))
    (s : Nat) (hs : s < 256) (hcs : c.s = (s : Int)) (hpol : chk c.m s c.pn S.t.N = 0) (st : Nat) (nx : Int) (hst : startN c.m s c.pn (own : Int) c.cur = ((st : Int), nx)) (r : RowV) (hr : S.t.ds[st]? = some r) (j : Nat) (hj : j < S.N) (hnv : nearV (withL (permN c.m s S.t.N) r.zs) (maysL S.N S.each S.ct S.mn S.N) = ((j : Int), true))
    (hmay : mayB S.each (S.ct j) S.mn = true) (hev : S.evs.length < 1000) (nd : Nat) (hnd : c.nd = (nd : Int)) (hnd8 : nd < S.N) (hst8 : st < S.N)
    (p : Nat) (hp : p < 4096) (hpf : S.pf (p : Int) = none) (hmt : mget S.mt (p : Int) = none) (hmf : mget S.mf ((j * S.each + S.ct j : Nat) : Int) = none) (hfn : j * S.each + S.ct j < S.N * S.each) :
    Calls Tryz.prog 61 #[ptr S.m, .int .i64 (i : Int), ptr c.b, .int .i64 (p : Int)] w fun e w' => ∃ A' c', e = .returned (.int .i64 0) ∧
      Mach w0 w' (mparts w0.heap.size { S with ct := ctUp S.ct j, cpus := S.cpus.set i { c with cur := nx }, lA := A', lc := c', evs := S.evs ++ [Ev.mk (j : Int) (st : Int) (nd : Int) (decide (c.m = 2))], by_ := putL S.by_ ((j * S.each + S.ct j) * 64) zeros64, mt := mput S.mt (p : Int) ((j * S.each + S.ct j : Nat) : Int), mf := mput S.mf ((j * S.each + S.ct j : Nat) : Int) (p : Int) }) := by
  have hacq := fun W (hM : Mach w0 W (mparts w0.heap.size S)) => ma_acquire hM hok hBl hN hck i c hc own how c.m s hs c.pn hpol st nx hst r hr j hj hnv hmay hev nd hnd hnd8 hst8
  have hMM := M_mac H
  have m4 : w.cell? ⟨S.m, 4, none⟩ = some (.pointer (some ⟨S.mb, 0, none⟩)) := hMM.at_ (i := 4) rfl
  have m7 : w.cell? ⟨S.m, 7, none⟩ = some (.pointer (some ⟨S.gb, 0, none⟩)) := hMM.at_ (i := 7) rfl
  have hfr := me_frame _ _ _ _ _ _ _ _ _ _ _ w (M_mem H) (p : Int)
  rw [hmt] at hfr
  simp only [Option.getD_none, Option.isSome_none] at hfr
  have hbo := bof_none S.gb S.bb (S.N : Int) S.pf (p : Int) w (M_book H) hpf
  obtain ⟨f, hf⟩ : ∃ f, j * S.each + S.ct j = f := ⟨_, rfl⟩
  rw [hf] at hmf hfn hacq ⊢
  obtain ⟨BY, hBY⟩ : ∃ B, putL S.by_ (f * 64) zeros64 = B := ⟨_, rfl⟩
  obtain ⟨MT, hMT⟩ : ∃ B, mput S.mt (p : Int) (f : Int) = B := ⟨_, rfl⟩
  obtain ⟨MF, hMF⟩ : ∃ B, mput S.mf (f : Int) (p : Int) = B := ⟨_, rfl⟩
  rw [hBY, hMT, hMF]
  have HBY := Lib.hid hBY; have HMTT := Lib.hid hMT; have HMFF := Lib.hid hMF
  clear hBY hMT hMF
  have HAC := Lib.hid hacq; have HFR := Lib.hid hfr; have HBO := Lib.hid hbo; have HM := Lib.hid H; have HCP := Lib.hid hc; have HCS := Lib.hid hcs; have HMF := Lib.hid hmf; have HMT := Lib.hid hmt; have HFN := Lib.hid hfn
  clear hacq hfr hbo H hMM hpf hmt hmf hf hfn hok hBl hN hck how hpol hst hr hnv hmay hev hnd hnd8 hst8 hj hcs hc hs
  unfold ptr at *
  go_enter Tryz.func61, Tryz.ntmps61
  go_wp2_with fail
  refine HFR.out.mono ?_; rintro e w1 ⟨rfl, rfl⟩
  clear HFR
  go_wp2_with fail
  refine HBO.out.mono ?_; rintro e w2 ⟨rfl, hB2⟩
  have M2 := HM.out.below hB2
  have hcp := (M_cpu M2 HCP.out).st
  rw [HCS.out] at hcp
  have k1 := hcp.at_ (i := 1) rfl
  have k2 := hcp.at_ (i := 2) rfl
  have k3 := hcp.at_ (i := 3) rfl
  have hlt := hcp.lt
  have hne := Nat.ne_of_lt hlt
  have M3 := M2.below (bel_alloc (Below.refl _ _) (.cells #[.int .i64 c.m, .int .u8 (s : Int), .int .i64 c.pn] 38))
  have HM3 := Lib.hid M3
  clear M2 M3 hcp hB2 HBO HM m4 m7
  go_wp2_with fail
  refine (HAC.out _ (by first | exact HM3.out | exact HM3.out.below (by repeat (first | exact Below.refl _ _ | assumption | with_reducible refine bel_alloc ?_ _ | with_reducible refine bel_drewN ?_ _ | with_reducible refine bel_drew ?_)))).mono ?_; rintro e w4 ⟨A', c', rfl, M4⟩
  have hmem : MemAt w4 S.mb S.g S.b S.each (S.N * S.each) S.tg S.bt S.bf S.by_ S.mt S.mf := M4.get (k := 6) rfl
  have hMM := M_mac M4
  have m4 : w4.cell? ⟨S.m, 4, none⟩ = some (.pointer (some ⟨S.mb, 0, none⟩)) := hMM.at_ (i := 4) rfl
  have hsr := me_store _ _ _ _ _ _ _ _ _ _ _ w4 hmem
  have hcl := fr_clear S.g S.b S.each (S.N * S.each) S.by_ f w4 hmem.fs HFN.out
  rw [HBY.out] at hcl
  have HSR := Lib.hid hsr; have HCL := Lib.hid hcl; have HME := Lib.hid hmem; have HM4 := Lib.hid M4
  clear hsr hcl hmem M4 hMM HAC HM3 k1 k2 k3 hlt hne
  go_wp2_with fail
  refine HSR.out.mono ?_; rintro e w5 ⟨rfl, rfl⟩
  go_wp2_with fail
  refine HCL.out.mono ?_; rintro e w5 ⟨rfl, hG5, hC5⟩
  have hmem5 := HME.out.save hG5 hC5
  have M5 := HM4.out.upd (k := 6) (p' := memP S.mb S.g S.b S.each (S.N * S.each) S.tg S.bt S.bf BY S.mt S.mf) rfl (hC5.mono (by intro x hx; rw [List.mem_singleton] at hx; subst hx; show S.b ∈ [S.mb, S.g, S.b, S.tg, S.bt, S.bf]; simp)) hmem5 (fun x hx => Or.inl hx)
  have hMM := M5.get (k := 5) rfl
  have m4' : w5.cell? ⟨S.m, 4, none⟩ = some (.pointer (some ⟨S.mb, 0, none⟩)) := Blk.at_ (g := S.m) (t := 66) hMM (i := 4) rfl
  have hmp := me_map S.mb S.g S.b S.each (S.N * S.each) S.tg S.bt S.bf _ S.mt S.mf w5 hmem5 (p : Int) (f : Int) (by omega) (by omega) (by omega) (by have := HFN.out; exact_mod_cast this) HMT.out HMF.out
  rw [HMTT.out, HMFF.out] at hmp
  have HMP := Lib.hid hmp; have HM5 := Lib.hid M5
  clear hmp M5 hMM hmem5 HME HM4 hG5 hC5 HSR HCL m4
  go_wp2_with fail
  refine HMP.out.mono ?_; rintro e w6 ⟨rfl, hmem6, hC6⟩
  have M6 := HM5.out.upd (k := 6) (p' := memP S.mb S.g S.b S.each (S.N * S.each) S.tg S.bt S.bf BY MT MF) rfl (hC6.mono (by intro x hx; show x ∈ [S.mb, S.g, S.b, S.tg, S.bt, S.bf]; simp only [List.mem_cons, List.not_mem_nil, or_false] at hx ⊢; rcases hx with rfl | rfl <;> simp)) hmem6 (fun x hx => Or.inl hx)
  have HM6 := Lib.hid M6
  clear M6 hmem6 hC6 HMP HM5 m4'
  go_wp2_with fail
  go_ret
  exact ⟨A', c', rfl, HM6.out⟩
end
end Go.Proofs.YtjdbedoabcbeeaaGreatDoor
/- The machine's reach of one page. -/
namespace Go.Proofs.YtjdbedoabcbeeaaGreatDoor
open Go.RowKit
set_option linter.unusedVariables false
set_option linter.unusedSimpArgs false
attribute [local go_sem] World.cell?_alloc_lt

section
variable {w0 w : World} {S : MSt}
set_option maxRecDepth 100000 in
set_option maxHeartbeats 1000000 in
theorem ma_reach (H : Mach w0 w (mparts w0.heap.size S)) (i : Nat) (c : CpuR) (hc : S.cpus[i]? = some c) (k x n : Nat) (hk : k ≤ 5000) (ha : mget S.live (64 * (k : Int)) = some (.int .i64 (n : Int))) (hx : 64 * x < n) (hn : n ≤ 100000) (Q : World → Prop)
    (hT : Calls Tryz.prog 61 #[ptr S.m, .int .i64 (i : Int), ptr c.b, .int .i64 ((k + x : Nat) : Int)] w fun e w' => e = .returned (.int .i64 0) ∧ Q w') :
    Calls Tryz.prog 31 #[ptr S.m, .int .i64 (i : Int), .int .i64 (64 * (k : Int)), .int .i64 (64 * (x : Int)), .int .i64 1] w fun e w' => e = .returned (.int .i64 0) ∧ Q w' := by
  have hcp := ma_cpu H i c hc
  have hob := ma_object H (64 * (k : Int)) (n : Int) ha
  have e1 : ((64 * (x : Int)) < 0) = False := by simp; omega
  have e2 : ((n : Int) < 64 * (x : Int)) = False := by simp; omega
  have e3 : ((n : Int) - 64 * (x : Int) < 1) = False := by simp; omega
  have d1 : (64 * (k : Int) + 64 * (x : Int)).tdiv 64 = ((k + x : Nat) : Int) := by rw [Int.tdiv_eq_ediv_of_nonneg (by omega)]; omega
  have d2 : (64 * (k : Int) + 64 * (x : Int) + 1 - 1).tdiv 64 = ((k + x : Nat) : Int) := by rw [Int.tdiv_eq_ediv_of_nonneg (by omega)]; omega
  obtain ⟨p, hp⟩ : ∃ p, k + x = p := ⟨_, rfl⟩
  rw [hp] at hT d1 d2
  have hp2 : p ≤ 200000 := by omega
  have HCP := Lib.hid hcp; have HOB := Lib.hid hob; have HT := Lib.hid hT
  clear hcp hob hT H hc ha hp
  unfold ptr at *
  go_enter Tryz.func31, Tryz.ntmps31
  go_wp2_with fail
  refine HCP.out.mono ?_; rintro e w1 ⟨rfl, rfl⟩
  clear HCP
  go_wp2_with fail
  refine HOB.out.mono ?_; rintro e w1 ⟨rfl, rfl⟩
  clear HOB
  go_wp2_with fail
  clear e1 e2 e3
  go_loopw [14] (fun v wr => (v = .int .i64 (p : Int) ∧ wr = w) ∨ (v = .int .i64 ((p : Int) + 1) ∧ Q wr)) (fun v _ => p + 1 - (intOf v).toNat)
  case atStart => exact Or.inl ⟨rfl, rfl⟩
  case round =>
    rcases hrel with ⟨rfl, rfl⟩ | ⟨rfl, hQ⟩
    · go_wp2_with fail
      refine HT.out.mono ?_; rintro e w1 ⟨rfl, hQ⟩
      have HQ := Lib.hid hQ
      clear hQ HT
      go_wp2_with fail
      go_roundw
      case rel => exact Or.inr ⟨by go_num, HQ.out⟩
      case measure => (try simp [intOf]) <;> omega
    · have HQ := Lib.hid hQ
      clear hQ HT
      go_wp2_with fail
      go_ret
      exact ⟨rfl, HQ.out⟩
end
end Go.Proofs.YtjdbedoabcbeeaaGreatDoor
