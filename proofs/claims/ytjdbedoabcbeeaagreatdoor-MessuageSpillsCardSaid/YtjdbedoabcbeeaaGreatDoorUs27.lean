/- Parts of the proof: MaWrite, MaNode, AcquireNo, Flush0, Relieve, TouchNo, ReachNo. -/
import Derived.Test.YtjdbedoabcbeeaaGreatDoorUs26
import Derived.Test.YtjdbedoabcbeeaaGreatDoorUs25
import Derived.Test.YtjdbedoabcbeeaaGreatDoorUs21
import Derived.Test.YtjdbedoabcbeeaaGreatDoorUs24
import Derived.Test.YtjdbedoabcbeeaaGreatDoorUs4
/- The machine's Write of one byte. -/
namespace Go.Proofs.YtjdbedoabcbeeaaGreatDoor
open Go.RowKit
set_option linter.unusedVariables false
set_option linter.unusedSimpArgs false
attribute [local go_sem] World.cell?_alloc_lt

section
variable {w0 w : World} {S : MSt}
/-- Write, given what reach leaves: a machine in which the page is mapped. -/
theorem ma_write (m : Nat) (i : Nat) (k x : Nat) (hk : k + x < 4096) (A : Option Addr) (mc : Nat) (u : Int) (hmc : 1 ≤ mc) (R : MSt → Prop)
    (hR : Calls Tryz.prog 31 #[ptr m, .int .i64 (i : Int), .int .i64 (64 * (k : Int)), .int .i64 (64 * (x : Int)), .int .i64 1] w fun e w' => e = .returned (.int .i64 0) ∧ ∃ S : MSt, Mach w0 w' (mparts w0.heap.size S) ∧ S.m = m ∧ R S ∧ mapped S.mt (k + x) ∧ InB w' A 1 [u] ∧ Off A S.b) :
    Calls Tryz.prog 11 #[ptr m, .int .i64 (i : Int), .int .i64 (64 * (k : Int)), .int .i64 (64 * (x : Int)), .slice A 1 mc] w fun e w' => e = .returned (.int .i64 0) ∧ ∃ S : MSt, Mach w0 w' (mparts w0.heap.size { S with by_ := wrB S.mt S.by_ (64 * (k + x)) [u] }) ∧ S.m = m ∧ R S ∧ mapped S.mt (k + x) := by
  have HR := Lib.hid hR
  clear hR
  unfold ptr at *
  go_enter Tryz.func11, Tryz.ntmps11
  go_wp2_with fail
  refine HR.out.mono ?_; rintro e w1 ⟨rfl, S, M1, rfl, hRS, hmp, hI, hOf⟩
  clear HR
  have hMM := M_mac M1
  have m4 : w1.cell? ⟨S.m, 4, none⟩ = some (.pointer (some ⟨S.mb, 0, none⟩)) := hMM.at_ (i := 4) rfl
  have hwr := me_write S.mb S.g S.b S.each (S.N * S.each) S.tg S.bt S.bf S.by_ S.mt S.mf w1 (M_mem M1) (64 * (k + x)) 1 A mc [u] hI (fun _ => hOf) (by omega) hmc (by omega) (fun q h1 h2 => by rw [show q / 64 = k + x by omega]; exact hmp)
  have ea : ((64 * (k + x) : Nat) : Int) = 64 * (k : Int) + 64 * (x : Int) := by push_cast; omega
  rw [ea] at hwr
  obtain ⟨BY, hBY⟩ : ∃ B, wrB S.mt S.by_ (64 * (k + x)) [u] = B := ⟨_, rfl⟩
  rw [hBY] at hwr
  have HW := Lib.hid hwr; have HM := Lib.hid M1; have HRS := Lib.hid hRS; have HMP := Lib.hid hmp; have HBY := Lib.hid hBY
  clear hwr M1 hRS hmp hMM hI hOf hBY ea
  go_wp2_with fail
  refine HW.out.mono ?_; rintro e w2 ⟨rfl, hm2, hC2⟩
  have M2 := HM.out.upd (k := 6) (p' := memP S.mb S.g S.b S.each (S.N * S.each) S.tg S.bt S.bf BY S.mt S.mf) rfl (hC2.mono (by intro x hx; rw [List.mem_singleton] at hx; subst hx; show S.b ∈ [S.mb, S.g, S.b, S.tg, S.bt, S.bf]; simp)) hm2 (fun x hx => Or.inl hx)
  have M3 : Mach w0 w2 (mparts w0.heap.size { S with by_ := BY }) := M2
  have HM3 := Lib.hid M3
  clear M2 M3 hm2 hC2 HM HW m4
  go_wp2_with fail
  go_ret
  exact ⟨rfl, S, by rw [HBY.out]; exact HM3.out, rfl, HRS.out, HMP.out⟩
end
end Go.Proofs.YtjdbedoabcbeeaaGreatDoor
/- The machine's Node. -/
namespace Go.Proofs.YtjdbedoabcbeeaaGreatDoor
open Go.RowKit
set_option linter.unusedVariables false
set_option linter.unusedSimpArgs false
attribute [local go_sem] World.cell?_alloc_lt

section
variable {w0 w : World} {S : MSt}
theorem ma_node (H : Mach w0 w (mparts w0.heap.size S)) (k x n f : Nat) (hk : k ≤ 5000) (ha : mget S.live (64 * (k : Int)) = some (.int .i64 (n : Int))) (hx : 64 * x < n) (hn : n ≤ 100000) (hf : mget S.mt ((k + x : Nat) : Int) = some (f : Int)) :
    Calls Tryz.prog 12 #[ptr S.m, .int .i64 (64 * (k : Int)), .int .i64 (64 * (x : Int))] w fun e w' => e = .returned (.tuple #[.int .i64 ((f / S.each : Nat) : Int), .int .i64 0]) ∧ w = w' := by
  have hMM := M_mac H
  have m4 : w.cell? ⟨S.m, 4, none⟩ = some (.pointer (some ⟨S.mb, 0, none⟩)) := hMM.at_ (i := 4) rfl
  have hfn : f < S.N * S.each := by
    have := (M_mem H).ok.fr _ _ hf
    omega
  have hob := ma_object H (64 * (k : Int)) (n : Int) ha
  have hfr := me_frame _ _ _ _ _ _ _ _ _ _ _ w (M_mem H) ((k + x : Nat) : Int)
  rw [hf] at hfr
  simp only [Option.getD_some, Option.isSome_some] at hfr
  have hsr := me_store _ _ _ _ _ _ _ _ _ _ _ w (M_mem H)
  have hnd := fr_node S.g S.b S.each (S.N * S.each) S.by_ f w (M_mem H).fs hfn
  have e1 : ((64 * (x : Int)) < 0) = False := by simp; omega
  have e2 : ((n : Int) ≤ 64 * (x : Int)) = False := by simp; omega
  have e3 : (64 * (k : Int) + 64 * (x : Int)).tdiv 64 = ((k + x : Nat) : Int) := by rw [Int.tdiv_eq_ediv_of_nonneg (by omega)]; omega
  have HOB := Lib.hid hob; have HFR := Lib.hid hfr; have HSR := Lib.hid hsr; have HND := Lib.hid hnd
  clear hMM hob hfr hsr hnd H
  unfold ptr at *
  go_enter Tryz.func12, Tryz.ntmps12
  go_wp2_with fail
  refine HOB.out.mono ?_; rintro e w1 ⟨rfl, rfl⟩
  go_wp2_with fail
  refine HFR.out.mono ?_; rintro e w1 ⟨rfl, rfl⟩
  go_wp2_with fail
  refine HSR.out.mono ?_; rintro e w1 ⟨rfl, rfl⟩
  go_wp2_with fail
  refine HND.out.mono ?_; rintro e w1 ⟨rfl, rfl⟩
  go_wp2_with fail
  go_ret2
  exact ⟨rfl, rfl⟩
end
end Go.Proofs.YtjdbedoabcbeeaaGreatDoor
/- The machine's acquire, where no node has room. -/
namespace Go.Proofs.YtjdbedoabcbeeaaGreatDoor
open Go.RowKit
set_option linter.unusedVariables false
set_option linter.unusedSimpArgs false
attribute [local go_sem] World.cell?_alloc_lt

section
variable {w0 w : World} {S : MSt}
set_option maxRecDepth 100000 in
set_option maxHeartbeats 700000 in
theorem ma_acquire_no {mm : Nat} (H : Mach w0 w (mparts w0.heap.size S)) (hok : FrOk S.each mm) (hBl : S.B.length = S.N) (hN : S.t.N = (S.N : Int)) (hck : chkT S.t = 0) (i : Nat) (c : CpuR) (hc : S.cpus[i]? = some c) (own : Nat) (how : S.t.cs[i]? = some (own : Int))
    (m : Int) (s : Nat) (hs : s < 256) (pn : Int) (hpol : chk m s pn S.t.N = 0) (st : Nat) (nx : Int) (hst : startN m s pn (own : Int) c.cur = ((st : Int), nx)) (r : RowV) (hr : S.t.ds[st]? = some r) (hnv : nearV (withL (permN m s S.t.N) r.zs) (maysL S.N S.each S.ct S.mn S.N) = (0, false)) :
    Calls Tryz.prog 85 #[ptr S.m, .int .i64 (i : Int), ptr c.b, .agg #[.int .i64 m, .int .u8 (s : Int), .int .i64 pn], .int .i64 0] w fun e w' => e = .returned (.tuple #[.int .i64 0, .int .i64 0, .int .i64 5]) ∧
      Mach w0 w' (mparts w0.heap.size { S with cpus := S.cpus.set i { c with cur := nx } }) ∧ Ch [c.b] w w' := by
  have H1 := H.below (bel_alloc (Below.refl w.heap.size w) (.cells #[.int .i64 m, .int .u8 (s : Int), .int .i64 pn] 38))
  have HCA := Lib.hid (Ch.below (bel_alloc (Below.refl w.heap.size w) (.cells #[.int .i64 m, .int .u8 (s : Int), .int .i64 pn] 38)) [c.b])
  have hbx := Blk.new w 38 [.int .i64 m, .int .u8 (s : Int), .int .i64 pn]
  have HM := Lib.hid H1; have HBX := Lib.hid hbx; have HCP := Lib.hid hc
  clear H1 H hbx
  unfold ptr at *
  go_enter Tryz.func85, Tryz.ntmps85
  go_upto_region 1 with fail
  generalize w.alloc (.cells #[.int .i64 m, .int .u8 (s : Int), .int .i64 pn] 38) = wA at *
  generalize w.heap.size = bx at *
  have hMM := M_mac HM.out
  have hC := M_cpu HM.out HCP.out
  have m0 : wA.cell? ⟨S.m, 0, none⟩ = some (.int .i64 S.t.N) := hMM.at_ (i := 0) rfl
  have m1 : wA.cell? ⟨S.m, 1, none⟩ = some (.int .i64 S.t.F) := hMM.at_ (i := 1) rfl
  have m2 : wA.cell? ⟨S.m, 2, none⟩ = some (.slice S.t.ca S.t.cs.length S.t.cc) := hMM.at_ (i := 2) rfl
  have m3 : wA.cell? ⟨S.m, 3, none⟩ = some (.slice S.t.da S.t.ds.length S.t.dc) := hMM.at_ (i := 3) rfl
  have m5 : wA.cell? ⟨S.m, 5, none⟩ = some (.pointer (some ⟨S.h, 0, none⟩)) := hMM.at_ (i := 5) rfl
  have j0 := HBX.out.at_ (i := 0) rfl
  have j1 := HBX.out.at_ (i := 1) rfl
  have j2 := HBX.out.at_ (i := 2) rfl
  have c4 := hC.st.at_ (i := 4) rfl
  have hall := fun w' (hb : Below wA.heap.size wA w') => he_all hok (by rw [hBl]; have := chk_okT hck; omega) w' (M_heap (HM.out.below hb))
  have hcho := fun w' hT q mc hI => choose_any S.t m s hs pn i own st c.cur nx r q S.N mc (maysL S.N S.each S.ct S.mn S.N) _ hck hpol how hst hr hnv w' hT hI (by have := chk_okT hck; omega)
  rw [hBl] at hall
  simp only [choV, choE, Bool.false_eq_true, if_false, TopoV.val] at hcho
  have HA := Lib.hid hall; have HC := Lib.hid hcho
  have HB0 := Lib.hid (Below.refl wA.heap.size wA)
  clear hall hcho hMM hC hok hN hBl hck how hpol hst hr hnv hs hc
  go_cut [13, 14] (fun v1 v2 wx => ∃ b13, v1 = .pointer (some ⟨b13, 0, none⟩) ∧ v2 = .int .i64 5 ∧ wA.heap.size ≤ b13 ∧ Below wA.heap.size wA wx ∧ Blk wx b13 220 [.int .i64 0, .int .i64 (st : Int), .int .i64 nx])
  case first =>
    go_region_held3 (fun w' => w'.cell? ⟨S.m, 0, none⟩ = some (.int .i64 S.t.N) ∧ w'.cell? ⟨S.m, 1, none⟩ = some (.int .i64 S.t.F) ∧ w'.cell? ⟨S.m, 2, none⟩ = some (.slice S.t.ca S.t.cs.length S.t.cc) ∧ w'.cell? ⟨S.m, 3, none⟩ = some (.slice S.t.da S.t.ds.length S.t.dc) ∧ w'.cell? ⟨S.m, 5, none⟩ = some (.pointer (some ⟨S.h, 0, none⟩)) ∧ w'.cell? ⟨bx, 0, none⟩ = some (.int .i64 m) ∧ w'.cell? ⟨bx, 1, none⟩ = some (.int .u8 (s : Int)) ∧ w'.cell? ⟨bx, 2, none⟩ = some (.int .i64 pn) ∧ w'.cell? ⟨c.b, 4, none⟩ = some (.int .i64 c.cur))
      (first | exact keep9 (w := wA) (by (repeat (first | exact Below.refl _ _ | assumption | with_reducible refine bel_alloc ?_ _ | with_reducible refine bel_drewN ?_ _ | with_reducible refine bel_drew ?_ | with_reducible refine bel_setc ?_ _ (by omega)))) ⟨m0, m1, m2, m3, m5, j0, j1, j2, c4⟩)
      (first
        | (go_at_call 115; refine (HC.out _ (hT5.below (by (repeat (first | exact Below.refl _ _ | assumption | with_reducible refine bel_alloc ?_ _ | with_reducible refine bel_drewN ?_ _ | with_reducible refine bel_drew ?_ | with_reducible refine bel_setc ?_ _ (by omega))))) q mc (hI5.below (by (repeat (first | exact Below.refl _ _ | assumption | with_reducible refine bel_alloc ?_ _ | with_reducible refine bel_drewN ?_ _ | with_reducible refine bel_drew ?_ | with_reducible refine bel_setc ?_ _ (by omega)))))).mono ?_; rintro e w6 ⟨rfl, hBz⟩; have hB56 : Below w5.heap.size w5 w6 := bel_trans (by (repeat (first | exact Below.refl _ _ | assumption | with_reducible refine bel_alloc ?_ _ | with_reducible refine bel_drewN ?_ _ | with_reducible refine bel_drew ?_ | with_reducible refine bel_setc ?_ _ (by omega)))) hBz; have hB6 : Below wA.heap.size wA w6 := bel_trans hB5 hB56; have hs6 := hB6.size; (try have z5 := (Blk.new w5 220 [.int .i64 0, .int .i64 0, .int .i64 0]).below (by first | exact hBz | exact bel_trans (bel_drew (Below.refl _ _)) hBz)); (try have z1 := z0.below hB56); (try have y0 := z5.at_ (i := 0) rfl); (try have y1 := z5.at_ (i := 1) rfl); (try have y2 := z5.at_ (i := 2) rfl); (try have g0 := z5.frozen 0); (try have g1 := z5.frozen 1); (try have g2 := z5.frozen 2); (try have x0 := z1.at_ (i := 0) rfl); (try have x1 := z1.at_ (i := 1) rfl); (try have x2 := z1.at_ (i := 2) rfl); (try have v0 := z1.frozen 0); (try have v1 := z1.frozen 1); (try have v2 := z1.frozen 2))
        | (go_at_call 116; refine (HA.out _ (by (repeat (first | exact Below.refl _ _ | assumption | with_reducible refine bel_alloc ?_ _ | with_reducible refine bel_drewN ?_ _ | with_reducible refine bel_drew ?_ | with_reducible refine bel_setc ?_ _ (by omega))))).mono ?_; rintro e w5 ⟨q, mc, rfl, hI5, hBy⟩; have hB5 : Below wA.heap.size wA w5 := bel_trans (by (repeat (first | exact Below.refl _ _ | assumption | with_reducible refine bel_alloc ?_ _ | with_reducible refine bel_drewN ?_ _ | with_reducible refine bel_drew ?_ | with_reducible refine bel_setc ?_ _ (by omega)))) hBy; have hT5 := (M_topo (HM.out.below hB5)).inT; have hs5 := hB5.size; (try have z0 := (Blk.new wA 220 [.int .i64 0, .int .i64 0, .int .i64 0]).below (by first | exact hBy | exact bel_trans (bel_drew (Below.refl _ _)) hBy))))
    all_goals
      go_wp2_with fail
      go_meet
      refine ⟨_, rfl, rfl, by first | exact hs6 | exact hs5 | exact Nat.le_refl _, by (repeat (first | exact Below.refl _ _ | assumption | with_reducible refine bel_alloc ?_ _ | with_reducible refine bel_drewN ?_ _ | with_reducible refine bel_drew ?_ | with_reducible refine bel_setc ?_ _ (by omega))), ?_⟩
      first
        | exact ((z1.set_ 0 _).set_ 1 _).set_ 2 _
        | exact ((z5.set_ 0 _).set_ 1 _).set_ 2 _
        | exact Blk.new w6 220 [.int .i64 0, .int .i64 (st : Int), .int .i64 nx]
        | exact (((Blk.new w6 220 [.int .i64 0, .int .i64 0, .int .i64 0]).set_ 0 _).set_ 1 _).set_ 2 _
  case rest =>
    obtain ⟨b13, rfl, rfl, hb13, hBx, hblk⟩ := hcut
    have M1 := HM.out.below hBx
    have hcp := M_cpu M1 HCP.out
    have hbx1 := HBX.out.below hBx
    have r4 := hcp.st.at_ (i := 4) rfl
    have f4 := hcp.st.frozen 4
    have hst4 := hcp.st.set_ 4 (.int .i64 nx)
    have hch4 : Ch [c.b] wc (wc.setCell ⟨c.b, 4, none⟩ (.int .i64 nx)) := (Ch.refl [c.b] wc).set (p := ⟨c.b, 4, none⟩) (by simp) _
    have M2 := M_setcpu M1 HCP.out (c' := { c with cur := nx }) rfl rfl hch4 hst4 (hcp.st.ne_ hcp.ca.st (by decide))
    have hne1 : b13 ∉ [c.b] := by have := hblk.ne_ hcp.st (by decide); simpa using this
    have hne2 : bx ∉ [c.b] := by have := hbx1.ne_ hcp.st (by decide); simpa using this
    have hblk2 := hblk.ch hch4 hne1
    have hbx2 := hbx1.ch hch4 hne2
    have q2 := hblk.at_ (i := 2) rfl
    have HCF := Lib.hid ((HCA.out.trans (Ch.below hBx [c.b])).trans hch4)
    have HM2 := Lib.hid M2; have HBK := Lib.hid hblk2; have HBX2 := Lib.hid hbx2
    clear m0 m1 m2 m3 m5 j0 j1 j2 c4 HA HC HB0 HM HBX M1 M2 hcp hbx1 hst4 hch4 hblk hblk2 hbx2 hBx hne1 hne2
    clear HBK HBX2
    go_wp2_with fail
    exact bodyPost_ret (v := .tuple #[.int .i64 0, .int .i64 0, .int .i64 5]) (by simp [results, Tryz.results85, go_sem]) rfl ⟨rfl, HM2.out, HCF.out⟩
end
end Go.Proofs.YtjdbedoabcbeeaaGreatDoor
/- The cache of empty lists: Flush, All. -/
namespace Go.Proofs.YtjdbedoabcbeeaaGreatDoor
open Go.RowKit
set_option linter.unusedVariables false
set_option linter.unusedSimpArgs false
attribute [local go_sem] World.cell?_alloc_lt

set_option maxRecDepth 100000 in
theorem del_nil (w : World) : Calls Tryz.prog 169 #[.slice none 0 0, .int .i64 0, .int .i64 0] w fun e w' => e = .returned (.slice none 0 0) ∧ w = w' := by
  go_enter Tryz.func169, Tryz.ntmps169
  go_wp2_with fail
  go_ret
  exact ⟨rfl, rfl⟩
theorem rep_set (k : Nat) : (List.replicate 4 (Value.slice none 0 0)).set k (.slice none 0 0) = List.replicate 4 (Value.slice none 0 0) := by
  apply List.ext_getElem?
  intro i
  rw [List.getElem?_set]
  split
  · next h =>
    subst h
    split
    · next h => rw [List.getElem?_replicate, if_pos (by simpa using h)]
    · next h => rw [List.getElem?_replicate, if_neg (by simpa using h)]
  · rfl
theorem ca_flush0 (q k : Nat) (hk : k < 4) (w : World) (hB : Blk w q 120 (List.replicate 4 (.slice none 0 0))) :
    Calls Tryz.prog 135 #[.pointer (some ⟨q, 0, none⟩), .int .i64 (k : Int), .int .i64 8] w fun e w' => e = .returned (.slice none 0 0) ∧ Blk w' q 120 (List.replicate 4 (.slice none 0 0)) ∧ Ch [q] w w' := by
  have k0 : w.cell? ⟨q, k, none⟩ = some (.slice none 0 0) := hB.at_ (by rw [List.getElem?_replicate, if_pos hk])
  have f0 := hB.frozen k
  have hs := hB.set_ k (.slice none 0 0)
  rw [rep_set] at hs
  have hc : Ch [q] w (w.setCell ⟨q, k, none⟩ (.slice none 0 0)) := (Ch.refl [q] w).set (p := ⟨q, k, none⟩) (by simp) _
  have hl := ca_list q k hk w
  have HL := Lib.hid hl; have HS := Lib.hid hs; have HC := Lib.hid hc
  clear hB hs hc hl
  go_enter Tryz.func135, Tryz.ntmps135
  go_wp2_with fail
  refine HL.out.mono ?_; rintro e w1 ⟨rfl, rfl⟩
  clear HL
  go_wp2_with fail
  refine (cloneI_nil w).mono ?_; rintro e w1 ⟨rfl, rfl⟩
  go_wp2_with fail
  refine (del_nil w).mono ?_; rintro e w1 ⟨rfl, rfl⟩
  go_wp2_with fail
  go_ret
  exact ⟨rfl, HS.out, HC.out⟩
theorem ca_all0 (q : Nat) (w : World) (hB : Blk w q 120 (List.replicate 4 (.slice none 0 0))) :
    Calls Tryz.prog 109 #[.pointer (some ⟨q, 0, none⟩)] w fun e w' => e = .returned (.slice none 0 0) ∧ Blk w' q 120 (List.replicate 4 (.slice none 0 0)) ∧ Ch [q] w w' := by
  have HB := Lib.hid hB
  clear hB
  go_enter Tryz.func109, Tryz.ntmps109
  go_wp2_with fail
  go_loopw [3, 5] (fun v3 v5 wr => ∃ k : Nat, k ≤ 4 ∧ v3 = .slice none 0 0 ∧ v5 = .int .i64 (k : Int) ∧ Blk wr q 120 (List.replicate 4 (.slice none 0 0)) ∧ Ch [q] w wr) (fun _ v _ => 4 - (intOf v).toNat)
  case atStart => exact ⟨0, by omega, rfl, rfl, HB.out, Ch.refl _ _⟩
  case round =>
    clear HB
    obtain ⟨k, hk, rfl, rfl, hB, hC⟩ := hrel
    by_cases hlt : k < 4
    · have hf := ca_flush0 q k hlt wr hB
      have HF := Lib.hid hf; have HC := Lib.hid hC
      clear hf hB hC
      go_wp2_with fail
      refine HF.out.mono ?_; rintro e w1 ⟨rfl, hB1, hC1⟩
      have HB1 := Lib.hid hB1; have HC1 := Lib.hid (HC.out.trans hC1)
      clear hB1 hC1 HF HC
      go_wp2_with fail
      go_roundw
      case rel => exact ⟨k + 1, by omega, rfl, by go_num, HB1.out, HC1.out⟩
      case measure => simp [intOf]; omega
    · obtain rfl : k = 4 := by omega
      have HB1 := Lib.hid hB; have HC1 := Lib.hid hC
      clear hB hC
      go_wp2_with fail
      go_ret
      exact ⟨rfl, HB1.out, HC1.out⟩
end Go.Proofs.YtjdbedoabcbeeaaGreatDoor
/- The machine's Flush of an empty cache. -/
namespace Go.Proofs.YtjdbedoabcbeeaaGreatDoor
open Go.RowKit
set_option linter.unusedVariables false
set_option linter.unusedSimpArgs false
attribute [local go_sem] World.cell?_alloc_lt

theorem backs_nil (m : Value) (w : World) : Calls Tryz.prog 108 #[m, .slice none 0 0] w fun e w' => e = .returned (.int .i64 0) ∧ w = w' := by
  go_enter Tryz.func108, Tryz.ntmps108
  go_wp2_with fail
  go_loopw [9] (fun v wr => v = .int .i64 0 ∧ wr = w) (fun _ _ => 0)
  case atStart => exact ⟨rfl, rfl⟩
  case round =>
    obtain ⟨rfl, rfl⟩ := hrel
    go_wp2_with fail
    go_ret
    exact ⟨rfl, rfl⟩
section
variable {w0 w : World} {S : MSt}
theorem ma_flush (H : Mach w0 w (mparts w0.heap.size S)) (i : Nat) (c : CpuR) (hc : S.cpus[i]? = some c) :
    Calls Tryz.prog 80 #[ptr S.m, .int .i64 (i : Int)] w fun e w' => e = .returned (.tuple #[.int .i64 0, .int .i64 0]) ∧ Mach w0 w' (mparts w0.heap.size S) ∧ Ch [c.q] w w' := by
  have hcp := ma_cpu H i c hc
  have hcu := M_cpu H hc
  have k5 := hcu.st.at_ (i := 5) rfl
  have hal := ca_all0 c.q w hcu.ca.st
  have hne := hcu.st.ne_ hcu.ca.st (by decide)
  have HCP := Lib.hid hcp; have HAL := Lib.hid hal; have HM := Lib.hid H; have HC := Lib.hid hc; have HCU := Lib.hid hcu; have HNE := Lib.hid hne
  clear hcp hcu hal H hc hne
  unfold ptr at *
  go_enter Tryz.func80, Tryz.ntmps80
  go_wp2_with fail
  refine HCP.out.mono ?_; rintro e w1 ⟨rfl, rfl⟩
  clear HCP
  go_wp2_with fail
  refine HAL.out.mono ?_; rintro e w1 ⟨rfl, hB1, hC1⟩
  have hF : Four w1 w0.heap.size 120 c.q (List.replicate 4 (.slice none 0 0)) (fun _ => []) := ⟨hB1, HCU.out.ca.ln, fun k v hv => own_chV (HCU.out.ca.row k v hv) hC1 (fun g hg => by
    have hm := List.mem_of_getElem? hv
    rw [List.mem_replicate] at hm
    rw [hm.2] at hg
    cases hg), HCU.out.ca.ap, HCU.out.ca.gb, HCU.out.ca.nt, HCU.out.ca.mx⟩
  have hst : Blk w1 c.b 72 _ := HCU.out.st.ch hC1 (by simpa using HNE.out)
  have M1 := HM.out.upd (mparts_cpu _ S HC.out) (p' := cpuR w0.heap.size c) (hC1.mono (by intro x hx; rw [List.mem_singleton] at hx; subst hx; show c.q ∈ [c.b, c.q]; simp)) ⟨hst, hF⟩ (fun x hx => Or.inl hx)
  have M2 : Mach w0 w1 (mparts w0.heap.size S) := by
    have e := mparts_setcpu w0.heap.size S HC.out (c' := c) rfl
    rw [e] at M1
    have e2 : S.cpus.set i c = S.cpus := by
      have hl := (List.getElem?_eq_some_iff.1 HC.out).1
      have e3 := (List.getElem?_eq_some_iff.1 HC.out).2
      rw [← e3, List.set_getElem_self]
    rw [e2] at M1
    exact M1
  have HM2 := Lib.hid M2
  have HCC := Lib.hid hC1
  clear M1 M2 hst hF hB1 hC1 HAL HM HCU
  go_wp2_with fail
  refine (backs_nil _ w1).mono ?_; rintro e w2 ⟨rfl, rfl⟩
  go_wp2_with fail
  go_ret2
  exact ⟨rfl, HM2.out, HCC.out⟩
theorem ma_release (H : Mach w0 w (mparts w0.heap.size S)) :
    Calls Tryz.prog 81 #[ptr S.m] w fun e w' => e = .returned (.int .i64 0) ∧ Mach w0 w' (mparts w0.heap.size S) ∧ Below w.heap.size w w' := by
  have hMM := M_mac H
  have m11 : w.cell? ⟨S.m, 11, none⟩ = some (.map (some S.bs)) := hMM.at_ (i := 11) rfl
  obtain ⟨o, hrg, hi0⟩ := (M_spans H).run_range (P := Tryz.prog) Tryz.underlying59
  have hnx := hi0.next_nil (P := Tryz.prog)
  have HM := Lib.hid (H.below (bel_alloc (Below.refl _ _) o))
  clear H hMM hi0
  unfold ptr at *
  go_enter Tryz.func81, Tryz.ntmps81
  go_wp2_with fail
  clear m11 hrg
  go_loopw [3] (fun v wr => v = .int .i64 0 ∧ wr = w.alloc o) (fun _ _ => 0)
  case atStart => exact ⟨rfl, rfl⟩
  case round =>
    obtain ⟨rfl, rfl⟩ := hrel
    go_wp2_with fail
    go_ret
    exact ⟨rfl, HM.out, bel_alloc (Below.refl _ _) o⟩
theorem ma_relieve (H : Mach w0 w (mparts w0.heap.size S)) (i : Nat) (c : CpuR) (hc : S.cpus[i]? = some c) :
    Calls Tryz.prog 57 #[ptr S.m, .int .i64 (i : Int)] w fun e w' => e = .returned (.tuple #[]) ∧ Mach w0 w' (mparts w0.heap.size S) ∧ Ch [c.q] w w' := by
  have hf := ma_flush H i c hc
  have HF := Lib.hid hf
  clear hf H
  unfold ptr at *
  go_enter Tryz.func57, Tryz.ntmps57
  go_wp2_with fail
  refine HF.out.mono ?_; rintro e w1 ⟨rfl, M1, hC1⟩
  have HC1 := Lib.hid hC1
  have hr := ma_release M1
  have HR := Lib.hid hr
  clear hr M1 HF hC1
  unfold ptr at *
  go_wp2_with fail
  refine HR.out.mono ?_; rintro e w2 ⟨rfl, M2, hB2⟩
  have HM2 := Lib.hid M2
  have HC2 := Lib.hid (HC1.out.trans (Ch.below hB2 _))
  clear M2 HR hB2
  go_wp2_with fail
  go_end0
  exact ⟨rfl, HM2.out, HC2.out⟩
end
end Go.Proofs.YtjdbedoabcbeeaaGreatDoor
/- The machine's touch of a page that is not mapped, where no node has room. -/
namespace Go.Proofs.YtjdbedoabcbeeaaGreatDoor
open Go.RowKit
set_option linter.unusedVariables false
set_option linter.unusedSimpArgs false
attribute [local go_sem] World.cell?_alloc_lt

section
variable {w0 w : World} {S : MSt}
set_option maxRecDepth 100000 in
set_option maxHeartbeats 2000000 in
theorem ma_touch_no {mm : Nat} (H : Mach w0 w (mparts w0.heap.size S)) (hok : FrOk S.each mm) (hBl : S.B.length = S.N) (hN : S.t.N = (S.N : Int)) (hck : chkT S.t = 0) (i : Nat) (c : CpuR) (hc : S.cpus[i]? = some c) (own : Nat) (how : S.t.cs[i]? = some (own : Int))
    (s : Nat) (hs : s < 256) (hcs : c.s = (s : Int)) (hpol : chk c.m s c.pn S.t.N = 0) (st : Nat) (hst : startN c.m s c.pn (own : Int) c.cur = ((st : Int), c.cur)) (r : RowV) (hr : S.t.ds[st]? = some r) (hnv : nearV (withL (permN c.m s S.t.N) r.zs) (maysL S.N S.each S.ct S.mn S.N) = (0, false))
    (p : Nat) (hp : p < 4096) (hpf : S.pf (p : Int) = none) (hmt : mget S.mt (p : Int) = none) :
    Calls Tryz.prog 61 #[ptr S.m, .int .i64 (i : Int), ptr c.b, .int .i64 (p : Int)] w fun e w' => e = .returned (.int .i64 5) ∧ Mach w0 w' (mparts w0.heap.size S) := by
  have hset : S.cpus.set i { c with cur := c.cur } = S.cpus := by
    have hl := (List.getElem?_eq_some_iff.1 hc).1
    have e3 := (List.getElem?_eq_some_iff.1 hc).2
    show S.cpus.set i c = S.cpus
    rw [← e3, List.set_getElem_self]
  have hacq := fun W (hM : Mach w0 W (mparts w0.heap.size S)) => ma_acquire_no hM hok hBl hN hck i c hc own how c.m s hs c.pn hpol st c.cur hst r hr hnv
  rw [hset] at hacq
  have hMM := M_mac H
  have m4 : w.cell? ⟨S.m, 4, none⟩ = some (.pointer (some ⟨S.mb, 0, none⟩)) := hMM.at_ (i := 4) rfl
  have m7 : w.cell? ⟨S.m, 7, none⟩ = some (.pointer (some ⟨S.gb, 0, none⟩)) := hMM.at_ (i := 7) rfl
  have hfr := me_frame _ _ _ _ _ _ _ _ _ _ _ w (M_mem H) (p : Int)
  rw [hmt] at hfr
  simp only [Option.getD_none, Option.isSome_none] at hfr
  have hbo := bof_none S.gb S.bb (S.N : Int) S.pf (p : Int) w (M_book H) hpf
  have HAC := Lib.hid hacq; have HFR := Lib.hid hfr; have HBO := Lib.hid hbo; have HM := Lib.hid H; have HCP := Lib.hid hc; have HCS := Lib.hid hcs;
  clear hacq hfr hbo H hMM hpf hmt hok hBl hN hck how hpol hst hr hnv hcs hc hs hset
  unfold ptr at *
  go_enter Tryz.func61, Tryz.ntmps61
  go_wp2_with fail
  refine HFR.out.mono ?_; rintro e w1 ⟨rfl, rfl⟩
  clear HFR
  go_wp2_with fail
  refine HBO.out.mono ?_; rintro e w2 ⟨rfl, hB2⟩
  have M2 := HM.out.below hB2
  have hcp := (M_cpu M2 HCP.out).st
  rw [HCS.out] at hcp
  have k1 := hcp.at_ (i := 1) rfl
  have k2 := hcp.at_ (i := 2) rfl
  have k3 := hcp.at_ (i := 3) rfl
  have hlt := hcp.lt
  have hne := Nat.ne_of_lt hlt
  have M3 := M2.below (bel_alloc (Below.refl _ _) (.cells #[.int .i64 c.m, .int .u8 (s : Int), .int .i64 c.pn] 38))
  have HB11 := Lib.hid (Blk.new w2 38 [.int .i64 c.m, .int .u8 (s : Int), .int .i64 c.pn])
  have HNE := Lib.hid hne
  have HM3 := Lib.hid M3
  clear M2 M3 hcp hB2 HBO HM m4 m7
  go_wp2_with fail
  refine (HAC.out _ (by first | exact HM3.out | exact HM3.out.below (by repeat (first | exact Below.refl _ _ | assumption | with_reducible refine bel_alloc ?_ _ | with_reducible refine bel_drewN ?_ _ | with_reducible refine bel_drew ?_)))).mono ?_; rintro e w4 ⟨rfl, M4, hC4⟩
  have hb4 := HB11.out.ch hC4 (by have := Ne.symm HNE.out; simpa using this)
  have hrl := ma_relieve M4 i c HCP.out
  have hnq := hb4.ne_ (M_cpu M4 HCP.out).ca.st (by decide)
  have HRL := Lib.hid hrl; have HB4 := Lib.hid hb4; have HNQ := Lib.hid hnq
  clear hrl hb4 hnq M4 hC4 HB11 HM3 HNE k1 k2 k3 hlt hne
  unfold ptr at *
  go_wp2_with fail
  refine HRL.out.mono ?_; rintro e w5 ⟨rfl, M5, hC5⟩
  have hb5 := HB4.out.ch hC5 (by simpa using HNQ.out)
  have z0 := hb5.at_ (i := 0) rfl
  have z1 := hb5.at_ (i := 1) rfl
  have z2 := hb5.at_ (i := 2) rfl
  have HM5 := Lib.hid M5
  clear hb5 M5 hC5 HRL HB4 HNQ
  go_wp2_with fail
  refine (HAC.out _ HM5.out).mono ?_; rintro e w6 ⟨rfl, M6, hC6⟩
  have HM6 := Lib.hid M6
  clear M6 hC6 HM5 HAC z0 z1 z2
  go_wp2_with fail
  go_ret
  exact ⟨rfl, HM6.out⟩
end
end Go.Proofs.YtjdbedoabcbeeaaGreatDoor
/- The machine's reach and Write of one page, where touch answers 5. -/
namespace Go.Proofs.YtjdbedoabcbeeaaGreatDoor
open Go.RowKit
set_option linter.unusedVariables false
set_option linter.unusedSimpArgs false
attribute [local go_sem] World.cell?_alloc_lt

section
variable {w0 w : World} {S : MSt}
set_option maxRecDepth 100000 in
set_option maxHeartbeats 1000000 in
theorem ma_reach_no (H : Mach w0 w (mparts w0.heap.size S)) (i : Nat) (c : CpuR) (hc : S.cpus[i]? = some c) (k x n : Nat) (hk : k ≤ 5000) (ha : mget S.live (64 * (k : Int)) = some (.int .i64 (n : Int))) (hx : 64 * x < n) (hn : n ≤ 100000) (Q : World → Prop)
    (hT : Calls Tryz.prog 61 #[ptr S.m, .int .i64 (i : Int), ptr c.b, .int .i64 ((k + x : Nat) : Int)] w fun e w' => e = .returned (.int .i64 5) ∧ Q w') :
    Calls Tryz.prog 31 #[ptr S.m, .int .i64 (i : Int), .int .i64 (64 * (k : Int)), .int .i64 (64 * (x : Int)), .int .i64 1] w fun e w' => e = .returned (.int .i64 5) ∧ Q w' := by
  have hcp := ma_cpu H i c hc
  have hob := ma_object H (64 * (k : Int)) (n : Int) ha
  have e1 : ((64 * (x : Int)) < 0) = False := by simp; omega
  have e2 : ((n : Int) < 64 * (x : Int)) = False := by simp; omega
  have e3 : ((n : Int) - 64 * (x : Int) < 1) = False := by simp; omega
  have d1 : (64 * (k : Int) + 64 * (x : Int)).tdiv 64 = ((k + x : Nat) : Int) := by rw [Int.tdiv_eq_ediv_of_nonneg (by omega)]; omega
  have d2 : (64 * (k : Int) + 64 * (x : Int) + 1 - 1).tdiv 64 = ((k + x : Nat) : Int) := by rw [Int.tdiv_eq_ediv_of_nonneg (by omega)]; omega
  obtain ⟨p, hp⟩ : ∃ p, k + x = p := ⟨_, rfl⟩
  rw [hp] at hT d1 d2
  have hp2 : p ≤ 200000 := by omega
  have HCP := Lib.hid hcp; have HOB := Lib.hid hob; have HT := Lib.hid hT
  clear hcp hob hT H hc ha hp
  unfold ptr at *
  go_enter Tryz.func31, Tryz.ntmps31
  go_wp2_with fail
  refine HCP.out.mono ?_; rintro e w1 ⟨rfl, rfl⟩
  clear HCP
  go_wp2_with fail
  refine HOB.out.mono ?_; rintro e w1 ⟨rfl, rfl⟩
  clear HOB
  go_wp2_with fail
  clear e1 e2 e3
  go_loopw [14] (fun v wr => v = .int .i64 (p : Int) ∧ wr = w) (fun v _ => p + 1 - (intOf v).toNat)
  case atStart => exact ⟨rfl, rfl⟩
  case round =>
    obtain ⟨rfl, rfl⟩ := hrel
    · go_wp2_with fail
      refine HT.out.mono ?_; rintro e w1 ⟨rfl, hQ⟩
      have HQ := Lib.hid hQ
      clear hQ HT
      go_wp2_with fail
      go_ret
      exact ⟨rfl, HQ.out⟩
theorem ma_write_no (m : Nat) (i : Nat) (k x : Int) (A : Option Addr) (mc : Nat) (Q : World → Prop)
    (hR : Calls Tryz.prog 31 #[ptr m, .int .i64 (i : Int), .int .i64 k, .int .i64 x, .int .i64 1] w fun e w' => e = .returned (.int .i64 5) ∧ Q w') :
    Calls Tryz.prog 11 #[ptr m, .int .i64 (i : Int), .int .i64 k, .int .i64 x, .slice A 1 mc] w fun e w' => e = .returned (.int .i64 5) ∧ Q w' := by
  have HR := Lib.hid hR
  clear hR
  unfold ptr at *
  go_enter Tryz.func11, Tryz.ntmps11
  go_wp2_with fail
  refine HR.out.mono ?_; rintro e w1 ⟨rfl, hQ⟩
  clear HR
  have HQ := Lib.hid hQ
  clear hQ
  go_wp2_with fail
  go_ret
  exact ⟨rfl, HQ.out⟩
end
end Go.Proofs.YtjdbedoabcbeeaaGreatDoor
