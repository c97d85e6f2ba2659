/- The law MessuageSpreads: pages of a large object that one CPU touches by an Interleave over all nodes stand on them by turns, and each is counted as an interleave: the walk. -/
import Derived.Test.YtjdbedoabcbeeaaGreatDoorUs31
namespace Go.Proofs.YtjdbedoabcbeeaaGreatDoor
open Go.RowKit
set_option linter.unusedVariables false
set_option linter.unusedSimpArgs false
attribute [local go_sem] World.cell?_alloc_lt

theorem page2_bd (y : Int) : ∃ p : Nat, 2 ≤ p ∧ p ≤ 15 ∧ wrap64 (2 + wrap64 ((IntKind.u64.wrap y).tmod 14)) = (p : Int) := by
  have h := umod_bd y 14 (by omega) (by omega)
  generalize wrap64 ((IntKind.u64.wrap y).tmod 14) = q at *
  refine ⟨(2 + q).toNat, by omega, by omega, ?_⟩
  rw [show wrap64 (2 + q) = 2 + q from wrap64_small (by omega) (by omega)]
  omega
set_option maxRecDepth 100000 in
set_option maxHeartbeats 4000000 in
theorem messuageSpreads_walk (x : Int) (_hx : (Lit.int .i64 x).wf = true) (y : Int) (_hy : (Lit.int .i64 y).wf = true) (z : Int) (_hz : (Lit.int .i64 z).wf = true) (w0 : World) (_h : True) : Calls Tryz.prog 3 #[.int .i64 x, .int .i64 y, .int .i64 z] w0 fun e w' => e = .returned (.bool true) ∧ Below w0.heap.size w0 w' := by
  go_enter Tryz.func3, Tryz.ntmps3
  go_upto_region 2 with fail
  have hnb := umod1_bd x 6 (by omega) (by omega)
  generalize hne : wrap64 (1 + wrap64 ((IntKind.u64.wrap x).tmod 6)) = nn at hnb ⊢
  obtain ⟨n, rfl⟩ := Int.eq_ofNat_of_zero_le (show 0 ≤ nn by omega)
  have hn1 : 1 ≤ n := by omega
  have hn6 : n ≤ 6 := by omega
  clear hne hnb
  go_upto_region 3 with fail
  have hkb := umod_bd z (n : Int) (by omega) (by omega)
  generalize hke : wrap64 ((IntKind.u64.wrap z).tmod (n : Int)) = kk at hkb ⊢
  obtain ⟨k, rfl⟩ := Int.eq_ofNat_of_zero_le hkb.1
  have hkn : k < n := by omega
  clear hke hkb
  go_upto_region 4 with fail
  obtain ⟨p, hp2, hp15, hpe⟩ := page2_bd y
  rw [hpe]
  clear hpe
  go_wp2_with fail
  refine (line_top n (by omega) 16 w0).mono ?_; rintro e w1 ⟨t, rfl, hT, hN, hF, hc, hd, hB1⟩
  have hchk := chk_line hn1 (by omega) hN (Or.inl hF) hc hd
  have hnw := new_any n 16 4 frOk16 hn1 (by omega) (by omega) (by omega) 0 0 0 (by omega) (by omega) (by omega) (by omega) t hN hF hchk w1 hT
  have HNW := Lib.hid hnw; have HB1 := Lib.hid hB1; have HCD := Lib.hid (And.intro hN (And.intro hF (And.intro hc hd)))
  clear hnw hB1 hT hN hF hc hd hchk
  go_wp2_with fail
  refine HNW.out.mono ?_; rintro e w2 ⟨S, rfl, hM, a1, a2, a3, a4, a5, a6, a7, a8, a9, a10, a11, a12, a13, a14, a15, a16, a17, a18, a19⟩
  have HM := Lib.hid hM; have HS := Lib.hid (And.intro a1 (And.intro a2 (And.intro a3 (And.intro a6 (And.intro a7 (And.intro a8 (And.intro a9 (And.intro a10 (And.intro a11 (And.intro a12 (And.intro a13 (And.intro a15 (And.intro a17 (And.intro a18 a19))))))))))))))
  clear HNW hM a1 a2 a3 a4 a5 a6 a7 a8 a9 a10 a11 a12 a13 a14 a15 a16 a17 a18 a19
  unfold ptr
  go_wp2_with fail
  refine (stands_any w2).mono ?_; rintro e w3 ⟨rfl, hB3⟩
  have HM3 := Lib.hid (HM.out.below hB3)
  clear hB3 HM
  go_wp2_with fail
  refine (halves_any w3).mono ?_; rintro e w4 ⟨rfl, hB4⟩
  have HM4 := Lib.hid (HM3.out.below hB4)
  clear hB4 HM3
  go_upto_region 7 with fail
  have hCpu : ∃ c : CpuR, S.cpus[k]? = some c ∧ c.nd = (k : Int) ∧ c.cur = 0 := by
    have hfr := HS.out.2.2.2.2.2.2.2.2.2.2.2.2.2.2
    have hcs := HCD.out.2.2.1
    have h1 : (S.cpus.map (·.nd))[k]? = some (k : Int) := by rw [hfr.1, hcs]; exact idL_at hkn
    rw [List.getElem?_map] at h1
    cases hc : S.cpus[k]? with
    | none => rw [hc] at h1; cases h1
    | some c =>
      rw [hc] at h1
      injection h1 with h1
      exact ⟨c, rfl, h1, (hfr.2 c (List.mem_of_getElem? hc)).2.2.2⟩
  obtain ⟨c, hcp, hcn, hcc⟩ := hCpu
  have hsN : S.t.N = (n : Int) := HS.out.2.2.2.2.2.1.trans HCD.out.1
  have hpo := fun w hM => ma_policy (w0 := w1) (w := w) (S := S) hM k c hcp 2 (2 ^ n - 1) (spread_set7 ⟨n, by omega⟩) 0 (by rw [hsN]; exact spread_chk hn1 hn6)
  have hshl : ((2 : Int) ^ n - 1) % 256 = ((2 ^ n - 1 : Nat) : Int) := shl_set7 ⟨n, by omega⟩
  have HSH := Lib.hid hshl
  have HPO := Lib.hid hpo; have HCP := Lib.hid hcp; have HCN := Lib.hid hcn; have HCC := Lib.hid hcc; have HSN := Lib.hid hsN
  clear hpo hcp hcn hcc hsN hshl
  unfold ptr at HPO
  go_wp2_with fail
  rw [HSH.out]
  refine (HPO.out _ HM4.out).mono ?_; rintro e w5 ⟨rfl, hM5⟩
  have hcp5 : ({ S with cpus := S.cpus.set k { c with m := 2, s := ((2 ^ n - 1 : Nat) : Int), pn := 0 } } : MSt).cpus[k]? = some { c with m := 2, s := ((2 ^ n - 1 : Nat) : Int), pn := 0 } := by
    show (S.cpus.set k _)[k]? = _
    rw [List.getElem?_set_self (List.getElem?_eq_some_iff.1 HCP.out).1]
  have hZ := HS.out.2.2.2.2.2.2.2.2.2.1
  have hma := ma_malloc hM5 k _ hcp5 p hp2 (by omega) (by show 1 + S.Z.sum + p ≤ 4096; rw [hZ]; simp; omega) (by show S.Z.length ≤ 900; rw [hZ]; simp)
  have hz0 := fun A sc => spread_zero (S := S) (n := n) (k := k) (p := p) (c := c) (A := A) (sc := sc) hkn
    (by obtain ⟨b1, b2, b3, b4, b5, b6, b7, b8, b9, b10, b11, b12, b13, b14, _⟩ := HS.out; obtain ⟨d1, d2, d3, d4⟩ := HCD.out; exact ⟨b1, b2, b3, b4, b5, b6.trans d1, b7.trans d2, b8.trans d3, b9.trans d4, b10, b11, b12, b13, b14⟩) HCP.out HCN.out HCC.out
  have hmb : Calls Tryz.prog 10 #[ptr S.m, .int .i64 (k : Int), .int .i64 (64 * (p : Int))] w5 fun e w' => e = .returned (.tuple #[.int .i64 64, .int .i64 0]) ∧ ∃ S' : MSt, Mach w1 w' (mparts w1.heap.size S') ∧ SpI n k S.m p 0 S' := by
    refine hma.mono ?_
    rintro e w' ⟨A', c', rfl, h2⟩
    refine ⟨?_, _, h2, hz0 A' c'⟩
    show Ending.returned (.tuple #[.int .i64 (64 * ((1 + S.Z.sum : Nat) : Int)), .int .i64 0]) = _
    rw [hZ]
    rfl
  have HMB := Lib.hid hmb
  clear hM5 hcp5 hZ hma hz0 hmb HPO HM4 HCP HCN HCC HSN HS HSH
  unfold ptr at HMB
  go_wp2_with fail
  refine HMB.out.mono ?_; rintro e w6 ⟨rfl, S6, hM6, hI6⟩
  have HM6 := Lib.hid hM6; have HI6 := Lib.hid hI6
  clear hM6 hI6 HMB
  generalize S.m = sm at *
  go_wp2_with fail
  go_loopw [15] (fun v wr => ∃ (i : Nat) (S : MSt), i ≤ p ∧ v = .int .i64 (i : Int) ∧ Mach w1 wr (mparts w1.heap.size S) ∧ SpI n k sm p i S) (fun v _ => p - (intOf v).toNat)
  case atStart => exact ⟨0, S6, by omega, rfl, HM6.out, HI6.out⟩
  case round =>
    clear HM6 HI6
    obtain ⟨i, S, hip, rfl, hM, hI⟩ := hrel
    by_cases hlt : i < p
    · have hst := spread_step hM hI hn1 hn6 hkn hlt hp15
      have HST := Lib.hid hst
      clear hst hM hI
      unfold ptr at HST
      go_wp2_with fail
      refine HST.out.mono ?_; rintro e w7 ⟨rfl, S', hM, hI, hmt, h16⟩
      have hnd := ma_node hM 1 i (64 * p) _ (by omega) hI.lv (by omega) (by omega) hmt
      rw [hI.fit.hm, hI.fit.hE, frame_node h16] at hnd
      have hjl : (i + 1) % n < n := Nat.mod_lt _ hn1
      have htm : ((i : Int) + 1).tmod (n : Int) = (((i + 1) % n : Nat) : Int) := by
        rw [Int.tmod_eq_emod_of_nonneg (by omega)]
        push_cast
        rfl
      have HND := Lib.hid hnd; have HM := Lib.hid hM; have HI := Lib.hid hI
      clear hnd hM hI hmt h16 HST
      generalize (i + 1) % n = j at *
      unfold ptr at HND
      rw [show 64 * ((1 : Nat) : Int) = 64 from rfl] at HND
      go_wp2_with fail
      refine HND.out.mono ?_; rintro e w8 ⟨rfl, rfl⟩
      clear HND
      go_wp2_with fail
      go_roundw
      case rel => exact ⟨i + 1, S', by omega, by go_num, HM.out, HI.out⟩
      case measure => simp [intOf]; omega
    · obtain rfl : i = p := by omega
      have hev := hI.ev
      have hln := hI.ln
      have hlg := fun (w' : World) (hM' : Mach w1 w' (mparts w1.heap.size S)) => ma_log hM'
      rw [hI.fit.hm] at hlg
      unfold ptr at hlg
      have hno := fun (q : Nat) (hq : q < n) (w' : World) (hM' : Mach w1 w' (mparts w1.heap.size S)) => node_yes w1.heap.size S.gl S.bc S.N S.lc S.lA S.evs q w' (M_log hM') (by rw [hI.fit.hN]; exact hq)
      have hus := upto_all S.evs n (fun x hx => (hev x hx).2.2)
      rw [hln] at hus
      have HLG := Lib.hid hlg; have HNO := Lib.hid hno; have HM := Lib.hid hM; have HEV := Lib.hid hev; have HUS := Lib.hid hus; have HLN := Lib.hid hln
      clear hlg hno hM hev hus hln hI
      go_wp2_with fail
      go_loopw [18, 19] (fun v18 v19 wx => ∃ q : Nat, q ≤ n ∧ v19 = .int .i64 (q : Int) ∧ v18 = .int .i64 (upto S.evs q : Int) ∧ Mach w1 wx (mparts w1.heap.size S)) (fun _ v _ => n - (intOf v).toNat)
      case atStart => exact ⟨0, by omega, rfl, by rw [upto_zero]; rfl, HM.out⟩
      case round =>
        clear HM
        obtain ⟨q, hqn, rfl, rfl, hM⟩ := hrel
        by_cases hlq : q < n
        · obtain ⟨e0, e1, e2, e5⟩ := spread_counts HEV.out (q : Int)
          have hsu := upto_succ S.evs q
          rw [← e5] at hsu
          have hub : upto S.evs q + cc S.evs (q : Int) 5 ≤ 15 := by
            have : upto S.evs (q + 1) ≤ S.evs.length := List.countP_le_length
            have := HLN.out
            omega
          have hnq := HNO.out q hlq
          unfold cntV at hnq
          rw [e0, e1, e2] at hnq
          have HSU := Lib.hid hsu; have HM := Lib.hid hM; have HNQ := Lib.hid hnq
          clear e0 e1 e2 e5 hsu hM hnq
          generalize cc S.evs (q : Int) 5 = c5 at *
          generalize cc S.evs (q : Int) 3 = c3 at *
          generalize cc S.evs (q : Int) 4 = c4 at *
          generalize upto S.evs q = uq at *
          go_wp2_with fail
          refine (HLG.out _ HM.out).mono ?_; rintro e w9 ⟨rfl, rfl⟩
          go_wp2_with fail
          refine (HNQ.out _ HM.out).mono ?_; rintro e w10 ⟨rfl, hB10⟩
          have HM10 := Lib.hid (HM.out.below (bel_alloc hB10 (.cells #[.int .i64 (c5 : Int), .int .i64 ((0 : Nat) : Int), .int .i64 ((0 : Nat) : Int), .int .i64 (c3 : Int), .int .i64 (c4 : Int), .int .i64 (c5 : Int)] 44)))
          clear hB10 HNQ HM
          go_wp2_with fail
          go_roundw
          case rel => exact ⟨q + 1, by omega, by go_num, by rw [HSU.out]; push_cast; rfl, HM10.out⟩
          case measure => simp [intOf]; omega
        · obtain rfl : q = n := by omega
          have h1 := HUS.out
          rw [h1]
          have HB := Lib.hid (bel_trans HB1.out hM.bel)
          clear h1 hM
          go_wp2_with fail
          go_ret
          exact ⟨rfl, HB.out⟩
end Go.Proofs.YtjdbedoabcbeeaaGreatDoor
