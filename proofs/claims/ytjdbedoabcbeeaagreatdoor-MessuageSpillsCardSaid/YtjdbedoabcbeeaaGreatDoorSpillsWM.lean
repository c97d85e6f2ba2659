/- The law MessuageSpills: a CPU whose policy is Preferred of a node fills it, and then the nearest ones, one behind the other; when none may, its writes are told ErrNoMem, and what was written is there still: the walk. -/
import Derived.Test.YtjdbedoabcbeeaaGreatDoorUt1
import Derived.Test.YtjdbedoabcbeeaaGreatDoorUs30
namespace Go.Proofs.YtjdbedoabcbeeaaGreatDoor
open Go.RowKit
set_option linter.unusedVariables false
set_option linter.unusedSimpArgs false
attribute [local go_sem] World.cell?_alloc_lt

theorem nodes2_bd (y : Int) : ∃ n : Nat, 2 ≤ n ∧ n ≤ 4 ∧ wrap64 (2 + wrap64 ((IntKind.u64.wrap y).tmod 3)) = (n : Int) := by
  have h := umod_bd y 3 (by omega) (by omega)
  generalize wrap64 ((IntKind.u64.wrap y).tmod 3) = q at *
  refine ⟨(2 + q).toNat, by omega, by omega, ?_⟩
  rw [show wrap64 (2 + q) = 2 + q from wrap64_small (by omega) (by omega)]
  omega
set_option maxRecDepth 100000 in
set_option maxHeartbeats 4000000 in
theorem messuageSpills_walk (x : Int) (_hx : (Lit.int .i64 x).wf = true) (y : Int) (_hy : (Lit.int .i64 y).wf = true) (z : Int) (_hz : (Lit.int .i64 z).wf = true) (w0 : World) (_h : True) : Calls Tryz.prog 4 #[.int .i64 x, .int .i64 y, .int .i64 z] w0 fun e w' => e = .returned (.bool true) ∧ Below w0.heap.size w0 w' := by
  go_enter Tryz.func4, Tryz.ntmps4
  go_upto_region 2 with fail
  obtain ⟨n, hn2, hn4, hne⟩ := nodes2_bd x
  rw [hne]
  clear hne
  go_quiet (fail)
  have hB0 : Below w0.heap.size w0 (w0.drewN nq) := bel_drewN (Below.refl _ _) nq
  have hab := umod_bd y (n : Int) (by omega) (by omega)
  generalize hae : wrap64 ((IntKind.u64.wrap y).tmod (n : Int)) = aa at hab ⊢
  obtain ⟨at_, rfl⟩ := Int.eq_ofNat_of_zero_le hab.1
  have hat : at_ < n := by omega
  clear hae hab
  have hkb := umod_bd z (n : Int) (by omega) (by omega)
  generalize hke : wrap64 ((IntKind.u64.wrap z).tmod (n : Int)) = kk at hkb ⊢
  obtain ⟨k, rfl⟩ := Int.eq_ofNat_of_zero_le hkb.1
  have hkn : k < n := by omega
  clear hke hkb
  go_wp2_with fail
  refine (line_top n (by omega) 8 _).mono ?_; rintro e w1 ⟨t, rfl, hT, hN, hF, hc, hd, hB1⟩
  have hchk := chk_line (by omega) (by omega) hN (Or.inr hF) hc hd
  have hnw := new_any n 8 3 frOk8 (by omega) (by omega) (by omega) (by omega) 1 1 1 (by omega) (by omega) (by omega) (by omega) t hN hF hchk w1 hT
  have HNW := Lib.hid hnw; have HB1 := Lib.hid (bel_trans hB0 hB1); have HCD := Lib.hid (And.intro hN (And.intro hF (And.intro hc hd)))
  clear hnw hB0 hB1 hT hN hF hc hd hchk
  go_wp2_with fail
  refine HNW.out.mono ?_; rintro e w2 ⟨S, rfl, hM, a1, a2, a3, a4, a5, a6, a7, a8, a9, a10, a11, a12, a13, a14, a15, a16, a17, a18, a19⟩
  have HM := Lib.hid hM; have HS := Lib.hid (And.intro a1 (And.intro a2 (And.intro a3 (And.intro a6 (And.intro a7 (And.intro a8 (And.intro a9 (And.intro a10 (And.intro a11 (And.intro a12 (And.intro a13 (And.intro a15 (And.intro a17 (And.intro a18 a19))))))))))))))
  clear HNW hM a1 a2 a3 a4 a5 a6 a7 a8 a9 a10 a11 a12 a13 a14 a15 a16 a17 a18 a19
  unfold ptr
  go_wp2_with fail
  refine (stands_any w2).mono ?_; rintro e w3 ⟨rfl, hB3⟩
  have HM3 := Lib.hid (HM.out.below hB3)
  clear hB3 HM
  go_wp2_with fail
  refine (halves_any w3).mono ?_; rintro e w4 ⟨rfl, hB4⟩
  have hM4 := HM3.out.below hB4
  clear hB4 HM3
  have hCpu : ∃ c : CpuR, S.cpus[k]? = some c ∧ c.nd = (k : Int) ∧ c.cur = 0 := by
    have hfr := HS.out.2.2.2.2.2.2.2.2.2.2.2.2.2.2
    have hcs := HCD.out.2.2.1
    have h1 : (S.cpus.map (·.nd))[k]? = some (k : Int) := by rw [hfr.1, hcs]; exact idL_at hkn
    rw [List.getElem?_map] at h1
    cases hc : S.cpus[k]? with
    | none => rw [hc] at h1; cases h1
    | some c =>
      rw [hc] at h1
      injection h1 with h1
      exact ⟨c, rfl, h1, (hfr.2 c (List.mem_of_getElem? hc)).2.2.2⟩
  obtain ⟨c, hcp, hcn, hcc⟩ := hCpu
  have hsN : S.t.N = (n : Int) := HS.out.2.2.2.2.2.1.trans HCD.out.1
  have hpo := ma_policy hM4 k c hcp 3 0 (by omega) (at_ : Int) (by rw [hsN]; exact spill_chk (by omega) (by omega) hat)
  have hz0 := fun E => spm_zero (S := S) (n := n) (at_ := at_) (k := k) (c := c) hkn
    (by obtain ⟨b1, b2, b3, b4, b5, b6, b7, b8, b9, b10, b11, b12, b13, b14, _⟩ := HS.out; obtain ⟨d1, d2, d3, d4⟩ := HCD.out; exact ⟨b1, b2, b3, b4, b5, b6.trans d1, b7.trans d2, b8.trans d3, b9.trans d4, b10, b11, b12, b13, b14⟩) hcp hcn hcc E
  have hpc : Calls Tryz.prog 9 #[ptr S.m, .int .i64 (k : Int), .agg #[.int .i64 3, .int .u8 0, .int .i64 (at_ : Int)]] w4 fun e w' => e = .returned (.int .i64 0) ∧ ∃ S' : MSt, Mach w1 w' (mparts w1.heap.size S') ∧ SpM n at_ k S.m 0 S' ∧ S'.ex = [rowP w1.heap.size 3 1 none 0 0 (addrL 0)] := by
    refine hpo.mono ?_
    rintro e w' ⟨rfl, h2⟩
    have h3 := M_add (M_noex h2) (p := rowP w1.heap.size 3 1 none 0 0 (addrL 0)) (Below.refl _ w') (World.ownsRow_nil _ _ _ _) (fun x hx => by
      have hx : x ∈ ablk none := hx
      simp [ablk] at hx)
    exact ⟨rfl, _, h3, hz0 _, rfl⟩
  have HPC := Lib.hid hpc
  clear hM4 hcp hcn hcc hsN hpo hz0 hpc HS HCD
  unfold ptr at HPC
  generalize S.m = sm at *
  go_wp2_with fail
  refine HPC.out.mono ?_; rintro e w5 ⟨rfl, S5, hM5, hI5, hE5⟩
  have HM5 := Lib.hid hM5; have HI5 := Lib.hid hI5; have HE5 := Lib.hid hE5
  clear hM5 hI5 hE5 HPC
  go_wp2_with fail
  go_loopw [12, 13] (fun v12 v13 wr => ∃ (i : Nat) (S : MSt) (A : Option Addr) (c : Nat), i ≤ 3 ∧ v13 = .int .i64 (i : Int) ∧ v12 = .slice A i c ∧ Mach w1 wr (mparts w1.heap.size S) ∧ SpM n at_ k sm i S ∧ S.ex = [rowP w1.heap.size 3 1 A c i (addrL i)]) (fun _ v _ => 3 - (intOf v).toNat)
  case atStart => exact ⟨0, S5, none, 0, by omega, rfl, rfl, HM5.out, HI5.out, HE5.out⟩
  case round =>
    clear HM5 HI5 HE5
    obtain ⟨i, S, A, c, hi3, rfl, rfl, hM, hI, hE⟩ := hrel
    by_cases hlt : i < 3
    · have hst := spm_step hM hI hlt
      have HST := Lib.hid hst; have HE := Lib.hid hE
      clear hst hM hI hE
      unfold ptr at HST
      go_wp2_with fail
      refine HST.out.mono ?_; rintro e w6 ⟨rfl, S', hM, hI, hE'⟩
      have hex := hE'.trans HE.out
      have hown : w6.ownsRow w1.heap.size 3 1 (.slice A i c) i (addrL i) := M_ex hM (j := 0) (by rw [hex]; rfl)
      obtain ⟨v, hv⟩ : ∃ v : Int, 64 * ((1 + 16 * i : Nat) : Int) = v := ⟨_, rfl⟩
      have hsu := addrL_succ i
      rw [hv] at hsu ⊢
      have HOK := Lib.hid (own_chV hown ((Ch.refl [] w6).alloc (.cells #[.int .i64 v] 3)) (by simp))
      have HBL := Lib.hid (Blk.new w6 3 [.int .i64 v])
      have hsw := hM.bel.size
      have HM := Lib.hid hM; have HI := Lib.hid hI; have HEX := Lib.hid hex; have HSU := Lib.hid hsu
      clear hM hI hE' hex hown hsu HST HE hv
      go_wp2_with (at_builtin; refine wpList_push _ rfl (.tmp 84) (.tmp 86) 27 rfl w1.heap.size 3 (.int .i64 0) 8 Tryz.underlying27 info_intO rfl A i c (addrL i) rfl HOK.out w6.heap.size 1 (.int .i64 v) rfl (HBL.out.at_ rfl) rfl (by omega) (by omega) (by simp; omega) ?_)
      intro gg cap w8 hown8 hgrow8 hat8
      have hp := addr_push HM.out HEX.out hgrow8 (by simpa using hat8) hown8
      rw [← HSU.out] at hp
      have HP := Lib.hid hp
      clear hp hown8 hgrow8 hat8 HOK HBL HM
      go_wp2_with fail
      go_roundw
      case rel => exact ⟨i + 1, _, _, _, by omega, by go_num, rfl, HP.out, HI.out.ex' _, rfl⟩
      case measure => simp [intOf]; omega
    · obtain rfl : i = 3 := by omega
      have HM := Lib.hid hM; have HI := Lib.hid hI; have HE := Lib.hid hE
      clear hM hI hE
      go_wp2_with fail
      refine (line_own n (by omega) 8 wr).mono ?_; rintro e w6 ⟨t2, rfl, hT, hN, hF, hc2, hd, hB6, ho1, ho2, ho3⟩
      have hTT : OwnTT wr.heap.size w6 t2 := ⟨ho1, ho2, ho3⟩
      have hM6 := M_add HM.out (p := topoP w1.heap.size t2) hB6 (tt_base hTT HM.out.bel.size) (fun x hx => (hTT.range x hx).1)
      have hbk := Blk.new w6 30 [.int .i64 t2.N, .int .i64 t2.F, .slice t2.ca t2.cs.length t2.cc, .slice t2.da t2.ds.length t2.dc]
      have hM7 := M_add hM6 (p := blkP w6.heap.size 30 [.int .i64 t2.N, .int .i64 t2.F, .slice t2.ca t2.cs.length t2.cc, .slice t2.da t2.ds.length t2.dc]) (bel_alloc (Below.refl _ w6) (.cells #[.int .i64 t2.N, .int .i64 t2.F, .slice t2.ca t2.cs.length t2.cc, .slice t2.da t2.ds.length t2.dc] 30)) hbk (fun x hx => by
        have hx : x ∈ [w6.heap.size] := hx
        rw [List.mem_singleton] at hx
        omega)
      have hE7 : S.ex ++ [topoP w1.heap.size t2] ++ [blkP w6.heap.size 30 [.int .i64 t2.N, .int .i64 t2.F, .slice t2.ca t2.cs.length t2.cc, .slice t2.da t2.ds.length t2.dc]] = [rowP w1.heap.size 3 1 A c 3 (addrL 3), topoP w1.heap.size t2, blkP w6.heap.size 30 [.int .i64 t2.N, .int .i64 t2.F, .slice t2.ca t2.cs.length t2.cc, .slice t2.da t2.ds.length t2.dc]] := by rw [HE.out]; rfl
      have hI7 := spl_zero (HI.out.ex' (S.ex ++ [topoP w1.heap.size t2] ++ [blkP w6.heap.size 30 [.int .i64 t2.N, .int .i64 t2.F, .slice t2.ca t2.cs.length t2.cc, .slice t2.da t2.ds.length t2.dc]])) hat hn4 hE7
      have hda : t2.ds.length = n := len_line hd
      rw [hda] at hM7 hI7
      have HM7 := Lib.hid hM7; have HI7 := Lib.hid hI7; have HD := Lib.hid hd; have HDA := Lib.hid hda
      clear hT hN hF hc2 hd hB6 ho1 ho2 ho3 hTT hM6 hbk hM7 hE7 hI7 hda HM HI HE
      unfold TopoV.val
      rw [HDA.out]
      go_wp2_with fail
      generalize hE9 : [rowP w1.heap.size 3 1 A c 3 (addrL 3), topoP w1.heap.size t2, blkP w6.heap.size 30 [.int .i64 t2.N, .int .i64 t2.F, .slice t2.ca t2.cs.length t2.cc, .slice t2.da n t2.dc]] = E at *
      have HE9 := Lib.hid hE9
      clear hE9
      go_loopw [17, 18, 19] (fun v17 v18 v19 wx => ∃ (i C : Nat) (z : Int) (S : MSt), i ≤ 48 ∧ C = min i (7 * n) ∧ v19 = .int .i64 (i : Int) ∧ v18 = .int .i64 (C : Int) ∧ v17 = .int .i64 z ∧ Mach w1 wx (mparts w1.heap.size S) ∧ SpL n at_ k sm C E S ∧ ∀ (q : Nat) (x : Int), (C - 1) / 7 ≤ q → (comeL n at_)[q]? = some x → z ≤ farL n at_ x) (fun _ _ v _ => 48 - (intOf v).toNat)
      case atStart => exact ⟨0, 0, 0, _, by omega, by omega, rfl, rfl, rfl, HM7.out, HI7.out, fun q x _ hx => come_pos hat hn4 x (List.mem_of_getElem? hx)⟩
      case round =>
        clear HM7 HI7
        obtain ⟨i, C, z, S, hi48, hC, rfl, rfl, rfl, hM, hI, hz⟩ := hrel
        by_cases hlt : i < 48
        · have hrow : wr.ownsRow w1.heap.size 3 1 (.slice A 3 c) 3 (addrL 3) := M_ex hM (j := 0) (by rw [hI.ex, ← HE9.out]; rfl)
          obtain ⟨ga, hA, hca, hga, _⟩ := own_at hrow (addrL_at (i := 3) (a := i / 16) (by omega))
          subst hA
          have hix := fun w => idx_own ga 3 c (i / 16) (by omega) w
          have d1 : (i : Int).tdiv 16 = ((i / 16 : Nat) : Int) := by rw [Int.tdiv_eq_ediv_of_nonneg (by omega)]; omega
          have d2 : (i : Int).tmod 16 = ((i % 16 : Nat) : Int) := by rw [Int.tmod_eq_emod_of_nonneg (by omega)]; omega
          by_cases hfull : i < 7 * n
          · obtain rfl : C = i := by omega
            have hw := spill_step hM hI (by omega) hn4 hat hkn hfull
            have HW := Lib.hid hw; have HZ := Lib.hid hz
            clear hw hz hM hI hrow hC
            obtain ⟨a, ha⟩ : ∃ a, C / 16 = a := ⟨_, rfl⟩
            obtain ⟨b, hb⟩ : ∃ b, C % 16 = b := ⟨_, rfl⟩
            obtain ⟨ad, had⟩ : ∃ ad : Int, 64 * ((1 + 16 * a : Nat) : Int) = ad := ⟨_, rfl⟩
            have ha3 : a < 3 := by omega
            have hb16 : b < 16 := by omega
            rw [ha] at hca d1 hix HW
            rw [hb] at d2 HW
            rw [had] at hca HW
            have HA := Lib.hid ha; have HBM := Lib.hid hb; have HAD := Lib.hid had
            clear ha hb had
            unfold ptr at HW
            go_wp2_with fail
            refine HW.out.mono ?_; rintro e w7 ⟨rfl, S', j, f, hM, hI, hj, hjn, hf8, hmt⟩
            have hrow : w7.ownsRow w1.heap.size 3 1 (.slice (some ⟨ga, 0, none⟩) 3 c) 3 (addrL 3) := M_ex hM (j := 0) (by rw [hI.ex, ← HE9.out]; rfl)
            obtain ⟨ga', hA', hca', _, _⟩ := own_at hrow (addrL_at (i := 3) (a := a) ha3)
            injection hA' with hA'
            injection hA' with hA'
            subst hA'
            rw [HAD.out] at hca'
            have htt : OwnTT w1.heap.size w7 t2 := M_ex hM (j := 1) (by rw [hI.ex, ← HE9.out]; rfl)
            have htb : Blk w7 w6.heap.size 30 [.int .i64 t2.N, .int .i64 t2.F, .slice t2.ca t2.cs.length t2.cc, .slice t2.da n t2.dc] := M_ex hM (j := 2) (by rw [hI.ex, ← HE9.out]; rfl)
            have hb3 := htb.at_ (i := 3) rfl
            obtain ⟨db, rb, rc, hda, hdc, hfc⟩ := far_cells htt HD.out hat hjn
            rw [hda] at hb3
            have hnd := spill_node hM hI hf8 hlt hmt
            rw [HA.out, HBM.out, HAD.out] at hnd
            have hfb := far_bd (show n ≤ 8 by omega) hat hjn
            have hzj := HZ.out (C / 7) _ (by omega) hj
            have hz2 : ∀ (q : Nat) (x : Int), (C + 1 - 1) / 7 ≤ q → (comeL n at_)[q]? = some x → farL n at_ (j : Int) ≤ farL n at_ x := fun q x hq hx => far_rise hn4 hat hj hx (by rw [Nat.add_sub_cancel] at hq; exact hq)
            have hi1 := fun w => idx_rows db 0 n t2.dc at_ hat w
            have hi2 := fun w => idx_own rb n rc j hjn w
            simp only [Nat.zero_add] at hi1
            generalize farL n at_ (j : Int) = fx at *
            have hzl : (fx < z) = False := eq_false (by omega)
            have hcn : ((C : Int) == 7 * (n : Int)) = false := by rw [beq_eq_false_iff_ne]; omega
            have HND := Lib.hid hnd; have HM := Lib.hid hM; have HI := Lib.hid hI; have HZ2 := Lib.hid hz2
            clear hnd hM hI hz2 hrow htt htb hmt hj HW HZ hzj hda hca
            unfold ptr at HND
            go_wp2_with fail
            refine HND.out.mono ?_; rintro e w8 ⟨rfl, rfl⟩
            clear HND
            go_wp2_with fail
            go_roundw
            case rel => exact ⟨C + 1, C + 1, fx, S', by omega, by omega, by go_num, by go_num, rfl, HM.out, HI.out, HZ2.out⟩
            case measure => simp [intOf]; omega
          · have hCn : C = 7 * n := by omega
            have hCi : (C : Int) = 7 * (n : Int) := by omega
            rw [hCn] at hI
            have hw := spill_no (hM.below (bel_alloc (Below.refl _ wr) (.cells #[.int .u8 ((i : Int) + 1)] 5))) hI (by omega) hn4 hat hkn i (by omega) hlt (some ⟨wr.heap.size, 0, none⟩) 1
            have HW := Lib.hid hw; have HZ := Lib.hid hz; have HI := Lib.hid hI; have HCN := Lib.hid hCn
            clear hw hz hM hI hrow hC hCn
            obtain ⟨a, ha⟩ : ∃ a, i / 16 = a := ⟨_, rfl⟩
            obtain ⟨b, hb⟩ : ∃ b, i % 16 = b := ⟨_, rfl⟩
            obtain ⟨ad, had⟩ : ∃ ad : Int, 64 * ((1 + 16 * a : Nat) : Int) = ad := ⟨_, rfl⟩
            have ha3 : a < 3 := by omega
            have hb16 : b < 16 := by omega
            rw [ha] at hca d1 hix HW
            rw [hb] at d2 HW
            rw [had] at hca HW
            clear ha hb had
            unfold ptr at HW
            go_wp2_with fail
            refine HW.out.mono ?_; rintro e w7 ⟨rfl, hM⟩
            have HM := Lib.hid hM
            have hce : ((C : Int) == 7 * (n : Int)) = true := by rw [beq_iff_eq]; exact hCi
            clear hM HW hca hCi
            go_wp2_with fail
            go_roundw
            case rel => exact ⟨i + 1, C, z, S, by omega, by have := HCN.out; omega, by go_num, rfl, rfl, HM.out, by rw [HCN.out]; exact HI.out, HZ.out⟩
            case measure => simp [intOf]; omega
        · have e48 : ((i : Int) < 48) = False := eq_false (by omega)
          have hCn : C = 7 * n := by omega
          have hCi : (C : Int) = 7 * (n : Int) := by omega
          have HM := Lib.hid hM; have HI := Lib.hid hI; have HCN := Lib.hid hCn; have HCI := Lib.hid hCi
          clear hM hI hz hC hCn hCi hlt hi48
          go_wp2_with fail
          clear e48
          go_loopw [23] (fun v wx => ∃ i : Nat, i ≤ C ∧ v = .int .i64 (i : Int) ∧ Mach w1 wx (mparts w1.heap.size S)) (fun v _ => C - (intOf v).toNat)
          case atStart => exact ⟨0, by omega, rfl, HM.out⟩
          case round =>
            clear HM
            obtain ⟨i, hiC, rfl, hM⟩ := hrel
            by_cases hlt2 : i < C
            · have hrow : wr.ownsRow w1.heap.size 3 1 (.slice A 3 c) 3 (addrL 3) := M_ex hM (j := 0) (by rw [HI.out.ex, ← HE9.out]; rfl)
              have hc28 : C ≤ 28 := by have := HCN.out; omega
              obtain ⟨ga, hA, hca, hga, _⟩ := own_at hrow (addrL_at (i := 3) (a := i / 16) (by omega))
              subst hA
              have hix := fun w => idx_own ga 3 c (i / 16) (by omega) w
              have d1 : (i : Int).tdiv 16 = ((i / 16 : Nat) : Int) := by rw [Int.tdiv_eq_ediv_of_nonneg (by omega)]; omega
              have d2 : (i : Int).tmod 16 = ((i % 16 : Nat) : Int) := by rw [Int.tmod_eq_emod_of_nonneg (by omega)]; omega
              have hrd := spill_read hM HI.out i hlt2 (by omega)
              have HRD := Lib.hid hrd
              clear hrd hM hrow
              obtain ⟨a, ha⟩ : ∃ a, i / 16 = a := ⟨_, rfl⟩
              obtain ⟨b, hb⟩ : ∃ b, i % 16 = b := ⟨_, rfl⟩
              obtain ⟨ad, had⟩ : ∃ ad : Int, 64 * ((1 + 16 * a : Nat) : Int) = ad := ⟨_, rfl⟩
              have ha3 : a < 3 := by omega
              have hb16 : b < 16 := by omega
              rw [ha] at hca d1 hix HRD
              rw [hb] at d2 HRD
              rw [had] at hca HRD
              clear ha hb had
              unfold ptr at HRD
              go_wp2_with fail
              refine HRD.out.mono ?_; rintro e w7 ⟨g, c', rfl, hcell, hM⟩
              have HM := Lib.hid hM
              clear hM HRD hca
              go_wp2_with fail
              go_roundw
              case rel => exact ⟨i + 1, by omega, by go_num, HM.out⟩
              case measure => simp [intOf]; omega
            · obtain rfl : i = C := by omega
              have HB := Lib.hid (bel_trans HB1.out hM.bel)
              have hce : ((i : Int) == 7 * (n : Int)) = true := by rw [beq_iff_eq]; exact HCI.out
              clear hM HI HE9 HCN
              go_wp2_with fail
              go_ret
              exact ⟨rfl, HB.out⟩
end Go.Proofs.YtjdbedoabcbeeaaGreatDoor
