/- The law MemoryMoves. -/
import Derived.Test.YtpajbpgpbfmebaaMemMoves
namespace Go.Proofs.Ytpajbpgpbfmebaa
open Go.RowKit
set_option linter.unusedVariables false
set_option linter.unusedSimpArgs false
attribute [local go_sem] World.cell?_alloc_lt

def mmT : Nat → List (Int × Int)
  | 0 => []
  | p + 1 => mput (mmT p) (p : Int) (3 * (p : Int))
def mmF : Nat → List (Int × Int)
  | 0 => []
  | p + 1 => mput (mmF p) (3 * (p : Int)) (p : Int)
theorem mm_none (p : Nat) (h : p < 4) : mget (mmT p) (p : Int) = none ∧ mget (mmF p) (3 * (p : Int)) = none := by
  obtain rfl | rfl | rfl | rfl : p = 0 ∨ p = 1 ∨ p = 2 ∨ p = 3 := by omega
  all_goals decide +kernel
theorem mm_mapped (p : Nat) (h : p < 4) : mapped (mmT 4) p := by
  unfold mapped
  obtain rfl | rfl | rfl | rfl : p = 0 ∨ p = 1 ∨ p = 2 ∨ p = 3 := by omega
  all_goals decide +kernel
theorem mm_len : (mmT 4).length = 4 := by decide +kernel
/-- What a round of the law keeps. -/
structure MvInv (n : Nat) (us bs : List Int) (mt mf : List (Int × Int)) : Prop where
  mp : ∀ k, k < 256 → mapped mt (k / 64)
  rd : rdB mt bs 0 n = us
  ln : mt.length = 4
theorem MvInv.move {n nf f was p : Nat} {us bs : List Int} {mt mf : List (Int × Int)} (h : MvInv n us bs mt mf) (hn : n ≤ 256) (hF : Fair nf mt mf) (hl : bs.length = nf * 64) (h3 : f < nf) (hp : mget mt (p : Int) = some (was : Int)) (hf : mget mf (f : Int) = none) : MvInv n us (putL bs (f * 64) (frBs bs was)) (mput mt p f) (mput (mdel mf was) f p) := by
  refine ⟨?_, ?_, ?_⟩
  · have := (rd_move hF hl h3 hp hf 0 256 (fun k _ hk => h.mp k (by omega))).2
    exact fun k hk => this k (by omega) (by omega)
  · rw [(rd_move hF hl h3 hp hf 0 n (fun k _ hk => h.mp k (by omega))).1]
    exact h.rd
  · rw [length_mput, hp]
    have := h.ln
    simpa using this
set_option maxRecDepth 100000 in
set_option maxHeartbeats 4000000 in
theorem memoryMoves_walk (w0 : World) (a : Option Addr) (len cap : Nat) (zs : List Int) (hs : InInts .u8 w0 a len zs) (hlc : len ≤ cap) (a2 : Option Addr) (len2 cap2 : Nat) (zs2 : List Int) (hz : InInts .i64 w0 a2 len2 zs2) (hy : len2 * 8 ≤ 140737488351232) : Calls Try.prog 7 #[.slice a len cap, .slice a2 len2 cap2] w0 fun e w' => e = .returned (.bool true) ∧ Below w0.heap.size w0 w' := by
  have hmx := hs.mx
  obtain ⟨n, hnl, hn256, hmin⟩ : ∃ n : Nat, n ≤ len ∧ n ≤ 256 ∧ (if (256 : Int) < (len : Int) then (256 : Int) else (len : Int)) = (n : Int) := by
    by_cases h : (256 : Int) < (len : Int)
    · exact ⟨256, by omega, by omega, by rw [if_pos h]; rfl⟩
    · exact ⟨len, by omega, by omega, by rw [if_neg h]⟩
  have hI := InB.take hs hnl
  generalize zs.take n = us at hI
  have hul := hI.ln
  have hcut := fun w => cut_bytes a len cap n (n : Int) rfl (by omega) w
  have HI := Lib.hid hI; have HZ := Lib.hid hz
  clear hI hs hz
  go_enter Try.func7, Try.ntmps7
  go_wp2_with fail
  refine (fr_new 2 8 w0 (by omega) (by omega) (by omega) (by omega)).mono ?_; rintro e w1 ⟨g, b, rfl, hg, hb, hG, hB⟩
  go_wp2_with fail
  refine (me_new g w1).mono ?_; rintro e w2 ⟨mb, tg, bt, bf, rfl, h1, h2, h3, h4, hS, hT, hB2⟩
  have hM : MemAt w2 mb g b 8 16 tg bt bf (List.replicate 1024 0) [] [] := ⟨hS, hG.below hB2, hT, mem_fair0 16⟩
  have hs1 := hB.size
  have hB3 := bel_trans hB hB2
  clear hS hG hT hB hB2
  go_wp2_with fail
  refine (moves_any w2).mono ?_; rintro e w3 ⟨rfl, hB4⟩
  have hM3 := hM.below hB4
  have hB5 := bel_trans hB3 hB4
  clear hM hB3 hB4
  go_wp2_with fail
  go_loopw [9] (fun v wr => ∃ p : Nat, p ≤ 4 ∧ v = .int .i64 (p : Int) ∧ MemAt wr mb g b 8 16 tg bt bf (List.replicate 1024 0) (mmT p) (mmF p) ∧ Below w0.heap.size w0 wr) (fun v _ => 4 - (intOf v).toNat)
  case atStart => exact ⟨0, by omega, rfl, hM3, hB5⟩
  case round =>
    clear hM3 hB5
    obtain ⟨p, hp4, rfl, hM, hB⟩ := hrel
    by_cases hlt : p < 4
    · obtain ⟨e1, e2⟩ := mm_none p hlt
      have hmp := me_map mb g b 8 16 tg bt bf _ _ _ wr hM p (3 * (p : Int)) (by omega) (by omega) (by omega) (by omega) e1 e2
      have HMP := Lib.hid hmp
      clear hmp hM e1 e2
      go_wp2_with fail
      refine HMP.out.mono ?_; rintro e w4 ⟨rfl, hM, hc⟩
      have hB6 := bel_ch hB hc (by simp; omega)
      clear hc HMP
      go_wp2_with fail
      go_roundw
      case rel => exact ⟨p + 1, by omega, by go_num, hM, hB6⟩
      case measure => simp [intOf]; omega
    · obtain rfl : p = 4 := by omega
      have hbw := hM.fs.dt.lt
      have hOff : 0 < n → Off a b := by
        intro h0 x e
        obtain ⟨bx, off, e2, hbx, _⟩ := HI.out.at_ h0
        rw [e] at e2
        injection e2 with e2
        subst e2
        show bx ≠ b
        omega
      have hwr := me_write mb g b 8 16 tg bt bf (List.replicate 1024 0) (mmT 4) (mmF 4) wr hM 0 n a cap us (HI.out.below hB) hOff (by omega) (by omega) (by omega) (fun k _ hk => mm_mapped _ (by omega))
      have hrw := rd_wr hM.ok (List.replicate 1024 0) us 0 (by rw [List.length_replicate]) (fun k hk => mm_mapped _ (by omega)) 0 n (by omega)
      rw [List.drop_zero, List.take_of_length_le (by omega)] at hrw
      have HWR := Lib.hid hwr
      have hinv : MvInv n us (wrB (mmT 4) (List.replicate 1024 0) 0 us) (mmT 4) (mmF 4) := ⟨fun k hk => mm_mapped _ (by omega), hrw, mm_len⟩
      have HV := Lib.hid hinv
      clear hwr hrw hinv hM hOff
      go_wp2_with fail
      refine HWR.out.mono ?_; rintro e w4 ⟨rfl, hM, hc⟩
      have hB6 := bel_ch hB hc (by simp; omega)
      clear hc HWR hB
      go_wp2_with fail
      go_loopw [10] (fun v wr => ∃ (i : Nat) (bs : List Int) (mt mf : List (Int × Int)), i ≤ len2 ∧ i ≤ 40 ∧ v = .int .i64 (i : Int) ∧ MemAt wr mb g b 8 16 tg bt bf bs mt mf ∧ MvInv n us bs mt mf ∧ Below w0.heap.size w0 wr) (fun v _ => 40 - (intOf v).toNat)
      case atStart => exact ⟨0, _, _, _, by omega, by omega, rfl, hM, HV.out, hB6⟩
      case round =>
        clear hM hB6 HV
        obtain ⟨i, bs, mt, mf, hi, hi40, rfl, hM, hV, hB⟩ := hrel
        have HV := Lib.hid hV; clear hV
        by_cases hlt : i < len2 ∧ i < 40
        · obtain ⟨hlt, hlt2⟩ := hlt
          obtain ⟨bx, off, ha, hbx, hcell⟩ := HZ.out.at_ (by omega)
          have kv := (hB.cell (p := ⟨bx, off + i, none⟩) hbx).trans (hcell i hlt)
          have hia := fun w => idx_int (cap := cap2) ha hlt w
          clear hcell ha
          generalize zs2.getD i 0 = v at *
          have HM := Lib.hid hM; clear hM
          go_upto_region 16 with fail
          go_quiet (fail)
          have hpb := umod_bd v 4 (by omega) (by omega)
          generalize hp : wrap64 ((IntKind.u64.wrap v).tmod 4) = p at hpb
          obtain ⟨p, rfl⟩ := Int.eq_ofNat_of_zero_le hpb.1
          have hkb := umod_bd ((IntKind.u64.wrap v).tdiv 4) 16 (by omega) (by omega)
          generalize hk : wrap64 ((IntKind.u64.wrap ((IntKind.u64.wrap v).tdiv 4)).tmod 16) = k at hkb
          obtain ⟨k, rfl⟩ := Int.eq_ofNat_of_zero_le hkb.1
          have hp4 : p < 4 := by omega
          have hk16 : k < 16 := by omega
          have hM1 := HM.out.below (bel_drewN (Below.refl _ wr) nq)
          have hB1 := bel_drewN hB nq
          clear hp hk hpb hkb kv hia hB HM
          generalize wr.drewN nq = w5 at *
          have hpg := me_page mb g b 8 16 tg bt bf bs mt mf w5 hM1 (k : Int)
          have hmp : mapped mt p := by have := HV.out.mp (p * 64) (by omega); rwa [Nat.mul_div_cancel _ (by omega)] at this
          have hwas := (hM1.ok.at_ hmp).1
          have HPG := Lib.hid hpg
          cases hf : mget mf (k : Int) with
          | some q =>
            have hmv := me_move_no mb g b 8 16 tg bt bf bs mt mf w5 hM1 p k (by omega) (by omega) (by rw [hf]; rfl)
            have hrd := me_read mb g b 8 16 tg bt bf bs mt mf w5 hM1 0 n (by omega) (by omega) (fun k _ hk => HV.out.mp k (by omega))
            rw [HV.out.rd] at hrd
            have hpg2 := HPG.out
            rw [hf] at hpg2
            have HPG := Lib.hid hpg2
            have HMV := Lib.hid hmv; have HRD := Lib.hid hrd; have HM := Lib.hid hM1
            clear hmv hrd hM1 hpg2 hpg hwas hf hmp
            go_wp2_with fail
            refine HPG.out.mono ?_; rintro e w6 ⟨rfl, rfl⟩
            go_wp2_with fail
            refine HMV.out.mono ?_; rintro e w6 ⟨rfl, rfl⟩
            go_wp2_with fail
            refine HRD.out.mono ?_; rintro e w6 ⟨A, c, rfl, hown, hB8⟩
            have htx := text_in (c := c) (InB.own hown)
            have hB9 := bel_trans hB1 hB8
            have htb := text_in (c := cap) (HI.out.below hB9)
            have hsn : ∀ s : ByteArray, (!(s.toList == s.toList)) = false := fun s => by simp
            have HM2 := Lib.hid (HM.out.below hB8)
            clear hown HM hB8 hB1
            go_wp2_with fail
            go_roundw
            case rel => exact ⟨i + 1, bs, mt, mf, by omega, by omega, by go_num, HM2.out, HV.out, hB9⟩
            case measure => simp [intOf]; omega
          | none =>
            have hmv := me_move mb g b 8 16 tg bt bf bs mt mf w5 hM1 p k (frOf mt p) (by omega) (by omega) hwas hf
            have hV2 := HV.out.move hn256 hM1.ok hM1.fs.ln hk16 hwas hf
            have hpg2 := HPG.out
            rw [hf] at hpg2
            have HPG := Lib.hid hpg2
            have HMV := Lib.hid hmv; have HV2 := Lib.hid hV2
            clear hmv hM1 hpg2 hpg hwas hf hV2 HV hmp
            generalize putL bs (k * 64) (frBs bs (frOf mt p)) = bs2 at *
            generalize mput mt p k = mt2 at *
            generalize mput (mdel mf (frOf mt p)) k p = mf2 at *
            generalize frOf mt p = was at *
            go_wp2_with fail
            refine HPG.out.mono ?_; rintro e w6 ⟨rfl, rfl⟩
            go_wp2_with fail
            refine HMV.out.mono ?_; rintro e w6 ⟨rfl, hM1, hc⟩
            have hB7 := bel_ch hB1 hc (by simp; omega)
            have hrd := me_read mb g b 8 16 tg bt bf bs2 mt2 mf2 w6 hM1 0 n (by omega) (by omega) (fun k _ hk => HV2.out.mp k (by omega))
            rw [HV2.out.rd] at hrd
            have HRD := Lib.hid hrd; have HM := Lib.hid hM1
            clear hrd hM1 hc hB1 HMV HPG
            go_wp2_with fail
            refine HRD.out.mono ?_; rintro e w7 ⟨A, c, rfl, hown, hB8⟩
            have htx := text_in (c := c) (InB.own hown)
            have hB9 := bel_trans hB7 hB8
            have htb := text_in (c := cap) (HI.out.below hB9)
            have hsn : ∀ s : ByteArray, (!(s.toList == s.toList)) = false := fun s => by simp
            have HM2 := Lib.hid (HM.out.below hB8)
            clear hown HM hB8 hB7
            go_wp2_with fail
            go_roundw
            case rel => exact ⟨i + 1, bs2, mt2, mf2, by omega, by omega, by go_num, HM2.out, HV2.out, hB9⟩
            case measure => simp [intOf]; omega
        · have hmd := me_mapped mb g b 8 16 tg bt bf bs mt mf wr hM
          rw [HV.out.ln] at hmd
          have HMD := Lib.hid hmd
          clear hmd hM
          rcases Classical.em (i < len2) with hc | hc
          · have hc2 : ¬ (i < 40) := fun h => hlt ⟨hc, h⟩
            clear hlt
            go_wp2_with fail
            refine HMD.out.mono ?_; rintro e w7 ⟨rfl, rfl⟩
            go_wp2_with fail
            go_ret
            exact ⟨rfl, hB⟩
          · clear hlt
            go_wp2_with fail
            refine HMD.out.mono ?_; rintro e w7 ⟨rfl, rfl⟩
            go_wp2_with fail
            go_ret
            exact ⟨rfl, hB⟩
end Go.Proofs.Ytpajbpgpbfmebaa
