/- messuagelaw07.moves. -/
import Derived.Test.YtpajbpgpbfmebaaMemMove
namespace Go.Proofs.Ytpajbpgpbfmebaa
open Go.RowKit
set_option linter.unusedVariables false
set_option linter.unusedSimpArgs false
attribute [local go_sem] World.cell?_alloc_lt

def mvT0 : List (Int × Int) := mput [] 1 0
def mvF0 : List (Int × Int) := mput [] 0 1
def mvT1 : List (Int × Int) := mput mvT0 1 3
def mvF1 : List (Int × Int) := mput (mdel mvF0 0) 3 1
def mvB0 : List Int := List.replicate 256 0
def mvB1 : List Int := wrB mvT0 mvB0 64 [97]
def mvB2 : List Int := putL mvB1 192 (frBs mvB1 0)
theorem mv_rd : rdB mvT1 mvB2 64 1 = [97] := by decide +kernel
theorem mv_m0 : mapped mvT0 1 := by unfold mapped; decide +kernel
theorem mv_m1 : mapped mvT1 1 := by unfold mapped; decide +kernel
theorem mv_l1 : mvT1.length = 1 := by decide +kernel
theorem mem_fair0 (nf : Nat) : Fair nf [] [] := ⟨fun p f h => (by cases h), fun p f => (by constructor <;> (intro h; cases h))⟩
set_option maxRecDepth 100000 in
set_option maxHeartbeats 2000000 in
theorem moves_any (w0 : World) : Calls Try.prog 13 #[] w0 fun e w' => e = .returned (.bool true) ∧ Below w0.heap.size w0 w' := by
  go_enter Try.func13, Try.ntmps13
  go_wp2_with fail
  refine (fr_new 1 4 w0 (by omega) (by omega) (by omega) (by omega)).mono ?_; rintro e w1 ⟨g, b, rfl, hg, hb, hG, hB⟩
  go_wp2_with fail
  refine (me_new g w1).mono ?_; rintro e w2 ⟨mb, tg, bt, bf, rfl, h1, h2, h3, h4, hS, hT, hB2⟩
  have hM : MemAt w2 mb g b 4 4 tg bt bf mvB0 [] [] := ⟨hS, hG.below hB2, hT, mem_fair0 4⟩
  have hs1 := hB.size
  have hB3 := bel_trans hB hB2
  clear hS hG hT hB hB2
  go_wp2_with fail
  refine (me_new_nil w2).mono ?_; rintro e w3 ⟨rfl, rfl⟩
  have hmp := me_map mb g b 4 4 tg bt bf mvB0 [] [] w2 hM 1 0 (by omega) (by omega) (by omega) (by omega) rfl rfl
  have HMP := Lib.hid hmp
  clear hmp hM
  go_wp2_with fail
  refine HMP.out.mono ?_; rintro e w3 ⟨rfl, hM, hc⟩
  have hB4 := bel_ch hB3 hc (by simp; omega)
  clear hc hB3 HMP
  have hMa := hM.below (bel_alloc (Below.refl _ _) (.cells #[.int .u8 97] 5 (1, 2)))
  have hIa : InB (w3.alloc (.cells #[.int .u8 97] 5 (1, 2))) (some ⟨w3.heap.size, 0, none⟩) 1 [97] := ⟨rfl, fun _ => ⟨_, 0, rfl, by simp, fun j u hj => by
    rw [Nat.zero_add]
    match j, hj with
    | 0, hj => injection hj with hj; subst hj; exact World.cell?_alloc_mark w3 _ _ _ 0
    | j + 1, hj => simp at hj⟩⟩
  have hs4 := hB4.size
  have hbw : b < w3.heap.size := hM.fs.dt.lt
  have hwr := me_write mb g b 4 4 tg bt bf mvB0 mvT0 mvF0 _ hMa 64 1 _ 1 [97] hIa (fun _ x e => by injection e with e; subst e; show w3.heap.size ≠ b; omega) (by omega) (by omega) (by omega) (fun k h1 h2 => by rw [show k / 64 = 1 by omega]; exact mv_m0)
  have HWR := Lib.hid hwr
  have hB5 := bel_alloc hB4 (.cells #[.int .u8 97] 5 (1, 2))
  have hcv := Lib.run_convert_bytes_const (P := Try.prog) w3 23 5 #[.int .u8 97] 1 1 Try.underlying23 Try.underlying5
  clear hwr hMa hIa hM hB4
  go_wp2_with fail
  refine HWR.out.mono ?_; rintro e w4 ⟨rfl, hM, hc⟩
  have hB6 := bel_ch hB5 hc (by simp; omega)
  have hmv := me_move mb g b 4 4 tg bt bf mvB1 mvT0 mvF0 w4 hM 1 3 0 (by omega) (by omega) (by decide +kernel) (by decide +kernel)
  have HMV := Lib.hid hmv
  clear hmv hM hc hB5 HWR
  go_wp2_with fail
  refine HMV.out.mono ?_; rintro e w5 ⟨rfl, hM, hc⟩
  have hM : MemAt w5 mb g b 4 4 tg bt bf mvB2 mvT1 mvF1 := hM
  have hB7 := bel_ch hB6 hc (by simp; omega)
  have hrd := me_read mb g b 4 4 tg bt bf mvB2 mvT1 mvF1 w5 hM 64 1 (by omega) (by omega) (fun k h1 h2 => by rw [show k / 64 = 1 by omega]; exact mv_m1)
  rw [mv_rd] at hrd
  have HRD := Lib.hid hrd
  have HM := Lib.hid hM
  clear hrd hM hc hB6 HMV
  go_wp2_with fail
  refine HRD.out.mono ?_; rintro e w6 ⟨A, c, rfl, hown, hB8⟩
  have htx := text_in (c := c) (InB.own hown)
  rw [show strOfNums [97] = ⟨#[97]⟩ by rfl] at htx
  have hmd := me_mapped mb g b 4 4 tg bt bf mvB2 mvT1 mvF1 w6 (HM.out.below hB8)
  rw [mv_l1] at hmd
  have HMD := Lib.hid hmd
  have hB9 := bel_trans hB7 hB8
  clear hmd hown hB7 hB8 HM HRD
  go_wp2_with fail
  refine HMD.out.mono ?_; rintro e w7 ⟨rfl, rfl⟩
  go_wp2_with fail
  go_ret
  exact ⟨rfl, hB9⟩
end Go.Proofs.Ytpajbpgpbfmebaa
