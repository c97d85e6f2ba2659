/- memory.Move; the statements' own moves. -/
import Derived.Test.YtbgnaohjcfbaaaaDoorMemRead
namespace Go.Proofs.YtbgnaohjcfbaaaaDoor
open Go.RowKit
set_option linter.unusedVariables false
set_option linter.unusedSimpArgs false
attribute [local go_sem] World.cell?_alloc_lt

theorem InB.own {w : World} {base m c : Nat} {A : Option Addr} {xs : List Int} (h : w.ownsRow base 5 1 (.slice A m c) m (xs.map (Value.int .u8))) : InB w A m xs := by
  refine ⟨by have := h.1; simpa using this, fun h0 => ?_⟩
  obtain ⟨g, cap, hv, hb, hlt⟩ := h.form h0
  injection hv with hA _ _
  subst hA
  refine ⟨g, 0, rfl, hlt, fun j u hj => ?_⟩
  have := h.cells (g := g) rfl j (.int .u8 u) (by rw [List.getElem?_map, hj]; rfl)
  rw [WideShapes.add_plain] at this
  exact this
set_option maxRecDepth 100000 in
theorem open_bytes {H : Type} {enc : TypeId × Value → H} {W : World} {base : Nat} {held : Bool} {r : Reach} {b0 : Nat} {v : Value} {d : DataW H} {p : List MemPlace} (hv : Value.okWide Tryd.prog W r b0 34 v) (h : DataW.Trod enc Tryd.prog W base (fun _ => true) held 34 v d p) :
    ∃ a len cap zs, v = .slice a len cap ∧ InInts .u8 W a len zs ∧ len ≤ cap := by
  obtain ⟨a, len, cap, rfl⟩ := WideShapes.okWide_slice Tryd.underlying34 hv
  obtain ⟨zs, hz⟩ := open_inInts Tryd.underlying34 Tryd.underlying5 (by kernel_rfl) h
  refine ⟨a, len, cap, zs, rfl, hz, ?_⟩
  obtain ⟨fuel, hf⟩ := h
  rcases ChangeShapes.open_ints Tryd.underlying34 Tryd.underlying5 (by kernel_rfl) hf with ⟨hcs, _⟩ | ⟨x, l, c, zs, hcs, _, hl, _⟩
  · simp [Value.cells] at hcs; omega
  · simp [Value.cells] at hcs; omega
theorem fair_move {nf : Nat} {mt mf : List (Int × Int)} {p f was : Int} (hF : Fair nf mt mf) (h2 : 0 ≤ f) (h3 : f < (nf : Int)) (hp : mget mt p = some was) (hf : mget mf f = none) : Fair nf (mput mt p f) (mput (mdel mf was) f p) := by
  have hwf : was ≠ f := by
    intro e
    subst e
    have := (hF.io p was).1 hp
    rw [hf] at this; cases this
  refine ⟨fun q x h => ?_, fun q x => ?_⟩
  · rw [mget_put] at h
    split at h
    · injection h with h; subst h; exact ⟨h2, h3⟩
    · exact hF.fr q x h
  · rw [mget_put, mget_put, mget_del]
    by_cases e : p = q
    · subst e
      rw [if_pos rfl]
      by_cases e2 : f = x
      · subst e2; rw [if_pos rfl]; simp
      · rw [if_neg e2]
        constructor
        · intro h; injection h with h; exact absurd h e2
        · intro h
          split at h
          · cases h
          · rename_i h5
            have := (hF.io p x).2 h
            rw [hp] at this
            injection this with this
            exact absurd this h5
    · rw [if_neg e]
      by_cases e2 : f = x
      · subst e2
        rw [if_pos rfl]
        constructor
        · intro h; have := (hF.io q f).1 h; rw [hf] at this; cases this
        · intro h; injection h with h; exact absurd h e
      · rw [if_neg e2]
        by_cases e3 : was = x
        · subst e3
          rw [if_pos rfl]
          constructor
          · intro h
            have h5 := (hF.io q was).1 h
            rw [(hF.io p was).1 hp] at h5
            injection h5 with h5
            exact absurd h5 e
          · intro h; cases h
        · rw [if_neg e3]; exact hF.io q x
/-- A page on another frame with its bytes: what is read there is as it was. -/
theorem rd_move {nf : Nat} {mt mf : List (Int × Int)} {p f was : Nat} {bs : List Int} (hF : Fair nf mt mf) (hl : bs.length = nf * 64) (h3 : f < nf) (hp : mget mt (p : Int) = some (was : Int)) (hf : mget mf (f : Int) = none) (a n : Nat) (hm : ∀ k, a ≤ k → k < a + n → mapped mt (k / 64)) : rdB (mput mt p f) (putL bs (f * 64) (frBs bs was)) a n = rdB mt bs a n ∧ (∀ k, a ≤ k → k < a + n → mapped (mput mt p f) (k / 64)) := by
  have hwn : was < nf := by have := hF.fr _ _ hp; omega
  have hfl := frBs_len hl hwn
  have hfr : ∀ q : Nat, frOf (mput mt p f) q = if p = q then f else frOf mt q := by
    intro q
    unfold frOf
    rw [mget_put]
    by_cases e : p = q
    · subst e; rw [if_pos rfl, if_pos rfl]; rfl
    · rw [if_neg e, if_neg (by omega)]
  refine ⟨?_, fun k h1 h2 => ?_⟩
  · apply List.ext_getElem?
    intro i
    rw [rdB_at, rdB_at]
    by_cases hi : i < n
    · rw [if_pos hi, if_pos hi]
      have hmi := hm (a + i) (by omega) (by omega)
      congr 1
      rw [List.getD_eq_getElem?_getD, List.getD_eq_getElem?_getD]
      unfold posN
      rw [hfr]
      have hlt := (hF.at_ hmi).2
      by_cases e : p = (a + i) / 64
      · rw [if_pos e, putL_get _ _ _ _ (by rw [hl, hfl]; omega), hfl, if_pos (by omega)]
        have e2 : frOf mt ((a + i) / 64) = was := by
          unfold frOf
          rw [← e, hp]
          rfl
        rw [e2]
        unfold frBs
        rw [List.getElem?_take, if_pos (by omega), List.getElem?_drop]
        congr 2
        omega
      · rw [if_neg e, putL_get _ _ _ _ (by rw [hl, hfl]; omega), hfl]
        have e2 : frOf mt ((a + i) / 64) ≠ f := by
          intro e3
          have h5 := (hF.io _ _).1 (hF.at_ hmi).1
          rw [e3, hf] at h5
          cases h5
        rw [if_neg (by omega)]
    · rw [if_neg hi, if_neg hi]
  · have := hm k h1 h2
    unfold mapped at *
    rw [mget_put]
    split
    · rfl
    · exact this
section
variable (mb g b each nf tg bt bf : Nat) (bs : List Int) (mt mf : List (Int × Int)) (w : World) (hM : MemAt w mb g b each nf tg bt bf bs mt mf)
include hM
theorem me_move_no (p f : Nat) (h1 : p < 4096) (h3 : f < nf) (hf : (mget mf (f : Int)).isSome = true) : Calls Tryd.prog 12 #[.pointer (some ⟨mb, 0, none⟩), .int .i64 (p : Int), .int .i64 (f : Int)] w fun e w' => e = .returned (.tuple #[.int .i64 0, .int .i64 9]) ∧ w = w' := by
  have k1 := hM.st.at_ (i := 1) rfl
  have hbo := both_yes mb g b each nf tg bt bf bs mt mf w hM p f (by omega) (by omega) (by omega) (by omega)
  have hrm := tII_Remap_no tg bt bf mt mf p f w hM.tb (Or.inr hf)
  have HBO := Lib.hid hbo; have HRM := Lib.hid hrm
  clear hbo hrm hM hf
  go_enter Tryd.func12, Tryd.ntmps12
  go_wp2_with fail
  refine HBO.out.mono ?_; rintro e w1 ⟨rfl, rfl⟩
  go_wp2_with fail
  refine HRM.out.mono ?_; rintro e w1 ⟨rfl, rfl⟩
  go_wp2_with fail
  go_ret2
  exact ⟨rfl, rfl⟩
theorem me_move (p f was : Nat) (h1 : p < 4096) (h3 : f < nf) (hp : mget mt (p : Int) = some (was : Int)) (hf : mget mf (f : Int) = none) : Calls Tryd.prog 12 #[.pointer (some ⟨mb, 0, none⟩), .int .i64 (p : Int), .int .i64 (f : Int)] w fun e w' => e = .returned (.tuple #[.int .i64 (was : Int), .int .i64 0]) ∧ MemAt w' mb g b each nf tg bt bf (putL bs (f * 64) (frBs bs was)) (mput mt p f) (mput (mdel mf was) f p) ∧ Ch [b, bt, bf] w w' := by
  have k0 := hM.st.at_ (i := 0) rfl
  have k1 := hM.st.at_ (i := 1) rfl
  have hbo := both_yes mb g b each nf tg bt bf bs mt mf w hM p f (by omega) (by omega) (by omega) (by omega)
  have hrm := tII_Remap_yes tg bt bf mt mf p f was w hM.tb hp hf
  have hwn : was < nf := by have := hM.ok.fr _ _ hp; omega
  have hfair := fair_move hM.ok (f := (f : Int)) (by omega) (by omega) hp hf
  have HBO := Lib.hid hbo; have HRM := Lib.hid hrm; have HF := Lib.hid hfair; have HM := Lib.hid hM
  have hmm := hM.st.lt
  have n1 := blk_ne_map hM.st hM.tb.to_
  have n2 := blk_ne_map hM.st hM.tb.fr
  have n3 := blk_ne_map hM.fs.st hM.tb.to_
  have n4 := blk_ne_map hM.fs.st hM.tb.fr
  have n5 := blk_ne_map hM.fs.dt hM.tb.to_
  have n6 := blk_ne_map hM.fs.dt hM.tb.fr
  clear hbo hrm hM hf hp hfair
  go_enter Tryd.func12, Tryd.ntmps12
  go_wp2_with fail
  refine HBO.out.mono ?_; rintro e w1 ⟨rfl, rfl⟩
  go_wp2_with fail
  refine HRM.out.mono ?_; rintro e w1 ⟨rfl, hT, hc⟩
  have hS1 := HM.out.st.ch hc (by simp [n1, n2])
  have hG1 := HM.out.fs.ch hc (by simp [n3, n4]) (by simp [n5, n6])
  replace k0 := hS1.at_ (i := 0) rfl
  have hcp := fr_copy g b each nf bs was f w1 hG1 hwn h3
  have HCP := Lib.hid hcp
  have HM1 : Hid (MemAt w1 mb g b each nf tg bt bf bs (mput mt p f) (mput (mdel mf was) f p)) := Lib.hid ⟨hS1, hG1, hT, HF.out⟩
  clear hS1 hG1 hcp hT
  go_wp2_with fail
  refine HCP.out.mono ?_; rintro e w2 ⟨rfl, hG2, hc2⟩
  have hM2 := HM1.out.save hG2 hc2
  have hcc : Ch [b, bt, bf] w w2 := (hc.mono (by simp)).trans (hc2.mono (by simp))
  clear hG2 hc2 hc
  go_wp2_with fail
  go_ret2
  exact ⟨rfl, hM2, hcc⟩
end
end Go.Proofs.YtbgnaohjcfbaaaaDoor
