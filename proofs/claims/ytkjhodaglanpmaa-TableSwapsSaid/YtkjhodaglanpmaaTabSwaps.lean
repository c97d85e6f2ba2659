/- The law TableSwaps. -/
import Derived.Test.YtkjhodaglanpmaaTabClears
namespace Go.Proofs.Ytkjhodaglanpmaa
open Go.RowKit
set_option linter.unusedVariables false
set_option linter.unusedSimpArgs false

/-- k pages, each on a frame of its own; one frame is free. -/
structure SwInv (k : Int) (mt mf : List (Int × Int)) (free : Int) : Prop where
  len : (mt.length : Int) = k
  dom : ∀ a, (mget mt a).isSome = true ↔ 0 ≤ a ∧ a < k
  inv : ∀ a b, mget mt a = some b ↔ mget mf b = some a
  free : mget mf free = none
theorem SwInv.start {k : Int} {mt mf : List (Int × Int)} (hl : (mt.length : Int) = k) (h1 : ∀ a, mget mt a = if 0 ≤ a ∧ a < k then some a else none) (h2 : ∀ b, mget mf b = if 0 ≤ b ∧ b < k then some b else none) : SwInv k mt mf k := by
  refine ⟨hl, fun a => ?_, fun a b => ?_, ?_⟩
  · rw [h1]; split <;> simp_all
  · rw [h1, h2]
    constructor
    · intro h
      split at h
      · rename_i c; simp at h; subst h; rw [if_pos c]
      · cases h
    · intro h
      split at h
      · rename_i c; simp at h; subst h; rw [if_pos c]
      · cases h
  · rw [h2, if_neg (by omega)]
theorem SwInv.step {k : Int} {mt mf : List (Int × Int)} {free p : Int} (h : SwInv k mt mf free) (h0 : 0 ≤ p) (h1 : p < k) :
    ∃ was, mget mt p = some was ∧ (mget (mput (mdel mf was) free p) free).isSome = true ∧ SwInv k (mput mt p free) (mput (mdel mf was) free p) was := by
  obtain ⟨was, hw⟩ := Option.isSome_iff_exists.1 ((h.dom p).2 ⟨h0, h1⟩)
  have hwf : mget mf was = some p := (h.inv p was).1 hw
  have hne : was ≠ free := by rintro rfl; rw [h.free] at hwf; cases hwf
  refine ⟨was, hw, by rw [mget_put, if_pos rfl]; rfl, ⟨?_, fun a => ?_, fun a b => ?_, ?_⟩⟩
  · rw [length_mput, hw]; exact h.len
  · rw [mget_put]
    by_cases e : p = a
    · subst e; rw [if_pos rfl]; simp; omega
    · rw [if_neg e]; exact h.dom a
  · rw [mget_put, mget_put, mget_del]
    by_cases e : p = a
    · subst e
      rw [if_pos rfl]
      by_cases e2 : free = b
      · subst e2; simp
      · rw [if_neg e2]
        by_cases e3 : was = b
        · subst e3; rw [if_pos rfl]; simp; exact e2
        · rw [if_neg e3]
          constructor
          · intro h'; exact absurd (Option.some.inj h') e2
          · intro h'
            have := (h.inv p b).2 h'
            rw [hw] at this
            exact absurd (Option.some.inj this) e3
    · rw [if_neg e]
      by_cases e2 : free = b
      · subst e2
        rw [if_pos rfl]
        constructor
        · intro h'
          have := (h.inv a free).1 h'
          rw [h.free] at this; cases this
        · intro h'; exact absurd (Option.some.inj h') e
      · rw [if_neg e2]
        by_cases e3 : was = b
        · subst e3
          rw [if_pos rfl]
          constructor
          · intro h'
            have := (h.inv a was).1 h'
            rw [hwf] at this
            exact absurd (Option.some.inj this) e
          · intro h'; cases h'
        · rw [if_neg e3]; exact h.inv a b
  · rw [mget_put, if_neg (fun e => hne e.symm), mget_del, if_pos rfl]
theorem SwInv.at_ {k : Int} {mt mf : List (Int × Int)} {free j : Int} (h : SwInv k mt mf free) (h0 : 0 ≤ j) (h1 : j < k) :
    ∃ b, mget mt j = some b ∧ mget mf b = some j ∧ (b == free) = false := by
  obtain ⟨b, hb⟩ := Option.isSome_iff_exists.1 ((h.dom j).2 ⟨h0, h1⟩)
  have hf := (h.inv j b).1 hb
  refine ⟨b, hb, hf, ?_⟩
  rw [beq_eq_false_iff_ne]
  rintro rfl
  rw [h.free] at hf; cases hf
/-- The first k pages on their own frames. -/
structure IdInv (i : Int) (mt mf : List (Int × Int)) : Prop where
  to_ : ∀ a, mget mt a = if 0 ≤ a ∧ a < i then some a else none
  fr : ∀ b, mget mf b = if 0 ≤ b ∧ b < i then some b else none
  len : (mt.length : Int) = i
theorem IdInv.put {i : Int} {mt mf : List (Int × Int)} (h : IdInv i mt mf) (h0 : 0 ≤ i) : mget mt i = none ∧ mget mf i = none ∧ IdInv (i + 1) (mput mt i i) (mput mf i i) := by
  have e1 : mget mt i = none := by rw [h.to_, if_neg (by omega)]
  have e2 : mget mf i = none := by rw [h.fr, if_neg (by omega)]
  refine ⟨e1, e2, fun a => ?_, fun b => ?_, ?_⟩
  · rw [mget_put, h.to_]
    by_cases e : i = a
    · subst e; rw [if_pos rfl, if_pos (by omega)]
    · rw [if_neg e]
      by_cases c : 0 ≤ a ∧ a < i
      · rw [if_pos c, if_pos (by omega)]
      · rw [if_neg c, if_neg (by omega)]
  · rw [mget_put, h.fr]
    by_cases e : i = b
    · subst e; rw [if_pos rfl, if_pos (by omega)]
    · rw [if_neg e]
      by_cases c : 0 ≤ b ∧ b < i
      · rw [if_pos c, if_pos (by omega)]
      · rw [if_neg c, if_neg (by omega)]
  · rw [length_mput, e1]
    have := h.len
    simp
    omega

set_option maxRecDepth 100000 in
set_option maxHeartbeats 4000000 in
theorem swaps_walk (w0 : World) (n : Int) (_hn : (Lit.int .i64 n).wf = true) (a : Option Addr) (len cap : Nat) (zs : List Int) (hz : InInts .i64 w0 a len zs) (hy : len * 8 ≤ 140737488351232) : Calls Try.prog 4 #[.int .i64 n, .slice a len cap] w0 fun e w' => e = .returned (.bool true) ∧ Below w0.heap.size w0 w' := by
  have hbr := umod1_bd n 10 (by omega) (by omega)
  generalize hk : wrap64 (1 + wrap64 ((IntKind.u64.wrap n).tmod 10)) = k at hbr
  have HK := Lib.hid hk; clear hk
  obtain ⟨hk1, hk10⟩ := hbr
  have hmx := hz.mx
  have HZ := Lib.hid hz; clear hz
  go_enter Try.func4, Try.ntmps4
  go_wp2_with fail
  rw [HK.out]
  refine (tII_New w0).mono ?_; rintro e w1 ⟨g, bt, bf, rfl, hg, hbt, hbf, hT, hB⟩
  go_wp2_with fail
  refine (tables_any w1).mono ?_; rintro e w2 ⟨rfl, hB2⟩
  have hT := hT.below hB2
  have hB := bel_trans hB hB2
  clear hB2
  go_wp2_with fail
  go_loopw [7] (fun i wr => ∃ (j : Int) (mt mf : List (Int × Int)), 0 ≤ j ∧ j ≤ k ∧ i = .int .i64 j ∧ TwoII wr g bt bf mt mf ∧ IdInv j mt mf ∧ Below w0.heap.size w0 wr) (fun i _ => (k - intOf i).toNat)
  case atStart => exact ⟨0, [], [], by omega, by omega, rfl, hT, ⟨fun a => by rw [if_neg (by omega)]; rfl, fun b => by rw [if_neg (by omega)]; rfl, rfl⟩, hB⟩
  case round =>
    clear hT hB
    obtain ⟨j, mt, mf, hj0, hj, rfl, hT, hI, hB⟩ := hrel
    have HI := Lib.hid hI; clear hI
    by_cases hlt : j < k
    · obtain ⟨e1, e2, hI2⟩ := HI.out.put hj0
      have HI2 := Lib.hid hI2; have E1 := Lib.hid e1; have E2 := Lib.hid e2; clear hI2 e1 e2
      go_wp2_with fail
      refine (tII_Map_yes g bt bf mt mf j j wr hT E1.out E2.out).mono ?_; rintro e w3 ⟨rfl, hT3, hc3⟩
      have hB3 := bel_ch hB hc3 (by simp; omega)
      go_wp2
      go_roundw
      case rel => exact ⟨j + 1, _, _, by omega, by omega, rfl, hT3, HI2.out, hB3⟩
      case measure => simp [intOf]; omega
    · have hkn : j = k := by omega
      subst hkn
      have hS := SwInv.start HI.out.len HI.out.to_ HI.out.fr
      have HS := Lib.hid hS; clear hS HI hlt hj hj0
      go_wp2_with fail
      go_loopw [8, 9] (fun fr i wr => ∃ (q : Nat) (free : Int) (mt mf : List (Int × Int)), q ≤ len ∧ q ≤ 40 ∧ i = .int .i64 q ∧ fr = .int .i64 free ∧ TwoII wr g bt bf mt mf ∧ SwInv j mt mf free ∧ Below w0.heap.size w0 wr) (fun _ i _ => (40 - intOf i).toNat)
      case atStart => exact ⟨0, j, mt, mf, by omega, by omega, rfl, rfl, hT, HS.out, hB⟩
      case round =>
        clear hT hB HS
        obtain ⟨q, free, mt, mf, hq, hq40, rfl, rfl, hT, hS, hB⟩ := hrel
        have HS := Lib.hid hS; clear hS
        by_cases hlt : q < len ∧ q < 40
        · obtain ⟨hlt, hlt2⟩ := hlt
          obtain ⟨bx, off, ha, hbx, hcell⟩ := HZ.out.at_ (by omega)
          have kv := (hB.cell (p := ⟨bx, off + q, none⟩) hbx).trans (hcell q hlt)
          have hia := fun w => idx_int (cap := cap) ha hlt w
          clear hcell ha
          generalize zs.getD q 0 = v at *
          have hpb := umod_bd v j (by omega) (by omega)
          generalize hp : wrap64 ((IntKind.u64.wrap v).tmod j) = p at hpb
          have HP := Lib.hid hp; clear hp
          obtain ⟨was, hw, hw2, hS2⟩ := HS.out.step hpb.1 hpb.2
          have hl2 := hS2.len
          have HW := Lib.hid hw; have HW2 := Lib.hid hw2; have HS2 := Lib.hid hS2; have HL2 := Lib.hid hl2; clear hw hw2 hS2 hl2
          go_wp2_with fail
          rw [HP.out]
          refine (tII_Remap_yes g bt bf mt mf p free was wr hT HW.out HS.out.free).mono ?_; rintro e w3 ⟨rfl, hT3, hc3⟩
          have hB3 := bel_ch hB hc3 (by simp; omega)
          go_wp2_with fail
          refine (tII_Len g bt bf _ _ w3 hT3).mono ?_; rintro e w4 ⟨rfl, rfl⟩
          rw [HL2.out]
          go_wp2_with fail
          refine (tII_Remap_no g bt bf _ _ p free w3 hT3 (Or.inr HW2.out)).mono ?_; rintro e w4 ⟨rfl, rfl⟩
          generalize mput mt p free = mt3 at *
          generalize mput (mdel mf was) free p = mf3 at *
          clear hT hB hc3 kv hia hbx
          go_wp2_with fail
          go_loopw [15] (fun i wr => ∃ s : Int, 0 ≤ s ∧ s ≤ j ∧ i = .int .i64 s ∧ w3 = wr) (fun i _ => (j - intOf i).toNat)
          case atStart => exact ⟨0, by omega, by omega, rfl, rfl⟩
          case round =>
            obtain ⟨s, hs0, hs, rfl, rfl⟩ := hrel
            by_cases hsj : s < j
            · obtain ⟨b, e1, e2, e3⟩ := HS2.out.at_ hs0 hsj
              have E1 := Lib.hid e1; have E2 := Lib.hid e2; clear e1 e2
              go_wp2_with fail
              refine (tII_To g bt bf _ _ s w3 hT3).mono ?_; rintro e w4 ⟨rfl, rfl⟩
              rw [E1.out]
              go_wp2_with fail
              refine (tII_From g bt bf _ _ b w3 hT3).mono ?_; rintro e w4 ⟨rfl, rfl⟩
              rw [E2.out]
              go_wp2
              go_roundw
              case rel => exact ⟨s + 1, by omega, by omega, rfl, by trivial⟩
              case measure => simp [intOf]; omega
            · go_wp2
              go_roundw
              case rel =>
                exact ⟨q + 1, was, mt3, mf3, by omega, by omega, by go_num, rfl, hT3, HS2.out, hB3⟩
              case measure => simp [intOf]; omega
        · rcases (by omega : len ≤ q ∨ (q < len ∧ 40 ≤ q)) with hh | ⟨hh, hh2⟩
          all_goals
            go_wp2
            go_ret
            exact ⟨rfl, hB⟩
end Go.Proofs.Ytkjhodaglanpmaa
