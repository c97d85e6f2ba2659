/- The law NodesetMore. -/
import Derived.Test.YtcanhegjhbhkhaaDoorNodesetCuts
import Derived.Deep.CutBlock
namespace Go.Proofs.YtcanhegjhbhkhaaDoor
open Go.RowKit Go.Shelf
set_option linter.unusedVariables false
set_option linter.unusedSimpArgs false
attribute [local go_sem] World.cell?_alloc_lt

/-- How long the text of a set is, with a comma; the sets' bits one by one. -/
def costF : Nat → Nat → Nat → Nat
  | 0, _, r => min (2 * r) 4
  | f + 1, s, r => if s % 2 = 1 then costF f (s / 2) (r + 1) else min (2 * r) 4 + costF f (s / 2) 0
def costT (s : Nat) : Nat := costF 8 s 0
theorem cost_text : ∀ s : Nat, s < 256 → 0 < s → (textB s).size + 1 = costT s := by decide +kernel
theorem cost_one : ∀ s : Nat, s < 256 → ∀ a : Nat, a < 8 → costT (orK s a 1) ≤ costT s + 2 := by decide +kernel
theorem cost_more : ∀ s : Nat, s < 256 → ∀ a : Nat, a < 8 → ∀ k : Nat, k < 8 - a → costT (orK s a (k + 1)) ≤ costT s + 4 := by decide +kernel
theorem orN_pos : ∀ s : Nat, s < 256 → ∀ n : Nat, n < 8 → 0 < orN s n := by decide +kernel
theorem part_one : ∀ a : Nat, a < 8 → partR (digB a).data.toList = ((a : Int), (a : Int), true) := by decide +kernel
theorem part_two : ∀ a : Nat, a < 8 → ∀ b : Nat, b < 8 → a ≤ b → partR (digB a ++ ⟨#[45]⟩ ++ digB b).data.toList = ((a : Int), (b : Int), true) := by decide +kernel
theorem free_one : ∀ a : Nat, a < 8 → (digB a).data.toList.contains 44 = false := by decide +kernel
theorem free_two : ∀ a : Nat, a < 8 → ∀ b : Nat, b < 8 → (digB a ++ ⟨#[45]⟩ ++ digB b).data.toList.contains 44 = false := by decide +kernel
theorem splitL_free : ∀ {p : List UInt8}, p.contains 44 = false → splitL 44 p = [p] := by
  intro p
  induction p with
  | nil => intro _; rfl
  | cons x t ih =>
    intro h
    rw [List.contains_cons, Bool.or_eq_false_iff] at h
    have hx : x ≠ 44 := fun e => by rw [e] at h; simp at h
    simp only [splitL, if_neg hx, ih h.2]
theorem splitL_snoc : ∀ (t : List UInt8) {p : List UInt8}, p.contains 44 = false → splitL 44 (t ++ 44 :: p) = splitL 44 t ++ [p] := by
  intro t
  induction t with
  | nil =>
    intro p h
    simp only [List.nil_append, splitL, if_true, splitL_free h]
    rfl
  | cons x t ih =>
    intro p h
    rw [List.cons_append]
    by_cases e : x = 44
    · simp only [splitL, if_pos e, ih h]
      rfl
    · simp only [splitL, if_neg e, ih h]
      have hn := splitL_ne 44 t
      cases h2 : splitL 44 t with
      | nil => exact absurd h2 hn
      | cons q qs => rfl
/-- What the text and the set are, behind so many parts. -/
def MInv (i : Nat) (text : ByteArray) (st : Nat) : Prop := (i = 0 ∧ text = ByteArray.empty ∧ st = 0) ∨ (0 < i ∧ foldP (splitL 44 text.data.toList) 0 = some st ∧ 0 < st ∧ costT st ≤ text.size + 1)
theorem orK_pos {s a k : Nat} (hs : s < 256) (hk : 0 < k) (h : a + k ≤ 8) : 0 < orK s a k := by
  obtain ⟨j, rfl⟩ : ∃ j, k = j + 1 := ⟨k - 1, by omega⟩
  exact orN_pos _ (orK_lt s a hs j (by omega)) _ (by omega)
theorem foldP_one {p : List UInt8} {a b s : Nat} (h : partR p = ((a : Int), (b : Int), true)) : foldP [p] s = some (orK s a (b + 1 - a)) := by
  rw [foldP, h]
  simp only [if_true, Int.toNat_natCast]
  rfl
/-- One part more. -/
theorem minv_step {i st a b : Nat} {text p : ByteArray} (h : MInv i text st) (hst : st < 256) (hp : partR p.data.toList = ((a : Int), (b : Int), true)) (hf : p.data.toList.contains 44 = false) (hab : a ≤ b) (hb : b < 8) (hc : costT (orK st a (b + 1 - a)) ≤ costT st + (p.size + 1)) :
    MInv (i + 1) (if i = 0 then text ++ p else text ++ ⟨#[44]⟩ ++ p) (orK st a (b + 1 - a)) := by
  rcases h with ⟨rfl, rfl, rfl⟩ | ⟨hi, h1, h2, h3⟩
  · refine Or.inr ⟨by omega, ?_, orK_pos hst (by omega) (by omega), ?_⟩
    · rw [if_pos rfl, cat_data, show ByteArray.empty.data.toList = [] from rfl, List.nil_append, splitL_free hf, foldP_one hp]
    · rw [if_pos rfl, ByteArray.size_append]
      have : costT 0 = 0 := by decide
      have h0 : ByteArray.empty.size = 0 := rfl
      omega
  · refine Or.inr ⟨by omega, ?_, orK_pos hst (by omega) (by omega), ?_⟩
    · rw [if_neg (by omega), cat_data, cat_data, List.append_assoc]
      show foldP (splitL 44 (text.data.toList ++ 44 :: p.data.toList)) 0 = _
      rw [splitL_snoc _ hf, foldP_snoc, h1]
      exact foldP_one hp
    · rw [if_neg (by omega), ByteArray.size_append, ByteArray.size_append, show (⟨#[44]⟩ : ByteArray).size = 1 from rfl]
      omega
theorem not_none {text : ByteArray} {st : Nat} (h : foldP (splitL 44 text.data.toList) 0 = some st) : parseO text = some st := by
  unfold parseO
  by_cases e : text = noneB
  · exfalso
    rw [e, show foldP (splitL 44 noneB.data.toList) 0 = none by decide] at h
    cases h
  · rw [if_neg e]; exact h
set_option maxRecDepth 100000 in
set_option maxHeartbeats 8000000 in
theorem nodesetMore_walk (w0 : World) (a0 : Option Addr) (n0 c0 : Nat) (z0 : List Int) (h0 : InInts .i64 w0 a0 n0 z0) (y0 : n0 * 8 ≤ 140737488351232) (a1 : Option Addr) (n1 c1 : Nat) (z1 : List Int) (h1 : InInts .i64 w0 a1 n1 z1) (y1 : n1 * 8 ≤ 140737488351232) (_h : True) : Calls Tryd.prog 5 #[.slice a0 n0 c0, .slice a1 n1 c1] w0 fun e w' => e = .returned (.bool true) ∧ Below w0.heap.size w0 w' := by
  have HL := Lib.hid (InI.inn h0); have HE := Lib.hid (InI.inn h1)
  clear h0 h1
  go_enter Tryd.func5, Tryd.ntmps5
  go_upto_block 0 with fail
  go_cut [5, 6] (fun v5 v6 wx => ∃ (text : ByteArray) (st : Nat), v5 = .string text ∧ v6 = .int .u8 (st : Int) ∧ st < 256 ∧ text.size ≤ 32 ∧ ((n0 = 0 ∧ text = ByteArray.empty) ∨ (0 < n0 ∧ foldP (splitL 44 text.data.toList) 0 = some st ∧ 0 < st ∧ costT st ≤ text.size + 1)) ∧ Below w0.heap.size w0 wx)
  case first =>
    have hB0 := Below.refl w0.heap.size w0
    go_wp2_with fail
    go_loopw [7, 5, 6] (fun v v5 v6 wr => ∃ (i st : Nat) (text : ByteArray), i ≤ 8 ∧ i ≤ n0 ∧ v = .int .i64 (i : Int) ∧ v5 = .string text ∧ v6 = .int .u8 (st : Int) ∧ st < 256 ∧ text.size ≤ 4 * i ∧ MInv i text st ∧ Below w0.heap.size w0 wr) (fun v _ _ _ => 8 - (intOf v).toNat)
    case atStart => exact ⟨0, 0, ByteArray.empty, by omega, by omega, rfl, rfl, rfl, by omega, by simp, Or.inl ⟨rfl, rfl, rfl⟩, hB0⟩
    case round =>
      clear hB0
      obtain ⟨i, st, text, hi8, hin, rfl, rfl, rfl, hst, hsz, hinv, hB⟩ := hrel
      have HI := Lib.hid hinv
      clear hinv
      by_cases g1 : i < n0
      · by_cases g2 : i < 8
        · obtain ⟨bz, oz, rfl, hbz, hcz⟩ := (HL.out.below hB).get g1
          have hix := fun w => idxI bz oz n0 c0 i g1 w
          generalize z0.getD i 0 = z at *
          obtain ⟨hr1, hr2⟩ := umod_bd z 8 (by omega) (by omega)
          obtain ⟨a, ha⟩ := Int.eq_ofNat_of_zero_le hr1
          have ha8 : a < 8 := by omega
          rw [ha] at hr1 hr2
          have HA := Lib.hid ha
          have hcv := conv_byte (wr.alloc (.cells #[.int .u8 (48 + (a : Int))] 5)) wr.heap.size (48 + a) (by
            have h := (Blk.new wr 5 [.int .u8 (48 + (a : Int))]).at_ (i := 0) rfl
            rw [show ((48 + a : Nat) : Int) = 48 + (a : Int) by omega]
            exact h)
          change (convert 44 9 (.slice (some ⟨wr.heap.size, 0, none⟩) 1 1)).run Tryd.prog (wr.alloc (.cells #[.int .u8 (48 + (a : Int))] 5)) = .ok (.string (digB a)) (wr.alloc (.cells #[.int .u8 (48 + (a : Int))] 5)) at hcv
          have hd1 := digB_size a
          have h1 := part_one a ha8
          have h2 := free_one a ha8
          have H1 := Lib.hid h1; have H2 := Lib.hid h2
          have hB2 := bel_alloc hB (.cells #[.int .u8 (48 + (a : Int))] 5)
          have HBB2 := Lib.hid hB2
          clear h1 h2 hB2
          generalize hda : digB a = da at *
          have HDA := Lib.hid hda
          clear hda
          by_cases g3 : i < n1 ∧ (z1.getD i 0).tmod 3 = 0
          · obtain ⟨g3, g4⟩ := g3
            obtain ⟨be, oe, rfl, hbe, hce⟩ := (HE.out.below hB).get g3
            have hie := fun w => idxI be oe n1 c1 i g3 w
            generalize z1.getD i 0 = y at *
            obtain ⟨hq1, hq2⟩ := umod_bd y (8 - (a : Int)) (by omega) (by omega)
            have hum : IntKind.u64.wrap (8 - (a : Int)) = 8 - (a : Int) := by
              simp only [IntKind.wrap]
              simp [IntKind.signed, IntKind.bits]
              omega
            have hne : (8 - (a : Int) == 0) = false := by rw [beq_eq_false_iff_ne]; omega
            have hne2 : 8 - (a : Int) ≠ 0 := by omega
            have g5 : (y.tmod 3 == 0) = true := by rw [beq_iff_eq]; exact g4
            obtain ⟨q, hq⟩ := Int.eq_ofNat_of_zero_le hq1
            rw [hq] at hq1 hq2
            have HQ := Lib.hid hq
            clear g4
            have hbb8 : a + q < 8 := by omega
            have hcv2 := conv_byte ((wr.alloc (.cells #[.int .u8 (48 + (a : Int))] 5)).alloc (.cells #[.int .u8 (48 + ((a : Int) + (q : Int)))] 5)) (wr.heap.size + 1) (48 + (a + q)) (by
              have h := (Blk.new (wr.alloc (.cells #[.int .u8 (48 + (a : Int))] 5)) 5 [.int .u8 (48 + ((a : Int) + (q : Int)))]).at_ (i := 0) rfl
              rw [World.size_alloc] at h
              rw [show ((48 + (a + q) : Nat) : Int) = 48 + ((a : Int) + (q : Int)) by omega]
              exact h)
            change (convert 44 9 (.slice (some ⟨wr.heap.size + 1, 0, none⟩) 1 1)).run Tryd.prog ((wr.alloc (.cells #[.int .u8 (48 + (a : Int))] 5)).alloc (.cells #[.int .u8 (48 + ((a : Int) + (q : Int)))] 5)) = .ok (.string (digB (a + q))) ((wr.alloc (.cells #[.int .u8 (48 + (a : Int))] 5)).alloc (.cells #[.int .u8 (48 + ((a : Int) + (q : Int)))] 5)) at hcv2
            have hd2 := digB_size (a + q)
            have k1 := part_two a ha8 (a + q) hbb8 (by omega)
            have k2 := free_two a ha8 (a + q) hbb8
            have k3 := cost_more st hst a ha8 q (by omega)
            rw [HDA.out] at k1 k2
            obtain ⟨bb, hbb⟩ : ∃ bb, bb = a + q := ⟨_, rfl⟩
            generalize digB (a + q) = db at *
            have hpz : (da ++ ⟨#[45]⟩ ++ db).size = 3 := by
              rw [ByteArray.size_append, ByteArray.size_append, hd1, hd2]
              rfl
            have HPP := Lib.hid k1; have HFF := Lib.hid k2
            rw [← hbb] at HPP
            have hcost : costT (orK st a (bb + 1 - a)) ≤ costT st + ((da ++ ⟨#[45]⟩ ++ db).size + 1) := by
              rw [show bb + 1 - a = q + 1 by omega, hpz]; exact k3
            have HCC := Lib.hid hcost; have HPZ := Lib.hid hpz
            have HBN := Lib.hid (bel_alloc HBB2.out (.cells #[.int .u8 (48 + ((a : Int) + (q : Int)))] 5))
            have hab : a ≤ bb := by omega
            have hb8 : bb < 8 := by omega
            have hbi1 : (bb : Int) ≤ (a : Int) + (q : Int) := by omega
            have hbi2 : (a : Int) + (q : Int) ≤ (bb : Int) := by omega
            clear k1 k2 k3 hcost hbb
            go_wp2_with fail
            have hpz := HPZ.out
            generalize hpp : da ++ ⟨#[45]⟩ ++ db = pp at *
            have HPQ := Lib.hid hpp
            clear hpp
            go_loopw [11, 6] (fun v11 v6 wx => ∃ k : Nat, a + k ≤ bb + 1 ∧ v11 = .int .i64 ((a : Int) + (k : Int)) ∧ v6 = .int .u8 (orK st a k : Int) ∧ wx = ((wr.alloc (.cells #[.int .u8 (48 + (a : Int))] 5)).alloc (.cells #[.int .u8 (48 + ((a : Int) + (q : Int)))] 5))) (fun v _ _ => bb + 1 - (intOf v).toNat)
            case atStart => exact ⟨0, by omega, by first | (simp; done) | (simp [ha]; done), rfl, rfl⟩
            case round =>
              obtain ⟨k, hk, rfl, rfl, rfl⟩ := hrel
              by_cases hlt : a + k ≤ bb
              · have hob := or_bits (orK st a k) (orK_lt st a hst k (by omega)) (a + k) (by omega)
                have hstep : orN (orK st a k) (a + k) = orK st a (k + 1) := rfl
                have HST := Lib.hid hstep
                clear hstep
                generalize orK st a k = s0 at *
                go_wp2_with fail
                go_roundw
                case rel => exact ⟨k + 1, by omega, by rw [Int.natCast_succ, ← Int.add_assoc], by rw [← HST.out, ← hob], by first | rfl | trivial⟩
                case measure => simp [intOf]; omega
              · have hke : k = bb + 1 - a := by omega
                subst hke
                have hk256 := orK_lt st a hst (bb + 1 - a) (by omega)
                have hnx := minv_step HI.out hst HPP.out HFF.out (by omega) (by omega) (HCC.out)
                have hnz : (if i = 0 then text ++ pp else text ++ ⟨#[44]⟩ ++ pp).size ≤ 4 * (i + 1) := by
                  split
                  · rw [ByteArray.size_append]; omega
                  · rw [ByteArray.size_append, ByteArray.size_append, show (⟨#[44]⟩ : ByteArray).size = 1 from rfl]; omega
                rcases Nat.eq_zero_or_pos i with hi0 | hi0
                · rw [if_pos hi0] at hnx hnz
                  have HNX := Lib.hid hnx; have HNZ := Lib.hid hnz
                  have hi0' : ¬ ((0 : Int) < (i : Int)) := by omega
                  have hi1 : i + 1 ≤ 8 := by omega
                  clear hnx hnz hi0
                  go_wp2_with fail
                  go_roundw
                  case rel => exact ⟨i + 1, orK st a (bb + 1 - a), _, hi1, by omega, by go_num, rfl, rfl, hk256, HNZ.out, HNX.out, HBN.out⟩
                  case measure => simp [intOf]; omega
                · rw [if_neg (by omega)] at hnx hnz
                  have HNX := Lib.hid hnx; have HNZ := Lib.hid hnz
                  have hi0' : (0 : Int) < (i : Int) := by omega
                  clear hnx hnz hi0
                  go_wp2_with fail
                  go_roundw
                  case rel => exact ⟨i + 1, orK st a (bb + 1 - a), _, by omega, by omega, by go_num, rfl, rfl, hk256, HNZ.out, HNX.out, HBN.out⟩
                  case measure => simp [intOf]; omega
          · rcases Nat.lt_or_ge i n1 with g5 | g5
            · have g6 : ((z1.getD i 0).tmod 3 == 0) = false := by
                rw [beq_eq_false_iff_ne]
                exact fun h => g3 ⟨g5, h⟩
              obtain ⟨be, oe, rfl, hbe, hce⟩ := (HE.out.below hB).get g5
              have hie := fun w => idxI be oe n1 c1 i g5 w
              generalize z1.getD i 0 = y at *
              clear g3
              have hcost : costT (orK st a (a + 1 - a)) ≤ costT st + (da.size + 1) := by
                rw [show a + 1 - a = 1 by omega, hd1]; exact cost_one st hst a ha8
              have HPP := H1; have HFF := H2
              obtain ⟨bb, hbb⟩ : ∃ bb, bb = a := ⟨_, rfl⟩
              have hpp1 : partR da.data.toList = ((a : Int), (bb : Int), true) := by rw [hbb]; exact H1.out
              have HPP := Lib.hid hpp1
              rw [← hbb] at hcost
              have hcost2 : costT (orK st a (bb + 1 - a)) ≤ costT st + (da.size + 1) := by
                rw [show bb + 1 - a = 1 by omega]
                rw [show bb + 1 - bb = 1 by omega] at hcost
                rw [← hbb]; exact hcost
              have HCC := Lib.hid hcost2
              have HBN := HBB2
              have hab : a ≤ bb := by omega
              have hb8 : bb < 8 := by omega
              have hbi1 : (bb : Int) ≤ (a : Int) := by omega
              have hbi2 : (a : Int) ≤ (bb : Int) := by omega
              have hpz := hd1
              clear hcost hcost2 hpp1 hbb
              go_wp2_with fail
              obtain ⟨pp, rfl⟩ : ∃ pp, pp = da := ⟨_, rfl⟩
              go_loopw [11, 6] (fun v11 v6 wx => ∃ k : Nat, a + k ≤ bb + 1 ∧ v11 = .int .i64 ((a : Int) + (k : Int)) ∧ v6 = .int .u8 (orK st a k : Int) ∧ wx = (wr.alloc (.cells #[.int .u8 (48 + (a : Int))] 5))) (fun v _ _ => bb + 1 - (intOf v).toNat)
              case atStart => exact ⟨0, by omega, by first | (simp; done) | (simp [ha]; done), rfl, rfl⟩
              case round =>
                obtain ⟨k, hk, rfl, rfl, rfl⟩ := hrel
                by_cases hlt : a + k ≤ bb
                · have hob := or_bits (orK st a k) (orK_lt st a hst k (by omega)) (a + k) (by omega)
                  have hstep : orN (orK st a k) (a + k) = orK st a (k + 1) := rfl
                  have HST := Lib.hid hstep
                  clear hstep
                  generalize orK st a k = s0 at *
                  go_wp2_with fail
                  go_roundw
                  case rel => exact ⟨k + 1, by omega, by rw [Int.natCast_succ, ← Int.add_assoc], by rw [← HST.out, ← hob], by first | rfl | trivial⟩
                  case measure => simp [intOf]; omega
                · have hke : k = bb + 1 - a := by omega
                  subst hke
                  have hk256 := orK_lt st a hst (bb + 1 - a) (by omega)
                  have hnx := minv_step HI.out hst HPP.out HFF.out (by omega) (by omega) (HCC.out)
                  have hnz : (if i = 0 then text ++ pp else text ++ ⟨#[44]⟩ ++ pp).size ≤ 4 * (i + 1) := by
                    split
                    · rw [ByteArray.size_append]; omega
                    · rw [ByteArray.size_append, ByteArray.size_append, show (⟨#[44]⟩ : ByteArray).size = 1 from rfl]; omega
                  rcases Nat.eq_zero_or_pos i with hi0 | hi0
                  · rw [if_pos hi0] at hnx hnz
                    have HNX := Lib.hid hnx; have HNZ := Lib.hid hnz
                    have hi0' : ¬ ((0 : Int) < (i : Int)) := by omega
                    have hi1 : i + 1 ≤ 8 := by omega
                    clear hnx hnz hi0
                    go_wp2_with fail
                    go_roundw
                    case rel => exact ⟨i + 1, orK st a (bb + 1 - a), _, hi1, by omega, by go_num, rfl, rfl, hk256, HNZ.out, HNX.out, HBN.out⟩
                    case measure => simp [intOf]; omega
                  · rw [if_neg (by omega)] at hnx hnz
                    have HNX := Lib.hid hnx; have HNZ := Lib.hid hnz
                    have hi0' : (0 : Int) < (i : Int) := by omega
                    clear hnx hnz hi0
                    go_wp2_with fail
                    go_roundw
                    case rel => exact ⟨i + 1, orK st a (bb + 1 - a), _, by omega, by omega, by go_num, rfl, rfl, hk256, HNZ.out, HNX.out, HBN.out⟩
                    case measure => simp [intOf]; omega
            · clear g3
              have hcost : costT (orK st a (a + 1 - a)) ≤ costT st + (da.size + 1) := by
                rw [show a + 1 - a = 1 by omega, hd1]; exact cost_one st hst a ha8
              have HPP := H1; have HFF := H2
              obtain ⟨bb, hbb⟩ : ∃ bb, bb = a := ⟨_, rfl⟩
              have hpp1 : partR da.data.toList = ((a : Int), (bb : Int), true) := by rw [hbb]; exact H1.out
              have HPP := Lib.hid hpp1
              rw [← hbb] at hcost
              have hcost2 : costT (orK st a (bb + 1 - a)) ≤ costT st + (da.size + 1) := by
                rw [show bb + 1 - a = 1 by omega]
                rw [show bb + 1 - bb = 1 by omega] at hcost
                rw [← hbb]; exact hcost
              have HCC := Lib.hid hcost2
              have HBN := HBB2
              have hab : a ≤ bb := by omega
              have hb8 : bb < 8 := by omega
              have hbi1 : (bb : Int) ≤ (a : Int) := by omega
              have hbi2 : (a : Int) ≤ (bb : Int) := by omega
              have hpz := hd1
              clear hcost hcost2 hpp1 hbb
              go_wp2_with fail
              obtain ⟨pp, rfl⟩ : ∃ pp, pp = da := ⟨_, rfl⟩
              go_loopw [11, 6] (fun v11 v6 wx => ∃ k : Nat, a + k ≤ bb + 1 ∧ v11 = .int .i64 ((a : Int) + (k : Int)) ∧ v6 = .int .u8 (orK st a k : Int) ∧ wx = (wr.alloc (.cells #[.int .u8 (48 + (a : Int))] 5))) (fun v _ _ => bb + 1 - (intOf v).toNat)
              case atStart => exact ⟨0, by omega, by first | (simp; done) | (simp [ha]; done), rfl, rfl⟩
              case round =>
                obtain ⟨k, hk, rfl, rfl, rfl⟩ := hrel
                by_cases hlt : a + k ≤ bb
                · have hob := or_bits (orK st a k) (orK_lt st a hst k (by omega)) (a + k) (by omega)
                  have hstep : orN (orK st a k) (a + k) = orK st a (k + 1) := rfl
                  have HST := Lib.hid hstep
                  clear hstep
                  generalize orK st a k = s0 at *
                  go_wp2_with fail
                  go_roundw
                  case rel => exact ⟨k + 1, by omega, by rw [Int.natCast_succ, ← Int.add_assoc], by rw [← HST.out, ← hob], by first | rfl | trivial⟩
                  case measure => simp [intOf]; omega
                · have hke : k = bb + 1 - a := by omega
                  subst hke
                  have hk256 := orK_lt st a hst (bb + 1 - a) (by omega)
                  have hnx := minv_step HI.out hst HPP.out HFF.out (by omega) (by omega) (HCC.out)
                  have hnz : (if i = 0 then text ++ pp else text ++ ⟨#[44]⟩ ++ pp).size ≤ 4 * (i + 1) := by
                    split
                    · rw [ByteArray.size_append]; omega
                    · rw [ByteArray.size_append, ByteArray.size_append, show (⟨#[44]⟩ : ByteArray).size = 1 from rfl]; omega
                  rcases Nat.eq_zero_or_pos i with hi0 | hi0
                  · rw [if_pos hi0] at hnx hnz
                    have HNX := Lib.hid hnx; have HNZ := Lib.hid hnz
                    have hi0' : ¬ ((0 : Int) < (i : Int)) := by omega
                    have hi1 : i + 1 ≤ 8 := by omega
                    clear hnx hnz hi0
                    go_wp2_with fail
                    go_roundw
                    case rel => exact ⟨i + 1, orK st a (bb + 1 - a), _, hi1, by omega, by go_num, rfl, rfl, hk256, HNZ.out, HNX.out, HBN.out⟩
                    case measure => simp [intOf]; omega
                  · rw [if_neg (by omega)] at hnx hnz
                    have HNX := Lib.hid hnx; have HNZ := Lib.hid hnz
                    have hi0' : (0 : Int) < (i : Int) := by omega
                    clear hnx hnz hi0
                    go_wp2_with fail
                    go_roundw
                    case rel => exact ⟨i + 1, orK st a (bb + 1 - a), _, by omega, by omega, by go_num, rfl, rfl, hk256, HNZ.out, HNX.out, HBN.out⟩
                    case measure => simp [intOf]; omega
        · obtain rfl : i = 8 := by omega
          have hend : (n0 = 0 ∧ text = ByteArray.empty) ∨ (0 < n0 ∧ foldP (splitL 44 text.data.toList) 0 = some st ∧ 0 < st ∧ costT st ≤ text.size + 1) := by
            rcases HI.out with ⟨h, _⟩ | ⟨_, h⟩
            · omega
            · exact Or.inr ⟨by omega, h⟩
          have HEND := Lib.hid hend
          clear hend
          go_wp2_with fail
          go_meet
          exact ⟨text, st, rfl, rfl, hst, by omega, HEND.out, hB⟩
      · obtain rfl : i = n0 := by omega
        have hend : (i = 0 ∧ text = ByteArray.empty) ∨ (0 < i ∧ foldP (splitL 44 text.data.toList) 0 = some st ∧ 0 < st ∧ costT st ≤ text.size + 1) := by
          rcases HI.out with ⟨h, h2, _⟩ | ⟨h0, h⟩
          · exact Or.inl ⟨h, h2⟩
          · exact Or.inr ⟨h0, h⟩
        have HEND := Lib.hid hend
        clear hend
        go_wp2_with fail
        go_meet
        exact ⟨text, st, rfl, rfl, hst, by omega, HEND.out, hB⟩
  case rest =>
    obtain ⟨text, st, rfl, rfl, hst, hsz, hor, hB⟩ := hcut
    have hpa := fun w => parse_any text (by omega) w
    rcases hor with ⟨hn, rfl⟩ | ⟨hn, hf, hpos, hcost⟩
    · rw [show parseO ByteArray.empty = none by decide] at hpa
      simp only [parseV] at hpa
      have HPA := Lib.hid hpa
      have hn0 : ((n0 : Int) == 0) = true := by rw [hn]; rfl
      clear hpa hn
      go_wp2_with fail
      refine (HPA.out _).mono ?_; rintro e w1 ⟨rfl, hB1⟩
      go_wp2_with fail
      refine (sets_any _).mono ?_; rintro e w2 ⟨rfl, hB2⟩
      go_wp2_with fail
      refine (sets_any _).mono ?_; rintro e w3 ⟨rfl, hB3⟩
      go_wp2_with fail
      go_ret
      exact ⟨rfl, bel_trans (bel_trans (bel_trans hB hB1) hB2) hB3⟩
    · rw [not_none hf] at hpa
      simp only [parseV] at hpa
      have hlen : ((textB st).size : Int) ≤ (text.size : Int) := by
        have := cost_text st hst hpos
        omega
      have htx := fun w => text_at st hst w
      have HPA := Lib.hid hpa; have HTX := Lib.hid htx
      have hn0 : ((n0 : Int) == 0) = false := by rw [beq_eq_false_iff_ne]; omega
      have hss : ((st : Int) == (st : Int)) = true := by simp
      have hsz2 : (textB st).size ≤ text.size := by omega
      clear hpa hf hcost htx hn hpos
      generalize textB st = tx at *
      go_wp2_with fail
      refine (HPA.out _).mono ?_; rintro e w1 ⟨rfl, hB1⟩
      go_wp2_with fail
      refine (sets_any _).mono ?_; rintro e w2 ⟨rfl, hB2⟩
      go_wp2_with fail
      refine (HTX.out _).mono ?_; rintro e w3 ⟨rfl, hB3⟩
      go_wp2_with fail
      go_ret
      exact ⟨rfl, bel_trans (bel_trans (bel_trans hB hB1) hB2) hB3⟩
end Go.Proofs.YtcanhegjhbhkhaaDoor
