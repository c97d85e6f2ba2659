/- The law GridPuts. -/
import Derived.Test.YtkjhodaglanpmaaGridRef
import Derived.Test.YtkjhodaglanpmaaGridTexts
import Derived.Test.YtkjhodaglanpmaaGridI3
import Derived.Test.YtkjhodaglanpmaaInRecs
namespace Go.Proofs.Ytkjhodaglanpmaa
open Go.RowKit
set_option linter.unusedVariables false
set_option linter.unusedSimpArgs false
attribute [local go_sem] World.cell?_alloc_lt

/-- Puts that came in. -/
structure InPuts (w : World) (a : Option Addr) (len : Nat) (R C X : Nat → Int) : Prop where
  mx : len ≤ 9223372036854775807
  at_ : 0 < len → ∃ b off, a = some ⟨b, off, none⟩ ∧ b < w.heap.size ∧ ∀ i, i < len → w.cell? ⟨b, off + i * 3, none⟩ = some (.int .i64 (R i)) ∧ w.cell? ⟨b, off + i * 3 + 1, none⟩ = some (.int .i64 (C i)) ∧ w.cell? ⟨b, off + i * 3 + 2, none⟩ = some (.int .i64 (X i))
def intV : Value → Int
  | .int _ x => x
  | _ => 0
set_option maxRecDepth 100000 in
theorem open_puts {H : Type} {enc : TypeId × Value → H} {W : World} {base : Nat} {held : Bool} {r : Reach} {b0 : Nat} {v : Value} {d : DataW H} {p : List MemPlace} (hv : Value.okWide Try.prog W r b0 82 v) (h : DataW.Trod enc Try.prog W base (fun _ => true) held 82 v d p) :
    ∃ a len cap R C X, v = .slice a len cap ∧ InPuts W a len R C X := by
  obtain ⟨a, len, cap, rfl⟩ := WideShapes.okWide_slice Try.underlying82 hv
  obtain ⟨V, hm, _, hc⟩ := open_recs Try.underlying82 Try.underlying88 (by kernel_rfl) (by kernel_rfl) (by decide) h
  refine ⟨a, len, cap, fun i => intV (V i 0), fun i => intV (V i 1), fun i => intV (V i 2), rfl, hm, fun hp => ?_⟩
  obtain ⟨b, off, ha, hb, hcell⟩ := hc hp
  refine ⟨b, off, ha, hb, fun i hi => ?_⟩
  obtain ⟨h0, n0, y0, t0⟩ := hcell i hi 0 _ rfl
  obtain ⟨h1, n1, y1, t1⟩ := hcell i hi 1 _ rfl
  obtain ⟨h2, n2, y2, t2⟩ := hcell i hi 2 _ rfl
  obtain ⟨x0, e0, _⟩ := DataW.trod_int Try.underlying3 t0
  obtain ⟨x1, e1, _⟩ := DataW.trod_int Try.underlying3 t1
  obtain ⟨x2, e2, _⟩ := DataW.trod_int Try.underlying3 t2
  simp only [List.cons.injEq, and_true] at e0 e1 e2
  rw [e0] at h0
  rw [e1] at h1
  rw [e2] at h2
  refine ⟨?_, ?_, ?_⟩
  · show _ = some (Value.int .i64 (intV (V i 0))); rw [e0]; exact h0
  · show _ = some (Value.int .i64 (intV (V i 1))); rw [e1]; exact h1
  · show _ = some (Value.int .i64 (intV (V i 2))); rw [e2]; exact h2
theorem idx_put {A : Option Addr} {b off len cap i : Nat} (ha : A = some ⟨b, off, none⟩) (hi : i < len) (w : World) : (Instr.indexAt 82 (.slice A len cap) (.int .i64 (i : Int))).run Try.prog w = .ok (.pointer (some ⟨b, off + i * 3, none⟩)) w := by
  subst ha
  simp [go_sem, hi]
theorem idx_oint (g m cp i : Nat) (hi : i < m) (w : World) : (Instr.indexAt 33 (.slice (some ⟨g, 0, none⟩) m cp) (.int .i64 (i : Int))).run Try.prog w = .ok (.pointer (some ⟨g, i, none⟩)) w := by
  simp [go_sem, hi]
theorem after_call2 {P : Program} {f : FuncId} {args : Array Value} {w : World} {v : Value} (h : ∀ w', Below w.heap.size w w' → Calls P f args w' fun e w'' => e = .returned v ∧ Below w'.heap.size w' w'') (x : After w) :
    Calls P f args x.1 fun e w'' => e = .returned v ∧ ∃ y : After w, w'' = y.1 :=
  (h x.1 x.2).mono fun _ w'' ⟨he, hb⟩ => ⟨he, ⟨w'', bel_trans x.2 hb⟩, rfl⟩
theorem inG_yes {rows cols : Nat} {r c : Int} (h : inG rows cols r c = true) : ∃ r' c' : Nat, r = (r' : Int) ∧ c = (c' : Int) ∧ r' < rows ∧ c' < cols := by
  unfold inG at h
  simp only [decide_eq_true_eq] at h
  obtain ⟨r', e1⟩ := Int.eq_ofNat_of_zero_le h.1
  obtain ⟨c', e2⟩ := Int.eq_ofNat_of_zero_le h.2.2.1
  exact ⟨r', c', e1, e2, by omega, by omega⟩
theorem inG_no {rows cols : Nat} {r c : Int} (h : inG rows cols r c = false) : r < 0 ∨ (rows : Int) ≤ r ∨ c < 0 ∨ (cols : Int) ≤ c := by
  unfold inG at h
  simp only [decide_eq_false_iff_not] at h
  omega
theorem gi_Same_turned (g b g4 b4 rows cols : Nat) (xs : List Int) (w : World) (hG : GridI w g b rows cols xs) (hT : GridI w g4 b4 cols rows (turnTo 0 xs rows cols xs.length)) :
    Calls Try.prog 55 #[.pointer (some ⟨g4, 0, none⟩), .pointer (some ⟨g, 0, none⟩)] w fun e w' => e = .returned (.bool (sameB rows cols xs)) ∧ Below w.heap.size w w' := by
  by_cases h : rows = cols
  · subst h
    have e : sameB rows rows xs = decide (turnTo 0 xs rows rows xs.length = xs) := by unfold sameB; simp
    rw [e]
    exact gi_Same g4 b4 g b rows rows _ xs w hT hG
  · have e : sameB rows cols xs = false := decide_eq_false (fun h2 => h h2.1)
    rw [e]
    exact gi_Same_shape g4 b4 g b cols rows rows cols _ xs w hT hG (Or.inl (fun h2 => h h2.symm))
theorem row_at {xs : List Int} {rows cols i j : Nat} (hj : j < cols) (hb : i * cols + j < xs.length) : (((xs.drop (i * cols)).take cols).map (Value.int .i64))[j]? = some (.int .i64 (gAt xs (i * cols + j))) := by
  rw [List.getElem?_map, List.getElem?_take, if_pos hj, List.getElem?_drop, List.getElem?_eq_getElem hb]
  unfold gAt
  rw [List.getD_eq_getElem?_getD, List.getElem?_eq_getElem hb]
  rfl
set_option maxRecDepth 100000 in
set_option maxHeartbeats 3000000 in
theorem gridPuts_walk (w0 : World) (rows : Int) (_h1 : (Lit.int .i64 rows).wf = true) (cols : Int) (_h2 : (Lit.int .i64 cols).wf = true) (a : Option Addr) (len cap : Nat) (R C X : Nat → Int) (hs : InPuts w0 a len R C X) :
    Calls Try.prog 12 #[.int .i64 rows, .int .i64 cols, .slice a len cap] w0 fun e w' => e = .returned (.bool true) ∧ Below w0.heap.size w0 w' := by
  go_enter Try.func12, Try.ntmps12
  go_wp2_with fail
  refine (none02_any w0).mono ?_; rintro e w1 ⟨rfl, rfl⟩
  go_wp2_with fail
  refine (gi_At_nil 0 0 w0).mono ?_; rintro e w1 ⟨rfl, rfl⟩
  go_wp2_with fail
  refine (grids_any w0).mono ?_; rintro e w1 ⟨rfl, hB⟩
  go_wp2_with fail
  refine (none02_any w1).mono ?_; rintro e w2 ⟨rfl, rfl⟩
  go_wp2_with fail
  refine (gi_Put_nil 0 0 1 w1).mono ?_; rintro e w2 ⟨rfl, rfl⟩
  go_wp2_with fail
  refine (none02_any w1).mono ?_; rintro e w2 ⟨rfl, rfl⟩
  go_wp2_with fail
  refine (gi_Rows_nil w1).mono ?_; rintro e w2 ⟨rfl, rfl⟩
  go_wp2_with fail
  refine (none02_any w1).mono ?_; rintro e w2 ⟨rfl, rfl⟩
  go_wp2_with fail
  refine (gi_Cols_nil w1).mono ?_; rintro e w2 ⟨rfl, rfl⟩
  go_wp2_with fail
  refine (none02_any w1).mono ?_; rintro e w2 ⟨rfl, rfl⟩
  go_wp2_with fail
  refine (gi_Row_nil 0 w1).mono ?_; rintro e w2 ⟨rfl, rfl⟩
  go_wp2_with fail
  refine (none02_any w1).mono ?_; rintro e w2 ⟨rfl, rfl⟩
  go_wp2_with fail
  refine (gi_Turned_nil w1).mono ?_; rintro e w2 ⟨rfl, rfl⟩
  go_wp2_with fail
  refine (none02_any w1).mono ?_; rintro e w2 ⟨rfl, rfl⟩
  go_wp2_with fail
  refine (gi_Same_nil w1).mono ?_; rintro e w2 ⟨rfl, rfl⟩
  by_cases hok : 0 ≤ rows ∧ rows ≤ 64 ∧ 0 ≤ cols ∧ cols ≤ 64
  · obtain ⟨r0, r1, c0, c1⟩ := hok
    obtain ⟨rows, rfl⟩ := Int.eq_ofNat_of_zero_le r0
    obtain ⟨cols, rfl⟩ := Int.eq_ofNat_of_zero_le c0
    have hr64 : rows ≤ 64 := by omega
    have hc64 : cols ≤ 64 := by omega
    clear r0 r1 c0 c1
    have hsm := hs.mx
    go_wp2_with fail
    refine (gi_new rows cols w1 hr64 hc64).mono ?_; rintro e w2 ⟨g, b, rfl, hg, hb, hG, hc⟩
    have hgB : w0.heap.size ≤ g := Nat.le_trans hB.size hg
    have hbB : w0.heap.size ≤ b := Nat.le_trans hB.size hb
    have hB := bel_trans hB hc
    clear hc
    go_wp2_with fail
    refine (rg_new rows cols w2 hr64 hc64).mono ?_; rintro e w3 ⟨r, tb, rfl, hr, htb, hR, hc⟩
    have hrB : w0.heap.size ≤ r := Nat.le_trans hB.size hr
    have htB : w0.heap.size ≤ tb := Nat.le_trans hB.size htb
    have n1 : g ≠ r := by have := hG.st.lt; omega
    have n2 : g ≠ tb := by have := hG.st.lt; omega
    have n3 : b ≠ r := by have := hG.dt.lt; omega
    have n4 : b ≠ tb := by have := hG.dt.lt; omega
    have hG := hG.below hc
    have hB := bel_trans hB hc
    clear hc hr htb hg hb
    go_wp2_with fail
    go_loopw [12] (fun vi wx => ∃ (i : Nat) (xs : List Int), i ≤ len ∧ i ≤ 30 ∧ vi = .int .i64 i ∧ GridI wx g b rows cols xs ∧ RefG wx r tb rows cols xs ∧ Below w0.heap.size w0 wx) (fun vi _ => 30 - (intOf vi).toNat)
    case atStart => exact ⟨0, _, by omega, by omega, rfl, hG, hR, hB⟩
    case round =>
      clear hG hR hB
      obtain ⟨i, xs, hi, hi30, rfl, hG, hR, hB⟩ := hrel
      rcases (by omega : (i < len ∧ i < 30) ∨ (i < len ∧ 30 ≤ i) ∨ len ≤ i) with ⟨hil, hi3⟩ | ⟨hil, hi3⟩ | hil
      · obtain ⟨bx, ox, rfl, hbx, hcell⟩ := hs.at_ (by omega)
        obtain ⟨x0, x1, x2⟩ := hcell i hil
        replace x0 := (hB.cell (p := ⟨bx, ox + i * 3, none⟩) hbx).trans x0
        replace x1 := (hB.cell (p := ⟨bx, ox + i * 3 + 1, none⟩) hbx).trans x1
        replace x2 := (hB.cell (p := ⟨bx, ox + i * 3 + 2, none⟩) hbx).trans x2
        have hia := fun w => idx_put (b := bx) (off := ox) (cap := cap) rfl hil w
        clear hcell
        generalize R i = pr at *
        generalize C i = pc at *
        generalize X i = px at *
        by_cases hin : inG rows cols pr pc = true
        · obtain ⟨pr, pc, rfl, rfl, hpr, hpc⟩ := inG_yes hin
          have HIN := Lib.hid hin; clear hin
          have hset : (xs.set (pr * cols + pc) px).getD (pr * cols + pc) 0 = px := by
            rw [List.getD_eq_getElem?_getD, List.getElem?_set_self (by rw [hG.ln]; exact place_lt hpr hpc)]
            rfl
          have HSET := Lib.hid hset; clear hset
          obtain ⟨k, hk⟩ : ∃ k, pr * cols + pc = k := ⟨_, rfl⟩
          rw [hk] at HSET
          have HK := Lib.hid hk; clear hk
          go_wp2_with fail
          have q := Blk.new wr 88 [.int .i64 pr, .int .i64 pc, .int .i64 px]
          have hG1 := hG.below (bel_alloc (Below.refl _ _) (.cells #[.int .i64 pr, .int .i64 pc, .int .i64 px] 88))
          have hR1 := hR.below (bel_alloc (Below.refl _ _) (.cells #[.int .i64 pr, .int .i64 pc, .int .i64 px] 88))
          have hB1 := bel_alloc hB (.cells #[.int .i64 pr, .int .i64 pc, .int .i64 px] 88)
          have hgl := hG.st.lt; have hbl := hG.dt.lt; have hrl := hR.st.lt; have htl := hR.dt.lt
          refine (gi_Put_yes g b rows cols xs pr pc k px _ hG1 hpr hpc HK.out).mono ?_; rintro e w5 ⟨rfl, hG2, hc⟩
          have hR2 := hR1.ch hc (by simp; omega) (by simp; omega)
          have hB2 := bel_ch hB1 hc (by simp; omega)
          have q2 := q.ch hc (by simp; omega)
          have c0 := q2.at_ (i := 0) rfl; have c1 := q2.at_ (i := 1) rfl; have c2 := q2.at_ (i := 2) rfl
          clear hc hG hR hB hG1 hR1 hB1 q x0 x1 x2
          go_wp2_with fail
          refine (rg_has r tb rows cols xs pr pc _ hR2).mono ?_; rintro e w6 ⟨rfl, rfl⟩
          rw [HIN.out]
          go_wp2_with fail
          refine (rg_put r tb rows cols xs pr pc k px _ hR2 hpr hpc HK.out).mono ?_; rintro e w6 ⟨rfl, hR3, hc⟩
          have hG3 := hG2.ch hc (by simp; omega) (by simp; omega)
          have hB3 := bel_ch hB2 hc (by simp; omega)
          have q3 := q2.ch hc (by simp; omega)
          have c0 := q3.at_ (i := 0) rfl; have c1 := q3.at_ (i := 1) rfl; have c2 := q3.at_ (i := 2) rfl
          clear hc hG2 hR2 hB2 q2
          go_wp2_with fail
          refine (gi_At_yes g b rows cols _ pr pc k _ hG3 hpr hpc HK.out).mono ?_; rintro e w7 ⟨rfl, rfl⟩
          rw [HSET.out]
          generalize xs.set k px = ys at *
          go_wp2
          go_roundw
          case rel => exact ⟨i + 1, ys, by omega, by omega, by go_num, hG3, hR3, hB3⟩
          case measure => simp [intOf]; omega
        · have hin : inG rows cols pr pc = false := by simpa using hin
          have hno := inG_no hin
          have HIN := Lib.hid hin; have HNO := Lib.hid hno; clear hin hno
          go_wp2_with fail
          have q := Blk.new wr 88 [.int .i64 pr, .int .i64 pc, .int .i64 px]
          have hG1 := hG.below (bel_alloc (Below.refl _ _) (.cells #[.int .i64 pr, .int .i64 pc, .int .i64 px] 88))
          have hR1 := hR.below (bel_alloc (Below.refl _ _) (.cells #[.int .i64 pr, .int .i64 pc, .int .i64 px] 88))
          have hB1 := bel_alloc hB (.cells #[.int .i64 pr, .int .i64 pc, .int .i64 px] 88)
          refine (gi_Put_no g b rows cols xs pr pc px _ hG1 HNO.out).mono ?_; rintro e w5 ⟨rfl, rfl⟩
          clear hG hR hB q x0 x1 x2
          go_wp2_with fail
          refine (rg_has r tb rows cols xs pr pc _ hR1).mono ?_; rintro e w6 ⟨rfl, rfl⟩
          rw [HIN.out]
          go_wp2_with fail
          refine (gi_At_no g b rows cols xs pr pc _ hG1 HNO.out).mono ?_; rintro e w7 ⟨rfl, rfl⟩
          go_wp2
          go_roundw
          case rel => exact ⟨i + 1, xs, by omega, by omega, by go_num, hG1, hR1, hB1⟩
          case measure => simp [intOf]; omega
      all_goals
        have hln := hG.ln
        have htw := turned_twice (0 : Int) xs rows cols hln
        have hta := fun i j => turned_at (0 : Int) xs rows cols hln i j
        have HLN := Lib.hid hln; clear hln
        go_wp2_with fail
        refine (gi_Turned g b rows cols xs wr hG).mono ?_; rintro e w5 ⟨g4, b4, rfl, hg4, hb4, hT, hc⟩
        have hS5 := fun w hG hT => gi_Same_turned g b g4 b4 rows cols xs w hG hT
        have HS5 := Lib.hid hS5; clear hS5
        generalize turnTo 0 xs rows cols xs.length = T at *
        have HTW := Lib.hid htw; have HTA := Lib.hid hta; clear htw hta
        have hG5 := hG.below hc
        have hR5 := hR.below hc
        have hB5 := bel_trans hB hc
        clear hc hG hR hB
        go_wp2_with fail
        refine (gi_Rows g4 b4 cols rows T w5 hT).mono ?_; rintro e w6 ⟨rfl, rfl⟩
        go_wp2_with fail
        refine (gi_Cols g4 b4 cols rows T w5 hT).mono ?_; rintro e w6 ⟨rfl, rfl⟩
        go_wp2_with fail
        refine (gi_Turned g4 b4 cols rows T w5 hT).mono ?_; rintro e w6 ⟨g6, b6, rfl, hg6, hb6, hT6, hc⟩
        rw [HTW.out] at hT6
        have hG6 := hG5.below hc
        have hR6 := hR5.below hc
        have hT5 := hT.below hc
        have hB6 := bel_trans hB5 hc
        clear hc hG5 hR5 hB5 hT
        go_wp2_with fail
        refine (gi_Same g6 b6 g b rows cols xs xs w6 hT6 hG6).mono ?_; rintro e w7 ⟨rfl, hc⟩
        rw [show decide (xs = xs) = true from decide_eq_true rfl]
        have hG7 := hG6.below hc
        have hR7 := hR6.below hc
        have hT7 := hT5.below hc
        have hB7 := bel_trans hB6 hc
        clear hc hG6 hR6 hB6 hT5 hT6
        go_wp2_with fail
        refine (gi_Same_lone _ w7).mono ?_; rintro e w8 ⟨rfl, rfl⟩
        go_wp2_with fail
        refine (HS5.out w7 hG7 hT7).mono ?_; rintro e w8 ⟨rfl, hc⟩
        have hG8 := hG7.below hc
        have hR8 := hR7.below hc
        have hT8 := hT7.below hc
        have hB8 := bel_trans hB7 hc
        clear hc hG7 hR7 hB7 hT7
        go_wp2_with fail
        refine (same_any r tb rows cols xs w8 hR8).mono ?_; rintro e w9 ⟨rfl, hc⟩
        have hG9 := hG8.below hc
        have hR9 := hR8.below hc
        have hT9 := hT8.below hc
        have hB9 := bel_trans hB8 hc
        clear hc hG8 hR8 hB8 hT8
        generalize sameB rows cols xs = sb at *
        go_wp2_with fail
        go_loopw [18] (fun vk wx => ∃ k : Nat, k ≤ rows ∧ vk = .int .i64 k ∧ GridI wx g b rows cols xs ∧ GridI wx g4 b4 cols rows T ∧ RefG wx r tb rows cols xs ∧ Below w0.heap.size w0 wx) (fun vk _ => rows - (intOf vk).toNat)
        case atStart => exact ⟨0, by omega, rfl, hG9, hT9, hR9, hB9⟩
        case round =>
          clear hG9 hT9 hR9 hB9
          obtain ⟨k, hk, rfl, hG, hT, hR, hB⟩ := hrel
          by_cases hkr : k < rows
          · go_wp2_with fail
            refine (gi_Row_yes g b rows cols xs k _ hG hkr).mono ?_; rintro e w5 ⟨h5, c5, rfl, hown, hc⟩
            have hG5 := hG.below hc
            have hR5 := hR.below hc
            have hT5 := hT.below hc
            have hB5 := bel_trans hB hc
            have hbw : w0.heap.size ≤ wr.heap.size := hB.size
            obtain ⟨bs, hbs⟩ : ∃ bs, wr.heap.size = bs := ⟨_, rfl⟩
            rw [hbs] at hown hbw
            clear hc hG hR hB hT hbs
            go_wp2_with fail
            go_loopw [20] (fun vj wx => ∃ j : Nat, j ≤ cols ∧ vj = .int .i64 j ∧ wx.ownsRow bs 3 1 (.slice (some ⟨h5, 0, none⟩) cols c5) cols (((xs.drop (k * cols)).take cols).map (Value.int .i64)) ∧ GridI wx g b rows cols xs ∧ GridI wx g4 b4 cols rows T ∧ RefG wx r tb rows cols xs ∧ Below w0.heap.size w0 wx) (fun vj _ => cols - (intOf vj).toNat)
            case atStart => exact ⟨0, by omega, rfl, hown, hG5, hT5, hR5, hB5⟩
            case round =>
              clear hown hG5 hT5 hR5 hB5
              obtain ⟨j, hj, rfl, hown, hG, hT, hR, hB⟩ := hrel
              by_cases hjc : j < cols
              · have hlt : k * cols + j < xs.length := by rw [HLN.out]; exact place_lt hkr hjc
                obtain ⟨h', hA', kc, _⟩ := own_at hown (row_at (rows := rows) hjc hlt)
                obtain rfl : h5 = h' := by injection hA' with hA'; injection hA'
                have hta : T.getD (j * rows + k) 0 = gAt xs (k * cols + j) := by
                  rw [List.getD_eq_getElem?_getD, HTA.out k j hkr hjc]
                  rfl
                have HTV := Lib.hid hta; clear hta hA'
                have hat := fun w' (hb : Below wr.heap.size wr w') => (rg_at r tb rows cols xs k j _ w' (hR.below hb) hkr hjc rfl).mono (fun e w'' (h : e = .returned (.int .i64 (gAt xs (k * cols + j))) ∧ ∃ n, w'' = w'.drewN n) => (⟨h.1, bel_quiet h.2⟩ : e = .returned (.int .i64 (gAt xs (k * cols + j))) ∧ Below w'.heap.size w' w''))
                have HAT := Lib.hid hat; clear hat
                have kc := after_cell kc
                have hix := fun w => idx_oint h5 cols c5 j hjc w
                have j0 : (0 : Int) ≤ (j : Int) := by omega
                have j1 : (j : Int) < (cols : Int) := by omega
                go_wp2_with fail
                refine (gi_At_yes g4 b4 cols rows T j k _ wr hT hjc hkr rfl).mono ?_; rintro e w6 ⟨rfl, rfl⟩
                rw [HTV.out]
                clear HTV
                generalize gAt xs (k * cols + j) = v at *
                go_wp2_with fail
                refine wp_region_after (by kernel_rfl) (by kernel_rfl) ?_
                repeat (first | go_big_quiet_step ((go_at_call 60; exact after_call2 HAT.out _)) | quiet_step ((go_at_call 60; exact after_call2 HAT.out _)))
                refine wpQuiet_nil ?_; intro _ hw'; obtain ⟨xq, hw''⟩ := hw'; subst hw''
                have hown7 := own_below hown xq.2
                have hG7 := hG.below xq.2
                have hT7 := hT.below xq.2
                have hR7 := hR.below xq.2
                have hB7 := bel_after hB xq
                clear kc HAT hown hG hT hR hB
                go_wp2
                go_roundw
                case rel => exact ⟨j + 1, by omega, by go_num, hown7, hG7, hT7, hR7, hB7⟩
                case measure => simp [intOf]; omega
              · obtain rfl : j = cols := by omega
                go_wp2
                go_roundw
                case rel => exact ⟨k + 1, by omega, by go_num, hG, hT, hR, hB⟩
                case measure => simp [intOf]; omega
          · obtain rfl : k = rows := by omega
            go_wp2_with fail
            refine (gi_Row_no g b k cols xs (k : Int) _ hG (by omega)).mono ?_; rintro e w5 ⟨rfl, rfl⟩
            go_wp2_with fail
            refine (gi_Row_no g b k cols xs (-1) _ hG (by omega)).mono ?_; rintro e w5 ⟨rfl, rfl⟩
            go_wp2_with fail
            go_ret
            exact ⟨rfl, hB⟩
  · rcases (by omega : rows < 0 ∨ (0 ≤ rows ∧ 64 < rows) ∨ (0 ≤ rows ∧ rows ≤ 64 ∧ cols < 0) ∨ (0 ≤ rows ∧ rows ≤ 64 ∧ 0 ≤ cols ∧ 64 < cols)) with h | ⟨h, h2⟩ | ⟨h, h2, h3⟩ | ⟨h, h2, h3, h4⟩
    all_goals
      clear hok
      go_wp2_with fail
      refine (gi_new_no rows cols w1 (by omega)).mono ?_; rintro e w2 ⟨rfl, rfl⟩
      go_wp2_with fail
      go_ret
      exact ⟨rfl, hB⟩
end Go.Proofs.Ytkjhodaglanpmaa
