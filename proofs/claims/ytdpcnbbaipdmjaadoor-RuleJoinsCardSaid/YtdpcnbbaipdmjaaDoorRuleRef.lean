/- messuageref26.after, Parse. -/
import Derived.Test.YtdpcnbbaipdmjaaDoorRule
namespace Go.Proofs.YtdpcnbbaipdmjaaDoor
open Go.RowKit Go.Shelf
set_option linter.unusedVariables false
set_option linter.unusedSimpArgs false
attribute [local go_sem] World.cell?_alloc_lt

def rrV (o : Option Pol) : Value := match o with
  | some p => .tuple #[p.v, .bool true]
  | none => .tuple #[.agg #[.int .i64 0, .int .u8 0, .int .i64 0], .bool false]
def rruleZ : Value := .tuple #[.agg #[.int .i64 0, .int .u8 0, .int .i64 0], .bool false]
theorem pref_else {l : List UInt8} (h : Lib.hasPrefix l preL3 = true) : Lib.hasPrefix l memL = false ∧ Lib.hasPrefix l intL = false := by
  obtain ⟨t, rfl⟩ := pre_first (x := 112) (p := [114, 101, 102, 101, 114, 114, 101, 100, 61]) h
  constructor <;> simp [Lib.hasPrefix, memL, intL, List.isPrefixOf]
theorem after_any (t p : ByteArray) (n : Nat) (hn : p.size = n) (hn2 : n ≤ 100) (ht : t.size ≤ 1000000) : ∃ r : ByteArray, (Lib.hasPrefix t.data.toList p.data.toList = true → r = bytesOf (t.data.toList.drop n)) ∧ r.size ≤ t.size ∧ ∀ w : World, Calls Tryd.prog 22 #[.string t, .string p] w fun e w' => e = .returned (.tuple #[.string r, .bool (Lib.hasPrefix t.data.toList p.data.toList)]) ∧ w' = w := by
  by_cases h1 : t.size < n
  · have hf : Lib.hasPrefix t.data.toList p.data.toList = false := by
      rw [← Bool.not_eq_true, pre_cut]
      intro h
      have h2 := congrArg List.length h
      rw [List.length_take, len_data, len_data] at h2
      omega
    rw [hf]
    refine ⟨ByteArray.empty, (fun h => by cases h), (by show 0 ≤ _; omega), fun w => ?_⟩
    subst hn
    clear hf
    go_enter Tryd.func22, Tryd.ntmps22
    go_wp2_with fail
    go_ret2
    exact ⟨rfl, rfl⟩
  · have hhi := fun w => cut_str_hi t n (by omega) w
    have hlo := fun w => cut_str_lo t n (by omega) w
    have hx : bytesOf (t.data.toList.drop n) = t.extract n t.size := extract_all t n
    have hq : ((t.extract 0 n).toList == p.toList) = Lib.hasPrefix t.data.toList p.data.toList := by
      rw [Lib.toList_data, Lib.toList_data, ← extract_head, Bool.eq_iff_iff, beq_iff_eq, pre_cut, len_data, hn]
      rfl
    have hy : (t.extract n t.size).size ≤ t.size := by rw [ByteArray.size_extract]; omega
    rw [← hq]
    rw [hx]
    refine ⟨if ((t.extract 0 n).toList == p.toList) = true then t.extract n t.size else ByteArray.empty, fun h => if_pos h, (by split <;> first | exact hy | (show 0 ≤ _; omega)), fun w => ?_⟩
    have hnl : ¬ ((t.size : Int) < (n : Int)) := by omega
    subst hn
    clear hq hx hy h1
    cases hc : ((t.extract 0 p.size).toList == p.toList) with
    | true =>
      rw [if_pos rfl]
      generalize t.extract 0 p.size = a at *
      generalize t.extract p.size t.size = b at *
      go_enter Tryd.func22, Tryd.ntmps22
      go_wp2_with fail
      go_ret2
      exact ⟨rfl, rfl⟩
    | false =>
      rw [if_neg (by simp)]
      generalize t.extract 0 p.size = a at *
      go_enter Tryd.func22, Tryd.ntmps22
      go_wp2_with fail
      go_ret2
      exact ⟨rfl, rfl⟩
set_option maxRecDepth 100000 in
set_option maxHeartbeats 4000000 in
theorem rruleParse_any (t : ByteArray) (ht : t.size ≤ 1000) (w : World) : Calls Tryd.prog 8 #[.string t] w fun e w' => e = .returned (rrV (ruleO t)) ∧ Below w.heap.size w w' := by
  have hb0 := Blk.new w 29 [.int .i64 0, .int .u8 0, .int .i64 0]
  have hba := bel_alloc (Below.refl w.heap.size w) (.cells #[.int .i64 0, .int .u8 0, .int .i64 0] 29)
  obtain ⟨V, hV⟩ : ∃ V, rrV (ruleO t) = V := ⟨_, rfl⟩
  rw [hV]
  obtain ⟨r1, hr1, hz1, hc1⟩ := after_any t ⟨#[109, 101, 109, 98, 105, 110, 100, 61]⟩ 8 rfl (by omega) (by omega)
  obtain ⟨r2, hr2, hz2, hc2⟩ := after_any t ⟨#[105, 110, 116, 101, 114, 108, 101, 97, 118, 101, 61]⟩ 11 rfl (by omega) (by omega)
  obtain ⟨r3, hr3, hz3, hc3⟩ := after_any t ⟨#[112, 114, 101, 102, 101, 114, 114, 101, 100, 61]⟩ 10 rfl (by omega) (by omega)
  change Lib.hasPrefix t.data.toList memL = true → _ at hr1
  change Lib.hasPrefix t.data.toList intL = true → _ at hr2
  change Lib.hasPrefix t.data.toList preL3 = true → _ at hr3
  change ∀ w : World, Calls _ _ _ w fun e w' => e = .returned (.tuple #[.string r1, .bool (Lib.hasPrefix t.data.toList memL)]) ∧ w' = w at hc1
  change ∀ w : World, Calls _ _ _ w fun e w' => e = .returned (.tuple #[.string r2, .bool (Lib.hasPrefix t.data.toList intL)]) ∧ w' = w at hc2
  change ∀ w : World, Calls _ _ _ w fun e w' => e = .returned (.tuple #[.string r3, .bool (Lib.hasPrefix t.data.toList preL3)]) ∧ w' = w at hc3
  unfold ruleO at hV
  by_cases hl : t = locB
  · rw [if_pos hl] at hV
    simp only [rrV, Pol.v] at hV
    have HV := Lib.hid hV; have HBA := Lib.hid hba
    clear hV hba hr1 hr2 hr3 hc1 hc2 hc3 hb0 hz1 hz2 hz3
    subst hl
    unfold locB
    go_enter Tryd.func8, Tryd.ntmps8
    go_wp2_with fail
    exact bodyPost_ret (v := .tuple #[.agg #[.int .i64 0, .int .u8 0, .int .i64 0], .bool true]) (by simp [results, Tryd.results8, go_sem]) rfl ⟨by rw [← HV.out]; rfl, by repeat (first | exact HBA.out | exact bel_alloc (Below.refl _ _) _ | refine bel_set ?_ ?_ _ | (simp; done))⟩
  · rw [if_neg hl] at hV
    have hq : (t.toList == [108, 111, 99, 97, 108]) = false := by
      have h := str_beq t locB
      rw [decide_eq_false hl, Lib.toList_data locB] at h
      exact h
    cases hp3 : Lib.hasPrefix t.data.toList preL3 with
    | true =>
      obtain ⟨n1, n2⟩ := pref_else hp3
      have hr := hr3 hp3
      rw [if_neg (by rw [n1]; simp), if_neg (by rw [n2]; simp), if_pos hp3, show t.data.toList.drop 10 = r3.data.toList by rw [hr]; rfl] at hV
      rw [hp3] at hc3
      have HC3 := Lib.hid hc3
      clear hr1 hr2 hr3 hc1 hc2 hc3 hp3 hl hr n1 n2 hb0
      by_cases h1 : r3.size = 1
      · obtain ⟨x, rfl⟩ : ∃ x, r3 = ⟨#[x]⟩ := by
          obtain ⟨⟨l⟩⟩ := r3
          match l, h1 with
          | [x], _ => exact ⟨x, rfl⟩
        have hb := UInt8.toNat_lt x
        have hn : nodeR (⟨#[x]⟩ : ByteArray).data.toList = if okNode x = true then some ⟨3, 0, nodeN x⟩ else none := rfl
        rw [hn] at hV
        unfold okNode nodeN at hV
        have hix : ∀ h, (((⟨#[x]⟩ : ByteArray)[0]'h).toNat : Int) = (x.toNat : Int) := fun _ => rfl
        clear hn h1
        generalize x.toNat = n at *
        rcases Nat.lt_or_ge n 48 with g1 | g1
        · rw [if_neg (by simp; omega)] at hV
          have HV := Lib.hid hV; have HBA := Lib.hid hba
          clear hV hba
          go_enter Tryd.func8, Tryd.ntmps8
          go_wp2_with fail
          refine (HC3.out _).mono ?_; rintro e wq3 ⟨rfl, hwq3⟩
          subst hwq3
          go_wp2_with fail
          exact bodyPost_ret (v := rruleZ) (by simp [rruleZ, results, Tryd.results8, go_sem]) rfl ⟨by rw [← HV.out]; rfl, by repeat (first | exact HBA.out | exact bel_alloc (Below.refl _ _) _ | refine bel_set ?_ ?_ _ | (simp; done))⟩
        · rcases Nat.lt_or_ge n 56 with g2 | g2
          · rw [if_pos (decide_eq_true ⟨g1, g2⟩)] at hV
            have h5 : IntKind.u8.wrap ((n : Int) - 48) = (n : Int) - 48 := by
              simp only [IntKind.wrap]
              simp [IntKind.signed, IntKind.bits]
              omega
            have HV := Lib.hid hV; have HBA := Lib.hid hba
            clear hV hba
            go_enter Tryd.func8, Tryd.ntmps8
            go_wp2_with fail
            refine (HC3.out _).mono ?_; rintro e wq3 ⟨rfl, hwq3⟩
            subst hwq3
            go_wp2_with fail
            all_goals
              exact bodyPost_ret (v := .tuple #[.agg #[.int .i64 3, .int .u8 0, .int .i64 ((n : Int) - 48)], .bool true]) (by simp [results, Tryd.results8, go_sem]) rfl ⟨by rw [← HV.out]; rfl, by repeat (first | exact HBA.out | exact bel_alloc (Below.refl _ _) _ | refine bel_set ?_ ?_ _ | (simp; done))⟩
          · rw [if_neg (by simp; omega)] at hV
            have HV := Lib.hid hV; have HBA := Lib.hid hba
            clear hV hba
            go_enter Tryd.func8, Tryd.ntmps8
            go_wp2_with fail
            refine (HC3.out _).mono ?_; rintro e wq3 ⟨rfl, hwq3⟩
            subst hwq3
            go_wp2_with fail
            exact bodyPost_ret (v := rruleZ) (by simp [rruleZ, results, Tryd.results8, go_sem]) rfl ⟨by rw [← HV.out]; rfl, by repeat (first | exact HBA.out | exact bel_alloc (Below.refl _ _) _ | refine bel_set ?_ ?_ _ | (simp; done))⟩
      · have hn : nodeR r3.data.toList = none := by
          obtain ⟨⟨l⟩⟩ := r3
          match l, h1 with
          | [], _ => rfl
          | [x], h => exact absurd rfl h
          | x :: y :: z, _ => rfl
        rw [hn] at hV
        have e1 : ((r3.size : Int) != 1) = true := by rw [bne_iff_ne]; omega
        have HV := Lib.hid hV; have HBA := Lib.hid hba
        clear hV hba h1 hn
        go_enter Tryd.func8, Tryd.ntmps8
        go_wp2_with fail
        refine (HC3.out _).mono ?_; rintro e wq3 ⟨rfl, hwq3⟩
        subst hwq3
        go_wp2_with fail
        exact bodyPost_ret (v := rruleZ) (by simp [rruleZ, results, Tryd.results8, go_sem]) rfl ⟨by rw [← HV.out]; rfl, by repeat (first | exact HBA.out | exact bel_alloc (Below.refl _ _) _ | refine bel_set ?_ ?_ _ | (simp; done))⟩
    | false =>
      rw [hp3] at hc3
      have HC3 := Lib.hid hc3
      cases hp1 : Lib.hasPrefix t.data.toList memL with
      | true =>
        rw [if_pos hp1, ← hr1 hp1] at hV
        rw [hp1] at hc1
        have HC1 := Lib.hid hc1
        clear hr1 hr2 hr3 hc1 hc2 hc3 hp1 hp3 hl
        have hrp := fun w => rparse_any r1 (by omega) w
        unfold setR at hV
        cases ho : parseO r1 with
        | none =>
          rw [ho] at hrp hV
          simp only [rparseV, rrV] at hrp hV
          have HRP := Lib.hid hrp; have HV := Lib.hid hV; have HB := Lib.hid hb0; have HBA := Lib.hid hba
          clear hrp hV ho hb0 hba
          go_enter Tryd.func8, Tryd.ntmps8
          go_wp2_with fail
          refine (HC3.out _).mono ?_; rintro e wq3 ⟨rfl, hwq3⟩
          subst hwq3
          go_wp2_with fail
          refine (HC1.out _).mono ?_; rintro e wq1 ⟨rfl, hwq1⟩
          subst hwq1
          go_wp2_with fail
          refine (HRP.out _).mono ?_; rintro e w1 ⟨rfl, hB⟩
          have hb1 := HB.out.below hB
          have q0 := hb1.at_ (i := 0) rfl
          have q1 := hb1.at_ (i := 1) rfl
          have q2 := hb1.at_ (i := 2) rfl
          have f0 := hb1.frozen 0; have f1 := hb1.frozen 1; have f2 := hb1.frozen 2
          go_wp2_with fail
          have hb3 : Blk (((w1.setCell ⟨w.heap.size, 0, none⟩ (.int .i64 0)).setCell ⟨w.heap.size, 1, none⟩ (.int .u8 0)).setCell ⟨w.heap.size, 2, none⟩ (.int .i64 0)) w.heap.size 29 [(.int .i64 0), (.int .u8 0), (.int .i64 0)] := hb1.three
          have hB3 : Below w.heap.size w (((w1.setCell ⟨w.heap.size, 0, none⟩ (.int .i64 0)).setCell ⟨w.heap.size, 1, none⟩ (.int .u8 0)).setCell ⟨w.heap.size, 2, none⟩ (.int .i64 0)) := bel_set (bel_set (bel_set (bel_trans HBA.out hB) (by simp) _) (by simp) _) (by simp) _
          have e0 := hb3.at_ (i := 0) rfl
          have e1 := hb3.at_ (i := 1) rfl
          have e2 := hb3.at_ (i := 2) rfl
          exact bodyPost_ret (v := .tuple #[.agg #[(.int .i64 0), (.int .u8 0), (.int .i64 0)], .bool false]) (by simp [results, Tryd.results8, go_sem, e0, e1, e2]) rfl ⟨by rw [← HV.out], hB3⟩
        | some s =>
          rw [ho] at hrp hV
          simp only [rparseV] at hrp hV
          have HRP := Lib.hid hrp; have HB := Lib.hid hb0; have HBA := Lib.hid hba
          clear hrp ho hb0 hba
          by_cases h0 : s = 0
          · subst h0
            simp only [if_true, rrV] at hV
            have HV := Lib.hid hV
            clear hV
            go_enter Tryd.func8, Tryd.ntmps8
            go_wp2_with fail
            refine (HC3.out _).mono ?_; rintro e wq3 ⟨rfl, hwq3⟩
            subst hwq3
            go_wp2_with fail
            refine (HC1.out _).mono ?_; rintro e wq1 ⟨rfl, hwq1⟩
            subst hwq1
            go_wp2_with fail
            refine (HRP.out _).mono ?_; rintro e w1 ⟨rfl, hB⟩
            have hb1 := HB.out.below hB
            have q0 := hb1.at_ (i := 0) rfl
            have q1 := hb1.at_ (i := 1) rfl
            have q2 := hb1.at_ (i := 2) rfl
            have f0 := hb1.frozen 0; have f1 := hb1.frozen 1; have f2 := hb1.frozen 2
            go_wp2_with fail
            have hb3 : Blk (((w1.setCell ⟨w.heap.size, 0, none⟩ (.int .i64 0)).setCell ⟨w.heap.size, 1, none⟩ (.int .u8 0)).setCell ⟨w.heap.size, 2, none⟩ (.int .i64 0)) w.heap.size 29 [(.int .i64 0), (.int .u8 0), (.int .i64 0)] := hb1.three
            have hB3 : Below w.heap.size w (((w1.setCell ⟨w.heap.size, 0, none⟩ (.int .i64 0)).setCell ⟨w.heap.size, 1, none⟩ (.int .u8 0)).setCell ⟨w.heap.size, 2, none⟩ (.int .i64 0)) := bel_set (bel_set (bel_set (bel_trans HBA.out hB) (by simp) _) (by simp) _) (by simp) _
            have e0 := hb3.at_ (i := 0) rfl
            have e1 := hb3.at_ (i := 1) rfl
            have e2 := hb3.at_ (i := 2) rfl
            exact bodyPost_ret (v := .tuple #[.agg #[(.int .i64 0), (.int .u8 0), (.int .i64 0)], .bool false]) (by simp [results, Tryd.results8, go_sem, e0, e1, e2]) rfl ⟨by rw [← HV.out], hB3⟩
          · rw [if_neg h0] at hV
            simp only [rrV, Pol.v] at hV
            have hn0 : ((s : Int) == 0) = false := by rw [beq_eq_false_iff_ne]; omega
            have HV := Lib.hid hV
            clear hV h0
            go_enter Tryd.func8, Tryd.ntmps8
            go_wp2_with fail
            refine (HC3.out _).mono ?_; rintro e wq3 ⟨rfl, hwq3⟩
            subst hwq3
            go_wp2_with fail
            refine (HC1.out _).mono ?_; rintro e wq1 ⟨rfl, hwq1⟩
            subst hwq1
            go_wp2_with fail
            refine (HRP.out _).mono ?_; rintro e w1 ⟨rfl, hB⟩
            have hb1 := HB.out.below hB
            have q0 := hb1.at_ (i := 0) rfl
            have q1 := hb1.at_ (i := 1) rfl
            have q2 := hb1.at_ (i := 2) rfl
            have f0 := hb1.frozen 0; have f1 := hb1.frozen 1; have f2 := hb1.frozen 2
            go_wp2_with fail
            have hb3 : Blk (((w1.setCell ⟨w.heap.size, 0, none⟩ (.int .i64 1)).setCell ⟨w.heap.size, 1, none⟩ (.int .u8 (s : Int))).setCell ⟨w.heap.size, 2, none⟩ (.int .i64 0)) w.heap.size 29 [(.int .i64 1), (.int .u8 (s : Int)), (.int .i64 0)] := hb1.three
            have hB3 : Below w.heap.size w (((w1.setCell ⟨w.heap.size, 0, none⟩ (.int .i64 1)).setCell ⟨w.heap.size, 1, none⟩ (.int .u8 (s : Int))).setCell ⟨w.heap.size, 2, none⟩ (.int .i64 0)) := bel_set (bel_set (bel_set (bel_trans HBA.out hB) (by simp) _) (by simp) _) (by simp) _
            have e0 := hb3.at_ (i := 0) rfl
            have e1 := hb3.at_ (i := 1) rfl
            have e2 := hb3.at_ (i := 2) rfl
            exact bodyPost_ret (v := .tuple #[.agg #[(.int .i64 1), (.int .u8 (s : Int)), (.int .i64 0)], .bool true]) (by simp [results, Tryd.results8, go_sem, e0, e1, e2]) rfl ⟨by rw [← HV.out], hB3⟩
      | false =>
        rw [if_neg (by rw [hp1]; simp)] at hV
        rw [hp1] at hc1
        have HC1 := Lib.hid hc1
        cases hp2 : Lib.hasPrefix t.data.toList intL with
        | true =>
          rw [if_pos hp2, ← hr2 hp2] at hV
          rw [hp2] at hc2
          have HC2 := Lib.hid hc2
          clear hr1 hr2 hr3 hc1 hc2 hc3 hp1 hp2 hp3 hl
          have hrp := fun w => rparse_any r2 (by omega) w
          unfold setR at hV
          cases ho : parseO r2 with
          | none =>
            rw [ho] at hrp hV
            simp only [rparseV, rrV] at hrp hV
            have HRP := Lib.hid hrp; have HV := Lib.hid hV; have HB := Lib.hid hb0; have HBA := Lib.hid hba
            clear hrp hV ho hb0 hba
            go_enter Tryd.func8, Tryd.ntmps8
            go_wp2_with fail
            refine (HC3.out _).mono ?_; rintro e wq3 ⟨rfl, hwq3⟩
            subst hwq3
            go_wp2_with fail
            refine (HC1.out _).mono ?_; rintro e wq1 ⟨rfl, hwq1⟩
            subst hwq1
            go_wp2_with fail
            refine (HC2.out _).mono ?_; rintro e wq2 ⟨rfl, hwq2⟩
            subst hwq2
            go_wp2_with fail
            refine (HRP.out _).mono ?_; rintro e w1 ⟨rfl, hB⟩
            have hb1 := HB.out.below hB
            have q0 := hb1.at_ (i := 0) rfl
            have q1 := hb1.at_ (i := 1) rfl
            have q2 := hb1.at_ (i := 2) rfl
            have f0 := hb1.frozen 0; have f1 := hb1.frozen 1; have f2 := hb1.frozen 2
            go_wp2_with fail
            have hb3 : Blk (((w1.setCell ⟨w.heap.size, 0, none⟩ (.int .i64 0)).setCell ⟨w.heap.size, 1, none⟩ (.int .u8 0)).setCell ⟨w.heap.size, 2, none⟩ (.int .i64 0)) w.heap.size 29 [(.int .i64 0), (.int .u8 0), (.int .i64 0)] := hb1.three
            have hB3 : Below w.heap.size w (((w1.setCell ⟨w.heap.size, 0, none⟩ (.int .i64 0)).setCell ⟨w.heap.size, 1, none⟩ (.int .u8 0)).setCell ⟨w.heap.size, 2, none⟩ (.int .i64 0)) := bel_set (bel_set (bel_set (bel_trans HBA.out hB) (by simp) _) (by simp) _) (by simp) _
            have e0 := hb3.at_ (i := 0) rfl
            have e1 := hb3.at_ (i := 1) rfl
            have e2 := hb3.at_ (i := 2) rfl
            exact bodyPost_ret (v := .tuple #[.agg #[(.int .i64 0), (.int .u8 0), (.int .i64 0)], .bool false]) (by simp [results, Tryd.results8, go_sem, e0, e1, e2]) rfl ⟨by rw [← HV.out], hB3⟩
          | some s =>
            rw [ho] at hrp hV
            simp only [rparseV] at hrp hV
            have HRP := Lib.hid hrp; have HB := Lib.hid hb0; have HBA := Lib.hid hba
            clear hrp ho hb0 hba
            by_cases h0 : s = 0
            · subst h0
              simp only [if_true, rrV] at hV
              have HV := Lib.hid hV
              clear hV
              go_enter Tryd.func8, Tryd.ntmps8
              go_wp2_with fail
              refine (HC3.out _).mono ?_; rintro e wq3 ⟨rfl, hwq3⟩
              subst hwq3
              go_wp2_with fail
              refine (HC1.out _).mono ?_; rintro e wq1 ⟨rfl, hwq1⟩
              subst hwq1
              go_wp2_with fail
              refine (HC2.out _).mono ?_; rintro e wq2 ⟨rfl, hwq2⟩
              subst hwq2
              go_wp2_with fail
              refine (HRP.out _).mono ?_; rintro e w1 ⟨rfl, hB⟩
              have hb1 := HB.out.below hB
              have q0 := hb1.at_ (i := 0) rfl
              have q1 := hb1.at_ (i := 1) rfl
              have q2 := hb1.at_ (i := 2) rfl
              have f0 := hb1.frozen 0; have f1 := hb1.frozen 1; have f2 := hb1.frozen 2
              go_wp2_with fail
              have hb3 : Blk (((w1.setCell ⟨w.heap.size, 0, none⟩ (.int .i64 0)).setCell ⟨w.heap.size, 1, none⟩ (.int .u8 0)).setCell ⟨w.heap.size, 2, none⟩ (.int .i64 0)) w.heap.size 29 [(.int .i64 0), (.int .u8 0), (.int .i64 0)] := hb1.three
              have hB3 : Below w.heap.size w (((w1.setCell ⟨w.heap.size, 0, none⟩ (.int .i64 0)).setCell ⟨w.heap.size, 1, none⟩ (.int .u8 0)).setCell ⟨w.heap.size, 2, none⟩ (.int .i64 0)) := bel_set (bel_set (bel_set (bel_trans HBA.out hB) (by simp) _) (by simp) _) (by simp) _
              have e0 := hb3.at_ (i := 0) rfl
              have e1 := hb3.at_ (i := 1) rfl
              have e2 := hb3.at_ (i := 2) rfl
              exact bodyPost_ret (v := .tuple #[.agg #[(.int .i64 0), (.int .u8 0), (.int .i64 0)], .bool false]) (by simp [results, Tryd.results8, go_sem, e0, e1, e2]) rfl ⟨by rw [← HV.out], hB3⟩
            · rw [if_neg h0] at hV
              simp only [rrV, Pol.v] at hV
              have hn0 : ((s : Int) == 0) = false := by rw [beq_eq_false_iff_ne]; omega
              have HV := Lib.hid hV
              clear hV h0
              go_enter Tryd.func8, Tryd.ntmps8
              go_wp2_with fail
              refine (HC3.out _).mono ?_; rintro e wq3 ⟨rfl, hwq3⟩
              subst hwq3
              go_wp2_with fail
              refine (HC1.out _).mono ?_; rintro e wq1 ⟨rfl, hwq1⟩
              subst hwq1
              go_wp2_with fail
              refine (HC2.out _).mono ?_; rintro e wq2 ⟨rfl, hwq2⟩
              subst hwq2
              go_wp2_with fail
              refine (HRP.out _).mono ?_; rintro e w1 ⟨rfl, hB⟩
              have hb1 := HB.out.below hB
              have q0 := hb1.at_ (i := 0) rfl
              have q1 := hb1.at_ (i := 1) rfl
              have q2 := hb1.at_ (i := 2) rfl
              have f0 := hb1.frozen 0; have f1 := hb1.frozen 1; have f2 := hb1.frozen 2
              go_wp2_with fail
              have hb3 : Blk (((w1.setCell ⟨w.heap.size, 0, none⟩ (.int .i64 2)).setCell ⟨w.heap.size, 1, none⟩ (.int .u8 (s : Int))).setCell ⟨w.heap.size, 2, none⟩ (.int .i64 0)) w.heap.size 29 [(.int .i64 2), (.int .u8 (s : Int)), (.int .i64 0)] := hb1.three
              have hB3 : Below w.heap.size w (((w1.setCell ⟨w.heap.size, 0, none⟩ (.int .i64 2)).setCell ⟨w.heap.size, 1, none⟩ (.int .u8 (s : Int))).setCell ⟨w.heap.size, 2, none⟩ (.int .i64 0)) := bel_set (bel_set (bel_set (bel_trans HBA.out hB) (by simp) _) (by simp) _) (by simp) _
              have e0 := hb3.at_ (i := 0) rfl
              have e1 := hb3.at_ (i := 1) rfl
              have e2 := hb3.at_ (i := 2) rfl
              exact bodyPost_ret (v := .tuple #[.agg #[(.int .i64 2), (.int .u8 (s : Int)), (.int .i64 0)], .bool true]) (by simp [results, Tryd.results8, go_sem, e0, e1, e2]) rfl ⟨by rw [← HV.out], hB3⟩
        | false =>
          rw [if_neg (by rw [hp2]; simp), if_neg (by rw [hp3]; simp)] at hV
          rw [hp2] at hc2
          have HC2 := Lib.hid hc2
          simp only [rrV] at hV
          have HV := Lib.hid hV; have HBA := Lib.hid hba
          clear hr1 hr2 hr3 hc1 hc2 hc3 hp1 hp2 hp3 hl hV hba hb0
          go_enter Tryd.func8, Tryd.ntmps8
          go_wp2_with fail
          refine (HC3.out _).mono ?_; rintro e wq3 ⟨rfl, hwq3⟩
          subst hwq3
          go_wp2_with fail
          refine (HC1.out _).mono ?_; rintro e wq1 ⟨rfl, hwq1⟩
          subst hwq1
          go_wp2_with fail
          refine (HC2.out _).mono ?_; rintro e wq2 ⟨rfl, hwq2⟩
          subst hwq2
          go_wp2_with fail
          exact bodyPost_ret (v := rruleZ) (by simp [rruleZ, results, Tryd.results8, go_sem]) rfl ⟨by rw [← HV.out]; rfl, by repeat (first | exact HBA.out | exact bel_alloc (Below.refl _ _) _ | refine bel_set ?_ ?_ _ | (simp; done))⟩
end Go.Proofs.YtdpcnbbaipdmjaaDoor
