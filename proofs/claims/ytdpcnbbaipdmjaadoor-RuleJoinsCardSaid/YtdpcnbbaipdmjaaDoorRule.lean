/- Package rule (layer 26): sets, node, Parse; messuageref26.after, Parse. -/
import Derived.Test.YtdpcnbbaipdmjaaDoorRulePure
import Derived.Test.YtdpcnbbaipdmjaaDoorShelf
namespace Go.Proofs.YtdpcnbbaipdmjaaDoor
open Go.RowKit Go.Shelf
set_option linter.unusedVariables false
set_option linter.unusedSimpArgs false
attribute [local go_sem] World.cell?_alloc_lt

def ruleV (o : Option Pol) : Value := match o with
  | some p => .tuple #[p.v, .int .i64 0]
  | none => .tuple #[.agg #[.int .i64 0, .int .u8 0, .int .i64 0], .int .i64 2]
/-- A struct of three and a number, returned. -/
theorem Blk.three {w : World} {b : Nat} {T : TypeId} {v0 v1 v2 u0 u1 u2 : Value} (h : Blk w b T [u0, u1, u2]) : Blk (((w.setCell ⟨b, 0, none⟩ v0).setCell ⟨b, 1, none⟩ v1).setCell ⟨b, 2, none⟩ v2) b T [v0, v1, v2] := ((h.set_ 0 v0).set_ 1 v1).set_ 2 v2
set_option maxRecDepth 100000 in
theorem setsR_any (m : Int) (t : ByteArray) (ht : t.size ≤ 4611686018427387904) (w : World) : Calls Tryd.prog 20 #[.int .i64 m, .string t] w fun e w' => e = .returned (ruleV (setR m t)) ∧ Below w.heap.size w w' := by
  have hpa := fun w => parse_any t ht w
  have hb0 := Blk.new w 24 [.int .i64 0, .int .u8 0, .int .i64 0]
  have hba := bel_alloc (Below.refl w.heap.size w) (.cells #[.int .i64 0, .int .u8 0, .int .i64 0] 24)
  obtain ⟨V, hV⟩ : ∃ V, ruleV (setR m t) = V := ⟨_, rfl⟩
  rw [hV]
  have hs : setR m t = match parseO t with
    | some s => if s = 0 then none else some ⟨m, s, 0⟩
    | none => none := rfl
  rw [hs] at hV
  clear hs
  cases ho : parseO t with
  | none =>
    rw [ho] at hpa hV
    simp only [parseV, ruleV] at hpa hV
    have HPA := Lib.hid hpa; have HV := Lib.hid hV; have HB := Lib.hid hb0; have HBA := Lib.hid hba
    clear hpa hV hb0 hba ho
    go_enter Tryd.func20, Tryd.ntmps20
    go_wp2_with fail
    refine (HPA.out _).mono ?_; rintro e w1 ⟨rfl, hB⟩
    have hb1 := HB.out.below hB
    have q0 := hb1.at_ (i := 0) rfl
    have q1 := hb1.at_ (i := 1) rfl
    have q2 := hb1.at_ (i := 2) rfl
    have f0 := hb1.frozen 0; have f1 := hb1.frozen 1; have f2 := hb1.frozen 2
    go_wp2_with fail
    have hb3 : Blk (((w1.setCell ⟨w.heap.size, 0, none⟩ (.int .i64 0)).setCell ⟨w.heap.size, 1, none⟩ (.int .u8 0)).setCell ⟨w.heap.size, 2, none⟩ (.int .i64 0)) w.heap.size 24 [(.int .i64 0), (.int .u8 0), (.int .i64 0)] := hb1.three
    have hB3 : Below w.heap.size w (((w1.setCell ⟨w.heap.size, 0, none⟩ (.int .i64 0)).setCell ⟨w.heap.size, 1, none⟩ (.int .u8 0)).setCell ⟨w.heap.size, 2, none⟩ (.int .i64 0)) := bel_set (bel_set (bel_set (bel_trans HBA.out hB) (by simp) _) (by simp) _) (by simp) _
    have e0 := hb3.at_ (i := 0) rfl
    have e1 := hb3.at_ (i := 1) rfl
    have e2 := hb3.at_ (i := 2) rfl
    exact bodyPost_ret (v := .tuple #[.agg #[.int .i64 0, .int .u8 0, .int .i64 0], .int .i64 2]) (by simp [results, Tryd.results20, go_sem, e0, e1, e2]) rfl ⟨by rw [← HV.out], hB3⟩
  | some s =>
    have hlt := parseO_lt ho
    rw [ho] at hpa hV
    simp only [parseV] at hpa hV
    have HPA := Lib.hid hpa; have HB := Lib.hid hb0; have HBA := Lib.hid hba
    clear hpa hb0 hba ho
    by_cases h0 : s = 0
    · subst h0
      simp only [if_true, ruleV] at hV
      have HV := Lib.hid hV
      clear hV
      go_enter Tryd.func20, Tryd.ntmps20
      go_wp2_with fail
      refine (HPA.out _).mono ?_; rintro e w1 ⟨rfl, hB⟩
      have hb1 := HB.out.below hB
      have q0 := hb1.at_ (i := 0) rfl
      have q1 := hb1.at_ (i := 1) rfl
      have q2 := hb1.at_ (i := 2) rfl
      have f0 := hb1.frozen 0; have f1 := hb1.frozen 1; have f2 := hb1.frozen 2
      go_wp2_with fail
      have hb3 : Blk (((w1.setCell ⟨w.heap.size, 0, none⟩ (.int .i64 0)).setCell ⟨w.heap.size, 1, none⟩ (.int .u8 0)).setCell ⟨w.heap.size, 2, none⟩ (.int .i64 0)) w.heap.size 24 [(.int .i64 0), (.int .u8 0), (.int .i64 0)] := hb1.three
      have hB3 : Below w.heap.size w (((w1.setCell ⟨w.heap.size, 0, none⟩ (.int .i64 0)).setCell ⟨w.heap.size, 1, none⟩ (.int .u8 0)).setCell ⟨w.heap.size, 2, none⟩ (.int .i64 0)) := bel_set (bel_set (bel_set (bel_trans HBA.out hB) (by simp) _) (by simp) _) (by simp) _
      have e0 := hb3.at_ (i := 0) rfl
      have e1 := hb3.at_ (i := 1) rfl
      have e2 := hb3.at_ (i := 2) rfl
      exact bodyPost_ret (v := .tuple #[.agg #[.int .i64 0, .int .u8 0, .int .i64 0], .int .i64 2]) (by simp [results, Tryd.results20, go_sem, e0, e1, e2]) rfl ⟨by rw [← HV.out], hB3⟩
    · rw [if_neg h0] at hV
      simp only [ruleV, Pol.v] at hV
      have hn0 : ((s : Int) == 0) = false := by rw [beq_eq_false_iff_ne]; omega
      have HV := Lib.hid hV
      clear hV h0
      go_enter Tryd.func20, Tryd.ntmps20
      go_wp2_with fail
      refine (HPA.out _).mono ?_; rintro e w1 ⟨rfl, hB⟩
      have hb1 := HB.out.below hB
      have q0 := hb1.at_ (i := 0) rfl
      have q1 := hb1.at_ (i := 1) rfl
      have q2 := hb1.at_ (i := 2) rfl
      have f0 := hb1.frozen 0; have f1 := hb1.frozen 1; have f2 := hb1.frozen 2
      go_wp2_with fail
      have hb3 : Blk (((w1.setCell ⟨w.heap.size, 0, none⟩ (.int .i64 m)).setCell ⟨w.heap.size, 1, none⟩ (.int .u8 (s : Int))).setCell ⟨w.heap.size, 2, none⟩ (.int .i64 0)) w.heap.size 24 [(.int .i64 m), (.int .u8 (s : Int)), (.int .i64 0)] := hb1.three
      have hB3 : Below w.heap.size w (((w1.setCell ⟨w.heap.size, 0, none⟩ (.int .i64 m)).setCell ⟨w.heap.size, 1, none⟩ (.int .u8 (s : Int))).setCell ⟨w.heap.size, 2, none⟩ (.int .i64 0)) := bel_set (bel_set (bel_set (bel_trans HBA.out hB) (by simp) _) (by simp) _) (by simp) _
      have e0 := hb3.at_ (i := 0) rfl
      have e1 := hb3.at_ (i := 1) rfl
      have e2 := hb3.at_ (i := 2) rfl
      exact bodyPost_ret (v := .tuple #[.agg #[.int .i64 m, .int .u8 (s : Int), .int .i64 0], .int .i64 0]) (by simp [results, Tryd.results20, go_sem, e0, e1, e2]) rfl ⟨by rw [← HV.out], hB3⟩

def ruleZ : Value := .tuple #[.agg #[.int .i64 0, .int .u8 0, .int .i64 0], .int .i64 2]
theorem idx_one (b : UInt8) : ∀ h, ((⟨#[b]⟩ : ByteArray)[0]'h) = b := fun _ => rfl
set_option maxRecDepth 100000 in
theorem nodeR_any (t : ByteArray) (w : World) : Calls Tryd.prog 21 #[.string t] w fun e w' => e = .returned (ruleV (nodeR t.data.toList)) ∧ Below w.heap.size w w' := by
  have hba := bel_alloc (Below.refl w.heap.size w) (.cells #[.int .i64 0, .int .u8 0, .int .i64 0] 24)
  obtain ⟨V, hV⟩ : ∃ V, ruleV (nodeR t.data.toList) = V := ⟨_, rfl⟩
  rw [hV]
  by_cases h1 : t.size = 1
  · obtain ⟨x, rfl⟩ : ∃ x, t = ⟨#[x]⟩ := by
      obtain ⟨⟨l⟩⟩ := t
      match l, h1 with
      | [x], _ => exact ⟨x, rfl⟩
    have hb := UInt8.toNat_lt x
    have hn : nodeR (⟨#[x]⟩ : ByteArray).data.toList = if okNode x = true then some ⟨3, 0, nodeN x⟩ else none := rfl
    rw [hn] at hV
    unfold okNode nodeN at hV
    have hix : ∀ h, (((⟨#[x]⟩ : ByteArray)[0]'h).toNat : Int) = (x.toNat : Int) := fun _ => rfl
    clear hn h1
    generalize x.toNat = n at *
    rcases Nat.lt_or_ge n 48 with g1 | g1
    · rw [if_neg (by simp; omega)] at hV
      have HV := Lib.hid hV; have HBA := Lib.hid hba
      clear hV hba
      go_enter Tryd.func21, Tryd.ntmps21
      go_wp2_with fail
      exact bodyPost_ret (v := ruleZ) (by simp [ruleZ, results, Tryd.results21, go_sem]) rfl ⟨by rw [← HV.out]; rfl, HBA.out⟩
    · rcases Nat.lt_or_ge n 56 with g2 | g2
      · rw [if_pos (decide_eq_true ⟨g1, g2⟩)] at hV
        have h5 : IntKind.u8.wrap ((n : Int) - 48) = (n : Int) - 48 := by
          simp only [IntKind.wrap]
          simp [IntKind.signed, IntKind.bits]
          omega
        have HV := Lib.hid hV; have HBA := Lib.hid hba
        clear hV hba
        go_enter Tryd.func21, Tryd.ntmps21
        go_wp2_with fail
        all_goals
          exact bodyPost_ret (v := .tuple #[.agg #[.int .i64 3, .int .u8 0, .int .i64 ((n : Int) - 48)], .int .i64 0]) (by simp [results, Tryd.results21, go_sem]) rfl ⟨by rw [← HV.out]; rfl, by repeat (first | exact HBA.out | exact bel_alloc (Below.refl _ _) _ | refine bel_set ?_ ?_ _ | (simp; done))⟩
      · rw [if_neg (by simp; omega)] at hV
        have HV := Lib.hid hV; have HBA := Lib.hid hba
        clear hV hba
        go_enter Tryd.func21, Tryd.ntmps21
        go_wp2_with fail
        exact bodyPost_ret (v := ruleZ) (by simp [ruleZ, results, Tryd.results21, go_sem]) rfl ⟨by rw [← HV.out]; rfl, HBA.out⟩
  · have hn : nodeR t.data.toList = none := by
      obtain ⟨⟨l⟩⟩ := t
      match l, h1 with
      | [], _ => rfl
      | [x], h => exact absurd rfl h
      | x :: y :: z, _ => rfl
    rw [hn] at hV
    have e1 : ((t.size : Int) != 1) = true := by rw [bne_iff_ne]; omega
    have HV := Lib.hid hV; have HBA := Lib.hid hba
    clear hV hba h1 hn
    go_enter Tryd.func21, Tryd.ntmps21
    go_wp2_with fail
    exact bodyPost_ret (v := ruleZ) (by simp [ruleZ, results, Tryd.results21, go_sem]) rfl ⟨by rw [← HV.out]; rfl, HBA.out⟩

theorem cutp_any (t p : ByteArray) (n : Nat) (hn : p.data.toList.length = n) : ∃ r : ByteArray, (Lib.hasPrefix t.data.toList p.data.toList = true → r = bytesOf (t.data.toList.drop n)) ∧ r.size ≤ t.size ∧ ∀ w : World, Calls Tryd.prog 19 #[.string t, .string p] w fun e w' => e = .returned (.tuple #[.string r, .bool (Lib.hasPrefix t.data.toList p.data.toList)]) ∧ w' = w := by
  refine ⟨⟨(Lib.trimPrefix t.data.toList p.data.toList).toArray⟩, fun h => ?_, ?_, fun w => Tryd.strings_CutPrefix t p w⟩
  · rw [pre_drop h, hn]
    rfl
  · unfold Lib.trimPrefix
    split
    · show (t.data.toList.drop p.data.toList.length).toArray.size ≤ _
      rw [List.size_toArray, List.length_drop, len_data]
      omega
    · show t.data.toList.toArray.size ≤ _
      rw [List.size_toArray, len_data]
      exact Nat.le_refl _
set_option maxRecDepth 100000 in
set_option maxHeartbeats 4000000 in
theorem ruleParse_any (t : ByteArray) (ht : t.size ≤ 1000000) (w : World) : Calls Tryd.prog 7 #[.string t] w fun e w' => e = .returned (ruleV (ruleO t)) ∧ Below w.heap.size w w' := by
  have hb0 := Blk.new w 24 [.int .i64 0, .int .u8 0, .int .i64 0]
  have hba := bel_alloc (Below.refl w.heap.size w) (.cells #[.int .i64 0, .int .u8 0, .int .i64 0] 24)
  obtain ⟨V, hV⟩ : ∃ V, ruleV (ruleO t) = V := ⟨_, rfl⟩
  rw [hV]
  obtain ⟨r1, hr1, hz1, hc1⟩ := cutp_any t ⟨#[109, 101, 109, 98, 105, 110, 100, 61]⟩ 8 rfl
  obtain ⟨r2, hr2, hz2, hc2⟩ := cutp_any t ⟨#[105, 110, 116, 101, 114, 108, 101, 97, 118, 101, 61]⟩ 11 rfl
  obtain ⟨r3, hr3, hz3, hc3⟩ := cutp_any t ⟨#[112, 114, 101, 102, 101, 114, 114, 101, 100, 61]⟩ 10 rfl
  change Lib.hasPrefix t.data.toList memL = true → _ at hr1
  change Lib.hasPrefix t.data.toList intL = true → _ at hr2
  change Lib.hasPrefix t.data.toList preL3 = true → _ at hr3
  change ∀ w : World, Calls _ _ _ w fun e w' => e = .returned (.tuple #[.string r1, .bool (Lib.hasPrefix t.data.toList memL)]) ∧ w' = w at hc1
  change ∀ w : World, Calls _ _ _ w fun e w' => e = .returned (.tuple #[.string r2, .bool (Lib.hasPrefix t.data.toList intL)]) ∧ w' = w at hc2
  change ∀ w : World, Calls _ _ _ w fun e w' => e = .returned (.tuple #[.string r3, .bool (Lib.hasPrefix t.data.toList preL3)]) ∧ w' = w at hc3
  unfold ruleO at hV
  by_cases hl : t = locB
  · rw [if_pos hl] at hV
    simp only [ruleV, Pol.v] at hV
    have HV := Lib.hid hV; have HBA := Lib.hid hba
    clear hV hba hr1 hr2 hr3 hc1 hc2 hc3 hb0 hz1 hz2 hz3
    subst hl
    unfold locB
    go_enter Tryd.func7, Tryd.ntmps7
    go_wp2_with fail
    exact bodyPost_ret (v := .tuple #[.agg #[.int .i64 0, .int .u8 0, .int .i64 0], .int .i64 0]) (by simp [results, Tryd.results7, go_sem]) rfl ⟨by rw [← HV.out]; rfl, by repeat (first | exact HBA.out | exact bel_alloc (Below.refl _ _) _ | refine bel_set ?_ ?_ _ | (simp; done))⟩
  · rw [if_neg hl] at hV
    have hq : (t.toList == [108, 111, 99, 97, 108]) = false := by
      have h := str_beq t locB
      rw [decide_eq_false hl, Lib.toList_data locB] at h
      exact h
    cases hp1 : Lib.hasPrefix t.data.toList memL with
    | true =>
      rw [if_pos hp1, ← hr1 hp1] at hV
      rw [hp1] at hc1
      have hcl := fun w => setsR_any 1 r1 (by omega) w
      have HC1 := Lib.hid hc1
      clear hr1 hr2 hr3 hc1 hc2 hc3 hp1 hl
      cases ho : setR 1 r1 with
      | none =>
        rw [ho] at hcl hV
        simp only [ruleV] at hcl hV
        have HCL := Lib.hid hcl; have HV := Lib.hid hV; have HB := Lib.hid hb0; have HBA := Lib.hid hba
        clear hcl hV ho hb0 hba
        go_enter Tryd.func7, Tryd.ntmps7
        go_wp2_with fail
        refine (HC1.out _).mono ?_; rintro e wq1 ⟨rfl, hwq1⟩
        subst hwq1
        go_wp2_with fail
        refine (HCL.out _).mono ?_; rintro e w1 ⟨rfl, hB⟩
        have hb1 := HB.out.below hB
        have q0 := hb1.at_ (i := 0) rfl
        have q1 := hb1.at_ (i := 1) rfl
        have q2 := hb1.at_ (i := 2) rfl
        have f0 := hb1.frozen 0; have f1 := hb1.frozen 1; have f2 := hb1.frozen 2
        go_wp2_with fail
        have hb3 : Blk (((w1.setCell ⟨w.heap.size, 0, none⟩ (.int .i64 0)).setCell ⟨w.heap.size, 1, none⟩ (.int .u8 0)).setCell ⟨w.heap.size, 2, none⟩ (.int .i64 0)) w.heap.size 24 [(.int .i64 0), (.int .u8 0), (.int .i64 0)] := hb1.three
        have hB3 : Below w.heap.size w (((w1.setCell ⟨w.heap.size, 0, none⟩ (.int .i64 0)).setCell ⟨w.heap.size, 1, none⟩ (.int .u8 0)).setCell ⟨w.heap.size, 2, none⟩ (.int .i64 0)) := bel_set (bel_set (bel_set (bel_trans HBA.out hB) (by simp) _) (by simp) _) (by simp) _
        have e0 := hb3.at_ (i := 0) rfl
        have e1 := hb3.at_ (i := 1) rfl
        have e2 := hb3.at_ (i := 2) rfl
        exact bodyPost_ret (v := .tuple #[.agg #[(.int .i64 0), (.int .u8 0), (.int .i64 0)], .int .i64 2]) (by simp [results, Tryd.results7, go_sem, e0, e1, e2]) rfl ⟨by rw [← HV.out], hB3⟩
      | some p =>
        rw [ho] at hcl hV
        obtain ⟨pm, ps, pn⟩ := p
        simp only [ruleV, Pol.v] at hcl hV
        have HCL := Lib.hid hcl; have HV := Lib.hid hV; have HB := Lib.hid hb0; have HBA := Lib.hid hba
        clear hcl hV ho hb0 hba
        go_enter Tryd.func7, Tryd.ntmps7
        go_wp2_with fail
        refine (HC1.out _).mono ?_; rintro e wq1 ⟨rfl, hwq1⟩
        subst hwq1
        go_wp2_with fail
        refine (HCL.out _).mono ?_; rintro e w1 ⟨rfl, hB⟩
        have hb1 := HB.out.below hB
        have q0 := hb1.at_ (i := 0) rfl
        have q1 := hb1.at_ (i := 1) rfl
        have q2 := hb1.at_ (i := 2) rfl
        have f0 := hb1.frozen 0; have f1 := hb1.frozen 1; have f2 := hb1.frozen 2
        go_wp2_with fail
        have hb3 : Blk (((w1.setCell ⟨w.heap.size, 0, none⟩ (.int .i64 pm)).setCell ⟨w.heap.size, 1, none⟩ (.int .u8 (ps : Int))).setCell ⟨w.heap.size, 2, none⟩ (.int .i64 pn)) w.heap.size 24 [(.int .i64 pm), (.int .u8 (ps : Int)), (.int .i64 pn)] := hb1.three
        have hB3 : Below w.heap.size w (((w1.setCell ⟨w.heap.size, 0, none⟩ (.int .i64 pm)).setCell ⟨w.heap.size, 1, none⟩ (.int .u8 (ps : Int))).setCell ⟨w.heap.size, 2, none⟩ (.int .i64 pn)) := bel_set (bel_set (bel_set (bel_trans HBA.out hB) (by simp) _) (by simp) _) (by simp) _
        have e0 := hb3.at_ (i := 0) rfl
        have e1 := hb3.at_ (i := 1) rfl
        have e2 := hb3.at_ (i := 2) rfl
        exact bodyPost_ret (v := .tuple #[.agg #[(.int .i64 pm), (.int .u8 (ps : Int)), (.int .i64 pn)], .int .i64 0]) (by simp [results, Tryd.results7, go_sem, e0, e1, e2]) rfl ⟨by rw [← HV.out], hB3⟩
    | false =>
      rw [if_neg (by rw [hp1]; simp)] at hV
      rw [hp1] at hc1
      have HC1 := Lib.hid hc1
      cases hp2 : Lib.hasPrefix t.data.toList intL with
      | true =>
        rw [if_pos hp2, ← hr2 hp2] at hV
        rw [hp2] at hc2
        have hcl := fun w => setsR_any 2 r2 (by omega) w
        have HC2 := Lib.hid hc2
        clear hr1 hr2 hr3 hc1 hc2 hc3 hp1 hp2 hl
        cases ho : setR 2 r2 with
        | none =>
          rw [ho] at hcl hV
          simp only [ruleV] at hcl hV
          have HCL := Lib.hid hcl; have HV := Lib.hid hV; have HB := Lib.hid hb0; have HBA := Lib.hid hba
          clear hcl hV ho hb0 hba
          go_enter Tryd.func7, Tryd.ntmps7
          go_wp2_with fail
          refine (HC1.out _).mono ?_; rintro e wq1 ⟨rfl, hwq1⟩
          subst hwq1
          go_wp2_with fail
          refine (HC2.out _).mono ?_; rintro e wq2 ⟨rfl, hwq2⟩
          subst hwq2
          go_wp2_with fail
          refine (HCL.out _).mono ?_; rintro e w1 ⟨rfl, hB⟩
          have hb1 := HB.out.below hB
          have q0 := hb1.at_ (i := 0) rfl
          have q1 := hb1.at_ (i := 1) rfl
          have q2 := hb1.at_ (i := 2) rfl
          have f0 := hb1.frozen 0; have f1 := hb1.frozen 1; have f2 := hb1.frozen 2
          go_wp2_with fail
          have hb3 : Blk (((w1.setCell ⟨w.heap.size, 0, none⟩ (.int .i64 0)).setCell ⟨w.heap.size, 1, none⟩ (.int .u8 0)).setCell ⟨w.heap.size, 2, none⟩ (.int .i64 0)) w.heap.size 24 [(.int .i64 0), (.int .u8 0), (.int .i64 0)] := hb1.three
          have hB3 : Below w.heap.size w (((w1.setCell ⟨w.heap.size, 0, none⟩ (.int .i64 0)).setCell ⟨w.heap.size, 1, none⟩ (.int .u8 0)).setCell ⟨w.heap.size, 2, none⟩ (.int .i64 0)) := bel_set (bel_set (bel_set (bel_trans HBA.out hB) (by simp) _) (by simp) _) (by simp) _
          have e0 := hb3.at_ (i := 0) rfl
          have e1 := hb3.at_ (i := 1) rfl
          have e2 := hb3.at_ (i := 2) rfl
          exact bodyPost_ret (v := .tuple #[.agg #[(.int .i64 0), (.int .u8 0), (.int .i64 0)], .int .i64 2]) (by simp [results, Tryd.results7, go_sem, e0, e1, e2]) rfl ⟨by rw [← HV.out], hB3⟩
        | some p =>
          rw [ho] at hcl hV
          obtain ⟨pm, ps, pn⟩ := p
          simp only [ruleV, Pol.v] at hcl hV
          have HCL := Lib.hid hcl; have HV := Lib.hid hV; have HB := Lib.hid hb0; have HBA := Lib.hid hba
          clear hcl hV ho hb0 hba
          go_enter Tryd.func7, Tryd.ntmps7
          go_wp2_with fail
          refine (HC1.out _).mono ?_; rintro e wq1 ⟨rfl, hwq1⟩
          subst hwq1
          go_wp2_with fail
          refine (HC2.out _).mono ?_; rintro e wq2 ⟨rfl, hwq2⟩
          subst hwq2
          go_wp2_with fail
          refine (HCL.out _).mono ?_; rintro e w1 ⟨rfl, hB⟩
          have hb1 := HB.out.below hB
          have q0 := hb1.at_ (i := 0) rfl
          have q1 := hb1.at_ (i := 1) rfl
          have q2 := hb1.at_ (i := 2) rfl
          have f0 := hb1.frozen 0; have f1 := hb1.frozen 1; have f2 := hb1.frozen 2
          go_wp2_with fail
          have hb3 : Blk (((w1.setCell ⟨w.heap.size, 0, none⟩ (.int .i64 pm)).setCell ⟨w.heap.size, 1, none⟩ (.int .u8 (ps : Int))).setCell ⟨w.heap.size, 2, none⟩ (.int .i64 pn)) w.heap.size 24 [(.int .i64 pm), (.int .u8 (ps : Int)), (.int .i64 pn)] := hb1.three
          have hB3 : Below w.heap.size w (((w1.setCell ⟨w.heap.size, 0, none⟩ (.int .i64 pm)).setCell ⟨w.heap.size, 1, none⟩ (.int .u8 (ps : Int))).setCell ⟨w.heap.size, 2, none⟩ (.int .i64 pn)) := bel_set (bel_set (bel_set (bel_trans HBA.out hB) (by simp) _) (by simp) _) (by simp) _
          have e0 := hb3.at_ (i := 0) rfl
          have e1 := hb3.at_ (i := 1) rfl
          have e2 := hb3.at_ (i := 2) rfl
          exact bodyPost_ret (v := .tuple #[.agg #[(.int .i64 pm), (.int .u8 (ps : Int)), (.int .i64 pn)], .int .i64 0]) (by simp [results, Tryd.results7, go_sem, e0, e1, e2]) rfl ⟨by rw [← HV.out], hB3⟩
      | false =>
        rw [if_neg (by rw [hp2]; simp)] at hV
        rw [hp2] at hc2
        have HC2 := Lib.hid hc2
        cases hp3 : Lib.hasPrefix t.data.toList preL3 with
        | true =>
          have hr := hr3 hp3
          rw [if_pos hp3, show t.data.toList.drop 10 = r3.data.toList by rw [hr]; rfl] at hV
          rw [hp3] at hc3
          have hcl := fun w => nodeR_any r3 w
          have HC3 := Lib.hid hc3
          clear hr1 hr2 hr3 hc1 hc2 hc3 hp1 hp2 hp3 hl hr
          cases ho : nodeR r3.data.toList with
          | none =>
            rw [ho] at hcl hV
            simp only [ruleV] at hcl hV
            have HCL := Lib.hid hcl; have HV := Lib.hid hV; have HB := Lib.hid hb0; have HBA := Lib.hid hba
            clear hcl hV ho hb0 hba
            go_enter Tryd.func7, Tryd.ntmps7
            go_wp2_with fail
            refine (HC1.out _).mono ?_; rintro e wq1 ⟨rfl, hwq1⟩
            subst hwq1
            go_wp2_with fail
            refine (HC2.out _).mono ?_; rintro e wq2 ⟨rfl, hwq2⟩
            subst hwq2
            go_wp2_with fail
            refine (HC3.out _).mono ?_; rintro e wq3 ⟨rfl, hwq3⟩
            subst hwq3
            go_wp2_with fail
            refine (HCL.out _).mono ?_; rintro e w1 ⟨rfl, hB⟩
            have hb1 := HB.out.below hB
            have q0 := hb1.at_ (i := 0) rfl
            have q1 := hb1.at_ (i := 1) rfl
            have q2 := hb1.at_ (i := 2) rfl
            have f0 := hb1.frozen 0; have f1 := hb1.frozen 1; have f2 := hb1.frozen 2
            go_wp2_with fail
            have hb3 : Blk (((w1.setCell ⟨w.heap.size, 0, none⟩ (.int .i64 0)).setCell ⟨w.heap.size, 1, none⟩ (.int .u8 0)).setCell ⟨w.heap.size, 2, none⟩ (.int .i64 0)) w.heap.size 24 [(.int .i64 0), (.int .u8 0), (.int .i64 0)] := hb1.three
            have hB3 : Below w.heap.size w (((w1.setCell ⟨w.heap.size, 0, none⟩ (.int .i64 0)).setCell ⟨w.heap.size, 1, none⟩ (.int .u8 0)).setCell ⟨w.heap.size, 2, none⟩ (.int .i64 0)) := bel_set (bel_set (bel_set (bel_trans HBA.out hB) (by simp) _) (by simp) _) (by simp) _
            have e0 := hb3.at_ (i := 0) rfl
            have e1 := hb3.at_ (i := 1) rfl
            have e2 := hb3.at_ (i := 2) rfl
            exact bodyPost_ret (v := .tuple #[.agg #[(.int .i64 0), (.int .u8 0), (.int .i64 0)], .int .i64 2]) (by simp [results, Tryd.results7, go_sem, e0, e1, e2]) rfl ⟨by rw [← HV.out], hB3⟩
          | some p =>
            rw [ho] at hcl hV
            obtain ⟨pm, ps, pn⟩ := p
            simp only [ruleV, Pol.v] at hcl hV
            have HCL := Lib.hid hcl; have HV := Lib.hid hV; have HB := Lib.hid hb0; have HBA := Lib.hid hba
            clear hcl hV ho hb0 hba
            go_enter Tryd.func7, Tryd.ntmps7
            go_wp2_with fail
            refine (HC1.out _).mono ?_; rintro e wq1 ⟨rfl, hwq1⟩
            subst hwq1
            go_wp2_with fail
            refine (HC2.out _).mono ?_; rintro e wq2 ⟨rfl, hwq2⟩
            subst hwq2
            go_wp2_with fail
            refine (HC3.out _).mono ?_; rintro e wq3 ⟨rfl, hwq3⟩
            subst hwq3
            go_wp2_with fail
            refine (HCL.out _).mono ?_; rintro e w1 ⟨rfl, hB⟩
            have hb1 := HB.out.below hB
            have q0 := hb1.at_ (i := 0) rfl
            have q1 := hb1.at_ (i := 1) rfl
            have q2 := hb1.at_ (i := 2) rfl
            have f0 := hb1.frozen 0; have f1 := hb1.frozen 1; have f2 := hb1.frozen 2
            go_wp2_with fail
            have hb3 : Blk (((w1.setCell ⟨w.heap.size, 0, none⟩ (.int .i64 pm)).setCell ⟨w.heap.size, 1, none⟩ (.int .u8 (ps : Int))).setCell ⟨w.heap.size, 2, none⟩ (.int .i64 pn)) w.heap.size 24 [(.int .i64 pm), (.int .u8 (ps : Int)), (.int .i64 pn)] := hb1.three
            have hB3 : Below w.heap.size w (((w1.setCell ⟨w.heap.size, 0, none⟩ (.int .i64 pm)).setCell ⟨w.heap.size, 1, none⟩ (.int .u8 (ps : Int))).setCell ⟨w.heap.size, 2, none⟩ (.int .i64 pn)) := bel_set (bel_set (bel_set (bel_trans HBA.out hB) (by simp) _) (by simp) _) (by simp) _
            have e0 := hb3.at_ (i := 0) rfl
            have e1 := hb3.at_ (i := 1) rfl
            have e2 := hb3.at_ (i := 2) rfl
            exact bodyPost_ret (v := .tuple #[.agg #[(.int .i64 pm), (.int .u8 (ps : Int)), (.int .i64 pn)], .int .i64 0]) (by simp [results, Tryd.results7, go_sem, e0, e1, e2]) rfl ⟨by rw [← HV.out], hB3⟩
        | false =>
          rw [if_neg (by rw [hp3]; simp)] at hV
          rw [hp3] at hc3
          have HC3 := Lib.hid hc3
          simp only [ruleV] at hV
          have HV := Lib.hid hV; have HBA := Lib.hid hba
          clear hr1 hr2 hr3 hc1 hc2 hc3 hp1 hp2 hp3 hl hV hba hb0
          go_enter Tryd.func7, Tryd.ntmps7
          go_wp2_with fail
          refine (HC1.out _).mono ?_; rintro e wq1 ⟨rfl, hwq1⟩
          subst hwq1
          go_wp2_with fail
          refine (HC2.out _).mono ?_; rintro e wq2 ⟨rfl, hwq2⟩
          subst hwq2
          go_wp2_with fail
          refine (HC3.out _).mono ?_; rintro e wq3 ⟨rfl, hwq3⟩
          subst hwq3

          go_wp2_with fail
          exact bodyPost_ret (v := ruleZ) (by simp [ruleZ, results, Tryd.results7, go_sem]) rfl ⟨by rw [← HV.out]; rfl, by repeat (first | exact HBA.out | exact bel_alloc (Below.refl _ _) _ | refine bel_set ?_ ?_ _ | (simp; done))⟩
end Go.Proofs.YtdpcnbbaipdmjaaDoor
