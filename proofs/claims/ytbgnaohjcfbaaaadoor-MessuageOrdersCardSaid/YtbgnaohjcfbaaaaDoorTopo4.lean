/- Package topo (layer 3): the matrix, Check. -/
import Derived.Test.YtbgnaohjcfbaaaaDoorTopo3
namespace Go.Proofs.YtbgnaohjcfbaaaaDoor
open Go.RowKit
set_option linter.unusedVariables false
set_option linter.unusedSimpArgs false
attribute [local go_sem] World.cell?_alloc_lt

/-- Is a distance as it must be? -/
def okE (a c : Nat) (d : Int) : Bool := if a = c then decide (d = 10) else decide (10 < d ∧ d ≤ 255)
def symB (m : Nat) (D : List RowV) : Bool := decide (∀ a c : Fin m, dv D a c = dv D c a)
def okB (m : Nat) (D : List RowV) : Bool := decide (∀ a c : Fin m, okE a c (dv D a c) = true)
def matB (m : Nat) (D : List RowV) : Bool := sqB m D && (symB m D && okB m D)
theorem symB_eq {m : Nat} {D : List RowV} {xs : List Int} (hl : xs.length = m * m) (hF : Filled m D xs (m * m)) : decide (xs = turnTo 0 xs m m xs.length) = symB m D := by
  unfold symB
  rw [decide_eq_decide]
  have h := turned_same (0 : Int) xs m hl
  constructor
  · intro e a c
    have h2 := h.1 e.symm a c a.2 c.2
    rw [hF a c c.2 (place_lt a.2 c.2), hF c a a.2 (place_lt c.2 a.2)] at h2
    exact h2
  · intro e
    refine (h.2 fun a c ha hc => ?_).symm
    rw [hF a c hc (place_lt ha hc), hF c a ha (place_lt hc ha)]
    exact e ⟨a, ha⟩ ⟨c, hc⟩
set_option maxRecDepth 100000 in
set_option maxHeartbeats 2000000 in
theorem topo_matrix (t : TopoV) (m : Nat) (hm1 : 1 ≤ m) (hm8 : m ≤ 8) (hN : t.N = (m : Int)) (w : World) (hT : InTopo w t) : Calls Tryd.prog 57 #[t.val] w fun e w' => e = .returned (.bool (matB m t.ds)) ∧ Below w.heap.size w w' := by
  have hb := Blk.new w 47 [.int .i64 t.N, .int .i64 t.F, .slice t.ca t.cs.length t.cc, .slice t.da t.ds.length t.dc]
  have hba : Below w.heap.size w (w.alloc (.cells #[.int .i64 t.N, .int .i64 t.F, .slice t.ca t.cs.length t.cc, .slice t.da t.ds.length t.dc] 47)) := bel_alloc (Below.refl _ _) _
  have htb := topo_table t m hm1 hm8 hN _ (hT.below hba)
  have hda := hT.d.below hba
  have hd63 := hT.d63
  have hms : matB m t.ds = (sqB m t.ds && (symB m t.ds && okB m t.ds)) := rfl
  clear hT
  obtain ⟨N, F, ca, cc, cs, da, dc, ds⟩ := t
  simp only [TopoV.val] at *
  subst hN
  have HBA := Lib.hid hba; have HD := Lib.hid hda; have HB := Lib.hid hb; have HTB := Lib.hid htb; have HMS := Lib.hid hms
  clear hba hda hb htb hms
  go_enter Tryd.func57, Tryd.ntmps57
  go_wp2_with fail
  refine HTB.out.mono ?_; rintro e w1 ⟨hor, hB1⟩
  generalize w.alloc (.cells #[.int .i64 (m : Int), .int .i64 F, .slice ca cs.length cc, .slice da ds.length dc] 47) = wA at *
  rcases hor with ⟨hsq, g, b, xs, rfl, hG, hF⟩ | ⟨hsq, rfl⟩
  · have HSQ := Lib.hid hsq; have HF := Lib.hid hF
    have hln := hG.ln
    have HLN := Lib.hid hln
    clear hsq hF HTB hln
    have htd := gi_Turned g b m m xs w1 hG
    have HTD := Lib.hid htd
    clear htd
    go_wp2_with fail
    refine HTD.out.mono ?_; rintro e w2 ⟨g2, b2, rfl, _, _, hG2, hB2⟩
    have hsm := gi_Same g b g2 b2 m m xs _ w2 (hG.below hB2) hG2
    rw [symB_eq HLN.out HF.out] at hsm
    have HSM := Lib.hid hsm
    have hB3 := bel_trans hB1 hB2
    clear hsm hG2 hG hB1 hB2 HTD
    cases hsy : symB m ds with
    | false =>
      have h1 := HSM.out
      rw [hsy] at h1
      have HS1 := Lib.hid h1
      have h2 := HMS.out
      rw [HSQ.out, hsy] at h2
      have H2 := Lib.hid h2
      clear h1 h2 hsy HSM HMS
      go_wp2_with fail
      refine HS1.out.mono ?_; rintro e w3 ⟨rfl, hB4⟩
      have hB5 := bel_trans hB3 hB4
      clear hB4
      go_wp2_with fail
      go_ret
      exact ⟨by rw [H2.out]; rfl, bel_trans HBA.out hB5⟩
    | true =>
      have h1 := HSM.out
      rw [hsy] at h1
      have HS1 := Lib.hid h1
      have h2 := HMS.out
      rw [HSQ.out, hsy, Bool.true_and, Bool.true_and] at h2
      have H2 := Lib.hid h2
      clear h1 h2 hsy HSM HMS
      go_wp2_with fail
      refine HS1.out.mono ?_; rintro e w3 ⟨rfl, hB4⟩
      have hB5 := bel_trans hB3 hB4
      clear hB4 hB3 HS1
      have hb3 := HB.out.below hB5
      have q3 := hb3.at_ (i := 3) rfl
      have hlen : ds.length = m := by
        have := HSQ.out
        unfold sqB at this
        rw [Bool.and_eq_true] at this
        exact of_decide_eq_true this.1
      have hrows : ∀ r ∈ ds, r.zs.length = m := by
        have := HSQ.out
        unfold sqB at this
        rw [Bool.and_eq_true, List.all_eq_true] at this
        exact fun r hr => of_decide_eq_true (this.2 r hr)
      have HL := Lib.hid hlen; have HR := Lib.hid hrows
      clear hlen hrows hb3
      go_wp2_with fail
      go_loopw [22] (fun v wr => ∃ (i : Nat), i ≤ m ∧ v = .int .i64 (i : Int) ∧ (∀ a c : Nat, a < i → c < m → okE a c (dv ds a c) = true) ∧ wr = w3) (fun v _ => m - (intOf v).toNat)
      case atStart => exact ⟨0, by omega, rfl, fun a c h => by omega, rfl⟩
      case round =>
        obtain ⟨i, him, rfl, hok, rfl⟩ := hrel
        have HOK := Lib.hid hok
        clear hok
        by_cases hlt : i < m
        · obtain ⟨bx, off, r, rfl, hbx, hri, hcr, hIr, hr63⟩ := HD.out.get (i := i) (by have := HL.out; omega)
          replace hcr := (hB5.cell (p := ⟨bx, off + i, none⟩) hbx).trans hcr
          have hix := fun w => idx_rows bx off ds.length dc i (by have := HL.out; omega) w
          have hli : i < ds.length := by have := HL.out; omega
          have hrl := HR.out r (List.mem_of_getElem? hri)
          have HRL := Lib.hid hrl; have HRI := Lib.hid hri; have HIR := Lib.hid (hIr.below hB5)
          clear hrl hri hIr
          obtain ⟨ra, rc, zs⟩ := r
          simp only at *
          go_wp2_with fail
          go_loopw [29] (fun v wx => ∃ (j : Nat), j ≤ m ∧ v = .int .i64 (j : Int) ∧ (∀ c : Nat, c < j → okE i c (dv ds i c) = true) ∧ wx = wr) (fun v _ => m - (intOf v).toNat)
          case atStart => exact ⟨0, by omega, rfl, fun c h => by omega, rfl⟩
          case round =>
            obtain ⟨j, hjm, rfl, hok, rfl⟩ := hrel
            have HOK2 := Lib.hid hok
            clear hok hcr
            by_cases hjl : j < m
            · have hjz : j < zs.length := by have := HRL.out; omega
              obtain ⟨bz, oz, rfl, hbz, hcz⟩ := HIR.out.get hjz
              have hix2 := fun w => idxI bz oz zs.length rc j hjz w
              have hdv : zs.getD j 0 = dv ds i j := (dv_at HRI.out).symm
              rw [hdv] at hcz
              cases hoe : okE i j (dv ds i j) with
              | true =>
                have hoe2 := hoe
                clear hdv
                unfold okE at hoe
                by_cases hij : i = j
                · subst hij
                  rw [if_pos rfl] at hoe
                  have hd := of_decide_eq_true hoe
                  clear hoe
                  have hd1 : (dv ds i i != 10) = false := by rw [bne_eq_false_iff_eq]; exact hd
                  have hd2 : ((i : Int) != (i : Int)) = false := by rw [bne_eq_false_iff_eq]
                  clear hd
                  have HOE := Lib.hid hoe2
                  clear hoe2
                  generalize hdd : dv ds i i = d at *
                  have HDD := Lib.hid hdd
                  clear hdd
                  go_wp2_with fail
                  go_roundw
                  case rel => exact ⟨i + 1, by omega, by go_num, fun c hc => by
                    by_cases e : c = i
                    · subst e; rw [HDD.out]; exact HOE.out
                    · exact HOK2.out c (by omega), by first | rfl | trivial⟩
                  case measure => simp [intOf]; omega
                · rw [if_neg hij] at hoe
                  obtain ⟨hd1, hd2⟩ := of_decide_eq_true hoe
                  clear hoe
                  have hn1 : ((i : Int) == (j : Int)) = false := by rw [beq_eq_false_iff_ne]; omega
                  have hn2 : ((i : Int) != (j : Int)) = true := by rw [bne_iff_ne]; omega
                  have HOE := Lib.hid hoe2
                  clear hoe2
                  generalize hdd : dv ds i j = d at *
                  have HDD := Lib.hid hdd
                  clear hdd
                  go_wp2_with fail
                  go_roundw
                  case rel => exact ⟨j + 1, by omega, by go_num, fun c hc => by
                    by_cases e : c = j
                    · subst e; rw [HDD.out]; exact HOE.out
                    · exact HOK2.out c (by omega), by first | rfl | trivial⟩
                  case measure => simp [intOf]; omega
              | false =>
                have hko : okB m ds = false := decide_eq_false fun h => by
                  have := h ⟨i, hlt⟩ ⟨j, hjl⟩
                  rw [hoe] at this
                  cases this
                have HKO := Lib.hid hko
                clear hdv hko
                unfold okE at hoe
                by_cases hij : i = j
                · subst hij
                  rw [if_pos rfl] at hoe
                  have hd := of_decide_eq_false hoe
                  have hd1 : (dv ds i i != 10) = true := by rw [bne_iff_ne]; exact hd
                  clear hoe hd
                  generalize dv ds i i = d at *
                  go_wp2_with fail
                  go_ret
                  exact ⟨by rw [H2.out, HKO.out]; rfl, bel_trans HBA.out hB5⟩
                · rw [if_neg hij] at hoe
                  have hd := of_decide_eq_false hoe
                  have hn1 : ((i : Int) == (j : Int)) = false := by rw [beq_eq_false_iff_ne]; omega
                  have hn2 : ((i : Int) != (j : Int)) = true := by rw [bne_iff_ne]; omega
                  clear hoe
                  generalize dv ds i j = d at *
                  rcases Classical.em (d ≤ 10) with h10 | h10
                  · clear hd
                    go_wp2_with fail
                    go_ret
                    exact ⟨by rw [H2.out, HKO.out]; rfl, bel_trans HBA.out hB5⟩
                  · have h25 : 255 < d := by omega
                    clear hd
                    go_wp2_with fail
                    go_ret
                    exact ⟨by rw [H2.out, HKO.out]; rfl, bel_trans HBA.out hB5⟩
            · obtain rfl : j = m := by omega
              have hnl : ¬ (j < zs.length) := by have := HRL.out; omega
              go_wp2_with fail
              go_roundw
              case rel => exact ⟨i + 1, by omega, by go_num, fun a c ha hc => by
                by_cases e : a = i
                · subst e; exact HOK2.out c hc
                · exact HOK.out a c (by omega) hc, by first | rfl | trivial⟩
              case measure => simp [intOf]; omega
        · obtain rfl : i = m := by omega
          have hnl : ¬ (i < ds.length) := by have := HL.out; omega
          have hko : okB i ds = true := decide_eq_true fun a c => HOK.out a c a.2 c.2
          have HKO := Lib.hid hko
          clear hko
          go_wp2_with fail
          go_ret
          exact ⟨by rw [H2.out, HKO.out]; rfl, bel_trans HBA.out hB5⟩
  · have h2 := HMS.out
    rw [hsq] at h2
    have H2 := Lib.hid h2
    clear h2 hsq HMS HTB
    go_wp2_with fail
    go_ret
    exact ⟨by rw [H2.out]; rfl, bel_trans HBA.out hB1⟩
end Go.Proofs.YtbgnaohjcfbaaaaDoor
