/- Package topo (layer 3): the table. -/
import Derived.Test.YtbgnaohjcfbaaaaDoorTopo2
namespace Go.Proofs.YtbgnaohjcfbaaaaDoor
open Go.RowKit
set_option linter.unusedVariables false
set_option linter.unusedSimpArgs false
attribute [local go_sem] World.cell?_alloc_lt

def RowV.len (r : RowV) : Nat := r.zs.length
/-- The cell of a matrix. -/
def dv (D : List RowV) (a c : Nat) : Int := ((D[a]?).map (fun r => r.zs.getD c 0)).getD 0
theorem dv_at {D : List RowV} {a c : Nat} {r : RowV} (h : D[a]? = some r) : dv D a c = r.zs.getD c 0 := by unfold dv; rw [h]; rfl
theorem InRs.get {w : World} {A : Option Addr} {n i : Nat} {D : List RowV} (h : InRs w A n D) (hi : i < n) : ∃ b off r, A = some ⟨b, off, none⟩ ∧ b < w.heap.size ∧ D[i]? = some r ∧ w.cell? ⟨b, off + i, none⟩ = some (.slice r.a r.zs.length r.c) ∧ InI w r.a r.zs.length r.zs ∧ r.zs.length ≤ 9223372036854775807 := by
  obtain ⟨b, off, ha, hb, hc⟩ := h.at_ (by omega)
  have hl : i < D.length := by have := h.ln; omega
  have e := List.getElem?_eq_getElem hl
  exact ⟨b, off, D[i], ha, hb, e, hc i _ e⟩
theorem idx_rows (b off n c i : Nat) (hi : i < n) (w : World) : (Instr.indexAt 45 (.slice (some ⟨b, off, none⟩) n c) (.int .i64 (i : Int))).run Tryd.prog w = .ok (.pointer (some ⟨b, off + i, none⟩)) w := by
  simp [go_sem, hi]
/-- Is the matrix square? -/
def sqB (m : Nat) (D : List RowV) : Bool := decide (D.length = m) && D.all (fun r => decide (r.zs.length = m))
/-- The first k places of the table are filled. -/
def Filled (m : Nat) (D : List RowV) (xs : List Int) (k : Nat) : Prop := ∀ a c, c < m → a * m + c < k → xs.getD (a * m + c) 0 = dv D a c
theorem Filled.step {m k a c : Nat} {D : List RowV} {xs : List Int} (h : Filled m D xs k) (hc : c < m) (hk : a * m + c = k) (hl : k < xs.length) : Filled m D (xs.set k (dv D a c)) (k + 1) := by
  intro a' c' hc' hk'
  rw [List.getD_eq_getElem?_getD]
  by_cases e : a' * m + c' = k
  · have hm : a' = a ∧ c' = c := by
      have h1 : (a' * m + c') / m = (a * m + c) / m := by rw [e, hk]
      rw [Nat.mul_comm a' m, Nat.mul_comm a m, Nat.mul_add_div (by omega), Nat.mul_add_div (by omega), Nat.div_eq_of_lt hc', Nat.div_eq_of_lt hc] at h1
      have h2 : a' = a := by omega
      subst h2
      exact ⟨rfl, by omega⟩
    obtain ⟨rfl, rfl⟩ := hm
    rw [e, List.getElem?_set_self hl]
    rfl
  · rw [List.getElem?_set_ne (fun e2 => e e2.symm), ← List.getD_eq_getElem?_getD]
    exact h a' c' hc' (by omega)
set_option maxRecDepth 100000 in
set_option maxHeartbeats 2000000 in
theorem topo_table (t : TopoV) (m : Nat) (hm1 : 1 ≤ m) (hm8 : m ≤ 8) (hN : t.N = (m : Int)) (w : World) (hT : InTopo w t) : Calls Tryd.prog 67 #[t.val] w fun e w' => ((sqB m t.ds = true ∧ ∃ g b xs, e = .returned (.pointer (some ⟨g, 0, none⟩)) ∧ GridI w' g b m m xs ∧ Filled m t.ds xs (m * m)) ∨ (sqB m t.ds = false ∧ e = .returned (.pointer none))) ∧ Below w.heap.size w w' := by
  have hd := hT.d
  have hd63 := hT.d63
  clear hT
  obtain ⟨N, F, ca, cc, cs, da, dc, ds⟩ := t
  simp only [TopoV.val] at *
  subst hN
  have hdn := hd.ln
  have hb := Blk.new w 47 [.int .i64 (m : Int), .int .i64 F, .slice ca cs.length cc, .slice da ds.length dc]
  have hba : Below w.heap.size w (w.alloc (.cells #[.int .i64 (m : Int), .int .i64 F, .slice ca cs.length cc, .slice da ds.length dc] 47)) := bel_alloc (Below.refl _ _) _
  have hda := hd.below hba
  have HBA := Lib.hid hba; have HD := Lib.hid hda; have HB := Lib.hid hb
  clear hd hba hda hb
  go_enter Tryd.func67, Tryd.ntmps67
  go_wp2_with fail
  refine (gi_new m m _ (by omega) (by omega)).mono ?_; rintro e w1 ⟨g, b, rfl, hg, hbb, hG, hB1⟩
  generalize w.alloc (.cells #[.int .i64 (m : Int), .int .i64 F, .slice ca cs.length cc, .slice da ds.length dc] 47) = wA at *
  have hb1 := HB.out.below hB1
  have q0 := hb1.at_ (i := 0) rfl
  have q3 := hb1.at_ (i := 3) rfl
  by_cases hlen : ds.length = m
  · have hsb : sqB m ds = ds.all (fun r => decide (r.zs.length = m)) := by unfold sqB; rw [decide_eq_true hlen]; rfl
    have HS0 := Lib.hid hsb
    have hne : ((ds.length : Int) != (m : Int)) = false := by rw [bne_eq_false_iff_eq]; omega
    have hmm : m * m ≤ 64 := Nat.le_trans (Nat.mul_le_mul hm8 hm8) (by decide)
    have HL := Lib.hid hlen
    clear hsb hlen hdn hb1
    go_wp2_with fail
    go_loopw [30] (fun v wr => ∃ (i : Nat) (xs : List Int), i ≤ m ∧ v = .int .i64 (i : Int) ∧ GridI wr g b m m xs ∧ Filled m ds xs (i * m) ∧ (∀ k r, k < i → ds[k]? = some r → r.zs.length = m) ∧ Below wA.heap.size wA wr) (fun v _ => m - (intOf v).toNat)
    case atStart => exact ⟨0, _, by omega, rfl, hG, by intro a c _ h; omega, by intro k r h; omega, hB1⟩
    case round =>
      clear hG q0 q3 hB1
      obtain ⟨i, xs, him, rfl, hG, hF, hsq, hch⟩ := hrel
      have HF := Lib.hid hF; have HSQ := Lib.hid hsq
      clear hF hsq
      have hbr := HB.out.below hch
      have q0 := hbr.at_ (i := 0) rfl
      by_cases hlt : i < m
      · obtain ⟨bx, off, r, rfl, hbx, hri, hcr, hIr, hr63⟩ := HD.out.get (i := i) (by have := HL.out; omega)
        replace hcr := (hch.cell (p := ⟨bx, off + i, none⟩) hbx).trans hcr
        have hix := fun w => idx_rows bx off ds.length dc i (by have := HL.out; omega) w
        have hli : i < ds.length := by have := HL.out; omega
        by_cases hrl : r.zs.length = m
        · have hne2 : ((r.zs.length : Int) != (m : Int)) = false := by rw [bne_eq_false_iff_eq]; omega
          have HRL := Lib.hid hrl; have HRI := Lib.hid hri; have HIR := Lib.hid hIr
          clear hrl hri hIr hbr
          obtain ⟨ra, rc, zs⟩ := r
          simp only at *
          go_wp2_with fail
          go_loopw [42] (fun v wx => ∃ (j : Nat) (xs : List Int), j ≤ m ∧ v = .int .i64 (j : Int) ∧ GridI wx g b m m xs ∧ Filled m ds xs (i * m + j) ∧ Below wA.heap.size wA wx) (fun v _ => m - (intOf v).toNat)
          case atStart => exact ⟨0, xs, by omega, rfl, hG, HF.out, hch⟩
          case round =>
            clear hG hch HF q0 hcr
            obtain ⟨j, xs, hjm, rfl, hG, hF, hch⟩ := hrel
            have HF := Lib.hid hF
            clear hF
            by_cases hjl : j < m
            · have hjz : j < zs.length := by have := HRL.out; omega
              obtain ⟨bz, oz, rfl, hbz, hcz⟩ := (HIR.out.below hch).get hjz
              have hix2 := fun w => idxI bz oz zs.length rc j hjz w
              have hdv : zs.getD j 0 = dv ds i j := (dv_at HRI.out).symm
              have hpt := gi_Put_yes g b m m xs i j (i * m + j) (zs.getD j 0) wr hG hlt hjl rfl
              have hst := HF.out.step hjl rfl (by rw [hG.ln]; exact place_lt hlt hjl)
              rw [← hdv] at hst
              have HPT := Lib.hid hpt; have HST := Lib.hid hst
              clear hdv hpt hst hG
              generalize zs.getD j 0 = z at *
              go_wp2_with fail
              refine HPT.out.mono ?_; rintro e w5 ⟨rfl, hG, hc⟩
              have hch2 := bel_ch hch hc (by simp; omega)
              clear hc HPT
              go_wp2_with fail
              go_roundw
              case rel => exact ⟨j + 1, _, by omega, by go_num, hG, HST.out, hch2⟩
              case measure => simp [intOf]; omega
            · obtain rfl : j = m := by omega
              have hnl : ¬ (j < zs.length) := by have := HRL.out; omega
              have hF2 : Filled j ds xs ((i + 1) * j) := by rw [Nat.add_mul, Nat.one_mul]; exact HF.out
              have HF2 := Lib.hid hF2
              have HG := Lib.hid hG
              clear hF2 hG
              go_wp2_with fail
              go_roundw
              case rel => exact ⟨i + 1, xs, by omega, by go_num, HG.out, HF2.out, fun k r hk hr => by
                by_cases e : k = i
                · subst e
                  rw [HRI.out] at hr
                  injection hr with hr
                  subst hr
                  exact HRL.out
                · exact HSQ.out k r (by omega) hr, hch⟩
              case measure => simp [intOf]; omega
        · have hne2 : ((r.zs.length : Int) != (m : Int)) = true := by rw [bne_iff_ne]; omega
          have hall : ds.all (fun r => decide (r.zs.length = m)) = false := by
            rw [List.all_eq_false]
            exact ⟨r, List.mem_of_getElem? hri, by simpa using hrl⟩
          have HAL := Lib.hid (HS0.out.trans hall)
          clear hall hrl hri hIr hbr
          go_wp2_with fail
          go_ret
          exact ⟨Or.inr ⟨HAL.out, rfl⟩, bel_trans HBA.out hch⟩
      · obtain rfl : i = m := by omega
        have hall : ds.all (fun r => decide (r.zs.length = i)) = true := by
          rw [List.all_eq_true]
          intro r hr
          obtain ⟨k, hk, hkr⟩ := List.mem_iff_getElem.1 hr
          exact decide_eq_true (HSQ.out k r (by have := HL.out; omega) (by rw [List.getElem?_eq_getElem hk, hkr]))
        have HAL := Lib.hid (HS0.out.trans hall)
        have hnl : ¬ (i < ds.length) := by have := HL.out; omega
        clear hall hbr
        have HG := Lib.hid hG
        clear hG
        go_wp2_with fail
        go_ret
        exact ⟨Or.inl ⟨HAL.out, g, b, xs, rfl, HG.out, HF.out⟩, bel_trans HBA.out hch⟩
  · have hsb : sqB m ds = false := by unfold sqB; rw [decide_eq_false hlen]; rfl
    have hne : ((ds.length : Int) != (m : Int)) = true := by rw [bne_iff_ne]; omega
    have HS := Lib.hid hsb
    have hB2 := bel_trans HBA.out hB1
    clear hsb hlen hdn hb1 HBA HD HB hB1 hG
    go_wp2_with fail
    go_ret
    exact ⟨Or.inr ⟨HS.out, rfl⟩, hB2⟩
end Go.Proofs.YtbgnaohjcfbaaaaDoor
