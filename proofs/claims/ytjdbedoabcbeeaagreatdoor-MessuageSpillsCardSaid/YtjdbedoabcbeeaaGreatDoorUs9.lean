/- Parts of the proof: Topo2, Topo3, Topo4. -/
import Derived.Test.YtjdbedoabcbeeaaGreatDoorUs8
/- Package topo (layer 3): the processors' nodes. -/
namespace Go.Proofs.YtjdbedoabcbeeaaGreatDoor
open Go.RowKit
set_option linter.unusedVariables false
set_option linter.unusedSimpArgs false
attribute [local go_sem] World.cell?_alloc_lt

/-- Is a processor's node none? -/
def badN (N : Int) (c : Int) : Bool := decide (c < 0) || decide (N ≤ c)
theorem bad_any (x N : Int) (p : Nat) (w : World) (hp : w.cell? ⟨p, 0, none⟩ = some (.int .i64 N)) : Calls Tryz.prog 41 #[.int .i64 x, .pointer (some ⟨p, 0, none⟩)] w fun e w' => e = .returned (.bool (badN N x)) ∧ w = w' := by
  unfold badN
  rcases Classical.em (x < 0) with h | h
  · have hd : (decide (x < 0) || decide (N ≤ x)) = true := by rw [decide_eq_true h]; rfl
    rw [hd]
    clear hd
    go_enter Tryz.func41, Tryz.ntmps41
    go_wp2_with fail
    go_ret
    exact ⟨rfl, rfl⟩
  · have hd : (decide (x < 0) || decide (N ≤ x)) = decide (N ≤ x) := by rw [decide_eq_false h]; rfl
    rw [hd]
    clear hd
    go_enter Tryz.func41, Tryz.ntmps41
    go_wp2_with fail
    go_ret
    exact ⟨rfl, rfl⟩
theorem any_take {α : Type} (f : α → Bool) (xs : List α) (i : Nat) (x : α) (h : xs[i]? = some x) : (xs.take (i + 1)).any f = ((xs.take i).any f || f x) := by
  have hl := (List.getElem?_eq_some_iff.1 h).1
  rw [List.take_succ_eq_append_getElem hl, List.any_append]
  rw [List.getElem?_eq_getElem hl] at h
  injection h with h
  rw [h]
  simp
theorem any_of {α : Type} (f : α → Bool) (xs : List α) (i : Nat) (x : α) (h : xs[i]? = some x) (hf : f x = true) : xs.any f = true :=
  List.any_eq_true.2 ⟨x, List.mem_of_getElem? h, hf⟩
set_option maxRecDepth 100000 in
theorem index_bad (A : Option Addr) (n c p : Nat) (xs : List Int) (N : Int) (w : World) (hI : InI w A n xs) (hn : n ≤ 9223372036854775807) (hp : w.cell? ⟨p, 0, none⟩ = some (.int .i64 N)) :
    Calls Tryz.prog 67 #[.slice A n c, .func (Fn.func 41) #[] #[.pointer (some ⟨p, 0, none⟩)]] w fun e w' => ∃ r : Int, e = .returned (.int .i64 r) ∧ w = w' ∧ (decide (0 ≤ r) = xs.any (badN N)) := by
  have HI := Lib.hid hI; clear hI
  go_enter Tryz.func67, Tryz.ntmps67
  go_wp2_with fail
  go_loopw [8, 5] (fun v v5 wr => ∃ (i : Nat), i ≤ n ∧ v = .int .i64 (i : Int) ∧ wr = w ∧ (xs.take i).any (badN N) = false) (fun v _ _ => n - (intOf v).toNat)
  case atStart => exact ⟨0, by omega, rfl, rfl, rfl⟩
  case round =>
    obtain ⟨i, hi, rfl, rfl, hno⟩ := hrel
    have HNO := Lib.hid hno; clear hno
    by_cases hlt : i < n
    · have hln := HI.out.ln
      obtain ⟨b, off, rfl, hb, hc⟩ := HI.out.get hlt
      have hxi : xs[i]? = some (xs.getD i 0) := by rw [List.getD_eq_getElem?_getD, List.getElem?_eq_getElem (by omega)]; rfl
      have hix := fun w => idxI b off n c i hlt w
      have h1 := any_take (badN N) xs i _ hxi
      have h2 := any_of (badN N) xs i _ hxi
      rw [HNO.out, Bool.false_or] at h1
      have hbd := bad_any (xs.getD i 0) N p wr hp
      have H1 := Lib.hid h1; have H2 := Lib.hid h2; have HBD := Lib.hid hbd
      clear h1 h2 hxi hbd hln
      generalize xs.getD i 0 = x at *
      cases hbx : badN N x with
      | true =>
        have h3 := H2.out hbx
        have h4 := HBD.out
        rw [hbx] at h4
        have HBX := Lib.hid h4
        have H3 := Lib.hid h3
        clear H1 H2 h3 h4 HBD hbx
        go_wp2_with fail
        refine HBX.out.mono ?_; rintro e w1 ⟨rfl, rfl⟩
        go_wp2_with fail
        go_ret
        exact ⟨_, rfl, rfl, by rw [H3.out]; exact decide_eq_true (by omega)⟩
      | false =>
        have h3 := H1.out
        rw [hbx] at h3
        have h4 := HBD.out
        rw [hbx] at h4
        have HBX := Lib.hid h4
        have H3 := Lib.hid h3
        clear H1 H2 h3 h4 HBD hbx
        go_wp2_with fail
        refine HBX.out.mono ?_; rintro e w1 ⟨rfl, rfl⟩
        go_wp2_with fail
        go_roundw
        case rel => exact ⟨i + 1, by omega, by go_num, by first | rfl | trivial, H3.out⟩
        case measure => simp [intOf]; omega
    · obtain rfl : i = n := by omega
      have hno := HNO.out
      rw [List.take_of_length_le (by rw [HI.out.ln]; omega)] at hno
      have HNO2 := Lib.hid hno
      clear hno
      go_wp2_with fail
      go_ret
      exact ⟨_, rfl, rfl, by rw [HNO2.out]; rfl⟩
set_option maxRecDepth 100000 in
theorem contains_bad (A : Option Addr) (n c p : Nat) (xs : List Int) (N : Int) (w : World) (hI : InI w A n xs) (hn : n ≤ 9223372036854775807) (hp : w.cell? ⟨p, 0, none⟩ = some (.int .i64 N)) :
    Calls Tryz.prog 40 #[.slice A n c, .func (Fn.func 41) #[] #[.pointer (some ⟨p, 0, none⟩)]] w fun e w' => e = .returned (.bool (xs.any (badN N))) ∧ w = w' := by
  have h := index_bad A n c p xs N w hI hn hp
  have H := Lib.hid h
  clear h hI
  go_enter Tryz.func40, Tryz.ntmps40
  go_wp2_with fail
  refine H.out.mono ?_; rintro e w1 ⟨r, rfl, rfl, hr⟩
  have HR := Lib.hid hr
  clear hr H
  go_wp2_with fail
  go_ret
  exact ⟨by rw [← HR.out]; rfl, rfl⟩
end Go.Proofs.YtjdbedoabcbeeaaGreatDoor
/- Package topo (layer 3): the table. -/
namespace Go.Proofs.YtjdbedoabcbeeaaGreatDoor
open Go.RowKit
set_option linter.unusedVariables false
set_option linter.unusedSimpArgs false
attribute [local go_sem] World.cell?_alloc_lt

def RowV.len (r : RowV) : Nat := r.zs.length
/-- The cell of a matrix. -/
def dv (D : List RowV) (a c : Nat) : Int := ((D[a]?).map (fun r => r.zs.getD c 0)).getD 0
theorem dv_at {D : List RowV} {a c : Nat} {r : RowV} (h : D[a]? = some r) : dv D a c = r.zs.getD c 0 := by unfold dv; rw [h]; rfl
theorem InRs.get {w : World} {A : Option Addr} {n i : Nat} {D : List RowV} (h : InRs w A n D) (hi : i < n) : ∃ b off r, A = some ⟨b, off, none⟩ ∧ b < w.heap.size ∧ D[i]? = some r ∧ w.cell? ⟨b, off + i, none⟩ = some (.slice r.a r.zs.length r.c) ∧ InI w r.a r.zs.length r.zs ∧ r.zs.length ≤ 9223372036854775807 := by
  obtain ⟨b, off, ha, hb, hc⟩ := h.at_ (by omega)
  have hl : i < D.length := by have := h.ln; omega
  have e := List.getElem?_eq_getElem hl
  exact ⟨b, off, D[i], ha, hb, e, hc i _ e⟩
theorem idx_rows (b off n c i : Nat) (hi : i < n) (w : World) : (Instr.indexAt 28 (.slice (some ⟨b, off, none⟩) n c) (.int .i64 (i : Int))).run Tryz.prog w = .ok (.pointer (some ⟨b, off + i, none⟩)) w := by
  simp [go_sem, hi]
/-- Is the matrix square? -/
def sqB (m : Nat) (D : List RowV) : Bool := decide (D.length = m) && D.all (fun r => decide (r.zs.length = m))
/-- The first k places of the table are filled. -/
def Filled (m : Nat) (D : List RowV) (xs : List Int) (k : Nat) : Prop := ∀ a c, c < m → a * m + c < k → xs.getD (a * m + c) 0 = dv D a c
theorem Filled.step {m k a c : Nat} {D : List RowV} {xs : List Int} (h : Filled m D xs k) (hc : c < m) (hk : a * m + c = k) (hl : k < xs.length) : Filled m D (xs.set k (dv D a c)) (k + 1) := by
  intro a' c' hc' hk'
  rw [List.getD_eq_getElem?_getD]
  by_cases e : a' * m + c' = k
  · have hm : a' = a ∧ c' = c := by
      have h1 : (a' * m + c') / m = (a * m + c) / m := by rw [e, hk]
      rw [Nat.mul_comm a' m, Nat.mul_comm a m, Nat.mul_add_div (by omega), Nat.mul_add_div (by omega), Nat.div_eq_of_lt hc', Nat.div_eq_of_lt hc] at h1
      have h2 : a' = a := by omega
      subst h2
      exact ⟨rfl, by omega⟩
    obtain ⟨rfl, rfl⟩ := hm
    rw [e, List.getElem?_set_self hl]
    rfl
  · rw [List.getElem?_set_ne (fun e2 => e e2.symm), ← List.getD_eq_getElem?_getD]
    exact h a' c' hc' (by omega)
set_option maxRecDepth 100000 in
set_option maxHeartbeats 2000000 in
theorem topo_table (t : TopoV) (m : Nat) (hm1 : 1 ≤ m) (hm8 : m ≤ 8) (hN : t.N = (m : Int)) (w : World) (hT : InTopo w t) : Calls Tryz.prog 68 #[t.val] w fun e w' => ((sqB m t.ds = true ∧ ∃ g b xs, e = .returned (.pointer (some ⟨g, 0, none⟩)) ∧ GridI w' g b m m xs ∧ Filled m t.ds xs (m * m)) ∨ (sqB m t.ds = false ∧ e = .returned (.pointer none))) ∧ Below w.heap.size w w' := by
  have hd := hT.d
  have hd63 := hT.d63
  clear hT
  obtain ⟨N, F, ca, cc, cs, da, dc, ds⟩ := t
  simp only [TopoV.val] at *
  subst hN
  have hdn := hd.ln
  have hb := Blk.new w 30 [.int .i64 (m : Int), .int .i64 F, .slice ca cs.length cc, .slice da ds.length dc]
  have hba : Below w.heap.size w (w.alloc (.cells #[.int .i64 (m : Int), .int .i64 F, .slice ca cs.length cc, .slice da ds.length dc] 30)) := bel_alloc (Below.refl _ _) _
  have hda := hd.below hba
  have HBA := Lib.hid hba; have HD := Lib.hid hda; have HB := Lib.hid hb
  clear hd hba hda hb
  go_enter Tryz.func68, Tryz.ntmps68
  go_wp2_with fail
  refine (gi_new m m _ (by omega) (by omega)).mono ?_; rintro e w1 ⟨g, b, rfl, hg, hbb, hG, hB1⟩
  generalize w.alloc (.cells #[.int .i64 (m : Int), .int .i64 F, .slice ca cs.length cc, .slice da ds.length dc] 30) = wA at *
  have hb1 := HB.out.below hB1
  have q0 := hb1.at_ (i := 0) rfl
  have q3 := hb1.at_ (i := 3) rfl
  by_cases hlen : ds.length = m
  · have hsb : sqB m ds = ds.all (fun r => decide (r.zs.length = m)) := by unfold sqB; rw [decide_eq_true hlen]; rfl
    have HS0 := Lib.hid hsb
    have hne : ((ds.length : Int) != (m : Int)) = false := by rw [bne_eq_false_iff_eq]; omega
    have hmm : m * m ≤ 64 := Nat.le_trans (Nat.mul_le_mul hm8 hm8) (by decide)
    have HL := Lib.hid hlen
    clear hsb hlen hdn hb1
    go_wp2_with fail
    go_loopw [30] (fun v wr => ∃ (i : Nat) (xs : List Int), i ≤ m ∧ v = .int .i64 (i : Int) ∧ GridI wr g b m m xs ∧ Filled m ds xs (i * m) ∧ (∀ k r, k < i → ds[k]? = some r → r.zs.length = m) ∧ Below wA.heap.size wA wr) (fun v _ => m - (intOf v).toNat)
    case atStart => exact ⟨0, _, by omega, rfl, hG, by intro a c _ h; omega, by intro k r h; omega, hB1⟩
    case round =>
      clear hG q0 q3 hB1
      obtain ⟨i, xs, him, rfl, hG, hF, hsq, hch⟩ := hrel
      have HF := Lib.hid hF; have HSQ := Lib.hid hsq
      clear hF hsq
      have hbr := HB.out.below hch
      have q0 := hbr.at_ (i := 0) rfl
      by_cases hlt : i < m
      · obtain ⟨bx, off, r, rfl, hbx, hri, hcr, hIr, hr63⟩ := HD.out.get (i := i) (by have := HL.out; omega)
        replace hcr := (hch.cell (p := ⟨bx, off + i, none⟩) hbx).trans hcr
        have hix := fun w => idx_rows bx off ds.length dc i (by have := HL.out; omega) w
        have hli : i < ds.length := by have := HL.out; omega
        by_cases hrl : r.zs.length = m
        · have hne2 : ((r.zs.length : Int) != (m : Int)) = false := by rw [bne_eq_false_iff_eq]; omega
          have HRL := Lib.hid hrl; have HRI := Lib.hid hri; have HIR := Lib.hid hIr
          clear hrl hri hIr hbr
          obtain ⟨ra, rc, zs⟩ := r
          simp only at *
          go_wp2_with fail
          go_loopw [42] (fun v wx => ∃ (j : Nat) (xs : List Int), j ≤ m ∧ v = .int .i64 (j : Int) ∧ GridI wx g b m m xs ∧ Filled m ds xs (i * m + j) ∧ Below wA.heap.size wA wx) (fun v _ => m - (intOf v).toNat)
          case atStart => exact ⟨0, xs, by omega, rfl, hG, HF.out, hch⟩
          case round =>
            clear hG hch HF q0 hcr
            obtain ⟨j, xs, hjm, rfl, hG, hF, hch⟩ := hrel
            have HF := Lib.hid hF
            clear hF
            by_cases hjl : j < m
            · have hjz : j < zs.length := by have := HRL.out; omega
              obtain ⟨bz, oz, rfl, hbz, hcz⟩ := (HIR.out.below hch).get hjz
              have hix2 := fun w => idxI bz oz zs.length rc j hjz w
              have hdv : zs.getD j 0 = dv ds i j := (dv_at HRI.out).symm
              have hpt := gi_Put_yes g b m m xs i j (i * m + j) (zs.getD j 0) wr hG hlt hjl rfl
              have hst := HF.out.step hjl rfl (by rw [hG.ln]; exact place_lt hlt hjl)
              rw [← hdv] at hst
              have HPT := Lib.hid hpt; have HST := Lib.hid hst
              clear hdv hpt hst hG
              generalize zs.getD j 0 = z at *
              go_wp2_with fail
              refine HPT.out.mono ?_; rintro e w5 ⟨rfl, hG, hc⟩
              have hch2 := bel_ch hch hc (by simp; omega)
              clear hc HPT
              go_wp2_with fail
              go_roundw
              case rel => exact ⟨j + 1, _, by omega, by go_num, hG, HST.out, hch2⟩
              case measure => simp [intOf]; omega
            · obtain rfl : j = m := by omega
              have hnl : ¬ (j < zs.length) := by have := HRL.out; omega
              have hF2 : Filled j ds xs ((i + 1) * j) := by rw [Nat.add_mul, Nat.one_mul]; exact HF.out
              have HF2 := Lib.hid hF2
              have HG := Lib.hid hG
              clear hF2 hG
              go_wp2_with fail
              go_roundw
              case rel => exact ⟨i + 1, xs, by omega, by go_num, HG.out, HF2.out, fun k r hk hr => by
                by_cases e : k = i
                · subst e
                  rw [HRI.out] at hr
                  injection hr with hr
                  subst hr
                  exact HRL.out
                · exact HSQ.out k r (by omega) hr, hch⟩
              case measure => simp [intOf]; omega
        · have hne2 : ((r.zs.length : Int) != (m : Int)) = true := by rw [bne_iff_ne]; omega
          have hall : ds.all (fun r => decide (r.zs.length = m)) = false := by
            rw [List.all_eq_false]
            exact ⟨r, List.mem_of_getElem? hri, by simpa using hrl⟩
          have HAL := Lib.hid (HS0.out.trans hall)
          clear hall hrl hri hIr hbr
          go_wp2_with fail
          go_ret
          exact ⟨Or.inr ⟨HAL.out, rfl⟩, bel_trans HBA.out hch⟩
      · obtain rfl : i = m := by omega
        have hall : ds.all (fun r => decide (r.zs.length = i)) = true := by
          rw [List.all_eq_true]
          intro r hr
          obtain ⟨k, hk, hkr⟩ := List.mem_iff_getElem.1 hr
          exact decide_eq_true (HSQ.out k r (by have := HL.out; omega) (by rw [List.getElem?_eq_getElem hk, hkr]))
        have HAL := Lib.hid (HS0.out.trans hall)
        have hnl : ¬ (i < ds.length) := by have := HL.out; omega
        clear hall hbr
        have HG := Lib.hid hG
        clear hG
        go_wp2_with fail
        go_ret
        exact ⟨Or.inl ⟨HAL.out, g, b, xs, rfl, HG.out, HF.out⟩, bel_trans HBA.out hch⟩
  · have hsb : sqB m ds = false := by unfold sqB; rw [decide_eq_false hlen]; rfl
    have hne : ((ds.length : Int) != (m : Int)) = true := by rw [bne_iff_ne]; omega
    have HS := Lib.hid hsb
    have hB2 := bel_trans HBA.out hB1
    clear hsb hlen hdn hb1 HBA HD HB hB1 hG
    go_wp2_with fail
    go_ret
    exact ⟨Or.inr ⟨HS.out, rfl⟩, hB2⟩
end Go.Proofs.YtjdbedoabcbeeaaGreatDoor
/- Package topo (layer 3): the matrix, Check. -/
namespace Go.Proofs.YtjdbedoabcbeeaaGreatDoor
open Go.RowKit
set_option linter.unusedVariables false
set_option linter.unusedSimpArgs false
attribute [local go_sem] World.cell?_alloc_lt

/-- Is a distance as it must be? -/
def okE (a c : Nat) (d : Int) : Bool := if a = c then decide (d = 10) else decide (10 < d ∧ d ≤ 255)
def symB (m : Nat) (D : List RowV) : Bool := decide (∀ a c : Fin m, dv D a c = dv D c a)
def okB (m : Nat) (D : List RowV) : Bool := decide (∀ a c : Fin m, okE a c (dv D a c) = true)
def matB (m : Nat) (D : List RowV) : Bool := sqB m D && (symB m D && okB m D)
theorem symB_eq {m : Nat} {D : List RowV} {xs : List Int} (hl : xs.length = m * m) (hF : Filled m D xs (m * m)) : decide (xs = turnTo 0 xs m m xs.length) = symB m D := by
  unfold symB
  rw [decide_eq_decide]
  have h := turned_same (0 : Int) xs m hl
  constructor
  · intro e a c
    have h2 := h.1 e.symm a c a.2 c.2
    rw [hF a c c.2 (place_lt a.2 c.2), hF c a a.2 (place_lt c.2 a.2)] at h2
    exact h2
  · intro e
    refine (h.2 fun a c ha hc => ?_).symm
    rw [hF a c hc (place_lt ha hc), hF c a ha (place_lt hc ha)]
    exact e ⟨a, ha⟩ ⟨c, hc⟩
set_option maxRecDepth 100000 in
set_option maxHeartbeats 2000000 in
theorem topo_matrix (t : TopoV) (m : Nat) (hm1 : 1 ≤ m) (hm8 : m ≤ 8) (hN : t.N = (m : Int)) (w : World) (hT : InTopo w t) : Calls Tryz.prog 42 #[t.val] w fun e w' => e = .returned (.bool (matB m t.ds)) ∧ Below w.heap.size w w' := by
  have hb := Blk.new w 30 [.int .i64 t.N, .int .i64 t.F, .slice t.ca t.cs.length t.cc, .slice t.da t.ds.length t.dc]
  have hba : Below w.heap.size w (w.alloc (.cells #[.int .i64 t.N, .int .i64 t.F, .slice t.ca t.cs.length t.cc, .slice t.da t.ds.length t.dc] 30)) := bel_alloc (Below.refl _ _) _
  have htb := topo_table t m hm1 hm8 hN _ (hT.below hba)
  have hda := hT.d.below hba
  have hd63 := hT.d63
  have hms : matB m t.ds = (sqB m t.ds && (symB m t.ds && okB m t.ds)) := rfl
  clear hT
  obtain ⟨N, F, ca, cc, cs, da, dc, ds⟩ := t
  simp only [TopoV.val] at *
  subst hN
  have HBA := Lib.hid hba; have HD := Lib.hid hda; have HB := Lib.hid hb; have HTB := Lib.hid htb; have HMS := Lib.hid hms
  clear hba hda hb htb hms
  go_enter Tryz.func42, Tryz.ntmps42
  go_wp2_with fail
  refine HTB.out.mono ?_; rintro e w1 ⟨hor, hB1⟩
  generalize w.alloc (.cells #[.int .i64 (m : Int), .int .i64 F, .slice ca cs.length cc, .slice da ds.length dc] 30) = wA at *
  rcases hor with ⟨hsq, g, b, xs, rfl, hG, hF⟩ | ⟨hsq, rfl⟩
  · have HSQ := Lib.hid hsq; have HF := Lib.hid hF
    have hln := hG.ln
    have HLN := Lib.hid hln
    clear hsq hF HTB hln
    have htd := gi_Turned g b m m xs w1 hG
    have HTD := Lib.hid htd
    clear htd
    go_wp2_with fail
    refine HTD.out.mono ?_; rintro e w2 ⟨g2, b2, rfl, _, _, hG2, hB2⟩
    have hsm := gi_Same g b g2 b2 m m xs _ w2 (hG.below hB2) hG2
    rw [symB_eq HLN.out HF.out] at hsm
    have HSM := Lib.hid hsm
    have hB3 := bel_trans hB1 hB2
    clear hsm hG2 hG hB1 hB2 HTD
    cases hsy : symB m ds with
    | false =>
      have h1 := HSM.out
      rw [hsy] at h1
      have HS1 := Lib.hid h1
      have h2 := HMS.out
      rw [HSQ.out, hsy] at h2
      have H2 := Lib.hid h2
      clear h1 h2 hsy HSM HMS
      go_wp2_with fail
      refine HS1.out.mono ?_; rintro e w3 ⟨rfl, hB4⟩
      have hB5 := bel_trans hB3 hB4
      clear hB4
      go_wp2_with fail
      go_ret
      exact ⟨by rw [H2.out]; rfl, bel_trans HBA.out hB5⟩
    | true =>
      have h1 := HSM.out
      rw [hsy] at h1
      have HS1 := Lib.hid h1
      have h2 := HMS.out
      rw [HSQ.out, hsy, Bool.true_and, Bool.true_and] at h2
      have H2 := Lib.hid h2
      clear h1 h2 hsy HSM HMS
      go_wp2_with fail
      refine HS1.out.mono ?_; rintro e w3 ⟨rfl, hB4⟩
      have hB5 := bel_trans hB3 hB4
      clear hB4 hB3 HS1
      have hb3 := HB.out.below hB5
      have q3 := hb3.at_ (i := 3) rfl
      have hlen : ds.length = m := by
        have := HSQ.out
        unfold sqB at this
        rw [Bool.and_eq_true] at this
        exact of_decide_eq_true this.1
      have hrows : ∀ r ∈ ds, r.zs.length = m := by
        have := HSQ.out
        unfold sqB at this
        rw [Bool.and_eq_true, List.all_eq_true] at this
        exact fun r hr => of_decide_eq_true (this.2 r hr)
      have HL := Lib.hid hlen; have HR := Lib.hid hrows
      clear hlen hrows hb3
      go_wp2_with fail
      go_loopw [22] (fun v wr => ∃ (i : Nat), i ≤ m ∧ v = .int .i64 (i : Int) ∧ (∀ a c : Nat, a < i → c < m → okE a c (dv ds a c) = true) ∧ wr = w3) (fun v _ => m - (intOf v).toNat)
      case atStart => exact ⟨0, by omega, rfl, fun a c h => by omega, rfl⟩
      case round =>
        obtain ⟨i, him, rfl, hok, rfl⟩ := hrel
        have HOK := Lib.hid hok
        clear hok
        by_cases hlt : i < m
        · obtain ⟨bx, off, r, rfl, hbx, hri, hcr, hIr, hr63⟩ := HD.out.get (i := i) (by have := HL.out; omega)
          replace hcr := (hB5.cell (p := ⟨bx, off + i, none⟩) hbx).trans hcr
          have hix := fun w => idx_rows bx off ds.length dc i (by have := HL.out; omega) w
          have hli : i < ds.length := by have := HL.out; omega
          have hrl := HR.out r (List.mem_of_getElem? hri)
          have HRL := Lib.hid hrl; have HRI := Lib.hid hri; have HIR := Lib.hid (hIr.below hB5)
          clear hrl hri hIr
          obtain ⟨ra, rc, zs⟩ := r
          simp only at *
          go_wp2_with fail
          go_loopw [29] (fun v wx => ∃ (j : Nat), j ≤ m ∧ v = .int .i64 (j : Int) ∧ (∀ c : Nat, c < j → okE i c (dv ds i c) = true) ∧ wx = wr) (fun v _ => m - (intOf v).toNat)
          case atStart => exact ⟨0, by omega, rfl, fun c h => by omega, rfl⟩
          case round =>
            obtain ⟨j, hjm, rfl, hok, rfl⟩ := hrel
            have HOK2 := Lib.hid hok
            clear hok hcr
            by_cases hjl : j < m
            · have hjz : j < zs.length := by have := HRL.out; omega
              obtain ⟨bz, oz, rfl, hbz, hcz⟩ := HIR.out.get hjz
              have hix2 := fun w => idxI bz oz zs.length rc j hjz w
              have hdv : zs.getD j 0 = dv ds i j := (dv_at HRI.out).symm
              rw [hdv] at hcz
              cases hoe : okE i j (dv ds i j) with
              | true =>
                have hoe2 := hoe
                clear hdv
                unfold okE at hoe
                by_cases hij : i = j
                · subst hij
                  rw [if_pos rfl] at hoe
                  have hd := of_decide_eq_true hoe
                  clear hoe
                  have hd1 : (dv ds i i != 10) = false := by rw [bne_eq_false_iff_eq]; exact hd
                  have hd2 : ((i : Int) != (i : Int)) = false := by rw [bne_eq_false_iff_eq]
                  clear hd
                  have HOE := Lib.hid hoe2
                  clear hoe2
                  generalize hdd : dv ds i i = d at *
                  have HDD := Lib.hid hdd
                  clear hdd
                  go_wp2_with fail
                  go_roundw
                  case rel => exact ⟨i + 1, by omega, by go_num, fun c hc => by
                    by_cases e : c = i
                    · subst e; rw [HDD.out]; exact HOE.out
                    · exact HOK2.out c (by omega), by first | rfl | trivial⟩
                  case measure => simp [intOf]; omega
                · rw [if_neg hij] at hoe
                  obtain ⟨hd1, hd2⟩ := of_decide_eq_true hoe
                  clear hoe
                  have hn1 : ((i : Int) == (j : Int)) = false := by rw [beq_eq_false_iff_ne]; omega
                  have hn2 : ((i : Int) != (j : Int)) = true := by rw [bne_iff_ne]; omega
                  have HOE := Lib.hid hoe2
                  clear hoe2
                  generalize hdd : dv ds i j = d at *
                  have HDD := Lib.hid hdd
                  clear hdd
                  go_wp2_with fail
                  go_roundw
                  case rel => exact ⟨j + 1, by omega, by go_num, fun c hc => by
                    by_cases e : c = j
                    · subst e; rw [HDD.out]; exact HOE.out
                    · exact HOK2.out c (by omega), by first | rfl | trivial⟩
                  case measure => simp [intOf]; omega
              | false =>
                have hko : okB m ds = false := decide_eq_false fun h => by
                  have := h ⟨i, hlt⟩ ⟨j, hjl⟩
                  rw [hoe] at this
                  cases this
                have HKO := Lib.hid hko
                clear hdv hko
                unfold okE at hoe
                by_cases hij : i = j
                · subst hij
                  rw [if_pos rfl] at hoe
                  have hd := of_decide_eq_false hoe
                  have hd1 : (dv ds i i != 10) = true := by rw [bne_iff_ne]; exact hd
                  clear hoe hd
                  generalize dv ds i i = d at *
                  go_wp2_with fail
                  go_ret
                  exact ⟨by rw [H2.out, HKO.out]; rfl, bel_trans HBA.out hB5⟩
                · rw [if_neg hij] at hoe
                  have hd := of_decide_eq_false hoe
                  have hn1 : ((i : Int) == (j : Int)) = false := by rw [beq_eq_false_iff_ne]; omega
                  have hn2 : ((i : Int) != (j : Int)) = true := by rw [bne_iff_ne]; omega
                  clear hoe
                  generalize dv ds i j = d at *
                  rcases Classical.em (d ≤ 10) with h10 | h10
                  · clear hd
                    go_wp2_with fail
                    go_ret
                    exact ⟨by rw [H2.out, HKO.out]; rfl, bel_trans HBA.out hB5⟩
                  · have h25 : 255 < d := by omega
                    clear hd
                    go_wp2_with fail
                    go_ret
                    exact ⟨by rw [H2.out, HKO.out]; rfl, bel_trans HBA.out hB5⟩
            · obtain rfl : j = m := by omega
              have hnl : ¬ (j < zs.length) := by have := HRL.out; omega
              go_wp2_with fail
              go_roundw
              case rel => exact ⟨i + 1, by omega, by go_num, fun a c ha hc => by
                by_cases e : a = i
                · subst e; exact HOK2.out c hc
                · exact HOK.out a c (by omega) hc, by first | rfl | trivial⟩
              case measure => simp [intOf]; omega
        · obtain rfl : i = m := by omega
          have hnl : ¬ (i < ds.length) := by have := HL.out; omega
          have hko : okB i ds = true := decide_eq_true fun a c => HOK.out a c a.2 c.2
          have HKO := Lib.hid hko
          clear hko
          go_wp2_with fail
          go_ret
          exact ⟨by rw [H2.out, HKO.out]; rfl, bel_trans HBA.out hB5⟩
  · have h2 := HMS.out
    rw [hsq] at h2
    have H2 := Lib.hid h2
    clear h2 hsq HMS HTB
    go_wp2_with fail
    go_ret
    exact ⟨by rw [H2.out]; rfl, bel_trans HBA.out hB1⟩
end Go.Proofs.YtjdbedoabcbeeaaGreatDoor
