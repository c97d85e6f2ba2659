/- topo.Text. -/
import Derived.Test.YtbgnaohjcfbaaaaDoorTopoLine
import Derived.Deep.RegionHeldLaw
namespace Go.Proofs.YtbgnaohjcfbaaaaDoor
open Go.RowKit Go.Shelf
set_option linter.unusedVariables false
set_option linter.unusedSimpArgs false
attribute [local go_sem] World.cell?_alloc_lt

theorem sq_rowT {m : Nat} {D : List RowV} (h : sqB m D = true) : D.length = m ∧ ∀ r ∈ D, r.zs.length = m := by
  unfold sqB at h
  rw [Bool.and_eq_true] at h
  refine ⟨of_decide_eq_true h.1, fun r hr => ?_⟩
  have := List.all_eq_true.1 h.2 r hr
  exact of_decide_eq_true this
theorem chk_3T {t : TopoV} (h : ¬ (1 ≤ t.N ∧ t.N ≤ 8 ∧ t.F ∈ pows ∧ 1 ≤ t.cs.length ∧ t.cs.length ≤ 16)) : chkT t = 3 := by
  unfold chkT
  rw [if_pos]
  unfold cntB
  rw [Bool.eq_false_iff]
  intro hc
  rw [Bool.and_eq_true, Bool.and_eq_true] at hc
  have h1 := of_decide_eq_true hc.1
  have h2 := of_decide_eq_true hc.2.1
  have h3 := of_decide_eq_true hc.2.2
  exact h ⟨h2.1, h2.2, h1, h3.1, h3.2⟩
theorem chk_restT {t : TopoV} (h : 1 ≤ t.N ∧ t.N ≤ 8 ∧ t.F ∈ pows ∧ 1 ≤ t.cs.length ∧ t.cs.length ≤ 16) : chkT t = if t.cs.any (badN t.N) = true then 10 else if matB t.N.toNat t.ds = false then 4 else 0 := by
  unfold chkT
  rw [if_neg]
  unfold cntB
  rw [decide_eq_true h.2.2.1, decide_eq_true ⟨h.1, h.2.1⟩, decide_eq_true ⟨h.2.2.2.1, h.2.2.2.2⟩]
  simp
theorem chk_zeroT {t : TopoV} (h : chkT t = 0) : (1 ≤ t.N ∧ t.N ≤ 8 ∧ t.F ∈ pows ∧ 1 ≤ t.cs.length ∧ t.cs.length ≤ 16) ∧ t.cs.any (badN t.N) = false ∧ matB t.N.toNat t.ds = true := by
  have h1 : 1 ≤ t.N ∧ t.N ≤ 8 ∧ t.F ∈ pows ∧ 1 ≤ t.cs.length ∧ t.cs.length ≤ 16 := by
    apply Classical.byContradiction
    intro hn
    rw [chk_3T hn] at h
    omega
  refine ⟨h1, ?_⟩
  rw [chk_restT h1] at h
  split at h
  · omega
  · next h2 =>
    split at h
    · omega
    · next h3 => exact ⟨by simpa using h2, by simpa using h3⟩
theorem mat_partsT {m : Nat} {D : List RowV} (h : matB m D = true) : sqB m D = true ∧ (∀ a c, a < m → c < m → dv D a c = dv D c a) ∧ (∀ a c, a < m → c < m → okE a c (dv D a c) = true) := by
  unfold matB at h
  rw [Bool.and_eq_true, Bool.and_eq_true] at h
  refine ⟨h.1, fun a c ha hc => ?_, fun a c ha hc => ?_⟩
  · exact of_decide_eq_true h.2.1 ⟨a, ha⟩ ⟨c, hc⟩
  · exact of_decide_eq_true h.2.2 ⟨a, ha⟩ ⟨c, hc⟩
theorem cell_al {w : World} {a : Addr} {v : Value} {o : Obj} (h : w.cell? a = some v) : (w.alloc o).cell? a = some v := (World.cell?_alloc_lt w o a (World.block_lt_of_cell? w _ h)).trans h
theorem cell_dr {w : World} {a : Addr} {v : Value} (h : w.cell? a = some v) : w.drew.cell? a = some v := h
theorem cell_fresh (w : World) (v : Value) (t : TypeId) : (w.alloc (.cells #[v] t)).cell? ⟨w.heap.size, 0, none⟩ = some v := (Blk.new w t [v]).at_ (i := 0) rfl
theorem cell_fresh2 (w : World) (o : Obj) (v : Value) (t : TypeId) : ((w.alloc o).alloc (.cells #[v] t)).cell? ⟨w.heap.size + 1, 0, none⟩ = some v := by
  have h := cell_fresh (w.alloc o) v t
  rw [show (w.alloc o).heap.size = w.heap.size + 1 by simp] at h
  exact h
theorem keepB {w w' : World} (k : Below w.heap.size w w') : ∀ a v, w.cell? a = some v → w'.cell? a = some v := fun a v h => (k.cell (World.block_lt_of_cell? w _ h)).trans h
theorem InI.one {w : World} {p : Nat} {v : Int} (h : w.cell? ⟨p, 0, none⟩ = some (.int .i64 v)) : InI w (some ⟨p, 0, none⟩) 1 [v] := by
  refine ⟨rfl, fun _ => ⟨p, 0, rfl, World.block_lt_of_cell? w _ h, fun j u hj => ?_⟩⟩
  match j, hj with
  | 0, hj => injection hj with hj; subst hj; exact h
  | j + 1, hj => simp at hj
theorem InI.al {w : World} {A : Option Addr} {n : Nat} {xs : List Int} {o : Obj} (h : InI w A n xs) : InI (w.alloc o) A n xs := h.below (bel_alloc (Below.refl _ _) _)
theorem InI.dr {w : World} {A : Option Addr} {n : Nat} {xs : List Int} (h : InI w A n xs) : InI w.drew A n xs := h.below (bel_drew (Below.refl _ _))
theorem PowTab.al {w : World} {o : Obj} (h : PowTab w) : PowTab (w.alloc o) := h.below (bel_alloc (Below.refl _ _) _)
theorem PowTab.dr {w : World} (h : PowTab w) : PowTab w.drew := h.below (bel_drew (Below.refl _ _))
theorem bel_al2 {w w' : World} {o : Obj} (h : Below w.heap.size w w') : Below w.heap.size w (w'.alloc o) := bel_alloc h o
theorem bel_dr2 {w w' : World} (h : Below w.heap.size w w') : Below w.heap.size w w'.drew := bel_drew h
theorem rows_small {m : Nat} {D : List RowV} (h : matB m D = true) : D.length = m ∧ ∀ r ∈ D, Small r.zs ∧ r.zs.length = m := by
  obtain ⟨h1, _, h3⟩ := mat_partsT h
  obtain ⟨h4, h5⟩ := sq_rowT h1
  refine ⟨h4, fun r hr => ⟨fun x hx => ?_, h5 r hr⟩⟩
  obtain ⟨a, ha⟩ := List.getElem?_of_mem hr
  obtain ⟨c, hc⟩ := List.getElem?_of_mem hx
  have ham : a < m := by have := (List.getElem?_eq_some_iff.1 ha).1; omega
  have hcm : c < m := by have := (List.getElem?_eq_some_iff.1 hc).1; rw [h5 r hr] at this; exact this
  have := h3 a c ham hcm
  rw [dv_at ha, List.getD_eq_getElem?_getD, hc, Option.getD_some] at this
  unfold okE at this
  split at this
  · have := of_decide_eq_true this; omega
  · have := of_decide_eq_true this; omega
theorem flat_snoc (Ls : List (List UInt8)) (b : List UInt8) : flatB (Ls ++ [b]) = flatB Ls ++ (b ++ [10]) := by unfold flatB; simp
theorem flat_len (Ls : List (List UInt8)) (k : Nat) (h : ∀ b ∈ Ls, b.length ≤ k) : (flatB Ls).length ≤ (k + 1) * Ls.length := by
  induction Ls with
  | nil => simp [flatB]
  | cons b Ls ih =>
    have e : flatB (b :: Ls) = b ++ 10 :: flatB Ls := by unfold flatB; simp
    have h1 := ih (fun c hc => h c (List.mem_cons_of_mem _ hc))
    have h2 := h b (List.mem_cons_self ..)
    rw [e, List.length_append, List.length_cons, List.length_cons, Nat.mul_add]
    omega
def headL (N F : Int) (cs : List Int) : List UInt8 := bodyL [110, 111, 100, 101, 115] [N] ++ [10] ++ (bodyL [102, 114, 97, 109, 101, 115] [F] ++ [10]) ++ (bodyL [99, 112, 117, 115] cs ++ [10])
set_option maxRecDepth 100000 in
set_option maxHeartbeats 8000000 in
theorem topo_text (t : TopoV) (w : World) (hT : InTopo w t) (hok : chkT t = 0) (ht : PowTab w) : Calls Tryd.prog 17 #[t.val] w fun e w' => e = .returned (.tuple #[.string (bytesOf (textM t.N t.F t.cs (t.ds.map RowV.zs))), .int .i64 0]) ∧ Below w.heap.size w w' := by
  have hck := fun w hT => topo_check t w hT
  rw [hok] at hck
  obtain ⟨hcnt, hbad, hmat⟩ := chk_zeroT hok
  have hsmc : Small t.cs := fun x hx => by
    have := List.any_eq_false.1 hbad x hx
    unfold badN at this
    simp at this
    omega
  have hFb := pow_bd hcnt.2.2.1
  obtain ⟨N, F, ca, cc, cs, da, dc, ds⟩ := t
  simp only [TopoV.val] at *
  have hba : Below w.heap.size w (w.alloc (.cells #[.int .i64 N, .int .i64 F, .slice ca cs.length cc, .slice da ds.length dc] 47)) := bel_alloc (Below.refl _ _) _
  have hb1 := Blk.new w 47 [.int .i64 N, .int .i64 F, .slice ca cs.length cc, .slice da ds.length dc]
  obtain ⟨OUT, hOUT⟩ : ∃ OUT, bytesOf (textM N F cs (ds.map RowV.zs)) = OUT := ⟨_, rfl⟩
  rw [hOUT]
  have HOUT := Lib.hid hOUT; have HSC := Lib.hid hsmc; have HMAT := Lib.hid hmat
  have hl16 : cs.length ≤ 16 := hcnt.2.2.2.2
  have hN8 : N ≤ 8 := hcnt.2.1
  have hN1 : 1 ≤ N := hcnt.1
  have hck2 := hck _ (hT.below hba)
  have HCK := Lib.hid hck2; have HT1 := Lib.hid (hT.below hba); have HP1 := Lib.hid (ht.below hba); have HBA := Lib.hid hba
  have j0 := hb1.at_ (i := 0) rfl
  have j1 := hb1.at_ (i := 1) rfl
  have j2 := hb1.at_ (i := 2) rfl
  have j3 := hb1.at_ (i := 3) rfl
  have HB1 := Lib.hid hb1
  clear hOUT hsmc hbad hcnt hmat hok hck hck2 hT ht hba hb1
  go_enter Tryd.func17, Tryd.ntmps17
  go_wp2_with fail
  refine HCK.out.mono ?_; rintro e w2 ⟨rfl, hB2⟩
  have hP2 : PowTab w2 := HP1.out.below hB2
  have hT2 := HT1.out.below hB2
  have hb2 := HB1.out.below hB2
  have hBw := bel_trans HBA.out hB2
  have hIC : InI w2 ca cs.length cs := hT2.c
  have k0 := hb2.at_ (i := 0) rfl
  have k1 := hb2.at_ (i := 1) rfl
  have k2 := hb2.at_ (i := 2) rfl
  have hw2 : w.heap.size < w2.heap.size := hb2.lt
  obtain ⟨G, hG⟩ : ∃ G : List UInt8 → List Int → ByteArray, ∀ wd l, bytesOf (bodyL wd l ++ [10]) = G wd l := ⟨_, fun _ _ => rfl⟩
  have hline : ∀ (wd : List UInt8) (A : Option Addr) (n c : Nat) (l : List Int) (wX : World), Below w2.heap.size w2 wX → InI wX A n l → wd.length ≤ 100 → Small l → n ≤ 1000 → Calls Tryd.prog 35 #[.string ⟨wd.toArray⟩, .slice A n c] wX fun e w' => e = .returned (.string (G wd l)) ∧ Below wX.heap.size wX w' ∧ Below w2.heap.size w2 w' :=
    fun wd A n c l wX hq hI hw hs hn => (line_any wd hw A n c l wX hI hs hn (hP2.below hq)).mono fun e w' ⟨h1, h2⟩ => ⟨by rw [h1, hG], h2, bel_trans hq h2⟩
  have hks : ∀ w' : World, Below w2.heap.size w2 w' → w'.cell? ⟨w.heap.size, 0, none⟩ = some (.int .i64 N) ∧ w'.cell? ⟨w.heap.size, 1, none⟩ = some (.int .i64 F) ∧ w'.cell? ⟨w.heap.size, 2, none⟩ = some (.slice ca cs.length cc) := fun w' h =>
    ⟨(h.cell (p := ⟨w.heap.size, 0, none⟩) hw2).trans k0, (h.cell (p := ⟨w.heap.size, 1, none⟩) hw2).trans k1, (h.cell (p := ⟨w.heap.size, 2, none⟩) hw2).trans k2⟩
  have HKS := Lib.hid hks
  clear hks
  have hz1 : (bytesOf (bodyL [110, 111, 100, 101, 115] [N] ++ [10])).size ≤ 100 := by
    have := body_len [110, 111, 100, 101, 115] [N]
    rw [bytes_size, List.length_append]; simp at this ⊢; omega
  have hz2 : (bytesOf (bodyL [102, 114, 97, 109, 101, 115] [F] ++ [10])).size ≤ 100 := by
    have := body_len [102, 114, 97, 109, 101, 115] [F]
    rw [bytes_size, List.length_append]; simp at this ⊢; omega
  have hz3 : (bytesOf (bodyL [99, 112, 117, 115] cs ++ [10])).size ≤ 200 := by
    have := body_len [99, 112, 117, 115] cs
    rw [bytes_size, List.length_append]; simp at this ⊢; omega
  have hh0 : (bytesOf (headL N F cs)).size ≤ 400 := by
    rw [bytes_size]
    unfold headL
    rw [bytes_size] at hz1 hz2 hz3
    rw [List.length_append, List.length_append]
    omega
  rw [hG] at hz1 hz2 hz3
  have hs12 : (G [110, 111, 100, 101, 115] [N]).size + (G [102, 114, 97, 109, 101, 115] [F]).size ≤ 9223372036854775807 := by omega
  have hs123 : (G [110, 111, 100, 101, 115] [N]).size + (G [102, 114, 97, 109, 101, 115] [F]).size + (G [99, 112, 117, 115] cs).size ≤ 9223372036854775807 := by omega
  have hsN : Small [N] := small_one (by omega)
  have hsF : Small [F] := small_one (by omega)
  have hhd : G [110, 111, 100, 101, 115] [N] ++ G [102, 114, 97, 109, 101, 115] [F] ++ G [99, 112, 117, 115] cs = bytesOf (headL N F cs) := by rw [← hG, ← hG, ← hG, bytes_add, bytes_add]; rfl
  have HHD := Lib.hid hhd; have HG := Lib.hid hG
  clear hhd hG
  have HLI := Lib.hid hline; have HSN := Lib.hid hsN; have HSF := Lib.hid hsF; have HIC := Lib.hid hIC; have HP2 := Lib.hid hP2
  have HT2 := Lib.hid hT2; have HBw := Lib.hid hBw; have HB2b := Lib.hid hb2
  clear hline hsN hsF hIC hP2 hT2 hBw hb2 hB2 HP1 HT1 HB1 HBA HCK
  go_upto_region 4 with fail
  go_cut [5] (fun v5 wx => v5 = .string (bytesOf (headL N F cs)) ∧ Below w2.heap.size w2 wx)
  case first =>
    go_region_held_law (fun w' => w'.cell? ⟨w.heap.size, 0, none⟩ = some (.int .i64 N) ∧ w'.cell? ⟨w.heap.size, 1, none⟩ = some (.int .i64 F) ∧ w'.cell? ⟨w.heap.size, 2, none⟩ = some (.slice ca cs.length cc))
      (first | with_reducible exact HKS.out _ hqS | go_keep)
      (first
        | (go_at_call 35; refine (HLI.out _ _ _ _ _ _ (by (repeat (first | with_reducible exact Below.refl _ _ | with_reducible exact hqS | with_reducible refine bel_dr2 ?_ | with_reducible refine bel_al2 ?_)); done) (by first | ((with_reducible refine HIC.out.below ?_); (repeat (first | with_reducible exact Below.refl _ _ | with_reducible exact hqS | with_reducible refine bel_dr2 ?_ | with_reducible refine bel_al2 ?_)); done) | ((with_reducible refine InI.one (v := N) ?_); (repeat (first | with_reducible exact cell_fresh _ _ _ | with_reducible exact cell_fresh2 _ _ _ _ | with_reducible refine cell_dr ?_ | with_reducible refine cell_al ?_ | with_reducible refine hkA _ _ ?_ | with_reducible refine hkB _ _ ?_)); done) | ((with_reducible refine InI.one (v := F) ?_); (repeat (first | with_reducible exact cell_fresh _ _ _ | with_reducible exact cell_fresh2 _ _ _ _ | with_reducible refine cell_dr ?_ | with_reducible refine cell_al ?_ | with_reducible refine hkA _ _ ?_ | with_reducible refine hkB _ _ ?_)); done)) (by decide) (by first | with_reducible exact HSN.out | with_reducible exact HSF.out | with_reducible exact HSC.out) (by omega)).mono ?_; rintro e wS ⟨rfl, hcS, hqS⟩; (try have hkB := hkA); have hkA := keepB hcS))
    all_goals
      clear hcS hkA
      go_wp2_with fail
      go_meet
      exact ⟨congrArg Value.string HHD.out, hqS⟩
  case rest =>
    obtain ⟨rfl, hqS⟩ := hcut
    have hBx := bel_trans HBw.out hqS
    have kk3 := (hqS.cell (p := ⟨w.heap.size, 3, none⟩) hw2).trans (HB2b.out.at_ (i := 3) rfl)
    obtain ⟨hdl, hdr⟩ := rows_small HMAT.out
    have hd8 : ds.length ≤ 8 := by omega
    clear hdl
    have HDR := Lib.hid hdr; have HBx := Lib.hid hBx; have HQ := Lib.hid hqS
    clear hdr hBx hqS HLI HKS hz1 hz2 hz3 hs12 hs123 k0 k1 k2 j0 j1 j2 j3
    go_wp2_with fail
    go_loopw [5, 29] (fun v5 v29 wr => ∃ i : Nat, i ≤ ds.length ∧ v29 = .int .i64 (i : Int) ∧ v5 = .string (bytesOf (headL N F cs ++ flatB ((ds.take i).map fun r => bodyL [100, 105, 115, 116] r.zs))) ∧ Below w2.heap.size w2 wr) (fun _ v29 _ => ds.length - (intOf v29).toNat)
    case atStart => exact ⟨0, by omega, rfl, by simp [flatB], HQ.out⟩
    case round =>
      clear HQ HBx kk3
      obtain ⟨i, hi, rfl, rfl, hB⟩ := hrel
      have hfl := flat_len ((ds.take i).map fun r => bodyL [100, 105, 115, 116] r.zs) 60 (fun b hb => by
        obtain ⟨r, hr, rfl⟩ := List.mem_map.1 hb
        have h1 := (HDR.out r (List.mem_of_mem_take hr)).2
        have h2 := body_len [100, 105, 115, 116] r.zs
        simp only [List.length_cons, List.length_nil] at h2
        omega)
      rw [List.length_map, List.length_take] at hfl
      have hz0 : (bytesOf (headL N F cs ++ flatB ((ds.take i).map fun r => bodyL [100, 105, 115, 116] r.zs))).size ≤ 2000 := by
        rw [bytes_size] at hh0 ⊢
        rw [List.length_append]
        omega
      by_cases hlt : i < ds.length
      · obtain ⟨b, off, r, rfl, hb, hri, hcell, hI, _⟩ := HT2.out.d.get hlt
        have kv := (hB.cell (p := ⟨b, off + i, none⟩) hb).trans hcell
        have hix := fun w => idx_rows b off ds.length dc i hlt w
        obtain ⟨hrs, hrl⟩ := HDR.out r (List.mem_of_getElem? hri)
        have hln := line_any [100, 105, 115, 116] (by decide) r.a r.zs.length r.c r.zs wr (hI.below hB) hrs (by omega) (HP2.out.below hB)
        have htk : headL N F cs ++ flatB ((ds.take (i + 1)).map fun r => bodyL [100, 105, 115, 116] r.zs) = headL N F cs ++ flatB ((ds.take i).map fun r => bodyL [100, 105, 115, 116] r.zs) ++ (bodyL [100, 105, 115, 116] r.zs ++ [10]) := by
          rw [List.take_add_one, hri, List.map_append]
          show headL N F cs ++ flatB (_ ++ [_]) = _
          rw [flat_snoc, List.append_assoc]
        have e1 : bytesOf (headL N F cs ++ flatB ((ds.take i).map fun r => bodyL [100, 105, 115, 116] r.zs)) ++ bytesOf (bodyL [100, 105, 115, 116] r.zs ++ [10]) = bytesOf (headL N F cs ++ flatB ((ds.take (i + 1)).map fun r => bodyL [100, 105, 115, 116] r.zs)) := by
          rw [htk, bytes_add]
        have hz1 : (bytesOf (bodyL [100, 105, 115, 116] r.zs ++ [10])).size ≤ 100 := by
          have h2 := body_len [100, 105, 115, 116] r.zs
          rw [bytes_size, List.length_append]
          simp only [List.length_cons, List.length_nil] at h2 ⊢
          omega
        have HE1 := Lib.hid e1; have HLN := Lib.hid hln
        clear htk e1 hln hrs hrl hri hcell hI hfl
        generalize bytesOf (headL N F cs ++ flatB ((ds.take i).map fun r => bodyL [100, 105, 115, 116] r.zs)) = S at *
        generalize bytesOf (bodyL [100, 105, 115, 116] r.zs ++ [10]) = S2 at *
        have hW : bytesOf [100, 105, 115, 116] = (⟨#[100, 105, 115, 116]⟩ : ByteArray) := rfl
        rw [hW] at HLN
        have HB := Lib.hid hB
        clear hB hW
        go_wp2_with fail
        refine HLN.out.mono ?_; rintro e w3 ⟨rfl, hB1⟩
        have hB3 := bel_trans HB.out hB1
        clear hB1
        go_wp2_with fail
        go_roundw
        case rel =>
          exact ⟨i + 1, by omega, by go_num, congrArg Value.string HE1.out, hB3⟩
        case measure => simp [intOf]; omega
      · obtain rfl : i = ds.length := by omega
        rw [List.take_length] at hz0 ⊢
        have e1 : bytesOf (headL N F cs ++ flatB (ds.map fun r => bodyL [100, 105, 115, 116] r.zs)) = OUT := by
          rw [← HOUT.out]
          congr 1
          unfold textM linesM headL
          simp only [flatB, List.flatMap_cons, List.flatMap_map]
          simp only [List.append_assoc]
          rfl
        rw [e1] at hz0 ⊢
        have hBf := bel_trans HBw.out hB
        clear hfl e1 hB
        go_wp2_with fail
        go_ret2
        exact ⟨rfl, hBf⟩
end Go.Proofs.YtbgnaohjcfbaaaaDoor
