/- messuageref03.Text. -/
import Derived.Test.YtcanhegjhbhkhaaDoorTopoText2
namespace Go.Proofs.YtcanhegjhbhkhaaDoor
open Go.RowKit Go.Shelf
set_option linter.unusedVariables false
set_option linter.unusedSimpArgs false
attribute [local go_sem] World.cell?_alloc_lt

set_option maxRecDepth 100000 in
set_option maxHeartbeats 8000000 in
theorem ref_text (t : TopoV) (w : World) (hT : InTopo w t) (hok : chkT t = 0) : Calls Tryd.prog 28 #[t.val] w fun e w' => e = .returned (.string (bytesOf (textM t.N t.F t.cs (t.ds.map RowV.zs)))) ∧ Below w.heap.size w w' := by
  obtain ⟨hcnt, hbad, hmat⟩ := chk_zeroT hok
  have hsmc : Small t.cs := fun x hx => by
    have := List.any_eq_false.1 hbad x hx
    unfold badN at this
    simp at this
    omega
  have hFb := pow_bd hcnt.2.2.1
  obtain ⟨N, F, ca, cc, cs, da, dc, ds⟩ := t
  simp only [TopoV.val] at *
  have hba : Below w.heap.size w (w.alloc (.cells #[.int .i64 N, .int .i64 F, .slice ca cs.length cc, .slice da ds.length dc] 48)) := bel_alloc (Below.refl _ _) _
  have hb1 := Blk.new w 48 [.int .i64 N, .int .i64 F, .slice ca cs.length cc, .slice da ds.length dc]
  obtain ⟨OUT, hOUT⟩ : ∃ OUT, bytesOf (textM N F cs (ds.map RowV.zs)) = OUT := ⟨_, rfl⟩
  rw [hOUT]
  have HOUT := Lib.hid hOUT; have HSC := Lib.hid hsmc; have HMAT := Lib.hid hmat
  have hl16 : cs.length ≤ 16 := hcnt.2.2.2.2
  have hN8 : N ≤ 8 := hcnt.2.1
  have hN1 : 1 ≤ N := hcnt.1
  have HT1 := Lib.hid (hT.below hba); have HBA := Lib.hid hba
  have j0 := hb1.at_ (i := 0) rfl
  have j1 := hb1.at_ (i := 1) rfl
  have j2 := hb1.at_ (i := 2) rfl
  have j3 := hb1.at_ (i := 3) rfl
  have HB1 := Lib.hid hb1
  clear hOUT hsmc hbad hcnt hmat hok hT hba hb1
  go_enter Tryd.func28, Tryd.ntmps28
  go_upto_region 1 with fail
  generalize hw2g : w.alloc (.cells #[.int .i64 N, .int .i64 F, .slice ca cs.length cc, .slice da ds.length dc] 48) = w2 at *
  have hT2 := HT1.out
  have hb2 := HB1.out
  have hBw := HBA.out
  have hIC : InI w2 ca cs.length cs := hT2.c
  have k0 := hb2.at_ (i := 0) rfl
  have k1 := hb2.at_ (i := 1) rfl
  have k2 := hb2.at_ (i := 2) rfl
  have hw2 : w.heap.size < w2.heap.size := hb2.lt
  clear hw2g
  obtain ⟨G, hG⟩ : ∃ G : List UInt8 → List Int → ByteArray, ∀ wd l, bytesOf (bodyL wd l ++ [10]) = G wd l := ⟨_, fun _ _ => rfl⟩
  have hline : ∀ (wd : List UInt8) (A : Option Addr) (n c : Nat) (l : List Int) (wX : World), Below w2.heap.size w2 wX → InI wX A n l → wd.length ≤ 100 → Small l → n ≤ 1000 → Calls Tryd.prog 45 #[.string ⟨wd.toArray⟩, .slice A n c] wX fun e w' => e = .returned (.string (G wd l)) ∧ Below wX.heap.size wX w' ∧ Below w2.heap.size w2 w' :=
    fun wd A n c l wX hq hI hw hs hn => (row_any wd hw A n c l wX hI hs hn).mono fun e w' ⟨h1, h2⟩ => ⟨by rw [h1, hG], h2, bel_trans hq h2⟩
  have hks : ∀ w' : World, Below w2.heap.size w2 w' → w'.cell? ⟨w.heap.size, 0, none⟩ = some (.int .i64 N) ∧ w'.cell? ⟨w.heap.size, 1, none⟩ = some (.int .i64 F) ∧ w'.cell? ⟨w.heap.size, 2, none⟩ = some (.slice ca cs.length cc) := fun w' h =>
    ⟨(h.cell (p := ⟨w.heap.size, 0, none⟩) hw2).trans k0, (h.cell (p := ⟨w.heap.size, 1, none⟩) hw2).trans k1, (h.cell (p := ⟨w.heap.size, 2, none⟩) hw2).trans k2⟩
  have HKS := Lib.hid hks
  clear hks
  have hz1 : (bytesOf (bodyL [110, 111, 100, 101, 115] [N] ++ [10])).size ≤ 100 := by
    have := body_len [110, 111, 100, 101, 115] [N]
    rw [bytes_size, List.length_append]; simp at this ⊢; omega
  have hz2 : (bytesOf (bodyL [102, 114, 97, 109, 101, 115] [F] ++ [10])).size ≤ 100 := by
    have := body_len [102, 114, 97, 109, 101, 115] [F]
    rw [bytes_size, List.length_append]; simp at this ⊢; omega
  have hz3 : (bytesOf (bodyL [99, 112, 117, 115] cs ++ [10])).size ≤ 200 := by
    have := body_len [99, 112, 117, 115] cs
    rw [bytes_size, List.length_append]; simp at this ⊢; omega
  have hh0 : (bytesOf (headL N F cs)).size ≤ 400 := by
    rw [bytes_size]
    unfold headL
    rw [bytes_size] at hz1 hz2 hz3
    rw [List.length_append, List.length_append]
    omega
  rw [hG] at hz1 hz2 hz3
  have hs12 : (G [110, 111, 100, 101, 115] [N]).size + (G [102, 114, 97, 109, 101, 115] [F]).size ≤ 9223372036854775807 := by omega
  have hs123 : (G [110, 111, 100, 101, 115] [N]).size + (G [102, 114, 97, 109, 101, 115] [F]).size + (G [99, 112, 117, 115] cs).size ≤ 9223372036854775807 := by omega
  have hsN : Small [N] := small_one (by omega)
  have hsF : Small [F] := small_one (by omega)
  have hhd : G [110, 111, 100, 101, 115] [N] ++ G [102, 114, 97, 109, 101, 115] [F] ++ G [99, 112, 117, 115] cs = bytesOf (headL N F cs) := by rw [← hG, ← hG, ← hG, bytes_add, bytes_add]; rfl
  have HHD := Lib.hid hhd; have HG := Lib.hid hG
  clear hhd hG
  have HLI := Lib.hid hline; have HSN := Lib.hid hsN; have HSF := Lib.hid hsF; have HIC := Lib.hid hIC
  have HT2 := Lib.hid hT2; have HBw := Lib.hid hBw; have HB2b := Lib.hid hb2
  clear hline hsN hsF hIC hT2 hBw hb2 HT1 HB1 HBA
  go_cut [3] (fun v5 wx => v5 = .string (bytesOf (headL N F cs)) ∧ Below w2.heap.size w2 wx)
  case first =>
    go_region_held_law (fun w' => w'.cell? ⟨w.heap.size, 0, none⟩ = some (.int .i64 N) ∧ w'.cell? ⟨w.heap.size, 1, none⟩ = some (.int .i64 F) ∧ w'.cell? ⟨w.heap.size, 2, none⟩ = some (.slice ca cs.length cc))
      (first | with_reducible exact HKS.out _ hqS | go_keep)
      (first
        | (go_at_call 45; refine (HLI.out _ _ _ _ _ _ (by (repeat (first | with_reducible exact Below.refl _ _ | with_reducible exact hqS | with_reducible refine bel_dr2 ?_ | with_reducible refine bel_al2 ?_)); done) (by first | ((with_reducible refine HIC.out.below ?_); (repeat (first | with_reducible exact Below.refl _ _ | with_reducible exact hqS | with_reducible refine bel_dr2 ?_ | with_reducible refine bel_al2 ?_)); done) | ((with_reducible refine InI.one (v := N) ?_); (repeat (first | with_reducible exact cell_fresh _ _ _ | with_reducible exact cell_fresh2 _ _ _ _ | with_reducible refine cell_dr ?_ | with_reducible refine cell_al ?_ | with_reducible refine hkA _ _ ?_ | with_reducible refine hkB _ _ ?_)); done) | ((with_reducible refine InI.one (v := F) ?_); (repeat (first | with_reducible exact cell_fresh _ _ _ | with_reducible exact cell_fresh2 _ _ _ _ | with_reducible refine cell_dr ?_ | with_reducible refine cell_al ?_ | with_reducible refine hkA _ _ ?_ | with_reducible refine hkB _ _ ?_)); done)) (by decide) (by first | with_reducible exact HSN.out | with_reducible exact HSF.out | with_reducible exact HSC.out) (by omega)).mono ?_; rintro e wS ⟨rfl, hcS, hqS⟩; (try have hkB := hkA); have hkA := keepB hcS))
    all_goals
      clear hcS hkA
      go_wp2_with fail
      go_meet
      exact ⟨congrArg Value.string HHD.out, hqS⟩
  case rest =>
    obtain ⟨rfl, hqS⟩ := hcut
    have hBx := bel_trans HBw.out hqS
    have kk0 := (hqS.cell (p := ⟨w.heap.size, 0, none⟩) hw2).trans (HB2b.out.at_ (i := 0) rfl)
    have kk3 := (hqS.cell (p := ⟨w.heap.size, 3, none⟩) hw2).trans (HB2b.out.at_ (i := 3) rfl)
    obtain ⟨hdl, hdr⟩ := rows_small HMAT.out
    have hd8 : ds.length ≤ 8 := by omega
    have hNd : (ds.length : Int) = N := by rw [hdl]; omega
    have HND := Lib.hid hNd
    clear hdl hNd
    have HDR := Lib.hid hdr; have HBx := Lib.hid hBx; have HQ := Lib.hid hqS
    clear hdr hBx hqS HLI HKS hz1 hz2 hz3 hs12 hs123 k0 k1 k2 j0 j1 j2 j3
    go_wp2_with fail
    go_loopw [3, 4] (fun v5 v29 wr => ∃ i : Nat, i ≤ ds.length ∧ v29 = .int .i64 (i : Int) ∧ v5 = .string (bytesOf (headL N F cs ++ flatB ((ds.take i).map fun r => bodyL [100, 105, 115, 116] r.zs))) ∧ Below w2.heap.size w2 wr) (fun _ v29 _ => ds.length - (intOf v29).toNat)
    case atStart => exact ⟨0, by omega, rfl, by simp [flatB], HQ.out⟩
    case round =>
      clear HQ HBx kk3 kk0
      obtain ⟨i, hi, rfl, rfl, hB⟩ := hrel
      have p0 := (hB.cell (p := ⟨w.heap.size, 0, none⟩) hw2).trans (HB2b.out.at_ (i := 0) rfl)
      have p3 := (hB.cell (p := ⟨w.heap.size, 3, none⟩) hw2).trans (HB2b.out.at_ (i := 3) rfl)
      rw [← HND.out] at p0
      have hfl := flat_len ((ds.take i).map fun r => bodyL [100, 105, 115, 116] r.zs) 60 (fun b hb => by
        obtain ⟨r, hr, rfl⟩ := List.mem_map.1 hb
        have h1 := (HDR.out r (List.mem_of_mem_take hr)).2
        have h2 := body_len [100, 105, 115, 116] r.zs
        simp only [List.length_cons, List.length_nil] at h2
        omega)
      rw [List.length_map, List.length_take] at hfl
      have hz0 : (bytesOf (headL N F cs ++ flatB ((ds.take i).map fun r => bodyL [100, 105, 115, 116] r.zs))).size ≤ 2000 := by
        rw [bytes_size] at hh0 ⊢
        rw [List.length_append]
        omega
      by_cases hlt : i < ds.length
      · obtain ⟨b, off, r, rfl, hb, hri, hcell, hI, _⟩ := HT2.out.d.get hlt
        have kv := (hB.cell (p := ⟨b, off + i, none⟩) hb).trans hcell
        have hix := fun w => idx_rows b off ds.length dc i hlt w
        obtain ⟨hrs, hrl⟩ := HDR.out r (List.mem_of_getElem? hri)
        have hln := row_any [100, 105, 115, 116] (by decide) r.a r.zs.length r.c r.zs wr (hI.below hB) hrs (by omega)
        have htk : headL N F cs ++ flatB ((ds.take (i + 1)).map fun r => bodyL [100, 105, 115, 116] r.zs) = headL N F cs ++ flatB ((ds.take i).map fun r => bodyL [100, 105, 115, 116] r.zs) ++ (bodyL [100, 105, 115, 116] r.zs ++ [10]) := by
          rw [List.take_add_one, hri, List.map_append]
          show headL N F cs ++ flatB (_ ++ [_]) = _
          rw [flat_snoc, List.append_assoc]
        have e1 : bytesOf (headL N F cs ++ flatB ((ds.take i).map fun r => bodyL [100, 105, 115, 116] r.zs)) ++ bytesOf (bodyL [100, 105, 115, 116] r.zs ++ [10]) = bytesOf (headL N F cs ++ flatB ((ds.take (i + 1)).map fun r => bodyL [100, 105, 115, 116] r.zs)) := by
          rw [htk, bytes_add]
        have hz1 : (bytesOf (bodyL [100, 105, 115, 116] r.zs ++ [10])).size ≤ 100 := by
          have h2 := body_len [100, 105, 115, 116] r.zs
          rw [bytes_size, List.length_append]
          simp only [List.length_cons, List.length_nil] at h2 ⊢
          omega
        have HE1 := Lib.hid e1; have HLN := Lib.hid hln
        clear htk e1 hln hrs hrl hri hcell hI hfl
        generalize bytesOf (headL N F cs ++ flatB ((ds.take i).map fun r => bodyL [100, 105, 115, 116] r.zs)) = S at *
        generalize bytesOf (bodyL [100, 105, 115, 116] r.zs ++ [10]) = S2 at *
        have hW : bytesOf [100, 105, 115, 116] = (⟨#[100, 105, 115, 116]⟩ : ByteArray) := rfl
        rw [hW] at HLN
        have HB := Lib.hid hB
        clear hB hW
        go_wp2_with fail
        refine HLN.out.mono ?_; rintro e w3 ⟨rfl, hB1⟩
        have hB3 := bel_trans HB.out hB1
        clear hB1
        go_wp2_with fail
        go_roundw
        case rel =>
          exact ⟨i + 1, by omega, by go_num, congrArg Value.string HE1.out, hB3⟩
        case measure => simp [intOf]; omega
      · obtain rfl : i = ds.length := by omega
        rw [List.take_length] at hz0 ⊢
        have e1 : bytesOf (headL N F cs ++ flatB (ds.map fun r => bodyL [100, 105, 115, 116] r.zs)) = OUT := by
          rw [← HOUT.out]
          congr 1
          unfold textM linesM headL
          simp only [flatB, List.flatMap_cons, List.flatMap_map]
          simp only [List.append_assoc]
          rfl
        rw [e1] at hz0 ⊢
        have hBf := bel_trans HBw.out hB
        clear hfl e1 hB
        go_wp2_with fail
        go_ret
        exact ⟨rfl, hBf⟩
end Go.Proofs.YtcanhegjhbhkhaaDoor
