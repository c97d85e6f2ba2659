/- Package rule: Join. -/
import Derived.Test.YtdpcnbbaipdmjaaDoorRuleRows
namespace Go.Proofs.YtdpcnbbaipdmjaaDoor
open Go.RowKit Go.Shelf
set_option linter.unusedVariables false
set_option linter.unusedSimpArgs false
attribute [local go_sem] World.cell?_alloc_lt

theorem builder_below {T e : TypeId} {B b : Nat} {bs : List Value} {w w' : World} (h : Lib.IsBuilder T e B b bs w) (k : Below w.heap.size w w') : Lib.IsBuilder T e B b bs w' := by
  have key : ∀ p, Lib.BuilderAt T e B b p bs w → Lib.BuilderAt T e B b p bs w' := by
    intro p hp
    have hlt := hp.lt
    obtain ⟨hB, v, hb, hown, hne⟩ := hp
    exact ⟨hB, v, (k.block b hlt).trans hb, own_chV hown (Ch.below k []) (by simp), hne⟩
  rcases h with h | h
  · exact Or.inl (key _ h)
  · exact Or.inr (key _ h)
theorem builder_new (w : World) (B : Nat) (hB : B ≤ w.heap.size) : Lib.IsBuilder 72 5 B w.heap.size [] (w.alloc (.cells #[.pointer none, .slice none 0 0] 72)) :=
  Or.inl ⟨hB, .slice none 0 0, heap_alloc_new w _, ⟨rfl, Or.inl ⟨rfl, rfl⟩⟩, by simp [Value.ownBlock]⟩
theorem builder_lt {T e : TypeId} {B b : Nat} {bs : List Value} {w : World} (h : Lib.IsBuilder T e B b bs w) : b < w.heap.size := by
  rcases h with h | h
  · exact h.lt
  · exact h.lt
set_option maxRecDepth 100000 in
set_option maxHeartbeats 4000000 in
theorem join_any (A : Option Addr) (N c : Nat) (zs : List ByteArray) (B : Option Addr) (M d : Nat) (ps : List Pol) (w : World) (hz : InZ w A N zs) (hp : InP w B M ps) (hs : ∀ p ∈ ps, p.s < 256) (hN : N ≤ 9) (hM : M ≤ 9) (hc : N ≤ c) (hbz : ∀ z ∈ zs, z.size ≤ 9223372036854775807) :
    Calls Tryd.prog 17 #[.slice A N c, .slice B M d] w fun e w' => e = .returned (.tuple #[.string (joinB zs ps), .int .i64 (joinE zs ps)]) ∧ Below w.heap.size w w' := by
  have hB0 := Below.refl w.heap.size w
  obtain ⟨VB, hVB⟩ : ∃ V, joinB zs ps = V := ⟨_, rfl⟩
  obtain ⟨VE, hVE⟩ : ∃ V, joinE zs ps = V := ⟨_, rfl⟩
  rw [hVB, hVE]
  have hzl := hz.ln
  have hpl := hp.ln
  have HZ := Lib.hid hz; have HP := Lib.hid hp; have HS := Lib.hid hs; have HBZ := Lib.hid hbz
  clear hz hp hs hbz
  by_cases hNM : N = M
  · subst hNM
    have hje : joinE zs ps = if scanE [] zs ≠ 0 then scanE [] zs else if ps.any badP = true then 1 else 0 := by
      unfold joinE
      rw [if_neg (by omega)]
    rw [hVE] at hje
    have hjb : joinB zs ps = if joinE zs ps = 0 then bytesL (flatL (linesOf zs ps)) else ⟨#[]⟩ := rfl
    rw [hVB, hVE] at hjb
    have HE := Lib.hid hje; have HB := Lib.hid hjb
    clear hje hjb hVB hVE
    have hnn : ((N : Int) != (N : Int)) = false := by rw [bne_eq_false_iff_eq]
    go_enter Tryd.func17, Tryd.ntmps17
    go_wp2_with fail
    go_loopw [20] (fun v wr => ∃ i : Nat, i ≤ N ∧ v = .int .i64 (i : Int) ∧ scanE (zs.take i) (zs.drop i) = scanE [] zs ∧ Below w.heap.size w wr) (fun v _ => N - (intOf v).toNat)
    case atStart => exact ⟨0, by omega, rfl, rfl, hB0⟩
    case round =>
      clear hB0
      obtain ⟨i, hi, rfl, hsc, hBr⟩ := hrel
      by_cases hlt : i < N
      · have hZr := HZ.out.below hBr
        obtain ⟨b, off, z, rfl, hb, hzi, hcell⟩ := hZr.get hlt
        have hdr : zs.drop i = z :: zs.drop (i + 1) := by
          obtain ⟨hi2, he⟩ := List.getElem?_eq_some_iff.1 hzi
          rw [List.drop_eq_getElem_cons hi2, he]
        have htk : zs.take (i + 1) = zs.take i ++ [z] := by rw [List.take_add_one, hzi]; rfl
        have hzb := HBZ.out z (List.mem_of_getElem? hzi)
        have hnm := fun w => named_any z hzb w
        have hidx := fun w => idx_z b off N c i hlt w
        have hcut := fun w => cut_z (some ⟨b, off, none⟩) N c i (i : Int) rfl (by omega) w
        rw [hdr] at hsc
        have hun : scanE (zs.take i) (z :: zs.drop (i + 1)) = if okName z = false then 2 else if Lib.containsS (zs.take i) z = true then 9 else scanE (zs.take i ++ [z]) (zs.drop (i + 1)) := rfl
        rw [hun, ← htk] at hsc
        clear hun htk hdr hzi
        have HNM := Lib.hid hnm; have HSC := Lib.hid hsc; have HBr := Lib.hid hBr
        clear hnm hsc hBr hZr
        cases hok : okName z with
        | false =>
          have hs2 := HSC.out
          rw [if_pos hok] at hs2
          have he2 : VE = 2 := by rw [HE.out, ← hs2, if_pos (by omega)]
          have hb2 : VB = ⟨#[]⟩ := by rw [HB.out, he2, if_neg (by omega)]
          rw [hok] at HNM
          clear HSC hs2 HE HB
          subst he2 hb2
          go_wp2_with fail
          refine (HNM.out _).mono ?_; rintro e w1 ⟨rfl, hB1⟩
          have HB1 := Lib.hid (bel_trans HBr.out hB1)
          clear hB1 HBr
          go_wp2_with fail
          exact bodyPost_ret (v := .tuple #[.string ⟨#[]⟩, .int .i64 2]) (by simp [results, Tryd.results17, go_sem]) rfl ⟨rfl, HB1.out⟩
        | true =>
          rw [hok] at HNM
          have hs2 := HSC.out
          rw [if_neg (by rw [hok]; simp)] at hs2
          have HS2 := Lib.hid hs2
          clear HSC hs2
          go_wp2_with fail
          refine (HNM.out _).mono ?_; rintro e w1 ⟨rfl, hB1⟩
          have HB1 := Lib.hid (bel_trans HBr.out hB1)
          have hZ1 := HZ.out.below HB1.out
          have hcn := contains_in (c := c) (k := i) (x := z) hZ1 (by omega) (by omega)
          clear hB1 HBr hZ1
          cases hct : Lib.containsS (zs.take i) z with
          | true =>
            rw [hct] at hcn
            have hs3 := HS2.out
            rw [if_pos hct] at hs3
            have he2 : VE = 9 := by rw [HE.out, ← hs3, if_pos (by omega)]
            have hb2 : VB = ⟨#[]⟩ := by rw [HB.out, he2, if_neg (by omega)]
            have HCN := Lib.hid hcn
            clear HS2 hs3 HE HB hcn
            subst he2 hb2
            go_wp2_with fail
            refine HCN.out.mono ?_; rintro e w2 ⟨rfl, rfl⟩
            go_wp2_with fail
            exact bodyPost_ret (v := .tuple #[.string ⟨#[]⟩, .int .i64 9]) (by simp [results, Tryd.results17, go_sem]) rfl ⟨rfl, HB1.out⟩
          | false =>
            rw [hct] at hcn
            have hs3 := HS2.out
            rw [if_neg (by rw [hct]; simp)] at hs3
            have HS3 := Lib.hid hs3
            have HCN := Lib.hid hcn
            clear HS2 hs3 hcn
            go_wp2_with fail
            refine HCN.out.mono ?_; rintro e w2 ⟨rfl, rfl⟩
            go_wp2_with fail
            go_roundw
            case rel => exact ⟨i + 1, by omega, by go_num, HS3.out, HB1.out⟩
            case measure => simp [intOf]; omega
      · obtain rfl : i = N := by omega
        rw [List.drop_of_length_le (by omega), List.take_of_length_le (by omega)] at hsc
        have hE0 : scanE [] zs = 0 := hsc.symm
        have hve : VE = if ps.any badP = true then 1 else 0 := by rw [HE.out, if_neg (by omega)]
        have hvb := HB.out
        have HE2 := Lib.hid hve; have HB2 := Lib.hid hvb
        clear hve hvb HE HB hsc
        have HBr := Lib.hid hBr
        have hZr := Lib.hid (HZ.out.below hBr); have hPr := Lib.hid (HP.out.below hBr)
        clear hBr
        obtain ⟨hnames, _⟩ := scan_zero zs [] hE0
        have HNA := Lib.hid hnames
        clear hnames hE0
        go_upto_region 12 with fail
        have hbn := builder_new wr w.heap.size HBr.out.size
        have hB1 := bel_alloc HBr.out (.cells #[.pointer none, .slice none 0 0] 72)
        have hw0 := HBr.out.size
        generalize wr.alloc (.cells #[.pointer none, .slice none 0 0] 72) = w1 at *
        generalize wr.heap.size = bb at *
        have HB1 := Lib.hid hB1; have HBN := Lib.hid hbn
        clear hB1 hbn hZr hPr HBr
        go_wp2_with fail
        go_loopw [36] (fun v wq => ∃ j : Nat, j ≤ i ∧ v = .int .i64 (j : Int) ∧ (ps.take j).any badP = false ∧ Lib.IsBuilder 72 5 w.heap.size bb (Lib.byteCells (flatL ((linesOf zs ps).take j))) wq ∧ (flatL ((linesOf zs ps).take j)).length ≤ 99 * j ∧ Below w.heap.size w wq) (fun v _ => i - (intOf v).toNat)
        case atStart => exact ⟨0, by omega, rfl, rfl, HBN.out, by simp [flatL], HB1.out⟩
        case round =>
          clear HB1 HBN
          obtain ⟨j, hj, rfl, hany, hbu, hfl, hBq⟩ := hrel
          by_cases hlt : j < i
          · have hPq := HP.out.below hBq
            have hZq := HZ.out.below hBq
            obtain ⟨b, off, p, rfl, hb, hpj, h0, h1, h2⟩ := hPq.get hlt
            obtain ⟨b3, off3, z, rfl, hb3, hzj, hcz⟩ := hZq.get hlt
            have hidx := fun w => idx_pol b off i d j hlt w
            have hidz := fun w => idx_z b3 off3 i c j hlt w
            have hps := HS.out p (List.mem_of_getElem? hpj)
            have hzok := HNA.out z (List.mem_of_getElem? hzj)
            have htk : (ps.take (j + 1)).any badP = badP p := by
              rw [List.take_add_one, hpj, List.any_append, hany]
              simp
            have hln := lines_snoc hzj hpj
            have hfb := flat_snoc ((linesOf zs ps).take j) (lineOf z p)
            rw [← hln] at hfb
            have hbad : badP p = true → ps.any badP = true := fun h => List.any_eq_true.2 ⟨p, List.mem_of_getElem? hpj, h⟩
            clear hPq hZq hpj hzj hln
            have HBq := Lib.hid hBq; have HBU := Lib.hid hbu; have HFB := Lib.hid hfb; have HTK := Lib.hid htk
            clear hBq hbu hfb htk hany
            cases hbp : badP p with
            | true =>
              have hc : chk p.m p.s p.n 8 ≠ 0 := of_decide_eq_true hbp
              have htx := fun w => ruleText_no p.m p.s hps p.n hc w
              have he2 : VE = 1 := by rw [HE2.out, if_pos (hbad hbp)]
              have hb2 : VB = ⟨#[]⟩ := by rw [HB2.out, he2, if_neg (by omega)]
              generalize p.m = pm at *
              generalize p.s = s_ at *
              generalize p.n = pn at *
              have HTX := Lib.hid htx
              clear htx hc HE2 HB2 HTK HFB HBU hbad hbp
              subst he2 hb2
              go_upto_region 15 with fail
              have hbk := Blk.new wr 24 [.int .i64 pm, .int .u8 (s_ : Int), .int .i64 pn]
              have HBk := Lib.hid (bel_alloc HBq.out (.cells #[.int .i64 pm, .int .u8 (s_ : Int), .int .i64 pn] 24))
              generalize wr.alloc (.cells #[.int .i64 pm, .int .u8 (s_ : Int), .int .i64 pn] 24) = w2 at *
              generalize wr.heap.size = g2 at *
              have q0 := hbk.at_ (i := 0) rfl; have q1 := hbk.at_ (i := 1) rfl; have q2 := hbk.at_ (i := 2) rfl
              clear hbk
              go_wp2_with fail
              refine (HTX.out _).mono ?_; rintro e w3 ⟨rfl, hB3⟩
              have HB3 := Lib.hid (bel_trans HBk.out hB3)
              clear hB3 HBk HTX q0 q1 q2
              go_wp2_with fail
              exact bodyPost_ret (v := .tuple #[.string ⟨#[]⟩, .int .i64 1]) (by simp [results, Tryd.results17, go_sem]) rfl ⟨rfl, HB3.out⟩
            | false =>
              have hc : chk p.m p.s p.n 8 = 0 := by unfold badP at hbp; simpa using hbp
              have htx := fun w => ruleText_yes p.m p.s hps p.n hc w
              obtain ⟨_, hz16, ht80⟩ := line_good hzok hps hbp
              have htxt : (lineOf z p).txt = z.data.toList ++ [58, 32] ++ (txtR p.m p.s p.n).data.toList := rfl
              have hTK2 := HTK.out
              rw [hbp] at hTK2
              have hFB2 := HFB.out
              rw [htxt] at hFB2
              generalize txtR p.m p.s p.n = tx at *
              generalize p.m = pm at *
              generalize p.s = s_ at *
              generalize p.n = pn at *
              have a1 : (z ++ (⟨#[58, 32]⟩ : ByteArray)).size = z.size + 2 := by rw [ByteArray.size_append]; rfl
              have a2 : (z ++ (⟨#[58, 32]⟩ : ByteArray) ++ tx).size = z.size + 2 + tx.size := by rw [ByteArray.size_append, a1]
              have a3 : (z ++ (⟨#[58, 32]⟩ : ByteArray) ++ tx ++ (⟨#[10]⟩ : ByteArray)).size = z.size + 2 + tx.size + 1 := by rw [ByteArray.size_append, a2]; rfl
              have hcells : Lib.byteCells (flatL ((linesOf zs ps).take j)) ++ Lib.strCells (z ++ (⟨#[58, 32]⟩ : ByteArray) ++ tx ++ (⟨#[10]⟩ : ByteArray)) = Lib.byteCells (flatL ((linesOf zs ps).take (j + 1))) := by
                rw [hFB2, Lib.byteCells_append]
                exact congrArg (fun l => Lib.byteCells (flatL ((linesOf zs ps).take j)) ++ Lib.byteCells l) (by rw [cat_data, cat_data, cat_data])
              have hfl2 : (flatL ((linesOf zs ps).take (j + 1))).length ≤ 99 * (j + 1) := by
                rw [hFB2]
                simp only [List.length_append, List.length_cons, List.length_nil, len_data]
                omega
              have HTX := Lib.hid htx; have HCE := Lib.hid hcells; have HF2 := Lib.hid hfl2; have HT2 := Lib.hid hTK2
              clear htx hc HTK HFB hbad hbp hzok htxt hFB2 hTK2 hcells hfl2
              go_upto_region 15 with fail
              have hbk := Blk.new wr 24 [.int .i64 pm, .int .u8 (s_ : Int), .int .i64 pn]
              have hcz2 := ((bel_alloc (Below.refl wr.heap.size wr) (.cells #[.int .i64 pm, .int .u8 (s_ : Int), .int .i64 pn] 24)).cell (p := ⟨b3, off3 + j, none⟩) hb3).trans hcz
              have hbu2 := Lib.hid (builder_below HBU.out (bel_alloc (Below.refl wr.heap.size wr) (.cells #[.int .i64 pm, .int .u8 (s_ : Int), .int .i64 pn] 24)))
              have HBk := Lib.hid (bel_alloc HBq.out (.cells #[.int .i64 pm, .int .u8 (s_ : Int), .int .i64 pn] 24))
              have hlt3 : b3 < (wr.alloc (.cells #[.int .i64 pm, .int .u8 (s_ : Int), .int .i64 pn] 24)).heap.size := by simp; omega
              generalize wr.alloc (.cells #[.int .i64 pm, .int .u8 (s_ : Int), .int .i64 pn] 24) = w2 at *
              generalize wr.heap.size = g2 at *
              have q0 := hbk.at_ (i := 0) rfl; have q1 := hbk.at_ (i := 1) rfl; have q2 := hbk.at_ (i := 2) rfl
              clear hbk hcz h0 h1 h2 HBU HBq
              go_wp2_with fail
              refine (HTX.out _).mono ?_; rintro e w3 ⟨rfl, hB3⟩
              have hcz3 := (hB3.cell (p := ⟨b3, off3 + j, none⟩) hlt3).trans hcz2
              have hbu3 := Lib.hid (builder_below hbu2.out hB3)
              have HB3 := Lib.hid (bel_trans HBk.out hB3)
              clear hB3 HBk HTX q0 q1 q2 hcz2 hbu2 hlt3
              go_wp2_with fail
              refine (write_string w.heap.size bb _ _ _ hbu3.out (by rw [Lib.byteCells_length]; omega) HB3.out.size).mono ?_; rintro e w4 ⟨rfl, hbu4, hB4⟩
              rw [HCE.out] at hbu4
              have HB4 := Lib.hid (HB3.out.trans hB4)
              have HU4 := Lib.hid hbu4
              clear hB4 hbu4 hbu3 HB3 hcz3
              go_wp2_with fail
              go_roundw
              case rel => exact ⟨j + 1, by omega, by go_num, HT2.out, Or.inr HU4.out, HF2.out, HB4.out⟩
              case measure => simp [intOf]; omega
          · obtain rfl : j = i := by omega
            rw [List.take_of_length_le (by omega)] at hany
            have hL : (linesOf zs ps).length = j := by unfold linesOf; rw [List.length_zipWith]; omega
            rw [List.take_of_length_le (by omega)] at hbu hfl
            have he2 : VE = 0 := by rw [HE2.out, if_neg (by rw [hany]; simp)]
            have hb2 : VB = bytesL (flatL (linesOf zs ps)) := by rw [HB2.out, if_pos he2]
            have HB3 := Lib.hid hBq; have HU := Lib.hid hbu
            clear HE2 HB2 hany hfl hBq hbu hL
            generalize flatL (linesOf zs ps) = l at *
            subst he2 hb2
            go_wp2_with fail
            refine (Tryd.Builder_String_any w.heap.size bb l _ HU.out HB3.out.size).mono ?_; rintro e w4 ⟨rfl, hB4⟩
            have HB4 := Lib.hid (HB3.out.trans hB4)
            clear hB4 HB3 HU
            go_wp2_with fail
            exact bodyPost_ret (v := .tuple #[.string (bytesL l), .int .i64 0]) (by simp [results, Tryd.results17, go_sem, bytesL]) rfl ⟨rfl, HB4.out⟩
  · have he : VE = 3 := by rw [← hVE]; unfold joinE; rw [if_pos (by omega)]
    have hb : VB = ⟨#[]⟩ := by rw [← hVB]; unfold joinB; rw [hVE, he, if_neg (by omega)]
    rw [he, hb]
    have hnn : ((N : Int) != (M : Int)) = true := by rw [bne_iff_ne]; omega
    have HB0 := Lib.hid hB0
    clear hVB hVE he hb hB0
    go_enter Tryd.func17, Tryd.ntmps17
    go_wp2_with fail
    exact bodyPost_ret (v := .tuple #[.string ⟨#[]⟩, .int .i64 3]) (by simp [results, Tryd.results17, go_sem]) rfl ⟨rfl, HB0.out⟩
end Go.Proofs.YtdpcnbbaipdmjaaDoor
