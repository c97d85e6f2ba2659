/- memory.Read. -/
import Derived.Test.YtbgnaohjcfbaaaaDoorMemWrite
namespace Go.Proofs.YtbgnaohjcfbaaaaDoor
open Go.RowKit
set_option linter.unusedVariables false
set_option linter.unusedSimpArgs false
attribute [local go_sem] World.cell?_alloc_lt

theorem info_u8 : (Tryd.prog.info? 5).map (fun i => (i.zero, i.size, i.bytes)) = some (some (.int .u8 0), 1, 1) := by kernel_rfl
section
variable (mb g b each nf tg bt bf : Nat) (bs : List Int) (mt mf : List (Int × Int)) (w : World) (hM : MemAt w mb g b each nf tg bt bf bs mt mf)
include hM
set_option maxRecDepth 100000 in
theorem me_read_no (a m : Nat) (hn : m ≤ 65536) (ha : a + m ≤ 262144) (hno : ∃ k, a ≤ k ∧ k < a + m ∧ ¬ mapped mt (k / 64)) : Calls Tryd.prog 14 #[.pointer (some ⟨mb, 0, none⟩), .int .i64 (a : Int), .int .i64 (m : Int)] w fun e w' => e = .returned (.tuple #[.slice none 0 0, .int .i64 9]) ∧ Below w.heap.size w w' := by
  have hp := me_pieces mb g b each nf tg bt bf bs mt mf w hM a m hn ha
  have HP := Lib.hid hp; have HN := Lib.hid hno
  clear hp hM hno
  go_enter Tryd.func14, Tryd.ntmps14
  go_wp2_with fail
  refine HP.out.mono ?_; rintro e w1 ⟨hor, hB⟩
  rcases hor with ⟨A1, P, c1, rfl, _, hcv⟩ | ⟨rfl, _⟩
  · obtain ⟨k, h1, h2, h3⟩ := HN.out
    exact absurd (cov_mapped mt P a (a + m) k hcv h1 h2) h3
  · go_wp2_with fail
    go_loopw [24, 10] (fun v v2 wr => v = .int .i64 0 ∧ v2 = .slice none 0 0 ∧ wr = w1) (fun _ _ _ => 0)
    case atStart => exact ⟨rfl, rfl, rfl⟩
    case round =>
      obtain ⟨rfl, rfl, rfl⟩ := hrel
      go_wp2_with fail
      go_ret2
      exact ⟨rfl, hB⟩
set_option maxRecDepth 100000 in
set_option maxHeartbeats 2000000 in
theorem me_read (a m : Nat) (hn : m ≤ 65536) (ha : a + m ≤ 262144) (hmp : ∀ k, a ≤ k → k < a + m → mapped mt (k / 64)) : Calls Tryd.prog 14 #[.pointer (some ⟨mb, 0, none⟩), .int .i64 (a : Int), .int .i64 (m : Int)] w fun e w' => ∃ A' c', e = .returned (.tuple #[.slice A' m c', .int .i64 0]) ∧ w'.ownsRow w.heap.size 5 1 (.slice A' m c') m ((rdB mt bs a m).map (Value.int .u8)) ∧ Below w.heap.size w w' := by
  have hp := me_pieces mb g b each nf tg bt bf bs mt mf w hM a m hn ha
  have HP := Lib.hid hp; have HN := Lib.hid hmp; have HM := Lib.hid hM
  clear hp hM hmp
  go_enter Tryd.func14, Tryd.ntmps14
  go_wp2_with fail
  refine HP.out.mono ?_; rintro e w1 ⟨hor, hB⟩
  rcases hor with ⟨A1, P, c1, rfl, hown, hcv⟩ | ⟨rfl, k, h1, h2, h3⟩
  · have hPl := cov_le mt P a (a + m) hcv
    have HC := Lib.hid hcv
    have hown0 : w1.ownsRow w.heap.size 5 1 (.slice none 0 0) 0 ((rdB mt bs a 0).map (Value.int .u8)) := ⟨rfl, Or.inl ⟨rfl, rfl⟩⟩
    clear hcv
    have HO := Lib.hid hown
    clear hown
    go_wp2_with fail
    go_loopw [24, 10] (fun v1 v2 wr => ∃ (i d : Nat) (A' : Option Addr) (c' : Nat), i ≤ P.length ∧ v1 = .int .i64 (i : Int) ∧ v2 = .slice A' d c' ∧ d ≤ m ∧ Cov mt a (P.take i) (a + d) ∧ wr.ownsRow w.heap.size 73 3 (.slice A1 P.length c1) P.length (pcCells P) ∧ wr.ownsRow w.heap.size 5 1 (.slice A' d c') d ((rdB mt bs a d).map (Value.int .u8)) ∧ Below w.heap.size w wr) (fun v1 _ _ => P.length - (intOf v1).toNat)
    case atStart => exact ⟨0, 0, none, 0, by omega, rfl, rfl, by omega, rfl, HO.out, hown0, hB⟩
    case round =>
      clear hown0 HO hB
      obtain ⟨i, d, A', c', hiP, rfl, rfl, hdm, hci, hP, hO, hB⟩ := hrel
      have HO := Lib.hid hO
      clear hO
      by_cases hlt : i < P.length
      · obtain ⟨c, ⟨fr, r, s⟩, h1, h2, hmp, h3, h4, h5, h6, h7, h8, _⟩ := cov_take mt P a (a + m) i HC.out hlt
        obtain rfl := cov_fun mt _ _ _ _ hci h1
        simp only at h3 h4 h5 h6 h7 h8
        have hfr := (HM.out.ok.at_ hmp).2
        rw [← h3] at hfr
        obtain ⟨q, rfl, hql, hqb, c0, c1', c2⟩ := own3_at hP hlt h2
        simp only at c0 c1' c2
        have hi0 := fun w => idx_piece q P.length c1 i hlt w
        have H7 := Lib.hid h7; have H3 := Lib.hid h3; have H4 := Lib.hid h4; have HCI := Lib.hid hci; have HP := Lib.hid hP
        have hwr := hB.size
        have hrs : r + s ≤ 64 := by omega
        clear h1 h2 h3 h4 h7 hmp hci hP
        go_upto_region 6 with fail
        have hblk := Blk.new wr 73 [.int .i64 (fr : Int), .int .i64 (r : Int), .int .i64 (s : Int)]
        have hca : Ch [] wr (wr.alloc (.cells #[.int .i64 (fr : Int), .int .i64 (r : Int), .int .i64 (s : Int)] 73)) := (Ch.refl [] wr).alloc _
        have hBa := bel_alloc hB (.cells #[.int .i64 (fr : Int), .int .i64 (r : Int), .int .i64 (s : Int)] 73)
        have hPa := own_chV HP.out hca (by simp)
        have hOa := own_chV HO.out hca (by simp)
        have hMa := HM.out.below hBa
        have HPa := Lib.hid hPa; have HOa := Lib.hid hOa
        have hpl := hblk.lt
        clear hca hB c0 c1' c2 hi0 hPa hOa HO HP
        generalize wr.alloc (.cells #[.int .i64 (fr : Int), .int .i64 (r : Int), .int .i64 (s : Int)] 73) = wa at *
        generalize wr.heap.size = p at *
        have q0 := hblk.at_ (i := 0) rfl
        have q1 := hblk.at_ (i := 1) rfl
        have q2 := hblk.at_ (i := 2) rfl
        have k0 := hMa.st.at_ (i := 0) rfl
        have hmw := hMa.st.lt
        go_region_held3 (fun w' => w'.cell? ⟨mb, 0, none⟩ = some (.pointer (some ⟨g, 0, none⟩)) ∧ w'.cell? ⟨p, 0, none⟩ = some (.int .i64 fr) ∧ w'.cell? ⟨p, 1, none⟩ = some (.int .i64 r) ∧ w'.cell? ⟨p, 2, none⟩ = some (.int .i64 s))
          (first | go_keep | exact keep4 (Ch.below hcS []) (by simp) (by simp) (by assumption) | exact keep4 (Ch.below hcS []) (by simp) (by simp) ⟨by assumption, by assumption, by assumption, by assumption⟩)
          (first | (go_at_call 32; refine (fr_load g b each nf _ fr r s _ (by first | exact hMa.fs | exact hMa.fs.below (bel_drew (Below.refl _ _)) | exact hMa.fs.below (bel_drewN (Below.refl _ _) _)) hfr hrs).mono ?_; rintro e wS ⟨hh, hc, rfl, hownS, hcS⟩))
        have hbd : Below wa.heap.size wa wS := bel_trans (bel_drew (Below.refl _ wa)) hcS
        have hOS := own_chV HOa.out (Ch.below hbd []) (by simp)
        have hPS := own_chV HPa.out (Ch.below hbd []) (by simp)
        have hBS := bel_trans hBa hbd
        have hws := hBS.size
        have hln : bs.length = nf * 64 := HM.out.fs.ln
        have hfs : fr * 64 + r + s ≤ bs.length := by omega
        have hrd : rdB mt bs a d ++ (bs.drop (fr * 64 + r)).take s = rdB mt bs a (d + s) := by
          have e : fr * 64 + r = posN mt (a + d) := by
            unfold posN
            rw [← H3.out, ← H4.out]
          rw [rdB_append, rdB_page bs (a + d) s h6 (by rw [← e]; exact hfs), e]
        have hus : ∀ j u, (((bs.drop (fr * 64 + r)).take s).map (Value.int .u8))[j]? = some u → wS.cell? ⟨hh, 0 + j, none⟩ = some u := by
          intro j u hj
          have := hownS.cells (g := hh) rfl j u hj
          rw [WideShapes.add_plain] at this
          exact this
        have hvl : ((bs.drop (fr * 64 + r)).take s).length = s := by rw [List.length_take, List.length_drop]; omega
        generalize (bs.drop (fr * 64 + r)).take s = vs at *
        have HUS := Lib.hid hus; have HRD := Lib.hid hrd; have HOS := Lib.hid hOS; have HPS := Lib.hid hPS; have HNS := Lib.hid hownS
        clear hus hrd hOS hPS hownS hBa hMa HPa HOa hblk q0 q1 q2 k0 hbd
        go_upto_region 9 with fail
        go_wp2_with (at_builtin; refine wpList_pushes _ rfl (.tmp 45) (.tmp 46) 34 rfl w.heap.size 5 (.int .u8 0) 1 Tryd.underlying34 info_u8 rfl A' d c' _ rfl HOS.out hh 0 s hc (vs.map (Value.int .u8)) rfl (by rw [List.length_map]; exact hvl) HUS.out (fun u hu => by obtain ⟨z, _, rfl⟩ := List.mem_map.1 hu; rfl) (by omega) (by omega) (by omega) (by omega) ?_)
        intro gg cp w5 hown5 hgr5 hor5
        rw [← List.map_append, HRD.out] at hown5
        have hap := own_apart HPS.out HOS.out (by decide)
        have hc5 : Ch (Value.slice A' d c').ownBlock.toList wS w5 := ch_grown hgr5 (fun q hq => by rw [hq]; simp)
        have hP5 := own_chV HPS.out hc5 (fun q hq hm => by rw [Option.mem_toList] at hm; exact hap q hq hm)
        have hB5 := bel_ch hBS hc5 (fun q hq => by rw [Option.mem_toList] at hq; exact (HOS.out.lt q hq).1)
        have HW5 := Lib.hid hown5; have HP5 := Lib.hid hP5
        clear hown5 hc5 hgr5 hor5 hap hP5 hBS HOS HPS HUS HNS
        go_wp2_with fail
        go_roundw
        case rel => exact ⟨i + 1, d + s, some ⟨gg, 0, none⟩, cp, by omega, by go_num, rfl, by omega, by rw [← Nat.add_assoc]; exact H7.out, HP5.out, HW5.out, hB5⟩
        case measure => simp [intOf]; omega
      · obtain rfl : i = P.length := by omega
        rw [List.take_length] at hci
        have hdm2 := cov_fun mt _ _ _ _ hci HC.out
        obtain rfl : d = m := by omega
        go_wp2_with fail
        go_ret2
        exact ⟨A', c', rfl, HO.out, hB⟩
  · exact absurd (HN.out k h1 h2) h3
end
end Go.Proofs.YtbgnaohjcfbaaaaDoor
