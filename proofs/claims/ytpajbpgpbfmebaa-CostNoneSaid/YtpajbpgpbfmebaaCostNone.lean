/- The law CostNone. -/
import Derived.Test.YtpajbpgpbfmebaaCostMore
import Derived.Deep.QuietTactic
import Derived.BigQuiet
import Derived.Deep.DeepCutAuto
import Derived.Deep.CutBlock
namespace Go.Proofs.Ytpajbpgpbfmebaa
open Go.RowKit
set_option linter.unusedVariables false
set_option linter.unusedSimpArgs false
attribute [local go_sem] World.cell?_alloc_lt

/-- Cells that are events. -/
def RowE (cs : List Value) (L : List EvC) : Prop := ∀ j e, L[j]? = some e → cs[j * 4]? = some (.int .i64 e.node) ∧ cs[j * 4 + 1]? = some (.int .i64 e.start) ∧ cs[j * 4 + 2]? = some (.int .i64 e.own) ∧ cs[j * 4 + 3]? = some (.bool e.inter)
theorem InEs.of_row {w : World} {g n : Nat} {T : TypeId} {cs : List Value} {L : List EvC} (h : Blk w g T cs) (hr : RowE cs L) (hl : L.length = n) : InEs w (some ⟨g, 0, none⟩) n L :=
  ⟨hl, fun _ => ⟨g, 0, rfl, h.lt, fun j e hj => by
    obtain ⟨h0, h1, h2, h3⟩ := hr j e hj
    refine ⟨?_, ?_, ?_, ?_⟩
    · rw [Nat.zero_add]; exact h.at_ h0
    · rw [Nat.zero_add]; exact h.at_ h1
    · rw [Nat.zero_add]; exact h.at_ h2
    · rw [Nat.zero_add]; exact h.at_ h3⟩⟩
theorem RowE.set {cs : List Value} {L : List EvC} {i : Nat} {e : EvC} (h : RowE cs L) (hi : L[i]? = some e) (v : Int) : RowE (cs.set (i * 4) (.int .i64 v)) (L.set i { e with node := v }) := by
  intro j x hj
  by_cases hij : j = i
  · subst hij
    have hl := (List.getElem?_eq_some_iff.1 hi).1
    rw [List.getElem?_set_self hl] at hj
    injection hj with hj
    subst hj
    obtain ⟨h0, h1, h2, h3⟩ := h j e hi
    have hc := (List.getElem?_eq_some_iff.1 h0).1
    refine ⟨?_, ?_, ?_, ?_⟩
    · rw [List.getElem?_set_self hc]
    · rw [List.getElem?_set_ne (by omega)]; exact h1
    · rw [List.getElem?_set_ne (by omega)]; exact h2
    · rw [List.getElem?_set_ne (by omega)]; exact h3
  · rw [List.getElem?_set_ne (fun e => hij e.symm)] at hj
    obtain ⟨h0, h1, h2, h3⟩ := h j x hj
    refine ⟨?_, ?_, ?_, ?_⟩
    · rw [List.getElem?_set_ne (by omega)]; exact h0
    · rw [List.getElem?_set_ne (by omega)]; exact h1
    · rw [List.getElem?_set_ne (by omega)]; exact h2
    · rw [List.getElem?_set_ne (by omega)]; exact h3
theorem row_of_own {w : World} {base c n : Nat} {A : Option Addr} {L : List EvC} (h : w.ownsRow base 61 4 (.slice A n c) n (evCs L)) (hn : 0 < n) : ∃ g cs, A = some ⟨g, 0, none⟩ ∧ base ≤ g ∧ Blk w g 61 cs ∧ RowE cs L := by
  have hl : L.length = n := by have := h.1; rw [evCs_len] at this; omega
  rcases h.2 with ⟨h0, h1⟩ | ⟨g, cap, cur, hv, hg, hh, hnc, hcm, hsz, ht⟩
  · exfalso
    injection h0 with _ h2 _
    omega
  · injection hv with hA _ _
    refine ⟨g, cur.toList, hA, hg, by unfold Blk; rw [hh], fun j e hj => ?_⟩
    have hjl := (List.getElem?_eq_some_iff.1 hj).1
    have key : ∀ i, i < 4 → cur.toList[j * 4 + i]? = e.cells[i]? := by
      intro i hi
      have h2 := evCs_at L j i e hj hi
      rw [← ht, List.getElem?_take, if_pos (by omega)] at h2
      exact h2
    exact ⟨key 0 (by omega), key 1 (by omega), key 2 (by omega), key 3 (by omega)⟩
/-- An event that stays on its own node. -/
def Home (m : Nat) (e : EvC) : Prop := ∃ k : Nat, k < m ∧ e.own = (k : Int) ∧ e.node = (k : Int)
def Near (m : Nat) (e : EvC) : Prop := ∃ k j : Nat, k < m ∧ j < m ∧ e.own = (k : Int) ∧ e.node = (j : Int)
theorem near_ok {m : Nat} {L : List EvC} (h : ∀ e ∈ L, Near m e) : L.all (evOk m) = true := by
  rw [List.all_eq_true]
  intro e he
  obtain ⟨k, j, hk, hj, h1, h2⟩ := h e he
  exact decide_eq_true (by omega)
theorem home_near {m : Nat} {e : EvC} (h : Home m e) : Near m e := by
  obtain ⟨k, hk, h1, h2⟩ := h
  exact ⟨k, k, hk, hk, h1, h2⟩
theorem home_sum {m : Nat} {D : List RowV} (hm : matB m D = true) {L : List EvC} (h : ∀ e ∈ L, Home m e) : ∀ k, k ≤ L.length → sumE (fun d => d) D L k = 10 * (k : Int) ∧ sumE (farF 10) D L k = 0 := by
  intro k
  induction k with
  | zero => intro _; simp [sumE]
  | succ k ih =>
    intro hk
    have hlt : k < L.length := by omega
    have he := List.getElem?_eq_getElem hlt
    obtain ⟨i, hi, h1, h2⟩ := h _ (List.mem_of_getElem? he)
    obtain ⟨i1, i2⟩ := ih (by omega)
    rw [sumE_succ he, sumE_succ he, h1, h2, Int.toNat_natCast, mat_own hm hi, i1, i2]
    refine ⟨by omega, by simp [farF]⟩
theorem near_far {m : Nat} {D : List RowV} (hm : matB m D = true) {L : List EvC} (h : ∀ e ∈ L, Near m e) : ∀ k, k ≤ L.length → sumE (farF 255) D L k = 0 := by
  intro k
  induction k with
  | zero => intro _; simp [sumE]
  | succ k ih =>
    intro hk
    have hlt : k < L.length := by omega
    have he := List.getElem?_eq_getElem hlt
    obtain ⟨i, j, hi, hj, h1, h2⟩ := h _ (List.mem_of_getElem? he)
    rw [sumE_succ he, ih (by omega), h1, h2, Int.toNat_natCast, Int.toNat_natCast]
    have := (mat_bds hm).2.2 i j hi hj
    unfold farF
    rw [if_neg (by omega)]
    omega
theorem idx_se (b n c i : Nat) (hi : i < n) (w : World) : (Instr.indexAt 59 (.slice (some ⟨b, 0, none⟩) n c) (.int .i64 (i : Int))).run Try.prog w = .ok (.pointer (some ⟨b, i * 4, none⟩)) w := by
  simp [go_sem, hi]
set_option maxRecDepth 100000 in
set_option maxHeartbeats 8000000 in
theorem costNone_walk (w0 : World) (t : TopoV) (hT : InTopo w0 t) (hk1 : t.cs.length ≤ t.cc) (hk2 : t.ds.length ≤ t.dc) (a : Option Addr) (len cap : Nat) (zs : List Int) (hz0 : InInts .i64 w0 a len zs) (hlc : len ≤ cap) : Calls Try.prog 8 #[t.val, .slice a len cap] w0 fun e w' => e = .returned (.bool true) ∧ Below w0.heap.size w0 w' := by
  have hl63 := hz0.mx
  have hba : Below w0.heap.size w0 (w0.alloc (.cells #[.int .i64 t.N, .int .i64 t.F, .slice t.ca t.cs.length t.cc, .slice t.da t.ds.length t.dc] 42)) := bel_alloc (Below.refl _ _) _
  have htm := tame_any t (w0.alloc (.cells #[.int .i64 t.N, .int .i64 t.F, .slice t.ca t.cs.length t.cc, .slice t.da t.ds.length t.dc] 42)) hk1 hk2 hT.c63 hT.d63
  have hTT := tame_in hT
  have hblk := Blk.new w0 42 [.int .i64 t.N, .int .i64 t.F, .slice t.ca t.cs.length t.cc, .slice t.da t.ds.length t.dc]
  have HTM := Lib.hid htm; have HTT := Lib.hid hTT; have HBA := Lib.hid hba; have HB := Lib.hid hblk; have HZ := Lib.hid hz0
  clear htm hTT hba hT hblk hk1 hk2 hz0
  generalize tameV t = T at *
  unfold TopoV.val at *
  go_enter Try.func8, Try.ntmps8
  go_wp2_with fail
  refine HTM.out.mono ?_; rintro e w1 ⟨rfl, hB1⟩
  have hb1 := HB.out.below hB1
  have q0 := hb1.at_ (i := 0) rfl
  have q1 := hb1.at_ (i := 1) rfl
  have q2 := hb1.at_ (i := 2) rfl
  have q3 := hb1.at_ (i := 3) rfl
  have f0 := hb1.frozen 0; have f1 := hb1.frozen 1; have f2 := hb1.frozen 2; have f3 := hb1.frozen 3
  go_upto_region 2 with fail
  have hb2 : Blk _ w0.heap.size 42 [.int .i64 T.N, .int .i64 T.F, .slice T.ca T.cs.length T.cc, .slice T.da T.ds.length T.dc] := (((hb1.set_ 0 (.int .i64 T.N)).set_ 1 (.int .i64 T.F)).set_ 2 (.slice T.ca T.cs.length T.cc)).set_ 3 (.slice T.da T.ds.length T.dc)
  have hB2 : Below w0.heap.size w0 ((((w1.setCell ⟨w0.heap.size, 0, none⟩ (.int .i64 T.N)).setCell ⟨w0.heap.size, 1, none⟩ (.int .i64 T.F)).setCell ⟨w0.heap.size, 2, none⟩ (.slice T.ca T.cs.length T.cc)).setCell ⟨w0.heap.size, 3, none⟩ (.slice T.da T.ds.length T.dc)) :=
    bel_set (bel_set (bel_set (bel_set (bel_trans HBA.out hB1) (by simp) _) (by simp) _) (by simp) _) (by simp) _
  clear q0 q1 q2 q3 f0 f1 f2 f3 hb1 hB1
  generalize (((w1.setCell ⟨w0.heap.size, 0, none⟩ (.int .i64 T.N)).setCell ⟨w0.heap.size, 1, none⟩ (.int .i64 T.F)).setCell ⟨w0.heap.size, 2, none⟩ (.slice T.ca T.cs.length T.cc)).setCell ⟨w0.heap.size, 3, none⟩ (.slice T.da T.ds.length T.dc) = w2 at *
  have hTw := HTT.out.below hB2
  have HT2 := Lib.hid hTw; have HB2 := Lib.hid hb2; have HBB := Lib.hid hB2
  clear hTw hb2 hB2 HTM HTT HBA HB
  go_wp2_with fail
  refine (costs_any _).mono ?_; rintro e w3 ⟨rfl, hB3⟩
  have hb3 := HB2.out.below hB3
  have q0 := hb3.at_ (i := 0) rfl
  have q1 := hb3.at_ (i := 1) rfl
  have q2 := hb3.at_ (i := 2) rfl
  have q3 := hb3.at_ (i := 3) rfl
  have hT3 := HT2.out.below hB3
  have hBB3 := bel_trans HBB.out hB3
  have hrc := ref_check T w3 hT3
  have HT3 := Lib.hid hT3; have HB3 := Lib.hid hb3; have HBB3 := Lib.hid hBB3
  clear hb3 hT3 hBB3 HT2 HB2 HBB hB3
  by_cases hch : chkT T = 0
  · rw [hch] at hrc
    obtain ⟨m, hN, hm1, hm8, hmat⟩ := chk_zero hch
    have HRC := Lib.hid hrc; have HM := Lib.hid hmat; have HCH := Lib.hid hch; have HN := Lib.hid hN
    clear hrc hmat hch hN
    go_wp2_with fail
    refine HRC.out.mono ?_; rintro e w4 ⟨rfl, hB4⟩
    clear q0 q1 q2 q3
    have hb4 := HB3.out.below hB4
    have hT4 := HT3.out.below hB4
    have hBB4 := bel_trans HBB3.out hB4
    have q0 := hb4.at_ (i := 0) rfl
    have HT4 := Lib.hid hT4; have HB4 := Lib.hid hb4; have HBB4 := Lib.hid hBB4
    clear hb4 hT4 hBB4 HT3 HB3 HBB3 hB4 HRC
    have hZ4 := (InI.inn HZ.out).below HBB4.out
    have HZ4 := Lib.hid hZ4
    clear q0 hZ4
    go_upto_block 0 with fail
    go_cut [5] (fun v5 wx => ∃ (n : Nat) (A : Option Addr) (c : Nat) (L : List EvC), n ≤ 40 ∧ v5 = .slice A n c ∧ wx.ownsRow w4.heap.size 61 4 (.slice A n c) n (evCs L) ∧ (∀ e ∈ L, Home m e) ∧ Below w4.heap.size w4 wx)
    case first =>
      have hB44 := Below.refl w4.heap.size w4
      go_wp2_with fail
      go_loopw [6, 5] (fun v v5 wr => ∃ (i : Nat) (A : Option Addr) (c : Nat) (L : List EvC), i ≤ 40 ∧ i ≤ len ∧ v = .int .i64 (i : Int) ∧ v5 = .slice A i c ∧ wr.ownsRow w4.heap.size 61 4 (.slice A i c) i (evCs L) ∧ (∀ e ∈ L, Home m e) ∧ Below w4.heap.size w4 wr) (fun v _ _ => 40 - (intOf v).toNat)
      case atStart => exact ⟨0, none, 0, [], by omega, by omega, rfl, rfl, ⟨rfl, Or.inl ⟨rfl, rfl⟩⟩, by simp, hB44⟩
      case round =>
        clear hB44
        obtain ⟨i, A, c, L, hi, hil, rfl, rfl, hown, hL, hB⟩ := hrel
        have HO := Lib.hid hown; have HL := Lib.hid hL
        clear hown hL
        by_cases h1 : i < len
        · by_cases h2 : i < 40
          · have q0 := (HB4.out.below hB).at_ (i := 0) rfl
            rw [HN.out] at q0
            obtain ⟨bz, oz, rfl, hbz, hcz⟩ := (HZ4.out.below hB).get h1
            have hix := fun w => idxI bz oz len cap i h1 w
            have hlenL : L.length = i := by have := HO.out.1; rw [evCs_len] at this; omega
            generalize zs.getD i 0 = z at *
            obtain ⟨hr1, hr2⟩ := umod_bd z (m : Int) (by omega) (by omega)
            have hum : IntKind.u64.wrap (m : Int) = (m : Int) := by
              simp only [IntKind.wrap]
              simp [IntKind.signed, IntKind.bits]
              omega
            have hne : ((m : Int) == 0) = false := by rw [beq_eq_false_iff_ne]; omega
            have hne2 : (m : Int) ≠ 0 := by omega
            have HLL := Lib.hid hlenL
            clear hlenL
            go_upto_region 8 with fail
            go_quiet (fail)
            generalize wrap64 ((IntKind.u64.wrap z).tmod (m : Int)) = kk at *
            obtain ⟨k, rfl⟩ := Int.eq_ofNat_of_zero_le hr1
            clear hum hne hne2 q0 hix hcz
            have hBq : Below w4.heap.size w4 (wr.drewN nq) := bel_drewN hB nq
            have hOq := own_chV HO.out ((Ch.refl [] wr).drewN nq) (by simp)
            have hsz := hBq.size
            generalize wr.drewN nq = wq at *
            have hnews := Blk.new wq 61 [.int .i64 (k : Int), .int .i64 0, .int .i64 (k : Int), .bool false]
            have hOa := own_chV hOq ((Ch.refl [] wq).alloc (.cells #[.int .i64 (k : Int), .int .i64 0, .int .i64 (k : Int), .bool false] 61)) (by simp)
            have HNW := Lib.hid hnews; have HOA := Lib.hid hOa; have HOQ := Lib.hid hOq
            clear hnews hOa hOq HO
            go_wp2_with (at_builtin; refine wpList_pushesN _ rfl (.tmp 45) (.tmp 49) 59 rfl w4.heap.size 61 _ 4 32 Try.underlying59 info_ev rfl (by omega) A i c (evCs L) rfl HOA.out wq.heap.size 0 1 1 [.int .i64 (k : Int), .int .i64 0, .int .i64 (k : Int), .bool false] rfl rfl (fun j u hj => by rw [Nat.zero_add]; exact HNW.out.at_ hj) (fun u hu => by simp at hu; rcases hu with rfl | rfl | rfl | rfl <;> rfl) (by omega) (by omega) (by omega) (by simp; omega) ?_)
            intro gg cp w5 hown5 hgr5 hor5
            have hc5 : Ch (Value.slice A i c).ownBlock.toList (wq.alloc (.cells #[.int .i64 (k : Int), .int .i64 0, .int .i64 (k : Int), .bool false] 61)) w5 := ch_grown hgr5 (fun q hq => by rw [hq]; simp)
            have hB5 := bel_ch (bel_alloc hBq (.cells #[.int .i64 (k : Int), .int .i64 0, .int .i64 (k : Int), .bool false] 61)) hc5 (fun q hq => by rw [Option.mem_toList] at hq; exact (HOQ.out.lt q hq).1)
            have hsn : evCs (L ++ [⟨(k : Int), 0, (k : Int), false⟩]) = evCs L ++ [.int .i64 (k : Int), .int .i64 0, .int .i64 (k : Int), .bool false] := evCs_snoc L _
            rw [← hsn] at hown5
            have HW5 := Lib.hid hown5
            have hL5 : ∀ e ∈ L ++ [(⟨(k : Int), 0, (k : Int), false⟩ : EvC)], Home m e := by
              intro e he
              rcases List.mem_append.1 he with h | h
              · exact HL.out e h
              · simp only [List.mem_singleton] at h
                subst h
                exact ⟨k, by omega, rfl, rfl⟩
            have HL5 := Lib.hid hL5
            clear hown5 hc5 hgr5 hor5 hL5 hsn HOQ HOA HNW hBq hB
            go_wp2_with fail
            go_roundw
            case rel => exact ⟨i + 1, some ⟨gg, 0, none⟩, cp, _, by omega, by omega, by go_num, rfl, HW5.out, HL5.out, hB5⟩
            case measure => simp [intOf]; omega
          · obtain rfl : i = 40 := by omega
            go_wp2_with fail
            go_meet
            exact ⟨_, A, c, L, by omega, rfl, HO.out, HL.out, hB⟩
        · obtain rfl : i = len := by omega
          go_wp2_with fail
          go_meet
          exact ⟨_, A, c, L, by omega, rfl, HO.out, HL.out, hB⟩
    case rest =>
      obtain ⟨n, A, c, L, hn, rfl, hown, hL, hBw⟩ := hcut
      have hLn : L.length = n := by have := hown.1; rw [evCs_len] at this; omega
      have hE := InEs.own hown
      obtain ⟨hs1, hs2⟩ := home_sum HM.out hL n (by omega)
      have hok := near_ok (fun e he => home_near (hL e he))
      have hsm := fun (w : World) (hT : InTopo w T) (hE : InEs w A n L) => sum_ev T m HCH.out HN.out A n c L w hT hE (by omega) hok
      have hfr := fun (w : World) (hT : InTopo w T) (hE : InEs w A n L) => far_ev T m HCH.out HN.out A n c L 10 w hT hE (by omega) hok
      rw [hs1] at hsm
      rw [hs2] at hfr
      have HSM := Lib.hid hsm; have HFR := Lib.hid hfr; have HE := Lib.hid hE; have HL := Lib.hid hL; have HO := Lib.hid hown; have HLN := Lib.hid hLn
      clear hLn hE hs1 hs2 hok hsm hfr hown hL
      have hT5 := HT4.out.below hBw
      have hb5 := HB4.out.below hBw
      have hBB5 := bel_trans HBB4.out hBw
      have HT5 := Lib.hid hT5; have HB5 := Lib.hid hb5; have HBB5 := Lib.hid hBB5
      have hw4l := HB4.out.lt
      have hw4c := hBw.size
      have HBW := Lib.hid hBw
      have HTZ := Lib.hid HT4.out; have HBBZ := Lib.hid HBB4.out
      clear hT5 hb5 hBB5 HT4 HBB4 hBw
      have hBc := Below.refl wc.heap.size wc
      obtain ⟨w5, rfl⟩ : ∃ x, x = wc := ⟨_, rfl⟩
      have q0 := (HB5.out.below hBc).at_ (i := 0) rfl
      have q1 := (HB5.out.below hBc).at_ (i := 1) rfl
      have q2 := (HB5.out.below hBc).at_ (i := 2) rfl
      have q3 := (HB5.out.below hBc).at_ (i := 3) rfl
      go_wp2_with fail
      refine (to_any T _).mono ?_; rintro e wt1 ⟨rfl, hBt⟩
      replace hBc := bel_trans hBc hBt
      clear hBt q0 q1 q2 q3
      go_wp2_with fail
      refine (HSM.out _ (HT5.out.below hBc) (HE.out.below hBc)).mono ?_; rintro e wf1 ⟨rfl, hBf⟩
      replace hBc := bel_trans hBc hBf
      clear hBf
      have q0 := (HB5.out.below hBc).at_ (i := 0) rfl
      have q1 := (HB5.out.below hBc).at_ (i := 1) rfl
      have q2 := (HB5.out.below hBc).at_ (i := 2) rfl
      have q3 := (HB5.out.below hBc).at_ (i := 3) rfl
      go_wp2_with fail
      refine (to_any T _).mono ?_; rintro e wt2 ⟨rfl, hBt⟩
      replace hBc := bel_trans hBc hBt
      clear hBt q0 q1 q2 q3
      go_wp2_with fail
      refine (HFR.out _ (HT5.out.below hBc) (HE.out.below hBc)).mono ?_; rintro e wf2 ⟨rfl, hBf⟩
      replace hBc := bel_trans hBc hBf
      clear hBf
      have hwf := hBc.size
      have q0 := (HB5.out.below hBc).at_ (i := 0) rfl
      rw [HN.out] at q0
      have hrow : 0 < n → ∃ g cs, A = some ⟨g, 0, none⟩ ∧ w4.heap.size ≤ g ∧ Blk wf2 g 61 cs ∧ RowE cs L := fun hn0 => by
        obtain ⟨g, cs, h1, h2, h3, h4⟩ := row_of_own HO.out hn0
        exact ⟨g, cs, h1, h2, h3.below hBc, h4⟩
      have hB4f : Below w4.heap.size w4 wf2 := bel_trans HBW.out hBc
      have HROW := Lib.hid hrow; have HB4F := Lib.hid hB4f
      clear hrow hB4f hBc q0 HSM HFR HO HE
      go_wp2_with fail
      go_loopw [12] (fun v wr => ∃ (i : Nat) (L' : List EvC), i ≤ n ∧ v = .int .i64 (i : Int) ∧ L'.length = n ∧ (∀ e ∈ L', Near m e) ∧ (0 < n → ∃ g cs, A = some ⟨g, 0, none⟩ ∧ w4.heap.size ≤ g ∧ Blk wr g 61 cs ∧ RowE cs L') ∧ Below w4.heap.size w4 wr) (fun v _ => n - (intOf v).toNat)
      case atStart => exact ⟨0, L, by omega, rfl, HLN.out, fun e he => home_near (HL.out e he), HROW.out, HB4F.out⟩
      case round =>
        obtain ⟨i, L', hi, rfl, hl', hne', hrow, hBr⟩ := hrel
        have q0 := (HB4.out.below hBr).at_ (i := 0) rfl
        rw [HN.out] at q0
        by_cases hlt : i < n
        · obtain ⟨g, cs, rfl, hg, hbk, hre⟩ := hrow (by omega)
          have hile : i < L'.length := by omega
          have hei := List.getElem?_eq_getElem hile
          have hst := hre.set hei ((i % m : Nat) : Int)
          have hb2 := hbk.set_ (i * 4) (.int .i64 ((i % m : Nat) : Int))
          have hcell := hbk.at_ (hre i _ hei).1
          have hfz := hbk.frozen (i * 4)
          have hnear : ∀ e ∈ L'.set i { L'[i] with node := ((i % m : Nat) : Int) }, Near m e := by
            intro e he
            rcases List.mem_or_eq_of_mem_set he with h | rfl
            · exact hne' e h
            · obtain ⟨k, j, hk, hj, h1, h2⟩ := hne' _ (List.getElem_mem hile)
              exact ⟨k, i % m, hk, Nat.mod_lt _ (by omega), h1, rfl⟩
          have hl2 : (L'.set i { L'[i] with node := ((i % m : Nat) : Int) }).length = n := by rw [List.length_set]; exact hl'
          have hBs := bel_set hBr (p := ⟨g, i * 4, none⟩) hg (.int .i64 ((i % m : Nat) : Int))
          have hix := fun w => idx_se g n c i hlt w
          have hmod : (i : Int) % (m : Int) = ((i % m : Nat) : Int) := by simp
          have hmod2 : (i : Int).tmod (m : Int) = ((i % m : Nat) : Int) := by rw [Int.tmod_eq_emod_of_nonneg (by omega)]; simp
          have hne : ((m : Int) == 0) = false := by rw [beq_eq_false_iff_ne]; omega
          have hne2 : (m : Int) ≠ 0 := by omega
          have hne3 : (m : Int) ≠ -1 := by omega
          have HST := Lib.hid hst; have HB2 := Lib.hid hb2; have HNR := Lib.hid hnear; have HL2 := Lib.hid hl2; have HBS := Lib.hid hBs
          clear hst hb2 hnear hl2 hBs hrow hne' hei hre hbk hl'
          generalize hmm : i % m = im at *
          have HMM := Lib.hid hmm
          clear hmm
          go_wp2_with fail
          go_roundw
          case rel => exact ⟨i + 1, _, by omega, by go_num, HL2.out, HNR.out, fun _ => ⟨g, _, rfl, hg, HB2.out, HST.out⟩, HBS.out⟩
          case measure => simp [intOf]; omega
        · obtain rfl : i = n := by omega
          have hEr : InEs wr A i L' := by
            by_cases h0 : 0 < i
            · obtain ⟨g, cs, rfl, _, hb, hr⟩ := hrow h0
              exact InEs.of_row hb hr hl'
            · exact ⟨hl', fun h => absurd h h0⟩
          have hok := near_ok hne'
          have hfr := fun (w : World) (hT : InTopo w T) (hE : InEs w A i L') => far_ev T m HCH.out HN.out A i c L' 255 w hT hE (by omega) hok
          rw [near_far HM.out hne' i (by omega)] at hfr
          have HFR := Lib.hid hfr; have HE := Lib.hid hEr; have HBR := Lib.hid (HB4.out.below hBr)
          have HT4' := Lib.hid (HTZ.out.below hBr)
          have HBBR := Lib.hid (bel_trans HBBZ.out hBr)
          clear hrow hne' hl' hok hfr hEr q0
          have hw10 : wrap64 (10 * (i : Int)) = 10 * (i : Int) := wrap64_small (by omega) (by omega)
          go_upto_region 16 with fail
          have q0 := HBR.out.at_ (i := 0) rfl
          have q1 := HBR.out.at_ (i := 1) rfl
          have q2 := HBR.out.at_ (i := 2) rfl
          have q3 := HBR.out.at_ (i := 3) rfl
          go_wp2_with fail
          refine (to_any T _).mono ?_; rintro e wt3 ⟨rfl, hBt⟩
          clear q0 q1 q2 q3
          go_wp2_with fail
          refine (HFR.out _ (HT4'.out.below hBt) (HE.out.below hBt)).mono ?_; rintro e wf3 ⟨rfl, hBf⟩
          go_wp2_with fail
          go_ret
          exact ⟨rfl, bel_trans HBBR.out (bel_trans hBt hBf)⟩
  · have e3 : (chkT T != 0) = true := by rw [bne_iff_ne]; exact hch
    have HRC := Lib.hid hrc
    clear hch hrc
    generalize chkT T = E at *
    go_wp2_with fail
    refine HRC.out.mono ?_; rintro e w4 ⟨rfl, hB4⟩
    have hBB4 := bel_trans HBB3.out hB4
    clear q0 q1 q2 q3
    go_wp2_with fail
    refine (costs_any _).mono ?_; rintro e w5 ⟨rfl, hB5⟩
    go_wp2_with fail
    go_ret
    exact ⟨rfl, bel_trans hBB4 hB5⟩
end Go.Proofs.Ytpajbpgpbfmebaa
