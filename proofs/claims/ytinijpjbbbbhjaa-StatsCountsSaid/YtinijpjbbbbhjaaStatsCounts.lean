/- The law StatsCounts. -/
import Derived.Test.YtinijpjbbbbhjaaStatsRef
namespace Go.Proofs.Ytinijpjbbbbhjaa
open Go.RowKit
set_option linter.unusedVariables false
set_option linter.unusedSimpArgs false
attribute [local go_sem] World.cell?_alloc_lt
attribute [local go_sem] arr6

theorem i64_sm {n : Int} (h0 : -9223372036854775808 ≤ n) (h1 : n ≤ 9223372036854775807) : IntKind.i64.wrap n = n := by
  simp only [IntKind.wrap]
  simp [IntKind.signed, IntKind.bits]
  omega
theorem info_ref : (Try.prog.info? 38).map (fun i => (i.zero, i.size, i.bytes)) = some (some (.agg #[.int .i64 0, .int .i64 0, .int .i64 0, .bool false]), 4, 32) := by kernel_rfl
theorem after_call2 {P : Program} {f : FuncId} {args : Array Value} {w : World} {v : Value} (h : ∀ w', Below w.heap.size w w' → Calls P f args w' fun e w'' => e = .returned v ∧ Below w'.heap.size w' w'') (x : After w) :
    Calls P f args x.1 fun e w'' => e = .returned v ∧ ∃ y : After w, w'' = y.1 :=
  (h x.1 x.2).mono fun _ w'' ⟨he, hb⟩ => ⟨he, ⟨w'', bel_trans x.2 hb⟩, rfl⟩
/-- The events so far that are right, of n nodes. -/
def firstN (E : Nat → Ev) (n i : Nat) : List Ev := flt ((List.range i).map E) n
theorem firstN_succ (E : Nat → Ev) (n i : Nat) : firstN E n (i + 1) = addL (firstN E n i) (E i) n := by
  unfold firstN
  rw [List.range_succ, List.map_append, List.map_singleton, flt_snoc]
theorem firstN_le (E : Nat → Ev) (n i : Nat) : (firstN E n i).length ≤ i := by
  have := flt_le ((List.range i).map E) n
  simp at this
  exact this
theorem firstN_right (E : Nat → Ev) (n i : Nat) : ∀ x ∈ firstN E n i, x.right n = true := flt_right _ n
theorem upto_le (l : List Ev) (n : Nat) : upto l n ≤ l.length := List.countP_le_length
theorem upto_node (l : List Ev) (k : Nat) : upto l (k + 1) = upto l k + cc l k 0 + cc l k 1 := by
  have := cc_node l k
  rw [upto_succ]; omega
theorem upto_own (l : List Ev) (k : Nat) : upto l (k + 1) = upto l k + cc l k 3 + cc l k 4 := by
  have := cc_own l k
  rw [upto_succ]; omega
theorem idx_evD (b off len cap i : Nat) (hi : i < len) (w : World) : (Instr.indexAt 34 (.slice (some ⟨b, off, none⟩) len cap) (.int .i64 (i : Int))).run Try.prog w = .ok (.pointer (some ⟨b, off + i * 4, none⟩)) w := by
  simp [go_sem, hi]
set_option maxRecDepth 100000 in
set_option maxHeartbeats 4000000 in
theorem statsCounts_walk (w0 : World) (nd : Int) (_h1 : (Lit.int .i64 nd).wf = true) (a : Option Addr) (len cap : Nat) (E : Nat → Ev) (hs : InEv w0 a len E) :
    Calls Try.prog 3 #[.int .i64 nd, .slice a len cap] w0 fun e w' => e = .returned (.bool true) ∧ Below w0.heap.size w0 w' := by
  have hsm := hs.mx
  go_enter Try.func3, Try.ntmps3
  go_wp2_with fail
  refine (lognone_any w0).mono ?_; rintro e w1 ⟨rfl, rfl⟩
  go_wp2_with fail
  refine (node_nil 0 w0).mono ?_; rintro e w1 ⟨rfl, hB⟩
  rw [show cntV [] 0 = .agg #[.int .i64 0, .int .i64 0, .int .i64 0, .int .i64 0, .int .i64 0, .int .i64 0] from rfl]
  go_wp2_with fail
  have hB := bel_alloc hB (.cells #[.int .i64 0, .int .i64 0, .int .i64 0, .int .i64 0, .int .i64 0, .int .i64 0] 24)
  refine (counts_any _).mono ?_; rintro e w2 ⟨rfl, hc⟩
  have hB := bel_trans hB hc
  clear hc
  go_wp2_with fail
  refine (lognone_any w2).mono ?_; rintro e w3 ⟨rfl, rfl⟩
  go_wp2_with fail
  refine (add_nil ⟨0, 0, 0, false⟩ w2).mono ?_; rintro e w3 ⟨rfl, hc⟩
  have hB := bel_trans hB hc
  clear hc
  go_wp2_with fail
  refine (lognone_any w3).mono ?_; rintro e w4 ⟨rfl, rfl⟩
  go_wp2_with fail
  refine (events_nil w3).mono ?_; rintro e w4 ⟨rfl, rfl⟩
  by_cases hok : 1 ≤ nd ∧ nd ≤ 8
  · obtain ⟨nd, rfl⟩ := Int.eq_ofNat_of_zero_le (show 0 ≤ nd by omega)
    have hn1 : 1 ≤ nd := by omega
    have hn8 : nd ≤ 8 := by omega
    clear hok
    go_wp2_with fail
    refine (log_new nd w3 hn1 hn8).mono ?_; rintro e w4 ⟨g, bc, rfl, hG, hc⟩
    obtain ⟨bs, hbs⟩ : ∃ bs, bs = w3.heap.size := ⟨_, rfl⟩
    rw [← hbs] at hG
    have hb0 : w0.heap.size ≤ bs := by rw [hbs]; exact hB.size
    have hb4 : bs ≤ w4.heap.size := by rw [hbs]; exact hc.size
    have hB := bel_trans hB hc
    clear hc hbs
    have hown : w4.ownsRow bs 38 4 (.slice none 0 0) 0 (evCells []) := ⟨rfl, Or.inl ⟨rfl, rfl⟩⟩
    go_wp2_with fail
    go_loopw [9, 10] (fun va vi wx => ∃ (i : Nat) (A B : Option Addr) (c d : Nat), i ≤ len ∧ i ≤ 60 ∧ vi = .int .i64 i ∧ va = .slice B (firstN E nd i).length d ∧ LogAt wx bs g bc nd A c (firstN E nd i) ∧ wx.ownsRow bs 38 4 (.slice B (firstN E nd i).length d) (firstN E nd i).length (evCells (firstN E nd i)) ∧ Below w0.heap.size w0 wx ∧ bs ≤ wx.heap.size) (fun _ vi _ => 60 - (intOf vi).toNat)
    case atStart => exact ⟨0, none, none, 0, 0, by omega, by omega, rfl, rfl, hG, hown, hB, hb4⟩
    case round =>
      clear hG hB hb4 hown
      obtain ⟨i, A, B, c, d, hi, hi60, rfl, rfl, hG, hown, hB, hbw⟩ := hrel
      have hfl := firstN_le E nd i
      rcases (by omega : (i < len ∧ i < 60) ∨ (i < len ∧ 60 ≤ i) ∨ len ≤ i) with ⟨hil, hi6⟩ | ⟨hil, hi6⟩ | hil
      · obtain ⟨bx, ox, rfl, hbx, hcell⟩ := hs.at_ (by omega)
        obtain ⟨y0, y1, y2, y3⟩ := hcell i hil
        replace y0 := (hB.cell (p := ⟨bx, ox + i * 4, none⟩) hbx).trans y0
        replace y1 := (hB.cell (p := ⟨bx, ox + i * 4 + 1, none⟩) hbx).trans y1
        replace y2 := (hB.cell (p := ⟨bx, ox + i * 4 + 2, none⟩) hbx).trans y2
        replace y3 := (hB.cell (p := ⟨bx, ox + i * 4 + 3, none⟩) hbx).trans y3
        have hia := fun w => idx_ev (b := bx) (off := ox) (cap := cap) rfl hil w
        have hE := firstN_succ E nd i
        have HE := Lib.hid hE; clear hE hcell
        generalize firstN E nd i = l at *
        generalize E i = y at *
        obtain ⟨yn, ys, yo, yi⟩ := y
        simp only at y0 y1 y2 y3
        have hrow := hG.row_lt
        have hgl := hG.st.lt
        have hcl := hG.ctlt
        have hgb := hG.gb
        have hcb := hG.cb
        obtain ⟨cs0, hct0, _⟩ := hG.ct
        have hs1 : ∀ q ∈ rowOf B, q ≠ g := fun q hq e => own_ne4 hown hG.st (by decide) (by rw [← e]; exact mem_rowOf.2 hq)
        have hs2 : ∀ q ∈ rowOf B, q ≠ bc := fun q hq e => own_ne4 hown hct0 (by decide) (by rw [← e]; exact mem_rowOf.2 hq)
        have hs3 : ∀ q ∈ rowOf B, q ∉ rowOf A := fun q hq hq2 => by
          obtain ⟨c1, e1⟩ := own_blk4 hown q (mem_rowOf.2 hq)
          obtain ⟨c2, e2⟩ := own_blk4 hG.ev q (mem_rowOf.2 hq2)
          rw [e1] at e2
          injection e2 with e2
          injection e2 with _ e2
          exact absurd e2 (by decide)
        clear hct0
        have hBr : ∀ q ∈ rowOf B, q < wr.heap.size := fun q hq => (hown.lt q (mem_rowOf.2 hq)).2
        go_wp2_with fail
        have hx := Blk.new wr 38 [.int .i64 yn, .int .i64 ys, .int .i64 yo, .bool yi]
        have hG1 := hG.below (bel_alloc (Below.refl _ _) (.cells #[.int .i64 yn, .int .i64 ys, .int .i64 yo, .bool yi] 38))
        have hown1 := hown.alloc (.cells #[.int .i64 yn, .int .i64 ys, .int .i64 yo, .bool yi] 38)
        have hB1 := bel_alloc hB (.cells #[.int .i64 yn, .int .i64 ys, .int .i64 yo, .bool yi] 38)
        refine (add_any bs g bc nd c A l ⟨yn, ys, yo, yi⟩ _ hG1 (by simp; omega) (by omega)).mono ?_; rintro e w5 ⟨rfl, A', c', hA⟩
        have hown5 := own_ch4 hown1 hA.ch (fun q hq => by
          have hq := mem_rowOf.1 hq
          simp only [List.mem_cons, not_or]
          exact ⟨hs1 q hq, hs2 q hq, hs3 q hq⟩)
        have hx5 := hx.ch hA.ch (by
          simp only [List.mem_cons, not_or]
          exact ⟨by omega, by omega, fun hm => by have := (hrow _ hm).1; omega⟩)
        have hB5 := hA.bel (fun z hz => (hrow z hz).2) hb0 hB1
        have hG5 := hA.log
        have hdj : ∀ q ∈ rowOf A', q ∉ rowOf B := fun q hq hq2 => by
          rcases hA.row q hq with h | h
          · exact hs3 q hq2 h
          · have := hBr q hq2
            simp at h; omega
        have hs5 : bs ≤ w5.heap.size := by have := hA.ch.size; simp at this; omega
        clear hA hG1 hown1 hB1 hx hG hown hB y0 y1 y2 y3
        have p0 := hx5.at_ (i := 0) rfl; have p1 := hx5.at_ (i := 1) rfl; have p2 := hx5.at_ (i := 2) rfl; have p3 := hx5.at_ (i := 3) rfl
        have HRR := Lib.hid (right_any ⟨yn, ys, yo, yi⟩ nd w5)
        by_cases hr : Ev.right ⟨yn, ys, yo, yi⟩ nd = true
        · have e1 : addE ⟨yn, ys, yo, yi⟩ nd = 0 := by unfold addE; rw [if_pos hr]
          have e2 : addL l ⟨yn, ys, yo, yi⟩ nd = l ++ [⟨yn, ys, yo, yi⟩] := by unfold addL; rw [if_pos hr]
          rw [e2] at hG5 HE
          rw [e1]
          have HR := Lib.hid hr
          clear hr e1 e2
          go_wp2_with fail
          refine HRR.out.mono ?_; rintro e w6 ⟨rfl, hc⟩
          rw [HR.out]
          have hG6 := hG5.below hc
          have hown6 := own_ch4 hown5 (Ch.below hc []) (fun q hq => by simp)
          have hx6 := hx5.below hc
          have hB6 := bel_trans hB5 hc
          have hs6 := hc.size
          clear hc hG5 hown5 hx5 hB5 p0 p1 p2 p3 HRR
          have p0 := hx6.at_ (i := 0) rfl; have p1 := hx6.at_ (i := 1) rfl; have p2 := hx6.at_ (i := 2) rfl; have p3 := hx6.at_ (i := 3) rfl
          have hnews := Blk.new w6 38 [.int .i64 yn, .int .i64 ys, .int .i64 yo, .bool yi]
          have HNW := Lib.hid hnews; clear hnews
          go_wp2_with (at_builtin; refine wpList_pushes4 _ rfl (.tmp 103) (.tmp 105) 22 rfl bs 38 _ 4 32 Try.underlying22 info_ref rfl (by omega) B l.length d (evCells l) rfl (hown6.alloc _) w6.heap.size 0 1 1 [.int .i64 yn, .int .i64 ys, .int .i64 yo, .bool yi] rfl rfl (fun j u hj => by rw [Nat.zero_add]; exact HNW.out.at_ hj) (fun u hu => by simp at hu; rcases hu with rfl | rfl | rfl | rfl <;> rfl) (by omega) (by omega) (by omega) (by simp; omega) ?_)
          intro gg cp w7 hown7 hgr7 hor
          have hc7 : Ch (rowOf B) w6 w7 := by
            rw [← own_rowOf B l.length d]
            exact ((Ch.refl _ w6).alloc (.cells #[.int .i64 yn, .int .i64 ys, .int .i64 yo, .bool yi] 38)).grown hgr7 (fun q hq => Or.inl (by rw [hq]; simp))
          have hG7 := hG6.chS hc7 (fun hm => hs1 _ hm rfl) (fun hm => hs2 _ hm rfl) hdj
          have hB7 := bel_ch hB6 hc7 (fun q hq => Nat.le_trans hb0 (hown6.lt q (mem_rowOf.2 hq)).1)
          have hs7 := hc7.size
          have hl2 : (l ++ [(⟨yn, ys, yo, yi⟩ : Ev)]).length = l.length + 1 := by simp
          have hown7 : w7.ownsRow bs 38 4 (.slice (some ⟨gg, 0, none⟩) (l ++ [(⟨yn, ys, yo, yi⟩ : Ev)]).length cp) (l ++ [(⟨yn, ys, yo, yi⟩ : Ev)]).length (evCells (l ++ [(⟨yn, ys, yo, yi⟩ : Ev)])) := by rw [hl2, evCells_snoc]; exact hown7
          have HL2 := Lib.hid hl2
          clear hl2 hgr7 hor hc7 hG6 hown6 hx6 hB6 p0 p1 p2 p3 HNW
          rw [← HE.out] at hG7 hown7 HL2
          go_wp2
          go_roundw
          case rel => exact ⟨i + 1, A', some ⟨gg, 0, none⟩, c', cp, by omega, by omega, by go_num, by rw [HL2.out], hG7, hown7, hB7, by omega⟩
          case measure => simp [intOf]; omega
        · have hr : Ev.right ⟨yn, ys, yo, yi⟩ nd = false := by simpa using hr
          have e1 : addE ⟨yn, ys, yo, yi⟩ nd = 10 := by unfold addE; rw [hr]; rfl
          have e2 : addL l ⟨yn, ys, yo, yi⟩ nd = l := by unfold addL; rw [hr]; rfl
          rw [e2] at hG5 HE
          rw [e1]
          have HR := Lib.hid hr
          clear hr e1 e2
          go_wp2_with fail
          refine HRR.out.mono ?_; rintro e w6 ⟨rfl, hc⟩
          rw [HR.out]
          have hG6 := hG5.below hc
          have hown6 := own_ch4 hown5 (Ch.below hc []) (fun q hq => by simp)
          have hB6 := bel_trans hB5 hc
          have hs6 := hc.size
          clear hc hG5 hown5 hx5 hB5 p0 p1 p2 p3 HRR
          rw [← HE.out] at hG6 hown6
          go_wp2
          go_roundw
          case rel => exact ⟨i + 1, A', B, c', d, by omega, by omega, by go_num, by rw [HE.out], hG6, hown6, hB6, by omega⟩
          case measure => simp [intOf]; omega
      all_goals
        have hle := hfl
        have hri := firstN_right E nd i
        have HRI := Lib.hid hri; clear hri
        generalize firstN E nd i = l at *
        have hl60 : l.length ≤ 60 := by omega
        have hup := upto_le l
        go_wp2_with fail
        go_loopw [13, 14, 15] (fun vs vo vk wx => ∃ k : Nat, k ≤ nd ∧ vk = .int .i64 k ∧ vs = .int .i64 (upto l k) ∧ vo = .int .i64 (upto l k) ∧ LogAt wx bs g bc nd A c l ∧ wx.ownsRow bs 38 4 (.slice B l.length d) l.length (evCells l) ∧ Below w0.heap.size w0 wx ∧ bs ≤ wx.heap.size) (fun _ _ vk _ => nd - (intOf vk).toNat)
        case atStart => exact ⟨0, by omega, rfl, by rw [upto_zero]; rfl, by rw [upto_zero]; rfl, hG, hown, hB, hbw⟩
        case round =>
          clear hG hown hB hbw
          obtain ⟨k, hk, rfl, rfl, rfl, hG, hown, hB, hbw⟩ := hrel
          by_cases hkn : k < nd
          · go_wp2_with fail
            refine (node_yes bs g bc nd c A l k _ hG hkn).mono ?_; rintro e w5 ⟨rfl, hc⟩
            have hG5 := hG.below hc
            have hown5 := own_ch4 hown (Ch.below hc []) (fun q hq => by simp)
            have hB5 := bel_trans hB hc
            have hs5 := hc.size
            clear hc hG hown hB
            have hrf := fun w' (hb : Below w5.heap.size w5 w') => refCounts B l.length d l (k : Int) w' ((EvL.of_own hown5).below hb) (by omega)
            have hun := upto_node l k
            have huo := upto_own l k
            have hu1 := hup (k + 1)
            have hu0 := hup k
            unfold cntV at hrf ⊢
            generalize cc l k 0 = n0 at *
            generalize cc l k 1 = n1 at *
            generalize cc l k 2 = n2 at *
            generalize cc l k 3 = n3 at *
            generalize cc l k 4 = n4 at *
            generalize cc l k 5 = n5 at *
            have HUN := Lib.hid hun; have HUO := Lib.hid huo
            have v1 : IntKind.i64.wrap ((upto l k : Int) + (n0 : Int)) = (upto l k : Int) + (n0 : Int) := i64_sm (by omega) (by omega)
            have v2 : IntKind.i64.wrap ((upto l k : Int) + (n0 : Int) + (n1 : Int)) = (upto l k : Int) + (n0 : Int) + (n1 : Int) := i64_sm (by omega) (by omega)
            have v3 : IntKind.i64.wrap ((upto l k : Int) + (n3 : Int)) = (upto l k : Int) + (n3 : Int) := i64_sm (by omega) (by omega)
            have v4 : IntKind.i64.wrap ((upto l k : Int) + (n3 : Int) + (n4 : Int)) = (upto l k : Int) + (n3 : Int) + (n4 : Int) := i64_sm (by omega) (by omega)
            clear hun huo hu1 hu0
            have HRF := Lib.hid (fun w' (hb : Below (w5.alloc (.cells #[.int .i64 (n0 : Int), .int .i64 (n1 : Int), .int .i64 (n2 : Int), .int .i64 (n3 : Int), .int .i64 (n4 : Int), .int .i64 (n5 : Int)] 24)).heap.size (w5.alloc (.cells #[.int .i64 (n0 : Int), .int .i64 (n1 : Int), .int .i64 (n2 : Int), .int .i64 (n3 : Int), .int .i64 (n4 : Int), .int .i64 (n5 : Int)] 24)) w') => hrf w' (bel_trans (bel_alloc (Below.refl _ _) _) hb))
            clear hrf
            go_wp2_with fail
            have P := Blk.new w5 24 [.int .i64 (n0 : Int), .int .i64 (n1 : Int), .int .i64 (n2 : Int), .int .i64 (n3 : Int), .int .i64 (n4 : Int), .int .i64 (n5 : Int)]
            have hG6 := hG5.below (bel_alloc (Below.refl _ _) (.cells #[.int .i64 (n0 : Int), .int .i64 (n1 : Int), .int .i64 (n2 : Int), .int .i64 (n3 : Int), .int .i64 (n4 : Int), .int .i64 (n5 : Int)] 24))
            have hown6 := own_ch4 hown5 ((Ch.refl [] w5).alloc (.cells #[.int .i64 (n0 : Int), .int .i64 (n1 : Int), .int .i64 (n2 : Int), .int .i64 (n3 : Int), .int .i64 (n4 : Int), .int .i64 (n5 : Int)] 24)) (fun q hq => by simp)
            have hB6 := bel_alloc hB5 (.cells #[.int .i64 (n0 : Int), .int .i64 (n1 : Int), .int .i64 (n2 : Int), .int .i64 (n3 : Int), .int .i64 (n4 : Int), .int .i64 (n5 : Int)] 24)
            have hs6 : w5.heap.size ≤ (w5.alloc (.cells #[.int .i64 (n0 : Int), .int .i64 (n1 : Int), .int .i64 (n2 : Int), .int .i64 (n3 : Int), .int .i64 (n4 : Int), .int .i64 (n5 : Int)] 24)).heap.size := by simp
            clear hG5 hown5 hB5
            obtain ⟨pp, hpp⟩ : ∃ pp, pp = w5.heap.size := ⟨_, rfl⟩
            rw [← hpp] at P ⊢
            rw [← hpp] at hs6
            have hppB : bs ≤ pp := by omega
            clear hpp
            generalize w5.alloc (.cells #[.int .i64 (n0 : Int), .int .i64 (n1 : Int), .int .i64 (n2 : Int), .int .i64 (n3 : Int), .int .i64 (n4 : Int), .int .i64 (n5 : Int)] 24) = w6 at *
            have p0 := after_cell (P.at_ (i := 0) rfl); have p1 := after_cell (P.at_ (i := 1) rfl); have p2 := after_cell (P.at_ (i := 2) rfl); have p3 := after_cell (P.at_ (i := 3) rfl); have p4 := after_cell (P.at_ (i := 4) rfl); have p5 := after_cell (P.at_ (i := 5) rfl)
            refine wp_region_after (by kernel_rfl) (by kernel_rfl) ?_
            repeat (first | go_big_quiet_step ((go_at_call 15; exact after_call2 HRF.out _)) | quiet_step ((go_at_call 15; exact after_call2 HRF.out _)))
            refine wpQuiet_nil ?_; intro _ hw'; obtain ⟨xq, hw''⟩ := hw'; subst hw''
            have hG7 := hG6.below xq.2
            have hown7 := own_ch4 hown6 (Ch.below xq.2 []) (fun q hq => by simp)
            have hB7 := bel_after hB6 xq
            have P7 := P.below xq.2
            have hs7 := xq.2.size
            have q0 := P7.at_ (i := 0) rfl; have q1 := P7.at_ (i := 1) rfl; have q3 := P7.at_ (i := 3) rfl; have q4 := P7.at_ (i := 4) rfl
            clear p0 p1 p2 p3 p4 p5 hG6 hown6 hB6 P HRF
            generalize xq.1 = w7 at *
            go_wp2_with fail
            refine wp_region_quiet_lit (by kernel_rfl) (by kernel_rfl) ?_
            repeat (first | go_big_quiet_step (fail) | quiet_step (fail))
            refine wpQuiet_nil ?_; intro _ hw'; obtain ⟨nq, hw''⟩ := hw'; subst hw''
            go_wp2_with fail
            go_roundw
            case rel => exact ⟨k + 1, by omega, by go_num, by rw [HUN.out]; go_num, by rw [HUO.out]; go_num, hG7.dn _, own_ch4 hown7 ((Ch.refl [] w7).drewN _) (fun q hq => by simp), bel_drewN hB7 _, by show bs ≤ w7.heap.size; omega⟩
            case measure => simp [intOf]; omega
          · obtain rfl : k = nd := by omega
            have hua := upto_all l k HRI.out
            rw [hua]
            clear hua
            go_wp2_with fail
            refine (node_no bs g bc k c A l (k : Int) _ hG (by omega)).mono ?_; rintro e w5 ⟨rfl, hc⟩
            have hG5 := hG.below hc
            have hown5 := own_ch4 hown (Ch.below hc []) (fun q hq => by simp)
            have hB5 := bel_trans hB hc
            clear hc hG hown hB
            rw [show cntV [] 0 = .agg #[.int .i64 0, .int .i64 0, .int .i64 0, .int .i64 0, .int .i64 0, .int .i64 0] from rfl]
            have hG6 := hG5.below (bel_alloc (Below.refl _ _) (.cells #[.int .i64 0, .int .i64 0, .int .i64 0, .int .i64 0, .int .i64 0, .int .i64 0] 24))
            have hown6 := own_ch4 hown5 ((Ch.refl [] w5).alloc (.cells #[.int .i64 0, .int .i64 0, .int .i64 0, .int .i64 0, .int .i64 0, .int .i64 0] 24)) (fun q hq => by simp)
            have hB6 := bel_alloc hB5 (.cells #[.int .i64 0, .int .i64 0, .int .i64 0, .int .i64 0, .int .i64 0, .int .i64 0] 24)
            clear hG5 hown5 hB5
            go_wp2_with fail
            refine (events_any bs g bc k c A l _ hG6).mono ?_; rintro e w6 ⟨D, d2, rfl, hownD, hc⟩
            have hown7 := own_ch4 hown6 (Ch.below hc []) (fun q hq => by simp)
            have hB7 := bel_trans hB6 hc
            clear hc hG6 hown6 hB6
            go_wp2_with fail
            go_loopw [21] (fun vj wx => ∃ j : Nat, j ≤ l.length ∧ vj = .int .i64 j ∧ ∃ nn, wx = w6.drewN nn) (fun vj _ => l.length - (intOf vj).toNat)
            case atStart => exact ⟨0, by omega, rfl, 0, rfl⟩
            case round =>
              obtain ⟨j, hj, rfl, nn, rfl⟩ := hrel
              by_cases hjl : j < l.length
              · obtain ⟨bD, oD, rfl, _, cD⟩ := (EvL.of_own hownD).at_ (by omega)
                obtain ⟨bB, oB, rfl, _, cB⟩ := (EvL.of_own hown7).at_ (by omega)
                have hxj : l[j]? = some (l[j]'hjl) := List.getElem?_eq_getElem hjl
                obtain ⟨y0, y1, y2, y3⟩ := cD j _ hxj
                obtain ⟨z0, z1, z2, z3⟩ := cB j _ hxj
                clear cD cB hxj
                generalize l[j]'hjl = y at *
                obtain ⟨yn, ys, yo, yi⟩ := y
                simp only at y0 y1 y2 y3 z0 z1 z2 z3
                have hi1 := fun w => idx_ev4 bB oB l.length d j hjl w
                have hi2 := fun w => idx_evD bD oD l.length d2 j hjl w
                have j0 : (0 : Int) ≤ (j : Int) := by omega
                have j1 : (j : Int) < (l.length : Int) := by omega
                go_wp2_with fail
                refine wp_region_quiet_lit (by kernel_rfl) (by kernel_rfl) ?_
                repeat (first | go_big_quiet_step (fail) | quiet_step (fail))
                refine wpQuiet_nil ?_; intro _ hw'; obtain ⟨nq, hw''⟩ := hw'; subst hw''
                go_wp2_with fail
                go_roundw
                case rel => exact ⟨j + 1, by omega, by go_num, _, rfl⟩
                case measure => simp [intOf]; omega
              · obtain rfl : j = l.length := by omega
                go_wp2_with fail
                go_ret
                exact ⟨rfl, bel_drewN hB7 _⟩
  · rcases (by omega : nd < 1 ∨ (1 ≤ nd ∧ 8 < nd)) with h | ⟨h, h2⟩
    all_goals
      clear hok
      go_wp2_with fail
      refine (log_new_no nd w3 (by omega)).mono ?_; rintro e w4 ⟨rfl, rfl⟩
      go_wp2_with fail
      go_ret
      exact ⟨rfl, hB⟩
end Go.Proofs.Ytinijpjbbbbhjaa
