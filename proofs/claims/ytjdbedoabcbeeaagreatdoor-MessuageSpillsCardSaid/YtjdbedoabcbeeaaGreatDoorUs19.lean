/- Parts of the proof: Stats2. -/
import Derived.Test.YtjdbedoabcbeeaaGreatDoorUs18
import Derived.Deep.AppendLies
import Derived.Deep.RegionLaw
import Derived.LaidEqlPtr
/- Package stats (layer 16): Add. -/
namespace Go.Proofs.YtjdbedoabcbeeaaGreatDoor
open Go.RowKit
set_option linter.unusedVariables false
set_option linter.unusedSimpArgs false
attribute [local go_sem] World.cell?_alloc_lt

theorem wp_world {P : Program} {c : Code} {Q : Exit → Act → World → Prop} {a : Act} {w : World} (h : ∀ w', Hid (w' = w) → c.wp P Q a w') : c.wp P Q a w := h w (Lib.hid rfl)
theorem LogAt.ctlt {w : World} {base g bc nodes c : Nat} {A : Option Addr} {evs : List Ev} (h : LogAt w base g bc nodes A c evs) : bc < w.heap.size := by
  obtain ⟨cs, hb, _⟩ := h.ct
  exact hb.lt
/-- The counts' cells behind one event more. -/
def CtAt (w : World) (bc nodes : Nat) (evs : List Ev) : Prop := ∃ cs : List Value, Blk w bc 44 cs ∧ cs.length = nodes * 6 ∧ ∀ k j, k < nodes → j < 6 → cs[k * 6 + j]? = some (.int .i64 (cc evs k j : Nat))
/-- One count more. -/
def bmp (F : Nat → Nat → Nat) (k0 j0 : Nat) (k j : Nat) : Nat := F k j + if k = k0 ∧ j = j0 then 1 else 0
def CtF (w : World) (bc nodes : Nat) (F : Nat → Nat → Nat) : Prop := ∃ cs : List Value, Blk w bc 44 cs ∧ cs.length = nodes * 6 ∧ ∀ k j, k < nodes → j < 6 → cs[k * 6 + j]? = some (.int .i64 (F k j : Nat))
theorem CtF.bump {w : World} {bc nodes : Nat} {F : Nat → Nat → Nat} (h : CtF w bc nodes F) {k0 j0 : Nat} (hk : k0 < nodes) (hj : j0 < 6) {v : Int} (hv : v = (F k0 j0 : Int) + 1) : CtF (w.setCell ⟨bc, k0 * 6 + j0, none⟩ (.int .i64 v)) bc nodes (bmp F k0 j0) := by
  obtain ⟨cs, hb, hl, hr⟩ := h
  refine ⟨_, hb.set_ _ _, by rw [List.length_set]; exact hl, fun k j h1 h2 => ?_⟩
  unfold bmp
  by_cases e : k = k0 ∧ j = j0
  · obtain ⟨rfl, rfl⟩ := e
    rw [List.getElem?_set_self (by omega), if_pos ⟨rfl, rfl⟩, hv]
    rfl
  · rw [List.getElem?_set_ne (by omega), if_neg e, hr k j h1 h2]
    rfl
theorem set_get {cs : List Value} {i j : Nat} {v : Value} (hi : i < cs.length) : (cs.set i v)[j]? = if i = j then some v else cs[j]? := by
  by_cases e : i = j
  · subst e; rw [List.getElem?_set_self hi, if_pos rfl]
  · rw [List.getElem?_set_ne e, if_neg e]
theorem pos_ne {a k j m : Nat} (hj : j < 6) (hm : m < 6) (h : ¬ (a = k ∧ m = j)) : ¬ a * 6 + m = k * 6 + j := by omega
theorem grown_of {w w' : World} {r : Option Nat} (h : w.drew.grownBy w' r) : w.grownBy w' r := ⟨h.os, h.tape, h.output, h.size, h.block⟩
/-- What Add leaves, apart from what it answers. -/
structure Added (w w' : World) (base g bc nodes : Nat) (A : Option Addr) (c : Nat) (evs : List Ev) (x : Ev) (gg cap : Nat) : Prop where
  log : LogAt w' base g bc nodes (some ⟨gg, 0, none⟩) cap (evs ++ [x])
  ch : Ch (g :: bc :: (Value.slice A evs.length c).ownBlock.toList) w w'
  row : (Value.slice A evs.length c).ownBlock = some gg ∨ w.heap.size ≤ gg
theorem add_end {w w2 w4 : World} {base g bc nodes c gg cap : Nat} {A : Option Addr} {evs : List Ev} {x : Ev} {o : Obj} (hG : LogAt w base g bc nodes A c evs) (hct : CtAt w2 bc nodes (evs ++ [x])) (hst : Blk w2 g 98 [.slice A evs.length c, .slice (some ⟨bc, 0, none⟩) nodes nodes])
    (hch : Ch [bc] w w2) (hgr : (w2.alloc o).grownBy w4 (Value.slice A evs.length c).ownBlock) (hown : w4.ownsRow base 227 4 (.slice (some ⟨gg, 0, none⟩) (evs.length + 1) cap) (evs.length + 1) (evCells evs ++ x.cells))
    (hat : (Value.slice A evs.length c).ownBlock = some gg ∨ gg = w2.heap.size + 1) (hm : evs.length < 1000) :
    Added w (w4.setCell ⟨g, 0, none⟩ (.slice (some ⟨gg, 0, none⟩) (evs.length + 1) cap)) base g bc nodes A c evs x gg cap := by
  obtain ⟨cs, hb, hl, hr⟩ := hct
  have ng : (Value.slice A evs.length c).ownBlock ≠ some g := own_ne4 hG.ev hG.st (by decide)
  obtain ⟨cs0, hb0, _⟩ := hG.ct
  have nb : (Value.slice A evs.length c).ownBlock ≠ some bc := own_ne4 hG.ev hb0 (by decide)
  have hgb : g ≠ bc := hG.st.ne_ hb0 (by decide)
  have hst4 := (hst.alloc o).grown hgr (fun h => ng h.symm)
  have hb4 := (hb.alloc o).grown hgr (fun h => nb h.symm)
  have hgg : gg ≠ g := by
    rintro rfl
    exact own_ne4 hown hst4 (by decide) rfl
  have hch4 : Ch (g :: bc :: (Value.slice A evs.length c).ownBlock.toList) w w4 :=
    ((hch.mono (fun k hk => by simp at hk; simp [hk])).alloc o).grown hgr (fun k hk => Or.inl (by simp [hk]))
  refine ⟨⟨?_, ⟨cs, hb4.far (p := ⟨g, 0, none⟩) (fun h => hgb h.symm) _, hl, hr⟩, ?_, hG.n8, by simp; omega, hG.gb, hG.cb⟩, hch4.set (by simp) _, ?_⟩
  · have := hst4.set_ 0 (.slice (some ⟨gg, 0, none⟩) (evs.length + 1) cap)
    simpa using this
  · rw [evCells_snoc, List.length_append, List.length_singleton]
    exact own_ch4 hown ((Ch.refl [g] w4).set (p := ⟨g, 0, none⟩) (by simp) _) (fun q hq => by
      have : gg = q := by simpa [Value.ownBlock] using hq
      subst this
      simp [hgg])
  · rcases hat with h | h
    · exact Or.inl h
    · exact Or.inr (by have := hch.size; omega)
set_option maxRecDepth 100000 in
set_option maxHeartbeats 1000000 in
theorem add_1 (base g bc nodes c : Nat) (A : Option Addr) (evs : List Ev) (a : Nat)  (w : World) (hG : LogAt w base g bc nodes A c evs) (ha : a < nodes) (hbase : base ≤ w.heap.size) (hm : evs.length < 1000) :
    Calls Tryz.prog 118 #[.pointer (some ⟨g, 0, none⟩), .agg #[.int .i64 (a : Int), .int .i64 (a : Int), .int .i64 (a : Int), .bool true]] w fun e w' => ∃ gg cap, e = .returned (.int .i64 0) ∧ Added w w' base g bc nodes A c evs ⟨(a : Int), (a : Int), (a : Int), true⟩ gg cap := by
  have k0 := hG.ev0
  have hgl := hG.st.lt
  have hbl := hG.ctlt
  obtain ⟨ma0, fa0⟩ := hG.at_ a 0 ha (by omega)
  have ba0 := cc_le evs a 0
  have qa0 : (cc evs a 0 : Nat) ≤ evs.length := ba0
  rw [Nat.add_zero] at ma0 fa0
  obtain ⟨ma5, fa5⟩ := hG.at_ a 5 ha (by omega)
  have ba5 := cc_le evs a 5
  have qa5 : (cc evs a 5 : Nat) ≤ evs.length := ba5
  obtain ⟨ma3, fa3⟩ := hG.at_ a 3 ha (by omega)
  have ba3 := cc_le evs a 3
  have qa3 : (cc evs a 3 : Nat) ≤ evs.length := ba3
  have hct0 : CtF w bc nodes (fun k j => cc evs (k : Nat) j) := hG.ct
  have hcs : ∀ k j : Nat, j < 6 → (bmp (bmp (bmp (fun k j => cc evs (k : Nat) j) a 0) a 5) a 3) k j = cc (evs ++ [⟨(a : Int), (a : Int), (a : Int), true⟩]) (k : Nat) j := by
    intro k j hj
    rw [cc_snoc]
    simp only [bmp]
    by_cases e1 : k = a
    · subst e1
      rcases (by omega : j = 0 ∨ j = 1 ∨ j = 2 ∨ j = 3 ∨ j = 4 ∨ j = 5) with rfl | rfl | rfl | rfl | rfl | rfl
      all_goals simp [inc]
    · have e2 : ¬ (a : Int) = (k : Int) := by omega
      rcases (by omega : j = 0 ∨ j = 1 ∨ j = 2 ∨ j = 3 ∨ j = 4 ∨ j = 5) with rfl | rfl | rfl | rfl | rfl | rfl
      all_goals simp [inc, e1, e2]
  obtain ⟨cs0, hb0, _⟩ := hG.ct
  have HCS := Lib.hid hcs; clear hcs
  have HCT0 := Lib.hid hct0; clear hct0
  have hGa := hG.below (bel_alloc (Below.refl _ _) (.cells #[.int .i64 (a : Int), .int .i64 (a : Int), .int .i64 (a : Int), .bool true] 227))
  have pa := Lib.hid (nodeP_yes (bc := bc) ha)
  have hpe : ∀ w : World, (binOp .eql 93 (.pointer (some ⟨bc, a * 6, none⟩)) (.pointer (some ⟨bc, a * 6, none⟩))).run Tryz.prog w = .ok (.bool true) w := by
    obtain ⟨i0, hi, _⟩ := info_parts info_counts
    exact fun w => run_eql_ptr_same w _ Tryz.underlying93 hi
  generalize hna0 : cc evs a 0 = na0 at ma0 ba0 qa0
  have HNa0 := Lib.hid hna0; clear hna0
  generalize hna5 : cc evs a 5 = na5 at ma5 ba5 qa5
  have HNa5 := Lib.hid hna5; clear hna5
  generalize hna3 : cc evs a 3 = na3 at ma3 ba3 qa3
  have HNa3 := Lib.hid hna3; clear hna3
  obtain ⟨ie, he0, hez, he1, he2⟩ := info_parts info_event
  go_enter Tryz.func118, Tryz.ntmps118
  go_wp2_with fail
  refine wp_region_quiet_lit (by kernel_rfl) (by kernel_rfl) ?_
  repeat (first | go_big_quiet_step ((go_at_call 37; exact Calls.quiet_of_same ((snode_any base g bc nodes c A evs _ _ (hGa.dn _)).mono fun _ _ h => ⟨h.1, h.2.symm⟩))) | quiet_step ((go_at_call 37; exact Calls.quiet_of_same ((snode_any base g bc nodes c A evs _ _ (hGa.dn _)).mono fun _ _ h => ⟨h.1, h.2.symm⟩))))
  refine wpQuiet_nil ?_; intro _ hw'; obtain ⟨nq, hw''⟩ := hw'; subst hw''
  rw [pa.out]
  go_wp2_with fail
  refine (snode_any base g bc nodes c A evs _ _ (hGa.dn _)).mono ?_; rintro e w1 ⟨rfl, rfl⟩
  rw [pa.out]
  go_wp2_with fail
  refine wp_world ?_; intro w2 hw2
  have hgb : g ≠ bc := hG.st.ne_ hb0 (by decide)
  have hch : Ch [bc] w w2 := by rw [hw2.out]; exact (((((Ch.refl [bc] w).alloc (.cells #[.int .i64 (a : Int), .int .i64 (a : Int), .int .i64 (a : Int), .bool true] 227)).drewN nq).set (p := ⟨bc, a * 6 + 0, none⟩) (by simp) (.int .i64 ((na0 : Int) + 1))).set (p := ⟨bc, a * 6 + 5, none⟩) (by simp) (.int .i64 ((na5 : Int) + 1))).set (p := ⟨bc, a * 6 + 3, none⟩) (by simp) (.int .i64 ((na3 : Int) + 1))
  have hct : CtAt w2 bc nodes (evs ++ [⟨(a : Int), (a : Int), (a : Int), true⟩]) := by
    have h0 : CtF ((w.alloc (.cells #[.int .i64 (a : Int), .int .i64 (a : Int), .int .i64 (a : Int), .bool true] 227)).drewN nq) bc nodes (fun k j => cc evs (k : Nat) j) := by
      obtain ⟨cs, h, h1, h2⟩ := HCT0.out
      exact ⟨cs, (h.alloc _).drewN nq, h1, h2⟩
    have h1 := h0.bump (k0 := a) (j0 := 0) (v := (na0 : Int) + 1) ha (by omega) (by rw [← HNa0.out]; try simp [bmp])
    have h2 := h1.bump (k0 := a) (j0 := 5) (v := (na5 : Int) + 1) ha (by omega) (by rw [← HNa5.out]; try simp [bmp])
    have h3 := h2.bump (k0 := a) (j0 := 3) (v := (na3 : Int) + 1) ha (by omega) (by rw [← HNa3.out]; try simp [bmp])
    obtain ⟨cs, e1, e2, e3⟩ := h3
    exact ⟨cs, by rw [hw2.out]; exact e1, e2, fun k j hk hj => by rw [e3 k j hk hj, HCS.out k j hj]⟩
  have hbx : Blk w2 w.heap.size 227 [.int .i64 (a : Int), .int .i64 (a : Int), .int .i64 (a : Int), .bool true] := by rw [hw2.out]; exact (((((Blk.new w 227 [.int .i64 (a : Int), .int .i64 (a : Int), .int .i64 (a : Int), .bool true]).drewN nq).far (p := ⟨bc, a * 6 + 0, none⟩) (Nat.ne_of_gt hbl) (.int .i64 ((na0 : Int) + 1))).far (p := ⟨bc, a * 6 + 5, none⟩) (Nat.ne_of_gt hbl) (.int .i64 ((na5 : Int) + 1))).far (p := ⟨bc, a * 6 + 3, none⟩) (Nat.ne_of_gt hbl) (.int .i64 ((na3 : Int) + 1)))
  have hst : Blk w2 g 98 [.slice A evs.length c, .slice (some ⟨bc, 0, none⟩) nodes nodes] := by rw [hw2.out]; exact (((((hG.st.alloc (.cells #[.int .i64 (a : Int), .int .i64 (a : Int), .int .i64 (a : Int), .bool true] 227)).drewN nq).far (p := ⟨bc, a * 6 + 0, none⟩) hgb (.int .i64 ((na0 : Int) + 1))).far (p := ⟨bc, a * 6 + 5, none⟩) hgb (.int .i64 ((na5 : Int) + 1))).far (p := ⟨bc, a * 6 + 3, none⟩) hgb (.int .i64 ((na3 : Int) + 1)))
  have hsz : w2.heap.size = w.heap.size + 1 := by rw [hw2.out]; simp
  have hev := own_ch4 hG.ev hch (fun q hq => by
    have : q ≠ bc := fun e => own_ne4 hG.ev hb0 (by decide) (e ▸ hq)
    simpa using this)
  have nst : (Value.slice A evs.length c).ownBlock ≠ some g := own_ne4 hG.ev hG.st (by decide)
  have nbx : (Value.slice A evs.length c).ownBlock ≠ some w.heap.size := fun h => by have := (hG.ev.lt _ h).2; omega
  have k0 := hst.at_ (i := 0) rfl
  have k0f := hst.frozen 0
  have x0 := hbx.at_ (i := 0) rfl
  have x1 := hbx.at_ (i := 1) rfl
  have x2 := hbx.at_ (i := 2) rfl
  have x3 := hbx.at_ (i := 3) rfl
  have hgl2 := hst.lt; have hxl2 := hbx.lt
  have HEV := Lib.hid hev; have HST := Lib.hid hst; have HCT := Lib.hid hct; have HCH := Lib.hid hch; have HSZ := Lib.hid hsz; have HG := Lib.hid hG; have NST := Lib.hid nst; have NBX := Lib.hid nbx
  clear hev hst hct hch hbx hsz hw2 hGa hpe hb0 HCS HCT0 hG nst nbx hgb
  clear ma0 fa0 ma5 fa5 ma3 fa3
  go_region_law
    ((refine step_append_lies _ (by rfl) (.tmp 86) (.tmp 88) _ (by rfl) base 227 ie _ 4 32 Tryz.underlying95 he0 hez he1 he2 rfl (by omega) (.slice A evs.length c) evs.length (evCells evs) (by rfl) (by first | exact (HEV.out.alloc _) | exact (HEV.out.alloc _).drew)
        ⟨w2.heap.size, 0, none⟩ 1 1 [.int .i64 (a : Int), .int .i64 (a : Int), .int .i64 (a : Int), .bool true] (by rfl) (by rfl) (World.news_of_block (cs := #[.int .i64 (a : Int), .int .i64 (a : Int), .int .i64 (a : Int), .bool true]) (t := 227) (fr := (0, 0)) (heap_alloc_new w2 _)) (by simp [Value.oneCell'])
        (by omega) (by unfold maxLen; omega) (by omega) (by have := HSZ.out; simp; omega) (w2.heap.size + 1) (by simp) ?_; intro gg cap w4 hown4 hgrow hat hlt; have hgr4 := grown_of hgrow; have hf4 := ((HST.out.alloc _).grown hgr4 (fun h => NST.out h.symm)).frozen 0; have hc4 := ((HST.out.alloc _).grown hgr4 (fun h => NST.out h.symm)).at_ (i := 0) rfl))
  all_goals
    go_wp2
    go_ret
    exact ⟨gg, cap, rfl, add_end HG.out HCT.out HST.out HCH.out hgr4 hown4 hat hm⟩

set_option maxRecDepth 100000 in
set_option maxHeartbeats 1000000 in
theorem add_2 (base g bc nodes c : Nat) (A : Option Addr) (evs : List Ev) (a : Nat) (o : Nat) (w : World) (hG : LogAt w base g bc nodes A c evs) (ha : a < nodes) (ho : o < nodes) (hao : a ≠ o) (hbase : base ≤ w.heap.size) (hm : evs.length < 1000) :
    Calls Tryz.prog 118 #[.pointer (some ⟨g, 0, none⟩), .agg #[.int .i64 (a : Int), .int .i64 (a : Int), .int .i64 (o : Int), .bool true]] w fun e w' => ∃ gg cap, e = .returned (.int .i64 0) ∧ Added w w' base g bc nodes A c evs ⟨(a : Int), (a : Int), (o : Int), true⟩ gg cap := by
  have k0 := hG.ev0
  have hgl := hG.st.lt
  have hbl := hG.ctlt
  obtain ⟨ma0, fa0⟩ := hG.at_ a 0 ha (by omega)
  have ba0 := cc_le evs a 0
  have qa0 : (cc evs a 0 : Nat) ≤ evs.length := ba0
  rw [Nat.add_zero] at ma0 fa0
  obtain ⟨ma5, fa5⟩ := hG.at_ a 5 ha (by omega)
  have ba5 := cc_le evs a 5
  have qa5 : (cc evs a 5 : Nat) ≤ evs.length := ba5
  obtain ⟨ma4, fa4⟩ := hG.at_ a 4 ha (by omega)
  have ba4 := cc_le evs a 4
  have qa4 : (cc evs a 4 : Nat) ≤ evs.length := ba4
  have hct0 : CtF w bc nodes (fun k j => cc evs (k : Nat) j) := hG.ct
  have hcs : ∀ k j : Nat, j < 6 → (bmp (bmp (bmp (fun k j => cc evs (k : Nat) j) a 0) a 5) a 4) k j = cc (evs ++ [⟨(a : Int), (a : Int), (o : Int), true⟩]) (k : Nat) j := by
    intro k j hj
    rw [cc_snoc]
    simp only [bmp]
    have hao2 : ¬ (a : Int) = (o : Int) := by omega
    have hao3 : ¬ (o : Int) = (a : Int) := by omega
    by_cases e1 : k = a
    · subst e1
      rcases (by omega : j = 0 ∨ j = 1 ∨ j = 2 ∨ j = 3 ∨ j = 4 ∨ j = 5) with rfl | rfl | rfl | rfl | rfl | rfl
      all_goals simp [inc, hao, Ne.symm hao, hao2, hao3]
    · have e2 : ¬ (a : Int) = (k : Int) := by omega
      rcases (by omega : j = 0 ∨ j = 1 ∨ j = 2 ∨ j = 3 ∨ j = 4 ∨ j = 5) with rfl | rfl | rfl | rfl | rfl | rfl
      all_goals simp [inc, e1, e2]
  obtain ⟨cs0, hb0, _⟩ := hG.ct
  have HCS := Lib.hid hcs; clear hcs
  have HCT0 := Lib.hid hct0; clear hct0
  have hGa := hG.below (bel_alloc (Below.refl _ _) (.cells #[.int .i64 (a : Int), .int .i64 (a : Int), .int .i64 (o : Int), .bool true] 227))
  have pa := Lib.hid (nodeP_yes (bc := bc) ha)
  have po := Lib.hid (nodeP_yes (bc := bc) ho)
  have hoo : ((a : Int) == (o : Int)) = false := by rw [beq_eq_false_iff_ne]; omega
  have hpe : ∀ w : World, (binOp .eql 93 (.pointer (some ⟨bc, a * 6, none⟩)) (.pointer (some ⟨bc, a * 6, none⟩))).run Tryz.prog w = .ok (.bool true) w := by
    obtain ⟨i0, hi, _⟩ := info_parts info_counts
    exact fun w => run_eql_ptr_same w _ Tryz.underlying93 hi
  generalize hna0 : cc evs a 0 = na0 at ma0 ba0 qa0
  have HNa0 := Lib.hid hna0; clear hna0
  generalize hna5 : cc evs a 5 = na5 at ma5 ba5 qa5
  have HNa5 := Lib.hid hna5; clear hna5
  generalize hna4 : cc evs a 4 = na4 at ma4 ba4 qa4
  have HNa4 := Lib.hid hna4; clear hna4
  obtain ⟨ie, he0, hez, he1, he2⟩ := info_parts info_event
  go_enter Tryz.func118, Tryz.ntmps118
  go_wp2_with fail
  refine wp_region_quiet_lit (by kernel_rfl) (by kernel_rfl) ?_
  repeat (first | go_big_quiet_step ((go_at_call 37; exact Calls.quiet_of_same ((snode_any base g bc nodes c A evs _ _ (hGa.dn _)).mono fun _ _ h => ⟨h.1, h.2.symm⟩))) | quiet_step ((go_at_call 37; exact Calls.quiet_of_same ((snode_any base g bc nodes c A evs _ _ (hGa.dn _)).mono fun _ _ h => ⟨h.1, h.2.symm⟩))))
  refine wpQuiet_nil ?_; intro _ hw'; obtain ⟨nq, hw''⟩ := hw'; subst hw''
  rw [pa.out]
  go_wp2_with fail
  refine (snode_any base g bc nodes c A evs _ _ (hGa.dn _)).mono ?_; rintro e w1 ⟨rfl, rfl⟩
  rw [po.out]
  go_wp2_with fail
  refine wp_world ?_; intro w2 hw2
  have hgb : g ≠ bc := hG.st.ne_ hb0 (by decide)
  have hch : Ch [bc] w w2 := by rw [hw2.out]; exact (((((Ch.refl [bc] w).alloc (.cells #[.int .i64 (a : Int), .int .i64 (a : Int), .int .i64 (o : Int), .bool true] 227)).drewN nq).set (p := ⟨bc, a * 6 + 0, none⟩) (by simp) (.int .i64 ((na0 : Int) + 1))).set (p := ⟨bc, a * 6 + 5, none⟩) (by simp) (.int .i64 ((na5 : Int) + 1))).set (p := ⟨bc, a * 6 + 4, none⟩) (by simp) (.int .i64 ((na4 : Int) + 1))
  have hct : CtAt w2 bc nodes (evs ++ [⟨(a : Int), (a : Int), (o : Int), true⟩]) := by
    have h0 : CtF ((w.alloc (.cells #[.int .i64 (a : Int), .int .i64 (a : Int), .int .i64 (o : Int), .bool true] 227)).drewN nq) bc nodes (fun k j => cc evs (k : Nat) j) := by
      obtain ⟨cs, h, h1, h2⟩ := HCT0.out
      exact ⟨cs, (h.alloc _).drewN nq, h1, h2⟩
    have h1 := h0.bump (k0 := a) (j0 := 0) (v := (na0 : Int) + 1) ha (by omega) (by rw [← HNa0.out]; try simp [bmp])
    have h2 := h1.bump (k0 := a) (j0 := 5) (v := (na5 : Int) + 1) ha (by omega) (by rw [← HNa5.out]; try simp [bmp])
    have h3 := h2.bump (k0 := a) (j0 := 4) (v := (na4 : Int) + 1) ha (by omega) (by rw [← HNa4.out]; try simp [bmp])
    obtain ⟨cs, e1, e2, e3⟩ := h3
    exact ⟨cs, by rw [hw2.out]; exact e1, e2, fun k j hk hj => by rw [e3 k j hk hj, HCS.out k j hj]⟩
  have hbx : Blk w2 w.heap.size 227 [.int .i64 (a : Int), .int .i64 (a : Int), .int .i64 (o : Int), .bool true] := by rw [hw2.out]; exact (((((Blk.new w 227 [.int .i64 (a : Int), .int .i64 (a : Int), .int .i64 (o : Int), .bool true]).drewN nq).far (p := ⟨bc, a * 6 + 0, none⟩) (Nat.ne_of_gt hbl) (.int .i64 ((na0 : Int) + 1))).far (p := ⟨bc, a * 6 + 5, none⟩) (Nat.ne_of_gt hbl) (.int .i64 ((na5 : Int) + 1))).far (p := ⟨bc, a * 6 + 4, none⟩) (Nat.ne_of_gt hbl) (.int .i64 ((na4 : Int) + 1)))
  have hst : Blk w2 g 98 [.slice A evs.length c, .slice (some ⟨bc, 0, none⟩) nodes nodes] := by rw [hw2.out]; exact (((((hG.st.alloc (.cells #[.int .i64 (a : Int), .int .i64 (a : Int), .int .i64 (o : Int), .bool true] 227)).drewN nq).far (p := ⟨bc, a * 6 + 0, none⟩) hgb (.int .i64 ((na0 : Int) + 1))).far (p := ⟨bc, a * 6 + 5, none⟩) hgb (.int .i64 ((na5 : Int) + 1))).far (p := ⟨bc, a * 6 + 4, none⟩) hgb (.int .i64 ((na4 : Int) + 1)))
  have hsz : w2.heap.size = w.heap.size + 1 := by rw [hw2.out]; simp
  have hev := own_ch4 hG.ev hch (fun q hq => by
    have : q ≠ bc := fun e => own_ne4 hG.ev hb0 (by decide) (e ▸ hq)
    simpa using this)
  have nst : (Value.slice A evs.length c).ownBlock ≠ some g := own_ne4 hG.ev hG.st (by decide)
  have nbx : (Value.slice A evs.length c).ownBlock ≠ some w.heap.size := fun h => by have := (hG.ev.lt _ h).2; omega
  have k0 := hst.at_ (i := 0) rfl
  have k0f := hst.frozen 0
  have x0 := hbx.at_ (i := 0) rfl
  have x1 := hbx.at_ (i := 1) rfl
  have x2 := hbx.at_ (i := 2) rfl
  have x3 := hbx.at_ (i := 3) rfl
  have hgl2 := hst.lt; have hxl2 := hbx.lt
  have HEV := Lib.hid hev; have HST := Lib.hid hst; have HCT := Lib.hid hct; have HCH := Lib.hid hch; have HSZ := Lib.hid hsz; have HG := Lib.hid hG; have NST := Lib.hid nst; have NBX := Lib.hid nbx
  clear hev hst hct hch hbx hsz hw2 hGa hpe hb0 HCS HCT0 hG nst nbx hgb
  clear ma0 fa0 ma5 fa5 ma4 fa4
  go_region_law
    ((refine step_append_lies _ (by rfl) (.tmp 86) (.tmp 88) _ (by rfl) base 227 ie _ 4 32 Tryz.underlying95 he0 hez he1 he2 rfl (by omega) (.slice A evs.length c) evs.length (evCells evs) (by rfl) (by first | exact (HEV.out.alloc _) | exact (HEV.out.alloc _).drew)
        ⟨w2.heap.size, 0, none⟩ 1 1 [.int .i64 (a : Int), .int .i64 (a : Int), .int .i64 (o : Int), .bool true] (by rfl) (by rfl) (World.news_of_block (cs := #[.int .i64 (a : Int), .int .i64 (a : Int), .int .i64 (o : Int), .bool true]) (t := 227) (fr := (0, 0)) (heap_alloc_new w2 _)) (by simp [Value.oneCell'])
        (by omega) (by unfold maxLen; omega) (by omega) (by have := HSZ.out; simp; omega) (w2.heap.size + 1) (by simp) ?_; intro gg cap w4 hown4 hgrow hat hlt; have hgr4 := grown_of hgrow; have hf4 := ((HST.out.alloc _).grown hgr4 (fun h => NST.out h.symm)).frozen 0; have hc4 := ((HST.out.alloc _).grown hgr4 (fun h => NST.out h.symm)).at_ (i := 0) rfl))
  all_goals
    go_wp2
    go_ret
    exact ⟨gg, cap, rfl, add_end HG.out HCT.out HST.out HCH.out hgr4 hown4 hat hm⟩

set_option maxRecDepth 100000 in
set_option maxHeartbeats 1000000 in
theorem add_3 (base g bc nodes c : Nat) (A : Option Addr) (evs : List Ev) (a : Nat)  (w : World) (hG : LogAt w base g bc nodes A c evs) (ha : a < nodes) (hbase : base ≤ w.heap.size) (hm : evs.length < 1000) :
    Calls Tryz.prog 118 #[.pointer (some ⟨g, 0, none⟩), .agg #[.int .i64 (a : Int), .int .i64 (a : Int), .int .i64 (a : Int), .bool false]] w fun e w' => ∃ gg cap, e = .returned (.int .i64 0) ∧ Added w w' base g bc nodes A c evs ⟨(a : Int), (a : Int), (a : Int), false⟩ gg cap := by
  have k0 := hG.ev0
  have hgl := hG.st.lt
  have hbl := hG.ctlt
  obtain ⟨ma0, fa0⟩ := hG.at_ a 0 ha (by omega)
  have ba0 := cc_le evs a 0
  have qa0 : (cc evs a 0 : Nat) ≤ evs.length := ba0
  rw [Nat.add_zero] at ma0 fa0
  obtain ⟨ma3, fa3⟩ := hG.at_ a 3 ha (by omega)
  have ba3 := cc_le evs a 3
  have qa3 : (cc evs a 3 : Nat) ≤ evs.length := ba3
  have hct0 : CtF w bc nodes (fun k j => cc evs (k : Nat) j) := hG.ct
  have hcs : ∀ k j : Nat, j < 6 → (bmp (bmp (fun k j => cc evs (k : Nat) j) a 0) a 3) k j = cc (evs ++ [⟨(a : Int), (a : Int), (a : Int), false⟩]) (k : Nat) j := by
    intro k j hj
    rw [cc_snoc]
    simp only [bmp]
    by_cases e1 : k = a
    · subst e1
      rcases (by omega : j = 0 ∨ j = 1 ∨ j = 2 ∨ j = 3 ∨ j = 4 ∨ j = 5) with rfl | rfl | rfl | rfl | rfl | rfl
      all_goals simp [inc]
    · have e2 : ¬ (a : Int) = (k : Int) := by omega
      rcases (by omega : j = 0 ∨ j = 1 ∨ j = 2 ∨ j = 3 ∨ j = 4 ∨ j = 5) with rfl | rfl | rfl | rfl | rfl | rfl
      all_goals simp [inc, e1, e2]
  obtain ⟨cs0, hb0, _⟩ := hG.ct
  have HCS := Lib.hid hcs; clear hcs
  have HCT0 := Lib.hid hct0; clear hct0
  have hGa := hG.below (bel_alloc (Below.refl _ _) (.cells #[.int .i64 (a : Int), .int .i64 (a : Int), .int .i64 (a : Int), .bool false] 227))
  have pa := Lib.hid (nodeP_yes (bc := bc) ha)
  have hpe : ∀ w : World, (binOp .eql 93 (.pointer (some ⟨bc, a * 6, none⟩)) (.pointer (some ⟨bc, a * 6, none⟩))).run Tryz.prog w = .ok (.bool true) w := by
    obtain ⟨i0, hi, _⟩ := info_parts info_counts
    exact fun w => run_eql_ptr_same w _ Tryz.underlying93 hi
  generalize hna0 : cc evs a 0 = na0 at ma0 ba0 qa0
  have HNa0 := Lib.hid hna0; clear hna0
  generalize hna3 : cc evs a 3 = na3 at ma3 ba3 qa3
  have HNa3 := Lib.hid hna3; clear hna3
  obtain ⟨ie, he0, hez, he1, he2⟩ := info_parts info_event
  go_enter Tryz.func118, Tryz.ntmps118
  go_wp2_with fail
  refine wp_region_quiet_lit (by kernel_rfl) (by kernel_rfl) ?_
  repeat (first | go_big_quiet_step ((go_at_call 37; exact Calls.quiet_of_same ((snode_any base g bc nodes c A evs _ _ (hGa.dn _)).mono fun _ _ h => ⟨h.1, h.2.symm⟩))) | quiet_step ((go_at_call 37; exact Calls.quiet_of_same ((snode_any base g bc nodes c A evs _ _ (hGa.dn _)).mono fun _ _ h => ⟨h.1, h.2.symm⟩))))
  refine wpQuiet_nil ?_; intro _ hw'; obtain ⟨nq, hw''⟩ := hw'; subst hw''
  rw [pa.out]
  go_wp2_with fail
  refine (snode_any base g bc nodes c A evs _ _ (hGa.dn _)).mono ?_; rintro e w1 ⟨rfl, rfl⟩
  rw [pa.out]
  go_wp2_with fail
  refine wp_world ?_; intro w2 hw2
  have hgb : g ≠ bc := hG.st.ne_ hb0 (by decide)
  have hch : Ch [bc] w w2 := by rw [hw2.out]; exact ((((Ch.refl [bc] w).alloc (.cells #[.int .i64 (a : Int), .int .i64 (a : Int), .int .i64 (a : Int), .bool false] 227)).drewN nq).set (p := ⟨bc, a * 6 + 0, none⟩) (by simp) (.int .i64 ((na0 : Int) + 1))).set (p := ⟨bc, a * 6 + 3, none⟩) (by simp) (.int .i64 ((na3 : Int) + 1))
  have hct : CtAt w2 bc nodes (evs ++ [⟨(a : Int), (a : Int), (a : Int), false⟩]) := by
    have h0 : CtF ((w.alloc (.cells #[.int .i64 (a : Int), .int .i64 (a : Int), .int .i64 (a : Int), .bool false] 227)).drewN nq) bc nodes (fun k j => cc evs (k : Nat) j) := by
      obtain ⟨cs, h, h1, h2⟩ := HCT0.out
      exact ⟨cs, (h.alloc _).drewN nq, h1, h2⟩
    have h1 := h0.bump (k0 := a) (j0 := 0) (v := (na0 : Int) + 1) ha (by omega) (by rw [← HNa0.out]; try simp [bmp])
    have h2 := h1.bump (k0 := a) (j0 := 3) (v := (na3 : Int) + 1) ha (by omega) (by rw [← HNa3.out]; try simp [bmp])
    obtain ⟨cs, e1, e2, e3⟩ := h2
    exact ⟨cs, by rw [hw2.out]; exact e1, e2, fun k j hk hj => by rw [e3 k j hk hj, HCS.out k j hj]⟩
  have hbx : Blk w2 w.heap.size 227 [.int .i64 (a : Int), .int .i64 (a : Int), .int .i64 (a : Int), .bool false] := by rw [hw2.out]; exact ((((Blk.new w 227 [.int .i64 (a : Int), .int .i64 (a : Int), .int .i64 (a : Int), .bool false]).drewN nq).far (p := ⟨bc, a * 6 + 0, none⟩) (Nat.ne_of_gt hbl) (.int .i64 ((na0 : Int) + 1))).far (p := ⟨bc, a * 6 + 3, none⟩) (Nat.ne_of_gt hbl) (.int .i64 ((na3 : Int) + 1)))
  have hst : Blk w2 g 98 [.slice A evs.length c, .slice (some ⟨bc, 0, none⟩) nodes nodes] := by rw [hw2.out]; exact ((((hG.st.alloc (.cells #[.int .i64 (a : Int), .int .i64 (a : Int), .int .i64 (a : Int), .bool false] 227)).drewN nq).far (p := ⟨bc, a * 6 + 0, none⟩) hgb (.int .i64 ((na0 : Int) + 1))).far (p := ⟨bc, a * 6 + 3, none⟩) hgb (.int .i64 ((na3 : Int) + 1)))
  have hsz : w2.heap.size = w.heap.size + 1 := by rw [hw2.out]; simp
  have hev := own_ch4 hG.ev hch (fun q hq => by
    have : q ≠ bc := fun e => own_ne4 hG.ev hb0 (by decide) (e ▸ hq)
    simpa using this)
  have nst : (Value.slice A evs.length c).ownBlock ≠ some g := own_ne4 hG.ev hG.st (by decide)
  have nbx : (Value.slice A evs.length c).ownBlock ≠ some w.heap.size := fun h => by have := (hG.ev.lt _ h).2; omega
  have k0 := hst.at_ (i := 0) rfl
  have k0f := hst.frozen 0
  have x0 := hbx.at_ (i := 0) rfl
  have x1 := hbx.at_ (i := 1) rfl
  have x2 := hbx.at_ (i := 2) rfl
  have x3 := hbx.at_ (i := 3) rfl
  have hgl2 := hst.lt; have hxl2 := hbx.lt
  have HEV := Lib.hid hev; have HST := Lib.hid hst; have HCT := Lib.hid hct; have HCH := Lib.hid hch; have HSZ := Lib.hid hsz; have HG := Lib.hid hG; have NST := Lib.hid nst; have NBX := Lib.hid nbx
  clear hev hst hct hch hbx hsz hw2 hGa hpe hb0 HCS HCT0 hG nst nbx hgb
  clear ma0 fa0 ma3 fa3
  go_region_law
    ((refine step_append_lies _ (by rfl) (.tmp 86) (.tmp 88) _ (by rfl) base 227 ie _ 4 32 Tryz.underlying95 he0 hez he1 he2 rfl (by omega) (.slice A evs.length c) evs.length (evCells evs) (by rfl) (by first | exact (HEV.out.alloc _) | exact (HEV.out.alloc _).drew)
        ⟨w2.heap.size, 0, none⟩ 1 1 [.int .i64 (a : Int), .int .i64 (a : Int), .int .i64 (a : Int), .bool false] (by rfl) (by rfl) (World.news_of_block (cs := #[.int .i64 (a : Int), .int .i64 (a : Int), .int .i64 (a : Int), .bool false]) (t := 227) (fr := (0, 0)) (heap_alloc_new w2 _)) (by simp [Value.oneCell'])
        (by omega) (by unfold maxLen; omega) (by omega) (by have := HSZ.out; simp; omega) (w2.heap.size + 1) (by simp) ?_; intro gg cap w4 hown4 hgrow hat hlt; have hgr4 := grown_of hgrow; have hf4 := ((HST.out.alloc _).grown hgr4 (fun h => NST.out h.symm)).frozen 0; have hc4 := ((HST.out.alloc _).grown hgr4 (fun h => NST.out h.symm)).at_ (i := 0) rfl))
  all_goals
    go_wp2
    go_ret
    exact ⟨gg, cap, rfl, add_end HG.out HCT.out HST.out HCH.out hgr4 hown4 hat hm⟩

set_option maxRecDepth 100000 in
set_option maxHeartbeats 1000000 in
theorem add_4 (base g bc nodes c : Nat) (A : Option Addr) (evs : List Ev) (a : Nat) (o : Nat) (w : World) (hG : LogAt w base g bc nodes A c evs) (ha : a < nodes) (ho : o < nodes) (hao : a ≠ o) (hbase : base ≤ w.heap.size) (hm : evs.length < 1000) :
    Calls Tryz.prog 118 #[.pointer (some ⟨g, 0, none⟩), .agg #[.int .i64 (a : Int), .int .i64 (a : Int), .int .i64 (o : Int), .bool false]] w fun e w' => ∃ gg cap, e = .returned (.int .i64 0) ∧ Added w w' base g bc nodes A c evs ⟨(a : Int), (a : Int), (o : Int), false⟩ gg cap := by
  have k0 := hG.ev0
  have hgl := hG.st.lt
  have hbl := hG.ctlt
  obtain ⟨ma0, fa0⟩ := hG.at_ a 0 ha (by omega)
  have ba0 := cc_le evs a 0
  have qa0 : (cc evs a 0 : Nat) ≤ evs.length := ba0
  rw [Nat.add_zero] at ma0 fa0
  obtain ⟨ma4, fa4⟩ := hG.at_ a 4 ha (by omega)
  have ba4 := cc_le evs a 4
  have qa4 : (cc evs a 4 : Nat) ≤ evs.length := ba4
  have hct0 : CtF w bc nodes (fun k j => cc evs (k : Nat) j) := hG.ct
  have hcs : ∀ k j : Nat, j < 6 → (bmp (bmp (fun k j => cc evs (k : Nat) j) a 0) a 4) k j = cc (evs ++ [⟨(a : Int), (a : Int), (o : Int), false⟩]) (k : Nat) j := by
    intro k j hj
    rw [cc_snoc]
    simp only [bmp]
    have hao2 : ¬ (a : Int) = (o : Int) := by omega
    have hao3 : ¬ (o : Int) = (a : Int) := by omega
    by_cases e1 : k = a
    · subst e1
      rcases (by omega : j = 0 ∨ j = 1 ∨ j = 2 ∨ j = 3 ∨ j = 4 ∨ j = 5) with rfl | rfl | rfl | rfl | rfl | rfl
      all_goals simp [inc, hao, Ne.symm hao, hao2, hao3]
    · have e2 : ¬ (a : Int) = (k : Int) := by omega
      rcases (by omega : j = 0 ∨ j = 1 ∨ j = 2 ∨ j = 3 ∨ j = 4 ∨ j = 5) with rfl | rfl | rfl | rfl | rfl | rfl
      all_goals simp [inc, e1, e2]
  obtain ⟨cs0, hb0, _⟩ := hG.ct
  have HCS := Lib.hid hcs; clear hcs
  have HCT0 := Lib.hid hct0; clear hct0
  have hGa := hG.below (bel_alloc (Below.refl _ _) (.cells #[.int .i64 (a : Int), .int .i64 (a : Int), .int .i64 (o : Int), .bool false] 227))
  have pa := Lib.hid (nodeP_yes (bc := bc) ha)
  have po := Lib.hid (nodeP_yes (bc := bc) ho)
  have hoo : ((a : Int) == (o : Int)) = false := by rw [beq_eq_false_iff_ne]; omega
  have hpe : ∀ w : World, (binOp .eql 93 (.pointer (some ⟨bc, a * 6, none⟩)) (.pointer (some ⟨bc, a * 6, none⟩))).run Tryz.prog w = .ok (.bool true) w := by
    obtain ⟨i0, hi, _⟩ := info_parts info_counts
    exact fun w => run_eql_ptr_same w _ Tryz.underlying93 hi
  generalize hna0 : cc evs a 0 = na0 at ma0 ba0 qa0
  have HNa0 := Lib.hid hna0; clear hna0
  generalize hna4 : cc evs a 4 = na4 at ma4 ba4 qa4
  have HNa4 := Lib.hid hna4; clear hna4
  obtain ⟨ie, he0, hez, he1, he2⟩ := info_parts info_event
  go_enter Tryz.func118, Tryz.ntmps118
  go_wp2_with fail
  refine wp_region_quiet_lit (by kernel_rfl) (by kernel_rfl) ?_
  repeat (first | go_big_quiet_step ((go_at_call 37; exact Calls.quiet_of_same ((snode_any base g bc nodes c A evs _ _ (hGa.dn _)).mono fun _ _ h => ⟨h.1, h.2.symm⟩))) | quiet_step ((go_at_call 37; exact Calls.quiet_of_same ((snode_any base g bc nodes c A evs _ _ (hGa.dn _)).mono fun _ _ h => ⟨h.1, h.2.symm⟩))))
  refine wpQuiet_nil ?_; intro _ hw'; obtain ⟨nq, hw''⟩ := hw'; subst hw''
  rw [pa.out]
  go_wp2_with fail
  refine (snode_any base g bc nodes c A evs _ _ (hGa.dn _)).mono ?_; rintro e w1 ⟨rfl, rfl⟩
  rw [po.out]
  go_wp2_with fail
  refine wp_world ?_; intro w2 hw2
  have hgb : g ≠ bc := hG.st.ne_ hb0 (by decide)
  have hch : Ch [bc] w w2 := by rw [hw2.out]; exact ((((Ch.refl [bc] w).alloc (.cells #[.int .i64 (a : Int), .int .i64 (a : Int), .int .i64 (o : Int), .bool false] 227)).drewN nq).set (p := ⟨bc, a * 6 + 0, none⟩) (by simp) (.int .i64 ((na0 : Int) + 1))).set (p := ⟨bc, a * 6 + 4, none⟩) (by simp) (.int .i64 ((na4 : Int) + 1))
  have hct : CtAt w2 bc nodes (evs ++ [⟨(a : Int), (a : Int), (o : Int), false⟩]) := by
    have h0 : CtF ((w.alloc (.cells #[.int .i64 (a : Int), .int .i64 (a : Int), .int .i64 (o : Int), .bool false] 227)).drewN nq) bc nodes (fun k j => cc evs (k : Nat) j) := by
      obtain ⟨cs, h, h1, h2⟩ := HCT0.out
      exact ⟨cs, (h.alloc _).drewN nq, h1, h2⟩
    have h1 := h0.bump (k0 := a) (j0 := 0) (v := (na0 : Int) + 1) ha (by omega) (by rw [← HNa0.out]; try simp [bmp])
    have h2 := h1.bump (k0 := a) (j0 := 4) (v := (na4 : Int) + 1) ha (by omega) (by rw [← HNa4.out]; try simp [bmp])
    obtain ⟨cs, e1, e2, e3⟩ := h2
    exact ⟨cs, by rw [hw2.out]; exact e1, e2, fun k j hk hj => by rw [e3 k j hk hj, HCS.out k j hj]⟩
  have hbx : Blk w2 w.heap.size 227 [.int .i64 (a : Int), .int .i64 (a : Int), .int .i64 (o : Int), .bool false] := by rw [hw2.out]; exact ((((Blk.new w 227 [.int .i64 (a : Int), .int .i64 (a : Int), .int .i64 (o : Int), .bool false]).drewN nq).far (p := ⟨bc, a * 6 + 0, none⟩) (Nat.ne_of_gt hbl) (.int .i64 ((na0 : Int) + 1))).far (p := ⟨bc, a * 6 + 4, none⟩) (Nat.ne_of_gt hbl) (.int .i64 ((na4 : Int) + 1)))
  have hst : Blk w2 g 98 [.slice A evs.length c, .slice (some ⟨bc, 0, none⟩) nodes nodes] := by rw [hw2.out]; exact ((((hG.st.alloc (.cells #[.int .i64 (a : Int), .int .i64 (a : Int), .int .i64 (o : Int), .bool false] 227)).drewN nq).far (p := ⟨bc, a * 6 + 0, none⟩) hgb (.int .i64 ((na0 : Int) + 1))).far (p := ⟨bc, a * 6 + 4, none⟩) hgb (.int .i64 ((na4 : Int) + 1)))
  have hsz : w2.heap.size = w.heap.size + 1 := by rw [hw2.out]; simp
  have hev := own_ch4 hG.ev hch (fun q hq => by
    have : q ≠ bc := fun e => own_ne4 hG.ev hb0 (by decide) (e ▸ hq)
    simpa using this)
  have nst : (Value.slice A evs.length c).ownBlock ≠ some g := own_ne4 hG.ev hG.st (by decide)
  have nbx : (Value.slice A evs.length c).ownBlock ≠ some w.heap.size := fun h => by have := (hG.ev.lt _ h).2; omega
  have k0 := hst.at_ (i := 0) rfl
  have k0f := hst.frozen 0
  have x0 := hbx.at_ (i := 0) rfl
  have x1 := hbx.at_ (i := 1) rfl
  have x2 := hbx.at_ (i := 2) rfl
  have x3 := hbx.at_ (i := 3) rfl
  have hgl2 := hst.lt; have hxl2 := hbx.lt
  have HEV := Lib.hid hev; have HST := Lib.hid hst; have HCT := Lib.hid hct; have HCH := Lib.hid hch; have HSZ := Lib.hid hsz; have HG := Lib.hid hG; have NST := Lib.hid nst; have NBX := Lib.hid nbx
  clear hev hst hct hch hbx hsz hw2 hGa hpe hb0 HCS HCT0 hG nst nbx hgb
  clear ma0 fa0 ma4 fa4
  go_region_law
    ((refine step_append_lies _ (by rfl) (.tmp 86) (.tmp 88) _ (by rfl) base 227 ie _ 4 32 Tryz.underlying95 he0 hez he1 he2 rfl (by omega) (.slice A evs.length c) evs.length (evCells evs) (by rfl) (by first | exact (HEV.out.alloc _) | exact (HEV.out.alloc _).drew)
        ⟨w2.heap.size, 0, none⟩ 1 1 [.int .i64 (a : Int), .int .i64 (a : Int), .int .i64 (o : Int), .bool false] (by rfl) (by rfl) (World.news_of_block (cs := #[.int .i64 (a : Int), .int .i64 (a : Int), .int .i64 (o : Int), .bool false]) (t := 227) (fr := (0, 0)) (heap_alloc_new w2 _)) (by simp [Value.oneCell'])
        (by omega) (by unfold maxLen; omega) (by omega) (by have := HSZ.out; simp; omega) (w2.heap.size + 1) (by simp) ?_; intro gg cap w4 hown4 hgrow hat hlt; have hgr4 := grown_of hgrow; have hf4 := ((HST.out.alloc _).grown hgr4 (fun h => NST.out h.symm)).frozen 0; have hc4 := ((HST.out.alloc _).grown hgr4 (fun h => NST.out h.symm)).at_ (i := 0) rfl))
  all_goals
    go_wp2
    go_ret
    exact ⟨gg, cap, rfl, add_end HG.out HCT.out HST.out HCH.out hgr4 hown4 hat hm⟩

set_option maxRecDepth 100000 in
set_option maxHeartbeats 1000000 in
theorem add_5 (base g bc nodes c : Nat) (A : Option Addr) (evs : List Ev) (a : Nat) (s : Nat) (il : Bool) (w : World) (hG : LogAt w base g bc nodes A c evs) (ha : a < nodes) (hs : s < nodes) (has : a ≠ s) (hbase : base ≤ w.heap.size) (hm : evs.length < 1000) :
    Calls Tryz.prog 118 #[.pointer (some ⟨g, 0, none⟩), .agg #[.int .i64 (a : Int), .int .i64 (s : Int), .int .i64 (a : Int), .bool il]] w fun e w' => ∃ gg cap, e = .returned (.int .i64 0) ∧ Added w w' base g bc nodes A c evs ⟨(a : Int), (s : Int), (a : Int), il⟩ gg cap := by
  have k0 := hG.ev0
  have hgl := hG.st.lt
  have hbl := hG.ctlt
  obtain ⟨ma1, fa1⟩ := hG.at_ a 1 ha (by omega)
  have ba1 := cc_le evs a 1
  have qa1 : (cc evs a 1 : Nat) ≤ evs.length := ba1
  obtain ⟨ms2, fs2⟩ := hG.at_ s 2 hs (by omega)
  have bs2 := cc_le evs s 2
  have qs2 : (cc evs s 2 : Nat) ≤ evs.length := bs2
  obtain ⟨ma3, fa3⟩ := hG.at_ a 3 ha (by omega)
  have ba3 := cc_le evs a 3
  have qa3 : (cc evs a 3 : Nat) ≤ evs.length := ba3
  have d01 : ¬ a * 6 + 1 = s * 6 + 2 := by omega
  have d10 : ¬ s * 6 + 2 = a * 6 + 1 := by omega
  have d12 : ¬ s * 6 + 2 = a * 6 + 3 := by omega
  have d21 : ¬ a * 6 + 3 = s * 6 + 2 := by omega
  have hct0 : CtF w bc nodes (fun k j => cc evs (k : Nat) j) := hG.ct
  have hcs : ∀ k j : Nat, j < 6 → (bmp (bmp (bmp (fun k j => cc evs (k : Nat) j) a 1) s 2) a 3) k j = cc (evs ++ [⟨(a : Int), (s : Int), (a : Int), il⟩]) (k : Nat) j := by
    intro k j hj
    rw [cc_snoc]
    simp only [bmp]
    by_cases e1 : k = a
    · subst e1
      have e3 : ¬ (s : Int) = (k : Int) := by omega
      rcases (by omega : j = 0 ∨ j = 1 ∨ j = 2 ∨ j = 3 ∨ j = 4 ∨ j = 5) with rfl | rfl | rfl | rfl | rfl | rfl
      all_goals simp [inc, has, Ne.symm has, e3]
    · have e2 : ¬ (a : Int) = (k : Int) := by omega
      by_cases e3 : k = s
      · subst e3
        rcases (by omega : j = 0 ∨ j = 1 ∨ j = 2 ∨ j = 3 ∨ j = 4 ∨ j = 5) with rfl | rfl | rfl | rfl | rfl | rfl
        all_goals simp [inc, e1, e2]
      · have e4 : ¬ (s : Int) = (k : Int) := by omega
        rcases (by omega : j = 0 ∨ j = 1 ∨ j = 2 ∨ j = 3 ∨ j = 4 ∨ j = 5) with rfl | rfl | rfl | rfl | rfl | rfl
        all_goals simp [inc, e1, e2, e3, e4]
  obtain ⟨cs0, hb0, _⟩ := hG.ct
  have HCS := Lib.hid hcs; clear hcs
  have HCT0 := Lib.hid hct0; clear hct0
  have hGa := hG.below (bel_alloc (Below.refl _ _) (.cells #[.int .i64 (a : Int), .int .i64 (s : Int), .int .i64 (a : Int), .bool il] 227))
  have pa := Lib.hid (nodeP_yes (bc := bc) ha)
  have ps := Lib.hid (nodeP_yes (bc := bc) hs)
  have hpe : ∀ n : Nat, (binOp .eql 93 (.pointer (some ⟨bc, a * 6, none⟩)) (.pointer (some ⟨bc, s * 6, none⟩))).run Tryz.prog ((w.alloc (.cells #[.int .i64 (a : Int), .int .i64 (s : Int), .int .i64 (a : Int), .bool il] 227)).drewN n) = .ok (.bool false) ((w.alloc (.cells #[.int .i64 (a : Int), .int .i64 (s : Int), .int .i64 (a : Int), .bool il] 227)).drewN n) := by
    intro n
    obtain ⟨i0, hi, _, hz1, _⟩ := info_parts info_counts
    have hbx := hb0.alloc (.cells #[.int .i64 (a : Int), .int .i64 (s : Int), .int .i64 (a : Int), .bool il] 227)
    exact run_eql_ptr_other _ Tryz.underlying93 hi (by rw [hz1]; omega) (by simp <;> omega) (ta := 44) (tb := 44) (ca := cs0.toArray) (cb := cs0.toArray) hbx hbx
  generalize hna1 : cc evs a 1 = na1 at ma1 ba1 qa1
  have HNa1 := Lib.hid hna1; clear hna1
  generalize hns2 : cc evs s 2 = ns2 at ms2 bs2 qs2
  have HNs2 := Lib.hid hns2; clear hns2
  generalize hna3 : cc evs a 3 = na3 at ma3 ba3 qa3
  have HNa3 := Lib.hid hna3; clear hna3
  obtain ⟨ie, he0, hez, he1, he2⟩ := info_parts info_event
  go_enter Tryz.func118, Tryz.ntmps118
  go_wp2_with fail
  refine wp_region_quiet_lit (by kernel_rfl) (by kernel_rfl) ?_
  repeat (first | go_big_quiet_step ((go_at_call 37; exact Calls.quiet_of_same ((snode_any base g bc nodes c A evs _ _ (hGa.dn _)).mono fun _ _ h => ⟨h.1, h.2.symm⟩))) | quiet_step ((go_at_call 37; exact Calls.quiet_of_same ((snode_any base g bc nodes c A evs _ _ (hGa.dn _)).mono fun _ _ h => ⟨h.1, h.2.symm⟩))))
  refine wpQuiet_nil ?_; intro _ hw'; obtain ⟨nq, hw''⟩ := hw'; subst hw''
  rw [pa.out, ps.out]
  go_wp2_with fail
  refine (snode_any base g bc nodes c A evs _ _ (hGa.dn _)).mono ?_; rintro e w1 ⟨rfl, rfl⟩
  rw [pa.out]
  go_wp2_with fail
  refine wp_world ?_; intro w2 hw2
  have hgb : g ≠ bc := hG.st.ne_ hb0 (by decide)
  have hch : Ch [bc] w w2 := by rw [hw2.out]; exact (((((Ch.refl [bc] w).alloc (.cells #[.int .i64 (a : Int), .int .i64 (s : Int), .int .i64 (a : Int), .bool il] 227)).drewN nq).set (p := ⟨bc, a * 6 + 1, none⟩) (by simp) (.int .i64 ((na1 : Int) + 1))).set (p := ⟨bc, s * 6 + 2, none⟩) (by simp) (.int .i64 ((ns2 : Int) + 1))).set (p := ⟨bc, a * 6 + 3, none⟩) (by simp) (.int .i64 ((na3 : Int) + 1))
  have hct : CtAt w2 bc nodes (evs ++ [⟨(a : Int), (s : Int), (a : Int), il⟩]) := by
    have h0 : CtF ((w.alloc (.cells #[.int .i64 (a : Int), .int .i64 (s : Int), .int .i64 (a : Int), .bool il] 227)).drewN nq) bc nodes (fun k j => cc evs (k : Nat) j) := by
      obtain ⟨cs, h, h1, h2⟩ := HCT0.out
      exact ⟨cs, (h.alloc _).drewN nq, h1, h2⟩
    have h1 := h0.bump (k0 := a) (j0 := 1) (v := (na1 : Int) + 1) ha (by omega) (by rw [← HNa1.out]; try simp [bmp])
    have h2 := h1.bump (k0 := s) (j0 := 2) (v := (ns2 : Int) + 1) hs (by omega) (by rw [← HNs2.out]; try simp [bmp, has, Ne.symm has])
    have h3 := h2.bump (k0 := a) (j0 := 3) (v := (na3 : Int) + 1) ha (by omega) (by rw [← HNa3.out]; try simp [bmp])
    obtain ⟨cs, e1, e2, e3⟩ := h3
    exact ⟨cs, by rw [hw2.out]; exact e1, e2, fun k j hk hj => by rw [e3 k j hk hj, HCS.out k j hj]⟩
  have hbx : Blk w2 w.heap.size 227 [.int .i64 (a : Int), .int .i64 (s : Int), .int .i64 (a : Int), .bool il] := by rw [hw2.out]; exact (((((Blk.new w 227 [.int .i64 (a : Int), .int .i64 (s : Int), .int .i64 (a : Int), .bool il]).drewN nq).far (p := ⟨bc, a * 6 + 1, none⟩) (Nat.ne_of_gt hbl) (.int .i64 ((na1 : Int) + 1))).far (p := ⟨bc, s * 6 + 2, none⟩) (Nat.ne_of_gt hbl) (.int .i64 ((ns2 : Int) + 1))).far (p := ⟨bc, a * 6 + 3, none⟩) (Nat.ne_of_gt hbl) (.int .i64 ((na3 : Int) + 1)))
  have hst : Blk w2 g 98 [.slice A evs.length c, .slice (some ⟨bc, 0, none⟩) nodes nodes] := by rw [hw2.out]; exact (((((hG.st.alloc (.cells #[.int .i64 (a : Int), .int .i64 (s : Int), .int .i64 (a : Int), .bool il] 227)).drewN nq).far (p := ⟨bc, a * 6 + 1, none⟩) hgb (.int .i64 ((na1 : Int) + 1))).far (p := ⟨bc, s * 6 + 2, none⟩) hgb (.int .i64 ((ns2 : Int) + 1))).far (p := ⟨bc, a * 6 + 3, none⟩) hgb (.int .i64 ((na3 : Int) + 1)))
  have hsz : w2.heap.size = w.heap.size + 1 := by rw [hw2.out]; simp
  have hev := own_ch4 hG.ev hch (fun q hq => by
    have : q ≠ bc := fun e => own_ne4 hG.ev hb0 (by decide) (e ▸ hq)
    simpa using this)
  have nst : (Value.slice A evs.length c).ownBlock ≠ some g := own_ne4 hG.ev hG.st (by decide)
  have nbx : (Value.slice A evs.length c).ownBlock ≠ some w.heap.size := fun h => by have := (hG.ev.lt _ h).2; omega
  have k0 := hst.at_ (i := 0) rfl
  have k0f := hst.frozen 0
  have x0 := hbx.at_ (i := 0) rfl
  have x1 := hbx.at_ (i := 1) rfl
  have x2 := hbx.at_ (i := 2) rfl
  have x3 := hbx.at_ (i := 3) rfl
  have hgl2 := hst.lt; have hxl2 := hbx.lt
  have HEV := Lib.hid hev; have HST := Lib.hid hst; have HCT := Lib.hid hct; have HCH := Lib.hid hch; have HSZ := Lib.hid hsz; have HG := Lib.hid hG; have NST := Lib.hid nst; have NBX := Lib.hid nbx
  clear hev hst hct hch hbx hsz hw2 hGa hpe hb0 HCS HCT0 hG nst nbx hgb
  clear ma1 fa1 ms2 fs2 ma3 fa3
  go_region_law
    ((refine step_append_lies _ (by rfl) (.tmp 86) (.tmp 88) _ (by rfl) base 227 ie _ 4 32 Tryz.underlying95 he0 hez he1 he2 rfl (by omega) (.slice A evs.length c) evs.length (evCells evs) (by rfl) (by first | exact (HEV.out.alloc _) | exact (HEV.out.alloc _).drew)
        ⟨w2.heap.size, 0, none⟩ 1 1 [.int .i64 (a : Int), .int .i64 (s : Int), .int .i64 (a : Int), .bool il] (by rfl) (by rfl) (World.news_of_block (cs := #[.int .i64 (a : Int), .int .i64 (s : Int), .int .i64 (a : Int), .bool il]) (t := 227) (fr := (0, 0)) (heap_alloc_new w2 _)) (by simp [Value.oneCell'])
        (by omega) (by unfold maxLen; omega) (by omega) (by have := HSZ.out; simp; omega) (w2.heap.size + 1) (by simp) ?_; intro gg cap w4 hown4 hgrow hat hlt; have hgr4 := grown_of hgrow; have hf4 := ((HST.out.alloc _).grown hgr4 (fun h => NST.out h.symm)).frozen 0; have hc4 := ((HST.out.alloc _).grown hgr4 (fun h => NST.out h.symm)).at_ (i := 0) rfl))
  all_goals
    go_wp2
    go_ret
    exact ⟨gg, cap, rfl, add_end HG.out HCT.out HST.out HCH.out hgr4 hown4 hat hm⟩

set_option maxRecDepth 100000 in
set_option maxHeartbeats 1000000 in
theorem add_6 (base g bc nodes c : Nat) (A : Option Addr) (evs : List Ev) (a : Nat) (s : Nat) (o : Nat) (il : Bool) (w : World) (hG : LogAt w base g bc nodes A c evs) (ha : a < nodes) (hs : s < nodes) (has : a ≠ s) (ho : o < nodes) (hao : a ≠ o) (hbase : base ≤ w.heap.size) (hm : evs.length < 1000) :
    Calls Tryz.prog 118 #[.pointer (some ⟨g, 0, none⟩), .agg #[.int .i64 (a : Int), .int .i64 (s : Int), .int .i64 (o : Int), .bool il]] w fun e w' => ∃ gg cap, e = .returned (.int .i64 0) ∧ Added w w' base g bc nodes A c evs ⟨(a : Int), (s : Int), (o : Int), il⟩ gg cap := by
  have k0 := hG.ev0
  have hgl := hG.st.lt
  have hbl := hG.ctlt
  obtain ⟨ma1, fa1⟩ := hG.at_ a 1 ha (by omega)
  have ba1 := cc_le evs a 1
  have qa1 : (cc evs a 1 : Nat) ≤ evs.length := ba1
  obtain ⟨ms2, fs2⟩ := hG.at_ s 2 hs (by omega)
  have bs2 := cc_le evs s 2
  have qs2 : (cc evs s 2 : Nat) ≤ evs.length := bs2
  obtain ⟨ma4, fa4⟩ := hG.at_ a 4 ha (by omega)
  have ba4 := cc_le evs a 4
  have qa4 : (cc evs a 4 : Nat) ≤ evs.length := ba4
  have d01 : ¬ a * 6 + 1 = s * 6 + 2 := by omega
  have d10 : ¬ s * 6 + 2 = a * 6 + 1 := by omega
  have d12 : ¬ s * 6 + 2 = a * 6 + 4 := by omega
  have d21 : ¬ a * 6 + 4 = s * 6 + 2 := by omega
  have hct0 : CtF w bc nodes (fun k j => cc evs (k : Nat) j) := hG.ct
  have hcs : ∀ k j : Nat, j < 6 → (bmp (bmp (bmp (fun k j => cc evs (k : Nat) j) a 1) s 2) a 4) k j = cc (evs ++ [⟨(a : Int), (s : Int), (o : Int), il⟩]) (k : Nat) j := by
    intro k j hj
    rw [cc_snoc]
    simp only [bmp]
    have hao2 : ¬ (a : Int) = (o : Int) := by omega
    have hao3 : ¬ (o : Int) = (a : Int) := by omega
    by_cases e1 : k = a
    · subst e1
      have e3 : ¬ (s : Int) = (k : Int) := by omega
      rcases (by omega : j = 0 ∨ j = 1 ∨ j = 2 ∨ j = 3 ∨ j = 4 ∨ j = 5) with rfl | rfl | rfl | rfl | rfl | rfl
      all_goals simp [inc, hao, Ne.symm hao, hao2, hao3, has, Ne.symm has, e3]
    · have e2 : ¬ (a : Int) = (k : Int) := by omega
      by_cases e3 : k = s
      · subst e3
        rcases (by omega : j = 0 ∨ j = 1 ∨ j = 2 ∨ j = 3 ∨ j = 4 ∨ j = 5) with rfl | rfl | rfl | rfl | rfl | rfl
        all_goals simp [inc, e1, e2]
      · have e4 : ¬ (s : Int) = (k : Int) := by omega
        rcases (by omega : j = 0 ∨ j = 1 ∨ j = 2 ∨ j = 3 ∨ j = 4 ∨ j = 5) with rfl | rfl | rfl | rfl | rfl | rfl
        all_goals simp [inc, e1, e2, e3, e4]
  obtain ⟨cs0, hb0, _⟩ := hG.ct
  have HCS := Lib.hid hcs; clear hcs
  have HCT0 := Lib.hid hct0; clear hct0
  have hGa := hG.below (bel_alloc (Below.refl _ _) (.cells #[.int .i64 (a : Int), .int .i64 (s : Int), .int .i64 (o : Int), .bool il] 227))
  have pa := Lib.hid (nodeP_yes (bc := bc) ha)
  have ps := Lib.hid (nodeP_yes (bc := bc) hs)
  have po := Lib.hid (nodeP_yes (bc := bc) ho)
  have hoo : ((a : Int) == (o : Int)) = false := by rw [beq_eq_false_iff_ne]; omega
  have hpe : ∀ n : Nat, (binOp .eql 93 (.pointer (some ⟨bc, a * 6, none⟩)) (.pointer (some ⟨bc, s * 6, none⟩))).run Tryz.prog ((w.alloc (.cells #[.int .i64 (a : Int), .int .i64 (s : Int), .int .i64 (o : Int), .bool il] 227)).drewN n) = .ok (.bool false) ((w.alloc (.cells #[.int .i64 (a : Int), .int .i64 (s : Int), .int .i64 (o : Int), .bool il] 227)).drewN n) := by
    intro n
    obtain ⟨i0, hi, _, hz1, _⟩ := info_parts info_counts
    have hbx := hb0.alloc (.cells #[.int .i64 (a : Int), .int .i64 (s : Int), .int .i64 (o : Int), .bool il] 227)
    exact run_eql_ptr_other _ Tryz.underlying93 hi (by rw [hz1]; omega) (by simp <;> omega) (ta := 44) (tb := 44) (ca := cs0.toArray) (cb := cs0.toArray) hbx hbx
  generalize hna1 : cc evs a 1 = na1 at ma1 ba1 qa1
  have HNa1 := Lib.hid hna1; clear hna1
  generalize hns2 : cc evs s 2 = ns2 at ms2 bs2 qs2
  have HNs2 := Lib.hid hns2; clear hns2
  generalize hna4 : cc evs a 4 = na4 at ma4 ba4 qa4
  have HNa4 := Lib.hid hna4; clear hna4
  obtain ⟨ie, he0, hez, he1, he2⟩ := info_parts info_event
  go_enter Tryz.func118, Tryz.ntmps118
  go_wp2_with fail
  refine wp_region_quiet_lit (by kernel_rfl) (by kernel_rfl) ?_
  repeat (first | go_big_quiet_step ((go_at_call 37; exact Calls.quiet_of_same ((snode_any base g bc nodes c A evs _ _ (hGa.dn _)).mono fun _ _ h => ⟨h.1, h.2.symm⟩))) | quiet_step ((go_at_call 37; exact Calls.quiet_of_same ((snode_any base g bc nodes c A evs _ _ (hGa.dn _)).mono fun _ _ h => ⟨h.1, h.2.symm⟩))))
  refine wpQuiet_nil ?_; intro _ hw'; obtain ⟨nq, hw''⟩ := hw'; subst hw''
  rw [pa.out, ps.out]
  go_wp2_with fail
  refine (snode_any base g bc nodes c A evs _ _ (hGa.dn _)).mono ?_; rintro e w1 ⟨rfl, rfl⟩
  rw [po.out]
  go_wp2_with fail
  refine wp_world ?_; intro w2 hw2
  have hgb : g ≠ bc := hG.st.ne_ hb0 (by decide)
  have hch : Ch [bc] w w2 := by rw [hw2.out]; exact (((((Ch.refl [bc] w).alloc (.cells #[.int .i64 (a : Int), .int .i64 (s : Int), .int .i64 (o : Int), .bool il] 227)).drewN nq).set (p := ⟨bc, a * 6 + 1, none⟩) (by simp) (.int .i64 ((na1 : Int) + 1))).set (p := ⟨bc, s * 6 + 2, none⟩) (by simp) (.int .i64 ((ns2 : Int) + 1))).set (p := ⟨bc, a * 6 + 4, none⟩) (by simp) (.int .i64 ((na4 : Int) + 1))
  have hct : CtAt w2 bc nodes (evs ++ [⟨(a : Int), (s : Int), (o : Int), il⟩]) := by
    have h0 : CtF ((w.alloc (.cells #[.int .i64 (a : Int), .int .i64 (s : Int), .int .i64 (o : Int), .bool il] 227)).drewN nq) bc nodes (fun k j => cc evs (k : Nat) j) := by
      obtain ⟨cs, h, h1, h2⟩ := HCT0.out
      exact ⟨cs, (h.alloc _).drewN nq, h1, h2⟩
    have h1 := h0.bump (k0 := a) (j0 := 1) (v := (na1 : Int) + 1) ha (by omega) (by rw [← HNa1.out]; try simp [bmp])
    have h2 := h1.bump (k0 := s) (j0 := 2) (v := (ns2 : Int) + 1) hs (by omega) (by rw [← HNs2.out]; try simp [bmp, has, Ne.symm has])
    have h3 := h2.bump (k0 := a) (j0 := 4) (v := (na4 : Int) + 1) ha (by omega) (by rw [← HNa4.out]; try simp [bmp])
    obtain ⟨cs, e1, e2, e3⟩ := h3
    exact ⟨cs, by rw [hw2.out]; exact e1, e2, fun k j hk hj => by rw [e3 k j hk hj, HCS.out k j hj]⟩
  have hbx : Blk w2 w.heap.size 227 [.int .i64 (a : Int), .int .i64 (s : Int), .int .i64 (o : Int), .bool il] := by rw [hw2.out]; exact (((((Blk.new w 227 [.int .i64 (a : Int), .int .i64 (s : Int), .int .i64 (o : Int), .bool il]).drewN nq).far (p := ⟨bc, a * 6 + 1, none⟩) (Nat.ne_of_gt hbl) (.int .i64 ((na1 : Int) + 1))).far (p := ⟨bc, s * 6 + 2, none⟩) (Nat.ne_of_gt hbl) (.int .i64 ((ns2 : Int) + 1))).far (p := ⟨bc, a * 6 + 4, none⟩) (Nat.ne_of_gt hbl) (.int .i64 ((na4 : Int) + 1)))
  have hst : Blk w2 g 98 [.slice A evs.length c, .slice (some ⟨bc, 0, none⟩) nodes nodes] := by rw [hw2.out]; exact (((((hG.st.alloc (.cells #[.int .i64 (a : Int), .int .i64 (s : Int), .int .i64 (o : Int), .bool il] 227)).drewN nq).far (p := ⟨bc, a * 6 + 1, none⟩) hgb (.int .i64 ((na1 : Int) + 1))).far (p := ⟨bc, s * 6 + 2, none⟩) hgb (.int .i64 ((ns2 : Int) + 1))).far (p := ⟨bc, a * 6 + 4, none⟩) hgb (.int .i64 ((na4 : Int) + 1)))
  have hsz : w2.heap.size = w.heap.size + 1 := by rw [hw2.out]; simp
  have hev := own_ch4 hG.ev hch (fun q hq => by
    have : q ≠ bc := fun e => own_ne4 hG.ev hb0 (by decide) (e ▸ hq)
    simpa using this)
  have nst : (Value.slice A evs.length c).ownBlock ≠ some g := own_ne4 hG.ev hG.st (by decide)
  have nbx : (Value.slice A evs.length c).ownBlock ≠ some w.heap.size := fun h => by have := (hG.ev.lt _ h).2; omega
  have k0 := hst.at_ (i := 0) rfl
  have k0f := hst.frozen 0
  have x0 := hbx.at_ (i := 0) rfl
  have x1 := hbx.at_ (i := 1) rfl
  have x2 := hbx.at_ (i := 2) rfl
  have x3 := hbx.at_ (i := 3) rfl
  have hgl2 := hst.lt; have hxl2 := hbx.lt
  have HEV := Lib.hid hev; have HST := Lib.hid hst; have HCT := Lib.hid hct; have HCH := Lib.hid hch; have HSZ := Lib.hid hsz; have HG := Lib.hid hG; have NST := Lib.hid nst; have NBX := Lib.hid nbx
  clear hev hst hct hch hbx hsz hw2 hGa hpe hb0 HCS HCT0 hG nst nbx hgb
  clear ma1 fa1 ms2 fs2 ma4 fa4
  go_region_law
    ((refine step_append_lies _ (by rfl) (.tmp 86) (.tmp 88) _ (by rfl) base 227 ie _ 4 32 Tryz.underlying95 he0 hez he1 he2 rfl (by omega) (.slice A evs.length c) evs.length (evCells evs) (by rfl) (by first | exact (HEV.out.alloc _) | exact (HEV.out.alloc _).drew)
        ⟨w2.heap.size, 0, none⟩ 1 1 [.int .i64 (a : Int), .int .i64 (s : Int), .int .i64 (o : Int), .bool il] (by rfl) (by rfl) (World.news_of_block (cs := #[.int .i64 (a : Int), .int .i64 (s : Int), .int .i64 (o : Int), .bool il]) (t := 227) (fr := (0, 0)) (heap_alloc_new w2 _)) (by simp [Value.oneCell'])
        (by omega) (by unfold maxLen; omega) (by omega) (by have := HSZ.out; simp; omega) (w2.heap.size + 1) (by simp) ?_; intro gg cap w4 hown4 hgrow hat hlt; have hgr4 := grown_of hgrow; have hf4 := ((HST.out.alloc _).grown hgr4 (fun h => NST.out h.symm)).frozen 0; have hc4 := ((HST.out.alloc _).grown hgr4 (fun h => NST.out h.symm)).at_ (i := 0) rfl))
  all_goals
    go_wp2
    go_ret
    exact ⟨gg, cap, rfl, add_end HG.out HCT.out HST.out HCH.out hgr4 hown4 hat hm⟩
end Go.Proofs.YtjdbedoabcbeeaaGreatDoor
