/- messuagelaw03: tame, to: machines of the call's own. -/
import Derived.Test.YtcanhegjhbhkhaaDoorTopoLaw
namespace Go.Proofs.YtcanhegjhbhkhaaDoor
open Go.RowKit Go.Shelf
set_option linter.unusedVariables false
set_option linter.unusedSimpArgs false
attribute [local go_sem] World.cell?_alloc_lt

theorem own_any {w : World} {base e s n : Nat} {v : Value} {xs : List Value} (h : w.ownsRow base e s v n xs) : ∃ A c, v = .slice A n c := by
  rcases h.2 with ⟨hv, h0⟩ | ⟨g, cap, cur, hv, _⟩
  · subst h0
    exact ⟨none, 0, hv⟩
  · exact ⟨_, _, hv⟩
theorem own_blt {w : World} {base e s n : Nat} {v : Value} {xs : List Value} (h : w.ownsRow base e s v n xs) {b : Nat} (hb : v.ownBlock = some b) : b < w.heap.size := (h.lt b hb).2
theorem own_bge {w : World} {base e s n : Nat} {v : Value} {xs : List Value} (h : w.ownsRow base e s v n xs) {b : Nat} (hb : v.ownBlock = some b) : base ≤ b := (h.lt b hb).1
theorem bel_grn2 {w a b : World} {row : Option Nat} (h : Below w.heap.size w a) (hg : a.grownBy b row) (hr : ∀ k, row = some k → w.heap.size ≤ k) : Below w.heap.size w b := h.grown hg h.size hr
/-- A machine whose lists are the call's own, each one apart. -/
structure OwnT (base : Nat) (w : World) (t : TopoV) : Prop where
  c : w.ownsRow base 3 1 (.slice t.ca t.cs.length t.cc) t.cs.length (t.cs.map (Value.int .i64))
  d : w.ownsRow base 23 1 (.slice t.da t.ds.length t.dc) t.ds.length (t.ds.map RowV.val)
  rs : ∀ q ∈ t.ds, w.ownsRow base 3 1 q.val q.zs.length (q.zs.map (Value.int .i64))
  nc : ∀ q ∈ t.ds, ∀ b, q.val.ownBlock = some b → (Value.slice t.ca t.cs.length t.cc).ownBlock ≠ some b
  nr : ∀ (i j : Nat) (q r : RowV) (b : Nat), i ≠ j → t.ds[i]? = some q → t.ds[j]? = some r → q.val.ownBlock = some b → r.val.ownBlock ≠ some b
section
variable {base g cap : Nat} {w w' : World} {t : TopoV} {q : RowV}
theorem OwnT.inT (h : OwnT base w t) : InTopo w t := by
  obtain ⟨N, F, ca, cc, cs, da, dc, ds⟩ := t
  exact inT_of h.c h.d h.rs
theorem OwnT.below (h : OwnT base w t) (k : Below w.heap.size w w') : OwnT base w' t :=
  ⟨own_chV h.c (Ch.below k []) (by simp), own_chV h.d (Ch.below k []) (by simp), fun q hq => own_chV (h.rs q hq) (Ch.below k []) (by simp), h.nc, h.nr⟩
/-- Blocks of other kinds change. -/
theorem OwnT.far {S : List Nat} (h : OwnT base w t) (k : Ch S w w') (hS : ∀ x ∈ S, ∃ cs tt, Blk w x tt cs ∧ 3 ≠ tt ∧ 23 ≠ tt) : OwnT base w' t := by
  have key : ∀ {e s n : Nat} {v : Value} {xs : List Value}, w.ownsRow base e s v n xs → (e = 3 ∨ e = 23) → w'.ownsRow base e s v n xs := fun ho he =>
    own_chV ho k (fun i hi hm => by
      obtain ⟨cs, tt, hb, h1, h2⟩ := hS i hm
      exact own_neV ho hb (by rcases he with rfl | rfl <;> assumption) hi)
  exact ⟨key h.c (Or.inl rfl), key h.d (Or.inr rfl), fun q hq => key (h.rs q hq) (Or.inl rfl), h.nc, h.nr⟩
theorem OwnT.push (h : OwnT base w t) (hq : w.ownsRow base 3 1 q.val q.zs.length (q.zs.map (Value.int .i64)))
    (hqc : ∀ b, q.val.ownBlock = some b → (Value.slice t.ca t.cs.length t.cc).ownBlock ≠ some b) (hqr : ∀ r ∈ t.ds, ∀ b, q.val.ownBlock = some b → r.val.ownBlock ≠ some b)
    (hg : w.grownBy w' (Value.slice t.da t.ds.length t.dc).ownBlock) (ho : w'.ownsRow base 23 1 (.slice (some ⟨g, 0, none⟩) (t.ds.length + 1) cap) (t.ds.length + 1) (t.ds.map RowV.val ++ [q.val])) :
    OwnT base w' { t with da := some ⟨g, 0, none⟩, dc := cap, ds := t.ds ++ [q] } := by
  have hc : Ch (Value.slice t.da t.ds.length t.dc).ownBlock.toList w w' := ch_grown hg (fun i hi => by rw [hi]; simp)
  have ko : ∀ {n : Nat} {v : Value} {xs : List Value}, w.ownsRow base 3 1 v n xs → w'.ownsRow base 3 1 v n xs := fun hx => own_chV hx hc (fun i hi hm => by rw [Option.mem_toList] at hm; exact own_apart h.d hx (by decide) i hm hi)
  refine ⟨ko h.c, ?_, fun r hr => ?_, fun r hr => ?_, fun i j a b x hij ha hb hx => ?_⟩
  · simp only [List.length_append, List.length_singleton, List.map_append, List.map_cons, List.map_nil]
    exact ho
  · rcases List.mem_append.1 hr with hr | hr
    · exact ko (h.rs r hr)
    · rw [List.mem_singleton.1 hr]; exact ko hq
  · rcases List.mem_append.1 hr with hr | hr
    · exact h.nc r hr
    · rw [List.mem_singleton.1 hr]; exact hqc
  · have key : ∀ {k : Nat} {a : RowV}, (t.ds ++ [q])[k]? = some a → (t.ds[k]? = some a) ∨ (k = t.ds.length ∧ a = q) := by
      intro k a hk
      rw [List.getElem?_append] at hk
      split at hk
      · exact Or.inl hk
      · next hl =>
        have h2 := (List.getElem?_eq_some_iff.1 hk).1
        simp at h2
        have e : k = t.ds.length := by omega
        subst e
        simp at hk
        exact Or.inr ⟨rfl, hk.symm⟩
    rcases key ha with h1 | ⟨h1, rfl⟩
    · rcases key hb with h2 | ⟨h2, rfl⟩
      · exact h.nr i j a b x hij h1 h2 hx
      · intro hy
        exact hqr a (List.mem_of_getElem? h1) x hy hx
    · rcases key hb with h2 | ⟨h2, rfl⟩
      · exact hqr b (List.mem_of_getElem? h2) x hx
      · exact absurd (h1.trans h2.symm) hij
end
def RowCap (D : List RowV) : Prop := ∀ r ∈ D, r.zs.length ≤ r.c
def RowV.cut (n : Nat) (r : RowV) : RowV := { r with zs := r.zs.take n }
def tameM (t : TopoV) : TopoV := { t with cs := t.cs.take 20, ds := (t.ds.take 10).map (RowV.cut 10) }
theorem min_nat (x k : Nat) : ∃ n : Nat, n ≤ x ∧ n ≤ k ∧ min (x : Int) (k : Int) = (n : Int) ∧ (∀ {α : Type} (l : List α), l.length = x → (l.take k).length = n ∧ l.take k = l.take n) := by
  refine ⟨min x k, by omega, by omega, by omega, fun l hl => ⟨by rw [List.length_take, hl]; omega, ?_⟩⟩
  rw [List.take_eq_take_iff, hl]
  omega
theorem info_int3 : (Tryd.prog.info? 3).map (fun i => (i.zero, i.size, i.bytes)) = some (some (.int .i64 0), 1, 8) := by kernel_rfl
theorem ints_ok3 (l : List Int) : ∀ u ∈ l.map (Value.int .i64), u.oneCell' = true := by intro u hu; obtain ⟨z, _, rfl⟩ := List.mem_map.1 hu; rfl
set_option maxRecDepth 100000 in
set_option maxHeartbeats 4000000 in
theorem tame_any (t : TopoV) (w : World) (hT : InTopo w t) (hcc : t.cs.length ≤ t.cc) (hrc : RowCap t.ds) : Calls Tryd.prog 25 #[t.val] w fun e w' => (∃ t', e = .returned (TopoV.val t') ∧ OwnT w.heap.size w' t' ∧ sameT t' (tameM t)) ∧ Below w.heap.size w w' := by
  obtain ⟨N, F, ca, cc, cs, da, dc, ds⟩ := t
  have hI := hT.c
  have hD := hT.d
  have hc63 := hT.c63
  have hd63 := hT.d63
  simp only [TopoV.val] at *
  obtain ⟨n, hnx, hn20, hmin, hnl⟩ := min_nat cs.length 20
  obtain ⟨hn1, hn2⟩ := hnl cs rfl
  have hIn := hI.take hnx
  have hcs20 : cs.take 20 = cs.take n := hn2
  have hln : (cs.take n).length = n := by rw [← hn2]; exact hn1
  generalize cs.take n = CS at *
  obtain rfl : n = CS.length := hln.symm
  have hcut := fun w => cut_ints ca cs.length cc CS.length (CS.length : Int) rfl (by omega) w
  have hR := hIn.reads
  have HI := Lib.hid hR; have HD := Lib.hid hD; have HC := Lib.hid hrc; have HCS := Lib.hid hcs20
  clear hT hI hD hIn hR hrc hnl hn1 hn2 hln hcs20
  obtain ⟨i0, hi0, hz0, hz1, hz2⟩ := info_parts info_int3
  have HI0 := Lib.hid hi0; have HZ0 := Lib.hid hz0; have HZ1 := Lib.hid hz1; have HZ2 := Lib.hid hz2
  obtain ⟨ie, he0, hez, he1, he2⟩ := info_parts info_row
  have HE0 := Lib.hid he0; have HEZ := Lib.hid hez; have HE1 := Lib.hid he1; have HE2 := Lib.hid he2
  clear hi0 hz0 hz1 hz2 he0 hez he1 he2
  generalize hcl : cs.length = x at *
  have hmin2 : min (x : Int) 20 = (CS.length : Int) := by omega
  clear hmin hcl
  go_enter Tryd.func25, Tryd.ntmps25
  go_upto_region 1 with fail
  have hb1 := (Blk.new w 48 [.int .i64 N, .int .i64 F, .slice ca x cc, .slice da ds.length dc]).alloc (.cells #[.int .i64 0, .int .i64 0, .slice none 0 0, .slice none 0 0] 48)
  have hb2 := Blk.new (w.alloc (.cells #[.int .i64 N, .int .i64 F, .slice ca x cc, .slice da ds.length dc] 48)) 48 [.int .i64 0, .int .i64 0, .slice none 0 0, .slice none 0 0]
  rw [show (w.alloc (.cells #[.int .i64 N, .int .i64 F, .slice ca x cc, .slice da ds.length dc] 48)).heap.size = w.heap.size + 1 by simp] at hb2
  have hBA := bel_alloc (bel_alloc (Below.refl w.heap.size w) (.cells #[.int .i64 N, .int .i64 F, .slice ca x cc, .slice da ds.length dc] 48)) (.cells #[.int .i64 0, .int .i64 0, .slice none 0 0, .slice none 0 0] 48)
  have hb1 : Blk ((w.alloc (.cells #[.int .i64 N, .int .i64 F, .slice ca x cc, .slice da ds.length dc] 48)).alloc (.cells #[.int .i64 0, .int .i64 0, .slice none 0 0, .slice none 0 0] 48)) w.heap.size 48 [.int .i64 N, .int .i64 F, .slice ca x cc, .slice da ds.length dc] := hb1
  have hb2 : Blk ((w.alloc (.cells #[.int .i64 N, .int .i64 F, .slice ca x cc, .slice da ds.length dc] 48)).alloc (.cells #[.int .i64 0, .int .i64 0, .slice none 0 0, .slice none 0 0] 48)) (w.heap.size + 1) 48 [.int .i64 0, .int .i64 0, .slice none 0 0, .slice none 0 0] := hb2
  generalize (w.alloc (.cells #[.int .i64 N, .int .i64 F, .slice ca x cc, .slice da ds.length dc] 48)).alloc (.cells #[.int .i64 0, .int .i64 0, .slice none 0 0, .slice none 0 0] 48) = wA at *
  have q2 := hb1.at_ (i := 2) rfl
  have hsA := hb2.lt
  have hsA1 : w.heap.size < wA.heap.size := hb1.lt
  have hown := own_made0 wA w.heap.size 3 1 (by omega)
  have hba : Below wA.heap.size wA (wA.alloc (.cells #[] 3)) := bel_alloc (Below.refl _ _) _
  have hrd := HI.out.below (bel_alloc hBA (.cells #[] 3))
  have HO := Lib.hid hown; have HR := Lib.hid hrd; have HBA := Lib.hid hBA; have HB1 := Lib.hid hb1; have HB2 := Lib.hid hb2; have HBa := Lib.hid hba
  clear hown hrd hBA hb1 hb2 hba HI
  go_wp2_with (at_builtin; refine wpList_append_any _ rfl (.tmp 5) (.tmp 12) 23 rfl w.heap.size 3 i0 _ 1 8 Tryd.underlying23 HI0.out HZ0.out HZ1.out HZ2.out rfl (by omega) (.slice (some ⟨wA.heap.size, 0, none⟩) 0 0) 0 [] rfl HO.out w.heap.size ca CS.length cc (CS.map (Value.int .i64)) rfl HR.out (ints_ok3 _) (by unfold maxLen; omega) (by omega) (by simp; omega) ?_)
  intro vA w4 hown4 hgr4 hor4
  obtain ⟨A4, c4, rfl⟩ := own_any hown4
  have hB4 : Below wA.heap.size wA w4 := bel_grn2 HBa.out hgr4 (fun q hq => by simp only [Value.ownBlock, Option.some.injEq] at hq; omega)
  have hb1 := HB1.out.below hB4
  have hb2 := HB2.out.below hB4
  have hBw := bel_trans HBA.out hB4
  have hO4 : OwnT w.heap.size w4 ⟨N, F, A4, c4, CS, none, 0, []⟩ := ⟨hown4, ⟨rfl, Or.inl ⟨rfl, rfl⟩⟩, by simp, by simp, by simp⟩
  have hcs4 : Ch [w.heap.size] w4 (w4.setCell ⟨w.heap.size, 2, none⟩ (.slice A4 CS.length c4)) := (Ch.refl [w.heap.size] w4).set (p := ⟨w.heap.size, 2, none⟩) (by simp) _
  have hO5 := hO4.far hcs4 (fun y hy => by rw [List.mem_singleton] at hy; subst hy; exact ⟨_, _, hb1, by decide, by decide⟩)
  have hb15 := hb1.set_ 2 (.slice A4 CS.length c4)
  have hb25 := hb2.ch hcs4 (by simp)
  have hB5 := bel_ch hBw hcs4 (by simp)
  have q2 := hb1.at_ (i := 2) rfl
  have f2 := hb1.frozen 2
  have HO5 := Lib.hid hO5; have HB15 := Lib.hid hb15; have HB25 := Lib.hid hb25; have HB5 := Lib.hid hB5
  clear hown4 hgr4 hor4 hO4 hcs4 hO5 hb15 hb25 hB5 hBw hB4 hb1 hb2 HO HR HBA HB1 HB2 HBa
  go_wp2_with fail
  go_loopw [3, 4] (fun v3 v4 wr => ∃ (i : Nat) (rows : List RowV) (D : Option Addr) (d : Nat), i ≤ ds.length ∧ i ≤ 10 ∧ rows.length = i ∧ v4 = .int .i64 (i : Int) ∧ v3 = .slice D rows.length d ∧ OwnT w.heap.size wr ⟨N, F, A4, c4, CS, D, d, rows⟩ ∧ rows.map RowV.zs = (ds.take i).map (fun r => r.zs.take 10) ∧ Blk wr w.heap.size 48 [.int .i64 N, .int .i64 F, .slice A4 CS.length c4, .slice da ds.length dc] ∧ Blk wr (w.heap.size + 1) 48 [.int .i64 0, .int .i64 0, .slice none 0 0, .slice none 0 0] ∧ Below w.heap.size w wr) (fun _ v4 _ => 10 - (intOf v4).toNat)
  case atStart => exact ⟨0, [], none, 0, by omega, by omega, rfl, rfl, rfl, HO5.out, rfl, HB15.out, HB25.out, HB5.out⟩
  case round =>
    clear HO5 HB15 HB25 HB5 q2 f2
    obtain ⟨i, rows, D, d, hi, hi10, hrl, rfl, rfl, hO, hrow, hb1, hb2, hB⟩ := hrel
    have m3 := hb1.at_ (i := 3) rfl
    have HO := Lib.hid hO; have HRW := Lib.hid hrow; have HB1 := Lib.hid hb1; have HB2 := Lib.hid hb2; have HB := Lib.hid hB; have HRL := Lib.hid hrl
    clear hO hrow hb1 hb2 hB
    by_cases hgo : i < ds.length ∧ i < 10
    · obtain ⟨h1, h2⟩ := hgo
      obtain ⟨b, off, r, rfl, hb, hri, hcell, hI, h63⟩ := HD.out.get h1
      have kv := (HB.out.cell (p := ⟨b, off + i, none⟩) hb).trans hcell
      have hix := fun w => idx_rows b off ds.length dc i h1 w
      obtain ⟨n2, hn2x, hn210, hmin2, hnl2⟩ := min_nat r.zs.length 10
      obtain ⟨hn3, hn4⟩ := hnl2 r.zs rfl
      have hrc := HC.out r (List.mem_of_getElem? hri)
      have hIn := (hI.take hn2x).reads
      have hln : (r.zs.take n2).length = n2 := by rw [← hn4]; exact hn3
      have htk : (ds.take (i + 1)).map (fun r => r.zs.take 10) = (ds.take i).map (fun r => r.zs.take 10) ++ [r.zs.take 10] := by
        rw [List.take_add_one, hri, List.map_append]; rfl
      rw [hn4] at htk
      have hcut2 := fun w => cut_ints r.a r.zs.length r.c n2 (n2 : Int) rfl (by omega) w
      have hmin3 : min (r.zs.length : Int) 10 = (n2 : Int) := by omega
      generalize hZS : r.zs.take n2 = ZS at *
      obtain rfl : n2 = ZS.length := hln.symm
      have HTK := Lib.hid htk
      generalize hrl2 : r.zs.length = rlen at *
      generalize r.a = ra at *
      generalize r.c = rc at *
      clear hcell hI h63 hn3 hn4 hnl2 hln htk hri hZS hmin2 hrl hrl2 hrc
      have hRd := hIn.below HB.out
      have hwr := HB.out.size
      have HRd := Lib.hid hRd
      have hm1 := HB1.out.lt
      clear hIn hRd
      have hw1 : w.heap.size < wr.heap.size := by omega
      have hbw : b < wr.heap.size := by omega
      have hrl10 : rows.length ≤ 10 := by have := HRL.out; omega
      have hE : (wr.alloc (.cells #[] 3)).ownsRow wr.heap.size 3 1 (.slice (some ⟨wr.heap.size, 0, none⟩) 0 0) 0 [] := own_made wr 3
      have hBe : Below wr.heap.size wr (wr.alloc (.cells #[] 3)) := bel_alloc (Below.refl _ _) _
      have hE2 : (wr.alloc (.cells #[] 3)).drew.ownsRow wr.heap.size 3 1 (.slice (some ⟨wr.heap.size, 0, none⟩) 0 0) 0 [] := hE
      have hRd2 := (HRd.out.alloc (by omega) (.cells #[] 3)).drew
      have hBe2 := bel_drew hBe
      have HE := Lib.hid hE2; have HBe := Lib.hid hBe2; have HRd2 := Lib.hid hRd2
      clear hE hBe hE2 hBe2 hRd2
      have hneP : some w.heap.size ≠ (Value.slice D rows.length d).ownBlock := Ne.symm (own_neV HO.out.d HB1.out (by decide))
      have hneB : some b ≠ (Value.slice D rows.length d).ownBlock := fun e => by
        have := own_bge HO.out.d e.symm
        omega
      have HNP := Lib.hid hneP; have HNB := Lib.hid hneB
      clear hneP hneB
      have h1i : (i : Int) < (ds.length : Int) := by omega
      have h2i : (i : Int) < 10 := by omega
      go_upto_region 6 with fail
      go_region_held3 (fun w' => w'.cell? ⟨w.heap.size, 3, none⟩ = some (.slice (some ⟨b, off, none⟩) ds.length dc) ∧ w'.cell? ⟨b, off + i, none⟩ = some (.slice ra rlen rc))
        (first | exact ⟨hk3, hk4⟩ | exact ⟨hk1, hk2⟩ | go_keep)
        (first
          | (refine step_append_any _ (by rfl) (.tmp 27) (.tmp 40) _ (by rfl) wr.heap.size 3 i0 _ 1 8 Tryd.underlying23 HI0.out HZ0.out HZ1.out HZ2.out rfl (by omega) (.slice (some ⟨wr.heap.size, 0, none⟩) 0 0) 0 [] (by rfl) HE.out w.heap.size ra ZS.length rc (ZS.map (Value.int .i64)) (by rfl) HRd2.out (ints_ok3 _) (by unfold maxLen; omega) (by omega) (by first | omega | simp | exact HBe.out.size) ?_; intro vA w5 ho5 hg5 hor5; obtain ⟨A5, c5, rfl⟩ := own_any ho5; have hB5 : Below wr.heap.size wr w5 := bel_grn2 HBe.out hg5 (fun q hq => by simp only [Value.ownBlock, Option.some.injEq] at hq; omega); have hk1 := (hB5.cell (p := ⟨w.heap.size, 3, none⟩) hw1).trans m3; have hk2 := (hB5.cell (p := ⟨b, off + i, none⟩) hbw).trans kv; have hO5 := HO.out.below hB5; have hOD := own_chV hO5.d ((Ch.refl [] w5).alloc (.cells #[.slice A5 ZS.length c5] 23)) (by simp); have hsz5 := hB5.size; have hw15 := Nat.lt_of_lt_of_le hw1 hsz5; have hbw5 := Nat.lt_of_lt_of_le hbw hsz5)
          | (refine step_append_lies _ (by rfl) (.tmp 26) (.tmp 42) _ (by rfl) w.heap.size 23 ie _ 1 24 Tryd.underlying46 HE0.out HEZ.out HE1.out HE2.out rfl (by omega) (.slice D rows.length d) rows.length (rows.map RowV.val) (by rfl) hOD
              ⟨w5.heap.size, 0, none⟩ 1 1 [.slice A5 ZS.length c5] (by rfl) (by rfl) (World.news_of_block (heap_alloc_new w5 _)) (by simp [Value.oneCell']) (by omega) (by unfold maxLen; omega) (by omega) (by simp; omega) _ rfl ?_; intro gg cap w6 hown6 hgrow6 hat6 hlt6; have hk3 := (hgrow6.cell_far ⟨w.heap.size, 3, none⟩ (show w.heap.size < (w5.alloc _).heap.size from (by simp; omega)) HNP.out).trans ((World.cell?_alloc_lt w5 _ ⟨w.heap.size, 3, none⟩ hw15).trans hk1); have hk4 := (hgrow6.cell_far ⟨b, off + i, none⟩ (show b < (w5.alloc _).heap.size from (by simp; omega)) HNB.out).trans ((World.cell?_alloc_lt w5 _ ⟨b, off + i, none⟩ hbw5).trans hk2)))
      all_goals
        have ho5' : w5.ownsRow wr.heap.size 3 1 (.slice A5 ZS.length c5) ZS.length (ZS.map (Value.int .i64)) := by simpa using ho5
        have hq7 := own_chV (own_base0 ho5' hwr) ((Ch.refl [] w5).alloc (.cells #[.slice A5 ZS.length c5] 23)) (by simp)
        have hO7 := hO5.below (bel_alloc (Below.refl _ w5) (.cells #[.slice A5 ZS.length c5] 23))
        have hO8 := OwnT.push (q := ⟨A5, c5, ZS⟩) hO7 hq7 (fun y hy hz => by
            have h3 := own_bge ho5' hy
            have h4 := own_blt HO.out.c hz
            omega) (fun r hr y hy hz => by
            have h3 := own_bge ho5' hy
            have h4 := own_blt (HO.out.rs r hr) hz
            omega) hgrow6 hown6
        have hb17 := (HB1.out.below hB5).alloc (.cells #[.slice A5 ZS.length c5] 23)
        have hb27 := (HB2.out.below hB5).alloc (.cells #[.slice A5 ZS.length c5] 23)
        have hc6 : Ch (Value.slice D rows.length d).ownBlock.toList (w5.alloc (.cells #[.slice A5 ZS.length c5] 23)) w6 := ch_grown hgrow6 (fun y hy => by rw [hy]; simp)
        have hb18 := hb17.ch hc6 (fun hm => by rw [Option.mem_toList] at hm; exact own_neV hO7.d hb17 (by decide) hm)
        have hb28 := hb27.ch hc6 (fun hm => by rw [Option.mem_toList] at hm; exact own_neV hO7.d hb27 (by decide) hm)
        have hB8 := bel_grn2 (bel_alloc (bel_trans HB.out hB5) (.cells #[.slice A5 ZS.length c5] 23)) hgrow6 (fun k hk => own_bge hO7.d hk)
        have HO8 := Lib.hid hO8; have HB18 := Lib.hid hb18; have HB28 := Lib.hid hb28; have HB8 := Lib.hid hB8
        clear ho5 ho5' hq7 hO7 hO8 hb17 hb27 hc6 hb18 hb28 hB8 hO5 hOD hown6 hgrow6 hg5 hor5 hB5 hk1 hk2 hk3 hk4 hat6 hlt6
        go_wp2_with fail
        go_roundw
        case rel => exact ⟨i + 1, _, _, _, by omega, by omega, by rw [List.length_append, HRL.out]; rfl, by go_num, by rw [List.length_append]; rfl, HO8.out, by rw [HTK.out, List.map_append, HRW.out]; rfl, HB18.out, HB28.out, HB8.out⟩
        case measure => simp [intOf]; omega
    · -- the end
      have hf := HB1.out.frozen 3
      have hsetb : Blk (wr.setCell ⟨w.heap.size, 3, none⟩ (.slice D rows.length d)) w.heap.size 48 [.int .i64 N, .int .i64 F, .slice A4 CS.length c4, .slice D rows.length d] := HB1.out.set_ 3 _
      have hc1 : Ch [w.heap.size] wr (wr.setCell ⟨w.heap.size, 3, none⟩ (.slice D rows.length d)) := (Ch.refl [w.heap.size] wr).set (p := ⟨w.heap.size, 3, none⟩) (by simp) _
      have hO9 := HO.out.far hc1 (fun y hy => by rw [List.mem_singleton] at hy; subst hy; exact ⟨_, _, HB1.out, by decide, by decide⟩)
      have hb29 := HB2.out.ch hc1 (by simp)
      have hB9 := bel_ch HB.out hc1 (by simp)
      have hdl : (ds.take i).map (fun r => r.zs.take 10) = (((ds.take 10).map (RowV.cut 10)).map RowV.zs) := by
        have : ds.take i = ds.take 10 := by
          rw [List.take_eq_take_iff]
          omega
        rw [this, List.map_map]
        rfl
      have HDL := Lib.hid hdl; have HSB := Lib.hid hsetb; have HO9 := Lib.hid hO9; have HB29 := Lib.hid hb29; have HB9 := Lib.hid hB9
      clear hdl hsetb hc1 hO9 hb29 hB9
      rcases (by omega : ¬ i < ds.length ∨ (i < ds.length ∧ ¬ i < 10)) with hx | ⟨hx, hy⟩
      all_goals
        clear hgo hrl
        have hq3 := HB1.out.at_ (i := 3) rfl
        have j0 := HSB.out.at_ (i := 0) rfl
        have j1 := HSB.out.at_ (i := 1) rfl
        have j2 := HSB.out.at_ (i := 2) rfl
        have j3 := HSB.out.at_ (i := 3) rfl
        have g0 := HB29.out.at_ (i := 0) rfl
        have g1 := HB29.out.at_ (i := 1) rfl
        have g2 := HB29.out.at_ (i := 2) rfl
        have g3 := HB29.out.at_ (i := 3) rfl
        have f0 := HB29.out.frozen 0
        have f1 := HB29.out.frozen 1
        have f2 := HB29.out.frozen 2
        have f3 := HB29.out.frozen 3
        go_upto_region 8 with fail
        generalize wr.setCell ⟨w.heap.size, 3, none⟩ (.slice D rows.length d) = wz at *
        have hset : Blk ((((wz.setCell ⟨w.heap.size + 1, 0, none⟩ (.int .i64 N)).setCell ⟨w.heap.size + 1, 1, none⟩ (.int .i64 F)).setCell ⟨w.heap.size + 1, 2, none⟩ (.slice A4 CS.length c4)).setCell ⟨w.heap.size + 1, 3, none⟩ (.slice D rows.length d)) (w.heap.size + 1) 48 [.int .i64 N, .int .i64 F, .slice A4 CS.length c4, .slice D rows.length d] ∧ Ch [w.heap.size + 1] wz ((((wz.setCell ⟨w.heap.size + 1, 0, none⟩ (.int .i64 N)).setCell ⟨w.heap.size + 1, 1, none⟩ (.int .i64 F)).setCell ⟨w.heap.size + 1, 2, none⟩ (.slice A4 CS.length c4)).setCell ⟨w.heap.size + 1, 3, none⟩ (.slice D rows.length d)) :=
          ⟨(((HB29.out.set_ 0 _).set_ 1 _).set_ 2 _).set_ 3 _, ((((Ch.refl [w.heap.size + 1] wz).set (p := ⟨w.heap.size + 1, 0, none⟩) (by simp) _).set (p := ⟨w.heap.size + 1, 1, none⟩) (by simp) _).set (p := ⟨w.heap.size + 1, 2, none⟩) (by simp) _).set (p := ⟨w.heap.size + 1, 3, none⟩) (by simp) _⟩
        have hO10 := HO9.out.far hset.2 (fun y hy => by rw [List.mem_singleton] at hy; subst hy; exact ⟨_, _, HB29.out, by decide, by decide⟩)
        have hB10 := bel_ch HB9.out hset.2 (by simp)
        have HST := Lib.hid hset.1; have HO10 := Lib.hid hO10; have HB10 := Lib.hid hB10
        clear hset hO10 hB10
        go_wp2_with fail
        exact bodyPost_ret (results_cell_row Tryd.results25 _ _ (w.heap.size + 1) 48 _ (0, 0) _ rfl HST.out Tryd.underlying48 rfl (by kernel_rfl)) rfl ⟨⟨⟨N, F, A4, c4, CS, D, d, rows⟩, rfl, HO10.out, ⟨rfl, rfl, HCS.out.symm, by rw [HRW.out]; exact HDL.out⟩⟩, HB10.out⟩
end Go.Proofs.YtcanhegjhbhkhaaDoor
