/- messuagelaw03: to. -/
import Derived.Test.YtcanhegjhbhkhaaDoorTopoCopy
namespace Go.Proofs.YtcanhegjhbhkhaaDoor
open Go.RowKit Go.Shelf
set_option linter.unusedVariables false
set_option linter.unusedSimpArgs false
attribute [local go_sem] World.cell?_alloc_lt

/-- A slot of the frame, looked at first: tells the ways of a region apart. -/
theorem step_guard {P : Program} {ops : Array Oper} {o : Oper} {a : Act} {w : World} {K : Act → World → Prop} {Q : Exit → Act → World → Prop} {E : Prop} (k : Tmp) (v : Value) (h : a.eval (.tmp k) = v) (g : if Region.wanted o (yielded ops a.tmps) = true then Oper.wp P o a w K Q else E) : if Region.wanted o (yielded ops a.tmps) = true then Oper.wp P o a w K Q else E := g
/-- What the loop of 'to' keeps. -/
structure ToS (w wz : World) (p3 : Nat) (N F : Int) (ca : Option Addr) (cc : Nat) (cs : List Int) (da : Option Addr) (dc n : Nat) (A5 : Option Addr) (c5 : Nat) (rows : List RowV) (D : Option Addr) (d : Nat) : Prop where
  b1 : Blk wz w.heap.size 48 [.int .i64 N, .int .i64 F, .slice ca cs.length cc, .slice da n dc]
  b2 : Blk wz (w.heap.size + 1) 53 [.int .i64 0, .int .i64 0, .slice none 0 0, .slice none 0 0]
  b3 : Blk wz p3 53 [.int .i64 N, .int .i64 F, .slice A5 cs.length c5, .slice D rows.length d]
  o : OwnT w.heap.size wz ⟨N, F, A5, c5, cs, D, d, rows⟩
  bel : Below w.heap.size w wz
  n2 : p3 ≠ w.heap.size + 1
  ge : w.heap.size ≤ p3
section
variable {w w5 : World} {p3 : Nat} {N F : Int} {ca da A5 D : Option Addr} {cc dc n c5 d : Nat} {cs : List Int} {rows : List RowV}
theorem ToS.start_a (hb1 : Blk w5 w.heap.size 48 [.int .i64 N, .int .i64 F, .slice ca cs.length cc, .slice da n dc]) (hb2 : Blk w5 (w.heap.size + 1) 53 [.int .i64 0, .int .i64 0, .slice none 0 0, .slice none 0 0]) (ho : w5.ownsRow w.heap.size 3 1 (.slice A5 cs.length c5) cs.length (cs.map (Value.int .i64))) (hB : Below w.heap.size w w5) :
    ToS w (w5.alloc (.cells #[.int .i64 N, .int .i64 F, .slice A5 cs.length c5, .slice none 0 0] 53)) w5.heap.size N F ca cc cs da dc n A5 c5 [] none 0 :=
  ⟨hb1.alloc _, hb2.alloc _, Blk.new w5 53 [.int .i64 N, .int .i64 F, .slice A5 cs.length c5, .slice none 0 0], ⟨own_chV ho ((Ch.refl [] w5).alloc _) (by simp), ⟨rfl, Or.inl ⟨rfl, rfl⟩⟩, by simp, by simp, by simp⟩, bel_alloc hB _, by have := hb2.lt; omega, hB.size⟩
theorem ToS.start_b (hb1 : Blk w5 w.heap.size 48 [.int .i64 N, .int .i64 F, .slice ca cs.length cc, .slice da n dc]) (hb2 : Blk w5 (w.heap.size + 1) 53 [.int .i64 0, .int .i64 0, .slice none 0 0, .slice none 0 0]) (ho : w5.ownsRow w.heap.size 3 1 (.slice A5 cs.length c5) cs.length (cs.map (Value.int .i64))) (hB : Below w.heap.size w w5)
    (hb3 : Blk w5 p3 53 [.int .i64 0, .int .i64 0, .slice none 0 0, .slice none 0 0]) (h3 : w.heap.size + 1 < p3) :
    ToS w ((((w5.setCell ⟨p3, 0, none⟩ (.int .i64 N)).setCell ⟨p3, 1, none⟩ (.int .i64 F)).setCell ⟨p3, 2, none⟩ (.slice A5 cs.length c5)).setCell ⟨p3, 3, none⟩ (.slice none 0 0)) p3 N F ca cc cs da dc n A5 c5 [] none 0 := by
  have hc : Ch [p3] w5 ((((w5.setCell ⟨p3, 0, none⟩ (.int .i64 N)).setCell ⟨p3, 1, none⟩ (.int .i64 F)).setCell ⟨p3, 2, none⟩ (.slice A5 cs.length c5)).setCell ⟨p3, 3, none⟩ (.slice none 0 0)) :=
    ((((Ch.refl [p3] w5).set (p := ⟨p3, 0, none⟩) (by simp) _).set (p := ⟨p3, 1, none⟩) (by simp) _).set (p := ⟨p3, 2, none⟩) (by simp) _).set (p := ⟨p3, 3, none⟩) (by simp) _
  exact ⟨hb1.ch hc (by simp; omega), hb2.ch hc (by simp; omega), (((hb3.set_ 0 _).set_ 1 _).set_ 2 _).set_ 3 _, ⟨own_chV ho hc (fun i hi hm => by rw [List.mem_singleton] at hm; subst hm; exact own_neV ho hb3 (by decide) hi), ⟨rfl, Or.inl ⟨rfl, rfl⟩⟩, by simp, by simp, by simp⟩, bel_ch hB hc (by simp; omega), by omega, by omega⟩
end
set_option maxRecDepth 100000 in
set_option maxHeartbeats 8000000 in
theorem to_any (t : TopoV) (w : World) (hT : InTopo w t) (hcl : t.cs.length ≤ 1000) (hdl : t.ds.length ≤ 1000) (hrl : ∀ r ∈ t.ds, r.zs.length ≤ 1000) : Calls Tryd.prog 31 #[t.val] w fun e w' => (∃ t', e = .returned (TopoV.val t') ∧ OwnT w.heap.size w' t' ∧ sameT t' t) ∧ Below w.heap.size w w' := by
  obtain ⟨N, F, ca, cc, cs, da, dc, ds⟩ := t
  have hI := hT.c
  have hD := hT.d
  simp only [TopoV.val] at *
  have hR := hI.reads
  have HI := Lib.hid hR; have HD := Lib.hid hD; have HRL0 := Lib.hid hrl
  clear hT hI hD hR hrl
  obtain ⟨i0, hi0, hz0, hz1, hz2⟩ := info_parts info_int3
  have HI0 := Lib.hid hi0; have HZ0 := Lib.hid hz0; have HZ1 := Lib.hid hz1; have HZ2 := Lib.hid hz2
  obtain ⟨ie, he0, hez, he1, he2⟩ := info_parts info_row
  have HE0 := Lib.hid he0; have HEZ := Lib.hid hez; have HE1 := Lib.hid he1; have HE2 := Lib.hid he2
  clear hi0 hz0 hz1 hz2 he0 hez he1 he2
  go_enter Tryd.func31, Tryd.ntmps31
  go_upto_region 1 with fail
  have hb1 : Blk ((w.alloc (.cells #[.int .i64 N, .int .i64 F, .slice ca cs.length cc, .slice da ds.length dc] 48)).alloc (.cells #[.int .i64 0, .int .i64 0, .slice none 0 0, .slice none 0 0] 53)) w.heap.size 48 [.int .i64 N, .int .i64 F, .slice ca cs.length cc, .slice da ds.length dc] := (Blk.new w 48 [.int .i64 N, .int .i64 F, .slice ca cs.length cc, .slice da ds.length dc]).alloc (.cells #[.int .i64 0, .int .i64 0, .slice none 0 0, .slice none 0 0] 53)
  have hb2 := Blk.new (w.alloc (.cells #[.int .i64 N, .int .i64 F, .slice ca cs.length cc, .slice da ds.length dc] 48)) 53 [.int .i64 0, .int .i64 0, .slice none 0 0, .slice none 0 0]
  rw [show (w.alloc (.cells #[.int .i64 N, .int .i64 F, .slice ca cs.length cc, .slice da ds.length dc] 48)).heap.size = w.heap.size + 1 by simp] at hb2
  have hb2 : Blk ((w.alloc (.cells #[.int .i64 N, .int .i64 F, .slice ca cs.length cc, .slice da ds.length dc] 48)).alloc (.cells #[.int .i64 0, .int .i64 0, .slice none 0 0, .slice none 0 0] 53)) (w.heap.size + 1) 53 [.int .i64 0, .int .i64 0, .slice none 0 0, .slice none 0 0] := hb2
  have hBA := bel_alloc (bel_alloc (Below.refl w.heap.size w) (.cells #[.int .i64 N, .int .i64 F, .slice ca cs.length cc, .slice da ds.length dc] 48)) (.cells #[.int .i64 0, .int .i64 0, .slice none 0 0, .slice none 0 0] 53)
  generalize (w.alloc (.cells #[.int .i64 N, .int .i64 F, .slice ca cs.length cc, .slice da ds.length dc] 48)).alloc (.cells #[.int .i64 0, .int .i64 0, .slice none 0 0, .slice none 0 0] 53) = wA at *
  have m0 := hb1.at_ (i := 0) rfl
  have m1 := hb1.at_ (i := 1) rfl
  have m2 := hb1.at_ (i := 2) rfl
  have hsA := hb2.lt
  have hw1 : w.heap.size < wA.heap.size := hb1.lt
  have hEa : (wA.alloc (.cells #[] 3)).drew.ownsRow w.heap.size 3 1 (.slice (some ⟨wA.heap.size, 0, none⟩) 0 0) 0 [] := own_made0 wA w.heap.size 3 1 (by omega)
  have hEb0 := own_chV (own_made0 wA w.heap.size 3 1 (by omega)) ((Ch.refl [] (wA.alloc (.cells #[] 3))).alloc (.cells #[.int .i64 0, .int .i64 0, .slice none 0 0, .slice none 0 0] 53)) (by simp)
  have hEb : ((wA.alloc (.cells #[] 3)).alloc (.cells #[.int .i64 0, .int .i64 0, .slice none 0 0, .slice none 0 0] 53)).drew.ownsRow w.heap.size 3 1 (.slice (some ⟨wA.heap.size, 0, none⟩) 0 0) 0 [] := hEb0
  clear hEb0
  have hEc : ((wA.alloc (.cells #[.int .i64 0, .int .i64 0, .slice none 0 0, .slice none 0 0] 53)).alloc (.cells #[] 3)).drew.ownsRow w.heap.size 3 1 (.slice (some ⟨wA.heap.size + 1, 0, none⟩) 0 0) 0 [] := by
    have := own_made0 (wA.alloc (.cells #[.int .i64 0, .int .i64 0, .slice none 0 0, .slice none 0 0] 53)) w.heap.size 3 1 (by simp; omega)
    rw [show (wA.alloc (.cells #[.int .i64 0, .int .i64 0, .slice none 0 0, .slice none 0 0] 53)).heap.size = wA.heap.size + 1 by simp] at this
    exact this
  have hRa := ((HI.out.below hBA).alloc (by omega) (.cells #[] 3)).drew
  have hRb := (((HI.out.below hBA).alloc (by omega) (.cells #[] 3)).alloc (by simp; omega) (.cells #[.int .i64 0, .int .i64 0, .slice none 0 0, .slice none 0 0] 53)).drew
  have hRc := (((HI.out.below hBA).alloc (by omega) (.cells #[.int .i64 0, .int .i64 0, .slice none 0 0, .slice none 0 0] 53)).alloc (by simp; omega) (.cells #[] 3)).drew
  have hBa := bel_drew (bel_alloc (Below.refl wA.heap.size wA) (.cells #[] 3))
  have hBb := bel_drew (bel_alloc (bel_alloc (Below.refl wA.heap.size wA) (.cells #[] 3)) (.cells #[.int .i64 0, .int .i64 0, .slice none 0 0, .slice none 0 0] 53))
  have hBc := bel_drew (bel_alloc (bel_alloc (Below.refl wA.heap.size wA) (.cells #[.int .i64 0, .int .i64 0, .slice none 0 0, .slice none 0 0] 53)) (.cells #[] 3))
  have hZb : Blk ((wA.alloc (.cells #[] 3)).alloc (.cells #[.int .i64 0, .int .i64 0, .slice none 0 0, .slice none 0 0] 53)).drew (wA.heap.size + 1) 53 [.int .i64 0, .int .i64 0, .slice none 0 0, .slice none 0 0] := by
    have := (Blk.new (wA.alloc (.cells #[] 3)) 53 [.int .i64 0, .int .i64 0, .slice none 0 0, .slice none 0 0]).drew
    rw [show (wA.alloc (.cells #[] 3)).heap.size = wA.heap.size + 1 by simp] at this
    exact this
  have hZc : Blk ((wA.alloc (.cells #[.int .i64 0, .int .i64 0, .slice none 0 0, .slice none 0 0] 53)).alloc (.cells #[] 3)).drew wA.heap.size 53 [.int .i64 0, .int .i64 0, .slice none 0 0, .slice none 0 0] :=
    ((Blk.new wA 53 [.int .i64 0, .int .i64 0, .slice none 0 0, .slice none 0 0]).alloc _).drew
  have hkp : ∀ w5 : World, Below wA.heap.size wA w5 → (w5.cell? ⟨w.heap.size, 0, none⟩ = some (.int .i64 N) ∧ w5.cell? ⟨w.heap.size, 1, none⟩ = some (.int .i64 F) ∧ w5.cell? ⟨w.heap.size, 2, none⟩ = some (.slice ca cs.length cc)) ∧ w.heap.size < w5.heap.size := fun w5 hB5 =>
    ⟨⟨(hB5.cell (p := ⟨w.heap.size, 0, none⟩) hw1).trans m0, (hB5.cell (p := ⟨w.heap.size, 1, none⟩) hw1).trans m1, (hB5.cell (p := ⟨w.heap.size, 2, none⟩) hw1).trans m2⟩, Nat.lt_of_lt_of_le hw1 hB5.size⟩
  have HKP := Lib.hid hkp
  have hks : ∀ (w5 : World) (p3 : Nat) (v0 v1 v2 v3 : Value), p3 ≠ w.heap.size → (w5.cell? ⟨w.heap.size, 0, none⟩ = some (.int .i64 N) ∧ w5.cell? ⟨w.heap.size, 1, none⟩ = some (.int .i64 F) ∧ w5.cell? ⟨w.heap.size, 2, none⟩ = some (.slice ca cs.length cc)) →
      (((((w5.setCell ⟨p3, 0, none⟩ v0).setCell ⟨p3, 1, none⟩ v1).setCell ⟨p3, 2, none⟩ v2).setCell ⟨p3, 3, none⟩ v3).cell? ⟨w.heap.size, 0, none⟩ = some (.int .i64 N) ∧ ((((w5.setCell ⟨p3, 0, none⟩ v0).setCell ⟨p3, 1, none⟩ v1).setCell ⟨p3, 2, none⟩ v2).setCell ⟨p3, 3, none⟩ v3).cell? ⟨w.heap.size, 1, none⟩ = some (.int .i64 F) ∧ ((((w5.setCell ⟨p3, 0, none⟩ v0).setCell ⟨p3, 1, none⟩ v1).setCell ⟨p3, 2, none⟩ v2).setCell ⟨p3, 3, none⟩ v3).cell? ⟨w.heap.size, 2, none⟩ = some (.slice ca cs.length cc)) := fun w5 p3 v0 v1 v2 v3 hne ⟨e0, e1, e2⟩ => by
    have hc : Ch [p3] w5 ((((w5.setCell ⟨p3, 0, none⟩ v0).setCell ⟨p3, 1, none⟩ v1).setCell ⟨p3, 2, none⟩ v2).setCell ⟨p3, 3, none⟩ v3) :=
      ((((Ch.refl [p3] w5).set (p := ⟨p3, 0, none⟩) (by simp) _).set (p := ⟨p3, 1, none⟩) (by simp) _).set (p := ⟨p3, 2, none⟩) (by simp) _).set (p := ⟨p3, 3, none⟩) (by simp) _
    have hm : w.heap.size ∉ [p3] := by simp; omega
    exact ⟨ch_keep hc hm e0, ch_keep hc hm e1, ch_keep hc hm e2⟩
  have HKS := Lib.hid hks
  clear hks
  have HEa := Lib.hid hEa; have HEb := Lib.hid hEb; have HEc := Lib.hid hEc; have HRa := Lib.hid hRa; have HRb := Lib.hid hRb; have HRc := Lib.hid hRc; have HBa := Lib.hid hBa; have HBb := Lib.hid hBb; have HBc := Lib.hid hBc; have HZb := Lib.hid hZb; have HZc := Lib.hid hZc
  have HBA := Lib.hid hBA; have HB1 := Lib.hid hb1; have HB2 := Lib.hid hb2
  clear hkp hEa hEb hEc hRa hRb hRc hBa hBb hBc hZb hZc hBA hb1 hb2 HI
  go_cut [3] (fun v3 wx => ∃ (p3 : Nat) (A5 : Option Addr) (c5 : Nat), v3 = .pointer (some ⟨p3, 0, none⟩) ∧ ToS w wx p3 N F ca cc cs da dc ds.length A5 c5 [] none 0)
  case first =>
    go_region_held3 (fun w' => w'.cell? ⟨w.heap.size, 0, none⟩ = some (.int .i64 N) ∧ w'.cell? ⟨w.heap.size, 1, none⟩ = some (.int .i64 F) ∧ w'.cell? ⟨w.heap.size, 2, none⟩ = some (.slice ca cs.length cc))
      (first | exact (HKP.out _ hB5).1 | go_keep | exact HKS.out _ _ _ _ _ _ hne3 (HKP.out _ hB5).1)
      (first
        | (refine step_guard 3 undef (by rfl) ?_; refine step_append_any _ (by rfl) (.tmp 9) (.tmp 11) _ (by rfl) w.heap.size 3 i0 _ 1 8 Tryd.underlying23 HI0.out HZ0.out HZ1.out HZ2.out rfl (by omega) (.slice (some ⟨wA.heap.size, 0, none⟩) 0 0) 0 [] (by rfl) HEa.out w.heap.size ca cs.length cc (cs.map (Value.int .i64)) (by rfl) HRa.out (ints_ok3 _) (by unfold maxLen; omega) (by omega) (by first | omega | (simp; omega)) ?_; intro vA w5 ho5 hg5 hor5; obtain ⟨A5, c5, rfl⟩ := own_any ho5; have hB5 : Below wA.heap.size wA w5 := bel_grn2 HBa.out hg5 (fun q hq => by simp only [Value.ownBlock, Option.some.injEq] at hq; omega); have hway : w5.heap.size = w5.heap.size := rfl; obtain ⟨⟨hk0, hk1, hk2⟩, hw15⟩ := HKP.out _ hB5)
        | (refine step_guard 3 (.pointer (some ⟨wA.heap.size + 1, 0, none⟩)) (by rfl) ?_; refine step_append_any _ (by rfl) (.tmp 9) (.tmp 11) _ (by rfl) w.heap.size 3 i0 _ 1 8 Tryd.underlying23 HI0.out HZ0.out HZ1.out HZ2.out rfl (by omega) (.slice (some ⟨wA.heap.size, 0, none⟩) 0 0) 0 [] (by rfl) HEb.out w.heap.size ca cs.length cc (cs.map (Value.int .i64)) (by rfl) HRb.out (ints_ok3 _) (by unfold maxLen; omega) (by omega) (by first | omega | (simp; omega)) ?_; intro vA w5 ho5 hg5 hor5; obtain ⟨A5, c5, rfl⟩ := own_any ho5; have hB5 : Below wA.heap.size wA w5 := bel_grn2 HBb.out hg5 (fun q hq => by simp only [Value.ownBlock, Option.some.injEq] at hq; omega); have hb3 : Blk w5 (wA.heap.size + 1) 53 [.int .i64 0, .int .i64 0, .slice none 0 0, .slice none 0 0] := HZb.out.grown hg5 (by simp [Value.ownBlock]); have j0 := hb3.at_ (i := 0) rfl; have j1 := hb3.at_ (i := 1) rfl; have j2 := hb3.at_ (i := 2) rfl; have j3 := hb3.at_ (i := 3) rfl; have f0 := hb3.frozen 0; have f1 := hb3.frozen 1; have f2 := hb3.frozen 2; have f3 := hb3.frozen 3; have hne3 : wA.heap.size + 1 ≠ w.heap.size := (by omega); obtain ⟨⟨hk0, hk1, hk2⟩, hw15⟩ := HKP.out _ hB5)
        | (refine step_guard 3 (.pointer (some ⟨wA.heap.size, 0, none⟩)) (by rfl) ?_; refine step_append_any _ (by rfl) (.tmp 9) (.tmp 11) _ (by rfl) w.heap.size 3 i0 _ 1 8 Tryd.underlying23 HI0.out HZ0.out HZ1.out HZ2.out rfl (by omega) (.slice (some ⟨wA.heap.size + 1, 0, none⟩) 0 0) 0 [] (by rfl) HEc.out w.heap.size ca cs.length cc (cs.map (Value.int .i64)) (by rfl) HRc.out (ints_ok3 _) (by unfold maxLen; omega) (by omega) (by first | omega | (simp; omega)) ?_; intro vA w5 ho5 hg5 hor5; obtain ⟨A5, c5, rfl⟩ := own_any ho5; have hB5 : Below wA.heap.size wA w5 := bel_grn2 HBc.out hg5 (fun q hq => by simp only [Value.ownBlock, Option.some.injEq] at hq; omega); have hb3 : Blk w5 wA.heap.size 53 [.int .i64 0, .int .i64 0, .slice none 0 0, .slice none 0 0] := HZc.out.grown hg5 (by simp [Value.ownBlock]); have j0 := hb3.at_ (i := 0) rfl; have j1 := hb3.at_ (i := 1) rfl; have j2 := hb3.at_ (i := 2) rfl; have j3 := hb3.at_ (i := 3) rfl; have f0 := hb3.frozen 0; have f1 := hb3.frozen 1; have f2 := hb3.frozen 2; have f3 := hb3.frozen 3; have hne3 : wA.heap.size ≠ w.heap.size := (by omega); obtain ⟨⟨hk0, hk1, hk2⟩, hw15⟩ := HKP.out _ hB5))
    all_goals
      have ho5' : w5.ownsRow w.heap.size 3 1 (.slice A5 cs.length c5) cs.length (cs.map (Value.int .i64)) := by simpa using ho5
      have hb15 := HB1.out.below hB5
      have hb25 := HB2.out.below hB5
      have hBw := bel_trans HBA.out hB5
      first
        | (have hTS := ToS.start_b (p3 := wA.heap.size + 1) hb15 hb25 ho5' hBw hb3 (by omega); have HTS := Lib.hid hTS)
        | (have hTS := ToS.start_b (p3 := wA.heap.size) hb15 hb25 ho5' hBw hb3 (by omega); have HTS := Lib.hid hTS)
        | (have hTS := ToS.start_a hb15 hb25 ho5' hBw; have HTS := Lib.hid hTS)
      clear hTS
      go_wp2_with fail
      go_meet
      exact ⟨_, _, _, rfl, HTS.out⟩
  case rest =>
    obtain ⟨p3, A5, c5, rfl, hTS⟩ := hcut
    have HTS := Lib.hid hTS
    clear hTS HKP HKS HEa HEb HEc HRa HRb HRc HBa HBb HBc HZb HZc HBA HB1 HB2 m0 m1 m2
    go_wp2_with fail
    go_loopw [4] (fun v wr => ∃ (i : Nat) (rows : List RowV) (D : Option Addr) (d : Nat), i ≤ ds.length ∧ rows.length = i ∧ v = .int .i64 (i : Int) ∧ ToS w wr p3 N F ca cc cs da dc ds.length A5 c5 rows D d ∧ rows.map RowV.zs = (ds.take i).map RowV.zs) (fun v _ => ds.length - (intOf v).toNat)
    case atStart => exact ⟨0, [], none, 0, by omega, rfl, rfl, HTS.out, rfl⟩
    case round =>
      clear HTS
      obtain ⟨i, rows, D, d, hi, hrl, rfl, hS, hrow⟩ := hrel
      have m3 := hS.b1.at_ (i := 3) rfl
      have q3 := hS.b3.at_ (i := 3) rfl
      have HS := Lib.hid hS; have HRW := Lib.hid hrow; have HRL := Lib.hid hrl
      clear hS hrow
      by_cases hgo : i < ds.length
      · obtain ⟨b, off, r, rfl, hb, hri, hcell, hI, h63⟩ := HD.out.get hgo
        have kv := (HS.out.bel.cell (p := ⟨b, off + i, none⟩) hb).trans hcell
        have hix := fun w => idx_rows b off ds.length dc i hgo w
        have hr1000 := HRL0.out r (List.mem_of_getElem? hri)
        have htk : (ds.take (i + 1)).map RowV.zs = (ds.take i).map RowV.zs ++ [r.zs] := by
          rw [List.take_add_one, hri, List.map_append]; rfl
        have hRd := (hI.reads).below HS.out.bel
        have HTK := Lib.hid htk
        generalize r.zs = ZS at *
        generalize r.a = ra at *
        generalize r.c = rc at *
        have hwr := HS.out.bel.size
        have hm1 := HS.out.b1.lt
        have hm3 := HS.out.b3.lt
        have hbw : b < wr.heap.size := by omega
        have hrl10 : rows.length ≤ 1000 := by omega
        have hE : (wr.alloc (.cells #[] 3)).drew.ownsRow wr.heap.size 3 1 (.slice (some ⟨wr.heap.size, 0, none⟩) 0 0) 0 [] := own_made wr 3
        have hRd2 := (hRd.alloc (by omega) (.cells #[] 3)).drew
        have hBe := bel_drew (bel_alloc (Below.refl wr.heap.size wr) (.cells #[] 3))
        have hneP : some w.heap.size ≠ (Value.slice D rows.length d).ownBlock := Ne.symm (own_neV HS.out.o.d HS.out.b1 (by decide))
        have hneB : some b ≠ (Value.slice D rows.length d).ownBlock := fun e => by
          have := own_bge HS.out.o.d e.symm
          omega
        have hn13 : w.heap.size ∉ [p3] := by
          have := HS.out.b1.ne_ HS.out.b3 (by decide)
          simpa using this
        have hnb3 : b ∉ [p3] := by
          have := HS.out.ge
          simp
          omega
        have HN13 := Lib.hid hn13; have HNB3 := Lib.hid hnb3
        clear hn13 hnb3
        have HNP := Lib.hid hneP; have HNB := Lib.hid hneB
        have HE := Lib.hid hE; have HBe := Lib.hid hBe; have HRd2 := Lib.hid hRd2
        have h1i : (i : Int) < (ds.length : Int) := by omega
        clear hneP hneB hE hBe hRd2 hcell hI h63 htk hri hRd hrl
        go_upto_region 5 with fail
        go_region_law
          (first
            | (refine step_append_any _ (by rfl) (.tmp 23) (.tmp 28) _ (by rfl) wr.heap.size 3 i0 _ 1 8 Tryd.underlying23 HI0.out HZ0.out HZ1.out HZ2.out rfl (by omega) (.slice (some ⟨wr.heap.size, 0, none⟩) 0 0) 0 [] (by rfl) HE.out w.heap.size ra ZS.length rc (ZS.map (Value.int .i64)) (by rfl) HRd2.out (ints_ok3 _) (by unfold maxLen; omega) (by omega) HBe.out.size ?_; intro vA w5 ho5 hg5 hor5; obtain ⟨A6, c6, rfl⟩ := own_any ho5; have hB5 : Below wr.heap.size wr w5 := bel_grn2 HBe.out hg5 (fun q hq => by simp only [Value.ownBlock, Option.some.injEq] at hq; omega); have hk1 := (hB5.cell (p := ⟨w.heap.size, 3, none⟩) hm1).trans m3; have hk2 := (hB5.cell (p := ⟨b, off + i, none⟩) hbw).trans kv; have hq5 := (hB5.cell (p := ⟨p3, 3, none⟩) hm3).trans q3; have hO5 := HS.out.o.below hB5; have hOD := own_chV hO5.d ((Ch.refl [] w5).alloc (.cells #[.slice A6 ZS.length c6] 23)) (by simp); have hsz5 := hB5.size; have hw15 := Nat.lt_of_lt_of_le hm1 hsz5; have hbw5 := Nat.lt_of_lt_of_le hbw hsz5; have hp35 := Nat.lt_of_lt_of_le hm3 hsz5)
            | (refine step_append_lies _ (by rfl) (.tmp 22) (.tmp 30) _ (by rfl) w.heap.size 23 ie _ 1 24 Tryd.underlying46 HE0.out HEZ.out HE1.out HE2.out rfl (by omega) (.slice D rows.length d) rows.length (rows.map RowV.val) (by rfl) hOD
                ⟨w5.heap.size, 0, none⟩ 1 1 [.slice A6 ZS.length c6] (by rfl) (by rfl) (World.news_of_block (heap_alloc_new w5 _)) (by simp [Value.oneCell']) (by omega) (by unfold maxLen; omega) (by omega) (by simp; omega) _ rfl ?_; intro gg cap w6 hown6 hgrow6 hat6 hlt6; have hk3 := (hgrow6.cell_far ⟨w.heap.size, 3, none⟩ (show w.heap.size < (w5.alloc _).heap.size from (by simp; omega)) HNP.out).trans ((World.cell?_alloc_lt w5 _ ⟨w.heap.size, 3, none⟩ hw15).trans hk1); have hk4 := (hgrow6.cell_far ⟨b, off + i, none⟩ (show b < (w5.alloc _).heap.size from (by simp; omega)) HNB.out).trans ((World.cell?_alloc_lt w5 _ ⟨b, off + i, none⟩ hbw5).trans hk2); have hb36 := ((HS.out.b3.below hB5).alloc (.cells #[.slice A6 ZS.length c6] 23)).grown hgrow6 (Ne.symm (own_neV hO5.d (HS.out.b3.below hB5) (by decide))); have hq6 := hb36.at_ (i := 3) rfl; have hf6 := hb36.frozen 3; have hc6 : Ch [p3] w6 (w6.setCell ⟨p3, 3, none⟩ (.slice (some ⟨gg, 0, none⟩) (rows.length + 1) cap)) := (Ch.refl [p3] w6).set (p := ⟨p3, 3, none⟩) (by simp) _; have hk5 := ch_keep hc6 HN13.out hk3; have hk6 := ch_keep hc6 HNB3.out hk4))
        all_goals
          have ho6' : w5.ownsRow wr.heap.size 3 1 (.slice A6 ZS.length c6) ZS.length (ZS.map (Value.int .i64)) := by simpa using ho5
          have hq7 := own_chV (own_base0 ho6' hwr) ((Ch.refl [] w5).alloc (.cells #[.slice A6 ZS.length c6] 23)) (by simp)
          have hO7 := hO5.below (bel_alloc (Below.refl _ w5) (.cells #[.slice A6 ZS.length c6] 23))
          have hO8 := OwnT.push (q := ⟨A6, c6, ZS⟩) hO7 hq7 (fun y hy hz => by
              have h3 := own_bge ho6' hy
              have h4 := own_blt HS.out.o.c hz
              omega) (fun r hr y hy hz => by
              have h3 := own_bge ho6' hy
              have h4 := own_blt (HS.out.o.rs r hr) hz
              omega) hgrow6 hown6
          have hb17 := (HS.out.b1.below hB5).alloc (.cells #[.slice A6 ZS.length c6] 23)
          have hb27 := (HS.out.b2.below hB5).alloc (.cells #[.slice A6 ZS.length c6] 23)
          have hb18 := hb17.grown hgrow6 (Ne.symm (own_neV hO7.d hb17 (by decide)))
          have hb28 := hb27.grown hgrow6 (Ne.symm (own_neV hO7.d hb27 (by decide)))
          have hB8 := bel_grn2 (bel_alloc (bel_trans HS.out.bel hB5) (.cells #[.slice A6 ZS.length c6] 23)) hgrow6 (fun k hk => own_bge hO7.d hk)
          have hS9 : ToS w (w6.setCell ⟨p3, 3, none⟩ (.slice (some ⟨gg, 0, none⟩) (rows.length + 1) cap)) p3 N F ca cc cs (some ⟨b, off, none⟩) dc ds.length A5 c5 (rows ++ [⟨A6, c6, ZS⟩]) (some ⟨gg, 0, none⟩) cap :=
            ⟨hb18.ch hc6 HN13.out, hb28.ch hc6 (by simpa using Ne.symm HS.out.n2), by rw [List.length_append]; exact hb36.set_ 3 _, hO8.far hc6 (fun y hy => by rw [List.mem_singleton] at hy; subst hy; exact ⟨_, _, hb36, by decide, by decide⟩), bel_ch hB8 hc6 (by have := HS.out.ge; simpa using this), HS.out.n2, HS.out.ge⟩
          have HS9 := Lib.hid hS9
          clear ho5 ho6' hq7 hO7 hO8 hb17 hb27 hb18 hb28 hB8 hO5 hOD hown6 hgrow6 hg5 hor5 hB5 hk1 hk2 hk3 hk4 hk5 hk6 hat6 hlt6 hb36 hc6 hS9
          go_wp2_with fail
          go_roundw
          case rel => exact ⟨i + 1, _, _, _, by omega, by rw [List.length_append, HRL.out]; rfl, by go_num, HS9.out, by rw [HTK.out, List.map_append, HRW.out]; rfl⟩
          case measure => simp [intOf]; omega
      · obtain rfl : i = ds.length := by omega
        rw [List.take_length] at HRW
        have hx : ¬ ((ds.length : Int) < (ds.length : Int)) := by omega
        have j0 := HS.out.b3.at_ (i := 0) rfl
        have j1 := HS.out.b3.at_ (i := 1) rfl
        have j2 := HS.out.b3.at_ (i := 2) rfl
        have g0 := HS.out.b2.at_ (i := 0) rfl
        have g1 := HS.out.b2.at_ (i := 1) rfl
        have g2 := HS.out.b2.at_ (i := 2) rfl
        have g3 := HS.out.b2.at_ (i := 3) rfl
        have f0 := HS.out.b2.frozen 0
        have f1 := HS.out.b2.frozen 1
        have f2 := HS.out.b2.frozen 2
        have f3 := HS.out.b2.frozen 3
        have hset : Blk ((((wr.setCell ⟨w.heap.size + 1, 0, none⟩ (.int .i64 N)).setCell ⟨w.heap.size + 1, 1, none⟩ (.int .i64 F)).setCell ⟨w.heap.size + 1, 2, none⟩ (.slice A5 cs.length c5)).setCell ⟨w.heap.size + 1, 3, none⟩ (.slice D rows.length d)) (w.heap.size + 1) 53 [.int .i64 N, .int .i64 F, .slice A5 cs.length c5, .slice D rows.length d] ∧ Ch [w.heap.size + 1] wr ((((wr.setCell ⟨w.heap.size + 1, 0, none⟩ (.int .i64 N)).setCell ⟨w.heap.size + 1, 1, none⟩ (.int .i64 F)).setCell ⟨w.heap.size + 1, 2, none⟩ (.slice A5 cs.length c5)).setCell ⟨w.heap.size + 1, 3, none⟩ (.slice D rows.length d)) :=
          ⟨(((HS.out.b2.set_ 0 _).set_ 1 _).set_ 2 _).set_ 3 _, ((((Ch.refl [w.heap.size + 1] wr).set (p := ⟨w.heap.size + 1, 0, none⟩) (by simp) _).set (p := ⟨w.heap.size + 1, 1, none⟩) (by simp) _).set (p := ⟨w.heap.size + 1, 2, none⟩) (by simp) _).set (p := ⟨w.heap.size + 1, 3, none⟩) (by simp) _⟩
        have hO10 := HS.out.o.far hset.2 (fun y hy => by rw [List.mem_singleton] at hy; subst hy; exact ⟨_, _, HS.out.b2, by decide, by decide⟩)
        have hB10 := bel_ch HS.out.bel hset.2 (by simp)
        have HST := Lib.hid hset.1; have HO10 := Lib.hid hO10; have HB10 := Lib.hid hB10
        have hn2 : p3 ≠ w.heap.size + 1 := HS.out.n2
        clear hset hO10 hB10 hrl
        go_wp2_with fail
        exact bodyPost_ret (results_cell_row Tryd.results31 _ _ (w.heap.size + 1) 53 _ (0, 0) _ rfl HST.out Tryd.underlying53 rfl (by kernel_rfl)) rfl ⟨⟨⟨N, F, A5, c5, cs, D, d, rows⟩, rfl, HO10.out, ⟨rfl, rfl, rfl, HRW.out⟩⟩, HB10.out⟩
end Go.Proofs.YtcanhegjhbhkhaaDoor
