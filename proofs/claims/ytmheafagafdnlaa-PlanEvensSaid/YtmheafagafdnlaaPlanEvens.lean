/- The law PlanEvens. -/
import Derived.Test.YtmheafagafdnlaaPlanSums
import Derived.Deep.RegionHeld3
namespace Go.Proofs.Ytmheafagafdnlaa
open Go.RowKit
set_option linter.unusedVariables false
set_option linter.unusedSimpArgs false
attribute [local go_sem] World.cell?_alloc_lt

theorem open_intsC {H : Type} {enc : TypeId × Value → H} {W : World} {base : Nat} {held : Bool} {r : Reach} {b0 : Nat} {v : Value} {d : DataW H} {p : List MemPlace} (hv : Value.okWide Try.prog W r b0 43 v) (h : DataW.Trod enc Try.prog W base (fun _ => true) held 43 v d p) :
    ∃ a len cap zs, v = .slice a len cap ∧ InInts .i64 W a len zs ∧ len ≤ cap := by
  obtain ⟨a, len, cap, rfl⟩ := WideShapes.okWide_slice Try.underlying43 hv
  obtain ⟨zs, hz⟩ := open_inInts (a := a) (len := len) (cap := cap) Try.underlying43 Try.underlying3 (by kernel_rfl) h
  refine ⟨a, len, cap, zs, rfl, hz, ?_⟩
  obtain ⟨fuel, hf⟩ := h
  rcases ChangeShapes.open_ints Try.underlying43 Try.underlying3 (by kernel_rfl) hf with ⟨hcs, _⟩ | ⟨x, l, c, zs, hcs, _, hl, _⟩
  · simp [Value.cells] at hcs
    obtain ⟨rfl, rfl, rfl⟩ := hcs
    omega
  · simp [Value.cells] at hcs
    obtain ⟨rfl, rfl, rfl⟩ := hcs
    exact hl
theorem grown_alloc (w : World) (o : Obj) (row : Option Nat) : w.grownBy (w.alloc o) row := ⟨rfl, rfl, rfl, by simp, fun k hk _ => Below.heap_alloc _ _ _ hk⟩
/-- Two rows of the call's own, apart. -/
structure Two (w : World) (base : Nat) (v1 : Value) (n1 : Nat) (x1 : List Value) (v2 : Value) (n2 : Nat) (x2 : List Value) : Prop where
  o1 : w.ownsRow base 3 1 v1 n1 x1
  o2 : w.ownsRow base 3 1 v2 n2 x2
  ap : ∀ q, v1.ownBlock = some q → v2.ownBlock ≠ some q
section
variable {w w' : World} {base n1 n2 n' : Nat} {v1 v2 v' : Value} {x1 x2 x' : List Value}
theorem Two.swap (h : Two w base v1 n1 x1 v2 n2 x2) : Two w base v2 n2 x2 v1 n1 x1 := ⟨h.o2, h.o1, fun q h2 h1 => h.ap q h1 h2⟩
theorem Two.one (h : Two w base v1 n1 x1 v2 n2 x2) (g : w.grownBy w' v1.ownBlock) (o : w'.ownsRow base 3 1 v' n' x') (hor : v'.ownBlock = v1.ownBlock ∨ v'.ownBlock = some w.heap.size) : Two w' base v' n' x' v2 n2 x2 := by
  have hc : Ch v1.ownBlock.toList w w' := (Ch.refl _ w).grown g (fun k hk => Or.inl (by rw [hk]; simp))
  refine ⟨o, own_chV h.o2 hc (fun q hq hm => by rw [Option.mem_toList] at hm; exact h.ap q hm hq), fun q h1 h2 => ?_⟩
  rcases hor with e | e
  · rw [e] at h1; exact h.ap q h1 h2
  · rw [e] at h1
    injection h1 with h1
    subst h1
    have := (h.o2.lt _ h2).2
    omega
theorem Two.two (h : Two w base v1 n1 x1 v2 n2 x2) (g : w.grownBy w' v2.ownBlock) (o : w'.ownsRow base 3 1 v' n' x') (hor : v'.ownBlock = v2.ownBlock ∨ v'.ownBlock = some w.heap.size) : Two w' base v1 n1 x1 v' n' x' :=
  (h.swap.one g o hor).swap
end
theorem bel_grn {w a b : World} {row : Option Nat} (h : Below w.heap.size w a) (hg : a.grownBy b row) (hr : ∀ k, row = some k → w.heap.size ≤ k) : Below w.heap.size w b := h.grown hg h.size hr
theorem cut_ints (a : Option Addr) (len cap n : Nat) (N : Int) (hN : N = (n : Int)) (h : n ≤ cap) (w : World) : (Instr.sliceAt 43 (.slice a len cap) none (some (.int .i64 N)) none).run Try.prog w = .ok (.slice a n cap) w := by
  subst hN
  have h2 : (n : Int) ≤ (cap : Int) := by omega
  cases a <;> simp [go_sem, h, h2, Addr.add]
theorem InI.take {w : World} {A : Option Addr} {n k : Nat} {xs : List Int} (h : InI w A n xs) (hk : k ≤ n) : InI w A k (xs.take k) :=
  ⟨by rw [List.length_take, h.ln]; omega, fun hn => by
    obtain ⟨b, off, ha, hb, hc⟩ := h.at_ (by omega)
    refine ⟨b, off, ha, hb, fun j u hj => ?_⟩
    rw [List.getElem?_take] at hj
    split at hj
    · exact hc j u hj
    · cases hj⟩
set_option maxRecDepth 100000 in
set_option maxHeartbeats 2000000 in
theorem planEvens_walk (w0 : World) (a0 : Option Addr) (n0 c0 : Nat) (z0 : List Int) (h0 : InInts .i64 w0 a0 n0 z0) (k0 : n0 ≤ c0) (a1 : Option Addr) (n1 c1 : Nat) (z1 : List Int) (h1 : InInts .i64 w0 a1 n1 z1) (k1 : n1 ≤ c1) :
    Calls Try.prog 5 #[.slice a0 n0 c0, .slice a1 n1 c1] w0 fun e w' => e = .returned (.bool true) ∧ Below w0.heap.size w0 w' := by
  have hn0 := h0.mx
  have hn1 := h1.mx
  obtain ⟨N, hN8, hNn, hmin⟩ : ∃ N : Nat, N ≤ 10 ∧ N ≤ n0 ∧ min (n0 : Int) 10 = (N : Int) := by
    by_cases h : (10 : Int) < (n0 : Int)
    · exact ⟨10, by omega, by omega, by omega⟩
    · exact ⟨n0, by omega, by omega, by omega⟩
  obtain ⟨M, hM8, hMn, hmin1⟩ : ∃ N : Nat, N ≤ 10 ∧ N ≤ n1 ∧ min (n1 : Int) 10 = (N : Int) := by
    by_cases h : (10 : Int) < (n1 : Int)
    · exact ⟨10, by omega, by omega, by omega⟩
    · exact ⟨n1, by omega, by omega, by omega⟩
  have hl := (InI.inn h0).take hNn
  have hc := (InI.inn h1).take hMn
  clear h0 h1
  generalize z0.take N = l at hl
  generalize z1.take M = cs at hc
  have hcut0 := fun w => cut_ints a0 n0 c0 N (N : Int) rfl (by omega) w
  have hcut1 := fun w => cut_ints a1 n1 c1 M (M : Int) rfl (by omega) w
  have HL := Lib.hid hl; have HC := Lib.hid hc
  clear hl hc
  obtain ⟨i0, hi0', hz0, hz1, hz2⟩ := info_parts info_clI
  have HI := Lib.hid hi0'; have HZ0 := Lib.hid hz0; have HZ1 := Lib.hid hz1; have HZ2 := Lib.hid hz2
  clear hi0' hz0 hz1 hz2
  go_enter Try.func5, Try.ntmps5
  go_upto_region 2 with fail
  go_cut [0, 1] from 16 to 29 (fun x0 x1 wx => ∃ A0 d0 A1 d1, x0 = .slice A0 N d0 ∧ x1 = .slice A1 M d1 ∧ wx.ownsRow w0.heap.size 3 1 (.slice A0 N d0) N (l.map (Value.int .i64)) ∧ wx.ownsRow w0.heap.size 3 1 (.slice A1 M d1) M (cs.map (Value.int .i64)) ∧ (∀ q, (Value.slice A0 N d0).ownBlock = some q → (Value.slice A1 M d1).ownBlock ≠ some q) ∧ Below w0.heap.size w0 wx)
  case first =>
    have hT : Two w0.drew w0.heap.size (.slice none 0 0) 0 [] (.slice none 0 0) 0 [] := ⟨⟨rfl, Or.inl ⟨rfl, rfl⟩⟩, ⟨rfl, Or.inl ⟨rfl, rfl⟩⟩, fun q h => by simp [Value.ownBlock] at h⟩
    have hB := bel_drew (Below.refl w0.heap.size w0)
    have HT := Lib.hid hT; clear hT
    refine wp_region_noPanic ?_
    refine wp_region_held_drew (S := fun _ => True) (by kernel_rfl) trivial (fun hHeld => ?_)
    generalize w0.drew = x at *
    refine wpAnyH_take (i := 1) (oi := ⟨some 17, _, _, _, _, _⟩) (v := .slice a0 n0 c0) rfl (by kernel_rfl) (by kernel_rfl) (by kernel_rfl) (fun _ _ _ h => h) (Or.inl ⟨by rfl, by intro w hSw; go_simp⟩) (by trivial) ?_
    try simp only [Act.put, List.setIfInBounds_toArray, List.set_cons_zero, List.set_cons_succ]
    refine wpAnyH_take (i := 2) (oi := ⟨some 18, _, _, _, _, _⟩) (v := .slice a0 n0 c0) rfl (by kernel_rfl) (by kernel_rfl) (by kernel_rfl) (fun _ _ _ h => h) (Or.inl ⟨by rfl, by intro w hSw; go_simp⟩) (by trivial) ?_
    try simp only [Act.put, List.setIfInBounds_toArray, List.set_cons_zero, List.set_cons_succ]
    refine wpAnyH_take (i := 3) (oi := ⟨some 19, _, _, _, _, _⟩) (v := .int .i64 (n0 : Int)) rfl (by kernel_rfl) (by kernel_rfl) (by kernel_rfl) (fun _ _ _ h => h) (Or.inl ⟨by rfl, by intro w hSw; go_simp⟩) (by trivial) ?_
    try simp only [Act.put, List.setIfInBounds_toArray, List.set_cons_zero, List.set_cons_succ]
    refine wpAnyH_take (i := 4) (oi := ⟨some 20, _, _, _, _, _⟩) (v := .int .i64 (N : Int)) rfl (by kernel_rfl) (by kernel_rfl) (by kernel_rfl) (fun _ _ _ h => h) (Or.inl ⟨by rfl, by intro w hSw; go_simp⟩) (by trivial) ?_
    try simp only [Act.put, List.setIfInBounds_toArray, List.set_cons_zero, List.set_cons_succ]
    refine wpAnyH_take (i := 5) (oi := ⟨some 21, _, _, _, _, _⟩) (v := .slice a0 N c0) rfl (by kernel_rfl) (by kernel_rfl) (by kernel_rfl) (fun _ _ _ h => h) (Or.inl ⟨by rfl, by intro w hSw; go_simp⟩) (by trivial) ?_
    try simp only [Act.put, List.setIfInBounds_toArray, List.set_cons_zero, List.set_cons_succ]
    refine wpAnyH_take (i := 8) (oi := ⟨some 24, _, _, _, _, _⟩) (v := .slice a1 n1 c1) rfl (by kernel_rfl) (by kernel_rfl) (by kernel_rfl) (fun _ _ _ h => h) (Or.inl ⟨by rfl, by intro w hSw; go_simp⟩) (by trivial) ?_
    try simp only [Act.put, List.setIfInBounds_toArray, List.set_cons_zero, List.set_cons_succ]
    refine wpAnyH_take (i := 9) (oi := ⟨some 25, _, _, _, _, _⟩) (v := .slice a1 n1 c1) rfl (by kernel_rfl) (by kernel_rfl) (by kernel_rfl) (fun _ _ _ h => h) (Or.inl ⟨by rfl, by intro w hSw; go_simp⟩) (by trivial) ?_
    try simp only [Act.put, List.setIfInBounds_toArray, List.set_cons_zero, List.set_cons_succ]
    refine wpAnyH_take (i := 10) (oi := ⟨some 26, _, _, _, _, _⟩) (v := .int .i64 (n1 : Int)) rfl (by kernel_rfl) (by kernel_rfl) (by kernel_rfl) (fun _ _ _ h => h) (Or.inl ⟨by rfl, by intro w hSw; go_simp⟩) (by trivial) ?_
    try simp only [Act.put, List.setIfInBounds_toArray, List.set_cons_zero, List.set_cons_succ]
    refine wpAnyH_take (i := 11) (oi := ⟨some 27, _, _, _, _, _⟩) (v := .int .i64 (M : Int)) rfl (by kernel_rfl) (by kernel_rfl) (by kernel_rfl) (fun _ _ _ h => h) (Or.inl ⟨by rfl, by intro w hSw; go_simp⟩) (by trivial) ?_
    try simp only [Act.put, List.setIfInBounds_toArray, List.set_cons_zero, List.set_cons_succ]
    refine wpAnyH_take (i := 12) (oi := ⟨some 28, _, _, _, _, _⟩) (v := .slice a1 M c1) rfl (by kernel_rfl) (by kernel_rfl) (by kernel_rfl) (fun _ _ _ h => h) (Or.inl ⟨by rfl, by intro w hSw; go_simp⟩) (by trivial) ?_
    try simp only [Act.put, List.setIfInBounds_toArray, List.set_cons_zero, List.set_cons_succ]
    refine wpAnyH_ready (rs := [0, 7]) (by kernel_rfl) (by simp) ?_
    refine AllReadyH.cons (o := ⟨some 16, _, _, _, _, _⟩) rfl (fun K hK => ?_) ?_
    · go_simp
      refine hK.out _ _ trivial (fun hHeld => ?_)
      clear hK K
      have hT := HT.out.one (grown_alloc x (.cells #[] 3) _) (own_made0 x w0.heap.size 3 1 hB.size) (Or.inr rfl)
      replace hB := bel_alloc hB (.cells #[] 3)
      clear HT
      generalize x.alloc (.cells #[] 3) = y at *
      generalize x.heap.size = p1 at *
      clear x
      obtain ⟨x, rfl⟩ : ∃ x, x = y := ⟨_, rfl⟩
      have HT := Lib.hid hT; clear hT
      try simp only [Act.put, List.setIfInBounds_toArray, List.set_cons_zero, List.set_cons_succ]
      refine wpAnyH_ready (rs := [6, 7]) (by kernel_rfl) (by simp) ?_
      refine AllReadyH.cons (o := ⟨some 22, _, _, _, _, _⟩) rfl (fun K hK => ?_) ?_
      · refine step_append_any _ (by rfl) (.tmp 16) (.tmp 21) _ (by rfl) w0.heap.size 3 i0 _ 1 8 Try.underlying43 HI.out HZ0.out HZ1.out HZ2.out rfl (by omega) (.slice (some ⟨p1, 0, none⟩) 0 0) 0 [] (by rfl) HT.out.o1 w0.heap.size a0 N c0 (l.map (Value.int .i64)) (by rfl) (HL.out.reads.below hB) (ints_one l) (by unfold maxLen; omega) (by omega) hB.size ?_
        intro vA y ho hg hor
        refine hK.out _ _ trivial (fun hHeld => ?_)
        clear hK K
        have hT := HT.out.one hg ho hor
        replace hB := bel_grn hB hg (fun q hq => (HT.out.o1.lt q hq).1)
        clear HT ho hg hor x
        obtain ⟨x, rfl⟩ : ∃ x, x = y := ⟨_, rfl⟩
        have HT := Lib.hid hT; clear hT
        try simp only [Act.put, List.setIfInBounds_toArray, List.set_cons_zero, List.set_cons_succ]
        refine wpAnyH_ready (rs := [7]) (by kernel_rfl) (by simp) ?_
        refine AllReadyH.cons (o := ⟨some 23, _, _, _, _, _⟩) rfl (fun K hK => ?_) ?_
        · go_simp
          refine hK.out _ _ trivial (fun hHeld => ?_)
          clear hK K
          have hT := HT.out.two (grown_alloc x (.cells #[] 3) _) (own_made0 x w0.heap.size 3 1 hB.size) (Or.inr rfl)
          replace hB := bel_alloc hB (.cells #[] 3)
          clear HT
          generalize x.alloc (.cells #[] 3) = y at *
          generalize x.heap.size = p2 at *
          clear x
          obtain ⟨x, rfl⟩ : ∃ x, x = y := ⟨_, rfl⟩
          have HT := Lib.hid hT; clear hT
          try simp only [Act.put, List.setIfInBounds_toArray, List.set_cons_zero, List.set_cons_succ]
          refine wpAnyH_ready (rs := [13]) (by kernel_rfl) (by simp) ?_
          refine AllReadyH.cons (o := ⟨some 29, _, _, _, _, _⟩) rfl (fun K hK => ?_) ?_
          · refine step_append_any _ (by rfl) (.tmp 23) (.tmp 28) _ (by rfl) w0.heap.size 3 i0 _ 1 8 Try.underlying43 HI.out HZ0.out HZ1.out HZ2.out rfl (by omega) (.slice (some ⟨p2, 0, none⟩) 0 0) 0 [] (by rfl) HT.out.o2 w0.heap.size a1 M c1 (cs.map (Value.int .i64)) (by rfl) (HC.out.reads.below hB) (ints_one cs) (by unfold maxLen; omega) (by omega) hB.size ?_
            intro vB y ho hg hor
            refine hK.out _ _ trivial (fun hHeld => ?_)
            clear hK K
            have hT := HT.out.two hg ho hor
            replace hB := bel_grn hB hg (fun q hq => (HT.out.o2.lt q hq).1)
            clear HT ho hg hor x
            obtain ⟨x, rfl⟩ : ∃ x, x = y := ⟨_, rfl⟩
            have HT := Lib.hid hT; clear hT
            try simp only [Act.put, List.setIfInBounds_toArray, List.set_cons_zero, List.set_cons_succ]
            refine wpAnyH_take (i := 14) (oi := ⟨some 0, _, _, _, _, _⟩) (v := vA) rfl (by kernel_rfl) (by kernel_rfl) (by kernel_rfl) (fun _ _ _ h => h) (Or.inl ⟨by rfl, by intro w hSw; go_simp⟩) (by trivial) ?_
            try simp only [Act.put, List.setIfInBounds_toArray, List.set_cons_zero, List.set_cons_succ]
            refine wpAnyH_take (i := 15) (oi := ⟨some 1, _, _, _, _, _⟩) (v := vB) rfl (by kernel_rfl) (by kernel_rfl) (by kernel_rfl) (fun _ _ _ h => h) (Or.inl ⟨by rfl, by intro w hSw; go_simp⟩) (by trivial) ?_
            try simp only [Act.put, List.setIfInBounds_toArray, List.set_cons_zero, List.set_cons_succ]
            refine wpAnyH_done (by kernel_rfl) ?_ _
            refine NoPanic.normal ?_
            obtain ⟨A0, d0, rfl⟩ := own_slice HT.out.o1
            obtain ⟨A1, d1, rfl⟩ := own_slice HT.out.o2
            rw [Nat.zero_add, Nat.zero_add]
            go_wp2_with fail
            go_meet
            exact ⟨A0, d0, A1, d1, by simp only [Nat.zero_add], by simp only [Nat.zero_add], by simpa only [Nat.zero_add, List.nil_append] using HT.out.o1, by simpa only [Nat.zero_add, List.nil_append] using HT.out.o2, by simpa only [Nat.zero_add] using HT.out.ap, hB⟩
          exact AllReadyH.nil
        exact AllReadyH.nil
      refine AllReadyH.cons (o := ⟨some 23, _, _, _, _, _⟩) rfl (fun K hK => ?_) ?_
      · go_simp
        refine hK.out _ _ trivial (fun hHeld => ?_)
        clear hK K
        have hT := HT.out.two (grown_alloc x (.cells #[] 3) _) (own_made0 x w0.heap.size 3 1 hB.size) (Or.inr rfl)
        replace hB := bel_alloc hB (.cells #[] 3)
        clear HT
        generalize x.alloc (.cells #[] 3) = y at *
        generalize x.heap.size = p2 at *
        clear x
        obtain ⟨x, rfl⟩ : ∃ x, x = y := ⟨_, rfl⟩
        have HT := Lib.hid hT; clear hT
        try simp only [Act.put, List.setIfInBounds_toArray, List.set_cons_zero, List.set_cons_succ]
        refine wpAnyH_ready (rs := [6]) (by kernel_rfl) (by simp) ?_
        refine AllReadyH.cons (o := ⟨some 22, _, _, _, _, _⟩) rfl (fun K hK => ?_) ?_
        · refine step_append_any _ (by rfl) (.tmp 16) (.tmp 21) _ (by rfl) w0.heap.size 3 i0 _ 1 8 Try.underlying43 HI.out HZ0.out HZ1.out HZ2.out rfl (by omega) (.slice (some ⟨p1, 0, none⟩) 0 0) 0 [] (by rfl) HT.out.o1 w0.heap.size a0 N c0 (l.map (Value.int .i64)) (by rfl) (HL.out.reads.below hB) (ints_one l) (by unfold maxLen; omega) (by omega) hB.size ?_
          intro vA y ho hg hor
          refine hK.out _ _ trivial (fun hHeld => ?_)
          clear hK K
          have hT := HT.out.one hg ho hor
          replace hB := bel_grn hB hg (fun q hq => (HT.out.o1.lt q hq).1)
          clear HT ho hg hor x
          obtain ⟨x, rfl⟩ : ∃ x, x = y := ⟨_, rfl⟩
          have HT := Lib.hid hT; clear hT
          try simp only [Act.put, List.setIfInBounds_toArray, List.set_cons_zero, List.set_cons_succ]
          refine wpAnyH_ready (rs := [13]) (by kernel_rfl) (by simp) ?_
          refine AllReadyH.cons (o := ⟨some 29, _, _, _, _, _⟩) rfl (fun K hK => ?_) ?_
          · refine step_append_any _ (by rfl) (.tmp 23) (.tmp 28) _ (by rfl) w0.heap.size 3 i0 _ 1 8 Try.underlying43 HI.out HZ0.out HZ1.out HZ2.out rfl (by omega) (.slice (some ⟨p2, 0, none⟩) 0 0) 0 [] (by rfl) HT.out.o2 w0.heap.size a1 M c1 (cs.map (Value.int .i64)) (by rfl) (HC.out.reads.below hB) (ints_one cs) (by unfold maxLen; omega) (by omega) hB.size ?_
            intro vB y ho hg hor
            refine hK.out _ _ trivial (fun hHeld => ?_)
            clear hK K
            have hT := HT.out.two hg ho hor
            replace hB := bel_grn hB hg (fun q hq => (HT.out.o2.lt q hq).1)
            clear HT ho hg hor x
            obtain ⟨x, rfl⟩ : ∃ x, x = y := ⟨_, rfl⟩
            have HT := Lib.hid hT; clear hT
            try simp only [Act.put, List.setIfInBounds_toArray, List.set_cons_zero, List.set_cons_succ]
            refine wpAnyH_take (i := 14) (oi := ⟨some 0, _, _, _, _, _⟩) (v := vA) rfl (by kernel_rfl) (by kernel_rfl) (by kernel_rfl) (fun _ _ _ h => h) (Or.inl ⟨by rfl, by intro w hSw; go_simp⟩) (by trivial) ?_
            try simp only [Act.put, List.setIfInBounds_toArray, List.set_cons_zero, List.set_cons_succ]
            refine wpAnyH_take (i := 15) (oi := ⟨some 1, _, _, _, _, _⟩) (v := vB) rfl (by kernel_rfl) (by kernel_rfl) (by kernel_rfl) (fun _ _ _ h => h) (Or.inl ⟨by rfl, by intro w hSw; go_simp⟩) (by trivial) ?_
            try simp only [Act.put, List.setIfInBounds_toArray, List.set_cons_zero, List.set_cons_succ]
            refine wpAnyH_done (by kernel_rfl) ?_ _
            refine NoPanic.normal ?_
            obtain ⟨A0, d0, rfl⟩ := own_slice HT.out.o1
            obtain ⟨A1, d1, rfl⟩ := own_slice HT.out.o2
            rw [Nat.zero_add, Nat.zero_add]
            go_wp2_with fail
            go_meet
            exact ⟨A0, d0, A1, d1, by simp only [Nat.zero_add], by simp only [Nat.zero_add], by simpa only [Nat.zero_add, List.nil_append] using HT.out.o1, by simpa only [Nat.zero_add, List.nil_append] using HT.out.o2, by simpa only [Nat.zero_add] using HT.out.ap, hB⟩
          exact AllReadyH.nil
        exact AllReadyH.nil
      exact AllReadyH.nil
    refine AllReadyH.cons (o := ⟨some 23, _, _, _, _, _⟩) rfl (fun K hK => ?_) ?_
    · go_simp
      refine hK.out _ _ trivial (fun hHeld => ?_)
      clear hK K
      have hT := HT.out.two (grown_alloc x (.cells #[] 3) _) (own_made0 x w0.heap.size 3 1 hB.size) (Or.inr rfl)
      replace hB := bel_alloc hB (.cells #[] 3)
      clear HT
      generalize x.alloc (.cells #[] 3) = y at *
      generalize x.heap.size = p2 at *
      clear x
      obtain ⟨x, rfl⟩ : ∃ x, x = y := ⟨_, rfl⟩
      have HT := Lib.hid hT; clear hT
      try simp only [Act.put, List.setIfInBounds_toArray, List.set_cons_zero, List.set_cons_succ]
      refine wpAnyH_ready (rs := [0]) (by kernel_rfl) (by simp) ?_
      refine AllReadyH.cons (o := ⟨some 16, _, _, _, _, _⟩) rfl (fun K hK => ?_) ?_
      · go_simp
        refine hK.out _ _ trivial (fun hHeld => ?_)
        clear hK K
        have hT := HT.out.one (grown_alloc x (.cells #[] 3) _) (own_made0 x w0.heap.size 3 1 hB.size) (Or.inr rfl)
        replace hB := bel_alloc hB (.cells #[] 3)
        clear HT
        generalize x.alloc (.cells #[] 3) = y at *
        generalize x.heap.size = p1 at *
        clear x
        obtain ⟨x, rfl⟩ : ∃ x, x = y := ⟨_, rfl⟩
        have HT := Lib.hid hT; clear hT
        try simp only [Act.put, List.setIfInBounds_toArray, List.set_cons_zero, List.set_cons_succ]
        refine wpAnyH_ready (rs := [6]) (by kernel_rfl) (by simp) ?_
        refine AllReadyH.cons (o := ⟨some 22, _, _, _, _, _⟩) rfl (fun K hK => ?_) ?_
        · refine step_append_any _ (by rfl) (.tmp 16) (.tmp 21) _ (by rfl) w0.heap.size 3 i0 _ 1 8 Try.underlying43 HI.out HZ0.out HZ1.out HZ2.out rfl (by omega) (.slice (some ⟨p1, 0, none⟩) 0 0) 0 [] (by rfl) HT.out.o1 w0.heap.size a0 N c0 (l.map (Value.int .i64)) (by rfl) (HL.out.reads.below hB) (ints_one l) (by unfold maxLen; omega) (by omega) hB.size ?_
          intro vA y ho hg hor
          refine hK.out _ _ trivial (fun hHeld => ?_)
          clear hK K
          have hT := HT.out.one hg ho hor
          replace hB := bel_grn hB hg (fun q hq => (HT.out.o1.lt q hq).1)
          clear HT ho hg hor x
          obtain ⟨x, rfl⟩ : ∃ x, x = y := ⟨_, rfl⟩
          have HT := Lib.hid hT; clear hT
          try simp only [Act.put, List.setIfInBounds_toArray, List.set_cons_zero, List.set_cons_succ]
          refine wpAnyH_ready (rs := [13]) (by kernel_rfl) (by simp) ?_
          refine AllReadyH.cons (o := ⟨some 29, _, _, _, _, _⟩) rfl (fun K hK => ?_) ?_
          · refine step_append_any _ (by rfl) (.tmp 23) (.tmp 28) _ (by rfl) w0.heap.size 3 i0 _ 1 8 Try.underlying43 HI.out HZ0.out HZ1.out HZ2.out rfl (by omega) (.slice (some ⟨p2, 0, none⟩) 0 0) 0 [] (by rfl) HT.out.o2 w0.heap.size a1 M c1 (cs.map (Value.int .i64)) (by rfl) (HC.out.reads.below hB) (ints_one cs) (by unfold maxLen; omega) (by omega) hB.size ?_
            intro vB y ho hg hor
            refine hK.out _ _ trivial (fun hHeld => ?_)
            clear hK K
            have hT := HT.out.two hg ho hor
            replace hB := bel_grn hB hg (fun q hq => (HT.out.o2.lt q hq).1)
            clear HT ho hg hor x
            obtain ⟨x, rfl⟩ : ∃ x, x = y := ⟨_, rfl⟩
            have HT := Lib.hid hT; clear hT
            try simp only [Act.put, List.setIfInBounds_toArray, List.set_cons_zero, List.set_cons_succ]
            refine wpAnyH_take (i := 14) (oi := ⟨some 0, _, _, _, _, _⟩) (v := vA) rfl (by kernel_rfl) (by kernel_rfl) (by kernel_rfl) (fun _ _ _ h => h) (Or.inl ⟨by rfl, by intro w hSw; go_simp⟩) (by trivial) ?_
            try simp only [Act.put, List.setIfInBounds_toArray, List.set_cons_zero, List.set_cons_succ]
            refine wpAnyH_take (i := 15) (oi := ⟨some 1, _, _, _, _, _⟩) (v := vB) rfl (by kernel_rfl) (by kernel_rfl) (by kernel_rfl) (fun _ _ _ h => h) (Or.inl ⟨by rfl, by intro w hSw; go_simp⟩) (by trivial) ?_
            try simp only [Act.put, List.setIfInBounds_toArray, List.set_cons_zero, List.set_cons_succ]
            refine wpAnyH_done (by kernel_rfl) ?_ _
            refine NoPanic.normal ?_
            obtain ⟨A0, d0, rfl⟩ := own_slice HT.out.o1
            obtain ⟨A1, d1, rfl⟩ := own_slice HT.out.o2
            rw [Nat.zero_add, Nat.zero_add]
            go_wp2_with fail
            go_meet
            exact ⟨A0, d0, A1, d1, by simp only [Nat.zero_add], by simp only [Nat.zero_add], by simpa only [Nat.zero_add, List.nil_append] using HT.out.o1, by simpa only [Nat.zero_add, List.nil_append] using HT.out.o2, by simpa only [Nat.zero_add] using HT.out.ap, hB⟩
          exact AllReadyH.nil
        exact AllReadyH.nil
      exact AllReadyH.nil
    exact AllReadyH.nil
  case rest =>
    obtain ⟨A0, d0, A1, d1, rfl, rfl, ho0, ho1, hap, hB⟩ := hcut
    clear HL HC hcut0 hcut1 hmin hmin1
    have hln : l.length = N := by have := (InI.own ho0).ln; exact this
    have hma := own_made0 wc w0.heap.size 3 1 hB.size
    have hba : Below wc.heap.size wc (wc.alloc (.cells #[] 3)) := bel_alloc (Below.refl _ _) _
    have hr1 := ((InI.own ho0).below hba).reads
    have h0a := own_chV ho0 (Ch.below hba []) (by simp)
    have h1a := own_chV ho1 (Ch.below hba []) (by simp)
    have hBa := bel_trans hB hba
    have hsz := hBa.size
    have hlt0 : ∀ q, (Value.slice A0 N d0).ownBlock = some q → q < wc.heap.size := fun q hq => (ho0.lt q hq).2
    have hlt1 : ∀ q, (Value.slice A1 M d1).ownBlock = some q → q < wc.heap.size := fun q hq => (ho1.lt q hq).2
    have HMA := Lib.hid hma; have HR1 := Lib.hid hr1; have H0A := Lib.hid h0a; have H1A := Lib.hid h1a; have HLN := Lib.hid hln
    clear hma hr1 h0a h1a hba ho0 ho1 hap hB hln
    go_wp2_with (at_builtin; refine wpList_append_any _ rfl (.tmp 30) (.tmp 31) 43 rfl w0.heap.size 3 i0 _ 1 8 Try.underlying43 HI.out HZ0.out HZ1.out HZ2.out rfl (by omega) (.slice (some ⟨wc.heap.size, 0, none⟩) 0 0) 0 [] rfl HMA.out _ A0 N d0 (l.map (Value.int .i64)) rfl HR1.out (ints_one l) (by unfold maxLen; omega) (by omega) hsz ?_)
    intro v2 w3 hown2 hgr2 hor2
    have hc3 : Ch [wc.heap.size] (wc.alloc (.cells #[] 3)) w3 := ch_grown hgr2 (fun q hq => by simp [Value.ownBlock] at hq; subst hq; simp)
    have h03 := own_chV H0A.out hc3 (fun q hq hm => by have := hlt0 q hq; simp at hm; omega)
    have h13 := own_chV H1A.out hc3 (fun q hq hm => by have := hlt1 q hq; simp at hm; omega)
    have hB3 := bel_ch hBa hc3 (fun q hq => by simp at hq; subst hq; have := (HMA.out.lt wc.heap.size rfl).1; omega)
    try rw [Nat.zero_add] at hown2
    try rw [List.nil_append] at hown2
    have hne : ∀ q, v2.ownBlock = some q → (Value.slice A1 M d1).ownBlock ≠ some q := fun q hq h1 => by
      have h2 := hlt1 q h1
      rcases hor2 with h | h
      · rw [h] at hq; simp [Value.ownBlock] at hq; omega
      · rw [h] at hq; injection hq with hq; omega
    obtain ⟨A2, c2, rfl⟩ := own_slice hown2
    have H03 := Lib.hid h03; have H13 := Lib.hid h13; have HO2 := Lib.hid hown2; have HNE := Lib.hid hne
    clear hown2 h03 h13 hc3 hgr2 hor2 hBa hne HMA HR1 H0A H1A hlt0 hlt1
    have hl3 := InI.own H03.out
    have hc3 := InI.own H13.out
    by_cases hck : chkP l cs = 0
    · have hF := fit_of hck
      have hev := even_yes A0 A1 N M d0 d1 l cs w3 hl3 hc3 (by omega) (by omega) hF
      have hrt := right_any A0 A1 N M d0 d1 l cs
      rw [hck] at hrt
      have HE := Lib.hid hev; have HF := Lib.hid hF; have HRT := Lib.hid hrt
      have hNM : N = M := by have := hF.le; have h1 := hl3.ln; have h2 := hc3.ln; omega
      subst hNM
      clear hev hck hF hrt hl3 hc3
      go_wp2_with fail
      refine HE.out.mono ?_; rintro e w4 ⟨A', ms, c', now, rfl, hownM, hst, hnn, hml, hB4⟩
      have hBx := bel_trans hB3 hB4
      have HST := Lib.hid hst; have HNN := Lib.hid hnn; have HM := Lib.hid hownM
      clear hst hnn hownM HE
      go_wp2_with fail
      refine (plans_any w4).mono ?_; rintro e w5 ⟨rfl, hB5⟩
      have hBy := bel_trans hBx hB5
      have hl5 := (InI.own H03.out).below (bel_trans hB4 hB5)
      have hc5 := (InI.own H13.out).below (bel_trans hB4 hB5)
      have hw5 := (InI.own HO2.out).below (bel_trans hB4 hB5)
      have ho5 := own_chV HO2.out (Ch.below (bel_trans hB4 hB5) []) (by simp)
      have hm5 := own_chV HM.out (Ch.below hB5 []) (by simp)
      have hrr := HRT.out w5 hl5 hc5 (by omega) (by omega)
      have HRR := Lib.hid hrr; have HO5 := Lib.hid ho5; have HM5 := Lib.hid hm5; have HC5 := Lib.hid hc5
      have hws := (HO2.out.lt)
      clear hrr ho5 hm5 hc5 HM HRT hB3 hB4 hBx hB5
      go_wp2_with fail
      refine HRR.out.mono ?_; rintro e w6 ⟨rfl, q6, rfl⟩
      replace hl5 := hl5.dn q6
      replace hw5 := hw5.dn q6
      have hBz := bel_drewN hBy q6
      have HO6 := Lib.hid (own_chV HO5.out (Ch.below (bel_drewN (Below.refl _ _) q6) []) (by simp))
      have HM6 := Lib.hid (own_chV HM5.out (Ch.below (bel_drewN (Below.refl _ _) q6) []) (by simp))
      have HC6 := Lib.hid (HC5.out.dn q6)
      clear HRR HO5 HM5 HC5 hBy
      generalize w5.drewN q6 = w7 at *
      go_wp2_with fail
      go_loopw [8] (fun v wr => ∃ (i q : Nat), i ≤ N ∧ v = .int .i64 i ∧ wr = w7.drewN q) (fun v _ => N - (intOf v).toNat)
      case atStart => exact ⟨0, 0, by omega, rfl, rfl⟩
      case round =>
        obtain ⟨i, q, hi, rfl, rfl⟩ := hrel
        by_cases hlt : i < N
        · obtain ⟨b1, o1, rfl, _, k1⟩ := hl5.get hlt
          obtain ⟨b2, o2, rfl, _, k2⟩ := hw5.get hlt
          have hi1 := fun w => idxI b1 o1 N d0 i hlt w
          have hi2 := fun w => idxI b2 o2 N c2 i hlt w
          generalize l.getD i 0 = x at *
          go_wp2_with fail
          go_quiet (fail)
          go_wp2_with fail
          go_roundw
          case rel => exact ⟨i + 1, _, by omega, by go_num, rfl⟩
          case measure => simp [intOf]; omega
        · obtain rfl : i = N := by omega
          have hB8 := bel_drewN hBz q
          have HO8 := Lib.hid (own_chV HO6.out (Ch.below (bel_drewN (Below.refl _ _) q) []) (by simp))
          have HM8 := Lib.hid (own_chV HM6.out (Ch.below (bel_drewN (Below.refl _ _) q) []) (by simp))
          have HC8 := Lib.hid (HC6.out.dn q)
          clear HO6 HM6 HC6 hBz hl5 hw5
          generalize w7.drewN q = w8 at *
          obtain ⟨g, rfl, _, _, _, _⟩ := own_at HO8.out (k := 0) (u := .int .i64 (l.getD 0 0)) (map_at (by have := HF.out.l1; omega) 0)
          have hgn : (Value.slice A1 i d1).ownBlock ≠ some g := HNE.out g rfl
          have hnC : ∀ b off, A1 = some ⟨b, off, none⟩ → b ≠ g := fun b off hA e => hgn (by rw [hA, e]; rfl)
          have hi8 : i ≤ 8 := by have h1 := HF.out.l8; have h2 := HLN.out; omega
          have hi1 : 0 < i := by have h1 := HF.out.l1; have h2 := HLN.out; omega
          clear hgn
          go_wp2_with fail
          go_loopw [9] (fun v wr => ∃ (j : Nat) (cur : List Int), j ≤ ms.length ∧ v = .int .i64 j ∧ wr.ownsRow w0.heap.size 3 1 (.slice (some ⟨g, 0, none⟩) i c2) i (cur.map (Value.int .i64)) ∧ wr.ownsRow w3.heap.size 51 2 (.slice A' ms.length c') ms.length (mvCells ms) ∧ InI wr A1 i cs ∧ steps cs l (ms.take j) = some cur ∧ Below w0.heap.size w0 wr) (fun v _ => ms.length - (intOf v).toNat)
          case atStart => exact ⟨0, l, by omega, rfl, HO8.out, HM8.out, HC8.out, rfl, hB8⟩
          case round =>
            clear hB8 HO8 HM8 HC8
            obtain ⟨j, cur, hjm, rfl, hown, hM, hC, hst, hB⟩ := hrel
            have HS := Lib.hid hst; clear hst
            have hFc := steps_fit HF.out HS.out
            have hnl : cur.length = i := by have h1 := hFc.le; have h2 := HF.out.le; have h3 := HLN.out; omega
            have hbd : ∀ k, k < i → 0 ≤ cur.getD k 0 ∧ cur.getD k 0 ≤ 1000 := fun k hk => by have := hFc.ok k (by rw [hnl]; exact hk); omega
            have hnx := next_any (some ⟨g, 0, none⟩) A1 i i c2 d1 cur cs wr (InI.own hown) hC (by omega) (by omega) rfl hi1 hbd
            by_cases hlt2 : j < ms.length
            · obtain ⟨cur', mo, h1, h2, h3, h4⟩ := steps_take cs ms l now j HST.out hlt2
              rw [HS.out] at h1
              injection h1 with h1
              subst h1
              obtain ⟨f, t⟩ := mo
              obtain ⟨hf, ht, hne, hd, _, _, _⟩ := nxt_some h3 (by omega)
              rw [hnl] at hf ht
              have hx0 := hbd f hf
              have hz0 := hbd t ht
              rw [h3, show nxtV (some (f, t)) = .tuple #[.int .i64 (f : Int), .int .i64 (t : Int), .bool true] from rfl] at hnx
              have HNX := Lib.hid hnx
              obtain ⟨bm, rfl, hbl, hbb, hcm1, hcm2⟩ := own2_at hM hlt2 h2
              simp only at hcm1 hcm2 h4
              have hgm : g ≠ bm := fun e => own_apart hown hM (by decide) g rfl (by subst e; rfl)
              have hi0 := fun w => idx_move bm ms.length c' j hlt2 w
              have hif := fun w => idx_own g i c2 f hf w
              have hit := fun w => idx_own g i c2 t ht w
              have hgetf : (cur.set f (cur.getD f 0 - 1)).getD t 0 = cur.getD t 0 := by rw [getD_set, if_neg (by omega)]
              have hmv : mv cur f t = (cur.set f (cur.getD f 0 - 1)).set t (cur.getD t 0 + 1) := by unfold mv; rw [hgetf]
              have HMS := Lib.hid h2; have HMV := Lib.hid hmv; have H4 := Lib.hid h4; have HO := Lib.hid hown; have HM := Lib.hid hM; have HC := Lib.hid hC; have HNL := Lib.hid hnl
              clear h2 h3 h4 hFc hd hnl hbd hnx hmv hgetf hown hM hC
              generalize hxe : cur.getD f 0 = x at *
              generalize hze : cur.getD t 0 = z at *
              have HX := Lib.hid hxe; have HZ := Lib.hid hze
              clear hxe hze
              go_wp2_with fail
              refine HNX.out.mono ?_; rintro e wn ⟨rfl, qn, rfl⟩
              have hO1 := own_chV HO.out (Ch.below (bel_drewN (Below.refl _ _) qn) []) (by simp)
              have hM1 := own_chV HM.out (Ch.below (bel_drewN (Below.refl _ _) qn) []) (by simp)
              have hC1 := HC.out.dn qn
              have hB1 := bel_drewN hB qn
              clear hcm1 hcm2 hB HNX
              generalize wr.drewN qn = wn at *
              have hms : ms[j]? = some (f, t) := HMS.out
              obtain ⟨bx, hbx, _, _, hcm1, hcm2⟩ := own2_at hM1 hlt2 hms
              injection hbx with hbx; injection hbx with hbx; subst hbx
              simp only at hcm1 hcm2
              obtain ⟨gx, hgx, hcf, hgl, hgb, hff⟩ := own_at hO1 (k := f) (u := .int .i64 (cur.getD f 0)) (map_at (by have := HNL.out; omega) 0)
              injection hgx with hgx; injection hgx with hgx; subst hgx
              rw [HX.out] at hcf
              have HO1 := Lib.hid hO1; have HM1 := Lib.hid hM1; have HC1 := Lib.hid hC1
              clear hms hO1 hM1 hC1
              go_upto_region 20 with fail
              have hO2 := own_set1 HO1.out hf (.int .i64 (x - 1))
              rw [← List.map_set] at hO2
              have hcg : Ch [g] wn (wn.setCell ⟨g, f, none⟩ (.int .i64 (x - 1))) := (Ch.refl [g] wn).set (by simp) _
              have hM2 := own_chV HM1.out hcg (fun gg hg hm => by simp at hm; simp [Value.ownBlock] at hg; omega)
              have hC2 := HC1.out.ch hcg (fun b off hA hm => by simp at hm; exact hnC b off hA hm)
              have hB2 := bel_set hB1 (p := ⟨g, f, none⟩) hgb (.int .i64 (x - 1))
              have hz2 : (cur.set f (x - 1)).getD t 0 = z := by rw [getD_set, if_neg (by omega)]; exact HZ.out
              obtain ⟨gx, hgx, hct2, _, _, hft2⟩ := own_at hO2 (k := t) (u := .int .i64 ((cur.set f (x - 1)).getD t 0)) (map_at (by rw [List.length_set]; have := HNL.out; omega) 0)
              injection hgx with hgx; injection hgx with hgx; subst hgx
              rw [hz2] at hct2
              have HO2 := Lib.hid hO2; have HM2 := Lib.hid hM2; have HC2 := Lib.hid hC2
              clear hO2 hM2 hC2 hz2 hcf hff hcm1 hcm2 hcg hB1
              generalize wn.setCell ⟨g, f, none⟩ (.int .i64 (x - 1)) = w9 at *
              go_wp2_with fail
              have hO3 := own_set1 HO2.out ht (.int .i64 (z + 1))
              rw [← List.map_set, ← HMV.out] at hO3
              have hcg : Ch [g] w9 (w9.setCell ⟨g, t, none⟩ (.int .i64 (z + 1))) := (Ch.refl [g] w9).set (by simp) _
              have hM3 := own_chV HM2.out hcg (fun gg hg hm => by simp at hm; simp [Value.ownBlock] at hg; omega)
              have hC3 := HC2.out.ch hcg (fun b off hA hm => by simp at hm; exact hnC b off hA hm)
              have hB3 := bel_set hB2 (p := ⟨g, t, none⟩) hgb (.int .i64 (z + 1))
              have HO3 := Lib.hid hO3; have HM3 := Lib.hid hM3; have HC3 := Lib.hid hC3
              clear hO3 hM3 hC3 hcg hB2 hct2 hft2
              go_roundw
              case rel => exact ⟨j + 1, mv cur f t, by omega, by go_num, HO3.out, HM3.out, HC3.out, H4.out, hB3⟩
              case measure => simp [intOf]; omega
            · obtain rfl : j = ms.length := by omega
              have hst := HS.out
              rw [List.take_of_length_le (Nat.le_refl _), HST.out] at hst
              injection hst with hst
              subst hst
              rw [HNN.out, show nxtV none = .tuple #[.int .i64 0, .int .i64 0, .bool false] from rfl] at hnx
              have HNX := Lib.hid hnx
              clear hnx hown hM hC hFc hbd hnl
              go_wp2_with fail
              refine HNX.out.mono ?_; rintro e wn ⟨rfl, qn, rfl⟩
              have hB9 := bel_drewN hB qn
              go_wp2_with fail
              go_ret
              exact ⟨rfl, hB9⟩
    · have hev := even_no A0 A1 N M d0 d1 l cs w3 hl3 hc3 (by omega) (by omega) hck
      have hrt := right_any A0 A1 N M d0 d1 l cs
      generalize chkP l cs = v at *
      have hv1 : (v == 0) = false := by rw [beq_eq_false_iff_ne]; exact hck
      have hv2 : (v != 0) = true := by rw [bne_iff_ne]; exact hck
      have HE := Lib.hid hev; have HRT := Lib.hid hrt
      clear hev hck hrt hl3 hc3
      go_wp2_with fail
      refine HE.out.mono ?_; rintro e w4 ⟨rfl, rfl⟩
      go_wp2_with fail
      refine (plans_any w3).mono ?_; rintro e w5 ⟨rfl, hB5⟩
      have hBy := bel_trans hB3 hB5
      have hl5 := (InI.own H03.out).below hB5
      have hc5 := (InI.own H13.out).below hB5
      have hw5 := (InI.own HO2.out).below hB5
      have hrr := HRT.out w5 hl5 hc5 (by omega) (by omega)
      have HRR := Lib.hid hrr
      clear hrr hc5 hB3 hB5 HE HRT
      go_wp2_with fail
      refine HRR.out.mono ?_; rintro e w6 ⟨rfl, q6, rfl⟩
      replace hl5 := hl5.dn q6
      replace hw5 := hw5.dn q6
      have hBz := bel_drewN hBy q6
      clear HRR hBy
      generalize w5.drewN q6 = w7 at *
      go_wp2_with fail
      go_loopw [8] (fun v wr => ∃ (i q : Nat), i ≤ N ∧ v = .int .i64 i ∧ wr = w7.drewN q) (fun v _ => N - (intOf v).toNat)
      case atStart => exact ⟨0, 0, by omega, rfl, rfl⟩
      case round =>
        obtain ⟨i, q, hi, rfl, rfl⟩ := hrel
        by_cases hlt : i < N
        · obtain ⟨b1, o1, rfl, _, k1⟩ := hl5.get hlt
          obtain ⟨b2, o2, rfl, _, k2⟩ := hw5.get hlt
          have hi1 := fun w => idxI b1 o1 N d0 i hlt w
          have hi2 := fun w => idxI b2 o2 N c2 i hlt w
          generalize l.getD i 0 = x at *
          go_wp2_with fail
          go_quiet (fail)
          go_wp2_with fail
          go_roundw
          case rel => exact ⟨i + 1, _, by omega, by go_num, rfl⟩
          case measure => simp [intOf]; omega
        · obtain rfl : i = N := by omega
          have hB8 := bel_drewN hBz q
          clear hl5 hw5
          go_wp2_with fail
          go_ret
          exact ⟨rfl, hB8⟩
end Go.Proofs.Ytmheafagafdnlaa
