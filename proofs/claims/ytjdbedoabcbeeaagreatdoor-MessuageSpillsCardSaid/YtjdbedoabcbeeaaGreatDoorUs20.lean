/- Parts of the proof: Stats3, Four. -/
import Derived.Test.YtjdbedoabcbeeaaGreatDoorUs19
import Derived.Test.YtjdbedoabcbeeaaGreatDoorUs3
import Derived.Test.YtjdbedoabcbeeaaGreatDoorUs10
import Derived.Test.YtjdbedoabcbeeaaGreatDoorUs4
/- Package stats (layer 16): Add of whatever, Node, Events; the reference's Right; the laws' own test. -/
namespace Go.Proofs.YtjdbedoabcbeeaaGreatDoor
open Go.RowKit
set_option linter.unusedVariables false
set_option linter.unusedSimpArgs false
attribute [local go_sem] World.cell?_alloc_lt

def evV (x : Ev) : Value := .agg #[.int .i64 x.node, .int .i64 x.start, .int .i64 x.own, .bool x.il]
def addE (x : Ev) (n : Nat) : Int := if x.right n then 0 else 10
def addL (evs : List Ev) (x : Ev) (n : Nat) : List Ev := if x.right n then evs ++ [x] else evs
theorem addL_len (evs : List Ev) (x : Ev) (n : Nat) : (addL evs x n).length ≤ evs.length + 1 := by unfold addL; split <;> simp
def rowOf (A : Option Addr) : List Nat := (A.map (·.block)).toList
theorem own_rowOf (A : Option Addr) (n c : Nat) : (Value.slice A n c).ownBlock.toList = rowOf A := by cases A <;> rfl
theorem mem_rowOf {A : Option Addr} {n c q : Nat} : (Value.slice A n c).ownBlock = some q ↔ q ∈ rowOf A := by
  cases A <;> simp [Value.ownBlock, rowOf, eq_comm]
/-- What Add leaves of a log. -/
structure Add2 (w w' : World) (base g bc nodes : Nat) (A : Option Addr) (evs : List Ev) (A' : Option Addr) (c' : Nat) : Prop where
  log : LogAt w' base g bc nodes A' c' evs
  ch : Ch (g :: bc :: rowOf A) w w'
  row : ∀ q, q ∈ rowOf A' → q ∈ rowOf A ∨ w.heap.size ≤ q
theorem add_node_no (base g bc nodes c : Nat) (A : Option Addr) (evs : List Ev) (x : Ev) (w : World) (hG : LogAt w base g bc nodes A c evs) (h : x.right nodes = false) :
    Calls Tryz.prog 118 #[.pointer (some ⟨g, 0, none⟩), evV x] w fun e w' => e = .returned (.int .i64 10) ∧ Below w.heap.size w w' := by
  obtain ⟨n, s, o, il⟩ := x
  have hgl := hG.st.lt
  have hGa := hG.below (bel_alloc (Below.refl _ _) (.cells #[.int .i64 n, .int .i64 s, .int .i64 o, .bool il] 227))
  have h8 := hG.n8
  unfold Ev.right at h
  simp only [decide_eq_false_iff_not] at h
  unfold evV
  have hsub : (nodeP bc nodes n = none) ∨ (∃ a, n = (a : Nat) ∧ a < nodes ∧ nodeP bc nodes s = none) ∨ (∃ a b, n = (a : Nat) ∧ a < nodes ∧ s = (b : Nat) ∧ b < nodes ∧ nodeP bc nodes o = none) := by
    by_cases h1 : 0 ≤ n ∧ n < (nodes : Int)
    · obtain ⟨a, rfl⟩ := Int.eq_ofNat_of_zero_le h1.1
      by_cases h2 : 0 ≤ s ∧ s < (nodes : Int)
      · obtain ⟨b, rfl⟩ := Int.eq_ofNat_of_zero_le h2.1
        exact Or.inr (Or.inr ⟨a, b, rfl, by omega, rfl, by omega, nodeP_no (by omega)⟩)
      · exact Or.inr (Or.inl ⟨a, rfl, by omega, nodeP_no (by omega)⟩)
    · exact Or.inl (nodeP_no (by omega))
  clear h hG
  rcases hsub with h | ⟨a, rfl, h1, h⟩ | ⟨a, b, rfl, h1, rfl, h2, h⟩
  · have HP := Lib.hid h; clear h
    go_enter Tryz.func118, Tryz.ntmps118
    go_wp2_with fail
    refine wp_region_quiet_lit (by kernel_rfl) (by kernel_rfl) ?_
    repeat (first | go_big_quiet_step ((go_at_call 37; exact Calls.quiet_of_same ((snode_any base g bc nodes c A evs _ _ (hGa.dn _)).mono fun _ _ h => ⟨h.1, h.2.symm⟩))) | quiet_step ((go_at_call 37; exact Calls.quiet_of_same ((snode_any base g bc nodes c A evs _ _ (hGa.dn _)).mono fun _ _ h => ⟨h.1, h.2.symm⟩))))
    refine wpQuiet_nil ?_; intro _ hw'; obtain ⟨nq, hw''⟩ := hw'; subst hw''
    rw [HP.out]
    go_wp2_with fail
    go_ret
    exact ⟨rfl, bel_drewN (bel_alloc (Below.refl _ _) _) _⟩
  · have HP := Lib.hid h; have HA := Lib.hid (nodeP_yes (bc := bc) h1); clear h
    go_enter Tryz.func118, Tryz.ntmps118
    go_wp2_with fail
    refine wp_region_quiet_lit (by kernel_rfl) (by kernel_rfl) ?_
    repeat (first | go_big_quiet_step ((go_at_call 37; exact Calls.quiet_of_same ((snode_any base g bc nodes c A evs _ _ (hGa.dn _)).mono fun _ _ h => ⟨h.1, h.2.symm⟩))) | quiet_step ((go_at_call 37; exact Calls.quiet_of_same ((snode_any base g bc nodes c A evs _ _ (hGa.dn _)).mono fun _ _ h => ⟨h.1, h.2.symm⟩))))
    refine wpQuiet_nil ?_; intro _ hw'; obtain ⟨nq, hw''⟩ := hw'; subst hw''
    rw [HP.out, HA.out]
    go_wp2_with fail
    go_ret
    exact ⟨rfl, bel_drewN (bel_alloc (Below.refl _ _) _) _⟩
  · have HP := Lib.hid h; have HA := Lib.hid (nodeP_yes (bc := bc) h1); have HB := Lib.hid (nodeP_yes (bc := bc) h2); clear h
    go_enter Tryz.func118, Tryz.ntmps118
    go_wp2_with fail
    refine wp_region_quiet_lit (by kernel_rfl) (by kernel_rfl) ?_
    repeat (first | go_big_quiet_step ((go_at_call 37; exact Calls.quiet_of_same ((snode_any base g bc nodes c A evs _ _ (hGa.dn _)).mono fun _ _ h => ⟨h.1, h.2.symm⟩))) | quiet_step ((go_at_call 37; exact Calls.quiet_of_same ((snode_any base g bc nodes c A evs _ _ (hGa.dn _)).mono fun _ _ h => ⟨h.1, h.2.symm⟩))))
    refine wpQuiet_nil ?_; intro _ hw'; obtain ⟨nq, hw''⟩ := hw'; subst hw''
    rw [HA.out]
    try rw [HB.out]
    go_wp2_with fail
    refine (snode_any base g bc nodes c A evs _ _ (hGa.dn _)).mono ?_; rintro e w1 ⟨rfl, rfl⟩
    rw [HP.out]
    go_wp2_with fail
    go_ret
    exact ⟨rfl, bel_drewN (bel_alloc (Below.refl _ _) _) _⟩
theorem add_any (base g bc nodes c : Nat) (A : Option Addr) (evs : List Ev) (x : Ev) (w : World) (hG : LogAt w base g bc nodes A c evs) (hbase : base ≤ w.heap.size) (hm : evs.length < 1000) :
    Calls Tryz.prog 118 #[.pointer (some ⟨g, 0, none⟩), evV x] w fun e w' => e = .returned (.int .i64 (addE x nodes)) ∧ ∃ A' c', Add2 w w' base g bc nodes A (addL evs x nodes) A' c' := by
  by_cases hr : x.right nodes = true
  · have key : Calls Tryz.prog 118 #[.pointer (some ⟨g, 0, none⟩), evV x] w fun e w' => ∃ gg cap, e = .returned (.int .i64 0) ∧ Added w w' base g bc nodes A c evs x gg cap := by
      obtain ⟨n, s, o, il⟩ := x
      unfold Ev.right at hr
      simp only [decide_eq_true_eq] at hr
      obtain ⟨n0, n1, s0, s1, o0, o1⟩ := hr
      obtain ⟨a, rfl⟩ := Int.eq_ofNat_of_zero_le n0
      obtain ⟨b, rfl⟩ := Int.eq_ofNat_of_zero_le s0
      obtain ⟨d, rfl⟩ := Int.eq_ofNat_of_zero_le o0
      by_cases e1 : a = b
      · subst e1
        by_cases e2 : a = d
        · subst e2
          cases il
          · exact add_3 base g bc nodes c A evs a w hG (by omega) hbase hm
          · exact add_1 base g bc nodes c A evs a w hG (by omega) hbase hm
        · cases il
          · exact add_4 base g bc nodes c A evs a d w hG (by omega) (by omega) e2 hbase hm
          · exact add_2 base g bc nodes c A evs a d w hG (by omega) (by omega) e2 hbase hm
      · by_cases e2 : a = d
        · subst e2
          exact add_5 base g bc nodes c A evs a b il w hG (by omega) (by omega) e1 hbase hm
        · exact add_6 base g bc nodes c A evs a b d il w hG (by omega) (by omega) e1 (by omega) e2 hbase hm
    unfold addE addL
    rw [if_pos hr, if_pos hr]
    refine key.mono ?_
    rintro e w' ⟨gg, cap, rfl, h⟩
    refine ⟨rfl, some ⟨gg, 0, none⟩, cap, h.log, by rw [← own_rowOf A evs.length c]; exact h.ch, fun q hq => ?_⟩
    have : gg = q := by simpa [rowOf, eq_comm] using hq
    subst this
    rcases h.row with h | h
    · exact Or.inl (mem_rowOf.1 h)
    · exact Or.inr h
  · have hr : x.right nodes = false := by simpa using hr
    unfold addE addL
    rw [hr, if_neg Bool.false_ne_true, if_neg Bool.false_ne_true]
    refine (add_node_no base g bc nodes c A evs x w hG hr).mono ?_
    rintro e w' ⟨rfl, h⟩
    exact ⟨rfl, A, c, hG.below h, Ch.below h _, fun q hq => Or.inl hq⟩
/-- The counts of a node, as a value. -/
def cntV (evs : List Ev) (k : Int) : Value := .agg #[.int .i64 (cc evs k 0 : Nat), .int .i64 (cc evs k 1 : Nat), .int .i64 (cc evs k 2 : Nat), .int .i64 (cc evs k 3 : Nat), .int .i64 (cc evs k 4 : Nat), .int .i64 (cc evs k 5 : Nat)]
theorem node_yes (base g bc nodes c : Nat) (A : Option Addr) (evs : List Ev) (k : Nat) (w : World) (hG : LogAt w base g bc nodes A c evs) (hk : k < nodes) :
    Calls Tryz.prog 14 #[.pointer (some ⟨g, 0, none⟩), .int .i64 k] w fun e w' => e = .returned (.tuple #[cntV evs k, .int .i64 0]) ∧ Below w.heap.size w w' := by
  have k1 := hG.ct0
  have hgl := hG.st.lt
  have hbl := hG.ctlt
  obtain ⟨m0, _⟩ := hG.at_ k 0 hk (by omega)
  obtain ⟨m1, _⟩ := hG.at_ k 1 hk (by omega)
  obtain ⟨m2, _⟩ := hG.at_ k 2 hk (by omega)
  obtain ⟨m3, _⟩ := hG.at_ k 3 hk (by omega)
  obtain ⟨m4, _⟩ := hG.at_ k 4 hk (by omega)
  obtain ⟨m5, _⟩ := hG.at_ k 5 hk (by omega)
  rw [Nat.add_zero] at m0
  have hib := fun w => idx_counts bc nodes k hk w
  have hnn := fun w h => snode_any base g bc nodes c A evs (k : Int) w h
  rw [nodeP_yes hk] at hnn
  have HN := Lib.hid hnn; clear hnn
  have HG := Lib.hid hG; clear hG
  unfold cntV
  generalize cc evs k 0 = n0 at *
  generalize cc evs k 1 = n1 at *
  generalize cc evs k 2 = n2 at *
  generalize cc evs k 3 = n3 at *
  generalize cc evs k 4 = n4 at *
  generalize cc evs k 5 = n5 at *
  go_enter Tryz.func14, Tryz.ntmps14
  go_wp2_with fail
  refine (HN.out _ (HG.out.below (bel_alloc (Below.refl _ _) _))).mono ?_; rintro e w1 ⟨rfl, rfl⟩
  go_wp2_with fail
  exact bodyPost_ret (v := .tuple #[.agg #[.int .i64 n0, .int .i64 n1, .int .i64 n2, .int .i64 n3, .int .i64 n4, .int .i64 n5], .int .i64 0]) (by simp [results, Tryz.results14, go_sem]) rfl ⟨rfl, (by repeat (first | exact Below.refl _ _ | assumption | with_reducible refine bel_alloc ?_ _ | with_reducible refine bel_drewN ?_ _ | with_reducible refine bel_drew ?_))⟩
theorem node_no (base g bc nodes c : Nat) (A : Option Addr) (evs : List Ev) (k : Int) (w : World) (hG : LogAt w base g bc nodes A c evs) (hk : k < 0 ∨ (nodes : Int) ≤ k) :
    Calls Tryz.prog 14 #[.pointer (some ⟨g, 0, none⟩), .int .i64 k] w fun e w' => e = .returned (.tuple #[cntV [] 0, .int .i64 10]) ∧ Below w.heap.size w w' := by
  have hnn := fun w h => snode_any base g bc nodes c A evs (k : Int) w h
  rw [nodeP_no hk] at hnn
  have HN := Lib.hid hnn; clear hnn
  have HG := Lib.hid hG; clear hG
  go_enter Tryz.func14, Tryz.ntmps14
  go_wp2_with fail
  refine (HN.out _ (HG.out.below (bel_alloc (Below.refl _ _) _))).mono ?_; rintro e w1 ⟨rfl, rfl⟩
  go_wp2_with fail
  exact bodyPost_ret (v := .tuple #[.agg #[.int .i64 0, .int .i64 0, .int .i64 0, .int .i64 0, .int .i64 0, .int .i64 0], .int .i64 10]) (by simp [results, Tryz.results14, go_sem]) rfl ⟨rfl, (by repeat (first | exact Below.refl _ _ | assumption | with_reducible refine bel_alloc ?_ _ | with_reducible refine bel_drewN ?_ _ | with_reducible refine bel_drew ?_))⟩
theorem node_nil (k : Int) (w : World) :
    Calls Tryz.prog 14 #[.pointer none, .int .i64 k] w fun e w' => e = .returned (.tuple #[cntV [] 0, .int .i64 1]) ∧ Below w.heap.size w w' := by
  go_enter Tryz.func14, Tryz.ntmps14
  go_wp2_with fail
  exact bodyPost_ret (v := .tuple #[.agg #[.int .i64 0, .int .i64 0, .int .i64 0, .int .i64 0, .int .i64 0, .int .i64 0], .int .i64 1]) (by simp [results, Tryz.results14, go_sem]) rfl ⟨rfl, (by repeat (first | exact Below.refl _ _ | assumption | with_reducible refine bel_alloc ?_ _ | with_reducible refine bel_drewN ?_ _ | with_reducible refine bel_drew ?_))⟩
theorem add_nil (x : Ev) (w : World) : Calls Tryz.prog 118 #[.pointer none, evV x] w fun e w' => e = .returned (.int .i64 1) ∧ Below w.heap.size w w' := by
  unfold evV
  go_enter Tryz.func118, Tryz.ntmps118
  go_wp2_with fail
  go_ret
  exact ⟨rfl, (by repeat (first | exact Below.refl _ _ | assumption | with_reducible refine bel_alloc ?_ _ | with_reducible refine bel_drewN ?_ _ | with_reducible refine bel_drew ?_))⟩
/-- slices.Clone of a row of events. -/
theorem wpList_pushes4 {P : Program} (w : World) {ops : Array Oper} {rest : List Oper} {o : Oper} {a : Act} {Q : Exit → Act → World → Prop} (hgd : o.guard = none) (s x : Operand) (t : TypeId)
    (ho : o.op = .call { callee := .builtin .append, args := #[s, x], argTypes := #[t, t] })
    (base : Nat) (e : TypeId) (z : Value) (sz bytes : Nat) (ht : P.underlying t = some (.slice e)) (hinfo : (P.info? e).map (fun i => (i.zero, i.size, i.bytes)) = some (some z, sz, bytes)) (hz1 : z.cells.size = sz) (hsz : 0 < sz)
    (A : Option Addr) (n c : Nat) (xs : List Value) (hs : a.eval s = .slice A n c) (hown : w.ownsRow base e sz (.slice A n c) n xs)
    (B off m mc : Nat) (us : List Value) (hx : a.eval x = .slice (some ⟨B, off, none⟩) m mc) (hl : us.length = m * sz) (hc : ∀ j u, us[j]? = some u → w.cell? ⟨B, off + j, none⟩ = some u) (h1 : ∀ u ∈ us, u.oneCell' = true)
    (hm : 0 < m) (hb : (n + m) * bytes ≤ 140737488355328) (hn63 : n + m ≤ 9223372036854775807) (hbase : base ≤ w.heap.size)
    (h : ∀ g cap w', w'.ownsRow base e sz (.slice (some ⟨g, 0, none⟩) (n + m) cap) (n + m) (xs ++ us) → w.grownBy w' (Value.slice A n c).ownBlock → ((Value.slice A n c).ownBlock = some g ∨ g = w.heap.size) → wpList P ops Q rest (a.put o.dst (.slice (some ⟨g, 0, none⟩) (n + m) cap)) w') : wpList P ops Q (o :: rest) a w := by
  obtain ⟨i0, hi, hz0, hz1', hz2⟩ := info_parts hinfo
  refine wpList_append_lies w hgd s x t ho base e i0 z sz bytes ht hi hz0 hz1' hz2 hz1 hsz _ n xs hs hown ⟨B, off, none⟩ m mc us hx hl ?_ h1 hm (by unfold maxLen; omega) hb hbase _ rfl (fun g cap w' h1 h2 h3 _ => h g cap w' h1 h2 h3)
  intro j v hj
  have := hc j v hj
  rw [WideShapes.add_plain]; exact this
theorem evCells_one (l : List Ev) : ∀ u ∈ evCells l, u.oneCell' = true := by
  intro u hu
  unfold evCells at hu
  obtain ⟨x, _, hx⟩ := List.mem_flatMap.1 hu
  unfold Ev.cells at hx
  simp at hx
  rcases hx with rfl | rfl | rfl | rfl <;> rfl
theorem own_made4 (w : World) (e s : TypeId) : (w.alloc (.cells #[] e)).ownsRow w.heap.size e s (.slice (some ⟨w.heap.size, 0, none⟩) 0 0) 0 [] :=
  ⟨by simp, Or.inr ⟨w.heap.size, 0, #[], rfl, Nat.le_refl _, heap_alloc_new w _, by omega, by simp, by simp, by simp⟩⟩
theorem ret_b {a b : Bool} (h : a = b) : Ending.returned (.bool a) = .returned (.bool b) := by rw [h]
def e1 : Ev := ⟨1, 0, 0, false⟩
end Go.Proofs.YtjdbedoabcbeeaaGreatDoor
/- Four rows of ints of the call's own that lie in one block. -/
namespace Go.Proofs.YtjdbedoabcbeeaaGreatDoor
open Go.RowKit
set_option linter.unusedVariables false
set_option linter.unusedSimpArgs false
attribute [local go_sem] World.cell?_alloc_lt

section
variable {w w' : World} {base n k e s : Nat} {v : Value} {xs : List Value}
end

/-- Four slices of ints in a block. -/
structure Four (w : World) (base t g : Nat) (vs : List Value) (X : Nat → List Int) : Prop where
  st : Blk w g t vs
  ln : vs.length = 4
  row : ∀ (k : Nat) (v : Value), vs[k]? = some v → w.ownsRow base 3 1 v (X k).length ((X k).map (Value.int .i64))
  ap : ∀ (i j : Nat) (v v' : Value) (b : Nat), i ≠ j → vs[i]? = some v → vs[j]? = some v' → v.ownBlock = some b → v'.ownBlock ≠ some b
  gb : base ≤ g
  nt : 3 ≠ t
  mx : ∀ k, (X k).length ≤ 8
/-- The blocks that it may write. -/
def cset (g : Nat) (vs : List Value) : List Nat := g :: vs.filterMap Value.ownBlock
def setX (X : Nat → List Int) (k : Nat) (xs : List Int) : Nat → List Int := fun i => if i = k then xs else X i
theorem cset_mem {g x : Nat} {vs : List Value} : x ∈ cset g vs ↔ x = g ∨ ∃ v, v ∈ vs ∧ v.ownBlock = some x := by
  unfold cset; simp [List.mem_filterMap]
section
variable {w w' w1 : World} {base t g k n : Nat} {vs : List Value} {X : Nat → List Int}
theorem Four.lt (h : Four w base t g vs X) : ∀ x ∈ cset g vs, base ≤ x ∧ x < w.heap.size := by
  intro x hx
  rcases cset_mem.1 hx with rfl | ⟨v, hv, hb⟩
  · exact ⟨h.gb, h.st.lt⟩
  · obtain ⟨k, hk⟩ := List.mem_iff_getElem?.1 hv
    exact (h.row k v hk).lt x hb
theorem Four.ch {S : List Nat} (h : Four w base t g vs X) (k : Ch S w w') (hd : ∀ x ∈ cset g vs, x ∉ S) : Four w' base t g vs X :=
  ⟨h.st.ch k (hd g (by simp [cset])), h.ln, fun i v hv => own_chV (h.row i v hv) k (fun b hb => hd b (cset_mem.2 (Or.inr ⟨v, List.mem_of_getElem? hv, hb⟩))), h.ap, h.gb, h.nt, h.mx⟩
theorem Four.below (h : Four w base t g vs X) (k : Below w.heap.size w w') : Four w' base t g vs X := h.ch (Ch.below k []) (by simp)
theorem Four.dn (h : Four w base t g vs X) (n : Nat) : Four (w.drewN n) base t g vs X := h.below (bel_drewN (Below.refl _ _) n)
theorem Four.at_ (h : Four w base t g vs X) (hk : k < 4) : ∃ A c, vs[k]? = some (.slice A (X k).length c) ∧ w.ownsRow base 3 1 (.slice A (X k).length c) (X k).length ((X k).map (Value.int .i64)) ∧ w.cell? ⟨g, k, none⟩ = some (.slice A (X k).length c) ∧ w.frozen? ⟨g, k, none⟩ = false := by
  have hv : vs[k]? = some (vs[k]'(by have := h.ln; omega)) := List.getElem?_eq_getElem _
  generalize vs[k]'(by have := h.ln; omega) = v at hv
  have hr := h.row k v hv
  obtain ⟨A, c, rfl⟩ := own_slice hr
  exact ⟨A, c, hv, hr, h.st.at_ hv, h.st.frozen _⟩
theorem Four.set_ {v v' : Value} {xs' : List Int} (h : Four w base t g vs X) (hv : vs[k]? = some v) (hc : Ch v.ownBlock.toList w w1) (hown : w1.ownsRow base 3 1 v' xs'.length (xs'.map (Value.int .i64))) (ho : ∀ b, v'.ownBlock = some b → v.ownBlock = some b ∨ w.heap.size ≤ b) (hl : xs'.length ≤ 8) :
    Four (w1.setCell ⟨g, k, none⟩ v') base t g (vs.set k v') (setX X k xs') ∧ Ch (cset g vs) w (w1.setCell ⟨g, k, none⟩ v') ∧ ∀ x ∈ cset g (vs.set k v'), x ∈ cset g vs ∨ w.heap.size ≤ x := by
  have hk : k < 4 := by have := (List.getElem?_eq_some_iff.1 hv).1; have := h.ln; omega
  have hgv : v.ownBlock ≠ some g := own_neV (h.row k v hv) h.st h.nt
  have hgv' : v'.ownBlock ≠ some g := fun e => by
    rcases ho g e with h1 | h1
    · exact hgv h1
    · have := h.st.lt; omega
  have hg1 : Blk w1 g t vs := h.st.ch hc (by intro hm; rw [Option.mem_toList] at hm; exact hgv hm)
  have hcs : Ch [g] w1 (w1.setCell ⟨g, k, none⟩ v') := (Ch.refl [g] w1).set (by simp) _
  have hmem : v ∈ vs := List.mem_of_getElem? hv
  refine ⟨⟨hg1.set_ k v', by rw [List.length_set]; exact h.ln, ?_, ?_, h.gb, h.nt, ?_⟩, ?_, ?_⟩
  · intro j u hu
    by_cases hj : j = k
    · subst hj
      rw [List.getElem?_set_self (by have := h.ln; omega)] at hu
      injection hu with hu
      subst hu
      simp only [setX, if_pos rfl]
      exact own_chV hown hcs (fun b hb => by simp; rintro rfl; exact hgv' hb)
    · rw [List.getElem?_set_ne (by omega)] at hu
      simp only [setX, if_neg hj]
      have h1 := own_chV (h.row j u hu) hc (fun b hb hm => by
        rw [Option.mem_toList] at hm
        exact h.ap j k u v b hj hu hv hb hm)
      exact own_chV h1 hcs (fun b hb => by simp; rintro rfl; exact own_neV (h.row j u hu) h.st h.nt hb)
  · intro i j u u' b hij hu hu' hb hb'
    by_cases hi : i = k
    · subst hi
      rw [List.getElem?_set_self (by have := h.ln; omega)] at hu
      injection hu with hu
      subst hu
      rw [List.getElem?_set_ne (by omega)] at hu'
      rcases ho b hb with h1 | h1
      · exact h.ap i j v u' b hij hv hu' h1 hb'
      · have := ((h.row j u' hu').lt b hb').2; omega
    · rw [List.getElem?_set_ne (by omega)] at hu
      by_cases hj : j = k
      · subst hj
        rw [List.getElem?_set_self (by have := h.ln; omega)] at hu'
        injection hu' with hu'
        subst hu'
        rcases ho b hb' with h1 | h1
        · exact h.ap i j u v b hij hu hv hb h1
        · have := ((h.row i u hu).lt b hb).2; omega
      · rw [List.getElem?_set_ne (by omega)] at hu'
        exact h.ap i j u u' b hij hu hu' hb hb'
  · intro i
    unfold setX
    split
    · exact hl
    · exact h.mx i
  · refine (hc.mono ?_).then_ hcs ?_
    · intro b hb
      rw [Option.mem_toList] at hb
      exact cset_mem.2 (Or.inr ⟨v, hmem, hb⟩)
    · intro b hb
      simp at hb
      subst hb
      left; simp [cset]
  · intro x hx
    rcases cset_mem.1 hx with rfl | ⟨u, hu, hb⟩
    · left; simp [cset]
    · rcases List.mem_or_eq_of_mem_set hu with h1 | h1
      · left; exact cset_mem.2 (Or.inr ⟨u, h1, hb⟩)
      · subst h1
        rcases ho x hb with h2 | h2
        · left; exact cset_mem.2 (Or.inr ⟨v, hmem, h2⟩)
        · right; exact h2
end
end Go.Proofs.YtjdbedoabcbeeaaGreatDoor
