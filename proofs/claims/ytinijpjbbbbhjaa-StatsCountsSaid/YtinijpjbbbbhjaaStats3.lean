/- Package stats (layer 16): Add of whatever, Node, Events; the reference's Right; the laws' own test. -/
import Derived.Test.YtinijpjbbbbhjaaStats2
import Derived.Test.YtinijpjbbbbhjaaClone
import Derived.Test.YtinijpjbbbbhjaaAfter
namespace Go.Proofs.Ytinijpjbbbbhjaa
open Go.RowKit
set_option linter.unusedVariables false
set_option linter.unusedSimpArgs false
attribute [local go_sem] World.cell?_alloc_lt

def evV (x : Ev) : Value := .agg #[.int .i64 x.node, .int .i64 x.start, .int .i64 x.own, .bool x.il]
def addE (x : Ev) (n : Nat) : Int := if x.right n then 0 else 10
def addL (evs : List Ev) (x : Ev) (n : Nat) : List Ev := if x.right n then evs ++ [x] else evs
theorem addL_len (evs : List Ev) (x : Ev) (n : Nat) : (addL evs x n).length ≤ evs.length + 1 := by unfold addL; split <;> simp
def rowOf (A : Option Addr) : List Nat := (A.map (·.block)).toList
theorem own_rowOf (A : Option Addr) (n c : Nat) : (Value.slice A n c).ownBlock.toList = rowOf A := by cases A <;> rfl
theorem mem_rowOf {A : Option Addr} {n c q : Nat} : (Value.slice A n c).ownBlock = some q ↔ q ∈ rowOf A := by
  cases A <;> simp [Value.ownBlock, rowOf, eq_comm]
/-- What Add leaves of a log. -/
structure Add2 (w w' : World) (base g bc nodes : Nat) (A : Option Addr) (evs : List Ev) (A' : Option Addr) (c' : Nat) : Prop where
  log : LogAt w' base g bc nodes A' c' evs
  ch : Ch (g :: bc :: rowOf A) w w'
  row : ∀ q, q ∈ rowOf A' → q ∈ rowOf A ∨ w.heap.size ≤ q
theorem add_node_no (base g bc nodes c : Nat) (A : Option Addr) (evs : List Ev) (x : Ev) (w : World) (hG : LogAt w base g bc nodes A c evs) (h : x.right nodes = false) :
    Calls Try.prog 11 #[.pointer (some ⟨g, 0, none⟩), evV x] w fun e w' => e = .returned (.int .i64 10) ∧ Below w.heap.size w w' := by
  obtain ⟨n, s, o, il⟩ := x
  have hgl := hG.st.lt
  have hGa := hG.below (bel_alloc (Below.refl _ _) (.cells #[.int .i64 n, .int .i64 s, .int .i64 o, .bool il] 33))
  have h8 := hG.n8
  unfold Ev.right at h
  simp only [decide_eq_false_iff_not] at h
  unfold evV
  have hsub : (nodeP bc nodes n = none) ∨ (∃ a, n = (a : Nat) ∧ a < nodes ∧ nodeP bc nodes s = none) ∨ (∃ a b, n = (a : Nat) ∧ a < nodes ∧ s = (b : Nat) ∧ b < nodes ∧ nodeP bc nodes o = none) := by
    by_cases h1 : 0 ≤ n ∧ n < (nodes : Int)
    · obtain ⟨a, rfl⟩ := Int.eq_ofNat_of_zero_le h1.1
      by_cases h2 : 0 ≤ s ∧ s < (nodes : Int)
      · obtain ⟨b, rfl⟩ := Int.eq_ofNat_of_zero_le h2.1
        exact Or.inr (Or.inr ⟨a, b, rfl, by omega, rfl, by omega, nodeP_no (by omega)⟩)
      · exact Or.inr (Or.inl ⟨a, rfl, by omega, nodeP_no (by omega)⟩)
    · exact Or.inl (nodeP_no (by omega))
  clear h hG
  rcases hsub with h | ⟨a, rfl, h1, h⟩ | ⟨a, b, rfl, h1, rfl, h2, h⟩
  · have HP := Lib.hid h; clear h
    go_enter Try.func11, Try.ntmps11
    go_wp2_with fail
    refine wp_region_quiet_lit (by kernel_rfl) (by kernel_rfl) ?_
    repeat (first | go_big_quiet_step ((go_at_call 23; exact Calls.quiet_of_same ((node_any base g bc nodes c A evs _ _ (hGa.dn _)).mono fun _ _ h => ⟨h.1, h.2.symm⟩))) | quiet_step ((go_at_call 23; exact Calls.quiet_of_same ((node_any base g bc nodes c A evs _ _ (hGa.dn _)).mono fun _ _ h => ⟨h.1, h.2.symm⟩))))
    refine wpQuiet_nil ?_; intro _ hw'; obtain ⟨nq, hw''⟩ := hw'; subst hw''
    rw [HP.out]
    go_wp2_with fail
    go_ret
    exact ⟨rfl, bel_drewN (bel_alloc (Below.refl _ _) _) _⟩
  · have HP := Lib.hid h; have HA := Lib.hid (nodeP_yes (bc := bc) h1); clear h
    go_enter Try.func11, Try.ntmps11
    go_wp2_with fail
    refine wp_region_quiet_lit (by kernel_rfl) (by kernel_rfl) ?_
    repeat (first | go_big_quiet_step ((go_at_call 23; exact Calls.quiet_of_same ((node_any base g bc nodes c A evs _ _ (hGa.dn _)).mono fun _ _ h => ⟨h.1, h.2.symm⟩))) | quiet_step ((go_at_call 23; exact Calls.quiet_of_same ((node_any base g bc nodes c A evs _ _ (hGa.dn _)).mono fun _ _ h => ⟨h.1, h.2.symm⟩))))
    refine wpQuiet_nil ?_; intro _ hw'; obtain ⟨nq, hw''⟩ := hw'; subst hw''
    rw [HP.out, HA.out]
    go_wp2_with fail
    go_ret
    exact ⟨rfl, bel_drewN (bel_alloc (Below.refl _ _) _) _⟩
  · have HP := Lib.hid h; have HA := Lib.hid (nodeP_yes (bc := bc) h1); have HB := Lib.hid (nodeP_yes (bc := bc) h2); clear h
    go_enter Try.func11, Try.ntmps11
    go_wp2_with fail
    refine wp_region_quiet_lit (by kernel_rfl) (by kernel_rfl) ?_
    repeat (first | go_big_quiet_step ((go_at_call 23; exact Calls.quiet_of_same ((node_any base g bc nodes c A evs _ _ (hGa.dn _)).mono fun _ _ h => ⟨h.1, h.2.symm⟩))) | quiet_step ((go_at_call 23; exact Calls.quiet_of_same ((node_any base g bc nodes c A evs _ _ (hGa.dn _)).mono fun _ _ h => ⟨h.1, h.2.symm⟩))))
    refine wpQuiet_nil ?_; intro _ hw'; obtain ⟨nq, hw''⟩ := hw'; subst hw''
    rw [HA.out]
    try rw [HB.out]
    go_wp2_with fail
    refine (node_any base g bc nodes c A evs _ _ (hGa.dn _)).mono ?_; rintro e w1 ⟨rfl, rfl⟩
    rw [HP.out]
    go_wp2_with fail
    go_ret
    exact ⟨rfl, bel_drewN (bel_alloc (Below.refl _ _) _) _⟩
theorem add_any (base g bc nodes c : Nat) (A : Option Addr) (evs : List Ev) (x : Ev) (w : World) (hG : LogAt w base g bc nodes A c evs) (hbase : base ≤ w.heap.size) (hm : evs.length < 1000) :
    Calls Try.prog 11 #[.pointer (some ⟨g, 0, none⟩), evV x] w fun e w' => e = .returned (.int .i64 (addE x nodes)) ∧ ∃ A' c', Add2 w w' base g bc nodes A (addL evs x nodes) A' c' := by
  by_cases hr : x.right nodes = true
  · have key : Calls Try.prog 11 #[.pointer (some ⟨g, 0, none⟩), evV x] w fun e w' => ∃ gg cap, e = .returned (.int .i64 0) ∧ Added w w' base g bc nodes A c evs x gg cap := by
      obtain ⟨n, s, o, il⟩ := x
      unfold Ev.right at hr
      simp only [decide_eq_true_eq] at hr
      obtain ⟨n0, n1, s0, s1, o0, o1⟩ := hr
      obtain ⟨a, rfl⟩ := Int.eq_ofNat_of_zero_le n0
      obtain ⟨b, rfl⟩ := Int.eq_ofNat_of_zero_le s0
      obtain ⟨d, rfl⟩ := Int.eq_ofNat_of_zero_le o0
      by_cases e1 : a = b
      · subst e1
        by_cases e2 : a = d
        · subst e2
          cases il
          · exact add_3 base g bc nodes c A evs a w hG (by omega) hbase hm
          · exact add_1 base g bc nodes c A evs a w hG (by omega) hbase hm
        · cases il
          · exact add_4 base g bc nodes c A evs a d w hG (by omega) (by omega) e2 hbase hm
          · exact add_2 base g bc nodes c A evs a d w hG (by omega) (by omega) e2 hbase hm
      · by_cases e2 : a = d
        · subst e2
          exact add_5 base g bc nodes c A evs a b il w hG (by omega) (by omega) e1 hbase hm
        · exact add_6 base g bc nodes c A evs a b d il w hG (by omega) (by omega) e1 (by omega) e2 hbase hm
    unfold addE addL
    rw [if_pos hr, if_pos hr]
    refine key.mono ?_
    rintro e w' ⟨gg, cap, rfl, h⟩
    refine ⟨rfl, some ⟨gg, 0, none⟩, cap, h.log, by rw [← own_rowOf A evs.length c]; exact h.ch, fun q hq => ?_⟩
    have : gg = q := by simpa [rowOf, eq_comm] using hq
    subst this
    rcases h.row with h | h
    · exact Or.inl (mem_rowOf.1 h)
    · exact Or.inr h
  · have hr : x.right nodes = false := by simpa using hr
    unfold addE addL
    rw [hr, if_neg Bool.false_ne_true, if_neg Bool.false_ne_true]
    refine (add_node_no base g bc nodes c A evs x w hG hr).mono ?_
    rintro e w' ⟨rfl, h⟩
    exact ⟨rfl, A, c, hG.below h, Ch.below h _, fun q hq => Or.inl hq⟩
/-- The counts of a node, as a value. -/
def cntV (evs : List Ev) (k : Int) : Value := .agg #[.int .i64 (cc evs k 0 : Nat), .int .i64 (cc evs k 1 : Nat), .int .i64 (cc evs k 2 : Nat), .int .i64 (cc evs k 3 : Nat), .int .i64 (cc evs k 4 : Nat), .int .i64 (cc evs k 5 : Nat)]
theorem node_yes (base g bc nodes c : Nat) (A : Option Addr) (evs : List Ev) (k : Nat) (w : World) (hG : LogAt w base g bc nodes A c evs) (hk : k < nodes) :
    Calls Try.prog 9 #[.pointer (some ⟨g, 0, none⟩), .int .i64 k] w fun e w' => e = .returned (.tuple #[cntV evs k, .int .i64 0]) ∧ Below w.heap.size w w' := by
  have k1 := hG.ct0
  have hgl := hG.st.lt
  have hbl := hG.ctlt
  obtain ⟨m0, _⟩ := hG.at_ k 0 hk (by omega)
  obtain ⟨m1, _⟩ := hG.at_ k 1 hk (by omega)
  obtain ⟨m2, _⟩ := hG.at_ k 2 hk (by omega)
  obtain ⟨m3, _⟩ := hG.at_ k 3 hk (by omega)
  obtain ⟨m4, _⟩ := hG.at_ k 4 hk (by omega)
  obtain ⟨m5, _⟩ := hG.at_ k 5 hk (by omega)
  rw [Nat.add_zero] at m0
  have hib := fun w => idx_counts bc nodes k hk w
  have hnn := fun w h => node_any base g bc nodes c A evs (k : Int) w h
  rw [nodeP_yes hk] at hnn
  have HN := Lib.hid hnn; clear hnn
  have HG := Lib.hid hG; clear hG
  unfold cntV
  generalize cc evs k 0 = n0 at *
  generalize cc evs k 1 = n1 at *
  generalize cc evs k 2 = n2 at *
  generalize cc evs k 3 = n3 at *
  generalize cc evs k 4 = n4 at *
  generalize cc evs k 5 = n5 at *
  go_enter Try.func9, Try.ntmps9
  go_wp2_with fail
  refine (HN.out _ (HG.out.below (bel_alloc (Below.refl _ _) _))).mono ?_; rintro e w1 ⟨rfl, rfl⟩
  go_wp2_with fail
  exact bodyPost_ret (v := .tuple #[.agg #[.int .i64 n0, .int .i64 n1, .int .i64 n2, .int .i64 n3, .int .i64 n4, .int .i64 n5], .int .i64 0]) (by simp [results, Try.results9, go_sem]) rfl ⟨rfl, (by repeat (first | exact Below.refl _ _ | assumption | with_reducible refine bel_alloc ?_ _ | with_reducible refine bel_drewN ?_ _ | with_reducible refine bel_drew ?_))⟩
theorem node_no (base g bc nodes c : Nat) (A : Option Addr) (evs : List Ev) (k : Int) (w : World) (hG : LogAt w base g bc nodes A c evs) (hk : k < 0 ∨ (nodes : Int) ≤ k) :
    Calls Try.prog 9 #[.pointer (some ⟨g, 0, none⟩), .int .i64 k] w fun e w' => e = .returned (.tuple #[cntV [] 0, .int .i64 10]) ∧ Below w.heap.size w w' := by
  have hnn := fun w h => node_any base g bc nodes c A evs (k : Int) w h
  rw [nodeP_no hk] at hnn
  have HN := Lib.hid hnn; clear hnn
  have HG := Lib.hid hG; clear hG
  go_enter Try.func9, Try.ntmps9
  go_wp2_with fail
  refine (HN.out _ (HG.out.below (bel_alloc (Below.refl _ _) _))).mono ?_; rintro e w1 ⟨rfl, rfl⟩
  go_wp2_with fail
  exact bodyPost_ret (v := .tuple #[.agg #[.int .i64 0, .int .i64 0, .int .i64 0, .int .i64 0, .int .i64 0, .int .i64 0], .int .i64 10]) (by simp [results, Try.results9, go_sem]) rfl ⟨rfl, (by repeat (first | exact Below.refl _ _ | assumption | with_reducible refine bel_alloc ?_ _ | with_reducible refine bel_drewN ?_ _ | with_reducible refine bel_drew ?_))⟩
theorem node_nil (k : Int) (w : World) :
    Calls Try.prog 9 #[.pointer none, .int .i64 k] w fun e w' => e = .returned (.tuple #[cntV [] 0, .int .i64 1]) ∧ Below w.heap.size w w' := by
  go_enter Try.func9, Try.ntmps9
  go_wp2_with fail
  exact bodyPost_ret (v := .tuple #[.agg #[.int .i64 0, .int .i64 0, .int .i64 0, .int .i64 0, .int .i64 0, .int .i64 0], .int .i64 1]) (by simp [results, Try.results9, go_sem]) rfl ⟨rfl, (by repeat (first | exact Below.refl _ _ | assumption | with_reducible refine bel_alloc ?_ _ | with_reducible refine bel_drewN ?_ _ | with_reducible refine bel_drew ?_))⟩
theorem add_nil (x : Ev) (w : World) : Calls Try.prog 11 #[.pointer none, evV x] w fun e w' => e = .returned (.int .i64 1) ∧ Below w.heap.size w w' := by
  unfold evV
  go_enter Try.func11, Try.ntmps11
  go_wp2_with fail
  go_ret
  exact ⟨rfl, (by repeat (first | exact Below.refl _ _ | assumption | with_reducible refine bel_alloc ?_ _ | with_reducible refine bel_drewN ?_ _ | with_reducible refine bel_drew ?_))⟩
theorem events_nil (w : World) : Calls Try.prog 12 #[.pointer none] w fun e w' => e = .returned (.slice none 0 0) ∧ w = w' := by
  go_enter Try.func12, Try.ntmps12
  go_wp2_with fail
  go_ret
  exact ⟨rfl, rfl⟩
/-- slices.Clone of a row of events. -/
theorem wpList_pushes4 {P : Program} (w : World) {ops : Array Oper} {rest : List Oper} {o : Oper} {a : Act} {Q : Exit → Act → World → Prop} (hgd : o.guard = none) (s x : Operand) (t : TypeId)
    (ho : o.op = .call { callee := .builtin .append, args := #[s, x], argTypes := #[t, t] })
    (base : Nat) (e : TypeId) (z : Value) (sz bytes : Nat) (ht : P.underlying t = some (.slice e)) (hinfo : (P.info? e).map (fun i => (i.zero, i.size, i.bytes)) = some (some z, sz, bytes)) (hz1 : z.cells.size = sz) (hsz : 0 < sz)
    (A : Option Addr) (n c : Nat) (xs : List Value) (hs : a.eval s = .slice A n c) (hown : w.ownsRow base e sz (.slice A n c) n xs)
    (B off m mc : Nat) (us : List Value) (hx : a.eval x = .slice (some ⟨B, off, none⟩) m mc) (hl : us.length = m * sz) (hc : ∀ j u, us[j]? = some u → w.cell? ⟨B, off + j, none⟩ = some u) (h1 : ∀ u ∈ us, u.oneCell' = true)
    (hm : 0 < m) (hb : (n + m) * bytes ≤ 140737488355328) (hn63 : n + m ≤ 9223372036854775807) (hbase : base ≤ w.heap.size)
    (h : ∀ g cap w', w'.ownsRow base e sz (.slice (some ⟨g, 0, none⟩) (n + m) cap) (n + m) (xs ++ us) → w.grownBy w' (Value.slice A n c).ownBlock → ((Value.slice A n c).ownBlock = some g ∨ g = w.heap.size) → wpList P ops Q rest (a.put o.dst (.slice (some ⟨g, 0, none⟩) (n + m) cap)) w') : wpList P ops Q (o :: rest) a w := by
  obtain ⟨i0, hi, hz0, hz1', hz2⟩ := info_parts hinfo
  refine wpList_append_lies w hgd s x t ho base e i0 z sz bytes ht hi hz0 hz1' hz2 hz1 hsz _ n xs hs hown ⟨B, off, none⟩ m mc us hx hl ?_ h1 hm (by unfold maxLen; omega) hb hbase _ rfl (fun g cap w' h1 h2 h3 _ => h g cap w' h1 h2 h3)
  intro j v hj
  have := hc j v hj
  rw [WideShapes.add_plain]; exact this
theorem evCells_one (l : List Ev) : ∀ u ∈ evCells l, u.oneCell' = true := by
  intro u hu
  unfold evCells at hu
  obtain ⟨x, _, hx⟩ := List.mem_flatMap.1 hu
  unfold Ev.cells at hx
  simp at hx
  rcases hx with rfl | rfl | rfl | rfl <;> rfl
theorem own_made4 (w : World) (e s : TypeId) : (w.alloc (.cells #[] e)).ownsRow w.heap.size e s (.slice (some ⟨w.heap.size, 0, none⟩) 0 0) 0 [] :=
  ⟨by simp, Or.inr ⟨w.heap.size, 0, #[], rfl, Nat.le_refl _, heap_alloc_new w _, by omega, by simp, by simp, by simp⟩⟩
theorem clone_ev_nil (w0 : World) : Calls Try.prog 24 #[.slice none 0 0] w0 fun e w' => e = .returned (.slice none 0 0) ∧ w0 = w' := by
  have hn : ∀ w : World, (binOp .eql 34 (.slice none 0 0) (.slice none 0 0)).run Try.prog w = .ok (.bool true) w := fun _ => rfl
  go_enter Try.func24, Try.ntmps24
  go_wp2
  go_ret
  exact ⟨rfl, rfl⟩
theorem clone_ev (B m mc : Nat) (l : List Ev) (hl : l.length = m) (hbd : m ≤ 1000) (w0 : World) (hB : B < w0.heap.size) (hc : ∀ j u, (evCells l)[j]? = some u → w0.cell? ⟨B, 0 + j, none⟩ = some u) :
    Calls Try.prog 24 #[.slice (some ⟨B, 0, none⟩) m mc] w0 fun e w' => ∃ g c, e = .returned (.slice (some ⟨g, 0, none⟩) m c) ∧ w'.ownsRow w0.heap.size 33 4 (.slice (some ⟨g, 0, none⟩) m c) m (evCells l) ∧ Below w0.heap.size w0 w' := by
  have hown := own_made4 w0 33 4
  have hn : ∀ w : World, (binOp .eql 34 (.slice (some ⟨B, 0, none⟩) m mc) (.slice none 0 0)).run Try.prog w = .ok (.bool false) w := fun _ => rfl
  by_cases hm : 0 < m
  · go_enter Try.func24, Try.ntmps24
    go_wp2_with (at_builtin; refine wpList_pushes4 _ rfl (.tmp 5) (.tmp 6) 34 rfl w0.heap.size 33 _ 4 32 Try.underlying34 info_event rfl (by omega) (some ⟨w0.heap.size, 0, none⟩) 0 0 [] rfl hown B 0 m mc (evCells l) rfl (by rw [evCells_len, hl]) ?_ (evCells_one l) hm (by omega) (by omega) ?_ ?_)
    · intro j u hj
      exact (World.cell?_alloc_lt _ _ _ hB).trans (hc j u hj)
    · simp
    intro g cp w4 hown4 hgr4 hor
    have hB4 := (bel_alloc (Below.refl _ w0) (.cells #[] 33)).grown hgr4 (by simp) (fun k hk => by simp [Value.ownBlock] at hk; omega)
    try rw [Nat.zero_add, List.nil_append] at hown4
    go_wp2
    go_ret
    exact ⟨g, cp, by first | rfl | rw [Nat.zero_add], hown4, hB4⟩
  · obtain rfl : m = 0 := by omega
    obtain rfl : l = [] := List.eq_nil_of_length_eq_zero hl
    go_enter Try.func24, Try.ntmps24
    go_wp2
    go_ret
    exact ⟨w0.heap.size, 0, rfl, hown, (by repeat (first | exact Below.refl _ _ | assumption | with_reducible refine bel_alloc ?_ _ | with_reducible refine bel_drewN ?_ _ | with_reducible refine bel_drew ?_))⟩
theorem events_any (base g bc nodes c : Nat) (A : Option Addr) (evs : List Ev) (w : World) (hG : LogAt w base g bc nodes A c evs) :
    Calls Try.prog 12 #[.pointer (some ⟨g, 0, none⟩)] w fun e w' => ∃ A' c', e = .returned (.slice A' evs.length c') ∧ w'.ownsRow w.heap.size 33 4 (.slice A' evs.length c') evs.length (evCells evs) ∧ Below w.heap.size w w' := by
  have k0 := hG.ev0
  rcases hG.ev.2 with ⟨h0, h1⟩ | ⟨g', cap, cur, hv, hg, hh, hnc, _⟩
  · injection h0 with hA hn hc
    subst hA hc
    have hev : evs = [] := List.eq_nil_of_length_eq_zero hn
    subst hev
    go_enter Try.func12, Try.ntmps12
    go_wp2_with fail
    refine (clone_ev_nil w).mono ?_; rintro e w1 ⟨rfl, rfl⟩
    go_wp2_with fail
    go_ret
    exact ⟨none, 0, rfl, ⟨rfl, Or.inl ⟨rfl, rfl⟩⟩, Below.refl _ _⟩
  · injection hv with hA hn hc
    subst hA hc
    have hcl := clone_ev g' evs.length c evs rfl hG.mx w (Array.getElem?_eq_some_iff.1 hh).1 (fun j u hj => by
      have := hG.ev.cells (g := g') rfl j u hj
      rw [WideShapes.add_plain] at this
      exact this)
    have HCL := Lib.hid hcl; clear hcl hh hnc
    go_enter Try.func12, Try.ntmps12
    go_wp2_with fail
    refine HCL.out.mono ?_; rintro e w1 ⟨g2, c2, rfl, hown, hB⟩
    go_wp2_with fail
    go_ret
    exact ⟨_, c2, rfl, hown, hB⟩
theorem lognone_any (w : World) : Calls Try.prog 8 #[] w fun e w' => e = .returned (.pointer none) ∧ w = w' := by
  go_enter Try.func8, Try.ntmps8
  go_wp2
  go_ret
  exact ⟨rfl, rfl⟩
theorem ret_b {a b : Bool} (h : a = b) : Ending.returned (.bool a) = .returned (.bool b) := by rw [h]
theorem right_any (x : Ev) (n : Nat) (w : World) : Calls Try.prog 14 #[evV x, .int .i64 n] w fun e w' => e = .returned (.bool (x.right n)) ∧ Below w.heap.size w w' := by
  obtain ⟨a, s, o, il⟩ := x
  unfold evV Ev.right
  rcases (by omega : a < 0 ∨ (0 ≤ a ∧ (n : Int) ≤ a) ∨ (0 ≤ a ∧ a < (n : Int) ∧ s < 0) ∨ (0 ≤ a ∧ a < (n : Int) ∧ 0 ≤ s ∧ (n : Int) ≤ s) ∨ (0 ≤ a ∧ a < (n : Int) ∧ 0 ≤ s ∧ s < (n : Int) ∧ o < 0) ∨ (0 ≤ a ∧ a < (n : Int) ∧ 0 ≤ s ∧ s < (n : Int) ∧ 0 ≤ o ∧ (n : Int) ≤ o) ∨ (0 ≤ a ∧ a < (n : Int) ∧ 0 ≤ s ∧ s < (n : Int) ∧ 0 ≤ o ∧ o < (n : Int))) with h | ⟨h1, h2⟩ | ⟨h1, h2, h3⟩ | ⟨h1, h2, h3, h4⟩ | ⟨h1, h2, h3, h4, h5⟩ | ⟨h1, h2, h3, h4, h5, h6⟩ | ⟨h1, h2, h3, h4, h5, h6⟩
  all_goals
    first
      | rw [decide_eq_true (show 0 ≤ a ∧ a < (n : Int) ∧ 0 ≤ s ∧ s < (n : Int) ∧ 0 ≤ o ∧ o < (n : Int) by omega)]
      | rw [decide_eq_false (show ¬ (0 ≤ a ∧ a < (n : Int) ∧ 0 ≤ s ∧ s < (n : Int) ∧ 0 ≤ o ∧ o < (n : Int)) by omega)]
    go_enter Try.func14, Try.ntmps14
    go_wp2_with fail
    go_ret
    refine ⟨?_, (by repeat (first | exact Below.refl _ _ | assumption | with_reducible refine bel_alloc ?_ _ | with_reducible refine bel_drewN ?_ _ | with_reducible refine bel_drew ?_))⟩
    first | rfl | exact ret_b (decide_eq_true (by omega)) | exact ret_b (decide_eq_false (by omega))
def e1 : Ev := ⟨1, 0, 0, false⟩
theorem counts_any (w0 : World) : Calls Try.prog 10 #[] w0 fun e w' => e = .returned (.bool true) ∧ Below w0.heap.size w0 w' := by
  go_enter Try.func10, Try.ntmps10
  go_wp2_with fail
  refine (log_new 2 w0 (by omega) (by omega)).mono ?_; rintro e w1 ⟨g, bc, rfl, hG, hB⟩
  go_wp2_with fail
  refine (add_any w0.heap.size g bc 2 0 none [] e1 w1 hG hB.size (by simp)).mono ?_; rintro e w2 ⟨rfl, A, c, h⟩
  have hG := h.log
  have hB := bel_ch hB h.ch (fun i hi => by simp [rowOf] at hi; rcases hi with rfl | rfl; exact hG.gb; exact hG.cb)
  rw [show addL [] e1 2 = [e1] from by decide +kernel] at hG
  rw [show addE e1 2 = 0 from by decide +kernel]
  clear h
  go_wp2_with fail
  refine (node_yes w0.heap.size g bc 2 c A [e1] 1 w2 hG (by omega)).mono ?_; rintro e w3 ⟨rfl, hb⟩
  have hG := hG.below hb
  have hB := bel_trans hB hb
  clear hb
  rw [show cntV [e1] (1 : Nat) = .agg #[.int .i64 0, .int .i64 1, .int .i64 0, .int .i64 0, .int .i64 1, .int .i64 0] from rfl]
  have q1 := Blk.new w3 24 [.int .i64 0, .int .i64 1, .int .i64 0, .int .i64 0, .int .i64 1, .int .i64 0]
  have hG := hG.below (bel_alloc (Below.refl _ _) (.cells #[.int .i64 0, .int .i64 1, .int .i64 0, .int .i64 0, .int .i64 1, .int .i64 0] 24))
  have hB := bel_alloc hB (.cells #[.int .i64 0, .int .i64 1, .int .i64 0, .int .i64 0, .int .i64 1, .int .i64 0] 24)
  go_wp2_with fail
  refine (node_yes w0.heap.size g bc 2 c A [e1] 0 _ hG (by omega)).mono ?_; rintro e w4 ⟨rfl, hb⟩
  rw [show cntV [e1] (0 : Nat) = .agg #[.int .i64 0, .int .i64 0, .int .i64 1, .int .i64 0, .int .i64 0, .int .i64 0] from rfl]
  have q1 := q1.below hb
  have hB := bel_trans hB hb
  clear hb hG
  have c0 := q1.at_ (i := 0) rfl; have c1 := q1.at_ (i := 1) rfl; have c2 := q1.at_ (i := 2) rfl; have c3 := q1.at_ (i := 3) rfl; have c4 := q1.at_ (i := 4) rfl; have c5 := q1.at_ (i := 5) rfl
  have hq := q1.lt
  go_wp2_with fail
  go_ret
  exact ⟨rfl, bel_alloc hB _⟩
end Go.Proofs.Ytinijpjbbbbhjaa
