/- Parts of the proof: StatsPure, Stats. -/
import Derived.Test.YtjdbedoabcbeeaaGreatDoorUs1
import Derived.Test.YtjdbedoabcbeeaaGreatDoorUs3
import Derived.Deep.RegionHeld3
/- Events and their counts, as lists: no program in sight. -/
namespace Go.Proofs.YtjdbedoabcbeeaaGreatDoor
set_option linter.unusedVariables false
set_option linter.unusedSimpArgs false

structure Ev where
  node : Int
  start : Int
  own : Int
  il : Bool
  deriving DecidableEq
def Ev.cells (x : Ev) : List Value := [.int .i64 x.node, .int .i64 x.start, .int .i64 x.own, .bool x.il]
theorem Ev.cells_len (x : Ev) : x.cells.length = 4 := rfl
def evCells (l : List Ev) : List Value := l.flatMap Ev.cells
theorem evCells_snoc (l : List Ev) (x : Ev) : evCells (l ++ [x]) = evCells l ++ x.cells := by simp [evCells]
theorem evCells_len (l : List Ev) : (evCells l).length = l.length * 4 := by
  unfold evCells
  induction l with
  | nil => rfl
  | cons x r ih => rw [List.flatMap_cons, List.length_append, ih, Ev.cells_len, List.length_cons]; omega
theorem evCells_at (l : List Ev) (i j : Nat) (x : Ev) (h : l[i]? = some x) (hj : j < 4) : (evCells l)[i * 4 + j]? = x.cells[j]? := by
  unfold evCells
  induction l generalizing i with
  | nil => simp at h
  | cons y r ih =>
    rw [List.flatMap_cons]
    cases i with
    | zero =>
      simp at h
      subst h
      rw [List.getElem?_append_left (by rw [Ev.cells_len]; omega)]
      congr 1; omega
    | succ i =>
      rw [List.getElem?_append_right (by rw [Ev.cells_len]; omega), Ev.cells_len, ← ih i (by simpa using h)]
      congr 1; omega
/-- May an event be, of so many nodes? -/
def Ev.right (x : Ev) (n : Nat) : Bool := decide (0 ≤ x.node ∧ x.node < (n : Int) ∧ 0 ≤ x.start ∧ x.start < (n : Int) ∧ 0 ≤ x.own ∧ x.own < (n : Int))
/-- Field j of the counts of node k: hit, miss, foreign, local, other, interleave. -/
def inc (x : Ev) (k : Int) : Nat → Bool
  | 0 => decide (x.node = k ∧ x.start = k)
  | 1 => decide (x.node = k ∧ x.start ≠ k)
  | 2 => decide (x.node ≠ k ∧ x.start = k)
  | 3 => decide (x.node = k ∧ x.own = k)
  | 4 => decide (x.node = k ∧ x.own ≠ k)
  | 5 => decide (x.node = k ∧ x.start = k) && x.il
  | _ => false
def cc (l : List Ev) (k : Int) (j : Nat) : Nat := l.countP (fun x => inc x k j)
theorem cc_nil (k : Int) (j : Nat) : cc [] k j = 0 := rfl
theorem cc_snoc (l : List Ev) (x : Ev) (k : Int) (j : Nat) : cc (l ++ [x]) k j = cc l k j + if inc x k j then 1 else 0 := by
  unfold cc
  rw [List.countP_append]
  by_cases h : inc x k j = true
  · rw [if_pos h]; simp [List.countP_cons, h]
  · rw [if_neg h]; simp [List.countP_cons, h]
theorem cc_le (l : List Ev) (k : Int) (j : Nat) : cc l k j ≤ l.length := List.countP_le_length
theorem cc_reverse (l : List Ev) (k : Int) (j : Nat) : cc l.reverse k j = cc l k j := by unfold cc; rw [List.countP_reverse]
/-- Hits and misses of a node are the events that came of it. -/
theorem cc_node (l : List Ev) (k : Int) : cc l k 0 + cc l k 1 = l.countP (fun x => decide (x.node = k)) := by
  unfold cc
  induction l with
  | nil => rfl
  | cons x r ih =>
    simp only [List.countP_cons, inc] at ih ⊢
    by_cases h : x.node = k <;> by_cases h2 : x.start = k <;> simp [h, h2] at ih ⊢ <;> omega
theorem cc_own (l : List Ev) (k : Int) : cc l k 3 + cc l k 4 = l.countP (fun x => decide (x.node = k)) := by
  unfold cc
  induction l with
  | nil => rfl
  | cons x r ih =>
    simp only [List.countP_cons, inc] at ih ⊢
    by_cases h : x.node = k <;> by_cases h2 : x.own = k <;> simp [h, h2] at ih ⊢ <;> omega
/-- So many events came of the first nodes. -/
def upto (l : List Ev) (n : Nat) : Nat := l.countP (fun x => decide (0 ≤ x.node ∧ x.node < (n : Int)))
theorem upto_zero (l : List Ev) : upto l 0 = 0 := by
  unfold upto
  rw [List.countP_eq_zero]
  intro x _ h
  simp at h
  omega
theorem upto_succ (l : List Ev) (n : Nat) : upto l (n + 1) = upto l n + l.countP (fun x => decide (x.node = (n : Int))) := by
  unfold upto
  induction l with
  | nil => rfl
  | cons x r ih =>
    simp only [List.countP_cons] at ih ⊢
    by_cases h : x.node = (n : Int)
    · have h1 : decide (0 ≤ x.node ∧ x.node < ((n + 1 : Nat) : Int)) = true := decide_eq_true (by omega)
      have h2 : decide (0 ≤ x.node ∧ x.node < (n : Int)) = false := decide_eq_false (by omega)
      rw [h1, h2, decide_eq_true h, if_pos rfl, if_neg Bool.false_ne_true]
      omega
    · by_cases h3 : 0 ≤ x.node ∧ x.node < (n : Int)
      · have h1 : decide (0 ≤ x.node ∧ x.node < ((n + 1 : Nat) : Int)) = true := decide_eq_true (by omega)
        rw [h1, decide_eq_true h3, decide_eq_false h, if_pos rfl, if_neg Bool.false_ne_true]
        omega
      · have h1 : decide (0 ≤ x.node ∧ x.node < ((n + 1 : Nat) : Int)) = false := decide_eq_false (by omega)
        rw [h1, decide_eq_false h3, decide_eq_false h, if_neg Bool.false_ne_true]
        omega
theorem upto_all (l : List Ev) (n : Nat) (h : ∀ x ∈ l, x.right n = true) : upto l n = l.length := by
  unfold upto
  rw [List.countP_eq_length]
  intro x hx
  have := h x hx
  unfold Ev.right at this
  simp at this ⊢
  omega
end Go.Proofs.YtjdbedoabcbeeaaGreatDoor
/- Package stats (layer 16): contracts. -/
namespace Go.Proofs.YtjdbedoabcbeeaaGreatDoor
open Go.RowKit
set_option linter.unusedVariables false
set_option linter.unusedSimpArgs false
attribute [local go_sem] World.cell?_alloc_lt

/-- A log of so many nodes: the events that it holds. -/
structure LogAt (w : World) (base g bc nodes : Nat) (A : Option Addr) (c : Nat) (evs : List Ev) : Prop where
  st : Blk w g 98 [.slice A evs.length c, .slice (some ⟨bc, 0, none⟩) nodes nodes]
  ct : ∃ cs : List Value, Blk w bc 44 cs ∧ cs.length = nodes * 6 ∧ ∀ k j, k < nodes → j < 6 → cs[k * 6 + j]? = some (.int .i64 (cc evs k j : Nat))
  ev : w.ownsRow base 227 4 (.slice A evs.length c) evs.length (evCells evs)
  n8 : nodes ≤ 8
  mx : evs.length ≤ 1000
  gb : base ≤ g
  cb : base ≤ bc
section
variable {w w' : World} {base g bc nodes c : Nat} {A : Option Addr} {evs : List Ev}
theorem own_ch4 {S : List Nat} {e s : Nat} {v : Value} {n : Nat} {xs : List Value} (h : w.ownsRow base e s v n xs) (k : Ch S w w') (hn : ∀ g, v.ownBlock = some g → g ∉ S) : w'.ownsRow base e s v n xs := by
  refine ⟨h.1, ?_⟩
  rcases h.2 with h2 | ⟨g, cap, cur, hv, hg, hh, r⟩
  · exact Or.inl h2
  · refine Or.inr ⟨g, cap, cur, hv, hg, ?_, r⟩
    rw [k.block g (Array.getElem?_eq_some_iff.1 hh).1 (hn g (by rw [hv]; rfl))]
    exact hh
theorem own_blk4 {e s : Nat} {v : Value} {n : Nat} {xs : List Value} (h : w.ownsRow base e s v n xs) : ∀ g, v.ownBlock = some g → ∃ cur, w.heap[g]? = some (.cells cur e (0, 0)) := by
  intro g hg
  rcases h.2 with ⟨h0, _⟩ | ⟨g', cap, cur, hv, _, hh, _⟩
  · rw [h0] at hg; simp [Value.ownBlock] at hg
  · rw [hv] at hg
    have : g' = g := by simpa [Value.ownBlock] using hg
    subst this
    exact ⟨cur, hh⟩
theorem own_ne4 {e s t b : Nat} {v : Value} {n : Nat} {xs cs : List Value} (h : w.ownsRow base e s v n xs) (hb : Blk w b t cs) (hne : e ≠ t) : v.ownBlock ≠ some b := by
  intro hg
  obtain ⟨cur, hh⟩ := own_blk4 h b hg
  unfold Blk at hb
  rw [hh] at hb
  injection hb with hb
  injection hb with _ ht
  exact hne ht
theorem LogAt.ch {S : List Nat} (h : LogAt w base g bc nodes A c evs) (k : Ch S w w') (h1 : ∀ x ∈ S, w.heap.size ≤ x) : LogAt w' base g bc nodes A c evs := by
  obtain ⟨cs, hb, hr⟩ := h.ct
  have hx : ∀ x, x < w.heap.size → x ∉ S := fun x hx hm => by have := h1 x hm; omega
  exact ⟨h.st.ch k (hx _ h.st.lt), ⟨cs, hb.ch k (hx _ hb.lt), hr⟩, own_ch4 h.ev k (fun g hg => hx _ (h.ev.lt g hg).2), h.n8, h.mx, h.gb, h.cb⟩
theorem LogAt.below (h : LogAt w base g bc nodes A c evs) (k : Below w.heap.size w w') : LogAt w' base g bc nodes A c evs := h.ch (Ch.below k []) (by simp)
theorem LogAt.dn (h : LogAt w base g bc nodes A c evs) (n : Nat) : LogAt (w.drewN n) base g bc nodes A c evs := h.below (bel_drewN (Below.refl _ _) n)
theorem LogAt.ct0 (h : LogAt w base g bc nodes A c evs) : w.cell? ⟨g, 1, none⟩ = some (.slice (some ⟨bc, 0, none⟩) nodes nodes) := h.st.at_ (i := 1) rfl
theorem LogAt.ev0 (h : LogAt w base g bc nodes A c evs) : w.cell? ⟨g, 0, none⟩ = some (.slice A evs.length c) := h.st.at_ (i := 0) rfl
theorem LogAt.at_ (h : LogAt w base g bc nodes A c evs) (k j : Nat) (hk : k < nodes) (hj : j < 6) : w.cell? ⟨bc, k * 6 + j, none⟩ = some (.int .i64 (cc evs k j : Nat)) ∧ w.frozen? ⟨bc, k * 6 + j, none⟩ = false := by
  obtain ⟨cs, hb, hl, hr⟩ := h.ct
  exact ⟨hb.at_ (hr k j hk hj), hb.frozen _⟩
end
theorem idx_counts (b nf i : Nat) (hi : i < nf) (w : World) : (Instr.indexAt 96 (.slice (some ⟨b, 0, none⟩) nf nf) (.int .i64 (i : Int))).run Tryz.prog w = .ok (.pointer (some ⟨b, i * 6, none⟩)) w := by
  simp [go_sem, hi]
/-- Where the counts of a node lie. -/
def nodeP (bc nodes : Nat) (n : Int) : Option Addr := if 0 ≤ n ∧ n < (nodes : Int) then some ⟨bc, n.toNat * 6, none⟩ else none
theorem nodeP_yes {bc nodes n : Nat} (h : n < nodes) : nodeP bc nodes (n : Int) = some ⟨bc, n * 6, none⟩ := by unfold nodeP; rw [if_pos (by omega), Int.toNat_natCast]
theorem nodeP_no {bc nodes : Nat} {n : Int} (h : n < 0 ∨ (nodes : Int) ≤ n) : nodeP bc nodes n = none := by unfold nodeP; rw [if_neg (by omega)]
theorem snode_any (base g bc nodes c : Nat) (A : Option Addr) (evs : List Ev) (n : Int) (w : World) (hG : LogAt w base g bc nodes A c evs) :
    Calls Tryz.prog 37 #[.pointer (some ⟨g, 0, none⟩), .int .i64 n] w fun e w' => e = .returned (.pointer (nodeP bc nodes n)) ∧ w = w' := by
  have k1 := hG.ct0
  have h8 := hG.n8
  clear hG
  rcases (by omega : n < 0 ∨ (0 ≤ n ∧ (nodes : Int) ≤ n) ∨ (0 ≤ n ∧ n < (nodes : Int))) with h | ⟨h, h2⟩ | ⟨h, h2⟩
  · rw [nodeP_no (by omega)]
    go_enter Tryz.func37, Tryz.ntmps37
    go_wp2_with fail
    go_ret
    exact ⟨rfl, rfl⟩
  · rw [nodeP_no (by omega)]
    go_enter Tryz.func37, Tryz.ntmps37
    go_wp2_with fail
    go_ret
    exact ⟨rfl, rfl⟩
  · obtain ⟨n, rfl⟩ := Int.eq_ofNat_of_zero_le h
    have hib := fun w => idx_counts bc nodes n (by omega) w
    rw [nodeP_yes (by omega)]
    go_enter Tryz.func37, Tryz.ntmps37
    go_wp2_with fail
    go_ret
    exact ⟨rfl, rfl⟩
theorem info_counts : (Tryz.prog.info? 44).map (fun i => (i.zero, i.size, i.bytes)) = some (some (.agg #[.int .i64 0, .int .i64 0, .int .i64 0, .int .i64 0, .int .i64 0, .int .i64 0]), 6, 48) := by kernel_rfl
theorem info_event : (Tryz.prog.info? 227).map (fun i => (i.zero, i.size, i.bytes)) = some (some (.agg #[.int .i64 0, .int .i64 0, .int .i64 0, .bool false]), 4, 32) := by kernel_rfl
theorem made_counts (n : Nat) : (madeCells (Value.agg #[.int .i64 0, .int .i64 0, .int .i64 0, .int .i64 0, .int .i64 0, .int .i64 0]).cells (n * 6)).toList = List.replicate (n * 6) (Value.int .i64 0) := by
  apply List.ext_getElem?
  intro i
  by_cases h : i < n * 6
  · have hm : i % 6 < 6 := Nat.mod_lt _ (by omega)
    simp [madeCells, h]
    rcases (by omega : i % 6 = 0 ∨ i % 6 = 1 ∨ i % 6 = 2 ∨ i % 6 = 3 ∨ i % 6 = 4 ∨ i % 6 = 5) with e | e | e | e | e | e <;> simp [e, Value.cells]
  · simp [madeCells, h]
theorem blk_of_own_wide {w : World} {base : Nat} {e : TypeId} {g n s : Nat} {xs : List Value} (h : w.ownsRow base e s (.slice (some ⟨g, 0, none⟩) n n) n xs) : Blk w g e xs := by
  rcases h.2 with ⟨h0, _⟩ | ⟨g', cap, cur, hv, _, hh, _, _, hsz, ht⟩
  · cases h0
  · injection hv with ha _ hc
    injection ha with ha
    injection ha with ha
    subst ha hc
    unfold Blk
    rw [hh, ← ht, List.take_of_length_le (by simp [hsz])]
theorem wpList_make_counts (w : World) {ops : Array Oper} {rest : List Oper} {o : Oper} {a : Act} {Q : Exit → Act → World → Prop}
    (hg : o.guard = none) (l c : Operand) (hop : o.op = Op.makeSlice 96 l c) (kl kc : IntKind) (L C : Int) (n : Nat) (hl : a.eval l = .int kl L) (hc : a.eval c = .int kc C) (hL : L = n) (hC : C = n) (hn : n ≤ 8)
    (hK : ∀ w', Blk w' w.heap.size 44 (List.replicate (n * 6) (.int .i64 0)) → w.grownBy w' none → wpList Tryz.prog ops Q rest (a.put o.dst (.slice (some ⟨w.heap.size, 0, none⟩) n n)) w') :
    wpList Tryz.prog ops Q (o :: rest) a w := by
  obtain ⟨i0, hi, hz0, hz1, hz2⟩ := info_parts info_counts
  refine wpList_make_full w hg l c 96 hop w.heap.size 44 i0 _ 6 Tryz.underlying96 hi hz0 hz1 kl kc L C n hl hc hL hC (by rw [hz2]; omega) (by unfold maxLen; omega) (Nat.le_refl _) ?_
  intro w' h1 h2
  have hd := blk_of_own_wide h1
  rw [made_counts] at hd
  exact hK w' hd h2
set_option maxRecDepth 100000 in
theorem log_new (nodes : Nat) (w : World) (h1 : 1 ≤ nodes) (h8 : nodes ≤ 8) :
    Calls Tryz.prog 47 #[.int .i64 nodes] w fun e w' => ∃ g bc, e = .returned (.tuple #[.pointer (some ⟨g, 0, none⟩), .int .i64 0]) ∧ LogAt w' w.heap.size g bc nodes none 0 [] ∧ Below w.heap.size w w' := by
  go_enter Tryz.func47, Tryz.ntmps47
  go_wp2_with (at_make; refine wpList_make_counts _ rfl _ _ rfl _ _ _ _ nodes rfl rfl rfl rfl h8 ?_)
  intro w1 hd hgr
  have hb : Below w.heap.size w w1 := (Below.refl _ _).grown hgr (Nat.le_refl _) (fun k h => by cases h)
  clear hgr
  go_wp2
  go_ret2
  refine ⟨w1.heap.size, w.heap.size, rfl, ⟨Blk.new _ _ _, ⟨_, hd.alloc _, by rw [List.length_replicate], ?_⟩, ⟨rfl, Or.inl ⟨rfl, rfl⟩⟩, h8, by simp, hb.size, Nat.le_refl _⟩, bel_alloc hb _⟩
  intro k j hk hj
  rw [List.getElem?_replicate, if_pos (by omega), cc_nil]
  rfl
theorem log_new_no (n : Int) (w : World) (h : n < 1 ∨ 8 < n) :
    Calls Tryz.prog 47 #[.int .i64 n] w fun e w' => e = .returned (.tuple #[.pointer none, .int .i64 3]) ∧ w = w' := by
  rcases (by omega : n < 1 ∨ (1 ≤ n ∧ 8 < n)) with h | ⟨h, h2⟩
  all_goals
    go_enter Tryz.func47, Tryz.ntmps47
    go_wp2_with fail
    go_ret2
    exact ⟨rfl, rfl⟩
end Go.Proofs.YtjdbedoabcbeeaaGreatDoor
