/- Parts of the proof: Own, Cuts, Put, Args, Clone. -/
import Derived.Test.YtjdbedoabcbeeaaGreatDoorUs2
import Derived.Test.YtjdbedoabcbeeaaGreatDoorUs1
import Derived.Deep.RegionHeld3
import Derived.Deep.MidRow
import Derived.ProofKit
import Derived.OpenShut
import Derived.SliceStrings
import Derived.SizedLaws
import Derived.ChangeSlices
import Derived.ArgAppend
/- Rows of the call's own: slices that it made and appends to. -/
namespace Go.Proofs.YtjdbedoabcbeeaaGreatDoor
open Go.RowKit
set_option linter.unusedVariables false
set_option linter.unusedSimpArgs false

section
variable {w w' : World} {base n k : Nat} {e : TypeId} {A : Option Addr} {c : Nat} {xs : List Value} {u : Value}
theorem own_at (h : w.ownsRow base e 1 (.slice A n c) n xs) (hk : xs[k]? = some u) : ∃ g, A = some ⟨g, 0, none⟩ ∧ w.cell? ⟨g, k, none⟩ = some u ∧ g < w.heap.size ∧ base ≤ g ∧ w.frozen? ⟨g, k, none⟩ = false := by
  have hl : k < xs.length := (List.getElem?_eq_some_iff.1 hk).1
  have hn : 0 < n := by have := h.1; omega
  obtain ⟨g, cap, hv, hb, hlt⟩ := h.form hn
  injection hv with hA _ _
  subst hA
  have hc := h.cells (g := g) rfl k u hk
  rw [WideShapes.add_plain, Nat.zero_add] at hc
  refine ⟨g, rfl, hc, hlt, hb, ?_⟩
  rcases h.2 with ⟨h0, _⟩ | ⟨g', cap', cur, hv', _, hh, _⟩
  · cases h0
  · injection hv' with ha
    injection ha with ha
    injection ha with ha
    subst ha
    simp [World.frozen?, hh]
theorem own_len (h : w.ownsRow base e 1 (.slice A n c) n xs) : xs.length = n := by have := h.1; omega
theorem own_ch {S : List Nat} (h : w.ownsRow base e 1 (.slice A n c) n xs) (k : Ch S w w') (hn : ∀ g, (Value.slice A n c).ownBlock = some g → g ∉ S) : w'.ownsRow base e 1 (.slice A n c) n xs := by
  refine ⟨h.1, ?_⟩
  rcases h.2 with h2 | ⟨g, cap, cur, hv, hg, hh, r⟩
  · exact Or.inl h2
  · refine Or.inr ⟨g, cap, cur, hv, hg, ?_, r⟩
    rw [k.block g (Array.getElem?_eq_some_iff.1 hh).1 (hn g (by rw [hv]; rfl))]
    exact hh
theorem own_below (h : w.ownsRow base e 1 (.slice A n c) n xs) (k : Below w.heap.size w w') : w'.ownsRow base e 1 (.slice A n c) n xs :=
  own_ch h (Ch.below k []) (fun _ _ => by simp)
theorem own_blk (h : w.ownsRow base e 1 (.slice A n c) n xs) : ∀ g, (Value.slice A n c).ownBlock = some g → ∃ cur, w.heap[g]? = some (.cells cur e (0, 0)) := by
  intro g hg
  rcases h.2 with ⟨h0, _⟩ | ⟨g', cap, cur, hv, _, hh, _⟩
  · injection h0 with h0; subst h0; simp [Value.ownBlock] at hg
  · rw [hv] at hg
    have : g' = g := by simpa [Value.ownBlock] using hg
    subst this
    exact ⟨cur, hh⟩
theorem own_ne_map {α : Type} {κ : Keys α} {b : Nat} {m : List (α × Value)} (h : w.ownsRow base e 1 (.slice A n c) n xs) (hm : MapAt κ w b m) : ∀ g, (Value.slice A n c).ownBlock = some g → g ≠ b := by
  intro g hg e
  subst e
  obtain ⟨cur, hh⟩ := own_blk h g hg
  obtain ⟨es, clock, hb, _⟩ := hm.ex
  rw [hh] at hb
  cases hb
theorem own_ne_blk {t : TypeId} {b : Nat} {cs : List Value} (h : w.ownsRow base e 1 (.slice A n c) n xs) (hb : Blk w b t cs) (hne : e ≠ t) : ∀ g, (Value.slice A n c).ownBlock = some g → g ≠ b := by
  intro g hg e'
  subst e'
  obtain ⟨cur, hh⟩ := own_blk h g hg
  unfold Blk at hb
  rw [hh] at hb
  injection hb with hb
  injection hb with _ ht
  exact hne ht
theorem own_base (h : w.ownsRow base e 1 (.slice A n c) n xs) : ∀ g, (Value.slice A n c).ownBlock = some g → base ≤ g ∧ g < w.heap.size := h.lt
/-- What an append to a row of the call's own may have changed. -/
theorem ch_grown {S : List Nat} (hg : w.grownBy w' (Value.slice A n c).ownBlock) (hs : ∀ g, (Value.slice A n c).ownBlock = some g → g ∈ S) : Ch S w w' :=
  (Ch.refl S w).grown hg (fun k hk => Or.inl (hs k hk))
end

/-- append(xs, x): one element more, behind a row of the call's own (or nil). -/
theorem wpList_push {P : Program} (w : World) {ops : Array Oper} {rest : List Oper} {o : Oper} {a : Act} {Q : Exit → Act → World → Prop} (hgd : o.guard = none) (s x : Operand) (t : TypeId)
    (ho : o.op = .call { callee := .builtin .append, args := #[s, x], argTypes := #[t, t] })
    (base : Nat) (e : TypeId) (z : Value) (bytes : Nat) (ht : P.underlying t = some (.slice e)) (hinfo : (P.info? e).map (fun i => (i.zero, i.size, i.bytes)) = some (some z, 1, bytes)) (hz1 : z.cells = #[z])
    (A : Option Addr) (n c : Nat) (xs : List Value) (hs : a.eval s = .slice A n c) (hown : w.ownsRow base e 1 (.slice A n c) n xs)
    (H m : Nat) (u : Value) (hx : a.eval x = .slice (some ⟨H, 0, none⟩) 1 m) (hc : w.cell? ⟨H, 0, none⟩ = some u) (h1 : u.oneCell' = true)
    (hb : (n + 1) * bytes ≤ 140737488355328) (hn63 : n + 1 ≤ 9223372036854775807) (hbase : base ≤ w.heap.size)
    (h : ∀ g cap w', w'.ownsRow base e 1 (.slice (some ⟨g, 0, none⟩) (n + 1) cap) (n + 1) (xs ++ [u]) → w.grownBy w' (Value.slice A n c).ownBlock → ((Value.slice A n c).ownBlock = some g ∨ g = w.heap.size) → wpList P ops Q rest (a.put o.dst (.slice (some ⟨g, 0, none⟩) (n + 1) cap)) w') : wpList P ops Q (o :: rest) a w := by
  obtain ⟨i0, hi, hz0, hz1', hz2⟩ := info_parts hinfo
  refine wpList_append_lies w hgd s x t ho base e i0 z 1 bytes ht hi hz0 hz1' hz2 (by rw [hz1]; rfl) (by decide) _ n xs hs hown ⟨H, 0, none⟩ 1 m [u] hx rfl ?_ ?_ (by decide) (by unfold maxLen; omega) hb hbase _ rfl (fun g cap w' h1 h2 h3 _ => h g cap w' h1 h2 h3)
  · intro j v hj
    match j, hj with
    | 0, hj => simp at hj; subst hj; simpa [Addr.add] using hc
  · intro v hv; simp at hv; subst hv; exact h1
end Go.Proofs.YtjdbedoabcbeeaaGreatDoor
/- Cuts of rows of ints that the call owns; one element taken out of such a row. -/
namespace Go.Proofs.YtjdbedoabcbeeaaGreatDoor
open Go.RowKit
set_option linter.unusedVariables false
set_option linter.unusedSimpArgs false
attribute [local go_sem] World.cell?_alloc_lt

theorem i64_sm {n : Int} (h0 : -9223372036854775808 ≤ n) (h1 : n ≤ 9223372036854775807) : IntKind.i64.wrap n = n := by
  simp only [IntKind.wrap]
  simp [IntKind.signed, IntKind.bits]
  omega
/-- The address of s[k:]. -/
def cutA (g cp k : Nat) : Option Addr := if cp = k then some ⟨g, 0, none⟩ else some ⟨g, k, none⟩
theorem cut_lo_int (g m cp k : Nat) (K : Int) (hK : K = (k : Int)) (hk : k ≤ m) (hm : m ≤ cp) (w : World) : (Instr.sliceAt 27 (.slice (some ⟨g, 0, none⟩) m cp) (some (.int .i64 K)) none none).run Tryz.prog w = .ok (.slice (cutA g cp k) (m - k) (cp - k)) w := by
  subst hK
  have h0 : (0 : Int) ≤ (k : Int) := by omega
  have h1 : (k : Int) ≤ (m : Int) := by omega
  have h2 : (m : Int) ≤ (cp : Int) := by omega
  unfold cutA
  by_cases e : cp = k
  · subst e
    have : m = cp := by omega
    subst this
    simp [go_sem]
  · rw [if_neg e]
    have h3 : ¬ (cp = k) := e
    simp [go_sem, h0, h1, h2, hk, hm, h3, Addr.add]
    omega
theorem cut_hi_int (g m cp n : Nat) (N : Int) (hN : N = (n : Int)) (h : n ≤ cp) (w : World) : (Instr.sliceAt 27 (.slice (some ⟨g, 0, none⟩) m cp) none (some (.int .i64 N)) none).run Tryz.prog w = .ok (.slice (some ⟨g, 0, none⟩) n cp) w := by
  subst hN
  have h2 : (n : Int) ≤ (cp : Int) := by omega
  simp [go_sem, h, h2, Addr.add]
theorem idx_own (g m cp i : Nat) (hi : i < m) (w : World) : (Instr.indexAt 27 (.slice (some ⟨g, 0, none⟩) m cp) (.int .i64 (i : Int))).run Tryz.prog w = .ok (.pointer (some ⟨g, i, none⟩)) w := by
  simp [go_sem, hi]
theorem own_made0 (w : World) (base : Nat) (e : TypeId) (s : Nat) (hb : base ≤ w.heap.size) : (w.alloc (.cells #[] e)).ownsRow base e s (.slice (some ⟨w.heap.size, 0, none⟩) 0 0) 0 [] :=
  ⟨by simp, Or.inr ⟨w.heap.size, 0, #[], rfl, hb, heap_alloc_new w _, by omega, by simp, by simp, by simp⟩⟩
section
variable {w : World} {base g m cp k : Nat} {e : TypeId} {xs : List Value}
theorem reads_hi (h : w.ownsRow base e 1 (.slice (some ⟨g, 0, none⟩) m cp) m xs) (hk : k ≤ m) : Reads w w.heap.size 1 (some ⟨g, 0, none⟩) k (xs.take k) := by
  have hr := Reads.of_own h
  refine ⟨by rw [List.length_take, hr.1]; omega, fun hk0 => ?_⟩
  obtain ⟨ad, ha, hb, hc⟩ := hr.2 (by omega)
  refine ⟨ad, ha, hb, fun j u hj => ?_⟩
  rw [List.getElem?_take] at hj
  split at hj
  · exact hc j u hj
  · cases hj
theorem reads_lo (h : w.ownsRow base e 1 (.slice (some ⟨g, 0, none⟩) m cp) m xs) (hk : k ≤ m) (hm : m ≤ cp) : Reads w w.heap.size 1 (cutA g cp k) (m - k) (xs.drop k) := by
  have hr := (Reads.of_own h).cut hk hm
  rw [Nat.mul_one] at hr
  have ea : (if cp = k then (some ⟨g, 0, none⟩ : Option Addr) else (some (⟨g, 0, none⟩ : Addr)).map (·.add k)) = cutA g cp k := by
    unfold cutA
    split
    · rfl
    · simp [WideShapes.add_plain]
  rw [ea] at hr
  exact hr
theorem own_cap (h : w.ownsRow base e 1 (.slice (some ⟨g, 0, none⟩) m cp) m xs) : m ≤ cp := by
  rcases h.2 with ⟨h0, _⟩ | ⟨g', cap, cur, hv, _, _, hnc, _⟩
  · cases h0
  · injection hv with _ _ hc
    subst hc
    exact hnc
theorem own_slice {s n : Nat} {v : Value} (h : w.ownsRow base e s v n xs) : ∃ A c, v = .slice A n c := by
  rcases h.2 with ⟨h0, h1⟩ | ⟨g', cap, cur, hv, _⟩
  · exact ⟨none, 0, by rw [h0, h1]⟩
  · exact ⟨_, _, hv⟩
end
end Go.Proofs.YtjdbedoabcbeeaaGreatDoor
/- Cells laid over a block from a place on. -/
namespace Go.Proofs.YtjdbedoabcbeeaaGreatDoor
open Go.RowKit
set_option linter.unusedVariables false
set_option linter.unusedSimpArgs false

/-- us laid over cs from place o on. -/
def putL {α : Type} : List α → Nat → List α → List α
  | cs, _, [] => cs
  | cs, o, v :: vs => putL (cs.set o v) (o + 1) vs
theorem putL_len {α : Type} : ∀ (us cs : List α) (o : Nat), (putL cs o us).length = cs.length := by
  intro us
  induction us with
  | nil => intro cs o; rfl
  | cons v vs ih => intro cs o; rw [putL, ih, List.length_set]
theorem putL_map {α β : Type} (f : α → β) : ∀ (us cs : List α) (o : Nat), (putL cs o us).map f = putL (cs.map f) o (us.map f) := by
  intro us
  induction us with
  | nil => intro cs o; rfl
  | cons v vs ih => intro cs o; rw [putL, ih, List.map_cons, putL, List.map_set]
theorem putL_get {α : Type} : ∀ (us cs : List α) (o i : Nat), o + us.length ≤ cs.length → (putL cs o us)[i]? = if o ≤ i ∧ i < o + us.length then us[i - o]? else cs[i]? := by
  intro us
  induction us with
  | nil => intro cs o i h; rw [putL, if_neg (fun h2 => by simp at h2; omega)]
  | cons v vs ih =>
    intro cs o i h
    simp only [List.length_cons] at h ⊢
    rw [putL, ih _ _ _ (by rw [List.length_set]; omega)]
    by_cases h1 : o + 1 ≤ i ∧ i < o + 1 + vs.length
    · rw [if_pos h1, if_pos (by omega), show i - o = (i - (o + 1)) + 1 from by omega, List.getElem?_cons_succ]
    · rw [if_neg h1]
      by_cases h2 : i = o
      · subst h2
        rw [if_pos (by omega), Nat.sub_self, List.getElem?_set_self (by omega)]
        rfl
      · rw [if_neg (by omega), List.getElem?_set_ne (by omega)]
theorem Blk.setCells {g : Nat} {t : TypeId} : ∀ (us cs : List Value) (o : Nat) (w : World), Blk w g t cs → Blk (w.setCells g o us) g t (putL cs o us) ∧ Ch [g] w (w.setCells g o us) := by
  intro us
  induction us with
  | nil => intro cs o w h; exact ⟨h, Ch.refl _ _⟩
  | cons v vs ih =>
    intro cs o w h
    obtain ⟨h1, h2⟩ := ih (cs.set o v) (o + 1) _ (h.set_ o v)
    exact ⟨h1, ((Ch.refl [g] w).set (p := ⟨g, o, none⟩) (by simp) v).trans h2⟩
theorem blk_range {w : World} {b : Nat} {t : TypeId} {cs : List Value} (h : Blk w b t cs) (o n : Nat) : w.rangeAt b o ((cs.drop o).take n) := by
  intro j v hj
  rw [List.getElem?_take] at hj
  split at hj
  · rw [List.getElem?_drop] at hj
    exact h.at_ hj
  · cases hj
theorem blk_there {w : World} {b : Nat} {t : TypeId} {cs : List Value} (h : Blk w b t cs) (o n : Nat) (hl : o + n ≤ cs.length) : w.there b o n := by
  intro j hj
  refine ⟨?_, h.frozen _⟩
  rw [h.cell, List.getElem?_eq_getElem (by omega)]
  rfl
end Go.Proofs.YtjdbedoabcbeeaaGreatDoor
/- Arguments that are slices: what a law's walk gets of them. -/
namespace Go.Proofs.YtjdbedoabcbeeaaGreatDoor
open Go.ChangeShapes Go.WideShapes Go.RowKit
set_option linter.unusedVariables false
set_option linter.unusedSimpArgs false

/-- A slice of whole numbers that came in. -/
structure InInts (k : IntKind) (w : World) (a : Option Addr) (len : Nat) (zs : List Int) : Prop where
  ln : zs.length = len
  mx : len ≤ 9223372036854775807
  at_ : 0 < len → ∃ b off, a = some ⟨b, off, none⟩ ∧ b < w.heap.size ∧ ∀ i, i < len → w.cell? ⟨b, off + i, none⟩ = some (.int k (zs.getD i 0))
  wf : ∀ z ∈ zs, (Lit.int k z).wf = true
/-- A slice of texts that came in. -/
structure InStrs (w : World) (a : Option Addr) (len : Nat) (ss : List ByteArray) : Prop where
  ln : ss.length = len
  mx : len ≤ 9223372036854775807
  at_ : 0 < len → ∃ b off, a = some ⟨b, off, none⟩ ∧ b < w.heap.size ∧ ∀ i, i < len → w.cell? ⟨b, off + i, none⟩ = some (.string (ss.getD i ByteArray.empty))
section
variable {H : Type} {enc : TypeId × Value → H} {P : Program} {W : World} {base : Nat} {held : Bool}
theorem spot_none {w : World} {a : Addr} {v : Value} (h : w.cell? (a.add 0) = some v) : ∃ b off, a = ⟨b, off, none⟩ := by
  obtain ⟨b, off, spot⟩ := a
  have hspot : spot = none := by simpa [Addr.add] using World.cell?_spot h
  subst hspot
  exact ⟨b, off, rfl⟩
theorem open_inInts {t e : TypeId} {k : IntKind} {a : Option Addr} {len cap : Nat} {d : DataW H} {ps : List MemPlace} (hu : P.underlying t = some (.slice e)) (he : P.underlying e = some (.int k)) (hc : P.cellsOf e = 1)
    (h : DataW.Trod enc P W base (fun _ => true) held t (.slice a len cap) d ps) : ∃ zs, InInts k W a len zs := by
  obtain ⟨fuel, hf⟩ := h
  rcases open_ints hu he hc hf with ⟨hcs, _⟩ | ⟨x, l, c, zs, hcs, _, hl, hm, hz, _, hcell, hwz⟩
  · simp [Value.cells] at hcs
    obtain ⟨rfl, rfl, rfl⟩ := hcs
    exact ⟨[], rfl, by omega, fun h => absurd h (by omega), by simp⟩
  · simp [Value.cells] at hcs
    obtain ⟨rfl, rfl, rfl⟩ := hcs
    simp at hz
    refine ⟨zs.take len, by simp; omega, by unfold maxLen at hm; omega, fun hp => ?_, fun z hz' => hwz z (List.mem_of_mem_take hz')⟩
    obtain ⟨b, off, rfl⟩ := spot_none (hcell 0 (by omega))
    refine ⟨b, off, rfl, World.block_lt_of_cell? W _ (hcell 0 (by omega)) |> (by simpa [Addr.add] using ·), fun i hi => ?_⟩
    have := hcell i (by omega)
    rw [Go.WideShapes.add_plain] at this
    rw [this]
    simp [List.getD_eq_getElem?_getD, List.getElem?_take, hi]
theorem open_inStrs {t e : TypeId} {a : Option Addr} {len cap : Nat} {d : DataW H} {ps : List MemPlace} (hu : P.underlying t = some (.slice e)) (he : P.underlying e = some .string) (hc : P.cellsOf e = 1)
    (h : DataW.Trod enc P W base (fun _ => true) held t (.slice a len cap) d ps) : ∃ ss, InStrs W a len ss := by
  obtain ⟨fuel, hf⟩ := h
  rcases open_strings hu he hc hf with ⟨hcs, _⟩ | ⟨x, l, c, ss, hcs, _, hl, hm, hz, _, hcell, hws⟩
  · simp [Value.cells] at hcs
    obtain ⟨rfl, rfl, rfl⟩ := hcs
    exact ⟨[], rfl, by omega, fun h => absurd h (by omega)⟩
  · simp [Value.cells] at hcs
    obtain ⟨rfl, rfl, rfl⟩ := hcs
    simp at hz
    refine ⟨ss.take len, by simp; omega, by unfold maxLen at hm; omega, fun hp => ?_⟩
    obtain ⟨b, off, rfl⟩ := spot_none (hcell 0 (by omega))
    refine ⟨b, off, rfl, World.block_lt_of_cell? W _ (hcell 0 (by omega)) |> (by simpa [Addr.add] using ·), fun i hi => ?_⟩
    have := hcell i (by omega)
    rw [Go.WideShapes.add_plain] at this
    rw [this]
    simp [List.getD_eq_getElem?_getD, List.getElem?_take, hi]
/-- A slice weighs what its elements weigh. -/
theorem sized_inInts {t e : TypeId} {k : IntKind} {a : Option Addr} {len cap : Nat} {d : DataW H} {ps : List MemPlace} {ts : List TypeId} {ds : List (DataW H)} {j : Nat} (B : Nat)
    (hsz : (DataW.weightsEach P ts ds).all (· ≤ reachBytes) = true) (ht : ts[j]? = some t) (hd : ds[j]? = some d) (hu : P.underlying t = some (.slice e)) (he : P.underlying e = some (.int k)) (hc : P.cellsOf e = 1) (hB : P.bytesOf e = B)
    (h : DataW.Trod enc P W base (fun _ => true) held t (.slice a len cap) d ps) : len * B ≤ 140737488351232 := by
  obtain ⟨fuel, hf⟩ := h
  rcases open_ints hu he hc hf with ⟨hcs, _⟩ | ⟨x, l, c, zs, hcs, _, hl, _, hz, hx, _, _⟩
  · simp [Value.cells] at hcs
    obtain ⟨rfl, rfl, rfl⟩ := hcs
    simp
  · simp [Value.cells] at hcs
    obtain ⟨rfl, rfl, rfl⟩ := hcs
    obtain ⟨hx, _⟩ := Prod.mk.inj hx
    subst hx
    have z := sized_slice hsz ht hd hu
    rw [hB] at z
    simp at hz
    have h1 : (lits (H := H) k (zs.take len)).length + (lits (H := H) k (zs.drop len)).length = zs.length := by
      simp [lits]
      omega
    rw [h1] at z
    exact Nat.le_trans (Nat.mul_le_mul_right _ (by omega)) z
end
theorem idx_int {A : Option Addr} {b off len cap i : Nat} (ha : A = some ⟨b, off, none⟩) (hi : i < len) (w : World) : (Instr.indexAt 27 (.slice A len cap) (.int .i64 (i : Int))).run Tryz.prog w = .ok (.pointer (some ⟨b, off + i, none⟩)) w := by
  subst ha
  simp [go_sem, hi]
theorem idx_byte {A : Option Addr} {b off len cap i : Nat} (ha : A = some ⟨b, off, none⟩) (hi : i < len) (w : World) : (Instr.indexAt 42 (.slice A len cap) (.int .i64 (i : Int))).run Tryz.prog w = .ok (.pointer (some ⟨b, off + i, none⟩)) w := by
  subst ha
  simp [go_sem, hi]
end Go.Proofs.YtjdbedoabcbeeaaGreatDoor
/- slices.Clone. -/
namespace Go.Proofs.YtjdbedoabcbeeaaGreatDoor
open Go.RowKit
set_option linter.unusedVariables false
set_option linter.unusedSimpArgs false

/-- append(xs, us...), us not empty. -/
theorem wpList_pushes {P : Program} (w : World) {ops : Array Oper} {rest : List Oper} {o : Oper} {a : Act} {Q : Exit → Act → World → Prop} (hgd : o.guard = none) (s x : Operand) (t : TypeId)
    (ho : o.op = .call { callee := .builtin .append, args := #[s, x], argTypes := #[t, t] })
    (base : Nat) (e : TypeId) (z : Value) (bytes : Nat) (ht : P.underlying t = some (.slice e)) (hinfo : (P.info? e).map (fun i => (i.zero, i.size, i.bytes)) = some (some z, 1, bytes)) (hz1 : z.cells = #[z])
    (A : Option Addr) (n c : Nat) (xs : List Value) (hs : a.eval s = .slice A n c) (hown : w.ownsRow base e 1 (.slice A n c) n xs)
    (B off m mc : Nat) (us : List Value) (hx : a.eval x = .slice (some ⟨B, off, none⟩) m mc) (hl : us.length = m) (hc : ∀ j u, us[j]? = some u → w.cell? ⟨B, off + j, none⟩ = some u) (h1 : ∀ u ∈ us, u.oneCell' = true)
    (hm : 0 < m) (hb : (n + m) * bytes ≤ 140737488355328) (hn63 : n + m ≤ 9223372036854775807) (hbase : base ≤ w.heap.size)
    (h : ∀ g cap w', w'.ownsRow base e 1 (.slice (some ⟨g, 0, none⟩) (n + m) cap) (n + m) (xs ++ us) → w.grownBy w' (Value.slice A n c).ownBlock → ((Value.slice A n c).ownBlock = some g ∨ g = w.heap.size) → wpList P ops Q rest (a.put o.dst (.slice (some ⟨g, 0, none⟩) (n + m) cap)) w') : wpList P ops Q (o :: rest) a w := by
  obtain ⟨i0, hi, hz0, hz1', hz2⟩ := info_parts hinfo
  refine wpList_append_lies w hgd s x t ho base e i0 z 1 bytes ht hi hz0 hz1' hz2 (by rw [hz1]; rfl) (by decide) _ n xs hs hown ⟨B, off, none⟩ m mc us hx (by omega) ?_ h1 hm (by unfold maxLen; omega) hb hbase _ rfl (fun g cap w' h1 h2 h3 _ => h g cap w' h1 h2 h3)
  intro j v hj
  have := hc j v hj
  rw [WideShapes.add_plain]; exact this
theorem own_made (w : World) (e : TypeId) : (w.alloc (.cells #[] e)).ownsRow w.heap.size e 1 (.slice (some ⟨w.heap.size, 0, none⟩) 0 0) 0 [] :=
  ⟨rfl, Or.inr ⟨w.heap.size, 0, #[], rfl, Nat.le_refl _, heap_alloc_new w _, by omega, by simp, by simp, by simp⟩⟩
--CL
theorem info_clI : (Tryz.prog.info? 3).map (fun i => (i.zero, i.size, i.bytes)) = some (some (.int .i64 0), 1, 8) := by kernel_rfl
set_option maxRecDepth 100000 in
theorem cloneI_nil (w0 : World) : Calls Tryz.prog 43 #[.slice none 0 0] w0 fun e w' => e = .returned (.slice none 0 0) ∧ w0 = w' := by
  have hn : ∀ w : World, (binOp .eql 27 (.slice none 0 0) (.slice none 0 0)).run Tryz.prog w = .ok (.bool true) w := fun _ => rfl
  go_enter Tryz.func43, Tryz.ntmps43
  go_wp2
  go_ret
  exact ⟨rfl, rfl⟩
set_option maxRecDepth 100000 in
theorem cloneI_at (B off m mc : Nat) (us : List Value) (hl : us.length = m) (h1 : ∀ u ∈ us, u.oneCell' = true) (hbd : m * 8 ≤ 140737488355328) (w0 : World) (hB : B < w0.heap.size) (hc : ∀ j u, us[j]? = some u → w0.cell? ⟨B, off + j, none⟩ = some u) :
    Calls Tryz.prog 43 #[.slice (some ⟨B, off, none⟩) m mc] w0 fun e w' => ∃ g c, e = .returned (.slice (some ⟨g, 0, none⟩) m c) ∧ w'.ownsRow w0.heap.size 3 1 (.slice (some ⟨g, 0, none⟩) m c) m us ∧ Below w0.heap.size w0 w' := by
  have hown := own_made w0 3
  have hn : ∀ w : World, (binOp .eql 27 (.slice (some ⟨B, off, none⟩) m mc) (.slice none 0 0)).run Tryz.prog w = .ok (.bool false) w := fun _ => rfl
  by_cases hm : 0 < m
  · go_enter Tryz.func43, Tryz.ntmps43
    go_wp2_with (at_builtin; refine wpList_pushes _ rfl (.tmp 5) (.tmp 6) 27 rfl w0.heap.size 3 (.int .i64 0) 8 Tryz.underlying27 info_clI rfl (some ⟨w0.heap.size, 0, none⟩) 0 0 [] rfl hown B off m mc us rfl hl ?_ h1 hm (by omega) (by omega) ?_ ?_)
    · intro j u hj
      exact (World.cell?_alloc_lt _ _ _ hB).trans (hc j u hj)
    · simp
    intro g cp w4 hown4 hgr4 hor
    have hB4 := (bel_alloc (Below.refl _ w0) (.cells #[] 3)).grown hgr4 (by simp) (fun k hk => (own_base hown k hk).1)
    try rw [Nat.zero_add, List.nil_append] at hown4
    go_wp2
    go_ret
    exact ⟨g, cp, by first | rfl | rw [Nat.zero_add], hown4, hB4⟩
  · obtain rfl : m = 0 := by omega
    obtain rfl : us = [] := List.eq_nil_of_length_eq_zero hl
    go_enter Tryz.func43, Tryz.ntmps43
    go_wp2
    go_ret
    exact ⟨w0.heap.size, 0, rfl, hown, (by repeat (first | exact Below.refl _ _ | assumption | with_reducible refine bel_alloc ?_ _ | with_reducible refine bel_drewN ?_ _ | with_reducible refine bel_drew ?_))⟩
theorem info_clB : (Tryz.prog.info? 5).map (fun i => (i.zero, i.size, i.bytes)) = some (some (.int .u8 0), 1, 1) := by kernel_rfl
set_option maxRecDepth 100000 in
theorem cloneB_nil (w0 : World) : Calls Tryz.prog 89 #[.slice none 0 0] w0 fun e w' => e = .returned (.slice none 0 0) ∧ w0 = w' := by
  have hn : ∀ w : World, (binOp .eql 42 (.slice none 0 0) (.slice none 0 0)).run Tryz.prog w = .ok (.bool true) w := fun _ => rfl
  go_enter Tryz.func89, Tryz.ntmps89
  go_wp2
  go_ret
  exact ⟨rfl, rfl⟩
set_option maxRecDepth 100000 in
theorem cloneB_at (B off m mc : Nat) (us : List Value) (hl : us.length = m) (h1 : ∀ u ∈ us, u.oneCell' = true) (hbd : m * 1 ≤ 140737488355328) (w0 : World) (hB : B < w0.heap.size) (hc : ∀ j u, us[j]? = some u → w0.cell? ⟨B, off + j, none⟩ = some u) :
    Calls Tryz.prog 89 #[.slice (some ⟨B, off, none⟩) m mc] w0 fun e w' => ∃ g c, e = .returned (.slice (some ⟨g, 0, none⟩) m c) ∧ w'.ownsRow w0.heap.size 5 1 (.slice (some ⟨g, 0, none⟩) m c) m us ∧ Below w0.heap.size w0 w' := by
  have hown := own_made w0 5
  have hn : ∀ w : World, (binOp .eql 42 (.slice (some ⟨B, off, none⟩) m mc) (.slice none 0 0)).run Tryz.prog w = .ok (.bool false) w := fun _ => rfl
  by_cases hm : 0 < m
  · go_enter Tryz.func89, Tryz.ntmps89
    go_wp2_with (at_builtin; refine wpList_pushes _ rfl (.tmp 5) (.tmp 6) 42 rfl w0.heap.size 5 (.int .u8 0) 1 Tryz.underlying42 info_clB rfl (some ⟨w0.heap.size, 0, none⟩) 0 0 [] rfl hown B off m mc us rfl hl ?_ h1 hm (by omega) (by omega) ?_ ?_)
    · intro j u hj
      exact (World.cell?_alloc_lt _ _ _ hB).trans (hc j u hj)
    · simp
    intro g cp w4 hown4 hgr4 hor
    have hB4 := (bel_alloc (Below.refl _ w0) (.cells #[] 5)).grown hgr4 (by simp) (fun k hk => (own_base hown k hk).1)
    try rw [Nat.zero_add, List.nil_append] at hown4
    go_wp2
    go_ret
    exact ⟨g, cp, by first | rfl | rw [Nat.zero_add], hown4, hB4⟩
  · obtain rfl : m = 0 := by omega
    obtain rfl : us = [] := List.eq_nil_of_length_eq_zero hl
    go_enter Tryz.func89, Tryz.ntmps89
    go_wp2
    go_ret
    exact ⟨w0.heap.size, 0, rfl, hown, (by repeat (first | exact Below.refl _ _ | assumption | with_reducible refine bel_alloc ?_ _ | with_reducible refine bel_drewN ?_ _ | with_reducible refine bel_drew ?_))⟩
end Go.Proofs.YtjdbedoabcbeeaaGreatDoor
