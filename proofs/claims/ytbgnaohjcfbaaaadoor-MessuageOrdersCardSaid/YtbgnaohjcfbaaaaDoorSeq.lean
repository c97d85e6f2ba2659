/- A range over an iterator that keeps its state in a cell of its own: what it promises, what the loop owes. -/
import Derived.RangeFuncNested
import Derived.RangeFuncBound
import Derived.RangeFuncCalls
import Derived.RangeFuncLeaves
import Derived.Shelf.Abstract
import Derived.Shelf.RegionOpen
import Derived.WalkKit
import Derived.OwnWalkIn
import Derived.TacticsInMore
import Derived.LoopNIn
import Derived.LoopIn
import Derived.Test.YtbgnaohjcfbaaaaDoorBase2
namespace Go.Proofs.YtbgnaohjcfbaaaaDoor
open Go.RowKit Go.Shelf
set_option linter.unusedVariables false
set_option linter.unusedSimpArgs false
variable {F : Fence} {n : Nat} {P : Program}

/-- The three boxes from block B on lie as they lay. -/
def Box3 (B : Nat) (W W' : World) : Prop := ∀ k, B ≤ k → k < B + 3 → W'.heap[k]? = W.heap[k]?
theorem Box3.refl (B : Nat) (W : World) : Box3 B W W := fun _ _ _ => rfl
theorem Box3.trans {B : Nat} {X Y Z : World} (h : Box3 B X Y) (k : Box3 B Y Z) : Box3 B X Z := fun i a b => (k i a b).trans (h i a b)
theorem Box3.cell {B : Nat} {W W' : World} (h : Box3 B W W') {k : Nat} (hk : B ≤ k) (hk2 : k < B + 3) (o : Nat) : W'.cell? ⟨k, o, none⟩ = W.cell? ⟨k, o, none⟩ := World.cell?_of_block (h k hk hk2)
theorem Box3.froz {B : Nat} {W W' : World} (h : Box3 B W W') {k : Nat} (hk : B ≤ k) (hk2 : k < B + 3) (o : Nat) : W'.frozen? ⟨k, o, none⟩ = W.frozen? ⟨k, o, none⟩ := by
  simp only [World.frozen?, h k hk hk2]
/-- The iterator gives just xs, one by one; what lay before it is as it was, but for the cell of block B, which it may store into. -/
def GivesAll {α : Type} (F : Fence) (n : Nat) (P : Program) (g : Nat) (lb : Array Value) (B : Nat) (enc : α → Value) (xs : List α) (w : World) : Prop :=
  ∀ (l : Nat) (J Jx : List α → World → Prop) (W : World), Below w.heap.size w W → (∀ s V v, J s V → J s (V.setCell ⟨B, 0, none⟩ v)) →
    (∀ pre x W1, (pre ++ [x]) <+: xs → J pre W1 → YieldAt F (n - 1) P l #[enc x] W1 fun e W' => (e = .returned (.bool true) ∧ J (pre ++ [x]) W' ∧ Box3 B W1 W') ∨ (e = .returned (.bool false) ∧ Jx (pre ++ [x]) W')) →
    J [] W → CallsIn F n P g (#[.func (.yield l) #[] #[]] ++ lb) W fun e W' => (∃ v, e = .returned v) ∧ (J xs W' ∨ ∃ pre, pre <+: xs ∧ Jx pre W')
/-- What differs from W lies in block B, or from N on. -/
structure Aside (N B : Nat) (W W' : World) : Prop where
  os : W'.os = W.os
  tape : W'.tape = W.tape
  output : W'.output = W.output
  size : W.heap.size ≤ W'.heap.size
  block : ∀ k, k < N → k ≠ B → W'.heap[k]? = W.heap[k]?
theorem Aside.put {N B l : Nat} {W : World} (o : Obj) (hl : N ≤ l) : Aside N B W (W.putObj l o) := ⟨rfl, rfl, rfl, by simp, fun k hk _ => World.putObj_heap_other (by omega)⟩
theorem Aside.set {N B : Nat} {W : World} (v : Value) : Aside N B W (W.setCell ⟨B, 0, none⟩ v) := ⟨rfl, rfl, rfl, by simp [World.setCell], fun k _ hk => Below.heap_setCell W _ v k hk⟩
theorem Aside.alloc {N B : Nat} {W : World} (o : Obj) (hN : N ≤ W.heap.size) : Aside N B W (W.alloc o) := ⟨rfl, rfl, rfl, by simp, fun k hk _ => Below.heap_alloc W o k (by omega)⟩
theorem Aside.trans {N B : Nat} {X Y Z : World} (h : Aside N B X Y) (k : Aside N B Y Z) : Aside N B X Z := ⟨k.os.trans h.os, k.tape.trans h.tape, k.output.trans h.output, Nat.le_trans h.size k.size, fun i a b => (k.block i a b).trans (h.block i a b)⟩
def roundEnd {α : Type} (N B : Nat) (I Ix : List α → World → Prop) (xs : List α) (W : World) : Exit → Act → World → Prop
  | .normal, _, W' => KeepsFrom N W W' ∧ Box3 B W W' ∧ I xs W'
  | .ret, _, W' => KeepsFrom N W W' ∧ Ix xs W'
  | _, _, _ => False
/-- The law of the loop. -/
theorem wpIn_rangeFunc_cell {α : Type} {g : Operand} {ps : Array Tmp} {assign body : Code} {Q : Exit → Act → World → Prop} {a : Act} {w : World}
    (hro : F.round = none) (h1 : 1 ≤ n) {gf : Nat} {lb : Array Value} (hg : a.eval g = .func (.func gf) #[] lb) (hFg : F.fn gf) (eg : ∀ args w, (callFunc gf args).run P w = .ok (.enter gf args) w)
    {enc : α → Value} {xs : List α} {B : Nat} {w0 : World} (hseq : GivesAll F (n - 1) P gf lb B enc xs w0) (hb0 : Below w0.heap.size w0 w) (hB : B + 3 ≤ w.heap.size) (hps : 1 = ps.size)
    (I Ix : List α → World → Prop) (hI : ∀ s W W', I s W → Aside w.heap.size B W W' → I s W') (hIx : ∀ s W W', Ix s W → Aside w.heap.size B W W' → Ix s W') (h0 : I [] w) (a1 : α → Act)
    (hassign : ∀ (l : Nat) (x : α) (W : World) (K : Act → World → Prop), K (a1 x) W →
      assign.wpIn (F.inRound l) (n - 1 - 1) P (Exit.then K (fun _ _ _ => False)) { tmps := (ps.zip #[enc x]).foldl (fun t (p, v) => t.setIfInBounds p v) a.tmps, defers := [] } W)
    (hbody : ∀ (l : Nat) (pre : List α) (x : α) (W : World), (pre ++ [x]) <+: xs → I pre W → w.heap.size ≤ W.heap.size → body.wpIn (F.inRound l) (n - 1 - 1) P (roundEnd w.heap.size B I Ix (pre ++ [x]) W) (a1 x) W)
    (hdone : ∀ (D : Nat) (W : World), w.heap.size ≤ D → I xs W → W.heap[D]? = some (.deferred (some [])) → Q .normal { a with defers := { target := .collected D, args := #[] } :: a.defers } W)
    (hstop : ∀ (D : Nat) (pre : List α) (W : World), w.heap.size ≤ D → pre <+: xs → Ix pre W → W.heap[D]? = some (.deferred (some [])) → Code.ret.wpIn F n P Q { a with defers := { target := .collected D, args := #[] } :: a.defers } W) :
    (Code.rangeFunc g ps assign body).wpIn F n P Q a w := by
  refine wpIn_rangeFunc fun fn hfn => ?_
  rw [hro]
  generalize hN : w.heap.size = N at *
  -- the loop's record, in its states
  obtain ⟨R, hR⟩ : ∃ R : LoopState → Option Code → Loop, ∀ s p, R s p = { state := s, pending := p, fn, tmps := a.tmps, params := ps, assign, body, defers := N } := ⟨fun s p => { state := s, pending := p, fn, tmps := a.tmps, params := ps, assign, body, defers := N }, fun _ _ => rfl⟩
  obtain ⟨V, hV⟩ : ∃ V, V = (w.alloc (.deferred (some []))).alloc (.loop (R .ready none)) := ⟨_, rfl⟩
  have hVz : V.heap.size = N + 2 := by rw [hV]; simp [hN]
  have hVl : V.heap[N + 1]? = some (.loop (R .ready none)) := by
    have := World.alloc_heap_new (w.alloc (.deferred (some []))) (.loop (R .ready none))
    rw [World.size_alloc, hN] at this
    rw [hV]; exact this
  have hVd : V.heap[N]? = some (.deferred (some [])) := by
    have := World.alloc_heap_new w (.deferred (some []))
    rw [hN] at this
    rw [hV, Below.heap_alloc _ _ _ (by simp; omega)]; exact this
  have hVB : Below w0.heap.size w0 V := by
    rw [hV]
    exact hb0.trans ((((Below.refl _ w).alloc (Nat.le_refl _) _).alloc (by simp) _).mono hb0.size)
  have hVI : I [] V := by
    rw [hV]
    exact hI _ _ _ h0 ((Aside.alloc _ (by omega)).trans (Aside.alloc _ (by simp; omega)))
  refine ⟨N + 1, [{ target := .collected N, args := #[] }], V, { target := .fn (.func gf) lb, args := #[.func (.yield (N + 1)) #[] #[]] }, V, gf, #[.func (.yield (N + 1)) #[] #[]] ++ lb, V, ?_, ?_, ?_, ?_, fun _ => h1, ?_⟩
  · rw [run_enterLoop_outer, hN, hV, hR]
  · simp only [resolve, hg]
    simp [go_sem]
  · intro f' hf'
    simp [Target.leads] at hf'
    subst hf'
    exact hFg
  · simp [invoke, go_sem, eg]
  refine (hseq (N + 1) (fun s W => I s W ∧ W.heap[N + 1]? = some (.loop (R .ready none)) ∧ W.heap[N]? = some (.deferred (some []))) (fun s W => Ix s W ∧ W.heap[N + 1]? = some (.loop (R .done (some .ret))) ∧ W.heap[N]? = some (.deferred (some []))) V hVB
    (fun s W v h => ⟨hI _ _ _ h.1 (Aside.set v), (Below.heap_setCell W _ v _ (by simp; omega)).trans h.2.1, (Below.heap_setCell W _ v _ (by simp; omega)).trans h.2.2⟩) ?_ ⟨hVI, hVl, hVd⟩).mono ?_
  · rintro pre x W hpx ⟨hi, hl, hd⟩
    have hlt : N + 1 < W.heap.size := (Array.getElem?_eq_some_iff.1 hl).1
    have hy := run_yield (P := P) (args := #[enc x]) hl (by rw [hR]; exact hps)
    rw [hR] at hy
    have hbr := run_beginRound (P := P) hl (by rw [hR])
    obtain ⟨U, hU⟩ : ∃ U, U = W.putObj (N + 1) (.loop { R .ready none with state := .busy }) := ⟨_, rfl⟩
    rw [← hU] at hbr
    have hUl : U.heap[N + 1]? = some (.loop { R .ready none with state := .busy }) := by rw [hU]; exact World.putObj_heap_same hlt
    have hUd : U.heap[N]? = some (.deferred (some [])) := by rw [hU]; exact (World.putObj_heap_other (by omega)).trans hd
    have hUb : Box3 B W U := by rw [hU]; exact fun k _ h2 => World.putObj_heap_other (by omega)
    have hUi : I pre U := by rw [hU]; exact hI _ _ _ hi (Aside.put _ (by omega))
    have hUz : N ≤ U.heap.size := by rw [hU]; simp; omega
    refine ⟨fn, _, assign, body, hy, roundIn_of_wpIn hfn (hassign _ x W _ ⟨U, hbr, wpIn_mono (hbody (N + 1) pre x U hpx hUi hUz) ?_⟩)⟩
    rintro e b X hp
    have last : ∀ (j : Option Code), KeepsFrom N U X → (Instr.endRound (N + 1) j).run P X = .ok (.bool j.isNone) (X.putObj (N + 1) (.loop (R (if j.isNone then .ready else .done) j))) ∧
        (X.putObj (N + 1) (.loop (R (if j.isNone then .ready else .done) j))).heap[N + 1]? = some (.loop (R (if j.isNone then .ready else .done) j)) ∧ (X.putObj (N + 1) (.loop (R (if j.isNone then .ready else .done) j))).heap[N]? = some (.deferred (some [])) := fun j hk => by
      have h3 := hk.same _ _ (by omega) hUl rfl
      have h4 := run_endRound (P := P) j h3
      simp only [hR] at h4 ⊢
      exact ⟨h4, World.putObj_heap_same (Array.getElem?_eq_some_iff.1 h3).1, (World.putObj_heap_other (by omega)).trans (hk.same _ _ (Nat.le_refl _) hUd rfl)⟩
    cases e with
    | normal =>
      obtain ⟨hk, hb, hi2⟩ := hp
      obtain ⟨hr, hl2, hd2⟩ := last none hk
      exact ⟨_, _, hr, .inl ⟨rfl, ⟨hI _ _ _ hi2 (Aside.put _ (by omega)), hl2, hd2⟩, (hUb.trans hb).trans fun k _ h2 => World.putObj_heap_other (by omega)⟩⟩
    | ret =>
      obtain ⟨hk, hi2⟩ := hp
      obtain ⟨hr, hl2, hd2⟩ := last (some .ret) hk
      exact ⟨_, _, hr, .inr ⟨rfl, hIx _ _ _ hi2 (Aside.put _ (by omega)), hl2, hd2⟩⟩
    | exit id => exact hp.elim
    | goto t => exact hp.elim
    | panic ch => exact hp.elim
    | outgrown => exact hp.elim
  · rintro e X ⟨⟨v, rfl⟩, hor⟩
    rcases hor with ⟨hi, hl, hd⟩ | ⟨pre, hpre, hi, hl, hd⟩
    · have he := run_endLoop (P := P) hl (by rw [hR]; simp)
      rw [hR] at he
      exact ⟨none, _, he, hdone N _ (Nat.le_refl _) (hI _ _ _ hi (Aside.put _ (by omega))) ((World.putObj_heap_other (by omega)).trans hd)⟩
    · have he := run_endLoop (P := P) hl (by rw [hR]; simp)
      rw [hR] at he
      exact ⟨some .ret, _, he, hstop N pre _ (Nat.le_refl _) hpre (hIx _ _ _ hi (Aside.put _ (by omega))) ((World.putObj_heap_other (by omega)).trans hd)⟩
end Go.Proofs.YtbgnaohjcfbaaaaDoor
