/- Parts of the proof: Seq, Split, Text, RefNodes, Sets. -/
import Derived.RangeFuncNested
import Derived.RangeFuncBound
import Derived.RangeFuncCalls
import Derived.RangeFuncLeaves
import Derived.Shelf.Abstract
import Derived.Shelf.RegionOpen
import Derived.WalkKit
import Derived.OwnWalkIn
import Derived.TacticsInMore
import Derived.LoopNIn
import Derived.LoopIn
import Derived.Test.YtjdbedoabcbeeaaGreatDoorUs1
import Derived.Test.YtjdbedoabcbeeaaGreatDoorUs6
import Derived.Lib.IndexLaws
import Derived.Lib.Strings
import Derived.Test.YtjdbedoabcbeeaaGreatDoorUs11
import Derived.Test.YtjdbedoabcbeeaaGreatDoorUs4
import Derived.Lib.Join
import Derived.WalkLawsBesides
import Derived.Deep.DeepCutAuto
import Derived.Outline
/- A range over an iterator that keeps its state in a cell of its own: what it promises, what the loop owes. -/
namespace Go.Proofs.YtjdbedoabcbeeaaGreatDoor
open Go.RowKit Go.Shelf
set_option linter.unusedVariables false
set_option linter.unusedSimpArgs false
variable {F : Fence} {n : Nat} {P : Program}

/-- The three boxes from block B on lie as they lay. -/
def Box3 (B : Nat) (W W' : World) : Prop := ∀ k, B ≤ k → k < B + 3 → W'.heap[k]? = W.heap[k]?
theorem Box3.refl (B : Nat) (W : World) : Box3 B W W := fun _ _ _ => rfl
theorem Box3.trans {B : Nat} {X Y Z : World} (h : Box3 B X Y) (k : Box3 B Y Z) : Box3 B X Z := fun i a b => (k i a b).trans (h i a b)
theorem Box3.cell {B : Nat} {W W' : World} (h : Box3 B W W') {k : Nat} (hk : B ≤ k) (hk2 : k < B + 3) (o : Nat) : W'.cell? ⟨k, o, none⟩ = W.cell? ⟨k, o, none⟩ := World.cell?_of_block (h k hk hk2)
theorem Box3.froz {B : Nat} {W W' : World} (h : Box3 B W W') {k : Nat} (hk : B ≤ k) (hk2 : k < B + 3) (o : Nat) : W'.frozen? ⟨k, o, none⟩ = W.frozen? ⟨k, o, none⟩ := by
  simp only [World.frozen?, h k hk hk2]
/-- The iterator gives just xs, one by one; what lay before it is as it was, but for the cell of block B, which it may store into. -/
def GivesAll {α : Type} (F : Fence) (n : Nat) (P : Program) (g : Nat) (lb : Array Value) (B : Nat) (enc : α → Value) (xs : List α) (w : World) : Prop :=
  ∀ (l : Nat) (J Jx : List α → World → Prop) (W : World), Below w.heap.size w W → (∀ s V v, J s V → J s (V.setCell ⟨B, 0, none⟩ v)) →
    (∀ pre x W1, (pre ++ [x]) <+: xs → J pre W1 → YieldAt F (n - 1) P l #[enc x] W1 fun e W' => (e = .returned (.bool true) ∧ J (pre ++ [x]) W' ∧ Box3 B W1 W') ∨ (e = .returned (.bool false) ∧ Jx (pre ++ [x]) W')) →
    J [] W → CallsIn F n P g (#[.func (.yield l) #[] #[]] ++ lb) W fun e W' => (∃ v, e = .returned v) ∧ (J xs W' ∨ ∃ pre, pre <+: xs ∧ Jx pre W')
/-- What differs from W lies in block B, or from N on. -/
structure Aside (N B : Nat) (W W' : World) : Prop where
  os : W'.os = W.os
  tape : W'.tape = W.tape
  output : W'.output = W.output
  size : W.heap.size ≤ W'.heap.size
  block : ∀ k, k < N → k ≠ B → W'.heap[k]? = W.heap[k]?
theorem Aside.put {N B l : Nat} {W : World} (o : Obj) (hl : N ≤ l) : Aside N B W (W.putObj l o) := ⟨rfl, rfl, rfl, by simp, fun k hk _ => World.putObj_heap_other (by omega)⟩
theorem Aside.set {N B : Nat} {W : World} (v : Value) : Aside N B W (W.setCell ⟨B, 0, none⟩ v) := ⟨rfl, rfl, rfl, by simp [World.setCell], fun k _ hk => Below.heap_setCell W _ v k hk⟩
theorem Aside.alloc {N B : Nat} {W : World} (o : Obj) (hN : N ≤ W.heap.size) : Aside N B W (W.alloc o) := ⟨rfl, rfl, rfl, by simp, fun k hk _ => Below.heap_alloc W o k (by omega)⟩
theorem Aside.trans {N B : Nat} {X Y Z : World} (h : Aside N B X Y) (k : Aside N B Y Z) : Aside N B X Z := ⟨k.os.trans h.os, k.tape.trans h.tape, k.output.trans h.output, Nat.le_trans h.size k.size, fun i a b => (k.block i a b).trans (h.block i a b)⟩
def roundEnd {α : Type} (N B : Nat) (I Ix : List α → World → Prop) (xs : List α) (W : World) : Exit → Act → World → Prop
  | .normal, _, W' => KeepsFrom N W W' ∧ Box3 B W W' ∧ I xs W'
  | .ret, _, W' => KeepsFrom N W W' ∧ Ix xs W'
  | _, _, _ => False
/-- The law of the loop. -/
theorem wpIn_rangeFunc_cell {α : Type} {g : Operand} {ps : Array Tmp} {assign body : Code} {Q : Exit → Act → World → Prop} {a : Act} {w : World}
    (hro : F.round = none) (h1 : 1 ≤ n) {gf : Nat} {lb : Array Value} (hg : a.eval g = .func (.func gf) #[] lb) (hFg : F.fn gf) (eg : ∀ args w, (callFunc gf args).run P w = .ok (.enter gf args) w)
    {enc : α → Value} {xs : List α} {B : Nat} {w0 : World} (hseq : GivesAll F (n - 1) P gf lb B enc xs w0) (hb0 : Below w0.heap.size w0 w) (hB : B + 3 ≤ w.heap.size) (hps : 1 = ps.size)
    (I Ix : List α → World → Prop) (hI : ∀ s W W', I s W → Aside w.heap.size B W W' → I s W') (hIx : ∀ s W W', Ix s W → Aside w.heap.size B W W' → Ix s W') (h0 : I [] w) (a1 : α → Act)
    (hassign : ∀ (l : Nat) (x : α) (W : World) (K : Act → World → Prop), K (a1 x) W →
      assign.wpIn (F.inRound l) (n - 1 - 1) P (Exit.then K (fun _ _ _ => False)) { tmps := (ps.zip #[enc x]).foldl (fun t (p, v) => t.setIfInBounds p v) a.tmps, defers := [] } W)
    (hbody : ∀ (l : Nat) (pre : List α) (x : α) (W : World), (pre ++ [x]) <+: xs → I pre W → w.heap.size ≤ W.heap.size → body.wpIn (F.inRound l) (n - 1 - 1) P (roundEnd w.heap.size B I Ix (pre ++ [x]) W) (a1 x) W)
    (hdone : ∀ (D : Nat) (W : World), w.heap.size ≤ D → I xs W → W.heap[D]? = some (.deferred (some [])) → Q .normal { a with defers := { target := .collected D, args := #[] } :: a.defers } W)
    (hstop : ∀ (D : Nat) (pre : List α) (W : World), w.heap.size ≤ D → pre <+: xs → Ix pre W → W.heap[D]? = some (.deferred (some [])) → Code.ret.wpIn F n P Q { a with defers := { target := .collected D, args := #[] } :: a.defers } W) :
    (Code.rangeFunc g ps assign body).wpIn F n P Q a w := by
  refine wpIn_rangeFunc fun fn hfn => ?_
  rw [hro]
  generalize hN : w.heap.size = N at *
  -- the loop's record, in its states
  obtain ⟨R, hR⟩ : ∃ R : LoopState → Option Code → Loop, ∀ s p, R s p = { state := s, pending := p, fn, tmps := a.tmps, params := ps, assign, body, defers := N } := ⟨fun s p => { state := s, pending := p, fn, tmps := a.tmps, params := ps, assign, body, defers := N }, fun _ _ => rfl⟩
  obtain ⟨V, hV⟩ : ∃ V, V = (w.alloc (.deferred (some []))).alloc (.loop (R .ready none)) := ⟨_, rfl⟩
  have hVz : V.heap.size = N + 2 := by rw [hV]; simp [hN]
  have hVl : V.heap[N + 1]? = some (.loop (R .ready none)) := by
    have := World.alloc_heap_new (w.alloc (.deferred (some []))) (.loop (R .ready none))
    rw [World.size_alloc, hN] at this
    rw [hV]; exact this
  have hVd : V.heap[N]? = some (.deferred (some [])) := by
    have := World.alloc_heap_new w (.deferred (some []))
    rw [hN] at this
    rw [hV, Below.heap_alloc _ _ _ (by simp; omega)]; exact this
  have hVB : Below w0.heap.size w0 V := by
    rw [hV]
    exact hb0.trans ((((Below.refl _ w).alloc (Nat.le_refl _) _).alloc (by simp) _).mono hb0.size)
  have hVI : I [] V := by
    rw [hV]
    exact hI _ _ _ h0 ((Aside.alloc _ (by omega)).trans (Aside.alloc _ (by simp; omega)))
  refine ⟨N + 1, [{ target := .collected N, args := #[] }], V, { target := .fn (.func gf) lb, args := #[.func (.yield (N + 1)) #[] #[]] }, V, gf, #[.func (.yield (N + 1)) #[] #[]] ++ lb, V, ?_, ?_, ?_, ?_, fun _ => h1, ?_⟩
  · rw [run_enterLoop_outer, hN, hV, hR]
  · simp only [resolve, hg]
    simp [go_sem]
  · intro f' hf'
    simp [Target.leads] at hf'
    subst hf'
    exact hFg
  · simp [invoke, go_sem, eg]
  refine (hseq (N + 1) (fun s W => I s W ∧ W.heap[N + 1]? = some (.loop (R .ready none)) ∧ W.heap[N]? = some (.deferred (some []))) (fun s W => Ix s W ∧ W.heap[N + 1]? = some (.loop (R .done (some .ret))) ∧ W.heap[N]? = some (.deferred (some []))) V hVB
    (fun s W v h => ⟨hI _ _ _ h.1 (Aside.set v), (Below.heap_setCell W _ v _ (by simp; omega)).trans h.2.1, (Below.heap_setCell W _ v _ (by simp; omega)).trans h.2.2⟩) ?_ ⟨hVI, hVl, hVd⟩).mono ?_
  · rintro pre x W hpx ⟨hi, hl, hd⟩
    have hlt : N + 1 < W.heap.size := (Array.getElem?_eq_some_iff.1 hl).1
    have hy := run_yield (P := P) (args := #[enc x]) hl (by rw [hR]; exact hps)
    rw [hR] at hy
    have hbr := run_beginRound (P := P) hl (by rw [hR])
    obtain ⟨U, hU⟩ : ∃ U, U = W.putObj (N + 1) (.loop { R .ready none with state := .busy }) := ⟨_, rfl⟩
    rw [← hU] at hbr
    have hUl : U.heap[N + 1]? = some (.loop { R .ready none with state := .busy }) := by rw [hU]; exact World.putObj_heap_same hlt
    have hUd : U.heap[N]? = some (.deferred (some [])) := by rw [hU]; exact (World.putObj_heap_other (by omega)).trans hd
    have hUb : Box3 B W U := by rw [hU]; exact fun k _ h2 => World.putObj_heap_other (by omega)
    have hUi : I pre U := by rw [hU]; exact hI _ _ _ hi (Aside.put _ (by omega))
    have hUz : N ≤ U.heap.size := by rw [hU]; simp; omega
    refine ⟨fn, _, assign, body, hy, roundIn_of_wpIn hfn (hassign _ x W _ ⟨U, hbr, wpIn_mono (hbody (N + 1) pre x U hpx hUi hUz) ?_⟩)⟩
    rintro e b X hp
    have last : ∀ (j : Option Code), KeepsFrom N U X → (Instr.endRound (N + 1) j).run P X = .ok (.bool j.isNone) (X.putObj (N + 1) (.loop (R (if j.isNone then .ready else .done) j))) ∧
        (X.putObj (N + 1) (.loop (R (if j.isNone then .ready else .done) j))).heap[N + 1]? = some (.loop (R (if j.isNone then .ready else .done) j)) ∧ (X.putObj (N + 1) (.loop (R (if j.isNone then .ready else .done) j))).heap[N]? = some (.deferred (some [])) := fun j hk => by
      have h3 := hk.same _ _ (by omega) hUl rfl
      have h4 := run_endRound (P := P) j h3
      simp only [hR] at h4 ⊢
      exact ⟨h4, World.putObj_heap_same (Array.getElem?_eq_some_iff.1 h3).1, (World.putObj_heap_other (by omega)).trans (hk.same _ _ (Nat.le_refl _) hUd rfl)⟩
    cases e with
    | normal =>
      obtain ⟨hk, hb, hi2⟩ := hp
      obtain ⟨hr, hl2, hd2⟩ := last none hk
      exact ⟨_, _, hr, .inl ⟨rfl, ⟨hI _ _ _ hi2 (Aside.put _ (by omega)), hl2, hd2⟩, (hUb.trans hb).trans fun k _ h2 => World.putObj_heap_other (by omega)⟩⟩
    | ret =>
      obtain ⟨hk, hi2⟩ := hp
      obtain ⟨hr, hl2, hd2⟩ := last (some .ret) hk
      exact ⟨_, _, hr, .inr ⟨rfl, hIx _ _ _ hi2 (Aside.put _ (by omega)), hl2, hd2⟩⟩
    | exit id => exact hp.elim
    | goto t => exact hp.elim
    | panic ch => exact hp.elim
    | outgrown => exact hp.elim
  · rintro e X ⟨⟨v, rfl⟩, hor⟩
    rcases hor with ⟨hi, hl, hd⟩ | ⟨pre, hpre, hi, hl, hd⟩
    · have he := run_endLoop (P := P) hl (by rw [hR]; simp)
      rw [hR] at he
      exact ⟨none, _, he, hdone N _ (Nat.le_refl _) (hI _ _ _ hi (Aside.put _ (by omega))) ((World.putObj_heap_other (by omega)).trans hd)⟩
    · have he := run_endLoop (P := P) hl (by rw [hR]; simp)
      rw [hR] at he
      exact ⟨some .ret, _, he, hstop N pre _ (Nat.le_refl _) hpre (hIx _ _ _ hi (Aside.put _ (by omega))) ((World.putObj_heap_other (by omega)).trans hd)⟩
end Go.Proofs.YtjdbedoabcbeeaaGreatDoor
/- strings.SplitSeq at a separator of one byte. -/
namespace Go.Proofs.YtjdbedoabcbeeaaGreatDoor
open Go.RowKit Go.Shelf
set_option linter.unusedVariables false
set_option linter.unusedSimpArgs false
attribute [local go_sem] Oper.semAt_some

/-- A text, parted by a byte. -/
def splitL (c : UInt8) : List UInt8 → List (List UInt8)
  | [] => [[]]
  | x :: t => if x = c then [] :: splitL c t else match splitL c t with
    | [] => [[x]]
    | p :: ps => (x :: p) :: ps
theorem splitL_ne (c : UInt8) (l : List UInt8) : splitL c l ≠ [] := by
  cases l with
  | nil => simp [splitL]
  | cons x t =>
    simp only [splitL]
    split
    · simp
    · split <;> simp
theorem splitL_none {c : UInt8} : ∀ {l : List UInt8}, Lib.indexByte l c = -1 → splitL c l = [l] := by
  intro l
  induction l with
  | nil => intro _; rfl
  | cons x t ih =>
    intro h
    simp only [Lib.indexByte] at h
    by_cases e : x = c
    · subst e
      simp at h
    · have e2 : (x == c) = false := by rw [beq_eq_false_iff_ne]; exact e
      rw [e2] at h
      have hge := Lib.indexByte_ge t c
      by_cases h1 : Lib.indexByte t c = -1
      · simp only [splitL, if_neg e, ih h1]
      · have h3 : (Lib.indexByte t c == -1) = false := by rw [beq_eq_false_iff_ne]; exact h1
        rw [h3] at h
        simp only [Bool.false_eq_true, if_false] at h
        omega
theorem splitL_some {c : UInt8} : ∀ {l : List UInt8} {o : Nat}, Lib.indexByte l c = (o : Int) → splitL c l = l.take o :: splitL c (l.drop (o + 1)) := by
  intro l
  induction l with
  | nil => intro o h; simp only [Lib.indexByte] at h; omega
  | cons x t ih =>
    intro o h
    simp only [Lib.indexByte] at h
    by_cases e : x = c
    · subst e
      simp at h
      obtain rfl : o = 0 := by omega
      simp [splitL]
    · have e2 : (x == c) = false := by rw [beq_eq_false_iff_ne]; exact e
      rw [e2] at h
      have hge := Lib.indexByte_ge t c
      by_cases h1 : Lib.indexByte t c = -1
      · rw [h1] at h
        simp at h
      · have h3 : (Lib.indexByte t c == -1) = false := by rw [beq_eq_false_iff_ne]; exact h1
        rw [h3] at h
        simp at h
        obtain ⟨o', ho'⟩ := Int.eq_ofNat_of_zero_le (show 0 ≤ Lib.indexByte t c by omega)
        obtain rfl : o = o' + 1 := by omega
        simp only [splitL, if_neg e, ih ho', List.take_succ_cons, List.drop_succ_cons]
def bytesOf (l : List UInt8) : ByteArray := ⟨l.toArray⟩
theorem bytesOf_data (s : ByteArray) : bytesOf s.data.toList = s := rfl
def splitS (c : UInt8) (s : ByteArray) : List ByteArray := (splitL c s.data.toList).map bytesOf
theorem splitS_none {c : UInt8} {s : ByteArray} (h : Lib.indexByte s.data.toList c = -1) : splitS c s = [s] := by
  unfold splitS
  rw [splitL_none h]
  rfl
theorem extract_all (s : ByteArray) (k : Nat) : bytesOf (s.data.toList.drop k) = s.extract k s.size := by
  have := Lib.extract_to_end s k
  rw [← this]
  rfl
theorem extract_head (s : ByteArray) (k : Nat) : bytesOf (s.data.toList.take k) = s.extract 0 k := by
  have := Lib.extract_data s 0 k
  rw [List.drop_zero, Nat.sub_zero] at this
  rw [← this]
  rfl
theorem splitS_some {c : UInt8} {s : ByteArray} {o : Nat} (h : Lib.indexByte s.data.toList c = (o : Int)) : splitS c s = s.extract 0 o :: splitS c (s.extract (o + 1) s.size) := by
  unfold splitS
  rw [splitL_some h, List.map_cons, extract_head, Lib.extract_to_end]
theorem index_lt {c : UInt8} {s : ByteArray} {o : Nat} (h : Lib.indexByte s.data.toList c = (o : Int)) : o < s.size := by
  have h1 := (Lib.indexByte_some h).1
  have := (List.getElem?_eq_some_iff.1 h1).1
  simpa using this
theorem cut_str_hi (s : ByteArray) (k : Nat) (h : k ≤ s.size) (w : World) : (Instr.sliceAt 9 (.string s) none (some (.int .i64 (k : Int))) none).run Tryz.prog w = .ok (.string (s.extract 0 k)) w := by
  simp [go_sem]
  intro h2
  omega
theorem cut_str_lo (s : ByteArray) (k : Nat) (h : k ≤ s.size) (w : World) : (Instr.sliceAt 9 (.string s) (some (.int .i64 (k : Int))) none none).run Tryz.prog w = .ok (.string (s.extract k s.size)) w := by
  simp [go_sem]
  intro h2
  omega
/-- How much is left in the iterator's own cell. -/
def leftAt (B : Nat) (w : World) : Nat := match w.cell? ⟨B, 0, none⟩ with
  | some (.string s) => s.size + 1
  | _ => 0
theorem leftAt_eq {B : Nat} {w : World} {s : ByteArray} (h : w.cell? ⟨B, 0, none⟩ = some (.string s)) : leftAt B w = s.size + 1 := by unfold leftAt; rw [h]
set_option maxRecDepth 100000 in
set_option maxHeartbeats 4000000 in
theorem split_gives (F : Fence) (n : Nat) (hF : F = Fence.wide) (hn : 1 ≤ n) (B : Nat) (s : ByteArray) (c : UInt8) (hs : s.size ≤ 4611686018427387904) (w : World) (hb : B + 2 < w.heap.size)
    (c0 : w.cell? ⟨B, 0, none⟩ = some (.string s)) (f0 : w.frozen? ⟨B, 0, none⟩ = false) (c1 : w.cell? ⟨B + 1, 0, none⟩ = some (.string ⟨#[c]⟩)) (c2 : w.cell? ⟨B + 1 + 1, 0, none⟩ = some (.int .i64 0)) :
    GivesAll F n Tryz.prog 93 #[.pointer (some ⟨B + 1, 0, none⟩), .pointer (some ⟨B, 0, none⟩), .pointer (some ⟨B + 1 + 1, 0, none⟩)] B Value.string (splitS c s) w := by
  subst hF
  intro l J Jx W hW hJ hY h0
  have d0 := (hW.cell (p := ⟨B, 0, none⟩) (by simp; omega)).trans c0
  have d1 := (hW.cell (p := ⟨B + 1, 0, none⟩) (by simp; omega)).trans c1
  have d2 := (hW.cell (p := ⟨B + 1 + 1, 0, none⟩) (by simp; omega)).trans c2
  have e0 := (hW.frozen (p := ⟨B, 0, none⟩) (by simp; omega)).trans f0
  clear c0 c1 c2 f0
  have HY := Lib.hid hY; have HJ := Lib.hid hJ
  clear hY hJ
  refine callsIn_of_wp Tryz.func93 rfl trivial ?_ rfl
  simp only [Tryz.ntmps93, List.size_toArray, List.length_cons, List.length_nil, Nat.reduceAdd, Nat.reduceSub, Array.replicate_succ, Array.replicate_zero, List.push_toArray, List.append_toArray, List.nil_append, List.cons_append]
  gi_wp2
  gi_loopw [] (fun wr => ∃ (pre : List ByteArray) (cur : ByteArray), pre ++ splitS c cur = splitS c s ∧ cur.size ≤ s.size ∧ J pre wr ∧ wr.cell? ⟨B, 0, none⟩ = some (.string cur) ∧ wr.frozen? ⟨B, 0, none⟩ = false ∧ wr.cell? ⟨B + 1, 0, none⟩ = some (.string ⟨#[c]⟩) ∧ wr.cell? ⟨B + 1 + 1, 0, none⟩ = some (.int .i64 0)) (fun wr => leftAt B wr)
  case atStart => exact ⟨[], s, rfl, Nat.le_refl _, h0, d0, e0, d1, d2⟩
  case round =>
    clear d0 d1 d2 e0
    obtain ⟨pre, cur, hpc, hcs, hj, d0, e0, d1, d2⟩ := hrel
    have hidx := Tryz.strings_Index_one cur c wr
    have hge := Lib.indexByte_ge cur.data.toList c
    by_cases hno : Lib.indexByte cur.data.toList c = -1
    · have hsp := splitS_none hno
      rw [hno] at hidx
      rw [hsp] at hpc
      obtain ⟨fn, tmps, assign, body, hy, hR⟩ := HY.out pre cur wr ⟨[], by rw [List.append_nil]; exact hpc⟩ hj
      have HIX := Lib.hid hidx; have HPC := Lib.hid hpc; have HR := Lib.hid hR
      clear hidx hpc hsp hge hno hR
      gi_wp2_with (refine ⟨trivial, ?_⟩; gi_at_call 95; refine (callsIn_wide.2 HIX.out).mono ?_; rintro e wx ⟨rfl, rfl⟩)
      refine HR.out.mono ?_
      rintro e W3 (⟨rfl, hJ3, hk3⟩ | ⟨rfl, hJx3⟩)
      · gi_wp2
        go_end0
        exact ⟨⟨_, rfl⟩, .inl (by rw [← HPC.out]; exact hJ3)⟩
      · gi_wp2
        go_end0
        exact ⟨⟨_, rfl⟩, .inr ⟨pre ++ [cur], by rw [HPC.out]; exact List.prefix_refl _, hJx3⟩⟩
    · obtain ⟨o, ho⟩ := Int.eq_ofNat_of_zero_le (show 0 ≤ Lib.indexByte cur.data.toList c by omega)
      have hsp := splitS_some ho
      have holt := index_lt ho
      rw [ho] at hidx
      rw [hsp] at hpc
      have hhi := fun w => cut_str_hi cur o (by omega) w
      have hlo : ∀ w : World, (Instr.sliceAt 9 (.string cur) (some (.int .i64 ((o : Int) + 1))) none none).run Tryz.prog w = .ok (.string (cur.extract (o + 1) cur.size)) w := fun w => by
        have := cut_str_lo cur (o + 1) (by omega) w
        rw [show ((o + 1 : Nat) : Int) = (o : Int) + 1 by simp] at this
        exact this
      have hsz : (cur.extract (o + 1) cur.size).size < cur.size := by simp [ByteArray.size_extract]; omega
      have hgen : (cur.extract 0 o).size ≤ cur.size := by simp [ByteArray.size_extract]; omega
      generalize cur.extract 0 o = frag at *
      generalize cur.extract (o + 1) cur.size = rest at *
      obtain ⟨fn, tmps, assign, body, hy, hR⟩ := HY.out pre frag wr ⟨splitS c rest, by rw [← hpc]; simp⟩ hj
      have hla := leftAt_eq d0
      have HIX := Lib.hid hidx; have HPC := Lib.hid hpc; have HR := Lib.hid hR; have HLA := Lib.hid hla
      clear hidx hpc hsp hge hno hR ho hla
      gi_wp2_with (refine ⟨trivial, ?_⟩; gi_at_call 95; refine (callsIn_wide.2 HIX.out).mono ?_; rintro e wx ⟨rfl, rfl⟩)
      refine HR.out.mono ?_
      rintro e W3 (⟨rfl, hJ3, hk3⟩ | ⟨rfl, hJx3⟩)
      · have d0' := (hk3.cell (k := B) (by omega) (by omega) 0).trans d0
        have d1' := (hk3.cell (k := B + 1) (by omega) (by omega) 0).trans d1
        have d2' := (hk3.cell (k := B + 1 + 1) (by omega) (by omega) 0).trans d2
        have e0' := (hk3.froz (k := B) (by omega) (by omega) 0).trans e0
        clear d0 d1 d2 e0 hk3
        gi_wp2
        go_roundw
        case rel => exact ⟨pre ++ [frag], rest, by rw [← HPC.out]; simp, by omega, HJ.out _ _ _ hJ3, by first | (go_simp; done) | exact World.cell?_setCell_same' _ _ _ (by rw [d0']; rfl), by rw [World.frozen?_setCell]; exact e0', by go_simp, by go_simp⟩
        case measure => rw [HLA.out, leftAt_eq (s := rest) (World.cell?_setCell_same' _ _ _ (by rw [d0']; rfl))]; omega
      · gi_wp2
        refine bodyPost_ret (results_none rfl _ _ _) rfl ?_
        exact ⟨⟨_, rfl⟩, .inr ⟨pre ++ [frag], ⟨splitS c rest, by rw [← HPC.out]; simp⟩, hJx3⟩⟩
end Go.Proofs.YtjdbedoabcbeeaaGreatDoor
/- Package nodeset: digit, Text. -/
namespace Go.Proofs.YtjdbedoabcbeeaaGreatDoor
open Go.RowKit
set_option linter.unusedVariables false
set_option linter.unusedSimpArgs false
attribute [local go_sem] World.cell?_alloc_lt

def digB (n : Nat) : ByteArray := ⟨#[UInt8.ofNat (48 + n)]⟩
set_option maxRecDepth 100000 in
theorem dig_conv : ∀ n : Nat, n < 8 → ∀ w : World, (convert 21 9 (.int .i32 (48 + (n : Int)))).run Tryz.prog w = .ok (.string (digB n)) w := by
  intro n hn
  rcases (by omega : n = 0 ∨ n = 1 ∨ n = 2 ∨ n = 3 ∨ n = 4 ∨ n = 5 ∨ n = 6 ∨ n = 7) with rfl | rfl | rfl | rfl | rfl | rfl | rfl | rfl <;> (intro w; rfl)
def bitN (s i : Nat) : Bool := decide (i < 8) && decide (s / 2 ^ i % 2 = 1)
theorem has_bit (s i : Nat) : hasN s (i : Int) = bitN s i := by
  unfold hasN bitN
  rw [Int.toNat_natCast]
  congr 1
  by_cases h : i < 8
  · rw [decide_eq_true (show (0 : Int) ≤ (i : Int) ∧ (i : Int) < 8 by omega), decide_eq_true h]
  · rw [decide_eq_false (show ¬ ((0 : Int) ≤ (i : Int) ∧ (i : Int) < 8) by omega), decide_eq_false h]
def lastF (s : Nat) : Nat → Nat → Nat
  | 0, i => i
  | f + 1, i => if bitN s (i + 1) = true then lastF s f (i + 1) else i
def lastN (s i : Nat) : Nat := lastF s 8 i
def restF (s : Nat) : Nat → Nat → List (Nat × Nat)
  | 0, _ => []
  | f + 1, n => if n < 8 then (if bitN s n = true then (if lastN s n < n + 2 then (n, n) :: restF s f (n + 1) else (n, lastN s n) :: restF s f (lastN s n + 1)) else restF s f (n + 1)) else []
def restN (s n : Nat) : List (Nat × Nat) := restF s 9 n
def partsN (s : Nat) : List (Nat × Nat) := restN s 0
theorem last_step : ∀ s : Nat, s < 256 → ∀ i : Nat, i < 8 → bitN s (i + 1) = true → lastN s (i + 1) = lastN s i ∧ i + 1 < 8 := by decide +kernel
theorem last_stop : ∀ s : Nat, s < 256 → ∀ i : Nat, i < 8 → bitN s (i + 1) = false → lastN s i = i := by decide +kernel
theorem rest_no : ∀ s : Nat, s < 256 → ∀ n : Nat, n < 8 → bitN s n = false → restN s (n + 1) = restN s n := by decide +kernel
theorem rest_one : ∀ s : Nat, s < 256 → ∀ n : Nat, n < 8 → (bitN s n && decide (lastN s n < n + 2)) = true → restN s n = (n, n) :: restN s (n + 1) := by decide +kernel
theorem rest_two : ∀ s : Nat, s < 256 → ∀ n : Nat, n < 8 → (bitN s n && decide (n + 2 ≤ lastN s n)) = true → restN s n = (n, lastN s n) :: restN s (lastN s n + 1) ∧ lastN s n < 8 := by decide +kernel
theorem rest_end : ∀ s : Nat, s < 256 → restN s 8 = [] := by decide +kernel
theorem parts_len : ∀ s : Nat, s < 256 → (partsN s).length ≤ 8 := by decide +kernel
def partB (p : Nat × Nat) : ByteArray := if p.1 = p.2 then digB p.1 else digB p.1 ++ ⟨#[45]⟩ ++ digB p.2
def partV (p : Nat × Nat) : Value := .string (partB p)
/-- A set's text. -/
def textB (s : Nat) : ByteArray := if (partsN s).length = 0 then ⟨#[110, 111, 110, 101]⟩ else ⟨(Lib.join (((partsN s).map partB).map (·.data.toList)) [44]).toArray⟩
theorem text_len : ∀ s : Nat, s < 256 → (Lib.join (((partsN s).map partB).map (·.data.toList)) [44]).length ≤ 60 := by decide +kernel
theorem info_str : (Tryz.prog.info? 9).map (fun i => (i.zero, i.size, i.bytes)) = some (some (.string ByteArray.empty), 1, 16) := by kernel_rfl
end Go.Proofs.YtjdbedoabcbeeaaGreatDoor
/- The reference of layer 1: its small functions. -/
namespace Go.Proofs.YtjdbedoabcbeeaaGreatDoor
open Go.RowKit
set_option linter.unusedVariables false
set_option linter.unusedSimpArgs false
attribute [local go_sem] World.cell?_alloc_lt

def nodesTo (s i : Nat) : List Nat := (List.range i).filter (fun j => s / 2 ^ j % 2 = 1)
theorem nodesTo_succ (s i : Nat) : nodesTo s (i + 1) = if s / 2 ^ i % 2 = 1 then nodesTo s i ++ [i] else nodesTo s i := by
  unfold nodesTo
  rw [List.range_succ, List.filter_append]
  by_cases h : s / 2 ^ i % 2 = 1 <;> simp [h]
theorem nodesTo_len (s i : Nat) : (nodesTo s i).length ≤ i := by
  have := List.length_filter_le (fun j => decide (s / 2 ^ j % 2 = 1)) (List.range i)
  simpa [nodesTo] using this
end Go.Proofs.YtjdbedoabcbeeaaGreatDoor
/- nodeset.Of, Count; the statements' own sets. -/
namespace Go.Proofs.YtjdbedoabcbeeaaGreatDoor
open Go.RowKit
set_option linter.unusedVariables false
set_option linter.unusedSimpArgs false
attribute [local go_sem] World.cell?_alloc_lt

theorem ints_one (xs : List Int) : ∀ u ∈ xs.map (Value.int .i64), u.oneCell' = true := by
  intro u hu
  obtain ⟨z, _, rfl⟩ := List.mem_map.1 hu
  rfl
/-- A node more. -/
def orN (s n : Nat) : Nat := s ||| 2 ^ n
def okN (n : Int) : Bool := decide (0 ≤ n ∧ n < 8)
/-- The set of the first so many; none: one is none. -/
def setK (l : List Int) : Nat → Option Nat
  | 0 => some 0
  | k + 1 => match setK l k with
    | none => none
    | some s => if okN (l.getD k 0) = true then some (orN s (l.getD k 0).toNat) else none
theorem or_lt : ∀ s : Nat, s < 256 → ∀ n : Nat, n < 8 → orN s n < 256 := by decide +kernel
theorem or_bits : ∀ s : Nat, s < 256 → ∀ n : Nat, n < 8 → bits BinOp.or IntKind.u8 (s : Int) ((2 ^ n : Int) % 256) = (orN s n : Int) := by decide +kernel
theorem setK_lt (l : List Int) (k s : Nat) (h : setK l k = some s) : s < 256 := by
  induction k generalizing s with
  | zero => simp [setK] at h; omega
  | succ k ih =>
    simp only [setK] at h
    split at h
    · cases h
    · rename_i t ht
      split at h
      · rename_i hn
        injection h with h
        subst h
        have := of_decide_eq_true hn
        exact or_lt t (ih t ht) _ (by omega)
      · cases h
theorem setK_none (l : List Int) (k m : Nat) (h : setK l k = none) (hk : k ≤ m) : setK l m = none := by
  induction m with
  | zero =>
    obtain rfl : k = 0 := by omega
    exact h
  | succ m ih =>
    by_cases e : k = m + 1
    · subst e; exact h
    · simp only [setK, ih (by omega)]
def setV (o : Option Nat) : Value := match o with
  | some s => .tuple #[.int .u8 (s : Int), .int .i64 0]
  | none => .tuple #[.int .u8 0, .int .i64 10]
end Go.Proofs.YtjdbedoabcbeeaaGreatDoor
