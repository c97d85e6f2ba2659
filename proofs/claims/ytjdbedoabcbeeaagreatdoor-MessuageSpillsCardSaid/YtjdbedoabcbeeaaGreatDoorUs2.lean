/- Parts of the proof: Map. -/
import Derived.Test.YtjdbedoabcbeeaaGreatDoorUs1
import Derived.ChangeMaps4
import Derived.Carry
/- Maps that the call itself made, as lists of keys and values: what each operation on them comes to. -/
namespace Go.Proofs.YtjdbedoabcbeeaaGreatDoor
open Go.RowKit
set_option linter.unusedVariables false
set_option linter.unusedSimpArgs false

/-- Keys of a kind: how a key is a value, and when two are one. -/
structure Keys (α : Type) where
  val : α → Value
  kind : TypeDesc
  same : ∀ a b, ∃ h : Decidable (a = b), Instr.sameNow kind (val a) (val b) = some (@decide (a = b) h)
  bits : ∀ a n, Instr.sameBits n (val a) (val a) = true
  check : ∀ (P : Program) (K : TypeId) (w : World) (e : Bool) (n : Nat) (a : α), P.underlying K = some kind → (Instr.checkKey e (n + 1) K (val a)).run P w = .ok () w
def intKeys : Keys Int where
  val x := .int .i64 x
  kind := .int .i64
  same a b := ⟨inferInstance, by
    simp only [Instr.sameNow, if_true]
    congr 1⟩
  bits a n := by cases n <;> simp [Instr.sameBits]
  check P K w e n a h := by simp [Instr.checkKey, run_underlying h]
theorem ba_beq (a b : ByteArray) : (a == b) = decide (a = b) := by
  rcases a with ⟨a⟩
  rcases b with ⟨b⟩
  have : ((ByteArray.mk a) == (ByteArray.mk b)) = (a == b) := rfl
  rw [this]
  by_cases h : a = b
  · subst h; simp
  · have h2 : ¬ ByteArray.mk a = ByteArray.mk b := by intro e; injection e with e; exact h e
    rw [decide_eq_false h2, beq_eq_false_iff_ne]
    exact h
def strKeys : Keys ByteArray where
  val x := .string x
  kind := .string
  same a b := ⟨inferInstance, by
    simp only [Instr.sameNow, ba_beq]⟩
  bits a n := by cases n <;> simp [Instr.sameBits, ba_beq]
  check P K w e n a h := by simp [Instr.checkKey, run_underlying h]

section
variable {α : Type} (κ : Keys α)
/-- Block b is a map that holds just these keys and values. -/
structure MapAt (w : World) (b : Nat) (m : List (α × Value)) : Prop where
  ex : ∃ es clock, w.heap[b]? = some (.map es clock) ∧ es.toList.map (fun e => (e.key, e.val)) = m.map (fun p => (κ.val p.1, p.2)) ∧ (es.toList.map (·.born)).Nodup ∧ ∀ e ∈ es.toList, e.born < clock
  nd : (m.map (·.1)).Nodup
variable {κ}
theorem MapAt.lt {w : World} {b : Nat} {m : List (α × Value)} (h : MapAt κ w b m) : b < w.heap.size := by
  obtain ⟨es, clock, hb, _⟩ := h.ex
  exact (Array.getElem?_eq_some_iff.1 hb).1
theorem MapAt.of_block {w w' : World} {b : Nat} {m : List (α × Value)} (h : MapAt κ w b m) (hb : w'.heap[b]? = w.heap[b]?) : MapAt κ w' b m := by
  obtain ⟨es, clock, h1, h2⟩ := h.ex
  exact ⟨⟨es, clock, hb.trans h1, h2⟩, h.nd⟩
theorem MapAt.ch {S : List Nat} {w w' : World} {b : Nat} {m : List (α × Value)} (h : MapAt κ w b m) (k : Ch S w w') (hb : b ∉ S) : MapAt κ w' b m := h.of_block (k.block b h.lt hb)
theorem MapAt.below {w w' : World} {b : Nat} {m : List (α × Value)} (h : MapAt κ w b m) (k : Below w.heap.size w w') : MapAt κ w' b m := h.of_block (k.block b h.lt)
theorem MapAt.new (w : World) : MapAt κ (w.alloc (.map #[] 0)) w.heap.size ([] : List (α × Value)) :=
  ⟨⟨#[], 0, by show (w.heap.push _)[w.heap.size]? = _; simp, by simp, by simp, by simp⟩, by simp⟩
theorem setBlock_ch (w : World) (b : Nat) (o : Obj) : Ch [b] w (ChangeMaps.setBlock w b o) :=
  ⟨rfl, rfl, rfl, by simp [ChangeMaps.setBlock], fun k hk hn => by
    have : b ≠ k := fun e => hn (by simp [e])
    simp [ChangeMaps.setBlock, Array.getElem?_setIfInBounds, this]⟩
theorem setBlock_at {w : World} {b : Nat} (o : Obj) (h : b < w.heap.size) : (ChangeMaps.setBlock w b o).heap[b]? = some o := by
  simp [ChangeMaps.setBlock, Array.getElem?_setIfInBounds, h]

theorem run_getMap {P : Program} {w : World} {b : Nat} {es : Array MapEntry} {clock : Nat} (hb : w.heap[b]? = some (.map es clock)) : (getObj b).run P w = .ok (.map es clock) w := by
  simp [getObj, Sem.run, hb]
theorem run_setMap {P : Program} {w : World} {b : Nat} {o o' : Obj} (hb : w.heap[b]? = some o) (ho : ∀ c e f, o ≠ .cells c e f) : (setObj b o').run P w = .ok () (ChangeMaps.setBlock w b o') := by
  cases o <;> first | (exact absurd rfl (ho _ _ _)) | simp [setObj, Sem.run, hb, ChangeMaps.setBlock]
theorem keyStays {P : Program} {w : World} {α : Type} (κ : Keys α) (a : α) : (Instr.keyThatStays (κ.val a) (κ.val a)).run P w = .ok (κ.val a) w := by
  simp [Instr.keyThatStays, κ.bits a 10000]
theorem MapAt.run_len {P : Program} {w : World} {b : Nat} {m : List (α × Value)} {T K E : TypeId} (h : MapAt κ w b m) (hT : P.underlying T = some (.map K E)) (ty : TypeId) : (Builtin.len_ #[T] ty #[.map (some b)]).run P w = .ok (.int .i64 m.length) w := by
  obtain ⟨es, clock, hb, he, hnd, hbc⟩ := h.ex
  have hgo := run_getMap (P := P) hb
  have hlen : es.toList.length = m.length := by have := congrArg List.length he; simpa using this
  have hl : es.size = m.length := by simpa using hlen
  simp [Builtin.len_, run_underlying hT, hgo, goInt, hl]
end

section
variable {α : Type} [DecidableEq α] (κ : Keys α)
/-- Where a key stands. -/
def lookIdx (a : α) : List (α × Value) → Nat → Option (Nat × Value)
  | [], _ => none
  | (k, v) :: r, n => if a = k then some (n, v) else lookIdx a r (n + 1)
variable {β : Type}
def mget (m : List (α × β)) (a : α) : Option β := (m.find? (fun p => p.1 = a)).map (·.2)
def mput (m : List (α × β)) (a : α) (v : β) : List (α × β) := if (mget m a).isSome then m.map (fun p => if p.1 = a then (a, v) else p) else m ++ [(a, v)]
def mdel (m : List (α × β)) (a : α) : List (α × β) := m.filter (fun p => p.1 ≠ a)

theorem mget_nil (a : α) : mget ([] : List (α × β)) a = none := rfl
theorem mget_cons (k : α) (v : β) (r : List (α × β)) (a : α) : mget ((k, v) :: r) a = if k = a then some v else mget r a := by
  unfold mget
  by_cases h : k = a <;> simp [List.find?_cons, h]
theorem mget_append (m r : List (α × β)) (a : α) : mget (m ++ r) a = (mget m a).or (mget r a) := by
  unfold mget
  rw [List.find?_append]
  cases m.find? (fun p => p.1 = a) <;> simp
theorem mget_map_put (m : List (α × β)) (a b : α) (v : β) : mget (m.map (fun p => if p.1 = a then (a, v) else p)) b = if a = b then (mget m a).map (fun _ => v) else mget m b := by
  induction m with
  | nil => simp [mget_nil]
  | cons p r ih =>
    obtain ⟨k, u⟩ := p
    rw [List.map_cons]
    by_cases hk : k = a
    · subst hk
      simp only [if_true, mget_cons, ih]
      by_cases h : k = b <;> simp [h]
    · simp only [hk, if_false, mget_cons, ih]
      by_cases h : a = b
      · subst h; simp [hk]
      · simp [h]
theorem mget_put (m : List (α × β)) (a b : α) (v : β) : mget (mput m a v) b = if a = b then some v else mget m b := by
  unfold mput
  by_cases h : (mget m a).isSome
  · rw [if_pos h, mget_map_put]
    obtain ⟨u, hu⟩ := Option.isSome_iff_exists.1 h
    by_cases e : a = b <;> simp [e, hu]
    subst e; simp [hu]
  · rw [if_neg h, mget_append, mget_cons, mget_nil]
    by_cases e : a = b
    · subst e
      have : mget m a = none := by simpa using h
      simp [this]
    · simp [e]
theorem mget_del (m : List (α × β)) (a b : α) : mget (mdel m a) b = if a = b then none else mget m b := by
  unfold mdel
  induction m with
  | nil => simp [mget_nil]
  | cons p r ih =>
    obtain ⟨k, u⟩ := p
    rw [List.filter_cons]
    by_cases hk : k = a
    · subst hk
      simp only [ne_eq, not_true_eq_false, decide_false, Bool.false_eq_true, if_false, ih, mget_cons]
      by_cases h : k = b
      · simp [h]
      · simp [h]
    · simp only [ne_eq, hk, not_false_eq_true, decide_true, if_true, mget_cons, ih]
      by_cases h : a = b
      · subst h; simp [hk]
      · simp [h]
theorem length_mput (m : List (α × β)) (a : α) (v : β) : (mput m a v).length = if (mget m a).isSome then m.length else m.length + 1 := by
  unfold mput
  split <;> simp
theorem keys_mput (m : List (α × β)) (a : α) (v : β) (h : (m.map (·.1)).Nodup) : ((mput m a v).map (·.1)).Nodup := by
  unfold mput
  split
  · have : (m.map (fun p => if p.1 = a then (a, v) else p)).map (·.1) = m.map (·.1) := by
      rw [List.map_map]
      apply List.map_congr_left
      intro p _
      simp only [Function.comp]
      split
      · rename_i e; exact e.symm
      · rfl
    rw [this]; exact h
  · rename_i hn
    rw [List.map_append, List.nodup_append]
    refine ⟨h, by simp, ?_⟩
    intro x hx y hy e
    simp at hy
    subst hy; subst e
    obtain ⟨p, hp, rfl⟩ := List.mem_map.1 hx
    apply hn
    unfold mget
    rw [Option.isSome_map, List.find?_isSome]
    exact ⟨p, hp, by simp⟩
theorem keys_mdel (m : List (α × β)) (a : α) (h : (m.map (·.1)).Nodup) : ((mdel m a).map (·.1)).Nodup := by
  unfold mdel
  exact h.sublist ((List.filter_sublist).map _)
theorem length_mdel (m : List (α × β)) (a : α) (h : (m.map (·.1)).Nodup) : (mdel m a).length = if (mget m a).isSome then m.length - 1 else m.length := by
  unfold mdel
  induction m with
  | nil => simp [mget_nil]
  | cons p r ih =>
    obtain ⟨k, u⟩ := p
    rw [List.map_cons, List.nodup_cons] at h
    rw [List.filter_cons]
    have ih := ih h.2
    by_cases hk : k = a
    · subst hk
      have hnone : mget r k = none := by
        unfold mget
        rw [Option.map_eq_none_iff, List.find?_eq_none]
        intro p hp e
        simp at e
        exact h.1 (List.mem_map.2 ⟨p, hp, e⟩)
      simp only [hnone, Option.isSome_none, Bool.false_eq_true, if_false] at ih
      rw [if_neg (by simp), ih, mget_cons, if_pos rfl]
      simp
    · simp only [ne_eq, hk, not_false_eq_true, decide_true, if_true, List.length_cons, mget_cons, if_false]
      rw [ih]
      split
      · rename_i hs
        have : 0 < r.length := by
          rcases r with _ | ⟨q, r⟩
          · simp [mget_nil] at hs
          · simp
        omega
      · rfl
theorem mget_over {γ : Type} (f : β → γ) (m : List (α × β)) (a : α) : mget (m.map (fun p => (p.1, f p.2))) a = (mget m a).map f := by
  induction m with
  | nil => rfl
  | cons p r ih =>
    obtain ⟨k, v⟩ := p
    rw [List.map_cons, mget_cons, mget_cons, ih]
    split <;> rfl
theorem mput_over {γ : Type} (f : β → γ) (m : List (α × β)) (a : α) (v : β) : mput (m.map (fun p => (p.1, f p.2))) a (f v) = (mput m a v).map (fun p => (p.1, f p.2)) := by
  unfold mput
  rw [mget_over, Option.isSome_map]
  split
  · rw [List.map_map, List.map_map]
    apply List.map_congr_left
    intro p _
    simp only [Function.comp]
    split <;> rfl
  · rw [List.map_append]; rfl
theorem mdel_over {γ : Type} (f : β → γ) (m : List (α × β)) (a : α) : mdel (m.map (fun p => (p.1, f p.2))) a = (mdel m a).map (fun p => (p.1, f p.2)) := by
  unfold mdel
  rw [List.filter_map]
  rfl

theorem findNow_look (es : List MapEntry) (m : List (α × Value)) (a : α) (h : es.map (fun e => (e.key, e.val)) = m.map (fun p => (κ.val p.1, p.2))) : ∀ n, Instr.findNow κ.kind (κ.val a) es n = some (lookIdx a m n) := by
  induction es generalizing m with
  | nil =>
    intro n
    cases m with
    | nil => rfl
    | cons p r => simp at h
  | cons e es ih =>
    intro n
    cases m with
    | nil => simp at h
    | cons p r =>
      obtain ⟨k, v⟩ := p
      simp only [List.map_cons, List.cons.injEq, Prod.mk.injEq] at h
      obtain ⟨⟨h1, h2⟩, h3⟩ := h
      obtain ⟨hd, hs⟩ := κ.same a k
      simp only [Instr.findNow, h1, hs, lookIdx]
      by_cases hk : a = k
      · simp [hk, h2]
      · simp only [hk, decide_false, if_false]
        exact ih r h3 (n + 1)
theorem lookIdx_get (a : α) (m : List (α × Value)) : ∀ n, (lookIdx a m n).map (·.2) = mget m a := by
  induction m with
  | nil => intro n; rfl
  | cons p r ih =>
    obtain ⟨k, v⟩ := p
    intro n
    rw [mget_cons]
    unfold lookIdx
    by_cases h : a = k
    · simp [h]
    · rw [if_neg h, if_neg (fun e => h e.symm)]; exact ih (n + 1)
theorem lookIdx_at (a : α) (m : List (α × Value)) : ∀ n i v, lookIdx a m n = some (i, v) → n ≤ i ∧ m[i - n]? = some (a, v) ∧ ∀ j, j < i - n → ∀ p, m[j]? = some p → p.1 ≠ a := by
  induction m with
  | nil => intro n i v h; simp [lookIdx] at h
  | cons p r ih =>
    obtain ⟨k, u⟩ := p
    intro n i v h
    unfold lookIdx at h
    by_cases hk : a = k
    · rw [if_pos hk] at h
      simp only [Option.some.injEq, Prod.mk.injEq] at h
      obtain ⟨rfl, rfl⟩ := h
      exact ⟨Nat.le_refl _, by simp [hk], fun j hj => absurd hj (by omega)⟩
    · rw [if_neg hk] at h
      obtain ⟨h1, h2, h3⟩ := ih (n + 1) i v h
      refine ⟨by omega, ?_, ?_⟩
      · rw [show i - n = (i - (n + 1)) + 1 by omega, List.getElem?_cons_succ]; exact h2
      · intro j hj p hp
        cases j with
        | zero => simp at hp; subst hp; exact fun e => hk e.symm
        | succ j => rw [List.getElem?_cons_succ] at hp; exact h3 j (by omega) p hp

variable {κ}
section
variable {P : Program} {w : World} {b : Nat} {m : List (α × Value)} {T K E : TypeId}
theorem MapAt.findKey (h : MapAt κ w b m) (hK : P.underlying K = some κ.kind) (a : α) (es : Array MapEntry) (he : es.toList.map (fun e => (e.key, e.val)) = m.map (fun p => (κ.val p.1, p.2))) (w2 : World) :
    (Instr.findKey K (κ.val a) es.toList).run P w2 = .ok (lookIdx a m 0) w2 := by
  simp [Instr.findKey, run_underlying hK, findNow_look κ es.toList m a he 0]
theorem MapAt.run_lookup (h : MapAt κ w b m) (hT : P.underlying T = some (.map K E)) (hK : P.underlying K = some κ.kind) (z : Value) (hz : ∀ w2, (zeroValue E).run P w2 = .ok z w2) (a : α) :
    (Instr.lookup T (.map (some b)) (κ.val a) true).run P w = .ok (.tuple #[(mget m a).getD z, .bool (mget m a).isSome]) w := by
  obtain ⟨es, clock, hb, he, _, _⟩ := h.ex
  have hc := κ.check P K w es.isEmpty 9999 a hK
  have hgo := run_getMap (P := P) hb
  have hf := h.findKey hK a es he w
  have hg := lookIdx_get a m 0
  cases hl : lookIdx a m 0 with
  | none =>
    rw [hl] at hf hg
    simp only [Option.map_none] at hg
    simp [Instr.lookup, run_underlying hT, hgo, hc, hf, ← hg, hz]
  | some x =>
    obtain ⟨i, v⟩ := x
    rw [hl] at hf hg
    simp only [Option.map_some] at hg
    simp [Instr.lookup, run_underlying hT, hgo, hc, hf, ← hg]

theorem map_ext {α β γ : Type} {l : List α} {l' : List γ} {f : α → β} {g : γ → β} (h : ∀ i : Nat, (l[i]?).map f = (l'[i]?).map g) : l.map f = l'.map g := by
  apply List.ext_getElem?
  intro i
  rw [List.getElem?_map, List.getElem?_map, h i]
theorem modify_ne {β : Type} (l : List β) {i j : Nat} (f : β → β) (h : ¬ i = j) : (l.modify i f)[j]? = l[j]? := by
  rw [List.getElem?_modify]
  simp [h]
theorem mput_at (hn : (m.map (·.1)).Nodup) {a : α} {i : Nat} {v x : Value} (hi : m[i]? = some (a, v)) (j : Nat) : (mput m a x)[j]? = if j = i then some (a, x) else m[j]? := by
  have hs : (mget m a).isSome = true := by
    unfold mget
    rw [Option.isSome_map, List.find?_isSome]
    exact ⟨(a, v), List.mem_of_getElem? hi, by simp⟩
  unfold mput
  rw [if_pos hs, List.getElem?_map]
  by_cases hj : j = i
  · subst hj; simp [hi]
  · rw [if_neg hj]
    cases hm : m[j]? with
    | none => rfl
    | some p =>
      have hne : p.1 ≠ a := by
        intro e
        have h1 : (m.map (·.1))[j]? = some a := by rw [List.getElem?_map, hm, ← e]; rfl
        have h2 : (m.map (·.1))[i]? = some a := by rw [List.getElem?_map, hi]; rfl
        have hjl := (List.getElem?_eq_some_iff.1 h1).1
        exact hj ((List.getElem?_inj hjl hn).1 (h1.trans h2.symm))
      simp [hne]

/-- Of an entry that has its place in a map: what a store through its stamp leaves. -/
theorem run_entryStore {es : Array MapEntry} {clock s : Nat} (hb : w.heap[b]? = some (.map es clock)) {i : Nat} {e : MapEntry} (hi : es.toList[i]? = some e) (hs : e.born = s) (hnd : (es.toList.map (·.born)).Nodup) (x : Value) :
    (Instr.entryStore T (.map (some b)) (.int .i64 s) x).run P w = .ok () (ChangeMaps.setBlock w b (.map (es.modify i fun e => { e with val := x }) clock)) := by
  have hgo := run_getMap (P := P) hb
  have hidx : es.findIdx? (fun e => (e.born : Int) == (s : Int)) = some i := by
    rw [Array.findIdx?_eq_some_iff_getElem]
    obtain ⟨hl, he⟩ := List.getElem?_eq_some_iff.1 hi
    refine ⟨by simpa using hl, by rw [← Array.getElem_toList, he, hs]; simp, fun j hj => ?_⟩
    have hjl : j < es.toList.length := by omega
    simp only [Bool.not_eq_true, beq_eq_false_iff_ne, ne_eq, Int.natCast_inj]
    intro hc
    have h1 : (es.toList.map (·.born))[j]? = some s := by rw [List.getElem?_map, List.getElem?_eq_getElem hjl, ← hc]; rfl
    have h2 : (es.toList.map (·.born))[i]? = some s := by rw [List.getElem?_map, hi, ← hs]; rfl
    have := (List.getElem?_inj (by simpa using hjl) hnd).1 (h1.trans h2.symm)
    omega
  have hset := run_setMap (P := P) (o' := .map (es.modify i fun e => { e with val := x }) clock) hb (by intros; simp)
  simp [Instr.entryStore, asInt, asIntOf, hgo, hidx, hset]

theorem MapAt.run_mapEntry (h : MapAt κ w b m) (hT : P.underlying T = some (.map K E)) (hK : P.underlying K = some κ.kind) (z : Value) (hz : ∀ w2, (zeroValue E).run P w2 = .ok z w2) (a : α) :
    ∃ v s w', (Instr.mapEntry T (.map (some b)) (κ.val a)).run P w = .ok (.tuple #[v, .int .i64 s]) w' ∧ Ch [b] w w' ∧
      ∀ x, ∃ w'', (Instr.entryStore T (.map (some b)) (.int .i64 s) x).run P w' = .ok () w'' ∧ MapAt κ w'' b (mput m a x) ∧ Ch [b] w' w'' := by
  have hlt := h.lt
  obtain ⟨es, clock, hb, he, hnd, hbc⟩ := h.ex
  have hc := κ.check P K w false 9999 a hK
  have hf := h.findKey hK a es he w
  have hgo := run_getMap (P := P) hb
  have hlen : es.toList.length = m.length := by have := congrArg List.length he; simpa using this
  have hat : ∀ j : Nat, (es.toList[j]?).map (fun e : MapEntry => (e.key, e.val)) = (m[j]?).map (fun p : α × Value => (κ.val p.1, p.2)) := fun j => by
    have := congrArg (fun l : List (Value × Value) => l[j]?) he
    simpa [List.getElem?_map] using this
  cases hl : lookIdx a m 0 with
  | some y =>
    obtain ⟨i, v⟩ := y
    rw [hl] at hf
    obtain ⟨_, hmi, _⟩ := lookIdx_at a m 0 i v hl
    rw [Nat.sub_zero] at hmi
    obtain ⟨e, hei, hek⟩ : ∃ e, es.toList[i]? = some e ∧ (e.key, e.val) = (κ.val a, v) := by
      have := hat i
      rw [hmi] at this
      cases hx : es.toList[i]? with
      | none => rw [hx] at this; simp at this
      | some e => rw [hx] at this; exact ⟨e, rfl, by simpa using this⟩
    have hei' : es[i]? = some e := by simpa using hei
    have hk : e.key = κ.val a := (Prod.mk.inj hek).1
    have hks := keyStays (P := P) (w := w) κ a
    have hset := run_setMap (P := P) (o' := .map (es.modify i fun e => { e with key := κ.val a }) clock) hb (by intros; simp)
    refine ⟨v, e.born, ChangeMaps.setBlock w b (.map (es.modify i fun e => { e with key := κ.val a }) clock), ?_, setBlock_ch w b _, fun x => ?_⟩
    · simp [Instr.mapEntry, run_underlying hT, hgo, hc, hf, hei', hk, hks, hset, goInt]
    · have hsame : es.modify i (fun e => { e with key := κ.val a }) = es := by
        apply Array.ext_getElem?
        intro j
        rw [Array.getElem?_modify]
        split
        · rename_i hij; subst hij; rw [hei', ← hk]; rfl
        · rfl
      rw [hsame]
      refine ⟨_, run_entryStore (setBlock_at _ hlt) hei rfl hnd x, ⟨⟨_, _, setBlock_at _ (by simp [ChangeMaps.setBlock]; exact hlt), ?_, ?_, ?_⟩, keys_mput m a x h.nd⟩, setBlock_ch _ b _⟩
      · refine map_ext fun j => ?_
        rw [mput_at h.nd hmi, Array.toList_modify]
        by_cases hj : j = i
        · subst hj; rw [List.getElem?_modify]; simp [hei', hk]
        · rw [if_neg hj, modify_ne _ _ (fun e => hj e.symm)]
          exact hat j
      · have : (es.modify i (fun e => { e with val := x })).toList.map (·.born) = es.toList.map (·.born) := by
          refine map_ext fun j => ?_
          rw [Array.toList_modify, List.getElem?_modify]
          split <;> cases es.toList[j]? <;> rfl
        rw [this]; exact hnd
      · intro e' he'
        rw [Array.toList_modify] at he'
        obtain ⟨j, hj⟩ := List.getElem?_of_mem he'
        rw [List.getElem?_modify] at hj
        cases hx : es.toList[j]? with
        | none => rw [hx] at hj; simp at hj
        | some e0 =>
          have hb0 := hbc e0 (List.mem_of_getElem? hx)
          rw [hx] at hj
          split at hj <;> simp at hj <;> subst hj <;> exact hb0
  | none =>
    rw [hl] at hf
    have hset := run_setMap (P := P) (o' := .map (es.push { key := κ.val a, val := z, born := clock }) (clock + 1)) hb (by intros; simp)
    have hmn : mget m a = none := by rw [← lookIdx_get a m 0, hl]; rfl
    refine ⟨z, clock, ChangeMaps.setBlock w b (.map (es.push { key := κ.val a, val := z, born := clock }) (clock + 1)), ?_, setBlock_ch w b _, fun x => ?_⟩
    · simp [Instr.mapEntry, run_underlying hT, hgo, hc, hf, hz, hset, goInt]
    · have hpn : ((es.push { key := κ.val a, val := z, born := clock }).toList.map (·.born)).Nodup := by
        rw [Array.toList_push, List.map_append, List.nodup_append]
        refine ⟨hnd, by simp, ?_⟩
        intro c hc d hd e
        obtain ⟨e0, he0, rfl⟩ := List.mem_map.1 hc
        simp at hd
        have := hbc e0 he0
        omega
      have hpi : (es.push { key := κ.val a, val := z, born := clock }).toList[es.size]? = some { key := κ.val a, val := z, born := clock } := by simp
      refine ⟨_, run_entryStore (setBlock_at _ hlt) hpi rfl hpn x, ⟨⟨_, _, setBlock_at _ (by simp [ChangeMaps.setBlock]; exact hlt), ?_, ?_, ?_⟩, keys_mput m a x h.nd⟩, setBlock_ch _ b _⟩
      · have hmp : mput m a x = m ++ [(a, x)] := by unfold mput; rw [hmn]; rfl
        rw [hmp]
        refine map_ext fun j => ?_
        rw [Array.toList_modify, Array.toList_push]
        rcases (by omega : j < es.size ∨ j = es.size ∨ es.size < j) with hj | hj | hj
        · rw [modify_ne _ _ (by omega), List.getElem?_append_left (by simpa using hj), List.getElem?_append_left (by rw [← hlen]; simpa using hj)]
          exact hat j
        · subst hj
          have hm2 : m.length = es.size := by rw [← hlen]; simp
          rw [List.getElem?_modify]
          simp [hm2]
        · rw [modify_ne _ _ (by omega), List.getElem?_eq_none (by simp; omega), List.getElem?_eq_none (by rw [List.length_append, ← hlen]; simp; omega)]
          rfl
      · have : ((es.push { key := κ.val a, val := z, born := clock }).modify es.size (fun e => { e with val := x })).toList.map (·.born) = (es.push { key := κ.val a, val := z, born := clock }).toList.map (·.born) := by
          refine map_ext fun j => ?_
          rw [Array.toList_modify, List.getElem?_modify]
          split <;> cases (es.push { key := κ.val a, val := z, born := clock }).toList[j]? <;> rfl
        rw [this]; exact hpn
      · intro e' he'
        rw [Array.toList_modify] at he'
        obtain ⟨j, hj⟩ := List.getElem?_of_mem he'
        rw [List.getElem?_modify] at hj
        have hall : ∀ e0 ∈ (es.push { key := κ.val a, val := z, born := clock }).toList, e0.born < clock + 1 := by
          intro e0 he0
          rw [Array.toList_push, List.mem_append] at he0
          rcases he0 with h1 | h1
          · have := hbc e0 h1; omega
          · simp at h1; subst h1; simp
        cases hx : (es.push { key := κ.val a, val := z, born := clock }).toList[j]? with
        | none => rw [hx] at hj; simp at hj
        | some e0 =>
          have hb0 := hall e0 (List.mem_of_getElem? hx)
          rw [hx] at hj
          split at hj <;> simp at hj <;> subst hj <;> exact hb0

theorem erase_map {β γ : Type} (f : β → γ) (l : List β) (i : Nat) : (l.map f).eraseIdx i = (l.eraseIdx i).map f := by
  induction l generalizing i with
  | nil => simp
  | cons x l ih => cases i <;> simp [ih]
theorem mdel_none {a : α} (hmn : mget m a = none) : mdel m a = m := by
  unfold mdel
  rw [List.filter_eq_self]
  intro p hp
  have := (Option.map_eq_none_iff.1 hmn)
  rw [List.find?_eq_none] at this
  have h2 := this p hp
  simpa using h2
theorem mdel_at (hn : (m.map (·.1)).Nodup) {a : α} {i : Nat} {v : Value} (hi : m[i]? = some (a, v)) : mdel m a = m.eraseIdx i := by
  induction m generalizing i with
  | nil => simp at hi
  | cons p r ih =>
    rw [List.map_cons, List.nodup_cons] at hn
    cases i with
    | zero =>
      simp at hi
      subst hi
      unfold mdel
      rw [List.filter_cons, if_neg (by simp), List.eraseIdx_zero, List.tail_cons, List.filter_eq_self]
      intro q hq
      simp only [ne_eq, decide_not, Bool.not_eq_true', decide_eq_false_iff_not]
      intro e
      exact hn.1 (List.mem_map.2 ⟨q, hq, e⟩)
    | succ i =>
      rw [List.getElem?_cons_succ] at hi
      have hne : p.1 ≠ a := by
        intro e
        exact hn.1 (List.mem_map.2 ⟨(a, v), List.mem_of_getElem? hi, e.symm⟩)
      have := ih hn.2 hi
      unfold mdel at this ⊢
      rw [List.filter_cons, if_pos (by simpa using hne), List.eraseIdx_cons_succ, this]
theorem MapAt.run_delete (h : MapAt κ w b m) (hT : P.underlying T = some (.map K E)) (hK : P.underlying K = some κ.kind) (a : α) (U ty : TypeId) :
    ∃ w', (Builtin.delete_ #[T, U] ty #[.map (some b), κ.val a]).run P w = .ok (.tuple #[]) w' ∧ MapAt κ w' b (mdel m a) ∧ Ch [b] w w' := by
  have hlt := h.lt
  obtain ⟨es, clock, hb, he, hnd, hbc⟩ := h.ex
  have hc := κ.check P K w es.isEmpty 9999 a hK
  have hf := h.findKey hK a es he w
  have hgo := run_getMap (P := P) hb
  have hlen : es.toList.length = m.length := by have := congrArg List.length he; simpa using this
  cases hl : lookIdx a m 0 with
  | none =>
    rw [hl] at hf
    have hmn : mget m a = none := by rw [← lookIdx_get a m 0, hl]; rfl
    have hset := run_setMap (P := P) (o' := .map es clock) hb (by intros; simp)
    refine ⟨ChangeMaps.setBlock w b (.map es clock), ?_, ?_, setBlock_ch w b _⟩
    · simp [Builtin.delete_, run_underlying hT, hgo, hc, hf, hset]
    · rw [mdel_none hmn]
      exact ⟨⟨es, clock, setBlock_at _ hlt, he, hnd, hbc⟩, h.nd⟩
  | some y =>
    obtain ⟨i, v⟩ := y
    rw [hl] at hf
    obtain ⟨_, hmi, _⟩ := lookIdx_at a m 0 i v hl
    rw [Nat.sub_zero] at hmi
    have hset := run_setMap (P := P) (o' := .map (es.eraseIdxIfInBounds i) clock) hb (by intros; simp)
    have hil : i < es.size := by have := (List.getElem?_eq_some_iff.1 hmi).1; rw [← hlen] at this; simpa using this
    have hel : (es.eraseIdxIfInBounds i).toList = es.toList.eraseIdx i := by
      simp [Array.eraseIdxIfInBounds, hil]
    refine ⟨ChangeMaps.setBlock w b (.map (es.eraseIdxIfInBounds i) clock), ?_, ⟨⟨es.eraseIdxIfInBounds i, clock, setBlock_at _ hlt, ?_, ?_, ?_⟩, keys_mdel m a h.nd⟩, setBlock_ch w b _⟩
    · simp [Builtin.delete_, run_underlying hT, hgo, hc, hf, hset]
    · rw [mdel_at h.nd hmi, hel, ← erase_map, ← erase_map, he]
    · rw [hel, ← erase_map]
      exact hnd.sublist (List.eraseIdx_sublist _ _)
    · intro e he'
      rw [hel] at he'
      exact hbc e (List.mem_of_mem_eraseIdx he')
theorem MapAt.run_update (h : MapAt κ w b m) (hT : P.underlying T = some (.map K E)) (hK : P.underlying K = some κ.kind) (a : α) (x : Value) :
    ∃ w', (Instr.mapUpdate T (.map (some b)) (κ.val a) x).run P w = .ok () w' ∧ MapAt κ w' b (mput m a x) ∧ Ch [b] w w' := by
  have hlt := h.lt
  obtain ⟨es, clock, hb, he, hnd, hbc⟩ := h.ex
  have hc := κ.check P K w false 9999 a hK
  have hf := h.findKey hK a es he w
  have hgo := run_getMap (P := P) hb
  have hlen : es.toList.length = m.length := by have := congrArg List.length he; simpa using this
  have hat : ∀ j : Nat, (es.toList[j]?).map (fun e : MapEntry => (e.key, e.val)) = (m[j]?).map (fun p : α × Value => (κ.val p.1, p.2)) := fun j => by
    have := congrArg (fun l : List (Value × Value) => l[j]?) he
    simpa [List.getElem?_map] using this
  cases hl : lookIdx a m 0 with
  | some y =>
    obtain ⟨i, v⟩ := y
    rw [hl] at hf
    obtain ⟨_, hmi, _⟩ := lookIdx_at a m 0 i v hl
    rw [Nat.sub_zero] at hmi
    obtain ⟨e, hei, hek⟩ : ∃ e, es.toList[i]? = some e ∧ (e.key, e.val) = (κ.val a, v) := by
      have := hat i
      rw [hmi] at this
      cases hx : es.toList[i]? with
      | none => rw [hx] at this; simp at this
      | some e => rw [hx] at this; exact ⟨e, rfl, by simpa using this⟩
    have hei' : es[i]? = some e := by simpa using hei
    have hk : e.key = κ.val a := (Prod.mk.inj hek).1
    have hks := keyStays (P := P) (w := w) κ a
    have hset := run_setMap (P := P) (o' := .map (es.modify i fun e => { e with key := κ.val a, val := x }) clock) hb (by intros; simp)
    refine ⟨ChangeMaps.setBlock w b (.map (es.modify i fun e => { e with key := κ.val a, val := x }) clock), ?_, ⟨⟨es.modify i fun e => { e with key := κ.val a, val := x }, clock, setBlock_at _ hlt, ?_, ?_, ?_⟩, keys_mput m a x h.nd⟩, setBlock_ch w b _⟩
    · simp [Instr.mapUpdate, run_underlying hT, hgo, hc, hf, hei', hk, hks, hset]
    · refine map_ext fun j => ?_
      rw [mput_at h.nd hmi, Array.toList_modify]
      by_cases hj : j = i
      · subst hj; rw [List.getElem?_modify]; simp [hei']
      · rw [if_neg hj, modify_ne _ _ (fun e => hj e.symm)]
        exact hat j
    · have : (es.modify i (fun e => { e with key := κ.val a, val := x })).toList.map (·.born) = es.toList.map (·.born) := by
        refine map_ext fun j => ?_
        rw [Array.toList_modify, List.getElem?_modify]
        split <;> cases es.toList[j]? <;> rfl
      rw [this]; exact hnd
    · intro e' he'
      rw [Array.toList_modify] at he'
      obtain ⟨j, hj⟩ := List.getElem?_of_mem he'
      rw [List.getElem?_modify] at hj
      cases hx : es.toList[j]? with
      | none => rw [hx] at hj; simp at hj
      | some e0 =>
        have hb0 := hbc e0 (List.mem_of_getElem? hx)
        rw [hx] at hj
        split at hj <;> simp at hj <;> subst hj <;> exact hb0
  | none =>
    rw [hl] at hf
    have hset := run_setMap (P := P) (o' := .map (es.push { key := κ.val a, val := x, born := clock }) (clock + 1)) hb (by intros; simp)
    have hmn : mget m a = none := by rw [← lookIdx_get a m 0, hl]; rfl
    have hmp : mput m a x = m ++ [(a, x)] := by unfold mput; rw [hmn]; rfl
    refine ⟨ChangeMaps.setBlock w b (.map (es.push { key := κ.val a, val := x, born := clock }) (clock + 1)), ?_, ⟨⟨es.push { key := κ.val a, val := x, born := clock }, clock + 1, setBlock_at _ hlt, ?_, ?_, ?_⟩, keys_mput m a x h.nd⟩, setBlock_ch w b _⟩
    · simp [Instr.mapUpdate, run_underlying hT, hgo, hc, hf, hset]
    · rw [hmp, Array.toList_push, List.map_append, List.map_append, he]; rfl
    · rw [Array.toList_push, List.map_append, List.nodup_append]
      refine ⟨hnd, by simp, ?_⟩
      intro c hc d hd e
      obtain ⟨e0, he0, rfl⟩ := List.mem_map.1 hc
      simp at hd
      have := hbc e0 he0
      omega
    · intro e0 he0
      rw [Array.toList_push, List.mem_append] at he0
      rcases he0 with h1 | h1
      · have := hbc e0 h1; omega
      · simp at h1; subst h1; simp
end
end
end Go.Proofs.YtjdbedoabcbeeaaGreatDoor
