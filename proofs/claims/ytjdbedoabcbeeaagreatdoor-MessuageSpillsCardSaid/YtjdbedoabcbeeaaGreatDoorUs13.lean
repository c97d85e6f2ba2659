/- Parts of the proof: Heap, TabII, Frames, Frames2. -/
import Derived.Test.YtjdbedoabcbeeaaGreatDoorUs7
import Derived.Test.YtjdbedoabcbeeaaGreatDoorUs12
import Derived.Test.YtjdbedoabcbeeaaGreatDoorUs2
import Derived.Maps.OwnSet
import Derived.Test.YtjdbedoabcbeeaaGreatDoorUs3
import Derived.Laws.IdiomCopy
/- Package heap (layer 9): a buddy for each node; node, May, All, Take. -/
namespace Go.Proofs.YtjdbedoabcbeeaaGreatDoor
open Go.RowKit
set_option linter.unusedVariables false
set_option linter.unusedSimpArgs false
attribute [local go_sem] World.cell?_alloc_lt

/-- The free runs of n frames of which the first c are taken, one by one. -/
def frL (n c k : Nat) : List Int := if (n - c).testBit k then [((c + (n - c) % 2 ^ k : Nat) : Int)] else []
theorem fr16 : ∀ c : Fin 16, ∃ kk : Fin 11, (∀ j : Fin 11, j < kk → frL 16 c j = []) ∧ frL 16 c kk = [(c.val : Int)] ∧ ∀ i : Fin 11, takeL (frL 16 c) kk (c.val : Int) 0 i = frL 16 (c + 1) i := by decide +kernel
theorem fr8 : ∀ c : Fin 8, ∃ kk : Fin 11, (∀ j : Fin 11, j < kk → frL 8 c j = []) ∧ frL 8 c kk = [(c.val : Int)] ∧ ∀ i : Fin 11, takeL (frL 8 c) kk (c.val : Int) 0 i = frL 8 (c + 1) i := by decide +kernel
theorem fr16_sum : ∀ c : Fin 17, sumL (frL 16 c) 11 = 16 - c := by decide +kernel
theorem fr8_sum : ∀ c : Fin 9, sumL (frL 8 c) 11 = 8 - c := by decide +kernel
theorem fr16_new : ∀ k : Fin 11, newL 4 k = frL 16 0 k := by decide +kernel
theorem fr8_new : ∀ k : Fin 11, newL 3 k = frL 8 0 k := by decide +kernel
theorem fr16_end : ∀ k : Fin 11, frL 16 16 k = [] := by decide +kernel
theorem fr8_end : ∀ k : Fin 11, frL 8 8 k = [] := by decide +kernel
theorem frL_one (n c k : Nat) : (frL n c k).length ≤ 1 := by unfold frL; split <;> simp
/-- What is so of eight and of sixteen frames. -/
structure FrOk (n m : Nat) : Prop where
  m10 : m ≤ 10
  pow : (n : Int) = 2 ^ m
  bit : bits BinOp.and IntKind.i64 (n : Int) ((n : Int) - 1) = 0
  n1 : 1 ≤ n
  n2 : n ≤ 1000
  step : ∀ c, c < n → ∃ kk, kk < 11 ∧ (∀ j, j < kk → frL n c j = []) ∧ frL n c kk = [(c : Int)] ∧ ∀ i, i < 11 → takeL (frL n c) kk (c : Int) 0 i = frL n (c + 1) i
  sum : ∀ c, c ≤ n → sumL (frL n c) 11 = n - c
  new : ∀ k, k < 11 → newL m k = frL n 0 k
  end_ : ∀ k, k < 11 → frL n n k = []
theorem frOk16 : FrOk 16 4 := ⟨by omega, by decide, by decide +kernel, by omega, by omega, fun c hc => by
    obtain ⟨kk, h1, h2, h3⟩ := fr16 ⟨c, hc⟩
    exact ⟨kk.val, kk.isLt, fun j hj => h1 ⟨j, by omega⟩ hj, h2, fun i hi => h3 ⟨i, hi⟩⟩, fun c hc => fr16_sum ⟨c, by omega⟩, fun k hk => fr16_new ⟨k, hk⟩, fun k hk => fr16_end ⟨k, hk⟩⟩
theorem frOk8 : FrOk 8 3 := ⟨by omega, by decide, by decide +kernel, by omega, by omega, fun c hc => by
    obtain ⟨kk, h1, h2, h3⟩ := fr8 ⟨c, hc⟩
    exact ⟨kk.val, kk.isLt, fun j hj => h1 ⟨j, by omega⟩ hj, h2, fun i hi => h3 ⟨i, hi⟩⟩, fun c hc => fr8_sum ⟨c, by omega⟩, fun k hk => fr8_new ⟨k, hk⟩, fun k hk => fr8_end ⟨k, hk⟩⟩
/-- Where a node's buddy lies. -/
structure Bd where
  g : Nat
  bs : List Nat
  bt : Nat
def Bd.foot (b : Bd) : List Nat := b.g :: b.bt :: b.bs
def Bd.ptr (b : Bd) : Value := .pointer (some ⟨b.g, 0, none⟩)
def allB (B : List Bd) : List Nat := B.flatMap Bd.foot
/-- A heap of nodes with n frames each; of node i the first ct i are taken. -/
structure HeapAt (w : World) (base h : Nat) (A : Option Addr) (c n : Nat) (mn lo hi : Int) (B : List Bd) (ct : Nat → Nat) : Prop where
  st : Blk w h 105 [.int .i64 (n : Int), .int .i64 mn, .int .i64 lo, .int .i64 hi, .slice A B.length c]
  row : w.ownsRow base 78 1 (.slice A B.length c) B.length (B.map Bd.ptr)
  bd : ∀ i b, B[i]? = some b → BudAt w b.g b.bs b.bt (n : Int) (frL n (ct i))
  le : ∀ i, ct i ≤ n
  dis : B.Pairwise (fun a b => ∀ x ∈ a.foot, x ∉ b.foot)
section
variable {w w' : World} {base h c n : Nat} {A : Option Addr} {mn lo hi : Int} {B : List Bd} {ct : Nat → Nat}
def heapFoot (h : Nat) (A : Option Addr) (B : List Bd) : List Nat := h :: ((A.map (·.block)).toList ++ allB B)
theorem rowBlock_mem {A : Option Addr} {n c q : Nat} (hq : (Value.slice A n c).ownBlock = some q) : q ∈ (A.map (·.block)).toList := by
  cases A with
  | none => cases hq
  | some a =>
    have : (Value.slice (some a) n c).ownBlock = some a.block := rfl
    rw [this] at hq
    injection hq with hq
    subst hq
    simp
theorem mem_allB {b : Bd} {x : Nat} (hb : b ∈ B) (hx : x ∈ b.foot) : x ∈ allB B := List.mem_flatMap.2 ⟨b, hb, hx⟩
theorem HeapAt.ch {S : List Nat} (H : HeapAt w base h A c n mn lo hi B ct) (k : Ch S w w') (hS : ∀ x ∈ S, x ∉ heapFoot h A B) : HeapAt w' base h A c n mn lo hi B ct := by
  refine ⟨H.st.ch k (fun hx => hS h hx (by simp [heapFoot])), own_chV H.row k (fun q hq hx => hS q hx (by simp only [heapFoot, List.mem_cons, List.mem_append]; exact Or.inr (Or.inl (rowBlock_mem hq)))), fun i b hb => (H.bd i b hb).ch k (fun x hx hm => hS x hx (by simp only [heapFoot, List.mem_cons, List.mem_append]; exact Or.inr (Or.inr (mem_allB (List.mem_of_getElem? hb) hm)))), H.le, H.dis⟩
theorem HeapAt.below (H : HeapAt w base h A c n mn lo hi B ct) (k : Below w.heap.size w w') : HeapAt w' base h A c n mn lo hi B ct := H.ch (Ch.below k []) (by simp)
theorem HeapAt.lt (H : HeapAt w base h A c n mn lo hi B ct) : ∀ x ∈ heapFoot h A B, x < w.heap.size := by
  intro x hx
  simp only [heapFoot, List.mem_cons, List.mem_append] at hx
  rcases hx with rfl | hx | hx
  · exact H.st.lt
  · cases hA : A with
    | none => rw [hA] at hx; simp at hx
    | some a =>
      rw [hA] at hx
      simp at hx
      subst hx
      have hr := H.row
      rw [hA] at hr
      exact (hr.lt a.block rfl).2
  · obtain ⟨b, hb, hx⟩ := List.mem_flatMap.1 hx
    obtain ⟨i, hi⟩ := List.getElem?_of_mem hb
    have hB := H.bd i b hi
    rcases List.mem_cons.1 hx with rfl | hx
    · exact hB.st.lt
    rcases List.mem_cons.1 hx with rfl | hx
    · obtain ⟨T, hT⟩ := hB.tk
      exact hT.lt
    · obtain ⟨k, hk⟩ := List.getElem?_of_mem hx
      exact (hB.fr k x hk).lt
theorem idx_nodes (q m cp i : Nat) (hi : i < m) (w : World) : (Instr.indexAt 103 (.slice (some ⟨q, 0, none⟩) m cp) (.int .i64 (i : Int))).run Tryz.prog w = .ok (.pointer (some ⟨q, i, none⟩)) w := by
  simp [go_sem, hi]
set_option maxRecDepth 100000 in
theorem he_node (i : Nat) (b : Bd) (hb : B[i]? = some b) (hB8 : B.length ≤ 8) (w : World) (H : HeapAt w base h A c n mn lo hi B ct) :
    Calls Tryz.prog 144 #[.pointer (some ⟨h, 0, none⟩), .int .i64 (i : Int)] w fun e w' => e = .returned b.ptr ∧ w = w' := by
  have hil := (List.getElem?_eq_some_iff.1 hb).1
  have m4 := H.st.at_ (i := 4) rfl
  obtain ⟨q, hA, hc, _⟩ := own_at H.row (k := i) (u := b.ptr) (by rw [List.getElem?_map, hb]; rfl)
  subst hA
  have hix := fun w => idx_nodes q B.length c i hil w
  unfold Bd.ptr at *
  clear hb H
  go_enter Tryz.func144, Tryz.ntmps144
  go_wp2_with fail
  go_ret
  exact ⟨rfl, rfl⟩
def mayB (n c : Nat) (mn : Int) : Bool := decide (c < n) && decide (mn ≤ (n : Int) - (c : Int) - 1)
set_option maxRecDepth 100000 in
theorem he_may {m : Nat} (hok : FrOk n m) (i : Nat) (b : Bd) (hb : B[i]? = some b) (hB8 : B.length ≤ 8) (w : World) (H : HeapAt w base h A c n mn lo hi B ct) :
    Calls Tryz.prog 143 #[.pointer (some ⟨h, 0, none⟩), .int .i64 (i : Int), .int .i64 0] w fun e w' => e = .returned (.bool (mayB n (ct i) mn)) ∧ Below w.heap.size w w' := by
  have hn := he_node i b hb hB8 w H
  have hB := H.bd i b hb
  have m1 := after_cell (H.st.at_ (i := 1) rfl)
  have hle := H.le i
  have hn2 := hok.n2
  have hfr := fun (w' : World) (k : Below w.heap.size w w') => bu_free b.g b.bt b.bs (n : Int) (frL n (ct i)) (frL_one n (ct i)) w' (hB.below k)
  rw [hok.sum (ct i) hle] at hfr
  unfold Bd.ptr at hn
  by_cases hlt : ct i < n
  · obtain ⟨kk, hk, h0, hx, _⟩ := hok.step (ct i) hlt
    have hha := fun (w' : World) (k : Below w.heap.size w w') => bu_has b.g b.bt b.bs (n : Int) (frL n (ct i)) kk hk h0 (by rw [hx]; rfl) w' (hB.below k)
    have hmay : mayB n (ct i) mn = decide (mn ≤ ((n - ct i : Nat) : Int) - 1) := by
      unfold mayB
      rw [decide_eq_true hlt, Bool.true_and]
      congr 1
      apply propext
      constructor <;> intro h <;> omega
    rw [hmay]
    have ha1 : ∀ w', Below w.heap.size w w' → Calls Tryz.prog 174 #[.pointer (some ⟨b.g, 0, none⟩), .int .i64 0] w' fun e w'' => e = .returned (.bool true) ∧ Below w'.heap.size w' w'' := fun w' k => (hha w' k).mono fun e w'' ⟨h1, h2⟩ => ⟨h1, h2 ▸ Below.refl _ _⟩
    have ha2 : ∀ w', Below w.heap.size w w' → Calls Tryz.prog 26 #[.pointer (some ⟨b.g, 0, none⟩)] w' fun e w'' => e = .returned (.int .i64 (n - ct i : Nat)) ∧ Below w'.heap.size w' w'' := fun w' k => (hfr w' k).mono fun e w'' ⟨h1, h2⟩ => ⟨h1, h2 ▸ Below.refl _ _⟩
    have hfl : n - ct i ≤ 1000 := by omega
    generalize n - ct i = f at *
    have HN := Lib.hid hn; have HA1 := Lib.hid ha1; have HA2 := Lib.hid ha2
    clear hn hB hfr hha hmay ha1 ha2 H hb h0 hx
    have hw1 : IntKind.i64.wrap ((f : Int) - 1) = (f : Int) - 1 := i64_sm (by omega) (by omega)
    go_enter Tryz.func143, Tryz.ntmps143
    go_wp2_with fail
    refine HN.out.mono ?_; rintro e w1 ⟨rfl, rfl⟩
    go_upto_region 2 with fail
    refine wp_region_after (by kernel_rfl) (by kernel_rfl) ?_
    repeat (first | go_big_quiet_step (first | (go_at_call 174; exact after_callB HA1.out _) | (go_at_call 26; exact after_callB HA2.out _)) | quiet_step (first | (go_at_call 174; exact after_callB HA1.out _) | (go_at_call 26; exact after_callB HA2.out _)))
    refine wpQuiet_nil ?_; intro _ hw'; obtain ⟨xq, hw''⟩ := hw'; subst hw''
    go_wp2_with fail
    go_ret
    exact ⟨rfl, xq.2⟩
  · have hce : ct i = n := by omega
    have hmay : mayB n (ct i) mn = false := by unfold mayB; rw [decide_eq_false hlt]; rfl
    rw [hmay]
    have hha := fun (w' : World) (k : Below w.heap.size w w') => bu_has_no b.g b.bt b.bs (n : Int) (frL n (ct i)) (fun j hj => by rw [hce]; exact hok.end_ j hj) w' (hB.below k)
    have ha1 : ∀ w', Below w.heap.size w w' → Calls Tryz.prog 174 #[.pointer (some ⟨b.g, 0, none⟩), .int .i64 0] w' fun e w'' => e = .returned (.bool false) ∧ Below w'.heap.size w' w'' := fun w' k => (hha w' k).mono fun e w'' ⟨h1, h2⟩ => ⟨h1, h2 ▸ Below.refl _ _⟩
    have HN := Lib.hid hn; have HA1 := Lib.hid ha1
    clear hn hB hfr hha hmay ha1 H hb hce
    go_enter Tryz.func143, Tryz.ntmps143
    go_wp2_with fail
    refine HN.out.mono ?_; rintro e w1 ⟨rfl, rfl⟩
    go_upto_region 2 with fail
    refine wp_region_after (by kernel_rfl) (by kernel_rfl) ?_
    repeat (first | go_big_quiet_step ((go_at_call 174; exact after_callB HA1.out _)) | quiet_step ((go_at_call 174; exact after_callB HA1.out _)))
    refine wpQuiet_nil ?_; intro _ hw'; obtain ⟨xq, hw''⟩ := hw'; subst hw''
    go_wp2_with fail
    go_ret
    exact ⟨rfl, xq.2⟩
end
end Go.Proofs.YtjdbedoabcbeeaaGreatDoor
/- Contracts of package table (layer 6): Two[int,int]. -/
namespace Go.Proofs.YtjdbedoabcbeeaaGreatDoor
open Go.RowKit
set_option linter.unusedVariables false
set_option linter.unusedSimpArgs false
attribute [local go_sem] World.cell?_alloc_lt

/-- A table both ways. -/
structure TwoII (w : World) (g bt bf : Nat) (mt : List (Int × Int)) (mf : List (Int × Int)) : Prop where
  st : Blk w g 188 [.map (some bt), .map (some bf)]
  to_ : MapAt intKeys w bt (mt.map fun p => (p.1, (Value.int .i64) p.2))
  fr : MapAt intKeys w bf (mf.map fun p => (p.1, (Value.int .i64) p.2))
  ne_ : bt ≠ bf
  nt : g ≠ bt
  nf : g ≠ bf
section
variable {w w' : World} {g bt bf : Nat} {mt : List (Int × Int)} {mf : List (Int × Int)}
theorem TwoII.ch {S : List Nat} (h : TwoII w g bt bf mt mf) (k : Ch S w w') (h1 : g ∉ S) (h2 : bt ∉ S) (h3 : bf ∉ S) : TwoII w' g bt bf mt mf := ⟨h.st.ch k h1, h.to_.ch k h2, h.fr.ch k h3, h.ne_, h.nt, h.nf⟩
theorem TwoII.below (h : TwoII w g bt bf mt mf) (k : Below w.heap.size w w') : TwoII w' g bt bf mt mf := ⟨h.st.below k, h.to_.below k, h.fr.below k, h.ne_, h.nt, h.nf⟩
theorem TwoII.dn (h : TwoII w g bt bf mt mf) (n : Nat) : TwoII (w.drewN n) g bt bf mt mf := ⟨h.st.drewN n, h.to_.of_block rfl, h.fr.of_block rfl, h.ne_, h.nt, h.nf⟩
end
theorem zIIB (w : World) : (zeroValue 3).run Tryz.prog w = .ok (.int .i64 0) w := by kernel_rfl
theorem zIIA (w : World) : (zeroValue 3).run Tryz.prog w = .ok (.int .i64 0) w := by kernel_rfl
theorem uIIt : Tryz.prog.underlying 60 = some (.map 3 3) := Tryz.underlying60
theorem uIIf : Tryz.prog.underlying 60 = some (.map 3 3) := Tryz.underlying60
theorem kIIA : Tryz.prog.underlying 3 = some (intKeys).kind := Tryz.underlying3
theorem kIIB : Tryz.prog.underlying 3 = some (intKeys).kind := Tryz.underlying3

theorem tII_New (w : World) : Calls Tryz.prog 71 #[] w fun e w' => ∃ g bt bf, e = .returned (.pointer (some ⟨g, 0, none⟩)) ∧ w.heap.size ≤ g ∧ w.heap.size ≤ bt ∧ w.heap.size ≤ bf ∧ TwoII w' g bt bf [] [] ∧ Below w.heap.size w w' := by
  have hmm := @run_makeMap Tryz.prog
  go_enter Tryz.func71, Tryz.ntmps71
  go_wp2
  go_ret
  refine ⟨w.heap.size + 1 + 1, w.heap.size, w.heap.size + 1, rfl, by omega, by omega, by omega, ⟨?_, ?_, ?_, by omega, by omega, by omega⟩, bel_alloc (bel_alloc (bel_alloc (Below.refl _ _) _) _) _⟩
  · have h := Blk.new ((w.alloc (.map #[] 0)).alloc (.map #[] 0)) 188 [.map (some w.heap.size), .map (some (w.heap.size + 1))]
    simpa using h
  · have h := MapAt.new (κ := intKeys) w
    exact (h.below (bel_alloc (Below.refl _ _) _)).below (bel_alloc (Below.refl _ _) _)
  · have h := MapAt.new (κ := intKeys) (w.alloc (.map #[] 0))
    rw [World.size_alloc] at h
    exact h.below (bel_alloc (Below.refl _ _) _)

/-- What a look-up of the one kind comes to. -/
theorem lookIIt {w : World} {g bt bf : Nat} {mt : List (Int × Int)} {mf : List (Int × Int)} (h : TwoII w g bt bf mt mf) (a : Int) : (Instr.lookup 60 (.map (some bt)) (.int .i64 a) true).run Tryz.prog w = .ok (.tuple #[(Value.int .i64) ((mget mt a).getD 0), .bool (mget mt a).isSome]) w := by
  have hr := h.to_.run_lookup uIIt kIIA (.int .i64 0) zIIB a
  rw [mget_over, Option.isSome_map] at hr
  have e : ((mget mt a).map (Value.int .i64)).getD (.int .i64 0) = (Value.int .i64) ((mget mt a).getD 0) := by cases mget mt a <;> rfl
  rw [e] at hr
  exact hr
theorem lookIIf {w : World} {g bt bf : Nat} {mt : List (Int × Int)} {mf : List (Int × Int)} (h : TwoII w g bt bf mt mf) (b : Int) : (Instr.lookup 60 (.map (some bf)) (.int .i64 b) true).run Tryz.prog w = .ok (.tuple #[(Value.int .i64) ((mget mf b).getD 0), .bool (mget mf b).isSome]) w := by
  have hr := h.fr.run_lookup uIIf kIIB (.int .i64 0) zIIA b
  rw [mget_over, Option.isSome_map] at hr
  have e : ((mget mf b).map (Value.int .i64)).getD (.int .i64 0) = (Value.int .i64) ((mget mf b).getD 0) := by cases mget mf b <;> rfl
  rw [e] at hr
  exact hr

theorem tII_To (g bt bf : Nat) (mt : List (Int × Int)) (mf : List (Int × Int)) (a : Int) (w : World) (h : TwoII w g bt bf mt mf) : Calls Tryz.prog 64 #[.pointer (some ⟨g, 0, none⟩), .int .i64 a] w fun e w' => e = .returned (.tuple #[(Value.int .i64) ((mget mt a).getD 0), .bool (mget mt a).isSome]) ∧ w = w' := by
  have k0 := h.st.at_ (i := 0) rfl
  have hl := lookIIt h a
  generalize (mget mt a).getD 0 = u at hl ⊢
  generalize (mget mt a).isSome = q at hl ⊢
  go_enter Tryz.func64, Tryz.ntmps64
  go_wp2
  go_ret2
  exact ⟨rfl, rfl⟩
theorem tII_Map_no (g bt bf : Nat) (mt : List (Int × Int)) (mf : List (Int × Int)) (a : Int) (b : Int) (w : World) (h : TwoII w g bt bf mt mf) (hx : (mget mt a).isSome = true ∨ (mget mf b).isSome = true) : Calls Tryz.prog 120 #[.pointer (some ⟨g, 0, none⟩), .int .i64 a, .int .i64 b] w fun e w' => e = .returned (.int .i64 9) ∧ w = w' := by
  have k0 := h.st.at_ (i := 0) rfl
  have k1 := h.st.at_ (i := 1) rfl
  have hl := lookIIt h a
  have hl2 := lookIIf h b
  generalize (mget mt a).getD 0 = u at hl ⊢
  generalize (mget mt a).isSome = q at hl hx ⊢
  generalize (mget mf b).getD 0 = u2 at hl2 ⊢
  generalize (mget mf b).isSome = q2 at hl2 hx ⊢
  rcases (by cases q <;> simp_all : q = true ∨ (q = false ∧ q2 = true)) with rfl | ⟨rfl, rfl⟩
  all_goals
    clear hx
    go_enter Tryz.func120, Tryz.ntmps120
    go_wp2
    go_ret
    exact ⟨rfl, rfl⟩
set_option maxHeartbeats 1000000 in
theorem tII_Map_yes (g bt bf : Nat) (mt : List (Int × Int)) (mf : List (Int × Int)) (a : Int) (b : Int) (w : World) (h : TwoII w g bt bf mt mf) (h1 : mget mt a = none) (h2 : mget mf b = none) : Calls Tryz.prog 120 #[.pointer (some ⟨g, 0, none⟩), .int .i64 a, .int .i64 b] w fun e w' => e = .returned (.int .i64 0) ∧ TwoII w' g bt bf (mput mt a b) (mput mf b a) ∧ Ch [bt, bf] w w' := by
  have k0 := h.st.at_ (i := 0) rfl
  have k1 := h.st.at_ (i := 1) rfl
  have hl := lookIIt h a
  have hl2 := lookIIf h b
  rw [h1] at hl
  rw [h2] at hl2
  simp only [Option.getD_none, Option.isSome_none] at hl hl2
  have hT : MapAt intKeys w.drew bt (mt.map fun p => (p.1, (Value.int .i64) p.2)) := h.to_.of_block rfl
  have hF : MapAt intKeys w.drew bf (mf.map fun p => (p.1, (Value.int .i64) p.2)) := h.fr.of_block rfl
  obtain ⟨v1, s1, w1, r1, c1, x1⟩ := hT.run_mapEntry uIIt kIIA (.int .i64 0) zIIB a
  obtain ⟨w2, r2, m2, c2⟩ := x1 (.int .i64 b)
  have hF2 := (hF.ch c1 (by simp [h.ne_.symm])).ch c2 (by simp [h.ne_.symm])
  obtain ⟨v3, s3, w3, r3, c3, x3⟩ := hF2.run_mapEntry uIIf kIIB (.int .i64 0) zIIA b
  obtain ⟨w4, r4, m4, c4⟩ := x3 (.int .i64 a)
  have hT4 := (m2.ch c3 (by simp [h.ne_])).ch c4 (by simp [h.ne_])
  have hc : Ch [bt, bf] w w4 := ((((Ch.refl [bt, bf] w).drew.trans (c1.mono (by simp))).trans (c2.mono (by simp))).trans (c3.mono (by simp))).trans (c4.mono (by simp))
  have hfin : TwoII w4 g bt bf (mput mt a b) (mput mf b a) ∧ Ch [bt, bf] w w4 :=
    ⟨⟨h.st.ch hc (by simp [h.nt, h.nf]), by rw [← mput_over]; exact hT4, by rw [← mput_over]; exact m4, h.ne_, h.nt, h.nf⟩, hc⟩
  have HF := Lib.hid hfin
  clear hfin hc hT4 m4 c4 x3 c3 hF2 m2 c2 x1 c1 hT hF h h1 h2
  simp only [intKeys, intKeys] at r1 r2 r3 r4
  go_enter Tryz.func120, Tryz.ntmps120
  go_wp2_with fail
  go_region
  go_wp2
  go_ret
  exact ⟨rfl, HF.out⟩
theorem tII_Unmap_no (g bt bf : Nat) (mt : List (Int × Int)) (mf : List (Int × Int)) (a : Int) (w : World) (h : TwoII w g bt bf mt mf) (h1 : mget mt a = none) : Calls Tryz.prog 137 #[.pointer (some ⟨g, 0, none⟩), .int .i64 a] w fun e w' => e = .returned (.tuple #[.int .i64 0, .int .i64 9]) ∧ w = w' := by
  have k0 := h.st.at_ (i := 0) rfl
  have hl := lookIIt h a
  rw [h1] at hl
  simp only [Option.getD_none, Option.isSome_none] at hl
  clear h1
  go_enter Tryz.func137, Tryz.ntmps137
  go_wp2
  go_ret2
  exact ⟨rfl, rfl⟩
theorem tII_Unmap_yes (g bt bf : Nat) (mt : List (Int × Int)) (mf : List (Int × Int)) (a : Int) (b : Int) (w : World) (h : TwoII w g bt bf mt mf) (h1 : mget mt a = some b) : Calls Tryz.prog 137 #[.pointer (some ⟨g, 0, none⟩), .int .i64 a] w fun e w' => e = .returned (.tuple #[.int .i64 b, .int .i64 0]) ∧ TwoII w' g bt bf (mdel mt a) (mdel mf b) ∧ Ch [bt, bf] w w' := by
  have k0 := h.st.at_ (i := 0) rfl
  have hl := lookIIt h a
  rw [h1] at hl
  simp only [Option.getD_some, Option.isSome_some] at hl
  have d1 : ∀ ty, ∃ w1, (Builtin.delete_ #[60, 3] ty #[.map (some bt), .int .i64 a]).run Tryz.prog w = .ok (.tuple #[]) w1 ∧ MapAt intKeys w1 bt (mdel (mt.map fun p => (p.1, (Value.int .i64) p.2)) a) ∧ Ch [bt] w w1 := fun ty => h.to_.run_delete uIIt kIIA a _ ty
  obtain ⟨w1, r1, m1, c1⟩ := d1 0
  have hf1 := h.fr.ch c1 (by simp [h.ne_.symm])
  have d2 : ∀ ty, ∃ w2, (Builtin.delete_ #[60, 3] ty #[.map (some bf), .int .i64 b]).run Tryz.prog w1 = .ok (.tuple #[]) w2 ∧ MapAt intKeys w2 bf (mdel (mf.map fun p => (p.1, (Value.int .i64) p.2)) b) ∧ Ch [bf] w1 w2 := fun ty => hf1.run_delete uIIf kIIB b _ ty
  obtain ⟨w2, r2, m2, c2⟩ := d2 0
  have hs1 := h.st.ch c1 (by simp [h.nt])
  have q1 := hs1.at_ (i := 1) rfl
  have hc : Ch [bt, bf] w w2 := ((Ch.refl [bt, bf] w).trans (c1.mono (by simp))).trans (c2.mono (by simp))
  have hfin : TwoII w2 g bt bf (mdel mt a) (mdel mf b) ∧ Ch [bt, bf] w w2 :=
    ⟨⟨h.st.ch hc (by simp [h.nt, h.nf]), by rw [← mdel_over]; exact m1.ch c2 (by simp [h.ne_]), by rw [← mdel_over]; exact m2, h.ne_, h.nt, h.nf⟩, hc⟩
  have HF := Lib.hid hfin
  clear hfin hc hs1 m2 c2 d2 hf1 m1 c1 d1 h h1
  go_enter Tryz.func137, Tryz.ntmps137
  go_wp2
  go_ret2
  exact ⟨rfl, HF.out⟩

end Go.Proofs.YtjdbedoabcbeeaaGreatDoor
/- Package frames (layer 5): contracts. -/
namespace Go.Proofs.YtjdbedoabcbeeaaGreatDoor
open Go.RowKit
set_option linter.unusedVariables false
set_option linter.unusedSimpArgs false
attribute [local go_sem] World.cell?_alloc_lt

/-- A store of nf frames, so many a node: its bytes. -/
structure StoreAt (w : World) (g b : Nat) (each nf : Nat) (bs : List Int) : Prop where
  st : Blk w g 151 [.int .i64 each, .slice (some ⟨b, 0, none⟩) nf nf]
  dt : Blk w b 190 (bs.map (Value.int .u8))
  ln : bs.length = nf * 64
  mx : nf ≤ 8192
  e1 : 1 ≤ each
  e2 : each ≤ 1024
section
variable {w w' : World} {g b each nf : Nat} {bs : List Int}
theorem StoreAt.ch {S : List Nat} (h : StoreAt w g b each nf bs) (k : Ch S w w') (h1 : g ∉ S) (h2 : b ∉ S) : StoreAt w' g b each nf bs := ⟨h.st.ch k h1, h.dt.ch k h2, h.ln, h.mx, h.e1, h.e2⟩
theorem StoreAt.below (h : StoreAt w g b each nf bs) (k : Below w.heap.size w w') : StoreAt w' g b each nf bs := ⟨h.st.below k, h.dt.below k, h.ln, h.mx, h.e1, h.e2⟩
end
theorem idx_frame (b nf i : Nat) (hi : i < nf) (w : World) : (Instr.indexAt 149 (.slice (some ⟨b, 0, none⟩) nf nf) (.int .i64 (i : Int))).run Tryz.prog w = .ok (.pointer (some ⟨b, i * 64, none⟩)) w := by
  simp [go_sem, hi]
theorem fr_frame (g b each nf : Nat) (bs : List Int) (n : Nat) (w : World) (hG : StoreAt w g b each nf bs) (hn : n < nf) :
    Calls Tryz.prog 65 #[.pointer (some ⟨g, 0, none⟩), .int .i64 n] w fun e w' => e = .returned (.tuple #[.pointer (some ⟨b, n * 64, none⟩), .int .i64 0]) ∧ w = w' := by
  have k1 := hG.st.at_ (i := 1) rfl
  have hib := fun w => idx_frame b nf n hn w
  go_enter Tryz.func65, Tryz.ntmps65
  go_wp2_with fail
  go_ret2
  exact ⟨rfl, rfl⟩
theorem fr_frame_no (g b each nf : Nat) (bs : List Int) (n : Int) (w : World) (hG : StoreAt w g b each nf bs) (hn : n < 0 ∨ (nf : Int) ≤ n) :
    Calls Tryz.prog 65 #[.pointer (some ⟨g, 0, none⟩), .int .i64 n] w fun e w' => e = .returned (.tuple #[.pointer none, .int .i64 1]) ∧ w = w' := by
  have k1 := hG.st.at_ (i := 1) rfl
  rcases (by omega : n < 0 ∨ (0 ≤ n ∧ (nf : Int) ≤ n)) with h | ⟨h, h2⟩
  all_goals
    go_enter Tryz.func65, Tryz.ntmps65
    go_wp2_with fail
    go_ret2
    exact ⟨rfl, rfl⟩
/-- Where part (at, m) of a frame at off begins. -/
def partAt (o at_ : Nat) : Nat := if at_ = 64 then o else o + at_
theorem cut_frame (b o at_ m : Nat) (h : at_ + m ≤ 64) (w : World) : (Instr.sliceAt 190 (.pointer (some ⟨b, o, none⟩)) (some (.int .i64 (at_ : Int))) (some (.int .i64 ((at_ : Int) + (m : Int)))) none).run Tryz.prog w = .ok (.slice (some ⟨b, partAt o at_, none⟩) m (64 - at_)) w := by
  have hal : Tryz.prog.arrayLen 190 = 64 := by kernel_rfl
  have hsz : (sizeOf (Tryz.prog.elem 190)).run Tryz.prog w = .ok 1 w := by kernel_rfl
  have hr := run_sliceAt_array_lh (P := Tryz.prog) w 190 ⟨b, o, none⟩ (by kernel_rfl) .i64 .i64 (at_ : Int) ((at_ : Int) + (m : Int)) (by omega) (by omega) (by rw [hal]; omega)
  rw [hr, hsz, hal, Result.andThen_ok]
  unfold slicedAt partAt
  rw [WideShapes.add_plain, show ((at_ : Int) + (m : Int)).toNat = at_ + m from by omega, Int.toNat_natCast, Nat.mul_one, show at_ + m - at_ = m from by omega]
  by_cases h64 : at_ = 64
  · subst h64; rfl
  · rw [if_neg h64, if_neg (by omega)]
set_option maxRecDepth 100000 in
theorem fr_part (g b each nf : Nat) (bs : List Int) (n at_ m : Nat) (w : World) (hG : StoreAt w g b each nf bs) (hn : n < nf) (hat : at_ + m ≤ 64) :
    Calls Tryz.prog 88 #[.pointer (some ⟨g, 0, none⟩), .int .i64 n, .int .i64 at_, .int .i64 m] w fun e w' => e = .returned (.tuple #[.slice (some ⟨b, partAt (n * 64) at_, none⟩) m (64 - at_), .int .i64 0]) ∧ w = w' := by
  have hcut := fun w => cut_frame b (n * 64) at_ m hat w
  go_enter Tryz.func88, Tryz.ntmps88
  go_wp2_with fail
  refine (fr_frame g b each nf bs n w hG hn).mono ?_; rintro e w1 ⟨rfl, rfl⟩
  go_wp2_with fail
  go_ret2
  exact ⟨rfl, rfl⟩
end Go.Proofs.YtjdbedoabcbeeaaGreatDoor
/- Package frames (layer 5): Load, Save. -/
namespace Go.Proofs.YtjdbedoabcbeeaaGreatDoor
open Go.RowKit
set_option linter.unusedVariables false
set_option linter.unusedSimpArgs false
attribute [local go_sem] World.cell?_alloc_lt

theorem frame_in {nf n at_ m : Nat} {bs : List Int} (hl : bs.length = nf * 64) (hn : n < nf) (hat : at_ + m ≤ 64) : n * 64 + at_ + m ≤ bs.length := by
  omega
set_option maxRecDepth 100000 in
theorem fr_load (g b each nf : Nat) (bs : List Int) (n at_ m : Nat) (w : World) (hG : StoreAt w g b each nf bs) (hn : n < nf) (hat : at_ + m ≤ 64) :
    Calls Tryz.prog 66 #[.pointer (some ⟨g, 0, none⟩), .int .i64 n, .int .i64 at_, .int .i64 m] w fun e w' => ∃ h c, e = .returned (.tuple #[.slice (some ⟨h, 0, none⟩) m c, .int .i64 0]) ∧ w'.ownsRow w.heap.size 5 1 (.slice (some ⟨h, 0, none⟩) m c) m (((bs.drop (n * 64 + at_)).take m).map (Value.int .u8)) ∧ Below w.heap.size w w' := by
  have hin := frame_in hG.ln hn hat
  have hcl := cloneB_at b (partAt (n * 64) at_) m (64 - at_) (((bs.drop (n * 64 + at_)).take m).map (Value.int .u8)) (by simp; omega) (by intro u hu; obtain ⟨z, _, rfl⟩ := List.mem_map.1 hu; rfl) (by omega) w hG.dt.lt (by
    intro j u hj
    rw [List.getElem?_map, List.getElem?_take] at hj
    split at hj
    · rename_i hjm
      have e : partAt (n * 64) at_ = n * 64 + at_ := by unfold partAt; rw [if_neg (by omega)]
      rw [e]
      refine hG.dt.at_ ?_
      rw [List.getElem?_drop] at hj
      rw [List.getElem?_map]; exact hj
    · simp at hj)
  have HCL := Lib.hid hcl; clear hcl
  go_enter Tryz.func66, Tryz.ntmps66
  go_wp2_with fail
  refine (fr_part g b each nf bs n at_ m w hG hn hat).mono ?_; rintro e w1 ⟨rfl, rfl⟩
  go_wp2_with fail
  refine HCL.out.mono ?_; rintro e w2 ⟨h, c, rfl, hown, hB⟩
  go_wp2_with fail
  go_ret2
  exact ⟨h, c, rfl, hown, hB⟩
set_option maxRecDepth 100000 in
theorem fr_save (g b each nf : Nat) (bs : List Int) (n at_ : Nat) (B off m mc : Nat) (us : List Int) (hl : us.length = m) (w : World) (hG : StoreAt w g b each nf bs) (hn : n < nf) (hat : at_ + m ≤ 64)
    (hc : ∀ j u, us[j]? = some u → w.cell? ⟨B, off + j, none⟩ = some (.int .u8 u)) :
    Calls Tryz.prog 63 #[.pointer (some ⟨g, 0, none⟩), .int .i64 n, .int .i64 at_, .slice (some ⟨B, off, none⟩) m mc] w fun e w' => e = .returned (.int .i64 0) ∧ StoreAt w' g b each nf (putL bs (n * 64 + at_) us) ∧ Ch [b] w w' := by
  have hin := frame_in hG.ln hn hat
  obtain ⟨hb2, hch⟩ := Blk.setCells (us.map (Value.int .u8)) _ (partAt (n * 64) at_) w hG.dt
  have hcp := run_copy_cells (P := Tryz.prog) w 42 42 3 5 b (partAt (n * 64) at_) m (64 - at_) ⟨B, off, none⟩ m mc (us.map (Value.int .u8)) Tryz.underlying42 (by kernel_rfl) (by simp [hl]) (by
    intro j v hj
    rw [List.getElem?_map] at hj
    obtain ⟨u, hu, rfl⟩ := Option.map_eq_some_iff.1 hj
    rw [WideShapes.add_plain]
    exact hc j u hu) (by
    intro j hj
    have e : partAt (n * 64) at_ = n * 64 + at_ := by unfold partAt; rw [if_neg (by simp at hj; omega)]
    rw [e, hG.dt.cell, List.getElem?_map, List.getElem?_eq_getElem (by simp at hj; omega)]
    rfl) (fun j hj => hG.dt.frozen _) (by intro u hu; obtain ⟨z, _, rfl⟩ := List.mem_map.1 hu; rfl)
  have hpe : partAt (n * 64) at_ = n * 64 + at_ ∨ us = [] := by
    unfold partAt
    by_cases h64 : at_ = 64
    · right; exact List.eq_nil_of_length_eq_zero (by omega)
    · left; rw [if_neg h64]
  have hbm : StoreAt (w.setCells b (partAt (n * 64) at_) (us.map (Value.int .u8))) g b each nf (putL bs (n * 64 + at_) us) := by
    refine ⟨hG.st.ch hch (by simpa using (hG.st.ne_ hG.dt (by decide))), ?_, by rw [putL_len]; exact hG.ln, hG.mx, hG.e1, hG.e2⟩
    rw [putL_map]
    rcases hpe with e | e
    · rw [e] at hb2 ⊢; exact hb2
    · subst e; exact hb2
  rw [List.length_map, hl] at hcp
  generalize w.setCells b (partAt (n * 64) at_) (us.map (Value.int .u8)) = w2 at *
  have HBM := Lib.hid hbm; have HCH := Lib.hid hch
  clear hbm hch hb2 hpe hc
  go_enter Tryz.func63, Tryz.ntmps63
  go_wp2_with fail
  refine (fr_part g b each nf bs n at_ m w hG hn hat).mono ?_; rintro e w1 ⟨rfl, rfl⟩
  clear hG
  go_wp2_with fail
  go_ret
  exact ⟨rfl, HBM.out, HCH.out⟩
end Go.Proofs.YtjdbedoabcbeeaaGreatDoor
