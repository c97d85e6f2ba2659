/- Package rule: line, List, of a text that is a list. -/
import Derived.Test.YtdpcnbbaipdmjaaDoorRuleNames
import Derived.Test.YtdpcnbbaipdmjaaDoorShaped
import Derived.Test.YtdpcnbbaipdmjaaDoorOwnRows
import Derived.Deep.RegionHeld
import Derived.Deep.CutBlock
namespace Go.Proofs.YtdpcnbbaipdmjaaDoor
open Go.RowKit Go.Shelf
set_option linter.unusedVariables false
set_option linter.unusedSimpArgs false
attribute [local go_sem] World.cell?_alloc_lt

/-! ### Two rows of the call's own, and blocks beside them. -/
structure RS (w x : World) (e1 s1 : Nat) (v1 : Value) (n1 : Nat) (x1 : List Value) (e2 s2 : Nat) (v2 : Value) (n2 : Nat) (x2 : List Value) (Bs : List (Nat × TypeId × List Value)) : Prop where
  o1 : x.ownsRow w.heap.size e1 s1 v1 n1 x1
  o2 : x.ownsRow w.heap.size e2 s2 v2 n2 x2
  bs : ∀ q ∈ Bs, Blk x q.1 q.2.1 q.2.2 ∧ v1.ownBlock ≠ some q.1 ∧ v2.ownBlock ≠ some q.1
  bel : Below w.heap.size w x
section
variable {w x y : World} {e1 s1 e2 s2 n1 n2 n' g : Nat} {v1 v2 v' : Value} {x1 x2 x' : List Value} {Bs : List (Nat × TypeId × List Value)}
theorem RS.swap (h : RS w x e1 s1 v1 n1 x1 e2 s2 v2 n2 x2 Bs) : RS w x e2 s2 v2 n2 x2 e1 s1 v1 n1 x1 Bs := ⟨h.o2, h.o1, fun q hq => ⟨(h.bs q hq).1, (h.bs q hq).2.2, (h.bs q hq).2.1⟩, h.bel⟩
theorem RS.alloc (h : RS w x e1 s1 v1 n1 x1 e2 s2 v2 n2 x2 Bs) (t : TypeId) (cs : List Value) : RS w (x.alloc (.cells cs.toArray t)) e1 s1 v1 n1 x1 e2 s2 v2 n2 x2 ((x.heap.size, t, cs) :: Bs) := by
  refine ⟨own_chV h.o1 ((Ch.refl [] x).alloc _) (by simp), own_chV h.o2 ((Ch.refl [] x).alloc _) (by simp), fun q hq => ?_, bel_alloc h.bel _⟩
  rcases List.mem_cons.1 hq with rfl | hq
  · exact ⟨Blk.new x t cs, fun e => by have := (h.o1.lt _ e).2; simp at this, fun e => by have := (h.o2.lt _ e).2; simp at this⟩
  · exact ⟨(h.bs q hq).1.alloc _, (h.bs q hq).2⟩
theorem RS.one (h : RS w x e1 s1 v1 n1 x1 e2 s2 v2 n2 x2 Bs) (hne : e1 ≠ e2) (hg : x.grownBy y v1.ownBlock) (ho : y.ownsRow w.heap.size e1 s1 v' n' x') (hv : v'.ownBlock = some g) (hor : v1.ownBlock = some g ∨ g = x.heap.size) : RS w y e1 s1 v' n' x' e2 s2 v2 n2 x2 Bs := by
  have hc : Ch v1.ownBlock.toList x y := (Ch.refl _ x).grown hg (fun k hk => Or.inl (by rw [hk]; simp))
  refine ⟨ho, own_chV h.o2 hc (fun q hq hm => by rw [Option.mem_toList] at hm; exact own_apart h.o1 h.o2 hne q hm hq), fun q hq => ?_, h.bel.grown hg h.bel.size (fun k hk => (h.o1.lt k hk).1)⟩
  obtain ⟨b1, b2, b3⟩ := h.bs q hq
  refine ⟨b1.grown hg (fun e => b2 e.symm), fun e => ?_, b3⟩
  rw [hv] at e
  rcases hor with h1 | h1
  · exact b2 (h1.trans e)
  · injection e with e
    have := b1.lt
    omega
theorem RS.two (h : RS w x e1 s1 v1 n1 x1 e2 s2 v2 n2 x2 Bs) (hne : e1 ≠ e2) (hg : x.grownBy y v2.ownBlock) (ho : y.ownsRow w.heap.size e2 s2 v' n' x') (hv : v'.ownBlock = some g) (hor : v2.ownBlock = some g ∨ g = x.heap.size) : RS w y e1 s1 v1 n1 x1 e2 s2 v' n' x' Bs :=
  (h.swap.one (Ne.symm hne) hg ho hv hor).swap
end
theorem info_pol : (Tryd.prog.info? 24).map (fun i => (i.zero, i.size, i.bytes)) = some (some (.agg #[.int .i64 0, .int .u8 0, .int .i64 0]), 3, 24) := by kernel_rfl

/-! ### Lines. -/
structure Ln where
  nm : ByteArray
  t : ByteArray
  p : Pol
def Ln.txt (q : Ln) : List UInt8 := q.nm.data.toList ++ [58, 32] ++ q.t.data.toList
def Ln.cells (q : Ln) : List Value := [.int .i64 q.p.m, .int .u8 (q.p.s : Int), .int .i64 q.p.n]
def flatL : List Ln → List UInt8
  | [] => []
  | q :: r => q.txt ++ [10] ++ flatL r
structure LnOk (q : Ln) : Prop where
  nm : okName q.nm = true
  nl : ∀ x ∈ q.t.data.toList, x ≠ 10
  rl : ruleO q.t = some q.p
theorem LnOk.let_ {q : Ln} (h : LnOk q) : ∀ x ∈ q.nm.data.toList, letter x = true := by
  have := h.nm
  unfold okName at this
  rw [Bool.and_eq_true, List.all_eq_true] at this
  exact this.2
theorem LnOk.txt {q : Ln} (h : LnOk q) : ∀ x ∈ q.txt, x ≠ 10 := by
  intro x hx
  unfold Ln.txt at hx
  rcases List.mem_append.1 hx with hx | hx
  · rcases List.mem_append.1 hx with hx | hx
    · have := of_decide_eq_true (h.let_ x hx)
      intro e; subst e; simp at this
    · intro e; subst e; simp at hx
  · exact h.nl x hx
theorem flat_len (q : Ln) (r : List Ln) : (flatL (q :: r)).length = q.nm.size + q.t.size + 3 + (flatL r).length := by
  simp only [flatL, Ln.txt, List.length_append, List.length_cons, List.length_nil, len_data]
  omega
theorem cut_line {q : Ln} (h : LnOk q) (r : List Ln) : Lib.cut (flatL (q :: r)) [10] = (q.txt, flatL r, true) := cut_first (tl := []) rfl h.txt
theorem cut_name {q : Ln} (h : LnOk q) : Lib.cut q.txt [58, 32] = (q.nm.data.toList, q.t.data.toList, true) :=
  cut_first (tl := [32]) rfl (fun x hx => by
    have := of_decide_eq_true (h.let_ x hx)
    intro e; subst e; simp at this)
def bytesL (l : List UInt8) : ByteArray := ⟨l.toArray⟩
theorem bytesL_list (l : List UInt8) : (bytesL l).data.toList = l := rfl
theorem bytesL_size (l : List UInt8) : (bytesL l).size = l.length := rfl
theorem bytesL_self (b : ByteArray) : bytesL b.data.toList = b := by
  obtain ⟨⟨l⟩⟩ := b; rfl
theorem cut_call (s sep : List UInt8) (a b : List UInt8) (hc : Lib.cut s sep = (a, b, true)) (hs : s.length < 4294967281) (m : Int) (w : World) (hm : w.cell? ⟨0, 0, none⟩ = some (.int .i64 m)) : Calls Tryd.prog 31 #[.string (bytesL s), .string (bytesL sep)] w fun e w' => e = .returned (.tuple #[.string (bytesL a), .string (bytesL b), .bool true]) ∧ ∃ n, w' = w.drewN n := by
  have h := Tryd.strings_Cut (bytesL s) (bytesL sep) m w hs hm
  rw [bytesL_list, bytesL_list, hc] at h
  exact h
set_option maxRecDepth 100000 in
theorem line_ok (q : Ln) (h : LnOk q) (hz : q.txt.length ≤ 1000000) (m : Int) (w : World) (hm : w.cell? ⟨0, 0, none⟩ = some (.int .i64 m)) : Calls Tryd.prog 32 #[.string (bytesL q.txt)] w fun e w' => e = .returned (.tuple #[.string q.nm, q.p.v, .int .i64 0]) ∧ Below w.heap.size w w' := by
  have hzz : q.nm.size + q.t.size + 2 = q.txt.length := by
    unfold Ln.txt
    simp only [List.length_append, List.length_cons, List.length_nil, len_data]
    omega
  have hcut := fun w hm => cut_call q.txt [58, 32] _ _ (cut_name h) (by omega) m w hm
  rw [bytesL_self, bytesL_self, show bytesL [58, 32] = ⟨#[58, 32]⟩ from rfl] at hcut
  have hn := fun w => named_any q.nm (by omega) w
  rw [h.nm] at hn
  have hp := fun w => ruleParse_any q.t (by omega) w
  rw [h.rl] at hp
  unfold Pol.v
  simp only [ruleV, Pol.v] at hp
  generalize q.p.m = pm at *
  generalize q.p.s = ps at *
  generalize q.p.n = pn at *
  generalize bytesL q.txt = X at *
  generalize q.nm = nm at *
  generalize q.t = tt at *
  have hb0 := Blk.new w 24 [.int .i64 0, .int .u8 0, .int .i64 0]
  have hB0 := bel_alloc (Below.refl w.heap.size w) (.cells #[.int .i64 0, .int .u8 0, .int .i64 0] 24)
  have hm1 := (hB0.cell (p := ⟨0, 0, none⟩) (World.block_lt_of_cell? w _ hm)).trans hm
  have HC := Lib.hid (hcut _ hm1); have HN := Lib.hid hn; have HP := Lib.hid hp; have HB0 := Lib.hid hB0; have HK0 := Lib.hid hb0
  clear hcut hn hp hB0 hb0 hm1 hm h hz hzz
  go_enter Tryd.func32, Tryd.ntmps32
  go_wp2_with fail
  refine HC.out.mono ?_; rintro e w1 ⟨rfl, n1, rfl⟩
  go_wp2_with fail
  refine (HN.out _).mono ?_; rintro e w2 ⟨rfl, hB1⟩
  have HB1 := Lib.hid (bel_trans (bel_drewN HB0.out n1) hB1)
  have HK1 := Lib.hid ((HK0.out.drewN n1).below hB1)
  clear hB1 HB0 HK0
  go_wp2_with fail
  refine (HP.out _).mono ?_; rintro e w3 ⟨rfl, hB1⟩
  have HB2 := Lib.hid (bel_trans HB1.out hB1)
  have HK2 := Lib.hid (HK1.out.below hB1)
  clear hB1 HB1 HK1
  go_upto_region 5 with fail
  have hb5 := Blk.new w3 24 [.int .i64 pm, .int .u8 (ps : Int), .int .i64 pn]
  have hb6 := HK2.out.alloc (.cells #[.int .i64 pm, .int .u8 (ps : Int), .int .i64 pn] 24)
  have hB6 := bel_alloc HB2.out (.cells #[.int .i64 pm, .int .u8 (ps : Int), .int .i64 pn] 24)
  have hne := HK2.out.lt
  generalize w3.alloc (.cells #[.int .i64 pm, .int .u8 (ps : Int), .int .i64 pn] 24) = w6 at *
  generalize w3.heap.size = g8 at *
  have q0 := hb5.at_ (i := 0) rfl
  have q1 := hb5.at_ (i := 1) rfl
  have q2 := hb5.at_ (i := 2) rfl
  have f0 := hb6.frozen 0; have f1 := hb6.frozen 1; have f2 := hb6.frozen 2
  have z0 := hb6.at_ (i := 0) rfl
  have z1 := hb6.at_ (i := 1) rfl
  have z2 := hb6.at_ (i := 2) rfl
  have HB6 := Lib.hid hB6; have HK6 := Lib.hid hb6
  clear hb5 hb6 hB6 HB2 HK2
  go_region_with (fail)
  have hb3 : Blk (((w6.setCell ⟨w.heap.size, 0, none⟩ (.int .i64 pm)).setCell ⟨w.heap.size, 1, none⟩ (.int .u8 (ps : Int))).setCell ⟨w.heap.size, 2, none⟩ (.int .i64 pn)).drew w.heap.size 24 [.int .i64 pm, .int .u8 (ps : Int), .int .i64 pn] := HK6.out.three.drew
  have hB3 : Below w.heap.size w (((w6.setCell ⟨w.heap.size, 0, none⟩ (.int .i64 pm)).setCell ⟨w.heap.size, 1, none⟩ (.int .u8 (ps : Int))).setCell ⟨w.heap.size, 2, none⟩ (.int .i64 pn)).drew := bel_drew (bel_set (bel_set (bel_set HB6.out (by simp) _) (by simp) _) (by simp) _)
  generalize (((w6.setCell ⟨w.heap.size, 0, none⟩ (.int .i64 pm)).setCell ⟨w.heap.size, 1, none⟩ (.int .u8 (ps : Int))).setCell ⟨w.heap.size, 2, none⟩ (.int .i64 pn)).drew = w7 at *
  have e0 := hb3.at_ (i := 0) rfl
  have e1 := hb3.at_ (i := 1) rfl
  have e2 := hb3.at_ (i := 2) rfl
  clear q0 q1 q2 z0 z1 z2 f0 f1 f2
  go_wp2_with fail
  exact bodyPost_ret (v := .tuple #[.string nm, .agg #[.int .i64 pm, .int .u8 (ps : Int), .int .i64 pn], .int .i64 0]) (by simp [results, Tryd.results32, go_sem, e0, e1, e2]) rfl ⟨rfl, hB3⟩
/-! ### The names that are there. -/
theorem contains_own {w : World} {base n c : Nat} {A : Option Addr} {zs : List ByteArray} {x : ByteArray} (h : w.ownsRow base 9 1 (.slice A n c) n (zs.map Value.string)) (hx : x ∉ zs) (hn : n ≤ 9223372036854775807) : Calls Tryd.prog 33 #[.slice A n c, .string x] w fun e w' => e = .returned (.bool false) ∧ w' = w := by
  have hl := own_len h
  rw [List.length_map] at hl
  cases zs with
  | nil =>
    obtain rfl : n = 0 := by simpa using hl.symm
    exact Tryd.slices_Contains_string_empty A c x w
  | cons z zs =>
    obtain ⟨g, rfl, _⟩ := own_at h (k := 0) (u := .string z) rfl
    have hc : Lib.containsS ((z :: zs).take n) x = false := by
      rw [List.take_of_length_le (by omega)]
      rw [Bool.eq_false_iff]
      intro e
      exact hx ((Lib.containsS_iff _ _).1 e)
    have := Tryd.slices_Contains_string g 0 n c (z :: zs) x w (by omega) hn (fun j hj => by
      obtain ⟨g2, e, hcell, _⟩ := own_at h (k := j) (u := .string ((z :: zs).getD j ByteArray.empty)) (by
        rw [List.getElem?_map, List.getD_eq_getElem?_getD, List.getElem?_eq_getElem hj]; rfl)
      injection e with e
      injection e with e
      subst e
      rw [Nat.zero_add]
      exact hcell)
    rw [hc] at this
    exact this
def namesB (L : List Ln) : List ByteArray := L.map Ln.nm
def namesV (L : List Ln) : List Value := (namesB L).map Value.string
def polsV (L : List Ln) : List Value := L.flatMap Ln.cells
theorem polsV_snoc (L : List Ln) (q : Ln) : polsV (L ++ [q]) = polsV L ++ [.int .i64 q.p.m, .int .u8 (q.p.s : Int), .int .i64 q.p.n] := by
  unfold polsV
  rw [List.flatMap_append]
  simp [Ln.cells]
theorem namesV_snoc (L : List Ln) (q : Ln) : namesV (L ++ [q]) = namesV L ++ [.string q.nm] := by
  unfold namesV namesB
  rw [List.map_append, List.map_append]
  rfl
structure LsOk (L : List Ln) : Prop where
  each : ∀ q ∈ L, LnOk q
  nd : (namesB L).Nodup
  len : L.length ≤ 100
  size : (flatL L).length ≤ 1000000
theorem LsOk.fresh {L : List Ln} (h : LsOk L) {i : Nat} {q : Ln} (hq : L[i]? = some q) : q.nm ∉ namesB (L.take i) := by
  intro hm
  have hnd := h.nd
  obtain ⟨hi, he⟩ := List.getElem?_eq_some_iff.1 hq
  have h1 : namesB L = namesB (L.take i) ++ namesB (L.drop i) := by
    unfold namesB
    rw [← List.map_append, List.take_append_drop]
  rw [h1, List.nodup_append] at hnd
  refine hnd.2.2 _ hm q.nm ?_ rfl
  rw [List.drop_eq_getElem_cons hi]
  unfold namesB
  rw [he]
  exact List.mem_map_of_mem (List.mem_cons_self)
theorem flat_drop {L : List Ln} : ∀ i : Nat, (flatL (L.drop i)).length ≤ (flatL L).length := by
  induction L with
  | nil => intro i; simp [flatL]
  | cons q r ih =>
    intro i
    cases i with
    | zero => exact Nat.le_refl _
    | succ i => rw [List.drop_succ_cons, flat_len]; have := ih i; omega
set_option maxRecDepth 100000 in
set_option maxHeartbeats 4000000 in
theorem list_lines (L : List Ln) (h : LsOk L) (m : Int) (w : World) (hm : w.cell? ⟨0, 0, none⟩ = some (.int .i64 m)) :
    Calls Tryd.prog 16 #[.string (bytesL (flatL L))] w fun e w' => ∃ A c B d, e = .returned (.tuple #[.slice A L.length c, .slice B L.length d, .int .i64 0, .int .i64 0]) ∧ w'.ownsRow w.heap.size 9 1 (.slice A L.length c) L.length (namesV L) ∧ w'.ownsRow w.heap.size 24 3 (.slice B L.length d) L.length (polsV L) ∧ Below w.heap.size w w' := by
  have hB0 := Below.refl w.heap.size w
  obtain ⟨i0, hi0', hz0, hz1, hz2⟩ := info_parts info_str
  have HI := Lib.hid hi0'; have HZ0 := Lib.hid hz0; have HZ1 := Lib.hid hz1; have HZ2 := Lib.hid hz2
  clear hi0' hz0 hz1 hz2
  obtain ⟨j0, hj0', hy0, hy1, hy2⟩ := info_parts info_pol
  have HJ := Lib.hid hj0'; have HY0 := Lib.hid hy0; have HY1 := Lib.hid hy1; have HY2 := Lib.hid hy2
  clear hj0' hy0 hy1 hy2
  have HM := Lib.hid hm
  have hlen := h.len
  have H := Lib.hid h
  clear h hm
  go_enter Tryd.func16, Tryd.ntmps16
  go_wp2_with fail
  go_loopw [0, 6, 7, 8] (fun v0 v6 v7 v8 wr => ∃ (i : Nat) (A : Option Addr) (c : Nat) (B : Option Addr) (d : Nat), i ≤ L.length ∧ v0 = .string (bytesL (flatL (L.drop i))) ∧ v6 = .slice A i c ∧ v7 = .slice B i d ∧ v8 = .int .i64 ((i : Int) + 1) ∧ wr.ownsRow w.heap.size 9 1 (.slice A i c) i (namesV (L.take i)) ∧ wr.ownsRow w.heap.size 24 3 (.slice B i d) i (polsV (L.take i)) ∧ Below w.heap.size w wr) (fun _ _ _ v _ => L.length + 1 - (intOf v).toNat)
  case atStart => exact ⟨0, none, 0, none, 0, by omega, rfl, rfl, rfl, rfl, ⟨rfl, Or.inl ⟨rfl, rfl⟩⟩, ⟨rfl, Or.inl ⟨rfl, rfl⟩⟩, hB0⟩
  case round =>
    clear hB0
    obtain ⟨i, A, c, B, d, hi, rfl, rfl, rfl, rfl, ho1, ho2, hB⟩ := hrel
    by_cases hlt : i < L.length
    · have hq : L[i]? = some L[i] := List.getElem?_eq_getElem hlt
      have hok := H.out.each L[i] (List.getElem_mem hlt)
      have hfr := H.out.fresh hq
      have hdr : L.drop i = L[i] :: L.drop (i + 1) := List.drop_eq_getElem_cons hlt
      have hsz1 := flat_drop (L := L) i
      have hsz2 := H.out.size
      have hz := flat_len L[i] (L.drop (i + 1))
      rw [← hdr] at hz
      have htz : L[i].txt.length ≤ 1000000 := by
        unfold Ln.txt
        simp only [List.length_append, List.length_cons, List.length_nil, len_data]
        omega
      have hcl := cut_line hok (L.drop (i + 1))
      rw [← hdr] at hcl
      have hcut := fun w hm => cut_call _ [10] _ _ hcl (by omega) m w hm
      rw [show bytesL [10] = ⟨#[10]⟩ from rfl] at hcut
      have hln := fun w hm => line_ok L[i] hok htz m w hm
      unfold Pol.v at hln
      have hnn : (bytesL (flatL (L.drop i))).toList.isEmpty = false := by
        rw [Lib.toList_data, bytesL_list, List.isEmpty_eq_false_iff]
        intro e
        rw [e, List.length_nil] at hz
        omega
      have hT1 : namesV (L.take (i + 1)) = namesV (L.take i) ++ [.string L[i].nm] := by
        rw [List.take_add_one, hq]; exact namesV_snoc _ _
      have hT2 : polsV (L.take (i + 1)) = polsV (L.take i) ++ [.int .i64 L[i].p.m, .int .u8 (L[i].p.s : Int), .int .i64 L[i].p.n] := by
        rw [List.take_add_one, hq]; exact polsV_snoc _ _
      have HT1 := Lib.hid hT1; have HT2 := Lib.hid hT2; have HFR := Lib.hid hfr
      clear hT1 hT2 hfr hq hok hdr hsz1 hsz2 hz htz hcl
      generalize polsV (L.take i) = pv at *
      generalize hrest : bytesL (flatL (L.drop (i + 1))) = rest at *
      have HRE := Lib.hid hrest; clear hrest
      generalize bytesL (flatL (L.drop i)) = X at *
      generalize bytesL L[i].txt = LB at *
      generalize L[i].p.m = pm at *
      generalize L[i].p.s = ps at *
      generalize L[i].p.n = pn at *
      generalize L[i].nm = nm at *
      have hm1 := (hB.cell (p := ⟨0, 0, none⟩) (World.block_lt_of_cell? w _ HM.out)).trans HM.out
      have HC := Lib.hid (hcut _ hm1); have HLN := Lib.hid hln
      clear hcut hln hm1
      have HB := Lib.hid hB; have HO1 := Lib.hid ho1; have HO2 := Lib.hid ho2
      clear hB ho1 ho2
      go_wp2_with fail
      refine HC.out.mono ?_; rintro e w1 ⟨rfl, n1, rfl⟩
      have hB1 := bel_drewN HB.out n1
      have hm1 := (hB1.cell (p := ⟨0, 0, none⟩) (World.block_lt_of_cell? w _ HM.out)).trans HM.out
      have HL1 := Lib.hid (HLN.out _ hm1)
      have HB1 := Lib.hid hB1
      clear hm1 hB1 HC
      go_wp2_with fail
      refine HL1.out.mono ?_; rintro e w2 ⟨rfl, hB2⟩
      have HBw := Lib.hid (bel_trans HB1.out hB2)
      have HO1b := Lib.hid (own_chV HO1.out ((Ch.below (bel_drewN (Below.refl _ _) n1) []).trans (Ch.below hB2 [])) (by simp))
      have HO2b := Lib.hid (own_chV HO2.out ((Ch.below (bel_drewN (Below.refl _ _) n1) []).trans (Ch.below hB2 [])) (by simp))
      clear hB2 HB1 HL1 HLN HO1 HO2 HB
      go_upto_region 10 with fail
      have hRS : RS w w2 9 1 (.slice A i c) i (namesV (L.take i)) 24 3 (.slice B i d) i pv [] := ⟨HO1b.out, HO2b.out, fun q hq => by simp at hq, HBw.out⟩
      have hRS2 := hRS.alloc 24 [.int .i64 pm, .int .u8 (ps : Int), .int .i64 pn]
      clear HO1b HO2b HBw hRS
      generalize w2.alloc (.cells #[.int .i64 pm, .int .u8 (ps : Int), .int .i64 pn] 24) = w3 at *
      generalize w2.heap.size = gp at *
      have hcn := contains_own hRS2.o1 HFR.out (by omega)
      have HCN := Lib.hid hcn; have HRS := Lib.hid hRS2
      clear hcn hRS2
      go_wp2_with fail
      refine HCN.out.mono ?_; rintro e w4 ⟨rfl, rfl⟩
      clear HCN
      go_upto_region 14 with fail
      refine wp_region_noPanic ?_
      have hRS0 := HRS.out
      refine wp_region_held_drew (S := fun y => Blk y gp 24 [.int .i64 pm, .int .u8 (ps : Int), .int .i64 pn]) (by kernel_rfl) ((HRS.out.bs (gp, 24, [.int .i64 pm, .int .u8 (ps : Int), .int .i64 pn]) (by simp)).1.drew) (fun hHeld => ?_)
      have hRS1 : RS w w4.drew 9 1 (.slice A i c) i (namesV (L.take i)) 24 3 (.slice B i d) i pv [(gp, 24, [.int .i64 pm, .int .u8 (ps : Int), .int .i64 pn])] := ⟨hRS0.o1, hRS0.o2, hRS0.bs, bel_drew hRS0.bel⟩
      clear hRS0 HRS hHeld
      generalize w4.drew = x at *
      have HRS := Lib.hid hRS1
      clear hRS1
      refine wpAnyH_take (i := 0) (oi := ⟨some 43, _, _, _, _, _⟩) (v := .slice A i c) rfl (by kernel_rfl) (by kernel_rfl) (by kernel_rfl) (fun _ _ _ h => h) (Or.inl ⟨by rfl, by intro wy hSw; go_simp⟩) ((HRS.out.bs (gp, 24, [.int .i64 pm, .int .u8 (ps : Int), .int .i64 pn]) (by simp)).1) ?_
      try simp only [Act.put, List.setIfInBounds_toArray, List.set_cons_zero, List.set_cons_succ]
      refine wpAnyH_take (i := 1) (oi := ⟨some 44, _, _, _, _, _⟩) (v := .string nm) rfl (by kernel_rfl) (by kernel_rfl) (by kernel_rfl) (fun _ _ _ h => h) (Or.inl ⟨by rfl, by intro wy hSw; go_simp⟩) ((HRS.out.bs (gp, 24, [.int .i64 pm, .int .u8 (ps : Int), .int .i64 pn]) (by simp)).1) ?_
      try simp only [Act.put, List.setIfInBounds_toArray, List.set_cons_zero, List.set_cons_succ]
      refine wpAnyH_take (i := 4) (oi := ⟨some 47, _, _, _, _, _⟩) (v := .slice B i d) rfl (by kernel_rfl) (by kernel_rfl) (by kernel_rfl) (fun _ _ _ h => h) (Or.inl ⟨by rfl, by intro wy hSw; go_simp⟩) ((HRS.out.bs (gp, 24, [.int .i64 pm, .int .u8 (ps : Int), .int .i64 pn]) (by simp)).1) ?_
      try simp only [Act.put, List.setIfInBounds_toArray, List.set_cons_zero, List.set_cons_succ]
      refine wpAnyH_take (i := 5) (oi := ⟨some 48, _, _, _, _, _⟩) (v := .agg #[.int .i64 pm, .int .u8 (ps : Int), .int .i64 pn]) rfl (by kernel_rfl) (by kernel_rfl) (by kernel_rfl) (fun _ _ _ h => h) (Or.inl ⟨by rfl, by intro wy hSw; have q0 := hSw.at_ (i := 0) rfl; have q1 := hSw.at_ (i := 1) rfl; have q2 := hSw.at_ (i := 2) rfl; go_simp⟩) ((HRS.out.bs (gp, 24, [.int .i64 pm, .int .u8 (ps : Int), .int .i64 pn]) (by simp)).1) ?_
      try simp only [Act.put, List.setIfInBounds_toArray, List.set_cons_zero, List.set_cons_succ]
      refine wpAnyH_take (i := 8) (oi := ⟨some 51, _, _, _, _, _⟩) (v := .string rest) rfl (by kernel_rfl) (by kernel_rfl) (by kernel_rfl) (fun _ _ _ h => h) (Or.inl ⟨by rfl, by intro wy hSw; go_simp⟩) ((HRS.out.bs (gp, 24, [.int .i64 pm, .int .u8 (ps : Int), .int .i64 pn]) (by simp)).1) ?_
      try simp only [Act.put, List.setIfInBounds_toArray, List.set_cons_zero, List.set_cons_succ]
      refine wpAnyH_ready (rs := [2, 6]) (by kernel_rfl) (by simp) ?_
      refine AllReadyH.cons (o := ⟨some 45, _, _, _, _, _⟩) rfl (fun K hK => ?_) ?_
      · go_simp
        have hRS1 := HRS.out.alloc 9 [.string nm]
        clear HRS
        generalize x.alloc (.cells #[.string nm] 9) = y at *
        generalize x.heap.size = p1 at *
        clear x
        obtain ⟨x, rfl⟩ : ∃ x, x = y := ⟨_, rfl⟩
        have HRS := Lib.hid hRS1; clear hRS1
        refine hK.out _ _ ((HRS.out.bs (gp, 24, [.int .i64 pm, .int .u8 (ps : Int), .int .i64 pn]) (by simp)).1) (fun hHeld => ?_)
        clear hK K hHeld
        try simp only [Act.put, List.setIfInBounds_toArray, List.set_cons_zero, List.set_cons_succ]
        refine wpAnyH_ready (rs := [3, 6]) (by kernel_rfl) (by simp) ?_
        refine AllReadyH.cons (o := ⟨some 46, _, _, _, _, _⟩) rfl (fun K hK => ?_) ?_
        · refine step_append_lies x (by rfl) (.tmp 43) (.tmp 45) _ (by rfl) w.heap.size 9 i0 _ 1 16 Tryd.underlying45 HI.out HZ0.out HZ1.out HZ2.out rfl (by omega) (.slice A i c) i _ (by rfl) HRS.out.o1 ⟨p1, 0, none⟩ 1 1 [.string nm] (by rfl) rfl (World.news_of_block ((HRS.out.bs (p1, 9, [.string nm]) (by simp)).1)) (by simp [Value.oneCell']) (by omega) (by unfold maxLen; omega) (by omega) HRS.out.bel.size _ rfl ?_
          intro gA cA y ho hg hor hzz
          have hRS1 := HRS.out.one (by decide) hg ho rfl hor
          clear HRS ho hg hor hzz x
          obtain ⟨x, rfl⟩ : ∃ x, x = y := ⟨_, rfl⟩
          have HRS := Lib.hid hRS1; clear hRS1
          refine hK.out _ _ ((HRS.out.bs (gp, 24, [.int .i64 pm, .int .u8 (ps : Int), .int .i64 pn]) (by simp)).1) (fun hHeld => ?_)
          clear hK K hHeld
          try simp only [Act.put, List.setIfInBounds_toArray, List.set_cons_zero, List.set_cons_succ]
          refine wpAnyH_ready (rs := [6]) (by kernel_rfl) (by simp) ?_
          refine AllReadyH.cons (o := ⟨some 49, _, _, _, _, _⟩) rfl (fun K hK => ?_) ?_
          · go_simp
            have hRS1 := HRS.out.alloc 24 [.int .i64 pm, .int .u8 (ps : Int), .int .i64 pn]
            clear HRS
            generalize x.alloc (.cells #[.int .i64 pm, .int .u8 (ps : Int), .int .i64 pn] 24) = y at *
            generalize x.heap.size = p2 at *
            clear x
            obtain ⟨x, rfl⟩ : ∃ x, x = y := ⟨_, rfl⟩
            have HRS := Lib.hid hRS1; clear hRS1
            refine hK.out _ _ ((HRS.out.bs (gp, 24, [.int .i64 pm, .int .u8 (ps : Int), .int .i64 pn]) (by simp)).1) (fun hHeld => ?_)
            clear hK K hHeld
            try simp only [Act.put, List.setIfInBounds_toArray, List.set_cons_zero, List.set_cons_succ]
            refine wpAnyH_ready (rs := [7]) (by kernel_rfl) (by simp) ?_
            refine AllReadyH.cons (o := ⟨some 50, _, _, _, _, _⟩) rfl (fun K hK => ?_) ?_
            · refine step_append_lies x (by rfl) (.tmp 47) (.tmp 49) _ (by rfl) w.heap.size 24 j0 _ 3 24 Tryd.underlying46 HJ.out HY0.out HY1.out HY2.out rfl (by omega) (.slice B i d) i _ (by rfl) HRS.out.o2 ⟨p2, 0, none⟩ 1 1 [.int .i64 pm, .int .u8 (ps : Int), .int .i64 pn] (by rfl) rfl (World.news_of_block ((HRS.out.bs (p2, 24, [.int .i64 pm, .int .u8 (ps : Int), .int .i64 pn]) (by simp)).1)) (by simp [Value.oneCell']) (by omega) (by unfold maxLen; omega) (by omega) HRS.out.bel.size _ rfl ?_
              intro gB cB y ho hg hor hzz
              have hRS1 := HRS.out.two (by decide) hg ho rfl hor
              clear HRS ho hg hor hzz x
              obtain ⟨x, rfl⟩ : ∃ x, x = y := ⟨_, rfl⟩
              have HRS := Lib.hid hRS1; clear hRS1
              refine hK.out _ _ ((HRS.out.bs (gp, 24, [.int .i64 pm, .int .u8 (ps : Int), .int .i64 pn]) (by simp)).1) (fun hHeld => ?_)
              clear hK K hHeld
              try simp only [Act.put, List.setIfInBounds_toArray, List.set_cons_zero, List.set_cons_succ]
              refine wpAnyH_take (i := 9) (oi := ⟨some 6, _, _, _, _, _⟩) (v := .slice (some ⟨gA, 0, none⟩) (i + 1) cA) rfl (by kernel_rfl) (by kernel_rfl) (by kernel_rfl) (fun _ _ _ h => h) (Or.inl ⟨by rfl, by intro wy hSw; go_simp⟩) ((HRS.out.bs (gp, 24, [.int .i64 pm, .int .u8 (ps : Int), .int .i64 pn]) (by simp)).1) ?_
              try simp only [Act.put, List.setIfInBounds_toArray, List.set_cons_zero, List.set_cons_succ]
              refine wpAnyH_take (i := 10) (oi := ⟨some 7, _, _, _, _, _⟩) (v := .slice (some ⟨gB, 0, none⟩) (i + 1) cB) rfl (by kernel_rfl) (by kernel_rfl) (by kernel_rfl) (fun _ _ _ h => h) (Or.inl ⟨by rfl, by intro wy hSw; go_simp⟩) ((HRS.out.bs (gp, 24, [.int .i64 pm, .int .u8 (ps : Int), .int .i64 pn]) (by simp)).1) ?_
              try simp only [Act.put, List.setIfInBounds_toArray, List.set_cons_zero, List.set_cons_succ]
              refine wpAnyH_take (i := 11) (oi := ⟨some 0, _, _, _, _, _⟩) (v := .string rest) rfl (by kernel_rfl) (by kernel_rfl) (by kernel_rfl) (fun _ _ _ h => h) (Or.inl ⟨by rfl, by intro wy hSw; go_simp⟩) ((HRS.out.bs (gp, 24, [.int .i64 pm, .int .u8 (ps : Int), .int .i64 pn]) (by simp)).1) ?_
              try simp only [Act.put, List.setIfInBounds_toArray, List.set_cons_zero, List.set_cons_succ]
              refine wpAnyH_done (by kernel_rfl) ?_ _
              refine NoPanic.normal ?_
              go_wp2_with fail
              go_roundw
              case rel => exact ⟨i + 1, _, _, _, _, by omega, by rw [HRE.out], rfl, rfl, by go_num, by rw [HT1.out]; exact HRS.out.o1, by rw [HT2.out]; exact HRS.out.o2, HRS.out.bel⟩
              case measure => simp [intOf]; omega
            exact AllReadyH.nil
          exact AllReadyH.nil
        refine AllReadyH.cons (o := ⟨some 49, _, _, _, _, _⟩) rfl (fun K hK => ?_) ?_
        · go_simp
          have hRS1 := HRS.out.alloc 24 [.int .i64 pm, .int .u8 (ps : Int), .int .i64 pn]
          clear HRS
          generalize x.alloc (.cells #[.int .i64 pm, .int .u8 (ps : Int), .int .i64 pn] 24) = y at *
          generalize x.heap.size = p2 at *
          clear x
          obtain ⟨x, rfl⟩ : ∃ x, x = y := ⟨_, rfl⟩
          have HRS := Lib.hid hRS1; clear hRS1
          refine hK.out _ _ ((HRS.out.bs (gp, 24, [.int .i64 pm, .int .u8 (ps : Int), .int .i64 pn]) (by simp)).1) (fun hHeld => ?_)
          clear hK K hHeld
          try simp only [Act.put, List.setIfInBounds_toArray, List.set_cons_zero, List.set_cons_succ]
          refine wpAnyH_ready (rs := [3]) (by kernel_rfl) (by simp) ?_
          refine AllReadyH.cons (o := ⟨some 46, _, _, _, _, _⟩) rfl (fun K hK => ?_) ?_
          · refine step_append_lies x (by rfl) (.tmp 43) (.tmp 45) _ (by rfl) w.heap.size 9 i0 _ 1 16 Tryd.underlying45 HI.out HZ0.out HZ1.out HZ2.out rfl (by omega) (.slice A i c) i _ (by rfl) HRS.out.o1 ⟨p1, 0, none⟩ 1 1 [.string nm] (by rfl) rfl (World.news_of_block ((HRS.out.bs (p1, 9, [.string nm]) (by simp)).1)) (by simp [Value.oneCell']) (by omega) (by unfold maxLen; omega) (by omega) HRS.out.bel.size _ rfl ?_
            intro gA cA y ho hg hor hzz
            have hRS1 := HRS.out.one (by decide) hg ho rfl hor
            clear HRS ho hg hor hzz x
            obtain ⟨x, rfl⟩ : ∃ x, x = y := ⟨_, rfl⟩
            have HRS := Lib.hid hRS1; clear hRS1
            refine hK.out _ _ ((HRS.out.bs (gp, 24, [.int .i64 pm, .int .u8 (ps : Int), .int .i64 pn]) (by simp)).1) (fun hHeld => ?_)
            clear hK K hHeld
            try simp only [Act.put, List.setIfInBounds_toArray, List.set_cons_zero, List.set_cons_succ]
            refine wpAnyH_ready (rs := [7]) (by kernel_rfl) (by simp) ?_
            refine AllReadyH.cons (o := ⟨some 50, _, _, _, _, _⟩) rfl (fun K hK => ?_) ?_
            · refine step_append_lies x (by rfl) (.tmp 47) (.tmp 49) _ (by rfl) w.heap.size 24 j0 _ 3 24 Tryd.underlying46 HJ.out HY0.out HY1.out HY2.out rfl (by omega) (.slice B i d) i _ (by rfl) HRS.out.o2 ⟨p2, 0, none⟩ 1 1 [.int .i64 pm, .int .u8 (ps : Int), .int .i64 pn] (by rfl) rfl (World.news_of_block ((HRS.out.bs (p2, 24, [.int .i64 pm, .int .u8 (ps : Int), .int .i64 pn]) (by simp)).1)) (by simp [Value.oneCell']) (by omega) (by unfold maxLen; omega) (by omega) HRS.out.bel.size _ rfl ?_
              intro gB cB y ho hg hor hzz
              have hRS1 := HRS.out.two (by decide) hg ho rfl hor
              clear HRS ho hg hor hzz x
              obtain ⟨x, rfl⟩ : ∃ x, x = y := ⟨_, rfl⟩
              have HRS := Lib.hid hRS1; clear hRS1
              refine hK.out _ _ ((HRS.out.bs (gp, 24, [.int .i64 pm, .int .u8 (ps : Int), .int .i64 pn]) (by simp)).1) (fun hHeld => ?_)
              clear hK K hHeld
              try simp only [Act.put, List.setIfInBounds_toArray, List.set_cons_zero, List.set_cons_succ]
              refine wpAnyH_take (i := 9) (oi := ⟨some 6, _, _, _, _, _⟩) (v := .slice (some ⟨gA, 0, none⟩) (i + 1) cA) rfl (by kernel_rfl) (by kernel_rfl) (by kernel_rfl) (fun _ _ _ h => h) (Or.inl ⟨by rfl, by intro wy hSw; go_simp⟩) ((HRS.out.bs (gp, 24, [.int .i64 pm, .int .u8 (ps : Int), .int .i64 pn]) (by simp)).1) ?_
              try simp only [Act.put, List.setIfInBounds_toArray, List.set_cons_zero, List.set_cons_succ]
              refine wpAnyH_take (i := 10) (oi := ⟨some 7, _, _, _, _, _⟩) (v := .slice (some ⟨gB, 0, none⟩) (i + 1) cB) rfl (by kernel_rfl) (by kernel_rfl) (by kernel_rfl) (fun _ _ _ h => h) (Or.inl ⟨by rfl, by intro wy hSw; go_simp⟩) ((HRS.out.bs (gp, 24, [.int .i64 pm, .int .u8 (ps : Int), .int .i64 pn]) (by simp)).1) ?_
              try simp only [Act.put, List.setIfInBounds_toArray, List.set_cons_zero, List.set_cons_succ]
              refine wpAnyH_take (i := 11) (oi := ⟨some 0, _, _, _, _, _⟩) (v := .string rest) rfl (by kernel_rfl) (by kernel_rfl) (by kernel_rfl) (fun _ _ _ h => h) (Or.inl ⟨by rfl, by intro wy hSw; go_simp⟩) ((HRS.out.bs (gp, 24, [.int .i64 pm, .int .u8 (ps : Int), .int .i64 pn]) (by simp)).1) ?_
              try simp only [Act.put, List.setIfInBounds_toArray, List.set_cons_zero, List.set_cons_succ]
              refine wpAnyH_done (by kernel_rfl) ?_ _
              refine NoPanic.normal ?_
              go_wp2_with fail
              go_roundw
              case rel => exact ⟨i + 1, _, _, _, _, by omega, by rw [HRE.out], rfl, rfl, by go_num, by rw [HT1.out]; exact HRS.out.o1, by rw [HT2.out]; exact HRS.out.o2, HRS.out.bel⟩
              case measure => simp [intOf]; omega
            exact AllReadyH.nil
          exact AllReadyH.nil
        exact AllReadyH.nil
      refine AllReadyH.cons (o := ⟨some 49, _, _, _, _, _⟩) rfl (fun K hK => ?_) ?_
      · go_simp
        have hRS1 := HRS.out.alloc 24 [.int .i64 pm, .int .u8 (ps : Int), .int .i64 pn]
        clear HRS
        generalize x.alloc (.cells #[.int .i64 pm, .int .u8 (ps : Int), .int .i64 pn] 24) = y at *
        generalize x.heap.size = p2 at *
        clear x
        obtain ⟨x, rfl⟩ : ∃ x, x = y := ⟨_, rfl⟩
        have HRS := Lib.hid hRS1; clear hRS1
        refine hK.out _ _ ((HRS.out.bs (gp, 24, [.int .i64 pm, .int .u8 (ps : Int), .int .i64 pn]) (by simp)).1) (fun hHeld => ?_)
        clear hK K hHeld
        try simp only [Act.put, List.setIfInBounds_toArray, List.set_cons_zero, List.set_cons_succ]
        refine wpAnyH_ready (rs := [2]) (by kernel_rfl) (by simp) ?_
        refine AllReadyH.cons (o := ⟨some 45, _, _, _, _, _⟩) rfl (fun K hK => ?_) ?_
        · go_simp
          have hRS1 := HRS.out.alloc 9 [.string nm]
          clear HRS
          generalize x.alloc (.cells #[.string nm] 9) = y at *
          generalize x.heap.size = p1 at *
          clear x
          obtain ⟨x, rfl⟩ : ∃ x, x = y := ⟨_, rfl⟩
          have HRS := Lib.hid hRS1; clear hRS1
          refine hK.out _ _ ((HRS.out.bs (gp, 24, [.int .i64 pm, .int .u8 (ps : Int), .int .i64 pn]) (by simp)).1) (fun hHeld => ?_)
          clear hK K hHeld
          try simp only [Act.put, List.setIfInBounds_toArray, List.set_cons_zero, List.set_cons_succ]
          refine wpAnyH_ready (rs := [3]) (by kernel_rfl) (by simp) ?_
          refine AllReadyH.cons (o := ⟨some 46, _, _, _, _, _⟩) rfl (fun K hK => ?_) ?_
          · refine step_append_lies x (by rfl) (.tmp 43) (.tmp 45) _ (by rfl) w.heap.size 9 i0 _ 1 16 Tryd.underlying45 HI.out HZ0.out HZ1.out HZ2.out rfl (by omega) (.slice A i c) i _ (by rfl) HRS.out.o1 ⟨p1, 0, none⟩ 1 1 [.string nm] (by rfl) rfl (World.news_of_block ((HRS.out.bs (p1, 9, [.string nm]) (by simp)).1)) (by simp [Value.oneCell']) (by omega) (by unfold maxLen; omega) (by omega) HRS.out.bel.size _ rfl ?_
            intro gA cA y ho hg hor hzz
            have hRS1 := HRS.out.one (by decide) hg ho rfl hor
            clear HRS ho hg hor hzz x
            obtain ⟨x, rfl⟩ : ∃ x, x = y := ⟨_, rfl⟩
            have HRS := Lib.hid hRS1; clear hRS1
            refine hK.out _ _ ((HRS.out.bs (gp, 24, [.int .i64 pm, .int .u8 (ps : Int), .int .i64 pn]) (by simp)).1) (fun hHeld => ?_)
            clear hK K hHeld
            try simp only [Act.put, List.setIfInBounds_toArray, List.set_cons_zero, List.set_cons_succ]
            refine wpAnyH_ready (rs := [7]) (by kernel_rfl) (by simp) ?_
            refine AllReadyH.cons (o := ⟨some 50, _, _, _, _, _⟩) rfl (fun K hK => ?_) ?_
            · refine step_append_lies x (by rfl) (.tmp 47) (.tmp 49) _ (by rfl) w.heap.size 24 j0 _ 3 24 Tryd.underlying46 HJ.out HY0.out HY1.out HY2.out rfl (by omega) (.slice B i d) i _ (by rfl) HRS.out.o2 ⟨p2, 0, none⟩ 1 1 [.int .i64 pm, .int .u8 (ps : Int), .int .i64 pn] (by rfl) rfl (World.news_of_block ((HRS.out.bs (p2, 24, [.int .i64 pm, .int .u8 (ps : Int), .int .i64 pn]) (by simp)).1)) (by simp [Value.oneCell']) (by omega) (by unfold maxLen; omega) (by omega) HRS.out.bel.size _ rfl ?_
              intro gB cB y ho hg hor hzz
              have hRS1 := HRS.out.two (by decide) hg ho rfl hor
              clear HRS ho hg hor hzz x
              obtain ⟨x, rfl⟩ : ∃ x, x = y := ⟨_, rfl⟩
              have HRS := Lib.hid hRS1; clear hRS1
              refine hK.out _ _ ((HRS.out.bs (gp, 24, [.int .i64 pm, .int .u8 (ps : Int), .int .i64 pn]) (by simp)).1) (fun hHeld => ?_)
              clear hK K hHeld
              try simp only [Act.put, List.setIfInBounds_toArray, List.set_cons_zero, List.set_cons_succ]
              refine wpAnyH_take (i := 9) (oi := ⟨some 6, _, _, _, _, _⟩) (v := .slice (some ⟨gA, 0, none⟩) (i + 1) cA) rfl (by kernel_rfl) (by kernel_rfl) (by kernel_rfl) (fun _ _ _ h => h) (Or.inl ⟨by rfl, by intro wy hSw; go_simp⟩) ((HRS.out.bs (gp, 24, [.int .i64 pm, .int .u8 (ps : Int), .int .i64 pn]) (by simp)).1) ?_
              try simp only [Act.put, List.setIfInBounds_toArray, List.set_cons_zero, List.set_cons_succ]
              refine wpAnyH_take (i := 10) (oi := ⟨some 7, _, _, _, _, _⟩) (v := .slice (some ⟨gB, 0, none⟩) (i + 1) cB) rfl (by kernel_rfl) (by kernel_rfl) (by kernel_rfl) (fun _ _ _ h => h) (Or.inl ⟨by rfl, by intro wy hSw; go_simp⟩) ((HRS.out.bs (gp, 24, [.int .i64 pm, .int .u8 (ps : Int), .int .i64 pn]) (by simp)).1) ?_
              try simp only [Act.put, List.setIfInBounds_toArray, List.set_cons_zero, List.set_cons_succ]
              refine wpAnyH_take (i := 11) (oi := ⟨some 0, _, _, _, _, _⟩) (v := .string rest) rfl (by kernel_rfl) (by kernel_rfl) (by kernel_rfl) (fun _ _ _ h => h) (Or.inl ⟨by rfl, by intro wy hSw; go_simp⟩) ((HRS.out.bs (gp, 24, [.int .i64 pm, .int .u8 (ps : Int), .int .i64 pn]) (by simp)).1) ?_
              try simp only [Act.put, List.setIfInBounds_toArray, List.set_cons_zero, List.set_cons_succ]
              refine wpAnyH_done (by kernel_rfl) ?_ _
              refine NoPanic.normal ?_
              go_wp2_with fail
              go_roundw
              case rel => exact ⟨i + 1, _, _, _, _, by omega, by rw [HRE.out], rfl, rfl, by go_num, by rw [HT1.out]; exact HRS.out.o1, by rw [HT2.out]; exact HRS.out.o2, HRS.out.bel⟩
              case measure => simp [intOf]; omega
            exact AllReadyH.nil
          exact AllReadyH.nil
        exact AllReadyH.nil
      exact AllReadyH.nil
    · have hil : i = L.length := by omega
      subst hil
      rw [List.take_of_length_le (Nat.le_refl _)] at ho1 ho2
      rw [List.drop_of_length_le (Nat.le_refl _)]
      have hx : (bytesL (flatL [])).toList.isEmpty = true := by rw [Lib.toList_data]; rfl
      generalize bytesL (flatL []) = X at *
      have HB := Lib.hid hB; have HO1 := Lib.hid ho1; have HO2 := Lib.hid ho2
      clear hB ho1 ho2
      go_wp2_with fail
      exact bodyPost_ret (v := .tuple #[.slice A L.length c, .slice B L.length d, .int .i64 0, .int .i64 0]) (by simp [results, Tryd.results16, go_sem]) rfl ⟨A, c, B, d, rfl, HO1.out, HO2.out, HB.out⟩
end Go.Proofs.YtdpcnbbaipdmjaaDoor
