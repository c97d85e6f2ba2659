/- Parts of the proof: MSt, Push, MaCpu, MaPol, MaAlloc. -/
import Derived.Test.YtjdbedoabcbeeaaGreatDoorUs23
import Derived.Test.YtjdbedoabcbeeaaGreatDoorUs17
import Derived.Test.YtjdbedoabcbeeaaGreatDoorUs10
/- The machine's state as a record, and its parts. -/
namespace Go.Proofs.YtjdbedoabcbeeaaGreatDoor
open Go.RowKit
set_option linter.unusedVariables false
set_option linter.unusedSimpArgs false

structure CpuR where
  b : Nat
  q : Nat
  nd : Int
  m : Int
  s : Int
  pn : Int
  cur : Int
structure MSt where
  N : Nat
  each : Nat
  m : Nat
  h : Nat
  hA : Option Addr
  hc : Nat
  mn : Int
  lo : Int
  hi : Int
  B : List Bd
  ct : Nat → Nat
  t : TopoV
  s : Nat
  sA : Option Addr
  sc : Nat
  Z : List Nat
  bs : Nat
  bl : Nat
  live : List (Int × Value)
  mb : Nat
  g : Nat
  b : Nat
  tg : Nat
  bt : Nat
  bf : Nat
  by_ : List Int
  mt : List (Int × Int)
  mf : List (Int × Int)
  gb : Nat
  bb : Nat
  pf : Int → Option Pol
  gl : Nat
  bc : Nat
  lA : Option Addr
  lc : Nat
  evs : List Ev
  cA : Option Addr
  cc : Nat
  cpus : List CpuR
  qA : Option Addr
  qc : Nat
  qs : List Value
  ex : List Part
def cpuB (c : CpuR) : Value := ptr c.b
def cpuR (base : Nat) (c : CpuR) : Part := cpuP base c.b c.q c.nd c.m c.s c.pn c.cur
def MSt.mac (S : MSt) : List Value := macV S.t (ptr S.mb) (ptr S.h) (ptr S.s) (ptr S.gb) (ptr S.gl) (.slice S.cA S.cpus.length S.cc) (.slice S.qA S.qs.length S.qc) S.bs S.bl
def mparts (base : Nat) (S : MSt) : List Part :=
  [heapP base S.h S.hA S.hc S.each S.mn S.lo S.hi S.B S.ct, topoP base S.t, spP base S.s S.sA S.sc S.Z, mapP S.bs [], mapP S.bl S.live,
   blkP S.m 66 S.mac,
   memP S.mb S.g S.b S.each (S.N * S.each) S.tg S.bt S.bf S.by_ S.mt S.mf, bookP S.gb S.bb (S.N : Int) S.pf, logP base S.gl S.bc S.N S.lA S.lc S.evs,
   rowP base 68 1 S.cA S.cc S.cpus.length (S.cpus.map cpuB), rowP base 73 1 S.qA S.qc S.qs.length S.qs] ++ (S.cpus.map (cpuR base) ++ S.ex)
theorem mparts_cpu (base : Nat) (S : MSt) {i : Nat} {c : CpuR} (h : S.cpus[i]? = some c) : (mparts base S)[11 + i]? = some (cpuR base c) := by
  have hl := (List.getElem?_eq_some_iff.1 h).1
  unfold mparts
  rw [List.getElem?_append_right (by simp), List.getElem?_append_left (by simp; omega)]
  simp [h]
theorem cpus_set {cs : List CpuR} {i : Nat} {c c' : CpuR} (h : cs[i]? = some c) (hb : c'.b = c.b) : (cs.set i c').map cpuB = cs.map cpuB := by
  rw [List.map_set]
  have hl := (List.getElem?_eq_some_iff.1 h).1
  have e := (List.getElem?_eq_some_iff.1 h).2
  have : cpuB c' = (cs.map cpuB)[i]'(by rw [List.length_map]; exact hl) := by rw [List.getElem_map, e]; unfold cpuB; rw [hb]
  rw [this, List.set_getElem_self]
theorem mparts_setcpu (base : Nat) (S : MSt) {i : Nat} {c c' : CpuR} (h : S.cpus[i]? = some c) (hb : c'.b = c.b) : (mparts base S).set (11 + i) (cpuR base c') = mparts base { S with cpus := S.cpus.set i c' } := by
  unfold mparts MSt.mac
  have hl := (List.getElem?_eq_some_iff.1 h).1
  rw [List.set_append_right _ _ (by simp), List.set_append_left _ _ (by simp; omega)]
  simp only [List.length_set, cpus_set h hb, List.map_set]
  simp
theorem mparts_ex (base : Nat) (S : MSt) {j : Nat} {p : Part} (h : S.ex[j]? = some p) : (mparts base S)[11 + S.cpus.length + j]? = some p := by
  unfold mparts
  rw [List.getElem?_append_right (by simp; omega), List.getElem?_append_right (by simp; omega)]
  simp
  rw [show 11 + S.cpus.length + j - 11 - S.cpus.length = j by omega]
  exact h
theorem mparts_setex (base : Nat) (S : MSt) {j : Nat} {p p' : Part} (h : S.ex[j]? = some p) : (mparts base S).set (11 + S.cpus.length + j) p' = mparts base { S with ex := S.ex.set j p' } := by
  unfold mparts MSt.mac
  rw [List.set_append_right _ _ (by simp; omega), List.set_append_right _ _ (by simp; omega)]
  simp
  rw [show 11 + S.cpus.length + j - 11 - S.cpus.length = j by omega]
theorem mparts_addex (base : Nat) (S : MSt) (p : Part) : mparts base S ++ [p] = mparts base { S with ex := S.ex ++ [p] } := by
  unfold mparts MSt.mac
  simp only [List.append_assoc]
section
variable {w0 w w' : World} {S : MSt}
theorem M_heap (H : Mach w0 w (mparts w0.heap.size S)) : HeapAt w w0.heap.size S.h S.hA S.hc S.each S.mn S.lo S.hi S.B S.ct := H.get (k := 0) rfl
theorem M_topo (H : Mach w0 w (mparts w0.heap.size S)) : OwnTT w0.heap.size w S.t := H.get (k := 1) rfl
theorem M_sp (H : Mach w0 w (mparts w0.heap.size S)) : SpAt w w0.heap.size S.s S.sA S.sc S.Z := H.get (k := 2) rfl
theorem M_spans (H : Mach w0 w (mparts w0.heap.size S)) : MapAt intKeys w S.bs ([] : List (Int × Value)) := H.get (k := 3) rfl
theorem M_live (H : Mach w0 w (mparts w0.heap.size S)) : MapAt intKeys w S.bl S.live := H.get (k := 4) rfl
theorem M_mac (H : Mach w0 w (mparts w0.heap.size S)) : Blk w S.m 66 S.mac := H.get (k := 5) rfl
theorem M_mem (H : Mach w0 w (mparts w0.heap.size S)) : MemAt w S.mb S.g S.b S.each (S.N * S.each) S.tg S.bt S.bf S.by_ S.mt S.mf := H.get (k := 6) rfl
theorem M_book (H : Mach w0 w (mparts w0.heap.size S)) : BookAt w S.gb S.bb (S.N : Int) S.pf := H.get (k := 7) rfl
theorem M_log (H : Mach w0 w (mparts w0.heap.size S)) : LogAt w w0.heap.size S.gl S.bc S.N S.lA S.lc S.evs := H.get (k := 8) rfl
theorem M_row (H : Mach w0 w (mparts w0.heap.size S)) : w.ownsRow w0.heap.size 68 1 (.slice S.cA S.cpus.length S.cc) S.cpus.length (S.cpus.map cpuB) := H.get (k := 9) rfl
theorem M_cpu (H : Mach w0 w (mparts w0.heap.size S)) {i : Nat} {c : CpuR} (h : S.cpus[i]? = some c) : CpuAt w w0.heap.size c.b c.q c.nd c.m c.s c.pn c.cur := H.get (mparts_cpu _ S h)
/-- A CPU's struct changes. -/
theorem M_setcpu (H : Mach w0 w (mparts w0.heap.size S)) {i : Nat} {c c' : CpuR} (h : S.cpus[i]? = some c) (hb : c'.b = c.b) (hq : c'.q = c.q) (hc : Ch [c.b] w w') (hst : Blk w' c.b 72 [.int .i64 c'.nd, .int .i64 c'.m, .int .u8 c'.s, .int .i64 c'.pn, .int .i64 c'.cur, .pointer (some ⟨c.q, 0, none⟩)]) (hne : c.b ≠ c.q) :
    Mach w0 w' (mparts w0.heap.size { S with cpus := S.cpus.set i c' }) := by
  rw [← mparts_setcpu _ S h hb]
  refine H.upd (mparts_cpu _ S h) (hc.mono (by intro x hx; rw [List.mem_singleton] at hx; subst hx; show c.b ∈ [c.b, c.q]; simp)) ?_ (fun x hx => Or.inl ?_)
  · show CpuAt w' w0.heap.size c'.b c'.q c'.nd c'.m c'.s c'.pn c'.cur
    rw [hb, hq]
    exact ⟨hst, (M_cpu H h).ca.ch hc (fun x hx hm => by
      have e : cset c.q (List.replicate 4 (Value.slice none 0 0)) = [c.q] := by simp [cset, Value.ownBlock]
      rw [e, List.mem_singleton] at hx
      rw [List.mem_singleton] at hm
      exact hne (hm.symm.trans hx))⟩
  · have hx : x ∈ [c'.b, c'.q] := hx
    rw [hb, hq] at hx
    exact hx
end
theorem Mach.drop {w0 w : World} {ps : List Part} {p : Part} (H : Mach w0 w (ps ++ [p])) : Mach w0 w ps := by
  have hk : ∀ (k : Nat) (q : Part), ps[k]? = some q → (ps ++ [p])[k]? = some q := fun k q h => by
    rw [List.getElem?_append_left (List.getElem?_eq_some_iff.1 h).1]; exact h
  obtain ⟨col, hc⟩ := H.own
  exact ⟨fun k q h => H.all k q (hk k q h), ⟨col, fun k q h => hc k q (hk k q h)⟩, H.bel⟩
section
variable {w0 w w' : World} {S : MSt}
/-- A block of the caller's own beside the machine. -/
theorem M_add (H : Mach w0 w (mparts w0.heap.size S)) {p : Part} (hb : Below w.heap.size w w') (hp : p.holds w') (hf : ∀ x ∈ p.foot, w.heap.size ≤ x) : Mach w0 w' (mparts w0.heap.size { S with ex := S.ex ++ [p] }) := by
  rw [← mparts_addex]
  exact H.add hb hp hf
theorem M_drop {p : Part} (H : Mach w0 w (mparts w0.heap.size { S with ex := S.ex ++ [p] })) : Mach w0 w (mparts w0.heap.size S) := by
  rw [← mparts_addex] at H
  exact H.drop
theorem M_ex (H : Mach w0 w (mparts w0.heap.size S)) {j : Nat} {p : Part} (h : S.ex[j]? = some p) : p.holds w := H.get (mparts_ex _ S h)
theorem M_setex (H : Mach w0 w (mparts w0.heap.size S)) {j : Nat} {p p' : Part} (h : S.ex[j]? = some p) (hc : Ch p.foot w w') (hp : p'.holds w') (hf : ∀ x ∈ p'.foot, x ∈ p.foot ∨ w.heap.size ≤ x) : Mach w0 w' (mparts w0.heap.size { S with ex := S.ex.set j p' }) := by
  rw [← mparts_setex _ S h]
  exact H.upd (mparts_ex _ S h) hc hp hf
end
theorem heap_base {w : World} {base b' h c n : Nat} {A : Option Addr} {mn lo hi : Int} {B : List Bd} {ct : Nat → Nat} (H : HeapAt w base h A c n mn lo hi B ct) (hb : b' ≤ base) : HeapAt w b' h A c n mn lo hi B ct := ⟨H.st, own_base0 H.row hb, H.bd, H.le, H.dis⟩
theorem sp_base {w : World} {base b' s c : Nat} {A : Option Addr} {Z : List Nat} (H : SpAt w base s A c Z) (hb : b' ≤ base) : SpAt w b' s A c Z := ⟨H.st, own_base0 H.row hb⟩
theorem tt_base {w : World} {base b' : Nat} {t : TopoV} (H : OwnTT base w t) (hb : b' ≤ base) : OwnTT b' w t := ⟨own_base0 H.c hb, own_base0 H.d hb, fun q hq => own_base0 (H.rs q hq) hb⟩
theorem four_base {w : World} {base b' t g : Nat} {vs : List Value} {X : Nat → List Int} (H : Four w base t g vs X) (hb : b' ≤ base) : Four w b' t g vs X := ⟨H.st, H.ln, fun i v hv => own_base0 (H.row i v hv) hb, H.ap, Nat.le_trans hb H.gb, H.nt, H.mx⟩
end Go.Proofs.YtjdbedoabcbeeaaGreatDoor
/- A CPU more, a queue more. -/
namespace Go.Proofs.YtjdbedoabcbeeaaGreatDoor
open Go.RowKit
set_option linter.unusedVariables false
set_option linter.unusedSimpArgs false
attribute [local go_sem] World.cell?_alloc_lt

theorem news2 (w : World) (o : Obj) (v : Value) (t : TypeId) : ∀ j u, [v][j]? = some u → ((w.alloc o).alloc (.cells #[v] t)).cell? ((⟨w.heap.size + 1, 0, none⟩ : Addr).add j) = some u := by
  have h := World.news_of_block (cs := #[v]) (heap_alloc_new (w.alloc o) (.cells #[v] t))
  rw [show (w.alloc o).heap.size = w.heap.size + 1 by simp] at h
  exact h
def cpuO (x : Int) (q : Nat) : Obj := .cells #[.int .i64 x, .int .i64 0, .int .u8 0, .int .i64 0, .int .i64 0, .pointer (some ⟨q, 0, none⟩)] 72
def pcpO (b : Nat) : Obj := .cells #[Value.pointer (some ⟨b, 0, none⟩)] 68
theorem cpu_push {w wr w5 w8 : World} {S : MSt} {i gg cap : Nat} (hM : Mach w wr (mparts w.heap.size S)) (hl : S.cpus.length = i) (hB5 : Below wr.heap.size wr w5)
    (hF5 : Four w5 wr.heap.size 120 wr.heap.size (List.replicate 4 (.slice none 0 0)) (fun _ => [])) (x : Int)
    (hg : ((w5.alloc (cpuO x wr.heap.size)).alloc (pcpO w5.heap.size)).grownBy w8 (Value.slice S.cA i S.cc).ownBlock)
    (hor : (Value.slice S.cA i S.cc).ownBlock = some gg ∨ gg = w5.heap.size + 1 + 1)
    (ho : w8.ownsRow w.heap.size 68 1 (.slice (some ⟨gg, 0, none⟩) (i + 1) cap) (i + 1) (S.cpus.map cpuB ++ [Value.pointer (some ⟨w5.heap.size, 0, none⟩)])) (hex : S.ex = []) :
    (w8.cell? ⟨S.m, 9, none⟩ = some (.slice S.cA i S.cc) ∧ w8.frozen? ⟨S.m, 9, none⟩ = false) ∧
    Mach w (w8.setCell ⟨S.m, 9, none⟩ (.slice (some ⟨gg, 0, none⟩) (i + 1) cap)) (mparts w.heap.size { S with cA := some ⟨gg, 0, none⟩, cc := cap, cpus := S.cpus ++ [⟨w5.heap.size, wr.heap.size, x, 0, 0, 0, 0⟩] }) ∧
    (∀ (b t : Nat) (cs : List Value), Blk wr b t cs → 68 ≠ t → b ≠ S.m → Blk (w8.setCell ⟨S.m, 9, none⟩ (.slice (some ⟨gg, 0, none⟩) (i + 1) cap)) b t cs) := by
  subst hl
  have hB6 : Below wr.heap.size wr (w5.alloc (cpuO x wr.heap.size)) := bel_alloc hB5 _
  have hcp : CpuAt (w5.alloc (cpuO x wr.heap.size)) w.heap.size w5.heap.size wr.heap.size x 0 0 0 0 := ⟨Blk.new w5 72 [.int .i64 x, .int .i64 0, .int .u8 0, .int .i64 0, .int .i64 0, .pointer (some ⟨wr.heap.size, 0, none⟩)], (four_base hF5 hM.bel.size).below (bel_alloc (Below.refl _ _) _)⟩
  have M6 := hM.add (p' := cpuR w.heap.size ⟨w5.heap.size, wr.heap.size, x, 0, 0, 0, 0⟩) hB6 hcp (fun y hy => by
    have hy : y ∈ [w5.heap.size, wr.heap.size] := hy
    simp only [List.mem_cons, List.not_mem_nil, or_false] at hy
    rcases hy with rfl | rfl
    · exact hB5.size
    · exact Nat.le_refl _)
  have M7 := M6.below (bel_alloc (Below.refl _ _) (pcpO w5.heap.size))
  have hrow7 : ((w5.alloc (cpuO x wr.heap.size)).alloc (pcpO w5.heap.size)).ownsRow w.heap.size 68 1 (.slice S.cA S.cpus.length S.cc) S.cpus.length (S.cpus.map cpuB) := M7.get (k := 9) rfl
  have hc8 : Ch (ablk S.cA) ((w5.alloc (cpuO x wr.heap.size)).alloc (pcpO w5.heap.size)) w8 := ch_grown hg (fun q hq => ablk_mem hq)
  have M8 := M7.upd (k := 9) (p' := rowP w.heap.size 68 1 (some ⟨gg, 0, none⟩) cap (S.cpus.length + 1) (S.cpus.map cpuB ++ [Value.pointer (some ⟨w5.heap.size, 0, none⟩)])) rfl hc8 ho (fun y hy => by
    have hy : y ∈ ablk (some ⟨gg, 0, none⟩) := hy
    simp [ablk] at hy
    subst hy
    rcases hor with h | h
    · exact Or.inl (ablk_mem h)
    · right
      rw [h]
      simp)
  have hm8 : Blk w8 S.m 66 S.mac := M8.get (k := 5) rfl
  have hcm : Ch [S.m] w8 (w8.setCell ⟨S.m, 9, none⟩ (.slice (some ⟨gg, 0, none⟩) (S.cpus.length + 1) cap)) := (Ch.refl [S.m] w8).set (p := ⟨S.m, 9, none⟩) (by simp) _
  have M9 := M8.upd (k := 5) (p' := blkP S.m 66 (S.mac.set 9 (.slice (some ⟨gg, 0, none⟩) (S.cpus.length + 1) cap))) rfl hcm (hm8.set_ 9 _) (fun y hy => Or.inl hy)
  refine ⟨⟨hm8.at_ (i := 9) rfl, hm8.frozen 9⟩, ?_, fun b t cs hb ht hbm => ?_⟩
  · have e : mparts w.heap.size { S with cA := some ⟨gg, 0, none⟩, cc := cap, cpus := S.cpus ++ [⟨w5.heap.size, wr.heap.size, x, 0, 0, 0, 0⟩] } = (((mparts w.heap.size S ++ [cpuR w.heap.size ⟨w5.heap.size, wr.heap.size, x, 0, 0, 0, 0⟩]).set 9 (rowP w.heap.size 68 1 (some ⟨gg, 0, none⟩) cap (S.cpus.length + 1) (S.cpus.map cpuB ++ [Value.pointer (some ⟨w5.heap.size, 0, none⟩)]))).set 5 (blkP S.m 66 (S.mac.set 9 (.slice (some ⟨gg, 0, none⟩) (S.cpus.length + 1) cap)))) := by
      unfold mparts MSt.mac
      simp only [hex, List.append_nil, List.length_append, List.length_singleton, List.map_append, List.map_cons, List.map_nil]
      rfl
    rw [e]
    exact M9
  · have hb7 := (hb.below hB6).alloc (pcpO w5.heap.size)
    have hb8 := hb7.ch hc8 (fun hx => own_neV hrow7 hb7 ht (ablk_own hx))
    exact hb8.ch hcm (by simpa using hbm)
def prgO (b : Nat) : Obj := .cells #[Value.pointer (some ⟨b, 0, none⟩)] 73
theorem queue_push {w wr w5 w8 : World} {S : MSt} {i gg cap q : Nat} (hM : Mach w wr (mparts w.heap.size S)) (hl : S.qs.length = i) (hB5 : Below wr.heap.size wr w5)
    (hg : (w5.alloc (prgO q)).grownBy w8 (Value.slice S.qA i S.qc).ownBlock)
    (hor : (Value.slice S.qA i S.qc).ownBlock = some gg ∨ gg = w5.heap.size + 1)
    (ho : w8.ownsRow w.heap.size 73 1 (.slice (some ⟨gg, 0, none⟩) (i + 1) cap) (i + 1) (S.qs ++ [Value.pointer (some ⟨q, 0, none⟩)])) :
    (w8.cell? ⟨S.m, 10, none⟩ = some (.slice S.qA i S.qc) ∧ w8.frozen? ⟨S.m, 10, none⟩ = false) ∧
    Mach w (w8.setCell ⟨S.m, 10, none⟩ (.slice (some ⟨gg, 0, none⟩) (i + 1) cap)) (mparts w.heap.size { S with qA := some ⟨gg, 0, none⟩, qc := cap, qs := S.qs ++ [Value.pointer (some ⟨q, 0, none⟩)] }) := by
  subst hl
  have M7 := (hM.below hB5).below (bel_alloc (Below.refl _ _) (prgO q))
  have hc8 : Ch (ablk S.qA) (w5.alloc (prgO q)) w8 := ch_grown hg (fun q hq => ablk_mem hq)
  have M8 := M7.upd (k := 10) (p' := rowP w.heap.size 73 1 (some ⟨gg, 0, none⟩) cap (S.qs.length + 1) (S.qs ++ [Value.pointer (some ⟨q, 0, none⟩)])) rfl hc8 ho (fun y hy => by
    have hy : y ∈ ablk (some ⟨gg, 0, none⟩) := hy
    simp [ablk] at hy
    subst hy
    rcases hor with h | h
    · exact Or.inl (ablk_mem h)
    · right
      rw [h]
      simp)
  have hm8 : Blk w8 S.m 66 S.mac := M8.get (k := 5) rfl
  have hcm : Ch [S.m] w8 (w8.setCell ⟨S.m, 10, none⟩ (.slice (some ⟨gg, 0, none⟩) (S.qs.length + 1) cap)) := (Ch.refl [S.m] w8).set (p := ⟨S.m, 10, none⟩) (by simp) _
  have M9 := M8.upd (k := 5) (p' := blkP S.m 66 (S.mac.set 10 (.slice (some ⟨gg, 0, none⟩) (S.qs.length + 1) cap))) rfl hcm (hm8.set_ 10 _) (fun y hy => Or.inl hy)
  refine ⟨⟨hm8.at_ (i := 10) rfl, hm8.frozen 10⟩, ?_⟩
  have e : mparts w.heap.size { S with qA := some ⟨gg, 0, none⟩, qc := cap, qs := S.qs ++ [Value.pointer (some ⟨q, 0, none⟩)] } = ((mparts w.heap.size S).set 10 (rowP w.heap.size 73 1 (some ⟨gg, 0, none⟩) cap (S.qs.length + 1) (S.qs ++ [Value.pointer (some ⟨q, 0, none⟩)]))).set 5 (blkP S.m 66 (S.mac.set 10 (.slice (some ⟨gg, 0, none⟩) (S.qs.length + 1) cap))) := by
    unfold mparts MSt.mac
    simp only [List.length_append, List.length_singleton]
    rfl
  rw [e]
  exact M9
end Go.Proofs.YtjdbedoabcbeeaaGreatDoor
/- The machine's small functions: cpu, object, Log, SetPolicy. -/
namespace Go.Proofs.YtjdbedoabcbeeaaGreatDoor
open Go.RowKit
set_option linter.unusedVariables false
set_option linter.unusedSimpArgs false
attribute [local go_sem] World.cell?_alloc_lt

theorem idx_cpu (g n c i : Nat) (hi : i < n) (w : World) : (Instr.indexAt 63 (.slice (some ⟨g, 0, none⟩) n c) (.int .i64 (i : Int))).run Tryz.prog w = .ok (.pointer (some ⟨g, i, none⟩)) w := by
  simp [go_sem, hi]
section
variable {w0 w : World} {S : MSt}
theorem ma_cpu (H : Mach w0 w (mparts w0.heap.size S)) (i : Nat) (c : CpuR) (hc : S.cpus[i]? = some c) :
    Calls Tryz.prog 27 #[ptr S.m, .int .i64 (i : Int)] w fun e w' => e = .returned (.tuple #[ptr c.b, .int .i64 0]) ∧ w = w' := by
  have hl := (List.getElem?_eq_some_iff.1 hc).1
  have hMM := M_mac H
  have m9 : w.cell? ⟨S.m, 9, none⟩ = some (.slice S.cA S.cpus.length S.cc) := hMM.at_ (i := 9) rfl
  obtain ⟨g, hA, hcell, _⟩ := own_at (M_row H) (k := i) (u := cpuB c) (by rw [List.getElem?_map, hc]; rfl)
  rw [hA] at m9
  have hix := fun w => idx_cpu g S.cpus.length S.cc i hl w
  unfold cpuB at hcell
  unfold ptr at *
  clear hMM hA H
  generalize S.m = m at *
  generalize S.cpus.length = n at *
  go_enter Tryz.func27, Tryz.ntmps27
  go_wp2_with fail
  go_ret2
  exact ⟨rfl, rfl⟩
theorem ma_log (H : Mach w0 w (mparts w0.heap.size S)) : Calls Tryz.prog 13 #[ptr S.m] w fun e w' => e = .returned (ptr S.gl) ∧ w = w' := by
  have hMM := M_mac H
  have m8 : w.cell? ⟨S.m, 8, none⟩ = some (.pointer (some ⟨S.gl, 0, none⟩)) := hMM.at_ (i := 8) rfl
  unfold ptr at *
  clear hMM H
  generalize S.m = m at *
  go_enter Tryz.func13, Tryz.ntmps13
  go_wp2_with fail
  go_ret
  exact ⟨rfl, rfl⟩
theorem zIH (w : World) : (zeroValue 3).run Tryz.prog w = .ok (.int .i64 0) w := by kernel_rfl
theorem ma_object (H : Mach w0 w (mparts w0.heap.size S)) (a : Int) (n : Int) (ha : mget S.live a = some (.int .i64 n)) :
    Calls Tryz.prog 33 #[ptr S.m, .int .i64 a] w fun e w' => e = .returned (.tuple #[.int .i64 n, .int .i64 0]) ∧ w = w' := by
  have hMM := M_mac H
  have m12 : w.cell? ⟨S.m, 12, none⟩ = some (.map (some S.bl)) := hMM.at_ (i := 12) rfl
  have hlk := (M_live H).run_lookup (P := Tryz.prog) Tryz.underlying60 Tryz.underlying3 (.int .i64 0) zIH a
  rw [ha] at hlk
  have hlk2 : (Instr.lookup 60 (.map (some S.bl)) (.int .i64 a) true).run Tryz.prog w = .ok (.tuple #[.int .i64 n, .bool true]) w := hlk
  unfold ptr at *
  clear hMM H hlk
  generalize S.m = m at *
  go_enter Tryz.func33, Tryz.ntmps33
  go_wp2_with fail
  go_ret2
  exact ⟨rfl, rfl⟩
end
end Go.Proofs.YtjdbedoabcbeeaaGreatDoor
/- The machine's SetPolicy. -/
namespace Go.Proofs.YtjdbedoabcbeeaaGreatDoor
open Go.RowKit
set_option linter.unusedVariables false
set_option linter.unusedSimpArgs false
attribute [local go_sem] World.cell?_alloc_lt

section
variable {w0 w : World} {S : MSt}
theorem ma_policy (H : Mach w0 w (mparts w0.heap.size S)) (i : Nat) (c : CpuR) (hc : S.cpus[i]? = some c) (m : Int) (s : Nat) (hs : s < 256) (pn : Int) (hck : chk m s pn S.t.N = 0) :
    Calls Tryz.prog 9 #[ptr S.m, .int .i64 (i : Int), .agg #[.int .i64 m, .int .u8 (s : Int), .int .i64 pn]] w fun e w' => e = .returned (.int .i64 0) ∧ Mach w0 w' (mparts w0.heap.size { S with cpus := S.cpus.set i { c with m := m, s := (s : Int), pn := pn } }) := by
  have H1 := H.below (bel_alloc (Below.refl w.heap.size w) (.cells #[.int .i64 m, .int .u8 (s : Int), .int .i64 pn] 38))
  have hbx := Blk.new w 38 [.int .i64 m, .int .u8 (s : Int), .int .i64 pn]
  have hcc := ma_cpu H1 i c hc
  have hMM := M_mac H1
  have m0 : (w.alloc (.cells #[.int .i64 m, .int .u8 (s : Int), .int .i64 pn] 38)).cell? ⟨S.m, 0, none⟩ = some (.int .i64 S.t.N) := hMM.at_ (i := 0) rfl
  have hka := fun w => check_at m s hs pn S.t.N w
  rw [hck] at hka
  have HM := Lib.hid H1; have HC := Lib.hid hcc; have HK := Lib.hid hka; have HBX := Lib.hid hbx; have HCP := Lib.hid hc
  clear hck hcc H1 H hMM hka hbx hc
  unfold pol at HK
  unfold ptr at *
  go_enter Tryz.func9, Tryz.ntmps9
  go_upto_region 1 with fail
  generalize w.alloc (.cells #[.int .i64 m, .int .u8 (s : Int), .int .i64 pn] 38) = wA at *
  generalize w.heap.size = bx at *
  have j0 := HBX.out.at_ (i := 0) rfl
  have j1 := HBX.out.at_ (i := 1) rfl
  have j2 := HBX.out.at_ (i := 2) rfl
  go_wp2_with fail
  refine HC.out.mono ?_; rintro e w1 ⟨rfl, rfl⟩
  clear HC
  have q0 := after_cell j0
  have q1 := after_cell j1
  have q2 := after_cell j2
  have qm := after_cell m0
  go_upto_region 4 with fail
  refine wp_region_after (by kernel_rfl) (by kernel_rfl) ?_
  repeat (first | go_big_quiet_step ((go_at_call 28; exact after_call HK.out _)) | quiet_step ((go_at_call 28; exact after_call HK.out _)))
  refine wpQuiet_nil ?_; intro _ hw'; obtain ⟨xq, hw''⟩ := hw'; subst hw''
  have M1 := HM.out.below xq.2
  have b1 := HBX.out.below xq.2
  clear q0 q1 q2 qm j0 j1 j2 m0 HK HM HBX
  generalize xq.1 = w2 at *
  have hcp := M_cpu M1 HCP.out
  have hst := ((hcp.st.set_ 1 (.int .i64 m)).set_ 2 (.int .u8 (s : Int))).set_ 3 (.int .i64 pn)
  have hch : Ch [c.b] w2 (((w2.setCell ⟨c.b, 1, none⟩ (.int .i64 m)).setCell ⟨c.b, 2, none⟩ (.int .u8 (s : Int))).setCell ⟨c.b, 3, none⟩ (.int .i64 pn)) := (((Ch.refl [c.b] w2).set (p := ⟨c.b, 1, none⟩) (by simp) _).set (p := ⟨c.b, 2, none⟩) (by simp) _).set (p := ⟨c.b, 3, none⟩) (by simp) _
  have M2 := M_setcpu M1 HCP.out (c' := { c with m := m, s := (s : Int), pn := pn }) rfl rfl hch hst (hcp.st.ne_ hcp.ca.st (by decide))
  have HM2 := Lib.hid M2
  have r1 := hcp.st.at_ (i := 1) rfl
  have r2 := hcp.st.at_ (i := 2) rfl
  have r3 := hcp.st.at_ (i := 3) rfl
  have f1 := hcp.st.frozen 1
  have f2 := hcp.st.frozen 2
  have f3 := hcp.st.frozen 3
  have k0 := b1.at_ (i := 0) rfl
  have k1 := b1.at_ (i := 1) rfl
  have k2 := b1.at_ (i := 2) rfl
  clear hcp hst hch M2 M1 b1
  go_wp2_with fail
  go_ret
  exact ⟨rfl, HM2.out⟩
end
end Go.Proofs.YtjdbedoabcbeeaaGreatDoor
/- The machine's Malloc of more than a page. -/
namespace Go.Proofs.YtjdbedoabcbeeaaGreatDoor
open Go.RowKit
set_option linter.unusedVariables false
set_option linter.unusedSimpArgs false
attribute [local go_sem] World.cell?_alloc_lt

section
variable {w0 w : World} {S : MSt}
theorem ma_large (H : Mach w0 w (mparts w0.heap.size S)) (p : Nat) (h1 : 1 ≤ p) (h2 : p ≤ 16) (hsum : 1 + S.Z.sum + p ≤ 4096) (hZ : S.Z.length ≤ 900) :
    Calls Tryz.prog 30 #[ptr S.m, .int .i64 (64 * (p : Int))] w fun e w' => ∃ A' c', e = .returned (.tuple #[.int .i64 (64 * ((1 + S.Z.sum : Nat) : Int)), .int .i64 0]) ∧ Mach w0 w' (mparts w0.heap.size { S with sA := A', sc := c', Z := S.Z ++ [p] }) := by
  have hMM := M_mac H
  have m6 : w.cell? ⟨S.m, 6, none⟩ = some (.pointer (some ⟨S.s, 0, none⟩)) := hMM.at_ (i := 6) rfl
  have hpg := pages_any p h1 h2 w
  have htk := sp_take w0.heap.size S.s S.sc p S.sA S.Z h1 (by omega) hsum hZ w H.bel.size (M_sp H)
  have HM := Lib.hid H; have HPG := Lib.hid hpg; have HTK := Lib.hid htk
  clear H hMM hpg htk
  unfold ptr at *
  obtain ⟨Zs, hZs⟩ : ∃ z, S.Z.sum = z := ⟨_, rfl⟩
  rw [hZs] at hsum HTK ⊢
  clear hZs
  go_enter Tryz.func30, Tryz.ntmps30
  go_wp2_with fail
  refine HPG.out.mono ?_; rintro e w1 ⟨rfl, rfl⟩
  clear HPG
  go_wp2_with fail
  refine HTK.out.mono ?_; rintro e w1 ⟨A', c', rfl, hsp, hch, hft⟩
  have M1 := HM.out.upd (k := 2) (p' := spP w0.heap.size S.s A' c' (S.Z ++ [p])) rfl hch hsp hft
  have HM1 := Lib.hid M1
  clear M1 hsp hch hft HM HTK m6
  go_wp2_with fail
  go_ret2
  exact ⟨A', c', by first | rfl | (congr 1; simp; omega) | (rw [show ((1 + Zs : Nat) : Int) * 64 = 64 * ((1 + Zs : Nat) : Int) by omega]), HM1.out⟩
theorem ma_malloc (H : Mach w0 w (mparts w0.heap.size S)) (i : Nat) (c : CpuR) (hc : S.cpus[i]? = some c) (p : Nat) (h1 : 2 ≤ p) (h2 : p ≤ 16) (hsum : 1 + S.Z.sum + p ≤ 4096) (hZ : S.Z.length ≤ 900) :
    Calls Tryz.prog 10 #[ptr S.m, .int .i64 (i : Int), .int .i64 (64 * (p : Int))] w fun e w' => ∃ A' c', e = .returned (.tuple #[.int .i64 (64 * ((1 + S.Z.sum : Nat) : Int)), .int .i64 0]) ∧ Mach w0 w' (mparts w0.heap.size { S with sA := A', sc := c', Z := S.Z ++ [p], live := mput S.live (64 * ((1 + S.Z.sum : Nat) : Int)) (.int .i64 (64 * (p : Int))) }) := by
  have hcp := ma_cpu H i c hc
  have hlg := ma_large H p (by omega) h2 hsum hZ
  have HCP := Lib.hid hcp; have HLG := Lib.hid hlg
  clear hcp hlg
  have e1 : (64 * (p : Int) < 1) = False := by simp; omega
  have e2 : ((1024 : Int) < 64 * (p : Int)) = False := by simp; omega
  have e3 : (64 * (p : Int) ≤ 64) = False := by simp; omega
  obtain ⟨a, ha⟩ : ∃ a : Int, 64 * ((1 + S.Z.sum : Nat) : Int) = a := ⟨_, rfl⟩
  rw [ha] at HLG ⊢
  unfold ptr at *
  clear ha H
  go_enter Tryz.func10, Tryz.ntmps10
  go_wp2_with fail
  refine HCP.out.mono ?_; rintro e w1 ⟨rfl, rfl⟩
  clear HCP
  go_wp2_with fail
  refine HLG.out.mono ?_; rintro e w1 ⟨A', c', rfl, M1⟩
  have hMM := M_mac M1
  have m12 : w1.cell? ⟨S.m, 12, none⟩ = some (.map (some S.bl)) := hMM.at_ (i := 12) rfl
  have hlv := M_live M1
  obtain ⟨w2, hu, hm2, hc2⟩ := hlv.run_update (P := Tryz.prog) Tryz.underlying60 Tryz.underlying3 a (.int .i64 (64 * (p : Int)))
  have hu2 : (Instr.mapUpdate 60 (.map (some S.bl)) (.int .i64 a) (.int .i64 (64 * (p : Int)))).run Tryz.prog w1 = .ok () w2 := hu
  have M2 := M1.upd (k := 4) (p' := mapP S.bl (mput S.live a (.int .i64 (64 * (p : Int))))) rfl hc2 hm2 (fun x hx => Or.inl hx)
  have HM2 := Lib.hid M2
  clear M1 M2 hMM hlv hu hm2 hc2 HLG
  go_wp2_with fail
  go_ret2
  exact ⟨A', c', rfl, HM2.out⟩
end
end Go.Proofs.YtjdbedoabcbeeaaGreatDoor
