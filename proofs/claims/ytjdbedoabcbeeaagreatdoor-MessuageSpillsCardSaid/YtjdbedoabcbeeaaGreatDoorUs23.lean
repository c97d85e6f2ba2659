/- Parts of the proof: Copied, Parts, Leafs, NewParts. -/
import Derived.Test.YtjdbedoabcbeeaaGreatDoorUs22
import Derived.Test.YtjdbedoabcbeeaaGreatDoorUs3
import Derived.Test.YtjdbedoabcbeeaaGreatDoorUs9
import Derived.Test.YtjdbedoabcbeeaaGreatDoorUs4
import Derived.Test.YtjdbedoabcbeeaaGreatDoorUs15
import Derived.Test.YtjdbedoabcbeeaaGreatDoorUs16
import Derived.Test.YtjdbedoabcbeeaaGreatDoorUs17
import Derived.Test.YtjdbedoabcbeeaaGreatDoorUs20
import Derived.Test.YtjdbedoabcbeeaaGreatDoorUs21
import Derived.Deep.DeepCutAuto
import Derived.Deep.CutBlock
import Derived.Outline
import Derived.Conc.SmallLaws
/- alloc.copied: a topology of the machine's own. -/
namespace Go.Proofs.YtjdbedoabcbeeaaGreatDoor
open Go.RowKit
set_option linter.unusedVariables false
set_option linter.unusedSimpArgs false
attribute [local go_sem] World.cell?_alloc_lt

theorem clone_in {w : World} {A : Option Addr} {n c : Nat} {zs : List Int} (h0 : 0 < n) (hn : n ≤ 1000) (h : InI w A n zs) :
    Calls Tryz.prog 43 #[.slice A n c] w fun e w' => ∃ g c', e = .returned (.slice (some ⟨g, 0, none⟩) n c') ∧ w'.ownsRow w.heap.size 3 1 (.slice (some ⟨g, 0, none⟩) n c') n (zs.map (Value.int .i64)) ∧ Below w.heap.size w w' := by
  obtain ⟨b, off, rfl, hb, hc⟩ := h.at_ h0
  refine cloneI_at b off n c (zs.map (Value.int .i64)) (by rw [List.length_map, h.ln]) (by intro u hu; obtain ⟨z, _, rfl⟩ := List.mem_map.1 hu; rfl) (by omega) w hb (fun j u hj => ?_)
  rw [List.getElem?_map] at hj
  cases hz : zs[j]? with
  | none => rw [hz] at hj; cases hj
  | some z =>
    rw [hz] at hj
    injection hj with hj
    subst hj
    exact hc j z hz
/-- A topology whose lists are new since base. -/
structure OwnTT (base : Nat) (w : World) (t : TopoV) : Prop where
  c : w.ownsRow base 3 1 (.slice t.ca t.cs.length t.cc) t.cs.length (t.cs.map (Value.int .i64))
  d : w.ownsRow base 27 1 (.slice t.da t.ds.length t.dc) t.ds.length (t.ds.map valR)
  rs : ∀ q ∈ t.ds, w.ownsRow base 3 1 (.slice q.a q.zs.length q.c) q.zs.length (q.zs.map (Value.int .i64))
def ablk (A : Option Addr) : List Nat := (A.map (·.block)).toList
def ttFoot (t : TopoV) : List Nat := ablk t.ca ++ (ablk t.da ++ t.ds.flatMap (fun r => ablk r.a))
theorem ablk_mem {A : Option Addr} {n c q : Nat} (hq : (Value.slice A n c).ownBlock = some q) : q ∈ ablk A := by
  cases A with
  | none => cases hq
  | some a =>
    have : (Value.slice (some a) n c).ownBlock = some a.block := rfl
    rw [this] at hq
    injection hq with hq
    subst hq
    simp [ablk]
theorem ablk_own {A : Option Addr} {n c q : Nat} (hq : q ∈ ablk A) : (Value.slice A n c).ownBlock = some q := by
  cases A with
  | none => simp [ablk] at hq
  | some a =>
    simp [ablk] at hq
    subst hq
    rfl
theorem ttRow_mem {t : TopoV} {r : RowV} (hr : r ∈ t.ds) {q : Nat} (hq : q ∈ ablk r.a) : q ∈ ttFoot t := by
  unfold ttFoot
  rw [List.mem_append, List.mem_append, List.mem_flatMap]
  exact Or.inr (Or.inr ⟨r, hr, hq⟩)
section
variable {w w' : World} {base : Nat} {t : TopoV}
theorem OwnTT.ch {S : List Nat} (H : OwnTT base w t) (k : Ch S w w') (hS : ∀ x ∈ S, x ∉ ttFoot t) : OwnTT base w' t :=
  ⟨own_chV H.c k (fun q hq hx => hS q hx (by unfold ttFoot; simp [ablk_mem hq])), own_chV H.d k (fun q hq hx => hS q hx (by unfold ttFoot; simp [ablk_mem hq])),
   fun r hr => own_chV (H.rs r hr) k (fun q hq hx => hS q hx (ttRow_mem hr (ablk_mem hq)))⟩
theorem OwnTT.range (H : OwnTT base w t) : ∀ x ∈ ttFoot t, base ≤ x ∧ x < w.heap.size := by
  intro x hx
  unfold ttFoot at hx
  rw [List.mem_append, List.mem_append, List.mem_flatMap] at hx
  rcases hx with hx | hx | ⟨r, hr, hx⟩
  · exact H.c.lt x (ablk_own hx)
  · exact H.d.lt x (ablk_own hx)
  · exact (H.rs r hr).lt x (ablk_own hx)
theorem own_mxT {w : World} {base e m c : Nat} {A : Option Addr} {xs : List Value} (ho : w.ownsRow base e 1 (.slice A m c) m xs) : m ≤ 9223372036854775807 := by
  rcases ho.2 with ⟨hv, h0⟩ | ⟨g, cap, cur, hv, _, _, hc, hm, _⟩
  · omega
  · unfold maxLen at hm
    omega
theorem OwnTT.inT (H : OwnTT base w t) : InTopo w t := by
  refine ⟨InI.own H.c, ⟨rfl, fun hn => ?_⟩, own_mxT H.c, own_mxT H.d⟩
  obtain ⟨g, cap, hv, hb, hlt⟩ := H.d.form hn
  injection hv with hA _ _
  refine ⟨g, 0, hA, hlt, fun j r hj => ?_⟩
  have hr := List.mem_of_getElem? hj
  have hrr := H.rs r hr
  refine ⟨?_, InI.own hrr, own_mxT hrr⟩
  obtain ⟨g', hA', hc, _⟩ := own_at H.d (k := j) (u := valR r) (by rw [List.getElem?_map, hj]; rfl)
  rw [hA] at hA'
  injection hA' with hA'
  injection hA' with hA'
  subst hA'
  rw [Nat.zero_add]
  exact hc
end
theorem own_LN {w wr w' : World} {g5 g4 cc d : Nat} {N F : Int} {ca D : Option Addr} {C : List Int} {rows : List RowV} (h : LN w wr g5 g4 N F ca cc C rows D d) (hc : Ch [g4] wr w') : OwnTT w.heap.size w' ⟨N, F, ca, cc, C, D, d, rows⟩ := by
  have key : ∀ {e s n : Nat} {v : Value} {xs : List Value}, wr.ownsRow w.heap.size e s v n xs → e ≠ 30 → w'.ownsRow w.heap.size e s v n xs := fun ho hne =>
    own_chV ho hc (fun i hi hm => by
      rw [List.mem_singleton] at hm
      subst hm
      exact own_neV ho h.t4 hne hi)
  exact ⟨key h.c (by decide), key h.d (by decide), fun q hq => key (h.rs q hq) (by decide)⟩
theorem pushD3 {w wr w' : World} {g5 g4 cc d g cap i : Nat} {N F : Int} {ca D : Option Addr} {C : List Int} {rows : List RowV} {q : RowV} (h : LN w wr g5 g4 N F ca cc C rows D d) (hl : rows.length = i) (hq : wr.ownsRow w.heap.size 3 1 (.slice q.a q.zs.length q.c) q.zs.length (q.zs.map (Value.int .i64))) (hqc : ∀ i, (Value.slice ca C.length cc).ownBlock = some i → (Value.slice q.a q.zs.length q.c).ownBlock ≠ some i)
    (hg : wr.grownBy w' (Value.slice D i d).ownBlock) (hsz : w.heap.size ≤ wr.heap.size) (ho : w'.ownsRow w.heap.size 27 1 (.slice (some ⟨g, 0, none⟩) (i + 1) cap) (i + 1) (rows.map valR ++ [valR q])) :
    Blk w' g5 30 [.int .i64 N, .int .i64 F, .slice ca C.length cc, .slice D i d] ∧
    LN w (w'.setCell ⟨g5, 3, none⟩ (.slice (some ⟨g, 0, none⟩) (i + 1) cap)) g5 g4 N F ca cc C (rows ++ [q]) (some ⟨g, 0, none⟩) cap := by
  subst hl
  exact LN.pushD h hq hqc hg hsz ho
set_option maxRecDepth 100000 in
set_option maxHeartbeats 1000000 in
theorem copied_any (t : TopoV) (hc0 : 0 < t.cs.length) (hcl : t.cs.length ≤ 1000) (hdl : t.ds.length ≤ 1000) (hr0 : ∀ r ∈ t.ds, 0 < r.zs.length ∧ r.zs.length ≤ 1000) (w : World) (hT : InTopo w t) :
    Calls Tryz.prog 18 #[t.val] w fun e w' => ∃ t' : TopoV, e = .returned t'.val ∧ OwnTT w.heap.size w' t' ∧ t'.N = t.N ∧ t'.F = t.F ∧ t'.cs = t.cs ∧ t'.ds.map RowV.zs = t.ds.map RowV.zs ∧ Below w.heap.size w w' := by
  obtain ⟨N, F, ca, cc, cs, da, dc, ds⟩ := t
  simp only [TopoV.val] at *
  obtain ⟨ie, he0, hez, he1, he2⟩ := info_parts info_rowO
  have HE0 := Lib.hid he0; have HEZ := Lib.hid hez; have HE1 := Lib.hid he1; have HE2 := Lib.hid he2
  clear he0 hez he1 he2
  have HC := Lib.hid hT.c; have HD := Lib.hid hT.d; have HR0 := Lib.hid hr0
  clear hT hr0
  go_enter Tryz.func18, Tryz.ntmps18
  go_upto_region 1 with fail
  have hb1 := (Blk.new w 30 [.int .i64 N, .int .i64 F, .slice ca cs.length cc, .slice da ds.length dc]).alloc (.cells #[.int .i64 0, .int .i64 0, .slice none 0 0, .slice none 0 0] 30)
  have hb2 := Blk.new (w.alloc (.cells #[.int .i64 N, .int .i64 F, .slice ca cs.length cc, .slice da ds.length dc] 30)) 30 [.int .i64 0, .int .i64 0, .slice none 0 0, .slice none 0 0]
  rw [show (w.alloc (.cells #[.int .i64 N, .int .i64 F, .slice ca cs.length cc, .slice da ds.length dc] 30)).heap.size = w.heap.size + 1 by simp] at hb2
  have hBA := bel_alloc (bel_alloc (Below.refl w.heap.size w) (.cells #[.int .i64 N, .int .i64 F, .slice ca cs.length cc, .slice da ds.length dc] 30)) (.cells #[.int .i64 0, .int .i64 0, .slice none 0 0, .slice none 0 0] 30)
  have hb1 : Blk ((w.alloc (.cells #[.int .i64 N, .int .i64 F, .slice ca cs.length cc, .slice da ds.length dc] 30)).alloc (.cells #[.int .i64 0, .int .i64 0, .slice none 0 0, .slice none 0 0] 30)) w.heap.size 30 [.int .i64 N, .int .i64 F, .slice ca cs.length cc, .slice da ds.length dc] := hb1
  have hb2 : Blk ((w.alloc (.cells #[.int .i64 N, .int .i64 F, .slice ca cs.length cc, .slice da ds.length dc] 30)).alloc (.cells #[.int .i64 0, .int .i64 0, .slice none 0 0, .slice none 0 0] 30)) (w.heap.size + 1) 30 [.int .i64 0, .int .i64 0, .slice none 0 0, .slice none 0 0] := hb2
  generalize (w.alloc (.cells #[.int .i64 N, .int .i64 F, .slice ca cs.length cc, .slice da ds.length dc] 30)).alloc (.cells #[.int .i64 0, .int .i64 0, .slice none 0 0, .slice none 0 0] 30) = wA at *
  have q2 := hb1.at_ (i := 2) rfl
  have HB1 := Lib.hid hb1; have HB2 := Lib.hid hb2; have HBA := Lib.hid hBA
  clear hb1 hb2 hBA
  generalize hg4 : w.heap.size + 1 = g4 at *
  go_wp2_with fail
  refine (clone_in hc0 hcl (HC.out.below HBA.out)).mono ?_; rintro e w1 ⟨gc, c1, rfl, hoc, hB1⟩
  have b1 := HB1.out.below hB1
  have b2 := HB2.out.below hB1
  have hBw := bel_trans HBA.out hB1
  have m2 := b1.at_ (i := 2) rfl
  have m3 := b1.at_ (i := 3) rfl
  have f2 := b1.frozen 2
  have f3 := b1.frozen 3
  have hne : w.heap.size ≠ g4 := by omega
  have hLL : LN w ((w1.setCell ⟨w.heap.size, 2, none⟩ (.slice (some ⟨gc, 0, none⟩) cs.length c1)).setCell ⟨w.heap.size, 3, none⟩ (.slice none 0 0)) w.heap.size g4 N F (some ⟨gc, 0, none⟩) c1 cs [] none 0 := by
    have hch : Ch [w.heap.size] w1 ((w1.setCell ⟨w.heap.size, 2, none⟩ (.slice (some ⟨gc, 0, none⟩) cs.length c1)).setCell ⟨w.heap.size, 3, none⟩ (.slice none 0 0)) := ((Ch.refl [w.heap.size] w1).set (p := ⟨w.heap.size, 2, none⟩) (by simp) _).set (p := ⟨w.heap.size, 3, none⟩) (by simp) _
    refine ⟨(b1.set_ 2 _).set_ 3 _, b2.ch hch (by simpa using Ne.symm hne), own_chV (own_base0 hoc HBA.out.size) hch (fun q hq => ?_), World.ownsRow_nil _ _ _ _, by simp, by simp, hne, Nat.le_refl _, by omega, bel_ch hBw hch (by simp)⟩
    intro hm
    rw [List.mem_singleton] at hm
    subst hm
    exact own_neV hoc b1 (by decide) hq
  have HLL := Lib.hid hLL; have HBW := Lib.hid hBw
  clear hLL b1 b2 hB1 hoc HB1 HB2 hBw
  go_wp2_with fail
  have hdsz := HLL.out.bel.size
  generalize (w1.setCell ⟨w.heap.size, 2, none⟩ (.slice (some ⟨gc, 0, none⟩) cs.length c1)).setCell ⟨w.heap.size, 3, none⟩ (.slice none 0 0) = w2 at *
  clear m2 m3 f2 f3 q2 hdsz
  go_loopw [15] (fun v wr => ∃ (i : Nat) (rows : List RowV) (D : Option Addr) (d : Nat), i ≤ ds.length ∧ rows.length = i ∧ v = .int .i64 (i : Int) ∧ LN w wr w.heap.size g4 N F (some ⟨gc, 0, none⟩) c1 cs rows D d ∧ rows.map RowV.zs = (ds.take i).map RowV.zs) (fun v _ => ds.length - (intOf v).toNat)
  case atStart => exact ⟨0, [], none, 0, by omega, rfl, rfl, HLL.out, rfl⟩
  case round =>
    clear HLL
    obtain ⟨i, rows, D, d, hi, hrl, rfl, hL, hrow⟩ := hrel
    have HL := Lib.hid hL; have HROW := Lib.hid hrow; have HRL := Lib.hid hrl
    by_cases hlt : i < ds.length
    · have hBwr := hL.bel
      obtain ⟨b, off, r, rfl, hb, hri, hcell, hI, h63⟩ := HD.out.get hlt
      have hr0 := HR0.out r (List.mem_of_getElem? hri)
      have kv := (hBwr.cell (p := ⟨b, off + i, none⟩) hb).trans hcell
      have hix := fun w => idx_rows b off ds.length dc i hlt w
      have hIr := hI.below hBwr
      have htk : (ds.take (i + 1)).map RowV.zs = (ds.take i).map RowV.zs ++ [r.zs] := by
        rw [List.take_add_one, hri, List.map_append]; rfl
      have m3 := hL.t5.at_ (i := 3) rfl
      rw [hrl] at m3
      have HTK := Lib.hid htk; have HI := Lib.hid hIr
      clear htk hIr hI hcell hri hBwr hL hrow hrl
      generalize r.zs = ZS at *
      generalize r.a = ra at *
      generalize r.c = rc at *
      have hcq := fun w' (hb : Below wr.heap.size wr w') => clone_in (c := rc) hr0.1 hr0.2 (HI.out.below hb)
      have HCQ := Lib.hid hcq
      clear hcq
      have hm1 := HL.out.t5.lt
      have hsw := HL.out.bel.size
      have hb0 := Below.refl wr.heap.size wr
      have hb00 := bel_drew hb0
      have HB00 := Lib.hid hb00
      clear hb00 hb0
      go_upto_region 7 with fail
      go_region_law
        (first
          | (go_simp; go_at_call 43; refine (HCQ.out _ (by first | exact Below.refl _ _ | exact HB00.out | exact bel_drewN (Below.refl _ _) _)).mono ?_; rintro e w5 ⟨g6, c6, rfl, ho5, hB5'⟩; have hB5 : Below wr.heap.size wr w5 := (by first | exact hB5' | exact bel_trans HB00.out hB5'); have hL5 := HL.out.below hB5; have hk3 := hL5.t5.at_ (i := 3) rfl; rw [HRL.out] at hk3; have hOD := own_chV hL5.d ((Ch.refl [] w5).alloc (.cells #[.slice (some ⟨g6, 0, none⟩) ZS.length c6] 27)) (by simp); rw [HRL.out] at hOD; have hm15 := hL5.t5.lt; have hsw5 := hL5.bel.size)
          | (refine step_append_lies _ (by rfl) (.tmp 20) (.tmp 23) _ (by rfl) w.heap.size 27 ie _ 1 24 Tryz.underlying28 HE0.out HEZ.out HE1.out HE2.out rfl (by omega) (.slice D i d) i (rows.map valR) (by rfl) hOD
              ⟨w5.heap.size, 0, none⟩ 1 1 [.slice (some ⟨g6, 0, none⟩) ZS.length c6] (by rfl) (by rfl) (World.news_of_block (heap_alloc_new w5 _)) (by simp [Value.oneCell']) (by omega) (by unfold maxLen; omega) (by omega) (by simp; omega) _ rfl ?_; intro gg cap w6 hown6 hgrow6 hat6 hlt6; have hp := (pushD3 (q := ⟨some ⟨g6, 0, none⟩, c6, ZS⟩) (hL5.below (bel_alloc (Below.refl _ w5) (.cells #[.slice (some ⟨g6, 0, none⟩) ZS.length c6] 27))) HRL.out (own_chV (own_base0 ho5 (by first | exact hsw | (simp; omega))) ((Ch.refl [] w5).alloc (.cells #[.slice (some ⟨g6, 0, none⟩) ZS.length c6] 27)) (by simp)) (fun z hz hz2 => by have h1 := (HL.out.c.lt z hz).2; have h2 := (ho5.lt z hz2).1; simp at h2; omega) hgrow6 (by simp; omega) hown6); have m3' := hp.1.at_ (i := 3) rfl; have f3' := hp.1.frozen 3))
      all_goals
        have HP := Lib.hid hp.2
        clear hp hown6 hgrow6 hat6 hlt6 hOD hk3 hL5 ho5 hB5 hB5' m3
        go_wp2_with fail
        go_roundw
        case rel => exact ⟨i + 1, _, _, _, by omega, by rw [List.length_append, HRL.out]; rfl, by go_num, HP.out, by rw [HTK.out, List.map_append, HROW.out]; rfl⟩
        case measure => simp [intOf]; omega
    · obtain rfl : i = ds.length := by omega
      rw [List.take_length] at HROW
      have hL := HL.out
      have m0 := hL.t5.at_ (i := 0) rfl
      have m1 := hL.t5.at_ (i := 1) rfl
      have m2 := hL.t5.at_ (i := 2) rfl
      have m3 := hL.t5.at_ (i := 3) rfl
      have j0 := hL.t4.at_ (i := 0) rfl
      have j1 := hL.t4.at_ (i := 1) rfl
      have j2 := hL.t4.at_ (i := 2) rfl
      have j3 := hL.t4.at_ (i := 3) rfl
      have f0 := hL.t4.frozen 0
      have f1 := hL.t4.frozen 1
      have f2 := hL.t4.frozen 2
      have f3 := hL.t4.frozen 3
      have hz : Blk ((((wr.setCell ⟨g4, 0, none⟩ (.int .i64 N)).setCell ⟨g4, 1, none⟩ (.int .i64 F)).setCell ⟨g4, 2, none⟩ (.slice (some ⟨gc, 0, none⟩) cs.length c1)).setCell ⟨g4, 3, none⟩ (.slice D rows.length d)) g4 30 [.int .i64 N, .int .i64 F, .slice (some ⟨gc, 0, none⟩) cs.length c1, .slice D rows.length d] :=
        (((hL.t4.set_ 0 _).set_ 1 _).set_ 2 _).set_ 3 _
      have hcz : Ch [g4] wr ((((wr.setCell ⟨g4, 0, none⟩ (.int .i64 N)).setCell ⟨g4, 1, none⟩ (.int .i64 F)).setCell ⟨g4, 2, none⟩ (.slice (some ⟨gc, 0, none⟩) cs.length c1)).setCell ⟨g4, 3, none⟩ (.slice D rows.length d)) :=
        ((((Ch.refl [g4] wr).set (p := ⟨g4, 0, none⟩) (by simp) _).set (p := ⟨g4, 1, none⟩) (by simp) _).set (p := ⟨g4, 2, none⟩) (by simp) _).set (p := ⟨g4, 3, none⟩) (by simp) _
      have hTT := own_LN hL hcz
      have hBz := bel_ch hL.bel hcz (by simp; omega)
      have HZ := Lib.hid hz; have HTT := Lib.hid hTT; have HBZ := Lib.hid hBz
      clear hz hcz hTT hBz hL hrow hrl HL
      go_wp2_with fail
      exact bodyPost_ret (results_cell_row Tryz.results18 _ _ g4 30 _ (0, 0) _ rfl HZ.out Tryz.underlying30 rfl (by kernel_rfl)) rfl ⟨⟨N, F, some ⟨gc, 0, none⟩, c1, cs, D, d, rows⟩, rfl, HTT.out, rfl, rfl, rfl, HROW.out, HBZ.out⟩
end Go.Proofs.YtjdbedoabcbeeaaGreatDoor
/- The machine's parts. -/
namespace Go.Proofs.YtjdbedoabcbeeaaGreatDoor
open Go.RowKit
set_option linter.unusedVariables false
set_option linter.unusedSimpArgs false

/-- A block of these cells. -/
def blkP (b t : Nat) (cs : List Value) : Part := ⟨fun w => Blk w b t cs, [b], fun S w w' h k hS => h.ch k (fun hx => hS b hx (by simp)), fun w h x hx => by rw [List.mem_singleton] at hx; subst hx; exact h.lt⟩
def heapP (base h : Nat) (A : Option Addr) (c n : Nat) (mn lo hi : Int) (B : List Bd) (ct : Nat → Nat) : Part := ⟨fun w => HeapAt w base h A c n mn lo hi B ct, heapFoot h A B, fun S w w' H k hS => H.ch k hS, fun w H => H.lt⟩
def spP (base s : Nat) (A : Option Addr) (c : Nat) (Z : List Nat) : Part := ⟨fun w => SpAt w base s A c Z, spFoot s A, fun S w w' H k hS => H.ch k hS, fun w H => H.lt⟩
theorem MemAt.lts {w : World} {mb g b each nf tg bt bf : Nat} {bs : List Int} {mt mf : List (Int × Int)} (h : MemAt w mb g b each nf tg bt bf bs mt mf) : ∀ x ∈ [mb, g, b, tg, bt, bf], x < w.heap.size := by
  intro x hx
  simp only [List.mem_cons, List.not_mem_nil, or_false] at hx
  rcases hx with rfl | rfl | rfl | rfl | rfl | rfl
  · exact h.st.lt
  · exact h.fs.st.lt
  · exact h.fs.dt.lt
  · exact h.tb.st.lt
  · exact h.tb.to_.lt
  · exact h.tb.fr.lt
def memP (mb g b each nf tg bt bf : Nat) (bs : List Int) (mt mf : List (Int × Int)) : Part :=
  ⟨fun w => MemAt w mb g b each nf tg bt bf bs mt mf, [mb, g, b, tg, bt, bf], fun S w w' h k hS => h.ch k (fun x hx => by have := hS x hx; simpa using this), fun w h => h.lts⟩
def bookP (g b : Nat) (k : Int) (f : Int → Option Pol) : Part :=
  ⟨fun w => BookAt w g b k f, [g, b], fun S w w' h c hS => h.ch c (fun hx => hS g hx (by simp)) (fun hx => hS b hx (by simp)), fun w h x hx => by
    simp only [List.mem_cons, List.not_mem_nil, or_false] at hx
    rcases hx with rfl | rfl
    · exact h.st.lt
    · obtain ⟨m, hm, _⟩ := h.mp
      exact hm.lt⟩
def logFoot (g bc : Nat) (A : Option Addr) : List Nat := g :: bc :: rowOf A
theorem log_ch {w w' : World} {base g bc nodes c : Nat} {A : Option Addr} {evs : List Ev} {S : List Nat} (h : LogAt w base g bc nodes A c evs) (k : Ch S w w') (hS : ∀ x ∈ S, x ∉ logFoot g bc A) : LogAt w' base g bc nodes A c evs := by
  obtain ⟨cs, hb, hr⟩ := h.ct
  exact ⟨h.st.ch k (fun hx => hS g hx (by simp [logFoot])), ⟨cs, hb.ch k (fun hx => hS bc hx (by simp [logFoot])), hr⟩, own_chV h.ev k (fun q hq hx => hS q hx (by unfold logFoot; exact List.mem_cons_of_mem _ (List.mem_cons_of_mem _ (mem_rowOf.1 hq)))), h.n8, h.mx, h.gb, h.cb⟩
theorem log_lt {w : World} {base g bc nodes c : Nat} {A : Option Addr} {evs : List Ev} (h : LogAt w base g bc nodes A c evs) : ∀ x ∈ logFoot g bc A, base ≤ x ∧ x < w.heap.size := by
  intro x hx
  unfold logFoot at hx
  rcases List.mem_cons.1 hx with rfl | hx
  · exact ⟨h.gb, h.st.lt⟩
  rcases List.mem_cons.1 hx with rfl | hx
  · exact ⟨h.cb, h.ctlt⟩
  · exact h.ev.lt x (mem_rowOf.2 hx)
def logP (base g bc nodes : Nat) (A : Option Addr) (c : Nat) (evs : List Ev) : Part :=
  ⟨fun w => LogAt w base g bc nodes A c evs, logFoot g bc A, fun S w w' h k hS => log_ch h k hS, fun w h x hx => (log_lt h x hx).2⟩
def mapP (b : Nat) (m : List (Int × Value)) : Part := ⟨fun w => MapAt intKeys w b m, [b], fun S w w' h k hS => h.ch k (fun hx => hS b hx (by simp)), fun w h x hx => by rw [List.mem_singleton] at hx; subst hx; exact h.lt⟩
def rowP (base e s : Nat) (A : Option Addr) (c n : Nat) (xs : List Value) : Part :=
  ⟨fun w => w.ownsRow base e s (.slice A n c) n xs, ablk A, fun S w w' h k hS => own_chV h k (fun q hq hx => hS q hx (ablk_mem hq)), fun w h x hx => (h.lt x (ablk_own hx)).2⟩
def topoP (base : Nat) (t : TopoV) : Part := ⟨fun w => OwnTT base w t, ttFoot t, fun S w w' h k hS => h.ch k hS, fun w h x hx => (h.range x hx).2⟩
/-- A CPU: its struct and its cache, which is empty. -/
structure CpuAt (w : World) (base : Nat) (b q : Nat) (nd m : Int) (s : Int) (pn cur : Int) : Prop where
  st : Blk w b 72 [.int .i64 nd, .int .i64 m, .int .u8 s, .int .i64 pn, .int .i64 cur, .pointer (some ⟨q, 0, none⟩)]
  ca : Four w base 120 q (List.replicate 4 (.slice none 0 0)) (fun _ => [])
theorem CpuAt.ch {w w' : World} {base b q : Nat} {nd m s pn cur : Int} {S : List Nat} (h : CpuAt w base b q nd m s pn cur) (k : Ch S w w') (hS : ∀ x ∈ S, x ∉ [b, q]) : CpuAt w' base b q nd m s pn cur :=
  ⟨h.st.ch k (fun hx => hS b hx (by simp)), h.ca.ch k (fun x hx hm => hS x hm (by
    have : cset q (List.replicate 4 (Value.slice none 0 0)) = [q] := by simp [cset, Value.ownBlock]
    rw [this, List.mem_singleton] at hx
    subst hx
    simp))⟩
def cpuP (base b q : Nat) (nd m s pn cur : Int) : Part := ⟨fun w => CpuAt w base b q nd m s pn cur, [b, q], fun S w w' h k hS => h.ch k hS, fun w h x hx => by
  simp only [List.mem_cons, List.not_mem_nil, or_false] at hx
  rcases hx with rfl | rfl
  · exact h.st.lt
  · exact (h.ca.lt x (by simp [cset])).2⟩
end Go.Proofs.YtjdbedoabcbeeaaGreatDoor
/- class.Pages, ring.New. -/
namespace Go.Proofs.YtjdbedoabcbeeaaGreatDoor
open Go.RowKit
set_option linter.unusedVariables false
set_option linter.unusedSimpArgs false
attribute [local go_sem] World.cell?_alloc_lt

theorem pages_any (p : Nat) (h1 : 1 ≤ p) (h2 : p ≤ 16) (w : World) : Calls Tryz.prog 59 #[.int .i64 (64 * (p : Int))] w fun e w' => e = .returned (.tuple #[.int .i64 (p : Int), .int .i64 0]) ∧ w = w' := by
  have e1 : ((64 * (p : Int)) < 1) = False := by simp; omega
  have e2 : ((1024 : Int) < (64 * (p : Int))) = False := by simp; omega
  have e3 : (64 * (p : Int) + 64 - 1).tdiv 64 = (p : Int) := by rw [Int.tdiv_eq_ediv_of_nonneg (by omega)]; omega
  go_enter Tryz.func59, Tryz.ntmps59
  go_wp2_with fail
  go_ret2
  exact ⟨by first | rfl | (simp; omega), rfl⟩
theorem info_intR : (Tryz.prog.info? 3).map (fun i => (i.zero, i.size, i.bytes)) = some (some (.int .i64 0), 1, 8) := by kernel_rfl
set_option maxRecDepth 100000 in
theorem ring_new (w : World) : Calls Tryz.prog 22 #[.int .i64 16] w fun e w' => ∃ q, e = .returned (.tuple #[.pointer (some ⟨q, 0, none⟩), .int .i64 0]) ∧ w.heap.size ≤ q ∧ Below w.heap.size w w' := by
  obtain ⟨i0, hi, hz0, hz1, hz2⟩ := info_parts info_intR
  have hmc : ∀ w : World, (Instr.makeChan 121 (.int .i64 16)).run Tryz.prog w = .ok (.chan (some w.heap.size)) (w.alloc (.chan 16 #[] false 0 0 false)) := fun w => Go.Conc.run_makeChan (P := Tryz.prog) (w := w) Tryz.underlying121 hi .i64 16 (by omega) (by rw [hz2]; omega)
  clear hi hz0 hz1 hz2
  go_enter Tryz.func22, Tryz.ntmps22
  go_wp2_with fail
  go_ret2
  exact ⟨w.heap.size + 1, by simp, by omega, bel_alloc (bel_alloc (Below.refl _ _) _) _⟩
end Go.Proofs.YtjdbedoabcbeeaaGreatDoor
/- (*alloc.Machine).parts. -/
namespace Go.Proofs.YtjdbedoabcbeeaaGreatDoor
open Go.RowKit
set_option linter.unusedVariables false
set_option linter.unusedSimpArgs false
attribute [local go_sem] World.cell?_alloc_lt

def ptr (b : Nat) : Value := .pointer (some ⟨b, 0, none⟩)
def macV (t : TopoV) (vm vh vs vb vl vc vq : Value) (bs bl : Nat) : List Value := [.int .i64 t.N, .int .i64 t.F, .slice t.ca t.cs.length t.cc, .slice t.da t.ds.length t.dc, vm, vh, vs, vb, vl, vc, vq, .map (some bs), .map (some bl)]
theorem log_base {w : World} {base b' g bc nodes c : Nat} {A : Option Addr} {evs : List Ev} (h : LogAt w base g bc nodes A c evs) (hb : b' ≤ base) : LogAt w b' g bc nodes A c evs :=
  ⟨h.st, h.ct, own_base0 h.ev hb, h.n8, h.mx, Nat.le_trans hb h.gb, Nat.le_trans hb h.cb⟩
theorem fair_nil (nf : Nat) : Fair nf [] [] := ⟨fun p f h => by simp [mget] at h, fun p f => by simp [mget]⟩
def storeP (g b each nf : Nat) (bs : List Int) : Part := ⟨fun w => StoreAt w g b each nf bs, [g, b], fun S w w' h k hS => h.ch k (fun hx => hS g hx (by simp)) (fun hx => hS b hx (by simp)), fun w h x hx => by
  simp only [List.mem_cons, List.not_mem_nil, or_false] at hx
  rcases hx with rfl | rfl
  · exact h.st.lt
  · exact h.dt.lt⟩
theorem keep2 {w w' : World} {S : List Nat} {b i j : Nat} {x0 x1 : Value} (k : Ch S w w') (h1 : b ∉ S) (h : w.cell? ⟨b, i, none⟩ = some x0 ∧ w.cell? ⟨b, j, none⟩ = some x1) : w'.cell? ⟨b, i, none⟩ = some x0 ∧ w'.cell? ⟨b, j, none⟩ = some x1 := ⟨ch_keep k h1 h.1, ch_keep k h1 h.2⟩
set_option maxRecDepth 100000 in
set_option maxHeartbeats 1000000 in
theorem parts_any (N each : Nat) (h1 : 1 ≤ N) (h8 : N ≤ 8) (he1 : 1 ≤ each) (he2 : each ≤ 1024) (t : TopoV) (htN : t.N = (N : Int)) (htF : t.F = (each : Int)) (m bs bl : Nat) (vh vs vc vq : Value) (p0 p1 p2 p3 p4 : Part) (w0 w : World) (H : Mach w0 w [p0, p1, p2, p3, p4, blkP m 66 (macV t (.pointer none) vh vs (.pointer none) (.pointer none) vc vq bs bl)]) :
    Calls Tryz.prog 20 #[ptr m] w fun e w' => ∃ mb g b tg bt bf gb bb gl bc, e = .returned (.int .i64 0) ∧
      Mach w0 w' [p0, p1, p2, p3, p4, blkP m 66 (macV t (ptr mb) vh vs (ptr gb) (ptr gl) vc vq bs bl), memP mb g b each (N * each) tg bt bf (List.replicate (N * each * 64) 0) [] [], bookP gb bb (N : Int) (fun _ => none), logP w0.heap.size gl bc N none 0 []] ∧ Ch [m] w w' := by
  obtain ⟨tN, tF, ca, cc, cs, da, dc, ds⟩ := t
  simp only [macV, ptr] at *
  subst htN htF
  have hst : Blk w m 66 _ := H.get (k := 5) rfl
  have m0 := hst.at_ (i := 0) rfl
  have m1 := hst.at_ (i := 1) rfl
  have hfr := fun w' => fr_new N each w' h1 h8 he1 he2
  have HFR := Lib.hid hfr; have HH := Lib.hid H; have HST := Lib.hid hst
  clear hfr H hst
  go_enter Tryz.func20, Tryz.ntmps20
  go_upto_region 1 with fail
  go_region_held3 (fun w' => w'.cell? ⟨m, 0, none⟩ = some (.int .i64 (N : Int)) ∧ w'.cell? ⟨m, 1, none⟩ = some (.int .i64 (each : Int)))
    (first | go_keep | exact keep2 (Ch.below hB1 []) (by simp) (by assumption) | exact keep2 (Ch.below hB1 []) (by simp) ⟨by assumption, by assumption⟩)
    (first | (go_at_call 44; refine (HFR.out _).mono ?_; rintro e w1 ⟨g, b, rfl, hg, hb, hS, hB1⟩))
  have hBw : Below w.heap.size w w1 := bel_trans (bel_drew (Below.refl _ w)) hB1
  have H1 := HH.out.add (p' := storeP g b each (N * each) (List.replicate (N * each * 64) 0)) hBw hS (by intro x hx; simp only [storeP, List.mem_cons, List.not_mem_nil, or_false] at hx; rcases hx with rfl | rfl <;> assumption)
  have HC1 := Lib.hid (Ch.below hBw [m])
  have HH1 := Lib.hid H1
  clear H1 hBw hB1 hS hg hb HH HST m0 m1
  go_wp2_with fail
  refine (me_new g w1).mono ?_; rintro e w2 ⟨mb, tg, bt, bf, rfl, h5, h6, h7, h8', hm, h2, hB2⟩
  have H2 := HH1.out.upd (k := 6) (p' := memP mb g b each (N * each) tg bt bf (List.replicate (N * each * 64) 0) [] []) rfl (Ch.below hB2 _) ⟨hm, (show StoreAt w1 g b each (N * each) (List.replicate (N * each * 64) 0) from HH1.out.get (k := 6) rfl).below hB2, h2, fair_nil _⟩ (by intro x hx; simp only [memP, storeP, List.mem_cons, List.not_mem_nil, or_false] at hx ⊢; rcases hx with rfl | rfl | rfl | rfl | rfl | rfl <;> first | exact Or.inr (by assumption) | simp)
  have HH2 := Lib.hid H2
  have hst2 : Blk w2 m 66 _ := H2.get (k := 5) rfl
  have m4 := hst2.at_ (i := 4) rfl
  have f4 := hst2.frozen 4
  have hst3 := hst2.set_ 4 (.pointer (some ⟨mb, 0, none⟩))
  have hc3 : Ch [m] w2 (w2.setCell ⟨m, 4, none⟩ (.pointer (some ⟨mb, 0, none⟩))) := (Ch.refl [m] w2).set (p := ⟨m, 4, none⟩) (by simp) _
  have H3 := H2.upd (k := 5) rfl (p' := blkP m 66 _) hc3 hst3 (fun x hx => Or.inl hx)
  have HC3 := Lib.hid ((HC1.out.trans (Ch.below hB2 [m])).trans hc3)
  have n0 := hst3.at_ (i := 0) rfl
  have HH3 := Lib.hid H3
  clear hst2 hst3 hc3 H2 H3 HH2 HH1 hm h2 hB2 h5 h6 h7 h8'
  go_wp2_with fail
  generalize w2.setCell ⟨m, 4, none⟩ (.pointer (some ⟨mb, 0, none⟩)) = w3 at *
  refine (bnew (N : Int) (by omega) (by omega) w3).mono ?_; rintro e w4 ⟨gb, bb, rfl, hg4, hb4, hB, hB4⟩
  have H4 := HH3.out.add (p' := bookP gb bb (N : Int) (fun _ => none)) hB4 hB (by intro x hx; simp only [bookP, List.mem_cons, List.not_mem_nil, or_false] at hx; rcases hx with rfl | rfl <;> assumption)
  have hst4 : Blk w4 m 66 _ := H4.get (k := 5) rfl
  have m7 := hst4.at_ (i := 7) rfl
  have f7 := hst4.frozen 7
  have hst5 := hst4.set_ 7 (.pointer (some ⟨gb, 0, none⟩))
  have hc5 : Ch [m] w4 (w4.setCell ⟨m, 7, none⟩ (.pointer (some ⟨gb, 0, none⟩))) := (Ch.refl [m] w4).set (p := ⟨m, 7, none⟩) (by simp) _
  have H5 := H4.upd (k := 5) rfl (p' := blkP m 66 _) hc5 hst5 (fun x hx => Or.inl hx)
  have HC5 := Lib.hid ((HC3.out.trans (Ch.below hB4 [m])).trans hc5)
  have q0 := hst5.at_ (i := 0) rfl
  have HH5 := Lib.hid H5
  clear hst4 hst5 hc5 H4 H5 HH3 hB hB4 hg4 hb4
  go_wp2_with fail
  generalize w4.setCell ⟨m, 7, none⟩ (.pointer (some ⟨gb, 0, none⟩)) = w5 at *
  refine (log_new N w5 h1 h8).mono ?_; rintro e w6 ⟨gl, bc, rfl, hL, hB6⟩
  have H6 := HH5.out.add (p' := logP w0.heap.size gl bc N none 0 []) hB6 (log_base hL HH5.out.bel.size) (fun x hx => (log_lt hL x hx).1)
  have hst6 : Blk w6 m 66 _ := H6.get (k := 5) rfl
  have m8 := hst6.at_ (i := 8) rfl
  have f8 := hst6.frozen 8
  have hst7 := hst6.set_ 8 (.pointer (some ⟨gl, 0, none⟩))
  have hc7 : Ch [m] w6 (w6.setCell ⟨m, 8, none⟩ (.pointer (some ⟨gl, 0, none⟩))) := (Ch.refl [m] w6).set (p := ⟨m, 8, none⟩) (by simp) _
  have H7 := H6.upd (k := 5) rfl (p' := blkP m 66 _) hc7 hst7 (fun x hx => Or.inl hx)
  have HC7 := Lib.hid ((HC5.out.trans (Ch.below hB6 [m])).trans hc7)
  have HH7 := Lib.hid H7
  clear hst6 hst7 hc7 H6 H7 HH5 hL hB6
  go_wp2_with fail
  go_ret
  exact ⟨mb, g, b, tg, bt, bf, gb, bb, gl, bc, rfl, HH7.out, HC7.out⟩
end Go.Proofs.YtjdbedoabcbeeaaGreatDoor
