/- topo.Parse: the reader at work (under way). -/
import Derived.Test.YtbgnaohjcfbaaaaDoorTopoParse3
namespace Go.Proofs.YtbgnaohjcfbaaaaDoor
open Go.RowKit Go.Shelf
set_option linter.unusedVariables false
set_option linter.unusedSimpArgs false
attribute [local go_sem] World.cell?_alloc_lt

/-- The reader's block, the lines' block, and what stood before. -/
structure PR (w0 w : World) (rb gw : Nat) (init : List ByteArray) (last : ByteArray) (r : Rd) : Prop where
  rd : RdAt w rb (some ⟨gw, 0, none⟩) init.length (init.length + 1) r
  ws : Blk w gw 9 ((init ++ [last]).map Value.string)
  bel : Below w0.heap.size w0 w
  lo : w0.heap.size ≤ rb
  ne : gw ≠ rb
section
variable {w0 w w' : World} {rb gw : Nat} {init : List ByteArray} {last : ByteArray} {r r' : Rd}
theorem PR.step (h : PR w0 w rb gw init last r) (hr : RdAt w' rb (some ⟨gw, 0, none⟩) init.length (init.length + 1) r') (hc : Ch [rb] w w') : PR w0 w' rb gw init last r' :=
  ⟨hr, h.ws.ch hc (by simpa using h.ne), bel_ch h.bel hc (fun i hi => by simp at hi; subst hi; exact h.lo), h.lo, h.ne⟩
theorem PR.below (h : PR w0 w rb gw init last r) (k : Below w.heap.size w w') : PR w0 w' rb gw init last r :=
  ⟨Blk.below h.rd k, h.ws.below k, bel_trans h.bel k, h.lo, h.ne⟩
theorem PR.inz (h : PR w0 w rb gw init last r) : InZ w (some ⟨gw, 0, none⟩) init.length init :=
  ⟨rfl, fun _ => ⟨gw, 0, rfl, h.ws.lt, fun j z hj => by
    rw [Nat.zero_add]
    refine h.ws.at_ ?_
    rw [List.getElem?_map, List.getElem?_append_left (List.getElem?_eq_some_iff.1 hj).1, hj]
    rfl⟩⟩
theorem PR.m {m : Int} (h : PR w0 w rb gw init last r) (hm : w0.cell? ⟨0, 0, none⟩ = some (.int .i64 m)) : w.cell? ⟨0, 0, none⟩ = some (.int .i64 m) :=
  (h.bel.cell (p := ⟨0, 0, none⟩) (World.block_lt_of_cell? w0 _ hm)).trans hm
theorem PR.take {m : Int} (h : PR w0 w rb gw init last r) (hm : w0.cell? ⟨0, 0, none⟩ = some (.int .i64 m)) (hn : init.length ≤ 1000000) (hs : ∀ z ∈ init, z.size ≤ 1000000) (ha : r.at_ ≤ 1000000) (word : ByteArray) (one : Bool) :
    Calls Tryd.prog 38 #[.pointer (some ⟨rb, 0, none⟩), .string word, .bool one] w fun e w' => (∃ A' c', e = .returned (.slice A' (takeR init word one r).1.length c') ∧ w'.ownsRow w.heap.size 3 1 (.slice A' (takeR init word one r).1.length c') (takeR init word one r).1.length ((takeR init word one r).1.map (Value.int .i64))) ∧ PR w0 w' rb gw init last (takeR init word one r).2 ∧ Ch [rb] w w' :=
  (take_any rb _ _ _ init r word one m w h.rd h.inz hn ha hs (h.m hm) (by have := World.block_lt_of_cell? w0 _ hm; have := h.lo; simp at *; omega)).mono fun e w' ⟨a, b, c⟩ => ⟨a, h.step b c, c⟩
theorem PR.single {m : Int} (h : PR w0 w rb gw init last r) (hm : w0.cell? ⟨0, 0, none⟩ = some (.int .i64 m)) (hn : init.length ≤ 1000000) (hs : ∀ z ∈ init, z.size ≤ 1000000) (ha : r.at_ ≤ 1000000) (word : ByteArray) :
    Calls Tryd.prog 37 #[.pointer (some ⟨rb, 0, none⟩), .string word] w fun e w' => e = .returned (.int .i64 (singleV init word r)) ∧ PR w0 w' rb gw init last (takeR init word true r).2 ∧ Ch [rb] w w' :=
  (single_any rb _ _ _ init r word m w h.rd h.inz hn ha hs (h.m hm) (by have := World.block_lt_of_cell? w0 _ hm; have := h.lo; simp at *; omega)).mono fun e w' ⟨a, b, c⟩ => ⟨a, h.step b c, c⟩
theorem PR.fin (h : PR w0 w rb gw init last r) (ha : r.at_ ≤ 1000000) (whole : Bool) :
    Calls Tryd.prog 39 #[.pointer (some ⟨rb, 0, none⟩), .bool whole] w fun e w' => e = .returned (.tuple #[]) ∧ PR w0 w' rb gw init last (endR init.length whole r) ∧ Ch [rb] w w' :=
  (end_any rb _ _ _ r whole w h.rd ha).mono fun e w' ⟨a, b, c⟩ => ⟨a, h.step b c, c⟩
end
theorem PR.far {w0 w w' : World} {rb gw : Nat} {init : List ByteArray} {last : ByteArray} {r : Rd} {S : List Nat} (h : PR w0 w rb gw init last r) (hc : Ch S w w') (hS : ∀ x ∈ S, x ≠ rb ∧ x ≠ gw ∧ w0.heap.size ≤ x) : PR w0 w' rb gw init last r :=
  ⟨Blk.ch h.rd hc (fun hm => (hS _ hm).1 rfl), h.ws.ch hc (fun hm => (hS _ hm).2.1 rfl), bel_ch h.bel hc (fun i hi => (hS i hi).2.2), h.lo, h.ne⟩
section
variable {w wr w' : World} {rb gw g8 g2 cc d g cap : Nat} {N F : Int} {ca D : Option Addr} {C : List Int} {rows : List RowV} {q : RowV} {init : List ByteArray} {last : ByteArray} {r : Rd}
theorem LS.grown8 (h : LS w wr rb g8 g2 N F ca cc C rows D d) (hg : wr.grownBy w' (Value.slice D rows.length d).ownBlock) : Blk w' g8 47 [.int .i64 N, .int .i64 F, .slice ca C.length cc, .slice D rows.length d] :=
  h.t8.ch (ch_grown (S := (Value.slice D rows.length d).ownBlock.toList) hg (fun i hi => by rw [hi]; simp)) (fun hm => by rw [Option.mem_toList] at hm; exact own_neV h.d h.t8 (by decide) hm)
theorem PR.push (h : LS w wr rb g8 g2 N F ca cc C rows D d) (hP : PR w wr rb gw init last r) (h8 : w.heap.size ≤ g8) (hg : wr.grownBy w' (Value.slice D rows.length d).ownBlock) (v : Value) : PR w (w'.setCell ⟨g8, 3, none⟩ v) rb gw init last r := by
  have hc : Ch (Value.slice D rows.length d).ownBlock.toList wr w' := ch_grown hg (fun i hi => by rw [hi]; simp)
  have hP2 := hP.far hc (fun x hx => by
    rw [Option.mem_toList] at hx
    refine ⟨?_, ?_, (h.d.lt x hx).1⟩
    · exact fun e => own_neV h.d hP.rd (by decide) (by rw [← e]; exact hx)
    · exact fun e => own_neV h.d hP.ws (by decide) (by rw [← e]; exact hx))
  refine hP2.far (S := [g8]) ((Ch.refl [g8] w').set (p := ⟨g8, 3, none⟩) (by simp) _) (fun x hx => ?_)
  rw [List.mem_singleton] at hx
  subst hx
  exact ⟨h.t8.ne_ hP.rd (by decide), h.t8.ne_ hP.ws (by decide), h8⟩
end
theorem results_cell3 {P : Program} {fn : Func} {p u v : Tmp} {ty : TypeId} (h : fn.results = #[.cell p ty, .tmp u, .tmp v]) (tmps : Array Value) (w : World) (g : Nat) (t : TypeId) (cs : Array Value) (fr : Nat × Nat) (d : TypeDesc)
    (hp : tmps.getD p undef = .pointer (some ⟨g, 0, none⟩)) (hg : w.heap[g]? = some (.cells cs t fr))
    (hu : P.underlying ty = some d) (hd : (match d with | .struct _ | .array _ _ => true | _ => false) = true) (hi : (P.info? ty).map (·.size) = some cs.size) :
    (results fn tmps).run P w = .ok (.tuple #[.agg cs, tmps.getD u undef, tmps.getD v undef]) w := by
  have hp' : tmps[p]?.getD undef = .pointer (some ⟨g, 0, none⟩) := by simpa using hp
  simp [results, h, hp', asAddr, run_loadVar_row w g t ty cs fr d hg hu hd hi]
theorem info_row : (Tryd.prog.info? 23).map (fun i => (i.zero, i.size, i.bytes)) = some (some (.slice none 0 0), 1, 24) := by kernel_rfl
def zeroT : TopoV := ⟨0, 0, none, 0, [], none, 0, []⟩
def Read.mk' (R : Read) : TopoV := ⟨R.N, R.F, none, 0, R.C, none, 0, R.D.map fun z => ⟨none, 0, z⟩⟩
/-- The same machine, wherever it lies. -/
def sameT (t s : TopoV) : Prop := t.N = s.N ∧ t.F = s.F ∧ t.cs = s.cs ∧ t.ds.map RowV.zs = s.ds.map RowV.zs
def outP (R : Read) : TopoV × Int × Int := if R.r.bad = true then (zeroT, (R.r.at_ : Int), 2) else if chkT R.mk' ≠ 0 then (zeroT, 0, chkT R.mk') else (R.mk', 0, 0)
theorem dv_map (D : List RowV) (a c : Nat) : dv D a c = (((D.map RowV.zs)[a]?).map (fun z => z.getD c 0)).getD 0 := by
  unfold dv
  rw [List.getElem?_map, Option.map_map]
  rfl
theorem sqB_map (m : Nat) (D : List RowV) : sqB m D = (decide ((D.map RowV.zs).length = m) && (D.map RowV.zs).all (fun z => decide (z.length = m))) := by
  unfold sqB
  rw [List.length_map, List.all_map]
  rfl
theorem chkT_same {t s : TopoV} (h : sameT t s) : chkT t = chkT s := by
  obtain ⟨h1, h2, h3, h4⟩ := h
  unfold chkT cntB matB symB okB
  rw [h1, h2, h3]
  simp only [sqB_map, dv_map, h4]
theorem own_mx {w : World} {base m c s : Nat} {e : TypeId} {A : Option Addr} {xs : List Value} (h : w.ownsRow base e s (.slice A m c) m xs) : m ≤ 9223372036854775807 := by
  rcases h.2 with ⟨hv, h0⟩ | ⟨g, cap, cur, hv, _, _, hc, hm, _⟩
  · omega
  · unfold maxLen at hm
    omega
theorem inT_of {w : World} {base cc d : Nat} {N F : Int} {ca D : Option Addr} {C : List Int} {rows : List RowV} (hc : w.ownsRow base 3 1 (.slice ca C.length cc) C.length (C.map (Value.int .i64))) (hd : w.ownsRow base 23 1 (.slice D rows.length d) rows.length (rows.map RowV.val))
    (hrs : ∀ q ∈ rows, w.ownsRow base 3 1 (.slice q.a q.zs.length q.c) q.zs.length (q.zs.map (Value.int .i64))) : InTopo w ⟨N, F, ca, cc, C, D, d, rows⟩ := by
  refine ⟨InI.own hc, ⟨rfl, fun hn => ?_⟩, own_mx hc, own_mx hd⟩
  obtain ⟨g, cap, hv, hb, hlt⟩ := hd.form hn
  injection hv with hA _ _
  refine ⟨g, 0, hA, hlt, fun j r hj => ?_⟩
  have hr := List.mem_of_getElem? hj
  refine ⟨?_, InI.own (hrs r hr), own_mx (hrs r hr)⟩
  obtain ⟨g', hA', hc, _⟩ := own_at hd (k := j) (u := r.val) (by rw [List.getElem?_map, hj]; rfl)
  rw [hA] at hA'
  injection hA' with hA'
  injection hA' with hA'
  subst hA'
  rw [Nat.zero_add]
  exact hc
section
variable {w wr w' : World} {rb g8 g2 cc d : Nat} {N F : Int} {ca D : Option Addr} {C : List Int} {rows : List RowV}
theorem LS.inT (h : LS w wr rb g8 g2 N F ca cc C rows D d) : InTopo wr ⟨N, F, ca, cc, C, D, d, rows⟩ := inT_of h.c h.d h.rs
theorem LS.inT2 (h : LS w wr rb g8 g2 N F ca cc C rows D d) (hc : Ch [g2] wr w') : InTopo w' ⟨N, F, ca, cc, C, D, d, rows⟩ := by
  have key : ∀ {e s n : Nat} {v : Value} {xs : List Value}, wr.ownsRow w.heap.size e s v n xs → e ≠ 47 → w'.ownsRow w.heap.size e s v n xs := fun ho hne =>
    own_chV ho hc (fun i hi hm => by
      rw [List.mem_singleton] at hm
      subst hm
      exact own_neV ho h.t2 hne hi)
  exact inT_of (key h.c (by decide)) (key h.d (by decide)) (fun q hq => key (h.rs q hq) (by decide))
end
theorem zeroT_in (w : World) : InTopo w zeroT := ⟨⟨rfl, fun h => absurd h (by simp [zeroT])⟩, ⟨rfl, fun h => absurd h (by simp [zeroT])⟩, by simp [zeroT], by simp [zeroT]⟩
set_option maxRecDepth 100000 in
set_option maxHeartbeats 4000000 in
theorem topo_parse (X : ByteArray) (hX : X.size ≤ 900000) (m : Int) (w : World) (hm : w.cell? ⟨0, 0, none⟩ = some (.int .i64 m)) :
    Calls Tryd.prog 18 #[.string X] w fun e w' => (∃ t : TopoV, e = .returned (.tuple #[t.val, .int .i64 (outP (readT X)).2.1, .int .i64 (outP (readT X)).2.2]) ∧ InTopo w' t ∧ sameT t (outP (readT X)).1) ∧ Below w.heap.size w w' := by
  obtain ⟨V, L, E, hV⟩ : ∃ V L E, outP (readT X) = (V, L, E) := ⟨_, _, _, rfl⟩
  rw [hV]
  obtain ⟨init, last, hws⟩ : ∃ init last, wordsB 10 X = init ++ [last] := by
    have h := words_len 10 X
    have hne : wordsB 10 X ≠ [] := by intro e; rw [e] at h; simp at h
    exact ⟨_, _, (List.dropLast_concat_getLast hne).symm⟩
  have hlen := words_len 10 X
  have hRT : readT X = readL init (decide (last = ⟨#[]⟩)) := by
    unfold readT
    rw [hws, List.dropLast_concat, List.getLast?_concat]
    congr 1
    by_cases h : last = ⟨#[]⟩
    · rw [h]; simp
    · rw [decide_eq_false h, decide_eq_false (fun e => h (by injection e))]
  have hRL : ∀ wh, readL init wh = ⟨singleV init nodesW ⟨0, false⟩, singleV init framesW (takeR init nodesW true ⟨0, false⟩).2, (takeR init cpusW false (takeR init framesW true (takeR init nodesW true ⟨0, false⟩).2).2).1, (distR init (takeR init cpusW false (takeR init framesW true (takeR init nodesW true ⟨0, false⟩).2).2).2 (singleV init nodesW ⟨0, false⟩).toNat).1, endR init.length wh (distR init (takeR init cpusW false (takeR init framesW true (takeR init nodesW true ⟨0, false⟩).2).2).2 (singleV init nodesW ⟨0, false⟩).toNat).2⟩ := fun _ => rfl
  have hE : decide (last = ⟨#[]⟩) = last.toList.isEmpty := by
    rw [Lib.toList_data]
    obtain ⟨⟨l⟩⟩ := last
    cases l with
    | nil => simp
    | cons a l => simp
  rw [hRT, hRL, hE] at hV
  have HV := Lib.hid hV
  clear hRT hRL hV hE
  rw [hws] at hlen
  have hn : init.length ≤ 1000000 := by
    have h1 := Lib.countB_le ⟨#[10]⟩ (Nat.le_refl 1) X.size X (Nat.le_refl _)
    simp at hlen
    omega
  have hs : ∀ z ∈ init, z.size ≤ 1000000 := fun z hz => by
    have := words_size 10 X z (by rw [hws]; exact List.mem_append_left _ hz)
    omega
  have hspl := fun w hm => split_call 10 X (by omega) m w hm
  rw [hws] at hspl
  have hb0 := Blk.new w 47 [.int .i64 0, .int .i64 0, .slice none 0 0, .slice none 0 0]
  have hB0 := bel_alloc (Below.refl w.heap.size w) (.cells #[.int .i64 0, .int .i64 0, .slice none 0 0, .slice none 0 0] 47)
  have hm1 := (hB0.cell (p := ⟨0, 0, none⟩) (World.block_lt_of_cell? w _ hm)).trans hm
  have HSP := Lib.hid (hspl _ hm1); have HK0 := Lib.hid hb0; have HB0 := Lib.hid hB0; have HS := Lib.hid hs; have HM := Lib.hid hm
  clear hspl hb0 hB0 hm1 hs hlen hws hm
  have hl1 : (init ++ [last]).length = init.length + 1 := by simp
  rw [hl1] at HSP
  have hcut := fun (g : Nat) (w : World) => cut_z (some ⟨g, 0, none⟩) (init.length + 1) (init.length + 1) init.length (init.length : Int) rfl (by omega) w
  go_enter Tryd.func18, Tryd.ntmps18
  go_wp2_with fail
  refine HSP.out.mono ?_; rintro e w1 ⟨rfl, rfl⟩
  go_upto_region 4 with fail
  have hPR : PR w (((w.alloc (.cells #[.int .i64 0, .int .i64 0, .slice none 0 0, .slice none 0 0] 47)).alloc (.cells (init.map Value.string ++ [Value.string last]).toArray 9)).alloc (.cells #[.slice (some ⟨w.heap.size + 1, 0, none⟩) init.length (init.length + 1), .int .i64 0, .bool false] 82)) (w.heap.size + 1 + 1) (w.heap.size + 1) init last ⟨0, false⟩ := by
    refine ⟨?_, ?_, bel_alloc (bel_alloc HB0.out _) _, by omega, by omega⟩
    · have h := Blk.new ((w.alloc (.cells #[.int .i64 0, .int .i64 0, .slice none 0 0, .slice none 0 0] 47)).alloc (.cells (init.map Value.string ++ [Value.string last]).toArray 9)) 82 [.slice (some ⟨w.heap.size + 1, 0, none⟩) init.length (init.length + 1), .int .i64 0, .bool false]
      rw [show ((w.alloc (.cells #[.int .i64 0, .int .i64 0, .slice none 0 0, .slice none 0 0] 47)).alloc (.cells (init.map Value.string ++ [Value.string last]).toArray 9)).heap.size = w.heap.size + 1 + 1 from by simp] at h
      exact h
    · have h := (Blk.new (w.alloc (.cells #[.int .i64 0, .int .i64 0, .slice none 0 0, .slice none 0 0] 47)) 9 (init.map Value.string ++ [Value.string last])).alloc (.cells #[.slice (some ⟨w.heap.size + 1, 0, none⟩) init.length (init.length + 1), .int .i64 0, .bool false] 82)
      rw [show (w.alloc (.cells #[.int .i64 0, .int .i64 0, .slice none 0 0, .slice none 0 0] 47)).heap.size = w.heap.size + 1 from by simp] at h
      rw [List.map_append]
      exact h
  have hk3 := (HK0.out.alloc (.cells (init.map Value.string ++ [Value.string last]).toArray 9)).alloc (.cells #[.slice (some ⟨w.heap.size + 1, 0, none⟩) init.length (init.length + 1), .int .i64 0, .bool false] 82)
  have hrb : w.heap.size < w.heap.size + 1 + 1 := by omega
  have hgw : w.heap.size + 1 ≠ w.heap.size := by omega
  generalize ((w.alloc (.cells #[.int .i64 0, .int .i64 0, .slice none 0 0, .slice none 0 0] 47)).alloc (.cells (init.map Value.string ++ [Value.string last]).toArray 9)).alloc (.cells #[.slice (some ⟨w.heap.size + 1, 0, none⟩) init.length (init.length + 1), .int .i64 0, .bool false] 82) = w3 at *
  generalize w.heap.size + 1 + 1 = rb at *
  generalize w.heap.size + 1 = gw at *
  have HP := Lib.hid hPR; have HK3 := Lib.hid hk3
  clear hPR hk3 HB0 HK0 HSP
  go_wp2_with fail
  refine (HP.out.single HM.out hn HS.out (by simp) nodesW).mono ?_; rintro e w4 ⟨rfl, hP4, hC4⟩
  have HP4 := Lib.hid hP4
  have HK4 := Lib.hid (HK3.out.ch hC4 (by simp; omega))
  clear hP4 hC4 HP HK3
  have hN := single_bd init nodesW ⟨0, false⟩
  have ha1 := take_at init nodesW true ⟨0, false⟩
  generalize singleV init nodesW ⟨0, false⟩ = N at *
  generalize (takeR init nodesW true ⟨0, false⟩).2 = r1 at *
  go_wp2_with fail
  refine (HP4.out.single HM.out hn HS.out (by simp at ha1; omega) framesW).mono ?_; rintro e w5 ⟨rfl, hP5, hC5⟩
  have HP5 := Lib.hid hP5
  have HK5 := Lib.hid (HK4.out.ch hC5 (by simp; omega))
  clear hP5 hC5 HP4 HK4
  have hF := single_bd init framesW r1
  have ha2 := take_at init framesW true r1
  generalize singleV init framesW r1 = F at *
  generalize (takeR init framesW true r1).2 = r2 at *
  go_wp2_with fail
  refine (HP5.out.take HM.out hn HS.out (by simp at ha1; omega) cpusW false).mono ?_; rintro e w6 ⟨⟨A', c', rfl, hO6⟩, hP6, hC6⟩
  have HP6 := Lib.hid hP6
  have HK6 := Lib.hid (HK5.out.ch hC6 (by simp; omega))
  have HO6 := Lib.hid (own_base0 hO6 HP5.out.bel.size)
  clear hP6 hC6 hO6 HP5 HK5
  have ha3 := take_at init cpusW false r2
  generalize (takeR init cpusW false r2).1 = C at *
  generalize (takeR init cpusW false r2).2 = r3 at *
  have hLS : LS w (w6.alloc (.cells #[.int .i64 N, .int .i64 F, .slice A' C.length c', .slice none 0 0] 47)) rb w6.heap.size w.heap.size N F A' c' C [] none 0 :=
    ⟨⟨_, Blk.alloc HP6.out.rd _⟩, Blk.new w6 47 [.int .i64 N, .int .i64 F, .slice A' C.length c', .slice none 0 0], HK6.out.alloc _, own_chV HO6.out ((Ch.refl [] w6).alloc _) (by simp), ⟨rfl, Or.inl ⟨rfl, rfl⟩⟩, (by simp), (by have := HK6.out.lt; omega)⟩
  have hP7 := HP6.out.below (bel_alloc (Below.refl _ w6) (.cells #[.int .i64 N, .int .i64 F, .slice A' C.length c', .slice none 0 0] 47))
  have h8 : w.heap.size ≤ w6.heap.size := HP6.out.bel.size
  have HL := Lib.hid hLS; have HP7 := Lib.hid hP7
  clear hLS hP7
  go_upto_region 5 with fail
  generalize w6.alloc (.cells #[.int .i64 N, .int .i64 F, .slice A' C.length c', .slice none 0 0] 47) = w7 at *
  generalize w6.heap.size = g8 at *
  clear HP6 HK6 HO6
  have q0 := HL.out.t8.at_ (i := 0) rfl
  obtain ⟨ie, he0, hez, he1, he2⟩ := info_parts info_row
  have HE0 := Lib.hid he0; have HEZ := Lib.hid hez; have HE1 := Lib.hid he1; have HE2 := Lib.hid he2
  clear he0 hez he1 he2
  go_wp2_with fail
  go_loopw [29] (fun v wr => ∃ (k : Nat) (rows : List RowV) (D : Option Addr) (d : Nat), k ≤ N.toNat ∧ v = .int .i64 (k : Int) ∧ LS w wr rb g8 w.heap.size N F A' c' C rows D d ∧ PR w wr rb gw init last (distR init r3 k).2 ∧ rows.map RowV.zs = (distR init r3 k).1) (fun v _ => N.toNat - (intOf v).toNat)
  case atStart => exact ⟨0, [], none, 0, by omega, rfl, HL.out, HP7.out, rfl⟩
  case round =>
    clear HL HP7 q0
    obtain ⟨k, rows, D, d, hk, rfl, hL, hP, hrow⟩ := hrel
    by_cases hlt : k < N.toNat
    · have hlt2 : (k : Int) < N := by omega
      have hat := dist_at init r3 k
      have hdr : distR init r3 (k + 1) = ((distR init r3 k).1 ++ [(takeR init distW false (distR init r3 k).2).1], (takeR init distW false (distR init r3 k).2).2) := rfl
      have hrl : rows.length = k := by
        have h1 := congrArg List.length hrow
        rw [List.length_map] at h1
        rw [h1]
        clear hat hdr hrow hL hP hlt hlt2 hk h1
        induction k with
        | zero => rfl
        | succ k ih => simp only [distR, List.length_append, List.length_singleton, ih]
      have HL := Lib.hid hL; have HP := Lib.hid hP; have HDR := Lib.hid hdr; have HRW := Lib.hid hrow; have HRL := Lib.hid hrl
      clear hL hP hdr hrow
      have m3 := HL.out.t8.at_ (i := 3) rfl
      have hn8 : g8 ≠ rb := HL.out.t8.ne_ HP.out.rd (by decide)
      have hl8 := HL.out.t8.lt
      have hPd := HP.out.below (bel_drew (Below.refl _ wr))
      have hLd := HL.out.below (bel_drew (Below.refl _ wr))
      have hnd : w.heap.size ≤ wr.drew.heap.size := hPd.bel.size
      have HPD := Lib.hid hPd; have HLD := Lib.hid hLd
      have hw63 : rows.length ≤ 10000 := by omega
      have hgl : w.heap.size ≤ g8 := h8
      clear hPd hLd hrl
      go_upto_region 7 with fail
      go_region_law
        (first
          | (go_simp; go_at_call 38; refine (HPD.out.take HM.out hn HS.out (by omega) distW false).mono ?_; rintro e wS ⟨⟨A2, c2, rfl, hO2⟩, hP2, hC2⟩; have hL2 := HLD.out.call hP2.rd hC2; have hl2 := hL2.t8.lt; have hOD := own_chV hL2.d ((Ch.refl [] wS).alloc (.cells #[.slice A2 (takeR init distW false (distR init r3 k).2).1.length c2] 23)) (by simp); have hsz2 := hP2.bel.size; have c83 := hL2.t8.at_ (i := 3) rfl)
          | (refine step_append_lies _ (by rfl) (.tmp 32) (.tmp 35) _ (by rfl) w.heap.size 23 ie _ 1 24 Tryd.underlying45 HE0.out HEZ.out HE1.out HE2.out rfl (by omega) (.slice D rows.length d) rows.length (rows.map RowV.val) (by rfl) hOD
              ⟨wS.heap.size, 0, none⟩ 1 1 [.slice A2 (takeR init distW false (distR init r3 k).2).1.length c2] (by rfl) (by rfl) (World.news_of_block (heap_alloc_new wS _)) (by simp [Value.oneCell']) (by omega) (by unfold maxLen; omega) (by omega) (by simp; omega) _ rfl ?_; intro gg cap w4 hown4 hgrow hat4 hlt4; have hL3 := hL2.below (bel_alloc (Below.refl _ wS) (.cells #[.slice A2 (takeR init distW false (distR init r3 k).2).1.length c2] 23)); have hb4 := hL3.grown8 hgrow; have hc4 := hb4.at_ (i := 3) rfl; have hf4 := hb4.frozen 3))
      all_goals
        have hP3 := hP2.below (bel_alloc (Below.refl _ wS) (.cells #[.slice A2 (takeR init distW false (distR init r3 k).2).1.length c2] 23))
        have hP4 := PR.push hL3 hP3 hgl hgrow (.slice (some ⟨gg, 0, none⟩) (rows.length + 1) cap)
        have hq3 := own_chV (own_base0 hO2 hnd) ((Ch.refl [] wS).alloc (.cells #[.slice A2 (takeR init distW false (distR init r3 k).2).1.length c2] 23)) (by simp)
        have hL4 := LS.push (q := ⟨A2, c2, (takeR init distW false (distR init r3 k).2).1⟩) hL3 hq3 hgrow hown4
        have HP4 := Lib.hid hP4; have HL4 := Lib.hid hL4
        clear hP3 hP4 hq3 hL4 hL2 hL3 hP2 hO2 hC2 hOD hown4 hgrow hat4 hlt4 hb4 hc4 hf4 HPD HLD
        go_wp2_with fail
        go_roundw
        case rel => exact ⟨k + 1, _, _, _, by omega, by go_num, HL4.out, by rw [HDR.out]; exact HP4.out, by rw [HDR.out, List.map_append, HRW.out]; rfl⟩
        case measure => simp [intOf]; omega
    · obtain rfl : k = N.toNat := by omega
      have hlt2 : ¬ ((N.toNat : Int) < N) := by omega
      have hat := dist_at init r3 N.toNat
      have HL := Lib.hid hL; have HRW := Lib.hid hrow
      clear hL hrow hlt
      generalize hdr : (distR init r3 N.toNat).2 = r4 at *
      generalize hdd : (distR init r3 N.toNat).1 = DD at *
      have HDR := Lib.hid hdr; have HDD := Lib.hid hdd
      clear hdr hdd
      have hcl := hP.ws.at_ (i := init.length) (v := .string last) (by rw [List.getElem?_map, List.getElem?_append_right (Nat.le_refl _)]; simp)
      have hixl : ∀ w : World, (Instr.indexAt 78 (.slice (some ⟨gw, 0, none⟩) (init.length + 1) (init.length + 1)) (.int .i64 (init.length : Int))).run Tryd.prog w = .ok (.pointer (some ⟨gw, init.length, none⟩)) w := fun w => by
        have := idx_z gw 0 (init.length + 1) (init.length + 1) init.length (by omega) w
        rw [Nat.zero_add] at this
        exact this
      have hfin := fun whole => hP.fin (by omega) whole
      have hra4 : r4.at_ ≤ 1000000 := by omega
      have HF := Lib.hid hfin
      clear hfin hP
      go_wp2_with fail
      refine (HF.out _).mono ?_; rintro e w8 ⟨rfl, hP8, hC8⟩
      have hL8 := HL.out.call hP8.rd hC8
      generalize endR init.length last.toList.isEmpty r4 = r5 at *
      obtain ⟨a5, b5⟩ := r5
      have hRD : Blk w8 rb 82 [.slice (some ⟨gw, 0, none⟩) init.length (init.length + 1), .int .i64 (a5 : Int), .bool b5] := hP8.rd
      have q1 := hRD.at_ (i := 1) rfl
      have q2 := hRD.at_ (i := 2) rfl
      have HL8 := Lib.hid hL8; have HB8 := Lib.hid hP8.bel
      clear hC8 hL8 HL HF hcl hixl hRD hP8
      cases b5 with
      | true =>
        have hV := HV.out
        unfold outP at hV
        rw [if_pos rfl] at hV
        injection hV with h1 h2
        injection h2 with h2 h3
        subst h1 h2 h3
        clear HV
        have j0 := HL8.out.t2.at_ (i := 0) rfl
        have j1 := HL8.out.t2.at_ (i := 1) rfl
        have j2 := HL8.out.t2.at_ (i := 2) rfl
        have j3 := HL8.out.t2.at_ (i := 3) rfl
        have f0 := HL8.out.t2.frozen 0
        have f1 := HL8.out.t2.frozen 1
        have f2 := HL8.out.t2.frozen 2
        have f3 := HL8.out.t2.frozen 3
        have hrn : rb ≠ w.heap.size := by omega
        have hz : Blk ((((w8.setCell ⟨w.heap.size, 0, none⟩ (.int .i64 0)).setCell ⟨w.heap.size, 1, none⟩ (.int .i64 0)).setCell ⟨w.heap.size, 2, none⟩ (.slice none 0 0)).setCell ⟨w.heap.size, 3, none⟩ (.slice none 0 0)).drew w.heap.size 47 [.int .i64 0, .int .i64 0, .slice none 0 0, .slice none 0 0] :=
          ((((HL8.out.t2.set_ 0 (.int .i64 0)).set_ 1 (.int .i64 0)).set_ 2 (.slice none 0 0)).set_ 3 (.slice none 0 0)).drew
        have hbz : Below w.heap.size w ((((w8.setCell ⟨w.heap.size, 0, none⟩ (.int .i64 0)).setCell ⟨w.heap.size, 1, none⟩ (.int .i64 0)).setCell ⟨w.heap.size, 2, none⟩ (.slice none 0 0)).setCell ⟨w.heap.size, 3, none⟩ (.slice none 0 0)).drew :=
          bel_drew (bel_ch HB8.out (((((Ch.refl [w.heap.size] w8).set (p := ⟨w.heap.size, 0, none⟩) (by simp) _).set (p := ⟨w.heap.size, 1, none⟩) (by simp) _).set (p := ⟨w.heap.size, 2, none⟩) (by simp) _).set (p := ⟨w.heap.size, 3, none⟩) (by simp) _) (by simp))
        have HZ := Lib.hid hz; have HBZ := Lib.hid hbz
        clear hz hbz
        go_upto_region 11 with fail
        go_region
        go_wp2_with fail
        exact bodyPost_ret (results_cell3 Tryd.results18 _ _ w.heap.size 47 _ (0, 0) _ rfl HZ.out Tryd.underlying47 rfl (by kernel_rfl)) rfl ⟨⟨zeroT, rfl, zeroT_in _, ⟨rfl, rfl, rfl, rfl⟩⟩, HBZ.out⟩
      | false =>
        have hT := HL8.out.inT
        have hs : sameT ⟨N, F, A', c', C, D, d, rows⟩ (Read.mk' ⟨N, F, C, DD, ⟨a5, false⟩⟩) := ⟨rfl, rfl, rfl, by rw [HRW.out]; simp [Read.mk', Function.comp_def]⟩
        have hch := topo_check _ w8 hT
        rw [chkT_same hs] at hch
        have hV := HV.out
        unfold outP at hV
        rw [if_neg (by simp)] at hV
        have HV := Lib.hid hV; have HC := Lib.hid hch; have HT := Lib.hid hT; have HSM := Lib.hid hs
        clear hV hch hT hs
        generalize hq : chkT (Read.mk' ⟨N, F, C, DD, ⟨a5, false⟩⟩) = q at *
        generalize Read.mk' ⟨N, F, C, DD, ⟨a5, false⟩⟩ = TT at *
        have m0 := HL8.out.t8.at_ (i := 0) rfl
        have m1 := HL8.out.t8.at_ (i := 1) rfl
        have m2 := HL8.out.t8.at_ (i := 2) rfl
        have m3 := HL8.out.t8.at_ (i := 3) rfl
        clear hq
        unfold TopoV.val at HC
        go_wp2_with fail
        refine HC.out.mono ?_; rintro e w9 ⟨rfl, hB9⟩
        have ht2 := HL8.out.t2.below hB9
        have ht8 := HL8.out.t8.below hB9
        have hT9 := HT.out.below hB9
        have hBB := bel_trans HB8.out hB9
        have j0 := ht2.at_ (i := 0) rfl
        have j1 := ht2.at_ (i := 1) rfl
        have j2 := ht2.at_ (i := 2) rfl
        have j3 := ht2.at_ (i := 3) rfl
        have f0 := ht2.frozen 0
        have f1 := ht2.frozen 1
        have f2 := ht2.frozen 2
        have f3 := ht2.frozen 3
        have hset : ∀ v0 v1 v2 v3 : Value, Blk ((((w9.setCell ⟨w.heap.size, 0, none⟩ v0).setCell ⟨w.heap.size, 1, none⟩ v1).setCell ⟨w.heap.size, 2, none⟩ v2).setCell ⟨w.heap.size, 3, none⟩ v3) w.heap.size 47 [v0, v1, v2, v3] ∧ Ch [w.heap.size] w9 ((((w9.setCell ⟨w.heap.size, 0, none⟩ v0).setCell ⟨w.heap.size, 1, none⟩ v1).setCell ⟨w.heap.size, 2, none⟩ v2).setCell ⟨w.heap.size, 3, none⟩ v3) := fun v0 v1 v2 v3 =>
          ⟨(((ht2.set_ 0 v0).set_ 1 v1).set_ 2 v2).set_ 3 v3, ((((Ch.refl [w.heap.size] w9).set (p := ⟨w.heap.size, 0, none⟩) (by simp) _).set (p := ⟨w.heap.size, 1, none⟩) (by simp) _).set (p := ⟨w.heap.size, 2, none⟩) (by simp) _).set (p := ⟨w.heap.size, 3, none⟩) (by simp) _⟩
        have HST := Lib.hid hset; have HBB := Lib.hid hBB
        have m0 := ht8.at_ (i := 0) rfl
        have m1 := ht8.at_ (i := 1) rfl
        have m2 := ht8.at_ (i := 2) rfl
        have m3 := ht8.at_ (i := 3) rfl
        have hL9 := HL8.out.below hB9
        have HL9 := Lib.hid hL9
        clear hset hBB hB9 ht2 HL8 HT HC HB8 hT9 hL9 ht8
        by_cases hq : q = 0
        · subst hq
          have hV := HV.out
          rw [if_neg (by simp)] at hV
          injection hV with h1 h2
          injection h2 with h2 h3
          subst h1 h2 h3
          clear HV
          have hch := HST.out (.int .i64 N) (.int .i64 F) (.slice A' C.length c') (.slice D rows.length d)
          have hT9 := HL9.out.inT2 hch.2
          have HCH := Lib.hid hch; have HT9 := Lib.hid hT9
          clear hch hT9 HST HL9
          go_wp2_with fail
          exact bodyPost_ret (results_cell3 Tryd.results18 _ _ w.heap.size 47 _ (0, 0) _ rfl HCH.out.1 Tryd.underlying47 rfl (by kernel_rfl)) rfl ⟨⟨⟨N, F, A', c', C, D, d, rows⟩, rfl, HT9.out, HSM.out⟩, bel_ch HBB.out HCH.out.2 (by simp)⟩
        · have hV := HV.out
          rw [if_pos hq] at hV
          injection hV with h1 h2
          injection h2 with h2 h3
          subst h1 h2 h3
          clear HV
          have hch := HST.out (.int .i64 0) (.int .i64 0) (.slice none 0 0) (.slice none 0 0)
          have HCH := Lib.hid hch
          clear hch HST
          go_wp2_with fail
          exact bodyPost_ret (results_cell3 Tryd.results18 _ _ w.heap.size 47 _ (0, 0) _ rfl HCH.out.1 Tryd.underlying47 rfl (by kernel_rfl)) rfl ⟨⟨zeroT, rfl, zeroT_in _, ⟨rfl, rfl, rfl, rfl⟩⟩, bel_ch HBB.out HCH.out.2 (by simp)⟩
end Go.Proofs.YtbgnaohjcfbaaaaDoor
