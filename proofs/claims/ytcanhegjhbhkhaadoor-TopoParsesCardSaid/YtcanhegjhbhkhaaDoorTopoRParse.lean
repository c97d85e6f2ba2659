/- messuageref03.Parse. -/
import Derived.Test.YtcanhegjhbhkhaaDoorTopoRLine
namespace Go.Proofs.YtcanhegjhbhkhaaDoor
open Go.RowKit Go.Shelf
set_option linter.unusedVariables false
set_option linter.unusedSimpArgs false
attribute [local go_sem] World.cell?_alloc_lt

/-- What the reference's loop keeps: the machine's block, the result's block, the words, the lines, the rows. -/
structure RS (w wr : World) (g8 g2 gz gl : Nat) (kc : Nat) (init : List ByteArray) (last : ByteArray) (N F : Int) (ca : Option Addr) (cc : Nat) (C : List Int) (rows : List RowV) (D : Option Addr) (d : Nat) : Prop where
  t8 : Blk wr g8 48 [.int .i64 N, .int .i64 F, .slice ca C.length cc, .slice D rows.length d]
  t2 : Blk wr g2 48 [.int .i64 0, .int .i64 0, .slice none 0 0, .slice none 0 0]
  wd : Blk wr gz 9 [.string nodesW, .string framesW, .string cpusW]
  l : wr.ownsRow w.heap.size 9 1 (.slice (some ⟨gl, 0, none⟩) (init.length + 1) kc) (init.length + 1) ((init ++ [last]).map Value.string)
  c : wr.ownsRow w.heap.size 3 1 (.slice ca C.length cc) C.length (C.map (Value.int .i64))
  d : wr.ownsRow w.heap.size 23 1 (.slice D rows.length d) rows.length (rows.map RowV.val)
  rs : ∀ q ∈ rows, wr.ownsRow w.heap.size 3 1 (.slice q.a q.zs.length q.c) q.zs.length (q.zs.map (Value.int .i64))
  ne : g8 ≠ g2
  lo8 : w.heap.size ≤ g8
  lo2 : w.heap.size ≤ g2
  bel : Below w.heap.size w wr
section
variable {w wr w' : World} {g8 g2 gz gl kc cc d g cap : Nat} {init : List ByteArray} {last : ByteArray} {N F : Int} {ca D : Option Addr} {C : List Int} {rows : List RowV} {q : RowV}
theorem RS.below (h : RS w wr g8 g2 gz gl kc init last N F ca cc C rows D d) (k : Below wr.heap.size wr w') : RS w w' g8 g2 gz gl kc init last N F ca cc C rows D d :=
  ⟨h.t8.below k, h.t2.below k, h.wd.below k, own_chV h.l (Ch.below k []) (by simp), own_chV h.c (Ch.below k []) (by simp), own_chV h.d (Ch.below k []) (by simp), fun q hq => own_chV (h.rs q hq) (Ch.below k []) (by simp), h.ne, h.lo8, h.lo2, bel_trans h.bel k⟩
/-- A store into the machine's block. -/
theorem RS.put (h : RS w wr g8 g2 gz gl kc init last N F ca cc C rows D d) (i : Nat) (v : Value) :
    Blk (wr.setCell ⟨g8, i, none⟩ v) g8 48 ([.int .i64 N, .int .i64 F, .slice ca C.length cc, .slice D rows.length d].set i v) ∧
    Blk (wr.setCell ⟨g8, i, none⟩ v) g2 48 [.int .i64 0, .int .i64 0, .slice none 0 0, .slice none 0 0] ∧
    Blk (wr.setCell ⟨g8, i, none⟩ v) gz 9 [.string nodesW, .string framesW, .string cpusW] ∧
    (∀ {e s n : Nat} {u : Value} {xs : List Value}, wr.ownsRow w.heap.size e s u n xs → e ≠ 48 → (wr.setCell ⟨g8, i, none⟩ v).ownsRow w.heap.size e s u n xs) ∧
    Below w.heap.size w (wr.setCell ⟨g8, i, none⟩ v) := by
  have hs : Ch [g8] wr (wr.setCell ⟨g8, i, none⟩ v) := (Ch.refl [g8] wr).set (p := ⟨g8, i, none⟩) (by simp) _
  refine ⟨h.t8.set_ i v, h.t2.far (by exact Ne.symm h.ne) _, h.wd.far (by exact (h.wd.ne_ h.t8 (by decide))) _, fun hx hne => ?_, bel_ch h.bel hs (by simpa using h.lo8)⟩
  exact own_chV hx hs (fun i hi hm => by rw [List.mem_singleton] at hm; subst hm; exact own_neV hx h.t8 hne hi)
theorem RS.setN (h : RS w wr g8 g2 gz gl kc init last N F ca cc C rows D d) (M : Int) : RS w (wr.setCell ⟨g8, 0, none⟩ (.int .i64 M)) g8 g2 gz gl kc init last M F ca cc C rows D d := by
  obtain ⟨h1, h2, h3, h4, h5⟩ := h.put 0 (.int .i64 M)
  exact ⟨h1, h2, h3, h4 h.l (by decide), h4 h.c (by decide), h4 h.d (by decide), fun q hq => h4 (h.rs q hq) (by decide), h.ne, h.lo8, h.lo2, h5⟩
theorem RS.setF (h : RS w wr g8 g2 gz gl kc init last N F ca cc C rows D d) (M : Int) : RS w (wr.setCell ⟨g8, 1, none⟩ (.int .i64 M)) g8 g2 gz gl kc init last N M ca cc C rows D d := by
  obtain ⟨h1, h2, h3, h4, h5⟩ := h.put 1 (.int .i64 M)
  exact ⟨h1, h2, h3, h4 h.l (by decide), h4 h.c (by decide), h4 h.d (by decide), fun q hq => h4 (h.rs q hq) (by decide), h.ne, h.lo8, h.lo2, h5⟩
theorem RS.setC (h : RS w wr g8 g2 gz gl kc init last N F ca cc C rows D d) {a2 : Option Addr} {c2 : Nat} {C2 : List Int} (ho : wr.ownsRow w.heap.size 3 1 (.slice a2 C2.length c2) C2.length (C2.map (Value.int .i64))) : RS w (wr.setCell ⟨g8, 2, none⟩ (.slice a2 C2.length c2)) g8 g2 gz gl kc init last N F a2 c2 C2 rows D d := by
  obtain ⟨h1, h2, h3, h4, h5⟩ := h.put 2 (.slice a2 C2.length c2)
  exact ⟨h1, h2, h3, h4 h.l (by decide), h4 ho (by decide), h4 h.d (by decide), fun q hq => h4 (h.rs q hq) (by decide), h.ne, h.lo8, h.lo2, h5⟩
/-- A row more: the append, then the store. -/
theorem RS.push (h : RS w wr g8 g2 gz gl kc init last N F ca cc C rows D d) (hq : wr.ownsRow w.heap.size 3 1 (.slice q.a q.zs.length q.c) q.zs.length (q.zs.map (Value.int .i64)))
    (hg : wr.grownBy w' (Value.slice D rows.length d).ownBlock) (hsz : w.heap.size ≤ wr.heap.size) (ho : w'.ownsRow w.heap.size 23 1 (.slice (some ⟨g, 0, none⟩) (rows.length + 1) cap) (rows.length + 1) (rows.map RowV.val ++ [q.val])) :
    Blk w' g8 48 [.int .i64 N, .int .i64 F, .slice ca C.length cc, .slice D rows.length d] ∧
    RS w (w'.setCell ⟨g8, 3, none⟩ (.slice (some ⟨g, 0, none⟩) (rows.length + 1) cap)) g8 g2 gz gl kc init last N F ca cc C (rows ++ [q]) (some ⟨g, 0, none⟩) cap := by
  have hc : Ch (Value.slice D rows.length d).ownBlock.toList wr w' := ch_grown hg (fun i hi => by rw [hi]; simp)
  have kb : ∀ {b : Nat} {t : TypeId} {cs : List Value}, Blk wr b t cs → 23 ≠ t → Blk w' b t cs := fun hb hne => hb.ch hc (fun hm => by rw [Option.mem_toList] at hm; exact own_neV h.d hb hne hm)
  have ko : ∀ {e n : Nat} {v : Value} {xs : List Value}, wr.ownsRow w.heap.size e 1 v n xs → 23 ≠ e → w'.ownsRow w.heap.size e 1 v n xs := fun hx hne => own_chV hx hc (fun i hi hm => by rw [Option.mem_toList] at hm; exact own_apart h.d hx hne i hm hi)
  have h8 := kb h.t8 (by decide)
  have hs : Ch [g8] w' (w'.setCell ⟨g8, 3, none⟩ (.slice (some ⟨g, 0, none⟩) (rows.length + 1) cap)) := (Ch.refl [g8] w').set (p := ⟨g8, 3, none⟩) (by simp) _
  have ks : ∀ {e s n : Nat} {v : Value} {xs : List Value}, w'.ownsRow w.heap.size e s v n xs → e ≠ 48 → (w'.setCell ⟨g8, 3, none⟩ (.slice (some ⟨g, 0, none⟩) (rows.length + 1) cap)).ownsRow w.heap.size e s v n xs := fun hx hne =>
    own_chV hx hs (fun i hi hm => by rw [List.mem_singleton] at hm; subst hm; exact own_neV hx h8 hne hi)
  have hl : (rows ++ [q]).length = rows.length + 1 := by simp
  have hB := (h.bel).grown hg hsz (fun k hk => (h.d.lt k hk).1)
  refine ⟨h8, ?_, (kb h.t2 (by decide)).far (by exact (Ne.symm h.ne)) _, (kb h.wd (by decide)).far (by exact (h.wd.ne_ h.t8 (by decide))) _, ks (ko h.l (by decide)) (by decide), ks (ko h.c (by decide)) (by decide), ?_, fun x hx => ?_, h.ne, h.lo8, h.lo2, bel_ch hB hs (by simpa using h.lo8)⟩
  · rw [hl]
    exact h8.set_ 3 _
  · rw [hl, List.map_append]
    exact ks ho (by decide)
  · rcases List.mem_append.1 hx with hx | hx
    · exact ks (ko (h.rs x hx) (by decide)) (by decide)
    · rw [List.mem_singleton.1 hx]
      exact ks (ko hq (by decide)) (by decide)
theorem RS.line (h : RS w wr g8 g2 gz gl kc init last N F ca cc C rows D d) {i : Nat} {s : ByteArray} (hs : init[i]? = some s) : wr.cell? ⟨gl, i, none⟩ = some (.string s) := by
  obtain ⟨g', hA, hc, _⟩ := own_at h.l (k := i) (u := .string s) (by
    have hi := (List.getElem?_eq_some_iff.1 hs).1
    rw [List.getElem?_map, List.getElem?_append_left hi, hs]; rfl)
  injection hA with hA
  injection hA with hA
  subst hA
  exact hc
theorem RS.inT (h : RS w wr g8 g2 gz gl kc init last N F ca cc C rows D d) : InTopo wr ⟨N, F, ca, cc, C, D, d, rows⟩ := inT_of h.c h.d h.rs
end
theorem wordI_0 : wordI 0 = nodesW := rfl
theorem dstI_succ (ls : List ByteArray) (i : Nat) (h : 3 ≤ i) : dstI ls (i + 1) = dstI ls i ++ [numsI ls i] := by
  unfold dstI
  rw [show i + 1 - 3 = (i - 3) + 1 by omega, List.range_succ, List.map_append]
  simp only [List.map_cons, List.map_nil]
  rw [show 3 + (i - 3) = i by omega]
theorem nodI_succ (ls : List ByteArray) (i : Nat) (h : 1 ≤ i) : nodI ls (i + 1) = nodI ls i := by
  unfold nodI
  rw [if_pos h, if_pos (by omega)]
theorem frmI_succ (ls : List ByteArray) (i : Nat) (h : i ≠ 1) : frmI ls (i + 1) = frmI ls i := by
  unfold frmI
  by_cases h2 : 2 ≤ i
  · rw [if_pos h2, if_pos (by omega)]
  · rw [if_neg h2, if_neg (by omega)]
theorem cpuI_succ (ls : List ByteArray) (i : Nat) (h : i ≠ 2) : cpuI ls (i + 1) = cpuI ls i := by
  unfold cpuI
  by_cases h2 : 3 ≤ i
  · rw [if_pos h2, if_pos (by omega)]
  · rw [if_neg h2, if_neg (by omega)]
theorem dstI_low (ls : List ByteArray) (i : Nat) (h : i ≤ 3) : dstI ls i = [] := by
  unfold dstI
  rw [show i - 3 = 0 by omega]
  rfl
theorem rdI_len {ls : List ByteArray} : ∀ {i : Nat}, (rdI ls i).bad = false → i ≤ ls.length
  | 0, _ => Nat.zero_le _
  | i + 1, h => by
    have h0 := rdI_ok (rdI_pre h (show i ≤ i + 1 by omega))
    rcases Nat.lt_or_ge i ls.length with h1 | h1
    · omega
    · rw [rdI_out h0 h1] at h
      cases h
theorem read_end_bad {ls : List ByteArray} {whole : Bool} {i : Nat} (h : (rdI ls i).bad = false) (h3 : 3 ≤ i) (hi : (i : Int) = 3 + nodI ls i) (hb : whole = false ∨ i ≠ ls.length) : outP (readL ls whole) = (zeroT, ((i : Int) + 1), 2) := by
  have he : endR ls.length whole ⟨i, false⟩ = ⟨i + 1, true⟩ := by
    unfold endR
    rw [if_pos ⟨rfl, hb⟩]
  rw [read_all h h3 hi, he]
  unfold outP
  rw [if_pos rfl]
  simp
theorem read_end_ok {ls : List ByteArray} {i : Nat} (h : (rdI ls i).bad = false) (h3 : 3 ≤ i) (hi : (i : Int) = 3 + nodI ls i) (hl : i = ls.length) : readL ls true = ⟨nodI ls i, frmI ls i, cpuI ls i, dstI ls i, ⟨i, false⟩⟩ := by
  have he : endR ls.length true ⟨i, false⟩ = ⟨i, false⟩ := by
    unfold endR
    rw [if_neg (by simp [hl])]
  rw [read_all h h3 hi, he]
theorem RS.put2 {w wr : World} {g8 g2 gz gl kc cc d : Nat} {init : List ByteArray} {last : ByteArray} {N F : Int} {ca D : Option Addr} {C : List Int} {rows : List RowV} (h : RS w wr g8 g2 gz gl kc init last N F ca cc C rows D d) (v0 v1 v2 v3 : Value) :
    Blk ((((wr.setCell ⟨g2, 0, none⟩ v0).setCell ⟨g2, 1, none⟩ v1).setCell ⟨g2, 2, none⟩ v2).setCell ⟨g2, 3, none⟩ v3) g2 48 [v0, v1, v2, v3] ∧
    Ch [g2] wr ((((wr.setCell ⟨g2, 0, none⟩ v0).setCell ⟨g2, 1, none⟩ v1).setCell ⟨g2, 2, none⟩ v2).setCell ⟨g2, 3, none⟩ v3) ∧
    Below w.heap.size w ((((wr.setCell ⟨g2, 0, none⟩ v0).setCell ⟨g2, 1, none⟩ v1).setCell ⟨g2, 2, none⟩ v2).setCell ⟨g2, 3, none⟩ v3) := by
  have hs : Ch [g2] wr ((((wr.setCell ⟨g2, 0, none⟩ v0).setCell ⟨g2, 1, none⟩ v1).setCell ⟨g2, 2, none⟩ v2).setCell ⟨g2, 3, none⟩ v3) :=
    ((((Ch.refl [g2] wr).set (p := ⟨g2, 0, none⟩) (by simp) _).set (p := ⟨g2, 1, none⟩) (by simp) _).set (p := ⟨g2, 2, none⟩) (by simp) _).set (p := ⟨g2, 3, none⟩) (by simp) _
  exact ⟨(((h.t2.set_ 0 v0).set_ 1 v1).set_ 2 v2).set_ 3 v3, hs, bel_ch h.bel hs (by simpa using h.lo2)⟩
theorem RS.inT2 {w wr w' : World} {g8 g2 gz gl kc cc d : Nat} {init : List ByteArray} {last : ByteArray} {N F : Int} {ca D : Option Addr} {C : List Int} {rows : List RowV} (h : RS w wr g8 g2 gz gl kc init last N F ca cc C rows D d) (hc : Ch [g2] wr w') : InTopo w' ⟨N, F, ca, cc, C, D, d, rows⟩ := by
  have key : ∀ {e s n : Nat} {v : Value} {xs : List Value}, wr.ownsRow w.heap.size e s v n xs → e ≠ 48 → w'.ownsRow w.heap.size e s v n xs := fun ho hne =>
    own_chV ho hc (fun i hi hm => by
      rw [List.mem_singleton] at hm
      subst hm
      exact own_neV ho h.t2 hne hi)
  exact inT_of (key h.c (by decide)) (key h.d (by decide)) (fun q hq => key (h.rs q hq) (by decide))
set_option maxRecDepth 100000 in
set_option maxHeartbeats 4000000 in
theorem ref_parse (X : ByteArray) (hX : X.size ≤ 900000) (w : World) :
    Calls Tryd.prog 35 #[.string X] w fun e w' => (∃ t : TopoV, e = .returned (.tuple #[t.val, .int .i64 (outP (readT X)).2.1, .int .i64 (outP (readT X)).2.2]) ∧ InTopo w' t ∧ sameT t (outP (readT X)).1) ∧ Below w.heap.size w w' := by
  obtain ⟨V, L, E, hV⟩ : ∃ V L E, outP (readT X) = (V, L, E) := ⟨_, _, _, rfl⟩
  rw [hV]
  obtain ⟨init, last, hws⟩ : ∃ init last, wordsB 10 X = init ++ [last] := by
    have h := words_len 10 X
    have hne : wordsB 10 X ≠ [] := by intro e; rw [e] at h; simp at h
    exact ⟨_, _, (List.dropLast_concat_getLast hne).symm⟩
  have hlen := words_len 10 X
  have hRT : readT X = readL init (decide (last = ⟨#[]⟩)) := by
    unfold readT
    rw [hws, List.dropLast_concat, List.getLast?_concat]
    congr 1
    by_cases h : last = ⟨#[]⟩
    · rw [h]; simp
    · rw [decide_eq_false h, decide_eq_false (fun e => h (by injection e))]
  have hE : decide (last = ⟨#[]⟩) = last.toList.isEmpty := by
    rw [Lib.toList_data]
    obtain ⟨⟨l⟩⟩ := last
    cases l with
    | nil => simp
    | cons a l => simp
  rw [hRT, hE] at hV
  have HV := Lib.hid hV
  clear hRT hV hE
  rw [hws] at hlen
  have hn : init.length ≤ 1000000 := by
    have h1 := Lib.countB_le ⟨#[10]⟩ (Nat.le_refl 1) X.size X (Nat.le_refl _)
    simp at hlen
    omega
  have hs : ∀ z ∈ init, z.size ≤ 1000000 := fun z hz => by
    have := words_size 10 X z (by rw [hws]; exact List.mem_append_left _ hz)
    omega
  have hcut := rcut_words X 10 10 rfl (by omega) (w.alloc (.cells #[.int .i64 0, .int .i64 0, .slice none 0 0, .slice none 0 0] 48))
  rw [hws] at hcut
  have hl1 : (init ++ [last]).length = init.length + 1 := by simp
  rw [hl1] at hcut
  have hb0 := Blk.new w 48 [.int .i64 0, .int .i64 0, .slice none 0 0, .slice none 0 0]
  have hB0 := bel_alloc (Below.refl w.heap.size w) (.cells #[.int .i64 0, .int .i64 0, .slice none 0 0, .slice none 0 0] 48)
  have HCUT := Lib.hid hcut; have HK0 := Lib.hid hb0; have HB0 := Lib.hid hB0; have HS := Lib.hid hs
  clear hcut hb0 hB0 hs hlen hws hl1
  go_enter Tryd.func35, Tryd.ntmps35
  go_wp2_with fail
  refine HCUT.out.mono ?_; rintro e w1 ⟨A, kc, rfl, hO, hB⟩
  obtain ⟨gl, cap, hv, hbl, hlt⟩ := hO.form (by omega)
  injection hv with hA _ hcap
  subst hA hcap
  have hkc : init.length + 1 ≤ kc := own_cap hO
  have hl0 := own_base0 hO HB0.out.size
  have hk1 := HK0.out.below hB
  have hB1 := bel_trans HB0.out hB
  have HL0 := Lib.hid hl0; have HK1 := Lib.hid hk1; have HB1 := Lib.hid hB1
  have hcl : w1.cell? ⟨gl, init.length, none⟩ = some (.string last) := by
    obtain ⟨g', hA, hc, _⟩ := own_at hO (k := init.length) (u := .string last) (by rw [List.getElem?_map, List.getElem?_append_right (Nat.le_refl _)]; simp)
    injection hA with hA
    injection hA with hA
    subst hA
    exact hc
  have hixl : ∀ w : World, (Instr.indexAt 52 (.slice (some ⟨gl, 0, none⟩) (init.length + 1) kc) (.int .i64 (init.length : Int))).run Tryd.prog w = .ok (.pointer (some ⟨gl, init.length, none⟩)) w := fun w => by
    have := idx_z gl 0 (init.length + 1) kc init.length (by omega) w
    rw [Nat.zero_add] at this
    exact this
  have hcz := fun (w : World) => cut_z (some ⟨gl, 0, none⟩) (init.length + 1) kc init.length (init.length : Int) rfl (by omega) w
  clear hO hl0 hk1 hB1 hB hbl hlt HCUT HK0 HB0
  go_upto_region 6 with fail
  have hRS : RS w ((w1.alloc (.cells #[.int .i64 0, .int .i64 0, .slice none 0 0, .slice none 0 0] 48)).alloc (.cells #[.string ⟨#[110, 111, 100, 101, 115]⟩, .string ⟨#[102, 114, 97, 109, 101, 115]⟩, .string ⟨#[99, 112, 117, 115]⟩] 9)) w1.heap.size w.heap.size (w1.heap.size + 1) gl kc init last 0 0 none 0 [] [] none 0 := by
    refine ⟨(Blk.new w1 48 [.int .i64 0, .int .i64 0, .slice none 0 0, .slice none 0 0]).alloc _, (HK1.out.alloc _).alloc _, ?_, own_chV HL0.out (((Ch.refl [] w1).alloc _).alloc _) (by simp), World.ownsRow_nil _ _ _ _, World.ownsRow_nil _ _ _ _, by simp, by have := HK1.out.lt; omega, HB1.out.size, Nat.le_refl _, bel_alloc (bel_alloc HB1.out _) _⟩
    have h := Blk.new (w1.alloc (.cells #[.int .i64 0, .int .i64 0, .slice none 0 0, .slice none 0 0] 48)) 9 [.string nodesW, .string framesW, .string cpusW]
    rw [show (w1.alloc (.cells #[.int .i64 0, .int .i64 0, .slice none 0 0, .slice none 0 0] 48)).heap.size = w1.heap.size + 1 by simp] at h
    exact h
  have HRS := Lib.hid hRS
  clear hRS HL0 HK1 HB1 hcl hixl hcz
  generalize (w1.alloc (.cells #[.int .i64 0, .int .i64 0, .slice none 0 0, .slice none 0 0] 48)).alloc (.cells #[.string ⟨#[110, 111, 100, 101, 115]⟩, .string ⟨#[102, 114, 97, 109, 101, 115]⟩, .string ⟨#[99, 112, 117, 115]⟩] 9) = w3 at *
  generalize w1.heap.size + 1 = gz at *
  generalize w1.heap.size = g8 at *
  obtain ⟨ie, he0, hez, he1, he2⟩ := info_parts info_row
  have HE0 := Lib.hid he0; have HEZ := Lib.hid hez; have HE1 := Lib.hid he1; have HE2 := Lib.hid he2
  clear he0 hez he1 he2
  go_wp2_with fail
  go_loopw [10] (fun v wr => ∃ (i : Nat) (N F : Int) (ca : Option Addr) (cc : Nat) (C : List Int) (rows : List RowV) (D : Option Addr) (d : Nat), v = .int .i64 (i : Int) ∧ (rdI init i).bad = false ∧ (i : Int) ≤ 3 + N ∧ N = nodI init i ∧ F = frmI init i ∧ C = cpuI init i ∧ rows.map RowV.zs = dstI init i ∧ RS w wr g8 w.heap.size gz gl kc init last N F ca cc C rows D d) (fun v _ => 10003 - (intOf v).toNat)
  case atStart => exact ⟨0, 0, 0, none, 0, [], [], none, 0, rfl, rfl, by omega, rfl, rfl, rfl, rfl, HRS.out⟩
  case round =>
    clear HRS
    obtain ⟨i, N, F, ca, cc, C, rows, D, d, rfl, hbad, hiN, hN, hF, hC, hrow, hRS⟩ := hrel
    have hbd := nodI_bd init i
    rw [← hN] at hbd
    have hile := rdI_len hbad
    have HRS := Lib.hid hRS; have HBAD := Lib.hid hbad; have HN := Lib.hid hN; have HF := Lib.hid hF; have HC := Lib.hid hC; have HROW := Lib.hid hrow
    clear hRS hbad hN hF hC hrow
    by_cases hlt : (i : Int) < 3 + N
    · have m0 := HRS.out.t8.at_ (i := 0) rfl
      by_cases hil : i < init.length
      · obtain ⟨s, hs⟩ : ∃ s, init[i]? = some s := ⟨_, List.getElem?_eq_getElem hil⟩
        have hcl := HRS.out.line hs
        have hsz := HS.out s (List.mem_of_getElem? hs)
        have hnx := rdI_next (rdI_ok HBAD.out) hs
        have hnm := numsI_of (rdI_ok HBAD.out) hs
        have hsm := lineV_some (s := s) (word := wordI i) (one := decide (i < 2))
        have hrl := fun w => rline_any s (wordI i) (decide (i < 2)) hsz w
        obtain ⟨nl, ok, hLV⟩ : ∃ nl ok, lineV s (wordI i) (decide (i < 2)) = (nl, ok) := ⟨_, _, rfl⟩
        rw [hLV] at hrl hnx hnm hsm
        simp only at hrl hnx hnm hsm
        have hix : ∀ w : World, (Instr.indexAt 52 (.slice (some ⟨gl, 0, none⟩) init.length kc) (.int .i64 (i : Int))).run Tryd.prog w = .ok (.pointer (some ⟨gl, i, none⟩)) w := fun w => by
          have := idx_z gl 0 init.length kc i hil w
          rw [Nat.zero_add] at this
          exact this
        have HRL := Lib.hid hrl; have HNX := Lib.hid hnx; have HNM := Lib.hid hnm; have HSM := Lib.hid hsm
        clear hrl hnx hnm hsm hLV hs hsz
        rcases (by omega : i = 0 ∨ i = 1 ∨ i = 2 ∨ 3 ≤ i) with rfl | rfl | rfl | h3
        · have hw := HRS.out.wd.at_ (i := 0) rfl
          have hiw : ∀ w : World, (Instr.indexAt 52 (.slice (some ⟨gz, 0, none⟩) 3 3) (.int .i64 0)).run Tryd.prog w = .ok (.pointer (some ⟨gz, 0, none⟩)) w := fun w => by
            have := idx_z gz 0 3 3 0 (by omega) w
            rw [Nat.zero_add] at this
            exact this
          have hrl : ∀ w, Calls Tryd.prog 56 #[.string s, .string nodesW, .bool true] w _ := HRL.out
          have hix : ∀ w : World, (Instr.indexAt 52 (.slice (some ⟨gl, 0, none⟩) init.length kc) (.int .i64 0)).run Tryd.prog w = .ok (.pointer (some ⟨gl, 0, none⟩)) w := hix
          have hlt : (0 : Int) < 3 + N := hlt
          have hil2 : ¬ ((init.length : Int) ≤ 0) := by omega
          have hnl : init.length ≠ 0 := by omega
          have hne : init ≠ [] := by rintro rfl; simp at hil
          have HRL2 := Lib.hid hrl
          clear hrl HRL
          go_wp2_with fail
          refine (HRL2.out _).mono ?_; rintro e w5 ⟨A2, c2, rfl, hO2, hB2⟩
          have hR5 := HRS.out.below hB2
          have hO5 := own_base0 hO2 HRS.out.bel.size
          have HR5 := Lib.hid hR5; have HO5 := Lib.hid hO5
          clear hB2 hO2 hR5 hO5 HRS HRL2 m0 hcl hw
          cases ok with
          | false =>
            have hV := HV.out
            rw [read_bad HBAD.out (by rw [← HN.out]; exact hlt) HNX.out] at hV
            injection hV with h1 h2
            injection h2 with h2 h3
            subst h1 h2 h3
            have j0 := (HR5.out).t2.at_ (i := 0) rfl
            have j1 := (HR5.out).t2.at_ (i := 1) rfl
            have j2 := (HR5.out).t2.at_ (i := 2) rfl
            have j3 := (HR5.out).t2.at_ (i := 3) rfl
            have f0 := (HR5.out).t2.frozen 0
            have f1 := (HR5.out).t2.frozen 1
            have f2 := (HR5.out).t2.frozen 2
            have f3 := (HR5.out).t2.frozen 3
            have hz2 := (HR5.out).put2 (.int .i64 0) (.int .i64 0) (.slice none 0 0) (.slice none 0 0)
            have HZ2 := Lib.hid hz2
            clear hz2
            clear HV HR5
            go_wp2_with fail
            exact bodyPost_ret (results_cell3 Tryd.results35 _ _ w.heap.size 48 _ (0, 0) _ rfl HZ2.out.1 Tryd.underlying48 rfl (by kernel_rfl)) rfl ⟨⟨zeroT, rfl, zeroT_in _, ⟨rfl, rfl, rfl, rfl⟩⟩, HZ2.out.2.2⟩
          | true =>
            have hnm := HNM.out rfl
            have hsm := HSM.out rfl
            have hbn : (rdI init (0 + 1)).bad = false := by rw [HNX.out]; rfl
            have HNI := Lib.hid hnm; have HBN := Lib.hid hbn
            clear hnm hbn HNM HSM HNX
            obtain ⟨z0, zr, rfl⟩ : ∃ z0 zr, nl = z0 :: zr := by
              cases nl with
              | nil => simp at hsm
              | cons z0 zr => exact ⟨z0, zr, rfl⟩
            simp only [List.length_cons, List.map_cons] at HO5 ⊢
            obtain ⟨ga, hA, hca, _⟩ := own_at HO5.out (k := 0) (u := .int .i64 z0) rfl
            subst hA
            have hi0 : ∀ w : World, (Instr.indexAt 23 (.slice (some ⟨ga, 0, none⟩) (zr.length + 1) c2) (.int .i64 0)).run Tryd.prog w = .ok (.pointer (some ⟨ga, 0, none⟩)) w := fun w => idx_own ga (zr.length + 1) c2 0 (by omega) w
            have hz0 : 0 ≤ z0 := by
              have h1 : nodI init 1 = z0 := by unfold nodI; rw [if_pos (by omega), HNI.out]; rfl
              rw [← h1]; exact (nodI_bd init 1).1
            have m0 := HR5.out.t8.at_ (i := 0) rfl
            have f0 := HR5.out.t8.frozen 0
            have hR6 := HR5.out.setN z0
            have HR6 := Lib.hid hR6
            clear hR6 HR5 HO5
            go_wp2_with fail
            go_roundw
            case rel => exact ⟨1, z0, F, ca, cc, C, rows, D, d, by go_num, HBN.out, by omega, by unfold nodI; rw [if_pos (by omega), HNI.out]; rfl, by rw [HF.out]; exact (frmI_succ init 0 (by omega)).symm, by rw [HC.out]; exact (cpuI_succ init 0 (by omega)).symm, by rw [HROW.out, dstI_low init 0 (by omega), dstI_low init 1 (by omega)], HR6.out⟩
            case measure => simp [intOf]
        · have hw := HRS.out.wd.at_ (i := 1) rfl
          have hiw : ∀ w : World, (Instr.indexAt 52 (.slice (some ⟨gz, 0, none⟩) 3 3) (.int .i64 1)).run Tryd.prog w = .ok (.pointer (some ⟨gz, 1, none⟩)) w := fun w => by
            have := idx_z gz 0 3 3 1 (by omega) w
            rw [Nat.zero_add] at this
            exact this
          have hrl : ∀ w, Calls Tryd.prog 56 #[.string s, .string framesW, .bool true] w _ := HRL.out
          have hix : ∀ w : World, (Instr.indexAt 52 (.slice (some ⟨gl, 0, none⟩) init.length kc) (.int .i64 1)).run Tryd.prog w = .ok (.pointer (some ⟨gl, 1, none⟩)) w := hix
          have hlt : (1 : Int) < 3 + N := hlt
          have hil2 : ¬ ((init.length : Int) ≤ 1) := by omega
          have hnl : init.length ≠ 0 := by omega
          have hne : init ≠ [] := by rintro rfl; simp at hil
          have HRL2 := Lib.hid hrl
          clear hrl HRL
          go_wp2_with fail
          refine (HRL2.out _).mono ?_; rintro e w5 ⟨A2, c2, rfl, hO2, hB2⟩
          have hR5 := HRS.out.below hB2
          have hO5 := own_base0 hO2 HRS.out.bel.size
          have HR5 := Lib.hid hR5; have HO5 := Lib.hid hO5
          clear hB2 hO2 hR5 hO5 HRS HRL2 m0 hcl hw
          cases ok with
          | false =>
            have hV := HV.out
            rw [read_bad HBAD.out (by rw [← HN.out]; exact hlt) HNX.out] at hV
            injection hV with h1 h2
            injection h2 with h2 h3
            subst h1 h2 h3
            have j0 := (HR5.out).t2.at_ (i := 0) rfl
            have j1 := (HR5.out).t2.at_ (i := 1) rfl
            have j2 := (HR5.out).t2.at_ (i := 2) rfl
            have j3 := (HR5.out).t2.at_ (i := 3) rfl
            have f0 := (HR5.out).t2.frozen 0
            have f1 := (HR5.out).t2.frozen 1
            have f2 := (HR5.out).t2.frozen 2
            have f3 := (HR5.out).t2.frozen 3
            have hz2 := (HR5.out).put2 (.int .i64 0) (.int .i64 0) (.slice none 0 0) (.slice none 0 0)
            have HZ2 := Lib.hid hz2
            clear hz2
            clear HV HR5
            go_wp2_with fail
            exact bodyPost_ret (results_cell3 Tryd.results35 _ _ w.heap.size 48 _ (0, 0) _ rfl HZ2.out.1 Tryd.underlying48 rfl (by kernel_rfl)) rfl ⟨⟨zeroT, rfl, zeroT_in _, ⟨rfl, rfl, rfl, rfl⟩⟩, HZ2.out.2.2⟩
          | true =>
            have hnm := HNM.out rfl
            have hsm := HSM.out rfl
            have hbn : (rdI init (1 + 1)).bad = false := by rw [HNX.out]; rfl
            have HNI := Lib.hid hnm; have HBN := Lib.hid hbn
            clear hnm hbn HNM HSM HNX
            obtain ⟨z0, zr, rfl⟩ : ∃ z0 zr, nl = z0 :: zr := by
              cases nl with
              | nil => simp at hsm
              | cons z0 zr => exact ⟨z0, zr, rfl⟩
            simp only [List.length_cons, List.map_cons] at HO5 ⊢
            obtain ⟨ga, hA, hca, _⟩ := own_at HO5.out (k := 0) (u := .int .i64 z0) rfl
            subst hA
            have hi0 : ∀ w : World, (Instr.indexAt 23 (.slice (some ⟨ga, 0, none⟩) (zr.length + 1) c2) (.int .i64 0)).run Tryd.prog w = .ok (.pointer (some ⟨ga, 0, none⟩)) w := fun w => idx_own ga (zr.length + 1) c2 0 (by omega) w
            have m1 := HR5.out.t8.at_ (i := 1) rfl
            have f1 := HR5.out.t8.frozen 1
            have hR6 := HR5.out.setF z0
            have HR6 := Lib.hid hR6
            clear hR6 HR5 HO5
            go_wp2_with fail
            go_roundw
            case rel => exact ⟨2, N, z0, ca, cc, C, rows, D, d, by go_num, HBN.out, by omega, by rw [HN.out]; exact (nodI_succ init 1 (by omega)).symm, by unfold frmI; rw [if_pos (by omega), HNI.out]; rfl, by rw [HC.out]; exact (cpuI_succ init 1 (by omega)).symm, by rw [HROW.out, dstI_low init 1 (by omega), dstI_low init 2 (by omega)], HR6.out⟩
            case measure => simp [intOf]
        · have hw := HRS.out.wd.at_ (i := 2) rfl
          have hiw : ∀ w : World, (Instr.indexAt 52 (.slice (some ⟨gz, 0, none⟩) 3 3) (.int .i64 2)).run Tryd.prog w = .ok (.pointer (some ⟨gz, 2, none⟩)) w := fun w => by
            have := idx_z gz 0 3 3 2 (by omega) w
            rw [Nat.zero_add] at this
            exact this
          have hrl : ∀ w, Calls Tryd.prog 56 #[.string s, .string cpusW, .bool false] w _ := HRL.out
          have hix : ∀ w : World, (Instr.indexAt 52 (.slice (some ⟨gl, 0, none⟩) init.length kc) (.int .i64 2)).run Tryd.prog w = .ok (.pointer (some ⟨gl, 2, none⟩)) w := hix
          have hlt : (2 : Int) < 3 + N := hlt
          have hil2 : ¬ ((init.length : Int) ≤ 2) := by omega
          have hnl : init.length ≠ 0 := by omega
          have hne : init ≠ [] := by rintro rfl; simp at hil
          have HRL2 := Lib.hid hrl
          clear hrl HRL
          go_wp2_with fail
          refine (HRL2.out _).mono ?_; rintro e w5 ⟨A2, c2, rfl, hO2, hB2⟩
          have hR5 := HRS.out.below hB2
          have hO5 := own_base0 hO2 HRS.out.bel.size
          have HR5 := Lib.hid hR5; have HO5 := Lib.hid hO5
          clear hB2 hO2 hR5 hO5 HRS HRL2 m0 hcl hw
          cases ok with
          | false =>
            have hV := HV.out
            rw [read_bad HBAD.out (by rw [← HN.out]; exact hlt) HNX.out] at hV
            injection hV with h1 h2
            injection h2 with h2 h3
            subst h1 h2 h3
            have j0 := (HR5.out).t2.at_ (i := 0) rfl
            have j1 := (HR5.out).t2.at_ (i := 1) rfl
            have j2 := (HR5.out).t2.at_ (i := 2) rfl
            have j3 := (HR5.out).t2.at_ (i := 3) rfl
            have f0 := (HR5.out).t2.frozen 0
            have f1 := (HR5.out).t2.frozen 1
            have f2 := (HR5.out).t2.frozen 2
            have f3 := (HR5.out).t2.frozen 3
            have hz2 := (HR5.out).put2 (.int .i64 0) (.int .i64 0) (.slice none 0 0) (.slice none 0 0)
            have HZ2 := Lib.hid hz2
            clear hz2
            clear HV HR5
            go_wp2_with fail
            exact bodyPost_ret (results_cell3 Tryd.results35 _ _ w.heap.size 48 _ (0, 0) _ rfl HZ2.out.1 Tryd.underlying48 rfl (by kernel_rfl)) rfl ⟨⟨zeroT, rfl, zeroT_in _, ⟨rfl, rfl, rfl, rfl⟩⟩, HZ2.out.2.2⟩
          | true =>
            have hnm := HNM.out rfl
            have hsm := HSM.out rfl
            have hbn : (rdI init (2 + 1)).bad = false := by rw [HNX.out]; rfl
            have HNI := Lib.hid hnm; have HBN := Lib.hid hbn
            clear hnm hbn HNM HSM HNX
            have m2 := HR5.out.t8.at_ (i := 2) rfl
            have f2 := HR5.out.t8.frozen 2
            have hR6 := HR5.out.setC HO5.out
            have HR6 := Lib.hid hR6
            clear hR6 HR5 HO5
            go_wp2_with fail
            go_roundw
            case rel => exact ⟨3, N, F, A2, c2, nl, rows, D, d, by go_num, HBN.out, by omega, by rw [HN.out]; exact (nodI_succ init 2 (by omega)).symm, by rw [HF.out]; exact (frmI_succ init 2 (by omega)).symm, by unfold cpuI; rw [if_pos (by omega), HNI.out], by rw [HROW.out, dstI_low init 2 (by omega), dstI_low init 3 (by omega)], HR6.out⟩
            case measure => simp [intOf]
        · have hw3 : wordI i = distW := by unfold wordI; rw [if_neg (by omega), if_neg (by omega), if_neg (by omega)]
          have hd2 : decide (i < 2) = false := decide_eq_false (by omega)
          have hrl := HRL.out
          rw [hw3, hd2] at hrl
          have hn3 : ¬ ((i : Int) < 3) := by omega
          have hn2 : ¬ ((i : Int) < 2) := by omega
          have hil2 : ¬ ((init.length : Int) ≤ (i : Int)) := by omega
          have HRL2 := Lib.hid hrl
          clear hrl HRL
          go_wp2_with fail
          refine (HRL2.out _).mono ?_; rintro e w5 ⟨A2, c2, rfl, hO2, hB2⟩
          have hR5 := HRS.out.below hB2
          have hO5 := own_base0 hO2 HRS.out.bel.size
          have HR5 := Lib.hid hR5; have HO5 := Lib.hid hO5
          clear hB2 hO2 hR5 hO5 HRS HRL2 m0 hcl
          cases ok with
          | false =>
            have hV := HV.out
            rw [read_bad HBAD.out (by rw [← HN.out]; exact hlt) HNX.out] at hV
            injection hV with h1 h2
            injection h2 with h2 h3
            subst h1 h2 h3
            have j0 := (HR5.out).t2.at_ (i := 0) rfl
            have j1 := (HR5.out).t2.at_ (i := 1) rfl
            have j2 := (HR5.out).t2.at_ (i := 2) rfl
            have j3 := (HR5.out).t2.at_ (i := 3) rfl
            have f0 := (HR5.out).t2.frozen 0
            have f1 := (HR5.out).t2.frozen 1
            have f2 := (HR5.out).t2.frozen 2
            have f3 := (HR5.out).t2.frozen 3
            have hz2 := (HR5.out).put2 (.int .i64 0) (.int .i64 0) (.slice none 0 0) (.slice none 0 0)
            have HZ2 := Lib.hid hz2
            clear hz2
            clear HV HR5
            go_wp2_with fail
            exact bodyPost_ret (results_cell3 Tryd.results35 _ _ w.heap.size 48 _ (0, 0) _ rfl HZ2.out.1 Tryd.underlying48 rfl (by kernel_rfl)) rfl ⟨⟨zeroT, rfl, zeroT_in _, ⟨rfl, rfl, rfl, rfl⟩⟩, HZ2.out.2.2⟩
          | true =>
            have hnm := HNM.out rfl
            have hsm := HSM.out rfl
            have hbn : (rdI init (i + 1)).bad = false := by rw [HNX.out]; rfl
            have HNI := Lib.hid hnm; have HBN := Lib.hid hbn
            clear hnm hbn HNM HSM HNX
            have hrl : rows.length = i - 3 := by
              have h1 := congrArg List.length HROW.out
              rw [List.length_map] at h1
              rw [h1]
              unfold dstI
              simp
            have hrl4 : rows.length ≤ 10000 := by omega
            clear hrl
            have m3 := HR5.out.t8.at_ (i := 3) rfl
            have hi0 : ((i : Int) == 0) = false := by rw [beq_eq_false_iff_ne]; omega
            have hi1 : ((i : Int) == 1) = false := by rw [beq_eq_false_iff_ne]; omega
            have hi2 : ((i : Int) == 2) = false := by rw [beq_eq_false_iff_ne]; omega
            have hoa := own_chV HR5.out.d ((Ch.refl [] w5).alloc (.cells #[.slice A2 nl.length c2] 23)) (by simp)
            have hR5a := HR5.out.below (bel_alloc (Below.refl _ w5) (.cells #[.slice A2 nl.length c2] 23))
            have hO5a := own_chV HO5.out ((Ch.refl [] w5).alloc (.cells #[.slice A2 nl.length c2] 23)) (by simp)
            have hbk := Blk.new w5 23 [.slice A2 nl.length c2]
            have hsz5 := HR5.out.bel.size
            have HOA := Lib.hid hoa; have HRA := Lib.hid hR5a; have HO5a := Lib.hid hO5a; have HBK := Lib.hid hbk
            clear hoa hR5a hO5a hbk HR5 HO5
            go_wp2_with (at_builtin; (refine wpList_push _ rfl (.tmp 68) (.tmp 70) 46 rfl w.heap.size 23 (.slice none 0 0) 24 Tryd.underlying46 info_row rfl D rows.length d _ rfl HOA.out w5.heap.size 1 (.slice A2 nl.length c2) rfl (HBK.out.at_ rfl) rfl (by omega) (by omega) (by simp; omega) ?_))
            intro gg cap2 w6 hown6 hgr6 hor6
            obtain ⟨hb8, hR6⟩ := RS.push (q := ⟨A2, c2, nl⟩) HRA.out HO5a.out hgr6 (by simp; omega) hown6
            have m3' := hb8.at_ (i := 3) rfl
            have f3' := hb8.frozen 3
            have HR6 := Lib.hid hR6
            clear hR6 hb8 hown6 hgr6 hor6 HOA HRA HO5a HBK m3
            go_wp2_with fail
            go_roundw
            case rel => exact ⟨i + 1, N, F, ca, cc, C, rows ++ [⟨A2, c2, nl⟩], some ⟨gg, 0, none⟩, cap2, by go_num, HBN.out, by omega, by rw [HN.out]; exact (nodI_succ init i (by omega)).symm, by rw [HF.out]; exact (frmI_succ init i (by omega)).symm, by rw [HC.out]; exact (cpuI_succ init i (by omega)).symm, by rw [List.map_append, HROW.out, dstI_succ init i h3, HNI.out]; rfl, HR6.out⟩
            case measure => simp [intOf]; omega
      · have hil2 : ((init.length : Int) ≤ (i : Int)) := by omega
        have hV := HV.out
        rw [read_bad HBAD.out (by rw [← HN.out]; exact hlt) (rdI_out (rdI_ok HBAD.out) (by omega))] at hV
        injection hV with h1 h2
        injection h2 with h2 h3
        subst h1 h2 h3
        have j0 := (HRS.out).t2.at_ (i := 0) rfl
        have j1 := (HRS.out).t2.at_ (i := 1) rfl
        have j2 := (HRS.out).t2.at_ (i := 2) rfl
        have j3 := (HRS.out).t2.at_ (i := 3) rfl
        have f0 := (HRS.out).t2.frozen 0
        have f1 := (HRS.out).t2.frozen 1
        have f2 := (HRS.out).t2.frozen 2
        have f3 := (HRS.out).t2.frozen 3
        have hz2 := (HRS.out).put2 (.int .i64 0) (.int .i64 0) (.slice none 0 0) (.slice none 0 0)
        have HZ2 := Lib.hid hz2
        clear hz2
        clear HV HRS
        go_wp2_with fail
        exact bodyPost_ret (results_cell3 Tryd.results35 _ _ w.heap.size 48 _ (0, 0) _ rfl HZ2.out.1 Tryd.underlying48 rfl (by kernel_rfl)) rfl ⟨⟨zeroT, rfl, zeroT_in _, ⟨rfl, rfl, rfl, rfl⟩⟩, HZ2.out.2.2⟩
    · have hi3 : (i : Int) = 3 + N := by omega
      have hi3n : 3 ≤ i := by omega
      have m0 := HRS.out.t8.at_ (i := 0) rfl
      by_cases hfin : init.length = i ∧ last.toList.isEmpty = true
      · obtain ⟨hfl, hfw⟩ := hfin
        have hV := HV.out
        rw [hfw, read_end_ok HBAD.out hi3n (by rw [← HN.out]; exact hi3) hfl.symm] at hV
        have hT := HRS.out.inT
        have hs : sameT ⟨N, F, ca, cc, C, D, d, rows⟩ (Read.mk' ⟨nodI init i, frmI init i, cpuI init i, dstI init i, ⟨i, false⟩⟩) := ⟨HN.out, HF.out, HC.out, by rw [HROW.out]; simp [Read.mk', Function.comp_def]⟩
        unfold outP at hV
        rw [if_neg (by simp), ← chkT_same hs] at hV
        have HV := Lib.hid hV; have HSM := Lib.hid hs
        clear hV hs
        generalize Read.mk' ⟨nodI init i, frmI init i, cpuI init i, dstI init i, ⟨i, false⟩⟩ = TT at *
        obtain ⟨q, hq⟩ : ∃ q, chkT ⟨N, F, ca, cc, C, D, d, rows⟩ = q := ⟨_, rfl⟩
        have hck := fun w hT => ref_check ⟨N, F, ca, cc, C, D, d, rows⟩ w hT
        rw [hq] at hck HV
        have hcx := hck _ hT
        unfold TopoV.val at hcx
        have HCK := Lib.hid hcx
        clear hck hq hT hcx
        have hgt : ¬ (3 + N < (init.length : Int)) := by omega
        have m1 := HRS.out.t8.at_ (i := 1) rfl
        have m2 := HRS.out.t8.at_ (i := 2) rfl
        have m3 := HRS.out.t8.at_ (i := 3) rfl
        go_wp2_with fail
        refine HCK.out.mono ?_; rintro e w9 ⟨rfl, hB9⟩
        have HR9 := Lib.hid (HRS.out.below hB9)
        clear hB9 HCK HRS m0 m1 m2 m3
        have j0 := (HR9.out).t2.at_ (i := 0) rfl
        have j1 := (HR9.out).t2.at_ (i := 1) rfl
        have j2 := (HR9.out).t2.at_ (i := 2) rfl
        have j3 := (HR9.out).t2.at_ (i := 3) rfl
        have f0 := (HR9.out).t2.frozen 0
        have f1 := (HR9.out).t2.frozen 1
        have f2 := (HR9.out).t2.frozen 2
        have f3 := (HR9.out).t2.frozen 3
        have m0 := HR9.out.t8.at_ (i := 0) rfl
        have m1 := HR9.out.t8.at_ (i := 1) rfl
        have m2 := HR9.out.t8.at_ (i := 2) rfl
        have m3 := HR9.out.t8.at_ (i := 3) rfl
        by_cases hq : q = 0
        · subst hq
          have hV := HV.out
          rw [if_neg (by simp)] at hV
          injection hV with h1 h2
          injection h2 with h2 h3
          subst h1 h2 h3
          clear HV
          have hz2 := HR9.out.put2 (.int .i64 N) (.int .i64 F) (.slice ca C.length cc) (.slice D rows.length d)
          have hT9 := HR9.out.inT2 hz2.2.1
          have HZ2 := Lib.hid hz2; have HT9 := Lib.hid hT9
          clear hz2 hT9 HR9
          go_wp2_with fail
          exact bodyPost_ret (results_cell3 Tryd.results35 _ _ w.heap.size 48 _ (0, 0) _ rfl HZ2.out.1 Tryd.underlying48 rfl (by kernel_rfl)) rfl ⟨⟨⟨N, F, ca, cc, C, D, d, rows⟩, rfl, HT9.out, HSM.out⟩, HZ2.out.2.2⟩
        · have hV := HV.out
          rw [if_pos hq] at hV
          injection hV with h1 h2
          injection h2 with h2 h3
          subst h1 h2 h3
          clear HV
          have hz2 := (HR9.out).put2 (.int .i64 0) (.int .i64 0) (.slice none 0 0) (.slice none 0 0)
          have HZ2 := Lib.hid hz2
          clear hz2
          clear HR9
          go_wp2_with fail
          exact bodyPost_ret (results_cell3 Tryd.results35 _ _ w.heap.size 48 _ (0, 0) _ rfl HZ2.out.1 Tryd.underlying48 rfl (by kernel_rfl)) rfl ⟨⟨zeroT, rfl, zeroT_in _, ⟨rfl, rfl, rfl, rfl⟩⟩, HZ2.out.2.2⟩
      · have hV := HV.out
        rw [read_end_bad HBAD.out hi3n (by rw [← HN.out]; exact hi3) (by
          by_cases hf : init.length = i
          · exact Or.inl (by simpa [hf] using hfin)
          · exact Or.inr (fun e => hf e.symm))] at hV
        injection hV with h1 h2
        injection h2 with h2 h3
        subst h1 h2 h3
        have j0 := (HRS.out).t2.at_ (i := 0) rfl
        have j1 := (HRS.out).t2.at_ (i := 1) rfl
        have j2 := (HRS.out).t2.at_ (i := 2) rfl
        have j3 := (HRS.out).t2.at_ (i := 3) rfl
        have f0 := (HRS.out).t2.frozen 0
        have f1 := (HRS.out).t2.frozen 1
        have f2 := (HRS.out).t2.frozen 2
        have f3 := (HRS.out).t2.frozen 3
        have hz2 := (HRS.out).put2 (.int .i64 0) (.int .i64 0) (.slice none 0 0) (.slice none 0 0)
        have HZ2 := Lib.hid hz2
        clear hz2
        rcases (by
          by_cases hf : init.length = i
          · exact Or.inr ⟨by omega, by simpa [hf] using hfin⟩
          · exact Or.inl (by omega) : (3 + N < (init.length : Int)) ∨ (¬ (3 + N < (init.length : Int)) ∧ last.toList.isEmpty = false)) with hgt | ⟨hgt, hfw⟩
        · have hn8 := HRS.out.ne
          clear hfin HV HRS
          go_upto_region 26 with fail
          go_region
          go_wp2_with fail
          exact bodyPost_ret (results_cell3 Tryd.results35 _ _ w.heap.size 48 _ (0, 0) _ rfl HZ2.out.1.drew Tryd.underlying48 rfl (by kernel_rfl)) rfl ⟨⟨zeroT, rfl, zeroT_in _, ⟨rfl, rfl, rfl, rfl⟩⟩, bel_drew HZ2.out.2.2⟩
        · have hn8 := HRS.out.ne
          clear hfin HV HRS
          go_upto_region 26 with fail
          go_region
          go_wp2_with fail
          exact bodyPost_ret (results_cell3 Tryd.results35 _ _ w.heap.size 48 _ (0, 0) _ rfl HZ2.out.1.drew Tryd.underlying48 rfl (by kernel_rfl)) rfl ⟨⟨zeroT, rfl, zeroT_in _, ⟨rfl, rfl, rfl, rfl⟩⟩, bel_drew HZ2.out.2.2⟩
end Go.Proofs.YtcanhegjhbhkhaaDoor
