/- Parts of the proof: TopLine. -/
import Derived.Test.YtjdbedoabcbeeaaGreatDoorUs12
/- The statements' line: nodes in a row. -/
namespace Go.Proofs.YtjdbedoabcbeeaaGreatDoor
open Go.RowKit
set_option linter.unusedVariables false
set_option linter.unusedSimpArgs false
attribute [local go_sem] World.cell?_alloc_lt

def dLn (a b : Nat) : Int := if a < b then 10 + 5 * ((b : Int) - (a : Int)) else 10 + 5 * ((a : Int) - (b : Int))
def rowLn (n a : Nat) : List Int := (List.range n).map (dLn a)
def rowsLn (n i : Nat) : List (List Int) := (List.range i).map (rowLn n)
theorem rowLn_succ (k a : Nat) : rowLn (k + 1) a = rowLn k a ++ [dLn a k] := by unfold rowLn; rw [List.range_succ, List.map_append]; rfl
theorem rowsLn_succ (n i : Nat) : rowsLn n (i + 1) = rowsLn n i ++ [rowLn n i] := by unfold rowsLn; rw [List.range_succ, List.map_append]; rfl
theorem rowLn_len (n a : Nat) : (rowLn n a).length = n := by simp [rowLn]
theorem dLn_bd {a b : Nat} (ha : a ≤ 8) (hb : b ≤ 8) : 10 ≤ dLn a b ∧ dLn a b ≤ 50 := by unfold dLn; split <;> omega
def valR (r : RowV) : Value := .slice r.a r.zs.length r.c
/-- The machine as it grows. -/
structure LN (w wr : World) (g5 g4 : Nat) (N F : Int) (ca : Option Addr) (cc : Nat) (C : List Int) (rows : List RowV) (D : Option Addr) (d : Nat) : Prop where
  t5 : Blk wr g5 30 [.int .i64 N, .int .i64 F, .slice ca C.length cc, .slice D rows.length d]
  t4 : Blk wr g4 30 [.int .i64 0, .int .i64 0, .slice none 0 0, .slice none 0 0]
  c : wr.ownsRow w.heap.size 3 1 (.slice ca C.length cc) C.length (C.map (Value.int .i64))
  d : wr.ownsRow w.heap.size 27 1 (.slice D rows.length d) rows.length (rows.map valR)
  rs : ∀ q ∈ rows, wr.ownsRow w.heap.size 3 1 (.slice q.a q.zs.length q.c) q.zs.length (q.zs.map (Value.int .i64))
  nc : ∀ q ∈ rows, ∀ i, (Value.slice ca C.length cc).ownBlock = some i → (Value.slice q.a q.zs.length q.c).ownBlock ≠ some i
  ne : g5 ≠ g4
  lo5 : w.heap.size ≤ g5
  lo4 : w.heap.size ≤ g4
  bel : Below w.heap.size w wr
section
variable {w wr w' : World} {g5 g4 cc d g cap : Nat} {N F : Int} {ca D : Option Addr} {C : List Int} {rows : List RowV} {q : RowV}
theorem LN.below (h : LN w wr g5 g4 N F ca cc C rows D d) (k : Below wr.heap.size wr w') : LN w w' g5 g4 N F ca cc C rows D d :=
  ⟨h.t5.below k, h.t4.below k, own_chV h.c (Ch.below k []) (by simp), own_chV h.d (Ch.below k []) (by simp), fun q hq => own_chV (h.rs q hq) (Ch.below k []) (by simp), h.nc, h.ne, h.lo5, h.lo4, bel_trans h.bel k⟩
/-- A CPU more. -/
theorem LN.pushC (h : LN w wr g5 g4 N F ca cc C rows D d) (x : Int) (hsz : w.heap.size ≤ wr.heap.size)
    (hg : wr.grownBy w' (Value.slice ca C.length cc).ownBlock) (hor : (Value.slice ca C.length cc).ownBlock = some g ∨ g = wr.heap.size) (ho : w'.ownsRow w.heap.size 3 1 (.slice (some ⟨g, 0, none⟩) (C.length + 1) cap) (C.length + 1) (C.map (Value.int .i64) ++ [.int .i64 x])) :
    Blk w' g5 30 [.int .i64 N, .int .i64 F, .slice ca C.length cc, .slice D rows.length d] ∧
    LN w (w'.setCell ⟨g5, 2, none⟩ (.slice (some ⟨g, 0, none⟩) (C.length + 1) cap)) g5 g4 N F (some ⟨g, 0, none⟩) cap (C ++ [x]) rows D d := by
  have hc : Ch (Value.slice ca C.length cc).ownBlock.toList wr w' := ch_grown hg (fun i hi => by rw [hi]; simp)
  have kb : ∀ {b : Nat} {t : TypeId} {cs : List Value}, Blk wr b t cs → 3 ≠ t → Blk w' b t cs := fun hb hne => hb.ch hc (fun hm => by rw [Option.mem_toList] at hm; exact own_neV h.c hb hne hm)
  have h5 := kb h.t5 (by decide)
  have hs : Ch [g5] w' (w'.setCell ⟨g5, 2, none⟩ (.slice (some ⟨g, 0, none⟩) (C.length + 1) cap)) := (Ch.refl [g5] w').set (p := ⟨g5, 2, none⟩) (by simp) _
  have ks : ∀ {e s n : Nat} {v : Value} {xs : List Value}, w'.ownsRow w.heap.size e s v n xs → e ≠ 30 → (w'.setCell ⟨g5, 2, none⟩ (.slice (some ⟨g, 0, none⟩) (C.length + 1) cap)).ownsRow w.heap.size e s v n xs := fun hx hne =>
    own_chV hx hs (fun i hi hm => by rw [List.mem_singleton] at hm; subst hm; exact own_neV hx h5 hne hi)
  have hl : (C ++ [x]).length = C.length + 1 := by simp
  have hd : w'.ownsRow w.heap.size 27 1 (.slice D rows.length d) rows.length (rows.map valR) := own_chV h.d hc (fun i hi hm => by rw [Option.mem_toList] at hm; exact own_apart h.c h.d (by decide) i hm hi)
  have hB := (h.bel).grown hg hsz (fun k hk => (h.c.lt k hk).1)
  refine ⟨h5, ?_, (kb h.t4 (by decide)).far (by exact (Ne.symm h.ne)) _, ?_, ks hd (by decide), fun y hy => ks (own_chV (h.rs y hy) hc (fun i hi hm => by rw [Option.mem_toList] at hm; exact h.nc y hy i hm hi)) (by decide), fun y hy i hi hi2 => ?_, h.ne, h.lo5, h.lo4, bel_ch hB hs (by simpa using h.lo5)⟩
  · rw [hl]
    exact h5.set_ 2 _
  · rw [hl, List.map_append]
    exact ks ho (by decide)
  · have hi : i = g := by
      rw [hl] at hi
      have : (Value.slice (some ⟨g, 0, none⟩) (C.length + 1) cap).ownBlock = some g := rfl
      rw [this] at hi
      injection hi with hi
      exact hi.symm
    subst hi
    rcases hor with hor | hor
    · exact h.nc y hy _ hor hi2
    · have := ((h.rs y hy).lt _ hi2).2
      omega
/-- A row more. -/
theorem LN.pushD (h : LN w wr g5 g4 N F ca cc C rows D d) (hq : wr.ownsRow w.heap.size 3 1 (.slice q.a q.zs.length q.c) q.zs.length (q.zs.map (Value.int .i64))) (hqc : ∀ i, (Value.slice ca C.length cc).ownBlock = some i → (Value.slice q.a q.zs.length q.c).ownBlock ≠ some i)
    (hg : wr.grownBy w' (Value.slice D rows.length d).ownBlock) (hsz : w.heap.size ≤ wr.heap.size) (ho : w'.ownsRow w.heap.size 27 1 (.slice (some ⟨g, 0, none⟩) (rows.length + 1) cap) (rows.length + 1) (rows.map valR ++ [valR q])) :
    Blk w' g5 30 [.int .i64 N, .int .i64 F, .slice ca C.length cc, .slice D rows.length d] ∧
    LN w (w'.setCell ⟨g5, 3, none⟩ (.slice (some ⟨g, 0, none⟩) (rows.length + 1) cap)) g5 g4 N F ca cc C (rows ++ [q]) (some ⟨g, 0, none⟩) cap := by
  have hc : Ch (Value.slice D rows.length d).ownBlock.toList wr w' := ch_grown hg (fun i hi => by rw [hi]; simp)
  have kb : ∀ {b : Nat} {t : TypeId} {cs : List Value}, Blk wr b t cs → 27 ≠ t → Blk w' b t cs := fun hb hne => hb.ch hc (fun hm => by rw [Option.mem_toList] at hm; exact own_neV h.d hb hne hm)
  have ko : ∀ {n : Nat} {v : Value} {xs : List Value}, wr.ownsRow w.heap.size 3 1 v n xs → w'.ownsRow w.heap.size 3 1 v n xs := fun hx => own_chV hx hc (fun i hi hm => by rw [Option.mem_toList] at hm; exact own_apart h.d hx (by decide) i hm hi)
  have h5 := kb h.t5 (by decide)
  have hs : Ch [g5] w' (w'.setCell ⟨g5, 3, none⟩ (.slice (some ⟨g, 0, none⟩) (rows.length + 1) cap)) := (Ch.refl [g5] w').set (p := ⟨g5, 3, none⟩) (by simp) _
  have ks : ∀ {e s n : Nat} {v : Value} {xs : List Value}, w'.ownsRow w.heap.size e s v n xs → e ≠ 30 → (w'.setCell ⟨g5, 3, none⟩ (.slice (some ⟨g, 0, none⟩) (rows.length + 1) cap)).ownsRow w.heap.size e s v n xs := fun hx hne =>
    own_chV hx hs (fun i hi hm => by rw [List.mem_singleton] at hm; subst hm; exact own_neV hx h5 hne hi)
  have hl : (rows ++ [q]).length = rows.length + 1 := by simp
  have hB := (h.bel).grown hg hsz (fun k hk => (h.d.lt k hk).1)
  refine ⟨h5, ?_, (kb h.t4 (by decide)).far (by exact (Ne.symm h.ne)) _, ks (ko h.c) (by decide), ?_, fun x hx => ?_, fun x hx i hi => ?_, h.ne, h.lo5, h.lo4, bel_ch hB hs (by simpa using h.lo5)⟩
  · rw [hl]
    exact h5.set_ 3 _
  · rw [hl, List.map_append]
    exact ks ho (by decide)
  · rcases List.mem_append.1 hx with hx | hx
    · exact ks (ko (h.rs x hx)) (by decide)
    · rw [List.mem_singleton.1 hx]
      exact ks (ko hq) (by decide)
  · rcases List.mem_append.1 hx with hx | hx
    · exact h.nc x hx i hi
    · rw [List.mem_singleton.1 hx]
      exact hqc i hi
theorem rows_LN (h : LN w wr g5 g4 N F ca cc C rows D d) (hc : Ch [g4] wr w') : w'.ownsRow w.heap.size 3 1 (.slice ca C.length cc) C.length (C.map (Value.int .i64)) ∧ w'.ownsRow w.heap.size 27 1 (.slice D rows.length d) rows.length (rows.map valR) ∧ ∀ q ∈ rows, w'.ownsRow w.heap.size 3 1 (.slice q.a q.zs.length q.c) q.zs.length (q.zs.map (Value.int .i64)) := by
  have key : ∀ {e s n : Nat} {v : Value} {xs : List Value}, wr.ownsRow w.heap.size e s v n xs → e ≠ 30 → w'.ownsRow w.heap.size e s v n xs := fun ho hne =>
    own_chV ho hc (fun i hi hm => by
      rw [List.mem_singleton] at hm
      subst hm
      exact own_neV ho h.t4 hne hi)
  exact ⟨key h.c (by decide), key h.d (by decide), fun q hq => key (h.rs q hq) (by decide)⟩
theorem inT_LN (h : LN w wr g5 g4 N F ca cc C rows D d) (hc : Ch [g4] wr w') : InTopo w' ⟨N, F, ca, cc, C, D, d, rows⟩ := by
  have key : ∀ {e s n : Nat} {v : Value} {xs : List Value}, wr.ownsRow w.heap.size e s v n xs → e ≠ 30 → w'.ownsRow w.heap.size e s v n xs := fun ho hne =>
    own_chV ho hc (fun i hi hm => by
      rw [List.mem_singleton] at hm
      subst hm
      exact own_neV ho h.t4 hne hi)
  have hc2 := key h.c (by decide)
  have hd := key h.d (by decide)
  have mx : ∀ {e m c : Nat} {A : Option Addr} {xs : List Value}, w'.ownsRow w.heap.size e 1 (.slice A m c) m xs → m ≤ 9223372036854775807 := fun ho => by
    rcases ho.2 with ⟨hv, h0⟩ | ⟨g, cap, cur, hv, _, _, hc, hm, _⟩
    · omega
    · unfold maxLen at hm
      omega
  refine ⟨InI.own hc2, ⟨rfl, fun hn => ?_⟩, mx hc2, mx hd⟩
  obtain ⟨g, cap, hv, hb, hlt⟩ := hd.form hn
  injection hv with hA _ _
  refine ⟨g, 0, hA, hlt, fun j r hj => ?_⟩
  have hr := List.mem_of_getElem? hj
  have hrr := key (h.rs r hr) (by decide)
  refine ⟨?_, InI.own hrr, mx hrr⟩
  obtain ⟨g', hA', hc, _⟩ := own_at hd (k := j) (u := valR r) (by rw [List.getElem?_map, hj]; rfl)
  rw [hA] at hA'
  injection hA' with hA'
  injection hA' with hA'
  subst hA'
  rw [Nat.zero_add]
  exact hc
end
theorem info_rowO : (Tryz.prog.info? 27).map (fun i => (i.zero, i.size, i.bytes)) = some (some (.slice none 0 0), 1, 24) := by kernel_rfl
set_option maxRecDepth 100000 in
set_option maxHeartbeats 1000000 in
theorem line_own (n : Nat) (hn : n ≤ 8) (F : Int) (w : World) : Calls Tryz.prog 6 #[.int .i64 (n : Int), .int .i64 F] w fun e w' => ∃ t : TopoV, e = .returned t.val ∧ InTopo w' t ∧ t.N = (n : Int) ∧ t.F = F ∧ t.cs = idL n ∧ t.ds.map RowV.zs = rowsLn n n ∧ Below w.heap.size w w' ∧ w'.ownsRow w.heap.size 3 1 (.slice t.ca t.cs.length t.cc) t.cs.length (t.cs.map (Value.int .i64)) ∧ w'.ownsRow w.heap.size 27 1 (.slice t.da t.ds.length t.dc) t.ds.length (t.ds.map valR) ∧ ∀ q ∈ t.ds, w'.ownsRow w.heap.size 3 1 (.slice q.a q.zs.length q.c) q.zs.length (q.zs.map (Value.int .i64)) := by
  go_enter Tryz.func6, Tryz.ntmps6
  go_upto_region 2 with fail
  have hL : LN w ((w.alloc (.cells #[.int .i64 0, .int .i64 0, .slice none 0 0, .slice none 0 0] 30)).alloc (.cells #[.int .i64 (n : Int), .int .i64 F, .slice none 0 0, .slice none 0 0] 30)) (w.heap.size + 1) w.heap.size (n : Int) F none 0 [] [] none 0 := by
    refine ⟨?_, (Blk.new w 30 [.int .i64 0, .int .i64 0, .slice none 0 0, .slice none 0 0]).alloc _, World.ownsRow_nil _ _ _ _, World.ownsRow_nil _ _ _ _, by simp, by simp, by omega, by omega, Nat.le_refl _, bel_alloc (bel_alloc (Below.refl _ _) _) _⟩
    have h := Blk.new (w.alloc (.cells #[.int .i64 0, .int .i64 0, .slice none 0 0, .slice none 0 0] 30)) 30 [.int .i64 (n : Int), .int .i64 F, .slice none 0 0, .slice none 0 0]
    rw [show (w.alloc (.cells #[.int .i64 0, .int .i64 0, .slice none 0 0, .slice none 0 0] 30)).heap.size = w.heap.size + 1 by simp] at h
    exact h
  have HL := Lib.hid hL
  clear hL
  generalize (w.alloc (.cells #[.int .i64 0, .int .i64 0, .slice none 0 0, .slice none 0 0] 30)).alloc (.cells #[.int .i64 (n : Int), .int .i64 F, .slice none 0 0, .slice none 0 0] 30) = w1 at *
  generalize hg5 : w.heap.size + 1 = g5 at *
  go_wp2_with fail
  go_loopw [6] (fun v wr => ∃ (i : Nat) (ca : Option Addr) (cc : Nat) (rows : List RowV) (D : Option Addr) (d : Nat), i ≤ n ∧ v = .int .i64 (i : Int) ∧ LN w wr g5 w.heap.size (n : Int) F ca cc (idL i) rows D d ∧ rows.map RowV.zs = rowsLn n i) (fun v _ => n - (intOf v).toNat)
  case atStart => exact ⟨0, none, 0, [], none, 0, by omega, rfl, HL.out, rfl⟩
  case round =>
    clear HL
    obtain ⟨i, ca, cc, rows, D, d, hi, rfl, hL, hrow⟩ := hrel
    have hrl : rows.length = i := by
      have := congrArg List.length hrow
      rw [List.length_map] at this
      rw [this]; simp [rowsLn]
    have hil := idL_len i
    by_cases hlt : i < n
    · have m2 := hL.t5.at_ (i := 2) rfl
      have hsz := hL.bel.size
      have hLa := hL.below (bel_alloc (Below.refl _ wr) (.cells #[.int .i64 (i : Int)] 3))
      have HOK := Lib.hid (own_chV hL.c ((Ch.refl [] wr).alloc (.cells #[.int .i64 (i : Int)] 3)) (by simp))
      have HBL := Lib.hid (Blk.new wr 3 [.int .i64 (i : Int)])
      have HLA := Lib.hid hLa; have HROW := Lib.hid hrow; have HRL := Lib.hid hrl; have HIL := Lib.hid hil
      clear hLa hL hrow hrl
      rw [hil] at m2 HOK
      clear hil
      go_wp2_with (at_builtin; refine wpList_push _ rfl (.tmp 19) (.tmp 21) 27 rfl w.heap.size 3 (.int .i64 0) 8 Tryz.underlying27 info_intO rfl ca i cc ((idL i).map (Value.int .i64)) rfl HOK.out wr.heap.size 1 (.int .i64 (i : Int)) rfl (HBL.out.at_ rfl) rfl (by omega) (by omega) (by simp; omega) ?_)
      intro g2 cap w8 ho8 hg8 hor8
      have hp := LN.pushC (g := g2) (cap := cap) HLA.out (i : Int) (by simp; omega) (by rw [HIL.out]; exact hg8) (by rw [HIL.out, show (wr.alloc (.cells #[.int .i64 (i : Int)] 3)).heap.size = wr.heap.size + 1 by simp]; exact hor8) (by rw [HIL.out]; exact ho8)
      obtain ⟨hb5, hL8⟩ := hp
      rw [HIL.out] at hL8 hb5
      rw [← idL_succ] at hL8
      have m2' := hb5.at_ (i := 2) rfl
      have f2' := hb5.frozen 2
      have HL8 := Lib.hid hL8
      clear hb5 hL8 ho8 hg8 hor8 HOK HBL HLA m2
      go_upto_region 6 with fail
      generalize w8.setCell ⟨g5, 2, none⟩ (.slice (some ⟨g2, 0, none⟩) (i + 1) cap) = w9 at *
      clear m2' f2'
      go_wp2_with fail
      go_loopw [7, 8] (fun v7 v8 wx => ∃ (k : Nat) (A : Option Addr) (c : Nat), k ≤ n ∧ v8 = .int .i64 (k : Int) ∧ v7 = .slice A k c ∧ wx.ownsRow w9.heap.size 3 1 (.slice A k c) k ((rowLn k i).map (Value.int .i64)) ∧ Below w9.heap.size w9 wx) (fun _ v _ => n - (intOf v).toNat)
      case atStart => exact ⟨0, none, 0, by omega, rfl, rfl, World.ownsRow_nil _ _ _ _, Below.refl _ _⟩
      case round =>
        obtain ⟨k, A, c, hk, rfl, rfl, hown, hB⟩ := hrel
        by_cases hkl : k < n
        · have hbd := dLn_bd (a := i) (b := k) (by omega) (by omega)
          have hlow := fun q (hq : (Value.slice A k c).ownBlock = some q) => (hown.lt q hq).1
          have HLW := Lib.hid hlow
          have HOK := Lib.hid (own_chV hown ((Ch.refl [] wr).alloc (.cells #[.int .i64 (dLn i k)] 3)) (by simp))
          have HBL := Lib.hid (Blk.new wr 3 [.int .i64 (dLn i k)])
          have HBW := Lib.hid (bel_alloc hB (.cells #[.int .i64 (dLn i k)] 3))
          clear hown hB hlow
          by_cases hik : i < k
          · have hd : dLn i k = 10 + 5 * ((k : Int) - (i : Int)) := by unfold dLn; rw [if_pos hik]
            have HD := Lib.hid hd
            rw [hd] at HOK HBL HBW
            clear hd hbd
            go_wp2_with (at_builtin; refine wpList_push _ rfl (.tmp 42) (.tmp 44) 27 rfl w9.heap.size 3 (.int .i64 0) 8 Tryz.underlying27 info_intO rfl A k c ((rowLn k i).map (Value.int .i64)) rfl HOK.out wr.heap.size 1 (.int .i64 (10 + 5 * ((k : Int) - (i : Int)))) rfl (HBL.out.at_ rfl) rfl (by omega) (by omega) HBW.out.size ?_)
            intro g3 cp3 w6 ho6 hg6 hor6
            have HO6 := Lib.hid ho6; have HB6 := Lib.hid (HBW.out.grown hg6 HBW.out.size HLW.out)
            clear ho6 hg6 hor6 HOK HBL HBW HLW
            go_wp2_with fail
            go_roundw
            case rel => exact ⟨k + 1, some ⟨g3, 0, none⟩, cp3, by omega, by go_num, rfl, by rw [rowLn_succ, List.map_append, HD.out]; exact HO6.out, HB6.out⟩
            case measure => simp [intOf]; omega
          · have hd : dLn i k = 10 + 5 * ((i : Int) - (k : Int)) := by unfold dLn; rw [if_neg hik]
            have HD := Lib.hid hd
            rw [hd] at HOK HBL HBW
            clear hd hbd
            go_wp2_with (at_builtin; refine wpList_push _ rfl (.tmp 42) (.tmp 44) 27 rfl w9.heap.size 3 (.int .i64 0) 8 Tryz.underlying27 info_intO rfl A k c ((rowLn k i).map (Value.int .i64)) rfl HOK.out wr.heap.size 1 (.int .i64 (10 + 5 * ((i : Int) - (k : Int)))) rfl (HBL.out.at_ rfl) rfl (by omega) (by omega) HBW.out.size ?_)
            intro g3 cp3 w6 ho6 hg6 hor6
            have HO6 := Lib.hid ho6; have HB6 := Lib.hid (HBW.out.grown hg6 HBW.out.size HLW.out)
            clear ho6 hg6 hor6 HOK HBL HBW HLW
            go_wp2_with fail
            go_roundw
            case rel => exact ⟨k + 1, some ⟨g3, 0, none⟩, cp3, by omega, by go_num, rfl, by rw [rowLn_succ, List.map_append, HD.out]; exact HO6.out, HB6.out⟩
            case measure => simp [intOf]; omega
        · obtain rfl : k = n := by omega
          have hL2 := HL8.out.below hB
          have m3 := hL2.t5.at_ (i := 3) rfl
          have hrl := HRL.out
          rw [hrl] at m3
          have hsz2 := hL2.bel.size
          have hoq := own_chV (own_base0 hown HL8.out.bel.size) ((Ch.refl [] wr).alloc (.cells #[.slice A k c] 27)) (by simp)
          have hLa := hL2.below (bel_alloc (Below.refl _ wr) (.cells #[.slice A k c] 27))
          have HOK := Lib.hid (own_chV hL2.d ((Ch.refl [] wr).alloc (.cells #[.slice A k c] 27)) (by simp))
          rw [hrl] at HOK
          have HBL := Lib.hid (Blk.new wr 27 [.slice A k c])
          have hqc : ∀ q, (Value.slice (some ⟨g2, 0, none⟩) (idL (i + 1)).length cap).ownBlock = some q → (Value.slice A k c).ownBlock ≠ some q := fun q hq hq2 => by
            have h1 := (HL8.out.c.lt q hq).2
            have h2 := (hown.lt q hq2).1
            omega
          have HLA := Lib.hid hLa; have HOQ := Lib.hid hoq; have HQC := Lib.hid hqc
          clear hown hB hL2 hoq hLa hqc hrl
          go_wp2_with (at_builtin; refine wpList_push _ rfl (.tmp 47) (.tmp 49) 28 rfl w.heap.size 27 (.slice none 0 0) 24 Tryz.underlying28 info_rowO rfl D i d (rows.map valR) rfl HOK.out wr.heap.size 1 (.slice A k c) rfl (HBL.out.at_ rfl) rfl (by omega) (by omega) (by simp; omega) ?_)
          intro g7 cp7 w7 ho7 hg7 hor7
          have hrl := HRL.out
          have hkk := rowLn_len k i
          have hp := LN.pushD (g := g7) (cap := cp7) (q := ⟨A, c, rowLn k i⟩) HLA.out (by simp only [hkk]; exact HOQ.out) (by simp only [hkk]; exact HQC.out) (by rw [hrl]; exact hg7) (by simp; omega) (by rw [hrl]; simp only [valR, hkk]; exact ho7)
          obtain ⟨hb5, hL7⟩ := hp
          rw [hrl] at hb5 hL7
          have m3' := hb5.at_ (i := 3) rfl
          have f3' := hb5.frozen 3
          have HL7 := Lib.hid hL7
          clear hb5 hL7 ho7 hg7 hor7 HOK HBL HLA HOQ HQC m3 hrl hkk
          go_wp2_with fail
          go_roundw
          case rel => exact ⟨i + 1, some ⟨g2, 0, none⟩, cap, rows ++ [⟨A, c, rowLn k i⟩], some ⟨g7, 0, none⟩, cp7, by omega, by go_num, HL7.out, by rw [List.map_append, HROW.out, rowsLn_succ]; rfl⟩
          case measure => simp [intOf]; omega
    · obtain rfl : i = n := by omega
      have m0 := hL.t5.at_ (i := 0) rfl
      have m1 := hL.t5.at_ (i := 1) rfl
      have m2 := hL.t5.at_ (i := 2) rfl
      have m3 := hL.t5.at_ (i := 3) rfl
      have j0 := hL.t4.at_ (i := 0) rfl
      have j1 := hL.t4.at_ (i := 1) rfl
      have j2 := hL.t4.at_ (i := 2) rfl
      have j3 := hL.t4.at_ (i := 3) rfl
      have f0 := hL.t4.frozen 0
      have f1 := hL.t4.frozen 1
      have f2 := hL.t4.frozen 2
      have f3 := hL.t4.frozen 3
      have hn5 := hL.ne
      have hz : Blk ((((wr.setCell ⟨w.heap.size, 0, none⟩ (.int .i64 (i : Int))).setCell ⟨w.heap.size, 1, none⟩ (.int .i64 F)).setCell ⟨w.heap.size, 2, none⟩ (.slice ca (idL i).length cc)).setCell ⟨w.heap.size, 3, none⟩ (.slice D rows.length d)) w.heap.size 30 [.int .i64 (i : Int), .int .i64 F, .slice ca (idL i).length cc, .slice D rows.length d] :=
        (((hL.t4.set_ 0 _).set_ 1 _).set_ 2 _).set_ 3 _
      have hcz : Ch [w.heap.size] wr ((((wr.setCell ⟨w.heap.size, 0, none⟩ (.int .i64 (i : Int))).setCell ⟨w.heap.size, 1, none⟩ (.int .i64 F)).setCell ⟨w.heap.size, 2, none⟩ (.slice ca (idL i).length cc)).setCell ⟨w.heap.size, 3, none⟩ (.slice D rows.length d)) :=
        ((((Ch.refl [w.heap.size] wr).set (p := ⟨w.heap.size, 0, none⟩) (by simp) _).set (p := ⟨w.heap.size, 1, none⟩) (by simp) _).set (p := ⟨w.heap.size, 2, none⟩) (by simp) _).set (p := ⟨w.heap.size, 3, none⟩) (by simp) _
      have hTT := inT_LN hL hcz
      have hOO := rows_LN hL hcz
      have hBz := bel_ch hL.bel hcz (by simp)
      have HZ := Lib.hid hz; have HTT := Lib.hid hTT; have HOO := Lib.hid hOO; have HBZ := Lib.hid hBz; have HROW := Lib.hid hrow
      clear hz hcz hTT hOO hBz hL hrow hrl hil
      go_wp2_with fail
      exact bodyPost_ret (results_cell_row Tryz.results6 _ _ w.heap.size 30 _ (0, 0) _ rfl HZ.out Tryz.underlying30 rfl (by kernel_rfl)) rfl ⟨⟨(i : Int), F, ca, cc, idL i, D, d, rows⟩, rfl, HTT.out, rfl, rfl, rfl, HROW.out, HBZ.out, HOO.out⟩
theorem line_top (n : Nat) (hn : n ≤ 8) (F : Int) (w : World) : Calls Tryz.prog 6 #[.int .i64 (n : Int), .int .i64 F] w fun e w' => ∃ t : TopoV, e = .returned t.val ∧ InTopo w' t ∧ t.N = (n : Int) ∧ t.F = F ∧ t.cs = idL n ∧ t.ds.map RowV.zs = rowsLn n n ∧ Below w.heap.size w w' :=
  (line_own n hn F w).mono fun e w' ⟨t, h1, h2, h3, h4, h5, h6, h7, _⟩ => ⟨t, h1, h2, h3, h4, h5, h6, h7⟩
end Go.Proofs.YtjdbedoabcbeeaaGreatDoor
