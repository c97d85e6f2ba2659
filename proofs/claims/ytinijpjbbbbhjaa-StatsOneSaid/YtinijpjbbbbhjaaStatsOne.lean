/- The law StatsOne. -/
import Derived.Test.YtinijpjbbbbhjaaStatsIn
import Derived.Test.YtinijpjbbbbhjaaPut
import Derived.Lib.SmallJoins
namespace Go.Proofs.Ytinijpjbbbbhjaa
open Go.RowKit
set_option linter.unusedVariables false
set_option linter.unusedSimpArgs false
attribute [local go_sem] World.cell?_alloc_lt

theorem open_one {H : Type} {enc : TypeId × Value → H} {W : World} {base : Nat} {held : Bool} {r : Reach} {b0 : Nat} {v : Value} {d : DataW H} {p : List MemPlace} (hv : Value.okWide Try.prog W r b0 38 v) (h : DataW.Trod enc Try.prog W base (fun _ => true) held 38 v d p) :
    ∃ x : Ev, v = evV x := by
  obtain ⟨v0, v1, v2, v3, y0, y1, y2, y3, k, rfl, _, _, h0, h1, h2, h3⟩ := Go.Joins.open_agg4 Try.underlying38 (by kernel_rfl) (by kernel_rfl) hv h
  obtain ⟨n, e0, _, _⟩ := DataW.trod_int Try.underlying3 h0
  obtain ⟨s, e1, _, _⟩ := DataW.trod_int Try.underlying3 h1
  obtain ⟨o, e2, _, _⟩ := DataW.trod_int Try.underlying3 h2
  obtain ⟨il, e3, _⟩ := DataW.trod_bool Try.underlying4 h3
  simp only [List.cons.injEq, and_true] at e0 e1 e2 e3
  subst e0 e1 e2 e3
  exact ⟨⟨n, s, o, il⟩, rfl⟩
theorem LogAt.dr {w : World} {b g c n d : Nat} {A : Option Addr} {l : List Ev} (h : LogAt w b g c n A d l) : LogAt w.drew b g c n A d l := h.below (bel_drew (Below.refl _ _))
/-- The counts that were stored: those of the first i nodes. -/
def WasAt (w : World) (q : Nat) (l : List Ev) (i : Nat) : Prop := ∃ cs : List Value, Blk w q 43 cs ∧ cs.length = 48 ∧ ∀ k j, k < i → j < 6 → cs[k * 6 + j]? = some (.int .i64 (cc l k j : Nat))
theorem WasAt.ch {S : List Nat} {w w' : World} {q i : Nat} {l : List Ev} (h : WasAt w q l i) (k : Ch S w w') (hq : q ∉ S) : WasAt w' q l i := by
  obtain ⟨cs, hb, hr⟩ := h
  exact ⟨cs, hb.ch k hq, hr⟩
theorem WasAt.below {w w' : World} {q i : Nat} {l : List Ev} (h : WasAt w q l i) (k : Below w.heap.size w w') : WasAt w' q l i := h.ch (Ch.below k []) (by simp)
theorem WasAt.lt {w : World} {q i : Nat} {l : List Ev} (h : WasAt w q l i) : q < w.heap.size := by
  obtain ⟨cs, hb, _⟩ := h
  exact hb.lt
theorem WasAt.get {w : World} {q i : Nat} {l : List Ev} (h : WasAt w q l i) (k j : Nat) (hk : k < i) (hj : j < 6) : w.cell? ⟨q, k * 6 + j, none⟩ = some (.int .i64 (cc l k j : Nat)) := by
  obtain ⟨cs, hb, _, hr⟩ := h
  exact hb.at_ (hr k j hk hj)
def sixV (l : List Ev) (k : Int) : List Value := [.int .i64 (cc l k 0 : Nat), .int .i64 (cc l k 1 : Nat), .int .i64 (cc l k 2 : Nat), .int .i64 (cc l k 3 : Nat), .int .i64 (cc l k 4 : Nat), .int .i64 (cc l k 5 : Nat)]
theorem six_one (l : List Ev) (k : Int) : ∀ v ∈ sixV l k, v.oneCell' = true := by
  intro v hv
  unfold sixV at hv
  simp at hv
  rcases hv with rfl | rfl | rfl | rfl | rfl | rfl <;> rfl
theorem info_counts_size : (Try.prog.info? 24).map (·.size) = some 6 := by kernel_rfl
/-- was[i] = the counts of node i. -/
theorem wpList_store_was (w : World) {ops : Array Oper} {rest : List Oper} {o : Oper} {a : Act} {Q : Exit → Act → World → Prop} (hgd : o.guard = none) (x y : Operand) (ho : o.op = .store 24 x y)
    {q i : Nat} {l : List Ev} (hW : WasAt w q l i) (hi : i < 8) (hx : a.eval x = .pointer (some ⟨q, i * 6, none⟩)) (hy : a.eval y = .agg (sixV l i).toArray)
    (h : ∀ w', WasAt w' q l (i + 1) → Ch [q] w w' → wpList Try.prog ops Q rest (a.put o.dst undef) w') : wpList Try.prog ops Q (o :: rest) a w := by
  obtain ⟨cs, hb, hl, hr⟩ := hW
  obtain ⟨hb2, hch⟩ := Blk.setCells (sixV l i) cs (i * 6) w hb
  refine wpList_store_mid hgd 24 x y ho q (i * 6) _ hx hy ?_ (by rw [info_counts_size]; rfl) (all_oneCell_toArray (six_one l i)) ?_
  · exact blk_there hb _ _ (by rw [hl]; show i * 6 + 6 ≤ 48; omega)
  · refine h _ ⟨_, hb2, by rw [putL_len]; exact hl, fun k j hk hj => ?_⟩ hch
    rw [putL_get _ _ _ _ (by rw [hl]; show i * 6 + 6 ≤ 48; omega)]
    by_cases e : k = i
    · subst e
      rw [if_pos ⟨by omega, by show k * 6 + j < k * 6 + 6; omega⟩, show k * 6 + j - k * 6 = j from by omega]
      rcases (by omega : j = 0 ∨ j = 1 ∨ j = 2 ∨ j = 3 ∨ j = 4 ∨ j = 5) with rfl | rfl | rfl | rfl | rfl | rfl <;> rfl
    · rw [if_neg (by show ¬ (i * 6 ≤ k * 6 + j ∧ k * 6 + j < i * 6 + 6); omega)]
      exact hr k j (by omega) hj
theorem idx_was (q i : Nat) (hi : i < 8) (w : World) : (Instr.indexAt 43 (.pointer (some ⟨q, 0, none⟩)) (.int .i64 (i : Int))).run Try.prog w = .ok (.pointer (some ⟨q, i * 6, none⟩)) w := by
  have h : (i : Int) < 8 := by omega
  simp [go_sem, hi, h]
theorem i64_sm {n : Int} (h0 : -9223372036854775808 ≤ n) (h1 : n ≤ 9223372036854775807) : IntKind.i64.wrap n = n := by
  simp only [IntKind.wrap]
  simp [IntKind.signed, IntKind.bits]
  omega
/-- The events so far. -/
def firstE (E : Nat → Ev) (i : Nat) : List Ev := flt ((List.range i).map E) 8
theorem firstE_succ (E : Nat → Ev) (i : Nat) : firstE E (i + 1) = addL (firstE E i) (E i) 8 := by
  unfold firstE
  rw [List.range_succ, List.map_append, List.map_singleton, flt_snoc]
theorem firstE_le (E : Nat → Ev) (i : Nat) : (firstE E i).length ≤ i := by
  have := flt_le ((List.range i).map E) 8
  simp at this
  exact this
set_option maxRecDepth 100000 in
set_option maxHeartbeats 3000000 in
theorem statsOne_walk (w0 : World) (a : Option Addr) (len cap : Nat) (E : Nat → Ev) (hs : InEv w0 a len E) (x : Ev) :
    Calls Try.prog 4 #[.slice a len cap, evV x] w0 fun e w' => e = .returned (.bool true) ∧ Below w0.heap.size w0 w' := by
  obtain ⟨xn, xs, xo, xi⟩ := x
  have hsm := hs.mx
  show Calls Try.prog 4 #[.slice a len cap, .agg #[.int .i64 xn, .int .i64 xs, .int .i64 xo, .bool xi]] w0 _
  go_enter Try.func4, Try.ntmps4
  go_wp2_with fail
  have hX := Blk.new w0 38 [.int .i64 xn, .int .i64 xs, .int .i64 xo, .bool xi]
  have hBa := bel_alloc (Below.refl w0.heap.size w0) (.cells #[.int .i64 xn, .int .i64 xs, .int .i64 xo, .bool xi] 38)
  refine (log_new 8 _ (by omega) (by omega)).mono ?_; rintro e w1 ⟨g, bc, rfl, hG, hc⟩
  obtain ⟨bs, hbs⟩ : ∃ bs, bs = (w0.alloc (.cells #[.int .i64 xn, .int .i64 xs, .int .i64 xo, .bool xi] 38)).heap.size := ⟨_, rfl⟩
  rw [← hbs] at hG
  have hbs1 : bs = w0.heap.size + 1 := by rw [hbs]; simp
  have hX := hX.below hc
  have hB := bel_trans hBa hc
  have hb1 := hc.size
  rw [← hbs] at hb1
  clear hc hBa hbs
  go_wp2_with fail
  refine (counts_any w1).mono ?_; rintro e w2 ⟨rfl, hc⟩
  have hG := hG.below hc
  have hX := hX.below hc
  have hB := bel_trans hB hc
  have hb2 := hc.size
  clear hc
  have x0 := hX.at_ (i := 0) rfl; have x1 := hX.at_ (i := 1) rfl; have x2 := hX.at_ (i := 2) rfl; have x3 := hX.at_ (i := 3) rfl
  go_wp2_with fail
  refine (right_any ⟨xn, xs, xo, xi⟩ 8 w2).mono ?_; rintro e w3 ⟨rfl, hc⟩
  have hG := hG.below hc
  have hX := hX.below hc
  have hB := bel_trans hB hc
  have hb3 := hc.size
  clear hc x0 x1 x2 x3
  by_cases hr : Ev.right ⟨xn, xs, xo, xi⟩ 8 = true
  · rw [hr]
    have hadd : addE ⟨xn, xs, xo, xi⟩ 8 = 0 := by unfold addE; rw [if_pos hr]
    have haddl : ∀ l, addL l ⟨xn, xs, xo, xi⟩ 8 = l ++ [⟨xn, xs, xo, xi⟩] := fun l => by unfold addL; rw [if_pos hr]
    have HAD := Lib.hid hadd; have HAL := Lib.hid haddl; clear hadd haddl
    unfold Ev.right at hr
    simp only [decide_eq_true_eq] at hr
    obtain ⟨r0, r1, r2, r3, r4, r5⟩ := hr
    obtain ⟨xn, rfl⟩ := Int.eq_ofNat_of_zero_le r0
    obtain ⟨xs, rfl⟩ := Int.eq_ofNat_of_zero_le r2
    clear r0 r2
    go_wp2_with fail
    go_loopw [7] (fun vi wx => ∃ (i : Nat) (A : Option Addr) (c : Nat), i ≤ len ∧ i ≤ 30 ∧ vi = .int .i64 i ∧ LogAt wx bs g bc 8 A c (firstE E i) ∧ Blk wx w0.heap.size 38 [.int .i64 (xn : Int), .int .i64 (xs : Int), .int .i64 xo, .bool xi] ∧ Below w0.heap.size w0 wx ∧ bs ≤ wx.heap.size) (fun vi _ => 30 - (intOf vi).toNat)
    case atStart => exact ⟨0, none, 0, by omega, by omega, rfl, hG, hX, hB, by omega⟩
    case round =>
      clear hG hX hB hb1 hb2 hb3
      obtain ⟨i, A, c, hi, hi30, rfl, hG, hX, hB, hbw⟩ := hrel
      have hfl := firstE_le E i
      rcases (by omega : (i < len ∧ i < 30) ∨ (i < len ∧ 30 ≤ i) ∨ len ≤ i) with ⟨hil, hi3⟩ | ⟨hil, hi3⟩ | hil
      · obtain ⟨bx, ox, rfl, hbx, hcell⟩ := hs.at_ (by omega)
        obtain ⟨y0, y1, y2, y3⟩ := hcell i hil
        replace y0 := (hB.cell (p := ⟨bx, ox + i * 4, none⟩) hbx).trans y0
        replace y1 := (hB.cell (p := ⟨bx, ox + i * 4 + 1, none⟩) hbx).trans y1
        replace y2 := (hB.cell (p := ⟨bx, ox + i * 4 + 2, none⟩) hbx).trans y2
        replace y3 := (hB.cell (p := ⟨bx, ox + i * 4 + 3, none⟩) hbx).trans y3
        have hia := fun w => idx_ev (b := bx) (off := ox) (cap := cap) rfl hil w
        have hi0 : (0 : Int) ≤ (i : Int) := Int.natCast_nonneg _
        have hi1 : (i : Int) < (len : Int) := by omega
        have hE := firstE_succ E i
        have HE := Lib.hid hE; clear hE hcell
        generalize firstE E i = l at *
        generalize E i = y at *
        obtain ⟨yn, ys, yo, yi⟩ := y
        simp only at y0 y1 y2 y3
        have hrow := hG.row_lt
        go_wp2_with fail
        go_region_held3 (fun w' => w'.cell? ⟨bx, ox + i * 4, none⟩ = some (.int .i64 yn) ∧ w'.cell? ⟨bx, ox + i * 4 + 1, none⟩ = some (.int .i64 ys) ∧ w'.cell? ⟨bx, ox + i * 4 + 2, none⟩ = some (.int .i64 yo) ∧ w'.cell? ⟨bx, ox + i * 4 + 3, none⟩ = some (.bool yi))
          (first | go_keep | exact ⟨(hB5.cell (p := ⟨bx, ox + i * 4, none⟩) hbx).trans z0, (hB5.cell (p := ⟨bx, ox + i * 4 + 1, none⟩) hbx).trans z1, (hB5.cell (p := ⟨bx, ox + i * 4 + 2, none⟩) hbx).trans z2, (hB5.cell (p := ⟨bx, ox + i * 4 + 3, none⟩) hbx).trans z3⟩)
          ((go_at_call 11; refine (add_any bs g bc 8 c A l ⟨yn, ys, yo, yi⟩ _ (by first | exact hG | exact hG.dr) (by simp; omega) (by omega)).mono ?_; rintro e w5 ⟨rfl, A', c', hA⟩; have hB5 : Below w0.heap.size w0 w5 := hA.bel (fun z hz => (hrow z hz).2) (by omega) (by first | exact hB | exact bel_drew hB); have z0 := (hB.cell (p := ⟨bx, ox + i * 4, none⟩) hbx).symm.trans y0; have z1 := (hB.cell (p := ⟨bx, ox + i * 4 + 1, none⟩) hbx).symm.trans y1; have z2 := (hB.cell (p := ⟨bx, ox + i * 4 + 2, none⟩) hbx).symm.trans y2; have z3 := (hB.cell (p := ⟨bx, ox + i * 4 + 3, none⟩) hbx).symm.trans y3))
        all_goals
          have hX5 := hX.ch (show Ch (g :: bc :: rowOf A) wr w5 from ⟨hA.ch.os, hA.ch.tape, hA.ch.output, hA.ch.size, hA.ch.block⟩) (by
            simp only [List.mem_cons, not_or]
            have h1 := hG.gb; have h2 := hG.cb
            exact ⟨by omega, by omega, fun hm => by have := (hrow _ hm).2; omega⟩)
          have hs5 : wr.heap.size ≤ w5.heap.size := hA.ch.size
          have hG5 := hA.log
          rw [← HE.out] at hG5
          clear hA hG hX hB y0 y1 y2 y3 z0 z1 z2 z3
          go_wp2
          go_roundw
          case rel => exact ⟨i + 1, A', c', by omega, by omega, by go_num, hG5, hX5, hB5, by omega⟩
          case measure => simp [intOf]; omega
      all_goals
        generalize firstE E i = l at *
        have hrow := hG.row_lt
        have hgl := hG.st.lt
        have hcl := hG.ctlt
        have hxl := hX.lt
        have hl30 : l.length ≤ 30 := by omega
        go_wp2_with fail
        obtain ⟨q, hq⟩ : ∃ q, q = wr.heap.size := ⟨_, rfl⟩
        rw [← hq]
        have hgq : g ≠ q := by omega
        have hcq : bc ≠ q := by omega
        have hxq : w0.heap.size ≠ q := by omega
        have hq0 : w0.heap.size ≤ q := by omega
        have hrq : ∀ z ∈ rowOf A, z ∉ [q] := fun z hz => by have := (hrow z hz).1; simp; omega
        have HQ := Lib.hid hq; clear hq
        go_loopw [9] (fun vk wx => ∃ k : Nat, k ≤ 8 ∧ vk = .int .i64 k ∧ LogAt wx bs g bc 8 A c l ∧ WasAt wx q l k ∧ Blk wx w0.heap.size 38 [.int .i64 (xn : Int), .int .i64 (xs : Int), .int .i64 xo, .bool xi] ∧ Below w0.heap.size w0 wx ∧ bs ≤ wx.heap.size) (fun vk _ => 8 - (intOf vk).toNat)
        case atStart => exact ⟨0, by omega, rfl, hG.below (bel_alloc (Below.refl _ _) _), by rw [HQ.out]; exact ⟨_, Blk.new _ _ _, rfl, fun k j hk => by omega⟩, hX.alloc _, bel_alloc hB _, by simp; omega⟩
        case round =>
          clear hG hX hB hbw hgl hcl hxl
          obtain ⟨k, hk, rfl, hG, hW, hX, hB, hbw⟩ := hrel
          by_cases hk8 : k < 8
          · have hix := fun w => idx_was q k hk8 w
            go_wp2_with fail
            refine (node_yes bs g bc 8 c A l k _ hG hk8).mono ?_; rintro e w5 ⟨rfl, hc⟩
            rw [show cntV l (k : Int) = .agg (sixV l k).toArray from rfl]
            have hG5 := hG.below hc
            have hW5 := hW.below hc
            have hX5 := hX.below hc
            have hB5 := bel_trans hB hc
            have hs5 := hc.size
            clear hc hG hW hX hB
            go_wp2_with (with_reducible refine wpList_store_was _ rfl _ _ rfl hW5 hk8 rfl rfl ?_)
            intro w6 hW6 hc6
            have hG6 := hG5.chS hc6 (by simpa using hgq) (by simpa using hcq) hrq
            have hX6 := hX5.ch hc6 (by simpa using hxq)
            have hB6 := bel_ch hB5 hc6 (by simpa using hq0)
            have hs6 := hc6.size
            clear hc6 hG5 hW5 hX5 hB5 hix
            go_wp2
            go_roundw
            case rel => exact ⟨k + 1, by omega, by go_num, hG6, hW6, hX6, hB6, by omega⟩
            case measure => simp [intOf]; omega
          · obtain rfl : k = 8 := by omega
            go_wp2_with fail
            refine (events_any bs g bc 8 c A l _ hG).mono ?_; rintro e w5 ⟨A1, c1, rfl, _, hc⟩
            have hG5 := hG.below hc
            have hW5 := hW.below hc
            have hX5 := hX.below hc
            have hB5 := bel_trans hB hc
            have hs5 := hc.size
            clear hc hG hW hX hB
            have x0 := hX5.at_ (i := 0) rfl; have x1 := hX5.at_ (i := 1) rfl; have x2 := hX5.at_ (i := 2) rfl; have x3 := hX5.at_ (i := 3) rfl
            go_wp2_with fail
            refine (add_any bs g bc 8 c A l ⟨xn, xs, xo, xi⟩ _ hG5 (by omega) (by omega)).mono ?_; rintro e w6 ⟨rfl, A', c', hA⟩
            rw [HAD.out]
            have hG6 := hA.log
            rw [HAL.out] at hG6
            have hW6 := hW5.ch hA.ch (by
              simp only [List.mem_cons, not_or]
              exact ⟨fun e => hgq e.symm, fun e => hcq e.symm, fun hm => hrq _ hm (by simp)⟩)
            have hX6 := hX5.ch hA.ch (by
              simp only [List.mem_cons, not_or]
              have h1 := hG5.gb; have h2 := hG5.cb
              exact ⟨by omega, by omega, fun hm => by have := (hrow _ hm).2; omega⟩)
            have hB6 := hA.bel (fun z hz => (hrow z hz).2) (by omega) hB5
            clear hA hG5 hW5 hX5 hB5 x0 x1 x2 x3 hgq hcq hxq hrq hrow
            have hll : (l ++ [(⟨xn, xs, xo, xi⟩ : Ev)]).length = l.length + 1 := by simp
            have HLL := Lib.hid hll; clear hll
            have hcs := fun k j => cc_snoc l (⟨xn, xs, xo, xi⟩ : Ev) k j
            have HCS := Lib.hid hcs; clear hcs
            generalize l ++ [(⟨xn, xs, xo, xi⟩ : Ev)] = m at *
            go_wp2_with fail
            go_loopw [11] (fun vk wx => ∃ k : Nat, k ≤ 8 ∧ vk = .int .i64 k ∧ LogAt wx bs g bc 8 A' c' m ∧ WasAt wx q l 8 ∧ Blk wx w0.heap.size 38 [.int .i64 (xn : Int), .int .i64 (xs : Int), .int .i64 xo, .bool xi] ∧ Below w0.heap.size w0 wx) (fun vk _ => 8 - (intOf vk).toNat)
            case atStart => exact ⟨0, by omega, rfl, hG6, hW6, hX6, hB6⟩
            case round =>
              clear hG6 hW6 hX6 hB6
              obtain ⟨k, hk, rfl, hG, hW, hX, hB⟩ := hrel
              by_cases hk8 : k < 8
              · have hix := fun w => idx_was q k hk8 w
                have hk0 : (0 : Int) ≤ (k : Int) := Int.natCast_nonneg _
                have hk1 : (k : Int) < 8 := by omega
                go_wp2_with fail
                refine (node_yes bs g bc 8 c' A' m k _ hG hk8).mono ?_; rintro e w7 ⟨rfl, hc⟩
                have hG7 := hG.below hc
                have hW7 := hW.below hc
                have hX7 := hX.below hc
                have hB7 := bel_trans hB hc
                clear hc hG hW hX hB
                have s0 := HCS.out k 0; have s1 := HCS.out k 1; have s2 := HCS.out k 2; have s3 := HCS.out k 3; have s4 := HCS.out k 4; have s5 := HCS.out k 5
                have b0 := cc_le l k 0; have b1 := cc_le l k 1
                unfold cntV
                have q0 := hW7.get k 0 hk8 (by omega); have q1 := hW7.get k 1 hk8 (by omega); have q2 := hW7.get k 2 hk8 (by omega); have q3 := hW7.get k 3 hk8 (by omega); have q4 := hW7.get k 4 hk8 (by omega); have q5 := hW7.get k 5 hk8 (by omega)
                rw [Nat.add_zero] at q0
                have hql := hW7.lt
                by_cases e1 : (k : Int) = (xn : Int)
                · have t1 : ((k : Int) != (xn : Int)) = false := by rw [bne_eq_false_iff_eq]; exact e1
                  have t2 : ((k : Int) == (xn : Int)) = true := by rw [beq_iff_eq]; exact e1
                  have hsum : cc m k 0 + cc m k 1 = cc l k 0 + cc l k 1 + 1 := by
                    rw [s0, s1]
                    by_cases e3 : (xs : Int) = (k : Int)
                    · simp [inc, e1.symm, e3]; omega
                    · simp [inc, e1.symm, e3]; omega
                  have hb0 : cc m k 0 ≤ 40 := by omega
                  have hb1 : cc m k 1 ≤ 40 := by omega
                  clear s0 s1 s2 s3 s4 s5 e1
                  generalize cc m k 0 = m0 at *
                  generalize cc m k 1 = m1 at *
                  generalize cc m k 2 = m2 at *
                  generalize cc m k 3 = m3 at *
                  generalize cc m k 4 = m4 at *
                  generalize cc m k 5 = m5 at *
                  generalize cc l k 0 = n0 at *
                  generalize cc l k 1 = n1 at *
                  generalize cc l k 2 = n2 at *
                  generalize cc l k 3 = n3 at *
                  generalize cc l k 4 = n4 at *
                  generalize cc l k 5 = n5 at *
                  have hneq : (((m0 : Int) + (m1 : Int)) != ((n0 : Int) + (n1 : Int) + 1)) = false := by rw [bne_eq_false_iff_eq]; omega
                  have v1 : IntKind.i64.wrap ((m0 : Int) + (m1 : Int)) = (m0 : Int) + (m1 : Int) := i64_sm (by omega) (by omega)
                  have v2 : IntKind.i64.wrap ((n0 : Int) + (n1 : Int)) = (n0 : Int) + (n1 : Int) := i64_sm (by omega) (by omega)
                  have v3 : IntKind.i64.wrap ((n0 : Int) + (n1 : Int) + 1) = (n0 : Int) + (n1 : Int) + 1 := i64_sm (by omega) (by omega)
                  have HSUM := Lib.hid hsum; clear hsum
                  go_wp2_with fail
                  have P := Blk.new w7 24 [.int .i64 (m0 : Int), .int .i64 (m1 : Int), .int .i64 (m2 : Int), .int .i64 (m3 : Int), .int .i64 (m4 : Int), .int .i64 (m5 : Int)]
                  have hG8 := hG7.below (bel_alloc (Below.refl _ _) (.cells #[.int .i64 (m0 : Int), .int .i64 (m1 : Int), .int .i64 (m2 : Int), .int .i64 (m3 : Int), .int .i64 (m4 : Int), .int .i64 (m5 : Int)] 24))
                  have hW8 := hW7.below (bel_alloc (Below.refl _ _) (.cells #[.int .i64 (m0 : Int), .int .i64 (m1 : Int), .int .i64 (m2 : Int), .int .i64 (m3 : Int), .int .i64 (m4 : Int), .int .i64 (m5 : Int)] 24))
                  have hX8 := hX7.alloc (.cells #[.int .i64 (m0 : Int), .int .i64 (m1 : Int), .int .i64 (m2 : Int), .int .i64 (m3 : Int), .int .i64 (m4 : Int), .int .i64 (m5 : Int)] 24)
                  have hB8 := bel_alloc hB7 (.cells #[.int .i64 (m0 : Int), .int .i64 (m1 : Int), .int .i64 (m2 : Int), .int .i64 (m3 : Int), .int .i64 (m4 : Int), .int .i64 (m5 : Int)] 24)
                  have p0 := P.at_ (i := 0) rfl; have p1 := P.at_ (i := 1) rfl; have p2 := P.at_ (i := 2) rfl; have p3 := P.at_ (i := 3) rfl; have p4 := P.at_ (i := 4) rfl; have p5 := P.at_ (i := 5) rfl
                  have x0 := hX8.at_ (i := 0) rfl; have x1 := hX8.at_ (i := 1) rfl
                  replace q0 := (World.cell?_alloc_lt w7 (.cells #[.int .i64 (m0 : Int), .int .i64 (m1 : Int), .int .i64 (m2 : Int), .int .i64 (m3 : Int), .int .i64 (m4 : Int), .int .i64 (m5 : Int)] 24) _ hql).trans q0
                  replace q1 := (World.cell?_alloc_lt w7 (.cells #[.int .i64 (m0 : Int), .int .i64 (m1 : Int), .int .i64 (m2 : Int), .int .i64 (m3 : Int), .int .i64 (m4 : Int), .int .i64 (m5 : Int)] 24) _ hql).trans q1
                  replace q2 := (World.cell?_alloc_lt w7 (.cells #[.int .i64 (m0 : Int), .int .i64 (m1 : Int), .int .i64 (m2 : Int), .int .i64 (m3 : Int), .int .i64 (m4 : Int), .int .i64 (m5 : Int)] 24) _ hql).trans q2
                  replace q3 := (World.cell?_alloc_lt w7 (.cells #[.int .i64 (m0 : Int), .int .i64 (m1 : Int), .int .i64 (m2 : Int), .int .i64 (m3 : Int), .int .i64 (m4 : Int), .int .i64 (m5 : Int)] 24) _ hql).trans q3
                  replace q4 := (World.cell?_alloc_lt w7 (.cells #[.int .i64 (m0 : Int), .int .i64 (m1 : Int), .int .i64 (m2 : Int), .int .i64 (m3 : Int), .int .i64 (m4 : Int), .int .i64 (m5 : Int)] 24) _ hql).trans q4
                  replace q5 := (World.cell?_alloc_lt w7 (.cells #[.int .i64 (m0 : Int), .int .i64 (m1 : Int), .int .i64 (m2 : Int), .int .i64 (m3 : Int), .int .i64 (m4 : Int), .int .i64 (m5 : Int)] 24) _ hql).trans q5
                  have HG8 := Lib.hid hG8; have HW8 := Lib.hid hW8; have HX8 := Lib.hid hX8; have HB8 := Lib.hid hB8
                  clear hG7 hW7 hX7 hB7 hG8 hW8 hX8 hB8 P
                  generalize hw8 : w7.alloc (.cells #[.int .i64 (m0 : Int), .int .i64 (m1 : Int), .int .i64 (m2 : Int), .int .i64 (m3 : Int), .int .i64 (m4 : Int), .int .i64 (m5 : Int)] 24) = w8 at *
                  clear hw8
                  refine wp_region_quiet_lit (by kernel_rfl) (by kernel_rfl) ?_
                  repeat (first | go_big_quiet_step (fail) | quiet_step (fail))
                  refine wpQuiet_nil ?_; intro _ hw'; obtain ⟨nq, hw''⟩ := hw'; subst hw''
                  go_wp2_with fail
                  refine wp_region_quiet_lit (by kernel_rfl) (by kernel_rfl) ?_
                  repeat (first | go_big_quiet_step (fail) | quiet_step (fail))
                  refine wpQuiet_nil ?_; intro _ hw'; obtain ⟨nq, hw''⟩ := hw'; subst hw''
                  go_wp2_with fail
                  go_roundw
                  case rel => exact ⟨k + 1, by omega, by go_num, HG8.out.dn _, HW8.out.below (bel_drewN (Below.refl _ _) _), HX8.out.drewN _, bel_drewN HB8.out _⟩
                  case measure => simp [intOf]; omega
                · have t1 : ((k : Int) != (xn : Int)) = true := by rw [bne_iff_ne]; exact e1
                  have t2 : ((k : Int) == (xn : Int)) = false := by rw [beq_eq_false_iff_ne]; exact e1
                  by_cases e2 : (k : Int) = (xs : Int)
                  · have t3 : ((k : Int) != (xs : Int)) = false := by rw [bne_eq_false_iff_eq]; exact e2
                    clear s0 s1 s2 s3 s4 s5 e1 e2
                    generalize cc m k 0 = m0 at *
                    generalize cc m k 1 = m1 at *
                    generalize cc m k 2 = m2 at *
                    generalize cc m k 3 = m3 at *
                    generalize cc m k 4 = m4 at *
                    generalize cc m k 5 = m5 at *
                    generalize cc l k 0 = n0 at *
                    generalize cc l k 1 = n1 at *
                    generalize cc l k 2 = n2 at *
                    generalize cc l k 3 = n3 at *
                    generalize cc l k 4 = n4 at *
                    generalize cc l k 5 = n5 at *
                    go_wp2_with fail
                    have P := Blk.new w7 24 [.int .i64 (m0 : Int), .int .i64 (m1 : Int), .int .i64 (m2 : Int), .int .i64 (m3 : Int), .int .i64 (m4 : Int), .int .i64 (m5 : Int)]
                    have hG8 := hG7.below (bel_alloc (Below.refl _ _) (.cells #[.int .i64 (m0 : Int), .int .i64 (m1 : Int), .int .i64 (m2 : Int), .int .i64 (m3 : Int), .int .i64 (m4 : Int), .int .i64 (m5 : Int)] 24))
                    have hW8 := hW7.below (bel_alloc (Below.refl _ _) (.cells #[.int .i64 (m0 : Int), .int .i64 (m1 : Int), .int .i64 (m2 : Int), .int .i64 (m3 : Int), .int .i64 (m4 : Int), .int .i64 (m5 : Int)] 24))
                    have hX8 := hX7.alloc (.cells #[.int .i64 (m0 : Int), .int .i64 (m1 : Int), .int .i64 (m2 : Int), .int .i64 (m3 : Int), .int .i64 (m4 : Int), .int .i64 (m5 : Int)] 24)
                    have hB8 := bel_alloc hB7 (.cells #[.int .i64 (m0 : Int), .int .i64 (m1 : Int), .int .i64 (m2 : Int), .int .i64 (m3 : Int), .int .i64 (m4 : Int), .int .i64 (m5 : Int)] 24)
                    have p0 := P.at_ (i := 0) rfl; have p1 := P.at_ (i := 1) rfl; have p2 := P.at_ (i := 2) rfl; have p3 := P.at_ (i := 3) rfl; have p4 := P.at_ (i := 4) rfl; have p5 := P.at_ (i := 5) rfl
                    have x0 := hX8.at_ (i := 0) rfl; have x1 := hX8.at_ (i := 1) rfl
                    replace q0 := (World.cell?_alloc_lt w7 (.cells #[.int .i64 (m0 : Int), .int .i64 (m1 : Int), .int .i64 (m2 : Int), .int .i64 (m3 : Int), .int .i64 (m4 : Int), .int .i64 (m5 : Int)] 24) _ hql).trans q0
                    replace q1 := (World.cell?_alloc_lt w7 (.cells #[.int .i64 (m0 : Int), .int .i64 (m1 : Int), .int .i64 (m2 : Int), .int .i64 (m3 : Int), .int .i64 (m4 : Int), .int .i64 (m5 : Int)] 24) _ hql).trans q1
                    replace q2 := (World.cell?_alloc_lt w7 (.cells #[.int .i64 (m0 : Int), .int .i64 (m1 : Int), .int .i64 (m2 : Int), .int .i64 (m3 : Int), .int .i64 (m4 : Int), .int .i64 (m5 : Int)] 24) _ hql).trans q2
                    replace q3 := (World.cell?_alloc_lt w7 (.cells #[.int .i64 (m0 : Int), .int .i64 (m1 : Int), .int .i64 (m2 : Int), .int .i64 (m3 : Int), .int .i64 (m4 : Int), .int .i64 (m5 : Int)] 24) _ hql).trans q3
                    replace q4 := (World.cell?_alloc_lt w7 (.cells #[.int .i64 (m0 : Int), .int .i64 (m1 : Int), .int .i64 (m2 : Int), .int .i64 (m3 : Int), .int .i64 (m4 : Int), .int .i64 (m5 : Int)] 24) _ hql).trans q4
                    replace q5 := (World.cell?_alloc_lt w7 (.cells #[.int .i64 (m0 : Int), .int .i64 (m1 : Int), .int .i64 (m2 : Int), .int .i64 (m3 : Int), .int .i64 (m4 : Int), .int .i64 (m5 : Int)] 24) _ hql).trans q5
                    have HG8 := Lib.hid hG8; have HW8 := Lib.hid hW8; have HX8 := Lib.hid hX8; have HB8 := Lib.hid hB8
                    clear hG7 hW7 hX7 hB7 hG8 hW8 hX8 hB8 P
                    generalize hw8 : w7.alloc (.cells #[.int .i64 (m0 : Int), .int .i64 (m1 : Int), .int .i64 (m2 : Int), .int .i64 (m3 : Int), .int .i64 (m4 : Int), .int .i64 (m5 : Int)] 24) = w8 at *
                    clear hw8
                    refine wp_region_quiet_lit (by kernel_rfl) (by kernel_rfl) ?_
                    repeat (first | go_big_quiet_step (fail) | quiet_step (fail))
                    refine wpQuiet_nil ?_; intro _ hw'; obtain ⟨nq, hw''⟩ := hw'; subst hw''
                    go_wp2_with fail
                    refine wp_region_quiet_lit (by kernel_rfl) (by kernel_rfl) ?_
                    repeat (first | go_big_quiet_step (fail) | quiet_step (fail))
                    refine wpQuiet_nil ?_; intro _ hw'; obtain ⟨nq, hw''⟩ := hw'; subst hw''
                    go_wp2_with fail
                    go_roundw
                    case rel => exact ⟨k + 1, by omega, by go_num, HG8.out.dn _, HW8.out.below (bel_drewN (Below.refl _ _) _), HX8.out.drewN _, bel_drewN HB8.out _⟩
                    case measure => simp [intOf]; omega
                  · have t3 : ((k : Int) != (xs : Int)) = true := by rw [bne_iff_ne]; exact e2
                    have e3 : ¬ (xn : Int) = (k : Int) := fun h => e1 h.symm
                    have e4 : ¬ (xs : Int) = (k : Int) := fun h => e2 h.symm
                    simp only [inc, e3, e4, decide_false, false_and, not_false_eq_true, and_false, Bool.false_eq_true, if_false, Nat.add_zero, ne_eq, Bool.false_and] at s0 s1 s2 s3 s4 s5
                    rw [s0, s1, s2, s3, s4, s5]
                    clear s0 s1 s2 s3 s4 s5 e1 e2 e3 e4
                    generalize cc l k 0 = n0 at *
                    generalize cc l k 1 = n1 at *
                    generalize cc l k 2 = n2 at *
                    generalize cc l k 3 = n3 at *
                    generalize cc l k 4 = n4 at *
                    generalize cc l k 5 = n5 at *
                    go_wp2_with fail
                    have P := Blk.new w7 24 [.int .i64 (n0 : Int), .int .i64 (n1 : Int), .int .i64 (n2 : Int), .int .i64 (n3 : Int), .int .i64 (n4 : Int), .int .i64 (n5 : Int)]
                    have hG8 := hG7.below (bel_alloc (Below.refl _ _) (.cells #[.int .i64 (n0 : Int), .int .i64 (n1 : Int), .int .i64 (n2 : Int), .int .i64 (n3 : Int), .int .i64 (n4 : Int), .int .i64 (n5 : Int)] 24))
                    have hW8 := hW7.below (bel_alloc (Below.refl _ _) (.cells #[.int .i64 (n0 : Int), .int .i64 (n1 : Int), .int .i64 (n2 : Int), .int .i64 (n3 : Int), .int .i64 (n4 : Int), .int .i64 (n5 : Int)] 24))
                    have hX8 := hX7.alloc (.cells #[.int .i64 (n0 : Int), .int .i64 (n1 : Int), .int .i64 (n2 : Int), .int .i64 (n3 : Int), .int .i64 (n4 : Int), .int .i64 (n5 : Int)] 24)
                    have hB8 := bel_alloc hB7 (.cells #[.int .i64 (n0 : Int), .int .i64 (n1 : Int), .int .i64 (n2 : Int), .int .i64 (n3 : Int), .int .i64 (n4 : Int), .int .i64 (n5 : Int)] 24)
                    have p0 := P.at_ (i := 0) rfl; have p1 := P.at_ (i := 1) rfl; have p2 := P.at_ (i := 2) rfl; have p3 := P.at_ (i := 3) rfl; have p4 := P.at_ (i := 4) rfl; have p5 := P.at_ (i := 5) rfl
                    have x0 := hX8.at_ (i := 0) rfl; have x1 := hX8.at_ (i := 1) rfl
                    replace q0 := (World.cell?_alloc_lt w7 (.cells #[.int .i64 (n0 : Int), .int .i64 (n1 : Int), .int .i64 (n2 : Int), .int .i64 (n3 : Int), .int .i64 (n4 : Int), .int .i64 (n5 : Int)] 24) _ hql).trans q0
                    replace q1 := (World.cell?_alloc_lt w7 (.cells #[.int .i64 (n0 : Int), .int .i64 (n1 : Int), .int .i64 (n2 : Int), .int .i64 (n3 : Int), .int .i64 (n4 : Int), .int .i64 (n5 : Int)] 24) _ hql).trans q1
                    replace q2 := (World.cell?_alloc_lt w7 (.cells #[.int .i64 (n0 : Int), .int .i64 (n1 : Int), .int .i64 (n2 : Int), .int .i64 (n3 : Int), .int .i64 (n4 : Int), .int .i64 (n5 : Int)] 24) _ hql).trans q2
                    replace q3 := (World.cell?_alloc_lt w7 (.cells #[.int .i64 (n0 : Int), .int .i64 (n1 : Int), .int .i64 (n2 : Int), .int .i64 (n3 : Int), .int .i64 (n4 : Int), .int .i64 (n5 : Int)] 24) _ hql).trans q3
                    replace q4 := (World.cell?_alloc_lt w7 (.cells #[.int .i64 (n0 : Int), .int .i64 (n1 : Int), .int .i64 (n2 : Int), .int .i64 (n3 : Int), .int .i64 (n4 : Int), .int .i64 (n5 : Int)] 24) _ hql).trans q4
                    replace q5 := (World.cell?_alloc_lt w7 (.cells #[.int .i64 (n0 : Int), .int .i64 (n1 : Int), .int .i64 (n2 : Int), .int .i64 (n3 : Int), .int .i64 (n4 : Int), .int .i64 (n5 : Int)] 24) _ hql).trans q5
                    have HG8 := Lib.hid hG8; have HW8 := Lib.hid hW8; have HX8 := Lib.hid hX8; have HB8 := Lib.hid hB8
                    clear hG7 hW7 hX7 hB7 hG8 hW8 hX8 hB8 P
                    generalize hw8 : w7.alloc (.cells #[.int .i64 (n0 : Int), .int .i64 (n1 : Int), .int .i64 (n2 : Int), .int .i64 (n3 : Int), .int .i64 (n4 : Int), .int .i64 (n5 : Int)] 24) = w8 at *
                    clear hw8
                    refine wp_region_quiet_lit (by kernel_rfl) (by kernel_rfl) ?_
                    repeat (first | go_big_quiet_step (fail) | quiet_step (fail))
                    refine wpQuiet_nil ?_; intro _ hw'; obtain ⟨nq, hw''⟩ := hw'; subst hw''
                    go_wp2_with fail
                    refine wp_region_quiet_lit (by kernel_rfl) (by kernel_rfl) ?_
                    repeat (first | go_big_quiet_step (fail) | quiet_step (fail))
                    refine wpQuiet_nil ?_; intro _ hw'; obtain ⟨nq, hw''⟩ := hw'; subst hw''
                    go_wp2_with fail
                    go_roundw
                    case rel => exact ⟨k + 1, by omega, by go_num, HG8.out.dn _, HW8.out.below (bel_drewN (Below.refl _ _) _), HX8.out.drewN _, bel_drewN HB8.out _⟩
                    case measure => simp [intOf]; omega
              · obtain rfl : k = 8 := by omega
                go_wp2_with fail
                refine (events_any bs g bc 8 c' A' m _ hG).mono ?_; rintro e w7 ⟨A2, c2, rfl, _, hc⟩
                have hB7 := bel_trans hB hc
                rw [HLL.out]
                go_wp2_with fail
                go_ret
                exact ⟨rfl, hB7⟩
  · have hr : Ev.right ⟨xn, xs, xo, xi⟩ 8 = false := by simpa using hr
    rw [hr]
    go_wp2_with fail
    refine (counts_any w3).mono ?_; rintro e w4 ⟨rfl, hc⟩
    go_wp2_with fail
    go_ret
    exact ⟨rfl, bel_trans hB hc⟩
end Go.Proofs.Ytinijpjbbbbhjaa
