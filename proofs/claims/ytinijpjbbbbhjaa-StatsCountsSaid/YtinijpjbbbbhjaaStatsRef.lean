/- The reference's counts (layer 16). -/
import Derived.Test.YtinijpjbbbbhjaaStatsIn
namespace Go.Proofs.Ytinijpjbbbbhjaa
open Go.RowKit
set_option linter.unusedVariables false
set_option linter.unusedSimpArgs false
attribute [local go_sem] World.cell?_alloc_lt

/-- A slice of events that reads as a list. -/
structure EvL (w : World) (A : Option Addr) (m : Nat) (l : List Ev) : Prop where
  ln : l.length = m
  at_ : 0 < m → ∃ b off, A = some ⟨b, off, none⟩ ∧ b < w.heap.size ∧ ∀ i x, l[i]? = some x → w.cell? ⟨b, off + i * 4, none⟩ = some (.int .i64 x.node) ∧ w.cell? ⟨b, off + i * 4 + 1, none⟩ = some (.int .i64 x.start) ∧ w.cell? ⟨b, off + i * 4 + 2, none⟩ = some (.int .i64 x.own) ∧ w.cell? ⟨b, off + i * 4 + 3, none⟩ = some (.bool x.il)
theorem EvL.below {w w' : World} {A : Option Addr} {m : Nat} {l : List Ev} (h : EvL w A m l) (k : Below w.heap.size w w') : EvL w' A m l :=
  ⟨h.ln, fun hm => by
    obtain ⟨b, off, e, hb, hc⟩ := h.at_ hm
    refine ⟨b, off, e, Nat.lt_of_lt_of_le hb k.size, fun i x hx => ?_⟩
    obtain ⟨h0, h1, h2, h3⟩ := hc i x hx
    exact ⟨(k.cell (p := ⟨b, off + i * 4, none⟩) hb).trans h0, (k.cell (p := ⟨b, off + i * 4 + 1, none⟩) hb).trans h1, (k.cell (p := ⟨b, off + i * 4 + 2, none⟩) hb).trans h2, (k.cell (p := ⟨b, off + i * 4 + 3, none⟩) hb).trans h3⟩⟩
theorem EvL.of_own {w : World} {base : Nat} {e : TypeId} {A : Option Addr} {c : Nat} {l : List Ev} (h : w.ownsRow base e 4 (.slice A l.length c) l.length (evCells l)) : EvL w A l.length l :=
  ⟨rfl, fun hm => by
    obtain ⟨g, cap, hv, hg, hlt⟩ := h.form hm
    injection hv with hA _ _
    subst hA
    refine ⟨g, 0, rfl, hlt, fun i x hx => ?_⟩
    have hc := fun j hj u (hu : x.cells[j]? = some u) => h.cells (g := g) rfl (i * 4 + j) u ((evCells_at l i j x hx hj).trans hu)
    have h0 := hc 0 (by omega) _ rfl
    have h1 := hc 1 (by omega) _ rfl
    have h2 := hc 2 (by omega) _ rfl
    have h3 := hc 3 (by omega) _ rfl
    rw [WideShapes.add_plain] at h0 h1 h2 h3
    exact ⟨h0, h1, h2, h3⟩⟩
theorem cc_take (l : List Ev) (i : Nat) (x : Ev) (k : Int) (j : Nat) (h : l[i]? = some x) : cc (l.take (i + 1)) k j = cc (l.take i) k j + if inc x k j then 1 else 0 := by
  obtain ⟨hi, hx⟩ := List.getElem?_eq_some_iff.1 h
  rw [List.take_succ_eq_append_getElem hi, cc_snoc, hx]
theorem arr6 (a b c d e f : Int) (w : World) : (Op.equalIn 10000 40 (.agg #[.int .i64 a, .int .i64 b, .int .i64 c, .int .i64 d, .int .i64 e, .int .i64 f]) (.agg #[.int .i64 a, .int .i64 b, .int .i64 c, .int .i64 d, .int .i64 e, .int .i64 f])).run Try.prog w = .ok true w := by
  have hg : (isAgg 3).run Try.prog w = .ok false w := by kernel_rfl
  have hs : (sizeOf 3).run Try.prog w = .ok 1 w := by kernel_rfl
  have he : ∀ z : Int, (Op.equalIn 9999 3 (.int .i64 z) (.int .i64 z)).run Try.prog w = .ok true w := fun z => by
    have := run_equalIn_int w 9998 3 .i64 .i64 z z Try.underlying3
    simpa using this
  rw [show (10000 : Nat) = 9999 + 1 from rfl]
  unfold Op.equalIn
  simp [run_underlying Try.underlying40, hs, hg, he, go_sem, show List.range' 0 6 = [0,1,2,3,4,5] from rfl]
theorem idx_ev4 (b off len cap i : Nat) (hi : i < len) (w : World) : (Instr.indexAt 22 (.slice (some ⟨b, off, none⟩) len cap) (.int .i64 (i : Int))).run Try.prog w = .ok (.pointer (some ⟨b, off + i * 4, none⟩)) w := by
  simp [go_sem, hi]
def six (l : List Ev) (k : Int) : List Value := [.int .i64 (cc l k 0 : Nat), .int .i64 (cc l k 1 : Nat), .int .i64 (cc l k 2 : Nat), .int .i64 (cc l k 3 : Nat), .int .i64 (cc l k 4 : Nat), .int .i64 (cc l k 5 : Nat)]
set_option maxRecDepth 100000 in
set_option maxHeartbeats 3000000 in
theorem refCounts (A : Option Addr) (m cp : Nat) (l : List Ev) (n : Int) (w : World) (hL : EvL w A m l) (hm : m ≤ 1000) :
    Calls Try.prog 15 #[.slice A m cp, .int .i64 n] w fun e w' => e = .returned (cntV l n) ∧ Below w.heap.size w w' := by
  have hln := hL.ln
  go_enter Try.func15, Try.ntmps15
  go_wp2_with fail
  have z0 := (Blk.new w 40 (six [] n)).alloc (.cells #[.int .i64 0, .int .i64 0, .int .i64 0, .int .i64 0, .int .i64 0, .int .i64 0] 40)
  have z1 := Blk.new (w.alloc (.cells #[.int .i64 0, .int .i64 0, .int .i64 0, .int .i64 0, .int .i64 0, .int .i64 0] 40)) 40 (six [] n)
  rw [show (w.alloc (.cells #[.int .i64 0, .int .i64 0, .int .i64 0, .int .i64 0, .int .i64 0, .int .i64 0] 40)).heap.size = w.heap.size + 1 from by simp] at z1
  have zB := bel_alloc (bel_alloc (Below.refl w.heap.size w) (.cells #[.int .i64 0, .int .i64 0, .int .i64 0, .int .i64 0, .int .i64 0, .int .i64 0] 40)) (.cells #[.int .i64 0, .int .i64 0, .int .i64 0, .int .i64 0, .int .i64 0, .int .i64 0] 40)
  obtain ⟨q, hq⟩ : ∃ q, q = w.heap.size := ⟨_, rfl⟩
  have HQ := Lib.hid hq
  go_loopw [6] (fun vi wx => ∃ i : Nat, i ≤ m ∧ vi = .int .i64 i ∧ Blk wx w.heap.size 40 (six [] n) ∧ Blk wx (w.heap.size + 1) 40 (six (l.take i) n) ∧ Below w.heap.size w wx) (fun vi _ => m - (intOf vi).toNat)
  case atStart => exact ⟨0, by omega, rfl, z0, z1, zB⟩
  case round =>
    clear z0 z1 zB
    obtain ⟨i, hi, rfl, z0, z1, zB⟩ := hrel
    have hb := fun j => cc_le (l.take i) n j
    have htl : (l.take i).length ≤ m := by rw [List.length_take]; omega
    unfold six at z1
    by_cases him : i < m
    · obtain ⟨bx, ox, rfl, hbx, hcell⟩ := hL.at_ (by omega)
      have hxi : l[i]? = some (l[i]'(by omega)) := List.getElem?_eq_getElem (by omega)
      obtain ⟨x0, x1, x2, x3⟩ := hcell i _ hxi
      have hcx := fun j => cc_take l i _ n j hxi
      generalize l[i]'(by omega) = x at *
      replace x0 := (zB.cell (p := ⟨bx, ox + i * 4, none⟩) hbx).trans x0
      replace x1 := (zB.cell (p := ⟨bx, ox + i * 4 + 1, none⟩) hbx).trans x1
      replace x2 := (zB.cell (p := ⟨bx, ox + i * 4 + 2, none⟩) hbx).trans x2
      replace x3 := (zB.cell (p := ⟨bx, ox + i * 4 + 3, none⟩) hbx).trans x3
      have hix := fun w => idx_ev4 bx ox m cp i him w
      have c0 := hcx 0; have c1 := hcx 1; have c2 := hcx 2; have c3 := hcx 3; have c4 := hcx 4; have c5 := hcx 5
      have b0 := hb 0; have b1 := hb 1; have b2 := hb 2; have b3 := hb 3; have b4 := hb 4; have b5 := hb 5
      clear hcx hb hcell hxi
      generalize cc (l.take i) n 0 = n0 at *
      generalize cc (l.take i) n 1 = n1 at *
      generalize cc (l.take i) n 2 = n2 at *
      generalize cc (l.take i) n 3 = n3 at *
      generalize cc (l.take i) n 4 = n4 at *
      generalize cc (l.take i) n 5 = n5 at *
      have q0 := z1.at_ (i := 0) rfl; have q1 := z1.at_ (i := 1) rfl; have q2 := z1.at_ (i := 2) rfl; have q3 := z1.at_ (i := 3) rfl; have q4 := z1.at_ (i := 4) rfl; have q5 := z1.at_ (i := 5) rfl
      have f0 := z1.frozen 0; have f1 := z1.frozen 1; have f2 := z1.frozen 2; have f3 := z1.frozen 3; have f4 := z1.frozen 4; have f5 := z1.frozen 5
      have hzl := z1.lt
      obtain ⟨a, s, o, il⟩ := x
      simp only at x0 x1 x2 x3
      have Z0 := Lib.hid z0; have Z1 := Lib.hid z1; have ZB := Lib.hid zB
      have C0 := Lib.hid c0; have C1 := Lib.hid c1; have C2 := Lib.hid c2; have C3 := Lib.hid c3; have C4 := Lib.hid c4; have C5 := Lib.hid c5
      clear z0 z1 zB c0 c1 c2 c3 c4 c5
      by_cases e_a : a = n
      · have t_a : (a == n) = true := by rw [beq_iff_eq]; exact e_a
        have t_a2 : (a != n) = false := by rw [bne_eq_false_iff_eq]; exact e_a
        have E_A := Lib.hid e_a; clear e_a
        by_cases e_s : s = n
        · have t_s : (s == n) = true := by rw [beq_iff_eq]; exact e_s
          have t_s2 : (s != n) = false := by rw [bne_eq_false_iff_eq]; exact e_s
          have E_S := Lib.hid e_s; clear e_s
          by_cases e_o : o = n
          · have t_o : (o == n) = true := by rw [beq_iff_eq]; exact e_o
            have t_o2 : (o != n) = false := by rw [bne_eq_false_iff_eq]; exact e_o
            have E_O := Lib.hid e_o; clear e_o
            cases il with
            | true =>
              have d0 : (cc (l.take (i + 1)) n 0 : Nat) = n0 + 1 := by rw [C0.out]; simp [inc, E_A.out, E_S.out, E_O.out]
              have d1 : (cc (l.take (i + 1)) n 1 : Nat) = n1 := by rw [C1.out]; simp [inc, E_A.out, E_S.out, E_O.out]
              have d2 : (cc (l.take (i + 1)) n 2 : Nat) = n2 := by rw [C2.out]; simp [inc, E_A.out, E_S.out, E_O.out]
              have d3 : (cc (l.take (i + 1)) n 3 : Nat) = n3 + 1 := by rw [C3.out]; simp [inc, E_A.out, E_S.out, E_O.out]
              have d4 : (cc (l.take (i + 1)) n 4 : Nat) = n4 := by rw [C4.out]; simp [inc, E_A.out, E_S.out, E_O.out]
              have d5 : (cc (l.take (i + 1)) n 5 : Nat) = n5 + 1 := by rw [C5.out]; simp [inc, E_A.out, E_S.out, E_O.out]
              have D0 := Lib.hid d0; have D1 := Lib.hid d1; have D2 := Lib.hid d2; have D3 := Lib.hid d3; have D4 := Lib.hid d4; have D5 := Lib.hid d5; clear d0 d1 d2 d3 d4 d5
              go_wp2
              go_roundw
              case rel =>
                refine ⟨i + 1, by omega, by go_num, (((Z0.out.far (p := ⟨w.heap.size + 1, 0, none⟩) (by simp) _).far (p := ⟨w.heap.size + 1, 3, none⟩) (by simp) _).far (p := ⟨w.heap.size + 1, 5, none⟩) (by simp) _).alloc _, ?_, bel_alloc (bel_set (bel_set (bel_set ZB.out (p := ⟨w.heap.size + 1, 0, none⟩) (by simp) _) (p := ⟨w.heap.size + 1, 3, none⟩) (by simp) _) (p := ⟨w.heap.size + 1, 5, none⟩) (by simp) _) _⟩
                unfold six
                rw [D0.out, D1.out, D2.out, D3.out, D4.out, D5.out]
                exact (((Z1.out.set_ 0 (.int .i64 ((n0 : Int) + 1))).set_ 3 (.int .i64 ((n3 : Int) + 1))).set_ 5 (.int .i64 ((n5 : Int) + 1))).alloc _
              case measure => simp [intOf]; omega
            | false =>
              have d0 : (cc (l.take (i + 1)) n 0 : Nat) = n0 + 1 := by rw [C0.out]; simp [inc, E_A.out, E_S.out, E_O.out]
              have d1 : (cc (l.take (i + 1)) n 1 : Nat) = n1 := by rw [C1.out]; simp [inc, E_A.out, E_S.out, E_O.out]
              have d2 : (cc (l.take (i + 1)) n 2 : Nat) = n2 := by rw [C2.out]; simp [inc, E_A.out, E_S.out, E_O.out]
              have d3 : (cc (l.take (i + 1)) n 3 : Nat) = n3 + 1 := by rw [C3.out]; simp [inc, E_A.out, E_S.out, E_O.out]
              have d4 : (cc (l.take (i + 1)) n 4 : Nat) = n4 := by rw [C4.out]; simp [inc, E_A.out, E_S.out, E_O.out]
              have d5 : (cc (l.take (i + 1)) n 5 : Nat) = n5 := by rw [C5.out]; simp [inc, E_A.out, E_S.out, E_O.out]
              have D0 := Lib.hid d0; have D1 := Lib.hid d1; have D2 := Lib.hid d2; have D3 := Lib.hid d3; have D4 := Lib.hid d4; have D5 := Lib.hid d5; clear d0 d1 d2 d3 d4 d5
              go_wp2
              go_roundw
              case rel =>
                refine ⟨i + 1, by omega, by go_num, ((Z0.out.far (p := ⟨w.heap.size + 1, 0, none⟩) (by simp) _).far (p := ⟨w.heap.size + 1, 3, none⟩) (by simp) _).alloc _, ?_, bel_alloc (bel_set (bel_set ZB.out (p := ⟨w.heap.size + 1, 0, none⟩) (by simp) _) (p := ⟨w.heap.size + 1, 3, none⟩) (by simp) _) _⟩
                unfold six
                rw [D0.out, D1.out, D2.out, D3.out, D4.out, D5.out]
                exact ((Z1.out.set_ 0 (.int .i64 ((n0 : Int) + 1))).set_ 3 (.int .i64 ((n3 : Int) + 1))).alloc _
              case measure => simp [intOf]; omega
          · have t_o : (o == n) = false := by rw [beq_eq_false_iff_ne]; exact e_o
            have t_o2 : (o != n) = true := by rw [bne_iff_ne]; exact e_o
            have E_O := Lib.hid e_o; clear e_o
            cases il with
            | true =>
              have d0 : (cc (l.take (i + 1)) n 0 : Nat) = n0 + 1 := by rw [C0.out]; simp [inc, E_A.out, E_S.out, E_O.out]
              have d1 : (cc (l.take (i + 1)) n 1 : Nat) = n1 := by rw [C1.out]; simp [inc, E_A.out, E_S.out, E_O.out]
              have d2 : (cc (l.take (i + 1)) n 2 : Nat) = n2 := by rw [C2.out]; simp [inc, E_A.out, E_S.out, E_O.out]
              have d3 : (cc (l.take (i + 1)) n 3 : Nat) = n3 := by rw [C3.out]; simp [inc, E_A.out, E_S.out, E_O.out]
              have d4 : (cc (l.take (i + 1)) n 4 : Nat) = n4 + 1 := by rw [C4.out]; simp [inc, E_A.out, E_S.out, E_O.out]
              have d5 : (cc (l.take (i + 1)) n 5 : Nat) = n5 + 1 := by rw [C5.out]; simp [inc, E_A.out, E_S.out, E_O.out]
              have D0 := Lib.hid d0; have D1 := Lib.hid d1; have D2 := Lib.hid d2; have D3 := Lib.hid d3; have D4 := Lib.hid d4; have D5 := Lib.hid d5; clear d0 d1 d2 d3 d4 d5
              go_wp2
              go_roundw
              case rel =>
                refine ⟨i + 1, by omega, by go_num, (((Z0.out.far (p := ⟨w.heap.size + 1, 0, none⟩) (by simp) _).far (p := ⟨w.heap.size + 1, 4, none⟩) (by simp) _).far (p := ⟨w.heap.size + 1, 5, none⟩) (by simp) _).alloc _, ?_, bel_alloc (bel_set (bel_set (bel_set ZB.out (p := ⟨w.heap.size + 1, 0, none⟩) (by simp) _) (p := ⟨w.heap.size + 1, 4, none⟩) (by simp) _) (p := ⟨w.heap.size + 1, 5, none⟩) (by simp) _) _⟩
                unfold six
                rw [D0.out, D1.out, D2.out, D3.out, D4.out, D5.out]
                exact (((Z1.out.set_ 0 (.int .i64 ((n0 : Int) + 1))).set_ 4 (.int .i64 ((n4 : Int) + 1))).set_ 5 (.int .i64 ((n5 : Int) + 1))).alloc _
              case measure => simp [intOf]; omega
            | false =>
              have d0 : (cc (l.take (i + 1)) n 0 : Nat) = n0 + 1 := by rw [C0.out]; simp [inc, E_A.out, E_S.out, E_O.out]
              have d1 : (cc (l.take (i + 1)) n 1 : Nat) = n1 := by rw [C1.out]; simp [inc, E_A.out, E_S.out, E_O.out]
              have d2 : (cc (l.take (i + 1)) n 2 : Nat) = n2 := by rw [C2.out]; simp [inc, E_A.out, E_S.out, E_O.out]
              have d3 : (cc (l.take (i + 1)) n 3 : Nat) = n3 := by rw [C3.out]; simp [inc, E_A.out, E_S.out, E_O.out]
              have d4 : (cc (l.take (i + 1)) n 4 : Nat) = n4 + 1 := by rw [C4.out]; simp [inc, E_A.out, E_S.out, E_O.out]
              have d5 : (cc (l.take (i + 1)) n 5 : Nat) = n5 := by rw [C5.out]; simp [inc, E_A.out, E_S.out, E_O.out]
              have D0 := Lib.hid d0; have D1 := Lib.hid d1; have D2 := Lib.hid d2; have D3 := Lib.hid d3; have D4 := Lib.hid d4; have D5 := Lib.hid d5; clear d0 d1 d2 d3 d4 d5
              go_wp2
              go_roundw
              case rel =>
                refine ⟨i + 1, by omega, by go_num, ((Z0.out.far (p := ⟨w.heap.size + 1, 0, none⟩) (by simp) _).far (p := ⟨w.heap.size + 1, 4, none⟩) (by simp) _).alloc _, ?_, bel_alloc (bel_set (bel_set ZB.out (p := ⟨w.heap.size + 1, 0, none⟩) (by simp) _) (p := ⟨w.heap.size + 1, 4, none⟩) (by simp) _) _⟩
                unfold six
                rw [D0.out, D1.out, D2.out, D3.out, D4.out, D5.out]
                exact ((Z1.out.set_ 0 (.int .i64 ((n0 : Int) + 1))).set_ 4 (.int .i64 ((n4 : Int) + 1))).alloc _
              case measure => simp [intOf]; omega
        · have t_s : (s == n) = false := by rw [beq_eq_false_iff_ne]; exact e_s
          have t_s2 : (s != n) = true := by rw [bne_iff_ne]; exact e_s
          have E_S := Lib.hid e_s; clear e_s
          by_cases e_o : o = n
          · have t_o : (o == n) = true := by rw [beq_iff_eq]; exact e_o
            have t_o2 : (o != n) = false := by rw [bne_eq_false_iff_eq]; exact e_o
            have E_O := Lib.hid e_o; clear e_o
            have d0 : (cc (l.take (i + 1)) n 0 : Nat) = n0 := by rw [C0.out]; simp [inc, E_A.out, E_S.out, E_O.out]
            have d1 : (cc (l.take (i + 1)) n 1 : Nat) = n1 + 1 := by rw [C1.out]; simp [inc, E_A.out, E_S.out, E_O.out]
            have d2 : (cc (l.take (i + 1)) n 2 : Nat) = n2 := by rw [C2.out]; simp [inc, E_A.out, E_S.out, E_O.out]
            have d3 : (cc (l.take (i + 1)) n 3 : Nat) = n3 + 1 := by rw [C3.out]; simp [inc, E_A.out, E_S.out, E_O.out]
            have d4 : (cc (l.take (i + 1)) n 4 : Nat) = n4 := by rw [C4.out]; simp [inc, E_A.out, E_S.out, E_O.out]
            have d5 : (cc (l.take (i + 1)) n 5 : Nat) = n5 := by rw [C5.out]; simp [inc, E_A.out, E_S.out, E_O.out]
            have D0 := Lib.hid d0; have D1 := Lib.hid d1; have D2 := Lib.hid d2; have D3 := Lib.hid d3; have D4 := Lib.hid d4; have D5 := Lib.hid d5; clear d0 d1 d2 d3 d4 d5
            go_wp2
            go_roundw
            case rel =>
              refine ⟨i + 1, by omega, by go_num, ((Z0.out.far (p := ⟨w.heap.size + 1, 1, none⟩) (by simp) _).far (p := ⟨w.heap.size + 1, 3, none⟩) (by simp) _).alloc _, ?_, bel_alloc (bel_set (bel_set ZB.out (p := ⟨w.heap.size + 1, 1, none⟩) (by simp) _) (p := ⟨w.heap.size + 1, 3, none⟩) (by simp) _) _⟩
              unfold six
              rw [D0.out, D1.out, D2.out, D3.out, D4.out, D5.out]
              exact ((Z1.out.set_ 1 (.int .i64 ((n1 : Int) + 1))).set_ 3 (.int .i64 ((n3 : Int) + 1))).alloc _
            case measure => simp [intOf]; omega
          · have t_o : (o == n) = false := by rw [beq_eq_false_iff_ne]; exact e_o
            have t_o2 : (o != n) = true := by rw [bne_iff_ne]; exact e_o
            have E_O := Lib.hid e_o; clear e_o
            have d0 : (cc (l.take (i + 1)) n 0 : Nat) = n0 := by rw [C0.out]; simp [inc, E_A.out, E_S.out, E_O.out]
            have d1 : (cc (l.take (i + 1)) n 1 : Nat) = n1 + 1 := by rw [C1.out]; simp [inc, E_A.out, E_S.out, E_O.out]
            have d2 : (cc (l.take (i + 1)) n 2 : Nat) = n2 := by rw [C2.out]; simp [inc, E_A.out, E_S.out, E_O.out]
            have d3 : (cc (l.take (i + 1)) n 3 : Nat) = n3 := by rw [C3.out]; simp [inc, E_A.out, E_S.out, E_O.out]
            have d4 : (cc (l.take (i + 1)) n 4 : Nat) = n4 + 1 := by rw [C4.out]; simp [inc, E_A.out, E_S.out, E_O.out]
            have d5 : (cc (l.take (i + 1)) n 5 : Nat) = n5 := by rw [C5.out]; simp [inc, E_A.out, E_S.out, E_O.out]
            have D0 := Lib.hid d0; have D1 := Lib.hid d1; have D2 := Lib.hid d2; have D3 := Lib.hid d3; have D4 := Lib.hid d4; have D5 := Lib.hid d5; clear d0 d1 d2 d3 d4 d5
            go_wp2
            go_roundw
            case rel =>
              refine ⟨i + 1, by omega, by go_num, ((Z0.out.far (p := ⟨w.heap.size + 1, 1, none⟩) (by simp) _).far (p := ⟨w.heap.size + 1, 4, none⟩) (by simp) _).alloc _, ?_, bel_alloc (bel_set (bel_set ZB.out (p := ⟨w.heap.size + 1, 1, none⟩) (by simp) _) (p := ⟨w.heap.size + 1, 4, none⟩) (by simp) _) _⟩
              unfold six
              rw [D0.out, D1.out, D2.out, D3.out, D4.out, D5.out]
              exact ((Z1.out.set_ 1 (.int .i64 ((n1 : Int) + 1))).set_ 4 (.int .i64 ((n4 : Int) + 1))).alloc _
            case measure => simp [intOf]; omega
      · have t_a : (a == n) = false := by rw [beq_eq_false_iff_ne]; exact e_a
        have t_a2 : (a != n) = true := by rw [bne_iff_ne]; exact e_a
        have E_A := Lib.hid e_a; clear e_a
        by_cases e_s : s = n
        · have t_s : (s == n) = true := by rw [beq_iff_eq]; exact e_s
          have t_s2 : (s != n) = false := by rw [bne_eq_false_iff_eq]; exact e_s
          have E_S := Lib.hid e_s; clear e_s
          have d0 : (cc (l.take (i + 1)) n 0 : Nat) = n0 := by rw [C0.out]; simp [inc, E_A.out, E_S.out]
          have d1 : (cc (l.take (i + 1)) n 1 : Nat) = n1 := by rw [C1.out]; simp [inc, E_A.out, E_S.out]
          have d2 : (cc (l.take (i + 1)) n 2 : Nat) = n2 + 1 := by rw [C2.out]; simp [inc, E_A.out, E_S.out]
          have d3 : (cc (l.take (i + 1)) n 3 : Nat) = n3 := by rw [C3.out]; simp [inc, E_A.out, E_S.out]
          have d4 : (cc (l.take (i + 1)) n 4 : Nat) = n4 := by rw [C4.out]; simp [inc, E_A.out, E_S.out]
          have d5 : (cc (l.take (i + 1)) n 5 : Nat) = n5 := by rw [C5.out]; simp [inc, E_A.out, E_S.out]
          have D0 := Lib.hid d0; have D1 := Lib.hid d1; have D2 := Lib.hid d2; have D3 := Lib.hid d3; have D4 := Lib.hid d4; have D5 := Lib.hid d5; clear d0 d1 d2 d3 d4 d5
          go_wp2
          go_roundw
          case rel =>
            refine ⟨i + 1, by omega, by go_num, (Z0.out.far (p := ⟨w.heap.size + 1, 2, none⟩) (by simp) _).alloc _, ?_, bel_alloc (bel_set ZB.out (p := ⟨w.heap.size + 1, 2, none⟩) (by simp) _) _⟩
            unfold six
            rw [D0.out, D1.out, D2.out, D3.out, D4.out, D5.out]
            exact (Z1.out.set_ 2 (.int .i64 ((n2 : Int) + 1))).alloc _
          case measure => simp [intOf]; omega
        · have t_s : (s == n) = false := by rw [beq_eq_false_iff_ne]; exact e_s
          have t_s2 : (s != n) = true := by rw [bne_iff_ne]; exact e_s
          have E_S := Lib.hid e_s; clear e_s
          have d0 : (cc (l.take (i + 1)) n 0 : Nat) = n0 := by rw [C0.out]; simp [inc, E_A.out, E_S.out]
          have d1 : (cc (l.take (i + 1)) n 1 : Nat) = n1 := by rw [C1.out]; simp [inc, E_A.out, E_S.out]
          have d2 : (cc (l.take (i + 1)) n 2 : Nat) = n2 := by rw [C2.out]; simp [inc, E_A.out, E_S.out]
          have d3 : (cc (l.take (i + 1)) n 3 : Nat) = n3 := by rw [C3.out]; simp [inc, E_A.out, E_S.out]
          have d4 : (cc (l.take (i + 1)) n 4 : Nat) = n4 := by rw [C4.out]; simp [inc, E_A.out, E_S.out]
          have d5 : (cc (l.take (i + 1)) n 5 : Nat) = n5 := by rw [C5.out]; simp [inc, E_A.out, E_S.out]
          have D0 := Lib.hid d0; have D1 := Lib.hid d1; have D2 := Lib.hid d2; have D3 := Lib.hid d3; have D4 := Lib.hid d4; have D5 := Lib.hid d5; clear d0 d1 d2 d3 d4 d5
          go_wp2
          go_roundw
          case rel =>
            refine ⟨i + 1, by omega, by go_num, Z0.out.alloc _, ?_, bel_alloc ZB.out _⟩
            unfold six
            rw [D0.out, D1.out, D2.out, D3.out, D4.out, D5.out]
            exact Z1.out.alloc _
          case measure => simp [intOf]; omega
    · obtain rfl : i = m := by omega
      rw [List.take_of_length_le (by omega)] at z1
      have q0 := z1.at_ (i := 0) rfl; have q1 := z1.at_ (i := 1) rfl; have q2 := z1.at_ (i := 2) rfl; have q3 := z1.at_ (i := 3) rfl; have q4 := z1.at_ (i := 4) rfl; have q5 := z1.at_ (i := 5) rfl
      unfold six at z0
      have r0 := z0.at_ (i := 0) rfl; have r1 := z0.at_ (i := 1) rfl; have r2 := z0.at_ (i := 2) rfl; have r3 := z0.at_ (i := 3) rfl; have r4 := z0.at_ (i := 4) rfl; have r5 := z0.at_ (i := 5) rfl
      have f0 := z0.frozen 0; have f1 := z0.frozen 1; have f2 := z0.frozen 2; have f3 := z0.frozen 3; have f4 := z0.frozen 4; have f5 := z0.frozen 5
      have hzl := z0.lt
      clear hb
      go_wp2
      have hz := (((((z0.set_ 0 (.int .i64 (cc l n 0 : Nat))).set_ 1 (.int .i64 (cc l n 1 : Nat))).set_ 2 (.int .i64 (cc l n 2 : Nat))).set_ 3 (.int .i64 (cc l n 3 : Nat))).set_ 4 (.int .i64 (cc l n 4 : Nat))).set_ 5 (.int .i64 (cc l n 5 : Nat))
      exact bodyPost_ret (v := cntV l n) (results_cell_row Try.results15 _ _ w.heap.size 40 _ (0, 0) _ rfl hz Try.underlying40 rfl (by kernel_rfl)) rfl ⟨rfl, (by repeat (first | exact zB | refine bel_set ?_ (by simp) _))⟩
end Go.Proofs.Ytinijpjbbbbhjaa
