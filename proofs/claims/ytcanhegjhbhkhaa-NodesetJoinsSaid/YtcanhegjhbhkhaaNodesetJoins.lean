/- The law NodesetJoins. -/
import Derived.Test.YtcanhegjhbhkhaaSets
namespace Go.Proofs.Ytcanhegjhbhkhaa
open Go.RowKit
set_option linter.unusedVariables false
set_option linter.unusedSimpArgs false
attribute [local go_sem] World.cell?_alloc_lt

def orAll (s : Nat) (l : List Nat) : Nat := l.foldl orN s
theorem orAll_or (l : List Nat) : ∀ s t : Nat, orAll (s ||| t) l = s ||| orAll t l := by
  induction l with
  | nil => intro s t; rfl
  | cons x xs ih =>
    intro s t
    show orAll (orN (s ||| t) x) xs = s ||| orAll (orN t x) xs
    have : orN (s ||| t) x = s ||| orN t x := by unfold orN; rw [Nat.or_assoc]
    rw [this, ih]
theorem orAll_nodes : ∀ a : Nat, a < 256 → orAll 0 (nodesN a) = a := by decide +kernel
theorem setK_nodes (l : List Nat) (h : ∀ x ∈ l, x < 8) : ∀ k, k ≤ l.length → setK (l.map (fun (n : Nat) => (n : Int))) k = some (orAll 0 (l.take k)) := by
  intro k
  induction k with
  | zero => intro _; rfl
  | succ k ih =>
    intro hk
    have hx : l[k]? = some (l[k]'(by omega)) := List.getElem?_eq_getElem _
    have hx8 := h (l[k]'(by omega)) (List.getElem_mem _)
    generalize l[k]'(by omega) = x at hx hx8
    have hg : (l.map (fun (n : Nat) => (n : Int))).getD k 0 = (x : Int) := by
      rw [List.getD_eq_getElem?_getD, List.getElem?_map, hx]
      rfl
    have hok : okN (x : Int) = true := by
      unfold okN
      exact decide_eq_true ⟨by omega, by omega⟩
    simp only [setK, ih (by omega), hg, hok, if_true]
    have ht : l.take (k + 1) = l.take k ++ [x] := by
      rw [List.take_add_one, hx]
      rfl
    rw [ht]
    unfold orAll
    rw [List.foldl_append]
    rfl
theorem set_two (a b : Nat) (ha : a < 256) (hb : b < 256) : setK ((nodesN a ++ nodesN b).map (fun (n : Nat) => (n : Int))) (nodesN a ++ nodesN b).length = some (a ||| b) := by
  rw [setK_nodes _ (fun x hx => by
    rcases List.mem_append.1 hx with h | h
    · exact nodes_lt a ha x h
    · exact nodes_lt b hb x h) _ (Nat.le_refl _), List.take_length]
  unfold orAll
  rw [List.foldl_append]
  show some (orAll (orAll 0 (nodesN a)) (nodesN b)) = _
  rw [orAll_nodes a ha]
  have := orAll_or (nodesN b) a 0
  rw [Nat.or_zero] at this
  rw [this, orAll_nodes b hb]
theorem ofInt_u8 (a : Nat) (ha : a < 256) : (BitVec.ofInt 8 (a : Int)).toNat = a := by
  rw [BitVec.ofInt_natCast, BitVec.toNat_ofNat]
  exact Nat.mod_eq_of_lt (by omega)
theorem or_u8 (a : Nat) (ha : a < 256) (b : Nat) (hb : b < 256) : bits BinOp.or IntKind.u8 (a : Int) (b : Int) = ((a ||| b : Nat) : Int) := by
  have hx : a ||| b < 2 ^ 8 := Nat.or_lt_two_pow (by omega) (by omega)
  show IntKind.u8.wrap ((BitVec.ofInt 8 (a : Int) ||| BitVec.ofInt 8 (b : Int)).toNat : Int) = _
  rw [BitVec.toNat_or, ofInt_u8 a ha, ofInt_u8 b hb]
  simp only [IntKind.wrap]
  simp [IntKind.signed, IntKind.bits]
  omega
theorem or_lt256 (a b : Nat) (ha : a < 256) (hb : b < 256) : a ||| b < 256 := Nat.or_lt_two_pow (n := 8) ha hb
/-- The node ahead of number i. -/
def prevN (s i : Nat) : Int := if i = 0 then -1 else ((nodesN s).getD (i - 1) 0 : Nat)
theorem walk_nodes : ∀ s : Nat, s < 256 → ∀ i : Nat, i < 8 → i < ocN s → nextN s (prevN s i) = ((nodesN s).getD i 0 : Nat) ∧ prevN s i < ((nodesN s).getD i 0 : Nat) ∧ hasN s ((nodesN s).getD i 0 : Nat) = true ∧ 0 < s := by decide +kernel
theorem walk_end : ∀ s : Nat, s < 256 → ocN s ≤ 8 ∧ (0 < s → nextN s (prevN s (ocN s)) = ((nodesN s).getD 0 0 : Nat) ∧ 0 < (nodesN s).length) := by decide +kernel
theorem bel_grn0 {w a b : World} {row : Option Nat} (h : Below w.heap.size w a) (hg : a.grownBy b row) (hr : ∀ k, row = some k → w.heap.size ≤ k) : Below w.heap.size w b := h.grown hg h.size hr
theorem walk_zero : ocN 0 = 0 := by decide
theorem next_no (n : Int) (w0 : World) : Calls Try.prog 9 #[.int .u8 0, .int .i64 n] w0 fun e w' => e = .returned (.tuple #[.int .i64 0, .bool false]) ∧ Below w0.heap.size w0 w' := by
  have hl := list_at 0 (by omega) w0
  have HL := Lib.hid hl
  clear hl
  go_enter Try.func9, Try.ntmps9
  go_wp2_with fail
  refine HL.out.mono ?_; rintro e w1 ⟨A, c, rfl, hown, hB⟩
  rw [show (nodesN 0).length = 0 from by decide]
  clear hown
  go_wp2_with fail
  go_loop [13] (fun v => v = .int .i64 0) (fun _ => 0)
  case atStart => rfl
  case round =>
    subst hrel
    go_wp2_with fail
    go_ret2
    exact ⟨rfl, hB⟩
theorem ofN_map (l : List Nat) : l.map ofN = (l.map (fun (n : Nat) => (n : Int))).map (Value.int .i64) := by rw [List.map_map]; rfl
set_option maxRecDepth 100000 in
set_option maxHeartbeats 2000000 in
theorem nodesetJoins_walk (a : Int) (h1 : (Lit.int .u8 a).wf = true) (b : Int) (h2 : (Lit.int .u8 b).wf = true) (w0 : World) :
    Calls Try.prog 3 #[.int .u8 a, .int .u8 b] w0 fun e w' => e = .returned (.bool true) ∧ Below w0.heap.size w0 w' := by
  obtain ⟨a, rfl, ha⟩ : ∃ n : Nat, a = (n : Int) ∧ n < 256 := by
    have := bounds_u8 h1
    exact ⟨a.toNat, by omega, by omega⟩
  obtain ⟨b, rfl, hb⟩ : ∃ n : Nat, b = (n : Int) ∧ n < 256 := by
    have := bounds_u8 h2
    exact ⟨b.toNat, by omega, by omega⟩
  clear h1 h2
  have hla := rlist_at a ha w0
  have HLA := Lib.hid hla
  clear hla
  have hor := or_u8 a ha b hb
  have HOR := Lib.hid hor
  have hx256 := or_lt256 a b ha hb
  have hst := set_two a b ha hb
  have HST := Lib.hid hst
  clear hst hor
  go_enter Try.func3, Try.ntmps3
  go_wp2_with fail
  refine HLA.out.mono ?_; rintro e w1 ⟨A, c, rfl, hoA, hB1⟩
  have hlb := rlist_at b hb w1
  have HLB := Lib.hid hlb
  clear hlb
  go_wp2_with fail
  refine HLB.out.mono ?_; rintro e w2 ⟨B, d, rfl, hoB, hB2⟩
  have hoA2 := own_chV hoA (Ch.below hB2 []) (by simp)
  have hB := bel_trans hB1 hB2
  have hrB := Reads.of_own hoB
  have hna := nodes_len a ha
  have hnb := nodes_len b hb
  obtain ⟨i0, hi0', hz0, hz1, hz2⟩ := info_parts info_int
  have HI := Lib.hid hi0'; have HZ0 := Lib.hid hz0; have HZ1 := Lib.hid hz1; have HZ2 := Lib.hid hz2
  have HOA := Lib.hid hoA2; have HRB := Lib.hid hrB
  have hsz := hB.size
  clear hi0' hz0 hz1 hz2 hoA hoA2 hrB hB1 hB2 hoB
  have hone : ∀ u ∈ (nodesN b).map ofN, u.oneCell' = true := by
    intro u hu
    obtain ⟨z, _, rfl⟩ := List.mem_map.1 hu
    rfl
  have HONE := Lib.hid hone
  clear hone
  go_wp2_with (at_builtin; refine wpList_append_any _ rfl (.tmp 15) (.tmp 17) 26 rfl w0.heap.size 3 i0 _ 1 8 Try.underlying26 HI.out HZ0.out HZ1.out HZ2.out rfl (by omega) (.slice A (nodesN a).length c) (nodesN a).length ((nodesN a).map ofN) rfl HOA.out _ B (nodesN b).length d ((nodesN b).map ofN) rfl HRB.out HONE.out (by unfold maxLen; omega) (by omega) hsz ?_)
  intro v3 w3 hown3 hgr3 hor3
  have hB3 := bel_grn0 hB hgr3 (fun q hq => (HOA.out.lt q hq).1)
  rw [← List.map_append, ofN_map] at hown3
  obtain ⟨C, f, rfl⟩ := own_slice hown3
  have hof := of_any C _ f _ w3 (InI.own hown3) (by omega)
  rw [← List.length_append, HST.out] at hof
  replace hof : Calls Try.prog 5 #[.slice C (nodesN a ++ nodesN b).length f] w3 fun e w' => e = .returned (.tuple #[.int .u8 ((a ||| b : Nat) : Int), .int .i64 0]) ∧ w3 = w' := hof
  rw [List.length_append] at hof
  have HOF := Lib.hid hof
  clear hof hown3 hgr3 hor3 hB HOA HRB HONE HI HZ0 HZ1 HZ2 HST
  generalize hx : a ||| b = x at *
  have hct := count_any x hx256
  have HCT := Lib.hid hct
  clear hct hx
  obtain ⟨hx8, hxe⟩ := walk_end x hx256
  have hxw := walk_nodes x hx256
  have HXE := Lib.hid hxe; have HXW := Lib.hid hxw
  clear hxe hxw
  obtain ⟨oc, hoc⟩ : ∃ oc, ocN x = oc := ⟨_, rfl⟩
  have HOC := Lib.hid hoc
  rw [hoc] at HCT HXE HXW hx8
  clear hoc
  have hp0 : (-1 : Int) = prevN x 0 := rfl
  go_wp2_with fail
  refine HOF.out.mono ?_; rintro e w4 ⟨rfl, rfl⟩
  have hor := HOR.out
  go_wp2_with fail
  refine (sets_any _).mono ?_; rintro e w5 ⟨rfl, hB5⟩
  have hBE := bel_trans hB3 hB5
  clear hB3 hB5
  go_wp2_with fail
  clear hor
  go_loopw [7, 8] (fun va vi wr => ∃ i : Nat, i ≤ oc ∧ vi = .int .i64 i ∧ va = .int .i64 (prevN x i) ∧ Below w0.heap.size w0 wr) (fun _ vi _ => oc - (intOf vi).toNat)
  case atStart => exact ⟨0, by omega, rfl, rfl, hBE⟩
  case round =>
    clear hBE
    obtain ⟨i, hi, rfl, rfl, hB⟩ := hrel
    by_cases hlt : i < oc
    · obtain ⟨h1, h2, h3, h4⟩ := HXW.out i (by omega) hlt
      have hnx := next_at x hx256 h4 (prevN x i)
      rw [h1] at hnx
      have hps : prevN x (i + 1) = ((nodesN x).getD i 0 : Nat) := rfl
      have hhs := has_at x hx256 ((nodesN x).getD i 0 : Nat)
      rw [h3] at hhs
      have HNX := Lib.hid hnx; have HPS := Lib.hid hps; have HHS := Lib.hid hhs
      clear h1 h3 hnx hps hhs
      generalize ((nodesN x).getD i 0 : Nat) = nd at *
      generalize prevN x i = pv at *
      go_wp2_with fail
      refine (HCT.out _).mono ?_; rintro e w6 ⟨rfl, rfl⟩
      go_wp2_with fail
      refine (HNX.out _).mono ?_; rintro e w6 ⟨rfl, hB6⟩
      have hB7 := bel_trans hB hB6
      clear hB hB6
      go_wp2_with fail
      refine (HHS.out _).mono ?_; rintro e w7 ⟨rfl, rfl⟩
      go_wp2_with fail
      go_roundw
      case rel => exact ⟨i + 1, by omega, by go_num, by rw [HPS.out], hB7⟩
      case measure => simp [intOf]; omega
    · obtain rfl : i = oc := by omega
      by_cases hx0 : 0 < x
      · obtain ⟨h1, h2⟩ := HXE.out hx0
        have hnx := next_at x hx256 hx0 (prevN x i)
        obtain ⟨nd, hnd⟩ : ∃ nd, (nodesN x).getD 0 0 = nd := ⟨_, rfl⟩
        rw [h1, hnd] at hnx
        have HND := Lib.hid hnd
        clear hnd
        have hnz : ((x : Int) == 0) = false := by rw [beq_eq_false_iff_ne]; omega
        have hnz2 : ((x : Int) != 0) = true := by rw [bne_iff_ne]; omega
        have HNX := Lib.hid hnx
        have H2 := Lib.hid h2
        have hrl := rlist_at x hx256
        have HRL := Lib.hid hrl
        clear h1 h2 hnx hrl
        generalize prevN x i = pv at *
        go_wp2_with fail
        refine (HCT.out _).mono ?_; rintro e w6 ⟨rfl, rfl⟩
        go_wp2_with fail
        refine (HNX.out _).mono ?_; rintro e w6 ⟨rfl, hB6⟩
        have hB7 := bel_trans hB hB6
        have hor := HOR.out
        clear hB hB6
        go_wp2_with fail
        clear hor
        refine (HRL.out _).mono ?_; rintro e w7 ⟨E, g, rfl, hoE, hB8⟩
        have hB9 := bel_trans hB7 hB8
        obtain ⟨ge, rfl, hce, _, _, _⟩ := own_at hoE (k := 0) (u := ofN ((nodesN x).getD 0 0)) (map_at H2.out 0)
        rw [HND.out] at hce
        replace hce : w7.cell? ⟨ge, 0, none⟩ = some (.int .i64 (nd : Int)) := hce
        have h2 := H2.out
        have hix : ∀ w, (Instr.indexAt 26 (.slice (some ⟨ge, 0, none⟩) (nodesN x).length g) (.int .i64 0)).run Try.prog w = .ok (.pointer (some ⟨ge, 0, none⟩)) w := fun w => idx_own ge (nodesN x).length g 0 H2.out w
        clear hoE hB7 hB8
        go_wp2_with fail
        go_ret
        exact ⟨rfl, hB9⟩
      · obtain rfl : x = 0 := by omega
        have hnx := next_no (prevN 0 i)
        have HNX := Lib.hid hnx
        clear hnx
        generalize prevN 0 i = pv at *
        go_wp2_with fail
        refine (HCT.out _).mono ?_; rintro e w6 ⟨rfl, rfl⟩
        go_wp2_with fail
        refine (HNX.out _).mono ?_; rintro e w6 ⟨rfl, hB6⟩
        have hB7 := bel_trans hB hB6
        clear hB hB6
        go_wp2_with fail
        go_ret
        exact ⟨rfl, hB7⟩
end Go.Proofs.Ytcanhegjhbhkhaa
