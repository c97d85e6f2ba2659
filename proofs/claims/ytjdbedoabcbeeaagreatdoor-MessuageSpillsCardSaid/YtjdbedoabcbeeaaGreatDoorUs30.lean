/- Parts of the proof: Parse, Parse2, ParseAny, Stands. -/
import Derived.Test.YtjdbedoabcbeeaaGreatDoorUs29
/- Package nodeset (layer 1): node, part, Parse. -/
namespace Go.Proofs.YtjdbedoabcbeeaaGreatDoor
open Go.RowKit Go.Shelf
set_option linter.unusedVariables false
set_option linter.unusedSimpArgs false
attribute [local go_sem] World.cell?_alloc_lt

/-- The node of a byte. -/
def nodeN (b : UInt8) : Int := (b.toNat : Int) - 48
def okNode (b : UInt8) : Bool := decide (48 ≤ b.toNat ∧ b.toNat < 56)
theorem node_any (b : UInt8) (w : World) : Calls Tryz.prog 73 #[.int .u8 (b.toNat : Int)] w fun e w' => e = .returned (.tuple #[.int .i64 (nodeN b), .bool (okNode b)]) ∧ w = w' := by
  have hb : b.toNat < 256 := UInt8.toNat_lt b
  have hr := right_at (nodeN b)
  rw [show decide (0 ≤ nodeN b ∧ nodeN b < 8) = okNode b from by unfold nodeN okNode; rw [decide_eq_decide]; omega] at hr
  have HR := Lib.hid hr
  clear hr
  unfold nodeN at *
  generalize okNode b = ok at *
  generalize b.toNat = n at *
  go_enter Tryz.func73, Tryz.ntmps73
  go_wp2_with fail
  refine (HR.out _).mono ?_; rintro e w1 ⟨rfl, rfl⟩
  go_wp2_with fail
  go_ret2
  exact ⟨rfl, rfl⟩
/-- What part reads: the lower, the higher node; is it one? -/
def partR : List UInt8 → Int × Int × Bool
  | [a] => (nodeN a, nodeN a, okNode a)
  | [a, b, c] => if b = 45 then (nodeN a, nodeN c, okNode a && okNode c && decide (nodeN a ≤ nodeN c)) else (0, 0, false)
  | _ => (0, 0, false)
def partT (l : List UInt8) : Value := .tuple #[.int .i64 (partR l).1, .int .i64 (partR l).2.1, .bool (partR l).2.2]
theorem part_else {l : List UInt8} (h1 : l.length ≠ 1) (h3 : l.length ≠ 3) : partR l = (0, 0, false) := by
  match l with
  | [] => rfl
  | [a] => simp at h1
  | [a, b] => rfl
  | [a, b, c] => simp at h3
  | a :: b :: c :: d :: t => rfl
set_option maxRecDepth 100000 in
set_option maxHeartbeats 2000000 in
theorem part_any (p : ByteArray) (w : World) : Calls Tryz.prog 49 #[.string p] w fun e w' => e = .returned (partT p.data.toList) ∧ w = w' := by
  by_cases h1 : p.size = 1
  · obtain ⟨a, rfl⟩ : ∃ a, p = ⟨#[a]⟩ := by
      obtain ⟨⟨l⟩⟩ := p
      match l, h1 with
      | [a], _ => exact ⟨a, rfl⟩
    have hn := node_any a
    have HN := Lib.hid hn
    have he : partT [a] = .tuple #[.int .i64 (nodeN a), .int .i64 (nodeN a), .bool (okNode a)] := rfl
    have HE := Lib.hid he
    clear h1 hn he
    generalize hok : okNode a = ok at *
    generalize hnn : nodeN a = na at *
    have HO := Lib.hid hok; have HM := Lib.hid hnn
    clear hok hnn
    go_enter Tryz.func49, Tryz.ntmps49
    go_wp2_with fail
    refine (HN.out _).mono ?_; rintro e w1 ⟨rfl, rfl⟩
    go_wp2_with fail
    go_ret3
    exact ⟨by rw [HE.out]; rfl, rfl⟩
  · by_cases h3 : p.size = 3
    · obtain ⟨a, b, c, rfl⟩ : ∃ a b c, p = ⟨#[a, b, c]⟩ := by
        obtain ⟨⟨l⟩⟩ := p
        match l, h3 with
        | [a, b, c], _ => exact ⟨a, b, c, rfl⟩
      clear h1 h3
      by_cases hb : b = 45
      · subst hb
        have hna := node_any a
        have hnc := node_any c
        have he : partT [a, 45, c] = .tuple #[.int .i64 (nodeN a), .int .i64 (nodeN c), .bool (okNode a && okNode c && decide (nodeN a ≤ nodeN c))] := rfl
        have HA := Lib.hid hna; have HC := Lib.hid hnc; have HE := Lib.hid he
        clear hna hnc he
        generalize okNode a = oka at *
        generalize okNode c = okc at *
        generalize nodeN a = na at *
        generalize nodeN c = nc at *
        cases oka with
        | false =>
          go_enter Tryz.func49, Tryz.ntmps49
          go_wp2_with fail
          refine (HA.out _).mono ?_; rintro e w1 ⟨rfl, rfl⟩
          go_wp2_with fail
          refine (HC.out _).mono ?_; rintro e w1 ⟨rfl, rfl⟩
          go_wp2_with fail
          go_ret3
          exact ⟨by rw [HE.out]; rfl, rfl⟩
        | true =>
          cases okc with
          | false =>
            go_enter Tryz.func49, Tryz.ntmps49
            go_wp2_with fail
            refine (HA.out _).mono ?_; rintro e w1 ⟨rfl, rfl⟩
            go_wp2_with fail
            refine (HC.out _).mono ?_; rintro e w1 ⟨rfl, rfl⟩
            go_wp2_with fail
            go_ret3
            exact ⟨by rw [HE.out]; rfl, rfl⟩
          | true =>
            go_enter Tryz.func49, Tryz.ntmps49
            go_wp2_with fail
            refine (HA.out _).mono ?_; rintro e w1 ⟨rfl, rfl⟩
            go_wp2_with fail
            refine (HC.out _).mono ?_; rintro e w1 ⟨rfl, rfl⟩
            go_wp2_with fail
            go_ret3
            exact ⟨by rw [HE.out]; simp, rfl⟩
      · have he : partT [a, b, c] = .tuple #[.int .i64 0, .int .i64 0, .bool false] := by
          unfold partT partR
          simp only [if_neg hb]
        have hbe : ((b.toNat : Int) == 45) = false := by
          rw [beq_eq_false_iff_ne]
          intro h
          apply hb
          apply UInt8.toNat_inj.1
          show b.toNat = 45
          omega
        have hbe2 : ∀ (h : 1 < (⟨#[a, b, c]⟩ : ByteArray).size), ((((⟨#[a, b, c]⟩ : ByteArray)[1]'h).toNat : Int) == 45) = false := fun _ => hbe
        have HE := Lib.hid he
        clear he hb
        go_enter Tryz.func49, Tryz.ntmps49
        go_wp2_with fail
        go_ret3
        exact ⟨by rw [HE.out]; rfl, rfl⟩
    · have he : partT p.data.toList = .tuple #[.int .i64 0, .int .i64 0, .bool false] := by
        unfold partT
        rw [part_else (by simpa using h1) (by simpa using h3)]
      have e1 : ((p.size : Int) == 1) = false := by rw [beq_eq_false_iff_ne]; omega
      have e3 : ((p.size : Int) == 3) = false := by rw [beq_eq_false_iff_ne]; omega
      have HE := Lib.hid he
      clear he h1 h3
      go_enter Tryz.func49, Tryz.ntmps49
      go_wp2_with fail
      go_ret3
      exact ⟨by rw [HE.out]; rfl, rfl⟩
end Go.Proofs.YtjdbedoabcbeeaaGreatDoor
/- Package nodeset (layer 1): Parse. -/
namespace Go.Proofs.YtjdbedoabcbeeaaGreatDoor
open Go.RowKit Go.Shelf
set_option linter.unusedVariables false
set_option linter.unusedSimpArgs false
attribute [local go_sem] World.cell?_alloc_lt Oper.semAt_some

/-- The nodes from a on, k of them, added to a set. -/
def orK (s a : Nat) : Nat → Nat
  | 0 => s
  | k + 1 => orN (orK s a k) (a + k)
theorem orK_lt (s a : Nat) (hs : s < 256) : ∀ k, a + k ≤ 8 → orK s a k < 256 := by
  intro k
  induction k with
  | zero => intro _; exact hs
  | succ k ih => intro h; exact or_lt _ (ih (by omega)) _ (by omega)
/-- The set of some parts; none: one is none. -/
def foldP : List (List UInt8) → Nat → Option Nat
  | [], s => some s
  | p :: ps, s => if (partR p).2.2 = true then foldP ps (orK s (partR p).1.toNat ((partR p).2.1.toNat + 1 - (partR p).1.toNat)) else none
theorem partR_ok {l : List UInt8} (h : (partR l).2.2 = true) : ∃ a b : Nat, (partR l).1 = (a : Int) ∧ (partR l).2.1 = (b : Int) ∧ a ≤ b ∧ b < 8 := by
  match l, h with
  | [x], h =>
    have h2 : okNode x = true := h
    have h3 := of_decide_eq_true h2
    exact ⟨x.toNat - 48, x.toNat - 48, by simp only [partR, nodeN]; omega, by simp only [partR, nodeN]; omega, Nat.le_refl _, by omega⟩
  | [x, y, z], h =>
    simp only [partR] at h ⊢
    split at h
    · rename_i e
      simp only [if_pos e]
      simp only [Bool.and_eq_true] at h
      have h1 := of_decide_eq_true h.1.1
      have h2 := of_decide_eq_true h.1.2
      have h3 := of_decide_eq_true h.2
      simp only [nodeN] at h3 ⊢
      exact ⟨x.toNat - 48, z.toNat - 48, by omega, by omega, by omega, by omega⟩
    · cases h
  | [], h => cases h
  | [x, y], h => cases h
  | a :: b :: c :: d :: t, h => cases h
theorem foldP_lt : ∀ (ps : List (List UInt8)) (s r : Nat), s < 256 → foldP ps s = some r → r < 256 := by
  intro ps
  induction ps with
  | nil => intro s r hs h; simp only [foldP, Option.some.injEq] at h; omega
  | cons p ps ih =>
    intro s r hs h
    simp only [foldP] at h
    split at h
    · rename_i hp
      obtain ⟨a, b, ha, hb, hab, hb8⟩ := partR_ok hp
      rw [ha, hb, Int.toNat_natCast, Int.toNat_natCast] at h
      exact ih _ r (orK_lt s a hs _ (by omega)) h
    · cases h
theorem foldP_snoc : ∀ (ps : List (List UInt8)) (p : List UInt8) (s : Nat), foldP (ps ++ [p]) s = (foldP ps s).bind fun r => foldP [p] r := by
  intro ps
  induction ps with
  | nil => intro p s; rfl
  | cons q ps ih =>
    intro p s
    rw [List.cons_append, foldP, foldP]
    split
    · exact ih _ _
    · rfl
theorem foldP_none : ∀ (ps qs : List (List UInt8)) (s : Nat), foldP ps s = none → foldP (ps ++ qs) s = none := by
  intro ps
  induction ps with
  | nil => intro qs s h; cases h
  | cons q ps ih =>
    intro qs s h
    rw [List.cons_append]
    rw [foldP] at h ⊢
    split
    · rename_i hq
      rw [if_pos hq] at h
      exact ih _ _ h
    · rfl
def noneB : ByteArray := ⟨#[110, 111, 110, 101]⟩
/-- What Parse says. -/
def parseO (text : ByteArray) : Option Nat := if text = noneB then some 0 else foldP (splitL 44 text.data.toList) 0
def parseV (o : Option Nat) : Value := match o with
  | some s => .tuple #[.int .u8 (s : Int), .int .i64 0]
  | none => .tuple #[.int .u8 0, .int .i64 2]
theorem seq_any (s : ByteArray) (c : UInt8) (w : World) : Calls Tryz.prog 48 #[.string s, .string ⟨#[c]⟩] w fun e w' => e = .returned (.func (Fn.func 93) #[] #[.pointer (some ⟨w.heap.size + 1, 0, none⟩), .pointer (some ⟨w.heap.size, 0, none⟩), .pointer (some ⟨w.heap.size + 1 + 1, 0, none⟩)]) ∧ w' = ((w.alloc (.cells #[.string s] 9)).alloc (.cells #[.string ⟨#[c]⟩] 9)).alloc (.cells #[.int .i64 0] 3) := by
  have hq : Calls Tryz.prog 72 #[.string s, .string ⟨#[c]⟩, .int .i64 0] w fun e w' => e = .returned (.func (Fn.func 93) #[] #[.pointer (some ⟨w.heap.size + 1, 0, none⟩), .pointer (some ⟨w.heap.size, 0, none⟩), .pointer (some ⟨w.heap.size + 1 + 1, 0, none⟩)]) ∧ w' = ((w.alloc (.cells #[.string s] 9)).alloc (.cells #[.string ⟨#[c]⟩] 9)).alloc (.cells #[.int .i64 0] 3) := by
    go_enter Tryz.func72, Tryz.ntmps72
    go_wp2_with fail
    go_ret
    exact ⟨rfl, rfl⟩
  have HQ := Lib.hid hq
  clear hq
  go_enter Tryz.func48, Tryz.ntmps48
  go_wp2_with fail
  refine HQ.out.mono ?_; rintro e w1 ⟨rfl, rfl⟩
  go_wp2_with fail
  go_ret
  exact ⟨rfl, rfl⟩
theorem Box3.set {B : Nat} {W : World} {p : Addr} (v : Value) (hp : p.block < B) : Box3 B W (W.setCell p v) := fun k h1 _ => Below.heap_setCell W p v k (by omega)
set_option maxRecDepth 100000 in
set_option maxHeartbeats 4000000 in
theorem parse_none (w : World) : Calls Tryz.prog 23 #[.string noneB] w fun e w' => e = .returned (.tuple #[.int .u8 0, .int .i64 0]) ∧ Below w.heap.size w w' := by
  unfold noneB
  go_enter Tryz.func23, Tryz.ntmps23
  go_wp2_with fail
  exact bodyPost_ret (v := .tuple #[.int .u8 0, .int .i64 0]) (by simp [results, Tryz.results23, go_sem]) rfl ⟨rfl, bel_alloc (bel_alloc (Below.refl _ _) _) _⟩
set_option maxRecDepth 100000 in
set_option maxHeartbeats 4000000 in
theorem parse_some (text : ByteArray) (hs : text.size ≤ 4611686018427387904) (hno : text ≠ noneB) (w : World) : Calls Tryz.prog 23 #[.string text] w fun e w' => e = .returned (parseV (foldP (splitL 44 text.data.toList) 0)) ∧ Below w.heap.size w w' := by
  refine (callsIn_wide (n := 9)).1 ?_
  have hq : (text.toList == [110, 111, 110, 101]) = false := by
    have h := str_beq text noneB
    rw [decide_eq_false hno, Lib.toList_data noneB] at h
    exact h
  have HSQ := Lib.hid (fun w => seq_any text 44 w)
  refine callsIn_of_wp_marks Tryz.func23 rfl trivial ?_ rfl
  simp only [Tryz.ntmps23, List.size_toArray, List.length_cons, List.length_nil, Nat.reduceAdd, Nat.reduceSub, Array.replicate_succ, Array.replicate_zero, List.push_toArray, List.append_toArray, List.nil_append, List.cons_append]
  gi_wp2_with (refine ⟨trivial, ?_⟩; gi_at_call 48; refine (callsIn_wide.2 (HSQ.out _)).mono ?_; rintro e wx ⟨rfl, rfl⟩)
  obtain ⟨w3, hw3⟩ : ∃ x, x = ((w.alloc (.cells #[.int .u8 0] 36)).alloc (.cells #[.int .i64 0] 24)).alloc (.cells #[.int .u8 0] 36) := ⟨_, rfl⟩
  obtain ⟨wS, hwS⟩ : ∃ x, x = ((w3.alloc (.cells #[.string text] 9)).alloc (.cells #[.string ⟨#[44]⟩] 9)).alloc (.cells #[.int .i64 0] 3) := ⟨_, rfl⟩
  rw [← hw3, ← hwS]
  have hz3 : w3.heap.size = w.heap.size + 1 + 1 + 1 := by rw [hw3]; simp
  have hzS : wS.heap.size = w.heap.size + 1 + 1 + 1 + 1 + 1 + 1 := by rw [hwS]; simp [hz3]
  have hB3 : Below w.heap.size w w3 := by rw [hw3]; exact bel_alloc (bel_alloc (bel_alloc (Below.refl _ _) _) _) _
  have hB3S : Below w3.heap.size w3 wS := by rw [hwS]; exact bel_alloc (bel_alloc (bel_alloc (Below.refl _ _) _) _) _
  have r0 : Blk w3 w.heap.size 36 [.int .u8 0] := by rw [hw3]; exact ((Blk.new w _ _).alloc _).alloc _
  have r1 : Blk w3 (w.heap.size + 1) 24 [.int .i64 0] := by
    have := Blk.new (w.alloc (.cells #[.int .u8 0] 36)) 24 [.int .i64 0]
    rw [World.size_alloc] at this
    rw [hw3]; exact this.alloc _
  have r2 : Blk w3 (w.heap.size + 1 + 1) 36 [.int .u8 0] := by
    have := Blk.new ((w.alloc (.cells #[.int .u8 0] 36)).alloc (.cells #[.int .i64 0] 24)) 36 [.int .u8 0]
    rw [World.size_alloc, World.size_alloc] at this
    rw [hw3]; exact this
  have s0 : Blk wS w3.heap.size 9 [.string text] := by rw [hwS]; exact ((Blk.new w3 _ _).alloc _).alloc _
  have s1 : Blk wS (w3.heap.size + 1) 9 [.string ⟨#[44]⟩] := by
    have := Blk.new (w3.alloc (.cells #[.string text] 9)) 9 [.string ⟨#[44]⟩]
    rw [World.size_alloc] at this
    rw [hwS]; exact this.alloc _
  have s2 : Blk wS (w3.heap.size + 1 + 1) 3 [.int .i64 0] := by
    have := Blk.new ((w3.alloc (.cells #[.string text] 9)).alloc (.cells #[.string ⟨#[44]⟩] 9)) 3 [.int .i64 0]
    rw [World.size_alloc, World.size_alloc] at this
    rw [hwS]; exact this
  have q0 := r0.below hB3S; have q1 := r1.below hB3S; have q2 := r2.below hB3S
  have hBS := bel_trans hB3 hB3S
  rw [hz3] at s0 s1 s2
  clear hw3 hwS r0 r1 r2 hB3 hB3S hz3
  have hzL : w.heap.size + 1 + 1 + 1 + 1 + 1 + 1 ≤ wS.heap.size := by omega
  have hzL2 : wS.heap.size ≤ w.heap.size + 1 + 1 + 1 + 1 + 1 + 1 := by omega
  clear hzS
  have hgv := split_gives Fence.wide (9 - 1) rfl (by omega) (w.heap.size + 1 + 1 + 1) text 44 hs wS (by omega) (s0.at_ rfl) (s0.frozen 0) (s1.at_ rfl) (s2.at_ rfl)
  refine wpIn_rangeFunc_cell rfl (by omega) (gf := 93) (lb := #[.pointer (some ⟨w.heap.size + 1 + 1 + 1 + 1, 0, none⟩), .pointer (some ⟨w.heap.size + 1 + 1 + 1, 0, none⟩), .pointer (some ⟨w.heap.size + 1 + 1 + 1 + 1 + 1, 0, none⟩)]) rfl trivial (enters_of Tryz.func93 (by kernel_rfl) rfl) hgv (Below.refl _ _) (by omega) rfl
    (fun pre W => ∃ st, foldP (pre.map (·.data.toList)) 0 = some st ∧ Blk W w.heap.size 36 [.int .u8 0] ∧ Blk W (w.heap.size + 1) 24 [.int .i64 0] ∧ Blk W (w.heap.size + 1 + 1) 36 [.int .u8 (st : Int)] ∧ Below w.heap.size w W)
    (fun pre W => foldP (pre.map (·.data.toList)) 0 = none ∧ Blk W w.heap.size 36 [.int .u8 0] ∧ Blk W (w.heap.size + 1) 24 [.int .i64 2] ∧ Below w.heap.size w W)
    ?hI ?hIx ?h0 (fun x => { tmps := #[.string text, undef, .pointer (some ⟨w.heap.size, 0, none⟩), .pointer (some ⟨w.heap.size + 1, 0, none⟩), .pointer (some ⟨w.heap.size + 1 + 1, 0, none⟩), .string x, undef, undef, undef, undef, .string text, .bool false, .string text, .func (Fn.func 93) #[] #[.pointer (some ⟨w.heap.size + 1 + 1 + 1 + 1, 0, none⟩), .pointer (some ⟨w.heap.size + 1 + 1 + 1, 0, none⟩), .pointer (some ⟨w.heap.size + 1 + 1 + 1 + 1 + 1, 0, none⟩)], .string x, undef, undef, undef, undef, undef, undef, undef, undef, undef, undef, undef, undef, undef, undef, undef, undef, undef, undef, undef], defers := [] }) ?assign ?body ?done ?stop
  case hI =>
    rintro pre W W' ⟨st, h1, b0, b1, b2, hb⟩ ha
    refine ⟨st, h1, ?_, ?_, ?_, ⟨ha.os.trans hb.os, ha.tape.trans hb.tape, ha.output.trans hb.output, Nat.le_trans hb.size ha.size, fun k hk => (ha.block k (by omega) (by omega)).trans (hb.block k hk)⟩⟩
    · exact (ha.block _ (by omega) (by omega)).trans b0
    · exact (ha.block _ (by omega) (by omega)).trans b1
    · exact (ha.block _ (by omega) (by omega)).trans b2
  case hIx =>
    rintro pre W W' ⟨h1, b0, b1, hb⟩ ha
    refine ⟨h1, ?_, ?_, ⟨ha.os.trans hb.os, ha.tape.trans hb.tape, ha.output.trans hb.output, Nat.le_trans hb.size ha.size, fun k hk => (ha.block k (by omega) (by omega)).trans (hb.block k hk)⟩⟩
    · exact (ha.block _ (by omega) (by omega)).trans b0
    · exact (ha.block _ (by omega) (by omega)).trans b1
  case h0 => exact ⟨0, rfl, q0, q1, q2, hBS⟩
  case assign =>
    intro l x W K hK
    gi_wp2
    exact hK
  case body =>
    rintro l pre x W hpx ⟨st, hst, b0, b1, b2, hb⟩ hz
    have hpa := part_any x W
    have hsn : foldP ((pre ++ [x]).map (·.data.toList)) 0 = foldP [x.data.toList] st := by
      rw [List.map_append, List.map_singleton, foldP_snoc, hst]
      rfl
    have hst256 := foldP_lt _ 0 st (by omega) hst
    have c0 := b0.at_ (i := 0) rfl; have c1 := b1.at_ (i := 0) rfl; have c2 := b2.at_ (i := 0) rfl
    have f0 := b0.frozen 0; have f1 := b1.frozen 0; have f2 := b2.frozen 0
    have hwl : w.heap.size + 1 + 1 + 1 + 1 + 1 + 1 ≤ W.heap.size := by omega
    unfold partT at hpa
    cases hok : (partR x.data.toList).2.2 with
    | false =>
      have hno : foldP ((pre ++ [x]).map (·.data.toList)) 0 = none := by rw [hsn, foldP, if_neg (by rw [hok]; simp)]
      rw [hok] at hpa
      have HPA := Lib.hid hpa; have HNO := Lib.hid hno; have HB0 := Lib.hid b0; have HB1 := Lib.hid b1; have HBB := Lib.hid hb
      clear hpa hno hok hsn hst b0 b1 b2 hpx hb
      gi_wp2_with (refine ⟨trivial, ?_⟩; gi_at_call 49; refine (CallsIn.inRound l (callsIn_wide.2 HPA.out)).mono ?_; rintro e wx ⟨rfl, rfl⟩)
      exact ⟨((KeepsOthers.setCell _ _ _).trans (KeepsOthers.setCell _ _ _)).from _, HNO.out, (HB0.out.set_ 0 (.int .u8 0)).far (by simp) _, (HB1.out.far (by simp) (.int .u8 0)).set_ 0 (.int .i64 2), bel_set (bel_set HBB.out (by simp) _) (by simp) _⟩
    | true =>
      obtain ⟨a, b, ha, hbb, hab, hb8⟩ := partR_ok hok
      have hyes : foldP ((pre ++ [x]).map (·.data.toList)) 0 = some (orK st a (b + 1 - a)) := by
        rw [hsn, foldP, if_pos hok, ha, hbb, Int.toNat_natCast, Int.toNat_natCast]
        rfl
      rw [hok, ha, hbb] at hpa
      have HPA := Lib.hid hpa; have HYES := Lib.hid hyes; have HB0 := Lib.hid b0; have HB1 := Lib.hid b1; have HB2 := Lib.hid b2; have HBB := Lib.hid hb
      clear hpa hyes hok hsn hst b0 b1 b2 hpx hb ha hbb c0 c1 f0 f1
      obtain ⟨wp, rfl⟩ : ∃ x, x = W := ⟨_, rfl⟩
      have hmx : Tryz.prog.follows .mixedOrders = true := by kernel_rfl
      have hk0 := KeepsFrom.refl wS.heap.size wp
      have hx0 := Box3.refl (w.heap.size + 1 + 1 + 1) wp
      gi_wp2_with (refine ⟨trivial, ?_⟩; gi_at_call 49; refine (CallsIn.inRound l (callsIn_wide.2 HPA.out)).mono ?_; rintro e wx ⟨rfl, hwx⟩; subst hwx)
      gi_loopw [9] (fun v wr => ∃ k : Nat, a + k ≤ b + 1 ∧ v = .int .i64 ((a : Int) + (k : Int)) ∧ Blk wr w.heap.size 36 [.int .u8 0] ∧ Blk wr (w.heap.size + 1) 24 [.int .i64 0] ∧ Blk wr (w.heap.size + 1 + 1) 36 [.int .u8 (orK st a k : Int)] ∧ Below w.heap.size w wr ∧ KeepsFrom wS.heap.size wp wr ∧ Box3 (w.heap.size + 1 + 1 + 1) wp wr ∧ wp.heap.size ≤ wr.heap.size) (fun v _ => b + 1 - (intOf v).toNat)
      case atStart => exact ⟨0, by omega, by simp, HB0.out, HB1.out, HB2.out, HBB.out, hk0, hx0, Nat.le_refl _⟩
      case round =>
        clear c2 f2 hk0 hx0
        obtain ⟨k, hk, rfl, b0, b1, b2, hb, hkf, hx, hwz⟩ := hrel
        have c2 := b2.at_ (i := 0) rfl
        have f2 := b2.frozen 0
        have hwl2 : w.heap.size + 1 + 1 + 1 + 1 + 1 + 1 ≤ wr.heap.size := by omega
        have HC0 := Lib.hid b0; have HC1 := Lib.hid b1; have HC2 := Lib.hid b2; have HCB := Lib.hid hb; have HKF := Lib.hid hkf; have HX := Lib.hid hx
        clear b0 b1 b2 hb hkf hx HB0 HB1 HB2 HBB
        by_cases hlt : a + k ≤ b
        · have hob := or_bits (orK st a k) (orK_lt st a hst256 k (by omega)) (a + k) (by omega)
          have hstep : orN (orK st a k) (a + k) = orK st a (k + 1) := rfl
          have HST := Lib.hid hstep
          clear hstep
          generalize orK st a k = s0 at *
          gi_wp2
          gi_region_with_o (fail)
          all_goals gi_wp2
          all_goals (try go_bits)
          all_goals
            go_roundw
            case rel => exact ⟨k + 1, by omega, by rw [Int.natCast_succ, ← Int.add_assoc], (HC0.out.far (by simp <;> omega) _).drew, (HC1.out.far (by simp <;> omega) _).drew, by rw [← HST.out, ← hob]; exact (HC2.out.set_ 0 _).drew, bel_drew (bel_set HCB.out (by simp; omega) _), HKF.out.trans (((KeepsOthers.setCell _ _ _).trans (KeepsOthers.drew _)).from _), HX.out.trans (fun q h1 _ => Below.heap_setCell wr _ _ q (by simp; omega)), by simp [World.setCell]; exact hwz⟩
            case measure => simp [intOf]; omega
        · have hkk : a + k = b + 1 := by omega
          have hke : k = b + 1 - a := by omega
          subst hke
          clear hkk
          gi_wp2
          exact ⟨HKF.out, HX.out, _, HYES.out, HC0.out, HC1.out, HC2.out, HCB.out⟩
  case done =>
    rintro D W hD ⟨st, hst, b0, b1, b2, hb⟩ hK
    rw [splitS, List.map_map, show ((fun x : ByteArray => x.data.toList) ∘ bytesOf) = id from rfl, List.map_id] at hst
    have c0 := b0.at_ (i := 0) rfl; have c1 := b1.at_ (i := 0) rfl; have c2 := b2.at_ (i := 0) rfl
    have f0 := b0.frozen 0; have f1 := b1.frozen 0
    have HST := Lib.hid hst
    clear hst
    gi_wp2
    have hKO := (KeepsOthers.setCell W ⟨w.heap.size, 0, none⟩ (.int .u8 (st : Int))).trans (KeepsOthers.setCell _ ⟨w.heap.size + 1, 0, none⟩ (.int .i64 0))
    have hK2 := hKO.same D _ hK rfl
    refine ⟨by simp, .inl ⟨_, _, rfl, run_takeDeferred hK2, ?_⟩⟩
    have g0 : Blk ((W.setCell ⟨w.heap.size, 0, none⟩ (.int .u8 (st : Int))).setCell ⟨w.heap.size + 1, 0, none⟩ (.int .i64 0)) w.heap.size 36 [.int .u8 (st : Int)] := (b0.set_ 0 (.int .u8 (st : Int))).far (by simp) _
    have g1 : Blk ((W.setCell ⟨w.heap.size, 0, none⟩ (.int .u8 (st : Int))).setCell ⟨w.heap.size + 1, 0, none⟩ (.int .i64 0)) (w.heap.size + 1) 24 [.int .i64 0] := (b1.far (by simp) _).set_ 0 (.int .i64 0)
    have hbb := bel_set (bel_set hb (p := ⟨w.heap.size, 0, none⟩) (by simp) (.int .u8 (st : Int))) (p := ⟨w.heap.size + 1, 0, none⟩) (by simp) (.int .i64 0)
    generalize (W.setCell ⟨w.heap.size, 0, none⟩ (.int .u8 (st : Int))).setCell ⟨w.heap.size + 1, 0, none⟩ (.int .i64 0) = V at *
    have d0 : Blk (V.putObj D (.deferred none)) w.heap.size 36 [.int .u8 (st : Int)] := (World.putObj_heap_other (by omega)).trans g0
    have d1 : Blk (V.putObj D (.deferred none)) (w.heap.size + 1) 24 [.int .i64 0] := (World.putObj_heap_other (by omega)).trans g1
    have e0 := d0.at_ (i := 0) rfl; have e1 := d1.at_ (i := 0) rfl
    refine ⟨.tuple #[.int .u8 (st : Int), .int .i64 0], ?_, by rw [HST.out]; rfl, ⟨hbb.os, hbb.tape, hbb.output, by simp; exact hbb.size, fun k hk => (World.putObj_heap_other (by omega)).trans (hbb.block k hk)⟩⟩
    simp [results, Tryz.f23, go_sem, e0, e1]
  case stop =>
    rintro D pre W hD hpre ⟨hst, b0, b1, hb⟩ hK
    have hno : foldP (splitL 44 text.data.toList) 0 = none := by
      obtain ⟨rest, hr⟩ := hpre
      have h2 := foldP_none _ (rest.map (·.data.toList)) 0 hst
      rw [← List.map_append, hr, splitS, List.map_map, show ((fun x : ByteArray => x.data.toList) ∘ bytesOf) = id from rfl, List.map_id] at h2
      exact h2
    gi_wp2
    refine ⟨by simp, .inl ⟨_, _, rfl, run_takeDeferred hK, ?_⟩⟩
    have d0 : Blk (W.putObj D (.deferred none)) w.heap.size 36 [.int .u8 0] := (World.putObj_heap_other (by omega)).trans b0
    have d1 : Blk (W.putObj D (.deferred none)) (w.heap.size + 1) 24 [.int .i64 2] := (World.putObj_heap_other (by omega)).trans b1
    have e0 := d0.at_ (i := 0) rfl; have e1 := d1.at_ (i := 0) rfl
    refine ⟨.tuple #[.int .u8 0, .int .i64 2], ?_, by rw [hno]; rfl, ⟨hb.os, hb.tape, hb.output, by simp; exact hb.size, fun k hk => (World.putObj_heap_other (by omega)).trans (hb.block k hk)⟩⟩
    simp [results, Tryz.f23, go_sem, e0, e1]
end Go.Proofs.YtjdbedoabcbeeaaGreatDoor
/- Package nodeset (layer 1): Parse, of any text. -/
namespace Go.Proofs.YtjdbedoabcbeeaaGreatDoor
open Go.RowKit Go.Shelf
set_option linter.unusedVariables false
set_option linter.unusedSimpArgs false

theorem parse_any (text : ByteArray) (hs : text.size ≤ 4611686018427387904) (w : World) : Calls Tryz.prog 23 #[.string text] w fun e w' => e = .returned (parseV (parseO text)) ∧ Below w.heap.size w w' := by
  unfold parseO
  by_cases h : text = noneB
  · rw [if_pos h, h]
    exact parse_none w
  · rw [if_neg h]
    exact parse_some text hs h w
end Go.Proofs.YtjdbedoabcbeeaaGreatDoor
/- The statements' stands: is a set read? -/
namespace Go.Proofs.YtjdbedoabcbeeaaGreatDoor
open Go.RowKit
set_option linter.unusedVariables false
set_option linter.unusedSimpArgs false
attribute [local go_sem] World.cell?_alloc_lt

def standsB : ByteArray := ⟨#[48, 44, 50, 45, 52]⟩
theorem stands_o : parseO standsB = some 29 := by decide +kernel
theorem stands_any (w : World) : Calls Tryz.prog 7 #[] w fun e w' => e = .returned (.bool true) ∧ Below w.heap.size w w' := by
  have hp := parse_any standsB (by decide) w
  rw [stands_o] at hp
  have HP := Lib.hid hp
  clear hp
  go_enter Tryz.func7, Tryz.ntmps7
  go_wp2_with fail
  refine HP.out.mono ?_; rintro e w1 ⟨rfl, hB⟩
  unfold parseV
  go_wp2_with fail
  go_ret
  exact ⟨rfl, hB⟩
end Go.Proofs.YtjdbedoabcbeeaaGreatDoor
