/- strings.SplitSeq at a separator of one byte. -/
import Derived.Test.YtbgnaohjcfbaaaaDoorSeq
import Derived.Test.YtbgnaohjcfbaaaaDoorShelf
import Derived.Lib.IndexLaws
import Derived.Lib.Strings
namespace Go.Proofs.YtbgnaohjcfbaaaaDoor
open Go.RowKit Go.Shelf
set_option linter.unusedVariables false
set_option linter.unusedSimpArgs false
attribute [local go_sem] Oper.semAt_some

/-- A text, parted by a byte. -/
def splitL (c : UInt8) : List UInt8 → List (List UInt8)
  | [] => [[]]
  | x :: t => if x = c then [] :: splitL c t else match splitL c t with
    | [] => [[x]]
    | p :: ps => (x :: p) :: ps
theorem splitL_ne (c : UInt8) (l : List UInt8) : splitL c l ≠ [] := by
  cases l with
  | nil => simp [splitL]
  | cons x t =>
    simp only [splitL]
    split
    · simp
    · split <;> simp
theorem splitL_none {c : UInt8} : ∀ {l : List UInt8}, Lib.indexByte l c = -1 → splitL c l = [l] := by
  intro l
  induction l with
  | nil => intro _; rfl
  | cons x t ih =>
    intro h
    simp only [Lib.indexByte] at h
    by_cases e : x = c
    · subst e
      simp at h
    · have e2 : (x == c) = false := by rw [beq_eq_false_iff_ne]; exact e
      rw [e2] at h
      have hge := Lib.indexByte_ge t c
      by_cases h1 : Lib.indexByte t c = -1
      · simp only [splitL, if_neg e, ih h1]
      · have h3 : (Lib.indexByte t c == -1) = false := by rw [beq_eq_false_iff_ne]; exact h1
        rw [h3] at h
        simp only [Bool.false_eq_true, if_false] at h
        omega
theorem splitL_some {c : UInt8} : ∀ {l : List UInt8} {o : Nat}, Lib.indexByte l c = (o : Int) → splitL c l = l.take o :: splitL c (l.drop (o + 1)) := by
  intro l
  induction l with
  | nil => intro o h; simp only [Lib.indexByte] at h; omega
  | cons x t ih =>
    intro o h
    simp only [Lib.indexByte] at h
    by_cases e : x = c
    · subst e
      simp at h
      obtain rfl : o = 0 := by omega
      simp [splitL]
    · have e2 : (x == c) = false := by rw [beq_eq_false_iff_ne]; exact e
      rw [e2] at h
      have hge := Lib.indexByte_ge t c
      by_cases h1 : Lib.indexByte t c = -1
      · rw [h1] at h
        simp at h
      · have h3 : (Lib.indexByte t c == -1) = false := by rw [beq_eq_false_iff_ne]; exact h1
        rw [h3] at h
        simp at h
        obtain ⟨o', ho'⟩ := Int.eq_ofNat_of_zero_le (show 0 ≤ Lib.indexByte t c by omega)
        obtain rfl : o = o' + 1 := by omega
        simp only [splitL, if_neg e, ih ho', List.take_succ_cons, List.drop_succ_cons]
def bytesOf (l : List UInt8) : ByteArray := ⟨l.toArray⟩
theorem bytesOf_data (s : ByteArray) : bytesOf s.data.toList = s := rfl
def splitS (c : UInt8) (s : ByteArray) : List ByteArray := (splitL c s.data.toList).map bytesOf
theorem splitS_none {c : UInt8} {s : ByteArray} (h : Lib.indexByte s.data.toList c = -1) : splitS c s = [s] := by
  unfold splitS
  rw [splitL_none h]
  rfl
theorem extract_all (s : ByteArray) (k : Nat) : bytesOf (s.data.toList.drop k) = s.extract k s.size := by
  have := Lib.extract_to_end s k
  rw [← this]
  rfl
theorem extract_head (s : ByteArray) (k : Nat) : bytesOf (s.data.toList.take k) = s.extract 0 k := by
  have := Lib.extract_data s 0 k
  rw [List.drop_zero, Nat.sub_zero] at this
  rw [← this]
  rfl
theorem splitS_some {c : UInt8} {s : ByteArray} {o : Nat} (h : Lib.indexByte s.data.toList c = (o : Int)) : splitS c s = s.extract 0 o :: splitS c (s.extract (o + 1) s.size) := by
  unfold splitS
  rw [splitL_some h, List.map_cons, extract_head, Lib.extract_to_end]
theorem index_lt {c : UInt8} {s : ByteArray} {o : Nat} (h : Lib.indexByte s.data.toList c = (o : Int)) : o < s.size := by
  have h1 := (Lib.indexByte_some h).1
  have := (List.getElem?_eq_some_iff.1 h1).1
  simpa using this
theorem cut_str_hi (s : ByteArray) (k : Nat) (h : k ≤ s.size) (w : World) : (Instr.sliceAt 9 (.string s) none (some (.int .i64 (k : Int))) none).run Tryd.prog w = .ok (.string (s.extract 0 k)) w := by
  simp [go_sem]
  intro h2
  omega
theorem cut_str_lo (s : ByteArray) (k : Nat) (h : k ≤ s.size) (w : World) : (Instr.sliceAt 9 (.string s) (some (.int .i64 (k : Int))) none none).run Tryd.prog w = .ok (.string (s.extract k s.size)) w := by
  simp [go_sem]
  intro h2
  omega
/-- How much is left in the iterator's own cell. -/
def leftAt (B : Nat) (w : World) : Nat := match w.cell? ⟨B, 0, none⟩ with
  | some (.string s) => s.size + 1
  | _ => 0
theorem leftAt_eq {B : Nat} {w : World} {s : ByteArray} (h : w.cell? ⟨B, 0, none⟩ = some (.string s)) : leftAt B w = s.size + 1 := by unfold leftAt; rw [h]
set_option maxRecDepth 100000 in
set_option maxHeartbeats 4000000 in
theorem split_gives (F : Fence) (n : Nat) (hF : F = Fence.wide) (hn : 1 ≤ n) (B : Nat) (s : ByteArray) (c : UInt8) (hs : s.size ≤ 4611686018427387904) (w : World) (hb : B + 2 < w.heap.size)
    (c0 : w.cell? ⟨B, 0, none⟩ = some (.string s)) (f0 : w.frozen? ⟨B, 0, none⟩ = false) (c1 : w.cell? ⟨B + 1, 0, none⟩ = some (.string ⟨#[c]⟩)) (c2 : w.cell? ⟨B + 1 + 1, 0, none⟩ = some (.int .i64 0)) :
    GivesAll F n Tryd.prog 84 #[.pointer (some ⟨B + 1, 0, none⟩), .pointer (some ⟨B, 0, none⟩), .pointer (some ⟨B + 1 + 1, 0, none⟩)] B Value.string (splitS c s) w := by
  subst hF
  intro l J Jx W hW hJ hY h0
  have d0 := (hW.cell (p := ⟨B, 0, none⟩) (by simp; omega)).trans c0
  have d1 := (hW.cell (p := ⟨B + 1, 0, none⟩) (by simp; omega)).trans c1
  have d2 := (hW.cell (p := ⟨B + 1 + 1, 0, none⟩) (by simp; omega)).trans c2
  have e0 := (hW.frozen (p := ⟨B, 0, none⟩) (by simp; omega)).trans f0
  clear c0 c1 c2 f0
  have HY := Lib.hid hY; have HJ := Lib.hid hJ
  clear hY hJ
  refine callsIn_of_wp Tryd.func84 rfl trivial ?_ rfl
  simp only [Tryd.ntmps84, List.size_toArray, List.length_cons, List.length_nil, Nat.reduceAdd, Nat.reduceSub, Array.replicate_succ, Array.replicate_zero, List.push_toArray, List.append_toArray, List.nil_append, List.cons_append]
  gi_wp2
  gi_loopw [] (fun wr => ∃ (pre : List ByteArray) (cur : ByteArray), pre ++ splitS c cur = splitS c s ∧ cur.size ≤ s.size ∧ J pre wr ∧ wr.cell? ⟨B, 0, none⟩ = some (.string cur) ∧ wr.frozen? ⟨B, 0, none⟩ = false ∧ wr.cell? ⟨B + 1, 0, none⟩ = some (.string ⟨#[c]⟩) ∧ wr.cell? ⟨B + 1 + 1, 0, none⟩ = some (.int .i64 0)) (fun wr => leftAt B wr)
  case atStart => exact ⟨[], s, rfl, Nat.le_refl _, h0, d0, e0, d1, d2⟩
  case round =>
    clear d0 d1 d2 e0
    obtain ⟨pre, cur, hpc, hcs, hj, d0, e0, d1, d2⟩ := hrel
    have hidx := Tryd.strings_Index_one cur c wr
    have hge := Lib.indexByte_ge cur.data.toList c
    by_cases hno : Lib.indexByte cur.data.toList c = -1
    · have hsp := splitS_none hno
      rw [hno] at hidx
      rw [hsp] at hpc
      obtain ⟨fn, tmps, assign, body, hy, hR⟩ := HY.out pre cur wr ⟨[], by rw [List.append_nil]; exact hpc⟩ hj
      have HIX := Lib.hid hidx; have HPC := Lib.hid hpc; have HR := Lib.hid hR
      clear hidx hpc hsp hge hno hR
      gi_wp2_with (refine ⟨trivial, ?_⟩; gi_at_call 73; refine (callsIn_wide.2 HIX.out).mono ?_; rintro e wx ⟨rfl, rfl⟩)
      refine HR.out.mono ?_
      rintro e W3 (⟨rfl, hJ3, hk3⟩ | ⟨rfl, hJx3⟩)
      · gi_wp2
        go_end0
        exact ⟨⟨_, rfl⟩, .inl (by rw [← HPC.out]; exact hJ3)⟩
      · gi_wp2
        go_end0
        exact ⟨⟨_, rfl⟩, .inr ⟨pre ++ [cur], by rw [HPC.out]; exact List.prefix_refl _, hJx3⟩⟩
    · obtain ⟨o, ho⟩ := Int.eq_ofNat_of_zero_le (show 0 ≤ Lib.indexByte cur.data.toList c by omega)
      have hsp := splitS_some ho
      have holt := index_lt ho
      rw [ho] at hidx
      rw [hsp] at hpc
      have hhi := fun w => cut_str_hi cur o (by omega) w
      have hlo : ∀ w : World, (Instr.sliceAt 9 (.string cur) (some (.int .i64 ((o : Int) + 1))) none none).run Tryd.prog w = .ok (.string (cur.extract (o + 1) cur.size)) w := fun w => by
        have := cut_str_lo cur (o + 1) (by omega) w
        rw [show ((o + 1 : Nat) : Int) = (o : Int) + 1 by simp] at this
        exact this
      have hsz : (cur.extract (o + 1) cur.size).size < cur.size := by simp [ByteArray.size_extract]; omega
      have hgen : (cur.extract 0 o).size ≤ cur.size := by simp [ByteArray.size_extract]; omega
      generalize cur.extract 0 o = frag at *
      generalize cur.extract (o + 1) cur.size = rest at *
      obtain ⟨fn, tmps, assign, body, hy, hR⟩ := HY.out pre frag wr ⟨splitS c rest, by rw [← hpc]; simp⟩ hj
      have hla := leftAt_eq d0
      have HIX := Lib.hid hidx; have HPC := Lib.hid hpc; have HR := Lib.hid hR; have HLA := Lib.hid hla
      clear hidx hpc hsp hge hno hR ho hla
      gi_wp2_with (refine ⟨trivial, ?_⟩; gi_at_call 73; refine (callsIn_wide.2 HIX.out).mono ?_; rintro e wx ⟨rfl, rfl⟩)
      refine HR.out.mono ?_
      rintro e W3 (⟨rfl, hJ3, hk3⟩ | ⟨rfl, hJx3⟩)
      · have d0' := (hk3.cell (k := B) (by omega) (by omega) 0).trans d0
        have d1' := (hk3.cell (k := B + 1) (by omega) (by omega) 0).trans d1
        have d2' := (hk3.cell (k := B + 1 + 1) (by omega) (by omega) 0).trans d2
        have e0' := (hk3.froz (k := B) (by omega) (by omega) 0).trans e0
        clear d0 d1 d2 e0 hk3
        gi_wp2
        go_roundw
        case rel => exact ⟨pre ++ [frag], rest, by rw [← HPC.out]; simp, by omega, HJ.out _ _ _ hJ3, by first | (go_simp; done) | exact World.cell?_setCell_same' _ _ _ (by rw [d0']; rfl), by rw [World.frozen?_setCell]; exact e0', by go_simp, by go_simp⟩
        case measure => rw [HLA.out, leftAt_eq (s := rest) (World.cell?_setCell_same' _ _ _ (by rw [d0']; rfl))]; omega
      · gi_wp2
        refine bodyPost_ret (results_none rfl _ _ _) rfl ?_
        exact ⟨⟨_, rfl⟩, .inr ⟨pre ++ [frag], ⟨splitS c rest, by rw [← HPC.out]; simp⟩, hJx3⟩⟩
end Go.Proofs.YtbgnaohjcfbaaaaDoor
