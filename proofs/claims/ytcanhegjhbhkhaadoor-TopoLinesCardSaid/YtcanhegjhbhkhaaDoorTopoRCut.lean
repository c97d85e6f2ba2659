/- messuageref03.cut. -/
import Derived.Test.YtcanhegjhbhkhaaDoorTopoRNum
namespace Go.Proofs.YtcanhegjhbhkhaaDoor
open Go.RowKit Go.Shelf
set_option linter.unusedVariables false
set_option linter.unusedSimpArgs false
attribute [local go_sem] World.cell?_alloc_lt

theorem extract_mid (s : ByteArray) (f i : Nat) : bytesOf ((s.data.toList.drop f).take (i - f)) = s.extract f i := by
  apply ByteArray.ext
  rw [ByteArray.data_extract]
  apply Array.ext'
  rw [Array.toList_extract, List.extract_eq_take_drop]
  rfl
theorem cut_str_mid (s : ByteArray) (f k : Nat) (h : f ≤ k) (h2 : k ≤ s.size) (w : World) : (Instr.sliceAt 9 (.string s) (some (.int .i64 (f : Int))) (some (.int .i64 (k : Int))) none).run Tryd.prog w = .ok (.string (s.extract f k)) w := by
  simp [go_sem]
  rw [if_pos h2, if_pos h]
theorem drop_mid {l : List UInt8} {f i : Nat} (hf : f ≤ i) (hi : i < l.length) : (l.drop f).take (i + 1 - f) = (l.drop f).take (i - f) ++ [l[i]] := by
  have : i + 1 - f = (i - f) + 1 := by omega
  rw [this, List.take_add_one, List.getElem?_drop]
  have e : f + (i - f) = i := by omega
  rw [e, List.getElem?_eq_getElem hi]
  rfl
theorem drop_cut {l : List UInt8} {f i : Nat} (hf : f ≤ i) (hi : i < l.length) : l.drop f = (l.drop f).take (i - f) ++ l[i] :: l.drop (i + 1) := by
  conv => lhs; rw [← List.take_append_drop (i - f) (l.drop f)]
  rw [List.drop_drop]
  have e : f + (i - f) = i := by omega
  rw [e, List.drop_eq_getElem_cons hi]
/-- How far the cutting has come. -/
def CutAt (l : List UInt8) (c : UInt8) (done : List (List UInt8)) (f i : Nat) : Prop :=
  done.length ≤ f ∧ ((f ≤ i ∧ i ≤ l.length ∧ splitL c l = done ++ splitL c (l.drop f) ∧ ∀ x ∈ (l.drop f).take (i - f), x ≠ c) ∨ (i = l.length + 1 ∧ f = i ∧ splitL c l = done))
theorem CutAt.zero (l : List UInt8) (c : UInt8) : CutAt l c [] 0 0 := ⟨Nat.le_refl _, Or.inl ⟨Nat.le_refl _, Nat.zero_le _, rfl, by simp⟩⟩
theorem CutAt.le {l : List UInt8} {c : UInt8} {done : List (List UInt8)} {f i : Nat} (h : CutAt l c done f i) : i ≤ l.length + 1 ∧ f ≤ i ∧ done.length ≤ f := by
  obtain ⟨h0, ⟨a, b, _⟩ | ⟨a, b, _⟩⟩ := h <;> omega
theorem CutAt.step {l : List UInt8} {c : UInt8} {done : List (List UInt8)} {f i : Nat} (h : CutAt l c done f i) (hi : i < l.length) (hne : l[i] ≠ c) : CutAt l c done f (i + 1) := by
  obtain ⟨h0, ⟨a, b, e, hx⟩ | ⟨a, b, _⟩⟩ := h
  · refine ⟨h0, Or.inl ⟨by omega, by omega, e, ?_⟩⟩
    rw [drop_mid a hi]
    intro x hm
    rcases List.mem_append.1 hm with hm | hm
    · exact hx x hm
    · rw [List.mem_singleton.1 hm]; exact hne
  · omega
theorem CutAt.cut {l : List UInt8} {c : UInt8} {done : List (List UInt8)} {f i : Nat} (h : CutAt l c done f i) (hi : i < l.length) (he : l[i] = c) : CutAt l c (done ++ [(l.drop f).take (i - f)]) (i + 1) (i + 1) := by
  obtain ⟨h0, ⟨a, b, e, hx⟩ | ⟨a, b, _⟩⟩ := h
  · refine ⟨by rw [List.length_append, List.length_singleton]; omega, Or.inl ⟨by omega, by omega, ?_, by simp⟩⟩
    rw [e, drop_cut a hi, he, split_line _ hx, List.append_assoc]
    have : (List.take (i - f) (List.drop f l) ++ c :: List.drop (i + 1) l).take (i - f) = (l.drop f).take (i - f) := by
      rw [List.take_append_of_le_length (by rw [List.length_take, List.length_drop]; omega), List.take_take, Nat.min_self]
    rw [this]
    rfl
  · omega
theorem CutAt.last {l : List UInt8} {c : UInt8} {done : List (List UInt8)} {f : Nat} (h : CutAt l c done f l.length) : CutAt l c (done ++ [(l.drop f).take (l.length - f)]) (l.length + 1) (l.length + 1) := by
  obtain ⟨h0, ⟨a, b, e, hx⟩ | ⟨a, b, _⟩⟩ := h
  · refine ⟨by rw [List.length_append, List.length_singleton]; omega, Or.inr ⟨rfl, rfl, ?_⟩⟩
    have ht : (l.drop f).take (l.length - f) = l.drop f := List.take_of_length_le (by rw [List.length_drop]; omega)
    rw [ht] at hx ⊢
    rw [e, split_last hx]
  · omega
theorem CutAt.done {l : List UInt8} {c : UInt8} {done : List (List UInt8)} {f i : Nat} (h : CutAt l c done f i) (hi : l.length < i) : splitL c l = done := by
  obtain ⟨h0, ⟨a, b, e, hx⟩ | ⟨a, b, e⟩⟩ := h
  · omega
  · exact e
theorem info_strC : (Tryd.prog.info? 9).map (fun i => (i.zero, i.size, i.bytes)) = some (some (.string ByteArray.empty), 1, 16) := by kernel_rfl
set_option maxRecDepth 100000 in
theorem rcut_any (t : ByteArray) (c : UInt8) (ht : t.size ≤ 1000000) (w : World) : Calls Tryd.prog 55 #[.string t, .int .u8 c.toNat] w fun e w' => ∃ A k, e = .returned (.slice A (splitL c t.data.toList).length k) ∧ w'.ownsRow w.heap.size 9 1 (.slice A (splitL c t.data.toList).length k) (splitL c t.data.toList).length ((splitL c t.data.toList).map (fun x => Value.string (bytesOf x))) ∧ Below w.heap.size w w' := by
  have hlen : t.data.toList.length = t.size := len_dataT t
  have hget : ∀ i : Nat, ∀ h : i < t.size, t.data.toList[i]'(by rw [len_dataT]; exact h) = t[i] := fun i h => rfl
  have hmid := fun f i => extract_mid t f i
  have HMID := Lib.hid hmid; have HGET := Lib.hid hget; have HLEN := Lib.hid hlen
  clear hmid hget hlen
  go_enter Tryd.func55, Tryd.ntmps55
  go_wp2_with fail
  go_loopw [5, 6, 7] (fun v5 v6 v7 wr => ∃ (ds : List (List UInt8)) (f i : Nat) (A : Option Addr) (k : Nat), CutAt t.data.toList c ds f i ∧ v7 = .int .i64 (i : Int) ∧ v6 = .int .i64 (f : Int) ∧ v5 = .slice A ds.length k ∧ wr.ownsRow w.heap.size 9 1 (.slice A ds.length k) ds.length (ds.map (fun x => Value.string (bytesOf x))) ∧ Below w.heap.size w wr) (fun _ _ v7 _ => t.size + 1 - (intOf v7).toNat)
  case atStart => exact ⟨[], 0, 0, none, 0, CutAt.zero _ _, rfl, rfl, rfl, World.ownsRow_nil _ _ _ _, Below.refl _ _⟩
  case round =>
    obtain ⟨ds, f, i, A, k, hcut, rfl, rfl, rfl, hown, hB⟩ := hrel
    have hle := hcut.le
    rw [HLEN.out] at hle
    by_cases hlt : i < t.size
    · by_cases he : t[i] = c
      · have hnx := hcut.cut (by rw [HLEN.out]; exact hlt) (by rw [HGET.out i hlt]; exact he)
        have hce : (((t[i]'hlt).toNat : Int) == (c.toNat : Int)) = true := by rw [he]; simp
        have hsl := fun w => cut_str_mid t f i hle.2.1 (by omega) w
        have HN := Lib.hid hnx; clear hnx hcut he
        have hoa := own_chV hown ((Ch.refl [] wr).alloc (.cells #[.string (t.extract f i)] 9)) (by simp)
        have hsz := hB.size
        go_wp2_with (at_builtin; (refine wpList_push _ rfl (.tmp 25) (.tmp 30) 52 rfl w.heap.size 9 (.string ByteArray.empty) 16 Tryd.underlying52 info_strC rfl A ds.length k _ rfl hoa wr.heap.size 1 (.string (t.extract f i)) rfl ?_ rfl (by omega) (by omega) (by simp; omega) ?_))
        · simp
        intro ga cp w4 hown4 hgr4 hor
        have hB4 := (bel_alloc hB (.cells #[.string (t.extract f i)] 9)).grown hgr4 (by simp; have := hB.size; omega) (fun k hk => (own_base hown k hk).1)
        have hl2 : (ds ++ [(t.data.toList.drop f).take (i - f)]).length = ds.length + 1 := by simp
        have hown4 : w4.ownsRow w.heap.size 9 1 (.slice (some ⟨ga, 0, none⟩) (ds.length + 1) cp) (ds.length + 1) ((ds ++ [(t.data.toList.drop f).take (i - f)]).map (fun x => Value.string (bytesOf x))) := by
          rw [List.map_append, List.map_singleton, HMID.out]; exact hown4
        clear hown hgr4 hor hB
        go_wp2_with fail
        go_roundw
        case rel => exact ⟨ds ++ [(t.data.toList.drop f).take (i - f)], i + 1, i + 1, some ⟨ga, 0, none⟩, cp, HN.out, by go_num, by go_num, by rw [hl2], by rw [hl2]; exact hown4, hB4⟩
        case measure => simp [intOf]; omega
      · have hnx := hcut.step (by rw [HLEN.out]; exact hlt) (by rw [HGET.out i hlt]; exact he)
        have hce : (((t[i]'hlt).toNat : Int) == (c.toNat : Int)) = false := by
          rw [beq_eq_false_iff_ne]; intro e; exact he (UInt8.toNat_inj.1 (by omega))
        have HN := Lib.hid hnx; clear hnx hcut he
        go_wp2_with fail
        go_roundw
        case rel => exact ⟨ds, f, i + 1, A, k, HN.out, by go_num, rfl, rfl, hown, hB⟩
        case measure => simp [intOf]; omega
    · by_cases hend : i = t.size
      · have hcut2 : CutAt t.data.toList c ds f t.data.toList.length := by rw [HLEN.out, ← hend]; exact hcut
        have hnx := hcut2.last
        rw [HLEN.out] at hnx
        have hsl := fun w => cut_str_mid t f t.size (by omega) (Nat.le_refl _) w
        have HN := Lib.hid hnx; clear hnx hcut hcut2
        subst hend
        have hoa := own_chV hown ((Ch.refl [] wr).alloc (.cells #[.string (t.extract f t.size)] 9)) (by simp)
        have hsz := hB.size
        go_wp2_with (at_builtin; (refine wpList_push _ rfl (.tmp 25) (.tmp 30) 52 rfl w.heap.size 9 (.string ByteArray.empty) 16 Tryd.underlying52 info_strC rfl A ds.length k _ rfl hoa wr.heap.size 1 (.string (t.extract f t.size)) rfl ?_ rfl (by omega) (by omega) (by simp; omega) ?_))
        · simp
        intro ga cp w4 hown4 hgr4 hor
        have hB4 := (bel_alloc hB (.cells #[.string (t.extract f t.size)] 9)).grown hgr4 (by simp; have := hB.size; omega) (fun k hk => (own_base hown k hk).1)
        have hl2 : (ds ++ [(t.data.toList.drop f).take (t.size - f)]).length = ds.length + 1 := by simp
        have hown4 : w4.ownsRow w.heap.size 9 1 (.slice (some ⟨ga, 0, none⟩) (ds.length + 1) cp) (ds.length + 1) ((ds ++ [(t.data.toList.drop f).take (t.size - f)]).map (fun x => Value.string (bytesOf x))) := by
          rw [List.map_append, List.map_singleton, HMID.out]; exact hown4
        clear hown hgr4 hor hB
        go_wp2_with fail
        go_roundw
        case rel => exact ⟨ds ++ [(t.data.toList.drop f).take (t.size - f)], t.size + 1, t.size + 1, some ⟨ga, 0, none⟩, cp, HN.out, by go_num, by go_num, by rw [hl2], by rw [hl2]; exact hown4, hB4⟩
        case measure => simp [intOf]
      · obtain rfl : splitL c t.data.toList = ds := hcut.done (by rw [HLEN.out]; omega)
        clear hcut
        go_wp2_with fail
        go_ret
        exact ⟨_, _, rfl, hown, hB⟩
end Go.Proofs.YtcanhegjhbhkhaaDoor
