/- messuageref03.line. -/
import Derived.Test.YtcanhegjhbhkhaaDoorTopoRPure
namespace Go.Proofs.YtcanhegjhbhkhaaDoor
open Go.RowKit Go.Shelf
set_option linter.unusedVariables false
set_option linter.unusedSimpArgs false
attribute [local go_sem] World.cell?_alloc_lt

/-- cut, in words. -/
theorem rcut_words (t : ByteArray) (c : UInt8) (C : Int) (hC : (c.toNat : Int) = C) (ht : t.size ≤ 1000000) (w : World) : Calls Tryd.prog 55 #[.string t, .int .u8 C] w fun e w' => ∃ A k, e = .returned (.slice A (wordsB c t).length k) ∧ w'.ownsRow w.heap.size 9 1 (.slice A (wordsB c t).length k) (wordsB c t).length ((wordsB c t).map Value.string) ∧ Below w.heap.size w w' := by
  subst hC
  have hw := words_of (c := c) (s := t) rfl
  refine (rcut_any t c ht w).mono ?_
  rintro e w' ⟨A, k, rfl, hO, hB⟩
  refine ⟨A, k, ?_, ?_, hB⟩
  · rw [hw, List.length_map]
  · rw [hw, List.length_map, List.map_map]
    exact hO
theorem num_neg (x : ByteArray) : (noNum x = true ∧ rnumV x = -1) ∨ (noNum x = false ∧ rnumV x = (numT x).1 ∧ 0 ≤ rnumV x) := by
  unfold noNum rnumV numT
  cases h : okNum x with
  | true => right; simp
  | false => left; simp
set_option maxRecDepth 100000 in
set_option maxHeartbeats 1000000 in
theorem rline_any (s word : ByteArray) (one : Bool) (hs : s.size ≤ 1000000) (w : World) : Calls Tryd.prog 56 #[.string s, .string word, .bool one] w fun e w' => ∃ A c, e = .returned (.tuple #[.slice A (lineV s word one).1.length c, .bool (lineV s word one).2]) ∧ w'.ownsRow w.heap.size 3 1 (.slice A (lineV s word one).1.length c) (lineV s word one).1.length ((lineV s word one).1.map (Value.int .i64)) ∧ Below w.heap.size w w' := by
  obtain ⟨V, hV⟩ : ∃ V, lineV s word one = V := ⟨_, rfl⟩
  rw [hV]
  obtain ⟨y, tl, hws⟩ : ∃ y tl, wordsB 32 s = y :: tl := by
    have := words_len 32 s
    match hq : wordsB 32 s with
    | [] => rw [hq] at this; simp at this
    | y :: tl => exact ⟨y, tl, rfl⟩
  have hcut := fun w => rcut_words s 32 32 rfl hs w
  have hlz := words_len 32 s
  rw [hws] at hlz hcut
  have hsw : ∀ x ∈ tl, x.size ≤ 1000000 := fun x hx => by
    have := words_size 32 s x (by rw [hws]; exact List.mem_cons_of_mem _ hx)
    omega
  have htl : tl.length ≤ 1000000 := by
    have h1 := Lib.countB_le ⟨#[32]⟩ (Nat.le_refl 1) s.size s (Nat.le_refl _)
    rw [List.length_cons] at hlz
    omega
  have hbad : (headBad (y :: tl) word one || tl.any noNum) = true → V = ([], false) := fun h => by
    rw [← hV]; unfold lineV; rw [hws, List.tail_cons, if_pos h]
  have hgood : headBad (y :: tl) word one = false → tl.any noNum = false → V = (numsT tl, true) := fun h h2 => by
    rw [← hV]; unfold lineV; rw [hws, List.tail_cons, if_neg (by rw [h, h2]; simp)]
  have hHB : headBad (y :: tl) word one = (!(decide (y = word)) || (decide (tl.length + 1 < 2) || (one && decide (tl.length + 1 ≠ 2)))) := by
    unfold headBad; simp
  simp only [List.length_cons, List.map_cons] at hcut
  have HCUT := Lib.hid hcut; have HBAD := Lib.hid hbad; have HGOOD := Lib.hid hgood; have HHB := Lib.hid hHB; have HSW := Lib.hid hsw
  clear hcut hbad hgood hHB hlz hws hV hsw
  go_enter Tryd.func56, Tryd.ntmps56
  go_wp2_with fail
  refine (HCUT.out _).mono ?_; rintro e w1 ⟨A, kc, rfl, hO, hB⟩
  obtain ⟨g, cap, hv, hbg, hlt⟩ := hO.form (by omega)
  injection hv with hA _ _
  subst hA
  have hZ : InZ w1 (some ⟨g, 0, none⟩) (tl.length + 1) (y :: tl) := InZ.own hO
  have HZ := Lib.hid hZ; have HB := Lib.hid hB
  clear hO hB HCUT hZ
  have hi0 := fun w => idx_z g 0 (tl.length + 1) kc 0 (by omega) w
  have p0 : w1.cell? ⟨g, 0, none⟩ = some (.string y) := by
    obtain ⟨b, off, z, e1, _, e2, e3⟩ := HZ.out.get (i := 0) (by omega)
    injection e1 with e1
    injection e1 with e1 e4
    subst e1 e4
    simp at e2 e3
    subst e2
    exact e3
  rcases (by
    by_cases h1 : y = word
    · by_cases h2 : tl.length + 1 < 2
      · exact Or.inr (Or.inl ⟨h1, h2⟩)
      · by_cases h3 : one = true
        · by_cases h4 : tl.length + 1 = 2
          · exact Or.inr (Or.inr (Or.inl ⟨h1, h3, h4⟩))
          · exact Or.inr (Or.inr (Or.inr (Or.inl ⟨h1, by omega, h3, h4⟩)))
        · exact Or.inr (Or.inr (Or.inr (Or.inr ⟨h1, by omega, by simpa using h3⟩)))
    · exact Or.inl h1 : y ≠ word ∨ (y = word ∧ tl.length + 1 < 2) ∨ (y = word ∧ one = true ∧ tl.length + 1 = 2) ∨ (y = word ∧ 2 ≤ tl.length + 1 ∧ one = true ∧ tl.length + 1 ≠ 2) ∨ (y = word ∧ 2 ≤ tl.length + 1 ∧ one = false)) with h1 | ⟨h1, h2'⟩ | ⟨h1, h3, h4⟩ | ⟨h1, h2', h3, h4⟩ | ⟨h1, h2', h3⟩
  · obtain rfl := HBAD.out (by rw [HHB.out, decide_eq_false h1]; rfl)
    have hyw := str_ne h1
    clear HHB h1 HBAD HGOOD
    go_wp2_with fail
    go_ret2
    exact ⟨none, 0, rfl, World.ownsRow_nil _ _ _ _, HB.out⟩
  · obtain rfl := HBAD.out (by rw [HHB.out, decide_eq_true h1, decide_eq_true h2']; rfl)
    have hyw := str_eq h1
    have hl2 : ((tl.length : Int) + 1 < 2) := by omega
    clear HHB h1 HBAD HGOOD h2'
    go_wp2_with fail
    go_ret2
    exact ⟨none, 0, rfl, World.ownsRow_nil _ _ _ _, HB.out⟩
  rotate_left
  · obtain rfl := HBAD.out (by rw [HHB.out, decide_eq_true h1, decide_eq_true h4, h3]; simp)
    have hyw := str_eq h1
    have hl2 : ¬ ((tl.length : Int) + 1 < 2) := by omega
    have hl3 : ((tl.length : Int) + 1 != 2) = true := by simp; omega
    clear HHB h1 HBAD HGOOD h2' h4
    subst h3
    go_wp2_with fail
    go_ret2
    exact ⟨none, 0, rfl, World.ownsRow_nil _ _ _ _, HB.out⟩
  all_goals
    have hyw := str_eq h1
    have hl2 : ¬ ((tl.length : Int) + 1 < 2) := by omega
  · have hok : headBad (y :: tl) word one = false := by rw [HHB.out, h1, h3]; simp; omega
    have HG := Lib.hid (HGOOD.out hok)
    have HBD := Lib.hid (fun (h : tl.any noNum = true) => HBAD.out (by rw [h, Bool.or_true]))
    clear HHB h1 HBAD HGOOD h2' hok
    subst h3
    go_wp2_with fail
    go_loopw [9, 10] (fun v9 v10 wr => ∃ (k : Nat) (A' : Option Addr) (c' : Nat), k ≤ tl.length ∧ v10 = .int .i64 ((k : Int) + 1) ∧ v9 = .slice A' k c' ∧ (tl.take k).any noNum = false ∧ wr.ownsRow w1.heap.size 3 1 (.slice A' k c') k ((numsT (tl.take k)).map (Value.int .i64)) ∧ Below w1.heap.size w1 wr) (fun _ v _ => tl.length + 1 - (intOf v).toNat)
    case atStart => exact ⟨0, none, 0, by omega, rfl, rfl, rfl, World.ownsRow_nil _ _ _ _, Below.refl _ _⟩
    case round =>
      clear p0 hyw hl2 hi0
      obtain ⟨k, A', c', hk, rfl, rfl, hany, hown, hB1⟩ := hrel
      by_cases hkl : k < tl.length
      · have hxk : tl[k]? = some tl[k] := List.getElem?_eq_getElem hkl
        have hcx : wr.cell? ⟨g, k + 1, none⟩ = some (.string tl[k]) := by
          obtain ⟨b, off, z, e1, e0, e2, e3⟩ := HZ.out.get (i := k + 1) (by omega)
          injection e1 with e1
          injection e1 with e1 e4
          subst e1 e4
          rw [List.getElem?_cons_succ, hxk] at e2
          injection e2 with e2
          subst e2
          rw [Nat.zero_add] at e3
          exact (hB1.cell (p := ⟨g, k + 1, none⟩) e0).trans e3
        have hidk : ∀ w : World, (Instr.indexAt 52 (.slice (some ⟨g, 0, none⟩) (tl.length + 1) kc) (.int .i64 ((k : Int) + 1))).run Tryd.prog w = .ok (.pointer (some ⟨g, k + 1, none⟩)) w := fun w => by
          have h := idx_z g 0 (tl.length + 1) kc (k + 1) (by omega) w
          rw [Nat.zero_add] at h
          exact h
        have hnum := fun w => rnumber_any tl[k] (by have := HSW.out _ (List.getElem_mem hkl); omega) w
        have hnn : numsT (tl.take (k + 1)) = numsT (tl.take k) ++ [(numT tl[k]).1] := by
          unfold numsT; rw [List.take_add_one, hxk, List.map_append]; rfl
        have han : noNum tl[k] = false → (tl.take (k + 1)).any noNum = false := fun h => by
          rw [List.take_add_one, hxk, List.any_append, hany]; simp [h]
        have htr : noNum tl[k] = true → tl.any noNum = true := fun h => List.any_eq_true.2 ⟨_, List.getElem_mem hkl, h⟩
        have hneg := num_neg tl[k]
        have HNN := Lib.hid hnn; have HAN := Lib.hid han; have HNU := Lib.hid hnum; have HTR := Lib.hid htr; have HB1 := Lib.hid hB1; have HOW := Lib.hid hown
        clear hnn han hnum hxk htr hany hB1 hown
        generalize numsT (tl.take k) = nl at *
        generalize tl[k] = xk at *
        rcases hneg with ⟨hn, hv⟩ | ⟨hn, hv, h0⟩
        · have HV := Lib.hid (HBD.out (HTR.out hn))
          rw [hv] at HNU
          clear hv hn HTR HAN HNN HG HOW
          go_wp2_with fail
          refine (HNU.out _).mono ?_; rintro e w5 ⟨rfl, rfl⟩
          go_wp2_with fail
          go_ret2
          exact ⟨none, 0, by rw [HV.out]; rfl, by rw [HV.out]; exact World.ownsRow_nil _ _ _ _, bel_trans HB.out HB1.out⟩
        · have hA2 := Lib.hid (HAN.out hn)
          rw [hv] at HNU h0
          generalize (numT xk).1 = nv at *
          clear hv hn HTR HAN
          have hneg : ¬ nv < 0 := by omega
          go_wp2_with fail
          refine (HNU.out _).mono ?_; rintro e w5 ⟨rfl, rfl⟩
          have hlow := fun q (hq : (Value.slice A' k c').ownBlock = some q) => (HOW.out.lt q hq).1
          have HLW := Lib.hid hlow
          have HOK := Lib.hid (own_chV HOW.out ((Ch.refl [] wr).alloc (.cells #[.int .i64 nv] 3)) (by simp))
          have HBK := Lib.hid (Blk.new wr 3 [.int .i64 nv])
          have HC7 := Lib.hid (bel_alloc HB1.out (.cells #[.int .i64 nv] 3))
          clear hlow hcx HNU HOW
          go_wp2_with (at_builtin; refine wpList_push _ rfl (.tmp 45) (.tmp 47) 23 rfl w1.heap.size 3 (.int .i64 0) 8 Tryd.underlying23 info_intT rfl A' k c' (nl.map (Value.int .i64)) rfl HOK.out wr.heap.size 1 (.int .i64 nv) rfl (HBK.out.at_ rfl) rfl (by omega) (by omega) HC7.out.size ?_)
          intro g2 cap w8 ho8 hg8 hor8
          have hB8 := HC7.out.grown hg8 HC7.out.size HLW.out
          have HO8 := Lib.hid ho8; have HB8 := Lib.hid hB8
          clear ho8 hg8 hor8 HOK HBK HC7 hB8
          go_wp2_with fail
          go_roundw
          case rel => exact ⟨k + 1, _, _, by omega, by go_num, rfl, hA2.out, by rw [HNN.out, List.map_append]; exact HO8.out, HB8.out⟩
          case measure => simp [intOf]; omega
      · obtain rfl : k = tl.length := by omega
        rw [List.take_of_length_le (Nat.le_refl _)] at hown hany
        have HV := Lib.hid (HG.out hany)
        have hlN : (numsT tl).length = tl.length := by simp [numsT]
        have HLN := Lib.hid hlN; have HOW := Lib.hid hown; have HB1 := Lib.hid hB1
        clear hown hany hlN hB1 HG HBD
        go_wp2_with fail
        go_ret2
        exact ⟨A', c', by rw [HV.out]; show _ = Ending.returned (.tuple #[.slice A' (numsT tl).length c', .bool true]); rw [HLN.out]; rfl, by rw [HV.out]; simp only; rw [HLN.out]; exact own_base0 HOW.out HB.out.size, bel_trans HB.out HB1.out⟩
  · have hok : headBad (y :: tl) word one = false := by rw [HHB.out, h1, h3]; simp; omega
    have hl3 : ((tl.length : Int) + 1 != 2) = false := by simp; omega
    have HG := Lib.hid (HGOOD.out hok)
    have HBD := Lib.hid (fun (h : tl.any noNum = true) => HBAD.out (by rw [h, Bool.or_true]))
    clear HHB h1 HBAD HGOOD h4 hok
    subst h3
    go_wp2_with fail
    go_loopw [9, 10] (fun v9 v10 wr => ∃ (k : Nat) (A' : Option Addr) (c' : Nat), k ≤ tl.length ∧ v10 = .int .i64 ((k : Int) + 1) ∧ v9 = .slice A' k c' ∧ (tl.take k).any noNum = false ∧ wr.ownsRow w1.heap.size 3 1 (.slice A' k c') k ((numsT (tl.take k)).map (Value.int .i64)) ∧ Below w1.heap.size w1 wr) (fun _ v _ => tl.length + 1 - (intOf v).toNat)
    case atStart => exact ⟨0, none, 0, by omega, rfl, rfl, rfl, World.ownsRow_nil _ _ _ _, Below.refl _ _⟩
    case round =>
      clear p0 hyw hl2 hi0
      obtain ⟨k, A', c', hk, rfl, rfl, hany, hown, hB1⟩ := hrel
      by_cases hkl : k < tl.length
      · have hxk : tl[k]? = some tl[k] := List.getElem?_eq_getElem hkl
        have hcx : wr.cell? ⟨g, k + 1, none⟩ = some (.string tl[k]) := by
          obtain ⟨b, off, z, e1, e0, e2, e3⟩ := HZ.out.get (i := k + 1) (by omega)
          injection e1 with e1
          injection e1 with e1 e4
          subst e1 e4
          rw [List.getElem?_cons_succ, hxk] at e2
          injection e2 with e2
          subst e2
          rw [Nat.zero_add] at e3
          exact (hB1.cell (p := ⟨g, k + 1, none⟩) e0).trans e3
        have hidk : ∀ w : World, (Instr.indexAt 52 (.slice (some ⟨g, 0, none⟩) (tl.length + 1) kc) (.int .i64 ((k : Int) + 1))).run Tryd.prog w = .ok (.pointer (some ⟨g, k + 1, none⟩)) w := fun w => by
          have h := idx_z g 0 (tl.length + 1) kc (k + 1) (by omega) w
          rw [Nat.zero_add] at h
          exact h
        have hnum := fun w => rnumber_any tl[k] (by have := HSW.out _ (List.getElem_mem hkl); omega) w
        have hnn : numsT (tl.take (k + 1)) = numsT (tl.take k) ++ [(numT tl[k]).1] := by
          unfold numsT; rw [List.take_add_one, hxk, List.map_append]; rfl
        have han : noNum tl[k] = false → (tl.take (k + 1)).any noNum = false := fun h => by
          rw [List.take_add_one, hxk, List.any_append, hany]; simp [h]
        have htr : noNum tl[k] = true → tl.any noNum = true := fun h => List.any_eq_true.2 ⟨_, List.getElem_mem hkl, h⟩
        have hneg := num_neg tl[k]
        have HNN := Lib.hid hnn; have HAN := Lib.hid han; have HNU := Lib.hid hnum; have HTR := Lib.hid htr; have HB1 := Lib.hid hB1; have HOW := Lib.hid hown
        clear hnn han hnum hxk htr hany hB1 hown
        generalize numsT (tl.take k) = nl at *
        generalize tl[k] = xk at *
        rcases hneg with ⟨hn, hv⟩ | ⟨hn, hv, h0⟩
        · have HV := Lib.hid (HBD.out (HTR.out hn))
          rw [hv] at HNU
          clear hv hn HTR HAN HNN HG HOW
          go_wp2_with fail
          refine (HNU.out _).mono ?_; rintro e w5 ⟨rfl, rfl⟩
          go_wp2_with fail
          go_ret2
          exact ⟨none, 0, by rw [HV.out]; rfl, by rw [HV.out]; exact World.ownsRow_nil _ _ _ _, bel_trans HB.out HB1.out⟩
        · have hA2 := Lib.hid (HAN.out hn)
          rw [hv] at HNU h0
          generalize (numT xk).1 = nv at *
          clear hv hn HTR HAN
          have hneg : ¬ nv < 0 := by omega
          go_wp2_with fail
          refine (HNU.out _).mono ?_; rintro e w5 ⟨rfl, rfl⟩
          have hlow := fun q (hq : (Value.slice A' k c').ownBlock = some q) => (HOW.out.lt q hq).1
          have HLW := Lib.hid hlow
          have HOK := Lib.hid (own_chV HOW.out ((Ch.refl [] wr).alloc (.cells #[.int .i64 nv] 3)) (by simp))
          have HBK := Lib.hid (Blk.new wr 3 [.int .i64 nv])
          have HC7 := Lib.hid (bel_alloc HB1.out (.cells #[.int .i64 nv] 3))
          clear hlow hcx HNU HOW
          go_wp2_with (at_builtin; refine wpList_push _ rfl (.tmp 45) (.tmp 47) 23 rfl w1.heap.size 3 (.int .i64 0) 8 Tryd.underlying23 info_intT rfl A' k c' (nl.map (Value.int .i64)) rfl HOK.out wr.heap.size 1 (.int .i64 nv) rfl (HBK.out.at_ rfl) rfl (by omega) (by omega) HC7.out.size ?_)
          intro g2 cap w8 ho8 hg8 hor8
          have hB8 := HC7.out.grown hg8 HC7.out.size HLW.out
          have HO8 := Lib.hid ho8; have HB8 := Lib.hid hB8
          clear ho8 hg8 hor8 HOK HBK HC7 hB8
          go_wp2_with fail
          go_roundw
          case rel => exact ⟨k + 1, _, _, by omega, by go_num, rfl, hA2.out, by rw [HNN.out, List.map_append]; exact HO8.out, HB8.out⟩
          case measure => simp [intOf]; omega
      · obtain rfl : k = tl.length := by omega
        rw [List.take_of_length_le (Nat.le_refl _)] at hown hany
        have HV := Lib.hid (HG.out hany)
        have hlN : (numsT tl).length = tl.length := by simp [numsT]
        have HLN := Lib.hid hlN; have HOW := Lib.hid hown; have HB1 := Lib.hid hB1
        clear hown hany hlN hB1 HG HBD
        go_wp2_with fail
        go_ret2
        exact ⟨A', c', by rw [HV.out]; show _ = Ending.returned (.tuple #[.slice A' (numsT tl).length c', .bool true]); rw [HLN.out]; rfl, by rw [HV.out]; simp only; rw [HLN.out]; exact own_base0 HOW.out HB.out.size, bel_trans HB.out HB1.out⟩
end Go.Proofs.YtcanhegjhbhkhaaDoor
