/- The text of a machine: it is read as the machine; what is read has just its text. -/
import Derived.Test.YtbgnaohjcfbaaaaDoorTopoText0
namespace Go.Proofs.YtbgnaohjcfbaaaaDoor
open Go.RowKit Go.Shelf
set_option linter.unusedVariables false
set_option linter.unusedSimpArgs false

def numB (n : Int) : List UInt8 := dec4 n.toNat
def bodyL (word : List UInt8) (l : List Int) : List UInt8 := word ++ l.flatMap (fun n => 32 :: numB n)
def flatB (Ls : List (List UInt8)) : List UInt8 := Ls.flatMap (fun b => b ++ [10])
def Small (l : List Int) : Prop := ∀ n ∈ l, 0 ≤ n ∧ n < 10000
theorem Small.cons {n : Int} {l : List Int} (h : Small (n :: l)) : (0 ≤ n ∧ n < 10000) ∧ Small l := ⟨h n (List.mem_cons_self ..), fun m hm => h m (List.mem_cons_of_mem _ hm)⟩
theorem bodyL_cons (word : List UInt8) (n : Int) (l : List Int) : bodyL word (n :: l) = word ++ 32 :: bodyL (numB n) l := by
  unfold bodyL
  simp
theorem split_body : ∀ (l : List Int) (word : List UInt8), Small l → (∀ x ∈ word, x ≠ 32) → splitL 32 (bodyL word l) = word :: l.map numB := by
  intro l
  induction l with
  | nil => intro word _ hw; simpa [bodyL] using split_last hw
  | cons n l ih =>
    intro word hs hw
    obtain ⟨h1, h2⟩ := hs.cons
    rw [bodyL_cons, split_line _ hw, ih (numB n) h2 (fun x hx => (dec_digits n.toNat (by omega) x hx).1)]
    rfl
theorem body_no10 : ∀ (l : List Int) (word : List UInt8), Small l → (∀ x ∈ word, x ≠ 10) → ∀ x ∈ bodyL word l, x ≠ 10 := by
  intro l word hs hw x hx
  unfold bodyL at hx
  rcases List.mem_append.1 hx with hx | hx
  · exact hw x hx
  · obtain ⟨n, hn, hx⟩ := List.mem_flatMap.1 hx
    rcases List.mem_cons.1 hx with rfl | hx
    · decide
    · have := hs n hn
      exact (dec_digits n.toNat (by omega) x hx).2
theorem split_flat : ∀ (Ls : List (List UInt8)), (∀ b ∈ Ls, ∀ x ∈ b, x ≠ 10) → splitL 10 (flatB Ls) = Ls ++ [[]] := by
  intro Ls
  induction Ls with
  | nil => intro _; rfl
  | cons b Ls ih =>
    intro h
    have e : flatB (b :: Ls) = b ++ 10 :: flatB Ls := by unfold flatB; simp
    rw [e, split_line _ (h b (List.mem_cons_self ..)), ih (fun c hc => h c (List.mem_cons_of_mem _ hc))]
    rfl
/-- A text of lines is read line by line. -/
theorem read_lines (Ls : List (List UInt8)) (h : ∀ b ∈ Ls, ∀ x ∈ b, x ≠ 10) : readT (bytesOf (flatB Ls)) = readL (Ls.map bytesOf) true := by
  have hw : wordsB 10 (bytesOf (flatB Ls)) = Ls.map bytesOf ++ [⟨#[]⟩] := by
    rw [words_of (L := Ls ++ [[]]) (split_flat Ls h), List.map_append]
    rfl
  unfold readT
  rw [hw, List.dropLast_concat, List.getLast?_concat]
  simp
theorem numsT_dec (l : List Int) (hs : Small l) : numsT (l.map (fun n => bytesOf (numB n))) = l ∧ (l.map (fun n => bytesOf (numB n))).any noNum = false := by
  induction l with
  | nil => exact ⟨rfl, rfl⟩
  | cons n l ih =>
    obtain ⟨h1, h2⟩ := hs.cons
    obtain ⟨h3, h4⟩ := ih h2
    have h5 := numT_dec n.toNat (by omega)
    have e : numT (bytesOf (numB n)) = (n, true) := by
      unfold numB
      rw [h5, show ((n.toNat : Nat) : Int) = n by omega]
    refine ⟨?_, ?_⟩
    · rw [List.map_cons]
      unfold numsT at h3 ⊢
      rw [List.map_cons, h3, e]
    · rw [List.map_cons, List.any_cons, h4]
      unfold noNum
      rw [e]
      rfl
theorem take_good {ls : List ByteArray} {word : ByteArray} {one : Bool} {at_ : Nat} {l : List Int} (hz : ls[at_]? = some (bytesOf (bodyL word.data.toList l))) (hs : Small l) (hw : ∀ x ∈ word.data.toList, x ≠ 32) (hne : l ≠ []) (h1 : one = true → l.length = 1) :
    takeR ls word one ⟨at_, false⟩ = (l, ⟨at_ + 1, false⟩) := by
  have hlt := (List.getElem?_eq_some_iff.1 hz).1
  have hws : wordsB 32 (bytesOf (bodyL word.data.toList l)) = word :: l.map (fun n => bytesOf (numB n)) := by
    rw [words_of (L := word.data.toList :: l.map numB) (split_body l _ hs hw), List.map_cons, List.map_map]
    rfl
  obtain ⟨h3, h4⟩ := numsT_dec l hs
  have hl : 0 < l.length := List.length_pos_iff.2 hne
  unfold takeR
  rw [if_neg (by simp), if_neg (by simp; omega), List.getD_eq_getElem?_getD, hz, Option.getD_some, hws, List.tail_cons, h3, h4]
  unfold headBad
  simp
  refine ⟨by omega, fun h => h1 h⟩
theorem dist_good {ls : List ByteArray} {at_ : Nat} {rows : List (List Int)} (hz : ∀ (k : Nat) (z : List Int), rows[k]? = some z → ls[at_ + k]? = some (bytesOf (bodyL distW.data.toList z)) ∧ Small z ∧ z ≠ []) :
    ∀ k, k ≤ rows.length → distR ls ⟨at_, false⟩ k = (rows.take k, ⟨at_ + k, false⟩) := by
  intro k
  induction k with
  | zero => intro _; simp [distR]
  | succ k ih =>
    intro hk
    obtain ⟨z, hzk⟩ : ∃ z, rows[k]? = some z := ⟨rows[k], List.getElem?_eq_getElem (by omega)⟩
    obtain ⟨h1, h2, h3⟩ := hz k z hzk
    simp only [distR]
    rw [ih (by omega)]
    simp only
    rw [take_good h1 h2 (by decide) h3 (by simp), List.take_add_one, hzk]
    rfl
/-- The lines of a machine. -/
def linesM (N F : Int) (cs : List Int) (ds : List (List Int)) : List (List UInt8) := bodyL nodesW.data.toList [N] :: bodyL framesW.data.toList [F] :: bodyL cpusW.data.toList cs :: ds.map (bodyL distW.data.toList)
def textM (N F : Int) (cs : List Int) (ds : List (List Int)) : List UInt8 := flatB (linesM N F cs ds)
theorem small_one {n : Int} (h : 0 ≤ n ∧ n < 10000) : Small [n] := fun m hm => by rw [List.mem_singleton] at hm; subst hm; exact h
theorem lines_no10 {N F : Int} {cs : List Int} {ds : List (List Int)} (hN : 0 ≤ N ∧ N < 10000) (hF : 0 ≤ F ∧ F < 10000) (hc : Small cs) (hd : ∀ z ∈ ds, Small z) : ∀ b ∈ linesM N F cs ds, ∀ x ∈ b, x ≠ 10 := by
  intro b hb
  unfold linesM at hb
  rcases List.mem_cons.1 hb with rfl | hb
  · exact body_no10 _ _ (small_one hN) (by decide)
  rcases List.mem_cons.1 hb with rfl | hb
  · exact body_no10 _ _ (small_one hF) (by decide)
  rcases List.mem_cons.1 hb with rfl | hb
  · exact body_no10 _ _ hc (by decide)
  obtain ⟨z, hz, rfl⟩ := List.mem_map.1 hb
  exact body_no10 _ _ (hd z hz) (by decide)
theorem single_good {ls : List ByteArray} {word : ByteArray} {at_ : Nat} {n : Int} (hz : ls[at_]? = some (bytesOf (bodyL word.data.toList [n]))) (hn : 0 ≤ n ∧ n < 10000) (hw : ∀ x ∈ word.data.toList, x ≠ 32) : singleV ls word ⟨at_, false⟩ = n ∧ (takeR ls word true ⟨at_, false⟩).2 = ⟨at_ + 1, false⟩ := by
  have h := take_good (one := true) hz (small_one hn) hw (by simp) (by simp)
  unfold singleV
  rw [h]
  exact ⟨rfl, rfl⟩
theorem read_text {N F : Int} {cs : List Int} {ds : List (List Int)} (hN : 0 ≤ N ∧ N < 10000) (hF : 0 ≤ F ∧ F < 10000) (hc : Small cs) (hcn : cs ≠ []) (hd : ∀ z ∈ ds, Small z ∧ z ≠ []) (hl : (ds.length : Int) = N) :
    readT (bytesOf (textM N F cs ds)) = ⟨N, F, cs, ds, ⟨3 + ds.length, false⟩⟩ := by
  unfold textM
  rw [read_lines _ (lines_no10 hN hF hc (fun z hz => (hd z hz).1))]
  have e : (linesM N F cs ds).map bytesOf = bytesOf (bodyL nodesW.data.toList [N]) :: bytesOf (bodyL framesW.data.toList [F]) :: bytesOf (bodyL cpusW.data.toList cs) :: ds.map (fun z => bytesOf (bodyL distW.data.toList z)) := by
    unfold linesM
    simp [Function.comp_def]
  rw [e]
  generalize hls : bytesOf (bodyL nodesW.data.toList [N]) :: bytesOf (bodyL framesW.data.toList [F]) :: bytesOf (bodyL cpusW.data.toList cs) :: ds.map (fun z => bytesOf (bodyL distW.data.toList z)) = ls
  have h0 : ls[0]? = some (bytesOf (bodyL nodesW.data.toList [N])) := by rw [← hls]; rfl
  have h1 : ls[1]? = some (bytesOf (bodyL framesW.data.toList [F])) := by rw [← hls]; rfl
  have h2 : ls[2]? = some (bytesOf (bodyL cpusW.data.toList cs)) := by rw [← hls]; rfl
  have h3 : ∀ (k : Nat) (z : List Int), ds[k]? = some z → ls[3 + k]? = some (bytesOf (bodyL distW.data.toList z)) ∧ Small z ∧ z ≠ [] := fun k z hk => by
    refine ⟨?_, hd z (List.mem_of_getElem? hk)⟩
    rw [← hls, Nat.add_comm 3 k]
    simp [hk]
  have hlen : ls.length = 3 + ds.length := by rw [← hls]; simp; omega
  obtain ⟨a1, a2⟩ := single_good h0 hN (by decide)
  obtain ⟨b1, b2⟩ := single_good h1 hF (by decide)
  have c1 := take_good (one := false) h2 hc (by decide) hcn (by simp)
  have d1 := dist_good h3 ds.length (Nat.le_refl _)
  have hNt : N.toNat = ds.length := by omega
  unfold readL
  simp only
  rw [a1, a2, b1, b2, c1, hNt, d1, List.take_length]
  simp only
  unfold endR
  rw [if_neg (by simp [hlen])]
/-! ### The other way. -/
theorem take_back {ls : List ByteArray} {word : ByteArray} {one : Bool} {r : Rd} (h : (takeR ls word one r).2.bad = false) : r.bad = false ∧ (takeR ls word one r).2.at_ = r.at_ + 1 ∧ (takeR ls word one r).1 ≠ [] ∧ (one = true → (takeR ls word one r).1.length = 1) ∧ ∃ z, ls[r.at_]? = some z ∧ z.data.toList = bodyL word.data.toList (takeR ls word one r).1 := by
  have hb : r.bad = false := by
    cases hr : r.bad with
    | false => rfl
    | true => unfold takeR at h; rw [if_pos hr] at h; rw [hr] at h; cases h
  have hl : ¬ (ls.length < r.at_ + 1) := by
    intro hl
    unfold takeR at h
    rw [if_neg (by rw [hb]; simp), if_pos hl] at h
    cases h
  have hz : ls[r.at_]? = some (ls[r.at_]'(by omega)) := List.getElem?_eq_getElem (by omega)
  generalize ls[r.at_]'(by omega) = z at hz
  have e : takeR ls word one r = (numsT (wordsB 32 z).tail, ⟨r.at_ + 1, headBad (wordsB 32 z) word one || (wordsB 32 z).tail.any noNum⟩) := by
    unfold takeR
    rw [if_neg (by rw [hb]; simp), if_neg hl, List.getD_eq_getElem?_getD, hz]
    rfl
  rw [e] at h ⊢
  simp only at h ⊢
  rw [Bool.or_eq_false_iff] at h
  obtain ⟨h1, h2⟩ := h
  obtain ⟨p, ps, h3, h4, h5, h6⟩ := split_join 32 z.data.toList
  have hws := words_of h3
  rw [hws] at h1 h2 ⊢
  rw [List.map_cons, List.tail_cons] at h2 ⊢
  unfold headBad at h1
  rw [Bool.or_eq_false_iff, Bool.or_eq_false_iff] at h1
  obtain ⟨g1, g2, g3⟩ := h1
  have g1 : bytesOf p = word := by simpa using g1
  have g2 := of_decide_eq_false g2
  simp only [List.map_cons, List.length_cons, List.length_map] at g2 g3
  have hnum : ∀ (qs : List (List UInt8)), (qs.map bytesOf).any noNum = false → qs = (numsT (qs.map bytesOf)).map numB := by
    intro qs
    induction qs with
    | nil => intro _; rfl
    | cons q qs ih =>
      intro hq
      rw [List.map_cons, List.any_cons, Bool.or_eq_false_iff] at hq
      obtain ⟨n, hn, e1, e2⟩ := numT_back (w := bytesOf q) (by simpa [noNum] using hq.1)
      have e3 := ih hq.2
      unfold numsT at e3 ⊢
      rw [List.map_cons, List.map_cons, List.map_cons, ← e3, e1]
      have e4 : q = numB (n : Int) := by unfold numB; rw [Int.toNat_natCast]; exact e2
      rw [← e4]
  have hps := hnum ps h2
  refine ⟨hb, by first | rfl | trivial, ?_, fun ho => ?_, z, hz, ?_⟩
  · intro e0
    have : (numsT (ps.map bytesOf)).length = ps.length := by unfold numsT; simp
    rw [e0, List.length_nil] at this
    omega
  · rw [ho] at g3
    have : (numsT (ps.map bytesOf)).length = ps.length := by unfold numsT; simp
    rw [this]
    simpa using g3
  · rw [h4, ← g1]
    unfold bodyL
    have e5 : (bytesOf p).data.toList = p := rfl
    rw [e5]
    congr 1
    generalize numsT (ps.map bytesOf) = L at hps
    rw [hps, List.flatMap_map]
theorem dist_back {ls : List ByteArray} {r : Rd} : ∀ k, (distR ls r k).2.bad = false → r.bad = false ∧ (distR ls r k).2.at_ = r.at_ + k ∧ (distR ls r k).1.length = k ∧ ∀ (j : Nat) (z : List Int), (distR ls r k).1[j]? = some z → z ≠ [] ∧ ∃ y, ls[r.at_ + j]? = some y ∧ y.data.toList = bodyL distW.data.toList z := by
  intro k
  induction k with
  | zero => intro h; exact ⟨h, rfl, rfl, fun j z hz => by simp [distR] at hz⟩
  | succ k ih =>
    intro h
    simp only [distR] at h ⊢
    obtain ⟨h1, h2, h3, _, y, h4, h5⟩ := take_back h
    obtain ⟨g1, g2, g3, g4⟩ := ih h1
    refine ⟨g1, by rw [h2, g2]; omega, by simp [g3], fun j z hz => ?_⟩
    rw [List.getElem?_append] at hz
    split at hz
    · exact g4 j z hz
    · next hj =>
      have hjk : j = k := by
        have := (List.getElem?_eq_some_iff.1 hz).1
        simp at this
        omega
      subst hjk
      rw [g3] at hz
      simp at hz
      subst hz
      exact ⟨h3, y, by rw [← g2]; exact h4, h5⟩
/-- What is read has just its text. -/
theorem text_back {x : ByteArray} (h : (readT x).r.bad = false) : x.data.toList = textM (readT x).N (readT x).F (readT x).C (readT x).D ∧ ((readT x).D.length : Int) = (readT x).N ∧ (readT x).C ≠ [] ∧ ∀ z ∈ (readT x).D, z ≠ [] := by
  obtain ⟨p, ps, h1, h2, h3, h4⟩ := split_join 10 x.data.toList
  have hws := words_of h1
  have hne : (p :: ps) ≠ [] := by simp
  obtain ⟨Ls, l, hL⟩ : ∃ Ls l, p :: ps = Ls ++ [l] := ⟨_, _, (List.dropLast_concat_getLast hne).symm⟩
  have hx : x.data.toList = flatB Ls ++ l := by
    rw [h2]
    have key : ∀ (qs : List (List UInt8)) (q : List UInt8) (Ls : List (List UInt8)) (l : List UInt8), q :: qs = Ls ++ [l] → q ++ qs.flatMap (fun y => (10 : UInt8) :: y) = flatB Ls ++ l := by
      intro qs
      induction qs with
      | nil =>
        intro q Ls l hq
        cases Ls with
        | nil => simp at hq; subst hq; simp [flatB]
        | cons a Ls => simp at hq
      | cons b qs ih =>
        intro q Ls l hq
        cases Ls with
        | nil => simp at hq
        | cons a Ls =>
          simp only [List.cons_append, List.cons.injEq] at hq
          obtain ⟨rfl, hq⟩ := hq
          have := ih b Ls l hq
          rw [List.flatMap_cons]
          have e : flatB (q :: Ls) = q ++ 10 :: flatB Ls := by unfold flatB; simp
          rw [e]
          simp only [List.cons_append, List.append_assoc]
          rw [this]
    exact key ps p Ls l hL
  rw [hL, List.map_append] at hws
  have hR : readT x = readL (Ls.map bytesOf) (decide (l = [])) := by
    unfold readT
    rw [hws]
    simp only [List.map_cons, List.map_nil, List.dropLast_concat, List.getLast?_concat]
    congr 1
    cases l with
    | nil => rfl
    | cons a l =>
      have e1 : ¬ (some (bytesOf (a :: l)) = some (⟨#[]⟩ : ByteArray)) := by
        intro e
        injection e with e
        have := congrArg (fun y : ByteArray => y.data.toList) e
        simp [bytesOf] at this
      rw [decide_eq_false e1, decide_eq_false (by simp)]
  rw [hR] at h ⊢
  generalize hls : Ls.map bytesOf = ls at h ⊢
  have hlsl : ls.length = Ls.length := by rw [← hls, List.length_map]
  have hat : ∀ (k : Nat) (y : ByteArray), ls[k]? = some y → Ls[k]? = some y.data.toList := by
    intro k y hk
    rw [← hls, List.getElem?_map] at hk
    obtain ⟨q, hq, rfl⟩ := Option.map_eq_some_iff.1 hk
    exact hq
  have hN := single_bd ls nodesW ⟨0, false⟩
  unfold readL at h ⊢
  simp only at h ⊢
  generalize hrd : (takeR ls cpusW false (takeR ls framesW true (takeR ls nodesW true ⟨0, false⟩).2).2).2 = r3 at h ⊢
  have hd : (distR ls r3 (singleV ls nodesW ⟨0, false⟩).toNat).2.bad = false := by
    unfold endR at h
    split at h
    · cases h
    · exact h
  have he : ¬ ((distR ls r3 (singleV ls nodesW ⟨0, false⟩).toNat).2.bad = false ∧ (decide (l = []) = false ∨ (distR ls r3 (singleV ls nodesW ⟨0, false⟩).toNat).2.at_ ≠ ls.length)) := by
    intro hc
    unfold endR at h
    rw [if_pos hc] at h
    cases h
  obtain ⟨d1, d2, d3, d4⟩ := dist_back _ hd
  rw [← hrd] at d1
  obtain ⟨c1, c2, c3, _, yc, c4, c5⟩ := take_back d1
  obtain ⟨b1, b2, b3, b6, yb, b4, b5⟩ := take_back c1
  obtain ⟨a1, a2, a3, a6, ya, a4, a5⟩ := take_back b1
  have hl0 : l = [] := by
    apply Classical.byContradiction
    intro hl
    exact he ⟨hd, Or.inl (decide_eq_false hl)⟩
  have hend : (distR ls r3 (singleV ls nodesW ⟨0, false⟩).toNat).2.at_ = ls.length := by
    apply Classical.byContradiction
    intro hl
    exact he ⟨hd, Or.inr hl⟩
  have hr3 : r3.at_ = 3 := by rw [← hrd, c2, b2, a2]
  rw [d2, hr3] at hend
  rw [b2, a2] at c4
  rw [a2] at b4
  have hone : ∀ (wd : ByteArray) (r : Rd), (takeR ls wd true r).2.bad = false → (takeR ls wd true r).1.length = 1 → (takeR ls wd true r).1 = [singleV ls wd r] := by
    intro wd r hb hl
    unfold singleV
    rw [if_neg (by rw [hb]; simp)]
    match (takeR ls wd true r).1, hl with
    | [v], _ => rfl
  have eN := hone _ _ b1 (a6 rfl)
  have eF := hone _ _ c1 (b6 rfl)
  rw [eN] at a5
  rw [eF] at b5
  generalize hNv : singleV ls nodesW ⟨0, false⟩ = N at *
  generalize hFv : singleV ls framesW (takeR ls nodesW true ⟨0, false⟩).2 = F at *
  generalize hCv : (takeR ls cpusW false (takeR ls framesW true (takeR ls nodesW true ⟨0, false⟩).2).2).1 = C at *
  generalize hDv : (distR ls r3 N.toNat).1 = D at *
  refine ⟨?_, by rw [d3]; omega, c3, fun z hz => ?_⟩
  · rw [hx, hl0, List.append_nil]
    unfold textM
    congr 1
    unfold linesM
    apply List.ext_getElem?
    intro k
    match k with
    | 0 => rw [hat 0 ya a4, a5]; rfl
    | 1 => rw [hat 1 yb b4, b5]; rfl
    | 2 => rw [hat 2 yc c4, c5]; rfl
    | k + 3 =>
      simp only [List.getElem?_cons_succ]
      rw [List.getElem?_map]
      by_cases hk : k < D.length
      · obtain ⟨_, y, e1, e2⟩ := d4 k D[k] (List.getElem?_eq_getElem hk)
        rw [hr3, Nat.add_comm] at e1
        rw [hat _ y e1, e2, List.getElem?_eq_getElem hk]
        rfl
      · rw [List.getElem?_eq_none (by omega), List.getElem?_eq_none (by omega)]
        rfl
  · obtain ⟨j, hj⟩ := List.getElem?_of_mem hz
    exact (d4 j z hj).1
end Go.Proofs.YtbgnaohjcfbaaaaDoor
