/- memory.pieces. -/
import Derived.Test.YtbgnaohjcfbaaaaDoorMemory
namespace Go.Proofs.YtbgnaohjcfbaaaaDoor
open Go.RowKit
set_option linter.unusedVariables false
set_option linter.unusedSimpArgs false
attribute [local go_sem] World.cell?_alloc_lt

abbrev Pc := Nat × Nat × Nat
def pcCells (P : List Pc) : List Value := P.flatMap fun p => [.int .i64 (p.1 : Int), .int .i64 (p.2.1 : Int), .int .i64 (p.2.2 : Int)]
theorem pcCells_snoc (P : List Pc) (p : Pc) : pcCells (P ++ [p]) = pcCells P ++ [.int .i64 (p.1 : Int), .int .i64 (p.2.1 : Int), .int .i64 (p.2.2 : Int)] := by simp [pcCells]
theorem pcCells_at : ∀ (P : List Pc) (i : Nat) (p : Pc), P[i]? = some p → (pcCells P)[i * 3]? = some (.int .i64 (p.1 : Int)) ∧ (pcCells P)[i * 3 + 1]? = some (.int .i64 (p.2.1 : Int)) ∧ (pcCells P)[i * 3 + 2]? = some (.int .i64 (p.2.2 : Int)) := by
  intro P
  induction P with
  | nil => intro i p h; simp at h
  | cons x xs ih =>
    intro i p h
    cases i with
    | zero => simp at h; subst h; simp [pcCells]
    | succ i =>
      have := ih i p (by simpa using h)
      have e : pcCells (x :: xs) = .int .i64 (x.1 : Int) :: .int .i64 (x.2.1 : Int) :: .int .i64 (x.2.2 : Int) :: pcCells xs := by simp [pcCells]
      rw [e, show (i + 1) * 3 = i * 3 + 1 + 1 + 1 by omega]
      simpa using this
theorem cov_mapped (mt : List (Int × Int)) : ∀ (P : List Pc) (a e k : Nat), Cov mt a P e → a ≤ k → k < e → mapped mt (k / 64) := by
  intro P
  induction P with
  | nil => intro a e k h h1 h2; simp only [Cov] at h; omega
  | cons p ps ih =>
    intro a e k h h1 h2
    obtain ⟨hm, _, _, hs1, hs2, hc⟩ := h
    by_cases hk : k < a + p.2.2
    · rw [show k / 64 = a / 64 by omega]; exact hm
    · exact ih _ _ _ hc (by omega) h2
theorem info_piece : (Tryd.prog.info? 73).map (fun i => (i.zero, i.size, i.bytes)) = some (some (.agg #[.int .i64 0, .int .i64 0, .int .i64 0]), 3, 24) := by kernel_rfl
def lenV : Value → Nat
  | .slice _ n _ => n
  | _ => 0
section
variable (mb g b each nf tg bt bf : Nat) (bs : List Int) (mt mf : List (Int × Int)) (w : World) (hM : MemAt w mb g b each nf tg bt bf bs mt mf)
include hM
set_option maxRecDepth 100000 in
set_option maxHeartbeats 2000000 in
theorem me_pieces (a n : Nat) (hn : n ≤ 65536) (ha : a + n ≤ 262144) : Calls Tryd.prog 26 #[.pointer (some ⟨mb, 0, none⟩), .int .i64 (a : Int), .int .i64 (n : Int)] w fun e w' => ((∃ A P c, e = .returned (.tuple #[.slice A P.length c, .int .i64 0]) ∧ w'.ownsRow w.heap.size 73 3 (.slice A P.length c) P.length (pcCells P) ∧ Cov mt a P (a + n)) ∨ (e = .returned (.tuple #[.slice none 0 0, .int .i64 9]) ∧ ∃ k, a ≤ k ∧ k < a + n ∧ ¬ mapped mt (k / 64))) ∧ Below w.heap.size w w' := by
  have hown0 : w.ownsRow w.heap.size 73 3 (.slice none 0 0) 0 (pcCells []) := ⟨rfl, Or.inl ⟨rfl, rfl⟩⟩
  have HM := Lib.hid hM; clear hM
  go_enter Tryd.func26, Tryd.ntmps26
  go_wp2_with fail
  go_loopw [1, 2, 8] (fun v1 v2 v3 wr => ∃ (x d : Nat) (P : List Pc) (A' : Option Addr) (c' : Nat), v1 = .int .i64 (x : Int) ∧ v2 = .int .i64 (d : Int) ∧ v3 = .slice A' P.length c' ∧ x + d = a + n ∧ a ≤ x ∧ wr.ownsRow w.heap.size 73 3 (.slice A' P.length c') P.length (pcCells P) ∧ Cov mt a P x ∧ Below w.heap.size w wr) (fun _ v2 _ _ => (intOf v2).toNat)
  case atStart => exact ⟨a, n, [], none, 0, rfl, rfl, rfl, rfl, Nat.le_refl _, hown0, rfl, Below.refl _ _⟩
  case round =>
    clear hown0
    obtain ⟨x, d, P, A', c', rfl, rfl, rfl, hxd, hax, hown, hcov, hB⟩ := hrel
    have HO := Lib.hid hown; have HC := Lib.hid hcov
    have hMr := HM.out.below hB
    clear hown hcov
    by_cases hd : 0 < d
    · have k1 := hMr.st.at_ (i := 1) rfl
      have hT := tII_To tg bt bf mt mf ((x / 64 : Nat) : Int) wr hMr.tb
      have hB0 := hB
      by_cases hm : mapped mt (x / 64)
      · rw [(HM.out.ok.at_ hm).1, Option.getD_some, Option.isSome_some, Int.natCast_ediv] at hT
        obtain ⟨s, hs⟩ : ∃ s : Nat, min (d : Int) (64 - (x : Int) % 64) = (s : Int) ∧ 1 ≤ s ∧ s ≤ d ∧ x % 64 + s ≤ 64 := by
          refine ⟨min d (64 - x % 64), ?_, ?_, ?_, ?_⟩ <;> omega
        obtain ⟨hs, hs1, hs2, hs3⟩ := hs
        have hcv := cov_snoc mt s P a x HC.out hm hs1 hs3
        have hpl := cov_le mt P a x HC.out
        have HT := Lib.hid hT; have HS := Lib.hid hs; have HCV := Lib.hid hcv
        generalize frOf mt (x / 64) = fr at *
        obtain ⟨r, hr⟩ : ∃ r : Nat, (x : Int) % 64 = (r : Int) ∧ x % 64 = r := ⟨x % 64, by omega, rfl⟩
        obtain ⟨hr, hr2⟩ := hr
        rw [hr2] at HCV hs3
        rw [hr] at hs
        clear hT hcv HS
        go_wp2_with fail
        refine HT.out.mono ?_; rintro e w1 ⟨rfl, rfl⟩
        go_upto_region 10 with fail
        rw [hr, show (if 64 - (r : Int) < (d : Int) then 64 - (r : Int) else (d : Int)) = (s : Int) by split <;> omega]
        clear HM hMr
        have hnews := Blk.new wr 73 [.int .i64 (fr : Int), .int .i64 (r : Int), .int .i64 (s : Int)]
        have HNW := Lib.hid hnews; clear hnews
        have hO4 := own_chV HO.out ((Ch.refl [] wr).alloc (.cells #[.int .i64 (fr : Int), .int .i64 (r : Int), .int .i64 (s : Int)] 73)) (by simp)
        have hB4 := bel_alloc hB0 (.cells #[.int .i64 (fr : Int), .int .i64 (r : Int), .int .i64 (s : Int)] 73)
        have hw4 := hB4.size
        have HO4 := Lib.hid hO4; have HB4 := Lib.hid hB4
        clear hO4 hB4 hB hB0 k1
        go_wp2_with (at_builtin; refine wpList_pushesN _ rfl (.tmp 53) (.tmp 58) 69 rfl w.heap.size 73 _ 3 24 Tryd.underlying69 info_piece rfl (by omega) A' P.length c' (pcCells P) rfl HO4.out wr.heap.size 0 1 1 [.int .i64 (fr : Int), .int .i64 (r : Int), .int .i64 (s : Int)] rfl rfl (fun j u hj => by rw [Nat.zero_add]; exact HNW.out.at_ hj) (fun u hu => by simp at hu; rcases hu with rfl | rfl | rfl <;> rfl) (by omega) (by omega) (by omega) hw4 ?_)
        intro gg cp w5 hown5 hgr5 hor5
        have hc5 : Ch (Value.slice A' P.length c').ownBlock.toList (wr.alloc (.cells #[.int .i64 (fr : Int), .int .i64 (r : Int), .int .i64 (s : Int)] 73)) w5 := ch_grown hgr5 (fun q hq => by rw [hq]; simp)
        have hB5 := bel_ch HB4.out hc5 (fun q hq => by rw [Option.mem_toList] at hq; exact (HO4.out.lt q hq).1)
        have hl5 : (P ++ [(fr, r, s)]).length = P.length + 1 := by simp
        rw [← pcCells_snoc P (fr, r, s), ← hl5] at hown5
        have HW5 := Lib.hid hown5; have HL5 := Lib.hid hl5
        clear hown5 hc5 hgr5 hor5 hl5
        go_wp2_with fail
        go_roundw
        case rel => exact ⟨x + s, d - s, P ++ [(fr, r, s)], some ⟨gg, 0, none⟩, cp, by go_num, by go_num, by rw [HL5.out], by omega, by omega, HW5.out, HCV.out, hB5⟩
        case measure => simp [intOf]; omega
      · have hno : (mget mt ((x / 64 : Nat) : Int)).isSome = false := by
          unfold mapped at hm
          exact Bool.eq_false_iff.2 hm
        rw [hno, Int.natCast_ediv] at hT
        have HT := Lib.hid hT; have HMP := Lib.hid hm
        clear hT hno hm
        generalize (mget mt ((x / 64 : Nat) : Int)).getD 0 = gg at *
        go_wp2_with fail
        refine HT.out.mono ?_; rintro e w1 ⟨rfl, rfl⟩
        go_wp2_with fail
        go_ret2
        exact ⟨Or.inr ⟨rfl, x, hax, by omega, HMP.out⟩, (by repeat (first | exact Below.refl _ _ | assumption | with_reducible refine bel_alloc ?_ _ | with_reducible refine bel_drewN ?_ _ | with_reducible refine bel_drew ?_))⟩
    · obtain rfl : d = 0 := by omega
      go_wp2_with fail
      go_ret2
      exact ⟨Or.inl ⟨A', P, c', rfl, HO.out, by have := HC.out; rw [show a + n = x by omega]; exact this⟩, (by repeat (first | exact Below.refl _ _ | assumption | with_reducible refine bel_alloc ?_ _ | with_reducible refine bel_drewN ?_ _ | with_reducible refine bel_drew ?_))⟩
end
end Go.Proofs.YtbgnaohjcfbaaaaDoor
