/- Package memory (layer 7): contracts. -/
import Derived.Test.YtbgnaohjcfbaaaaDoorMemPure
import Derived.Test.YtbgnaohjcfbaaaaDoorOwnRows
import Derived.Deep.DeepCutAuto
import Derived.Outline
import Derived.Deep.RegionHeld3
namespace Go.Proofs.YtbgnaohjcfbaaaaDoor
open Go.RowKit
set_option linter.unusedVariables false
set_option linter.unusedSimpArgs false
attribute [local go_sem] World.cell?_alloc_lt

structure MemAt (w : World) (mb g b each nf tg bt bf : Nat) (bs : List Int) (mt mf : List (Int × Int)) : Prop where
  st : Blk w mb 65 [.pointer (some ⟨g, 0, none⟩), .pointer (some ⟨tg, 0, none⟩)]
  fs : StoreAt w g b each nf bs
  tb : TwoII w tg bt bf mt mf
  ok : Fair nf mt mf
theorem blk_ne_map {α : Type} {κ : Keys α} {w : World} {b g : Nat} {t : TypeId} {cs : List Value} {m : List (α × Value)} (h : Blk w g t cs) (hm : MapAt κ w b m) : g ≠ b := by
  intro e
  subst e
  obtain ⟨es, clock, hb, _⟩ := hm.ex
  unfold Blk at h
  rw [h] at hb
  cases hb
section
variable {w w' : World} {mb g b each nf tg bt bf : Nat} {bs : List Int} {mt mf : List (Int × Int)}
theorem MemAt.ch {S : List Nat} (h : MemAt w mb g b each nf tg bt bf bs mt mf) (k : Ch S w w') (hS : ∀ x ∈ S, x ≠ mb ∧ x ≠ g ∧ x ≠ b ∧ x ≠ tg ∧ x ≠ bt ∧ x ≠ bf) : MemAt w' mb g b each nf tg bt bf bs mt mf :=
  ⟨h.st.ch k (fun hm => (hS _ hm).1 rfl), h.fs.ch k (fun hm => (hS _ hm).2.1 rfl) (fun hm => (hS _ hm).2.2.1 rfl), h.tb.ch k (fun hm => (hS _ hm).2.2.2.1 rfl) (fun hm => (hS _ hm).2.2.2.2.1 rfl) (fun hm => (hS _ hm).2.2.2.2.2 rfl), h.ok⟩
theorem MemAt.below (h : MemAt w mb g b each nf tg bt bf bs mt mf) (k : Below w.heap.size w w') : MemAt w' mb g b each nf tg bt bf bs mt mf := ⟨h.st.below k, h.fs.below k, h.tb.below k, h.ok⟩
theorem MemAt.dn (h : MemAt w mb g b each nf tg bt bf bs mt mf) (n : Nat) : MemAt (w.drewN n) mb g b each nf tg bt bf bs mt mf := h.below (bel_drewN (Below.refl _ _) n)
end
theorem me_new (g : Nat) (w : World) : Calls Tryd.prog 6 #[.pointer (some ⟨g, 0, none⟩)] w fun e w' => ∃ mb tg bt bf, e = .returned (.tuple #[.pointer (some ⟨mb, 0, none⟩), .int .i64 0]) ∧ w.heap.size ≤ mb ∧ w.heap.size ≤ tg ∧ w.heap.size ≤ bt ∧ w.heap.size ≤ bf ∧ Blk w' mb 65 [.pointer (some ⟨g, 0, none⟩), .pointer (some ⟨tg, 0, none⟩)] ∧ TwoII w' tg bt bf [] [] ∧ Below w.heap.size w w' := by
  go_enter Tryd.func6, Tryd.ntmps6
  go_wp2_with fail
  refine (tII_New w).mono ?_; rintro e w1 ⟨tg, bt, bf, rfl, h1, h2, h3, hT, hB⟩
  have hb := Blk.new w1 65 [.pointer (some ⟨g, 0, none⟩), .pointer (some ⟨tg, 0, none⟩)]
  have hba : Below w1.heap.size w1 (w1.alloc (.cells #[.pointer (some ⟨g, 0, none⟩), .pointer (some ⟨tg, 0, none⟩)] 65)) := bel_alloc (Below.refl _ _) _
  have hT2 := hT.below hba
  have hB2 := bel_trans hB hba
  have hs := hB.size
  have HB := Lib.hid hb; have HT := Lib.hid hT2; have HB2 := Lib.hid hB2
  clear hb hba hT2 hB2 hT hB
  go_wp2_with fail
  go_ret2
  exact ⟨_, tg, bt, bf, rfl, hs, h1, h2, h3, HB.out, HT.out, HB2.out⟩
theorem me_new_nil (w : World) : Calls Tryd.prog 6 #[.pointer none] w fun e w' => e = .returned (.tuple #[.pointer none, .int .i64 1]) ∧ w = w' := by
  go_enter Tryd.func6, Tryd.ntmps6
  go_wp2_with fail
  go_ret2
  exact ⟨rfl, rfl⟩
theorem fair_put {nf : Nat} {mt mf : List (Int × Int)} {p f : Int} (hF : Fair nf mt mf) (h2 : 0 ≤ f) (h3 : f < (nf : Int)) (hp : mget mt p = none) (hf : mget mf f = none) : Fair nf (mput mt p f) (mput mf f p) := by
  refine ⟨fun q x h => ?_, fun q x => ?_⟩
  · rw [mget_put] at h
    split at h
    · injection h with h; subst h; exact ⟨h2, h3⟩
    · exact hF.fr q x h
  · rw [mget_put, mget_put]
    by_cases e : p = q
    · subst e
      rw [if_pos rfl]
      by_cases e2 : f = x
      · subst e2; rw [if_pos rfl]; simp
      · rw [if_neg e2]
        constructor
        · intro h; injection h with h; exact absurd h e2
        · intro h; have := (hF.io p x).2 h; rw [hp] at this; cases this
    · rw [if_neg e]
      by_cases e2 : f = x
      · subst e2
        rw [if_pos rfl]
        constructor
        · intro h; have := (hF.io q f).1 h; rw [hf] at this; cases this
        · intro h; injection h with h; exact absurd h e
      · rw [if_neg e2]; exact hF.io q x
theorem page_yes (mb : Nat) (n : Int) (h0 : 0 ≤ n) (h1 : n < 4096) (w : World) : Calls Tryd.prog 49 #[.pointer (some ⟨mb, 0, none⟩), .int .i64 n] w fun e w' => e = .returned (.bool true) ∧ w = w' := by
  go_enter Tryd.func49, Tryd.ntmps49
  go_wp2_with fail
  go_ret
  exact ⟨rfl, rfl⟩
section
variable (mb g b each nf tg bt bf : Nat) (bs : List Int) (mt mf : List (Int × Int)) (w : World) (hM : MemAt w mb g b each nf tg bt bf bs mt mf)
include hM
theorem both_yes (p f : Int) (h0 : 0 ≤ p) (h1 : p < 4096) (h2 : 0 ≤ f) (h3 : f < (nf : Int)) : Calls Tryd.prog 24 #[.pointer (some ⟨mb, 0, none⟩), .int .i64 p, .int .i64 f] w fun e w' => e = .returned (.bool true) ∧ w = w' := by
  have k0 := hM.st.at_ (i := 0) rfl
  have hG := hM.fs
  clear hM
  go_enter Tryd.func24, Tryd.ntmps24
  go_wp2_with fail
  refine (page_yes mb p h0 h1 w).mono ?_; rintro e w1 ⟨rfl, rfl⟩
  go_wp2_with fail
  refine (fr_len g b each nf bs w hG).mono ?_; rintro e w1 ⟨rfl, rfl⟩
  go_wp2_with fail
  go_ret
  exact ⟨rfl, rfl⟩
theorem me_mapped : Calls Tryd.prog 15 #[.pointer (some ⟨mb, 0, none⟩)] w fun e w' => e = .returned (.int .i64 mt.length) ∧ w = w' := by
  have k1 := hM.st.at_ (i := 1) rfl
  have hT := hM.tb
  clear hM
  go_enter Tryd.func15, Tryd.ntmps15
  go_wp2_with fail
  refine (tII_Len tg bt bf mt mf w hT).mono ?_; rintro e w1 ⟨rfl, rfl⟩
  go_wp2_with fail
  go_ret
  exact ⟨rfl, rfl⟩
theorem me_page (f : Int) : Calls Tryd.prog 11 #[.pointer (some ⟨mb, 0, none⟩), .int .i64 f] w fun e w' => e = .returned (.tuple #[.int .i64 ((mget mf f).getD 0), .bool (mget mf f).isSome]) ∧ w = w' := by
  have k1 := hM.st.at_ (i := 1) rfl
  have hT := tII_From tg bt bf mt mf f w hM.tb
  have HT := Lib.hid hT
  clear hM hT
  go_enter Tryd.func11, Tryd.ntmps11
  go_wp2_with fail
  refine HT.out.mono ?_; rintro e w1 ⟨rfl, rfl⟩
  go_wp2_with fail
  go_ret2
  exact ⟨rfl, rfl⟩
theorem me_map (p f : Int) (h0 : 0 ≤ p) (h1 : p < 4096) (h2 : 0 ≤ f) (h3 : f < (nf : Int)) (hp : mget mt p = none) (hf : mget mf f = none) : Calls Tryd.prog 8 #[.pointer (some ⟨mb, 0, none⟩), .int .i64 p, .int .i64 f] w fun e w' => e = .returned (.int .i64 0) ∧ MemAt w' mb g b each nf tg bt bf bs (mput mt p f) (mput mf f p) ∧ Ch [bt, bf] w w' := by
  have k1 := hM.st.at_ (i := 1) rfl
  have hbo := both_yes mb g b each nf tg bt bf bs mt mf w hM p f h0 h1 h2 h3
  have hmy := tII_Map_yes tg bt bf mt mf p f w hM.tb hp hf
  have hfair := fair_put hM.ok h2 h3 hp hf
  have HBO := Lib.hid hbo; have HMY := Lib.hid hmy; have HF := Lib.hid hfair; have HM := Lib.hid hM
  clear hbo hmy hfair hM hp hf
  go_enter Tryd.func8, Tryd.ntmps8
  go_wp2_with fail
  refine HBO.out.mono ?_; rintro e w1 ⟨rfl, rfl⟩
  go_wp2_with fail
  refine HMY.out.mono ?_; rintro e w1 ⟨rfl, hT, hc⟩
  go_wp2_with fail
  go_ret
  have n1 := blk_ne_map HM.out.st HM.out.tb.to_
  have n2 := blk_ne_map HM.out.st HM.out.tb.fr
  have n3 := blk_ne_map HM.out.fs.st HM.out.tb.to_
  have n4 := blk_ne_map HM.out.fs.st HM.out.tb.fr
  have n5 := blk_ne_map HM.out.fs.dt HM.out.tb.to_
  have n6 := blk_ne_map HM.out.fs.dt HM.out.tb.fr
  exact ⟨rfl, ⟨HM.out.st.ch hc (by simp [n1, n2]), HM.out.fs.ch hc (by simp [n3, n4]) (by simp [n5, n6]), hT, HF.out⟩, hc⟩
end
end Go.Proofs.YtbgnaohjcfbaaaaDoor
