/- Contracts of package table (layer 6): Two[int,int]. -/
import Derived.Test.YtbgnaohjcfbaaaaDoorMap
import Derived.Maps.OwnSet
namespace Go.Proofs.YtbgnaohjcfbaaaaDoor
open Go.RowKit
set_option linter.unusedVariables false
set_option linter.unusedSimpArgs false
attribute [local go_sem] World.cell?_alloc_lt

/-- A table both ways. -/
structure TwoII (w : World) (g bt bf : Nat) (mt : List (Int × Int)) (mf : List (Int × Int)) : Prop where
  st : Blk w g 93 [.map (some bt), .map (some bf)]
  to_ : MapAt intKeys w bt (mt.map fun p => (p.1, (Value.int .i64) p.2))
  fr : MapAt intKeys w bf (mf.map fun p => (p.1, (Value.int .i64) p.2))
  ne_ : bt ≠ bf
  nt : g ≠ bt
  nf : g ≠ bf
section
variable {w w' : World} {g bt bf : Nat} {mt : List (Int × Int)} {mf : List (Int × Int)}
theorem TwoII.ch {S : List Nat} (h : TwoII w g bt bf mt mf) (k : Ch S w w') (h1 : g ∉ S) (h2 : bt ∉ S) (h3 : bf ∉ S) : TwoII w' g bt bf mt mf := ⟨h.st.ch k h1, h.to_.ch k h2, h.fr.ch k h3, h.ne_, h.nt, h.nf⟩
theorem TwoII.below (h : TwoII w g bt bf mt mf) (k : Below w.heap.size w w') : TwoII w' g bt bf mt mf := ⟨h.st.below k, h.to_.below k, h.fr.below k, h.ne_, h.nt, h.nf⟩
theorem TwoII.dn (h : TwoII w g bt bf mt mf) (n : Nat) : TwoII (w.drewN n) g bt bf mt mf := ⟨h.st.drewN n, h.to_.of_block rfl, h.fr.of_block rfl, h.ne_, h.nt, h.nf⟩
end
theorem zIIB (w : World) : (zeroValue 3).run Tryd.prog w = .ok (.int .i64 0) w := by kernel_rfl
theorem zIIA (w : World) : (zeroValue 3).run Tryd.prog w = .ok (.int .i64 0) w := by kernel_rfl
theorem uIIt : Tryd.prog.underlying 91 = some (.map 3 3) := Tryd.underlying91
theorem uIIf : Tryd.prog.underlying 91 = some (.map 3 3) := Tryd.underlying91
theorem kIIA : Tryd.prog.underlying 3 = some (intKeys).kind := Tryd.underlying3
theorem kIIB : Tryd.prog.underlying 3 = some (intKeys).kind := Tryd.underlying3

theorem tII_New (w : World) : Calls Tryd.prog 22 #[] w fun e w' => ∃ g bt bf, e = .returned (.pointer (some ⟨g, 0, none⟩)) ∧ w.heap.size ≤ g ∧ w.heap.size ≤ bt ∧ w.heap.size ≤ bf ∧ TwoII w' g bt bf [] [] ∧ Below w.heap.size w w' := by
  have hmm := @run_makeMap Tryd.prog
  go_enter Tryd.func22, Tryd.ntmps22
  go_wp2
  go_ret
  refine ⟨w.heap.size + 1 + 1, w.heap.size, w.heap.size + 1, rfl, by omega, by omega, by omega, ⟨?_, ?_, ?_, by omega, by omega, by omega⟩, bel_alloc (bel_alloc (bel_alloc (Below.refl _ _) _) _) _⟩
  · have h := Blk.new ((w.alloc (.map #[] 0)).alloc (.map #[] 0)) 93 [.map (some w.heap.size), .map (some (w.heap.size + 1))]
    simpa using h
  · have h := MapAt.new (κ := intKeys) w
    exact (h.below (bel_alloc (Below.refl _ _) _)).below (bel_alloc (Below.refl _ _) _)
  · have h := MapAt.new (κ := intKeys) (w.alloc (.map #[] 0))
    rw [World.size_alloc] at h
    exact h.below (bel_alloc (Below.refl _ _) _)

/-- What a look-up of the one kind comes to. -/
theorem lookIIt {w : World} {g bt bf : Nat} {mt : List (Int × Int)} {mf : List (Int × Int)} (h : TwoII w g bt bf mt mf) (a : Int) : (Instr.lookup 91 (.map (some bt)) (.int .i64 a) true).run Tryd.prog w = .ok (.tuple #[(Value.int .i64) ((mget mt a).getD 0), .bool (mget mt a).isSome]) w := by
  have hr := h.to_.run_lookup uIIt kIIA (.int .i64 0) zIIB a
  rw [mget_over, Option.isSome_map] at hr
  have e : ((mget mt a).map (Value.int .i64)).getD (.int .i64 0) = (Value.int .i64) ((mget mt a).getD 0) := by cases mget mt a <;> rfl
  rw [e] at hr
  exact hr
theorem lookIIf {w : World} {g bt bf : Nat} {mt : List (Int × Int)} {mf : List (Int × Int)} (h : TwoII w g bt bf mt mf) (b : Int) : (Instr.lookup 91 (.map (some bf)) (.int .i64 b) true).run Tryd.prog w = .ok (.tuple #[(Value.int .i64) ((mget mf b).getD 0), .bool (mget mf b).isSome]) w := by
  have hr := h.fr.run_lookup uIIf kIIB (.int .i64 0) zIIA b
  rw [mget_over, Option.isSome_map] at hr
  have e : ((mget mf b).map (Value.int .i64)).getD (.int .i64 0) = (Value.int .i64) ((mget mf b).getD 0) := by cases mget mf b <;> rfl
  rw [e] at hr
  exact hr

theorem tII_To (g bt bf : Nat) (mt : List (Int × Int)) (mf : List (Int × Int)) (a : Int) (w : World) (h : TwoII w g bt bf mt mf) : Calls Tryd.prog 31 #[.pointer (some ⟨g, 0, none⟩), .int .i64 a] w fun e w' => e = .returned (.tuple #[(Value.int .i64) ((mget mt a).getD 0), .bool (mget mt a).isSome]) ∧ w = w' := by
  have k0 := h.st.at_ (i := 0) rfl
  have hl := lookIIt h a
  generalize (mget mt a).getD 0 = u at hl ⊢
  generalize (mget mt a).isSome = q at hl ⊢
  go_enter Tryd.func31, Tryd.ntmps31
  go_wp2
  go_ret2
  exact ⟨rfl, rfl⟩
theorem tII_From (g bt bf : Nat) (mt : List (Int × Int)) (mf : List (Int × Int)) (b : Int) (w : World) (h : TwoII w g bt bf mt mf) : Calls Tryd.prog 28 #[.pointer (some ⟨g, 0, none⟩), .int .i64 b] w fun e w' => e = .returned (.tuple #[(Value.int .i64) ((mget mf b).getD 0), .bool (mget mf b).isSome]) ∧ w = w' := by
  have k1 := h.st.at_ (i := 1) rfl
  have hl := lookIIf h b
  generalize (mget mf b).getD 0 = u at hl ⊢
  generalize (mget mf b).isSome = q at hl ⊢
  go_enter Tryd.func28, Tryd.ntmps28
  go_wp2
  go_ret2
  exact ⟨rfl, rfl⟩
theorem tII_Len (g bt bf : Nat) (mt : List (Int × Int)) (mf : List (Int × Int)) (w : World) (h : TwoII w g bt bf mt mf) : Calls Tryd.prog 33 #[.pointer (some ⟨g, 0, none⟩)] w fun e w' => e = .returned (.int .i64 mt.length) ∧ w = w' := by
  have k0 := h.st.at_ (i := 0) rfl
  have hl := fun ty => h.to_.run_len uIIt ty
  rw [List.length_map] at hl
  generalize mt.length = n at hl ⊢
  go_enter Tryd.func33, Tryd.ntmps33
  go_wp2
  go_ret
  exact ⟨rfl, rfl⟩

theorem tII_Map_no (g bt bf : Nat) (mt : List (Int × Int)) (mf : List (Int × Int)) (a : Int) (b : Int) (w : World) (h : TwoII w g bt bf mt mf) (hx : (mget mt a).isSome = true ∨ (mget mf b).isSome = true) : Calls Tryd.prog 25 #[.pointer (some ⟨g, 0, none⟩), .int .i64 a, .int .i64 b] w fun e w' => e = .returned (.int .i64 9) ∧ w = w' := by
  have k0 := h.st.at_ (i := 0) rfl
  have k1 := h.st.at_ (i := 1) rfl
  have hl := lookIIt h a
  have hl2 := lookIIf h b
  generalize (mget mt a).getD 0 = u at hl ⊢
  generalize (mget mt a).isSome = q at hl hx ⊢
  generalize (mget mf b).getD 0 = u2 at hl2 ⊢
  generalize (mget mf b).isSome = q2 at hl2 hx ⊢
  rcases (by cases q <;> simp_all : q = true ∨ (q = false ∧ q2 = true)) with rfl | ⟨rfl, rfl⟩
  all_goals
    clear hx
    go_enter Tryd.func25, Tryd.ntmps25
    go_wp2
    go_ret
    exact ⟨rfl, rfl⟩
set_option maxHeartbeats 1000000 in
theorem tII_Map_yes (g bt bf : Nat) (mt : List (Int × Int)) (mf : List (Int × Int)) (a : Int) (b : Int) (w : World) (h : TwoII w g bt bf mt mf) (h1 : mget mt a = none) (h2 : mget mf b = none) : Calls Tryd.prog 25 #[.pointer (some ⟨g, 0, none⟩), .int .i64 a, .int .i64 b] w fun e w' => e = .returned (.int .i64 0) ∧ TwoII w' g bt bf (mput mt a b) (mput mf b a) ∧ Ch [bt, bf] w w' := by
  have k0 := h.st.at_ (i := 0) rfl
  have k1 := h.st.at_ (i := 1) rfl
  have hl := lookIIt h a
  have hl2 := lookIIf h b
  rw [h1] at hl
  rw [h2] at hl2
  simp only [Option.getD_none, Option.isSome_none] at hl hl2
  have hT : MapAt intKeys w.drew bt (mt.map fun p => (p.1, (Value.int .i64) p.2)) := h.to_.of_block rfl
  have hF : MapAt intKeys w.drew bf (mf.map fun p => (p.1, (Value.int .i64) p.2)) := h.fr.of_block rfl
  obtain ⟨v1, s1, w1, r1, c1, x1⟩ := hT.run_mapEntry uIIt kIIA (.int .i64 0) zIIB a
  obtain ⟨w2, r2, m2, c2⟩ := x1 (.int .i64 b)
  have hF2 := (hF.ch c1 (by simp [h.ne_.symm])).ch c2 (by simp [h.ne_.symm])
  obtain ⟨v3, s3, w3, r3, c3, x3⟩ := hF2.run_mapEntry uIIf kIIB (.int .i64 0) zIIA b
  obtain ⟨w4, r4, m4, c4⟩ := x3 (.int .i64 a)
  have hT4 := (m2.ch c3 (by simp [h.ne_])).ch c4 (by simp [h.ne_])
  have hc : Ch [bt, bf] w w4 := ((((Ch.refl [bt, bf] w).drew.trans (c1.mono (by simp))).trans (c2.mono (by simp))).trans (c3.mono (by simp))).trans (c4.mono (by simp))
  have hfin : TwoII w4 g bt bf (mput mt a b) (mput mf b a) ∧ Ch [bt, bf] w w4 :=
    ⟨⟨h.st.ch hc (by simp [h.nt, h.nf]), by rw [← mput_over]; exact hT4, by rw [← mput_over]; exact m4, h.ne_, h.nt, h.nf⟩, hc⟩
  have HF := Lib.hid hfin
  clear hfin hc hT4 m4 c4 x3 c3 hF2 m2 c2 x1 c1 hT hF h h1 h2
  simp only [intKeys, intKeys] at r1 r2 r3 r4
  go_enter Tryd.func25, Tryd.ntmps25
  go_wp2_with fail
  go_region
  go_wp2
  go_ret
  exact ⟨rfl, HF.out⟩

theorem tII_Remap_no (g bt bf : Nat) (mt : List (Int × Int)) (mf : List (Int × Int)) (a : Int) (b : Int) (w : World) (h : TwoII w g bt bf mt mf) (hx : mget mt a = none ∨ (mget mf b).isSome = true) : Calls Tryd.prog 29 #[.pointer (some ⟨g, 0, none⟩), .int .i64 a, .int .i64 b] w fun e w' => e = .returned (.tuple #[.int .i64 0, .int .i64 9]) ∧ w = w' := by
  have k0 := h.st.at_ (i := 0) rfl
  have k1 := h.st.at_ (i := 1) rfl
  have hl := lookIIt h a
  have hl2 := lookIIf h b
  have hx' : (mget mt a).isSome = false ∨ (mget mf b).isSome = true := by rcases hx with e | e; left; rw [e]; rfl; right; exact e
  clear hx
  generalize (mget mt a).getD 0 = u at hl ⊢
  generalize (mget mt a).isSome = q at hl hx' ⊢
  generalize (mget mf b).getD 0 = u2 at hl2 ⊢
  generalize (mget mf b).isSome = q2 at hl2 hx' ⊢
  rcases (by cases q <;> simp_all : q = false ∨ (q = true ∧ q2 = true)) with rfl | ⟨rfl, rfl⟩
  all_goals
    clear hx'
    go_enter Tryd.func29, Tryd.ntmps29
    go_wp2
    go_ret2
    exact ⟨rfl, rfl⟩
set_option maxHeartbeats 1000000 in
theorem tII_Remap_yes (g bt bf : Nat) (mt : List (Int × Int)) (mf : List (Int × Int)) (a : Int) (b was : Int) (w : World) (h : TwoII w g bt bf mt mf) (h1 : mget mt a = some was) (h2 : mget mf b = none) : Calls Tryd.prog 29 #[.pointer (some ⟨g, 0, none⟩), .int .i64 a, .int .i64 b] w fun e w' => e = .returned (.tuple #[.int .i64 was, .int .i64 0]) ∧ TwoII w' g bt bf (mput mt a b) (mput (mdel mf was) b a) ∧ Ch [bt, bf] w w' := by
  have k0 := h.st.at_ (i := 0) rfl
  have k1 := h.st.at_ (i := 1) rfl
  have hl := lookIIt h a
  have hl2 := lookIIf h b
  rw [h1] at hl
  rw [h2] at hl2
  simp only [Option.getD_none, Option.isSome_none, Option.getD_some, Option.isSome_some] at hl hl2
  have d1 : ∀ ty, ∃ w1, (Builtin.delete_ #[91, 3] ty #[.map (some bf), .int .i64 was]).run Tryd.prog w = .ok (.tuple #[]) w1 ∧ MapAt intKeys w1 bf (mdel (mf.map fun p => (p.1, (Value.int .i64) p.2)) was) ∧ Ch [bf] w w1 := fun ty => h.fr.run_delete uIIf kIIB was _ ty
  obtain ⟨w0, r0, m0, c0⟩ := d1 0
  have hs0 := h.st.ch c0 (by simp [h.nf])
  have ht0 := h.to_.ch c0 (by simp [h.ne_])
  have q0 := hs0.at_ (i := 0) rfl
  have q1 := hs0.at_ (i := 1) rfl
  have hT : MapAt intKeys w0.drew bt (mt.map fun p => (p.1, (Value.int .i64) p.2)) := ht0.of_block rfl
  have hF : MapAt intKeys w0.drew bf (mdel (mf.map fun p => (p.1, (Value.int .i64) p.2)) was) := m0.of_block rfl
  obtain ⟨v1, s1, w1, r1, c1, x1⟩ := hT.run_mapEntry uIIt kIIA (.int .i64 0) zIIB a
  obtain ⟨w2, r2, m2, c2⟩ := x1 (.int .i64 b)
  have hF2 := (hF.ch c1 (by simp [h.ne_.symm])).ch c2 (by simp [h.ne_.symm])
  obtain ⟨v3, s3, w3, r3, c3, x3⟩ := hF2.run_mapEntry uIIf kIIB (.int .i64 0) zIIA b
  obtain ⟨w4, r4, m4, c4⟩ := x3 (.int .i64 a)
  have hT4 := (m2.ch c3 (by simp [h.ne_])).ch c4 (by simp [h.ne_])
  have hc0 : Ch [bt, bf] w0 w4 := ((((Ch.refl [bt, bf] w0).drew.trans (c1.mono (by simp))).trans (c2.mono (by simp))).trans (c3.mono (by simp))).trans (c4.mono (by simp))
  have hc : Ch [bt, bf] w w4 := (c0.mono (by simp)).trans hc0
  have hfin : TwoII w4 g bt bf (mput mt a b) (mput (mdel mf was) b a) ∧ Ch [bt, bf] w w4 :=
    ⟨⟨h.st.ch hc (by simp [h.nt, h.nf]), by rw [← mput_over]; exact hT4, by rw [← mput_over, ← mdel_over]; exact m4, h.ne_, h.nt, h.nf⟩, hc⟩
  have HF := Lib.hid hfin
  clear hfin hc hc0 hT4 m4 c4 x3 c3 hF2 m2 c2 x1 c1 hT hF ht0 hs0 m0 c0 d1 h h1 h2
  simp only [intKeys, intKeys] at r1 r2 r3 r4
  go_enter Tryd.func29, Tryd.ntmps29
  go_wp2_with fail
  go_region
  go_wp2
  go_ret2
  exact ⟨rfl, HF.out⟩
end Go.Proofs.YtbgnaohjcfbaaaaDoor
