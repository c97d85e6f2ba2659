/- Contracts of package table (layer 6): Two[string,int]. -/
import Derived.Test.YtkjhodaglanpmaaMap
import Derived.Maps.OwnSet
namespace Go.Proofs.Ytkjhodaglanpmaa
open Go.RowKit
set_option linter.unusedVariables false
set_option linter.unusedSimpArgs false
attribute [local go_sem] World.cell?_alloc_lt

/-- A table both ways. -/
structure TwoSI (w : World) (g bt bf : Nat) (mt : List (ByteArray × Int)) (mf : List (Int × ByteArray)) : Prop where
  st : Blk w g 107 [.map (some bt), .map (some bf)]
  to_ : MapAt strKeys w bt (mt.map fun p => (p.1, (Value.int .i64) p.2))
  fr : MapAt intKeys w bf (mf.map fun p => (p.1, Value.string p.2))
  ne_ : bt ≠ bf
  nt : g ≠ bt
  nf : g ≠ bf
section
variable {w w' : World} {g bt bf : Nat} {mt : List (ByteArray × Int)} {mf : List (Int × ByteArray)}
theorem TwoSI.ch {S : List Nat} (h : TwoSI w g bt bf mt mf) (k : Ch S w w') (h1 : g ∉ S) (h2 : bt ∉ S) (h3 : bf ∉ S) : TwoSI w' g bt bf mt mf := ⟨h.st.ch k h1, h.to_.ch k h2, h.fr.ch k h3, h.ne_, h.nt, h.nf⟩
theorem TwoSI.below (h : TwoSI w g bt bf mt mf) (k : Below w.heap.size w w') : TwoSI w' g bt bf mt mf := ⟨h.st.below k, h.to_.below k, h.fr.below k, h.ne_, h.nt, h.nf⟩
theorem TwoSI.dn (h : TwoSI w g bt bf mt mf) (n : Nat) : TwoSI (w.drewN n) g bt bf mt mf := ⟨h.st.drewN n, h.to_.of_block rfl, h.fr.of_block rfl, h.ne_, h.nt, h.nf⟩
end
theorem zSIB (w : World) : (zeroValue 3).run Try.prog w = .ok (.int .i64 0) w := by kernel_rfl
theorem zSIA (w : World) : (zeroValue 9).run Try.prog w = .ok (.string ByteArray.empty) w := by kernel_rfl
theorem uSIt : Try.prog.underlying 104 = some (.map 9 3) := Try.underlying104
theorem uSIf : Try.prog.underlying 105 = some (.map 3 9) := Try.underlying105
theorem kSIA : Try.prog.underlying 9 = some (strKeys).kind := Try.underlying9
theorem kSIB : Try.prog.underlying 3 = some (intKeys).kind := Try.underlying3

theorem tSI_New (w : World) : Calls Try.prog 24 #[] w fun e w' => ∃ g bt bf, e = .returned (.pointer (some ⟨g, 0, none⟩)) ∧ w.heap.size ≤ g ∧ w.heap.size ≤ bt ∧ w.heap.size ≤ bf ∧ TwoSI w' g bt bf [] [] ∧ Below w.heap.size w w' := by
  have hmm := @run_makeMap Try.prog
  go_enter Try.func24, Try.ntmps24
  go_wp2
  go_ret
  refine ⟨w.heap.size + 1 + 1, w.heap.size, w.heap.size + 1, rfl, by omega, by omega, by omega, ⟨?_, ?_, ?_, by omega, by omega, by omega⟩, bel_alloc (bel_alloc (bel_alloc (Below.refl _ _) _) _) _⟩
  · have h := Blk.new ((w.alloc (.map #[] 0)).alloc (.map #[] 0)) 107 [.map (some w.heap.size), .map (some (w.heap.size + 1))]
    simpa using h
  · have h := MapAt.new (κ := strKeys) w
    exact (h.below (bel_alloc (Below.refl _ _) _)).below (bel_alloc (Below.refl _ _) _)
  · have h := MapAt.new (κ := intKeys) (w.alloc (.map #[] 0))
    rw [World.size_alloc] at h
    exact h.below (bel_alloc (Below.refl _ _) _)

/-- What a look-up of the one kind comes to. -/
theorem lookSIt {w : World} {g bt bf : Nat} {mt : List (ByteArray × Int)} {mf : List (Int × ByteArray)} (h : TwoSI w g bt bf mt mf) (a : ByteArray) : (Instr.lookup 104 (.map (some bt)) (.string a) true).run Try.prog w = .ok (.tuple #[(Value.int .i64) ((mget mt a).getD 0), .bool (mget mt a).isSome]) w := by
  have hr := h.to_.run_lookup uSIt kSIA (.int .i64 0) zSIB a
  rw [mget_over, Option.isSome_map] at hr
  have e : ((mget mt a).map (Value.int .i64)).getD (.int .i64 0) = (Value.int .i64) ((mget mt a).getD 0) := by cases mget mt a <;> rfl
  rw [e] at hr
  exact hr
theorem lookSIf {w : World} {g bt bf : Nat} {mt : List (ByteArray × Int)} {mf : List (Int × ByteArray)} (h : TwoSI w g bt bf mt mf) (b : Int) : (Instr.lookup 105 (.map (some bf)) (.int .i64 b) true).run Try.prog w = .ok (.tuple #[Value.string ((mget mf b).getD ByteArray.empty), .bool (mget mf b).isSome]) w := by
  have hr := h.fr.run_lookup uSIf kSIB (.string ByteArray.empty) zSIA b
  rw [mget_over, Option.isSome_map] at hr
  have e : ((mget mf b).map Value.string).getD (.string ByteArray.empty) = Value.string ((mget mf b).getD ByteArray.empty) := by cases mget mf b <;> rfl
  rw [e] at hr
  exact hr

theorem tSI_From (g bt bf : Nat) (mt : List (ByteArray × Int)) (mf : List (Int × ByteArray)) (b : Int) (w : World) (h : TwoSI w g bt bf mt mf) : Calls Try.prog 28 #[.pointer (some ⟨g, 0, none⟩), .int .i64 b] w fun e w' => e = .returned (.tuple #[Value.string ((mget mf b).getD ByteArray.empty), .bool (mget mf b).isSome]) ∧ w = w' := by
  have k1 := h.st.at_ (i := 1) rfl
  have hl := lookSIf h b
  generalize (mget mf b).getD ByteArray.empty = u at hl ⊢
  generalize (mget mf b).isSome = q at hl ⊢
  go_enter Try.func28, Try.ntmps28
  go_wp2
  go_ret2
  exact ⟨rfl, rfl⟩
theorem tSI_Len (g bt bf : Nat) (mt : List (ByteArray × Int)) (mf : List (Int × ByteArray)) (w : World) (h : TwoSI w g bt bf mt mf) : Calls Try.prog 27 #[.pointer (some ⟨g, 0, none⟩)] w fun e w' => e = .returned (.int .i64 mt.length) ∧ w = w' := by
  have k0 := h.st.at_ (i := 0) rfl
  have hl := fun ty => h.to_.run_len uSIt ty
  rw [List.length_map] at hl
  generalize mt.length = n at hl ⊢
  go_enter Try.func27, Try.ntmps27
  go_wp2
  go_ret
  exact ⟨rfl, rfl⟩

theorem tSI_Map_no (g bt bf : Nat) (mt : List (ByteArray × Int)) (mf : List (Int × ByteArray)) (a : ByteArray) (b : Int) (w : World) (h : TwoSI w g bt bf mt mf) (hx : (mget mt a).isSome = true ∨ (mget mf b).isSome = true) : Calls Try.prog 25 #[.pointer (some ⟨g, 0, none⟩), .string a, .int .i64 b] w fun e w' => e = .returned (.int .i64 9) ∧ w = w' := by
  have k0 := h.st.at_ (i := 0) rfl
  have k1 := h.st.at_ (i := 1) rfl
  have hl := lookSIt h a
  have hl2 := lookSIf h b
  generalize (mget mt a).getD 0 = u at hl ⊢
  generalize (mget mt a).isSome = q at hl hx ⊢
  generalize (mget mf b).getD ByteArray.empty = u2 at hl2 ⊢
  generalize (mget mf b).isSome = q2 at hl2 hx ⊢
  rcases (by cases q <;> simp_all : q = true ∨ (q = false ∧ q2 = true)) with rfl | ⟨rfl, rfl⟩
  all_goals
    clear hx
    go_enter Try.func25, Try.ntmps25
    go_wp2
    go_ret
    exact ⟨rfl, rfl⟩
set_option maxHeartbeats 1000000 in
theorem tSI_Map_yes (g bt bf : Nat) (mt : List (ByteArray × Int)) (mf : List (Int × ByteArray)) (a : ByteArray) (b : Int) (w : World) (h : TwoSI w g bt bf mt mf) (h1 : mget mt a = none) (h2 : mget mf b = none) : Calls Try.prog 25 #[.pointer (some ⟨g, 0, none⟩), .string a, .int .i64 b] w fun e w' => e = .returned (.int .i64 0) ∧ TwoSI w' g bt bf (mput mt a b) (mput mf b a) ∧ Ch [bt, bf] w w' := by
  have k0 := h.st.at_ (i := 0) rfl
  have k1 := h.st.at_ (i := 1) rfl
  have hl := lookSIt h a
  have hl2 := lookSIf h b
  rw [h1] at hl
  rw [h2] at hl2
  simp only [Option.getD_none, Option.isSome_none] at hl hl2
  have hT : MapAt strKeys w.drew bt (mt.map fun p => (p.1, (Value.int .i64) p.2)) := h.to_.of_block rfl
  have hF : MapAt intKeys w.drew bf (mf.map fun p => (p.1, Value.string p.2)) := h.fr.of_block rfl
  obtain ⟨v1, s1, w1, r1, c1, x1⟩ := hT.run_mapEntry uSIt kSIA (.int .i64 0) zSIB a
  obtain ⟨w2, r2, m2, c2⟩ := x1 (.int .i64 b)
  have hF2 := (hF.ch c1 (by simp [h.ne_.symm])).ch c2 (by simp [h.ne_.symm])
  obtain ⟨v3, s3, w3, r3, c3, x3⟩ := hF2.run_mapEntry uSIf kSIB (.string ByteArray.empty) zSIA b
  obtain ⟨w4, r4, m4, c4⟩ := x3 (.string a)
  have hT4 := (m2.ch c3 (by simp [h.ne_])).ch c4 (by simp [h.ne_])
  have hc : Ch [bt, bf] w w4 := ((((Ch.refl [bt, bf] w).drew.trans (c1.mono (by simp))).trans (c2.mono (by simp))).trans (c3.mono (by simp))).trans (c4.mono (by simp))
  have hfin : TwoSI w4 g bt bf (mput mt a b) (mput mf b a) ∧ Ch [bt, bf] w w4 :=
    ⟨⟨h.st.ch hc (by simp [h.nt, h.nf]), by rw [← mput_over]; exact hT4, by rw [← mput_over]; exact m4, h.ne_, h.nt, h.nf⟩, hc⟩
  have HF := Lib.hid hfin
  clear hfin hc hT4 m4 c4 x3 c3 hF2 m2 c2 x1 c1 hT hF h h1 h2
  simp only [strKeys, intKeys] at r1 r2 r3 r4
  go_enter Try.func25, Try.ntmps25
  go_wp2_with fail
  go_region
  go_wp2
  go_ret
  exact ⟨rfl, HF.out⟩
theorem tSI_Unmap_no (g bt bf : Nat) (mt : List (ByteArray × Int)) (mf : List (Int × ByteArray)) (a : ByteArray) (w : World) (h : TwoSI w g bt bf mt mf) (h1 : mget mt a = none) : Calls Try.prog 26 #[.pointer (some ⟨g, 0, none⟩), .string a] w fun e w' => e = .returned (.tuple #[.int .i64 0, .int .i64 9]) ∧ w = w' := by
  have k0 := h.st.at_ (i := 0) rfl
  have hl := lookSIt h a
  rw [h1] at hl
  simp only [Option.getD_none, Option.isSome_none] at hl
  clear h1
  go_enter Try.func26, Try.ntmps26
  go_wp2
  go_ret2
  exact ⟨rfl, rfl⟩
theorem tSI_Unmap_yes (g bt bf : Nat) (mt : List (ByteArray × Int)) (mf : List (Int × ByteArray)) (a : ByteArray) (b : Int) (w : World) (h : TwoSI w g bt bf mt mf) (h1 : mget mt a = some b) : Calls Try.prog 26 #[.pointer (some ⟨g, 0, none⟩), .string a] w fun e w' => e = .returned (.tuple #[.int .i64 b, .int .i64 0]) ∧ TwoSI w' g bt bf (mdel mt a) (mdel mf b) ∧ Ch [bt, bf] w w' := by
  have k0 := h.st.at_ (i := 0) rfl
  have hl := lookSIt h a
  rw [h1] at hl
  simp only [Option.getD_some, Option.isSome_some] at hl
  have d1 : ∀ ty, ∃ w1, (Builtin.delete_ #[104, 9] ty #[.map (some bt), .string a]).run Try.prog w = .ok (.tuple #[]) w1 ∧ MapAt strKeys w1 bt (mdel (mt.map fun p => (p.1, (Value.int .i64) p.2)) a) ∧ Ch [bt] w w1 := fun ty => h.to_.run_delete uSIt kSIA a _ ty
  obtain ⟨w1, r1, m1, c1⟩ := d1 0
  have hf1 := h.fr.ch c1 (by simp [h.ne_.symm])
  have d2 : ∀ ty, ∃ w2, (Builtin.delete_ #[105, 3] ty #[.map (some bf), .int .i64 b]).run Try.prog w1 = .ok (.tuple #[]) w2 ∧ MapAt intKeys w2 bf (mdel (mf.map fun p => (p.1, Value.string p.2)) b) ∧ Ch [bf] w1 w2 := fun ty => hf1.run_delete uSIf kSIB b _ ty
  obtain ⟨w2, r2, m2, c2⟩ := d2 0
  have hs1 := h.st.ch c1 (by simp [h.nt])
  have q1 := hs1.at_ (i := 1) rfl
  have hc : Ch [bt, bf] w w2 := ((Ch.refl [bt, bf] w).trans (c1.mono (by simp))).trans (c2.mono (by simp))
  have hfin : TwoSI w2 g bt bf (mdel mt a) (mdel mf b) ∧ Ch [bt, bf] w w2 :=
    ⟨⟨h.st.ch hc (by simp [h.nt, h.nf]), by rw [← mdel_over]; exact m1.ch c2 (by simp [h.ne_]), by rw [← mdel_over]; exact m2, h.ne_, h.nt, h.nf⟩, hc⟩
  have HF := Lib.hid hfin
  clear hfin hc hs1 m2 c2 d2 hf1 m1 c1 d1 h h1
  go_enter Try.func26, Try.ntmps26
  go_wp2
  go_ret2
  exact ⟨rfl, HF.out⟩

end Go.Proofs.Ytkjhodaglanpmaa
