/- Contracts of package table (layer 6): Two[int,string]. -/
import Derived.Test.YtkjhodaglanpmaaMap
import Derived.Maps.OwnSet
namespace Go.Proofs.Ytkjhodaglanpmaa
open Go.RowKit
set_option linter.unusedVariables false
set_option linter.unusedSimpArgs false
attribute [local go_sem] World.cell?_alloc_lt

/-- A table both ways. -/
structure TwoIS (w : World) (g bt bf : Nat) (mt : List (Int × ByteArray)) (mf : List (ByteArray × Int)) : Prop where
  st : Blk w g 125 [.map (some bt), .map (some bf)]
  to_ : MapAt intKeys w bt (mt.map fun p => (p.1, Value.string p.2))
  fr : MapAt strKeys w bf (mf.map fun p => (p.1, (Value.int .i64) p.2))
  ne_ : bt ≠ bf
  nt : g ≠ bt
  nf : g ≠ bf
section
variable {w w' : World} {g bt bf : Nat} {mt : List (Int × ByteArray)} {mf : List (ByteArray × Int)}
theorem TwoIS.ch {S : List Nat} (h : TwoIS w g bt bf mt mf) (k : Ch S w w') (h1 : g ∉ S) (h2 : bt ∉ S) (h3 : bf ∉ S) : TwoIS w' g bt bf mt mf := ⟨h.st.ch k h1, h.to_.ch k h2, h.fr.ch k h3, h.ne_, h.nt, h.nf⟩
theorem TwoIS.below (h : TwoIS w g bt bf mt mf) (k : Below w.heap.size w w') : TwoIS w' g bt bf mt mf := ⟨h.st.below k, h.to_.below k, h.fr.below k, h.ne_, h.nt, h.nf⟩
theorem TwoIS.dn (h : TwoIS w g bt bf mt mf) (n : Nat) : TwoIS (w.drewN n) g bt bf mt mf := ⟨h.st.drewN n, h.to_.of_block rfl, h.fr.of_block rfl, h.ne_, h.nt, h.nf⟩
end
theorem zISB (w : World) : (zeroValue 9).run Try.prog w = .ok (.string ByteArray.empty) w := by kernel_rfl
theorem zISA (w : World) : (zeroValue 3).run Try.prog w = .ok (.int .i64 0) w := by kernel_rfl
theorem uISt : Try.prog.underlying 105 = some (.map 3 9) := Try.underlying105
theorem uISf : Try.prog.underlying 104 = some (.map 9 3) := Try.underlying104
theorem kISA : Try.prog.underlying 3 = some (intKeys).kind := Try.underlying3
theorem kISB : Try.prog.underlying 9 = some (strKeys).kind := Try.underlying9

theorem tIS_New (w : World) : Calls Try.prog 62 #[] w fun e w' => ∃ g bt bf, e = .returned (.pointer (some ⟨g, 0, none⟩)) ∧ w.heap.size ≤ g ∧ w.heap.size ≤ bt ∧ w.heap.size ≤ bf ∧ TwoIS w' g bt bf [] [] ∧ Below w.heap.size w w' := by
  have hmm := @run_makeMap Try.prog
  go_enter Try.func62, Try.ntmps62
  go_wp2
  go_ret
  refine ⟨w.heap.size + 1 + 1, w.heap.size, w.heap.size + 1, rfl, by omega, by omega, by omega, ⟨?_, ?_, ?_, by omega, by omega, by omega⟩, bel_alloc (bel_alloc (bel_alloc (Below.refl _ _) _) _) _⟩
  · have h := Blk.new ((w.alloc (.map #[] 0)).alloc (.map #[] 0)) 125 [.map (some w.heap.size), .map (some (w.heap.size + 1))]
    simpa using h
  · have h := MapAt.new (κ := intKeys) w
    exact (h.below (bel_alloc (Below.refl _ _) _)).below (bel_alloc (Below.refl _ _) _)
  · have h := MapAt.new (κ := strKeys) (w.alloc (.map #[] 0))
    rw [World.size_alloc] at h
    exact h.below (bel_alloc (Below.refl _ _) _)

/-- What a look-up of the one kind comes to. -/
theorem lookISt {w : World} {g bt bf : Nat} {mt : List (Int × ByteArray)} {mf : List (ByteArray × Int)} (h : TwoIS w g bt bf mt mf) (a : Int) : (Instr.lookup 105 (.map (some bt)) (.int .i64 a) true).run Try.prog w = .ok (.tuple #[Value.string ((mget mt a).getD ByteArray.empty), .bool (mget mt a).isSome]) w := by
  have hr := h.to_.run_lookup uISt kISA (.string ByteArray.empty) zISB a
  rw [mget_over, Option.isSome_map] at hr
  have e : ((mget mt a).map Value.string).getD (.string ByteArray.empty) = Value.string ((mget mt a).getD ByteArray.empty) := by cases mget mt a <;> rfl
  rw [e] at hr
  exact hr
theorem lookISf {w : World} {g bt bf : Nat} {mt : List (Int × ByteArray)} {mf : List (ByteArray × Int)} (h : TwoIS w g bt bf mt mf) (b : ByteArray) : (Instr.lookup 104 (.map (some bf)) (.string b) true).run Try.prog w = .ok (.tuple #[(Value.int .i64) ((mget mf b).getD 0), .bool (mget mf b).isSome]) w := by
  have hr := h.fr.run_lookup uISf kISB (.int .i64 0) zISA b
  rw [mget_over, Option.isSome_map] at hr
  have e : ((mget mf b).map (Value.int .i64)).getD (.int .i64 0) = (Value.int .i64) ((mget mf b).getD 0) := by cases mget mf b <;> rfl
  rw [e] at hr
  exact hr

theorem tIS_From (g bt bf : Nat) (mt : List (Int × ByteArray)) (mf : List (ByteArray × Int)) (b : ByteArray) (w : World) (h : TwoIS w g bt bf mt mf) : Calls Try.prog 65 #[.pointer (some ⟨g, 0, none⟩), .string b] w fun e w' => e = .returned (.tuple #[(Value.int .i64) ((mget mf b).getD 0), .bool (mget mf b).isSome]) ∧ w = w' := by
  have k1 := h.st.at_ (i := 1) rfl
  have hl := lookISf h b
  generalize (mget mf b).getD 0 = u at hl ⊢
  generalize (mget mf b).isSome = q at hl ⊢
  go_enter Try.func65, Try.ntmps65
  go_wp2
  go_ret2
  exact ⟨rfl, rfl⟩
theorem tIS_Len (g bt bf : Nat) (mt : List (Int × ByteArray)) (mf : List (ByteArray × Int)) (w : World) (h : TwoIS w g bt bf mt mf) : Calls Try.prog 66 #[.pointer (some ⟨g, 0, none⟩)] w fun e w' => e = .returned (.int .i64 mt.length) ∧ w = w' := by
  have k0 := h.st.at_ (i := 0) rfl
  have hl := fun ty => h.to_.run_len uISt ty
  rw [List.length_map] at hl
  generalize mt.length = n at hl ⊢
  go_enter Try.func66, Try.ntmps66
  go_wp2
  go_ret
  exact ⟨rfl, rfl⟩

theorem tIS_Map_no (g bt bf : Nat) (mt : List (Int × ByteArray)) (mf : List (ByteArray × Int)) (a : Int) (b : ByteArray) (w : World) (h : TwoIS w g bt bf mt mf) (hx : (mget mt a).isSome = true ∨ (mget mf b).isSome = true) : Calls Try.prog 63 #[.pointer (some ⟨g, 0, none⟩), .int .i64 a, .string b] w fun e w' => e = .returned (.int .i64 9) ∧ w = w' := by
  have k0 := h.st.at_ (i := 0) rfl
  have k1 := h.st.at_ (i := 1) rfl
  have hl := lookISt h a
  have hl2 := lookISf h b
  generalize (mget mt a).getD ByteArray.empty = u at hl ⊢
  generalize (mget mt a).isSome = q at hl hx ⊢
  generalize (mget mf b).getD 0 = u2 at hl2 ⊢
  generalize (mget mf b).isSome = q2 at hl2 hx ⊢
  rcases (by cases q <;> simp_all : q = true ∨ (q = false ∧ q2 = true)) with rfl | ⟨rfl, rfl⟩
  all_goals
    clear hx
    go_enter Try.func63, Try.ntmps63
    go_wp2
    go_ret
    exact ⟨rfl, rfl⟩
set_option maxHeartbeats 1000000 in
theorem tIS_Map_yes (g bt bf : Nat) (mt : List (Int × ByteArray)) (mf : List (ByteArray × Int)) (a : Int) (b : ByteArray) (w : World) (h : TwoIS w g bt bf mt mf) (h1 : mget mt a = none) (h2 : mget mf b = none) : Calls Try.prog 63 #[.pointer (some ⟨g, 0, none⟩), .int .i64 a, .string b] w fun e w' => e = .returned (.int .i64 0) ∧ TwoIS w' g bt bf (mput mt a b) (mput mf b a) ∧ Ch [bt, bf] w w' := by
  have k0 := h.st.at_ (i := 0) rfl
  have k1 := h.st.at_ (i := 1) rfl
  have hl := lookISt h a
  have hl2 := lookISf h b
  rw [h1] at hl
  rw [h2] at hl2
  simp only [Option.getD_none, Option.isSome_none] at hl hl2
  have hT : MapAt intKeys w.drew bt (mt.map fun p => (p.1, Value.string p.2)) := h.to_.of_block rfl
  have hF : MapAt strKeys w.drew bf (mf.map fun p => (p.1, (Value.int .i64) p.2)) := h.fr.of_block rfl
  obtain ⟨v1, s1, w1, r1, c1, x1⟩ := hT.run_mapEntry uISt kISA (.string ByteArray.empty) zISB a
  obtain ⟨w2, r2, m2, c2⟩ := x1 (.string b)
  have hF2 := (hF.ch c1 (by simp [h.ne_.symm])).ch c2 (by simp [h.ne_.symm])
  obtain ⟨v3, s3, w3, r3, c3, x3⟩ := hF2.run_mapEntry uISf kISB (.int .i64 0) zISA b
  obtain ⟨w4, r4, m4, c4⟩ := x3 (.int .i64 a)
  have hT4 := (m2.ch c3 (by simp [h.ne_])).ch c4 (by simp [h.ne_])
  have hc : Ch [bt, bf] w w4 := ((((Ch.refl [bt, bf] w).drew.trans (c1.mono (by simp))).trans (c2.mono (by simp))).trans (c3.mono (by simp))).trans (c4.mono (by simp))
  have hfin : TwoIS w4 g bt bf (mput mt a b) (mput mf b a) ∧ Ch [bt, bf] w w4 :=
    ⟨⟨h.st.ch hc (by simp [h.nt, h.nf]), by rw [← mput_over]; exact hT4, by rw [← mput_over]; exact m4, h.ne_, h.nt, h.nf⟩, hc⟩
  have HF := Lib.hid hfin
  clear hfin hc hT4 m4 c4 x3 c3 hF2 m2 c2 x1 c1 hT hF h h1 h2
  simp only [intKeys, strKeys] at r1 r2 r3 r4
  go_enter Try.func63, Try.ntmps63
  go_wp2_with fail
  go_region
  go_wp2
  go_ret
  exact ⟨rfl, HF.out⟩

theorem tIS_Remap_no (g bt bf : Nat) (mt : List (Int × ByteArray)) (mf : List (ByteArray × Int)) (a : Int) (b : ByteArray) (w : World) (h : TwoIS w g bt bf mt mf) (hx : mget mt a = none ∨ (mget mf b).isSome = true) : Calls Try.prog 64 #[.pointer (some ⟨g, 0, none⟩), .int .i64 a, .string b] w fun e w' => e = .returned (.tuple #[.string ByteArray.empty, .int .i64 9]) ∧ w = w' := by
  have k0 := h.st.at_ (i := 0) rfl
  have k1 := h.st.at_ (i := 1) rfl
  have hl := lookISt h a
  have hl2 := lookISf h b
  have hx' : (mget mt a).isSome = false ∨ (mget mf b).isSome = true := by rcases hx with e | e; left; rw [e]; rfl; right; exact e
  clear hx
  generalize (mget mt a).getD ByteArray.empty = u at hl ⊢
  generalize (mget mt a).isSome = q at hl hx' ⊢
  generalize (mget mf b).getD 0 = u2 at hl2 ⊢
  generalize (mget mf b).isSome = q2 at hl2 hx' ⊢
  rcases (by cases q <;> simp_all : q = false ∨ (q = true ∧ q2 = true)) with rfl | ⟨rfl, rfl⟩
  all_goals
    clear hx'
    go_enter Try.func64, Try.ntmps64
    go_wp2
    go_ret2
    exact ⟨rfl, rfl⟩
set_option maxHeartbeats 1000000 in
theorem tIS_Remap_yes (g bt bf : Nat) (mt : List (Int × ByteArray)) (mf : List (ByteArray × Int)) (a : Int) (b was : ByteArray) (w : World) (h : TwoIS w g bt bf mt mf) (h1 : mget mt a = some was) (h2 : mget mf b = none) : Calls Try.prog 64 #[.pointer (some ⟨g, 0, none⟩), .int .i64 a, .string b] w fun e w' => e = .returned (.tuple #[.string was, .int .i64 0]) ∧ TwoIS w' g bt bf (mput mt a b) (mput (mdel mf was) b a) ∧ Ch [bt, bf] w w' := by
  have k0 := h.st.at_ (i := 0) rfl
  have k1 := h.st.at_ (i := 1) rfl
  have hl := lookISt h a
  have hl2 := lookISf h b
  rw [h1] at hl
  rw [h2] at hl2
  simp only [Option.getD_none, Option.isSome_none, Option.getD_some, Option.isSome_some] at hl hl2
  have d1 : ∀ ty, ∃ w1, (Builtin.delete_ #[104, 9] ty #[.map (some bf), .string was]).run Try.prog w = .ok (.tuple #[]) w1 ∧ MapAt strKeys w1 bf (mdel (mf.map fun p => (p.1, (Value.int .i64) p.2)) was) ∧ Ch [bf] w w1 := fun ty => h.fr.run_delete uISf kISB was _ ty
  obtain ⟨w0, r0, m0, c0⟩ := d1 0
  have hs0 := h.st.ch c0 (by simp [h.nf])
  have ht0 := h.to_.ch c0 (by simp [h.ne_])
  have q0 := hs0.at_ (i := 0) rfl
  have q1 := hs0.at_ (i := 1) rfl
  have hT : MapAt intKeys w0.drew bt (mt.map fun p => (p.1, Value.string p.2)) := ht0.of_block rfl
  have hF : MapAt strKeys w0.drew bf (mdel (mf.map fun p => (p.1, (Value.int .i64) p.2)) was) := m0.of_block rfl
  obtain ⟨v1, s1, w1, r1, c1, x1⟩ := hT.run_mapEntry uISt kISA (.string ByteArray.empty) zISB a
  obtain ⟨w2, r2, m2, c2⟩ := x1 (.string b)
  have hF2 := (hF.ch c1 (by simp [h.ne_.symm])).ch c2 (by simp [h.ne_.symm])
  obtain ⟨v3, s3, w3, r3, c3, x3⟩ := hF2.run_mapEntry uISf kISB (.int .i64 0) zISA b
  obtain ⟨w4, r4, m4, c4⟩ := x3 (.int .i64 a)
  have hT4 := (m2.ch c3 (by simp [h.ne_])).ch c4 (by simp [h.ne_])
  have hc0 : Ch [bt, bf] w0 w4 := ((((Ch.refl [bt, bf] w0).drew.trans (c1.mono (by simp))).trans (c2.mono (by simp))).trans (c3.mono (by simp))).trans (c4.mono (by simp))
  have hc : Ch [bt, bf] w w4 := (c0.mono (by simp)).trans hc0
  have hfin : TwoIS w4 g bt bf (mput mt a b) (mput (mdel mf was) b a) ∧ Ch [bt, bf] w w4 :=
    ⟨⟨h.st.ch hc (by simp [h.nt, h.nf]), by rw [← mput_over]; exact hT4, by rw [← mput_over, ← mdel_over]; exact m4, h.ne_, h.nt, h.nf⟩, hc⟩
  have HF := Lib.hid hfin
  clear hfin hc hc0 hT4 m4 c4 x3 c3 hF2 m2 c2 x1 c1 hT hF ht0 hs0 m0 c0 d1 h h1 h2
  simp only [intKeys, strKeys] at r1 r2 r3 r4
  go_enter Try.func64, Try.ntmps64
  go_wp2_with fail
  go_region
  go_wp2
  go_ret2
  exact ⟨rfl, HF.out⟩
end Go.Proofs.Ytkjhodaglanpmaa
