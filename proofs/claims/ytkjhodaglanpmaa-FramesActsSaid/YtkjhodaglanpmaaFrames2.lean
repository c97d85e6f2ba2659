/- Package frames (layer 5): Load, Save. -/
import Derived.Test.YtkjhodaglanpmaaFrames
import Derived.Laws.IdiomCopy
namespace Go.Proofs.Ytkjhodaglanpmaa
open Go.RowKit
set_option linter.unusedVariables false
set_option linter.unusedSimpArgs false
attribute [local go_sem] World.cell?_alloc_lt

/-- us laid over cs from place o on. -/
def putL {α : Type} : List α → Nat → List α → List α
  | cs, _, [] => cs
  | cs, o, v :: vs => putL (cs.set o v) (o + 1) vs
theorem putL_len {α : Type} : ∀ (us cs : List α) (o : Nat), (putL cs o us).length = cs.length := by
  intro us
  induction us with
  | nil => intro cs o; rfl
  | cons v vs ih => intro cs o; rw [putL, ih, List.length_set]
theorem putL_map {α β : Type} (f : α → β) : ∀ (us cs : List α) (o : Nat), (putL cs o us).map f = putL (cs.map f) o (us.map f) := by
  intro us
  induction us with
  | nil => intro cs o; rfl
  | cons v vs ih => intro cs o; rw [putL, ih, List.map_cons, putL, List.map_set]
theorem putL_get {α : Type} : ∀ (us cs : List α) (o i : Nat), o + us.length ≤ cs.length → (putL cs o us)[i]? = if o ≤ i ∧ i < o + us.length then us[i - o]? else cs[i]? := by
  intro us
  induction us with
  | nil => intro cs o i h; rw [putL, if_neg (fun h2 => by simp at h2; omega)]
  | cons v vs ih =>
    intro cs o i h
    simp only [List.length_cons] at h ⊢
    rw [putL, ih _ _ _ (by rw [List.length_set]; omega)]
    by_cases h1 : o + 1 ≤ i ∧ i < o + 1 + vs.length
    · rw [if_pos h1, if_pos (by omega), show i - o = (i - (o + 1)) + 1 from by omega, List.getElem?_cons_succ]
    · rw [if_neg h1]
      by_cases h2 : i = o
      · subst h2
        rw [if_pos (by omega), Nat.sub_self, List.getElem?_set_self (by omega)]
        rfl
      · rw [if_neg (by omega), List.getElem?_set_ne (by omega)]
theorem Blk.setCells {g : Nat} {t : TypeId} : ∀ (us cs : List Value) (o : Nat) (w : World), Blk w g t cs → Blk (w.setCells g o us) g t (putL cs o us) ∧ Ch [g] w (w.setCells g o us) := by
  intro us
  induction us with
  | nil => intro cs o w h; exact ⟨h, Ch.refl _ _⟩
  | cons v vs ih =>
    intro cs o w h
    obtain ⟨h1, h2⟩ := ih (cs.set o v) (o + 1) _ (h.set_ o v)
    exact ⟨h1, ((Ch.refl [g] w).set (p := ⟨g, o, none⟩) (by simp) v).trans h2⟩
theorem frame_in {nf n at_ m : Nat} {bs : List Int} (hl : bs.length = nf * 64) (hn : n < nf) (hat : at_ + m ≤ 64) : n * 64 + at_ + m ≤ bs.length := by
  omega
set_option maxRecDepth 100000 in
theorem fr_load (g b each nf : Nat) (bs : List Int) (n at_ m : Nat) (w : World) (hG : StoreAt w g b each nf bs) (hn : n < nf) (hat : at_ + m ≤ 64) :
    Calls Try.prog 32 #[.pointer (some ⟨g, 0, none⟩), .int .i64 n, .int .i64 at_, .int .i64 m] w fun e w' => ∃ h c, e = .returned (.tuple #[.slice (some ⟨h, 0, none⟩) m c, .int .i64 0]) ∧ w'.ownsRow w.heap.size 5 1 (.slice (some ⟨h, 0, none⟩) m c) m (((bs.drop (n * 64 + at_)).take m).map (Value.int .u8)) ∧ Below w.heap.size w w' := by
  have hin := frame_in hG.ln hn hat
  have hcl := cloneB_at b (partAt (n * 64) at_) m (64 - at_) (((bs.drop (n * 64 + at_)).take m).map (Value.int .u8)) (by simp; omega) (by intro u hu; obtain ⟨z, _, rfl⟩ := List.mem_map.1 hu; rfl) (by omega) w hG.dt.lt (by
    intro j u hj
    rw [List.getElem?_map, List.getElem?_take] at hj
    split at hj
    · rename_i hjm
      have e : partAt (n * 64) at_ = n * 64 + at_ := by unfold partAt; rw [if_neg (by omega)]
      rw [e]
      refine hG.dt.at_ ?_
      rw [List.getElem?_drop] at hj
      rw [List.getElem?_map]; exact hj
    · simp at hj)
  have HCL := Lib.hid hcl; clear hcl
  go_enter Try.func32, Try.ntmps32
  go_wp2_with fail
  refine (fr_part g b each nf bs n at_ m w hG hn hat).mono ?_; rintro e w1 ⟨rfl, rfl⟩
  go_wp2_with fail
  refine HCL.out.mono ?_; rintro e w2 ⟨h, c, rfl, hown, hB⟩
  go_wp2_with fail
  go_ret2
  exact ⟨h, c, rfl, hown, hB⟩
set_option maxRecDepth 100000 in
theorem fr_save (g b each nf : Nat) (bs : List Int) (n at_ : Nat) (B off m mc : Nat) (us : List Int) (hl : us.length = m) (w : World) (hG : StoreAt w g b each nf bs) (hn : n < nf) (hat : at_ + m ≤ 64)
    (hc : ∀ j u, us[j]? = some u → w.cell? ⟨B, off + j, none⟩ = some (.int .u8 u)) :
    Calls Try.prog 31 #[.pointer (some ⟨g, 0, none⟩), .int .i64 n, .int .i64 at_, .slice (some ⟨B, off, none⟩) m mc] w fun e w' => e = .returned (.int .i64 0) ∧ StoreAt w' g b each nf (putL bs (n * 64 + at_) us) ∧ Ch [b] w w' := by
  have hin := frame_in hG.ln hn hat
  obtain ⟨hb2, hch⟩ := Blk.setCells (us.map (Value.int .u8)) _ (partAt (n * 64) at_) w hG.dt
  have hcp := run_copy_cells (P := Try.prog) w 50 50 3 5 b (partAt (n * 64) at_) m (64 - at_) ⟨B, off, none⟩ m mc (us.map (Value.int .u8)) Try.underlying50 (by kernel_rfl) (by simp [hl]) (by
    intro j v hj
    rw [List.getElem?_map] at hj
    obtain ⟨u, hu, rfl⟩ := Option.map_eq_some_iff.1 hj
    rw [WideShapes.add_plain]
    exact hc j u hu) (by
    intro j hj
    have e : partAt (n * 64) at_ = n * 64 + at_ := by unfold partAt; rw [if_neg (by simp at hj; omega)]
    rw [e, hG.dt.cell, List.getElem?_map, List.getElem?_eq_getElem (by simp at hj; omega)]
    rfl) (fun j hj => hG.dt.frozen _) (by intro u hu; obtain ⟨z, _, rfl⟩ := List.mem_map.1 hu; rfl)
  have hpe : partAt (n * 64) at_ = n * 64 + at_ ∨ us = [] := by
    unfold partAt
    by_cases h64 : at_ = 64
    · right; exact List.eq_nil_of_length_eq_zero (by omega)
    · left; rw [if_neg h64]
  have hbm : StoreAt (w.setCells b (partAt (n * 64) at_) (us.map (Value.int .u8))) g b each nf (putL bs (n * 64 + at_) us) := by
    refine ⟨hG.st.ch hch (by simpa using (hG.st.ne_ hG.dt (by decide))), ?_, by rw [putL_len]; exact hG.ln, hG.mx, hG.e1, hG.e2⟩
    rw [putL_map]
    rcases hpe with e | e
    · rw [e] at hb2 ⊢; exact hb2
    · subst e; exact hb2
  rw [List.length_map, hl] at hcp
  generalize w.setCells b (partAt (n * 64) at_) (us.map (Value.int .u8)) = w2 at *
  have HBM := Lib.hid hbm; have HCH := Lib.hid hch
  clear hbm hch hb2 hpe hc
  go_enter Try.func31, Try.ntmps31
  go_wp2_with fail
  refine (fr_part g b each nf bs n at_ m w hG hn hat).mono ?_; rintro e w1 ⟨rfl, rfl⟩
  clear hG
  go_wp2_with fail
  go_ret
  exact ⟨rfl, HBM.out, HCH.out⟩
end Go.Proofs.Ytkjhodaglanpmaa
