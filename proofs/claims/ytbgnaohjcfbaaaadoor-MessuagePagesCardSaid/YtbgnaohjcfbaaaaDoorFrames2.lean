/- Package frames (layer 5): Load, Save. -/
import Derived.Test.YtbgnaohjcfbaaaaDoorFrames
import Derived.Test.YtbgnaohjcfbaaaaDoorPut
import Derived.Laws.IdiomCopy
namespace Go.Proofs.YtbgnaohjcfbaaaaDoor
open Go.RowKit
set_option linter.unusedVariables false
set_option linter.unusedSimpArgs false
attribute [local go_sem] World.cell?_alloc_lt

theorem frame_in {nf n at_ m : Nat} {bs : List Int} (hl : bs.length = nf * 64) (hn : n < nf) (hat : at_ + m ≤ 64) : n * 64 + at_ + m ≤ bs.length := by
  omega
set_option maxRecDepth 100000 in
theorem fr_load (g b each nf : Nat) (bs : List Int) (n at_ m : Nat) (w : World) (hG : StoreAt w g b each nf bs) (hn : n < nf) (hat : at_ + m ≤ 64) :
    Calls Tryd.prog 32 #[.pointer (some ⟨g, 0, none⟩), .int .i64 n, .int .i64 at_, .int .i64 m] w fun e w' => ∃ h c, e = .returned (.tuple #[.slice (some ⟨h, 0, none⟩) m c, .int .i64 0]) ∧ w'.ownsRow w.heap.size 5 1 (.slice (some ⟨h, 0, none⟩) m c) m (((bs.drop (n * 64 + at_)).take m).map (Value.int .u8)) ∧ Below w.heap.size w w' := by
  have hin := frame_in hG.ln hn hat
  have hcl := cloneB_at b (partAt (n * 64) at_) m (64 - at_) (((bs.drop (n * 64 + at_)).take m).map (Value.int .u8)) (by simp; omega) (by intro u hu; obtain ⟨z, _, rfl⟩ := List.mem_map.1 hu; rfl) (by omega) w hG.dt.lt (by
    intro j u hj
    rw [List.getElem?_map, List.getElem?_take] at hj
    split at hj
    · rename_i hjm
      have e : partAt (n * 64) at_ = n * 64 + at_ := by unfold partAt; rw [if_neg (by omega)]
      rw [e]
      refine hG.dt.at_ ?_
      rw [List.getElem?_drop] at hj
      rw [List.getElem?_map]; exact hj
    · simp at hj)
  have HCL := Lib.hid hcl; clear hcl
  go_enter Tryd.func32, Tryd.ntmps32
  go_wp2_with fail
  refine (fr_part g b each nf bs n at_ m w hG hn hat).mono ?_; rintro e w1 ⟨rfl, rfl⟩
  go_wp2_with fail
  refine HCL.out.mono ?_; rintro e w2 ⟨h, c, rfl, hown, hB⟩
  go_wp2_with fail
  go_ret2
  exact ⟨h, c, rfl, hown, hB⟩
set_option maxRecDepth 100000 in
theorem fr_save (g b each nf : Nat) (bs : List Int) (n at_ : Nat) (B off m mc : Nat) (us : List Int) (hl : us.length = m) (w : World) (hG : StoreAt w g b each nf bs) (hn : n < nf) (hat : at_ + m ≤ 64)
    (hc : ∀ j u, us[j]? = some u → w.cell? ⟨B, off + j, none⟩ = some (.int .u8 u)) :
    Calls Tryd.prog 27 #[.pointer (some ⟨g, 0, none⟩), .int .i64 n, .int .i64 at_, .slice (some ⟨B, off, none⟩) m mc] w fun e w' => e = .returned (.int .i64 0) ∧ StoreAt w' g b each nf (putL bs (n * 64 + at_) us) ∧ Ch [b] w w' := by
  have hin := frame_in hG.ln hn hat
  obtain ⟨hb2, hch⟩ := Blk.setCells (us.map (Value.int .u8)) _ (partAt (n * 64) at_) w hG.dt
  have hcp := run_copy_cells (P := Tryd.prog) w 34 34 3 5 b (partAt (n * 64) at_) m (64 - at_) ⟨B, off, none⟩ m mc (us.map (Value.int .u8)) Tryd.underlying34 (by kernel_rfl) (by simp [hl]) (by
    intro j v hj
    rw [List.getElem?_map] at hj
    obtain ⟨u, hu, rfl⟩ := Option.map_eq_some_iff.1 hj
    rw [WideShapes.add_plain]
    exact hc j u hu) (by
    intro j hj
    have e : partAt (n * 64) at_ = n * 64 + at_ := by unfold partAt; rw [if_neg (by simp at hj; omega)]
    rw [e, hG.dt.cell, List.getElem?_map, List.getElem?_eq_getElem (by simp at hj; omega)]
    rfl) (fun j hj => hG.dt.frozen _) (by intro u hu; obtain ⟨z, _, rfl⟩ := List.mem_map.1 hu; rfl)
  have hpe : partAt (n * 64) at_ = n * 64 + at_ ∨ us = [] := by
    unfold partAt
    by_cases h64 : at_ = 64
    · right; exact List.eq_nil_of_length_eq_zero (by omega)
    · left; rw [if_neg h64]
  have hbm : StoreAt (w.setCells b (partAt (n * 64) at_) (us.map (Value.int .u8))) g b each nf (putL bs (n * 64 + at_) us) := by
    refine ⟨hG.st.ch hch (by simpa using (hG.st.ne_ hG.dt (by decide))), ?_, by rw [putL_len]; exact hG.ln, hG.mx, hG.e1, hG.e2⟩
    rw [putL_map]
    rcases hpe with e | e
    · rw [e] at hb2 ⊢; exact hb2
    · subst e; exact hb2
  rw [List.length_map, hl] at hcp
  generalize w.setCells b (partAt (n * 64) at_) (us.map (Value.int .u8)) = w2 at *
  have HBM := Lib.hid hbm; have HCH := Lib.hid hch
  clear hbm hch hb2 hpe hc
  go_enter Tryd.func27, Tryd.ntmps27
  go_wp2_with fail
  refine (fr_part g b each nf bs n at_ m w hG hn hat).mono ?_; rintro e w1 ⟨rfl, rfl⟩
  clear hG
  go_wp2_with fail
  go_ret
  exact ⟨rfl, HBM.out, HCH.out⟩
end Go.Proofs.YtbgnaohjcfbaaaaDoor
