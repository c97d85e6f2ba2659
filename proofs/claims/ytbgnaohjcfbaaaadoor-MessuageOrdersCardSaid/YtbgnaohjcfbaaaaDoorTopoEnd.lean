/- The reader of topo: single, end. -/
import Derived.Test.YtbgnaohjcfbaaaaDoorTopoTake
namespace Go.Proofs.YtbgnaohjcfbaaaaDoor
open Go.RowKit Go.Shelf
set_option linter.unusedVariables false
set_option linter.unusedSimpArgs false
attribute [local go_sem] World.cell?_alloc_lt

def singleV (ls : List ByteArray) (word : ByteArray) (r : Rd) : Int := if (takeR ls word true r).2.bad = true then 0 else (takeR ls word true r).1.getD 0 0
theorem take_some {ls : List ByteArray} {word : ByteArray} {one : Bool} {r : Rd} (h : (takeR ls word one r).2.bad = false) : 0 < (takeR ls word one r).1.length := by
  unfold takeR at h ⊢
  split at h
  · next hb => rw [hb] at h; cases h
  · next hb =>
    split at h
    · cases h
    · next hl =>
      rw [if_neg hb, if_neg hl]
      simp only at h ⊢
      rw [Bool.or_eq_false_iff] at h
      have h1 := h.1
      unfold headBad at h1
      rw [Bool.or_eq_false_iff, Bool.or_eq_false_iff] at h1
      have h2 := of_decide_eq_false h1.2.1
      unfold numsT
      rw [List.length_map, List.length_tail]
      omega
set_option maxRecDepth 100000 in
theorem single_any (rb : Nat) (A : Option Addr) (n c : Nat) (ls : List ByteArray) (r : Rd) (word : ByteArray) (m : Int) (w : World) (hr : RdAt w rb A n c r) (hz : InZ w A n ls) (hn : n ≤ 1000000) (hat : r.at_ ≤ 1000000) (hls : ∀ z ∈ ls, z.size ≤ 1000000) (hm : w.cell? ⟨0, 0, none⟩ = some (.int .i64 m)) (h2 : 0 < rb) :
    Calls Tryd.prog 37 #[.pointer (some ⟨rb, 0, none⟩), .string word] w fun e w' => e = .returned (.int .i64 (singleV ls word r)) ∧ RdAt w' rb A n c (takeR ls word true r).2 ∧ Ch [rb] w w' := by
  have ht := take_any rb A n c ls r word true m w hr hz hn hat hls hm h2
  have hso : (takeR ls word true r).2.bad = false → 0 < (takeR ls word true r).1.length := take_some
  have hv : singleV ls word r = if (takeR ls word true r).2.bad = true then 0 else (takeR ls word true r).1.getD 0 0 := rfl
  generalize singleV ls word r = V at *
  generalize (takeR ls word true r).1 = l at *
  generalize (takeR ls word true r).2 = r2 at *
  have HT := Lib.hid ht; have HV := Lib.hid hv; have HSO := Lib.hid hso
  clear ht hv hso hr hz hls hm
  obtain ⟨a2, b2⟩ := r2
  go_enter Tryd.func37, Tryd.ntmps37
  go_wp2_with fail
  refine HT.out.mono ?_; rintro e w1 ⟨⟨A', c', rfl, hO⟩, hrd, hch⟩
  have hI := InI.own hO
  have hbk : Blk w1 rb 82 [.slice A n c, .int .i64 (a2 : Int), .bool b2] := hrd
  have q2 := hbk.at_ (i := 2) rfl
  have HR := Lib.hid hrd; have HCH := Lib.hid hch
  cases b2 with
  | true =>
    have hv := HV.out
    rw [if_pos rfl] at hv
    clear hrd hch hbk HT HV HSO hI hO
    subst hv
    go_wp2_with fail
    go_ret
    exact ⟨rfl, HR.out, HCH.out⟩
  | false =>
    have hv := HV.out
    rw [if_neg (by simp)] at hv
    have hl := HSO.out rfl
    obtain ⟨b, off, rfl, hb, hc⟩ := hI.get hl
    have hix : ∀ w : World, (Instr.indexAt 23 (.slice (some ⟨b, off, none⟩) l.length c') (.int .i64 0)).run Tryd.prog w = .ok (.pointer (some ⟨b, off, none⟩)) w := fun w => idxI b off l.length c' 0 hl w
    rw [Nat.add_zero] at hc
    clear hrd hch hbk HT HV HSO hI hO
    rw [← hv] at hc
    clear hv
    go_wp2_with fail
    go_ret
    exact ⟨rfl, HR.out, HCH.out⟩
def endR (n : Nat) (whole : Bool) (r : Rd) : Rd := if r.bad = false ∧ (whole = false ∨ r.at_ ≠ n) then ⟨r.at_ + 1, true⟩ else r
set_option maxRecDepth 100000 in
theorem end_any (rb : Nat) (A : Option Addr) (n c : Nat) (r : Rd) (whole : Bool) (w : World) (hr : RdAt w rb A n c r) (hat : r.at_ ≤ 1000000) :
    Calls Tryd.prog 39 #[.pointer (some ⟨rb, 0, none⟩), .bool whole] w fun e w' => e = .returned (.tuple #[]) ∧ RdAt w' rb A n c (endR n whole r) ∧ Ch [rb] w w' := by
  obtain ⟨at_, bad⟩ := r
  have hat : at_ ≤ 1000000 := hat
  have hBk : Blk w rb 82 [.slice A n c, .int .i64 (at_ : Int), .bool bad] := hr
  have q0 := hBk.at_ (i := 0) rfl
  have q1 := hBk.at_ (i := 1) rfl
  have q2 := hBk.at_ (i := 2) rfl
  have hwr : IntKind.i64.wrap ((at_ : Int) + 1) = (at_ : Int) + 1 := i64_sm (by omega) (by omega)
  have HR := Lib.hid hr; have HK := Lib.hid hBk
  clear hr hBk
  cases bad with
  | true =>
    have e : endR n whole ⟨at_, true⟩ = ⟨at_, true⟩ := by unfold endR; rw [if_neg (by simp)]
    rw [e]
    go_enter Tryd.func39, Tryd.ntmps39
    go_upto_region 0 with fail
    go_quiet (fail)
    go_wp2_with fail
    go_end0
    exact ⟨rfl, HR.out, (Ch.refl _ _).drewN _⟩
  | false =>
    by_cases hc : whole = true ∧ at_ = n
    · obtain ⟨rfl, rfl⟩ := hc
      have e : endR at_ true ⟨at_, false⟩ = ⟨at_, false⟩ := by unfold endR; rw [if_neg (by simp)]
      rw [e]
      have hne : ((at_ : Int) != (at_ : Int)) = false := by rw [bne_eq_false_iff_eq]
      go_enter Tryd.func39, Tryd.ntmps39
      go_upto_region 0 with fail
      go_quiet (fail)
      go_wp2_with fail
      go_end0
      exact ⟨rfl, HR.out, (Ch.refl _ _).drewN _⟩
    · have e : endR n whole ⟨at_, false⟩ = ⟨at_ + 1, true⟩ := by
        unfold endR
        rw [if_pos]
        refine ⟨rfl, ?_⟩
        cases whole
        · exact Or.inl rfl
        · exact Or.inr (fun h => hc ⟨rfl, h⟩)
      rw [e]
      have hset : ∀ k, Blk (((w.drewN k).setCell ⟨rb, 1, none⟩ (.int .i64 ((at_ : Int) + 1))).setCell ⟨rb, 2, none⟩ (.bool true)) rb 82 [.slice A n c, .int .i64 ((at_ : Int) + 1), .bool true] := fun k => ((HK.out.drewN k).set_ 1 _).set_ 2 _
      have HS := Lib.hid hset
      have f1 : ∀ k, (w.drewN k).frozen? ⟨rb, 1, none⟩ = false := fun k => HK.out.frozen 1
      have f2 : ∀ k, (w.drewN k).frozen? ⟨rb, 2, none⟩ = false := fun k => HK.out.frozen 2
      clear hset
      have hsome : (w.cell? ⟨rb, 2, none⟩).isSome = true := by rw [q2]; rfl
      cases whole with
      | false =>
        clear hc e
        go_enter Tryd.func39, Tryd.ntmps39
        go_upto_region 0 with fail
        go_quiet (fail)
        go_wp2_with fail
        go_end0
        exact ⟨rfl, rd_of (HS.out _), (((Ch.refl [rb] w).drewN _).set (p := ⟨rb, 1, none⟩) (by simp) _).set (p := ⟨rb, 2, none⟩) (by simp) _⟩
      | true =>
        have hne : ((at_ : Int) != (n : Int)) = true := by rw [bne_iff_ne]; intro h; exact hc ⟨rfl, by omega⟩
        clear hc e
        go_enter Tryd.func39, Tryd.ntmps39
        go_upto_region 0 with fail
        go_quiet (fail)
        go_wp2_with fail
        go_end0
        exact ⟨rfl, rd_of (HS.out _), (((Ch.refl [rb] w).drewN _).set (p := ⟨rb, 1, none⟩) (by simp) _).set (p := ⟨rb, 2, none⟩) (by simp) _⟩
end Go.Proofs.YtbgnaohjcfbaaaaDoor
