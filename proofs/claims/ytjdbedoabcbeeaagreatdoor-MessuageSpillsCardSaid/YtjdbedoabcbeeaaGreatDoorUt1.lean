/- Parts of the proof: Spills, SpillsP. -/
import Derived.Test.YtjdbedoabcbeeaaGreatDoorUs31
import Derived.Test.YtjdbedoabcbeeaaGreatDoorUs28
/- A CPU whose policy is Preferred of a node fills it, and then the nearest ones, one behind the other. -/
namespace Go.Proofs.YtjdbedoabcbeeaaGreatDoor
open Go.RowKit
set_option linter.unusedVariables false
set_option linter.unusedSimpArgs false
attribute [local go_sem] World.cell?_alloc_lt

/-- So many pages were written. -/
structure SpL (n at_ k m c : Nat) (E : List Part) (S : MSt) : Prop where
  fit : Fit n 8 k m 1 3 0 (at_ : Int) 0 S
  tk : Taken S.each S.ct S.mt
  ct : ∀ (q : Nat) (x : Int), (comeL n at_)[q]? = some x → S.ct x.toNat = min 7 (c - 7 * q)
  un : ∀ q : Nat, 1 + c ≤ q → mget S.mt (q : Int) = none
  ln : S.evs.length = c
  lv : ∀ a : Nat, a < 3 → mget S.live (64 * ((1 + 16 * a : Nat) : Int)) = some (.int .i64 ((64 * 16 : Nat) : Int))
  by_ : ∀ q : Nat, q < c → mapped S.mt (1 + q) ∧ S.by_.getD (posN S.mt (64 * (1 + q))) 0 = (q : Int) + 1
  ex : S.ex = E
theorem spill_chk {n at_ : Nat} (h1 : 1 ≤ n) (h8 : n ≤ 8) (h : at_ < n) : chk 3 0 (at_ : Int) (n : Int) = 0 := by
  unfold chk
  rw [if_neg (by omega), if_neg (by omega), if_neg (by omega), if_pos rfl, if_neg (by omega)]
theorem spill_start (at_ : Nat) (k : Int) : startN 3 0 (at_ : Int) k 0 = ((at_ : Int), 0) := by
  unfold startN
  rw [if_neg (by omega), if_pos rfl]
section
variable {w0 w : World} {S : MSt} {n at_ k m c : Nat} {E : List Part}
theorem page_of (c : Nat) : 1 + 16 * (c / 16) + c % 16 = 1 + c := by omega
set_option maxRecDepth 100000 in
theorem spill_step (H : Mach w0 w (mparts w0.heap.size S)) (I : SpL n at_ k m c E S) (h1 : 1 ≤ n) (h4 : n ≤ 4) (hat : at_ < n) (hk : k < n) (hc : c < 7 * n) :
    Calls Tryz.prog 11 #[ptr m, .int .i64 (k : Int), .int .i64 (64 * ((1 + 16 * (c / 16) : Nat) : Int)), .int .i64 (64 * ((c % 16 : Nat) : Int)), .slice (some ⟨w.heap.size, 0, none⟩) 1 1] (w.alloc (.cells #[.int .u8 ((c : Int) + 1)] 5)) fun e w' => e = .returned (.int .i64 0) ∧
      ∃ (S' : MSt) (j f : Nat), Mach w0 w' (mparts w0.heap.size S') ∧ SpL n at_ k m (c + 1) E S' ∧ (comeL n at_)[c / 7]? = some (j : Int) ∧ j < n ∧ f < 8 ∧ mget S'.mt ((1 + c : Nat) : Int) = some ((j * 8 + f : Nat) : Int) := by
  have H1 := M_add H (p := blkP w.heap.size 5 [.int .u8 ((c : Int) + 1)]) (bel_alloc (Below.refl _ w) (.cells #[.int .u8 ((c : Int) + 1)] 5)) (Blk.new w 5 [.int .u8 ((c : Int) + 1)]) (fun x hx => by
    have hx : x ∈ [w.heap.size] := hx
    rw [List.mem_singleton] at hx
    omega)
  have hlen := come_len hat h4
  obtain ⟨x0, hx0⟩ : ∃ x, (comeL n at_)[c / 7]? = some x := ⟨_, List.getElem?_eq_getElem (by rw [hlen]; omega)⟩
  obtain ⟨j, rfl, hj⟩ := come_node _ hx0
  have hct : S.ct j = min 7 (c - 7 * (c / 7)) := by
    have := I.ct _ _ hx0
    rw [Int.toNat_natCast] at this
    exact this
  have hmay : mayB 8 (S.ct j) 1 = true := may_ok (by omega) (by omega)
  have hnv : nearV (withL (permN 3 0 (n : Int)) (rowLn n at_)) (maysL n 8 S.ct 1 n) = ((j : Int), true) := by
    refine near_at _ _ (c / 7) _ hx0 ?_ (fun q y hq hy => ?_)
    · rw [Int.toNat_natCast, maysL_at hj]
      exact hmay
    · obtain ⟨jy, rfl, hjy⟩ := come_node _ hy
      have := I.ct _ _ hy
      rw [Int.toNat_natCast] at this ⊢
      rw [maysL_at hjy, this]
      exact may_no (by omega)
  have hw := page_write H1 (I.fit.ex' _) I.tk frOk8 h1 (by omega) hk (Or.inr rfl) (by omega) (spill_chk h1 (by omega) hat) at_ _ (spill_start at_ k) hat j hj hnv hmay (by have := I.ln; show S.evs.length < 1000; omega) (1 + 16 * (c / 16)) (c % 16) (64 * 16) (by omega) (I.lv (c / 16) (by omega)) (by omega) (by omega) (by rw [page_of]; exact I.un (1 + c) (by omega)) S.ex.length w.heap.size ((c : Int) + 1) (by rw [List.getElem?_append_right (Nat.le_refl _), Nat.sub_self]; rfl) 1 (by omega)
  rw [page_of] at hw
  refine hw.mono ?_
  rintro e w' ⟨rfl, S', g2, g3, g4, g5, g7, g8, g9, g10, g11, g12⟩
  have hme := M_mem g2
  have hms : S'.mt = mput S.mt ((1 + c : Nat) : Int) ((j * 8 + S.ct j : Nat) : Int) := g8
  have hmt : mapped S'.mt (1 + c) := by rw [hms]; exact mapped_put _ (Or.inl rfl)
  have hfr : frOf S'.mt (1 + c) = j * 8 + S.ct j := by
    unfold frOf
    rw [hms, mget_put, if_pos rfl]
    rfl
  have hbl : S.by_.length = S'.N * S'.each * 64 := by
    have h := hme.fs.ln
    rw [g9, wrB_len, putL_len] at h
    exact h
  refine ⟨rfl, { S' with ex := S.ex }, j, S.ct j, M_unex g2 g11, ⟨g3.ex' _, g4, fun q y hy => ?_, fun q hq => ?_, ?_, fun a ha => ?_, fun q hq => ?_, I.ex⟩, hx0, hj, by omega, by show mget S'.mt _ = _; rw [hms, mget_put, if_pos rfl]⟩
  · show S'.ct y.toNat = min 7 (c + 1 - 7 * q)
    obtain ⟨jy, rfl, hjy⟩ := come_node _ hy
    have hcy := I.ct _ _ hy
    rw [Int.toNat_natCast] at hcy ⊢
    rw [g5]
    show (if jy = j then S.ct j + 1 else S.ct jy) = _
    by_cases hjj : jy = j
    · subst hjj
      have hq : q = c / 7 := by
        have hnd := come_nodup hat h4
        have l1 := (List.getElem?_eq_some_iff.1 hy).1
        have l2 := (List.getElem?_eq_some_iff.1 hx0).1
        exact (List.getElem_inj hnd).1 ((List.getElem?_eq_some_iff.1 hy).2.trans (List.getElem?_eq_some_iff.1 hx0).2.symm)
      rw [if_pos rfl, hcy]
      omega
    · rw [if_neg hjj, hcy]
      have hq : q ≠ c / 7 := fun e => by
        subst e
        rw [hx0] at hy
        injection hy with hy
        omega
      omega
  · show mget S'.mt (q : Int) = none
    rw [hms, mget_put, if_neg (by omega)]
    exact I.un q (by omega)
  · show S'.evs.length = c + 1
    rw [g7, List.length_append, List.length_singleton]
    show S.evs.length + 1 = c + 1
    rw [I.ln]
  · show mget S'.live _ = _
    rw [g10]
    exact I.lv a ha
  · show mapped S'.mt (1 + q) ∧ S'.by_.getD (posN S'.mt (64 * (1 + q))) 0 = (q : Int) + 1
    by_cases hqc : q = c
    · subst hqc
      refine ⟨hmt, ?_⟩
      rw [g9]
      exact byte_new hme.ok hbl hmt _
    · obtain ⟨i1, i2⟩ := I.by_ q (by omega)
      have i3 : mapped S'.mt (1 + q) := by rw [hms]; exact mapped_put _ (Or.inr i1)
      refine ⟨i3, ?_⟩
      rw [g9]
      have hk2 := byte_kept (bs := S.by_) hme.ok hbl hmt i3 (by omega) hfr ((c : Int) + 1)
      refine Eq.trans hk2 ?_
      rw [hms, posN_put _ (by omega)]
      exact i2
set_option maxRecDepth 100000 in
theorem spill_no (H : Mach w0 w (mparts w0.heap.size S)) (I : SpL n at_ k m (7 * n) E S) (h1 : 1 ≤ n) (h4 : n ≤ 4) (hat : at_ < n) (hk : k < n) (i : Nat) (hi : 7 * n ≤ i) (hi48 : i < 48) (A : Option Addr) (mc : Nat) :
    Calls Tryz.prog 11 #[ptr m, .int .i64 (k : Int), .int .i64 (64 * ((1 + 16 * (i / 16) : Nat) : Int)), .int .i64 (64 * ((i % 16 : Nat) : Int)), .slice A 1 mc] w fun e w' => e = .returned (.int .i64 5) ∧ Mach w0 w' (mparts w0.heap.size S) := by
  have hnv : nearV (withL (permN 3 0 (n : Int)) (rowLn n at_)) (maysL n 8 S.ct 1 n) = (0, false) := by
    refine near_none _ _ (fun y hy => ?_)
    obtain ⟨q, hq⟩ := List.getElem?_of_mem hy
    obtain ⟨jy, rfl, hjy⟩ := come_node _ hq
    have := I.ct _ _ hq
    have hl := (List.getElem?_eq_some_iff.1 hq).1
    have hl2 : (comeL n at_).length = n := come_len hat h4
    have hl : q < (comeL n at_).length := hl
    rw [Int.toNat_natCast] at this ⊢
    rw [maysL_at hjy, this]
    exact may_no (by omega)
  exact page_no H I.fit frOk8 h1 (by omega) hk (Or.inr rfl) (by omega) (spill_chk h1 (by omega) hat) at_ (spill_start at_ k) hat hnv (1 + 16 * (i / 16)) (i % 16) (64 * 16) (by omega) (I.lv (i / 16) (by omega)) (by omega) (by omega) (by rw [page_of]; exact I.un (1 + i) (by omega)) A mc
theorem spill_node (H : Mach w0 w (mparts w0.heap.size S)) (I : SpL n at_ k m (c + 1) E S) {j f : Nat} (hf : f < 8) (hc : c < 48) (hm : mget S.mt ((1 + c : Nat) : Int) = some ((j * 8 + f : Nat) : Int)) :
    Calls Tryz.prog 12 #[ptr m, .int .i64 (64 * ((1 + 16 * (c / 16) : Nat) : Int)), .int .i64 (64 * ((c % 16 : Nat) : Int))] w fun e w' => e = .returned (.tuple #[.int .i64 (j : Int), .int .i64 0]) ∧ w = w' := by
  have h := ma_node H (1 + 16 * (c / 16)) (c % 16) (64 * 16) (j * 8 + f) (by omega) (I.lv (c / 16) (by omega)) (by omega) (by omega) (by rw [page_of]; exact hm)
  rw [I.fit.hm, I.fit.hE, frame_node hf] at h
  exact h
theorem spill_read (H : Mach w0 w (mparts w0.heap.size S)) (I : SpL n at_ k m c E S) (i : Nat) (hi : i < c) (hc : c < 48) :
    Calls Tryz.prog 15 #[ptr m, .int .i64 (k : Int), .int .i64 (64 * ((1 + 16 * (i / 16) : Nat) : Int)), .int .i64 (64 * ((i % 16 : Nat) : Int)), .int .i64 1] w fun e w' => ∃ g c', e = .returned (.tuple #[.slice (some ⟨g, 0, none⟩) 1 c', .int .i64 0]) ∧ w'.cell? ⟨g, 0, none⟩ = some (.int .u8 ((i : Int) + 1)) ∧ Mach w0 w' (mparts w0.heap.size S) := by
  obtain ⟨cp, fc, _⟩ := I.fit.hcpu
  obtain ⟨i1, i2⟩ := I.by_ i hi
  have h := ma_read H k cp fc (1 + 16 * (i / 16)) (i % 16) (64 * 16) (frOf S.mt (1 + i)) (by omega) (I.lv (i / 16) (by omega)) (by omega) (by omega) (by rw [page_of]; exact ((M_mem H).ok.at_ i1).1)
  rw [I.fit.hm, page_of] at h
  refine h.mono ?_
  rintro e w' ⟨A', c', rfl, ho, hM⟩
  obtain ⟨g, hA, hcell, _⟩ := own_at ho (k := 0) (u := .int .u8 ((i : Int) + 1)) (by
    rw [List.getElem?_map, rdB_at, if_pos (by omega), Nat.add_zero, i2]
    rfl)
  subst hA
  exact ⟨g, c', rfl, hcell, hM⟩
end
end Go.Proofs.YtjdbedoabcbeeaaGreatDoor
/- Spills: the mallocs, the list of addresses, the distances. -/
namespace Go.Proofs.YtjdbedoabcbeeaaGreatDoor
open Go.RowKit
set_option linter.unusedVariables false
set_option linter.unusedSimpArgs false
attribute [local go_sem] World.cell?_alloc_lt

def addrL (i : Nat) : List Value := (List.range i).map fun a => Value.int .i64 (64 * ((1 + 16 * a : Nat) : Int))
theorem addrL_succ (i : Nat) : addrL (i + 1) = addrL i ++ [Value.int .i64 (64 * ((1 + 16 * i : Nat) : Int))] := by unfold addrL; rw [List.range_succ, List.map_append]; rfl
theorem addrL_at {i a : Nat} (h : a < i) : (addrL i)[a]? = some (Value.int .i64 (64 * ((1 + 16 * a : Nat) : Int))) := by unfold addrL; rw [List.getElem?_map, List.getElem?_range h]; rfl
theorem sum_rep (i : Nat) : (List.replicate i 16).sum = 16 * i := by
  induction i with
  | zero => rfl
  | succ i ih => rw [List.replicate_succ, List.sum_cons, ih]; omega
/-- So many large objects. -/
structure SpM (n at_ k m i : Nat) (S : MSt) : Prop where
  fit : Fit n 8 k m 1 3 0 (at_ : Int) 0 S
  ct : S.ct = fun _ => 0
  mt : S.mt = []
  ev : S.evs = []
  zs : S.Z = List.replicate i 16
  lv : ∀ a : Nat, a < i → mget S.live (64 * ((1 + 16 * a : Nat) : Int)) = some (.int .i64 ((64 * 16 : Nat) : Int))
theorem Mach.take {w0 w : World} {ps : List Part} : ∀ {qs : List Part}, Mach w0 w (ps ++ qs) → Mach w0 w ps
  | [], H => by rw [List.append_nil] at H; exact H
  | q :: qs, H => by
    have H2 : Mach w0 w ((ps ++ [q]) ++ qs) := by rw [List.append_assoc]; exact H
    exact (Mach.take H2).drop
theorem M_noex {w0 w : World} {S : MSt} (H : Mach w0 w (mparts w0.heap.size S)) : Mach w0 w (mparts w0.heap.size { S with ex := [] }) := by
  have e : mparts w0.heap.size S = mparts w0.heap.size { S with ex := [] } ++ S.ex := by
    unfold mparts MSt.mac
    simp only [List.append_assoc, List.append_nil]
  rw [e] at H
  exact H.take
section
variable {w0 w : World} {S : MSt} {n at_ k m i : Nat}
theorem spm_zero {c : CpuR} (hkn : k < n) (hS : S.N = n ∧ S.each = 8 ∧ S.mn = 1 ∧ S.B.length = n ∧ S.ct = (fun _ => 0) ∧ S.t.N = (n : Int) ∧ S.t.F = 8 ∧ S.t.cs = idL n ∧ S.t.ds.map RowV.zs = rowsLn n n ∧ S.Z = [] ∧ S.live = [] ∧ S.mt = [] ∧ S.pf = (fun _ => none) ∧ S.evs = []) (hc : S.cpus[k]? = some c) (hn : c.nd = (k : Int)) (hu : c.cur = 0) (E : List Part) :
    SpM n at_ k S.m 0 { S with cpus := S.cpus.set k { c with m := 3, s := ((0 : Nat) : Int), pn := (at_ : Int) }, ex := E } := by
  obtain ⟨a1, a2, a3, a4, a5, a6, a7, a8, a9, a10, a11, a12, a13, a14⟩ := hS
  refine ⟨⟨rfl, a1, a2, a3, a4, a6, a7, a8, a9, a13, { c with m := 3, s := ((0 : Nat) : Int), pn := (at_ : Int) }, ?_, hn, rfl, rfl, rfl, hu⟩, a5, a12, a14, a10, fun a ha => by omega⟩
  show (S.cpus.set k _)[k]? = _
  rw [List.getElem?_set_self (List.getElem?_eq_some_iff.1 hc).1]
theorem spm_step (H : Mach w0 w (mparts w0.heap.size S)) (I : SpM n at_ k m i S) (hi : i < 3) :
    Calls Tryz.prog 10 #[ptr m, .int .i64 (k : Int), .int .i64 1024] w fun e w' => e = .returned (.tuple #[.int .i64 (64 * ((1 + 16 * i : Nat) : Int)), .int .i64 0]) ∧ ∃ S' : MSt, Mach w0 w' (mparts w0.heap.size S') ∧ SpM n at_ k m (i + 1) S' ∧ S'.ex = S.ex := by
  obtain rfl : S.m = m := I.fit.hm
  obtain ⟨c, hc, _⟩ := I.fit.hcpu
  have hs : S.Z.sum = 16 * i := by rw [I.zs, sum_rep]
  have h := ma_malloc H k c hc 16 (by omega) (by omega) (by rw [hs]; omega) (by rw [I.zs, List.length_replicate]; omega)
  rw [hs] at h
  refine h.mono ?_
  rintro e w' ⟨A', c', rfl, h2⟩
  refine ⟨rfl, _, h2, ⟨⟨rfl, I.fit.hN, I.fit.hE, I.fit.hmn, I.fit.hB, I.fit.htN, I.fit.htF, I.fit.htc, I.fit.htd, I.fit.hpf, I.fit.hcpu⟩, I.ct, I.mt, I.ev, ?_, fun a ha => ?_⟩, rfl⟩
  · show S.Z ++ [16] = _
    rw [I.zs, List.replicate_succ']
  · show mget (mput S.live (64 * ((1 + 16 * i : Nat) : Int)) (.int .i64 (64 * ((16 : Nat) : Int)))) _ = _
    rw [mget_put]
    by_cases hai : a = i
    · subst hai
      rw [if_pos rfl]
      rfl
    · rw [if_neg (by omega)]
      exact I.lv a (by omega)
theorem SpM.ex' (I : SpM n at_ k m i S) (E : List Part) : SpM n at_ k m i { S with ex := E } := ⟨I.fit.ex' E, I.ct, I.mt, I.ev, I.zs, I.lv⟩
/-- One address more. -/
theorem addr_push {w8 : World} {A : Option Addr} {c gg cap : Nat} {o : Obj} {v : Value} (H : Mach w0 w (mparts w0.heap.size S)) (hex : S.ex = [rowP w0.heap.size 3 1 A c i (addrL i)])
    (hg : (w.alloc o).grownBy w8 (Value.slice A i c).ownBlock) (hor : (Value.slice A i c).ownBlock = some gg ∨ gg = w.heap.size + 1)
    (ho : w8.ownsRow w0.heap.size 3 1 (.slice (some ⟨gg, 0, none⟩) (i + 1) cap) (i + 1) (addrL i ++ [v])) :
    Mach w0 w8 (mparts w0.heap.size { S with ex := [rowP w0.heap.size 3 1 (some ⟨gg, 0, none⟩) cap (i + 1) (addrL i ++ [v])] }) := by
  have M7 := H.below (bel_alloc (Below.refl _ w) o)
  have hc8 : Ch (ablk A) (w.alloc o) w8 := ch_grown hg (fun q hq => ablk_mem hq)
  have M8 := M_setex M7 (j := 0) (p := rowP w0.heap.size 3 1 A c i (addrL i)) (p' := rowP w0.heap.size 3 1 (some ⟨gg, 0, none⟩) cap (i + 1) (addrL i ++ [v])) (by rw [hex]; rfl) hc8 ho (fun y hy => by
    have hy : y ∈ ablk (some ⟨gg, 0, none⟩) := hy
    simp [ablk] at hy
    subst hy
    rcases hor with h | h
    · exact Or.inl (ablk_mem h)
    · right
      rw [h]
      simp)
  rw [hex] at M8
  exact M8
theorem spl_zero {E : List Part} (I : SpM n at_ k m 3 S) (hat : at_ < n) (h4 : n ≤ 4) (hex : S.ex = E) : SpL n at_ k m 0 E S := by
  refine ⟨I.fit, ?_, fun q x _ => ?_, fun q _ => ?_, ?_, I.lv, fun q hq => by omega, hex⟩
  · intro q f hq
    rw [I.mt] at hq
    cases hq
  · rw [I.ct]
    show 0 = _
    omega
  · rw [I.mt]
    rfl
  · rw [I.ev]
    rfl
end
/-- Where a distance lies. -/
theorem far_cells {w : World} {base n st j : Nat} {t : TopoV} (H : OwnTT base w t) (hd : t.ds.map RowV.zs = rowsLn n n) (hst : st < n) (hj : j < n) :
    ∃ (b rb rc : Nat), t.da = some ⟨b, 0, none⟩ ∧ w.cell? ⟨b, st, none⟩ = some (.slice (some ⟨rb, 0, none⟩) n rc) ∧ w.cell? ⟨rb, j, none⟩ = some (.int .i64 (farL n st (j : Int))) := by
  obtain ⟨r, hr, hrz⟩ := row_line hst hd
  obtain ⟨b, hb, hcb, _⟩ := own_at H.d (k := st) (u := valR r) (by rw [List.getElem?_map, hr]; rfl)
  have hzl : r.zs.length = n := by rw [hrz, rowLn_len]
  obtain ⟨rb, hrb, hcr, _⟩ := own_at (H.rs r (List.mem_of_getElem? hr)) (k := j) (u := .int .i64 (farL n st (j : Int))) (by
    unfold farL
    rw [hrz, List.getElem?_map, Int.toNat_natCast, List.getD_eq_getElem?_getD, List.getElem?_eq_getElem (by rw [rowLn_len]; exact hj)]
    rfl)
  refine ⟨b, rb, r.c, hb, ?_, hcr⟩
  rw [hcb]
  unfold valR
  rw [hrb, hzl]
theorem far_bd {n st j : Nat} (h8 : n ≤ 8) (hst : st < n) (hj : j < n) : 10 ≤ farL n st (j : Int) ∧ farL n st (j : Int) ≤ 50 := by
  unfold farL rowLn
  rw [Int.toNat_natCast, List.getD_eq_getElem?_getD, List.getElem?_map, List.getElem?_range hj]
  exact dLn_bd (by omega) (by omega)
theorem far_rise {n st q q2 : Nat} {x x2 : Int} (h4 : n ≤ 4) (hst : st < n) (hq : (comeL n st)[q]? = some x) (hq2 : (comeL n st)[q2]? = some x2) (h : q ≤ q2) : farL n st x ≤ farL n st x2 := by
  by_cases he : q = q2
  · subst he
    rw [hq] at hq2
    injection hq2 with hq2
    subst hq2
    exact Int.le_refl _
  · have hp := List.pairwise_iff_getElem.1 (come_rise hst h4)
    obtain ⟨l1, e1⟩ := List.getElem?_eq_some_iff.1 hq
    obtain ⟨l2, e2⟩ := List.getElem?_eq_some_iff.1 hq2
    have := hp q q2 (by rw [List.length_map]; exact l1) (by rw [List.length_map]; exact l2) (by omega)
    rw [List.getElem_map, List.getElem_map, e1, e2] at this
    exact this
end Go.Proofs.YtjdbedoabcbeeaaGreatDoor
