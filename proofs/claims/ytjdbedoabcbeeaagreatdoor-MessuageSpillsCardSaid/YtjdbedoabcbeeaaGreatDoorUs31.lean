/- Parts of the proof: Spreads. -/
import Derived.Test.YtjdbedoabcbeeaaGreatDoorUs28
import Derived.Test.YtjdbedoabcbeeaaGreatDoorUs30
/- The law MessuageSpreads: pages of a large object that one CPU touches by an Interleave over all nodes stand on them by turns, and each is counted as an interleave. -/
namespace Go.Proofs.YtjdbedoabcbeeaaGreatDoor
open Go.RowKit
set_option linter.unusedVariables false
set_option linter.unusedSimpArgs false
attribute [local go_sem] World.cell?_alloc_lt

theorem Fit.ex' {n each k m : Nat} {mn pm pn cur : Int} {ps : Nat} {S : MSt} (F : Fit n each k m mn pm ps pn cur S) (E : List Part) : Fit n each k m mn pm ps pn cur { S with ex := E } := ⟨F.hm, F.hN, F.hE, F.hmn, F.hB, F.htN, F.htF, F.htc, F.htd, F.hpf, F.hcpu⟩
theorem M_unex {w0 w : World} {S : MSt} {E : List Part} {p : Part} (H : Mach w0 w (mparts w0.heap.size S)) (h : S.ex = E ++ [p]) : Mach w0 w (mparts w0.heap.size { S with ex := E }) := by
  refine M_drop (p := p) (S := { S with ex := E }) ?_
  show Mach w0 w (mparts w0.heap.size { S with ex := E ++ [p] })
  rw [← h]
  exact H
theorem spread_chk7 : ∀ n : Fin 7, 0 < n.val → chk 2 (2 ^ n.val - 1) 0 (n.val : Int) = 0 := by decide +kernel
theorem spread_chk {n : Nat} (h : 0 < n) (h6 : n ≤ 6) : chk 2 (2 ^ n - 1) 0 (n : Int) = 0 := spread_chk7 ⟨n, by omega⟩ h
theorem spread_set7 : ∀ n : Fin 7, 2 ^ n.val - 1 < 256 := by decide
theorem shl_set7 : ∀ n : Fin 7, ((2 : Int) ^ n.val - 1) % 256 = ((2 ^ n.val - 1 : Nat) : Int) := by decide
/-- Pages by turns. -/
structure SpI (n k m p i : Nat) (S : MSt) : Prop where
  fit : Fit n 16 k m 0 2 (2 ^ n - 1) 0 ((i % n : Nat) : Int) S
  tk : Taken S.each S.ct S.mt
  ct : ∀ j, S.ct j ≤ i
  un : ∀ q : Nat, 1 + i ≤ q → mget S.mt (q : Int) = none
  ln : S.evs.length = i
  ev : ∀ x ∈ S.evs, x.node = x.start ∧ x.il = true ∧ x.right n = true
  lv : mget S.live (64 * ((1 : Nat) : Int)) = some (.int .i64 ((64 * p : Nat) : Int))
theorem spread_zero {S : MSt} {n k p : Nat} {c : CpuR} {A : Option Addr} {sc : Nat} (hkn : k < n) (hS : S.N = n ∧ S.each = 16 ∧ S.mn = 0 ∧ S.B.length = n ∧ S.ct = (fun _ => 0) ∧ S.t.N = (n : Int) ∧ S.t.F = 16 ∧ S.t.cs = idL n ∧ S.t.ds.map RowV.zs = rowsLn n n ∧ S.Z = [] ∧ S.live = [] ∧ S.mt = [] ∧ S.pf = (fun _ => none) ∧ S.evs = []) (hc : S.cpus[k]? = some c) (hn : c.nd = (k : Int)) (hu : c.cur = 0) :
    SpI n k S.m p 0 { S with cpus := S.cpus.set k { c with m := 2, s := ((2 ^ n - 1 : Nat) : Int), pn := 0 }, sA := A, sc := sc, Z := S.Z ++ [p], live := mput S.live (64 * ((1 + S.Z.sum : Nat) : Int)) (.int .i64 (64 * (p : Int))) } := by
  obtain ⟨a1, a2, a3, a4, a5, a6, a7, a8, a9, a10, a11, a12, a13, a14⟩ := hS
  refine ⟨⟨rfl, a1, a2, a3, a4, a6, a7, a8, a9, a13, { c with m := 2, s := ((2 ^ n - 1 : Nat) : Int), pn := 0 }, ?_, hn, rfl, rfl, rfl, ?_⟩, ?_, ?_, ?_, ?_, ?_, ?_⟩
  · show (S.cpus.set k _)[k]? = _
    rw [List.getElem?_set_self (List.getElem?_eq_some_iff.1 hc).1]
  · show c.cur = _
    rw [hu, Nat.zero_mod]
    rfl
  · intro q f hq
    have hq : mget S.mt q = some f := hq
    rw [a12] at hq
    cases hq
  · intro j
    show S.ct j ≤ 0
    rw [a5]
    exact Nat.le_refl _
  · intro q _
    show mget S.mt _ = none
    rw [a12]
    rfl
  · show S.evs.length = 0
    rw [a14]
    rfl
  · intro x hx
    have hx : x ∈ S.evs := hx
    rw [a14] at hx
    cases hx
  · show mget (mput S.live (64 * ((1 + S.Z.sum : Nat) : Int)) (.int .i64 (64 * (p : Int)))) (64 * ((1 : Nat) : Int)) = _
    rw [a10, mget_put, if_pos (by simp)]
    congr 2
set_option maxRecDepth 100000 in
theorem spread_step {w0 w : World} {S : MSt} {n k m p i : Nat} (H : Mach w0 w (mparts w0.heap.size S)) (I : SpI n k m p i S) (h1 : 1 ≤ n) (h6 : n ≤ 6) (hk : k < n) (hi : i < p) (hp : p ≤ 15) :
    Calls Tryz.prog 11 #[ptr m, .int .i64 (k : Int), .int .i64 64, .int .i64 (64 * (i : Int)), .slice (some ⟨w.heap.size, 0, none⟩) 1 1] (w.alloc (.cells #[.int .u8 1] 5)) fun e w' => e = .returned (.int .i64 0) ∧
      ∃ S' : MSt, Mach w0 w' (mparts w0.heap.size S') ∧ SpI n k m p (i + 1) S' ∧ mget S'.mt ((1 + i : Nat) : Int) = some ((((i + 1) % n * 16 + S.ct ((i + 1) % n) : Nat)) : Int) ∧ S.ct ((i + 1) % n) < 16 := by
  have H1 := M_add H (p := blkP w.heap.size 5 [.int .u8 1]) (bel_alloc (Below.refl _ w) (.cells #[.int .u8 1] 5)) (Blk.new w 5 [.int .u8 1]) (fun x hx => by
    have hx : x ∈ [w.heap.size] := hx
    rw [List.mem_singleton] at hx
    omega)
  have hj : (i + 1) % n < n := Nat.mod_lt _ h1
  have hci : i % n < n := Nat.mod_lt _ h1
  have hct := I.ct ((i + 1) % n)
  have hnx : nextN (2 ^ n - 1) ((i % n : Nat) : Int) = (i + 1) % n := by rw [next_line hci h6, Nat.mod_add_mod]
  have hst : startN 2 (2 ^ n - 1) 0 (k : Int) ((i % n : Nat) : Int) = ((((i + 1) % n : Nat) : Int), (((i + 1) % n : Nat) : Int)) := by
    unfold startN
    rw [if_pos rfl, hnx]
  have hmay : mayB 16 (S.ct ((i + 1) % n)) 0 = true := may_ok (by omega) (by omega)
  have hnv : nearV (withL (permN 2 (2 ^ n - 1) (n : Int)) (rowLn n ((i + 1) % n))) (maysL n 16 S.ct 0 n) = ((((i + 1) % n : Nat) : Int), true) := by
    refine near_head (come_head hj h6) ?_
    rw [Int.toNat_natCast, maysL_at hj]
    exact hmay
  have hw := page_write H1 (I.fit.ex' _) I.tk frOk16 h1 (by omega) hk (Or.inl rfl) (spread_set7 ⟨n, by omega⟩) (spread_chk h1 h6) ((i + 1) % n) _ hst hj ((i + 1) % n) hj hnv hmay (by have := I.ln; show S.evs.length < 1000; omega) 1 i (64 * p) (by omega) I.lv (by omega) (by omega) (I.un (1 + i) (by omega)) S.ex.length w.heap.size 1 (by rw [List.getElem?_append_right (Nat.le_refl _), Nat.sub_self]; rfl) 1 (by omega)
  refine hw.mono ?_
  rintro e w' ⟨rfl, S', h2, h3, h4, h5, h7, h8, h9, h10, h11, h12⟩
  refine ⟨rfl, { S' with ex := S.ex }, M_unex h2 h11, ⟨h3.ex' _, h4, fun j => ?_, fun q hq => ?_, ?_, fun x hx => ?_, ?_⟩, ?_, by omega⟩
  · show S'.ct j ≤ i + 1
    rw [h5]
    unfold ctUp
    have := I.ct j
    have : S.ct ((i + 1) % n) ≤ i := I.ct _
    show (if j = (i + 1) % n then S.ct ((i + 1) % n) + 1 else S.ct j) ≤ i + 1
    split <;> omega
  · show mget S'.mt (q : Int) = none
    rw [h8, mget_put, if_neg (by omega)]
    exact I.un q (by omega)
  · show S'.evs.length = i + 1
    rw [h7]
    have := I.ln
    rw [List.length_append, List.length_singleton]
    show S.evs.length + 1 = i + 1
    omega
  · have hx : x ∈ S'.evs := hx
    rw [h7] at hx
    rcases List.mem_append.1 hx with hx | hx
    · exact I.ev x hx
    · rw [List.mem_singleton] at hx
      subst hx
      refine ⟨rfl, rfl, ?_⟩
      unfold Ev.right
      have h0 := hj
      generalize (i + 1) % n = jj at h0 ⊢
      simp
      omega
  · show mget S'.live (64 * ((1 : Nat) : Int)) = _
    rw [h10]
    exact I.lv
  · show mget S'.mt ((1 + i : Nat) : Int) = _
    rw [h8, mget_put, if_pos rfl]
theorem spread_counts {n : Nat} {evs : List Ev} (h : ∀ x ∈ evs, x.node = x.start ∧ x.il = true ∧ x.right n = true) (k : Int) : cc evs k 0 = cc evs k 5 ∧ cc evs k 1 = 0 ∧ cc evs k 2 = 0 ∧ cc evs k 5 = evs.countP (fun x => decide (x.node = k)) := by
  unfold cc
  refine ⟨List.countP_congr (fun x hx => ?_), List.countP_eq_zero.2 (fun x hx => ?_), List.countP_eq_zero.2 (fun x hx => ?_), List.countP_congr (fun x hx => ?_)⟩
  · obtain ⟨h1, h2, _⟩ := h x hx
    simp [inc, h2]
  · obtain ⟨h1, h2, _⟩ := h x hx
    simp only [inc, decide_eq_true_eq]
    rw [h1]
    intro hc
    exact hc.2 hc.1
  · obtain ⟨h1, h2, _⟩ := h x hx
    simp only [inc, decide_eq_true_eq]
    rw [h1]
    intro hc
    exact hc.1 hc.2
  · obtain ⟨h1, h2, _⟩ := h x hx
    simp [inc, h2, h1]
end Go.Proofs.YtjdbedoabcbeeaaGreatDoor
