/- Events: rows of them, an argument of them, the statements' own copy. -/
import Derived.Test.YtpajbpgpbfmebaaCostPure
import Derived.Test.YtpajbpgpbfmebaaOwnRows
import Derived.Test.YtpajbpgpbfmebaaInRecs
import Derived.Deep.AppendLies
import Derived.Deep.RegionLaw
import Derived.Deep.DeepCutAuto
import Derived.Outline
namespace Go.Proofs.Ytpajbpgpbfmebaa
open Go.RowKit
set_option linter.unusedVariables false
set_option linter.unusedSimpArgs false
attribute [local go_sem] World.cell?_alloc_lt

def EvC.cells (x : EvC) : List Value := [.int .i64 x.node, .int .i64 x.start, .int .i64 x.own, .bool x.inter]
def evCs (l : List EvC) : List Value := l.flatMap EvC.cells
theorem evCs_snoc (l : List EvC) (x : EvC) : evCs (l ++ [x]) = evCs l ++ x.cells := by simp [evCs]
theorem evCs_len (l : List EvC) : (evCs l).length = l.length * 4 := by
  unfold evCs
  induction l with
  | nil => rfl
  | cons x r ih => rw [List.flatMap_cons, List.length_append, ih, List.length_cons]; simp [EvC.cells]; omega
theorem evCs_at (l : List EvC) (i j : Nat) (x : EvC) (h : l[i]? = some x) (hj : j < 4) : (evCs l)[i * 4 + j]? = x.cells[j]? := by
  unfold evCs
  induction l generalizing i with
  | nil => simp at h
  | cons y r ih =>
    rw [List.flatMap_cons]
    cases i with
    | zero =>
      simp at h
      subst h
      rw [List.getElem?_append_left (by simp [EvC.cells]; omega)]
      congr 1; omega
    | succ i =>
      rw [List.getElem?_append_right (by simp [EvC.cells]; omega), ← ih i (by simpa using h)]
      congr 1
      simp [EvC.cells]; omega
theorem info_ev : (Try.prog.info? 61).map (fun i => (i.zero, i.size, i.bytes)) = some (some (.agg #[.int .i64 0, .int .i64 0, .int .i64 0, .bool false]), 4, 32) := by kernel_rfl
theorem InEs.own {w : World} {base c n : Nat} {A : Option Addr} {l : List EvC} (h : w.ownsRow base 61 4 (.slice A n c) n (evCs l)) : InEs w A n l := by
  have hl : l.length = n := by have := h.1; rw [evCs_len] at this; omega
  refine ⟨hl, fun hn => ?_⟩
  rcases h.2 with ⟨h0, h1⟩ | ⟨g, cap, cur, hv, hg, hh, hnc, hcm, hsz, ht⟩
  · exfalso
    injection h0 with _ h2 _
    omega
  · injection hv with hA _ _
    refine ⟨g, 0, hA, (Array.getElem?_eq_some_iff.1 hh).1, fun j e hj => ?_⟩
    have hjl := (List.getElem?_eq_some_iff.1 hj).1
    have key : ∀ i, i < 4 → w.cell? ⟨g, 0 + j * 4 + i, none⟩ = e.cells[i]? := by
      intro i hi
      have h2 := evCs_at l j i e hj hi
      rw [← ht, List.getElem?_take, if_pos (by omega)] at h2
      rw [show (0 + j * 4 + i) = j * 4 + i by omega]
      simp only [World.cell?, hh]
      simpa using h2
    have k0 := key 0 (by omega)
    rw [Nat.add_zero, Nat.zero_add] at k0
    refine ⟨?_, ?_, ?_, ?_⟩
    · rw [Nat.zero_add]; exact k0
    · exact key 1 (by omega)
    · exact key 2 (by omega)
    · exact key 3 (by omega)
theorem InEs.take {w : World} {A : Option Addr} {n k : Nat} {l : List EvC} (h : InEs w A n l) (hk : k ≤ n) : InEs w A k (l.take k) :=
  ⟨by rw [List.length_take, h.ln]; omega, fun hn => by
    obtain ⟨b, off, ha, hb, hc⟩ := h.at_ (by omega)
    refine ⟨b, off, ha, hb, fun j e hj => ?_⟩
    rw [List.getElem?_take] at hj
    split at hj
    · exact hc j e hj
    · cases hj⟩
def intW : Value → Int
  | .int _ x => x
  | _ => 0
def boolW : Value → Bool
  | .bool x => x
  | _ => false
set_option maxRecDepth 100000 in
theorem open_evl {H : Type} {enc : TypeId × Value → H} {W : World} {base : Nat} {held : Bool} {r : Reach} {b0 : Nat} {v : Value} {d : DataW H} {p : List MemPlace} (hv : Value.okWide Try.prog W r b0 64 v) (h : DataW.Trod enc Try.prog W base (fun _ => true) held 64 v d p) :
    ∃ a len cap l, v = .slice a len cap ∧ InEs W a len l ∧ len ≤ cap ∧ len ≤ 9223372036854775807 := by
  obtain ⟨a, len, cap, rfl⟩ := WideShapes.okWide_slice Try.underlying64 hv
  obtain ⟨V, hm, hlc, hc⟩ := open_recs Try.underlying64 Try.underlying72 (by kernel_rfl) (by kernel_rfl) (by decide) h
  refine ⟨a, len, cap, (List.range len).map fun i => ⟨intW (V i 0), intW (V i 1), intW (V i 2), boolW (V i 3)⟩, rfl, ⟨by simp, fun hp => ?_⟩, hlc, hm⟩
  obtain ⟨b, off, ha, hb, hcell⟩ := hc hp
  refine ⟨b, off, ha, hb, fun i e hie => ?_⟩
  rw [List.getElem?_map] at hie
  obtain ⟨i', hi', rfl⟩ := Option.map_eq_some_iff.1 hie
  have hi : i < len := by
    have := (List.getElem?_eq_some_iff.1 hi').1
    simpa using this
  rw [List.getElem?_range hi] at hi'
  injection hi' with hi'
  subst hi'
  obtain ⟨h0, n0, y0, t0⟩ := hcell i hi 0 _ rfl
  obtain ⟨h1, n1, y1, t1⟩ := hcell i hi 1 _ rfl
  obtain ⟨h2, n2, y2, t2⟩ := hcell i hi 2 _ rfl
  obtain ⟨h3, n3, y3, t3⟩ := hcell i hi 3 _ rfl
  obtain ⟨x0, e0, _⟩ := DataW.trod_int Try.underlying3 t0
  obtain ⟨x1, e1, _⟩ := DataW.trod_int Try.underlying3 t1
  obtain ⟨x2, e2, _⟩ := DataW.trod_int Try.underlying3 t2
  obtain ⟨x3, e3, _⟩ := DataW.trod_bool Try.underlying4 t3
  simp only [List.cons.injEq, and_true] at e0 e1 e2 e3
  rw [e0] at h0
  rw [e1] at h1
  rw [e2] at h2
  rw [e3] at h3
  refine ⟨?_, ?_, ?_, ?_⟩
  · show _ = some (Value.int .i64 (intW (V i 0))); rw [e0]; exact h0
  · show _ = some (Value.int .i64 (intW (V i 1))); rw [e1]; exact h1
  · show _ = some (Value.int .i64 (intW (V i 2))); rw [e2]; exact h2
  · show _ = some (Value.bool (boolW (V i 3))); rw [e3]; exact h3
theorem idx_e16 (b off n c i : Nat) (hi : i < n) (w : World) : (Instr.indexAt 64 (.slice (some ⟨b, off, none⟩) n c) (.int .i64 (i : Int))).run Try.prog w = .ok (.pointer (some ⟨b, off + i * 4, none⟩)) w := by
  simp [go_sem, hi]
theorem cut_e16 (a : Option Addr) (len cap n : Nat) (N : Int) (hN : N = (n : Int)) (h : n ≤ cap) (w : World) : (Instr.sliceAt 64 (.slice a len cap) none (some (.int .i64 N)) none).run Try.prog w = .ok (.slice a n cap) w := by
  subst hN
  have h2 : (n : Int) ≤ (cap : Int) := by omega
  cases a <;> simp [go_sem, h, h2, Addr.add]
theorem grownD {w w' : World} {r : Option Nat} (h : w.drew.grownBy w' r) : w.grownBy w' r := ⟨h.os, h.tape, h.output, h.size, h.block⟩
set_option maxRecDepth 100000 in
set_option maxHeartbeats 4000000 in
theorem events_any (A : Option Addr) (n c : Nat) (l : List EvC) (w : World) (hE : InEs w A n l) (hn : n ≤ 60) : Calls Try.prog 30 #[.slice A n c] w fun e w' => (∃ A' c', e = .returned (.slice A' n c') ∧ InEs w' A' n l) ∧ Below w.heap.size w w' := by
  have HE := Lib.hid hE
  clear hE
  obtain ⟨ie, he0, hez, he1, he2⟩ := info_parts info_ev
  have HE0 := Lib.hid he0; have HEZ := Lib.hid hez; have HE1 := Lib.hid he1; have HE2 := Lib.hid he2
  clear he0 hez he1 he2
  have hB0 := Below.refl w.heap.size w
  go_enter Try.func30, Try.ntmps30
  go_wp2_with fail
  go_loopw [4, 3] (fun v v3 wr => ∃ (i : Nat) (A' : Option Addr) (c' : Nat), i ≤ n ∧ v = .int .i64 (i : Int) ∧ v3 = .slice A' i c' ∧ wr.ownsRow w.heap.size 61 4 (.slice A' i c') i (evCs (l.take i)) ∧ Below w.heap.size w wr) (fun v _ _ => n - (intOf v).toNat)
  case atStart => exact ⟨0, none, 0, by omega, rfl, rfl, ⟨rfl, Or.inl ⟨rfl, rfl⟩⟩, hB0⟩
  case round =>
    clear hB0
    obtain ⟨i, A', c', hi, rfl, rfl, hown, hB⟩ := hrel
    by_cases hlt : i < n
    · obtain ⟨b, off, e, rfl, hb, hei, h0, h1, h2, h3⟩ := HE.out.get hlt
      replace h0 := (hB.cell (p := ⟨b, off + i * 4, none⟩) hb).trans h0
      replace h1 := (hB.cell (p := ⟨b, off + i * 4 + 1, none⟩) hb).trans h1
      replace h2 := (hB.cell (p := ⟨b, off + i * 4 + 2, none⟩) hb).trans h2
      replace h3 := (hB.cell (p := ⟨b, off + i * 4 + 3, none⟩) hb).trans h3
      have hix := fun w => idx_e16 b off n c i hlt w
      have hbl : b < wr.heap.size := Nat.lt_of_lt_of_le hb hB.size
      have hsn : evCs (l.take (i + 1)) = evCs (l.take i) ++ e.cells := by
        have hl := (List.getElem?_eq_some_iff.1 hei).1
        have he := (List.getElem?_eq_some_iff.1 hei).2
        rw [List.take_succ_eq_append_getElem hl, he, evCs_snoc]
      have hsz := hB.size
      have HO := Lib.hid hown; have HB := Lib.hid hB; have HSN := Lib.hid hsn
      clear hown hB hsn hei
      generalize evCs (l.take i) = cs at *
      obtain ⟨en, es, eo, ei⟩ := e
      simp only [EvC.cells] at *
      go_upto_region 5 with fail
      go_region_law
        ((refine step_append_lies _ (by rfl) (.tmp 11) (.tmp 33) _ (by rfl) w.heap.size 61 ie _ 4 32 Try.underlying59 HE0.out HEZ.out HE1.out HE2.out rfl (by omega) (.slice A' i c') i cs (by rfl) (by first | exact (HO.out.alloc _) | exact (HO.out.alloc _).drew)
            ⟨wr.heap.size, 0, none⟩ 1 1 [.int .i64 en, .int .i64 es, .int .i64 eo, .bool ei] (by rfl) (by rfl) (World.news_of_block (cs := #[.int .i64 en, .int .i64 es, .int .i64 eo, .bool ei]) (t := 61) (fr := (0, 0)) (heap_alloc_new wr _)) (by simp [Value.oneCell'])
            (by omega) (by unfold maxLen; omega) (by omega) (by simp; omega) (wr.heap.size + 1) (by simp) ?_; intro g2 cp2 w4 hown4 hgrow hat hlt4; have hgr4 := Lib.hid (grownD hgrow); have HO4 := Lib.hid hown4; clear hgrow hown4 hat))
      all_goals
        have hba := bel_alloc HB.out (.cells #[.int .i64 en, .int .i64 es, .int .i64 eo, .bool ei] 61)
        have hc3 : Ch (Value.slice A' i c').ownBlock.toList (wr.alloc (.cells #[.int .i64 en, .int .i64 es, .int .i64 eo, .bool ei] 61)) w4 := ch_grown hgr4.out (fun q hq => by rw [hq]; simp)
        have hB4 := bel_ch hba hc3 (fun q hq => by rw [Option.mem_toList] at hq; exact (HO.out.lt q hq).1)
        have HO2 := Lib.hid (show w4.ownsRow w.heap.size 61 4 (.slice (some ⟨g2, 0, none⟩) (i + 1) cp2) (i + 1) (evCs (l.take (i + 1))) from by rw [HSN.out]; exact HO4.out)
        clear hba hc3 HO HO4 HB HSN hgr4 h0 h1 h2 h3 hix
        go_wp2_with fail
        go_roundw
        case rel => exact ⟨i + 1, some ⟨g2, 0, none⟩, cp2, by omega, by go_num, rfl, HO2.out, hB4⟩
        case measure => simp [intOf]; omega
    · obtain rfl : i = n := by omega
      have hIe := InEs.own hown
      rw [List.take_of_length_le (by rw [HE.out.ln]; omega)] at hIe
      have HI := Lib.hid hIe
      clear hIe hown
      go_wp2_with fail
      go_ret
      exact ⟨⟨A', c', rfl, HI.out⟩, hB⟩
end Go.Proofs.Ytpajbpgpbfmebaa
