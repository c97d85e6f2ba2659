/- Parts of the proof: Topo5, After, Zone, Sort. -/
import Derived.Test.YtjdbedoabcbeeaaGreatDoorUs9
import Derived.Test.YtjdbedoabcbeeaaGreatDoorUs1
import Derived.Lib.Hide
import Derived.Test.YtjdbedoabcbeeaaGreatDoorUs4
import Derived.Test.YtjdbedoabcbeeaaGreatDoorUs3
import Derived.Deep.RegionHeld3
import Derived.Deep.DeepCutAuto
import Derived.Deep.CutBlock
import Derived.Outline
import Derived.Test.YtjdbedoabcbeeaaGreatDoorUs6
import Derived.Deep.QuietTactic
import Derived.BigQuiet
/- Package topo (layer 3): Check. -/
namespace Go.Proofs.YtjdbedoabcbeeaaGreatDoor
open Go.RowKit
set_option linter.unusedVariables false
set_option linter.unusedSimpArgs false
attribute [local go_sem] World.cell?_alloc_lt

/-- What Check says. -/
def chkT (t : TopoV) : Int := if cntB t = false then 3 else if t.cs.any (badN t.N) = true then 10 else if matB t.N.toNat t.ds = false then 4 else 0
set_option maxRecDepth 100000 in
theorem topo_check (t : TopoV) (w : World) (hT : InTopo w t) : Calls Tryz.prog 16 #[t.val] w fun e w' => e = .returned (.int .i64 (chkT t)) ∧ Below w.heap.size w w' := by
  have hb := Blk.new w 30 [.int .i64 t.N, .int .i64 t.F, .slice t.ca t.cs.length t.cc, .slice t.da t.ds.length t.dc]
  have hba : Below w.heap.size w (w.alloc (.cells #[.int .i64 t.N, .int .i64 t.F, .slice t.ca t.cs.length t.cc, .slice t.da t.ds.length t.dc] 30)) := bel_alloc (Below.refl _ _) _
  have hc := topo_counts t (w.alloc (.cells #[.int .i64 t.N, .int .i64 t.F, .slice t.ca t.cs.length t.cc, .slice t.da t.ds.length t.dc] 30)) hT.c63
  have hTA := hT.below hba
  have HC := Lib.hid hc; have HTA := Lib.hid hTA; have HB := Lib.hid hb; have HBA := Lib.hid hba
  clear hc hTA hb hba hT
  cases hcn : cntB t with
  | false =>
    have HC2 := HC.out
    rw [hcn] at HC2
    have he : chkT t = 3 := by unfold chkT; rw [if_pos hcn]
    have HE := Lib.hid he
    have HC3 := Lib.hid HC2
    clear HC2 HC he hcn
    unfold TopoV.val at *
    go_enter Tryz.func16, Tryz.ntmps16
    go_wp2_with fail
    refine HC3.out.mono ?_; rintro e w1 ⟨rfl, hB⟩
    go_wp2_with fail
    go_ret
    exact ⟨by rw [HE.out]; rfl, bel_trans HBA.out hB⟩
  | true =>
    have HC2 := HC.out
    rw [hcn] at HC2
    have HC3 := Lib.hid HC2
    have h0 : chkT t = if t.cs.any (badN t.N) = true then 10 else if matB t.N.toNat t.ds = false then 4 else 0 := by unfold chkT; rw [if_neg (by rw [hcn]; simp)]
    have hm : 1 ≤ t.N ∧ t.N ≤ 8 := by
      unfold cntB at hcn
      rw [Bool.and_eq_true, Bool.and_eq_true] at hcn
      exact of_decide_eq_true hcn.2.1
    obtain ⟨m, hmN⟩ := Int.eq_ofNat_of_zero_le (show 0 ≤ t.N by omega)
    have hm1 : 1 ≤ m := by omega
    have hm8 : m ≤ 8 := by omega
    rw [show t.N.toNat = m by omega] at h0
    have hcb := fun (w : World) (hI : InI w t.ca t.cs.length t.cs) (p : Nat) (hp : w.cell? ⟨p, 0, none⟩ = some (.int .i64 t.N)) => contains_bad t.ca t.cs.length t.cc p t.cs t.N w hI HTA.out.c63 hp
    have hmx := fun (w : World) (hI : InTopo w t) => topo_matrix t m hm1 hm8 hmN w hI
    have HCB := Lib.hid hcb; have HMX := Lib.hid hmx; have HE0 := Lib.hid h0
    clear HC2 HC hcn hm hcb hmx h0 hmN
    unfold TopoV.val at *
    go_enter Tryz.func16, Tryz.ntmps16
    go_wp2_with fail
    refine HC3.out.mono ?_; rintro e w1 ⟨rfl, hB⟩
    generalize w.alloc (.cells #[.int .i64 t.N, .int .i64 t.F, .slice t.ca t.cs.length t.cc, .slice t.da t.ds.length t.dc] 30) = wA at *
    have hb1 := HB.out.below hB
    have q0 := hb1.at_ (i := 0) rfl
    have q1 := hb1.at_ (i := 1) rfl
    have q2 := hb1.at_ (i := 2) rfl
    have q3 := hb1.at_ (i := 3) rfl
    have hT1 := HTA.out.below hB
    have hcb1 := HCB.out w1 hT1.c w.heap.size q0
    have hmx1 := HMX.out w1 hT1
    have HCB1 := Lib.hid hcb1; have HMX1 := Lib.hid hmx1
    clear hb1 hT1 hcb1 hmx1
    cases hbad : t.cs.any (badN t.N) with
    | true =>
      have h1 := HCB1.out
      rw [hbad] at h1
      have H1 := Lib.hid h1
      have he := HE0.out
      rw [if_pos hbad] at he
      have HE := Lib.hid he
      clear h1 he hbad HCB1 HMX1 HE0
      go_wp2_with fail
      refine H1.out.mono ?_; rintro e w2 ⟨rfl, rfl⟩
      go_wp2_with fail
      go_ret
      exact ⟨by rw [HE.out]; rfl, bel_trans HBA.out hB⟩
    | false =>
      have h1 := HCB1.out
      rw [hbad] at h1
      have H1 := Lib.hid h1
      have he := HE0.out
      rw [if_neg (by rw [hbad]; simp)] at he
      have HE := Lib.hid he
      clear h1 he hbad HCB1 HE0
      go_wp2_with fail
      refine H1.out.mono ?_; rintro e w2 ⟨rfl, rfl⟩
      cases hmat : matB m t.ds with
      | true =>
        have h2 := HMX1.out
        rw [hmat] at h2
        have H2 := Lib.hid h2
        have he := HE.out
        rw [if_neg (by rw [hmat]; simp)] at he
        have HE2 := Lib.hid he
        clear h2 he hmat HMX1 HE
        go_wp2_with fail
        refine H2.out.mono ?_; rintro e w3 ⟨rfl, hB3⟩
        go_wp2_with fail
        go_ret
        exact ⟨by rw [HE2.out]; rfl, bel_trans (bel_trans HBA.out hB) hB3⟩
      | false =>
        have h2 := HMX1.out
        rw [hmat] at h2
        have H2 := Lib.hid h2
        have he := HE.out
        rw [if_pos hmat] at he
        have HE2 := Lib.hid he
        clear h2 he hmat HMX1 HE
        go_wp2_with fail
        refine H2.out.mono ?_; rintro e w3 ⟨rfl, hB3⟩
        go_wp2_with fail
        go_ret
        exact ⟨by rw [HE2.out]; rfl, bel_trans (bel_trans HBA.out hB) hB3⟩
end Go.Proofs.YtjdbedoabcbeeaaGreatDoor
/- Regions that draw their order and whose calls make memory of their own alone: one walk. -/
namespace Go.Proofs.YtjdbedoabcbeeaaGreatDoor
open Go.RowKit
set_option linter.unusedVariables false
set_option linter.unusedSimpArgs false

/-- The worlds that hold what w holds, and more. -/
def After (w : World) := {w' : World // Below w.heap.size w w'}
instance (w : World) : Nonempty (After w) := ⟨⟨w, Below.refl _ _⟩⟩
theorem wp_region_after {P : Program} {id : Nat} {Q : Exit → Act → World → Prop} {a : Act} {w : World} {l : List Oper} (hm : P.follows .mixedOrders = true) (hB : Region.lexB .any l.toArray = true)
    (h : wpQuiet P l.toArray (fun w' => ∃ x : After w, w' = x.1) (fun a' => ∀ w', (∃ x : After w, w' = x.1) → Q .normal a' w') l a) : (Code.region id l.toArray true).wp P Q a w :=
  wp_region_quiet (C := fun w' => ∃ x : After w, w' = x.1) hm hB ⟨⟨w.drew, bel_drew (Below.refl _ _)⟩, rfl⟩ (by simpa using h)
theorem after_call {P : Program} {f : FuncId} {args : Array Value} {w : World} {v : Value} (h : ∀ w, Calls P f args w fun e w' => e = .returned v ∧ Below w.heap.size w w') (x : After w) :
    Calls P f args x.1 fun e w'' => e = .returned v ∧ ∃ y : After w, w'' = y.1 :=
  (h x.1).mono fun _ w'' ⟨he, hb⟩ => ⟨he, ⟨w'', bel_trans x.2 hb⟩, rfl⟩
theorem after_cell {w : World} {g i : Nat} {v : Value} (h : w.cell? ⟨g, i, none⟩ = some v) (x : After w) : x.1.cell? ⟨g, i, none⟩ = some v :=
  (x.2.cell (p := ⟨g, i, none⟩) (World.block_lt_of_cell? w _ h)).trans h
theorem bel_after {w0 w : World} (h : Below w0.heap.size w0 w) (x : After w) : Below w0.heap.size w0 x.1 := bel_trans h x.2
end Go.Proofs.YtjdbedoabcbeeaaGreatDoor
/- zone.Order's comparison: cmp.Compare, cmp.Or, the function value. -/
namespace Go.Proofs.YtjdbedoabcbeeaaGreatDoor
open Go.RowKit
set_option linter.unusedVariables false
set_option linter.unusedSimpArgs false
attribute [local go_sem] World.cell?_alloc_lt

def cmpI (a b : Int) : Int := if a < b then -1 else if b < a then 1 else 0
def orI (x y : Int) : Int := if x ≠ 0 then x else y
/-- The comparison by the distances, then by the nodes. -/
def cmpF (F : List Int) (a b : Int) : Int := orI (cmpI (F.getD a.toNat 0) (F.getD b.toNat 0)) (cmpI a b)
theorem nan_any (a : Int) (w : World) : Calls Tryz.prog 182 #[.int .i64 a] w fun e w' => e = .returned (.bool false) ∧ w = w' := by
  go_enter Tryz.func182, Tryz.ntmps182
  go_wp2_with fail
  go_ret
  exact ⟨rfl, rfl⟩
set_option maxRecDepth 100000 in
theorem compare_any (a b : Int) (w : World) : Calls Tryz.prog 164 #[.int .i64 a, .int .i64 b] w fun e w' => e = .returned (.int .i64 (cmpI a b)) ∧ w = w' := by
  have h1 := fun w => nan_any a w
  have h2 := fun w => nan_any b w
  have H1 := Lib.hid h1; have H2 := Lib.hid h2
  clear h1 h2
  rcases (by omega : a < b ∨ (¬ a < b ∧ b < a) ∨ (¬ a < b ∧ ¬ b < a)) with h | ⟨h, h'⟩ | ⟨h, h'⟩
  · have e : cmpI a b = -1 := by unfold cmpI; rw [if_pos h]
    rw [e]
    clear e
    go_enter Tryz.func164, Tryz.ntmps164
    go_wp2_with fail
    refine (H1.out _).mono ?_; rintro e w1 ⟨rfl, rfl⟩
    go_wp2_with fail
    refine (H2.out _).mono ?_; rintro e w1 ⟨rfl, rfl⟩
    go_wp2_with fail
    go_ret
    exact ⟨rfl, rfl⟩
  · have e : cmpI a b = 1 := by unfold cmpI; rw [if_neg h, if_pos h']
    rw [e]
    clear e
    go_enter Tryz.func164, Tryz.ntmps164
    go_wp2_with fail
    refine (H1.out _).mono ?_; rintro e w1 ⟨rfl, rfl⟩
    go_wp2_with fail
    refine (H2.out _).mono ?_; rintro e w1 ⟨rfl, rfl⟩
    go_wp2_with fail
    go_ret
    exact ⟨rfl, rfl⟩
  · have e : cmpI a b = 0 := by unfold cmpI; rw [if_neg h, if_neg h']
    rw [e]
    clear e
    go_enter Tryz.func164, Tryz.ntmps164
    go_wp2_with fail
    refine (H1.out _).mono ?_; rintro e w1 ⟨rfl, rfl⟩
    go_wp2_with fail
    refine (H2.out _).mono ?_; rintro e w1 ⟨rfl, rfl⟩
    go_wp2_with fail
    go_ret
    exact ⟨rfl, rfl⟩
set_option maxRecDepth 100000 in
theorem or_any (g : Nat) (x y : Int) (w : World) (hx : w.cell? ⟨g, 0, none⟩ = some (.int .i64 x)) (hy : w.cell? ⟨g, 1, none⟩ = some (.int .i64 y)) : Calls Tryz.prog 163 #[.slice (some ⟨g, 0, none⟩) 2 2] w fun e w' => e = .returned (.int .i64 (orI x y)) ∧ w = w' := by
  unfold orI
  have i0 := fun w => idxI g 0 2 2 0 (by omega) w
  have i1 := fun w => idxI g 0 2 2 1 (by omega) w
  by_cases h0 : x = 0
  · subst h0
    rw [if_neg (by simp)]
    by_cases h1 : y = 0
    · subst h1
      go_enter Tryz.func163, Tryz.ntmps163
      go_wp2_with fail
      go_loopw [8] (fun v wr => ∃ i : Nat, i ≤ 2 ∧ v = .int .i64 (i : Int) ∧ wr = w) (fun v _ => 2 - (intOf v).toNat)
      case atStart => exact ⟨0, by omega, rfl, rfl⟩
      case round =>
        obtain ⟨i, hi, rfl, rfl⟩ := hrel
        rcases (by omega : i = 0 ∨ i = 1 ∨ i = 2) with rfl | rfl | rfl
        · go_wp2_with fail
          go_roundw
          case rel => exact ⟨1, by omega, by go_num, trivial⟩
          case measure => simp [intOf]
        · go_wp2_with fail
          go_roundw
          case rel => exact ⟨2, by omega, by go_num, trivial⟩
          case measure => simp [intOf]
        · go_wp2_with fail
          go_ret
          exact ⟨rfl, rfl⟩
    · go_enter Tryz.func163, Tryz.ntmps163
      go_wp2_with fail
      go_loopw [8] (fun v wr => ∃ i : Nat, i ≤ 1 ∧ v = .int .i64 (i : Int) ∧ wr = w) (fun v _ => 2 - (intOf v).toNat)
      case atStart => exact ⟨0, by omega, rfl, rfl⟩
      case round =>
        obtain ⟨i, hi, rfl, rfl⟩ := hrel
        rcases (by omega : i = 0 ∨ i = 1) with rfl | rfl
        · go_wp2_with fail
          go_roundw
          case rel => exact ⟨1, by omega, by go_num, trivial⟩
          case measure => simp [intOf]
        · go_wp2_with fail
          go_ret
          exact ⟨rfl, rfl⟩
  · rw [if_pos h0]
    go_enter Tryz.func163, Tryz.ntmps163
    go_wp2_with fail
    go_loopw [8] (fun v wr => v = .int .i64 0 ∧ wr = w) (fun v _ => 2 - (intOf v).toNat)
    case atStart => exact ⟨rfl, rfl⟩
    case round =>
      obtain ⟨rfl, rfl⟩ := hrel
      go_wp2_with fail
      go_ret
      exact ⟨rfl, rfl⟩
/-- The distances that the function value reads. -/
structure FarAt (w : World) (p : Nat) (F : List Int) : Prop where
  ex : ∃ A c, w.cell? ⟨p, 0, none⟩ = some (.slice A F.length c) ∧ InI w A F.length F
theorem FarAt.below {w w' : World} {p : Nat} {F : List Int} (h : FarAt w p F) (k : Below w.heap.size w w') : FarAt w' p F := by
  obtain ⟨A, c, h1, h2⟩ := h.ex
  exact ⟨A, c, (k.cell (p := ⟨p, 0, none⟩) (World.block_lt_of_cell? w _ h1)).trans h1, h2.below k⟩
theorem FarAt.ch {w w' : World} {p g : Nat} {F : List Int} (h : FarAt w p F) (k : Ch [g] w w') (hp : p ≠ g) (hF : ∀ A c b off, w.cell? ⟨p, 0, none⟩ = some (.slice A F.length c) → A = some ⟨b, off, none⟩ → b ≠ g) : FarAt w' p F := by
  obtain ⟨A, c, h1, h2⟩ := h.ex
  exact ⟨A, c, ch_keep k (by simpa using hp) h1, h2.ch k (fun b off hA => by simpa using hF A c b off h1 hA)⟩
set_option maxRecDepth 100000 in
theorem order1_any (F : List Int) (p a b : Nat) (w : World) (hF : FarAt w p F) (ha : a < F.length) (hb : b < F.length) : Calls Tryz.prog 162 #[.int .i64 (a : Int), .int .i64 (b : Int), .pointer (some ⟨p, 0, none⟩)] w fun e w' => e = .returned (.int .i64 (cmpF F (a : Int) (b : Int))) ∧ Below w.heap.size w w' := by
  obtain ⟨A, c, hp, hI⟩ := hF.ex
  obtain ⟨g, off, rfl, hg, hca⟩ := hI.get ha
  obtain ⟨g', off', hA, _, hcb⟩ := hI.get hb
  injection hA with hA
  injection hA with hA hA2
  subst hA hA2
  have ia := fun w => idxI g off F.length c a ha w
  have ib := fun w => idxI g off F.length c b hb w
  have e0 : cmpF F (a : Int) (b : Int) = orI (cmpI (F.getD a 0) (F.getD b 0)) (cmpI (a : Int) (b : Int)) := by
    unfold cmpF
    rw [Int.toNat_natCast, Int.toNat_natCast]
  rw [e0]
  clear hF hI
  generalize F.getD a 0 = fa at *
  generalize F.getD b 0 = fb at *
  go_enter Tryz.func162, Tryz.ntmps162
  go_upto_region 1 with fail
  go_region_held3 (fun w' => w'.cell? ⟨p, 0, none⟩ = some (.slice (some ⟨g, off, none⟩) F.length c) ∧ w'.cell? ⟨g, off + a, none⟩ = some (.int .i64 fa) ∧ w'.cell? ⟨g, off + b, none⟩ = some (.int .i64 fb)) (go_keep)
    (first
      | (go_at_call 164; refine (compare_any _ _ _).mono ?_; rintro e wS ⟨rfl, rfl⟩)
      | (go_at_call 163; refine (or_any _ _ _ _ (by first | exact (Blk.new _ _ _).at_ (i := 0) rfl | exact (Blk.new _ _ _).drew.at_ (i := 0) rfl) (by first | exact (Blk.new _ _ _).at_ (i := 1) rfl | exact (Blk.new _ _ _).drew.at_ (i := 1) rfl)).mono ?_; rintro e wS ⟨rfl, rfl⟩))
  all_goals
    go_wp2_with fail
    go_ret
    refine ⟨rfl, ?_⟩
    repeat (first | exact Below.refl _ _ | refine bel_drew ?_ | refine bel_alloc ?_ _)
end Go.Proofs.YtjdbedoabcbeeaaGreatDoor
/- slices.SortFunc of a row of the call's own, by zone.Order's comparison (no more than twelve elements). -/
namespace Go.Proofs.YtjdbedoabcbeeaaGreatDoor
open Go.RowKit
set_option linter.unusedVariables false
set_option linter.unusedSimpArgs false
attribute [local go_sem] World.cell?_alloc_lt

/-- One element goes down as far as it must. -/
def insJ (lt : Int → Int → Bool) : List Int → Nat → List Int
  | d, 0 => d
  | d, j + 1 => if lt (d.getD (j + 1) 0) (d.getD j 0) = true then insJ lt ((d.set (j + 1) (d.getD j 0)).set j (d.getD (j + 1) 0)) j else d
def insS (lt : Int → Int → Bool) : List Int → Nat → Nat → List Int
  | d, _, 0 => d
  | d, i, k + 1 => insS lt (insJ lt d i) (i + 1) k
def ltF (F : List Int) (a b : Int) : Bool := decide (cmpF F a b < 0)
def sortF (F : List Int) (d : List Int) : List Int := insS (ltF F) d 1 (d.length - 1)
theorem insJ_len (lt : Int → Int → Bool) : ∀ (j : Nat) (d : List Int), (insJ lt d j).length = d.length
  | 0, d => rfl
  | j + 1, d => by
    unfold insJ
    split
    · rw [insJ_len lt j]; simp
    · rfl
/-- Numbers of nodes. -/
def NodeL (n : Nat) (d : List Int) : Prop := ∀ x ∈ d, ∃ a : Nat, x = (a : Int) ∧ a < n
theorem NodeL.at_ {n : Nat} {d : List Int} (h : NodeL n d) {i : Nat} (hi : i < d.length) : ∃ a : Nat, d.getD i 0 = (a : Int) ∧ a < n := by
  rw [List.getD_eq_getElem?_getD, List.getElem?_eq_getElem hi]
  exact h _ (List.getElem_mem hi)
theorem NodeL.set {n : Nat} {d : List Int} (h : NodeL n d) {x : Int} (hx : ∃ a : Nat, x = (a : Int) ∧ a < n) (i : Nat) : NodeL n (d.set i x) := by
  intro y hy
  rcases List.mem_or_eq_of_mem_set hy with hy | rfl
  · exact h y hy
  · exact hx
theorem NodeL.swap {n : Nat} {d : List Int} (h : NodeL n d) {j : Nat} (hj : j + 1 < d.length) : NodeL n ((d.set (j + 1) (d.getD j 0)).set j (d.getD (j + 1) 0)) :=
  (h.set (h.at_ (by omega)) _).set (h.at_ hj) _
theorem insJ_nodes (lt : Int → Int → Bool) {n : Nat} : ∀ (j : Nat) (d : List Int), NodeL n d → j < d.length → NodeL n (insJ lt d j)
  | 0, d, h, _ => h
  | j + 1, d, h, hj => by
    unfold insJ
    split
    · exact insJ_nodes lt j _ (h.swap hj) (by simp; omega)
    · exact h
theorem after_callB {P : Program} {f : FuncId} {args : Array Value} {w : World} {v : Value} (h : ∀ w', Below w.heap.size w w' → Calls P f args w' fun e w'' => e = .returned v ∧ Below w'.heap.size w' w'') (x : After w) :
    Calls P f args x.1 fun e w'' => e = .returned v ∧ ∃ y : After w, w'' = y.1 :=
  (h x.1 x.2).mono fun _ w'' ⟨he, hb⟩ => ⟨he, ⟨w'', bel_trans x.2 hb⟩, rfl⟩
theorem map_set_int (y : List Int) (i : Nat) (x : Int) : (y.map (Value.int .i64)).set i (.int .i64 x) = (y.set i x).map (Value.int .i64) := by rw [List.map_set]
set_option maxRecDepth 100000 in
set_option maxHeartbeats 1000000 in
theorem insertion_any (F : List Int) (p g n c base : Nat) (d : List Int) (w : World) (hl : d.length = n) (hn : n ≤ 12) (hF : FarAt w p F) (hd : NodeL F.length d)
    (hown : w.ownsRow base 3 1 (.slice (some ⟨g, 0, none⟩) n c) n (d.map (Value.int .i64))) (hfar : ∀ w', Ch [g] w w' → FarAt w' p F) :
    Calls Tryz.prog 188 #[.slice (some ⟨g, 0, none⟩) n c, .int .i64 0, .int .i64 (n : Int), .func (Fn.func 162) #[] #[.pointer (some ⟨p, 0, none⟩)]] w fun e w' =>
      e = .returned (.tuple #[]) ∧ w'.ownsRow base 3 1 (.slice (some ⟨g, 0, none⟩) n c) n ((sortF F d).map (Value.int .i64)) ∧ Ch [g] w w' := by
  obtain ⟨R, hR⟩ : ∃ R, sortF F d = R := ⟨_, rfl⟩
  rw [hR]
  have HF := Lib.hid hfar; have HOW := Lib.hid hown; have HD := Lib.hid hd
  unfold sortF at hR
  rw [hl] at hR
  have HR := Lib.hid hR
  clear hfar hown hd hR hF
  go_enter Tryz.func188, Tryz.ntmps188
  go_wp2_with fail
  go_loopw [8] (fun v8 wr => ∃ (i : Nat) (x : List Int), 1 ≤ i ∧ (i ≤ n ∨ (n = 0 ∧ i = 1)) ∧ v8 = .int .i64 (i : Int) ∧ x.length = n ∧ NodeL F.length x ∧ insS (ltF F) x i (n - i) = R ∧ wr.ownsRow base 3 1 (.slice (some ⟨g, 0, none⟩) n c) n (x.map (Value.int .i64)) ∧ Ch [g] w wr) (fun v _ => n - (intOf v).toNat)
  case atStart => exact ⟨1, d, by omega, by omega, rfl, hl, HD.out, HR.out, HOW.out, Ch.refl _ _⟩
  case round =>
    obtain ⟨i, x, h1, hin, rfl, hxl, hxn, hxR, hxo, hch⟩ := hrel
    by_cases hlt : i < n
    · have hins : insS (ltF F) x i (n - i) = insS (ltF F) (insJ (ltF F) x i) (i + 1) (n - (i + 1)) := by
        rw [show n - i = (n - (i + 1)) + 1 by omega]; rfl
      rw [hins] at hxR
      have HXR := Lib.hid hxR; have HXO := Lib.hid hxo; have HCH := Lib.hid hch; have HXN := Lib.hid hxn
      clear hins hxR hxo hch hxn hin
      go_wp2_with fail
      go_loopw [9] (fun v9 wx => ∃ (j : Nat) (y : List Int), j ≤ i ∧ v9 = .int .i64 (j : Int) ∧ y.length = n ∧ NodeL F.length y ∧ insJ (ltF F) y j = insJ (ltF F) x i ∧ wx.ownsRow base 3 1 (.slice (some ⟨g, 0, none⟩) n c) n (y.map (Value.int .i64)) ∧ Ch [g] w wx) (fun v _ => (intOf v).toNat)
      case atStart => exact ⟨i, x, Nat.le_refl _, rfl, hxl, HXN.out, rfl, HXO.out, HCH.out⟩
      case round =>
        clear HXO HCH
        obtain ⟨j, y, hji, rfl, hyl, hyn, hyR, hyo, hch⟩ := hrel
        cases j with
        | zero =>
          have hyR : y = insJ (ltF F) x i := hyR
          have hyx : insS (ltF F) y (i + 1) (n - (i + 1)) = R := by rw [hyR]; exact HXR.out
          have HYX := Lib.hid hyx; have HYO := Lib.hid hyo; have HCH := Lib.hid hch; have HYN := Lib.hid hyn
          clear hyR hyx hyo hch hyn HXR HXN
          go_upto_region 4 with fail
          go_quiet (fail)
          have HYO2 := Lib.hid (own_chV HYO.out ((Ch.refl [] wr).drewN nq) (by simp)); have HCH2 := Lib.hid (HCH.out.drewN nq)
          clear HYO HCH
          go_wp2_with fail
          go_roundw
          case rel => exact ⟨i + 1, y, by omega, by omega, by go_num, hyl, HYN.out, HYX.out, HYO2.out, HCH2.out⟩
          case measure => simp [intOf]; omega
        | succ j =>
          have hj1 : j + 1 < n := by omega
          obtain ⟨a, ha, haF⟩ := hyn.at_ (i := j + 1) (by omega)
          obtain ⟨b, hb, hbF⟩ := hyn.at_ (i := j) (by omega)
          have hca : wr.cell? ⟨g, j + 1, none⟩ = some (.int .i64 (a : Int)) := by
            obtain ⟨g', hA, hc, _⟩ := own_at hyo (k := j + 1) (u := .int .i64 (a : Int)) (by rw [map_at (f := Value.int .i64) (by omega : j + 1 < y.length) 0, ha])
            injection hA with hA
            injection hA with hA
            subst hA
            exact hc
          have hcb : wr.cell? ⟨g, j, none⟩ = some (.int .i64 (b : Int)) := by
            obtain ⟨g', hA, hc, _⟩ := own_at hyo (k := j) (u := .int .i64 (b : Int)) (by rw [map_at (f := Value.int .i64) (by omega : j < y.length) 0, hb])
            injection hA with hA
            injection hA with hA
            subst hA
            exact hc
          have hgl : g < wr.heap.size := World.block_lt_of_cell? wr _ hca
          have hcm : ∀ w', Below wr.heap.size wr w' → _ := fun w' h => order1_any F p a b w' ((HF.out _ hch).below h) haF hbF
          have hun : insJ (ltF F) y (j + 1) = if cmpF F (a : Int) (b : Int) < 0 then insJ (ltF F) ((y.set (j + 1) (b : Int)).set j (a : Int)) j else y := by
            show (if ltF F (y.getD (j + 1) 0) (y.getD j 0) = true then insJ (ltF F) ((y.set (j + 1) (y.getD j 0)).set j (y.getD (j + 1) 0)) j else y) = _
            rw [ha, hb]
            unfold ltF
            by_cases h : cmpF F (a : Int) (b : Int) < 0
            · rw [if_pos h, if_pos (by simpa using h)]
            · rw [if_neg h, if_neg (by simpa using h)]
          rw [hun] at hyR
          have hi1 : ∀ w : World, (Instr.indexAt 27 (.slice (some ⟨g, 0, none⟩) n c) (.int .i64 ((j : Int) + 1))).run Tryz.prog w = .ok (.pointer (some ⟨g, j + 1, none⟩)) w := fun w => idx_own g n c (j + 1) (by omega) w
          have hi0 : ∀ w : World, (Instr.indexAt 27 (.slice (some ⟨g, 0, none⟩) n c) (.int .i64 (j : Int))).run Tryz.prog w = .ok (.pointer (some ⟨g, j, none⟩)) w := fun w => idx_own g n c j (by omega) w
          have hwr : IntKind.i64.wrap ((j : Int) + 1 - 1) = (j : Int) := by rw [show (j : Int) + 1 - 1 = (j : Int) by omega]; exact i64_sm (by omega) (by omega)
          have hsw := hyn.swap (j := j) (by omega)
          rw [ha, hb] at hsw
          have q0 := after_cell hca
          have q1 := after_cell hcb
          have HCM := Lib.hid hcm; have HYR := Lib.hid hyR; have HYO := Lib.hid hyo; have HCH := Lib.hid hch; have HYN := Lib.hid hyn; have HSW := Lib.hid hsw
          clear hcm hyR hyo hch hyn hun ha hb hsw
          generalize cmpF F (a : Int) (b : Int) = cv at *
          go_upto_region 4 with fail
          refine wp_region_after (by kernel_rfl) (by kernel_rfl) ?_
          repeat (first | go_big_quiet_step ((go_at_call 162; exact after_callB HCM.out _)) | quiet_step ((go_at_call 162; exact after_callB HCM.out _)))
          refine wpQuiet_nil ?_; intro _ hw'; obtain ⟨xq, hw''⟩ := hw'; subst hw''
          have HYO2 := Lib.hid (own_chV HYO.out (Ch.below xq.2 []) (by simp)); have HCH2 := Lib.hid (HCH.out.trans (Ch.below xq.2 [g]))
          have f0 : xq.1.frozen? ⟨g, j, none⟩ = false := by
            obtain ⟨g', hA, hc, _, _, hf⟩ := own_at HYO2.out (k := j) (u := (y.map (Value.int .i64))[j]'(by rw [List.length_map]; omega)) (List.getElem?_eq_getElem _)
            injection hA with hA
            injection hA with hA
            subst hA
            exact hf
          have f1 : xq.1.frozen? ⟨g, j + 1, none⟩ = false := by
            obtain ⟨g', hA, hc, _, _, hf⟩ := own_at HYO2.out (k := j + 1) (u := (y.map (Value.int .i64))[j + 1]'(by rw [List.length_map]; omega)) (List.getElem?_eq_getElem _)
            injection hA with hA
            injection hA with hA
            subst hA
            exact hf
          have r0 := q0 xq
          have r1 := q1 xq
          clear q0 q1 HYO HCH HCM hca hcb hgl
          by_cases hcv : cv < 0
          · have hyR := HYR.out
            rw [if_pos hcv] at hyR
            have HYR2 := Lib.hid hyR
            clear hyR HYR
            go_upto_region 6 with fail
            have hA := own_set1 (own_set1 HYO2.out (i := j + 1) (by omega) (.int .i64 (b : Int))) (i := j) (by omega) (.int .i64 (a : Int))
            rw [map_set_int, map_set_int] at hA
            have hB := own_set1 (own_set1 HYO2.out (i := j) (by omega) (.int .i64 (a : Int))) (i := j + 1) (by omega) (.int .i64 (b : Int))
            rw [map_set_int, map_set_int, List.set_comm _ _ (by omega)] at hB
            have hcA : Ch [g] w ((xq.1.setCell ⟨g, j + 1, none⟩ (.int .i64 (b : Int))).setCell ⟨g, j, none⟩ (.int .i64 (a : Int))) := (HCH2.out.set (p := ⟨g, j + 1, none⟩) (by simp) _).set (p := ⟨g, j, none⟩) (by simp) _
            have hcB : Ch [g] w ((xq.1.setCell ⟨g, j, none⟩ (.int .i64 (a : Int))).setCell ⟨g, j + 1, none⟩ (.int .i64 (b : Int))) := (HCH2.out.set (p := ⟨g, j, none⟩) (by simp) _).set (p := ⟨g, j + 1, none⟩) (by simp) _
            have HA := Lib.hid hA; have HB := Lib.hid hB; have HCA := Lib.hid hcA; have HCB := Lib.hid hcB
            clear hA hB hcA hcB HYO2 HCH2
            change Code.wp _ _ _ _ xq.1
            generalize xq.1 = w3 at *
            go_region
            all_goals
              go_wp2_with fail
              go_roundw
              case rel => first | exact ⟨j, _, by omega, by go_num, by simp [hyl], HSW.out, HYR2.out, own_chV HA.out (Ch.refl [] _).drew (by simp), HCA.out.drew⟩ | exact ⟨j, _, by omega, by go_num, by simp [hyl], HSW.out, HYR2.out, own_chV HB.out (Ch.refl [] _).drew (by simp), HCB.out.drew⟩
              case measure => simp [intOf]
          · have hyR := HYR.out
            rw [if_neg hcv] at hyR
            have hyx : insS (ltF F) y (i + 1) (n - (i + 1)) = R := by rw [hyR]; exact HXR.out
            have HYX := Lib.hid hyx
            clear hyR hyx HYR HXR HXN
            go_wp2_with fail
            go_roundw
            case rel => exact ⟨i + 1, y, by omega, by omega, by go_num, hyl, HYN.out, HYX.out, HYO2.out, HCH2.out⟩
            case measure => simp [intOf]; omega
    · have hi2 : n - i = 0 := by omega
      rw [hi2] at hxR
      have hxR : x = R := hxR
      subst hxR
      have HXO := Lib.hid hxo; have HCH := Lib.hid hch
      clear hxo hch hi2
      go_wp2_with fail
      go_end0
      exact ⟨rfl, HXO.out, HCH.out⟩
set_option maxRecDepth 100000 in
set_option maxHeartbeats 1000000 in
theorem pdq_any (F : List Int) (p g n c base : Nat) (lim : Int) (d : List Int) (w : World) (hl : d.length = n) (hn : n ≤ 12) (hF : FarAt w p F) (hd : NodeL F.length d)
    (hown : w.ownsRow base 3 1 (.slice (some ⟨g, 0, none⟩) n c) n (d.map (Value.int .i64))) (hfar : ∀ w', Ch [g] w w' → FarAt w' p F) :
    Calls Tryz.prog 183 #[.slice (some ⟨g, 0, none⟩) n c, .int .i64 0, .int .i64 (n : Int), .int .i64 lim, .func (Fn.func 162) #[] #[.pointer (some ⟨p, 0, none⟩)]] w fun e w' =>
      e = .returned (.tuple #[]) ∧ w'.ownsRow base 3 1 (.slice (some ⟨g, 0, none⟩) n c) n ((sortF F d).map (Value.int .i64)) ∧ Ch [g] w w' := by
  have hi := insertion_any F p g n c base d w hl hn hF hd hown hfar
  have HI := Lib.hid hi
  clear hi hF hd hown hfar hl
  generalize sortF F d = R at *
  have hn12 : (n : Int) ≤ 12 := by omega
  go_enter Tryz.func183, Tryz.ntmps183
  go_wp2_with fail
  go_loopw [1, 2] (fun v1 v2 wr => v1 = .int .i64 0 ∧ v2 = .int .i64 (n : Int) ∧ wr = w) (fun _ _ _ => 0)
  case atStart => exact ⟨rfl, rfl, rfl⟩
  case round =>
    obtain ⟨rfl, rfl, rfl⟩ := hrel
    go_wp2_with fail
    refine HI.out.mono ?_; rintro e w1 ⟨rfl, hO, hC⟩
    have HO := Lib.hid hO; have HC := Lib.hid hC
    clear hO hC HI
    go_wp2_with fail
    (try simp only [Exit.inBlock, Exit.then])
    refine bodyPost_ret (results_none rfl _ _ _) rfl ?_
    exact ⟨rfl, HO.out, HC.out⟩
set_option maxRecDepth 100000 in
theorem sortfunc_any (F : List Int) (p g n c base : Nat) (d : List Int) (w : World) (hl : d.length = n) (hn : n ≤ 12) (hF : FarAt w p F) (hd : NodeL F.length d)
    (hown : w.ownsRow base 3 1 (.slice (some ⟨g, 0, none⟩) n c) n (d.map (Value.int .i64))) (hfar : ∀ w', Ch [g] w w' → FarAt w' p F) :
    Calls Tryz.prog 161 #[.slice (some ⟨g, 0, none⟩) n c, .func (Fn.func 162) #[] #[.pointer (some ⟨p, 0, none⟩)]] w fun e w' =>
      e = .returned (.tuple #[]) ∧ w'.ownsRow base 3 1 (.slice (some ⟨g, 0, none⟩) n c) n ((sortF F d).map (Value.int .i64)) ∧ Ch [g] w w' := by
  have hi := fun lim => pdq_any F p g n c base lim d w hl hn hF hd hown hfar
  have hb := Tryz.bits_Len (n : Int) w (by omega) (by omega)
  have HI := Lib.hid hi; have HB := Lib.hid hb
  clear hi hF hd hown hfar hl hb
  generalize sortF F d = R at *
  generalize ((Lib.bitLen (n : Int).toNat : Nat) : Int) = lim at *
  go_enter Tryz.func161, Tryz.ntmps161
  go_wp2_with fail
  refine HB.out.mono ?_; rintro e w1 ⟨rfl, rfl⟩
  go_wp2_with fail
  refine (HI.out _).mono ?_; rintro e w1 ⟨rfl, hO, hC⟩
  have HO := Lib.hid hO; have HC := Lib.hid hC
  clear hO hC HI
  go_wp2_with fail
  go_end0
  exact ⟨rfl, HO.out, HC.out⟩
end Go.Proofs.YtjdbedoabcbeeaaGreatDoor
