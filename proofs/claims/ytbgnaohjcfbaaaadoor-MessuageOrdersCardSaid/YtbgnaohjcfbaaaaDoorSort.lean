/- slices.SortFunc of a row of the call's own, by zone.Order's comparison (no more than twelve elements). -/
import Derived.Test.YtbgnaohjcfbaaaaDoorZone
import Derived.Test.YtbgnaohjcfbaaaaDoorShelf
import Derived.Deep.QuietTactic
import Derived.BigQuiet
namespace Go.Proofs.YtbgnaohjcfbaaaaDoor
open Go.RowKit
set_option linter.unusedVariables false
set_option linter.unusedSimpArgs false
attribute [local go_sem] World.cell?_alloc_lt

/-- One element goes down as far as it must. -/
def insJ (lt : Int → Int → Bool) : List Int → Nat → List Int
  | d, 0 => d
  | d, j + 1 => if lt (d.getD (j + 1) 0) (d.getD j 0) = true then insJ lt ((d.set (j + 1) (d.getD j 0)).set j (d.getD (j + 1) 0)) j else d
def insS (lt : Int → Int → Bool) : List Int → Nat → Nat → List Int
  | d, _, 0 => d
  | d, i, k + 1 => insS lt (insJ lt d i) (i + 1) k
def ltF (F : List Int) (a b : Int) : Bool := decide (cmpF F a b < 0)
def sortF (F : List Int) (d : List Int) : List Int := insS (ltF F) d 1 (d.length - 1)
theorem insJ_len (lt : Int → Int → Bool) : ∀ (j : Nat) (d : List Int), (insJ lt d j).length = d.length
  | 0, d => rfl
  | j + 1, d => by
    unfold insJ
    split
    · rw [insJ_len lt j]; simp
    · rfl
/-- Numbers of nodes. -/
def NodeL (n : Nat) (d : List Int) : Prop := ∀ x ∈ d, ∃ a : Nat, x = (a : Int) ∧ a < n
theorem NodeL.at_ {n : Nat} {d : List Int} (h : NodeL n d) {i : Nat} (hi : i < d.length) : ∃ a : Nat, d.getD i 0 = (a : Int) ∧ a < n := by
  rw [List.getD_eq_getElem?_getD, List.getElem?_eq_getElem hi]
  exact h _ (List.getElem_mem hi)
theorem NodeL.set {n : Nat} {d : List Int} (h : NodeL n d) {x : Int} (hx : ∃ a : Nat, x = (a : Int) ∧ a < n) (i : Nat) : NodeL n (d.set i x) := by
  intro y hy
  rcases List.mem_or_eq_of_mem_set hy with hy | rfl
  · exact h y hy
  · exact hx
theorem NodeL.swap {n : Nat} {d : List Int} (h : NodeL n d) {j : Nat} (hj : j + 1 < d.length) : NodeL n ((d.set (j + 1) (d.getD j 0)).set j (d.getD (j + 1) 0)) :=
  (h.set (h.at_ (by omega)) _).set (h.at_ hj) _
theorem insJ_nodes (lt : Int → Int → Bool) {n : Nat} : ∀ (j : Nat) (d : List Int), NodeL n d → j < d.length → NodeL n (insJ lt d j)
  | 0, d, h, _ => h
  | j + 1, d, h, hj => by
    unfold insJ
    split
    · exact insJ_nodes lt j _ (h.swap hj) (by simp; omega)
    · exact h
theorem after_callB {P : Program} {f : FuncId} {args : Array Value} {w : World} {v : Value} (h : ∀ w', Below w.heap.size w w' → Calls P f args w' fun e w'' => e = .returned v ∧ Below w'.heap.size w' w'') (x : After w) :
    Calls P f args x.1 fun e w'' => e = .returned v ∧ ∃ y : After w, w'' = y.1 :=
  (h x.1 x.2).mono fun _ w'' ⟨he, hb⟩ => ⟨he, ⟨w'', bel_trans x.2 hb⟩, rfl⟩
theorem map_set_int (y : List Int) (i : Nat) (x : Int) : (y.map (Value.int .i64)).set i (.int .i64 x) = (y.set i x).map (Value.int .i64) := by rw [List.map_set]
set_option maxRecDepth 100000 in
set_option maxHeartbeats 1000000 in
theorem insertion_any (F : List Int) (p g n c base : Nat) (d : List Int) (w : World) (hl : d.length = n) (hn : n ≤ 12) (hF : FarAt w p F) (hd : NodeL F.length d)
    (hown : w.ownsRow base 3 1 (.slice (some ⟨g, 0, none⟩) n c) n (d.map (Value.int .i64))) (hfar : ∀ w', Ch [g] w w' → FarAt w' p F) :
    Calls Tryd.prog 74 #[.slice (some ⟨g, 0, none⟩) n c, .int .i64 0, .int .i64 (n : Int), .func (Fn.func 41) #[] #[.pointer (some ⟨p, 0, none⟩)]] w fun e w' =>
      e = .returned (.tuple #[]) ∧ w'.ownsRow base 3 1 (.slice (some ⟨g, 0, none⟩) n c) n ((sortF F d).map (Value.int .i64)) ∧ Ch [g] w w' := by
  obtain ⟨R, hR⟩ : ∃ R, sortF F d = R := ⟨_, rfl⟩
  rw [hR]
  have HF := Lib.hid hfar; have HOW := Lib.hid hown; have HD := Lib.hid hd
  unfold sortF at hR
  rw [hl] at hR
  have HR := Lib.hid hR
  clear hfar hown hd hR hF
  go_enter Tryd.func74, Tryd.ntmps74
  go_wp2_with fail
  go_loopw [8] (fun v8 wr => ∃ (i : Nat) (x : List Int), 1 ≤ i ∧ (i ≤ n ∨ (n = 0 ∧ i = 1)) ∧ v8 = .int .i64 (i : Int) ∧ x.length = n ∧ NodeL F.length x ∧ insS (ltF F) x i (n - i) = R ∧ wr.ownsRow base 3 1 (.slice (some ⟨g, 0, none⟩) n c) n (x.map (Value.int .i64)) ∧ Ch [g] w wr) (fun v _ => n - (intOf v).toNat)
  case atStart => exact ⟨1, d, by omega, by omega, rfl, hl, HD.out, HR.out, HOW.out, Ch.refl _ _⟩
  case round =>
    obtain ⟨i, x, h1, hin, rfl, hxl, hxn, hxR, hxo, hch⟩ := hrel
    by_cases hlt : i < n
    · have hins : insS (ltF F) x i (n - i) = insS (ltF F) (insJ (ltF F) x i) (i + 1) (n - (i + 1)) := by
        rw [show n - i = (n - (i + 1)) + 1 by omega]; rfl
      rw [hins] at hxR
      have HXR := Lib.hid hxR; have HXO := Lib.hid hxo; have HCH := Lib.hid hch; have HXN := Lib.hid hxn
      clear hins hxR hxo hch hxn hin
      go_wp2_with fail
      go_loopw [9] (fun v9 wx => ∃ (j : Nat) (y : List Int), j ≤ i ∧ v9 = .int .i64 (j : Int) ∧ y.length = n ∧ NodeL F.length y ∧ insJ (ltF F) y j = insJ (ltF F) x i ∧ wx.ownsRow base 3 1 (.slice (some ⟨g, 0, none⟩) n c) n (y.map (Value.int .i64)) ∧ Ch [g] w wx) (fun v _ => (intOf v).toNat)
      case atStart => exact ⟨i, x, Nat.le_refl _, rfl, hxl, HXN.out, rfl, HXO.out, HCH.out⟩
      case round =>
        clear HXO HCH
        obtain ⟨j, y, hji, rfl, hyl, hyn, hyR, hyo, hch⟩ := hrel
        cases j with
        | zero =>
          have hyR : y = insJ (ltF F) x i := hyR
          have hyx : insS (ltF F) y (i + 1) (n - (i + 1)) = R := by rw [hyR]; exact HXR.out
          have HYX := Lib.hid hyx; have HYO := Lib.hid hyo; have HCH := Lib.hid hch; have HYN := Lib.hid hyn
          clear hyR hyx hyo hch hyn HXR HXN
          go_upto_region 4 with fail
          go_quiet (fail)
          have HYO2 := Lib.hid (own_chV HYO.out ((Ch.refl [] wr).drewN nq) (by simp)); have HCH2 := Lib.hid (HCH.out.drewN nq)
          clear HYO HCH
          go_wp2_with fail
          go_roundw
          case rel => exact ⟨i + 1, y, by omega, by omega, by go_num, hyl, HYN.out, HYX.out, HYO2.out, HCH2.out⟩
          case measure => simp [intOf]; omega
        | succ j =>
          have hj1 : j + 1 < n := by omega
          obtain ⟨a, ha, haF⟩ := hyn.at_ (i := j + 1) (by omega)
          obtain ⟨b, hb, hbF⟩ := hyn.at_ (i := j) (by omega)
          have hca : wr.cell? ⟨g, j + 1, none⟩ = some (.int .i64 (a : Int)) := by
            obtain ⟨g', hA, hc, _⟩ := own_at hyo (k := j + 1) (u := .int .i64 (a : Int)) (by rw [map_at (f := Value.int .i64) (by omega : j + 1 < y.length) 0, ha])
            injection hA with hA
            injection hA with hA
            subst hA
            exact hc
          have hcb : wr.cell? ⟨g, j, none⟩ = some (.int .i64 (b : Int)) := by
            obtain ⟨g', hA, hc, _⟩ := own_at hyo (k := j) (u := .int .i64 (b : Int)) (by rw [map_at (f := Value.int .i64) (by omega : j < y.length) 0, hb])
            injection hA with hA
            injection hA with hA
            subst hA
            exact hc
          have hgl : g < wr.heap.size := World.block_lt_of_cell? wr _ hca
          have hcm : ∀ w', Below wr.heap.size wr w' → _ := fun w' h => order1_any F p a b w' ((HF.out _ hch).below h) haF hbF
          have hun : insJ (ltF F) y (j + 1) = if cmpF F (a : Int) (b : Int) < 0 then insJ (ltF F) ((y.set (j + 1) (b : Int)).set j (a : Int)) j else y := by
            show (if ltF F (y.getD (j + 1) 0) (y.getD j 0) = true then insJ (ltF F) ((y.set (j + 1) (y.getD j 0)).set j (y.getD (j + 1) 0)) j else y) = _
            rw [ha, hb]
            unfold ltF
            by_cases h : cmpF F (a : Int) (b : Int) < 0
            · rw [if_pos h, if_pos (by simpa using h)]
            · rw [if_neg h, if_neg (by simpa using h)]
          rw [hun] at hyR
          have hi1 : ∀ w : World, (Instr.indexAt 23 (.slice (some ⟨g, 0, none⟩) n c) (.int .i64 ((j : Int) + 1))).run Tryd.prog w = .ok (.pointer (some ⟨g, j + 1, none⟩)) w := fun w => idx_own g n c (j + 1) (by omega) w
          have hi0 : ∀ w : World, (Instr.indexAt 23 (.slice (some ⟨g, 0, none⟩) n c) (.int .i64 (j : Int))).run Tryd.prog w = .ok (.pointer (some ⟨g, j, none⟩)) w := fun w => idx_own g n c j (by omega) w
          have hwr : IntKind.i64.wrap ((j : Int) + 1 - 1) = (j : Int) := by rw [show (j : Int) + 1 - 1 = (j : Int) by omega]; exact i64_sm (by omega) (by omega)
          have hsw := hyn.swap (j := j) (by omega)
          rw [ha, hb] at hsw
          have q0 := after_cell hca
          have q1 := after_cell hcb
          have HCM := Lib.hid hcm; have HYR := Lib.hid hyR; have HYO := Lib.hid hyo; have HCH := Lib.hid hch; have HYN := Lib.hid hyn; have HSW := Lib.hid hsw
          clear hcm hyR hyo hch hyn hun ha hb hsw
          generalize cmpF F (a : Int) (b : Int) = cv at *
          go_upto_region 4 with fail
          refine wp_region_after (by kernel_rfl) (by kernel_rfl) ?_
          repeat (first | go_big_quiet_step ((go_at_call 41; exact after_callB HCM.out _)) | quiet_step ((go_at_call 41; exact after_callB HCM.out _)))
          refine wpQuiet_nil ?_; intro _ hw'; obtain ⟨xq, hw''⟩ := hw'; subst hw''
          have HYO2 := Lib.hid (own_chV HYO.out (Ch.below xq.2 []) (by simp)); have HCH2 := Lib.hid (HCH.out.trans (Ch.below xq.2 [g]))
          have f0 : xq.1.frozen? ⟨g, j, none⟩ = false := by
            obtain ⟨g', hA, hc, _, _, hf⟩ := own_at HYO2.out (k := j) (u := (y.map (Value.int .i64))[j]'(by rw [List.length_map]; omega)) (List.getElem?_eq_getElem _)
            injection hA with hA
            injection hA with hA
            subst hA
            exact hf
          have f1 : xq.1.frozen? ⟨g, j + 1, none⟩ = false := by
            obtain ⟨g', hA, hc, _, _, hf⟩ := own_at HYO2.out (k := j + 1) (u := (y.map (Value.int .i64))[j + 1]'(by rw [List.length_map]; omega)) (List.getElem?_eq_getElem _)
            injection hA with hA
            injection hA with hA
            subst hA
            exact hf
          have r0 := q0 xq
          have r1 := q1 xq
          clear q0 q1 HYO HCH HCM hca hcb hgl
          by_cases hcv : cv < 0
          · have hyR := HYR.out
            rw [if_pos hcv] at hyR
            have HYR2 := Lib.hid hyR
            clear hyR HYR
            go_upto_region 6 with fail
            have hA := own_set1 (own_set1 HYO2.out (i := j + 1) (by omega) (.int .i64 (b : Int))) (i := j) (by omega) (.int .i64 (a : Int))
            rw [map_set_int, map_set_int] at hA
            have hB := own_set1 (own_set1 HYO2.out (i := j) (by omega) (.int .i64 (a : Int))) (i := j + 1) (by omega) (.int .i64 (b : Int))
            rw [map_set_int, map_set_int, List.set_comm _ _ (by omega)] at hB
            have hcA : Ch [g] w ((xq.1.setCell ⟨g, j + 1, none⟩ (.int .i64 (b : Int))).setCell ⟨g, j, none⟩ (.int .i64 (a : Int))) := (HCH2.out.set (p := ⟨g, j + 1, none⟩) (by simp) _).set (p := ⟨g, j, none⟩) (by simp) _
            have hcB : Ch [g] w ((xq.1.setCell ⟨g, j, none⟩ (.int .i64 (a : Int))).setCell ⟨g, j + 1, none⟩ (.int .i64 (b : Int))) := (HCH2.out.set (p := ⟨g, j, none⟩) (by simp) _).set (p := ⟨g, j + 1, none⟩) (by simp) _
            have HA := Lib.hid hA; have HB := Lib.hid hB; have HCA := Lib.hid hcA; have HCB := Lib.hid hcB
            clear hA hB hcA hcB HYO2 HCH2
            change Code.wp _ _ _ _ xq.1
            generalize xq.1 = w3 at *
            go_region
            all_goals
              go_wp2_with fail
              go_roundw
              case rel => first | exact ⟨j, _, by omega, by go_num, by simp [hyl], HSW.out, HYR2.out, own_chV HA.out (Ch.refl [] _).drew (by simp), HCA.out.drew⟩ | exact ⟨j, _, by omega, by go_num, by simp [hyl], HSW.out, HYR2.out, own_chV HB.out (Ch.refl [] _).drew (by simp), HCB.out.drew⟩
              case measure => simp [intOf]
          · have hyR := HYR.out
            rw [if_neg hcv] at hyR
            have hyx : insS (ltF F) y (i + 1) (n - (i + 1)) = R := by rw [hyR]; exact HXR.out
            have HYX := Lib.hid hyx
            clear hyR hyx HYR HXR HXN
            go_wp2_with fail
            go_roundw
            case rel => exact ⟨i + 1, y, by omega, by omega, by go_num, hyl, HYN.out, HYX.out, HYO2.out, HCH2.out⟩
            case measure => simp [intOf]; omega
    · have hi2 : n - i = 0 := by omega
      rw [hi2] at hxR
      have hxR : x = R := hxR
      subst hxR
      have HXO := Lib.hid hxo; have HCH := Lib.hid hch
      clear hxo hch hi2
      go_wp2_with fail
      go_end0
      exact ⟨rfl, HXO.out, HCH.out⟩
set_option maxRecDepth 100000 in
set_option maxHeartbeats 1000000 in
theorem pdq_any (F : List Int) (p g n c base : Nat) (lim : Int) (d : List Int) (w : World) (hl : d.length = n) (hn : n ≤ 12) (hF : FarAt w p F) (hd : NodeL F.length d)
    (hown : w.ownsRow base 3 1 (.slice (some ⟨g, 0, none⟩) n c) n (d.map (Value.int .i64))) (hfar : ∀ w', Ch [g] w w' → FarAt w' p F) :
    Calls Tryd.prog 61 #[.slice (some ⟨g, 0, none⟩) n c, .int .i64 0, .int .i64 (n : Int), .int .i64 lim, .func (Fn.func 41) #[] #[.pointer (some ⟨p, 0, none⟩)]] w fun e w' =>
      e = .returned (.tuple #[]) ∧ w'.ownsRow base 3 1 (.slice (some ⟨g, 0, none⟩) n c) n ((sortF F d).map (Value.int .i64)) ∧ Ch [g] w w' := by
  have hi := insertion_any F p g n c base d w hl hn hF hd hown hfar
  have HI := Lib.hid hi
  clear hi hF hd hown hfar hl
  generalize sortF F d = R at *
  have hn12 : (n : Int) ≤ 12 := by omega
  go_enter Tryd.func61, Tryd.ntmps61
  go_wp2_with fail
  go_loopw [1, 2] (fun v1 v2 wr => v1 = .int .i64 0 ∧ v2 = .int .i64 (n : Int) ∧ wr = w) (fun _ _ _ => 0)
  case atStart => exact ⟨rfl, rfl, rfl⟩
  case round =>
    obtain ⟨rfl, rfl, rfl⟩ := hrel
    go_wp2_with fail
    refine HI.out.mono ?_; rintro e w1 ⟨rfl, hO, hC⟩
    have HO := Lib.hid hO; have HC := Lib.hid hC
    clear hO hC HI
    go_wp2_with fail
    (try simp only [Exit.inBlock, Exit.then])
    refine bodyPost_ret (results_none rfl _ _ _) rfl ?_
    exact ⟨rfl, HO.out, HC.out⟩
set_option maxRecDepth 100000 in
theorem sortfunc_any (F : List Int) (p g n c base : Nat) (d : List Int) (w : World) (hl : d.length = n) (hn : n ≤ 12) (hF : FarAt w p F) (hd : NodeL F.length d)
    (hown : w.ownsRow base 3 1 (.slice (some ⟨g, 0, none⟩) n c) n (d.map (Value.int .i64))) (hfar : ∀ w', Ch [g] w w' → FarAt w' p F) :
    Calls Tryd.prog 40 #[.slice (some ⟨g, 0, none⟩) n c, .func (Fn.func 41) #[] #[.pointer (some ⟨p, 0, none⟩)]] w fun e w' =>
      e = .returned (.tuple #[]) ∧ w'.ownsRow base 3 1 (.slice (some ⟨g, 0, none⟩) n c) n ((sortF F d).map (Value.int .i64)) ∧ Ch [g] w w' := by
  have hi := fun lim => pdq_any F p g n c base lim d w hl hn hF hd hown hfar
  have hb := Tryd.bits_Len (n : Int) w (by omega) (by omega)
  have HI := Lib.hid hi; have HB := Lib.hid hb
  clear hi hF hd hown hfar hl hb
  generalize sortF F d = R at *
  generalize ((Lib.bitLen (n : Int).toNat : Nat) : Int) = lim at *
  go_enter Tryd.func40, Tryd.ntmps40
  go_wp2_with fail
  refine HB.out.mono ?_; rintro e w1 ⟨rfl, rfl⟩
  go_wp2_with fail
  refine (HI.out _).mono ?_; rintro e w1 ⟨rfl, hO, hC⟩
  have HO := Lib.hid hO; have HC := Lib.hid hC
  clear hO hC HI
  go_wp2_with fail
  go_end0
  exact ⟨rfl, HO.out, HC.out⟩
end Go.Proofs.YtbgnaohjcfbaaaaDoor
