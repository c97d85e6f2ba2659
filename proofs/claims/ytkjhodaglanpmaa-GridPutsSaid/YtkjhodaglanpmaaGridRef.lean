/- The reference's table (layer 2). -/
import Derived.Test.YtkjhodaglanpmaaTurnPure
import Derived.Test.YtkjhodaglanpmaaGridRow
import Derived.Test.YtkjhodaglanpmaaAfter
namespace Go.Proofs.Ytkjhodaglanpmaa
open Go.RowKit
set_option linter.unusedVariables false
set_option linter.unusedSimpArgs false
attribute [local go_sem] World.cell?_alloc_lt

def gAt (xs : List Int) (i : Nat) : Int := xs.getD i 0
structure RefG (w : World) (r tb rows cols : Nat) (xs : List Int) : Prop where
  st : Blk w r 123 [.int .i64 rows, .int .i64 cols, .slice (some ⟨tb, 0, none⟩) xs.length xs.length]
  dt : Blk w tb 3 (xs.map (Value.int .i64))
  ln : xs.length = rows * cols
  r64 : rows ≤ 64
  c64 : cols ≤ 64
section
variable {w w' : World} {r tb rows cols : Nat} {xs : List Int}
theorem RefG.ch {S : List Nat} (h : RefG w r tb rows cols xs) (k : Ch S w w') (h1 : r ∉ S) (h2 : tb ∉ S) : RefG w' r tb rows cols xs := ⟨h.st.ch k h1, h.dt.ch k h2, h.ln, h.r64, h.c64⟩
theorem RefG.below (h : RefG w r tb rows cols xs) (k : Below w.heap.size w w') : RefG w' r tb rows cols xs := ⟨h.st.below k, h.dt.below k, h.ln, h.r64, h.c64⟩
theorem RefG.le (h : RefG w r tb rows cols xs) : xs.length ≤ 4096 := by
  rw [h.ln]
  exact Nat.le_trans (Nat.mul_le_mul h.r64 h.c64) (by decide)
end
set_option maxRecDepth 100000 in
theorem rg_new (r c : Nat) (w : World) (h : r ≤ 64) (h2 : c ≤ 64) : Calls Try.prog 56 #[.int .i64 r, .int .i64 c] w fun e w' => ∃ g b, e = .returned (.pointer (some ⟨g, 0, none⟩)) ∧ w.heap.size ≤ g ∧ w.heap.size ≤ b ∧ RefG w' g b r c (List.replicate (r * c) 0) ∧ Below w.heap.size w w' := by
  obtain ⟨i0, hi, hz0, hz1, hz2⟩ := info_parts info_int
  have hm : (r : Int) * (c : Int) = ((r * c : Nat) : Int) := by simp
  have hle : r * c ≤ 4096 := Nat.le_trans (Nat.mul_le_mul h h2) (by decide)
  generalize hn : r * c = n at *
  have HN := Lib.hid hn; clear hn
  have m0 : (0 : Int) ≤ (r : Int) * (c : Int) := by omega
  have m1 : (r : Int) * (c : Int) ≤ 4096 := by omega
  have HM := Lib.hid hm; clear hm
  go_enter Try.func56, Try.ntmps56
  go_wp2_with (at_make; refine wpList_make_full _ rfl _ _ 33 rfl w.heap.size 3 i0 (.int .i64 0) 1 Try.underlying33 hi hz0 hz1 _ _ _ _ n rfl rfl HM.out HM.out ?_ (by unfold maxLen; omega) (Nat.le_refl _) ?_)
  · rw [hz2]; omega
  intro w1 hown hgr
  have hb : Below w.heap.size w w1 := (Below.refl _ _).grown hgr (Nat.le_refl _) (fun k h => by cases h)
  have hd := Blk.of_own hown
  go_wp2
  go_ret
  refine ⟨w1.heap.size, w.heap.size, rfl, hb.size, Nat.le_refl _, ⟨?_, ?_, ?_, h, h2⟩, bel_alloc hb _⟩
  · rw [List.length_replicate]; exact Blk.new _ _ _
  · rw [List.map_replicate, ← made_one (.int .i64 0) rfl]; exact hd.alloc _
  · rw [List.length_replicate]; exact HN.out.symm
/-- Is there such a place? -/
def inG (rows cols : Nat) (r c : Int) : Bool := decide (0 ≤ r ∧ r < (rows : Int) ∧ 0 ≤ c ∧ c < (cols : Int))
theorem ret_b {a b : Bool} (h : a = b) : Ending.returned (.bool a) = .returned (.bool b) := by rw [h]
theorem rg_has (g b rows cols : Nat) (xs : List Int) (r c : Int) (w : World) (hR : RefG w g b rows cols xs) :
    Calls Try.prog 57 #[.pointer (some ⟨g, 0, none⟩), .int .i64 r, .int .i64 c] w fun e w' => e = .returned (.bool (inG rows cols r c)) ∧ w = w' := by
  have k0 := hR.st.at_ (i := 0) rfl
  have k1 := hR.st.at_ (i := 1) rfl
  clear hR
  rcases (by omega : r < 0 ∨ (0 ≤ r ∧ (rows : Int) ≤ r) ∨ (0 ≤ r ∧ r < (rows : Int) ∧ c < 0) ∨ (0 ≤ r ∧ r < (rows : Int) ∧ 0 ≤ c ∧ (cols : Int) ≤ c) ∨ (0 ≤ r ∧ r < (rows : Int) ∧ 0 ≤ c ∧ c < (cols : Int))) with h | ⟨h, h2⟩ | ⟨h, h2, h3⟩ | ⟨h, h2, h3, h4⟩ | ⟨h, h2, h3, h4⟩
  all_goals
    first
      | rw [show inG rows cols r c = true from decide_eq_true (by omega)]
      | rw [show inG rows cols r c = false from decide_eq_false (by omega)]
    go_enter Try.func57, Try.ntmps57
    go_wp2_with fail
    go_ret
    refine ⟨?_, rfl⟩
    first | rfl | exact ret_b (decide_eq_true (by omega)) | exact ret_b (decide_eq_false (by omega))
set_option maxRecDepth 100000 in
theorem rg_at (g b rows cols : Nat) (xs : List Int) (r c i : Nat) (w : World) (hR : RefG w g b rows cols xs) (hr : r < rows) (hc : c < cols) (hi : r * cols + c = i) :
    Calls Try.prog 60 #[.pointer (some ⟨g, 0, none⟩), .int .i64 r, .int .i64 c] w fun e w' => e = .returned (.int .i64 (gAt xs i)) ∧ ∃ n, w' = w.drewN n := by
  have k1 := hR.st.at_ (i := 1) rfl
  have k2 := hR.st.at_ (i := 2) rfl
  have hl : i < xs.length := by rw [hR.ln, ← hi]; exact place_lt hr hc
  have kv := hR.dt.at_ (map_at hl 0)
  unfold gAt
  generalize xs.getD i 0 = v at kv ⊢
  have hx := hR.le
  have hr64 := hR.r64
  have hc64 := hR.c64
  obtain ⟨p, hp⟩ : ∃ p, r * cols = p := ⟨_, rfl⟩
  have hm1 : (r : Int) * (cols : Int) = (p : Int) := by rw [← hp]; simp
  rw [hp] at hi
  have hpi : (p : Int) + (c : Int) = (i : Int) := by omega
  have v1 : IntKind.i64.wrap (p : Int) = p := i64_small (by omega) (by omega)
  have v2 : IntKind.i64.wrap (i : Int) = i := i64_small (by omega) (by omega)
  have i1 : (0 : Int) ≤ i := by omega
  have i2 : (i : Int) < xs.length := by omega
  clear hp hi hR
  go_enter Try.func60, Try.ntmps60
  go_wp2_with fail
  refine wp_region_quiet_lit (by kernel_rfl) (by kernel_rfl) ?_
  repeat (first | go_big_quiet_step (fail) | quiet_step (fail))
  refine wpQuiet_nil ?_; intro _ hw'; obtain ⟨nq, hw''⟩ := hw'; subst hw''
  go_wp2_with fail
  go_ret
  exact ⟨rfl, _, rfl⟩
set_option maxRecDepth 100000 in
theorem rg_put (g b rows cols : Nat) (xs : List Int) (r c i : Nat) (x : Int) (w : World) (hR : RefG w g b rows cols xs) (hr : r < rows) (hc : c < cols) (hi : r * cols + c = i) :
    Calls Try.prog 58 #[.pointer (some ⟨g, 0, none⟩), .int .i64 r, .int .i64 c, .int .i64 x] w fun e w' => e = .returned (.tuple #[]) ∧ RefG w' g b rows cols (xs.set i x) ∧ Ch [b] w w' := by
  have k1 := hR.st.at_ (i := 1) rfl
  have k2 := hR.st.at_ (i := 2) rfl
  have hl : i < xs.length := by rw [hR.ln, ← hi]; exact place_lt hr hc
  have kv := hR.dt.at_ (map_at hl 0)
  have kf := hR.dt.frozen i
  have hx := hR.le
  have hr64 := hR.r64
  have hc64 := hR.c64
  obtain ⟨p, hp⟩ : ∃ p, r * cols = p := ⟨_, rfl⟩
  have hm1 : (r : Int) * (cols : Int) = (p : Int) := by rw [← hp]; simp
  rw [hp] at hi
  have hpi : (p : Int) + (c : Int) = (i : Int) := by omega
  have v1 : IntKind.i64.wrap (p : Int) = p := i64_small (by omega) (by omega)
  have v2 : IntKind.i64.wrap (i : Int) = i := i64_small (by omega) (by omega)
  have i1 : (0 : Int) ≤ i := by omega
  have i2 : (i : Int) < xs.length := by omega
  have hR2 : RefG (w.setCell ⟨b, i, none⟩ (.int .i64 x)) g b rows cols (xs.set i x) := by
    refine ⟨?_, by rw [List.map_set]; exact hR.dt.set_ _ _, by rw [List.length_set]; exact hR.ln, hR.r64, hR.c64⟩
    rw [List.length_set]
    exact hR.st.far (p := ⟨b, i, none⟩) (hR.st.ne_ hR.dt (by decide)) _
  have HR2 := Lib.hid hR2; clear hR2
  clear hp hi hR
  go_enter Try.func58, Try.ntmps58
  go_wp2_with fail
  go_still_tail 14, (by kernel_rfl)
  change wpList _ _ _ _ _ w.drew
  go_wp2_with fail
  go_end0
  exact ⟨rfl, ⟨HR2.out.st, HR2.out.dt, HR2.out.ln, HR2.out.r64, HR2.out.c64⟩, ((Ch.refl _ _).set (by simp) _).drew⟩
/-- Is a table the same, turned? -/
def sameB (rows cols : Nat) (xs : List Int) : Bool := decide (rows = cols ∧ turnTo 0 xs rows cols xs.length = xs)
theorem same_ne (r tb rows cols : Nat) (xs : List Int) (w : World) (hR : RefG w r tb rows cols xs) (h : rows ≠ cols) :
    Calls Try.prog 59 #[.pointer (some ⟨r, 0, none⟩)] w fun e w' => e = .returned (.bool false) ∧ Below w.heap.size w w' := by
  have k0 := hR.st.at_ (i := 0) rfl
  have k1 := hR.st.at_ (i := 1) rfl
  have hn : ((rows : Int) != (cols : Int)) = true := by rw [bne_iff_ne]; omega
  clear hR h
  go_enter Try.func59, Try.ntmps59
  go_wp2_with fail
  refine wp_region_quiet_lit (by kernel_rfl) (by kernel_rfl) ?_
  repeat (first | go_big_quiet_step (fail) | quiet_step (fail))
  refine wpQuiet_nil ?_; intro _ hw'; obtain ⟨nq, hw''⟩ := hw'; subst hw''
  go_wp2_with fail
  go_ret
  exact ⟨rfl, bel_drewN (Below.refl _ _) _⟩
set_option maxRecDepth 100000 in
set_option maxHeartbeats 1000000 in
theorem same_sq (r tb m : Nat) (xs : List Int) (w : World) (hR : RefG w r tb m m xs) :
    Calls Try.prog 59 #[.pointer (some ⟨r, 0, none⟩)] w fun e w' => e = .returned (.bool (sameB m m xs)) ∧ Below w.heap.size w w' := by
  have k0 := hR.st.at_ (i := 0) rfl
  have k1 := hR.st.at_ (i := 1) rfl
  have hn : ((m : Int) != (m : Int)) = false := by simp
  have h64 := hR.r64
  have hts := turned_same (0 : Int) xs m hR.ln
  have HY : Hid ((∀ a c, a < m → c < m → gAt xs (a * m + c) = gAt xs (c * m + a)) → sameB m m xs = true) := Lib.hid (fun h => decide_eq_true ⟨rfl, hts.2 h⟩)
  have HNO : Hid (∀ a c, a < m → c < m → gAt xs (a * m + c) ≠ gAt xs (c * m + a) → sameB m m xs = false) := Lib.hid (fun a c ha hc hne => decide_eq_false (fun h => hne (hts.1 h.2 a c ha hc)))
  clear hts
  generalize sameB m m xs = sb at *
  go_enter Try.func59, Try.ntmps59
  go_wp2_with fail
  refine wp_region_quiet_lit (by kernel_rfl) (by kernel_rfl) ?_
  repeat (first | go_big_quiet_step (fail) | quiet_step (fail))
  refine wpQuiet_nil ?_; intro _ hw'; obtain ⟨nq, hw''⟩ := hw'; subst hw''
  go_wp2_with fail
  go_loopw [3] (fun vi wx => ∃ i : Nat, i ≤ m ∧ vi = .int .i64 i ∧ (∀ a c, a < i → c < m → gAt xs (a * m + c) = gAt xs (c * m + a)) ∧ RefG wx r tb m m xs ∧ Below w.heap.size w wx) (fun vi _ => m - (intOf vi).toNat)
  case atStart => exact ⟨0, by omega, rfl, fun a c h => by omega, hR.below (bel_drewN (Below.refl _ _) _), bel_drewN (Below.refl _ _) _⟩
  case round =>
    clear hR k0 k1
    obtain ⟨i, hi, rfl, hall, hR, hB⟩ := hrel
    have HALL := Lib.hid hall; clear hall
    have k0 := hR.st.at_ (i := 0) rfl
    have k1 := hR.st.at_ (i := 1) rfl
    by_cases him : i < m
    · go_wp2_with fail
      obtain ⟨wo, hwo⟩ : ∃ wo : World, wo = wr := ⟨_, rfl⟩
      have HWO := Lib.hid hwo; clear hwo
      go_loopw [4] (fun vj wx => ∃ j : Nat, j ≤ m ∧ vj = .int .i64 j ∧ (∀ c, c < j → gAt xs (i * m + c) = gAt xs (c * m + i)) ∧ RefG wx r tb m m xs ∧ Below w.heap.size w wx) (fun vj _ => m - (intOf vj).toNat)
      case atStart => exact ⟨0, by omega, rfl, fun c h => by omega, hR, hB⟩
      case round =>
        clear hR hB k0 k1
        obtain ⟨j, hj, rfl, hrow, hR, hB⟩ := hrel
        have HROW := Lib.hid hrow; clear hrow
        have k0 := hR.st.at_ (i := 0) rfl
        have k1 := hR.st.at_ (i := 1) rfl
        by_cases hjm : j < m
        · go_wp2_with fail
          refine (rg_at r tb m m xs i j _ _ hR him hjm rfl).mono ?_; rintro e w5 ⟨rfl, n5, hn5⟩
          have hR5 := hR.below (bel_quiet ⟨n5, hn5⟩)
          have hB5 := bel_trans hB (bel_quiet ⟨n5, hn5⟩)
          clear hn5 hR hB k0 k1
          go_wp2_with fail
          refine (rg_at r tb m m xs j i _ _ hR5 hjm him rfl).mono ?_; rintro e w6 ⟨rfl, n6, hn6⟩
          have hR6 := hR5.below (bel_quiet ⟨n6, hn6⟩)
          have hB6 := bel_trans hB5 (bel_quiet ⟨n6, hn6⟩)
          clear hn6 hR5 hB5
          by_cases he : gAt xs (i * m + j) = gAt xs (j * m + i)
          · have hq : (gAt xs (i * m + j) != gAt xs (j * m + i)) = false := by simp [he]
            have HE := Lib.hid he; clear he
            generalize hu : gAt xs (i * m + j) = u at hq HE
            generalize hv : gAt xs (j * m + i) = v at hq HE
            have HU := Lib.hid hu; have HV := Lib.hid hv; clear hu hv
            go_wp2
            go_roundw
            case rel => exact ⟨j + 1, by omega, by go_num, fun c hc => by
              rcases (by omega : c < j ∨ c = j) with h | h
              · exact HROW.out c h
              · subst h; rw [HU.out, HV.out]; exact HE.out, hR6, hB6⟩
            case measure => simp [intOf]; omega
          · have hq : (gAt xs (i * m + j) != gAt xs (j * m + i)) = true := by simp [he]
            have hf := HNO.out i j him hjm he
            subst hf
            clear he
            generalize gAt xs (i * m + j) = u at *
            generalize gAt xs (j * m + i) = v at *
            go_wp2
            go_ret
            exact ⟨rfl, hB6⟩
        · obtain rfl : j = m := by omega
          go_wp2
          go_roundw
          case rel => exact ⟨i + 1, by omega, by go_num, fun a c ha hc => by
            rcases (by omega : a < i ∨ a = i) with h | h
            · exact HALL.out a c h hc
            · subst h; exact HROW.out c hc, hR, hB⟩
          case measure => simp [intOf]; omega
    · obtain rfl : i = m := by omega
      have hf := HY.out HALL.out
      subst hf
      go_wp2
      go_ret
      exact ⟨rfl, hB⟩
theorem same_any (r tb rows cols : Nat) (xs : List Int) (w : World) (hR : RefG w r tb rows cols xs) :
    Calls Try.prog 59 #[.pointer (some ⟨r, 0, none⟩)] w fun e w' => e = .returned (.bool (sameB rows cols xs)) ∧ Below w.heap.size w w' := by
  by_cases h : rows = cols
  · subst h; exact same_sq r tb rows xs w hR
  · have e : sameB rows cols xs = false := decide_eq_false (fun h2 => h h2.1)
    rw [e]
    exact same_ne r tb rows cols xs w hR h
theorem gi_Row_nil (r : Int) (w : World) : Calls Try.prog 38 #[.pointer none, .int .i64 r] w fun e w' => e = .returned (.slice none 0 0) ∧ w = w' := by
  go_enter Try.func38, Try.ntmps38
  go_wp2
  go_ret
  exact ⟨rfl, rfl⟩
theorem none02_any (w : World) : Calls Try.prog 50 #[] w fun e w' => e = .returned (.pointer none) ∧ w = w' := by
  go_enter Try.func50, Try.ntmps50
  go_wp2
  go_ret
  exact ⟨rfl, rfl⟩
end Go.Proofs.Ytkjhodaglanpmaa
