/- The law GridRows. -/
import Derived.Test.YtkjhodaglanpmaaGridTexts
import Derived.Test.YtkjhodaglanpmaaGridRow
import Derived.Test.YtkjhodaglanpmaaInRows
import Derived.Laws.OwnMore
namespace Go.Proofs.Ytkjhodaglanpmaa
open Go.RowKit
set_option linter.unusedVariables false
set_option linter.unusedSimpArgs false
attribute [local go_sem] World.cell?_alloc_lt

def rval (L : Nat → Nat) (Z : Nat → List Int) (i j : Nat) : Int := if j < L i then (Z i).getD j 0 else 0
/-- A table of n rows of four, filled up to place (r, c). -/
def gr (L : Nat → Nat) (Z : Nat → List Int) (n r c : Nat) : List Int := (List.range (n * 4)).map fun j => if j / 4 < r ∨ (j / 4 = r ∧ j % 4 < c) then rval L Z (j / 4) (j % 4) else 0
section
variable {L : Nat → Nat} {Z : Nat → List Int} {n r c : Nat}
theorem gr_len : (gr L Z n r c).length = n * 4 := by simp [gr]
theorem gr_zero : gr L Z n 0 0 = List.replicate (n * 4) 0 := by
  apply List.ext_getElem
  · simp [gr]
  · intro i h1 h2; simp [gr]
theorem gr_succ (hr : r < n) (hc : c < 4) (hl : c < L r) : (gr L Z n r c).set (r * 4 + c) ((Z r).getD c 0) = gr L Z n r (c + 1) := by
  apply List.ext_getElem
  · simp [gr]
  · intro i h1 h2
    rw [List.getElem_set]
    by_cases e : r * 4 + c = i
    · subst e
      have e1 : (r * 4 + c) / 4 = r := by omega
      have e2 : (r * 4 + c) % 4 = c := by omega
      simp only [gr, List.getElem_map, List.getElem_range]
      rw [e1, e2]
      simp [rval, hl]
    · rw [if_neg e]
      simp only [gr, List.getElem_map, List.getElem_range]
      by_cases h : i / 4 < r ∨ (i / 4 = r ∧ i % 4 < c)
      · rw [if_pos h, if_pos (by omega)]
      · rw [if_neg h, if_neg (by omega)]
theorem gr_row (h : 4 ≤ c ∨ L r ≤ c) : gr L Z n r c = gr L Z n (r + 1) 0 := by
  apply List.ext_getElem
  · simp [gr]
  · intro i h1 h2
    simp only [gr, List.getElem_map, List.getElem_range]
    by_cases h3 : i / 4 < r ∨ (i / 4 = r ∧ i % 4 < c)
    · rw [if_pos h3, if_pos (by omega)]
    · rw [if_neg h3]
      by_cases h4 : i / 4 < r + 1 ∨ (i / 4 = r + 1 ∧ i % 4 < 0)
      · rw [if_pos h4, rval, if_neg]
        have e : i / 4 = r := by omega
        rw [e]
        omega
      · rw [if_neg h4]
theorem gr_at (hr : r < n) (hc : c < 4) : (((gr L Z n n 0).drop (r * 4)).take 4)[c]? = some (rval L Z r c) := by
  rw [List.getElem?_take, if_pos hc, List.getElem?_drop]
  have hlt : r * 4 + c < n * 4 := by omega
  simp only [gr, List.getElem?_map]
  rw [List.getElem?_range hlt]
  have e1 : (r * 4 + c) / 4 = r := by omega
  have e2 : (r * 4 + c) % 4 = c := by omega
  simp only [Option.map_some]
  rw [e1, e2, if_pos (by omega)]
end
theorem idx_row {A : Option Addr} {b off len cap i : Nat} (ha : A = some ⟨b, off, none⟩) (hi : i < len) (w : World) : (Instr.indexAt 60 (.slice A len cap) (.int .i64 (i : Int))).run Try.prog w = .ok (.pointer (some ⟨b, off + i, none⟩)) w := by
  subst ha
  simp [go_sem, hi]
set_option maxRecDepth 100000 in
theorem open_rows {H : Type} {enc : TypeId × Value → H} {W : World} {base : Nat} {held : Bool} {r : Reach} {b0 : Nat} {v : Value} {d : DataW H} {p : List MemPlace} (hv : Value.okWide Try.prog W r b0 60 v) (h : DataW.Trod enc Try.prog W base (fun _ => true) held 60 v d p) :
    ∃ a len cap A L C Z, v = .slice a len cap ∧ InRows W a len A L C Z := by
  obtain ⟨a, len, cap, rfl⟩ := WideShapes.okWide_slice Try.underlying60 hv
  obtain ⟨A, L, C, Z, h⟩ := open_inRows Try.underlying60 Try.underlying33 Try.underlying3 (by kernel_rfl) (by kernel_rfl) h
  exact ⟨a, len, cap, A, L, C, Z, rfl, h⟩
set_option maxRecDepth 100000 in
set_option maxHeartbeats 2000000 in
theorem gridRows_walk (w0 : World) (a : Option Addr) (len cap : Nat) (A : Nat → Option Addr) (L C : Nat → Nat) (Z : Nat → List Int) (hs : InRows w0 a len A L C Z) :
    Calls Try.prog 8 #[.slice a len cap] w0 fun e w' => e = .returned (.bool true) ∧ Below w0.heap.size w0 w' := by
  have hmx := hs.mx
  have HSS := Lib.hid hs; clear hs
  by_cases hl : len ≤ 10
  · have hl2 : (len : Int) ≤ 10 := by omega
    go_enter Try.func8, Try.ntmps8
    go_wp2_with fail
    refine (gi_new len 4 w0 (by omega) (by omega)).mono ?_; rintro e w1 ⟨g, b, rfl, hg, hb, hG, hB⟩
    rw [← gr_zero (L := L) (Z := Z)] at hG
    go_wp2_with fail
    refine (grids_any w1).mono ?_; rintro e w2 ⟨rfl, hc⟩
    have hB := bel_trans hB hc
    have hG := hG.below hc
    clear hc
    go_wp2_with fail
    go_loopw [6] (fun vr wx => ∃ r : Nat, r ≤ len ∧ vr = .int .i64 r ∧ GridI wx g b len 4 (gr L Z len r 0) ∧ Below w0.heap.size w0 wx) (fun i _ => len - (intOf i).toNat)
    case atStart => exact ⟨0, by omega, rfl, hG, hB⟩
    case round =>
      clear hG hB
      obtain ⟨r, hr, rfl, hG, hB⟩ := hrel
      by_cases hrn : r < len
      · obtain ⟨bx, off, ha, hbx, hcell⟩ := HSS.out.at_ (by omega)
        obtain ⟨hcr, hin⟩ := hcell r (by omega)
        have hri := fun w => idx_row (cap := cap) ha (show r < len by omega) w
        have HIN := Lib.hid hin
        clear ha hcell hin
        go_wp2_with fail
        go_loopw [7] (fun vc wx => ∃ c : Nat, c ≤ 4 ∧ vc = .int .i64 c ∧ GridI wx g b len 4 (gr L Z len r c) ∧ Below w0.heap.size w0 wx) (fun i _ => 4 - (intOf i).toNat)
        case atStart => exact ⟨0, by omega, rfl, hG, hB⟩
        case round =>
          clear hG hB
          obtain ⟨c, hc, rfl, hG, hB⟩ := hrel
          have kr := (hB.cell (p := ⟨bx, off + r, none⟩) hbx).trans hcr
          rcases (by omega : (c < 4 ∧ c < L r) ∨ (c < 4 ∧ L r ≤ c) ∨ 4 ≤ c) with ⟨hc4, hcl⟩ | ⟨hc4, hcl⟩ | hc4
          · obtain ⟨b2, off2, ha2, hbx2, hcell2⟩ := HIN.out.at_ (by omega)
            have hzi := fun w => idx_int (cap := C r) ha2 hcl w
            have kz := (hB.cell (p := ⟨b2, off2 + c, none⟩) hbx2).trans (hcell2 c hcl)
            have hsu := gr_succ (L := L) (Z := Z) (n := len) hrn hc4 hcl
            have HSU := Lib.hid hsu
            clear ha2 hcell2 hsu
            generalize (Z r).getD c 0 = z at *
            go_wp2_with fail
            refine (gi_Put_yes g b len 4 _ r c _ z _ hG hrn hc4 rfl).mono ?_; rintro e w3 ⟨rfl, hG, hch⟩
            rw [HSU.out] at hG
            have hB := bel_ch hB hch (by simp; omega)
            clear hch
            go_wp2_with fail
            go_roundw
            case rel => exact ⟨c + 1, by omega, by go_num, hG, hB⟩
            case measure => simp [intOf]; omega
          · have hro := gr_row (L := L) (Z := Z) (n := len) (r := r) (c := c) (Or.inr hcl)
            rw [hro] at hG
            clear hro
            go_wp2_with fail
            go_roundw
            case rel => exact ⟨r + 1, by omega, by go_num, hG, hB⟩
            case measure => simp [intOf]; omega
          · have hro := gr_row (L := L) (Z := Z) (n := len) (r := r) (c := c) (Or.inl hc4)
            rw [hro] at hG
            clear hro
            go_wp2_with fail
            go_roundw
            case rel => exact ⟨r + 1, by omega, by go_num, hG, hB⟩
            case measure => simp [intOf]; omega
      · obtain rfl : len = r := by omega
        go_wp2_with fail
        go_loopw [8] (fun vr wx => ∃ r : Nat, r ≤ len ∧ vr = .int .i64 r ∧ GridI wx g b len 4 (gr L Z len len 0) ∧ Below w0.heap.size w0 wx) (fun i _ => len - (intOf i).toNat)
        case atStart => exact ⟨0, by omega, rfl, hG, hB⟩
        case round =>
          clear hG hB
          obtain ⟨r, hr, rfl, hG, hB⟩ := hrel
          by_cases hrn : r < len
          · obtain ⟨bx, off, ha, hbx, hcell⟩ := HSS.out.at_ (by omega)
            obtain ⟨hcr, hin⟩ := hcell r (by omega)
            have hri := fun w => idx_row (cap := cap) ha (show r < len by omega) w
            have HIN := Lib.hid hin
            clear ha hcell hin
            go_wp2_with fail
            refine (gi_Row_yes g b len 4 _ r _ hG hrn).mono ?_; rintro e w4 ⟨h1, c1, rfl, hown, hb4⟩
            have hbase := hG.st.lt
            have hbase2 := hG.dt.lt
            have hG := hG.below hb4
            have hw0b := hB.size
            have hB := bel_trans hB hb4
            have hlen : ((((gr L Z len len 0).drop (r * 4)).take 4)).length = 4 := by have := own_len hown; simpa using this
            generalize ((gr L Z len len 0).drop (r * 4)).take 4 = ys0 at hown hlen
            obtain ⟨base, hbs⟩ : ∃ base, wr.heap.size = base := ⟨_, rfl⟩
            rw [hbs] at hown hbase hbase2 hw0b
            clear hbs hb4
            go_wp2_with fail
            go_loopw [10] (fun vc wx => ∃ (c : Nat) (ys : List Int), c ≤ 4 ∧ vc = .int .i64 c ∧ ys.length = 4 ∧ wx.ownsRow base 3 1 (.slice (some ⟨h1, 0, none⟩) 4 c1) 4 (ys.map (Value.int .i64)) ∧ GridI wx g b len 4 (gr L Z len len 0) ∧ Below w0.heap.size w0 wx) (fun i _ => 4 - (intOf i).toNat)
            case atStart => exact ⟨0, ys0, by omega, rfl, hlen, hown, hG, hB⟩
            case round =>
              clear hG hB hown hlen
              obtain ⟨c, ys, hc, rfl, hlen, hown, hG, hB⟩ := hrel
              by_cases hc4 : c < 4
              · obtain ⟨g2, hA, hcq, hg2, hbq, hfz⟩ := own_at hown (map_at (f := Value.int .i64) (show c < ys.length by omega) 0)
                have hA : h1 = g2 := by injection hA with hA; injection hA
                subst hA
                have hst := (hown.stored c (.int .i64 (wrap64 (ys.getD c 0 + 1))))
                rw [← List.map_set] at hst
                have HST := Lib.hid hst
                have hG2 : GridI (wr.setCell ⟨h1, c, none⟩ (.int .i64 (wrap64 (ys.getD c 0 + 1)))) g b len 4 (gr L Z len len 0) := hG.ch ((Ch.refl [h1] wr).set (by simp) _) (by simp; omega) (by simp; omega)
                have hB2 := bel_set hB (p := ⟨h1, c, none⟩) (by simp; omega) (.int .i64 (wrap64 (ys.getD c 0 + 1)))
                have HG2 := Lib.hid hG2; have HB2 := Lib.hid hB2
                clear hst hown hG2 hB2
                generalize hy : ys.getD c 0 = y at *
                go_wp2_with fail
                go_roundw
                case rel => exact ⟨c + 1, ys.set c (wrap64 (y + 1)), by omega, by go_num, by simp [hlen], HST.out.1, HG2.out, HB2.out⟩
                case measure => simp [intOf]; omega
              · obtain rfl : 4 = c := by omega
                clear hown hlen
                go_wp2_with fail
                refine (gi_Row_yes g b len 4 _ r _ hG hrn).mono ?_; rintro e w5 ⟨h2, c2, rfl, hown, hb5⟩
                have hG := hG.below hb5
                have hB := bel_trans hB hb5
                have hat : ∀ j, j < 4 → (((gr L Z len len 0).drop (r * 4)).take 4)[j]? = some (rval L Z r j) := fun j hj => gr_at hrn hj
                have HAT := Lib.hid hat
                clear hb5 hat
                generalize ((gr L Z len len 0).drop (r * 4)).take 4 = ys1 at hown HAT
                go_wp2_with fail
                go_loopw [12] (fun vc wx => ∃ c : Nat, c ≤ 4 ∧ vc = .int .i64 c ∧ wx = w5) (fun i _ => 4 - (intOf i).toNat)
                case atStart => exact ⟨0, by omega, rfl, rfl⟩
                case round =>
                  obtain ⟨c, hc, rfl, rfl⟩ := hrel
                  by_cases hc4 : c < 4
                  · have hcv : (ys1.map (Value.int .i64))[c]? = some (.int .i64 (rval L Z r c)) := by rw [List.getElem?_map, HAT.out c hc4]; rfl
                    obtain ⟨g2, hA, hcq, _⟩ := own_at hown hcv
                    have hA : h2 = g2 := by injection hA with hA; injection hA
                    subst hA
                    have kr := (hB.cell (p := ⟨bx, off + r, none⟩) hbx).trans hcr
                    by_cases hcl : c < L r
                    · obtain ⟨b2, off2, ha2, hbx2, hcell2⟩ := HIN.out.at_ (by omega)
                      have hzi := fun w => idx_int (cap := C r) ha2 hcl w
                      have kz := (hB.cell (p := ⟨b2, off2 + c, none⟩) hbx2).trans (hcell2 c hcl)
                      have erv : rval L Z r c = (Z r).getD c 0 := by unfold rval; rw [if_pos hcl]
                      rw [erv] at hcq
                      clear ha2 hcell2 erv hcv
                      generalize (Z r).getD c 0 = z at *
                      go_wp2_with fail
                      go_roundw
                      case rel => exact ⟨c + 1, by omega, by go_num, by trivial⟩
                      case measure => simp [intOf]; omega
                    · have erv : rval L Z r c = 0 := by unfold rval; rw [if_neg hcl]
                      rw [erv] at hcq
                      clear erv hcv
                      go_wp2_with fail
                      go_roundw
                      case rel => exact ⟨c + 1, by omega, by go_num, by trivial⟩
                      case measure => simp [intOf]; omega
                  · obtain rfl : 4 = c := by omega
                    go_wp2_with fail
                    go_roundw
                    case rel => exact ⟨r + 1, by omega, by go_num, hG, hB⟩
                    case measure => simp [intOf]; omega
          · obtain rfl : len = r := by omega
            go_wp2_with fail
            go_ret
            exact ⟨rfl, hB⟩
  · have hl2 : (10 : Int) < (len : Int) := by omega
    obtain ⟨n, hn⟩ : ∃ n : Nat, n = 10 := ⟨10, rfl⟩
    have hn10 : Value.int IntKind.i64 10 = Value.int IntKind.i64 (n : Int) := by rw [hn]; rfl
    have hn1 : n ≤ 10 := by omega
    have hn2 : n < len := by omega
    have HN10 := Lib.hid hn10; clear hn10 hn
    go_enter Try.func8, Try.ntmps8
    go_wp2_with fail
    rw [HN10.out]
    refine (gi_new n 4 w0 (by omega) (by omega)).mono ?_; rintro e w1 ⟨g, b, rfl, hg, hb, hG, hB⟩
    rw [← gr_zero (L := L) (Z := Z)] at hG
    go_wp2_with fail
    refine (grids_any w1).mono ?_; rintro e w2 ⟨rfl, hc⟩
    have hB := bel_trans hB hc
    have hG := hG.below hc
    clear hc
    go_wp2_with fail
    go_loopw [6] (fun vr wx => ∃ r : Nat, r ≤ n ∧ vr = .int .i64 r ∧ GridI wx g b n 4 (gr L Z n r 0) ∧ Below w0.heap.size w0 wx) (fun i _ => n - (intOf i).toNat)
    case atStart => exact ⟨0, by omega, rfl, hG, hB⟩
    case round =>
      clear hG hB
      obtain ⟨r, hr, rfl, hG, hB⟩ := hrel
      by_cases hrn : r < n
      · obtain ⟨bx, off, ha, hbx, hcell⟩ := HSS.out.at_ (by omega)
        obtain ⟨hcr, hin⟩ := hcell r (by omega)
        have hri := fun w => idx_row (cap := cap) ha (show r < len by omega) w
        have HIN := Lib.hid hin
        clear ha hcell hin
        go_wp2_with fail
        go_loopw [7] (fun vc wx => ∃ c : Nat, c ≤ 4 ∧ vc = .int .i64 c ∧ GridI wx g b n 4 (gr L Z n r c) ∧ Below w0.heap.size w0 wx) (fun i _ => 4 - (intOf i).toNat)
        case atStart => exact ⟨0, by omega, rfl, hG, hB⟩
        case round =>
          clear hG hB
          obtain ⟨c, hc, rfl, hG, hB⟩ := hrel
          have kr := (hB.cell (p := ⟨bx, off + r, none⟩) hbx).trans hcr
          rcases (by omega : (c < 4 ∧ c < L r) ∨ (c < 4 ∧ L r ≤ c) ∨ 4 ≤ c) with ⟨hc4, hcl⟩ | ⟨hc4, hcl⟩ | hc4
          · obtain ⟨b2, off2, ha2, hbx2, hcell2⟩ := HIN.out.at_ (by omega)
            have hzi := fun w => idx_int (cap := C r) ha2 hcl w
            have kz := (hB.cell (p := ⟨b2, off2 + c, none⟩) hbx2).trans (hcell2 c hcl)
            have hsu := gr_succ (L := L) (Z := Z) (n := n) hrn hc4 hcl
            have HSU := Lib.hid hsu
            clear ha2 hcell2 hsu
            generalize (Z r).getD c 0 = z at *
            go_wp2_with fail
            refine (gi_Put_yes g b n 4 _ r c _ z _ hG hrn hc4 rfl).mono ?_; rintro e w3 ⟨rfl, hG, hch⟩
            rw [HSU.out] at hG
            have hB := bel_ch hB hch (by simp; omega)
            clear hch
            go_wp2_with fail
            go_roundw
            case rel => exact ⟨c + 1, by omega, by go_num, hG, hB⟩
            case measure => simp [intOf]; omega
          · have hro := gr_row (L := L) (Z := Z) (n := n) (r := r) (c := c) (Or.inr hcl)
            rw [hro] at hG
            clear hro
            go_wp2_with fail
            go_roundw
            case rel => exact ⟨r + 1, by omega, by go_num, hG, hB⟩
            case measure => simp [intOf]; omega
          · have hro := gr_row (L := L) (Z := Z) (n := n) (r := r) (c := c) (Or.inl hc4)
            rw [hro] at hG
            clear hro
            go_wp2_with fail
            go_roundw
            case rel => exact ⟨r + 1, by omega, by go_num, hG, hB⟩
            case measure => simp [intOf]; omega
      · obtain rfl : n = r := by omega
        go_wp2_with fail
        go_loopw [8] (fun vr wx => ∃ r : Nat, r ≤ n ∧ vr = .int .i64 r ∧ GridI wx g b n 4 (gr L Z n n 0) ∧ Below w0.heap.size w0 wx) (fun i _ => n - (intOf i).toNat)
        case atStart => exact ⟨0, by omega, rfl, hG, hB⟩
        case round =>
          clear hG hB
          obtain ⟨r, hr, rfl, hG, hB⟩ := hrel
          by_cases hrn : r < n
          · obtain ⟨bx, off, ha, hbx, hcell⟩ := HSS.out.at_ (by omega)
            obtain ⟨hcr, hin⟩ := hcell r (by omega)
            have hri := fun w => idx_row (cap := cap) ha (show r < len by omega) w
            have HIN := Lib.hid hin
            clear ha hcell hin
            go_wp2_with fail
            refine (gi_Row_yes g b n 4 _ r _ hG hrn).mono ?_; rintro e w4 ⟨h1, c1, rfl, hown, hb4⟩
            have hbase := hG.st.lt
            have hbase2 := hG.dt.lt
            have hG := hG.below hb4
            have hw0b := hB.size
            have hB := bel_trans hB hb4
            have hlen : ((((gr L Z n n 0).drop (r * 4)).take 4)).length = 4 := by have := own_len hown; simpa using this
            generalize ((gr L Z n n 0).drop (r * 4)).take 4 = ys0 at hown hlen
            obtain ⟨base, hbs⟩ : ∃ base, wr.heap.size = base := ⟨_, rfl⟩
            rw [hbs] at hown hbase hbase2 hw0b
            clear hbs hb4
            go_wp2_with fail
            go_loopw [10] (fun vc wx => ∃ (c : Nat) (ys : List Int), c ≤ 4 ∧ vc = .int .i64 c ∧ ys.length = 4 ∧ wx.ownsRow base 3 1 (.slice (some ⟨h1, 0, none⟩) 4 c1) 4 (ys.map (Value.int .i64)) ∧ GridI wx g b n 4 (gr L Z n n 0) ∧ Below w0.heap.size w0 wx) (fun i _ => 4 - (intOf i).toNat)
            case atStart => exact ⟨0, ys0, by omega, rfl, hlen, hown, hG, hB⟩
            case round =>
              clear hG hB hown hlen
              obtain ⟨c, ys, hc, rfl, hlen, hown, hG, hB⟩ := hrel
              by_cases hc4 : c < 4
              · obtain ⟨g2, hA, hcq, hg2, hbq, hfz⟩ := own_at hown (map_at (f := Value.int .i64) (show c < ys.length by omega) 0)
                have hA : h1 = g2 := by injection hA with hA; injection hA
                subst hA
                have hst := (hown.stored c (.int .i64 (wrap64 (ys.getD c 0 + 1))))
                rw [← List.map_set] at hst
                have HST := Lib.hid hst
                have hG2 : GridI (wr.setCell ⟨h1, c, none⟩ (.int .i64 (wrap64 (ys.getD c 0 + 1)))) g b n 4 (gr L Z n n 0) := hG.ch ((Ch.refl [h1] wr).set (by simp) _) (by simp; omega) (by simp; omega)
                have hB2 := bel_set hB (p := ⟨h1, c, none⟩) (by simp; omega) (.int .i64 (wrap64 (ys.getD c 0 + 1)))
                have HG2 := Lib.hid hG2; have HB2 := Lib.hid hB2
                clear hst hown hG2 hB2
                generalize hy : ys.getD c 0 = y at *
                go_wp2_with fail
                go_roundw
                case rel => exact ⟨c + 1, ys.set c (wrap64 (y + 1)), by omega, by go_num, by simp [hlen], HST.out.1, HG2.out, HB2.out⟩
                case measure => simp [intOf]; omega
              · obtain rfl : 4 = c := by omega
                clear hown hlen
                go_wp2_with fail
                refine (gi_Row_yes g b n 4 _ r _ hG hrn).mono ?_; rintro e w5 ⟨h2, c2, rfl, hown, hb5⟩
                have hG := hG.below hb5
                have hB := bel_trans hB hb5
                have hat : ∀ j, j < 4 → (((gr L Z n n 0).drop (r * 4)).take 4)[j]? = some (rval L Z r j) := fun j hj => gr_at hrn hj
                have HAT := Lib.hid hat
                clear hb5 hat
                generalize ((gr L Z n n 0).drop (r * 4)).take 4 = ys1 at hown HAT
                go_wp2_with fail
                go_loopw [12] (fun vc wx => ∃ c : Nat, c ≤ 4 ∧ vc = .int .i64 c ∧ wx = w5) (fun i _ => 4 - (intOf i).toNat)
                case atStart => exact ⟨0, by omega, rfl, rfl⟩
                case round =>
                  obtain ⟨c, hc, rfl, rfl⟩ := hrel
                  by_cases hc4 : c < 4
                  · have hcv : (ys1.map (Value.int .i64))[c]? = some (.int .i64 (rval L Z r c)) := by rw [List.getElem?_map, HAT.out c hc4]; rfl
                    obtain ⟨g2, hA, hcq, _⟩ := own_at hown hcv
                    have hA : h2 = g2 := by injection hA with hA; injection hA
                    subst hA
                    have kr := (hB.cell (p := ⟨bx, off + r, none⟩) hbx).trans hcr
                    by_cases hcl : c < L r
                    · obtain ⟨b2, off2, ha2, hbx2, hcell2⟩ := HIN.out.at_ (by omega)
                      have hzi := fun w => idx_int (cap := C r) ha2 hcl w
                      have kz := (hB.cell (p := ⟨b2, off2 + c, none⟩) hbx2).trans (hcell2 c hcl)
                      have erv : rval L Z r c = (Z r).getD c 0 := by unfold rval; rw [if_pos hcl]
                      rw [erv] at hcq
                      clear ha2 hcell2 erv hcv
                      generalize (Z r).getD c 0 = z at *
                      go_wp2_with fail
                      go_roundw
                      case rel => exact ⟨c + 1, by omega, by go_num, by trivial⟩
                      case measure => simp [intOf]; omega
                    · have erv : rval L Z r c = 0 := by unfold rval; rw [if_neg hcl]
                      rw [erv] at hcq
                      clear erv hcv
                      go_wp2_with fail
                      go_roundw
                      case rel => exact ⟨c + 1, by omega, by go_num, by trivial⟩
                      case measure => simp [intOf]; omega
                  · obtain rfl : 4 = c := by omega
                    go_wp2_with fail
                    go_roundw
                    case rel => exact ⟨r + 1, by omega, by go_num, hG, hB⟩
                    case measure => simp [intOf]; omega
          · obtain rfl : n = r := by omega
            go_wp2_with fail
            go_ret
            exact ⟨rfl, hB⟩
end Go.Proofs.Ytkjhodaglanpmaa
