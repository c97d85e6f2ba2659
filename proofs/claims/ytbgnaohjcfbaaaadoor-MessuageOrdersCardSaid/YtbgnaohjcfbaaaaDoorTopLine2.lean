/- Nodes in a row are a machine; the orders of their nodes (plain). -/
import Derived.Test.YtbgnaohjcfbaaaaDoorTopLine
namespace Go.Proofs.YtbgnaohjcfbaaaaDoor
open Go.RowKit
set_option linter.unusedVariables false
set_option linter.unusedSimpArgs false

theorem dvL_map (D : List RowV) (a c : Nat) : dv D a c = (((D.map RowV.zs)[a]?).map (fun z => z.getD c 0)).getD 0 := by
  unfold dv
  rw [List.getElem?_map, Option.map_map]
  rfl
theorem sqBL_map (m : Nat) (D : List RowV) : sqB m D = (decide ((D.map RowV.zs).length = m) && (D.map RowV.zs).all (fun z => decide (z.length = m))) := by
  unfold sqB
  rw [List.length_map, List.all_map]
  rfl
theorem chkL_same {t s : TopoV} (h1 : t.N = s.N) (h2 : t.F = s.F) (h3 : t.cs = s.cs) (h4 : t.ds.map RowV.zs = s.ds.map RowV.zs) : chkT t = chkT s := by
  unfold chkT cntB matB symB okB
  rw [h1, h2, h3]
  simp only [sqBL_map, dvL_map, h4]
def tLn (n : Nat) (F : Int) : TopoV := ⟨(n : Int), F, none, 0, idL n, none, 0, (rowsLn n n).map fun z => ⟨none, 0, z⟩⟩
theorem chk_tLn16 : ∀ n : Fin 8, chkT (tLn (n.val + 1) 16) = 0 := by decide +kernel
theorem chk_tLn8 : ∀ n : Fin 8, chkT (tLn (n.val + 1) 8) = 0 := by decide +kernel
theorem chk_line {t : TopoV} {n : Nat} (h1 : 1 ≤ n) (h8 : n ≤ 8) (hN : t.N = (n : Int)) (hF : t.F = 16 ∨ t.F = 8) (hc : t.cs = idL n) (hd : t.ds.map RowV.zs = rowsLn n n) : chkT t = 0 := by
  obtain ⟨m, rfl⟩ : ∃ m, n = m + 1 := ⟨n - 1, by omega⟩
  have e : ((tLn (m + 1) t.F).ds.map RowV.zs) = rowsLn (m + 1) (m + 1) := by unfold tLn; simp [Function.comp_def]
  rw [chkL_same (s := tLn (m + 1) t.F) hN rfl hc (hd.trans e.symm)]
  rcases hF with h | h
  · rw [h]; exact chk_tLn16 ⟨m, by omega⟩
  · rw [h]; exact chk_tLn8 ⟨m, by omega⟩
theorem row_line {t : TopoV} {n k : Nat} (hk : k < n) (hd : t.ds.map RowV.zs = rowsLn n n) : ∃ r, t.ds[k]? = some r ∧ r.zs = rowLn n k := by
  have h := congrArg (fun l => l[k]?) hd
  simp only [List.getElem?_map] at h
  unfold rowsLn at h
  rw [List.getElem?_map, List.getElem?_range hk] at h
  cases hx : t.ds[k]? with
  | none => rw [hx] at h; cases h
  | some r =>
    rw [hx] at h
    injection h with h
    exact ⟨r, rfl, h⟩
theorem len_line {t : TopoV} {n : Nat} (hd : t.ds.map RowV.zs = rowsLn n n) : t.ds.length = n := by
  have := congrArg List.length hd
  rw [List.length_map] at this
  rw [this]; simp [rowsLn]
/-- Itself, and by turns those on both sides. -/
def stepW (n k d : Nat) : List Int := (if d ≤ k then [(k : Int) - (d : Int)] else []) ++ (if 0 < d ∧ k + d < n then [(k : Int) + (d : Int)] else [])
def wantW (n k d : Nat) : List Int := (List.range d).flatMap (stepW n k)
theorem wantW_succ (n k d : Nat) : wantW n k (d + 1) = wantW n k d ++ stepW n k d := by unfold wantW; rw [List.range_succ, List.flatMap_append]; simp
theorem wantW_len (n k : Nat) : ∀ d, (wantW n k d).length ≤ 2 * d
  | 0 => by simp [wantW]
  | d + 1 => by
    have := wantW_len n k d
    rw [wantW_succ, List.length_append]
    have : (stepW n k d).length ≤ 2 := by unfold stepW; split <;> split <;> simp
    omega
theorem order_line8 : ∀ n k : Fin 9, k < n → ordL (rowLn n.val k.val) = wantW n.val k.val n.val := by decide +kernel
theorem order_line {n k : Nat} (hk : k < n) (h8 : n ≤ 8) : ordL (rowLn n k) = wantW n k n := order_line8 ⟨n, by omega⟩ ⟨k, by omega⟩ hk
end Go.Proofs.YtbgnaohjcfbaaaaDoor
