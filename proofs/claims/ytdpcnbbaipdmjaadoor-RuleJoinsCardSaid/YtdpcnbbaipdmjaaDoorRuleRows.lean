/- Rows of names, rows of policies; what Join answers: plain laws. -/
import Derived.Test.YtdpcnbbaipdmjaaDoorRuleSame
import Derived.Test.YtdpcnbbaipdmjaaDoorInRecs
import Derived.Test.YtdpcnbbaipdmjaaDoorBuilder
namespace Go.Proofs.YtdpcnbbaipdmjaaDoor
open Go.RowKit Go.Shelf
set_option linter.unusedVariables false
set_option linter.unusedSimpArgs false
attribute [local go_sem] World.cell?_alloc_lt

/-! ### Rows of names. -/
structure InZ (w : World) (A : Option Addr) (n : Nat) (zs : List ByteArray) : Prop where
  ln : zs.length = n
  at_ : 0 < n → ∃ b off, A = some ⟨b, off, none⟩ ∧ b < w.heap.size ∧ ∀ j z, zs[j]? = some z → w.cell? ⟨b, off + j, none⟩ = some (.string z)
section
variable {w w' : World} {A : Option Addr} {n : Nat} {zs : List ByteArray}
theorem InZ.below (h : InZ w A n zs) (k : Below w.heap.size w w') : InZ w' A n zs :=
  ⟨h.ln, fun hn => by
    obtain ⟨b, off, ha, hb, hc⟩ := h.at_ hn
    exact ⟨b, off, ha, Nat.lt_of_lt_of_le hb k.size, fun j u hj => (k.cell (p := ⟨b, off + j, none⟩) hb).trans (hc j u hj)⟩⟩
theorem InZ.get (h : InZ w A n zs) {i : Nat} (hi : i < n) : ∃ b off z, A = some ⟨b, off, none⟩ ∧ b < w.heap.size ∧ zs[i]? = some z ∧ w.cell? ⟨b, off + i, none⟩ = some (.string z) := by
  obtain ⟨b, off, ha, hb, hc⟩ := h.at_ (by omega)
  have hl : i < zs.length := by have := h.ln; omega
  exact ⟨b, off, zs[i], ha, hb, List.getElem?_eq_getElem hl, hc i _ (List.getElem?_eq_getElem hl)⟩
theorem InZ.own {base c : Nat} (h : w.ownsRow base 9 1 (.slice A n c) n (zs.map Value.string)) : InZ w A n zs := by
  refine ⟨by have := h.1; simp at this; omega, fun hn => ?_⟩
  obtain ⟨g, cap, hv, hb, hlt⟩ := h.form hn
  injection hv with hA _ _
  refine ⟨g, 0, hA, hlt, fun j u hj => ?_⟩
  obtain ⟨g', hA', hc, _⟩ := own_at h (k := j) (u := .string u) (by rw [List.getElem?_map, hj]; rfl)
  rw [hA] at hA'
  injection hA' with hA'
  injection hA' with hA'
  subst hA'
  rw [Nat.zero_add]
  exact hc
theorem InZ.inn (h : InStrs w A n zs) : InZ w A n zs :=
  ⟨h.ln, fun hn => by
    obtain ⟨b, off, ha, hb, hc⟩ := h.at_ hn
    refine ⟨b, off, ha, hb, fun j u hj => ?_⟩
    have hjl := (List.getElem?_eq_some_iff.1 hj).1
    have := hc j (by have := h.ln; omega)
    rw [List.getD_eq_getElem?_getD, hj] at this
    exact this⟩
theorem InZ.take {k : Nat} (h : InZ w A n zs) (hk : k ≤ n) : InZ w A k (zs.take k) :=
  ⟨by rw [List.length_take, h.ln]; omega, fun hn => by
    obtain ⟨b, off, ha, hb, hc⟩ := h.at_ (by omega)
    refine ⟨b, off, ha, hb, fun j u hj => ?_⟩
    rw [List.getElem?_take] at hj
    split at hj
    · exact hc j u hj
    · cases hj⟩
theorem InZ.reads (h : InZ w A n zs) : Reads w w.heap.size 1 A n (zs.map Value.string) := by
  refine ⟨by rw [List.length_map, h.ln]; omega, fun hn => ?_⟩
  obtain ⟨b, off, ha, hb, hc⟩ := h.at_ hn
  refine ⟨⟨b, off, none⟩, ha, hb, fun j u hj => ?_⟩
  rw [List.getElem?_map] at hj
  obtain ⟨z, hz, rfl⟩ := Option.map_eq_some_iff.1 hj
  rw [WideShapes.add_plain]
  exact hc j z hz
end
theorem strs_one (zs : List ByteArray) : ∀ u ∈ zs.map Value.string, u.oneCell' = true := by
  intro u hu
  obtain ⟨z, _, rfl⟩ := List.mem_map.1 hu
  rfl
theorem contains_in {w : World} {A : Option Addr} {n c k : Nat} {zs : List ByteArray} {x : ByteArray} (h : InZ w A n zs) (hk : k ≤ n) (hn : n ≤ 100) : Calls Tryd.prog 33 #[.slice A k c, .string x] w fun e w' => e = .returned (.bool (Lib.containsS (zs.take k) x)) ∧ w' = w := by
  by_cases h0 : k = 0
  · subst h0
    have e : Lib.containsS (zs.take 0) x = false := by rw [List.take_zero]; rfl
    rw [e]
    exact Tryd.slices_Contains_string_empty A c x w
  · obtain ⟨b, off, rfl, hb, hc⟩ := h.at_ (by omega)
    have := Tryd.slices_Contains_string b off k c zs x w (by rw [h.ln]; exact hk) (by omega) (fun j hj => by
      have := hc j _ (List.getElem?_eq_getElem hj)
      rw [List.getD_eq_getElem?_getD, List.getElem?_eq_getElem hj]
      exact this)
    exact this
theorem idx_z (b off n c i : Nat) (hi : i < n) (w : World) : (Instr.indexAt 45 (.slice (some ⟨b, off, none⟩) n c) (.int .i64 (i : Int))).run Tryd.prog w = .ok (.pointer (some ⟨b, off + i, none⟩)) w := by
  simp [go_sem, hi]
theorem cut_z (a : Option Addr) (len cap n : Nat) (N : Int) (hN : N = (n : Int)) (h : n ≤ cap) (w : World) : (Instr.sliceAt 45 (.slice a len cap) none (some (.int .i64 N)) none).run Tryd.prog w = .ok (.slice a n cap) w := by
  subst hN
  have h2 : (n : Int) ≤ (cap : Int) := by omega
  cases a <;> simp [go_sem, h, h2, Addr.add]

/-! ### Rows of policies. -/
def Pol.cells (p : Pol) : List Value := [.int .i64 p.m, .int .u8 (p.s : Int), .int .i64 p.n]
def polCs (l : List Pol) : List Value := l.flatMap Pol.cells
theorem polCs_snoc (l : List Pol) (x : Pol) : polCs (l ++ [x]) = polCs l ++ x.cells := by simp [polCs]
theorem polCs_len (l : List Pol) : (polCs l).length = l.length * 3 := by
  unfold polCs
  induction l with
  | nil => rfl
  | cons x r ih => rw [List.flatMap_cons, List.length_append, ih, List.length_cons]; simp [Pol.cells]; omega
theorem polCs_at (l : List Pol) (i j : Nat) (x : Pol) (h : l[i]? = some x) (hj : j < 3) : (polCs l)[i * 3 + j]? = x.cells[j]? := by
  unfold polCs
  induction l generalizing i with
  | nil => simp at h
  | cons y r ih =>
    rw [List.flatMap_cons]
    cases i with
    | zero =>
      simp at h
      subst h
      rw [List.getElem?_append_left (by simp [Pol.cells]; omega)]
      congr 1; omega
    | succ i =>
      rw [List.getElem?_append_right (by simp [Pol.cells]; omega), ← ih i (by simpa using h)]
      congr 1
      simp [Pol.cells]; omega
structure InP (w : World) (A : Option Addr) (n : Nat) (l : List Pol) : Prop where
  ln : l.length = n
  at_ : 0 < n → ∃ b off, A = some ⟨b, off, none⟩ ∧ b < w.heap.size ∧ ∀ j p, l[j]? = some p → w.cell? ⟨b, off + j * 3, none⟩ = some (.int .i64 p.m) ∧ w.cell? ⟨b, off + j * 3 + 1, none⟩ = some (.int .u8 (p.s : Int)) ∧ w.cell? ⟨b, off + j * 3 + 2, none⟩ = some (.int .i64 p.n)
section
variable {w w' : World} {A : Option Addr} {n : Nat} {l : List Pol}
theorem InP.below (h : InP w A n l) (k : Below w.heap.size w w') : InP w' A n l :=
  ⟨h.ln, fun hn => by
    obtain ⟨b, off, ha, hb, hc⟩ := h.at_ hn
    exact ⟨b, off, ha, Nat.lt_of_lt_of_le hb k.size, fun j u hj => by
      obtain ⟨h1, h2, h3⟩ := hc j u hj
      exact ⟨(k.cell (p := ⟨b, off + j * 3, none⟩) hb).trans h1, (k.cell (p := ⟨b, off + j * 3 + 1, none⟩) hb).trans h2, (k.cell (p := ⟨b, off + j * 3 + 2, none⟩) hb).trans h3⟩⟩⟩
theorem InP.get (h : InP w A n l) {i : Nat} (hi : i < n) : ∃ b off p, A = some ⟨b, off, none⟩ ∧ b < w.heap.size ∧ l[i]? = some p ∧ w.cell? ⟨b, off + i * 3, none⟩ = some (.int .i64 p.m) ∧ w.cell? ⟨b, off + i * 3 + 1, none⟩ = some (.int .u8 (p.s : Int)) ∧ w.cell? ⟨b, off + i * 3 + 2, none⟩ = some (.int .i64 p.n) := by
  obtain ⟨b, off, ha, hb, hc⟩ := h.at_ (by omega)
  have hl : i < l.length := by have := h.ln; omega
  exact ⟨b, off, l[i], ha, hb, List.getElem?_eq_getElem hl, hc i _ (List.getElem?_eq_getElem hl)⟩
theorem InP.take {k : Nat} (h : InP w A n l) (hk : k ≤ n) : InP w A k (l.take k) :=
  ⟨by rw [List.length_take, h.ln]; omega, fun hn => by
    obtain ⟨b, off, ha, hb, hc⟩ := h.at_ (by omega)
    refine ⟨b, off, ha, hb, fun j e hj => ?_⟩
    rw [List.getElem?_take] at hj
    split at hj
    · exact hc j e hj
    · cases hj⟩
theorem InP.own {base c : Nat} (h : w.ownsRow base 24 3 (.slice A n c) n (polCs l)) : InP w A n l := by
  have hl : l.length = n := by have := h.1; rw [polCs_len] at this; omega
  refine ⟨hl, fun hn => ?_⟩
  rcases h.2 with ⟨h0, h1⟩ | ⟨g, cap, cur, hv, hg, hh, hnc, hcm, hsz, ht⟩
  · exfalso
    injection h0 with _ h2 _
    omega
  · injection hv with hA _ _
    refine ⟨g, 0, hA, (Array.getElem?_eq_some_iff.1 hh).1, fun j e hj => ?_⟩
    have hjl := (List.getElem?_eq_some_iff.1 hj).1
    have key : ∀ i, i < 3 → w.cell? ⟨g, 0 + j * 3 + i, none⟩ = e.cells[i]? := by
      intro i hi
      have h2 := polCs_at l j i e hj hi
      rw [← ht, List.getElem?_take, if_pos (by omega)] at h2
      rw [show (0 + j * 3 + i) = j * 3 + i by omega]
      simp only [World.cell?, hh]
      simpa using h2
    have k0 := key 0 (by omega)
    rw [Nat.add_zero, Nat.zero_add] at k0
    refine ⟨?_, ?_, ?_⟩
    · rw [Nat.zero_add]; exact k0
    · exact key 1 (by omega)
    · exact key 2 (by omega)
end
def intW : Value → Int
  | .int _ x => x
  | _ => 0
set_option maxRecDepth 100000 in
theorem open_pols {H : Type} {enc : TypeId × Value → H} {W : World} {base : Nat} {held : Bool} {r : Reach} {b0 : Nat} {v : Value} {d : DataW H} {p : List MemPlace} (hv : Value.okWide Tryd.prog W r b0 50 v) (h : DataW.Trod enc Tryd.prog W base (fun _ => true) held 50 v d p) :
    ∃ a len cap l, v = .slice a len cap ∧ InP W a len l ∧ (∀ q ∈ l, q.s < 256) ∧ len ≤ cap ∧ len ≤ 9223372036854775807 := by
  obtain ⟨a, len, cap, rfl⟩ := WideShapes.okWide_slice Tryd.underlying50 hv
  obtain ⟨V, hm, hlc, hc⟩ := open_recs Tryd.underlying50 Tryd.underlying29 (by kernel_rfl) (by kernel_rfl) (by decide) h
  have key : ∀ i, i < len → ∃ b off, a = some ⟨b, off, none⟩ ∧ b < W.heap.size ∧ W.cell? ⟨b, off + i * 3, none⟩ = some (.int .i64 (intW (V i 0))) ∧ W.cell? ⟨b, off + i * 3 + 1, none⟩ = some (.int .u8 (((intW (V i 1)).toNat : Nat) : Int)) ∧ W.cell? ⟨b, off + i * 3 + 2, none⟩ = some (.int .i64 (intW (V i 2))) ∧ (intW (V i 1)).toNat < 256 := by
    intro i hi
    obtain ⟨b, off, ha, hb, hcell⟩ := hc (by omega)
    obtain ⟨h0, n0, y0, t0⟩ := hcell i hi 0 _ rfl
    obtain ⟨h1, n1, y1, t1⟩ := hcell i hi 1 _ rfl
    obtain ⟨h2, n2, y2, t2⟩ := hcell i hi 2 _ rfl
    obtain ⟨x0, e0, _⟩ := DataW.trod_int Tryd.underlying3 t0
    obtain ⟨x1, e1, _, ws⟩ := DataW.trod_int Tryd.underlying5 t1
    obtain ⟨x2, e2, _⟩ := DataW.trod_int Tryd.underlying3 t2
    simp only [List.cons.injEq, and_true] at e0 e1 e2
    rw [e0] at h0
    rw [e1] at h1
    rw [e2] at h2
    have hbs := bounds_u8 ws
    obtain ⟨s, rfl⟩ := Int.eq_ofNat_of_zero_le hbs.1
    rw [e0, e1, e2]
    exact ⟨b, off, ha, hb, h0, h1, h2, by show ((s : Int)).toNat < 256; omega⟩
  refine ⟨a, len, cap, (List.range len).map fun i => ⟨intW (V i 0), (intW (V i 1)).toNat, intW (V i 2)⟩, rfl, ⟨by simp, fun hp => ?_⟩, ?_, hlc, hm⟩
  · obtain ⟨b, off, ha, hb, _⟩ := hc hp
    refine ⟨b, off, ha, hb, fun i e hie => ?_⟩
    rw [List.getElem?_map] at hie
    obtain ⟨i', hi', rfl⟩ := Option.map_eq_some_iff.1 hie
    have hi : i < len := by
      have := (List.getElem?_eq_some_iff.1 hi').1
      simpa using this
    rw [List.getElem?_range hi] at hi'
    injection hi' with hi'
    subst hi'
    obtain ⟨b2, off2, ha2, _, k0, k1, k2, _⟩ := key i hi
    rw [ha] at ha2
    injection ha2 with ha2
    injection ha2 with h1 h2
    subst h1 h2
    exact ⟨k0, k1, k2⟩
  · intro q hq
    obtain ⟨i, hi, rfl⟩ := List.mem_map.1 hq
    obtain ⟨_, _, _, _, _, _, _, hs⟩ := key i (List.mem_range.1 hi)
    exact hs
set_option maxRecDepth 100000 in
theorem open_names {H : Type} {enc : TypeId × Value → H} {W : World} {base : Nat} {held : Bool} {r : Reach} {b0 : Nat} {v : Value} {d : DataW H} {p : List MemPlace} (hv : Value.okWide Tryd.prog W r b0 45 v) (h : DataW.Trod enc Tryd.prog W base (fun _ => true) held 45 v d p) :
    ∃ a len cap zs, v = .slice a len cap ∧ InZ W a len zs ∧ (∀ z ∈ zs, z.size ≤ 9223372036854775807) ∧ len ≤ cap ∧ len ≤ 9223372036854775807 := by
  obtain ⟨a, len, cap, rfl⟩ := WideShapes.okWide_slice Tryd.underlying45 hv
  obtain ⟨fuel, hf⟩ := h
  rcases Go.ChangeShapes.open_strings Tryd.underlying45 Tryd.underlying9 (by kernel_rfl) hf with ⟨hcs, _⟩ | ⟨x, l, c, ss, hcs, _, hl, hm, hz, _, hcell, hws⟩
  · simp [Value.cells] at hcs
    obtain ⟨rfl, rfl, rfl⟩ := hcs
    exact ⟨none, 0, 0, [], rfl, ⟨rfl, fun h => absurd h (by omega)⟩, fun z hz => by simp at hz, by omega, by omega⟩
  · simp [Value.cells] at hcs
    obtain ⟨rfl, rfl, rfl⟩ := hcs
    simp at hz
    refine ⟨_, len, cap, ss.take len, rfl, ⟨by simp; omega, fun hp => ?_⟩, fun z hzm => hws z (List.mem_of_mem_take hzm), hl, by unfold maxLen at hm; omega⟩
    obtain ⟨b, off, rfl⟩ := spot_none (hcell 0 (by omega))
    refine ⟨b, off, rfl, World.block_lt_of_cell? W _ (hcell 0 (by omega)) |> (by simpa [Addr.add] using ·), fun i z hi => ?_⟩
    have hil : i < ss.length := by
      have := (List.getElem?_eq_some_iff.1 hi).1
      rw [List.length_take] at this
      omega
    rw [List.getElem?_take] at hi
    split at hi
    · have := hcell i (by omega)
      rw [Go.WideShapes.add_plain] at this
      rw [this]
      rw [List.getElem?_eq_getElem hil] at hi
      injection hi with hi
      rw [List.getD_eq_getElem?_getD, List.getElem?_eq_getElem hil, hi]
      rfl
    · cases hi
theorem idx_p10 (b off n c i : Nat) (hi : i < n) (w : World) : (Instr.indexAt 50 (.slice (some ⟨b, off, none⟩) n c) (.int .i64 (i : Int))).run Tryd.prog w = .ok (.pointer (some ⟨b, off + i * 3, none⟩)) w := by
  simp [go_sem, hi]
theorem idx_pol (b off n c i : Nat) (hi : i < n) (w : World) : (Instr.indexAt 46 (.slice (some ⟨b, off, none⟩) n c) (.int .i64 (i : Int))).run Tryd.prog w = .ok (.pointer (some ⟨b, off + i * 3, none⟩)) w := by
  simp [go_sem, hi]
theorem cut_p10 (a : Option Addr) (len cap n : Nat) (N : Int) (hN : N = (n : Int)) (h : n ≤ cap) (w : World) : (Instr.sliceAt 50 (.slice a len cap) none (some (.int .i64 N)) none).run Tryd.prog w = .ok (.slice a n cap) w := by
  subst hN
  have h2 : (n : Int) ≤ (cap : Int) := by omega
  cases a <;> simp [go_sem, h, h2, Addr.add]

/-! ### What Join answers. -/
def scanE (seen : List ByteArray) : List ByteArray → Int
  | [] => 0
  | z :: r => if okName z = false then 2 else if Lib.containsS seen z = true then 9 else scanE (seen ++ [z]) r
def badP (p : Pol) : Bool := decide (chk p.m p.s p.n 8 ≠ 0)
def canP (p : Pol) : Pol := ⟨p.m, if p.m = 1 ∨ p.m = 2 then p.s else 0, if p.m = 3 then p.n else 0⟩
def lineOf (z : ByteArray) (p : Pol) : Ln := ⟨z, txtR p.m p.s p.n, canP p⟩
def linesOf (zs : List ByteArray) (ps : List Pol) : List Ln := List.zipWith lineOf zs ps
def joinE (zs : List ByteArray) (ps : List Pol) : Int := if zs.length ≠ ps.length then 3 else if scanE [] zs ≠ 0 then scanE [] zs else if ps.any badP = true then 1 else 0
def joinB (zs : List ByteArray) (ps : List Pol) : ByteArray := if joinE zs ps = 0 then bytesL (flatL (linesOf zs ps)) else ⟨#[]⟩
theorem scan_zero : ∀ (zs seen : List ByteArray), scanE seen zs = 0 → (∀ z ∈ zs, okName z = true) ∧ (seen.Nodup → (seen ++ zs).Nodup) := by
  intro zs
  induction zs with
  | nil => intro seen _; exact ⟨fun z hz => by simp at hz, fun h => by simpa using h⟩
  | cons z r ih =>
    intro seen h
    unfold scanE at h
    by_cases h1 : okName z = false
    · rw [if_pos h1] at h; omega
    · rw [if_neg h1] at h
      by_cases h2 : Lib.containsS seen z = true
      · rw [if_pos h2] at h; omega
      · rw [if_neg h2] at h
        have h2 : z ∉ seen := fun hm => h2 ((Lib.containsS_iff _ _).2 hm)
        obtain ⟨a, b⟩ := ih _ h
        refine ⟨fun x hx => ?_, fun hn => ?_⟩
        · rcases List.mem_cons.1 hx with rfl | hx
          · simpa using h1
          · exact a x hx
        · have := b (by rw [List.nodup_append]; exact ⟨hn, by simp, fun x hx y hy e => by simp at hy; subst hy e; exact h2 hx⟩)
          rw [List.append_assoc] at this
          exact this
theorem scan_vals : ∀ (zs seen : List ByteArray), scanE seen zs = 0 ∨ (scanE seen zs = 2 ∧ ∃ z ∈ zs, okName z = false) ∨ (scanE seen zs = 9 ∧ ¬ (seen ++ zs).Nodup) := by
  intro zs
  induction zs with
  | nil => intro seen; exact Or.inl rfl
  | cons z r ih =>
    intro seen
    unfold scanE
    by_cases h1 : okName z = false
    · rw [if_pos h1]; exact Or.inr (Or.inl ⟨rfl, z, List.mem_cons_self, h1⟩)
    · rw [if_neg h1]
      by_cases h2 : Lib.containsS seen z = true
      · rw [if_pos h2]
        have h2 : z ∈ seen := (Lib.containsS_iff _ _).1 h2
        refine Or.inr (Or.inr ⟨rfl, fun hn => ?_⟩)
        rw [List.nodup_append] at hn
        exact hn.2.2 z h2 z List.mem_cons_self rfl
      · rw [if_neg h2]
        rcases ih (seen ++ [z]) with h | ⟨h, x, hx, hb⟩ | ⟨h, hn⟩
        · exact Or.inl h
        · exact Or.inr (Or.inl ⟨h, x, List.mem_cons_of_mem _ hx, hb⟩)
        · refine Or.inr (Or.inr ⟨h, fun h2 => hn ?_⟩)
          rw [List.append_assoc]
          exact h2
theorem txt_nl {p : Pol} (hs : p.s < 256) (h : badP p = false) : ∀ x ∈ (txtR p.m p.s p.n).data.toList, x ≠ 10 := by
  have hc : chk p.m p.s p.n 8 = 0 := by
    unfold badP at h
    simpa using h
  have hl : ∀ s : Nat, s < 256 → (textB s).data.toList.all (fun x => x != 10) = true := by decide +kernel
  have hd : ∀ k : Nat, k < 8 → (10 : UInt8) ∉ (digB k).data.toList := by decide +kernel
  obtain ⟨m, s, n⟩ := p
  simp only at hs hc
  intro x hx
  have hx' : x ∈ (txtR m s n).data.toList := hx
  clear hx
  rcases chk_zero hc with rfl | ⟨rfl, _⟩ | ⟨rfl, _⟩ | ⟨rfl, k, rfl, hk⟩
  · have : ∀ x ∈ (⟨#[108, 111, 99, 97, 108]⟩ : ByteArray).data.toList, x ≠ 10 := by decide
    exact this x hx'
  · have e : txtR 1 s n = (⟨#[109, 101, 109, 98, 105, 110, 100, 61]⟩ : ByteArray) ++ textB s := rfl
    rw [e, cat_data] at hx'
    rcases List.mem_append.1 hx' with hx | hx
    · intro e; subst e; revert hx; decide
    · simpa using List.all_eq_true.1 (hl s hs) x hx
  · have e : txtR 2 s n = (⟨#[105, 110, 116, 101, 114, 108, 101, 97, 118, 101, 61]⟩ : ByteArray) ++ textB s := rfl
    rw [e, cat_data] at hx'
    rcases List.mem_append.1 hx' with hx | hx
    · intro e; subst e; revert hx; decide
    · simpa using List.all_eq_true.1 (hl s hs) x hx
  · have e : txtR 3 s (k : Int) = (⟨#[112, 114, 101, 102, 101, 114, 114, 101, 100, 61]⟩ : ByteArray) ++ digB k := rfl
    rw [e, cat_data] at hx'
    rcases List.mem_append.1 hx' with hx | hx
    · intro e; subst e; revert hx; decide
    · intro e; subst e; exact hd k hk hx
theorem line_good {z : ByteArray} {p : Pol} (hz : okName z = true) (hs : p.s < 256) (h : badP p = false) : LnOk (lineOf z p) ∧ z.size ≤ 16 ∧ (txtR p.m p.s p.n).size ≤ 80 := by
  have hc : chk p.m p.s p.n 8 = 0 := by
    unfold badP at h
    simpa using h
  obtain ⟨h1, h2⟩ := txt_back hs hc
  refine ⟨⟨hz, txt_nl hs h, h2⟩, ?_, h1⟩
  unfold okName at hz
  rw [Bool.and_eq_true] at hz
  exact (of_decide_eq_true hz.1).2
theorem lines_snoc {zs : List ByteArray} {ps : List Pol} {i : Nat} {z : ByteArray} {p : Pol} (hz : zs[i]? = some z) (hp : ps[i]? = some p) : (linesOf zs ps).take (i + 1) = (linesOf zs ps).take i ++ [lineOf z p] := by
  have hq : (linesOf zs ps)[i]? = some (lineOf z p) := by
    unfold linesOf
    rw [List.getElem?_zipWith, hz, hp]
  rw [List.take_add_one, hq]
  rfl
theorem flat_snoc (L : List Ln) (q : Ln) : flatL (L ++ [q]) = flatL L ++ (q.txt ++ [10]) := by
  induction L with
  | nil => simp [flatL]
  | cons a r ih => rw [List.cons_append, flatL, flatL, ih]; simp only [List.append_assoc]
theorem lines_ok {zs : List ByteArray} {ps : List Pol} (hl : zs.length = ps.length) (h9 : zs.length ≤ 9) (hE : scanE [] zs = 0) (hs : ∀ p ∈ ps, p.s < 256) (hb : ps.any badP = false) : LsOk (linesOf zs ps) := by
  obtain ⟨hn, hnd⟩ := scan_zero zs [] hE
  have hbad : ∀ p ∈ ps, badP p = false := fun p hp => by
    cases h : badP p with
    | false => rfl
    | true => rw [List.any_eq_false] at hb; exact absurd h (hb p hp)
  have hone : ∀ q ∈ linesOf zs ps, LnOk q ∧ q.nm.size ≤ 16 ∧ q.t.size ≤ 80 := by
    intro q hq
    obtain ⟨i, hi, rfl⟩ := List.getElem_of_mem hq
    unfold linesOf at hi ⊢
    rw [List.length_zipWith] at hi
    rw [List.getElem_zipWith]
    exact line_good (hn _ (List.getElem_mem (by omega))) (hs _ (List.getElem_mem (by omega))) (hbad _ (List.getElem_mem (by omega)))
  have hlen : (linesOf zs ps).length ≤ 9 := by unfold linesOf; rw [List.length_zipWith]; omega
  have hnm : namesB (linesOf zs ps) = zs := by
    unfold namesB linesOf
    rw [List.map_zipWith]
    exact (show List.zipWith (fun z p => (lineOf z p).nm) zs ps = zs from by
      clear hone hlen hbad hb hs hn hnd hE h9
      induction zs generalizing ps with
      | nil => rfl
      | cons z r ih =>
        cases ps with
        | nil => simp at hl
        | cons p ps => rw [List.zipWith_cons_cons, ih (by simpa using hl)]; rfl)
  refine ⟨fun q hq => (hone q hq).1, ?_, by omega, ?_⟩
  · rw [hnm]
    have := hnd (by simp)
    simpa using this
  · have key : ∀ L : List Ln, (∀ q ∈ L, LnOk q ∧ q.nm.size ≤ 16 ∧ q.t.size ≤ 80) → (flatL L).length ≤ 99 * L.length := by
      intro L
      induction L with
      | nil => intro _; simp [flatL]
      | cons q r ih =>
        intro h
        have h1 := ih (fun x hx => h x (List.mem_cons_of_mem _ hx))
        have h2 := h q List.mem_cons_self
        rw [flat_len, List.length_cons]
        omega
    have := key _ hone
    omega
end Go.Proofs.YtdpcnbbaipdmjaaDoor
