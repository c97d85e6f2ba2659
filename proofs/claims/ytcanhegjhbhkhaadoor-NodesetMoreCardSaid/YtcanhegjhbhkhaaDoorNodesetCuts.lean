/- The law NodesetCuts. -/
import Derived.Test.YtcanhegjhbhkhaaDoorNodesetLists
import Derived.Laws.IdiomStrings
import Derived.Laws.AppendOwn
namespace Go.Proofs.YtcanhegjhbhkhaaDoor
open Go.RowKit Go.Shelf
set_option linter.unusedVariables false
set_option linter.unusedSimpArgs false
attribute [local go_sem] World.cell?_alloc_lt

def bytesI (s : ByteArray) : List Int := s.data.toList.map fun b => (b.toNat : Int)
theorem bytesI_len (s : ByteArray) : (bytesI s).length = s.size := by simp [bytesI]
theorem bytesI_at (s : ByteArray) (i : Nat) (h : i < s.size) : (bytesI s).getD i 0 = (s.data[i].toNat : Int) := by
  have h2 : i < s.data.size := h
  rw [List.getD_eq_getElem?_getD, bytesI, List.getElem?_map, List.getElem?_eq_getElem (by simpa using h)]
  simp
/-- '[]byte(s)'. -/
theorem bytes_of (w : World) (s : ByteArray) : ∃ c wB, (convert 9 44 (.string s)).run Tryd.prog w = .ok (.slice (some ⟨w.heap.size, 0, none⟩) s.size c) wB ∧ s.size ≤ c ∧ Below w.heap.size w wB ∧ wB.heap.size = w.heap.size + 1 ∧ ∀ i, i < s.size → wB.cell? ⟨w.heap.size, i, none⟩ = some (.int .u8 ((bytesI s).getD i 0)) := by
  refine ⟨_, _, run_bytes_of_string w 9 44 5 s Tryd.underlying9 Tryd.underlying44 Tryd.underlying5, grownCap_ge _ _ _ _, ?_, by simp, fun i hi => ?_⟩
  · exact bel_alloc (bel_drew (Below.refl _ _)) _
  · have h := World.cell?_alloc_mark w.drew (bytesRow s (grownCap w s.size 0 5)) 5 ((bytesRow s (grownCap w s.size 0 5)).size, (bytesRow s (grownCap w s.size 0 5)).size + 1) i
    rw [bytesRow_at s _ i hi, ← bytesI_at s i hi] at h
    exact h
theorem info_u8 : (Tryd.prog.info? 5).map (fun i => (i.zero, i.size, i.bytes)) = some (some (.int .u8 0), 1, 1) := by kernel_rfl
theorem cut_bytes (a : Option Addr) (len cap n : Nat) (N : Int) (hN : N = (n : Int)) (h : n ≤ cap) (w : World) : (Instr.sliceAt 44 (.slice a len cap) none (some (.int .i64 N)) none).run Tryd.prog w = .ok (.slice a n cap) w := by
  subst hN
  have h2 : (n : Int) ≤ (cap : Int) := by omega
  cases a <;> simp [go_sem, h, h2, Addr.add]
theorem idx_b (b off n c i : Nat) (hi : i < n) (w : World) : (Instr.indexAt 44 (.slice (some ⟨b, off, none⟩) n c) (.int .i64 (i : Int))).run Tryd.prog w = .ok (.pointer (some ⟨b, off + i, none⟩)) w := by
  simp [go_sem, hi]
theorem text_bytes {w : World} {g c n : Nat} {xs : List Int} (hl : n ≤ xs.length) (hc : ∀ i, i < n → w.cell? ⟨g, i, none⟩ = some (.int .u8 (xs.getD i 0))) : (convert 44 9 (.slice (some ⟨g, 0, none⟩) n c)).run Tryd.prog w = .ok (.string (strOfNums (xs.take n))) w := by
  refine run_convert_bytes_arg w 44 5 Tryd.underlying44 Tryd.underlying5 g 0 n c (xs.take n) (by rw [List.length_take]; omega) (fun i hi => ?_) 9 Tryd.underlying9
  have := hc i hi
  rw [Nat.zero_add, this, List.getD_eq_getElem?_getD, List.getD_eq_getElem?_getD, List.getElem?_take, if_pos (by omega)]
/-- The text of a row of the call's own bytes. -/
theorem text_own {w : World} {base h c m : Nat} {xs : List Int} (hl : xs.length = m) (hown : w.ownsRow base 5 1 (.slice (some ⟨h, 0, none⟩) m c) m (xs.map (Value.int .u8))) :
    (convert 44 9 (.slice (some ⟨h, 0, none⟩) m c)).run Tryd.prog w = .ok (.string (strOfNums xs)) w := by
  refine run_convert_bytes_arg w 44 5 Tryd.underlying44 Tryd.underlying5 h 0 m c xs hl ?_ 9 Tryd.underlying9
  intro i hi
  obtain ⟨g, hA, hc, _⟩ := own_at hown (map_at (f := Value.int .u8) (show i < xs.length by omega) 0)
  injection hA with hA
  injection hA with hA
  subst hA
  rw [Nat.zero_add]
  exact hc
theorem agree_two (X : ByteArray) (hX : X.size ≤ 1000) : ∃ (a b : Int) (ok : Bool), (∀ w : World, Calls Tryd.prog 15 #[.string X] w fun e w' => e = .returned (.tuple #[.int .u8 a, .int .i64 b]) ∧ Below w.heap.size w w') ∧ (∀ w : World, Calls Tryd.prog 24 #[.string X] w fun e w' => e = .returned (.tuple #[.int .u8 a, .bool ok]) ∧ Below w.heap.size w w') ∧ (b == 0) = ok := by
  have h1 := fun w => parse_any X (by omega) w
  have h2 := fun w => rparse_any X hX w
  cases h : parseO X with
  | none =>
    rw [h] at h1 h2
    exact ⟨0, 2, false, h1, h2, rfl⟩
  | some s =>
    rw [h] at h1 h2
    exact ⟨s, 0, true, h1, h2, rfl⟩
set_option maxRecDepth 100000 in
set_option maxHeartbeats 4000000 in
theorem nodesetCuts_walk (s : Int) (hs : (Lit.int .u8 s).wf = true) (at_ : Int) (_hn : (Lit.int .i64 at_).wf = true) (cc : Int) (hcc : (Lit.int .u8 cc).wf = true) (w0 : World) (_h : True) : Calls Tryd.prog 6 #[.int .u8 s, .int .i64 at_, .int .u8 cc] w0 fun e w' => e = .returned (.bool true) ∧ Below w0.heap.size w0 w' := by
  obtain ⟨t, rfl, ht⟩ : ∃ t : Nat, s = (t : Int) ∧ t < 256 := by
    simp [Lit.wf, IntKind.min, IntKind.max, IntKind.signed, IntKind.bits] at hs
    exact ⟨s.toNat, by omega, by omega⟩
  have hrt := fun w => rtext_at t ht w
  obtain ⟨hz60, hz1⟩ := text_size t ht
  have hbl := bytesI_len (textB t)
  have hby := fun w => bytes_of w (textB t)
  generalize bytesI (textB t) = xs at *
  generalize textB t = tx at *
  generalize hm : tx.size = m at *
  have HRT := Lib.hid hrt; have HBY := Lib.hid hby; have HBL := Lib.hid hbl
  obtain ⟨hr1, hr2⟩ := umod_bd at_ (m : Int) (by omega) (by omega)
  clear hrt hby hm hbl hs
  have hum : IntKind.u64.wrap (m : Int) = (m : Int) := by
    simp only [IntKind.wrap]
    simp [IntKind.signed, IntKind.bits]
    omega
  have hne : ((m : Int) == 0) = false := by rw [beq_eq_false_iff_ne]; omega
  have hne2 : (m : Int) ≠ 0 := by omega
  go_enter Tryd.func6, Tryd.ntmps6
  go_wp2_with fail
  refine (HRT.out _).mono ?_; rintro e w1 ⟨rfl, hB1⟩
  obtain ⟨c, wB, hcv, hmc, hBB, hBz, hcell⟩ := HBY.out w1
  have HCELL := Lib.hid hcell; have HBB := Lib.hid hBB; have HBZ := Lib.hid hBz
  clear hcell hBB hBz HBY HRT
  go_upto_region 3 with fail
  generalize wrap64 ((IntKind.u64.wrap at_).tmod (m : Int)) = kk at *
  obtain ⟨k, rfl⟩ := Int.eq_ofNat_of_zero_le hr1
  clear hum hne hne2 hcv
  have hB2 := bel_trans hB1 HBB.out
  have hw1l : w1.heap.size < wB.heap.size := by have := HBZ.out; omega
  have hw10 := hB1.size
  have hreads : Reads wB wB.heap.size 1 (some ⟨w1.heap.size, 0, none⟩) m (xs.map (Value.int .u8)) := by
    refine ⟨by rw [List.length_map, HBL.out]; omega, fun _ => ⟨_, rfl, hw1l, fun j u hj => ?_⟩⟩
    rw [List.getElem?_map] at hj
    obtain ⟨z, hz, rfl⟩ := Option.map_eq_some_iff.1 hj
    have hjl := (List.getElem?_eq_some_iff.1 hz).1
    have h := HCELL.out j (by have := HBL.out; omega)
    rw [List.getD_eq_getElem?_getD, hz] at h
    rw [WideShapes.add_plain, Nat.zero_add]
    exact h
  have hma := own_made0 wB w0.heap.size 5 1 hB2.size
  have hba : Below wB.heap.size wB (wB.alloc (.cells #[] 5)) := bel_alloc (Below.refl _ _) _
  have hra := hreads.below hba
  obtain ⟨i0, hi0', hz0, hz1', hz2⟩ := info_parts info_u8
  have HI := Lib.hid hi0'; have HZ0 := Lib.hid hz0; have HZ1 := Lib.hid hz1'; have HZ2 := Lib.hid hz2
  have HMA := Lib.hid hma; have HRA := Lib.hid hra; have HBA := Lib.hid hba; have HB2 := Lib.hid hB2
  clear hi0' hz0 hz1' hz2 hma hra hba hreads hB1 hB2
  go_wp2_with (at_builtin; refine wpList_append_any _ rfl (.tmp 28) (.tmp 29) 44 rfl w0.heap.size 5 i0 _ 1 1 Tryd.underlying44 HI.out HZ0.out HZ1.out HZ2.out rfl (by omega) (.slice (some ⟨wB.heap.size, 0, none⟩) 0 0) 0 [] rfl HMA.out _ (some ⟨w1.heap.size, 0, none⟩) m c (xs.map (Value.int .u8)) rfl HRA.out (fun u hu => by obtain ⟨z, _, rfl⟩ := List.mem_map.1 hu; rfl) (by unfold maxLen; omega) (by omega) (by simp; have := HB2.out.size; omega) ?_)
  intro v2 w3 hown2 hgr2 hor2
  have hc3 : Ch [wB.heap.size] (wB.alloc (.cells #[] 5)) w3 := ch_grown hgr2 (fun q hq => by simp [Value.ownBlock] at hq; subst hq; simp)
  have hB3 := bel_ch HBA.out hc3 (fun q hq => by simp at hq; omega)
  try rw [Nat.zero_add] at hown2
  try rw [List.nil_append] at hown2
  obtain ⟨A2, c2, rfl⟩ := own_slice hown2
  obtain ⟨g2, cap2, hv2, hg2, hg2l⟩ := hown2.form (by omega)
  injection hv2 with hA2 _ hcc2
  subst hA2
  subst hcc2
  have hgne : g2 ≠ w1.heap.size := by
    rcases hor2 with h | h
    · simp [Value.ownBlock] at h
      omega
    · simp [Value.ownBlock] at h
      omega
  have hkm : k < m := by omega
  have hix := fun w => idx_b g2 0 m c2 k hkm w
  simp only [Nat.zero_add] at hix
  obtain ⟨gx, hgx, hcx, _, _, hfx⟩ := own_at hown2 (k := k) (u := .int .u8 (xs.getD k 0)) (by
    rw [List.getElem?_map, List.getD_eq_getElem?_getD, List.getElem?_eq_getElem (by have := HBL.out; omega)]
    rfl)
  injection hgx with hgx
  injection hgx with hgx
  subst hgx
  have hB23 := bel_trans HB2.out hB3
  have hcell3 : ∀ i, i < m → w3.cell? ⟨w1.heap.size, i, none⟩ = some (.int .u8 (xs.getD i 0)) := fun i hi => (hB3.cell (p := ⟨w1.heap.size, i, none⟩) (by simp; omega)).trans (HCELL.out i hi)
  have hset := own_set1 hown2 hkm (.int .u8 cc)
  have hBs := bel_set hB23 (p := ⟨g2, k, none⟩) hg2 (.int .u8 cc)
  have hcs : ∀ i, i < m → (w3.setCell ⟨g2, k, none⟩ (.int .u8 cc)).cell? ⟨w1.heap.size, i, none⟩ = some (.int .u8 (xs.getD i 0)) := fun i hi => by
    have h := hcell3 i hi
    rw [← h]
    exact World.cell?_of_block (Below.heap_setCell w3 _ _ _ (by simp; omega))
  have hle := HBL.out
  have hub : ∀ W : World, Below (w3.setCell ⟨g2, k, none⟩ (.int .u8 cc)).heap.size (w3.setCell ⟨g2, k, none⟩ (.int .u8 cc)) W → (convert 44 9 (.slice (some ⟨g2, 0, none⟩) m c2)).run Tryd.prog W = .ok (.string (strOfNums (xs.set k cc))) W := fun W hW => by
    have h := text_own (xs := xs.set k cc) (m := m) (by rw [List.length_set]; exact hle) (w := W) (base := w0.heap.size) (h := g2) (c := c2) (by
      rw [List.map_set]
      exact own_chV hset (Ch.below hW []) (by simp))
    exact h
  have htb : ∀ W : World, Below (w3.setCell ⟨g2, k, none⟩ (.int .u8 cc)).heap.size (w3.setCell ⟨g2, k, none⟩ (.int .u8 cc)) W → (convert 44 9 (.slice (some ⟨w1.heap.size, 0, none⟩) k c)).run Tryd.prog W = .ok (.string (strOfNums (xs.take k))) W := fun W hW =>
    text_bytes (by omega) (fun i hi => (hW.cell (p := ⟨w1.heap.size, i, none⟩) (by simp [World.setCell]; have := hB3.size; omega)).trans (hcs i (by omega)))
  have hsl := fun w => cut_bytes (some ⟨w1.heap.size, 0, none⟩) m c k (k : Int) rfl (by omega) w
  obtain ⟨a1, b1, ok1, hp1, hq1, he1⟩ := agree_two (strOfNums (xs.set k cc)) (by rw [strOfNums_size, List.length_set]; omega)
  obtain ⟨a2, b2, ok2, hp2, hq2, he2⟩ := agree_two (strOfNums (xs.take k)) (by rw [strOfNums_size, List.length_take]; omega)
  have HUB := Lib.hid hub; have HTB := Lib.hid htb; have HP1 := Lib.hid hp1; have HQ1 := Lib.hid hq1; have HP2 := Lib.hid hp2; have HQ2 := Lib.hid hq2; have HE1 := Lib.hid he1; have HE2 := Lib.hid he2; have HBS := Lib.hid hBs
  clear hub htb hp1 hq1 hp2 hq2 he1 he2 hBs hcs hset hcell3 hB23 hown2 hgr2 hor2 hc3 HMA HRA HBA HCELL HBL hle
  generalize strOfNums (xs.set k cc) = X1 at *
  generalize strOfNums (xs.take k) = X2 at *
  go_upto_region 5 with fail
  generalize w3.setCell ⟨g2, k, none⟩ (.int .u8 cc) = w4 at *
  clear hix hcx hfx
  have hBc := Below.refl w4.heap.size w4
  have hc1 := HUB.out _ hBc
  go_wp2_with fail
  refine (HP1.out _).mono ?_; rintro e w5 ⟨rfl, hB⟩
  replace hBc := bel_trans hBc hB
  clear hB hc1
  have hc2 := HTB.out _ hBc
  go_wp2_with fail
  refine (HP2.out _).mono ?_; rintro e w6 ⟨rfl, hB⟩
  replace hBc := bel_trans hBc hB
  clear hB hc2
  have hc1 := HUB.out _ hBc
  go_wp2_with fail
  refine (HQ1.out _).mono ?_; rintro e w7 ⟨rfl, hB⟩
  replace hBc := bel_trans hBc hB
  clear hB hc1
  have hc2 := HTB.out _ hBc
  go_wp2_with fail
  refine (HQ2.out _).mono ?_; rintro e w8 ⟨rfl, hB⟩
  replace hBc := bel_trans hBc hB
  clear hB hc2
  have h1 := HE1.out
  have h2 := HE2.out
  have hx1 : (ok1 == ok1) = true := by simp
  have hx2 : (ok2 == ok2) = true := by simp
  have ha1 : (a1 == a1) = true := by simp
  have ha2 : (a2 == a2) = true := by simp
  go_wp2_with fail
  refine (sets_any _).mono ?_; rintro e w9 ⟨rfl, hB⟩
  go_wp2_with fail
  go_ret
  exact ⟨rfl, bel_trans HBS.out (bel_trans hBc hB)⟩
end Go.Proofs.YtcanhegjhbhkhaaDoor
