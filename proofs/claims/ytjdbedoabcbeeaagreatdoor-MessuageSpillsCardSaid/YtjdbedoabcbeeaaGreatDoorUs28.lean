/- Parts of the proof: MaRead, PageStep, New. -/
import Derived.Test.YtjdbedoabcbeeaaGreatDoorUs26
import Derived.Test.YtjdbedoabcbeeaaGreatDoorUs25
import Derived.Test.YtjdbedoabcbeeaaGreatDoorUs27
import Derived.Test.YtjdbedoabcbeeaaGreatDoorUs24
/- The machine's touch of a mapped page, and Read of one byte. -/
namespace Go.Proofs.YtjdbedoabcbeeaaGreatDoor
open Go.RowKit
set_option linter.unusedVariables false
set_option linter.unusedSimpArgs false
attribute [local go_sem] World.cell?_alloc_lt

section
variable {w0 w : World} {S : MSt}
theorem ma_touched (H : Mach w0 w (mparts w0.heap.size S)) (i : Int) (cb : Value) (p : Int) (f : Int) (hf : mget S.mt p = some f) :
    Calls Tryz.prog 61 #[ptr S.m, .int .i64 i, cb, .int .i64 p] w fun e w' => e = .returned (.int .i64 0) ∧ w = w' := by
  have hMM := M_mac H
  have m4 : w.cell? ⟨S.m, 4, none⟩ = some (.pointer (some ⟨S.mb, 0, none⟩)) := hMM.at_ (i := 4) rfl
  have hfr := me_frame _ _ _ _ _ _ _ _ _ _ _ w (M_mem H) p
  rw [hf] at hfr
  simp only [Option.getD_some, Option.isSome_some] at hfr
  have HFR := Lib.hid hfr
  clear hfr hMM H hf
  unfold ptr at *
  go_enter Tryz.func61, Tryz.ntmps61
  go_wp2_with fail
  refine HFR.out.mono ?_; rintro e w1 ⟨rfl, rfl⟩
  clear HFR
  go_wp2_with fail
  go_ret
  exact ⟨rfl, rfl⟩
theorem ma_read (H : Mach w0 w (mparts w0.heap.size S)) (i : Nat) (c : CpuR) (hc : S.cpus[i]? = some c) (k x n f : Nat) (hk : k + x < 4096) (ha : mget S.live (64 * (k : Int)) = some (.int .i64 (n : Int))) (hx : 64 * x < n) (hn : n ≤ 100000) (hf : mget S.mt ((k + x : Nat) : Int) = some (f : Int)) :
    Calls Tryz.prog 15 #[ptr S.m, .int .i64 (i : Int), .int .i64 (64 * (k : Int)), .int .i64 (64 * (x : Int)), .int .i64 1] w fun e w' => ∃ A' c', e = .returned (.tuple #[.slice A' 1 c', .int .i64 0]) ∧ w'.ownsRow w.heap.size 5 1 (.slice A' 1 c') 1 ((rdB S.mt S.by_ (64 * (k + x)) 1).map (Value.int .u8)) ∧ Mach w0 w' (mparts w0.heap.size S) := by
  have hrc := ma_reach H i c hc k x n (by omega) ha hx hn (fun w' => w' = w) ((ma_touched H _ _ _ _ hf).mono fun e w' h => ⟨h.1, h.2.symm⟩)
  have hmp : mapped S.mt (k + x) := by unfold mapped; rw [hf]; rfl
  have hrd := me_read S.mb S.g S.b S.each (S.N * S.each) S.tg S.bt S.bf S.by_ S.mt S.mf w (M_mem H) (64 * (k + x)) 1 (by omega) (by omega) (fun q h1 h2 => by rw [show q / 64 = k + x by omega]; exact hmp)
  have ea : ((64 * (k + x) : Nat) : Int) = 64 * (k : Int) + 64 * (x : Int) := by push_cast; omega
  rw [ea] at hrd
  have hMM := M_mac H
  have m4 : w.cell? ⟨S.m, 4, none⟩ = some (.pointer (some ⟨S.mb, 0, none⟩)) := hMM.at_ (i := 4) rfl
  have HRC := Lib.hid hrc; have HRD := Lib.hid hrd; have HM := Lib.hid H
  generalize rdB S.mt S.by_ (64 * (k + x)) 1 = BY at *
  clear hrc hrd H hMM hmp ea hc ha hf
  unfold ptr at *
  go_enter Tryz.func15, Tryz.ntmps15
  go_wp2_with fail
  refine HRC.out.mono ?_; rintro e w1 ⟨rfl, rfl⟩
  clear HRC
  go_wp2_with fail
  refine HRD.out.mono ?_; rintro e w2 ⟨A', c', rfl, hown, hB2⟩
  have M2 := HM.out.below hB2
  have HM2 := Lib.hid M2; have HO := Lib.hid hown
  clear M2 hown hB2 HM HRD m4
  go_wp2_with fail
  go_ret2
  exact ⟨A', c', rfl, HO.out, HM2.out⟩
end
end Go.Proofs.YtjdbedoabcbeeaaGreatDoor
/- A machine of nodes in a row: one byte is written on a page that stands on no frame yet. -/
namespace Go.Proofs.YtjdbedoabcbeeaaGreatDoor
open Go.RowKit
set_option linter.unusedVariables false
set_option linter.unusedSimpArgs false
attribute [local go_sem] World.cell?_alloc_lt

/-- What stays of the machine, and the CPU's policy and cursor. -/
structure Fit (n each k m : Nat) (mn : Int) (pm : Int) (ps : Nat) (pn cur : Int) (S : MSt) : Prop where
  hm : S.m = m
  hN : S.N = n
  hE : S.each = each
  hmn : S.mn = mn
  hB : S.B.length = n
  htN : S.t.N = (n : Int)
  htF : S.t.F = (each : Int)
  htc : S.t.cs = idL n
  htd : S.t.ds.map RowV.zs = rowsLn n n
  hpf : S.pf = fun _ => none
  hcpu : ∃ c : CpuR, S.cpus[k]? = some c ∧ c.nd = (k : Int) ∧ c.m = pm ∧ c.s = (ps : Int) ∧ c.pn = pn ∧ c.cur = cur
theorem idL_at {n k : Nat} (h : k < n) : (idL n)[k]? = some (k : Int) := by unfold idL; rw [List.getElem?_map, List.getElem?_range h]; rfl
theorem InB.cell1 {w : World} {q : Nat} {v : Int} (h : Blk w q 5 [.int .u8 v]) : InB w (some ⟨q, 0, none⟩) 1 [v] :=
  ⟨rfl, fun _ => ⟨q, 0, rfl, h.lt, fun i u hi => by
    cases i with
    | zero =>
      simp at hi
      subst hi
      exact h.at_ (i := 0) rfl
    | succ i => simp at hi⟩⟩
theorem off_ex {w0 w : World} {S : MSt} (H : Mach w0 w (mparts w0.heap.size S)) {e g t : Nat} {cs : List Value} (h : S.ex[e]? = some (blkP g t cs)) : Off (some ⟨g, 0, none⟩) S.b := by
  intro x hx
  injection hx with hx
  subst hx
  intro e2
  have h6 : (mparts w0.heap.size S)[6]? = some (memP S.mb S.g S.b S.each (S.N * S.each) S.tg S.bt S.bf S.by_ S.mt S.mf) := rfl
  exact H.ne (mparts_ex _ S h) h6 (by omega) g (by simp [blkP]) (by
    have e2 : g = S.b := e2
    subst e2
    show S.b ∈ [S.mb, S.g, S.b, S.tg, S.bt, S.bf]
    simp)
theorem Mach.free {w0 w : World} {S : MSt} (H : Mach w0 w (mparts w0.heap.size S)) (hT : Taken S.each S.ct S.mt) {j : Nat} (hj : S.ct j < S.each) : mget S.mf ((j * S.each + S.ct j : Nat) : Int) = none := by
  cases h : mget S.mf ((j * S.each + S.ct j : Nat) : Int) with
  | none => rfl
  | some q => exact absurd (((M_mem H).ok.io _ _).2 h) (hT.free (M_heap H).le hj q)
section
variable {w0 w : World} {S : MSt} {n each k m mm : Nat} {mn pm pn cur : Int} {ps : Nat}
theorem page_write (H : Mach w0 w (mparts w0.heap.size S)) (F : Fit n each k m mn pm ps pn cur S) (hT : Taken S.each S.ct S.mt) (hok : FrOk each mm) (h1 : 1 ≤ n) (h8 : n ≤ 8) (hk : k < n) (he : each = 16 ∨ each = 8) (hps : ps < 256) (hpol : chk pm ps pn (n : Int) = 0)
    (st : Nat) (nx : Int) (hst : startN pm ps pn (k : Int) cur = ((st : Int), nx)) (hst8 : st < n) (j : Nat) (hj : j < n) (hnv : nearV (withL (permN pm ps (n : Int)) (rowLn n st)) (maysL n each S.ct mn n) = ((j : Int), true)) (hmay : mayB each (S.ct j) mn = true) (hev : S.evs.length < 1000)
    (k0 x N' : Nat) (hk0 : k0 + x < 4096) (ha : mget S.live (64 * (k0 : Int)) = some (.int .i64 (N' : Int))) (hx : 64 * x < N') (hN' : N' ≤ 100000) (hmt : mget S.mt ((k0 + x : Nat) : Int) = none) (ei g : Nat) (u : Int) (hex : S.ex[ei]? = some (blkP g 5 [.int .u8 u])) (mc : Nat) (hmc : 1 ≤ mc) :
    Calls Tryz.prog 11 #[ptr m, .int .i64 (k : Int), .int .i64 (64 * (k0 : Int)), .int .i64 (64 * (x : Int)), .slice (some ⟨g, 0, none⟩) 1 mc] w fun e w' => e = .returned (.int .i64 0) ∧
      ∃ S' : MSt, Mach w0 w' (mparts w0.heap.size S') ∧ Fit n each k m mn pm ps pn nx S' ∧ Taken S'.each S'.ct S'.mt ∧ S'.ct = ctUp S.ct j ∧ S'.evs = S.evs ++ [Ev.mk (j : Int) (st : Int) (k : Int) (decide (pm = 2))] ∧ S'.mt = mput S.mt ((k0 + x : Nat) : Int) ((j * each + S.ct j : Nat) : Int) ∧
        S'.by_ = wrB S'.mt (putL S.by_ ((j * each + S.ct j) * 64) zeros64) (64 * (k0 + x)) [u] ∧ S'.live = S.live ∧ S'.ex = S.ex ∧ S'.Z = S.Z := by
  obtain ⟨f1, f2, f3, f4, f5, f6, f7, f8, f9, f10, c, fc, fnd, fm, fs, fpn, fcur⟩ := F
  subst f1 f2 f3 f4; subst fm
  have hch := chk_line h1 h8 f6 (by rw [f7]; rcases he with h | h <;> rw [h] <;> simp) f8 f9
  obtain ⟨r, hr, hrz⟩ := row_line hst8 f9
  have how : S.t.cs[k]? = some (k : Int) := by rw [f8]; exact idL_at hk
  have hjc : S.ct j < S.each := by
    unfold mayB at hmay
    rw [Bool.and_eq_true] at hmay
    exact of_decide_eq_true hmay.1
  have hmf := H.free hT hjc
  have htc := ma_touch H hok f5 f6 hch k c fc k how ps hps fs (by rw [fpn, f6]; exact hpol) st nx (by rw [fpn, fcur]; exact hst) r hr j hj (by rw [f6, hrz]; exact hnv) hmay hev k fnd hk hst8 (k0 + x) hk0 (by rw [f10]) hmt hmf (frame_lt hjc hj)
  obtain ⟨BY, hBY⟩ : ∃ B, putL S.by_ ((j * S.each + S.ct j) * 64) zeros64 = B := ⟨_, rfl⟩
  obtain ⟨f, hf⟩ : ∃ f, j * S.each + S.ct j = f := ⟨_, rfl⟩
  obtain ⟨MT, hMT⟩ : ∃ B, mput S.mt ((k0 + x : Nat) : Int) (f : Int) = B := ⟨_, rfl⟩
  obtain ⟨MF, hMF⟩ : ∃ B, mput S.mf (f : Int) ((k0 + x : Nat) : Int) = B := ⟨_, rfl⟩
  obtain ⟨CT, hCT⟩ : ∃ B, ctUp S.ct j = B := ⟨_, rfl⟩
  obtain ⟨EV, hEV⟩ : ∃ B, S.evs ++ [Ev.mk (j : Int) (st : Int) (k : Int) (decide (c.m = 2))] = B := ⟨_, rfl⟩
  obtain ⟨CP, hCP⟩ : ∃ B, S.cpus.set k { c with cur := nx } = B := ⟨_, rfl⟩
  have hTp : Taken S.each CT MT := by
    rw [← hCT, ← hMT, ← hf]
    exact hT.put j _
  have hmp : mapped MT (k0 + x) := by rw [← hMT]; exact mapped_put _ (Or.inl rfl)
  have hcp : CP[k]? = some { c with cur := nx } := by
    rw [← hCP, List.getElem?_set_self (List.getElem?_eq_some_iff.1 fc).1]
  rw [hBY, hf, hMT, hMF, hCT, hEV, hCP] at htc
  rw [hBY, hf, hMT, hCT, hEV]
  clear hBY hMT hMF hCT hEV hCP hmf hnv hT
  have hrc := ma_reach H k c fc k0 x N' (by omega) ha hx hN' (fun w' => ∃ A' c', Mach w0 w' (mparts w0.heap.size { S with ct := CT, cpus := CP, lA := A', lc := c', evs := EV, by_ := BY, mt := MT, mf := MF })) (htc.mono fun e w' ⟨A', c', h1, h2⟩ => ⟨h1, A', c', h2⟩)
  have hwr := ma_write (w0 := w0) S.m k k0 x hk0 (some ⟨g, 0, none⟩) mc u hmc (fun T => ∃ A' c', T = { S with ct := CT, cpus := CP, lA := A', lc := c', evs := EV, by_ := BY, mt := MT, mf := MF })
    (hrc.mono fun e w' ⟨h1, A', c', h2⟩ => ⟨h1, _, h2, rfl, ⟨A', c', rfl⟩, hmp, InB.cell1 (M_ex h2 (j := ei) hex), off_ex h2 (e := ei) hex⟩)
  refine hwr.mono ?_
  rintro e w' ⟨rfl, T, h2, h3, ⟨A', c', rfl⟩, h5⟩
  exact ⟨rfl, _, h2, ⟨rfl, rfl, rfl, rfl, f5, f6, f7, f8, f9, f10, { c with cur := nx }, hcp, fnd, rfl, fs, fpn, rfl⟩, hTp, rfl, rfl, rfl, rfl, rfl, rfl, rfl⟩
theorem page_no (H : Mach w0 w (mparts w0.heap.size S)) (F : Fit n each k m mn pm ps pn cur S) (hok : FrOk each mm) (h1 : 1 ≤ n) (h8 : n ≤ 8) (hk : k < n) (he : each = 16 ∨ each = 8) (hps : ps < 256) (hpol : chk pm ps pn (n : Int) = 0)
    (st : Nat) (hst : startN pm ps pn (k : Int) cur = ((st : Int), cur)) (hst8 : st < n) (hnv : nearV (withL (permN pm ps (n : Int)) (rowLn n st)) (maysL n each S.ct mn n) = (0, false))
    (k0 x N' : Nat) (hk0 : k0 + x < 4096) (ha : mget S.live (64 * (k0 : Int)) = some (.int .i64 (N' : Int))) (hx : 64 * x < N') (hN' : N' ≤ 100000) (hmt : mget S.mt ((k0 + x : Nat) : Int) = none) (A : Option Addr) (mc : Nat) :
    Calls Tryz.prog 11 #[ptr m, .int .i64 (k : Int), .int .i64 (64 * (k0 : Int)), .int .i64 (64 * (x : Int)), .slice A 1 mc] w fun e w' => e = .returned (.int .i64 5) ∧ Mach w0 w' (mparts w0.heap.size S) := by
  obtain ⟨f1, f2, f3, f4, f5, f6, f7, f8, f9, f10, c, fc, fnd, fm, fs, fpn, fcur⟩ := F
  subst f1 f2 f3 f4
  have hch := chk_line h1 h8 f6 (by rw [f7]; rcases he with h | h <;> rw [h] <;> simp) f8 f9
  obtain ⟨r, hr, hrz⟩ := row_line hst8 f9
  have how : S.t.cs[k]? = some (k : Int) := by rw [f8]; exact idL_at hk
  have htc := ma_touch_no H hok f5 f6 hch k c fc k how ps hps fs (by rw [fm, fpn, f6]; exact hpol) st (by rw [fm, fpn, fcur]; exact hst) r hr (by rw [fm, f6, hrz]; exact hnv) (k0 + x) hk0 (by rw [f10]) hmt
  exact ma_write_no S.m k _ _ A mc _ (ma_reach_no H k c fc k0 x N' (by omega) ha hx hN' _ htc)
end
end Go.Proofs.YtjdbedoabcbeeaaGreatDoor
/- alloc.New. -/
namespace Go.Proofs.YtjdbedoabcbeeaaGreatDoor
open Go.RowKit
set_option linter.unusedVariables false
set_option linter.unusedSimpArgs false
attribute [local go_sem] World.cell?_alloc_lt

theorem info_pcpu : (Tryz.prog.info? 68).map (fun i => (i.zero, i.size, i.bytes)) = some (some (.pointer none), 1, 8) := by kernel_rfl
theorem info_pring : (Tryz.prog.info? 73).map (fun i => (i.zero, i.size, i.bytes)) = some (some (.pointer none), 1, 8) := by kernel_rfl
/-- The CPUs as New makes them. -/
def Fresh (cs : List Int) (L : List CpuR) : Prop := L.map (·.nd) = cs ∧ ∀ c ∈ L, c.m = 0 ∧ c.s = 0 ∧ c.pn = 0 ∧ c.cur = 0
theorem fresh_snoc {cs : List Int} {L : List CpuR} (h : Fresh cs L) (b q : Nat) (x : Int) : Fresh (cs ++ [x]) (L ++ [⟨b, q, x, 0, 0, 0, 0⟩]) := by
  refine ⟨by rw [List.map_append, h.1]; rfl, fun c hc => ?_⟩
  rcases List.mem_append.1 hc with hc | hc
  · exact h.2 c hc
  · rw [List.mem_singleton] at hc
    subst hc
    exact ⟨rfl, rfl, rfl, rfl⟩
set_option maxRecDepth 100000 in
set_option maxHeartbeats 4000000 in
theorem new_any (N each mm : Nat) (hok : FrOk each mm) (h1 : 1 ≤ N) (h8 : N ≤ 8) (he1 : 1 ≤ each) (he2 : each ≤ 1024) (mn lo hi : Int) (g1 : 0 ≤ mn) (g2 : mn ≤ lo) (g3 : lo ≤ hi) (g4 : hi ≤ (each : Int)) (t : TopoV) (htN : t.N = (N : Int)) (htF : t.F = (each : Int)) (hck : chkT t = 0) (w : World) (hT : InTopo w t) :
    Calls Tryz.prog 5 #[t.val, .agg #[.int .i64 mn, .int .i64 lo, .int .i64 hi]] w fun e w' => ∃ S : MSt, e = .returned (.tuple #[ptr S.m, .int .i64 0]) ∧ Mach w w' (mparts w.heap.size S) ∧
      S.N = N ∧ S.each = each ∧ S.mn = mn ∧ S.lo = lo ∧ S.hi = hi ∧ S.B.length = N ∧ S.ct = (fun _ => 0) ∧ S.t.N = t.N ∧ S.t.F = t.F ∧ S.t.cs = t.cs ∧ S.t.ds.map RowV.zs = t.ds.map RowV.zs ∧ S.Z = [] ∧ S.live = [] ∧ S.by_ = List.replicate (N * each * 64) 0 ∧ S.mt = [] ∧ S.mf = [] ∧ S.pf = (fun _ => none) ∧ S.evs = [] ∧ Fresh t.cs S.cpus := by
  obtain ⟨hN1, hN8, hc1, hc16, hdl, hrl, hcs⟩ := chk_okT hck
  have hW : ∃ wA, wA = (w.alloc (.cells #[.int .i64 t.N, .int .i64 t.F, .slice t.ca t.cs.length t.cc, .slice t.da t.ds.length t.dc] 30)).alloc (.cells #[.int .i64 mn, .int .i64 lo, .int .i64 hi] 33) := ⟨_, rfl⟩
  obtain ⟨wA, hWA⟩ := hW
  have hbA : Below w.heap.size w wA := by rw [hWA]; exact bel_alloc (bel_alloc (Below.refl _ _) _) _
  have hb2 : Blk wA w.heap.size 30 [.int .i64 t.N, .int .i64 t.F, .slice t.ca t.cs.length t.cc, .slice t.da t.ds.length t.dc] := by
    rw [hWA]; exact (Blk.new w 30 [.int .i64 t.N, .int .i64 t.F, .slice t.ca t.cs.length t.cc, .slice t.da t.ds.length t.dc]).alloc _
  have hb3 : Blk wA (w.heap.size + 1) 33 [.int .i64 mn, .int .i64 lo, .int .i64 hi] := by
    rw [hWA]
    have h := Blk.new (w.alloc (.cells #[.int .i64 t.N, .int .i64 t.F, .slice t.ca t.cs.length t.cc, .slice t.da t.ds.length t.dc] 30)) 33 [.int .i64 mn, .int .i64 lo, .int .i64 hi]
    rw [show (w.alloc (.cells #[.int .i64 t.N, .int .i64 t.F, .slice t.ca t.cs.length t.cc, .slice t.da t.ds.length t.dc] 30)).heap.size = w.heap.size + 1 by simp] at h
    exact h
  have hTA := hT.below hbA
  have hkA := topo_check t wA hTA
  rw [hck] at hkA
  have hcp := fun w' (hT' : InTopo w' t) => copied_any t (by omega) (by omega) (by omega) (fun r hr => by have := hrl r hr; omega) w' hT'
  have hHN := fun w' => he_new N each mm hok h1 h8 mn lo hi g1 g2 g3 g4 w'
  have HI0 := Lib.hid hT.c
  obtain ⟨ie, he0, hez, he1', he2'⟩ := info_parts info_pcpu
  have HE0 := Lib.hid he0; have HEZ := Lib.hid hez; have HE1 := Lib.hid he1'; have HE2 := Lib.hid he2'
  obtain ⟨ir, hr0, hrz, hr1, hr2⟩ := info_parts info_pring
  have HR0 := Lib.hid hr0; have HRZ := Lib.hid hrz; have HR1 := Lib.hid hr1; have HR2 := Lib.hid hr2
  clear he0 hez he1' he2' hr0 hrz hr1 hr2
  obtain ⟨tN, tF, ca, cc, cs, da, dc, ds⟩ := t
  simp only [TopoV.val] at *
  subst htN htF
  have HK := Lib.hid hkA; have HCP := Lib.hid hcp; have HHN := Lib.hid hHN; have HBA := Lib.hid hbA; have HB2 := Lib.hid hb2; have HB3 := Lib.hid hb3; have HTA := Lib.hid hTA; have HCS := Lib.hid hcs; have HRL := Lib.hid hrl
  clear hkA hcp hHN hbA hb2 hb3 hTA hT hcs hrl hck hdl
  go_enter Tryz.func5, Tryz.ntmps5
  go_upto_region 1 with fail
  rw [← hWA]
  clear hWA
  generalize hg3 : w.heap.size + 1 = b3 at *
  have j0 := HB2.out.at_ (i := 0) rfl
  have j1 := HB2.out.at_ (i := 1) rfl
  have j2 := HB2.out.at_ (i := 2) rfl
  have j3 := HB2.out.at_ (i := 3) rfl
  go_wp2_with fail
  refine HK.out.mono ?_; rintro e w1 ⟨rfl, hB1⟩
  have b2 := HB2.out.below hB1
  have b3' := HB3.out.below hB1
  have hT1 := HTA.out.below hB1
  have hBw1 := bel_trans HBA.out hB1
  have q0 := b2.at_ (i := 0) rfl
  have q1 := b2.at_ (i := 1) rfl
  have r0 := b3'.at_ (i := 0) rfl
  have r1 := b3'.at_ (i := 1) rfl
  have r2 := b3'.at_ (i := 2) rfl
  have HB2 := Lib.hid b2; have HT1 := Lib.hid hT1; have HBW1 := Lib.hid hBw1
  clear HK HTA HBA b2 b3' hT1 hBw1 j0 j1 j2 j3 HB3 hB1
  go_wp2_with fail
  refine (HHN.out w1).mono ?_; rintro e w2 ⟨h, hA, hc, B, rfl, hH, hBl, hfo, hB2⟩
  have M1 : Mach w w2 ([] ++ [heapP w.heap.size h hA hc each mn lo hi B (fun _ => 0)]) := ((Mach.nil w).below HBW1.out).add hB2 (heap_base hH HBW1.out.size) hfo
  have b2 := HB2.out.below hB2
  have hT2 := HT1.out.below hB2
  have j0 := b2.at_ (i := 0) rfl
  have j1 := b2.at_ (i := 1) rfl
  have j2 := b2.at_ (i := 2) rfl
  have j3 := b2.at_ (i := 3) rfl
  have HM1 := Lib.hid M1; have HB2 := Lib.hid b2; have HT2 := Lib.hid hT2; have HBL := Lib.hid hBl
  clear HT1 HBW1 HHN M1 hH hfo hB2 b2 hT2 hBl q0 q1 r0 r1 r2
  go_wp2_with fail
  refine (HCP.out w2 HT2.out).mono ?_; rintro e w3 ⟨t', rfl, hO, e1, e2, e3, e4, hB3⟩
  have M2 := HM1.out.add (p' := topoP w.heap.size t') hB3 (tt_base hO HM1.out.bel.size) (fun x hx => (hO.range x hx).1)
  have b2 := HB2.out.below hB3
  have hT3 := HT2.out.below hB3
  have HM2 := Lib.hid M2; have HB2 := Lib.hid b2; have HT3 := Lib.hid hT3; have HE := Lib.hid (And.intro e1 (And.intro e2 (And.intro e3 e4)))
  clear HT2 HM1 HCP M2 hO e1 e2 e3 e4 hB3 b2 hT3 j0 j1 j2 j3
  go_wp2_with fail
  refine (sp_new w3).mono ?_; rintro e w4 ⟨s, rfl, hSp, hs4, hB4⟩
  have M3 := HM2.out.add (p' := spP w.heap.size s none 0 []) hB4 (sp_base hSp HM2.out.bel.size) (by intro x hx; simp [spP, spFoot] at hx; subst hx; exact hs4)
  have b2 := HB2.out.below hB4
  have hT4 := HT3.out.below hB4
  have M4 := M3.add (p' := mapP w4.heap.size []) (bel_alloc (Below.refl _ w4) (.map #[] 0)) (MapAt.new (κ := intKeys) w4) (by intro x hx; simp [mapP] at hx; subst hx; exact Nat.le_refl _)
  have b4 := b2.below (bel_alloc (Below.refl _ w4) (.map #[] 0))
  have hT5 := hT4.below (bel_alloc (Below.refl _ w4) (.map #[] 0))
  have e5 : (w4.alloc (.map #[] 0)).heap.size = w4.heap.size + 1 := by simp
  have hmm := @run_makeMap Tryz.prog
  have HM4 := Lib.hid M4; have HB4 := Lib.hid b4; have HT5 := Lib.hid hT5; have HE5 := Lib.hid e5
  clear HT3 HM2 HB2 M3 M4 b2 hT4 b4 hT5 hSp hs4 hB4 e5
  go_upto_region 8 with fail
  have M5 := HM4.out.add (p' := mapP (w4.heap.size + 1) []) (bel_alloc (Below.refl _ _) (.map #[] 0)) (by have h := MapAt.new (κ := intKeys) (w4.alloc (.map #[] 0)); rw [HE5.out] at h; exact h) (by intro x hx; simp [mapP] at hx; subst hx; rw [HE5.out]; exact Nat.le_refl _)
  have M6 := M5.add (p' := blkP (w4.heap.size + 1 + 1) 66 (macV t' (.pointer none) (ptr h) (ptr s) (.pointer none) (.pointer none) (.slice none 0 0) (.slice none 0 0) w4.heap.size (w4.heap.size + 1))) (bel_alloc (Below.refl _ _) (.cells #[.int .i64 t'.N, .int .i64 t'.F, .slice t'.ca t'.cs.length t'.cc, .slice t'.da t'.ds.length t'.dc, .pointer none, ptr h, ptr s, .pointer none, .pointer none, .slice none 0 0, .slice none 0 0, .map (some w4.heap.size), .map (some (w4.heap.size + 1))] 66))
    (by have h := Blk.new ((w4.alloc (.map #[] 0)).alloc (.map #[] 0)) 66 (macV t' (.pointer none) (ptr h) (ptr s) (.pointer none) (.pointer none) (.slice none 0 0) (.slice none 0 0) w4.heap.size (w4.heap.size + 1)); rw [show ((w4.alloc (.map #[] 0)).alloc (.map #[] 0)).heap.size = w4.heap.size + 1 + 1 by simp] at h; exact h)
    (by intro x hx; simp [blkP] at hx; subst hx; simp)
  have b6 := (HB4.out.below (bel_alloc (Below.refl _ _) (.map #[] 0))).below (bel_alloc (Below.refl _ _) (.cells #[.int .i64 t'.N, .int .i64 t'.F, .slice t'.ca t'.cs.length t'.cc, .slice t'.da t'.ds.length t'.dc, .pointer none, ptr h, ptr s, .pointer none, .pointer none, .slice none 0 0, .slice none 0 0, .map (some w4.heap.size), .map (some (w4.heap.size + 1))] 66))
  have hne6 : (w.heap.size : Nat) ∉ [w4.heap.size + 1 + 1] := by
    have hm : Blk _ (w4.heap.size + 1 + 1) 66 _ := M6.get (k := 5) rfl
    have := b6.ne_ hm (by decide)
    simpa using this
  have hP := parts_any N each h1 h8 he1 he2 t' HE.out.1 HE.out.2.1 (w4.heap.size + 1 + 1) w4.heap.size (w4.heap.size + 1) (ptr h) (ptr s) (.slice none 0 0) (.slice none 0 0) _ _ _ _ _ w _ M6
  have HP := Lib.hid hP; have HB6 := Lib.hid b6; have HN6 := Lib.hid hne6
  clear hP M5 M6 b6 hne6 HM4 HB4 HT5 hmm
  generalize w4.heap.size + 1 = bl at *
  generalize bl + 1 = m at *
  generalize w4.heap.size = bs at *
  go_wp2_with fail
  refine HP.out.mono ?_; rintro e w9 ⟨mb, g, b, tg, bt, bf, gb, bb, gl, bc, rfl, M9, hC9⟩
  have b9 := HB6.out.ch hC9 HN6.out
  have M10 := (M9.add (p' := rowP w.heap.size 68 1 none 0 0 []) (Below.refl _ _) (World.ownsRow_nil _ _ _ _) (by intro x hx; simp [rowP, ablk] at hx)).add (p' := rowP w.heap.size 73 1 none 0 0 []) (Below.refl _ _) (World.ownsRow_nil _ _ _ _) (by intro x hx; simp [rowP, ablk] at hx)
  have hS0 : ∃ S : MSt, S.m = m ∧ S.cpus = [] ∧ S.cA = none ∧ S.cc = 0 ∧ S.qs = [] ∧ S.qA = none ∧ (S.qc = 0 ∧ S.ex = []) ∧ Mach w w9 (mparts w.heap.size S) ∧
      S.N = N ∧ S.each = each ∧ S.mn = mn ∧ S.lo = lo ∧ S.hi = hi ∧ S.B.length = N ∧ S.ct = (fun _ => 0) ∧ S.t.N = (N : Int) ∧ S.t.F = (each : Int) ∧ S.t.cs = cs ∧ S.t.ds.map RowV.zs = ds.map RowV.zs ∧ S.Z = [] ∧ S.live = [] ∧ S.by_ = List.replicate (N * each * 64) 0 ∧ S.mt = [] ∧ S.mf = [] ∧ S.pf = (fun _ => none) ∧ S.evs = [] :=
    ⟨⟨N, each, m, h, hA, hc, mn, lo, hi, B, fun _ => 0, t', s, none, 0, [], bs, bl, [], mb, g, b, tg, bt, bf, List.replicate (N * each * 64) 0, [], [], gb, bb, fun _ => none, gl, bc, none, 0, [], none, 0, [], none, 0, [], []⟩, rfl, rfl, rfl, rfl, rfl, rfl, ⟨rfl, rfl⟩, M10, rfl, rfl, rfl, rfl, rfl, HBL.out, rfl, HE.out.1, HE.out.2.1, HE.out.2.2.1, HE.out.2.2.2, rfl, rfl, rfl, rfl, rfl, rfl, rfl⟩
  obtain ⟨S0, rfl, z1, z2, z3, z4, z5, z6, M0, hrest⟩ := hS0
  have HM0 := Lib.hid M0; have HRE := Lib.hid hrest; have HB9 := Lib.hid b9; have HZ := Lib.hid (And.intro z1 (And.intro z2 (And.intro z3 (And.intro z4 (And.intro z5 z6)))))
  have j2 := b9.at_ (i := 2) rfl
  clear M9 hC9 b9 M10 HP HB6 HN6 HBL HE M0 hrest z1 z2 z3 z4 z5 z6
  go_wp2_with fail
  go_loopw [48] (fun v wr => ∃ (i : Nat) (A : Option Addr) (c : Nat) (L : List CpuR), i ≤ cs.length ∧ L.length = i ∧ v = .int .i64 (i : Int) ∧ Mach w wr (mparts w.heap.size { S0 with cA := A, cc := c, cpus := L }) ∧ Fresh (cs.take i) L ∧ Blk wr w.heap.size 30 [.int .i64 (N : Int), .int .i64 (each : Int), .slice ca cs.length cc, .slice da ds.length dc]) (fun v _ => cs.length - (intOf v).toNat)
  case atStart => exact ⟨0, none, 0, [], by omega, rfl, rfl, by obtain ⟨z1, z2, z3, z4, z5, z6⟩ := HZ.out; rw [← z1, ← z2, ← z3]; exact HM0.out, ⟨rfl, by simp⟩, HB9.out⟩
  case round =>
    clear j2 HB9 HM0
    obtain ⟨i, A, c, L, hi2, hLl, rfl, hM, hFr, hb⟩ := hrel
    have HM := Lib.hid hM; have HFR := Lib.hid hFr; have HLL := Lib.hid hLl; have HTB := Lib.hid hb
    by_cases hlt : i < cs.length
    · obtain ⟨qb, qo, rfl, hqb, hqc⟩ := (HI0.out.below hM.bel).get hlt
      have htk : cs.take (i + 1) = cs.take i ++ [cs.getD i 0] := by
        rw [List.take_add_one, List.getElem?_eq_getElem hlt, List.getD_eq_getElem?_getD, List.getElem?_eq_getElem hlt]; rfl
      have HTK := Lib.hid htk
      generalize cs.getD i 0 = x at *
      have hMM := M_mac hM
      have m9 : wr.cell? ⟨S0.m, 9, none⟩ = some (.slice A L.length c) := hMM.at_ (i := 9) rfl
      rw [hLl] at m9
      have hm1 : S0.m < wr.heap.size := hMM.lt
      have hb00 := bel_drew (Below.refl wr.heap.size wr)
      have HB00 := Lib.hid hb00
      have hsw := hM.bel.size
      have hneM : w.heap.size ≠ S0.m := hb.ne_ hMM (by decide)
      have HNM := Lib.hid hneM
      clear hM hFr hb htk hb00 hLl hneM hMM
      go_upto_region 14 with fail
      go_region_law
        (first
          | (go_simp; go_at_call 21; refine (ca_new _).mono ?_; rintro e w5 ⟨rfl, hF5, hB5'⟩; have hB5 : Below wr.heap.size wr w5 := (by first | exact hB5' | exact bel_trans HB00.out hB5'); have hF5 : Four w5 wr.heap.size 120 wr.heap.size (List.replicate 4 (.slice none 0 0)) (fun _ => []) := hF5; have hMM := M_mac (HM.out.below hB5); have hk9 : w5.cell? ⟨S0.m, 9, none⟩ = some (.slice A L.length c) := hMM.at_ (i := 9) rfl; rw [HLL.out] at hk9; have hOD := own_chV (own_chV (M_row (HM.out.below hB5)) ((Ch.refl [] w5).alloc (cpuO x wr.heap.size)) (by simp)) ((Ch.refl [] _).alloc (pcpO w5.heap.size)) (by simp); have hm15 : S0.m < w5.heap.size := hMM.lt; clear hMM; have hsw5 := hB5.size; have hl5 := HLL.out)
          | (refine step_append_lies _ (by rfl) (.tmp 56) (.tmp 61) _ (by rfl) w.heap.size 68 ie _ 1 8 Tryz.underlying63 HE0.out HEZ.out HE1.out HE2.out rfl (by omega) (.slice A i c) i (L.map cpuB) (by rfl) (by first | (rw [← HLL.out]; exact hOD))
              ⟨w5.heap.size + 1, 0, none⟩ 1 1 [Value.pointer (some ⟨w5.heap.size, 0, none⟩)] (by rfl) (by rfl) (news2 w5 (cpuO x wr.heap.size) _ _) (by simp [Value.oneCell']) (by omega) (by unfold maxLen; omega) (by omega) (by simp; omega) (w5.heap.size + 1 + 1) (by simp) ?_; intro gg cap w6 hown6 hgrow6 hat6 hlt6; have hp := cpu_push HM.out HLL.out hB5 hF5 x hgrow6 hat6 hown6 HZ.out.2.2.2.2.2.2; have m9' := hp.1.1; have f9' := hp.1.2))
      all_goals
        have HP1 := Lib.hid hp.2.1
        have HP2 := Lib.hid (hp.2.2 _ _ _ HTB.out (by decide) HNM.out)
        clear hp hown6 hgrow6 hat6 hlt6 hOD hk9 hF5 hB5 hB5' m9
        go_wp2_with fail
        go_roundw
        case rel => exact ⟨i + 1, _, _, _, by omega, by rw [List.length_append, HLL.out]; rfl, by go_num, HP1.out, by rw [HTK.out]; exact fresh_snoc HFR.out _ _ _, HP2.out⟩
        case measure => simp [intOf]; omega
    · obtain rfl : i = cs.length := by omega
      rw [List.take_length] at hFr
      have hS1 : ∃ S : MSt, S.m = S0.m ∧ S.qs = [] ∧ S.qA = none ∧ S.qc = 0 ∧ Mach w wr (mparts w.heap.size S) ∧ Fresh cs S.cpus ∧
          S.N = N ∧ S.each = each ∧ S.mn = mn ∧ S.lo = lo ∧ S.hi = hi ∧ S.B.length = N ∧ S.ct = (fun _ => 0) ∧ S.t.N = (N : Int) ∧ S.t.F = (each : Int) ∧ S.t.cs = cs ∧ S.t.ds.map RowV.zs = ds.map RowV.zs ∧ S.Z = [] ∧ S.live = [] ∧ S.by_ = List.replicate (N * each * 64) 0 ∧ S.mt = [] ∧ S.mf = [] ∧ S.pf = (fun _ => none) ∧ S.evs = [] :=
        ⟨{ S0 with cA := A, cc := c, cpus := L }, rfl, HZ.out.2.2.2.1, HZ.out.2.2.2.2.1, HZ.out.2.2.2.2.2.1, hM, hFr, HRE.out⟩
      obtain ⟨S1, hm1, z4, z5, z6, M1, hFr1, hre⟩ := hS1
      have HM1 := Lib.hid M1; have HRE1 := Lib.hid hre; have HFR1 := Lib.hid hFr1; have HZ1 := Lib.hid (And.intro z4 (And.intro z5 z6))
      have k0 := hb.at_ (i := 0) rfl
      clear hM hFr hb HM HFR HRE HZ M1 hre hFr1 z4 z5 z6 HLL hLl hi2
      generalize S0.m = m0 at *
      subst hm1
      go_wp2_with fail
      clear k0
      go_loopw [68] (fun v wx => ∃ (i : Nat) (A : Option Addr) (c : Nat) (Q : List Value), i ≤ N ∧ Q.length = i ∧ v = .int .i64 (i : Int) ∧ Mach w wx (mparts w.heap.size { S1 with qA := A, qc := c, qs := Q })) (fun v _ => N - (intOf v).toNat)
      case atStart => exact ⟨0, none, 0, [], by omega, rfl, rfl, by obtain ⟨z4, z5, z6⟩ := HZ1.out; rw [← z4, ← z5, ← z6]; exact HM1.out⟩
      case round =>
        clear HM1
        obtain ⟨i, A, c, Q, hi2, hQl, rfl, hM⟩ := hrel
        by_cases hlt : i < N
        · have hrg := ring_new wr
          have HRG := Lib.hid hrg; have HM := Lib.hid hM; have HQL := Lib.hid hQl
          clear hrg hM hQl
          go_wp2_with fail
          refine HRG.out.mono ?_; rintro e w5 ⟨q, rfl, hq, hB5⟩
          have hM5 := HM.out.below hB5
          have hMM := M_mac hM5
          have k10 : w5.cell? ⟨S1.m, 10, none⟩ = some (.slice A Q.length c) := hMM.at_ (i := 10) rfl
          rw [HQL.out] at k10
          have hrow : w5.ownsRow w.heap.size 73 1 (.slice A Q.length c) Q.length Q := hM5.get (k := 10) rfl
          have hOK := own_chV hrow ((Ch.refl [] w5).alloc (prgO q)) (by simp)
          rw [HQL.out] at hOK
          have HOK := Lib.hid hOK; have HBL := Lib.hid (Blk.new w5 73 [Value.pointer (some ⟨q, 0, none⟩)]); have HB5 := Lib.hid hB5
          have hsw := hM5.bel.size
          clear hM5 hMM hrow hOK hB5 HRG
          go_wp2_with (at_builtin; refine wpList_push _ rfl (.tmp 81) (.tmp 83) 64 rfl w.heap.size 73 (.pointer none) 8 Tryz.underlying64 info_pring rfl A i c Q rfl HOK.out w5.heap.size 1 (.pointer (some ⟨q, 0, none⟩)) rfl (HBL.out.at_ rfl) rfl (by omega) (by omega) (by simp; omega) ?_)
          intro gg cap w6 hown6 hgrow6 hat6
          have hp := queue_push HM.out HQL.out HB5.out hgrow6 hat6 hown6
          have m10' := hp.1.1
          have f10' := hp.1.2
          have HP1 := Lib.hid hp.2
          clear hp hown6 hgrow6 hat6 HOK HBL HB5 k10
          go_wp2_with fail
          go_roundw
          case rel => exact ⟨i + 1, _, _, _, by omega, by rw [List.length_append, HQL.out]; rfl, by go_num, HP1.out⟩
          case measure => simp [intOf]; omega
        · have HM := Lib.hid hM
          clear hM
          go_wp2_with fail
          go_ret2
          exact ⟨{ S1 with qA := A, qc := c, qs := Q }, rfl, HM.out, HRE1.out.1, HRE1.out.2.1, HRE1.out.2.2.1, HRE1.out.2.2.2.1, HRE1.out.2.2.2.2.1, HRE1.out.2.2.2.2.2.1, HRE1.out.2.2.2.2.2.2.1, HRE1.out.2.2.2.2.2.2.2.1, HRE1.out.2.2.2.2.2.2.2.2.1, HRE1.out.2.2.2.2.2.2.2.2.2.1, HRE1.out.2.2.2.2.2.2.2.2.2.2.1, HRE1.out.2.2.2.2.2.2.2.2.2.2.2.1, HRE1.out.2.2.2.2.2.2.2.2.2.2.2.2.1, HRE1.out.2.2.2.2.2.2.2.2.2.2.2.2.2.1, HRE1.out.2.2.2.2.2.2.2.2.2.2.2.2.2.2.1, HRE1.out.2.2.2.2.2.2.2.2.2.2.2.2.2.2.2.1, HRE1.out.2.2.2.2.2.2.2.2.2.2.2.2.2.2.2.2.1, HRE1.out.2.2.2.2.2.2.2.2.2.2.2.2.2.2.2.2.2, HFR1.out⟩
end Go.Proofs.YtjdbedoabcbeeaaGreatDoor
