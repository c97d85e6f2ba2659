/- memory.Write. -/
import Derived.Test.YtbgnaohjcfbaaaaDoorMemPieces
namespace Go.Proofs.YtbgnaohjcfbaaaaDoor
open Go.RowKit
set_option linter.unusedVariables false
set_option linter.unusedSimpArgs false
attribute [local go_sem] World.cell?_alloc_lt

theorem idx_piece (b n c i : Nat) (hi : i < n) (w : World) : (Instr.indexAt 69 (.slice (some ⟨b, 0, none⟩) n c) (.int .i64 (i : Int))).run Tryd.prog w = .ok (.pointer (some ⟨b, i * 3, none⟩)) w := by
  simp [go_sem, hi]
theorem own3_at {w : World} {base e n c : Nat} {A : Option Addr} {P : List Pc} {i : Nat} {p : Pc} (h : w.ownsRow base e 3 (.slice A n c) n (pcCells P)) (hi : i < n) (hm : P[i]? = some p) : ∃ g, A = some ⟨g, 0, none⟩ ∧ g < w.heap.size ∧ base ≤ g ∧ w.cell? ⟨g, i * 3, none⟩ = some (.int .i64 (p.1 : Int)) ∧ w.cell? ⟨g, i * 3 + 1, none⟩ = some (.int .i64 (p.2.1 : Int)) ∧ w.cell? ⟨g, i * 3 + 2, none⟩ = some (.int .i64 (p.2.2 : Int)) := by
  obtain ⟨g, cap, hv, hb, hlt⟩ := h.form (by omega)
  injection hv with hA _ _
  subst hA
  have hc := pcCells_at P i p hm
  have h1 := h.cells (g := g) rfl (i * 3) _ hc.1
  have h2 := h.cells (g := g) rfl (i * 3 + 1) _ hc.2.1
  have h3 := h.cells (g := g) rfl (i * 3 + 2) _ hc.2.2
  rw [WideShapes.add_plain, Nat.zero_add] at h1 h2 h3
  exact ⟨g, rfl, hlt, hb, h1, h2, h3⟩
/-- The address of s[k:]. -/
def cutB (A : Option Addr) (c k : Nat) : Option Addr := if c = k then A else A.map (·.add k)
theorem cut_lo_b (A : Option Addr) (n c k : Nat) (K : Int) (hK : K = (k : Int)) (hk : k ≤ n) (hn : n ≤ c) (w : World) : (Instr.sliceAt 34 (.slice A n c) (some (.int .i64 K)) none none).run Tryd.prog w = .ok (.slice (cutB A c k) (n - k) (c - k)) w := by
  subst hK
  have h0 : (0 : Int) ≤ (k : Int) := by omega
  have h1 : (k : Int) ≤ (n : Int) := by omega
  have h2 : (n : Int) ≤ (c : Int) := by omega
  unfold cutB
  by_cases e : c = k
  · subst e
    have : n = c := by omega
    subst this
    simp [go_sem]
  · rw [if_neg e]
    have h3 : ¬ (c = k) := e
    simp [go_sem, h0, h1, h2, hk, hn, h3]
theorem cut_bytes (a : Option Addr) (len cap n : Nat) (N : Int) (hN : N = (n : Int)) (h : n ≤ cap) (w : World) : (Instr.sliceAt 34 (.slice a len cap) none (some (.int .i64 N)) none).run Tryd.prog w = .ok (.slice a n cap) w := by
  subst hN
  have e : Option.map (fun x : Addr => x.add 0) a = a := by
    cases a with
    | none => rfl
    | some x => simp [Addr.add]
  have h2 : (n : Int) ≤ (cap : Int) := by omega
  simp [go_sem, h, h2, e]
theorem InB.tk {w : World} {A : Option Addr} {n k : Nat} {us : List Int} (h : InB w A n us) (hk : k ≤ n) : InB w A k (us.take k) :=
  ⟨by rw [List.length_take, h.ln]; omega, fun h0 => by
    obtain ⟨b, off, e, hb, hc⟩ := h.at_ (by omega)
    refine ⟨b, off, e, hb, fun j u hj => ?_⟩
    rw [List.getElem?_take] at hj
    split at hj
    · exact hc j u hj
    · cases hj⟩
theorem InB.dp {w : World} {A : Option Addr} {n c k : Nat} {us : List Int} (h : InB w A n us) (hk : k ≤ n) (hn : n ≤ c) : InB w (cutB A c k) (n - k) (us.drop k) :=
  ⟨by rw [List.length_drop, h.ln], fun h0 => by
    obtain ⟨b, off, e, hb, hc⟩ := h.at_ (by omega)
    refine ⟨b, off + k, ?_, hb, fun j u hj => ?_⟩
    · unfold cutB
      rw [if_neg (by omega), e]
      simp [Addr.add]
    · rw [List.getElem?_drop] at hj
      rw [Nat.add_assoc]
      exact hc _ u hj⟩
theorem keep4 {w w' : World} {S : List Nat} {mb p : Nat} {x0 x1 x2 x3 : Value} (k : Ch S w w') (h1 : mb ∉ S) (h2 : p ∉ S) (h : w.cell? ⟨mb, 0, none⟩ = some x0 ∧ w.cell? ⟨p, 0, none⟩ = some x1 ∧ w.cell? ⟨p, 1, none⟩ = some x2 ∧ w.cell? ⟨p, 2, none⟩ = some x3) : w'.cell? ⟨mb, 0, none⟩ = some x0 ∧ w'.cell? ⟨p, 0, none⟩ = some x1 ∧ w'.cell? ⟨p, 1, none⟩ = some x2 ∧ w'.cell? ⟨p, 2, none⟩ = some x3 := ⟨ch_keep k h1 h.1, ch_keep k h2 h.2.1, ch_keep k h2 h.2.2.1, ch_keep k h2 h.2.2.2⟩
def Off (A : Option Addr) (b : Nat) : Prop := ∀ x, A = some x → x.block ≠ b
theorem Off.cut {A : Option Addr} {b c k : Nat} (h : Off A b) : Off (cutB A c k) b := by
  intro x e
  unfold cutB at e
  split at e
  · exact h x e
  · cases A with
    | none => cases e
    | some y =>
      injection e with e
      have hy : (y.add k).block = y.block := by
        unfold Addr.add
        split <;> rfl
      rw [← e]
      rw [hy]
      exact h y rfl
theorem InB.ch1 {w w' : World} {A : Option Addr} {n b : Nat} {us : List Int} (h : InB w A n us) (hA : Off A b) (k : Ch [b] w w') : InB w' A n us :=
  ⟨h.ln, fun h0 => by
    obtain ⟨q, off, e, hb, hc⟩ := h.at_ h0
    exact ⟨q, off, e, Nat.lt_of_lt_of_le hb k.size, fun j u hj => ch_keep k (by simp; exact hA _ e) (hc j u hj)⟩⟩
theorem MemAt.save {w w' : World} {mb g b each nf tg bt bf : Nat} {bs bs' : List Int} {mt mf : List (Int × Int)} (h : MemAt w mb g b each nf tg bt bf bs mt mf) (hG : StoreAt w' g b each nf bs') (k : Ch [b] w w') : MemAt w' mb g b each nf tg bt bf bs' mt mf := by
  have n1 := h.st.ne_ h.fs.dt (by decide)
  have n2 := h.tb.st.ne_ h.fs.dt (by decide)
  have n3 := (blk_ne_map h.fs.dt h.tb.to_).symm
  have n4 := (blk_ne_map h.fs.dt h.tb.fr).symm
  exact ⟨h.st.ch k (by simp [n1]), hG, h.tb.ch k (by simp [n2]) (by simp [n3]) (by simp [n4]), h.ok⟩
section
variable (mb g b each nf tg bt bf : Nat) (bs : List Int) (mt mf : List (Int × Int)) (w : World) (hM : MemAt w mb g b each nf tg bt bf bs mt mf)
include hM
set_option maxRecDepth 100000 in
theorem me_write_no (a m : Nat) (A : Option Addr) (mc : Nat) (hn : m ≤ 65536) (ha : a + m ≤ 262144) (hno : ∃ k, a ≤ k ∧ k < a + m ∧ ¬ mapped mt (k / 64)) : Calls Tryd.prog 9 #[.pointer (some ⟨mb, 0, none⟩), .int .i64 (a : Int), .slice A m mc] w fun e w' => e = .returned (.int .i64 9) ∧ Below w.heap.size w w' := by
  have hp := me_pieces mb g b each nf tg bt bf bs mt mf w hM a m hn ha
  have HP := Lib.hid hp; have HN := Lib.hid hno
  clear hp hM hno
  go_enter Tryd.func9, Tryd.ntmps9
  go_wp2_with fail
  refine HP.out.mono ?_; rintro e w1 ⟨hor, hB⟩
  rcases hor with ⟨A1, P, c1, rfl, _, hcv⟩ | ⟨rfl, _⟩
  · obtain ⟨k, h1, h2, h3⟩ := HN.out
    exact absurd (cov_mapped mt P a (a + m) k hcv h1 h2) h3
  · go_wp2_with fail
    go_loopw [22] (fun v wr => v = .int .i64 0 ∧ wr = w1) (fun _ _ => 0)
    case atStart => exact ⟨rfl, rfl⟩
    case round =>
      obtain ⟨rfl, rfl⟩ := hrel
      go_wp2_with fail
      go_ret
      exact ⟨rfl, hB⟩
set_option maxRecDepth 100000 in
set_option maxHeartbeats 2000000 in
theorem me_write (a m : Nat) (A : Option Addr) (mc : Nat) (us : List Int) (hI : InB w A m us) (hA : 0 < m → Off A b) (hn : m ≤ 65536) (hmc : m ≤ mc) (ha : a + m ≤ 262144) (hmp : ∀ k, a ≤ k → k < a + m → mapped mt (k / 64)) : Calls Tryd.prog 9 #[.pointer (some ⟨mb, 0, none⟩), .int .i64 (a : Int), .slice A m mc] w fun e w' => e = .returned (.int .i64 0) ∧ MemAt w' mb g b each nf tg bt bf (wrB mt bs a us) mt mf ∧ Ch [b] w w' := by
  have hp := me_pieces mb g b each nf tg bt bf bs mt mf w hM a m hn ha
  have HP := Lib.hid hp; have HN := Lib.hid hmp; have HM := Lib.hid hM; have HI := Lib.hid hI
  clear hp hM hmp hI
  go_enter Tryd.func9, Tryd.ntmps9
  go_wp2_with fail
  refine HP.out.mono ?_; rintro e w1 ⟨hor, hB⟩
  rcases hor with ⟨A1, P, c1, rfl, hown, hcv⟩ | ⟨rfl, k, h1, h2, h3⟩
  · have hM1 := HM.out.below hB
    have hI1 := HI.out.below hB
    have hbw : b < w.heap.size := HM.out.fs.dt.lt
    have HO := Lib.hid hown; have HC := Lib.hid hcv
    have hPl := cov_le mt P a (a + m) hcv
    clear hown hcv
    go_wp2_with fail
    go_loopw [22, 2] (fun v1 v2 wr => ∃ (i d : Nat) (A' : Option Addr) (c' : Nat), i ≤ P.length ∧ v1 = .int .i64 (i : Int) ∧ v2 = .slice A' (m - d) c' ∧ d ≤ m ∧ m - d ≤ c' ∧ Cov mt a (P.take i) (a + d) ∧ InB wr A' (m - d) (us.drop d) ∧ (0 < m → Off A' b) ∧ MemAt wr mb g b each nf tg bt bf (wrB mt bs a (us.take d)) mt mf ∧ Ch [b] w1 wr) (fun v1 _ _ => P.length - (intOf v1).toNat)
    case atStart => exact ⟨0, 0, A, mc, by omega, rfl, rfl, by omega, by omega, rfl, hI1, hA, hM1, Ch.refl _ _⟩
    case round =>
      clear hM1 hI1
      obtain ⟨i, d, A', c', hiP, rfl, rfl, hdm, hmc', hci, hI, hA', hM, hch⟩ := hrel
      by_cases hlt : i < P.length
      · obtain ⟨c, ⟨fr, r, s⟩, h1, h2, hmp, h3, h4, h5, h6, h7, h8, _⟩ := cov_take mt P a (a + m) i HC.out hlt
        obtain rfl := cov_fun mt _ _ _ _ hci h1
        simp only at h3 h4 h5 h6 h7 h8
        have hfr := (hM.ok.at_ hmp).2
        rw [← h3] at hfr
        obtain ⟨q, rfl, hql, hqb, c0, c1', c2⟩ := own3_at HO.out hlt h2
        have hqb2 : q ∉ [b] := by simp; omega
        replace c0 := ch_keep hch hqb2 c0
        replace c1' := ch_keep hch hqb2 c1'
        replace c2 := ch_keep hch hqb2 c2
        simp only at c0 c1' c2
        have hi0 := fun w => idx_piece q P.length c1 i hlt w
        have H7 := Lib.hid h7; have H3 := Lib.hid h3; have H4 := Lib.hid h4; have HCI := Lib.hid hci
        have hwr := hch.size
        have hrs : r + s ≤ 64 := by omega
        clear h1 h2 h3 h4 h7 hmp hci
        go_upto_region 5 with fail
        have hblk := Blk.new wr 73 [.int .i64 (fr : Int), .int .i64 (r : Int), .int .i64 (s : Int)]
        have hca : Ch [b] wr (wr.alloc (.cells #[.int .i64 (fr : Int), .int .i64 (r : Int), .int .i64 (s : Int)] 73)) := (Ch.refl [b] wr).alloc _
        have hbl : Below wr.heap.size wr (wr.alloc (.cells #[.int .i64 (fr : Int), .int .i64 (r : Int), .int .i64 (s : Int)] 73)) := bel_alloc (Below.refl _ _) _
        have hMa := hM.below hbl
        have hIa := hI.below hbl
        have hcha := hch.trans hca
        have hpb2 : wr.heap.size ∉ [b] := by simp; omega
        have hmb2 : mb ∉ [b] := by simpa using hM.st.ne_ hM.fs.dt (by decide)
        clear hca hbl hM hI hch c0 c1' c2 hi0
        generalize wr.alloc (.cells #[.int .i64 (fr : Int), .int .i64 (r : Int), .int .i64 (s : Int)] 73) = wa at *
        generalize wr.heap.size = p at *
        have q0 := hblk.at_ (i := 0) rfl
        have q1 := hblk.at_ (i := 1) rfl
        have q2 := hblk.at_ (i := 2) rfl
        have k0 := hMa.st.at_ (i := 0) rfl
        have hcut := fun w => cut_bytes A' (m - d) c' s (s : Int) rfl (by omega) w
        have hcut2 := fun w => cut_lo_b A' (m - d) c' s (s : Int) rfl (by omega) hmc' w
        have hIt := hIa.tk (k := s) (by omega)
        go_region_held3 (fun w' => w'.cell? ⟨mb, 0, none⟩ = some (.pointer (some ⟨g, 0, none⟩)) ∧ w'.cell? ⟨p, 0, none⟩ = some (.int .i64 fr) ∧ w'.cell? ⟨p, 1, none⟩ = some (.int .i64 r) ∧ w'.cell? ⟨p, 2, none⟩ = some (.int .i64 s))
          (first | go_keep | exact keep4 hcS hmb2 hpb2 (by assumption) | exact keep4 hcS hmb2 hpb2 ⟨by assumption, by assumption, by assumption, by assumption⟩)
          (first | (go_at_call 27; refine (fr_save_in g b each nf _ fr r A' s c' _ _ (by first | exact hMa.fs | exact hMa.fs.below (bel_drew (Below.refl _ _)) | exact hMa.fs.below (bel_drewN (Below.refl _ _) _)) hfr hrs (by first | exact hIt | exact hIt.below (bel_drew (Below.refl _ _)) | exact hIt.below (bel_drewN (Below.refl _ _) _))).mono ?_; rintro e wS ⟨rfl, hG2, hcS⟩))
        have hcS2 : Ch [b] wa wS := (Ch.refl [b] wa).drew.trans hcS
        have hMS := hMa.save hG2 hcS2
        have hIS := (hIa.ch1 (hA' (by omega)) hcS2).dp (c := c') (k := s) (by omega) hmc'
        have hcE := hcha.trans hcS2
        replace q2 := ch_keep hcS2 hpb2 q2
        have hbs : putL (wrB mt bs a (us.take d)) (fr * 64 + r) ((us.drop d).take s) = wrB mt bs a (us.take (d + s)) := by
          have hul := HI.out.ln
          rw [List.take_add, wrB_append, List.length_take, hul, Nat.min_eq_left hdm, wrB_page ((us.drop d).take s) _ (a + d) (by rw [List.length_take, List.length_drop, hul]; omega)]
          unfold posN
          rw [← H3.out, ← H4.out]
        rw [hbs] at hMS
        rw [List.drop_drop] at hIS
        rw [show m - d - s = m - (d + s) by omega] at hIS hcut2
        clear hbs hcS hcS2 hG2 hMa hIa hcha q0 q1 k0 hIt hcut hblk
        go_wp2_with fail
        go_roundw
        case rel => exact ⟨i + 1, d + s, cutB A' c' s, c' - s, by omega, by go_num, rfl, by omega, by omega, by rw [← Nat.add_assoc]; exact H7.out, hIS, fun h0 => (hA' h0).cut, hMS, hcE⟩
        case measure => simp [intOf]; omega
      · obtain rfl : i = P.length := by omega
        rw [List.take_length] at hci
        have hdm2 := cov_fun mt _ _ _ _ hci HC.out
        obtain rfl : d = m := by omega
        rw [List.take_of_length_le (by rw [HI.out.ln]; omega)] at hM
        go_wp2_with fail
        go_ret
        exact ⟨rfl, hM, (Ch.below hB [b]).trans hch⟩
  · exact absurd (HN.out k h1 h2) h3
end
end Go.Proofs.YtbgnaohjcfbaaaaDoor
