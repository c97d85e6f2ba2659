/- Parts of the proof: MemPieces, MemWrite, MemRead. -/
import Derived.Test.YtjdbedoabcbeeaaGreatDoorUs15
/- memory.pieces. -/
namespace Go.Proofs.YtjdbedoabcbeeaaGreatDoor
open Go.RowKit
set_option linter.unusedVariables false
set_option linter.unusedSimpArgs false
attribute [local go_sem] World.cell?_alloc_lt

abbrev Pc := Nat × Nat × Nat
def pcCells (P : List Pc) : List Value := P.flatMap fun p => [.int .i64 (p.1 : Int), .int .i64 (p.2.1 : Int), .int .i64 (p.2.2 : Int)]
theorem pcCells_snoc (P : List Pc) (p : Pc) : pcCells (P ++ [p]) = pcCells P ++ [.int .i64 (p.1 : Int), .int .i64 (p.2.1 : Int), .int .i64 (p.2.2 : Int)] := by simp [pcCells]
theorem pcCells_at : ∀ (P : List Pc) (i : Nat) (p : Pc), P[i]? = some p → (pcCells P)[i * 3]? = some (.int .i64 (p.1 : Int)) ∧ (pcCells P)[i * 3 + 1]? = some (.int .i64 (p.2.1 : Int)) ∧ (pcCells P)[i * 3 + 2]? = some (.int .i64 (p.2.2 : Int)) := by
  intro P
  induction P with
  | nil => intro i p h; simp at h
  | cons x xs ih =>
    intro i p h
    cases i with
    | zero => simp at h; subst h; simp [pcCells]
    | succ i =>
      have := ih i p (by simpa using h)
      have e : pcCells (x :: xs) = .int .i64 (x.1 : Int) :: .int .i64 (x.2.1 : Int) :: .int .i64 (x.2.2 : Int) :: pcCells xs := by simp [pcCells]
      rw [e, show (i + 1) * 3 = i * 3 + 1 + 1 + 1 by omega]
      simpa using this
theorem cov_mapped (mt : List (Int × Int)) : ∀ (P : List Pc) (a e k : Nat), Cov mt a P e → a ≤ k → k < e → mapped mt (k / 64) := by
  intro P
  induction P with
  | nil => intro a e k h h1 h2; simp only [Cov] at h; omega
  | cons p ps ih =>
    intro a e k h h1 h2
    obtain ⟨hm, _, _, hs1, hs2, hc⟩ := h
    by_cases hk : k < a + p.2.2
    · rw [show k / 64 = a / 64 by omega]; exact hm
    · exact ih _ _ _ hc (by omega) h2
theorem info_piece : (Tryz.prog.info? 141).map (fun i => (i.zero, i.size, i.bytes)) = some (some (.agg #[.int .i64 0, .int .i64 0, .int .i64 0]), 3, 24) := by kernel_rfl
def lenV : Value → Nat
  | .slice _ n _ => n
  | _ => 0
section
variable (mb g b each nf tg bt bf : Nat) (bs : List Int) (mt mf : List (Int × Int)) (w : World) (hM : MemAt w mb g b each nf tg bt bf bs mt mf)
include hM
set_option maxRecDepth 100000 in
set_option maxHeartbeats 2000000 in
theorem me_pieces (a n : Nat) (hn : n ≤ 65536) (ha : a + n ≤ 262144) : Calls Tryz.prog 62 #[.pointer (some ⟨mb, 0, none⟩), .int .i64 (a : Int), .int .i64 (n : Int)] w fun e w' => ((∃ A P c, e = .returned (.tuple #[.slice A P.length c, .int .i64 0]) ∧ w'.ownsRow w.heap.size 141 3 (.slice A P.length c) P.length (pcCells P) ∧ Cov mt a P (a + n)) ∨ (e = .returned (.tuple #[.slice none 0 0, .int .i64 9]) ∧ ∃ k, a ≤ k ∧ k < a + n ∧ ¬ mapped mt (k / 64))) ∧ Below w.heap.size w w' := by
  have hown0 : w.ownsRow w.heap.size 141 3 (.slice none 0 0) 0 (pcCells []) := ⟨rfl, Or.inl ⟨rfl, rfl⟩⟩
  have HM := Lib.hid hM; clear hM
  go_enter Tryz.func62, Tryz.ntmps62
  go_wp2_with fail
  go_loopw [1, 2, 8] (fun v1 v2 v3 wr => ∃ (x d : Nat) (P : List Pc) (A' : Option Addr) (c' : Nat), v1 = .int .i64 (x : Int) ∧ v2 = .int .i64 (d : Int) ∧ v3 = .slice A' P.length c' ∧ x + d = a + n ∧ a ≤ x ∧ wr.ownsRow w.heap.size 141 3 (.slice A' P.length c') P.length (pcCells P) ∧ Cov mt a P x ∧ Below w.heap.size w wr) (fun _ v2 _ _ => (intOf v2).toNat)
  case atStart => exact ⟨a, n, [], none, 0, rfl, rfl, rfl, rfl, Nat.le_refl _, hown0, rfl, Below.refl _ _⟩
  case round =>
    clear hown0
    obtain ⟨x, d, P, A', c', rfl, rfl, rfl, hxd, hax, hown, hcov, hB⟩ := hrel
    have HO := Lib.hid hown; have HC := Lib.hid hcov
    have hMr := HM.out.below hB
    clear hown hcov
    by_cases hd : 0 < d
    · have k1 := hMr.st.at_ (i := 1) rfl
      have hT := tII_To tg bt bf mt mf ((x / 64 : Nat) : Int) wr hMr.tb
      have hB0 := hB
      by_cases hm : mapped mt (x / 64)
      · rw [(HM.out.ok.at_ hm).1, Option.getD_some, Option.isSome_some, Int.natCast_ediv] at hT
        obtain ⟨s, hs⟩ : ∃ s : Nat, min (d : Int) (64 - (x : Int) % 64) = (s : Int) ∧ 1 ≤ s ∧ s ≤ d ∧ x % 64 + s ≤ 64 := by
          refine ⟨min d (64 - x % 64), ?_, ?_, ?_, ?_⟩ <;> omega
        obtain ⟨hs, hs1, hs2, hs3⟩ := hs
        have hcv := cov_snoc mt s P a x HC.out hm hs1 hs3
        have hpl := cov_le mt P a x HC.out
        have HT := Lib.hid hT; have HS := Lib.hid hs; have HCV := Lib.hid hcv
        generalize frOf mt (x / 64) = fr at *
        obtain ⟨r, hr⟩ : ∃ r : Nat, (x : Int) % 64 = (r : Int) ∧ x % 64 = r := ⟨x % 64, by omega, rfl⟩
        obtain ⟨hr, hr2⟩ := hr
        rw [hr2] at HCV hs3
        rw [hr] at hs
        clear hT hcv HS
        go_wp2_with fail
        refine HT.out.mono ?_; rintro e w1 ⟨rfl, rfl⟩
        go_upto_region 10 with fail
        rw [hr]
        try rw [show (if 64 - (r : Int) < (d : Int) then 64 - (r : Int) else (d : Int)) = (s : Int) by split <;> omega]
        clear HM hMr
        have hnews := Blk.new wr 141 [.int .i64 (fr : Int), .int .i64 (r : Int), .int .i64 (s : Int)]
        have HNW := Lib.hid hnews; clear hnews
        have hO4 := own_chV HO.out ((Ch.refl [] wr).alloc (.cells #[.int .i64 (fr : Int), .int .i64 (r : Int), .int .i64 (s : Int)] 141)) (by simp)
        have hB4 := bel_alloc hB0 (.cells #[.int .i64 (fr : Int), .int .i64 (r : Int), .int .i64 (s : Int)] 141)
        have hw4 := hB4.size
        have HO4 := Lib.hid hO4; have HB4 := Lib.hid hB4
        clear hO4 hB4 hB hB0 k1
        go_wp2_with (at_builtin; refine wpList_pushesN _ rfl (.tmp 53) (.tmp 58) 137 rfl w.heap.size 141 _ 3 24 Tryz.underlying137 info_piece rfl (by omega) A' P.length c' (pcCells P) rfl HO4.out wr.heap.size 0 1 1 [.int .i64 (fr : Int), .int .i64 (r : Int), .int .i64 (s : Int)] rfl rfl (fun j u hj => by rw [Nat.zero_add]; exact HNW.out.at_ hj) (fun u hu => by simp at hu; rcases hu with rfl | rfl | rfl <;> rfl) (by omega) (by omega) (by omega) hw4 ?_)
        intro gg cp w5 hown5 hgr5 hor5
        have hc5 : Ch (Value.slice A' P.length c').ownBlock.toList (wr.alloc (.cells #[.int .i64 (fr : Int), .int .i64 (r : Int), .int .i64 (s : Int)] 141)) w5 := ch_grown hgr5 (fun q hq => by rw [hq]; simp)
        have hB5 := bel_ch HB4.out hc5 (fun q hq => by rw [Option.mem_toList] at hq; exact (HO4.out.lt q hq).1)
        have hl5 : (P ++ [(fr, r, s)]).length = P.length + 1 := by simp
        rw [← pcCells_snoc P (fr, r, s), ← hl5] at hown5
        have HW5 := Lib.hid hown5; have HL5 := Lib.hid hl5
        clear hown5 hc5 hgr5 hor5 hl5
        go_wp2_with fail
        go_roundw
        case rel => exact ⟨x + s, d - s, P ++ [(fr, r, s)], some ⟨gg, 0, none⟩, cp, by go_num, by go_num, by rw [HL5.out], by omega, by omega, HW5.out, HCV.out, hB5⟩
        case measure => simp [intOf]; omega
      · have hno : (mget mt ((x / 64 : Nat) : Int)).isSome = false := by
          unfold mapped at hm
          exact Bool.eq_false_iff.2 hm
        rw [hno, Int.natCast_ediv] at hT
        have HT := Lib.hid hT; have HMP := Lib.hid hm
        clear hT hno hm
        generalize (mget mt ((x / 64 : Nat) : Int)).getD 0 = gg at *
        go_wp2_with fail
        refine HT.out.mono ?_; rintro e w1 ⟨rfl, rfl⟩
        go_wp2_with fail
        go_ret2
        exact ⟨Or.inr ⟨rfl, x, hax, by omega, HMP.out⟩, (by repeat (first | exact Below.refl _ _ | assumption | with_reducible refine bel_alloc ?_ _ | with_reducible refine bel_drewN ?_ _ | with_reducible refine bel_drew ?_))⟩
    · obtain rfl : d = 0 := by omega
      go_wp2_with fail
      go_ret2
      exact ⟨Or.inl ⟨A', P, c', rfl, HO.out, by have := HC.out; rw [show a + n = x by omega]; exact this⟩, (by repeat (first | exact Below.refl _ _ | assumption | with_reducible refine bel_alloc ?_ _ | with_reducible refine bel_drewN ?_ _ | with_reducible refine bel_drew ?_))⟩
end
end Go.Proofs.YtjdbedoabcbeeaaGreatDoor
/- memory.Write. -/
namespace Go.Proofs.YtjdbedoabcbeeaaGreatDoor
open Go.RowKit
set_option linter.unusedVariables false
set_option linter.unusedSimpArgs false
attribute [local go_sem] World.cell?_alloc_lt

theorem idx_piece (b n c i : Nat) (hi : i < n) (w : World) : (Instr.indexAt 137 (.slice (some ⟨b, 0, none⟩) n c) (.int .i64 (i : Int))).run Tryz.prog w = .ok (.pointer (some ⟨b, i * 3, none⟩)) w := by
  simp [go_sem, hi]
theorem own3_at {w : World} {base e n c : Nat} {A : Option Addr} {P : List Pc} {i : Nat} {p : Pc} (h : w.ownsRow base e 3 (.slice A n c) n (pcCells P)) (hi : i < n) (hm : P[i]? = some p) : ∃ g, A = some ⟨g, 0, none⟩ ∧ g < w.heap.size ∧ base ≤ g ∧ w.cell? ⟨g, i * 3, none⟩ = some (.int .i64 (p.1 : Int)) ∧ w.cell? ⟨g, i * 3 + 1, none⟩ = some (.int .i64 (p.2.1 : Int)) ∧ w.cell? ⟨g, i * 3 + 2, none⟩ = some (.int .i64 (p.2.2 : Int)) := by
  obtain ⟨g, cap, hv, hb, hlt⟩ := h.form (by omega)
  injection hv with hA _ _
  subst hA
  have hc := pcCells_at P i p hm
  have h1 := h.cells (g := g) rfl (i * 3) _ hc.1
  have h2 := h.cells (g := g) rfl (i * 3 + 1) _ hc.2.1
  have h3 := h.cells (g := g) rfl (i * 3 + 2) _ hc.2.2
  rw [WideShapes.add_plain, Nat.zero_add] at h1 h2 h3
  exact ⟨g, rfl, hlt, hb, h1, h2, h3⟩
/-- The address of s[k:]. -/
def cutB (A : Option Addr) (c k : Nat) : Option Addr := if c = k then A else A.map (·.add k)
theorem cut_lo_b (A : Option Addr) (n c k : Nat) (K : Int) (hK : K = (k : Int)) (hk : k ≤ n) (hn : n ≤ c) (w : World) : (Instr.sliceAt 42 (.slice A n c) (some (.int .i64 K)) none none).run Tryz.prog w = .ok (.slice (cutB A c k) (n - k) (c - k)) w := by
  subst hK
  have h0 : (0 : Int) ≤ (k : Int) := by omega
  have h1 : (k : Int) ≤ (n : Int) := by omega
  have h2 : (n : Int) ≤ (c : Int) := by omega
  unfold cutB
  by_cases e : c = k
  · subst e
    have : n = c := by omega
    subst this
    simp [go_sem]
  · rw [if_neg e]
    have h3 : ¬ (c = k) := e
    simp [go_sem, h0, h1, h2, hk, hn, h3]
theorem cut_bytes (a : Option Addr) (len cap n : Nat) (N : Int) (hN : N = (n : Int)) (h : n ≤ cap) (w : World) : (Instr.sliceAt 42 (.slice a len cap) none (some (.int .i64 N)) none).run Tryz.prog w = .ok (.slice a n cap) w := by
  subst hN
  have e : Option.map (fun x : Addr => x.add 0) a = a := by
    cases a with
    | none => rfl
    | some x => simp [Addr.add]
  have h2 : (n : Int) ≤ (cap : Int) := by omega
  simp [go_sem, h, h2, e]
theorem InB.tk {w : World} {A : Option Addr} {n k : Nat} {us : List Int} (h : InB w A n us) (hk : k ≤ n) : InB w A k (us.take k) :=
  ⟨by rw [List.length_take, h.ln]; omega, fun h0 => by
    obtain ⟨b, off, e, hb, hc⟩ := h.at_ (by omega)
    refine ⟨b, off, e, hb, fun j u hj => ?_⟩
    rw [List.getElem?_take] at hj
    split at hj
    · exact hc j u hj
    · cases hj⟩
theorem InB.dp {w : World} {A : Option Addr} {n c k : Nat} {us : List Int} (h : InB w A n us) (hk : k ≤ n) (hn : n ≤ c) : InB w (cutB A c k) (n - k) (us.drop k) :=
  ⟨by rw [List.length_drop, h.ln], fun h0 => by
    obtain ⟨b, off, e, hb, hc⟩ := h.at_ (by omega)
    refine ⟨b, off + k, ?_, hb, fun j u hj => ?_⟩
    · unfold cutB
      rw [if_neg (by omega), e]
      simp [Addr.add]
    · rw [List.getElem?_drop] at hj
      rw [Nat.add_assoc]
      exact hc _ u hj⟩
theorem keep4 {w w' : World} {S : List Nat} {mb p : Nat} {x0 x1 x2 x3 : Value} (k : Ch S w w') (h1 : mb ∉ S) (h2 : p ∉ S) (h : w.cell? ⟨mb, 0, none⟩ = some x0 ∧ w.cell? ⟨p, 0, none⟩ = some x1 ∧ w.cell? ⟨p, 1, none⟩ = some x2 ∧ w.cell? ⟨p, 2, none⟩ = some x3) : w'.cell? ⟨mb, 0, none⟩ = some x0 ∧ w'.cell? ⟨p, 0, none⟩ = some x1 ∧ w'.cell? ⟨p, 1, none⟩ = some x2 ∧ w'.cell? ⟨p, 2, none⟩ = some x3 := ⟨ch_keep k h1 h.1, ch_keep k h2 h.2.1, ch_keep k h2 h.2.2.1, ch_keep k h2 h.2.2.2⟩
def Off (A : Option Addr) (b : Nat) : Prop := ∀ x, A = some x → x.block ≠ b
theorem Off.cut {A : Option Addr} {b c k : Nat} (h : Off A b) : Off (cutB A c k) b := by
  intro x e
  unfold cutB at e
  split at e
  · exact h x e
  · cases A with
    | none => cases e
    | some y =>
      injection e with e
      have hy : (y.add k).block = y.block := by
        unfold Addr.add
        split <;> rfl
      rw [← e]
      rw [hy]
      exact h y rfl
theorem InB.ch1 {w w' : World} {A : Option Addr} {n b : Nat} {us : List Int} (h : InB w A n us) (hA : Off A b) (k : Ch [b] w w') : InB w' A n us :=
  ⟨h.ln, fun h0 => by
    obtain ⟨q, off, e, hb, hc⟩ := h.at_ h0
    exact ⟨q, off, e, Nat.lt_of_lt_of_le hb k.size, fun j u hj => ch_keep k (by simp; exact hA _ e) (hc j u hj)⟩⟩
theorem MemAt.save {w w' : World} {mb g b each nf tg bt bf : Nat} {bs bs' : List Int} {mt mf : List (Int × Int)} (h : MemAt w mb g b each nf tg bt bf bs mt mf) (hG : StoreAt w' g b each nf bs') (k : Ch [b] w w') : MemAt w' mb g b each nf tg bt bf bs' mt mf := by
  have n1 := h.st.ne_ h.fs.dt (by decide)
  have n2 := h.tb.st.ne_ h.fs.dt (by decide)
  have n3 := (blk_ne_map h.fs.dt h.tb.to_).symm
  have n4 := (blk_ne_map h.fs.dt h.tb.fr).symm
  exact ⟨h.st.ch k (by simp [n1]), hG, h.tb.ch k (by simp [n2]) (by simp [n3]) (by simp [n4]), h.ok⟩
section
variable (mb g b each nf tg bt bf : Nat) (bs : List Int) (mt mf : List (Int × Int)) (w : World) (hM : MemAt w mb g b each nf tg bt bf bs mt mf)
include hM
set_option maxRecDepth 100000 in
theorem me_write_no (a m : Nat) (A : Option Addr) (mc : Nat) (hn : m ≤ 65536) (ha : a + m ≤ 262144) (hno : ∃ k, a ≤ k ∧ k < a + m ∧ ¬ mapped mt (k / 64)) : Calls Tryz.prog 32 #[.pointer (some ⟨mb, 0, none⟩), .int .i64 (a : Int), .slice A m mc] w fun e w' => e = .returned (.int .i64 9) ∧ Below w.heap.size w w' := by
  have hp := me_pieces mb g b each nf tg bt bf bs mt mf w hM a m hn ha
  have HP := Lib.hid hp; have HN := Lib.hid hno
  clear hp hM hno
  go_enter Tryz.func32, Tryz.ntmps32
  go_wp2_with fail
  refine HP.out.mono ?_; rintro e w1 ⟨hor, hB⟩
  rcases hor with ⟨A1, P, c1, rfl, _, hcv⟩ | ⟨rfl, _⟩
  · obtain ⟨k, h1, h2, h3⟩ := HN.out
    exact absurd (cov_mapped mt P a (a + m) k hcv h1 h2) h3
  · go_wp2_with fail
    go_loopw [22] (fun v wr => v = .int .i64 0 ∧ wr = w1) (fun _ _ => 0)
    case atStart => exact ⟨rfl, rfl⟩
    case round =>
      obtain ⟨rfl, rfl⟩ := hrel
      go_wp2_with fail
      go_ret
      exact ⟨rfl, hB⟩
set_option maxRecDepth 100000 in
set_option maxHeartbeats 2000000 in
theorem me_write (a m : Nat) (A : Option Addr) (mc : Nat) (us : List Int) (hI : InB w A m us) (hA : 0 < m → Off A b) (hn : m ≤ 65536) (hmc : m ≤ mc) (ha : a + m ≤ 262144) (hmp : ∀ k, a ≤ k → k < a + m → mapped mt (k / 64)) : Calls Tryz.prog 32 #[.pointer (some ⟨mb, 0, none⟩), .int .i64 (a : Int), .slice A m mc] w fun e w' => e = .returned (.int .i64 0) ∧ MemAt w' mb g b each nf tg bt bf (wrB mt bs a us) mt mf ∧ Ch [b] w w' := by
  have hp := me_pieces mb g b each nf tg bt bf bs mt mf w hM a m hn ha
  have HP := Lib.hid hp; have HN := Lib.hid hmp; have HM := Lib.hid hM; have HI := Lib.hid hI
  clear hp hM hmp hI
  go_enter Tryz.func32, Tryz.ntmps32
  go_wp2_with fail
  refine HP.out.mono ?_; rintro e w1 ⟨hor, hB⟩
  rcases hor with ⟨A1, P, c1, rfl, hown, hcv⟩ | ⟨rfl, k, h1, h2, h3⟩
  · have hM1 := HM.out.below hB
    have hI1 := HI.out.below hB
    have hbw : b < w.heap.size := HM.out.fs.dt.lt
    have HO := Lib.hid hown; have HC := Lib.hid hcv
    have hPl := cov_le mt P a (a + m) hcv
    clear hown hcv
    go_wp2_with fail
    go_loopw [22, 2] (fun v1 v2 wr => ∃ (i d : Nat) (A' : Option Addr) (c' : Nat), i ≤ P.length ∧ v1 = .int .i64 (i : Int) ∧ v2 = .slice A' (m - d) c' ∧ d ≤ m ∧ m - d ≤ c' ∧ Cov mt a (P.take i) (a + d) ∧ InB wr A' (m - d) (us.drop d) ∧ (0 < m → Off A' b) ∧ MemAt wr mb g b each nf tg bt bf (wrB mt bs a (us.take d)) mt mf ∧ Ch [b] w1 wr) (fun v1 _ _ => P.length - (intOf v1).toNat)
    case atStart => exact ⟨0, 0, A, mc, by omega, rfl, rfl, by omega, by omega, rfl, hI1, hA, hM1, Ch.refl _ _⟩
    case round =>
      clear hM1 hI1
      obtain ⟨i, d, A', c', hiP, rfl, rfl, hdm, hmc', hci, hI, hA', hM, hch⟩ := hrel
      by_cases hlt : i < P.length
      · obtain ⟨c, ⟨fr, r, s⟩, h1, h2, hmp, h3, h4, h5, h6, h7, h8, _⟩ := cov_take mt P a (a + m) i HC.out hlt
        obtain rfl := cov_fun mt _ _ _ _ hci h1
        simp only at h3 h4 h5 h6 h7 h8
        have hfr := (hM.ok.at_ hmp).2
        rw [← h3] at hfr
        obtain ⟨q, rfl, hql, hqb, c0, c1', c2⟩ := own3_at HO.out hlt h2
        have hqb2 : q ∉ [b] := by simp; omega
        replace c0 := ch_keep hch hqb2 c0
        replace c1' := ch_keep hch hqb2 c1'
        replace c2 := ch_keep hch hqb2 c2
        simp only at c0 c1' c2
        have hi0 := fun w => idx_piece q P.length c1 i hlt w
        have H7 := Lib.hid h7; have H3 := Lib.hid h3; have H4 := Lib.hid h4; have HCI := Lib.hid hci
        have hwr := hch.size
        have hrs : r + s ≤ 64 := by omega
        clear h1 h2 h3 h4 h7 hmp hci
        go_upto_region 5 with fail
        have hblk := Blk.new wr 141 [.int .i64 (fr : Int), .int .i64 (r : Int), .int .i64 (s : Int)]
        have hca : Ch [b] wr (wr.alloc (.cells #[.int .i64 (fr : Int), .int .i64 (r : Int), .int .i64 (s : Int)] 141)) := (Ch.refl [b] wr).alloc _
        have hbl : Below wr.heap.size wr (wr.alloc (.cells #[.int .i64 (fr : Int), .int .i64 (r : Int), .int .i64 (s : Int)] 141)) := bel_alloc (Below.refl _ _) _
        have hMa := hM.below hbl
        have hIa := hI.below hbl
        have hcha := hch.trans hca
        have hpb2 : wr.heap.size ∉ [b] := by simp; omega
        have hmb2 : mb ∉ [b] := by simpa using hM.st.ne_ hM.fs.dt (by decide)
        clear hca hbl hM hI hch c0 c1' c2 hi0
        generalize wr.alloc (.cells #[.int .i64 (fr : Int), .int .i64 (r : Int), .int .i64 (s : Int)] 141) = wa at *
        generalize wr.heap.size = p at *
        have q0 := hblk.at_ (i := 0) rfl
        have q1 := hblk.at_ (i := 1) rfl
        have q2 := hblk.at_ (i := 2) rfl
        have k0 := hMa.st.at_ (i := 0) rfl
        have hcut := fun w => cut_bytes A' (m - d) c' s (s : Int) rfl (by omega) w
        have hcut2 := fun w => cut_lo_b A' (m - d) c' s (s : Int) rfl (by omega) hmc' w
        have hIt := hIa.tk (k := s) (by omega)
        go_region_held3 (fun w' => w'.cell? ⟨mb, 0, none⟩ = some (.pointer (some ⟨g, 0, none⟩)) ∧ w'.cell? ⟨p, 0, none⟩ = some (.int .i64 fr) ∧ w'.cell? ⟨p, 1, none⟩ = some (.int .i64 r) ∧ w'.cell? ⟨p, 2, none⟩ = some (.int .i64 s))
          (first | go_keep | exact keep4 hcS hmb2 hpb2 (by assumption) | exact keep4 hcS hmb2 hpb2 ⟨by assumption, by assumption, by assumption, by assumption⟩)
          (first | (go_at_call 63; refine (fr_save_in g b each nf _ fr r A' s c' _ _ (by first | exact hMa.fs | exact hMa.fs.below (bel_drew (Below.refl _ _)) | exact hMa.fs.below (bel_drewN (Below.refl _ _) _)) hfr hrs (by first | exact hIt | exact hIt.below (bel_drew (Below.refl _ _)) | exact hIt.below (bel_drewN (Below.refl _ _) _))).mono ?_; rintro e wS ⟨rfl, hG2, hcS⟩))
        have hcS2 : Ch [b] wa wS := (Ch.refl [b] wa).drew.trans hcS
        have hMS := hMa.save hG2 hcS2
        have hIS := (hIa.ch1 (hA' (by omega)) hcS2).dp (c := c') (k := s) (by omega) hmc'
        have hcE := hcha.trans hcS2
        replace q2 := ch_keep hcS2 hpb2 q2
        have hbs : putL (wrB mt bs a (us.take d)) (fr * 64 + r) ((us.drop d).take s) = wrB mt bs a (us.take (d + s)) := by
          have hul := HI.out.ln
          rw [List.take_add, wrB_append, List.length_take, hul, Nat.min_eq_left hdm, wrB_page ((us.drop d).take s) _ (a + d) (by rw [List.length_take, List.length_drop, hul]; omega)]
          unfold posN
          rw [← H3.out, ← H4.out]
        rw [hbs] at hMS
        rw [List.drop_drop] at hIS
        rw [show m - d - s = m - (d + s) by omega] at hIS hcut2
        clear hbs hcS hcS2 hG2 hMa hIa hcha q0 q1 k0 hIt hcut hblk
        go_wp2_with fail
        go_roundw
        case rel => exact ⟨i + 1, d + s, cutB A' c' s, c' - s, by omega, by go_num, rfl, by omega, by omega, by rw [← Nat.add_assoc]; exact H7.out, hIS, fun h0 => (hA' h0).cut, hMS, hcE⟩
        case measure => simp [intOf]; omega
      · obtain rfl : i = P.length := by omega
        rw [List.take_length] at hci
        have hdm2 := cov_fun mt _ _ _ _ hci HC.out
        obtain rfl : d = m := by omega
        rw [List.take_of_length_le (by rw [HI.out.ln]; omega)] at hM
        go_wp2_with fail
        go_ret
        exact ⟨rfl, hM, (Ch.below hB [b]).trans hch⟩
  · exact absurd (HN.out k h1 h2) h3
end
end Go.Proofs.YtjdbedoabcbeeaaGreatDoor
/- memory.Read. -/
namespace Go.Proofs.YtjdbedoabcbeeaaGreatDoor
open Go.RowKit
set_option linter.unusedVariables false
set_option linter.unusedSimpArgs false
attribute [local go_sem] World.cell?_alloc_lt

theorem info_u8 : (Tryz.prog.info? 5).map (fun i => (i.zero, i.size, i.bytes)) = some (some (.int .u8 0), 1, 1) := by kernel_rfl
section
variable (mb g b each nf tg bt bf : Nat) (bs : List Int) (mt mf : List (Int × Int)) (w : World) (hM : MemAt w mb g b each nf tg bt bf bs mt mf)
include hM
set_option maxRecDepth 100000 in
theorem me_read_no (a m : Nat) (hn : m ≤ 65536) (ha : a + m ≤ 262144) (hno : ∃ k, a ≤ k ∧ k < a + m ∧ ¬ mapped mt (k / 64)) : Calls Tryz.prog 38 #[.pointer (some ⟨mb, 0, none⟩), .int .i64 (a : Int), .int .i64 (m : Int)] w fun e w' => e = .returned (.tuple #[.slice none 0 0, .int .i64 9]) ∧ Below w.heap.size w w' := by
  have hp := me_pieces mb g b each nf tg bt bf bs mt mf w hM a m hn ha
  have HP := Lib.hid hp; have HN := Lib.hid hno
  clear hp hM hno
  go_enter Tryz.func38, Tryz.ntmps38
  go_wp2_with fail
  refine HP.out.mono ?_; rintro e w1 ⟨hor, hB⟩
  rcases hor with ⟨A1, P, c1, rfl, _, hcv⟩ | ⟨rfl, _⟩
  · obtain ⟨k, h1, h2, h3⟩ := HN.out
    exact absurd (cov_mapped mt P a (a + m) k hcv h1 h2) h3
  · go_wp2_with fail
    go_loopw [24, 10] (fun v v2 wr => v = .int .i64 0 ∧ v2 = .slice none 0 0 ∧ wr = w1) (fun _ _ _ => 0)
    case atStart => exact ⟨rfl, rfl, rfl⟩
    case round =>
      obtain ⟨rfl, rfl, rfl⟩ := hrel
      go_wp2_with fail
      go_ret2
      exact ⟨rfl, hB⟩
set_option maxRecDepth 100000 in
set_option maxHeartbeats 2000000 in
theorem me_read (a m : Nat) (hn : m ≤ 65536) (ha : a + m ≤ 262144) (hmp : ∀ k, a ≤ k → k < a + m → mapped mt (k / 64)) : Calls Tryz.prog 38 #[.pointer (some ⟨mb, 0, none⟩), .int .i64 (a : Int), .int .i64 (m : Int)] w fun e w' => ∃ A' c', e = .returned (.tuple #[.slice A' m c', .int .i64 0]) ∧ w'.ownsRow w.heap.size 5 1 (.slice A' m c') m ((rdB mt bs a m).map (Value.int .u8)) ∧ Below w.heap.size w w' := by
  have hp := me_pieces mb g b each nf tg bt bf bs mt mf w hM a m hn ha
  have HP := Lib.hid hp; have HN := Lib.hid hmp; have HM := Lib.hid hM
  clear hp hM hmp
  go_enter Tryz.func38, Tryz.ntmps38
  go_wp2_with fail
  refine HP.out.mono ?_; rintro e w1 ⟨hor, hB⟩
  rcases hor with ⟨A1, P, c1, rfl, hown, hcv⟩ | ⟨rfl, k, h1, h2, h3⟩
  · have hPl := cov_le mt P a (a + m) hcv
    have HC := Lib.hid hcv
    have hown0 : w1.ownsRow w.heap.size 5 1 (.slice none 0 0) 0 ((rdB mt bs a 0).map (Value.int .u8)) := ⟨rfl, Or.inl ⟨rfl, rfl⟩⟩
    clear hcv
    have HO := Lib.hid hown
    clear hown
    go_wp2_with fail
    go_loopw [24, 10] (fun v1 v2 wr => ∃ (i d : Nat) (A' : Option Addr) (c' : Nat), i ≤ P.length ∧ v1 = .int .i64 (i : Int) ∧ v2 = .slice A' d c' ∧ d ≤ m ∧ Cov mt a (P.take i) (a + d) ∧ wr.ownsRow w.heap.size 141 3 (.slice A1 P.length c1) P.length (pcCells P) ∧ wr.ownsRow w.heap.size 5 1 (.slice A' d c') d ((rdB mt bs a d).map (Value.int .u8)) ∧ Below w.heap.size w wr) (fun v1 _ _ => P.length - (intOf v1).toNat)
    case atStart => exact ⟨0, 0, none, 0, by omega, rfl, rfl, by omega, rfl, HO.out, hown0, hB⟩
    case round =>
      clear hown0 HO hB
      obtain ⟨i, d, A', c', hiP, rfl, rfl, hdm, hci, hP, hO, hB⟩ := hrel
      have HO := Lib.hid hO
      clear hO
      by_cases hlt : i < P.length
      · obtain ⟨c, ⟨fr, r, s⟩, h1, h2, hmp, h3, h4, h5, h6, h7, h8, _⟩ := cov_take mt P a (a + m) i HC.out hlt
        obtain rfl := cov_fun mt _ _ _ _ hci h1
        simp only at h3 h4 h5 h6 h7 h8
        have hfr := (HM.out.ok.at_ hmp).2
        rw [← h3] at hfr
        obtain ⟨q, rfl, hql, hqb, c0, c1', c2⟩ := own3_at hP hlt h2
        simp only at c0 c1' c2
        have hi0 := fun w => idx_piece q P.length c1 i hlt w
        have H7 := Lib.hid h7; have H3 := Lib.hid h3; have H4 := Lib.hid h4; have HCI := Lib.hid hci; have HP := Lib.hid hP
        have hwr := hB.size
        have hrs : r + s ≤ 64 := by omega
        clear h1 h2 h3 h4 h7 hmp hci hP
        go_upto_region 6 with fail
        have hblk := Blk.new wr 141 [.int .i64 (fr : Int), .int .i64 (r : Int), .int .i64 (s : Int)]
        have hca : Ch [] wr (wr.alloc (.cells #[.int .i64 (fr : Int), .int .i64 (r : Int), .int .i64 (s : Int)] 141)) := (Ch.refl [] wr).alloc _
        have hBa := bel_alloc hB (.cells #[.int .i64 (fr : Int), .int .i64 (r : Int), .int .i64 (s : Int)] 141)
        have hPa := own_chV HP.out hca (by simp)
        have hOa := own_chV HO.out hca (by simp)
        have hMa := HM.out.below hBa
        have HPa := Lib.hid hPa; have HOa := Lib.hid hOa
        have hpl := hblk.lt
        clear hca hB c0 c1' c2 hi0 hPa hOa HO HP
        generalize wr.alloc (.cells #[.int .i64 (fr : Int), .int .i64 (r : Int), .int .i64 (s : Int)] 141) = wa at *
        generalize wr.heap.size = p at *
        have q0 := hblk.at_ (i := 0) rfl
        have q1 := hblk.at_ (i := 1) rfl
        have q2 := hblk.at_ (i := 2) rfl
        have k0 := hMa.st.at_ (i := 0) rfl
        have hmw := hMa.st.lt
        go_region_held3 (fun w' => w'.cell? ⟨mb, 0, none⟩ = some (.pointer (some ⟨g, 0, none⟩)) ∧ w'.cell? ⟨p, 0, none⟩ = some (.int .i64 fr) ∧ w'.cell? ⟨p, 1, none⟩ = some (.int .i64 r) ∧ w'.cell? ⟨p, 2, none⟩ = some (.int .i64 s))
          (first | go_keep | exact keep4 (Ch.below hcS []) (by simp) (by simp) (by assumption) | exact keep4 (Ch.below hcS []) (by simp) (by simp) ⟨by assumption, by assumption, by assumption, by assumption⟩)
          (first | (go_at_call 66; refine (fr_load g b each nf _ fr r s _ (by first | exact hMa.fs | exact hMa.fs.below (bel_drew (Below.refl _ _)) | exact hMa.fs.below (bel_drewN (Below.refl _ _) _)) hfr hrs).mono ?_; rintro e wS ⟨hh, hc, rfl, hownS, hcS⟩))
        have hbd : Below wa.heap.size wa wS := bel_trans (bel_drew (Below.refl _ wa)) hcS
        have hOS := own_chV HOa.out (Ch.below hbd []) (by simp)
        have hPS := own_chV HPa.out (Ch.below hbd []) (by simp)
        have hBS := bel_trans hBa hbd
        have hws := hBS.size
        have hln : bs.length = nf * 64 := HM.out.fs.ln
        have hfs : fr * 64 + r + s ≤ bs.length := by omega
        have hrd : rdB mt bs a d ++ (bs.drop (fr * 64 + r)).take s = rdB mt bs a (d + s) := by
          have e : fr * 64 + r = posN mt (a + d) := by
            unfold posN
            rw [← H3.out, ← H4.out]
          rw [rdB_append, rdB_page bs (a + d) s h6 (by rw [← e]; exact hfs), e]
        have hus : ∀ j u, (((bs.drop (fr * 64 + r)).take s).map (Value.int .u8))[j]? = some u → wS.cell? ⟨hh, 0 + j, none⟩ = some u := by
          intro j u hj
          have := hownS.cells (g := hh) rfl j u hj
          rw [WideShapes.add_plain] at this
          exact this
        have hvl : ((bs.drop (fr * 64 + r)).take s).length = s := by rw [List.length_take, List.length_drop]; omega
        generalize (bs.drop (fr * 64 + r)).take s = vs at *
        have HUS := Lib.hid hus; have HRD := Lib.hid hrd; have HOS := Lib.hid hOS; have HPS := Lib.hid hPS; have HNS := Lib.hid hownS
        clear hus hrd hOS hPS hownS hBa hMa HPa HOa hblk q0 q1 q2 k0 hbd
        go_upto_region 9 with fail
        go_wp2_with (at_builtin; refine wpList_pushes _ rfl (.tmp 45) (.tmp 46) 42 rfl w.heap.size 5 (.int .u8 0) 1 Tryz.underlying42 info_u8 rfl A' d c' _ rfl HOS.out hh 0 s hc (vs.map (Value.int .u8)) rfl (by rw [List.length_map]; exact hvl) HUS.out (fun u hu => by obtain ⟨z, _, rfl⟩ := List.mem_map.1 hu; rfl) (by omega) (by omega) (by omega) (by omega) ?_)
        intro gg cp w5 hown5 hgr5 hor5
        rw [← List.map_append, HRD.out] at hown5
        have hap := own_apart HPS.out HOS.out (by decide)
        have hc5 : Ch (Value.slice A' d c').ownBlock.toList wS w5 := ch_grown hgr5 (fun q hq => by rw [hq]; simp)
        have hP5 := own_chV HPS.out hc5 (fun q hq hm => by rw [Option.mem_toList] at hm; exact hap q hq hm)
        have hB5 := bel_ch hBS hc5 (fun q hq => by rw [Option.mem_toList] at hq; exact (HOS.out.lt q hq).1)
        have HW5 := Lib.hid hown5; have HP5 := Lib.hid hP5
        clear hown5 hc5 hgr5 hor5 hap hP5 hBS HOS HPS HUS HNS
        go_wp2_with fail
        go_roundw
        case rel => exact ⟨i + 1, d + s, some ⟨gg, 0, none⟩, cp, by omega, by go_num, rfl, by omega, by rw [← Nat.add_assoc]; exact H7.out, HP5.out, HW5.out, hB5⟩
        case measure => simp [intOf]; omega
      · obtain rfl : i = P.length := by omega
        rw [List.take_length] at hci
        have hdm2 := cov_fun mt _ _ _ _ hci HC.out
        obtain rfl : d = m := by omega
        go_wp2_with fail
        go_ret2
        exact ⟨A', c', rfl, HO.out, hB⟩
  · exact absurd (HN.out k h1 h2) h3
end
end Go.Proofs.YtjdbedoabcbeeaaGreatDoor
