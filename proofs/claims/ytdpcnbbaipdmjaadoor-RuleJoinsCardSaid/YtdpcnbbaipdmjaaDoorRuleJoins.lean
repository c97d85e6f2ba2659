/- The law RuleJoins. -/
import Derived.Test.YtdpcnbbaipdmjaaDoorRuleJoin
namespace Go.Proofs.YtdpcnbbaipdmjaaDoor
open Go.RowKit Go.Shelf
set_option linter.unusedVariables false
set_option linter.unusedSimpArgs false
attribute [local go_sem] World.cell?_alloc_lt

/-! ### Names that come twice. -/
def twS (zs : List ByteArray) : Nat → Bool
  | 0 => false
  | i + 1 => twS zs i || Lib.containsS (zs.take i) (zs.getD i ByteArray.empty)
theorem twS_nodup (zs : List ByteArray) : ∀ i, i ≤ zs.length → (twS zs i = false ↔ (zs.take i).Nodup) := by
  intro i
  induction i with
  | zero => intro _; simp [twS]
  | succ i ih =>
    intro hi
    have hg : zs[i]? = some (zs.getD i ByteArray.empty) := by
      rw [List.getD_eq_getElem?_getD, List.getElem?_eq_getElem (by omega)]; rfl
    rw [List.take_add_one, hg]
    have hh := ih (by omega)
    simp only [twS, Bool.or_eq_false_iff, Option.toList_some]
    rw [hh, List.nodup_append]
    constructor
    · rintro ⟨h1, h2⟩
      refine ⟨h1, by simp, fun x hx y hy e => ?_⟩
      have hy := List.mem_singleton.1 hy
      subst hy e
      rw [(Lib.containsS_iff _ _).2 hx] at h2
      cases h2
    · rintro ⟨h1, _, h3⟩
      refine ⟨h1, ?_⟩
      rw [Bool.eq_false_iff]
      intro e
      exact h3 _ ((Lib.containsS_iff _ _).1 e) (zs.getD i ByteArray.empty) (by simp) rfl
def wantP (l : List Pol) : Int := if l.any badP = true then 1 else 0
def noneS (zs : List ByteArray) : Bool := zs.any (fun z => !okName z)
theorem names_cases (zs : List ByteArray) : (noneS zs = false ∧ twS zs zs.length = false ∧ scanE [] zs = 0) ∨ (noneS zs = true ∧ scanE [] zs = 2) ∨ (twS zs zs.length = true ∧ scanE [] zs = 9) := by
  have hT := twS_nodup zs zs.length (Nat.le_refl _)
  rw [List.take_length] at hT
  rcases scan_vals zs [] with h | ⟨h, x, hx, hb⟩ | ⟨h, hn⟩
  · obtain ⟨a, b⟩ := scan_zero zs [] h
    refine Or.inl ⟨?_, hT.2 (by have := b (by simp); simpa using this), h⟩
    unfold noneS
    rw [List.any_eq_false]
    intro z hz
    rw [a z hz]; simp
  · refine Or.inr (Or.inl ⟨?_, h⟩)
    unfold noneS
    rw [List.any_eq_true]
    exact ⟨x, hx, by rw [hb]; rfl⟩
  · refine Or.inr (Or.inr ⟨?_, h⟩)
    cases hc : twS zs zs.length with
    | true => rfl
    | false => exact absurd (hT.1 hc) (by simpa using hn)
theorem own_capN {w : World} {base e s n c : Nat} {A : Option Addr} {xs : List Value} (h : w.ownsRow base e s (.slice A n c) n xs) : n ≤ c := by
  rcases h.2 with ⟨h0, h1⟩ | ⟨g, cap, cur, hv, _, hh, hnc, _⟩
  · injection h0 with _ h2 h3
    omega
  · injection hv with _ _ hc
    omega
theorem contains_step {zs : List ByteArray} {k : Nat} {y z : ByteArray} (h : zs[k]? = some y) : Lib.containsS (zs.take (k + 1)) z = (Lib.containsS (zs.take k) z || decide (z = y)) := by
  have key : ∀ l : List ByteArray, ∀ b : Bool, (Lib.containsS l z = b) ↔ (b = true ↔ z ∈ l) := by
    intro l b
    rw [← Lib.containsS_iff]
    cases Lib.containsS l z <;> cases b <;> simp
  rw [key, Bool.or_eq_true, Lib.containsS_iff, List.take_add_one, h, List.mem_append, decide_eq_true_eq]
  simp
set_option maxRecDepth 100000 in
set_option maxHeartbeats 4000000 in
theorem ruleJoins_walk (w0 : World) (a0 : Option Addr) (n0 c0 : Nat) (z0 : List ByteArray) (h0 : InZ w0 a0 n0 z0) (hz0 : ∀ z ∈ z0, z.size ≤ 9223372036854775807) (hc0 : n0 ≤ c0) (hn0 : n0 ≤ 9223372036854775807) (a1 : Option Addr) (n1 c1 : Nat) (p0 : List Pol) (h1 : InP w0 a1 n1 p0) (hp0 : ∀ q ∈ p0, q.s < 256) (hc1 : n1 ≤ c1) (hn1 : n1 ≤ 9223372036854775807) (hm : ∃ m, w0.cell? ⟨0, 0, none⟩ = some (.int .i64 m)) :
    Calls Tryd.prog 6 #[.slice a0 n0 c0, .slice a1 n1 c1] w0 fun e w' => e = .returned (.bool true) ∧ Below w0.heap.size w0 w' := by
  obtain ⟨mm, hm⟩ := hm
  have HM := Lib.hid hm
  clear hm
  obtain ⟨N, hN9, hNn, hmin⟩ : ∃ N : Nat, N ≤ 9 ∧ N ≤ n0 ∧ min (n0 : Int) 9 = (N : Int) := by
    by_cases h : (9 : Int) < (n0 : Int)
    · exact ⟨9, by omega, by omega, by omega⟩
    · exact ⟨n0, by omega, by omega, by omega⟩
  obtain ⟨M, hM9, hMn, hmin1⟩ : ∃ N : Nat, N ≤ 9 ∧ N ≤ n1 ∧ min (n1 : Int) 9 = (N : Int) := by
    by_cases h : (9 : Int) < (n1 : Int)
    · exact ⟨9, by omega, by omega, by omega⟩
    · exact ⟨n1, by omega, by omega, by omega⟩
  have hzi := h0.take hNn
  have hpi := h1.take hMn
  have hzb : ∀ z ∈ z0.take N, z.size ≤ 9223372036854775807 := fun z hz => hz0 z (List.mem_of_mem_take hz)
  have hpb : ∀ q ∈ p0.take M, q.s < 256 := fun q hq => hp0 q (List.mem_of_mem_take hq)
  clear h0 h1 hz0 hp0
  generalize z0.take N = zs at *
  generalize p0.take M = ps at *
  have hcut0 := fun w => cut_z a0 n0 c0 N (N : Int) rfl (by omega) w
  have hcut1 := fun w => cut_p10 a1 n1 c1 M (M : Int) rfl (by omega) w
  have hma := own_made0 w0 w0.heap.size 9 1 (Nat.le_refl _)
  have hba : Below w0.heap.size w0 (w0.alloc (.cells #[] 9)) := bel_alloc (Below.refl _ _) _
  have hr1 := (hzi.below hba).reads
  have HP := Lib.hid hpi; have HZB := Lib.hid hzb; have HPB := Lib.hid hpb; have HMA := Lib.hid hma; have HR1 := Lib.hid hr1; have HBA := Lib.hid hba
  have hzl := hzi.ln
  have hpl := hpi.ln
  clear hzi hpi hzb hpb hma hr1 hba
  obtain ⟨i0, hi0', hy0, hy1, hy2⟩ := info_parts info_str
  have HI := Lib.hid hi0'; have HZ0 := Lib.hid hy0; have HZ1 := Lib.hid hy1; have HZ2 := Lib.hid hy2
  clear hi0' hy0 hy1 hy2
  go_enter Tryd.func6, Tryd.ntmps6
  go_wp2_with (at_builtin; refine wpList_append_any _ rfl (.tmp 21) (.tmp 26) 45 rfl w0.heap.size 9 i0 _ 1 16 Tryd.underlying45 HI.out HZ0.out HZ1.out HZ2.out rfl (by omega) (.slice (some ⟨w0.heap.size, 0, none⟩) 0 0) 0 [] rfl HMA.out _ a0 N c0 (zs.map Value.string) rfl HR1.out (strs_one zs) (by unfold maxLen; omega) (by omega) HBA.out.size ?_)
  intro v2 w3 hown2 hgr2 hor2
  have hc3 : Ch [w0.heap.size] (w0.alloc (.cells #[] 9)) w3 := ch_grown hgr2 (fun q hq => by simp [Value.ownBlock] at hq; subst hq; simp)
  have hB3 := bel_ch HBA.out hc3 (fun q hq => by simp at hq; subst hq; exact Nat.le_refl _)
  try rw [Nat.zero_add] at hown2
  try rw [List.nil_append] at hown2
  obtain ⟨A2, c2, rfl⟩ := own_slice hown2
  have hcap2 := own_capN hown2
  have HZ := Lib.hid (InZ.own hown2)
  have HB3 := Lib.hid hB3
  clear hown2 hc3 hB3 hgr2 hor2 HMA HR1 HBA hcut0 hmin
  try rw [Nat.zero_add]
  go_wp2_with fail
  go_loopw [6, 5] (fun v v5 wr => ∃ (i : Nat) (B : Option Addr) (d : Nat), i ≤ M ∧ v = .int .i64 (i : Int) ∧ v5 = .slice B i d ∧ wr.ownsRow w3.heap.size 24 3 (.slice B i d) i (polCs (ps.take i)) ∧ Below w3.heap.size w3 wr) (fun v _ _ => M - (intOf v).toNat)
  case atStart => exact ⟨0, none, 0, by omega, rfl, rfl, ⟨rfl, Or.inl ⟨rfl, rfl⟩⟩, Below.refl _ _⟩
  case round =>
    obtain ⟨i, B, d, hi, rfl, rfl, hown, hBr⟩ := hrel
    have hBw := bel_trans HB3.out hBr
    by_cases hlt : i < M
    · obtain ⟨b, off, p, rfl, hb, hpi, q0, q1, q2⟩ := (HP.out.below hBw).get hlt
      have hidx := fun w => idx_p10 b off M c1 i hlt w
      have hto := fun w => to_any p.m p.s p.n w
      have hsn : polCs (ps.take (i + 1)) = polCs (ps.take i) ++ [.int .i64 p.m, .int .u8 (p.s : Int), .int .i64 p.n] := by
        rw [List.take_add_one, hpi]
        exact polCs_snoc _ _
      have HSN := Lib.hid hsn; have HTO := Lib.hid hto; have HBr := Lib.hid hBr; have HO := Lib.hid hown
      clear hsn hto hpi hBr hown hBw
      generalize polCs (ps.take i) = cs at *
      generalize p.m = pm at *
      generalize p.s = s_ at *
      generalize p.n = pn at *
      go_wp2_with fail
      refine (HTO.out _).mono ?_; rintro e w4 ⟨rfl, hB4⟩
      have HB4 := Lib.hid (bel_trans HBr.out hB4)
      have HO4 := Lib.hid (own_chV HO.out (Ch.below hB4 []) (by simp))
      have HBk := Lib.hid (bel_alloc HB4.out (.cells #[.int .i64 pm, .int .u8 (s_ : Int), .int .i64 pn] 24))
      have HOk := Lib.hid (own_chV HO4.out ((Ch.refl [] w4).alloc (.cells #[.int .i64 pm, .int .u8 (s_ : Int), .int .i64 pn] 24)) (by simp))
      have HK := Lib.hid (Blk.new w4 24 [.int .i64 pm, .int .u8 (s_ : Int), .int .i64 pn])
      clear hB4 HBr HO HB4 HO4
      go_wp2_with (at_builtin; refine wpList_pushesN _ rfl (.tmp 39) (.tmp 45) 46 rfl w3.heap.size 24 (.agg #[.int .i64 0, .int .u8 0, .int .i64 0]) 3 24 Tryd.underlying46 info_pol rfl (by omega) B i d cs rfl HOk.out w4.heap.size 0 1 1 [.int .i64 pm, .int .u8 (s_ : Int), .int .i64 pn] rfl rfl (fun j u hj => by rw [Nat.zero_add]; exact HK.out.at_ hj) (by simp [Value.oneCell']) (by omega) (by omega) (by omega) HBk.out.size ?_)
      intro g cap w5 ho5 hg5 hor5
      have hc5 := ch_grown hg5 (fun q hq => by rw [← Option.mem_toList] at hq; exact hq)
      have HB5 := Lib.hid (bel_ch HBk.out hc5 (fun q hq => by rw [Option.mem_toList] at hq; exact (HOk.out.lt q hq).1))
      have HO5 := Lib.hid ho5
      clear ho5 hg5 hor5 hc5 HBk HOk HK
      go_wp2_with fail
      go_roundw
      case rel => exact ⟨i + 1, _, _, by omega, by go_num, rfl, by rw [HSN.out]; exact HO5.out, HB5.out⟩
      case measure => simp [intOf]; omega
    · obtain rfl : i = M := by omega
      rw [List.take_of_length_le (by omega)] at hown
      have hcapB := own_capN hown
      have HQ := Lib.hid (InP.own hown)
      have HBr := Lib.hid hBr
      have HBw := Lib.hid hBw
      have HZ1 := Lib.hid (HZ.out.below hBr)
      clear hown hBr hBw
      have hj := join_any A2 N c2 zs B i d ps wr HZ1.out HQ.out HPB.out hN9 hM9 hcap2 HZB.out
      have HJ := Lib.hid hj
      clear hj HQ HBr hcapB
      go_wp2_with fail
      refine HJ.out.mono ?_; rintro e wj ⟨rfl, hBj⟩
      have HBj := Lib.hid (bel_trans HBw.out hBj)
      have HZj := Lib.hid (HZ1.out.below hBj)
      clear hBj HJ HBw HZ1 HZ
      generalize hjb : joinB zs ps = jb at *
      generalize hje : joinE zs ps = je at *
      have HJB := Lib.hid hjb; have HJE := Lib.hid hje
      clear hjb hje
      go_wp2_with fail
      go_loopw [10, 9] (fun v v9 wq => ∃ k : Nat, k ≤ i ∧ v = .int .i64 (k : Int) ∧ v9 = .int .i64 (wantP (ps.take k)) ∧ Below wj.heap.size wj wq) (fun v _ _ => i - (intOf v).toNat)
      case atStart => exact ⟨0, by omega, rfl, rfl, Below.refl _ _⟩
      case round =>
        obtain ⟨k, hk, rfl, rfl, hBq⟩ := hrel
        have hBt := bel_trans HBj.out hBq
        by_cases hlt : k < i
        · obtain ⟨b, off, p, rfl, hb, hpk, q0, q1, q2⟩ := (HP.out.below hBt).get hlt
          have hidx := fun w => idx_p10 b off i c1 k hlt w
          have hps := HPB.out p (List.mem_of_getElem? hpk)
          have hrc := fun w => rcheck_at p.m p.s hps p.n 8 w
          have hany : (ps.take (k + 1)).any badP = ((ps.take k).any badP || badP p) := by
            rw [List.take_add_one, hpk, List.any_append]
            simp
          have HRC := Lib.hid hrc; have HBq := Lib.hid hBq; have HAN := Lib.hid hany
          clear hrc hBq hany hBt hpk
          cases hbp : badP p with
          | true =>
            have hne : (chk p.m p.s p.n 8 != 0) = true := by
              have : chk p.m p.s p.n 8 ≠ 0 := of_decide_eq_true hbp
              rw [bne_iff_ne]; exact this
            have hv : wantP (ps.take (k + 1)) = 1 := by unfold wantP; rw [HAN.out, hbp, Bool.or_true]; rfl
            have HV := Lib.hid hv
            clear hv HAN hbp
            generalize chk p.m p.s p.n 8 = ch at *
            go_wp2_with fail
            refine (HRC.out _).mono ?_; rintro e w5 ⟨rfl, hB5⟩
            have HB5 := Lib.hid (bel_trans HBq.out hB5)
            clear hB5 HBq
            go_wp2_with fail
            go_roundw
            case rel => exact ⟨k + 1, by omega, by go_num, by rw [HV.out], HB5.out⟩
            case measure => simp [intOf]; omega
          | false =>
            have hc : chk p.m p.s p.n 8 = 0 := by unfold badP at hbp; simpa using hbp
            have hv : wantP (ps.take (k + 1)) = wantP (ps.take k) := by unfold wantP; rw [HAN.out, hbp, Bool.or_false]
            rw [hc] at HRC
            have HV := Lib.hid hv
            clear hv HAN hbp hc
            go_wp2_with fail
            refine (HRC.out _).mono ?_; rintro e w5 ⟨rfl, hB5⟩
            have HB5 := Lib.hid (bel_trans HBq.out hB5)
            clear hB5 HBq
            go_wp2_with fail
            go_roundw
            case rel => exact ⟨k + 1, by omega, by go_num, by rw [HV.out], HB5.out⟩
            case measure => simp [intOf]; omega
        · obtain rfl : k = i := by omega
          rw [List.take_of_length_le (by omega)]
          have HZq := Lib.hid (HZj.out.below hBq)
          have HBq := Lib.hid hBt
          clear hBq hBt HBj HZj
          generalize hwv : wantP ps = wv at *
          have HWV := Lib.hid hwv
          clear hwv
          go_wp2_with fail
          go_loopw [13, 12, 11] (fun v v12 v11 wn => ∃ j : Nat, j ≤ N ∧ v = .int .i64 (j : Int) ∧ v12 = .bool (noneS (zs.take j)) ∧ v11 = .bool (twS zs j) ∧ Below wr.heap.size wr wn) (fun v _ _ _ => N - (intOf v).toNat)
          case atStart => exact ⟨0, by omega, rfl, rfl, rfl, Below.refl _ _⟩
          case round =>
            obtain ⟨j, hj, rfl, rfl, rfl, hBn⟩ := hrel
            have hBt := bel_trans HBq.out hBn
            by_cases hlt : j < N
            · obtain ⟨b, off, z, rfl, hb, hzj, q0⟩ := (HZq.out.below hBn).get hlt
              have hidx := fun w => idx_z b off N c2 j hlt w
              have hzs := HZB.out z (List.mem_of_getElem? hzj)
              have hnm := fun w => name_any z hzs w
              have hno : noneS (zs.take (j + 1)) = (noneS (zs.take j) || !okName z) := by
                unfold noneS
                rw [List.take_add_one, hzj, List.any_append]
                simp
              have htw : twS zs (j + 1) = (twS zs j || Lib.containsS (zs.take j) z) := by
                have : zs.getD j ByteArray.empty = z := by rw [List.getD_eq_getElem?_getD, hzj]; rfl
                rw [← this]; rfl
              have HNM := Lib.hid hnm; have HNO := Lib.hid hno; have HTW := Lib.hid htw; have HBn := Lib.hid hBn
              clear hnm hno htw hBn hBt hzs
              generalize twS zs j = tw at *
              have inner : ∀ (wI : World), Below wr.heap.size wr wI → True := fun _ _ => trivial
              clear inner
              cases hn : noneS (zs.take j) with
              | true =>
                have HN2 := HNO.out
                rw [hn, Bool.true_or] at HN2
                have HN2 := Lib.hid HN2
                clear HNO HNM hn
                go_wp2_with fail
                go_loopw [14, 11] (fun v v11 wi => ∃ k : Nat, k ≤ j ∧ v = .int .i64 (k : Int) ∧ v11 = .bool (tw || Lib.containsS (zs.take k) z) ∧ Below wr.heap.size wr wi) (fun v _ _ => j - (intOf v).toNat)
                case atStart => exact ⟨0, by omega, rfl, by rw [show Lib.containsS (zs.take 0) z = false from by rw [List.take_zero]; rfl, Bool.or_false], Below.refl _ _⟩
                case round =>
                  obtain ⟨k, hk, rfl, rfl, hBi⟩ := hrel
                  have hBi2 := bel_trans HBn.out hBi
                  have hBi3 := bel_trans HBq.out hBi2
                  by_cases hlk : k < j
                  · obtain ⟨b2, off2, y, hb2, hb3, hyk, q1⟩ := (HZq.out.below hBi2).get (show k < N by omega)
                    injection hb2 with hb2
                    injection hb2 with hb2 hoff
                    subst hb2 hoff
                    have q0i := (hBi.cell (p := ⟨b, off + j, none⟩) hb).trans q0
                    have hidk := fun w => idx_z b off N c2 k (show k < N by omega) w
                    have hcs := contains_step (z := z) hyk
                    have hzy := str_beq z y
                    have HCS := Lib.hid hcs; have HBi := Lib.hid hBi
                    clear hcs hBi hBi2 hBi3 hyk
                    cases hcv : (tw || Lib.containsS (zs.take k) z) with
                    | true =>
                      have hnx : (tw || Lib.containsS (zs.take (k + 1)) z) = true := by rw [HCS.out, ← Bool.or_assoc, hcv, Bool.true_or]
                      have HNX := Lib.hid hnx
                      clear hnx HCS hcv
                      go_wp2_with fail
                      go_quiet (fail)
                      go_wp2_with fail
                      go_roundw
                      case rel => exact ⟨k + 1, by omega, by go_num, by rw [HNX.out], bel_drewN HBi.out _⟩
                      case measure => simp [intOf]; omega
                    | false =>
                      have hnx : (tw || Lib.containsS (zs.take (k + 1)) z) = decide (z = y) := by rw [HCS.out, ← Bool.or_assoc, hcv, Bool.false_or]
                      rw [← hzy] at hnx
                      have HNX := Lib.hid hnx
                      clear hnx HCS hcv hzy
                      generalize hzz : (z.toList == y.toList) = zy at *
                      go_wp2_with fail
                      go_quiet (fail)
                      go_wp2_with fail
                      go_roundw
                      case rel => exact ⟨k + 1, by omega, by go_num, by rw [HNX.out], bel_drewN HBi.out _⟩
                      case measure => simp [intOf]; omega
                  · obtain rfl : k = j := by omega
                    rw [← HTW.out]
                    have HBi2 := Lib.hid hBi2
                    clear hBi hBi2 hBi3
                    go_wp2_with fail
                    go_roundw
                    case rel => exact ⟨k + 1, by omega, by go_num, by rw [HN2.out], rfl, HBi2.out⟩
                    case measure => simp [intOf]; omega
              | false =>
                have HN2 := HNO.out
                rw [hn, Bool.false_or] at HN2
                have HN2 := Lib.hid HN2
                clear HNO hn
                go_wp2_with fail
                refine (HNM.out _).mono ?_; rintro e w6 ⟨rfl, rfl⟩
                clear HNM
                generalize okName z = oz at *
                go_wp2_with fail
                go_loopw [14, 11] (fun v v11 wi => ∃ k : Nat, k ≤ j ∧ v = .int .i64 (k : Int) ∧ v11 = .bool (tw || Lib.containsS (zs.take k) z) ∧ Below wr.heap.size wr wi) (fun v _ _ => j - (intOf v).toNat)
                case atStart => exact ⟨0, by omega, rfl, by rw [show Lib.containsS (zs.take 0) z = false from by rw [List.take_zero]; rfl, Bool.or_false], Below.refl _ _⟩
                case round =>
                  obtain ⟨k, hk, rfl, rfl, hBi⟩ := hrel
                  have hBi2 := bel_trans HBn.out hBi
                  have hBi3 := bel_trans HBq.out hBi2
                  by_cases hlk : k < j
                  · obtain ⟨b2, off2, y, hb2, hb3, hyk, q1⟩ := (HZq.out.below hBi2).get (show k < N by omega)
                    injection hb2 with hb2
                    injection hb2 with hb2 hoff
                    subst hb2 hoff
                    have q0i := (hBi.cell (p := ⟨b, off + j, none⟩) hb).trans q0
                    have hidk := fun w => idx_z b off N c2 k (show k < N by omega) w
                    have hcs := contains_step (z := z) hyk
                    have hzy := str_beq z y
                    have HCS := Lib.hid hcs; have HBi := Lib.hid hBi
                    clear hcs hBi hBi2 hBi3 hyk
                    cases hcv : (tw || Lib.containsS (zs.take k) z) with
                    | true =>
                      have hnx : (tw || Lib.containsS (zs.take (k + 1)) z) = true := by rw [HCS.out, ← Bool.or_assoc, hcv, Bool.true_or]
                      have HNX := Lib.hid hnx
                      clear hnx HCS hcv
                      go_wp2_with fail
                      go_quiet (fail)
                      go_wp2_with fail
                      go_roundw
                      case rel => exact ⟨k + 1, by omega, by go_num, by rw [HNX.out], bel_drewN HBi.out _⟩
                      case measure => simp [intOf]; omega
                    | false =>
                      have hnx : (tw || Lib.containsS (zs.take (k + 1)) z) = decide (z = y) := by rw [HCS.out, ← Bool.or_assoc, hcv, Bool.false_or]
                      rw [← hzy] at hnx
                      have HNX := Lib.hid hnx
                      clear hnx HCS hcv hzy
                      generalize hzz : (z.toList == y.toList) = zy at *
                      go_wp2_with fail
                      go_quiet (fail)
                      go_wp2_with fail
                      go_roundw
                      case rel => exact ⟨k + 1, by omega, by go_num, by rw [HNX.out], bel_drewN HBi.out _⟩
                      case measure => simp [intOf]; omega
                  · obtain rfl : k = j := by omega
                    rw [← HTW.out]
                    have HBi2 := Lib.hid hBi2
                    clear hBi hBi2 hBi3
                    go_wp2_with fail
                    go_roundw
                    case rel => exact ⟨k + 1, by omega, by go_num, by rw [HN2.out], rfl, HBi2.out⟩
                    case measure => simp [intOf]; omega
            · obtain rfl : j = N := by omega
              rw [List.take_of_length_le (by omega)]
              have HBt := Lib.hid hBt
              have HZt := Lib.hid (HZq.out.below hBn)
              clear hBt hBn HBq HZq
              have hcs := names_cases zs
              rw [hzl] at hcs
              generalize noneS zs = nn at *
              generalize twS zs j = tw at *
              by_cases hNi : j = k
              · subst hNi
                have hnn : ((j : Int) != (j : Int)) = false := by rw [bne_eq_false_iff_eq]
                have hje : je = if scanE [] zs ≠ 0 then scanE [] zs else if ps.any badP = true then 1 else 0 := by
                  rw [← HJE.out]; unfold joinE; rw [if_neg (by omega)]
                have hjb : jb = if je = 0 then bytesL (flatL (linesOf zs ps)) else ⟨#[]⟩ := by rw [← HJB.out, ← HJE.out]; rfl
                have hem : (⟨#[]⟩ : ByteArray).toList.isEmpty = true := by rw [Lib.toList_data]; rfl
                rcases hcs with ⟨rfl, rfl, hsc⟩ | ⟨rfl, hsc⟩ | ⟨rfl, hsc⟩
                · rw [if_neg (by omega)] at hje
                  cases hbp : ps.any badP with
                  | true =>
                    rw [if_pos hbp] at hje
                    rw [hje, if_neg (by omega)] at hjb
                    have hwv : wv = 1 := by rw [← HWV.out]; unfold wantP; rw [if_pos hbp]
                    clear HJE HJB HWV hbp hsc
                    subst hje hjb hwv
                    go_wp2_with fail
                    refine (rules_any _).mono ?_; rintro e w7 ⟨rfl, hB7⟩
                    have HB7 := Lib.hid (bel_trans HBt.out hB7)
                    clear hB7 HBt
                    go_wp2_with fail
                    go_ret
                    exact ⟨rfl, HB7.out⟩
                  | false =>
                    rw [if_neg (by rw [hbp]; simp)] at hje
                    rw [if_pos hje] at hjb
                    have hwv : wv = 0 := by rw [← HWV.out]; unfold wantP; rw [if_neg (by rw [hbp]; simp)]
                    have hls := lines_ok (by omega) (by omega) hsc HPB.out hbp
                    have hlen : (linesOf zs ps).length = j := by unfold linesOf; rw [List.length_zipWith]; omega
                    have hbad : ∀ p ∈ ps, badP p = false := fun p hp => by
                      cases h : badP p with
                      | false => rfl
                      | true => rw [List.any_eq_false] at hbp; exact absurd h (hbp p hp)
                    obtain ⟨hnames, _⟩ := scan_zero zs [] hsc
                    have HLS := Lib.hid hls; have HBAD := Lib.hid hbad; have HNA := Lib.hid hnames
                    clear HJE HJB HWV hbp hsc hls hbad hnames
                    subst hje hwv
                    go_wp2_with fail
                    refine (rules_any _).mono ?_; rintro e w7 ⟨rfl, hB7⟩
                    have HB7 := Lib.hid (bel_trans HBt.out hB7)
                    have HZ7 := Lib.hid (HZt.out.below hB7)
                    clear hB7 HBt HZt
                    go_wp2_with fail
                    go_loopw [16, 15] (fun v v15 wt => ∃ q : Nat, q ≤ j ∧ v = .int .i64 (q : Int) ∧ v15 = .string (bytesL (flatL ((linesOf zs ps).take q))) ∧ (flatL ((linesOf zs ps).take q)).length ≤ 99 * q ∧ Below w7.heap.size w7 wt) (fun v _ _ => j - (intOf v).toNat)
                    case atStart => exact ⟨0, by omega, rfl, rfl, by simp [flatL], Below.refl _ _⟩
                    case round =>
                      obtain ⟨q, hq, rfl, rfl, hfl, hBx⟩ := hrel
                      have hBw := bel_trans HB7.out hBx
                      by_cases hlt : q < j
                      · obtain ⟨b, off, z, rfl, hb, hzq, q0⟩ := (HZ7.out.below hBx).get hlt
                        obtain ⟨b3, off3, p, rfl, hb3, hpq, r0, r1, r2⟩ := (HP.out.below hBw).get hlt
                        have hidx := fun w => idx_z b off j c2 q hlt w
                        have hidp := fun w => idx_p10 b3 off3 j c1 q hlt w
                        have hps := HPB.out p (List.mem_of_getElem? hpq)
                        have hpg := HBAD.out p (List.mem_of_getElem? hpq)
                        have hzok := HNA.out z (List.mem_of_getElem? hzq)
                        have hc : chk p.m p.s p.n 8 = 0 := by unfold badP at hpg; simpa using hpg
                        have htx := fun w => rruleText_yes p.m p.s hps p.n hc w
                        obtain ⟨_, hz16, ht80⟩ := line_good hzok hps hpg
                        have hfb := flat_snoc ((linesOf zs ps).take q) (lineOf z p)
                        rw [← lines_snoc hzq hpq] at hfb
                        have htxt : (lineOf z p).txt = z.data.toList ++ [58, 32] ++ (txtR p.m p.s p.n).data.toList := rfl
                        rw [htxt] at hfb
                        have HBx := Lib.hid hBx
                        clear hBx hBw hps hpg hzok hc htxt hzq hpq
                        generalize txtR p.m p.s p.n = tx at *
                        generalize p.m = pm at *
                        generalize p.s = s_ at *
                        generalize p.n = pn at *
                        have hTz : (bytesL (flatL ((linesOf zs ps).take q))).size ≤ 99 * q := hfl
                        have hnew : bytesL (flatL ((linesOf zs ps).take (q + 1))) = bytesL (flatL ((linesOf zs ps).take q)) ++ z ++ (⟨#[58, 32]⟩ : ByteArray) ++ tx ++ (⟨#[10]⟩ : ByteArray) := by
                          apply WideShapes.bytes_inj
                          rw [bytesL_list, hfb, cat_data, cat_data, cat_data, cat_data, bytesL_list]
                          simp only [List.append_assoc]
                        have hfl2 : (flatL ((linesOf zs ps).take (q + 1))).length ≤ 99 * (q + 1) := by
                          rw [hfb]
                          simp only [List.length_append, List.length_cons, List.length_nil, len_data]
                          omega
                        generalize bytesL (flatL ((linesOf zs ps).take q)) = T at *
                        have a1 : (T ++ z).size = T.size + z.size := ByteArray.size_append
                        have a2 : (T ++ z ++ (⟨#[58, 32]⟩ : ByteArray)).size = T.size + z.size + 2 := by rw [ByteArray.size_append, a1]; rfl
                        have a3 : (T ++ z ++ (⟨#[58, 32]⟩ : ByteArray) ++ tx).size = T.size + z.size + 2 + tx.size := by rw [ByteArray.size_append, a2]
                        have HTX := Lib.hid htx; have HNW := Lib.hid hnew; have HF2 := Lib.hid hfl2
                        clear htx hnew hfl2 hfb hfl
                        have k0 := after_cell q0
                        have k1 := after_cell r0
                        have k2 := after_cell r1
                        have k3 := after_cell r2
                        go_upto_region 36 with fail
                        refine wp_region_after (by kernel_rfl) (by kernel_rfl) ?_
                        repeat (first | go_big_quiet_step ((go_at_call 13; exact after_call HTX.out _)) | quiet_step ((go_at_call 13; exact after_call HTX.out _)))
                        refine wpQuiet_nil ?_; intro _ hw'; obtain ⟨xq, hw''⟩ := hw'; subst hw''
                        go_wp2_with fail
                        go_roundw
                        case rel => exact ⟨q + 1, by omega, by go_num, by rw [HNW.out], HF2.out, bel_after HBx.out _⟩
                        case measure => simp [intOf]; omega
                      · obtain rfl : q = j := by omega
                        rw [List.take_of_length_le (by omega)]
                        have hm7 := (hBw.cell (p := ⟨0, 0, none⟩) (World.block_lt_of_cell? w0 _ HM.out)).trans HM.out
                        have hll := fun w hm => list_lines (linesOf zs ps) HLS.out mm w hm
                        rw [hlen] at hll
                        generalize bytesL (flatL (linesOf zs ps)) = T at *
                        have HBw := Lib.hid hBw; have HLL := Lib.hid (hll _ hm7)
                        clear hBw hll hm7 hfl hBx HZ7 HB7
                        have hTT : (T.toList == T.toList) = true := by simp
                        have hjj : ((q : Int) == (q : Int)) = true := by simp
                        go_wp2_with fail
                        refine HLL.out.mono ?_; rintro e w9 ⟨A9, c9, B9, d9, rfl, _, _, hB9⟩
                        have HB9 := Lib.hid (bel_trans HBw.out hB9)
                        clear hB9 HBw HLL
                        go_wp2_with fail
                        go_ret
                        exact ⟨rfl, HB9.out⟩
                · rw [hsc, if_pos (by omega)] at hje
                  rw [hje, if_neg (by omega)] at hjb
                  clear HJE HJB HWV hsc
                  subst hje hjb
                  cases tw <;>
                  · go_wp2_with fail
                    refine (rules_any _).mono ?_; rintro e w7 ⟨rfl, hB7⟩
                    have HB7 := Lib.hid (bel_trans HBt.out hB7)
                    clear hB7 HBt
                    go_wp2_with fail
                    go_ret
                    exact ⟨rfl, HB7.out⟩
                · rw [hsc, if_pos (by omega)] at hje
                  rw [hje, if_neg (by omega)] at hjb
                  clear HJE HJB HWV hsc
                  subst hje hjb
                  cases nn <;>
                  · go_wp2_with fail
                    refine (rules_any _).mono ?_; rintro e w7 ⟨rfl, hB7⟩
                    have HB7 := Lib.hid (bel_trans HBt.out hB7)
                    clear hB7 HBt
                    go_wp2_with fail
                    go_ret
                    exact ⟨rfl, HB7.out⟩
              · have hje : je = 3 := by rw [← HJE.out]; unfold joinE; rw [if_pos (by omega)]
                have hjb : jb = ⟨#[]⟩ := by rw [← HJB.out]; unfold joinB; rw [HJE.out, hje, if_neg (by omega)]
                have hnn : ((j : Int) != (k : Int)) = true := by rw [bne_iff_ne]; omega
                have hem : (⟨#[]⟩ : ByteArray).toList.isEmpty = true := by rw [Lib.toList_data]; rfl
                clear HJE HJB HWV hcs
                subst hje hjb
                go_wp2_with fail
                refine (rules_any _).mono ?_; rintro e w7 ⟨rfl, hB7⟩
                have HB7 := Lib.hid (bel_trans HBt.out hB7)
                clear hB7 HBt
                go_wp2_with fail
                go_ret
                exact ⟨rfl, HB7.out⟩
end Go.Proofs.YtdpcnbbaipdmjaaDoor
