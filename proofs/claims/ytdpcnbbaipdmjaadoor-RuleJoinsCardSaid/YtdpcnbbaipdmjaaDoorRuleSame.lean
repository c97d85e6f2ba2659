/- The law RuleSame. -/
import Derived.Test.YtdpcnbbaipdmjaaDoorRuleList
import Derived.Test.YtdpcnbbaipdmjaaDoorRuleTextsW
namespace Go.Proofs.YtdpcnbbaipdmjaaDoor
open Go.RowKit Go.Shelf
set_option linter.unusedVariables false
set_option linter.unusedSimpArgs false
attribute [local go_sem] World.cell?_alloc_lt

/-- Nodes as a text, one behind the other. -/
def addD (o : ByteArray) (n : Nat) : ByteArray := (if o = ⟨#[]⟩ then o else o ++ ⟨#[44]⟩) ++ digB n
def growD (l : List Nat) : ByteArray := l.foldl addD ⟨#[]⟩
theorem growD_snoc (l : List Nat) (n : Nat) : growD (l ++ [n]) = addD (growD l) n := by simp [growD]
theorem grow_rule : ∀ s : Nat, s < 256 → 0 < s → ruleO (⟨#[109, 101, 109, 98, 105, 110, 100, 61]⟩ ++ growD (nodesN s).reverse) = some ⟨1, s, 0⟩ := by decide +kernel
theorem grow_size : ∀ s : Nat, s < 256 → (growD (nodesN s).reverse).size ≤ 20 := by decide +kernel
theorem grow_nl : ∀ s : Nat, s < 256 → (growD (nodesN s).reverse).data.toList.all (fun x => x != 10) = true := by decide +kernel
theorem nodes_small : ∀ s : Nat, s < 256 → (nodesN s).all (fun n => decide (n < 8)) = true := by decide +kernel
theorem growD_size (l : List Nat) : (growD l).size ≤ 2 * l.length := by
  have key : ∀ (l : List Nat) (o : ByteArray), (l.foldl addD o).size ≤ o.size + 2 * l.length := by
    intro l
    induction l with
    | nil => intro o; simp
    | cons n r ih =>
      intro o
      rw [List.foldl_cons]
      have h1 := ih (addD o n)
      have h2 : (addD o n).size ≤ o.size + 2 := by
        unfold addD
        rw [ByteArray.size_append, digB_size]
        split
        · omega
        · rw [ByteArray.size_append, show (⟨#[44]⟩ : ByteArray).size = 1 from rfl]; omega
      rw [List.length_cons]
      omega
  have := key l ⟨#[]⟩
  rw [show (⟨#[]⟩ : ByteArray).size = 0 from rfl] at this
  unfold growD
  omega
/-- The two lines. -/
def twoL (s k : Nat) : List Ln := [⟨⟨#[97]⟩, ⟨#[109, 101, 109, 98, 105, 110, 100, 61]⟩ ++ growD (nodesN s).reverse, ⟨1, s, 0⟩⟩, ⟨⟨#[98]⟩, ⟨#[112, 114, 101, 102, 101, 114, 114, 101, 100, 61]⟩ ++ digB k, ⟨3, 0, (k : Int)⟩⟩]
theorem two_ok {s k : Nat} (hs : s < 256) (h0 : 0 < s) (hk : k < 8) : LsOk (twoL s k) := by
  refine ⟨fun q hq => ?_, by unfold twoL namesB; simp only [List.map_cons, List.map_nil]; decide, by unfold twoL; simp, ?_⟩
  · unfold twoL at hq
    simp only [List.mem_cons, List.not_mem_nil, or_false] at hq
    rcases hq with rfl | rfl
    · refine ⟨(by decide : okName ⟨#[97]⟩ = true), fun x hx => ?_, grow_rule s hs h0⟩
      simp only [cat_data] at hx
      rcases List.mem_append.1 hx with hx | hx
      · intro e; subst e; revert hx; decide
      · have := List.all_eq_true.1 (grow_nl s hs) x hx
        simpa using this
    · refine ⟨(by decide : okName ⟨#[98]⟩ = true), fun x hx => ?_, rule_pre k hk⟩
      simp only [cat_data] at hx
      rcases List.mem_append.1 hx with hx | hx
      · intro e; subst e; revert hx; decide
      · intro e; subst e
        have h10 : ∀ k : Nat, k < 8 → (10 : UInt8) ∉ (digB k).data.toList := by decide +kernel
        exact h10 k hk hx
  · have := grow_size s hs
    unfold twoL
    rw [flat_len, flat_len]
    simp only [flatL, List.length_nil, ByteArray.size_append, digB_size]
    rw [show (⟨#[109, 101, 109, 98, 105, 110, 100, 61]⟩ : ByteArray).size = 8 from rfl, show (⟨#[112, 114, 101, 102, 101, 114, 114, 101, 100, 61]⟩ : ByteArray).size = 10 from rfl, show (⟨#[97]⟩ : ByteArray).size = 1 from rfl, show (⟨#[98]⟩ : ByteArray).size = 1 from rfl]
    omega
theorem two_text (s k : Nat) : (((⟨#[97, 58, 32, 109, 101, 109, 98, 105, 110, 100, 61]⟩ ++ growD (nodesN s).reverse) ++ ⟨#[10, 98, 58, 32, 112, 114, 101, 102, 101, 114, 114, 101, 100, 61]⟩) ++ digB k) ++ ⟨#[10]⟩ = bytesL (flatL (twoL s k)) := by
  apply WideShapes.bytes_inj
  rw [bytesL_list]
  unfold twoL
  simp only [flatL, Ln.txt, cat_data, List.append_nil]
  simp only [List.append_assoc, List.cons_append, List.nil_append]
theorem own_wide {w : World} {base e s n c : Nat} {A : Option Addr} {xs : List Value} (h : w.ownsRow base e s (.slice A n c) n xs) (hn : n ≠ 0) : ∃ g, A = some ⟨g, 0, none⟩ ∧ ∀ (k : Nat) (u : Value), xs[k]? = some u → w.cell? ⟨g, k, none⟩ = some u := by
  rcases h.2 with ⟨h0, h1⟩ | ⟨g, cap, cur, hv, _, hh, _, _, hsz, ht⟩
  · exact absurd h1 hn
  · injection hv with ha _ hc
    refine ⟨g, ha, fun k u hk => ?_⟩
    rw [← ht, List.getElem?_take] at hk
    split at hk
    · simp [World.cell?, hh]
      simpa using hk
    · cases hk
set_option maxRecDepth 100000 in
set_option maxHeartbeats 4000000 in
theorem ruleSame_walk (s0 : Int) (hs0 : (Lit.int .u8 s0).wf = true) (node : Int) (_hn : (Lit.int .i64 node).wf = true) (w0 : World) (hm : ∃ m, w0.cell? ⟨0, 0, none⟩ = some (.int .i64 m)) : Calls Tryd.prog 5 #[.int .u8 s0, .int .i64 node] w0 fun e w' => e = .returned (.bool true) ∧ Below w0.heap.size w0 w' := by
  obtain ⟨mm, hm⟩ := hm
  obtain ⟨s, rfl, hs⟩ : ∃ t : Nat, s0 = (t : Int) ∧ t < 256 := by
    simp [Lit.wf, IntKind.min, IntKind.max, IntKind.signed, IntKind.bits] at hs0
    exact ⟨s0.toNat, by omega, by omega⟩
  clear hs0
  by_cases h0 : s = 0
  · subst h0
    clear hs hm
    go_enter Tryd.func5, Tryd.ntmps5
    go_wp2_with fail
    refine (rules_any _).mono ?_; rintro e w1 ⟨rfl, hB1⟩
    go_wp2_with fail
    refine (rules_any _).mono ?_; rintro e w2 ⟨rfl, hB2⟩
    have HB := Lib.hid (bel_trans hB1 hB2)
    clear hB1 hB2
    go_wp2_with fail
    go_ret
    exact ⟨rfl, HB.out⟩
  · have hsf : ((s : Int) == 0) = false := by rw [beq_eq_false_iff_ne]; omega
    have hla := fun w => list_at s hs w
    have hnl := nodes_len s hs
    have hsm := List.all_eq_true.1 (nodes_small s hs)
    have HLA := Lib.hid hla; have HM := Lib.hid hm; have HSM := Lib.hid hsm
    clear hla hm hsm
    go_enter Tryd.func5, Tryd.ntmps5
    go_wp2_with fail
    refine (rules_any _).mono ?_; rintro e w1 ⟨rfl, hB1⟩
    have HB1 := Lib.hid hB1
    clear hB1
    go_wp2_with fail
    refine (HLA.out _).mono ?_; rintro e w2 ⟨A, c, rfl, hown, hB2⟩
    have HB2 := Lib.hid (bel_trans HB1.out hB2)
    have HO := Lib.hid hown
    clear hB2 hown HB1 HLA
    go_wp2_with fail
    go_loopw [8, 7] (fun v8 v7 wr => ∃ j : Nat, j ≤ (nodesN s).length ∧ v8 = .int .i64 ((j : Int) - 1) ∧ v7 = .string (growD ((nodesN s).drop j).reverse) ∧ Below w2.heap.size w2 wr) (fun v _ _ => (intOf v + 1).toNat)
    case atStart => exact ⟨(nodesN s).length, Nat.le_refl _, rfl, by rw [List.drop_length]; rfl, Below.refl _ _⟩
    case round =>
      obtain ⟨j, hj, rfl, rfl, hB⟩ := hrel
      have HB := Lib.hid hB
      clear hB
      by_cases hj0 : 0 < j
      · obtain ⟨i, rfl⟩ : ∃ i, j = i + 1 := ⟨j - 1, by omega⟩
        have hii : i < (nodesN s).length := by omega
        have hji : ((i + 1 : Nat) : Int) - 1 = (i : Int) := by omega
        rw [hji]
        have hx8 : (nodesN s)[i] < 8 := of_decide_eq_true (HSM.out _ (List.getElem_mem hii))
        obtain ⟨g, rfl, hcell, hgl, _⟩ := own_at HO.out (k := i) (u := ofN (nodesN s)[i]) (by rw [List.getElem?_map, List.getElem?_eq_getElem hii]; rfl)
        unfold ofN at hcell
        have hcr := (HB.out.cell (p := ⟨g, i, none⟩) hgl).trans hcell
        have hidx := fun w => idxI g 0 (nodesN s).length c i hii w
        simp only [Nat.zero_add] at hidx
        have hgs := growD_snoc ((nodesN s).drop (i + 1)).reverse (nodesN s)[i]
        rw [← List.reverse_cons, ← List.drop_eq_getElem_cons hii] at hgs
        have hoz := growD_size ((nodesN s).drop (i + 1)).reverse
        rw [List.length_reverse, List.length_drop] at hoz
        generalize growD ((nodesN s).drop (i + 1)).reverse = o at *
        have HGS := Lib.hid hgs
        clear hgs hcell HSM
        generalize hxx : (nodesN s)[i] = x at *
        have hc := conv_byte (wr.alloc (.cells #[.int .u8 (48 + (x : Int))] 5)) wr.heap.size (48 + x) (by
          have h := (Blk.new wr 5 [.int .u8 (48 + (x : Int))]).at_ (i := 0) rfl
          rw [show ((48 + x : Nat) : Int) = 48 + (x : Int) by omega]
          exact h)
        have h0x : (0 : Int) ≤ (x : Int) := by omega
        have h1x : (x : Int) < 8 := by omega
        have hyz : (digB x).size = 1 := rfl
        have HGS2 := HGS.out
        unfold addD at HGS2
        unfold digB at hyz HGS2
        generalize (⟨#[UInt8.ofNat (48 + x)]⟩ : ByteArray) = y at *
        have hca : (wr.alloc (.cells #[.int .u8 (48 + (x : Int))] 5)).cell? ⟨g, i, none⟩ = some (.int .i64 (x : Int)) := ((bel_alloc (Below.refl wr.heap.size wr) _).cell (p := ⟨g, i, none⟩) (World.block_lt_of_cell? wr _ hcr)).trans hcr
        have HG2 := Lib.hid HGS2
        have HBn := Lib.hid (bel_alloc HB.out (.cells #[.int .u8 (48 + (x : Int))] 5))
        clear HGS HGS2 HB hxx
        by_cases he : o = ⟨#[]⟩
        · have hem : o.toList.isEmpty = true := by rw [he, Lib.toList_data]; rfl
          have hv := HG2.out
          rw [if_pos he] at hv
          have HV := Lib.hid hv
          clear hv HG2 he
          go_wp2_with fail
          go_roundw
          case rel => exact ⟨i, by omega, by go_num, by rw [HV.out], HBn.out⟩
          case measure => simp [intOf]
        · have hem : o.toList.isEmpty = false := by rw [List.isEmpty_eq_false_iff]; exact str_ne_nil he
          have hv := HG2.out
          rw [if_neg he] at hv
          have HV := Lib.hid hv
          clear hv HG2 he
          have hoz2 : (o ++ (⟨#[44]⟩ : ByteArray)).size = o.size + 1 := by rw [ByteArray.size_append]; rfl
          go_wp2_with fail
          go_roundw
          case rel => exact ⟨i, by omega, by go_num, by rw [HV.out], HBn.out⟩
          case measure => simp [intOf]
      · obtain rfl : j = 0 := by omega
        rw [List.drop_zero]
        have hz := grow_size s hs
        have hp1 := fun w => ruleParse_any (⟨#[109, 101, 109, 98, 105, 110, 100, 61]⟩ ++ growD (nodesN s).reverse) (by rw [ByteArray.size_append, show (⟨#[109, 101, 109, 98, 105, 110, 100, 61]⟩ : ByteArray).size = 8 from rfl]; omega) w
        rw [grow_rule s hs (by omega)] at hp1
        have hz2 := text_sizeR s hs
        have hp2 := fun w => ruleParse_any (⟨#[109, 101, 109, 98, 105, 110, 100, 61]⟩ ++ textB s) (by rw [ByteArray.size_append, show (⟨#[109, 101, 109, 98, 105, 110, 100, 61]⟩ : ByteArray).size = 8 from rfl]; omega) w
        rw [rule_mem s hs (by omega)] at hp2
        simp only [ruleV, Pol.v] at hp1 hp2
        have htx := fun w => text_at s hs w
        have hkb := umod_bd node 8 (by omega) (by omega)
        generalize hkk : wrap64 ((IntKind.u64.wrap node).tmod 8) = kk at hkb
        obtain ⟨k, rfl⟩ := Int.eq_ofNat_of_zero_le hkb.1
        have hk8 : k < 8 := by omega
        have hlist := fun w hm => list_lines (twoL s k) (two_ok hs (by omega) hk8) mm w hm
        rw [← two_text] at hlist
        have hl2 : (twoL s k).length = 2 := rfl
        have hpv : polsV (twoL s k) = [.int .i64 1, .int .u8 (s : Int), .int .i64 0, .int .i64 3, .int .u8 0, .int .i64 (k : Int)] := rfl
        rw [hl2, hpv] at hlist
        have hyz : (digB k).size = 1 := rfl
        have hdg : digB k = ⟨#[UInt8.ofNat (48 + k)]⟩ := rfl
        rw [hdg] at hlist hyz
        generalize growD (nodesN s).reverse = T at *
        generalize textB s = tx at *
        have HP1 := Lib.hid hp1; have HP2 := Lib.hid hp2; have HTX := Lib.hid htx; have HLI := Lib.hid hlist
        have HBr := Lib.hid (bel_trans HB2.out HB.out)
        clear hp1 hp2 htx hlist hl2 hpv hdg HSM HO HB2 HB hkb
        go_wp2_with fail
        refine (HP1.out _).mono ?_; rintro e w3 ⟨rfl, hB3⟩
        have HB3 := Lib.hid (bel_trans HBr.out hB3)
        clear hB3 HBr HP1
        go_upto_region 13 with fail
        have hb := Blk.new w3 24 [.int .i64 1, .int .u8 (s : Int), .int .i64 0]
        have hB := bel_alloc HB3.out (.cells #[.int .i64 1, .int .u8 (s : Int), .int .i64 0] 24)
        generalize w3.alloc (.cells #[.int .i64 1, .int .u8 (s : Int), .int .i64 0] 24) = w4 at *
        generalize w3.heap.size = g9 at *
        have HB4 := Lib.hid hB; have HK4 := Lib.hid hb
        clear hB hb HB3
        go_wp2_with fail
        refine (HTX.out _).mono ?_; rintro e w5 ⟨rfl, hB5⟩
        have HB5 := Lib.hid (bel_trans HB4.out hB5)
        have HK5 := Lib.hid (HK4.out.below hB5)
        clear hB5 HB4 HK4 HTX
        go_wp2_with fail
        refine (HP2.out _).mono ?_; rintro e w6 ⟨rfl, hB6⟩
        have HB6 := Lib.hid (bel_trans HB5.out hB6)
        have HK6 := Lib.hid (HK5.out.below hB6)
        clear hB6 HB5 HK5 HP2
        go_upto_region 14 with fail
        have hb := Blk.new w6 24 [.int .i64 1, .int .u8 (s : Int), .int .i64 0]
        have hb9 := HK6.out.alloc (.cells #[.int .i64 1, .int .u8 (s : Int), .int .i64 0] 24)
        have hB := bel_alloc HB6.out (.cells #[.int .i64 1, .int .u8 (s : Int), .int .i64 0] 24)
        generalize w6.alloc (.cells #[.int .i64 1, .int .u8 (s : Int), .int .i64 0] 24) = w7 at *
        generalize w6.heap.size = g11 at *
        have h0x : (0 : Int) ≤ (k : Int) := by omega
        have h1x : (k : Int) < 8 := by omega
        have hc := conv_byte (w7.alloc (.cells #[.int .u8 (48 + (k : Int))] 5)) w7.heap.size (48 + k) (by
          have h := (Blk.new w7 5 [.int .u8 (48 + (k : Int))]).at_ (i := 0) rfl
          rw [show ((48 + k : Nat) : Int) = 48 + (k : Int) by omega]
          exact h)
        have HB8 := Lib.hid (bel_alloc hB (.cells #[.int .u8 (48 + (k : Int))] 5))
        have HK8 := Lib.hid (hb.alloc (.cells #[.int .u8 (48 + (k : Int))] 5))
        have HK9 := Lib.hid (hb9.alloc (.cells #[.int .u8 (48 + (k : Int))] 5))
        generalize (⟨#[UInt8.ofNat (48 + k)]⟩ : ByteArray) = y at *
        have hm8 := (HB8.out.cell (p := ⟨0, 0, none⟩) (World.block_lt_of_cell? w0 _ HM.out)).trans HM.out
        have HL8 := Lib.hid (HLI.out _ hm8)
        clear hm8 hb hb9 hB HB6 HK6 HLI
        have a1 : ((⟨#[97, 58, 32, 109, 101, 109, 98, 105, 110, 100, 61]⟩ : ByteArray) ++ T).size = 11 + T.size := by rw [ByteArray.size_append]; rfl
        have a2 : ((⟨#[97, 58, 32, 109, 101, 109, 98, 105, 110, 100, 61]⟩ : ByteArray) ++ T ++ (⟨#[10, 98, 58, 32, 112, 114, 101, 102, 101, 114, 114, 101, 100, 61]⟩ : ByteArray)).size = 25 + T.size := by rw [ByteArray.size_append, a1, show (⟨#[10, 98, 58, 32, 112, 114, 101, 102, 101, 114, 114, 101, 100, 61]⟩ : ByteArray).size = 14 from rfl]; omega
        have a3 : ((⟨#[97, 58, 32, 109, 101, 109, 98, 105, 110, 100, 61]⟩ : ByteArray) ++ T ++ (⟨#[10, 98, 58, 32, 112, 114, 101, 102, 101, 114, 114, 101, 100, 61]⟩ : ByteArray) ++ y).size = 26 + T.size := by rw [ByteArray.size_append, a2, hyz]; omega
        go_wp2_with fail
        refine HL8.out.mono ?_; rintro e w9 ⟨A2, c2, B2, d2, rfl, ho1, ho2, hB9⟩
        obtain ⟨gP, rfl, hcP⟩ := own_wide ho2 (by omega)
        have q0 := hcP 0 _ rfl; have q1 := hcP 1 _ rfl; have q2 := hcP 2 _ rfl
        have q3 := hcP 3 _ rfl; have q4 := hcP 4 _ rfl; have q5 := hcP 5 _ rfl
        have hb9 := HK9.out.below hB9
        have hb11 := HK8.out.below hB9
        have r0 := hb9.at_ (i := 0) rfl; have r1 := hb9.at_ (i := 1) rfl; have r2 := hb9.at_ (i := 2) rfl
        have s0 := hb11.at_ (i := 0) rfl; have s1 := hb11.at_ (i := 1) rfl; have s2 := hb11.at_ (i := 2) rfl
        have HBz := Lib.hid (bel_trans HB8.out hB9)
        clear hB9 HB8 HK8 HK9 HL8 hb9 hb11 ho1 ho2 hcP
        go_upto_region 16 with fail
        go_quiet (fail)
        go_wp2_with fail
        go_ret
        exact ⟨rfl, bel_drewN HBz.out _⟩
end Go.Proofs.YtdpcnbbaipdmjaaDoor
