/- The law TableTexts. -/
import Derived.Test.YtkjhodaglanpmaaTabClears
import Derived.Test.YtkjhodaglanpmaaOwn
namespace Go.Proofs.Ytkjhodaglanpmaa
open Go.RowKit
set_option linter.unusedVariables false
set_option linter.unusedSimpArgs false

theorem info_str : (Try.prog.info? 9).map (fun i => (i.zero, i.size, i.bytes)) = some (some (.string ByteArray.empty), 1, 16) := by kernel_rfl

/-- The texts of L are mapped, each on a number of its own, below i. -/
structure TxInv (i : Int) (L : List ByteArray) (mt : List (ByteArray × Int)) (mf : List (Int × ByteArray)) : Prop where
  dom : ∀ s, (mget mt s).isSome = true ↔ s ∈ L
  inv : ∀ s b, mget mt s = some b ↔ mget mf b = some s
  hi : ∀ b, i ≤ b → mget mf b = none
  len : mt.length = L.length
theorem TxInv.put {i : Int} {L : List ByteArray} {mt : List (ByteArray × Int)} {mf : List (Int × ByteArray)} (h : TxInv i L mt mf) {s : ByteArray} (hs : ¬ s ∈ L) :
    mget mt s = none ∧ mget mf i = none ∧ TxInv (i + 1) (L ++ [s]) (mput mt s i) (mput mf i s) := by
  have e1 : mget mt s = none := by
    cases hm : mget mt s with
    | none => rfl
    | some b => exact absurd ((h.dom s).1 (by rw [hm]; rfl)) hs
  have e2 := h.hi i (Int.le_refl _)
  refine ⟨e1, e2, fun x => ?_, fun x b => ?_, fun b hb => ?_, ?_⟩
  · rw [mget_put]
    by_cases e : s = x
    · subst e; simp
    · rw [if_neg e, h.dom]
      simp
      intro e'; exact absurd e'.symm e
  · rw [mget_put, mget_put]
    by_cases e : s = x
    · subst e
      rw [if_pos rfl]
      by_cases e3 : i = b
      · subst e3; simp
      · rw [if_neg e3]
        constructor
        · intro h'; exact absurd (Option.some.inj h') e3
        · intro h'
          have := (h.inv s b).2 h'
          rw [e1] at this; cases this
    · rw [if_neg e]
      by_cases e3 : i = b
      · subst e3
        rw [if_pos rfl]
        constructor
        · intro h'
          have := (h.inv x i).1 h'
          rw [e2] at this; cases this
        · intro h'; exact absurd (Option.some.inj h') e
      · rw [if_neg e3]; exact h.inv x b
  · rw [mget_put, if_neg (by omega)]
    exact h.hi b (by omega)
  · rw [length_mput, e1]
    have := h.len
    simp
    omega
theorem TxInv.again {i : Int} {L : List ByteArray} {mt : List (ByteArray × Int)} {mf : List (Int × ByteArray)} (h : TxInv i L mt mf) (hnd : (mt.map (·.1)).Nodup) {s : ByteArray} (hs : s ∈ L) :
    ∃ b, mget mt s = some b ∧ mget (mdel mt s) s = none ∧ mget (mdel mf b) b = none ∧ mget (mput (mdel mf b) b s) b = some s ∧ TxInv i L (mput (mdel mt s) s b) (mput (mdel mf b) b s) := by
  obtain ⟨b, hb⟩ := Option.isSome_iff_exists.1 ((h.dom s).2 hs)
  have hf := (h.inv s b).1 hb
  have q1 : ∀ x, mget (mput (mdel mt s) s b) x = mget mt x := by
    intro x
    rw [mget_put, mget_del]
    by_cases e : s = x
    · subst e; rw [if_pos rfl, hb]
    · rw [if_neg e, if_neg e]
  have q2 : ∀ x, mget (mput (mdel mf b) b s) x = mget mf x := by
    intro x
    rw [mget_put, mget_del]
    by_cases e : b = x
    · subst e; rw [if_pos rfl, hf]
    · rw [if_neg e, if_neg e]
  refine ⟨b, hb, by rw [mget_del, if_pos rfl], by rw [mget_del, if_pos rfl], by rw [q2, hf], fun x => by rw [q1]; exact h.dom x, fun x y => by rw [q1, q2]; exact h.inv x y, fun y hy => by rw [q2]; exact h.hi y hy, ?_⟩
  rw [length_mput, mget_del, if_pos rfl, length_mdel _ _ hnd, hb]
  have hl := h.len
  have hp : 0 < L.length := List.length_pos_of_mem hs
  simp
  omega
theorem TwoSI.nodup {w : World} {g bt bf : Nat} {mt : List (ByteArray × Int)} {mf : List (Int × ByteArray)} (h : TwoSI w g bt bf mt mf) : (mt.map (·.1)).Nodup := by
  have := h.to_.nd
  rw [List.map_map] at this
  exact this

/-- Is a text among the first q? -/
structure KnIff (kn : Bool) (s : ByteArray) (L : List ByteArray) (q : Nat) : Prop where
  iff_ : kn = true ↔ s ∈ L.take q
theorem take_one (L : List ByteArray) {q : Nat} (h : q < L.length) : L.take (q + 1) = L.take q ++ [L.getD q ByteArray.empty] := by
  rw [List.take_add_one, List.getD_eq_getElem?_getD]
  simp [h]
theorem KnIff.yes {s : ByteArray} {L : List ByteArray} {q : Nat} (h : KnIff true s L q) (hq : q < L.length) : KnIff true s L (q + 1) := ⟨by
  have := h.iff_
  rw [take_one L hq, List.mem_append]
  simp at this ⊢
  exact Or.inl this⟩
theorem KnIff.hit {s : ByteArray} {L : List ByteArray} {q : Nat} (hq : q < L.length) (hx : L.getD q ByteArray.empty = s) : KnIff true s L (q + 1) := ⟨by
  rw [take_one L hq, List.mem_append, hx]
  simp⟩
theorem KnIff.miss {s : ByteArray} {L : List ByteArray} {q : Nat} (h : KnIff false s L q) (hq : q < L.length) (hx : ¬ L.getD q ByteArray.empty = s) : KnIff false s L (q + 1) := ⟨by
  have := h.iff_
  rw [take_one L hq, List.mem_append]
  simp at this ⊢
  exact ⟨this, fun e => hx (by rw [List.getD_eq_getElem?_getD]; exact e.symm)⟩⟩

set_option maxRecDepth 100000 in
set_option maxHeartbeats 4000000 in
theorem texts_walk (w0 : World) (a : Option Addr) (len cap : Nat) (ss : List ByteArray) (hs : InStrs w0 a len ss) (a2 : Option Addr) (len2 cap2 : Nat) (zs : List Int) (hz : InInts .i64 w0 a2 len2 zs) (hy : len2 * 8 ≤ 140737488351232) : Calls Try.prog 5 #[.slice a len cap, .slice a2 len2 cap2] w0 fun e w' => e = .returned (.bool true) ∧ Below w0.heap.size w0 w' := by
  have hmx := hs.mx
  have hmx2 := hz.mx
  have HZ := Lib.hid hz; have HSS := Lib.hid hs; clear hz hs
  go_enter Try.func5, Try.ntmps5
  go_wp2_with fail
  refine (tSI_New w0).mono ?_; rintro e w1 ⟨g, bt, bf, rfl, hg, hbt, hbf, hT, hB⟩
  go_wp2_with fail
  refine (tables_any w1).mono ?_; rintro e w2 ⟨rfl, hB2⟩
  have hT := hT.below hB2
  have hB := bel_trans hB hB2
  clear hB2
  go_wp2_with fail
  go_loopw [6, 7, 8] (fun vn va vi wr => ∃ (i : Nat) (L : List ByteArray) (A : Option Addr) (c : Nat) (mt : List (ByteArray × Int)) (mf : List (Int × ByteArray)), i ≤ len ∧ i ≤ 20 ∧ L.length ≤ i ∧ vi = .int .i64 i ∧ vn = .int .i64 L.length ∧ va = .slice A L.length c ∧ wr.ownsRow w0.heap.size 9 1 (.slice A L.length c) L.length (L.map Value.string) ∧ TwoSI wr g bt bf mt mf ∧ TxInv i L mt mf ∧ Below w0.heap.size w0 wr) (fun _ _ i _ => 20 - (intOf i).toNat)
  case atStart => exact ⟨0, [], none, 0, [], [], by omega, by omega, by simp, rfl, rfl, rfl, World.ownsRow_nil _ _ _ _, hT, ⟨fun s => by simp [mget_nil], fun s b => by simp [mget_nil], fun b _ => rfl, rfl⟩, hB⟩
  case round =>
    clear hT hB
    obtain ⟨i, L, A, c, mt, mf, hi, hi20, hL, rfl, rfl, rfl, hown, hT, hI, hB⟩ := hrel
    have HI := Lib.hid hI; clear hI
    by_cases hlt : i < len ∧ i < 20
    · obtain ⟨hlt, hlt2⟩ := hlt
      obtain ⟨bx, off, ha, hbx, hcell⟩ := HSS.out.at_ (by omega)
      have kv := (hB.cell (p := ⟨bx, off + i, none⟩) hbx).trans (hcell i hlt)
      have hia := fun w => idx_str (cap := cap) ha hlt w
      clear hcell ha
      generalize hsv : ss.getD i ByteArray.empty = s at *
      have HSV := Lib.hid hsv; clear hsv
      by_cases hmem : s ∈ L
      · have hx := (HI.out.dom s).2 hmem
        have HX0 := Lib.hid hx; clear hx
        go_wp2_with fail
        refine (tSI_Map_no g bt bf mt mf s i wr hT (Or.inl HX0.out)).mono ?_; rintro e w3 ⟨rfl, rfl⟩
        have hown3 := hown; have hT3 := hT; have hB3 := hB
        clear hown hT hB
        have hat : ∀ q, q < L.length → ∃ ga, A = some ⟨ga, 0, none⟩ ∧ wr.cell? ⟨ga, q, none⟩ = some (.string (L.getD q ByteArray.empty)) := fun q hq => by
          obtain ⟨ga, h1, h2, _⟩ := own_at hown3 (map_at hq ByteArray.empty)
          exact ⟨ga, h1, h2⟩
        have HAT := Lib.hid hat; clear hat
        go_wp2_with fail
        go_loopw [10, 11] (fun vk vq wx => ∃ (q : Nat) (kn : Bool) (n : Nat), q ≤ L.length ∧ vq = .int .i64 q ∧ vk = .bool kn ∧ KnIff kn s L q ∧ wx = wr.drewN n) (fun _ q _ => L.length - (intOf q).toNat)
        case atStart => exact ⟨0, false, 0, by omega, rfl, rfl, ⟨by simp⟩, rfl⟩
        case round =>
          obtain ⟨q, kn, nd, hq, rfl, rfl, hkn, rfl⟩ := hrel
          have HKN := Lib.hid hkn; clear hkn
          by_cases hql : q < L.length
          · cases kn with
            | true =>
              go_wp2_with fail
              refine wp_region_quiet_lit (by kernel_rfl) (by kernel_rfl) ?_
              repeat (first | go_big_quiet_step (fail) | quiet_step (fail))
              refine wpQuiet_nil ?_; intro _ hw'; obtain ⟨nq, hw''⟩ := hw'; subst hw''
              go_wp2
              go_roundw
              case rel => exact ⟨q + 1, true, _, by omega, by go_num, rfl, HKN.out.yes hql, rfl⟩
              case measure => simp [intOf]; omega
            | false =>
              obtain ⟨ga, hA, hcq⟩ := HAT.out q hql
              have hib := fun w => idx_str (cap := c) hA hql w
              simp only [Nat.zero_add] at hib
              clear hA
              by_cases hxs : L.getD q ByteArray.empty = s
              · have hbb : ((L.getD q ByteArray.empty).toList == s.toList) = true := by rw [str_beq, decide_eq_true hxs]
                have hk2 := KnIff.hit hql hxs
                have HK2 := Lib.hid hk2; clear hxs hk2
                generalize L.getD q ByteArray.empty = x at *
                go_wp2_with fail
                refine wp_region_quiet_lit (by kernel_rfl) (by kernel_rfl) ?_
                repeat (first | go_big_quiet_step (fail) | quiet_step (fail))
                refine wpQuiet_nil ?_; intro _ hw'; obtain ⟨nq, hw''⟩ := hw'; subst hw''
                go_wp2
                go_roundw
                case rel => exact ⟨q + 1, true, _, by omega, by go_num, rfl, HK2.out, rfl⟩
                case measure => simp [intOf]; omega
              · have hbb : ((L.getD q ByteArray.empty).toList == s.toList) = false := by rw [str_beq, decide_eq_false hxs]
                have hk2 := HKN.out.miss hql hxs
                have HK2 := Lib.hid hk2; clear hxs hk2
                generalize L.getD q ByteArray.empty = x at *
                go_wp2_with fail
                refine wp_region_quiet_lit (by kernel_rfl) (by kernel_rfl) ?_
                repeat (first | go_big_quiet_step (fail) | quiet_step (fail))
                refine wpQuiet_nil ?_; intro _ hw'; obtain ⟨nq, hw''⟩ := hw'; subst hw''
                go_wp2
                go_roundw
                case rel => exact ⟨q + 1, false, _, by omega, by go_num, rfl, HK2.out, rfl⟩
                case measure => simp [intOf]; omega
          · have hqe : q = L.length := by omega
            subst hqe
            have hkm := HKN.out.iff_
            rw [List.take_length] at hkm
            obtain rfl : kn = true := hkm.2 hmem
            have HM := Lib.hid hmem; clear hmem HKN hkm
            go_wp2
            go_roundw
            case rel => exact ⟨i + 1, L, A, c, mt, mf, by omega, by omega, by omega, by go_num, rfl, rfl, own_ch hown3 ((Ch.refl [] wr).drewN _) (fun _ _ => by simp), hT3.dn _, ⟨HI.out.dom, HI.out.inv, fun b hb => HI.out.hi b (by omega), HI.out.len⟩, bel_drewN hB3 _⟩
            case measure => simp [intOf]; omega
      · obtain ⟨e1, e2, hI2⟩ := HI.out.put hmem
        have HI2 := Lib.hid hI2; have E1 := Lib.hid e1; have E2 := Lib.hid e2; clear hI2 e1 e2
        go_wp2_with fail
        refine (tSI_Map_yes g bt bf mt mf s i wr hT E1.out E2.out).mono ?_; rintro e w3 ⟨rfl, hT3, hc3⟩
        have hB3 := bel_ch hB hc3 (by simp; omega)
        have hown3 := own_ch hown hc3 (fun gg hgg => by simp; exact ⟨own_ne_map hown hT.to_ gg hgg, own_ne_map hown hT.fr gg hgg⟩)
        have kv := (hc3.block bx (by have := hB.size; omega) (by simp; omega) : w3.heap[bx]? = wr.heap[bx]?) |> fun h => (World.cell?_of_block (w := wr) (w' := w3) (a := ⟨bx, off + i, none⟩) h).trans kv
        clear hown hT hB hc3
        have hat : ∀ q, q < L.length → ∃ ga, A = some ⟨ga, 0, none⟩ ∧ w3.cell? ⟨ga, q, none⟩ = some (.string (L.getD q ByteArray.empty)) := fun q hq => by
          obtain ⟨ga, h1, h2, _⟩ := own_at hown3 (map_at hq ByteArray.empty)
          exact ⟨ga, h1, h2⟩
        have HAT := Lib.hid hat; clear hat
        go_wp2_with fail
        go_loopw [10, 11] (fun vk vq wx => ∃ (q : Nat) (kn : Bool) (n : Nat), q ≤ L.length ∧ vq = .int .i64 q ∧ vk = .bool kn ∧ KnIff kn s L q ∧ wx = w3.drewN n) (fun _ q _ => L.length - (intOf q).toNat)
        case atStart => exact ⟨0, false, 0, by omega, rfl, rfl, ⟨by simp⟩, rfl⟩
        case round =>
          obtain ⟨q, kn, nd, hq, rfl, rfl, hkn, rfl⟩ := hrel
          have HKN := Lib.hid hkn; clear hkn
          by_cases hql : q < L.length
          · cases kn with
            | true =>
              go_wp2_with fail
              refine wp_region_quiet_lit (by kernel_rfl) (by kernel_rfl) ?_
              repeat (first | go_big_quiet_step (fail) | quiet_step (fail))
              refine wpQuiet_nil ?_; intro _ hw'; obtain ⟨nq, hw''⟩ := hw'; subst hw''
              go_wp2
              go_roundw
              case rel => exact ⟨q + 1, true, _, by omega, by go_num, rfl, HKN.out.yes hql, rfl⟩
              case measure => simp [intOf]; omega
            | false =>
              obtain ⟨ga, hA, hcq⟩ := HAT.out q hql
              have hib := fun w => idx_str (cap := c) hA hql w
              simp only [Nat.zero_add] at hib
              clear hA
              by_cases hxs : L.getD q ByteArray.empty = s
              · have hbb : ((L.getD q ByteArray.empty).toList == s.toList) = true := by rw [str_beq, decide_eq_true hxs]
                have hk2 := KnIff.hit hql hxs
                have HK2 := Lib.hid hk2; clear hxs hk2
                generalize L.getD q ByteArray.empty = x at *
                go_wp2_with fail
                refine wp_region_quiet_lit (by kernel_rfl) (by kernel_rfl) ?_
                repeat (first | go_big_quiet_step (fail) | quiet_step (fail))
                refine wpQuiet_nil ?_; intro _ hw'; obtain ⟨nq, hw''⟩ := hw'; subst hw''
                go_wp2
                go_roundw
                case rel => exact ⟨q + 1, true, _, by omega, by go_num, rfl, HK2.out, rfl⟩
                case measure => simp [intOf]; omega
              · have hbb : ((L.getD q ByteArray.empty).toList == s.toList) = false := by rw [str_beq, decide_eq_false hxs]
                have hk2 := HKN.out.miss hql hxs
                have HK2 := Lib.hid hk2; clear hxs hk2
                generalize L.getD q ByteArray.empty = x at *
                go_wp2_with fail
                refine wp_region_quiet_lit (by kernel_rfl) (by kernel_rfl) ?_
                repeat (first | go_big_quiet_step (fail) | quiet_step (fail))
                refine wpQuiet_nil ?_; intro _ hw'; obtain ⟨nq, hw''⟩ := hw'; subst hw''
                go_wp2
                go_roundw
                case rel => exact ⟨q + 1, false, _, by omega, by go_num, rfl, HK2.out, rfl⟩
                case measure => simp [intOf]; omega
          · have hqe : q = L.length := by omega
            subst hqe
            have hkm := HKN.out.iff_
            rw [List.take_length] at hkm
            obtain rfl : kn = false := by
              cases kn
              · rfl
              · exact absurd (hkm.1 rfl) hmem
            have HM := Lib.hid hmem; clear hmem HKN hkm
            have hownd : (w3.drewN nd).ownsRow w0.heap.size 9 1 (.slice A L.length c) L.length (L.map Value.string) := own_ch hown3 ((Ch.refl [] w3).drewN _) (fun _ _ => by simp)
            have hsz : w0.heap.size ≤ w3.heap.size := hB3.size
            clear hql hq
            go_wp2_with (at_builtin; refine wpList_push _ rfl (.tmp 70) (.tmp 75) 22 rfl w0.heap.size 9 (.string ByteArray.empty) 16 Try.underlying22 info_str rfl A L.length c (L.map Value.string) rfl (hownd.alloc _) _ 1 (.string s) rfl ?_ rfl (by omega) (by omega) ?_ ?_)
            · exact World.cell?_alloc_new _ _ _ 0
            · simp; omega
            intro ga cp w4 hown4 hgr4 hor
            have hB4 := (bel_alloc (bel_drewN hB3 nd) (.cells #[.string s] 9)).grown hgr4 (by simp; omega) (fun k hk => (own_base hownd k hk).1)
            have hT4 := (hT3.dn nd).below (bel_alloc (Below.refl _ _) (.cells #[.string s] 9))
            have hT4 := hT4.ch (ch_grown (S := (Value.slice A L.length c).ownBlock.toList) hgr4 (fun gg h => by simp [h])) (fun hm => by simp at hm; exact own_ne_blk hownd (hT3.dn nd).st (by decide) _ hm rfl) (fun hm => by simp at hm; exact own_ne_map hownd (hT3.dn nd).to_ _ hm rfl) (fun hm => by simp at hm; exact own_ne_map hownd (hT3.dn nd).fr _ hm rfl)
            have hown4 : w4.ownsRow w0.heap.size 9 1 (.slice (some ⟨ga, 0, none⟩) (L.length + 1) cp) (L.length + 1) ((L ++ [s]).map Value.string) := by rw [List.map_append]; exact hown4
            have hlen : (L ++ [s]).length = L.length + 1 := by simp
            clear hownd hgr4 hor hown3 hT3 hB3 kv hia HAT
            go_wp2
            go_roundw
            case rel => exact ⟨i + 1, L ++ [s], some ⟨ga, 0, none⟩, cp, _, _, by omega, by omega, by omega, by go_num, by rw [hlen]; go_num, by rw [hlen], by rw [hlen]; exact hown4, hT4, HI2.out, hB4⟩
            case measure => simp [intOf]; omega
    · rcases (by omega : len ≤ i ∨ (i < len ∧ 20 ≤ i)) with hh | ⟨hh, hh2⟩
      all_goals
        go_wp2_with fail
        go_loopw [12] (fun vi wx => ∃ (q : Nat) (mt : List (ByteArray × Int)) (mf : List (Int × ByteArray)), q ≤ len2 ∧ q ≤ 10 ∧ vi = .int .i64 q ∧ wx.ownsRow w0.heap.size 9 1 (.slice A L.length c) L.length (L.map Value.string) ∧ TwoSI wx g bt bf mt mf ∧ TxInv i L mt mf ∧ Below w0.heap.size w0 wx) (fun q _ => 10 - (intOf q).toNat)
        case atStart => exact ⟨0, mt, mf, by omega, by omega, rfl, hown, hT, HI.out, hB⟩
        case round =>
          clear hown hT hB HI hh
          obtain ⟨q, mt, mf, hq, hq10, rfl, hown, hT, hI, hB⟩ := hrel
          have HI := Lib.hid hI; clear hI
          by_cases hlt : q < len2 ∧ q < 10 ∧ 0 < L.length
          · obtain ⟨hlt, hlt2, hpos⟩ := hlt
            obtain ⟨bx, off, ha, hbx, hcell⟩ := HZ.out.at_ (by omega)
            have kv := (hB.cell (p := ⟨bx, off + q, none⟩) hbx).trans (hcell q hlt)
            have hia := fun w => idx_int (cap := cap2) ha hlt w
            clear hcell ha
            generalize zs.getD q 0 = x at *
            have hpb := umod_bd x (L.length : Int) (by omega) (by omega)
            generalize hp : wrap64 ((IntKind.u64.wrap x).tmod (L.length : Int)) = p at hpb
            obtain ⟨k, rfl⟩ := Int.eq_ofNat_of_zero_le hpb.1
            have hkl : k < L.length := by omega
            obtain ⟨ga, hA, hcq, _⟩ := own_at hown (map_at hkl ByteArray.empty)
            have hib := fun w => idx_str (cap := c) hA hkl w
            simp only [Nat.zero_add] at hib
            have hga : ∀ g2, A = some ⟨g2, 0, none⟩ → g2 = ga := fun g2 e => by rw [hA] at e; injection e with e; injection e with e; exact e.symm
            have HGA := Lib.hid hga
            clear hA hga
            have hmem : L.getD k ByteArray.empty ∈ L := by rw [List.getD_eq_getElem?_getD, List.getElem?_eq_getElem hkl]; exact List.getElem_mem hkl
            generalize hsv : L.getD k ByteArray.empty = s at *
            have HSV := Lib.hid hsv; clear hsv
            obtain ⟨b, e1, e2, e3, e4, hI2⟩ := HI.out.again hT.nodup hmem
            have e5 : (((mput (mdel mt s) s b).length : Nat) : Int) = (L.length : Int) := by rw [hI2.len]
            have HI2 := Lib.hid hI2; have E1 := Lib.hid e1; have E2 := Lib.hid e2; have E3 := Lib.hid e3; have E4 := Lib.hid e4; have E5 := Lib.hid e5; have HM := Lib.hid hmem; clear hI2 e1 e2 e3 e4 e5 hmem
            go_wp2_with fail
            refine (tSI_Unmap_yes g bt bf mt mf s b wr hT E1.out).mono ?_; rintro e w3 ⟨rfl, hT3, hc3⟩
            have hB3 := bel_ch hB hc3 (by simp; omega)
            have hown3 := own_ch hown hc3 (fun gg hgg => by simp; exact ⟨own_ne_map hown hT.to_ gg hgg, own_ne_map hown hT.fr gg hgg⟩)
            obtain ⟨ga3, hA3, hcq3, _⟩ := own_at hown3 (map_at hkl ByteArray.empty)
            obtain ⟨_, hA0, _⟩ := own_at hown (map_at hkl ByteArray.empty)
            rw [HSV.out] at hcq3
            have hcq3 : w3.cell? ⟨ga, k, none⟩ = some (.string s) := by
              have e := HGA.out ga3 hA3
              rw [← e]; exact hcq3
            clear hA3 hA0
            go_wp2_with fail
            refine (tSI_Map_yes g bt bf _ _ s b w3 hT3 E2.out E3.out).mono ?_; rintro e w4 ⟨rfl, hT4, hc4⟩
            have hB4 := bel_ch hB3 hc4 (by simp; omega)
            have hown4 := own_ch hown3 hc4 (fun gg hgg => by simp; exact ⟨own_ne_map hown3 hT3.to_ gg hgg, own_ne_map hown3 hT3.fr gg hgg⟩)
            have hcq4 : w4.cell? ⟨ga, k, none⟩ = some (.string s) := by
              obtain ⟨ga4, hA4, hc, _⟩ := own_at hown4 (map_at hkl ByteArray.empty)
              have e := HGA.out ga4 hA4
              rw [← e]; rw [HSV.out] at hc; exact hc
            go_wp2_with fail
            refine (tSI_Len g bt bf _ _ w4 hT4).mono ?_; rintro e w5 ⟨rfl, rfl⟩
            rw [E5.out]
            go_wp2_with fail
            refine (tSI_From g bt bf _ _ b w4 hT4).mono ?_; rintro e w5 ⟨rfl, rfl⟩
            rw [E4.out]
            clear hcq hcq3 hown hT hB hc3 hown3 hT3 hB3 hc4
            go_wp2
            go_roundw
            case rel => exact ⟨q + 1, _, _, by omega, by omega, by go_num, hown4, hT4, HI2.out, hB4⟩
            case measure => simp [intOf]; omega
          · have e5 : ((mt.length : Nat) : Int) = (L.length : Int) := by rw [HI.out.len]
            have E5 := Lib.hid e5; clear e5
            rcases (by omega : len2 ≤ q ∨ (q < len2 ∧ 10 ≤ q) ∨ (q < len2 ∧ q < 10 ∧ L.length = 0)) with h3 | ⟨h3, h4⟩ | ⟨h3, h4, h5⟩
            · go_wp2_with fail
              refine (tSI_Len g bt bf _ _ wr hT).mono ?_; rintro e w5 ⟨rfl, rfl⟩
              rw [E5.out]
              go_wp2
              go_ret
              exact ⟨rfl, hB⟩
            · go_wp2_with fail
              refine (tSI_Len g bt bf _ _ wr hT).mono ?_; rintro e w5 ⟨rfl, rfl⟩
              rw [E5.out]
              go_wp2
              go_ret
              exact ⟨rfl, hB⟩
            · have h6 : ¬ 0 < L.length := by omega
              clear h5
              go_wp2_with fail
              refine (tSI_Len g bt bf _ _ wr hT).mono ?_; rintro e w5 ⟨rfl, rfl⟩
              rw [E5.out]
              go_wp2
              go_ret
              exact ⟨rfl, hB⟩
end Go.Proofs.Ytkjhodaglanpmaa
