/- The law CacheApart. -/
import Derived.Test.YtinijpjbbbbhjaaCacheHalf
import Derived.Test.YtinijpjbbbbhjaaInRecs
namespace Go.Proofs.Ytinijpjbbbbhjaa
open Go.RowKit
set_option linter.unusedVariables false
set_option linter.unusedSimpArgs false
attribute [local go_sem] World.cell?_alloc_lt

/-- Classes that came in. -/
structure InCls (w : World) (a : Option Addr) (len : Nat) (V : Nat → Int) : Prop where
  mx : len ≤ 9223372036854775807
  at_ : 0 < len → ∃ b off, a = some ⟨b, off, none⟩ ∧ b < w.heap.size ∧ ∀ i, i < len → w.cell? ⟨b, off + i * 3 + 1, none⟩ = some (.int .i64 (V i))
def intV : Value → Int
  | .int _ x => x
  | _ => 0
theorem open_cls {H : Type} {enc : TypeId × Value → H} {W : World} {base : Nat} {held : Bool} {r : Reach} {b0 : Nat} {v : Value} {d : DataW H} {p : List MemPlace} (hv : Value.okWide Try.prog W r b0 57 v) (h : DataW.Trod enc Try.prog W base (fun _ => true) held 57 v d p) :
    ∃ a len cap V, v = .slice a len cap ∧ InCls W a len V := by
  obtain ⟨a, len, cap, rfl⟩ := WideShapes.okWide_slice Try.underlying57 hv
  obtain ⟨V, hm, _, hc⟩ := open_recs Try.underlying57 Try.underlying60 (by kernel_rfl) (by kernel_rfl) (by decide) h
  refine ⟨a, len, cap, fun i => intV (V i 1), rfl, hm, fun hp => ?_⟩
  obtain ⟨b, off, ha, hb, hcell⟩ := hc hp
  refine ⟨b, off, ha, hb, fun i hi => ?_⟩
  obtain ⟨h1, n1, y1, t1⟩ := hcell i hi 1 _ rfl
  obtain ⟨x1, e1, _⟩ := DataW.trod_int Try.underlying3 t1
  simp only [List.cons.injEq, and_true] at e1
  rw [e1] at h1
  show _ = some (Value.int .i64 (intV (V i 1)))
  rw [e1]
  exact h1
theorem idx_cls {A : Option Addr} {b off len cap i : Nat} (ha : A = some ⟨b, off, none⟩) (hi : i < len) (w : World) : (Instr.indexAt 57 (.slice A len cap) (.int .i64 (i : Int))).run Try.prog w = .ok (.pointer (some ⟨b, off + i * 3, none⟩)) w := by
  subst ha
  simp [go_sem, hi]
theorem ca_flush_no (base t g k : Nat) (vs : List Value) (X : Nat → List Int) (hk : k < 4) (w : World) (hG : Four w base t g vs X) (h0 : X k = []) : Calls Try.prog 19 #[.pointer (some ⟨g, 0, none⟩), .int .i64 k, .int .i64 8] w fun e w' => ∃ A c vs', e = .returned (.slice A 0 c) ∧ Four w' base t g vs' X ∧ Ch (cset g vs) w w' ∧ (∀ y ∈ cset g vs', y ∈ cset g vs) := by
  obtain ⟨A, c, hv, hown, hc, hf⟩ := hG.at_ hk
  have hgl := hG.st.lt
  rw [h0] at hv hown hc
  have hS0 : ∀ y ∈ cset g (vs.set k (.slice A 0 c)), y ∈ cset g vs := by
    intro y hy
    rcases cset_mem.1 hy with rfl | ⟨u, hu, hb⟩
    · simp [cset]
    · rcases List.mem_or_eq_of_mem_set hu with h1 | h1
      · exact cset_mem.2 (Or.inr ⟨u, h1, hb⟩)
      · subst h1
        exact cset_mem.2 (Or.inr ⟨_, List.mem_of_getElem? hv, hb⟩)
  have hX0 : setX X k [] = X := by
    funext i
    unfold setX
    split
    · rename_i e; rw [e, h0]
    · rfl
  have hdl := fun w => Try.slices_Delete_int_empty A c w
  rcases A with _ | ad
  · have hc0 : c = 0 := by
      rcases hown.2 with ⟨h1, _⟩ | ⟨g', cap', cur, h1, _⟩
      · injection h1 with _ _ h3
      · cases h1
    subst hc0
    have hset := hG.set_ (w1 := w) (v' := .slice none 0 0) (xs' := []) hv (Ch.refl _ w) hown (fun b hb => Or.inl hb) (by simp)
    rw [hX0] at hset
    obtain ⟨hF, hC, hS⟩ := hset
    have HF := Lib.hid hF; have HC := Lib.hid hC; have HS0 := Lib.hid hS0
    have HDL := Lib.hid hdl
    clear hF hC hS hG hv hown h0 hX0 hdl hS0
    have hcu : ∀ w, (Instr.sliceAt 51 (.slice none 0 0) none (some (.int .i64 0)) none).run Try.prog w = .ok (.slice none 0 0) w := fun _ => by kernel_rfl
    go_enter Try.func19, Try.ntmps19
    go_wp2_with fail
    refine (ca_list g k hk w).mono ?_; rintro e w1 ⟨rfl, rfl⟩
    go_wp2_with fail
    refine (cloneI_nil w).mono ?_; rintro e w1 ⟨rfl, rfl⟩
    go_wp2_with fail
    refine (HDL.out w).mono ?_; rintro e w1 ⟨rfl, hw1⟩
    subst hw1
    go_wp2_with fail
    go_ret
    exact ⟨_, _, _, rfl, HF.out, HC.out, HS0.out⟩
  · have hb : ∃ b, ad = ⟨b, 0, none⟩ ∧ b < w.heap.size := by
      rcases hown.2 with ⟨h1, _⟩ | ⟨g', cap', cur, h1, _, hh, _⟩
      · cases h1
      · injection h1 with h1 _ _
        injection h1 with h1
        exact ⟨g', h1, (Array.getElem?_eq_some_iff.1 hh).1⟩
    obtain ⟨b, rfl, hbl⟩ := hb
    have hcl := cloneI_at b 0 0 c [] rfl (by simp) (by omega) w hbl (by simp)
    have HCL := Lib.hid hcl
    have HG := Lib.hid hG; have HV := Lib.hid hv; have HO := Lib.hid hown; have HX0 := Lib.hid hX0
    have HDL := Lib.hid hdl; have HS0 := Lib.hid hS0
    clear hcl hG hv hown hX0 h0 hdl hS0
    have hcu := fun w => cut_hi_int b 0 c 0 (0 : Int) rfl (by omega) w
    go_enter Try.func19, Try.ntmps19
    go_wp2_with fail
    refine (ca_list g k hk w).mono ?_; rintro e w1 ⟨rfl, rfl⟩
    go_wp2_with fail
    refine HCL.out.mono ?_; rintro e w2 ⟨h, c', rfl, hown2, hB2⟩
    have hset := HG.out.set_ (w1 := w2) (v' := .slice (some ⟨b, 0, none⟩) 0 c) (xs' := []) HV.out (Ch.below hB2 _) (own_chV HO.out (Ch.below hB2 []) (by simp)) (fun b hb => Or.inl hb) (by simp)
    rw [HX0.out] at hset
    obtain ⟨hF, hC, hS⟩ := hset
    have hg3 : w2.cell? ⟨g, k, none⟩ = some (.slice (some ⟨b, 0, none⟩) 0 c) ∧ w2.frozen? ⟨g, k, none⟩ = false := by
      have hb := HG.out.st.below hB2
      exact ⟨hb.at_ HV.out, hb.frozen _⟩
    obtain ⟨hc3, hf3⟩ := hg3
    have HF := Lib.hid hF; have HC := Lib.hid hC
    clear hF hC hS hown2 hB2 hc hf
    go_wp2_with fail
    refine (HDL.out w2).mono ?_; rintro e w3 ⟨rfl, hw1⟩
    subst hw1
    go_wp2_with fail
    go_ret
    exact ⟨_, _, _, rfl, HF.out, HC.out, HS0.out⟩
theorem ca_all_no (base t g : Nat) (vs : List Value) (X : Nat → List Int) (w : World) (hG : Four w base t g vs X) (h0 : ∀ k, k < 4 → X k = []) : Calls Try.prog 22 #[.pointer (some ⟨g, 0, none⟩)] w fun e w' => ∃ A c, e = .returned (.slice A 0 c) ∧ Ch (cset g vs) w w' := by
  have H0 := Lib.hid h0; clear h0
  go_enter Try.func22, Try.ntmps22
  obtain ⟨i0, hi0', hz0, hz1, hz2⟩ := info_parts info_fint
  have HI := Lib.hid hi0'; have HZ0 := Lib.hid hz0; have HZ1 := Lib.hid hz1; have HZ2 := Lib.hid hz2
  clear hi0' hz0 hz1 hz2
  go_wp2_with fail
  go_loopw [3, 5] (fun v i wr => ∃ (j : Nat) (A : Option Addr) (c : Nat) (us : List Value), j ≤ 4 ∧ i = .int .i64 j ∧ v = .slice A 0 c ∧ wr.ownsRow w.heap.size 3 1 (.slice A 0 c) 0 [] ∧ Four wr base t g us X ∧ Ch (cset g vs) w wr ∧ ∀ y ∈ cset g us, y ∈ cset g vs) (fun _ i _ => 4 - (intOf i).toNat)
  case atStart => exact ⟨0, none, 0, vs, by omega, rfl, rfl, ⟨rfl, Or.inl ⟨rfl, rfl⟩⟩, hG, Ch.refl _ _, fun y h => h⟩
  case round =>
    have hlt0 := hG.lt
    clear hG
    obtain ⟨j, A, c, us, hj, rfl, rfl, hown, hG, hc, hs⟩ := hrel
    by_cases hj4 : j < 4
    · go_wp2_with fail
      refine (ca_flush_no base t g j us X hj4 _ hG (H0.out j hj4)).mono ?_; rintro e w2 ⟨A2, c2, us2, rfl, hG2, hc2, hs2⟩
      have hown2 := own_chV hown hc2 (fun b hb hm => by
        have h1 := (hown.lt b hb).1
        have h2 := (hlt0 b (hs b hm)).2
        omega)
      have hc3 : Ch (cset g vs) w w2 := hc.trans (hc2.mono hs)
      have hs3 : ∀ y ∈ cset g us2, y ∈ cset g vs := fun y h => hs y (hs2 y h)
      have hw2 := hc3.size
      have HG := Lib.hid hG2; have HS := Lib.hid hs3; have HC := Lib.hid hc3; have HO := Lib.hid hown2
      clear hG hc hs hown hG2 hc2 hs2 hown2 hc3 hs3
      go_wp2_with (at_builtin; refine wpList_append_any _ rfl (.tmp 8) (.tmp 11) 51 rfl w.heap.size 3 i0 _ 1 8 Try.underlying51 HI.out HZ0.out HZ1.out HZ2.out rfl (by omega) (.slice A 0 c) 0 [] rfl HO.out 0 A2 0 c2 [] rfl ⟨rfl, fun h => absurd h (by omega)⟩ (by simp) (by unfold maxLen; omega) (by omega) hw2 ?_)
      intro v2 w3 hown3 hgr3 hor3
      have hn : ∀ b, b ∈ (Value.slice A 0 c).ownBlock.toList → w.heap.size ≤ b := fun b hb => (HO.out.lt b (by rw [Option.mem_toList] at hb; exact hb)).1
      have hcg : Ch (Value.slice A 0 c).ownBlock.toList w2 w3 := ch_grown hgr3 (fun b hb => by rw [hb]; simp)
      have hG3 := HG.out.ch hcg (fun x hx hm => by
        have h1 := hn x hm
        have h2 := (hlt0 x (HS.out x hx)).2
        omega)
      have hc4 : Ch (cset g vs) w w3 := HC.out.then_ hcg (fun b hb => Or.inr (hn b hb))
      obtain ⟨A3, c3, rfl⟩ := own_slice hown3
      replace hown3 : w3.ownsRow w.heap.size 3 1 (.slice A3 0 c3) 0 [] := hown3
      have HG3 := Lib.hid hG3; have HC4 := Lib.hid hc4; have HO3 := Lib.hid hown3
      clear hG3 hc4 hown3 hgr3 hor3 hcg hn
      go_wp2_with fail
      go_roundw
      case rel => exact ⟨j + 1, A3, c3, us2, by omega, by go_num, rfl, HO3.out, HG3.out, HC4.out, HS.out⟩
      case measure => simp [intOf]; omega
    · obtain rfl : j = 4 := by omega
      go_wp2_with fail
      go_ret
      exact ⟨A, c, rfl, hc⟩
set_option maxRecDepth 100000 in
set_option maxHeartbeats 1000000 in
theorem cacheApart_walk (w0 : World) (a : Option Addr) (len cap : Nat) (V : Nat → Int) (hs : InCls w0 a len V) :
    Calls Try.prog 7 #[.slice a len cap] w0 fun e w' => e = .returned (.bool true) ∧ Below w0.heap.size w0 w' := by
  have hmx := hs.mx
  go_enter Try.func7, Try.ntmps7
  go_wp2_with fail
  refine (ca_new w0).mono ?_; rintro e w1 ⟨rfl, hG, hB⟩
  have hgl := hG.lt
  have hbl := hG.st.lt
  go_wp2_with fail
  have hba : Below w1.heap.size w1 (w1.alloc (.cells #[.slice none 0 0, .slice none 0 0, .slice none 0 0, .slice none 0 0] 58)) := bel_alloc (Below.refl _ _) _
  have hF : Four (w1.alloc (.cells #[.slice none 0 0, .slice none 0 0, .slice none 0 0, .slice none 0 0] 58)) w0.heap.size 58 w1.heap.size (List.replicate 4 (.slice none 0 0)) (fun _ => []) := by
    refine ⟨Blk.new w1 _ _, rfl, ?_, ?_, hB.size, by decide, fun k => by simp⟩
    · intro k v hv
      have : v = .slice none 0 0 := List.eq_of_mem_replicate (List.mem_of_getElem? hv)
      subst this
      exact ⟨rfl, Or.inl ⟨rfl, rfl⟩⟩
    · intro i j v v' b hij hv hv' hb
      have : v = .slice none 0 0 := List.eq_of_mem_replicate (List.mem_of_getElem? hv)
      subst this
      simp [Value.ownBlock] at hb
  have hFc := hG.below hba
  have hBa := bel_trans hB hba
  have hdj : ∀ y ∈ cset w0.heap.size (List.replicate 4 (Value.slice none 0 0)), y ∉ cset w1.heap.size (List.replicate 4 (Value.slice none 0 0)) := by
    intro y hy hm
    have e1 : cset w0.heap.size (List.replicate 4 (Value.slice none 0 0)) = [w0.heap.size] := by simp [cset, List.replicate, Value.ownBlock]
    have e2 : cset w1.heap.size (List.replicate 4 (Value.slice none 0 0)) = [w1.heap.size] := by simp [cset, List.replicate, Value.ownBlock]
    rw [e1] at hy
    rw [e2] at hm
    simp at hy hm
    omega
  clear hG hB hba hgl hbl
  generalize w1.alloc (.cells #[.slice none 0 0, .slice none 0 0, .slice none 0 0, .slice none 0 0] 58) = wa at *
  refine (caches_any _).mono ?_; rintro e w2 ⟨rfl, hc⟩
  replace hF := hF.below hc
  replace hFc := hFc.below hc
  replace hBa := bel_trans hBa hc
  clear hc
  generalize hgg : w0.heap.size = g at hF hFc hdj ⊢
  have hgl : w0.heap.size ≤ g := by omega
  clear hgg
  generalize w1.heap.size = h at *
  generalize 70 = tc at hFc
  obtain ⟨i0, hi0', hz0, hz1, hz2⟩ := info_parts info_fint
  have HI := Lib.hid hi0'; have HZ0 := Lib.hid hz0; have HZ1 := Lib.hid hz1; have HZ2 := Lib.hid hz2
  clear hi0' hz0 hz1 hz2
  go_wp2_with fail
  go_loopw [5] (fun v wr => ∃ (j : Nat) (vs us : List Value) (X : Nat → List Int), j ≤ len ∧ j ≤ 40 ∧ v = .int .i64 j ∧ Four wr g tc g vs X ∧ Four wr g 58 h us X ∧ (∀ y ∈ cset g vs, y ∉ cset h us) ∧ Below w0.heap.size w0 wr) (fun v _ => 40 - (intOf v).toNat)
  case atStart => exact ⟨0, _, _, _, by omega, by omega, rfl, hFc, hF, hdj, hBa⟩
  case round =>
    clear hFc hF hdj hBa
    obtain ⟨j, vs, us, X, hjl, hj40, rfl, hC, hW, hdj, hB⟩ := hrel
    by_cases hlt : j < len ∧ j < 40
    · obtain ⟨hlt, hlt40⟩ := hlt
      have hi0 : (0 : Int) ≤ (j : Int) := Int.natCast_nonneg _
      have hi1 : (j : Int) < (len : Int) := by omega
      have hi5 : (j : Int) < 40 := by omega
      obtain ⟨bx, ox, rfl, hbx, hcell⟩ := hs.at_ (by omega)
      have hcl := (hB.cell (p := ⟨bx, ox + j * 3 + 1, none⟩) hbx).trans (hcell j hlt)
      have hia := fun w => idx_cls (b := bx) (off := ox) (cap := cap) rfl hlt w
      generalize V j = cl at hcl
      obtain ⟨hk0, hk4⟩ := umod_bd cl 4 (by omega) (by omega)
      obtain ⟨k, hk⟩ := Int.eq_ofNat_of_zero_le hk0
      rw [hk] at hk0 hk4
      have hkn : k < 4 := by omega
      have HK := Lib.hid hk; clear hk hcell
      have hix := fun w => idx_list h k hkn w
      have HC := Lib.hid hC; have HW := Lib.hid hW; have HD := Lib.hid hdj
      clear hC hW hdj
      by_cases h8 : (X k).length < 8
      · have hp := ca_push g _ g k vs X hkn (j : Int) _ HC.out h8
        have HP := Lib.hid hp; clear hp
        have h8i : ((X k).length : Int) < 8 := by omega
        go_wp2_with fail
        rw [HK.out]
        refine HP.out.mono ?_; rintro e w2 ⟨v', rfl, hC2, hcc, hss⟩
        have hW2 := HW.out.ch hcc (fun x hx hm => HD.out x hm hx)
        have hD2 : ∀ y ∈ cset g (vs.set k v'), y ∉ cset h us := fun y hy hm => by
          rcases hss y hy with h1 | h1
          · exact HD.out y h1 hm
          · have := (HW.out.lt y hm).2; omega
        have hB2 := bel_ch hB hcc (fun i hi => Nat.le_trans hgl (HC.out.lt i hi).1)
        obtain ⟨A, c, hv, hown, hwc, hwf⟩ := hW2.at_ hkn
        have hxl := hW2.mx k
        generalize hxs : X k = xs at *
        have HC2 := Lib.hid hC2; have HW2 := Lib.hid hW2; have HD2 := Lib.hid hD2; have HV := Lib.hid hv; have HO := Lib.hid hown; have HX := Lib.hid hxs
        have hhl := hW2.st.lt
        clear hC2 hW2 hD2 hv hown hxs hcc hss hB
        have hoa := own_chV HO.out (w' := w2.alloc (.cells #[.int .i64 j] 3)) ((Ch.refl [] w2).alloc _) (by simp)
        have hgs := (HC2.out.lt g (by simp [cset])).2
        go_wp2_with (at_builtin; refine wpList_push _ rfl (.tmp 56) (.tmp 58) 51 rfl g 3 (.int .i64 0) 8 Try.underlying51 info_fint rfl A xs.length c _ rfl hoa w2.heap.size 1 (.int .i64 j) rfl ?_ rfl (by omega) (by omega) (by simp; omega) ?_)
        · simp
        intro g2 c2 w3 hown2 hgr hor
        have hcf := HW2.out.set_ (w1 := w3) (v' := .slice (some ⟨g2, 0, none⟩) (xs.length + 1) c2) (xs' := xs ++ [(j : Int)]) HV.out
          (((Ch.refl _ w2).alloc _).grown hgr (fun b hb => Or.inl (by rw [hb]; simp)))
          (by rw [List.length_append, List.map_append]; exact hown2)
          (fun b hb => by
            rcases hor with h1 | h1
            · left; rw [h1]; exact hb
            · right; simp [Value.ownBlock] at hb; omega)
          (by simp; omega)
        obtain ⟨hF3, hC3, hS3⟩ := hcf
        have hg1 : w3.cell? ⟨h, k, none⟩ = some (.slice A xs.length c) ∧ w3.frozen? ⟨h, k, none⟩ = false := by
          have hne : (Value.slice A xs.length c).ownBlock ≠ some h := own_neV HO.out HW2.out.st HW2.out.nt
          have hb := (HW2.out.st.alloc (.cells #[.int .i64 j] 3)).grown hgr (fun e => hne e.symm)
          exact ⟨hb.at_ HV.out, hb.frozen _⟩
        obtain ⟨hc1, hf1⟩ := hg1
        have hD3 : ∀ y ∈ cset g (vs.set k v'), y ∉ cset h (us.set k (.slice (some ⟨g2, 0, none⟩) (xs.length + 1) c2)) := fun y hy hm => by
          rcases hS3 y hm with h1 | h1
          · exact HD2.out y hy h1
          · have := (HC2.out.lt y hy).2; omega
        have hC4 := HC2.out.ch hC3 (fun x hx hm => HD2.out x hx hm)
        have hB4 := bel_ch hB2 hC3 (fun i hi => Nat.le_trans hgl (HW2.out.lt i hi).1)
        have HC4 := Lib.hid hC4; have HF3 := Lib.hid hF3; have HD3 := Lib.hid hD3
        clear hC4 hF3 hD3 hC3 hS3 hown2 hor hgr hoa hB2
        go_wp2_with fail
        go_roundw
        case rel => exact ⟨j + 1, _, _, _, by omega, by omega, by go_num, HC4.out, HF3.out, HD3.out, hB4⟩
        case measure => simp [intOf]; omega
      · have h8e : (X k).length = 8 := by have := HC.out.mx k; omega
        have hp := ca_push_no g _ g k vs X hkn (j : Int) _ HC.out h8e
        have HP := Lib.hid hp; clear hp
        obtain ⟨A, c, hv, hown, hwc, hwf⟩ := HW.out.at_ hkn
        rw [h8e] at hwc
        clear h8 h8e hv hown
        go_wp2_with fail
        rw [HK.out]
        refine HP.out.mono ?_; rintro e w2 ⟨rfl, rfl⟩
        go_wp2_with fail
        go_roundw
        case rel => exact ⟨j + 1, _, _, _, by omega, by omega, by go_num, HC.out, HW.out, HD.out, hB⟩
        case measure => simp [intOf]; omega
    · clear hs
      rcases (by omega : len ≤ j ∨ (j < len ∧ 40 ≤ j)) with h1 | ⟨h1, h2⟩
      all_goals
        clear hlt
        go_wp2_with fail
        go_loopw [9] (fun v wr => ∃ (i : Nat) (vs : List Value) (Y : Nat → List Int), i ≤ 4 ∧ v = .int .i64 i ∧ Four wr g tc g vs Y ∧ Four wr g 58 h us X ∧ (∀ y ∈ cset g vs, y ∉ cset h us) ∧ (∀ q, q < i → Y q = []) ∧ (∀ q, i ≤ q → Y q = X q) ∧ Below w0.heap.size w0 wr) (fun v _ => 4 - (intOf v).toNat)
        case atStart => exact ⟨0, vs, X, by omega, rfl, hC, hW, hdj, fun q hq => absurd hq (by omega), fun q _ => rfl, hB⟩
        case round =>
          clear hC hW hdj hB
          obtain ⟨i, vs, Y, hi4, rfl, hC, hW, hdj, hlo, hhi, hB⟩ := hrel
          have HLO := Lib.hid hlo; have HHI := Lib.hid hhi; have HD := Lib.hid hdj
          clear hlo hhi hdj
          by_cases hi4' : i < 4
          · have hix := fun w => idx_list h i hi4' w
            obtain ⟨A, c, hv, hown, hwc, hwf⟩ := hW.at_ hi4'
            have hxl := hW.mx i
            have hY : Y i = (X i).take (X i).length := by rw [HHI.out i (Nat.le_refl _), List.take_length]
            obtain ⟨xs, hxs⟩ : ∃ xs, X i = xs := ⟨_, rfl⟩
            rw [hxs] at hwc hxl hY
            have HX := Lib.hid hxs; have HY := Lib.hid hY
            clear hxs hY hv hown
            obtain ⟨N, hN⟩ : ∃ N, xs.length = N := ⟨_, rfl⟩
            rw [hN] at hwc hxl
            have HY : Hid (Y i = xs.take N) := hN ▸ HY.out
            have HN := Lib.hid hN; clear hN
            have hlo1 : Hid (∀ q, q < i → Y q = []) := HLO.out
            have hhi1 : Hid (∀ q, i < q → Y q = X q) := fun q hq => HHI.out q (by omega)
            clear HLO HHI
            have hxi : (N : Int) ≤ 8 := by omega
            have hi4i : (i : Int) < 4 := by omega
            go_wp2_with fail
            go_loopw [10] (fun v wr => ∃ (n : Nat) (z : Int) (vs : List Value) (Y : Nat → List Int), n ≤ N ∧ (n : Int) ≤ z + 1 ∧ z + 1 ≤ (n : Int) ∧ v = .int .i64 z ∧ Four wr g tc g vs Y ∧ Four wr g 58 h us X ∧ (∀ y ∈ cset g vs, y ∉ cset h us) ∧ Y i = xs.take n ∧ (∀ q, q < i → Y q = []) ∧ (∀ q, i < q → Y q = X q) ∧ Below w0.heap.size w0 wr) (fun v _ => (intOf v + 1).toNat)
            case atStart => exact ⟨N, _, vs, Y, Nat.le_refl _, by omega, by omega, rfl, hC, hW, HD.out, HY.out, hlo1.out, hhi1.out, hB⟩
            case round =>
              clear hC hW hB HY hlo1 hhi1 HD hwc hwf
              obtain ⟨n, z, vs, Y, hnN, hz1, hz2, rfl, hC, hW, hdj, hY, hlo, hhi, hB⟩ := hrel
              have HLO := Lib.hid hlo; have HHI := Lib.hid hhi; have HD := Lib.hid hdj; have HY := Lib.hid hY
              clear hlo hhi hdj hY
              cases n with
              | zero =>
                obtain rfl : z = -1 := by omega
                have hend : ∀ q, q < i + 1 → Y q = [] := fun q hq => by
                  by_cases e : q = i
                  · subst e; rw [HY.out, List.take_zero]
                  · exact HLO.out q (by omega)
                have hend2 : ∀ q, i + 1 ≤ q → Y q = X q := fun q hq => HHI.out q (by omega)
                have HE := Lib.hid hend; have HE2 := Lib.hid hend2
                clear hend hend2
                go_wp2_with fail
                go_roundw
                case rel => exact ⟨i + 1, vs, Y, by omega, by go_num, hC, hW, HD.out, HE.out, HE2.out, hB⟩
                case measure => simp [intOf]; omega
              | succ m =>
                obtain rfl : z = (m : Int) := by omega
                have hmN : m < N := by omega
                have hxm : xs[m]? = some (xs[m]'(by rw [HN.out]; exact hmN)) := List.getElem?_eq_getElem _
                have hpo : Y i = xs.take m ++ [xs[m]'(by rw [HN.out]; exact hmN)] := by
                  rw [HY.out, List.take_succ_eq_append_getElem]
                generalize xs[m]'(by rw [HN.out]; exact hmN) = x at *
                have hp := ca_pop g _ g i vs Y hi4' _ _ _ hC hpo
                have HP := Lib.hid hp; clear hp hpo HY
                obtain ⟨A, c, hv, hown, hwc, hwf⟩ := hW.at_ hi4'
                rw [HX.out, HN.out] at hwc hown
                obtain ⟨b, rfl, hcb, hbl, _, _⟩ := own_at hown (k := m) (u := .int .i64 x) (by rw [List.getElem?_map, hxm]; rfl)
                have hbm : b ∈ cset h us := cset_mem.2 (Or.inr ⟨_, List.mem_of_getElem? hv, by rfl⟩)
                have hixm := fun w => idx_own b N c m hmN w
                have HW := Lib.hid hW
                have hhm : h ∈ cset h us := by simp [cset]
                have hm0 : (0 : Int) ≤ (m : Int) := by omega
                clear hv hown hW hxm
                go_wp2_with fail
                refine HP.out.mono ?_; rintro e w2 ⟨v', rfl, hC2, hcc, hss⟩
                have hW2 := HW.out.ch hcc (fun x hx hm => HD.out x hm hx)
                have hD2 : ∀ y ∈ cset g (vs.set i v'), y ∉ cset h us := fun y hy hm => by
                  rcases hss y hy with h1 | h1
                  · exact HD.out y h1 hm
                  · have := (HW.out.lt y hm).2; omega
                have hB2 := bel_ch hB hcc (fun i hi => Nat.le_trans hgl (hC.lt i hi).1)
                have hwc2 := ch_keep hcc (fun hm => HD.out h hm hhm) hwc
                have hcb2 := ch_keep hcc (fun hm => HD.out b hm hbm) hcb
                have hl2 : ∀ q, q < i → setX Y i (xs.take m) q = [] := fun q hq => by rw [setX_ne _ _ _ _ (by omega)]; exact HLO.out q hq
                have hh2 : ∀ q, i < q → setX Y i (xs.take m) q = X q := fun q hq => by rw [setX_ne _ _ _ _ (by omega)]; exact HHI.out q hq
                have HC2 := Lib.hid hC2; have HW2 := Lib.hid hW2; have HD2 := Lib.hid hD2; have HL2 := Lib.hid hl2; have HH2 := Lib.hid hh2
                clear hC hC2 hW2 hD2 hcc hss hB hwc hcb hl2 hh2
                go_wp2_with fail
                go_roundw
                case rel => exact ⟨m, _, _, _, by omega, by omega, by omega, rfl, HC2.out, HW2.out, HD2.out, setX_self _ _ _, HL2.out, HH2.out, hB2⟩
                case measure => first | (simp [intOf]; done) | (simp [intOf]; omega)
          · obtain rfl : i = 4 := by omega
            have hall := ca_all_no g _ g vs Y wr hC (fun k hk => HLO.out k hk)
            have HA := Lib.hid hall; clear hall
            have hB2 : ∀ w', Ch (cset g vs) wr w' → Below w0.heap.size w0 w' := fun w' hc => bel_ch hB hc (fun i hi => Nat.le_trans hgl (hC.lt i hi).1)
            have HB2 := Lib.hid hB2; clear hB2
            go_wp2_with fail
            refine HA.out.mono ?_; rintro e w2 ⟨A, c, rfl, hc⟩
            have hB3 := HB2.out w2 hc
            clear hc
            go_wp2_with fail
            go_ret
            exact ⟨rfl, hB3⟩
end Go.Proofs.Ytinijpjbbbbhjaa
