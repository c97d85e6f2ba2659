/- messuageref01.node, Parse. -/
import Derived.Test.YtdpcnbbaipdmjaaDoorParse2
import Derived.Deep.QuietTactic
import Derived.BigQuiet
import Derived.Deep.DeepCutAuto
import Derived.Deep.CutBlock
namespace Go.Proofs.YtdpcnbbaipdmjaaDoor
open Go.RowKit Go.Shelf
set_option linter.unusedVariables false
set_option linter.unusedSimpArgs false
attribute [local go_sem] World.cell?_alloc_lt

/-- The node of a byte; -1: it is none. -/
def rnodeN (b : UInt8) : Int := if okNode b = true then nodeN b else -1
theorem rnode_any (b : UInt8) (w : World) : Calls Tryd.prog 39 #[.int .u8 (b.toNat : Int)] w fun e w' => e = .returned (.int .i64 (rnodeN b)) ∧ w = w' := by
  have hb : b.toNat < 256 := UInt8.toNat_lt b
  unfold rnodeN okNode nodeN
  generalize b.toNat = n at *
  by_cases h1 : 48 ≤ n
  · by_cases h2 : n < 56
    · have hv : (if decide (48 ≤ n ∧ n < 56) = true then (n : Int) - 48 else -1) = (n : Int) - 48 := if_pos (decide_eq_true ⟨h1, h2⟩)
      rw [hv]
      have h3 : (48 : Int) ≤ (n : Int) := by omega
      have h4 : (n : Int) ≤ 55 := by omega
      have h5 : IntKind.u8.wrap ((n : Int) - 48) = (n : Int) - 48 := by
        simp only [IntKind.wrap]
        simp [IntKind.signed, IntKind.bits]
        omega
      clear hv
      go_enter Tryd.func39, Tryd.ntmps39
      go_wp2_with fail
      all_goals
        go_ret
        exact ⟨rfl, rfl⟩
    · have hv : (if decide (48 ≤ n ∧ n < 56) = true then (n : Int) - 48 else -1) = -1 := if_neg (by simp; omega)
      rw [hv]
      clear hv
      have h4 : ¬ (n : Int) ≤ 55 := by omega
      go_enter Tryd.func39, Tryd.ntmps39
      go_wp2_with fail
      all_goals
        go_ret
        exact ⟨rfl, rfl⟩
  · have hv : (if decide (48 ≤ n ∧ n < 56) = true then (n : Int) - 48 else -1) = -1 := if_neg (by simp; omega)
    rw [hv]
    clear hv
    have h3 : ¬ (48 : Int) ≤ (n : Int) := by omega
    go_enter Tryd.func39, Tryd.ntmps39
    go_wp2_with fail
    all_goals
      go_ret
      exact ⟨rfl, rfl⟩
/-- Parts of which the first one has begun. -/
def preL (cur l : List UInt8) : List (List UInt8) := match splitL 44 l with
  | [] => []
  | p :: ps => (cur ++ p) :: ps
theorem preL_nil (l : List UInt8) : preL [] l = splitL 44 l := by
  unfold preL
  cases h : splitL 44 l with
  | nil => rfl
  | cons p ps => simp
theorem preL_end (cur : List UInt8) : preL cur [] = [cur] := by simp [preL, splitL]
theorem preL_sep (cur t : List UInt8) : preL cur (44 :: t) = cur :: preL [] t := by
  rw [preL_nil]
  simp [preL, splitL]
theorem preL_more (cur t : List UInt8) (x : UInt8) (h : x ≠ 44) : preL cur (x :: t) = preL (cur ++ [x]) t := by
  unfold preL
  simp only [splitL, if_neg h]
  have := splitL_ne 44 t
  cases h2 : splitL 44 t with
  | nil => exact absurd h2 this
  | cons p ps => simp
/-- What is left to read. -/
def PInv (text : ByteArray) (G : Option Nat) (i : Nat) (part : List UInt8) (st : Nat) : Prop := (i ≤ text.size ∧ foldP (preL part (text.data.toList.drop i)) st = G) ∨ (i = text.size + 1 ∧ G = some st)
theorem len_data (s : ByteArray) : s.data.toList.length = s.size := by simp
theorem drop_at {text : ByteArray} {i : Nat} (h : i < text.size) : text.data.toList.drop i = text[i] :: text.data.toList.drop (i + 1) := by
  rw [List.drop_eq_getElem_cons (by rw [len_data]; exact h)]
  rfl
theorem pinv_more {text : ByteArray} {G : Option Nat} {i st : Nat} {part : List UInt8} (h : PInv text G i part st) (hi : i < text.size) (hc : text[i] ≠ 44) : PInv text G (i + 1) (part ++ [text[i]]) st := by
  rcases h with ⟨_, h⟩ | ⟨h, _⟩
  · refine Or.inl ⟨by omega, ?_⟩
    rw [← h, drop_at hi, preL_more _ _ _ hc]
  · omega
theorem pinv_part {text : ByteArray} {G : Option Nat} {i st : Nat} {part : List UInt8} (h : PInv text G i part st) (hi : i = text.size ∨ ∃ h : i < text.size, text[i] = 44) : ((partR part).2.2 = true → PInv text G (i + 1) [] (orK st (partR part).1.toNat ((partR part).2.1.toNat + 1 - (partR part).1.toNat))) ∧ ((partR part).2.2 = false → G = none) := by
  rcases h with ⟨hle, h⟩ | ⟨h, _⟩
  · rcases hi with hi | ⟨hlt, hc⟩
    · have hd : text.data.toList.drop i = [] := List.drop_eq_nil_iff.2 (by rw [len_data]; omega)
      rw [hd, preL_end] at h
      refine ⟨fun hok => Or.inr ⟨by omega, ?_⟩, fun hno => ?_⟩
      · rw [← h, foldP, if_pos hok]; rfl
      · rw [← h, foldP, if_neg (by rw [hno]; simp)]
    · rw [drop_at hlt, hc, preL_sep] at h
      refine ⟨fun hok => Or.inl ⟨by omega, ?_⟩, fun hno => ?_⟩
      · rw [← h, foldP, if_pos hok]
      · rw [← h, foldP, if_neg (by rw [hno]; simp)]
  · rcases hi with hi | ⟨hlt, _⟩ <;> omega
def rparseV (o : Option Nat) : Value := match o with
  | some s => .tuple #[.int .u8 (s : Int), .bool true]
  | none => .tuple #[.int .u8 0, .bool false]
theorem rparse_none (w : World) : Calls Tryd.prog 23 #[.string noneB] w fun e w' => e = .returned (rparseV (some 0)) ∧ w = w' := by
  unfold noneB
  go_enter Tryd.func23, Tryd.ntmps23
  go_wp2_with fail
  go_ret2
  exact ⟨rfl, rfl⟩
theorem cat_data (a b : ByteArray) : (a ++ b).data.toList = a.data.toList ++ b.data.toList := by
  rw [ByteArray.data_append, Array.toList_append]
set_option maxRecDepth 100000 in
set_option maxHeartbeats 8000000 in
theorem rparse_some (text : ByteArray) (hs : text.size ≤ 1000) (hno : text ≠ noneB) (w : World) : Calls Tryd.prog 23 #[.string text] w fun e w' => e = .returned (rparseV (foldP (splitL 44 text.data.toList) 0)) ∧ Below w.heap.size w w' := by
  have hq : (text.toList == [110, 111, 110, 101]) = false := by
    have h := str_beq text noneB
    rw [decide_eq_false hno, Lib.toList_data noneB] at h
    exact h
  obtain ⟨G, hG⟩ : ∃ G, foldP (splitL 44 text.data.toList) 0 = G := ⟨_, rfl⟩
  have h0 : PInv text G 0 [] 0 := Or.inl ⟨by omega, by rw [List.drop_zero, preL_nil, hG]⟩
  have HH0 := Lib.hid h0
  obtain ⟨V, hV⟩ : ∃ V, V = rparseV G := ⟨_, rfl⟩
  rw [hG, ← hV]
  have HV := Lib.hid hV
  have hB0 := Below.refl w.heap.size w
  clear hG h0 hV hno
  go_enter Tryd.func23, Tryd.ntmps23
  go_wp2_with fail
  go_loopw [6, 5, 4] (fun v6 v5 v4 wr => ∃ (i st : Nat) (part : ByteArray), i ≤ text.size + 1 ∧ v6 = .int .i64 (i : Int) ∧ v5 = .string part ∧ v4 = .int .u8 (st : Int) ∧ st < 256 ∧ part.size ≤ i ∧ PInv text G i part.data.toList st ∧ Below w.heap.size w wr) (fun v _ _ _ => text.size + 1 - (intOf v).toNat)
  case atStart => exact ⟨0, 0, ByteArray.empty, by omega, rfl, rfl, rfl, by omega, by simp, HH0.out, hB0⟩
  case round =>
    clear hB0 HH0
    obtain ⟨i, st, part, hi, rfl, rfl, rfl, hst, hpz, hinv, hB⟩ := hrel
    have HI := Lib.hid hinv
    clear hinv
    by_cases hle : i ≤ text.size
    · by_cases hmore : ∃ h : i < text.size, text[i] ≠ 44
      · obtain ⟨hlt, hc⟩ := hmore
        have hn := pinv_more HI.out hlt hc
        have hcat : part.data.toList ++ [text[i]] = (part ++ text.extract i (i + 1)).data.toList := by
          rw [cat_data, Lib.extract_data, drop_at hlt, show i + 1 - i = 1 by omega]
          rfl
        rw [hcat] at hn
        have hsz : (part ++ text.extract i (i + 1)).size ≤ i + 1 := by
          rw [ByteArray.size_append, ByteArray.size_extract]
          omega
        have hne : ((text[i].toNat : Int) != 44) = true := by
          rw [bne_iff_ne]
          intro h
          apply hc
          apply UInt8.toNat_inj.1
          show text[i].toNat = 44
          omega
        have HN := Lib.hid hn; have HSZ := Lib.hid hsz
        clear hn hcat hsz hc HI
        go_wp2_with fail
        go_roundw
        case rel => exact ⟨i + 1, st, _, by omega, by go_num, rfl, rfl, hst, HSZ.out, HN.out, hB⟩
        case measure => simp [intOf]; omega
      · have hsep : i = text.size ∨ ∃ h : i < text.size, text[i] = 44 := by
          by_cases h : i < text.size
          · exact Or.inr ⟨h, Classical.byContradiction fun h2 => hmore ⟨h, h2⟩⟩
          · exact Or.inl (by omega)
        obtain ⟨hgo, hstop⟩ := pinv_part HI.out hsep
        have HGO := Lib.hid hgo; have HSTOP := Lib.hid hstop
        clear hgo hstop hmore HI
        have key : (i < text.size → ∃ h : i < text.size, ((text[i].toNat : Int) != 44) = false) := by
          intro h
          rcases hsep with h2 | ⟨h2, h3⟩
          · omega
          · exact ⟨h, by rw [h3]; rfl⟩
        clear hsep
        rcases Nat.lt_or_ge i text.size with hlt | hge
        · obtain ⟨hlt', hc⟩ := key hlt
          clear key
          by_cases h1 : part.size = 1
          · obtain ⟨x, rfl⟩ : ∃ x, part = ⟨#[x]⟩ := by
              obtain ⟨⟨l⟩⟩ := part
              match l, h1 with
              | [x], _ => exact ⟨x, rfl⟩
            clear h1 hpz
            cases hok : okNode x with
            | true =>
              have hx := of_decide_eq_true hok
              obtain ⟨a, ha⟩ : ∃ a : Nat, a + 48 = x.toNat := ⟨x.toNat - 48, by omega⟩
              have hra : rnodeN x = (a : Int) := by unfold rnodeN nodeN; rw [if_pos hok]; omega
              have hna : nodeN x = (a : Int) := by unfold nodeN; omega
              have hnx := HGO.out hok
              rw [show (partR [x]).1 = (a : Int) from hna, show (partR [x]).2.1 = (a : Int) from hna, Int.toNat_natCast] at hnx
              obtain ⟨b, hab, hba⟩ : ∃ b, a ≤ b ∧ b ≤ a := ⟨a, Nat.le_refl _, Nat.le_refl _⟩
              have hb8 : b < 8 := by omega
              have hnx2 : PInv text G (i + 1) [] (orK st a (b + 1 - a)) := by
                have : b = a := by omega
                rw [this]; exact hnx
              have hrb : rnodeN x = (b : Int) := by rw [hra]; omega
              clear hnx
              have hnx := hnx2
              have HNX := Lib.hid hnx
              clear hx hna hnx hnx2 hok HGO HSTOP hrb
              have hv0 : ∀ h, rnodeN ((⟨#[x]⟩ : ByteArray)[0]'h) = (a : Int) := fun _ => hra
              clear hra
              go_upto_region 12 with fail
              go_quiet ((go_at_call 39; exact Calls.quiet_of_same ((rnode_any _ _).mono fun _ _ h => ⟨h.1, h.2.symm⟩)))
              have hob := fun (k : Nat) (hk : a + k ≤ 7) => or_bits (orK st a k) (orK_lt st a hst k (by omega)) (a + k) (by omega)
              have HOB := Lib.hid hob
              clear hob
              have hBn := hB
              go_wp2_with fail
              go_loopw [9, 4] (fun v9 v4 wx => ∃ k : Nat, a + k ≤ b + 1 ∧ v9 = .int .i64 ((a : Int) + (k : Int)) ∧ v4 = .int .u8 (orK st a k : Int) ∧ Below w.heap.size w wx) (fun v _ _ => b + 1 - (intOf v).toNat)
              case atStart => exact ⟨0, by omega, by simp, rfl, by first | exact hBn | exact bel_drewN hBn _⟩
              case round =>
                clear hBn
                obtain ⟨k, hk, rfl, rfl, hBx⟩ := hrel
                by_cases hlt : a + k ≤ b
                · have hob := HOB.out k (by omega)
                  have hstep : orN (orK st a k) (a + k) = orK st a (k + 1) := rfl
                  have HST := Lib.hid hstep
                  clear hstep
                  generalize orK st a k = s0 at *
                  go_wp2_with fail
                  go_roundw
                  case rel => exact ⟨k + 1, by omega, by rw [Int.natCast_succ, ← Int.add_assoc], by rw [← HST.out, ← hob], hBx⟩
                  case measure => simp [intOf]; omega
                · have hke : k = b + 1 - a := by omega
                  subst hke
                  have hk256 := orK_lt st a hst (b + 1 - a) (by omega)
                  go_wp2_with fail
                  go_roundw
                  case rel => exact ⟨i + 1, orK st a (b + 1 - a), ByteArray.empty, by omega, by go_num, rfl, rfl, hk256, by simp, HNX.out, hBx⟩
                  case measure => simp [intOf]; omega
            | false =>
              have hra : rnodeN x = -1 := by unfold rnodeN; rw [if_neg (by rw [hok]; simp)]
              have hg := HSTOP.out (hok)
              have HG := Lib.hid hg
              clear hg HSTOP HGO
              have hv0 : ∀ h, rnodeN ((⟨#[x]⟩ : ByteArray)[0]'h) = -1 := fun _ => hra
              clear hra hok
              go_upto_region 12 with fail
              go_quiet ((go_at_call 39; exact Calls.quiet_of_same ((rnode_any _ _).mono fun _ _ h => ⟨h.1, h.2.symm⟩)))
              go_wp2_with fail
              go_ret2
              exact ⟨by rw [HV.out, HG.out]; rfl, bel_drewN hB _⟩
          · by_cases h3 : part.size = 3
            · obtain ⟨x, y, z, rfl⟩ : ∃ x y z, part = ⟨#[x, y, z]⟩ := by
                obtain ⟨⟨l⟩⟩ := part
                match l, h3 with
                | [x, y, z], _ => exact ⟨x, y, z, rfl⟩
              clear h1 h3 hpz
              by_cases hy : y = 45
              · subst hy
                have hpr : partR [x, 45, z] = (nodeN x, nodeN z, okNode x && okNode z && decide (nodeN x ≤ nodeN z)) := by simp [partR]
                cases hox : okNode x with
                | false =>
                  have hrx : rnodeN x = -1 := by unfold rnodeN; rw [if_neg (by rw [hox]; simp)]
                  have hg := HSTOP.out (by rw [show (⟨#[x, 45, z]⟩ : ByteArray).data.toList = [x, 45, z] from rfl, hpr, hox]; rfl)
                  have HG := Lib.hid hg
                  clear hg HSTOP HGO
                  have hv0 : ∀ h, rnodeN ((⟨#[x, 45, z]⟩ : ByteArray)[0]'h) = -1 := fun _ => hrx
                  clear hrx hox hpr
                  go_upto_region 12 with fail
                  go_quiet ((go_at_call 39; exact Calls.quiet_of_same ((rnode_any _ _).mono fun _ _ h => ⟨h.1, h.2.symm⟩)))
                  go_wp2_with fail
                  go_ret2
                  exact ⟨by rw [HV.out, HG.out]; rfl, bel_drewN hB _⟩
                | true =>
                  have hx := of_decide_eq_true hox
                  obtain ⟨a, ha⟩ : ∃ a : Nat, a + 48 = x.toNat := ⟨x.toNat - 48, by omega⟩
                  have hrx : rnodeN x = (a : Int) := by unfold rnodeN nodeN; rw [if_pos hox]; omega
                  have hnx0 : nodeN x = (a : Int) := by unfold nodeN; omega
                  cases hoz : okNode z with
                  | false =>
                    have hrz : rnodeN z = -1 := by unfold rnodeN; rw [if_neg (by rw [hoz]; simp)]
                    have hcm : ((-1 : Int) < (a : Int)) := by omega
                    have hg := HSTOP.out (by rw [show (⟨#[x, 45, z]⟩ : ByteArray).data.toList = [x, 45, z] from rfl, hpr, hoz, Bool.and_false]; rfl)
                    have HG := Lib.hid hg
                    clear hg HSTOP HGO
                    have hv0 : ∀ h, rnodeN ((⟨#[x, 45, z]⟩ : ByteArray)[0]'h) = (a : Int) := fun _ => hrx
                    have hv2 : ∀ h, rnodeN ((⟨#[x, 45, z]⟩ : ByteArray)[2]'h) = -1 := fun _ => hrz
                    clear hrx hrz hox hoz hpr hnx0
                    go_upto_region 12 with fail
                    go_quiet ((go_at_call 39; exact Calls.quiet_of_same ((rnode_any _ _).mono fun _ _ h => ⟨h.1, h.2.symm⟩)))
                    go_wp2_with fail
                    go_ret2
                    exact ⟨by rw [HV.out, HG.out]; rfl, bel_drewN hB _⟩
                  | true =>
                    have hz := of_decide_eq_true hoz
                    obtain ⟨b, hb⟩ : ∃ b : Nat, b + 48 = z.toNat := ⟨z.toNat - 48, by omega⟩
                    have hrz : rnodeN z = (b : Int) := by unfold rnodeN nodeN; rw [if_pos hoz]; omega
                    have hnz0 : nodeN z = (b : Int) := by unfold nodeN; omega
                    have hb8 : b < 8 := by omega
                    rw [hnx0, hnz0, hox, hoz] at hpr
                    by_cases hab : a ≤ b
                    · have hok : (partR [x, 45, z]).2.2 = true := by rw [hpr]; simp; omega
                      have hnx := HGO.out hok
                      rw [show (⟨#[x, 45, z]⟩ : ByteArray).data.toList = [x, 45, z] from rfl, hpr] at hnx
                      simp only [Int.toNat_natCast] at hnx
                      have hcm : ¬ ((b : Int) < (a : Int)) := by omega
                      have HNX := Lib.hid hnx
                      clear hx hz hnx0 hnz0 hnx hok hox hoz hpr HGO HSTOP
                      have hv0 : ∀ h, rnodeN ((⟨#[x, 45, z]⟩ : ByteArray)[0]'h) = (a : Int) := fun _ => hrx
                      have hv2 : ∀ h, rnodeN ((⟨#[x, 45, z]⟩ : ByteArray)[2]'h) = (b : Int) := fun _ => hrz
                      clear hrx hrz
                      go_upto_region 12 with fail
                      go_quiet ((go_at_call 39; exact Calls.quiet_of_same ((rnode_any _ _).mono fun _ _ h => ⟨h.1, h.2.symm⟩)))
                      have hob := fun (k : Nat) (hk : a + k ≤ 7) => or_bits (orK st a k) (orK_lt st a hst k (by omega)) (a + k) (by omega)
                      have HOB := Lib.hid hob
                      clear hob
                      have hBn := hB
                      go_wp2_with fail
                      go_loopw [9, 4] (fun v9 v4 wx => ∃ k : Nat, a + k ≤ b + 1 ∧ v9 = .int .i64 ((a : Int) + (k : Int)) ∧ v4 = .int .u8 (orK st a k : Int) ∧ Below w.heap.size w wx) (fun v _ _ => b + 1 - (intOf v).toNat)
                      case atStart => exact ⟨0, by omega, by simp, rfl, by first | exact hBn | exact bel_drewN hBn _⟩
                      case round =>
                        clear hBn
                        obtain ⟨k, hk, rfl, rfl, hBx⟩ := hrel
                        by_cases hlt : a + k ≤ b
                        · have hob := HOB.out k (by omega)
                          have hstep : orN (orK st a k) (a + k) = orK st a (k + 1) := rfl
                          have HST := Lib.hid hstep
                          clear hstep
                          generalize orK st a k = s0 at *
                          go_wp2_with fail
                          go_roundw
                          case rel => exact ⟨k + 1, by omega, by rw [Int.natCast_succ, ← Int.add_assoc], by rw [← HST.out, ← hob], hBx⟩
                          case measure => simp [intOf]; omega
                        · have hke : k = b + 1 - a := by omega
                          subst hke
                          have hk256 := orK_lt st a hst (b + 1 - a) (by omega)
                          go_wp2_with fail
                          go_roundw
                          case rel => exact ⟨i + 1, orK st a (b + 1 - a), ByteArray.empty, by omega, by go_num, rfl, rfl, hk256, by simp, HNX.out, hBx⟩
                          case measure => simp [intOf]; omega
                    · have hcm : ((b : Int) < (a : Int)) := by omega
                      have hg := HSTOP.out (by rw [show (⟨#[x, 45, z]⟩ : ByteArray).data.toList = [x, 45, z] from rfl, hpr]; simp; omega)
                      have HG := Lib.hid hg
                      clear hg HSTOP HGO
                      have hv0 : ∀ h, rnodeN ((⟨#[x, 45, z]⟩ : ByteArray)[0]'h) = (a : Int) := fun _ => hrx
                      have hv2 : ∀ h, rnodeN ((⟨#[x, 45, z]⟩ : ByteArray)[2]'h) = (b : Int) := fun _ => hrz
                      clear hrx hrz hox hoz hpr hnx0 hnz0 hab
                      go_upto_region 12 with fail
                      go_quiet ((go_at_call 39; exact Calls.quiet_of_same ((rnode_any _ _).mono fun _ _ h => ⟨h.1, h.2.symm⟩)))
                      go_wp2_with fail
                      go_ret2
                      exact ⟨by rw [HV.out, HG.out]; rfl, bel_drewN hB _⟩
              · have hpr : partR [x, y, z] = (0, 0, false) := by simp only [partR, if_neg hy]
                have hbe : ((y.toNat : Int) != 45) = true := by
                  rw [bne_iff_ne]
                  intro h
                  apply hy
                  apply UInt8.toNat_inj.1
                  show y.toNat = 45
                  omega
                have hbe2 : ∀ (h : 1 < (⟨#[x, y, z]⟩ : ByteArray).size), ((((⟨#[x, y, z]⟩ : ByteArray)[1]'h).toNat : Int) != 45) = true := fun _ => hbe
                have hg := HSTOP.out (by rw [show (⟨#[x, y, z]⟩ : ByteArray).data.toList = [x, y, z] from rfl, hpr])
                have HG := Lib.hid hg
                clear hg HSTOP HGO hy hpr
                go_wp2_with fail
                go_ret2
                exact ⟨by rw [HV.out, HG.out]; rfl, hB⟩
            · have e1 : ((part.size : Int) != 1) = true := by rw [bne_iff_ne]; omega
              have e3 : ((part.size : Int) != 3) = true := by rw [bne_iff_ne]; omega
              have hg := HSTOP.out (by rw [part_else (by simpa using h1) (by simpa using h3)])
              have HG := Lib.hid hg
              clear hg HSTOP HGO h1 h3
              go_wp2_with fail
              go_ret2
              exact ⟨by rw [HV.out, HG.out]; rfl, hB⟩

        · clear key
          by_cases h1 : part.size = 1
          · obtain ⟨x, rfl⟩ : ∃ x, part = ⟨#[x]⟩ := by
              obtain ⟨⟨l⟩⟩ := part
              match l, h1 with
              | [x], _ => exact ⟨x, rfl⟩
            clear h1 hpz
            cases hok : okNode x with
            | true =>
              have hx := of_decide_eq_true hok
              obtain ⟨a, ha⟩ : ∃ a : Nat, a + 48 = x.toNat := ⟨x.toNat - 48, by omega⟩
              have hra : rnodeN x = (a : Int) := by unfold rnodeN nodeN; rw [if_pos hok]; omega
              have hna : nodeN x = (a : Int) := by unfold nodeN; omega
              have hnx := HGO.out hok
              rw [show (partR [x]).1 = (a : Int) from hna, show (partR [x]).2.1 = (a : Int) from hna, Int.toNat_natCast] at hnx
              obtain ⟨b, hab, hba⟩ : ∃ b, a ≤ b ∧ b ≤ a := ⟨a, Nat.le_refl _, Nat.le_refl _⟩
              have hb8 : b < 8 := by omega
              have hnx2 : PInv text G (i + 1) [] (orK st a (b + 1 - a)) := by
                have : b = a := by omega
                rw [this]; exact hnx
              have hrb : rnodeN x = (b : Int) := by rw [hra]; omega
              clear hnx
              have hnx := hnx2
              have HNX := Lib.hid hnx
              clear hx hna hnx hnx2 hok HGO HSTOP hrb
              have hv0 : ∀ h, rnodeN ((⟨#[x]⟩ : ByteArray)[0]'h) = (a : Int) := fun _ => hra
              clear hra
              go_upto_region 12 with fail
              go_quiet ((go_at_call 39; exact Calls.quiet_of_same ((rnode_any _ _).mono fun _ _ h => ⟨h.1, h.2.symm⟩)))
              have hob := fun (k : Nat) (hk : a + k ≤ 7) => or_bits (orK st a k) (orK_lt st a hst k (by omega)) (a + k) (by omega)
              have HOB := Lib.hid hob
              clear hob
              have hBn := hB
              go_wp2_with fail
              go_loopw [9, 4] (fun v9 v4 wx => ∃ k : Nat, a + k ≤ b + 1 ∧ v9 = .int .i64 ((a : Int) + (k : Int)) ∧ v4 = .int .u8 (orK st a k : Int) ∧ Below w.heap.size w wx) (fun v _ _ => b + 1 - (intOf v).toNat)
              case atStart => exact ⟨0, by omega, by simp, rfl, by first | exact hBn | exact bel_drewN hBn _⟩
              case round =>
                clear hBn
                obtain ⟨k, hk, rfl, rfl, hBx⟩ := hrel
                by_cases hlt : a + k ≤ b
                · have hob := HOB.out k (by omega)
                  have hstep : orN (orK st a k) (a + k) = orK st a (k + 1) := rfl
                  have HST := Lib.hid hstep
                  clear hstep
                  generalize orK st a k = s0 at *
                  go_wp2_with fail
                  go_roundw
                  case rel => exact ⟨k + 1, by omega, by rw [Int.natCast_succ, ← Int.add_assoc], by rw [← HST.out, ← hob], hBx⟩
                  case measure => simp [intOf]; omega
                · have hke : k = b + 1 - a := by omega
                  subst hke
                  have hk256 := orK_lt st a hst (b + 1 - a) (by omega)
                  go_wp2_with fail
                  go_roundw
                  case rel => exact ⟨i + 1, orK st a (b + 1 - a), ByteArray.empty, by omega, by go_num, rfl, rfl, hk256, by simp, HNX.out, hBx⟩
                  case measure => simp [intOf]; omega
            | false =>
              have hra : rnodeN x = -1 := by unfold rnodeN; rw [if_neg (by rw [hok]; simp)]
              have hg := HSTOP.out (hok)
              have HG := Lib.hid hg
              clear hg HSTOP HGO
              have hv0 : ∀ h, rnodeN ((⟨#[x]⟩ : ByteArray)[0]'h) = -1 := fun _ => hra
              clear hra hok
              go_upto_region 12 with fail
              go_quiet ((go_at_call 39; exact Calls.quiet_of_same ((rnode_any _ _).mono fun _ _ h => ⟨h.1, h.2.symm⟩)))
              go_wp2_with fail
              go_ret2
              exact ⟨by rw [HV.out, HG.out]; rfl, bel_drewN hB _⟩
          · by_cases h3 : part.size = 3
            · obtain ⟨x, y, z, rfl⟩ : ∃ x y z, part = ⟨#[x, y, z]⟩ := by
                obtain ⟨⟨l⟩⟩ := part
                match l, h3 with
                | [x, y, z], _ => exact ⟨x, y, z, rfl⟩
              clear h1 h3 hpz
              by_cases hy : y = 45
              · subst hy
                have hpr : partR [x, 45, z] = (nodeN x, nodeN z, okNode x && okNode z && decide (nodeN x ≤ nodeN z)) := by simp [partR]
                cases hox : okNode x with
                | false =>
                  have hrx : rnodeN x = -1 := by unfold rnodeN; rw [if_neg (by rw [hox]; simp)]
                  have hg := HSTOP.out (by rw [show (⟨#[x, 45, z]⟩ : ByteArray).data.toList = [x, 45, z] from rfl, hpr, hox]; rfl)
                  have HG := Lib.hid hg
                  clear hg HSTOP HGO
                  have hv0 : ∀ h, rnodeN ((⟨#[x, 45, z]⟩ : ByteArray)[0]'h) = -1 := fun _ => hrx
                  clear hrx hox hpr
                  go_upto_region 12 with fail
                  go_quiet ((go_at_call 39; exact Calls.quiet_of_same ((rnode_any _ _).mono fun _ _ h => ⟨h.1, h.2.symm⟩)))
                  go_wp2_with fail
                  go_ret2
                  exact ⟨by rw [HV.out, HG.out]; rfl, bel_drewN hB _⟩
                | true =>
                  have hx := of_decide_eq_true hox
                  obtain ⟨a, ha⟩ : ∃ a : Nat, a + 48 = x.toNat := ⟨x.toNat - 48, by omega⟩
                  have hrx : rnodeN x = (a : Int) := by unfold rnodeN nodeN; rw [if_pos hox]; omega
                  have hnx0 : nodeN x = (a : Int) := by unfold nodeN; omega
                  cases hoz : okNode z with
                  | false =>
                    have hrz : rnodeN z = -1 := by unfold rnodeN; rw [if_neg (by rw [hoz]; simp)]
                    have hcm : ((-1 : Int) < (a : Int)) := by omega
                    have hg := HSTOP.out (by rw [show (⟨#[x, 45, z]⟩ : ByteArray).data.toList = [x, 45, z] from rfl, hpr, hoz, Bool.and_false]; rfl)
                    have HG := Lib.hid hg
                    clear hg HSTOP HGO
                    have hv0 : ∀ h, rnodeN ((⟨#[x, 45, z]⟩ : ByteArray)[0]'h) = (a : Int) := fun _ => hrx
                    have hv2 : ∀ h, rnodeN ((⟨#[x, 45, z]⟩ : ByteArray)[2]'h) = -1 := fun _ => hrz
                    clear hrx hrz hox hoz hpr hnx0
                    go_upto_region 12 with fail
                    go_quiet ((go_at_call 39; exact Calls.quiet_of_same ((rnode_any _ _).mono fun _ _ h => ⟨h.1, h.2.symm⟩)))
                    go_wp2_with fail
                    go_ret2
                    exact ⟨by rw [HV.out, HG.out]; rfl, bel_drewN hB _⟩
                  | true =>
                    have hz := of_decide_eq_true hoz
                    obtain ⟨b, hb⟩ : ∃ b : Nat, b + 48 = z.toNat := ⟨z.toNat - 48, by omega⟩
                    have hrz : rnodeN z = (b : Int) := by unfold rnodeN nodeN; rw [if_pos hoz]; omega
                    have hnz0 : nodeN z = (b : Int) := by unfold nodeN; omega
                    have hb8 : b < 8 := by omega
                    rw [hnx0, hnz0, hox, hoz] at hpr
                    by_cases hab : a ≤ b
                    · have hok : (partR [x, 45, z]).2.2 = true := by rw [hpr]; simp; omega
                      have hnx := HGO.out hok
                      rw [show (⟨#[x, 45, z]⟩ : ByteArray).data.toList = [x, 45, z] from rfl, hpr] at hnx
                      simp only [Int.toNat_natCast] at hnx
                      have hcm : ¬ ((b : Int) < (a : Int)) := by omega
                      have HNX := Lib.hid hnx
                      clear hx hz hnx0 hnz0 hnx hok hox hoz hpr HGO HSTOP
                      have hv0 : ∀ h, rnodeN ((⟨#[x, 45, z]⟩ : ByteArray)[0]'h) = (a : Int) := fun _ => hrx
                      have hv2 : ∀ h, rnodeN ((⟨#[x, 45, z]⟩ : ByteArray)[2]'h) = (b : Int) := fun _ => hrz
                      clear hrx hrz
                      go_upto_region 12 with fail
                      go_quiet ((go_at_call 39; exact Calls.quiet_of_same ((rnode_any _ _).mono fun _ _ h => ⟨h.1, h.2.symm⟩)))
                      have hob := fun (k : Nat) (hk : a + k ≤ 7) => or_bits (orK st a k) (orK_lt st a hst k (by omega)) (a + k) (by omega)
                      have HOB := Lib.hid hob
                      clear hob
                      have hBn := hB
                      go_wp2_with fail
                      go_loopw [9, 4] (fun v9 v4 wx => ∃ k : Nat, a + k ≤ b + 1 ∧ v9 = .int .i64 ((a : Int) + (k : Int)) ∧ v4 = .int .u8 (orK st a k : Int) ∧ Below w.heap.size w wx) (fun v _ _ => b + 1 - (intOf v).toNat)
                      case atStart => exact ⟨0, by omega, by simp, rfl, by first | exact hBn | exact bel_drewN hBn _⟩
                      case round =>
                        clear hBn
                        obtain ⟨k, hk, rfl, rfl, hBx⟩ := hrel
                        by_cases hlt : a + k ≤ b
                        · have hob := HOB.out k (by omega)
                          have hstep : orN (orK st a k) (a + k) = orK st a (k + 1) := rfl
                          have HST := Lib.hid hstep
                          clear hstep
                          generalize orK st a k = s0 at *
                          go_wp2_with fail
                          go_roundw
                          case rel => exact ⟨k + 1, by omega, by rw [Int.natCast_succ, ← Int.add_assoc], by rw [← HST.out, ← hob], hBx⟩
                          case measure => simp [intOf]; omega
                        · have hke : k = b + 1 - a := by omega
                          subst hke
                          have hk256 := orK_lt st a hst (b + 1 - a) (by omega)
                          go_wp2_with fail
                          go_roundw
                          case rel => exact ⟨i + 1, orK st a (b + 1 - a), ByteArray.empty, by omega, by go_num, rfl, rfl, hk256, by simp, HNX.out, hBx⟩
                          case measure => simp [intOf]; omega
                    · have hcm : ((b : Int) < (a : Int)) := by omega
                      have hg := HSTOP.out (by rw [show (⟨#[x, 45, z]⟩ : ByteArray).data.toList = [x, 45, z] from rfl, hpr]; simp; omega)
                      have HG := Lib.hid hg
                      clear hg HSTOP HGO
                      have hv0 : ∀ h, rnodeN ((⟨#[x, 45, z]⟩ : ByteArray)[0]'h) = (a : Int) := fun _ => hrx
                      have hv2 : ∀ h, rnodeN ((⟨#[x, 45, z]⟩ : ByteArray)[2]'h) = (b : Int) := fun _ => hrz
                      clear hrx hrz hox hoz hpr hnx0 hnz0 hab
                      go_upto_region 12 with fail
                      go_quiet ((go_at_call 39; exact Calls.quiet_of_same ((rnode_any _ _).mono fun _ _ h => ⟨h.1, h.2.symm⟩)))
                      go_wp2_with fail
                      go_ret2
                      exact ⟨by rw [HV.out, HG.out]; rfl, bel_drewN hB _⟩
              · have hpr : partR [x, y, z] = (0, 0, false) := by simp only [partR, if_neg hy]
                have hbe : ((y.toNat : Int) != 45) = true := by
                  rw [bne_iff_ne]
                  intro h
                  apply hy
                  apply UInt8.toNat_inj.1
                  show y.toNat = 45
                  omega
                have hbe2 : ∀ (h : 1 < (⟨#[x, y, z]⟩ : ByteArray).size), ((((⟨#[x, y, z]⟩ : ByteArray)[1]'h).toNat : Int) != 45) = true := fun _ => hbe
                have hg := HSTOP.out (by rw [show (⟨#[x, y, z]⟩ : ByteArray).data.toList = [x, y, z] from rfl, hpr])
                have HG := Lib.hid hg
                clear hg HSTOP HGO hy hpr
                go_wp2_with fail
                go_ret2
                exact ⟨by rw [HV.out, HG.out]; rfl, hB⟩
            · have e1 : ((part.size : Int) != 1) = true := by rw [bne_iff_ne]; omega
              have e3 : ((part.size : Int) != 3) = true := by rw [bne_iff_ne]; omega
              have hg := HSTOP.out (by rw [part_else (by simpa using h1) (by simpa using h3)])
              have HG := Lib.hid hg
              clear hg HSTOP HGO h1 h3
              go_wp2_with fail
              go_ret2
              exact ⟨by rw [HV.out, HG.out]; rfl, hB⟩

    · obtain rfl : i = text.size + 1 := by omega
      have hg : G = some st := by
        rcases HI.out with ⟨h, _⟩ | ⟨_, h⟩
        · omega
        · exact h
      have HG := Lib.hid hg
      have hcn : (((text.size + 1 : Nat) : Int) ≤ (text.size : Int)) = False := by simp; omega
      clear hg HI hle
      go_wp2_with fail
      go_ret2
      exact ⟨by rw [HV.out, HG.out]; rfl, hB⟩
end Go.Proofs.YtdpcnbbaipdmjaaDoor
