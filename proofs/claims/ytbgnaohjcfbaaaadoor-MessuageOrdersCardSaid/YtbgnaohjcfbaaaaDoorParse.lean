/- Package nodeset (layer 1): node, part, Parse. -/
import Derived.Test.YtbgnaohjcfbaaaaDoorSplit
import Derived.Test.YtbgnaohjcfbaaaaDoorSets
namespace Go.Proofs.YtbgnaohjcfbaaaaDoor
open Go.RowKit Go.Shelf
set_option linter.unusedVariables false
set_option linter.unusedSimpArgs false
attribute [local go_sem] World.cell?_alloc_lt

/-- The node of a byte. -/
def nodeN (b : UInt8) : Int := (b.toNat : Int) - 48
def okNode (b : UInt8) : Bool := decide (48 ≤ b.toNat ∧ b.toNat < 56)
theorem node_any (b : UInt8) (w : World) : Calls Tryd.prog 66 #[.int .u8 (b.toNat : Int)] w fun e w' => e = .returned (.tuple #[.int .i64 (nodeN b), .bool (okNode b)]) ∧ w = w' := by
  have hb : b.toNat < 256 := UInt8.toNat_lt b
  have hr := right_at (nodeN b)
  rw [show decide (0 ≤ nodeN b ∧ nodeN b < 8) = okNode b from by unfold nodeN okNode; rw [decide_eq_decide]; omega] at hr
  have HR := Lib.hid hr
  clear hr
  unfold nodeN at *
  generalize okNode b = ok at *
  generalize b.toNat = n at *
  go_enter Tryd.func66, Tryd.ntmps66
  go_wp2_with fail
  refine (HR.out _).mono ?_; rintro e w1 ⟨rfl, rfl⟩
  go_wp2_with fail
  go_ret2
  exact ⟨rfl, rfl⟩
/-- What part reads: the lower, the higher node; is it one? -/
def partR : List UInt8 → Int × Int × Bool
  | [a] => (nodeN a, nodeN a, okNode a)
  | [a, b, c] => if b = 45 then (nodeN a, nodeN c, okNode a && okNode c && decide (nodeN a ≤ nodeN c)) else (0, 0, false)
  | _ => (0, 0, false)
def partT (l : List UInt8) : Value := .tuple #[.int .i64 (partR l).1, .int .i64 (partR l).2.1, .bool (partR l).2.2]
theorem part_else {l : List UInt8} (h1 : l.length ≠ 1) (h3 : l.length ≠ 3) : partR l = (0, 0, false) := by
  match l with
  | [] => rfl
  | [a] => simp at h1
  | [a, b] => rfl
  | [a, b, c] => simp at h3
  | a :: b :: c :: d :: t => rfl
set_option maxRecDepth 100000 in
set_option maxHeartbeats 2000000 in
theorem part_any (p : ByteArray) (w : World) : Calls Tryd.prog 48 #[.string p] w fun e w' => e = .returned (partT p.data.toList) ∧ w = w' := by
  by_cases h1 : p.size = 1
  · obtain ⟨a, rfl⟩ : ∃ a, p = ⟨#[a]⟩ := by
      obtain ⟨⟨l⟩⟩ := p
      match l, h1 with
      | [a], _ => exact ⟨a, rfl⟩
    have hn := node_any a
    have HN := Lib.hid hn
    have he : partT [a] = .tuple #[.int .i64 (nodeN a), .int .i64 (nodeN a), .bool (okNode a)] := rfl
    have HE := Lib.hid he
    clear h1 hn he
    generalize hok : okNode a = ok at *
    generalize hnn : nodeN a = na at *
    have HO := Lib.hid hok; have HM := Lib.hid hnn
    clear hok hnn
    go_enter Tryd.func48, Tryd.ntmps48
    go_wp2_with fail
    refine (HN.out _).mono ?_; rintro e w1 ⟨rfl, rfl⟩
    go_wp2_with fail
    go_ret3
    exact ⟨by rw [HE.out]; rfl, rfl⟩
  · by_cases h3 : p.size = 3
    · obtain ⟨a, b, c, rfl⟩ : ∃ a b c, p = ⟨#[a, b, c]⟩ := by
        obtain ⟨⟨l⟩⟩ := p
        match l, h3 with
        | [a, b, c], _ => exact ⟨a, b, c, rfl⟩
      clear h1 h3
      by_cases hb : b = 45
      · subst hb
        have hna := node_any a
        have hnc := node_any c
        have he : partT [a, 45, c] = .tuple #[.int .i64 (nodeN a), .int .i64 (nodeN c), .bool (okNode a && okNode c && decide (nodeN a ≤ nodeN c))] := rfl
        have HA := Lib.hid hna; have HC := Lib.hid hnc; have HE := Lib.hid he
        clear hna hnc he
        generalize okNode a = oka at *
        generalize okNode c = okc at *
        generalize nodeN a = na at *
        generalize nodeN c = nc at *
        cases oka with
        | false =>
          go_enter Tryd.func48, Tryd.ntmps48
          go_wp2_with fail
          refine (HA.out _).mono ?_; rintro e w1 ⟨rfl, rfl⟩
          go_wp2_with fail
          refine (HC.out _).mono ?_; rintro e w1 ⟨rfl, rfl⟩
          go_wp2_with fail
          go_ret3
          exact ⟨by rw [HE.out]; rfl, rfl⟩
        | true =>
          cases okc with
          | false =>
            go_enter Tryd.func48, Tryd.ntmps48
            go_wp2_with fail
            refine (HA.out _).mono ?_; rintro e w1 ⟨rfl, rfl⟩
            go_wp2_with fail
            refine (HC.out _).mono ?_; rintro e w1 ⟨rfl, rfl⟩
            go_wp2_with fail
            go_ret3
            exact ⟨by rw [HE.out]; rfl, rfl⟩
          | true =>
            go_enter Tryd.func48, Tryd.ntmps48
            go_wp2_with fail
            refine (HA.out _).mono ?_; rintro e w1 ⟨rfl, rfl⟩
            go_wp2_with fail
            refine (HC.out _).mono ?_; rintro e w1 ⟨rfl, rfl⟩
            go_wp2_with fail
            go_ret3
            exact ⟨by rw [HE.out]; simp, rfl⟩
      · have he : partT [a, b, c] = .tuple #[.int .i64 0, .int .i64 0, .bool false] := by
          unfold partT partR
          simp only [if_neg hb]
        have hbe : ((b.toNat : Int) == 45) = false := by
          rw [beq_eq_false_iff_ne]
          intro h
          apply hb
          apply UInt8.toNat_inj.1
          show b.toNat = 45
          omega
        have hbe2 : ∀ (h : 1 < (⟨#[a, b, c]⟩ : ByteArray).size), ((((⟨#[a, b, c]⟩ : ByteArray)[1]'h).toNat : Int) == 45) = false := fun _ => hbe
        have HE := Lib.hid he
        clear he hb
        go_enter Tryd.func48, Tryd.ntmps48
        go_wp2_with fail
        go_ret3
        exact ⟨by rw [HE.out]; rfl, rfl⟩
    · have he : partT p.data.toList = .tuple #[.int .i64 0, .int .i64 0, .bool false] := by
        unfold partT
        rw [part_else (by simpa using h1) (by simpa using h3)]
      have e1 : ((p.size : Int) == 1) = false := by rw [beq_eq_false_iff_ne]; omega
      have e3 : ((p.size : Int) == 3) = false := by rw [beq_eq_false_iff_ne]; omega
      have HE := Lib.hid he
      clear he h1 h3
      go_enter Tryd.func48, Tryd.ntmps48
      go_wp2_with fail
      go_ret3
      exact ⟨by rw [HE.out]; rfl, rfl⟩
end Go.Proofs.YtbgnaohjcfbaaaaDoor
