/- messuageref03.Same, of machines that are the same. -/
import Derived.Test.YtcanhegjhbhkhaaDoorTopoText3
namespace Go.Proofs.YtcanhegjhbhkhaaDoor
open Go.RowKit Go.Shelf
set_option linter.unusedVariables false
set_option linter.unusedSimpArgs false
attribute [local go_sem] World.cell?_alloc_lt

/-- What Same keeps. -/
structure SmS (w wr : World) (N F : Int) (ca ca' da da' : Option Addr) (cc cc' dc dc' nc nd : Nat) : Prop where
  b2 : Blk wr w.heap.size 48 [.int .i64 N, .int .i64 F, .slice ca nc cc, .slice da nd dc]
  b3 : Blk wr (w.heap.size + 1) 48 [.int .i64 N, .int .i64 F, .slice ca' nc cc', .slice da' nd dc']
  bel : Below w.heap.size w wr
theorem SmS.below {w wr w' : World} {N F : Int} {ca ca' da da' : Option Addr} {cc cc' dc dc' nc nd : Nat} (h : SmS w wr N F ca ca' da da' cc cc' dc dc' nc nd) (k : Below wr.heap.size wr w') : SmS w w' N F ca ca' da da' cc cc' dc dc' nc nd := ⟨h.b2.below k, h.b3.below k, bel_trans h.bel k⟩
set_option maxRecDepth 100000 in
set_option maxHeartbeats 4000000 in
theorem same_any (a b : TopoV) (w : World) (ha : InTopo w a) (hb : InTopo w b) (hs : sameT a b) : Calls Tryd.prog 33 #[a.val, b.val] w fun e w' => e = .returned (.bool true) ∧ Below w.heap.size w w' := by
  obtain ⟨N, F, ca, cc, cs, da, dc, ds⟩ := a
  obtain ⟨N', F', ca', cc', cs', da', dc', ds'⟩ := b
  obtain ⟨h1, h2, h3, h4⟩ := hs
  simp only at h1 h2 h3 h4
  subst h1 h2 h3
  have hdl : ds.length = ds'.length := by
    have := congrArg List.length h4
    rw [List.length_map, List.length_map] at this
    exact this
  have hzs : ∀ (i : Nat) (r r' : RowV), ds[i]? = some r → ds'[i]? = some r' → r.zs = r'.zs := by
    intro i r r' e1 e2
    have := congrArg (fun l => l[i]?) h4
    simp only [List.getElem?_map, e1, e2, Option.map_some, Option.some.injEq] at this
    exact this
  have hcA := ha.c
  have hcB := hb.c
  have hdA := ha.d
  have hdB := hb.d
  obtain ⟨nd, hnd⟩ : ∃ nd, ds.length = nd := ⟨_, rfl⟩
  have hnd' : ds'.length = nd := hdl ▸ hnd
  rw [hnd] at hdA
  rw [hnd'] at hdB
  have hd63 : nd ≤ 9223372036854775807 := by rw [← hnd]; exact ha.d63
  simp only [TopoV.val]
  rw [hnd, hnd']
  have hS0 : SmS w ((w.alloc (.cells #[.int .i64 N, .int .i64 F, .slice ca cs.length cc, .slice da nd dc] 48)).alloc (.cells #[.int .i64 N, .int .i64 F, .slice ca' cs.length cc', .slice da' nd dc'] 48)) N F ca ca' da da' cc cc' dc dc' cs.length nd := by
    refine ⟨(Blk.new w 48 [.int .i64 N, .int .i64 F, .slice ca cs.length cc, .slice da nd dc]).alloc _, ?_, bel_alloc (bel_alloc (Below.refl _ _) _) _⟩
    have := Blk.new (w.alloc (.cells #[.int .i64 N, .int .i64 F, .slice ca cs.length cc, .slice da nd dc] 48)) 48 [.int .i64 N, .int .i64 F, .slice ca' cs.length cc', .slice da' nd dc']
    rw [show (w.alloc (.cells #[.int .i64 N, .int .i64 F, .slice ca cs.length cc, .slice da nd dc] 48)).heap.size = w.heap.size + 1 by simp] at this
    exact this
  have HS0 := Lib.hid hS0; have HCA := Lib.hid hcA; have HCB := Lib.hid hcB; have HDA := Lib.hid hdA; have HDB := Lib.hid hdB; have HZ := Lib.hid hzs
  have hc63 : cs.length ≤ 9223372036854775807 := ha.c63
  clear hS0 hcA hcB hdA hdB hzs hdl h4 ha hb hnd hnd'
  go_enter Tryd.func33, Tryd.ntmps33
  go_upto_region 1 with fail
  generalize (w.alloc (.cells #[.int .i64 N, .int .i64 F, .slice ca cs.length cc, .slice da nd dc] 48)).alloc (.cells #[.int .i64 N, .int .i64 F, .slice ca' cs.length cc', .slice da' nd dc'] 48) = wA at *
  have a0 := HS0.out.b2.at_ (i := 0) rfl
  have a1 := HS0.out.b2.at_ (i := 1) rfl
  have a2 := HS0.out.b2.at_ (i := 2) rfl
  have a3 := HS0.out.b2.at_ (i := 3) rfl
  have c0 := HS0.out.b3.at_ (i := 0) rfl
  have c1 := HS0.out.b3.at_ (i := 1) rfl
  have c2 := HS0.out.b3.at_ (i := 2) rfl
  have c3 := HS0.out.b3.at_ (i := 3) rfl
  go_wp2_with fail
  go_loopw [5] (fun v wr => ∃ i : Nat, i ≤ cs.length ∧ v = .int .i64 (i : Int) ∧ SmS w wr N F ca ca' da da' cc cc' dc dc' cs.length nd) (fun v _ => cs.length - (intOf v).toNat)
  case atStart => exact ⟨0, by omega, rfl, HS0.out⟩
  case round =>
    clear HS0 a0 a1 a2 a3 c0 c1 c2 c3
    obtain ⟨i, hi, rfl, hS⟩ := hrel
    have HS := Lib.hid hS; clear hS
    have a2 := HS.out.b2.at_ (i := 2) rfl
    have a3 := HS.out.b2.at_ (i := 3) rfl
    have c2 := HS.out.b3.at_ (i := 2) rfl
    have c3 := HS.out.b3.at_ (i := 3) rfl
    by_cases hlt : i < cs.length
    · obtain ⟨b, off, rfl, hb, hc⟩ := HCA.out.get hlt
      obtain ⟨b', off', rfl, hb', hc'⟩ := HCB.out.get hlt
      have kv := (HS.out.bel.cell (p := ⟨b, off + i, none⟩) hb).trans hc
      have kv' := (HS.out.bel.cell (p := ⟨b', off' + i, none⟩) hb').trans hc'
      have hx := fun w => idxI b off cs.length cc i hlt w
      have hx' := fun w => idxI b' off' cs.length cc' i hlt w
      clear hc hc'
      generalize cs.getD i 0 = x at *
      go_upto_region 6 with fail
      go_quiet (fail)
      have HS2 := Lib.hid (HS.out.below (bel_drewN (Below.refl _ wr) nq))
      clear HS
      go_wp2_with fail
      go_roundw
      case rel => exact ⟨i + 1, by omega, by go_num, HS2.out⟩
      case measure => simp [intOf]; omega
    · obtain rfl : i = cs.length := by omega
      go_wp2_with fail
      go_loopw [6] (fun v wr => ∃ i : Nat, i ≤ nd ∧ v = .int .i64 (i : Int) ∧ SmS w wr N F ca ca' da da' cc cc' dc dc' cs.length nd) (fun v _ => nd - (intOf v).toNat)
      case atStart => exact ⟨0, by omega, rfl, HS.out⟩
      case round =>
        clear HS a2 a3 c2 c3
        obtain ⟨i, hi, rfl, hS⟩ := hrel
        have HS := Lib.hid hS; clear hS
        have a3 := HS.out.b2.at_ (i := 3) rfl
        have c3 := HS.out.b3.at_ (i := 3) rfl
        by_cases hlt : i < nd
        · obtain ⟨b, off, r, rfl, hb, hri, hc, hI, h63⟩ := HDA.out.get hlt
          obtain ⟨b', off', r', rfl, hb', hri', hc', hI', _⟩ := HDB.out.get hlt
          have hz := HZ.out i r r' hri hri'
          rw [← hz] at hc' hI'
          have kv := (HS.out.bel.cell (p := ⟨b, off + i, none⟩) hb).trans hc
          have kv' := (HS.out.bel.cell (p := ⟨b', off' + i, none⟩) hb').trans hc'
          have hx := fun w => idx_rows b off nd dc i hlt w
          have hx' := fun w => idx_rows b' off' nd dc' i hlt w
          have HI := Lib.hid hI; have HI' := Lib.hid hI'; have HC := Lib.hid hc; have HC' := Lib.hid hc'
          clear hc hc' hri hri' hz hI hI'
          generalize r.zs = zs at *
          generalize r.a = ra at *
          generalize r.c = rc at *
          generalize r'.a = ra' at *
          generalize r'.c = rc' at *
          go_upto_region 11 with fail
          go_quiet (fail)
          have HS2 := Lib.hid (HS.out.below (bel_drewN (Below.refl _ wr) nq))
          clear HS kv kv' a3 c3
          generalize wr.drewN nq = w3 at *
          go_wp2_with fail
          go_loopw [7] (fun v wx => ∃ k : Nat, k ≤ zs.length ∧ v = .int .i64 (k : Int) ∧ SmS w wx N F ca ca' (some ⟨b, off, none⟩) (some ⟨b', off', none⟩) cc cc' dc dc' cs.length nd) (fun v _ => zs.length - (intOf v).toNat)
          case atStart => exact ⟨0, by omega, rfl, HS2.out⟩
          case round =>
            clear HS2
            obtain ⟨k, hk, rfl, hS⟩ := hrel
            have HS := Lib.hid hS; clear hS
            have a3 := HS.out.b2.at_ (i := 3) rfl
            have c3 := HS.out.b3.at_ (i := 3) rfl
            have kv := (HS.out.bel.cell (p := ⟨b, off + i, none⟩) hb).trans HC.out
            have kv' := (HS.out.bel.cell (p := ⟨b', off' + i, none⟩) hb').trans HC'.out
            by_cases hkl : k < zs.length
            · obtain ⟨e, eo, rfl, heb, hec⟩ := HI.out.get hkl
              obtain ⟨e', eo', rfl, heb', hec'⟩ := HI'.out.get hkl
              have kw := (HS.out.bel.cell (p := ⟨e, eo + k, none⟩) heb).trans hec
              have kw' := (HS.out.bel.cell (p := ⟨e', eo' + k, none⟩) heb').trans hec'
              have hy := fun w => idxI e eo zs.length rc k hkl w
              have hy' := fun w => idxI e' eo' zs.length rc' k hkl w
              clear hec hec'
              generalize zs.getD k 0 = x at *
              go_upto_region 16 with fail
              go_quiet (fail)
              have HS2 := Lib.hid (HS.out.below (bel_drewN (Below.refl _ wr) nq))
              clear HS
              go_wp2_with fail
              go_roundw
              case rel => exact ⟨k + 1, by omega, by go_num, HS2.out⟩
              case measure => simp [intOf]; omega
            · obtain rfl : k = zs.length := by omega
              go_wp2_with fail
              go_roundw
              case rel => exact ⟨i + 1, by omega, by go_num, HS.out⟩
              case measure => simp [intOf]; omega
        · obtain rfl : i = nd := by omega
          have HB := Lib.hid HS.out.bel
          clear HS
          go_wp2_with fail
          go_ret
          exact ⟨rfl, HB.out⟩
end Go.Proofs.YtcanhegjhbhkhaaDoor
