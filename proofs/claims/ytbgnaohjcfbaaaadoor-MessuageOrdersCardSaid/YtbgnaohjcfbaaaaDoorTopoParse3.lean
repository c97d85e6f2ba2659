/- topo.Parse: what its loop keeps. -/
import Derived.Test.YtbgnaohjcfbaaaaDoorTopoParse
namespace Go.Proofs.YtbgnaohjcfbaaaaDoor
open Go.RowKit Go.Shelf
set_option linter.unusedVariables false
set_option linter.unusedSimpArgs false

def RowV.val (r : RowV) : Value := .slice r.a r.zs.length r.c
/-- The machine's block as it grows, the result's block, the rows. -/
structure LS (w wr : World) (rb g8 g2 : Nat) (N F : Int) (ca : Option Addr) (cc : Nat) (C : List Int) (rows : List RowV) (D : Option Addr) (d : Nat) : Prop where
  rd : ∃ cs, Blk wr rb 82 cs
  t8 : Blk wr g8 47 [.int .i64 N, .int .i64 F, .slice ca C.length cc, .slice D rows.length d]
  t2 : Blk wr g2 47 [.int .i64 0, .int .i64 0, .slice none 0 0, .slice none 0 0]
  c : wr.ownsRow w.heap.size 3 1 (.slice ca C.length cc) C.length (C.map (Value.int .i64))
  d : wr.ownsRow w.heap.size 23 1 (.slice D rows.length d) rows.length (rows.map RowV.val)
  rs : ∀ q ∈ rows, wr.ownsRow w.heap.size 3 1 (.slice q.a q.zs.length q.c) q.zs.length (q.zs.map (Value.int .i64))
  ne : g8 ≠ g2
section
variable {w wr w' : World} {rb g8 g2 cc d g cap : Nat} {N F : Int} {ca D : Option Addr} {C : List Int} {rows : List RowV} {q : RowV}
theorem LS.below (h : LS w wr rb g8 g2 N F ca cc C rows D d) (k : Below wr.heap.size wr w') : LS w w' rb g8 g2 N F ca cc C rows D d := by
  obtain ⟨cs, hr⟩ := h.rd
  exact ⟨⟨cs, hr.below k⟩, h.t8.below k, h.t2.below k, own_chV h.c (Ch.below k []) (by simp), own_chV h.d (Ch.below k []) (by simp), fun q hq => own_chV (h.rs q hq) (Ch.below k []) (by simp), h.ne⟩
/-- A call of the reader's. -/
theorem LS.call (h : LS w wr rb g8 g2 N F ca cc C rows D d) {cs : List Value} (hr : Blk w' rb 82 cs) (hc : Ch [rb] wr w') : LS w w' rb g8 g2 N F ca cc C rows D d := by
  obtain ⟨cs0, hr0⟩ := h.rd
  have key : ∀ {e s n : Nat} {v : Value} {xs : List Value}, wr.ownsRow w.heap.size e s v n xs → e ≠ 82 → w'.ownsRow w.heap.size e s v n xs := fun ho hne =>
    own_chV ho hc (fun i hi hm => by
      have := own_neV ho hr0 hne
      rw [List.mem_singleton] at hm
      subst hm
      exact this hi)
  exact ⟨⟨cs, hr⟩, h.t8.ch hc (by simpa using h.t8.ne_ hr0 (by decide)), h.t2.ch hc (by simpa using h.t2.ne_ hr0 (by decide)), key h.c (by decide), key h.d (by decide), fun q hq => key (h.rs q hq) (by decide), h.ne⟩
/-- A row more, ahead of its store. -/
theorem LS.push (h : LS w wr rb g8 g2 N F ca cc C rows D d) (hq : wr.ownsRow w.heap.size 3 1 (.slice q.a q.zs.length q.c) q.zs.length (q.zs.map (Value.int .i64)))
    (hg : wr.grownBy w' (Value.slice D rows.length d).ownBlock) (ho : w'.ownsRow w.heap.size 23 1 (.slice (some ⟨g, 0, none⟩) (rows.length + 1) cap) (rows.length + 1) (rows.map RowV.val ++ [q.val])) :
    LS w (w'.setCell ⟨g8, 3, none⟩ (.slice (some ⟨g, 0, none⟩) (rows.length + 1) cap)) rb g8 g2 N F ca cc C (rows ++ [q]) (some ⟨g, 0, none⟩) cap := by
  obtain ⟨cs0, hr0⟩ := h.rd
  have hc : Ch (Value.slice D rows.length d).ownBlock.toList wr w' := ch_grown hg (fun i hi => by rw [hi]; simp)
  have kb : ∀ {b : Nat} {t : TypeId} {cs : List Value}, Blk wr b t cs → 23 ≠ t → Blk w' b t cs := fun hb hne => hb.ch hc (fun hm => by rw [Option.mem_toList] at hm; exact own_neV h.d hb hne hm)
  have ko : ∀ {n : Nat} {v : Value} {xs : List Value}, wr.ownsRow w.heap.size 3 1 v n xs → w'.ownsRow w.heap.size 3 1 v n xs := fun hx => own_chV hx hc (fun i hi hm => by rw [Option.mem_toList] at hm; exact own_apart h.d hx (by decide) i hm hi)
  have h8 := kb h.t8 (by decide)
  have hs : Ch [g8] w' (w'.setCell ⟨g8, 3, none⟩ (.slice (some ⟨g, 0, none⟩) (rows.length + 1) cap)) := (Ch.refl [g8] w').set (p := ⟨g8, 3, none⟩) (by simp) _
  have ks : ∀ {e s n : Nat} {v : Value} {xs : List Value}, w'.ownsRow w.heap.size e s v n xs → e ≠ 47 → (w'.setCell ⟨g8, 3, none⟩ (.slice (some ⟨g, 0, none⟩) (rows.length + 1) cap)).ownsRow w.heap.size e s v n xs := fun hx hne =>
    own_chV hx hs (fun i hi hm => by rw [List.mem_singleton] at hm; subst hm; exact own_neV hx h8 hne hi)
  have hl : (rows ++ [q]).length = rows.length + 1 := by simp
  refine ⟨⟨cs0, (kb hr0 (by decide)).far (by exact (hr0.ne_ h.t8 (by decide))) _⟩, ?_, (kb h.t2 (by decide)).far (by exact (Ne.symm h.ne)) _, ks (ko h.c) (by decide), ?_, fun x hx => ?_, h.ne⟩
  · rw [hl]
    exact h8.set_ 3 _
  · rw [hl, List.map_append]
    exact ks ho (by decide)
  · rcases List.mem_append.1 hx with hx | hx
    · exact ks (ko (h.rs x hx)) (by decide)
    · rw [List.mem_singleton.1 hx]
      exact ks (ko hq) (by decide)
end
end Go.Proofs.YtbgnaohjcfbaaaaDoor
