/- Rules as texts: plain laws. -/
import Derived.Test.YtdpcnbbaipdmjaaDoorNodesetParses
namespace Go.Proofs.YtdpcnbbaipdmjaaDoor
open Go.RowKit Go.Shelf
set_option linter.unusedVariables false
set_option linter.unusedSimpArgs false

def memL : List UInt8 := [109, 101, 109, 98, 105, 110, 100, 61]
def intL : List UInt8 := [105, 110, 116, 101, 114, 108, 101, 97, 118, 101, 61]
def preL3 : List UInt8 := [112, 114, 101, 102, 101, 114, 114, 101, 100, 61]
def locB : ByteArray := ⟨#[108, 111, 99, 97, 108]⟩
structure Pol where
  m : Int
  s : Nat
  n : Int
  deriving DecidableEq
def Pol.v (p : Pol) : Value := .agg #[.int .i64 p.m, .int .u8 (p.s : Int), .int .i64 p.n]
/-- A set's text, as a policy's. -/
def setR (m : Int) (t : ByteArray) : Option Pol := match parseO t with
  | some s => if s = 0 then none else some ⟨m, s, 0⟩
  | none => none
def nodeR (t : List UInt8) : Option Pol := match t with
  | [b] => if okNode b = true then some ⟨3, 0, nodeN b⟩ else none
  | _ => none
def ruleO (t : ByteArray) : Option Pol :=
  if t = locB then some ⟨0, 0, 0⟩
  else if Lib.hasPrefix t.data.toList memL = true then setR 1 (bytesOf (t.data.toList.drop 8))
  else if Lib.hasPrefix t.data.toList intL = true then setR 2 (bytesOf (t.data.toList.drop 11))
  else if Lib.hasPrefix t.data.toList preL3 = true then nodeR (t.data.toList.drop 10)
  else none
theorem pre_first {l p : List UInt8} {x : UInt8} (h : Lib.hasPrefix l (x :: p) = true) : ∃ t, l = x :: t := by
  unfold Lib.hasPrefix at h
  cases l with
  | nil => simp at h
  | cons y t =>
    simp only [List.isPrefixOf, Bool.and_eq_true, beq_iff_eq] at h
    exact ⟨t, by rw [h.1]⟩
theorem loc_first {t : ByteArray} (h : t = locB) : ∃ r, t.data.toList = 108 :: r := ⟨_, by rw [h]; rfl⟩
theorem pre_drop {l p : List UInt8} (h : Lib.hasPrefix l p = true) : Lib.trimPrefix l p = l.drop p.length := by
  unfold Lib.trimPrefix
  rw [if_pos h]
theorem parseO_lt {t : ByteArray} {s : Nat} (h : parseO t = some s) : s < 256 := by
  unfold parseO at h
  split at h
  · injection h with h; omega
  · exact foldP_lt _ 0 s (by omega) h
theorem pre_cut {l p : List UInt8} : Lib.hasPrefix l p = true ↔ l.take p.length = p := by
  unfold Lib.hasPrefix
  rw [List.isPrefixOf_iff_prefix, List.prefix_iff_eq_take]
  exact ⟨fun h => h.symm, fun h => h.symm⟩
theorem pre_append (p x : List UInt8) : Lib.hasPrefix (p ++ x) p = true := by
  unfold Lib.hasPrefix
  rw [List.isPrefixOf_iff_prefix]
  exact List.prefix_append p x
end Go.Proofs.YtdpcnbbaipdmjaaDoor
