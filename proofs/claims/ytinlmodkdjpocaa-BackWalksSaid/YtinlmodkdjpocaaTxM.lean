/- text: plain lists: the row of documents, where each begins. -/
import Derived.Test.YtinlmodkdjpocaaRep
set_option linter.unusedVariables false
namespace Go.Proofs.Ytinlmodkdjpocaa

/-- a document's symbols, a nought behind -/
def symsOf (d : List UInt8) : List Nat := d.map (fun b => b.toNat + 1) ++ [0]
def rowOf (ds : List (List UInt8)) : List Nat := ds.flatMap symsOf
/-- where each document begins -/
def startsFrom : Nat → List (List UInt8) → List Nat
  | _, [] => []
  | n, d :: ds => n :: startsFrom (n + d.length + 1) ds
def startsOf (ds : List (List UInt8)) : List Nat := startsFrom 0 ds
def symAt (row : List Nat) (i : Int) : Int := if h : 0 ≤ i ∧ i.toNat < row.length then (row[i.toNat] : Int) else -1

theorem symsOf_length (d : List UInt8) : (symsOf d).length = d.length + 1 := by simp [symsOf]
theorem rowOf_le (ds : List (List UInt8)) : ∀ x ∈ rowOf ds, x ≤ 256 := by
  intro x hx
  simp only [rowOf, List.mem_flatMap, symsOf, List.mem_append, List.mem_map, List.mem_singleton] at hx
  obtain ⟨d, _, ⟨b, _, rfl⟩ | rfl⟩ := hx
  · have := b.toNat_lt; omega
  · omega
theorem rowOf_snoc (ds : List (List UInt8)) (d : List UInt8) : rowOf (ds ++ [d]) = rowOf ds ++ symsOf d := by simp [rowOf]
theorem startsFrom_snoc (n : Nat) (ds : List (List UInt8)) (d : List UInt8) : startsFrom n (ds ++ [d]) = startsFrom n ds ++ [n + (rowOf ds).length] := by
  induction ds generalizing n with
  | nil => simp [startsFrom, rowOf]
  | cons a ds ih => simp [startsFrom, ih, rowOf, symsOf]; omega
theorem startsOf_snoc (ds : List (List UInt8)) (d : List UInt8) : startsOf (ds ++ [d]) = startsOf ds ++ [(rowOf ds).length] := by
  simp [startsOf, startsFrom_snoc]
theorem startsFrom_length (n : Nat) (ds : List (List UInt8)) : (startsFrom n ds).length = ds.length := by
  induction ds generalizing n with
  | nil => rfl
  | cons a ds ih => simp [startsFrom, ih]
theorem startsOf_length (ds : List (List UInt8)) : (startsOf ds).length = ds.length := startsFrom_length 0 ds
end Go.Proofs.Ytinlmodkdjpocaa
