/- text: plain lists: where a place of the row lies. -/
import Derived.Test.YtinlmodkdjpocaaTxM
set_option linter.unusedVariables false
namespace Go.Proofs.Ytinlmodkdjpocaa

theorem startsFrom_ge (n : Nat) (ds : List (List UInt8)) : ∀ x ∈ startsFrom n ds, n ≤ x := by
  induction ds generalizing n with
  | nil => intro x hx; cases hx
  | cons a ds ih =>
    intro x hx
    simp only [startsFrom, List.mem_cons] at hx
    rcases hx with rfl | hx
    · exact Nat.le_refl _
    · have := ih _ x hx; omega
theorem startsFrom_sorted (n : Nat) (ds : List (List UInt8)) : (startsFrom n ds).Pairwise (· ≤ ·) := by
  induction ds generalizing n with
  | nil => exact List.Pairwise.nil
  | cons a ds ih =>
    simp only [startsFrom, List.pairwise_cons]
    exact ⟨fun x hx => by have := startsFrom_ge _ _ x hx; omega, ih _⟩
theorem startsFrom_find (n : Nat) (ds : List (List UInt8)) (d o s x : Nat) (e : List UInt8) (hd : ds[d]? = some e) (ho : o ≤ e.length) (hs : (startsFrom n ds)[d]? = some s) (hx : x = s + o) :
    (startsFrom n ds).countP (fun y => decide (y < x)) = d + (if o = 0 then 0 else 1) ∧ (startsFrom n ds).contains x = decide (o = 0) := by
  induction ds generalizing n d with
  | nil => simp at hd
  | cons a ds ih =>
    cases d with
    | zero =>
      simp only [List.getElem?_cons_zero, Option.some.injEq, startsFrom] at hd hs
      subst hd; subst hs
      have hz : (startsFrom (n + a.length + 1) ds).countP (fun y => decide (y < x)) = 0 := by
        rw [List.countP_eq_zero]
        intro y hy
        have := startsFrom_ge _ _ y hy
        simp; omega
      have hc : x ∉ startsFrom (n + a.length + 1) ds := fun h => by have := startsFrom_ge _ _ x h; omega
      refine ⟨?_, ?_⟩
      · simp only [startsFrom, List.countP_cons, hz]
        by_cases h0 : o = 0 <;> simp [h0, hx] <;> omega
      · simp only [startsFrom, List.contains_cons]
        have : (startsFrom (n + a.length + 1) ds).contains x = false := by simpa using hc
        rw [this, hx]
        by_cases h0 : o = 0 <;> simp [h0]
    | succ d =>
      simp only [List.getElem?_cons_succ, startsFrom] at hd hs
      obtain ⟨h1, h2⟩ := ih _ d hd hs
      have hge : n + a.length + 1 ≤ s := startsFrom_ge _ _ s (List.mem_of_getElem? hs)
      refine ⟨?_, ?_⟩
      · simp only [startsFrom, List.countP_cons, h1]
        have : decide (n < x) = true := by simp; omega
        simp [this]; omega
      · simp only [startsFrom, List.contains_cons, h2]
        have : (x == n) = false := by simp; omega
        simp [this]
/-- where document d begins -/
def startAt (ds : List (List UInt8)) (d : Nat) : Nat := (rowOf (ds.take d)).length
theorem startsFrom_get (n : Nat) (ds : List (List UInt8)) (d : Nat) (hd : d < ds.length) : (startsFrom n ds)[d]? = some (n + startAt ds d) := by
  induction ds generalizing n d with
  | nil => exact absurd hd (Nat.not_lt_zero _)
  | cons a ds ih =>
    cases d with
    | zero => simp [startsFrom, startAt, rowOf]
    | succ d =>
      simp only [startsFrom, List.getElem?_cons_succ]
      rw [ih _ d (by simpa using hd)]
      simp [startAt, rowOf, symsOf]; omega
theorem startsOf_get (ds : List (List UInt8)) (d : Nat) (hd : d < ds.length) : (startsOf ds)[d]? = some (startAt ds d) := by
  have := startsFrom_get 0 ds d hd
  rwa [Nat.zero_add] at this
theorem startAt_succ (ds : List (List UInt8)) (d : Nat) (hd : d < ds.length) : startAt ds (d + 1) = startAt ds d + (ds[d].length + 1) := by
  unfold startAt
  rw [List.take_succ_eq_append_getElem hd, rowOf_snoc, List.length_append, symsOf_length]
theorem startAt_le (ds : List (List UInt8)) (d : Nat) (hd : d ≤ ds.length) : startAt ds d ≤ (rowOf ds).length := by
  have h : rowOf ds = rowOf (ds.take d) ++ rowOf (ds.drop d) := by simp only [rowOf, ← List.flatMap_append, List.take_append_drop]
  rw [h, List.length_append]; unfold startAt; omega
/-- the symbol at a document's place -/
theorem row_at (ds : List (List UInt8)) (d : Nat) (hd : d < ds.length) (o : Nat) (ho : o ≤ ds[d].length) : (rowOf ds)[startAt ds d + o]? = (symsOf ds[d])[o]? := by
  have h : rowOf ds = rowOf (ds.take d) ++ (symsOf ds[d] ++ rowOf (ds.drop (d + 1))) := by
    conv => lhs; rw [← List.take_append_drop d ds, List.drop_eq_getElem_cons hd]
    simp only [rowOf, List.flatMap_append, List.flatMap_cons]
  rw [h, List.getElem?_append_right (by unfold startAt; omega), List.getElem?_append_left (by rw [symsOf_length]; unfold startAt; omega)]
  congr 1; unfold startAt; omega
theorem symAt_of {row : List Nat} {i x : Nat} (h : row[i]? = some x) : symAt row (i : Int) = x := by
  obtain ⟨h1, h2⟩ := List.getElem?_eq_some_iff.1 h
  simp [symAt, h1, h2]
theorem symAt_past {row : List Nat} {i : Nat} (h : row.length ≤ i) : symAt row (i : Int) = -1 := by
  unfold symAt; rw [dif_neg (by simp; omega)]
theorem symAt_neg {row : List Nat} {i : Int} (h : i < 0) : symAt row i = -1 := by
  unfold symAt; rw [dif_neg (by omega)]
theorem row_sym (ds : List (List UInt8)) (d : Nat) (hd : d < ds.length) (o : Nat) (ho : o < ds[d].length) : symAt (rowOf ds) ((startAt ds d + o : Nat) : Int) = (ds[d][o].toNat + 1 : Nat) := by
  refine symAt_of ?_
  rw [row_at ds d hd o (by omega), symsOf, List.getElem?_append_left (by simpa using ho), List.getElem?_map, List.getElem?_eq_getElem ho]
  rfl
theorem row_end (ds : List (List UInt8)) (d : Nat) (hd : d < ds.length) : symAt (rowOf ds) ((startAt ds d + ds[d].length : Nat) : Int) = 0 := by
  have := symAt_of (row := rowOf ds) (i := startAt ds d + ds[d].length) (x := 0) (by
    rw [row_at ds d hd _ (Nat.le_refl _)]
    simp [symsOf])
  simpa using this
end Go.Proofs.Ytinlmodkdjpocaa
