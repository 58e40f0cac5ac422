/- Plain lists: the rows that steps have gone through. -/
import Derived.Test.YtinlmodkdjpocaaQpl
set_option linter.unusedVariables false
namespace Go.Proofs.Ytinlmodkdjpocaa

/-- gone through: the documents ahead of d, and of document d the places from o on -/
def visP (ds : List (List UInt8)) (d o p : Nat) : Bool := decide (p < startAt ds d ∨ (startAt ds d + o ≤ p ∧ p < startAt ds (d + 1)))
def seenL (ds : List (List UInt8)) (d o : Nat) : List Bool := (saOf (rowOf ds)).map (visP ds d o)
theorem seenL_length (ds : List (List UInt8)) (d o : Nat) : (seenL ds d o).length = (rowOf ds).length := by
  unfold seenL; rw [List.length_map, saOf_length (rowOk_rowOf ds)]
theorem seenL_start (ds : List (List UInt8)) : seenL ds 0 ((ds.getD 0 []).length + 1) = List.replicate (rowOf ds).length false := by
  apply List.ext_getElem
  · rw [seenL_length]; simp
  · intro i h1 h2
    simp only [seenL, List.getElem_map, List.getElem_replicate, visP]
    rw [decide_eq_false_iff_not]
    have h0 : startAt ds 0 = 0 := by simp [startAt, rowOf]
    rw [h0]
    rintro (h | ⟨h3, h4⟩)
    · omega
    · cases ds with
      | nil => simp [startAt, rowOf] at h4
      | cons d ds =>
        have := startAt_succ (d :: ds) 0 (by simp)
        simp at this h3 h4
        omega
theorem seenL_next (ds : List (List UInt8)) (d : Nat) (hd : d < ds.length) (o : Nat) : seenL ds d 0 = seenL ds (d + 1) ((ds.getD (d + 1) []).length + 1) := by
  unfold seenL
  apply List.map_congr_left
  intro p _
  unfold visP
  have h := startAt_succ ds d hd
  have hmo : startAt ds (d + 1) + (ds.getD (d + 1) []).length + 1 ≥ startAt ds (d + 1 + 1) := by
    by_cases h2 : d + 1 < ds.length
    · have g : ds.getD (d + 1) [] = ds[d + 1] := by simp [List.getD, h2]
      rw [g, startAt_succ ds (d + 1) h2]; omega
    · have e : startAt ds (d + 1 + 1) = startAt ds (d + 1) := by
        unfold startAt
        rw [List.take_of_length_le (by omega), List.take_of_length_le (by omega)]
      omega
  rw [Bool.eq_iff_iff, decide_eq_true_iff, decide_eq_true_iff]
  constructor
  · rintro (h3 | ⟨h3, h4⟩)
    · left; omega
    · left; exact h4
  · rintro (h3 | ⟨h3, h4⟩)
    · by_cases h5 : p < startAt ds d
      · exact .inl h5
      · exact .inr ⟨by omega, h3⟩
    · omega
theorem seenL_not (ds : List (List UInt8)) (d : Nat) (hd : d < ds.length) (o : Nat) (ho : o ≤ ds[d].length) : (seenL ds d (o + 1))[idxP (rowOf ds) (startAt ds d + o)]? = some false := by
  have hp := place_lt ds d hd o ho
  obtain ⟨h1, h2⟩ := (saOf_is (rowOk_rowOf ds)).get_idx (rowOk_rowOf ds) _ hp
  unfold seenL
  rw [List.getElem?_map, List.getElem?_eq_getElem h1, h2]
  simp only [Option.map_some, visP]
  rw [decide_eq_false (by omega)]
theorem seenL_set (ds : List (List UInt8)) (d : Nat) (hd : d < ds.length) (o : Nat) (ho : o ≤ ds[d].length) : (seenL ds d (o + 1)).set (idxP (rowOf ds) (startAt ds d + o)) true = seenL ds d o := by
  have hp := place_lt ds d hd o ho
  have hsa := saOf_is (rowOk_rowOf ds)
  obtain ⟨h1, h2⟩ := hsa.get_idx (rowOk_rowOf ds) _ hp
  have hss := startAt_succ ds d hd
  apply List.ext_getElem
  · rw [List.length_set, seenL_length, seenL_length]
  · intro i h3 h4
    rw [List.getElem_set]
    have hi : i < (saOf (rowOf ds)).length := by rw [seenL_length] at h4; rw [saOf_length (rowOk_rowOf ds)]; exact h4
    by_cases e : idxP (rowOf ds) (startAt ds d + o) = i
    · rw [if_pos e]
      simp only [seenL, List.getElem_map, visP]
      subst e
      rw [h2, decide_eq_true (by omega)]
    · rw [if_neg e]
      simp only [seenL, List.getElem_map, visP]
      have hne : (saOf (rowOf ds))[i] ≠ startAt ds d + o := by
        intro h5
        apply e
        rw [← h5]
        exact hsa.idx_get (rowOk_rowOf ds) i hi
      rw [Bool.eq_iff_iff, decide_eq_true_iff, decide_eq_true_iff]
      omega
end Go.Proofs.Ytinlmodkdjpocaa
