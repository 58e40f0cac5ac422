/- text: plain lists: the places at which a text stands. -/
import Derived.Test.YtinlmodkdjpocaaTxM
import Derived.Lib.IndexLaws
set_option linter.unusedVariables false
namespace Go.Proofs.Ytinlmodkdjpocaa

/-- the places from a on at which p stands in d -/
def occF (p d : List UInt8) (a : Nat) : List Nat := (List.range' a (d.length + 1 - a)).filter (Lib.occAt d p)
def occ (p d : List UInt8) : List Nat := if p = [] then [] else occF p d 0

theorem occAt_len {d p : List UInt8} {i : Nat} (h : Lib.occAt d p i = true) : p.length ≤ d.length - i := by
  unfold Lib.occAt at h
  have := (List.isPrefixOf_iff_prefix.1 h).length_le
  simpa using this
theorem occAt_drop (d p : List UInt8) (a i : Nat) : Lib.occAt (d.drop a) p i = Lib.occAt d p (a + i) := by
  simp [Lib.occAt, List.drop_drop]

theorem index_spec (s sub : List UInt8) : (Lib.index s sub = -1 ∧ ∀ j, j ≤ s.length → Lib.occAt s sub j = false) ∨ ∃ i : Nat, Lib.index s sub = i ∧ i ≤ s.length ∧ Lib.occAt s sub i = true ∧ ∀ j, j < i → Lib.occAt s sub j = false := by
  by_cases h : ∃ i, i ≤ s.length ∧ Lib.occAt s sub i = true
  · right
    have : ∃ i, (i ≤ s.length ∧ Lib.occAt s sub i = true) ∧ ∀ j, j < i → ¬ (j ≤ s.length ∧ Lib.occAt s sub j = true) := by
      obtain ⟨i, hi⟩ := h
      induction i using Nat.strongRecOn with
      | ind i ih =>
        by_cases h2 : ∃ j, j < i ∧ (j ≤ s.length ∧ Lib.occAt s sub j = true)
        · obtain ⟨j, hj, hj2⟩ := h2
          exact ih j hj hj2
        · exact ⟨i, hi, fun j hj hj2 => h2 ⟨j, hj, hj2⟩⟩
    obtain ⟨i, ⟨h1, h2⟩, h3⟩ := this
    have h4 : ∀ j, j < i → Lib.occAt s sub j = false := fun j hj => by
      have := h3 j hj
      cases hb : Lib.occAt s sub j with
      | false => rfl
      | true => exact absurd ⟨by omega, hb⟩ this
    exact ⟨i, Lib.index_first h1 h2 h4, h1, h2, h4⟩
  · left
    have h4 : ∀ j, j ≤ s.length → Lib.occAt s sub j = false := fun j hj => by
      cases hb : Lib.occAt s sub j with
      | false => rfl
      | true => exact absurd ⟨j, hj, hb⟩ h
    exact ⟨Lib.index_none h4, h4⟩

theorem occF_step (p d : List UInt8) (a : Nat) (ha : a ≤ d.length) : (Lib.index (d.drop a) p = -1 ∧ occF p d a = []) ∨ ∃ i : Nat, Lib.index (d.drop a) p = i ∧ a + i ≤ d.length ∧ occF p d a = (a + i) :: occF p d (a + i + 1) := by
  rcases index_spec (d.drop a) p with ⟨h1, h2⟩ | ⟨i, h1, h2, h3, h4⟩
  · left
    refine ⟨h1, ?_⟩
    unfold occF
    rw [List.filter_eq_nil_iff]
    intro x hx
    rw [List.mem_range'_1] at hx
    have := h2 (x - a) (by simp; omega)
    rw [occAt_drop, show a + (x - a) = x from by omega] at this
    simp [this]
  · right
    simp only [List.length_drop] at h2
    refine ⟨i, h1, by omega, ?_⟩
    unfold occF
    rw [show d.length + 1 - a = i + (1 + (d.length + 1 - (a + i + 1))) from by omega, ← List.range'_append_1, ← List.range'_append_1, List.filter_append, List.filter_append]
    have e1 : (List.range' a i).filter (Lib.occAt d p) = [] := by
      rw [List.filter_eq_nil_iff]
      intro x hx
      rw [List.mem_range'_1] at hx
      have := h4 (x - a) (by omega)
      rw [occAt_drop, show a + (x - a) = x from by omega] at this
      simp [this]
    rw [e1]
    rw [occAt_drop] at h3
    simp [List.range'_one, h3]
theorem occF_past (p d : List UInt8) (a : Nat) (h : d.length < a + p.length) : occF p d a = [] := by
  unfold occF
  rw [List.filter_eq_nil_iff]
  intro x hx hb
  rw [List.mem_range'_1] at hx
  have := occAt_len hb
  omega

/-- all places of p in documents, the first document's number being i -/
def hitsF (p : List UInt8) : Nat → List (List UInt8) → List (Nat × Nat)
  | _, [] => []
  | i, d :: ds => (occ p d).map (fun a => (i, a)) ++ hitsF p (i + 1) ds
def hits (p : List UInt8) (ds : List (List UInt8)) : List (Nat × Nat) := hitsF p 0 ds
theorem hitsF_append (p : List UInt8) (i : Nat) (ds es : List (List UInt8)) : hitsF p i (ds ++ es) = hitsF p i ds ++ hitsF p (i + ds.length) es := by
  induction ds generalizing i with
  | nil => simp [hitsF]
  | cons d ds ih =>
    simp only [List.cons_append, hitsF, ih, List.append_assoc, List.length_cons]
    rw [show i + 1 + ds.length = i + (ds.length + 1) from by omega]
theorem hits_split (p : List UInt8) (ds : List (List UInt8)) (k : Nat) (h : k < ds.length) : hits p ds = hits p (ds.take k) ++ (occ p ds[k]).map (fun a => (k, a)) ++ hitsF p (k + 1) (ds.drop (k + 1)) := by
  have h1 : ds = ds.take k ++ (ds[k] :: ds.drop (k + 1)) := by
    rw [List.getElem_cons_drop, List.take_append_drop]
  have h2 : (ds.take k).length = k := by simp; omega
  conv => lhs; rw [hits, h1, hitsF_append, h2]
  simp only [hitsF, hits, Nat.zero_add, List.append_assoc]
theorem hits_take_succ (p : List UInt8) (ds : List (List UInt8)) (k : Nat) (h : k < ds.length) : hits p (ds.take (k + 1)) = hits p (ds.take k) ++ (occ p ds[k]).map (fun a => (k, a)) := by
  have h2 : (ds.take k).length = k := by simp; omega
  rw [List.take_succ_eq_append_getElem h, hits, hitsF_append, h2]
  simp [hitsF, hits]
theorem hits_get (p : List UInt8) (ds : List (List UInt8)) (k : Nat) (h : k < ds.length) (j : Nat) (hj : j < (occ p ds[k]).length) : (hits p ds)[(hits p (ds.take k)).length + j]? = some (k, (occ p ds[k])[j]) := by
  rw [hits_split p ds k h, List.append_assoc, List.getElem?_append_right (by omega), Nat.add_sub_cancel_left, List.getElem?_append_left (by simpa using hj)]
  simp [hj]
theorem hits_bound (p : List UInt8) (ds : List (List UInt8)) (k : Nat) (h : k < ds.length) : (hits p (ds.take k)).length + (occ p ds[k]).length ≤ (hits p ds).length := by
  conv => rhs; rw [hits_split p ds k h]
  simp only [List.length_append, List.length_map]
  omega
end Go.Proofs.Ytinlmodkdjpocaa
