/- text: plain lists: the row of documents, where each begins. text: plain lists: the places at which a text stands. text: plain lists: where a place of the row lies. -/
import Derived.Test.YtinlmodkdjpocaaGen
import Derived.Lib.IndexLaws
set_option linter.unusedVariables false
namespace Go.Proofs.Ytinlmodkdjpocaa

/-- a document's symbols, a nought behind -/
def symsOf (d : List UInt8) : List Nat := d.map (fun b => b.toNat + 1) ++ [0]
def rowOf (ds : List (List UInt8)) : List Nat := ds.flatMap symsOf
/-- where each document begins -/
def startsFrom : Nat → List (List UInt8) → List Nat
  | _, [] => []
  | n, d :: ds => n :: startsFrom (n + d.length + 1) ds
def startsOf (ds : List (List UInt8)) : List Nat := startsFrom 0 ds
def symAt (row : List Nat) (i : Int) : Int := if h : 0 ≤ i ∧ i.toNat < row.length then (row[i.toNat] : Int) else -1

theorem symsOf_length (d : List UInt8) : (symsOf d).length = d.length + 1 := by simp [symsOf]
theorem rowOf_le (ds : List (List UInt8)) : ∀ x ∈ rowOf ds, x ≤ 256 := by
  intro x hx
  simp only [rowOf, List.mem_flatMap, symsOf, List.mem_append, List.mem_map, List.mem_singleton] at hx
  obtain ⟨d, _, ⟨b, _, rfl⟩ | rfl⟩ := hx
  · have := b.toNat_lt; omega
  · omega
theorem rowOf_snoc (ds : List (List UInt8)) (d : List UInt8) : rowOf (ds ++ [d]) = rowOf ds ++ symsOf d := by simp [rowOf]
theorem startsFrom_snoc (n : Nat) (ds : List (List UInt8)) (d : List UInt8) : startsFrom n (ds ++ [d]) = startsFrom n ds ++ [n + (rowOf ds).length] := by
  induction ds generalizing n with
  | nil => simp [startsFrom, rowOf]
  | cons a ds ih => simp [startsFrom, ih, rowOf, symsOf]; omega
theorem startsOf_snoc (ds : List (List UInt8)) (d : List UInt8) : startsOf (ds ++ [d]) = startsOf ds ++ [(rowOf ds).length] := by
  simp [startsOf, startsFrom_snoc]
theorem startsFrom_length (n : Nat) (ds : List (List UInt8)) : (startsFrom n ds).length = ds.length := by
  induction ds generalizing n with
  | nil => rfl
  | cons a ds ih => simp [startsFrom, ih]
theorem startsOf_length (ds : List (List UInt8)) : (startsOf ds).length = ds.length := startsFrom_length 0 ds
end Go.Proofs.Ytinlmodkdjpocaa

set_option linter.unusedVariables false
namespace Go.Proofs.Ytinlmodkdjpocaa

/-- the places from a on at which p stands in d -/
def occF (p d : List UInt8) (a : Nat) : List Nat := (List.range' a (d.length + 1 - a)).filter (Lib.occAt d p)
def occ (p d : List UInt8) : List Nat := if p = [] then [] else occF p d 0

theorem occAt_len {d p : List UInt8} {i : Nat} (h : Lib.occAt d p i = true) : p.length ≤ d.length - i := by
  unfold Lib.occAt at h
  have := (List.isPrefixOf_iff_prefix.1 h).length_le
  simpa using this
theorem occAt_drop (d p : List UInt8) (a i : Nat) : Lib.occAt (d.drop a) p i = Lib.occAt d p (a + i) := by
  simp [Lib.occAt, List.drop_drop]

theorem index_spec (s sub : List UInt8) : (Lib.index s sub = -1 ∧ ∀ j, j ≤ s.length → Lib.occAt s sub j = false) ∨ ∃ i : Nat, Lib.index s sub = i ∧ i ≤ s.length ∧ Lib.occAt s sub i = true ∧ ∀ j, j < i → Lib.occAt s sub j = false := by
  by_cases h : ∃ i, i ≤ s.length ∧ Lib.occAt s sub i = true
  · right
    have : ∃ i, (i ≤ s.length ∧ Lib.occAt s sub i = true) ∧ ∀ j, j < i → ¬ (j ≤ s.length ∧ Lib.occAt s sub j = true) := by
      obtain ⟨i, hi⟩ := h
      induction i using Nat.strongRecOn with
      | ind i ih =>
        by_cases h2 : ∃ j, j < i ∧ (j ≤ s.length ∧ Lib.occAt s sub j = true)
        · obtain ⟨j, hj, hj2⟩ := h2
          exact ih j hj hj2
        · exact ⟨i, hi, fun j hj hj2 => h2 ⟨j, hj, hj2⟩⟩
    obtain ⟨i, ⟨h1, h2⟩, h3⟩ := this
    have h4 : ∀ j, j < i → Lib.occAt s sub j = false := fun j hj => by
      have := h3 j hj
      cases hb : Lib.occAt s sub j with
      | false => rfl
      | true => exact absurd ⟨by omega, hb⟩ this
    exact ⟨i, Lib.index_first h1 h2 h4, h1, h2, h4⟩
  · left
    have h4 : ∀ j, j ≤ s.length → Lib.occAt s sub j = false := fun j hj => by
      cases hb : Lib.occAt s sub j with
      | false => rfl
      | true => exact absurd ⟨j, hj, hb⟩ h
    exact ⟨Lib.index_none h4, h4⟩

theorem occF_step (p d : List UInt8) (a : Nat) (ha : a ≤ d.length) : (Lib.index (d.drop a) p = -1 ∧ occF p d a = []) ∨ ∃ i : Nat, Lib.index (d.drop a) p = i ∧ a + i ≤ d.length ∧ occF p d a = (a + i) :: occF p d (a + i + 1) := by
  rcases index_spec (d.drop a) p with ⟨h1, h2⟩ | ⟨i, h1, h2, h3, h4⟩
  · left
    refine ⟨h1, ?_⟩
    unfold occF
    rw [List.filter_eq_nil_iff]
    intro x hx
    rw [List.mem_range'_1] at hx
    have := h2 (x - a) (by simp; omega)
    rw [occAt_drop, show a + (x - a) = x from by omega] at this
    simp [this]
  · right
    simp only [List.length_drop] at h2
    refine ⟨i, h1, by omega, ?_⟩
    unfold occF
    rw [show d.length + 1 - a = i + (1 + (d.length + 1 - (a + i + 1))) from by omega, ← List.range'_append_1, ← List.range'_append_1, List.filter_append, List.filter_append]
    have e1 : (List.range' a i).filter (Lib.occAt d p) = [] := by
      rw [List.filter_eq_nil_iff]
      intro x hx
      rw [List.mem_range'_1] at hx
      have := h4 (x - a) (by omega)
      rw [occAt_drop, show a + (x - a) = x from by omega] at this
      simp [this]
    rw [e1]
    rw [occAt_drop] at h3
    simp [List.range'_one, h3]
theorem occF_past (p d : List UInt8) (a : Nat) (h : d.length < a + p.length) : occF p d a = [] := by
  unfold occF
  rw [List.filter_eq_nil_iff]
  intro x hx hb
  rw [List.mem_range'_1] at hx
  have := occAt_len hb
  omega

/-- all places of p in documents, the first document's number being i -/
def hitsF (p : List UInt8) : Nat → List (List UInt8) → List (Nat × Nat)
  | _, [] => []
  | i, d :: ds => (occ p d).map (fun a => (i, a)) ++ hitsF p (i + 1) ds
def hits (p : List UInt8) (ds : List (List UInt8)) : List (Nat × Nat) := hitsF p 0 ds
theorem hitsF_append (p : List UInt8) (i : Nat) (ds es : List (List UInt8)) : hitsF p i (ds ++ es) = hitsF p i ds ++ hitsF p (i + ds.length) es := by
  induction ds generalizing i with
  | nil => simp [hitsF]
  | cons d ds ih =>
    simp only [List.cons_append, hitsF, ih, List.append_assoc, List.length_cons]
    rw [show i + 1 + ds.length = i + (ds.length + 1) from by omega]
theorem hits_split (p : List UInt8) (ds : List (List UInt8)) (k : Nat) (h : k < ds.length) : hits p ds = hits p (ds.take k) ++ (occ p ds[k]).map (fun a => (k, a)) ++ hitsF p (k + 1) (ds.drop (k + 1)) := by
  have h1 : ds = ds.take k ++ (ds[k] :: ds.drop (k + 1)) := by
    rw [List.getElem_cons_drop, List.take_append_drop]
  have h2 : (ds.take k).length = k := by simp; omega
  conv => lhs; rw [hits, h1, hitsF_append, h2]
  simp only [hitsF, hits, Nat.zero_add, List.append_assoc]
theorem hits_take_succ (p : List UInt8) (ds : List (List UInt8)) (k : Nat) (h : k < ds.length) : hits p (ds.take (k + 1)) = hits p (ds.take k) ++ (occ p ds[k]).map (fun a => (k, a)) := by
  have h2 : (ds.take k).length = k := by simp; omega
  rw [List.take_succ_eq_append_getElem h, hits, hitsF_append, h2]
  simp [hitsF, hits]
theorem hits_get (p : List UInt8) (ds : List (List UInt8)) (k : Nat) (h : k < ds.length) (j : Nat) (hj : j < (occ p ds[k]).length) : (hits p ds)[(hits p (ds.take k)).length + j]? = some (k, (occ p ds[k])[j]) := by
  rw [hits_split p ds k h, List.append_assoc, List.getElem?_append_right (by omega), Nat.add_sub_cancel_left, List.getElem?_append_left (by simpa using hj)]
  simp [hj]
theorem hits_bound (p : List UInt8) (ds : List (List UInt8)) (k : Nat) (h : k < ds.length) : (hits p (ds.take k)).length + (occ p ds[k]).length ≤ (hits p ds).length := by
  conv => rhs; rw [hits_split p ds k h]
  simp only [List.length_append, List.length_map]
  omega
end Go.Proofs.Ytinlmodkdjpocaa

set_option linter.unusedVariables false
namespace Go.Proofs.Ytinlmodkdjpocaa

theorem startsFrom_ge (n : Nat) (ds : List (List UInt8)) : ∀ x ∈ startsFrom n ds, n ≤ x := by
  induction ds generalizing n with
  | nil => intro x hx; cases hx
  | cons a ds ih =>
    intro x hx
    simp only [startsFrom, List.mem_cons] at hx
    rcases hx with rfl | hx
    · exact Nat.le_refl _
    · have := ih _ x hx; omega
theorem startsFrom_sorted (n : Nat) (ds : List (List UInt8)) : (startsFrom n ds).Pairwise (· ≤ ·) := by
  induction ds generalizing n with
  | nil => exact List.Pairwise.nil
  | cons a ds ih =>
    simp only [startsFrom, List.pairwise_cons]
    exact ⟨fun x hx => by have := startsFrom_ge _ _ x hx; omega, ih _⟩
theorem startsFrom_find (n : Nat) (ds : List (List UInt8)) (d o s x : Nat) (e : List UInt8) (hd : ds[d]? = some e) (ho : o ≤ e.length) (hs : (startsFrom n ds)[d]? = some s) (hx : x = s + o) :
    (startsFrom n ds).countP (fun y => decide (y < x)) = d + (if o = 0 then 0 else 1) ∧ (startsFrom n ds).contains x = decide (o = 0) := by
  induction ds generalizing n d with
  | nil => simp at hd
  | cons a ds ih =>
    cases d with
    | zero =>
      simp only [List.getElem?_cons_zero, Option.some.injEq, startsFrom] at hd hs
      subst hd; subst hs
      have hz : (startsFrom (n + a.length + 1) ds).countP (fun y => decide (y < x)) = 0 := by
        rw [List.countP_eq_zero]
        intro y hy
        have := startsFrom_ge _ _ y hy
        simp; omega
      have hc : x ∉ startsFrom (n + a.length + 1) ds := fun h => by have := startsFrom_ge _ _ x h; omega
      refine ⟨?_, ?_⟩
      · simp only [startsFrom, List.countP_cons, hz]
        by_cases h0 : o = 0 <;> simp [h0, hx] <;> omega
      · simp only [startsFrom, List.contains_cons]
        have : (startsFrom (n + a.length + 1) ds).contains x = false := by simpa using hc
        rw [this, hx]
        by_cases h0 : o = 0 <;> simp [h0]
    | succ d =>
      simp only [List.getElem?_cons_succ, startsFrom] at hd hs
      obtain ⟨h1, h2⟩ := ih _ d hd hs
      have hge : n + a.length + 1 ≤ s := startsFrom_ge _ _ s (List.mem_of_getElem? hs)
      refine ⟨?_, ?_⟩
      · simp only [startsFrom, List.countP_cons, h1]
        have : decide (n < x) = true := by simp; omega
        simp [this]; omega
      · simp only [startsFrom, List.contains_cons, h2]
        have : (x == n) = false := by simp; omega
        simp [this]
/-- where document d begins -/
def startAt (ds : List (List UInt8)) (d : Nat) : Nat := (rowOf (ds.take d)).length
theorem startsFrom_get (n : Nat) (ds : List (List UInt8)) (d : Nat) (hd : d < ds.length) : (startsFrom n ds)[d]? = some (n + startAt ds d) := by
  induction ds generalizing n d with
  | nil => exact absurd hd (Nat.not_lt_zero _)
  | cons a ds ih =>
    cases d with
    | zero => simp [startsFrom, startAt, rowOf]
    | succ d =>
      simp only [startsFrom, List.getElem?_cons_succ]
      rw [ih _ d (by simpa using hd)]
      simp [startAt, rowOf, symsOf]; omega
theorem startsOf_get (ds : List (List UInt8)) (d : Nat) (hd : d < ds.length) : (startsOf ds)[d]? = some (startAt ds d) := by
  have := startsFrom_get 0 ds d hd
  rwa [Nat.zero_add] at this
theorem startAt_succ (ds : List (List UInt8)) (d : Nat) (hd : d < ds.length) : startAt ds (d + 1) = startAt ds d + (ds[d].length + 1) := by
  unfold startAt
  rw [List.take_succ_eq_append_getElem hd, rowOf_snoc, List.length_append, symsOf_length]
theorem startAt_le (ds : List (List UInt8)) (d : Nat) (hd : d ≤ ds.length) : startAt ds d ≤ (rowOf ds).length := by
  have h : rowOf ds = rowOf (ds.take d) ++ rowOf (ds.drop d) := by simp only [rowOf, ← List.flatMap_append, List.take_append_drop]
  rw [h, List.length_append]; unfold startAt; omega
/-- the symbol at a document's place -/
theorem row_at (ds : List (List UInt8)) (d : Nat) (hd : d < ds.length) (o : Nat) (ho : o ≤ ds[d].length) : (rowOf ds)[startAt ds d + o]? = (symsOf ds[d])[o]? := by
  have h : rowOf ds = rowOf (ds.take d) ++ (symsOf ds[d] ++ rowOf (ds.drop (d + 1))) := by
    conv => lhs; rw [← List.take_append_drop d ds, List.drop_eq_getElem_cons hd]
    simp only [rowOf, List.flatMap_append, List.flatMap_cons]
  rw [h, List.getElem?_append_right (by unfold startAt; omega), List.getElem?_append_left (by rw [symsOf_length]; unfold startAt; omega)]
  congr 1; unfold startAt; omega
theorem symAt_of {row : List Nat} {i x : Nat} (h : row[i]? = some x) : symAt row (i : Int) = x := by
  obtain ⟨h1, h2⟩ := List.getElem?_eq_some_iff.1 h
  simp [symAt, h1, h2]
theorem symAt_past {row : List Nat} {i : Nat} (h : row.length ≤ i) : symAt row (i : Int) = -1 := by
  unfold symAt; rw [dif_neg (by simp; omega)]
theorem symAt_neg {row : List Nat} {i : Int} (h : i < 0) : symAt row i = -1 := by
  unfold symAt; rw [dif_neg (by omega)]
theorem row_sym (ds : List (List UInt8)) (d : Nat) (hd : d < ds.length) (o : Nat) (ho : o < ds[d].length) : symAt (rowOf ds) ((startAt ds d + o : Nat) : Int) = (ds[d][o].toNat + 1 : Nat) := by
  refine symAt_of ?_
  rw [row_at ds d hd o (by omega), symsOf, List.getElem?_append_left (by simpa using ho), List.getElem?_map, List.getElem?_eq_getElem ho]
  rfl
theorem row_end (ds : List (List UInt8)) (d : Nat) (hd : d < ds.length) : symAt (rowOf ds) ((startAt ds d + ds[d].length : Nat) : Int) = 0 := by
  have := symAt_of (row := rowOf ds) (i := startAt ds d + ds[d].length) (x := 0) (by
    rw [row_at ds d hd _ (Nat.le_refl _)]
    simp [symsOf])
  simpa using this
end Go.Proofs.Ytinlmodkdjpocaa
