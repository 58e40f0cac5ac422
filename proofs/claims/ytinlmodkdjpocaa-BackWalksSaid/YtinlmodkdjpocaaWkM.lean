/- Plain lists: the rows that a walk goes through; each row is a place's. -/
import Derived.Test.YtinlmodkdjpocaaQpl
set_option linter.unusedVariables false
namespace Go.Proofs.Ytinlmodkdjpocaa

/-- The walk from row i on: N steps, through the rows r. -/
structure WkS (L : List Nat) (i : Int) (N : Nat) (r : Nat → Int) : Prop where
  start : r 0 = i
  step : ∀ k, k < N → ∃ n : Nat, r k = (n : Int) ∧ n < L.length ∧ L.getD n 0 ≠ 0 ∧ r (k + 1) = (stepL L n : Nat)
  stop : symAt L (r N) ≤ 0
  len : N ≤ L.length

/-- the row of a place -/
def rwP (ds : List (List UInt8)) (d o : Nat) : Nat := idxP (rowOf ds) (startAt ds d + o)
theorem rwP_lt (ds : List (List UInt8)) (d : Nat) (hd : d < ds.length) (o : Nat) (ho : o ≤ ds[d].length) : rwP ds d o < (rowOf ds).length := idxP_lt (rowOk_rowOf ds) _ (place_lt ds d hd o ho)
theorem rwP_inj (ds : List (List UInt8)) (d e : Nat) (hd : d < ds.length) (he : e < ds.length) (o u : Nat) (ho : o ≤ ds[d].length) (hu : u ≤ ds[e].length) (h : rwP ds d o = rwP ds e u) : d = e ∧ o = u :=
  place_inj ds d e hd he o u ho hu (idxP_inj (rowOk_rowOf ds) _ _ (place_lt ds d hd o ho) (place_lt ds e he u hu) h)
theorem rwP_end (ds : List (List UInt8)) (d : Nat) (hd : d < ds.length) : rwP ds d ds[d].length = d := idx_end ds d hd
/-- each row is a place's -/
theorem row_ex (ds : List (List UInt8)) (i : Nat) (hi : i < (rowOf ds).length) : ∃ d, ∃ hd : d < ds.length, ∃ o, o ≤ ds[d].length ∧ i = rwP ds d o := by
  have hsa := saOf_is (rowOk_rowOf ds)
  have hi' : i < (saOf (rowOf ds)).length := by rw [saOf_length (rowOk_rowOf ds)]; exact hi
  obtain ⟨d, hd, o, ho, e⟩ := place_ex ds _ (hsa.get_lt i hi')
  refine ⟨d, hd, o, ho, ?_⟩
  unfold rwP
  rw [← e]
  exact (hsa.idx_get (rowOk_rowOf ds) i hi').symm
theorem symAt_getD {L : List Nat} {n : Nat} (h : n < L.length) : symAt L (n : Int) = (L.getD n 0 : Nat) := by
  simp [symAt, h, List.getD]
theorem symAt_rw (ds : List (List UInt8)) (d : Nat) (hd : d < ds.length) (o : Nat) (ho : o ≤ ds[d].length) :
    symAt (bwtOf (rowOf ds)) (rwP ds d o : Nat) = if h : 0 < o then (ds[d][o - 1].toNat + 1 : Nat) else (0 : Nat) := by
  rw [symAt_getD (by rw [bwtOf_length (rowOk_rowOf ds)]; exact rwP_lt ds d hd o ho)]
  unfold rwP
  rw [getD_bwt ds d hd o ho]
theorem wkS_at (ds : List (List UInt8)) (d : Nat) (hd : d < ds.length) (o : Nat) (ho : o ≤ ds[d].length) :
    WkS (bwtOf (rowOf ds)) (rwP ds d o : Nat) o (fun k => (rwP ds d (o - k) : Nat)) where
  start := rfl
  step := by
    intro k hk
    refine ⟨rwP ds d (o - k), rfl, by rw [bwtOf_length (rowOk_rowOf ds)]; exact rwP_lt ds d hd _ (by omega), ?_, ?_⟩
    · unfold rwP
      rw [getD_bwt ds d hd (o - k) (by omega), dif_pos (by omega)]
      omega
    · have h := step_at ds d hd (o - k - 1) (by omega)
      rw [show o - k - 1 + 1 = o - k from by omega] at h
      unfold rwP
      rw [h, show o - (k + 1) = o - k - 1 from by omega]
  stop := by
    rw [symAt_rw ds d hd (o - o) (by omega), dif_neg (by omega)]
    exact Int.le_refl 0
  len := by
    rw [bwtOf_length (rowOk_rowOf ds)]
    have := place_lt ds d hd o ho
    omega
theorem wkS_none (L : List Nat) (i : Int) (h : symAt L i ≤ 0) : WkS L i 0 (fun _ => i) where
  start := rfl
  step := fun k hk => absurd hk (Nat.not_lt_zero _)
  stop := h
  len := Nat.zero_le _
theorem symAt_out {L : List Nat} {i : Int} (h : i < 0 ∨ (L.length : Int) ≤ i) : symAt L i = -1 := by
  unfold symAt
  rw [dif_neg (by omega)]
/-- the document's rows, at a place's row -/
theorem IsRows.at_row {ds : List (List UInt8)} {hs : List (Nat × Nat)} (h : IsRows ds hs) (d : Nat) (hd : d < ds.length) (o : Nat) (ho : o ≤ ds[d].length) : hs[rwP ds d o]? = some (d, o) := by
  have hsa := saOf_is (rowOk_rowOf ds)
  obtain ⟨h1, h2⟩ := hsa.get_idx (rowOk_rowOf ds) _ (place_lt ds d hd o ho)
  have hl : rwP ds d o < hs.length := by rw [h.length]; exact rwP_lt ds d hd o ho
  have e : (hs.map (toP ds))[rwP ds d o]? = some (startAt ds d + o) := by
    rw [h.sa]
    unfold rwP
    rw [List.getElem?_eq_getElem h1, h2]
  rw [List.getElem?_map, List.getElem?_eq_getElem hl] at e
  simp only [Option.map_some, Option.some.injEq] at e
  rw [List.getElem?_eq_getElem hl]
  obtain ⟨hd2, ho2⟩ := h.mem (List.getElem_mem hl)
  obtain ⟨e1, e2⟩ := place_inj ds _ _ hd2 hd _ _ ho2 ho e
  exact congrArg some (Prod.ext e1 e2)
theorem countL_none {L : List Nat} {p : List UInt8} (h : (rangeL L (upS' p)).1 = (rangeL L (upS' p)).2) : countL L p = 0 := by
  unfold countL
  split
  · rfl
  · omega
end Go.Proofs.Ytinlmodkdjpocaa
