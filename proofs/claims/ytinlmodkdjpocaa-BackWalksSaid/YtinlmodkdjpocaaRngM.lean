/- Plain lists: the document's Range over rows in order. -/
import Derived.Test.YtinlmodkdjpocaaQpl
set_option linter.unusedVariables false
namespace Go.Proofs.Ytinlmodkdjpocaa

theorem belP_at (ds : List (List UInt8)) (d : Nat) (hd : d < ds.length) (p : List UInt8) : ∀ o, o ≤ ds[d].length → belP (rowOf ds) false (upS' p) (startAt ds d + o) = Op.bytesLess (ds[d].drop o) p := by
  induction p with
  | nil => intro o _; rw [bl_nil]; rfl
  | cons b p ih =>
    intro o ho
    simp only [upS', List.map_cons, belP]
    by_cases h : o < ds[d].length
    · have ih' := ih (o + 1) (by omega)
      unfold upS' at ih'
      rw [symP_at ds d hd o h, Nat.add_assoc, ih', List.drop_eq_getElem_cons h, Bool.eq_iff_iff, bl_cons, UInt8.lt_iff_toNat_lt]
      simp only [Bool.or_eq_true, Bool.and_eq_true, decide_eq_true_eq, Nat.add_lt_add_iff_right, Nat.add_right_cancel_iff, UInt8.toNat_inj]
    · obtain rfl : o = ds[d].length := by omega
      rw [symP_end ds d hd, List.drop_length]
      have h1 : decide (0 < b.toNat + 1) = true := by simp
      rw [h1]
      rfl
/-- how many of the first i rows have f -/
def cntF (f : Nat × Nat → Bool) (hs : List (Nat × Nat)) (i : Nat) : Nat := (hs.take i).countP f
theorem cntF_yes {f : Nat × Nat → Bool} {hs : List (Nat × Nat)} (h : hs.Pairwise (fun a b => f b = true → f a = true)) (i : Nat) (hi : i < hs.length) (hf : f hs[i] = true) : cntF f hs (i + 1) = i + 1 := by
  unfold cntF
  have hl : (hs.take (i + 1)).length = i + 1 := by simp; omega
  have hall : (hs.take (i + 1)).countP f = (hs.take (i + 1)).length := by
    rw [List.countP_eq_length]
    intro x hx
    rw [List.mem_take_iff_getElem] at hx
    obtain ⟨j, hj, rfl⟩ := hx
    by_cases e : j = i
    · subst e; exact hf
    · exact List.pairwise_iff_getElem.1 h j i (by omega) hi (by omega) hf
  rw [hall, hl]
theorem cntF_no {f : Nat × Nat → Bool} {hs : List (Nat × Nat)} (i : Nat) (hi : i < hs.length) (hf : f hs[i] = false) : cntF f hs (i + 1) = cntF f hs i := by
  unfold cntF
  rw [List.take_succ_eq_append_getElem hi, List.countP_append, List.countP_singleton, hf]
  simp
theorem cntF_le (f : Nat × Nat → Bool) (hs : List (Nat × Nat)) (i : Nat) : cntF f hs i ≤ hs.length := by
  unfold cntF
  exact Nat.le_trans List.countP_le_length (by simp; omega)
def belH (ds : List (List UInt8)) (p : List UInt8) (e : Bool) (a : Nat × Nat) : Bool := belP (rowOf ds) e (upS' p) (toP ds a)
theorem upS_pos (p : List UInt8) : ∀ s ∈ upS' p, 0 < s := by
  intro s hs
  unfold upS' at hs
  obtain ⟨c, _, rfl⟩ := List.mem_map.1 hs
  omega
theorem belH_mono {ds : List (List UInt8)} {hs : List (Nat × Nat)} (h : IsRows ds hs) (p : List UInt8) (e : Bool) : hs.Pairwise (fun a b => belH ds p e b = true → belH ds p e a = true) := by
  have hsa := saOf_is (rowOk_rowOf ds)
  have h2 : (hs.map (toP ds)).Pairwise (fun a b => ltP (rowOf ds) a b = true) := by rw [h.sa]; exact hsa.2
  rw [List.pairwise_map] at h2
  refine List.Pairwise.imp_of_mem ?_ h2
  rintro a b ha hb hab hbel
  have lt : ∀ x ∈ hs, toP ds x < (rowOf ds).length := by
    intro x hx
    obtain ⟨hd, ho⟩ := h.mem hx
    exact place_lt ds x.1 hd x.2 ho
  exact belP_mono (rowOk_rowOf ds) e _ (upS_pos p) _ _ (lt a ha) (lt b hb) hab hbel
theorem belH_false {ds : List (List UInt8)} {a : Nat × Nat} (hd : a.1 < ds.length) (ho : a.2 ≤ ds[a.1].length) (p : List UInt8) : belH ds p false a = Op.bytesLess (ds[a.1].drop a.2) p := belP_at ds a.1 hd p a.2 ho
theorem belH_true {ds : List (List UInt8)} {a : Nat × Nat} (hd : a.1 < ds.length) (ho : a.2 ≤ ds[a.1].length) (p : List UInt8) : belH ds p true a = (Op.bytesLess (ds[a.1].drop a.2) p || p.isPrefixOf (ds[a.1].drop a.2)) := by
  unfold belH
  rw [belP_split]
  congr 1
  · exact belP_at ds a.1 hd p a.2 ho
  · exact preP_at ds a.1 hd p a.2 ho
theorem cntF_all {ds : List (List UInt8)} {hs : List (Nat × Nat)} (h : IsRows ds hs) (p : List UInt8) (e : Bool) : cntF (belH ds p e) hs hs.length = (List.range (rowOf ds).length).countP (belP (rowOf ds) e (upS' p)) := by
  unfold cntF
  rw [List.take_length]
  have h1 : hs.countP (belH ds p e) = (hs.map (toP ds)).countP (belP (rowOf ds) e (upS' p)) := by
    rw [List.countP_map]; rfl
  rw [h1, h.sa]
  exact (saOf_is (rowOk_rowOf ds)).1.countP_eq _
theorem rangeH {ds : List (List UInt8)} {hs : List (Nat × Nat)} (h : IsRows ds hs) (p : List UInt8) : rangeL (bwtOf (rowOf ds)) (upS' p) = (cntF (belH ds p false) hs hs.length, cntF (belH ds p true) hs hs.length) := by
  rw [rangeL_bwt (rowOk_rowOf ds) _ (upS_pos p), cntF_all h, cntF_all h]
  rfl
end Go.Proofs.Ytinlmodkdjpocaa
