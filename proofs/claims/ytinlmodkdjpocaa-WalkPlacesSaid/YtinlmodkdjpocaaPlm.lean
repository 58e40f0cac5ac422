/- Plain lists: how often a text stands with a byte more in front. Plain lists: the document's Range over rows in order. Plain lists: the rows that steps have gone through. Plain lists: the rows that a walk goes through; each row is a place's. Plain lists: samples, the map of places, and what is found by it. -/
import Derived.Test.YtinlmodkdjpocaaQpl
import Derived.Test.YtinlmodkdjpocaaGen
set_option linter.unusedVariables false
namespace Go.Proofs.Ytinlmodkdjpocaa

/-- how often p stands in d -/
def cntQ (p : List UInt8) (d : List UInt8) : Nat := (List.range (d.length + 1)).countP (fun o => p.isPrefixOf (d.drop o))
theorem cntQ_nil (p : List UInt8) : cntQ p [] = if p.isPrefixOf [] then 1 else 0 := by
  unfold cntQ
  simp [List.range_succ]
theorem cntQ_cons (p : List UInt8) (x : UInt8) (d : List UInt8) : cntQ p (x :: d) = (if p.isPrefixOf (x :: d) then 1 else 0) + cntQ p d := by
  unfold cntQ
  rw [List.length_cons, List.range_succ_eq_map, List.countP_cons, List.countP_map]
  simp only [List.drop_zero, Function.comp_def, List.drop_succ_cons]
  omega
theorem sum_add (l : List Nat) (f g : Nat → Nat) : (l.map (fun c => f c + g c)).sum = (l.map f).sum + (l.map g).sum := by
  induction l with
  | nil => rfl
  | cons a l ih => simp only [List.map_cons, List.sum_cons, ih]; omega
theorem sum_one (n m : Nat) : ((List.range n).map (fun c => if c = m then 1 else 0)).sum = if m < n then 1 else 0 := by
  induction n with
  | zero => rfl
  | succ n ih =>
    rw [List.range_succ, List.map_append, List.sum_append, ih]
    simp only [List.map_cons, List.map_nil, List.sum_cons, List.sum_nil]
    by_cases h : m < n
    · rw [if_pos h, if_neg (by omega), if_pos (by omega)]; rfl
    · by_cases h2 : n = m
      · rw [if_neg h, if_pos h2, if_pos (by omega)]; rfl
      · rw [if_neg h, if_neg h2, if_neg (by omega)]; rfl
theorem sum_zero (n : Nat) : ((List.range n).map (fun _ => 0)).sum = 0 := by
  induction n with
  | zero => rfl
  | succ n ih => rw [List.range_succ, List.map_append, List.sum_append, ih]; rfl
/-- with the bytes below k in front, in one document -/
def nestD (p : List UInt8) (d : List UInt8) (k : Nat) : Nat := ((List.range k).map (fun c => cntQ (UInt8.ofNat c :: p) d)).sum
theorem nestD_nil (p : List UInt8) (n : Nat) : nestD p [] n = 0 := by
  unfold nestD
  rw [show (fun c => cntQ (UInt8.ofNat c :: p) []) = fun _ => 0 from by funext c; rw [cntQ_nil]; rfl]
  exact sum_zero n
theorem nestD_cons (p : List UInt8) (x : UInt8) (d : List UInt8) (n : Nat) (hn : n ≤ 256) (hx : x.toNat < n) : nestD p (x :: d) n = (if p.isPrefixOf d then 1 else 0) + nestD p d n := by
  unfold nestD
  rw [show (fun c => cntQ (UInt8.ofNat c :: p) (x :: d)) = fun c => (if (UInt8.ofNat c :: p).isPrefixOf (x :: d) then 1 else 0) + cntQ (UInt8.ofNat c :: p) d from by funext c; rw [cntQ_cons], sum_add]
  congr 1
  by_cases hp : p.isPrefixOf d = true
  · rw [if_pos hp]
    have e : (List.range n).map (fun c => if (UInt8.ofNat c :: p).isPrefixOf (x :: d) = true then 1 else 0) = (List.range n).map (fun c => if c = x.toNat then 1 else 0) := by
      apply List.map_congr_left
      intro c hc
      have hc' : c < n := List.mem_range.1 hc
      have hiff : (UInt8.ofNat c :: p).isPrefixOf (x :: d) = true ↔ c = x.toNat := by
        rw [List.isPrefixOf, hp, Bool.and_true, beq_iff_eq]
        constructor
        · intro h; rw [← h]; simp; omega
        · intro h; rw [h]; simp
      by_cases hx : c = x.toNat
      · rw [if_pos hx, if_pos (hiff.2 hx)]
      · rw [if_neg hx, if_neg (fun h => hx (hiff.1 h))]
    rw [e, sum_one, if_pos hx]
  · rw [if_neg hp]
    have e : (List.range n).map (fun c => if (UInt8.ofNat c :: p).isPrefixOf (x :: d) = true then 1 else 0) = (List.range n).map (fun _ => 0) := by
      apply List.map_congr_left
      intro c _
      rw [if_neg]
      rw [List.isPrefixOf, Bool.eq_false_iff.2 hp, Bool.and_false]
      simp
    rw [e, sum_zero]
theorem nestD_all (p d : List UInt8) : nestD p d 256 + (if p.isPrefixOf d then 1 else 0) = cntQ p d := by
  obtain ⟨n, hn⟩ : ∃ n, n = 256 := ⟨_, rfl⟩
  rw [← hn]
  induction d with
  | nil => rw [nestD_nil, cntQ_nil, Nat.zero_add]
  | cons x d ih =>
    rw [nestD_cons p x d n (by omega) (by have := x.toNat_lt; omega), cntQ_cons, ← ih]
    omega
/-- in all documents -/
def nestS (ds : List (List UInt8)) (p : List UInt8) (k : Nat) : Nat := ((List.range k).map (fun c => (hits (UInt8.ofNat c :: p) ds).length)).sum
theorem nestS_succ (ds : List (List UInt8)) (p : List UInt8) (k : Nat) : nestS ds p (k + 1) = nestS ds p k + (hits (UInt8.ofNat k :: p) ds).length := by
  unfold nestS; rw [List.range_succ, List.map_append, List.sum_append]; simp
theorem nestS_mono (ds : List (List UInt8)) (p : List UInt8) (k n : Nat) (h : k ≤ n) : nestS ds p k ≤ nestS ds p n := by
  induction n with
  | zero => have : k = 0 := by omega
            rw [this]; exact Nat.le_refl _
  | succ n ih =>
    by_cases hk : k = n + 1
    · rw [hk]; exact Nat.le_refl _
    · have := ih (by omega)
      rw [nestS_succ]; omega
/-- how many documents begin with p -/
def begs (ds : List (List UInt8)) (p : List UInt8) (j : Nat) : Nat := (ds.take j).countP (fun d => p.isPrefixOf d)
theorem begs_succ (ds : List (List UInt8)) (p : List UInt8) (j : Nat) (h : j < ds.length) : begs ds p (j + 1) = begs ds p j + if p.isPrefixOf ds[j] then 1 else 0 := by
  unfold begs
  rw [List.take_succ_eq_append_getElem h, List.countP_append, List.countP_singleton]
theorem begs_le (ds : List (List UInt8)) (p : List UInt8) (j : Nat) : begs ds p j ≤ ds.length := by
  unfold begs
  exact Nat.le_trans List.countP_le_length (by rw [List.length_take]; omega)
theorem hits_sum (p : List UInt8) (hp : p ≠ []) (ds : List (List UInt8)) : (hits p ds).length = (ds.map (cntQ p)).sum := by
  unfold hits
  rw [hitsF_sum]
  congr 1
  apply List.map_congr_left
  intro d _
  exact occ_count p d hp
theorem nest_all (ds : List (List UInt8)) (p : List UInt8) (hp : p ≠ []) : nestS ds p 256 + begs ds p ds.length = (hits p ds).length := by
  have h1 : nestS ds p 256 = ((List.range 256).map (fun c => (ds.map (cntQ (UInt8.ofNat c :: p))).sum)).sum := by
    unfold nestS
    congr 1
    apply List.map_congr_left
    intro c _
    exact hits_sum _ (List.cons_ne_nil _ _) ds
  rw [h1, hits_sum p hp, begs, List.take_length]
  clear h1
  obtain ⟨n, hn⟩ : ∃ n, n = 256 := ⟨_, rfl⟩
  rw [← hn]
  induction ds with
  | nil => simp only [List.map_nil, List.sum_nil, List.countP_nil, Nat.add_zero]; exact sum_zero n
  | cons d ds ih =>
    simp only [List.map_cons, List.sum_cons, List.countP_cons]
    rw [sum_add (List.range n) (fun c => cntQ (UInt8.ofNat c :: p) d) (fun c => (ds.map (cntQ (UInt8.ofNat c :: p))).sum), ← ih, ← nestD_all p d, ← hn]
    unfold nestD
    omega
end Go.Proofs.Ytinlmodkdjpocaa

set_option linter.unusedVariables false
namespace Go.Proofs.Ytinlmodkdjpocaa

theorem belP_at (ds : List (List UInt8)) (d : Nat) (hd : d < ds.length) (p : List UInt8) : ∀ o, o ≤ ds[d].length → belP (rowOf ds) false (upS' p) (startAt ds d + o) = Op.bytesLess (ds[d].drop o) p := by
  induction p with
  | nil => intro o _; rw [bl_nil]; rfl
  | cons b p ih =>
    intro o ho
    simp only [upS', List.map_cons, belP]
    by_cases h : o < ds[d].length
    · have ih' := ih (o + 1) (by omega)
      unfold upS' at ih'
      rw [symP_at ds d hd o h, Nat.add_assoc, ih', List.drop_eq_getElem_cons h, Bool.eq_iff_iff, bl_cons, UInt8.lt_iff_toNat_lt]
      simp only [Bool.or_eq_true, Bool.and_eq_true, decide_eq_true_eq, Nat.add_lt_add_iff_right, Nat.add_right_cancel_iff, UInt8.toNat_inj]
    · obtain rfl : o = ds[d].length := by omega
      rw [symP_end ds d hd, List.drop_length]
      have h1 : decide (0 < b.toNat + 1) = true := by simp
      rw [h1]
      rfl
/-- how many of the first i rows have f -/
def cntF (f : Nat × Nat → Bool) (hs : List (Nat × Nat)) (i : Nat) : Nat := (hs.take i).countP f
theorem cntF_yes {f : Nat × Nat → Bool} {hs : List (Nat × Nat)} (h : hs.Pairwise (fun a b => f b = true → f a = true)) (i : Nat) (hi : i < hs.length) (hf : f hs[i] = true) : cntF f hs (i + 1) = i + 1 := by
  unfold cntF
  have hl : (hs.take (i + 1)).length = i + 1 := by simp; omega
  have hall : (hs.take (i + 1)).countP f = (hs.take (i + 1)).length := by
    rw [List.countP_eq_length]
    intro x hx
    rw [List.mem_take_iff_getElem] at hx
    obtain ⟨j, hj, rfl⟩ := hx
    by_cases e : j = i
    · subst e; exact hf
    · exact List.pairwise_iff_getElem.1 h j i (by omega) hi (by omega) hf
  rw [hall, hl]
theorem cntF_no {f : Nat × Nat → Bool} {hs : List (Nat × Nat)} (i : Nat) (hi : i < hs.length) (hf : f hs[i] = false) : cntF f hs (i + 1) = cntF f hs i := by
  unfold cntF
  rw [List.take_succ_eq_append_getElem hi, List.countP_append, List.countP_singleton, hf]
  simp
theorem cntF_le (f : Nat × Nat → Bool) (hs : List (Nat × Nat)) (i : Nat) : cntF f hs i ≤ hs.length := by
  unfold cntF
  exact Nat.le_trans List.countP_le_length (by simp; omega)
def belH (ds : List (List UInt8)) (p : List UInt8) (e : Bool) (a : Nat × Nat) : Bool := belP (rowOf ds) e (upS' p) (toP ds a)
theorem upS_pos (p : List UInt8) : ∀ s ∈ upS' p, 0 < s := by
  intro s hs
  unfold upS' at hs
  obtain ⟨c, _, rfl⟩ := List.mem_map.1 hs
  omega
theorem belH_mono {ds : List (List UInt8)} {hs : List (Nat × Nat)} (h : IsRows ds hs) (p : List UInt8) (e : Bool) : hs.Pairwise (fun a b => belH ds p e b = true → belH ds p e a = true) := by
  have hsa := saOf_is (rowOk_rowOf ds)
  have h2 : (hs.map (toP ds)).Pairwise (fun a b => ltP (rowOf ds) a b = true) := by rw [h.sa]; exact hsa.2
  rw [List.pairwise_map] at h2
  refine List.Pairwise.imp_of_mem ?_ h2
  rintro a b ha hb hab hbel
  have lt : ∀ x ∈ hs, toP ds x < (rowOf ds).length := by
    intro x hx
    obtain ⟨hd, ho⟩ := h.mem hx
    exact place_lt ds x.1 hd x.2 ho
  exact belP_mono (rowOk_rowOf ds) e _ (upS_pos p) _ _ (lt a ha) (lt b hb) hab hbel
theorem belH_false {ds : List (List UInt8)} {a : Nat × Nat} (hd : a.1 < ds.length) (ho : a.2 ≤ ds[a.1].length) (p : List UInt8) : belH ds p false a = Op.bytesLess (ds[a.1].drop a.2) p := belP_at ds a.1 hd p a.2 ho
theorem belH_true {ds : List (List UInt8)} {a : Nat × Nat} (hd : a.1 < ds.length) (ho : a.2 ≤ ds[a.1].length) (p : List UInt8) : belH ds p true a = (Op.bytesLess (ds[a.1].drop a.2) p || p.isPrefixOf (ds[a.1].drop a.2)) := by
  unfold belH
  rw [belP_split]
  congr 1
  · exact belP_at ds a.1 hd p a.2 ho
  · exact preP_at ds a.1 hd p a.2 ho
theorem cntF_all {ds : List (List UInt8)} {hs : List (Nat × Nat)} (h : IsRows ds hs) (p : List UInt8) (e : Bool) : cntF (belH ds p e) hs hs.length = (List.range (rowOf ds).length).countP (belP (rowOf ds) e (upS' p)) := by
  unfold cntF
  rw [List.take_length]
  have h1 : hs.countP (belH ds p e) = (hs.map (toP ds)).countP (belP (rowOf ds) e (upS' p)) := by
    rw [List.countP_map]; rfl
  rw [h1, h.sa]
  exact (saOf_is (rowOk_rowOf ds)).1.countP_eq _
theorem rangeH {ds : List (List UInt8)} {hs : List (Nat × Nat)} (h : IsRows ds hs) (p : List UInt8) : rangeL (bwtOf (rowOf ds)) (upS' p) = (cntF (belH ds p false) hs hs.length, cntF (belH ds p true) hs hs.length) := by
  rw [rangeL_bwt (rowOk_rowOf ds) _ (upS_pos p), cntF_all h, cntF_all h]
  rfl
end Go.Proofs.Ytinlmodkdjpocaa

set_option linter.unusedVariables false
namespace Go.Proofs.Ytinlmodkdjpocaa

/-- gone through: the documents ahead of d, and of document d the places from o on -/
def visP (ds : List (List UInt8)) (d o p : Nat) : Bool := decide (p < startAt ds d ∨ (startAt ds d + o ≤ p ∧ p < startAt ds (d + 1)))
def seenL (ds : List (List UInt8)) (d o : Nat) : List Bool := (saOf (rowOf ds)).map (visP ds d o)
theorem seenL_length (ds : List (List UInt8)) (d o : Nat) : (seenL ds d o).length = (rowOf ds).length := by
  unfold seenL; rw [List.length_map, saOf_length (rowOk_rowOf ds)]
theorem seenL_start (ds : List (List UInt8)) : seenL ds 0 ((ds.getD 0 []).length + 1) = List.replicate (rowOf ds).length false := by
  apply List.ext_getElem
  · rw [seenL_length]; simp
  · intro i h1 h2
    simp only [seenL, List.getElem_map, List.getElem_replicate, visP]
    rw [decide_eq_false_iff_not]
    have h0 : startAt ds 0 = 0 := by simp [startAt, rowOf]
    rw [h0]
    rintro (h | ⟨h3, h4⟩)
    · omega
    · cases ds with
      | nil => simp [startAt, rowOf] at h4
      | cons d ds =>
        have := startAt_succ (d :: ds) 0 (by simp)
        simp at this h3 h4
        omega
theorem seenL_next (ds : List (List UInt8)) (d : Nat) (hd : d < ds.length) (o : Nat) : seenL ds d 0 = seenL ds (d + 1) ((ds.getD (d + 1) []).length + 1) := by
  unfold seenL
  apply List.map_congr_left
  intro p _
  unfold visP
  have h := startAt_succ ds d hd
  have hmo : startAt ds (d + 1) + (ds.getD (d + 1) []).length + 1 ≥ startAt ds (d + 1 + 1) := by
    by_cases h2 : d + 1 < ds.length
    · have g : ds.getD (d + 1) [] = ds[d + 1] := by simp [List.getD, h2]
      rw [g, startAt_succ ds (d + 1) h2]; omega
    · have e : startAt ds (d + 1 + 1) = startAt ds (d + 1) := by
        unfold startAt
        rw [List.take_of_length_le (by omega), List.take_of_length_le (by omega)]
      omega
  rw [Bool.eq_iff_iff, decide_eq_true_iff, decide_eq_true_iff]
  constructor
  · rintro (h3 | ⟨h3, h4⟩)
    · left; omega
    · left; exact h4
  · rintro (h3 | ⟨h3, h4⟩)
    · by_cases h5 : p < startAt ds d
      · exact .inl h5
      · exact .inr ⟨by omega, h3⟩
    · omega
theorem seenL_not (ds : List (List UInt8)) (d : Nat) (hd : d < ds.length) (o : Nat) (ho : o ≤ ds[d].length) : (seenL ds d (o + 1))[idxP (rowOf ds) (startAt ds d + o)]? = some false := by
  have hp := place_lt ds d hd o ho
  obtain ⟨h1, h2⟩ := (saOf_is (rowOk_rowOf ds)).get_idx (rowOk_rowOf ds) _ hp
  unfold seenL
  rw [List.getElem?_map, List.getElem?_eq_getElem h1, h2]
  simp only [Option.map_some, visP]
  rw [decide_eq_false (by omega)]
theorem seenL_set (ds : List (List UInt8)) (d : Nat) (hd : d < ds.length) (o : Nat) (ho : o ≤ ds[d].length) : (seenL ds d (o + 1)).set (idxP (rowOf ds) (startAt ds d + o)) true = seenL ds d o := by
  have hp := place_lt ds d hd o ho
  have hsa := saOf_is (rowOk_rowOf ds)
  obtain ⟨h1, h2⟩ := hsa.get_idx (rowOk_rowOf ds) _ hp
  have hss := startAt_succ ds d hd
  apply List.ext_getElem
  · rw [List.length_set, seenL_length, seenL_length]
  · intro i h3 h4
    rw [List.getElem_set]
    have hi : i < (saOf (rowOf ds)).length := by rw [seenL_length] at h4; rw [saOf_length (rowOk_rowOf ds)]; exact h4
    by_cases e : idxP (rowOf ds) (startAt ds d + o) = i
    · rw [if_pos e]
      simp only [seenL, List.getElem_map, visP]
      subst e
      rw [h2, decide_eq_true (by omega)]
    · rw [if_neg e]
      simp only [seenL, List.getElem_map, visP]
      have hne : (saOf (rowOf ds))[i] ≠ startAt ds d + o := by
        intro h5
        apply e
        rw [← h5]
        exact hsa.idx_get (rowOk_rowOf ds) i hi
      rw [Bool.eq_iff_iff, decide_eq_true_iff, decide_eq_true_iff]
      omega
end Go.Proofs.Ytinlmodkdjpocaa

set_option linter.unusedVariables false
namespace Go.Proofs.Ytinlmodkdjpocaa

/-- The walk from row i on: N steps, through the rows r. -/
structure WkS (L : List Nat) (i : Int) (N : Nat) (r : Nat → Int) : Prop where
  start : r 0 = i
  step : ∀ k, k < N → ∃ n : Nat, r k = (n : Int) ∧ n < L.length ∧ L.getD n 0 ≠ 0 ∧ r (k + 1) = (stepL L n : Nat)
  stop : symAt L (r N) ≤ 0
  len : N ≤ L.length

/-- the row of a place -/
def rwP (ds : List (List UInt8)) (d o : Nat) : Nat := idxP (rowOf ds) (startAt ds d + o)
theorem rwP_lt (ds : List (List UInt8)) (d : Nat) (hd : d < ds.length) (o : Nat) (ho : o ≤ ds[d].length) : rwP ds d o < (rowOf ds).length := idxP_lt (rowOk_rowOf ds) _ (place_lt ds d hd o ho)
theorem rwP_inj (ds : List (List UInt8)) (d e : Nat) (hd : d < ds.length) (he : e < ds.length) (o u : Nat) (ho : o ≤ ds[d].length) (hu : u ≤ ds[e].length) (h : rwP ds d o = rwP ds e u) : d = e ∧ o = u :=
  place_inj ds d e hd he o u ho hu (idxP_inj (rowOk_rowOf ds) _ _ (place_lt ds d hd o ho) (place_lt ds e he u hu) h)
theorem rwP_end (ds : List (List UInt8)) (d : Nat) (hd : d < ds.length) : rwP ds d ds[d].length = d := idx_end ds d hd
/-- each row is a place's -/
theorem row_ex (ds : List (List UInt8)) (i : Nat) (hi : i < (rowOf ds).length) : ∃ d, ∃ hd : d < ds.length, ∃ o, o ≤ ds[d].length ∧ i = rwP ds d o := by
  have hsa := saOf_is (rowOk_rowOf ds)
  have hi' : i < (saOf (rowOf ds)).length := by rw [saOf_length (rowOk_rowOf ds)]; exact hi
  obtain ⟨d, hd, o, ho, e⟩ := place_ex ds _ (hsa.get_lt i hi')
  refine ⟨d, hd, o, ho, ?_⟩
  unfold rwP
  rw [← e]
  exact (hsa.idx_get (rowOk_rowOf ds) i hi').symm
theorem symAt_getD {L : List Nat} {n : Nat} (h : n < L.length) : symAt L (n : Int) = (L.getD n 0 : Nat) := by
  simp [symAt, h, List.getD]
theorem symAt_rw (ds : List (List UInt8)) (d : Nat) (hd : d < ds.length) (o : Nat) (ho : o ≤ ds[d].length) :
    symAt (bwtOf (rowOf ds)) (rwP ds d o : Nat) = if h : 0 < o then (ds[d][o - 1].toNat + 1 : Nat) else (0 : Nat) := by
  rw [symAt_getD (by rw [bwtOf_length (rowOk_rowOf ds)]; exact rwP_lt ds d hd o ho)]
  unfold rwP
  rw [getD_bwt ds d hd o ho]
theorem wkS_at (ds : List (List UInt8)) (d : Nat) (hd : d < ds.length) (o : Nat) (ho : o ≤ ds[d].length) :
    WkS (bwtOf (rowOf ds)) (rwP ds d o : Nat) o (fun k => (rwP ds d (o - k) : Nat)) where
  start := rfl
  step := by
    intro k hk
    refine ⟨rwP ds d (o - k), rfl, by rw [bwtOf_length (rowOk_rowOf ds)]; exact rwP_lt ds d hd _ (by omega), ?_, ?_⟩
    · unfold rwP
      rw [getD_bwt ds d hd (o - k) (by omega), dif_pos (by omega)]
      omega
    · have h := step_at ds d hd (o - k - 1) (by omega)
      rw [show o - k - 1 + 1 = o - k from by omega] at h
      unfold rwP
      rw [h, show o - (k + 1) = o - k - 1 from by omega]
  stop := by
    rw [symAt_rw ds d hd (o - o) (by omega), dif_neg (by omega)]
    exact Int.le_refl 0
  len := by
    rw [bwtOf_length (rowOk_rowOf ds)]
    have := place_lt ds d hd o ho
    omega
theorem wkS_none (L : List Nat) (i : Int) (h : symAt L i ≤ 0) : WkS L i 0 (fun _ => i) where
  start := rfl
  step := fun k hk => absurd hk (Nat.not_lt_zero _)
  stop := h
  len := Nat.zero_le _
theorem symAt_out {L : List Nat} {i : Int} (h : i < 0 ∨ (L.length : Int) ≤ i) : symAt L i = -1 := by
  unfold symAt
  rw [dif_neg (by omega)]
/-- the document's rows, at a place's row -/
theorem IsRows.at_row {ds : List (List UInt8)} {hs : List (Nat × Nat)} (h : IsRows ds hs) (d : Nat) (hd : d < ds.length) (o : Nat) (ho : o ≤ ds[d].length) : hs[rwP ds d o]? = some (d, o) := by
  have hsa := saOf_is (rowOk_rowOf ds)
  obtain ⟨h1, h2⟩ := hsa.get_idx (rowOk_rowOf ds) _ (place_lt ds d hd o ho)
  have hl : rwP ds d o < hs.length := by rw [h.length]; exact rwP_lt ds d hd o ho
  have e : (hs.map (toP ds))[rwP ds d o]? = some (startAt ds d + o) := by
    rw [h.sa]
    unfold rwP
    rw [List.getElem?_eq_getElem h1, h2]
  rw [List.getElem?_map, List.getElem?_eq_getElem hl] at e
  simp only [Option.map_some, Option.some.injEq] at e
  rw [List.getElem?_eq_getElem hl]
  obtain ⟨hd2, ho2⟩ := h.mem (List.getElem_mem hl)
  obtain ⟨e1, e2⟩ := place_inj ds _ _ hd2 hd _ _ ho2 ho e
  exact congrArg some (Prod.ext e1 e2)
theorem countL_none {L : List Nat} {p : List UInt8} (h : (rangeL L (upS' p)).1 = (rangeL L (upS' p)).2) : countL L p = 0 := by
  unfold countL
  split
  · rfl
  · omega
end Go.Proofs.Ytinlmodkdjpocaa

set_option linter.unusedVariables false
namespace Go.Proofs.Ytinlmodkdjpocaa

/-- how many samples the documents ahead of j have -/
def cntB (sz : List Nat) : Nat → Nat
  | 0 => 0
  | j + 1 => cntB sz j + (sz.getD j 0 / 32 + 1)
/-- the sampled places of a document of n bytes -/
def offD (d n : Nat) : List (Nat × Nat) := (List.range (n / 32 + 1)).map (fun t => (d, 32 * t))
/-- the sampled places of the first j documents -/
def offB (sz : List Nat) : Nat → List (Nat × Nat)
  | 0 => []
  | j + 1 => offB sz j ++ offD j (sz.getD j 0)
def offL (sz : List Nat) : List (Nat × Nat) := offB sz sz.length
theorem offD_length (d n : Nat) : (offD d n).length = n / 32 + 1 := by simp [offD]
theorem offB_length (sz : List Nat) (j : Nat) : (offB sz j).length = cntB sz j := by
  induction j with
  | zero => rfl
  | succ j ih => simp [offB, cntB, ih, offD_length]
theorem offL_length (sz : List Nat) : (offL sz).length = cntB sz sz.length := offB_length sz _
theorem offB_get (sz : List Nat) (k : Nat) : ∀ j t, j < k → t ≤ sz.getD j 0 / 32 → (offB sz k)[cntB sz j + t]? = some (j, 32 * t) := by
  induction k with
  | zero => intro j t hj; omega
  | succ k ih =>
    intro j t hj ht
    unfold offB
    by_cases h : j = k
    · subst h
      rw [List.getElem?_append_right (by rw [offB_length]; omega), offB_length, Nat.add_sub_cancel_left]
      unfold offD
      rw [List.getElem?_map, List.getElem?_range (by omega)]; rfl
    · have h1 := ih j t (by omega) ht
      obtain ⟨h2, _⟩ := List.getElem?_eq_some_iff.1 h1
      rw [List.getElem?_append_left h2]; exact h1
theorem offL_get (sz : List Nat) (j t : Nat) (hj : j < sz.length) (ht : t ≤ sz.getD j 0 / 32) : (offL sz)[cntB sz j + t]? = some (j, 32 * t) := offB_get sz _ j t hj ht
theorem offB_mem (sz : List Nat) (k : Nat) (a : Nat × Nat) : a ∈ offB sz k ↔ a.1 < k ∧ a.2 % 32 = 0 ∧ a.2 / 32 ≤ sz.getD a.1 0 / 32 := by
  induction k with
  | zero => simp [offB]
  | succ k ih =>
    obtain ⟨d, o⟩ := a
    simp only [offB, List.mem_append, ih, offD, List.mem_map, List.mem_range, Prod.mk.injEq]
    constructor
    · rintro (⟨h1, h2, h3⟩ | ⟨t, ht, rfl, rfl⟩)
      · exact ⟨by omega, h2, h3⟩
      · exact ⟨by omega, by omega, by omega⟩
    · rintro ⟨h1, h2, h3⟩
      by_cases h : d = k
      · subst h
        exact .inr ⟨o / 32, by omega, rfl, by omega⟩
      · exact .inl ⟨by omega, h2, h3⟩
theorem offB_nodup (sz : List Nat) (k : Nat) : (offB sz k).Nodup := by
  induction k with
  | zero => exact List.nodup_nil
  | succ k ih =>
    unfold offB
    rw [List.nodup_append]
    refine ⟨ih, ?_, ?_⟩
    · unfold offD
      rw [List.nodup_iff_pairwise_ne, List.pairwise_map]
      exact List.Pairwise.imp (fun {a b} h e => by simp at e; omega) (List.pairwise_lt_range (n := _))
    · intro a ha b hb e
      subst e
      have h1 := ((offB_mem sz k a).1 ha).1
      simp only [offD, List.mem_map] at hb
      obtain ⟨t, _, rfl⟩ := hb
      simp at h1
theorem cntB_mono (sz : List Nat) (i j : Nat) (h : i ≤ j) : cntB sz i ≤ cntB sz j := by
  induction j with
  | zero => obtain rfl : i = 0 := by omega
            exact Nat.le_refl _
  | succ j ih =>
    by_cases e : i = j + 1
    · rw [e]; exact Nat.le_refl _
    · have := ih (by omega)
      simp only [cntB]; omega
/-- how long the documents are -/
def szL (ds : List (List UInt8)) : List Nat := ds.map List.length
theorem szL_length (ds : List (List UInt8)) : (szL ds).length = ds.length := by simp [szL]
theorem szL_get (ds : List (List UInt8)) (d : Nat) (hd : d < ds.length) : (szL ds).getD d 0 = ds[d].length := by simp [szL, List.getD, hd]
/-- the samples: rows -/
def smL (ds : List (List UInt8)) : List Nat := (offL (szL ds)).map (fun a => rwP ds a.1 a.2)
theorem smL_length (ds : List (List UInt8)) : (smL ds).length = cntB (szL ds) ds.length := by
  unfold smL; rw [List.length_map, offL_length, szL_length]
theorem smL_get (ds : List (List UInt8)) (d t : Nat) (hd : d < ds.length) (ht : 32 * t ≤ ds[d].length) : (smL ds)[cntB (szL ds) d + t]? = some (rwP ds d (32 * t)) := by
  unfold smL
  rw [List.getElem?_map, offL_get (szL ds) d t (by rw [szL_length]; exact hd) (by rw [szL_get ds d hd]; omega)]
  rfl
theorem smL_mem (ds : List (List UInt8)) (a : Nat × Nat) (ha : a ∈ offL (szL ds)) : ∃ hd : a.1 < ds.length, a.2 ≤ ds[a.1].length ∧ a.2 % 32 = 0 := by
  obtain ⟨h1, h2, h3⟩ := (offB_mem (szL ds) _ a).1 ha
  rw [szL_length] at h1
  rw [szL_get ds _ h1] at h3
  exact ⟨h1, by omega, h2⟩
/-- samples may be as many as the row has symbols -/
theorem cntB_le (ds : List (List UInt8)) (j : Nat) (hj : j ≤ ds.length) : cntB (szL ds) j ≤ startAt ds j := by
  induction j with
  | zero => exact Nat.zero_le _
  | succ j ih =>
    have := ih (by omega)
    have h := startAt_succ ds j (by omega)
    simp only [cntB]
    rw [szL_get ds j (by omega)]
    omega
/-- many pairs put, one behind the other -/
def mpAll (l : List (Nat × (Nat × Nat))) : Int → Option (Nat × Nat) := l.foldl (fun f x => mpPut f (x.1 : Nat) x.2) (fun _ => none)
theorem mpAll_snoc (l : List (Nat × (Nat × Nat))) (x : Nat × (Nat × Nat)) : mpAll (l ++ [x]) = mpPut (mpAll l) (x.1 : Nat) x.2 := by simp [mpAll]
theorem rev_ind {α : Type} {P : List α → Prop} (h0 : P []) (h1 : ∀ l a, P l → P (l ++ [a])) : ∀ l, P l := by
  intro l
  rw [← List.reverse_reverse l]
  generalize l.reverse = m
  induction m with
  | nil => exact h0
  | cons a m ih => rw [List.reverse_cons]; exact h1 _ _ ih
theorem mpAll_mem (l : List (Nat × (Nat × Nat))) (hn : (l.map Prod.fst).Nodup) (x : Nat × (Nat × Nat)) (hx : x ∈ l) : mpAll l (x.1 : Nat) = some x.2 := by
  revert hn hx
  refine rev_ind (P := fun l => (l.map Prod.fst).Nodup → x ∈ l → mpAll l (x.1 : Nat) = some x.2) ?_ ?_ l
  · intro _ hx; simp at hx
  · intro l y ih hn hx
    rw [mpAll_snoc]
    rw [List.map_append, List.nodup_append] at hn
    unfold mpPut
    by_cases h : x = y
    · subst h; simp
    · have hxl : x ∈ l := by
        rcases List.mem_append.1 hx with h1 | h1
        · exact h1
        · simp at h1; exact absurd h1 h
      have hne : x.1 ≠ y.1 := hn.2.2 x.1 (List.mem_map.2 ⟨x, hxl, rfl⟩) y.1 (by simp)
      rw [if_neg (by intro e; exact hne (by omega))]
      exact ih hn.1 hxl
theorem mpAll_not (l : List (Nat × (Nat × Nat))) (n : Int) (h : ∀ x ∈ l, (x.1 : Int) ≠ n) : mpAll l n = none := by
  revert h
  refine rev_ind (P := fun l => (∀ x ∈ l, (x.1 : Int) ≠ n) → mpAll l n = none) ?_ ?_ l
  · intro _; rfl
  · intro l y ih h
    rw [mpAll_snoc]
    unfold mpPut
    rw [if_neg (fun e => h y (by simp) e.symm)]
    exact ih (fun x hx => h x (List.mem_append_left _ hx))
theorem mpAll_some (l : List (Nat × (Nat × Nat))) (n : Int) : (mpAll l n).isSome = decide (n ∈ l.map (fun x => ((x.1 : Nat) : Int))) := by
  refine rev_ind (P := fun l => (mpAll l n).isSome = decide (n ∈ l.map (fun x => ((x.1 : Nat) : Int)))) ?_ ?_ l
  · simp [mpAll]
  · intro l y ih
    rw [mpAll_snoc, Bool.eq_iff_iff]
    unfold mpPut
    by_cases e : n = (y.1 : Nat)
    · rw [if_pos e]; subst e; simp
    · rw [if_neg e, ih]
      simp only [List.map_append, List.map_cons, List.map_nil, List.mem_append, List.mem_singleton, e, or_false]
/-- the map of samples and the places that they are of -/
def plF (sm sz : List Nat) : Int → Option (Nat × Nat) := mpAll (sm.zip (offL sz))
def plT (sm sz : List Nat) (n : Nat) : Int → Option (Nat × Nat) := mpAll ((sm.zip (offL sz)).take n)
theorem plT_zero (sm sz : List Nat) : plT sm sz 0 = fun _ => none := rfl
theorem plT_succ (sm sz : List Nat) (n r : Nat) (a : Nat × Nat) (h1 : sm[n]? = some r) (h2 : (offL sz)[n]? = some a) : plT sm sz (n + 1) = mpPut (plT sm sz n) (r : Nat) a := by
  unfold plT
  have h : (sm.zip (offL sz))[n]? = some (r, a) := by rw [List.getElem?_zip_eq_some]; exact ⟨h1, h2⟩
  rw [List.take_add_one, h]
  exact mpAll_snoc _ (r, a)
theorem plT_all (sm sz : List Nat) (n : Nat) (h : sm.length ≤ n) : plT sm sz n = plF sm sz := by
  unfold plT plF
  rw [List.take_of_length_le (by rw [List.length_zip]; omega)]
/-- where a row begins: what the map tells of the rows of the walk -/
def atF (f : Int → Option (Nat × Nat)) (r : Nat → Int) (K : Nat) : Option (Nat × Nat) := (List.range (K + 1)).findSome? (fun k => (f (r k)).map (fun a => (a.1, a.2 + k)))
theorem zip_map_self {α β : Type} (l : List α) (g : α → β) : (l.map g).zip l = l.map (fun a => (g a, a)) := by
  induction l with
  | nil => rfl
  | cons a l ih => simp [ih]
theorem plF_docs (ds : List (List UInt8)) (d : Nat) (hd : d < ds.length) (o : Nat) (ho : o ≤ ds[d].length) :
    plF (smL ds) (szL ds) (rwP ds d o : Nat) = if o % 32 = 0 then some (d, o) else none := by
  unfold plF smL
  rw [zip_map_self]
  have hinj : ((offL (szL ds)).map (fun a => rwP ds a.1 a.2)).Nodup := by
    rw [List.nodup_iff_pairwise_ne, List.pairwise_map]
    refine List.Pairwise.imp_of_mem ?_ (List.nodup_iff_pairwise_ne.1 (offB_nodup (szL ds) (szL ds).length))
    intro a b ha hb hne e
    obtain ⟨h1, h2, h3⟩ := smL_mem ds a ha
    obtain ⟨h4, h5, h6⟩ := smL_mem ds b hb
    obtain ⟨e1, e2⟩ := rwP_inj ds _ _ h1 h4 _ _ h2 h5 e
    exact hne (Prod.ext e1 e2)
  by_cases h : o % 32 = 0
  · rw [if_pos h]
    have hm : (d, o) ∈ offL (szL ds) := (offB_mem (szL ds) _ (d, o)).2 ⟨by rw [szL_length]; exact hd, h, by simp only; rw [szL_get ds d hd]; omega⟩
    exact mpAll_mem ((offL (szL ds)).map (fun a => (rwP ds a.1 a.2, a))) (by rw [List.map_map]; exact hinj) (rwP ds d o, (d, o)) (List.mem_map.2 ⟨(d, o), hm, rfl⟩)
  · rw [if_neg h]
    apply mpAll_not
    intro x hx e
    obtain ⟨a, ha, rfl⟩ := List.mem_map.1 hx
    obtain ⟨h1, h2, h3⟩ := smL_mem ds a ha
    obtain ⟨e1, e2⟩ := rwP_inj ds _ _ h1 hd _ _ h2 ho (by simp only at e; omega)
    rw [e2] at h3
    exact h h3
theorem atF_docs (ds : List (List UInt8)) (d : Nat) (hd : d < ds.length) (o : Nat) (ho : o ≤ ds[d].length) :
    atF (plF (smL ds) (szL ds)) (fun k => (rwP ds d (o - k) : Nat)) (min o 31) = some (d, o) := by
  unfold atF
  have key : ∀ n, n ≤ o % 32 → (List.range n).findSome? (fun k => (plF (smL ds) (szL ds) ((fun k => ((rwP ds d (o - k) : Nat) : Int)) k)).map (fun a => (a.1, a.2 + k))) = none := by
    intro n hn
    rw [List.findSome?_eq_none_iff]
    intro k hk
    rw [List.mem_range] at hk
    simp only
    rw [plF_docs ds d hd (o - k) (by omega), if_neg (by omega)]
    rfl
  have hsp : List.range (min o 31 + 1) = List.range (o % 32) ++ ((List.range (min o 31 + 1 - o % 32)).map (fun t => o % 32 + t)) := by
    have : min o 31 + 1 = o % 32 + (min o 31 + 1 - o % 32) := by omega
    conv => lhs; rw [this]
    rw [List.range_add]
  rw [hsp, List.findSome?_append, key _ (Nat.le_refl _)]
  have hne : min o 31 + 1 - o % 32 = (min o 31 - o % 32) + 1 := by omega
  rw [hne, List.range_succ_eq_map, List.map_cons, List.findSome?_cons]
  simp only [Option.none_or, Nat.add_zero]
  rw [plF_docs ds d hd (o - o % 32) (by omega), if_pos (by omega)]
  simp only [Option.map_some, Option.some.injEq, Prod.mk.injEq, true_and]
  omega
end Go.Proofs.Ytinlmodkdjpocaa
