/- Plain lists: lexicographic order on rows of numbers. Generic: no program is named. Plain lists: the order of the places of a row, the symbol ahead, steps and ranges. Generic: no program is named. Plain lists: prefix doubling. Generic: no program is named. Plain lists: all places in order, the symbols ahead of them, the step to the place ahead, and walks. Plain lists: walks from a row on, documents read out of their row of symbols, ranges of rows. Plain lists: documents read out of their row of symbols; ranges of rows; counts of a text. Plain lists: the document's order of places; rows of places. -/
import Derived.Test.YtinlmodkdjpocaaTpl
set_option linter.unusedVariables false
namespace Go.Proofs.Ytinlmodkdjpocaa

def ltL : List Nat → List Nat → Bool
  | [], [] => false
  | [], _ :: _ => true
  | _ :: _, [] => false
  | a :: x, b :: y => decide (a < b) || (decide (a = b) && ltL x y)

theorem ltL_cons (a b : Nat) (x y : List Nat) : ltL (a :: x) (b :: y) = true ↔ a < b ∨ (a = b ∧ ltL x y = true) := by simp [ltL]
theorem ltL_irrefl (x : List Nat) : ltL x x = false := by
  induction x with
  | nil => rfl
  | cons a x ih => simp [ltL, ih]
theorem ltL_nil (x : List Nat) : ltL x [] = false := by cases x <;> rfl
theorem ltL_trans {x y z : List Nat} (h : ltL x y = true) (k : ltL y z = true) : ltL x z = true := by
  induction x generalizing y z with
  | nil =>
    cases z with
    | nil => rw [ltL_nil] at k; cases k
    | cons c z => rfl
  | cons a x ih =>
    cases y with
    | nil => cases h
    | cons b y =>
      cases z with
      | nil => cases k
      | cons c z =>
        rw [ltL_cons] at *
        rcases h with h | ⟨rfl, h⟩
        · rcases k with k | ⟨rfl, k⟩
          · exact .inl (Nat.lt_trans h k)
          · exact .inl h
        · rcases k with k | ⟨rfl, k⟩
          · exact .inl k
          · exact .inr ⟨rfl, ih h k⟩
theorem ltL_asymm {x y : List Nat} (h : ltL x y = true) : ltL y x = false := by
  cases k : ltL y x with
  | false => rfl
  | true => have := ltL_trans h k; rw [ltL_irrefl] at this; cases this
theorem ltL_total (x y : List Nat) : ltL x y = true ∨ x = y ∨ ltL y x = true := by
  induction x generalizing y with
  | nil => cases y with
    | nil => exact .inr (.inl rfl)
    | cons b y => exact .inl rfl
  | cons a x ih =>
    cases y with
    | nil => exact .inr (.inr rfl)
    | cons b y =>
      rw [ltL_cons, ltL_cons]
      rcases Nat.lt_trichotomy a b with h | rfl | h
      · exact .inl (.inl h)
      · rcases ih y with h | rfl | h
        · exact .inl (.inr ⟨rfl, h⟩)
        · exact .inr (.inl rfl)
        · exact .inr (.inr (.inr ⟨rfl, h⟩))
      · exact .inr (.inr (.inl h))
end Go.Proofs.Ytinlmodkdjpocaa

set_option linter.unusedVariables false
namespace Go.Proofs.Ytinlmodkdjpocaa

/-- from one place on against another one; t: is the first ahead of the second? -/
def ltS : List Nat → List Nat → Bool → Bool
  | a :: x, b :: y, t => if a < b then true else if b < a then false else if a = 0 then t else ltS x y t
  | [], [], t => t
  | [], _ :: _, _ => true
  | _ :: _, [], _ => false
def ltP (row : List Nat) (p q : Nat) : Bool := ltS (row.drop p) (row.drop q) (decide (p < q))
def symP (row : List Nat) (p : Nat) : Nat := row.getD p 0

theorem ltP_head (row : List Nat) (p q : Nat) (hp : p < row.length) (hq : q < row.length) :
    ltP row p q = true ↔ symP row p < symP row q ∨ (symP row p = symP row q ∧ ((symP row p = 0 ∧ p < q) ∨ (symP row p ≠ 0 ∧ ltP row (p + 1) (q + 1) = true))) := by
  have hd : decide (p + 1 < q + 1) = decide (p < q) := by
    by_cases h : p < q <;> simp [h]
  unfold ltP symP
  rw [List.drop_eq_getElem_cons hp, List.drop_eq_getElem_cons hq, hd]
  simp only [List.getD, List.getElem?_eq_getElem hp, List.getElem?_eq_getElem hq, Option.getD_some]
  generalize row[p] = a
  generalize row[q] = b
  simp only [ltS]
  rcases Nat.lt_trichotomy a b with h | rfl | h
  · simp [h]
  · by_cases h0 : a = 0
    · subst h0; simp
    · simp [h0]
  · have h1 : ¬ a < b := by omega
    have h2 : ¬ a = b := by omega
    simp [h, h1, h2]

/-- a row of documents: a symbol that is no separator has one behind it -/
def RowOk (row : List Nat) : Prop := ∀ p, p < row.length → symP row p ≠ 0 → p + 1 < row.length

theorem ltP_irrefl (row : List Nat) (p : Nat) : ltP row p p = false := by
  have h : ∀ x : List Nat, ltS x x false = false := by
    intro x
    induction x with
    | nil => rfl
    | cons a x ih => simp [ltS, ih]
  unfold ltP
  simpa using h _
theorem ltP_trans (row : List Nat) (hr : RowOk row) (k : Nat) : ∀ p q r, row.length - p ≤ k → p < row.length → q < row.length → r < row.length → ltP row p q = true → ltP row q r = true → ltP row p r = true := by
  induction k with
  | zero => intro p q r h hp; omega
  | succ k ih =>
    intro p q r h hp hq hr' h1 h2
    rw [ltP_head row p q hp hq] at h1
    rw [ltP_head row q r hq hr'] at h2
    rw [ltP_head row p r hp hr']
    rcases h1 with h1 | ⟨e1, h1⟩
    · rcases h2 with h2 | ⟨e2, _⟩
      · exact .inl (by omega)
      · exact .inl (by omega)
    · rcases h2 with h2 | ⟨e2, h2⟩
      · exact .inl (by omega)
      · refine .inr ⟨e1.trans e2, ?_⟩
        rcases h1 with ⟨z1, h1⟩ | ⟨z1, h1⟩
        · rcases h2 with ⟨z2, h2⟩ | ⟨z2, h2⟩
          · exact .inl ⟨z1, by omega⟩
          · omega
        · rcases h2 with ⟨z2, h2⟩ | ⟨z2, h2⟩
          · omega
          · exact .inr ⟨z1, ih _ _ _ (by omega) (hr p hp z1) (hr q hq z2) (hr r hr' (by omega)) h1 h2⟩
theorem ltP_total (row : List Nat) (hr : RowOk row) (k : Nat) : ∀ p q, row.length - p ≤ k → p < row.length → q < row.length → p ≠ q → ltP row p q = true ∨ ltP row q p = true := by
  induction k with
  | zero => intro p q h hp; omega
  | succ k ih =>
    intro p q h hp hq hne
    rw [ltP_head row p q hp hq, ltP_head row q p hq hp]
    rcases Nat.lt_trichotomy (symP row p) (symP row q) with h1 | h1 | h1
    · exact .inl (.inl h1)
    · by_cases z : symP row p = 0
      · rcases Nat.lt_or_gt_of_ne hne with h2 | h2
        · exact .inl (.inr ⟨h1, .inl ⟨z, h2⟩⟩)
        · exact .inr (.inr ⟨h1.symm, .inl ⟨by omega, h2⟩⟩)
      · rcases ih (p + 1) (q + 1) (by omega) (hr p hp z) (hr q hq (by omega)) (by omega) with h2 | h2
        · exact .inl (.inr ⟨h1, .inr ⟨z, h2⟩⟩)
        · exact .inr (.inr ⟨h1.symm, .inr ⟨by omega, h2⟩⟩)
    · exact .inr (.inl h1)

theorem ltP_asymm (row : List Nat) (hr : RowOk row) (p q : Nat) (hp : p < row.length) (hq : q < row.length) (h : ltP row p q = true) : ltP row q p = false := by
  cases k : ltP row q p with
  | false => rfl
  | true => have := ltP_trans row hr _ p q p (Nat.le_refl _) hp hq hp h k; rw [ltP_irrefl] at this; cases this

/-- a list of all places, in order -/
structure IsSA (row : List Nat) (sa : List Nat) : Prop where
  perm : sa.Perm (List.range row.length)
  sorted : sa.Pairwise (fun p q => ltP row p q = true)
theorem IsSA.length {row sa : List Nat} (h : IsSA row sa) : sa.length = row.length := by simpa using h.perm.length_eq
theorem IsSA.lt {row sa : List Nat} (h : IsSA row sa) {p : Nat} (hp : p ∈ sa) : p < row.length := by simpa using h.perm.mem_iff.1 hp
theorem IsSA.get_lt {row sa : List Nat} (h : IsSA row sa) (i : Nat) (hi : i < sa.length) : sa[i] < row.length := h.lt (List.getElem_mem hi)
/-- an initial segment of the list: what holds of one holds of all ahead of it -/
theorem count_initial {sa : List Nat} {f : Nat → Bool} (h : sa.Pairwise (fun p q => f q = true → f p = true)) (i : Nat) (hi : i < sa.length) : f sa[i] = true ↔ i < sa.countP f := by
  induction sa generalizing i with
  | nil => exact absurd hi (Nat.not_lt_zero _)
  | cons a sa ih =>
    rw [List.pairwise_cons] at h
    cases i with
    | zero =>
      simp only [List.getElem_cons_zero, List.countP_cons]
      constructor
      · intro hf; simp [hf]
      · intro hc
        cases hf : f a with
        | true => rfl
        | false =>
          exfalso
          have : sa.countP f = 0 := by
            rw [List.countP_eq_zero]
            intro b hb hfb
            have := h.1 b hb hfb
            rw [hf] at this; cases this
          simp [this, hf] at hc
    | succ i =>
      simp only [List.getElem_cons_succ, List.countP_cons]
      have hi' : i < sa.length := by simpa using hi
      rw [ih h.2 i hi']
      constructor
      · intro hc
        have hb : f sa[i] = true := (ih h.2 i hi').2 hc
        have := h.1 _ (List.getElem_mem hi') hb
        simp [this]; omega
      · intro hc
        split at hc
        · omega
        · rename_i hfa
          exfalso
          have : sa.countP f = 0 := by
            rw [List.countP_eq_zero]
            intro b hb hfb
            exact hfa (h.1 b hb hfb)
          omega

/-- the symbol ahead of a place -/
def ahead (row : List Nat) (p : Nat) : Nat := if p = 0 then 0 else symP row (p - 1)
/-- how many symbols are below s -/
def below (row : List Nat) (s : Nat) : Nat := (List.range row.length).countP (fun q => decide (symP row q < s))
/-- how many of the first i rows have s ahead -/
def rankL (row sa : List Nat) (s i : Nat) : Nat := (sa.take i).countP (fun p => decide (ahead row p = s))

theorem countP_shift (n : Nat) (f : Nat → Bool) (h : ∀ q, q + 1 = n → f q = false) : (List.range n).countP f = (List.range n).countP (fun q => decide (0 < q) && f (q - 1)) := by
  cases n with
  | zero => rfl
  | succ m =>
    conv => lhs; rw [List.range_succ, List.countP_append]
    conv => rhs; rw [List.range_succ_eq_map, List.countP_cons, List.countP_map]
    have h0 : List.countP f [m] = 0 := by simp [h m rfl]
    rw [h0]
    simp [Function.comp_def]
theorem countP_and_initial {sa : List Nat} {f g : Nat → Bool} (h : sa.Pairwise (fun p q => f q = true → f p = true)) : sa.countP (fun p => g p && f p) = (sa.take (sa.countP f)).countP g := by
  induction sa with
  | nil => rfl
  | cons a sa ih =>
    rw [List.pairwise_cons] at h
    simp only [List.countP_cons]
    cases hf : f a with
    | true => simp [ih h.2, List.countP_cons]
    | false =>
      have h0 : sa.countP f = 0 := by
        rw [List.countP_eq_zero]
        intro b hb hfb
        have := h.1 b hb hfb
        rw [hf] at this; cases this
      have h1 : sa.countP (fun p => g p && f p) = 0 := by
        rw [List.countP_eq_zero]
        intro b hb hfb
        rw [List.countP_eq_zero] at h0
        exact h0 b hb (by simp at hfb; exact hfb.2)
      simp [h0, h1]
theorem countP_or_disjoint (l : List Nat) (f g : Nat → Bool) (h : ∀ q ∈ l, ¬ (f q = true ∧ g q = true)) : l.countP (fun q => f q || g q) = l.countP f + l.countP g := by
  induction l with
  | nil => rfl
  | cons a l ih =>
    have h1 := h a (by simp)
    have h2 := ih (fun q hq => h q (by simp [hq]))
    simp only [List.countP_cons, h2]
    cases hf : f a <;> cases hg : g a <;> simp_all <;> omega

/-- ONE SYMBOL MORE IN FRONT: from an initial segment of the rows to the next one. -/
theorem step_count {row sa : List Nat} (hr : RowOk row) (h : IsSA row sa) (s : Nat) (hs : 0 < s) (f : Nat → Bool) (hf : ∀ p q, p < row.length → q < row.length → ltP row p q = true → f q = true → f p = true) :
    (List.range row.length).countP (fun q => decide (symP row q < s) || (decide (symP row q = s) && f (q + 1))) = below row s + rankL row sa s (sa.countP f) := by
  rw [countP_or_disjoint _ _ _ (fun q _ hq => by simp at hq; omega)]
  unfold below rankL
  congr 1
  have hmono : sa.Pairwise (fun p q => f q = true → f p = true) := List.Pairwise.imp_of_mem (fun hp hq hlt => hf _ _ (h.lt hp) (h.lt hq) hlt) h.sorted
  rw [← countP_and_initial hmono, h.perm.countP_eq, countP_shift]
  · apply List.countP_congr
    intro q hq
    simp only [List.mem_range] at hq
    unfold ahead
    by_cases h0 : q = 0
    · subst h0; simp; omega
    · simp [h0, show 0 < q from by omega, show q - 1 + 1 = q from by omega]
  · intro q hq
    cases hd : decide (symP row q = s) with
    | false => simp
    | true =>
      simp at hd
      have := hr q (by omega) (by omega)
      omega
end Go.Proofs.Ytinlmodkdjpocaa

set_option linter.unusedVariables false
namespace Go.Proofs.Ytinlmodkdjpocaa

/-- places by their ranks, what is the same as it came -/
def sortByP (kinds : Nat) (rank : Nat → Nat) (l : List Nat) : List Nat := (List.range kinds).flatMap (fun r => l.filter (fun p => rank p == r))
/-- the places in the order of what stands k places behind them -/
def secondP (n k : Nat) (sa : List Nat) : List Nat := List.range' (n - k) k ++ (sa.filter (fun p => decide (k ≤ p))).map (· - k)
/-- what stands k places behind a place, by its rank and one more; 0: nothing -/
def behindP (n : Nat) (rank : Nat → Nat) (k p : Nat) : Nat := if p + k < n then rank (p + k) + 1 else 0
/-- how often the class turns among the first -/
def turnsP (f : Nat → Nat × Nat) : List Nat → Nat
  | a :: b :: l => (if f a = f b then 0 else 1) + turnsP f (b :: l)
  | _ => 0
/-- the key of a place: the first k symbols from it on -/
def keyP (R : List Nat) (k p : Nat) : List Nat := (R.drop p).take k

theorem sortByP_mem {kinds : Nat} {rank : Nat → Nat} {l : List Nat} (h : ∀ p ∈ l, rank p < kinds) (p : Nat) : p ∈ sortByP kinds rank l ↔ p ∈ l := by
  unfold sortByP
  simp only [List.mem_flatMap, List.mem_range, List.mem_filter, beq_iff_eq]
  constructor
  · rintro ⟨r, _, hp, _⟩; exact hp
  · intro hp; exact ⟨rank p, h p hp, hp, rfl⟩
theorem countP_eq_sum (kinds : Nat) (rank : Nat → Nat) (l : List Nat) (f : Nat → Bool) (h : ∀ p ∈ l, rank p < kinds) : (sortByP kinds rank l).countP f = l.countP f := by
  induction l with
  | nil => simp [sortByP]
  | cons a l ih =>
    have ih' := ih (fun p hp => h p (List.mem_cons_of_mem _ hp))
    have ha := h a (List.mem_cons_self ..)
    unfold sortByP at ih' ⊢
    rw [List.countP_flatMap] at ih' ⊢
    rw [List.countP_cons, ← ih']
    clear ih ih' h
    have key : ∀ m, (List.map (List.countP f ∘ fun r => List.filter (fun p => rank p == r) (a :: l)) (List.range m)).sum = (List.map (List.countP f ∘ fun r => List.filter (fun p => rank p == r) l) (List.range m)).sum + if rank a < m ∧ f a = true then 1 else 0 := by
      intro m
      induction m with
      | zero => simp
      | succ m ihm =>
        rw [List.range_succ, List.map_append, List.map_append, List.sum_append, List.sum_append, ihm]
        simp only [List.map_cons, List.map_nil, List.sum_cons, List.sum_nil, Function.comp_def, List.filter_cons]
        by_cases e : rank a = m
        · subst e
          by_cases hf : f a = true
          · simp [hf]; omega
          · simp [hf]
        · have : (rank a == m) = false := by simp [e]
          simp only [this]
          by_cases hf : f a = true
          · by_cases hl : rank a < m
            · simp [hf, hl, show rank a < m + 1 from by omega]; omega
            · simp [hf, hl, show ¬ rank a < m + 1 from by omega]
          · simp [hf]
    rw [key kinds]
    by_cases hf : f a = true <;> simp [hf, ha]
theorem sortByP_perm {kinds : Nat} {rank : Nat → Nat} {l : List Nat} (h : ∀ p ∈ l, rank p < kinds) : (sortByP kinds rank l).Perm l := by
  rw [List.perm_iff_count]
  intro a
  exact countP_eq_sum kinds rank l _ h
theorem sortByP_pairwise {kinds : Nat} {rank : Nat → Nat} {l : List Nat} {S T : Nat → Nat → Prop} (hl : l.Pairwise S) (h1 : ∀ p ∈ l, ∀ q ∈ l, rank p < rank q → T p q) (h2 : ∀ p ∈ l, ∀ q ∈ l, rank p = rank q → S p q → T p q) : (sortByP kinds rank l).Pairwise T := by
  unfold sortByP
  rw [List.pairwise_flatMap]
  constructor
  · intro r _
    refine List.Pairwise.imp_of_mem ?_ (hl.filter _)
    intro p q hp hq hs
    simp only [List.mem_filter, beq_iff_eq] at hp hq
    exact h2 p hp.1 q hq.1 (by omega) hs
  · refine List.Pairwise.imp ?_ (List.pairwise_lt_range (n := kinds))
    intro r s hrs p hp q hq
    simp only [List.mem_filter, beq_iff_eq] at hp hq
    exact h1 p hp.1 q hq.1 (by omega)

theorem ltL_append {k : Nat} (a b c d : List Nat) (ha : a.length = k ∨ b = []) (hc : c.length = k ∨ d = []) (hak : a.length ≤ k) (hck : c.length ≤ k) :
    ltL (a ++ b) (c ++ d) = true ↔ ltL a c = true ∨ (a = c ∧ ltL b d = true) := by
  induction a generalizing c k with
  | nil =>
    cases c with
    | nil => simp [ltL_irrefl]
    | cons y c =>
      simp only [List.length_nil] at ha
      have hb : b = [] := by rcases ha with h | h; simp [← h] at hck; exact h
      subst hb
      simp [ltL]
  | cons x a ih =>
    cases c with
    | nil =>
      have hd : d = [] := by rcases hc with h | h; simp [← h] at hak; exact h
      subst hd
      simp [ltL]
    | cons y c =>
      simp only [List.cons_append, ltL_cons, List.cons.injEq]
      obtain ⟨k', rfl⟩ : ∃ m, k = m + 1 := ⟨k - 1, by simp at hak; omega⟩
      simp only [List.length_cons, Nat.add_right_cancel_iff, Nat.add_le_add_iff_right] at ha hc hak hck
      have := ih (k := k') c ha hc hak hck
      rw [this]
      constructor
      · rintro (h | ⟨rfl, h | ⟨rfl, h⟩⟩)
        · exact .inl (.inl h)
        · exact .inl (.inr ⟨rfl, h⟩)
        · exact .inr ⟨⟨rfl, rfl⟩, h⟩
      · rintro ((h | ⟨rfl, h⟩) | ⟨⟨rfl, rfl⟩, h⟩)
        · exact .inl h
        · exact .inr ⟨rfl, .inl h⟩
        · exact .inr ⟨rfl, .inr ⟨rfl, h⟩⟩
theorem keyP_two (R : List Nat) (k p : Nat) : keyP R (2 * k) p = keyP R k p ++ keyP R k (p + k) := by
  unfold keyP
  rw [show 2 * k = k + k from by omega, List.take_add, List.drop_drop]
theorem keyP_len (R : List Nat) (k p : Nat) : (keyP R k p).length ≤ k := by unfold keyP; simp; omega
theorem keyP_full (R : List Nat) (k p : Nat) : (keyP R k p).length = k ∨ keyP R k (p + k) = [] := by
  unfold keyP
  by_cases h : p + k ≤ R.length
  · left; simp; omega
  · right; rw [List.drop_eq_nil_of_le (by omega), List.take_nil]
theorem keyP_lt_two (R : List Nat) (k p q : Nat) : ltL (keyP R (2 * k) p) (keyP R (2 * k) q) = true ↔ ltL (keyP R k p) (keyP R k q) = true ∨ (keyP R k p = keyP R k q ∧ ltL (keyP R k (p + k)) (keyP R k (q + k)) = true) := by
  rw [keyP_two, keyP_two]
  exact ltL_append _ _ _ _ (keyP_full R k p) (keyP_full R k q) (keyP_len R k p) (keyP_len R k q)
theorem ltL_of_take {k : Nat} {a b : List Nat} (h : ltL (a.take k) (b.take k) = true) : ltL a b = true := by
  induction k generalizing a b with
  | zero => simp [ltL] at h
  | succ k ih =>
    cases a with
    | nil => cases b with
      | nil => simp [ltL] at h
      | cons y b => rfl
    | cons x a => cases b with
      | nil => simp [ltL] at h
      | cons y b =>
        simp only [List.take_succ_cons, ltL_cons] at h ⊢
        rcases h with h | ⟨h1, h2⟩
        · exact .inl h
        · exact .inr ⟨h1, ih h2⟩

/-- what holds when places are in the order of their first k symbols, and ranked by them -/
structure DblI (R : List Nat) (k : Nat) (sa : List Nat) (rank : Nat → Nat) (kinds : Nat) : Prop where
  perm : sa.Perm (List.range R.length)
  sorted : sa.Pairwise (fun p q => ltL (keyP R k q) (keyP R k p) = false)
  rk : ∀ p q, p < R.length → q < R.length → (rank p < rank q ↔ ltL (keyP R k p) (keyP R k q) = true)
  kn : ∀ p, p < R.length → rank p < kinds
theorem DblI.mem {R : List Nat} {k : Nat} {sa : List Nat} {rank : Nat → Nat} {kinds : Nat} (h : DblI R k sa rank kinds) {p : Nat} : p ∈ sa ↔ p < R.length := by rw [h.perm.mem_iff, List.mem_range]
theorem DblI.eq_iff {R : List Nat} {k : Nat} {sa : List Nat} {rank : Nat → Nat} {kinds : Nat} (h : DblI R k sa rank kinds) {p q : Nat} (hp : p < R.length) (hq : q < R.length) : rank p = rank q ↔ keyP R k p = keyP R k q := by
  constructor
  · intro e
    rcases ltL_total (keyP R k p) (keyP R k q) with h1 | h1 | h1
    · have := (h.rk p q hp hq).2 h1; omega
    · exact h1
    · have := (h.rk q p hq hp).2 h1; omega
  · intro e
    have h1 : ¬ rank p < rank q := fun h1 => by have := (h.rk p q hp hq).1 h1; rw [e, ltL_irrefl] at this; cases this
    have h2 : ¬ rank q < rank p := fun h1 => by have := (h.rk q p hq hp).1 h1; rw [e, ltL_irrefl] at this; cases this
    omega
theorem keyP_nil (R : List Nat) (k p : Nat) (h : R.length ≤ p) : keyP R k p = [] := by unfold keyP; rw [List.drop_eq_nil_of_le h, List.take_nil]
theorem keyP_ne (R : List Nat) (k p : Nat) (hk : 0 < k) (h : p < R.length) : keyP R k p ≠ [] := by
  unfold keyP
  rw [List.drop_eq_getElem_cons h]
  obtain ⟨m, rfl⟩ : ∃ m, k = m + 1 := ⟨k - 1, by omega⟩
  rw [List.take_succ_cons]
  exact List.cons_ne_nil _ _
theorem DblI.behind {R : List Nat} {k : Nat} {sa : List Nat} {rank : Nat → Nat} {kinds : Nat} (h : DblI R k sa rank kinds) (hk : 0 < k) (p q : Nat) :
    behindP R.length rank k p < behindP R.length rank k q ↔ ltL (keyP R k (p + k)) (keyP R k (q + k)) = true := by
  unfold behindP
  by_cases hp : p + k < R.length
  · by_cases hq : q + k < R.length
    · rw [if_pos hp, if_pos hq, ← h.rk _ _ hp hq]; omega
    · rw [if_pos hp, if_neg hq, keyP_nil R k (q + k) (by omega), ltL_nil]; simp
  · rw [if_neg hp, keyP_nil R k (p + k) (by omega)]
    by_cases hq : q + k < R.length
    · rw [if_pos hq]
      have := keyP_ne R k (q + k) hk hq
      cases hx : keyP R k (q + k) with
      | nil => exact absurd hx this
      | cons a x => simp [ltL]
    · rw [if_neg hq, keyP_nil R k (q + k) (by omega)]; simp [ltL]
/-- the pair of a place -/
def pairP (n : Nat) (rank : Nat → Nat) (k p : Nat) : Nat × Nat := (rank p, behindP n rank k p)
theorem DblI.pair_lt {R : List Nat} {k : Nat} {sa : List Nat} {rank : Nat → Nat} {kinds : Nat} (h : DblI R k sa rank kinds) (hk : 0 < k) {p q : Nat} (hp : p < R.length) (hq : q < R.length) :
    ltL (keyP R (2 * k) p) (keyP R (2 * k) q) = true ↔ rank p < rank q ∨ (rank p = rank q ∧ behindP R.length rank k p < behindP R.length rank k q) := by
  rw [keyP_lt_two, ← h.rk p q hp hq, ← h.eq_iff hp hq, ← h.behind hk]
theorem DblI.pair_eq {R : List Nat} {k : Nat} {sa : List Nat} {rank : Nat → Nat} {kinds : Nat} (h : DblI R k sa rank kinds) (hk : 0 < k) {p q : Nat} (hp : p < R.length) (hq : q < R.length) :
    keyP R (2 * k) p = keyP R (2 * k) q ↔ pairP R.length rank k p = pairP R.length rank k q := by
  have h1 := h.pair_lt hk hp hq
  have h2 := h.pair_lt hk hq hp
  unfold pairP
  rw [Prod.mk.injEq]
  constructor
  · intro e
    rw [e, ltL_irrefl] at h1 h2
    simp at h1 h2
    omega
  · rintro ⟨e1, e2⟩
    rcases ltL_total (keyP R (2 * k) p) (keyP R (2 * k) q) with h3 | h3 | h3
    · have := h1.1 h3; omega
    · exact h3
    · have := h2.1 h3; omega

theorem secondP_perm {n k : Nat} {sa : List Nat} (hk : k ≤ n) (h : sa.Perm (List.range n)) : (secondP n k sa).Perm (List.range n) := by
  have h1 : ((sa.filter (fun p => decide (k ≤ p))).map (· - k)).Perm (((List.range n).filter (fun p => decide (k ≤ p))).map (· - k)) := (h.filter _).map _
  have h2 : ((List.range n).filter (fun p => decide (k ≤ p))).map (· - k) = List.range (n - k) := by
    obtain ⟨m, rfl⟩ : ∃ m, n = k + m := ⟨n - k, by omega⟩
    rw [Nat.add_sub_cancel_left, List.range_add, List.filter_append, List.map_append]
    have e1 : (List.range k).filter (fun p => decide (k ≤ p)) = [] := by
      rw [List.filter_eq_nil_iff]; intro a ha; simp at ha ⊢; omega
    have e2 : ((List.range m).map (k + ·)).filter (fun p => decide (k ≤ p)) = (List.range m).map (k + ·) := by
      rw [List.filter_eq_self]; intro a ha; simp at ha ⊢; omega
    rw [e1, e2, List.map_map]
    simp [Function.comp_def]
  rw [h2] at h1
  unfold secondP
  refine (List.perm_append_comm.trans (h1.append_right _)).trans ?_
  have : List.range n = List.range (n - k) ++ List.range' (n - k) k := by
    rw [List.range_eq_range', List.range_eq_range']
    have := List.range'_append (s := 0) (m := n - k) (n := k) (step := 1)
    simp at this
    rw [this, Nat.sub_add_cancel hk]
  rw [this]
theorem secondP_sorted {R : List Nat} {k : Nat} {sa : List Nat} {rank : Nat → Nat} {kinds : Nat} (h : DblI R k sa rank kinds) (hk : k ≤ R.length) :
    (secondP R.length k sa).Pairwise (fun p q => ltL (keyP R k (q + k)) (keyP R k (p + k)) = false) := by
  unfold secondP
  rw [List.pairwise_append]
  refine ⟨?_, ?_, ?_⟩
  · refine List.Pairwise.imp_of_mem ?_ (List.pairwise_lt_range' (s := R.length - k) (n := k))
    intro p q hp hq _
    simp only [List.mem_range'_1] at hp hq
    rw [keyP_nil R k (p + k) (by omega), ltL_nil]
  · rw [List.pairwise_map]
    refine List.Pairwise.imp_of_mem ?_ (h.sorted.filter _)
    intro p q hp hq hlt
    simp only [List.mem_filter, decide_eq_true_eq] at hp hq
    rw [Nat.sub_add_cancel hp.2, Nat.sub_add_cancel hq.2]
    exact hlt
  · intro p hp q hq
    simp only [List.mem_range'_1] at hp
    rw [keyP_nil R k (p + k) (by omega), ltL_nil]

/-- the places in the order of twice as many symbols -/
theorem DblI.sort {R : List Nat} {k : Nat} {sa : List Nat} {rank : Nat → Nat} {kinds : Nat} (h : DblI R k sa rank kinds) (hk0 : 0 < k) (hk : k ≤ R.length) :
    (sortByP kinds rank (secondP R.length k sa)).Perm (List.range R.length) ∧ (sortByP kinds rank (secondP R.length k sa)).Pairwise (fun p q => ltL (keyP R (2 * k) q) (keyP R (2 * k) p) = false) := by
  have hp := secondP_perm hk h.perm
  have hm : ∀ p, p ∈ secondP R.length k sa → p < R.length := fun p hp' => by rwa [hp.mem_iff, List.mem_range] at hp'
  refine ⟨(sortByP_perm (fun p hp' => h.kn p (hm p hp'))).trans hp, sortByP_pairwise (secondP_sorted h hk) ?_ ?_⟩
  · intro p hp q hq hlt
    rw [← Bool.not_eq_true, h.pair_lt hk0 (hm q hq) (hm p hp)]
    omega
  · intro p hp q hq he hs
    rw [← Bool.not_eq_true, h.pair_lt hk0 (hm q hq) (hm p hp), h.behind hk0, hs, he]
    simp

/-- the number of turns up to each place of a list -/
theorem turnsP_mono (f : Nat → Nat × Nat) (l : List Nat) (i j : Nat) (hij : i ≤ j) : turnsP f (l.take i) ≤ turnsP f (l.take j) := by
  induction l generalizing i j with
  | nil => simp
  | cons a l ih =>
    cases i with
    | zero => simp [turnsP]
    | succ i => cases j with
      | zero => omega
      | succ j =>
        have h := ih i j (by omega)
        cases l with
        | nil => simp [turnsP]
        | cons b l =>
          cases i with
          | zero => simp [turnsP]
          | succ i => cases j with
            | zero => omega
            | succ j =>
              simp only [List.take_succ_cons, turnsP] at h ⊢
              omega
theorem turnsP_succ (f : Nat → Nat × Nat) (l : List Nat) (i : Nat) (h : i + 1 < l.length) : turnsP f (l.take (i + 2)) = turnsP f (l.take (i + 1)) + if f l[i] = f l[i + 1] then 0 else 1 := by
  induction l generalizing i with
  | nil => exact absurd h (Nat.not_lt_zero _)
  | cons a l ih =>
    cases l with
    | nil => simp at h
    | cons b l =>
      cases i with
      | zero => simp [turnsP]
      | succ i =>
        have := ih i (by simpa using h)
        simp only [List.take_succ_cons, turnsP, List.getElem_cons_succ] at this ⊢
        omega
theorem turnsP_le (f : Nat → Nat × Nat) (l : List Nat) (i : Nat) : turnsP f (l.take (i + 1)) ≤ i := by
  induction i with
  | zero => cases l <;> simp [turnsP]
  | succ i ih =>
    by_cases h : i + 1 < l.length
    · rw [turnsP_succ f l i h]; split <;> omega
    · have : l.take (i + 1 + 1) = l.take (i + 1) := by rw [List.take_of_length_le (by omega), List.take_of_length_le (by omega)]
      rw [this]; omega

theorem turnsP_same {f : Nat → Nat × Nat} {l : List Nat} (hc : ∀ i m j (hi : i ≤ m) (hm : m ≤ j) (hj : j < l.length), f l[i] = f l[j] → f l[m] = f l[i]) (i d : Nat) (hj : i + d < l.length) :
    turnsP f (l.take (i + d + 1)) = turnsP f (l.take (i + 1)) ↔ f (l[i]'(by omega)) = f l[i + d] := by
  induction d with
  | zero => simp
  | succ d ih =>
    have ih' := ih (by omega)
    have h1 := turnsP_succ f l (i + d) (by omega)
    have h2 := turnsP_mono f l (i + 1) (i + d + 1) (by omega)
    rw [show i + (d + 1) + 1 = i + d + 2 from by omega, h1]
    have e : l[i + (d + 1)] = l[i + d + 1] := by simp only [Nat.add_assoc]
    rw [e]
    constructor
    · intro h
      have h3 : turnsP f (l.take (i + d + 1)) = turnsP f (l.take (i + 1)) := by omega
      have h4 := ih'.1 h3
      by_cases h5 : f l[i + d] = f l[i + d + 1]
      · rw [h4, h5]
      · rw [if_neg h5] at h; omega
    · intro h
      have h3 := hc i (i + d) (i + d + 1) (by omega) (by omega) (by omega) h
      rw [ih'.2 h3.symm, if_pos (h3.trans h)]
      omega

theorem DblI.next {R : List Nat} {k : Nat} {sa : List Nat} {rank : Nat → Nat} {kinds : Nat} (h : DblI R k sa rank kinds) (hk0 : 0 < k) (hk : k ≤ R.length) {sa2 : List Nat} (hs : sa2 = sortByP kinds rank (secondP R.length k sa)) {next : Nat → Nat}
    (hn : ∀ i (hi : i < sa2.length), next sa2[i] = turnsP (pairP R.length rank k) (sa2.take (i + 1))) : DblI R (2 * k) sa2 next (turnsP (pairP R.length rank k) sa2 + 1) := by
  obtain ⟨h1, h2⟩ := h.sort hk0 hk
  rw [← hs] at h1 h2
  have hm : ∀ p, p ∈ sa2 ↔ p < R.length := fun p => by rw [h1.mem_iff, List.mem_range]
  have hlt : ∀ i (hi : i < sa2.length), sa2[i] < R.length := fun i hi => (hm _).1 (List.getElem_mem hi)
  rw [List.pairwise_iff_getElem] at h2
  have hc : ∀ i m j (hi : i ≤ m) (hm : m ≤ j) (hj : j < sa2.length), pairP R.length rank k sa2[i] = pairP R.length rank k sa2[j] → pairP R.length rank k sa2[m] = pairP R.length rank k sa2[i] := by
    intro i m j hi hmj hj e
    rw [← h.pair_eq hk0 (hlt _ _) (hlt _ _)] at e ⊢
    by_cases e1 : i = m
    · subst e1; rfl
    by_cases e2 : m = j
    · subst e2; exact e.symm
    have a1 := h2 i m (by omega) (by omega) (by omega)
    have a2 := h2 m j (by omega) (by omega) (by omega)
    rcases ltL_total (keyP R (2 * k) sa2[i]) (keyP R (2 * k) sa2[m]) with h3 | h3 | h3
    · rw [e, a2] at h3; cases h3
    · exact h3.symm
    · rw [a1] at h3; cases h3
  refine ⟨h1, List.pairwise_iff_getElem.2 h2, ?_, ?_⟩
  · intro p q hp hq
    obtain ⟨i, hi, rfl⟩ := List.mem_iff_getElem.1 ((hm p).2 hp)
    obtain ⟨j, hj, rfl⟩ := List.mem_iff_getElem.1 ((hm q).2 hq)
    rw [hn i hi, hn j hj]
    rcases Nat.lt_trichotomy i j with hij | rfl | hij
    · have h3 := turnsP_same hc i (j - i) (by omega)
      have ej : i + (j - i) = j := by omega
      simp only [ej] at h3
      have h4 := turnsP_mono (pairP R.length rank k) sa2 (i + 1) (j + 1) (by omega)
      rw [← h.pair_eq hk0 (hlt _ _) (hlt _ _)] at h3
      have h5 := h2 i j hi hj hij
      constructor
      · intro h6
        rcases ltL_total (keyP R (2 * k) sa2[i]) (keyP R (2 * k) sa2[j]) with h7 | h7 | h7
        · exact h7
        · have := h3.2 h7; omega
        · rw [h5] at h7; cases h7
      · intro h6
        have : ¬ keyP R (2 * k) sa2[i] = keyP R (2 * k) sa2[j] := fun e => by rw [e, ltL_irrefl] at h6; cases h6
        rw [← h3] at this
        omega
    · simp [ltL_irrefl]
    · have h4 := turnsP_mono (pairP R.length rank k) sa2 (j + 1) (i + 1) (by omega)
      rw [h2 j i hj hi hij]
      simp; omega
  · intro p hp
    obtain ⟨i, hi, rfl⟩ := List.mem_iff_getElem.1 ((hm p).2 hp)
    rw [hn i hi]
    have := turnsP_mono (pairP R.length rank k) sa2 (i + 1) sa2.length (by omega)
    rw [List.take_length] at this
    omega

/-- in strict order: each place is told apart by its class -/
theorem DblI.done {R : List Nat} {k : Nat} {sa : List Nat} {rank : Nat → Nat} {kinds : Nat} (h : DblI R k sa rank kinds) (hd : R.length ≤ k ∨ ∀ i j (hi : i < sa.length) (hj : j < sa.length), i < j → rank sa[i] < rank sa[j]) :
    sa.Pairwise (fun p q => ltL (R.drop p) (R.drop q) = true) := by
  have hlt : ∀ i (hi : i < sa.length), sa[i] < R.length := fun i hi => h.mem.1 (List.getElem_mem hi)
  rw [List.pairwise_iff_getElem]
  intro i j hi hj hij
  rcases hd with hd | hd
  · have h2 := List.pairwise_iff_getElem.1 h.sorted i j hi hj hij
    unfold keyP at h2
    have e : ∀ p, (R.drop p).take k = R.drop p := fun p => List.take_of_length_le (by simp; omega)
    rw [e, e] at h2
    rcases ltL_total (R.drop sa[i]) (R.drop sa[j]) with h7 | h7 | h7
    · exact h7
    · exfalso
      have hl := congrArg List.length h7
      simp only [List.length_drop] at hl
      have a := hlt i hi
      have b := hlt j hj
      have e2 : sa[i] = sa[j] := by omega
      have hnd : sa.Nodup := h.perm.nodup_iff.2 List.nodup_range
      exact absurd e2 (List.pairwise_iff_getElem.1 hnd i j hi hj hij)
    · rw [h2] at h7; cases h7
  · exact ltL_of_take (((h.rk _ _ (hlt i hi) (hlt j hj)).1 (hd i j hi hj hij)))

/-- all classes are told apart when there are as many as places -/
theorem turnsP_all {f : Nat → Nat × Nat} {l : List Nat} (h : turnsP f l + 1 = l.length) (i : Nat) (hi : i < l.length) : turnsP f (l.take (i + 1)) = i := by
  have h1 : ∀ d, i + d < l.length → turnsP f (l.take (i + d + 1)) ≤ turnsP f (l.take (i + 1)) + d := by
    intro d
    induction d with
    | zero => intro _; exact Nat.le_refl _
    | succ d ih =>
      intro hd
      have a := ih (by omega)
      have b := turnsP_succ f l (i + d) (by omega)
      rw [show i + (d + 1) + 1 = i + d + 2 from by omega, b]
      split <;> omega
  have h2 := h1 (l.length - 1 - i) (by omega)
  rw [show i + (l.length - 1 - i) + 1 = l.length from by omega, List.take_length] at h2
  have h3 := turnsP_le f l i
  omega
end Go.Proofs.Ytinlmodkdjpocaa

set_option linter.unusedVariables false
namespace Go.Proofs.Ytinlmodkdjpocaa

/-- the places' ranks by their first symbol; a separator's is its document's -/
def firstP (row : List Nat) (p : Nat) : Nat := if symP row p = 0 then (row.take p).count 0 else row.count 0 + symP row p
def firstR (row : List Nat) : List Nat := (List.range row.length).map (firstP row)
theorem firstR_length (row : List Nat) : (firstR row).length = row.length := by simp [firstR]
theorem firstR_drop (row : List Nat) (p : Nat) (h : p < row.length) : (firstR row).drop p = firstP row p :: (firstR row).drop (p + 1) := by
  rw [List.drop_eq_getElem_cons (by rw [firstR_length]; exact h)]
  simp [firstR]
theorem take_count_le (row : List Nat) (p : Nat) : (row.take p).count 0 ≤ row.count 0 := (List.take_sublist p row).count_le 0
theorem take_count_mono (row : List Nat) (p q : Nat) (h : p ≤ q) : (row.take p).count 0 ≤ (row.take q).count 0 :=
  (List.take_prefix_take_left h).sublist.count_le 0
theorem take_count_succ (row : List Nat) (p : Nat) (h : p < row.length) (h0 : symP row p = 0) : (row.take (p + 1)).count 0 = (row.take p).count 0 + 1 := by
  rw [List.take_succ_eq_append_getElem h, List.count_append]
  have : row[p] = 0 := by simpa [symP, List.getD, h] using h0
  simp [this]
theorem ltL_drop (row : List Nat) (hr : RowOk row) (k : Nat) : ∀ p q, row.length - p ≤ k → p < row.length → q < row.length → (ltL ((firstR row).drop p) ((firstR row).drop q) = true ↔ ltP row p q = true) := by
  induction k with
  | zero => intro p q h hp; omega
  | succ k ih =>
    intro p q h hp hq
    rw [firstR_drop row p hp, firstR_drop row q hq, ltL_cons, ltP_head row p q hp hq]
    unfold firstP
    by_cases zp : symP row p = 0
    · by_cases zq : symP row q = 0
      · rw [if_pos zp, if_pos zq]
        have a := take_count_succ row p hp zp
        have b := take_count_succ row q hq zq
        rcases Nat.lt_trichotomy p q with e | rfl | e
        · have := take_count_mono row (p + 1) q (by omega)
          constructor
          · intro _; exact .inr ⟨by omega, .inl ⟨zp, e⟩⟩
          · intro _; left; omega
        · constructor
          · rintro (h1 | ⟨_, h1⟩)
            · omega
            · rw [ltL_irrefl] at h1; cases h1
          · rintro (h1 | ⟨_, ⟨_, h1⟩ | ⟨h1, _⟩⟩)
            · omega
            · omega
            · exact absurd zp h1
        · have := take_count_mono row (q + 1) p (by omega)
          constructor
          · rintro (h1 | ⟨h1, _⟩) <;> omega
          · rintro (h1 | ⟨_, ⟨_, h1⟩ | ⟨h1, _⟩⟩)
            · omega
            · omega
            · exact absurd zp h1
      · rw [if_pos zp, if_neg zq]
        have a := take_count_le row p
        constructor
        · intro _; left; omega
        · intro _; left; omega
    · by_cases zq : symP row q = 0
      · rw [if_neg zp, if_pos zq]
        have a := take_count_le row q
        constructor
        · rintro (h1 | ⟨h1, _⟩) <;> omega
        · rintro (h1 | ⟨h1, _⟩) <;> omega
      · rw [if_neg zp, if_neg zq, ih (p + 1) (q + 1) (by omega) (hr p hp zp) (hr q hq zq)]
        constructor
        · rintro (h1 | ⟨h1, h2⟩)
          · left; omega
          · exact .inr ⟨by omega, .inr ⟨zp, h2⟩⟩
        · rintro (h1 | ⟨h1, ⟨h2, _⟩ | ⟨_, h2⟩⟩)
          · left; omega
          · exact absurd h2 zp
          · exact .inr ⟨by omega, h2⟩

theorem IsSA.of_dbl {row sa : List Nat} (hr : RowOk row) (hp : sa.Perm (List.range row.length)) (h : sa.Pairwise (fun p q => ltL ((firstR row).drop p) ((firstR row).drop q) = true)) : IsSA row sa := by
  refine ⟨hp, List.Pairwise.imp_of_mem ?_ h⟩
  intro p q hp' hq' hl
  rw [hp.mem_iff, List.mem_range] at hp' hq'
  exact (ltL_drop row hr _ p q (Nat.le_refl _) hp' hq').1 hl

theorem sa_unique {row a b : List Nat} (hr : RowOk row) (ha : IsSA row a) (hb : IsSA row b) : a = b := by
  refine List.Perm.eq_of_pairwise ?_ ha.sorted hb.sorted (ha.perm.trans hb.perm.symm)
  intro p q hp hq h1 h2
  have := ltP_asymm row hr p q (ha.lt hp) (hb.lt hq) h1
  rw [h2] at this; cases this

def leP (row : List Nat) (p q : Nat) : Bool :=
  if p < row.length then (if q < row.length then ltP row p q || p == q else true) else (if q < row.length then false else decide (p ≤ q))
def saOf (row : List Nat) : List Nat := (List.range row.length).mergeSort (leP row)
theorem saOf_is {row : List Nat} (hr : RowOk row) : IsSA row (saOf row) := by
  have hp : (saOf row).Perm (List.range row.length) := List.mergeSort_perm _ _
  refine ⟨hp, ?_⟩
  have h1 := List.pairwise_mergeSort (le := leP row) ?_ ?_ (List.range row.length)
  · have hnd : (saOf row).Nodup := hp.nodup_iff.2 List.nodup_range
    have h2 : (saOf row).Pairwise (fun p q => leP row p q = true) := h1
    refine List.Pairwise.imp_of_mem ?_ (h2.and hnd)
    intro p q hp' hq' ⟨h3, h4⟩
    rw [hp.mem_iff, List.mem_range] at hp' hq'
    unfold leP at h3
    rw [if_pos hp', if_pos hq'] at h3
    simpa [h4] using h3
  · intro a b c h1 h2
    unfold leP at *
    by_cases ha : a < row.length
    · by_cases hb : b < row.length
      · by_cases hc : c < row.length
        · rw [if_pos ha, if_pos hb] at h1
          rw [if_pos hb, if_pos hc] at h2
          rw [if_pos ha, if_pos hc]
          simp only [Bool.or_eq_true, beq_iff_eq] at *
          rcases h1 with h1 | rfl
          · rcases h2 with h2 | rfl
            · exact .inl (ltP_trans row hr _ a b c (Nat.le_refl _) ha hb hc h1 h2)
            · exact .inl h1
          · exact h2
        · rw [if_pos ha, if_neg hc]
      · rw [if_neg hb] at h2
        by_cases hc : c < row.length
        · rw [if_pos hc] at h2; cases h2
        · rw [if_pos ha, if_neg hc]
    · rw [if_neg ha] at h1
      by_cases hb : b < row.length
      · rw [if_pos hb] at h1; cases h1
      · rw [if_neg hb] at h1 h2
        by_cases hc : c < row.length
        · rw [if_pos hc] at h2; cases h2
        · rw [if_neg hc] at h2
          rw [if_neg ha, if_neg hc]
          simp at *; omega
  · intro a b
    unfold leP
    by_cases ha : a < row.length
    · by_cases hb : b < row.length
      · rw [if_pos ha, if_pos hb, if_pos hb, if_pos ha]
        simp only [Bool.or_eq_true, beq_iff_eq]
        by_cases e : a = b
        · exact .inl (.inr e)
        · rcases ltP_total row hr _ a b (Nat.le_refl _) ha hb e with h | h
          · exact .inl (.inl h)
          · exact .inr (.inl h)
      · rw [if_pos ha, if_neg hb]; rfl
    · by_cases hb : b < row.length
      · rw [if_neg ha, if_pos hb, if_pos hb, if_neg ha]; rfl
      · rw [if_neg ha, if_neg hb, if_neg hb, if_neg ha]
        simp; omega
/-- the symbols ahead of the places in order -/
def bwtOf (row : List Nat) : List Nat := (saOf row).map (ahead row)
theorem saOf_length {row : List Nat} (hr : RowOk row) : (saOf row).length = row.length := (saOf_is hr).length
theorem bwtOf_length {row : List Nat} (hr : RowOk row) : (bwtOf row).length = row.length := by simp [bwtOf, saOf_length hr]

/-- where a place stands in the order -/
def idxP (row : List Nat) (p : Nat) : Nat := (List.range row.length).countP (fun q => ltP row q p)
theorem IsSA.idx_get {row sa : List Nat} (hr : RowOk row) (h : IsSA row sa) (i : Nat) (hi : i < sa.length) : idxP row sa[i] = i := by
  unfold idxP
  rw [← h.perm.countP_eq]
  have hmono : sa.Pairwise (fun p q => ltP row q sa[i] = true → ltP row p sa[i] = true) := by
    refine List.Pairwise.imp_of_mem ?_ h.sorted
    intro p q hp hq hpq hql
    exact ltP_trans row hr _ p q sa[i] (Nat.le_refl _) (h.lt hp) (h.lt hq) (h.get_lt i hi) hpq hql
  have h1 := fun j hj => count_initial hmono j hj
  have h2 := h1 i hi
  rw [ltP_irrefl] at h2
  rcases Nat.lt_trichotomy (sa.countP (fun q => ltP row q sa[i])) i with e | e | e
  · have h3 := h1 (sa.countP (fun q => ltP row q sa[i])) (by omega)
    have h4 := List.pairwise_iff_getElem.1 h.sorted (sa.countP (fun q => ltP row q sa[i])) i (by omega) hi e
    have := h3.1 h4
    omega
  · exact e
  · have := h2.2 e
    cases this
theorem IsSA.get_idx {row sa : List Nat} (hr : RowOk row) (h : IsSA row sa) (p : Nat) (hp : p < row.length) : ∃ hi : idxP row p < sa.length, sa[idxP row p] = p := by
  have : p ∈ sa := h.perm.mem_iff.2 (List.mem_range.2 hp)
  obtain ⟨i, hi, rfl⟩ := List.mem_iff_getElem.1 this
  have e := h.idx_get hr i hi
  refine ⟨by rw [e]; exact hi, ?_⟩
  simp only [e]
theorem idxP_lt {row : List Nat} (hr : RowOk row) (p : Nat) (hp : p < row.length) : idxP row p < row.length := by
  obtain ⟨h, _⟩ := (saOf_is hr).get_idx hr p hp
  rwa [saOf_length hr] at h
theorem idxP_inj {row : List Nat} (hr : RowOk row) (p q : Nat) (hp : p < row.length) (hq : q < row.length) (e : idxP row p = idxP row q) : p = q := by
  obtain ⟨_, h1⟩ := (saOf_is hr).get_idx hr p hp
  obtain ⟨_, h2⟩ := (saOf_is hr).get_idx hr q hq
  rw [← h1, ← h2]
  simp only [e]

/-- the row ends with a separator -/
def EndOk (row : List Nat) : Prop := ∀ p, p + 1 = row.length → symP row p = 0
theorem RowOk.end {row : List Nat} (h : RowOk row) : EndOk row := by
  intro p hp
  by_cases e : symP row p = 0
  · exact e
  · have := h p (by omega) e; omega

theorem below_ahead {row : List Nat} (hr : RowOk row) (s : Nat) (hs : 0 < s) : (List.range row.length).countP (fun p => decide (ahead row p < s)) = below row s := by
  have h1 := countP_shift row.length (fun q => decide (s ≤ symP row q)) (fun q hq => by
    have := hr.end q hq
    simp [this]; omega)
  have h2 : (List.range row.length).countP (fun q => decide (0 < q) && decide (s ≤ symP row (q - 1))) = (List.range row.length).countP (fun p => decide (s ≤ ahead row p)) := by
    apply List.countP_congr
    intro q hq
    unfold ahead
    by_cases h0 : q = 0
    · subst h0; simp; omega
    · simp [h0]; omega
  rw [h2] at h1
  have c1 : ∀ f : Nat → Nat, (List.range row.length).countP (fun p => decide (f p < s)) + (List.range row.length).countP (fun p => decide (s ≤ f p)) = row.length := by
    intro f
    have := List.length_eq_countP_add_countP (l := List.range row.length) (fun p => decide (f p < s))
    rw [List.length_range] at this
    have e : (List.range row.length).countP (fun a => decide ¬decide (f a < s) = true) = (List.range row.length).countP (fun p => decide (s ≤ f p)) := by
      apply List.countP_congr
      intro q _
      simp
    rw [e] at this
    exact this.symm
  have a := c1 (ahead row)
  have b := c1 (symP row)
  unfold below
  omega

/-- how many are below a symbol; how many of the first are one -/
def belowL (L : List Nat) (s : Nat) : Nat := L.countP (fun c => decide (c < s))
def cntL (L : List Nat) (s i : Nat) : Nat := (L.take i).count s
/-- the row of what stands ahead of a row -/
def stepL (L : List Nat) (i : Nat) : Nat := belowL L (L.getD i 0) + cntL L (L.getD i 0) i
theorem belowL_bwt {row : List Nat} (hr : RowOk row) (s : Nat) (hs : 0 < s) : belowL (bwtOf row) s = below row s := by
  unfold belowL bwtOf
  rw [List.countP_map, ← below_ahead hr s hs, ← (saOf_is hr).perm.countP_eq]
  rfl
theorem cntL_bwt {row : List Nat} (s i : Nat) : cntL (bwtOf row) s i = rankL row (saOf row) s i := by
  unfold cntL rankL bwtOf
  rw [← List.map_take, List.count_eq_countP, List.countP_map]
  rfl
/-- FROM A PLACE TO THE ONE AHEAD OF IT -/
theorem idx_step {row : List Nat} (hr : RowOk row) (p : Nat) (hp : p + 1 < row.length) (hs : 0 < symP row p) :
    idxP row p = belowL (bwtOf row) (symP row p) + cntL (bwtOf row) (symP row p) (idxP row (p + 1)) := by
  have h := step_count hr (saOf_is hr) (symP row p) hs (fun q => ltP row q (p + 1)) (fun a b ha hb hab hb2 => ltP_trans row hr _ a b (p + 1) (Nat.le_refl _) ha hb hp hab hb2)
  rw [belowL_bwt hr _ hs, cntL_bwt]
  rw [(saOf_is hr).perm.countP_eq] at h
  have e : idxP row (p + 1) = (List.range row.length).countP (fun q => ltP row q (p + 1)) := rfl
  rw [e, ← h]
  unfold idxP
  apply List.countP_congr
  intro q hq
  rw [List.mem_range] at hq
  rw [ltP_head row q p hq (by omega)]
  simp only [Bool.or_eq_true, Bool.and_eq_true, decide_eq_true_eq]
  constructor
  · rintro (h1 | ⟨h1, ⟨h2, _⟩ | ⟨_, h2⟩⟩)
    · exact .inl h1
    · omega
    · exact .inr ⟨h1, h2⟩
  · rintro (h1 | ⟨h1, h2⟩)
    · exact .inl h1
    · exact .inr ⟨h1, .inr ⟨by omega, h2⟩⟩
theorem bwt_get {row : List Nat} (hr : RowOk row) (p : Nat) (hp : p < row.length) : (bwtOf row)[idxP row p]? = some (ahead row p) := by
  obtain ⟨h1, h2⟩ := (saOf_is hr).get_idx hr p hp
  unfold bwtOf
  rw [List.getElem?_map, List.getElem?_eq_getElem h1, h2]; rfl
theorem stepL_bwt {row : List Nat} (hr : RowOk row) (p : Nat) (hp : p + 1 < row.length) (hs : 0 < symP row p) : stepL (bwtOf row) (idxP row (p + 1)) = idxP row p := by
  have h := bwt_get hr (p + 1) hp
  have e : ahead row (p + 1) = symP row p := by simp [ahead]
  unfold stepL
  rw [List.getD_eq_getElem?_getD, h, e, Option.getD_some]
  exact (idx_step hr p hp hs).symm
end Go.Proofs.Ytinlmodkdjpocaa

set_option linter.unusedVariables false
namespace Go.Proofs.Ytinlmodkdjpocaa

theorem symP_of {row : List Nat} {p x : Nat} (h : row[p]? = some x) : symP row p = x := by
  unfold symP; rw [List.getD_eq_getElem?_getD, h]; rfl
theorem symP_at (ds : List (List UInt8)) (d : Nat) (hd : d < ds.length) (o : Nat) (ho : o < ds[d].length) : symP (rowOf ds) (startAt ds d + o) = ds[d][o].toNat + 1 := by
  refine symP_of ?_
  rw [row_at ds d hd o (by omega), symsOf, List.getElem?_append_left (by simpa using ho), List.getElem?_map, List.getElem?_eq_getElem ho]
  rfl
theorem symP_end (ds : List (List UInt8)) (d : Nat) (hd : d < ds.length) : symP (rowOf ds) (startAt ds d + ds[d].length) = 0 := by
  refine symP_of ?_
  rw [row_at ds d hd _ (Nat.le_refl _)]
  simp [symsOf]
theorem place_lt (ds : List (List UInt8)) (d : Nat) (hd : d < ds.length) (o : Nat) (ho : o ≤ ds[d].length) : startAt ds d + o < (rowOf ds).length := by
  have := startAt_succ ds d hd
  have := startAt_le ds (d + 1) (by omega)
  omega
/-- each place is a document's -/
theorem place_ex (ds : List (List UInt8)) (p : Nat) (hp : p < (rowOf ds).length) : ∃ d, ∃ hd : d < ds.length, ∃ o, o ≤ ds[d].length ∧ p = startAt ds d + o := by
  have h : ∀ k, k ≤ ds.length → p < startAt ds k → ∃ d, ∃ hd : d < ds.length, ∃ o, o ≤ ds[d].length ∧ p = startAt ds d + o := by
    intro k
    induction k with
    | zero => intro _ h; simp [startAt, rowOf] at h
    | succ k ih =>
      intro hk h
      by_cases h2 : p < startAt ds k
      · exact ih (by omega) h2
      · have := startAt_succ ds k (by omega)
        exact ⟨k, by omega, p - startAt ds k, by omega, by omega⟩
  exact h ds.length (Nat.le_refl _) (by unfold startAt; rw [List.take_length]; exact hp)
theorem rowOk_rowOf (ds : List (List UInt8)) : RowOk (rowOf ds) := by
  intro p hp h0
  obtain ⟨d, hd, o, ho, rfl⟩ := place_ex ds p hp
  by_cases e : o = ds[d].length
  · subst e; exact absurd (symP_end ds d hd) h0
  · have := place_lt ds d hd (o + 1) (by omega)
    omega
theorem startAt_mono (ds : List (List UInt8)) (d e : Nat) (h : d ≤ e) (he : e ≤ ds.length) : startAt ds d ≤ startAt ds e := by
  obtain ⟨k, rfl⟩ := Nat.le.dest h
  clear h
  induction k with
  | zero => exact Nat.le_refl _
  | succ k ih =>
    have := ih (by omega)
    have := startAt_succ ds (d + k) (by omega)
    rw [show d + (k + 1) = d + k + 1 from by omega]
    omega
theorem place_inj (ds : List (List UInt8)) (d e : Nat) (hd : d < ds.length) (he : e < ds.length) (o u : Nat) (ho : o ≤ ds[d].length) (hu : u ≤ ds[e].length) (h : startAt ds d + o = startAt ds e + u) : d = e ∧ o = u := by
  have h1 := startAt_succ ds d hd
  have h2 := startAt_succ ds e he
  rcases Nat.lt_trichotomy d e with h3 | rfl | h3
  · have := startAt_mono ds (d + 1) e (by omega) (by omega); omega
  · exact ⟨rfl, by omega⟩
  · have := startAt_mono ds (e + 1) d (by omega) (by omega); omega
theorem ahead_at (ds : List (List UInt8)) (d : Nat) (hd : d < ds.length) (o : Nat) (ho : o ≤ ds[d].length) : ahead (rowOf ds) (startAt ds d + o) = if h : 0 < o then ds[d][o - 1].toNat + 1 else 0 := by
  by_cases h : 0 < o
  · rw [dif_pos h, ← symP_at ds d hd (o - 1) (by omega)]
    unfold ahead
    rw [if_neg (by omega)]
    congr 1; omega
  · rw [dif_neg h]
    obtain rfl : o = 0 := by omega
    rw [Nat.add_zero]
    unfold ahead
    by_cases h0 : startAt ds d = 0
    · rw [if_pos h0]
    · rw [if_neg h0]
      cases d with
      | zero => simp [startAt, rowOf] at h0
      | succ d =>
        have h1 := symP_end ds d (by omega)
        have h2 := startAt_succ ds d (by omega)
        rw [← h1]
        congr 1; omega

/-- the rows that are come to from a row on, and the bytes they are come by, at most so many -/
def walkF (L : List Nat) : Nat → Nat → List (Nat × Nat)
  | 0, _ => []
  | f + 1, i => if L.getD i 0 = 0 then [] else (stepL L i, L.getD i 0 - 1) :: walkF L f (stepL L i)
def walkL (L : List Nat) (i : Nat) : List (Nat × Nat) := walkF L L.length i

theorem getD_bwt (ds : List (List UInt8)) (d : Nat) (hd : d < ds.length) (o : Nat) (ho : o ≤ ds[d].length) :
    (bwtOf (rowOf ds)).getD (idxP (rowOf ds) (startAt ds d + o)) 0 = if h : 0 < o then ds[d][o - 1].toNat + 1 else 0 := by
  rw [List.getD_eq_getElem?_getD, bwt_get (rowOk_rowOf ds) _ (place_lt ds d hd o ho), ahead_at ds d hd o ho]; rfl
theorem step_at (ds : List (List UInt8)) (d : Nat) (hd : d < ds.length) (o : Nat) (ho : o < ds[d].length) :
    stepL (bwtOf (rowOf ds)) (idxP (rowOf ds) (startAt ds d + (o + 1))) = idxP (rowOf ds) (startAt ds d + o) := by
  have h := stepL_bwt (rowOk_rowOf ds) (startAt ds d + o) (by have := place_lt ds d hd (o + 1) (by omega); omega) (by rw [symP_at ds d hd o ho]; omega)
  rw [← h, Nat.add_assoc]
theorem walkF_at (ds : List (List UInt8)) (d : Nat) (hd : d < ds.length) (o f : Nat) (ho : o ≤ ds[d].length) :
    walkF (bwtOf (rowOf ds)) f (idxP (rowOf ds) (startAt ds d + o)) = ((List.range o).map (fun t => (idxP (rowOf ds) (startAt ds d + (o - 1 - t)), (ds[d].getD (o - 1 - t) 0).toNat))).take f := by
  induction f generalizing o with
  | zero => simp [walkF]
  | succ f ih =>
    unfold walkF
    rw [getD_bwt ds d hd o ho]
    cases o with
    | zero => simp
    | succ o =>
      rw [dif_pos (Nat.succ_pos o), if_neg (by omega), step_at ds d hd o (by omega), ih o (by omega), List.range_succ_eq_map, List.map_cons, List.take_succ_cons, List.map_map]
      have e1 : ds[d].getD o 0 = ds[d][o] := by rw [List.getD_eq_getElem?_getD, List.getElem?_eq_getElem (by omega)]; rfl
      congr 1
      · simp only [Nat.add_sub_cancel, Nat.sub_zero, e1]
      · congr 1
        apply List.map_congr_left
        intro t _
        simp only [Function.comp_def]
        rw [show o + 1 - 1 - (t + 1) = o - 1 - t from by omega]
theorem walkL_at (ds : List (List UInt8)) (d : Nat) (hd : d < ds.length) (o : Nat) (ho : o ≤ ds[d].length) :
    walkL (bwtOf (rowOf ds)) (idxP (rowOf ds) (startAt ds d + o)) = (List.range o).map (fun t => (idxP (rowOf ds) (startAt ds d + (o - 1 - t)), (ds[d].getD (o - 1 - t) 0).toNat)) := by
  unfold walkL
  rw [walkF_at ds d hd o _ ho, List.take_of_length_le]
  rw [List.length_map, List.length_range, bwtOf_length (rowOk_rowOf ds)]
  have := place_lt ds d hd o ho
  omega

/-- the row of a separator is its document's number -/
theorem idx_end (ds : List (List UInt8)) (d : Nat) (hd : d < ds.length) : idxP (rowOf ds) (startAt ds d + ds[d].length) = d := by
  unfold idxP
  have hz := symP_end ds d hd
  have hp := place_lt ds d hd _ (Nat.le_refl _)
  have h1 : (List.range (rowOf ds).length).countP (fun q => ltP (rowOf ds) q (startAt ds d + ds[d].length)) = (List.range (rowOf ds).length).countP (fun q => decide (symP (rowOf ds) q = 0 ∧ q < startAt ds d + ds[d].length)) := by
    apply List.countP_congr
    intro q hq
    rw [List.mem_range] at hq
    rw [ltP_head _ q _ hq hp, hz, decide_eq_true_iff]
    constructor
    · rintro (h | ⟨h1, ⟨h2, h3⟩ | ⟨h2, _⟩⟩)
      · omega
      · exact ⟨h2, h3⟩
      · exact absurd h1 h2
    · rintro ⟨h1, h2⟩
      exact .inr ⟨h1, .inl ⟨h1, h2⟩⟩
  rw [h1]
  clear h1 hz
  -- the separators ahead of that one are those of the documents ahead
  have h2 : ∀ k, k ≤ ds.length → (List.range (startAt ds k)).countP (fun q => decide (symP (rowOf ds) q = 0)) = k := by
    intro k
    induction k with
    | zero => intro _; simp [startAt, rowOf]
    | succ k ih =>
      intro hk
      have e := startAt_succ ds k (by omega)
      rw [e, List.range_add, List.countP_append, ih (by omega), List.range_succ, List.map_append, List.countP_append]
      have z1 : ((List.range ds[k].length).map (startAt ds k + ·)).countP (fun q => decide (symP (rowOf ds) q = 0)) = 0 := by
        rw [List.countP_eq_zero]
        intro q hq
        simp only [List.mem_map, List.mem_range] at hq
        obtain ⟨o, ho, rfl⟩ := hq
        rw [symP_at ds k (by omega) o ho]
        simp
      have z2 := symP_end ds k (by omega)
      simp [z1, z2]
  have e := startAt_succ ds d hd
  have h3 := h2 d (by omega)
  obtain ⟨m, hm⟩ : ∃ m, (rowOf ds).length = startAt ds d + ds[d].length + m := ⟨(rowOf ds).length - (startAt ds d + ds[d].length), by omega⟩
  rw [hm, List.range_add, List.countP_append, List.range_add, List.countP_append]
  have z0 : (List.range (startAt ds d)).countP (fun q => decide (symP (rowOf ds) q = 0 ∧ q < startAt ds d + ds[d].length)) = d := by
    conv => rhs; rw [← h3]
    apply List.countP_congr
    intro q hq
    rw [List.mem_range] at hq
    simp; omega
  have z1 : ((List.range ds[d].length).map (startAt ds d + ·)).countP (fun q => decide (symP (rowOf ds) q = 0 ∧ q < startAt ds d + ds[d].length)) = 0 := by
    rw [List.countP_eq_zero]
    intro q hq
    simp only [List.mem_map, List.mem_range] at hq
    obtain ⟨o, ho, rfl⟩ := hq
    rw [symP_at ds d hd o ho]
    simp
  have z2 : ((List.range m).map (startAt ds d + ds[d].length + ·)).countP (fun q => decide (symP (rowOf ds) q = 0 ∧ q < startAt ds d + ds[d].length)) = 0 := by
    rw [List.countP_eq_zero]
    intro q hq
    simp only [List.mem_map, List.mem_range] at hq
    obtain ⟨o, ho, rfl⟩ := hq
    simp
  omega
end Go.Proofs.Ytinlmodkdjpocaa

set_option linter.unusedVariables false
namespace Go.Proofs.Ytinlmodkdjpocaa

/-- one document, from its end on -/
def readD (L : List Nat) (left : Int) : Nat → Nat → List UInt8 → Option (List UInt8)
  | 0, _, _ => none
  | f + 1, i, acc => if L.getD i 0 = 0 then some acc else
      if 2000 < (acc ++ [UInt8.ofNat (L.getD i 0 - 1)]).length ∨ left ≤ (acc ++ [UInt8.ofNat (L.getD i 0 - 1)]).length then none else readD L left f (stepL L i) (acc ++ [UInt8.ofNat (L.getD i 0 - 1)])
def readA (L : List Nat) : Nat → Nat → Int → List (List UInt8) → Option (List (List UInt8) × Int)
  | 0, _, left, acc => some (acc, left)
  | k + 1, j, left, acc => match readD L left 2002 j [] with
    | none => none
    | some d => readA L k (j + 1) (left - (d.length + 1)) (acc ++ [d.reverse])
def readP (L : List Nat) : Option (List (List UInt8)) := match readA L (L.count 0) 0 L.length [] with
  | some (ds, left) => if left = 0 then some ds else none
  | none => none
def okDs (ds : List (List UInt8)) : Prop := ds.length ≤ 500 ∧ (∀ d ∈ ds, d.length ≤ 2000) ∧ (rowOf ds).length ≤ 60000
instance (ds : List (List UInt8)) : Decidable (okDs ds) := by unfold okDs; infer_instance
/-- the documents that a row is of -/
def docsP (L : List Nat) : Option (List (List UInt8)) := match readP L with
  | some ds => if okDs ds ∧ bwtOf (rowOf ds) = L then some ds else none
  | none => none

theorem ofNat_toNat (b : UInt8) : UInt8.ofNat b.toNat = b := by simp
theorem readD_at (ds : List (List UInt8)) (d : Nat) (hd : d < ds.length) (left : Int) (o : Nat) : ∀ (f : Nat) (acc : List UInt8), o ≤ ds[d].length → acc.length + o ≤ 2000 → ((acc.length + o : Nat) : Int) < left → o < f →
    readD (bwtOf (rowOf ds)) left f (idxP (rowOf ds) (startAt ds d + o)) acc = some (acc ++ (ds[d].take o).reverse) := by
  induction o with
  | zero =>
    intro f acc ho h1 h2 h3
    obtain ⟨f, rfl⟩ : ∃ g, f = g + 1 := ⟨f - 1, by omega⟩
    unfold readD
    rw [getD_bwt ds d hd 0 ho]
    simp
  | succ o ih =>
    intro f acc ho h1 h2 h3
    obtain ⟨f, rfl⟩ : ∃ g, f = g + 1 := ⟨f - 1, by omega⟩
    unfold readD
    rw [getD_bwt ds d hd (o + 1) ho, dif_pos (Nat.succ_pos o), if_neg (by omega), step_at ds d hd o (by omega)]
    simp only [Nat.add_sub_cancel, ofNat_toNat]
    rw [if_neg (by rw [List.length_append, List.length_singleton]; omega), ih f _ (by omega) (by rw [List.length_append, List.length_singleton]; omega) (by rw [List.length_append, List.length_singleton]; omega) (by omega)]
    rw [List.take_succ_eq_append_getElem (by omega), List.reverse_append, List.append_assoc]
    rfl
theorem readA_at (ds : List (List UInt8)) (hd : ∀ d ∈ ds, d.length ≤ 2000) (k : Nat) : ∀ j, j + k = ds.length →
    readA (bwtOf (rowOf ds)) k j (((rowOf ds).length : Int) - startAt ds j) (ds.take j) = some (ds, 0) := by
  induction k with
  | zero =>
    intro j hj
    obtain rfl : j = ds.length := by omega
    unfold readA startAt
    rw [List.take_length]
    simp
  | succ k ih =>
    intro j hj
    have hlt : j < ds.length := by omega
    unfold readA
    have h0 := readD_at ds j hlt (((rowOf ds).length : Int) - startAt ds j) ds[j].length 2002 [] (Nat.le_refl _) (by have := hd _ (List.getElem_mem hlt); simpa using this) (by have := place_lt ds j hlt _ (Nat.le_refl _); simp; omega) (by have := hd _ (List.getElem_mem hlt); omega)
    rw [idx_end ds j hlt, List.take_length, List.nil_append] at h0
    rw [h0]
    simp only [List.length_reverse, List.reverse_reverse]
    have e := startAt_succ ds j hlt
    rw [show ((rowOf ds).length : Int) - startAt ds j - (ds[j].length + 1) = ((rowOf ds).length : Int) - startAt ds (j + 1) from by omega, ← List.take_succ_eq_append_getElem hlt]
    exact ih (j + 1) (by omega)
theorem count_zero_row (ds : List (List UInt8)) : (rowOf ds).count 0 = ds.length := by
  induction ds with
  | nil => rfl
  | cons d ds ih =>
    have h1 : (d.map (fun b => b.toNat + 1)).count 0 = 0 := by
      rw [List.count_eq_zero]
      intro h
      simp at h
    simp only [rowOf, List.flatMap_cons, List.count_append, symsOf, List.length_cons] at ih ⊢
    rw [ih, h1]
    simp [Nat.add_comm]
theorem countP_eq_range (row : List Nat) (f : Nat → Bool) : (List.range row.length).countP (fun q => f (symP row q)) = row.countP f := by
  have h : row = (List.range row.length).map (symP row) := by
    apply List.ext_getElem
    · simp
    · intro i h1 h2
      simp [symP, List.getD, h1]
  conv => rhs; rw [h, List.countP_map]
  rfl
theorem belowL_one (L : List Nat) : belowL L 1 = L.count 0 := by
  unfold belowL
  rw [List.count_eq_countP]
  apply List.countP_congr
  intro c _
  simp
theorem count_zero_bwt (ds : List (List UInt8)) : (bwtOf (rowOf ds)).count 0 = ds.length := by
  rw [← belowL_one, belowL_bwt (rowOk_rowOf ds) 1 (by decide)]
  unfold below
  have := countP_eq_range (rowOf ds) (fun c => decide (c < 1))
  rw [this, ← count_zero_row ds, ← belowL_one]; rfl
theorem readP_bwt (ds : List (List UInt8)) (hd : ∀ d ∈ ds, d.length ≤ 2000) : readP (bwtOf (rowOf ds)) = some ds := by
  unfold readP
  rw [count_zero_bwt, bwtOf_length (rowOk_rowOf ds)]
  have h := readA_at ds hd ds.length 0 (by omega)
  have e : startAt ds 0 = 0 := by simp [startAt, rowOf]
  rw [e, List.take_zero] at h
  simp only [Int.natCast_zero, Int.sub_zero] at h
  have e2 : ((rowOf ds).length : Int) - ((0 : Nat) : Int) = ((rowOf ds).length : Int) := by omega
  first
  | (rw [h]; rfl)
  | (rw [e2] at h; rw [h]; rfl)
theorem docsP_bwt (ds : List (List UInt8)) (h : okDs ds) : docsP (bwtOf (rowOf ds)) = some ds := by
  unfold docsP
  rw [readP_bwt ds h.2.1]
  simp [h]
theorem docsP_some {L : List Nat} {ds : List (List UInt8)} (h : docsP L = some ds) : okDs ds ∧ L = bwtOf (rowOf ds) := by
  unfold docsP at h
  split at h
  · split at h
    · rename_i h1; cases h; exact ⟨h1.1, h1.2.symm⟩
    · cases h
  · cases h

/-- the rows that begin with a text, from its end on -/
def moreL (L : List Nat) (r : Nat × Nat) (s : Nat) : Nat × Nat := (belowL L s + cntL L s r.1, belowL L s + cntL L s (max r.1 r.2))
def rangeL (L : List Nat) (P : List Nat) : Nat × Nat := P.foldr (fun s r => moreL L r s) (0, L.length)
/-- ahead of all places that begin with P (e: and those too) -/
def belP (row : List Nat) (e : Bool) : List Nat → Nat → Bool
  | [], _ => e
  | s :: P, q => decide (symP row q < s) || (decide (symP row q = s) && belP row e P (q + 1))
/-- begins with P -/
def preP (row : List Nat) : List Nat → Nat → Bool
  | [], _ => true
  | s :: P, q => decide (symP row q = s) && preP row P (q + 1)
theorem belP_mono {row : List Nat} (hr : RowOk row) (e : Bool) (P : List Nat) (hP : ∀ s ∈ P, 0 < s) : ∀ p q, p < row.length → q < row.length → ltP row p q = true → belP row e P q = true → belP row e P p = true := by
  induction P with
  | nil => intro p q _ _ _ h; exact h
  | cons s P ih =>
    intro p q hp hq hlt h
    have hs := hP s (List.mem_cons_self ..)
    rw [ltP_head row p q hp hq] at hlt
    simp only [belP, Bool.or_eq_true, Bool.and_eq_true, decide_eq_true_eq] at h ⊢
    rcases hlt with h1 | ⟨h1, h2⟩
    · rcases h with h | ⟨h, _⟩
      · left; omega
      · left; omega
    · rcases h with h | ⟨h, h3⟩
      · left; omega
      · rcases h2 with ⟨h2, _⟩ | ⟨h2, h4⟩
        · omega
        · exact .inr ⟨by omega, ih (fun s hs => hP s (List.mem_cons_of_mem _ hs)) _ _ (hr p hp h2) (hr q hq (by omega)) h4 h3⟩
theorem belP_split (row : List Nat) (P : List Nat) (q : Nat) : belP row true P q = (belP row false P q || preP row P q) := by
  induction P generalizing q with
  | nil => rfl
  | cons s P ih =>
    simp only [belP, preP, ih]
    cases decide (symP row q < s) <;> cases decide (symP row q = s) <;> simp
theorem belP_apart (row : List Nat) (P : List Nat) (q : Nat) : ¬ (belP row false P q = true ∧ preP row P q = true) := by
  induction P generalizing q with
  | nil => rintro ⟨h, _⟩; cases h
  | cons s P ih =>
    simp only [belP, preP, Bool.or_eq_true, Bool.and_eq_true, decide_eq_true_eq]
    rintro ⟨h1 | ⟨h1, h2⟩, h3, h4⟩
    · omega
    · exact ih _ ⟨h2, h4⟩
def loP (row P : List Nat) : Nat := (List.range row.length).countP (belP row false P)
def hiP (row P : List Nat) : Nat := (List.range row.length).countP (belP row true P)
def cntP (row P : List Nat) : Nat := (List.range row.length).countP (preP row P)
theorem hi_eq (row P : List Nat) : hiP row P = loP row P + cntP row P := by
  unfold hiP loP cntP
  rw [← countP_or_disjoint _ _ _ (fun q _ => belP_apart row P q)]
  apply List.countP_congr
  intro q _
  rw [belP_split]
theorem belP_step {row : List Nat} (hr : RowOk row) (e : Bool) (s : Nat) (P : List Nat) (hs : 0 < s) (hP : ∀ s ∈ P, 0 < s) :
    (List.range row.length).countP (belP row e (s :: P)) = belowL (bwtOf row) s + cntL (bwtOf row) s ((List.range row.length).countP (belP row e P)) := by
  have h := step_count hr (saOf_is hr) s hs (belP row e P) (belP_mono hr e P hP)
  rw [(saOf_is hr).perm.countP_eq] at h
  rw [belowL_bwt hr _ hs, cntL_bwt, ← h]
  rfl
/-- THE RANGE FROM THE END ON IS THAT OF THE PLACES -/
theorem rangeL_bwt {row : List Nat} (hr : RowOk row) (P : List Nat) (hP : ∀ s ∈ P, 0 < s) : rangeL (bwtOf row) P = (loP row P, hiP row P) := by
  induction P with
  | nil =>
    simp only [rangeL, List.foldr_nil, loP, hiP, bwtOf_length hr]
    have e1 : (List.range row.length).countP (belP row false []) = 0 := by rw [List.countP_eq_zero]; intro a _; simp [belP]
    have e2 : (List.range row.length).countP (belP row true []) = (List.range row.length).length := by rw [List.countP_eq_length]; intro a _; simp [belP]
    rw [e1, e2, List.length_range]
  | cons s P ih =>
    have ih' := ih (fun s hs => hP s (List.mem_cons_of_mem _ hs))
    have hs := hP s (List.mem_cons_self ..)
    have hP' : ∀ s ∈ P, 0 < s := fun s hs => hP s (List.mem_cons_of_mem _ hs)
    unfold rangeL at ih' ⊢
    rw [List.foldr_cons, ih']
    unfold moreL
    have hle := hi_eq row P
    rw [show max (loP row P) (hiP row P) = hiP row P from by omega]
    unfold loP hiP
    rw [belP_step hr false s P hs hP', belP_step hr true s P hs hP']

/-- a text's symbols -/
def upS' (p : List UInt8) : List Nat := p.map (fun b => b.toNat + 1)
theorem upS'_pos (p : List UInt8) : ∀ s ∈ upS' p, 0 < s := by intro s hs; simp only [upS', List.mem_map] at hs; obtain ⟨b, _, rfl⟩ := hs; omega
/-- a text stands at a document's place as its symbols stand in the row -/
theorem preP_at (ds : List (List UInt8)) (d : Nat) (hd : d < ds.length) (p : List UInt8) : ∀ o, o ≤ ds[d].length → preP (rowOf ds) (upS' p) (startAt ds d + o) = p.isPrefixOf (ds[d].drop o) := by
  induction p with
  | nil => intro o _; simp [upS', preP]
  | cons b p ih =>
    intro o ho
    simp only [upS', List.map_cons, preP]
    by_cases h : o < ds[d].length
    · have := ih (o + 1) (by omega)
      unfold upS' at this
      rw [symP_at ds d hd o h, Nat.add_assoc, this, List.drop_eq_getElem_cons h, List.isPrefixOf_cons_cons]
      congr 1
      rw [Bool.eq_iff_iff]
      simp only [decide_eq_true_eq, beq_iff_eq, Nat.add_right_cancel_iff]
      constructor
      · intro e; exact (UInt8.toNat_inj.1 e).symm
      · intro e; rw [e]
    · obtain rfl : o = ds[d].length := by omega
      rw [symP_end ds d hd, List.drop_length]
      simp
/-- over all places, document by document -/
theorem countP_places (ds : List (List UInt8)) (f : Nat → Bool) : (List.range (rowOf ds).length).countP f = ((List.range ds.length).map (fun d => (List.range ((ds.getD d []).length + 1)).countP (fun o => f (startAt ds d + o)))).sum := by
  have h : ∀ k, k ≤ ds.length → (List.range (startAt ds k)).countP f = ((List.range k).map (fun d => (List.range ((ds.getD d []).length + 1)).countP (fun o => f (startAt ds d + o)))).sum := by
    intro k
    induction k with
    | zero => intro _; simp [startAt, rowOf]
    | succ k ih =>
      intro hk
      have e := startAt_succ ds k (by omega)
      have g : ds.getD k [] = ds[k] := by rw [List.getD_eq_getElem?_getD, List.getElem?_eq_getElem (by omega)]; rfl
      rw [e, List.range_add, List.countP_append, ih (by omega), List.range_succ (n := k), List.map_append, List.sum_append, List.countP_map]
      simp only [List.map_cons, List.map_nil, List.sum_cons, List.sum_nil, Nat.add_zero, g]
      rfl
  have := h ds.length (Nat.le_refl _)
  unfold startAt at this
  rw [List.take_length] at this
  exact this
theorem occ_count (p d : List UInt8) (hp : p ≠ []) : (occ p d).length = (List.range (d.length + 1)).countP (fun o => p.isPrefixOf (d.drop o)) := by
  unfold occ occF
  rw [if_neg hp, ← List.countP_eq_length_filter, Nat.sub_zero, List.range_eq_range']
  rfl
theorem hitsF_sum (p : List UInt8) (i : Nat) (ds : List (List UInt8)) : (hitsF p i ds).length = (ds.map (fun d => (occ p d).length)).sum := by
  induction ds generalizing i with
  | nil => rfl
  | cons d ds ih => simp [hitsF, ih]
theorem map_getD (ds : List (List UInt8)) : (List.range ds.length).map (fun d => ds.getD d []) = ds := by
  apply List.ext_getElem
  · simp
  · intro i h1 h2
    simp [List.getD, h2]
/-- as many places begin with a text as it is found at -/
theorem cntP_hits (ds : List (List UInt8)) (p : List UInt8) (hp : p ≠ []) : cntP (rowOf ds) (upS' p) = (hits p ds).length := by
  unfold cntP hits
  rw [countP_places, hitsF_sum]
  conv => rhs; rw [← map_getD ds, List.map_map]
  congr 1
  apply List.map_congr_left
  intro d hd
  rw [List.mem_range] at hd
  simp only [Function.comp_def]
  have g : ds.getD d [] = ds[d] := by rw [List.getD_eq_getElem?_getD, List.getElem?_eq_getElem hd]; rfl
  rw [g, occ_count p _ hp]
  apply List.countP_congr
  intro o ho
  rw [List.mem_range] at ho
  rw [preP_at ds d hd p o (by omega)]
/-- what an index says of a text -/
def countL (L : List Nat) (p : List UInt8) : Nat := if p = [] then 0 else (rangeL L (upS' p)).2 - (rangeL L (upS' p)).1
theorem countL_bwt (ds : List (List UInt8)) (p : List UInt8) : countL (bwtOf (rowOf ds)) p = (hits p ds).length := by
  unfold countL
  by_cases hp : p = []
  · subst hp
    have h : ∀ i, hitsF [] i ds = [] := by
      induction ds with
      | nil => intro i; rfl
      | cons d ds ih => intro i; simp [hitsF, occ, ih]
    simp [hits, h]
  · rw [if_neg hp, rangeL_bwt (rowOk_rowOf ds) _ (upS'_pos p), ← cntP_hits ds p hp]
    have := hi_eq (rowOf ds) (upS' p)
    simp only
    omega
end Go.Proofs.Ytinlmodkdjpocaa

set_option linter.unusedVariables false
namespace Go.Proofs.Ytinlmodkdjpocaa

theorem bl_nil (x : List UInt8) : Op.bytesLess x [] = false := by cases x <;> rfl
theorem bl_cons (a b : UInt8) (x y : List UInt8) : Op.bytesLess (a :: x) (b :: y) = true ↔ a < b ∨ (a = b ∧ Op.bytesLess x y = true) := by
  simp [Op.bytesLess]
theorem bl_irrefl (x : List UInt8) : Op.bytesLess x x = false := by
  induction x with
  | nil => rfl
  | cons a x ih =>
    rw [← Bool.not_eq_true, bl_cons, ih]
    rintro (h | h)
    · exact absurd h (UInt8.lt_irrefl a)
    · cases h.2
theorem bl_trans {x y z : List UInt8} (h : Op.bytesLess x y = true) (k : Op.bytesLess y z = true) : Op.bytesLess x z = true := by
  induction x generalizing y z with
  | nil =>
    cases z with
    | nil => rw [bl_nil] at k; cases k
    | cons c z => rfl
  | cons a x ih =>
    cases y with
    | nil => cases h
    | cons b y =>
      cases z with
      | nil => cases k
      | cons c z =>
        rw [bl_cons] at *
        rcases h with h | ⟨rfl, h⟩
        · rcases k with k | ⟨rfl, k⟩
          · exact .inl (UInt8.lt_trans h k)
          · exact .inl h
        · rcases k with k | ⟨rfl, k⟩
          · exact .inl k
          · exact .inr ⟨rfl, ih h k⟩
theorem bl_total (x y : List UInt8) : Op.bytesLess x y = true ∨ x = y ∨ Op.bytesLess y x = true := by
  induction x generalizing y with
  | nil => cases y with
    | nil => exact .inr (.inl rfl)
    | cons b y => exact .inl rfl
  | cons a x ih =>
    cases y with
    | nil => exact .inr (.inr rfl)
    | cons b y =>
      rw [bl_cons, bl_cons]
      by_cases e : a = b
      · subst e
        rcases ih y with h | rfl | h
        · exact .inl (.inr ⟨rfl, h⟩)
        · exact .inr (.inl rfl)
        · exact .inr (.inr (.inr ⟨rfl, h⟩))
      · rcases UInt8.lt_or_lt_of_ne e with h | h
        · exact .inl (.inl h)
        · exact .inr (.inr (.inl h))
theorem bl_asymm {x y : List UInt8} (h : Op.bytesLess x y = true) : Op.bytesLess y x = false := by
  cases k : Op.bytesLess y x with
  | false => rfl
  | true => have := bl_trans h k; rw [bl_irrefl] at this; cases this
/-- what stands from a place on -/
def sufH (ds : List (List UInt8)) (a : Nat × Nat) : List UInt8 := (ds.getD a.1 []).drop a.2
/-- the document's order of places -/
def lessH (ds : List (List UInt8)) (a b : Nat × Nat) : Bool := if sufH ds a = sufH ds b then decide (a.1 < b.1) else Op.bytesLess (sufH ds a) (sufH ds b)
def leH (ds : List (List UInt8)) (a b : Nat × Nat) : Bool := !lessH ds b a
theorem leH_iff (ds : List (List UInt8)) (a b : Nat × Nat) : leH ds a b = true ↔ Op.bytesLess (sufH ds a) (sufH ds b) = true ∨ (sufH ds a = sufH ds b ∧ a.1 ≤ b.1) := by
  unfold leH lessH
  by_cases e : sufH ds b = sufH ds a
  · rw [if_pos e]
    simp only [Bool.not_eq_true', decide_eq_false_iff_not]
    constructor
    · intro h; exact .inr ⟨e.symm, by omega⟩
    · rintro (h | ⟨_, h⟩)
      · rw [e, bl_irrefl] at h; cases h
      · omega
  · rw [if_neg e]
    simp only [Bool.not_eq_true']
    constructor
    · intro h
      rcases bl_total (sufH ds a) (sufH ds b) with h1 | h1 | h1
      · exact .inl h1
      · exact absurd h1.symm e
      · rw [h] at h1; cases h1
    · rintro (h | ⟨h, _⟩)
      · exact bl_asymm h
      · exact absurd h.symm e
theorem leH_trans (ds : List (List UInt8)) (a b c : Nat × Nat) (h : leH ds a b = true) (k : leH ds b c = true) : leH ds a c = true := by
  rw [leH_iff] at *
  rcases h with h | ⟨h, h2⟩
  · rcases k with k | ⟨k, k2⟩
    · exact .inl (bl_trans h k)
    · rw [← k]; exact .inl h
  · rcases k with k | ⟨k, k2⟩
    · rw [h]; exact .inl k
    · exact .inr ⟨h.trans k, by omega⟩
theorem leH_total (ds : List (List UInt8)) (a b : Nat × Nat) : (leH ds a b || leH ds b a) = true := by
  rw [Bool.or_eq_true, leH_iff, leH_iff]
  rcases bl_total (sufH ds a) (sufH ds b) with h | h | h
  · exact .inl (.inl h)
  · rcases Nat.le_total a.1 b.1 with h2 | h2
    · exact .inl (.inr ⟨h, h2⟩)
    · exact .inr (.inr ⟨h.symm, h2⟩)
  · exact .inr (.inl h)

theorem lessH_end (ds : List (List UInt8)) (d e : Nat) (hd : d < ds.length) (he : e < ds.length) (u : Nat) (hu : u ≤ ds[e].length) :
    lessH ds (d, ds[d].length) (e, u) = ltP (rowOf ds) (startAt ds d + ds[d].length) (startAt ds e + u) := by
  have gd : ds.getD d [] = ds[d] := by simp [List.getD, hd]
  have ge : ds.getD e [] = ds[e] := by simp [List.getD, he]
  have p1 := place_lt ds d hd _ (Nat.le_refl _)
  have p2 := place_lt ds e he u hu
  rw [Bool.eq_iff_iff, ltP_head _ _ _ p1 p2, symP_end ds d hd]
  unfold lessH sufH
  rw [show ((d, ds[d].length) : Nat × Nat).1 = d from rfl, show ((e, u) : Nat × Nat).1 = e from rfl, show ((d, ds[d].length) : Nat × Nat).2 = ds[d].length from rfl, show ((e, u) : Nat × Nat).2 = u from rfl, gd, ge, List.drop_length]
  by_cases h : u < ds[e].length
  · rw [symP_at ds e he u h, List.drop_eq_getElem_cons h, if_neg (List.cons_ne_nil _ _).symm]
    constructor
    · intro _; exact .inl (by omega)
    · intro _; rfl
  · obtain rfl : u = ds[e].length := by omega
    rw [symP_end ds e he, List.drop_length, if_pos rfl, decide_eq_true_iff]
    constructor
    · intro h
      refine .inr ⟨rfl, .inl ⟨rfl, ?_⟩⟩
      have := startAt_mono ds (d + 1) e (by omega) (by omega)
      have := startAt_succ ds d hd
      omega
    · rintro (h | ⟨_, ⟨_, h⟩ | ⟨h, _⟩⟩)
      · omega
      · rcases Nat.lt_trichotomy d e with h2 | h2 | h2
        · exact h2
        · subst h2; omega
        · have := startAt_mono ds (e + 1) d (by omega) (by omega)
          have := startAt_succ ds e he
          omega
      · exact absurd rfl h
/-- the document's order is the row's -/
theorem lessH_row (ds : List (List UInt8)) (d e : Nat) (hd : d < ds.length) (he : e < ds.length) (k : Nat) : ∀ o u, o ≤ ds[d].length → u ≤ ds[e].length → ds[d].length - o ≤ k →
    lessH ds (d, o) (e, u) = ltP (rowOf ds) (startAt ds d + o) (startAt ds e + u) := by
  have gd : ds.getD d [] = ds[d] := by simp [List.getD, hd]
  have ge : ds.getD e [] = ds[e] := by simp [List.getD, he]
  induction k with
  | zero =>
    intro o u ho hu hk
    obtain rfl : o = ds[d].length := by omega
    exact lessH_end ds d e hd he u hu
  | succ k ih =>
    intro o u ho hu hk
    by_cases h0 : o = ds[d].length
    · subst h0
      exact lessH_end ds d e hd he u hu
    · have hol : o < ds[d].length := by omega
      have p1 := place_lt ds d hd _ ho
      have p2 := place_lt ds e he u hu
      rw [Bool.eq_iff_iff, ltP_head _ _ _ p1 p2, symP_at ds d hd o hol]
      unfold lessH sufH
      simp only [gd, ge]
      rw [List.drop_eq_getElem_cons hol]
      by_cases h : u < ds[e].length
      · have ih' := ih (o + 1) (u + 1) (by omega) (by omega) (by omega)
        unfold lessH sufH at ih'
        simp only [gd, ge] at ih'
        rw [symP_at ds e he u h, List.drop_eq_getElem_cons h]
        have hne : ds[d][o].toNat + 1 ≠ 0 := by omega
        have hsym : (startAt ds d + (o + 1)) = startAt ds d + o + 1 := by omega
        have hsym2 : (startAt ds e + (u + 1)) = startAt ds e + u + 1 := by omega
        rw [hsym, hsym2] at ih'
        rw [← ih']
        by_cases hb : ds[d][o] = ds[e][u]
        · rw [hb]
          by_cases hs : ds[d].drop (o + 1) = ds[e].drop (u + 1)
          · rw [hs, if_pos rfl, if_pos rfl]
            constructor
            · intro h; exact .inr ⟨rfl, .inr ⟨by omega, h⟩⟩
            · rintro (h | ⟨_, ⟨h, _⟩ | ⟨_, h⟩⟩)
              · omega
              · omega
              · exact h
          · rw [if_neg (fun h => hs (List.cons.inj h).2), if_neg hs, bl_cons]
            constructor
            · rintro (h | ⟨_, h⟩)
              · exact absurd h (UInt8.lt_irrefl _)
              · exact .inr ⟨rfl, .inr ⟨by omega, h⟩⟩
            · rintro (h | ⟨_, ⟨h, _⟩ | ⟨_, h⟩⟩)
              · omega
              · omega
              · exact .inr ⟨rfl, h⟩
        · rw [if_neg (fun h => hb (List.cons.inj h).1), bl_cons, UInt8.lt_iff_toNat_lt]
          have hbn : ds[d][o].toNat ≠ ds[e][u].toNat := fun h => hb (UInt8.toNat_inj.1 h)
          constructor
          · rintro (h | ⟨h, _⟩)
            · exact .inl (by omega)
            · exact absurd h hb
          · rintro (h | ⟨h, _⟩)
            · exact .inl (by omega)
            · omega
      · obtain rfl : u = ds[e].length := by omega
        rw [symP_end ds e he, List.drop_length, if_neg (List.cons_ne_nil _ _), bl_nil]
        constructor
        · intro h; cases h
        · rintro (h | ⟨h, _⟩) <;> omega

/-- all places, document by document -/
def placesH (ds : List (List UInt8)) : List (Nat × Nat) := (List.range ds.length).flatMap (fun d => (List.range ((ds.getD d []).length + 1)).map (fun o => (d, o)))
def toP (ds : List (List UInt8)) (a : Nat × Nat) : Nat := startAt ds a.1 + a.2
theorem placesH_mem (ds : List (List UInt8)) (a : Nat × Nat) : a ∈ placesH ds ↔ ∃ hd : a.1 < ds.length, a.2 ≤ ds[a.1].length := by
  obtain ⟨d, o⟩ := a
  unfold placesH
  simp only [List.mem_flatMap, List.mem_range, List.mem_map, Prod.mk.injEq]
  constructor
  · rintro ⟨d', hd', o', ho', rfl, rfl⟩
    refine ⟨hd', ?_⟩
    have : ds.getD d' [] = ds[d'] := by simp [List.getD, hd']
    rw [this] at ho'; omega
  · rintro ⟨hd, ho⟩
    have : ds.getD d [] = ds[d] := by simp [List.getD, hd]
    exact ⟨d, hd, o, by rw [this]; omega, rfl, rfl⟩
theorem placesH_map (ds : List (List UInt8)) : (placesH ds).map (toP ds) = List.range (rowOf ds).length := by
  have h : ∀ k, k ≤ ds.length → ((List.range k).flatMap (fun d => (List.range ((ds.getD d []).length + 1)).map (fun o => (d, o)))).map (toP ds) = List.range (startAt ds k) := by
    intro k
    induction k with
    | zero => intro _; simp [startAt, rowOf]
    | succ k ih =>
      intro hk
      have g : ds.getD k [] = ds[k] := by simp [List.getD, show k < ds.length from hk]
      rw [List.range_succ, List.flatMap_append, List.map_append, ih (by omega), startAt_succ ds k hk, List.range_add, List.flatMap_singleton, List.map_map, g]
      rfl
  have := h ds.length (Nat.le_refl _)
  unfold startAt at this
  rw [List.take_length] at this
  exact this
theorem placesH_nodup (ds : List (List UInt8)) : (placesH ds).Nodup := by
  have h : ((placesH ds).map (toP ds)).Nodup := by rw [placesH_map]; exact List.nodup_range
  exact List.Pairwise.of_map (toP ds) (fun a b hab e => hab (by rw [e])) h
/-- a list of all places, in the document's order -/
structure IsRows (ds : List (List UInt8)) (hs : List (Nat × Nat)) : Prop where
  perm : hs.Perm (placesH ds)
  sorted : hs.Pairwise (fun a b => leH ds a b = true)
theorem IsRows.mem {ds : List (List UInt8)} {hs : List (Nat × Nat)} (h : IsRows ds hs) {a : Nat × Nat} (ha : a ∈ hs) : ∃ hd : a.1 < ds.length, a.2 ≤ ds[a.1].length := (placesH_mem ds a).1 (h.perm.mem_iff.1 ha)
theorem IsRows.sa {ds : List (List UInt8)} {hs : List (Nat × Nat)} (h : IsRows ds hs) : hs.map (toP ds) = saOf (rowOf ds) := by
  refine sa_unique (rowOk_rowOf ds) ⟨?_, ?_⟩ (saOf_is (rowOk_rowOf ds))
  · have := h.perm.map (toP ds)
    rwa [placesH_map] at this
  · rw [List.pairwise_map]
    have hnd : hs.Nodup := h.perm.nodup_iff.2 (placesH_nodup ds)
    refine List.Pairwise.imp_of_mem ?_ (h.sorted.and hnd)
    rintro ⟨d, o⟩ ⟨e, u⟩ ha hb ⟨h1, h2⟩
    obtain ⟨hd, ho⟩ := h.mem ha
    obtain ⟨he, hu⟩ := h.mem hb
    simp only at hd ho he hu
    unfold leH at h1
    rw [lessH_row ds e d he hd _ u o hu ho (Nat.le_refl _)] at h1
    have p1 := place_lt ds d hd o ho
    have p2 := place_lt ds e he u hu
    have hne : startAt ds d + o ≠ startAt ds e + u := by
      intro e1
      obtain ⟨rfl, rfl⟩ := place_inj ds d e hd he o u ho hu e1
      exact h2 rfl
    rcases ltP_total (rowOf ds) (rowOk_rowOf ds) _ _ _ (Nat.le_refl _) p1 p2 hne with h3 | h3
    · exact h3
    · rw [h3] at h1; cases h1
theorem IsRows.length {ds : List (List UInt8)} {hs : List (Nat × Nat)} (h : IsRows ds hs) : hs.length = (rowOf ds).length := by
  have := congrArg List.length h.sa
  rw [List.length_map, saOf_length (rowOk_rowOf ds)] at this
  exact this
/-- the symbol ahead of a place, as the document says it -/
def aheadH (ds : List (List UInt8)) (a : Nat × Nat) : Nat := if 0 < a.2 then ((ds.getD a.1 []).getD (a.2 - 1) 0).toNat + 1 else 0
theorem aheadH_row (ds : List (List UInt8)) (a : Nat × Nat) (hd : a.1 < ds.length) (ho : a.2 ≤ ds[a.1].length) : aheadH ds a = ahead (rowOf ds) (toP ds a) := by
  unfold toP
  rw [ahead_at ds a.1 hd a.2 ho]
  unfold aheadH
  have g : ds.getD a.1 [] = ds[a.1] := by simp [List.getD, hd]
  rw [g]
  by_cases h : 0 < a.2
  · rw [if_pos h, dif_pos h]
    have : a.2 - 1 < ds[a.1].length := by omega
    simp [List.getD, this]
  · rw [if_neg h, dif_neg h]
theorem IsRows.bwt {ds : List (List UInt8)} {hs : List (Nat × Nat)} (h : IsRows ds hs) : hs.map (aheadH ds) = bwtOf (rowOf ds) := by
  unfold bwtOf
  rw [← h.sa, List.map_map]
  apply List.map_congr_left
  intro a ha
  obtain ⟨hd, ho⟩ := h.mem ha
  exact aheadH_row ds a hd ho
end Go.Proofs.Ytinlmodkdjpocaa
