/- Plain lists: sorting by counting: what stands in memory on the way. Generic: no program is named. slices.Clone, Clip, ContainsFunc at symbols and numbers. suffix: sortBy. suffix: second, ranks. suffix: ranks. suffix: firsts, Array. suffix: Array. -/
import Derived.Test.YtinlmodkdjpocaaQpl
import Derived.Test.YtinlmodkdjpocaaQpo
import Derived.Test.YtinlmodkdjpocaaTxu
import Derived.Test.YtinlmodkdjpocaaQbt
set_option linter.unusedVariables false
namespace Go.Proofs.Ytinlmodkdjpocaa

theorem countP_take_succ (f : Nat → Bool) (l : List Nat) (j : Nat) (h : j < l.length) : (l.take (j + 1)).countP f = (l.take j).countP f + if f l[j] then 1 else 0 := by
  rw [List.take_succ_eq_append_getElem h, List.countP_append]
  by_cases e : f l[j] = true <;> simp [e]
def at1 (K : Nat) (rank : Nat → Nat) (l : List Nat) (j : Nat) : List Nat := (List.range (K + 1)).map (fun m => (l.take j).countP (fun p => rank p + 1 == m))
def at2 (K : Nat) (rank : Nat → Nat) (l : List Nat) (i : Nat) : List Nat := (List.range (K + 1)).map (fun m => if m ≤ i then l.countP (fun p => decide (rank p < m)) else l.countP (fun p => rank p + 1 == m))
def at3 (K : Nat) (rank : Nat → Nat) (l : List Nat) (j : Nat) : List Nat := (List.range (K + 1)).map (fun m => l.countP (fun p => decide (rank p < m)) + (l.take j).countP (fun p => rank p == m))
theorem at_get {f : Nat → Nat} (K m : Nat) (h : m ≤ K) : ((List.range (K + 1)).map f)[m]? = some (f m) := by
  simp [Nat.lt_succ_of_le h]
theorem at1_zero (K : Nat) (rank : Nat → Nat) (l : List Nat) : at1 K rank l 0 = List.replicate (K + 1) 0 := by
  apply List.ext_getElem
  · simp [at1]
  · intro i h1 h2; simp [at1]
theorem at1_get (K : Nat) (rank : Nat → Nat) (l : List Nat) (j m : Nat) (h : m ≤ K) : (at1 K rank l j)[m]? = some ((l.take j).countP (fun p => rank p + 1 == m)) := at_get K m h
theorem at1_next (K : Nat) (rank : Nat → Nat) (l : List Nat) (j : Nat) (h : j < l.length) : (at1 K rank l j).set (rank l[j] + 1) ((l.take j).countP (fun p => rank p + 1 == rank l[j] + 1) + 1) = at1 K rank l (j + 1) := by
  unfold at1
  rw [map_range_set]
  apply List.map_congr_left
  intro m _
  rw [countP_take_succ _ l j h]
  by_cases e : m = rank l[j] + 1
  · subst e; simp
  · rw [if_neg e, if_neg (by simp; omega)]; rfl
theorem at2_zero (K : Nat) (rank : Nat → Nat) (l : List Nat) : at2 K rank l 0 = at1 K rank l l.length := by
  unfold at1 at2
  apply List.map_congr_left
  intro m _
  rw [List.take_length]
  by_cases e : m ≤ 0
  · obtain rfl : m = 0 := by omega
    simp
  · rw [if_neg e]
theorem at2_get (K : Nat) (rank : Nat → Nat) (l : List Nat) (i m : Nat) (h : m ≤ K) : (at2 K rank l i)[m]? = some (if m ≤ i then l.countP (fun p => decide (rank p < m)) else l.countP (fun p => rank p + 1 == m)) := at_get K m h
theorem countP_lt_succ (rank : Nat → Nat) (l : List Nat) (i : Nat) : l.countP (fun p => rank p + 1 == i + 1) + l.countP (fun p => decide (rank p < i)) = l.countP (fun p => decide (rank p < i + 1)) := by
  induction l with
  | nil => rfl
  | cons a l ih =>
    simp only [List.countP_cons]
    rcases Nat.lt_trichotomy (rank a) i with h | h | h
    · have h1 : (rank a + 1 == i + 1) = false := by simp; omega
      have h2 : decide (rank a < i) = true := by simpa using h
      have h3 : decide (rank a < i + 1) = true := by simp; omega
      simp only [h1, h2, h3, Bool.false_eq_true, if_false, if_true]; omega
    · have h1 : (rank a + 1 == i + 1) = true := by simp; omega
      have h2 : decide (rank a < i) = false := by simp; omega
      have h3 : decide (rank a < i + 1) = true := by simp; omega
      simp only [h1, h2, h3, Bool.false_eq_true, if_false, if_true]; omega
    · have h1 : (rank a + 1 == i + 1) = false := by simp; omega
      have h2 : decide (rank a < i) = false := by simp; omega
      have h3 : decide (rank a < i + 1) = false := by simp; omega
      simp only [h1, h2, h3, Bool.false_eq_true, if_false]; omega
theorem at2_next (K : Nat) (rank : Nat → Nat) (l : List Nat) (i : Nat) : (at2 K rank l i).set (i + 1) (l.countP (fun p => rank p + 1 == i + 1) + l.countP (fun p => decide (rank p < i))) = at2 K rank l (i + 1) := by
  unfold at2
  rw [map_range_set]
  apply List.map_congr_left
  intro m _
  by_cases e : m = i + 1
  · subst e
    rw [if_pos rfl, if_pos (Nat.le_refl _), countP_lt_succ]
  · rw [if_neg e]
    by_cases h : m ≤ i
    · rw [if_pos h, if_pos (by omega)]
    · rw [if_neg h, if_neg (by omega)]
theorem at3_zero (K : Nat) (rank : Nat → Nat) (l : List Nat) : at3 K rank l 0 = at2 K rank l K := by
  unfold at3 at2
  apply List.map_congr_left
  intro m hm
  rw [List.mem_range] at hm
  rw [if_pos (by omega)]
  simp
theorem at3_get (K : Nat) (rank : Nat → Nat) (l : List Nat) (j m : Nat) (h : m ≤ K) : (at3 K rank l j)[m]? = some (l.countP (fun p => decide (rank p < m)) + (l.take j).countP (fun p => rank p == m)) := at_get K m h
theorem at3_next (K : Nat) (rank : Nat → Nat) (l : List Nat) (j : Nat) (h : j < l.length) : (at3 K rank l j).set (rank l[j]) (l.countP (fun p => decide (rank p < rank l[j])) + (l.take j).countP (fun p => rank p == rank l[j]) + 1) = at3 K rank l (j + 1) := by
  unfold at3
  rw [map_range_set]
  apply List.map_congr_left
  intro m _
  rw [countP_take_succ _ l j h]
  by_cases e : m = rank l[j]
  · subst e; simp; omega
  · rw [if_neg e, if_neg (by simp; omega)]; rfl

/-- a bucket, as far as it is filled -/
def bucket (rank : Nat → Nat) (l : List Nat) (j r : Nat) : List Nat := (l.take j).filter (fun p => rank p == r) ++ List.replicate ((l.drop j).countP (fun p => rank p == r)) 0
def outP (K : Nat) (rank : Nat → Nat) (l : List Nat) (j : Nat) : List Nat := (List.range K).flatMap (bucket rank l j)
theorem bucket_length (rank : Nat → Nat) (l : List Nat) (j r : Nat) : (bucket rank l j r).length = l.countP (fun p => rank p == r) := by
  unfold bucket
  rw [List.length_append, List.length_replicate, ← List.countP_eq_length_filter, ← List.countP_append, List.take_append_drop]
theorem buckets_length (rank : Nat → Nat) (l : List Nat) (j m : Nat) : ((List.range m).flatMap (bucket rank l j)).length = l.countP (fun p => decide (rank p < m)) := by
  induction m with
  | zero => simp
  | succ m ih =>
    rw [List.range_succ, List.flatMap_append, List.length_append, ih, List.flatMap_singleton, bucket_length]
    have := countP_lt_succ rank l m
    have e : l.countP (fun p => rank p + 1 == m + 1) = l.countP (fun p => rank p == m) := by
      apply List.countP_congr; intro p _; simp
    omega
theorem outP_length (K : Nat) (rank : Nat → Nat) (l : List Nat) (j : Nat) (h : ∀ p ∈ l, rank p < K) : (outP K rank l j).length = l.length := by
  unfold outP
  rw [buckets_length, List.countP_eq_length]
  intro p hp; simpa using h p hp
theorem outP_end (K : Nat) (rank : Nat → Nat) (l : List Nat) : outP K rank l l.length = sortByP K rank l := by
  unfold outP sortByP
  congr 1
  funext r
  unfold bucket
  simp
theorem eq_replicate_of {l : List Nat} {n : Nat} (h1 : l.length = n) (h2 : ∀ x ∈ l, x = 0) : l = List.replicate n 0 := List.eq_replicate_iff.2 ⟨h1, h2⟩
theorem outP_zero (K : Nat) (rank : Nat → Nat) (l : List Nat) (h : ∀ p ∈ l, rank p < K) : outP K rank l 0 = List.replicate l.length 0 := by
  refine eq_replicate_of (outP_length K rank l 0 h) ?_
  intro x hx
  simp only [outP, List.mem_flatMap, bucket, List.take_zero, List.filter_nil, List.nil_append, List.drop_zero, List.mem_replicate] at hx
  obtain ⟨r, _, _, rfl⟩ := hx
  rfl
theorem range_split (K r : Nat) (h : r < K) : List.range K = List.range r ++ r :: List.range' (r + 1) (K - r - 1) := by
  rw [List.range_eq_range', List.range_eq_range']
  have e : K = r + (1 + (K - r - 1)) := by omega
  conv => lhs; rw [e]
  rw [← List.range'_append_1, ← List.range'_append_1]
  simp [List.range'_one]
theorem outP_next (K : Nat) (rank : Nat → Nat) (l : List Nat) (j : Nat) (h : j < l.length) (hr : rank l[j] < K) :
    (outP K rank l j).set (l.countP (fun p => decide (rank p < rank l[j])) + (l.take j).countP (fun p => rank p == rank l[j])) l[j] = outP K rank l (j + 1) := by
  unfold outP
  rw [range_split K _ hr, List.flatMap_append, List.flatMap_cons, List.flatMap_append, List.flatMap_cons]
  have hlen := buckets_length rank l j (rank l[j])
  have same : ∀ r, r ≠ rank l[j] → bucket rank l (j + 1) r = bucket rank l j r := by
    intro r hne
    unfold bucket
    have h1 : (l.take (j + 1)).filter (fun p => rank p == r) = (l.take j).filter (fun p => rank p == r) := by
      rw [List.take_succ_eq_append_getElem h, List.filter_append]
      have : (rank l[j] == r) = false := by simp; omega
      simp [this]
    have h2 : (l.drop j).countP (fun p => rank p == r) = (l.drop (j + 1)).countP (fun p => rank p == r) := by
      rw [List.drop_eq_getElem_cons h, List.countP_cons]
      have : (rank l[j] == r) = false := by simp; omega
      simp [this]
    rw [h1, h2]
  have e1 : (List.range (rank l[j])).flatMap (bucket rank l (j + 1)) = (List.range (rank l[j])).flatMap (bucket rank l j) := by
    rw [List.flatMap_def, List.flatMap_def]
    congr 1
    apply List.map_congr_left
    intro r hr2
    rw [List.mem_range] at hr2
    exact same r (by omega)
  have e2 : (List.range' (rank l[j] + 1) (K - rank l[j] - 1)).flatMap (bucket rank l (j + 1)) = (List.range' (rank l[j] + 1) (K - rank l[j] - 1)).flatMap (bucket rank l j) := by
    rw [List.flatMap_def, List.flatMap_def]
    congr 1
    apply List.map_congr_left
    intro r hr2
    rw [List.mem_range'_1] at hr2
    exact same r (by omega)
  rw [e1, e2, ← hlen, List.set_append_right _ _ (by omega), Nat.add_sub_cancel_left]
  congr 1
  have hc : (l.take j).countP (fun p => rank p == rank l[j]) = ((l.take j).filter (fun p => rank p == rank l[j])).length := List.countP_eq_length_filter
  unfold bucket
  rw [hc, List.append_assoc, List.set_append_right _ _ (by omega), Nat.sub_self, List.drop_eq_getElem_cons h, List.countP_cons]
  simp only [BEq.rfl, if_true, List.replicate_succ, List.cons_append, List.set_cons_zero]
  rw [List.take_succ_eq_append_getElem h, List.filter_append]
  simp
theorem pos_lt (rank : Nat → Nat) (l : List Nat) (j : Nat) (h : j < l.length) : l.countP (fun p => decide (rank p < rank l[j])) + (l.take j).countP (fun p => rank p == rank l[j]) < l.length := by
  have h1 := countP_lt_succ rank l (rank l[j])
  have e : l.countP (fun p => rank p + 1 == rank l[j] + 1) = l.countP (fun p => rank p == rank l[j]) := by
    apply List.countP_congr; intro p _; simp
  have h2 := countP_take_succ (fun p => rank p == rank l[j]) l j h
  have h3 : (l.take (j + 1)).countP (fun p => rank p == rank l[j]) ≤ l.countP (fun p => rank p == rank l[j]) := (List.take_sublist _ _).countP_le
  have h4 := List.countP_le_length (p := fun p => decide (rank p < rank l[j] + 1)) (l := l)
  simp only [BEq.rfl, if_true] at h2
  omega
end Go.Proofs.Ytinlmodkdjpocaa

set_option linter.unusedVariables false
namespace Go.Proofs.Ytinlmodkdjpocaa
open Go.RowKit

theorem clone_nil_sy (c : Nat) (w : World) :
    Calls Try.prog 75 #[.slice none 0 c] w fun e w' => e = .returned (.slice none 0 0) ∧ w' = w := by
  have he : ∀ w : World, (binOp .eql 51 (.slice none 0 c) (.slice none 0 0)).run Try.prog w = .ok (.bool true) w := fun w => Lib.run_eql_slice_nil w 51 95 none 0 c 0 0 Try.underlying51
  go_enter Try.func75, Try.ntmps75
  go_wp2
  go_ret
  exact ⟨rfl, rfl⟩
theorem clone_some_sy (ad : Addr) (n c : Nat) (vs : List Value) (w : World) (hn : vs.length = n) (hc : ∀ j u, vs[j]? = some u → w.cell? (ad.add j) = some u) (h1 : ∀ u ∈ vs, u.oneCell' = true) (hb : n ≤ 10000000000) :
    Calls Try.prog 75 #[.slice (some ad) n c] w fun e w' => ∃ v', e = .returned v' ∧ w'.ownsRow w.heap.size 95 1 v' n vs ∧ Below w.heap.size w w' := by
  obtain ⟨i0, hi, hz0, hz1, hz2⟩ := info_parts info_u16
  have H : ∀ W : World, Below w.heap.size w W → w.heap.size + 1 ≤ W.heap.size → ∀ j u, vs[j]? = some u → W.cell? (ad.add j) = some u := fun W hW _ j u hj => (hW.cell (World.block_lt_of_cell? w _ (hc j u hj))).trans (hc j u hj)
  have H2 := Lib.hid H; clear H
  have H1 := Lib.hid hc; clear hc
  have H3 := Lib.hid h1; clear h1
  have H4 := Lib.hid hn; clear hn
  have he : ∀ w : World, (binOp .eql 51 (.slice (some ad) n c) (.slice none 0 0)).run Try.prog w = .ok (.bool false) w := fun w => Lib.run_eql_slice_nil w 51 95 (some ad) n c 0 0 Try.underlying51
  go_enter Try.func75, Try.ntmps75
  go_wp2_with (first
    | (at_builtin; go_must (refine wpList_append_own _ rfl _ _ 51 rfl w.heap.size 95 i0 (.int .u16 0) 1 2 Try.underlying51 hi hz0 hz1 hz2 rfl (by decide) (.slice (some ⟨w.heap.size, 0, none⟩) 0 0) 0 [] rfl (World.ownsRow_made w #[] 0 (Nat.le_refl _) (Nat.zero_le _) rfl) ad n c vs rfl (by simp [H4.out]) (H2.out _ ((Below.refl _ w).alloc (Nat.le_refl _) _) (by simp)) H3.out (by unfold maxLen; omega) (by omega) (by simp) ?_); intro v' w1 hown hgrow _))
  go_ret
  exact ⟨_, rfl, by simpa using hown, ((Below.refl _ w).alloc (Nat.le_refl _) _).grown hgrow (by simp) (fun k hk => by cases hk; simp)⟩
/-- slices.Clone at []uint16 -/
theorem clone_sy (v : Value) (bs : List Nat) (w : World) (h : SlR symV w v bs) (hb : bs.length ≤ 10000000000) :
    Calls Try.prog 75 #[v] w fun e w' => ∃ v', e = .returned v' ∧ w'.ownsRow w.heap.size 95 1 v' bs.length (bs.map symV) ∧ Below w.heap.size w w' := by
  obtain ⟨A, c, rfl, _⟩ := h.form
  obtain ⟨_, h1, h2⟩ := h.src
  cases A with
  | none =>
    have h0 := h1 rfl
    obtain rfl : bs = [] := List.eq_nil_of_length_eq_zero h0
    exact (clone_nil_sy c w).mono fun e w' ⟨he, hw⟩ => by subst hw; exact ⟨_, he, World.ownsRow_nil _ _ _ _, Below.refl _ _⟩
  | some ad => exact clone_some_sy ad bs.length c (bs.map symV) w (by simp) (h2 ad rfl) (oneCell_map (fun _ => rfl) bs) hb

theorem clone_nil_na (c : Nat) (w : World) :
    Calls Try.prog 90 #[.slice none 0 c] w fun e w' => e = .returned (.slice none 0 0) ∧ w' = w := by
  have he : ∀ w : World, (binOp .eql 73 (.slice none 0 c) (.slice none 0 0)).run Try.prog w = .ok (.bool true) w := fun w => Lib.run_eql_slice_nil w 73 3 none 0 c 0 0 Try.underlying73
  go_enter Try.func90, Try.ntmps90
  go_wp2
  go_ret
  exact ⟨rfl, rfl⟩
theorem clone_some_na (ad : Addr) (n c : Nat) (vs : List Value) (w : World) (hn : vs.length = n) (hc : ∀ j u, vs[j]? = some u → w.cell? (ad.add j) = some u) (h1 : ∀ u ∈ vs, u.oneCell' = true) (hb : n ≤ 10000000000) :
    Calls Try.prog 90 #[.slice (some ad) n c] w fun e w' => ∃ v', e = .returned v' ∧ w'.ownsRow w.heap.size 3 1 v' n vs ∧ Below w.heap.size w w' := by
  obtain ⟨i0, hi, hz0, hz1, hz2⟩ := info_parts info_int
  have H : ∀ W : World, Below w.heap.size w W → w.heap.size + 1 ≤ W.heap.size → ∀ j u, vs[j]? = some u → W.cell? (ad.add j) = some u := fun W hW _ j u hj => (hW.cell (World.block_lt_of_cell? w _ (hc j u hj))).trans (hc j u hj)
  have H2 := Lib.hid H; clear H
  have H1 := Lib.hid hc; clear hc
  have H3 := Lib.hid h1; clear h1
  have H4 := Lib.hid hn; clear hn
  have he : ∀ w : World, (binOp .eql 73 (.slice (some ad) n c) (.slice none 0 0)).run Try.prog w = .ok (.bool false) w := fun w => Lib.run_eql_slice_nil w 73 3 (some ad) n c 0 0 Try.underlying73
  go_enter Try.func90, Try.ntmps90
  go_wp2_with (first
    | (at_builtin; go_must (refine wpList_append_own _ rfl _ _ 73 rfl w.heap.size 3 i0 (.int .i64 0) 1 8 Try.underlying73 hi hz0 hz1 hz2 rfl (by decide) (.slice (some ⟨w.heap.size, 0, none⟩) 0 0) 0 [] rfl (World.ownsRow_made w #[] 0 (Nat.le_refl _) (Nat.zero_le _) rfl) ad n c vs rfl (by simp [H4.out]) (H2.out _ ((Below.refl _ w).alloc (Nat.le_refl _) _) (by simp)) H3.out (by unfold maxLen; omega) (by omega) (by simp) ?_); intro v' w1 hown hgrow _))
  go_ret
  exact ⟨_, rfl, by simpa using hown, ((Below.refl _ w).alloc (Nat.le_refl _) _).grown hgrow (by simp) (fun k hk => by cases hk; simp)⟩
/-- slices.Clone at []int -/
theorem clone_na (v : Value) (bs : List Nat) (w : World) (h : SlR natV w v bs) (hb : bs.length ≤ 10000000000) :
    Calls Try.prog 90 #[v] w fun e w' => ∃ v', e = .returned v' ∧ w'.ownsRow w.heap.size 3 1 v' bs.length (bs.map natV) ∧ Below w.heap.size w w' := by
  obtain ⟨A, c, rfl, _⟩ := h.form
  obtain ⟨_, h1, h2⟩ := h.src
  cases A with
  | none =>
    have h0 := h1 rfl
    obtain rfl : bs = [] := List.eq_nil_of_length_eq_zero h0
    exact (clone_nil_na c w).mono fun e w' ⟨he, hw⟩ => by subst hw; exact ⟨_, he, World.ownsRow_nil _ _ _ _, Below.refl _ _⟩
  | some ad => exact clone_some_na ad bs.length c (bs.map natV) w (by simp) (h2 ad rfl) (oneCell_map (fun _ => rfl) bs) hb

theorem clip_sy (A : Option Addr) (n c : Nat) (w : World) (h1 : n ≤ c) (h2 : c ≤ 9223372036854775807) :
    Calls Try.prog 74 #[.slice A n c] w fun e w' => e = .returned (.slice A n n) ∧ w' = w := by
  go_enter Try.func74, Try.ntmps74
  go_wp2
  go_ret
  exact ⟨rfl, rfl⟩

theorem clip_na (A : Option Addr) (n c : Nat) (w : World) (h1 : n ≤ c) (h2 : c ≤ 9223372036854775807) :
    Calls Try.prog 89 #[.slice A n c] w fun e w' => e = .returned (.slice A n n) ∧ w' = w := by
  go_enter Try.func89, Try.ntmps89
  go_wp2
  go_ret
  exact ⟨rfl, rfl⟩

theorem clip_ds (A : Option Addr) (n c : Nat) (w : World) (h1 : n ≤ c) (h2 : c ≤ 9223372036854775807) :
    Calls Try.prog 103 #[.slice A n c] w fun e w' => e = .returned (.slice A n n) ∧ w' = w := by
  go_enter Try.func103, Try.ntmps103
  go_wp2
  go_ret
  exact ⟨rfl, rfl⟩

set_option maxRecDepth 100000 in
theorem clo_wv (x : Nat) (w : World) (hx : x ≤ 65535) : Calls Try.prog 123 #[.int .u16 x] w fun e w' => e = .returned (.bool (decide (256 < x))) ∧ w' = w := by
  by_cases h : 256 < x
  · have hd : decide (256 < x) = true := by simpa using h
    rw [hd]
    clear hd
    go_enter Try.func123, Try.ntmps123
    go_wp2
    go_ret
    exact ⟨by simp; omega, rfl⟩
  · have hd : decide (256 < x) = false := by simpa using h
    rw [hd]
    clear hd
    go_enter Try.func123, Try.ntmps123
    go_wp2
    go_ret
    exact ⟨by simp; omega, rfl⟩
set_option maxHeartbeats 1000000 in
theorem index_wv (v : Value) (l : List Nat) (w : World) (h : SlR symV w v l) (hm : ∀ x ∈ l, x ≤ 65535) :
    Calls Try.prog 121 #[v, .func (.func 123) #[] #[]] w fun e w' => ∃ r : Int, e = .returned (.int .i64 r) ∧ w' = w ∧ (decide (0 ≤ r) = l.any (fun x => decide (256 < x))) := by
  obtain ⟨A, c, rfl, h4, h5, h6⟩ := h.form
  have H6 := Lib.hid h6
  have HM := Lib.hid hm
  have hlen : l.length ≤ 9223372036854775807 := by omega
  clear h h6 hm h4 h5
  obtain ⟨N, hN⟩ : ∃ N, N = l.length := ⟨_, rfl⟩
  rw [← hN] at hlen
  have HN := Lib.hid hN
  rw [← hN]
  clear hN
  go_enter Try.func121, Try.ntmps121
  go_wp2_with fail
  go_loop [8] (fun i => ∃ k : Nat, k ≤ N ∧ i = .int .i64 k ∧ Hid ((l.take k).any (fun x => decide (256 < x)) = false)) (fun i => N - (intOf i).toNat)
  case atStart => exact ⟨0, Nat.zero_le _, rfl, Lib.hid (by simp)⟩
  case round =>
    obtain ⟨k, hk, rfl, hn⟩ := hrel
    by_cases hlt : k < N
    · have hl2 : k < l.length := by rw [← HN.out]; exact hlt
      obtain ⟨ad, rfl, hc⟩ := H6.out k hl2
      have hx := HM.out _ (List.getElem_mem hl2)
      have hc' : w.cell? (ad.add k) = some (.int .u16 ((l[k] : Nat) : Int)) := hc
      have htk := Lib.hid (List.take_succ_eq_append_getElem hl2)
      have hany : Hid (256 < l[k] → l.any (fun x => decide (256 < x)) = true) := Lib.hid (fun hx => List.any_eq_true.2 ⟨_, List.getElem_mem hl2, by simpa using hx⟩)
      clear hc
      generalize hX : l[k] = x at *
      clear hX
      have hcl := Lib.hid (clo_wv x w hx)
      by_cases hbig : 256 < x
      · have hd : decide (256 < x) = true := by simpa using hbig
        rw [hd] at hcl
        clear hd
        have HA := Lib.hid (hany.out hbig)
        clear hany hbig hx
        go_wp2_with fail
        refine hcl.out.mono ?_
        rintro e w1 ⟨rfl, rfl⟩
        go_wp2_with fail
        go_ret
        exact ⟨_, rfl, rfl, by rw [HA.out]; simp⟩
      · have hd : decide (256 < x) = false := by simpa using hbig
        have HD := Lib.hid hd
        rw [hd] at hcl
        clear hd hany
        go_wp2_with fail
        refine hcl.out.mono ?_
        rintro e w1 ⟨rfl, rfl⟩
        go_wp2_with fail
        go_round
        case rel => exact ⟨k + 1, by omega, by go_num, Lib.hid (by rw [htk.out, List.any_append, hn.out]; simp [HD.out])⟩
        case measure => simp [intOf]; omega
    · obtain rfl : k = N := by omega
      have HA : Hid (l.any (fun x => decide (256 < x)) = false) := Lib.hid (by have := hn.out; rwa [HN.out, List.take_length] at this)
      clear hlt hn
      go_wp2_with fail
      go_ret
      exact ⟨_, rfl, rfl, by rw [HA.out]; rfl⟩
/-- whether a symbol is too large -/
theorem contains_wv (v : Value) (l : List Nat) (w : World) (h : SlR symV w v l) (hm : ∀ x ∈ l, x ≤ 65535) :
    Calls Try.prog 99 #[v, .func (.func 123) #[] #[]] w fun e w' => e = .returned (.bool (l.any (fun x => decide (256 < x)))) ∧ w' = w := by
  have hi := Lib.hid (index_wv v l w h hm)
  generalize l.any (fun x => decide (256 < x)) = t at *
  clear h hm
  go_enter Try.func99, Try.ntmps99
  go_wp2_with fail
  refine hi.out.mono ?_
  rintro e w1 ⟨r, rfl, rfl, hr⟩
  have HR := Lib.hid hr
  clear hr hi
  go_wp2_with fail
  go_ret
  exact ⟨by rw [← HR.out]; simp, rfl⟩

set_option maxRecDepth 100000 in
theorem clo_bw (x : Nat) (w : World) (hx : x ≤ 65535) : Calls Try.prog 100 #[.int .u16 x] w fun e w' => e = .returned (.bool (decide (256 < x))) ∧ w' = w := by
  by_cases h : 256 < x
  · have hd : decide (256 < x) = true := by simpa using h
    rw [hd]
    clear hd
    go_enter Try.func100, Try.ntmps100
    go_wp2
    go_ret
    exact ⟨by simp; omega, rfl⟩
  · have hd : decide (256 < x) = false := by simpa using h
    rw [hd]
    clear hd
    go_enter Try.func100, Try.ntmps100
    go_wp2
    go_ret
    exact ⟨by simp; omega, rfl⟩
set_option maxHeartbeats 1000000 in
theorem index_bw (v : Value) (l : List Nat) (w : World) (h : SlR symV w v l) (hm : ∀ x ∈ l, x ≤ 65535) :
    Calls Try.prog 121 #[v, .func (.func 100) #[] #[]] w fun e w' => ∃ r : Int, e = .returned (.int .i64 r) ∧ w' = w ∧ (decide (0 ≤ r) = l.any (fun x => decide (256 < x))) := by
  obtain ⟨A, c, rfl, h4, h5, h6⟩ := h.form
  have H6 := Lib.hid h6
  have HM := Lib.hid hm
  have hlen : l.length ≤ 9223372036854775807 := by omega
  clear h h6 hm h4 h5
  obtain ⟨N, hN⟩ : ∃ N, N = l.length := ⟨_, rfl⟩
  rw [← hN] at hlen
  have HN := Lib.hid hN
  rw [← hN]
  clear hN
  go_enter Try.func121, Try.ntmps121
  go_wp2_with fail
  go_loop [8] (fun i => ∃ k : Nat, k ≤ N ∧ i = .int .i64 k ∧ Hid ((l.take k).any (fun x => decide (256 < x)) = false)) (fun i => N - (intOf i).toNat)
  case atStart => exact ⟨0, Nat.zero_le _, rfl, Lib.hid (by simp)⟩
  case round =>
    obtain ⟨k, hk, rfl, hn⟩ := hrel
    by_cases hlt : k < N
    · have hl2 : k < l.length := by rw [← HN.out]; exact hlt
      obtain ⟨ad, rfl, hc⟩ := H6.out k hl2
      have hx := HM.out _ (List.getElem_mem hl2)
      have hc' : w.cell? (ad.add k) = some (.int .u16 ((l[k] : Nat) : Int)) := hc
      have htk := Lib.hid (List.take_succ_eq_append_getElem hl2)
      have hany : Hid (256 < l[k] → l.any (fun x => decide (256 < x)) = true) := Lib.hid (fun hx => List.any_eq_true.2 ⟨_, List.getElem_mem hl2, by simpa using hx⟩)
      clear hc
      generalize hX : l[k] = x at *
      clear hX
      have hcl := Lib.hid (clo_bw x w hx)
      by_cases hbig : 256 < x
      · have hd : decide (256 < x) = true := by simpa using hbig
        rw [hd] at hcl
        clear hd
        have HA := Lib.hid (hany.out hbig)
        clear hany hbig hx
        go_wp2_with fail
        refine hcl.out.mono ?_
        rintro e w1 ⟨rfl, rfl⟩
        go_wp2_with fail
        go_ret
        exact ⟨_, rfl, rfl, by rw [HA.out]; simp⟩
      · have hd : decide (256 < x) = false := by simpa using hbig
        have HD := Lib.hid hd
        rw [hd] at hcl
        clear hd hany
        go_wp2_with fail
        refine hcl.out.mono ?_
        rintro e w1 ⟨rfl, rfl⟩
        go_wp2_with fail
        go_round
        case rel => exact ⟨k + 1, by omega, by go_num, Lib.hid (by rw [htk.out, List.any_append, hn.out]; simp [HD.out])⟩
        case measure => simp [intOf]; omega
    · obtain rfl : k = N := by omega
      have HA : Hid (l.any (fun x => decide (256 < x)) = false) := Lib.hid (by have := hn.out; rwa [HN.out, List.take_length] at this)
      clear hlt hn
      go_wp2_with fail
      go_ret
      exact ⟨_, rfl, rfl, by rw [HA.out]; rfl⟩
/-- whether a symbol is too large -/
theorem contains_bw (v : Value) (l : List Nat) (w : World) (h : SlR symV w v l) (hm : ∀ x ∈ l, x ≤ 65535) :
    Calls Try.prog 99 #[v, .func (.func 100) #[] #[]] w fun e w' => e = .returned (.bool (l.any (fun x => decide (256 < x)))) ∧ w' = w := by
  have hi := Lib.hid (index_bw v l w h hm)
  generalize l.any (fun x => decide (256 < x)) = t at *
  clear h hm
  go_enter Try.func99, Try.ntmps99
  go_wp2_with fail
  refine hi.out.mono ?_
  rintro e w1 ⟨r, rfl, rfl, hr⟩
  have HR := Lib.hid hr
  clear hr hi
  go_wp2_with fail
  go_ret
  exact ⟨by rw [← HR.out]; simp, rfl⟩
end Go.Proofs.Ytinlmodkdjpocaa

set_option linter.unusedVariables false
namespace Go.Proofs.Ytinlmodkdjpocaa
open Go.RowKit

/-- an own row of numbers -/
def NaO (base : Nat) (W : World) (v : Value) (l : List Nat) : Prop := W.ownsRow base 3 1 v l.length (l.map natV)
theorem NaO.lower {base b2 : Nat} {W : World} {v : Value} {l : List Nat} (h : NaO base W v l) (hb : b2 ≤ base) : NaO b2 W v l := by
  refine ⟨h.1, ?_⟩
  rcases h.2 with h | ⟨g, cap, cur, h1, h2, h3⟩
  · exact .inl h
  · exact .inr ⟨g, cap, cur, h1, Nat.le_trans hb h2, h3⟩
theorem NaO.of {base n : Nat} {W : World} {v : Value} {l : List Nat} (h : W.ownsRow base 3 1 v n (l.map natV)) (hn : n = l.length) : NaO base W v l := by subst hn; exact h
theorem NaO.slT {base : Nat} {W : World} {v : Value} {l : List Nat} (h : NaO base W v l) : SlT 3 natV W v l := SlT.of_own h
theorem NaO.slR {base : Nat} {W : World} {v : Value} {l : List Nat} (h : NaO base W v l) : SlR natV W v l := SlR.of_own h
theorem NaO.form {base : Nat} {W : World} {v : Value} {l : List Nat} (h : NaO base W v l) : ∃ A c, v = .slice A l.length c := by
  rcases h.2 with ⟨rfl, h0⟩ | ⟨g, cap, cur, rfl, _⟩
  · exact ⟨none, 0, by rw [h0]⟩
  · exact ⟨_, _, rfl⟩
theorem NaO.below {base : Nat} {W W2 : World} {v : Value} {l : List Nat} (h : NaO base W v l) (hb : Below W.heap.size W W2) : NaO base W2 v l := own_below h hb

/-- a whole block of numbers -/
def IntB (W : World) (B : Nat) (l : List Nat) : Prop := W.heap[B]? = some (.cells (l.map natV).toArray 3 (0, 0))
theorem IntB.cell {W : World} {B : Nat} {l : List Nat} (h : IntB W B l) (i x : Nat) (hi : l[i]? = some x) : W.cell? ⟨B, i, none⟩ = some (.int .i64 (x : Int)) ∧ W.frozen? ⟨B, i, none⟩ = false := by
  refine ⟨?_, free_of_block h⟩
  rw [cell_of_block h]; simp [hi, natV]
theorem IntB.put {W : World} {B : Nat} {l : List Nat} (h : IntB W B l) (i x : Nat) : IntB (W.setCell ⟨B, i, none⟩ (.int .i64 (x : Int))) B (l.set i x) := by
  unfold IntB
  rw [heap_setCell_same h]
  have := map_set_arr natV l i x
  unfold natV at this ⊢
  rw [this]
theorem IntB.other {W : World} {B : Nat} {l : List Nat} (h : IntB W B l) (a : Addr) (u : Value) (hne : B ≠ a.block) : IntB (W.setCell a u) B l := by
  unfold IntB
  rw [Below.heap_setCell _ _ _ _ hne]; exact h
theorem IntB.made (w : World) (n : Nat) : IntB (w.alloc (.cells (madeCells #[.int .i64 0] n) 3)) w.heap.size (List.replicate n 0) := by
  unfold IntB
  rw [heap_alloc_new, made_int]
theorem IntB.below {W W2 : World} {B : Nat} {l : List Nat} (h : IntB W B l) (hb : Below W.heap.size W W2) : IntB W2 B l := (hb.block B (Array.getElem?_eq_some_iff.1 h).1).trans h
theorem IntB.alloc {W : World} {B : Nat} {l : List Nat} (h : IntB W B l) (o : Obj) : IntB (W.alloc o) B l := heap_old h
theorem IntB.lt {W : World} {B : Nat} {l : List Nat} (h : IntB W B l) : B < W.heap.size := (Array.getElem?_eq_some_iff.1 h).1
theorem IntB.own {W : World} {B base : Nat} {l : List Nat} (h : IntB W B l) (hb : base ≤ B) (hn : l.length ≤ maxLen) : NaO base W (.slice (some ⟨B, 0, none⟩) l.length l.length) l := by
  refine ⟨by simp, .inr ⟨B, _, _, rfl, hb, h, Nat.le_refl _, hn, by simp, by simp [List.take_of_length_le]⟩⟩

set_option maxRecDepth 100000 in
set_option maxHeartbeats 4000000 in
theorem suf_sortBy (lv rv : Value) (l R : List Nat) (K : Nat) (w : World) (hl : SlR natV w lv l) (hR : SlR natV w rv R) (hp : ∀ p ∈ l, p < R.length) (hk : ∀ p ∈ l, R.getD p 0 < K) (hK : K ≤ 1000000) (hn : l.length ≤ 1000000) :
    Calls Try.prog 126 #[lv, rv, .int .i64 K] w fun e w' => ∃ v, e = .returned v ∧ NaO w.heap.size w' v (sortByP K (fun p => R.getD p 0) l) ∧ Below w.heap.size w w' := by
  obtain ⟨A, c, rfl, k1, k2, k3⟩ := hl.form
  obtain ⟨A2, c2, rfl, j1, j2, j3⟩ := hR.form
  obtain ⟨rank, hrank⟩ : ∃ rank : Nat → Nat, rank = fun p => R.getD p 0 := ⟨_, rfl⟩
  have hcell : ∀ j (hj : j < l.length), ∃ p r : Nat, ∃ ad ad2, A = some ad ∧ A2 = some ad2 ∧ l[j] = p ∧ rank l[j] = r ∧ r < K ∧ p < R.length ∧ w.cell? (ad.add j) = some (.int .i64 (p : Int)) ∧ w.cell? (ad2.add p) = some (.int .i64 (r : Int)) := by
    intro j hj
    obtain ⟨ad, hA, hc⟩ := k3 j hj
    have h1 := hp _ (List.getElem_mem hj)
    obtain ⟨ad2, hA2, hc2⟩ := j3 _ h1
    have h2 := hk _ (List.getElem_mem hj)
    refine ⟨_, _, ad, ad2, hA, hA2, rfl, rfl, by rw [hrank]; exact h2, h1, hc, ?_⟩
    have e : rank l[j] = R[l[j]] := by rw [hrank]; simp [List.getD, h1]
    rw [e]; exact hc2
  have hk' : ∀ p ∈ l, rank p < K := by rw [hrank]; exact hk
  have HC := Lib.hid hcell
  have HK := Lib.hid hk'
  have HRank := Lib.hid hrank
  rw [← hrank]
  clear hl hR hp hk k3 j3 hcell hk' hrank
  obtain ⟨N, hN⟩ : ∃ N, N = l.length := ⟨_, rfl⟩
  obtain ⟨M, hM⟩ : ∃ M, M = R.length := ⟨_, rfl⟩
  have HN := Lib.hid hN
  have HM := Lib.hid hM
  rw [← hN] at hn k1 ⊢
  rw [← hM] at j1 ⊢
  clear hN hM
  have hmk := fun W => run_make_row' (P := Try.prog) 73 3 (.int .i64 0) 8 Try.underlying73 info_int rfl .i64 .i64 (K + 1) (by omega) (by omega) W
  have hmk2 : ∀ W, (Instr.makeSlice 73 (.int .i64 ((K : Int) + 1)) (.int .i64 ((K : Int) + 1))).run Try.prog W = .ok (.slice (some ⟨W.heap.size, 0, none⟩) (K + 1) (K + 1)) (W.alloc (.cells (madeCells #[.int .i64 0] (K + 1)) 3)) := hmk
  clear hmk
  go_enter Try.func126, Try.ntmps126
  go_wp2_with fail
  have H0 : Hid (IntB (w.alloc (.cells (madeCells #[.int .i64 0] (K + 1)) 3)) w.heap.size (at1 K rank l 0)) := Lib.hid (by rw [at1_zero]; exact IntB.made _ _)
  have HB0 : Hid (Below w.heap.size w (w.alloc (.cells (madeCells #[.int .i64 0] (K + 1)) 3))) := Lib.hid ((Below.refl _ _).alloc (Nat.le_refl _) _)
  generalize w.alloc (.cells (madeCells #[.int .i64 0] (K + 1)) 3) = w1 at *
  clear hmk2
  obtain ⟨B, hB⟩ : ∃ B, B = w.heap.size := ⟨_, rfl⟩
  rw [← hB] at H0 HB0 ⊢
  have HBe := Lib.hid hB
  clear hB
  go_loopw [19] (fun ix wr => ∃ j : Nat, j ≤ N ∧ ix = .int .i64 j ∧ IntB wr B (at1 K rank l j) ∧ Below B w wr) (fun ix _ => N - (intOf ix).toNat)
  case atStart => exact ⟨0, Nat.zero_le _, rfl, H0.out, HB0.out⟩
  case round =>
    clear H0 HB0
    obtain ⟨j, hj, rfl, hat, hbe⟩ := hrel
    by_cases hlt : j < N
    · have hjl : j < l.length := by rw [← HN.out]; exact hlt
      obtain ⟨p, r, ad, ad2, rfl, rfl, hp, hr, hrK, hpM, hc1, hc2⟩ := HC.out j hjl
      have hc1' : wr.cell? (ad.add j) = some (.int .i64 (p : Int)) := (hbe.cell (by rw [HBe.out]; exact World.block_lt_of_cell? w _ hc1)).trans hc1
      have hc2' : wr.cell? (ad2.add p) = some (.int .i64 (r : Int)) := (hbe.cell (by rw [HBe.out]; exact World.block_lt_of_cell? w _ hc2)).trans hc2
      obtain ⟨a1, a2⟩ := hat.cell (r + 1) _ (at1_get K rank l j (r + 1) (by omega))
      have hle : (l.take j).countP (fun p => rank p + 1 == r + 1) ≤ j := Nat.le_trans (List.countP_le_length) (by rw [List.length_take]; omega)
      have hput := hat.put (r + 1) ((l.take j).countP (fun p => rank p + 1 == r + 1) + 1)
      have hnx := at1_next K rank l j hjl
      rw [hr] at hnx
      rw [hnx] at hput
      rw [← HM.out] at hpM
      have HP := Lib.hid hput
      have HB := Lib.hid (hbe.setCell (p := ⟨B, r + 1, none⟩) (Nat.le_refl _) (.int .i64 (((l.take j).countP (fun p => rank p + 1 == r + 1) + 1 : Nat) : Int)))
      generalize (l.take j).countP (fun p => rank p + 1 == r + 1) = a at *
      clear hput hnx hat hbe hc1 hc2 hp hr
      go_wp2_with fail
      go_roundw
      case rel => exact ⟨j + 1, by omega, by go_num, HP.out, HB.out⟩
      case measure => simp [intOf]; omega
    · obtain rfl : N = j := by omega
      have h20 : IntB wr B (at2 K rank l 0) := by rw [at2_zero, ← HN.out]; exact hat
      have H20 := Lib.hid h20
      have HB20 := Lib.hid hbe
      clear hat hbe h20 hlt hj
      obtain ⟨w2, hw2⟩ : ∃ w2, w2 = wr := ⟨_, rfl⟩
      rw [← hw2] at H20 HB20 ⊢
      clear hw2
      go_wp2_with fail
      go_loopw [35] (fun ix wr => ∃ i : Nat, i ≤ K ∧ ix = .int .i64 i ∧ IntB wr B (at2 K rank l i) ∧ Below B w wr) (fun ix _ => K - (intOf ix).toNat)
      case atStart => exact ⟨0, Nat.zero_le _, rfl, H20.out, HB20.out⟩
      case round =>
        obtain ⟨i, hi, rfl, hat, hbe⟩ := hrel
        by_cases hlt : i < K
        · have g1 := at2_get K rank l i (i + 1) (by omega)
          have g2 := at2_get K rank l i i (by omega)
          rw [if_neg (by omega)] at g1
          rw [if_pos (Nat.le_refl _)] at g2
          obtain ⟨a1, a2⟩ := hat.cell (i + 1) _ g1
          obtain ⟨b1, b2⟩ := hat.cell i _ g2
          have l1 : l.countP (fun p => rank p + 1 == i + 1) ≤ N := by rw [HN.out]; exact List.countP_le_length
          have l2 : l.countP (fun p => decide (rank p < i)) ≤ N := by rw [HN.out]; exact List.countP_le_length
          have hput := (show IntB wr.drew B _ from hat).put (i + 1) (l.countP (fun p => rank p + 1 == i + 1) + l.countP (fun p => decide (rank p < i)))
          rw [at2_next] at hput
          have HP := Lib.hid hput
          have HB := Lib.hid ((hbe.drew).setCell (p := ⟨B, i + 1, none⟩) (Nat.le_refl _) (.int .i64 ((l.countP (fun p => rank p + 1 == i + 1) + l.countP (fun p => decide (rank p < i)) : Nat) : Int)))
          generalize l.countP (fun p => rank p + 1 == i + 1) = a at *
          generalize l.countP (fun p => decide (rank p < i)) = b at *
          have q1 : IntKind.i64.wrap ((i : Int) + 1) = (i : Int) + 1 := IntWalk.i64_in _ (by omega)
          have q2 : IntKind.i64.wrap ((a : Int) + (b : Nat)) = (a : Int) + (b : Nat) := IntWalk.i64_in _ (by omega)
          have q3 : (i : Int) < (K : Int) + 1 := by omega
          have q4 : (i : Int) + 1 < (K : Int) + 1 := by omega
          have q5 : ((i : Int) + 1).toNat = i + 1 := by omega
          have q6 : (0 : Int) ≤ (i : Int) + 1 := by omega
          clear hput hat hbe g1 g2
          go_wp2_with fail
          go_still_tail 10, (by kernel_rfl)
          change wpList _ _ _ _ _ wr.drew
          go_wp2_with fail
          go_roundw
          case rel => exact ⟨i + 1, by omega, by go_num, HP.out, HB.out⟩
          case measure => simp [intOf]; omega
        · obtain rfl : K = i := by omega
          have HA := Lib.hid hat
          have HBB := Lib.hid hbe
          clear hat hbe hlt hi
          obtain ⟨w3, hw3⟩ : ∃ w3, w3 = wr := ⟨_, rfl⟩
          rw [← hw3] at HA HBB ⊢
          clear hw3
          have hmk := fun W => run_make_row' (P := Try.prog) 73 3 (.int .i64 0) 8 Try.underlying73 info_int rfl .i64 .i64 N (by omega) (by omega) W
          go_wp2_with fail
          have hK' : ∀ p ∈ l, rank p < K := HK.out
          have O0 : Hid (IntB (w3.alloc (.cells (madeCells #[.int .i64 0] N) 3)) w3.heap.size (outP K rank l 0)) := Lib.hid (by rw [outP_zero _ _ _ hK', ← HN.out]; exact IntB.made _ _)
          have A0 : Hid (IntB (w3.alloc (.cells (madeCells #[.int .i64 0] N) 3)) B (at3 K rank l 0)) := Lib.hid (by rw [at3_zero]; exact HA.out.alloc _)
          have hBs := HA.out.lt
          have B0 : Hid (Below B w (w3.alloc (.cells (madeCells #[.int .i64 0] N) 3))) := Lib.hid (HBB.out.alloc (by omega) _)
          generalize w3.alloc (.cells (madeCells #[.int .i64 0] N) 3) = w4 at *
          generalize w3.heap.size = Bo at *
          clear hmk HA HBB hK'
          go_loopw [55] (fun ix wr => ∃ j : Nat, j ≤ N ∧ ix = .int .i64 j ∧ IntB wr B (at3 K rank l j) ∧ IntB wr Bo (outP K rank l j) ∧ Below B w wr) (fun ix _ => N - (intOf ix).toNat)
          case atStart => exact ⟨0, Nat.zero_le _, rfl, A0.out, O0.out, B0.out⟩
          case round =>
            clear A0 O0 B0
            obtain ⟨j, hj, rfl, hat, hout, hbe⟩ := hrel
            by_cases hlt : j < N
            · have hjl : j < l.length := by rw [← HN.out]; exact hlt
              have hpos := pos_lt rank l j hjl
              obtain ⟨p, r, ad, ad2, rfl, rfl, hp, hr, hrK, hpM, hc1, hc2⟩ := HC.out j hjl
              have hc1' : wr.cell? (ad.add j) = some (.int .i64 (p : Int)) := (hbe.cell (by rw [HBe.out]; exact World.block_lt_of_cell? w _ hc1)).trans hc1
              have hc2' : wr.cell? (ad2.add p) = some (.int .i64 (r : Int)) := (hbe.cell (by rw [HBe.out]; exact World.block_lt_of_cell? w _ hc2)).trans hc2
              have hn1 := at3_next K rank l j hjl
              have hn2 := outP_next K rank l j hjl (by rw [hr]; exact hrK)
              rw [hr] at hn1 hn2 hpos
              rw [hp] at hn2
              obtain ⟨a1, a2⟩ := hat.cell r _ (at3_get K rank l j r (by omega))
              obtain ⟨y, hy⟩ : ∃ y, (outP K rank l j)[l.countP (fun p => decide (rank p < r)) + (l.take j).countP (fun p => rank p == r)]? = some y := by
                rw [List.getElem?_eq_getElem (by rw [outP_length K rank l j HK.out]; exact hpos)]; exact ⟨_, rfl⟩
              obtain ⟨b1, b2⟩ := hout.cell _ _ hy
              have hput1 := hout.put (l.countP (fun p => decide (rank p < r)) + (l.take j).countP (fun p => rank p == r)) p
              rw [hn2] at hput1
              have hat2 := hat.other ⟨Bo, l.countP (fun p => decide (rank p < r)) + (l.take j).countP (fun p => rank p == r), none⟩ (.int .i64 (p : Int)) (by show B ≠ Bo; omega)
              have hput2 := hat2.put r (l.countP (fun p => decide (rank p < r)) + (l.take j).countP (fun p => rank p == r) + 1)
              rw [hn1] at hput2
              have hput3 := hput1.other ⟨B, r, none⟩ (.int .i64 ((l.countP (fun p => decide (rank p < r)) + (l.take j).countP (fun p => rank p == r) + 1 : Nat) : Int)) (by show Bo ≠ B; omega)
              have hb2 := (hbe.setCell (p := ⟨Bo, l.countP (fun p => decide (rank p < r)) + (l.take j).countP (fun p => rank p == r), none⟩) (by show B ≤ Bo; omega) (.int .i64 (p : Int))).setCell (p := ⟨B, r, none⟩) (Nat.le_refl _) (.int .i64 ((l.countP (fun p => decide (rank p < r)) + (l.take j).countP (fun p => rank p == r) + 1 : Nat) : Int))
              have P1 := Lib.hid hput2
              have P2 := Lib.hid hput3
              have P3 := Lib.hid hb2
              obtain ⟨a3, a4⟩ := hat2.cell r _ (at3_get K rank l j r (by omega))
              have hc2'' : ∀ (q : Nat) (u : Value), (wr.setCell ⟨Bo, q, none⟩ u).cell? (ad2.add p) = some (.int .i64 (r : Int)) := fun q u => by
                rw [World.cell?_setCell_other _ _ _ _ (fun e => by have := World.block_lt_of_cell? w _ hc2; rw [← HBe.out, ← e] at this; exact absurd this (by show ¬ Bo < B; omega))]; exact hc2'
              have hc3 := hc2'' (l.countP (fun p => decide (rank p < r)) + (l.take j).countP (fun p => rank p == r)) (.int .i64 (p : Int))
              clear hc2''
              have hBne : ¬ B = Bo := by omega
              have hBne2 : ¬ Bo = B := by omega
              rw [← HM.out] at hpM
              rw [← HN.out] at hpos
              have HBn := Lib.hid hBs
              generalize l.countP (fun p => decide (rank p < r)) + (l.take j).countP (fun p => rank p == r) = a at *
              clear hput1 hput2 hput3 hb2 hat hat2 hout hbe hc1 hc2 hp hr hn1 hn2 hy
              go_wp2_with fail
              go_roundw
              case rel => exact ⟨j + 1, by omega, by go_num, P1.out, P2.out, P3.out⟩
              case measure => simp [intOf]; omega
            · obtain rfl : N = j := by omega
              have HO : Hid (NaO w.heap.size wr (.slice (some ⟨Bo, 0, none⟩) N N) (sortByP K rank l)) := Lib.hid (by
                rw [HN.out, outP_end] at hout
                have hlen : (sortByP K rank l).length = N := by rw [← outP_end, outP_length K rank l _ HK.out, HN.out]
                have := hout.own (base := w.heap.size) (by rw [← HBe.out]; omega) (by rw [hlen]; unfold maxLen; omega)
                rw [hlen] at this
                exact this)
              have HB : Hid (Below w.heap.size w wr) := Lib.hid (by rw [← HBe.out]; exact hbe)
              clear hat hout hbe hlt hj
              go_wp2_with fail
              go_ret
              exact ⟨_, rfl, HO.out, HB.out⟩
end Go.Proofs.Ytinlmodkdjpocaa

set_option linter.unusedVariables false
namespace Go.Proofs.Ytinlmodkdjpocaa
open Go.RowKit

theorem NaO.at_ {base : Nat} {W : World} {v : Value} {l : List Nat} (h : NaO base W v l) (k : Nat) (hk : k < l.length) : ∃ ad c, v = .slice (some ad) l.length c ∧ W.cell? (ad.add k) = some (.int .i64 (l[k] : Nat)) := by
  obtain ⟨A, c, rfl⟩ := h.form
  obtain ⟨ad, rfl, hc⟩ := h.slR.at_ k hk
  exact ⟨ad, c, rfl, hc⟩
theorem NaO.lt {base : Nat} {W : World} {v : Value} {l : List Nat} (h : NaO base W v l) : ∀ g, v.ownBlock = some g → base ≤ g ∧ g < W.heap.size := by
  intro g hg
  rcases h.2 with ⟨rfl, _⟩ | ⟨g2, _, _, rfl, hge, hh, _⟩
  · simp [Value.ownBlock] at hg
  · simp [Value.ownBlock] at hg; subst hg; exact ⟨hge, (Array.getElem?_eq_some_iff.1 hh).1⟩
theorem NaO.snoc {base : Nat} {W : World} {v : Value} {l : List Nat} {x n : Nat} (h : W.ownsRow base 3 1 v n (l.map natV ++ [.int .i64 (x : Int)])) (hn : n = l.length + 1) : NaO base W v (l ++ [x]) := by
  refine NaO.of (n := n) ?_ (by simp [hn])
  rw [List.map_append]; exact h

/-- what has been taken over of the places -/
def secU (n k : Nat) (sa : List Nat) (j : Nat) : List Nat := List.range' (n - k) k ++ ((sa.take j).filter (fun p => decide (k ≤ p))).map (· - k)
theorem secU_len (n k : Nat) (sa : List Nat) (j : Nat) : (secU n k sa j).length ≤ k + j := by
  unfold secU
  rw [List.length_append, List.length_range', List.length_map]
  have := List.length_filter_le (fun p => decide (k ≤ p)) (sa.take j)
  rw [List.length_take] at this
  omega
theorem secU_yes (n k : Nat) (sa : List Nat) (j : Nat) (hj : j < sa.length) (h : k ≤ sa[j]) : secU n k sa (j + 1) = secU n k sa j ++ [sa[j] - k] := by
  unfold secU
  rw [List.take_succ_eq_append_getElem hj, List.filter_append, List.map_append, List.append_assoc]
  simp [h]
theorem secU_no (n k : Nat) (sa : List Nat) (j : Nat) (hj : j < sa.length) (h : ¬ k ≤ sa[j]) : secU n k sa (j + 1) = secU n k sa j := by
  unfold secU
  rw [List.take_succ_eq_append_getElem hj, List.filter_append, List.map_append]
  simp [h]
theorem secU_end (k : Nat) (sa : List Nat) : secU sa.length k sa sa.length = secondP sa.length k sa := by
  unfold secU secondP
  rw [List.take_length]

set_option maxRecDepth 100000 in
set_option maxHeartbeats 4000000 in
theorem suf_second (v : Value) (sa : List Nat) (k : Nat) (w : World) (h : SlR natV w v sa) (hk : k ≤ sa.length) (hn : sa.length ≤ 1000000) (hm : ∀ p ∈ sa, p ≤ 1000000) :
    Calls Try.prog 127 #[v, .int .i64 k] w fun e w' => ∃ v', e = .returned v' ∧ NaO w.heap.size w' v' (secondP sa.length k sa) ∧ Below w.heap.size w w' := by
  obtain ⟨A, c, rfl, k1, k2, k3⟩ := h.form
  have hcell : ∀ j (hj : j < sa.length), ∃ (p : Nat) (ad : Addr), A = some ad ∧ sa[j] = p ∧ p ≤ 1000000 ∧ w.cell? (ad.add j) = some (.int .i64 (p : Int)) := by
    intro j hj
    obtain ⟨ad, hA, hc⟩ := k3 j hj
    exact ⟨_, ad, hA, rfl, hm _ (List.getElem_mem hj), hc⟩
  have HC := Lib.hid hcell
  clear k3 h hcell hm
  obtain ⟨N, hN⟩ : ∃ N, N = sa.length := ⟨_, rfl⟩
  have HN := Lib.hid hN
  rw [← hN] at k1 hk hn ⊢
  clear hN
  obtain ⟨i0, hi, hz0, hz1, hz2⟩ := info_parts info_int
  obtain ⟨w1, hr1, hown1, hg1⟩ := run_make_own (P := Try.prog) w w.heap.size 73 3 i0 (.int .i64 0) 1 Try.underlying73 hi hz0 hz1 .i64 .i64 N (by rw [hz2]; omega) (by unfold maxLen; omega) (Nat.le_refl _)
  have hb1 : Below w.heap.size w w1 := (Below.refl _ w).grown hg1 (Nat.le_refl _) (fun k e => by cases e)
  have HO := Lib.hid hown1
  have HB := Lib.hid hb1
  clear hown1 hg1 hb1 hi hz0 hz1 hz2
  go_enter Try.func127, Try.ntmps127
  go_wp2_with fail
  go_loopw [5, 6] (fun v ix wr => ∃ d : Nat, d ≤ k ∧ ix = .int .i64 (N - k + d : Nat) ∧ NaO w.heap.size wr v (List.range' (N - k) d) ∧ Below w.heap.size w wr) (fun _ ix _ => N - (intOf ix).toNat)
  case atStart => exact ⟨0, Nat.zero_le _, by rw [Nat.add_zero, Int.ofNat_sub hk], HO.out, HB.out⟩
  case round =>
    clear HO HB
    obtain ⟨d, hd, rfl, ho, hbe⟩ := hrel
    obtain ⟨Av, cv, hv⟩ := ho.form
    rw [List.length_range'] at hv
    subst hv
    have HO := Lib.hid ho
    have HB := Lib.hid hbe
    have hsz := hbe.size
    clear ho hbe
    obtain ⟨P, hP⟩ : ∃ P, P = N - k + d := ⟨_, rfl⟩
    rw [← hP]
    have HP := Lib.hid hP
    have hPle : P ≤ N := by omega
    by_cases hlt : d < k
    · have hPN : P < N := by omega
      clear hP
      have HOn : Hid (wr.ownsRow w.heap.size 3 1 (.slice Av d cv) d ((List.range' (N - k) d).map natV)) := Lib.hid (by have := HO.out; unfold NaO at this; rw [List.length_range'] at this; exact this)
      go_wp2_with (at_builtin; refine wp_app w.heap.size 73 3 (.int .i64 0) 1 8 (.tmp 22) (.tmp 24) rfl rfl Try.underlying73 info_int rfl (by decide) (by decide) (.slice Av d cv) d _ #[.int .i64 (P : Nat)] rfl rfl HOn.out rfl (by intro u hu; simp at hu; subst hu; rfl) (by omega) hsz ?_; intro g cap w6 ho6 hg6 hat6 hgb6 hgl6 hgs6; have HO6 := Lib.hid ho6; have HG6 := Lib.hid hg6; clear ho6 hg6 hat6)
      go_roundw
      case rel =>
        refine ⟨d + 1, by omega, by have := HP.out; go_num, ?_, HB.out.grown HG6.out hsz (fun g hg => (HO.out.lt g hg).1)⟩
        rw [List.range'_1_concat]
        have := HO6.out
        rw [HP.out] at this
        exact NaO.snoc (l := List.range' (N - k) d) this (by rw [List.length_range'])
      case measure => simp [intOf]; omega
    · obtain rfl : N = P := by omega
      obtain rfl : k = d := by omega
      have h0 : Hid (NaO w.heap.size wr (.slice Av k cv) (secU N k sa 0)) := Lib.hid (by unfold secU; simpa using HO.out)
      have HB2 := HB
      obtain ⟨w2, hw2⟩ : ∃ w2, w2 = wr := ⟨_, rfl⟩
      rw [← hw2] at h0 HB2 ⊢
      clear hw2 HO HB hsz hP HP hlt hd
      go_wp2_with fail
      go_loopw [5, 28] (fun v ix wr => ∃ j : Nat, j ≤ N ∧ ix = .int .i64 (j : Nat) ∧ NaO w.heap.size wr v (secU N k sa j) ∧ Below w.heap.size w wr) (fun _ ix _ => N - (intOf ix).toNat)
      case atStart => exact ⟨0, Nat.zero_le _, rfl, h0.out, HB2.out⟩
      case round =>
        clear h0 HB2
        obtain ⟨j, hj, rfl, ho, hbe⟩ := hrel
        obtain ⟨Av, cv, hv⟩ := ho.form
        have hlen := secU_len N k sa j
        subst hv
        have HO := Lib.hid ho
        have HB := Lib.hid hbe
        have hsz := hbe.size
        clear ho
        by_cases hlt : j < N
        · have hjl : j < sa.length := by rw [← HN.out]; exact hlt
          obtain ⟨p, ad, rfl, hp, hp2, hc⟩ := HC.out j hjl
          have hc1 : wr.cell? (ad.add j) = some (.int .i64 (p : Int)) := (hbe.cell (World.block_lt_of_cell? w _ hc)).trans hc
          have hy := secU_yes N k sa j hjl
          have hno := secU_no N k sa j hjl
          rw [hp] at hy hno
          clear hc hp hbe
          by_cases hkp : k ≤ p
          · have HY := Lib.hid (hy hkp)
            clear hy hno
            obtain ⟨P, hP⟩ : ∃ P, P = p - k := ⟨_, rfl⟩
            have hPi : (p : Int) - (k : Int) = (P : Nat) := by omega
            rw [← hP] at HY
            clear hP
            generalize secU N k sa j = L at *
            go_wp2_with (at_builtin; refine wp_app w.heap.size 73 3 (.int .i64 0) 1 8 (.tmp 35) (.tmp 39) rfl rfl Try.underlying73 info_int rfl (by decide) (by decide) (.slice Av L.length cv) L.length _ #[.int .i64 (P : Nat)] rfl rfl HO.out rfl (by intro u hu; simp at hu; subst hu; rfl) (by omega) hsz ?_; intro g cap w6 ho6 hg6 hat6 hgb6 hgl6 hgs6; have HO6 := Lib.hid ho6; have HG6 := Lib.hid hg6; clear ho6 hg6 hat6)
            go_roundw
            case rel =>
              refine ⟨j + 1, by omega, by go_num, ?_, HB.out.grown HG6.out hsz (fun g hg => (HO.out.lt g hg).1)⟩
              rw [HY.out]
              exact NaO.snoc HO6.out rfl
            case measure => simp [intOf]; omega
          · have HNo := Lib.hid (hno hkp)
            clear hy hno
            go_wp2_with fail
            go_roundw
            case rel =>
              refine ⟨j + 1, by omega, by go_num, ?_, HB.out⟩
              rw [HNo.out]
              exact HO.out
            case measure => simp [intOf]; omega
        · obtain rfl : N = j := by omega
          have HE : Hid (secU N k sa N = secondP N k sa) := Lib.hid (by rw [HN.out]; exact secU_end k sa)
          clear hlt hj hlen
          go_wp2_with fail
          go_ret
          exact ⟨_, rfl, by rw [← HE.out]; exact HO.out, HB.out⟩
end Go.Proofs.Ytinlmodkdjpocaa

set_option linter.unusedVariables false
namespace Go.Proofs.Ytinlmodkdjpocaa
open Go.RowKit

/-- what stands k places behind a place, by its rank; -1: nothing -/
def behI (R : List Nat) (k p : Nat) : Int := (behindP R.length (fun p => R.getD p 0) k p : Int) - 1
set_option maxRecDepth 100000 in
theorem suf_behind (R : List Nat) (rv : Value) (k p bk br : Nat) (w : World) (h : SlR natV w rv R) (hk : w.cell? ⟨bk, 0, none⟩ = some (.int .i64 k)) (hr : w.cell? ⟨br, 0, none⟩ = some rv) (hp : p ≤ 1000000) (hk2 : k ≤ 1000000) :
    Calls Try.prog 140 #[.int .i64 p, .pointer (some ⟨bk, 0, none⟩), .pointer (some ⟨br, 0, none⟩)] w fun e w' => e = .returned (.int .i64 (behI R k p)) ∧ w' = w := by
  obtain ⟨A, c, rfl, k1, k2, k3⟩ := h.form
  unfold behI behindP
  by_cases hlt : p + k < R.length
  · obtain ⟨ad, rfl, hc⟩ := k3 _ hlt
    have hc' : w.cell? (ad.add (p + k)) = some (.int .i64 (R[p + k] : Nat)) := hc
    rw [if_pos hlt]
    have e : ((R.getD (p + k) 0 + 1 : Nat) : Int) - 1 = (R[p + k] : Nat) := by simp [List.getD, hlt]
    rw [e]
    generalize R[p + k] = x at *
    clear h k3 hc e
    generalize R.length = N at *
    go_enter Try.func140, Try.ntmps140
    go_wp2
    go_ret
    exact ⟨rfl, rfl⟩
  · rw [if_neg hlt]
    clear h k3
    generalize R.length = N at *
    go_enter Try.func140, Try.ntmps140
    go_wp2
    go_ret
    exact ⟨rfl, rfl⟩

theorem turnsP_step (f : Nat → Nat × Nat) (l : List Nat) (j : Nat) (hj : j < l.length) : turnsP f (l.take (j + 1)) = turnsP f (l.take j) + if h : 0 < j then (if f l[j - 1] = f l[j] then 0 else 1) else 0 := by
  cases j with
  | zero => cases l <;> simp [turnsP]
  | succ j =>
    rw [dif_pos (Nat.succ_pos j)]
    exact turnsP_succ f l j hj
/-- the classes that have been told -/
def Told (R sa : List Nat) (k j : Nat) (nx : List Nat) : Prop := nx.length = sa.length ∧ ∀ i (hi : i < sa.length), i < j → nx[sa[i]]? = some (turnsP (pairP R.length (fun p => R.getD p 0) k) (sa.take (i + 1)))
theorem Told.put {R sa : List Nat} {k j : Nat} {nx : List Nat} (h : Told R sa k j nx) (hn : sa.Nodup) (hm : ∀ p ∈ sa, p < sa.length) (hj : j < sa.length) (x : Nat) (hx : x = turnsP (pairP R.length (fun p => R.getD p 0) k) (sa.take (j + 1))) : Told R sa k (j + 1) (nx.set sa[j] x) := by
  refine ⟨by rw [List.length_set]; exact h.1, fun i hi hij => ?_⟩
  by_cases e : i = j
  · subst e
    rw [List.getElem?_set_self (by rw [h.1]; exact hm _ (List.getElem_mem hi)), hx]
  · have hne : sa[j] ≠ sa[i] := by
      intro e2
      have := List.pairwise_iff_getElem.1 hn i j hi hj (by omega)
      exact this e2.symm
    rw [List.getElem?_set_ne hne]
    exact h.2 i hi (by omega)

def RkPost (R sa : List Nat) (k : Nat) (w : World) (e : Ending) (w' : World) : Prop := ∃ v nx, e = .returned (.tuple #[v, .int .i64 (turnsP (pairP R.length (fun p => R.getD p 0) k) sa + 1 : Nat)]) ∧ NaO w.heap.size w' v nx ∧ Told R sa k sa.length nx ∧ Below w.heap.size w w'
set_option maxRecDepth 100000 in
set_option maxHeartbeats 4000000 in
theorem suf_ranks (v rv : Value) (sa R : List Nat) (k : Nat) (w : World) (h : SlR natV w v sa) (hR : SlR natV w rv R) (hnd : sa.Nodup) (hm : ∀ p ∈ sa, p < sa.length) (hRl : R.length = sa.length) (hn : sa.length ≤ 1000000) (hRm : ∀ x ∈ R, x ≤ 1000000) (hk : k ≤ 1000000) :
    Calls Try.prog 128 #[v, rv, .int .i64 k] w (RkPost R sa k w) := by
  obtain ⟨A, c, rfl, k1, k2, k3⟩ := h.form
  obtain ⟨A2, c2, rfl, j1, j2, j3⟩ := hR.form
  have hcell : ∀ j (hj : j < sa.length), ∃ (p r : Nat) (ad ad2 : Addr), A = some ad ∧ A2 = some ad2 ∧ sa[j] = p ∧ p < sa.length ∧ R.getD p 0 = r ∧ r ≤ 1000000 ∧ w.cell? (ad.add j) = some (.int .i64 (p : Int)) ∧ w.cell? (ad2.add p) = some (.int .i64 (r : Int)) := by
    intro j hj
    obtain ⟨ad, hA, hc⟩ := k3 j hj
    have h1 := hm _ (List.getElem_mem hj)
    obtain ⟨ad2, hA2, hc2⟩ := j3 sa[j] (by omega)
    refine ⟨_, _, ad, ad2, hA, hA2, rfl, h1, rfl, ?_, hc, ?_⟩
    · rw [List.getD_eq_getElem?_getD, List.getElem?_eq_getElem (by omega)]; exact hRm _ (List.getElem_mem _)
    · rw [List.getD_eq_getElem?_getD, List.getElem?_eq_getElem (by omega)]; exact hc2
  have HC := Lib.hid hcell
  have HR := Lib.hid hR
  have HND := Lib.hid hnd
  have HM := Lib.hid hm
  clear k3 j3 h hcell hR hnd hm hRm
  obtain ⟨N, hN⟩ : ∃ N, N = sa.length := ⟨_, rfl⟩
  have HN := Lib.hid hN
  have HRL := Lib.hid hRl
  rw [hRl, ← hN] at j1
  rw [hRl]
  rw [← hN] at k1 hn ⊢
  clear hN hRl
  have hmk := fun W => run_make_row' (P := Try.prog) 73 3 (.int .i64 0) 8 Try.underlying73 info_int rfl .i64 .i64 N (by omega) (by omega) W
  go_enter Try.func128, Try.ntmps128
  go_wp2_with fail
  obtain ⟨w3, hw3⟩ : ∃ w3, w3 = ((w.alloc (.cells #[.slice A2 N c2] 73)).alloc (.cells #[.int .i64 k] 3)).alloc (.cells (madeCells #[.int .i64 0] N) 3) := ⟨_, rfl⟩
  obtain ⟨br, hbr⟩ : ∃ br, br = w.heap.size := ⟨_, rfl⟩
  have X1 : w3.cell? ⟨br, 0, none⟩ = some (.slice A2 N c2) := by
    rw [hw3, hbr, cell_of_block (heap_old (heap_old (heap_alloc_new w _)))]; rfl
  have X2 : w3.cell? ⟨br + 1, 0, none⟩ = some (.int .i64 k) := by
    have h1 := heap_alloc_new (w.alloc (.cells #[.slice A2 N c2] 73)) (.cells #[.int .i64 k] 3)
    rw [World.size_alloc] at h1
    rw [hw3, hbr, cell_of_block (heap_old h1)]; rfl
  have X3 : IntB w3 (br + 1 + 1) (List.replicate N 0) := by
    have h1 := IntB.made ((w.alloc (.cells #[.slice A2 N c2] 73)).alloc (.cells #[.int .i64 k] 3)) N
    simp only [World.size_alloc] at h1
    rw [hw3, hbr]; exact h1
  have X4 : Below br w w3 := by
    rw [hw3, hbr]; exact (((Below.refl _ w).alloc (Nat.le_refl _) _).alloc (by simp) _).alloc (by simp; omega) _
  have X5 : w3.heap.size = br + 1 + 1 + 1 := by rw [hw3, hbr]; simp
  rw [← hw3, ← hbr]
  clear hw3 hmk
  have H1 := Lib.hid X1
  have H2 := Lib.hid X2
  have H3 := Lib.hid X3
  have H4 := Lib.hid X4
  have H5 := Lib.hid X5
  have HBR := Lib.hid hbr
  clear X1 X2 X3 X4 X5 hbr
  go_loopw [7, 18] (fun kv ix wr => ∃ j : Nat, j ≤ N ∧ ix = .int .i64 j ∧ kv = .int .i64 (turnsP (pairP R.length (fun p => R.getD p 0) k) (sa.take j) : Nat) ∧ ∃ nx, IntB wr (br + 1 + 1) nx ∧ Told R sa k j nx ∧ Below (br + 1 + 1) w3 wr) (fun _ ix _ => N - (intOf ix).toNat)
  case atStart => exact ⟨0, Nat.zero_le _, rfl, rfl, _, H3.out, ⟨by rw [List.length_replicate, HN.out], fun i hi h => absurd h (Nat.not_lt_zero _)⟩, Below.refl _ _⟩
  case round =>
    obtain ⟨j, hj, rfl, rfl, nx, hnx, htold, hbe⟩ := hrel
    have hbw : Below w.heap.size w wr := by rw [← HBR.out]; exact H4.out.trans (hbe.mono (by omega))
    by_cases hlt : j < N
    · have hjl : j < sa.length := by rw [← HN.out]; exact hlt
      obtain ⟨p, r, ad, ad2, rfl, rfl, hp, hpN, hr, hrb, hc1, hc2⟩ := HC.out j hjl
      rw [← HN.out] at hpN
      have hc1' : wr.cell? (ad.add j) = some (.int .i64 (p : Int)) := (hbw.cell (World.block_lt_of_cell? w _ hc1)).trans hc1
      have hc2' : wr.cell? (ad2.add p) = some (.int .i64 (r : Int)) := (hbw.cell (World.block_lt_of_cell? w _ hc2)).trans hc2
      have hstep := turnsP_step (pairP R.length (fun p => R.getD p 0) k) sa j hjl
      have htw := htold.put HND.out HM.out hjl _ rfl
      rw [hp] at htw
      have hnl : nx.length = N := by rw [HN.out]; exact htold.1
      have hTle : turnsP (pairP R.length (fun p => R.getD p 0) k) (sa.take j) ≤ j := by
        cases j with
        | zero => simp [turnsP]
        | succ j => exact Nat.le_succ_of_le (turnsP_le _ _ j)
      obtain ⟨y, hy⟩ : ∃ y, nx[p]? = some y := by rw [List.getElem?_eq_getElem (by omega)]; exact ⟨_, rfl⟩
      obtain ⟨b1, b2⟩ := hnx.cell p y hy
      obtain ⟨T', hT'⟩ : ∃ T', T' = turnsP (pairP R.length (fun p => R.getD p 0) k) (sa.take (j + 1)) := ⟨_, rfl⟩
      rw [← hT'] at htw hstep
      have HT' := Lib.hid hT'
      have HPut : Hid (∀ q, IntB ((wr.drewN q).setCell ⟨br + 1 + 1, p, none⟩ (.int .i64 (T' : Int))) (br + 1 + 1) (nx.set p T')) := Lib.hid (fun q => (show IntB (wr.drewN q) _ _ from hnx).put p T')
      have HBel : Hid (∀ q, Below (br + 1 + 1) w3 ((wr.drewN q).setCell ⟨br + 1 + 1, p, none⟩ (.int .i64 (T' : Int)))) := Lib.hid (fun q => (below_drewN hbe q).setCell (p := ⟨br + 1 + 1, p, none⟩) (Nat.le_refl _) _)
      have HTw := Lib.hid htw
      have HStep := Lib.hid hstep
      have hbeh : Hid (∀ p ≤ 1000000, ∀ q, Calls Try.prog 140 #[.int .i64 (p : Nat), .pointer (some ⟨br + 1, 0, none⟩), .pointer (some ⟨br, 0, none⟩)] (wr.drewN q) fun e w' => e = .returned (.int .i64 (behI R k p)) ∧ w' = wr.drewN q) := Lib.hid (fun p hp q => by
        refine suf_behind R _ k p (br + 1) br (wr.drewN q) ((HR.out.later hbw).later (below_drewN (Below.refl _ _) q)) ?_ ?_ hp hk
        · exact (hbe.cell (p := ⟨br + 1, 0, none⟩) (show br + 1 < br + 1 + 1 by omega)).trans H2.out
        · exact (hbe.cell (p := ⟨br, 0, none⟩) (show br < br + 1 + 1 by omega)).trans (H1.out.trans (by rw [HRL.out, ← HN.out])))
      have e0 : wr.cell? ⟨br, 0, none⟩ = some (.slice (some ad2) N c2) := (hbe.cell (p := ⟨br, 0, none⟩) (show br < br + 1 + 1 by omega)).trans H1.out
      generalize turnsP (pairP R.length (fun p => R.getD p 0) k) (sa.take j) = T at *
      by_cases h0 : j = 0
      · obtain rfl : T' = T := by have := HStep.out; rw [dif_neg (by omega)] at this; omega
        clear hstep htw hT' hnx htold hbw hbe hc1 hc2 hp hr hy hnl
        have hj0 : j ≤ 0 := by omega
        clear h0
        go_wp2_with fail
        go_roundw
        case rel => exact ⟨j + 1, by omega, by go_num, by rw [← HT'.out], _, HPut.out 0, HTw.out, HBel.out 0⟩
        case measure => simp [intOf]; omega
      · have hj1 : j - 1 < sa.length := by omega
        obtain ⟨p2, r2, ad3, ad4, hA3, hA4, hp', hpN2, hr', hrb2, hc3, hc4⟩ := HC.out (j - 1) hj1
        injection hA3 with hA3
        injection hA4 with hA4
        subst hA3 hA4
        have hc3' : wr.cell? (ad.add (j - 1)) = some (.int .i64 (p2 : Int)) := (hbw.cell (World.block_lt_of_cell? w _ hc3)).trans hc3
        have hc4' : wr.cell? (ad2.add p2) = some (.int .i64 (r2 : Int)) := (hbw.cell (World.block_lt_of_cell? w _ hc4)).trans hc4
        have hst2 : T' = T + if (r2 = r ∧ behI R k p2 = behI R k p) then 0 else 1 := by
          have := HStep.out
          rw [dif_pos (by omega), hp, hp'] at this
          rw [this]
          congr 1
          have e : pairP R.length (fun p => R.getD p 0) k p2 = pairP R.length (fun p => R.getD p 0) k p ↔ (r2 = r ∧ behI R k p2 = behI R k p) := by
            unfold pairP behI
            simp only [Prod.mk.injEq, hr, hr']
            constructor
            · rintro ⟨h1, h2⟩; exact ⟨h1, by rw [h2]⟩
            · rintro ⟨h1, h2⟩; exact ⟨h1, by omega⟩
          by_cases h1 : (r2 = r ∧ behI R k p2 = behI R k p)
          · rw [if_pos h1, if_pos (e.2 h1)]
          · rw [if_neg h1, if_neg (fun h => h1 (e.1 h))]
        rw [← HN.out] at hpN2
        have HB1 := Lib.hid (hbeh.out p (by omega))
        have HB2 := Lib.hid (hbeh.out p2 (by omega))
        have hbI : ∀ q, q ≤ 1000000 → -1 ≤ behI R k q := fun q _ => by unfold behI; omega
        have m1 : (j : Int) - 1 = ((j - 1 : Nat) : Int) := by omega
        have q1 : IntKind.i64.wrap ((j : Int) - 1) = ((j - 1 : Nat) : Int) := by rw [IntWalk.i64_in _ (by omega)]; omega
        have hjN : j - 1 < N := by omega
        have hj0 : 0 < j := by omega
        have hp01 : (0 : Int) ≤ (p : Int) := by omega
        have hp02 : (0 : Int) ≤ (p2 : Int) := by omega
        have hp03 : (p : Int) < (N : Int) := by omega
        have hp04 : (p2 : Int) < (N : Int) := by omega
        clear hstep htw hT' hnx htold hbw hbe hc1 hc2 hc3 hc4 hp hr hp' hr' hy hnl h0 hbeh HStep hbI m1
        generalize behI R k p = x1 at *
        generalize behI R k p2 = x2 at *
        by_cases hrr : r2 = r
        · by_cases hxx : x2 = x1
          · have hTT : T' = T := by rw [hst2, if_pos ⟨hrr, hxx⟩, Nat.add_zero]
            have HTT := Lib.hid hTT
            clear hTT hst2
            have f1 : ((r : Int) != (r2 : Int)) = false := by simp [hrr]
            have f2 : ((x1 : Int) != x2) = false := by simp [hxx]
            clear hrr hxx
            rw [HTT.out] at HPut HBel HTw
            go_wp2_with fail
            go_quiet ((go_at_call 140; first | (with_reducible exact Calls.quiet_of_same (HB1.out _)) | (with_reducible exact Calls.quiet_of_same (HB2.out _))))
            go_wp2_with fail
            go_roundw
            case rel => exact ⟨j + 1, by omega, by go_num, by rw [← HT'.out, HTT.out], _, HPut.out _, HTw.out, HBel.out _⟩
            case measure => simp [intOf]; omega
          · have hTT : T' = T + 1 := by rw [hst2, if_neg (fun h => hxx h.2)]
            have HTT := Lib.hid hTT
            clear hTT hst2
            have f1 : ((r : Int) != (r2 : Int)) = false := by simp [hrr]
            have f2 : ((x1 : Int) != x2) = true := by simp; exact fun h => hxx h.symm
            clear hrr hxx
            rw [HTT.out] at HPut HBel HTw
            go_wp2_with fail
            go_quiet ((go_at_call 140; first | (with_reducible exact Calls.quiet_of_same (HB1.out _)) | (with_reducible exact Calls.quiet_of_same (HB2.out _))))
            go_wp2_with fail
            go_roundw
            case rel => exact ⟨j + 1, by omega, by go_num, by rw [← HT'.out, HTT.out]; go_num, _, HPut.out _, HTw.out, HBel.out _⟩
            case measure => simp [intOf]; omega
        · have hTT : T' = T + 1 := by rw [hst2, if_neg (fun h => hrr h.1)]
          have HTT := Lib.hid hTT
          clear hTT hst2
          have f1 : ((r : Int) != (r2 : Int)) = true := by simp; omega
          have f3 : ((r : Int) == (r2 : Int)) = false := by simp; omega
          clear hrr
          rw [HTT.out] at HPut HBel HTw
          go_wp2_with fail
          go_quiet (fail)
          go_wp2_with fail
          go_roundw
          case rel => exact ⟨j + 1, by omega, by go_num, by rw [← HT'.out, HTT.out]; go_num, _, HPut.out _, HTw.out, HBel.out _⟩
          case measure => simp [intOf]; omega
    · obtain rfl : N = j := by omega
      have hnl : nx.length = N := by rw [HN.out]; exact htold.1
      have HNX : Hid (NaO w.heap.size wr (.slice (some ⟨br + 1 + 1, 0, none⟩) N N) nx) := Lib.hid (by
        have := hnx.own (base := w.heap.size) (by rw [← HBR.out]; omega) (by rw [hnl]; unfold maxLen; omega)
        rw [hnl] at this; exact this)
      have HTold : Hid (Told R sa k sa.length nx) := Lib.hid (by have := htold; rw [HN.out] at this; exact this)
      have HBW := Lib.hid hbw
      have hTle : turnsP (pairP R.length (fun p => R.getD p 0) k) (sa.take N) ≤ N := by
        cases N with
        | zero => simp [turnsP]
        | succ j => exact Nat.le_succ_of_le (turnsP_le _ _ j)
      have hTe : turnsP (pairP R.length (fun p => R.getD p 0) k) (sa.take N) = turnsP (pairP R.length (fun p => R.getD p 0) k) sa := by rw [HN.out, List.take_length]
      have HTe := Lib.hid hTe
      generalize turnsP (pairP R.length (fun p => R.getD p 0) k) (sa.take N) = T at *
      clear hnx htold hbe hbw hlt hj hnl hTe
      go_wp2_with fail
      go_ret2
      exact ⟨_, nx, by rw [← HTe.out]; rfl, HNX.out, HTold.out, HBW.out⟩
end Go.Proofs.Ytinlmodkdjpocaa

set_option linter.unusedVariables false
namespace Go.Proofs.Ytinlmodkdjpocaa
open Go.RowKit

theorem text_row (b : Nat) (rv : Value) (w : World) (h : w.cell? ⟨b, 2, none⟩ = some rv) :
    Calls Try.prog 107 #[.pointer (some ⟨b, 0, none⟩)] w fun e w' => e = .returned rv ∧ w' = w := by
  go_enter Try.func107, Try.ntmps107
  go_wp2
  go_ret
  exact ⟨rfl, rfl⟩

theorem firstR_take_succ (row : List Nat) (k : Nat) (h : k < row.length) : (firstR row).take (k + 1) = (firstR row).take k ++ [firstP row k] := by
  rw [List.take_succ_eq_append_getElem (by rw [firstR_length]; exact h)]
  congr 1
  simp [firstR]
set_option maxRecDepth 100000 in
set_option maxHeartbeats 4000000 in
theorem suf_firsts (b : Nat) (ds : List (List UInt8)) (w : World) (h : TextR w b ds) (hn : (rowOf ds).length ≤ 60000) (hd : ds.length ≤ 500) :
    Calls Try.prog 125 #[.pointer (some ⟨b, 0, none⟩)] w fun e w' => ∃ v, e = .returned (.tuple #[v, .int .i64 (ds.length + 257 : Nat)]) ∧ NaO w.heap.size w' v (firstR (rowOf ds)) ∧ Below w.heap.size w w' := by
  obtain ⟨dv, av, rv, h0, h1, h2, hd2, _, h3⟩ := h.cells
  have hrow := Lib.hid (text_row b rv w h2)
  obtain ⟨A, c, rfl, k1, k2, k3⟩ := h3.form
  have hle := rowOf_le ds
  have hz := count_zero_row ds
  have hcell : ∀ j (hj : j < (rowOf ds).length), ∃ (x f d : Nat) (ad : Addr), A = some ad ∧ x ≤ 256 ∧ w.cell? (ad.add j) = some (.int .u16 (x : Int)) ∧ d = ((rowOf ds).take j).count 0 ∧ d ≤ 500 ∧ f = firstP (rowOf ds) j ∧ (firstR (rowOf ds)).take (j + 1) = (firstR (rowOf ds)).take j ++ [f] ∧ f = (if x = 0 then d else ds.length + x) ∧ ((rowOf ds).take (j + 1)).count 0 = if x = 0 then d + 1 else d := by
    intro j hj
    obtain ⟨ad, hA, hc⟩ := k3 j hj
    have hs : symP (rowOf ds) j = (rowOf ds)[j] := symP_of (List.getElem?_eq_getElem hj)
    refine ⟨_, _, _, ad, hA, hle _ (List.getElem_mem hj), hc, rfl, ?_, rfl, firstR_take_succ _ j hj, ?_, ?_⟩
    · have := take_count_le (rowOf ds) j; omega
    · unfold firstP; rw [hs, hz]
    · rw [List.take_succ_eq_append_getElem hj, List.count_append]
      by_cases e : (rowOf ds)[j] = 0
      · simp [e]
      · simp [e]
  have hdocs : Hid (∀ W, Below w.heap.size w W → Calls Try.prog 68 #[.pointer (some ⟨b, 0, none⟩)] W fun e w' => e = .returned (.int .i64 ds.length) ∧ w' = W) := Lib.hid (fun W hW => text_docs b ds W (h.below (Nat.le_refl _) hW))
  have HC := Lib.hid hcell
  clear k3 hcell h h0 h1 h2 hd2 h3 hle hz
  generalize hR : firstR (rowOf ds) = R at *
  have hRl : R.length = (rowOf ds).length := by rw [← hR, firstR_length]
  obtain ⟨N, hN⟩ : ∃ N, N = (rowOf ds).length := ⟨_, rfl⟩
  have HN := Lib.hid hN
  have HRl := Lib.hid hRl
  rw [← hN] at k1 hn
  rw [← hN] at hrow
  have HRR := Lib.hid hR
  clear hN hRl hR
  generalize ds.length = D at *
  go_enter Try.func125, Try.ntmps125
  go_wp2_with fail
  refine hrow.out.mono ?_
  rintro e w1 ⟨rfl, rfl⟩
  have e0 : w1.heap.size ≤ w1.heap.size := Nat.le_refl _
  go_wp2_with fail
  go_loopw [2, 4, 10] (fun v dv ix wr => ∃ j : Nat, j ≤ N ∧ ix = .int .i64 j ∧ dv = .int .i64 (((rowOf ds).take j).count 0 : Nat) ∧ NaO w1.heap.size wr v (R.take j) ∧ Below w1.heap.size w1 wr) (fun _ _ ix _ => N - (intOf ix).toNat)
  case atStart => exact ⟨0, Nat.zero_le _, rfl, by simp, World.ownsRow_nil _ _ _ _, Below.refl _ _⟩
  case round =>
    obtain ⟨j, hj, rfl, rfl, ho, hbe⟩ := hrel
    obtain ⟨Av, cv, hv⟩ := ho.form
    have hlen : (R.take j).length = j := by rw [List.length_take, HRl.out, ← HN.out]; omega
    rw [hlen] at hv
    subst hv
    have HO := Lib.hid ho
    have HOn : Hid (wr.ownsRow w1.heap.size 3 1 (.slice Av j cv) j ((R.take j).map natV)) := Lib.hid (by have := HO.out; unfold NaO at this; rw [hlen] at this; exact this)
    have HB := Lib.hid hbe
    have hsz := hbe.size
    have HDc := Lib.hid (hdocs.out wr hbe)
    clear ho
    by_cases hlt : j < N
    · obtain ⟨x, f, d, ad, rfl, hx, hc, hd1, hd2, hf, hR1, hfe, hcn⟩ := HC.out j (by rw [← HN.out]; exact hlt)
      have hc1 : wr.cell? (ad.add j) = some (.int .u16 (x : Int)) := (hbe.cell (World.block_lt_of_cell? w1 _ hc)).trans hc
      rw [← hd1]
      have HR1 := Lib.hid hR1
      have HCn := Lib.hid hcn
      have HD1 := Lib.hid hd1
      clear hc hd1 hf hR1 hcn hbe
      by_cases hx0 : x = 0
      · have hfd : f = d := by rw [hfe, if_pos hx0]
        have HCn2 : Hid (((rowOf ds).take (j + 1)).count 0 = d + 1) := Lib.hid (by rw [HCn.out, if_pos hx0])
        subst hfd
        have hb : ((x : Int) == 0) = true := by simp [hx0]
        clear hfe HCn hx0
        go_wp2_with (at_builtin; refine wp_app w1.heap.size 73 3 (.int .i64 0) 1 8 (.tmp 16) (.tmp 18) rfl rfl Try.underlying73 info_int rfl (by decide) (by decide) (.slice Av j cv) j _ #[.int .i64 (f : Nat)] rfl rfl HOn.out rfl (by intro u hu; simp at hu; subst hu; rfl) (by omega) hsz ?_; intro g cap w6 ho6 hg6 hat6 hgb6 hgl6 hgs6; have HO6 := Lib.hid ho6; have HG6 := Lib.hid hg6; clear ho6 hg6 hat6)
        go_roundw
        case rel =>
          refine ⟨j + 1, by omega, by go_num, by rw [HCn2.out]; go_num, ?_, HB.out.grown HG6.out hsz (fun g hg => (HO.out.lt g hg).1)⟩
          rw [HR1.out]
          exact NaO.snoc HO6.out (by rw [hlen])
        case measure => simp [intOf]; omega
      · have hfd : f = D + x := by rw [hfe, if_neg hx0]
        have HCn2 : Hid (((rowOf ds).take (j + 1)).count 0 = d) := Lib.hid (by rw [HCn.out, if_neg hx0])
        have hfi : (D : Int) + (x : Nat) = (f : Nat) := by omega
        have hb : ((x : Int) == 0) = false := by simp [hx0]
        clear hfe HCn hx0 hfd
        go_wp2_with (first
          | (go_at_call 68; (with_reducible refine HDc.out.mono ?_); rintro e w7 ⟨rfl, rfl⟩)
          | (at_builtin; refine wp_app w1.heap.size 73 3 (.int .i64 0) 1 8 (.tmp 22) (.tmp 28) rfl rfl Try.underlying73 info_int rfl (by decide) (by decide) (.slice Av j cv) j _ #[.int .i64 (f : Nat)] rfl rfl HOn.out rfl (by intro u hu; simp at hu; subst hu; rfl) (by omega) hsz ?_; intro g cap w6 ho6 hg6 hat6 hgb6 hgl6 hgs6; have HO6 := Lib.hid ho6; have HG6 := Lib.hid hg6; clear ho6 hg6 hat6))
        go_roundw
        case rel =>
          refine ⟨j + 1, by omega, by go_num, by rw [HCn2.out], ?_, HB.out.grown HG6.out hsz (fun g hg => (HO.out.lt g hg).1)⟩
          rw [HR1.out]
          exact NaO.snoc HO6.out (by rw [hlen])
        case measure => simp [intOf]; omega
    · obtain rfl : N = j := by omega
      have hRe : R.take N = R := by rw [HN.out, ← HRl.out, List.take_length]
      have HRe := Lib.hid hRe
      clear hRe hlt hj hlen hbe
      go_wp2_with (go_at_call 68; (with_reducible refine HDc.out.mono ?_); rintro e w7 ⟨rfl, rfl⟩)
      go_ret2
      exact ⟨_, rfl, by rw [← HRe.out]; exact HO.out, HB.out⟩
end Go.Proofs.Ytinlmodkdjpocaa

set_option linter.unusedVariables false
namespace Go.Proofs.Ytinlmodkdjpocaa
open Go.RowKit

theorem getD_firstR (row : List Nat) (p : Nat) (h : p < row.length) : (firstR row).getD p 0 = firstP row p := by
  simp [firstR, List.getD, h]
/-- one symbol of the key -/
theorem keyP_one (R : List Nat) (p : Nat) (h : p < R.length) : keyP R 1 p = [R.getD p 0] := by
  unfold keyP
  rw [List.drop_eq_getElem_cons h, List.getD_eq_getElem?_getD, List.getElem?_eq_getElem h]; rfl
theorem ltL_one (a b : Nat) : ltL [a] [b] = true ↔ a < b := by simp [ltL]
theorem dbl_start (R : List Nat) (K : Nat) (hK : ∀ x ∈ R, x < K) : DblI R 1 (sortByP K (fun p => R.getD p 0) (List.range R.length)) (fun p => R.getD p 0) K := by
  have hk : ∀ p, p < R.length → R.getD p 0 < K := fun p hp => by rw [List.getD_eq_getElem?_getD, List.getElem?_eq_getElem hp]; exact hK _ (List.getElem_mem hp)
  have hk2 : ∀ p ∈ List.range R.length, R.getD p 0 < K := fun p hp => hk p (List.mem_range.1 hp)
  refine ⟨sortByP_perm hk2, sortByP_pairwise (S := fun _ _ => True) (List.pairwise_of_forall (fun _ _ => trivial)) ?_ ?_, ?_, hk⟩
  · intro p hp q hq hlt
    rw [List.mem_range] at hp hq
    rw [keyP_one R p hp, keyP_one R q hq, ← Bool.not_eq_true, ltL_one]; omega
  · intro p hp q hq he _
    rw [List.mem_range] at hp hq
    rw [keyP_one R p hp, keyP_one R q hq, ← Bool.not_eq_true, ltL_one]; omega
  · intro p q hp hq
    rw [keyP_one R p hp, keyP_one R q hq, ltL_one]
/-- what the loop knows of the places and their ranks -/
def ArrI (R : List Nat) (kk : Nat) (sa rk : List Nat) (K : Nat) : Prop := 0 < kk ∧ rk.length = R.length ∧ DblI R kk sa (fun p => rk.getD p 0) K ∧ (∀ x ∈ rk, x ≤ 1000000) ∧ K ≤ 1000000
theorem ArrI.len {R : List Nat} {kk : Nat} {sa rk : List Nat} {K : Nat} (h : ArrI R kk sa rk K) : sa.length = R.length := by have := h.2.2.1.perm.length_eq; simpa using this
theorem ArrI.next {R : List Nat} {kk : Nat} {sa rk nx : List Nat} {K : Nat} (h : ArrI R kk sa rk K) (hk : kk ≤ R.length) (hn : R.length ≤ 60000)
    (ht : Told rk (sortByP K (fun p => rk.getD p 0) (secondP R.length kk sa)) kk (sortByP K (fun p => rk.getD p 0) (secondP R.length kk sa)).length nx) :
    ArrI R (2 * kk) (sortByP K (fun p => rk.getD p 0) (secondP R.length kk sa)) nx (turnsP (pairP rk.length (fun p => rk.getD p 0) kk) (sortByP K (fun p => rk.getD p 0) (secondP R.length kk sa)) + 1) := by
  obtain ⟨h1, h2, h3, h4, h5⟩ := h
  obtain ⟨g1, g2⟩ := h3.sort h1 hk
  have hlen : (sortByP K (fun p => rk.getD p 0) (secondP R.length kk sa)).length = R.length := by simpa using g1.length_eq
  have hnd : (sortByP K (fun p => rk.getD p 0) (secondP R.length kk sa)).Nodup := g1.nodup_iff.2 List.nodup_range
  have hnx : ∀ i (hi : i < (sortByP K (fun p => rk.getD p 0) (secondP R.length kk sa)).length), nx.getD (sortByP K (fun p => rk.getD p 0) (secondP R.length kk sa))[i] 0 = turnsP (pairP R.length (fun p => rk.getD p 0) kk) ((sortByP K (fun p => rk.getD p 0) (secondP R.length kk sa)).take (i + 1)) := by
    intro i hi
    rw [List.getD_eq_getElem?_getD, ht.2 i hi hi, h2]; rfl
  have hd := h3.next (next := fun p => nx.getD p 0) h1 hk rfl hnx
  have hnl : nx.length = R.length := by rw [ht.1, hlen]
  have hb : turnsP (pairP R.length (fun p => rk.getD p 0) kk) (sortByP K (fun p => rk.getD p 0) (secondP R.length kk sa)) ≤ R.length := by
    have := turnsP_le (pairP R.length (fun p => rk.getD p 0) kk) (sortByP K (fun p => rk.getD p 0) (secondP R.length kk sa)) R.length
    rwa [List.take_of_length_le (by omega)] at this
  rw [h2]
  refine ⟨by omega, hnl, hd, ?_, by omega⟩
  intro x hx
  obtain ⟨p, hp, rfl⟩ := List.mem_iff_getElem.1 hx
  have hpm : p ∈ sortByP K (fun p => rk.getD p 0) (secondP R.length kk sa) := g1.mem_iff.2 (List.mem_range.2 (by omega))
  obtain ⟨i, hi, hpi⟩ := List.mem_iff_getElem.1 hpm
  have e := hnx i hi
  rw [hpi, List.getD_eq_getElem?_getD, List.getElem?_eq_getElem hp, Option.getD_some] at e
  rw [e]
  have := turnsP_le (pairP R.length (fun p => rk.getD p 0) kk) (sortByP K (fun p => rk.getD p 0) (secondP R.length kk sa)) i
  omega
theorem ArrI.done {row : List Nat} (hr : RowOk row) {kk : Nat} {sa rk : List Nat} {K : Nat} (h : ArrI (firstR row) kk sa rk K) (hd : (firstR row).length ≤ kk) : sa = saOf row := by
  have h1 := h.2.2.1.done (.inl hd)
  refine sa_unique hr (IsSA.of_dbl hr ?_ h1) (saOf_is hr)
  have := h.2.2.1.perm
  rwa [firstR_length] at this
theorem ArrI.done2 {row : List Nat} (hr : RowOk row) {kk : Nat} {sa nx : List Nat} {K : Nat} {f : Nat → Nat × Nat} (h : ArrI (firstR row) kk sa nx K) (hK : turnsP f sa + 1 = sa.length) (ht : ∀ i (hi : i < sa.length), nx[sa[i]]? = some (turnsP f (sa.take (i + 1)))) : sa = saOf row := by
  have h1 := h.2.2.1.done (.inr (fun i j hi hj hij => by
    simp only [List.getD_eq_getElem?_getD, ht i hi, ht j hj, Option.getD_some]
    rw [turnsP_all hK i hi, turnsP_all hK j hj]; exact hij))
  refine sa_unique hr (IsSA.of_dbl hr ?_ h1) (saOf_is hr)
  have := h.2.2.1.perm
  rwa [firstR_length] at this

theorem text_len2 (b : Nat) (ds : List (List UInt8)) (w : World) (h : TextR w b ds) : Hid (∀ W, Below w.heap.size w W → Calls Try.prog 24 #[.pointer (some ⟨b, 0, none⟩)] W fun e w' => e = .returned (.int .i64 (rowOf ds).length) ∧ w' = W) :=
  Lib.hid (fun W hW => text_len b ds W (h.below (Nat.le_refl _) hW))
/-- the numbers from 0 on, as far as they are written -/
def upTo (n j : Nat) : List Nat := (List.range n).map (fun i => if i < j then i else 0)
theorem upTo_next (n j : Nat) : (upTo n j).set j j = upTo n (j + 1) := by
  unfold upTo
  rw [map_range_set]
  apply List.map_congr_left
  intro i _
  by_cases e : i = j
  · subst e; simp
  · rw [if_neg e]
    by_cases h : i < j
    · rw [if_pos h, if_pos (by omega)]
    · rw [if_neg h, if_neg (by omega)]
theorem upTo_zero (n : Nat) : upTo n 0 = List.replicate n 0 := by
  unfold upTo
  apply List.ext_getElem
  · simp
  · intro i h1 h2; simp
theorem upTo_end (n : Nat) : upTo n n = List.range n := by
  unfold upTo
  apply List.ext_getElem
  · simp
  · intro i h1 h2
    simp at h1
    simp [h1]
theorem firstR_lt (ds : List (List UInt8)) : ∀ x ∈ firstR (rowOf ds), x < ds.length + 257 := by
  intro x hx
  simp only [firstR, List.mem_map, List.mem_range] at hx
  obtain ⟨p, hp, rfl⟩ := hx
  unfold firstP
  have hz := count_zero_row ds
  split
  · have := take_count_le (rowOf ds) p; omega
  · have h1 : symP (rowOf ds) p = (rowOf ds)[p] := symP_of (List.getElem?_eq_getElem hp)
    have := rowOf_le ds _ (List.getElem_mem hp)
    omega

set_option maxRecDepth 100000 in
set_option maxHeartbeats 4000000 in
theorem suf_array_some (b : Nat) (ds : List (List UInt8)) (w : World) (h : TextR w b ds) (hn : (rowOf ds).length ≤ 60000) (hd : ds.length ≤ 500) (hpos : 0 < (rowOf ds).length) :
    Calls Try.prog 108 #[.pointer (some ⟨b, 0, none⟩)] w fun e w' => ∃ v, e = .returned v ∧ NaO w.heap.size w' v (saOf (rowOf ds)) ∧ Below w.heap.size w w' := by
  have hfi0 := suf_firsts b ds w h hn hd
  have hRlt0 := firstR_lt ds
  obtain ⟨K0, hK0⟩ : ∃ K0, K0 = ds.length + 257 := ⟨_, rfl⟩
  rw [← hK0] at hfi0 hRlt0
  have hK1 : K0 ≤ 757 := by omega
  have hfi := Lib.hid hfi0
  have HRlt := Lib.hid hRlt0
  clear hfi0 hRlt0 hK0
  have hlen := text_len2 b ds w h
  have HTx := Lib.hid h
  obtain ⟨N, hN⟩ : ∃ N, N = (rowOf ds).length := ⟨_, rfl⟩
  have HN := Lib.hid hN
  have hRl : Hid ((firstR (rowOf ds)).length = N) := Lib.hid (by rw [firstR_length, hN])
  rw [← hN] at hn hpos hlen
  clear hN h
  have hmk := fun W => run_make_row' (P := Try.prog) 73 3 (.int .i64 0) 8 Try.underlying73 info_int rfl .i64 .i64 N (by omega) (by omega) W
  have hne : ((N : Int) == 0) = false := by simp; omega
  go_enter Try.func108, Try.ntmps108
  go_wp2_with (go_at_call 24; (with_reducible refine (hlen.out _ (Below.refl _ _)).mono ?_); rintro e w0 ⟨rfl, rfl⟩)
  refine hfi.out.mono ?_
  rintro e w1 ⟨rv, rfl, hR, hb1⟩
  obtain ⟨Ar, cr, hrv⟩ := hR.form
  rw [hRl.out] at hrv
  subst hrv
  have HR := Lib.hid hR
  have HB1 := Lib.hid hb1
  clear hR hb1 hfi
  go_wp2_with (go_at_call 24; (with_reducible refine (hlen.out _ HB1.out).mono ?_); rintro e w2 ⟨rfl, rfl⟩)
  have I0 : Hid (IntB (w2.alloc (.cells (madeCells #[.int .i64 0] N) 3)) w2.heap.size (upTo N 0)) := Lib.hid (by rw [upTo_zero]; exact IntB.made _ _)
  have B0 : Hid (Below w2.heap.size w2 (w2.alloc (.cells (madeCells #[.int .i64 0] N) 3))) := Lib.hid ((Below.refl _ _).alloc (Nat.le_refl _) _)
  generalize w2.alloc (.cells (madeCells #[.int .i64 0] N) 3) = w3 at *
  obtain ⟨B, hBe⟩ : ∃ B, B = w2.heap.size := ⟨_, rfl⟩
  rw [← hBe] at I0 B0 ⊢
  have HBe := Lib.hid hBe
  clear hmk hBe
  go_loopw [25] (fun ix wr => ∃ j : Nat, j ≤ N ∧ ix = .int .i64 j ∧ IntB wr B (upTo N j) ∧ Below B w2 wr) (fun ix _ => N - (intOf ix).toNat)
  case atStart => exact ⟨0, Nat.zero_le _, rfl, I0.out, B0.out⟩
  case round =>
    clear I0 B0
    obtain ⟨j, hj, rfl, hb, hbe⟩ := hrel
    by_cases hlt : j < N
    · obtain ⟨c1, c2⟩ := hb.cell j 0 (by simp [upTo, hlt])
      have hput := hb.put j j
      rw [upTo_next] at hput
      have HP := Lib.hid hput
      have HB := Lib.hid (hbe.setCell (p := ⟨B, j, none⟩) (Nat.le_refl _) (.int .i64 (j : Int)))
      clear hput hb hbe
      go_wp2_with fail
      go_roundw
      case rel => exact ⟨j + 1, by omega, by go_num, HP.out, HB.out⟩
      case measure => simp [intOf]; omega
    · obtain rfl : N = j := by omega
      rw [upTo_end] at hb
      have hsz0 : w0.heap.size ≤ B := by rw [HBe.out]; exact HB1.out.size
      have hsa := hb.own (base := w0.heap.size) hsz0 (by rw [List.length_range]; unfold maxLen; omega)
      rw [List.length_range] at hsa
      have hbw : Below w2.heap.size w2 wr := by rw [← HBe.out]; exact hbe
      have hRw := HR.out.below hbw
      have hRlt := HRlt.out
      have hcall := suf_sortBy _ _ (List.range N) (firstR (rowOf ds)) K0 wr hsa.slR hRw.slR (fun p hp => by rw [hRl.out]; exact List.mem_range.1 hp) (fun p hp => by
        rw [List.mem_range] at hp
        rw [List.getD_eq_getElem?_getD, List.getElem?_eq_getElem (by rw [hRl.out]; exact hp)]
        exact hRlt _ (List.getElem_mem _)) (by omega) (by rw [List.length_range]; omega)
      have HCall := Lib.hid hcall
      have HRw := Lib.hid hRw
      have HBw : Hid (Below w0.heap.size w0 wr) := Lib.hid (HB1.out.trans (hbw.mono HB1.out.size))
      have hst := dbl_start (firstR (rowOf ds)) K0 hRlt
      rw [hRl.out] at hst
      have HSt : Hid (ArrI (firstR (rowOf ds)) 1 (sortByP K0 (fun p => (firstR (rowOf ds)).getD p 0) (List.range N)) (firstR (rowOf ds)) K0) := Lib.hid ⟨by decide, rfl, hst, fun x hx => by have := hRlt x hx; omega, by omega⟩
      clear hb hbe hsa hbw hRw hRlt hcall hst hlt hj
      go_wp2_with fail
      refine HCall.out.mono ?_
      rintro e w5 ⟨v5, rfl, h5, hb5⟩
      generalize sortByP K0 (fun p => (firstR (rowOf ds)).getD p 0) (List.range N) = sa0 at *
      have HSA : Hid (NaO w0.heap.size w5 v5 sa0) := Lib.hid (h5.lower (by have := HBw.out.size; omega))
      have HRA : Hid (NaO w0.heap.size w5 (.slice Ar N cr) (firstR (rowOf ds))) := Lib.hid (HRw.out.below hb5)
      have HBA : Hid (Below w0.heap.size w0 w5) := Lib.hid (HBw.out.trans (hb5.mono HBw.out.size))
      clear h5 hb5 HCall
      go_wp2_with fail
      go_loopw [3, 4, 5, 7] (fun rv kv sv ix wr => ∃ (kk K : Nat) (sa rk : List Nat), ix = .int .i64 kk ∧ kv = .int .i64 K ∧ NaO w0.heap.size wr sv sa ∧ NaO w0.heap.size wr rv rk ∧ ArrI (firstR (rowOf ds)) kk sa rk K ∧ Below w0.heap.size w0 wr ∧ kk ≤ 2 * N) (fun _ _ _ ix _ => 2 * N - (intOf ix).toNat)
      case atStart => exact ⟨1, K0, sa0, _, rfl, rfl, HSA.out, HRA.out, HSt.out, HBA.out, by omega⟩
      case round =>
        clear HSA HRA HSt HBA
        obtain ⟨kk, K, sa, rk, rfl, rfl, hsa, hrk, harr, hbe, hkk⟩ := hrel
        have hsl : sa.length = N := by rw [harr.len, hRl.out]
        have hrl : rk.length = N := by rw [harr.2.1, hRl.out]
        obtain ⟨As, cs, hsv⟩ := hsa.form
        obtain ⟨Ak, ck, hkv⟩ := hrk.form
        rw [hsl] at hsv
        rw [hrl] at hkv
        subst hsv hkv
        have hk0 := harr.1
        by_cases hlt : kk < N
        · have hsec := suf_second _ sa kk wr hsa.slR (by omega) (by omega) (fun p hp => by have := harr.2.2.1.mem.1 hp; rw [hRl.out] at this; omega)
          rw [hsl] at hsec
          have HSec := Lib.hid hsec
          have HRk := Lib.hid hrk
          have HArr := Lib.hid harr
          have HBe2 := Lib.hid hbe
          have HSl := Lib.hid hsl
          have HRl2 := Lib.hid hrl
          clear hsec hsa hrk harr hbe hsl hrl
          go_wp2_with fail
          refine HSec.out.mono ?_
          rintro e w6 ⟨v6, rfl, h6, hb6⟩
          have hpm := secondP_perm (n := (firstR (rowOf ds)).length) (k := kk) (by rw [hRl.out]; omega) HArr.out.2.2.1.perm
          rw [hRl.out] at hpm
          have h2l : (secondP N kk sa).length = N := by simpa using hpm.length_eq
          have hmem : ∀ p ∈ secondP N kk sa, p < N := fun p hp => List.mem_range.1 (hpm.mem_iff.1 hp)
          have hsb := suf_sortBy v6 _ (secondP N kk sa) rk K w6 h6.slR (HRk.out.below hb6).slR (fun p hp => by rw [HRl2.out]; exact hmem p hp) (fun p hp => HArr.out.2.2.1.kn p (by rw [hRl.out]; exact hmem p hp)) (by have := HArr.out.2.2.2.2; omega) (by omega)
          have HSb := Lib.hid hsb
          have HB6 := Lib.hid hb6
          have HMem := Lib.hid hmem
          obtain ⟨A6, c6, hv6⟩ := h6.form
          rw [h2l] at hv6
          subst hv6
          have hsl2 : (sortByP K (fun p => rk.getD p 0) (secondP N kk sa)).length = N := by
            exact (sortByP_perm (fun p hp => HArr.out.2.2.1.kn p (by rw [hRl.out]; exact hmem p hp))).length_eq.trans h2l
          have hsp : (sortByP K (fun p => rk.getD p 0) (secondP N kk sa)).Perm (List.range N) := (sortByP_perm (fun p hp => HArr.out.2.2.1.kn p (by rw [hRl.out]; exact hmem p hp))).trans hpm
          have hnext : ∀ nx, Told rk (sortByP K (fun p => rk.getD p 0) (secondP N kk sa)) kk (sortByP K (fun p => rk.getD p 0) (secondP N kk sa)).length nx → ArrI (firstR (rowOf ds)) (2 * kk) (sortByP K (fun p => rk.getD p 0) (secondP N kk sa)) nx (turnsP (pairP rk.length (fun p => rk.getD p 0) kk) (sortByP K (fun p => rk.getD p 0) (secondP N kk sa)) + 1) := by
            intro nx ht
            have := HArr.out.next (nx := nx) (by rw [hRl.out]; omega) (by rw [hRl.out]; omega)
            rw [hRl.out] at this
            exact this ht
          have HNext := Lib.hid hnext
          have HSp := Lib.hid hsp
          have HSl2 := Lib.hid hsl2
          clear hsb hpm h2l hmem hb6 h6 HSec hnext hsp hsl2
          go_wp2_with fail
          refine HSb.out.mono ?_
          rintro e w7 ⟨v7, rfl, h7, hb7⟩
          generalize sortByP K (fun p => rk.getD p 0) (secondP N kk sa) = sb at *
          obtain ⟨A7, c7, hv7⟩ := h7.form
          rw [HSl2.out] at hv7
          subst hv7
          have hw67 : Below wr.heap.size wr w7 := HB6.out.trans (hb7.mono HB6.out.size)
          have hrn := suf_ranks _ _ sb rk kk w7 h7.slR (HRk.out.below hw67).slR (HSp.out.nodup_iff.2 List.nodup_range) (fun p hp => by rw [HSl2.out]; exact List.mem_range.1 (HSp.out.mem_iff.1 hp)) (by rw [HRl2.out, HSl2.out]) (by rw [HSl2.out]; omega) HArr.out.2.2.2.1 (by omega)
          have HRn := Lib.hid hrn
          have H7 : Hid (NaO w0.heap.size w7 (.slice A7 N c7) sb) := Lib.hid (h7.lower (by have := HBe2.out.size; have := HB6.out.size; omega))
          have HB7 : Hid (Below w0.heap.size w0 w7) := Lib.hid (HBe2.out.trans (hw67.mono HBe2.out.size))
          clear hrn h7 hb7 hw67 HSb
          go_wp2_with fail
          refine HRn.out.mono ?_
          rintro e w8 ⟨v8, nx, rfl, h8, ht8, hb8⟩
          have harr := HNext.out nx ht8
          have hT : turnsP (pairP rk.length (fun p => rk.getD p 0) kk) sb + 1 ≤ 1000000 := harr.2.2.2.2
          have H8 : Hid (NaO w0.heap.size w8 v8 nx) := Lib.hid (h8.lower (by have := HB7.out.size; omega))
          have H87 : Hid (NaO w0.heap.size w8 (.slice A7 N c7) sb) := Lib.hid (H7.out.below hb8)
          have HB8 : Hid (Below w0.heap.size w0 w8) := Lib.hid (HB7.out.trans (hb8.mono HB7.out.size))
          have HArr2 := Lib.hid harr
          have hdone : Hid (turnsP (pairP rk.length (fun p => rk.getD p 0) kk) sb + 1 = N → sb = saOf (rowOf ds)) := Lib.hid (fun hK => harr.done2 (rowOk_rowOf ds) (by rw [HSl2.out]; exact hK) (fun i hi => by
            have := ht8.2 i hi hi; exact this))
          obtain ⟨A8, c8, hv8⟩ := h8.form
          have hnl : nx.length = N := by rw [harr.2.1, hRl.out]
          rw [hnl] at hv8
          subst hv8
          generalize turnsP (pairP rk.length (fun p => rk.getD p 0) kk) sb + 1 = K2 at *
          clear h8 ht8 hb8 harr HRn HNext hnl
          by_cases hK2 : K2 = N
          · have HD := Lib.hid (hdone.out hK2)
            have hb : ((K2 : Int) == (N : Int)) = true := by simp [hK2]
            clear hK2 hdone
            go_wp2_with fail
            go_ret
            exact ⟨_, rfl, by rw [← HD.out]; exact H87.out, HB8.out⟩
          · have hb : ((K2 : Int) == (N : Int)) = false := by simp; omega
            clear hK2 hdone
            go_wp2_with fail
            go_roundw
            case rel => exact ⟨2 * kk, K2, sb, nx, by go_num, rfl, H87.out, H8.out, HArr2.out, HB8.out, by omega⟩
            case measure => simp [intOf]; omega
        · have HD : Hid (sa = saOf (rowOf ds)) := Lib.hid (harr.done (rowOk_rowOf ds) (by rw [hRl.out]; omega))
          have HS := Lib.hid hsa
          have HB := Lib.hid hbe
          clear hsa hrk harr hbe hsl hrl
          go_wp2_with fail
          go_ret
          exact ⟨_, rfl, by rw [← HD.out]; exact HS.out, HB.out⟩
end Go.Proofs.Ytinlmodkdjpocaa
