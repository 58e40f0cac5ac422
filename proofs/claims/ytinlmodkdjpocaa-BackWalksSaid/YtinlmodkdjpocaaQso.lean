/- Plain lists: sorting by counting: what stands in memory on the way. Generic: no program is named. slices.Clone, Clip, ContainsFunc at symbols and numbers. -/
import Derived.Test.YtinlmodkdjpocaaQpl
import Derived.Test.YtinlmodkdjpocaaQpo
import Derived.Test.YtinlmodkdjpocaaTxb
set_option linter.unusedVariables false
namespace Go.Proofs.Ytinlmodkdjpocaa

theorem countP_take_succ (f : Nat → Bool) (l : List Nat) (j : Nat) (h : j < l.length) : (l.take (j + 1)).countP f = (l.take j).countP f + if f l[j] then 1 else 0 := by
  rw [List.take_succ_eq_append_getElem h, List.countP_append]
  by_cases e : f l[j] = true <;> simp [e]
def at1 (K : Nat) (rank : Nat → Nat) (l : List Nat) (j : Nat) : List Nat := (List.range (K + 1)).map (fun m => (l.take j).countP (fun p => rank p + 1 == m))
def at2 (K : Nat) (rank : Nat → Nat) (l : List Nat) (i : Nat) : List Nat := (List.range (K + 1)).map (fun m => if m ≤ i then l.countP (fun p => decide (rank p < m)) else l.countP (fun p => rank p + 1 == m))
def at3 (K : Nat) (rank : Nat → Nat) (l : List Nat) (j : Nat) : List Nat := (List.range (K + 1)).map (fun m => l.countP (fun p => decide (rank p < m)) + (l.take j).countP (fun p => rank p == m))
theorem at_get {f : Nat → Nat} (K m : Nat) (h : m ≤ K) : ((List.range (K + 1)).map f)[m]? = some (f m) := by
  simp [Nat.lt_succ_of_le h]
theorem at1_zero (K : Nat) (rank : Nat → Nat) (l : List Nat) : at1 K rank l 0 = List.replicate (K + 1) 0 := by
  apply List.ext_getElem
  · simp [at1]
  · intro i h1 h2; simp [at1]
theorem at1_get (K : Nat) (rank : Nat → Nat) (l : List Nat) (j m : Nat) (h : m ≤ K) : (at1 K rank l j)[m]? = some ((l.take j).countP (fun p => rank p + 1 == m)) := at_get K m h
theorem at1_next (K : Nat) (rank : Nat → Nat) (l : List Nat) (j : Nat) (h : j < l.length) : (at1 K rank l j).set (rank l[j] + 1) ((l.take j).countP (fun p => rank p + 1 == rank l[j] + 1) + 1) = at1 K rank l (j + 1) := by
  unfold at1
  rw [map_range_set]
  apply List.map_congr_left
  intro m _
  rw [countP_take_succ _ l j h]
  by_cases e : m = rank l[j] + 1
  · subst e; simp
  · rw [if_neg e, if_neg (by simp; omega)]; rfl
theorem at2_zero (K : Nat) (rank : Nat → Nat) (l : List Nat) : at2 K rank l 0 = at1 K rank l l.length := by
  unfold at1 at2
  apply List.map_congr_left
  intro m _
  rw [List.take_length]
  by_cases e : m ≤ 0
  · obtain rfl : m = 0 := by omega
    simp
  · rw [if_neg e]
theorem at2_get (K : Nat) (rank : Nat → Nat) (l : List Nat) (i m : Nat) (h : m ≤ K) : (at2 K rank l i)[m]? = some (if m ≤ i then l.countP (fun p => decide (rank p < m)) else l.countP (fun p => rank p + 1 == m)) := at_get K m h
theorem countP_lt_succ (rank : Nat → Nat) (l : List Nat) (i : Nat) : l.countP (fun p => rank p + 1 == i + 1) + l.countP (fun p => decide (rank p < i)) = l.countP (fun p => decide (rank p < i + 1)) := by
  induction l with
  | nil => rfl
  | cons a l ih =>
    simp only [List.countP_cons]
    rcases Nat.lt_trichotomy (rank a) i with h | h | h
    · have h1 : (rank a + 1 == i + 1) = false := by simp; omega
      have h2 : decide (rank a < i) = true := by simpa using h
      have h3 : decide (rank a < i + 1) = true := by simp; omega
      simp only [h1, h2, h3, Bool.false_eq_true, if_false, if_true]; omega
    · have h1 : (rank a + 1 == i + 1) = true := by simp; omega
      have h2 : decide (rank a < i) = false := by simp; omega
      have h3 : decide (rank a < i + 1) = true := by simp; omega
      simp only [h1, h2, h3, Bool.false_eq_true, if_false, if_true]; omega
    · have h1 : (rank a + 1 == i + 1) = false := by simp; omega
      have h2 : decide (rank a < i) = false := by simp; omega
      have h3 : decide (rank a < i + 1) = false := by simp; omega
      simp only [h1, h2, h3, Bool.false_eq_true, if_false]; omega
theorem at2_next (K : Nat) (rank : Nat → Nat) (l : List Nat) (i : Nat) : (at2 K rank l i).set (i + 1) (l.countP (fun p => rank p + 1 == i + 1) + l.countP (fun p => decide (rank p < i))) = at2 K rank l (i + 1) := by
  unfold at2
  rw [map_range_set]
  apply List.map_congr_left
  intro m _
  by_cases e : m = i + 1
  · subst e
    rw [if_pos rfl, if_pos (Nat.le_refl _), countP_lt_succ]
  · rw [if_neg e]
    by_cases h : m ≤ i
    · rw [if_pos h, if_pos (by omega)]
    · rw [if_neg h, if_neg (by omega)]
theorem at3_zero (K : Nat) (rank : Nat → Nat) (l : List Nat) : at3 K rank l 0 = at2 K rank l K := by
  unfold at3 at2
  apply List.map_congr_left
  intro m hm
  rw [List.mem_range] at hm
  rw [if_pos (by omega)]
  simp
theorem at3_get (K : Nat) (rank : Nat → Nat) (l : List Nat) (j m : Nat) (h : m ≤ K) : (at3 K rank l j)[m]? = some (l.countP (fun p => decide (rank p < m)) + (l.take j).countP (fun p => rank p == m)) := at_get K m h
theorem at3_next (K : Nat) (rank : Nat → Nat) (l : List Nat) (j : Nat) (h : j < l.length) : (at3 K rank l j).set (rank l[j]) (l.countP (fun p => decide (rank p < rank l[j])) + (l.take j).countP (fun p => rank p == rank l[j]) + 1) = at3 K rank l (j + 1) := by
  unfold at3
  rw [map_range_set]
  apply List.map_congr_left
  intro m _
  rw [countP_take_succ _ l j h]
  by_cases e : m = rank l[j]
  · subst e; simp; omega
  · rw [if_neg e, if_neg (by simp; omega)]; rfl

/-- a bucket, as far as it is filled -/
def bucket (rank : Nat → Nat) (l : List Nat) (j r : Nat) : List Nat := (l.take j).filter (fun p => rank p == r) ++ List.replicate ((l.drop j).countP (fun p => rank p == r)) 0
def outP (K : Nat) (rank : Nat → Nat) (l : List Nat) (j : Nat) : List Nat := (List.range K).flatMap (bucket rank l j)
theorem bucket_length (rank : Nat → Nat) (l : List Nat) (j r : Nat) : (bucket rank l j r).length = l.countP (fun p => rank p == r) := by
  unfold bucket
  rw [List.length_append, List.length_replicate, ← List.countP_eq_length_filter, ← List.countP_append, List.take_append_drop]
theorem buckets_length (rank : Nat → Nat) (l : List Nat) (j m : Nat) : ((List.range m).flatMap (bucket rank l j)).length = l.countP (fun p => decide (rank p < m)) := by
  induction m with
  | zero => simp
  | succ m ih =>
    rw [List.range_succ, List.flatMap_append, List.length_append, ih, List.flatMap_singleton, bucket_length]
    have := countP_lt_succ rank l m
    have e : l.countP (fun p => rank p + 1 == m + 1) = l.countP (fun p => rank p == m) := by
      apply List.countP_congr; intro p _; simp
    omega
theorem outP_length (K : Nat) (rank : Nat → Nat) (l : List Nat) (j : Nat) (h : ∀ p ∈ l, rank p < K) : (outP K rank l j).length = l.length := by
  unfold outP
  rw [buckets_length, List.countP_eq_length]
  intro p hp; simpa using h p hp
theorem outP_end (K : Nat) (rank : Nat → Nat) (l : List Nat) : outP K rank l l.length = sortByP K rank l := by
  unfold outP sortByP
  congr 1
  funext r
  unfold bucket
  simp
theorem eq_replicate_of {l : List Nat} {n : Nat} (h1 : l.length = n) (h2 : ∀ x ∈ l, x = 0) : l = List.replicate n 0 := List.eq_replicate_iff.2 ⟨h1, h2⟩
theorem outP_zero (K : Nat) (rank : Nat → Nat) (l : List Nat) (h : ∀ p ∈ l, rank p < K) : outP K rank l 0 = List.replicate l.length 0 := by
  refine eq_replicate_of (outP_length K rank l 0 h) ?_
  intro x hx
  simp only [outP, List.mem_flatMap, bucket, List.take_zero, List.filter_nil, List.nil_append, List.drop_zero, List.mem_replicate] at hx
  obtain ⟨r, _, _, rfl⟩ := hx
  rfl
theorem range_split (K r : Nat) (h : r < K) : List.range K = List.range r ++ r :: List.range' (r + 1) (K - r - 1) := by
  rw [List.range_eq_range', List.range_eq_range']
  have e : K = r + (1 + (K - r - 1)) := by omega
  conv => lhs; rw [e]
  rw [← List.range'_append_1, ← List.range'_append_1]
  simp [List.range'_one]
theorem outP_next (K : Nat) (rank : Nat → Nat) (l : List Nat) (j : Nat) (h : j < l.length) (hr : rank l[j] < K) :
    (outP K rank l j).set (l.countP (fun p => decide (rank p < rank l[j])) + (l.take j).countP (fun p => rank p == rank l[j])) l[j] = outP K rank l (j + 1) := by
  unfold outP
  rw [range_split K _ hr, List.flatMap_append, List.flatMap_cons, List.flatMap_append, List.flatMap_cons]
  have hlen := buckets_length rank l j (rank l[j])
  have same : ∀ r, r ≠ rank l[j] → bucket rank l (j + 1) r = bucket rank l j r := by
    intro r hne
    unfold bucket
    have h1 : (l.take (j + 1)).filter (fun p => rank p == r) = (l.take j).filter (fun p => rank p == r) := by
      rw [List.take_succ_eq_append_getElem h, List.filter_append]
      have : (rank l[j] == r) = false := by simp; omega
      simp [this]
    have h2 : (l.drop j).countP (fun p => rank p == r) = (l.drop (j + 1)).countP (fun p => rank p == r) := by
      rw [List.drop_eq_getElem_cons h, List.countP_cons]
      have : (rank l[j] == r) = false := by simp; omega
      simp [this]
    rw [h1, h2]
  have e1 : (List.range (rank l[j])).flatMap (bucket rank l (j + 1)) = (List.range (rank l[j])).flatMap (bucket rank l j) := by
    rw [List.flatMap_def, List.flatMap_def]
    congr 1
    apply List.map_congr_left
    intro r hr2
    rw [List.mem_range] at hr2
    exact same r (by omega)
  have e2 : (List.range' (rank l[j] + 1) (K - rank l[j] - 1)).flatMap (bucket rank l (j + 1)) = (List.range' (rank l[j] + 1) (K - rank l[j] - 1)).flatMap (bucket rank l j) := by
    rw [List.flatMap_def, List.flatMap_def]
    congr 1
    apply List.map_congr_left
    intro r hr2
    rw [List.mem_range'_1] at hr2
    exact same r (by omega)
  rw [e1, e2, ← hlen, List.set_append_right _ _ (by omega), Nat.add_sub_cancel_left]
  congr 1
  have hc : (l.take j).countP (fun p => rank p == rank l[j]) = ((l.take j).filter (fun p => rank p == rank l[j])).length := List.countP_eq_length_filter
  unfold bucket
  rw [hc, List.append_assoc, List.set_append_right _ _ (by omega), Nat.sub_self, List.drop_eq_getElem_cons h, List.countP_cons]
  simp only [BEq.rfl, if_true, List.replicate_succ, List.cons_append, List.set_cons_zero]
  rw [List.take_succ_eq_append_getElem h, List.filter_append]
  simp
theorem pos_lt (rank : Nat → Nat) (l : List Nat) (j : Nat) (h : j < l.length) : l.countP (fun p => decide (rank p < rank l[j])) + (l.take j).countP (fun p => rank p == rank l[j]) < l.length := by
  have h1 := countP_lt_succ rank l (rank l[j])
  have e : l.countP (fun p => rank p + 1 == rank l[j] + 1) = l.countP (fun p => rank p == rank l[j]) := by
    apply List.countP_congr; intro p _; simp
  have h2 := countP_take_succ (fun p => rank p == rank l[j]) l j h
  have h3 : (l.take (j + 1)).countP (fun p => rank p == rank l[j]) ≤ l.countP (fun p => rank p == rank l[j]) := (List.take_sublist _ _).countP_le
  have h4 := List.countP_le_length (p := fun p => decide (rank p < rank l[j] + 1)) (l := l)
  simp only [BEq.rfl, if_true] at h2
  omega
end Go.Proofs.Ytinlmodkdjpocaa

set_option linter.unusedVariables false
namespace Go.Proofs.Ytinlmodkdjpocaa
open Go.RowKit

theorem clone_nil_sy (c : Nat) (w : World) :
    Calls Try.prog 75 #[.slice none 0 c] w fun e w' => e = .returned (.slice none 0 0) ∧ w' = w := by
  have he : ∀ w : World, (binOp .eql 51 (.slice none 0 c) (.slice none 0 0)).run Try.prog w = .ok (.bool true) w := fun w => Lib.run_eql_slice_nil w 51 95 none 0 c 0 0 Try.underlying51
  go_enter Try.func75, Try.ntmps75
  go_wp2
  go_ret
  exact ⟨rfl, rfl⟩
theorem clone_some_sy (ad : Addr) (n c : Nat) (vs : List Value) (w : World) (hn : vs.length = n) (hc : ∀ j u, vs[j]? = some u → w.cell? (ad.add j) = some u) (h1 : ∀ u ∈ vs, u.oneCell' = true) (hb : n ≤ 10000000000) :
    Calls Try.prog 75 #[.slice (some ad) n c] w fun e w' => ∃ v', e = .returned v' ∧ w'.ownsRow w.heap.size 95 1 v' n vs ∧ Below w.heap.size w w' := by
  obtain ⟨i0, hi, hz0, hz1, hz2⟩ := info_parts info_u16
  have H : ∀ W : World, Below w.heap.size w W → w.heap.size + 1 ≤ W.heap.size → ∀ j u, vs[j]? = some u → W.cell? (ad.add j) = some u := fun W hW _ j u hj => (hW.cell (World.block_lt_of_cell? w _ (hc j u hj))).trans (hc j u hj)
  have H2 := Lib.hid H; clear H
  have H1 := Lib.hid hc; clear hc
  have H3 := Lib.hid h1; clear h1
  have H4 := Lib.hid hn; clear hn
  have he : ∀ w : World, (binOp .eql 51 (.slice (some ad) n c) (.slice none 0 0)).run Try.prog w = .ok (.bool false) w := fun w => Lib.run_eql_slice_nil w 51 95 (some ad) n c 0 0 Try.underlying51
  go_enter Try.func75, Try.ntmps75
  go_wp2_with (first
    | (at_builtin; go_must (refine wpList_append_own _ rfl _ _ 51 rfl w.heap.size 95 i0 (.int .u16 0) 1 2 Try.underlying51 hi hz0 hz1 hz2 rfl (by decide) (.slice (some ⟨w.heap.size, 0, none⟩) 0 0) 0 [] rfl (World.ownsRow_made w #[] 0 (Nat.le_refl _) (Nat.zero_le _) rfl) ad n c vs rfl (by simp [H4.out]) (H2.out _ ((Below.refl _ w).alloc (Nat.le_refl _) _) (by simp)) H3.out (by unfold maxLen; omega) (by omega) (by simp) ?_); intro v' w1 hown hgrow _))
  go_ret
  exact ⟨_, rfl, by simpa using hown, ((Below.refl _ w).alloc (Nat.le_refl _) _).grown hgrow (by simp) (fun k hk => by cases hk; simp)⟩
/-- slices.Clone at []uint16 -/
theorem clone_sy (v : Value) (bs : List Nat) (w : World) (h : SlR symV w v bs) (hb : bs.length ≤ 10000000000) :
    Calls Try.prog 75 #[v] w fun e w' => ∃ v', e = .returned v' ∧ w'.ownsRow w.heap.size 95 1 v' bs.length (bs.map symV) ∧ Below w.heap.size w w' := by
  obtain ⟨A, c, rfl, _⟩ := h.form
  obtain ⟨_, h1, h2⟩ := h.src
  cases A with
  | none =>
    have h0 := h1 rfl
    obtain rfl : bs = [] := List.eq_nil_of_length_eq_zero h0
    exact (clone_nil_sy c w).mono fun e w' ⟨he, hw⟩ => by subst hw; exact ⟨_, he, World.ownsRow_nil _ _ _ _, Below.refl _ _⟩
  | some ad => exact clone_some_sy ad bs.length c (bs.map symV) w (by simp) (h2 ad rfl) (oneCell_map (fun _ => rfl) bs) hb

theorem clone_nil_na (c : Nat) (w : World) :
    Calls Try.prog 90 #[.slice none 0 c] w fun e w' => e = .returned (.slice none 0 0) ∧ w' = w := by
  have he : ∀ w : World, (binOp .eql 73 (.slice none 0 c) (.slice none 0 0)).run Try.prog w = .ok (.bool true) w := fun w => Lib.run_eql_slice_nil w 73 3 none 0 c 0 0 Try.underlying73
  go_enter Try.func90, Try.ntmps90
  go_wp2
  go_ret
  exact ⟨rfl, rfl⟩
theorem clone_some_na (ad : Addr) (n c : Nat) (vs : List Value) (w : World) (hn : vs.length = n) (hc : ∀ j u, vs[j]? = some u → w.cell? (ad.add j) = some u) (h1 : ∀ u ∈ vs, u.oneCell' = true) (hb : n ≤ 10000000000) :
    Calls Try.prog 90 #[.slice (some ad) n c] w fun e w' => ∃ v', e = .returned v' ∧ w'.ownsRow w.heap.size 3 1 v' n vs ∧ Below w.heap.size w w' := by
  obtain ⟨i0, hi, hz0, hz1, hz2⟩ := info_parts info_int
  have H : ∀ W : World, Below w.heap.size w W → w.heap.size + 1 ≤ W.heap.size → ∀ j u, vs[j]? = some u → W.cell? (ad.add j) = some u := fun W hW _ j u hj => (hW.cell (World.block_lt_of_cell? w _ (hc j u hj))).trans (hc j u hj)
  have H2 := Lib.hid H; clear H
  have H1 := Lib.hid hc; clear hc
  have H3 := Lib.hid h1; clear h1
  have H4 := Lib.hid hn; clear hn
  have he : ∀ w : World, (binOp .eql 73 (.slice (some ad) n c) (.slice none 0 0)).run Try.prog w = .ok (.bool false) w := fun w => Lib.run_eql_slice_nil w 73 3 (some ad) n c 0 0 Try.underlying73
  go_enter Try.func90, Try.ntmps90
  go_wp2_with (first
    | (at_builtin; go_must (refine wpList_append_own _ rfl _ _ 73 rfl w.heap.size 3 i0 (.int .i64 0) 1 8 Try.underlying73 hi hz0 hz1 hz2 rfl (by decide) (.slice (some ⟨w.heap.size, 0, none⟩) 0 0) 0 [] rfl (World.ownsRow_made w #[] 0 (Nat.le_refl _) (Nat.zero_le _) rfl) ad n c vs rfl (by simp [H4.out]) (H2.out _ ((Below.refl _ w).alloc (Nat.le_refl _) _) (by simp)) H3.out (by unfold maxLen; omega) (by omega) (by simp) ?_); intro v' w1 hown hgrow _))
  go_ret
  exact ⟨_, rfl, by simpa using hown, ((Below.refl _ w).alloc (Nat.le_refl _) _).grown hgrow (by simp) (fun k hk => by cases hk; simp)⟩
/-- slices.Clone at []int -/
theorem clone_na (v : Value) (bs : List Nat) (w : World) (h : SlR natV w v bs) (hb : bs.length ≤ 10000000000) :
    Calls Try.prog 90 #[v] w fun e w' => ∃ v', e = .returned v' ∧ w'.ownsRow w.heap.size 3 1 v' bs.length (bs.map natV) ∧ Below w.heap.size w w' := by
  obtain ⟨A, c, rfl, _⟩ := h.form
  obtain ⟨_, h1, h2⟩ := h.src
  cases A with
  | none =>
    have h0 := h1 rfl
    obtain rfl : bs = [] := List.eq_nil_of_length_eq_zero h0
    exact (clone_nil_na c w).mono fun e w' ⟨he, hw⟩ => by subst hw; exact ⟨_, he, World.ownsRow_nil _ _ _ _, Below.refl _ _⟩
  | some ad => exact clone_some_na ad bs.length c (bs.map natV) w (by simp) (h2 ad rfl) (oneCell_map (fun _ => rfl) bs) hb

theorem clip_sy (A : Option Addr) (n c : Nat) (w : World) (h1 : n ≤ c) (h2 : c ≤ 9223372036854775807) :
    Calls Try.prog 74 #[.slice A n c] w fun e w' => e = .returned (.slice A n n) ∧ w' = w := by
  go_enter Try.func74, Try.ntmps74
  go_wp2
  go_ret
  exact ⟨rfl, rfl⟩

theorem clip_na (A : Option Addr) (n c : Nat) (w : World) (h1 : n ≤ c) (h2 : c ≤ 9223372036854775807) :
    Calls Try.prog 89 #[.slice A n c] w fun e w' => e = .returned (.slice A n n) ∧ w' = w := by
  go_enter Try.func89, Try.ntmps89
  go_wp2
  go_ret
  exact ⟨rfl, rfl⟩

theorem clip_ds (A : Option Addr) (n c : Nat) (w : World) (h1 : n ≤ c) (h2 : c ≤ 9223372036854775807) :
    Calls Try.prog 103 #[.slice A n c] w fun e w' => e = .returned (.slice A n n) ∧ w' = w := by
  go_enter Try.func103, Try.ntmps103
  go_wp2
  go_ret
  exact ⟨rfl, rfl⟩

set_option maxRecDepth 100000 in
theorem clo_wv (x : Nat) (w : World) (hx : x ≤ 65535) : Calls Try.prog 123 #[.int .u16 x] w fun e w' => e = .returned (.bool (decide (256 < x))) ∧ w' = w := by
  by_cases h : 256 < x
  · have hd : decide (256 < x) = true := by simpa using h
    rw [hd]
    clear hd
    go_enter Try.func123, Try.ntmps123
    go_wp2
    go_ret
    exact ⟨by simp; omega, rfl⟩
  · have hd : decide (256 < x) = false := by simpa using h
    rw [hd]
    clear hd
    go_enter Try.func123, Try.ntmps123
    go_wp2
    go_ret
    exact ⟨by simp; omega, rfl⟩
set_option maxHeartbeats 1000000 in
theorem index_wv (v : Value) (l : List Nat) (w : World) (h : SlR symV w v l) (hm : ∀ x ∈ l, x ≤ 65535) :
    Calls Try.prog 121 #[v, .func (.func 123) #[] #[]] w fun e w' => ∃ r : Int, e = .returned (.int .i64 r) ∧ w' = w ∧ (decide (0 ≤ r) = l.any (fun x => decide (256 < x))) := by
  obtain ⟨A, c, rfl, h4, h5, h6⟩ := h.form
  have H6 := Lib.hid h6
  have HM := Lib.hid hm
  have hlen : l.length ≤ 9223372036854775807 := by omega
  clear h h6 hm h4 h5
  obtain ⟨N, hN⟩ : ∃ N, N = l.length := ⟨_, rfl⟩
  rw [← hN] at hlen
  have HN := Lib.hid hN
  rw [← hN]
  clear hN
  go_enter Try.func121, Try.ntmps121
  go_wp2_with fail
  go_loop [8] (fun i => ∃ k : Nat, k ≤ N ∧ i = .int .i64 k ∧ Hid ((l.take k).any (fun x => decide (256 < x)) = false)) (fun i => N - (intOf i).toNat)
  case atStart => exact ⟨0, Nat.zero_le _, rfl, Lib.hid (by simp)⟩
  case round =>
    obtain ⟨k, hk, rfl, hn⟩ := hrel
    by_cases hlt : k < N
    · have hl2 : k < l.length := by rw [← HN.out]; exact hlt
      obtain ⟨ad, rfl, hc⟩ := H6.out k hl2
      have hx := HM.out _ (List.getElem_mem hl2)
      have hc' : w.cell? (ad.add k) = some (.int .u16 ((l[k] : Nat) : Int)) := hc
      have htk := Lib.hid (List.take_succ_eq_append_getElem hl2)
      have hany : Hid (256 < l[k] → l.any (fun x => decide (256 < x)) = true) := Lib.hid (fun hx => List.any_eq_true.2 ⟨_, List.getElem_mem hl2, by simpa using hx⟩)
      clear hc
      generalize hX : l[k] = x at *
      clear hX
      have hcl := Lib.hid (clo_wv x w hx)
      by_cases hbig : 256 < x
      · have hd : decide (256 < x) = true := by simpa using hbig
        rw [hd] at hcl
        clear hd
        have HA := Lib.hid (hany.out hbig)
        clear hany hbig hx
        go_wp2_with fail
        refine hcl.out.mono ?_
        rintro e w1 ⟨rfl, rfl⟩
        go_wp2_with fail
        go_ret
        exact ⟨_, rfl, rfl, by rw [HA.out]; simp⟩
      · have hd : decide (256 < x) = false := by simpa using hbig
        have HD := Lib.hid hd
        rw [hd] at hcl
        clear hd hany
        go_wp2_with fail
        refine hcl.out.mono ?_
        rintro e w1 ⟨rfl, rfl⟩
        go_wp2_with fail
        go_round
        case rel => exact ⟨k + 1, by omega, by go_num, Lib.hid (by rw [htk.out, List.any_append, hn.out]; simp [HD.out])⟩
        case measure => simp [intOf]; omega
    · obtain rfl : k = N := by omega
      have HA : Hid (l.any (fun x => decide (256 < x)) = false) := Lib.hid (by have := hn.out; rwa [HN.out, List.take_length] at this)
      clear hlt hn
      go_wp2_with fail
      go_ret
      exact ⟨_, rfl, rfl, by rw [HA.out]; rfl⟩
/-- whether a symbol is too large -/
theorem contains_wv (v : Value) (l : List Nat) (w : World) (h : SlR symV w v l) (hm : ∀ x ∈ l, x ≤ 65535) :
    Calls Try.prog 99 #[v, .func (.func 123) #[] #[]] w fun e w' => e = .returned (.bool (l.any (fun x => decide (256 < x)))) ∧ w' = w := by
  have hi := Lib.hid (index_wv v l w h hm)
  generalize l.any (fun x => decide (256 < x)) = t at *
  clear h hm
  go_enter Try.func99, Try.ntmps99
  go_wp2_with fail
  refine hi.out.mono ?_
  rintro e w1 ⟨r, rfl, rfl, hr⟩
  have HR := Lib.hid hr
  clear hr hi
  go_wp2_with fail
  go_ret
  exact ⟨by rw [← HR.out]; simp, rfl⟩

set_option maxRecDepth 100000 in
theorem clo_bw (x : Nat) (w : World) (hx : x ≤ 65535) : Calls Try.prog 100 #[.int .u16 x] w fun e w' => e = .returned (.bool (decide (256 < x))) ∧ w' = w := by
  by_cases h : 256 < x
  · have hd : decide (256 < x) = true := by simpa using h
    rw [hd]
    clear hd
    go_enter Try.func100, Try.ntmps100
    go_wp2
    go_ret
    exact ⟨by simp; omega, rfl⟩
  · have hd : decide (256 < x) = false := by simpa using h
    rw [hd]
    clear hd
    go_enter Try.func100, Try.ntmps100
    go_wp2
    go_ret
    exact ⟨by simp; omega, rfl⟩
set_option maxHeartbeats 1000000 in
theorem index_bw (v : Value) (l : List Nat) (w : World) (h : SlR symV w v l) (hm : ∀ x ∈ l, x ≤ 65535) :
    Calls Try.prog 121 #[v, .func (.func 100) #[] #[]] w fun e w' => ∃ r : Int, e = .returned (.int .i64 r) ∧ w' = w ∧ (decide (0 ≤ r) = l.any (fun x => decide (256 < x))) := by
  obtain ⟨A, c, rfl, h4, h5, h6⟩ := h.form
  have H6 := Lib.hid h6
  have HM := Lib.hid hm
  have hlen : l.length ≤ 9223372036854775807 := by omega
  clear h h6 hm h4 h5
  obtain ⟨N, hN⟩ : ∃ N, N = l.length := ⟨_, rfl⟩
  rw [← hN] at hlen
  have HN := Lib.hid hN
  rw [← hN]
  clear hN
  go_enter Try.func121, Try.ntmps121
  go_wp2_with fail
  go_loop [8] (fun i => ∃ k : Nat, k ≤ N ∧ i = .int .i64 k ∧ Hid ((l.take k).any (fun x => decide (256 < x)) = false)) (fun i => N - (intOf i).toNat)
  case atStart => exact ⟨0, Nat.zero_le _, rfl, Lib.hid (by simp)⟩
  case round =>
    obtain ⟨k, hk, rfl, hn⟩ := hrel
    by_cases hlt : k < N
    · have hl2 : k < l.length := by rw [← HN.out]; exact hlt
      obtain ⟨ad, rfl, hc⟩ := H6.out k hl2
      have hx := HM.out _ (List.getElem_mem hl2)
      have hc' : w.cell? (ad.add k) = some (.int .u16 ((l[k] : Nat) : Int)) := hc
      have htk := Lib.hid (List.take_succ_eq_append_getElem hl2)
      have hany : Hid (256 < l[k] → l.any (fun x => decide (256 < x)) = true) := Lib.hid (fun hx => List.any_eq_true.2 ⟨_, List.getElem_mem hl2, by simpa using hx⟩)
      clear hc
      generalize hX : l[k] = x at *
      clear hX
      have hcl := Lib.hid (clo_bw x w hx)
      by_cases hbig : 256 < x
      · have hd : decide (256 < x) = true := by simpa using hbig
        rw [hd] at hcl
        clear hd
        have HA := Lib.hid (hany.out hbig)
        clear hany hbig hx
        go_wp2_with fail
        refine hcl.out.mono ?_
        rintro e w1 ⟨rfl, rfl⟩
        go_wp2_with fail
        go_ret
        exact ⟨_, rfl, rfl, by rw [HA.out]; simp⟩
      · have hd : decide (256 < x) = false := by simpa using hbig
        have HD := Lib.hid hd
        rw [hd] at hcl
        clear hd hany
        go_wp2_with fail
        refine hcl.out.mono ?_
        rintro e w1 ⟨rfl, rfl⟩
        go_wp2_with fail
        go_round
        case rel => exact ⟨k + 1, by omega, by go_num, Lib.hid (by rw [htk.out, List.any_append, hn.out]; simp [HD.out])⟩
        case measure => simp [intOf]; omega
    · obtain rfl : k = N := by omega
      have HA : Hid (l.any (fun x => decide (256 < x)) = false) := Lib.hid (by have := hn.out; rwa [HN.out, List.take_length] at this)
      clear hlt hn
      go_wp2_with fail
      go_ret
      exact ⟨_, rfl, rfl, by rw [HA.out]; rfl⟩
/-- whether a symbol is too large -/
theorem contains_bw (v : Value) (l : List Nat) (w : World) (h : SlR symV w v l) (hm : ∀ x ∈ l, x ≤ 65535) :
    Calls Try.prog 99 #[v, .func (.func 100) #[] #[]] w fun e w' => e = .returned (.bool (l.any (fun x => decide (256 < x)))) ∧ w' = w := by
  have hi := Lib.hid (index_bw v l w h hm)
  generalize l.any (fun x => decide (256 < x)) = t at *
  clear h hm
  go_enter Try.func99, Try.ntmps99
  go_wp2_with fail
  refine hi.out.mono ?_
  rintro e w1 ⟨r, rfl, rfl, hr⟩
  have HR := Lib.hid hr
  clear hr hi
  go_wp2_with fail
  go_ret
  exact ⟨by rw [← HR.out]; simp, rfl⟩
end Go.Proofs.Ytinlmodkdjpocaa
