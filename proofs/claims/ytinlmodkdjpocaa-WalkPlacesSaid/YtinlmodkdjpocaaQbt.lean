/- bits: a vector in memory; Rank, Zeros. bits: New. -/
import Derived.Test.YtinlmodkdjpocaaProg
import Derived.Test.YtinlmodkdjpocaaQpo
import Derived.Test.YtinlmodkdjpocaaTxu
import Derived.IntWalk
import Derived.LoopN
import Derived.Deep.RegionLaw
import Derived.StillTailTactics
import Derived.Deep.OwnRows
import Derived.Laws.OwnMore
import Derived.WalkSmall
set_option linter.unusedVariables false
namespace Go.Proofs.Ytinlmodkdjpocaa
open Go.RowKit

def u64V (n : Nat) : Value := .int .u64 (n : Int)
/-- the words of a row of bits -/
def wordsOf (l : List Bool) : List Nat := (List.range ((l.length + 63) / 64)).map (fun q => wordL ((l.drop (64 * q)).take 64))
/-- how many are set ahead of each word -/
def aheadsOf (l : List Bool) : List Nat := (List.range ((l.length + 63) / 64 + 1)).map (fun q => rank1 l (64 * q))
/-- A Vec in memory: block b. -/
def VecR (w : World) (b : Nat) (l : List Bool) : Prop :=
  ∃ wv av, w.heap[b]? = some (.cells #[.int .i64 l.length, wv, av] 179 (0, 0)) ∧ SlT 176 u64V w wv (wordsOf l) ∧ SlT 3 natV w av (aheadsOf l) ∧ l.length ≤ 100000
theorem VecR.below {w w' : World} {b : Nat} {l : List Bool} (h : VecR w b l) {n : Nat} (hn : w.heap.size ≤ n) (hb : Below n w w') : VecR w' b l := by
  obtain ⟨wv, av, h0, h1, h2, h3⟩ := h
  exact ⟨wv, av, (hb.block b (Nat.lt_of_lt_of_le (Array.getElem?_eq_some_iff.1 h0).1 hn)).trans h0, h1.below (hb.mono hn), h2.below (hb.mono hn), h3⟩
/-- a store into a block of another type -/
theorem VecR.setCell {w : World} {b : Nat} {l : List Bool} (h : VecR w b l) (a : Addr) (u : Value) (hr : ∀ T cur fr, w.heap[a.block]? = some (.cells cur T fr) → T ≠ 179 ∧ T ≠ 176 ∧ T ≠ 3) : VecR (w.setCell a u) b l := by
  obtain ⟨wv, av, h0, h1, h2, h3⟩ := h
  refine ⟨wv, av, ?_, h1.setCell a u (fun cur fr hh => (hr _ cur fr hh).2.1 rfl), h2.setCell a u (fun cur fr hh => (hr _ cur fr hh).2.2 rfl), h3⟩
  rw [Below.heap_setCell _ _ _ _ (fun e => (hr _ _ _ (e ▸ h0)).1 rfl)]
  exact h0
theorem wordL_take_lt (l : List Bool) (q : Nat) : wordL ((l.drop (64 * q)).take 64) < 18446744073709551616 := by
  have h := wordL_lt ((l.drop (64 * q)).take 64)
  have h2 : ((l.drop (64 * q)).take 64).length ≤ 64 := by simp; omega
  have h3 : 2 ^ ((l.drop (64 * q)).take 64).length ≤ 2 ^ 64 := Nat.pow_le_pow_right (by decide) h2
  have : (2 : Nat) ^ 64 = 18446744073709551616 := by decide
  omega
theorem ones_le (k x : Nat) : ones k x ≤ k := by
  induction k generalizing x with
  | zero => simp [ones]
  | succ k ih => have := ih (x / 2); simp only [ones]; omega
set_option maxRecDepth 100000 in
set_option maxHeartbeats 1000000 in
theorem bits_rank (b : Nat) (l : List Bool) (i : Nat) (w : World) (hi : i ≤ l.length) (h : VecR w b l) :
    Calls Try.prog 131 #[.pointer (some ⟨b, 0, none⟩), .int .i64 i] w fun e w' => e = .returned (.int .i64 (rank1 l i : Nat)) ∧ ∃ q, w' = w.drewN q := by
  obtain ⟨wv, av, h0, h1, h2, h3⟩ := h
  obtain ⟨A1, c1, rfl, _, _, g1⟩ := h1.1.form
  obtain ⟨A2, c2, rfl, _, _, g2⟩ := h2.1.form
  have e0 : w.cell? ⟨b, 0, none⟩ = some (.int .i64 (l.length : Nat)) := by simp [World.cell?, h0]
  have e1 : w.cell? ⟨b, 1, none⟩ = some (.slice A1 (wordsOf l).length c1) := by simp [World.cell?, h0]
  have e2 : w.cell? ⟨b, 2, none⟩ = some (.slice A2 (aheadsOf l).length c2) := by simp [World.cell?, h0]
  have l1 : (wordsOf l).length = (l.length + 63) / 64 := by simp [wordsOf]
  have l2 : (aheadsOf l).length = (l.length + 63) / 64 + 1 := by simp [aheadsOf]
  obtain ⟨ad2, rfl, k2⟩ := g2 (i / 64) (by omega)
  have x2 : (aheadsOf l)[i / 64]'(by omega) = rank1 l (64 * (i / 64)) := by simp [aheadsOf]
  rw [x2] at k2
  have hr := rank1_word l i
  clear h0 h1 h2 g2 x2
  by_cases hz : i % 64 = 0
  · have : rank1 l i = rank1 l (64 * (i / 64)) := by congr 1; omega
    rw [this]
    clear hr g1
    generalize hN : l.length = N at *
    generalize hAh : (aheadsOf l).length = AA at *
    generalize rank1 l (64 * (i / 64)) = R at *
    go_enter Try.func131, Try.ntmps131
    go_wp2
    go_ret
    exact ⟨rfl, 0, rfl⟩
  · obtain ⟨ad1, rfl, k1⟩ := g1 (i / 64) (by omega)
    have x1 : (wordsOf l)[i / 64]'(by omega) = wordL ((l.drop (64 * (i / 64))).take 64) := by simp [wordsOf]
    rw [x1] at k1
    have hwl := wordL_take_lt l (i / 64)
    have hrl := (rank1_le l (64 * (i / 64))).1
    have hone := ones_le 64 (wordL ((l.drop (64 * (i / 64))).take 64) &&& (2 ^ (i % 64) - 1))
    rw [hr]
    clear g1 hr x1
    generalize hN : l.length = N at *
    generalize hAh : (aheadsOf l).length = AA at *
    generalize hWw : (wordsOf l).length = WW at *
    generalize rank1 l (64 * (i / 64)) = R at *
    generalize wordL ((l.drop (64 * (i / 64))).take 64) = X at *
    have L1 : i / 64 < WW := by omega
    have L2 : i / 64 < AA := by omega
    have hr64 : i % 64 < 64 := Nat.mod_lt _ (by decide)
    have e1 : (i : Int) / 64 = ((i / 64 : Nat) : Int) := by omega
    have e2 : (i : Int) % 64 = ((i % 64 : Nat) : Int) := by omega
    have e3 : (i : Int).tmod 64 = ((i % 64 : Nat) : Int) := by rw [Int.tmod_eq_emod_of_nonneg (by omega)]; omega
    clear l1 l2 hN hAh hWw
    have hQ : i / 64 ≤ 100000 := by omega
    generalize i / 64 = Q at *
    generalize i % 64 = r at *
    have hz' : 0 < r := by omega
    have hY : X &&& (2 ^ r - 1) ≤ X := Nat.and_le_left
    have hoc := fun w => ones_count (X &&& (2 ^ r - 1)) (by omega) w
    have hP : 2 ^ r < 18446744073709551616 := by
      have : (2 : Nat) ^ r ≤ 2 ^ 63 := Nat.pow_le_pow_right (by decide) (by omega)
      have e : (2 : Nat) ^ 63 = 9223372036854775808 := by decide
      omega
    have hP0 : 0 < 2 ^ r := Nat.pow_pos (by decide)
    have e4 : IntKind.u64.wrap ((2 : Int) ^ r) = ((2 ^ r : Nat) : Int) := u64_wrap_nat (2 ^ r) hP _ (by simp)
    generalize hPP : 2 ^ r = P at *
    have e5 : IntKind.u64.wrap ((P : Int) - 1) = ((P - 1 : Nat) : Int) := u64_wrap_nat (P - 1) (by omega) _ (by omega)
    have e6 : bits .and .u64 (X : Int) ((P - 1 : Nat) : Int) = ((X &&& (P - 1) : Nat) : Int) := bits_and_u64_nat X (P - 1) hwl (by omega)
    generalize X &&& (P - 1) = Y at *
    generalize P - 1 = PM at *
    generalize ones 64 Y = O at *
    have HO := Lib.hid hoc
    have e7 : IntKind.i64.wrap ((R : Int) + (O : Nat)) = (R : Int) + (O : Nat) := IntWalk.i64_in _ (by omega)
    have e8 : IntKind.i64.wrap (Q : Int) = (Q : Int) := IntWalk.i64_in _ (by omega)
    have hz2 : ¬ r = 0 := hz
    clear hoc hPP hz
    replace k1 : w.cell? (ad1.add Q) = some (.int .u64 (X : Int)) := k1
    replace k2 : w.cell? (ad2.add Q) = some (.int .i64 (R : Int)) := k2
    go_enter Try.func131, Try.ntmps131
    go_wp2
    go_quiet ((go_at_call 143; exact Calls.quiet_of_same (HO.out _)))
    go_wp2
    go_ret
    exact ⟨rfl, _, rfl⟩
end Go.Proofs.Ytinlmodkdjpocaa

set_option linter.unusedVariables false
namespace Go.Proofs.Ytinlmodkdjpocaa
open Go.RowKit

/-- what a Vec is in the making -/
structure VecSt (base : Nat) (w W : World) (b b1 b2 n : Nat) (ws bs : List Nat) : Prop where
  head : W.heap[b]? = some (.cells #[.int .i64 n, .slice (some ⟨b1, 0, none⟩) ws.length ws.length, .slice (some ⟨b2, 0, none⟩) bs.length bs.length] 179 (0, 0))
  row1 : W.heap[b1]? = some (.cells (ws.map u64V).toArray 176 (0, 0))
  row2 : W.heap[b2]? = some (.cells (bs.map natV).toArray 3 (0, 0))
  below : Below base w W
  ge : base ≤ b ∧ base ≤ b1 ∧ base ≤ b2
theorem made_u64 (q : Nat) : madeCells #[Value.int .u64 0] q = ((List.replicate q 0).map u64V).toArray := by
  apply Array.ext'; rw [toList_madeCells_one]; simp [u64V]
theorem made_int (q : Nat) : madeCells #[Value.int .i64 0] q = ((List.replicate q 0).map natV).toArray := by
  apply Array.ext'; rw [toList_madeCells_one]; simp [natV]
theorem heap_old {w : World} {b : Nat} {o o' : Obj} (h : w.heap[b]? = some o) : (w.alloc o').heap[b]? = some o :=
  (Below.heap_alloc w o' b (Array.getElem?_eq_some_iff.1 h).1).trans h

theorem info_u64 : (Try.prog.info? 176).map (fun i => (i.zero, i.size, i.bytes)) = some (some (.int .u64 0), 1, 8) := by kernel_rfl
def EmptyPost (n q : Nat) (w : World) (e : Ending) (w' : World) : Prop := ∃ b b1 b2, e = .returned (.pointer (some ⟨b, 0, none⟩)) ∧ VecSt w.heap.size w w' b b1 b2 n (List.replicate q 0) (List.replicate (q + 1) 0)
set_option maxRecDepth 100000 in
set_option maxHeartbeats 1000000 in
theorem bits_empty (n : Nat) (w : World) (hn : n ≤ 100000) :
    Calls Try.prog 138 #[.int .i64 n] w (EmptyPost n ((n + 63) / 64) w) := by
  have e1 : ((n : Int) + 64 - 1) / 64 = (((n + 63) / 64 : Nat) : Int) := by omega
  have hW : (n + 63) / 64 ≤ 1564 := by omega
  generalize (n + 63) / 64 = q at *
  have m1 := fun W => run_make_row' (P := Try.prog) 177 176 (.int .u64 0) 8 Try.underlying177 info_u64 rfl .i64 .i64 q (by omega) (by omega) W
  have m2 := fun W => run_make_row' (P := Try.prog) 73 3 (.int .i64 0) 8 Try.underlying73 info_int rfl .i64 .i64 (q + 1) (by omega) (by omega) W
  have m3 : ∀ W, (Instr.makeSlice 73 (.int .i64 ((q : Int) + 1)) (.int .i64 ((q : Int) + 1))).run Try.prog W = .ok (.slice (some ⟨W.heap.size, 0, none⟩) (q + 1) (q + 1)) (W.alloc (.cells (madeCells #[.int .i64 0] (q + 1)) 3)) := m2
  clear m2
  have q1 : IntKind.i64.wrap ((q : Int) + 1) = (q : Int) + 1 := IntWalk.i64_in _ (by omega)
  go_enter Try.func138, Try.ntmps138
  go_wp2
  simp only [e1]
  go_region_law (fail)
  · clear m1 m3 q1 e1
    rw [made_u64, made_int]
    go_wp2_with fail
    go_ret
    refine ⟨w.heap.size + 1 + 1, w.heap.size, w.heap.size + 1, rfl, ?_, ?_, ?_, ?_, by omega⟩
    · have := heap_alloc_new ((w.alloc (.cells ((List.replicate q 0).map u64V).toArray 176)).alloc (.cells ((List.replicate (q + 1) 0).map natV).toArray 3)) (.cells #[.int .i64 n, .slice (some ⟨w.heap.size, 0, none⟩) q q, .slice (some ⟨w.heap.size + 1, 0, none⟩) (q + 1) (q + 1)] 179)
      simp only [World.size_alloc] at this
      rw [List.length_replicate, List.length_replicate]
      exact this
    · exact heap_old (heap_old (heap_alloc_new w _))
    · have := heap_alloc_new (w.alloc (.cells ((List.replicate q 0).map u64V).toArray 176)) (.cells ((List.replicate (q + 1) 0).map natV).toArray 3)
      rw [World.size_alloc] at this
      exact heap_old this
    · exact ((((Below.refl _ w).alloc (Nat.le_refl _) _).alloc (by simp) _).alloc (by simp; omega) _).drew
  · clear m1 m3 q1 e1
    rw [made_u64, made_int]
    go_wp2_with fail
    go_ret
    refine ⟨w.heap.size + 1 + 1, w.heap.size + 1, w.heap.size, rfl, ?_, ?_, ?_, ?_, by omega⟩
    · have := heap_alloc_new ((w.alloc (.cells ((List.replicate (q + 1) 0).map natV).toArray 3)).alloc (.cells ((List.replicate q 0).map u64V).toArray 176)) (.cells #[.int .i64 n, .slice (some ⟨w.heap.size + 1, 0, none⟩) q q, .slice (some ⟨w.heap.size, 0, none⟩) (q + 1) (q + 1)] 179)
      simp only [World.size_alloc] at this
      rw [List.length_replicate, List.length_replicate]
      exact this
    · have := heap_alloc_new (w.alloc (.cells ((List.replicate (q + 1) 0).map natV).toArray 3)) (.cells ((List.replicate q 0).map u64V).toArray 176)
      rw [World.size_alloc] at this
      exact heap_old this
    · exact heap_old (heap_old (heap_alloc_new w _))
    · exact ((((Below.refl _ w).alloc (Nat.le_refl _) _).alloc (by simp) _).alloc (by simp; omega) _).drew

theorem VecSt.ne {base : Nat} {w W : World} {b b1 b2 n : Nat} {ws bs : List Nat} (h : VecSt base w W b b1 b2 n ws bs) : b ≠ b1 ∧ b ≠ b2 ∧ b1 ≠ b2 := by
  refine ⟨fun e => ?_, fun e => ?_, fun e => ?_⟩
  · subst e; have := h.head.symm.trans h.row1; injection this with this; injection this with _ h2; exact absurd h2 (by decide)
  · subst e; have := h.head.symm.trans h.row2; injection this with this; injection this with _ h2; exact absurd h2 (by decide)
  · subst e; have := h.row1.symm.trans h.row2; injection this with this; injection this with _ h2; exact absurd h2 (by decide)
theorem VecSt.drewN {base : Nat} {w W : World} {b b1 b2 n : Nat} {ws bs : List Nat} (h : VecSt base w W b b1 b2 n ws bs) (k : Nat) : VecSt base w (W.drewN k) b b1 b2 n ws bs := ⟨h.head, h.row1, h.row2, below_drewN h.below k, h.ge⟩
theorem VecSt.drew {base : Nat} {w W : World} {b b1 b2 n : Nat} {ws bs : List Nat} (h : VecSt base w W b b1 b2 n ws bs) : VecSt base w W.drew b b1 b2 n ws bs := ⟨h.head, h.row1, h.row2, h.below.drew, h.ge⟩
theorem map_set_arr {α : Type} (f : α → Value) (l : List α) (i : Nat) (x : α) : (l.map f).toArray.setIfInBounds i (f x) = ((l.set i x).map f).toArray := by
  simp
theorem VecSt.put1 {base : Nat} {w W : World} {b b1 b2 n : Nat} {ws bs : List Nat} (h : VecSt base w W b b1 b2 n ws bs) (i x : Nat) : VecSt base w (W.setCell ⟨b1, i, none⟩ (u64V x)) b b1 b2 n (ws.set i x) bs := by
  obtain ⟨n1, n2, n3⟩ := h.ne
  refine ⟨?_, ?_, ?_, h.below.setCell h.ge.2.1 _, h.ge⟩
  · rw [Below.heap_setCell _ _ _ _ (by exact n1), h.head]; simp
  · rw [heap_setCell_same h.row1, map_set_arr]
  · rw [Below.heap_setCell _ _ _ _ (by exact n3.symm), h.row2]
theorem VecSt.put2 {base : Nat} {w W : World} {b b1 b2 n : Nat} {ws bs : List Nat} (h : VecSt base w W b b1 b2 n ws bs) (i x : Nat) : VecSt base w (W.setCell ⟨b2, i, none⟩ (natV x)) b b1 b2 n ws (bs.set i x) := by
  obtain ⟨n1, n2, n3⟩ := h.ne
  refine ⟨?_, ?_, ?_, h.below.setCell h.ge.2.2 _, h.ge⟩
  · rw [Below.heap_setCell _ _ _ _ (by exact n2), h.head]; simp
  · rw [Below.heap_setCell _ _ _ _ (by exact n3), h.row1]
  · rw [heap_setCell_same h.row2, map_set_arr]
theorem VecSt.cells {base : Nat} {w W : World} {b b1 b2 n : Nat} {ws bs : List Nat} (h : VecSt base w W b b1 b2 n ws bs) :
    W.cell? ⟨b, 0, none⟩ = some (.int .i64 n) ∧ W.cell? ⟨b, 1, none⟩ = some (.slice (some ⟨b1, 0, none⟩) ws.length ws.length) ∧ W.cell? ⟨b, 2, none⟩ = some (.slice (some ⟨b2, 0, none⟩) bs.length bs.length) := by
  simp [World.cell?, h.head]
theorem VecSt.at1 {base : Nat} {w W : World} {b b1 b2 n : Nat} {ws bs : List Nat} (h : VecSt base w W b b1 b2 n ws bs) (i x : Nat) (hi : ws[i]? = some x) : W.cell? ⟨b1, i, none⟩ = some (.int .u64 (x : Int)) ∧ W.frozen? ⟨b1, i, none⟩ = false := by
  refine ⟨?_, free_of_block h.row1⟩
  rw [cell_of_block h.row1]; simp [hi, u64V]
theorem VecSt.at2 {base : Nat} {w W : World} {b b1 b2 n : Nat} {ws bs : List Nat} (h : VecSt base w W b b1 b2 n ws bs) (i x : Nat) (hi : bs[i]? = some x) : W.cell? ⟨b2, i, none⟩ = some (.int .i64 (x : Int)) ∧ W.frozen? ⟨b2, i, none⟩ = false := by
  refine ⟨?_, free_of_block h.row2⟩
  rw [cell_of_block h.row2]; simp [hi, natV]

/-- the ranks that have been counted -/
def cntd (l : List Bool) (q k : Nat) : List Nat := (List.range (q + 1)).map (fun j => if j ≤ k then rank1 l (64 * j) else 0)
theorem cntd_next (l : List Bool) (q k : Nat) (hk : k < q) : (cntd l q k).set (k + 1) (rank1 l (64 * (k + 1))) = cntd l q (k + 1) := by
  unfold cntd
  rw [map_range_set]
  apply List.map_congr_left
  intro j _
  by_cases e : j = k + 1
  · subst e; simp
  · rw [if_neg e]
    by_cases h : j ≤ k
    · rw [if_pos h, if_pos (by omega)]
    · rw [if_neg h, if_neg (by omega)]

set_option maxRecDepth 100000 in
set_option maxHeartbeats 1000000 in
theorem bits_count (base : Nat) (w0 w : World) (b b1 b2 : Nat) (l : List Bool) (hn : l.length ≤ 100000) (h : VecSt base w0 w b b1 b2 l.length (wordsOf l) (List.replicate ((l.length + 63) / 64 + 1) 0)) :
    Calls Try.prog 139 #[.pointer (some ⟨b, 0, none⟩)] w fun e w' => (∃ v, e = .returned v) ∧ VecSt base w0 w' b b1 b2 l.length (wordsOf l) (aheadsOf l) := by
  have hw : (wordsOf l).length = (l.length + 63) / 64 := by simp [wordsOf]
  have hq : (l.length + 63) / 64 ≤ 1564 := by omega
  have h0 : VecSt base w0 w b b1 b2 l.length (wordsOf l) (cntd l ((l.length + 63) / 64) 0) := by
    have : cntd l ((l.length + 63) / 64) 0 = List.replicate ((l.length + 63) / 64 + 1) 0 := by
      unfold cntd
      apply List.ext_getElem
      · simp
      · intro i h1 h2
        simp only [List.getElem_map, List.getElem_range, List.getElem_replicate]
        by_cases e : i ≤ 0
        · obtain rfl : i = 0 := by omega
          simp [rank1]
        · rw [if_neg e]
    rw [this]; exact h
  have hend : cntd l ((l.length + 63) / 64) ((l.length + 63) / 64) = aheadsOf l := by
    unfold cntd aheadsOf
    apply List.map_congr_left
    intro j hj
    rw [List.mem_range] at hj
    rw [if_pos (by omega)]
  have hone : ∀ k, k < (l.length + 63) / 64 → ∃ x O R R2 : Nat, (wordsOf l)[k]? = some x ∧ x < 18446744073709551616 ∧ R2 = R + O ∧ O ≤ 64 ∧ R ≤ 100000 ∧ (cntd l ((l.length + 63) / 64) k)[k]? = some R ∧ (cntd l ((l.length + 63) / 64) k).set (k + 1) R2 = cntd l ((l.length + 63) / 64) (k + 1) ∧
      Hid (∀ w, Calls Try.prog 143 #[.int .u64 x] w fun e w' => e = .returned (.int .i64 (O : Nat)) ∧ w' = w) := by
    intro k hk
    refine ⟨_, ones 64 (wordL ((l.drop (64 * k)).take 64)), rank1 l (64 * k), rank1 l (64 * (k + 1)), ?_, wordL_take_lt l k, rank1_next l k, ones_le _ _, ?_, ?_, cntd_next l _ k hk, Lib.hid (fun w => ones_count _ (wordL_take_lt l k) w)⟩
    · simp [wordsOf, hk]
    · have := (rank1_le l (64 * k)).2; omega
    · simp only [cntd, List.getElem?_map, List.getElem?_range (show k < (l.length + 63) / 64 + 1 by omega)]
      simp
  obtain ⟨c0, c1, c2⟩ := h.cells
  clear c0 c2 h
  rw [hw] at c1
  generalize hQ : (l.length + 63) / 64 = Q at *
  have H0 := Lib.hid h0
  have HE := Lib.hid hend
  have H1 := Lib.hid hone
  have HW := Lib.hid hw
  have HR := Lib.hid (fun k => (rank1_le l (64 * k)).2)
  clear h0 hend hone hw hQ
  go_enter Try.func139, Try.ntmps139
  go_wp2
  go_loopw [9] (fun i wr => ∃ k : Nat, k ≤ Q ∧ i = .int .i64 k ∧ VecSt base w0 wr b b1 b2 l.length (wordsOf l) (cntd l Q k)) (fun i _ => Q - (intOf i).toNat)
  case atStart => exact ⟨0, Nat.zero_le _, rfl, H0.out⟩
  case round =>
    obtain ⟨k, hk, rfl, hst⟩ := hrel
    by_cases hlt : k < Q
    · obtain ⟨x, O, R, R2, hx, hx2, hR2, hO, hR, hck, hcn, hoc⟩ := H1.out k hlt
      obtain ⟨d0, d1, d2⟩ := hst.cells
      have hcl : (cntd l Q k).length = Q + 1 := by simp [cntd]
      rw [hcl] at d2
      have a1 := (hst.at1 k x hx).1
      have a2 := (hst.at2 k R hck).1
      obtain ⟨y, hy⟩ : ∃ y, (cntd l Q k)[k + 1]? = some y := by rw [List.getElem?_eq_getElem (by omega)]; exact ⟨_, rfl⟩
      obtain ⟨a3, a4⟩ := hst.at2 (k + 1) y hy
      have hst2 := Lib.hid (hst.drew.put2 (k + 1) R2)
      rw [hcn] at hst2
      have q1 : IntKind.i64.wrap ((k : Int) + 1) = (k : Int) + 1 := IntWalk.i64_in _ (by omega)
      have q2 : IntKind.i64.wrap ((R : Int) + (O : Nat)) = (R2 : Nat) := by rw [IntWalk.i64_in _ (by omega)]; omega
      have q3 : (k : Int) < (Q : Int) + 1 := by omega
      have q4 : (k : Int) + 1 < (Q : Int) + 1 := by omega
      have q5 : ((k : Int) + 1).toNat = k + 1 := by omega
      have q6 : (0 : Int) ≤ (k : Int) + 1 := by omega
      clear hx hcl hck hcn c1 hy hst hR2
      go_wp2
      go_still_tail 16, (by kernel_rfl)
      still_call ((hoc.out _).mono (by rintro e w' ⟨rfl, rfl⟩; exact ⟨rfl, rfl⟩))
      repeat still_step
      refine wpStill_nil ?_
      change wpList _ _ _ _ _ wr.drew
      go_wp2
      go_roundw
      case rel => exact ⟨k + 1, by omega, by go_num, hst2.out⟩
      case measure => simp [intOf]; omega
    · obtain rfl : k = Q := by omega
      rw [HE.out] at hst
      have HST := Lib.hid hst
      clear hst
      go_wp2
      go_end0
      exact ⟨⟨_, rfl⟩, HST.out⟩

theorem addr_zero (b j : Nat) : (⟨b, 0, none⟩ : Addr).add j = ⟨b, j, none⟩ := by unfold Addr.add; split <;> simp_all
theorem VecSt.vec {base : Nat} {w W : World} {b b1 b2 : Nat} {l : List Bool} (h : VecSt base w W b b1 b2 l.length (wordsOf l) (aheadsOf l)) (hn : l.length ≤ 100000) : VecR W b l := by
  have hw : (wordsOf l).length = (l.length + 63) / 64 := by simp [wordsOf]
  have ha : (aheadsOf l).length = (l.length + 63) / 64 + 1 := by simp [aheadsOf]
  refine ⟨_, _, h.head, ⟨⟨_, _, rfl, Nat.le_refl _, by omega, .inr ⟨_, rfl, fun j hj => ?_⟩⟩, .inr ⟨_, _, _, rfl, h.row1⟩⟩, ⟨⟨_, _, rfl, Nat.le_refl _, by omega, .inr ⟨_, rfl, fun j hj => ?_⟩⟩, .inr ⟨_, _, _, rfl, h.row2⟩⟩, hn⟩
  · rw [addr_zero, cell_of_block h.row1]; simp [hj]
  · rw [addr_zero, cell_of_block h.row2]; simp [hj]

/-- the words of the first bits -/
def partL (l : List Bool) (q i : Nat) : List Nat := (List.range q).map (partW l i)
theorem partL_next (l : List Bool) (q i : Nat) (h : i < l.length) (ht : l[i] = true) : (partL l q i).set (i / 64) (partW l (i + 1) (i / 64)) = partL l q (i + 1) := by
  unfold partL
  rw [map_range_set]
  apply List.map_congr_left
  intro j _
  by_cases e : j = i / 64
  · rw [if_pos e, e]
  · rw [if_neg e, partW_step l i j h, if_neg (fun h => e h.1), Nat.add_zero]
theorem partL_same (l : List Bool) (q i : Nat) (h : i < l.length) (ht : l[i] = false) : partL l q i = partL l q (i + 1) := by
  unfold partL
  apply List.map_congr_left
  intro j _
  rw [partW_step l i j h, if_neg (fun h => by rw [ht] at h; exact absurd h.2 (by decide)), Nat.add_zero]
theorem partL_zero (l : List Bool) (q : Nat) : partL l q 0 = List.replicate q 0 := by
  unfold partL
  apply List.ext_getElem
  · simp
  · intro i h1 h2; simp [partW, wordL]
theorem partL_end (l : List Bool) : partL l ((l.length + 63) / 64) l.length = wordsOf l := by
  unfold partL wordsOf
  apply List.map_congr_left
  intro j _
  unfold partW
  rw [List.take_length]

def NewPost (l : List Bool) (w : World) (e : Ending) (w' : World) : Prop := ∃ b, e = .returned (.tuple #[.pointer (some ⟨b, 0, none⟩), .int .i64 0]) ∧ w.heap.size ≤ b ∧ VecR w' b l ∧ Below w.heap.size w w'
set_option maxRecDepth 100000 in
set_option maxHeartbeats 1000000 in
theorem bits_new (v : Value) (l : List Bool) (w : World) (hl : SlR boolV w v l) (hn : l.length ≤ 100000) :
    Calls Try.prog 124 #[v] w (NewPost l w) := by
  obtain ⟨A, c, rfl, k1, k2, k3⟩ := hl.form
  have hem := Lib.hid (bits_empty l.length w hn)
  have K3 := Lib.hid k3
  clear hl k3
  obtain ⟨N, hN⟩ : ∃ N, N = l.length := ⟨_, rfl⟩
  have HN := Lib.hid hN
  rw [← hN] at hem hn k1 ⊢
  clear hN
  go_enter Try.func124, Try.ntmps124
  go_wp2_with fail
  refine hem.out.mono ?_
  rintro e w1 ⟨b, b1, b2, rfl, hst0⟩
  have HST0 := Lib.hid hst0
  clear hst0 hem
  go_wp2
  go_loopw [15] (fun i wr => ∃ k : Nat, k ≤ N ∧ i = .int .i64 k ∧ VecSt w.heap.size w wr b b1 b2 N (partL l ((N + 63) / 64) k) (List.replicate ((N + 63) / 64 + 1) 0)) (fun i _ => N - (intOf i).toNat)
  case atStart => exact ⟨0, Nat.zero_le _, rfl, by rw [partL_zero]; exact HST0.out⟩
  case round =>
    clear HST0
    obtain ⟨k, hk, rfl, hst⟩ := hrel
    by_cases hlt : k < N
    · have hlt' : k < l.length := by rw [← HN.out]; exact hlt
      obtain ⟨ad, rfl, hc⟩ := K3.out k hlt'
      have hcw : wr.cell? (ad.add k) = some (.bool l[k]) := (hst.below.cell (World.block_lt_of_cell? w _ hc)).trans hc
      clear hc
      cases ht : l[k] with
      | false =>
        rw [ht] at hcw
        rw [partL_same l _ k hlt' ht] at hst
        have HST := Lib.hid hst
        clear hst ht
        go_wp2
        go_roundw
        case rel => exact ⟨k + 1, by omega, by go_num, HST.out⟩
        case measure => simp [intOf]; omega
      | true =>
        rw [ht] at hcw
        have hpl : (partL l ((N + 63) / 64) k).length = (N + 63) / 64 := by simp [partL]
        have hor := partW_or l k hlt' ht
        have hnx := partL_next l ((N + 63) / 64) k hlt' ht
        have hpx : partW l k (k / 64) < 18446744073709551616 := by
          have h1 := partW_lt l k hlt'
          have h2 : (2 : Nat) ^ (k % 64) ≤ 2 ^ 63 := Nat.pow_le_pow_right (by decide) (by omega)
          have h3 : (2 : Nat) ^ 63 = 9223372036854775808 := by decide
          omega
        have hget : (partL l ((N + 63) / 64) k)[k / 64]? = some (partW l k (k / 64)) := by
          have h1 : k / 64 < (N + 63) / 64 := by omega
          simp [partL, h1]
        have hP : 2 ^ (k % 64) < 18446744073709551616 := by
          have h2 : (2 : Nat) ^ (k % 64) ≤ 2 ^ 63 := Nat.pow_le_pow_right (by decide) (by omega)
          have h3 : (2 : Nat) ^ 63 = 9223372036854775808 := by decide
          omega
        have e4 : IntKind.u64.wrap ((2 : Int) ^ (k % 64)) = ((2 ^ (k % 64) : Nat) : Int) := u64_wrap_nat (2 ^ (k % 64)) hP _ (by simp)
        have e6 : bits .or .u64 ((partW l k (k / 64) : Nat) : Int) ((2 ^ (k % 64) : Nat) : Int) = ((partW l k (k / 64) ||| 2 ^ (k % 64) : Nat) : Int) := bits_or_u64_nat _ _ hpx hP
        rw [hor] at e6
        have e1 : (k : Int) / 64 = ((k / 64 : Nat) : Int) := by omega
        have e3 : (k : Int).tmod 64 = ((k % 64 : Nat) : Int) := by rw [Int.tmod_eq_emod_of_nonneg (by omega)]; omega
        have hQ : k / 64 < (N + 63) / 64 := by omega
        have hQ2 : (N + 63) / 64 ≤ 1564 := by omega
        have hr64 : k % 64 < 64 := Nat.mod_lt _ (by decide)
        obtain ⟨x1, hx1⟩ : ∃ x, x = partW l k (k / 64) := ⟨_, rfl⟩
        obtain ⟨x2, hx2⟩ : ∃ x, x = partW l (k + 1) (k / 64) := ⟨_, rfl⟩
        rw [← hx1] at hget hpx e6
        rw [← hx2] at e6 hnx
        have hst2 := Lib.hid (hst.drew.put1 (k / 64) x2)
        rw [hnx] at hst2
        obtain ⟨a1, a2⟩ := hst.at1 (k / 64) x1 hget
        obtain ⟨d0, d1, d2⟩ := hst.cells
        rw [hpl] at d1
        clear hor hnx hget hpl hst hx1 hx2 d2 ht hlt'
        generalize k / 64 = Q at *
        generalize k % 64 = r at *
        generalize 2 ^ r = P at *
        generalize (N + 63) / 64 = QQ at *
        have e8 : IntKind.i64.wrap (Q : Int) = (Q : Int) := IntWalk.i64_in _ (by omega)
        go_wp2
        go_still_tail 12, (by kernel_rfl)
        change wpList _ _ _ _ _ wr.drew
        go_wp2
        go_roundw
        case rel => exact ⟨k + 1, by omega, by go_num, hst2.out⟩
        case measure => simp [intOf]; omega
    · obtain rfl : k = N := by omega
      have HST := Lib.hid hst
      clear hst hlt hk
      have hcnt : ∀ W, W = wr → Hid (Calls Try.prog 139 #[.pointer (some ⟨b, 0, none⟩)] W fun e w' => (∃ v, e = .returned v) ∧ VecR w' b l ∧ Below w.heap.size w w' ∧ w.heap.size ≤ b) := by
        rintro W rfl
        refine Lib.hid ?_
        have h := HST.out
        have hN := HN.out
        subst hN
        rw [partL_end] at h
        exact (bits_count w.heap.size w W b b1 b2 l hn h).mono fun e w' ⟨h1, h2⟩ => ⟨h1, h2.vec hn, h2.below, h2.ge.1⟩
      have hc2 := hcnt wr rfl
      clear hcnt
      go_wp2_with fail
      refine hc2.out.mono ?_
      rintro e w5 ⟨⟨v5, rfl⟩, h1, h2, h3⟩
      have H1 := Lib.hid h1
      have H2 := Lib.hid h2
      clear h1 h2 hc2
      go_wp2
      go_ret2
      exact ⟨b, rfl, h3, H1.out, H2.out⟩
end Go.Proofs.Ytinlmodkdjpocaa
