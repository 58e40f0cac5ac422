/- append of one new element onto a row of the call's own: at a plain region, in a round, at a step of a region that draws. Generic. -/
import Derived.Test.YtinlmodkdjpocaaRep
import Derived.Deep.AppendLies
import Derived.OwnWalkIn
import Derived.WalkKit
set_option linter.unusedVariables false
namespace Go.Proofs.Ytinlmodkdjpocaa
open Go.RowKit
section
variable {P : Program}

theorem run_app (W : World) (t ty base : Nat) (e : TypeId) (z : Value) (size bytes : Nat) (ht : P.underlying t = some (.slice e)) (hinfo : (P.info? e).map (fun i => (i.zero, i.size, i.bytes)) = some (some z, size, bytes))
    (hzs : z.cells.size = size) (hsz : 0 < size) (hby : 0 < bytes) (v : Value) (n : Nat) (xs : List Value) (HO : W.ownsRow base e size v n xs) (B c : Nat) (ys : Array Value) (fr : Nat × Nat) (hB : W.heap[B]? = some (.cells ys e fr))
    (hys : ys.size = size) (h1 : ∀ u ∈ ys.toList, u.oneCell' = true) (hb : (n + 1) * bytes ≤ 140737488355328) (hbase : base ≤ W.heap.size) :
    ∃ g cap w', (Builtin.append_ #[t, t] ty #[v, .slice (some ⟨B, 0, none⟩) 1 c]).run P W = .ok (.slice (some ⟨g, 0, none⟩) (n + 1) cap) w' ∧
      w'.ownsRow base e size (.slice (some ⟨g, 0, none⟩) (n + 1) cap) (n + 1) (xs ++ ys.toList) ∧ W.grownBy w' v.ownBlock ∧ (v.ownBlock = some g ∨ g = W.heap.size) ∧ base ≤ g ∧ g < w'.heap.size := by
  obtain ⟨i0, hi, hzz⟩ := Option.map_eq_some_iff.1 hinfo
  simp only [Prod.mk.injEq] at hzz
  obtain ⟨hz0, hz1, hz2⟩ := hzz
  have hlen : n + 1 ≤ 140737488355328 := Nat.le_trans (Nat.le_mul_of_pos_right _ hby) hb
  obtain ⟨g, cap, w', h2, h3, h4, h5, h6⟩ := run_append_lies (P := P) W t ty base e i0 z size bytes ht hi hz0 hz1 hz2 hzs hsz v n xs HO ⟨B, 0, none⟩ 1 c ys.toList (by simp [hys]) (World.news_of_block hB) h1 (by omega) (by unfold maxLen; omega) hb hbase W.heap.size rfl
  refine ⟨g, cap, w', h2, h3, h4, h5, ?_, h6⟩
  exact (h3.lt g rfl).1

/-- in a plain region: behind the making of the element's own block -/
theorem wp_app {ops : Array Oper} {rest : List Oper} {o : Oper} {a : Act} {Q : Exit → Act → World → Prop} {W : World} (base : Nat) (t : TypeId) (e : TypeId) (z : Value) (size bytes : Nat) (s x : Operand) (hgd : o.guard = none)
    (ho : o.op = .call { callee := .builtin .append, args := #[s, x], argTypes := #[t, t] })
    (ht : P.underlying t = some (.slice e)) (hinfo : (P.info? e).map (fun i => (i.zero, i.size, i.bytes)) = some (some z, size, bytes)) (hzs : z.cells.size = size) (hsz : 0 < size) (hby : 0 < bytes)
    (v : Value) (n : Nat) (xs : List Value) (ys : Array Value) (hs : a.eval s = v) (hx : a.eval x = .slice (some ⟨W.heap.size, 0, none⟩) 1 1) (HO : W.ownsRow base e size v n xs)
    (hys : ys.size = size) (h1 : ∀ u ∈ ys.toList, u.oneCell' = true) (hb : (n + 1) * bytes ≤ 140737488355328) (hbase : base ≤ W.heap.size)
    (h : ∀ g cap w', w'.ownsRow base e size (.slice (some ⟨g, 0, none⟩) (n + 1) cap) (n + 1) (xs ++ ys.toList) → W.grownBy w' v.ownBlock → (v.ownBlock = some g ∨ W.heap.size ≤ g) → base ≤ g → g < w'.heap.size → W.heap.size < w'.heap.size → wpList P ops Q rest (a.put o.dst (.slice (some ⟨g, 0, none⟩) (n + 1) cap)) w') :
    wpList P ops Q (o :: rest) a (W.alloc (.cells ys e)) := by
  refine wpList_plain hgd fun K hK => ?_
  obtain ⟨g, cap, w', h2, h3, h4, h5, h6, h7⟩ := run_app (P := P) (W.alloc (.cells ys e)) t o.type base e z size bytes ht hinfo hzs hsz hby v n xs (HO.alloc _) W.heap.size 1 ys (0, 0) (heap_alloc_new W _) hys h1 hb (by simp; omega)
  unfold Oper.wp execOp
  simp only [ho, resolve, invoke, builtin, Sem.run_bind, Sem.run_pure, Result.andThen_ok, List.map_toArray, List.map_cons, List.map_nil, hs, hx, h2]
  have hsz4 := h4.size
  simp only [World.size_alloc] at hsz4
  refine hK _ _ (h g cap w' h3 (World.grownBy.trans (World.grownBy_alloc W _ _) h4) (h5.imp id (fun e => by rw [e]; simp)) h6 h7 (by omega))

/-- in a round -/
theorem wp_appIn {F : Fence} {m : Nat} {ops : Array Oper} {rest : List Oper} {o : Oper} {a : Act} {Q : Exit → Act → World → Prop} {W : World} (base : Nat) (t : TypeId) (e : TypeId) (z : Value) (size bytes : Nat) (s x : Operand) (hgd : o.guard = none)
    (ho : o.op = .call { callee := .builtin .append, args := #[s, x], argTypes := #[t, t] })
    (ht : P.underlying t = some (.slice e)) (hinfo : (P.info? e).map (fun i => (i.zero, i.size, i.bytes)) = some (some z, size, bytes)) (hzs : z.cells.size = size) (hsz : 0 < size) (hby : 0 < bytes)
    (v : Value) (n : Nat) (xs : List Value) (ys : Array Value) (hs : a.eval s = v) (hx : a.eval x = .slice (some ⟨W.heap.size, 0, none⟩) 1 1) (HO : W.ownsRow base e size v n xs)
    (hys : ys.size = size) (h1 : ∀ u ∈ ys.toList, u.oneCell' = true) (hb : (n + 1) * bytes ≤ 140737488355328) (hbase : base ≤ W.heap.size)
    (h : ∀ g cap w', w'.ownsRow base e size (.slice (some ⟨g, 0, none⟩) (n + 1) cap) (n + 1) (xs ++ ys.toList) → W.grownBy w' v.ownBlock → (v.ownBlock = some g ∨ W.heap.size ≤ g) → base ≤ g → g < w'.heap.size → W.heap.size < w'.heap.size → wpListIn F m P ops Q rest (a.put o.dst (.slice (some ⟨g, 0, none⟩) (n + 1) cap)) w') :
    wpListIn F m P ops Q (o :: rest) a (W.alloc (.cells ys e)) := by
  refine wpListIn_plain hgd fun K hK => ?_
  obtain ⟨g, cap, w', h2, h3, h4, h5, h6, h7⟩ := run_app (P := P) (W.alloc (.cells ys e)) t o.type base e z size bytes ht hinfo hzs hsz hby v n xs (HO.alloc _) W.heap.size 1 ys (0, 0) (heap_alloc_new W _) hys h1 hb (by simp; omega)
  unfold Oper.wpIn
  refine ⟨?_, ?_⟩
  · simp [Oper.about, ho, resolve, Target.leads, Sem.run_pure]
  · rw [Oper.semAt_plain F _ _ (by rw [ho]; intro c hc'; cases hc')]
    simp only [execOp, ho, resolve, invoke, builtin, Sem.run_bind, Sem.run_pure, Result.andThen_ok, List.map_toArray, List.map_cons, List.map_nil, hs, hx, h2]
    have hsz4 := h4.size
    simp only [World.size_alloc] at hsz4
    exact hK _ _ (h g cap w' h3 (World.grownBy.trans (World.grownBy_alloc W _ _) h4) (h5.imp id (fun e => by rw [e]; simp)) h6 h7 (by omega))

/-- at a step of a region that draws -/
theorem step_app {ops : Array Oper} {o : Oper} {a : Act} {K : Act → World → Prop} {Q : Exit → Act → World → Prop} {E : Prop} {W : World} (base : Nat) (t : TypeId) (e : TypeId) (z : Value) (size bytes : Nat) (s x : Operand) (hgd : o.guard = none)
    (ho : o.op = .call { callee := .builtin .append, args := #[s, x], argTypes := #[t, t] })
    (ht : P.underlying t = some (.slice e)) (hinfo : (P.info? e).map (fun i => (i.zero, i.size, i.bytes)) = some (some z, size, bytes)) (hzs : z.cells.size = size) (hsz : 0 < size) (hby : 0 < bytes)
    (v : Value) (n : Nat) (xs : List Value) (B c : Nat) (ys : Array Value) (fr : Nat × Nat) (hs : a.eval s = v) (hx : a.eval x = .slice (some ⟨B, 0, none⟩) 1 c) (HO : W.ownsRow base e size v n xs) (hB : W.heap[B]? = some (.cells ys e fr))
    (hys : ys.size = size) (h1 : ∀ u ∈ ys.toList, u.oneCell' = true) (hb : (n + 1) * bytes ≤ 140737488355328) (hbase : base ≤ W.heap.size)
    (h : ∀ g cap w', w'.ownsRow base e size (.slice (some ⟨g, 0, none⟩) (n + 1) cap) (n + 1) (xs ++ ys.toList) → W.grownBy w' v.ownBlock → (v.ownBlock = some g ∨ W.heap.size ≤ g) → base ≤ g → g < w'.heap.size → K (a.put o.dst (.slice (some ⟨g, 0, none⟩) (n + 1) cap)) w') :
    if Region.wanted o (yielded ops a.tmps) = true then Oper.wp P o a W K Q else E := by
  have hw : Region.wanted o (yielded ops a.tmps) = true := by simp [Region.wanted, hgd]
  rw [if_pos hw]
  obtain ⟨g, cap, w', h2, h3, h4, h5, h6, h7⟩ := run_app (P := P) W t o.type base e z size bytes ht hinfo hzs hsz hby v n xs HO B c ys fr hB hys h1 hb hbase
  unfold Oper.wp execOp
  simp only [ho, resolve, invoke, builtin, Sem.run_bind, Sem.run_pure, Result.andThen_ok, List.map_toArray, List.map_cons, List.map_nil, hs, hx, h2]
  exact h g cap w' h3 h4 (h5.imp id (fun e => by rw [e]; exact Nat.le_refl _)) h6 h7
end

/-- rows of two element types are two blocks -/
theorem own_ne {w : World} {b b' : Nat} {e e' : TypeId} {s s' n n' : Nat} {v v' : Value} {xs xs' : List Value} (h : w.ownsRow b e s v n xs) (h' : w.ownsRow b' e' s' v' n' xs') (hne : e ≠ e') : v.ownBlock = none ∨ v.ownBlock ≠ v'.ownBlock := by
  rcases h.2 with ⟨rfl, _⟩ | ⟨g, cap, cur, rfl, _, hh, _⟩
  · exact .inl rfl
  · refine .inr fun hk => ?_
    rcases h'.2 with ⟨rfl, _⟩ | ⟨g', cap', cur', rfl, _, hh', _⟩
    · simp [Value.ownBlock] at hk
    · have : g = g' := by simpa [Value.ownBlock] using hk
      subst this
      rw [hh] at hh'
      injection hh' with hh'
      injection hh' with _ ht
      exact hne ht
/-- a block of another element type is no row's -/
theorem own_ne_block {w : World} {b : Nat} {e e' : TypeId} {s n : Nat} {v : Value} {xs : List Value} (h : w.ownsRow b e s v n xs) {k : Nat} {cur : Array Value} {fr : Nat × Nat} (hk : w.heap[k]? = some (.cells cur e' fr)) (hne : e ≠ e') : v.ownBlock ≠ some k := by
  intro hv
  rcases h.2 with ⟨rfl, _⟩ | ⟨g, cap, cur', rfl, _, hh, _⟩
  · simp [Value.ownBlock] at hv
  · have : g = k := by simpa [Value.ownBlock] using hv
    subst this
    rw [hh] at hk
    injection hk with hk
    injection hk with _ ht
    exact hne ht

/-- A slice value that reads as xs and lies in a block of element type T. -/
def SlT {α : Type} (T : TypeId) (enc : α → Value) (w : World) (v : Value) (xs : List α) : Prop :=
  SlR enc w v xs ∧ (xs = [] ∨ ∃ b cur fr, v.ownBlock = some b ∧ w.heap[b]? = some (.cells cur T fr))
theorem SlT.kept {α : Type} {T : TypeId} {enc : α → Value} {w w' : World} {v : Value} {xs : List α} (h : SlT T enc w v xs) {row : Option Nat} (hg : w.grownBy w' row) (hr : ∀ k cur fr, row = some k → w.heap[k]? = some (.cells cur T fr) → False) : SlT T enc w' v xs := by
  obtain ⟨⟨A, c, rfl, h1, h2, h3⟩, h4⟩ := h
  rcases h4 with h4 | ⟨b, cur, fr, hb, hh⟩
  · exact ⟨⟨A, c, rfl, h1, h2, .inl h4⟩, .inl h4⟩
  · have hkeep : w'.heap[b]? = w.heap[b]? := hg.block b (Array.getElem?_eq_some_iff.1 hh).1 (fun e => hr b cur fr e.symm hh)
    refine ⟨⟨A, c, rfl, h1, h2, h3.imp id ?_⟩, .inr ⟨b, cur, fr, hb, hkeep.trans hh⟩⟩
    rintro ⟨ad, rfl, hc⟩
    have : ad.block = b := by simpa [Value.ownBlock] using hb
    refine ⟨ad, rfl, fun j hj => ?_⟩
    rw [← hc j hj]
    refine World.cell?_of_block (w := w) ?_
    have e : (ad.add j).block = b := by rw [← this]; unfold Addr.add; split <;> rfl
    rw [e]; exact hkeep
theorem SlT.below {α : Type} {T : TypeId} {enc : α → Value} {w w' : World} {v : Value} {xs : List α} (h : SlT T enc w v xs) (hb : Below w.heap.size w w') : SlT T enc w' v xs :=
  h.kept (row := none) ⟨hb.os, hb.tape, hb.output, hb.size, fun i hi _ => hb.block i hi⟩ (fun k _ _ e => by cases e)
theorem SlT.setCell {α : Type} {T : TypeId} {enc : α → Value} {w : World} {v : Value} {xs : List α} (h : SlT T enc w v xs) (a : Addr) (u : Value) (hr : ∀ cur fr, w.heap[a.block]? = some (.cells cur T fr) → False) : SlT T enc (w.setCell a u) v xs :=
  h.kept (row := some a.block) ⟨rfl, rfl, rfl, by simp [World.setCell], fun k hk hne => Below.heap_setCell _ _ _ _ (fun e => hne (by rw [e]))⟩ (fun k cur fr e hh => by cases e; exact hr cur fr hh)
theorem SlT.of_own {α : Type} {T : TypeId} {enc : α → Value} {w : World} {base n : Nat} {v : Value} {xs : List α} (h : w.ownsRow base T 1 v n (xs.map enc)) : SlT T enc w v xs := by
  refine ⟨SlR.of_own h, ?_⟩
  rcases h.2 with ⟨rfl, h0⟩ | ⟨g, cap, cur, rfl, _, hh, _⟩
  · left
    have := h.1
    simp at this
    exact List.eq_nil_of_length_eq_zero (by omega)
  · exact .inr ⟨g, cur, (0, 0), rfl, hh⟩
theorem SlT.clip {α : Type} {T : TypeId} {enc : α → Value} {w : World} {A : Option Addr} {n c : Nat} {xs : List α} (h : SlT T enc w (.slice A n c) xs) : SlT T enc w (.slice A n n) xs :=
  ⟨h.1.clip, by have := h.2; cases A <;> exact this⟩

theorem below_undrew {w w' : World} (h : Below w.drew.heap.size w.drew w') : Below w.heap.size w w' := ⟨h.os, h.tape, h.output, h.size, h.block⟩
theorem heap_setCell_same {W : World} {b i : Nat} {cs : Array Value} {T : TypeId} {fr : Nat × Nat} (h : W.heap[b]? = some (.cells cs T fr)) (u : Value) : (W.setCell ⟨b, i, none⟩ u).heap[b]? = some (.cells (cs.setIfInBounds i u) T fr) := by
  obtain ⟨hlt, he⟩ := Array.getElem?_eq_some_iff.1 h
  simp only [World.setCell, Array.getElem?_modify, if_true, Option.isSome_none, Bool.false_eq_true, if_false]
  rw [h]; rfl
theorem cell_of_block {W : World} {b i : Nat} {cs : Array Value} {T : TypeId} {fr : Nat × Nat} (h : W.heap[b]? = some (.cells cs T fr)) : W.cell? ⟨b, i, none⟩ = cs[i]? := by simp [World.cell?, h]
theorem free_of_block {W : World} {b i : Nat} {cs : Array Value} {T : TypeId} (h : W.heap[b]? = some (.cells cs T (0, 0))) : W.frozen? ⟨b, i, none⟩ = false := by simp [World.frozen?, h]
theorem grown_block {W W2 : World} {row : Option Nat} (hg : W.grownBy W2 row) {b : Nat} {o : Obj} (h : W.heap[b]? = some o) (hne : row ≠ some b) : W2.heap[b]? = some o :=
  (hg.block b (Array.getElem?_eq_some_iff.1 h).1 (fun e => hne e.symm)).trans h
end Go.Proofs.Ytinlmodkdjpocaa
