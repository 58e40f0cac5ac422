/- How values read in memory: slices of one-cell elements, of bytes, of slices of bytes. Generic: no program is named. A range over a function: an iterator's contract with a frame of its own, and the law of the loop. Generic: no program is named. append of one new element onto a row of the call's own: at a plain region, in a round, at a step of a region that draws. Generic. Captured variables that hold rows of the call's own: what a loop over an iterator collects. Generic: no program is named. A map from numbers to pairs of numbers: how it reads in memory. Generic: no program is named. -/
import Derived.WalkKit
import Derived.Deep.Draws
import Derived.RangeFuncNested
import Derived.RangeFuncLeaves
import Derived.OwnWalkIn
import Derived.TacticsInMore
import Derived.LoopNIn
import Derived.LoopIn
import Derived.Deep.AppendLies
import Derived.Maps.OwnIn
set_option linter.unusedVariables false
namespace Go.Proofs.Ytinlmodkdjpocaa
open Go.RowKit

/-- A slice value that reads as the list xs, an element being the one cell 'enc x'. -/
def SlR {α : Type} (enc : α → Value) (w : World) (v : Value) (xs : List α) : Prop :=
  ∃ A c, v = .slice A xs.length c ∧ xs.length ≤ c ∧ c ≤ 9223372036854775807 ∧ (xs = [] ∨ ∃ ad : Addr, A = some ad ∧ ∀ j, (h : j < xs.length) → w.cell? (ad.add j) = some (enc xs[j]))

def byV (b : UInt8) : Value := .int .u8 (b.toNat : Int)
def natV (n : Nat) : Value := .int .i64 (n : Int)
def intV (n : Int) : Value := .int .i64 n
def symV (n : Nat) : Value := .int .u16 (n : Int)
def boolV (b : Bool) : Value := .bool b
def strV (s : List UInt8) : Value := .string ⟨s.toArray⟩

section
variable {α : Type} {enc : α → Value}
theorem SlR.same {w w' : World} {v : Value} {xs : List α} (h : SlR enc w v xs) {n : Nat} (hn : w.heap.size ≤ n) (hb : ∀ b, b < n → w'.heap[b]? = w.heap[b]?) : SlR enc w' v xs := by
  obtain ⟨A, c, rfl, h1, h2, h3⟩ := h
  refine ⟨A, c, rfl, h1, h2, h3.imp id ?_⟩
  rintro ⟨ad, rfl, hc⟩
  exact ⟨ad, rfl, fun j hj => (World.cell?_of_block (w := w) (hb _ (Nat.lt_of_lt_of_le (World.block_lt_of_cell? w _ (hc j hj)) hn))).trans (hc j hj)⟩
theorem SlR.below {w w' : World} {v : Value} {xs : List α} (h : SlR enc w v xs) {n : Nat} (hn : w.heap.size ≤ n) (hb : Below n w w') : SlR enc w' v xs := h.same hn hb.block
theorem SlR.later {w w' : World} {v : Value} {xs : List α} (h : SlR enc w v xs) (hb : Below w.heap.size w w') : SlR enc w' v xs := h.below (Nat.le_refl _) hb
theorem SlR.alloc {w : World} {v : Value} {xs : List α} (h : SlR enc w v xs) (o : Obj) : SlR enc (w.alloc o) v xs := h.later ((Below.refl _ w).alloc (Nat.le_refl _) o)
theorem SlR.of_own {w : World} {base : Nat} {e : TypeId} {v : Value} {n : Nat} {xs : List α} (h : w.ownsRow base e 1 v n (xs.map enc)) : SlR enc w v xs := by
  have hl : xs.length = n := by have := h.1; simp at this; omega
  subst hl
  rcases h.2 with ⟨rfl, h0⟩ | ⟨g, cap, cur, rfl, hb, hg, hnc, hcm, hcs, htake⟩
  · exact ⟨none, 0, by rw [h0], by omega, by omega, .inl (List.eq_nil_of_length_eq_zero h0)⟩
  · refine ⟨some ⟨g, 0, none⟩, cap, rfl, hnc, hcm, .inr ⟨_, rfl, fun j hj => ?_⟩⟩
    exact h.cells (g := g) rfl j _ (by simp [hj])
/-- What a walk wants of a slice's value. -/
theorem SlR.form {w : World} {v : Value} {xs : List α} (h : SlR enc w v xs) : ∃ A c, v = .slice A xs.length c ∧ xs.length ≤ c ∧ c ≤ 9223372036854775807 ∧ ∀ j, (hj : j < xs.length) → ∃ ad, A = some ad ∧ w.cell? (ad.add j) = some (enc xs[j]) := by
  obtain ⟨A, c, rfl, h1, h2, h3⟩ := h
  refine ⟨A, c, rfl, h1, h2, fun j hj => ?_⟩
  rcases h3 with h3 | ⟨ad, rfl, hc⟩
  · subst h3; exact absurd hj (Nat.not_lt_zero _)
  · exact ⟨ad, rfl, hc j hj⟩
theorem SlR.at_ {w : World} {A : Option Addr} {n c : Nat} {xs : List α} (h : SlR enc w (.slice A n c) xs) (j : Nat) (hj : j < xs.length) : ∃ ad, A = some ad ∧ w.cell? (ad.add j) = some (enc xs[j]) := by
  obtain ⟨A', c', he, h1, h2, h3⟩ := h
  injection he with e1 e2 e3
  subst e1; subst e2; subst e3
  rcases h3 with h3 | ⟨ad, rfl, hc⟩
  · subst h3; exact absurd hj (Nat.not_lt_zero _)
  · exact ⟨ad, rfl, hc j hj⟩
/-- What a law on append wants of a source. -/
theorem SlR.src {w : World} {A : Option Addr} {n c : Nat} {xs : List α} (h : SlR enc w (.slice A n c) xs) : xs.length = n ∧ (A = none → n = 0) ∧ ∀ ad, A = some ad → ∀ j u, (xs.map enc)[j]? = some u → w.cell? (ad.add j) = some u := by
  obtain ⟨A', c', he, h1, h2, h3⟩ := h
  injection he with e1 e2 e3
  subst e1; subst e2; subst e3
  refine ⟨rfl, fun e => ?_, fun ad e j u hu => ?_⟩
  · rcases h3 with h3 | ⟨ad, h3, _⟩
    · rw [h3]; rfl
    · rw [e] at h3; cases h3
  · rcases h3 with h3 | ⟨ad', h3, hc⟩
    · rw [h3] at hu; simp at hu
    · rw [e] at h3; cases h3
      simp only [List.getElem?_map, Option.map_eq_some_iff] at hu
      obtain ⟨x, hx, rfl⟩ := hu
      obtain ⟨hlt, rfl⟩ := List.getElem?_eq_some_iff.1 hx
      exact hc j hlt
theorem SlR.nil (w : World) : SlR enc w (.slice none 0 0) [] := ⟨none, 0, rfl, Nat.le_refl _, by omega, .inl rfl⟩
theorem SlR.clip {w : World} {A : Option Addr} {n c : Nat} {xs : List α} (h : SlR enc w (.slice A n c) xs) : SlR enc w (.slice A n n) xs := by
  obtain ⟨A', c', he, h1, h2, h3⟩ := h
  injection he with e1 e2 e3
  subst e1; subst e2; subst e3
  exact ⟨_, _, rfl, Nat.le_refl _, by omega, h3⟩
end

/-- A list of byte strings, in memory. -/
def DocsR (w : World) (v : Value) (ds : List (List UInt8)) : Prop :=
  ∃ vs : List Value, vs.length = ds.length ∧ SlR id w v vs ∧ ∀ j (h : j < vs.length) (h' : j < ds.length), SlR byV w vs[j] ds[j]
theorem DocsR.same {w w' : World} {v : Value} {ds : List (List UInt8)} (h : DocsR w v ds) {n : Nat} (hn : w.heap.size ≤ n) (hb : ∀ b, b < n → w'.heap[b]? = w.heap[b]?) : DocsR w' v ds := by
  obtain ⟨vs, h1, h2, h3⟩ := h
  exact ⟨vs, h1, h2.same hn hb, fun j h h' => (h3 j h h').same hn hb⟩
theorem DocsR.below {w w' : World} {v : Value} {ds : List (List UInt8)} (h : DocsR w v ds) {n : Nat} (hn : w.heap.size ≤ n) (hb : Below n w w') : DocsR w' v ds := by
  obtain ⟨vs, h1, h2, h3⟩ := h
  exact ⟨vs, h1, h2.below hn hb, fun j h h' => (h3 j h h').below hn hb⟩
theorem DocsR.form {w : World} {v : Value} {ds : List (List UInt8)} (h : DocsR w v ds) : ∃ A c, v = .slice A ds.length c ∧ ds.length ≤ c ∧ c ≤ 9223372036854775807 ∧ ∀ j, (hj : j < ds.length) → ∃ ad B c', A = some ad ∧ w.cell? (ad.add j) = some (.slice B ds[j].length c') ∧ SlR byV w (.slice B ds[j].length c') ds[j] := by
  obtain ⟨vs, hl, h2, h3⟩ := h
  obtain ⟨A, c, rfl, h4, h5, h6⟩ := h2.form
  rw [hl] at h4 ⊢
  refine ⟨A, c, rfl, h4, h5, fun j hj => ?_⟩
  obtain ⟨ad, e, hc⟩ := h6 j (by omega)
  have h7 := h3 j (by omega) hj
  obtain ⟨B, c', he, h8⟩ := h7
  rw [show vs[j] = Value.slice B ds[j].length c' from he] at hc
  exact ⟨ad, B, c', e, hc, B, c', rfl, h8⟩

theorem DocsR.at_ {w : World} {A : Option Addr} {n c : Nat} {ds : List (List UInt8)} (h : DocsR w (.slice A n c) ds) (j : Nat) (hj : j < ds.length) : ∃ ad B c', A = some ad ∧ w.cell? (ad.add j) = some (.slice B ds[j].length c') ∧ SlR byV w (.slice B ds[j].length c') ds[j] := by
  obtain ⟨A', c'', he, h1, h2, h3⟩ := h.form
  injection he with e1 e2 e3
  subst e1; subst e2; subst e3
  exact h3 j hj
/-- 's[a:]' -/
theorem addr_add_add (ad : Addr) (i j : Nat) : (ad.add i).add j = ad.add (i + j) := by
  unfold Addr.add
  by_cases hi : i = 0 <;> by_cases hj : j = 0 <;> simp [hi, hj]
  omega
theorem SlR.drop {α : Type} {enc : α → Value} {w : World} {ad : Addr} {n c : Nat} {xs : List α} (h : SlR enc w (.slice (some ad) n c) xs) (a : Nat) (ha : a ≤ n) : SlR enc w (.slice (some (ad.add a)) (n - a) (c - a)) (xs.drop a) := by
  obtain ⟨A', c', he, h1, h2, h3⟩ := h
  injection he with e1 e2 e3
  subst e1; subst e2; subst e3
  refine ⟨_, _, by rw [List.length_drop], by simp; omega, by omega, ?_⟩
  rcases h3 with h3 | ⟨ad', h3, hc⟩
  · left; rw [h3]; simp
  · cases h3
    right
    refine ⟨_, rfl, fun j hj => ?_⟩
    rw [addr_add_add, hc (a + j) (by simp at hj; omega)]
    simp

/-- hits: pairs of numbers, two cells each -/
def flatH (hs : List (Nat × Nat)) : List Value := hs.flatMap fun h => [natV h.1, natV h.2]
theorem flatH_length (hs : List (Nat × Nat)) : (flatH hs).length = hs.length * 2 := by
  induction hs with
  | nil => rfl
  | cons h hs ih => simp only [flatH, List.flatMap_cons, List.length_append, List.length_cons, List.length_nil] at ih ⊢; omega
theorem flatH_snoc (hs : List (Nat × Nat)) (h : Nat × Nat) : flatH (hs ++ [h]) = flatH hs ++ [natV h.1, natV h.2] := by simp [flatH]
theorem flatH_get (hs : List (Nat × Nat)) (j : Nat) (hj : j < hs.length) : (flatH hs)[j * 2]? = some (natV hs[j].1) ∧ (flatH hs)[j * 2 + 1]? = some (natV hs[j].2) := by
  induction hs generalizing j with
  | nil => exact absurd hj (Nat.not_lt_zero _)
  | cons h hs ih =>
    cases j with
    | zero => exact ⟨rfl, rfl⟩
    | succ j =>
      have := ih j (by simpa using hj)
      simp only [flatH, List.flatMap_cons, List.cons_append, List.nil_append] at this ⊢
      rw [show (j + 1) * 2 = j * 2 + 1 + 1 from by omega]
      simpa using this
def HitsR (w : World) (v : Value) (hs : List (Nat × Nat)) : Prop :=
  ∃ A c, v = .slice A hs.length c ∧ hs.length ≤ c ∧ c ≤ 9223372036854775807 ∧ (hs = [] ∨ ∃ ad : Addr, A = some ad ∧ ∀ j, (h : j < hs.length) → w.cell? (ad.add (j * 2)) = some (natV hs[j].1) ∧ w.cell? (ad.add (j * 2 + 1)) = some (natV hs[j].2))
theorem HitsR.same {w w' : World} {v : Value} {hs : List (Nat × Nat)} (h : HitsR w v hs) {n : Nat} (hn : w.heap.size ≤ n) (hb : ∀ b, b < n → w'.heap[b]? = w.heap[b]?) : HitsR w' v hs := by
  obtain ⟨A, c, rfl, h1, h2, h3⟩ := h
  refine ⟨A, c, rfl, h1, h2, h3.imp id ?_⟩
  rintro ⟨ad, rfl, hc⟩
  exact ⟨ad, rfl, fun j hj => ⟨(World.cell?_of_block (w := w) (hb _ (Nat.lt_of_lt_of_le (World.block_lt_of_cell? w _ (hc j hj).1) hn))).trans (hc j hj).1, (World.cell?_of_block (w := w) (hb _ (Nat.lt_of_lt_of_le (World.block_lt_of_cell? w _ (hc j hj).2) hn))).trans (hc j hj).2⟩⟩
theorem HitsR.later {w w' : World} {v : Value} {hs : List (Nat × Nat)} (h : HitsR w v hs) (hb : Below w.heap.size w w') : HitsR w' v hs := h.same (Nat.le_refl _) hb.block
theorem HitsR.of_own {w : World} {base : Nat} {e : TypeId} {v : Value} {n : Nat} {hs : List (Nat × Nat)} (h : w.ownsRow base e 2 v n (flatH hs)) : HitsR w v hs := by
  have hl : hs.length = n := by have := h.1; rw [flatH_length] at this; omega
  subst hl
  rcases h.2 with ⟨rfl, h0⟩ | ⟨g, cap, cur, rfl, hb, hg, hnc, hcm, hcs, htake⟩
  · exact ⟨none, 0, by rw [h0], by omega, by omega, .inl (List.eq_nil_of_length_eq_zero h0)⟩
  · refine ⟨some ⟨g, 0, none⟩, cap, rfl, hnc, hcm, .inr ⟨_, rfl, fun j hj => ?_⟩⟩
    obtain ⟨h1, h2⟩ := flatH_get hs j hj
    exact ⟨h.cells (g := g) rfl _ _ h1, h.cells (g := g) rfl _ _ h2⟩
theorem HitsR.at_ {w : World} {A : Option Addr} {n c : Nat} {hs : List (Nat × Nat)} (h : HitsR w (.slice A n c) hs) (j : Nat) (hj : j < hs.length) : ∃ ad, A = some ad ∧ w.cell? (ad.add (j * 2)) = some (natV hs[j].1) ∧ w.cell? (ad.add (j * 2 + 1)) = some (natV hs[j].2) := by
  obtain ⟨A', c', he, h1, h2, h3⟩ := h
  injection he with e1 e2 e3
  subst e1; subst e2; subst e3
  rcases h3 with h3 | ⟨ad, rfl, hc⟩
  · subst h3; exact absurd hj (Nat.not_lt_zero _)
  · exact ⟨ad, rfl, hc j hj⟩

theorem oneCell_map {α : Type} {enc : α → Value} (he : ∀ x, (enc x).oneCell' = true) (xs : List α) : ∀ u ∈ xs.map enc, u.oneCell' = true := by
  intro u hu
  simp only [List.mem_map] at hu
  obtain ⟨b, _, rfl⟩ := hu
  exact he b
end Go.Proofs.Ytinlmodkdjpocaa

set_option linter.unusedVariables false
namespace Go.Proofs.Ytinlmodkdjpocaa
open Go.RowKit

/-- Of what W holds, whatever lies off M is in W' as it was. -/
structure Fr (M : Nat → Prop) (W W' : World) : Prop where
  os : W'.os = W.os
  tape : W'.tape = W.tape
  output : W'.output = W.output
  size : W.heap.size ≤ W'.heap.size
  block : ∀ b, b < W.heap.size → ¬ M b → W'.heap[b]? = W.heap[b]?

theorem Fr.refl (M : Nat → Prop) (W : World) : Fr M W W := ⟨rfl, rfl, rfl, Nat.le_refl _, fun _ _ _ => rfl⟩
theorem Fr.mono {M M' : Nat → Prop} {W W' : World} (h : Fr M W W') (hm : ∀ b, b < W.heap.size → M b → M' b) : Fr M' W W' :=
  ⟨h.os, h.tape, h.output, h.size, fun b hb hn => h.block b hb (fun hm' => hn (hm b hb hm'))⟩
theorem Fr.trans {M : Nat → Prop} {A B C : World} (h : Fr M A B) (k : Fr M B C) : Fr M A C :=
  ⟨k.os.trans h.os, k.tape.trans h.tape, k.output.trans h.output, Nat.le_trans h.size k.size,
   fun b hb hn => (k.block b (Nat.lt_of_lt_of_le hb h.size) hn).trans (h.block b hb hn)⟩
/-- the second step may also touch what is new -/
theorem Fr.trans' {M M2 : Nat → Prop} {A B C : World} (h : Fr M A B) (k : Fr M2 B C) (hm : ∀ b, b < A.heap.size → M2 b → M b) : Fr M A C :=
  ⟨k.os.trans h.os, k.tape.trans h.tape, k.output.trans h.output, Nat.le_trans h.size k.size,
   fun b hb hn => (k.block b (Nat.lt_of_lt_of_le hb h.size) (fun h2 => hn (hm b hb h2))).trans (h.block b hb hn)⟩
theorem Fr.of_below {M : Nat → Prop} {W W' : World} (h : Below W.heap.size W W') : Fr M W W' :=
  ⟨h.os, h.tape, h.output, h.size, fun b hb _ => h.block b hb⟩
theorem Fr.below {M : Nat → Prop} {W W' : World} (h : Fr M W W') {n : Nat} (hn : n ≤ W.heap.size) (hm : ∀ b, M b → n ≤ b) : Below n W W' :=
  ⟨h.os, h.tape, h.output, h.size, fun b hb => h.block b (Nat.lt_of_lt_of_le hb hn) (fun hmb => by have := hm b hmb; omega)⟩
theorem Fr.alloc {M : Nat → Prop} {A W : World} (h : Fr M A W) (o : Obj) : Fr M A (W.alloc o) :=
  h.trans ⟨rfl, rfl, rfl, by simp, fun b hb _ => Below.heap_alloc _ _ _ hb⟩
theorem Fr.setCell {M : Nat → Prop} {A W : World} (h : Fr M A W) {p : Addr} (hp : M p.block) (v : Value) : Fr M A (W.setCell p v) :=
  h.trans ⟨rfl, rfl, rfl, by simp [World.setCell], fun b _ hn => Below.heap_setCell _ _ _ _ (fun e => hn (e ▸ hp))⟩
theorem Fr.putObj {M : Nat → Prop} {A W : World} (h : Fr M A W) {r : Nat} (hr : M r) (o : Obj) : Fr M A (W.putObj r o) :=
  h.trans ⟨rfl, rfl, rfl, by simp, fun b _ hn => World.putObj_heap_other (fun e => hn (e ▸ hr))⟩
theorem Fr.drew {M : Nat → Prop} {A W : World} (h : Fr M A W) : Fr M A W.drew := h.trans ⟨rfl, rfl, rfl, Nat.le_refl _, fun _ _ _ => rfl⟩
theorem Fr.drewN {M : Nat → Prop} {A W : World} (h : Fr M A W) (n : Nat) : Fr M A (W.drewN n) := h.trans ⟨rfl, rfl, rfl, Nat.le_refl _, fun _ _ _ => rfl⟩
theorem Fr.grown {M : Nat → Prop} {A W W' : World} {row : Option Nat} (h : Fr M A W) (hg : W.grownBy W' row) (hr : ∀ k, row = some k → k < W.heap.size → M k) : Fr M A W' :=
  h.trans ⟨hg.os, hg.tape, hg.output, hg.size, fun b hb hn => hg.block b hb (fun e => hn (hr b e.symm hb))⟩
theorem Fr.cell {M : Nat → Prop} {W W' : World} (h : Fr M W W') {p : Addr} {v : Value} (hc : W.cell? p = some v) (hp : ¬ M p.block) : W'.cell? p = some v :=
  (World.cell?_of_block (w := W) (h.block p.block (World.block_lt_of_cell? W p hc) hp)).trans hc
theorem Fr.obj {M : Nat → Prop} {W W' : World} (h : Fr M W W') {b : Nat} {o : Obj} (ho : W.heap[b]? = some o) (hb : ¬ M b) : W'.heap[b]? = some o :=
  (h.block b (Array.getElem?_eq_some_iff.1 ho).1 hb).trans ho

/-- The contract of an iterator value: N rounds, the k-th handed 'Arg k'; M: the caller's own blocks (those that the rounds may write); Rd: the blocks that the iterator leans on, as w0 holds them. -/
def IterC (P : Program) (g : Nat) (lb : Array Value) (N : Nat) (Arg : Nat → Array Value → World → Prop) (Rd : Nat → Prop) (w0 : World) : Prop :=
  ∀ (l : Nat) (M0 : Nat → Prop) (J Jx : Nat → (Nat → Prop) → World → Prop) (W : World),
    w0.heap.size ≤ W.heap.size →
    (∀ b, Rd b → b < w0.heap.size ∧ ¬ M0 b ∧ W.heap[b]? = w0.heap[b]?) →
    (∀ b, M0 b → b < W.heap.size) →
    (∀ k M A B, J k M A → Fr (fun b => W.heap.size ≤ b ∧ ¬ M b) A B → J k M B) →
    (∀ k M A B, Jx k M A → Fr (fun b => W.heap.size ≤ b ∧ ¬ M b) A B → Jx k M B) →
    (∀ k M args W1, k < N → J k M W1 → Arg k args W1 → (∀ b, M b → (M0 b ∨ W.heap.size ≤ b) ∧ b < W1.heap.size) → W.heap.size ≤ W1.heap.size →
      YieldAt Fence.wide 0 P l args W1 fun e W2 => ∃ M2 : Nat → Prop, Fr M W1 W2 ∧ (∀ b, M2 b → (M b ∨ W1.heap.size ≤ b) ∧ b < W2.heap.size) ∧
        ((e = .returned (.bool true) ∧ J (k + 1) M2 W2) ∨ (e = .returned (.bool false) ∧ Jx (k + 1) M2 W2))) →
    J 0 M0 W →
    Calls P g (#[.func (.yield l) #[] #[]] ++ lb) W fun e W2 => (∃ v, e = .returned v) ∧ ∃ M2 : Nat → Prop, W.heap.size ≤ W2.heap.size ∧ (∀ b, M2 b → (M0 b ∨ W.heap.size ≤ b) ∧ b < W2.heap.size) ∧
      (J N M2 W2 ∨ ∃ k, k ≤ N ∧ Jx k M2 W2)

/-- How a round's body may be left. -/
def bodyP (I : Nat → (Nat → Prop) → World → Prop) (Ix : Code → Nat → (Nat → Prop) → World → Prop) (k : Nat) (M : Nat → Prop) (W : World) : Exit → Act → World → Prop
  | .normal, _, W' => ∃ M2 : Nat → Prop, Fr M W W' ∧ (∀ b, M2 b → (M b ∨ W.heap.size ≤ b) ∧ b < W'.heap.size) ∧ I (k + 1) M2 W'
  | .ret, _, W' => ∃ M2 : Nat → Prop, Fr M W W' ∧ (∀ b, M2 b → (M b ∨ W.heap.size ≤ b) ∧ b < W'.heap.size) ∧ Ix .ret (k + 1) M2 W'
  | .exit id, _, W' => ∃ M2 : Nat → Prop, Fr M W W' ∧ (∀ b, M2 b → (M b ∨ W.heap.size ≤ b) ∧ b < W'.heap.size) ∧ Ix (.exit id) (k + 1) M2 W'
  | .goto t, _, W' => ∃ M2 : Nat → Prop, Fr M W W' ∧ (∀ b, M2 b → (M b ∨ W.heap.size ≤ b) ∧ b < W'.heap.size) ∧ Ix (.goto t) (k + 1) M2 W'
  | .panic _, _, _ => False
  | .outgrown, _, _ => False

theorem roundIn_wide {n m : Nat} {P : Program} {l : Nat} {f : FuncId} {tmps : Array Value} {assign body : Code} {w : World} {R : Ending → World → Prop} (h : RoundIn Fence.wide n P l f tmps assign body w R) :
    RoundIn Fence.wide m P l f tmps assign body w R := ⟨h.1, fun c cs _ => h.2 c cs (room_wide _)⟩

/-- Leaving with marks of loops that have ended: each block is shut. -/
theorem leaves_marks {P : Program} {F : Fence} {n : Nat} {fn : Func} {tmps : Array Value} {R : Ending → World → Prop} {v : Value} : ∀ (Ds : List Nat) (W : World), Ds.Nodup → (∀ D, D ∈ Ds → W.heap[D]? = some (.deferred (some []))) →
    (∀ W', (results fn tmps).run P W' = .ok v W') → (∀ W', Fr (fun b => b ∈ Ds) W W' → R (.returned v) W') → LeavesInM F n P fn tmps R (Ds.map fun D => { target := .collected D, args := #[] }) .returning W
  | [], W, _, _, hv, hR => by
    simp only [List.map_nil, LeavesInM, LeavesIn]
    exact ⟨v, hv W, hR W (Fr.refl _ _)⟩
  | D :: Ds, W, hn, hd, hv, hR => by
    have hD := hd D (List.mem_cons_self ..)
    simp only [List.map_cons, LeavesInM]
    refine ⟨by simp, .inl ⟨D, W.putObj D (.deferred none), rfl, run_takeDeferred hD, ?_⟩⟩
    rw [List.nodup_cons] at hn
    refine leaves_marks Ds _ hn.2 (fun D' hD' => ?_) hv (fun W' hW' => hR W' ?_)
    · rw [World.putObj_heap_other (fun e : D' = D => hn.1 (by rw [← e]; exact hD'))]
      exact hd D' (List.mem_cons_of_mem _ hD')
    · exact ((Fr.refl _ W).putObj (List.mem_cons_self ..) _).trans (hW'.mono (fun b _ hb => List.mem_cons_of_mem _ hb))

theorem run_equalIn_func_nil {P : Program} (w : World) (d : Nat) (t : TypeId) (fn : Fn) (f c : Array Value) {ps rs : Array TypeId} {v : Bool} (h : P.underlying t = some (.func ps rs v)) :
    (Op.equalIn (d + 1) t (.func fn f c) .nilFunc).run P w = .ok false w := by
  simp [Op.equalIn, run_underlying h]
theorem run_eql_func_nil {P : Program} (w : World) (t : TypeId) (fn : Fn) (f c : Array Value) {ps rs : Array TypeId} {v : Bool} (h : P.underlying t = some (.func ps rs v)) : (binOp .eql t (.func fn f c) .nilFunc).run P w = .ok (.bool false) w := by
  simp only [binOp]
  simp [Op.equal, Op.maxDepth, run_equalIn_func_nil w 9999 t fn f c h]
theorem roundIn_in {n m l0 : Nat} {P : Program} {l : Nat} {f : FuncId} {tmps : Array Value} {assign body : Code} {w : World} {R : Ending → World → Prop} (h : RoundIn Fence.wide n P l f tmps assign body w R) :
    RoundIn (Fence.wide.inRound l0) m P l f tmps assign body w R := ⟨h.1, fun c cs _ => h.2 c cs (room_wide _)⟩

section
variable {P : Program}

/-- The rounds of a loop, whichever way its record was laid: L the record, D the block for the rounds' deferred calls. -/
theorem rounds_core {n : Nat} {gf : Nat} {lb : Array Value} {N : Nat} {Arg : Nat → Array Value → World → Prop} {Rd : Nat → Prop} {w0 : World} (hit : IterC P gf lb N Arg Rd w0)
    {ps : Array Tmp} {assign body : Code} {a : Act} {fn : FuncId} (D L : Nat) (S : Nat → Prop) (w W1 : World)
    (rec : LoopState → Option Code → Loop) (hrec : rec = fun st pe => { state := st, pending := pe, fn, tmps := a.tmps, params := ps, assign, body, defers := D })
    (hL1 : W1.heap[L]? = some (.loop (rec .ready none))) (hLw : w.heap.size ≤ L) (h01 : w0.heap.size ≤ w.heap.size) (hb1 : Below w.heap.size w W1)
    (M0 : Nat → Prop) (hRd : ∀ b, Rd b → b < w0.heap.size ∧ ¬ M0 b ∧ w.heap[b]? = w0.heap[b]?) (hM0 : ∀ b, M0 b → b < w.heap.size)
    (hps : ∀ k args W, k < N → Arg k args W → args.size = ps.size)
    (hArg : ∀ k args W l (o o' : Loop), Arg k args W → W.heap[l]? = some (.loop o) → Arg k args (W.putObj l (.loop o')))
    (I : Nat → (Nat → Prop) → World → Prop) (Ix : Code → Nat → (Nat → Prop) → World → Prop)
    (hI : ∀ k M A B, I k M A → Fr (fun b => w.heap.size ≤ b ∧ ¬ M b) A B → I k M B)
    (hIx : ∀ c k M A B, Ix c k M A → Fr (fun b => w.heap.size ≤ b ∧ ¬ M b) A B → Ix c k M B)
    (hI0 : I 0 M0 w) (a₁ : Array Value → Act)
    (hassign : ∀ (l k : Nat) (args : Array Value) (W : World) (K : Act → World → Prop), k < N → Arg k args W → K (a₁ args) W →
      assign.wpIn (Fence.wide.inRound l) 0 P (Exit.then K (fun _ _ _ => False)) { tmps := (ps.zip args).foldl (fun t (p, v) => t.setIfInBounds p v) a.tmps, defers := [] } W)
    (hbody : ∀ (l k : Nat) (M : Nat → Prop) (args : Array Value) (W : World), k < N → I k M W → Arg k args W → w.heap.size ≤ l → l < W.heap.size → ¬ M l → (∃ r, W.heap[l]? = some (.loop r)) → (∀ b, M b → (M0 b ∨ w.heap.size ≤ b) ∧ b < W.heap.size) →
      body.wpIn (Fence.wide.inRound l) 0 P (bodyP I Ix k M W) (a₁ args) W)
    (E : Ending → World → Prop)
    (hdone : ∀ (M : Nat → Prop) (W : World), I N M W → W1.heap.size ≤ W.heap.size → (∀ b, M b → (M0 b ∨ w.heap.size ≤ b) ∧ b < W.heap.size) → (∀ d, S d → ¬ M d ∧ W.heap[d]? = W1.heap[d]?) → ¬ M L →
      W.heap[L]? = some (.loop (rec .ready none)) → ∀ v, E (.returned v) W)
    (hstop : ∀ (c : Code) (k : Nat) (M : Nat → Prop) (W : World), k ≤ N → Ix c k M W → W1.heap.size ≤ W.heap.size → (∀ b, M b → (M0 b ∨ w.heap.size ≤ b) ∧ b < W.heap.size) → (∀ d, S d → ¬ M d ∧ W.heap[d]? = W1.heap[d]?) → ¬ M L →
      W.heap[L]? = some (.loop (rec .done (some c))) → ∀ v, E (.returned v) W)
    (hS : ∀ d, S d → d ≠ L ∧ ¬ M0 d ∧ d < W1.heap.size) (hfn : Fence.wide.fn fn) :
    Calls P gf (#[.func (.yield L) #[] #[]] ++ lb) W1 E := by
  have hL0 : L < W1.heap.size := (Array.getElem?_eq_some_iff.1 hL1).1
  have hsz := hb1.size
  refine (hit L (fun b => M0 b ∨ b = L)
    (fun k M' W => ∃ M : Nat → Prop, (∀ b, M' b ↔ (M b ∨ b = L)) ∧ ¬ M L ∧ (∀ d, S d → ¬ M d ∧ W.heap[d]? = W1.heap[d]?) ∧ (∀ b, M b → M0 b ∨ w.heap.size ≤ b) ∧ I k M W ∧ W.heap[L]? = some (.loop (rec .ready none)) ∧ W1.heap.size ≤ W.heap.size)
    (fun k M' W => ∃ M : Nat → Prop, (∀ b, M' b ↔ (M b ∨ b = L)) ∧ ¬ M L ∧ (∀ d, S d → ¬ M d ∧ W.heap[d]? = W1.heap[d]?) ∧ (∀ b, M b → M0 b ∨ w.heap.size ≤ b) ∧ (∃ c, Ix c k M W ∧ W.heap[L]? = some (.loop (rec .done (some c)))) ∧ W1.heap.size ≤ W.heap.size)
    W1 (Nat.le_trans h01 hsz) ?_ ?_ ?_ ?_ ?_ ?_).mono ?_
  · intro b hb
    obtain ⟨h1, h2, h3⟩ := hRd b hb
    refine ⟨h1, ?_, (hb1.block b (by omega)).trans h3⟩
    rintro (h | h)
    · exact h2 h
    · omega
  · rintro b (h | h)
    · have := hM0 b h; omega
    · omega
  · rintro k M' A B ⟨M, hm, hml, hmd, hmo, hi, hl, hs⟩ hf
    have hf' : Fr (fun b => w.heap.size ≤ b ∧ ¬ M b) A B := hf.mono (fun b _ hb => ⟨by omega, fun h => hb.2 ((hm b).2 (.inl h))⟩)
    refine ⟨M, hm, hml, fun d hd => ⟨(hmd d hd).1, (hf.block d (by have := (hS d hd).2.2; omega) (fun h => by have := (hS d hd).2.2; omega)).trans (hmd d hd).2⟩, hmo, hI k M A B hi hf', hf.obj hl (fun h => h.2 ((hm L).2 (.inr rfl))), Nat.le_trans hs hf.size⟩
  · rintro k M' A B ⟨M, hm, hml, hmd, hmo, ⟨c, hi, hl⟩, hs⟩ hf
    have hf' : Fr (fun b => w.heap.size ≤ b ∧ ¬ M b) A B := hf.mono (fun b _ hb => ⟨by omega, fun h => hb.2 ((hm b).2 (.inl h))⟩)
    refine ⟨M, hm, hml, fun d hd => ⟨(hmd d hd).1, (hf.block d (by have := (hS d hd).2.2; omega) (fun h => by have := (hS d hd).2.2; omega)).trans (hmd d hd).2⟩, hmo, ⟨c, hIx c k M A B hi hf', hf.obj hl (fun h => h.2 ((hm L).2 (.inr rfl)))⟩, Nat.le_trans hs hf.size⟩
  · -- one round
    rintro k M' args W hk ⟨M, hm, hml, hmd, hmo, hi, hl, hs⟩ harg hM' hWW
    have hlt : L < W.heap.size := (Array.getElem?_eq_some_iff.1 hl).1
    have hy := run_yield (P := P) (args := args) hl (by rw [hrec]; exact hps k args W hk harg)
    rw [hrec] at hy
    refine ⟨fn, _, assign, body, hy, roundIn_wide (n := 0) (roundIn_of_wpIn hfn (hassign _ k args W _ hk harg ⟨_, run_beginRound hl (by rw [hrec]), ?_⟩))⟩
    have hl2 : (W.putObj L (.loop { rec .ready none with state := .busy })).heap[L]? = some (.loop { rec .ready none with state := .busy }) := World.putObj_heap_same hlt
    have hfr : Fr (fun b => w.heap.size ≤ b ∧ ¬ M b) W (W.putObj L (.loop { rec .ready none with state := .busy })) := (Fr.refl _ W).putObj ⟨hLw, hml⟩ _
    have hMW : ∀ b, M b → (M0 b ∨ w.heap.size ≤ b) ∧ b < W.heap.size := fun b hb => ⟨hmo b hb, (hM' b ((hm b).2 (.inl hb))).2⟩
    refine wpIn_mono (hbody L k M args _ hk (hI k M W _ hi hfr) (hArg k args W L _ _ harg hl) hLw (by rw [World.putObj_size]; exact hlt) hml ⟨_, hl2⟩ (by rw [World.putObj_size]; exact hMW)) ?_
    have fin : ∀ (jump : Option Code) (W3 : World) (M2 : Nat → Prop), Fr M (W.putObj L (.loop { rec .ready none with state := .busy })) W3 → (∀ b, M2 b → (M b ∨ (W.putObj L (.loop { rec .ready none with state := .busy })).heap.size ≤ b) ∧ b < W3.heap.size) →
        (Instr.endRound L jump).run P W3 = .ok (.bool jump.isNone) (W3.putObj L (.loop (rec (if jump.isNone then .ready else .done) jump))) ∧
        (W3.putObj L (.loop (rec (if jump.isNone then .ready else .done) jump))).heap[L]? = some (.loop (rec (if jump.isNone then .ready else .done) jump)) ∧
        ¬ M2 L ∧ (∀ d, S d → ¬ M2 d ∧ (W3.putObj L (.loop (rec (if jump.isNone then .ready else .done) jump))).heap[d]? = W1.heap[d]?) ∧ (∀ b, M2 b → M0 b ∨ w.heap.size ≤ b) ∧
        Fr (fun b => w.heap.size ≤ b ∧ ¬ M2 b) W3 (W3.putObj L (.loop (rec (if jump.isNone then .ready else .done) jump))) ∧
        W1.heap.size ≤ W3.heap.size ∧
        Fr M' W (W3.putObj L (.loop (rec (if jump.isNone then .ready else .done) jump))) ∧
        (∀ b, (M2 b ∨ b = L) → (M' b ∨ W.heap.size ≤ b) ∧ b < (W3.putObj L (.loop (rec (if jump.isNone then .ready else .done) jump))).heap.size) := by
      intro jump W3 M2 hf3 hm2
      have hsz3 := hf3.size
      rw [World.putObj_size] at hsz3 hm2
      have hl3 := hf3.obj hl2 hml
      have hn2 : ¬ M2 L := fun h => by rcases (hm2 L h).1 with h | h; exact hml h; omega
      have hrun := run_endRound (P := P) jump hl3
      rw [hrec] at hrun ⊢
      refine ⟨hrun, World.putObj_heap_same (by omega), hn2, fun d hd => ?_, fun b hb => ?_, (Fr.refl _ W3).putObj ⟨hLw, hn2⟩ _, by omega, ?_, ?_⟩
      · obtain ⟨hd1, hd2, hd3⟩ := hS d hd
        refine ⟨fun h => by rcases (hm2 d h).1 with h | h; exact (hmd d hd).1 h; omega, ?_⟩
        rw [World.putObj_heap_other hd1, hf3.block d (by rw [World.putObj_size]; omega) (hmd d hd).1, World.putObj_heap_other hd1]
        exact (hmd d hd).2
      · rcases (hm2 b hb).1 with h | h
        · exact hmo b h
        · exact .inr (by omega)
      · refine (((Fr.refl M' W).putObj ((hm L).2 (.inr rfl)) _).trans (hf3.mono (fun b _ hb => (hm b).2 (.inl hb)))).putObj ((hm L).2 (.inr rfl)) _
      · rw [World.putObj_size]
        rintro b (hb | rfl)
        · obtain ⟨h1, h2⟩ := hm2 b hb
          exact ⟨h1.imp (fun h => (hm b).2 (.inl h)) id, h2⟩
        · exact ⟨.inl ((hm _).2 (.inr rfl)), by omega⟩
    rintro e a3 W3 hp
    cases e with
    | normal =>
      obtain ⟨M2, hf3, hm2, hi3⟩ := hp
      obtain ⟨hr, hl4, hn2, hnd, hmo2, hfr3, hs4, hfw, hmw⟩ := fin none W3 M2 hf3 hm2
      exact ⟨_, _, hr, fun b => M2 b ∨ b = L, hfw, hmw, .inl ⟨rfl, M2, fun _ => Iff.rfl, hn2, hnd, hmo2, hI _ _ _ _ hi3 hfr3, hl4, by rw [World.putObj_size]; exact hs4⟩⟩
    | ret =>
      obtain ⟨M2, hf3, hm2, hi3⟩ := hp
      obtain ⟨hr, hl4, hn2, hnd, hmo2, hfr3, hs4, hfw, hmw⟩ := fin (some .ret) W3 M2 hf3 hm2
      exact ⟨_, _, hr, fun b => M2 b ∨ b = L, hfw, hmw, .inr ⟨rfl, M2, fun _ => Iff.rfl, hn2, hnd, hmo2, ⟨_, hIx _ _ _ _ _ hi3 hfr3, hl4⟩, by rw [World.putObj_size]; exact hs4⟩⟩
    | exit id =>
      obtain ⟨M2, hf3, hm2, hi3⟩ := hp
      obtain ⟨hr, hl4, hn2, hnd, hmo2, hfr3, hs4, hfw, hmw⟩ := fin (some (.exit id)) W3 M2 hf3 hm2
      exact ⟨_, _, hr, fun b => M2 b ∨ b = L, hfw, hmw, .inr ⟨rfl, M2, fun _ => Iff.rfl, hn2, hnd, hmo2, ⟨_, hIx _ _ _ _ _ hi3 hfr3, hl4⟩, by rw [World.putObj_size]; exact hs4⟩⟩
    | goto t =>
      obtain ⟨M2, hf3, hm2, hi3⟩ := hp
      obtain ⟨hr, hl4, hn2, hnd, hmo2, hfr3, hs4, hfw, hmw⟩ := fin (some (.goto t)) W3 M2 hf3 hm2
      exact ⟨_, _, hr, fun b => M2 b ∨ b = L, hfw, hmw, .inr ⟨rfl, M2, fun _ => Iff.rfl, hn2, hnd, hmo2, ⟨_, hIx _ _ _ _ _ hi3 hfr3, hl4⟩, by rw [World.putObj_size]; exact hs4⟩⟩
    | panic ch => exact hp.elim
    | outgrown => exact hp.elim
  · refine ⟨M0, fun _ => Iff.rfl, fun h => by have := hM0 L h; omega, fun d hd => ⟨(hS d hd).2.1, rfl⟩, fun b hb => .inl hb, ?_, hL1, Nat.le_refl _⟩
    exact hI 0 M0 w W1 hI0 (Fr.of_below hb1)
  · rintro e W2 ⟨⟨v, rfl⟩, M2, hs2, hM2, ⟨M, hm, hml, hmd, hmo, hi, hl, hs⟩ | ⟨k, hk, M, hm, hml, hmd, hmo, ⟨c, hi, hl⟩, hs⟩⟩
    · exact hdone M W2 hi hs (fun b hb => ⟨hmo b hb, (hM2 b ((hm b).2 (.inl hb))).2⟩) hmd hml hl v
    · exact hstop c k M W2 hk hi hs (fun b hb => ⟨hmo b hb, (hM2 b ((hm b).2 (.inl hb))).2⟩) hmd hml hl v

/-- THE LAW, at an outermost loop. -/
theorem wp_range_outer {n : Nat} {gf : Nat} {lb : Array Value} {N : Nat} {Arg : Nat → Array Value → World → Prop} {Rd : Nat → Prop} {w0 : World} (hit : IterC P gf lb N Arg Rd w0)
    {g : Operand} {ps : Array Tmp} {assign body : Code} {Q : Exit → Act → World → Prop} {a : Act} {w : World}
    (hg : a.eval g = .func (.func gf) #[] lb) (eg : ∀ args w, (callFunc gf args).run P w = .ok (.enter gf args) w)
    (h01 : w0.heap.size ≤ w.heap.size) (M0 : Nat → Prop) (hRd : ∀ b, Rd b → b < w0.heap.size ∧ ¬ M0 b ∧ w.heap[b]? = w0.heap[b]?) (hM0 : ∀ b, M0 b → b < w.heap.size)
    (hps : ∀ k args W, k < N → Arg k args W → args.size = ps.size)
    (hArg : ∀ k args W l (o o' : Loop), Arg k args W → W.heap[l]? = some (.loop o) → Arg k args (W.putObj l (.loop o')))
    (I : Nat → (Nat → Prop) → World → Prop) (Ix : Code → Nat → (Nat → Prop) → World → Prop)
    (hI : ∀ k M A B, I k M A → Fr (fun b => w.heap.size ≤ b ∧ ¬ M b) A B → I k M B)
    (hIx : ∀ c k M A B, Ix c k M A → Fr (fun b => w.heap.size ≤ b ∧ ¬ M b) A B → Ix c k M B)
    (hI0 : I 0 M0 w) (a₁ : Array Value → Act)
    (hassign : ∀ (l k : Nat) (args : Array Value) (W : World) (K : Act → World → Prop), k < N → Arg k args W → K (a₁ args) W →
      assign.wpIn (Fence.wide.inRound l) 0 P (Exit.then K (fun _ _ _ => False)) { tmps := (ps.zip args).foldl (fun t (p, v) => t.setIfInBounds p v) a.tmps, defers := [] } W)
    (hbody : ∀ (l k : Nat) (M : Nat → Prop) (args : Array Value) (W : World), k < N → I k M W → Arg k args W → w.heap.size ≤ l → l < W.heap.size → ¬ M l → (∃ r, W.heap[l]? = some (.loop r)) → (∀ b, M b → (M0 b ∨ w.heap.size ≤ b) ∧ b < W.heap.size) →
      body.wpIn (Fence.wide.inRound l) 0 P (bodyP I Ix k M W) (a₁ args) W)
    (hdone : ∀ (D : Nat) (M : Nat → Prop) (W : World), I N M W → w.heap.size ≤ D → ¬ M D → W.heap[D]? = some (.deferred (some [])) → (∀ b, M b → (M0 b ∨ w.heap.size ≤ b) ∧ b < W.heap.size) → Q .normal { a with defers := { target := .collected D, args := #[] } :: a.defers } W)
    (hstop : ∀ (D : Nat) (c : Code) (k : Nat) (M : Nat → Prop) (W : World), k ≤ N → Ix c k M W → w.heap.size ≤ D → ¬ M D → W.heap[D]? = some (.deferred (some [])) → (∀ b, M b → (M0 b ∨ w.heap.size ≤ b) ∧ b < W.heap.size) → c.wpIn Fence.wide n P Q { a with defers := { target := .collected D, args := #[] } :: a.defers } W) :
    (Code.rangeFunc g ps assign body).wpIn Fence.wide n P Q a w := by
  refine wpIn_rangeFunc ?_
  intro fn hfn
  obtain ⟨rec, hrec⟩ : ∃ rec : LoopState → Option Code → Loop, rec = fun st pe => { state := st, pending := pe, fn, tmps := a.tmps, params := ps, assign, body, defers := w.heap.size } := ⟨_, rfl⟩
  obtain ⟨W1, hW1⟩ : ∃ W1, (w.alloc (.deferred (some []))).alloc (.loop (rec .ready none)) = W1 := ⟨_, rfl⟩
  have hL1 : W1.heap[w.heap.size + 1]? = some (.loop (rec .ready none)) := by
    rw [← hW1]; have := World.alloc_heap_new (w.alloc (.deferred (some []))) (.loop (rec .ready none)); rwa [World.size_alloc] at this
  have hK1 : W1.heap[w.heap.size]? = some (.deferred (some [])) := by
    rw [← hW1]; exact (Below.heap_alloc _ _ _ (by simp)).trans (World.alloc_heap_new w _)
  have hb1 : Below w.heap.size w W1 := by
    rw [← hW1]; exact ((Below.refl _ w).alloc (Nat.le_refl _) _).alloc (by simp) _
  have hs1 : W1.heap.size = w.heap.size + 2 := by rw [← hW1]; simp
  refine ⟨w.heap.size + 1, [{ target := .collected w.heap.size, args := #[] }], W1, { target := .fn (.func gf) lb, args := #[.func (.yield (w.heap.size + 1)) #[] #[]] }, W1, gf,
    #[.func (.yield (w.heap.size + 1)) #[] #[]] ++ lb, W1, ?_, ?_, ?_, ?_, fun h => by simp [Fence.wide] at h, ?_⟩
  · rw [← hW1, hrec]; exact run_enterLoop_outer _ _ _ _ _
  · simp only [resolve, hg]
    simp [go_sem]
  · intro f' _; trivial
  · simp [invoke, go_sem, eg]
  · refine callsIn_wide.2 (rounds_core (n := n) hit w.heap.size (w.heap.size + 1) (fun d => d = w.heap.size) w W1 rec hrec hL1 (by omega) h01 hb1 M0 hRd hM0 hps hArg I Ix hI hIx hI0 a₁ hassign hbody _ ?_ ?_ (fun d e => by subst e; exact ⟨by omega, fun h => by have := hM0 _ h; omega, by omega⟩) hfn)
    · intro M W hi hs hM hmd hml hl v
      refine ⟨none, _, by have := run_endLoop (P := P) hl (by rw [hrec]; simp); rw [hrec] at this; exact this, ?_⟩
      refine hdone _ M _ (hI _ _ _ _ hi ((Fr.refl _ W).putObj ⟨by omega, hml⟩ _)) (Nat.le_refl _) (hmd _ rfl).1 ?_ (by rw [World.putObj_size]; exact hM)
      rw [World.putObj_heap_other (by omega), (hmd _ rfl).2]; exact hK1
    · intro c k M W hk hi hs hM hmd hml hl v
      refine ⟨some c, _, by have := run_endLoop (P := P) hl (by rw [hrec]; simp); rw [hrec] at this; exact this, ?_⟩
      refine hstop _ c k M _ hk (hIx _ _ _ _ _ hi ((Fr.refl _ W).putObj ⟨by omega, hml⟩ _)) (Nat.le_refl _) (hmd _ rfl).1 ?_ (by rw [World.putObj_size]; exact hM)
      rw [World.putObj_heap_other (by omega), (hmd _ rfl).2]; exact hK1

/-- THE LAW, at a loop within a round of loop l₀. -/
theorem wp_range_inner {n : Nat} {gf : Nat} {lb : Array Value} {N : Nat} {Arg : Nat → Array Value → World → Prop} {Rd : Nat → Prop} {w0 : World} (hit : IterC P gf lb N Arg Rd w0)
    {g : Operand} {ps : Array Tmp} {assign body : Code} {Q : Exit → Act → World → Prop} {a : Act} {w : World} {l₀ : Nat} (hl₀ : ∃ r₀, w.heap[l₀]? = some (.loop r₀))
    (hg : a.eval g = .func (.func gf) #[] lb) (eg : ∀ args w, (callFunc gf args).run P w = .ok (.enter gf args) w)
    (h01 : w0.heap.size ≤ w.heap.size) (M0 : Nat → Prop) (hRd : ∀ b, Rd b → b < w0.heap.size ∧ ¬ M0 b ∧ w.heap[b]? = w0.heap[b]?) (hM0 : ∀ b, M0 b → b < w.heap.size)
    (hps : ∀ k args W, k < N → Arg k args W → args.size = ps.size)
    (hArg : ∀ k args W l (o o' : Loop), Arg k args W → W.heap[l]? = some (.loop o) → Arg k args (W.putObj l (.loop o')))
    (I : Nat → (Nat → Prop) → World → Prop) (Ix : Code → Nat → (Nat → Prop) → World → Prop)
    (hI : ∀ k M A B, I k M A → Fr (fun b => w.heap.size ≤ b ∧ ¬ M b) A B → I k M B)
    (hIx : ∀ c k M A B, Ix c k M A → Fr (fun b => w.heap.size ≤ b ∧ ¬ M b) A B → Ix c k M B)
    (hI0 : I 0 M0 w) (a₁ : Array Value → Act)
    (hassign : ∀ (l k : Nat) (args : Array Value) (W : World) (K : Act → World → Prop), k < N → Arg k args W → K (a₁ args) W →
      assign.wpIn (Fence.wide.inRound l) 0 P (Exit.then K (fun _ _ _ => False)) { tmps := (ps.zip args).foldl (fun t (p, v) => t.setIfInBounds p v) a.tmps, defers := [] } W)
    (hbody : ∀ (l k : Nat) (M : Nat → Prop) (args : Array Value) (W : World), k < N → I k M W → Arg k args W → w.heap.size ≤ l → l < W.heap.size → ¬ M l → (∃ r, W.heap[l]? = some (.loop r)) → (∀ b, M b → (M0 b ∨ w.heap.size ≤ b) ∧ b < W.heap.size) →
      body.wpIn (Fence.wide.inRound l) 0 P (bodyP I Ix k M W) (a₁ args) W)
    (hdone : ∀ (M : Nat → Prop) (W : World), I N M W → (∀ b, M b → (M0 b ∨ w.heap.size ≤ b) ∧ b < W.heap.size) → Q .normal a W)
    (hstop : ∀ (c : Code) (k : Nat) (M : Nat → Prop) (W : World), k ≤ N → Ix c k M W → (∀ b, M b → (M0 b ∨ w.heap.size ≤ b) ∧ b < W.heap.size) → c.wpIn (Fence.wide.inRound l₀) n P Q a W) :
    (Code.rangeFunc g ps assign body).wpIn (Fence.wide.inRound l₀) n P Q a w := by
  obtain ⟨r₀, hl₀⟩ := hl₀
  refine wpIn_rangeFunc ?_
  intro fn hfn
  obtain ⟨rec, hrec⟩ : ∃ rec : LoopState → Option Code → Loop, rec = fun st pe => { state := st, pending := pe, fn, tmps := a.tmps, params := ps, assign, body, defers := r₀.defers } := ⟨_, rfl⟩
  obtain ⟨W1, hW1⟩ : ∃ W1, w.alloc (.loop (rec .ready none)) = W1 := ⟨_, rfl⟩
  have hL1 : W1.heap[w.heap.size]? = some (.loop (rec .ready none)) := by rw [← hW1]; exact World.alloc_heap_new w _
  have hb1 : Below w.heap.size w W1 := by rw [← hW1]; exact (Below.refl _ w).alloc (Nat.le_refl _) _
  have hs1 : W1.heap.size = w.heap.size + 1 := by rw [← hW1]; simp
  refine ⟨w.heap.size, [], W1, { target := .fn (.func gf) lb, args := #[.func (.yield w.heap.size) #[] #[]] }, W1, gf,
    #[.func (.yield w.heap.size) #[] #[]] ++ lb, W1, ?_, ?_, ?_, ?_, fun h => by simp [Fence.wide] at h, ?_⟩
  · rw [← hW1, hrec]; exact run_enterLoop_inner hl₀ _ _ _ _ _
  · simp only [resolve, hg]
    simp [go_sem]
  · intro f' _; trivial
  · simp [invoke, go_sem, eg]
  · refine callsIn_wide.2 (rounds_core (n := n) hit r₀.defers w.heap.size (fun _ => False) w W1 rec hrec hL1 (by omega) h01 hb1 M0 hRd hM0 hps hArg I Ix hI hIx hI0 a₁ hassign hbody _ ?_ ?_ (fun d h => h.elim) hfn)
    · intro M W hi hs hM hmd hml hl v
      refine ⟨none, _, by have := run_endLoop (P := P) hl (by rw [hrec]; simp); rw [hrec] at this; exact this, ?_⟩
      exact hdone M _ (hI _ _ _ _ hi ((Fr.refl _ W).putObj ⟨by omega, hml⟩ _)) (by rw [World.putObj_size]; exact hM)
    · intro c k M W hk hi hs hM hmd hml hl v
      refine ⟨some c, _, by have := run_endLoop (P := P) hl (by rw [hrec]; simp); rw [hrec] at this; exact this, ?_⟩
      exact hstop c k M _ hk (hIx _ _ _ _ _ hi ((Fr.refl _ W).putObj ⟨by omega, hml⟩ _)) (by rw [World.putObj_size]; exact hM)
end
end Go.Proofs.Ytinlmodkdjpocaa

set_option linter.unusedVariables false
namespace Go.Proofs.Ytinlmodkdjpocaa
open Go.RowKit
section
variable {P : Program}

theorem run_app (W : World) (t ty base : Nat) (e : TypeId) (z : Value) (size bytes : Nat) (ht : P.underlying t = some (.slice e)) (hinfo : (P.info? e).map (fun i => (i.zero, i.size, i.bytes)) = some (some z, size, bytes))
    (hzs : z.cells.size = size) (hsz : 0 < size) (hby : 0 < bytes) (v : Value) (n : Nat) (xs : List Value) (HO : W.ownsRow base e size v n xs) (B c : Nat) (ys : Array Value) (fr : Nat × Nat) (hB : W.heap[B]? = some (.cells ys e fr))
    (hys : ys.size = size) (h1 : ∀ u ∈ ys.toList, u.oneCell' = true) (hb : (n + 1) * bytes ≤ 140737488355328) (hbase : base ≤ W.heap.size) :
    ∃ g cap w', (Builtin.append_ #[t, t] ty #[v, .slice (some ⟨B, 0, none⟩) 1 c]).run P W = .ok (.slice (some ⟨g, 0, none⟩) (n + 1) cap) w' ∧
      w'.ownsRow base e size (.slice (some ⟨g, 0, none⟩) (n + 1) cap) (n + 1) (xs ++ ys.toList) ∧ W.grownBy w' v.ownBlock ∧ (v.ownBlock = some g ∨ g = W.heap.size) ∧ base ≤ g ∧ g < w'.heap.size := by
  obtain ⟨i0, hi, hzz⟩ := Option.map_eq_some_iff.1 hinfo
  simp only [Prod.mk.injEq] at hzz
  obtain ⟨hz0, hz1, hz2⟩ := hzz
  have hlen : n + 1 ≤ 140737488355328 := Nat.le_trans (Nat.le_mul_of_pos_right _ hby) hb
  obtain ⟨g, cap, w', h2, h3, h4, h5, h6⟩ := run_append_lies (P := P) W t ty base e i0 z size bytes ht hi hz0 hz1 hz2 hzs hsz v n xs HO ⟨B, 0, none⟩ 1 c ys.toList (by simp [hys]) (World.news_of_block hB) h1 (by omega) (by unfold maxLen; omega) hb hbase W.heap.size rfl
  refine ⟨g, cap, w', h2, h3, h4, h5, ?_, h6⟩
  exact (h3.lt g rfl).1

/-- in a plain region: behind the making of the element's own block -/
theorem wp_app {ops : Array Oper} {rest : List Oper} {o : Oper} {a : Act} {Q : Exit → Act → World → Prop} {W : World} (base : Nat) (t : TypeId) (e : TypeId) (z : Value) (size bytes : Nat) (s x : Operand) (hgd : o.guard = none)
    (ho : o.op = .call { callee := .builtin .append, args := #[s, x], argTypes := #[t, t] })
    (ht : P.underlying t = some (.slice e)) (hinfo : (P.info? e).map (fun i => (i.zero, i.size, i.bytes)) = some (some z, size, bytes)) (hzs : z.cells.size = size) (hsz : 0 < size) (hby : 0 < bytes)
    (v : Value) (n : Nat) (xs : List Value) (ys : Array Value) (hs : a.eval s = v) (hx : a.eval x = .slice (some ⟨W.heap.size, 0, none⟩) 1 1) (HO : W.ownsRow base e size v n xs)
    (hys : ys.size = size) (h1 : ∀ u ∈ ys.toList, u.oneCell' = true) (hb : (n + 1) * bytes ≤ 140737488355328) (hbase : base ≤ W.heap.size)
    (h : ∀ g cap w', w'.ownsRow base e size (.slice (some ⟨g, 0, none⟩) (n + 1) cap) (n + 1) (xs ++ ys.toList) → W.grownBy w' v.ownBlock → (v.ownBlock = some g ∨ W.heap.size ≤ g) → base ≤ g → g < w'.heap.size → W.heap.size < w'.heap.size → wpList P ops Q rest (a.put o.dst (.slice (some ⟨g, 0, none⟩) (n + 1) cap)) w') :
    wpList P ops Q (o :: rest) a (W.alloc (.cells ys e)) := by
  refine wpList_plain hgd fun K hK => ?_
  obtain ⟨g, cap, w', h2, h3, h4, h5, h6, h7⟩ := run_app (P := P) (W.alloc (.cells ys e)) t o.type base e z size bytes ht hinfo hzs hsz hby v n xs (HO.alloc _) W.heap.size 1 ys (0, 0) (heap_alloc_new W _) hys h1 hb (by simp; omega)
  unfold Oper.wp execOp
  simp only [ho, resolve, invoke, builtin, Sem.run_bind, Sem.run_pure, Result.andThen_ok, List.map_toArray, List.map_cons, List.map_nil, hs, hx, h2]
  have hsz4 := h4.size
  simp only [World.size_alloc] at hsz4
  refine hK _ _ (h g cap w' h3 (World.grownBy.trans (World.grownBy_alloc W _ _) h4) (h5.imp id (fun e => by rw [e]; simp)) h6 h7 (by omega))

/-- in a round -/
theorem wp_appIn {F : Fence} {m : Nat} {ops : Array Oper} {rest : List Oper} {o : Oper} {a : Act} {Q : Exit → Act → World → Prop} {W : World} (base : Nat) (t : TypeId) (e : TypeId) (z : Value) (size bytes : Nat) (s x : Operand) (hgd : o.guard = none)
    (ho : o.op = .call { callee := .builtin .append, args := #[s, x], argTypes := #[t, t] })
    (ht : P.underlying t = some (.slice e)) (hinfo : (P.info? e).map (fun i => (i.zero, i.size, i.bytes)) = some (some z, size, bytes)) (hzs : z.cells.size = size) (hsz : 0 < size) (hby : 0 < bytes)
    (v : Value) (n : Nat) (xs : List Value) (ys : Array Value) (hs : a.eval s = v) (hx : a.eval x = .slice (some ⟨W.heap.size, 0, none⟩) 1 1) (HO : W.ownsRow base e size v n xs)
    (hys : ys.size = size) (h1 : ∀ u ∈ ys.toList, u.oneCell' = true) (hb : (n + 1) * bytes ≤ 140737488355328) (hbase : base ≤ W.heap.size)
    (h : ∀ g cap w', w'.ownsRow base e size (.slice (some ⟨g, 0, none⟩) (n + 1) cap) (n + 1) (xs ++ ys.toList) → W.grownBy w' v.ownBlock → (v.ownBlock = some g ∨ W.heap.size ≤ g) → base ≤ g → g < w'.heap.size → W.heap.size < w'.heap.size → wpListIn F m P ops Q rest (a.put o.dst (.slice (some ⟨g, 0, none⟩) (n + 1) cap)) w') :
    wpListIn F m P ops Q (o :: rest) a (W.alloc (.cells ys e)) := by
  refine wpListIn_plain hgd fun K hK => ?_
  obtain ⟨g, cap, w', h2, h3, h4, h5, h6, h7⟩ := run_app (P := P) (W.alloc (.cells ys e)) t o.type base e z size bytes ht hinfo hzs hsz hby v n xs (HO.alloc _) W.heap.size 1 ys (0, 0) (heap_alloc_new W _) hys h1 hb (by simp; omega)
  unfold Oper.wpIn
  refine ⟨?_, ?_⟩
  · simp [Oper.about, ho, resolve, Target.leads, Sem.run_pure]
  · rw [Oper.semAt_plain F _ _ (by rw [ho]; intro c hc'; cases hc')]
    simp only [execOp, ho, resolve, invoke, builtin, Sem.run_bind, Sem.run_pure, Result.andThen_ok, List.map_toArray, List.map_cons, List.map_nil, hs, hx, h2]
    have hsz4 := h4.size
    simp only [World.size_alloc] at hsz4
    exact hK _ _ (h g cap w' h3 (World.grownBy.trans (World.grownBy_alloc W _ _) h4) (h5.imp id (fun e => by rw [e]; simp)) h6 h7 (by omega))

/-- at a step of a region that draws -/
theorem step_app {ops : Array Oper} {o : Oper} {a : Act} {K : Act → World → Prop} {Q : Exit → Act → World → Prop} {E : Prop} {W : World} (base : Nat) (t : TypeId) (e : TypeId) (z : Value) (size bytes : Nat) (s x : Operand) (hgd : o.guard = none)
    (ho : o.op = .call { callee := .builtin .append, args := #[s, x], argTypes := #[t, t] })
    (ht : P.underlying t = some (.slice e)) (hinfo : (P.info? e).map (fun i => (i.zero, i.size, i.bytes)) = some (some z, size, bytes)) (hzs : z.cells.size = size) (hsz : 0 < size) (hby : 0 < bytes)
    (v : Value) (n : Nat) (xs : List Value) (B c : Nat) (ys : Array Value) (fr : Nat × Nat) (hs : a.eval s = v) (hx : a.eval x = .slice (some ⟨B, 0, none⟩) 1 c) (HO : W.ownsRow base e size v n xs) (hB : W.heap[B]? = some (.cells ys e fr))
    (hys : ys.size = size) (h1 : ∀ u ∈ ys.toList, u.oneCell' = true) (hb : (n + 1) * bytes ≤ 140737488355328) (hbase : base ≤ W.heap.size)
    (h : ∀ g cap w', w'.ownsRow base e size (.slice (some ⟨g, 0, none⟩) (n + 1) cap) (n + 1) (xs ++ ys.toList) → W.grownBy w' v.ownBlock → (v.ownBlock = some g ∨ W.heap.size ≤ g) → base ≤ g → g < w'.heap.size → K (a.put o.dst (.slice (some ⟨g, 0, none⟩) (n + 1) cap)) w') :
    if Region.wanted o (yielded ops a.tmps) = true then Oper.wp P o a W K Q else E := by
  have hw : Region.wanted o (yielded ops a.tmps) = true := by simp [Region.wanted, hgd]
  rw [if_pos hw]
  obtain ⟨g, cap, w', h2, h3, h4, h5, h6, h7⟩ := run_app (P := P) W t o.type base e z size bytes ht hinfo hzs hsz hby v n xs HO B c ys fr hB hys h1 hb hbase
  unfold Oper.wp execOp
  simp only [ho, resolve, invoke, builtin, Sem.run_bind, Sem.run_pure, Result.andThen_ok, List.map_toArray, List.map_cons, List.map_nil, hs, hx, h2]
  exact h g cap w' h3 h4 (h5.imp id (fun e => by rw [e]; exact Nat.le_refl _)) h6 h7
end

/-- rows of two element types are two blocks -/
theorem own_ne {w : World} {b b' : Nat} {e e' : TypeId} {s s' n n' : Nat} {v v' : Value} {xs xs' : List Value} (h : w.ownsRow b e s v n xs) (h' : w.ownsRow b' e' s' v' n' xs') (hne : e ≠ e') : v.ownBlock = none ∨ v.ownBlock ≠ v'.ownBlock := by
  rcases h.2 with ⟨rfl, _⟩ | ⟨g, cap, cur, rfl, _, hh, _⟩
  · exact .inl rfl
  · refine .inr fun hk => ?_
    rcases h'.2 with ⟨rfl, _⟩ | ⟨g', cap', cur', rfl, _, hh', _⟩
    · simp [Value.ownBlock] at hk
    · have : g = g' := by simpa [Value.ownBlock] using hk
      subst this
      rw [hh] at hh'
      injection hh' with hh'
      injection hh' with _ ht
      exact hne ht
/-- a block of another element type is no row's -/
theorem own_ne_block {w : World} {b : Nat} {e e' : TypeId} {s n : Nat} {v : Value} {xs : List Value} (h : w.ownsRow b e s v n xs) {k : Nat} {cur : Array Value} {fr : Nat × Nat} (hk : w.heap[k]? = some (.cells cur e' fr)) (hne : e ≠ e') : v.ownBlock ≠ some k := by
  intro hv
  rcases h.2 with ⟨rfl, _⟩ | ⟨g, cap, cur', rfl, _, hh, _⟩
  · simp [Value.ownBlock] at hv
  · have : g = k := by simpa [Value.ownBlock] using hv
    subst this
    rw [hh] at hk
    injection hk with hk
    injection hk with _ ht
    exact hne ht

/-- A slice value that reads as xs and lies in a block of element type T. -/
def SlT {α : Type} (T : TypeId) (enc : α → Value) (w : World) (v : Value) (xs : List α) : Prop :=
  SlR enc w v xs ∧ (xs = [] ∨ ∃ b cur fr, v.ownBlock = some b ∧ w.heap[b]? = some (.cells cur T fr))
theorem SlT.kept {α : Type} {T : TypeId} {enc : α → Value} {w w' : World} {v : Value} {xs : List α} (h : SlT T enc w v xs) {row : Option Nat} (hg : w.grownBy w' row) (hr : ∀ k cur fr, row = some k → w.heap[k]? = some (.cells cur T fr) → False) : SlT T enc w' v xs := by
  obtain ⟨⟨A, c, rfl, h1, h2, h3⟩, h4⟩ := h
  rcases h4 with h4 | ⟨b, cur, fr, hb, hh⟩
  · exact ⟨⟨A, c, rfl, h1, h2, .inl h4⟩, .inl h4⟩
  · have hkeep : w'.heap[b]? = w.heap[b]? := hg.block b (Array.getElem?_eq_some_iff.1 hh).1 (fun e => hr b cur fr e.symm hh)
    refine ⟨⟨A, c, rfl, h1, h2, h3.imp id ?_⟩, .inr ⟨b, cur, fr, hb, hkeep.trans hh⟩⟩
    rintro ⟨ad, rfl, hc⟩
    have : ad.block = b := by simpa [Value.ownBlock] using hb
    refine ⟨ad, rfl, fun j hj => ?_⟩
    rw [← hc j hj]
    refine World.cell?_of_block (w := w) ?_
    have e : (ad.add j).block = b := by rw [← this]; unfold Addr.add; split <;> rfl
    rw [e]; exact hkeep
theorem SlT.below {α : Type} {T : TypeId} {enc : α → Value} {w w' : World} {v : Value} {xs : List α} (h : SlT T enc w v xs) (hb : Below w.heap.size w w') : SlT T enc w' v xs :=
  h.kept (row := none) ⟨hb.os, hb.tape, hb.output, hb.size, fun i hi _ => hb.block i hi⟩ (fun k _ _ e => by cases e)
theorem SlT.setCell {α : Type} {T : TypeId} {enc : α → Value} {w : World} {v : Value} {xs : List α} (h : SlT T enc w v xs) (a : Addr) (u : Value) (hr : ∀ cur fr, w.heap[a.block]? = some (.cells cur T fr) → False) : SlT T enc (w.setCell a u) v xs :=
  h.kept (row := some a.block) ⟨rfl, rfl, rfl, by simp [World.setCell], fun k hk hne => Below.heap_setCell _ _ _ _ (fun e => hne (by rw [e]))⟩ (fun k cur fr e hh => by cases e; exact hr cur fr hh)
theorem SlT.of_own {α : Type} {T : TypeId} {enc : α → Value} {w : World} {base n : Nat} {v : Value} {xs : List α} (h : w.ownsRow base T 1 v n (xs.map enc)) : SlT T enc w v xs := by
  refine ⟨SlR.of_own h, ?_⟩
  rcases h.2 with ⟨rfl, h0⟩ | ⟨g, cap, cur, rfl, _, hh, _⟩
  · left
    have := h.1
    simp at this
    exact List.eq_nil_of_length_eq_zero (by omega)
  · exact .inr ⟨g, cur, (0, 0), rfl, hh⟩
theorem SlT.clip {α : Type} {T : TypeId} {enc : α → Value} {w : World} {A : Option Addr} {n c : Nat} {xs : List α} (h : SlT T enc w (.slice A n c) xs) : SlT T enc w (.slice A n n) xs :=
  ⟨h.1.clip, by have := h.2; cases A <;> exact this⟩

theorem below_undrew {w w' : World} (h : Below w.drew.heap.size w.drew w') : Below w.heap.size w w' := ⟨h.os, h.tape, h.output, h.size, h.block⟩
theorem heap_setCell_same {W : World} {b i : Nat} {cs : Array Value} {T : TypeId} {fr : Nat × Nat} (h : W.heap[b]? = some (.cells cs T fr)) (u : Value) : (W.setCell ⟨b, i, none⟩ u).heap[b]? = some (.cells (cs.setIfInBounds i u) T fr) := by
  obtain ⟨hlt, he⟩ := Array.getElem?_eq_some_iff.1 h
  simp only [World.setCell, Array.getElem?_modify, if_true, Option.isSome_none, Bool.false_eq_true, if_false]
  rw [h]; rfl
theorem cell_of_block {W : World} {b i : Nat} {cs : Array Value} {T : TypeId} {fr : Nat × Nat} (h : W.heap[b]? = some (.cells cs T fr)) : W.cell? ⟨b, i, none⟩ = cs[i]? := by simp [World.cell?, h]
theorem free_of_block {W : World} {b i : Nat} {cs : Array Value} {T : TypeId} (h : W.heap[b]? = some (.cells cs T (0, 0))) : W.frozen? ⟨b, i, none⟩ = false := by simp [World.frozen?, h]
theorem grown_block {W W2 : World} {row : Option Nat} (hg : W.grownBy W2 row) {b : Nat} {o : Obj} (h : W.heap[b]? = some o) (hne : row ≠ some b) : W2.heap[b]? = some o :=
  (hg.block b (Array.getElem?_eq_some_iff.1 h).1 (fun e => hne e.symm)).trans h
end Go.Proofs.Ytinlmodkdjpocaa

set_option linter.unusedVariables false
namespace Go.Proofs.Ytinlmodkdjpocaa
open Go.RowKit

/-- The variable in block B (type ST) holds a row of the call's own (elements ET, of so many cells): xs. -/
structure ColR (ST ET : TypeId) (size base B n : Nat) (xs : List Value) (v : Value) (M : Nat → Prop) (W : World) : Prop where
  var : W.heap[B]? = some (.cells #[v] ST (0, 0))
  own : W.ownsRow base ET size v n xs
  mB : M B
  mrow : ∀ g, v.ownBlock = some g → M g

section
variable {ST ET : TypeId} {size base B n : Nat} {xs : List Value} {v : Value} {M : Nat → Prop} {W : World}

theorem ownsRow_obj {W W2 : World} {base s n : Nat} {e : TypeId} {v : Value} {xs : List Value} (h : W.ownsRow base e s v n xs) (hb : ∀ g o, v.ownBlock = some g → W.heap[g]? = some o → W2.heap[g]? = some o) : W2.ownsRow base e s v n xs := by
  refine ⟨h.1, ?_⟩
  rcases h.2 with h | ⟨g, cap, cur, rfl, hb', hg, r⟩
  · exact .inl h
  · exact .inr ⟨g, cap, cur, rfl, hb', hb g _ rfl hg, r⟩
theorem ColR.fr {W2 : World} {lim : Nat} (h : ColR ST ET size base B n xs v M W) (hf : Fr (fun b => lim ≤ b ∧ ¬ M b) W W2) : ColR ST ET size base B n xs v M W2 :=
  ⟨hf.obj h.var (fun k => k.2 h.mB), ownsRow_obj h.own (fun g o hg ho => hf.obj ho (fun k => k.2 (h.mrow g hg))), h.mB, h.mrow⟩
theorem ColR.fr0 {W2 : World} (h : ColR ST ET size base B n xs v M W) (hf : Fr (fun b => ¬ M b) W W2) : ColR ST ET size base B n xs v M W2 :=
  ⟨hf.obj h.var (fun k => k h.mB), ownsRow_obj h.own (fun g o hg ho => hf.obj ho (fun k => k (h.mrow g hg))), h.mB, h.mrow⟩
theorem ColR.cell (h : ColR ST ET size base B n xs v M W) : W.cell? ⟨B, 0, none⟩ = some v := by rw [cell_of_block h.var]; rfl
theorem ColR.free (h : ColR ST ET size base B n xs v M W) : W.frozen? ⟨B, 0, none⟩ = false := free_of_block h.var
theorem ColR.shape (h : ColR ST ET size base B n xs v M W) : ∃ A c, v = .slice A n c := by
  rcases h.own.2 with ⟨rfl, h0⟩ | ⟨g, cap, cur, rfl, _⟩
  · exact ⟨none, 0, by rw [h0]⟩
  · exact ⟨_, _, rfl⟩
theorem ColR.nil (hv : W.heap[B]? = some (.cells #[.slice none 0 0] ST (0, 0))) (hM : M B) : ColR ST ET size base B 0 [] (.slice none 0 0) M W :=
  ⟨hv, World.ownsRow_nil _ _ _ _, hM, fun g h => by simp [Value.ownBlock] at h⟩
theorem ColR.mono (h : ColR ST ET size base B n xs v M W) {M2 : Nat → Prop} (hm : ∀ b, M b → M2 b) : ColR ST ET size base B n xs v M2 W :=
  ⟨h.var, h.own, hm _ h.mB, fun g hg => hm g (h.mrow g hg)⟩
/-- the blocks that the loop may write, behind a round that has laid new ones -/
def grM (M : Nat → Prop) (W W9 : World) : Nat → Prop := fun y => M y ∨ (W.heap.size ≤ y ∧ y < W9.heap.size)
theorem grM_old {M : Nat → Prop} {W W9 : World} {y : Nat} (h : M y) : grM M W W9 y := .inl h

/-- one more element, and the variable holds the new row -/
theorem ColR.snoc {w9 : World} {g cap : Nat} {ys : List Value} {C : Nat} (h : ColR ST ET size base B n xs v M W) (hST : ET ≠ ST) (ho : w9.ownsRow base ET size (.slice (some ⟨g, 0, none⟩) C cap) C (xs ++ ys)) (hg : W.grownBy w9 v.ownBlock) (hat : v.ownBlock = some g ∨ W.heap.size ≤ g) (hgl : g < w9.heap.size) :
    ColR ST ET size base B C (xs ++ ys) (.slice (some ⟨g, 0, none⟩) C cap) (grM M W w9) (w9.setCell ⟨B, 0, none⟩ (.slice (some ⟨g, 0, none⟩) C cap)) ∧ Fr M W (w9.setCell ⟨B, 0, none⟩ (.slice (some ⟨g, 0, none⟩) C cap)) := by
  have s9 : w9.heap[B]? = some (.cells #[v] ST (0, 0)) := grown_block hg h.var (own_ne_block h.own h.var hST)
  have hne9 : (Value.slice (some ⟨g, 0, none⟩) C cap).ownBlock ≠ some B := own_ne_block ho s9 hST
  refine ⟨⟨?_, ownsRow_setCell_other ho hne9 _, grM_old h.mB, ?_⟩, ?_⟩
  · rw [heap_setCell_same s9]; rfl
  · intro y hy
    have hyg : y = g := by simpa [Value.ownBlock] using hy.symm
    subst hyg
    rcases hat with h2 | h2
    · exact .inl (h.mrow y h2)
    · exact .inr ⟨h2, hgl⟩
  · exact ((Fr.refl M W).grown hg (fun y hy hy2 => h.mrow y hy)).setCell h.mB _
/-- another variable's row stays -/
theorem ColR.after {ST' ET' : TypeId} {size' B' n' : Nat} {xs' : List Value} {v' : Value} {w9 : World} {u : Value} (h' : ColR ST' ET' size' base B' n' xs' v' M W) (h : ColR ST ET size base B n xs v M W) (hBB : B' ≠ B) (e1 : ET' ≠ ET) (e2 : ET' ≠ ST) (e3 : ST' ≠ ET) (hg : W.grownBy w9 v.ownBlock) :
    ColR ST' ET' size' base B' n' xs' v' (grM M W w9) (w9.setCell ⟨B, 0, none⟩ u) := by
  have s9 : w9.heap[B']? = some (.cells #[v'] ST' (0, 0)) := grown_block hg h'.var (own_ne_block h.own h'.var (Ne.symm e3))
  refine ⟨?_, ?_, grM_old h'.mB, fun g hg' => grM_old (h'.mrow g hg')⟩
  · rw [Below.heap_setCell _ _ _ _ (by exact hBB)]; exact s9
  · refine ownsRow_obj h'.own (fun g o hgv ho => ?_)
    have hgB : g ≠ B := by
      intro e
      subst e
      exact own_ne_block h'.own h.var e2 hgv
    have hgr : v.ownBlock ≠ some g := by
      intro e
      rcases own_ne h'.own h.own e1 with k | k
      · rw [k] at hgv; cases hgv
      · exact k (hgv.trans e.symm)
    rw [Below.heap_setCell _ _ _ _ (by exact hgB)]
    exact grown_block hg ho hgr
theorem grM_ok {M0 : Nat → Prop} {lim : Nat} {w9 : World} {a : Addr} {u : Value} (hM : ∀ b, M b → (M0 b ∨ lim ≤ b) ∧ b < W.heap.size) (hs : W.heap.size ≤ w9.heap.size) : ∀ b, grM M W w9 b → (M b ∨ W.heap.size ≤ b) ∧ b < (w9.setCell a u).heap.size := by
  rintro y (hy | hy)
  · exact ⟨.inl hy, by rw [World.size_setCell]; exact Nat.lt_of_lt_of_le (hM y hy).2 hs⟩
  · exact ⟨.inr hy.1, by rw [World.size_setCell]; exact hy.2⟩
theorem grM_grM {M : Nat → Prop} {A B C D : World} (h1 : A.heap.size ≤ B.heap.size) (h2 : B.heap.size = C.heap.size) (h3 : C.heap.size ≤ D.heap.size) {y : Nat} (h : grM (grM M A B) C D y) : grM M A D y := by
  rcases h with (h | h) | h
  · exact .inl h
  · exact .inr ⟨h.1, by omega⟩
  · exact .inr ⟨by omega, h.2⟩
/-- the whole loop's frame goes on -/
theorem Fr.col {M0 : Nat → Prop} {w1 W W2 : World} (h : Fr M0 w1 W) (hM : ∀ b, M b → (M0 b ∨ w1.heap.size ≤ b) ∧ b < W.heap.size) (hf : Fr M W W2) : Fr M0 w1 W2 :=
  h.trans' hf (fun y hy hyM => by
    rcases (hM y hyM).1 with k | k
    · exact k
    · omega)
theorem ColR.slR {α : Type} {enc : α → Value} {l : List α} (h : ColR ST ET 1 base B n (l.map enc) v M W) : SlR enc W v l := SlR.of_own h.own
end
end Go.Proofs.Ytinlmodkdjpocaa

set_option linter.unusedVariables false
namespace Go.Proofs.Ytinlmodkdjpocaa
open Go.RowKit Go.Maps

def plV (a : Nat × Nat) : Value := .agg #[.int .i64 (a.1 : Nat), .int .i64 (a.2 : Nat)]
def plD (a b : Int) : DataW Unit := .agg [.lit (.int .i64 a), .lit (.int .i64 b)]
/-- how an element reads -/
def plR (v : Value) : Option (DataW Unit × List MemPlace) :=
  match v with
  | .agg cs => (match cs.toList with
    | [.int .i64 a, .int .i64 b] => some (plD a b, [])
    | _ => none)
  | _ => none
theorem plR_mk (a b : Int) : plR (.agg #[.int .i64 a, .int .i64 b]) = some (plD a b, []) := rfl
theorem plR_inv {v : Value} {a b : Int} {ps : List MemPlace} (h : plR v = some (plD a b, ps)) : v = .agg #[.int .i64 a, .int .i64 b] := by
  unfold plR at h
  split at h
  · rename_i cs
    split at h
    · rename_i x y hcs
      cases cs with
      | mk l =>
        simp only at hcs
        subst hcs
        simp only [Option.some.injEq, Prod.mk.injEq, plD, DataW.agg.injEq, List.cons.injEq, DataW.lit.injEq, Lit.int.injEq, true_and, and_true] at h
        obtain ⟨⟨h1, h2⟩, -⟩ := h
        rw [h1, h2]
    · cases h
  · cases h

/-- Block b of w is a map of at most n entries; at the numbers f there are f's pairs, at the others none. -/
def MapR (P : Program) (k : TypeId) (w : World) (b n : Nat) (f : Int → Option (Nat × Nat)) : Prop :=
  ∃ D : DataW Unit, w.ownsMap P k plR b n D ∧ ∀ x : Int, has D (.int .i64 x) = (f x).isSome ∧ ∀ a, f x = some a → ∀ z, D.atKey (.int .i64 x) z = plD (a.1 : Nat) (a.2 : Nat)

section
variable {P : Program} {k e t : TypeId} {w : World} {b n : Nat} {f : Int → Option (Nat × Nat)}
theorem MapR.made (w : World) (P : Program) (k : TypeId) : MapR P k (w.alloc (.map #[] 0)) w.heap.size 0 (fun _ => none) :=
  ⟨_, World.ownsMap_made w P k plR, fun x => ⟨rfl, fun a h => by cases h⟩⟩
theorem MapR.mono (h : MapR P k w b n f) {m : Nat} (hm : n ≤ m) : MapR P k w b m f := by
  obtain ⟨D, h1, h2⟩ := h
  exact ⟨D, h1.mono hm, h2⟩
theorem MapR.lt (h : MapR P k w b n f) : b < w.heap.size := by
  obtain ⟨D, h1, h2⟩ := h
  exact h1.lt
theorem MapR.kept {w' : World} {row : Option Nat} (h : MapR P k w b n f) (hg : w.grownBy w' row) (hne : some b ≠ row) : MapR P k w' b n f := by
  obtain ⟨D, h1, h2⟩ := h
  exact ⟨D, h1.kept hg hne, h2⟩
theorem MapR.same {w' : World} (h : MapR P k w b n f) (hb : w'.heap[b]? = w.heap[b]?) : MapR P k w' b n f := by
  obtain ⟨D, ⟨es, clock, h0, h1⟩, h2⟩ := h
  exact ⟨D, ⟨es, clock, hb.trans h0, h1⟩, h2⟩
theorem MapR.below {w' : World} (h : MapR P k w b n f) {m : Nat} (hm : w.heap.size ≤ m) (hb : Below m w w') : MapR P k w' b n f := h.same (hb.block b (Nat.lt_of_lt_of_le h.lt hm))
theorem MapR.drewN (h : MapR P k w b n f) (q : Nat) : MapR P k (w.drewN q) b n f := h.same rfl
theorem MapR.setCell (h : MapR P k w b n f) {a : Addr} (ha : b ≠ a.block) (u : Value) : MapR P k (w.setCell a u) b n f := by
  obtain ⟨D, h1, h2⟩ := h
  exact ⟨D, h1.setCell ha u, h2⟩
theorem i64_wf {x : Int} (h1 : -9223372036854775808 ≤ x) (h2 : x ≤ 9223372036854775807) : (Lit.int .i64 x).wf = true := by
  have e1 : IntKind.i64.min = -9223372036854775808 := rfl
  have e2 : IntKind.i64.max = 9223372036854775807 := rfl
  simp [Lit.wf, e1, e2, h1, h2]
/-- what is looked up -/
def mpAt (f : Int → Option (Nat × Nat)) (x : Int) : Nat × Nat := (f x).getD (0, 0)
theorem MapR.look (h : MapR P k w b n f) (hk : P.underlying k = some (.int .i64)) (ht : P.underlying t = some (.map k e)) (hz : (zeroValue e).run P w = .ok (.agg #[.int .i64 0, .int .i64 0]) w) (x : Int) (h1 : -9223372036854775808 ≤ x) (h2 : x ≤ 9223372036854775807) :
    (Instr.lookup t (.map (some b)) (.int .i64 x) true).run P w = .ok (.tuple #[plV (mpAt f x), .bool (f x).isSome]) w := by
  obtain ⟨D, hO, hD⟩ := h
  obtain ⟨v, ps, hrun, hv⟩ := hO.look_ok (int_keyed hk) ht hz (plR_mk 0 0) (keyOf_int_mk hk (i64_wf h1 h2))
  rw [hrun, (hD x).1]
  congr 4
  cases hf : f x with
  | none =>
    have hn : has D (.int .i64 x) = false := by rw [(hD x).1, hf]; rfl
    rw [atKey_of_not_has hn] at hv
    rw [plR_inv hv]; unfold mpAt; rw [hf]; rfl
  | some a =>
    rw [(hD x).2 a hf] at hv
    rw [plR_inv hv]; unfold mpAt; rw [hf]; rfl
/-- f with a pair put at a number -/
def mpPut (f : Int → Option (Nat × Nat)) (x : Int) (a : Nat × Nat) : Int → Option (Nat × Nat) := fun y => if y = x then some a else f y
theorem MapR.put_of {w' : World} {D : DataW Unit} (hO : w.ownsMap P k plR b n D) (hD : ∀ x : Int, has D (.int .i64 x) = (f x).isSome ∧ ∀ a, f x = some a → ∀ z, D.atKey (.int .i64 x) z = plD (a.1 : Nat) (a.2 : Nat)) (x : Int) (a : Nat × Nat)
    (h' : w'.ownsMap P k plR b (n + 1) (D.put (.int .i64 x) (plD (a.1 : Nat) (a.2 : Nat)))) : MapR P k w' b (n + 1) (mpPut f x a) := by
  refine ⟨_, h', fun y => ?_⟩
  by_cases e : y = x
  · subst e
    refine ⟨by rw [has_put_same hO.isMap (k := .int .i64 y) trivial]; simp [mpPut], fun c hc z => ?_⟩
    rw [atKey_put_same hO.isMap (k := .int .i64 y) trivial]
    have : c = a := by simpa [mpPut] using hc.symm
    rw [this]
  · have hne : Lit.int .i64 y ≠ Lit.int .i64 x := by intro h; injection h with _ h; exact e h
    refine ⟨by rw [has_put_other hne]; simpa [mpPut, e] using (hD y).1, fun c hc z => ?_⟩
    rw [atKey_put_other hne]
    exact (hD y).2 c (by simpa [mpPut, e] using hc) z
theorem MapR.put (h : MapR P k w b n f) (hk : P.underlying k = some (.int .i64)) (ht : P.underlying t = some (.map k e)) (hn : n < maxLen) (x : Int) (h1 : -9223372036854775808 ≤ x) (h2 : x ≤ 9223372036854775807) (a : Nat × Nat) :
    ∃ w', (Instr.mapUpdate t (.map (some b)) (.int .i64 x) (plV a)).run P w = .ok () w' ∧ MapR P k w' b (n + 1) (mpPut f x a) ∧ w.grownBy w' (some b) := by
  obtain ⟨D, hO, hD⟩ := h
  obtain ⟨w', hrun, h3, h4⟩ := hO.update (int_keyed hk) ht hn (keyOf_int_mk hk (i64_wf h1 h2)) (plR_mk (a.1 : Nat) (a.2 : Nat))
  exact ⟨w', hrun, MapR.put_of hO hD x a h3, h4⟩
end
end Go.Proofs.Ytinlmodkdjpocaa
