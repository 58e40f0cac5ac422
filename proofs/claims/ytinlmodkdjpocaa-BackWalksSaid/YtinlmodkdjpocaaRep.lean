/- How values read in memory: slices of one-cell elements, of bytes, of slices of bytes. Generic: no program is named. -/
import Derived.WalkKit
import Derived.Deep.Draws
set_option linter.unusedVariables false
namespace Go.Proofs.Ytinlmodkdjpocaa
open Go.RowKit

/-- A slice value that reads as the list xs, an element being the one cell 'enc x'. -/
def SlR {α : Type} (enc : α → Value) (w : World) (v : Value) (xs : List α) : Prop :=
  ∃ A c, v = .slice A xs.length c ∧ xs.length ≤ c ∧ c ≤ 9223372036854775807 ∧ (xs = [] ∨ ∃ ad : Addr, A = some ad ∧ ∀ j, (h : j < xs.length) → w.cell? (ad.add j) = some (enc xs[j]))

def byV (b : UInt8) : Value := .int .u8 (b.toNat : Int)
def natV (n : Nat) : Value := .int .i64 (n : Int)
def intV (n : Int) : Value := .int .i64 n
def symV (n : Nat) : Value := .int .u16 (n : Int)
def boolV (b : Bool) : Value := .bool b
def strV (s : List UInt8) : Value := .string ⟨s.toArray⟩

section
variable {α : Type} {enc : α → Value}
theorem SlR.same {w w' : World} {v : Value} {xs : List α} (h : SlR enc w v xs) {n : Nat} (hn : w.heap.size ≤ n) (hb : ∀ b, b < n → w'.heap[b]? = w.heap[b]?) : SlR enc w' v xs := by
  obtain ⟨A, c, rfl, h1, h2, h3⟩ := h
  refine ⟨A, c, rfl, h1, h2, h3.imp id ?_⟩
  rintro ⟨ad, rfl, hc⟩
  exact ⟨ad, rfl, fun j hj => (World.cell?_of_block (w := w) (hb _ (Nat.lt_of_lt_of_le (World.block_lt_of_cell? w _ (hc j hj)) hn))).trans (hc j hj)⟩
theorem SlR.below {w w' : World} {v : Value} {xs : List α} (h : SlR enc w v xs) {n : Nat} (hn : w.heap.size ≤ n) (hb : Below n w w') : SlR enc w' v xs := h.same hn hb.block
theorem SlR.later {w w' : World} {v : Value} {xs : List α} (h : SlR enc w v xs) (hb : Below w.heap.size w w') : SlR enc w' v xs := h.below (Nat.le_refl _) hb
theorem SlR.alloc {w : World} {v : Value} {xs : List α} (h : SlR enc w v xs) (o : Obj) : SlR enc (w.alloc o) v xs := h.later ((Below.refl _ w).alloc (Nat.le_refl _) o)
theorem SlR.of_own {w : World} {base : Nat} {e : TypeId} {v : Value} {n : Nat} {xs : List α} (h : w.ownsRow base e 1 v n (xs.map enc)) : SlR enc w v xs := by
  have hl : xs.length = n := by have := h.1; simp at this; omega
  subst hl
  rcases h.2 with ⟨rfl, h0⟩ | ⟨g, cap, cur, rfl, hb, hg, hnc, hcm, hcs, htake⟩
  · exact ⟨none, 0, by rw [h0], by omega, by omega, .inl (List.eq_nil_of_length_eq_zero h0)⟩
  · refine ⟨some ⟨g, 0, none⟩, cap, rfl, hnc, hcm, .inr ⟨_, rfl, fun j hj => ?_⟩⟩
    exact h.cells (g := g) rfl j _ (by simp [hj])
/-- What a walk wants of a slice's value. -/
theorem SlR.form {w : World} {v : Value} {xs : List α} (h : SlR enc w v xs) : ∃ A c, v = .slice A xs.length c ∧ xs.length ≤ c ∧ c ≤ 9223372036854775807 ∧ ∀ j, (hj : j < xs.length) → ∃ ad, A = some ad ∧ w.cell? (ad.add j) = some (enc xs[j]) := by
  obtain ⟨A, c, rfl, h1, h2, h3⟩ := h
  refine ⟨A, c, rfl, h1, h2, fun j hj => ?_⟩
  rcases h3 with h3 | ⟨ad, rfl, hc⟩
  · subst h3; exact absurd hj (Nat.not_lt_zero _)
  · exact ⟨ad, rfl, hc j hj⟩
theorem SlR.at_ {w : World} {A : Option Addr} {n c : Nat} {xs : List α} (h : SlR enc w (.slice A n c) xs) (j : Nat) (hj : j < xs.length) : ∃ ad, A = some ad ∧ w.cell? (ad.add j) = some (enc xs[j]) := by
  obtain ⟨A', c', he, h1, h2, h3⟩ := h
  injection he with e1 e2 e3
  subst e1; subst e2; subst e3
  rcases h3 with h3 | ⟨ad, rfl, hc⟩
  · subst h3; exact absurd hj (Nat.not_lt_zero _)
  · exact ⟨ad, rfl, hc j hj⟩
/-- What a law on append wants of a source. -/
theorem SlR.src {w : World} {A : Option Addr} {n c : Nat} {xs : List α} (h : SlR enc w (.slice A n c) xs) : xs.length = n ∧ (A = none → n = 0) ∧ ∀ ad, A = some ad → ∀ j u, (xs.map enc)[j]? = some u → w.cell? (ad.add j) = some u := by
  obtain ⟨A', c', he, h1, h2, h3⟩ := h
  injection he with e1 e2 e3
  subst e1; subst e2; subst e3
  refine ⟨rfl, fun e => ?_, fun ad e j u hu => ?_⟩
  · rcases h3 with h3 | ⟨ad, h3, _⟩
    · rw [h3]; rfl
    · rw [e] at h3; cases h3
  · rcases h3 with h3 | ⟨ad', h3, hc⟩
    · rw [h3] at hu; simp at hu
    · rw [e] at h3; cases h3
      simp only [List.getElem?_map, Option.map_eq_some_iff] at hu
      obtain ⟨x, hx, rfl⟩ := hu
      obtain ⟨hlt, rfl⟩ := List.getElem?_eq_some_iff.1 hx
      exact hc j hlt
theorem SlR.nil (w : World) : SlR enc w (.slice none 0 0) [] := ⟨none, 0, rfl, Nat.le_refl _, by omega, .inl rfl⟩
theorem SlR.clip {w : World} {A : Option Addr} {n c : Nat} {xs : List α} (h : SlR enc w (.slice A n c) xs) : SlR enc w (.slice A n n) xs := by
  obtain ⟨A', c', he, h1, h2, h3⟩ := h
  injection he with e1 e2 e3
  subst e1; subst e2; subst e3
  exact ⟨_, _, rfl, Nat.le_refl _, by omega, h3⟩
end

/-- A list of byte strings, in memory. -/
def DocsR (w : World) (v : Value) (ds : List (List UInt8)) : Prop :=
  ∃ vs : List Value, vs.length = ds.length ∧ SlR id w v vs ∧ ∀ j (h : j < vs.length) (h' : j < ds.length), SlR byV w vs[j] ds[j]
theorem DocsR.same {w w' : World} {v : Value} {ds : List (List UInt8)} (h : DocsR w v ds) {n : Nat} (hn : w.heap.size ≤ n) (hb : ∀ b, b < n → w'.heap[b]? = w.heap[b]?) : DocsR w' v ds := by
  obtain ⟨vs, h1, h2, h3⟩ := h
  exact ⟨vs, h1, h2.same hn hb, fun j h h' => (h3 j h h').same hn hb⟩
theorem DocsR.below {w w' : World} {v : Value} {ds : List (List UInt8)} (h : DocsR w v ds) {n : Nat} (hn : w.heap.size ≤ n) (hb : Below n w w') : DocsR w' v ds := by
  obtain ⟨vs, h1, h2, h3⟩ := h
  exact ⟨vs, h1, h2.below hn hb, fun j h h' => (h3 j h h').below hn hb⟩
theorem DocsR.form {w : World} {v : Value} {ds : List (List UInt8)} (h : DocsR w v ds) : ∃ A c, v = .slice A ds.length c ∧ ds.length ≤ c ∧ c ≤ 9223372036854775807 ∧ ∀ j, (hj : j < ds.length) → ∃ ad B c', A = some ad ∧ w.cell? (ad.add j) = some (.slice B ds[j].length c') ∧ SlR byV w (.slice B ds[j].length c') ds[j] := by
  obtain ⟨vs, hl, h2, h3⟩ := h
  obtain ⟨A, c, rfl, h4, h5, h6⟩ := h2.form
  rw [hl] at h4 ⊢
  refine ⟨A, c, rfl, h4, h5, fun j hj => ?_⟩
  obtain ⟨ad, e, hc⟩ := h6 j (by omega)
  have h7 := h3 j (by omega) hj
  obtain ⟨B, c', he, h8⟩ := h7
  rw [show vs[j] = Value.slice B ds[j].length c' from he] at hc
  exact ⟨ad, B, c', e, hc, B, c', rfl, h8⟩

theorem DocsR.at_ {w : World} {A : Option Addr} {n c : Nat} {ds : List (List UInt8)} (h : DocsR w (.slice A n c) ds) (j : Nat) (hj : j < ds.length) : ∃ ad B c', A = some ad ∧ w.cell? (ad.add j) = some (.slice B ds[j].length c') ∧ SlR byV w (.slice B ds[j].length c') ds[j] := by
  obtain ⟨A', c'', he, h1, h2, h3⟩ := h.form
  injection he with e1 e2 e3
  subst e1; subst e2; subst e3
  exact h3 j hj
/-- 's[a:]' -/
theorem addr_add_add (ad : Addr) (i j : Nat) : (ad.add i).add j = ad.add (i + j) := by
  unfold Addr.add
  by_cases hi : i = 0 <;> by_cases hj : j = 0 <;> simp [hi, hj]
  omega
theorem SlR.drop {α : Type} {enc : α → Value} {w : World} {ad : Addr} {n c : Nat} {xs : List α} (h : SlR enc w (.slice (some ad) n c) xs) (a : Nat) (ha : a ≤ n) : SlR enc w (.slice (some (ad.add a)) (n - a) (c - a)) (xs.drop a) := by
  obtain ⟨A', c', he, h1, h2, h3⟩ := h
  injection he with e1 e2 e3
  subst e1; subst e2; subst e3
  refine ⟨_, _, by rw [List.length_drop], by simp; omega, by omega, ?_⟩
  rcases h3 with h3 | ⟨ad', h3, hc⟩
  · left; rw [h3]; simp
  · cases h3
    right
    refine ⟨_, rfl, fun j hj => ?_⟩
    rw [addr_add_add, hc (a + j) (by simp at hj; omega)]
    simp

/-- hits: pairs of numbers, two cells each -/
def flatH (hs : List (Nat × Nat)) : List Value := hs.flatMap fun h => [natV h.1, natV h.2]
theorem flatH_length (hs : List (Nat × Nat)) : (flatH hs).length = hs.length * 2 := by
  induction hs with
  | nil => rfl
  | cons h hs ih => simp only [flatH, List.flatMap_cons, List.length_append, List.length_cons, List.length_nil] at ih ⊢; omega
theorem flatH_snoc (hs : List (Nat × Nat)) (h : Nat × Nat) : flatH (hs ++ [h]) = flatH hs ++ [natV h.1, natV h.2] := by simp [flatH]
theorem flatH_get (hs : List (Nat × Nat)) (j : Nat) (hj : j < hs.length) : (flatH hs)[j * 2]? = some (natV hs[j].1) ∧ (flatH hs)[j * 2 + 1]? = some (natV hs[j].2) := by
  induction hs generalizing j with
  | nil => exact absurd hj (Nat.not_lt_zero _)
  | cons h hs ih =>
    cases j with
    | zero => exact ⟨rfl, rfl⟩
    | succ j =>
      have := ih j (by simpa using hj)
      simp only [flatH, List.flatMap_cons, List.cons_append, List.nil_append] at this ⊢
      rw [show (j + 1) * 2 = j * 2 + 1 + 1 from by omega]
      simpa using this
def HitsR (w : World) (v : Value) (hs : List (Nat × Nat)) : Prop :=
  ∃ A c, v = .slice A hs.length c ∧ hs.length ≤ c ∧ c ≤ 9223372036854775807 ∧ (hs = [] ∨ ∃ ad : Addr, A = some ad ∧ ∀ j, (h : j < hs.length) → w.cell? (ad.add (j * 2)) = some (natV hs[j].1) ∧ w.cell? (ad.add (j * 2 + 1)) = some (natV hs[j].2))
theorem HitsR.same {w w' : World} {v : Value} {hs : List (Nat × Nat)} (h : HitsR w v hs) {n : Nat} (hn : w.heap.size ≤ n) (hb : ∀ b, b < n → w'.heap[b]? = w.heap[b]?) : HitsR w' v hs := by
  obtain ⟨A, c, rfl, h1, h2, h3⟩ := h
  refine ⟨A, c, rfl, h1, h2, h3.imp id ?_⟩
  rintro ⟨ad, rfl, hc⟩
  exact ⟨ad, rfl, fun j hj => ⟨(World.cell?_of_block (w := w) (hb _ (Nat.lt_of_lt_of_le (World.block_lt_of_cell? w _ (hc j hj).1) hn))).trans (hc j hj).1, (World.cell?_of_block (w := w) (hb _ (Nat.lt_of_lt_of_le (World.block_lt_of_cell? w _ (hc j hj).2) hn))).trans (hc j hj).2⟩⟩
theorem HitsR.later {w w' : World} {v : Value} {hs : List (Nat × Nat)} (h : HitsR w v hs) (hb : Below w.heap.size w w') : HitsR w' v hs := h.same (Nat.le_refl _) hb.block
theorem HitsR.of_own {w : World} {base : Nat} {e : TypeId} {v : Value} {n : Nat} {hs : List (Nat × Nat)} (h : w.ownsRow base e 2 v n (flatH hs)) : HitsR w v hs := by
  have hl : hs.length = n := by have := h.1; rw [flatH_length] at this; omega
  subst hl
  rcases h.2 with ⟨rfl, h0⟩ | ⟨g, cap, cur, rfl, hb, hg, hnc, hcm, hcs, htake⟩
  · exact ⟨none, 0, by rw [h0], by omega, by omega, .inl (List.eq_nil_of_length_eq_zero h0)⟩
  · refine ⟨some ⟨g, 0, none⟩, cap, rfl, hnc, hcm, .inr ⟨_, rfl, fun j hj => ?_⟩⟩
    obtain ⟨h1, h2⟩ := flatH_get hs j hj
    exact ⟨h.cells (g := g) rfl _ _ h1, h.cells (g := g) rfl _ _ h2⟩
theorem HitsR.at_ {w : World} {A : Option Addr} {n c : Nat} {hs : List (Nat × Nat)} (h : HitsR w (.slice A n c) hs) (j : Nat) (hj : j < hs.length) : ∃ ad, A = some ad ∧ w.cell? (ad.add (j * 2)) = some (natV hs[j].1) ∧ w.cell? (ad.add (j * 2 + 1)) = some (natV hs[j].2) := by
  obtain ⟨A', c', he, h1, h2, h3⟩ := h
  injection he with e1 e2 e3
  subst e1; subst e2; subst e3
  rcases h3 with h3 | ⟨ad, rfl, hc⟩
  · subst h3; exact absurd hj (Nat.not_lt_zero _)
  · exact ⟨ad, rfl, hc j hj⟩

theorem oneCell_map {α : Type} {enc : α → Value} (he : ∀ x, (enc x).oneCell' = true) (xs : List α) : ∀ u ∈ xs.map enc, u.oneCell' = true := by
  intro u hu
  simp only [List.mem_map] at hu
  obtain ⟨b, _, rfl⟩ := hu
  exact he b
end Go.Proofs.Ytinlmodkdjpocaa
