/- Captured variables that hold rows of the call's own: what a loop over an iterator collects. Generic: no program is named. -/
import Derived.Test.YtinlmodkdjpocaaIt
import Derived.Test.YtinlmodkdjpocaaApp
set_option linter.unusedVariables false
namespace Go.Proofs.Ytinlmodkdjpocaa
open Go.RowKit

/-- The variable in block B (type ST) holds a row of the call's own (elements ET, of so many cells): xs. -/
structure ColR (ST ET : TypeId) (size base B n : Nat) (xs : List Value) (v : Value) (M : Nat → Prop) (W : World) : Prop where
  var : W.heap[B]? = some (.cells #[v] ST (0, 0))
  own : W.ownsRow base ET size v n xs
  mB : M B
  mrow : ∀ g, v.ownBlock = some g → M g

section
variable {ST ET : TypeId} {size base B n : Nat} {xs : List Value} {v : Value} {M : Nat → Prop} {W : World}

theorem ownsRow_obj {W W2 : World} {base s n : Nat} {e : TypeId} {v : Value} {xs : List Value} (h : W.ownsRow base e s v n xs) (hb : ∀ g o, v.ownBlock = some g → W.heap[g]? = some o → W2.heap[g]? = some o) : W2.ownsRow base e s v n xs := by
  refine ⟨h.1, ?_⟩
  rcases h.2 with h | ⟨g, cap, cur, rfl, hb', hg, r⟩
  · exact .inl h
  · exact .inr ⟨g, cap, cur, rfl, hb', hb g _ rfl hg, r⟩
theorem ColR.fr {W2 : World} {lim : Nat} (h : ColR ST ET size base B n xs v M W) (hf : Fr (fun b => lim ≤ b ∧ ¬ M b) W W2) : ColR ST ET size base B n xs v M W2 :=
  ⟨hf.obj h.var (fun k => k.2 h.mB), ownsRow_obj h.own (fun g o hg ho => hf.obj ho (fun k => k.2 (h.mrow g hg))), h.mB, h.mrow⟩
theorem ColR.fr0 {W2 : World} (h : ColR ST ET size base B n xs v M W) (hf : Fr (fun b => ¬ M b) W W2) : ColR ST ET size base B n xs v M W2 :=
  ⟨hf.obj h.var (fun k => k h.mB), ownsRow_obj h.own (fun g o hg ho => hf.obj ho (fun k => k (h.mrow g hg))), h.mB, h.mrow⟩
theorem ColR.cell (h : ColR ST ET size base B n xs v M W) : W.cell? ⟨B, 0, none⟩ = some v := by rw [cell_of_block h.var]; rfl
theorem ColR.free (h : ColR ST ET size base B n xs v M W) : W.frozen? ⟨B, 0, none⟩ = false := free_of_block h.var
theorem ColR.shape (h : ColR ST ET size base B n xs v M W) : ∃ A c, v = .slice A n c := by
  rcases h.own.2 with ⟨rfl, h0⟩ | ⟨g, cap, cur, rfl, _⟩
  · exact ⟨none, 0, by rw [h0]⟩
  · exact ⟨_, _, rfl⟩
theorem ColR.nil (hv : W.heap[B]? = some (.cells #[.slice none 0 0] ST (0, 0))) (hM : M B) : ColR ST ET size base B 0 [] (.slice none 0 0) M W :=
  ⟨hv, World.ownsRow_nil _ _ _ _, hM, fun g h => by simp [Value.ownBlock] at h⟩
theorem ColR.mono (h : ColR ST ET size base B n xs v M W) {M2 : Nat → Prop} (hm : ∀ b, M b → M2 b) : ColR ST ET size base B n xs v M2 W :=
  ⟨h.var, h.own, hm _ h.mB, fun g hg => hm g (h.mrow g hg)⟩
/-- the blocks that the loop may write, behind a round that has laid new ones -/
def grM (M : Nat → Prop) (W W9 : World) : Nat → Prop := fun y => M y ∨ (W.heap.size ≤ y ∧ y < W9.heap.size)
theorem grM_old {M : Nat → Prop} {W W9 : World} {y : Nat} (h : M y) : grM M W W9 y := .inl h

/-- one more element, and the variable holds the new row -/
theorem ColR.snoc {w9 : World} {g cap : Nat} {ys : List Value} {C : Nat} (h : ColR ST ET size base B n xs v M W) (hST : ET ≠ ST) (ho : w9.ownsRow base ET size (.slice (some ⟨g, 0, none⟩) C cap) C (xs ++ ys)) (hg : W.grownBy w9 v.ownBlock) (hat : v.ownBlock = some g ∨ W.heap.size ≤ g) (hgl : g < w9.heap.size) :
    ColR ST ET size base B C (xs ++ ys) (.slice (some ⟨g, 0, none⟩) C cap) (grM M W w9) (w9.setCell ⟨B, 0, none⟩ (.slice (some ⟨g, 0, none⟩) C cap)) ∧ Fr M W (w9.setCell ⟨B, 0, none⟩ (.slice (some ⟨g, 0, none⟩) C cap)) := by
  have s9 : w9.heap[B]? = some (.cells #[v] ST (0, 0)) := grown_block hg h.var (own_ne_block h.own h.var hST)
  have hne9 : (Value.slice (some ⟨g, 0, none⟩) C cap).ownBlock ≠ some B := own_ne_block ho s9 hST
  refine ⟨⟨?_, ownsRow_setCell_other ho hne9 _, grM_old h.mB, ?_⟩, ?_⟩
  · rw [heap_setCell_same s9]; rfl
  · intro y hy
    have hyg : y = g := by simpa [Value.ownBlock] using hy.symm
    subst hyg
    rcases hat with h2 | h2
    · exact .inl (h.mrow y h2)
    · exact .inr ⟨h2, hgl⟩
  · exact ((Fr.refl M W).grown hg (fun y hy hy2 => h.mrow y hy)).setCell h.mB _
/-- another variable's row stays -/
theorem ColR.after {ST' ET' : TypeId} {size' B' n' : Nat} {xs' : List Value} {v' : Value} {w9 : World} {u : Value} (h' : ColR ST' ET' size' base B' n' xs' v' M W) (h : ColR ST ET size base B n xs v M W) (hBB : B' ≠ B) (e1 : ET' ≠ ET) (e2 : ET' ≠ ST) (e3 : ST' ≠ ET) (hg : W.grownBy w9 v.ownBlock) :
    ColR ST' ET' size' base B' n' xs' v' (grM M W w9) (w9.setCell ⟨B, 0, none⟩ u) := by
  have s9 : w9.heap[B']? = some (.cells #[v'] ST' (0, 0)) := grown_block hg h'.var (own_ne_block h.own h'.var (Ne.symm e3))
  refine ⟨?_, ?_, grM_old h'.mB, fun g hg' => grM_old (h'.mrow g hg')⟩
  · rw [Below.heap_setCell _ _ _ _ (by exact hBB)]; exact s9
  · refine ownsRow_obj h'.own (fun g o hgv ho => ?_)
    have hgB : g ≠ B := by
      intro e
      subst e
      exact own_ne_block h'.own h.var e2 hgv
    have hgr : v.ownBlock ≠ some g := by
      intro e
      rcases own_ne h'.own h.own e1 with k | k
      · rw [k] at hgv; cases hgv
      · exact k (hgv.trans e.symm)
    rw [Below.heap_setCell _ _ _ _ (by exact hgB)]
    exact grown_block hg ho hgr
theorem grM_ok {M0 : Nat → Prop} {lim : Nat} {w9 : World} {a : Addr} {u : Value} (hM : ∀ b, M b → (M0 b ∨ lim ≤ b) ∧ b < W.heap.size) (hs : W.heap.size ≤ w9.heap.size) : ∀ b, grM M W w9 b → (M b ∨ W.heap.size ≤ b) ∧ b < (w9.setCell a u).heap.size := by
  rintro y (hy | hy)
  · exact ⟨.inl hy, by rw [World.size_setCell]; exact Nat.lt_of_lt_of_le (hM y hy).2 hs⟩
  · exact ⟨.inr hy.1, by rw [World.size_setCell]; exact hy.2⟩
theorem grM_grM {M : Nat → Prop} {A B C D : World} (h1 : A.heap.size ≤ B.heap.size) (h2 : B.heap.size = C.heap.size) (h3 : C.heap.size ≤ D.heap.size) {y : Nat} (h : grM (grM M A B) C D y) : grM M A D y := by
  rcases h with (h | h) | h
  · exact .inl h
  · exact .inr ⟨h.1, by omega⟩
  · exact .inr ⟨by omega, h.2⟩
/-- the whole loop's frame goes on -/
theorem Fr.col {M0 : Nat → Prop} {w1 W W2 : World} (h : Fr M0 w1 W) (hM : ∀ b, M b → (M0 b ∨ w1.heap.size ≤ b) ∧ b < W.heap.size) (hf : Fr M W W2) : Fr M0 w1 W2 :=
  h.trans' hf (fun y hy hyM => by
    rcases (hM y hyM).1 with k | k
    · exact k
    · omega)
theorem ColR.slR {α : Type} {enc : α → Value} {l : List α} (h : ColR ST ET 1 base B n (l.map enc) v M W) : SlR enc W v l := SlR.of_own h.own
end
end Go.Proofs.Ytinlmodkdjpocaa
