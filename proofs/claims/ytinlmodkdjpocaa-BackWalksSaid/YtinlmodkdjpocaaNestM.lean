/- Plain lists: how often a text stands with a byte more in front. -/
import Derived.Test.YtinlmodkdjpocaaQpl
set_option linter.unusedVariables false
namespace Go.Proofs.Ytinlmodkdjpocaa

/-- how often p stands in d -/
def cntQ (p : List UInt8) (d : List UInt8) : Nat := (List.range (d.length + 1)).countP (fun o => p.isPrefixOf (d.drop o))
theorem cntQ_nil (p : List UInt8) : cntQ p [] = if p.isPrefixOf [] then 1 else 0 := by
  unfold cntQ
  simp [List.range_succ]
theorem cntQ_cons (p : List UInt8) (x : UInt8) (d : List UInt8) : cntQ p (x :: d) = (if p.isPrefixOf (x :: d) then 1 else 0) + cntQ p d := by
  unfold cntQ
  rw [List.length_cons, List.range_succ_eq_map, List.countP_cons, List.countP_map]
  simp only [List.drop_zero, Function.comp_def, List.drop_succ_cons]
  omega
theorem sum_add (l : List Nat) (f g : Nat → Nat) : (l.map (fun c => f c + g c)).sum = (l.map f).sum + (l.map g).sum := by
  induction l with
  | nil => rfl
  | cons a l ih => simp only [List.map_cons, List.sum_cons, ih]; omega
theorem sum_one (n m : Nat) : ((List.range n).map (fun c => if c = m then 1 else 0)).sum = if m < n then 1 else 0 := by
  induction n with
  | zero => rfl
  | succ n ih =>
    rw [List.range_succ, List.map_append, List.sum_append, ih]
    simp only [List.map_cons, List.map_nil, List.sum_cons, List.sum_nil]
    by_cases h : m < n
    · rw [if_pos h, if_neg (by omega), if_pos (by omega)]; rfl
    · by_cases h2 : n = m
      · rw [if_neg h, if_pos h2, if_pos (by omega)]; rfl
      · rw [if_neg h, if_neg h2, if_neg (by omega)]; rfl
theorem sum_zero (n : Nat) : ((List.range n).map (fun _ => 0)).sum = 0 := by
  induction n with
  | zero => rfl
  | succ n ih => rw [List.range_succ, List.map_append, List.sum_append, ih]; rfl
/-- with the bytes below k in front, in one document -/
def nestD (p : List UInt8) (d : List UInt8) (k : Nat) : Nat := ((List.range k).map (fun c => cntQ (UInt8.ofNat c :: p) d)).sum
theorem nestD_nil (p : List UInt8) (n : Nat) : nestD p [] n = 0 := by
  unfold nestD
  rw [show (fun c => cntQ (UInt8.ofNat c :: p) []) = fun _ => 0 from by funext c; rw [cntQ_nil]; rfl]
  exact sum_zero n
theorem nestD_cons (p : List UInt8) (x : UInt8) (d : List UInt8) (n : Nat) (hn : n ≤ 256) (hx : x.toNat < n) : nestD p (x :: d) n = (if p.isPrefixOf d then 1 else 0) + nestD p d n := by
  unfold nestD
  rw [show (fun c => cntQ (UInt8.ofNat c :: p) (x :: d)) = fun c => (if (UInt8.ofNat c :: p).isPrefixOf (x :: d) then 1 else 0) + cntQ (UInt8.ofNat c :: p) d from by funext c; rw [cntQ_cons], sum_add]
  congr 1
  by_cases hp : p.isPrefixOf d = true
  · rw [if_pos hp]
    have e : (List.range n).map (fun c => if (UInt8.ofNat c :: p).isPrefixOf (x :: d) = true then 1 else 0) = (List.range n).map (fun c => if c = x.toNat then 1 else 0) := by
      apply List.map_congr_left
      intro c hc
      have hc' : c < n := List.mem_range.1 hc
      have hiff : (UInt8.ofNat c :: p).isPrefixOf (x :: d) = true ↔ c = x.toNat := by
        rw [List.isPrefixOf, hp, Bool.and_true, beq_iff_eq]
        constructor
        · intro h; rw [← h]; simp; omega
        · intro h; rw [h]; simp
      by_cases hx : c = x.toNat
      · rw [if_pos hx, if_pos (hiff.2 hx)]
      · rw [if_neg hx, if_neg (fun h => hx (hiff.1 h))]
    rw [e, sum_one, if_pos hx]
  · rw [if_neg hp]
    have e : (List.range n).map (fun c => if (UInt8.ofNat c :: p).isPrefixOf (x :: d) = true then 1 else 0) = (List.range n).map (fun _ => 0) := by
      apply List.map_congr_left
      intro c _
      rw [if_neg]
      rw [List.isPrefixOf, Bool.eq_false_iff.2 hp, Bool.and_false]
      simp
    rw [e, sum_zero]
theorem nestD_all (p d : List UInt8) : nestD p d 256 + (if p.isPrefixOf d then 1 else 0) = cntQ p d := by
  obtain ⟨n, hn⟩ : ∃ n, n = 256 := ⟨_, rfl⟩
  rw [← hn]
  induction d with
  | nil => rw [nestD_nil, cntQ_nil, Nat.zero_add]
  | cons x d ih =>
    rw [nestD_cons p x d n (by omega) (by have := x.toNat_lt; omega), cntQ_cons, ← ih]
    omega
/-- in all documents -/
def nestS (ds : List (List UInt8)) (p : List UInt8) (k : Nat) : Nat := ((List.range k).map (fun c => (hits (UInt8.ofNat c :: p) ds).length)).sum
theorem nestS_succ (ds : List (List UInt8)) (p : List UInt8) (k : Nat) : nestS ds p (k + 1) = nestS ds p k + (hits (UInt8.ofNat k :: p) ds).length := by
  unfold nestS; rw [List.range_succ, List.map_append, List.sum_append]; simp
theorem nestS_mono (ds : List (List UInt8)) (p : List UInt8) (k n : Nat) (h : k ≤ n) : nestS ds p k ≤ nestS ds p n := by
  induction n with
  | zero => have : k = 0 := by omega
            rw [this]; exact Nat.le_refl _
  | succ n ih =>
    by_cases hk : k = n + 1
    · rw [hk]; exact Nat.le_refl _
    · have := ih (by omega)
      rw [nestS_succ]; omega
/-- how many documents begin with p -/
def begs (ds : List (List UInt8)) (p : List UInt8) (j : Nat) : Nat := (ds.take j).countP (fun d => p.isPrefixOf d)
theorem begs_succ (ds : List (List UInt8)) (p : List UInt8) (j : Nat) (h : j < ds.length) : begs ds p (j + 1) = begs ds p j + if p.isPrefixOf ds[j] then 1 else 0 := by
  unfold begs
  rw [List.take_succ_eq_append_getElem h, List.countP_append, List.countP_singleton]
theorem begs_le (ds : List (List UInt8)) (p : List UInt8) (j : Nat) : begs ds p j ≤ ds.length := by
  unfold begs
  exact Nat.le_trans List.countP_le_length (by rw [List.length_take]; omega)
theorem hits_sum (p : List UInt8) (hp : p ≠ []) (ds : List (List UInt8)) : (hits p ds).length = (ds.map (cntQ p)).sum := by
  unfold hits
  rw [hitsF_sum]
  congr 1
  apply List.map_congr_left
  intro d _
  exact occ_count p d hp
theorem nest_all (ds : List (List UInt8)) (p : List UInt8) (hp : p ≠ []) : nestS ds p 256 + begs ds p ds.length = (hits p ds).length := by
  have h1 : nestS ds p 256 = ((List.range 256).map (fun c => (ds.map (cntQ (UInt8.ofNat c :: p))).sum)).sum := by
    unfold nestS
    congr 1
    apply List.map_congr_left
    intro c _
    exact hits_sum _ (List.cons_ne_nil _ _) ds
  rw [h1, hits_sum p hp, begs, List.take_length]
  clear h1
  obtain ⟨n, hn⟩ : ∃ n, n = 256 := ⟨_, rfl⟩
  rw [← hn]
  induction ds with
  | nil => simp only [List.map_nil, List.sum_nil, List.countP_nil, Nat.add_zero]; exact sum_zero n
  | cons d ds ih =>
    simp only [List.map_cons, List.sum_cons, List.countP_cons]
    rw [sum_add (List.range n) (fun c => cntQ (UInt8.ofNat c :: p) d) (fun c => (ds.map (cntQ (UInt8.ofNat c :: p))).sum), ← ih, ← nestD_all p d, ← hn]
    unfold nestD
    omega
end Go.Proofs.Ytinlmodkdjpocaa
