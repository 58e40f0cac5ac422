/- slices.Reverse at []byte. bwt: read. bwt: read: the walk. bwt: Docs; slices.Equal at symbols. bwt: Docs: the walk. -/
import Derived.Test.YtinlmodkdjpocaaQbw
import Derived.Test.YtinlmodkdjpocaaGen
import Derived.RegionTactic
import Derived.BigRegion
import Derived.LoopN
import Derived.Deep.QuietTactic
import Derived.BigQuiet
set_option linter.unusedVariables false
namespace Go.Proofs.Ytinlmodkdjpocaa
open Go.RowKit

/-- turned as far as i -/
def revU (bs : List UInt8) (i : Nat) : List UInt8 := (List.range bs.length).map (fun k => if k < i ∨ bs.length ≤ k + i then bs.getD (bs.length - 1 - k) 0 else bs.getD k 0)
theorem revU_zero (bs : List UInt8) : revU bs 0 = bs := by
  unfold revU
  apply List.ext_getElem
  · simp
  · intro i h1 h2
    simp at h1
    simp only [List.getElem_map, List.getElem_range]
    rw [if_neg (by omega)]
    simp [List.getD, h1]
theorem revU_end (bs : List UInt8) (i : Nat) (h : bs.length ≤ 2 * i + 1) : revU bs i = bs.reverse := by
  unfold revU
  apply List.ext_getElem
  · simp
  · intro k h1 h2
    simp at h1
    simp only [List.getElem_map, List.getElem_range, List.getElem_reverse]
    by_cases e : k < i ∨ bs.length ≤ k + i
    · rw [if_pos e]
      have : bs.length - 1 - k < bs.length := by omega
      simp [List.getD, this]
    · rw [if_neg e]
      have : bs.length - 1 - k = k := by omega
      simp [List.getD, h1, this]
theorem revU_next (bs : List UInt8) (i : Nat) (h : 2 * i + 1 < bs.length) : ((revU bs i).set i (bs.getD (bs.length - 1 - i) 0)).set (bs.length - 1 - i) (bs.getD i 0) = revU bs (i + 1) := by
  unfold revU
  rw [map_range_set, map_range_set]
  apply List.map_congr_left
  intro k hk
  rw [List.mem_range] at hk
  by_cases e1 : k = bs.length - 1 - i
  · rw [if_pos e1, if_pos (by omega)]
    congr 1; omega
  · rw [if_neg e1]
    by_cases e2 : k = i
    · rw [if_pos e2, if_pos (by omega), e2]
    · rw [if_neg e2]
      by_cases e3 : k < i ∨ bs.length ≤ k + i
      · rw [if_pos e3, if_pos (by omega)]
      · rw [if_neg e3, if_neg (by omega)]
theorem revU_get (bs : List UInt8) (i k : Nat) (h1 : i ≤ k) (h2 : k + i < bs.length) : (revU bs i)[k]? = some (bs.getD k 0) := by
  have hk : k < bs.length := by omega
  have hn : ¬ (k < i ∨ bs.length ≤ k + i) := by omega
  simp only [revU, List.getElem?_map, List.getElem?_range hk, Option.map_some, if_neg hn]

/-- bytes at the head of a block -/
def ByB (W : World) (g : Nat) (bs : List UInt8) (rest : List Value) : Prop := W.heap[g]? = some (.cells ((bs.map byV) ++ rest).toArray 5 (0, 0))
theorem ByB.cell {W : World} {g : Nat} {bs : List UInt8} {rest : List Value} (h : ByB W g bs rest) (i : Nat) (x : UInt8) (hi : bs[i]? = some x) : W.cell? ⟨g, i, none⟩ = some (.int .u8 (x.toNat : Int)) ∧ W.frozen? ⟨g, i, none⟩ = false := by
  refine ⟨?_, free_of_block h⟩
  obtain ⟨hlt, _⟩ := List.getElem?_eq_some_iff.1 hi
  rw [cell_of_block h, List.getElem?_toArray, List.getElem?_append_left (by simpa using hlt), List.getElem?_map, hi]; rfl
theorem ByB.put {W : World} {g : Nat} {bs : List UInt8} {rest : List Value} (h : ByB W g bs rest) (i : Nat) (x : UInt8) (hi : i < bs.length) : ByB (W.setCell ⟨g, i, none⟩ (.int .u8 (x.toNat : Int))) g (bs.set i x) rest := by
  unfold ByB
  rw [heap_setCell_same h]
  congr 2
  simp only [List.setIfInBounds_toArray]
  rw [List.set_append_left _ _ (by simpa using hi), List.map_set]; rfl

set_option maxRecDepth 100000 in
set_option maxHeartbeats 2000000 in
theorem rev_by (g cap : Nat) (bs : List UInt8) (rest : List Value) (w : World) (h : ByB w g bs rest) (hn : bs.length ≤ 1000000) :
    Calls Try.prog 82 #[.slice (some ⟨g, 0, none⟩) bs.length cap] w fun e w' => (∃ v, e = .returned v) ∧ ByB w' g bs.reverse rest ∧ Fr (fun b => b = g) w w' := by
  have H0 : Hid (ByB w g (revU bs 0) rest) := Lib.hid (by rw [revU_zero]; exact h)
  clear h
  obtain ⟨N, hN⟩ : ∃ N, N = bs.length := ⟨_, rfl⟩
  have HN := Lib.hid hN
  rw [← hN] at hn ⊢
  clear hN
  go_enter Try.func82, Try.ntmps82
  go_wp2_with fail
  go_loopw [2, 3] (fun iv jv wr => ∃ i : Nat, 2 * i ≤ N + 1 ∧ iv = .int .i64 i ∧ jv = .int .i64 ((N : Int) - 1 - (i : Int)) ∧ ByB wr g (revU bs i) rest ∧ Fr (fun b => b = g) w wr) (fun iv _ _ => N + 1 - (intOf iv).toNat)
  case atStart => exact ⟨0, by omega, rfl, by simp, H0.out, Fr.refl _ _⟩
  case round =>
    clear H0
    obtain ⟨i, hi, rfl, rfl, hb, hf⟩ := hrel
    by_cases hlt : 2 * i + 1 < N
    · obtain ⟨j, hj⟩ : ∃ j, j = N - 1 - i := ⟨_, rfl⟩
      have hji : (N : Int) - 1 - (i : Int) = (j : Int) := by omega
      have hlen : (revU bs i).length = N := by rw [HN.out]; simp [revU]
      obtain ⟨a1, a2⟩ := hb.cell i _ (revU_get bs i i (Nat.le_refl _) (by rw [← HN.out]; omega))
      obtain ⟨b1, b2⟩ := hb.cell j _ (revU_get bs i j (by omega) (by rw [← HN.out]; omega))
      have p1 := ((show ByB wr.drew g _ _ from hb).put i (bs.getD j 0) (by omega)).put j (bs.getD i 0) (by rw [List.length_set]; omega)
      have hnx := revU_next bs i (by rw [← HN.out]; omega)
      rw [← HN.out, ← hj] at hnx
      rw [hnx] at p1
      have P1 := Lib.hid p1
      have P2 := Lib.hid ((hf.drew.setCell (p := ⟨g, i, none⟩) rfl (.int .u8 ((bs.getD j 0).toNat : Int))).setCell (p := ⟨g, j, none⟩) rfl (.int .u8 ((bs.getD i 0).toNat : Int)))
      rw [hji]
      have hjl : j ≤ N - 1 - i := by omega
      have hjg : N - 1 - i ≤ j := by omega
      generalize (bs.getD i 0).toNat = x at *
      generalize (bs.getD j 0).toNat = y at *
      have q1 : (0 : Int) ≤ (i : Int) := by omega
      have q2 : (i : Int) < (N : Int) := by omega
      have q3 : (0 : Int) ≤ (j : Int) := by omega
      have q4 : (j : Int) < (N : Int) := by omega
      have hij : i < j := by omega
      have hne : ¬ i = j := by omega
      have hne2 : ¬ j = i := by omega
      clear p1 hnx hlen hb hf hj hji
      go_wp2_with fail
      go_region
      all_goals
        go_wp2_with fail
        go_roundw
        case rel => exact ⟨i + 1, by omega, by go_num, by have : ((j : Int) - 1) = (N : Int) - 1 - ((i + 1 : Nat) : Int) := (by omega); rw [this], P1.out, P2.out⟩
        case measure => simp [intOf]; omega
    · have hend : ByB wr g bs.reverse rest := by rw [← revU_end bs i (by rw [← HN.out]; omega)]; exact hb
      have HE := Lib.hid hend
      have HF := Lib.hid hf
      have q0 : (N : Int) - 1 - (i : Int) ≤ (i : Int) := by omega
      clear hb hf hend
      go_wp2_with fail
      go_end0
      exact ⟨⟨_, rfl⟩, HE.out, HF.out⟩
end Go.Proofs.Ytinlmodkdjpocaa

set_option linter.unusedVariables false
namespace Go.Proofs.Ytinlmodkdjpocaa
open Go.RowKit

/-- documents laid so far: an own row of slices -/
def DcsO (base : Nat) (W : World) (lv : Value) (ds : List (List UInt8)) : Prop :=
  ∃ dvs : List Value, W.ownsRow base 29 1 lv ds.length dvs ∧ dvs.length = ds.length ∧ ∀ j (h : j < dvs.length) (h' : j < ds.length), SlT 5 byV W dvs[j] ds[j]
theorem DcsO.docs {base : Nat} {W : World} {lv : Value} {ds : List (List UInt8)} (h : DcsO base W lv ds) : DocsR W lv ds := by
  obtain ⟨dvs, h1, h2, h3⟩ := h
  exact ⟨dvs, h2, SlR.of_own (enc := id) (by rw [List.map_id]; exact h1), fun j h h' => (h3 j h h').1⟩
theorem DcsO.nil (base : Nat) (W : World) : DcsO base W (.slice none 0 0) [] := ⟨[], World.ownsRow_nil _ _ _ _, rfl, fun j h => absurd h (Nat.not_lt_zero _)⟩
theorem DcsO.below {base : Nat} {W W2 : World} {lv : Value} {ds : List (List UInt8)} (h : DcsO base W lv ds) (hb : Below W.heap.size W W2) : DcsO base W2 lv ds := by
  obtain ⟨dvs, h1, h2, h3⟩ := h
  exact ⟨dvs, own_below h1 hb, h2, fun j a b => (h3 j a b).below hb⟩
theorem DcsO.snoc {base : Nat} {W W2 : World} {lv v' x : Value} {ds : List (List UInt8)} {dvs : List Value} {d : List UInt8} (h1 : W.ownsRow base 29 1 lv ds.length dvs) (h2 : dvs.length = ds.length) (h3 : ∀ j (h : j < dvs.length) (h' : j < ds.length), SlT 5 byV W dvs[j] ds[j])
    (hx : SlT 5 byV W x d) (ho : W2.ownsRow base 29 1 v' (ds.length + 1) (dvs ++ [x])) (hg : W.grownBy W2 lv.ownBlock) : DcsO base W2 v' (ds ++ [d]) := by
  refine ⟨dvs ++ [x], by simpa using ho, by simp [h2], fun j h h' => ?_⟩
  by_cases hj : j < ds.length
  · rw [List.getElem_append_left (by omega), List.getElem_append_left hj]
    exact (h3 j (by omega) hj).grown h1 hg (by decide)
  · have hj' : j = ds.length := by simp at h'; omega
    subst hj'
    rw [List.getElem_append_right (by omega), List.getElem_append_right (by omega)]
    simp only [h2, Nat.sub_self, List.getElem_singleton]
    exact hx.grown h1 hg (by decide)
theorem own_base2 {w : World} {base s n : Nat} {e : TypeId} {v : Value} {xs : List Value} (h : w.ownsRow base e s v n xs) {g : Nat} (hg : v.ownBlock = some g) : base ≤ g := by
  rcases h.2 with ⟨rfl, -⟩ | ⟨g', cap, cur, rfl, hb, -⟩
  · cases hg
  · cases hg; exact hb
/-- an own row of bytes -/
def BytO (base : Nat) (W : World) (v : Value) (l : List UInt8) : Prop := W.ownsRow base 5 1 v l.length (l.map byV)
theorem BytO.of {base n : Nat} {W : World} {v : Value} {l : List UInt8} (h : W.ownsRow base 5 1 v n (l.map byV)) (hn : n = l.length) : BytO base W v l := by subst hn; exact h
theorem BytO.form {base : Nat} {W : World} {v : Value} {l : List UInt8} (h : BytO base W v l) : ∃ A c, v = .slice A l.length c := own_shape h
theorem BytO.lt {base : Nat} {W : World} {v : Value} {l : List UInt8} (h : BytO base W v l) : ∀ g, v.ownBlock = some g → base ≤ g ∧ g < W.heap.size := by
  intro g hg
  rcases h.2 with ⟨rfl, _⟩ | ⟨g2, _, _, rfl, hge, hh, _⟩
  · simp [Value.ownBlock] at hg
  · simp [Value.ownBlock] at hg; subst hg; exact ⟨hge, (Array.getElem?_eq_some_iff.1 hh).1⟩
theorem BytO.snoc {base : Nat} {W : World} {v : Value} {l : List UInt8} {x : UInt8} {n : Nat} (h : W.ownsRow base 5 1 v n (l.map byV ++ [byV x])) (hn : n = l.length + 1) : BytO base W v (l ++ [x]) := by
  refine BytO.of (n := n) ?_ (by simp [hn])
  rw [List.map_append]; exact h

theorem rev_nil (w : World) : Calls Try.prog 82 #[.slice none 0 0] w fun e w' => (∃ v, e = .returned v) ∧ w' = w := by
  go_enter Try.func82, Try.ntmps82
  go_wp2_with fail
  refine wp_loop_rounds 1 ?_
  rw [rounds_succ]
  go_wp2_with fail
  go_end0
  exact ⟨⟨_, rfl⟩, rfl⟩
/-- slices.Reverse of an own row -/
theorem rev_own (base : Nat) (v : Value) (bs : List UInt8) (w : World) (h : BytO base w v bs) (hn : bs.length ≤ 1000000) :
    Calls Try.prog 82 #[v] w fun e w' => (∃ v, e = .returned v) ∧ BytO base w' v bs.reverse ∧ Below base w w' := by
  rcases h.2 with ⟨rfl, h0⟩ | ⟨g, cap, cur, rfl, hge, hh, hc, hm, hs, ht⟩
  · obtain rfl : bs = [] := List.eq_nil_of_length_eq_zero h0
    exact (rev_nil w).mono fun e w' ⟨h1, h2⟩ => by subst h2; exact ⟨h1, World.ownsRow_nil _ _ _ _, Below.refl _ _⟩
  · rw [Nat.mul_one] at ht hs
    have hcur : cur = ((bs.map byV) ++ cur.toList.drop bs.length).toArray := by
      apply Array.ext'
      rw [← ht, List.take_append_drop]
    have hb : ByB w g bs (cur.toList.drop bs.length) := by unfold ByB; rw [← hcur]; exact hh
    refine (rev_by g cap bs _ w hb hn).mono ?_
    rintro e w' ⟨h1, h2, h3⟩
    refine ⟨h1, ?_, h3.os, h3.tape, h3.output, h3.size, fun b hb2 => ?_⟩
    · refine BytO.of (n := bs.length) ⟨by simp, .inr ⟨g, cap, _, rfl, hge, h2, hc, hm, ?_, ?_⟩⟩ (by simp)
      · simp only [List.size_toArray, List.length_append, List.length_map, List.length_reverse, List.length_drop, Array.length_toList, Nat.mul_one]
        omega
      · rw [Nat.mul_one]
        simp
    · by_cases hlt : b < w.heap.size
      · exact h3.block b hlt (by omega)
      · have := (Array.getElem?_eq_some_iff.1 hh).1; omega
def sliceLen : Value → Nat
  | .slice _ n _ => n
  | _ => 0
theorem step_lt (L : List Nat) (i : Nat) (hi : i < L.length) : stepL L i < L.length := by
  have h := pos_lt (fun x => x) L i hi
  unfold stepL cntL belowL
  have e : L.getD i 0 = L[i] := by simp [List.getD, hi]
  rw [e, List.count_eq_countP]
  exact h
end Go.Proofs.Ytinlmodkdjpocaa

set_option linter.unusedVariables false
namespace Go.Proofs.Ytinlmodkdjpocaa
open Go.RowKit

def ReadPost (RES : Option (List (List UInt8) × Int)) (w : World) (e : Ending) (w' : World) : Prop :=
  Below w.heap.size w w' ∧ ((RES = none ∧ e = .returned (.tuple #[.slice none 0 0, .bool false])) ∨ ∃ ds left v, RES = some (ds, left) ∧ e = .returned (.tuple #[v, .bool (decide (left = 0))]) ∧ DocsR w' v ds)
theorem stepI_of (L : List Nat) (i : Nat) (h : L.getD i 0 ≠ 0) : stepI L i = (stepL L i : Nat) := by unfold stepI; rw [if_neg h]
theorem run_index_one (C : Array Value) (u : Value) (h : C[1]? = some u) (w : World) : (Instr.index 104 (.agg C) (.int .i64 1)).run Try.prog w = .ok u w := by
  simp [Instr.index, run_underlying Try.underlying104, asIntOf, part, go_sem, Try.sizeOf3, Try.isAgg3, h]
theorem readA_next {L : List Nat} {k j : Nat} {left : Int} {acc : List (List UInt8)} {d : List UInt8} (h : readD L left 2002 j [] = some d) : readA L (k + 1) j left acc = readA L k (j + 1) (left - (d.length + 1)) (acc ++ [d.reverse]) := by
  simp only [readA, h]
theorem readA_fail {L : List Nat} {k j : Nat} {left : Int} {acc : List (List UInt8)} (h : readD L left 2002 j [] = none) : readA L (k + 1) j left acc = none := by
  simp only [readA, h]
theorem readD_step (L : List Nat) (left : Int) (f i : Nat) (acc : List UInt8) : readD L left (f + 1) i acc = if L.getD i 0 = 0 then some acc else if 2000 < acc.length + 1 ∨ left ≤ ((acc.length + 1 : Nat) : Int) then none else readD L left f (stepL L i) (acc ++ [UInt8.ofNat (L.getD i 0 - 1)]) := by
  simp only [readD, List.length_append, List.length_singleton]
theorem byV_ofNat (x : Nat) (h1 : 0 < x) (h2 : x ≤ 256) : byV (UInt8.ofNat (x - 1)) = .int .u8 ((x : Int) - 1) := by
  unfold byV
  congr 1
  rw [UInt8.toNat_ofNat_of_lt' (by simp [UInt8.size]; omega)]
  omega
set_option maxRecDepth 100000 in
set_option maxHeartbeats 4000000 in
theorem bwt_read (v : Value) (L : List Nat) (w : World) (h : SlR symV w v L) (hm : ∀ x ∈ L, x ≤ 256) (hn : L.length ≤ 100000) :
    Calls Try.prog 101 #[v] w (ReadPost (readA L (L.count 0) 0 L.length []) w) := by
  obtain ⟨A, c, rfl, k1, k2, k3⟩ := h.form
  have hsteps := Lib.hid (bwt_steps _ L w h hm hn)
  have hstart := Lib.hid (fun W hW => bwt_starts _ L W (h.below (Nat.le_refl _) hW) hm hn)
  have hcell : ∀ j (hj : j < L.length), ∃ (x : Nat) (ad : Addr), A = some ad ∧ L.getD j 0 = x ∧ x ≤ 256 ∧ w.cell? (ad.add j) = some (.int .u16 (x : Int)) := by
    intro j hj
    obtain ⟨ad, hA, hc⟩ := k3 j hj
    exact ⟨_, ad, hA, by simp [List.getD, hj], hm _ (List.getElem_mem hj), hc⟩
  have HC := Lib.hid hcell
  have hcnt : L.count 0 ≤ L.length := List.count_le_length
  clear k3 hcell h hm
  obtain ⟨N, hN⟩ : ∃ N, N = L.length := ⟨_, rfl⟩
  have HN := Lib.hid hN
  obtain ⟨n0, hn0⟩ : ∃ n0, n0 = L.count 0 := ⟨_, rfl⟩
  have HN0 := Lib.hid hn0
  obtain ⟨RES, hRES⟩ : ∃ RES, RES = readA L n0 0 (N : Int) [] := ⟨_, rfl⟩
  have HRes := Lib.hid hRES
  rw [← hn0, ← hN, ← hRES]
  rw [← hN] at hn k1 hsteps hstart hcnt
  rw [← hn0] at hcnt
  clear hN hn0 hRES
  have hix : ∀ w, (Instr.index 104 (.agg ((startsL L).map natV).toArray) (.int .i64 1)).run Try.prog w = .ok (.int .i64 (n0 : Int)) w := fun w => run_index_one _ _ (by rw [HN0.out, ← belowL_one]; simp only [List.getElem?_toArray, List.getElem?_map, startsL, List.getElem?_range (show 1 < 257 by decide)]; rfl) w
  go_enter Try.func101, Try.ntmps101
  go_wp2_with fail
  refine hsteps.out.mono ?_
  rintro e w1 ⟨v1, rfl, hs1, hb1⟩
  have hst2 := Lib.hid (hstart.out w1 hb1)
  have HS1 := Lib.hid hs1
  have HB1 := Lib.hid hb1
  clear hs1 hb1 hsteps hstart
  go_wp2_with fail
  refine hst2.out.mono ?_
  rintro e w2 ⟨rfl, hb2⟩
  go_wp2_with fail
  have HB2 : Hid (Below w.heap.size w w2) := Lib.hid (HB1.out.trans (hb2.mono HB1.out.size))
  have HS2 : Hid (SlR intV w2 v1 (stepsL L)) := Lib.hid (HS1.out.later hb2)
  clear hb2 HB1 HS1 hst2 hix
  obtain ⟨As, cs, hv1, g1, g2, g3⟩ := HS2.out.form
  have hsl : (stepsL L).length = N := by rw [HN.out]; simp [stepsL]
  rw [hsl] at hv1
  subst hv1
  have hto : ∀ i, i < N → ∃ ad, As = some ad ∧ w2.cell? (ad.add i) = some (.int .i64 (stepI L i)) := by
    intro i hi
    obtain ⟨ad, hA, hc⟩ := g3 i (by omega)
    refine ⟨ad, hA, ?_⟩
    have e : (stepsL L)[i]'(by omega) = stepI L i := by simp [stepsL]
    rw [e] at hc
    exact hc
  have HTo := Lib.hid hto
  have HSt : Hid (∀ i, i < N → stepL L i < N) := Lib.hid (fun i hi => by rw [HN.out] at hi ⊢; exact step_lt L i hi)
  clear hto g1 g2 g3 hsl HS2
  have H0 : Hid (readA L (n0 - 0) 0 (N : Int) [] = RES) := Lib.hid (by rw [Nat.sub_zero]; exact HRes.out.symm)
  go_loopw [5, 6, 7] (fun lv dv jv wr => ∃ (j : Nat) (left : Int) (acc : List (List UInt8)), j ≤ n0 ∧ jv = .int .i64 j ∧ lv = .int .i64 left ∧ left ≤ N ∧ -((2001 : Int) * j) ≤ left ∧ readA L (n0 - j) j left acc = RES ∧ acc.length = j ∧ DcsO w2.heap.size wr dv acc ∧ Below w2.heap.size w2 wr ∧ Below w.heap.size w wr) (fun _ _ jv _ => n0 - (intOf jv).toNat)
  case atStart => exact ⟨0, N, [], Nat.zero_le _, rfl, rfl, by omega, by omega, H0.out, rfl, DcsO.nil _ _, Below.refl _ _, HB2.out⟩
  case round =>
    clear H0
    obtain ⟨j, left, acc, hj, rfl, rfl, hl1, hl2, hres, hacc, hdcs, hb2, hbw⟩ := hrel
    by_cases hlt : j < n0
    · have hsz2 := hb2.size
      have hszw := hbw.size
      obtain ⟨wo, hwo⟩ : ∃ wo, wo = wr := ⟨_, rfl⟩
      rw [← hwo] at hdcs hb2 hbw hsz2 hszw ⊢
      clear hwo
      have HRs := Lib.hid hres
      have HAc := Lib.hid hacc
      have HDc := Lib.hid hdcs
      have HB3 := Lib.hid hb2
      have HBW := Lib.hid hbw
      obtain ⟨dvs, hd1, hd2, hd3⟩ := hdcs
      obtain ⟨Ad, cd, hdv⟩ := own_shape hd1
      rw [hacc] at hdv
      subst hdv
      have HD1 : Hid (wo.ownsRow w2.heap.size 29 1 (.slice Ad j cd) j dvs) := Lib.hid (by rw [hacc] at hd1; exact hd1)
      have HD2 := Lib.hid hd2
      have HD3 := Lib.hid hd3
      obtain ⟨k', hk'⟩ : ∃ k', n0 - j = k' + 1 := ⟨n0 - j - 1, by omega⟩
      have HK := Lib.hid hk'
      clear hres hacc hb2 hbw hd1 hd2 hd3 hk'
      go_wp2_with fail
      go_loopw [9, 10] (fun dv iv wi => ∃ (i : Nat) (bs : List UInt8), i < N ∧ iv = .int .i64 i ∧ bs.length ≤ 2000 ∧ BytO wo.heap.size wi dv bs ∧ readD L left (2002 - bs.length) i bs = readD L left 2002 j [] ∧ Below wo.heap.size wo wi) (fun dv _ _ => 2002 - sliceLen dv)
      case atStart => exact ⟨j, [], by omega, rfl, Nat.zero_le _, World.ownsRow_nil _ _ _ _, rfl, Below.refl _ _⟩
      case round =>
        obtain ⟨i, bs, hi, rfl, hbs, hby, hrd, hbi⟩ := hrel
        obtain ⟨Ab, cb, hbv⟩ := hby.form
        subst hbv
        have hszi := hbi.size
        obtain ⟨x, ad, rfl, hx, hx2, hc⟩ := HC.out i (by rw [← HN.out]; exact hi)
        have hcw : wr.cell? (ad.add i) = some (.int .u16 (x : Int)) := (hbi.cell (Nat.lt_of_lt_of_le (World.block_lt_of_cell? w _ hc) hszw)).trans ((HBW.out.cell (World.block_lt_of_cell? w _ hc)).trans hc)
        obtain ⟨adt, rfl, hct⟩ := HTo.out i hi
        have hctw : wr.cell? (adt.add i) = some (.int .i64 (stepI L i)) := (hbi.cell (Nat.lt_of_lt_of_le (World.block_lt_of_cell? w2 _ hct) hsz2)).trans ((HB3.out.cell (World.block_lt_of_cell? w2 _ hct)).trans hct)
        obtain ⟨f, hf⟩ : ∃ f, 2002 - bs.length = f + 1 := ⟨2002 - bs.length - 1, by omega⟩
        have hrd2 := hrd
        rw [hf] at hrd2
        rw [readD_step L left f i bs, hx] at hrd2
        have HBy := Lib.hid hby
        have HRd := Lib.hid hrd2
        have HBi := Lib.hid hbi
        by_cases hx0 : x = 0
        · have hsome : readD L left 2002 j [] = some bs := by rw [← hrd2, if_pos hx0]
          have hres2 : readA L k' (j + 1) (left - (bs.length + 1)) (acc ++ [bs.reverse]) = RES := by
            rw [← HRs.out, HK.out, readA_next hsome]
          have HR2 := Lib.hid hres2
          have hxle : x ≤ 0 := by omega
          have hxd : decide (0 < x) = false := by simp; omega
          have hrev := Lib.hid (rev_own wo.heap.size _ bs wr hby (by omega))
          clear hc hct hctw hrd hrd2 hsome hres2 hx hx0 hf HRd hby hbi
          go_wp2_with fail
          refine hrev.out.mono ?_
          rintro e w5 ⟨⟨v5, rfl⟩, hr1, hr2⟩
          obtain ⟨A5, c5, hv5, q1, q2, _⟩ := (SlR.of_own (enc := byV) hr1).form
          rw [List.length_reverse] at hv5 q1
          injection hv5 with e1 e2 e3
          subst e1 e3
          clear e2
          have hclip := Lib.hid (clip_by Ab bs.length cb w5 q1 q2)
          have hb5 : Below wo.heap.size wo w5 := HBi.out.trans hr2
          have HB5 := Lib.hid hb5
          have HX5 : Hid (SlT 5 byV w5 (.slice Ab bs.length bs.length) bs.reverse) := Lib.hid (SlT.clip (by exact SlT.of_own (enc := byV) (by unfold BytO at hr1; rw [List.length_reverse] at hr1; exact hr1)))
          have HO5 := Lib.hid (own_below HD1.out hb5)
          have hsz5 : w2.heap.size ≤ w5.heap.size := Nat.le_trans hsz2 hb5.size
          have hsz6 : w.heap.size ≤ w5.heap.size := Nat.le_trans hszw hb5.size
          have hj5 : j ≤ 100000 := by omega
          clear hr1 hr2 hb5 hrev
          go_wp2_with (first
            | (go_at_call 83; (with_reducible refine hclip.out.mono ?_); rintro e w6 ⟨rfl, rfl⟩)
            | (at_builtin; refine wp_app w2.heap.size 22 29 (.slice none 0 0) 1 24 (.tmp 58) (.tmp 61) rfl rfl Try.underlying22 info_bys rfl (by decide) (by decide) (.slice Ad j cd) j dvs #[.slice Ab bs.length bs.length] rfl rfl HO5.out rfl (by intro u hu; simp at hu; subst hu; rfl) (by omega) hsz5 ?_; intro g cap w7 ho7 hg7 hat7 hgb7 hgl7 hgs7; have HO7 := Lib.hid ho7; have HG7 := Lib.hid hg7; clear ho7 hg7 hat7))
          go_roundw
          case rel =>
            refine ⟨j + 1, left - (bs.length + 1), acc ++ [bs.reverse], by omega, by go_num, rfl, by omega, by omega, ?_, by simp [HAc.out], ?_, ?_, ?_⟩
            · have e : n0 - (j + 1) = k' := by have := HK.out; omega
              rw [e]; exact HR2.out
            · refine DcsO.snoc (by rw [HAc.out]; exact HO5.out) HD2.out (fun j a b => (HD3.out j a b).below HB5.out) HX5.out (by rw [HAc.out]; exact HO7.out) HG7.out
            · have h1 : Below w2.heap.size w2 w6 := HB3.out.trans (HB5.out.mono HB3.out.size)
              exact h1.grown HG7.out hsz5 (fun g hg => own_base2 HO5.out hg)
            · have h1 : Below w.heap.size w w6 := HBW.out.trans (HB5.out.mono HBW.out.size)
              have h2 : w.heap.size ≤ w2.heap.size := HB2.out.size
              exact h1.grown HG7.out hsz6 (fun g hg => by have := own_base2 HO5.out hg; omega)
          case measure => simp [intOf]; omega
        · rw [if_neg hx0] at hrd2
          have hbyv : byV (UInt8.ofNat (x - 1)) = .int .u8 ((x - 1 : Nat) : Int) := by rw [byV_ofNat x (by omega) hx2]; congr 1; omega
          have hstI : stepI L i = (stepL L i : Nat) := stepI_of L i (by rw [hx]; exact hx0)
          rw [hstI] at hctw
          have hsl := HSt.out i hi
          obtain ⟨i', hi'⟩ : ∃ i', i' = stepL L i := ⟨_, rfl⟩
          rw [← hi'] at hctw hsl hrd2
          obtain ⟨y, hy⟩ : ∃ y, y = x - 1 := ⟨_, rfl⟩
          rw [← hy] at hbyv hrd2
          have hyi : (x : Int) - 1 = (y : Nat) := by omega
          have hy2 : y ≤ 255 := by omega
          have HYV := Lib.hid hbyv
          have HBn : Hid (wr.ownsRow wo.heap.size 5 1 (.slice Ab bs.length cb) bs.length (bs.map byV)) := Lib.hid hby
          have hx1 : 0 < x := by omega
          have hxd : decide (0 < x) = true := by simp; omega
          have hxn : y = x - 1 := hy
          by_cases hfail : 2000 < bs.length + 1 ∨ left ≤ ((bs.length + 1 : Nat) : Int)
          · rw [if_pos hfail] at hrd2
            have hnone : RES = none := by rw [← HRs.out, HK.out]; exact readA_fail hrd2.symm
            have HNone := Lib.hid hnone
            clear hrd hrd2 hnone hc hct hctw hx hx0 hf HRd hby hbi hbyv hstI hsl hi' hy hxn
            by_cases hbig : 2000 < bs.length + 1
            · clear hfail
              go_wp2_with (at_builtin; refine wp_app wo.heap.size 29 5 (.int .u8 0) 1 1 (.tmp 33) (.tmp 40) rfl rfl Try.underlying29 info_u8 rfl (by decide) (by decide) (.slice Ab bs.length cb) bs.length (bs.map byV) #[.int .u8 (y : Nat)] rfl rfl HBn.out rfl (by intro u hu; simp at hu; subst hu; rfl) (by omega) hszi ?_; intro g cap w7 ho7 hg7 hat7 hgb7 hgl7 hgs7; have HG7 := Lib.hid hg7; clear ho7 hg7 hat7)
              go_ret2
              refine ⟨?_, .inl ⟨HNone.out, rfl⟩⟩
              exact (HBW.out.trans (HBi.out.mono HBW.out.size)).grown HG7.out (Nat.le_trans HBW.out.size HBi.out.size) (fun g hg => by have := own_base2 HBn.out hg; have := HBW.out.size; omega)
            · have hle : left ≤ (bs.length : Int) + 1 := by omega
              clear hfail
              go_wp2_with (at_builtin; refine wp_app wo.heap.size 29 5 (.int .u8 0) 1 1 (.tmp 33) (.tmp 40) rfl rfl Try.underlying29 info_u8 rfl (by decide) (by decide) (.slice Ab bs.length cb) bs.length (bs.map byV) #[.int .u8 (y : Nat)] rfl rfl HBn.out rfl (by intro u hu; simp at hu; subst hu; rfl) (by omega) hszi ?_; intro g cap w7 ho7 hg7 hat7 hgb7 hgl7 hgs7; have HG7 := Lib.hid hg7; clear ho7 hg7 hat7)
              go_ret2
              refine ⟨?_, .inl ⟨HNone.out, rfl⟩⟩
              exact (HBW.out.trans (HBi.out.mono HBW.out.size)).grown HG7.out (Nat.le_trans HBW.out.size HBi.out.size) (fun g hg => by have := own_base2 HBn.out hg; have := HBW.out.size; omega)
          · rw [if_neg hfail] at hrd2
            have HRd2 : Hid (readD L left (2002 - (bs ++ [UInt8.ofNat y]).length) i' (bs ++ [UInt8.ofNat y]) = readD L left 2002 j []) := Lib.hid (by
              rw [← hrd2]
              congr 1
              rw [List.length_append, List.length_singleton]; omega)
            have hbl : (adt.add i).block < wo.heap.size := Nat.lt_of_lt_of_le (World.block_lt_of_cell? w2 _ hct) hsz2
            have h1 : bs.length + 1 ≤ 2000 := by omega
            have h2 : (bs.length : Int) + 1 < left := by omega
            clear hrd hrd2 hc hct hx hx0 hf HRd hby hbi hbyv hstI hi' hy hxn hfail
            go_wp2_with (at_builtin; refine wp_app wo.heap.size 29 5 (.int .u8 0) 1 1 (.tmp 33) (.tmp 40) rfl rfl Try.underlying29 info_u8 rfl (by decide) (by decide) (.slice Ab bs.length cb) bs.length (bs.map byV) #[.int .u8 (y : Nat)] rfl rfl HBn.out rfl (by intro u hu; simp at hu; subst hu; rfl) (by omega) hszi ?_; intro g cap w7 ho7 hg7 hat7 hgb7 hgl7 hgs7; have hct7 : w7.cell? (adt.add i) = some (.int .i64 (i' : Nat)) := (((Below.refl wo.heap.size wr).grown hg7 hszi (fun g hg => own_base2 HBn.out hg)).cell hbl).trans hctw; have HO7 := Lib.hid ho7; have HG7 := Lib.hid hg7; clear ho7 hg7 hat7)
            go_roundw
            case rel =>
              refine ⟨i', bs ++ [UInt8.ofNat y], by omega, rfl, by rw [List.length_append, List.length_singleton]; omega, BytO.snoc (by rw [HYV.out]; exact HO7.out) rfl, HRd2.out, ?_⟩
              exact HBi.out.grown HG7.out HBi.out.size (fun g hg => own_base2 HBn.out hg)
            case measure => simp [sliceLen]; omega
    · obtain rfl : n0 = j := by omega
      have hsome : RES = some (acc, left) := by rw [← hres, Nat.sub_self]; rfl
      have HSo := Lib.hid hsome
      have HDr := Lib.hid hdcs.docs
      have HBW := Lib.hid hbw
      clear hres hacc hdcs hb2 hbw hsome hlt hj
      go_wp2_with fail
      go_ret2
      exact ⟨HBW.out, .inr ⟨acc, left, _, HSo.out, rfl, HDr.out⟩⟩
end Go.Proofs.Ytinlmodkdjpocaa

set_option linter.unusedVariables false
namespace Go.Proofs.Ytinlmodkdjpocaa
open Go.RowKit

set_option maxRecDepth 100000 in
set_option maxHeartbeats 1000000 in
theorem equal_sy (va vb : Value) (a b : List Nat) (w : World) (ha : SlR symV w va a) (hb : SlR symV w vb b) :
    Calls Try.prog 102 #[va, vb] w fun e w' => e = .returned (.bool (decide (a = b))) ∧ ∃ q, w' = w.drewN q := by
  obtain ⟨A, c, rfl, k1, k2, k3⟩ := ha.form
  obtain ⟨A2, c2, rfl, j1, j2, j3⟩ := hb.form
  by_cases hl : a.length = b.length
  · have hcell : ∀ i (hi : i < a.length), ∃ (x y : Nat) (ad ad2 : Addr), A = some ad ∧ A2 = some ad2 ∧ a[i]? = some x ∧ b[i]? = some y ∧ w.cell? (ad.add i) = some (.int .u16 (x : Int)) ∧ w.cell? (ad2.add i) = some (.int .u16 (y : Int)) := by
      intro i hi
      obtain ⟨ad, hA, hc⟩ := k3 i hi
      obtain ⟨ad2, hA2, hc2⟩ := j3 i (by omega)
      exact ⟨_, _, ad, ad2, hA, hA2, List.getElem?_eq_getElem hi, List.getElem?_eq_getElem (by omega), hc, hc2⟩
    have HC := Lib.hid hcell
    have HL := Lib.hid hl
    obtain ⟨N, hN⟩ : ∃ N, N = a.length := ⟨_, rfl⟩
    have HN := Lib.hid hN
    have hNb : b.length = N := by rw [hN, hl]
    rw [← hN] at k1
    rw [hNb] at j1
    rw [← hN, hNb]
    have HNb := Lib.hid hNb
    clear k3 j3 ha hb hcell hl hN hNb
    have hNN : ((N : Int) != (N : Int)) = false := by simp
    go_enter Try.func102, Try.ntmps102
    go_wp2_with fail
    go_loopw [13] (fun ix wr => ∃ i : Nat, i ≤ N ∧ ix = .int .i64 i ∧ Hid (a.take i = b.take i) ∧ ∃ q, wr = w.drewN q) (fun ix _ => N - (intOf ix).toNat)
    case atStart => exact ⟨0, Nat.zero_le _, rfl, Lib.hid (by simp), 0, rfl⟩
    case round =>
      obtain ⟨i, hi, rfl, heq, q, rfl⟩ := hrel
      by_cases hlt : i < N
      · have hia : i < a.length := by rw [← HN.out]; exact hlt
        have hib : i < b.length := by rw [HNb.out]; exact hlt
        obtain ⟨x, y, ad, ad2, rfl, rfl, hx, hy, hc1, hc2⟩ := HC.out i hia
        have HX := Lib.hid hx
        have HY := Lib.hid hy
        have q1 : (0 : Int) ≤ (i : Int) := by omega
        have q2 : (i : Int) < (N : Int) := by omega
        have hc1' : (w.drewN q).cell? (ad.add i) = some (.int .u16 (x : Int)) := hc1
        have hc2' : (w.drewN q).cell? (ad2.add i) = some (.int .u16 (y : Int)) := hc2
        obtain ⟨W, hW⟩ : ∃ W, w.drewN q = W := ⟨_, rfl⟩
        rw [hW] at hc1' hc2' ⊢
        have HW := Lib.hid hW
        clear hx hy hc1 hc2 hW
        by_cases hxy : x = y
        · have h1 : ((x : Int) != (y : Int)) = false := by simp [hxy]
          have HN2 : Hid (a.take (i + 1) = b.take (i + 1)) := Lib.hid (by
            rw [List.take_add_one, List.take_add_one, heq.out, HX.out, HY.out, hxy])
          clear hxy
          go_wp2_with fail
          go_quiet (fail)
          go_wp2_with fail
          go_roundw
          case rel => exact ⟨i + 1, by omega, by go_num, HN2.out, _, by rw [← HW.out]; exact World.drewN_drewN _ _ _⟩
          case measure => simp [intOf]; omega
        · have h1 : ((x : Int) != (y : Int)) = true := by simp; omega
          have hne : Hid (decide (a = b) = false) := Lib.hid (by
            simp only [decide_eq_false_iff_not]
            intro e
            subst e
            have h1 := HX.out; have h2 := HY.out; rw [h1] at h2; injection h2 with h2; exact hxy h2)
          clear hxy
          go_wp2_with fail
          go_quiet (fail)
          go_wp2_with fail
          go_ret
          exact ⟨by rw [hne.out]; rfl, _, by rw [← HW.out]; exact World.drewN_drewN _ _ _⟩
      · obtain rfl : N = i := by omega
        have hdec : Hid (decide (a = b) = true) := Lib.hid (by
          simp only [decide_eq_true_iff]
          have := heq.out
          rwa [List.take_of_length_le (by rw [← HN.out]; omega), List.take_of_length_le (by rw [HNb.out]; omega)] at this)
        clear heq hlt hi
        go_wp2_with fail
        go_ret
        exact ⟨by rw [hdec.out]; rfl, q, rfl⟩
  · have hd : decide (a = b) = false := by simp only [decide_eq_false_iff_not]; intro e; exact hl (by rw [e])
    rw [hd]
    have hb : ((a.length : Int) != (b.length : Int)) = true := by simp; omega
    clear k3 j3 ha hb hd
    go_enter Try.func102, Try.ntmps102
    go_wp2_with fail
    go_ret
    exact ⟨rfl, 0, rfl⟩
end Go.Proofs.Ytinlmodkdjpocaa

set_option linter.unusedVariables false
namespace Go.Proofs.Ytinlmodkdjpocaa
open Go.RowKit

theorem mayE_zero (ds : List (List UInt8)) : mayE ds = 0 ↔ okDs ds := by
  unfold mayE okDs
  by_cases h1 : 500 < ds.length
  · rw [if_pos h1]; constructor
    · intro h; exact absurd h (by decide)
    · intro h; omega
  · rw [if_neg h1]
    by_cases h2 : ∃ d ∈ ds, 2000 < d.length
    · rw [if_pos h2]; constructor
      · intro h; exact absurd h (by decide)
      · intro h; obtain ⟨d, hd, hl⟩ := h2; have := h.2.1 d hd; omega
    · rw [if_neg h2]
      by_cases h3 : 60000 < (rowOf ds).length
      · rw [if_pos h3]; constructor
        · intro h; exact absurd h (by decide)
        · intro h; omega
      · rw [if_neg h3]; constructor
        · intro _; exact ⟨by omega, fun d hd => Nat.le_of_not_lt (fun hl => h2 ⟨d, hd, hl⟩), by omega⟩
        · intro _; rfl
/-- what bwt.Docs says of a row -/
def docsE (L : List Nat) : Nat := if 60500 < L.length ∨ L.any (fun x => decide (256 < x)) = true then 1 else if docsP L = none then 3 else 0
def DocsPost (L : List Nat) (w : World) (e : Ending) (w' : World) : Prop :=
  Below w.heap.size w w' ∧ ((docsE L ≠ 0 ∧ e = .returned (.tuple #[.slice none 0 0, .int .i64 (docsE L : Nat)])) ∨ (docsE L = 0 ∧ ∃ ds v, docsP L = some ds ∧ e = .returned (.tuple #[v, .int .i64 0]) ∧ DocsR w' v ds))

theorem bwt_docs_one (v : Value) (L : List Nat) (w : World) (h : SlR symV w v L) (hm : ∀ x ∈ L, x ≤ 65535) (hbad : 60500 < L.length ∨ L.any (fun x => decide (256 < x)) = true) :
    Calls Try.prog 72 #[v] w (DocsPost L w) := by
  have hE : docsE L = 1 := by unfold docsE; rw [if_pos hbad]
  obtain ⟨A, c, rfl, k1, k2, k3⟩ := h.form
  have hcon := Lib.hid (contains_bw _ L w h hm)
  clear k3 h hm
  have HE := Lib.hid hE
  obtain ⟨N, hN⟩ : ∃ N, N = L.length := ⟨_, rfl⟩
  rw [← hN] at hbad hcon k1 ⊢
  have hn : N ≤ 9223372036854775807 := by omega
  clear hN hE
  by_cases hbig : 60500 < N
  · clear hbad
    go_enter Try.func72, Try.ntmps72
    go_wp2_with fail
    go_ret2
    exact ⟨Below.refl _ _, .inl ⟨by rw [HE.out]; decide, by rw [HE.out]; rfl⟩⟩
  · have hany : L.any (fun x => decide (256 < x)) = true := by rcases hbad with h | h; exact absurd h hbig; exact h
    rw [hany] at hcon
    clear hbad hany
    go_enter Try.func72, Try.ntmps72
    go_wp2_with fail
    refine hcon.out.mono ?_
    rintro e w0 ⟨rfl, rfl⟩
    go_wp2_with fail
    go_ret2
    exact ⟨Below.refl _ _, .inl ⟨by rw [HE.out]; decide, by rw [HE.out]; rfl⟩⟩

set_option maxHeartbeats 2000000 in
theorem bwt_docs_good (v : Value) (L : List Nat) (w : World) (h : SlR symV w v L) (hn : L.length ≤ 60500) (hm : ∀ x ∈ L, x ≤ 256) :
    Calls Try.prog 72 #[v] w (DocsPost L w) := by
  have hany : L.any (fun x => decide (256 < x)) = false := by
    rw [List.any_eq_false]; intro x hx; have := hm x hx; simp; omega
  have hE : docsE L = if docsP L = none then 3 else 0 := by
    unfold docsE; rw [if_neg]; rw [hany]; intro h; rcases h with h | h; omega; cases h
  obtain ⟨A, c, rfl, k1, k2, k3⟩ := h.form
  have hcon := contains_bw _ L w h (fun x hx => by have := hm x hx; omega)
  rw [hany] at hcon
  have HCon := Lib.hid hcon
  have hread := Lib.hid (bwt_read _ L w h hm (by omega))
  have HS := Lib.hid h
  have hP : docsP L = match readA L (L.count 0) 0 L.length [] with | none => none | some (ds, left) => if left = 0 ∧ okDs ds ∧ bwtOf (rowOf ds) = L then some ds else none := by
    unfold docsP readP
    cases readA L (L.count 0) 0 L.length [] with
    | none => rfl
    | some x =>
      obtain ⟨ds, left⟩ := x
      simp only
      by_cases h0 : left = 0
      · rw [if_pos h0]
        simp only [h0, true_and]
      · rw [if_neg h0, if_neg (fun h => h0 h.1)]
  obtain ⟨RES, hRES⟩ : ∃ RES, RES = readA L (L.count 0) 0 L.length [] := ⟨_, rfl⟩
  rw [← hRES] at hP hread
  have HE := Lib.hid hE
  have HP := Lib.hid hP
  clear k3 h hm hany hcon hE hP hRES
  obtain ⟨N, hN⟩ : ∃ N, N = L.length := ⟨_, rfl⟩
  rw [← hN] at HCon hread HS hn k1 ⊢
  clear hN
  go_enter Try.func72, Try.ntmps72
  go_wp2_with fail
  refine HCon.out.mono ?_
  rintro e w0 ⟨rfl, rfl⟩
  go_wp2_with fail
  refine hread.out.mono ?_
  rintro e w1 ⟨hb1, ⟨hnone, rfl⟩ | ⟨ds, left, v1, hsome, rfl, hd1⟩⟩
  · have h3 : Hid (docsE L = 3) := Lib.hid (by rw [HE.out, if_pos]; rw [HP.out, hnone])
    have HB1 := Lib.hid hb1
    clear hb1 hnone
    go_wp2_with fail
    go_ret2
    exact ⟨HB1.out, .inl ⟨by rw [h3.out]; decide, by rw [h3.out]; rfl⟩⟩
  · rw [hsome] at HP
    obtain ⟨A1, c1, rfl, m1, m2, _⟩ := hd1.form
    have HD1 := Lib.hid hd1
    have HB1 := Lib.hid hb1
    by_cases h0 : left = 0
    · have hd0 : decide (left = 0) = true := by simpa using h0
      rw [hd0]
      have hnew := Lib.hid (text_new ds _ w1 hd1)
      have hm0 := mayE_zero ds
      have HP2 : Hid (docsP L = if okDs ds ∧ bwtOf (rowOf ds) = L then some ds else none) := Lib.hid (by rw [HP.out]; simp only [h0, true_and])
      clear hsome hd1 hb1 h0 hd0 HP
      go_wp2_with fail
      refine hnew.out.mono ?_
      rintro e w2 ⟨hb2, ⟨hne, rfl⟩ | ⟨hz, b, hb, rfl, ht⟩⟩
      · have h3 : Hid (docsE L = 3) := Lib.hid (by
          rw [HE.out, if_pos]; rw [HP2.out, if_neg]; intro h; exact hne (hm0.2 h.1))
        have hb2' : Hid (Below w0.heap.size w0 w2) := Lib.hid (HB1.out.trans (hb2.mono HB1.out.size))
        have hq : ((mayE ds : Int) != 0) = true := by simp; omega
        clear hb2 hm0 hne
        generalize mayE ds = E at *
        go_wp2_with fail
        go_ret2
        exact ⟨hb2'.out, .inl ⟨by rw [h3.out]; decide, by rw [h3.out]; rfl⟩⟩
      · have hok := hm0.1 hz
        have hof := Lib.hid (bwt_of b ds w2 ht hok.2.2 hok.1)
        have hb2' : Hid (Below w0.heap.size w0 w2) := Lib.hid (HB1.out.trans (hb2.mono HB1.out.size))
        have HD2 : Hid (DocsR w2 (.slice A1 ds.length c1) ds) := Lib.hid (HD1.out.below (Nat.le_refl _) hb2)
        have HOk := Lib.hid hok
        clear hb2 hm0 hz ht hok hnew
        go_wp2_with fail
        refine hof.out.mono ?_
        rintro e w3 ⟨A3, rfl, hs3, hb3⟩
        have hb3' : Hid (Below w0.heap.size w0 w3) := Lib.hid (hb2'.out.trans (hb3.mono hb2'.out.size))
        have HD3 : Hid (DocsR w3 (.slice A1 ds.length c1) ds) := Lib.hid (HD2.out.below (Nat.le_refl _) hb3)
        have heq := Lib.hid (equal_sy _ _ (bwtOf (rowOf ds)) L w3 hs3 (HS.out.below (Nat.le_refl _) hb3'.out))
        clear hb3 hs3 hof
        by_cases hL : bwtOf (rowOf ds) = L
        · have hdL : decide (bwtOf (rowOf ds) = L) = true := by simpa using hL
          rw [hdL] at heq
          have HPs : Hid (docsP L = some ds) := Lib.hid (by rw [HP2.out, if_pos ⟨HOk.out, hL⟩])
          have HE0 : Hid (docsE L = 0) := Lib.hid (by rw [HE.out, if_neg]; rw [HPs.out]; intro h; cases h)
          clear hL hdL
          generalize (bwtOf (rowOf ds)).length = K at *
          go_wp2_with fail
          refine heq.out.mono ?_
          rintro e w4 ⟨rfl, q, rfl⟩
          have hclip := Lib.hid (clip_ds A1 ds.length c1 (w3.drewN q) m1 m2)
          go_wp2_with fail
          refine hclip.out.mono ?_
          rintro e w5 ⟨rfl, rfl⟩
          go_wp2_with fail
          go_ret2
          refine ⟨below_drewN hb3'.out q, .inr ⟨HE0.out, ds, _, HPs.out, rfl, ?_⟩⟩
          have h1 : DocsR (w3.drewN q) (.slice A1 ds.length c1) ds := HD3.out.below (Nat.le_refl _) (below_drewN (Below.refl _ _) q)
          obtain ⟨vs, a1, a2, a3⟩ := h1
          exact ⟨vs, a1, a2.clip, a3⟩
        · have hdL : decide (bwtOf (rowOf ds) = L) = false := by simpa using hL
          rw [hdL] at heq
          have HPn : Hid (docsP L = none) := Lib.hid (by rw [HP2.out, if_neg (fun h => hL h.2)])
          have HE3 : Hid (docsE L = 3) := Lib.hid (by rw [HE.out, if_pos HPn.out])
          clear hL hdL
          generalize (bwtOf (rowOf ds)).length = K at *
          go_wp2_with fail
          refine heq.out.mono ?_
          rintro e w4 ⟨rfl, q, rfl⟩
          go_wp2_with fail
          go_ret2
          exact ⟨below_drewN hb3'.out q, .inl ⟨by rw [HE3.out]; decide, by rw [HE3.out]; rfl⟩⟩
    · have hd0 : decide (left = 0) = false := by simpa using h0
      rw [hd0]
      have h3 : Hid (docsE L = 3) := Lib.hid (by rw [HE.out, if_pos]; rw [HP.out]; simp only [h0, false_and, if_false])
      clear hsome hd1 hb1 h0 hd0 HP
      go_wp2_with fail
      go_ret2
      exact ⟨HB1.out, .inl ⟨by rw [h3.out]; decide, by rw [h3.out]; rfl⟩⟩
/-- bwt.Docs, at any row -/
theorem bwt_docs (v : Value) (L : List Nat) (w : World) (h : SlR symV w v L) (hm : ∀ x ∈ L, x ≤ 65535) : Calls Try.prog 72 #[v] w (DocsPost L w) := by
  by_cases hbad : 60500 < L.length ∨ L.any (fun x => decide (256 < x)) = true
  · exact bwt_docs_one v L w h hm hbad
  · refine bwt_docs_good v L w h (by omega) (fun x hx => ?_)
    have : L.any (fun x => decide (256 < x)) = false := by
      cases hh : L.any (fun x => decide (256 < x)) with
      | false => rfl
      | true => exact absurd (.inr hh) hbad
    rw [List.any_eq_false] at this
    have := this x hx
    simp at this; exact this
end Go.Proofs.Ytinlmodkdjpocaa
