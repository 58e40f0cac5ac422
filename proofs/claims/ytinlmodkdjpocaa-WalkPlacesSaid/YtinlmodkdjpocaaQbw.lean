/- bwt: Of. bwt: Starts, steps. bwt: steps. -/
import Derived.Test.YtinlmodkdjpocaaQst
import Derived.Test.YtinlmodkdjpocaaQwv
import Derived.Deep.WholeRow
import Derived.Laws.Tables
set_option linter.unusedVariables false
namespace Go.Proofs.Ytinlmodkdjpocaa
open Go.RowKit

theorem suf_array (b : Nat) (ds : List (List UInt8)) (w : World) (h : TextR w b ds) (hn : (rowOf ds).length ≤ 60000) (hd : ds.length ≤ 500) :
    Calls Try.prog 108 #[.pointer (some ⟨b, 0, none⟩)] w fun e w' => ∃ v, e = .returned v ∧ NaO w.heap.size w' v (saOf (rowOf ds)) ∧ Below w.heap.size w w' := by
  by_cases hpos : 0 < (rowOf ds).length
  · exact suf_array_some b ds w h hn hd hpos
  · have hlen := text_len2 b ds w h
    have h0 : (rowOf ds).length = 0 := by omega
    have hsa : saOf (rowOf ds) = [] := by rw [List.eq_nil_of_length_eq_zero h0]; simp [saOf]
    rw [h0] at hlen
    rw [hsa]
    clear hsa h0 hpos hn h
    go_enter Try.func108, Try.ntmps108
    go_wp2_with (go_at_call 24; (with_reducible refine (hlen.out _ (Below.refl _ _)).mono ?_); rintro e w0 ⟨rfl, rfl⟩)
    go_ret
    exact ⟨_, rfl, World.ownsRow_nil _ _ _ _, Below.refl _ _⟩

theorem ahead_lt {row : List Nat} (h : ∀ x ∈ row, x ≤ 256) (p : Nat) : ahead row p ≤ 256 := by
  unfold ahead
  split
  · omega
  · unfold symP
    rw [List.getD_eq_getElem?_getD]
    cases he : row[p - 1]? with
    | none => simp
    | some x => exact h x (List.mem_of_getElem? he)
theorem SyO.snoc {base : Nat} {W : World} {v : Value} {l : List Nat} {x n : Nat} (h : W.ownsRow base 95 1 v n (l.map symV ++ [.int .u16 (x : Int)])) (hn : n = l.length + 1) : SyO base W v (l ++ [x]) := by
  refine SyO.of (n := n) ?_ (by simp [hn])
  rw [List.map_append]; exact h
def OfPost (L : List Nat) (w : World) (e : Ending) (w' : World) : Prop := ∃ A, e = .returned (.slice A L.length L.length) ∧ SlR symV w' (.slice A L.length L.length) L ∧ Below w.heap.size w w'
set_option maxRecDepth 100000 in
set_option maxHeartbeats 4000000 in
theorem bwt_of (b : Nat) (ds : List (List UInt8)) (w : World) (h : TextR w b ds) (hn : (rowOf ds).length ≤ 60000) (hd : ds.length ≤ 500) :
    Calls Try.prog 79 #[.pointer (some ⟨b, 0, none⟩)] w (OfPost (bwtOf (rowOf ds)) w) := by
  obtain ⟨dv, av, rv, h0, h1, h2, hd2, _, h3⟩ := h.cells
  have hrow := Lib.hid (text_row b rv w h2)
  obtain ⟨A, c, rfl, k1, k2, k3⟩ := h3.form
  have harr := Lib.hid (suf_array b ds w h hn hd)
  have hr := rowOk_rowOf ds
  have hle := rowOf_le ds
  have hcell : ∀ p, 0 < p → p < (rowOf ds).length → ∃ ad, A = some ad ∧ w.cell? (ad.add (p - 1)) = some (.int .u16 (ahead (rowOf ds) p : Nat)) := by
    intro p hp hpl
    obtain ⟨ad, hA, hc⟩ := k3 (p - 1) (by omega)
    refine ⟨ad, hA, ?_⟩
    have : ahead (rowOf ds) p = (rowOf ds)[p - 1] := by
      unfold ahead; rw [if_neg (by omega)]; exact symP_of (List.getElem?_eq_getElem (by omega))
    rw [this]; exact hc
  have hsl := saOf_length hr
  have hsm : ∀ j (hj : j < (saOf (rowOf ds)).length), (saOf (rowOf ds))[j] < (rowOf ds).length := fun j hj => (saOf_is hr).get_lt j hj
  have hah := fun p => ahead_lt hle p
  have HC := Lib.hid hcell
  have HSm := Lib.hid hsm
  have HAh := Lib.hid hah
  have HBw : Hid (bwtOf (rowOf ds) = (saOf (rowOf ds)).map (ahead (rowOf ds))) := Lib.hid rfl
  clear k3 hcell h h0 h1 h2 hd2 h3 hle hr hsm hah
  generalize saOf (rowOf ds) = sa at *
  obtain ⟨N, hN⟩ : ∃ N, N = (rowOf ds).length := ⟨_, rfl⟩
  rw [← hN] at hsl hn k1 hrow HSm HC
  have HN := Lib.hid hN
  have HSl := Lib.hid hsl
  have hbl : (bwtOf (rowOf ds)).length = N := by rw [HBw.out, List.length_map, hsl]
  obtain ⟨L, hL⟩ : ∃ L, L = bwtOf (rowOf ds) := ⟨_, rfl⟩
  rw [← hL] at hbl ⊢
  have HL : Hid (L = sa.map (ahead (rowOf ds))) := Lib.hid (by rw [hL, HBw.out])
  clear HBw hL
  have HBl := Lib.hid hbl
  clear hN hsl hbl
  go_enter Try.func79, Try.ntmps79
  go_wp2_with fail
  refine hrow.out.mono ?_
  rintro e w0 ⟨rfl, rfl⟩
  go_wp2_with fail
  refine harr.out.mono ?_
  rintro e w1 ⟨v1, rfl, ho1, hb1⟩
  obtain ⟨As, cs, hv⟩ := ho1.form
  rw [HSl.out] at hv
  subst hv
  have HO1 := Lib.hid ho1
  have HB1 := Lib.hid hb1
  have hs1 := hb1.size
  clear ho1 hb1 harr hrow
  go_wp2_with fail
  go_loopw [4, 15] (fun v ix wr => ∃ j : Nat, j ≤ N ∧ ix = .int .i64 j ∧ SyO w1.heap.size wr v (L.take j) ∧ Below w1.heap.size w1 wr) (fun _ ix _ => N - (intOf ix).toNat)
  case atStart => exact ⟨0, Nat.zero_le _, rfl, World.ownsRow_nil _ _ _ _, Below.refl _ _⟩
  case round =>
    obtain ⟨j, hj, rfl, ho, hbe⟩ := hrel
    obtain ⟨Av, cv, hv⟩ := ho.form
    have hlen : (L.take j).length = j := by rw [List.length_take, HBl.out]; omega
    rw [hlen] at hv
    subst hv
    have HO := Lib.hid ho
    have HB := Lib.hid hbe
    have hsz := hbe.size
    by_cases hlt : j < N
    · have hjl : j < sa.length := by rw [HSl.out]; exact hlt
      obtain ⟨ad, cc, hsv, hc⟩ := HO1.out.at_ j hjl
      injection hsv with hA e2 e3
      subst hA
      clear e2 e3
      have hc1 : wr.cell? (ad.add j) = some (.int .i64 (sa[j] : Nat)) := (hbe.cell (World.block_lt_of_cell? w1 _ hc)).trans hc
      have hpN := HSm.out j hjl
      have hap := HAh.out sa[j]
      have HOn : Hid (wr.ownsRow w1.heap.size 95 1 (.slice Av j cv) j ((L.take j).map symV)) := Lib.hid (by have := HO.out; unfold SyO at this; rw [hlen] at this; exact this)
      have hcx : 0 < sa[j] → ∃ ad, A = some ad ∧ wr.cell? (ad.add (sa[j] - 1)) = some (.int .u16 (ahead (rowOf ds) sa[j] : Nat)) := fun hp => by
        obtain ⟨ad2, hA2, hc2⟩ := HC.out sa[j] hp hpN
        exact ⟨ad2, hA2, (hbe.cell (Nat.lt_of_lt_of_le (World.block_lt_of_cell? w0 _ hc2) hs1)).trans ((HB1.out.cell (World.block_lt_of_cell? w0 _ hc2)).trans hc2)⟩
      have hnx : L.take (j + 1) = L.take j ++ [ahead (rowOf ds) sa[j]] := by
        rw [HL.out, ← List.map_take, ← List.map_take, List.take_succ_eq_append_getElem hjl, List.map_append]; rfl
      have h00 : ahead (rowOf ds) 0 = 0 := rfl
      obtain ⟨p, hp⟩ : ∃ p, p = sa[j] := ⟨_, rfl⟩
      rw [← hp] at hc1 hpN hap hcx hnx
      have HNx := Lib.hid hnx
      have H00 := Lib.hid h00
      clear hc hp hnx ho hbe h00
      by_cases hp0 : 0 < p
      · obtain ⟨ad2, rfl, hc2⟩ := hcx hp0
        clear hcx H00
        have m1 : (p : Int) - 1 = ((p - 1 : Nat) : Int) := by omega
        have hpl : p - 1 < N := by omega
        generalize ahead (rowOf ds) p = x at *
        go_wp2_with (at_builtin; refine wp_app w1.heap.size 51 95 (.int .u16 0) 1 2 (.tmp 26) (.tmp 28) rfl rfl Try.underlying51 info_u16 rfl (by decide) (by decide) (.slice Av j cv) j _ #[.int .u16 (x : Nat)] rfl rfl HOn.out rfl (by intro u hu; simp at hu; subst hu; rfl) (by omega) hsz ?_; intro g cap w6 ho6 hg6 hat6 hgb6 hgl6 hgs6; have HO6 := Lib.hid ho6; have HG6 := Lib.hid hg6; clear ho6 hg6 hat6)
        go_roundw
        case rel =>
          refine ⟨j + 1, by omega, by go_num, ?_, HB.out.grown HG6.out hsz (fun g hg => (HO.out.lt g hg).1)⟩
          rw [HNx.out]
          exact SyO.snoc HO6.out (by rw [hlen])
        case measure => simp [intOf]; omega
      · obtain rfl : p = 0 := by omega
        rw [H00.out] at HNx
        clear hcx hap H00 hp0
        have hc1' : wr.cell? (ad.add j) = some (.int .i64 0) := hc1
        clear hc1
        go_wp2_with (at_builtin; refine wp_app w1.heap.size 51 95 (.int .u16 0) 1 2 (.tmp 26) (.tmp 28) rfl rfl Try.underlying51 info_u16 rfl (by decide) (by decide) (.slice Av j cv) j _ #[.int .u16 0] rfl rfl HOn.out rfl (by intro u hu; simp at hu; subst hu; rfl) (by omega) hsz ?_; intro g cap w6 ho6 hg6 hat6 hgb6 hgl6 hgs6; have HO6 := Lib.hid ho6; have HG6 := Lib.hid hg6; clear ho6 hg6 hat6)
        go_roundw
        case rel =>
          refine ⟨j + 1, by omega, by go_num, ?_, HB.out.grown HG6.out hsz (fun g hg => (HO.out.lt g hg).1)⟩
          rw [HNx.out]
          exact SyO.snoc HO6.out (by rw [hlen])
        case measure => simp [intOf]; omega
    · obtain rfl : N = j := by omega
      have hfin : SyO w1.heap.size wr (.slice Av N cv) L := by
        rw [← List.take_length (l := L), HBl.out]; exact ho
      obtain ⟨A9, c9, he9, q1, q2, _⟩ := hfin.slT.1.form
      injection he9 with e1 e2 e3
      subst e1 e3
      rw [HBl.out] at q1
      have hclip := Lib.hid (clip_sy Av N cv wr q1 q2)
      have HF : Hid (SlR symV wr (.slice Av N N) L) := Lib.hid (by have := hfin.slT.1.clip; exact this)
      have HBB : Hid (Below w0.heap.size w0 wr) := Lib.hid (HB1.out.trans (hbe.mono HB1.out.size))
      clear hfin ho hbe e2 hlt hj hlen q1
      go_wp2_with fail
      refine hclip.out.mono ?_
      rintro e w5 ⟨rfl, rfl⟩
      go_wp2_with fail
      go_ret
      exact ⟨Av, by rw [HBl.out]; rfl, by rw [HBl.out]; exact HF.out, HBB.out⟩
end Go.Proofs.Ytinlmodkdjpocaa

set_option linter.unusedVariables false
namespace Go.Proofs.Ytinlmodkdjpocaa
open Go.RowKit

theorem info_arr : (Try.prog.info? 104).map (fun i => (i.zero, i.size)) = some (some (.agg ((List.replicate 257 0).map natV).toArray), 257) := by kernel_rfl
/-- a whole block of an array -/
def ArrB (W : World) (B : Nat) (l : List Nat) : Prop := W.heap[B]? = some (.cells (l.map natV).toArray 104 (0, 0))
theorem ArrB.cell {W : World} {B : Nat} {l : List Nat} (h : ArrB W B l) (i x : Nat) (hi : l[i]? = some x) : W.cell? ⟨B, i, none⟩ = some (.int .i64 (x : Int)) ∧ W.frozen? ⟨B, i, none⟩ = false := by
  refine ⟨?_, free_of_block h⟩
  rw [cell_of_block h]; simp [hi, natV]
theorem ArrB.put {W : World} {B : Nat} {l : List Nat} (h : ArrB W B l) (i x : Nat) : ArrB (W.setCell ⟨B, i, none⟩ (.int .i64 (x : Int))) B (l.set i x) := by
  unfold ArrB
  rw [heap_setCell_same h]
  have := map_set_arr natV l i x
  unfold natV at this ⊢
  rw [this]
theorem ArrB.other {W : World} {B : Nat} {l : List Nat} (h : ArrB W B l) (a : Addr) (u : Value) (hne : B ≠ a.block) : ArrB (W.setCell a u) B l := by
  unfold ArrB
  rw [Below.heap_setCell _ _ _ _ hne]; exact h
theorem ArrB.alloc {W : World} {B : Nat} {l : List Nat} (h : ArrB W B l) (o : Obj) : ArrB (W.alloc o) B l := heap_old h
theorem ArrB.below {W W2 : World} {B : Nat} {l : List Nat} (h : ArrB W B l) (hb : Below W.heap.size W W2) : ArrB W2 B l := (hb.block B (Array.getElem?_eq_some_iff.1 h).1).trans h

/-- how many are below each symbol -/
def startsL (L : List Nat) : List Nat := (List.range 257).map (belowL L)
def cntsL (L : List Nat) (j : Nat) : List Nat := (List.range 257).map (fun c => (L.take j).count c)
def partS (L : List Nat) (c : Nat) : List Nat := (List.range 257).map (fun m => if m ≤ c then belowL L m else 0)
theorem get257 {f : Nat → Nat} (m : Nat) (h : m < 257) : ((List.range 257).map f)[m]? = some (f m) := by simp [h]
theorem map_zero_range (n : Nat) (f : Nat → Nat) (h : ∀ i, i < n → f i = 0) : (List.range n).map f = List.replicate n 0 := by
  refine List.eq_replicate_iff.2 ⟨by simp, ?_⟩
  intro x hx
  simp only [List.mem_map, List.mem_range] at hx
  obtain ⟨i, hi, rfl⟩ := hx
  exact h i hi
theorem cntsL_zero (L : List Nat) : cntsL L 0 = List.replicate 257 0 := map_zero_range 257 _ (fun i _ => by rw [List.take_zero]; rfl)
theorem cntsL_next (L : List Nat) (j : Nat) (h : j < L.length) : (cntsL L j).set L[j] ((L.take j).count L[j] + 1) = cntsL L (j + 1) := by
  unfold cntsL
  rw [map_range_set]
  apply List.map_congr_left
  intro m _
  rw [List.take_succ_eq_append_getElem h, List.count_append]
  by_cases e : m = L[j]
  · subst e; simp
  · rw [if_neg e]
    have : List.count m [L[j]] = 0 := by simp [List.count_cons]; exact fun h => e h.symm
    omega
theorem belowL_succ (L : List Nat) (c : Nat) : belowL L (c + 1) = belowL L c + L.count c := by
  unfold belowL
  induction L with
  | nil => rfl
  | cons a L ih =>
    simp only [List.countP_cons, List.count_cons, ih]
    rcases Nat.lt_trichotomy a c with h | h | h
    · have h1 : decide (a < c + 1) = true := by simp; omega
      have h2 : decide (a < c) = true := by simpa using h
      have h3 : (a == c) = false := by simp; omega
      simp only [h1, h2, h3, if_true, Bool.false_eq_true, if_false]; omega
    · have h1 : decide (a < c + 1) = true := by simp; omega
      have h2 : decide (a < c) = false := by simp; omega
      have h3 : (a == c) = true := by simp; omega
      simp only [h1, h2, h3, if_true, Bool.false_eq_true, if_false]; omega
    · have h1 : decide (a < c + 1) = false := by simp; omega
      have h2 : decide (a < c) = false := by simp; omega
      have h3 : (a == c) = false := by simp; omega
      simp only [h1, h2, h3, Bool.false_eq_true, if_false]; omega
theorem belowL_zero (L : List Nat) : belowL L 0 = 0 := by unfold belowL; rw [List.countP_eq_zero]; intro a _; simp
theorem belowL_le (L : List Nat) (c : Nat) : belowL L c ≤ L.length := List.countP_le_length
theorem partS_zero (L : List Nat) : partS L 0 = List.replicate 257 0 := map_zero_range 257 _ (fun i _ => by
  by_cases e : i ≤ 0
  · obtain rfl : i = 0 := by omega
    rw [if_pos (Nat.le_refl _), belowL_zero]
  · rw [if_neg e])
theorem partS_next (L : List Nat) (c : Nat) : (partS L c).set (c + 1) (belowL L c + L.count c) = partS L (c + 1) := by
  unfold partS
  rw [map_range_set]
  apply List.map_congr_left
  intro m _
  by_cases e : m = c + 1
  · subst e; rw [if_pos rfl, if_pos (Nat.le_refl _), belowL_succ]
  · rw [if_neg e]
    by_cases h : m ≤ c
    · rw [if_pos h, if_pos (by omega)]
    · rw [if_neg h, if_neg (by omega)]
theorem partS_end (L : List Nat) : partS L 256 = startsL L := by
  unfold partS startsL
  apply List.map_congr_left
  intro m hm
  rw [List.mem_range] at hm
  rw [if_pos (by omega)]

theorem startsL_size (L : List Nat) : ((startsL L).map natV).toArray.size = 257 := by rw [List.size_toArray, List.length_map, startsL, List.length_map, List.length_range]
theorem setRow_same {W : World} {g : Nat} {cs : Array Value} {T : TypeId} (h : W.heap[g]? = some (.cells cs T (0, 0))) (C : Array Value) : (W.setRow g C).heap[g]? = some (.cells C T (0, 0)) := by
  obtain ⟨hlt, he⟩ := Array.getElem?_eq_some_iff.1 h
  simp only [World.setRow, Array.getElem?_modify, if_true]
  rw [h]; rfl
theorem below_setRow {B : Nat} {w W : World} (h : Below B w W) {g : Nat} (hg : B ≤ g) (C : Array Value) : Below B w (W.setRow g C) :=
  h.trans ⟨rfl, rfl, rfl, by simp [World.setRow], fun i hi => by simp only [World.setRow, Array.getElem?_modify]; rw [if_neg (by omega)]⟩
set_option maxRecDepth 100000 in
set_option maxHeartbeats 1000000 in
theorem bwt_starts (v : Value) (L : List Nat) (w : World) (h : SlR symV w v L) (hm : ∀ x ∈ L, x ≤ 256) (hn : L.length ≤ 100000) :
    Calls Try.prog 105 #[v] w fun e w' => e = .returned (.agg ((startsL L).map natV).toArray) ∧ Below w.heap.size w w' := by
  obtain ⟨A, c, rfl, k1, k2, k3⟩ := h.form
  obtain ⟨hz, hsz⟩ := zero_of_info info_arr
  have hcell : ∀ j (hj : j < L.length), ∃ (x : Nat) (ad : Addr), A = some ad ∧ x = L[j] ∧ x ≤ 256 ∧ w.cell? (ad.add j) = some (.int .u16 (x : Int)) := by
    intro j hj
    obtain ⟨ad, hA, hc⟩ := k3 j hj
    exact ⟨_, ad, hA, rfl, hm _ (List.getElem_mem hj), hc⟩
  have HC := Lib.hid hcell
  have hZs : ∀ i : Nat, True := fun _ => trivial
  obtain ⟨Z, hZ⟩ : ∃ Z, Z = ((List.replicate 257 0).map natV).toArray := ⟨_, rfl⟩
  rw [← hZ] at hz
  clear k3 hcell h hm hZs
  obtain ⟨N, hN⟩ : ∃ N, N = L.length := ⟨_, rfl⟩
  have HN := Lib.hid hN
  rw [← hN] at hn k1 ⊢
  have HSz := Lib.hid hsz
  clear hN hsz
  have HZ := Lib.hid hZ
  clear hZ
  go_enter Try.func105, Try.ntmps105
  go_wp2_with fail
  obtain ⟨b, hb⟩ : ∃ b, b = w.heap.size := ⟨_, rfl⟩
  obtain ⟨w3, hw3⟩ : ∃ w3, w3 = ((w.alloc (.cells Z 104)).alloc (.cells Z 104)).alloc (.cells Z 104) := ⟨_, rfl⟩
  have X2 : ArrB w3 (b + 1) (cntsL L 0) := by
    unfold ArrB
    rw [hw3, cntsL_zero, ← HZ.out, hb]
    have := heap_alloc_new (w.alloc (.cells Z 104)) (.cells Z 104)
    rw [World.size_alloc] at this
    exact heap_old this
  have X3 : ArrB w3 (b + 1 + 1) (partS L 0) := by
    unfold ArrB
    rw [hw3, partS_zero, ← HZ.out, hb]
    have := heap_alloc_new ((w.alloc (.cells Z 104)).alloc (.cells Z 104)) (.cells Z 104)
    simp only [World.size_alloc] at this
    exact this
  have X1 : w3.heap[b]? = some (.cells Z 104 (0, 0)) := by
    rw [hw3, hb]; exact heap_old (heap_old (heap_alloc_new w _))
  have X4 : Below b w w3 := by
    rw [hw3, hb]; exact (((Below.refl _ w).alloc (Nat.le_refl _) _).alloc (by simp) _).alloc (by simp; omega) _
  rw [← hw3, ← hb]
  have H1 := Lib.hid X1
  have H2 := Lib.hid X2
  have H3 := Lib.hid X3
  have H4 := Lib.hid X4
  have HB := Lib.hid hb
  clear hw3 X1 X2 X3 X4 hb hz
  go_loopw [10] (fun ix wr => ∃ j : Nat, j ≤ N ∧ ix = .int .i64 j ∧ ArrB wr (b + 1) (cntsL L j) ∧ ArrB wr (b + 1 + 1) (partS L 0) ∧ wr.heap[b]? = some (.cells Z 104 (0, 0)) ∧ Below b w wr) (fun ix _ => N - (intOf ix).toNat)
  case atStart => exact ⟨0, Nat.zero_le _, rfl, H2.out, H3.out, H1.out, H4.out⟩
  case round =>
    clear H1 H2 H3 H4
    obtain ⟨j, hj, rfl, h2, h3, h1, hbe⟩ := hrel
    by_cases hlt : j < N
    · have hjl : j < L.length := by rw [← HN.out]; exact hlt
      obtain ⟨x, ad, rfl, hx, hx2, hc⟩ := HC.out j hjl
      have hc1 : wr.cell? (ad.add j) = some (.int .u16 (x : Int)) := (hbe.cell (by rw [HB.out]; exact World.block_lt_of_cell? w _ hc)).trans hc
      have hnx := cntsL_next L j hjl
      rw [← hx] at hnx
      obtain ⟨a1, a2⟩ := h2.cell x _ (get257 x (by omega))
      have hle : (L.take j).count x ≤ j := Nat.le_trans List.count_le_length (by rw [List.length_take]; omega)
      have hput := h2.put x ((L.take j).count x + 1)
      rw [hnx] at hput
      have H2 := Lib.hid hput
      have H3 := Lib.hid (h3.other ⟨b + 1, x, none⟩ (.int .i64 (((L.take j).count x + 1 : Nat) : Int)) (by show b + 1 + 1 ≠ b + 1; omega))
      have H1 : Hid ((wr.setCell ⟨b + 1, x, none⟩ (.int .i64 (((L.take j).count x + 1 : Nat) : Int))).heap[b]? = some (.cells Z 104 (0, 0))) := Lib.hid (by
        rw [Below.heap_setCell _ _ _ _ (by show b ≠ b + 1; omega)]; exact h1)
      have H4 := Lib.hid (hbe.setCell (p := ⟨b + 1, x, none⟩) (by show b ≤ b + 1; omega) (.int .i64 (((L.take j).count x + 1 : Nat) : Int)))
      generalize (L.take j).count x = n at *
      clear hput hnx h1 h2 h3 hbe hc hx
      go_wp2_with fail
      go_roundw
      case rel => exact ⟨j + 1, by omega, by go_num, H2.out, H3.out, H1.out, H4.out⟩
      case measure => simp [intOf]; omega
    · obtain rfl : N = j := by omega
      have h2' : ArrB wr (b + 1) (cntsL L L.length) := by rw [← HN.out]; exact h2
      have H2 := Lib.hid h2'
      have H3 := Lib.hid h3
      have H1 := Lib.hid h1
      have H4 := Lib.hid hbe
      have hcl : Hid (∀ c, (L.take L.length).count c = L.count c) := Lib.hid (fun c => by rw [List.take_length])
      obtain ⟨w4, hw4⟩ : ∃ w4, w4 = wr := ⟨_, rfl⟩
      rw [← hw4] at H1 H2 H3 H4 ⊢
      clear hw4 h1 h2 h3 h2' hbe hlt hj
      go_wp2_with fail
      go_loopw [22] (fun ix wr => ∃ j : Nat, j ≤ 256 ∧ ix = .int .i64 j ∧ ArrB wr (b + 1) (cntsL L L.length) ∧ ArrB wr (b + 1 + 1) (partS L j) ∧ wr.heap[b]? = some (.cells Z 104 (0, 0)) ∧ Below b w wr) (fun ix _ => 256 - (intOf ix).toNat)
      case atStart => exact ⟨0, Nat.zero_le _, rfl, H2.out, H3.out, H1.out, H4.out⟩
      case round =>
        clear H1 H2 H3 H4
        obtain ⟨j, hj, rfl, h2, h3, h1, hbe⟩ := hrel
        by_cases hlt : j < 256
        · obtain ⟨a1, a2⟩ := h2.cell j _ (get257 j (by omega))
          rw [hcl.out] at a1
          obtain ⟨b1, b2⟩ := h3.cell j _ (get257 j (by omega))
          rw [if_pos (Nat.le_refl _)] at b1
          obtain ⟨d1, d2⟩ := h3.cell (j + 1) _ (get257 (j + 1) (by omega))
          have l1 : L.count j ≤ N := by rw [HN.out]; exact List.count_le_length
          have l2 : belowL L j ≤ N := by rw [HN.out]; exact belowL_le L j
          have hput := (show ArrB wr.drew _ _ from h3).put (j + 1) (belowL L j + L.count j)
          rw [partS_next] at hput
          have H3 := Lib.hid hput
          have H2 := Lib.hid ((show ArrB wr.drew _ _ from h2).other ⟨b + 1 + 1, j + 1, none⟩ (.int .i64 ((belowL L j + L.count j : Nat) : Int)) (by show b + 1 ≠ b + 1 + 1; omega))
          have H1 : Hid ((wr.drew.setCell ⟨b + 1 + 1, j + 1, none⟩ (.int .i64 ((belowL L j + L.count j : Nat) : Int))).heap[b]? = some (.cells Z 104 (0, 0))) := Lib.hid (by
            rw [Below.heap_setCell _ _ _ _ (by show b ≠ b + 1 + 1; omega)]; exact h1)
          have H4 := Lib.hid (hbe.drew.setCell (p := ⟨b + 1 + 1, j + 1, none⟩) (by show b ≤ b + 1 + 1; omega) (.int .i64 ((belowL L j + L.count j : Nat) : Int)))
          generalize L.count j = x at *
          generalize belowL L j = y at *
          have q1 : IntKind.i64.wrap ((j : Int) + 1) = (j : Int) + 1 := IntWalk.i64_in _ (by omega)
          have q2 : IntKind.i64.wrap ((y : Int) + (x : Nat)) = (y : Int) + (x : Nat) := IntWalk.i64_in _ (by omega)
          have q3 : (j : Int) < 257 := by omega
          have q4 : (j : Int) + 1 < 257 := by omega
          have q5 : ((j : Int) + 1).toNat = j + 1 := by omega
          have q6 : (0 : Int) ≤ (j : Int) + 1 := by omega
          clear hput h1 h2 h3 hbe
          go_wp2_with fail
          go_still_tail 9, (by kernel_rfl)
          change wpList _ _ _ _ _ wr.drew
          go_wp2_with fail
          go_roundw
          case rel => exact ⟨j + 1, by omega, by go_num, H2.out, H3.out, H1.out, H4.out⟩
          case measure => simp [intOf]; omega
        · obtain rfl : j = 256 := by omega
          rw [partS_end] at h3
          have H3 := Lib.hid h3
          have H1 := Lib.hid h1
          have H4 := Lib.hid hbe
          have hzl : Z.size = 257 := by rw [HZ.out]; simp
          have HZl := Lib.hid hzl
          clear h1 h2 h3 hbe hlt hj hzl
          have hsl : (Try.prog.info? 104).map (·.size) = some ((startsL L).map natV).toArray.size := by rw [HSz.out, startsL_size]
          have hsl2 : Z.size = ((startsL L).map natV).toArray.size := by rw [HZl.out, startsL_size]
          have HSl := Lib.hid hsl
          have HSl2 := Lib.hid hsl2
          have h1c : Hid (((startsL L).map natV).toArray.all (·.oneCell') = true) := Lib.hid (by
            rw [Array.all_eq_true_iff_forall_mem]
            intro u hu
            exact oneCell_map (fun _ => rfl) (startsL L) u (by simpa using hu))
          have HF1 : Hid ((wr.setRow b ((startsL L).map natV).toArray).heap[b]? = some (.cells ((startsL L).map natV).toArray 104 (0, 0))) := Lib.hid (setRow_same H1.out _)
          have HF2 : Hid (Below w.heap.size w (wr.setRow b ((startsL L).map natV).toArray)) := Lib.hid (by rw [← HB.out]; exact below_setRow H4.out (Nat.le_refl _) _)
          have H3c : Hid (wr.heap[b + 1 + 1]? = some (.cells ((startsL L).map natV).toArray 104 (0, 0))) := Lib.hid H3.out
          clear hsl hsl2 H3
          obtain ⟨C, hC⟩ : ∃ C, C = ((startsL L).map natV).toArray := ⟨_, rfl⟩
          rw [← hC] at HSl HSl2 h1c HF1 HF2 H3c
          have HC2 := Lib.hid hC
          clear hC
          go_wp2_with (first
            | (refine wpList_load_row rfl 104 (.tmp 4) rfl (b + 1 + 1) rfl 104 C (0, 0) _ H3c.out Try.underlying104 rfl HSl.out ?_)
            | (refine wpList_store_row rfl 104 (.tmp 2) (.tmp 36) rfl b C rfl rfl 104 Z H1.out HSl.out HSl2.out h1c.out ?_))
          try simp only [Exit.inBlock, Exit.then]
          refine bodyPost_ret (v := .agg C) (results_cell_row rfl _ _ b 104 C (0, 0) _ rfl HF1.out Try.underlying104 rfl HSl.out) rfl ?_
          exact ⟨by rw [HC2.out], HF2.out⟩
end Go.Proofs.Ytinlmodkdjpocaa

set_option linter.unusedVariables false
namespace Go.Proofs.Ytinlmodkdjpocaa
open Go.RowKit

def stepI (L : List Nat) (i : Nat) : Int := if L.getD i 0 = 0 then -1 else (stepL L i : Nat)
def stepsL (L : List Nat) : List Int := (List.range L.length).map (stepI L)
def stepsU (L : List Nat) (j : Nat) : List Int := (List.range L.length).map (fun i => if i < j then stepI L i else 0)
def atS (L : List Nat) (j : Nat) : List Nat := (List.range 257).map (fun c => if c = 0 then 0 else belowL L c + (L.take j).count c)
theorem stepsU_next (L : List Nat) (j : Nat) (x : Int) : ((stepsU L j).set j x).set j (stepI L j) = stepsU L (j + 1) := by
  rw [List.set_set]
  unfold stepsU
  rw [map_range_set]
  apply List.map_congr_left
  intro i _
  by_cases e : i = j
  · subst e; simp
  · rw [if_neg e]
    by_cases h : i < j
    · rw [if_pos h, if_pos (by omega)]
    · rw [if_neg h, if_neg (by omega)]
theorem stepsU_next0 (L : List Nat) (j : Nat) (h : stepI L j = -1) : (stepsU L j).set j (-1) = stepsU L (j + 1) := by
  have := stepsU_next L j (-1)
  rw [h, List.set_set] at this; exact this
theorem stepsU_end (L : List Nat) : stepsU L L.length = stepsL L := by
  unfold stepsU stepsL
  apply List.map_congr_left
  intro i hi
  rw [List.mem_range] at hi
  rw [if_pos hi]
theorem atS_zero (L : List Nat) : atS L 0 = startsL L := by
  unfold atS startsL
  apply List.map_congr_left
  intro c _
  by_cases e : c = 0
  · subst e; rw [if_pos rfl, belowL_zero]
  · rw [if_neg e, List.take_zero, List.count_nil, Nat.add_zero]
theorem atS_next (L : List Nat) (j : Nat) (h : j < L.length) (h0 : L[j] ≠ 0) : (atS L j).set L[j] (belowL L L[j] + (L.take j).count L[j] + 1) = atS L (j + 1) := by
  unfold atS
  rw [map_range_set]
  apply List.map_congr_left
  intro m _
  rw [List.take_succ_eq_append_getElem h, List.count_append]
  by_cases e : m = L[j]
  · subst e; rw [if_pos rfl, if_neg h0]; simp; omega
  · rw [if_neg e]
    by_cases e0 : m = 0
    · rw [if_pos e0, if_pos e0]
    · rw [if_neg e0, if_neg e0]
      have : List.count m [L[j]] = 0 := by simp [List.count_cons]; exact fun h => e h.symm
      omega
theorem atS_same (L : List Nat) (j : Nat) (h : j < L.length) (h0 : L[j] = 0) : atS L j = atS L (j + 1) := by
  unfold atS
  apply List.map_congr_left
  intro m _
  rw [List.take_succ_eq_append_getElem h, List.count_append, h0]
  by_cases e0 : m = 0
  · rw [if_pos e0, if_pos e0]
  · rw [if_neg e0, if_neg e0]
    have : List.count m [0] = 0 := by simp [List.count_cons]; omega
    omega
/-- a whole block of signed numbers -/
def IzB (W : World) (B : Nat) (l : List Int) : Prop := W.heap[B]? = some (.cells (l.map intV).toArray 3 (0, 0))
theorem IzB.cell {W : World} {B : Nat} {l : List Int} (h : IzB W B l) (i : Nat) (x : Int) (hi : l[i]? = some x) : W.cell? ⟨B, i, none⟩ = some (.int .i64 x) ∧ W.frozen? ⟨B, i, none⟩ = false := by
  refine ⟨?_, free_of_block h⟩
  rw [cell_of_block h]; simp [hi, intV]
theorem IzB.put {W : World} {B : Nat} {l : List Int} (h : IzB W B l) (i : Nat) (x : Int) : IzB (W.setCell ⟨B, i, none⟩ (.int .i64 x)) B (l.set i x) := by
  unfold IzB
  rw [heap_setCell_same h]
  have := map_set_arr intV l i x
  unfold intV at this ⊢
  rw [this]
theorem IzB.other {W : World} {B : Nat} {l : List Int} (h : IzB W B l) (a : Addr) (u : Value) (hne : B ≠ a.block) : IzB (W.setCell a u) B l := by
  unfold IzB
  rw [Below.heap_setCell _ _ _ _ hne]; exact h
theorem IzB.slR {W : World} {B : Nat} {l : List Int} (h : IzB W B l) (hn : l.length ≤ 1000000) : SlR intV W (.slice (some ⟨B, 0, none⟩) l.length l.length) l := by
  refine ⟨_, _, rfl, Nat.le_refl _, by omega, .inr ⟨_, rfl, fun j hj => ?_⟩⟩
  rw [addr_zero, cell_of_block h]; simp [hj]

set_option maxRecDepth 100000 in
set_option maxHeartbeats 1000000 in
theorem bwt_steps (v : Value) (L : List Nat) (w : World) (h : SlR symV w v L) (hm : ∀ x ∈ L, x ≤ 256) (hn : L.length ≤ 100000) :
    Calls Try.prog 122 #[v] w fun e w' => ∃ v', e = .returned v' ∧ SlR intV w' v' (stepsL L) ∧ Below w.heap.size w w' := by
  obtain ⟨A, c, rfl, k1, k2, k3⟩ := h.form
  have hst := Lib.hid (bwt_starts _ L w h hm hn)
  obtain ⟨hz, hsz⟩ := zero_of_info info_arr
  have hcell : ∀ j (hj : j < L.length), ∃ (x : Nat) (ad : Addr), A = some ad ∧ x = L[j] ∧ x ≤ 256 ∧ w.cell? (ad.add j) = some (.int .u16 (x : Int)) := by
    intro j hj
    obtain ⟨ad, hA, hc⟩ := k3 j hj
    exact ⟨_, ad, hA, rfl, hm _ (List.getElem_mem hj), hc⟩
  have HC := Lib.hid hcell
  obtain ⟨Z, hZ⟩ : ∃ Z, Z = ((List.replicate 257 0).map natV).toArray := ⟨_, rfl⟩
  rw [← hZ] at hz
  have hzl : Z.size = 257 := by rw [hZ, List.size_toArray, List.length_map, List.length_replicate]
  have HZl := Lib.hid hzl
  clear k3 hcell h hm hzl hZ
  obtain ⟨N, hN⟩ : ∃ N, N = L.length := ⟨_, rfl⟩
  have HN := Lib.hid hN
  rw [← hN] at hn k1 hst ⊢
  clear hN
  obtain ⟨C, hC⟩ : ∃ C, C = ((startsL L).map natV).toArray := ⟨_, rfl⟩
  rw [← hC] at hst
  have HCC := Lib.hid hC
  have hsl : (Try.prog.info? 104).map (·.size) = some C.size := by rw [hsz, hC, startsL_size]
  have HSl := Lib.hid hsl
  have HSl2 : Hid (Z.size = C.size) := Lib.hid (by rw [HZl.out, hC, startsL_size])
  have h1c : Hid (C.all (·.oneCell') = true) := Lib.hid (by
    rw [hC, Array.all_eq_true_iff_forall_mem]
    intro u hu
    exact oneCell_map (fun _ => rfl) (startsL L) u (by simpa using hu))
  clear hC hsl hsz
  have hmk := fun W => run_make_row' (P := Try.prog) 73 3 (.int .i64 0) 8 Try.underlying73 info_int rfl .i64 .i64 N (by omega) (by omega) W
  go_enter Try.func122, Try.ntmps122
  go_wp2_with fail
  refine hst.out.mono ?_
  rintro e w1 ⟨rfl, hb1⟩
  have HB1 := Lib.hid hb1
  have hnew : Hid ((w1.alloc (.cells Z 104)).heap[w1.heap.size]? = some (.cells Z 104 (0, 0))) := Lib.hid (heap_alloc_new w1 _)
  clear hb1
  go_wp2_with (refine wpList_store_row (w := w1.alloc (.cells Z 104)) rfl 104 (.tmp 3) (.tmp 8) rfl w1.heap.size C rfl rfl 104 Z hnew.out HSl.out HSl2.out h1c.out ?_)
  obtain ⟨b, hb⟩ : ∃ b, b = w1.heap.size := ⟨_, rfl⟩
  obtain ⟨w3, hw3⟩ : ∃ w3, w3 = ((w1.alloc (.cells Z 104)).setRow w1.heap.size C).alloc (.cells (madeCells #[.int .i64 0] N) 3) := ⟨_, rfl⟩
  have hs0 : ((w1.alloc (.cells Z 104)).setRow w1.heap.size C).heap.size = w1.heap.size + 1 := by simp [World.setRow]
  have X1 : ArrB w3 b (atS L 0) := by
    unfold ArrB
    rw [hw3, atS_zero, ← HCC.out, hb]
    exact heap_old (setRow_same hnew.out _)
  have X2 : IzB w3 (b + 1) (stepsU L 0) := by
    unfold IzB
    have h1 := heap_alloc_new ((w1.alloc (.cells Z 104)).setRow w1.heap.size C) (.cells (madeCells #[.int .i64 0] N) 3)
    rw [hs0] at h1
    rw [hw3, hb, h1, made_int]
    have : (stepsU L 0) = List.replicate N 0 := by
      rw [HN.out]
      unfold stepsU
      refine List.eq_replicate_iff.2 ⟨by simp, ?_⟩
      intro x hx
      simp only [List.mem_map, List.mem_range] at hx
      obtain ⟨i, hi, rfl⟩ := hx
      rw [if_neg (Nat.not_lt_zero _)]
    rw [this]
    simp [natV, intV]
  have X3 : Below w1.heap.size w1 w3 := by
    rw [hw3]; exact (below_setRow ((Below.refl _ w1).alloc (Nat.le_refl _) _) (Nat.le_refl _) _).alloc (by rw [hs0]; omega) _
  rw [← hw3, ← hb]
  have H1 := Lib.hid X1
  have H2 := Lib.hid X2
  have H3 : Hid (Below w.heap.size w w3) := Lib.hid (HB1.out.trans (X3.mono HB1.out.size))
  have hbw : w.heap.size ≤ b := by rw [hb]; exact HB1.out.size
  clear hw3 X1 X2 X3 hb hz hmk hs0 hst hnew
  go_loopw [14] (fun ix wr => ∃ j : Nat, j ≤ N ∧ ix = .int .i64 j ∧ ArrB wr b (atS L j) ∧ IzB wr (b + 1) (stepsU L j) ∧ Below w.heap.size w wr) (fun ix _ => N - (intOf ix).toNat)
  case atStart => exact ⟨0, Nat.zero_le _, rfl, H1.out, H2.out, H3.out⟩
  case round =>
    clear H1 H2 H3
    obtain ⟨j, hj, rfl, h1, h2, hbe⟩ := hrel
    by_cases hlt : j < N
    · have hjl : j < L.length := by rw [← HN.out]; exact hlt
      obtain ⟨x, ad, rfl, hx, hx2, hc⟩ := HC.out j hjl
      have hc1 : wr.cell? (ad.add j) = some (.int .u16 (x : Int)) := (hbe.cell (World.block_lt_of_cell? w _ hc)).trans hc
      have hgD : L.getD j 0 = x := by rw [List.getD_eq_getElem?_getD, List.getElem?_eq_getElem hjl, hx]; rfl
      have hlen : (stepsU L j).length = N := by rw [HN.out]; simp [stepsU]
      obtain ⟨y, hy⟩ : ∃ y, (stepsU L j)[j]? = some y := by rw [List.getElem?_eq_getElem (by omega)]; exact ⟨_, rfl⟩
      obtain ⟨a1, a2⟩ := h2.cell j y hy
      have p1 := h2.put j (-1)
      have p2 := h1.other ⟨b + 1, j, none⟩ (.int .i64 (-1)) (by show b ≠ b + 1; omega)
      have p3 := hbe.setCell (p := ⟨b + 1, j, none⟩) (by show w.heap.size ≤ b + 1; omega) (.int .i64 (-1))
      by_cases hx0 : x = 0
      · have hsI : stepI L j = -1 := by unfold stepI; rw [hgD, if_pos hx0]
        rw [stepsU_next0 L j hsI] at p1
        rw [atS_same L j hjl (by rw [← hx]; exact hx0)] at p2
        have P1 := Lib.hid p1
        have P2 := Lib.hid p2
        have P3 := Lib.hid p3
        have hx00 : x ≤ 0 := by omega
        clear p1 p2 p3 h1 h2 hbe hc hx hgD hlen hy hsI hx0
        go_wp2_with fail
        go_roundw
        case rel => exact ⟨j + 1, by omega, by go_num, P2.out, P1.out, P3.out⟩
        case measure => simp [intOf]; omega
      · have hget : (atS L j)[x]? = some (belowL L x + (L.take j).count x) := by
          unfold atS; rw [get257 x (by omega), if_neg hx0]
        have hsI : stepI L j = (belowL L x + (L.take j).count x : Nat) := by
          unfold stepI stepL cntL; rw [hgD, if_neg hx0]
        obtain ⟨b1, b2⟩ := p2.cell x _ hget
        have hy2 : ((stepsU L j).set j (-1))[j]? = some (-1) := List.getElem?_set_self (by omega)
        obtain ⟨e1, e2⟩ := p1.cell j _ hy2
        have r1 := p1.put j (stepI L j)
        rw [stepsU_next] at r1
        have r2 := p2.other ⟨b + 1, j, none⟩ (.int .i64 (stepI L j)) (by show b ≠ b + 1; omega)
        have r3 := p3.setCell (p := ⟨b + 1, j, none⟩) (by show w.heap.size ≤ b + 1; omega) (.int .i64 (stepI L j))
        obtain ⟨d1, d2⟩ := r2.cell x _ hget
        have s2 := r2.put x (belowL L x + (L.take j).count x + 1)
        have hnx := atS_next L j hjl (by rw [← hx]; exact hx0)
        rw [← hx] at hnx
        rw [hnx] at s2
        have s1 := r1.other ⟨b, x, none⟩ (.int .i64 ((belowL L x + (L.take j).count x + 1 : Nat) : Int)) (by show b + 1 ≠ b; omega)
        have s3 := r3.setCell (p := ⟨b, x, none⟩) hbw (.int .i64 ((belowL L x + (L.take j).count x + 1 : Nat) : Int))
        have l1 : belowL L x ≤ N := by rw [HN.out]; exact belowL_le L x
        have l2 : (L.take j).count x ≤ N := Nat.le_trans List.count_le_length (by rw [List.length_take]; omega)
        rw [hsI] at s1 s2 s3 d1 d2
        have S1 := Lib.hid s1
        have S2 := Lib.hid s2
        have S3 := Lib.hid s3
        have l3 : belowL L x + (L.take j).count x ≤ 200000 := by omega
        generalize belowL L x + (L.take j).count x = a at *
        have hx00 : 0 < x := by omega
        clear p1 p2 p3 r1 r2 r3 s1 s2 s3 h1 h2 hbe hc hx hgD hlen hy hy2 hsI hx0 hget hnx l1 l2
        go_wp2_with fail
        go_roundw
        case rel => exact ⟨j + 1, by omega, by go_num, S2.out, S1.out, S3.out⟩
        case measure => simp [intOf]; omega
    · obtain rfl : N = j := by omega
      have hlen : (stepsL L).length = N := by rw [HN.out]; simp [stepsL]
      have hfin : SlR intV wr (.slice (some ⟨b + 1, 0, none⟩) N N) (stepsL L) := by
        rw [HN.out, stepsU_end] at h2
        have := h2.slR (by rw [hlen]; omega)
        rw [hlen] at this
        exact this
      have HF := Lib.hid hfin
      have HBB := Lib.hid hbe
      clear hfin h1 h2 hbe hlt hj hlen
      go_wp2_with fail
      go_ret
      exact ⟨_, rfl, HF.out, HBB.out⟩
end Go.Proofs.Ytinlmodkdjpocaa
