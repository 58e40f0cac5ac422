/- wave: a matrix in memory; bit, down, Rank, Get. wave: Rank. wave: New. wave: New: the walk. -/
import Derived.Test.YtinlmodkdjpocaaQbt
import Derived.Test.YtinlmodkdjpocaaMsk
import Derived.LoopN
import Derived.Test.YtinlmodkdjpocaaQpl
import Derived.Test.YtinlmodkdjpocaaQst
import Derived.Deep.RegionLaw
set_option linter.unusedVariables false
namespace Go.Proofs.Ytinlmodkdjpocaa
open Go.RowKit

set_option maxHeartbeats 1000000 in
theorem wave_bit (c k : Nat) (w : World) (hk : k < 9) (hc : c ≤ 65535) : Calls Try.prog 116 #[.int .i64 c, .int .i64 k] w fun e w' => e = .returned (.bool (bitK k c)) ∧ w' = w := by
  have h2 := Nat.mod_lt (c / 2 ^ (8 - k)) (show 2 > 0 by decide)
  have hb : bits .and .i64 (((c / 2 ^ (8 - k) : Nat) : Int)) 1 = ((c / 2 ^ (8 - k) % 2 : Nat) : Int) := by rw [i64_and1]; omega
  have hbit : bitK k c = decide (c / 2 ^ (8 - k) % 2 = 1) := rfl
  have hle : c / 2 ^ (8 - k) ≤ 65535 := Nat.le_trans (Nat.div_le_self _ _) hc
  rw [hbit]
  clear hbit
  have e1 : IntKind.i64.wrap (8 - (k : Int)) = ((8 - k : Nat) : Int) := by rw [IntWalk.i64_in _ (by omega)]; omega
  have e2 : (c : Int) / 2 ^ (8 - k) = ((c / 2 ^ (8 - k) : Nat) : Int) := by simp
  generalize c / 2 ^ (8 - k) = q at *
  generalize q % 2 = r at *
  go_enter Try.func116, Try.ntmps116
  go_wp2
  go_ret
  have : r = 0 ∨ r = 1 := by omega
  rcases this with rfl | rfl <;> exact ⟨rfl, rfl⟩

theorem bits_zeros (b : Nat) (l : List Bool) (i : Nat) (w : World) (hi : i ≤ l.length) (h : VecR w b l) :
    Calls Try.prog 132 #[.pointer (some ⟨b, 0, none⟩), .int .i64 i] w fun e w' => e = .returned (.int .i64 (i - rank1 l i : Nat)) ∧ ∃ q, w' = w.drewN q := by
  have hr := Lib.hid (bits_rank b l i w hi h)
  obtain ⟨wv, av, h0, h1, h2, h3⟩ := h
  have e0 : w.cell? ⟨b, 0, none⟩ = some (.int .i64 (l.length : Nat)) := by simp [World.cell?, h0]
  have hle := (rank1_le l i).1
  generalize rank1 l i = R at *
  clear h0 h1 h2
  generalize l.length = N at *
  go_enter Try.func132, Try.ntmps132
  go_wp2_with fail
  refine hr.out.mono ?_
  rintro e w' ⟨rfl, q, rfl⟩
  go_wp2
  go_ret
  exact ⟨by rw [Int.ofNat_sub hle]; rfl, q, rfl⟩

/-- A Matrix in memory: block b. -/
def MatR (w : World) (b : Nat) (l : List Nat) : Prop :=
  ∃ lv, ∃ ps : Nat → Nat, w.cell? ⟨b, 0, none⟩ = some lv ∧ SlR symV w lv l ∧ (∀ k, k < 9 → w.cell? ⟨b, 1 + k, none⟩ = some (.pointer (some ⟨ps k, 0, none⟩)) ∧ VecR w (ps k) (levK k l)) ∧
    (∀ k, k < 9 → w.cell? ⟨b, 10 + k, none⟩ = some (.int .i64 (zerK k l : Nat))) ∧ l.length ≤ 100000
theorem MatR.below {w w' : World} {b : Nat} {l : List Nat} (h : MatR w b l) {n : Nat} (hn : w.heap.size ≤ n) (hb : Below n w w') : MatR w' b l := by
  obtain ⟨lv, ps, h0, h1, h2, h3, h4⟩ := h
  have hc : ∀ {p : Addr} {v : Value}, w.cell? p = some v → w'.cell? p = some v := fun {p v} h => (World.cell?_of_block (w := w) (hb.block _ (Nat.lt_of_lt_of_le (World.block_lt_of_cell? w _ h) hn))).trans h
  exact ⟨lv, ps, hc h0, h1.below hn hb, fun k hk => ⟨hc (h2 k hk).1, (h2 k hk).2.below hn hb⟩, fun k hk => hc (h3 k hk), h4⟩
theorem MatR.drewN {w : World} {b : Nat} {l : List Nat} (h : MatR w b l) (q : Nat) : MatR (w.drewN q) b l := h.below (Nat.le_refl _) (below_drewN (Below.refl _ _) q)
theorem VecR.drewN {w : World} {b : Nat} {l : List Bool} (h : VecR w b l) (q : Nat) : VecR (w.drewN q) b l := h.below (Nat.le_refl _) (below_drewN (Below.refl _ _) q)
theorem levK_length (k : Nat) (l : List Nat) : (levK k l).length = l.length := by unfold levK; rw [List.length_map, rowK_length]

theorem wave_within (b : Nat) (l : List Nat) (i : Nat) (w : World) (h : MatR w b l) (hi : i ≤ 9223372036854775807) :
    Calls Try.prog 114 #[.pointer (some ⟨b, 0, none⟩), .int .i64 i] w fun e w' => e = .returned (.int .i64 (min i l.length : Nat)) ∧ w' = w := by
  obtain ⟨lv, ps, h0, h1, _, _, h4⟩ := h
  obtain ⟨A, c, rfl, g1, g2, g3⟩ := h1.form
  clear h1 g3
  generalize l.length = N at *
  by_cases hlt : i ≤ N
  · rw [Nat.min_eq_left hlt]
    go_enter Try.func114, Try.ntmps114
    go_wp2
    go_ret
    exact ⟨rfl, rfl⟩
  · rw [Nat.min_eq_right (by omega)]
    go_enter Try.func114, Try.ntmps114
    go_wp2
    go_ret
    exact ⟨rfl, rfl⟩

theorem wave_get (b : Nat) (l : List Nat) (i : Int) (w : World) (h : MatR w b l) (hm : ∀ x ∈ l, x ≤ 256) :
    Calls Try.prog 91 #[.pointer (some ⟨b, 0, none⟩), .int .i64 i] w fun e w' => e = .returned (.int .i64 (symAt l i)) ∧ w' = w := by
  obtain ⟨lv, ps, h0, h1, _, _, h4⟩ := h
  obtain ⟨A, c, rfl, h4, h5, h6⟩ := h1.form
  clear h1
  by_cases hz : 0 ≤ i
  · obtain ⟨n, rfl⟩ := Int.eq_ofNat_of_zero_le hz
    by_cases hlt : n < l.length
    · obtain ⟨ad, rfl, hc⟩ := h6 n hlt
      have hx := hm _ (List.getElem_mem hlt)
      have hs : symAt l (n : Int) = (l[n] : Int) := by simp [symAt, hlt]
      rw [hs]
      have hc' : w.cell? (ad.add n) = some (.int .u16 ((l[n] : Nat) : Int)) := hc
      generalize l[n] = x at *
      clear hc h6 hm hs h4 h5
      go_enter Try.func91, Try.ntmps91
      go_wp2
      go_ret
      exact ⟨rfl, rfl⟩
    · have hs : symAt l (n : Int) = -1 := by simp [symAt, hlt]
      rw [hs]
      clear h6 hm h4 h5 hs
      go_enter Try.func91, Try.ntmps91
      go_wp2
      go_ret
      exact ⟨rfl, rfl⟩
  · have hs : symAt l i = -1 := by simp [symAt, hz]
    rw [hs]
    clear h6 hm h4 h5 hs
    go_enter Try.func91, Try.ntmps91
    go_wp2
    go_ret
    exact ⟨rfl, rfl⟩

set_option maxRecDepth 100000 in
set_option maxHeartbeats 1000000 in
theorem wave_down (b k i j : Nat) (set : Bool) (l : List Nat) (w : World) (h : MatR w b l) (hk : k < 9) (hi : i ≤ l.length) (hj : j ≤ l.length) :
    Calls Try.prog 115 #[.pointer (some ⟨b, 0, none⟩), .int .i64 k, .int .i64 i, .int .i64 j, .bool set] w fun e w' => e = .returned (.tuple #[.int .i64 (downP k l i set : Nat), .int .i64 (downP k l j set : Nat)]) ∧ ∃ q, w' = w.drewN q := by
  obtain ⟨lv, ps, h0, h1, h2, h3, h4⟩ := h
  obtain ⟨p1, p2⟩ := h2 k hk
  have p3 := h3 k hk
  have hzk := zerK_le k l
  have r1 := (rank1_le (levK k l) i).1
  have r2 := (rank1_le (levK k l) j).1
  cases set with
  | true =>
    have c1 := Lib.hid (fun W (hW : VecR W (ps k) (levK k l)) => bits_rank (ps k) (levK k l) i W (by rw [levK_length]; exact hi) hW)
    have c2 := Lib.hid (fun W (hW : VecR W (ps k) (levK k l)) => bits_rank (ps k) (levK k l) j W (by rw [levK_length]; exact hj) hW)
    have P2 := Lib.hid p2
    unfold downP
    simp only [if_true]
    generalize rank1 (levK k l) i = R1 at *
    generalize rank1 (levK k l) j = R2 at *
    generalize zerK k l = Z at *
    generalize ps k = pk at *
    have q1 : IntKind.i64.wrap ((Z : Int) + (R1 : Nat)) = (Z : Int) + (R1 : Nat) := IntWalk.i64_in _ (by omega)
    have q2 : IntKind.i64.wrap ((Z : Int) + (R2 : Nat)) = (Z : Int) + (R2 : Nat) := IntWalk.i64_in _ (by omega)
    have q3 : (k : Int) < 9 := by omega
    clear h0 h1 h2 h3 p2
    go_enter Try.func115, Try.ntmps115
    go_wp2
    go_quiet ((go_at_call 131; first | (with_reducible exact Calls.quiet_of (c1.out _ (P2.out.drewN _))) | (with_reducible exact Calls.quiet_of (c2.out _ (P2.out.drewN _)))))
    go_wp2
    go_ret2
    exact ⟨rfl, _, rfl⟩
  | false =>
    have c1 := Lib.hid (fun W (hW : VecR W (ps k) (levK k l)) => bits_zeros (ps k) (levK k l) i W (by rw [levK_length]; exact hi) hW)
    have c2 := Lib.hid (fun W (hW : VecR W (ps k) (levK k l)) => bits_zeros (ps k) (levK k l) j W (by rw [levK_length]; exact hj) hW)
    have P2 := Lib.hid p2
    unfold downP
    simp only [Bool.false_eq_true, if_false]
    generalize rank1 (levK k l) i = R1 at *
    generalize rank1 (levK k l) j = R2 at *
    generalize ps k = pk at *
    clear h0 h1 h2 h3 p2 p3
    go_enter Try.func115, Try.ntmps115
    go_wp2_with fail
    refine (c1.out _ P2.out).mono ?_
    rintro e w1 ⟨rfl, q, rfl⟩
    have P3 := Lib.hid (P2.out.drewN q)
    go_wp2_with fail
    refine (c2.out _ P3.out).mono ?_
    rintro e w1 ⟨rfl, q2, rfl⟩
    go_wp2
    go_ret2
    exact ⟨rfl, _, rfl⟩
end Go.Proofs.Ytinlmodkdjpocaa

set_option linter.unusedVariables false
namespace Go.Proofs.Ytinlmodkdjpocaa
open Go.RowKit

set_option maxRecDepth 100000 in
set_option maxHeartbeats 1000000 in
theorem wave_rank (b c i : Nat) (l : List Nat) (w : World) (h : MatR w b l) (hc : c ≤ 256) (hl : ∀ x ∈ l, x ≤ 256) (hi : i ≤ 9223372036854775807) :
    Calls Try.prog 87 #[.pointer (some ⟨b, 0, none⟩), .int .i64 c, .int .i64 i] w fun e w' => e = .returned (.int .i64 (cntL l c i : Nat)) ∧ ∃ q, w' = w.drewN q := by
  have hrk := rank_levels c l i hc hl
  have hin := Lib.hid (wave_within b l i w h hi)
  have hbit := Lib.hid (fun k W hk => wave_bit c k W hk (by omega))
  have hat : ∀ k, atK c l k 0 ≤ l.length ∧ atK c l k (min i l.length) ≤ l.length := fun k => ⟨atK_le c l k 0 (Nat.zero_le _), atK_le c l k _ (Nat.min_le_right _ _)⟩
  have hdn := Lib.hid (fun k W (hW : MatR W b l) hk => wave_down b k (atK c l k 0) (atK c l k (min i l.length)) (bitK k c) l W hW hk (hat k).1 (hat k).2)
  have hnx : ∀ k j, downP k l (atK c l k j) (bitK k c) = atK c l (k + 1) j := fun k j => rfl
  have h100 := h.choose_spec.choose_spec.2.2.2.2
  have HM := Lib.hid h
  have HAT := Lib.hid hat
  have HNX := Lib.hid hnx
  have HRK := Lib.hid hrk
  clear h hat hnx hrk
  have h0 : atK c l 0 0 = 0 := rfl
  obtain ⟨m, hm⟩ : ∃ m, m = min i l.length := ⟨_, rfl⟩
  have hm1 : atK c l 0 m = m := rfl
  have HM0 := Lib.hid hm
  rw [← hm] at hin hdn HAT HRK
  have H00 := Lib.hid h0
  have H01 := Lib.hid hm1
  clear hm h0 hm1
  generalize hN : l.length = N at *
  have hN' := Lib.hid hN
  clear hN
  go_enter Try.func87, Try.ntmps87
  go_wp2_with fail
  refine hin.out.mono ?_
  rintro e w1 ⟨rfl, rfl⟩
  go_wp2_with fail
  go_loopw [7, 8, 19] (fun lo hi ix wr => ∃ k : Nat, k ≤ 9 ∧ ix = .int .i64 k ∧ lo = .int .i64 (atK c l k 0 : Nat) ∧ hi = .int .i64 (atK c l k m : Nat) ∧ ∃ q, wr = w1.drewN q) (fun _ _ ix _ => 9 - (intOf ix).toNat)
  case atStart => exact ⟨0, Nat.zero_le _, rfl, by rw [H00.out]; rfl, by rw [H01.out], 0, rfl⟩
  case round =>
    obtain ⟨k, hk, rfl, rfl, rfl, q, rfl⟩ := hrel
    by_cases hlt : k < 9
    · have hb := Lib.hid (hbit.out k (w1.drewN q) hlt)
      have hd := Lib.hid (hdn.out k (w1.drewN q) (HM.out.drewN q) hlt)
      have n1 := Lib.hid (HNX.out k 0)
      have n2 := Lib.hid (HNX.out k m)
      go_wp2_with fail
      refine hb.out.mono ?_
      rintro e w2 ⟨rfl, rfl⟩
      go_wp2_with fail
      refine hd.out.mono ?_
      rintro e w3 ⟨rfl, q3, rfl⟩
      rw [n1.out, n2.out]
      go_wp2_with fail
      go_roundw
      case rel => exact ⟨k + 1, by omega, by go_num, rfl, rfl, _, rfl⟩
      case measure => simp [intOf]; omega
    · obtain rfl : k = 9 := by omega
      obtain ⟨r1, r2⟩ := HRK.out
      have hb9 := (HAT.out 9).2
      have R1 := Lib.hid r1
      have R2 := Lib.hid r2
      clear r1 hlt hk
      generalize atK c l 9 0 = x at *
      generalize atK c l 9 m = y at *
      go_wp2_with fail
      go_ret
      exact ⟨by unfold cntL; rw [← R1.out, Int.ofNat_sub R2.out]; rfl, q, rfl⟩
end Go.Proofs.Ytinlmodkdjpocaa

set_option linter.unusedVariables false
namespace Go.Proofs.Ytinlmodkdjpocaa
open Go.RowKit

theorem size_setCell (W : World) (a : Addr) (v : Value) : (W.setCell a v).heap.size = W.heap.size := by simp [World.setCell]
/-- an own row of symbols -/
def SyO (base : Nat) (W : World) (v : Value) (l : List Nat) : Prop := W.ownsRow base 95 1 v l.length (l.map symV)
theorem SyO.lower {base b2 : Nat} {W : World} {v : Value} {l : List Nat} (h : SyO base W v l) (hb : b2 ≤ base) : SyO b2 W v l := by
  refine ⟨h.1, ?_⟩
  rcases h.2 with h | ⟨g, cap, cur, h1, h2, h3⟩
  · exact .inl h
  · exact .inr ⟨g, cap, cur, h1, Nat.le_trans hb h2, h3⟩
theorem own_shape {base : Nat} {e : TypeId} {s n : Nat} {W : World} {v : Value} {xs : List Value} (h : W.ownsRow base e s v n xs) : ∃ A c, v = .slice A n c := by
  rcases h.2 with ⟨rfl, h0⟩ | ⟨g, cap, cur, rfl, _⟩
  · exact ⟨none, 0, by rw [h0]⟩
  · exact ⟨_, _, rfl⟩
theorem SyO.of {base n : Nat} {W : World} {v : Value} {l : List Nat} (h : W.ownsRow base 95 1 v n (l.map symV)) (hn : n = l.length) : SyO base W v l := by subst hn; exact h
theorem SyO.slT {base : Nat} {W : World} {v : Value} {l : List Nat} (h : SyO base W v l) : SlT 95 symV W v l := SlT.of_own h
theorem SyO.form {base : Nat} {W : World} {v : Value} {l : List Nat} (h : SyO base W v l) : ∃ A c, v = .slice A l.length c := by
  rcases h.2 with ⟨rfl, h0⟩ | ⟨g, cap, cur, rfl, _⟩
  · exact ⟨none, 0, by rw [h0]⟩
  · exact ⟨_, _, rfl⟩
theorem SyO.below {base : Nat} {W W2 : World} {v : Value} {l : List Nat} (h : SyO base W v l) (hb : Below W.heap.size W W2) : SyO base W2 v l := own_below h hb
theorem SyO.setCell {base : Nat} {W : World} {v : Value} {l : List Nat} (h : SyO base W v l) (a : Addr) (u : Value) (hr : ∀ cur fr, W.heap[a.block]? = some (.cells cur 95 fr) → False) : SyO base (W.setCell a u) v l := by
  refine ownsRow_setCell_other h (fun e => ?_) u
  rcases h.2 with ⟨rfl, _⟩ | ⟨g, cap, cur, rfl, _, hh, _⟩
  · simp [Value.ownBlock] at e
  · simp [Value.ownBlock] at e; subst e; exact hr _ _ hh
theorem SyO.at_ {base : Nat} {W : World} {v : Value} {l : List Nat} (h : SyO base W v l) (k : Nat) (hk : k < l.length) : ∃ ad c, v = .slice (some ad) l.length c ∧ W.cell? (ad.add k) = some (.int .u16 (l[k] : Nat)) := by
  obtain ⟨A, c, rfl⟩ := h.form
  obtain ⟨ad, rfl, hc⟩ := (SlT.of_own h).1.at_ k hk
  exact ⟨ad, c, rfl, hc⟩

/-- within a round: the bits that are told, the two rows -/
structure InWv (B : Nat) (w1 W : World) (k : Nat) (row : List Nat) (i : Nat) (lo hi : Value) : Prop where
  set : W.heap[B]? = some (.cells ((List.range row.length).map (fun j => Value.bool (decide (j < i) && bitK k (row.getD j 0)))).toArray 4 (0, 0))
  rl : SyO (B + 1) W lo ((row.take i).filter (fun c => !bitK k c))
  rh : SyO (B + 1) W hi ((row.take i).filter (fun c => bitK k c))
  apart : ∀ g, lo.ownBlock = some g → hi.ownBlock ≠ some g
  below : Below B w1 W
theorem bool_ne {W : World} {B : Nat} {cur : Array Value} {fr : Nat × Nat} (h : W.heap[B]? = some (.cells cur 4 fr)) (T : TypeId) (hT : T ≠ 4) : ∀ cur fr, W.heap[B]? = some (.cells cur T fr) → False := by
  intro c f h2; rw [h] at h2; injection h2 with h2; injection h2 with _ h2 _; exact hT h2.symm
theorem InWv.cells {B : Nat} {w1 W : World} {k : Nat} {row : List Nat} {i : Nat} {lo hi : Value} (h : InWv B w1 W k row i lo hi) (hi' : i < row.length) : (∃ v, W.cell? ⟨B, i, none⟩ = some v) ∧ W.frozen? ⟨B, i, none⟩ = false := by
  refine ⟨?_, free_of_block h.set⟩
  rw [cell_of_block h.set]; simp [hi']
theorem set_next (k : Nat) (row : List Nat) (i : Nat) (hi : i < row.length) : ((List.range row.length).map (fun j => Value.bool (decide (j < i) && bitK k (row.getD j 0)))).toArray.setIfInBounds i (.bool (bitK k row[i])) = ((List.range row.length).map (fun j => Value.bool (decide (j < i + 1) && bitK k (row.getD j 0)))).toArray := by
  simp only [List.setIfInBounds_toArray, map_range_set]
  congr 1
  apply List.map_congr_left
  intro j _
  by_cases e : j = i
  · subst e; simp [List.getD, hi]
  · rw [if_neg e]
    by_cases h : j < i
    · have : j < i + 1 := by omega
      simp [h, this]
    · have : ¬ j < i + 1 := by omega
      simp [h, this]
theorem filter_take_succ (f : Nat → Bool) (row : List Nat) (i : Nat) (hi : i < row.length) : (row.take (i + 1)).filter f = (row.take i).filter f ++ if f row[i] then [row[i]] else [] := by
  rw [List.take_succ_eq_append_getElem hi, List.filter_append]
  congr 1
  by_cases h : f row[i] = true
  · simp [h]
  · simp [h]
theorem SyO.lt {base : Nat} {W : World} {v : Value} {l : List Nat} (h : SyO base W v l) : ∀ g, v.ownBlock = some g → base ≤ g ∧ g < W.heap.size := by
  intro g hg
  rcases h.2 with ⟨rfl, _⟩ | ⟨g2, _, _, rfl, hge, hh, _⟩
  · simp [Value.ownBlock] at hg
  · simp [Value.ownBlock] at hg; subst hg; exact ⟨hge, (Array.getElem?_eq_some_iff.1 hh).1⟩
/-- one row grows, the other stays -/
theorem two_rows {base : Nat} {W1 W2 : World} {va vb : Value} {a b : List Nat} {x g cap : Nat} (ha : SyO base W1 va a) (hb : SyO base W1 vb b) (hap : ∀ g, vb.ownBlock = some g → va.ownBlock ≠ some g)
    (ho : W2.ownsRow base 95 1 (.slice (some ⟨g, 0, none⟩) (a.length + 1) cap) (a.length + 1) (a.map symV ++ [symV x])) (hg : W1.grownBy W2 va.ownBlock) (hat : va.ownBlock = some g ∨ W1.heap.size ≤ g) :
    SyO base W2 (.slice (some ⟨g, 0, none⟩) (a.length + 1) cap) (a ++ [x]) ∧ SyO base W2 vb b ∧ vb.ownBlock ≠ some g := by
  refine ⟨?_, ?_, ?_⟩
  · unfold SyO
    rw [List.map_append, List.length_append]
    exact ho
  · refine hb.kept hg ?_
    by_cases hn : vb.ownBlock = none
    · exact .inl hn
    · obtain ⟨g', hg'⟩ := Option.ne_none_iff_exists'.1 hn
      exact .inr (fun e => hap g' hg' (by rw [← e, hg']))
  · intro e
    rcases hat with h1 | h1
    · exact hap _ e h1
    · have := (hb.lt _ e).2; omega
theorem InWv.put {B : Nat} {w1 W : World} {k : Nat} {row : List Nat} {i : Nat} {lo hi : Value} (h : InWv B w1 W k row i lo hi) (hi' : i < row.length) (t : Bool) (hb : bitK k row[i] = t) :
    (W.setCell ⟨B, i, none⟩ (.bool t)).heap[B]? = some (.cells ((List.range row.length).map (fun j => Value.bool (decide (j < i + 1) && bitK k (row.getD j 0)))).toArray 4 (0, 0)) ∧
    SyO (B + 1) (W.setCell ⟨B, i, none⟩ (.bool t)) lo ((row.take i).filter (fun c => !bitK k c)) ∧ SyO (B + 1) (W.setCell ⟨B, i, none⟩ (.bool t)) hi ((row.take i).filter (fun c => bitK k c)) ∧
    Below B w1 (W.setCell ⟨B, i, none⟩ (.bool t)) ∧ B < (W.setCell ⟨B, i, none⟩ (.bool t)).heap.size := by
  refine ⟨?_, h.rl.setCell _ _ (bool_ne h.set _ (by decide)), h.rh.setCell _ _ (bool_ne h.set _ (by decide)), h.below.setCell (Nat.le_refl _) _, ?_⟩
  · rw [heap_setCell_same h.set, ← set_next k row i hi', hb]
  · have := (Array.getElem?_eq_some_iff.1 h.set).1
    simpa [World.setCell] using this
/-- a symbol to the high row -/
theorem InWv.toHi {B : Nat} {w1 W W2 : World} {k : Nat} {row : List Nat} {i : Nat} {lo hi : Value} {g cap : Nat} (h : InWv B w1 W k row i lo hi) (hi' : i < row.length) (hb : bitK k row[i] = true)
    (ho : W2.ownsRow (B + 1) 95 1 (.slice (some ⟨g, 0, none⟩) (((row.take i).filter (fun c => bitK k c)).length + 1) cap) (((row.take i).filter (fun c => bitK k c)).length + 1) (((row.take i).filter (fun c => bitK k c)).map symV ++ [symV row[i]]))
    (hg : (W.setCell ⟨B, i, none⟩ (.bool true)).grownBy W2 hi.ownBlock) (hat : hi.ownBlock = some g ∨ (W.setCell ⟨B, i, none⟩ (.bool true)).heap.size ≤ g) : InWv B w1 W2 k row (i + 1) lo (.slice (some ⟨g, 0, none⟩) (((row.take i).filter (fun c => bitK k c)).length + 1) cap) := by
  obtain ⟨p1, p2, p3, p4, p5⟩ := h.put hi' true hb
  obtain ⟨t1, t2, t3⟩ := two_rows p3 p2 h.apart ho hg hat
  have e : (row.take (i + 1)).filter (fun c => !bitK k c) = (row.take i).filter (fun c => !bitK k c) := by rw [filter_take_succ _ row i hi']; simp [hb]
  have e2 : (row.take (i + 1)).filter (fun c => bitK k c) = (row.take i).filter (fun c => bitK k c) ++ [row[i]] := by rw [filter_take_succ _ row i hi']; simp [hb]
  refine ⟨grown_block hg p1 (own_ne_block p3 p1 (by decide)), by rw [e]; exact t2, by rw [e2]; exact t1, ?_, p4.grown hg (by omega) (fun g' hg' => by have := (p3.lt g' hg').1; omega)⟩
  intro g' hg' e
  simp only [Value.ownBlock, Option.some.injEq] at e
  subst e
  exact t3 hg'
/-- a symbol to the low row -/
theorem InWv.toLo {B : Nat} {w1 W W2 : World} {k : Nat} {row : List Nat} {i : Nat} {lo hi : Value} {g cap : Nat} (h : InWv B w1 W k row i lo hi) (hi' : i < row.length) (hb : bitK k row[i] = false)
    (ho : W2.ownsRow (B + 1) 95 1 (.slice (some ⟨g, 0, none⟩) (((row.take i).filter (fun c => !bitK k c)).length + 1) cap) (((row.take i).filter (fun c => !bitK k c)).length + 1) (((row.take i).filter (fun c => !bitK k c)).map symV ++ [symV row[i]]))
    (hg : (W.setCell ⟨B, i, none⟩ (.bool false)).grownBy W2 lo.ownBlock) (hat : lo.ownBlock = some g ∨ (W.setCell ⟨B, i, none⟩ (.bool false)).heap.size ≤ g) : InWv B w1 W2 k row (i + 1) (.slice (some ⟨g, 0, none⟩) (((row.take i).filter (fun c => !bitK k c)).length + 1) cap) hi := by
  obtain ⟨p1, p2, p3, p4, p5⟩ := h.put hi' false hb
  obtain ⟨t1, t2, t3⟩ := two_rows p2 p3 (fun g h1 h2 => h.apart g h2 h1) ho hg hat
  have e : (row.take (i + 1)).filter (fun c => bitK k c) = (row.take i).filter (fun c => bitK k c) := by rw [filter_take_succ _ row i hi']; simp [hb]
  have e2 : (row.take (i + 1)).filter (fun c => !bitK k c) = (row.take i).filter (fun c => !bitK k c) ++ [row[i]] := by rw [filter_take_succ _ row i hi']; simp [hb]
  refine ⟨grown_block hg p1 (own_ne_block p2 p1 (by decide)), by rw [e2]; exact t1, by rw [e]; exact t2, ?_, p4.grown hg (by omega) (fun g' hg' => by have := (p2.lt g' hg').1; omega)⟩
  intro g' hg' e
  simp only [Value.ownBlock, Option.some.injEq] at hg'
  subst hg'
  exact t3 e
/-- at the end of the inner loop: the bits as a slice -/
theorem InWv.bits {B : Nat} {w1 W : World} {k : Nat} {row : List Nat} {lo hi : Value} (h : InWv B w1 W k row row.length lo hi) (hn : row.length ≤ 100000) : SlR boolV W (.slice (some ⟨B, 0, none⟩) row.length row.length) (row.map (bitK k)) := by
  refine ⟨_, _, by rw [List.length_map], by simp, by omega, .inr ⟨_, rfl, fun j hj => ?_⟩⟩
  rw [List.length_map] at hj
  rw [addr_zero, cell_of_block h.set]
  simp [hj, boolV, List.getD]

theorem SlT.kept_ne {α : Type} {T : TypeId} {enc : α → Value} {w w' : World} {v : Value} {xs : List α} (h : SlT T enc w v xs) {row : Option Nat} (hg : w.grownBy w' row) (hr : ∀ g, v.ownBlock = some g → row ≠ some g) : SlT T enc w' v xs := by
  obtain ⟨⟨A, c, rfl, h1, h2, h3⟩, h4⟩ := h
  rcases h4 with h4 | ⟨b, cur, fr, hb, hh⟩
  · exact ⟨⟨A, c, rfl, h1, h2, .inl h4⟩, .inl h4⟩
  · have hkeep : w'.heap[b]? = w.heap[b]? := hg.block b (Array.getElem?_eq_some_iff.1 hh).1 (fun e => hr b hb e.symm)
    refine ⟨⟨A, c, rfl, h1, h2, h3.imp id ?_⟩, .inr ⟨b, cur, fr, hb, hkeep.trans hh⟩⟩
    rintro ⟨ad, rfl, hc⟩
    have : ad.block = b := by simpa [Value.ownBlock] using hb
    refine ⟨ad, rfl, fun j hj => ?_⟩
    rw [← hc j hj]
    refine World.cell?_of_block (w := w) ?_
    have e : (ad.add j).block = b := by rw [← this]; unfold Addr.add; split <;> rfl
    rw [e]; exact hkeep
theorem VecR.grown {w w' : World} {b : Nat} {l : List Bool} (h : VecR w b l) {v0 : Value} {base n : Nat} {s : Nat} {ys : List Value} (ho : w.ownsRow base 95 s v0 n ys) (hg : w.grownBy w' v0.ownBlock) : VecR w' b l := by
  obtain ⟨wv, av, h0, h1, h2, h3⟩ := h
  exact ⟨wv, av, grown_block hg h0 (own_ne_block ho h0 (by decide)), h1.grown ho hg (by decide), h2.grown ho hg (by decide), h3⟩
/-- a Matrix in the making -/
def MatSt (W : World) (b k : Nat) (l : List Nat) (lv : Value) : Prop :=
  ∃ cs, W.heap[b]? = some (.cells cs 159 (0, 0)) ∧ cs.size = 19 ∧ cs[0]? = some lv ∧ (SlT 95 symV W lv l ∧ ∀ g, lv.ownBlock = some g → g < b) ∧ (∀ j, j < k → ∃ p, cs[1 + j]? = some (.pointer (some ⟨p, 0, none⟩)) ∧ VecR W p (levK j l)) ∧ (∀ j, j < k → cs[10 + j]? = some (natV (zerK j l)))
theorem MatSt.below {W W2 : World} {b k : Nat} {l : List Nat} {lv : Value} (h : MatSt W b k l lv) (hb : Below W.heap.size W W2) : MatSt W2 b k l lv := by
  obtain ⟨cs, h1, h2, h3, h4, h5, h6⟩ := h
  exact ⟨cs, (hb.block b (Array.getElem?_eq_some_iff.1 h1).1).trans h1, h2, h3, ⟨h4.1.below hb, h4.2⟩, fun j hj => by obtain ⟨p, a1, a2⟩ := h5 j hj; exact ⟨p, a1, a2.below (Nat.le_refl _) hb⟩, h6⟩
theorem MatSt.level {W : World} {b k : Nat} {l : List Nat} {lv : Value} (h : MatSt W b k l lv) (hk : k < 9) {p : Nat} (hp : VecR W p (levK k l)) :
    MatSt ((W.setCell ⟨b, 1 + k, none⟩ (.pointer (some ⟨p, 0, none⟩))).setCell ⟨b, 10 + k, none⟩ (natV (zerK k l))) b (k + 1) l lv := by
  obtain ⟨cs, h1, h2, h3, h4, h5, h6⟩ := h
  have hT : ∀ (T : TypeId) cur fr, W.heap[b]? = some (.cells cur T fr) → T = 159 := by
    intro T cur fr e; rw [h1] at e; injection e with e; injection e with _ e _; exact e.symm
  have s1 := heap_setCell_same (i := 1 + k) h1 (.pointer (some ⟨p, 0, none⟩))
  have s2 := heap_setCell_same (i := 10 + k) s1 (natV (zerK k l))
  have hT2 : ∀ (T : TypeId) cur fr, (W.setCell ⟨b, 1 + k, none⟩ (.pointer (some ⟨p, 0, none⟩))).heap[b]? = some (.cells cur T fr) → T = 159 := by
    intro T cur fr e; rw [s1] at e; injection e with e; injection e with _ e _; exact e.symm
  have hv : ∀ {q : Nat} {m : List Bool}, VecR W q m → VecR ((W.setCell ⟨b, 1 + k, none⟩ (.pointer (some ⟨p, 0, none⟩))).setCell ⟨b, 10 + k, none⟩ (natV (zerK k l))) q m := by
    intro q m hq
    refine (hq.setCell _ _ (fun T cur fr e => ?_)).setCell _ _ (fun T cur fr e => ?_)
    · rw [hT T cur fr e]; decide
    · rw [hT2 T cur fr e]; decide
  refine ⟨_, s2, by simp [h2], ?_, ⟨(h4.1.setCell _ _ (fun cur fr e => absurd (hT _ cur fr e) (by decide))).setCell _ _ (fun cur fr e => absurd (hT2 _ cur fr e) (by decide)), h4.2⟩, ?_, ?_⟩
  · rw [Array.getElem?_setIfInBounds_ne (by omega), Array.getElem?_setIfInBounds_ne (by omega)]; exact h3
  · intro j hj
    rw [Array.getElem?_setIfInBounds_ne (by omega)]
    by_cases e : j = k
    · subst e
      exact ⟨p, by rw [Array.getElem?_setIfInBounds_self_of_lt (by omega)], hv hp⟩
    · obtain ⟨q, a1, a2⟩ := h5 j (by omega)
      exact ⟨q, by rw [Array.getElem?_setIfInBounds_ne (by omega)]; exact a1, hv a2⟩
  · intro j hj
    by_cases e : j = k
    · subst e
      rw [Array.getElem?_setIfInBounds_self_of_lt (by simp; omega)]
    · rw [Array.getElem?_setIfInBounds_ne (by omega), Array.getElem?_setIfInBounds_ne (by omega)]
      exact h6 j (by omega)
theorem MatSt.mat {W : World} {b : Nat} {l : List Nat} {lv : Value} (h : MatSt W b 9 l lv) (hn : l.length ≤ 100000) : MatR W b l := by
  obtain ⟨cs, h1, h2, h3, h4, h5, h6⟩ := h
  have hc : ∀ k, W.cell? ⟨b, k, none⟩ = cs[k]? := fun k => cell_of_block h1
  refine ⟨lv, fun k => if hk : k < 9 then (h5 k hk).choose else 0, by rw [hc]; exact h3, h4.1.1, fun k hk => ?_, fun k hk => ?_, hn⟩
  · rw [hc]
    simp only [dif_pos hk]
    exact (h5 k hk).choose_spec
  · rw [hc]; exact h6 k hk
theorem MatSt.grown {W W2 : World} {b k base n : Nat} {l : List Nat} {lv v0 : Value} {ys : List Value} (h : MatSt W b k l lv) (ho : W.ownsRow base 95 1 v0 n ys) (hg : W.grownBy W2 v0.ownBlock) (hb : b ≤ base) : MatSt W2 b k l lv := by
  obtain ⟨cs, h1, h2, h3, h4, h5, h6⟩ := h
  refine ⟨cs, grown_block hg h1 (own_ne_block ho h1 (by decide)), h2, h3, ⟨h4.1.kept_ne hg (fun g hg2 e => ?_), h4.2⟩, fun j hj => by obtain ⟨p, a1, a2⟩ := h5 j hj; exact ⟨p, a1, a2.grown ho hg⟩, h6⟩
  have a := h4.2 g hg2
  rcases ho.2 with ⟨rfl, _⟩ | ⟨g2, _, _, rfl, hge, _⟩
  · simp [Value.ownBlock] at e
  · simp [Value.ownBlock] at e; subst e; omega
theorem MatSt.cells {W : World} {b k : Nat} {l : List Nat} {lv : Value} (h : MatSt W b k l lv) (j : Nat) (hj : j < 19) : (∃ v, W.cell? ⟨b, j, none⟩ = some v) ∧ W.frozen? ⟨b, j, none⟩ = false := by
  obtain ⟨cs, h1, h2, _⟩ := h
  exact ⟨⟨cs[j], by rw [cell_of_block h1]; simp [h2, hj]⟩, free_of_block h1⟩
end Go.Proofs.Ytinlmodkdjpocaa

set_option linter.unusedVariables false
namespace Go.Proofs.Ytinlmodkdjpocaa
open Go.RowKit

theorem info_bool : (Try.prog.info? 4).map (fun i => (i.zero, i.size, i.bytes)) = some (some (.bool false), 1, 1) := by kernel_rfl
def WvPost (l : List Nat) (w : World) (e : Ending) (w' : World) : Prop := ∃ b, e = .returned (.tuple #[.pointer (some ⟨b, 0, none⟩), .int .i64 0]) ∧ w.heap.size ≤ b ∧ MatR w' b l ∧ Below w.heap.size w w'
set_option maxRecDepth 100000 in
set_option maxHeartbeats 4000000 in
theorem wave_new (v : Value) (l : List Nat) (w : World) (h : SlR symV w v l) (hl : ∀ x ∈ l, x ≤ 256) (hn : l.length ≤ 100000) :
    Calls Try.prog 104 #[v] w (WvPost l w) := by
  obtain ⟨A, c, rfl, k1, k2, _⟩ := h.form
  have hcon := contains_wv _ l w h (fun x hx => by have := hl x hx; omega)
  have hany : l.any (fun x => decide (256 < x)) = false := by
    rw [List.any_eq_false]; intro x hx; have := hl x hx; simp; omega
  rw [hany] at hcon
  have hcl := Lib.hid (fun W (hW : SlR symV W (.slice A l.length c) l) => clone_sy _ l W hW (by omega))
  have HC := Lib.hid hcon
  have HS := Lib.hid h
  have HL := Lib.hid hl
  clear hany hcon h hl
  obtain ⟨N, hN⟩ : ∃ N, N = l.length := ⟨_, rfl⟩
  have HN := Lib.hid hN
  rw [← hN] at hcl HC HS hn k1 ⊢
  clear hN
  have hd100 : decide ((100000 : Int) < (N : Int)) = false := by simp; omega
  go_enter Try.func104, Try.ntmps104
  go_wp2_with fail
  refine HC.out.mono ?_
  rintro e w0 ⟨rfl, rfl⟩
  go_wp2_with fail
  refine (hcl.out _ HS.out).mono ?_
  rintro e w1 ⟨lv, rfl, ho1, hb1⟩
  obtain ⟨Al, cl, rfl⟩ := own_shape ho1
  have HO1 : Hid (SyO w0.heap.size w1 (.slice Al N cl) l) := Lib.hid (by unfold SyO; rw [← HN.out]; exact ho1)
  have HB1 := Lib.hid hb1
  clear ho1 hb1
  go_wp2_with fail
  refine (hcl.out _ ((HS.out.later HB1.out).alloc _)).mono ?_
  rintro e w2 ⟨rv, rfl, ho2, hb2⟩
  obtain ⟨Ar, cr, rfl⟩ := own_shape ho2
  obtain ⟨b, hbe⟩ : ∃ b, b = w1.heap.size := ⟨_, rfl⟩
  have hb0 : w0.heap.size ≤ b := by rw [hbe]; exact HB1.out.size
  have M0 : Hid (MatSt w2 b 0 l (.slice Al N cl)) := Lib.hid (by
    have h1 := heap_alloc_new w1 (.cells #[.slice Al N cl, .pointer none, .pointer none, .pointer none, .pointer none, .pointer none, .pointer none, .pointer none, .pointer none, .pointer none, .int .i64 0, .int .i64 0, .int .i64 0, .int .i64 0, .int .i64 0, .int .i64 0, .int .i64 0, .int .i64 0, .int .i64 0] 159)
    rw [← hbe] at h1
    have h2 : MatSt (w1.alloc (.cells #[.slice Al N cl, .pointer none, .pointer none, .pointer none, .pointer none, .pointer none, .pointer none, .pointer none, .pointer none, .pointer none, .int .i64 0, .int .i64 0, .int .i64 0, .int .i64 0, .int .i64 0, .int .i64 0, .int .i64 0, .int .i64 0, .int .i64 0] 159)) b 0 l (.slice Al N cl) := ⟨_, h1, rfl, rfl, ⟨HO1.out.slT.below ((Below.refl _ _).alloc (Nat.le_refl _) _), fun g hg => by rw [hbe]; exact (HO1.out.lt g hg).2⟩, fun j hj => absurd hj (Nat.not_lt_zero _), fun j hj => absurd hj (Nat.not_lt_zero _)⟩
    exact h2.below hb2)
  have R0 : Hid (SyO w0.heap.size w2 (.slice Ar N cr) (rowK 0 l)) := Lib.hid (by
    exact (SyO.of ho2 HN.out).lower (by have := HB1.out.size; simp; omega))
  have B0 : Hid (Below w0.heap.size w0 w2) := Lib.hid ((HB1.out.alloc HB1.out.size _).trans (hb2.mono (by have := HB1.out.size; simp; omega)))
  clear ho2 hb2 HC
  rw [← hbe]
  clear hbe
  go_wp2_with fail
  go_loopw [5, 25] (fun rowv ix wr => ∃ k : Nat, k ≤ 9 ∧ ix = .int .i64 k ∧ SyO w0.heap.size wr rowv (rowK k l) ∧ MatSt wr b k l (.slice Al N cl) ∧ Below w0.heap.size w0 wr) (fun _ ix _ => 9 - (intOf ix).toNat)
  case atStart => exact ⟨0, Nat.zero_le _, rfl, R0.out, M0.out, B0.out⟩
  case round =>
    clear M0 R0 B0
    obtain ⟨k, hk, rfl, hrow, hmat, hbel⟩ := hrel
    by_cases hlt : k < 9
    · have hrl : (rowK k l).length = N := by rw [rowK_length, HN.out]
      have hrm : ∀ x ∈ rowK k l, x ≤ 256 := fun x hx => HL.out x (rowK_mem k l x hx)
      have hlev : levK k l = (rowK k l).map (bitK k) := rfl
      have hzer : zerK k l = ((rowK k l).filter (fun c => !bitK k c)).length := rfl
      have hnext : rowK (k + 1) l = (rowK k l).filter (fun c => !bitK k c) ++ (rowK k l).filter (fun c => bitK k c) := rfl
      obtain ⟨Aw, cw, hrv⟩ := hrow.form
      rw [hrl] at hrv
      obtain ⟨row, hre⟩ : ∃ row, row = rowK k l := ⟨_, rfl⟩
      rw [← hre] at hrow hrl hrm hlev hzer hnext
      subst hrv
      obtain ⟨wo, hwo⟩ : ∃ wo, wo = wr := ⟨_, rfl⟩
      have HRow := Lib.hid hrow
      have HMat := Lib.hid hmat
      have HBel := Lib.hid hbel
      have HRL := Lib.hid hrl
      have HRM := Lib.hid hrm
      have HLev := Lib.hid hlev
      have HZer := Lib.hid hzer
      have HNext := Lib.hid hnext
      clear hrow hmat hbel hrl hrm hlev hzer hnext hre
      rw [← hwo] at HRow HMat HBel ⊢
      clear hwo
      have hmk := fun W => run_make_row' (P := Try.prog) 71 4 (.bool false) 1 Try.underlying71 info_bool rfl .i64 .i64 N (by omega) (by omega) W
      go_wp2_with fail
      obtain ⟨B, hBe⟩ : ∃ B, B = wo.heap.size := ⟨_, rfl⟩
      have I0 : Hid (InWv B wo (wo.alloc (.cells (madeCells #[.bool false] N) 4)) k row 0 (.slice none 0 0) (.slice none 0 0)) := Lib.hid (by
        refine ⟨?_, World.ownsRow_nil _ _ _ _, World.ownsRow_nil _ _ _ _, fun g hg => by simp [Value.ownBlock] at hg, ?_⟩
        · rw [hBe, heap_alloc_new]
          congr 2
          apply Array.ext'
          rw [toList_madeCells_one, HRL.out]
          apply List.ext_getElem
          · simp
          · intro i h1 h2; simp
        · rw [hBe]; exact (Below.refl _ _).alloc (Nat.le_refl _) _)
      clear hmk
      rw [← hBe]
      generalize wo.alloc (.cells (madeCells #[.bool false] N) 4) = w3 at *
      have HBe := Lib.hid hBe
      clear hBe
      go_loopw [8, 9, 33] (fun lo hi ix wi => ∃ i : Nat, i ≤ N ∧ ix = .int .i64 i ∧ InWv B wo wi k row i lo hi) (fun _ _ ix _ => N - (intOf ix).toNat)
      case atStart => exact ⟨0, Nat.zero_le _, rfl, I0.out⟩
      case round =>
        obtain ⟨i, hi, rfl, hin⟩ := hrel
        by_cases hil : i < N
        · have hil' : i < row.length := by rw [HRL.out]; exact hil
          obtain ⟨ad, c2, hsv, hcell⟩ := HRow.out.at_ i hil'
          injection hsv with e1 e2 e3
          subst e1
          have hx := HRM.out _ (List.getElem_mem hil')
          have hcw : wr.cell? (ad.add i) = some (.int .u16 (row[i] : Nat)) := (hin.below.cell (by have := World.block_lt_of_cell? wo _ hcell; rw [HBe.out]; exact this)).trans hcell
          obtain ⟨⟨v0, hc0⟩, hf0⟩ := hin.cells hil'
          have hbit := Lib.hid (fun W => wave_bit row[i] k W hlt (by omega))
          have HIN := Lib.hid hin
          obtain ⟨x, hxe⟩ : ∃ x, x = row[i] := ⟨_, rfl⟩
          have HX := Lib.hid hxe
          rw [← hxe] at hcw hx hbit
          clear hcell e2 e3 hin hxe
          obtain ⟨Alo, clo, hlo⟩ := HIN.out.rl.form
          obtain ⟨Ahi, chi, hhi⟩ := HIN.out.rh.form
          have hle1 : ((row.take i).filter (fun c => !bitK k c)).length ≤ 100000 := by
            have := List.length_filter_le (fun c => !bitK k c) (row.take i); rw [List.length_take] at this; omega
          have hle2 : ((row.take i).filter (fun c => bitK k c)).length ≤ 100000 := by
            have := List.length_filter_le (fun c => bitK k c) (row.take i); rw [List.length_take] at this; omega
          cases ht : bitK k x with
          | true =>
            rw [ht] at hbit
            have HT : Hid (bitK k row[i] = true) := Lib.hid (by rw [← HX.out]; exact ht)
            clear ht
            obtain ⟨p1, p2, p3, p4, p5⟩ := HIN.out.put hil' true HT.out
            have P3 := Lib.hid p3
            clear p1 p2 p3 p4
            subst hlo hhi
            go_wp2_with fail
            refine (hbit.out _).mono ?_
            rintro e w5 ⟨rfl, rfl⟩
            go_wp2_with (at_builtin; refine wp_app (W := w5.setCell ⟨B, i, none⟩ (.bool true)) (B + 1) 51 95 (.int .u16 0) 1 2 (.tmp 49) (.tmp 51) rfl rfl Try.underlying51 info_u16 rfl (by decide) (by decide) _ _ _ #[.int .u16 (x : Nat)] rfl (by rw [size_setCell]; rfl) P3.out rfl (by intro u hu; simp at hu; subst hu; rfl) (by omega) (by omega) ?_; intro g cap w6 ho6 hg6 hat6 hgb6 hgl6 hgs6; have HO6 := Lib.hid ho6; have HG6 := Lib.hid hg6; have HA6 := Lib.hid hat6; clear ho6 hg6 hat6)
            go_roundw
            case rel => exact ⟨_, _, _, _, _, ⟨i + 1, by omega, by go_num, HIN.out.toHi hil' HT.out (by have := HO6.out; rw [HX.out] at this; exact this) HG6.out HA6.out⟩, rfl, rfl, rfl, rfl, rfl⟩
            case measure => simp [intOf]; omega
          | false =>
            rw [ht] at hbit
            have HT : Hid (bitK k row[i] = false) := Lib.hid (by rw [← HX.out]; exact ht)
            clear ht
            obtain ⟨p1, p2, p3, p4, p5⟩ := HIN.out.put hil' false HT.out
            have P2 := Lib.hid p2
            clear p1 p2 p3 p4
            subst hlo hhi
            go_wp2_with fail
            refine (hbit.out _).mono ?_
            rintro e w5 ⟨rfl, rfl⟩
            go_wp2_with (at_builtin; refine wp_app (W := w5.setCell ⟨B, i, none⟩ (.bool false)) (B + 1) 51 95 (.int .u16 0) 1 2 (.tmp 53) (.tmp 55) rfl rfl Try.underlying51 info_u16 rfl (by decide) (by decide) _ _ _ #[.int .u16 (x : Nat)] rfl (by rw [size_setCell]; rfl) P2.out rfl (by intro u hu; simp at hu; subst hu; rfl) (by omega) (by omega) ?_; intro g cap w6 ho6 hg6 hat6 hgb6 hgl6 hgs6; have HO6 := Lib.hid ho6; have HG6 := Lib.hid hg6; have HA6 := Lib.hid hat6; clear ho6 hg6 hat6)
            go_roundw
            case rel => exact ⟨_, _, _, _, _, ⟨i + 1, by omega, by go_num, HIN.out.toLo hil' HT.out (by have := HO6.out; rw [HX.out] at this; exact this) HG6.out HA6.out⟩, rfl, rfl, rfl, rfl, rfl⟩
            case measure => simp [intOf]; omega
        · obtain rfl : N = i := by omega
          have HIN := Lib.hid hin
          have hsb : SlR boolV wr (.slice (some ⟨B, 0, none⟩) N N) (row.map (bitK k)) := by
            have h1 := HIN.out
            rw [← HRL.out] at h1
            have := h1.bits (by rw [HRL.out]; omega)
            rw [HRL.out] at this
            exact this
          have hnew := Lib.hid (bits_new _ _ wr.drew (hsb.later (Below.refl _ wr).drew) (by rw [List.length_map, HRL.out]; omega))
          have hmw : MatSt wr b k l (.slice Al N cl) := HMat.out.below (by rw [← HBe.out]; exact HIN.out.below)
          have HMW := Lib.hid hmw
          have hq9 : (k : Int) < 9 := by omega
          have hwl : wo.heap.size ≤ wr.heap.size := by rw [← HBe.out]; exact Nat.le_trans (Nat.le_refl _) (by have := (Array.getElem?_eq_some_iff.1 HIN.out.set).1; omega)
          clear hmw
          obtain ⟨Alo, clo, hlo⟩ := hin.rl.form
          obtain ⟨Ahi, chi, hhi⟩ := hin.rh.form
          subst hlo hhi
          clear hsb hin hil
          go_wp2_with fail
          go_cut [4] (fun t4 wc => t4 = .pointer (some ⟨b, 0, none⟩) ∧ ∃ p w5, Below wr.heap.size wr w5 ∧ VecR w5 p (row.map (bitK k)) ∧ wc = w5.setCell ⟨b, 1 + k, none⟩ (.pointer (some ⟨p, 0, none⟩)))
          case first =>
            go_region_law ((go_simp; go_at_call 124; (with_reducible refine hnew.out.mono ?_); rintro e w5 ⟨p, rfl, hp1, hp2, hp3⟩; have H5 := Lib.hid (below_undrew hp3); have HV5 := Lib.hid hp2; obtain ⟨⟨v5, hc5⟩, hf5⟩ := (HMW.out.below H5.out).cells (1 + k) (by omega); clear hp1 hp2 hp3))
            all_goals
              go_wp2_with fail
              go_meet
              exact ⟨rfl, p, w5, H5.out, HV5.out, rfl⟩
          case rest =>
            obtain ⟨rfl, p, w5, h5, hv5, hwc⟩ := hcut
            have hm5 : MatSt w5 b k l (.slice Al N cl) := HMW.out.below h5
            have hz : zerK k l = ((row.take N).filter (fun c => !bitK k c)).length := by rw [HZer.out, ← HRL.out, List.take_length]
            have hmN : MatSt ((w5.setCell ⟨b, 1 + k, none⟩ (.pointer (some ⟨p, 0, none⟩))).setCell ⟨b, 10 + k, none⟩ (natV (zerK k l))) b (k + 1) l (.slice Al N cl) := hm5.level hlt (by rw [HLev.out]; exact hv5)
            have hT5 : ∀ cur fr, w5.heap[b]? = some (.cells cur 95 fr) → False := by
              obtain ⟨cs, e1, _⟩ := hm5
              intro cur fr e2; rw [e1] at e2; injection e2 with e2; injection e2 with _ e2 _; exact absurd e2 (by decide)
            have hT6 : ∀ cur fr, (w5.setCell ⟨b, 1 + k, none⟩ (.pointer (some ⟨p, 0, none⟩))).heap[b]? = some (.cells cur 95 fr) → False := by
              obtain ⟨cs, e1, _⟩ := hm5
              intro cur fr e2; rw [heap_setCell_same e1] at e2; injection e2 with e2; injection e2 with _ e2 _; exact absurd e2 (by decide)
            have hloN := ((HIN.out.rl.below h5).setCell ⟨b, 1 + k, none⟩ (.pointer (some ⟨p, 0, none⟩)) hT5).setCell ⟨b, 10 + k, none⟩ (natV (zerK k l)) hT6
            have hhiN := ((HIN.out.rh.below h5).setCell ⟨b, 1 + k, none⟩ (.pointer (some ⟨p, 0, none⟩)) hT5).setCell ⟨b, 10 + k, none⟩ (natV (zerK k l)) hT6
            have hbN : Below w0.heap.size w0 ((w5.setCell ⟨b, 1 + k, none⟩ (.pointer (some ⟨p, 0, none⟩))).setCell ⟨b, 10 + k, none⟩ (natV (zerK k l))) := by
              have e1 : Below w0.heap.size w0 wr := HBel.out.trans (HIN.out.below.mono (by rw [HBe.out]; exact HBel.out.size))
              have e2 := e1.trans (h5.mono e1.size)
              exact (e2.setCell hb0 _).setCell hb0 _
            obtain ⟨⟨v10, hc10⟩, hf10⟩ := hm5.cells (10 + k) (by omega)
            have hc10' : wc.cell? ⟨b, 10 + k, none⟩ = some v10 := by rw [hwc, World.cell?_setCell_other _ _ _ _ (by intro e; injection e with _ e; omega)]; exact hc10
            have hf10' : wc.frozen? ⟨b, 10 + k, none⟩ = false := by rw [hwc, World.frozen?_setCell]; exact hf10
            rw [← hwc, hz] at hmN hloN hhiN hbN
            have hBs : B + 1 ≤ (wc.setCell ⟨b, 10 + k, none⟩ (natV ((row.take N).filter (fun c => !bitK k c)).length)).heap.size := by
              rw [size_setCell, hwc, size_setCell]
              have := h5.size
              have := (Array.getElem?_eq_some_iff.1 HIN.out.set).1
              omega
            have HMN := Lib.hid hmN
            have HLO := Lib.hid hloN
            have HHI := Lib.hid hhiN
            have HBN := Lib.hid hbN
            have hle : ((row.take N).filter (fun c => !bitK k c)).length ≤ N ∧ ((row.take N).filter (fun c => bitK k c)).length ≤ N := by
              have := List.length_filter_le (fun c => !bitK k c) (row.take N)
              have := List.length_filter_le (fun c => bitK k c) (row.take N)
              rw [List.length_take] at *; omega
            obtain ⟨hle1, hle2⟩ := hle
            have HNx : Hid (rowK (k + 1) l = (row.take N).filter (fun c => !bitK k c) ++ (row.take N).filter (fun c => bitK k c)) := Lib.hid (by rw [HNext.out, ← HRL.out, List.take_length])
            have hbB : b ≤ B + 1 := by
              obtain ⟨cs, e1, _⟩ := HMat.out
              have := (Array.getElem?_eq_some_iff.1 e1).1
              rw [HBe.out]; omega
            clear hm5 hmN hloN hhiN hbN hT5 hT6 hc10 hf10 hwc hv5 h5 hz HMW HIN
            generalize (row.take N).filter (fun c => !bitK k c) = LO at *
            generalize (row.take N).filter (fun c => bitK k c) = HI at *
            have hsz0 : w0.heap.size ≤ B + 1 := by have := HBel.out.size; rw [HBe.out]; omega
            clear HBe HRL HRM HLev HZer HNext HRow HMat HBel hwl
            rcases HHI.out.2 with ⟨hv, hz0⟩ | ⟨gh, caph, curh, hv, _, _, hcap, hcm, _⟩
            · injection hv with e1 e2 e3
              subst e1 e3
              obtain rfl : HI = [] := List.eq_nil_of_length_eq_zero hz0
              obtain ⟨i0, hi0, hz1, hz2, hz3⟩ := info_parts info_u16
              clear hz0 e2 HHI
              go_wp2_with (at_builtin; refine wpList_append_own_none (w := wc.setCell ⟨b, 10 + k, none⟩ (natV LO.length)) rfl (.tmp 75) (.tmp 76) 51 rfl (B + 1) 95 i0 1 Try.underlying51 hi0 _ LO.length (LO.map symV) rfl HLO.out rfl ?_)
              go_roundw
              case rel => exact ⟨k + 1, by omega, by go_num, by rw [HNx.out, List.append_nil]; exact HLO.out.lower hsz0, HMN.out, HBN.out⟩
              case measure => simp [intOf]; omega
            · injection hv with e1 e2 e3
              subst e1
              obtain ⟨i0, hi0, hz1, hz2, hz3⟩ := info_parts info_u16
              have hsrc := HHI.out.slT.1.src.2.2 _ rfl
              have HSRC := Lib.hid hsrc
              clear e2 hsrc
              go_wp2_with (at_builtin; refine wpList_append_own (w := wc.setCell ⟨b, 10 + k, none⟩ (natV LO.length)) rfl (.tmp 75) (.tmp 76) 51 rfl (B + 1) 95 i0 (.int .u16 0) 1 2 Try.underlying51 hi0 hz1 hz2 hz3 rfl (by decide) _ LO.length (LO.map symV) rfl HLO.out ⟨gh, 0, none⟩ HI.length chi (HI.map symV) rfl (by simp) HSRC.out (oneCell_map (fun _ => rfl) HI) (by unfold maxLen; omega) (by omega) hBs ?_; intro v9 w9 ho9 hg9 hnil9; have HO9 := Lib.hid ho9; have HG9 := Lib.hid hg9; clear ho9 hg9 hnil9)
              go_roundw
              case rel => exact ⟨k + 1, by omega, by go_num, by rw [HNx.out]; exact (SyO.of (l := LO ++ HI) (by rw [List.map_append]; exact HO9.out) (by rw [List.length_append])).lower hsz0, HMN.out.grown HLO.out HG9.out hbB, HBN.out.grown HG9.out HBN.out.size (fun g hg => by have := (HLO.out.lt g hg).1; omega)⟩
              case measure => simp [intOf]; omega
    · obtain rfl : k = 9 := by omega
      have HM9 := Lib.hid (hmat.mat (by rw [← HN.out]; exact hn))
      have HB9 := Lib.hid hbel
      clear hmat hbel hrow hlt hk
      go_wp2_with fail
      go_ret2
      exact ⟨b, rfl, hb0, HM9.out, HB9.out⟩
end Go.Proofs.Ytinlmodkdjpocaa
