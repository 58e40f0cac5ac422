/- law 13: WalkLong. -/
import Derived.Test.YtinlmodkdjpocaaWla
import Derived.Test.YtinlmodkdjpocaaMsk
set_option linter.unusedVariables false
namespace Go.Proofs.Ytinlmodkdjpocaa
open Go.RowKit Go.Shelf

/-- the block of the places that were told -/
def SnB (w3 : World) (B : Nat) (l : List Bool) (W : World) : Prop := W.heap[B]? = some (.cells (l.map Value.bool).toArray 4 (0, 0)) ∧ Below B w3 W
theorem SnB.cell {w3 W : World} {B : Nat} {l : List Bool} (h : SnB w3 B l W) {r : Nat} {b : Bool} (hr : l[r]? = some b) : W.cell? ⟨B, r, none⟩ = some (.bool b) := by
  rw [cell_of_block h.1]
  simp [hr]
theorem SnB.free {w3 W : World} {B : Nat} {l : List Bool} (h : SnB w3 B l W) (r : Nat) : W.frozen? ⟨B, r, none⟩ = false := free_of_block h.1
theorem SnB.put {w3 W : World} {B : Nat} {l : List Bool} (h : SnB w3 B l W) (r : Nat) : SnB w3 B (l.set r true) (W.setCell ⟨B, r, none⟩ (.bool true)) := by
  refine ⟨?_, h.2.setCell (p := ⟨B, r, none⟩) (Nat.le_refl _) _⟩
  rw [heap_setCell_same h.1]
  congr 2
  apply Array.ext'
  simp [List.map_set]
theorem SnB.later {w3 W W2 : World} {B : Nat} {l : List Bool} (h : SnB w3 B l W) (hb : Below W.heap.size W W2) (hs : B ≤ W.heap.size) : SnB w3 B l W2 := by
  have hlt := (Array.getElem?_eq_some_iff.1 h.1).1
  exact ⟨(hb.block B hlt).trans h.1, h.2.trans (hb.mono (by omega))⟩
/-- the places of the first i rows -/
def snL (ds : List (List UInt8)) (i : Nat) : List Bool := (List.range (rowOf ds).length).map (fun p => decide (idxP (rowOf ds) p < i))
theorem snL_length (ds : List (List UInt8)) (i : Nat) : (snL ds i).length = (rowOf ds).length := by simp [snL]
theorem snL_zero (ds : List (List UInt8)) : snL ds 0 = List.replicate (rowOf ds).length false := by
  unfold snL
  refine List.eq_replicate_iff.2 ⟨by simp, ?_⟩
  intro x hx
  simp only [List.mem_map, List.mem_range] at hx
  obtain ⟨i, hi, rfl⟩ := hx
  simp
theorem snL_at (ds : List (List UInt8)) (p : Nat) (hp : p < (rowOf ds).length) : (snL ds (idxP (rowOf ds) p))[p]? = some false := by
  unfold snL
  rw [List.getElem?_map, List.getElem?_range hp]
  simp
theorem snL_next (ds : List (List UInt8)) (p : Nat) (hp : p < (rowOf ds).length) : (snL ds (idxP (rowOf ds) p)).set p true = snL ds (idxP (rowOf ds) p + 1) := by
  unfold snL
  rw [map_range_set]
  apply List.map_congr_left
  intro q hq
  rw [List.mem_range] at hq
  by_cases e : q = p
  · subst e; simp
  · rw [if_neg e]
    have hne : idxP (rowOf ds) q ≠ idxP (rowOf ds) p := fun h => e (idxP_inj (rowOk_rowOf ds) q p hq hp h)
    rw [Bool.eq_iff_iff, decide_eq_true_iff, decide_eq_true_iff]
    omega
theorem two_row (D : List UInt8) : (rowOf [D, D]).length = 2 * (D.length + 1) := by
  simp [rowOf, symsOf]; omega
theorem two_start (D : List UInt8) (k : Nat) (hk : k < 2) : startAt [D, D] k = k * (D.length + 1) := by
  match k, hk with
  | 0, _ => simp [startAt, rowOf]
  | 1, _ => simp [startAt, rowOf, symsOf]

theorem two_docs (W : World) (B m : Nat) (D : List UInt8) (h : SlR byV W (.slice (some ⟨B, 0, none⟩) m m) D) (hm : D.length = m) :
    DocsR (W.alloc (.cells #[.slice (some ⟨B, 0, none⟩) m m, .slice (some ⟨B, 0, none⟩) m m] 29)) (.slice (some ⟨W.heap.size, 0, none⟩) 2 2) [D, D] := by
  have g0 := heap_alloc_new W (.cells #[.slice (some ⟨B, 0, none⟩) m m, .slice (some ⟨B, 0, none⟩) m m] 29)
  have h' := h.later ((Below.refl W.heap.size W).alloc (Nat.le_refl _) (.cells #[.slice (some ⟨B, 0, none⟩) m m, .slice (some ⟨B, 0, none⟩) m m] 29))
  refine ⟨[.slice (some ⟨B, 0, none⟩) m m, .slice (some ⟨B, 0, none⟩) m m], rfl, ⟨_, _, rfl, Nat.le_refl _, (by decide : 2 ≤ 9223372036854775807), .inr ⟨_, rfl, fun j hj => ?_⟩⟩, fun j hj hj' => ?_⟩
  · match j, hj with
    | 0, _ => rw [add_spot]; simp only [World.cell?, g0]; rfl
    | 1, _ => rw [add_spot]; simp only [World.cell?, g0]; rfl
  · match j, hj with
    | 0, _ => exact h'
    | 1, _ => exact h'
theorem two_samples (D : List UInt8) : (smL [D, D]).length = 2 * (D.length / 32 + 1) := by
  rw [smL_length]
  simp [cntB, szL]
  omega

set_option maxRecDepth 100000 in
set_option maxHeartbeats 4000000 in
theorem law13_long (bs : List UInt8) (v : Value) (n : Int) (w : World) (hv : SlR byV w v bs) :
    Calls Try.prog 14 #[v, .int .i64 n] w fun e w' => e = .returned (.bool true) ∧ Below w.heap.size w w' := by
  have hawk := Lib.hid law13_awake
  obtain ⟨A, c, rfl, h1, h2, -⟩ := hv.form
  have HV := Lib.hid hv
  obtain ⟨k, hk⟩ : ∃ k : Nat, n % 1024 = (k : Nat) := ⟨(n % 1024).toNat, by omega⟩
  have hk2 : k < 1024 := by omega
  have hand : bits .and .i64 n 1023 = (k : Nat) := by rw [i64_mask 10 1023 (by decide) (by decide)]; exact hk
  obtain ⟨m, hm⟩ : ∃ m, m = k % 600 := ⟨_, rfl⟩
  have hmb : m < 600 := by omega
  have hrem : (k : Int).tmod 600 = (m : Nat) := by rw [Int.tmod_eq_emod_of_nonneg (by omega)]; omega
  have hmk := fun W => run_make_row' (P := Try.prog) 29 5 (.int .u8 0) 1 Try.underlying29 info_u8 rfl .i64 .i64 m (by omega) (by omega) W
  obtain ⟨LB, hLB⟩ : ∃ LB, LB = bs.length := ⟨_, rfl⟩
  rw [← hLB] at h1 HV ⊢
  have HLB := Lib.hid hLB
  clear hv hk hm hLB
  go_enter Try.func14, Try.ntmps14
  go_wp2_with fail
  obtain ⟨B, hB⟩ : ∃ B, B = w.heap.size := ⟨_, rfl⟩
  have I0 : Hid (ByB (w.alloc (.cells (madeCells #[.int .u8 0] m) 5)) B (List.replicate m 0) [] ∧ Below B w (w.alloc (.cells (madeCells #[.int .u8 0] m) 5))) := Lib.hid (by
    refine ⟨?_, ?_⟩
    · unfold ByB
      rw [hB, heap_alloc_new]
      congr 2
      apply Array.ext'
      rw [toList_madeCells_one]
      simp [byV]
    · rw [hB]; exact (Below.refl _ _).alloc (Nat.le_refl _) _)
  rw [← hB]
  have HBe := Lib.hid hB
  clear hB hmk hand hrem
  generalize w.alloc (.cells (madeCells #[.int .u8 0] m) 5) = w2 at *
  go_loopw [6] (fun iv wr => ∃ (i : Nat) (D : List UInt8), i ≤ m ∧ iv = .int .i64 i ∧ D.length = m ∧ ByB wr B D [] ∧ Below B w wr) (fun iv _ => m - (intOf iv).toNat)
  case atStart => exact ⟨0, _, Nat.zero_le _, rfl, by simp, I0.out⟩
  case round =>
    clear I0
    obtain ⟨i, D, hi, rfl, hD, hby, hbl⟩ := hrel
    by_cases hgo : i < m ∧ 0 < LB
    · obtain ⟨hlt, hL⟩ := hgo
      obtain ⟨q, hq⟩ : ∃ q, q = i % LB := ⟨_, rfl⟩
      have hql : q < LB := by rw [hq]; exact Nat.mod_lt _ hL
      have hrem : (i : Int).tmod (LB : Int) = (q : Nat) := by rw [hq, Int.tmod_eq_emod_of_nonneg (by omega)]; rfl
      have hbl' : Below w.heap.size w wr := by rw [← HBe.out]; exact hbl
      obtain ⟨ad, rfl, hc⟩ := (HV.out.later hbl').at_ q (by rw [← HLB.out]; exact hql)
      have hc' : wr.cell? (ad.add q) = some (.int .u8 ((bs[q]'(by rw [← HLB.out]; exact hql)).toNat : Int)) := hc
      generalize bs[q]'(by rw [← HLB.out]; exact hql) = x at *
      obtain ⟨y, hy⟩ : ∃ y, D[i]? = some y := by rw [List.getElem?_eq_getElem (by omega)]; exact ⟨_, rfl⟩
      obtain ⟨a1, a2⟩ := hby.cell i y hy
      have hput := hby.put i x (by omega)
      have HP := Lib.hid hput
      have HBL := Lib.hid hbl
      have HD := Lib.hid hD
      have hL0 : LB ≠ 0 := by omega
      have hLn : ((LB : Int) == 0) = false := by simp; omega
      have hLi : ¬ (LB : Int) = 0 := by omega
      generalize x.toNat = xn at *
      clear hc hq hby hbl hbl' hput hD hy
      go_wp2_with fail
      go_roundw
      case rel => exact ⟨i + 1, D.set i x, by omega, by go_num, by rw [List.length_set]; exact HD.out, HP.out, HBL.out.setCell (p := ⟨B, i, none⟩) (Nat.le_refl _) _⟩
      case measure => simp [intOf]; omega
    · have hex : i = m ∨ (i < m ∧ LB = 0) := by omega
      have hbl' : Below w.heap.size w wr := by rw [← HBe.out]; exact hbl
      have hsl : SlR byV wr (.slice (some ⟨B, 0, none⟩) m m) D := by
        refine ⟨_, _, by rw [hD], by omega, by omega, .inr ⟨_, rfl, fun j hj => ?_⟩⟩
        rw [addr_zero]
        exact (hby.cell j D[j] (List.getElem?_eq_getElem hj)).1
      have hrow := two_row D
      rw [hD] at hrow
      have hok : okDs [D, D] := by
        refine ⟨by simp, ?_, ?_⟩
        · intro d hd
          simp at hd
          subst hd
          omega
        · omega
      have HSL := Lib.hid hsl
      have HBL := Lib.hid hbl'
      have HROW := Lib.hid hrow
      have HOK := Lib.hid hok
      have HD := Lib.hid hD
      have HST := Lib.hid (two_start D)
      obtain ⟨M, hM⟩ : ∃ M, M = 2 * (m + 1) := ⟨_, rfl⟩
      have hMb : M ≤ 1202 := by omega
      rw [← hM] at HROW
      have hmm : ((m : Int) + 1) * 2 = (M : Nat) := by omega
      clear hsl hrow hok hbl hbl' hby hD hgo HV
      obtain ⟨q, hq⟩ : ∃ q, q = m / 32 := ⟨_, rfl⟩
      have hqd : (m : Int).tdiv 32 = (q : Nat) := by rw [Int.tdiv_eq_ediv_of_nonneg (by omega)]; omega
      obtain ⟨NS, hNS⟩ : ∃ NS, NS = 2 * (q + 1) := ⟨_, rfl⟩
      have hsml := two_samples D
      rw [HD.out, ← hq, ← hNS] at hsml
      have HSML := Lib.hid hsml
      have hdocs := Lib.hid (two_docs wr B m D HSL.out HD.out)
      have hmade := Lib.hid (law_made [D, D] _ _ hdocs.out HOK.out)
      have hqb : q ≤ 20 := by omega
      have HM := Lib.hid hM
      have HNS := Lib.hid hNS
      clear hsml hdocs hq hNS hM
      have hcase : (¬ i < m) ∨ (i < m ∧ LB = 0) := by omega
      clear hex hi
      rcases hcase with hge | ⟨hlt, rfl⟩
      all_goals
        go_wp2_with fail
        refine hmade.out.mono ?_
        rintro e w3 ⟨x, rfl, -, hx, hb3⟩
        have hnw := Lib.hid (walk_new x [D, D] w3 hx HOK.out)
        have HX := Lib.hid (fun W (hW : Below w3.heap.size w3 W) => hx.later hW)
        have HSL3 := Lib.hid (HSL.out.later (((Below.refl wr.heap.size wr).alloc (Nat.le_refl _) (.cells #[.slice (some ⟨B, 0, none⟩) m m, .slice (some ⟨B, 0, none⟩) m m] 29)).trans (hb3.mono (by simp))))
        have HB3 := Lib.hid (HBL.out.trans (((Below.refl wr.heap.size wr).alloc (Nat.le_refl _) (.cells #[.slice (some ⟨B, 0, none⟩) m m, .slice (some ⟨B, 0, none⟩) m m] 29)).trans (hb3.mono (by simp)) |>.mono HBL.out.size))
        clear hx hb3 hmade
        go_wp2_with fail
        refine hnw.out.mono ?_
        rintro e w4 ⟨b, rfl, -, hp, hb4⟩
        have HP := Lib.hid (fun W (hW : Below w4.heap.size w4 W) => hp.later hW)
        have HB4 := Lib.hid hb4
        have hsm := Lib.hid (plc_samples b _ _ _ w4 hp (by rw [HSML.out]; have := HNS.out; omega))
        clear hp hb4 hnw
        have hnsi : (2 : Int) * ((q : Int) + 1) = (NS : Nat) := by have := HNS.out; omega
        have hmi : (2 : Int) * ((m : Int) + 1) = (M : Nat) := by have := HM.out; omega
        have hmk := fun W => run_make_row' (P := Try.prog) 71 4 (.bool false) 1 Try.underlying71 info_bool rfl .i64 .i64 M (by omega) (by omega) W
        go_wp2_with (first
          | (go_at_call 60; go_must ((refine hsm.out.mono ?_); rintro e w6 ⟨v6, rfl, hs6, hb6⟩; obtain ⟨A6, c6, rfl, _, _, -⟩ := hs6; rw [HSML.out]; have HB6 := Lib.hid (HB4.out.trans (hb6.mono HB4.out.size)); have HP6 := Lib.hid (HP.out _ hb6); clear hb6)))
        clear hmk
        obtain ⟨S, hS⟩ : ∃ S, S = w6.heap.size := ⟨_, rfl⟩
        have J0 : Hid (SnB w6 S (snL [D, D] 0) (w6.alloc (.cells (madeCells #[.bool false] M) 4))) := Lib.hid (by
          refine ⟨?_, ?_⟩
          · rw [hS, heap_alloc_new, snL_zero, HROW.out]
            congr 2
            apply Array.ext'
            rw [toList_madeCells_one]
            simp
          · rw [hS]; exact (Below.refl _ _).alloc (Nat.le_refl _) _)
        rw [← hS]
        have HSe := Lib.hid hS
        clear hS
        generalize w6.alloc (.cells (madeCells #[.bool false] M) 4) = w7 at *
        have HLN := Lib.hid (fun W (hW : Below w3.heap.size w3 W) => back_len x _ W (HX.out W hW))
        have hrl : (bwtOf (rowOf [D, D])).length = M := by rw [bwtOf_length (rowOk_rowOf _), HROW.out]
        rw [hrl] at HLN
        have HRL := Lib.hid hrl
        clear hrl
        go_loopw [11] (fun iv wi => ∃ i : Nat, i ≤ M ∧ iv = .int .i64 i ∧ SnB w6 S (snL [D, D] i) wi) (fun iv _ => M - (intOf iv).toNat)
        case atStart => exact ⟨0, Nat.zero_le _, rfl, J0.out⟩
        case round =>
          clear J0
          obtain ⟨i, hi, rfl, hsn⟩ := hrel
          have hb6r : Below w6.heap.size w6 wr := by rw [← HSe.out]; exact hsn.2
          have hb3r := HB6.out.trans (hb6r.mono HB6.out.size)
          have hb3r' := HB4.out.size
          by_cases hlt : i < M
          · obtain ⟨kd, hkd, o, ho, hio⟩ := row_ex [D, D] i (by rw [HROW.out]; exact hlt)
            have hk2 : kd < 2 := hkd
            have hdl : [D, D][kd] = D := by
              match kd, hkd with
              | 0, _ => rfl
              | 1, _ => rfl
            rw [hdl, HD.out] at ho
            obtain ⟨p, hp⟩ : ∃ p, p = startAt [D, D] kd + o := ⟨_, rfl⟩
            have hpl := place_lt [D, D] kd hkd o (by rw [hdl, HD.out]; exact ho)
            have hat := walk_at_docs b x [D, D] kd hkd o (by rw [hdl, HD.out]; exact ho) wr (HX.out wr hb3r) (HP6.out.later hb6r) HOK.out
            rw [← hio] at hat
            have hsy := Lib.hid (fun W (hW : Below w3.heap.size w3 W) => back_sym x _ (i : Nat) W (HX.out W hW))
            have hsv := symAt_rw [D, D] kd hkd o (by rw [hdl, HD.out]; exact ho)
            rw [← hio] at hsv
            have hsv2 : symAt (bwtOf (rowOf [D, D])) (i : Nat) = (if 0 < o then (D.getD (o - 1) 0).toNat + 1 else 0 : Nat) := by
              rw [hsv]
              by_cases h : 0 < o
              · rw [dif_pos h, if_pos h]
                simp only [hdl, List.getD, List.getElem?_eq_getElem (show o - 1 < D.length from by rw [HD.out]; omega), Option.getD_some]
              · rw [dif_neg h, if_neg h]
            have hidx : idxP (rowOf [D, D]) p = i := by rw [hp]; exact hio.symm
            rw [← hp] at hpl
            have hsf := snL_at [D, D] p hpl
            have hsnx := snL_next [D, D] p hpl
            rw [hidx] at hsf hsnx
            rw [HROW.out] at hpl
            obtain ⟨P1, hP1⟩ : ∃ P1, P1 = kd * (m + 1) := ⟨_, rfl⟩
            have hpp : p = P1 + o := by rw [hp, HST.out kd hk2, HD.out, hP1]
            have hmu : (kd : Int) * ((m : Int) + 1) = (P1 : Nat) := by rw [hP1]; push_cast; rfl
            have hsum : (P1 : Int) + (o : Int) = (p : Nat) := by omega
            have HSN := Lib.hid hsn
            have HAT := Lib.hid hat
            have HSF := Lib.hid hsf
            have HSNX := Lib.hid hsnx
            have HB6R := Lib.hid hb6r
            have HB3R := Lib.hid hb3r
            have HSY := Lib.hid hsy.out
            have hq1 : decide ((kd : Int) < 0) = false := by simp
            have hq2 : decide (1 < kd) = false := by simp; omega
            have hq3 : decide ((o : Int) < 0) = false := by simp
            have hq4 : decide (m < o) = false := by simp; omega
            have hwp1 : IntKind.i64.wrap ((P1 : Nat) : Int) = (P1 : Nat) := IntWalk.i64_in _ (by omega)
            have hwp2 : IntKind.i64.wrap ((p : Nat) : Int) = (p : Nat) := IntWalk.i64_in _ (by omega)
            have hplM : (p : Int) < (M : Int) := by omega
            clear hsn hat hsv hp hidx hsf hsnx hP1 hpp hdl hio hb6r hb3r hsy hkd
            go_wp2_with (first
              | (go_at_call 38; go_must ((refine (HLN.out wr HB3R.out).mono ?_); rintro e w8 ⟨rfl, hw8⟩; have hw9 := hw8.symm; subst hw9))
              | (go_at_call 61; go_must ((refine HAT.out.mono ?_); rintro e w9 ⟨rfl, hb9⟩; have hsn9 := HSN.out.later hb9 (by rw [HSe.out]; exact HB6R.out.size); have z1 := hsn9.cell HSF.out; have z2 := hsn9.free p; have hput := hsn9.put p; rw [HSNX.out] at hput; have HPUT := Lib.hid hput; have HB9 := Lib.hid hb9; clear hsn9 hput hb9)))
            have hb9' : Below w3.heap.size w3 (w9.setCell ⟨S, p, none⟩ (.bool true)) := (HB3R.out.trans (HB9.out.mono HB3R.out.size)).setCell (p := ⟨S, p, none⟩) (by show w3.heap.size ≤ S; rw [HSe.out]; exact HB6.out.size) _
            have hsyc := HSY.out _ hb9'
            have hsl9 := HSL3.out.later hb9'
            have HB9' := Lib.hid hb9'
            by_cases ho0 : 0 < o
            · rw [hsv2, if_pos ho0] at hsyc
              obtain ⟨ad, ead, hcd⟩ := hsl9.at_ (o - 1) (by rw [HD.out]; omega)
              cases ead
              have hcd' : (w9.setCell ⟨S, p, none⟩ (.bool true)).cell? ⟨B, o - 1, none⟩ = some (.int .u8 ((D.getD (o - 1) 0).toNat : Int)) := by
                rw [addr_zero] at hcd
                rw [hcd]
                simp [byV, List.getD, show o - 1 < D.length from by rw [HD.out]; omega]
              have hxb : (D.getD (o - 1) 0).toNat ≤ 255 := by have := (D.getD (o - 1) 0).toNat_lt; omega
              generalize (D.getD (o - 1) 0).toNat = y at *
              obtain ⟨j, hj⟩ : ∃ j, j = o - 1 := ⟨_, rfl⟩
              rw [← hj] at hcd'
              have hjo : (o : Int) - 1 = (j : Nat) := by omega
              have hoj : ¬ o = 0 := by omega
              have HSYC := Lib.hid hsyc
              clear hsyc hsl9 hb9' hsv2 hcd hj
              go_wp2_with (first
                | (go_at_call 62; go_must ((refine HSYC.out.mono ?_); rintro e w10 ⟨rfl, hw10⟩; have hw11 := hw10.symm; subst hw11)))
              exact ⟨⟨i + 1, by omega, by go_num, HPUT.out⟩, by simp [intOf]; omega⟩
            · obtain rfl : o = 0 := by omega
              rw [hsv2, if_neg ho0] at hsyc
              have HSYC := Lib.hid hsyc
              clear hsyc hsl9 hb9' hsv2 ho0
              go_wp2_with (first
                | (go_at_call 62; go_must ((refine HSYC.out.mono ?_); rintro e w10 ⟨rfl, hw10⟩; have hw11 := hw10.symm; subst hw11)))
              exact ⟨⟨i + 1, by omega, by go_num, HPUT.out⟩, by simp [intOf]; omega⟩
          · obtain rfl : i = M := by omega
            have HBW := Lib.hid (HB3.out.trans (hb3r.mono HB3.out.size))
            have HLW := Lib.hid (HLN.out wr hb3r)
            clear hsn hb6r hb3r hb3r' hlt hi
            go_wp2_with (first
              | (go_at_call 38; go_must ((refine HLW.out.mono ?_); rintro e w8 ⟨rfl, hw8⟩; have hw9 := hw8.symm; subst hw9))
              | (go_at_call 63; go_must ((refine (hawk.out _).mono ?_); rintro e w11 ⟨rfl, hb11⟩; have HB11 := Lib.hid (HBW.out.trans (hb11.mono HBW.out.size)); clear hb11)))
            go_ret
            exact ⟨rfl, HB11.out⟩
end Go.Proofs.Ytinlmodkdjpocaa
