/- law 12: BackSteps. -/
import Derived.Test.YtinlmodkdjpocaaRgf
import Derived.Test.YtinlmodkdjpocaaStpM
set_option linter.unusedVariables false
namespace Go.Proofs.Ytinlmodkdjpocaa
open Go.RowKit Go.Shelf

/-- the block of the rows that were gone through -/
def SeenB (w3 : World) (B : Nat) (l : List Bool) (W : World) : Prop := W.heap[B]? = some (.cells (l.map Value.bool).toArray 4 (0, 0)) ∧ Below B w3 W
theorem SeenB.cell {w3 W : World} {B : Nat} {l : List Bool} (h : SeenB w3 B l W) {r : Nat} {b : Bool} (hr : l[r]? = some b) : W.cell? ⟨B, r, none⟩ = some (.bool b) := by
  rw [cell_of_block h.1]
  simp [hr]
theorem SeenB.free {w3 W : World} {B : Nat} {l : List Bool} (h : SeenB w3 B l W) (r : Nat) : W.frozen? ⟨B, r, none⟩ = false := free_of_block h.1
theorem SeenB.put {w3 W : World} {B : Nat} {l : List Bool} (h : SeenB w3 B l W) (r : Nat) : SeenB w3 B (l.set r true) (W.setCell ⟨B, r, none⟩ (.bool true)) := by
  refine ⟨?_, h.2.setCell (p := ⟨B, r, none⟩) (Nat.le_refl _) _⟩
  rw [heap_setCell_same h.1]
  congr 2
  apply Array.ext'
  simp [List.map_set]
theorem SeenB.drewN {w3 W : World} {B : Nat} {l : List Bool} (h : SeenB w3 B l W) (q : Nat) : SeenB w3 B l (W.drewN q) := ⟨h.1, below_drewN h.2 q⟩

set_option maxRecDepth 100000 in
set_option maxHeartbeats 4000000 in
theorem law12_steps_main (ds : List (List UInt8)) (v : Value) (w : World) (hd : DocsR w v ds) (hf : fewB ds = true) :
    Calls Try.prog 12 #[v] w fun e w' => e = .returned (.bool true) ∧ Below w.heap.size w w' := by
  have hfew := Lib.hid (law_few ds v w hd)
  rw [hf] at hfew
  have hawk := Lib.hid law12_awake
  obtain ⟨A, c, rfl, h1, h2, -⟩ := hd.form
  have hok := few_ok hf
  obtain ⟨hf1, hf2, hf3, hf4, -⟩ := few_facts hf
  have hm := Lib.hid (law_made ds _ w hd hok)
  have HD := Lib.hid hd
  have hbl : (bwtOf (rowOf ds)).length = (rowOf ds).length := bwtOf_length (rowOk_rowOf ds)
  have hb0 : (bwtOf (rowOf ds)).count 0 = ds.length := count_zero_bwt ds
  have HGD := Lib.hid (getD_bwt ds)
  have HSA := Lib.hid (step_at ds)
  obtain ⟨L, hL⟩ : ∃ L, L = bwtOf (rowOf ds) := ⟨_, rfl⟩
  rw [← hL] at hm hbl hb0 HGD HSA
  obtain ⟨N, hN⟩ : ∃ N, N = (rowOf ds).length := ⟨_, rfl⟩
  rw [← hN] at hbl hf4
  have HN := Lib.hid hN
  have HBL := Lib.hid hbl
  have HB0 := Lib.hid hb0
  have HST := Lib.hid (fun dv W (a : DocsR W dv ds) => ref_strings ds dv W a (by omega))
  have HLN := Lib.hid (fun dv W (a : SlR strV W dv ds) => ref_len ds dv W a (by rw [← hN]; omega))
  have hmk := fun W => run_make_row' (P := Try.prog) 71 4 (.bool false) 1 Try.underlying71 info_bool rfl .i64 .i64 N (by omega) (by omega) W
  clear hd hf hok hL hf2 hbl hb0 hN
  go_enter Try.func12, Try.ntmps12
  go_wp2_with (first
    | (go_at_call 20; go_must ((refine hfew.out.mono ?_); rintro e w1 ⟨rfl, rfl⟩))
    | (go_at_call 33; go_must ((refine hm.out.mono ?_); rintro e w3 ⟨x, rfl, hx0, hx, hb3⟩; have HX := Lib.hid hx; have HB3 := Lib.hid hb3; clear hx0 hx hb3))
    | (go_at_call 38; go_must ((with_reducible refine (back_len x L w3 HX.out).mono ?_); rintro e w10 ⟨rfl, hw⟩; have hw2 := hw.symm; subst hw2; rw [HBL.out])))
  clear hmk
  obtain ⟨B, hB⟩ : ∃ B, B = w3.heap.size := ⟨_, rfl⟩
  have I0 : Hid (SeenB w3 B (List.replicate N false) (w3.alloc (.cells (madeCells #[.bool false] N) 4))) := Lib.hid (by
    refine ⟨?_, ?_⟩
    · rw [hB, heap_alloc_new]
      congr 2
      apply Array.ext'
      rw [toList_madeCells_one]
      simp
    · rw [hB]; exact (Below.refl _ _).alloc (Nat.le_refl _) _)
  rw [← hB]
  have HBe := Lib.hid hB
  clear hB
  generalize w3.alloc (.cells (madeCells #[.bool false] N) 4) = w4 at *
  have HXW := Lib.hid (fun W (hW : Below B w3 W) => HX.out.below (by rw [HBe.out]; exact Nat.le_refl _) hW)
  go_loopw [5, 6] (fun nv jv wr => ∃ j : Nat, j ≤ ds.length ∧ jv = .int .i64 j ∧ nv = .int .i64 (startAt ds j : Nat) ∧ SeenB w3 B (seenL ds j ((ds.getD j []).length + 1)) wr) (fun _ jv _ => ds.length - (intOf jv).toNat)
  case atStart => exact ⟨0, Nat.zero_le _, rfl, by simp [startAt, rowOf], by rw [seenL_start, ← HN.out]; exact I0.out⟩
  case round =>
    clear I0
    obtain ⟨j, hj, rfl, rfl, hse⟩ := hrel
    have hdo := Lib.hid (back_docsN x L wr (HXW.out wr hse.2))
    rw [HB0.out] at hdo
    have hstl := startAt_le ds j hj
    rw [← HN.out] at hstl
    by_cases hjl : j < ds.length
    · have gd : ds.getD j [] = ds[j] := by simp [List.getD, hjl]
      have hie := idx_end ds j hjl
      have hss := startAt_succ ds j hjl
      have hsn := startAt_le ds (j + 1) hjl
      rw [← HN.out] at hsn
      rw [gd] at hse
      have HNX := Lib.hid (seenL_next ds j hjl 0)
      have HNOT := Lib.hid (seenL_not ds j hjl)
      have HSET := Lib.hid (seenL_set ds j hjl)
      have HLT := Lib.hid (fun o ho => idxP_lt (rowOk_rowOf ds) _ (place_lt ds j hjl o ho))
      have hgd := HGD.out j hjl
      have hsa := HSA.out j hjl
      have HG := Lib.hid hgd
      have HS := Lib.hid hsa
      have HSE := Lib.hid hse
      have HIE := Lib.hid hie
      obtain ⟨m, hm2⟩ : ∃ m, m = ds[j].length := ⟨_, rfl⟩
      rw [← hm2] at hss
      have HM := Lib.hid hm2
      have HSS := Lib.hid hss
      obtain ⟨s0, hs0⟩ : ∃ s0, s0 = startAt ds j := ⟨_, rfl⟩
      have HS0 := Lib.hid hs0
      rw [← hs0] at hstl hss ⊢
      rw [hss] at hsn
      clear hse hie hgd hsa hm2 gd hss hs0
      go_wp2_with (first
        | (go_at_call 39; go_must ((with_reducible refine hdo.out.mono ?_); rintro e w10 ⟨rfl, hw⟩; have hw2 := hw.symm; subst hw2)))
      go_loopw [5, 7] (fun nv rv wi => ∃ o : Nat, o ≤ m ∧ rv = .int .i64 (idxP (rowOf ds) (startAt ds j + o) : Nat) ∧ nv = .int .i64 (s0 + (m - o) : Nat) ∧ SeenB w3 B (seenL ds j (o + 1)) wi) (fun nv _ _ => N - (intOf nv).toNat)
      case atStart => exact ⟨m, Nat.le_refl _, by rw [HM.out, HIE.out], by simp, by rw [HM.out]; exact HSE.out⟩
      case round =>
        clear HSE
        obtain ⟨o, ho, rfl, rfl, hsi⟩ := hrel
        have hlt := HLT.out o (by rw [← HM.out]; exact ho)
        have hnot := HNOT.out o (by rw [← HM.out]; exact ho)
        have hset := HSET.out o (by rw [← HM.out]; exact ho)
        have hg := HG.out o (by rw [← HM.out]; exact ho)
        rw [← HN.out] at hlt
        obtain ⟨r, hr⟩ : ∃ r, r = idxP (rowOf ds) (startAt ds j + o) := ⟨_, rfl⟩
        rw [← hr] at hlt hnot hset hg ⊢
        have hcell := hsi.cell hnot
        have hfree := hsi.free r
        have hput := hsi.put r
        rw [hset] at hput
        have HPUT := Lib.hid hput
        have HR := Lib.hid hr
        have hxl := Lib.hid (HXW.out _ hput.2)
        have hrl : r < L.length := by rw [HBL.out]; exact hlt
        have hy1 : decide ((r : Int) < 0) = false := by simp
        have hy2 : decide ((N : Int) ≤ (r : Int)) = false := by simp; omega
        obtain ⟨n, hn⟩ : ∃ n, n = s0 + (m - o) := ⟨_, rfl⟩
        rw [← hn]
        have hnN : n + 1 ≤ N := by omega
        have hwn : IntKind.i64.wrap ((n : Int) + 1) = (n : Int) + 1 := IntWalk.i64_in _ (by omega)
        cases o with
        | zero =>
          rw [dif_neg (by omega)] at hg
          have hsm : symAt L (r : Int) ≤ 0 := by rw [symAt_nat2 hrl, hg]; exact Int.le_refl 0
          have hst := Lib.hid (back_step_no x L (r : Int) _ hxl.out hsm)
          have HNN : Hid (n + 1 = startAt ds (j + 1)) := Lib.hid (by rw [HSS.out, ← HS0.out]; omega)
          clear hsi hnot hset hg hput hr hrl hsm hn hxl
          go_wp2_with (first
            | (go_at_call 56; go_must ((with_reducible refine hst.out.mono ?_); rintro e w10 ⟨rfl, hw⟩; have hw2 := hw.symm; subst hw2)))
          go_roundw
          case rel => exact ⟨j + 1, by omega, by go_num, by rw [← HNN.out]; go_num, by rw [← HNX.out]; exact HPUT.out⟩
          case measure => simp [intOf]; omega
        | succ o =>
          rw [dif_pos (by omega)] at hg
          have hne : L.getD r 0 ≠ 0 := by rw [hg]; omega
          have hst := back_step_yes x L r _ hxl.out hrl hne
          have hstep := HS.out o (by rw [← HM.out]; omega)
          rw [← HR.out] at hstep
          rw [hstep] at hst
          have HSTP := Lib.hid hst
          have HNN : Hid (n + 1 = s0 + (m - o)) := Lib.hid (by omega)
          have hml : N - (n + 1) < N - n := by omega
          clear hsi hnot hset hg hput hr hrl hne hn hxl hst hstep
          go_wp2_with (first
            | (go_at_call 56; go_must ((with_reducible refine HSTP.out.mono ?_); rintro e w10 ⟨rfl, q, rfl⟩)))
          go_roundw
          case rel => exact ⟨o, by omega, rfl, by rw [← HNN.out]; go_num, HPUT.out.drewN q⟩
          case measure => simp [intOf]; omega
    · obtain rfl : j = ds.length := by omega
      have hfin : startAt ds ds.length = N := by
        rw [HN.out]; unfold startAt; rw [List.take_length]
      rw [hfin]
      have HSE := Lib.hid hse.2
      have HBW : Hid (Below w3.heap.size w3 wr) := Lib.hid (by rw [← HBe.out]; exact hse.2)
      have hdd := Lib.hid ((HD.out.below (Nat.le_refl _) HB3.out).below (Nat.le_refl _) HBW.out)
      clear hse hfin hstl
      go_wp2_with (first
        | (go_at_call 39; go_must ((with_reducible refine hdo.out.mono ?_); rintro e w10 ⟨rfl, hw⟩; have hw2 := hw.symm; subst hw2))
        | (go_at_call 28; go_must ((with_reducible refine (HST.out _ wr hdd.out).mono ?_); rintro e w14 ⟨v14, rfl, hs14, hb14⟩; have HS14 := Lib.hid hs14; have HB14 := Lib.hid (HBW.out.trans (hb14.mono HBW.out.size)); clear hs14 hb14))
        | (go_at_call 44; go_must ((with_reducible refine (HLN.out v14 w14 HS14.out).mono ?_); rintro e w10 ⟨rfl, hw⟩; have hw2 := hw.symm; subst hw2; rw [← HN.out]))
        | (go_at_call 32; go_must ((refine (hawk.out _).mono ?_); rintro e w11 ⟨rfl, hb11⟩; have HB11 := Lib.hid (HB14.out.trans (hb11.mono HB14.out.size)); clear hb11)))
      go_ret
      exact ⟨rfl, HB3.out.trans (HB11.out.mono HB3.out.size)⟩

set_option maxRecDepth 100000 in
set_option maxHeartbeats 1000000 in
theorem law12_steps (ds : List (List UInt8)) (v : Value) (w : World) (hd : DocsR w v ds) :
    Calls Try.prog 12 #[v] w fun e w' => e = .returned (.bool true) ∧ Below w.heap.size w w' := by
  cases hf : fewB ds with
  | true => exact law12_steps_main ds v w hd hf
  | false =>
    have hfew := Lib.hid (law_few ds v w hd)
    have hawk := Lib.hid law12_awake
    obtain ⟨A, c, rfl, h1, h2, -⟩ := hd.form
    rw [hf] at hfew
    clear hd hf
    go_enter Try.func12, Try.ntmps12
    go_wp2_with (first
      | (go_at_call 20; go_must ((refine hfew.out.mono ?_); rintro e w1 ⟨rfl, rfl⟩))
      | (go_at_call 32; go_must ((refine (hawk.out _).mono ?_); rintro e w2 ⟨rfl, hb2⟩; have HB2 := Lib.hid hb2; clear hb2)))
    go_ret
    exact ⟨rfl, HB2.out⟩
end Go.Proofs.Ytinlmodkdjpocaa
