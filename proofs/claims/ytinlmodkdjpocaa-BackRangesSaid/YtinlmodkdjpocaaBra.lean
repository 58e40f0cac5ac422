/- law 12: BackRanges. -/
import Derived.Test.YtinlmodkdjpocaaRgf
set_option linter.unusedVariables false
namespace Go.Proofs.Ytinlmodkdjpocaa
open Go.RowKit Go.Shelf

theorem count_none {L : List Nat} {p : List UInt8} (h : (rangeL L (upS' p)).1 = (rangeL L (upS' p)).2) : countL L p = 0 := by
  unfold countL
  split
  · rfl
  · omega

set_option maxRecDepth 100000 in
set_option maxHeartbeats 4000000 in
theorem law12_ranges_main (ds : List (List UInt8)) (v : Value) (p : List UInt8) (pv : Value) (w : World) (hd : DocsR w v ds) (hp : SlR byV w pv p) (hf : fewB ds = true) (hp1 : p.length ≤ 200) :
    Calls Try.prog 11 #[v, pv] w fun e w' => e = .returned (.bool true) ∧ Below w.heap.size w w' := by
  have hfew := Lib.hid (law_few ds v w hd)
  rw [hf] at hfew
  have hawk := Lib.hid law12_awake
  obtain ⟨A, c, rfl, h1, h2, -⟩ := hd.form
  obtain ⟨Ap, cp, rfl, h3, h4, -⟩ := hp.form
  have hok := few_ok hf
  obtain ⟨hf1, hf2, hf3, hf4, -⟩ := few_facts hf
  have hm := Lib.hid (law_made ds _ w hd hok)
  have HP := Lib.hid hp
  have HD := Lib.hid hd
  have hcn : countL (bwtOf (rowOf ds)) p = (hits p ds).length := countL_bwt ds p
  have hbl : (bwtOf (rowOf ds)).length = (rowOf ds).length := bwtOf_length (rowOk_rowOf ds)
  have hb0 : (bwtOf (rowOf ds)).count 0 = ds.length := count_zero_bwt ds
  have hnone := @count_none (bwtOf (rowOf ds)) p
  have hle := rangeL_le (bwtOf (rowOf ds)) (upS' p)
  have hrr := fun hs dv rv W (a : SlR strV W dv ds) (b : HitsR W rv hs) (c : IsRows ds hs) => ref_range ds hs dv rv p W a b c (by omega) (by omega)
  have hbw := fun dv W (a : SlR strV W dv ds) => ref_bwt ds dv W a (by omega)
  obtain ⟨L, hL⟩ : ∃ L, L = bwtOf (rowOf ds) := ⟨_, rfl⟩
  rw [← hL] at hm hcn hbl hb0 hnone hle hrr hbw
  obtain ⟨rg, hrg⟩ : ∃ rg, rg = rangeL L (upS' p) := ⟨_, rfl⟩
  rw [← hrg] at hnone hle hrr
  obtain ⟨ra, rb⟩ := rg
  simp only [] at hnone hle hrr
  have HRG := Lib.hid hrg
  have HRR := Lib.hid hrr
  have HBW := Lib.hid hbw
  obtain ⟨NH, hNHe⟩ : ∃ NH, NH = (hits p ds).length := ⟨_, rfl⟩
  rw [← hNHe] at hcn
  have HNH := Lib.hid hNHe
  have HCN := Lib.hid hcn
  obtain ⟨pl, hpll⟩ : ∃ pl, pl = p.length := ⟨_, rfl⟩
  rw [← hpll] at hp1 h3 HP ⊢
  have HPL := Lib.hid hpll
  obtain ⟨NL, hNL⟩ : ∃ NL, NL = (rowOf ds).length := ⟨_, rfl⟩
  rw [← hNL] at hbl hf4
  rw [hbl] at hle
  have HNL := Lib.hid hNL
  have HBL := Lib.hid hbl
  have HB0 := Lib.hid hb0
  have HF := Lib.hid (fun dv W (a : SlR strV W dv ds) => ref_find ds dv p W a (by rw [← hNL]; omega) (by rw [← hpll]; omega))
  have HST := Lib.hid (fun dv W (a : DocsR W dv ds) => ref_strings ds dv W a (by omega))
  have HLN := Lib.hid (fun dv W (a : SlR strV W dv ds) => ref_len ds dv W a (by rw [← hNL]; omega))
  have HRO := Lib.hid (fun dv W (a : SlR strV W dv ds) => ref_rows ds dv W a (by rw [← hNL]; omega))
  have hNH0 : ra = rb → NH = 0 := fun h => by rw [← hcn]; exact hnone h
  clear hd hp hf hok hL hNHe hpll hf2 hrg hrr hbw hcn hbl hb0 hNL hnone
  have hz1 : decide ((200 : Int) < (pl : Int)) = false := by simp; omega
  go_enter Try.func11, Try.ntmps11
  go_wp2_with (first
    | (go_at_call 20; go_must ((refine hfew.out.mono ?_); rintro e w1 ⟨rfl, rfl⟩))
    | (go_at_call 33; go_must ((refine hm.out.mono ?_); rintro e w3 ⟨x, rfl, hx0, hx, hb3⟩; have HX := Lib.hid (fun W (hW : Below w3.heap.size w3 W) => hx.later hW); have HP3 := Lib.hid (HP.out.later hb3); have HD3 := Lib.hid (HD.out.below (Nat.le_refl _) hb3); have HB3 := Lib.hid hb3; clear hx0 hx hb3))
    | (go_at_call 28; go_must ((with_reducible refine (HST.out _ w3 HD3.out).mono ?_); rintro e w4 ⟨v4, rfl, hs4, hb4⟩; have HS4 := Lib.hid hs4; have HB4 := Lib.hid hb4; clear hs4 hb4))
    | (go_at_call 38; go_must ((with_reducible refine (back_len x L w4 (HX.out _ HB4.out)).mono ?_); rintro e w10 ⟨rfl, hw⟩; have hw2 := hw.symm; subst hw2; rw [HBL.out]))
    | (go_at_call 44; go_must ((with_reducible refine (HLN.out v4 w4 HS4.out).mono ?_); rintro e w10 ⟨rfl, hw⟩; have hw2 := hw.symm; subst hw2; rw [← HNL.out]))
    | (go_at_call 39; go_must ((with_reducible refine (back_docsN x L w4 (HX.out _ HB4.out)).mono ?_); rintro e w10 ⟨rfl, hw⟩; have hw2 := hw.symm; subst hw2; rw [HB0.out]))
    | (go_at_call 37; go_must ((with_reducible refine (back_range x L (.slice Ap pl cp) p w4 (HX.out _ HB4.out) (HP3.out.later HB4.out) (by rw [← HPL.out]; omega)).mono ?_); rintro e w5 ⟨rfl, hb5⟩; rw [← HRG.out]; simp only []; have HB5 := Lib.hid hb5; clear hb5)))
  have HB5' := Lib.hid (HB4.out.trans (HB5.out.mono HB4.out.size))
  have HS5 := Lib.hid (HS4.out.later HB5.out)
  have HP5 := Lib.hid (HP3.out.later HB5'.out)
  clear HB5 HS4 HP3 HD3
  go_cut [9, 10] (fun t9 t10 wc => t9 = .int .i64 (ra : Nat) ∧ t10 = .int .i64 (rb : Nat) ∧ Below w5.heap.size w5 wc)
  case first =>
    have hcv0 := conv_back w5.drew _ _ (HP5.out.later (below_drewN (Below.refl _ _) 1))
    go_region_law (first
      | (go_simp; go_at_call 55; (with_reducible refine (HRO.out v4 w5.drew (HS5.out.later (below_drewN (Below.refl _ _) 1))).mono ?_); rintro e w7 ⟨v7, hs7, rfl, hh7, hr7, hb7⟩; have HH7 := Lib.hid hh7; have HR7 := Lib.hid hr7; have HB7 := Lib.hid (below_undrew hb7); have hcv7 := conv_back w7 _ _ (HP5.out.later HB7.out); clear hh7 hr7 hb7 hcv0)
      | (go_simp; go_at_call 54; (with_reducible refine (HRR.out hs7 v4 v7 w7 (HS5.out.later HB7.out) HH7.out HR7.out).mono ?_); rintro e w8 ⟨rfl, q8, rfl⟩))
    all_goals
      go_wp2_with fail
      go_meet
      exact ⟨rfl, rfl, below_drewN HB7.out _⟩
  case rest =>
    obtain ⟨rfl, rfl, hbc⟩ := hcut
    have HBC := Lib.hid (HB5'.out.trans (hbc.mono HB5'.out.size))
    have HSC := Lib.hid (HS5.out.later hbc)
    have HPC := Lib.hid (HP5.out.later hbc)
    have hcv := conv_back wc _ _ HPC.out
    clear hbc HS5 HP5 HB5'
    have hp3 : ((ra : Int) == (ra : Int)) = true := by simp
    by_cases hc : 0 < pl ∧ ra = rb
    · obtain ⟨hc1, rfl⟩ := hc
      have hN0 : NH = 0 := hNH0 rfl
      subst hN0
      have hz2 : decide ((0 : Int) < (pl : Int)) = true := by simp; omega
      have hz3 : decide ((ra : Int) ≤ (NL : Int)) = true := by simp; omega
      have hz4 : decide ((0 : Int) ≤ (ra : Int)) = true := by simp
      go_wp2_with (first
        | (go_at_call 27; go_must ((with_reducible refine (HF.out v4 wc HSC.out).mono ?_); rintro e w9 ⟨v9, rfl, hh9, hb9⟩; obtain ⟨A9, c9, rfl, _, _, _⟩ := hh9; rw [← HNH.out]; have HB9 := Lib.hid (HBC.out.trans (hb9.mono HBC.out.size)); have HS9 := Lib.hid (HSC.out.later hb9); have HP9 := Lib.hid (HPC.out.later hb9); clear hb9))
        | (go_at_call 38; go_must ((with_reducible refine (back_len x L w9 (HX.out _ HB9.out)).mono ?_); rintro e w10 ⟨rfl, hw⟩; have hw2 := hw.symm; subst hw2; rw [HBL.out]))
        | (go_at_call 34; go_must ((with_reducible refine (back_count x L (.slice Ap pl cp) p w9 (HX.out _ HB9.out) HP9.out (by rw [← HPL.out]; omega)).mono ?_); rintro e w10 ⟨rfl, hb10⟩; rw [HCN.out]; have HB10 := Lib.hid (HB9.out.trans (hb10.mono HB9.out.size)); have HS10 := Lib.hid (HS9.out.later hb10); clear hb10))
        | (go_at_call 32; go_must ((refine (hawk.out _).mono ?_); rintro e w11 ⟨rfl, hb11⟩; have HB11 := Lib.hid (HB10.out.trans (hb11.mono HB10.out.size)); clear hb11)))
      go_ret
      exact ⟨rfl, HB3.out.trans (HB11.out.mono HB3.out.size)⟩
    · have hz2 : (decide ((0 : Int) < (pl : Int)) && ((ra : Int) == (rb : Int))) = false := by
        rw [Bool.and_eq_false_iff]
        by_cases h : 0 < pl
        · right; simp; intro e; exact hc ⟨h, by omega⟩
        · left; simp; omega
      by_cases hpz : pl = 0
      · subst hpz
        go_wp2_with (first
          | (go_at_call 27; go_must ((with_reducible refine (HF.out v4 wc HSC.out).mono ?_); rintro e w9 ⟨v9, rfl, hh9, hb9⟩; obtain ⟨A9, c9, rfl, _, _, _⟩ := hh9; rw [← HNH.out]; have HB9 := Lib.hid (HBC.out.trans (hb9.mono HBC.out.size)); have HS9 := Lib.hid (HSC.out.later hb9); have HP9 := Lib.hid (HPC.out.later hb9); clear hb9))
          | (go_at_call 38; go_must ((with_reducible refine (back_len x L w9 (HX.out _ HB9.out)).mono ?_); rintro e w10 ⟨rfl, hw⟩; have hw2 := hw.symm; subst hw2; rw [HBL.out]))
          | (go_at_call 34; go_must ((with_reducible refine (back_count x L _ p w9 (HX.out _ HB9.out) HP9.out (by rw [← HPL.out]; omega)).mono ?_); rintro e w10 ⟨rfl, hb10⟩; rw [HCN.out]; have HB10 := Lib.hid (HB9.out.trans (hb10.mono HB9.out.size)); have HS10 := Lib.hid (HS9.out.later hb10); clear hb10))
          | (go_at_call 36; go_must ((with_reducible refine (back_syms x L w10 (HX.out _ HB10.out)).mono ?_); rintro e w12 ⟨v12, rfl, hs12, hb12⟩; have HY12 := Lib.hid hs12; have HB12 := Lib.hid (HB10.out.trans (hb12.mono HB10.out.size)); have HS12 := Lib.hid (HS10.out.later hb12); clear hs12 hb12))
          | (go_at_call 53; go_must ((with_reducible refine (HBW.out v4 w12 HS12.out).mono ?_); rintro e w13 ⟨v13, rfl, hs13, hb13⟩; have HY13 := Lib.hid hs13; have HZ13 := Lib.hid (HY12.out.later hb13); have HB13 := Lib.hid (HB12.out.trans (hb13.mono HB12.out.size)); clear hs13 hb13))
          | (go_at_call 51; go_must ((with_reducible refine (same_syms v12 v13 L w13 HZ13.out HY13.out).mono ?_); rintro e w14 ⟨rfl, q14, rfl⟩; have HB14 := Lib.hid (below_drewN HB13.out q14)))
          | (go_at_call 32; go_must ((refine (hawk.out _).mono ?_); rintro e w11 ⟨rfl, hb11⟩; have HB11 := Lib.hid (HB14.out.trans (hb11.mono HB14.out.size)); clear hb11)))
        go_ret
        exact ⟨rfl, HB3.out.trans (HB11.out.mono HB3.out.size)⟩
      · have hz5 : decide ((0 : Int) < (pl : Int)) = true := by simp; omega
        have hz6 : ((ra : Int) == (rb : Int)) = false := by simp; intro e; exact hc ⟨by omega, by omega⟩
        go_wp2_with (first
          | (go_at_call 27; go_must ((with_reducible refine (HF.out v4 wc HSC.out).mono ?_); rintro e w9 ⟨v9, rfl, hh9, hb9⟩; obtain ⟨A9, c9, rfl, _, _, _⟩ := hh9; rw [← HNH.out]; have HB9 := Lib.hid (HBC.out.trans (hb9.mono HBC.out.size)); have HS9 := Lib.hid (HSC.out.later hb9); have HP9 := Lib.hid (HPC.out.later hb9); clear hb9))
          | (go_at_call 38; go_must ((with_reducible refine (back_len x L w9 (HX.out _ HB9.out)).mono ?_); rintro e w10 ⟨rfl, hw⟩; have hw2 := hw.symm; subst hw2; rw [HBL.out]))
          | (go_at_call 34; go_must ((with_reducible refine (back_count x L (.slice Ap pl cp) p w9 (HX.out _ HB9.out) HP9.out (by rw [← HPL.out]; omega)).mono ?_); rintro e w10 ⟨rfl, hb10⟩; rw [HCN.out]; have HB10 := Lib.hid (HB9.out.trans (hb10.mono HB9.out.size)); have HS10 := Lib.hid (HS9.out.later hb10); clear hb10))
          | (go_at_call 36; go_must ((with_reducible refine (back_syms x L w10 (HX.out _ HB10.out)).mono ?_); rintro e w12 ⟨v12, rfl, hs12, hb12⟩; have HY12 := Lib.hid hs12; have HB12 := Lib.hid (HB10.out.trans (hb12.mono HB10.out.size)); have HS12 := Lib.hid (HS10.out.later hb12); clear hs12 hb12))
          | (go_at_call 53; go_must ((with_reducible refine (HBW.out v4 w12 HS12.out).mono ?_); rintro e w13 ⟨v13, rfl, hs13, hb13⟩; have HY13 := Lib.hid hs13; have HZ13 := Lib.hid (HY12.out.later hb13); have HB13 := Lib.hid (HB12.out.trans (hb13.mono HB12.out.size)); clear hs13 hb13))
          | (go_at_call 51; go_must ((with_reducible refine (same_syms v12 v13 L w13 HZ13.out HY13.out).mono ?_); rintro e w14 ⟨rfl, q14, rfl⟩; have HB14 := Lib.hid (below_drewN HB13.out q14)))
          | (go_at_call 32; go_must ((refine (hawk.out _).mono ?_); rintro e w11 ⟨rfl, hb11⟩; have HB11 := Lib.hid (HB14.out.trans (hb11.mono HB14.out.size)); clear hb11)))
        go_ret
        exact ⟨rfl, HB3.out.trans (HB11.out.mono HB3.out.size)⟩

set_option maxRecDepth 100000 in
set_option maxHeartbeats 1000000 in
theorem law12_ranges (ds : List (List UInt8)) (v : Value) (p : List UInt8) (pv : Value) (w : World) (hd : DocsR w v ds) (hp : SlR byV w pv p) :
    Calls Try.prog 11 #[v, pv] w fun e w' => e = .returned (.bool true) ∧ Below w.heap.size w w' := by
  by_cases hmain : fewB ds = true ∧ p.length ≤ 200
  · exact law12_ranges_main ds v p pv w hd hp hmain.1 hmain.2
  have hfew := Lib.hid (law_few ds v w hd)
  have hawk := Lib.hid law12_awake
  obtain ⟨A, c, rfl, h1, h2, -⟩ := hd.form
  obtain ⟨Ap, cp, rfl, h3, h4, -⟩ := hp.form
  obtain ⟨pl, hpll⟩ : ∃ pl, pl = p.length := ⟨_, rfl⟩
  rw [← hpll] at hmain h3 ⊢
  cases hf : fewB ds with
  | false =>
    rw [hf] at hfew
    clear hd hp hf hmain hpll
    go_enter Try.func11, Try.ntmps11
    go_wp2_with (first
      | (go_at_call 20; go_must ((refine hfew.out.mono ?_); rintro e w1 ⟨rfl, rfl⟩))
      | (go_at_call 32; go_must ((refine (hawk.out _).mono ?_); rintro e w2 ⟨rfl, hb2⟩; have HB2 := Lib.hid hb2; clear hb2)))
    go_ret
    exact ⟨rfl, HB2.out⟩
  | true =>
    rw [hf] at hfew hmain
    have hbig : 200 < pl := by
      rcases Nat.lt_or_ge 200 pl with h | h
      · exact h
      · exact absurd ⟨rfl, h⟩ hmain
    have hz1 : decide ((200 : Int) < (pl : Int)) = true := by simp; omega
    clear hd hp hf hmain hpll
    go_enter Try.func11, Try.ntmps11
    go_wp2_with (first
      | (go_at_call 20; go_must ((refine hfew.out.mono ?_); rintro e w1 ⟨rfl, rfl⟩))
      | (go_at_call 32; go_must ((refine (hawk.out _).mono ?_); rintro e w2 ⟨rfl, hb2⟩; have HB2 := Lib.hid hb2; clear hb2)))
    go_ret
    exact ⟨rfl, HB2.out⟩
end Go.Proofs.Ytinlmodkdjpocaa
