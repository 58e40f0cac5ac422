/- law 13: WalkPlaces. -/
import Derived.Test.YtinlmodkdjpocaaWrw
set_option linter.unusedVariables false
namespace Go.Proofs.Ytinlmodkdjpocaa
open Go.RowKit Go.Shelf

set_option maxRecDepth 100000 in
set_option maxHeartbeats 8000000 in
theorem law13_places_main (ds : List (List UInt8)) (v : Value) (row doc off : Int) (w : World) (hd : DocsR w v ds) (hf : fewB ds = true) :
    Calls Try.prog 15 #[v, .int .i64 row, .int .i64 doc, .int .i64 off] w fun e w' => e = .returned (.bool true) ∧ Below w.heap.size w w' := by
  have hfew := Lib.hid (law_few ds v w hd)
  rw [hf] at hfew
  have hawk := Lib.hid law13_awake
  obtain ⟨A, c, rfl, h1, h2, -⟩ := hd.form
  have hok := few_ok hf
  obtain ⟨hf1, hf2, hf3, hf4, -⟩ := few_facts hf
  have hst := Lib.hid (ref_strings ds _ w hd (by omega))
  have hm := Lib.hid (fun W (hW : Below w.heap.size w W) => law_made ds _ W (hd.below (Nat.le_refl _) hW) hok)
  have HOK := Lib.hid hok
  have HF2 := Lib.hid hf2
  obtain ⟨NL, hNL⟩ : ∃ NL, NL = (rowOf ds).length := ⟨_, rfl⟩
  rw [← hNL] at hf4
  have HNL := Lib.hid hNL
  have HRO := Lib.hid (fun dv W (a : SlR strV W dv ds) => ref_rows ds dv W a (by rw [← hNL]; omega))
  have HRS := Lib.hid (fun dv W (a : SlR strV W dv ds) => ref_samples ds dv W a (by rw [← hNL]; omega))
  have hsml : (smL ds).length ≤ 1000000 := by
    rw [smL_length]
    have := cntB_le ds ds.length (Nat.le_refl _)
    have := startAt_le ds ds.length (Nat.le_refl _)
    omega
  have hszl : (szL ds).length ≤ 1000000 := by rw [szL_length]; omega
  have hszb : ∀ z ∈ szL ds, z ≤ 1000000 := by
    intro z hz
    unfold szL at hz
    obtain ⟨d, hd, rfl⟩ := List.mem_map.1 hz
    have := hok.2.1 d hd
    omega
  have HSML := Lib.hid hsml
  have HSZL := Lib.hid hszl
  have HSZB := Lib.hid hszb
  clear hd hf hok hf2 hNL hsml hszl hszb
  go_enter Try.func15, Try.ntmps15
  go_wp2_with (first
    | (go_at_call 20; go_must ((refine hfew.out.mono ?_); rintro e w1 ⟨rfl, hw1⟩; have hw2 := hw1.symm; subst hw2))
    | (go_at_call 28; go_must ((refine hst.out.mono ?_); rintro e w2 ⟨v2, rfl, hs2, hb2⟩; have HS2 := Lib.hid (fun W (hW : Below w2.heap.size w2 W) => hs2.later hW); have HB2 := Lib.hid hb2; have hmm := Lib.hid (hm.out w2 hb2); clear hs2 hb2))
    | (go_at_call 33; go_must ((refine hmm.out.mono ?_); rintro e w3 ⟨x, rfl, -, hx, hb3⟩; have HX := Lib.hid (fun W (hW : Below w3.heap.size w3 W) => hx.later hW); have HB3 := Lib.hid hb3; have hnw := Lib.hid (walk_new x ds w3 hx HOK.out); clear hx hb3 hmm))
    | (go_at_call 59; go_must ((refine hnw.out.mono ?_); rintro e w4 ⟨b, rfl, -, hp, hb4⟩; have HP := Lib.hid (fun W (hW : Below w4.heap.size w4 W) => hp.later hW); have HB4 := Lib.hid hb4; have hsm := Lib.hid (plc_samples b _ _ _ w4 hp HSML.out); clear hp hb4 hnw))
    | (go_at_call 60; go_must ((refine hsm.out.mono ?_); rintro e w5 ⟨v5, rfl, hs5, hb5⟩; have HS5 := Lib.hid hs5; have HB5 := Lib.hid hb5; have hrs := Lib.hid (HRS.out v2 w5 (HS2.out w5 (HB3.out.trans ((HB4.out.trans (hb5.mono HB4.out.size)).mono HB3.out.size)))); clear hs5 hb5 hsm))
    | (go_at_call 64; go_must ((refine hrs.out.mono ?_); rintro e w6 ⟨v6, rfl, hs6, hb6⟩; have HS6 := Lib.hid hs6; have HB6 := Lib.hid (HB5.out.trans (hb6.mono HB5.out.size)); have hsi := Lib.hid (same_ints v5 v6 _ w6 (HS5.out.later hb6).ints hs6.ints); clear hs6 hb6 hrs))
    | (go_at_call 58; go_must ((refine hsi.out.mono ?_); rintro e w7 ⟨rfl, q7, rfl⟩; have HB7 := Lib.hid (below_drewN HB6.out q7); have hb27 := HB3.out.trans ((HB4.out.trans (HB7.out.mono HB4.out.size)).mono HB3.out.size); have HS7 := Lib.hid (HS2.out _ hb27); have hro := Lib.hid (HRO.out v2 _ HS7.out); clear hsi hb27))
    | (go_at_call 55; go_must ((refine hro.out.mono ?_); rintro e w8 ⟨v8, hs, rfl, hh, hr, hb8⟩; have HH := Lib.hid hh; have HR := Lib.hid hr; have HB8 := Lib.hid (HB7.out.trans (hb8.mono HB7.out.size)); have HS8 := Lib.hid (HS7.out.later hb8); clear hh hr hb8 hro)))
  obtain ⟨A8, c8, rfl, k81, k82, -⟩ := id HH.out
  have hsl : hs.length = NL := by rw [HR.out.length, HNL.out]
  rw [hsl] at k81
  rw [hsl]
  have HSL := Lib.hid hsl
  clear hsl
  go_wp2_with fail
  go_loopw [14] (fun iv wr => ∃ i : Nat, i ≤ NL ∧ iv = .int .i64 i ∧ Below w8.heap.size w8 wr) (fun iv _ => NL - (intOf iv).toNat)
  case atStart => exact ⟨0, Nat.zero_le _, rfl, Below.refl _ _⟩
  case round =>
    obtain ⟨i, hi, rfl, hbr⟩ := hrel
    have hb4r := HB8.out.trans (hbr.mono HB8.out.size)
    have hb3r := HB4.out.trans (hb4r.mono HB4.out.size)
    by_cases hlt : i < NL
    · obtain ⟨d, hdl, o, ho, hio⟩ := row_ex ds i (by rw [← HNL.out]; exact hlt)
      have hat := walk_at_docs b x ds d hdl o ho wr (HX.out wr hb3r) (HP.out wr hb4r) HOK.out
      have hrow := HR.out.at_row d hdl o ho
      rw [← hio] at hat hrow
      obtain ⟨ad, ead, c1, c2⟩ := (HH.out.later hbr).at_ i (by rw [HSL.out]; exact hlt)
      cases ead
      obtain ⟨_, hget⟩ := List.getElem?_eq_some_iff.1 hrow
      rw [hget] at c1 c2
      simp only [natV] at c1 c2
      have c2' := hit_second c2
      have HAT := Lib.hid hat
      have HBR := Lib.hid hbr
      clear hat hbr hb4r hb3r hrow hget c2 hio
      go_wp2_with (first
        | (go_at_call 61; go_must ((refine HAT.out.mono ?_); rintro e w9 ⟨rfl, hb9⟩; have d1 := (hb9.cell (World.block_lt_of_cell? wr _ c1)).trans c1; have d2 := (hb9.cell (World.block_lt_of_cell? wr _ c2')).trans c2'; have HB9 := Lib.hid hb9; clear hb9 c1 c2')))
      go_roundw
      case rel => exact ⟨i + 1, by omega, by go_num, HBR.out.trans (HB9.out.mono HBR.out.size)⟩
      case measure => simp [intOf]; omega
    · obtain rfl : NL = i := by omega
      have hsz := Lib.hid (plc_sizes b _ _ _ wr (HP.out wr hb4r) HSZL.out)
      have HB4R := Lib.hid hb4r
      have HB3R := Lib.hid hb3r
      have HSR := Lib.hid (HS8.out.later hbr)
      have HHR := Lib.hid (HH.out.later hbr)
      obtain ⟨A2, c2, rfl, k21, k22, -⟩ := HS8.out.form
      clear hb4r hb3r hbr hlt hi HH HS8 HS7
      go_wp2_with (first
        | (go_at_call 65; go_must ((refine hsz.out.mono ?_); rintro e w10 ⟨v10, rfl, hs10, hb10⟩; obtain ⟨A10, c10, hv10, k101, k102, -⟩ := hs10.form; rw [szL_length] at hv10 k101; subst hv10; have HS10 := Lib.hid hs10; have HB10 := Lib.hid hb10; clear hs10 hb10)))
      have HSR10 := Lib.hid (HSR.out.later HB10.out)
      go_loopw [19] (fun jv wr => ∃ j : Nat, j ≤ ds.length ∧ jv = .int .i64 j ∧ ∃ q, wr = w10.drewN q) (fun jv _ => ds.length - (intOf jv).toNat)
      case atStart => exact ⟨0, Nat.zero_le _, rfl, 0, rfl⟩
      case round =>
        obtain ⟨j, hj, rfl, q, rfl⟩ := hrel
        by_cases hjl : j < ds.length
        · obtain ⟨ad, ead, ca⟩ := HS10.out.at_ j (by rw [szL_length]; exact hjl)
          cases ead
          obtain ⟨ad2, ead2, cb⟩ := HSR10.out.at_ j hjl
          cases ead2
          have ca' : w10.cell? (ad.add j) = some (.int .i64 (ds[j].length : Nat)) := by
            rw [ca]; simp [natV, szL]
          simp only [strV] at cb
          obtain ⟨m, hm⟩ : ∃ m, m = ds[j].length := ⟨_, rfl⟩
          have hz : (⟨ds[j].toArray⟩ : ByteArray).size = m := by rw [hm]; simp [ByteArray.size]
          obtain ⟨S, hS⟩ : ∃ S, S = (⟨ds[j].toArray⟩ : ByteArray) := ⟨_, rfl⟩
          rw [← hS] at cb hz
          rw [← hm] at ca'
          clear ca hS hm
          go_wp2_with fail
          go_quiet (fail)
          go_wp2_with fail
          go_roundw
          case rel => exact ⟨j + 1, by omega, by go_num, _, rfl⟩
          case measure => simp [intOf]; omega
        · obtain rfl : j = ds.length := by omega
          have hlenS : (szL ds).length = ds.length := szL_length ds
          obtain ⟨wq, hwq⟩ : ∃ wq, wq = w10.drewN q := ⟨_, rfl⟩
          have hbq : Below wr.heap.size wr wq := by rw [hwq]; exact below_drewN HB10.out q
          rw [← hwq]
          have hb4q := HB4R.out.trans (hbq.mono HB4R.out.size)
          have hb3q := HB3R.out.trans (hbq.mono HB3R.out.size)
          have HSQ := Lib.hid (HSR.out.later hbq)
          have HHQ := Lib.hid (HHR.out.later hbq)
          have hout := Lib.hid (fun h => walk_at_out b x (bwtOf (rowOf ds)) row wq (HX.out wq hb3q) (by rw [bwtOf_length (rowOk_rowOf ds), ← HNL.out]; exact h))
          have hprow := Lib.hid (fun W (hW : Below wq.heap.size wq W) => plc_row b _ _ _ W doc off (HP.out W (hb4q.trans (hW.mono hb4q.size))) (by rw [smL_length, szL_length]) HSZB.out HSML.out HSZL.out)
          have HB3Q := Lib.hid hb3q
          clear hwq hbq hb4q hb3q
          obtain ⟨G, hG⟩ : ∃ G, G = rowG (szL ds) doc off := ⟨_, rfl⟩
          obtain ⟨RV, hRV⟩ : ∃ RV, RV = rowV (smL ds) (szL ds) doc off := ⟨_, rfl⟩
          rw [← hG, ← hRV] at hprow
          have HG := Lib.hid hG
          have HRV := Lib.hid hRV
          have HSZE := Lib.hid (szL_get ds)
          have HSLl := Lib.hid (szL_length ds)
          have HRVY : Hid (G = true → RV < NL ∧ hs[RV]? = some (doc.toNat, off.toNat) ∧ 0 ≤ doc ∧ 0 ≤ off) := Lib.hid (by
            intro hg
            rw [hG] at hg
            rw [hRV]
            unfold rowV
            rw [if_pos hg]
            unfold rowG at hg
            rw [decide_eq_true_iff] at hg
            obtain ⟨g1, g2, g3, g4, g5⟩ := hg
            have hdl : doc.toNat < ds.length := by rw [szL_length] at g2; omega
            rw [szL_get ds _ hdl] at g4
            have hs1 := smL_get ds doc.toNat (off.toNat / 32) hdl (by omega)
            have e1 : 32 * (off.toNat / 32) = off.toNat := by omega
            rw [e1] at hs1
            have e2 : (smL ds).getD (cntB (szL ds) doc.toNat + off.toNat / 32) 0 = rwP ds doc.toNat off.toNat := by
              rw [List.getD_eq_getElem?_getD, hs1]; rfl
            rw [e2]
            exact ⟨by rw [HNL.out]; exact rwP_lt ds _ hdl _ (by omega), HR.out.at_row _ hdl _ (by omega), g1, g3⟩)
          have HRVN : Hid (G = false → RV = 0) := Lib.hid (by
            intro hg
            rw [hG] at hg
            rw [hRV]
            unfold rowV
            rw [hg]
            rfl)
          have HWQ : Hid (Below wq.heap.size wq wq) := Lib.hid (Below.refl _ _)
          clear hG hRV
          have hcs : (row < 0) ∨ (0 ≤ row ∧ (NL : Int) ≤ row) ∨ (0 ≤ row ∧ row < (NL : Int)) := by omega
          have HGN : Hid (¬ (0 ≤ doc ∧ doc < ds.length ∧ 0 ≤ off ∧ off ≤ ((szL ds).getD doc.toNat 0 : Nat) ∧ off % 32 = 0) → G = false) := Lib.hid (by
            intro h
            rw [HG.out]
            unfold rowG
            rw [szL_length]
            exact decide_eq_false h)
          have HGY : Hid ((0 ≤ doc ∧ doc < ds.length ∧ 0 ≤ off ∧ off ≤ ((szL ds).getD doc.toNat 0 : Nat) ∧ off % 32 = 0) → G = true) := Lib.hid (by
            intro h
            rw [HG.out]
            unfold rowG
            rw [szL_length]
            exact decide_eq_true h)
          by_cases g1 : doc < 0
          · have hd1 : decide (0 ≤ doc) = false := by simp; omega
            obtain rfl : G = false := HGN.out (by omega)
            obtain rfl : RV = 0 := HRVN.out rfl
            clear g1
            rcases hcs with hc | ⟨hc0, hc⟩ | ⟨hc0, hc⟩
            · have hq1 : decide (row < 0) = true := by simp; omega
              have HROWC := Lib.hid (show row < 0 ∨ (NL : Int) ≤ row from .inl hc)
              clear hc
              go_wp2_with (first
                | (go_at_call 61; go_must ((refine (hout.out HROWC.out).mono ?_); rintro e w12 ⟨rfl, hb12⟩; have HB12 := Lib.hid hb12; clear hb12))
                | (go_at_call 66; go_must ((refine (hprow.out _ HB12.out).mono ?_); rintro e w13 ⟨rfl, hw13⟩; have hw14 := hw13.symm; subst hw14))
                | (go_at_call 63; go_must ((refine (hawk.out _).mono ?_); rintro e w15 ⟨rfl, hb15⟩; have HB15 := Lib.hid hb15; clear hb15)))
              go_ret
              have hq := HB12.out.trans (HB15.out.mono HB12.out.size)
              exact ⟨rfl, HB2.out.trans ((HB3.out.trans ((HB3Q.out.trans (hq.mono HB3Q.out.size)).mono HB3.out.size)).mono HB2.out.size)⟩
            · have hq1 : decide (row < 0) = false := by simp; omega
              have hq2 : decide ((NL : Int) ≤ row) = true := by simp; omega
              have HROWC := Lib.hid (show row < 0 ∨ (NL : Int) ≤ row from .inr hc)
              clear hc hc0
              go_wp2_with (first
                | (go_at_call 61; go_must ((refine (hout.out HROWC.out).mono ?_); rintro e w12 ⟨rfl, hb12⟩; have HB12 := Lib.hid hb12; clear hb12))
                | (go_at_call 66; go_must ((refine (hprow.out _ HB12.out).mono ?_); rintro e w13 ⟨rfl, hw13⟩; have hw14 := hw13.symm; subst hw14))
                | (go_at_call 63; go_must ((refine (hawk.out _).mono ?_); rintro e w15 ⟨rfl, hb15⟩; have HB15 := Lib.hid hb15; clear hb15)))
              go_ret
              have hq := HB12.out.trans (HB15.out.mono HB12.out.size)
              exact ⟨rfl, HB2.out.trans ((HB3.out.trans ((HB3Q.out.trans (hq.mono HB3Q.out.size)).mono HB3.out.size)).mono HB2.out.size)⟩
            · have hq1 : decide (row < 0) = false := by simp; omega
              have hq2 : decide ((NL : Int) ≤ row) = false := by simp; omega
              have HB12 := HWQ
              clear hc hc0
              go_wp2_with (first
                | (go_at_call 66; go_must ((refine (hprow.out _ HB12.out).mono ?_); rintro e w13 ⟨rfl, hw13⟩; have hw14 := hw13.symm; subst hw14))
                | (go_at_call 63; go_must ((refine (hawk.out _).mono ?_); rintro e w15 ⟨rfl, hb15⟩; have HB15 := Lib.hid hb15; clear hb15)))
              go_ret
              have hq := HB12.out.trans (HB15.out.mono HB12.out.size)
              exact ⟨rfl, HB2.out.trans ((HB3.out.trans ((HB3Q.out.trans (hq.mono HB3Q.out.size)).mono HB3.out.size)).mono HB2.out.size)⟩
          · obtain ⟨d, rfl⟩ : ∃ d : Nat, doc = (d : Nat) := ⟨doc.toNat, by omega⟩
            rw [Int.toNat_natCast] at HGN HGY HRVY
            have hd1 : decide ((0 : Int) ≤ (d : Int)) = true := by simp
            by_cases g2 : ds.length ≤ d
            · have hd2 : decide (d < ds.length) = false := by simp; omega
              obtain rfl : G = false := HGN.out (by omega)
              obtain rfl : RV = 0 := HRVN.out rfl
              clear g1 g2
              rcases hcs with hc | ⟨hc0, hc⟩ | ⟨hc0, hc⟩
              · have hq1 : decide (row < 0) = true := by simp; omega
                have HROWC := Lib.hid (show row < 0 ∨ (NL : Int) ≤ row from .inl hc)
                clear hc
                go_wp2_with (first
                  | (go_at_call 61; go_must ((refine (hout.out HROWC.out).mono ?_); rintro e w12 ⟨rfl, hb12⟩; have HB12 := Lib.hid hb12; clear hb12))
                  | (go_at_call 66; go_must ((refine (hprow.out _ HB12.out).mono ?_); rintro e w13 ⟨rfl, hw13⟩; have hw14 := hw13.symm; subst hw14))
                  | (go_at_call 63; go_must ((refine (hawk.out _).mono ?_); rintro e w15 ⟨rfl, hb15⟩; have HB15 := Lib.hid hb15; clear hb15)))
                go_ret
                have hq := HB12.out.trans (HB15.out.mono HB12.out.size)
                exact ⟨rfl, HB2.out.trans ((HB3.out.trans ((HB3Q.out.trans (hq.mono HB3Q.out.size)).mono HB3.out.size)).mono HB2.out.size)⟩
              · have hq1 : decide (row < 0) = false := by simp; omega
                have hq2 : decide ((NL : Int) ≤ row) = true := by simp; omega
                have HROWC := Lib.hid (show row < 0 ∨ (NL : Int) ≤ row from .inr hc)
                clear hc hc0
                go_wp2_with (first
                  | (go_at_call 61; go_must ((refine (hout.out HROWC.out).mono ?_); rintro e w12 ⟨rfl, hb12⟩; have HB12 := Lib.hid hb12; clear hb12))
                  | (go_at_call 66; go_must ((refine (hprow.out _ HB12.out).mono ?_); rintro e w13 ⟨rfl, hw13⟩; have hw14 := hw13.symm; subst hw14))
                  | (go_at_call 63; go_must ((refine (hawk.out _).mono ?_); rintro e w15 ⟨rfl, hb15⟩; have HB15 := Lib.hid hb15; clear hb15)))
                go_ret
                have hq := HB12.out.trans (HB15.out.mono HB12.out.size)
                exact ⟨rfl, HB2.out.trans ((HB3.out.trans ((HB3Q.out.trans (hq.mono HB3Q.out.size)).mono HB3.out.size)).mono HB2.out.size)⟩
              · have hq1 : decide (row < 0) = false := by simp; omega
                have hq2 : decide ((NL : Int) ≤ row) = false := by simp; omega
                have HB12 := HWQ
                clear hc hc0
                go_wp2_with (first
                  | (go_at_call 66; go_must ((refine (hprow.out _ HB12.out).mono ?_); rintro e w13 ⟨rfl, hw13⟩; have hw14 := hw13.symm; subst hw14))
                  | (go_at_call 63; go_must ((refine (hawk.out _).mono ?_); rintro e w15 ⟨rfl, hb15⟩; have HB15 := Lib.hid hb15; clear hb15)))
                go_ret
                have hq := HB12.out.trans (HB15.out.mono HB12.out.size)
                exact ⟨rfl, HB2.out.trans ((HB3.out.trans ((HB3Q.out.trans (hq.mono HB3Q.out.size)).mono HB3.out.size)).mono HB2.out.size)⟩
            · have hdl : d < ds.length := by omega
              have hd2 : decide (d < ds.length) = true := by simp; omega
              have HDL := Lib.hid hdl
              by_cases g3 : off < 0
              · have hd3 : decide (0 ≤ off) = false := by simp; omega
                obtain rfl : G = false := HGN.out (by omega)
                obtain rfl : RV = 0 := HRVN.out rfl
                clear g1 g2 g3
                rcases hcs with hc | ⟨hc0, hc⟩ | ⟨hc0, hc⟩
                · have hq1 : decide (row < 0) = true := by simp; omega
                  have HROWC := Lib.hid (show row < 0 ∨ (NL : Int) ≤ row from .inl hc)
                  clear hc
                  go_wp2_with (first
                    | (go_at_call 61; go_must ((refine (hout.out HROWC.out).mono ?_); rintro e w12 ⟨rfl, hb12⟩; have HB12 := Lib.hid hb12; clear hb12))
                    | (go_at_call 66; go_must ((refine (hprow.out _ HB12.out).mono ?_); rintro e w13 ⟨rfl, hw13⟩; have hw14 := hw13.symm; subst hw14))
                    | (go_at_call 63; go_must ((refine (hawk.out _).mono ?_); rintro e w15 ⟨rfl, hb15⟩; have HB15 := Lib.hid hb15; clear hb15)))
                  go_ret
                  have hq := HB12.out.trans (HB15.out.mono HB12.out.size)
                  exact ⟨rfl, HB2.out.trans ((HB3.out.trans ((HB3Q.out.trans (hq.mono HB3Q.out.size)).mono HB3.out.size)).mono HB2.out.size)⟩
                · have hq1 : decide (row < 0) = false := by simp; omega
                  have hq2 : decide ((NL : Int) ≤ row) = true := by simp; omega
                  have HROWC := Lib.hid (show row < 0 ∨ (NL : Int) ≤ row from .inr hc)
                  clear hc hc0
                  go_wp2_with (first
                    | (go_at_call 61; go_must ((refine (hout.out HROWC.out).mono ?_); rintro e w12 ⟨rfl, hb12⟩; have HB12 := Lib.hid hb12; clear hb12))
                    | (go_at_call 66; go_must ((refine (hprow.out _ HB12.out).mono ?_); rintro e w13 ⟨rfl, hw13⟩; have hw14 := hw13.symm; subst hw14))
                    | (go_at_call 63; go_must ((refine (hawk.out _).mono ?_); rintro e w15 ⟨rfl, hb15⟩; have HB15 := Lib.hid hb15; clear hb15)))
                  go_ret
                  have hq := HB12.out.trans (HB15.out.mono HB12.out.size)
                  exact ⟨rfl, HB2.out.trans ((HB3.out.trans ((HB3Q.out.trans (hq.mono HB3Q.out.size)).mono HB3.out.size)).mono HB2.out.size)⟩
                · have hq1 : decide (row < 0) = false := by simp; omega
                  have hq2 : decide ((NL : Int) ≤ row) = false := by simp; omega
                  have HB12 := HWQ
                  clear hc hc0
                  go_wp2_with (first
                    | (go_at_call 66; go_must ((refine (hprow.out _ HB12.out).mono ?_); rintro e w13 ⟨rfl, hw13⟩; have hw14 := hw13.symm; subst hw14))
                    | (go_at_call 63; go_must ((refine (hawk.out _).mono ?_); rintro e w15 ⟨rfl, hb15⟩; have HB15 := Lib.hid hb15; clear hb15)))
                  go_ret
                  have hq := HB12.out.trans (HB15.out.mono HB12.out.size)
                  exact ⟨rfl, HB2.out.trans ((HB3.out.trans ((HB3Q.out.trans (hq.mono HB3Q.out.size)).mono HB3.out.size)).mono HB2.out.size)⟩
              · obtain ⟨o, rfl⟩ : ∃ o : Nat, off = (o : Nat) := ⟨off.toNat, by omega⟩
                rw [Int.toNat_natCast] at HRVY
                have hd3 : decide ((0 : Int) ≤ (o : Int)) = true := by simp
                obtain ⟨ld, hld⟩ : ∃ ld, ld = ds[d].length := ⟨_, rfl⟩
                have hsze : (szL ds).getD d 0 = ld := by rw [hld]; exact HSZE.out d hdl
                rw [hsze] at HGN HGY
                have HLD := Lib.hid hld
                clear hsze hld
                obtain ⟨m, hm⟩ : ∃ m, m = o % 32 := ⟨_, rfl⟩
                have hd4 : (o : Int).tmod 32 = (m : Nat) := by rw [Int.tmod_eq_emod_of_nonneg (by omega)]; omega
                by_cases g4 : m = 0
                · have hd5 : ((m : Int) == 0) = true := by simp; omega
                  obtain ⟨S, hS⟩ : ∃ S, S = (⟨ds[d].toArray⟩ : ByteArray) := ⟨_, rfl⟩
                  have hz : S.size = ld := by rw [hS, HLD.out]; simp [ByteArray.size]
                  have HSS := Lib.hid hS
                  clear hS
                  by_cases g5 : o ≤ ld
                  · have hd6 : decide (o ≤ ld) = true := by simp; omega
                    obtain rfl : G = true := HGY.out (by omega)
                    obtain ⟨hRVl, hget, -, -⟩ := HRVY.out rfl
                    obtain ⟨_, hget2⟩ := List.getElem?_eq_some_iff.1 hget
                    have HGET := Lib.hid hget2
                    clear g1 g2 g3 g4 g5 hm hget hget2
                    rcases hcs with hc | ⟨hc0, hc⟩ | ⟨hc0, hc⟩
                    · have hq1 : decide (row < 0) = true := by simp; omega
                      have HROWC := Lib.hid (show row < 0 ∨ (NL : Int) ≤ row from .inl hc)
                      clear hc
                      go_wp2_with (first
                        | (go_at_call 61; go_must ((refine (hout.out HROWC.out).mono ?_); rintro e w12 ⟨rfl, hb12⟩; have HB12 := Lib.hid hb12; clear hb12))
                        | (go_at_call 66; go_must ((refine (hprow.out _ HB12.out).mono ?_); rintro e w13 ⟨rfl, hw13⟩; have hw14 := hw13.symm; subst hw14; obtain ⟨ads, eads, es⟩ := (HSQ.out.later HB12.out).at_ d HDL.out; cases eads; simp only [strV] at es; have es' := es.trans (congrArg (fun z => some (Value.string z)) HSS.out.symm); clear es; obtain ⟨adh, eadh, e1, e2⟩ := (HHQ.out.later HB12.out).at_ RV (by rw [HSL.out]; exact hRVl); cases eadh; rw [HGET.out] at e1 e2; simp only [natV] at e1 e2; have e2' := hit_second e2; clear e2))
                        | (go_at_call 63; go_must ((refine (hawk.out _).mono ?_); rintro e w15 ⟨rfl, hb15⟩; have HB15 := Lib.hid hb15; clear hb15)))
                      go_ret
                      have hq := HB12.out.trans (HB15.out.mono HB12.out.size)
                      exact ⟨rfl, HB2.out.trans ((HB3.out.trans ((HB3Q.out.trans (hq.mono HB3Q.out.size)).mono HB3.out.size)).mono HB2.out.size)⟩
                    · have hq1 : decide (row < 0) = false := by simp; omega
                      have hq2 : decide ((NL : Int) ≤ row) = true := by simp; omega
                      have HROWC := Lib.hid (show row < 0 ∨ (NL : Int) ≤ row from .inr hc)
                      clear hc hc0
                      go_wp2_with (first
                        | (go_at_call 61; go_must ((refine (hout.out HROWC.out).mono ?_); rintro e w12 ⟨rfl, hb12⟩; have HB12 := Lib.hid hb12; clear hb12))
                        | (go_at_call 66; go_must ((refine (hprow.out _ HB12.out).mono ?_); rintro e w13 ⟨rfl, hw13⟩; have hw14 := hw13.symm; subst hw14; obtain ⟨ads, eads, es⟩ := (HSQ.out.later HB12.out).at_ d HDL.out; cases eads; simp only [strV] at es; have es' := es.trans (congrArg (fun z => some (Value.string z)) HSS.out.symm); clear es; obtain ⟨adh, eadh, e1, e2⟩ := (HHQ.out.later HB12.out).at_ RV (by rw [HSL.out]; exact hRVl); cases eadh; rw [HGET.out] at e1 e2; simp only [natV] at e1 e2; have e2' := hit_second e2; clear e2))
                        | (go_at_call 63; go_must ((refine (hawk.out _).mono ?_); rintro e w15 ⟨rfl, hb15⟩; have HB15 := Lib.hid hb15; clear hb15)))
                      go_ret
                      have hq := HB12.out.trans (HB15.out.mono HB12.out.size)
                      exact ⟨rfl, HB2.out.trans ((HB3.out.trans ((HB3Q.out.trans (hq.mono HB3Q.out.size)).mono HB3.out.size)).mono HB2.out.size)⟩
                    · have hq1 : decide (row < 0) = false := by simp; omega
                      have hq2 : decide ((NL : Int) ≤ row) = false := by simp; omega
                      have HB12 := HWQ
                      clear hc hc0
                      go_wp2_with (first
                        | (go_at_call 66; go_must ((refine (hprow.out _ HB12.out).mono ?_); rintro e w13 ⟨rfl, hw13⟩; have hw14 := hw13.symm; subst hw14; obtain ⟨ads, eads, es⟩ := (HSQ.out.later HB12.out).at_ d HDL.out; cases eads; simp only [strV] at es; have es' := es.trans (congrArg (fun z => some (Value.string z)) HSS.out.symm); clear es; obtain ⟨adh, eadh, e1, e2⟩ := (HHQ.out.later HB12.out).at_ RV (by rw [HSL.out]; exact hRVl); cases eadh; rw [HGET.out] at e1 e2; simp only [natV] at e1 e2; have e2' := hit_second e2; clear e2))
                        | (go_at_call 63; go_must ((refine (hawk.out _).mono ?_); rintro e w15 ⟨rfl, hb15⟩; have HB15 := Lib.hid hb15; clear hb15)))
                      go_ret
                      have hq := HB12.out.trans (HB15.out.mono HB12.out.size)
                      exact ⟨rfl, HB2.out.trans ((HB3.out.trans ((HB3Q.out.trans (hq.mono HB3Q.out.size)).mono HB3.out.size)).mono HB2.out.size)⟩
                  · have hd6 : decide (o ≤ ld) = false := by simp; omega
                    obtain rfl : G = false := HGN.out (by omega)
                    obtain rfl : RV = 0 := HRVN.out rfl
                    clear g1 g2 g3 g4 g5 hm
                    rcases hcs with hc | ⟨hc0, hc⟩ | ⟨hc0, hc⟩
                    · have hq1 : decide (row < 0) = true := by simp; omega
                      have HROWC := Lib.hid (show row < 0 ∨ (NL : Int) ≤ row from .inl hc)
                      clear hc
                      go_wp2_with (first
                        | (go_at_call 61; go_must ((refine (hout.out HROWC.out).mono ?_); rintro e w12 ⟨rfl, hb12⟩; have HB12 := Lib.hid hb12; clear hb12))
                        | (go_at_call 66; go_must ((refine (hprow.out _ HB12.out).mono ?_); rintro e w13 ⟨rfl, hw13⟩; have hw14 := hw13.symm; subst hw14; obtain ⟨ads, eads, es⟩ := (HSQ.out.later HB12.out).at_ d HDL.out; cases eads; simp only [strV] at es; have es' := es.trans (congrArg (fun z => some (Value.string z)) HSS.out.symm); clear es))
                        | (go_at_call 63; go_must ((refine (hawk.out _).mono ?_); rintro e w15 ⟨rfl, hb15⟩; have HB15 := Lib.hid hb15; clear hb15)))
                      go_ret
                      have hq := HB12.out.trans (HB15.out.mono HB12.out.size)
                      exact ⟨rfl, HB2.out.trans ((HB3.out.trans ((HB3Q.out.trans (hq.mono HB3Q.out.size)).mono HB3.out.size)).mono HB2.out.size)⟩
                    · have hq1 : decide (row < 0) = false := by simp; omega
                      have hq2 : decide ((NL : Int) ≤ row) = true := by simp; omega
                      have HROWC := Lib.hid (show row < 0 ∨ (NL : Int) ≤ row from .inr hc)
                      clear hc hc0
                      go_wp2_with (first
                        | (go_at_call 61; go_must ((refine (hout.out HROWC.out).mono ?_); rintro e w12 ⟨rfl, hb12⟩; have HB12 := Lib.hid hb12; clear hb12))
                        | (go_at_call 66; go_must ((refine (hprow.out _ HB12.out).mono ?_); rintro e w13 ⟨rfl, hw13⟩; have hw14 := hw13.symm; subst hw14; obtain ⟨ads, eads, es⟩ := (HSQ.out.later HB12.out).at_ d HDL.out; cases eads; simp only [strV] at es; have es' := es.trans (congrArg (fun z => some (Value.string z)) HSS.out.symm); clear es))
                        | (go_at_call 63; go_must ((refine (hawk.out _).mono ?_); rintro e w15 ⟨rfl, hb15⟩; have HB15 := Lib.hid hb15; clear hb15)))
                      go_ret
                      have hq := HB12.out.trans (HB15.out.mono HB12.out.size)
                      exact ⟨rfl, HB2.out.trans ((HB3.out.trans ((HB3Q.out.trans (hq.mono HB3Q.out.size)).mono HB3.out.size)).mono HB2.out.size)⟩
                    · have hq1 : decide (row < 0) = false := by simp; omega
                      have hq2 : decide ((NL : Int) ≤ row) = false := by simp; omega
                      have HB12 := HWQ
                      clear hc hc0
                      go_wp2_with (first
                        | (go_at_call 66; go_must ((refine (hprow.out _ HB12.out).mono ?_); rintro e w13 ⟨rfl, hw13⟩; have hw14 := hw13.symm; subst hw14; obtain ⟨ads, eads, es⟩ := (HSQ.out.later HB12.out).at_ d HDL.out; cases eads; simp only [strV] at es; have es' := es.trans (congrArg (fun z => some (Value.string z)) HSS.out.symm); clear es))
                        | (go_at_call 63; go_must ((refine (hawk.out _).mono ?_); rintro e w15 ⟨rfl, hb15⟩; have HB15 := Lib.hid hb15; clear hb15)))
                      go_ret
                      have hq := HB12.out.trans (HB15.out.mono HB12.out.size)
                      exact ⟨rfl, HB2.out.trans ((HB3.out.trans ((HB3Q.out.trans (hq.mono HB3Q.out.size)).mono HB3.out.size)).mono HB2.out.size)⟩
                · have hd5 : ((m : Int) == 0) = false := by simp; omega
                  obtain rfl : G = false := HGN.out (by omega)
                  obtain rfl : RV = 0 := HRVN.out rfl
                  clear g1 g2 g3 g4 hm
                  rcases hcs with hc | ⟨hc0, hc⟩ | ⟨hc0, hc⟩
                  · have hq1 : decide (row < 0) = true := by simp; omega
                    have HROWC := Lib.hid (show row < 0 ∨ (NL : Int) ≤ row from .inl hc)
                    clear hc
                    go_wp2_with (first
                      | (go_at_call 61; go_must ((refine (hout.out HROWC.out).mono ?_); rintro e w12 ⟨rfl, hb12⟩; have HB12 := Lib.hid hb12; clear hb12))
                      | (go_at_call 66; go_must ((refine (hprow.out _ HB12.out).mono ?_); rintro e w13 ⟨rfl, hw13⟩; have hw14 := hw13.symm; subst hw14))
                      | (go_at_call 63; go_must ((refine (hawk.out _).mono ?_); rintro e w15 ⟨rfl, hb15⟩; have HB15 := Lib.hid hb15; clear hb15)))
                    go_ret
                    have hq := HB12.out.trans (HB15.out.mono HB12.out.size)
                    exact ⟨rfl, HB2.out.trans ((HB3.out.trans ((HB3Q.out.trans (hq.mono HB3Q.out.size)).mono HB3.out.size)).mono HB2.out.size)⟩
                  · have hq1 : decide (row < 0) = false := by simp; omega
                    have hq2 : decide ((NL : Int) ≤ row) = true := by simp; omega
                    have HROWC := Lib.hid (show row < 0 ∨ (NL : Int) ≤ row from .inr hc)
                    clear hc hc0
                    go_wp2_with (first
                      | (go_at_call 61; go_must ((refine (hout.out HROWC.out).mono ?_); rintro e w12 ⟨rfl, hb12⟩; have HB12 := Lib.hid hb12; clear hb12))
                      | (go_at_call 66; go_must ((refine (hprow.out _ HB12.out).mono ?_); rintro e w13 ⟨rfl, hw13⟩; have hw14 := hw13.symm; subst hw14))
                      | (go_at_call 63; go_must ((refine (hawk.out _).mono ?_); rintro e w15 ⟨rfl, hb15⟩; have HB15 := Lib.hid hb15; clear hb15)))
                    go_ret
                    have hq := HB12.out.trans (HB15.out.mono HB12.out.size)
                    exact ⟨rfl, HB2.out.trans ((HB3.out.trans ((HB3Q.out.trans (hq.mono HB3Q.out.size)).mono HB3.out.size)).mono HB2.out.size)⟩
                  · have hq1 : decide (row < 0) = false := by simp; omega
                    have hq2 : decide ((NL : Int) ≤ row) = false := by simp; omega
                    have HB12 := HWQ
                    clear hc hc0
                    go_wp2_with (first
                      | (go_at_call 66; go_must ((refine (hprow.out _ HB12.out).mono ?_); rintro e w13 ⟨rfl, hw13⟩; have hw14 := hw13.symm; subst hw14))
                      | (go_at_call 63; go_must ((refine (hawk.out _).mono ?_); rintro e w15 ⟨rfl, hb15⟩; have HB15 := Lib.hid hb15; clear hb15)))
                    go_ret
                    have hq := HB12.out.trans (HB15.out.mono HB12.out.size)
                    exact ⟨rfl, HB2.out.trans ((HB3.out.trans ((HB3Q.out.trans (hq.mono HB3Q.out.size)).mono HB3.out.size)).mono HB2.out.size)⟩

set_option maxRecDepth 100000 in
set_option maxHeartbeats 1000000 in
theorem law13_places (ds : List (List UInt8)) (v : Value) (row doc off : Int) (w : World) (hd : DocsR w v ds) :
    Calls Try.prog 15 #[v, .int .i64 row, .int .i64 doc, .int .i64 off] w fun e w' => e = .returned (.bool true) ∧ Below w.heap.size w w' := by
  cases hf : fewB ds with
  | true => exact law13_places_main ds v row doc off w hd hf
  | false =>
    have hfew := Lib.hid (law_few ds v w hd)
    have hawk := Lib.hid law13_awake
    obtain ⟨A, c, rfl, h1, h2, -⟩ := hd.form
    rw [hf] at hfew
    clear hd hf
    go_enter Try.func15, Try.ntmps15
    go_wp2_with (first
      | (go_at_call 20; go_must ((refine hfew.out.mono ?_); rintro e w1 ⟨rfl, rfl⟩))
      | (go_at_call 63; go_must ((refine (hawk.out _).mono ?_); rintro e w2 ⟨rfl, hb2⟩; have HB2 := Lib.hid hb2; clear hb2)))
    go_ret
    exact ⟨rfl, HB2.out⟩
end Go.Proofs.Ytinlmodkdjpocaa
