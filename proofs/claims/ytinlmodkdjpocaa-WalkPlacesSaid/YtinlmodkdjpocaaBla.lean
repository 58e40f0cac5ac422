/- law 12: BackSame. -/
import Derived.Test.YtinlmodkdjpocaaQma
set_option linter.unusedVariables false
namespace Go.Proofs.Ytinlmodkdjpocaa
open Go.RowKit Go.Shelf

theorem few_ok {ds : List (List UInt8)} (h : fewB ds = true) : okDs ds := by
  obtain ⟨h1, h2, h3, h4, h5⟩ := few_facts h
  exact ⟨by omega, h2, by omega⟩
theorem countL_nil (ds : List (List UInt8)) : countL (bwtOf (rowOf ds)) [] = 0 := by rw [countL_bwt, hits_empty]; rfl

set_option maxRecDepth 100000 in
set_option maxHeartbeats 4000000 in
theorem law12_same (ds : List (List UInt8)) (v : Value) (p : List UInt8) (pv : Value) (w : World) (hd : DocsR w v ds) (hp : SlR byV w pv p) :
    Calls Try.prog 9 #[v, pv] w fun e w' => e = .returned (.bool true) ∧ Below w.heap.size w w' := by
  have hfew := Lib.hid (law_few ds v w hd)
  have hawk := Lib.hid law12_awake
  obtain ⟨A, c, rfl, h1, h2, -⟩ := hd.form
  obtain ⟨Ap, cp, rfl, h3, h4, -⟩ := hp.form
  by_cases hf : fewB ds = true
  · rw [hf] at hfew
    by_cases hpl : p.length ≤ 60
    · have hok := few_ok hf
      have hm := Lib.hid (law_made ds _ w hd hok)
      have hE := Lib.hid (docsE_bwt ds hok)
      have HP := Lib.hid hp
      have hcn := countL_nil ds
      have hle := fun x hx => (bwt_le ds x hx : x ≤ 256)
      have HLE := Lib.hid hle
      obtain ⟨L, hL⟩ : ∃ L, L = bwtOf (rowOf ds) := ⟨_, rfl⟩
      rw [← hL] at hm hE hcn HLE
      have HCN := Lib.hid hcn
      clear hd hp hf hok hcn hle hL
      obtain ⟨pl, hpll⟩ : ∃ pl, pl = p.length := ⟨_, rfl⟩
      rw [← hpll] at hpl h3 ⊢
      rw [← hpll] at HP
      have HPL := Lib.hid hpll
      clear hpll
      obtain ⟨rg, hrg⟩ : ∃ rg, rg = rangeL L (upS' p) := ⟨_, rfl⟩
      have HRG := Lib.hid hrg
      have HR0 : Hid (rangeL L (upS' []) = (0, L.length)) := Lib.hid rfl
      obtain ⟨NL, hNL⟩ : ∃ NL, NL = L.length := ⟨_, rfl⟩
      have HNL := Lib.hid hNL
      obtain ⟨ND, hND⟩ : ∃ ND, ND = L.count 0 := ⟨_, rfl⟩
      have HND := Lib.hid hND
      clear hrg hNL hND
      go_enter Try.func9, Try.ntmps9
      go_wp2_with (first
        | (go_at_call 20; go_must ((refine hfew.out.mono ?_); rintro e w1 ⟨rfl, rfl⟩))
        | (go_at_call 33; go_must ((refine hm.out.mono ?_); rintro e w3 ⟨x, rfl, hx0, hx, hb3⟩; have HX := Lib.hid (fun W (hW : Below w3.heap.size w3 W) => hx.later hW); have HP3 := Lib.hid (HP.out.later hb3); have HB3 := Lib.hid hb3; clear hx0 hx hb3))
        | (go_at_call 36; go_must ((with_reducible refine (back_syms x L w3 (HX.out w3 (Below.refl _ _))).mono ?_); rintro e w5 ⟨v5, rfl, hs5, hb5⟩; have HS5 := Lib.hid hs5; have HB5 := Lib.hid hb5; clear hs5 hb5))
        | (go_at_call 35; go_must ((with_reducible refine (back_new v5 L w5 HS5.out (fun x hx => Nat.le_trans (HLE.out x hx) (by decide))).mono ?_); intro e w6 hn6; obtain ⟨hb6, hn6⟩ := hn6; obtain ⟨y, hy0, rfl, hy⟩ := (hn6.resolve_left (fun h => h.1 hE.out)).2; have HY := Lib.hid (fun W (hW : Below w6.heap.size w6 W) => hy.later hW); have HB6 := Lib.hid (HB5.out.trans (hb6.mono HB5.out.size)); clear hn6 hy hb6 hy0))
        | (go_at_call 37; go_must (first
            | ((with_reducible refine (back_range x L (.slice Ap pl cp) p w6 (HX.out _ HB6.out) (HP3.out.later HB6.out) (by rw [← HPL.out]; omega)).mono ?_); rintro e w7 ⟨rfl, hb7⟩; rw [← HRG.out]; have HB7 := Lib.hid hb7; clear hb7)
            | ((with_reducible refine (back_range y L (.slice Ap pl cp) p w7 (HY.out _ HB7.out) (HP3.out.later (HB6.out.trans (HB7.out.mono HB6.out.size))) (by rw [← HPL.out]; omega)).mono ?_); rintro e w8 ⟨rfl, hb8⟩; rw [← HRG.out]; have HB8 := Lib.hid (HB7.out.trans (hb8.mono HB7.out.size)); clear hb8)
            | ((with_reducible refine (back_range x L (.slice none 0 0) [] w8 (HX.out _ (HB6.out.trans (HB8.out.mono HB6.out.size))) (SlR.nil _) (by decide)).mono ?_); rintro e w9 ⟨rfl, hb9⟩; rw [HR0.out]; simp only []; rw [← HNL.out]; have HB9 := Lib.hid (HB8.out.trans (hb9.mono HB8.out.size)); have HBX := Lib.hid (HB6.out.trans (HB9.out.mono HB6.out.size)); clear hb9)))
        | (go_at_call 38; go_must (first
            | ((with_reducible refine (back_len x L w9 (HX.out _ HBX.out)).mono ?_); rintro e w10 ⟨rfl, hw⟩; have hw2 := hw.symm; subst hw2; rw [← HNL.out])
            | ((with_reducible refine (back_len y L w9 (HY.out _ HB9.out)).mono ?_); rintro e w10 ⟨rfl, hw⟩; have hw2 := hw.symm; subst hw2; rw [← HNL.out])))
        | (go_at_call 39; go_must (first
            | ((with_reducible refine (back_docsN x L w9 (HX.out _ HBX.out)).mono ?_); rintro e w10 ⟨rfl, hw⟩; have hw2 := hw.symm; subst hw2; rw [← HND.out])
            | ((with_reducible refine (back_docsN y L w9 (HY.out _ HB9.out)).mono ?_); rintro e w10 ⟨rfl, hw⟩; have hw2 := hw.symm; subst hw2; rw [← HND.out])))
        | (go_at_call 34; go_must ((with_reducible refine (back_count x L (.slice none 0 0) [] w9 (HX.out _ HBX.out) (SlR.nil _) (by decide)).mono ?_); rintro e w10 ⟨rfl, hb10⟩; rw [HCN.out]; have HB10 := Lib.hid (HBX.out.trans (hb10.mono HBX.out.size)); clear hb10))
        | (go_at_call 32; go_must ((refine (hawk.out _).mono ?_); rintro e w11 ⟨rfl, hb11⟩; have HB11 := Lib.hid (HB10.out.trans (hb11.mono HB10.out.size)); clear hb11)))
      go_ret
      exact ⟨rfl, HB3.out.trans (HB11.out.mono HB3.out.size)⟩
    · clear hd hp hf
      go_enter Try.func9, Try.ntmps9
      go_wp2_with (first
        | (go_at_call 20; go_must ((refine hfew.out.mono ?_); rintro e w1 ⟨rfl, rfl⟩))
        | (go_at_call 32; go_must ((refine (hawk.out _).mono ?_); rintro e w2 ⟨rfl, hb2⟩; have HB2 := Lib.hid hb2; clear hb2)))
      go_ret
      exact ⟨rfl, HB2.out⟩
  · have hff : fewB ds = false := by simpa using hf
    rw [hff] at hfew
    clear hd hp hf hff
    go_enter Try.func9, Try.ntmps9
    go_wp2_with (first
      | (go_at_call 20; go_must ((refine hfew.out.mono ?_); rintro e w1 ⟨rfl, rfl⟩))
      | (go_at_call 32; go_must ((refine (hawk.out _).mono ?_); rintro e w2 ⟨rfl, hb2⟩; have HB2 := Lib.hid hb2; clear hb2)))
    go_ret
    exact ⟨rfl, HB2.out⟩
end Go.Proofs.Ytinlmodkdjpocaa
