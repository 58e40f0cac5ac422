/- text: the law TextFinds. -/
import Derived.Test.YtinlmodkdjpocaaTxm
import Derived.Test.YtinlmodkdjpocaaMsk
set_option linter.unusedVariables false
namespace Go.Proofs.Ytinlmodkdjpocaa
open Go.RowKit Go.Shelf

theorem HitsR.take {w : World} {A : Option Addr} {n c : Nat} {hs : List (Nat × Nat)} (h : HitsR w (.slice A n c) hs) (m : Nat) (hm : m ≤ n) : HitsR w (.slice A m c) (hs.take m) := by
  obtain ⟨A', c', he, h1, h2, h3⟩ := h
  injection he with e1 e2 e3
  subst e1; subst e2; subst e3
  have hl : (hs.take m).length = m := by rw [List.length_take]; omega
  refine ⟨_, _, by rw [hl], by rw [hl]; omega, h2, ?_⟩
  rcases h3 with h3 | ⟨ad, h3, hc⟩
  · left; rw [h3]; simp
  · subst h3
    right
    refine ⟨_, rfl, fun j hj => ?_⟩
    rw [hl] at hj
    have := hc j (by omega)
    simpa using this
theorem HitsR.form {w : World} {v : Value} {hs : List (Nat × Nat)} (h : HitsR w v hs) : ∃ A c, v = .slice A hs.length c ∧ hs.length ≤ c ∧ c ≤ 9223372036854775807 := by
  obtain ⟨A, c, rfl, h1, h2, -⟩ := h
  exact ⟨A, c, rfl, h1, h2⟩

theorem slice_hits (A : Option Addr) (n c m : Nat) (hm : m ≤ n) (hc : n ≤ c) (W : World) : (Instr.slice 32 (.slice A n c) none (some (.int .i64 (m : Nat))) none).run Try.prog W = .ok (.slice A m c) W := by
  have h1 := Try.underlying32
  have h2 := Try.underlying77
  cases A with
  | none => go_simp; intro h; omega
  | some a => go_simp; intro h; omega

set_option maxRecDepth 100000 in
set_option maxHeartbeats 1000000 in
theorem law_finds_few (ds : List (List UInt8)) (v : Value) (p : List UInt8) (pv : Value) (most : Int) (w : World) (hd : DocsR w v ds) (hp : SlR byV w pv p) (hG : GL w) (hf : fewB ds = true) (hp2 : p.length ≤ 200) :
    Calls Try.prog 5 #[v, pv, .int .i64 most] w fun e w' => e = .returned (.bool true) ∧ Below w.heap.size w w' := by
  obtain ⟨hf1, hf2, hf3, hf4, -⟩ := few_facts hf
  have hfew := Lib.hid (few_yes ds v w hd hf)
  have hnew := Lib.hid (new_ok ds v w hd hf)
  obtain ⟨A, ca, rfl, h1, h2, -⟩ := hd.form
  obtain ⟨B, cb, rfl, h3, h4, -⟩ := hp.form
  have HF := Lib.hid hf
  have HG := Lib.hid hG
  have HP := Lib.hid hp
  have HD := Lib.hid hd
  obtain ⟨m, hm⟩ : ∃ m : Nat, most % 16 = (m : Nat) := ⟨(most % 16).toNat, by omega⟩
  have hm15 : m ≤ 15 := by omega
  have hand : bits .and .i64 most 15 = (m : Nat) := by rw [i64_and15, hm]
  clear hd hG hf hp hf2 hf3 hm
  go_enter Try.func5, Try.ntmps5
  go_wp2_with (first
    | (go_at_call 20; go_must (refine hfew.out.mono ?_; rintro e w6 ⟨rfl, rfl⟩))
    | (go_at_call 22; go_must (refine hnew.out.mono ?_; rintro e w1 ⟨hb1, b, hb, rfl, ht⟩; have HB := Lib.hid hb1; have HT := Lib.hid ht; clear hb1 hb ht)))
  clear hfew hnew
  have hcv0 := conv_back w1.drew _ p (HP.out.later (HB.out.drew))
  go_cut [9] (fun t9 wc => HitsR wc t9 (hits p ds) ∧ Below w1.heap.size w1 wc)
  case first =>
    go_region_law (first
      | (go_simp; go_at_call 28; refine (ref_strings ds _ _ (HD.out.below (Nat.le_refl _) HB.out.drew) (by omega)).mono ?_; rintro e w17 ⟨v17, rfl, hx17, hb17⟩; have hcv2 := conv_back w17 _ p (HP.out.later (HB.out.drew.trans (hb17.mono HB.out.size))); have HX17 := Lib.hid hx17; have HB17 := Lib.hid hb17; clear hx17 hb17)
      | (go_simp; go_at_call 27; refine (ref_find ds _ p _ HX17.out (by omega) (by omega)).mono ?_; rintro e w18 ⟨v18, rfl, hx18, hb18⟩; have HX18 := Lib.hid hx18; have HB18 := Lib.hid hb18; clear hx18 hb18))
    all_goals
      go_wp2_with fail
      go_meet
      exact ⟨HX18.out, (below_undrew HB17.out).trans (HB18.out.mono HB17.out.size)⟩
  case rest =>
    obtain ⟨h9, hb9⟩ := hcut
    obtain ⟨A9, c9, rfl, h91, h92⟩ := h9.form
    have hhl := hits_length p ds
    have HT2 := Lib.hid (HT.out.below (Nat.le_refl _) hb9)
    have HG2 := Lib.hid ((HG.out.below HB.out).below hb9)
    have HBc := Lib.hid (HB.out.trans (hb9.mono HB.out.size))
    have HP2 := Lib.hid ((HP.out.later HB.out).later hb9)
    have H9 := Lib.hid h9
    have hcv := conv_back wc.drew _ p (HP2.out.later ((Below.refl _ wc).drew))
    clear h9 hb9 HG HT HB HP HD hcv0
    generalize hHH : (hits p ds).length = H at *
    have HHH := Lib.hid hHH
    clear hHH
    obtain ⟨n, hn⟩ : ∃ n : Nat, (min (m : Int) (H : Nat)) = (n : Nat) := ⟨min m H, by omega⟩
    have hnH : n ≤ H := by omega
    have hE1 : Hid ((hits p ds).take (100000 : Int).toNat = hits p ds) := Lib.hid (List.take_of_length_le (by have : (100000 : Int).toNat = 100000 := rfl; have := HHH.out; omega))
    have hE2 : Hid ((hits p ds).take ((m : Nat) : Int).toNat = (hits p ds).take n) := Lib.hid (by
      rw [Int.toNat_natCast]
      by_cases h : m ≤ H
      · rw [show n = m from by omega]
      · rw [List.take_of_length_le (by have := HHH.out; omega), List.take_of_length_le (by have := HHH.out; omega)])
    have hlf := Lib.hid (fun (W : World) (h1 : TextR W b ds) (h2 : GL W) (x : Int) => law_find b ds p x W h1 h2 (fun d hd => by have := (few_facts HF.out).2.1 d hd; omega) (by omega) (by have := HHH.out; omega))
    have hbd := (Below.refl wc.heap.size wc).drew
    have HT3 := Lib.hid (HT2.out.below (Nat.le_refl _) hbd)
    have HG3 := Lib.hid (HG2.out.below hbd)
    have H93 := Lib.hid (H9.out.later hbd)
    have HP3 := Lib.hid (HP2.out.later hbd)
    have HB3 := Lib.hid (HBc.out.trans (hbd.mono HBc.out.size))
    clear hbd HT2 HG2 H9 HP2 HBc
    have hnc : n ≤ c9 := by omega
    have hnc2 : ¬ c9 < n := by omega
    have hsl := fun W => slice_hits A9 H c9 n hnH h91 W
    have HNH := Lib.hid hnH
    clear h1 h2 h3 h4 hhl hf1 hf4 hp2 hnH h91 h92
    go_wp2
    clear hn hm15
    go_cut [6] (fun t6 wd => t6 = .bool true ∧ Below w6.heap.size w6 wd)
    case first =>
      refine wp_region_any (by kernel_rfl) ?_
      try (change wpAny _ _ _ _ _ _ _ (World.drew _))
      refine wpAny_take (i := 0) (v := ?v0) rfl (by kernel_rfl) (by kernel_rfl) (by kernel_rfl) (fun _ _ _ h => h) (Or.inl ⟨by kernel_rfl, ?h0⟩) ?r0
      case h0 => (intro w; go_simp; try with_reducible rfl)
      refine wpAny_take (i := 1) (v := ?v1) rfl (by kernel_rfl) (by kernel_rfl) (by kernel_rfl) (fun _ _ _ h => h) (Or.inl ⟨by kernel_rfl, ?h1⟩) ?r1
      case h1 => (intro w; go_simp; try with_reducible rfl)
      refine wpAny_take (i := 4) (v := ?v4) rfl (by kernel_rfl) (by kernel_rfl) (by kernel_rfl) (fun _ _ _ h => h) (Or.inl ⟨by kernel_rfl, ?h4⟩) ?r4
      case h4 => (intro w; go_simp; try with_reducible rfl)
      refine wpAny_ready (rs := [2]) (by kernel_rfl) (by simp) ?_
      refine AllReady.cons rfl (fun K hK => ?_) AllReady.nil
      go_simp
      refine hK _ _ ?_
      clear hK K
      refine wpAny_ready (rs := [3]) (by kernel_rfl) (by simp) ?_
      refine AllReady.cons rfl (fun K hK => ?_) AllReady.nil
      go_simp
      refine (hlf.out _ HT3.out HG3.out _).mono ?_; rintro e w18 ⟨v18, rfl, hx18, hb18⟩; rw [hE1.out] at hx18; have HX18 := Lib.hid hx18; have HT4 := Lib.hid (HT3.out.below (Nat.le_refl _) hb18); have HG4 := Lib.hid (HG3.out.below hb18); have HP4 := Lib.hid (HP3.out.later hb18); have H94 := Lib.hid (H93.out.later hb18); have HB4 := Lib.hid (HB3.out.trans (hb18.mono HB3.out.size)); clear hx18 hb18 HT3 HG3 HP3 H93 hcv
      refine hK _ _ ?_
      clear hK K
      refine wpAny_ready (rs := [5]) (by kernel_rfl) (by simp) ?_
      refine AllReady.cons rfl (fun K hK => ?_) AllReady.nil
      go_simp
      refine (same_hits _ _ _ _ HX18.out H94.out).mono ?_; rintro e w19 ⟨rfl, q, rfl⟩; have hcv5 := conv_back (w18.drewN q) _ p (HP4.out.later (below_drewN (Below.refl _ _) q)); have HT5 := Lib.hid (HT4.out.drew q); have HG5 := Lib.hid (HG4.out.drew q); have H95 := Lib.hid (H94.out.drew q); have HB5 := Lib.hid (below_drewN HB4.out q); clear HT4 HG4 H94
      refine hK _ _ ?_
      clear hK K
      refine wpAny_take (i := 6) (v := ?v6) rfl (by kernel_rfl) (by kernel_rfl) (by kernel_rfl) (fun _ _ _ h => h) (Or.inl ⟨by kernel_rfl, ?h6⟩) ?r6
      case h6 => (intro w; go_simp; try with_reducible rfl)
      refine wpAny_take (i := 7) (v := ?v7) rfl (by kernel_rfl) (by kernel_rfl) (by kernel_rfl) (fun _ _ _ h => h) (Or.inl ⟨by kernel_rfl, ?h7⟩) ?r7
      case h7 => (intro w; go_simp; try with_reducible rfl)
      refine wpAny_take (i := 8) (v := ?v8) rfl (by kernel_rfl) (by kernel_rfl) (by kernel_rfl) (fun _ _ _ h => h) (Or.inl ⟨by kernel_rfl, ?h8⟩) ?r8
      case h8 => (intro w; go_simp; try with_reducible rfl)
      refine wpAny_take (i := 10) (v := ?v10) rfl (by kernel_rfl) (by kernel_rfl) (by kernel_rfl) (fun _ _ _ h => h) (Or.inl ⟨by kernel_rfl, ?h10⟩) ?r10
      case h10 => (intro w; go_simp; try with_reducible rfl)
      refine wpAny_take (i := 11) (v := ?v11) rfl (by kernel_rfl) (by kernel_rfl) (by kernel_rfl) (fun _ _ _ h => h) (Or.inl ⟨by kernel_rfl, ?h11⟩) ?r11
      case h11 => (intro w; go_simp; try with_reducible rfl)
      refine wpAny_take (i := 13) (v := ?v13) rfl (by kernel_rfl) (by kernel_rfl) (by kernel_rfl) (fun _ _ _ h => h) (Or.inl ⟨by kernel_rfl, ?h13⟩) ?r13
      case h13 => (intro w; go_simp; try with_reducible rfl)
      refine wpAny_take (i := 14) (v := ?v14) rfl (by kernel_rfl) (by kernel_rfl) (by kernel_rfl) (fun _ _ _ h => h) (Or.inl ⟨by kernel_rfl, ?h14⟩) ?r14
      case h14 => (intro w; go_simp; try with_reducible rfl)
      refine wpAny_take (i := 15) (v := ?v15) rfl (by kernel_rfl) (by kernel_rfl) (by kernel_rfl) (fun _ _ _ h => h) (Or.inl ⟨by kernel_rfl, ?h15⟩) ?r15
      case h15 => (intro w; go_simp; try with_reducible rfl)
      refine wpAny_ready (rs := [9]) (by kernel_rfl) (by simp) ?_
      refine AllReady.cons rfl (fun K hK => ?_) AllReady.nil
      go_simp
      refine hK _ _ ?_
      clear hK K
      refine wpAny_ready (rs := [12]) (by kernel_rfl) (by simp) ?_
      refine AllReady.cons rfl (fun K hK => ?_) AllReady.nil
      go_simp
      refine (hlf.out _ HT5.out HG5.out _).mono ?_; rintro e w20 ⟨v20, rfl, hx20, hb20⟩; rw [hE2.out] at hx20; have HX20 := Lib.hid hx20; have HG6 := Lib.hid (HG5.out.below hb20); have H96 := Lib.hid ((H95.out.later hb20).take n HNH.out); have HB6 := Lib.hid (HB5.out.trans (hb20.mono HB5.out.size)); clear hx20 hb20 HT5 HG5 H95 hcv5
      refine hK _ _ ?_
      clear hK K
      refine wpAny_ready (rs := [16]) (by kernel_rfl) (by simp) ?_
      refine AllReady.cons rfl (fun K hK => ?_) AllReady.nil
      go_simp
      refine (same_hits _ _ _ _ HX20.out H96.out).mono ?_; rintro e w21 ⟨rfl, q2, rfl⟩; have haw := Lib.hid (law_awake _ (HG6.out.drew q2)); have HB7 := Lib.hid (below_drewN HB6.out q2)
      refine hK _ _ ?_
      clear hK K
      refine wpAny_take (i := 17) (v := ?v17) rfl (by kernel_rfl) (by kernel_rfl) (by kernel_rfl) (fun _ _ _ h => h) (Or.inl ⟨by kernel_rfl, ?h17⟩) ?r17
      case h17 => (intro w; go_simp; try with_reducible rfl)
      refine wpAny_take (i := 18) (v := ?v18) rfl (by kernel_rfl) (by kernel_rfl) (by kernel_rfl) (fun _ _ _ h => h) (Or.inl ⟨by kernel_rfl, ?h18⟩) ?r18
      case h18 => (intro w; go_simp; try with_reducible rfl)
      refine wpAny_ready (rs := [19]) (by kernel_rfl) (by simp) ?_
      refine AllReady.cons rfl (fun K hK => ?_) AllReady.nil
      go_simp
      refine haw.out.mono ?_; rintro e w22 ⟨rfl, hb22⟩; have HB8 := Lib.hid (HB7.out.trans (hb22.mono HB7.out.size)); clear hb22
      refine hK _ _ ?_
      clear hK K
      refine wpAny_take (i := 20) (v := ?v20) rfl (by kernel_rfl) (by kernel_rfl) (by kernel_rfl) (fun _ _ _ h => h) (Or.inl ⟨by kernel_rfl, ?h20⟩) ?r20
      case h20 => (intro w; go_simp; try with_reducible rfl)
      refine wpAny_take (i := 21) (v := ?v21) rfl (by kernel_rfl) (by kernel_rfl) (by kernel_rfl) (fun _ _ _ h => h) (Or.inl ⟨by kernel_rfl, ?h21⟩) ?r21
      case h21 => (intro w; go_simp; try with_reducible rfl)
      refine wpAny_done (by kernel_rfl) ?_ _
      all_goals
        go_wp2_with fail
        go_meet
        exact ⟨rfl, HB8.out⟩
    case rest =>
      obtain ⟨rfl, hb⟩ := hcut
      have HBB := Lib.hid hb
      clear hb
      go_wp2
      go_ret
      exact ⟨rfl, HBB.out⟩

theorem law_finds (ds : List (List UInt8)) (v : Value) (p : List UInt8) (pv : Value) (most : Int) (w : World) (hd : DocsR w v ds) (hp : SlR byV w pv p) (hG : GL w) :
    Calls Try.prog 5 #[v, pv, .int .i64 most] w fun e w' => e = .returned (.bool true) ∧ Below w.heap.size w w' := by
  have haw := Lib.hid (law_awake w hG)
  have hcut : ∀ x : Bool, (fewB ds = x) → ¬ (x = true ∧ p.length ≤ 200) → Calls Try.prog 5 #[v, pv, .int .i64 most] w fun e w' => e = .returned (.bool true) ∧ Below w.heap.size w w' := by
    intro x hx hno
    have hfew : Hid (Calls Try.prog 20 #[v] w fun e w' => e = .returned (.bool x) ∧ w' = w) := Lib.hid (by have := law_few ds v w hd; rwa [hx] at this)
    obtain ⟨A, ca, rfl, -⟩ := hd.form
    obtain ⟨B, cb, rfl, h3, h4, -⟩ := hp.form
    have hL : p.length ≤ 9223372036854775807 := by omega
    clear hd hp hG hx h3 h4
    generalize p.length = n at *
    cases x with
    | false =>
      go_enter Try.func5, Try.ntmps5
      go_wp2_with (first
        | (go_at_call 20; go_must (refine hfew.out.mono ?_; rintro e w6 ⟨rfl, rfl⟩))
        | (go_at_call 21; go_must (refine haw.out.mono ?_; rintro e w6 ⟨rfl, hb6⟩; have HB6 := Lib.hid hb6; clear hb6)))
      go_ret
      exact ⟨rfl, HB6.out⟩
    | true =>
      have h200 : 200 < n := by simp at hno; omega
      go_enter Try.func5, Try.ntmps5
      go_wp2_with (first
        | (go_at_call 20; go_must (refine hfew.out.mono ?_; rintro e w6 ⟨rfl, rfl⟩))
        | (go_at_call 21; go_must (refine haw.out.mono ?_; rintro e w6 ⟨rfl, hb6⟩; have HB6 := Lib.hid hb6; clear hb6)))
      go_ret
      exact ⟨rfl, HB6.out⟩
  by_cases h : fewB ds = true ∧ p.length ≤ 200
  · exact law_finds_few ds v p pv most w hd hp hG h.1 h.2
  · exact hcut _ rfl h
end Go.Proofs.Ytinlmodkdjpocaa
