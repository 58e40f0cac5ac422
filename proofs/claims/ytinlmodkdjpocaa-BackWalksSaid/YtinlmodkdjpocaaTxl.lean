/- text: the law TextNested. -/
import Derived.Test.YtinlmodkdjpocaaTxj
import Derived.Shelf.Bytes.SlSmallAll
set_option linter.unusedVariables false
namespace Go.Proofs.Ytinlmodkdjpocaa
open Go.RowKit Go.Shelf

theorem occ_length (p d : List UInt8) : (occ p d).length ≤ d.length + 1 := by
  unfold occ
  split
  · simp
  · unfold occF
    have := List.length_filter_le (Lib.occAt d p) (List.range' 0 (d.length + 1 - 0))
    simpa using this
theorem hitsF_length (p : List UInt8) (i : Nat) (ds : List (List UInt8)) : (hitsF p i ds).length ≤ (rowOf ds).length := by
  induction ds generalizing i with
  | nil => simp [hitsF]
  | cons d ds ih =>
    have h1 := occ_length p d
    have h2 := ih (i + 1)
    simp only [hitsF, rowOf, List.flatMap_cons, List.length_append, List.length_map, symsOf_length] at h2 ⊢
    omega
theorem hits_length (p : List UInt8) (ds : List (List UInt8)) : (hits p ds).length ≤ (rowOf ds).length := hitsF_length p 0 ds

theorem occAt_prefix {p q d : List UInt8} (h : q <+: p) (i : Nat) (ho : Lib.occAt d p i = true) : Lib.occAt d q i = true := by
  unfold Lib.occAt at *
  exact List.isPrefixOf_iff_prefix.2 (h.trans (List.isPrefixOf_iff_prefix.1 ho))
theorem occ_sub {p q : List UInt8} (hq : q ≠ []) (h : q <+: p) (d : List UInt8) : (occ p d).Sublist (occ q d) := by
  have hp : p ≠ [] := fun e => by subst e; exact hq (List.prefix_nil.1 h)
  unfold occ
  rw [if_neg hp, if_neg hq]
  unfold occF
  have : (List.range' 0 (d.length + 1 - 0)).filter (Lib.occAt d p) = ((List.range' 0 (d.length + 1 - 0)).filter (Lib.occAt d q)).filter (Lib.occAt d p) := by
    rw [List.filter_filter]
    apply List.filter_congr
    intro x _
    cases hx : Lib.occAt d p x with
    | false => simp
    | true => simp [occAt_prefix h x hx]
  rw [this]
  exact List.filter_sublist
theorem hitsF_sub {p q : List UInt8} (hq : q ≠ []) (h : q <+: p) (i : Nat) (ds : List (List UInt8)) : (hitsF p i ds).Sublist (hitsF q i ds) := by
  induction ds generalizing i with
  | nil => exact List.Sublist.refl _
  | cons d ds ih => exact ((occ_sub hq h d).map _).append (ih (i + 1))
theorem hits_sub {p q : List UInt8} (hq : q ≠ []) (h : q <+: p) (ds : List (List UInt8)) : (hits p ds).Sublist (hits q ds) := hitsF_sub hq h 0 ds

/-- 'string(b)' -/
theorem conv_back (W : World) (v : Value) (p : List UInt8) (h : SlR byV W v p) : (convert 29 9 v).run Try.prog W = .ok (strV p) W := by
  obtain ⟨A, c, rfl, h1, h2, h3⟩ := h.form
  by_cases h0 : p = []
  · subst h0
    exact run_convert_bytes_zero (P := Try.prog) W 29 5 Try.underlying29 Try.underlying5 A c 9 Try.underlying9
  · obtain ⟨ad, rfl, hc⟩ := h3 0 (List.length_pos_iff.2 h0)
    have hsp := cell_spot hc
    have hsp' : ad = ⟨ad.block, ad.off, none⟩ := hsp
    have := Lib.run_convert_whole (P := Try.prog) W 29 5 9 Try.underlying29 Try.underlying5 Try.underlying9 ad.block ad.off ⟨p.toArray⟩ (fun i hi => by
      have hi' : i < p.length := by simpa [ByteArray.size] using hi
      obtain ⟨ad', e, hc'⟩ := h3 i hi'
      cases e
      rw [← add_spot, ← hsp', hc']
      rfl) c
    rw [← hsp'] at this
    have hsz : (⟨p.toArray⟩ : ByteArray).size = p.length := by simp [ByteArray.size]
    rw [hsz] at this
    exact this

theorem SlR.take {α : Type} {enc : α → Value} {w : World} {A : Option Addr} {n c : Nat} {xs : List α} (h : SlR enc w (.slice A n c) xs) (m : Nat) (hm : m ≤ n) : SlR enc w (.slice A m c) (xs.take m) := by
  obtain ⟨A', c', he, h1, h2, h3⟩ := h
  injection he with e1 e2 e3
  subst e1; subst e2; subst e3
  have hl : (xs.take m).length = m := by rw [List.length_take]; omega
  refine ⟨_, _, by rw [hl], by rw [hl]; omega, h2, ?_⟩
  rcases h3 with h3 | ⟨ad, h3, hc⟩
  · left; rw [h3]; simp
  · subst h3
    right
    refine ⟨_, rfl, fun j hj => ?_⟩
    rw [hl] at hj
    rw [hc j (by omega)]
    simp

theorem below_undrewN {w w' : World} {q : Nat} (h : Below (w.drewN q).heap.size (w.drewN q) w') : Below w.heap.size w w' := (below_drewN (Below.refl _ _) q).trans h
theorem HitsR.drew {w : World} {v : Value} {hs : List (Nat × Nat)} (h : HitsR w v hs) (q : Nat) : HitsR (w.drewN q) v hs := h.later (below_drewN (Below.refl _ _) q)

/-- Find at a bound that is beyond all hits -/
theorem find_all (b : Nat) (ds : List (List UInt8)) (p : List UInt8) (w : World) (ht : TextR w b ds) (hG : GL w) (hf : fewB ds = true) (hpl : p.length ≤ 1000) :
    Calls Try.prog 25 #[.pointer (some ⟨b, 0, none⟩), strV p, .int .i64 100000] w fun e w' => ∃ v, e = .returned v ∧ HitsR w' v (hits p ds) ∧ Below w.heap.size w w' := by
  obtain ⟨h1, h2, h3, h4, -⟩ := few_facts hf
  have hl := hits_length p ds
  have := law_find b ds p 100000 w ht hG (fun d hd => by have := h2 d hd; omega) (by omega) (by omega)
  rwa [List.take_of_length_le (by have : (100000 : Int).toNat = 100000 := rfl; omega)] at this

theorem add_str (p q : List UInt8) (h : p.length + q.length ≤ 1000000) (W : World) : (binOp .add 9 (strV p) (strV q)).run Try.prog W = .ok (strV (p ++ q)) W := by
  simp only [strV, go_sem]
  rw [if_neg (by simp; omega)]
  congr 2

set_option maxRecDepth 100000 in
set_option maxHeartbeats 2000000 in
theorem law_nested_few (ds : List (List UInt8)) (v : Value) (p : List UInt8) (pv : Value) (c : UInt8) (w : World) (hd : DocsR w v ds) (hp : SlR byV w pv p) (hG : GL w) (hf : fewB ds = true) (hp1 : 0 < p.length) (hp2 : p.length ≤ 60) :
    Calls Try.prog 4 #[v, pv, byV c] w fun e w' => e = .returned (.bool true) ∧ Below w.heap.size w w' := by
  have hfew := Lib.hid (few_yes ds v w hd hf)
  have hnew := Lib.hid (new_ok ds v w hd hf)
  obtain ⟨A, ca, rfl, h1, h2, -⟩ := hd.form
  obtain ⟨B, cb, rfl, h3, h4, h5⟩ := hp.form
  obtain ⟨ad, rfl, -⟩ := h5 0 hp1
  have HF := Lib.hid hf
  have HG := Lib.hid hG
  have HP := Lib.hid hp
  obtain ⟨m, hm⟩ : ∃ m, m = (p.length + 1) / 2 := ⟨_, rfl⟩
  have hm1 : m ≤ p.length := by omega
  have hm2 : 0 < m := by omega
  have hmq : ((p.length : Int) + 1).tdiv 2 = (m : Nat) := by have e := Int.tdiv_eq_ediv_of_nonneg (a := (p.length : Int) + 1) (b := 2) (by omega); rw [e]; omega
  have HN : Hid (p ≠ []) := Lib.hid (List.length_pos_iff.1 hp1)
  have HS1 := Lib.hid (hits_sub HN.out (List.prefix_append p [c]) ds)
  have HS2 : Hid ((hits p ds).Sublist (hits (p.take m) ds)) := Lib.hid (hits_sub (by intro e; have := congrArg List.length e; simp only [List.length_take, List.length_nil] at this; omega) (List.take_prefix m p) ds)
  have hadd := add_str p [c] (by simp; omega)
  clear hd hG hf h5 hp hm
  have hp0 : ¬ p = [] := HN.out
  have hp00 : ((p.length : Int) == 0) = false := by simp; exact hp0
  unfold byV
  go_enter Try.func4, Try.ntmps4
  go_wp2_with (first
    | (go_at_call 20; go_must (refine hfew.out.mono ?_; rintro e w6 ⟨rfl, rfl⟩))
    | (go_at_call 22; go_must (refine hnew.out.mono ?_; rintro e w1 ⟨hb1, b, hb, rfl, ht⟩; have HB := Lib.hid hb1; have HT := Lib.hid ht; have hcv1 := conv_back w1 _ p (HP.out.later hb1); clear hb1 hb ht)))
  refine (find_all b ds p w1 HT.out (HG.out.below HB.out) HF.out (by omega)).mono ?_
  rintro e w2 ⟨va, rfl, hha, hba⟩
  have HHA := Lib.hid hha
  have HB2 := Lib.hid hba
  have HP2 := Lib.hid ((HP.out.later HB.out).later hba)
  have hcv2 := conv_back w2 _ p HP2.out
  have hcvc : (convert 29 9 (.slice (some ⟨w2.heap.size, 0, none⟩) 1 1)).run Try.prog (w2.alloc (.cells #[.int .u8 ((c.toNat : Nat) : Int)] 5)) = .ok (strV [c]) (w2.alloc (.cells #[.int .u8 ((c.toNat : Nat) : Int)] 5)) := by
    refine conv_back _ _ [c] ⟨_, _, rfl, Nat.le_refl 1, (by decide : 1 ≤ 9223372036854775807), .inr ⟨_, rfl, fun j hj => ?_⟩⟩
    match j, hj with
    | 0, _ => rw [add_spot]; simp only [World.cell?, heap_alloc_new]; rfl
  clear hha hba hcv1 hfew hnew
  have hb1 := HB.out
  have HT2 := HT.out.below (Nat.le_refl _) HB2.out
  have HG2 := (HG.out.below HB.out).below HB2.out
  have hba2 : Below w2.heap.size w2 (w2.alloc (.cells #[.int .u8 ((c.toNat : Nat) : Int)] 5)) := (Below.refl _ w2).alloc (Nat.le_refl _) _
  have hf2 := Lib.hid (find_all b ds (p ++ [c]) _ (HT2.below (Nat.le_refl _) hba2) (HG2.below hba2) HF.out (by simp; omega))
  have HBA := Lib.hid hba2
  have HTT := Lib.hid HT2
  have HGG := Lib.hid HG2
  clear HT2 HG2 hba2 hb1
  go_wp2_with fail
  refine hf2.out.mono ?_
  rintro e w3 ⟨vb, rfl, hhb, hbb⟩
  have hb23 : Below w2.heap.size w2 w3 := HBA.out.trans (hbb.mono HBA.out.size)
  have HHB := Lib.hid hhb
  have HA3 := Lib.hid (HHA.out.later hb23)
  have hcv3 := conv_back w3 _ (p.take m) ((HP2.out.later hb23).take m hm1)
  have hf3 := Lib.hid (find_all b ds (p.take m) w3 (HTT.out.below (Nat.le_refl _) hb23) (HGG.out.below hb23) HF.out (by simp; omega))
  have HG3 := Lib.hid (HGG.out.below hb23)
  have HB3 := Lib.hid (HB.out.trans ((HB2.out.mono HB.out.size).trans (hb23.mono (Nat.le_trans HB.out.size HB2.out.size))))
  clear hhb hbb hb23 hf2 HBA HTT HGG HHA HP2 hcv2 hcvc
  go_wp2_with fail
  refine hf3.out.mono ?_
  rintro e w4 ⟨vh, rfl, hhh, hbh⟩
  have hs1 := Lib.hid (law_subset vb va _ _ w4 (HHB.out.later hbh) (HA3.out.later hbh) HS1.out)
  have hs2 := Lib.hid (fun q => law_subset va vh _ _ (w4.drewN q) ((HA3.out.later hbh).drew q) (hhh.drew q) HS2.out)
  have haw := Lib.hid (fun q => law_awake (w4.drewN q) ((HG3.out.below hbh).drew q))
  have HB4 := Lib.hid (HB3.out.trans (hbh.mono HB3.out.size))
  clear hhh hbh hf3 HA3 HHB HG3 hcv3
  go_wp2_with fail
  refine hs1.out.mono ?_
  rintro e w5 ⟨rfl, q1, rfl⟩
  go_wp2_with fail
  refine (hs2.out q1).mono ?_
  rintro e w5 ⟨rfl, q2, rfl⟩
  go_wp2_with fail
  refine (haw.out (q1 + q2)).mono ?_
  rintro e w5 ⟨rfl, hb5⟩
  have HB5 := Lib.hid (HB4.out.trans ((below_undrewN hb5).mono HB4.out.size))
  clear hb5
  go_wp2
  go_ret
  exact ⟨rfl, HB5.out⟩

theorem law_nested (ds : List (List UInt8)) (v : Value) (p : List UInt8) (pv : Value) (c : UInt8) (w : World) (hd : DocsR w v ds) (hp : SlR byV w pv p) (hG : GL w) :
    Calls Try.prog 4 #[v, pv, byV c] w fun e w' => e = .returned (.bool true) ∧ Below w.heap.size w w' := by
  have haw := Lib.hid (law_awake w hG)
  have hcut : ∀ x : Bool, (fewB ds = x) → ¬ (x = true ∧ 0 < p.length ∧ p.length ≤ 60) → Calls Try.prog 4 #[v, pv, byV c] w fun e w' => e = .returned (.bool true) ∧ Below w.heap.size w w' := by
    intro x hx hno
    have hfew : Hid (Calls Try.prog 20 #[v] w fun e w' => e = .returned (.bool x) ∧ w' = w) := Lib.hid (by have := law_few ds v w hd; rwa [hx] at this)
    obtain ⟨A, ca, rfl, -⟩ := hd.form
    obtain ⟨B, cb, rfl, h3, h4, -⟩ := hp.form
    have hL : p.length ≤ 9223372036854775807 := by omega
    clear hd hp hG hx h3 h4
    generalize p.length = n at *
    unfold byV
    cases x with
    | false =>
      go_enter Try.func4, Try.ntmps4
      go_wp2_with (first
        | (go_at_call 20; go_must (refine hfew.out.mono ?_; rintro e w6 ⟨rfl, rfl⟩))
        | (go_at_call 21; go_must (refine haw.out.mono ?_; rintro e w6 ⟨rfl, hb6⟩; have HB6 := Lib.hid hb6; clear hb6)))
      go_ret
      exact ⟨rfl, HB6.out⟩
    | true =>
      by_cases h0 : n = 0
      · subst h0
        go_enter Try.func4, Try.ntmps4
        go_wp2_with (first
          | (go_at_call 20; go_must (refine hfew.out.mono ?_; rintro e w6 ⟨rfl, rfl⟩))
          | (go_at_call 21; go_must (refine haw.out.mono ?_; rintro e w6 ⟨rfl, hb6⟩; have HB6 := Lib.hid hb6; clear hb6)))
        go_ret
        exact ⟨rfl, HB6.out⟩
      · have h60 : 60 < n := by simp at hno; omega
        have hn0 : ((n : Int) == 0) = false := by simp; omega
        go_enter Try.func4, Try.ntmps4
        go_wp2_with (first
          | (go_at_call 20; go_must (refine hfew.out.mono ?_; rintro e w6 ⟨rfl, rfl⟩))
          | (go_at_call 21; go_must (refine haw.out.mono ?_; rintro e w6 ⟨rfl, hb6⟩; have HB6 := Lib.hid hb6; clear hb6)))
        go_ret
        exact ⟨rfl, HB6.out⟩
  by_cases h : fewB ds = true ∧ 0 < p.length ∧ p.length ≤ 60
  · exact law_nested_few ds v p pv c w hd hp hG h.1 h.2.1 h.2.2
  · exact hcut _ rfl h
end Go.Proofs.Ytinlmodkdjpocaa
