/- text: the law TextSyms. text: the law TextNested. the document's answer: Strings, Find. -/
import Derived.Test.YtinlmodkdjpocaaTxz
import Derived.Shelf.Bytes.SlSmallAll
set_option linter.unusedVariables false
namespace Go.Proofs.Ytinlmodkdjpocaa
open Go.RowKit Go.Shelf

theorem rowLen_eq (ds : List (List UInt8)) : (rowOf ds).length = sumLen ds + ds.length := by
  induction ds with
  | nil => rfl
  | cons d ds ih =>
    simp only [rowOf, List.flatMap_cons, List.length_append, symsOf_length, sumLen, List.map_cons, List.sum_cons, List.length_cons] at ih ⊢
    omega
theorem few_facts {ds : List (List UInt8)} (h : fewB ds = true) : ds.length ≤ 40 ∧ (∀ d ∈ ds, d.length ≤ 2000) ∧ sumLen ds ≤ 3000 ∧ (rowOf ds).length ≤ 3040 ∧ mayE ds = 0 := by
  unfold fewB at h
  simp only [Bool.and_eq_true, decide_eq_true_eq, List.all_eq_true] at h
  obtain ⟨⟨h1, h2⟩, h3⟩ := h
  have h4 : ∀ d ∈ ds, d.length ≤ 2000 := fun d hd => h1 d (by rw [List.take_of_length_le (by omega)]; exact hd)
  have h5 := rowLen_eq ds
  refine ⟨h2, h4, h3, by omega, ?_⟩
  unfold mayE
  rw [if_neg (by omega), if_neg (fun ⟨d, hd, hl⟩ => by have := h4 d hd; omega), if_neg (by omega)]

theorem TextR.drew {w : World} {b : Nat} {ds : List (List UInt8)} (h : TextR w b ds) (q : Nat) : TextR (w.drewN q) b ds := h.below (Nat.le_refl _) (below_drewN (Below.refl _ _) q)
theorem DocsR.drew {w : World} {v : Value} {ds : List (List UInt8)} (h : DocsR w v ds) (q : Nat) : DocsR (w.drewN q) v ds := h.below (Nat.le_refl _) (below_drewN (Below.refl _ _) q)
theorem GL.drew {w : World} (h : GL w) (q : Nat) : GL (w.drewN q) := h.below (below_drewN (Below.refl _ _) q)
theorem symAt_nat (b : Nat) (ds : List (List UInt8)) (i : Nat) (x : Int) (w : World) (h : TextR w b ds) (hx : symAt (rowOf ds) (i : Int) = x) :
    Calls Try.prog 23 #[.pointer (some ⟨b, 0, none⟩), .int .i64 (i : Nat)] w fun e w' => e = .returned (.int .i64 x) ∧ w' = w := by
  rw [← hx]; exact text_sym b ds i w h

theorem few_no (ds : List (List UInt8)) (v : Value) (w : World) (hd : DocsR w v ds) (hf : fewB ds = false) :
    Calls Try.prog 20 #[v] w fun e w' => e = .returned (.bool false) ∧ w' = w := by
  have := law_few ds v w hd; rwa [hf] at this
theorem few_yes (ds : List (List UInt8)) (v : Value) (w : World) (hd : DocsR w v ds) (hf : fewB ds = true) :
    Calls Try.prog 20 #[v] w fun e w' => e = .returned (.bool true) ∧ w' = w := by
  have := law_few ds v w hd; rwa [hf] at this
theorem new_ok (ds : List (List UInt8)) (v : Value) (w : World) (hd : DocsR w v ds) (hf : fewB ds = true) :
    Calls Try.prog 22 #[v] w fun e w' => Below w.heap.size w w' ∧ ∃ b, w.heap.size ≤ b ∧ e = .returned (.tuple #[.pointer (some ⟨b, 0, none⟩), .int .i64 0]) ∧ TextR w' b ds := by
  refine (text_new ds v w hd).mono ?_
  rintro e w' ⟨h1, h2⟩
  refine ⟨h1, ?_⟩
  rcases h2 with ⟨h, -⟩ | ⟨-, h⟩
  · exact absurd (few_facts hf).2.2.2.2 h
  · exact h

set_option maxRecDepth 100000 in
set_option maxHeartbeats 2000000 in
theorem law_syms_few (ds : List (List UInt8)) (v : Value) (w : World) (hd : DocsR w v ds) (hG : GL w) (hf : fewB ds = true) :
    Calls Try.prog 3 #[v] w fun e w' => e = .returned (.bool true) ∧ Below w.heap.size w w' := by
  obtain ⟨hf1, hf2, hf3, hf4, -⟩ := few_facts hf
  have hfew := Lib.hid (few_yes ds v w hd hf)
  have hnew := Lib.hid (new_ok ds v w hd hf)
  obtain ⟨A, c, rfl, h1, h2, -⟩ := hd.form
  have HD := Lib.hid hd
  have HG := Lib.hid hG
  clear hd hG hf hf2 hf3
  go_enter Try.func3, Try.ntmps3
  go_wp2_with (first
    | (go_at_call 20; go_must (refine hfew.out.mono ?_; rintro e w6 ⟨rfl, rfl⟩))
    | (go_at_call 22; go_must (refine hnew.out.mono ?_; rintro e w1 ⟨hb1, b, hb, rfl, ht⟩; have HB := Lib.hid hb1; have HT := Lib.hid ht; clear hb1 hb ht)))
  clear hfew hnew
  have HD1 := Lib.hid (HD.out.below (Nat.le_refl _) HB.out)
  have HG1 := Lib.hid (HG.out.below HB.out)
  clear HD HG
  go_loopw [5, 6] (fun nv iv wr => ∃ i : Nat, i ≤ ds.length ∧ iv = .int .i64 i ∧ nv = .int .i64 (startAt ds i : Nat) ∧ ∃ q, wr = w1.drewN q) (fun _ iv _ => ds.length - (intOf iv).toNat)
  case atStart => exact ⟨0, Nat.zero_le _, rfl, rfl, 0, rfl⟩
  case round =>
    obtain ⟨i, hi, rfl, rfl, q, rfl⟩ := hrel
    by_cases hlt : i < ds.length
    · have hbnd := startAt_le ds (i + 1) (by omega)
      have HS := Lib.hid (startAt_succ ds i hlt)
      have hend := Lib.hid (row_end ds i hlt)
      have hbnd2 : startAt ds i + (ds[i].length + 1) ≤ 3040 := by have := HS.out; omega
      have HDi := Lib.hid (HD1.out.at_ i hlt)
      clear hbnd
      go_wp2
      go_loopw [5, 7] (fun nv kv wr => ∃ k : Nat, k ≤ ds[i].length ∧ kv = .int .i64 k ∧ nv = .int .i64 (startAt ds i + k : Nat) ∧ ∃ q, wr = w1.drewN q) (fun _ kv _ => ds[i].length - (intOf kv).toNat)
      case atStart => exact ⟨0, Nat.zero_le _, rfl, rfl, q, rfl⟩
      case round =>
        obtain ⟨k, hk, rfl, rfl, q, rfl⟩ := hrel
        obtain ⟨ad, B, c', rfl, hc, hs⟩ := HDi.out
        by_cases hlk : k < ds[i].length
        · obtain ⟨ad2, rfl, hc2⟩ := hs.at_ k hlk
          have hc3 : w1.cell? (ad2.add k) = some (.int .u8 ((ds[i][k].toNat : Nat) : Int)) := hc2
          have hrs := row_sym ds i hlt k hlk
          have hx : ds[i][k].toNat < 256 := ds[i][k].toNat_lt
          generalize ds[i][k].toNat = x at *
          obtain ⟨W, hW⟩ : ∃ W, w1.drewN q = W := ⟨_, rfl⟩
          rw [hW]
          have hcW : W.cell? (ad.add i) = some (.slice (some ad2) ds[i].length c') := by rw [← hW]; exact hc
          have hcW2 : W.cell? (ad2.add k) = some (.int .u8 ((x : Nat) : Int)) := by rw [← hW]; exact hc3
          have HTW : TextR W b ds := by rw [← hW]; exact HT.out.drew q
          have HSY := Lib.hid (fun n => symAt_nat b ds _ _ _ (HTW.drew n) hrs)
          have HW := Lib.hid hW
          clear hs hc hc2 hc3 hrs HD1 HG1 HS hend HTW hW
          generalize hN : startAt ds i + k = N at *
          have hN' : N ≤ 3040 := by omega
          have HN := Lib.hid hN
          clear hN
          go_wp2
          go_quiet ((go_at_call 23; exact Calls.quiet_of_same (HSY.out _)))
          go_wp2
          go_roundw
          case rel => exact ⟨k + 1, by omega, by go_num, by rw [← Nat.add_assoc, HN.out]; go_num, _, by rw [← HW.out]; exact World.drewN_drewN _ _ _⟩
          case measure => simp [intOf]; omega
        · have hk' : k = ds[i].length := by omega
          subst hk'
          have hsym := Lib.hid (symAt_nat b ds _ _ _ (HT.out.drew q) hend.out)
          have HSS := Lib.hid HS.out
          clear hs HD1 HG1 hend HS
          generalize hS : startAt ds i = S at *
          clear hS
          go_wp2_with (go_at_call 23; go_must (refine hsym.out.mono ?_; rintro e w6 ⟨rfl, rfl⟩))
          go_roundw
          case rel => exact ⟨i + 1, by omega, by go_num, by rw [HSS.out]; go_num, q, rfl⟩
          case measure => simp [intOf]; omega
    · have hi' : i = ds.length := by omega
      subst hi'
      have hend : startAt ds ds.length = (rowOf ds).length := by unfold startAt; rw [List.take_length]
      rw [hend]
      have hlen := Lib.hid (text_len b ds (w1.drewN q) (HT.out.drew q))
      have E1 := Lib.hid (symAt_past (row := rowOf ds) (Nat.le_refl _))
      have E2 := Lib.hid (symAt_neg (row := rowOf ds) (i := -1) (by decide))
      have HT9 := Lib.hid (HT.out.drew q)
      have haw := Lib.hid (law_awake (w1.drewN q) (HG1.out.drew q))
      have hbq := Lib.hid (below_drewN HB.out q)
      clear hend HD1 HG1
      generalize (rowOf ds).length = R at *
      generalize w1.drewN q = w9 at *
      go_wp2_with (first
        | (go_at_call 24; go_must (refine hlen.out.mono ?_; rintro e w6 ⟨rfl, rfl⟩))
        | (go_at_call 21; go_must (refine haw.out.mono ?_; rintro e w6 ⟨rfl, hb6⟩; have HB6 := Lib.hid hb6; clear hb6))
        | (go_at_call 23; go_must (refine (text_sym b ds _ _ HT9.out).mono ?_; rintro e w6 ⟨rfl, rfl⟩; first | rw [E1.out] | rw [E2.out])))
      go_ret
      exact ⟨rfl, hbq.out.trans (HB6.out.mono hbq.out.size)⟩

theorem law_syms (ds : List (List UInt8)) (v : Value) (w : World) (hd : DocsR w v ds) (hG : GL w) :
    Calls Try.prog 3 #[v] w fun e w' => e = .returned (.bool true) ∧ Below w.heap.size w w' := by
  cases hf : fewB ds with
  | true => exact law_syms_few ds v w hd hG hf
  | false =>
    have hfew := Lib.hid (few_no ds v w hd hf)
    have haw := Lib.hid (law_awake w hG)
    obtain ⟨A, c, rfl, -⟩ := hd.form
    clear hd hG hf
    go_enter Try.func3, Try.ntmps3
    go_wp2_with (first
      | (go_at_call 20; go_must (refine hfew.out.mono ?_; rintro e w6 ⟨rfl, rfl⟩))
      | (go_at_call 21; go_must (refine haw.out.mono ?_; rintro e w6 ⟨rfl, hb6⟩; have HB6 := Lib.hid hb6; clear hb6)))
    go_ret
    exact ⟨rfl, HB6.out⟩
end Go.Proofs.Ytinlmodkdjpocaa

set_option linter.unusedVariables false
namespace Go.Proofs.Ytinlmodkdjpocaa
open Go.RowKit Go.Shelf

theorem occ_length (p d : List UInt8) : (occ p d).length ≤ d.length + 1 := by
  unfold occ
  split
  · simp
  · unfold occF
    have := List.length_filter_le (Lib.occAt d p) (List.range' 0 (d.length + 1 - 0))
    simpa using this
theorem hitsF_length (p : List UInt8) (i : Nat) (ds : List (List UInt8)) : (hitsF p i ds).length ≤ (rowOf ds).length := by
  induction ds generalizing i with
  | nil => simp [hitsF]
  | cons d ds ih =>
    have h1 := occ_length p d
    have h2 := ih (i + 1)
    simp only [hitsF, rowOf, List.flatMap_cons, List.length_append, List.length_map, symsOf_length] at h2 ⊢
    omega
theorem hits_length (p : List UInt8) (ds : List (List UInt8)) : (hits p ds).length ≤ (rowOf ds).length := hitsF_length p 0 ds

theorem occAt_prefix {p q d : List UInt8} (h : q <+: p) (i : Nat) (ho : Lib.occAt d p i = true) : Lib.occAt d q i = true := by
  unfold Lib.occAt at *
  exact List.isPrefixOf_iff_prefix.2 (h.trans (List.isPrefixOf_iff_prefix.1 ho))
theorem occ_sub {p q : List UInt8} (hq : q ≠ []) (h : q <+: p) (d : List UInt8) : (occ p d).Sublist (occ q d) := by
  have hp : p ≠ [] := fun e => by subst e; exact hq (List.prefix_nil.1 h)
  unfold occ
  rw [if_neg hp, if_neg hq]
  unfold occF
  have : (List.range' 0 (d.length + 1 - 0)).filter (Lib.occAt d p) = ((List.range' 0 (d.length + 1 - 0)).filter (Lib.occAt d q)).filter (Lib.occAt d p) := by
    rw [List.filter_filter]
    apply List.filter_congr
    intro x _
    cases hx : Lib.occAt d p x with
    | false => simp
    | true => simp [occAt_prefix h x hx]
  rw [this]
  exact List.filter_sublist
theorem hitsF_sub {p q : List UInt8} (hq : q ≠ []) (h : q <+: p) (i : Nat) (ds : List (List UInt8)) : (hitsF p i ds).Sublist (hitsF q i ds) := by
  induction ds generalizing i with
  | nil => exact List.Sublist.refl _
  | cons d ds ih => exact ((occ_sub hq h d).map _).append (ih (i + 1))
theorem hits_sub {p q : List UInt8} (hq : q ≠ []) (h : q <+: p) (ds : List (List UInt8)) : (hits p ds).Sublist (hits q ds) := hitsF_sub hq h 0 ds

/-- 'string(b)' -/
theorem conv_back (W : World) (v : Value) (p : List UInt8) (h : SlR byV W v p) : (convert 29 9 v).run Try.prog W = .ok (strV p) W := by
  obtain ⟨A, c, rfl, h1, h2, h3⟩ := h.form
  by_cases h0 : p = []
  · subst h0
    exact run_convert_bytes_zero (P := Try.prog) W 29 5 Try.underlying29 Try.underlying5 A c 9 Try.underlying9
  · obtain ⟨ad, rfl, hc⟩ := h3 0 (List.length_pos_iff.2 h0)
    have hsp := cell_spot hc
    have hsp' : ad = ⟨ad.block, ad.off, none⟩ := hsp
    have := Lib.run_convert_whole (P := Try.prog) W 29 5 9 Try.underlying29 Try.underlying5 Try.underlying9 ad.block ad.off ⟨p.toArray⟩ (fun i hi => by
      have hi' : i < p.length := by simpa [ByteArray.size] using hi
      obtain ⟨ad', e, hc'⟩ := h3 i hi'
      cases e
      rw [← add_spot, ← hsp', hc']
      rfl) c
    rw [← hsp'] at this
    have hsz : (⟨p.toArray⟩ : ByteArray).size = p.length := by simp [ByteArray.size]
    rw [hsz] at this
    exact this

theorem SlR.take {α : Type} {enc : α → Value} {w : World} {A : Option Addr} {n c : Nat} {xs : List α} (h : SlR enc w (.slice A n c) xs) (m : Nat) (hm : m ≤ n) : SlR enc w (.slice A m c) (xs.take m) := by
  obtain ⟨A', c', he, h1, h2, h3⟩ := h
  injection he with e1 e2 e3
  subst e1; subst e2; subst e3
  have hl : (xs.take m).length = m := by rw [List.length_take]; omega
  refine ⟨_, _, by rw [hl], by rw [hl]; omega, h2, ?_⟩
  rcases h3 with h3 | ⟨ad, h3, hc⟩
  · left; rw [h3]; simp
  · subst h3
    right
    refine ⟨_, rfl, fun j hj => ?_⟩
    rw [hl] at hj
    rw [hc j (by omega)]
    simp

theorem below_undrewN {w w' : World} {q : Nat} (h : Below (w.drewN q).heap.size (w.drewN q) w') : Below w.heap.size w w' := (below_drewN (Below.refl _ _) q).trans h
theorem HitsR.drew {w : World} {v : Value} {hs : List (Nat × Nat)} (h : HitsR w v hs) (q : Nat) : HitsR (w.drewN q) v hs := h.later (below_drewN (Below.refl _ _) q)

/-- Find at a bound that is beyond all hits -/
theorem find_all (b : Nat) (ds : List (List UInt8)) (p : List UInt8) (w : World) (ht : TextR w b ds) (hG : GL w) (hf : fewB ds = true) (hpl : p.length ≤ 1000) :
    Calls Try.prog 25 #[.pointer (some ⟨b, 0, none⟩), strV p, .int .i64 100000] w fun e w' => ∃ v, e = .returned v ∧ HitsR w' v (hits p ds) ∧ Below w.heap.size w w' := by
  obtain ⟨h1, h2, h3, h4, -⟩ := few_facts hf
  have hl := hits_length p ds
  have := law_find b ds p 100000 w ht hG (fun d hd => by have := h2 d hd; omega) (by omega) (by omega)
  rwa [List.take_of_length_le (by have : (100000 : Int).toNat = 100000 := rfl; omega)] at this

theorem add_str (p q : List UInt8) (h : p.length + q.length ≤ 1000000) (W : World) : (binOp .add 9 (strV p) (strV q)).run Try.prog W = .ok (strV (p ++ q)) W := by
  simp only [strV, go_sem]
  rw [if_neg (by simp; omega)]
  congr 2

set_option maxRecDepth 100000 in
set_option maxHeartbeats 2000000 in
theorem law_nested_few (ds : List (List UInt8)) (v : Value) (p : List UInt8) (pv : Value) (c : UInt8) (w : World) (hd : DocsR w v ds) (hp : SlR byV w pv p) (hG : GL w) (hf : fewB ds = true) (hp1 : 0 < p.length) (hp2 : p.length ≤ 60) :
    Calls Try.prog 4 #[v, pv, byV c] w fun e w' => e = .returned (.bool true) ∧ Below w.heap.size w w' := by
  have hfew := Lib.hid (few_yes ds v w hd hf)
  have hnew := Lib.hid (new_ok ds v w hd hf)
  obtain ⟨A, ca, rfl, h1, h2, -⟩ := hd.form
  obtain ⟨B, cb, rfl, h3, h4, h5⟩ := hp.form
  obtain ⟨ad, rfl, -⟩ := h5 0 hp1
  have HF := Lib.hid hf
  have HG := Lib.hid hG
  have HP := Lib.hid hp
  obtain ⟨m, hm⟩ : ∃ m, m = (p.length + 1) / 2 := ⟨_, rfl⟩
  have hm1 : m ≤ p.length := by omega
  have hm2 : 0 < m := by omega
  have hmq : ((p.length : Int) + 1).tdiv 2 = (m : Nat) := by have e := Int.tdiv_eq_ediv_of_nonneg (a := (p.length : Int) + 1) (b := 2) (by omega); rw [e]; omega
  have HN : Hid (p ≠ []) := Lib.hid (List.length_pos_iff.1 hp1)
  have HS1 := Lib.hid (hits_sub HN.out (List.prefix_append p [c]) ds)
  have HS2 : Hid ((hits p ds).Sublist (hits (p.take m) ds)) := Lib.hid (hits_sub (by intro e; have := congrArg List.length e; simp only [List.length_take, List.length_nil] at this; omega) (List.take_prefix m p) ds)
  have hadd := add_str p [c] (by simp; omega)
  clear hd hG hf h5 hp hm
  have hp0 : ¬ p = [] := HN.out
  have hp00 : ((p.length : Int) == 0) = false := by simp; exact hp0
  unfold byV
  go_enter Try.func4, Try.ntmps4
  go_wp2_with (first
    | (go_at_call 20; go_must (refine hfew.out.mono ?_; rintro e w6 ⟨rfl, rfl⟩))
    | (go_at_call 22; go_must (refine hnew.out.mono ?_; rintro e w1 ⟨hb1, b, hb, rfl, ht⟩; have HB := Lib.hid hb1; have HT := Lib.hid ht; have hcv1 := conv_back w1 _ p (HP.out.later hb1); clear hb1 hb ht)))
  refine (find_all b ds p w1 HT.out (HG.out.below HB.out) HF.out (by omega)).mono ?_
  rintro e w2 ⟨va, rfl, hha, hba⟩
  have HHA := Lib.hid hha
  have HB2 := Lib.hid hba
  have HP2 := Lib.hid ((HP.out.later HB.out).later hba)
  have hcv2 := conv_back w2 _ p HP2.out
  have hcvc : (convert 29 9 (.slice (some ⟨w2.heap.size, 0, none⟩) 1 1)).run Try.prog (w2.alloc (.cells #[.int .u8 ((c.toNat : Nat) : Int)] 5)) = .ok (strV [c]) (w2.alloc (.cells #[.int .u8 ((c.toNat : Nat) : Int)] 5)) := by
    refine conv_back _ _ [c] ⟨_, _, rfl, Nat.le_refl 1, (by decide : 1 ≤ 9223372036854775807), .inr ⟨_, rfl, fun j hj => ?_⟩⟩
    match j, hj with
    | 0, _ => rw [add_spot]; simp only [World.cell?, heap_alloc_new]; rfl
  clear hha hba hcv1 hfew hnew
  have hb1 := HB.out
  have HT2 := HT.out.below (Nat.le_refl _) HB2.out
  have HG2 := (HG.out.below HB.out).below HB2.out
  have hba2 : Below w2.heap.size w2 (w2.alloc (.cells #[.int .u8 ((c.toNat : Nat) : Int)] 5)) := (Below.refl _ w2).alloc (Nat.le_refl _) _
  have hf2 := Lib.hid (find_all b ds (p ++ [c]) _ (HT2.below (Nat.le_refl _) hba2) (HG2.below hba2) HF.out (by simp; omega))
  have HBA := Lib.hid hba2
  have HTT := Lib.hid HT2
  have HGG := Lib.hid HG2
  clear HT2 HG2 hba2 hb1
  go_wp2_with fail
  refine hf2.out.mono ?_
  rintro e w3 ⟨vb, rfl, hhb, hbb⟩
  have hb23 : Below w2.heap.size w2 w3 := HBA.out.trans (hbb.mono HBA.out.size)
  have HHB := Lib.hid hhb
  have HA3 := Lib.hid (HHA.out.later hb23)
  have hcv3 := conv_back w3 _ (p.take m) ((HP2.out.later hb23).take m hm1)
  have hf3 := Lib.hid (find_all b ds (p.take m) w3 (HTT.out.below (Nat.le_refl _) hb23) (HGG.out.below hb23) HF.out (by simp; omega))
  have HG3 := Lib.hid (HGG.out.below hb23)
  have HB3 := Lib.hid (HB.out.trans ((HB2.out.mono HB.out.size).trans (hb23.mono (Nat.le_trans HB.out.size HB2.out.size))))
  clear hhb hbb hb23 hf2 HBA HTT HGG HHA HP2 hcv2 hcvc
  go_wp2_with fail
  refine hf3.out.mono ?_
  rintro e w4 ⟨vh, rfl, hhh, hbh⟩
  have hs1 := Lib.hid (law_subset vb va _ _ w4 (HHB.out.later hbh) (HA3.out.later hbh) HS1.out)
  have hs2 := Lib.hid (fun q => law_subset va vh _ _ (w4.drewN q) ((HA3.out.later hbh).drew q) (hhh.drew q) HS2.out)
  have haw := Lib.hid (fun q => law_awake (w4.drewN q) ((HG3.out.below hbh).drew q))
  have HB4 := Lib.hid (HB3.out.trans (hbh.mono HB3.out.size))
  clear hhh hbh hf3 HA3 HHB HG3 hcv3
  go_wp2_with fail
  refine hs1.out.mono ?_
  rintro e w5 ⟨rfl, q1, rfl⟩
  go_wp2_with fail
  refine (hs2.out q1).mono ?_
  rintro e w5 ⟨rfl, q2, rfl⟩
  go_wp2_with fail
  refine (haw.out (q1 + q2)).mono ?_
  rintro e w5 ⟨rfl, hb5⟩
  have HB5 := Lib.hid (HB4.out.trans ((below_undrewN hb5).mono HB4.out.size))
  clear hb5
  go_wp2
  go_ret
  exact ⟨rfl, HB5.out⟩

theorem law_nested (ds : List (List UInt8)) (v : Value) (p : List UInt8) (pv : Value) (c : UInt8) (w : World) (hd : DocsR w v ds) (hp : SlR byV w pv p) (hG : GL w) :
    Calls Try.prog 4 #[v, pv, byV c] w fun e w' => e = .returned (.bool true) ∧ Below w.heap.size w w' := by
  have haw := Lib.hid (law_awake w hG)
  have hcut : ∀ x : Bool, (fewB ds = x) → ¬ (x = true ∧ 0 < p.length ∧ p.length ≤ 60) → Calls Try.prog 4 #[v, pv, byV c] w fun e w' => e = .returned (.bool true) ∧ Below w.heap.size w w' := by
    intro x hx hno
    have hfew : Hid (Calls Try.prog 20 #[v] w fun e w' => e = .returned (.bool x) ∧ w' = w) := Lib.hid (by have := law_few ds v w hd; rwa [hx] at this)
    obtain ⟨A, ca, rfl, -⟩ := hd.form
    obtain ⟨B, cb, rfl, h3, h4, -⟩ := hp.form
    have hL : p.length ≤ 9223372036854775807 := by omega
    clear hd hp hG hx h3 h4
    generalize p.length = n at *
    unfold byV
    cases x with
    | false =>
      go_enter Try.func4, Try.ntmps4
      go_wp2_with (first
        | (go_at_call 20; go_must (refine hfew.out.mono ?_; rintro e w6 ⟨rfl, rfl⟩))
        | (go_at_call 21; go_must (refine haw.out.mono ?_; rintro e w6 ⟨rfl, hb6⟩; have HB6 := Lib.hid hb6; clear hb6)))
      go_ret
      exact ⟨rfl, HB6.out⟩
    | true =>
      by_cases h0 : n = 0
      · subst h0
        go_enter Try.func4, Try.ntmps4
        go_wp2_with (first
          | (go_at_call 20; go_must (refine hfew.out.mono ?_; rintro e w6 ⟨rfl, rfl⟩))
          | (go_at_call 21; go_must (refine haw.out.mono ?_; rintro e w6 ⟨rfl, hb6⟩; have HB6 := Lib.hid hb6; clear hb6)))
        go_ret
        exact ⟨rfl, HB6.out⟩
      · have h60 : 60 < n := by simp at hno; omega
        have hn0 : ((n : Int) == 0) = false := by simp; omega
        go_enter Try.func4, Try.ntmps4
        go_wp2_with (first
          | (go_at_call 20; go_must (refine hfew.out.mono ?_; rintro e w6 ⟨rfl, rfl⟩))
          | (go_at_call 21; go_must (refine haw.out.mono ?_; rintro e w6 ⟨rfl, hb6⟩; have HB6 := Lib.hid hb6; clear hb6)))
        go_ret
        exact ⟨rfl, HB6.out⟩
  by_cases h : fewB ds = true ∧ 0 < p.length ∧ p.length ≤ 60
  · exact law_nested_few ds v p pv c w hd hp hG h.1 h.2.1 h.2.2
  · exact hcut _ rfl h
end Go.Proofs.Ytinlmodkdjpocaa

set_option linter.unusedVariables false
namespace Go.Proofs.Ytinlmodkdjpocaa
open Go.RowKit Go.Shelf

theorem own_base {w : World} {base s n : Nat} {e : TypeId} {v : Value} {xs : List Value} (h : w.ownsRow base e s v n xs) {g : Nat} (hg : v.ownBlock = some g) : base ≤ g := by
  rcases h.2 with ⟨rfl, -⟩ | ⟨g', cap, cur, rfl, hb, -⟩
  · cases hg
  · cases hg; exact hb
theorem own_form {w : World} {base s n : Nat} {e : TypeId} {v : Value} {xs : List Value} (h : w.ownsRow base e s v n xs) : ∃ A c, v = .slice A n c := by
  rcases h.2 with ⟨rfl, h0⟩ | ⟨g, cap, cur, rfl, _⟩
  · exact ⟨none, 0, by rw [h0]⟩
  · exact ⟨_, _, rfl⟩
theorem info_str : (Try.prog.info? 9).map (fun i => (i.zero, i.size, i.bytes)) = some (some (.string ⟨#[]⟩), 1, 16) := by kernel_rfl

set_option maxRecDepth 100000 in
set_option maxHeartbeats 1000000 in
theorem ref_strings (ds : List (List UInt8)) (v : Value) (w : World) (hd : DocsR w v ds) (hb : ds.length ≤ 1000000) :
    Calls Try.prog 28 #[v] w fun e w' => ∃ v', e = .returned v' ∧ SlR strV w' v' ds ∧ Below w.heap.size w w' := by
  obtain ⟨A, c, rfl, h1, h2, -⟩ := hd.form
  have HD := Lib.hid hd
  clear hd
  go_enter Try.func28, Try.ntmps28
  go_wp2
  go_loopw [3, 4] (fun ov iv wr => ∃ k : Nat, k ≤ ds.length ∧ iv = .int .i64 k ∧ wr.ownsRow w.heap.size 9 1 ov k ((ds.take k).map strV) ∧ Below w.heap.size w wr) (fun _ iv _ => ds.length - (intOf iv).toNat)
  case atStart => exact ⟨0, Nat.zero_le _, rfl, World.ownsRow_nil _ _ _ _, Below.refl _ _⟩
  case round =>
    obtain ⟨k, hk, rfl, ho, hbe⟩ := hrel
    have hlen : (ds.take k).length = k := by simp; omega
    obtain ⟨Ao, co, rfl⟩ := own_form ho
    by_cases hlt : k < ds.length
    · obtain ⟨ad, B, c', rfl, hc, hs⟩ := HD.out.at_ k hlt
      have hcw : wr.cell? (ad.add k) = some (.slice B ds[k].length c') := (hbe.cell (World.block_lt_of_cell? w _ hc)).trans hc
      have hcv := conv_back wr _ _ (hs.later hbe)
      have HO := Lib.hid ho
      have HB := Lib.hid hbe
      have hsz := hbe.size
      have HT : Hid ((ds.take (k + 1)).map strV = (ds.take k).map strV ++ [strV ds[k]]) := Lib.hid (by rw [List.take_succ_eq_append_getElem hlt, List.map_append]; rfl)
      clear hs hc ho hbe
      simp only [strV] at hcv HT
      generalize (⟨ds[k].toArray⟩ : ByteArray) = X at *
      go_wp2_with (first
        | (at_builtin; refine wp_app w.heap.size 37 9 (.string ⟨#[]⟩) 1 16 (.tmp 11) (.tmp 17) rfl rfl Try.underlying37 info_str rfl (by decide) (by decide) (.slice Ao k co) k ((ds.take k).map strV) #[.string X] rfl rfl HO.out rfl (by intro u hu; simp at hu; subst hu; rfl) (by omega) hsz ?_; intro g cap w9 ho9 hg9 hat9 hgb9 hgl9 hgs9; have HO9 := Lib.hid ho9; have HG9 := Lib.hid hg9; clear ho9 hg9 hat9))
      go_roundw
      case rel => exact ⟨k + 1, by omega, by go_num, by rw [HT.out]; exact HO9.out, HB.out.grown HG9.out hsz (fun g hg => own_base HO.out hg)⟩
      case measure => simp [intOf]; omega
    · have hk' : k = ds.length := by omega
      subst hk'
      rw [List.take_length] at ho
      have HO := Lib.hid ho
      have HB := Lib.hid hbe
      clear ho hbe
      go_wp2
      go_ret
      exact ⟨_, rfl, SlR.of_own HO.out, HB.out⟩

/-- the hits that the document's Find has found so far: those of the first i documents, and those of the i-th before place k -/
def refAcc (p : List UInt8) (ds : List (List UInt8)) (i k : Nat) : List (Nat × Nat) := hits p (ds.take i) ++ ((List.range k).filter (Lib.occAt (ds.getD i []) p)).map fun a => (i, a)
theorem refAcc_zero (p : List UInt8) (ds : List (List UInt8)) (i : Nat) : refAcc p ds i 0 = hits p (ds.take i) := by simp [refAcc]
theorem refAcc_yes (p : List UInt8) (ds : List (List UInt8)) (i k : Nat) (h : Lib.occAt (ds.getD i []) p k = true) : refAcc p ds i (k + 1) = refAcc p ds i k ++ [(i, k)] := by
  simp only [refAcc, List.range_succ, List.filter_append, List.filter_cons, List.filter_nil, h, if_true, List.map_append, List.append_assoc]; simp
theorem refAcc_no (p : List UInt8) (ds : List (List UInt8)) (i k : Nat) (h : Lib.occAt (ds.getD i []) p k = false) : refAcc p ds i (k + 1) = refAcc p ds i k := by
  simp only [refAcc, List.range_succ, List.filter_append, List.filter_cons, List.filter_nil, h]; simp
theorem refAcc_done (p : List UInt8) (ds : List (List UInt8)) (i k : Nat) (hp : p ≠ []) (hi : i < ds.length) (hk : k ≤ ds[i].length + 1) (hd : ds[i].length < k + p.length) : refAcc p ds i k = refAcc p ds (i + 1) 0 := by
  rw [refAcc_zero, hits_take_succ p ds i hi, refAcc]
  have e : ds.getD i [] = ds[i] := by simp [List.getD, hi]
  rw [e, occ, if_neg hp, occF, List.range_eq_range']
  congr 2
  rw [show ds[i].length + 1 - 0 = k + (ds[i].length + 1 - k) from by omega, ← List.range'_append_1, List.filter_append]
  have h2 : (List.range' (0 + k) (ds[i].length + 1 - k)).filter (Lib.occAt ds[i] p) = [] := by
    rw [List.filter_eq_nil_iff]
    intro x hx hb
    rw [List.mem_range'_1] at hx
    have := occAt_len hb
    omega
  rw [h2, List.append_nil]
theorem refAcc_end (p : List UInt8) (ds : List (List UInt8)) : refAcc p ds ds.length 0 = hits p ds := by rw [refAcc_zero, List.take_length]
theorem hits_empty (ds : List (List UInt8)) : hits [] ds = [] := by
  have h : ∀ i (ds : List (List UInt8)), hitsF [] i ds = [] := by
    intro i ds
    induction ds generalizing i with
    | nil => rfl
    | cons d ds ih => simp [hitsF, occ, ih]
  exact h 0 ds
/-- at place k the text stands iff the piece there is it -/
theorem occAt_piece (d p : List UInt8) (k : Nat) (h : k + p.length ≤ d.length) : Lib.occAt d p k = decide ((d.drop k).take p.length = p) := by
  unfold Lib.occAt
  rw [Bool.eq_iff_iff, List.isPrefixOf_iff_prefix, decide_eq_true_eq]
  constructor
  · rintro ⟨t, ht⟩
    rw [← ht]; simp
  · intro h'
    have e := List.take_append_drop p.length (d.drop k)
    rw [h'] at e
    exact ⟨(d.drop k).drop p.length, e⟩

theorem str_piece (d p : List UInt8) (k : Nat) (h : k + p.length ≤ d.length) (W : World) :
    (Instr.slice 9 (.string ⟨d.toArray⟩) (some (.int .i64 (k : Nat))) (some (.int .i64 ((k : Int) + (p.length : Nat)))) none).run Try.prog W = .ok (.string ⟨((d.drop k).take p.length).toArray⟩) W := by
  have hsz : (⟨d.toArray⟩ : ByteArray).size = d.length := by simp [ByteArray.size]
  rw [run_slice_string W 9 ⟨d.toArray⟩ .i64 .i64 k ((k : Int) + (p.length : Nat)) Try.underlying9 (by omega) (by omega) (by rw [hsz]; omega)]
  rw [ByteArray.extract_mk, show ((k : Int) + (p.length : Nat)).toNat - (k : Int).toNat = p.length from by omega, Int.toNat_natCast]

set_option maxRecDepth 100000 in
set_option maxHeartbeats 1000000 in
/-- the document's Find: all hits, in order -/
theorem ref_find (ds : List (List UInt8)) (v : Value) (p : List UInt8) (w : World) (hd : SlR strV w v ds) (hb : (rowOf ds).length ≤ 1000000) (hp : p.length ≤ 1000000) :
    Calls Try.prog 27 #[v, strV p] w fun e w' => ∃ v', e = .returned v' ∧ HitsR w' v' (hits p ds) ∧ Below w.heap.size w w' := by
  have hbl : ds.length ≤ 1000000 := by have := rowLen_eq ds; omega
  have hone : ∀ i (h : i < ds.length), ds[i].length ≤ 1000000 := fun i h => by
    have h1 := startAt_le ds (i + 1) (by omega)
    rw [startAt_succ ds i h] at h1
    omega
  have hhl := hits_length p ds
  obtain ⟨A, c, rfl, h1, h2, -⟩ := hd.form
  have HD := Lib.hid hd
  have HON := Lib.hid hone
  clear hd hone
  by_cases hp0 : p = []
  · subst hp0
    rw [hits_empty]
    simp only [strV]
    go_enter Try.func27, Try.ntmps27
    go_wp2
    go_loop [5, 6] (fun ov iv => ov = .slice none 0 0 ∧ iv = .int .i64 0) (fun _ _ => 1)
    case atStart => exact ⟨rfl, rfl⟩
    case round =>
      obtain ⟨rfl, rfl⟩ := hrel
      go_wp2
      all_goals
        go_ret
        exact ⟨_, rfl, ⟨none, 0, rfl, Nat.le_refl 0, by omega, .inl rfl⟩, Below.refl _ _⟩
  have hplen : 0 < p.length := List.length_pos_iff.2 hp0
  have hpe : p.isEmpty = false := by simpa using hp0
  simp only [strV]
  go_enter Try.func27, Try.ntmps27
  go_wp2
  go_loopw [5, 6] (fun ov iv wr => ∃ i : Nat, i ≤ ds.length ∧ iv = .int .i64 i ∧ wr.ownsRow w.heap.size 77 2 ov (refAcc p ds i 0).length (flatH (refAcc p ds i 0)) ∧ Below w.heap.size w wr) (fun _ iv _ => ds.length - (intOf iv).toNat)
  case atStart => exact ⟨0, Nat.zero_le _, rfl, by rw [refAcc_zero]; exact World.ownsRow_nil _ _ _ _, Below.refl _ _⟩
  case round =>
    obtain ⟨i, hi, rfl, ho, hbe⟩ := hrel
    by_cases hlt : i < ds.length
    · have HO := Lib.hid ho
      have HB := Lib.hid hbe
      have hli := HON.out i hlt
      clear ho hbe
      obtain ⟨ad, rfl, hc⟩ := HD.out.at_ i hlt
      have hcw : wr.cell? (ad.add i) = some (.string ⟨ds[i].toArray⟩) := (HB.out.cell (World.block_lt_of_cell? w _ hc)).trans hc
      go_wp2
      go_loopw [5, 7] (fun ov kv wr => ∃ k : Nat, k ≤ ds[i].length + 1 ∧ kv = .int .i64 k ∧ wr.ownsRow w.heap.size 77 2 ov (refAcc p ds i k).length (flatH (refAcc p ds i k)) ∧ Below w.heap.size w wr) (fun _ kv _ => ds[i].length + 1 - (intOf kv).toNat)
      case atStart => exact ⟨0, Nat.zero_le _, rfl, HO.out, HB.out⟩
      case round =>
        clear HO HB hcw
        obtain ⟨k, hk, rfl, ho, hbe⟩ := hrel
        have hcw : wr.cell? (ad.add i) = some (.string ⟨ds[i].toArray⟩) := (hbe.cell (World.block_lt_of_cell? w _ hc)).trans hc
        obtain ⟨Ao, co, rfl⟩ := own_form ho
        have HO := Lib.hid ho
        have HB := Lib.hid hbe
        have hsz := hbe.size
        clear ho hbe
        have hgd : ds.getD i [] = ds[i] := by simp [List.getD, hlt]
        have HGD := Lib.hid hgd
        have hst := startAt_le ds (i + 1) (by omega)
        rw [startAt_succ ds i hlt] at hst
        have hacc : (refAcc p ds i k).length ≤ 1000000 := by
          have h1 := hits_length p (ds.take i)
          have h2 := List.length_filter_le (Lib.occAt (ds.getD i []) p) (List.range k)
          have h3 : (refAcc p ds i k).length = (hits p (ds.take i)).length + ((List.range k).filter (Lib.occAt (ds.getD i []) p)).length := by simp [refAcc]
          rw [List.length_range] at h2
          unfold startAt at hst
          omega
        clear hgd hst
        have hsd : (⟨ds[i].toArray⟩ : ByteArray).size = ds[i].length := by simp [ByteArray.size]
        by_cases hin : k + p.length ≤ ds[i].length
        · have hsl := fun W => str_piece ds[i] p k hin W
          have hpc := occAt_piece ds[i] p k hin
          cases hocc : Lib.occAt ds[i] p k with
          | true =>
            have HT : Hid (flatH (refAcc p ds i (k + 1)) = flatH (refAcc p ds i k) ++ [.int .i64 (i : Nat), .int .i64 (k : Nat)]) := Lib.hid (by rw [refAcc_yes p ds i k (by rw [HGD.out]; exact hocc), flatH_snoc]; rfl)
            have HL : Hid ((refAcc p ds i (k + 1)).length = (refAcc p ds i k).length + 1) := Lib.hid (by rw [refAcc_yes p ds i k (by rw [HGD.out]; exact hocc)]; simp)
            rw [hocc] at hpc
            have hcmp : (ds[i].drop k).take p.length = p := by simpa using hpc.symm
            rw [hcmp] at hsl
            clear hpc hcmp hocc
            generalize hR : (refAcc p ds i k).length = R at *
            have HR := Lib.hid hR
            clear hR
            go_wp2_with (first
              | (at_builtin; refine wp_app w.heap.size 32 77 (.agg #[.int .i64 0, .int .i64 0]) 2 16 (.tmp 42) (.tmp 46) rfl rfl Try.underlying32 info_hit rfl (by decide) (by decide) (.slice Ao R co) R (flatH (refAcc p ds i k)) #[.int .i64 (i : Nat), .int .i64 (k : Nat)] rfl rfl HO.out rfl (by intro u hu; simp at hu; rcases hu with rfl | rfl <;> rfl) (by omega) hsz ?_; intro g cap w9 ho9 hg9 hat9 hgb9 hgl9 hgs9; have HO9 := Lib.hid ho9; have HG9 := Lib.hid hg9; clear ho9 hg9 hat9))
            go_roundw
            case rel => exact ⟨k + 1, by omega, by go_num, by rw [HT.out, HL.out]; exact HO9.out, HB.out.grown HG9.out hsz (fun g hg => own_base HO.out hg)⟩
            case measure => simp [intOf]; omega
          | false =>
            have HT : Hid (refAcc p ds i (k + 1) = refAcc p ds i k) := Lib.hid (refAcc_no p ds i k (by rw [HGD.out]; exact hocc))
            rw [hocc] at hpc
            have hcmp : ¬ (ds[i].drop k).take p.length = p := by simpa using hpc.symm
            generalize hpce : (ds[i].drop k).take p.length = pc at *
            have hcmp2 : (pc == p) = false := by simpa using hcmp
            clear hpc hocc hpce
            generalize hR : (refAcc p ds i k).length = R at *
            have HR := Lib.hid hR
            clear hR
            go_wp2
            go_roundw
            case rel => exact ⟨k + 1, by omega, by go_num, by rw [HT.out, HR.out]; exact HO.out, HB.out⟩
            case measure => simp [intOf]; omega
        · have HT : Hid (refAcc p ds i k = refAcc p ds (i + 1) 0) := Lib.hid (refAcc_done p ds i k hp0 hlt hk (by omega))
          generalize hR : (refAcc p ds i k).length = R at *
          have HR := Lib.hid hR
          clear hR
          go_wp2
          go_roundw
          case rel => exact ⟨i + 1, by omega, by go_num, by rw [← HT.out, HR.out]; exact HO.out, HB.out⟩
          case measure => simp [intOf]; omega
    · have hi' : i = ds.length := by omega
      subst hi'
      rw [refAcc_end] at ho
      have HO := Lib.hid ho
      have HB := Lib.hid hbe
      clear ho hbe
      go_wp2
      go_ret
      exact ⟨_, rfl, HitsR.of_own HO.out, HB.out⟩
end Go.Proofs.Ytinlmodkdjpocaa
