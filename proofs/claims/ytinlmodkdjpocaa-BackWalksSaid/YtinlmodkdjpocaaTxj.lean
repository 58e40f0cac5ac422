/- text: the law TextSyms. -/
import Derived.Test.YtinlmodkdjpocaaTxi
set_option linter.unusedVariables false
namespace Go.Proofs.Ytinlmodkdjpocaa
open Go.RowKit Go.Shelf

theorem rowLen_eq (ds : List (List UInt8)) : (rowOf ds).length = sumLen ds + ds.length := by
  induction ds with
  | nil => rfl
  | cons d ds ih =>
    simp only [rowOf, List.flatMap_cons, List.length_append, symsOf_length, sumLen, List.map_cons, List.sum_cons, List.length_cons] at ih ⊢
    omega
theorem few_facts {ds : List (List UInt8)} (h : fewB ds = true) : ds.length ≤ 40 ∧ (∀ d ∈ ds, d.length ≤ 2000) ∧ sumLen ds ≤ 3000 ∧ (rowOf ds).length ≤ 3040 ∧ mayE ds = 0 := by
  unfold fewB at h
  simp only [Bool.and_eq_true, decide_eq_true_eq, List.all_eq_true] at h
  obtain ⟨⟨h1, h2⟩, h3⟩ := h
  have h4 : ∀ d ∈ ds, d.length ≤ 2000 := fun d hd => h1 d (by rw [List.take_of_length_le (by omega)]; exact hd)
  have h5 := rowLen_eq ds
  refine ⟨h2, h4, h3, by omega, ?_⟩
  unfold mayE
  rw [if_neg (by omega), if_neg (fun ⟨d, hd, hl⟩ => by have := h4 d hd; omega), if_neg (by omega)]

theorem TextR.drew {w : World} {b : Nat} {ds : List (List UInt8)} (h : TextR w b ds) (q : Nat) : TextR (w.drewN q) b ds := h.below (Nat.le_refl _) (below_drewN (Below.refl _ _) q)
theorem DocsR.drew {w : World} {v : Value} {ds : List (List UInt8)} (h : DocsR w v ds) (q : Nat) : DocsR (w.drewN q) v ds := h.below (Nat.le_refl _) (below_drewN (Below.refl _ _) q)
theorem GL.drew {w : World} (h : GL w) (q : Nat) : GL (w.drewN q) := h.below (below_drewN (Below.refl _ _) q)
theorem symAt_nat (b : Nat) (ds : List (List UInt8)) (i : Nat) (x : Int) (w : World) (h : TextR w b ds) (hx : symAt (rowOf ds) (i : Int) = x) :
    Calls Try.prog 23 #[.pointer (some ⟨b, 0, none⟩), .int .i64 (i : Nat)] w fun e w' => e = .returned (.int .i64 x) ∧ w' = w := by
  rw [← hx]; exact text_sym b ds i w h

theorem few_no (ds : List (List UInt8)) (v : Value) (w : World) (hd : DocsR w v ds) (hf : fewB ds = false) :
    Calls Try.prog 20 #[v] w fun e w' => e = .returned (.bool false) ∧ w' = w := by
  have := law_few ds v w hd; rwa [hf] at this
theorem few_yes (ds : List (List UInt8)) (v : Value) (w : World) (hd : DocsR w v ds) (hf : fewB ds = true) :
    Calls Try.prog 20 #[v] w fun e w' => e = .returned (.bool true) ∧ w' = w := by
  have := law_few ds v w hd; rwa [hf] at this
theorem new_ok (ds : List (List UInt8)) (v : Value) (w : World) (hd : DocsR w v ds) (hf : fewB ds = true) :
    Calls Try.prog 22 #[v] w fun e w' => Below w.heap.size w w' ∧ ∃ b, w.heap.size ≤ b ∧ e = .returned (.tuple #[.pointer (some ⟨b, 0, none⟩), .int .i64 0]) ∧ TextR w' b ds := by
  refine (text_new ds v w hd).mono ?_
  rintro e w' ⟨h1, h2⟩
  refine ⟨h1, ?_⟩
  rcases h2 with ⟨h, -⟩ | ⟨-, h⟩
  · exact absurd (few_facts hf).2.2.2.2 h
  · exact h

set_option maxRecDepth 100000 in
set_option maxHeartbeats 2000000 in
theorem law_syms_few (ds : List (List UInt8)) (v : Value) (w : World) (hd : DocsR w v ds) (hG : GL w) (hf : fewB ds = true) :
    Calls Try.prog 3 #[v] w fun e w' => e = .returned (.bool true) ∧ Below w.heap.size w w' := by
  obtain ⟨hf1, hf2, hf3, hf4, -⟩ := few_facts hf
  have hfew := Lib.hid (few_yes ds v w hd hf)
  have hnew := Lib.hid (new_ok ds v w hd hf)
  obtain ⟨A, c, rfl, h1, h2, -⟩ := hd.form
  have HD := Lib.hid hd
  have HG := Lib.hid hG
  clear hd hG hf hf2 hf3
  go_enter Try.func3, Try.ntmps3
  go_wp2_with (first
    | (go_at_call 20; go_must (refine hfew.out.mono ?_; rintro e w6 ⟨rfl, rfl⟩))
    | (go_at_call 22; go_must (refine hnew.out.mono ?_; rintro e w1 ⟨hb1, b, hb, rfl, ht⟩; have HB := Lib.hid hb1; have HT := Lib.hid ht; clear hb1 hb ht)))
  clear hfew hnew
  have HD1 := Lib.hid (HD.out.below (Nat.le_refl _) HB.out)
  have HG1 := Lib.hid (HG.out.below HB.out)
  clear HD HG
  go_loopw [5, 6] (fun nv iv wr => ∃ i : Nat, i ≤ ds.length ∧ iv = .int .i64 i ∧ nv = .int .i64 (startAt ds i : Nat) ∧ ∃ q, wr = w1.drewN q) (fun _ iv _ => ds.length - (intOf iv).toNat)
  case atStart => exact ⟨0, Nat.zero_le _, rfl, rfl, 0, rfl⟩
  case round =>
    obtain ⟨i, hi, rfl, rfl, q, rfl⟩ := hrel
    by_cases hlt : i < ds.length
    · have hbnd := startAt_le ds (i + 1) (by omega)
      have HS := Lib.hid (startAt_succ ds i hlt)
      have hend := Lib.hid (row_end ds i hlt)
      have hbnd2 : startAt ds i + (ds[i].length + 1) ≤ 3040 := by have := HS.out; omega
      have HDi := Lib.hid (HD1.out.at_ i hlt)
      clear hbnd
      go_wp2
      go_loopw [5, 7] (fun nv kv wr => ∃ k : Nat, k ≤ ds[i].length ∧ kv = .int .i64 k ∧ nv = .int .i64 (startAt ds i + k : Nat) ∧ ∃ q, wr = w1.drewN q) (fun _ kv _ => ds[i].length - (intOf kv).toNat)
      case atStart => exact ⟨0, Nat.zero_le _, rfl, rfl, q, rfl⟩
      case round =>
        obtain ⟨k, hk, rfl, rfl, q, rfl⟩ := hrel
        obtain ⟨ad, B, c', rfl, hc, hs⟩ := HDi.out
        by_cases hlk : k < ds[i].length
        · obtain ⟨ad2, rfl, hc2⟩ := hs.at_ k hlk
          have hc3 : w1.cell? (ad2.add k) = some (.int .u8 ((ds[i][k].toNat : Nat) : Int)) := hc2
          have hrs := row_sym ds i hlt k hlk
          have hx : ds[i][k].toNat < 256 := ds[i][k].toNat_lt
          generalize ds[i][k].toNat = x at *
          obtain ⟨W, hW⟩ : ∃ W, w1.drewN q = W := ⟨_, rfl⟩
          rw [hW]
          have hcW : W.cell? (ad.add i) = some (.slice (some ad2) ds[i].length c') := by rw [← hW]; exact hc
          have hcW2 : W.cell? (ad2.add k) = some (.int .u8 ((x : Nat) : Int)) := by rw [← hW]; exact hc3
          have HTW : TextR W b ds := by rw [← hW]; exact HT.out.drew q
          have HSY := Lib.hid (fun n => symAt_nat b ds _ _ _ (HTW.drew n) hrs)
          have HW := Lib.hid hW
          clear hs hc hc2 hc3 hrs HD1 HG1 HS hend HTW hW
          generalize hN : startAt ds i + k = N at *
          have hN' : N ≤ 3040 := by omega
          have HN := Lib.hid hN
          clear hN
          go_wp2
          go_quiet ((go_at_call 23; exact Calls.quiet_of_same (HSY.out _)))
          go_wp2
          go_roundw
          case rel => exact ⟨k + 1, by omega, by go_num, by rw [← Nat.add_assoc, HN.out]; go_num, _, by rw [← HW.out]; exact World.drewN_drewN _ _ _⟩
          case measure => simp [intOf]; omega
        · have hk' : k = ds[i].length := by omega
          subst hk'
          have hsym := Lib.hid (symAt_nat b ds _ _ _ (HT.out.drew q) hend.out)
          have HSS := Lib.hid HS.out
          clear hs HD1 HG1 hend HS
          generalize hS : startAt ds i = S at *
          clear hS
          go_wp2_with (go_at_call 23; go_must (refine hsym.out.mono ?_; rintro e w6 ⟨rfl, rfl⟩))
          go_roundw
          case rel => exact ⟨i + 1, by omega, by go_num, by rw [HSS.out]; go_num, q, rfl⟩
          case measure => simp [intOf]; omega
    · have hi' : i = ds.length := by omega
      subst hi'
      have hend : startAt ds ds.length = (rowOf ds).length := by unfold startAt; rw [List.take_length]
      rw [hend]
      have hlen := Lib.hid (text_len b ds (w1.drewN q) (HT.out.drew q))
      have E1 := Lib.hid (symAt_past (row := rowOf ds) (Nat.le_refl _))
      have E2 := Lib.hid (symAt_neg (row := rowOf ds) (i := -1) (by decide))
      have HT9 := Lib.hid (HT.out.drew q)
      have haw := Lib.hid (law_awake (w1.drewN q) (HG1.out.drew q))
      have hbq := Lib.hid (below_drewN HB.out q)
      clear hend HD1 HG1
      generalize (rowOf ds).length = R at *
      generalize w1.drewN q = w9 at *
      go_wp2_with (first
        | (go_at_call 24; go_must (refine hlen.out.mono ?_; rintro e w6 ⟨rfl, rfl⟩))
        | (go_at_call 21; go_must (refine haw.out.mono ?_; rintro e w6 ⟨rfl, hb6⟩; have HB6 := Lib.hid hb6; clear hb6))
        | (go_at_call 23; go_must (refine (text_sym b ds _ _ HT9.out).mono ?_; rintro e w6 ⟨rfl, rfl⟩; first | rw [E1.out] | rw [E2.out])))
      go_ret
      exact ⟨rfl, hbq.out.trans (HB6.out.mono hbq.out.size)⟩

theorem law_syms (ds : List (List UInt8)) (v : Value) (w : World) (hd : DocsR w v ds) (hG : GL w) :
    Calls Try.prog 3 #[v] w fun e w' => e = .returned (.bool true) ∧ Below w.heap.size w w' := by
  cases hf : fewB ds with
  | true => exact law_syms_few ds v w hd hG hf
  | false =>
    have hfew := Lib.hid (few_no ds v w hd hf)
    have haw := Lib.hid (law_awake w hG)
    obtain ⟨A, c, rfl, -⟩ := hd.form
    clear hd hG hf
    go_enter Try.func3, Try.ntmps3
    go_wp2_with (first
      | (go_at_call 20; go_must (refine hfew.out.mono ?_; rintro e w6 ⟨rfl, rfl⟩))
      | (go_at_call 21; go_must (refine haw.out.mono ?_; rintro e w6 ⟨rfl, hb6⟩; have HB6 := Lib.hid hb6; clear hb6)))
    go_ret
    exact ⟨rfl, HB6.out⟩
end Go.Proofs.Ytinlmodkdjpocaa
