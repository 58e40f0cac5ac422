/- text: the law TextPlaces. -/
import Derived.Test.YtinlmodkdjpocaaTxj
set_option linter.unusedVariables false
namespace Go.Proofs.Ytinlmodkdjpocaa
open Go.RowKit Go.Shelf

theorem place_start (b : Nat) (ds : List (List UInt8)) (d o : Nat) (w : World) (h : TextR w b ds) (hd : d < ds.length) (ho : o ≤ ds[d].length) (hbig : o ≤ 100000000) (hst : startAt ds d ≤ 100000000) :
    Calls Try.prog 30 #[.pointer (some ⟨b, 0, none⟩), .int .i64 d, .int .i64 o] w fun e w' => e = .returned (.tuple #[.int .i64 (startAt ds d + o : Nat), .bool true]) ∧ w' = w := by
  have hS : (startsOf ds)[d]'(by rw [startsOf_length]; exact hd) = startAt ds d := (List.getElem?_eq_some_iff.1 (startsOf_get ds d hd)).2
  have := text_place b ds d o w h hd ho hbig (by rw [hS]; exact hst)
  rwa [hS] at this

theorem text_at_past (b : Nat) (ds : List (List UInt8)) (n : Nat) (w : World) (h : TextR w b ds) (hn : (rowOf ds).length ≤ n) (hn2 : n ≤ 100000000) :
    Calls Try.prog 31 #[.pointer (some ⟨b, 0, none⟩), .int .i64 n] w fun e w' => e = .returned (.tuple #[.int .i64 0, .int .i64 0, .bool false]) ∧ w' = w := by
  obtain ⟨dv, av, rv, h0, h1, h2, hdd, ha, hr⟩ := h.cells
  obtain ⟨A, c, rfl, -⟩ := hr.form
  clear hdd ha hr h0 h1 h
  generalize (rowOf ds).length = R at *
  go_enter Try.func31, Try.ntmps31
  go_wp2
  go_ret3
  exact ⟨rfl, rfl⟩

set_option maxRecDepth 100000 in
set_option maxHeartbeats 2000000 in
theorem law_places_few (ds : List (List UInt8)) (v : Value) (w : World) (hd : DocsR w v ds) (hG : GL w) (hf : fewB ds = true) :
    Calls Try.prog 7 #[v] w fun e w' => e = .returned (.bool true) ∧ Below w.heap.size w w' := by
  obtain ⟨hf1, hf2, hf3, hf4, -⟩ := few_facts hf
  have hfew := Lib.hid (few_yes ds v w hd hf)
  have hnew := Lib.hid (new_ok ds v w hd hf)
  obtain ⟨A, c, rfl, h1, h2, -⟩ := hd.form
  have HD := Lib.hid hd
  have HG := Lib.hid hG
  clear hd hG hf hf2 hf3
  go_enter Try.func7, Try.ntmps7
  go_wp2_with (first
    | (go_at_call 20; go_must (refine hfew.out.mono ?_; rintro e w6 ⟨rfl, rfl⟩))
    | (go_at_call 22; go_must (refine hnew.out.mono ?_; rintro e w1 ⟨hb1, b, hb, rfl, ht⟩; have HB := Lib.hid hb1; have HT := Lib.hid ht; clear hb1 hb ht)))
  clear hfew hnew
  have HD1 := Lib.hid (HD.out.below (Nat.le_refl _) HB.out)
  have HG1 := Lib.hid (HG.out.below HB.out)
  clear HD HG
  go_loopw [5, 6] (fun nv iv wr => ∃ i : Nat, i ≤ ds.length ∧ iv = .int .i64 i ∧ nv = .int .i64 (startAt ds i : Nat) ∧ ∃ q, wr = w1.drewN q) (fun _ iv _ => ds.length - (intOf iv).toNat)
  case atStart => exact ⟨0, Nat.zero_le _, rfl, rfl, 0, rfl⟩
  case round =>
    obtain ⟨i, hi, rfl, rfl, q, rfl⟩ := hrel
    by_cases hlt : i < ds.length
    · have hbnd := startAt_le ds (i + 1) (by omega)
      have HS := Lib.hid (startAt_succ ds i hlt)
      have hend := Lib.hid (row_end ds i hlt)
      have hbnd2 : startAt ds i + (ds[i].length + 1) ≤ 3040 := by have := HS.out; omega
      have HDi := Lib.hid (HD1.out.at_ i hlt)
      clear hbnd
      go_wp2
      go_loopw [5, 7] (fun nv kv wr => ∃ k : Nat, k ≤ ds[i].length + 1 ∧ kv = .int .i64 k ∧ nv = .int .i64 (startAt ds i + k : Nat) ∧ ∃ q, wr = w1.drewN q) (fun _ kv _ => ds[i].length + 1 - (intOf kv).toNat)
      case atStart => exact ⟨0, Nat.zero_le _, rfl, rfl, q, rfl⟩
      case round =>
        obtain ⟨k, hk, rfl, rfl, q, rfl⟩ := hrel
        obtain ⟨ad, B, c', rfl, hc, hs⟩ := HDi.out
        by_cases hlk : k ≤ ds[i].length
        · have hpl := Lib.hid (place_start b ds i k (w1.drewN q) (HT.out.drew q) hlt hlk (by omega) (by omega))
          have hat := Lib.hid (text_at b ds i k (w1.drewN q) (HT.out.drew q) hlt hlk (by omega) (by omega))
          have hsy : ∃ s : Int, symAt (rowOf ds) ((startAt ds i + k : Nat) : Int) = s ∧ ((s = 0) = ((k : Int) = (ds[i].length : Nat))) := by
            by_cases h : k = ds[i].length
            · refine ⟨0, ?_, ?_⟩
              · subst h; exact hend.out
              · simp [h]
            · refine ⟨_, row_sym ds i hlt k (by omega), ?_⟩
              rw [eq_iff_iff]
              constructor
              · intro h'; omega
              · intro h'; omega
          obtain ⟨s, hs1, hs2⟩ := hsy
          have HSY := Lib.hid (fun (W : World) (hW : TextR W b ds) => symAt_nat b ds (startAt ds i + k) s W hW hs1)
          have HS2 := Lib.hid hs2
          clear hs hs1 hs2 HD1 HG1 HS hend HDi
          generalize hN : startAt ds i + k = N at *
          have hN' : N ≤ 3040 := by omega
          have HN := Lib.hid hN
          clear hN
          go_wp2_with (first
            | (go_at_call 30; go_must (refine hpl.out.mono ?_; rintro e w6 ⟨rfl, rfl⟩))
            | (go_at_call 31; go_must (refine hat.out.mono ?_; rintro e w6 ⟨rfl, q6, rfl⟩)))
          obtain ⟨W, hW⟩ : ∃ W, w1.drewN (q + q6) = W := ⟨_, rfl⟩
          rw [hW]
          have hcW : W.cell? (ad.add i) = some (.slice B ds[i].length c') := by rw [← hW]; exact hc
          have HTW : Hid (TextR W b ds) := Lib.hid (by rw [← hW]; exact HT.out.drew _)
          have HW := Lib.hid hW
          clear hc hW hpl hat
          by_cases hkl : k = ds[i].length
          · have hs0 : s = 0 := by have := HS2.out; rw [this]; omega
            subst hs0
            subst hkl
            go_quiet ((go_at_call 23; exact Calls.quiet_of_same (HSY.out _ (HTW.out.drew _))))
            go_wp2
            go_roundw
            case rel => exact ⟨ds[i].length + 1, by omega, by go_num, by rw [← Nat.add_assoc, HN.out]; go_num, _, by rw [← HW.out]; exact World.drewN_drewN _ _ _⟩
            case measure => simp [intOf]
          · have hs0 : ¬ s = 0 := by have := HS2.out; rw [this]; omega
            have hs1 : (s == 0) = false := by simpa using hs0
            have hkl2 : ¬ (k : Int) = (ds[i].length : Nat) := by omega
            have hkl3 : ((k : Int) == (ds[i].length : Nat)) = false := by simpa using hkl2
            go_quiet ((go_at_call 23; exact Calls.quiet_of_same (HSY.out _ (HTW.out.drew _))))
            go_wp2
            go_roundw
            case rel => exact ⟨k + 1, by omega, by go_num, by rw [← Nat.add_assoc, HN.out]; go_num, _, by rw [← HW.out]; exact World.drewN_drewN _ _ _⟩
            case measure => simp [intOf]; omega
        · have hk' : k = ds[i].length + 1 := by omega
          subst hk'
          have HSS := Lib.hid HS.out
          clear hs HD1 HG1 hend HS
          generalize hS : startAt ds i = S at *
          clear hS
          go_wp2
          go_roundw
          case rel => exact ⟨i + 1, by omega, by go_num, by rw [HSS.out], q, rfl⟩
          case measure => simp [intOf]; omega
    · have hi' : i = ds.length := by omega
      subst hi'
      have hend : startAt ds ds.length = (rowOf ds).length := by unfold startAt; rw [List.take_length]
      rw [hend]
      have hlen := Lib.hid (text_len b ds (w1.drewN q) (HT.out.drew q))
      have hat := Lib.hid (text_at_past b ds (rowOf ds).length (w1.drewN q) (HT.out.drew q) (Nat.le_refl _) (by omega))
      have haw := Lib.hid (law_awake (w1.drewN q) (HG1.out.drew q))
      have hbq := Lib.hid (below_drewN HB.out q)
      clear hend HD1 HG1
      generalize (rowOf ds).length = R at *
      generalize w1.drewN q = w9 at *
      go_wp2_with (first
        | (go_at_call 24; go_must (refine hlen.out.mono ?_; rintro e w6 ⟨rfl, rfl⟩))
        | (go_at_call 21; go_must (refine haw.out.mono ?_; rintro e w6 ⟨rfl, hb6⟩; have HB6 := Lib.hid hb6; clear hb6))
        | (go_at_call 31; go_must (refine hat.out.mono ?_; rintro e w6 ⟨rfl, rfl⟩)))
      go_ret
      exact ⟨rfl, hbq.out.trans (HB6.out.mono hbq.out.size)⟩

theorem law_places (ds : List (List UInt8)) (v : Value) (w : World) (hd : DocsR w v ds) (hG : GL w) :
    Calls Try.prog 7 #[v] w fun e w' => e = .returned (.bool true) ∧ Below w.heap.size w w' := by
  cases hf : fewB ds with
  | true => exact law_places_few ds v w hd hG hf
  | false =>
    have hfew := Lib.hid (few_no ds v w hd hf)
    have haw := Lib.hid (law_awake w hG)
    obtain ⟨A, c, rfl, -⟩ := hd.form
    clear hd hG hf
    go_enter Try.func7, Try.ntmps7
    go_wp2_with (first
      | (go_at_call 20; go_must (refine hfew.out.mono ?_; rintro e w6 ⟨rfl, rfl⟩))
      | (go_at_call 21; go_must (refine haw.out.mono ?_; rintro e w6 ⟨rfl, hb6⟩; have HB6 := Lib.hid hb6; clear hb6)))
    go_ret
    exact ⟨rfl, HB6.out⟩
end Go.Proofs.Ytinlmodkdjpocaa
