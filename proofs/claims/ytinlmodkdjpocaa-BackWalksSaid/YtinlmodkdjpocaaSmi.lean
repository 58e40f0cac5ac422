/- the document: SameInts, SameTexts at rows that are the same. -/
import Derived.Test.YtinlmodkdjpocaaRgf
set_option linter.unusedVariables false
namespace Go.Proofs.Ytinlmodkdjpocaa
open Go.RowKit Go.Shelf

theorem SlR.ints {w : World} {v : Value} {xs : List Nat} (h : SlR natV w v xs) : SlR intV w v (xs.map fun (n : Nat) => (n : Int)) := by
  obtain ⟨A, c, rfl, h1, h2, h3⟩ := h
  refine ⟨A, c, by simp, by simpa using h1, h2, ?_⟩
  rcases h3 with h3 | ⟨ad, e, hc⟩
  · left; rw [h3]; rfl
  · refine .inr ⟨ad, e, fun j hj => ?_⟩
    rw [hc j (by simpa using hj)]
    simp [natV, intV]

set_option maxRecDepth 100000 in
set_option maxHeartbeats 1000000 in
theorem same_ints (va vb : Value) (L : List Int) (w : World) (ha : SlR intV w va L) (hb : SlR intV w vb L) :
    Calls Try.prog 58 #[va, vb] w fun e w' => e = .returned (.bool true) ∧ ∃ q, w' = w.drewN q := by
  obtain ⟨A, c, rfl, h1, h2, -⟩ := id ha.form
  obtain ⟨B, c', rfl, h3, h4, -⟩ := id hb.form
  have HA := Lib.hid ha
  have HB := Lib.hid hb
  clear ha hb
  go_enter Try.func58, Try.ntmps58
  go_wp2
  go_loopw [5] (fun i wr => ∃ k : Nat, k ≤ L.length ∧ i = .int .i64 k ∧ ∃ q, wr = w.drewN q) (fun i _ => L.length - (intOf i).toNat)
  case atStart => exact ⟨0, Nat.zero_le _, rfl, 0, rfl⟩
  case round =>
    obtain ⟨k, hk, rfl, q, rfl⟩ := hrel
    by_cases hlt : k < L.length
    · obtain ⟨ad, rfl, ha1⟩ := HA.out.at_ k hlt
      obtain ⟨ad2, rfl, hb1⟩ := HB.out.at_ k hlt
      clear HA HB
      simp only [intV] at ha1 hb1
      generalize L[k] = x1 at *
      go_wp2
      go_quiet (fail)
      go_wp2
      go_roundw
      case rel => exact ⟨k + 1, by omega, by go_num, _, rfl⟩
      case measure => simp [intOf]; omega
    · have hk' : k = L.length := by omega
      subst hk'
      go_wp2
      go_ret
      exact ⟨rfl, q, rfl⟩

set_option maxRecDepth 100000 in
set_option maxHeartbeats 1000000 in
theorem same_texts (va vb : Value) (L : List (List UInt8)) (w : World) (ha : SlR strV w va L) (hb : SlR strV w vb L) :
    Calls Try.prog 50 #[va, vb] w fun e w' => e = .returned (.bool true) ∧ ∃ q, w' = w.drewN q := by
  obtain ⟨A, c, rfl, h1, h2, -⟩ := id ha.form
  obtain ⟨B, c', rfl, h3, h4, -⟩ := id hb.form
  have HA := Lib.hid ha
  have HB := Lib.hid hb
  clear ha hb
  go_enter Try.func50, Try.ntmps50
  go_wp2
  go_loopw [5] (fun i wr => ∃ k : Nat, k ≤ L.length ∧ i = .int .i64 k ∧ ∃ q, wr = w.drewN q) (fun i _ => L.length - (intOf i).toNat)
  case atStart => exact ⟨0, Nat.zero_le _, rfl, 0, rfl⟩
  case round =>
    obtain ⟨k, hk, rfl, q, rfl⟩ := hrel
    by_cases hlt : k < L.length
    · obtain ⟨ad, rfl, ha1⟩ := HA.out.at_ k hlt
      obtain ⟨ad2, rfl, hb1⟩ := HB.out.at_ k hlt
      clear HA HB
      generalize L[k] = x1 at *
      obtain ⟨S, hS⟩ : ∃ S, S = strV x1 := ⟨_, rfl⟩
      simp only [strV] at ha1 hb1 hS
      go_wp2
      go_quiet (fail)
      go_wp2
      go_roundw
      case rel => exact ⟨k + 1, by omega, by go_num, _, rfl⟩
      case measure => simp [intOf]; omega
    · have hk' : k = L.length := by omega
      subst hk'
      go_wp2
      go_ret
      exact ⟨rfl, q, rfl⟩
end Go.Proofs.Ytinlmodkdjpocaa
