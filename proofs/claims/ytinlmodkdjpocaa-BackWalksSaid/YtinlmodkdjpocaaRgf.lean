/- the document: Len, SameSyms. -/
import Derived.Test.YtinlmodkdjpocaaRge
set_option linter.unusedVariables false
namespace Go.Proofs.Ytinlmodkdjpocaa
open Go.RowKit Go.Shelf

set_option maxRecDepth 100000 in
set_option maxHeartbeats 1000000 in
theorem ref_len (ds : List (List UInt8)) (dv : Value) (w : World) (hd : SlR strV w dv ds) (hb : (rowOf ds).length ≤ 1000000) :
    Calls Try.prog 44 #[dv] w fun e w' => e = .returned (.int .i64 ((rowOf ds).length : Nat)) ∧ w' = w := by
  have HDS := Lib.hid (dsOk_row ds hb)
  have hbl := HDS.out.1
  obtain ⟨A, c, rfl, h1, h2, -⟩ := hd.form
  have HD := Lib.hid hd
  clear hd
  go_enter Try.func44, Try.ntmps44
  go_wp2
  go_loopw [3, 4] (fun nv iv wr => ∃ i n : Nat, i ≤ ds.length ∧ iv = .int .i64 i ∧ nv = .int .i64 n ∧ n + i = ds.length + startAt ds i ∧ wr = w) (fun _ iv _ => ds.length - (intOf iv).toNat)
  case atStart => exact ⟨0, ds.length, Nat.zero_le _, rfl, rfl, by simp [startAt, rowOf], rfl⟩
  case round =>
    obtain ⟨i, n, hi, rfl, rfl, hn, rfl⟩ := hrel
    have hst := startAt_le ds i hi
    by_cases hlt : i < ds.length
    · obtain ⟨ad, rfl, hc⟩ := HD.out.at_ i hlt
      simp only [strV] at hc
      have hlen := HDS.out.2 i hlt
      have hss := startAt_succ ds i hlt
      have hz : (⟨ds[i].toArray⟩ : ByteArray).size = ds[i].length := by simp [ByteArray.size]
      obtain ⟨S, hS⟩ : ∃ S, S = (⟨ds[i].toArray⟩ : ByteArray) := ⟨_, rfl⟩
      rw [← hS] at hz hc
      obtain ⟨m, hm⟩ : ∃ m, m = ds[i].length := ⟨_, rfl⟩
      rw [← hm] at hz hlen hss
      have hws : IntKind.i64.wrap ((n : Int) + (m : Nat)) = (n : Int) + (m : Nat) := IntWalk.i64_in _ (by omega)
      have HN : Hid (n + m + (i + 1) = ds.length + startAt ds (i + 1)) := Lib.hid (by omega)
      clear hS hm hss hn hst
      go_wp2
      go_roundw
      case rel => exact ⟨i + 1, n + m, by omega, by go_num, by go_num, HN.out, trivial⟩
      case measure => simp [intOf]; omega
    · obtain rfl : i = ds.length := by omega
      have hfin : n = (rowOf ds).length := by
        unfold startAt at hn
        rw [List.take_length] at hn
        omega
      have HF := Lib.hid hfin
      clear hfin hn hst
      go_wp2
      go_ret
      exact ⟨by rw [← HF.out]; rfl, rfl⟩

set_option maxRecDepth 100000 in
set_option maxHeartbeats 1000000 in
/-- SameSyms at two rows that are the same. -/
theorem same_syms (va vb : Value) (L : List Nat) (w : World) (ha : SlR symV w va L) (hb : SlR symV w vb L) :
    Calls Try.prog 51 #[va, vb] w fun e w' => e = .returned (.bool true) ∧ ∃ q, w' = w.drewN q := by
  obtain ⟨A, c, rfl, h1, h2, -⟩ := id ha.form
  obtain ⟨B, c', rfl, h3, h4, -⟩ := id hb.form
  have HA := Lib.hid ha
  have HB := Lib.hid hb
  clear ha hb
  go_enter Try.func51, Try.ntmps51
  go_wp2
  go_loopw [5] (fun i wr => ∃ k : Nat, k ≤ L.length ∧ i = .int .i64 k ∧ ∃ q, wr = w.drewN q) (fun i _ => L.length - (intOf i).toNat)
  case atStart => exact ⟨0, Nat.zero_le _, rfl, 0, rfl⟩
  case round =>
    obtain ⟨k, hk, rfl, q, rfl⟩ := hrel
    by_cases hlt : k < L.length
    · obtain ⟨ad, rfl, ha1⟩ := HA.out.at_ k hlt
      obtain ⟨ad2, rfl, hb1⟩ := HB.out.at_ k hlt
      clear HA HB
      simp only [symV] at ha1 hb1
      generalize L[k] = x1 at *
      go_wp2
      go_quiet (fail)
      go_wp2
      go_roundw
      case rel => exact ⟨k + 1, by omega, by go_num, _, rfl⟩
      case measure => simp [intOf]; omega
    · have hk' : k = L.length := by omega
      subst hk'
      go_wp2
      go_ret
      exact ⟨rfl, q, rfl⟩
end Go.Proofs.Ytinlmodkdjpocaa
