/- back: Walk's iterator. -/
import Derived.Test.YtinlmodkdjpocaaQbk
import Derived.Test.YtinlmodkdjpocaaWkM
set_option linter.unusedVariables false
namespace Go.Proofs.Ytinlmodkdjpocaa
open Go.RowKit Go.Shelf
attribute [local go_sem] Oper.semAt_some

set_option maxRecDepth 100000 in
set_option maxHeartbeats 4000000 in
theorem walk1_iter (b1 b2 b : Nat) (L : List Nat) (i : Int) (N : Nat) (r : Nat → Int) (R : Nat → Prop) (w0 : World) (hW : WkS L i N r) (hR1 : R b1) (hR2 : R b2)
    (hdata : ∀ W : World, (∀ x, R x → W.heap[x]? = w0.heap[x]?) → IdxR W b L)
    (h1 : w0.heap[b1]? = some (.cells #[.int .i64 i] 3 (0, 0))) (h2 : w0.heap[b2]? = some (.cells #[.pointer (some ⟨b, 0, none⟩)] 45 (0, 0))) :
    IterC Try.prog 111 #[.pointer (some ⟨b1, 0, none⟩), .pointer (some ⟨b2, 0, none⟩)] N (fun k args _ => args = #[.int .i64 (r (k + 1)), .int .u8 (symAt L (r k) - 1)]) R w0 := by
  intro l M0 J Jx W hsz hRd hM0 hJ hJx hY hJ0
  refine (callsIn_wide (n := 5)).1 ?_
  refine callsIn_of_wp Try.func111 rfl trivial ?_ rfl
  simp only [Try.ntmps111, List.size_toArray, List.length_cons, List.length_nil, Nat.reduceAdd, Nat.reduceSub, Array.replicate_succ, Array.replicate_zero, List.push_toArray, List.append_toArray, List.nil_append, List.cons_append]
  have HY := Lib.hid hY
  have HRd := Lib.hid hRd
  have HJ := Lib.hid hJ
  have HJx := Lib.hid hJx
  have HM0 := Lib.hid hM0
  have H1 := Lib.hid h1
  have H2 := Lib.hid h2
  have HDA := Lib.hid hdata
  have HJ0 := Lib.hid hJ0
  have HR1 := Lib.hid hR1
  have HR2 := Lib.hid hR2
  have HW := Lib.hid hW
  have hsame0 : ∀ x, R x → W.heap[x]? = w0.heap[x]? := fun x hx => (hRd x hx).2.2
  have c1 : W.cell? ⟨b1, 0, none⟩ = some (.int .i64 i) := by rw [cell_of_block ((hsame0 b1 hR1).trans h1)]; rfl
  have c2 : W.cell? ⟨b2, 0, none⟩ = some (.pointer (some ⟨b, 0, none⟩)) := by rw [cell_of_block ((hsame0 b2 hR2).trans h2)]; rfl
  have hlen := Lib.hid (back_len b L W (hdata W hsame0))
  have HS0 := Lib.hid hsame0
  have hL1 : L.length ≤ 100000 := by obtain ⟨_, _, _, _, _, _, _, _, h6⟩ := hdata W hsame0; exact h6
  have hL2 : ∀ x ∈ L, x ≤ 256 := by obtain ⟨_, _, _, _, _, _, _, h5, _⟩ := hdata W hsame0; exact h5
  have HL2 := Lib.hid hL2
  have hNL := hW.len
  obtain ⟨NL, hNLe⟩ : ∃ NL, NL = L.length := ⟨_, rfl⟩
  have HNL := Lib.hid hNLe
  rw [← hNLe] at hlen hL1 hNL
  clear hY hRd hJ hJx hM0 h1 h2 hdata hJ0 hR1 hR2 hsame0 hNLe hL2 hW
  gi_wp2_with (refine ⟨trivial, ?_⟩; gi_at_call 38; go_must (refine (callsIn_wide.2 hlen.out).mono ?_; rintro e w2 ⟨rfl, hw2⟩; have hw3 := hw2.symm; subst hw3))
  gi_loopw [4, 10] (fun av iv wr => ∃ (k : Nat) (M : Nat → Prop), iv = .int .i64 (k : Int) ∧ av = .int .i64 (r k) ∧ k ≤ N ∧ Hid (J k M wr) ∧ Hid (∀ b, M b → (M0 b ∨ W.heap.size ≤ b) ∧ b < wr.heap.size) ∧ Hid (∀ b, R b → wr.heap[b]? = w0.heap[b]?) ∧ W.heap.size ≤ wr.heap.size)
    (fun _ iv _ => NL - (intOf iv).toNat)
  case atStart => exact ⟨0, M0, rfl, by rw [HW.out.start], Nat.zero_le _, Lib.hid HJ0.out, Lib.hid (fun b hb => ⟨.inl hb, HM0.out b hb⟩), Lib.hid HS0.out, Nat.le_refl _⟩
  case round =>
    clear c1 c2 hlen
    obtain ⟨k, M, rfl, rfl, hk, hj, hm, hsame, hsz2⟩ := hrel
    have c2 : wr.cell? ⟨b2, 0, none⟩ = some (.pointer (some ⟨b, 0, none⟩)) := by rw [cell_of_block ((hsame.out b2 HR2.out).trans H2.out)]; rfl
    have hidx := HDA.out wr hsame.out
    by_cases hlt : k < N
    · obtain ⟨n, hn, hnl, hne, hnext⟩ := HW.out.step k hlt
      have hst := back_step_yes b L n wr hidx hnl hne
      have hcb : L.getD n 0 ≤ 256 := by rw [List.getD_eq_getElem?_getD, List.getElem?_eq_getElem hnl]; exact HL2.out _ (List.getElem_mem hnl)
      have hsym : symAt L (r k) = (L.getD n 0 : Nat) := by rw [hn, symAt_getD hnl]
      have hsy := Lib.hid (fun q => back_sym b L (n : Int) (wr.drewN q) (hidx.drewN q))
      rw [← hn, hsym] at hsy
      rw [← hn, ← hnext] at hst
      have HST := Lib.hid hst
      have HSY := Lib.hid hsym
      have hcp : 1 ≤ L.getD n 0 := by omega
      generalize L.getD n 0 = c at *
      have q1 : IntKind.i64.wrap ((c : Int) - 1) = (c : Int) - 1 := IntWalk.i64_in _ (by omega)
      have q2 : IntKind.u8.wrap ((c : Int) - 1) = (c : Int) - 1 := IntWalk.u8_in _ (by omega)
      have hkn : (k : Int) < (NL : Int) := by omega
      have HHT := Lib.hid hlt
      have hj' : ∀ q, Hid (J k M (wr.drewN q)) := fun q => Lib.hid (HJ.out _ _ _ _ hj.out ((Fr.refl _ _).drewN q))
      clear hn hnl hne hst hsym hnext hidx
      obtain ⟨rk, hrk⟩ : ∃ rk, rk = r k := ⟨_, rfl⟩
      obtain ⟨rk1, hrk1⟩ : ∃ rk1, rk1 = r (k + 1) := ⟨_, rfl⟩
      rw [← hrk] at HST hsy
      rw [← hrk1] at HST
      rw [← hrk]
      have HRK := Lib.hid hrk
      have HRK1 := Lib.hid hrk1
      clear hrk hrk1
      gi_wp2_with (refine ⟨trivial, ?_⟩; first
        | (gi_at_call 56; go_must (refine (callsIn_wide.2 HST.out).mono ?_; rintro e w2 ⟨rfl, q, rfl⟩))
        | (gi_at_call 62; go_must (refine (callsIn_wide.2 (hsy.out _)).mono ?_; rintro e w3 ⟨rfl, hw3⟩; have hw4 := hw3.symm; subst hw4)))
      have hArg : (#[.int .i64 rk1, .int .u8 ((c : Int) - 1)] : Array Value) = #[.int .i64 (r (k + 1)), .int .u8 (symAt L (r k) - 1)] := by rw [HRK1.out, HSY.out]
      obtain ⟨fn, tmps, assign, body, hy, hR⟩ := HY.out k M #[.int .i64 rk1, .int .u8 ((c : Int) - 1)] (wr.drewN q) HHT.out (hj' q).out hArg hm.out hsz2
      rw [hy]
      refine ⟨fun h => by simp [Fence.wide] at h, (roundIn_wide hR).mono ?_⟩
      clear hy hR hj' hArg
      rintro e W3 ⟨M2, hfr, hm2, ⟨rfl, hJ3⟩ | ⟨rfl, hJx3⟩⟩
      · have hsz3 : wr.heap.size ≤ W3.heap.size := hfr.size
        have HF := Lib.hid hfr
        have HM2 := Lib.hid hm2
        have HJ3 := Lib.hid hJ3
        clear hfr hm2 hJ3
        have HS : Hid (∀ b, R b → W3.heap[b]? = w0.heap[b]?) := by
          refine Lib.hid fun b hb => ?_
          have h0 := HRd.out b hb
          refine (HF.out.block b ?_ ?_).trans (hsame.out b hb)
          · show b < wr.heap.size
            omega
          · intro hMb
            rcases (hm.out b hMb).1 with h | h
            · exact h0.2.1 h
            · omega
        have HM3 : Hid (∀ b, M2 b → (M0 b ∨ W.heap.size ≤ b) ∧ b < W3.heap.size) := by
          refine Lib.hid fun b hb => ⟨?_, (HM2.out b hb).2⟩
          rcases (HM2.out b hb).1 with h | h
          · exact (hm.out b h).1
          · right; exact Nat.le_trans hsz2 h
        gi_wp2
        go_roundw
        case rel => exact ⟨k + 1, M2, by go_num, by rw [HRK1.out], by omega, Lib.hid HJ3.out, HM3, HS, by omega⟩
        case measure => simp [intOf]; omega
      · have HF := Lib.hid hfr
        have HM2 := Lib.hid hm2
        have HJ3 := Lib.hid hJx3
        clear hfr hm2 hJx3
        have hsz3 : wr.heap.size ≤ W3.heap.size := HF.out.size
        gi_wp2
        refine bodyPost_ret (results_none rfl _ _ _) rfl ?_
        refine ⟨⟨_, rfl⟩, M2, by omega, fun b hb => ⟨?_, (HM2.out b hb).2⟩, .inr ⟨k + 1, HHT.out, HJ3.out⟩⟩
        rcases (HM2.out b hb).1 with h | h
        · exact (hm.out b h).1
        · right; exact Nat.le_trans hsz2 h
    · obtain rfl : k = N := by omega
      have hst := Lib.hid (back_step_no b L (r k) wr hidx HW.out.stop)
      obtain ⟨rk, hrk⟩ : ∃ rk, rk = r k := ⟨_, rfl⟩
      rw [← hrk] at hst ⊢
      have HRK := Lib.hid hrk
      clear hidx hrk hlt
      by_cases hkl : k < NL
      · have hkn : (k : Int) < (NL : Int) := by omega
        gi_wp2_with (refine ⟨trivial, ?_⟩; gi_at_call 56; go_must (refine (callsIn_wide.2 hst.out).mono ?_; rintro e w2 ⟨rfl, hw2⟩; have hw3 := hw2.symm; subst hw3))
        refine ⟨trivial, ?_⟩
        gi_wp2
        refine ⟨fun f h => (by cases h), ?_⟩
        gi_wp2
        refine bodyPost_ret (results_none rfl _ _ _) rfl ?_
        exact ⟨⟨_, rfl⟩, M, hsz2, fun b hb => hm.out b hb, .inl hj.out⟩
      · obtain rfl : k = NL := by omega
        gi_wp2
        go_end0
        exact ⟨⟨_, rfl⟩, M, hsz2, fun b hb => hm.out b hb, .inl hj.out⟩

theorem walk_any (b : Nat) (i : Int) (w : World) :
    Calls Try.prog 81 #[.pointer (some ⟨b, 0, none⟩), .int .i64 i] w fun e w' => e = .returned (.func (.func 111) #[] #[.pointer (some ⟨w.heap.size + 1, 0, none⟩), .pointer (some ⟨w.heap.size, 0, none⟩)]) ∧ w' = (w.alloc (.cells #[.pointer (some ⟨b, 0, none⟩)] 45)).alloc (.cells #[.int .i64 i] 3) := by
  go_enter Try.func81, Try.ntmps81
  go_wp2
  go_ret
  exact ⟨rfl, rfl⟩
end Go.Proofs.Ytinlmodkdjpocaa
