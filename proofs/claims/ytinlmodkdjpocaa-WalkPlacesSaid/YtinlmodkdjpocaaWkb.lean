/- back: Walk's iterator. law 12: what Walk tells. -/
import Derived.Test.YtinlmodkdjpocaaQbk
import Derived.Test.YtinlmodkdjpocaaPlm
import Derived.Test.YtinlmodkdjpocaaGen
import Derived.Test.YtinlmodkdjpocaaRfx
set_option linter.unusedVariables false
namespace Go.Proofs.Ytinlmodkdjpocaa
open Go.RowKit Go.Shelf
attribute [local go_sem] Oper.semAt_some

set_option maxRecDepth 100000 in
set_option maxHeartbeats 4000000 in
theorem walk1_iter (b1 b2 b : Nat) (L : List Nat) (i : Int) (N : Nat) (r : Nat → Int) (R : Nat → Prop) (w0 : World) (hW : WkS L i N r) (hR1 : R b1) (hR2 : R b2)
    (hdata : ∀ W : World, (∀ x, R x → W.heap[x]? = w0.heap[x]?) → IdxR W b L)
    (h1 : w0.heap[b1]? = some (.cells #[.int .i64 i] 3 (0, 0))) (h2 : w0.heap[b2]? = some (.cells #[.pointer (some ⟨b, 0, none⟩)] 45 (0, 0))) :
    IterC Try.prog 111 #[.pointer (some ⟨b1, 0, none⟩), .pointer (some ⟨b2, 0, none⟩)] N (fun k args _ => args = #[.int .i64 (r (k + 1)), .int .u8 (symAt L (r k) - 1)]) R w0 := by
  intro l M0 J Jx W hsz hRd hM0 hJ hJx hY hJ0
  refine (callsIn_wide (n := 5)).1 ?_
  refine callsIn_of_wp Try.func111 rfl trivial ?_ rfl
  simp only [Try.ntmps111, List.size_toArray, List.length_cons, List.length_nil, Nat.reduceAdd, Nat.reduceSub, Array.replicate_succ, Array.replicate_zero, List.push_toArray, List.append_toArray, List.nil_append, List.cons_append]
  have HY := Lib.hid hY
  have HRd := Lib.hid hRd
  have HJ := Lib.hid hJ
  have HJx := Lib.hid hJx
  have HM0 := Lib.hid hM0
  have H1 := Lib.hid h1
  have H2 := Lib.hid h2
  have HDA := Lib.hid hdata
  have HJ0 := Lib.hid hJ0
  have HR1 := Lib.hid hR1
  have HR2 := Lib.hid hR2
  have HW := Lib.hid hW
  have hsame0 : ∀ x, R x → W.heap[x]? = w0.heap[x]? := fun x hx => (hRd x hx).2.2
  have c1 : W.cell? ⟨b1, 0, none⟩ = some (.int .i64 i) := by rw [cell_of_block ((hsame0 b1 hR1).trans h1)]; rfl
  have c2 : W.cell? ⟨b2, 0, none⟩ = some (.pointer (some ⟨b, 0, none⟩)) := by rw [cell_of_block ((hsame0 b2 hR2).trans h2)]; rfl
  have hlen := Lib.hid (back_len b L W (hdata W hsame0))
  have HS0 := Lib.hid hsame0
  have hL1 : L.length ≤ 100000 := by obtain ⟨_, _, _, _, _, _, _, _, h6⟩ := hdata W hsame0; exact h6
  have hL2 : ∀ x ∈ L, x ≤ 256 := by obtain ⟨_, _, _, _, _, _, _, h5, _⟩ := hdata W hsame0; exact h5
  have HL2 := Lib.hid hL2
  have hNL := hW.len
  obtain ⟨NL, hNLe⟩ : ∃ NL, NL = L.length := ⟨_, rfl⟩
  have HNL := Lib.hid hNLe
  rw [← hNLe] at hlen hL1 hNL
  clear hY hRd hJ hJx hM0 h1 h2 hdata hJ0 hR1 hR2 hsame0 hNLe hL2 hW
  gi_wp2_with (refine ⟨trivial, ?_⟩; gi_at_call 38; go_must (refine (callsIn_wide.2 hlen.out).mono ?_; rintro e w2 ⟨rfl, hw2⟩; have hw3 := hw2.symm; subst hw3))
  gi_loopw [4, 10] (fun av iv wr => ∃ (k : Nat) (M : Nat → Prop), iv = .int .i64 (k : Int) ∧ av = .int .i64 (r k) ∧ k ≤ N ∧ Hid (J k M wr) ∧ Hid (∀ b, M b → (M0 b ∨ W.heap.size ≤ b) ∧ b < wr.heap.size) ∧ Hid (∀ b, R b → wr.heap[b]? = w0.heap[b]?) ∧ W.heap.size ≤ wr.heap.size)
    (fun _ iv _ => NL - (intOf iv).toNat)
  case atStart => exact ⟨0, M0, rfl, by rw [HW.out.start], Nat.zero_le _, Lib.hid HJ0.out, Lib.hid (fun b hb => ⟨.inl hb, HM0.out b hb⟩), Lib.hid HS0.out, Nat.le_refl _⟩
  case round =>
    clear c1 c2 hlen
    obtain ⟨k, M, rfl, rfl, hk, hj, hm, hsame, hsz2⟩ := hrel
    have c2 : wr.cell? ⟨b2, 0, none⟩ = some (.pointer (some ⟨b, 0, none⟩)) := by rw [cell_of_block ((hsame.out b2 HR2.out).trans H2.out)]; rfl
    have hidx := HDA.out wr hsame.out
    by_cases hlt : k < N
    · obtain ⟨n, hn, hnl, hne, hnext⟩ := HW.out.step k hlt
      have hst := back_step_yes b L n wr hidx hnl hne
      have hcb : L.getD n 0 ≤ 256 := by rw [List.getD_eq_getElem?_getD, List.getElem?_eq_getElem hnl]; exact HL2.out _ (List.getElem_mem hnl)
      have hsym : symAt L (r k) = (L.getD n 0 : Nat) := by rw [hn, symAt_getD hnl]
      have hsy := Lib.hid (fun q => back_sym b L (n : Int) (wr.drewN q) (hidx.drewN q))
      rw [← hn, hsym] at hsy
      rw [← hn, ← hnext] at hst
      have HST := Lib.hid hst
      have HSY := Lib.hid hsym
      have hcp : 1 ≤ L.getD n 0 := by omega
      generalize L.getD n 0 = c at *
      have q1 : IntKind.i64.wrap ((c : Int) - 1) = (c : Int) - 1 := IntWalk.i64_in _ (by omega)
      have q2 : IntKind.u8.wrap ((c : Int) - 1) = (c : Int) - 1 := IntWalk.u8_in _ (by omega)
      have hkn : (k : Int) < (NL : Int) := by omega
      have HHT := Lib.hid hlt
      have hj' : ∀ q, Hid (J k M (wr.drewN q)) := fun q => Lib.hid (HJ.out _ _ _ _ hj.out ((Fr.refl _ _).drewN q))
      clear hn hnl hne hst hsym hnext hidx
      obtain ⟨rk, hrk⟩ : ∃ rk, rk = r k := ⟨_, rfl⟩
      obtain ⟨rk1, hrk1⟩ : ∃ rk1, rk1 = r (k + 1) := ⟨_, rfl⟩
      rw [← hrk] at HST hsy
      rw [← hrk1] at HST
      rw [← hrk]
      have HRK := Lib.hid hrk
      have HRK1 := Lib.hid hrk1
      clear hrk hrk1
      gi_wp2_with (refine ⟨trivial, ?_⟩; first
        | (gi_at_call 56; go_must (refine (callsIn_wide.2 HST.out).mono ?_; rintro e w2 ⟨rfl, q, rfl⟩))
        | (gi_at_call 62; go_must (refine (callsIn_wide.2 (hsy.out _)).mono ?_; rintro e w3 ⟨rfl, hw3⟩; have hw4 := hw3.symm; subst hw4)))
      have hArg : (#[.int .i64 rk1, .int .u8 ((c : Int) - 1)] : Array Value) = #[.int .i64 (r (k + 1)), .int .u8 (symAt L (r k) - 1)] := by rw [HRK1.out, HSY.out]
      obtain ⟨fn, tmps, assign, body, hy, hR⟩ := HY.out k M #[.int .i64 rk1, .int .u8 ((c : Int) - 1)] (wr.drewN q) HHT.out (hj' q).out hArg hm.out hsz2
      rw [hy]
      refine ⟨fun h => by simp [Fence.wide] at h, (roundIn_wide hR).mono ?_⟩
      clear hy hR hj' hArg
      rintro e W3 ⟨M2, hfr, hm2, ⟨rfl, hJ3⟩ | ⟨rfl, hJx3⟩⟩
      · have hsz3 : wr.heap.size ≤ W3.heap.size := hfr.size
        have HF := Lib.hid hfr
        have HM2 := Lib.hid hm2
        have HJ3 := Lib.hid hJ3
        clear hfr hm2 hJ3
        have HS : Hid (∀ b, R b → W3.heap[b]? = w0.heap[b]?) := by
          refine Lib.hid fun b hb => ?_
          have h0 := HRd.out b hb
          refine (HF.out.block b ?_ ?_).trans (hsame.out b hb)
          · show b < wr.heap.size
            omega
          · intro hMb
            rcases (hm.out b hMb).1 with h | h
            · exact h0.2.1 h
            · omega
        have HM3 : Hid (∀ b, M2 b → (M0 b ∨ W.heap.size ≤ b) ∧ b < W3.heap.size) := by
          refine Lib.hid fun b hb => ⟨?_, (HM2.out b hb).2⟩
          rcases (HM2.out b hb).1 with h | h
          · exact (hm.out b h).1
          · right; exact Nat.le_trans hsz2 h
        gi_wp2
        go_roundw
        case rel => exact ⟨k + 1, M2, by go_num, by rw [HRK1.out], by omega, Lib.hid HJ3.out, HM3, HS, by omega⟩
        case measure => simp [intOf]; omega
      · have HF := Lib.hid hfr
        have HM2 := Lib.hid hm2
        have HJ3 := Lib.hid hJx3
        clear hfr hm2 hJx3
        have hsz3 : wr.heap.size ≤ W3.heap.size := HF.out.size
        gi_wp2
        refine bodyPost_ret (results_none rfl _ _ _) rfl ?_
        refine ⟨⟨_, rfl⟩, M2, by omega, fun b hb => ⟨?_, (HM2.out b hb).2⟩, .inr ⟨k + 1, HHT.out, HJ3.out⟩⟩
        rcases (HM2.out b hb).1 with h | h
        · exact (hm.out b h).1
        · right; exact Nat.le_trans hsz2 h
    · obtain rfl : k = N := by omega
      have hst := Lib.hid (back_step_no b L (r k) wr hidx HW.out.stop)
      obtain ⟨rk, hrk⟩ : ∃ rk, rk = r k := ⟨_, rfl⟩
      rw [← hrk] at hst ⊢
      have HRK := Lib.hid hrk
      clear hidx hrk hlt
      by_cases hkl : k < NL
      · have hkn : (k : Int) < (NL : Int) := by omega
        gi_wp2_with (refine ⟨trivial, ?_⟩; gi_at_call 56; go_must (refine (callsIn_wide.2 hst.out).mono ?_; rintro e w2 ⟨rfl, hw2⟩; have hw3 := hw2.symm; subst hw3))
        refine ⟨trivial, ?_⟩
        gi_wp2
        refine ⟨fun f h => (by cases h), ?_⟩
        gi_wp2
        refine bodyPost_ret (results_none rfl _ _ _) rfl ?_
        exact ⟨⟨_, rfl⟩, M, hsz2, fun b hb => hm.out b hb, .inl hj.out⟩
      · obtain rfl : k = NL := by omega
        gi_wp2
        go_end0
        exact ⟨⟨_, rfl⟩, M, hsz2, fun b hb => hm.out b hb, .inl hj.out⟩

theorem walk_any (b : Nat) (i : Int) (w : World) :
    Calls Try.prog 81 #[.pointer (some ⟨b, 0, none⟩), .int .i64 i] w fun e w' => e = .returned (.func (.func 111) #[] #[.pointer (some ⟨w.heap.size + 1, 0, none⟩), .pointer (some ⟨w.heap.size, 0, none⟩)]) ∧ w' = (w.alloc (.cells #[.pointer (some ⟨b, 0, none⟩)] 45)).alloc (.cells #[.int .i64 i] 3) := by
  go_enter Try.func81, Try.ntmps81
  go_wp2
  go_ret
  exact ⟨rfl, rfl⟩
end Go.Proofs.Ytinlmodkdjpocaa

set_option linter.unusedVariables false
namespace Go.Proofs.Ytinlmodkdjpocaa
open Go.RowKit Go.Shelf
attribute [local go_sem] Oper.semAt_some

def wkR (r : Nat → Int) (n : Nat) : List Int := (List.range n).map (fun k => r (k + 1))
def wkB (L : List Nat) (r : Nat → Int) (n : Nat) : List UInt8 := (List.range n).map (fun k => UInt8.ofNat ((symAt L (r k)).toNat - 1))
theorem wkR_succ (r : Nat → Int) (n : Nat) : wkR r (n + 1) = wkR r n ++ [r (n + 1)] := by simp [wkR, List.range_succ]
theorem wkB_succ (L : List Nat) (r : Nat → Int) (n : Nat) : wkB L r (n + 1) = wkB L r n ++ [UInt8.ofNat ((symAt L (r n)).toNat - 1)] := by simp [wkB, List.range_succ]
theorem wkR_length (r : Nat → Int) (n : Nat) : (wkR r n).length = n := by simp [wkR]
theorem wkB_length (L : List Nat) (r : Nat → Int) (n : Nat) : (wkB L r n).length = n := by simp [wkB]
/-- the byte that a step tells -/
theorem wk_byte {L : List Nat} {i : Int} {N : Nat} {r : Nat → Int} (h : WkS L i N r) (hL : ∀ x ∈ L, x ≤ 256) (k : Nat) (hk : k < N) : byV (UInt8.ofNat ((symAt L (r k)).toNat - 1)) = .int .u8 (symAt L (r k) - 1) := by
  obtain ⟨n, h1, h2, h3, h4⟩ := h.step k hk
  have hc : L.getD n 0 ≤ 256 := by rw [List.getD_eq_getElem?_getD, List.getElem?_eq_getElem h2]; exact hL _ (List.getElem_mem h2)
  rw [h1, symAt_getD h2]
  generalize L.getD n 0 = c at *
  unfold byV
  rw [UInt8.toNat_ofNat', show ((c : Int).toNat - 1) % 2 ^ 8 = c - 1 from by rw [Int.toNat_natCast]; exact Nat.mod_eq_of_lt (by omega)]
  congr 1
  omega

theorem size_of_same {w W : World} (h : ∀ x, x < w.heap.size → W.heap[x]? = w.heap[x]?) : w.heap.size ≤ W.heap.size := by
  rcases Nat.eq_zero_or_pos w.heap.size with h0 | h0
  · omega
  · have h1 := h (w.heap.size - 1) (by omega)
    rw [Array.getElem?_eq_getElem (by omega : w.heap.size - 1 < w.heap.size)] at h1
    have := (Array.getElem?_eq_some_iff.1 h1).1
    omega
/-- a world that has w's surroundings and W's heap -/
def likeW (w W : World) : World := { w with heap := W.heap }
theorem below_like {w W : World} (h : ∀ x, x < w.heap.size → W.heap[x]? = w.heap[x]?) : Below w.heap.size w (likeW w W) := ⟨rfl, rfl, rfl, size_of_same h, h⟩
theorem IdxR.same {w W : World} {b : Nat} {L : List Nat} (h : IdxR w b L) (hs : ∀ x, x < w.heap.size → W.heap[x]? = w.heap[x]?) : IdxR W b L := by
  have h2 : IdxR (likeW w W) b L := h.later (below_like hs)
  exact h2

/-- what the loop holds -/
def WkSt (s : Nat) (w1 : World) (L : List Nat) (r : Nat → Int) (k : Nat) (M : Nat → Prop) (W : World) : Prop :=
  ∃ va vb, ColR 73 3 1 s (s + 1) k ((wkR r k).map intV) va M W ∧ ColR 29 5 1 s (s + 1 + 1) k ((wkB L r k).map byV) vb M W ∧ Fr (fun b => b = s + 1 ∨ b = s + 1 + 1) w1 W
theorem WkSt.fr {s : Nat} {w1 : World} {L : List Nat} {r : Nat → Int} {k : Nat} {M : Nat → Prop} {W W2 : World} (h : WkSt s w1 L r k M W) (hf : Fr (fun b => w1.heap.size ≤ b ∧ ¬ M b) W W2) : WkSt s w1 L r k M W2 := by
  obtain ⟨va, vb, h1, h2, h3⟩ := h
  exact ⟨va, vb, h1.fr hf, h2.fr hf, h3.trans' hf (fun b hb hm => by omega)⟩

theorem walk_ends {w w1 W : World} {D s n k : Nat} {M : Nat → Prop} {L : List Nat} {r : Nat → Int} {Av : Option Addr} {cv : Nat} {tm : Array Value} {fn : Func} (hs : s = w.heap.size) (hbe : Below w.heap.size w w1) (hsw : s + 1 + 1 < w1.heap.size) (hD : w1.heap.size ≤ D) (hnD : ¬ M D) (hKD : W.heap[D]? = some (.deferred (some [])))
    (h1 : ColR 73 3 1 s (s + 1) k ((wkR r k).map intV) (.slice Av k cv) M W) (h4 : Fr (fun b => b = s + 1 ∨ b = s + 1 + 1) w1 W)
    (hr : ∀ W', (results fn tm).run Try.prog W' = .ok (.tuple #[.slice Av k cv, strV (wkB L r k)]) W') :
    LeavesInM Fence.wide n Try.prog fn tm (fun e w' => ∃ v, e = .returned (.tuple #[v, strV (wkB L r k)]) ∧ SlR intV w' v (wkR r k) ∧ Below w.heap.size w w') [{ target := .collected D, args := #[] }] .returning W := by
  subst hs
  refine leaves_marks [D] W (by simp) (fun D' hD' => by simp at hD'; subst hD'; exact hKD) hr (fun W4 hW4 => ?_)
  have h14 : ColR 73 3 1 w.heap.size (w.heap.size + 1) k ((wkR r k).map intV) (.slice Av k cv) M W4 := h1.fr0 (hW4.mono (fun b _ hb hM => by simp at hb; subst hb; exact hnD hM))
  have h5 := hbe.size
  refine ⟨_, rfl, h14.slR, ?_⟩
  exact hbe.trans ((h4.below (n := w.heap.size) (by omega) (fun b hb => by omega)).trans (hW4.below (by have := h4.size; omega) (fun b hb => by simp at hb; omega)))

set_option maxRecDepth 100000 in
set_option maxHeartbeats 4000000 in
theorem law12_walk (b : Nat) (L : List Nat) (i : Int) (N : Nat) (r : Nat → Int) (most : Int) (w : World) (hix : IdxR w b L) (hW : WkS L i N r) :
    Calls Try.prog 57 #[.pointer (some ⟨b, 0, none⟩), .int .i64 i, .int .i64 most] w fun e w' => ∃ v, e = .returned (.tuple #[v, strV (wkB L r (min most.toNat N))]) ∧ SlR intV w' v (wkR r (min most.toNat N)) ∧ Below w.heap.size w w' := by
  refine (callsIn_wide (n := 5)).1 ?_
  refine callsIn_of_wp_marks Try.func57 rfl trivial ?_ rfl
  simp only [Try.ntmps57, List.size_toArray, List.length_cons, List.length_nil, Nat.reduceAdd, Nat.reduceSub, Array.replicate_succ, Array.replicate_zero, List.push_toArray, List.append_toArray, List.nil_append, List.cons_append]
  obtain ⟨wa, hwa⟩ : ∃ wa, wa = ((w.alloc (.cells #[.int .i64 most] 3)).alloc (.cells #[.slice none 0 0] 73)).alloc (.cells #[.slice none 0 0] 29) := ⟨_, rfl⟩
  have hba : Below w.heap.size w wa := by rw [hwa]; exact (((Below.refl _ w).alloc (Nat.le_refl _) _).alloc (by simp) _).alloc (by simp; omega) _
  have hsa : wa.heap.size = w.heap.size + 3 := by rw [hwa]; simp
  have a0 : wa.heap[w.heap.size]? = some (.cells #[.int .i64 most] 3 (0, 0)) := by
    rw [hwa]; exact heap_old (heap_old (heap_alloc_new w _))
  have a1 : wa.heap[w.heap.size + 1]? = some (.cells #[.slice none 0 0] 73 (0, 0)) := by
    rw [hwa]
    have := heap_alloc_new (w.alloc (.cells #[.int .i64 most] 3)) (.cells #[.slice none 0 0] 73)
    rw [World.size_alloc] at this
    exact heap_old this
  have a2 : wa.heap[w.heap.size + 1 + 1]? = some (.cells #[.slice none 0 0] 29 (0, 0)) := by
    rw [hwa]
    have := heap_alloc_new ((w.alloc (.cells #[.int .i64 most] 3)).alloc (.cells #[.slice none 0 0] 73)) (.cells #[.slice none 0 0] 29)
    simp only [World.size_alloc] at this
    exact this
  have hL2 : ∀ x ∈ L, x ≤ 256 := by obtain ⟨_, _, _, _, _, _, _, h5, _⟩ := hix; exact h5
  have hL1 : L.length ≤ 100000 := by obtain ⟨_, _, _, _, _, _, _, _, h6⟩ := hix; exact h6
  have hN := hW.len
  obtain ⟨m, hm⟩ : ∃ m, m = min most.toNat N := ⟨_, rfl⟩
  rw [← hm]
  have HMm := Lib.hid hm
  clear hm
  have HIX := Lib.hid hix
  have HWK := Lib.hid hW
  have HL2 := Lib.hid hL2
  have HW := Lib.hid hwa
  have HBA := Lib.hid hba
  have HSA := Lib.hid hsa
  have A0 := Lib.hid a0
  have A1 := Lib.hid a1
  have A2 := Lib.hid a2
  have hNb : N ≤ 100000 := by omega
  clear hwa hba hsa a0 a1 a2 hix hW hL2 hL1 hN
  have hwk := Lib.hid (walk_any b i wa)
  have heq : ∀ W : World, (binOp .eql 108 (.func (.func 111) #[] #[.pointer (some ⟨wa.heap.size + 1, 0, none⟩), .pointer (some ⟨wa.heap.size, 0, none⟩)]) .nilFunc).run Try.prog W = .ok (.bool false) W := fun W => run_eql_func_nil W _ _ _ _ Try.underlying108
  gi_wp2_with fail
  rw [← HW.out]
  refine ⟨trivial, (callsIn_wide.2 hwk.out).mono ?_⟩
  rintro e w1 ⟨rfl, hw1⟩
  have HW1 := Lib.hid hw1
  clear hw1 hwk
  gi_wp2
  clear heq
  obtain ⟨F, hF⟩ : ∃ F : Value, F = .func (.func 111) #[] #[.pointer (some ⟨wa.heap.size + 1, 0, none⟩), .pointer (some ⟨wa.heap.size, 0, none⟩)] := ⟨_, rfl⟩
  rw [← hF]
  have HFn := Lib.hid hF
  clear hF
  have hsa := HSA.out
  have hb1 : Below wa.heap.size wa w1 := by rw [HW1.out]; exact ((Below.refl _ wa).alloc (Nat.le_refl _) _).alloc (by simp) _
  have hs1 : w1.heap.size = w.heap.size + 5 := by rw [HW1.out]; simp [hsa]
  have g0 : w1.heap[wa.heap.size]? = some (.cells #[.pointer (some ⟨b, 0, none⟩)] 45 (0, 0)) := by rw [HW1.out]; exact heap_old (heap_alloc_new wa _)
  have g1 : w1.heap[wa.heap.size + 1]? = some (.cells #[.int .i64 i] 3 (0, 0)) := by
    rw [HW1.out]
    have := heap_alloc_new (wa.alloc (.cells #[.pointer (some ⟨b, 0, none⟩)] 45)) (.cells #[.int .i64 i] 3)
    rwa [World.size_alloc] at this
  have hbe : Below w.heap.size w w1 := HBA.out.trans (hb1.mono (by omega))
  have hB0 : w1.heap[w.heap.size]? = some (.cells #[.int .i64 most] 3 (0, 0)) := (hb1.block _ (by omega)).trans A0.out
  have hB1 : w1.heap[w.heap.size + 1]? = some (.cells #[.slice none 0 0] 73 (0, 0)) := (hb1.block _ (by omega)).trans A1.out
  have hB2 : w1.heap[w.heap.size + 1 + 1]? = some (.cells #[.slice none 0 0] 29 (0, 0)) := (hb1.block _ (by omega)).trans A2.out
  have hit := walk1_iter (wa.heap.size + 1) wa.heap.size b L i N r (fun x => x < w1.heap.size ∧ x ≠ w.heap.size + 1 ∧ x ≠ w.heap.size + 1 + 1) w1 HWK.out ⟨by omega, by omega, by omega⟩ ⟨by omega, by omega, by omega⟩
    (fun W hW => HIX.out.same (fun x hx => (hW x ⟨by omega, by omega, by omega⟩).trans (hbe.block x hx))) g1 g0
  have HBE := Lib.hid hbe
  have HB0 := Lib.hid hB0
  have HB1 := Lib.hid hB1
  have HB2 := Lib.hid hB2
  obtain ⟨s, hs⟩ : ∃ s, s = w.heap.size := ⟨_, rfl⟩
  rw [← hs] at hit hsa hs1 HB0 HB1 HB2 ⊢
  have hsw : s + 1 + 1 < w1.heap.size := by omega
  have HS := Lib.hid hs
  clear hb1 g0 g1 hbe hB0 hB1 hB2 HW1 HW HBA A0 A1 A2 HIX hs
  refine wp_range_outer hit ?hg (enters_of Try.func111 (by kernel_rfl) rfl) (Nat.le_refl _) (fun x => x = s + 1 ∨ x = s + 1 + 1) ?hRd ?hM0 ?hps ?hArg
    (fun k M W => k ≤ most.toNat ∧ k ≤ N ∧ WkSt s w1 L r k M W)
    (fun c k M W => c = .exit 0 ∧ most.toNat ≤ N ∧ WkSt s w1 L r most.toNat M W)
    ?hI ?hIx ?hI0
    (fun args => { tmps := #[.pointer (some ⟨b, 0, none⟩), .int .i64 i, .int .i64 most, undef, undef, .pointer (some ⟨s, 0, none⟩), .slice none 0 0, .string ⟨#[]⟩, .pointer (some ⟨s + 1, 0, none⟩), .pointer (some ⟨s + 1 + 1, 0, none⟩), F, args.getD 0 undef, args.getD 1 undef, .pointer (some ⟨b, 0, none⟩), .int .i64 i, F, F, .bool false, F, args.getD 0 undef, args.getD 1 undef, undef, undef, undef, undef, undef, undef, undef, undef, undef, undef, undef, undef, undef, undef, undef], defers := [] })
    ?hassign ?hbody ?hdone ?hstop
  case hg => exact HFn.out
  case hRd => exact fun b hb => ⟨hb.1, fun h => by rcases h with h | h; exact hb.2.1 h; exact hb.2.2 h, rfl⟩
  case hM0 => rintro b (rfl | rfl) <;> omega
  case hps => rintro k args W _ rfl; rfl
  case hArg => exact fun _ _ _ _ _ _ h _ => h
  case hI => exact fun k M A B ⟨h1, h2, h3⟩ hf => ⟨h1, h2, h3.fr hf⟩
  case hIx => exact fun c k M A B ⟨h1, h2, h3⟩ hf => ⟨h1, h2, h3.fr hf⟩
  case hI0 => exact ⟨Nat.zero_le _, Nat.zero_le _, _, _, ColR.nil HB1.out (.inl rfl), ColR.nil HB2.out (.inr rfl), Fr.refl _ _⟩
  case hassign =>
    rintro l k args W K _ rfl hK
    gi_wp2
    exact hK
  case hbody =>
    rintro l k M args W hk ⟨h1, h2, va, vb, c1, c2, h4⟩ rfl hl hl2 hnl hrec hM
    have v5 := h4.size
    have hbW : s ≤ W.heap.size := by omega
    obtain ⟨Aa, ca, rfl⟩ := c1.shape
    obtain ⟨Ab, cb, rfl⟩ := c2.shape
    have k1 := c1.cell
    have k2 := c2.cell
    have f1 := c1.free
    have f2 := c2.free
    have k0 : W.cell? ⟨s, 0, none⟩ = some (.int .i64 most) := by rw [cell_of_block ((h4.block s (by omega) (by omega)).trans HB0.out)]; rfl
    have hby := wk_byte HWK.out HL2.out k hk
    have C1 := Lib.hid c1
    have C2 := Lib.hid c2
    have H4 := Lib.hid h4
    have HM := Lib.hid hM
    have HBY := Lib.hid hby
    obtain ⟨rk, hrk⟩ : ∃ rk, rk = r (k + 1) := ⟨_, rfl⟩
    obtain ⟨bk, hbk⟩ : ∃ bk, bk = symAt L (r k) - 1 := ⟨_, rfl⟩
    simp only [← hrk, ← hbk]
    have HRK := Lib.hid hrk
    have HBK := Lib.hid hbk
    clear c1 c2 h4 hM hrec hby hrk hbk
    by_cases hmk : (k : Int) < most
    · gi_wp2_with (first
        | (gi_at_builtin; refine wp_appIn s 73 3 (.int .i64 0) 1 8 (.tmp 25) (.tmp 27) rfl rfl Try.underlying73 info_int rfl (by decide) (by decide) (.slice Aa k ca) k ((wkR r k).map intV) #[.int .i64 rk] rfl rfl C1.out.own rfl (by intro u hu; simp at hu; subst hu; rfl) (by omega) hbW ?_; intro g9 cap9 w9 ho9 hg9 hat9 hgb9 hgl9 hgs9; have s9 := grown_block hg9 C1.out.var (own_ne_block C1.out.own C1.out.var (by decide)); have c9 : w9.cell? ⟨s + 1, 0, none⟩ = some (.slice Aa k ca) := (by rw [cell_of_block s9]; rfl); have f9 : w9.frozen? ⟨s + 1, 0, none⟩ = false := free_of_block s9; have t9 := grown_block hg9 C2.out.var (own_ne_block C1.out.own C2.out.var (by decide)); have e9 : w9.cell? ⟨s + 1 + 1, 0, none⟩ = some (.slice Ab k cb) := (by rw [cell_of_block t9]; rfl); have HO9 := Lib.hid ho9; have HG9 := Lib.hid hg9; have HAT9 := Lib.hid hat9; have D10 := Lib.hid (C2.out.after (u := .slice (some ⟨g9, 0, none⟩) (k + 1 : Nat) cap9) C1.out (by omega) (by decide) (by decide) (by decide) hg9); have hbW9 : s ≤ w9.heap.size := (by omega); clear s9 t9 ho9 hg9 hat9)
        | (gi_at_builtin; go_must (refine wp_appIn (W := w9.setCell ⟨s + 1, 0, none⟩ (.slice (some ⟨g9, 0, none⟩) (k + 1 : Nat) cap9)) s 29 5 (.int .u8 0) 1 1 (.tmp 29) (.tmp 31) rfl rfl Try.underlying29 info_u8 rfl (by decide) (by decide) (.slice Ab k cb) k ((wkB L r k).map byV) #[.int .u8 bk] rfl (by simp only [World.size_setCell]; rfl) D10.out.own rfl (by intro u hu; simp at hu; subst hu; rfl) (by omega) (by rw [World.size_setCell]; exact hbW9) ?_; intro g11 cap11 w11 ho11 hg11 hat11 hgb11 hgl11 hgs11; have s11 := grown_block hg11 D10.out.var (own_ne_block D10.out.own D10.out.var (by decide)); have c11 : w11.cell? ⟨s + 1 + 1, 0, none⟩ = some (.slice Ab k cb) := (by rw [cell_of_block s11]; rfl); have f11 : w11.frozen? ⟨s + 1 + 1, 0, none⟩ = false := free_of_block s11; have HO11 := Lib.hid ho11; have HG11 := Lib.hid hg11; have HAT11 := Lib.hid hat11; clear s11 ho11 hg11 hat11)))
      obtain ⟨c10, fr10⟩ := C1.out.snoc (by decide) HO9.out HG9.out HAT9.out hgl9
      obtain ⟨c12, fr12⟩ := D10.out.snoc (by decide) HO11.out HG11.out HAT11.out hgl11
      have d12 := c10.after (u := .slice (some ⟨g11, 0, none⟩) (k + 1 : Nat) cap11) D10.out (by omega) (by decide) (by decide) (by decide) HG11.out
      have hfr := fr10.trans' fr12 (fun y hy h => by rcases h with h | h; exact h; omega)
      have e1 : (wkR r (k + 1)).map intV = (wkR r k).map intV ++ #[Value.int .i64 rk].toList := by rw [wkR_succ, List.map_append, HRK.out]; rfl
      have e2 : (wkB L r (k + 1)).map byV = (wkB L r k).map byV ++ #[Value.int .u8 bk].toList := by rw [wkB_succ, List.map_append, List.map_cons, List.map_nil, HBY.out, HBK.out]
      rw [World.size_setCell] at hgs11
      rw [← e1] at d12
      rw [← e2] at c12
      have hI : WkSt s w1 L r (k + 1) _ _ := ⟨_, _, d12, c12, H4.out.col HM.out hfr⟩
      exact ⟨_, hfr, fun y hy => grM_ok (M0 := M) (lim := W.heap.size) (fun y hy => ⟨.inl hy, (HM.out y hy).2⟩) (by omega) y (grM_grM (by omega) (by rw [World.size_setCell]) (by rw [World.size_setCell]; omega) hy), by omega, by omega, hI⟩
    · have hkm : k = most.toNat := by omega
      subst hkm
      gi_wp2
      exact ⟨M, Fr.refl _ _, fun b hb => ⟨.inl hb, (HM.out b hb).2⟩, rfl, _, _, C1.out, C2.out, H4.out⟩
  case hdone =>
    rintro D M W ⟨h1, h2, va, vb, c1, c2, h4⟩ hD hnD hKD hM
    obtain rfl : m = N := by have := HMm.out; omega
    obtain ⟨Aa, ca, rfl⟩ := c1.shape
    obtain ⟨Ab, cb, rfl⟩ := c2.shape
    have k1 := c1.cell
    have k2 := c2.cell
    have hcv := fun q => conv_back (W.drewN q) _ _ (c2.slR.later (below_drewN (Below.refl _ _) q))
    simp only [strV] at hcv
    have C1 := Lib.hid c1
    have H4 := Lib.hid h4
    have HKD := Lib.hid hKD
    clear c1 c2 h4 hM hKD
    gi_wp2_with fail
    gi_quiet (fail)
    gi_wp2_with fail
    exact walk_ends (W := W.drewN nq) HS.out HBE.out hsw hD hnD HKD.out (C1.out.fr0 ((Fr.refl _ _).drewN nq)) (H4.out.drewN nq) (fun W2 => (results_tmp2 rfl _ _ W2).trans rfl)
  case hstop =>
    rintro D c k M W hk ⟨rfl, h2, va, vb, c1, c2, h4⟩ hD hnD hKD hM
    obtain rfl : m = most.toNat := by have := HMm.out; omega
    obtain ⟨Aa, ca, rfl⟩ := c1.shape
    obtain ⟨Ab, cb, rfl⟩ := c2.shape
    have k1 := c1.cell
    have k2 := c2.cell
    have hcv := fun q => conv_back (W.drewN q) _ _ (c2.slR.later (below_drewN (Below.refl _ _) q))
    simp only [strV] at hcv
    have C1 := Lib.hid c1
    have H4 := Lib.hid h4
    have HKD := Lib.hid hKD
    clear c1 c2 h4 hM hKD
    gi_wp2_with fail
    gi_quiet (fail)
    gi_wp2_with fail
    exact walk_ends (W := W.drewN nq) HS.out HBE.out hsw hD hnD HKD.out (C1.out.fr0 ((Fr.refl _ _).drewN nq)) (H4.out.drewN nq) (fun W2 => (results_tmp2 rfl _ _ W2).trans rfl)
end Go.Proofs.Ytinlmodkdjpocaa
