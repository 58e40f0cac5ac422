/- text: the iterator over the places of a text in a document (text.In), and the one over all documents' (Find). -/
import Derived.Test.YtinlmodkdjpocaaTxb
import Derived.Test.YtinlmodkdjpocaaTxFM
import Derived.Test.YtinlmodkdjpocaaIt
import Derived.Test.YtinlmodkdjpocaaShelf
import Derived.Shelf.RegionOpen
import Derived.Shelf.Abstract
set_option linter.unusedVariables false
namespace Go.Proofs.Ytinlmodkdjpocaa
open Go.RowKit Go.Shelf
attribute [local go_sem] Oper.semAt_some

/-- the variable of bytealg's that bytes.Index reads holds some number -/
def GL (w : World) : Prop := ∃ m : Int, w.cell? ⟨0, 0, none⟩ = some (.int .i64 m)
/-- bytes.Index -/
def IdxC : Prop := ∀ (a1 a2 : Addr) (c1 c2 : Nat) (d p : List UInt8) (w : World), SlR byV w (.slice (some a1) d.length c1) d → SlR byV w (.slice (some a2) p.length c2) p → GL w → d.length < 4294967281 → p.length < 4294967281 → Calls Try.prog 119 #[.slice (some a1) d.length c1, .slice (some a2) p.length c2] w fun e w' => e = .returned (.int .i64 (Lib.index d p)) ∧ ∃ q, w' = w.drewN q

theorem bytesOf_map (d : List UInt8) : Lib.bytesOf (d.map fun b => (b.toNat : Int)) = d := by
  simp only [Lib.bytesOf, List.map_map]
  conv => rhs; rw [← List.map_id d]
  refine List.map_congr_left fun b _ => ?_
  simp [UInt8.ofNat_toNat]
theorem idx_c : IdxC := by
  intro a1 a2 c1 c2 d p w hd hp hG hdl hpl
  obtain ⟨m, hm⟩ := hG
  have h1 : ∀ (xs : List UInt8), ∀ x ∈ xs.map (fun b => (b.toNat : Int)), 0 ≤ x ∧ x < 256 := by
    intro xs x hx
    simp only [List.mem_map] at hx
    obtain ⟨b, _, rfl⟩ := hx
    have := b.toNat_lt
    omega
  have h2 : ∀ (ad : Addr) (c : Nat) (xs : List UInt8), SlR byV w (.slice (some ad) xs.length c) xs → ∀ i, i < xs.length → w.cell? (ad.add i) = some (.int .u8 ((xs.map fun b => (b.toNat : Int)).getD i 0)) := by
    intro ad c xs h i hi
    obtain ⟨ad', e, hc⟩ := h.at_ i hi
    cases e
    rw [hc]
    simp [byV, List.getD, hi]
  have hc1 : d.length ≤ c1 := by
    obtain ⟨_, _, he1, hc1, _, _⟩ := hd
    injection he1 with _ _ e3
    subst e3
    exact hc1
  have := Try.bytes_Index_at a1 a2 d.length c1 p.length c2 (d.map fun b => (b.toNat : Int)) (p.map fun b => (b.toNat : Int)) m w (by simp) (by simp) (h1 d) (h1 p) (h2 a1 c1 d hd) (h2 a2 c2 p hp) hc1 hdl (by omega) hm
  rw [bytesOf_map, bytesOf_map] at this
  exact this
set_option maxHeartbeats 2000000 in
theorem in1_iter (b1 b2 : Nat) (R : Nat → Prop) (w0 : World) (d p : List UInt8) (dv pv : Value) (hR1 : R b1) (hR2 : R b2) (hdata : ∀ W : World, (∀ b, R b → W.heap[b]? = w0.heap[b]?) → SlR byV W dv d ∧ SlR byV W pv p ∧ GL W)
    (h1 : w0.heap[b1]? = some (.cells #[pv] 29 (0, 0))) (h2 : w0.heap[b2]? = some (.cells #[dv] 29 (0, 0))) (hdl : d.length < 4294967281) (hpl : p.length < 4294967281) :
    IterC Try.prog 118 #[.pointer (some ⟨b1, 0, none⟩), .pointer (some ⟨b2, 0, none⟩)] (occ p d).length (fun k args _ => ∃ x, (occ p d)[k]? = some x ∧ args = #[.int .i64 (x : Nat)]) R w0 := by
  intro l M0 J Jx W hsz hRd hM0 hJ hJx hY hJ0
  have hIdx' := Lib.hid idx_c
  refine (callsIn_wide (n := 5)).1 ?_
  refine callsIn_of_wp Try.func118 rfl trivial ?_ rfl
  simp only [Try.ntmps118, List.size_toArray, List.length_cons, List.length_nil, Nat.reduceAdd, Nat.reduceSub, Array.replicate_succ, Array.replicate_zero, List.push_toArray, List.append_toArray, List.nil_append, List.cons_append]
  have HY := Lib.hid hY
  have HRd := Lib.hid hRd
  have HJ := Lib.hid hJ
  have HJx := Lib.hid hJx
  have HM0 := Lib.hid hM0
  have H1 := Lib.hid h1
  have H2 := Lib.hid h2
  have HDA := Lib.hid hdata
  have HJ0 := Lib.hid hJ0
  have HR1 := Lib.hid hR1
  have HR2 := Lib.hid hR2
  clear hY hRd hJ hJx hM0 h1 h2 hdata hJ0 hR1 hR2
  gi_wp2
  gi_loopw [4] (fun at_ wr => ∃ (k a : Nat) (M : Nat → Prop), at_ = .int .i64 a ∧ k ≤ (occ p d).length ∧ a ≤ d.length + 1 ∧ Hid ((p = [] → k = (occ p d).length) ∧ (p ≠ [] → (occ p d).drop k = occF p d a)) ∧ Hid (J k M wr) ∧ Hid (∀ b, M b → (M0 b ∨ W.heap.size ≤ b) ∧ b < wr.heap.size) ∧ Hid (∀ b, R b → wr.heap[b]? = w0.heap[b]?) ∧ W.heap.size ≤ wr.heap.size)
    (fun at_ _ => d.length + 1 - (intOf at_).toNat)
  case atStart =>
    refine ⟨0, 0, M0, rfl, Nat.zero_le _, Nat.zero_le _, Lib.hid ⟨fun e => by subst e; rfl, fun e => by unfold occ; rw [if_neg e]; rfl⟩, Lib.hid HJ0.out, Lib.hid (fun b hb => ⟨.inl hb, HM0.out b hb⟩), Lib.hid (fun b hb => (HRd.out b hb).2.2), Nat.le_refl _⟩
  case round =>
    obtain ⟨k, a, M, rfl, hk, ha, hocc, hj, hm, hsame, hsz2⟩ := hrel
    have c1 : wr.cell? ⟨b1, 0, none⟩ = some pv := by rw [cell_of_block ((hsame.out b1 HR1.out).trans H1.out)]; rfl
    have c2 : wr.cell? ⟨b2, 0, none⟩ = some dv := by rw [cell_of_block ((hsame.out b2 HR2.out).trans H2.out)]; rfl
    have HDw := Lib.hid (HDA.out wr hsame.out).1
    have HPw := Lib.hid (HDA.out wr hsame.out).2.1
    have HGw := Lib.hid (HDA.out wr hsame.out).2.2
    obtain ⟨AD, cD, hdv, hd1, hd2, -⟩ := HDw.out.form
    obtain ⟨AP, cP, hpv, hp1, hp2, -⟩ := HPw.out.form
    subst hdv
    subst hpv
    by_cases hgo : p ≠ [] ∧ a + p.length ≤ d.length
    · obtain ⟨hp0, hap⟩ := hgo
      have hpl0 : 0 < p.length := List.length_pos_iff.2 hp0
      obtain ⟨adD, rfl, -⟩ := HDw.out.at_ 0 (by omega)
      obtain ⟨adP, rfl, -⟩ := HPw.out.at_ 0 hpl0
      have hdrop := Lib.hid (HDw.out.drop a (by omega))
      have hHP0 := Lib.hid hp0
      clear hp0
      have hcall : ∀ W2 : World, (∀ x : Nat, W2.heap[x]? = wr.heap[x]?) → CallsIn Fence.wide 4 Try.prog 119 #[.slice (some (adD.add a)) (d.length - a) (cD - a), .slice (some adP) p.length cP] W2 fun e w' => e = .returned (.int .i64 (Lib.index (d.drop a) p)) ∧ ∃ q, w' = W2.drewN q := by
        intro W2 h
        have hl : (d.drop a).length = d.length - a := List.length_drop
        have hcc := hIdx'.out (adD.add a) adP (cD - a) cP (d.drop a) p W2 (by rw [hl]; exact hdrop.out.same (Nat.le_refl _) (fun b _ => h b)) (HPw.out.same (Nat.le_refl _) (fun b _ => h b)) ?_ (by rw [hl]; omega) (by omega)
        · rw [hl] at hcc
          exact callsIn_wide.2 hcc
        obtain ⟨m, hm⟩ := HGw.out
        exact ⟨m, (World.cell?_of_block (w := wr) (h 0)).trans hm⟩
      have HC := Lib.hid hcall
      clear hcall
      rcases occF_step p d a (by omega) with ⟨he, hnil⟩ | ⟨i, he, hle, hcons⟩
      · have hE := Lib.hid he
        have hN := Lib.hid hnil
        clear he hnil
        gi_wp2
        gi_region_with (refine ⟨trivial, ?_⟩; gi_at_call 119; go_must (refine (HC.out wr.drew (fun _ => rfl)).mono ?_; rintro e w2 ⟨rfl, q, rfl⟩; rw [hE.out]))
        gi_wp2
        all_goals
          refine ⟨fun _ h => (by cases h), ?_⟩
          gi_wp2
          refine bodyPost_ret (results_none rfl _ _ _) rfl ?_
          have hk' : k = (occ p d).length := by
            have h := hocc.out.2 hHP0.out
            rw [hN.out] at h
            have := List.drop_eq_nil_iff.1 h
            omega
          subst hk'
          exact ⟨⟨_, rfl⟩, M, hsz2, fun b hb => ⟨(hm.out b hb).1, (hm.out b hb).2⟩, .inl (HJ.out _ _ _ _ hj.out ((Fr.refl _ _).drewN _))⟩
      · have hE := Lib.hid he
        have hN := Lib.hid hcons
        clear he hcons
        have hk' : k < (occ p d).length := by
          have h := hocc.out.2 hHP0.out
          rw [hN.out] at h
          rcases Nat.lt_or_ge k (occ p d).length with h2 | h2
          · exact h2
          · rw [List.drop_eq_nil_iff.2 h2] at h; cases h
        have hget : (occ p d)[k]? = some (a + i) := by
          have h := hocc.out.2 hHP0.out
          rw [hN.out] at h
          have h3 : ((occ p d).drop k)[0]? = some (a + i) := by rw [h]; rfl
          simpa using h3
        have hnext : (occ p d).drop (k + 1) = occF p d (a + i + 1) := by
          have h := hocc.out.2 hHP0.out
          rw [hN.out] at h
          rw [← List.drop_drop, h]; rfl
        have HG2 := Lib.hid hget
        have HN2 := Lib.hid hnext
        clear hget hnext
        gi_wp2
        gi_region_with (refine ⟨trivial, ?_⟩; gi_at_call 119; go_must (refine (HC.out wr.drew (fun _ => rfl)).mono ?_; rintro e w2 ⟨rfl, q, rfl⟩; rw [hE.out]))
        gi_wp2
        all_goals
          obtain ⟨fn, tmps, assign, body, hy, hR⟩ := HY.out k M #[.int .i64 ((a : Int) + i)] (wr.drewN (1 + q)) hk' (HJ.out _ _ _ _ hj.out ((Fr.refl _ _).drewN _)) ⟨a + i, HG2.out, by simp⟩ hm.out hsz2
          rw [hy]
          refine ⟨fun h => by simp [Fence.wide] at h, (roundIn_wide hR).mono ?_⟩
          clear hy hR
          rintro e W3 ⟨M2, hfr, hm2, ⟨rfl, hJ3⟩ | ⟨rfl, hJx3⟩⟩
          · have hsz3 : wr.heap.size ≤ W3.heap.size := hfr.size
            have HF := Lib.hid hfr
            have HM2 := Lib.hid hm2
            have HJ3 := Lib.hid hJ3
            clear hfr hm2 hJ3
            have HS : Hid (∀ b, R b → W3.heap[b]? = w0.heap[b]?) := by
              refine Lib.hid fun b hb => ?_
              have h0 := HRd.out b hb
              refine (HF.out.block b ?_ ?_).trans (hsame.out b hb)
              · show b < wr.heap.size
                omega
              · intro hMb
                rcases (hm.out b hMb).1 with h | h
                · exact h0.2.1 h
                · omega
            have HM3 : Hid (∀ b, M2 b → (M0 b ∨ W.heap.size ≤ b) ∧ b < W3.heap.size) := by
              refine Lib.hid fun b hb => ⟨?_, (HM2.out b hb).2⟩
              rcases (HM2.out b hb).1 with h | h
              · exact (hm.out b h).1
              · right; have : wr.heap.size ≤ b := h; omega
            gi_wp2
            go_roundw
            case rel => exact ⟨k + 1, a + i + 1, M2, by go_num, by omega, by omega, Lib.hid ⟨fun e => absurd e hHP0.out, fun _ => HN2.out⟩, Lib.hid HJ3.out, HM3, HS, by omega⟩
            case measure => simp [intOf]; omega
          · have HF := Lib.hid hfr
            have HM2 := Lib.hid hm2
            have HJ3 := Lib.hid hJx3
            clear hfr hm2 hJx3
            have hsz3 : wr.heap.size ≤ W3.heap.size := HF.out.size
            gi_wp2
            refine bodyPost_ret (results_none rfl _ _ _) rfl ?_
            refine ⟨⟨_, rfl⟩, M2, by omega, fun b hb => ⟨?_, (HM2.out b hb).2⟩, .inr ⟨k + 1, hk', HJ3.out⟩⟩
            rcases (HM2.out b hb).1 with h | h
            · exact (hm.out b h).1
            · right; have : wr.heap.size ≤ b := h; omega
    · have hk' : k = (occ p d).length := by
        by_cases hp0 : p = []
        · exact hocc.out.1 hp0
        · have h := hocc.out.2 hp0
          rw [occF_past p d a (by have : ¬ (a + p.length ≤ d.length) := fun h => hgo ⟨hp0, h⟩; omega)] at h
          have := List.drop_eq_nil_iff.1 h
          omega
      have hJN := Lib.hid (show J (occ p d).length M wr from hk' ▸ hj.out)
      clear hk'
      by_cases hp0 : p.length = 0
      · have hp1 : ((p.length : Nat) : Int) = 0 := by omega
        gi_wp2
        go_end0
        exact ⟨⟨_, rfl⟩, M, hsz2, fun b hb => hm.out b hb, .inl hJN.out⟩
      · have hlt : d.length < a + p.length := by
          have : ¬ (a + p.length ≤ d.length) := fun h => hgo ⟨fun e => hp0 (by rw [e]; rfl), h⟩
          omega
        have hp1 : 0 < p.length := by omega
        clear hgo hp0
        gi_wp2
        go_end0
        exact ⟨⟨_, rfl⟩, M, hsz2, fun b hb => hm.out b hb, .inl hJN.out⟩

theorem in_any (dv pv : Value) (w : World) (A B : Option Addr) (n c m e : Nat) (hdv : dv = .slice A n c) (hpv : pv = .slice B m e) :
    Calls Try.prog 96 #[dv, pv] w fun e w' => e = .returned (.func (.func 118) #[] #[.pointer (some ⟨w.heap.size + 1, 0, none⟩), .pointer (some ⟨w.heap.size, 0, none⟩)]) ∧ w' = (w.alloc (.cells #[dv] 29)).alloc (.cells #[pv] 29) := by
  subst hdv
  subst hpv
  go_enter Try.func96, Try.ntmps96
  go_wp2
  go_ret
  exact ⟨rfl, rfl⟩
end Go.Proofs.Ytinlmodkdjpocaa
