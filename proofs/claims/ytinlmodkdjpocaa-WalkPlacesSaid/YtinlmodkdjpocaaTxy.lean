/- text: the iterator over the places of a text in a document (text.In), and the one over all documents' (Find). text: Find: the iterator over all documents' places. text: Find, and what the laws make of it. text: what the laws' Find makes of text.Find: the first hits. -/
import Derived.Test.YtinlmodkdjpocaaTxu
import Derived.Test.YtinlmodkdjpocaaTpl
import Derived.Test.YtinlmodkdjpocaaGen
import Derived.Test.YtinlmodkdjpocaaShelf
import Derived.Shelf.RegionOpen
import Derived.Shelf.Abstract
import Derived.Lib.ConvBytes
set_option linter.unusedVariables false
namespace Go.Proofs.Ytinlmodkdjpocaa
open Go.RowKit Go.Shelf
attribute [local go_sem] Oper.semAt_some

/-- the variable of bytealg's that bytes.Index reads holds some number -/
def GL (w : World) : Prop := ∃ m : Int, w.cell? ⟨0, 0, none⟩ = some (.int .i64 m)
/-- bytes.Index -/
def IdxC : Prop := ∀ (a1 a2 : Addr) (c1 c2 : Nat) (d p : List UInt8) (w : World), SlR byV w (.slice (some a1) d.length c1) d → SlR byV w (.slice (some a2) p.length c2) p → GL w → d.length < 4294967281 → p.length < 4294967281 → Calls Try.prog 119 #[.slice (some a1) d.length c1, .slice (some a2) p.length c2] w fun e w' => e = .returned (.int .i64 (Lib.index d p)) ∧ ∃ q, w' = w.drewN q

theorem bytesOf_map (d : List UInt8) : Lib.bytesOf (d.map fun b => (b.toNat : Int)) = d := by
  simp only [Lib.bytesOf, List.map_map]
  conv => rhs; rw [← List.map_id d]
  refine List.map_congr_left fun b _ => ?_
  simp [UInt8.ofNat_toNat]
theorem idx_c : IdxC := by
  intro a1 a2 c1 c2 d p w hd hp hG hdl hpl
  obtain ⟨m, hm⟩ := hG
  have h1 : ∀ (xs : List UInt8), ∀ x ∈ xs.map (fun b => (b.toNat : Int)), 0 ≤ x ∧ x < 256 := by
    intro xs x hx
    simp only [List.mem_map] at hx
    obtain ⟨b, _, rfl⟩ := hx
    have := b.toNat_lt
    omega
  have h2 : ∀ (ad : Addr) (c : Nat) (xs : List UInt8), SlR byV w (.slice (some ad) xs.length c) xs → ∀ i, i < xs.length → w.cell? (ad.add i) = some (.int .u8 ((xs.map fun b => (b.toNat : Int)).getD i 0)) := by
    intro ad c xs h i hi
    obtain ⟨ad', e, hc⟩ := h.at_ i hi
    cases e
    rw [hc]
    simp [byV, List.getD, hi]
  have hc1 : d.length ≤ c1 := by
    obtain ⟨_, _, he1, hc1, _, _⟩ := hd
    injection he1 with _ _ e3
    subst e3
    exact hc1
  have := Try.bytes_Index_at a1 a2 d.length c1 p.length c2 (d.map fun b => (b.toNat : Int)) (p.map fun b => (b.toNat : Int)) m w (by simp) (by simp) (h1 d) (h1 p) (h2 a1 c1 d hd) (h2 a2 c2 p hp) hc1 hdl (by omega) hm
  rw [bytesOf_map, bytesOf_map] at this
  exact this
set_option maxHeartbeats 2000000 in
theorem in1_iter (b1 b2 : Nat) (R : Nat → Prop) (w0 : World) (d p : List UInt8) (dv pv : Value) (hR1 : R b1) (hR2 : R b2) (hdata : ∀ W : World, (∀ b, R b → W.heap[b]? = w0.heap[b]?) → SlR byV W dv d ∧ SlR byV W pv p ∧ GL W)
    (h1 : w0.heap[b1]? = some (.cells #[pv] 29 (0, 0))) (h2 : w0.heap[b2]? = some (.cells #[dv] 29 (0, 0))) (hdl : d.length < 4294967281) (hpl : p.length < 4294967281) :
    IterC Try.prog 118 #[.pointer (some ⟨b1, 0, none⟩), .pointer (some ⟨b2, 0, none⟩)] (occ p d).length (fun k args _ => ∃ x, (occ p d)[k]? = some x ∧ args = #[.int .i64 (x : Nat)]) R w0 := by
  intro l M0 J Jx W hsz hRd hM0 hJ hJx hY hJ0
  have hIdx' := Lib.hid idx_c
  refine (callsIn_wide (n := 5)).1 ?_
  refine callsIn_of_wp Try.func118 rfl trivial ?_ rfl
  simp only [Try.ntmps118, List.size_toArray, List.length_cons, List.length_nil, Nat.reduceAdd, Nat.reduceSub, Array.replicate_succ, Array.replicate_zero, List.push_toArray, List.append_toArray, List.nil_append, List.cons_append]
  have HY := Lib.hid hY
  have HRd := Lib.hid hRd
  have HJ := Lib.hid hJ
  have HJx := Lib.hid hJx
  have HM0 := Lib.hid hM0
  have H1 := Lib.hid h1
  have H2 := Lib.hid h2
  have HDA := Lib.hid hdata
  have HJ0 := Lib.hid hJ0
  have HR1 := Lib.hid hR1
  have HR2 := Lib.hid hR2
  clear hY hRd hJ hJx hM0 h1 h2 hdata hJ0 hR1 hR2
  gi_wp2
  gi_loopw [4] (fun at_ wr => ∃ (k a : Nat) (M : Nat → Prop), at_ = .int .i64 a ∧ k ≤ (occ p d).length ∧ a ≤ d.length + 1 ∧ Hid ((p = [] → k = (occ p d).length) ∧ (p ≠ [] → (occ p d).drop k = occF p d a)) ∧ Hid (J k M wr) ∧ Hid (∀ b, M b → (M0 b ∨ W.heap.size ≤ b) ∧ b < wr.heap.size) ∧ Hid (∀ b, R b → wr.heap[b]? = w0.heap[b]?) ∧ W.heap.size ≤ wr.heap.size)
    (fun at_ _ => d.length + 1 - (intOf at_).toNat)
  case atStart =>
    refine ⟨0, 0, M0, rfl, Nat.zero_le _, Nat.zero_le _, Lib.hid ⟨fun e => by subst e; rfl, fun e => by unfold occ; rw [if_neg e]; rfl⟩, Lib.hid HJ0.out, Lib.hid (fun b hb => ⟨.inl hb, HM0.out b hb⟩), Lib.hid (fun b hb => (HRd.out b hb).2.2), Nat.le_refl _⟩
  case round =>
    obtain ⟨k, a, M, rfl, hk, ha, hocc, hj, hm, hsame, hsz2⟩ := hrel
    have c1 : wr.cell? ⟨b1, 0, none⟩ = some pv := by rw [cell_of_block ((hsame.out b1 HR1.out).trans H1.out)]; rfl
    have c2 : wr.cell? ⟨b2, 0, none⟩ = some dv := by rw [cell_of_block ((hsame.out b2 HR2.out).trans H2.out)]; rfl
    have HDw := Lib.hid (HDA.out wr hsame.out).1
    have HPw := Lib.hid (HDA.out wr hsame.out).2.1
    have HGw := Lib.hid (HDA.out wr hsame.out).2.2
    obtain ⟨AD, cD, hdv, hd1, hd2, -⟩ := HDw.out.form
    obtain ⟨AP, cP, hpv, hp1, hp2, -⟩ := HPw.out.form
    subst hdv
    subst hpv
    by_cases hgo : p ≠ [] ∧ a + p.length ≤ d.length
    · obtain ⟨hp0, hap⟩ := hgo
      have hpl0 : 0 < p.length := List.length_pos_iff.2 hp0
      obtain ⟨adD, rfl, -⟩ := HDw.out.at_ 0 (by omega)
      obtain ⟨adP, rfl, -⟩ := HPw.out.at_ 0 hpl0
      have hdrop := Lib.hid (HDw.out.drop a (by omega))
      have hHP0 := Lib.hid hp0
      clear hp0
      have hcall : ∀ W2 : World, (∀ x : Nat, W2.heap[x]? = wr.heap[x]?) → CallsIn Fence.wide 4 Try.prog 119 #[.slice (some (adD.add a)) (d.length - a) (cD - a), .slice (some adP) p.length cP] W2 fun e w' => e = .returned (.int .i64 (Lib.index (d.drop a) p)) ∧ ∃ q, w' = W2.drewN q := by
        intro W2 h
        have hl : (d.drop a).length = d.length - a := List.length_drop
        have hcc := hIdx'.out (adD.add a) adP (cD - a) cP (d.drop a) p W2 (by rw [hl]; exact hdrop.out.same (Nat.le_refl _) (fun b _ => h b)) (HPw.out.same (Nat.le_refl _) (fun b _ => h b)) ?_ (by rw [hl]; omega) (by omega)
        · rw [hl] at hcc
          exact callsIn_wide.2 hcc
        obtain ⟨m, hm⟩ := HGw.out
        exact ⟨m, (World.cell?_of_block (w := wr) (h 0)).trans hm⟩
      have HC := Lib.hid hcall
      clear hcall
      rcases occF_step p d a (by omega) with ⟨he, hnil⟩ | ⟨i, he, hle, hcons⟩
      · have hE := Lib.hid he
        have hN := Lib.hid hnil
        clear he hnil
        gi_wp2
        gi_region_with (refine ⟨trivial, ?_⟩; gi_at_call 119; go_must (refine (HC.out wr.drew (fun _ => rfl)).mono ?_; rintro e w2 ⟨rfl, q, rfl⟩; rw [hE.out]))
        gi_wp2
        all_goals
          refine ⟨fun _ h => (by cases h), ?_⟩
          gi_wp2
          refine bodyPost_ret (results_none rfl _ _ _) rfl ?_
          have hk' : k = (occ p d).length := by
            have h := hocc.out.2 hHP0.out
            rw [hN.out] at h
            have := List.drop_eq_nil_iff.1 h
            omega
          subst hk'
          exact ⟨⟨_, rfl⟩, M, hsz2, fun b hb => ⟨(hm.out b hb).1, (hm.out b hb).2⟩, .inl (HJ.out _ _ _ _ hj.out ((Fr.refl _ _).drewN _))⟩
      · have hE := Lib.hid he
        have hN := Lib.hid hcons
        clear he hcons
        have hk' : k < (occ p d).length := by
          have h := hocc.out.2 hHP0.out
          rw [hN.out] at h
          rcases Nat.lt_or_ge k (occ p d).length with h2 | h2
          · exact h2
          · rw [List.drop_eq_nil_iff.2 h2] at h; cases h
        have hget : (occ p d)[k]? = some (a + i) := by
          have h := hocc.out.2 hHP0.out
          rw [hN.out] at h
          have h3 : ((occ p d).drop k)[0]? = some (a + i) := by rw [h]; rfl
          simpa using h3
        have hnext : (occ p d).drop (k + 1) = occF p d (a + i + 1) := by
          have h := hocc.out.2 hHP0.out
          rw [hN.out] at h
          rw [← List.drop_drop, h]; rfl
        have HG2 := Lib.hid hget
        have HN2 := Lib.hid hnext
        clear hget hnext
        gi_wp2
        gi_region_with (refine ⟨trivial, ?_⟩; gi_at_call 119; go_must (refine (HC.out wr.drew (fun _ => rfl)).mono ?_; rintro e w2 ⟨rfl, q, rfl⟩; rw [hE.out]))
        gi_wp2
        all_goals
          obtain ⟨fn, tmps, assign, body, hy, hR⟩ := HY.out k M #[.int .i64 ((a : Int) + i)] (wr.drewN (1 + q)) hk' (HJ.out _ _ _ _ hj.out ((Fr.refl _ _).drewN _)) ⟨a + i, HG2.out, by simp⟩ hm.out hsz2
          rw [hy]
          refine ⟨fun h => by simp [Fence.wide] at h, (roundIn_wide hR).mono ?_⟩
          clear hy hR
          rintro e W3 ⟨M2, hfr, hm2, ⟨rfl, hJ3⟩ | ⟨rfl, hJx3⟩⟩
          · have hsz3 : wr.heap.size ≤ W3.heap.size := hfr.size
            have HF := Lib.hid hfr
            have HM2 := Lib.hid hm2
            have HJ3 := Lib.hid hJ3
            clear hfr hm2 hJ3
            have HS : Hid (∀ b, R b → W3.heap[b]? = w0.heap[b]?) := by
              refine Lib.hid fun b hb => ?_
              have h0 := HRd.out b hb
              refine (HF.out.block b ?_ ?_).trans (hsame.out b hb)
              · show b < wr.heap.size
                omega
              · intro hMb
                rcases (hm.out b hMb).1 with h | h
                · exact h0.2.1 h
                · omega
            have HM3 : Hid (∀ b, M2 b → (M0 b ∨ W.heap.size ≤ b) ∧ b < W3.heap.size) := by
              refine Lib.hid fun b hb => ⟨?_, (HM2.out b hb).2⟩
              rcases (HM2.out b hb).1 with h | h
              · exact (hm.out b h).1
              · right; have : wr.heap.size ≤ b := h; omega
            gi_wp2
            go_roundw
            case rel => exact ⟨k + 1, a + i + 1, M2, by go_num, by omega, by omega, Lib.hid ⟨fun e => absurd e hHP0.out, fun _ => HN2.out⟩, Lib.hid HJ3.out, HM3, HS, by omega⟩
            case measure => simp [intOf]; omega
          · have HF := Lib.hid hfr
            have HM2 := Lib.hid hm2
            have HJ3 := Lib.hid hJx3
            clear hfr hm2 hJx3
            have hsz3 : wr.heap.size ≤ W3.heap.size := HF.out.size
            gi_wp2
            refine bodyPost_ret (results_none rfl _ _ _) rfl ?_
            refine ⟨⟨_, rfl⟩, M2, by omega, fun b hb => ⟨?_, (HM2.out b hb).2⟩, .inr ⟨k + 1, hk', HJ3.out⟩⟩
            rcases (HM2.out b hb).1 with h | h
            · exact (hm.out b h).1
            · right; have : wr.heap.size ≤ b := h; omega
    · have hk' : k = (occ p d).length := by
        by_cases hp0 : p = []
        · exact hocc.out.1 hp0
        · have h := hocc.out.2 hp0
          rw [occF_past p d a (by have : ¬ (a + p.length ≤ d.length) := fun h => hgo ⟨hp0, h⟩; omega)] at h
          have := List.drop_eq_nil_iff.1 h
          omega
      have hJN := Lib.hid (show J (occ p d).length M wr from hk' ▸ hj.out)
      clear hk'
      by_cases hp0 : p.length = 0
      · have hp1 : ((p.length : Nat) : Int) = 0 := by omega
        gi_wp2
        go_end0
        exact ⟨⟨_, rfl⟩, M, hsz2, fun b hb => hm.out b hb, .inl hJN.out⟩
      · have hlt : d.length < a + p.length := by
          have : ¬ (a + p.length ≤ d.length) := fun h => hgo ⟨fun e => hp0 (by rw [e]; rfl), h⟩
          omega
        have hp1 : 0 < p.length := by omega
        clear hgo hp0
        gi_wp2
        go_end0
        exact ⟨⟨_, rfl⟩, M, hsz2, fun b hb => hm.out b hb, .inl hJN.out⟩

theorem in_any (dv pv : Value) (w : World) (A B : Option Addr) (n c m e : Nat) (hdv : dv = .slice A n c) (hpv : pv = .slice B m e) :
    Calls Try.prog 96 #[dv, pv] w fun e w' => e = .returned (.func (.func 118) #[] #[.pointer (some ⟨w.heap.size + 1, 0, none⟩), .pointer (some ⟨w.heap.size, 0, none⟩)]) ∧ w' = (w.alloc (.cells #[dv] 29)).alloc (.cells #[pv] 29) := by
  subst hdv
  subst hpv
  go_enter Try.func96, Try.ntmps96
  go_wp2
  go_ret
  exact ⟨rfl, rfl⟩
end Go.Proofs.Ytinlmodkdjpocaa

set_option linter.unusedVariables false
namespace Go.Proofs.Ytinlmodkdjpocaa
open Go.RowKit Go.Shelf
attribute [local go_sem] Oper.semAt_some

/-- the marks of loops that have ended -/
def marks (Ds : List Nat) : List Deferred := Ds.map fun D => { target := .collected D, args := #[] }

set_option maxRecDepth 100000 in
set_option maxHeartbeats 2000000 in
theorem find1_iter (b1 b2 b : Nat) (R : Nat → Prop) (w0 : World) (ds : List (List UInt8)) (p : List UInt8) (dv pv : Value) (vs : List Value) (hvl : vs.length = ds.length) (hR1 : R b1) (hR2 : R b2) (hRs : ∀ b, R b → b < w0.heap.size)
    (hdata : ∀ W : World, (∀ b, R b → W.heap[b]? = w0.heap[b]?) → W.cell? ⟨b, 0, none⟩ = some dv ∧ SlR id W dv vs ∧ (∀ j (h : j < vs.length) (h' : j < ds.length), SlR byV W vs[j] ds[j]) ∧ SlR byV W pv p ∧ GL W)
    (h1 : w0.heap[b1]? = some (.cells #[.pointer (some ⟨b, 0, none⟩)] 25 (0, 0))) (h2 : w0.heap[b2]? = some (.cells #[pv] 29 (0, 0))) (hdl : ∀ d ∈ ds, d.length < 4294967281) (hpl : p.length < 4294967281) :
    IterC Try.prog 95 #[.pointer (some ⟨b1, 0, none⟩), .pointer (some ⟨b2, 0, none⟩)] (hits p ds).length (fun k args _ => ∃ x, (hits p ds)[k]? = some x ∧ args = #[.int .i64 (x.1 : Nat), .int .i64 (x.2 : Nat)]) R w0 := by
  intro l M0 J Jx W hsz hRd hM0 hJ hJx hY hJ0
  refine (callsIn_wide (n := 5)).1 ?_
  refine callsIn_of_wp_marks Try.func95 rfl trivial ?_ rfl
  simp only [Try.ntmps95, List.size_toArray, List.length_cons, List.length_nil, Nat.reduceAdd, Nat.reduceSub, Array.replicate_succ, Array.replicate_zero, List.push_toArray, List.append_toArray, List.nil_append, List.cons_append]
  obtain ⟨k2, htd, -, hpW, -⟩ := hdata W (fun b hb => (hRd b hb).2.2)
  obtain ⟨A, c, rfl, hc1, hc2, -⟩ := htd.form
  rw [hvl] at k2 hc1
  obtain ⟨AP, cP, rfl, hp1, hp2, -⟩ := hpW.form
  have k1 : W.cell? ⟨b1, 0, none⟩ = some (.pointer (some ⟨b, 0, none⟩)) := by rw [cell_of_block ((hRd b1 hR1).2.2.trans h1)]; rfl
  have l1 : b1 < W.heap.size := World.block_lt_of_cell? W _ k1
  have l2 : b < W.heap.size := World.block_lt_of_cell? W _ k2
  have hcl : ds.length ≤ 9223372036854775807 := by omega
  have HY := Lib.hid hY
  have HRd := Lib.hid hRd
  have HJ := Lib.hid hJ
  have HJx := Lib.hid hJx
  have HM0 := Lib.hid hM0
  have H1 := Lib.hid h1
  have H2 := Lib.hid h2
  have HDA := Lib.hid hdata
  have HJ0 := Lib.hid hJ0
  have HDL := Lib.hid hdl
  have HR1 := Lib.hid hR1
  have HR2 := Lib.hid hR2
  have HRs := Lib.hid hRs
  clear hY hRd hJ hJx hM0 h1 h2 hJ0 hdl hdata htd hpW hc1 hc2 hR1 hR2 hRs
  gi_wp2
  obtain ⟨W0, hW0⟩ : ∃ W0, W.alloc (.cells #[.func (.yield l) #[] #[]] 133) = W0 := ⟨_, rfl⟩
  have hW0b : Below W.heap.size W W0 := by rw [← hW0]; exact (Below.refl _ W).alloc (Nat.le_refl _) _
  have hW0s : W0.heap.size = W.heap.size + 1 := by rw [← hW0]; simp
  have hW0n : W0.heap[W.heap.size]? = some (.cells #[.func (.yield l) #[] #[]] 133 (0, 0)) := by rw [← hW0]; exact heap_alloc_new W _
  rw [hW0]
  clear hW0 k1 k2
  refine wpIn_loop (fun a wr => ∃ (k : Nat) (Ds : List Nat) (M : Nat → Prop) (u4 u5 u6 u13 u14 u15 u16 u17 u18 u19 u20 u21 u22 u23 u24 u25 u26 : Value),
      a = { tmps := #[.func (.yield l) #[] #[], .pointer (some ⟨b1, 0, none⟩), .pointer (some ⟨b2, 0, none⟩), .pointer (some ⟨W.heap.size, 0, none⟩), u4, u5, u6, .pointer (some ⟨b, 0, none⟩), .pointer (some ⟨b, 0, none⟩), .pointer (some ⟨b, 0, none⟩), .slice A ds.length c, .int .i64 ds.length, .int .i64 k, u13, u14, u15, u16, u17, u18, u19, u20, u21, u22, u23, u24, u25, u26], defers := marks Ds } ∧
      k ≤ ds.length ∧ Ds.Nodup ∧ (∀ D, D ∈ Ds → W.heap.size < D ∧ ¬ M D ∧ wr.heap[D]? = some (.deferred (some []))) ∧ J (hits p (ds.take k)).length M wr ∧ (∀ b, M b → (M0 b ∨ W.heap.size ≤ b) ∧ b < wr.heap.size) ∧
      (∀ b, R b → wr.heap[b]? = w0.heap[b]?) ∧ ¬ M W.heap.size ∧ wr.heap[W.heap.size]? = some (.cells #[.func (.yield l) #[] #[]] 133 (0, 0)) ∧ W0.heap.size ≤ wr.heap.size)
    (fun a _ => ds.length - (intOf (a.tmps.getD 12 undef)).toNat) ?h0 ?round
  case h0 =>
    refine ⟨0, [], M0, _, _, _, _, _, _, _, _, _, _, _, _, _, _, _, _, _, rfl, Nat.zero_le _, List.nodup_nil, (fun D h => (by cases h)), ?_, (fun b hb => ⟨.inl hb, ?_⟩), (fun b hb => ?_), (fun h => ?_), hW0n, Nat.le_refl _⟩
    · exact HJ.out _ _ _ _ HJ0.out (Fr.of_below hW0b)
    · have := HM0.out b hb; omega
    · have h0 := HRd.out b hb
      exact (hW0b.block b (by omega)).trans h0.2.2
    · have := HM0.out _ h; omega
  case round =>
    rintro a wr ⟨k, Ds, M, u4, u5, u6, u13, u14, u15, u16, u17, u18, u19, u20, u21, u22, u23, u24, u25, u26, rfl, hk, hnd, hDs, hj, hm, hsame, hmW, hyb, hsz2⟩
    have HND := Lib.hid hnd
    have HDS := Lib.hid hDs
    have HJw := Lib.hid hj
    have HMw := Lib.hid hm
    have HSame := Lib.hid hsame
    have HMW := Lib.hid hmW
    have HYB := Lib.hid hyb
    have hc2 : wr.cell? ⟨b2, 0, none⟩ = some (.slice AP p.length cP) := by rw [cell_of_block ((hsame b2 HR2.out).trans H2.out)]; rfl
    have lb2 : b2 < wr.heap.size := World.block_lt_of_cell? wr _ hc2
    obtain ⟨-, hdw, hdw2, -, -⟩ := HDA.out wr hsame
    have HDoc := Lib.hid hdw
    have HDoc2 := Lib.hid hdw2
    clear hnd hDs hj hm hsame hmW hyb hdw hdw2
    have HS0 := Lib.hid hW0s
    have HS2 := Lib.hid hsz2
    clear hW0s hsz2
    by_cases hlt : k < ds.length
    · obtain ⟨ad, hA, hcw⟩ := HDoc.out.at_ k (by omega)
      subst hA
      have hsd := HDoc2.out k (by omega) hlt
      obtain ⟨B, c', hv, -, -, -⟩ := hsd.form
      simp only [id, hv] at hcw
      have HV := Lib.hid hv
      clear hv
      have lad : (ad.add k).block < wr.heap.size := World.block_lt_of_cell? wr _ hcw
      clear hsd HDoc HDoc2
      gi_wp2_with (refine ⟨trivial, ?_⟩; gi_at_call 96; go_must (refine (callsIn_wide.2 (in_any (.slice B ds[k].length c') (.slice AP p.length cP) (wr.alloc (.cells #[.int .i64 (k : Nat)] 3)) B AP _ _ _ _ rfl rfl)).mono ?_; rintro e w2 ⟨rfl, rfl⟩))
      obtain ⟨w1, hw1⟩ : ∃ w1, ((wr.alloc (.cells #[.int .i64 (k : Nat)] 3)).alloc (.cells #[.slice B ds[k].length c'] 29)).alloc (.cells #[.slice AP p.length cP] 29) = w1 := ⟨_, rfl⟩
      have hs1 : w1.heap.size = wr.heap.size + 3 := by rw [← hw1]; simp
      have hb1 : Below wr.heap.size wr w1 := by rw [← hw1]; exact (((Below.refl _ wr).alloc (Nat.le_refl _) _).alloc (by simp) _).alloc (by simp; omega) _
      have g0 : w1.heap[wr.heap.size]? = some (.cells #[.int .i64 (k : Nat)] 3 (0, 0)) := by
        rw [← hw1, Below.heap_alloc _ _ _ (by simp; omega), Below.heap_alloc _ _ _ (by simp)]; exact heap_alloc_new wr _
      have g1 : w1.heap[wr.heap.size + 1]? = some (.cells #[.slice B ds[k].length c'] 29 (0, 0)) := by
        rw [← hw1, Below.heap_alloc _ _ _ (by simp)]
        have := heap_alloc_new (wr.alloc (.cells #[.int .i64 (k : Nat)] 3)) (.cells #[.slice B ds[k].length c'] 29)
        rwa [World.size_alloc] at this
      have g2 : w1.heap[wr.heap.size + 1 + 1]? = some (.cells #[.slice AP p.length cP] 29 (0, 0)) := by
        rw [← hw1]
        have := heap_alloc_new ((wr.alloc (.cells #[.int .i64 (k : Nat)] 3)).alloc (.cells #[.slice B ds[k].length c'] 29)) (.cells #[.slice AP p.length cP] 29)
        rwa [World.size_alloc, World.size_alloc] at this
      rw [hw1]
      clear hw1
      have hRw : ∀ b, R b → b < wr.heap.size := fun b hb => by
        have h := HRs.out b hb
        have := HS2.out
        have := HS0.out
        omega
      have hdat : ∀ W4 : World, (∀ x, (R x ∨ x = wr.heap.size + 1 ∨ x = wr.heap.size + 1 + 1) → W4.heap[x]? = w1.heap[x]?) → SlR byV W4 (.slice B ds[k].length c') ds[k] ∧ SlR byV W4 (.slice AP p.length cP) p ∧ GL W4 := by
        intro W4 hW4
        have h := HDA.out W4 (fun b hb => (hW4 b (.inl hb)).trans ((hb1.block b (hRw b hb)).trans (HSame.out b hb)))
        refine ⟨?_, h.2.2.2.1, h.2.2.2.2⟩
        rw [← HV.out]
        exact h.2.2.1 k (by omega) hlt
      have hit := in1_iter (wr.heap.size + 1 + 1) (wr.heap.size + 1) (fun x => R x ∨ x = wr.heap.size + 1 ∨ x = wr.heap.size + 1 + 1) w1 ds[k] p (.slice B ds[k].length c') (.slice AP p.length cP) (.inr (.inr rfl)) (.inr (.inl rfl)) hdat g2 g1 (HDL.out _ (List.getElem_mem hlt)) hpl
      refine wp_range_outer hit
        rfl (enters_of Try.func118 (by kernel_rfl) rfl) (Nat.le_refl _) M ?hRd ?hM0 ?hps ?hArg
        (fun k' M' W' => J ((hits p (ds.take k)).length + k') M' W' ∧ (∀ b, b < w1.heap.size → ¬ M b → W'.heap[b]? = w1.heap[b]?) ∧ w1.heap.size ≤ W'.heap.size)
        (fun cc k' M' W' => cc = Code.ret ∧ Jx ((hits p (ds.take k)).length + k') M' W' ∧ (∀ b, b < w1.heap.size → ¬ M b → W'.heap[b]? = w1.heap[b]?) ∧ w1.heap.size ≤ W'.heap.size)
        ?hI ?hIx ?hI0
        (fun args => { tmps := #[.func (.yield l) #[] #[], .pointer (some ⟨b1, 0, none⟩), .pointer (some ⟨b2, 0, none⟩), .pointer (some ⟨W.heap.size, 0, none⟩), .pointer (some ⟨wr.heap.size, 0, none⟩), .slice B ds[k].length c', args.getD 0 undef, .pointer (some ⟨b, 0, none⟩), .pointer (some ⟨b, 0, none⟩), .pointer (some ⟨b, 0, none⟩), .slice (some ad) ds.length c, .int .i64 ds.length, .int .i64 k, .bool true, .int .i64 k, .pointer (some (ad.add k)), .slice B ds[k].length c', .slice B ds[k].length c', .slice AP p.length cP, .func (.func 118) #[] #[.pointer (some ⟨wr.heap.size + 1 + 1, 0, none⟩), .pointer (some ⟨wr.heap.size + 1, 0, none⟩)], args.getD 0 undef, u21, u22, u23, u24, u25, u26], defers := [] })
        ?hassign ?hbody ?hdone ?hstop
      case hRd =>
        intro b hb
        refine ⟨?_, ?_, rfl⟩
        · rcases hb with h | rfl | rfl
          · have := hRw b h; omega
          · omega
          · omega
        · intro hMb
          have h3 := HMw.out b hMb
          rcases hb with h | rfl | rfl
          · have h0 := HRd.out b h
            rcases h3.1 with h4 | h4
            · exact h0.2.1 h4
            · omega
          · omega
          · omega
      case hM0 =>
        intro b hb
        have := HMw.out b hb
        omega
      case hps =>
        rintro k' args W' _ ⟨x, _, rfl⟩
        rfl
      case hArg => exact fun _ _ _ _ _ _ h _ => h
      case hI =>
        rintro k' M' A B ⟨h1, h2, h3⟩ hf
        refine ⟨HJ.out _ _ _ _ h1 (hf.mono (fun b _ hb => ⟨?_, hb.2⟩)), fun b hb hM => ?_, Nat.le_trans h3 hf.size⟩
        · have := HS2.out; have := HS0.out; omega
        · exact (hf.block b (by omega) (fun h => by omega)).trans (h2 b hb hM)
      case hIx =>
        rintro cc k' M' A B ⟨h0, h1, h2, h3⟩ hf
        refine ⟨h0, HJx.out _ _ _ _ h1 (hf.mono (fun b _ hb => ⟨?_, hb.2⟩)), fun b hb hM => ?_, Nat.le_trans h3 hf.size⟩
        · have := HS2.out; have := HS0.out; omega
        · exact (hf.block b (by omega) (fun h => by omega)).trans (h2 b hb hM)
      case hI0 => exact ⟨HJ.out _ _ _ _ HJw.out (Fr.of_below hb1), fun _ _ _ => rfl, Nat.le_refl _⟩
      case hassign =>
        rintro l2 k' args W' K _ ⟨x, _, rfl⟩ hK
        gi_wp2
        exact hK
      case hbody =>
        rintro l2 k' M' args W' hk' ⟨h1, h2, h3⟩ ⟨x, hx, rfl⟩ hl hl2 hnl hrec hM'
        have hs2 := HS2.out
        have hs0 := HS0.out
        have c3 : W'.cell? ⟨W.heap.size, 0, none⟩ = some (.func (.yield l) #[] #[]) := by
          rw [cell_of_block ((h2 W.heap.size (by omega) HMW.out).trans ((hb1.block _ (by omega)).trans HYB.out))]; rfl
        have c4 : W'.cell? ⟨wr.heap.size, 0, none⟩ = some (.int .i64 (k : Nat)) := by
          rw [cell_of_block ((h2 wr.heap.size (by omega) (fun h => by have := HMw.out _ h; omega)).trans g0)]; rfl
        have hbd := hits_bound p ds k hlt
        obtain ⟨hx1, hx2⟩ := List.getElem?_eq_some_iff.1 hx
        obtain ⟨fn, tmps, assign, body, hy, hR⟩ := HY.out ((hits p (ds.take k)).length + k') M' #[.int .i64 (k : Nat), .int .i64 (x : Nat)] W' (by omega) h1 ⟨(k, x), by rw [hits_get p ds k hlt k' hx1, hx2], rfl⟩
          (fun b hb => ⟨by
            rcases (hM' b hb).1 with h | h
            · exact (HMw.out b h).1
            · right; omega, (hM' b hb).2⟩) (by omega)
        have HH2 := Lib.hid h2
        have HM' := Lib.hid hM'
        have Hy := Lib.hid hy
        have HR := Lib.hid hR
        clear h2 hM' hy hR hx1 hx2 hx hbd hrec h1
        gi_wp2
        rw [Hy.out]
        refine ⟨fun h => by simp [Fence.wide] at h, (roundIn_in HR.out).mono ?_⟩
        clear Hy HR
        rintro e W3 ⟨M2, hfr, hm2, ⟨rfl, hJ3⟩ | ⟨rfl, hJx3⟩⟩
        · have HF := Lib.hid hfr
          have HM2 := Lib.hid hm2
          have HJ3 := Lib.hid hJ3
          clear hfr hm2 hJ3
          gi_wp2
          refine ⟨M2, HF.out, fun b hb => HM2.out b hb, HJ3.out, fun b hb hM => ?_, Nat.le_trans h3 HF.out.size⟩
          refine (HF.out.block b (by omega) (fun h => ?_)).trans (HH2.out b hb hM)
          rcases (HM'.out b h).1 with h4 | h4
          · exact hM h4
          · omega
        · have HF := Lib.hid hfr
          have HM2 := Lib.hid hm2
          have HJ3 := Lib.hid hJx3
          clear hfr hm2 hJx3
          gi_wp2
          refine ⟨M2, HF.out, fun b hb => HM2.out b hb, rfl, HJ3.out, fun b hb hM => ?_, Nat.le_trans h3 HF.out.size⟩
          refine (HF.out.block b (by omega) (fun h => ?_)).trans (HH2.out b hb hM)
          rcases (HM'.out b h).1 with h4 | h4
          · exact hM h4
          · omega
      case hdone =>
        rintro D M' W' ⟨h1, h2, h3⟩ hD hmD hKD hM'
        have hs2 := HS2.out
        have hs0 := HS0.out
        have HH1 := Lib.hid h1
        have HH2 := Lib.hid h2
        have HM' := Lib.hid hM'
        have HD := Lib.hid hKD
        clear h1 h2 hM' hKD
        gi_wp2
        have hnM : ∀ b, b < w1.heap.size → ¬ M b → ¬ M' b := fun b hb h h' => by
          rcases (HM'.out b h').1 with h4 | h4
          · exact h h4
          · omega
        refine ⟨⟨k + 1, D :: Ds, M', _, _, _, _, _, _, _, _, _, _, _, _, _, _, _, _, _, rfl, by omega, List.nodup_cons.2 ⟨fun h => ?_, HND.out⟩, fun D' hD' => ?_, ?_, fun b hb => ?_, fun b hb => ?_, hnM _ (by omega) HMW.out, ?_, by omega⟩, by simp [intOf]; omega⟩
        · have h4 := HDS.out D h
          have h5 := World.putObj_size (w := wr) (r := 0) (o := Obj.deferred none)
          have h6 := (Array.getElem?_eq_some_iff.1 h4.2.2).1
          omega
        · rcases List.mem_cons.1 hD' with rfl | h
          · exact ⟨by omega, hmD, HD.out⟩
          · have h4 := HDS.out D' h
            have h6 := (Array.getElem?_eq_some_iff.1 h4.2.2).1
            refine ⟨h4.1, hnM _ (by omega) h4.2.1, ?_⟩
            rw [HH2.out D' (by omega) h4.2.1, hb1.block D' h6]
            exact h4.2.2
        · rw [hits_take_succ p ds k hlt, List.length_append, List.length_map]
          exact HH1.out
        · refine ⟨?_, (HM'.out b hb).2⟩
          rcases (HM'.out b hb).1 with h | h
          · exact (HMw.out b h).1
          · right; omega
        · have h0 := HRd.out b hb
          have hbM : ¬ M b := fun h => by
            rcases (HMw.out b h).1 with h4 | h4
            · exact h0.2.1 h4
            · omega
          exact (HH2.out b (by omega) hbM).trans ((hb1.block b (by omega)).trans (HSame.out b hb))
        · rw [HH2.out _ (by omega) HMW.out, hb1.block _ (by omega)]
          exact HYB.out
      case hstop =>
        rintro D cc k' M' W' hk' ⟨rfl, h1, h2, h3⟩ hD hmD hKD hM'
        have hs2 := HS2.out
        have hs0 := HS0.out
        have hbd := hits_bound p ds k hlt
        have HH1 := Lib.hid h1
        have HH2 := Lib.hid h2
        have HM' := Lib.hid hM'
        have HD := Lib.hid hKD
        clear h1 h2 hM' hKD
        gi_wp2
        have hnM : ∀ b, b < w1.heap.size → ¬ M b → ¬ M' b := fun b hb h h' => by
          rcases (HM'.out b h').1 with h4 | h4
          · exact h h4
          · omega
        refine leaves_marks (D :: Ds) W' (List.nodup_cons.2 ⟨fun h => ?_, HND.out⟩) (fun D' hD' => ?_) (results_none rfl _ _) (fun W4 hW4 => ?_)
        · have h4 := HDS.out D h
          have h6 := (Array.getElem?_eq_some_iff.1 h4.2.2).1
          omega
        · rcases List.mem_cons.1 hD' with rfl | h
          · exact HD.out
          · have h4 := HDS.out D' h
            have h6 := (Array.getElem?_eq_some_iff.1 h4.2.2).1
            rw [HH2.out D' (by omega) h4.2.1, hb1.block D' h6]
            exact h4.2.2
        · refine ⟨⟨_, rfl⟩, M', ?_, fun b hb => ⟨?_, ?_⟩, .inr ⟨_, ?_, HJx.out _ _ _ _ HH1.out (hW4.mono (fun b _ hb => ?_))⟩⟩
          · have := hW4.size; omega
          · rcases (HM'.out b hb).1 with h | h
            · exact (HMw.out b h).1
            · right; omega
          · have := (HM'.out b hb).2; have := hW4.size; omega
          · omega
          · rcases List.mem_cons.1 hb with rfl | h
            · exact ⟨by omega, hmD⟩
            · have h4 := HDS.out b h
              have h6 := (Array.getElem?_eq_some_iff.1 h4.2.2).1
              exact ⟨by omega, hnM _ (by omega) h4.2.1⟩
    · have hk' : k = ds.length := by omega
      have HJN : Hid (J (hits p ds).length M wr) := by
        have h := HJw.out
        rw [hk', List.take_length] at h
        exact Lib.hid h
      clear hk' HJw
      gi_wp2
      refine leaves_marks Ds wr HND.out (fun D' hD' => (HDS.out D' hD').2.2) (results_none rfl _ _) (fun W4 hW4 => ?_)
      have hs2 := HS2.out
      have hs0 := HS0.out
      refine ⟨⟨_, rfl⟩, M, ?_, fun b hb => ⟨(HMw.out b hb).1, ?_⟩, .inl (HJ.out _ _ _ _ HJN.out (hW4.mono (fun b _ hb => ?_)))⟩
      · have := hW4.size; omega
      · have := (HMw.out b hb).2; have := hW4.size; omega
      · have h4 := HDS.out b hb
        exact ⟨by omega, h4.2.1⟩
end Go.Proofs.Ytinlmodkdjpocaa

set_option linter.unusedVariables false
namespace Go.Proofs.Ytinlmodkdjpocaa
open Go.RowKit Go.Shelf
attribute [local go_sem] Oper.semAt_some

theorem find_any (b : Nat) (pv : Value) (p : List UInt8) (w : World) (hp : SlR byV w pv p) (hpl : p.length ≤ 100000000000) :
    Calls Try.prog 70 #[.pointer (some ⟨b, 0, none⟩), pv] w fun e w' => ∃ pv', e = .returned (.func (.func 95) #[] #[.pointer (some ⟨w.heap.size, 0, none⟩), .pointer (some ⟨w.heap.size + 1, 0, none⟩)]) ∧
      w'.heap[w.heap.size]? = some (.cells #[.pointer (some ⟨b, 0, none⟩)] 25 (0, 0)) ∧ w'.heap[w.heap.size + 1]? = some (.cells #[pv'] 29 (0, 0)) ∧ w'.ownsRow (w.heap.size + 2) 5 1 pv' p.length (p.map byV) ∧ Below w.heap.size w w' ∧ w.heap.size + 2 ≤ w'.heap.size := by
  obtain ⟨A, c, rfl, _, _, -⟩ := hp.form
  obtain ⟨w2, hw2⟩ : ∃ w2, (w.alloc (.cells #[.pointer (some ⟨b, 0, none⟩)] 25)).alloc (.cells #[.slice A p.length c] 29) = w2 := ⟨_, rfl⟩
  have hb2 : Below w.heap.size w w2 := by rw [← hw2]; exact ((Below.refl _ w).alloc (Nat.le_refl _) _).alloc (by simp) _
  have hs2 : w2.heap.size = w.heap.size + 2 := by rw [← hw2]; simp
  have g0 : w2.heap[w.heap.size]? = some (.cells #[.pointer (some ⟨b, 0, none⟩)] 25 (0, 0)) := by
    rw [← hw2, Below.heap_alloc _ _ _ (by simp)]; exact heap_alloc_new w _
  have g1 : w2.heap[w.heap.size + 1]? = some (.cells #[.slice A p.length c] 29 (0, 0)) := by
    rw [← hw2]
    have := heap_alloc_new (w.alloc (.cells #[.pointer (some ⟨b, 0, none⟩)] 25)) (.cells #[.slice A p.length c] 29)
    rwa [World.size_alloc] at this
  have hcl := Lib.hid (clone_by _ p w2 (hp.later hb2) hpl)
  have G0 := Lib.hid g0
  have G1 := Lib.hid g1
  have HB := Lib.hid hb2
  have HS := Lib.hid hs2
  have HW := Lib.hid hw2
  clear hb2 hs2 g0 g1 hp hw2
  go_enter Try.func70, Try.ntmps70
  go_wp2_with fail
  rw [HW.out]
  refine hcl.out.mono ?_
  rintro e w3 ⟨v3, rfl, ho3, hb3⟩
  have h3 : w3.heap[w.heap.size + 1]? = some (.cells #[.slice A p.length c] 29 (0, 0)) := (hb3.block _ (by rw [HS.out]; omega)).trans G1.out
  have c3 : w3.cell? ⟨w.heap.size + 1, 0, none⟩ = some (.slice A p.length c) := by rw [cell_of_block h3]; rfl
  have f3 : w3.frozen? ⟨w.heap.size + 1, 0, none⟩ = false := free_of_block h3
  obtain ⟨A3, c3', rfl, -, -, -⟩ := (SlR.of_own (enc := byV) ho3).form
  have H3 := Lib.hid h3
  have HO := Lib.hid ho3
  have HB3 := Lib.hid hb3
  clear h3 ho3 hb3 hcl
  go_wp2
  go_ret
  rw [HS.out] at HO HB3
  refine ⟨.slice A3 p.length c3', rfl, ?_, ?_, ?_, ?_, ?_⟩
  · rw [Below.heap_setCell _ _ _ _ (by simp)]
    exact (HB3.out.block _ (by omega)).trans G0.out
  · rw [heap_setCell_same H3.out]; rfl
  · exact ownsRow_setCell_below HO.out (by simp) _
  · exact (HB.out.trans (HB3.out.mono (by omega))).setCell (by simp) _
  · have := HB3.out.size; have := HS.out; rw [World.size_setCell]; omega

theorem info_hit : (Try.prog.info? 77).map (fun i => (i.zero, i.size, i.bytes)) = some (some (.agg #[.int .i64 0, .int .i64 0]), 2, 16) := by kernel_rfl

/-- '[]byte(s)' -/
theorem conv_str (p : List UInt8) (w : World) (hp : p.length ≤ 100000000000) : ∃ cp w', (convert 9 29 (strV p)).run Try.prog w = .ok (.slice (some ⟨w.heap.size, 0, none⟩) p.length cp) w' ∧ SlR byV w' (.slice (some ⟨w.heap.size, 0, none⟩) p.length cp) p ∧ Below w.heap.size w w' ∧ w'.heap.size = w.heap.size + 1 := by
  have h := Lib.run_convert_string_bytes (P := Try.prog) w 9 29 5 ⟨p.toArray⟩ Try.underlying9 Try.underlying29 Try.underlying5
  have hsz : (⟨p.toArray⟩ : ByteArray).size = p.length := by simp [ByteArray.size]
  rw [hsz] at h
  refine ⟨_, _, h, ⟨_, _, rfl, grownCap_ge _ _ _ _, by have := grownCap_le_maxLen w p.length 0 5 (by unfold maxLen; omega); unfold maxLen at this; omega, .inr ⟨_, rfl, fun j hj => ?_⟩⟩, ⟨?_, ?_, ?_, by rw [Lib.bytesWorld_size]; omega, fun k hk => Lib.bytesWorld_at_old _ _ _ _ hk⟩, Lib.bytesWorld_size _ _ _⟩
  · have := Lib.bytesWorld_cell w 5 ⟨p.toArray⟩ j (by rw [hsz]; exact hj)
    have e : (⟨w.heap.size, 0, none⟩ : Addr).add j = ⟨w.heap.size, j, none⟩ := by unfold Addr.add; split <;> simp_all
    rw [e, this]
    simp [byV, List.getD, hj]
  · simp [Lib.bytesWorld, World.freeze, World.alloc, World.drew, -World.alloc_eq, -World.drew_eq]
  · simp [Lib.bytesWorld, World.freeze, World.alloc, World.drew, -World.alloc_eq, -World.drew_eq]
  · simp [Lib.bytesWorld, World.freeze, World.alloc, World.drew, -World.alloc_eq, -World.drew_eq]
end Go.Proofs.Ytinlmodkdjpocaa

set_option linter.unusedVariables false
namespace Go.Proofs.Ytinlmodkdjpocaa
open Go.RowKit Go.Shelf
attribute [local go_sem] Oper.semAt_some

/-- what the loop of Find holds: block B's slice owns the first j hits; all that lay below but B lies as it lay -/
def FindSt (B base : Nat) (w1 : World) (hs : List (Nat × Nat)) (M : Nat → Prop) (W : World) : Prop :=
  ∃ v, W.heap[B]? = some (.cells #[v] 32 (0, 0)) ∧ W.ownsRow base 77 2 v hs.length (flatH hs) ∧ M B ∧ (∀ g, v.ownBlock = some g → M g) ∧ Fr (fun b => b = B) w1 W

theorem FindSt.fr {B base : Nat} {w1 : World} {hs : List (Nat × Nat)} {M : Nat → Prop} {W W2 : World} (h : FindSt B base w1 hs M W) (hf : Fr (fun b => w1.heap.size ≤ b ∧ ¬ M b) W W2) : FindSt B base w1 hs M W2 := by
  obtain ⟨v, h0, h1, h2, h3, h4⟩ := h
  refine ⟨v, hf.obj h0 (fun h => h.2 h2), ?_, h2, h3, h4.trans' hf (fun b hb hm => by omega)⟩
  refine ⟨h1.1, ?_⟩
  rcases h1.2 with h | ⟨g, cap, cur, rfl, hb, hg, r⟩
  · exact .inl h
  · exact .inr ⟨g, cap, cur, rfl, hb, hf.obj hg (fun h => h.2 (h3 g rfl)), r⟩

theorem find_ends {w w1 W : World} {D : Nat} {M : Nat → Prop} {hs : List (Nat × Nat)} {Av : Option Addr} {cv : Nat} {n : Nat} {tm : Array Value} (hbe : Below w.heap.size w w1) (hsw : w.heap.size + 1 < w1.heap.size) (hD : w1.heap.size ≤ D) (hnD : ¬ M D) (hKD : W.heap[D]? = some (.deferred (some [])))
    (h1 : W.ownsRow w.heap.size 77 2 (.slice Av hs.length cv) hs.length (flatH hs)) (h3 : ∀ g, (Value.slice Av hs.length cv).ownBlock = some g → M g) (h4 : Fr (fun b => b = w.heap.size + 1) w1 W)
    (hr : ∀ W', (results Try.f25 tm).run Try.prog W' = .ok (.slice Av hs.length cv) W') :
    LeavesInM Fence.wide n Try.prog Try.f25 tm (fun e w' => ∃ v, e = .returned v ∧ HitsR w' v hs ∧ Below w.heap.size w w') [{ target := .collected D, args := #[] }] .returning W := by
  refine leaves_marks [D] W (by simp) (fun D' hD' => by simp at hD'; subst hD'; exact hKD) hr (fun W4 hW4 => ?_)
  have hown4 : W4.ownsRow w.heap.size 77 2 (.slice Av hs.length cv) hs.length (flatH hs) := by
    refine ⟨h1.1, ?_⟩
    rcases h1.2 with h | ⟨g, cap, cur, he, hb, hg, r⟩
    · exact .inl h
    · refine .inr ⟨g, cap, cur, he, hb, hW4.obj hg (fun h => ?_), r⟩
      simp at h
      subst h
      exact hnD (h3 g (by rw [he]; rfl))
  have h5 := hbe.size
  refine ⟨_, rfl, HitsR.of_own hown4, ?_⟩
  exact hbe.trans ((h4.below (n := w.heap.size) (by omega) (fun b hb => by omega)).trans (hW4.below (by have := h4.size; omega) (fun b hb => by simp at hb; omega)))

set_option maxRecDepth 100000 in
set_option maxHeartbeats 2000000 in
theorem law_find (b : Nat) (ds : List (List UInt8)) (p : List UInt8) (most : Int) (w : World) (ht : TextR w b ds) (hG : GL w) (hdl : ∀ d ∈ ds, d.length < 4294967281) (hpl : p.length < 4294967281) (hh : (hits p ds).length ≤ 100000000000) :
    Calls Try.prog 25 #[.pointer (some ⟨b, 0, none⟩), strV p, .int .i64 most] w fun e w' => ∃ v, e = .returned v ∧ HitsR w' v ((hits p ds).take most.toNat) ∧ Below w.heap.size w w' := by
  refine (callsIn_wide (n := 5)).1 ?_
  refine callsIn_of_wp_marks Try.func25 rfl trivial ?_ rfl
  simp only [Try.ntmps25, List.size_toArray, List.length_cons, List.length_nil, Nat.reduceAdd, Nat.reduceSub, Array.replicate_succ, Array.replicate_zero, List.push_toArray, List.append_toArray, List.nil_append, List.cons_append]
  obtain ⟨wa, hwa⟩ : ∃ wa, (w.alloc (.cells #[.int .i64 most] 3)).alloc (.cells #[.slice none 0 0] 32) = wa := ⟨_, rfl⟩
  have hba : Below w.heap.size w wa := by rw [← hwa]; exact ((Below.refl _ w).alloc (Nat.le_refl _) _).alloc (by simp) _
  have hsa : wa.heap.size = w.heap.size + 2 := by rw [← hwa]; simp
  have a0 : wa.heap[w.heap.size]? = some (.cells #[.int .i64 most] 3 (0, 0)) := by
    rw [← hwa, Below.heap_alloc _ _ _ (by simp)]; exact heap_alloc_new w _
  have a1 : wa.heap[w.heap.size + 1]? = some (.cells #[.slice none 0 0] 32 (0, 0)) := by
    rw [← hwa]
    have := heap_alloc_new (w.alloc (.cells #[.int .i64 most] 3)) (.cells #[.slice none 0 0] 32)
    rwa [World.size_alloc] at this
  obtain ⟨cp, wb, hrun, hsb, hbb, hszb⟩ := conv_str p wa (by omega)
  have HW := Lib.hid hwa
  have HBA := Lib.hid hba
  have HSA := Lib.hid hsa
  have A0 := Lib.hid a0
  have A1 := Lib.hid a1
  have HSB := Lib.hid hsb
  have HBB := Lib.hid hbb
  have HZB := Lib.hid hszb
  have HT := Lib.hid ht
  have HG := Lib.hid hG
  have HDL := Lib.hid hdl
  have HH := Lib.hid hh
  have hconv : ∀ W : World, W = wa → (convert 9 29 (strV p)).run Try.prog W = .ok (.slice (some ⟨wa.heap.size, 0, none⟩) p.length cp) wb := fun W e => e ▸ hrun
  have HC := Lib.hid hconv
  clear hwa hba hsa a0 a1 hsb hbb hszb ht hG hdl hh hrun hconv
  gi_wp2_with fail
  rw [HW.out, HC.out wa rfl]
  have heq : ∀ W : World, (binOp .eql 97 (.func (.func 95) #[] #[.pointer (some ⟨wb.heap.size, 0, none⟩), .pointer (some ⟨wb.heap.size + 1, 0, none⟩)]) .nilFunc).run Try.prog W = .ok (.bool false) W := fun W => run_eql_func_nil W _ _ _ _ Try.underlying97
  have hfind := Lib.hid (find_any b _ p wb HSB.out (by omega))
  gi_wp2_with (refine ⟨trivial, ?_⟩; gi_at_call 70; go_must (refine (callsIn_wide.2 hfind.out).mono ?_; rintro e w1 ⟨pv', rfl, g0, g1, ho, hb1, hs1⟩; have G0 := Lib.hid g0; have G1 := Lib.hid g1; have HO := Lib.hid ho; have HB1 := Lib.hid hb1; have HS1 := Lib.hid hs1; clear g0 g1 ho hb1 hs1))
  clear heq hfind
  have hs := HS1.out
  have hz := HZB.out
  have ha := HSA.out
  -- the data of the iterator lie off the box
  obtain ⟨dv, a_, r_, t0, -, -, htd, -, -⟩ := HT.out.cells
  obtain ⟨vs, hvl, hv1, hv2⟩ := htd
  have hbe : Below w.heap.size w w1 := HBA.out.trans ((HBB.out.mono (by omega)).trans (HB1.out.mono (by omega)))
  have hdata : ∀ W : World, (∀ x, (x < w1.heap.size ∧ x ≠ w.heap.size + 1) → W.heap[x]? = w1.heap[x]?) → W.cell? ⟨b, 0, none⟩ = some dv ∧ SlR id W dv vs ∧ (∀ j (h : j < vs.length) (h' : j < ds.length), SlR byV W vs[j] ds[j]) ∧ SlR byV W pv' p ∧ GL W := by
    intro W hW
    have hWb : ∀ x, x < w.heap.size → W.heap[x]? = w.heap[x]? := fun x hx => (hW x ⟨by have := hbe.size; omega, by omega⟩).trans (hbe.block x hx)
    refine ⟨(World.cell?_of_block (w := w) (hWb b (World.block_lt_of_cell? w _ t0))).trans t0, hv1.same (Nat.le_refl _) hWb, fun j h h' => (hv2 j h h').same (Nat.le_refl _) hWb, ?_, ?_⟩
    · refine SlR.of_own (base := wb.heap.size + 2) (e := 5) (n := p.length) ⟨HO.out.1, ?_⟩
      rcases HO.out.2 with h | ⟨g, cap, cur, rfl, hg, hgg, r⟩
      · exact .inl h
      · exact .inr ⟨g, cap, cur, rfl, hg, (hW g ⟨(Array.getElem?_eq_some_iff.1 hgg).1, by omega⟩).trans hgg, r⟩
    · obtain ⟨m, hm⟩ := HG.out
      exact ⟨m, (World.cell?_of_block (w := w) (hWb 0 (World.block_lt_of_cell? w _ hm))).trans hm⟩
  have hit := find1_iter wb.heap.size (wb.heap.size + 1) b (fun x => x < w1.heap.size ∧ x ≠ w.heap.size + 1) w1 ds p dv pv' vs hvl ⟨by omega, by omega⟩ ⟨by omega, by omega⟩ (fun _ h => h.1) hdata G0.out G1.out HDL.out hpl
  have hB1 : w1.heap[w.heap.size + 1]? = some (.cells #[.slice none 0 0] 32 (0, 0)) := (HB1.out.block _ (by omega)).trans ((HBB.out.block _ (by omega)).trans A1.out)
  have hM1 : w1.heap[w.heap.size]? = some (.cells #[.int .i64 most] 3 (0, 0)) := (HB1.out.block _ (by omega)).trans ((HBB.out.block _ (by omega)).trans A0.out)
  have HBE := Lib.hid hbe
  have HB1' := Lib.hid hB1
  have HM1 := Lib.hid hM1
  clear hdata hbe hB1 hM1 t0 hv1 hv2 hvl
  have hsw : w.heap.size + 1 < w1.heap.size := by omega
  clear hs hz ha
  gi_wp2
  refine wp_range_outer hit rfl (enters_of Try.func95 (by kernel_rfl) rfl) (Nat.le_refl _) (fun x => x = w.heap.size + 1) ?hRd ?hM0 ?hps ?hArg
    (fun k M W => k ≤ most.toNat ∧ k ≤ (hits p ds).length ∧ FindSt (w.heap.size + 1) w.heap.size w1 ((hits p ds).take k) M W)
    (fun c k M W => c = .exit 0 ∧ FindSt (w.heap.size + 1) w.heap.size w1 ((hits p ds).take most.toNat) M W)
    ?hI ?hIx ?hI0
    (fun args => { tmps := #[.pointer (some ⟨b, 0, none⟩), strV p, .int .i64 most, undef, undef, .pointer (some ⟨w.heap.size, 0, none⟩), .slice none 0 0, .pointer (some ⟨w.heap.size + 1, 0, none⟩), .func (.func 95) #[] #[.pointer (some ⟨wb.heap.size, 0, none⟩), .pointer (some ⟨wb.heap.size + 1, 0, none⟩)], args.getD 0 undef, args.getD 1 undef, .pointer (some ⟨b, 0, none⟩), strV p, .slice (some ⟨wa.heap.size, 0, none⟩) p.length cp, .func (.func 95) #[] #[.pointer (some ⟨wb.heap.size, 0, none⟩), .pointer (some ⟨wb.heap.size + 1, 0, none⟩)], .func (.func 95) #[] #[.pointer (some ⟨wb.heap.size, 0, none⟩), .pointer (some ⟨wb.heap.size + 1, 0, none⟩)], .bool false, .func (.func 95) #[] #[.pointer (some ⟨wb.heap.size, 0, none⟩), .pointer (some ⟨wb.heap.size + 1, 0, none⟩)], args.getD 0 undef, args.getD 1 undef, undef, undef, undef, undef, undef, undef, undef, undef, undef, undef, undef], defers := [] })
    ?hassign ?hbody ?hdone ?hstop
  case hRd => exact fun b hb => ⟨hb.1, hb.2, rfl⟩
  case hM0 =>
    rintro b rfl
    omega
  case hps =>
    rintro k args W _ ⟨x, _, rfl⟩
    rfl
  case hArg => exact fun _ _ _ _ _ _ h _ => h
  case hI => exact fun k M A B ⟨h1, h2, h3⟩ hf => ⟨h1, h2, h3.fr hf⟩
  case hIx => exact fun c k M A B ⟨h1, h3⟩ hf => ⟨h1, h3.fr hf⟩
  case hI0 => exact ⟨Nat.zero_le _, Nat.zero_le _, _, HB1'.out, World.ownsRow_nil _ _ _ _, rfl, fun g h => by simp [Value.ownBlock] at h, Fr.refl _ _⟩
  case hassign =>
    rintro l k args W K _ ⟨x, _, rfl⟩ hK
    gi_wp2
    exact hK
  case hbody =>
    rintro l k M args W hk ⟨h1, h2, h3⟩ ⟨x, hx, rfl⟩ hl hl2 hnl hrec hM
    obtain ⟨v, v0, v1, v2, v3, v4⟩ := h3
    have v5 := v4.size
    have hlen : ((hits p ds).take k).length = k := by simp; omega
    rw [hlen] at v1
    have hval : ∃ A c, v = .slice A k c := by
      rcases v1.2 with ⟨rfl, h⟩ | ⟨g, cap, cur, rfl, _⟩
      · exact ⟨none, 0, by rw [h]⟩
      · exact ⟨_, _, rfl⟩
    obtain ⟨Av, cv, rfl⟩ := hval
    have hbW : w.heap.size ≤ W.heap.size := by omega
    have hc7 : W.cell? ⟨w.heap.size + 1, 0, none⟩ = some (.slice Av k cv) := by rw [cell_of_block v0]; rfl
    have hc5 : W.cell? ⟨w.heap.size, 0, none⟩ = some (.int .i64 most) := by rw [cell_of_block ((v4.block w.heap.size (by omega) (by omega)).trans HM1.out)]; rfl
    have hf7 : W.frozen? ⟨w.heap.size + 1, 0, none⟩ = false := free_of_block v0
    have hk3 : k ≤ 100000000000 := by have := HH.out; omega
    have V0 := Lib.hid v0
    have V1 := Lib.hid v1
    have V2 := Lib.hid v2
    have V3 := Lib.hid v3
    have V4 := Lib.hid v4
    have HM := Lib.hid hM
    have HX := Lib.hid hx
    have HL := Lib.hid hlen
    clear v0 v1 v2 v3 v4 hM hx hlen hrec
    by_cases hmk : (k : Int) < most
    · gi_wp2_with (first | (gi_at_builtin; refine wp_appIn w.heap.size 32 77 (.agg #[.int .i64 0, .int .i64 0]) 2 16 (.tmp 24) (.tmp 28) rfl rfl Try.underlying32 info_hit rfl (by decide) (by decide) (.slice Av k cv) k (flatH ((hits p ds).take k)) #[.int .i64 (x.1 : Nat), .int .i64 (x.2 : Nat)] rfl rfl V1.out rfl (by intro u hu; simp at hu; rcases hu with rfl | rfl <;> rfl) (by omega) hbW ?_; intro g cap w9 ho9 hg9 hat9 hgb9 hgl9 hgs9; have s9 : w9.heap[w.heap.size + 1]? = some (.cells #[.slice Av k cv] 32 (0, 0)) := grown_block hg9 V0.out (own_ne_block V1.out V0.out (by decide)); have c9 : w9.cell? ⟨w.heap.size + 1, 0, none⟩ = some (.slice Av k cv) := (by rw [cell_of_block s9]; rfl); have f9 : w9.frozen? ⟨w.heap.size + 1, 0, none⟩ = false := free_of_block s9; have S9 := Lib.hid s9; have HO9 := Lib.hid ho9; have HG9 := Lib.hid hg9; have HAT := Lib.hid hat9; clear s9 ho9 hg9 hat9))
      have hne9 : (Value.slice (some ⟨g, 0, none⟩) (k + 1) cap).ownBlock ≠ some (w.heap.size + 1) := own_ne_block HO9.out S9.out (by decide)
      refine ⟨fun y => M y ∨ W.heap.size ≤ y ∧ y < w9.heap.size, ?_, ?_, by omega, by omega, .slice (some ⟨g, 0, none⟩) (k + 1 : Nat) cap, ?_, ?_, .inl V2.out, ?_, ?_⟩
      · exact ((Fr.refl M W).grown HG9.out (fun y hy hy2 => V3.out y hy)).setCell V2.out _
      · rintro y (hy | hy)
        · exact ⟨.inl hy, by rw [World.size_setCell]; have := (HM.out y hy).2; have := HG9.out.size; omega⟩
        · exact ⟨.inr hy.1, by rw [World.size_setCell]; exact hy.2⟩
      · rw [heap_setCell_same S9.out]; rfl
      · have e : (hits p ds).take (k + 1) = (hits p ds).take k ++ [x] := by
          rw [List.take_add_one, HX.out]; rfl
        rw [e, flatH_snoc, List.length_append, HL.out]
        exact ownsRow_setCell_other HO9.out hne9 _
      · intro y hy
        have hyg : y = g := by simpa [Value.ownBlock] using hy.symm
        subst hyg
        rcases HAT.out with h | h
        · exact .inl (V3.out y h)
        · exact .inr ⟨h, hgl9⟩
      · refine V4.out.trans' (((Fr.refl M W).grown HG9.out (fun y hy hy2 => V3.out y hy)).setCell V2.out _) (fun y hy hyM => ?_)
        rcases (HM.out y hyM).1 with h | h
        · exact h
        · omega
    · have hkm : k = most.toNat := by omega
      subst hkm
      gi_wp2
      exact ⟨M, Fr.refl _ _, fun b hb => ⟨.inl hb, (HM.out b hb).2⟩, rfl, _, V0.out, by rw [HL.out]; exact V1.out, V2.out, V3.out, V4.out⟩
  case hdone =>
    rintro D M W ⟨h1, h2, h3⟩ hD hnD hKD hM
    rw [List.take_length] at h3
    have htk : (hits p ds).take most.toNat = hits p ds := List.take_of_length_le h1
    have h4 : FindSt (w.heap.size + 1) w.heap.size w1 ((hits p ds).take most.toNat) M W := by rw [htk]; exact h3
    clear h3 htk
    obtain ⟨v, v0, v1, v2, v3, v4⟩ := h4
    obtain ⟨hs, ehs⟩ : ∃ hs, (hits p ds).take most.toNat = hs := ⟨_, rfl⟩
    rw [ehs] at v1
    have hval : ∃ A c, v = .slice A hs.length c := by
      rcases v1.2 with ⟨rfl, h⟩ | ⟨g, cap, cur, rfl, _⟩
      · exact ⟨none, 0, by rw [h]⟩
      · exact ⟨_, _, rfl⟩
    obtain ⟨Av, cv, rfl⟩ := hval
    have hc7 : W.cell? ⟨w.heap.size + 1, 0, none⟩ = some (.slice Av hs.length cv) := by rw [cell_of_block v0]; rfl
    have HE := Lib.hid ehs
    have V1 := Lib.hid v1
    have V3 := Lib.hid v3
    have V4 := Lib.hid v4
    have HKD := Lib.hid hKD
    clear ehs v0 v1 v2 v3 v4 hM hKD
    gi_wp2
    obtain rfl := HE.out
    exact find_ends HBE.out (by omega) hD hnD HKD.out V1.out V3.out V4.out (fun W2 => (results_tmp rfl _ _ W2).trans rfl)
  case hstop =>
    rintro D c k M W hk ⟨rfl, h3⟩ hD hnD hKD hM
    obtain ⟨v, v0, v1, v2, v3, v4⟩ := h3
    obtain ⟨hs, ehs⟩ : ∃ hs, (hits p ds).take most.toNat = hs := ⟨_, rfl⟩
    rw [ehs] at v1
    have hval : ∃ A c, v = .slice A hs.length c := by
      rcases v1.2 with ⟨rfl, h⟩ | ⟨g, cap, cur, rfl, _⟩
      · exact ⟨none, 0, by rw [h]⟩
      · exact ⟨_, _, rfl⟩
    obtain ⟨Av, cv, rfl⟩ := hval
    have hc7 : W.cell? ⟨w.heap.size + 1, 0, none⟩ = some (.slice Av hs.length cv) := by rw [cell_of_block v0]; rfl
    have HE := Lib.hid ehs
    have V1 := Lib.hid v1
    have V3 := Lib.hid v3
    have V4 := Lib.hid v4
    have HKD := Lib.hid hKD
    clear v0 v1 v2 v3 v4 hM hKD ehs
    gi_wp2
    obtain rfl := HE.out
    exact find_ends HBE.out (by omega) hD hnD HKD.out V1.out V3.out V4.out (fun W2 => (results_tmp rfl _ _ W2).trans rfl)
end Go.Proofs.Ytinlmodkdjpocaa
