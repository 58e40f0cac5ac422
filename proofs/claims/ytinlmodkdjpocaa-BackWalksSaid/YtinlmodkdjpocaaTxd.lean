/- text: Find: the iterator over all documents' places. -/
import Derived.Test.YtinlmodkdjpocaaTxc
set_option linter.unusedVariables false
namespace Go.Proofs.Ytinlmodkdjpocaa
open Go.RowKit Go.Shelf
attribute [local go_sem] Oper.semAt_some

/-- the marks of loops that have ended -/
def marks (Ds : List Nat) : List Deferred := Ds.map fun D => { target := .collected D, args := #[] }

set_option maxRecDepth 100000 in
set_option maxHeartbeats 2000000 in
theorem find1_iter (b1 b2 b : Nat) (R : Nat → Prop) (w0 : World) (ds : List (List UInt8)) (p : List UInt8) (dv pv : Value) (vs : List Value) (hvl : vs.length = ds.length) (hR1 : R b1) (hR2 : R b2) (hRs : ∀ b, R b → b < w0.heap.size)
    (hdata : ∀ W : World, (∀ b, R b → W.heap[b]? = w0.heap[b]?) → W.cell? ⟨b, 0, none⟩ = some dv ∧ SlR id W dv vs ∧ (∀ j (h : j < vs.length) (h' : j < ds.length), SlR byV W vs[j] ds[j]) ∧ SlR byV W pv p ∧ GL W)
    (h1 : w0.heap[b1]? = some (.cells #[.pointer (some ⟨b, 0, none⟩)] 25 (0, 0))) (h2 : w0.heap[b2]? = some (.cells #[pv] 29 (0, 0))) (hdl : ∀ d ∈ ds, d.length < 4294967281) (hpl : p.length < 4294967281) :
    IterC Try.prog 95 #[.pointer (some ⟨b1, 0, none⟩), .pointer (some ⟨b2, 0, none⟩)] (hits p ds).length (fun k args _ => ∃ x, (hits p ds)[k]? = some x ∧ args = #[.int .i64 (x.1 : Nat), .int .i64 (x.2 : Nat)]) R w0 := by
  intro l M0 J Jx W hsz hRd hM0 hJ hJx hY hJ0
  refine (callsIn_wide (n := 5)).1 ?_
  refine callsIn_of_wp_marks Try.func95 rfl trivial ?_ rfl
  simp only [Try.ntmps95, List.size_toArray, List.length_cons, List.length_nil, Nat.reduceAdd, Nat.reduceSub, Array.replicate_succ, Array.replicate_zero, List.push_toArray, List.append_toArray, List.nil_append, List.cons_append]
  obtain ⟨k2, htd, -, hpW, -⟩ := hdata W (fun b hb => (hRd b hb).2.2)
  obtain ⟨A, c, rfl, hc1, hc2, -⟩ := htd.form
  rw [hvl] at k2 hc1
  obtain ⟨AP, cP, rfl, hp1, hp2, -⟩ := hpW.form
  have k1 : W.cell? ⟨b1, 0, none⟩ = some (.pointer (some ⟨b, 0, none⟩)) := by rw [cell_of_block ((hRd b1 hR1).2.2.trans h1)]; rfl
  have l1 : b1 < W.heap.size := World.block_lt_of_cell? W _ k1
  have l2 : b < W.heap.size := World.block_lt_of_cell? W _ k2
  have hcl : ds.length ≤ 9223372036854775807 := by omega
  have HY := Lib.hid hY
  have HRd := Lib.hid hRd
  have HJ := Lib.hid hJ
  have HJx := Lib.hid hJx
  have HM0 := Lib.hid hM0
  have H1 := Lib.hid h1
  have H2 := Lib.hid h2
  have HDA := Lib.hid hdata
  have HJ0 := Lib.hid hJ0
  have HDL := Lib.hid hdl
  have HR1 := Lib.hid hR1
  have HR2 := Lib.hid hR2
  have HRs := Lib.hid hRs
  clear hY hRd hJ hJx hM0 h1 h2 hJ0 hdl hdata htd hpW hc1 hc2 hR1 hR2 hRs
  gi_wp2
  obtain ⟨W0, hW0⟩ : ∃ W0, W.alloc (.cells #[.func (.yield l) #[] #[]] 133) = W0 := ⟨_, rfl⟩
  have hW0b : Below W.heap.size W W0 := by rw [← hW0]; exact (Below.refl _ W).alloc (Nat.le_refl _) _
  have hW0s : W0.heap.size = W.heap.size + 1 := by rw [← hW0]; simp
  have hW0n : W0.heap[W.heap.size]? = some (.cells #[.func (.yield l) #[] #[]] 133 (0, 0)) := by rw [← hW0]; exact heap_alloc_new W _
  rw [hW0]
  clear hW0 k1 k2
  refine wpIn_loop (fun a wr => ∃ (k : Nat) (Ds : List Nat) (M : Nat → Prop) (u4 u5 u6 u13 u14 u15 u16 u17 u18 u19 u20 u21 u22 u23 u24 u25 u26 : Value),
      a = { tmps := #[.func (.yield l) #[] #[], .pointer (some ⟨b1, 0, none⟩), .pointer (some ⟨b2, 0, none⟩), .pointer (some ⟨W.heap.size, 0, none⟩), u4, u5, u6, .pointer (some ⟨b, 0, none⟩), .pointer (some ⟨b, 0, none⟩), .pointer (some ⟨b, 0, none⟩), .slice A ds.length c, .int .i64 ds.length, .int .i64 k, u13, u14, u15, u16, u17, u18, u19, u20, u21, u22, u23, u24, u25, u26], defers := marks Ds } ∧
      k ≤ ds.length ∧ Ds.Nodup ∧ (∀ D, D ∈ Ds → W.heap.size < D ∧ ¬ M D ∧ wr.heap[D]? = some (.deferred (some []))) ∧ J (hits p (ds.take k)).length M wr ∧ (∀ b, M b → (M0 b ∨ W.heap.size ≤ b) ∧ b < wr.heap.size) ∧
      (∀ b, R b → wr.heap[b]? = w0.heap[b]?) ∧ ¬ M W.heap.size ∧ wr.heap[W.heap.size]? = some (.cells #[.func (.yield l) #[] #[]] 133 (0, 0)) ∧ W0.heap.size ≤ wr.heap.size)
    (fun a _ => ds.length - (intOf (a.tmps.getD 12 undef)).toNat) ?h0 ?round
  case h0 =>
    refine ⟨0, [], M0, _, _, _, _, _, _, _, _, _, _, _, _, _, _, _, _, _, rfl, Nat.zero_le _, List.nodup_nil, (fun D h => (by cases h)), ?_, (fun b hb => ⟨.inl hb, ?_⟩), (fun b hb => ?_), (fun h => ?_), hW0n, Nat.le_refl _⟩
    · exact HJ.out _ _ _ _ HJ0.out (Fr.of_below hW0b)
    · have := HM0.out b hb; omega
    · have h0 := HRd.out b hb
      exact (hW0b.block b (by omega)).trans h0.2.2
    · have := HM0.out _ h; omega
  case round =>
    rintro a wr ⟨k, Ds, M, u4, u5, u6, u13, u14, u15, u16, u17, u18, u19, u20, u21, u22, u23, u24, u25, u26, rfl, hk, hnd, hDs, hj, hm, hsame, hmW, hyb, hsz2⟩
    have HND := Lib.hid hnd
    have HDS := Lib.hid hDs
    have HJw := Lib.hid hj
    have HMw := Lib.hid hm
    have HSame := Lib.hid hsame
    have HMW := Lib.hid hmW
    have HYB := Lib.hid hyb
    have hc2 : wr.cell? ⟨b2, 0, none⟩ = some (.slice AP p.length cP) := by rw [cell_of_block ((hsame b2 HR2.out).trans H2.out)]; rfl
    have lb2 : b2 < wr.heap.size := World.block_lt_of_cell? wr _ hc2
    obtain ⟨-, hdw, hdw2, -, -⟩ := HDA.out wr hsame
    have HDoc := Lib.hid hdw
    have HDoc2 := Lib.hid hdw2
    clear hnd hDs hj hm hsame hmW hyb hdw hdw2
    have HS0 := Lib.hid hW0s
    have HS2 := Lib.hid hsz2
    clear hW0s hsz2
    by_cases hlt : k < ds.length
    · obtain ⟨ad, hA, hcw⟩ := HDoc.out.at_ k (by omega)
      subst hA
      have hsd := HDoc2.out k (by omega) hlt
      obtain ⟨B, c', hv, -, -, -⟩ := hsd.form
      simp only [id, hv] at hcw
      have HV := Lib.hid hv
      clear hv
      have lad : (ad.add k).block < wr.heap.size := World.block_lt_of_cell? wr _ hcw
      clear hsd HDoc HDoc2
      gi_wp2_with (refine ⟨trivial, ?_⟩; gi_at_call 96; go_must (refine (callsIn_wide.2 (in_any (.slice B ds[k].length c') (.slice AP p.length cP) (wr.alloc (.cells #[.int .i64 (k : Nat)] 3)) B AP _ _ _ _ rfl rfl)).mono ?_; rintro e w2 ⟨rfl, rfl⟩))
      obtain ⟨w1, hw1⟩ : ∃ w1, ((wr.alloc (.cells #[.int .i64 (k : Nat)] 3)).alloc (.cells #[.slice B ds[k].length c'] 29)).alloc (.cells #[.slice AP p.length cP] 29) = w1 := ⟨_, rfl⟩
      have hs1 : w1.heap.size = wr.heap.size + 3 := by rw [← hw1]; simp
      have hb1 : Below wr.heap.size wr w1 := by rw [← hw1]; exact (((Below.refl _ wr).alloc (Nat.le_refl _) _).alloc (by simp) _).alloc (by simp; omega) _
      have g0 : w1.heap[wr.heap.size]? = some (.cells #[.int .i64 (k : Nat)] 3 (0, 0)) := by
        rw [← hw1, Below.heap_alloc _ _ _ (by simp; omega), Below.heap_alloc _ _ _ (by simp)]; exact heap_alloc_new wr _
      have g1 : w1.heap[wr.heap.size + 1]? = some (.cells #[.slice B ds[k].length c'] 29 (0, 0)) := by
        rw [← hw1, Below.heap_alloc _ _ _ (by simp)]
        have := heap_alloc_new (wr.alloc (.cells #[.int .i64 (k : Nat)] 3)) (.cells #[.slice B ds[k].length c'] 29)
        rwa [World.size_alloc] at this
      have g2 : w1.heap[wr.heap.size + 1 + 1]? = some (.cells #[.slice AP p.length cP] 29 (0, 0)) := by
        rw [← hw1]
        have := heap_alloc_new ((wr.alloc (.cells #[.int .i64 (k : Nat)] 3)).alloc (.cells #[.slice B ds[k].length c'] 29)) (.cells #[.slice AP p.length cP] 29)
        rwa [World.size_alloc, World.size_alloc] at this
      rw [hw1]
      clear hw1
      have hRw : ∀ b, R b → b < wr.heap.size := fun b hb => by
        have h := HRs.out b hb
        have := HS2.out
        have := HS0.out
        omega
      have hdat : ∀ W4 : World, (∀ x, (R x ∨ x = wr.heap.size + 1 ∨ x = wr.heap.size + 1 + 1) → W4.heap[x]? = w1.heap[x]?) → SlR byV W4 (.slice B ds[k].length c') ds[k] ∧ SlR byV W4 (.slice AP p.length cP) p ∧ GL W4 := by
        intro W4 hW4
        have h := HDA.out W4 (fun b hb => (hW4 b (.inl hb)).trans ((hb1.block b (hRw b hb)).trans (HSame.out b hb)))
        refine ⟨?_, h.2.2.2.1, h.2.2.2.2⟩
        rw [← HV.out]
        exact h.2.2.1 k (by omega) hlt
      have hit := in1_iter (wr.heap.size + 1 + 1) (wr.heap.size + 1) (fun x => R x ∨ x = wr.heap.size + 1 ∨ x = wr.heap.size + 1 + 1) w1 ds[k] p (.slice B ds[k].length c') (.slice AP p.length cP) (.inr (.inr rfl)) (.inr (.inl rfl)) hdat g2 g1 (HDL.out _ (List.getElem_mem hlt)) hpl
      refine wp_range_outer hit
        rfl (enters_of Try.func118 (by kernel_rfl) rfl) (Nat.le_refl _) M ?hRd ?hM0 ?hps ?hArg
        (fun k' M' W' => J ((hits p (ds.take k)).length + k') M' W' ∧ (∀ b, b < w1.heap.size → ¬ M b → W'.heap[b]? = w1.heap[b]?) ∧ w1.heap.size ≤ W'.heap.size)
        (fun cc k' M' W' => cc = Code.ret ∧ Jx ((hits p (ds.take k)).length + k') M' W' ∧ (∀ b, b < w1.heap.size → ¬ M b → W'.heap[b]? = w1.heap[b]?) ∧ w1.heap.size ≤ W'.heap.size)
        ?hI ?hIx ?hI0
        (fun args => { tmps := #[.func (.yield l) #[] #[], .pointer (some ⟨b1, 0, none⟩), .pointer (some ⟨b2, 0, none⟩), .pointer (some ⟨W.heap.size, 0, none⟩), .pointer (some ⟨wr.heap.size, 0, none⟩), .slice B ds[k].length c', args.getD 0 undef, .pointer (some ⟨b, 0, none⟩), .pointer (some ⟨b, 0, none⟩), .pointer (some ⟨b, 0, none⟩), .slice (some ad) ds.length c, .int .i64 ds.length, .int .i64 k, .bool true, .int .i64 k, .pointer (some (ad.add k)), .slice B ds[k].length c', .slice B ds[k].length c', .slice AP p.length cP, .func (.func 118) #[] #[.pointer (some ⟨wr.heap.size + 1 + 1, 0, none⟩), .pointer (some ⟨wr.heap.size + 1, 0, none⟩)], args.getD 0 undef, u21, u22, u23, u24, u25, u26], defers := [] })
        ?hassign ?hbody ?hdone ?hstop
      case hRd =>
        intro b hb
        refine ⟨?_, ?_, rfl⟩
        · rcases hb with h | rfl | rfl
          · have := hRw b h; omega
          · omega
          · omega
        · intro hMb
          have h3 := HMw.out b hMb
          rcases hb with h | rfl | rfl
          · have h0 := HRd.out b h
            rcases h3.1 with h4 | h4
            · exact h0.2.1 h4
            · omega
          · omega
          · omega
      case hM0 =>
        intro b hb
        have := HMw.out b hb
        omega
      case hps =>
        rintro k' args W' _ ⟨x, _, rfl⟩
        rfl
      case hArg => exact fun _ _ _ _ _ _ h _ => h
      case hI =>
        rintro k' M' A B ⟨h1, h2, h3⟩ hf
        refine ⟨HJ.out _ _ _ _ h1 (hf.mono (fun b _ hb => ⟨?_, hb.2⟩)), fun b hb hM => ?_, Nat.le_trans h3 hf.size⟩
        · have := HS2.out; have := HS0.out; omega
        · exact (hf.block b (by omega) (fun h => by omega)).trans (h2 b hb hM)
      case hIx =>
        rintro cc k' M' A B ⟨h0, h1, h2, h3⟩ hf
        refine ⟨h0, HJx.out _ _ _ _ h1 (hf.mono (fun b _ hb => ⟨?_, hb.2⟩)), fun b hb hM => ?_, Nat.le_trans h3 hf.size⟩
        · have := HS2.out; have := HS0.out; omega
        · exact (hf.block b (by omega) (fun h => by omega)).trans (h2 b hb hM)
      case hI0 => exact ⟨HJ.out _ _ _ _ HJw.out (Fr.of_below hb1), fun _ _ _ => rfl, Nat.le_refl _⟩
      case hassign =>
        rintro l2 k' args W' K _ ⟨x, _, rfl⟩ hK
        gi_wp2
        exact hK
      case hbody =>
        rintro l2 k' M' args W' hk' ⟨h1, h2, h3⟩ ⟨x, hx, rfl⟩ hl hl2 hnl hrec hM'
        have hs2 := HS2.out
        have hs0 := HS0.out
        have c3 : W'.cell? ⟨W.heap.size, 0, none⟩ = some (.func (.yield l) #[] #[]) := by
          rw [cell_of_block ((h2 W.heap.size (by omega) HMW.out).trans ((hb1.block _ (by omega)).trans HYB.out))]; rfl
        have c4 : W'.cell? ⟨wr.heap.size, 0, none⟩ = some (.int .i64 (k : Nat)) := by
          rw [cell_of_block ((h2 wr.heap.size (by omega) (fun h => by have := HMw.out _ h; omega)).trans g0)]; rfl
        have hbd := hits_bound p ds k hlt
        obtain ⟨hx1, hx2⟩ := List.getElem?_eq_some_iff.1 hx
        obtain ⟨fn, tmps, assign, body, hy, hR⟩ := HY.out ((hits p (ds.take k)).length + k') M' #[.int .i64 (k : Nat), .int .i64 (x : Nat)] W' (by omega) h1 ⟨(k, x), by rw [hits_get p ds k hlt k' hx1, hx2], rfl⟩
          (fun b hb => ⟨by
            rcases (hM' b hb).1 with h | h
            · exact (HMw.out b h).1
            · right; omega, (hM' b hb).2⟩) (by omega)
        have HH2 := Lib.hid h2
        have HM' := Lib.hid hM'
        have Hy := Lib.hid hy
        have HR := Lib.hid hR
        clear h2 hM' hy hR hx1 hx2 hx hbd hrec h1
        gi_wp2
        rw [Hy.out]
        refine ⟨fun h => by simp [Fence.wide] at h, (roundIn_in HR.out).mono ?_⟩
        clear Hy HR
        rintro e W3 ⟨M2, hfr, hm2, ⟨rfl, hJ3⟩ | ⟨rfl, hJx3⟩⟩
        · have HF := Lib.hid hfr
          have HM2 := Lib.hid hm2
          have HJ3 := Lib.hid hJ3
          clear hfr hm2 hJ3
          gi_wp2
          refine ⟨M2, HF.out, fun b hb => HM2.out b hb, HJ3.out, fun b hb hM => ?_, Nat.le_trans h3 HF.out.size⟩
          refine (HF.out.block b (by omega) (fun h => ?_)).trans (HH2.out b hb hM)
          rcases (HM'.out b h).1 with h4 | h4
          · exact hM h4
          · omega
        · have HF := Lib.hid hfr
          have HM2 := Lib.hid hm2
          have HJ3 := Lib.hid hJx3
          clear hfr hm2 hJx3
          gi_wp2
          refine ⟨M2, HF.out, fun b hb => HM2.out b hb, rfl, HJ3.out, fun b hb hM => ?_, Nat.le_trans h3 HF.out.size⟩
          refine (HF.out.block b (by omega) (fun h => ?_)).trans (HH2.out b hb hM)
          rcases (HM'.out b h).1 with h4 | h4
          · exact hM h4
          · omega
      case hdone =>
        rintro D M' W' ⟨h1, h2, h3⟩ hD hmD hKD hM'
        have hs2 := HS2.out
        have hs0 := HS0.out
        have HH1 := Lib.hid h1
        have HH2 := Lib.hid h2
        have HM' := Lib.hid hM'
        have HD := Lib.hid hKD
        clear h1 h2 hM' hKD
        gi_wp2
        have hnM : ∀ b, b < w1.heap.size → ¬ M b → ¬ M' b := fun b hb h h' => by
          rcases (HM'.out b h').1 with h4 | h4
          · exact h h4
          · omega
        refine ⟨⟨k + 1, D :: Ds, M', _, _, _, _, _, _, _, _, _, _, _, _, _, _, _, _, _, rfl, by omega, List.nodup_cons.2 ⟨fun h => ?_, HND.out⟩, fun D' hD' => ?_, ?_, fun b hb => ?_, fun b hb => ?_, hnM _ (by omega) HMW.out, ?_, by omega⟩, by simp [intOf]; omega⟩
        · have h4 := HDS.out D h
          have h5 := World.putObj_size (w := wr) (r := 0) (o := Obj.deferred none)
          have h6 := (Array.getElem?_eq_some_iff.1 h4.2.2).1
          omega
        · rcases List.mem_cons.1 hD' with rfl | h
          · exact ⟨by omega, hmD, HD.out⟩
          · have h4 := HDS.out D' h
            have h6 := (Array.getElem?_eq_some_iff.1 h4.2.2).1
            refine ⟨h4.1, hnM _ (by omega) h4.2.1, ?_⟩
            rw [HH2.out D' (by omega) h4.2.1, hb1.block D' h6]
            exact h4.2.2
        · rw [hits_take_succ p ds k hlt, List.length_append, List.length_map]
          exact HH1.out
        · refine ⟨?_, (HM'.out b hb).2⟩
          rcases (HM'.out b hb).1 with h | h
          · exact (HMw.out b h).1
          · right; omega
        · have h0 := HRd.out b hb
          have hbM : ¬ M b := fun h => by
            rcases (HMw.out b h).1 with h4 | h4
            · exact h0.2.1 h4
            · omega
          exact (HH2.out b (by omega) hbM).trans ((hb1.block b (by omega)).trans (HSame.out b hb))
        · rw [HH2.out _ (by omega) HMW.out, hb1.block _ (by omega)]
          exact HYB.out
      case hstop =>
        rintro D cc k' M' W' hk' ⟨rfl, h1, h2, h3⟩ hD hmD hKD hM'
        have hs2 := HS2.out
        have hs0 := HS0.out
        have hbd := hits_bound p ds k hlt
        have HH1 := Lib.hid h1
        have HH2 := Lib.hid h2
        have HM' := Lib.hid hM'
        have HD := Lib.hid hKD
        clear h1 h2 hM' hKD
        gi_wp2
        have hnM : ∀ b, b < w1.heap.size → ¬ M b → ¬ M' b := fun b hb h h' => by
          rcases (HM'.out b h').1 with h4 | h4
          · exact h h4
          · omega
        refine leaves_marks (D :: Ds) W' (List.nodup_cons.2 ⟨fun h => ?_, HND.out⟩) (fun D' hD' => ?_) (results_none rfl _ _) (fun W4 hW4 => ?_)
        · have h4 := HDS.out D h
          have h6 := (Array.getElem?_eq_some_iff.1 h4.2.2).1
          omega
        · rcases List.mem_cons.1 hD' with rfl | h
          · exact HD.out
          · have h4 := HDS.out D' h
            have h6 := (Array.getElem?_eq_some_iff.1 h4.2.2).1
            rw [HH2.out D' (by omega) h4.2.1, hb1.block D' h6]
            exact h4.2.2
        · refine ⟨⟨_, rfl⟩, M', ?_, fun b hb => ⟨?_, ?_⟩, .inr ⟨_, ?_, HJx.out _ _ _ _ HH1.out (hW4.mono (fun b _ hb => ?_))⟩⟩
          · have := hW4.size; omega
          · rcases (HM'.out b hb).1 with h | h
            · exact (HMw.out b h).1
            · right; omega
          · have := (HM'.out b hb).2; have := hW4.size; omega
          · omega
          · rcases List.mem_cons.1 hb with rfl | h
            · exact ⟨by omega, hmD⟩
            · have h4 := HDS.out b h
              have h6 := (Array.getElem?_eq_some_iff.1 h4.2.2).1
              exact ⟨by omega, hnM _ (by omega) h4.2.1⟩
    · have hk' : k = ds.length := by omega
      have HJN : Hid (J (hits p ds).length M wr) := by
        have h := HJw.out
        rw [hk', List.take_length] at h
        exact Lib.hid h
      clear hk' HJw
      gi_wp2
      refine leaves_marks Ds wr HND.out (fun D' hD' => (HDS.out D' hD').2.2) (results_none rfl _ _) (fun W4 hW4 => ?_)
      have hs2 := HS2.out
      have hs0 := HS0.out
      refine ⟨⟨_, rfl⟩, M, ?_, fun b hb => ⟨(HMw.out b hb).1, ?_⟩, .inl (HJ.out _ _ _ _ HJN.out (hW4.mono (fun b _ hb => ?_)))⟩
      · have := hW4.size; omega
      · have := (HMw.out b hb).2; have := hW4.size; omega
      · have h4 := HDS.out b hb
        exact ⟨by omega, h4.2.1⟩
end Go.Proofs.Ytinlmodkdjpocaa
