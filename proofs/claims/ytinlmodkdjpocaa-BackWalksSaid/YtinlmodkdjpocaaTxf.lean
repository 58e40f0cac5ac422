/- text: what the laws' Find makes of text.Find: the first hits. -/
import Derived.Test.YtinlmodkdjpocaaTxe
set_option linter.unusedVariables false
namespace Go.Proofs.Ytinlmodkdjpocaa
open Go.RowKit Go.Shelf
attribute [local go_sem] Oper.semAt_some

/-- what the loop of Find holds: block B's slice owns the first j hits; all that lay below but B lies as it lay -/
def FindSt (B base : Nat) (w1 : World) (hs : List (Nat × Nat)) (M : Nat → Prop) (W : World) : Prop :=
  ∃ v, W.heap[B]? = some (.cells #[v] 32 (0, 0)) ∧ W.ownsRow base 77 2 v hs.length (flatH hs) ∧ M B ∧ (∀ g, v.ownBlock = some g → M g) ∧ Fr (fun b => b = B) w1 W

theorem FindSt.fr {B base : Nat} {w1 : World} {hs : List (Nat × Nat)} {M : Nat → Prop} {W W2 : World} (h : FindSt B base w1 hs M W) (hf : Fr (fun b => w1.heap.size ≤ b ∧ ¬ M b) W W2) : FindSt B base w1 hs M W2 := by
  obtain ⟨v, h0, h1, h2, h3, h4⟩ := h
  refine ⟨v, hf.obj h0 (fun h => h.2 h2), ?_, h2, h3, h4.trans' hf (fun b hb hm => by omega)⟩
  refine ⟨h1.1, ?_⟩
  rcases h1.2 with h | ⟨g, cap, cur, rfl, hb, hg, r⟩
  · exact .inl h
  · exact .inr ⟨g, cap, cur, rfl, hb, hf.obj hg (fun h => h.2 (h3 g rfl)), r⟩

theorem find_ends {w w1 W : World} {D : Nat} {M : Nat → Prop} {hs : List (Nat × Nat)} {Av : Option Addr} {cv : Nat} {n : Nat} {tm : Array Value} (hbe : Below w.heap.size w w1) (hsw : w.heap.size + 1 < w1.heap.size) (hD : w1.heap.size ≤ D) (hnD : ¬ M D) (hKD : W.heap[D]? = some (.deferred (some [])))
    (h1 : W.ownsRow w.heap.size 77 2 (.slice Av hs.length cv) hs.length (flatH hs)) (h3 : ∀ g, (Value.slice Av hs.length cv).ownBlock = some g → M g) (h4 : Fr (fun b => b = w.heap.size + 1) w1 W)
    (hr : ∀ W', (results Try.f25 tm).run Try.prog W' = .ok (.slice Av hs.length cv) W') :
    LeavesInM Fence.wide n Try.prog Try.f25 tm (fun e w' => ∃ v, e = .returned v ∧ HitsR w' v hs ∧ Below w.heap.size w w') [{ target := .collected D, args := #[] }] .returning W := by
  refine leaves_marks [D] W (by simp) (fun D' hD' => by simp at hD'; subst hD'; exact hKD) hr (fun W4 hW4 => ?_)
  have hown4 : W4.ownsRow w.heap.size 77 2 (.slice Av hs.length cv) hs.length (flatH hs) := by
    refine ⟨h1.1, ?_⟩
    rcases h1.2 with h | ⟨g, cap, cur, he, hb, hg, r⟩
    · exact .inl h
    · refine .inr ⟨g, cap, cur, he, hb, hW4.obj hg (fun h => ?_), r⟩
      simp at h
      subst h
      exact hnD (h3 g (by rw [he]; rfl))
  have h5 := hbe.size
  refine ⟨_, rfl, HitsR.of_own hown4, ?_⟩
  exact hbe.trans ((h4.below (n := w.heap.size) (by omega) (fun b hb => by omega)).trans (hW4.below (by have := h4.size; omega) (fun b hb => by simp at hb; omega)))

set_option maxRecDepth 100000 in
set_option maxHeartbeats 2000000 in
theorem law_find (b : Nat) (ds : List (List UInt8)) (p : List UInt8) (most : Int) (w : World) (ht : TextR w b ds) (hG : GL w) (hdl : ∀ d ∈ ds, d.length < 4294967281) (hpl : p.length < 4294967281) (hh : (hits p ds).length ≤ 100000000000) :
    Calls Try.prog 25 #[.pointer (some ⟨b, 0, none⟩), strV p, .int .i64 most] w fun e w' => ∃ v, e = .returned v ∧ HitsR w' v ((hits p ds).take most.toNat) ∧ Below w.heap.size w w' := by
  refine (callsIn_wide (n := 5)).1 ?_
  refine callsIn_of_wp_marks Try.func25 rfl trivial ?_ rfl
  simp only [Try.ntmps25, List.size_toArray, List.length_cons, List.length_nil, Nat.reduceAdd, Nat.reduceSub, Array.replicate_succ, Array.replicate_zero, List.push_toArray, List.append_toArray, List.nil_append, List.cons_append]
  obtain ⟨wa, hwa⟩ : ∃ wa, (w.alloc (.cells #[.int .i64 most] 3)).alloc (.cells #[.slice none 0 0] 32) = wa := ⟨_, rfl⟩
  have hba : Below w.heap.size w wa := by rw [← hwa]; exact ((Below.refl _ w).alloc (Nat.le_refl _) _).alloc (by simp) _
  have hsa : wa.heap.size = w.heap.size + 2 := by rw [← hwa]; simp
  have a0 : wa.heap[w.heap.size]? = some (.cells #[.int .i64 most] 3 (0, 0)) := by
    rw [← hwa, Below.heap_alloc _ _ _ (by simp)]; exact heap_alloc_new w _
  have a1 : wa.heap[w.heap.size + 1]? = some (.cells #[.slice none 0 0] 32 (0, 0)) := by
    rw [← hwa]
    have := heap_alloc_new (w.alloc (.cells #[.int .i64 most] 3)) (.cells #[.slice none 0 0] 32)
    rwa [World.size_alloc] at this
  obtain ⟨cp, wb, hrun, hsb, hbb, hszb⟩ := conv_str p wa (by omega)
  have HW := Lib.hid hwa
  have HBA := Lib.hid hba
  have HSA := Lib.hid hsa
  have A0 := Lib.hid a0
  have A1 := Lib.hid a1
  have HSB := Lib.hid hsb
  have HBB := Lib.hid hbb
  have HZB := Lib.hid hszb
  have HT := Lib.hid ht
  have HG := Lib.hid hG
  have HDL := Lib.hid hdl
  have HH := Lib.hid hh
  have hconv : ∀ W : World, W = wa → (convert 9 29 (strV p)).run Try.prog W = .ok (.slice (some ⟨wa.heap.size, 0, none⟩) p.length cp) wb := fun W e => e ▸ hrun
  have HC := Lib.hid hconv
  clear hwa hba hsa a0 a1 hsb hbb hszb ht hG hdl hh hrun hconv
  gi_wp2_with fail
  rw [HW.out, HC.out wa rfl]
  have heq : ∀ W : World, (binOp .eql 97 (.func (.func 95) #[] #[.pointer (some ⟨wb.heap.size, 0, none⟩), .pointer (some ⟨wb.heap.size + 1, 0, none⟩)]) .nilFunc).run Try.prog W = .ok (.bool false) W := fun W => run_eql_func_nil W _ _ _ _ Try.underlying97
  have hfind := Lib.hid (find_any b _ p wb HSB.out (by omega))
  gi_wp2_with (refine ⟨trivial, ?_⟩; gi_at_call 70; go_must (refine (callsIn_wide.2 hfind.out).mono ?_; rintro e w1 ⟨pv', rfl, g0, g1, ho, hb1, hs1⟩; have G0 := Lib.hid g0; have G1 := Lib.hid g1; have HO := Lib.hid ho; have HB1 := Lib.hid hb1; have HS1 := Lib.hid hs1; clear g0 g1 ho hb1 hs1))
  clear heq hfind
  have hs := HS1.out
  have hz := HZB.out
  have ha := HSA.out
  -- the data of the iterator lie off the box
  obtain ⟨dv, a_, r_, t0, -, -, htd, -, -⟩ := HT.out.cells
  obtain ⟨vs, hvl, hv1, hv2⟩ := htd
  have hbe : Below w.heap.size w w1 := HBA.out.trans ((HBB.out.mono (by omega)).trans (HB1.out.mono (by omega)))
  have hdata : ∀ W : World, (∀ x, (x < w1.heap.size ∧ x ≠ w.heap.size + 1) → W.heap[x]? = w1.heap[x]?) → W.cell? ⟨b, 0, none⟩ = some dv ∧ SlR id W dv vs ∧ (∀ j (h : j < vs.length) (h' : j < ds.length), SlR byV W vs[j] ds[j]) ∧ SlR byV W pv' p ∧ GL W := by
    intro W hW
    have hWb : ∀ x, x < w.heap.size → W.heap[x]? = w.heap[x]? := fun x hx => (hW x ⟨by have := hbe.size; omega, by omega⟩).trans (hbe.block x hx)
    refine ⟨(World.cell?_of_block (w := w) (hWb b (World.block_lt_of_cell? w _ t0))).trans t0, hv1.same (Nat.le_refl _) hWb, fun j h h' => (hv2 j h h').same (Nat.le_refl _) hWb, ?_, ?_⟩
    · refine SlR.of_own (base := wb.heap.size + 2) (e := 5) (n := p.length) ⟨HO.out.1, ?_⟩
      rcases HO.out.2 with h | ⟨g, cap, cur, rfl, hg, hgg, r⟩
      · exact .inl h
      · exact .inr ⟨g, cap, cur, rfl, hg, (hW g ⟨(Array.getElem?_eq_some_iff.1 hgg).1, by omega⟩).trans hgg, r⟩
    · obtain ⟨m, hm⟩ := HG.out
      exact ⟨m, (World.cell?_of_block (w := w) (hWb 0 (World.block_lt_of_cell? w _ hm))).trans hm⟩
  have hit := find1_iter wb.heap.size (wb.heap.size + 1) b (fun x => x < w1.heap.size ∧ x ≠ w.heap.size + 1) w1 ds p dv pv' vs hvl ⟨by omega, by omega⟩ ⟨by omega, by omega⟩ (fun _ h => h.1) hdata G0.out G1.out HDL.out hpl
  have hB1 : w1.heap[w.heap.size + 1]? = some (.cells #[.slice none 0 0] 32 (0, 0)) := (HB1.out.block _ (by omega)).trans ((HBB.out.block _ (by omega)).trans A1.out)
  have hM1 : w1.heap[w.heap.size]? = some (.cells #[.int .i64 most] 3 (0, 0)) := (HB1.out.block _ (by omega)).trans ((HBB.out.block _ (by omega)).trans A0.out)
  have HBE := Lib.hid hbe
  have HB1' := Lib.hid hB1
  have HM1 := Lib.hid hM1
  clear hdata hbe hB1 hM1 t0 hv1 hv2 hvl
  have hsw : w.heap.size + 1 < w1.heap.size := by omega
  clear hs hz ha
  gi_wp2
  refine wp_range_outer hit rfl (enters_of Try.func95 (by kernel_rfl) rfl) (Nat.le_refl _) (fun x => x = w.heap.size + 1) ?hRd ?hM0 ?hps ?hArg
    (fun k M W => k ≤ most.toNat ∧ k ≤ (hits p ds).length ∧ FindSt (w.heap.size + 1) w.heap.size w1 ((hits p ds).take k) M W)
    (fun c k M W => c = .exit 0 ∧ FindSt (w.heap.size + 1) w.heap.size w1 ((hits p ds).take most.toNat) M W)
    ?hI ?hIx ?hI0
    (fun args => { tmps := #[.pointer (some ⟨b, 0, none⟩), strV p, .int .i64 most, undef, undef, .pointer (some ⟨w.heap.size, 0, none⟩), .slice none 0 0, .pointer (some ⟨w.heap.size + 1, 0, none⟩), .func (.func 95) #[] #[.pointer (some ⟨wb.heap.size, 0, none⟩), .pointer (some ⟨wb.heap.size + 1, 0, none⟩)], args.getD 0 undef, args.getD 1 undef, .pointer (some ⟨b, 0, none⟩), strV p, .slice (some ⟨wa.heap.size, 0, none⟩) p.length cp, .func (.func 95) #[] #[.pointer (some ⟨wb.heap.size, 0, none⟩), .pointer (some ⟨wb.heap.size + 1, 0, none⟩)], .func (.func 95) #[] #[.pointer (some ⟨wb.heap.size, 0, none⟩), .pointer (some ⟨wb.heap.size + 1, 0, none⟩)], .bool false, .func (.func 95) #[] #[.pointer (some ⟨wb.heap.size, 0, none⟩), .pointer (some ⟨wb.heap.size + 1, 0, none⟩)], args.getD 0 undef, args.getD 1 undef, undef, undef, undef, undef, undef, undef, undef, undef, undef, undef, undef], defers := [] })
    ?hassign ?hbody ?hdone ?hstop
  case hRd => exact fun b hb => ⟨hb.1, hb.2, rfl⟩
  case hM0 =>
    rintro b rfl
    omega
  case hps =>
    rintro k args W _ ⟨x, _, rfl⟩
    rfl
  case hArg => exact fun _ _ _ _ _ _ h _ => h
  case hI => exact fun k M A B ⟨h1, h2, h3⟩ hf => ⟨h1, h2, h3.fr hf⟩
  case hIx => exact fun c k M A B ⟨h1, h3⟩ hf => ⟨h1, h3.fr hf⟩
  case hI0 => exact ⟨Nat.zero_le _, Nat.zero_le _, _, HB1'.out, World.ownsRow_nil _ _ _ _, rfl, fun g h => by simp [Value.ownBlock] at h, Fr.refl _ _⟩
  case hassign =>
    rintro l k args W K _ ⟨x, _, rfl⟩ hK
    gi_wp2
    exact hK
  case hbody =>
    rintro l k M args W hk ⟨h1, h2, h3⟩ ⟨x, hx, rfl⟩ hl hl2 hnl hrec hM
    obtain ⟨v, v0, v1, v2, v3, v4⟩ := h3
    have v5 := v4.size
    have hlen : ((hits p ds).take k).length = k := by simp; omega
    rw [hlen] at v1
    have hval : ∃ A c, v = .slice A k c := by
      rcases v1.2 with ⟨rfl, h⟩ | ⟨g, cap, cur, rfl, _⟩
      · exact ⟨none, 0, by rw [h]⟩
      · exact ⟨_, _, rfl⟩
    obtain ⟨Av, cv, rfl⟩ := hval
    have hbW : w.heap.size ≤ W.heap.size := by omega
    have hc7 : W.cell? ⟨w.heap.size + 1, 0, none⟩ = some (.slice Av k cv) := by rw [cell_of_block v0]; rfl
    have hc5 : W.cell? ⟨w.heap.size, 0, none⟩ = some (.int .i64 most) := by rw [cell_of_block ((v4.block w.heap.size (by omega) (by omega)).trans HM1.out)]; rfl
    have hf7 : W.frozen? ⟨w.heap.size + 1, 0, none⟩ = false := free_of_block v0
    have hk3 : k ≤ 100000000000 := by have := HH.out; omega
    have V0 := Lib.hid v0
    have V1 := Lib.hid v1
    have V2 := Lib.hid v2
    have V3 := Lib.hid v3
    have V4 := Lib.hid v4
    have HM := Lib.hid hM
    have HX := Lib.hid hx
    have HL := Lib.hid hlen
    clear v0 v1 v2 v3 v4 hM hx hlen hrec
    by_cases hmk : (k : Int) < most
    · gi_wp2_with (first | (gi_at_builtin; refine wp_appIn w.heap.size 32 77 (.agg #[.int .i64 0, .int .i64 0]) 2 16 (.tmp 24) (.tmp 28) rfl rfl Try.underlying32 info_hit rfl (by decide) (by decide) (.slice Av k cv) k (flatH ((hits p ds).take k)) #[.int .i64 (x.1 : Nat), .int .i64 (x.2 : Nat)] rfl rfl V1.out rfl (by intro u hu; simp at hu; rcases hu with rfl | rfl <;> rfl) (by omega) hbW ?_; intro g cap w9 ho9 hg9 hat9 hgb9 hgl9 hgs9; have s9 : w9.heap[w.heap.size + 1]? = some (.cells #[.slice Av k cv] 32 (0, 0)) := grown_block hg9 V0.out (own_ne_block V1.out V0.out (by decide)); have c9 : w9.cell? ⟨w.heap.size + 1, 0, none⟩ = some (.slice Av k cv) := (by rw [cell_of_block s9]; rfl); have f9 : w9.frozen? ⟨w.heap.size + 1, 0, none⟩ = false := free_of_block s9; have S9 := Lib.hid s9; have HO9 := Lib.hid ho9; have HG9 := Lib.hid hg9; have HAT := Lib.hid hat9; clear s9 ho9 hg9 hat9))
      have hne9 : (Value.slice (some ⟨g, 0, none⟩) (k + 1) cap).ownBlock ≠ some (w.heap.size + 1) := own_ne_block HO9.out S9.out (by decide)
      refine ⟨fun y => M y ∨ W.heap.size ≤ y ∧ y < w9.heap.size, ?_, ?_, by omega, by omega, .slice (some ⟨g, 0, none⟩) (k + 1 : Nat) cap, ?_, ?_, .inl V2.out, ?_, ?_⟩
      · exact ((Fr.refl M W).grown HG9.out (fun y hy hy2 => V3.out y hy)).setCell V2.out _
      · rintro y (hy | hy)
        · exact ⟨.inl hy, by rw [World.size_setCell]; have := (HM.out y hy).2; have := HG9.out.size; omega⟩
        · exact ⟨.inr hy.1, by rw [World.size_setCell]; exact hy.2⟩
      · rw [heap_setCell_same S9.out]; rfl
      · have e : (hits p ds).take (k + 1) = (hits p ds).take k ++ [x] := by
          rw [List.take_add_one, HX.out]; rfl
        rw [e, flatH_snoc, List.length_append, HL.out]
        exact ownsRow_setCell_other HO9.out hne9 _
      · intro y hy
        have hyg : y = g := by simpa [Value.ownBlock] using hy.symm
        subst hyg
        rcases HAT.out with h | h
        · exact .inl (V3.out y h)
        · exact .inr ⟨h, hgl9⟩
      · refine V4.out.trans' (((Fr.refl M W).grown HG9.out (fun y hy hy2 => V3.out y hy)).setCell V2.out _) (fun y hy hyM => ?_)
        rcases (HM.out y hyM).1 with h | h
        · exact h
        · omega
    · have hkm : k = most.toNat := by omega
      subst hkm
      gi_wp2
      exact ⟨M, Fr.refl _ _, fun b hb => ⟨.inl hb, (HM.out b hb).2⟩, rfl, _, V0.out, by rw [HL.out]; exact V1.out, V2.out, V3.out, V4.out⟩
  case hdone =>
    rintro D M W ⟨h1, h2, h3⟩ hD hnD hKD hM
    rw [List.take_length] at h3
    have htk : (hits p ds).take most.toNat = hits p ds := List.take_of_length_le h1
    have h4 : FindSt (w.heap.size + 1) w.heap.size w1 ((hits p ds).take most.toNat) M W := by rw [htk]; exact h3
    clear h3 htk
    obtain ⟨v, v0, v1, v2, v3, v4⟩ := h4
    obtain ⟨hs, ehs⟩ : ∃ hs, (hits p ds).take most.toNat = hs := ⟨_, rfl⟩
    rw [ehs] at v1
    have hval : ∃ A c, v = .slice A hs.length c := by
      rcases v1.2 with ⟨rfl, h⟩ | ⟨g, cap, cur, rfl, _⟩
      · exact ⟨none, 0, by rw [h]⟩
      · exact ⟨_, _, rfl⟩
    obtain ⟨Av, cv, rfl⟩ := hval
    have hc7 : W.cell? ⟨w.heap.size + 1, 0, none⟩ = some (.slice Av hs.length cv) := by rw [cell_of_block v0]; rfl
    have HE := Lib.hid ehs
    have V1 := Lib.hid v1
    have V3 := Lib.hid v3
    have V4 := Lib.hid v4
    have HKD := Lib.hid hKD
    clear ehs v0 v1 v2 v3 v4 hM hKD
    gi_wp2
    obtain rfl := HE.out
    exact find_ends HBE.out (by omega) hD hnD HKD.out V1.out V3.out V4.out (fun W2 => (results_tmp rfl _ _ W2).trans rfl)
  case hstop =>
    rintro D c k M W hk ⟨rfl, h3⟩ hD hnD hKD hM
    obtain ⟨v, v0, v1, v2, v3, v4⟩ := h3
    obtain ⟨hs, ehs⟩ : ∃ hs, (hits p ds).take most.toNat = hs := ⟨_, rfl⟩
    rw [ehs] at v1
    have hval : ∃ A c, v = .slice A hs.length c := by
      rcases v1.2 with ⟨rfl, h⟩ | ⟨g, cap, cur, rfl, _⟩
      · exact ⟨none, 0, by rw [h]⟩
      · exact ⟨_, _, rfl⟩
    obtain ⟨Av, cv, rfl⟩ := hval
    have hc7 : W.cell? ⟨w.heap.size + 1, 0, none⟩ = some (.slice Av hs.length cv) := by rw [cell_of_block v0]; rfl
    have HE := Lib.hid ehs
    have V1 := Lib.hid v1
    have V3 := Lib.hid v3
    have V4 := Lib.hid v4
    have HKD := Lib.hid hKD
    clear v0 v1 v2 v3 v4 hM hKD ehs
    gi_wp2
    obtain rfl := HE.out
    exact find_ends HBE.out (by omega) hD hnD HKD.out V1.out V3.out V4.out (fun W2 => (results_tmp rfl _ _ W2).trans rfl)
end Go.Proofs.Ytinlmodkdjpocaa
