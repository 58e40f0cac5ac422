/- walk: At. the document: Place, Samples. walk: New of nothing, At at a place's row; law 13: awake. -/
import Derived.Test.YtinlmodkdjpocaaWpn
import Derived.Test.YtinlmodkdjpocaaPlm
import Derived.Test.YtinlmodkdjpocaaRfx
import Derived.Test.YtinlmodkdjpocaaQst
import Derived.StillTailTactics
set_option linter.unusedVariables false
namespace Go.Proofs.Ytinlmodkdjpocaa
open Go.RowKit Go.Shelf
attribute [local go_sem] Oper.semAt_some

theorem zero_place (w : World) : (zeroValue 127).run Try.prog w = .ok (.agg #[.int .i64 0, .int .i64 0]) w := by
  first | exact Try.zeroValue127 w | kernel_rfl | rfl

theorem at_results (tm : Array Value) (W : World) (s : Nat) (d o : Int) (k : Bool) (h6 : tm[6]?.getD undef = .pointer (some ⟨s + 1, 0, none⟩)) (h7 : tm[7]?.getD undef = .pointer (some ⟨s + 1 + 1, 0, none⟩)) (h8 : tm[8]?.getD undef = .pointer (some ⟨s + 1 + 1 + 1, 0, none⟩))
    (c6 : W.cell? ⟨s + 1, 0, none⟩ = some (.int .i64 d)) (c7 : W.cell? ⟨s + 1 + 1, 0, none⟩ = some (.int .i64 o)) (c8 : W.cell? ⟨s + 1 + 1 + 1, 0, none⟩ = some (.bool k)) :
    (results Try.f61 tm).run Try.prog W = .ok (.tuple #[.int .i64 d, .int .i64 o, .bool k]) W := by
  simp [results, Try.results61, go_sem, h6, h7, h8, c6, c7, c8]

set_option maxRecDepth 100000 in
set_option maxHeartbeats 4000000 in
/-- no row: there is no place -/
theorem walk_at_out (b x : Nat) (L : List Nat) (row : Int) (w : World) (hix : IdxR w x L) (h : row < 0 ∨ (L.length : Int) ≤ row) :
    Calls Try.prog 61 #[.pointer (some ⟨b, 0, none⟩), .pointer (some ⟨x, 0, none⟩), .int .i64 row] w fun e w' => e = .returned (.tuple #[.int .i64 0, .int .i64 0, .bool false]) ∧ Below w.heap.size w w' := by
  have hlen := Lib.hid (fun W (hW : Below w.heap.size w W) => back_len x L W (hix.later hW))
  obtain ⟨NL, hNL⟩ : ∃ NL, NL = L.length := ⟨_, rfl⟩
  rw [← hNL] at hlen h
  clear hix hNL
  obtain ⟨wa, hwa⟩ : ∃ wa, wa = (((w.alloc (.cells #[.pointer (some ⟨b, 0, none⟩)] 80)).alloc (.cells #[.int .i64 0] 3)).alloc (.cells #[.int .i64 0] 3)).alloc (.cells #[.bool false] 4) := ⟨_, rfl⟩
  have hba : Below w.heap.size w wa := by rw [hwa]; exact ((((Below.refl _ w).alloc (Nat.le_refl _) _).alloc (by simp) _).alloc (by simp; omega) _).alloc (by simp; omega) _
  have a1 : wa.cell? ⟨w.heap.size + 1, 0, none⟩ = some (.int .i64 0) := by rw [hwa]; simp [go_sem]
  have a2 : wa.cell? ⟨w.heap.size + 1 + 1, 0, none⟩ = some (.int .i64 0) := by rw [hwa]; simp [go_sem]
  have a3 : wa.cell? ⟨w.heap.size + 1 + 1 + 1, 0, none⟩ = some (.bool false) := by rw [hwa]; simp [go_sem]
  have f1 : wa.frozen? ⟨w.heap.size + 1, 0, none⟩ = false := by rw [hwa]; simp [go_sem]
  have f2 : wa.frozen? ⟨w.heap.size + 1 + 1, 0, none⟩ = false := by rw [hwa]; simp [go_sem]
  have f3 : wa.frozen? ⟨w.heap.size + 1 + 1 + 1, 0, none⟩ = false := by rw [hwa]; simp [go_sem]
  have HWA := Lib.hid hwa
  have HBA := Lib.hid hba
  have HL := Lib.hid (hlen.out wa hba)
  clear hwa hba hlen
  go_enter Try.func61, Try.ntmps61
  by_cases h0 : row < 0
  · have hd : decide (row < 0) = true := by simp; omega
    clear h
    go_wp2_with fail
    rw [← HWA.out]
    refine bodyPost_ret (v := .tuple #[.int .i64 0, .int .i64 0, .bool false]) (at_results _ _ w.heap.size 0 0 false rfl rfl rfl a1 a2 a3) rfl ?_
    exact ⟨rfl, HBA.out⟩
  · have hd : decide (row < 0) = false := by simp; omega
    have hd2 : decide ((NL : Int) ≤ row) = true := by simp; omega
    clear h
    go_wp2_with fail
    rw [← HWA.out]
    refine HL.out.mono ?_
    rintro e w1 ⟨rfl, hw1⟩
    have hw2 := hw1.symm
    subst hw2
    go_wp2_with fail
    refine bodyPost_ret (v := .tuple #[.int .i64 0, .int .i64 0, .bool false]) (at_results _ _ w.heap.size 0 0 false rfl rfl rfl ?c6 ?c7 ?c8) rfl ?_
    case c6 => simp [go_sem, a1]
    case c7 => simp [go_sem, a2]
    case c8 => simp [go_sem, a3]
    exact ⟨rfl, ((HBA.out.setCell (p := ⟨w.heap.size + 1, 0, none⟩) (by show w.heap.size ≤ w.heap.size + 1; omega) _).setCell (p := ⟨w.heap.size + 1 + 1, 0, none⟩) (by show w.heap.size ≤ w.heap.size + 1 + 1; omega) _).setCell (p := ⟨w.heap.size + 1 + 1 + 1, 0, none⟩) (by show w.heap.size ≤ w.heap.size + 1 + 1 + 1; omega) _⟩

theorem atF_none {f : Int → Option (Nat × Nat)} {r : Nat → Int} {K : Nat} (h : ∀ i, i ≤ K → f (r i) = none) : atF f r K = none := by
  unfold atF
  rw [List.findSome?_eq_none_iff]
  intro i hi
  rw [h i (by have := List.mem_range.1 hi; omega)]; rfl
theorem atF_some {f : Int → Option (Nat × Nat)} {r : Nat → Int} {K k : Nat} {a : Nat × Nat} (hk : k ≤ K) (h : ∀ i, i < k → f (r i) = none) (ha : f (r k) = some a) : atF f r K = some (a.1, a.2 + k) := by
  unfold atF
  have hsp : List.range (K + 1) = List.range k ++ (k :: (List.range (K - k)).map (fun t => k + (t + 1))) := by
    have e : K + 1 = k + ((K - k) + 1) := by omega
    conv => lhs; rw [e]
    rw [List.range_add, List.range_succ_eq_map, List.map_cons, List.map_map]
    simp [Function.comp_def]
  rw [hsp, List.findSome?_append]
  have h1 : (List.range k).findSome? (fun k => (f (r k)).map (fun a => (a.1, a.2 + k))) = none := by
    rw [List.findSome?_eq_none_iff]
    intro i hi
    rw [h i (List.mem_range.1 hi)]; rfl
  rw [h1, List.findSome?_cons, ha]
  rfl
/-- what At tells -/
def atV : Option (Nat × Nat) → Value
  | some a => .tuple #[.int .i64 (a.1 : Nat), .int .i64 (a.2 : Nat), .bool true]
  | none => .tuple #[.int .i64 0, .int .i64 0, .bool false]

/-- what the loop of At holds: the counter, the three results -/
structure AtSt (s : Nat) (w1 : World) (k d o : Int) (q : Bool) (M : Nat → Prop) (W : World) : Prop where
  cnt : W.heap[s + 5]? = some (.cells #[.int .i64 k] 3 (0, 0))
  rd : W.heap[s + 1]? = some (.cells #[.int .i64 d] 3 (0, 0))
  ro : W.heap[s + 1 + 1]? = some (.cells #[.int .i64 o] 3 (0, 0))
  rk : W.heap[s + 1 + 1 + 1]? = some (.cells #[.bool q] 4 (0, 0))
  m5 : M (s + 5)
  m1 : M (s + 1)
  m2 : M (s + 1 + 1)
  m3 : M (s + 1 + 1 + 1)
  fr : Fr (fun y => y = s + 5 ∨ y = s + 1 ∨ y = s + 1 + 1 ∨ y = s + 1 + 1 + 1) w1 W
theorem AtSt.keep {s : Nat} {w1 : World} {k d o : Int} {q : Bool} {M : Nat → Prop} {W W2 : World} (h : AtSt s w1 k d o q M W) (hf : Fr (fun b => w1.heap.size ≤ b ∧ ¬ M b) W W2) : AtSt s w1 k d o q M W2 :=
  ⟨hf.obj h.cnt (fun e => e.2 h.m5), hf.obj h.rd (fun e => e.2 h.m1), hf.obj h.ro (fun e => e.2 h.m2), hf.obj h.rk (fun e => e.2 h.m3), h.m5, h.m1, h.m2, h.m3, h.fr.trans' hf (fun b hb hm => by omega)⟩

theorem AtSt.facts {s : Nat} {w1 : World} {k d o : Int} {q : Bool} {M : Nat → Prop} {W : World} (h : AtSt s w1 k d o q M W) :
    W.cell? ⟨s + 1, 0, none⟩ = some (.int .i64 d) ∧ W.cell? ⟨s + 1 + 1, 0, none⟩ = some (.int .i64 o) ∧ W.cell? ⟨s + 1 + 1 + 1, 0, none⟩ = some (.bool q) ∧
    W.frozen? ⟨s + 1, 0, none⟩ = false ∧ W.frozen? ⟨s + 1 + 1, 0, none⟩ = false ∧ W.frozen? ⟨s + 1 + 1 + 1, 0, none⟩ = false :=
  ⟨by rw [cell_of_block h.rd]; rfl, by rw [cell_of_block h.ro]; rfl, by rw [cell_of_block h.rk]; rfl, free_of_block h.rd, free_of_block h.ro, free_of_block h.rk⟩
theorem at_ends {w w1 W : World} {D s n : Nat} {M : Nat → Prop} {k d o : Int} {q : Bool} {tm : Array Value} (res : Option (Nat × Nat)) (hs : s = w.heap.size) (hbe : Below w.heap.size w w1) (hsw : s + 5 < w1.heap.size) (hD : w1.heap.size ≤ D) (hnD : ¬ M D) (hKD : W.heap[D]? = some (.deferred (some [])))
    (h : AtSt s w1 k d o q M W) (hv : atV res = .tuple #[.int .i64 d, .int .i64 o, .bool q]) (h6 : tm[6]?.getD undef = .pointer (some ⟨s + 1, 0, none⟩)) (h7 : tm[7]?.getD undef = .pointer (some ⟨s + 1 + 1, 0, none⟩)) (h8 : tm[8]?.getD undef = .pointer (some ⟨s + 1 + 1 + 1, 0, none⟩)) :
    LeavesInM Fence.wide n Try.prog Try.f61 tm (fun e w' => e = .returned (atV res) ∧ Below w.heap.size w w') [{ target := .collected D, args := #[] }] .returning W := by
  subst hs
  have hfr := h.fr
  have hsz := hfr.size
  refine leaves_marksR [D] W (by simp) (fun D' hD' => by simp at hD'; subst hD'; exact hKD) (v := atV res) (fun W4 hW4 => ?_) (fun W4 hW4 => ⟨rfl, ?_⟩)
  · rw [hv]
    obtain ⟨c1, c2, c3, -, -, -⟩ := h.facts
    have hc : ∀ {p : Addr} {v : Value}, W.cell? p = some v → p.block < D → W4.cell? p = some v := fun {p v} h hp => hW4.cell h (by simp; omega)
    exact at_results _ _ w.heap.size d o q h6 h7 h8 (hc c1 (by show w.heap.size + 1 < D; omega)) (hc c2 (by show w.heap.size + 1 + 1 < D; omega)) (hc c3 (by show w.heap.size + 1 + 1 + 1 < D; omega))
  · exact hbe.trans ((hfr.below (n := w.heap.size) hbe.size (fun b hb => by omega)).trans (hW4.below (by omega) (fun b hb => by simp at hb; omega)))
theorem at_none_ends {w w1 W : World} {D s n : Nat} {M : Nat → Prop} {k : Int} {tm : Array Value} (hs : s = w.heap.size) (hbe : Below w.heap.size w w1) (hsw : s + 5 < w1.heap.size) (hD : w1.heap.size ≤ D) (hnD : ¬ M D) (hKD : W.heap[D]? = some (.deferred (some [])))
    (h : AtSt s w1 k 0 0 false M W) (h6 : tm[6]?.getD undef = .pointer (some ⟨s + 1, 0, none⟩)) (h7 : tm[7]?.getD undef = .pointer (some ⟨s + 1 + 1, 0, none⟩)) (h8 : tm[8]?.getD undef = .pointer (some ⟨s + 1 + 1 + 1, 0, none⟩)) :
    LeavesInM Fence.wide n Try.prog Try.f61 tm (fun e w' => e = .returned (atV none) ∧ Below w.heap.size w w') [{ target := .collected D, args := #[] }] .returning
      (((W.setCell ⟨s + 1, 0, none⟩ (.int .i64 0)).setCell ⟨s + 1 + 1, 0, none⟩ (.int .i64 0)).setCell ⟨s + 1 + 1 + 1, 0, none⟩ (.bool false)) := by
  obtain ⟨WW, hWW⟩ : ∃ WW, WW = (((W.setCell ⟨s + 1, 0, none⟩ (.int .i64 0)).setCell ⟨s + 1 + 1, 0, none⟩ (.int .i64 0)).setCell ⟨s + 1 + 1 + 1, 0, none⟩ (.bool false)) := ⟨_, rfl⟩
  rw [← hWW]
  have hf : Fr (fun y => y = s + 1 ∨ y = s + 1 + 1 ∨ y = s + 1 + 1 + 1) W WW := by
    rw [hWW]
    exact (((Fr.refl _ W).setCell (p := ⟨s + 1, 0, none⟩) (.inl rfl) _).setCell (p := ⟨s + 1 + 1, 0, none⟩) (.inr (.inl rfl)) _).setCell (p := ⟨s + 1 + 1 + 1, 0, none⟩) (.inr (.inr rfl)) _
  have hfr := h.fr
  have hsz := hfr.size
  have hst : AtSt s w1 k 0 0 false (fun y => y = s + 5 ∨ y = s + 1 ∨ y = s + 1 + 1 ∨ y = s + 1 + 1 + 1) WW := by
    refine ⟨hf.obj h.cnt (by omega), ?_, ?_, ?_, .inl rfl, .inr (.inl rfl), .inr (.inr (.inl rfl)), .inr (.inr (.inr rfl)), hfr.trans (hf.mono (fun y _ hy => .inr hy))⟩
    · rw [hWW, Below.heap_setCell _ _ _ _ (by show s + 1 ≠ s + 1 + 1 + 1; omega), Below.heap_setCell _ _ _ _ (by show s + 1 ≠ s + 1 + 1; omega), heap_setCell_same h.rd]; rfl
    · have h0 : (W.setCell ⟨s + 1, 0, none⟩ (.int .i64 0)).heap[s + 1 + 1]? = some (.cells #[.int .i64 0] 3 (0, 0)) := by
        rw [Below.heap_setCell _ _ _ _ (by show s + 1 + 1 ≠ s + 1; omega)]; exact h.ro
      rw [hWW, Below.heap_setCell _ _ _ _ (by show s + 1 + 1 ≠ s + 1 + 1 + 1; omega), heap_setCell_same h0]; rfl
    · have h0 : ((W.setCell ⟨s + 1, 0, none⟩ (.int .i64 0)).setCell ⟨s + 1 + 1, 0, none⟩ (.int .i64 0)).heap[s + 1 + 1 + 1]? = some (.cells #[.bool false] 4 (0, 0)) := by
        rw [Below.heap_setCell _ _ _ _ (by show s + 1 + 1 + 1 ≠ s + 1 + 1; omega), Below.heap_setCell _ _ _ _ (by show s + 1 + 1 + 1 ≠ s + 1; omega)]; exact h.rk
      rw [hWW, heap_setCell_same h0]; rfl
  exact at_ends none hs hbe hsw hD (fun hy => by omega) (hf.obj hKD (by omega)) hst rfl h6 h7 h8

set_option maxRecDepth 100000 in
set_option maxHeartbeats 4000000 in
theorem walk_at_in (b x : Nat) (L : List Nat) (I N : Nat) (r : Nat → Int) (sm sz : List Nat) (f : Int → Option (Nat × Nat)) (w : World) (hix : IdxR w x L) (hp : PlcR w b sm sz f) (hW : WkS L (I : Nat) N r) (hI : I < L.length)
    (hr : ∀ k, k ≤ N → ∃ n : Nat, r k = (n : Int) ∧ n ≤ 1000000) (hfb : ∀ x a, f x = some a → a.1 ≤ 1000000 ∧ a.2 ≤ 1000000) :
    Calls Try.prog 61 #[.pointer (some ⟨b, 0, none⟩), .pointer (some ⟨x, 0, none⟩), .int .i64 I] w fun e w' => e = .returned (atV (atF f r (min N 31))) ∧ Below w.heap.size w w' := by
  obtain ⟨RES, hRES⟩ : ∃ RES, RES = atF f r (min N 31) := ⟨_, rfl⟩
  rw [← hRES]
  have HRES := Lib.hid hRES
  clear hRES
  refine (callsIn_wide (n := 5)).1 ?_
  refine callsIn_of_wp_marks Try.func61 rfl trivial ?_ rfl
  simp only [Try.ntmps61, List.size_toArray, List.length_cons, List.length_nil, Nat.reduceAdd, Nat.reduceSub, Array.replicate_succ, Array.replicate_zero, List.push_toArray, List.append_toArray, List.nil_append, List.cons_append]
  have hlen := Lib.hid (fun W (hW : Below w.heap.size w W) => back_len x L W (hix.later hW))
  obtain ⟨NL, hNL⟩ : ∃ NL, NL = L.length := ⟨_, rfl⟩
  rw [← hNL] at hlen hI
  have hNLb : NL ≤ 100000 := by obtain ⟨_, _, _, _, _, _, _, _, h6⟩ := hix; rw [hNL]; exact h6
  obtain ⟨sv, zv, mb, -, -, -, -, p4, p5⟩ := hp
  have hpb : b < w.heap.size := World.block_lt_of_cell? w _ p4
  have hmb := p5.lt
  obtain ⟨wa, hwa⟩ : ∃ wa, wa = (((w.alloc (.cells #[.pointer (some ⟨b, 0, none⟩)] 80)).alloc (.cells #[.int .i64 0] 3)).alloc (.cells #[.int .i64 0] 3)).alloc (.cells #[.bool false] 4) := ⟨_, rfl⟩
  have hba : Below w.heap.size w wa := by rw [hwa]; exact ((((Below.refl _ w).alloc (Nat.le_refl _) _).alloc (by simp) _).alloc (by simp; omega) _).alloc (by simp; omega) _
  have hsa : wa.heap.size = w.heap.size + 4 := by rw [hwa]; simp
  have a0 : wa.heap[w.heap.size]? = some (.cells #[.pointer (some ⟨b, 0, none⟩)] 80 (0, 0)) := by rw [hwa]; exact heap_old (heap_old (heap_old (heap_alloc_new w _)))
  have a1 : wa.heap[w.heap.size + 1]? = some (.cells #[.int .i64 0] 3 (0, 0)) := by
    rw [hwa]
    have := heap_alloc_new (w.alloc (.cells #[.pointer (some ⟨b, 0, none⟩)] 80)) (.cells #[.int .i64 0] 3)
    rw [World.size_alloc] at this
    exact heap_old (heap_old this)
  have a2 : wa.heap[w.heap.size + 1 + 1]? = some (.cells #[.int .i64 0] 3 (0, 0)) := by
    rw [hwa]
    have := heap_alloc_new ((w.alloc (.cells #[.pointer (some ⟨b, 0, none⟩)] 80)).alloc (.cells #[.int .i64 0] 3)) (.cells #[.int .i64 0] 3)
    rw [World.size_alloc, World.size_alloc] at this
    exact heap_old this
  have a3 : wa.heap[w.heap.size + 1 + 1 + 1]? = some (.cells #[.bool false] 4 (0, 0)) := by
    rw [hwa]
    have := heap_alloc_new (((w.alloc (.cells #[.pointer (some ⟨b, 0, none⟩)] 80)).alloc (.cells #[.int .i64 0] 3)).alloc (.cells #[.int .i64 0] 3)) (.cells #[.bool false] 4)
    rw [World.size_alloc, World.size_alloc, World.size_alloc] at this
    exact this
  obtain ⟨s, hs⟩ : ∃ s, s = w.heap.size := ⟨_, rfl⟩
  have HL := Lib.hid (hlen.out wa hba)
  have hd1 : decide ((I : Int) < 0) = false := by simp
  have hd2 : decide (NL ≤ I) = false := by simp; omega
  obtain ⟨k0, hk0, hk0b⟩ := hr 0 (Nat.zero_le _)
  have hI0 : r 0 = (I : Nat) := hW.start
  have p4a : wa.cell? ⟨b, 2, none⟩ = some (.map (some mb)) := (World.cell?_of_block (w := w) (hba.block _ hpb)).trans p4
  have c0a : wa.cell? ⟨w.heap.size, 0, none⟩ = some (.pointer (some ⟨b, 0, none⟩)) := by rw [cell_of_block a0]; rfl
  have hlook := (p5.below (Nat.le_refl _) hba).look (t := 122) (e := 127) Try.underlying3 Try.underlying122 (zero_place wa) (I : Nat) (by omega) (by omega)
  simp only [plV] at hlook
  have HIX := Lib.hid hix
  have HP5 := Lib.hid p5
  have HP4 := Lib.hid p4
  have HWK := Lib.hid hW
  have HR := Lib.hid hr
  have HFB := Lib.hid hfb
  have HWA := Lib.hid hwa
  have HBA := Lib.hid hba
  have HSA := Lib.hid hsa
  have A0 := Lib.hid a0
  have A1 := Lib.hid a1
  have A2 := Lib.hid a2
  have A3 := Lib.hid a3
  have HI0 := Lib.hid hI0
  clear hwa hba hsa a0 a1 a2 a3 hix p4 p5 hW hr hfb hlen hNL hk0 hI0 hs
  gi_wp2_with fail
  rw [← HWA.out]
  refine ⟨trivial, (callsIn_wide.2 HL.out).mono ?_⟩
  rintro e w1 ⟨rfl, hw1⟩
  have hw2 := hw1.symm
  subst hw2
  cases hf0 : f (I : Nat) with
  | some a =>
    have hat := atF_some (f := f) (r := r) (K := min N 31) (k := 0) (a := a) (Nat.zero_le _) (fun i h => absurd h (Nat.not_lt_zero _)) (by rw [HI0.out]; exact hf0)
    obtain rfl : RES = some (a.1, a.2 + 0) := HRES.out.trans hat
    simp only [hf0, mpAt, Option.getD_some, Option.isSome_some] at hlook
    gi_wp2_with fail
    obtain ⟨wb, hwb⟩ : ∃ wb, wb = wa.alloc (.cells #[.int .i64 (a.1 : Nat), .int .i64 (a.2 : Nat)] 127) := ⟨_, rfl⟩
    have hbb : Below w.heap.size w wb := by rw [hwb]; exact HBA.out.alloc (by rw [HSA.out]; omega) _
    have d0 : wb.heap[wa.heap.size]? = some (.cells #[.int .i64 (a.1 : Nat), .int .i64 (a.2 : Nat)] 127 (0, 0)) := by rw [hwb]; exact heap_alloc_new wa _
    have d1 : wb.heap[w.heap.size + 1]? = some (.cells #[.int .i64 0] 3 (0, 0)) := by rw [hwb]; exact heap_old A1.out
    have d2 : wb.heap[w.heap.size + 1 + 1]? = some (.cells #[.int .i64 0] 3 (0, 0)) := by rw [hwb]; exact heap_old A2.out
    have d3 : wb.heap[w.heap.size + 1 + 1 + 1]? = some (.cells #[.bool false] 4 (0, 0)) := by rw [hwb]; exact heap_old A3.out
    have e0 : wb.cell? ⟨wa.heap.size, 0, none⟩ = some (.int .i64 (a.1 : Nat)) := by rw [cell_of_block d0]; rfl
    have e0' : wb.cell? ⟨wa.heap.size, 1, none⟩ = some (.int .i64 (a.2 : Nat)) := by rw [cell_of_block d0]; rfl
    have e1 : wb.cell? ⟨w.heap.size + 1, 0, none⟩ = some (.int .i64 0) := by rw [cell_of_block d1]; rfl
    have e2 : wb.cell? ⟨w.heap.size + 1 + 1, 0, none⟩ = some (.int .i64 0) := by rw [cell_of_block d2]; rfl
    have e3 : wb.cell? ⟨w.heap.size + 1 + 1 + 1, 0, none⟩ = some (.bool false) := by rw [cell_of_block d3]; rfl
    have f1 := free_of_block (i := 0) d1
    have f2 := free_of_block (i := 0) d2
    have f3 := free_of_block (i := 0) d3
    have hsa := HSA.out
    rw [← hwb]
    have HBB := Lib.hid hbb
    clear hwb hbb d0 d1 d2 d3
    rw [hsa] at e0 e0' ⊢
    clear hsa
    gi_region
    all_goals
      gi_wp2_with fail
      obtain ⟨WW, hWW⟩ : ∃ WW, WW = (((wb.setCell ⟨w.heap.size + 1, 0, none⟩ (.int .i64 (a.1 : Nat))).setCell ⟨w.heap.size + 1 + 1, 0, none⟩ (.int .i64 (a.2 : Nat))).setCell ⟨w.heap.size + 1 + 1 + 1, 0, none⟩ (.bool true)).drew := ⟨_, rfl⟩
      have s1 : WW.cell? ⟨w.heap.size + 1, 0, none⟩ = some (.int .i64 (a.1 : Nat)) := by rw [hWW]; simp [go_sem, e1]
      have s2 : WW.cell? ⟨w.heap.size + 1 + 1, 0, none⟩ = some (.int .i64 (a.2 : Nat)) := by rw [hWW]; simp [go_sem, e2]
      have s3 : WW.cell? ⟨w.heap.size + 1 + 1 + 1, 0, none⟩ = some (.bool true) := by rw [hWW]; simp [go_sem, e3]
      have sb : Below w.heap.size w WW := by
        rw [hWW]
        exact below_drewN (((HBB.out.setCell (p := ⟨w.heap.size + 1, 0, none⟩) (by show w.heap.size ≤ w.heap.size + 1; omega) _).setCell (p := ⟨w.heap.size + 1 + 1, 0, none⟩) (by show w.heap.size ≤ w.heap.size + 1 + 1; omega) _).setCell (p := ⟨w.heap.size + 1 + 1 + 1, 0, none⟩) (by show w.heap.size ≤ w.heap.size + 1 + 1 + 1; omega) _) 1
      rw [← hWW]
      clear hWW
      refine leaves_marksR [] WW (by simp) (by simp) (v := atV (some (a.1, a.2 + 0))) (fun W4 hW4 => ?_) (fun W4 hW4 => ⟨rfl, ?_⟩)
      · have hc : ∀ {p : Addr} {v : Value}, WW.cell? p = some v → W4.cell? p = some v := fun {p v} h => hW4.cell h (by simp)
        exact at_results _ _ w.heap.size (a.1 : Nat) (a.2 : Nat) true rfl rfl rfl (hc s1) (hc s2) (hc s3)
      · exact sb.trans (hW4.below (by have := sb.size; omega) (fun b hb => by simp at hb))
  | none =>
    simp only [hf0, mpAt, Option.getD_none, Option.isSome_none] at hlook
    gi_wp2_with fail
    obtain ⟨wb, hwb⟩ : ∃ wb, wb = (wa.alloc (.cells #[.int .i64 0, .int .i64 0] 127)).alloc (.cells #[.int .i64 0] 3) := ⟨_, rfl⟩
    rw [← hwb]
    refine ⟨trivial, (callsIn_wide.2 (walk_any x (I : Nat) wb)).mono ?_⟩
    rintro e w1 ⟨rfl, hw1⟩
    have hsa := HSA.out
    have hsb : wb.heap.size = w.heap.size + 6 := by rw [hwb]; simp [hsa]
    have hbb : Below wa.heap.size wa wb := by rw [hwb]; exact ((Below.refl _ wa).alloc (Nat.le_refl _) _).alloc (by simp) _
    have b5 : wb.heap[w.heap.size + 5]? = some (.cells #[.int .i64 0] 3 (0, 0)) := by
      rw [hwb]
      have := heap_alloc_new (wa.alloc (.cells #[.int .i64 0, .int .i64 0] 127)) (.cells #[.int .i64 0] 3)
      rwa [World.size_alloc, hsa] at this
    have hb1 : Below wb.heap.size wb w1 := by rw [hw1]; exact ((Below.refl _ wb).alloc (Nat.le_refl _) _).alloc (by simp) _
    have hs1 : w1.heap.size = w.heap.size + 8 := by rw [hw1]; simp [hsb]
    have g0 : w1.heap[wb.heap.size]? = some (.cells #[.pointer (some ⟨x, 0, none⟩)] 45 (0, 0)) := by rw [hw1]; exact heap_old (heap_alloc_new wb _)
    have g1 : w1.heap[wb.heap.size + 1]? = some (.cells #[.int .i64 (I : Nat)] 3 (0, 0)) := by
      rw [hw1]
      have := heap_alloc_new (wb.alloc (.cells #[.pointer (some ⟨x, 0, none⟩)] 45)) (.cells #[.int .i64 (I : Nat)] 3)
      rwa [World.size_alloc] at this
    have hab : Below wa.heap.size wa w1 := hbb.trans (hb1.mono (by omega))
    have hbe : Below w.heap.size w w1 := HBA.out.trans (hab.mono (by omega))
    have k0 : w1.heap[w.heap.size]? = some (.cells #[.pointer (some ⟨b, 0, none⟩)] 80 (0, 0)) := (hab.block _ (by omega)).trans A0.out
    have hst0 : AtSt w.heap.size w1 0 0 0 false (fun y => y = w.heap.size + 5 ∨ y = w.heap.size + 1 ∨ y = w.heap.size + 1 + 1 ∨ y = w.heap.size + 1 + 1 + 1) w1 :=
      ⟨(hb1.block _ (by omega)).trans b5, (hab.block _ (by omega)).trans A1.out, (hab.block _ (by omega)).trans A2.out, (hab.block _ (by omega)).trans A3.out, .inl rfl, .inr (.inl rfl), .inr (.inr (.inl rfl)), .inr (.inr (.inr rfl)), Fr.refl _ _⟩
    have hit := walk1_iter (wb.heap.size + 1) wb.heap.size x L (I : Nat) N r (fun y => y < w1.heap.size ∧ ¬ (y = w.heap.size + 5 ∨ y = w.heap.size + 1 ∨ y = w.heap.size + 1 + 1 ∨ y = w.heap.size + 1 + 1 + 1)) w1 HWK.out ⟨by omega, by omega⟩ ⟨by omega, by omega⟩
      (fun W hW => HIX.out.same (fun y hy => (hW y ⟨by omega, by omega⟩).trans (hbe.block y hy))) g1 g0
    have HBE := Lib.hid hbe
    have HST0 := Lib.hid hst0
    have HK0 := Lib.hid k0
    obtain ⟨F, hF⟩ : ∃ F : Value, F = .func (.func 111) #[] #[.pointer (some ⟨wb.heap.size + 1, 0, none⟩), .pointer (some ⟨wb.heap.size, 0, none⟩)] := ⟨_, rfl⟩
    have HFn := Lib.hid hF
    obtain ⟨s, hs⟩ : ∃ s, s = w.heap.size := ⟨_, rfl⟩
    clear hwb hw1 hsb hbb b5 hb1 g0 g1 hab hbe k0 hst0 hlook p4a c0a
    have HS := Lib.hid hs
    clear hsa hF hs
    gi_wp2_with fail
    have hs := HS.out
    have hF := HFn.out
    have hsa := HSA.out
    rw [hsa, ← hF, ← hs]
    rw [← hs] at hit HST0 HK0 hs1 hpb hmb
    clear hF hsa hs
    refine wp_range_outer hit ?hg (enters_of Try.func111 (by kernel_rfl) rfl) (Nat.le_refl _) (fun y => y = s + 5 ∨ y = s + 1 ∨ y = s + 1 + 1 ∨ y = s + 1 + 1 + 1) ?hRd ?hM0 ?hps ?hArg
      (fun k M W => k ≤ 30 ∧ k ≤ N ∧ (∀ i, i ≤ k → f (r i) = none) ∧ AtSt s w1 (k : Nat) 0 0 false M W)
      (fun c k M W => (c = .ret ∧ ∃ a k', RES = some a ∧ AtSt s w1 k' (a.1 : Nat) (a.2 : Nat) true M W) ∨ (c = .exit 0 ∧ RES = none ∧ AtSt s w1 31 0 0 false M W))
      ?hI ?hIx ?hI0
      (fun args => { tmps := #[.pointer (some ⟨b, 0, none⟩), .pointer (some ⟨x, 0, none⟩), .int .i64 (I : Nat), .pointer (some ⟨s, 0, none⟩), undef, undef, .pointer (some ⟨s + 1, 0, none⟩), .pointer (some ⟨s + 1 + 1, 0, none⟩), .pointer (some ⟨s + 1 + 1 + 1, 0, none⟩), .pointer (some ⟨s + 4, 0, none⟩), .bool false, .pointer (some ⟨s + 5, 0, none⟩), args.getD 0 undef, undef, undef, .pointer (some ⟨x, 0, none⟩), .bool false, .bool false, .int .i64 (I : Nat), .bool false, .bool false, .bool false, .int .i64 (I : Nat), .pointer (some ⟨x, 0, none⟩), .int .i64 (NL : Nat), .bool false, .bool false, .tuple #[.agg #[.int .i64 0, .int .i64 0], .bool false], .pointer (some ⟨b, 0, none⟩), .pointer (some ⟨b, 0, none⟩), .pointer (some ⟨b, 2, none⟩), .map (some mb), .int .i64 (I : Nat), .tuple #[.agg #[.int .i64 0, .int .i64 0], .bool false], .agg #[.int .i64 0, .int .i64 0], .bool false, .bool false, undef, undef, undef, undef, .pointer (some ⟨x, 0, none⟩), .int .i64 (I : Nat), F, args.getD 0 undef, args.getD 1 undef, undef, undef, undef, undef, undef, undef, undef, undef, undef, undef, undef, undef, undef, undef, undef, undef, undef, undef, undef, undef], defers := [] })
      ?hassign ?hbody ?hdone ?hstop
    case hg => exact HFn.out
    case hRd => exact fun y hy => ⟨hy.1, hy.2, rfl⟩
    case hM0 => rintro y (rfl | rfl | rfl | rfl) <;> omega
    case hps => rintro k args W _ rfl; rfl
    case hArg => exact fun _ _ _ _ _ _ h _ => h
    case hI => exact fun k M A B ⟨h1, h2, h3, h4⟩ hf => ⟨h1, h2, h3, h4.keep hf⟩
    case hIx =>
      rintro c k M A B (⟨h1, a, k', h2, h3⟩ | ⟨h1, h2, h3⟩) hf
      · exact .inl ⟨h1, a, k', h2, h3.keep hf⟩
      · exact .inr ⟨h1, h2, h3.keep hf⟩
    case hI0 => exact ⟨Nat.zero_le _, Nat.zero_le _, fun i hi => by obtain rfl : i = 0 := by omega
                                                                    rw [HI0.out]; exact hf0, HST0.out⟩
    case hassign =>
      rintro l k args W K _ rfl hK
      gi_wp2
      exact hK
    case hbody =>
      rintro l k M args W hk ⟨h1, h2, h3, h4⟩ rfl hl hl2 hnl hrec hM
      obtain ⟨n1, hn1, hn1b⟩ := HR.out (k + 1) (by omega)
      have hv5 := h4.fr.size
      have e5 : W.cell? ⟨s + 5, 0, none⟩ = some (.int .i64 (k : Nat)) := by rw [cell_of_block h4.cnt]; rfl
      have g5 := free_of_block (i := 0) h4.cnt
      have e0 : W.cell? ⟨s, 0, none⟩ = some (.pointer (some ⟨b, 0, none⟩)) := by rw [cell_of_block ((h4.fr.block s (by omega) (by omega)).trans HK0.out)]; rfl
      have hbW : ∀ y, y < w.heap.size → W.heap[y]? = w.heap[y]? := by
        intro y hy
        have := HS.out
        exact (h4.fr.block y (by omega) (by omega)).trans (HBE.out.block y hy)
      have em : W.cell? ⟨b, 2, none⟩ = some (.map (some mb)) := (World.cell?_of_block (w := w) (hbW b (by rw [← HS.out]; exact hpb))).trans HP4.out
      have hmW : MapR Try.prog 3 (W.setCell ⟨s + 5, 0, none⟩ (.int .i64 ((k : Int) + 1))) mb sm.length f :=
        (HP5.out.same (hbW mb (by rw [← HS.out]; exact hmb))).setCell (a := ⟨s + 5, 0, none⟩) (by show mb ≠ s + 5; omega) _
      have hlook := hmW.look (t := 122) (e := 127) Try.underlying3 Try.underlying122 (zero_place _) (n1 : Nat) (by omega) (by omega)
      simp only [plV] at hlook
      simp only [hn1]
      have H4 := Lib.hid h4
      have H3 := Lib.hid h3
      have HM := Lib.hid hM
      have HN1 := Lib.hid hn1
      have hwk : IntKind.i64.wrap ((k : Int) + 1) = (k : Int) + 1 := IntWalk.i64_in _ (by omega)
      clear h4 h3 hM hrec hn1 hmW hbW
      cases hf1 : f (n1 : Nat) with
      | some a =>
        simp only [hf1, mpAt, Option.getD_some, Option.isSome_some] at hlook
        gi_wp2_with fail
        obtain ⟨T, hT⟩ : ∃ T, T = W.heap.size := ⟨_, rfl⟩
        obtain ⟨W1, hW1⟩ : ∃ W1, W1 = (W.setCell ⟨s + 5, 0, none⟩ (.int .i64 ((k : Int) + 1))).alloc (.cells #[.int .i64 (a.1 : Nat), .int .i64 (a.2 : Nat)] 127) := ⟨_, rfl⟩
        have q5 : W1.heap[s + 5]? = some (.cells #[.int .i64 ((k : Int) + 1)] 3 (0, 0)) := by
          rw [hW1]; refine heap_old ?_; rw [heap_setCell_same H4.out.cnt]; rfl
        have q1 : W1.heap[s + 1]? = some (.cells #[.int .i64 0] 3 (0, 0)) := by
          rw [hW1]; refine heap_old ?_; rw [Below.heap_setCell _ _ _ _ (by show s + 1 ≠ s + 5; omega)]; exact H4.out.rd
        have q2 : W1.heap[s + 1 + 1]? = some (.cells #[.int .i64 0] 3 (0, 0)) := by
          rw [hW1]; refine heap_old ?_; rw [Below.heap_setCell _ _ _ _ (by show s + 1 + 1 ≠ s + 5; omega)]; exact H4.out.ro
        have q3 : W1.heap[s + 1 + 1 + 1]? = some (.cells #[.bool false] 4 (0, 0)) := by
          rw [hW1]; refine heap_old ?_; rw [Below.heap_setCell _ _ _ _ (by show s + 1 + 1 + 1 ≠ s + 5; omega)]; exact H4.out.rk
        have q0 : W1.heap[T]? = some (.cells #[.int .i64 (a.1 : Nat), .int .i64 (a.2 : Nat)] 127 (0, 0)) := by
          rw [hW1]
          have := heap_alloc_new (W.setCell ⟨s + 5, 0, none⟩ (.int .i64 ((k : Int) + 1))) (.cells #[.int .i64 (a.1 : Nat), .int .i64 (a.2 : Nat)] 127)
          rwa [World.size_setCell, ← hT] at this
        have hfr : Fr M W W1 := by rw [hW1]; exact ((Fr.refl M W).setCell H4.out.m5 _).alloc _
        have hsz : W1.heap.size = T + 1 := by rw [hW1]; simp [hT]
        have e50 : W1.cell? ⟨s + 5, 0, none⟩ = some (.int .i64 ((k : Int) + 1)) := by rw [cell_of_block q5]; rfl
        have e10 : W1.cell? ⟨s + 1, 0, none⟩ = some (.int .i64 0) := by rw [cell_of_block q1]; rfl
        have e20 : W1.cell? ⟨s + 1 + 1, 0, none⟩ = some (.int .i64 0) := by rw [cell_of_block q2]; rfl
        have e30 : W1.cell? ⟨s + 1 + 1 + 1, 0, none⟩ = some (.bool false) := by rw [cell_of_block q3]; rfl
        have f10 := free_of_block (i := 0) q1
        have f20 := free_of_block (i := 0) q2
        have f30 := free_of_block (i := 0) q3
        have t00 : W1.cell? ⟨T, 0, none⟩ = some (.int .i64 (a.1 : Nat)) := by rw [cell_of_block q0]; rfl
        have t01 : W1.cell? ⟨T, 1, none⟩ = some (.int .i64 (a.2 : Nat)) := by rw [cell_of_block q0]; rfl
        have hTs : s + 8 ≤ T := by omega
        have nT1 : ¬ T = s + 1 := by omega
        have nT2 : ¬ T = s + 1 + 1 := by omega
        have nT3 : ¬ T = s + 1 + 1 + 1 := by omega
        have hab := HFB.out _ a hf1
        have hwo : IntKind.i64.wrap ((a.2 : Int) + ((k : Int) + 1)) = (a.2 : Int) + ((k : Int) + 1) := IntWalk.i64_in _ (by omega)
        rw [← hW1, ← hT]
        have Q5 := Lib.hid q5
        have Q1 := Lib.hid q1
        have Q2 := Lib.hid q2
        have Q3 := Lib.hid q3
        have HFR := Lib.hid hfr
        have HSZ := Lib.hid hsz
        clear hW1 hT q5 q1 q2 q3 q0 hfr hsz e5 g5 e0 em hlook hTs
        obtain ⟨Wf, hWf⟩ : ∃ Wf, Wf = (((W1.setCell ⟨s + 1, 0, none⟩ (.int .i64 (a.1 : Nat))).setCell ⟨s + 1 + 1, 0, none⟩ (.int .i64 ((a.2 : Int) + ((k : Int) + 1)))).setCell ⟨s + 1 + 1 + 1, 0, none⟩ (.bool true)).drew := ⟨_, rfl⟩
        have hfin : ∀ ac, bodyP (fun k M W => k ≤ 30 ∧ k ≤ N ∧ (∀ i, i ≤ k → f (r i) = none) ∧ AtSt s w1 (k : Nat) 0 0 false M W)
            (fun c k M W => (c = .ret ∧ ∃ a k', RES = some a ∧ AtSt s w1 k' (a.1 : Nat) (a.2 : Nat) true M W) ∨ (c = .exit 0 ∧ RES = none ∧ AtSt s w1 31 0 0 false M W)) k M W .ret ac Wf := by
          intro ac
          have hat := atF_some (f := f) (r := r) (K := min N 31) (k := k + 1) (a := a) (by omega) (fun i h => H3.out i (by omega)) (by rw [HN1.out]; exact hf1)
          have v1 : Wf.heap[s + 1]? = some (.cells #[.int .i64 (a.1 : Nat)] 3 (0, 0)) := by
            rw [hWf]
            show (((W1.setCell ⟨s + 1, 0, none⟩ (.int .i64 (a.1 : Nat))).setCell ⟨s + 1 + 1, 0, none⟩ (.int .i64 ((a.2 : Int) + ((k : Int) + 1)))).setCell ⟨s + 1 + 1 + 1, 0, none⟩ (.bool true)).heap[s + 1]? = _
            rw [Below.heap_setCell _ _ _ _ (by show s + 1 ≠ s + 1 + 1 + 1; omega), Below.heap_setCell _ _ _ _ (by show s + 1 ≠ s + 1 + 1; omega), heap_setCell_same Q1.out]; rfl
          have v2 : Wf.heap[s + 1 + 1]? = some (.cells #[.int .i64 ((a.2 : Int) + ((k : Int) + 1))] 3 (0, 0)) := by
            rw [hWf]
            show (((W1.setCell ⟨s + 1, 0, none⟩ (.int .i64 (a.1 : Nat))).setCell ⟨s + 1 + 1, 0, none⟩ (.int .i64 ((a.2 : Int) + ((k : Int) + 1)))).setCell ⟨s + 1 + 1 + 1, 0, none⟩ (.bool true)).heap[s + 1 + 1]? = _
            have h0 : (W1.setCell ⟨s + 1, 0, none⟩ (.int .i64 (a.1 : Nat))).heap[s + 1 + 1]? = some (.cells #[.int .i64 0] 3 (0, 0)) := by
              rw [Below.heap_setCell _ _ _ _ (by show s + 1 + 1 ≠ s + 1; omega)]; exact Q2.out
            rw [Below.heap_setCell _ _ _ _ (by show s + 1 + 1 ≠ s + 1 + 1 + 1; omega), heap_setCell_same h0]; rfl
          have v3 : Wf.heap[s + 1 + 1 + 1]? = some (.cells #[.bool true] 4 (0, 0)) := by
            rw [hWf]
            show (((W1.setCell ⟨s + 1, 0, none⟩ (.int .i64 (a.1 : Nat))).setCell ⟨s + 1 + 1, 0, none⟩ (.int .i64 ((a.2 : Int) + ((k : Int) + 1)))).setCell ⟨s + 1 + 1 + 1, 0, none⟩ (.bool true)).heap[s + 1 + 1 + 1]? = _
            have h0 : ((W1.setCell ⟨s + 1, 0, none⟩ (.int .i64 (a.1 : Nat))).setCell ⟨s + 1 + 1, 0, none⟩ (.int .i64 ((a.2 : Int) + ((k : Int) + 1)))).heap[s + 1 + 1 + 1]? = some (.cells #[.bool false] 4 (0, 0)) := by
              rw [Below.heap_setCell _ _ _ _ (by show s + 1 + 1 + 1 ≠ s + 1 + 1; omega), Below.heap_setCell _ _ _ _ (by show s + 1 + 1 + 1 ≠ s + 1; omega)]; exact Q3.out
            rw [heap_setCell_same h0]; rfl
          have v5 : Wf.heap[s + 5]? = some (.cells #[.int .i64 ((k : Int) + 1)] 3 (0, 0)) := by
            rw [hWf]
            show (((W1.setCell ⟨s + 1, 0, none⟩ (.int .i64 (a.1 : Nat))).setCell ⟨s + 1 + 1, 0, none⟩ (.int .i64 ((a.2 : Int) + ((k : Int) + 1)))).setCell ⟨s + 1 + 1 + 1, 0, none⟩ (.bool true)).heap[s + 5]? = _
            rw [Below.heap_setCell _ _ _ _ (by show s + 5 ≠ s + 1 + 1 + 1; omega), Below.heap_setCell _ _ _ _ (by show s + 5 ≠ s + 1 + 1; omega), Below.heap_setCell _ _ _ _ (by show s + 5 ≠ s + 1; omega)]; exact Q5.out
          have hfr : Fr M W Wf := by
            rw [hWf]
            exact (((HFR.out.setCell (p := ⟨s + 1, 0, none⟩) H4.out.m1 _).setCell (p := ⟨s + 1 + 1, 0, none⟩) H4.out.m2 _).setCell (p := ⟨s + 1 + 1 + 1, 0, none⟩) H4.out.m3 _).drew
          refine ⟨M, hfr, fun y hy => ⟨.inl hy, Nat.lt_of_lt_of_le (HM.out y hy).2 hfr.size⟩, .inl ⟨rfl, (a.1, a.2 + (k + 1)), (k : Int) + 1, HRES.out.trans hat, ?_⟩⟩
          exact ⟨v5, v1, by rw [v2]; simp, v3, H4.out.m5, H4.out.m1, H4.out.m2, H4.out.m3, H4.out.fr.col HM.out hfr⟩
        have HFIN := Lib.hid hfin
        have HWf := Lib.hid hWf
        clear hWf hfin
        gi_region
        all_goals
          gi_wp2_with fail
          rw [← HWf.out]
          exact HFIN.out _
      | none =>
        simp only [hf1, mpAt, Option.getD_none, Option.isSome_none] at hlook
        obtain ⟨W1, hW1⟩ : ∃ W1, W1 = (W.setCell ⟨s + 5, 0, none⟩ (.int .i64 ((k : Int) + 1))).alloc (.cells #[.int .i64 0, .int .i64 0] 127) := ⟨_, rfl⟩
        have q5 : W1.heap[s + 5]? = some (.cells #[.int .i64 ((k : Int) + 1)] 3 (0, 0)) := by
          rw [hW1]; refine heap_old ?_; rw [heap_setCell_same H4.out.cnt]; rfl
        have q1 : W1.heap[s + 1]? = some (.cells #[.int .i64 0] 3 (0, 0)) := by
          rw [hW1]; refine heap_old ?_; rw [Below.heap_setCell _ _ _ _ (by show s + 1 ≠ s + 5; omega)]; exact H4.out.rd
        have q2 : W1.heap[s + 1 + 1]? = some (.cells #[.int .i64 0] 3 (0, 0)) := by
          rw [hW1]; refine heap_old ?_; rw [Below.heap_setCell _ _ _ _ (by show s + 1 + 1 ≠ s + 5; omega)]; exact H4.out.ro
        have q3 : W1.heap[s + 1 + 1 + 1]? = some (.cells #[.bool false] 4 (0, 0)) := by
          rw [hW1]; refine heap_old ?_; rw [Below.heap_setCell _ _ _ _ (by show s + 1 + 1 + 1 ≠ s + 5; omega)]; exact H4.out.rk
        have hfr : Fr M W W1 := by rw [hW1]; exact ((Fr.refl M W).setCell H4.out.m5 _).alloc _
        have e50 : W1.cell? ⟨s + 5, 0, none⟩ = some (.int .i64 ((k : Int) + 1)) := by rw [cell_of_block q5]; rfl
        have hall : ∀ i, i ≤ k + 1 → f (r i) = none := by
          intro i hi
          by_cases h : i ≤ k
          · exact H3.out i h
          · obtain rfl : i = k + 1 := by omega
            rw [HN1.out]; exact hf1
        have e51 : ((W.setCell ⟨s + 5, 0, none⟩ (.int .i64 ((k : Int) + 1))).alloc (.cells #[.int .i64 0, .int .i64 0] 127)).cell? ⟨s + 5, 0, none⟩ = some (.int .i64 ((k : Int) + 1)) := by rw [← hW1]; exact e50
        have HW1 := Lib.hid hW1
        have hM2 : ∀ y, M y → (M y ∨ W.heap.size ≤ y) ∧ y < W1.heap.size := fun y hy => ⟨.inl hy, Nat.lt_of_lt_of_le (HM.out y hy).2 hfr.size⟩
        have HALL := Lib.hid hall
        have HFR := Lib.hid hfr
        have HM2 := Lib.hid hM2
        have Q5 := Lib.hid q5
        have Q1 := Lib.hid q1
        have Q2 := Lib.hid q2
        have Q3 := Lib.hid q3
        clear hW1 q5 q1 q2 q3 hfr hall hM2 e50
        by_cases hk30 : k = 30
        · have hq : (((k : Int) + 1) == 31) = true := by simp; omega
          have hnone : RES = none := HRES.out.trans (atF_none (fun i hi => HALL.out i (by omega)))
          have HK := Lib.hid hk30
          clear hk30
          gi_wp2_with fail
          rw [← HW1.out]
          refine ⟨M, HFR.out, HM2.out, .inr ⟨rfl, hnone, ⟨?_, Q1.out, Q2.out, Q3.out, H4.out.m5, H4.out.m1, H4.out.m2, H4.out.m3, H4.out.fr.col HM.out HFR.out⟩⟩⟩
          rw [Q5.out, HK.out]; rfl
        · have hq : (((k : Int) + 1) == 31) = false := by simp; omega
          gi_wp2_with fail
          rw [← HW1.out]
          exact ⟨M, HFR.out, HM2.out, by omega, by omega, HALL.out, ⟨Q5.out, Q1.out, Q2.out, Q3.out, H4.out.m5, H4.out.m1, H4.out.m2, H4.out.m3, H4.out.fr.col HM.out HFR.out⟩⟩
    case hdone =>
      rintro D M W ⟨h1, h2, h3, h4⟩ hD hnD hKD hM
      have hnone : RES = none := HRES.out.trans (atF_none (fun i hi => h3 i (by omega)))
      subst hnone
      obtain ⟨z1, z2, z3, z4, z5, z6⟩ := h4.facts
      have H4 := Lib.hid h4
      have HKD := Lib.hid hKD
      clear h4 hKD hM h3
      gi_wp2_with fail
      exact at_none_ends HS.out HBE.out (by omega) hD hnD HKD.out H4.out rfl rfl rfl
    case hstop =>
      rintro D c k M W hk (⟨rfl, a, k', h2, h3⟩ | ⟨rfl, h2, h3⟩) hD hnD hKD hM
      · subst h2
        have H4 := Lib.hid h3
        have HKD := Lib.hid hKD
        clear h3 hKD hM
        gi_wp2_with fail
        exact at_ends (some a) HS.out HBE.out (by omega) hD hnD HKD.out H4.out rfl rfl rfl rfl
      · subst h2
        obtain ⟨z1, z2, z3, z4, z5, z6⟩ := h3.facts
        have H4 := Lib.hid h3
        have HKD := Lib.hid hKD
        clear h3 hKD hM
        gi_wp2_with fail
        exact at_none_ends HS.out HBE.out (by omega) hD hnD HKD.out H4.out rfl rfl rfl
end Go.Proofs.Ytinlmodkdjpocaa

set_option linter.unusedVariables false
namespace Go.Proofs.Ytinlmodkdjpocaa
open Go.RowKit Go.Shelf

set_option maxRecDepth 100000 in
set_option maxHeartbeats 2000000 in
theorem ref_place (ds : List (List UInt8)) (dv : Value) (d o : Nat) (w : World) (hd : SlR strV w dv ds) (hdl : d < ds.length) (ho : o ≤ ds[d].length) (hb : (rowOf ds).length ≤ 1000000) :
    Calls Try.prog 92 #[dv, .int .i64 d, .int .i64 o] w fun e w' => e = .returned (.int .i64 (startAt ds d + o : Nat)) ∧ w' = w := by
  have HDS := Lib.hid (dsOk_row ds hb)
  have hbl := HDS.out.1
  have hpl := place_lt ds d hdl o ho
  obtain ⟨A, c, rfl, h1, h2, -⟩ := hd.form
  have HD := Lib.hid hd
  have hob : o ≤ 1000000 := by omega
  clear hd hpl ho
  go_enter Try.func92, Try.ntmps92
  go_wp2
  go_loopw [7, 8] (fun nv iv wr => ∃ i : Nat, i ≤ d ∧ iv = .int .i64 i ∧ nv = .int .i64 (startAt ds i + o : Nat) ∧ wr = w) (fun _ iv _ => d - (intOf iv).toNat)
  case atStart => exact ⟨0, Nat.zero_le _, rfl, by simp [startAt, rowOf], rfl⟩
  case round =>
    obtain ⟨i, hi, rfl, rfl, hw⟩ := hrel
    have hw2 := hw.symm
    subst hw2
    have hst := startAt_le ds i (by omega)
    by_cases hlt : i < d
    · obtain ⟨ad, rfl, hc⟩ := HD.out.at_ i (by omega)
      simp only [strV] at hc
      have hlen := HDS.out.2 i (by omega)
      have hss := startAt_succ ds i (by omega)
      have hst2 := startAt_le ds (i + 1) (by omega)
      have hz : (⟨(ds[i]'(by omega)).toArray⟩ : ByteArray).size = (ds[i]'(by omega)).length := by simp [ByteArray.size]
      obtain ⟨S, hS⟩ : ∃ S, S = (⟨(ds[i]'(by omega)).toArray⟩ : ByteArray) := ⟨_, rfl⟩
      rw [← hS] at hz hc
      obtain ⟨m, hm⟩ : ∃ m, m = (ds[i]'(by omega)).length := ⟨_, rfl⟩
      rw [← hm] at hz hlen hss
      obtain ⟨n, hn⟩ : ∃ n, n = startAt ds i + o := ⟨_, rfl⟩
      rw [← hn]
      have hws : IntKind.i64.wrap ((n : Int) + (m : Nat)) = (n : Int) + (m : Nat) := IntWalk.i64_in _ (by omega)
      have hws2 : IntKind.i64.wrap ((n : Int) + (m : Nat) + 1) = (n : Int) + (m : Nat) + 1 := IntWalk.i64_in _ (by omega)
      have HN : Hid (startAt ds (i + 1) + o = n + m + 1) := Lib.hid (by omega)
      clear hS hm hss hn hst hst2
      go_wp2
      go_roundw
      case rel => exact ⟨i + 1, by omega, by go_num, by rw [HN.out]; go_num, trivial⟩
      case measure => simp [intOf]; omega
    · obtain rfl : i = d := by omega
      obtain ⟨n, hn⟩ : ∃ n, n = startAt ds i + o := ⟨_, rfl⟩
      rw [← hn]
      have HN := Lib.hid hn
      clear hn hst
      go_wp2
      go_ret
      exact ⟨by rw [show ((startAt ds i : Nat) : Int) + (o : Int) = (n : Nat) from by have := HN.out; omega]; rfl, rfl⟩

theorem IsRows.idx {ds : List (List UInt8)} {hs : List (Nat × Nat)} (h : IsRows ds hs) (i : Nat) (hi : i < hs.length) : idxP (rowOf ds) (toP ds hs[i]) = i := by
  have hsa := saOf_is (rowOk_rowOf ds)
  have hi' : i < (saOf (rowOf ds)).length := by rw [← h.sa, List.length_map]; exact hi
  have e : (saOf (rowOf ds))[i] = toP ds hs[i] := by
    have := List.getElem_map (toP ds) (l := hs) (i := i) (h := by rw [List.length_map]; exact hi)
    rw [← this]
    congr 1
    exact h.sa.symm
  rw [← e]
  exact hsa.idx_get (rowOk_rowOf ds) i hi'

/-- the rows told so far of the places -/
def atU (ds : List (List UInt8)) (i : Nat) : List Int := (List.range (rowOf ds).length).map (fun p => if idxP (rowOf ds) p < i then ((idxP (rowOf ds) p : Nat) : Int) else 0)
theorem atU_length (ds : List (List UInt8)) (i : Nat) : (atU ds i).length = (rowOf ds).length := by simp [atU]
theorem atU_zero (ds : List (List UInt8)) : atU ds 0 = List.replicate (rowOf ds).length 0 := by
  unfold atU
  refine List.eq_replicate_iff.2 ⟨by simp, ?_⟩
  intro x hx
  simp only [List.mem_map, List.mem_range] at hx
  obtain ⟨i, hi, rfl⟩ := hx
  rw [if_neg (Nat.not_lt_zero _)]
theorem atU_next (ds : List (List UInt8)) (p : Nat) (hp : p < (rowOf ds).length) : (atU ds (idxP (rowOf ds) p)).set p ((idxP (rowOf ds) p : Nat) : Int) = atU ds (idxP (rowOf ds) p + 1) := by
  unfold atU
  rw [map_range_set]
  apply List.map_congr_left
  intro q hq
  rw [List.mem_range] at hq
  by_cases e : q = p
  · subst e; simp
  · rw [if_neg e]
    have hne : idxP (rowOf ds) q ≠ idxP (rowOf ds) p := fun h => e (idxP_inj (rowOk_rowOf ds) q p hq hp h)
    by_cases h : idxP (rowOf ds) q < idxP (rowOf ds) p
    · rw [if_pos h, if_pos (by omega)]
    · rw [if_neg h, if_neg (by omega)]
theorem atU_end (ds : List (List UInt8)) (p : Nat) (hp : p < (rowOf ds).length) : (atU ds (rowOf ds).length)[p]? = some ((idxP (rowOf ds) p : Nat) : Int) := by
  unfold atU
  rw [List.getElem?_map, List.getElem?_range hp, Option.map_some, if_pos (idxP_lt (rowOk_rowOf ds) p hp)]

set_option maxRecDepth 100000 in
set_option maxHeartbeats 4000000 in
theorem ref_samples (ds : List (List UInt8)) (dv : Value) (w : World) (hd : SlR strV w dv ds) (hb : (rowOf ds).length ≤ 1000000) :
    Calls Try.prog 64 #[dv] w fun e w' => ∃ v, e = .returned v ∧ SlR natV w' v (smL ds) ∧ Below w.heap.size w w' := by
  have hro := Lib.hid (ref_rows ds dv w hd hb)
  have HDS := Lib.hid (dsOk_row ds hb)
  have hbl := HDS.out.1
  obtain ⟨A, c, rfl, h1, h2, -⟩ := hd.form
  have HD := Lib.hid hd
  have HPL := Lib.hid (fun W (hW : Below w.heap.size w W) d o (hdl : d < ds.length) (ho : o ≤ ds[d].length) => ref_place ds _ d o W (hd.later hW) hdl ho hb)
  obtain ⟨N, hN⟩ : ∃ N, N = (rowOf ds).length := ⟨_, rfl⟩
  rw [← hN] at hb
  have HN := Lib.hid hN
  clear hd hN
  have hmk := fun W => run_make_row' (P := Try.prog) 73 3 (.int .i64 0) 8 Try.underlying73 info_int rfl .i64 .i64 N (by omega) (by omega) W
  go_enter Try.func64, Try.ntmps64
  go_wp2_with fail
  refine hro.out.mono ?_
  rintro e w1 ⟨v1, hs, rfl, hh, hr, hb1⟩
  obtain ⟨A1, c1, rfl, k1, k2, -⟩ := id hh
  have HH := Lib.hid hh
  have HR := Lib.hid hr
  have HB1 := Lib.hid hb1
  have hsl : hs.length = N := by rw [hr.length, HN.out]
  rw [hsl] at k1
  rw [hsl]
  have HSL := Lib.hid hsl
  clear hh hr hb1 hsl hro
  go_wp2_with fail
  obtain ⟨B, hB⟩ : ∃ B, B = w1.heap.size := ⟨_, rfl⟩
  have I0 : Hid (IzB (w1.alloc (.cells (madeCells #[.int .i64 0] N) 3)) B (atU ds 0) ∧ Below B w1 (w1.alloc (.cells (madeCells #[.int .i64 0] N) 3))) := Lib.hid (by
    refine ⟨?_, ?_⟩
    · unfold IzB
      rw [hB, heap_alloc_new, atU_zero, ← HN.out, made_int]
      simp [natV, intV]
    · rw [hB]; exact (Below.refl _ _).alloc (Nat.le_refl _) _)
  rw [← hB]
  have HBe := Lib.hid hB
  have hBw : w.heap.size ≤ B := by rw [hB]; exact HB1.out.size
  clear hB hmk
  generalize w1.alloc (.cells (madeCells #[.int .i64 0] N) 3) = w2 at *
  go_loopw [5] (fun iv wr => ∃ i : Nat, i ≤ N ∧ iv = .int .i64 i ∧ IzB wr B (atU ds i) ∧ Below B w1 wr) (fun iv _ => N - (intOf iv).toNat)
  case atStart => exact ⟨0, Nat.zero_le _, rfl, I0.out⟩
  case round =>
    clear I0
    obtain ⟨i, hi, rfl, hz, hbl⟩ := hrel
    by_cases hlt : i < N
    · have hil : i < hs.length := by rw [HSL.out]; exact hlt
      have hbl' : Below w1.heap.size w1 wr := by rw [← HBe.out]; exact hbl
      obtain ⟨ad, rfl, e1, e2⟩ := (HH.out.later hbl').at_ i hil
      obtain ⟨hda, hoa⟩ := HR.out.mem (List.getElem_mem hil)
      have hidx := HR.out.idx i hil
      have hpl := place_lt ds _ hda _ hoa
      generalize hs[i] = a at *
      obtain ⟨d, o⟩ := a
      simp only [natV] at e1 e2 hda hoa hpl
      have e2' := hit_second e2
      unfold toP at hidx
      simp only at hidx
      have hpw := Lib.hid (HPL.out wr.drew ((HB1.out.trans (hbl'.mono HB1.out.size)).drew) d o hda hoa)
      obtain ⟨p, hp⟩ : ∃ p, p = startAt ds d + o := ⟨_, rfl⟩
      rw [← hp] at hidx hpl hpw
      have hnx := atU_next ds p hpl
      rw [hidx] at hnx
      obtain ⟨xx, hxx⟩ : ∃ xx, (atU ds i)[p]? = some xx := by rw [List.getElem?_eq_getElem (by rw [atU_length]; exact hpl)]; exact ⟨_, rfl⟩
      obtain ⟨a1, a2⟩ := hz.cell p xx hxx
      have hzp := hz.put p (i : Nat)
      rw [hnx] at hzp
      rw [← HN.out] at hpl
      have HZ : Hid (IzB (wr.drew.setCell ⟨B, p, none⟩ (.int .i64 (i : Nat))) B (atU ds (i + 1))) := Lib.hid hzp
      have HBL := Lib.hid hbl
      clear hz hbl hbl' e2 hoa hidx hp hnx hxx hzp
      go_wp2
      go_still_tail 14, (by kernel_rfl)
      still_call (hpw.out.mono (by rintro e w' ⟨rfl, rfl⟩; exact ⟨rfl, rfl⟩))
      repeat still_step
      refine wpStill_nil ?_
      change wpList _ _ _ _ _ wr.drew
      go_wp2
      go_roundw
      case rel => exact ⟨i + 1, by omega, by go_num, HZ.out, HBL.out.drew.setCell (p := ⟨B, p, none⟩) (Nat.le_refl _) _⟩
      case measure => simp [intOf]; omega
    · obtain rfl : i = N := by omega
      have HZ3 := Lib.hid hz
      have hbl' : Below w1.heap.size w1 wr := by rw [← HBe.out]; exact hbl
      have HW3 := Lib.hid (HB1.out.trans (hbl'.mono HB1.out.size))
      have hB3 : B < wr.heap.size := (Array.getElem?_eq_some_iff.1 (show wr.heap[B]? = _ from hz)).1
      have hsml : (smL ds).length ≤ 1000000 := by
        rw [smL_length]
        have := cntB_le ds ds.length (Nat.le_refl _)
        have := startAt_le ds ds.length (Nat.le_refl _)
        have := HN.out
        omega
      have HND := HDS.out.1
      clear hz hbl hbl' HH HB1 HR HSL hlt hi
      generalize wr = w3 at *
      go_wp2
      go_loopw [6, 7] (fun ov jv wi => ∃ j : Nat, j ≤ ds.length ∧ jv = .int .i64 j ∧ NaO w3.heap.size wi ov ((smL ds).take (cntB (szL ds) j)) ∧ Below w3.heap.size w3 wi) (fun _ jv _ => ds.length - (intOf jv).toNat)
      case atStart => exact ⟨0, Nat.zero_le _, rfl, World.ownsRow_nil _ _ _ _, Below.refl _ _⟩
      case round =>
        obtain ⟨j, hj, rfl, hno, hbi⟩ := hrel
        have HNO := Lib.hid hno
        have HBI := Lib.hid hbi
        clear hno
        by_cases hjl : j < ds.length
        · obtain ⟨ad, rfl, hc⟩ := (HD.out.later (HW3.out.trans (hbi.mono HW3.out.size))).at_ j hjl
          simp only [strV] at hc
          obtain ⟨m, hm⟩ : ∃ m, m = ds[j].length := ⟨_, rfl⟩
          have hz : (⟨ds[j].toArray⟩ : ByteArray).size = m := by rw [hm]; simp [ByteArray.size]
          obtain ⟨S, hS⟩ : ∃ S, S = (⟨ds[j].toArray⟩ : ByteArray) := ⟨_, rfl⟩
          rw [← hS] at hc hz
          have hmb := HDS.out.2 j hjl
          rw [← hm] at hmb
          have HM := Lib.hid hm
          have HS := Lib.hid hS
          clear hm hS hbi hc
          go_wp2
          go_loopw [6, 8] (fun ov kv wk => ∃ t : Nat, t ≤ m / 32 + 1 ∧ kv = .int .i64 (32 * t : Nat) ∧ NaO w3.heap.size wk ov ((smL ds).take (cntB (szL ds) j + t)) ∧ Below w3.heap.size w3 wk) (fun _ kv _ => m + 32 - (intOf kv).toNat)
          case atStart => exact ⟨0, Nat.zero_le _, rfl, HNO.out, HBI.out⟩
          case round =>
            clear HNO HBI
            obtain ⟨t, ht, rfl, hno, hbk⟩ := hrel
            obtain ⟨ad2, ead, hc⟩ := (HD.out.later (HW3.out.trans (hbk.mono HW3.out.size))).at_ j hjl
            cases ead
            simp only [strV] at hc
            rw [← HS.out] at hc
            obtain ⟨off, hoff⟩ : ∃ off, off = 32 * t := ⟨_, rfl⟩
            rw [← hoff]
            have HOFF := Lib.hid hoff
            by_cases hle : off ≤ m
            · obtain ⟨n, hn⟩ : ∃ n, n = cntB (szL ds) j + t := ⟨_, rfl⟩
              have hoj : off ≤ ds[j].length := by rw [← HM.out]; exact hle
              have hsg := smL_get ds j t hjl (by rw [← hoff]; exact hoj)
              rw [← hoff, ← hn] at hsg
              have hst1 : (smL ds).take (n + 1) = (smL ds).take n ++ [rwP ds j off] := by rw [List.take_add_one, hsg]; rfl
              have hnl : n < (smL ds).length := (List.getElem?_eq_some_iff.1 hsg).1
              have hpl := place_lt ds j hjl off hoj
              have hat := atU_end ds (startAt ds j + off) hpl
              rw [← HN.out] at hat hpl
              have hpw := Lib.hid (HPL.out wr (HW3.out.trans (hbk.mono HW3.out.size)) j off hjl hoj)
              obtain ⟨p, hp⟩ : ∃ p, p = startAt ds j + off := ⟨_, rfl⟩
              rw [← hp] at hat hpl hpw
              have hz3 : IzB wr B (atU ds i) := (hbk.block B hB3).trans HZ3.out
              obtain ⟨a1, -⟩ := hz3.cell p _ hat
              have hR : ((idxP (rowOf ds) p : Nat) : Int) = (rwP ds j off : Nat) := by rw [hp]; rfl
              rw [hR] at a1
              obtain ⟨R, hRe⟩ : ∃ R, R = rwP ds j off := ⟨_, rfl⟩
              rw [← hRe] at a1 hst1
              rw [← hn] at hno
              obtain ⟨Av, cv, rfl⟩ := hno.form
              have hln : ((smL ds).take n).length = n := by rw [List.length_take]; omega
              rw [hln]
              have hno' := hno
              unfold NaO at hno'
              rw [hln] at hno'
              have HNO2 := Lib.hid hno'
              have HNO3 := Lib.hid hno
              have HBK := Lib.hid hbk
              have HST1 := Lib.hid hst1
              have HNn := Lib.hid hn
              have hsz := hbk.size
              have hwo : IntKind.i64.wrap ((off : Int) + 32) = (off : Int) + 32 := IntWalk.i64_in _ (by omega)
              have hlt2 : ((32 * (t + 1) : Nat) : Int) = (off : Int) + 32 := by omega
              have HLT2 := Lib.hid hlt2
              clear hn hsg hst1 hat hp hz3 hR hRe hno hno' hbk hoff hoj hlt2
              go_wp2_with (first
                | (go_at_call 92; go_must ((with_reducible refine hpw.out.mono ?_); rintro e w7 ⟨rfl, hw7⟩; have hw8 := hw7.symm; subst hw8))
                | (at_builtin; go_must (refine wp_app w3.heap.size 73 3 (.int .i64 0) 1 8 (.tmp 50) (.tmp 58) rfl rfl Try.underlying73 info_int rfl (by decide) (by decide) (.slice Av n cv) n (((smL ds).take n).map natV) #[.int .i64 (R : Nat)] rfl rfl HNO2.out rfl (by intro u hu; simp at hu; subst hu; rfl) (by omega) hsz ?_; intro g cap w6 ho6 hg6 hat6 hgb6 hgl6 hgs6; have HO6 := Lib.hid ho6; have HG6 := Lib.hid hg6; clear ho6 hg6 hat6)))
              go_roundw
              case rel =>
                refine ⟨t + 1, by have := HOFF.out; omega, by rw [HLT2.out], ?_, HBK.out.grown HG6.out hsz (fun g hg => (own_lt HNO2.out hg).1)⟩
                rw [show cntB (szL ds) j + (t + 1) = n + 1 from by rw [HNn.out]; omega, HST1.out]
                exact NaO.snoc HO6.out (by rw [hln])
              case measure => simp [intOf]; have := HOFF.out; omega
            · have hex : cntB (szL ds) (j + 1) = cntB (szL ds) j + t := by
                simp only [cntB]
                rw [szL_get ds j hjl, ← HM.out]
                omega
              have HEX := Lib.hid hex
              have HNO := Lib.hid hno
              have HBK := Lib.hid hbk
              clear hex hno hbk hoff
              go_wp2
              go_roundw
              case rel => exact ⟨j + 1, by omega, by go_num, by rw [HEX.out]; exact HNO.out, HBK.out⟩
              case measure => simp [intOf]; omega
        · obtain rfl : j = ds.length := by omega
          have e1 : (smL ds).take (cntB (szL ds) ds.length) = smL ds := List.take_of_length_le (by rw [smL_length]; exact Nat.le_refl _)
          have hfin := HNO.out
          rw [e1] at hfin
          have HFIN := Lib.hid hfin.slR
          have HBE := Lib.hid (HW3.out.trans (hbi.mono HW3.out.size))
          clear hbi hfin e1 HNO HBI
          go_wp2
          go_ret
          exact ⟨_, rfl, HFIN.out, HBE.out⟩
end Go.Proofs.Ytinlmodkdjpocaa

set_option linter.unusedVariables false
namespace Go.Proofs.Ytinlmodkdjpocaa
open Go.RowKit Go.Shelf

theorem walk_new_nil (w : World) : Calls Try.prog 59 #[.pointer none] w fun e w' => e = .returned (.tuple #[.pointer none, .int .i64 1]) ∧ w' = w := by
  go_enter Try.func59, Try.ntmps59
  go_wp2
  go_ret2
  exact ⟨rfl, rfl⟩

theorem plF_bound (ds : List (List UInt8)) (hok : okDs ds) (x : Int) (a : Nat × Nat) (h : plF (smL ds) (szL ds) x = some a) : a.1 ≤ 1000000 ∧ a.2 ≤ 1000000 := by
  have hm : (plF (smL ds) (szL ds) x).isSome = true := by rw [h]; rfl
  unfold plF at hm h
  rw [mpAll_some, decide_eq_true_iff, List.mem_map] at hm
  obtain ⟨y, hy, he⟩ := hm
  have hz : (smL ds).zip (offL (szL ds)) = (offL (szL ds)).map (fun a => (rwP ds a.1 a.2, a)) := by unfold smL; rw [zip_map_self]
  rw [hz] at hy
  obtain ⟨b, hb, rfl⟩ := List.mem_map.1 hy
  obtain ⟨h1, h2, h3⟩ := smL_mem ds b hb
  have hv := plF_docs ds b.1 h1 b.2 h2
  rw [if_pos h3] at hv
  unfold plF at hv
  simp only at he
  rw [← he] at h
  rw [h] at hv
  cases hv
  have := hok.1
  have := hok.2.1 _ (List.getElem_mem h1)
  exact ⟨by omega, by omega⟩
/-- At at the row of a place -/
theorem walk_at_docs (b x : Nat) (ds : List (List UInt8)) (d : Nat) (hd : d < ds.length) (o : Nat) (ho : o ≤ ds[d].length) (w : World) (hix : IdxR w x (bwtOf (rowOf ds))) (hp : PlcR w b (smL ds) (szL ds) (plF (smL ds) (szL ds))) (hok : okDs ds) :
    Calls Try.prog 61 #[.pointer (some ⟨b, 0, none⟩), .pointer (some ⟨x, 0, none⟩), .int .i64 (rwP ds d o : Nat)] w fun e w' => e = .returned (.tuple #[.int .i64 d, .int .i64 o, .bool true]) ∧ Below w.heap.size w w' := by
  have hlt := rwP_lt ds d hd o ho
  have hb := hok.2.2
  have h := walk_at_in b x (bwtOf (rowOf ds)) (rwP ds d o) o (fun k => (rwP ds d (o - k) : Nat)) (smL ds) (szL ds) (plF (smL ds) (szL ds)) w hix hp (wkS_at ds d hd o ho) (by rw [bwtOf_length (rowOk_rowOf ds)]; exact hlt)
    (fun k hk => ⟨rwP ds d (o - k), rfl, by have := rwP_lt ds d hd (o - k) (by omega); omega⟩) (fun x a h => plF_bound ds hok x a h)
  rw [atF_docs ds d hd o ho] at h
  exact h

theorem aw12_samples : smL aw12 = [4, 3] := by
  have h : (offL (szL aw12)) = [(0, 0), (1, 0)] := by decide
  unfold smL
  rw [h]
  have h1 : rwP aw12 0 0 = 4 := by decide
  have h2 : rwP aw12 1 0 = 3 := by decide
  simp [h1, h2]
theorem aw12_sizes : szL aw12 = [2, 1] := by decide
theorem lit_two (w : World) (a b : Int) : SlR intV (w.alloc (.cells #[.int .i64 a, .int .i64 b] 3)) (.slice (some ⟨w.heap.size, 0, none⟩) 2 2) [a, b] := by
  have g0 := heap_alloc_new w (.cells #[.int .i64 a, .int .i64 b] 3)
  refine ⟨_, _, rfl, Nat.le_refl _, (by decide : 2 ≤ 9223372036854775807), .inr ⟨_, rfl, fun j hj => ?_⟩⟩
  match j, hj with
  | 0, _ => rw [add_spot]; simp only [World.cell?, g0]; rfl
  | 1, _ => rw [add_spot]; simp only [World.cell?, g0]; rfl

set_option maxRecDepth 100000 in
set_option maxHeartbeats 2000000 in
theorem law13_awake (w : World) : Calls Try.prog 63 #[] w fun e w' => e = .returned (.bool true) ∧ Below w.heap.size w w' := by
  obtain ⟨w2, hw2⟩ : ∃ w2, ((w.alloc (.cells #[.int .u8 98, .int .u8 97] 5 (2, 3))).alloc (.cells #[.int .u8 97] 5 (1, 2))).alloc (.cells #[.slice (some ⟨w.heap.size, 0, none⟩) 2 2, .slice (some ⟨w.heap.size + 1, 0, none⟩) 1 1] 29) = w2 := ⟨_, rfl⟩
  have hd := aw12_docs w
  rw [hw2] at hd
  have hb2 : Below w.heap.size w w2 := by rw [← hw2]; exact (((Below.refl _ w).alloc (Nat.le_refl _) _).alloc (by simp) _).alloc (by simp; omega) _
  have hmade := Lib.hid (law_made aw12 _ w2 hd aw12_ok)
  have HW := Lib.hid hw2
  have HB2 := Lib.hid hb2
  clear hd hw2 hb2
  have kc := Lib.run_convert_bytes_const (P := Try.prog) w 29 5 #[.int .u8 98, .int .u8 97] 2 2 Try.underlying29 Try.underlying5
  have kd := Lib.run_convert_bytes_const (P := Try.prog) (w.alloc (.cells #[.int .u8 98, .int .u8 97] 5 (2, 3))) 29 5 #[.int .u8 97] 1 1 Try.underlying29 Try.underlying5
  rw [World.size_alloc] at kd
  go_enter Try.func63, Try.ntmps63
  go_wp2_with fail
  clear kc kd
  rw [HW.out]
  refine hmade.out.mono ?_
  rintro e w3 ⟨x, rfl, hxs, hx, hb3⟩
  have hnw := Lib.hid (walk_new x aw12 w3 hx aw12_ok)
  have HB3 := Lib.hid (HB2.out.trans (hb3.mono HB2.out.size))
  clear hxs hx hb3 hmade HB2 HW
  go_wp2_with fail
  refine hnw.out.mono ?_
  rintro e w4 ⟨b, rfl, hbs, hp, hb4⟩
  have HP := Lib.hid hp
  have HB4 := Lib.hid (HB3.out.trans (hb4.mono HB3.out.size))
  have hnil := Lib.hid (walk_new_nil w4)
  clear hbs hp hb4 hnw
  go_wp2_with fail
  refine hnil.out.mono ?_
  rintro e w5 ⟨rfl, hw5⟩
  have hw6 := hw5.symm
  subst hw6
  have hsm := plc_samples b (smL aw12) (szL aw12) _ w4 HP.out (by rw [aw12_samples]; decide)
  rw [aw12_samples] at hsm
  have HSM := Lib.hid hsm
  have hsz := fun W (hW : Below w4.heap.size w4 W) => plc_sizes b (smL aw12) (szL aw12) _ W (HP.out.later hW) (by rw [aw12_sizes]; decide)
  rw [aw12_sizes] at hsz
  have HSZ := Lib.hid hsz
  clear hsm hsz
  go_wp2_with (first
    | (go_at_call 60; go_must ((refine HSM.out.mono ?_); rintro e w6 ⟨v6, rfl, hs6, hb6⟩; have HS6 := Lib.hid ((hs6.ints).later ((Below.refl w6.heap.size w6).alloc (Nat.le_refl _) (.cells #[.int .i64 4, .int .i64 3] 3))); have HB6 := Lib.hid (hb6.alloc hb6.size (.cells #[.int .i64 4, .int .i64 3] 3)); have hsame := Lib.hid (same_ints v6 _ [4, 3] _ HS6.out (lit_two w6 4 3)); clear hs6 hb6))
    | (go_at_call 58; first
        | (go_must ((with_reducible refine hsame.out.mono ?_); rintro e w7 ⟨rfl, q7, rfl⟩; have HB7 := Lib.hid (below_drewN HB6.out q7); have hszz := Lib.hid (HSZ.out _ HB7.out); clear hsame)))
    | (go_at_call 65; go_must ((refine hszz.out.mono ?_); rintro e w8 ⟨v8, rfl, hs8, hb8⟩; have HS8 := Lib.hid ((hs8.ints).later ((Below.refl w8.heap.size w8).alloc (Nat.le_refl _) (.cells #[.int .i64 2, .int .i64 1] 3))); have HB8 := Lib.hid ((HB7.out.trans (hb8.mono HB7.out.size)).alloc (by have := HB7.out.size; have := hb8.size; omega) (.cells #[.int .i64 2, .int .i64 1] 3)); have hsame := Lib.hid (same_ints v8 _ [2, 1] _ HS8.out (lit_two w8 2 1)); clear hs8 hb8)))
  go_ret
  exact ⟨rfl, HB4.out.trans ((below_drewN HB8.out _).mono HB4.out.size)⟩
end Go.Proofs.Ytinlmodkdjpocaa
