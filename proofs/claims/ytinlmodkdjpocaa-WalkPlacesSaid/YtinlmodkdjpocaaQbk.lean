/- back: an Index in memory; Trust, New. back: Len, Docs, Sym, Step, More, Syms. slices.Backward at []byte: the iterator. back: Range, Count. back: Count. -/
import Derived.Test.YtinlmodkdjpocaaQro
import Derived.Test.YtinlmodkdjpocaaQwv
import Derived.Test.YtinlmodkdjpocaaGen
import Derived.Shelf.Abstract
set_option linter.unusedVariables false
namespace Go.Proofs.Ytinlmodkdjpocaa
open Go.RowKit

/-- An Index in memory: block b. -/
def IdxR (w : World) (b : Nat) (L : List Nat) : Prop :=
  ∃ lv m, w.cell? ⟨b, 0, none⟩ = some lv ∧ SlR symV w lv L ∧ w.cell? ⟨b, 1, none⟩ = some (.pointer (some ⟨m, 0, none⟩)) ∧ MatR w m L ∧ (∀ s, s < 257 → w.cell? ⟨b, 2 + s, none⟩ = some (.int .i64 (belowL L s : Nat))) ∧ (∀ x ∈ L, x ≤ 256) ∧ L.length ≤ 100000
theorem IdxR.below {w w' : World} {b : Nat} {L : List Nat} (h : IdxR w b L) {n : Nat} (hn : w.heap.size ≤ n) (hb : Below n w w') : IdxR w' b L := by
  obtain ⟨lv, m, h0, h1, h2, h3, h4, h5, h6⟩ := h
  have hc : ∀ {p : Addr} {v : Value}, w.cell? p = some v → w'.cell? p = some v := fun {p v} h => (World.cell?_of_block (w := w) (hb.block _ (Nat.lt_of_lt_of_le (World.block_lt_of_cell? w _ h) hn))).trans h
  exact ⟨lv, m, hc h0, h1.below hn hb, hc h2, h3.below hn hb, fun s hs => hc (h4 s hs), h5, h6⟩
theorem IdxR.drewN {w : World} {b : Nat} {L : List Nat} (h : IdxR w b L) (q : Nat) : IdxR (w.drewN q) b L := h.below (Nat.le_refl _) (below_drewN (Below.refl _ _) q)
theorem IdxR.later {w w' : World} {b : Nat} {L : List Nat} (h : IdxR w b L) (hb : Below w.heap.size w w') : IdxR w' b L := h.below (Nat.le_refl _) hb

theorem fold_put (l : List Value) : ∀ (k : Nat) (Z : Array Value), ((l.zipIdx k).foldl (fun cs x => cs.setIfInBounds (2 + x.2) x.1) Z).size = Z.size ∧ ∀ j, j < Z.size → ((l.zipIdx k).foldl (fun cs x => cs.setIfInBounds (2 + x.2) x.1) Z)[j]? = if 2 + k ≤ j ∧ j < 2 + k + l.length then l[j - (2 + k)]? else Z[j]? := by
  induction l with
  | nil => intro k Z; simp; intro j _ h1 h2; omega
  | cons a l ih =>
    intro k Z
    obtain ⟨i1, i2⟩ := ih (k + 1) (Z.setIfInBounds (2 + k) a)
    rw [List.zipIdx_cons, List.foldl_cons]
    refine ⟨by rw [i1]; simp, fun j hj => ?_⟩
    rw [i2 j (by simpa using hj)]
    by_cases h1 : 2 + k ≤ j ∧ j < 2 + k + (a :: l).length
    · rw [if_pos h1]
      by_cases h2 : j = 2 + k
      · subst h2
        rw [if_neg (by omega), Array.getElem?_setIfInBounds_self_of_lt hj]; simp
      · rw [if_pos (by simp at h1; omega)]
        obtain ⟨d, rfl⟩ : ∃ d, j = 2 + k + (d + 1) := ⟨j - (2 + k) - 1, by omega⟩
        rw [show 2 + k + (d + 1) - (2 + (k + 1)) = d from by omega, Nat.add_sub_cancel_left]; rfl
    · rw [if_neg h1, if_neg (by simp at h1; omega), Array.getElem?_setIfInBounds_ne (by simp at h1; omega)]
theorem fold_arr (C Z : Array Value) (n : Nat) (hn : C.size = n) : (Array.foldl (fun cs x => cs.setIfInBounds (2 + x.2) x.1) Z C.zipIdx 0 n).size = Z.size ∧ ∀ j, j < Z.size → (Array.foldl (fun cs x => cs.setIfInBounds (2 + x.2) x.1) Z C.zipIdx 0 n)[j]? = if 2 ≤ j ∧ j < 2 + n then C[j - 2]? else Z[j]? := by
  obtain ⟨l⟩ := C
  subst hn
  have e : Array.foldl (fun (cs : Array Value) (x : Value × Nat) => cs.setIfInBounds (2 + x.2) x.1) Z (Array.mk l).zipIdx 0 (Array.mk l).size = (l.zipIdx 0).foldl (fun cs x => cs.setIfInBounds (2 + x.2) x.1) Z := by
    have h1 : (Array.mk l).zipIdx = (l.zipIdx 0).toArray := by simp
    have h2 : (Array.mk l).size = (l.zipIdx 0).toArray.size := by simp
    rw [h1, h2, List.foldl_toArray]
  rw [e]
  have := fold_put l 0 Z
  simpa using this
def TrustPost (L : List Nat) (w : World) (e : Ending) (w' : World) : Prop := ∃ b, e = .returned (.tuple #[.pointer (some ⟨b, 0, none⟩), .int .i64 0]) ∧ w.heap.size ≤ b ∧ IdxR w' b L ∧ Below w.heap.size w w'
set_option maxRecDepth 100000 in
set_option maxHeartbeats 1000000 in
theorem back_trust (v : Value) (L : List Nat) (w : World) (h : SlR symV w v L) (hm : ∀ x ∈ L, x ≤ 256) (hn : L.length ≤ 100000) :
    Calls Try.prog 73 #[v] w (TrustPost L w) := by
  obtain ⟨A, c, rfl, k1, k2, k3⟩ := h.form
  have hnew := Lib.hid (wave_new _ L w h hm hn)
  have hst := Lib.hid (fun W hW => bwt_starts _ L W (h.below (Nat.le_refl _) hW) hm hn)
  have hcl := Lib.hid (fun W hW => clone_sy _ L W (h.below (Nat.le_refl _) hW) (by omega))
  have HM := Lib.hid hm
  clear k3 h hm
  obtain ⟨N, hN⟩ : ∃ N, N = L.length := ⟨_, rfl⟩
  have HN := Lib.hid hN
  rw [← hN] at hn k1 hnew hst hcl ⊢
  clear hN
  obtain ⟨C, hC⟩ : ∃ C, C = ((startsL L).map natV).toArray := ⟨_, rfl⟩
  rw [← hC] at hst
  have HC := Lib.hid hC
  have hCs : C.size = 257 := by rw [hC, startsL_size]
  have HCs := Lib.hid hCs
  clear hC hCs
  go_enter Try.func73, Try.ntmps73
  go_wp2_with fail
  refine hnew.out.mono ?_
  rintro e w1 ⟨m, rfl, hm1, hm2, hm3⟩
  have hc2 := Lib.hid (hcl.out w1 hm3)
  have HM1 := Lib.hid hm2
  have HB1 := Lib.hid hm3
  clear hm2 hm3
  go_wp2_with fail
  refine hc2.out.mono ?_
  rintro e w2 ⟨lv, rfl, ho2, hb2⟩
  obtain ⟨Al, cl, rfl⟩ := own_shape ho2
  have HO2 := Lib.hid (SyO.of ho2 HN.out)
  have hb2' : Hid (Below w.heap.size w w2) := Lib.hid (HB1.out.trans (hb2.mono HB1.out.size))
  have HM2 : Hid (MatR w2 m L) := Lib.hid (HM1.out.below (Nat.le_refl _) hb2)
  have hs3 := Lib.hid (hst.out w2 hb2'.out)
  clear ho2 hb2
  go_wp2_with fail
  refine hs3.out.mono ?_
  rintro e w3 ⟨rfl, hb23⟩
  have HCs' := HCs.out
  go_wp2_with fail
  obtain ⟨CC, hCC⟩ : ∃ CC, CC = (Array.foldl (fun cs x => cs.setIfInBounds (2 + x.snd) x.fst) ((Try.zeroCells106.setIfInBounds 0 (Value.slice Al N cl)).setIfInBounds 1 (Value.pointer (some { block := m, off := 0 }))) C.zipIdx 0 257) := ⟨_, rfl⟩
  rw [← hCC]
  have hzs : Try.zeroCells106.size = 259 := by kernel_rfl
  obtain ⟨z1, z2⟩ := fold_arr C ((Try.zeroCells106.setIfInBounds 0 (Value.slice Al N cl)).setIfInBounds 1 (Value.pointer (some { block := m, off := 0 }))) 257 HCs.out
  rw [← hCC] at z1 z2
  simp only [Array.size_setIfInBounds, hzs] at z1 z2
  have hblk := heap_alloc_new w3 (.cells CC 106)
  have hb3 := (Below.refl _ w3).alloc (Nat.le_refl _) (.cells CC 106)
  have hbw : Below w.heap.size w w3 := hb2'.out.trans (hb23.mono hb2'.out.size)
  have hcc : ∀ j, (w3.alloc (.cells CC 106)).cell? ⟨w3.heap.size, j, none⟩ = CC[j]? := fun j => cell_of_block hblk
  have c0 : CC[0]? = some (.slice Al N cl) := by
    rw [z2 0 (by omega), if_neg (by omega), Array.getElem?_setIfInBounds_ne (by omega), Array.getElem?_setIfInBounds_self_of_lt (by rw [hzs]; omega)]
  have c1 : CC[1]? = some (.pointer (some ⟨m, 0, none⟩)) := by
    rw [z2 1 (by omega), if_neg (by omega), Array.getElem?_setIfInBounds_self_of_lt (by rw [Array.size_setIfInBounds, hzs]; omega)]
  have c2 : ∀ s, s < 257 → CC[2 + s]? = some (.int .i64 (belowL L s : Nat)) := by
    intro s hs
    rw [z2 (2 + s) (by omega), if_pos (by omega), Nat.add_sub_cancel_left, HC.out]
    simp only [List.getElem?_toArray, List.getElem?_map, startsL, List.getElem?_range hs]; rfl
  have hlv : SlR symV (w3.alloc (.cells CC 106)) (.slice Al N cl) L := (HO2.out.slT.1.later hb23).later hb3
  have hmm : MatR (w3.alloc (.cells CC 106)) m L := (HM2.out.below (Nat.le_refl _) hb23).below (Nat.le_refl _) hb3
  have hfin : IdxR (w3.alloc (.cells CC 106)) w3.heap.size L := ⟨_, m, by rw [hcc]; exact c0, hlv, by rw [hcc]; exact c1, hmm, fun s hs => by rw [hcc]; exact c2 s hs, HM.out, by rw [← HN.out]; exact hn⟩
  go_ret2
  exact ⟨_, rfl, hbw.size, hfin, hbw.trans (hb3.mono hbw.size)⟩

/-- back.New's error -/
def NewXPost (L : List Nat) (w : World) (e : Ending) (w' : World) : Prop :=
  Below w.heap.size w w' ∧ ((docsE L ≠ 0 ∧ e = .returned (.tuple #[.pointer none, .int .i64 (docsE L : Nat)])) ∨ (docsE L = 0 ∧ ∃ b, w.heap.size ≤ b ∧ e = .returned (.tuple #[.pointer (some ⟨b, 0, none⟩), .int .i64 0]) ∧ IdxR w' b L))
theorem docsE_zero {L : List Nat} (h : docsE L = 0) : L.length ≤ 60500 ∧ (∀ x ∈ L, x ≤ 256) ∧ ∃ ds, docsP L = some ds := by
  unfold docsE at h
  by_cases hb : 60500 < L.length ∨ L.any (fun x => decide (256 < x)) = true
  · rw [if_pos hb] at h; cases h
  · rw [if_neg hb] at h
    refine ⟨by omega, fun x hx => ?_, ?_⟩
    · have : L.any (fun x => decide (256 < x)) = false := by
        cases hh : L.any (fun x => decide (256 < x)) with
        | false => rfl
        | true => exact absurd (.inr hh) hb
      rw [List.any_eq_false] at this
      have := this x hx
      simp at this; exact this
    · cases hd : docsP L with
      | none => rw [if_pos hd] at h; cases h
      | some ds => exact ⟨ds, rfl⟩
set_option maxHeartbeats 1000000 in
theorem back_new (v : Value) (L : List Nat) (w : World) (h : SlR symV w v L) (hm : ∀ x ∈ L, x ≤ 65535) :
    Calls Try.prog 35 #[v] w (NewXPost L w) := by
  obtain ⟨A, c, rfl, k1, k2, k3⟩ := h.form
  have hdocs := Lib.hid (bwt_docs _ L w h hm)
  have HS := Lib.hid h
  clear k3 h hm
  obtain ⟨N, hN⟩ : ∃ N, N = L.length := ⟨_, rfl⟩
  rw [← hN] at hdocs HS k1 ⊢
  clear hN
  go_enter Try.func35, Try.ntmps35
  go_wp2_with fail
  refine hdocs.out.mono ?_
  rintro e w1 ⟨hb1, ⟨hne, rfl⟩ | ⟨hz, ds, v1, hP, rfl, hd⟩⟩
  · have HB := Lib.hid hb1
    have hq : ((docsE L : Int) != 0) = true := by simp; omega
    have HNe := Lib.hid hne
    obtain ⟨E, hE⟩ : ∃ E, E = docsE L := ⟨_, rfl⟩
    rw [← hE] at hq ⊢
    have HE := Lib.hid hE
    clear hb1 hne hE
    go_wp2_with fail
    go_ret2
    exact ⟨HB.out, .inl ⟨HNe.out, by rw [← HE.out]; rfl⟩⟩
  · obtain ⟨z1, z2, z3⟩ := docsE_zero hz
    have htr := Lib.hid (back_trust _ L w1 (HS.out.below (Nat.le_refl _) hb1) z2 (by omega))
    have HB := Lib.hid hb1
    have HZ := Lib.hid hz
    clear hb1 hz hP hd z1 z2 z3
    go_wp2_with fail
    refine htr.out.mono ?_
    rintro e w2 ⟨b, rfl, hb2, hix, hbe⟩
    have HB2 := Lib.hid (HB.out.trans (hbe.mono HB.out.size))
    have HI := Lib.hid hix
    have hbb : w.heap.size ≤ b := Nat.le_trans HB.out.size hb2
    clear hbe hix
    go_wp2_with fail
    go_ret2
    exact ⟨HB2.out, .inr ⟨HZ.out, b, hbb, rfl, HI.out⟩⟩
end Go.Proofs.Ytinlmodkdjpocaa

set_option linter.unusedVariables false
namespace Go.Proofs.Ytinlmodkdjpocaa
open Go.RowKit

theorem back_len (b : Nat) (L : List Nat) (w : World) (h : IdxR w b L) :
    Calls Try.prog 38 #[.pointer (some ⟨b, 0, none⟩)] w fun e w' => e = .returned (.int .i64 L.length) ∧ w' = w := by
  obtain ⟨lv, m, h0, h1, h2, h3, h4, h5, h6⟩ := h
  obtain ⟨A, c, rfl, _, _, g⟩ := h1.form
  clear h1 h2 h3 h4 h5 g
  go_enter Try.func38, Try.ntmps38
  go_wp2
  go_ret
  exact ⟨rfl, rfl⟩
theorem back_docsN (b : Nat) (L : List Nat) (w : World) (h : IdxR w b L) :
    Calls Try.prog 39 #[.pointer (some ⟨b, 0, none⟩)] w fun e w' => e = .returned (.int .i64 (L.count 0 : Nat)) ∧ w' = w := by
  obtain ⟨lv, m, h0, h1, h2, h3, h4, h5, h6⟩ := h
  have hc := h4 1 (by decide)
  rw [belowL_one] at hc
  have hc' : w.cell? ⟨b, 3, none⟩ = some (.int .i64 (L.count 0 : Nat)) := hc
  clear h0 h1 h2 h3 h4 h5 hc
  generalize L.count 0 = D at *
  go_enter Try.func39, Try.ntmps39
  go_wp2
  go_ret
  exact ⟨rfl, rfl⟩
theorem back_sym (b : Nat) (L : List Nat) (i : Int) (w : World) (h : IdxR w b L) :
    Calls Try.prog 62 #[.pointer (some ⟨b, 0, none⟩), .int .i64 i] w fun e w' => e = .returned (.int .i64 (symAt L i)) ∧ w' = w := by
  obtain ⟨lv, m, h0, h1, h2, h3, h4, h5, h6⟩ := h
  have hg := Lib.hid (wave_get m L i w h3 h5)
  clear h0 h1 h3 h4 h5
  generalize symAt L i = r at *
  go_enter Try.func62, Try.ntmps62
  go_wp2_with (go_at_call 91; (with_reducible refine hg.out.mono ?_); rintro e w' ⟨rfl, rfl⟩)
  go_ret
  exact ⟨rfl, rfl⟩
/-- no step: a row that begins a document, or none -/
theorem back_step_no (b : Nat) (L : List Nat) (i : Int) (w : World) (h : IdxR w b L) (hz : symAt L i ≤ 0) :
    Calls Try.prog 56 #[.pointer (some ⟨b, 0, none⟩), .int .i64 i] w fun e w' => e = .returned (.tuple #[.int .i64 0, .bool false]) ∧ w' = w := by
  have hs := Lib.hid (back_sym b L i w h)
  clear h
  generalize symAt L i = r at *
  go_enter Try.func56, Try.ntmps56
  go_wp2_with (go_at_call 62; (with_reducible refine hs.out.mono ?_); rintro e w' ⟨rfl, rfl⟩)
  go_ret2
  exact ⟨rfl, rfl⟩
theorem symAt_nat2 {L : List Nat} {i : Nat} (h : i < L.length) : symAt L (i : Int) = (L.getD i 0 : Nat) := by
  simp [symAt, h, List.getD]
set_option maxRecDepth 100000 in
set_option maxHeartbeats 1000000 in
theorem back_step_yes (b : Nat) (L : List Nat) (i : Nat) (w : World) (h : IdxR w b L) (hi : i < L.length) (hz : L.getD i 0 ≠ 0) :
    Calls Try.prog 56 #[.pointer (some ⟨b, 0, none⟩), .int .i64 i] w fun e w' => e = .returned (.tuple #[.int .i64 (stepL L i : Nat), .bool true]) ∧ ∃ q, w' = w.drewN q := by
  have hs := back_sym b L i w h
  rw [symAt_nat2 hi] at hs
  obtain ⟨lv, m, h0, h1, h2, h3, h4, h5, h6⟩ := h
  have hle : L.getD i 0 ≤ 256 := by rw [List.getD_eq_getElem?_getD, List.getElem?_eq_getElem hi]; exact h5 _ (List.getElem_mem hi)
  have hrk := Lib.hid (fun q => wave_rank m (L.getD i 0) i L (w.drewN q) (h3.drewN q) hle h5 (by omega))
  have hc := h4 (L.getD i 0) (by omega)
  have hst : stepL L i = belowL L (L.getD i 0) + cntL L (L.getD i 0) i := rfl
  rw [hst]
  have l1 := belowL_le L (L.getD i 0)
  have l2 : cntL L (L.getD i 0) i ≤ i := Nat.le_trans List.count_le_length (by rw [List.length_take]; omega)
  have HS := Lib.hid hs
  clear h0 h1 h3 h4 h5 hst hs
  have hpos : 0 < L.getD i 0 := by omega
  generalize cntL L (L.getD i 0) i = R at *
  generalize belowL L (L.getD i 0) = Z at *
  generalize L.getD i 0 = c at *
  have hN : L.length ≤ 100000 := h6
  generalize L.length = N at *
  have q1 : IntKind.i64.wrap ((Z : Int) + (R : Nat)) = (Z : Int) + (R : Nat) := IntWalk.i64_in _ (by omega)
  have q2 : (c : Int) < 257 := by omega
  have q3 : (0 : Int) ≤ (c : Int) := by omega
  clear hz
  go_enter Try.func56, Try.ntmps56
  go_wp2_with (go_at_call 62; (with_reducible refine HS.out.mono ?_); rintro e w' ⟨rfl, rfl⟩)
  go_quiet ((go_at_call 87; (with_reducible exact Calls.quiet_of (hrk.out _))))
  go_wp2_with fail
  go_ret2
  exact ⟨rfl, _, rfl⟩
set_option maxRecDepth 100000 in
set_option maxHeartbeats 1000000 in
theorem back_more (b : Nat) (L : List Nat) (lo hi c : Nat) (w : World) (h : IdxR w b L) (hlo : lo ≤ 100000) (hhi : hi ≤ 100000) (hc : c ≤ 255) :
    Calls Try.prog 77 #[.pointer (some ⟨b, 0, none⟩), .int .i64 lo, .int .i64 hi, .int .u8 c] w fun e w' => e = .returned (.tuple #[.int .i64 (moreL L (lo, hi) (c + 1)).1, .int .i64 (moreL L (lo, hi) (c + 1)).2]) ∧ ∃ q, w' = w.drewN q := by
  obtain ⟨lv, m, h0, h1, h2, h3, h4, h5, h6⟩ := h
  have hrk := Lib.hid (fun i (hi : i ≤ 100000) q => wave_rank m (c + 1) i L (w.drewN q) (h3.drewN q) (by omega) h5 (by omega))
  have hcell := h4 (c + 1) (by omega)
  have l1 := belowL_le L (c + 1)
  have l2 : cntL L (c + 1) lo ≤ 100000 := Nat.le_trans List.count_le_length (by rw [List.length_take]; omega)
  have l3 : cntL L (c + 1) hi ≤ 100000 := Nat.le_trans List.count_le_length (by rw [List.length_take]; omega)
  unfold moreL
  simp only
  have r1 := Lib.hid (hrk.out lo hlo)
  have r2 := Lib.hid (hrk.out hi hhi)
  by_cases hle : lo < hi
  · rw [Nat.max_eq_right (by omega : lo ≤ hi)]
    clear h0 h1 h3 h4 h5 hrk
    generalize L.length = N at *
    generalize cntL L (c + 1) lo = R1 at *
    generalize cntL L (c + 1) hi = R2 at *
    generalize belowL L (c + 1) = Z at *
    obtain ⟨s, hs⟩ : ∃ s, s = c + 1 := ⟨_, rfl⟩
    rw [← hs] at hcell r1 r2
    have m1 : (c : Int) + 1 = (s : Nat) := by omega
    have m2 : s < 257 := by omega
    have q6 : (s : Int) < 257 := by omega
    clear hs
    have q1 : IntKind.i64.wrap ((Z : Int) + (R1 : Nat)) = (Z : Int) + (R1 : Nat) := IntWalk.i64_in _ (by omega)
    have q2 : IntKind.i64.wrap ((Z : Int) + (R2 : Nat)) = (Z : Int) + (R2 : Nat) := IntWalk.i64_in _ (by omega)
    go_enter Try.func77, Try.ntmps77
    go_wp2_with fail
    go_quiet ((go_at_call 87; first | (with_reducible exact Calls.quiet_of (r1.out _)) | (with_reducible exact Calls.quiet_of (r2.out _))))
    go_wp2_with fail
    go_ret2
    exact ⟨rfl, _, rfl⟩
  · rw [Nat.max_eq_left (by omega : hi ≤ lo)]
    clear h0 h1 h3 h4 h5 hrk r2 l3
    generalize L.length = N at *
    generalize cntL L (c + 1) lo = R1 at *
    generalize belowL L (c + 1) = Z at *
    obtain ⟨s, hs⟩ : ∃ s, s = c + 1 := ⟨_, rfl⟩
    rw [← hs] at hcell r1
    have m1 : (c : Int) + 1 = (s : Nat) := by omega
    have m2 : s < 257 := by omega
    have q6 : (s : Int) < 257 := by omega
    clear hs
    have q1 : IntKind.i64.wrap ((Z : Int) + (R1 : Nat)) = (Z : Int) + (R1 : Nat) := IntWalk.i64_in _ (by omega)
    go_enter Try.func77, Try.ntmps77
    go_wp2_with fail
    go_quiet ((go_at_call 87; (with_reducible exact Calls.quiet_of (r1.out _))))
    go_wp2_with fail
    go_ret2
    exact ⟨rfl, _, rfl⟩
theorem back_syms (b : Nat) (L : List Nat) (w : World) (h : IdxR w b L) :
    Calls Try.prog 36 #[.pointer (some ⟨b, 0, none⟩)] w fun e w' => ∃ v, e = .returned v ∧ SlR symV w' v L ∧ Below w.heap.size w w' := by
  obtain ⟨lv, m, h0, h1, h2, h3, h4, h5, h6⟩ := h
  obtain ⟨A, c, rfl, k1, k2, g⟩ := h1.form
  have hcl := Lib.hid (clone_sy _ L w h1 (by omega))
  clear h1 h2 h3 h4 h5 g
  obtain ⟨N, hN⟩ : ∃ N, N = L.length := ⟨_, rfl⟩
  have HN := Lib.hid hN
  rw [← hN] at hcl h0
  clear hN
  go_enter Try.func36, Try.ntmps36
  go_wp2_with fail
  refine hcl.out.mono ?_
  rintro e w1 ⟨v1, rfl, ho, hb⟩
  have hs := SyO.of ho HN.out
  obtain ⟨A1, c1, rfl, m1, m2, _⟩ := hs.slT.1.form
  have hclip := Lib.hid (clip_sy A1 L.length c1 w1 m1 m2)
  have HF := Lib.hid hs.slT.1.clip
  have HB := Lib.hid hb
  clear ho hb hs
  go_wp2_with fail
  refine hclip.out.mono ?_
  rintro e w2 ⟨rfl, rfl⟩
  go_wp2_with fail
  go_ret
  exact ⟨_, rfl, HF.out, HB.out⟩
end Go.Proofs.Ytinlmodkdjpocaa

set_option linter.unusedVariables false
namespace Go.Proofs.Ytinlmodkdjpocaa
open Go.RowKit

set_option maxHeartbeats 2000000 in
theorem bwd_iter (b1 : Nat) (R : Nat → Prop) (w0 : World) (p : List UInt8) (pv : Value) (hR1 : R b1) (hdata : ∀ W : World, (∀ b, R b → W.heap[b]? = w0.heap[b]?) → SlR byV W pv p)
    (h1 : w0.heap[b1]? = some (.cells #[pv] 29 (0, 0))) (hpl : p.length ≤ 1000000) :
    IterC Try.prog 106 #[.pointer (some ⟨b1, 0, none⟩)] p.length (fun k args _ => ∃ x : UInt8, p[p.length - 1 - k]? = some x ∧ args = #[.int .i64 (p.length - 1 - k : Nat), .int .u8 (x.toNat : Int)]) R w0 := by
  intro l M0 J Jx W hsz hRd hM0 hJ hJx hY hJ0
  refine (callsIn_wide (n := 5)).1 ?_
  refine callsIn_of_wp Try.func106 rfl trivial ?_ rfl
  simp only [Try.ntmps106, List.size_toArray, List.length_cons, List.length_nil, Nat.reduceAdd, Nat.reduceSub, Array.replicate_succ, Array.replicate_zero, List.push_toArray, List.append_toArray, List.nil_append, List.cons_append]
  have HY := Lib.hid hY
  have HRd := Lib.hid hRd
  have HJ := Lib.hid hJ
  have HJx := Lib.hid hJx
  have HM0 := Lib.hid hM0
  have H1 := Lib.hid h1
  have HDA := Lib.hid hdata
  have HJ0 := Lib.hid hJ0
  have HR1 := Lib.hid hR1
  have hsame0 : ∀ b, R b → W.heap[b]? = w0.heap[b]? := fun b hb => (hRd b hb).2.2
  have c0 : W.cell? ⟨b1, 0, none⟩ = some pv := by rw [cell_of_block ((hsame0 b1 hR1).trans h1)]; rfl
  obtain ⟨A, c, hpv, _, _, _⟩ := (hdata W hsame0).form
  subst hpv
  have HS0 := Lib.hid hsame0
  obtain ⟨N, hN⟩ : ∃ N, N = p.length := ⟨_, rfl⟩
  have HN := Lib.hid hN
  rw [← hN] at hpl c0
  clear hY hRd hJ hJx hM0 h1 hdata hJ0 hR1 hsame0 hN
  gi_wp2
  gi_loopw [3] (fun iv wr => ∃ (k : Nat) (M : Nat → Prop), iv = .int .i64 ((N : Int) - 1 - (k : Int)) ∧ k ≤ N ∧ Hid (J k M wr) ∧ Hid (∀ b, M b → (M0 b ∨ W.heap.size ≤ b) ∧ b < wr.heap.size) ∧ Hid (∀ b, R b → wr.heap[b]? = w0.heap[b]?) ∧ W.heap.size ≤ wr.heap.size)
    (fun iv _ => (intOf iv + 1).toNat)
  case atStart => exact ⟨0, M0, by simp, Nat.zero_le _, Lib.hid HJ0.out, Lib.hid (fun b hb => ⟨.inl hb, HM0.out b hb⟩), Lib.hid HS0.out, Nat.le_refl _⟩
  case round =>
    obtain ⟨k, M, rfl, hk, hj, hm, hsame, hsz2⟩ := hrel
    by_cases hlt : k < N
    · have c1 : wr.cell? ⟨b1, 0, none⟩ = some (.slice A N c) := by rw [cell_of_block ((hsame.out b1 HR1.out).trans H1.out), HN.out]; rfl
      obtain ⟨i, hi⟩ : ∃ i, i = N - 1 - k := ⟨_, rfl⟩
      have hiN : i < N := by omega
      have m1 : (N : Int) - 1 - (k : Int) = (i : Nat) := by omega
      obtain ⟨ad, rfl, hc⟩ := (HDA.out wr hsame.out).at_ i (by rw [← HN.out]; exact hiN)
      obtain ⟨x, hx⟩ : ∃ x, x = p[i]'(by rw [← HN.out]; exact hiN) := ⟨_, rfl⟩
      rw [← hx] at hc
      have hget : p[i]? = some x := by rw [hx]; exact List.getElem?_eq_getElem _
      have hc' : wr.cell? (ad.add i) = some (.int .u8 (x.toNat : Int)) := hc
      rw [m1]
      have hArg : Hid (∃ x : UInt8, p[p.length - 1 - k]? = some x ∧ (#[.int .i64 (i : Nat), .int .u8 (((p[i]?).getD 0).toNat : Int)] : Array Value) = #[.int .i64 (p.length - 1 - k : Nat), .int .u8 (x.toNat : Int)]) := Lib.hid ⟨x, by rw [← HN.out, ← hi]; exact hget, by rw [← HN.out, ← hi, hget]; rfl⟩
      have hxe : ((p[i]?).getD 0) = x := by rw [hget]; rfl
      rw [hxe] at hArg
      have HI := Lib.hid hi
      generalize x.toNat = xn at *
      clear hc hx hget hxe hi m1
      gi_wp2
      obtain ⟨fn, tmps, assign, body, hy, hR⟩ := HY.out k M #[.int .i64 (i : Nat), .int .u8 (xn : Int)] wr (by rw [← HN.out]; exact hlt) hj.out hArg.out hm.out hsz2
      rw [hy]
      refine ⟨fun h => by simp [Fence.wide] at h, (roundIn_wide hR).mono ?_⟩
      clear hy hR
      rintro e W3 ⟨M2, hfr, hm2, ⟨rfl, hJ3⟩ | ⟨rfl, hJx3⟩⟩
      · have hsz3 : wr.heap.size ≤ W3.heap.size := hfr.size
        have HF := Lib.hid hfr
        have HM2 := Lib.hid hm2
        have HJ3 := Lib.hid hJ3
        clear hfr hm2 hJ3
        have HS : Hid (∀ b, R b → W3.heap[b]? = w0.heap[b]?) := by
          refine Lib.hid fun b hb => ?_
          have h0 := HRd.out b hb
          refine (HF.out.block b ?_ ?_).trans (hsame.out b hb)
          · omega
          · intro hMb
            rcases (hm.out b hMb).1 with h | h
            · exact h0.2.1 h
            · omega
        have HM3 : Hid (∀ b, M2 b → (M0 b ∨ W.heap.size ≤ b) ∧ b < W3.heap.size) := by
          refine Lib.hid fun b hb => ⟨?_, (HM2.out b hb).2⟩
          rcases (HM2.out b hb).1 with h | h
          · exact (hm.out b h).1
          · right; omega
        gi_wp2
        go_roundw
        case rel => exact ⟨k + 1, M2, by have := HI.out; have e : (i : Int) - 1 = (N : Int) - 1 - ((k + 1 : Nat) : Int) := (by omega); rw [e], by omega, Lib.hid HJ3.out, HM3, HS, by omega⟩
        case measure => simp [intOf]
      · have HF := Lib.hid hfr
        have HM2 := Lib.hid hm2
        have HJ3 := Lib.hid hJx3
        clear hfr hm2 hJx3
        have hsz3 : wr.heap.size ≤ W3.heap.size := HF.out.size
        gi_wp2
        refine bodyPost_ret (results_none rfl _ _ _) rfl ?_
        refine ⟨⟨_, rfl⟩, M2, by omega, fun b hb => ⟨?_, (HM2.out b hb).2⟩, .inr ⟨k + 1, by rw [← HN.out]; omega, HJ3.out⟩⟩
        rcases (HM2.out b hb).1 with h | h
        · exact (hm.out b h).1
        · right; omega
    · obtain rfl : k = N := by omega
      have HJN : Hid (J p.length M wr) := Lib.hid (by rw [← HN.out]; exact hj.out)
      have m1 : (k : Int) - 1 - (k : Int) = -1 := by omega
      rw [m1]
      clear m1 hlt
      gi_wp2
      go_end0
      exact ⟨⟨_, rfl⟩, M, hsz2, fun b hb => hm.out b hb, .inl HJN.out⟩
end Go.Proofs.Ytinlmodkdjpocaa

set_option linter.unusedVariables false
namespace Go.Proofs.Ytinlmodkdjpocaa
open Go.RowKit Go.Shelf
attribute [local go_sem] Oper.semAt_some

/-- as leaves_marks, the results read out of memory -/
theorem leaves_marksR {P : Program} {F : Fence} {n : Nat} {fn : Func} {tmps : Array Value} {R : Ending → World → Prop} {v : Value} : ∀ (Ds : List Nat) (W : World), Ds.Nodup → (∀ D, D ∈ Ds → W.heap[D]? = some (.deferred (some []))) →
    (∀ W', Fr (fun b => b ∈ Ds) W W' → (results fn tmps).run P W' = .ok v W') → (∀ W', Fr (fun b => b ∈ Ds) W W' → R (.returned v) W') → LeavesInM F n P fn tmps R (Ds.map fun D => { target := .collected D, args := #[] }) .returning W
  | [], W, _, _, hv, hR => by
    simp only [List.map_nil, LeavesInM, LeavesIn]
    exact ⟨v, hv W (Fr.refl _ _), hR W (Fr.refl _ _)⟩
  | D :: Ds, W, hn, hd, hv, hR => by
    have hD := hd D (List.mem_cons_self ..)
    simp only [List.map_cons, LeavesInM]
    refine ⟨by simp, .inl ⟨D, W.putObj D (.deferred none), rfl, run_takeDeferred hD, ?_⟩⟩
    rw [List.nodup_cons] at hn
    have hstep : ∀ W', Fr (fun b => b ∈ Ds) (W.putObj D (.deferred none)) W' → Fr (fun b => b ∈ D :: Ds) W W' := fun W' hW' =>
      ((Fr.refl _ W).putObj (List.mem_cons_self ..) _).trans (hW'.mono (fun b _ hb => List.mem_cons_of_mem _ hb))
    refine leaves_marksR Ds _ hn.2 (fun D' hD' => ?_) (fun W' hW' => hv W' (hstep W' hW')) (fun W' hW' => hR W' (hstep W' hW'))
    rw [World.putObj_heap_other (fun e : D' = D => hn.1 (by rw [← e]; exact hD'))]
    exact hd D' (List.mem_cons_of_mem _ hD')

theorem bwd_any (pv : Value) (w : World) (A : Option Addr) (n c : Nat) (hpv : pv = .slice A n c) :
    Calls Try.prog 76 #[pv] w fun e w' => e = .returned (.func (.func 106) #[] #[.pointer (some ⟨w.heap.size, 0, none⟩)]) ∧ w' = w.alloc (.cells #[pv] 29) := by
  subst hpv
  go_enter Try.func76, Try.ntmps76
  go_wp2
  go_ret
  exact ⟨rfl, rfl⟩
theorem moreL_le (L : List Nat) (r : Nat × Nat) (s : Nat) : (moreL L r s).1 ≤ L.length ∧ (moreL L r s).2 ≤ L.length := by
  have h : ∀ i, belowL L s + cntL L s i ≤ L.length := by
    intro i
    have h1 := belowL_succ L s
    have h2 := belowL_le L (s + 1)
    have h3 : cntL L s i ≤ L.count s := (List.take_sublist i L).count_le s
    omega
  exact ⟨h _, h _⟩
theorem rangeL_le (L : List Nat) (P : List Nat) : (rangeL L P).1 ≤ L.length ∧ (rangeL L P).2 ≤ L.length := by
  cases P with
  | nil => simp [rangeL]
  | cons s P => exact moreL_le L _ s
/-- the rows of a text's last bytes -/
def rgK (L : List Nat) (p : List UInt8) (k : Nat) : Nat × Nat := rangeL L (upS' (p.drop (p.length - k)))
theorem rgK_zero (L : List Nat) (p : List UInt8) : rgK L p 0 = (0, L.length) := by unfold rgK; simp [upS', rangeL]
theorem rgK_end (L : List Nat) (p : List UInt8) : rgK L p p.length = rangeL L (upS' p) := by unfold rgK; simp
theorem rgK_next (L : List Nat) (p : List UInt8) (k : Nat) (x : UInt8) (hk : k < p.length) (hx : p[p.length - 1 - k]? = some x) : rgK L p (k + 1) = moreL L (rgK L p k) (x.toNat + 1) := by
  unfold rgK
  have hlt : p.length - (k + 1) < p.length := by omega
  have e : p[p.length - (k + 1)] = x := by
    obtain ⟨h1, h2⟩ := List.getElem?_eq_some_iff.1 hx
    rw [← h2]; congr 1; omega
  rw [List.drop_eq_getElem_cons hlt, e, show p.length - (k + 1) + 1 = p.length - k from by omega]
  rfl

/-- what the loop of Range holds: the two ends, each in a block of its own -/
def RgSt (B : Nat) (w1 : World) (r : Nat × Nat) (M : Nat → Prop) (W : World) : Prop :=
  W.heap[B]? = some (.cells #[.int .i64 (r.1 : Nat)] 3 (0, 0)) ∧ W.heap[B + 1]? = some (.cells #[.int .i64 (r.2 : Nat)] 3 (0, 0)) ∧ M B ∧ M (B + 1) ∧ Fr (fun b => b = B ∨ b = B + 1) w1 W
theorem RgSt.fr {B : Nat} {w1 : World} {r : Nat × Nat} {M : Nat → Prop} {W W2 : World} (h : RgSt B w1 r M W) (hf : Fr (fun b => w1.heap.size ≤ b ∧ ¬ M b) W W2) : RgSt B w1 r M W2 := by
  obtain ⟨h0, h1, h2, h3, h4⟩ := h
  exact ⟨hf.obj h0 (fun h => h.2 h2), hf.obj h1 (fun h => h.2 h3), h2, h3, h4.trans' hf (fun b hb hm => by omega)⟩

set_option maxRecDepth 100000 in
set_option maxHeartbeats 4000000 in
theorem back_range (b : Nat) (L : List Nat) (pv : Value) (p : List UInt8) (w : World) (h : IdxR w b L) (hp : SlR byV w pv p) (hpl : p.length ≤ 1000000) :
    Calls Try.prog 37 #[.pointer (some ⟨b, 0, none⟩), pv] w fun e w' => e = .returned (.tuple #[.int .i64 (rangeL L (upS' p)).1, .int .i64 (rangeL L (upS' p)).2]) ∧ Below w.heap.size w w' := by
  obtain ⟨A, c, rfl, _, _, _⟩ := hp.form
  refine (callsIn_wide (n := 5)).1 ?_
  refine callsIn_of_wp_marks Try.func37 rfl trivial ?_ rfl
  simp only [Try.ntmps37, List.size_toArray, List.length_cons, List.length_nil, Nat.reduceAdd, Nat.reduceSub, Array.replicate_succ, Array.replicate_zero, List.push_toArray, List.append_toArray, List.nil_append, List.cons_append]
  have hlen := Lib.hid (fun W (hW : Below w.heap.size w W) => back_len b L W (h.below (Nat.le_refl _) hW))
  have HI := Lib.hid h
  have HP := Lib.hid hp
  obtain ⟨NL, hNL⟩ : ∃ NL, NL = L.length := ⟨_, rfl⟩
  have HNL := Lib.hid hNL
  have hLl : NL ≤ 100000 := by rw [hNL]; obtain ⟨_, _, _, _, _, _, _, _, h6⟩ := h; exact h6
  rw [← hNL] at hlen
  clear h hp hNL
  obtain ⟨wa, hwa⟩ : ∃ wa, wa = ((w.alloc (.cells #[.pointer (some ⟨b, 0, none⟩)] 45)).alloc (.cells #[.int .i64 0] 3)).alloc (.cells #[.int .i64 0] 3) := ⟨_, rfl⟩
  have hba : Below w.heap.size w wa := by rw [hwa]; exact (((Below.refl _ w).alloc (Nat.le_refl _) _).alloc (by simp) _).alloc (by simp; omega) _
  have hsa : wa.heap.size = w.heap.size + 3 := by rw [hwa]; simp
  have a0 : wa.heap[w.heap.size]? = some (.cells #[.pointer (some ⟨b, 0, none⟩)] 45 (0, 0)) := by
    rw [hwa]; exact heap_old (heap_old (heap_alloc_new w _))
  have a1 : wa.heap[w.heap.size + 1]? = some (.cells #[.int .i64 0] 3 (0, 0)) := by
    rw [hwa]
    have := heap_alloc_new (w.alloc (.cells #[.pointer (some ⟨b, 0, none⟩)] 45)) (.cells #[.int .i64 0] 3)
    rw [World.size_alloc] at this
    exact heap_old this
  have a2 : wa.heap[w.heap.size + 1 + 1]? = some (.cells #[.int .i64 0] 3 (0, 0)) := by
    rw [hwa]
    have := heap_alloc_new ((w.alloc (.cells #[.pointer (some ⟨b, 0, none⟩)] 45)).alloc (.cells #[.int .i64 0] 3)) (.cells #[.int .i64 0] 3)
    simp only [World.size_alloc] at this
    exact this
  have HW := Lib.hid hwa
  have HBA := Lib.hid hba
  have HSA := Lib.hid hsa
  have A0 := Lib.hid a0
  have A1 := Lib.hid a1
  have A2 := Lib.hid a2
  clear hwa hba hsa a0 a1 a2
  gi_wp2_with fail
  rw [← HW.out]
  refine ⟨trivial, (callsIn_wide.2 (hlen.out wa HBA.out)).mono ?_⟩
  rintro e w1 ⟨rfl, rfl⟩
  have d1 : w1.cell? ⟨w.heap.size + 1, 0, none⟩ = some (.int .i64 0) := by rw [cell_of_block A1.out]; rfl
  have d2 : w1.cell? ⟨w.heap.size + 1 + 1, 0, none⟩ = some (.int .i64 0) := by rw [cell_of_block A2.out]; rfl
  have f1 : w1.frozen? ⟨w.heap.size + 1, 0, none⟩ = false := free_of_block A1.out
  have f2 : w1.frozen? ⟨w.heap.size + 1 + 1, 0, none⟩ = false := free_of_block A2.out
  have hbw := Lib.hid (bwd_any (.slice A p.length c) ((w1.setCell ⟨w.heap.size + 1, 0, none⟩ (.int .i64 0)).setCell ⟨w.heap.size + 1 + 1, 0, none⟩ (.int .i64 (NL : Nat))) A p.length c rfl)
  gi_wp2_with (refine ⟨trivial, ?_⟩; gi_at_call 76; go_must (refine (callsIn_wide.2 hbw.out).mono ?_; rintro e w2 ⟨rfl, hw2⟩; have HW2 := Lib.hid hw2; clear hw2))
  obtain ⟨B, hB⟩ : ∃ B, B = w.heap.size + 1 := ⟨_, rfl⟩
  have hs2 : w2.heap.size = w.heap.size + 4 := by rw [HW2.out]; simp [HSA.out]
  have hbw2 : Below w.heap.size w w2 := by
    rw [HW2.out]
    exact ((HBA.out.setCell (p := ⟨w.heap.size + 1, 0, none⟩) (by show w.heap.size ≤ w.heap.size + 1; omega) _).setCell (p := ⟨w.heap.size + 1 + 1, 0, none⟩) (by show w.heap.size ≤ w.heap.size + 1 + 1; omega) _).alloc (by simp [HSA.out]) _
  have g0 : w2.heap[w.heap.size]? = some (.cells #[.pointer (some ⟨b, 0, none⟩)] 45 (0, 0)) := by
    rw [HW2.out]
    refine heap_old ?_
    rw [Below.heap_setCell _ _ _ _ (by show w.heap.size ≠ w.heap.size + 1 + 1; omega), Below.heap_setCell _ _ _ _ (by show w.heap.size ≠ w.heap.size + 1; omega)]
    exact A0.out
  have g1 : w2.heap[w.heap.size + 1]? = some (.cells #[.int .i64 0] 3 (0, 0)) := by
    rw [HW2.out]
    refine heap_old ?_
    rw [Below.heap_setCell _ _ _ _ (by show w.heap.size + 1 ≠ w.heap.size + 1 + 1; omega), heap_setCell_same A1.out]; rfl
  have g2 : w2.heap[w.heap.size + 1 + 1]? = some (.cells #[.int .i64 (NL : Nat)] 3 (0, 0)) := by
    rw [HW2.out]
    refine heap_old ?_
    have h1 : (w1.setCell ⟨w.heap.size + 1, 0, none⟩ (.int .i64 0)).heap[w.heap.size + 1 + 1]? = some (.cells #[.int .i64 0] 3 (0, 0)) := by
      rw [Below.heap_setCell _ _ _ _ (by show w.heap.size + 1 + 1 ≠ w.heap.size + 1; omega)]; exact A2.out
    rw [heap_setCell_same h1]; rfl
  have g3 : w2.heap[w.heap.size + 3]? = some (.cells #[.slice A p.length c] 29 (0, 0)) := by
    rw [HW2.out]
    have := heap_alloc_new ((w1.setCell ⟨w.heap.size + 1, 0, none⟩ (.int .i64 0)).setCell ⟨w.heap.size + 1 + 1, 0, none⟩ (.int .i64 (NL : Nat))) (.cells #[.slice A p.length c] 29)
    simp only [size_setCell, HSA.out] at this
    exact this
  have hit := bwd_iter (w.heap.size + 3) (fun x => x < w2.heap.size ∧ x ≠ w.heap.size + 1 ∧ x ≠ w.heap.size + 1 + 1) w2 p (.slice A p.length c) ⟨by omega, by omega, by omega⟩ (fun W hW => HP.out.same (Nat.le_refl _) (fun x hx => (hW x ⟨by omega, by omega, by omega⟩).trans (hbw2.block x hx))) g3 hpl
  have hbase : ((w1.setCell ⟨w.heap.size + 1, 0, none⟩ (.int .i64 0)).setCell ⟨w.heap.size + 1 + 1, 0, none⟩ (.int .i64 (NL : Nat))).heap.size = w.heap.size + 3 := by simp [HSA.out]
  simp only [HSA.out]
  refine wp_range_outer hit rfl (enters_of Try.func106 (by kernel_rfl) rfl) (Nat.le_refl _) (fun x => x = w.heap.size + 1 ∨ x = w.heap.size + 1 + 1) ?hRd ?hM0 ?hps ?hArg
    (fun k M W => k ≤ p.length ∧ RgSt (w.heap.size + 1) w2 (rgK L p k) M W)
    (fun _ _ _ _ => False)
    ?hI ?hIx ?hI0
    (fun args => { tmps := #[.pointer (some ⟨b, 0, none⟩), .slice A p.length c, .pointer (some ⟨w.heap.size, 0, none⟩), undef, .pointer (some ⟨w.heap.size + 1, 0, none⟩), .pointer (some ⟨w.heap.size + 1 + 1, 0, none⟩), undef, args.getD 1 undef, .pointer (some ⟨b, 0, none⟩), .int .i64 (NL : Nat), .slice A p.length c, .func (.func 106) #[] #[.pointer (some ⟨w.heap.size + 3, 0, none⟩)], args.getD 0 undef, args.getD 1 undef, undef, undef, undef, undef, undef, undef, undef, undef, undef, undef], defers := [] })
    ?hassign ?hbody ?hdone ?hstop
  case hRd => exact fun b hb => ⟨hb.1, fun h => by rcases h with h | h; exact hb.2.1 h; exact hb.2.2 h, rfl⟩
  case hM0 => rintro b (rfl | rfl) <;> omega
  case hps => rintro k args W _ ⟨x, _, rfl⟩; rfl
  case hArg => exact fun _ _ _ _ _ _ h _ => h
  case hI => exact fun k M A B ⟨h1, h3⟩ hf => ⟨h1, h3.fr hf⟩
  case hIx => exact fun c k M A B h hf => h
  case hI0 => exact ⟨Nat.zero_le _, by rw [rgK_zero]; exact ⟨g1, by rw [← HNL.out]; exact g2, .inl rfl, .inr rfl, Fr.refl _ _⟩⟩
  case hassign =>
    rintro l k args W K _ ⟨x, _, rfl⟩ hK
    gi_wp2
    exact hK
  case hbody =>
    rintro l k M args W hk ⟨h1, h3⟩ ⟨x, hx, rfl⟩ hl hl2 hnl hrec hM
    obtain ⟨v0, v1, v2, v3, v4⟩ := h3
    have v5 := v4.size
    have hbW : Below w.heap.size w W := hbw2.trans (v4.below (by omega) (fun b hb => by omega))
    have e0 : W.cell? ⟨w.heap.size, 0, none⟩ = some (.pointer (some ⟨b, 0, none⟩)) := by rw [cell_of_block ((v4.block w.heap.size (by omega) (by omega)).trans g0)]; rfl
    have e1 : W.cell? ⟨w.heap.size + 1, 0, none⟩ = some (.int .i64 (rgK L p k).1) := by rw [cell_of_block v0]; rfl
    have e2 : W.cell? ⟨w.heap.size + 1 + 1, 0, none⟩ = some (.int .i64 (rgK L p k).2) := by rw [cell_of_block v1]; rfl
    have f1 : W.frozen? ⟨w.heap.size + 1, 0, none⟩ = false := free_of_block v0
    have f2 : W.frozen? ⟨w.heap.size + 1 + 1, 0, none⟩ = false := free_of_block v1
    have hle := rangeL_le L (upS' (p.drop (p.length - k)))
    have hnx := rgK_next L p k x hk hx
    have hmr := Lib.hid (back_more b L (rgK L p k).1 (rgK L p k).2 x.toNat W (HI.out.below (Nat.le_refl _) hbW) (by unfold rgK; have := HNL.out; omega) (by unfold rgK; have := HNL.out; omega) (by have := x.toNat_lt; omega))
    rw [← hnx] at hmr
    have V0 := Lib.hid v0
    have V1 := Lib.hid v1
    have V2 := Lib.hid v2
    have V3 := Lib.hid v3
    have V4 := Lib.hid v4
    have HM := Lib.hid hM
    generalize x.toNat = xn at *
    obtain ⟨r, hr⟩ : ∃ r, r = rgK L p (k + 1) := ⟨_, rfl⟩
    obtain ⟨ro, hro⟩ : ∃ ro, ro = rgK L p k := ⟨_, rfl⟩
    have hrk : (rgK L p k).1 = ro.1 ∧ (rgK L p k).2 = ro.2 := by rw [hro]; exact ⟨rfl, rfl⟩
    rw [hrk.1] at e1
    rw [hrk.2] at e2
    rw [← hr, hrk.1, hrk.2] at hmr
    have HR := Lib.hid hr
    clear v0 v1 v2 v3 v4 hM hx hrec hle hnx hr hro hrk hbW
    generalize ro.1 = lo at *
    generalize ro.2 = hi at *
    gi_wp2_with fail
    refine ⟨trivial, rfl, (CallsIn.inRound l (callsIn_wide.2 hmr.out)).mono ?_⟩
    rintro e w5 ⟨rfl, q, rfl⟩
    gi_wp2_with fail
    have s0 : ((W.drewN q).setCell ⟨w.heap.size + 1, 0, none⟩ (.int .i64 (r.1 : Nat))).heap[w.heap.size + 1]? = some (.cells #[.int .i64 (r.1 : Nat)] 3 (0, 0)) := by
      rw [heap_setCell_same (show (W.drewN q).heap[w.heap.size + 1]? = _ from V0.out)]; rfl
    have s1 : ((W.drewN q).setCell ⟨w.heap.size + 1, 0, none⟩ (.int .i64 (r.1 : Nat))).heap[w.heap.size + 1 + 1]? = some (.cells #[.int .i64 (rgK L p k).2] 3 (0, 0)) := by
      rw [Below.heap_setCell _ _ _ _ (by show w.heap.size + 1 + 1 ≠ w.heap.size + 1; omega)]; exact V1.out
    refine ⟨M, (((Fr.refl M W).drewN q).setCell V2.out _).setCell V3.out _, fun b hb => ⟨.inl hb, by rw [size_setCell, size_setCell]; exact (HM.out b hb).2⟩, by omega, ?_⟩
    rw [← HR.out]
    refine ⟨?_, ?_, V2.out, V3.out, V4.out.trans ((((Fr.refl _ W).drewN q).setCell (.inl rfl) _).setCell (.inr rfl) _)⟩
    · rw [Below.heap_setCell _ _ _ _ (by show w.heap.size + 1 ≠ w.heap.size + 1 + 1; omega)]; exact s0
    · rw [heap_setCell_same s1]; rfl
  case hdone =>
    rintro D M W ⟨h1, h3⟩ hD hnD hKD hM
    rw [rgK_end] at h3
    obtain ⟨v0, v1, v2, v3, v4⟩ := h3
    have v5 := v4.size
    have e1 : W.cell? ⟨w.heap.size + 1, 0, none⟩ = some (.int .i64 (rangeL L (upS' p)).1) := by rw [cell_of_block v0]; rfl
    have e2 : W.cell? ⟨w.heap.size + 1 + 1, 0, none⟩ = some (.int .i64 (rangeL L (upS' p)).2) := by rw [cell_of_block v1]; rfl
    have f1 : W.frozen? ⟨w.heap.size + 1, 0, none⟩ = false := free_of_block v0
    have f2 : W.frozen? ⟨w.heap.size + 1 + 1, 0, none⟩ = false := free_of_block v1
    have V0 := Lib.hid v0
    have V1 := Lib.hid v1
    have V4 := Lib.hid v4
    have HKD := Lib.hid hKD
    have hD1 : ¬ D = w.heap.size + 1 := fun e => hnD (e ▸ v2)
    have hD2 : ¬ D = w.heap.size + 1 + 1 := fun e => hnD (e ▸ v3)
    clear v0 v1 v2 v3 v4 hKD hM
    obtain ⟨lo, hlo⟩ : ∃ lo, lo = (rangeL L (upS' p)).1 := ⟨_, rfl⟩
    obtain ⟨hi, hhi⟩ : ∃ hi, hi = (rangeL L (upS' p)).2 := ⟨_, rfl⟩
    rw [← hlo] at e1
    rw [← hhi] at e2
    have HLo := Lib.hid hlo
    have HHi := Lib.hid hhi
    clear hlo hhi
    gi_wp2_with fail
    gi_region
    all_goals
      gi_wp2_with fail
      obtain ⟨WW, hWW⟩ : ∃ WW, WW = ((W.setCell ⟨w.heap.size + 1, 0, none⟩ (.int .i64 (lo : Nat))).setCell ⟨w.heap.size + 1 + 1, 0, none⟩ (.int .i64 (hi : Nat))).drew := ⟨_, rfl⟩
      have s0 : WW.heap[w.heap.size + 1]? = some (.cells #[.int .i64 (lo : Nat)] 3 (0, 0)) := by
        rw [hWW]
        show ((W.setCell ⟨w.heap.size + 1, 0, none⟩ (.int .i64 (lo : Nat))).setCell ⟨w.heap.size + 1 + 1, 0, none⟩ (.int .i64 (hi : Nat))).heap[w.heap.size + 1]? = _
        rw [Below.heap_setCell _ _ _ _ (by show w.heap.size + 1 ≠ w.heap.size + 1 + 1; omega), heap_setCell_same V0.out]; rfl
      have s1 : WW.heap[w.heap.size + 1 + 1]? = some (.cells #[.int .i64 (hi : Nat)] 3 (0, 0)) := by
        rw [hWW]
        show ((W.setCell ⟨w.heap.size + 1, 0, none⟩ (.int .i64 (lo : Nat))).setCell ⟨w.heap.size + 1 + 1, 0, none⟩ (.int .i64 (hi : Nat))).heap[w.heap.size + 1 + 1]? = _
        have h1 : (W.setCell ⟨w.heap.size + 1, 0, none⟩ (.int .i64 (lo : Nat))).heap[w.heap.size + 1 + 1]? = some (.cells #[.int .i64 (rangeL L (upS' p)).2] 3 (0, 0)) := by
          rw [Below.heap_setCell _ _ _ _ (by show w.heap.size + 1 + 1 ≠ w.heap.size + 1; omega)]; exact V1.out
        rw [heap_setCell_same h1]; rfl
      have sD : WW.heap[D]? = some (.deferred (some [])) := by
        rw [hWW]
        show ((W.setCell ⟨w.heap.size + 1, 0, none⟩ (.int .i64 (lo : Nat))).setCell ⟨w.heap.size + 1 + 1, 0, none⟩ (.int .i64 (hi : Nat))).heap[D]? = _
        rw [Below.heap_setCell _ _ _ _ hD2, Below.heap_setCell _ _ _ _ hD1]; exact HKD.out
      have sF : Fr (fun b => b = w.heap.size + 1 ∨ b = w.heap.size + 1 + 1) w2 WW := by
        rw [hWW]; exact ((V4.out.setCell (.inl rfl) _).setCell (.inr rfl) _).drew
      rw [← hWW, ← HLo.out, ← HHi.out]
      clear hWW
      refine leaves_marksR [D] WW (by simp) (fun D' hD' => by simp at hD'; subst hD'; exact sD) (v := .tuple #[.int .i64 (lo : Nat), .int .i64 (hi : Nat)]) (fun W4 hW4 => ?_) (fun W4 hW4 => ⟨rfl, ?_⟩)
      · have t0 : W4.cell? ⟨w.heap.size + 1, 0, none⟩ = some (.int .i64 (lo : Nat)) := by rw [cell_of_block (hW4.obj s0 (by simp; omega))]; rfl
        have t1 : W4.cell? ⟨w.heap.size + 1 + 1, 0, none⟩ = some (.int .i64 (hi : Nat)) := by rw [cell_of_block (hW4.obj s1 (by simp; omega))]; rfl
        simp [results, Try.results37, go_sem, t0, t1]
      · exact hbw2.trans ((sF.below (n := w.heap.size) (by omega) (fun b hb => by omega)).trans (hW4.below (by have := sF.size; omega) (fun b hb => by simp at hb; omega)))
  case hstop => exact fun D c k M W hk h => h.elim
end Go.Proofs.Ytinlmodkdjpocaa

set_option linter.unusedVariables false
namespace Go.Proofs.Ytinlmodkdjpocaa
open Go.RowKit

theorem rangeL_order (L : List Nat) (P : List Nat) : (rangeL L P).1 ≤ (rangeL L P).2 := by
  cases P with
  | nil => simp [rangeL]
  | cons s P =>
    have e : rangeL L (s :: P) = moreL L (rangeL L P) s := rfl
    rw [e]
    generalize rangeL L P = r
    have : cntL L s r.1 ≤ cntL L s (max r.1 r.2) := by
      unfold cntL
      exact (List.take_prefix_take_left (by omega)).sublist.count_le s
    unfold moreL
    simp only
    omega
theorem back_count (b : Nat) (L : List Nat) (pv : Value) (p : List UInt8) (w : World) (h : IdxR w b L) (hp : SlR byV w pv p) (hpl : p.length ≤ 1000000) :
    Calls Try.prog 34 #[.pointer (some ⟨b, 0, none⟩), pv] w fun e w' => e = .returned (.int .i64 (countL L p : Nat)) ∧ Below w.heap.size w w' := by
  have hr := Lib.hid (back_range b L pv p w h hp hpl)
  obtain ⟨A, c, rfl, _, _, g⟩ := hp.form
  have ho := rangeL_order L (upS' p)
  have hle := (rangeL_le L (upS' p)).2
  have h6 : L.length ≤ 100000 := by obtain ⟨_, _, _, _, _, _, _, _, h6⟩ := h; exact h6
  unfold countL
  clear g h hp
  by_cases h0 : p = []
  · rw [if_pos h0]
    subst h0
    clear hr ho hle
    have hb : (((([] : List UInt8).length : Nat) : Int) == 0) = true := rfl
    go_enter Try.func34, Try.ntmps34
    go_wp2_with fail
    go_ret
    exact ⟨rfl, Below.refl _ _⟩
  · rw [if_neg h0]
    have hl : 0 < p.length := List.length_pos_iff.2 h0
    have hb : ((p.length : Int) == 0) = false := by simp; exact h0
    clear h0
    generalize rangeL L (upS' p) = r at *
    generalize p.length = n at *
    go_enter Try.func34, Try.ntmps34
    go_wp2_with fail
    refine hr.out.mono ?_
    rintro e w1 ⟨rfl, hb1⟩
    have HB := Lib.hid hb1
    clear hb1 hr
    go_wp2_with fail
    go_ret
    exact ⟨by rw [Int.ofNat_sub ho]; rfl, HB.out⟩
end Go.Proofs.Ytinlmodkdjpocaa
