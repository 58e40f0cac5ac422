/- bwt: Docs; slices.Equal at symbols. bwt: Docs: the walk. -/
import Derived.Test.YtinlmodkdjpocaaQrd
import Derived.Deep.QuietTactic
import Derived.BigQuiet
set_option linter.unusedVariables false
namespace Go.Proofs.Ytinlmodkdjpocaa
open Go.RowKit

set_option maxRecDepth 100000 in
set_option maxHeartbeats 1000000 in
theorem equal_sy (va vb : Value) (a b : List Nat) (w : World) (ha : SlR symV w va a) (hb : SlR symV w vb b) :
    Calls Try.prog 102 #[va, vb] w fun e w' => e = .returned (.bool (decide (a = b))) ∧ ∃ q, w' = w.drewN q := by
  obtain ⟨A, c, rfl, k1, k2, k3⟩ := ha.form
  obtain ⟨A2, c2, rfl, j1, j2, j3⟩ := hb.form
  by_cases hl : a.length = b.length
  · have hcell : ∀ i (hi : i < a.length), ∃ (x y : Nat) (ad ad2 : Addr), A = some ad ∧ A2 = some ad2 ∧ a[i]? = some x ∧ b[i]? = some y ∧ w.cell? (ad.add i) = some (.int .u16 (x : Int)) ∧ w.cell? (ad2.add i) = some (.int .u16 (y : Int)) := by
      intro i hi
      obtain ⟨ad, hA, hc⟩ := k3 i hi
      obtain ⟨ad2, hA2, hc2⟩ := j3 i (by omega)
      exact ⟨_, _, ad, ad2, hA, hA2, List.getElem?_eq_getElem hi, List.getElem?_eq_getElem (by omega), hc, hc2⟩
    have HC := Lib.hid hcell
    have HL := Lib.hid hl
    obtain ⟨N, hN⟩ : ∃ N, N = a.length := ⟨_, rfl⟩
    have HN := Lib.hid hN
    have hNb : b.length = N := by rw [hN, hl]
    rw [← hN] at k1
    rw [hNb] at j1
    rw [← hN, hNb]
    have HNb := Lib.hid hNb
    clear k3 j3 ha hb hcell hl hN hNb
    have hNN : ((N : Int) != (N : Int)) = false := by simp
    go_enter Try.func102, Try.ntmps102
    go_wp2_with fail
    go_loopw [13] (fun ix wr => ∃ i : Nat, i ≤ N ∧ ix = .int .i64 i ∧ Hid (a.take i = b.take i) ∧ ∃ q, wr = w.drewN q) (fun ix _ => N - (intOf ix).toNat)
    case atStart => exact ⟨0, Nat.zero_le _, rfl, Lib.hid (by simp), 0, rfl⟩
    case round =>
      obtain ⟨i, hi, rfl, heq, q, rfl⟩ := hrel
      by_cases hlt : i < N
      · have hia : i < a.length := by rw [← HN.out]; exact hlt
        have hib : i < b.length := by rw [HNb.out]; exact hlt
        obtain ⟨x, y, ad, ad2, rfl, rfl, hx, hy, hc1, hc2⟩ := HC.out i hia
        have HX := Lib.hid hx
        have HY := Lib.hid hy
        have q1 : (0 : Int) ≤ (i : Int) := by omega
        have q2 : (i : Int) < (N : Int) := by omega
        have hc1' : (w.drewN q).cell? (ad.add i) = some (.int .u16 (x : Int)) := hc1
        have hc2' : (w.drewN q).cell? (ad2.add i) = some (.int .u16 (y : Int)) := hc2
        obtain ⟨W, hW⟩ : ∃ W, w.drewN q = W := ⟨_, rfl⟩
        rw [hW] at hc1' hc2' ⊢
        have HW := Lib.hid hW
        clear hx hy hc1 hc2 hW
        by_cases hxy : x = y
        · have h1 : ((x : Int) != (y : Int)) = false := by simp [hxy]
          have HN2 : Hid (a.take (i + 1) = b.take (i + 1)) := Lib.hid (by
            rw [List.take_add_one, List.take_add_one, heq.out, HX.out, HY.out, hxy])
          clear hxy
          go_wp2_with fail
          go_quiet (fail)
          go_wp2_with fail
          go_roundw
          case rel => exact ⟨i + 1, by omega, by go_num, HN2.out, _, by rw [← HW.out]; exact World.drewN_drewN _ _ _⟩
          case measure => simp [intOf]; omega
        · have h1 : ((x : Int) != (y : Int)) = true := by simp; omega
          have hne : Hid (decide (a = b) = false) := Lib.hid (by
            simp only [decide_eq_false_iff_not]
            intro e
            subst e
            have h1 := HX.out; have h2 := HY.out; rw [h1] at h2; injection h2 with h2; exact hxy h2)
          clear hxy
          go_wp2_with fail
          go_quiet (fail)
          go_wp2_with fail
          go_ret
          exact ⟨by rw [hne.out]; rfl, _, by rw [← HW.out]; exact World.drewN_drewN _ _ _⟩
      · obtain rfl : N = i := by omega
        have hdec : Hid (decide (a = b) = true) := Lib.hid (by
          simp only [decide_eq_true_iff]
          have := heq.out
          rwa [List.take_of_length_le (by rw [← HN.out]; omega), List.take_of_length_le (by rw [HNb.out]; omega)] at this)
        clear heq hlt hi
        go_wp2_with fail
        go_ret
        exact ⟨by rw [hdec.out]; rfl, q, rfl⟩
  · have hd : decide (a = b) = false := by simp only [decide_eq_false_iff_not]; intro e; exact hl (by rw [e])
    rw [hd]
    have hb : ((a.length : Int) != (b.length : Int)) = true := by simp; omega
    clear k3 j3 ha hb hd
    go_enter Try.func102, Try.ntmps102
    go_wp2_with fail
    go_ret
    exact ⟨rfl, 0, rfl⟩
end Go.Proofs.Ytinlmodkdjpocaa

set_option linter.unusedVariables false
namespace Go.Proofs.Ytinlmodkdjpocaa
open Go.RowKit

theorem mayE_zero (ds : List (List UInt8)) : mayE ds = 0 ↔ okDs ds := by
  unfold mayE okDs
  by_cases h1 : 500 < ds.length
  · rw [if_pos h1]; constructor
    · intro h; exact absurd h (by decide)
    · intro h; omega
  · rw [if_neg h1]
    by_cases h2 : ∃ d ∈ ds, 2000 < d.length
    · rw [if_pos h2]; constructor
      · intro h; exact absurd h (by decide)
      · intro h; obtain ⟨d, hd, hl⟩ := h2; have := h.2.1 d hd; omega
    · rw [if_neg h2]
      by_cases h3 : 60000 < (rowOf ds).length
      · rw [if_pos h3]; constructor
        · intro h; exact absurd h (by decide)
        · intro h; omega
      · rw [if_neg h3]; constructor
        · intro _; exact ⟨by omega, fun d hd => Nat.le_of_not_lt (fun hl => h2 ⟨d, hd, hl⟩), by omega⟩
        · intro _; rfl
/-- what bwt.Docs says of a row -/
def docsE (L : List Nat) : Nat := if 60500 < L.length ∨ L.any (fun x => decide (256 < x)) = true then 1 else if docsP L = none then 3 else 0
def DocsPost (L : List Nat) (w : World) (e : Ending) (w' : World) : Prop :=
  Below w.heap.size w w' ∧ ((docsE L ≠ 0 ∧ e = .returned (.tuple #[.slice none 0 0, .int .i64 (docsE L : Nat)])) ∨ (docsE L = 0 ∧ ∃ ds v, docsP L = some ds ∧ e = .returned (.tuple #[v, .int .i64 0]) ∧ DocsR w' v ds))

theorem bwt_docs_one (v : Value) (L : List Nat) (w : World) (h : SlR symV w v L) (hm : ∀ x ∈ L, x ≤ 65535) (hbad : 60500 < L.length ∨ L.any (fun x => decide (256 < x)) = true) :
    Calls Try.prog 72 #[v] w (DocsPost L w) := by
  have hE : docsE L = 1 := by unfold docsE; rw [if_pos hbad]
  obtain ⟨A, c, rfl, k1, k2, k3⟩ := h.form
  have hcon := Lib.hid (contains_bw _ L w h hm)
  clear k3 h hm
  have HE := Lib.hid hE
  obtain ⟨N, hN⟩ : ∃ N, N = L.length := ⟨_, rfl⟩
  rw [← hN] at hbad hcon k1 ⊢
  have hn : N ≤ 9223372036854775807 := by omega
  clear hN hE
  by_cases hbig : 60500 < N
  · clear hbad
    go_enter Try.func72, Try.ntmps72
    go_wp2_with fail
    go_ret2
    exact ⟨Below.refl _ _, .inl ⟨by rw [HE.out]; decide, by rw [HE.out]; rfl⟩⟩
  · have hany : L.any (fun x => decide (256 < x)) = true := by rcases hbad with h | h; exact absurd h hbig; exact h
    rw [hany] at hcon
    clear hbad hany
    go_enter Try.func72, Try.ntmps72
    go_wp2_with fail
    refine hcon.out.mono ?_
    rintro e w0 ⟨rfl, rfl⟩
    go_wp2_with fail
    go_ret2
    exact ⟨Below.refl _ _, .inl ⟨by rw [HE.out]; decide, by rw [HE.out]; rfl⟩⟩

set_option maxHeartbeats 2000000 in
theorem bwt_docs_good (v : Value) (L : List Nat) (w : World) (h : SlR symV w v L) (hn : L.length ≤ 60500) (hm : ∀ x ∈ L, x ≤ 256) :
    Calls Try.prog 72 #[v] w (DocsPost L w) := by
  have hany : L.any (fun x => decide (256 < x)) = false := by
    rw [List.any_eq_false]; intro x hx; have := hm x hx; simp; omega
  have hE : docsE L = if docsP L = none then 3 else 0 := by
    unfold docsE; rw [if_neg]; rw [hany]; intro h; rcases h with h | h; omega; cases h
  obtain ⟨A, c, rfl, k1, k2, k3⟩ := h.form
  have hcon := contains_bw _ L w h (fun x hx => by have := hm x hx; omega)
  rw [hany] at hcon
  have HCon := Lib.hid hcon
  have hread := Lib.hid (bwt_read _ L w h hm (by omega))
  have HS := Lib.hid h
  have hP : docsP L = match readA L (L.count 0) 0 L.length [] with | none => none | some (ds, left) => if left = 0 ∧ okDs ds ∧ bwtOf (rowOf ds) = L then some ds else none := by
    unfold docsP readP
    cases readA L (L.count 0) 0 L.length [] with
    | none => rfl
    | some x =>
      obtain ⟨ds, left⟩ := x
      simp only
      by_cases h0 : left = 0
      · rw [if_pos h0]
        simp only [h0, true_and]
      · rw [if_neg h0, if_neg (fun h => h0 h.1)]
  obtain ⟨RES, hRES⟩ : ∃ RES, RES = readA L (L.count 0) 0 L.length [] := ⟨_, rfl⟩
  rw [← hRES] at hP hread
  have HE := Lib.hid hE
  have HP := Lib.hid hP
  clear k3 h hm hany hcon hE hP hRES
  obtain ⟨N, hN⟩ : ∃ N, N = L.length := ⟨_, rfl⟩
  rw [← hN] at HCon hread HS hn k1 ⊢
  clear hN
  go_enter Try.func72, Try.ntmps72
  go_wp2_with fail
  refine HCon.out.mono ?_
  rintro e w0 ⟨rfl, rfl⟩
  go_wp2_with fail
  refine hread.out.mono ?_
  rintro e w1 ⟨hb1, ⟨hnone, rfl⟩ | ⟨ds, left, v1, hsome, rfl, hd1⟩⟩
  · have h3 : Hid (docsE L = 3) := Lib.hid (by rw [HE.out, if_pos]; rw [HP.out, hnone])
    have HB1 := Lib.hid hb1
    clear hb1 hnone
    go_wp2_with fail
    go_ret2
    exact ⟨HB1.out, .inl ⟨by rw [h3.out]; decide, by rw [h3.out]; rfl⟩⟩
  · rw [hsome] at HP
    obtain ⟨A1, c1, rfl, m1, m2, _⟩ := hd1.form
    have HD1 := Lib.hid hd1
    have HB1 := Lib.hid hb1
    by_cases h0 : left = 0
    · have hd0 : decide (left = 0) = true := by simpa using h0
      rw [hd0]
      have hnew := Lib.hid (text_new ds _ w1 hd1)
      have hm0 := mayE_zero ds
      have HP2 : Hid (docsP L = if okDs ds ∧ bwtOf (rowOf ds) = L then some ds else none) := Lib.hid (by rw [HP.out]; simp only [h0, true_and])
      clear hsome hd1 hb1 h0 hd0 HP
      go_wp2_with fail
      refine hnew.out.mono ?_
      rintro e w2 ⟨hb2, ⟨hne, rfl⟩ | ⟨hz, b, hb, rfl, ht⟩⟩
      · have h3 : Hid (docsE L = 3) := Lib.hid (by
          rw [HE.out, if_pos]; rw [HP2.out, if_neg]; intro h; exact hne (hm0.2 h.1))
        have hb2' : Hid (Below w0.heap.size w0 w2) := Lib.hid (HB1.out.trans (hb2.mono HB1.out.size))
        have hq : ((mayE ds : Int) != 0) = true := by simp; omega
        clear hb2 hm0 hne
        generalize mayE ds = E at *
        go_wp2_with fail
        go_ret2
        exact ⟨hb2'.out, .inl ⟨by rw [h3.out]; decide, by rw [h3.out]; rfl⟩⟩
      · have hok := hm0.1 hz
        have hof := Lib.hid (bwt_of b ds w2 ht hok.2.2 hok.1)
        have hb2' : Hid (Below w0.heap.size w0 w2) := Lib.hid (HB1.out.trans (hb2.mono HB1.out.size))
        have HD2 : Hid (DocsR w2 (.slice A1 ds.length c1) ds) := Lib.hid (HD1.out.below (Nat.le_refl _) hb2)
        have HOk := Lib.hid hok
        clear hb2 hm0 hz ht hok hnew
        go_wp2_with fail
        refine hof.out.mono ?_
        rintro e w3 ⟨A3, rfl, hs3, hb3⟩
        have hb3' : Hid (Below w0.heap.size w0 w3) := Lib.hid (hb2'.out.trans (hb3.mono hb2'.out.size))
        have HD3 : Hid (DocsR w3 (.slice A1 ds.length c1) ds) := Lib.hid (HD2.out.below (Nat.le_refl _) hb3)
        have heq := Lib.hid (equal_sy _ _ (bwtOf (rowOf ds)) L w3 hs3 (HS.out.below (Nat.le_refl _) hb3'.out))
        clear hb3 hs3 hof
        by_cases hL : bwtOf (rowOf ds) = L
        · have hdL : decide (bwtOf (rowOf ds) = L) = true := by simpa using hL
          rw [hdL] at heq
          have HPs : Hid (docsP L = some ds) := Lib.hid (by rw [HP2.out, if_pos ⟨HOk.out, hL⟩])
          have HE0 : Hid (docsE L = 0) := Lib.hid (by rw [HE.out, if_neg]; rw [HPs.out]; intro h; cases h)
          clear hL hdL
          generalize (bwtOf (rowOf ds)).length = K at *
          go_wp2_with fail
          refine heq.out.mono ?_
          rintro e w4 ⟨rfl, q, rfl⟩
          have hclip := Lib.hid (clip_ds A1 ds.length c1 (w3.drewN q) m1 m2)
          go_wp2_with fail
          refine hclip.out.mono ?_
          rintro e w5 ⟨rfl, rfl⟩
          go_wp2_with fail
          go_ret2
          refine ⟨below_drewN hb3'.out q, .inr ⟨HE0.out, ds, _, HPs.out, rfl, ?_⟩⟩
          have h1 : DocsR (w3.drewN q) (.slice A1 ds.length c1) ds := HD3.out.below (Nat.le_refl _) (below_drewN (Below.refl _ _) q)
          obtain ⟨vs, a1, a2, a3⟩ := h1
          exact ⟨vs, a1, a2.clip, a3⟩
        · have hdL : decide (bwtOf (rowOf ds) = L) = false := by simpa using hL
          rw [hdL] at heq
          have HPn : Hid (docsP L = none) := Lib.hid (by rw [HP2.out, if_neg (fun h => hL h.2)])
          have HE3 : Hid (docsE L = 3) := Lib.hid (by rw [HE.out, if_pos HPn.out])
          clear hL hdL
          generalize (bwtOf (rowOf ds)).length = K at *
          go_wp2_with fail
          refine heq.out.mono ?_
          rintro e w4 ⟨rfl, q, rfl⟩
          go_wp2_with fail
          go_ret2
          exact ⟨below_drewN hb3'.out q, .inl ⟨by rw [HE3.out]; decide, by rw [HE3.out]; rfl⟩⟩
    · have hd0 : decide (left = 0) = false := by simpa using h0
      rw [hd0]
      have h3 : Hid (docsE L = 3) := Lib.hid (by rw [HE.out, if_pos]; rw [HP.out]; simp only [h0, false_and, if_false])
      clear hsome hd1 hb1 h0 hd0 HP
      go_wp2_with fail
      go_ret2
      exact ⟨HB1.out, .inl ⟨by rw [h3.out]; decide, by rw [h3.out]; rfl⟩⟩
/-- bwt.Docs, at any row -/
theorem bwt_docs (v : Value) (L : List Nat) (w : World) (h : SlR symV w v L) (hm : ∀ x ∈ L, x ≤ 65535) : Calls Try.prog 72 #[v] w (DocsPost L w) := by
  by_cases hbad : 60500 < L.length ∨ L.any (fun x => decide (256 < x)) = true
  · exact bwt_docs_one v L w h hm hbad
  · refine bwt_docs_good v L w h (by omega) (fun x hx => ?_)
    have : L.any (fun x => decide (256 < x)) = false := by
      cases hh : L.any (fun x => decide (256 < x)) with
      | false => rfl
      | true => exact absurd (.inr hh) hbad
    rw [List.any_eq_false] at this
    have := this x hx
    simp at this; exact this
end Go.Proofs.Ytinlmodkdjpocaa
