/- text: the laws' own helpers: Few, subset, SameHits; Place, At. -/
import Derived.Test.YtinlmodkdjpocaaTxf
import Derived.Laws.StructEq
import Derived.BigQuiet
import Derived.Deep.QuietTactic
set_option linter.unusedVariables false
namespace Go.Proofs.Ytinlmodkdjpocaa
open Go.RowKit Go.Shelf

/-- how many bytes documents have -/
def sumLen (ds : List (List UInt8)) : Nat := (ds.map List.length).sum
theorem sumLen_take_succ (ds : List (List UInt8)) (k : Nat) (h : k < ds.length) : sumLen (ds.take (k + 1)) = sumLen (ds.take k) + ds[k].length := by
  rw [List.take_succ_eq_append_getElem h]; simp only [sumLen, List.map_append, List.sum_append]; rfl
/-- documents are few, and short -/
def fewB (ds : List (List UInt8)) : Bool := (ds.take 41).all (fun d => d.length ≤ 2000) && decide (ds.length ≤ 40) && decide (sumLen ds ≤ 3000)

theorem sumLen_le (ds : List (List UInt8)) (h : ∀ d ∈ ds, d.length ≤ 2000) : sumLen ds ≤ 2000 * ds.length := by
  induction ds with
  | nil => simp [sumLen]
  | cons d ds ih =>
    have h1 := h d (by simp)
    have h2 := ih (fun x hx => h x (by simp [hx]))
    simp only [sumLen, List.map_cons, List.sum_cons, List.length_cons] at h2 ⊢
    omega

set_option maxRecDepth 100000 in
set_option maxHeartbeats 1000000 in
theorem law_few (ds : List (List UInt8)) (v : Value) (w : World) (hd : DocsR w v ds) :
    Calls Try.prog 20 #[v] w fun e w' => e = .returned (.bool (fewB ds)) ∧ w' = w := by
  obtain ⟨A, c, rfl, h1, h2, h3⟩ := hd.form
  have H3 := Lib.hid h3; clear h3
  clear hd
  obtain ⟨R0, hR0⟩ : ∃ R0, fewB ds = R0 := ⟨_, rfl⟩
  rw [hR0]
  have HR0 := Lib.hid hR0
  clear hR0
  go_enter Try.func20, Try.ntmps20
  go_wp2
  go_loop [3, 4] (fun n i => ∃ k : Nat, k ≤ ds.length ∧ k ≤ 41 ∧ i = .int .i64 k ∧ n = .int .i64 (sumLen (ds.take k) : Nat) ∧ Hid (∀ d ∈ ds.take k, d.length ≤ 2000)) (fun _ i => ds.length - (intOf i).toNat)
  case atStart => exact ⟨0, Nat.zero_le _, by omega, rfl, rfl, Lib.hid (by simp)⟩
  case round =>
    obtain ⟨k, hk, hk41, rfl, rfl, hm⟩ := hrel
    have hb := sumLen_le _ hm.out
    have hb2 : (ds.take k).length ≤ 41 := by simp; omega
    by_cases hlt : k < ds.length ∧ k ≤ 40
    · obtain ⟨hlt, hk40⟩ := hlt
      obtain ⟨ad, B, c', rfl, hc, hs⟩ := H3.out k hlt
      have hsucc := Lib.hid (sumLen_take_succ ds k hlt)
      have HT := Lib.hid (show ds.take (k + 1) = ds.take k ++ [ds[k]] from List.take_succ_eq_append_getElem hlt)
      have HM : Hid (ds[k] ∈ ds.take 41) := Lib.hid (by
        have : ds[k] = (ds.take 41)[k]'(by simp; omega) := by simp
        rw [this]; exact List.getElem_mem _)
      clear hs
      generalize hdk : ds[k] = dk at *
      clear hdk
      generalize hR : sumLen (ds.take k) = R at *
      clear hR
      by_cases hlong : 2000 < dk.length
      · have hE : fewB ds = false := by
          unfold fewB
          have : (ds.take 41).all (fun d => decide (d.length ≤ 2000)) = false := by
            rw [List.all_eq_false]
            exact ⟨dk, HM.out, by simpa using hlong⟩
          rw [this]; rfl
        rw [HR0.out] at hE
        subst hE
        go_wp2
        go_ret
        exact ⟨rfl, rfl⟩
      · go_wp2
        go_round
        case rel =>
          refine ⟨k + 1, by omega, by omega, by go_num, ?_, ?_⟩
          · rw [hsucc.out]; go_num
          · refine Lib.hid ?_
            rw [HT.out]
            intro d hd
            rw [List.mem_append, List.mem_singleton] at hd
            rcases hd with hd | rfl
            · exact hm.out d hd
            · omega
        case measure => simp [intOf]; omega
    · have hE : fewB ds = (decide (ds.length ≤ 40) && decide (sumLen (ds.take k) ≤ 3000)) := by
        unfold fewB
        by_cases h40 : ds.length ≤ 40
        · have hk' : k = ds.length := by omega
          have ha : (ds.take 41).all (fun d => decide (d.length ≤ 2000)) = true := by
            rw [List.all_eq_true]
            intro d hd
            have := hm.out d (by rw [hk', List.take_length]; exact List.mem_of_mem_take hd)
            simpa using this
          rw [ha, hk', List.take_length]; simp
        · simp [h40]
      rw [HR0.out] at hE
      generalize hR : sumLen (ds.take k) = R at *
      clear hR HR0
      have HE := Lib.hid hE
      clear hE
      by_cases h40 : ds.length ≤ 40
      · have hk' : k = ds.length := by omega
        subst hk'
        go_wp2
        go_ret
        exact ⟨by rw [HE.out]; simp [h40]; try omega, rfl⟩
      · by_cases hl : k < ds.length
        · have hk' : k = 41 := by omega
          subst hk'
          go_wp2
          go_ret
          exact ⟨by rw [HE.out]; simp [h40]; try omega, rfl⟩
        · have hk' : k = ds.length := by omega
          subst hk'
          go_wp2
          go_ret
          exact ⟨by rw [HE.out]; simp [h40]; try omega, rfl⟩

theorem text_place (b : Nat) (ds : List (List UInt8)) (d o : Nat) (w : World) (h : TextR w b ds) (hd : d < ds.length) (ho : o ≤ ds[d].length) (hbig : o ≤ 100000000) (hst : (startsOf ds)[d]'(by rw [startsOf_length]; exact hd) ≤ 100000000) :
    Calls Try.prog 30 #[.pointer (some ⟨b, 0, none⟩), .int .i64 d, .int .i64 o] w fun e w' => e = .returned (.tuple #[.int .i64 ((startsOf ds)[d]'(by rw [startsOf_length]; exact hd) + o : Nat), .bool true]) ∧ w' = w := by
  obtain ⟨dv, av, rv, h0, h1, h2, hdd, ha, h3⟩ := h.cells
  obtain ⟨A, c, rfl, h4, h5, h6⟩ := hdd.form
  obtain ⟨A2, c2, rfl, h7, h8, h9⟩ := ha.form
  obtain ⟨ad, B, c', rfl, hc, -⟩ := h6 d hd
  obtain ⟨ad2, rfl, hc2⟩ := h9 d (by rw [startsOf_length]; exact hd)
  have hc3 : w.cell? (ad2.add d) = some (.int .i64 ((startsOf ds)[d]'(by rw [startsOf_length]; exact hd) : Nat)) := hc2
  generalize hS : (startsOf ds)[d]'(by rw [startsOf_length]; exact hd) = S at *
  rw [startsOf_length] at *
  have ho' : ds[d].length ≤ 9223372036854775807 := by
    obtain ⟨-, B', c'', e, -, hb⟩ := h6 d hd
    obtain ⟨_, _, _, h10, h11, _⟩ := hb
    omega
  generalize hL : ds[d].length = L at *
  clear h6 h9 hdd ha h3 h2 h hc2 hS hL
  go_enter Try.func30, Try.ntmps30
  go_wp2
  go_ret2
  exact ⟨by go_num, rfl⟩

theorem hit_second {w : World} {ad : Addr} {k : Nat} {v : Value} (h : w.cell? (ad.add (k + 1)) = some v) : w.cell? ⟨(ad.add k).block, (ad.add k).off + 1, none⟩ = some v := by
  rw [← addr_add_add] at h; exact h
set_option maxRecDepth 100000 in
set_option maxHeartbeats 1000000 in
/-- SameHits at two rows that are the same. -/
theorem same_hits (va vb : Value) (hs : List (Nat × Nat)) (w : World) (ha : HitsR w va hs) (hb : HitsR w vb hs) :
    Calls Try.prog 29 #[va, vb] w fun e w' => e = .returned (.bool true) ∧ ∃ q, w' = w.drewN q := by
  obtain ⟨A, c, rfl, h1, h2, -⟩ := id ha
  obtain ⟨B, c', rfl, h3, h4, -⟩ := id hb
  have HA := Lib.hid ha
  have HB := Lib.hid hb
  clear ha hb
  go_enter Try.func29, Try.ntmps29
  go_wp2
  go_loopw [5] (fun i wr => ∃ k : Nat, k ≤ hs.length ∧ i = .int .i64 k ∧ ∃ q, wr = w.drewN q) (fun i _ => hs.length - (intOf i).toNat)
  case atStart => exact ⟨0, Nat.zero_le _, rfl, 0, rfl⟩
  case round =>
    obtain ⟨k, hk, rfl, q, rfl⟩ := hrel
    by_cases hlt : k < hs.length
    · obtain ⟨ad, rfl, ha1, ha2⟩ := HA.out.at_ k hlt
      obtain ⟨ad2, rfl, hb1, hb2⟩ := HB.out.at_ k hlt
      clear HA HB
      simp only [natV] at ha1 ha2 hb1 hb2
      generalize hs[k].1 = x1 at *
      generalize hs[k].2 = x2 at *
      have ha3 := hit_second ha2
      have hb3 := hit_second hb2
      go_wp2
      go_quiet (fail)
      go_wp2
      go_roundw
      case rel => exact ⟨k + 1, by omega, by go_num, _, rfl⟩
      case measure => simp [intOf]; omega
    · have hk' : k = hs.length := by omega
      subst hk'
      go_wp2
      go_ret
      exact ⟨rfl, q, rfl⟩

/-- the row a is among the row b, in order -/
theorem sublist_step {a b : List (Nat × Nat)} {x y : Nat × Nat} (h : (x :: a).Sublist (y :: b)) (hne : y ≠ x) : (x :: a).Sublist b := by
  cases h with
  | cons _ h => exact h
  | cons_cons _ h => exact absurd rfl hne

set_option maxRecDepth 100000 in
set_option maxHeartbeats 1000000 in
/-- subset at two rows of which the first is among the second, in order. -/
theorem law_subset (va vb : Value) (a b : List (Nat × Nat)) (w : World) (ha : HitsR w va a) (hb : HitsR w vb b) (hs : a.Sublist b) :
    Calls Try.prog 26 #[va, vb] w fun e w' => e = .returned (.bool true) ∧ ∃ q, w' = w.drewN q := by
  obtain ⟨A, c, rfl, h1, h2, -⟩ := id ha
  obtain ⟨B, c', rfl, h3, h4, -⟩ := id hb
  have HA := Lib.hid ha
  have HB := Lib.hid hb
  have HS := Lib.hid hs
  clear ha hb hs
  go_enter Try.func26, Try.ntmps26
  go_wp2
  go_loopw [5, 6] (fun kv iv wr => ∃ k i : Nat, i ≤ a.length ∧ k ≤ b.length ∧ iv = .int .i64 i ∧ kv = .int .i64 k ∧ Hid ((a.drop i).Sublist (b.drop k)) ∧ ∃ q, wr = w.drewN q) (fun _ iv _ => a.length - (intOf iv).toNat)
  case atStart => exact ⟨0, 0, Nat.zero_le _, Nat.zero_le _, rfl, rfl, HS, 0, rfl⟩
  case round =>
    obtain ⟨k, i, hi, hk, rfl, rfl, hsub, q, rfl⟩ := hrel
    by_cases hlt : i < a.length
    · go_wp2
      go_loopw [5] (fun kv wr => ∃ k : Nat, k ≤ b.length ∧ kv = .int .i64 k ∧ Hid ((a.drop i).Sublist (b.drop k)) ∧ ∃ q, wr = w.drewN q) (fun kv _ => b.length - (intOf kv).toNat)
      case atStart => exact ⟨k, hk, rfl, hsub, q, rfl⟩
      case round =>
        obtain ⟨k, hk, rfl, hsub, q, rfl⟩ := hrel
        have hda := Lib.hid (List.drop_eq_getElem_cons hlt)
        by_cases hlk : k < b.length
        · have hdb := Lib.hid (List.drop_eq_getElem_cons hlk)
          obtain ⟨ad, rfl, ha1, ha2⟩ := HA.out.at_ i hlt
          obtain ⟨ad2, rfl, hb1, hb2⟩ := HB.out.at_ k hlk
          simp only [natV] at ha1 ha2 hb1 hb2
          generalize a[i] = x at *
          generalize b[k] = y at *
          obtain ⟨x1, x2⟩ := x
          obtain ⟨y1, y2⟩ := y
          simp only at ha1 ha2 hb1 hb2
          have ha3 := hit_second ha2
          have hb3 := hit_second hb2
          by_cases hxy : y1 = x1 ∧ y2 = x2
          · obtain ⟨rfl, rfl⟩ := hxy
            go_wp2
            go_quiet (fail)
            go_wp2
            go_roundw
            case rel => exact ⟨k, i + 1, by omega, by omega, by go_num, rfl, Lib.hid (by have h := hsub.out; rw [hda.out] at h; exact (List.sublist_cons_self _ _).trans h), _, rfl⟩
            case measure => simp [intOf]; omega
          · by_cases h1 : y1 = x1
            · subst h1
              have hne : ¬ ((y2 : Nat) : Int) = (x2 : Nat) := fun h => hxy ⟨rfl, by omega⟩
              have hne2 : (((y2 : Nat) : Int) == (x2 : Nat)) = false := by simpa using hne
              go_wp2
              go_quiet (fail)
              go_wp2
              go_roundw
              case rel => exact ⟨k + 1, by omega, by go_num, Lib.hid (by have h := hsub.out; rw [hda.out, hdb.out] at h; rw [hda.out]; exact sublist_step h (fun e => by cases e; exact hne rfl)), _, rfl⟩
              case measure => simp [intOf]; omega
            · have hne : ¬ ((y1 : Nat) : Int) = (x1 : Nat) := fun h => h1 (by omega)
              have hne2 : (((y1 : Nat) : Int) == (x1 : Nat)) = false := by simpa using hne
              go_wp2
              go_quiet (fail)
              go_wp2
              go_roundw
              case rel => exact ⟨k + 1, by omega, by go_num, Lib.hid (by have h := hsub.out; rw [hda.out, hdb.out] at h; rw [hda.out]; exact sublist_step h (fun e => by cases e; exact hne rfl)), _, rfl⟩
              case measure => simp [intOf]; omega
        · exfalso
          have hk' : k = b.length := by omega
          have h := hsub.out
          rw [hda.out, hk', List.drop_length] at h
          cases h
    · have hi' : i = a.length := by omega
      subst hi'
      go_wp2
      go_ret
      exact ⟨rfl, q, rfl⟩
end Go.Proofs.Ytinlmodkdjpocaa
