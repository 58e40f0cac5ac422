/- text: the laws' own helpers: Few, subset, SameHits; Place, At. text: At. text: what the document fixes (awake). -/
import Derived.Test.YtinlmodkdjpocaaTxy
import Derived.Laws.StructEq
import Derived.BigQuiet
import Derived.Deep.QuietTactic
import Derived.Test.YtinlmodkdjpocaaTpl
import Derived.Lib.SlBytesConst
import Derived.Lib.SlBytesRow
import Derived.WalkSmall
set_option linter.unusedVariables false
namespace Go.Proofs.Ytinlmodkdjpocaa
open Go.RowKit Go.Shelf

/-- how many bytes documents have -/
def sumLen (ds : List (List UInt8)) : Nat := (ds.map List.length).sum
theorem sumLen_take_succ (ds : List (List UInt8)) (k : Nat) (h : k < ds.length) : sumLen (ds.take (k + 1)) = sumLen (ds.take k) + ds[k].length := by
  rw [List.take_succ_eq_append_getElem h]; simp only [sumLen, List.map_append, List.sum_append]; rfl
/-- documents are few, and short -/
def fewB (ds : List (List UInt8)) : Bool := (ds.take 41).all (fun d => d.length ≤ 2000) && decide (ds.length ≤ 40) && decide (sumLen ds ≤ 3000)

theorem sumLen_le (ds : List (List UInt8)) (h : ∀ d ∈ ds, d.length ≤ 2000) : sumLen ds ≤ 2000 * ds.length := by
  induction ds with
  | nil => simp [sumLen]
  | cons d ds ih =>
    have h1 := h d (by simp)
    have h2 := ih (fun x hx => h x (by simp [hx]))
    simp only [sumLen, List.map_cons, List.sum_cons, List.length_cons] at h2 ⊢
    omega

set_option maxRecDepth 100000 in
set_option maxHeartbeats 1000000 in
theorem law_few (ds : List (List UInt8)) (v : Value) (w : World) (hd : DocsR w v ds) :
    Calls Try.prog 20 #[v] w fun e w' => e = .returned (.bool (fewB ds)) ∧ w' = w := by
  obtain ⟨A, c, rfl, h1, h2, h3⟩ := hd.form
  have H3 := Lib.hid h3; clear h3
  clear hd
  obtain ⟨R0, hR0⟩ : ∃ R0, fewB ds = R0 := ⟨_, rfl⟩
  rw [hR0]
  have HR0 := Lib.hid hR0
  clear hR0
  go_enter Try.func20, Try.ntmps20
  go_wp2
  go_loop [3, 4] (fun n i => ∃ k : Nat, k ≤ ds.length ∧ k ≤ 41 ∧ i = .int .i64 k ∧ n = .int .i64 (sumLen (ds.take k) : Nat) ∧ Hid (∀ d ∈ ds.take k, d.length ≤ 2000)) (fun _ i => ds.length - (intOf i).toNat)
  case atStart => exact ⟨0, Nat.zero_le _, by omega, rfl, rfl, Lib.hid (by simp)⟩
  case round =>
    obtain ⟨k, hk, hk41, rfl, rfl, hm⟩ := hrel
    have hb := sumLen_le _ hm.out
    have hb2 : (ds.take k).length ≤ 41 := by simp; omega
    by_cases hlt : k < ds.length ∧ k ≤ 40
    · obtain ⟨hlt, hk40⟩ := hlt
      obtain ⟨ad, B, c', rfl, hc, hs⟩ := H3.out k hlt
      have hsucc := Lib.hid (sumLen_take_succ ds k hlt)
      have HT := Lib.hid (show ds.take (k + 1) = ds.take k ++ [ds[k]] from List.take_succ_eq_append_getElem hlt)
      have HM : Hid (ds[k] ∈ ds.take 41) := Lib.hid (by
        have : ds[k] = (ds.take 41)[k]'(by simp; omega) := by simp
        rw [this]; exact List.getElem_mem _)
      clear hs
      generalize hdk : ds[k] = dk at *
      clear hdk
      generalize hR : sumLen (ds.take k) = R at *
      clear hR
      by_cases hlong : 2000 < dk.length
      · have hE : fewB ds = false := by
          unfold fewB
          have : (ds.take 41).all (fun d => decide (d.length ≤ 2000)) = false := by
            rw [List.all_eq_false]
            exact ⟨dk, HM.out, by simpa using hlong⟩
          rw [this]; rfl
        rw [HR0.out] at hE
        subst hE
        go_wp2
        go_ret
        exact ⟨rfl, rfl⟩
      · go_wp2
        go_round
        case rel =>
          refine ⟨k + 1, by omega, by omega, by go_num, ?_, ?_⟩
          · rw [hsucc.out]; go_num
          · refine Lib.hid ?_
            rw [HT.out]
            intro d hd
            rw [List.mem_append, List.mem_singleton] at hd
            rcases hd with hd | rfl
            · exact hm.out d hd
            · omega
        case measure => simp [intOf]; omega
    · have hE : fewB ds = (decide (ds.length ≤ 40) && decide (sumLen (ds.take k) ≤ 3000)) := by
        unfold fewB
        by_cases h40 : ds.length ≤ 40
        · have hk' : k = ds.length := by omega
          have ha : (ds.take 41).all (fun d => decide (d.length ≤ 2000)) = true := by
            rw [List.all_eq_true]
            intro d hd
            have := hm.out d (by rw [hk', List.take_length]; exact List.mem_of_mem_take hd)
            simpa using this
          rw [ha, hk', List.take_length]; simp
        · simp [h40]
      rw [HR0.out] at hE
      generalize hR : sumLen (ds.take k) = R at *
      clear hR HR0
      have HE := Lib.hid hE
      clear hE
      by_cases h40 : ds.length ≤ 40
      · have hk' : k = ds.length := by omega
        subst hk'
        go_wp2
        go_ret
        exact ⟨by rw [HE.out]; simp [h40]; try omega, rfl⟩
      · by_cases hl : k < ds.length
        · have hk' : k = 41 := by omega
          subst hk'
          go_wp2
          go_ret
          exact ⟨by rw [HE.out]; simp [h40]; try omega, rfl⟩
        · have hk' : k = ds.length := by omega
          subst hk'
          go_wp2
          go_ret
          exact ⟨by rw [HE.out]; simp [h40]; try omega, rfl⟩

theorem text_place (b : Nat) (ds : List (List UInt8)) (d o : Nat) (w : World) (h : TextR w b ds) (hd : d < ds.length) (ho : o ≤ ds[d].length) (hbig : o ≤ 100000000) (hst : (startsOf ds)[d]'(by rw [startsOf_length]; exact hd) ≤ 100000000) :
    Calls Try.prog 30 #[.pointer (some ⟨b, 0, none⟩), .int .i64 d, .int .i64 o] w fun e w' => e = .returned (.tuple #[.int .i64 ((startsOf ds)[d]'(by rw [startsOf_length]; exact hd) + o : Nat), .bool true]) ∧ w' = w := by
  obtain ⟨dv, av, rv, h0, h1, h2, hdd, ha, h3⟩ := h.cells
  obtain ⟨A, c, rfl, h4, h5, h6⟩ := hdd.form
  obtain ⟨A2, c2, rfl, h7, h8, h9⟩ := ha.form
  obtain ⟨ad, B, c', rfl, hc, -⟩ := h6 d hd
  obtain ⟨ad2, rfl, hc2⟩ := h9 d (by rw [startsOf_length]; exact hd)
  have hc3 : w.cell? (ad2.add d) = some (.int .i64 ((startsOf ds)[d]'(by rw [startsOf_length]; exact hd) : Nat)) := hc2
  generalize hS : (startsOf ds)[d]'(by rw [startsOf_length]; exact hd) = S at *
  rw [startsOf_length] at *
  have ho' : ds[d].length ≤ 9223372036854775807 := by
    obtain ⟨-, B', c'', e, -, hb⟩ := h6 d hd
    obtain ⟨_, _, _, h10, h11, _⟩ := hb
    omega
  generalize hL : ds[d].length = L at *
  clear h6 h9 hdd ha h3 h2 h hc2 hS hL
  go_enter Try.func30, Try.ntmps30
  go_wp2
  go_ret2
  exact ⟨by go_num, rfl⟩

theorem hit_second {w : World} {ad : Addr} {k : Nat} {v : Value} (h : w.cell? (ad.add (k + 1)) = some v) : w.cell? ⟨(ad.add k).block, (ad.add k).off + 1, none⟩ = some v := by
  rw [← addr_add_add] at h; exact h
set_option maxRecDepth 100000 in
set_option maxHeartbeats 1000000 in
/-- SameHits at two rows that are the same. -/
theorem same_hits (va vb : Value) (hs : List (Nat × Nat)) (w : World) (ha : HitsR w va hs) (hb : HitsR w vb hs) :
    Calls Try.prog 29 #[va, vb] w fun e w' => e = .returned (.bool true) ∧ ∃ q, w' = w.drewN q := by
  obtain ⟨A, c, rfl, h1, h2, -⟩ := id ha
  obtain ⟨B, c', rfl, h3, h4, -⟩ := id hb
  have HA := Lib.hid ha
  have HB := Lib.hid hb
  clear ha hb
  go_enter Try.func29, Try.ntmps29
  go_wp2
  go_loopw [5] (fun i wr => ∃ k : Nat, k ≤ hs.length ∧ i = .int .i64 k ∧ ∃ q, wr = w.drewN q) (fun i _ => hs.length - (intOf i).toNat)
  case atStart => exact ⟨0, Nat.zero_le _, rfl, 0, rfl⟩
  case round =>
    obtain ⟨k, hk, rfl, q, rfl⟩ := hrel
    by_cases hlt : k < hs.length
    · obtain ⟨ad, rfl, ha1, ha2⟩ := HA.out.at_ k hlt
      obtain ⟨ad2, rfl, hb1, hb2⟩ := HB.out.at_ k hlt
      clear HA HB
      simp only [natV] at ha1 ha2 hb1 hb2
      generalize hs[k].1 = x1 at *
      generalize hs[k].2 = x2 at *
      have ha3 := hit_second ha2
      have hb3 := hit_second hb2
      go_wp2
      go_quiet (fail)
      go_wp2
      go_roundw
      case rel => exact ⟨k + 1, by omega, by go_num, _, rfl⟩
      case measure => simp [intOf]; omega
    · have hk' : k = hs.length := by omega
      subst hk'
      go_wp2
      go_ret
      exact ⟨rfl, q, rfl⟩

/-- the row a is among the row b, in order -/
theorem sublist_step {a b : List (Nat × Nat)} {x y : Nat × Nat} (h : (x :: a).Sublist (y :: b)) (hne : y ≠ x) : (x :: a).Sublist b := by
  cases h with
  | cons _ h => exact h
  | cons_cons _ h => exact absurd rfl hne

set_option maxRecDepth 100000 in
set_option maxHeartbeats 1000000 in
/-- subset at two rows of which the first is among the second, in order. -/
theorem law_subset (va vb : Value) (a b : List (Nat × Nat)) (w : World) (ha : HitsR w va a) (hb : HitsR w vb b) (hs : a.Sublist b) :
    Calls Try.prog 26 #[va, vb] w fun e w' => e = .returned (.bool true) ∧ ∃ q, w' = w.drewN q := by
  obtain ⟨A, c, rfl, h1, h2, -⟩ := id ha
  obtain ⟨B, c', rfl, h3, h4, -⟩ := id hb
  have HA := Lib.hid ha
  have HB := Lib.hid hb
  have HS := Lib.hid hs
  clear ha hb hs
  go_enter Try.func26, Try.ntmps26
  go_wp2
  go_loopw [5, 6] (fun kv iv wr => ∃ k i : Nat, i ≤ a.length ∧ k ≤ b.length ∧ iv = .int .i64 i ∧ kv = .int .i64 k ∧ Hid ((a.drop i).Sublist (b.drop k)) ∧ ∃ q, wr = w.drewN q) (fun _ iv _ => a.length - (intOf iv).toNat)
  case atStart => exact ⟨0, 0, Nat.zero_le _, Nat.zero_le _, rfl, rfl, HS, 0, rfl⟩
  case round =>
    obtain ⟨k, i, hi, hk, rfl, rfl, hsub, q, rfl⟩ := hrel
    by_cases hlt : i < a.length
    · go_wp2
      go_loopw [5] (fun kv wr => ∃ k : Nat, k ≤ b.length ∧ kv = .int .i64 k ∧ Hid ((a.drop i).Sublist (b.drop k)) ∧ ∃ q, wr = w.drewN q) (fun kv _ => b.length - (intOf kv).toNat)
      case atStart => exact ⟨k, hk, rfl, hsub, q, rfl⟩
      case round =>
        obtain ⟨k, hk, rfl, hsub, q, rfl⟩ := hrel
        have hda := Lib.hid (List.drop_eq_getElem_cons hlt)
        by_cases hlk : k < b.length
        · have hdb := Lib.hid (List.drop_eq_getElem_cons hlk)
          obtain ⟨ad, rfl, ha1, ha2⟩ := HA.out.at_ i hlt
          obtain ⟨ad2, rfl, hb1, hb2⟩ := HB.out.at_ k hlk
          simp only [natV] at ha1 ha2 hb1 hb2
          generalize a[i] = x at *
          generalize b[k] = y at *
          obtain ⟨x1, x2⟩ := x
          obtain ⟨y1, y2⟩ := y
          simp only at ha1 ha2 hb1 hb2
          have ha3 := hit_second ha2
          have hb3 := hit_second hb2
          by_cases hxy : y1 = x1 ∧ y2 = x2
          · obtain ⟨rfl, rfl⟩ := hxy
            go_wp2
            go_quiet (fail)
            go_wp2
            go_roundw
            case rel => exact ⟨k, i + 1, by omega, by omega, by go_num, rfl, Lib.hid (by have h := hsub.out; rw [hda.out] at h; exact (List.sublist_cons_self _ _).trans h), _, rfl⟩
            case measure => simp [intOf]; omega
          · by_cases h1 : y1 = x1
            · subst h1
              have hne : ¬ ((y2 : Nat) : Int) = (x2 : Nat) := fun h => hxy ⟨rfl, by omega⟩
              have hne2 : (((y2 : Nat) : Int) == (x2 : Nat)) = false := by simpa using hne
              go_wp2
              go_quiet (fail)
              go_wp2
              go_roundw
              case rel => exact ⟨k + 1, by omega, by go_num, Lib.hid (by have h := hsub.out; rw [hda.out, hdb.out] at h; rw [hda.out]; exact sublist_step h (fun e => by cases e; exact hne rfl)), _, rfl⟩
              case measure => simp [intOf]; omega
            · have hne : ¬ ((y1 : Nat) : Int) = (x1 : Nat) := fun h => h1 (by omega)
              have hne2 : (((y1 : Nat) : Int) == (x1 : Nat)) = false := by simpa using hne
              go_wp2
              go_quiet (fail)
              go_wp2
              go_roundw
              case rel => exact ⟨k + 1, by omega, by go_num, Lib.hid (by have h := hsub.out; rw [hda.out, hdb.out] at h; rw [hda.out]; exact sublist_step h (fun e => by cases e; exact hne rfl)), _, rfl⟩
              case measure => simp [intOf]; omega
        · exfalso
          have hk' : k = b.length := by omega
          have h := hsub.out
          rw [hda.out, hk', List.drop_length] at h
          cases h
    · have hi' : i = a.length := by omega
      subst hi'
      go_wp2
      go_ret
      exact ⟨rfl, q, rfl⟩
end Go.Proofs.Ytinlmodkdjpocaa

set_option linter.unusedVariables false
namespace Go.Proofs.Ytinlmodkdjpocaa
open Go.RowKit Go.Shelf

theorem cell_spot {w : World} {a : Addr} {v : Value} (h : w.cell? a = some v) : a = ⟨a.block, a.off, none⟩ := by
  obtain ⟨b, o, s⟩ := a
  cases s with
  | none => rfl
  | some s => simp [World.cell?] at h; split at h <;> simp at h
theorem add_spot (b o j : Nat) : (⟨b, o, none⟩ : Addr).add j = ⟨b, o + j, none⟩ := by unfold Addr.add; split <;> simp_all

theorem search_starts (ds : List (List UInt8)) (d o : Nat) (hd : d < ds.length) (ho : o ≤ ds[d].length) (v : Value) (w : World) (h : SlR natV w v (startsOf ds)) (hbig : ds.length < 4611686018427387904) :
    Calls Try.prog 71 #[v, .int .i64 (startAt ds d + o : Nat)] w fun e w' => e = .returned (.tuple #[.int .i64 (d + (if o = 0 then 0 else 1) : Nat), .bool (decide (o = 0))]) ∧ ∃ q, w' = w.drewN q := by
  obtain ⟨A, c, rfl, h1, h2, h3⟩ := h.form
  rw [startsOf_length] at h1 ⊢
  obtain ⟨ad, rfl, h4⟩ := h3 0 (by rw [startsOf_length]; omega)
  have hsp := cell_spot h4
  have hsp' : ad = ⟨ad.block, ad.off, none⟩ := hsp
  have hc := Try.slices_BinarySearch_int ad.block ad.off ds.length c ((startsOf ds).map Int.ofNat) (startAt ds d + o : Nat) w (by simp [startsOf_length]) hbig (fun j hj => by
    rw [List.length_map] at hj
    obtain ⟨ad', e, h5⟩ := h3 j hj
    cases e
    rw [← add_spot, ← hsp', h5]
    simp [natV, List.getD, hj]) (by
    rw [List.take_of_length_le (by simp [startsOf_length])]
    exact List.Pairwise.map _ (fun a b h => Int.ofNat_le.2 h) (startsFrom_sorted 0 ds))
  rw [List.take_of_length_le (by simp [startsOf_length]), ← hsp'] at hc
  obtain ⟨e1, e2⟩ := startsFrom_find 0 ds d o _ _ ds[d] (by simp [hd]) ho (startsOf_get ds d hd) rfl
  have e3 : ((startsOf ds).map Int.ofNat).countP (fun x => decide (x < ((startAt ds d + o : Nat) : Int))) = d + (if o = 0 then 0 else 1) := by
    rw [List.countP_map, ← e1]
    unfold startsOf
    congr 1
    funext y
    simp only [Function.comp_apply]
    congr 1
    exact propext Int.ofNat_lt
  have e4 : ((startsOf ds).map Int.ofNat).contains ((startAt ds d + o : Nat) : Int) = decide (o = 0) := by
    rw [← e2]
    unfold startsOf
    rw [Bool.eq_iff_iff]
    simp only [List.contains_iff_mem, List.mem_map]
    constructor
    · rintro ⟨y, hy, he⟩
      have : y = startAt ds d + o := Int.ofNat.inj he
      rwa [← this]
    · intro hy
      exact ⟨_, hy, rfl⟩
  rw [e3, e4] at hc
  exact hc

set_option maxRecDepth 100000 in
set_option maxHeartbeats 1000000 in
theorem text_at (b : Nat) (ds : List (List UInt8)) (d o : Nat) (w : World) (h : TextR w b ds) (hd : d < ds.length) (ho : o ≤ ds[d].length) (hbig : (rowOf ds).length ≤ 100000000) (hbig2 : ds.length ≤ 100000000) :
    Calls Try.prog 31 #[.pointer (some ⟨b, 0, none⟩), .int .i64 (startAt ds d + o : Nat)] w fun e w' => e = .returned (.tuple #[.int .i64 d, .int .i64 o, .bool true]) ∧ ∃ q, w' = w.drewN q := by
  obtain ⟨dv, av, rv, h0, h1, h2, hdd, ha, hr⟩ := h.cells
  obtain ⟨A, c, rfl, -⟩ := hr.form
  obtain ⟨A2, c2, rfl, h7, h8, h9⟩ := ha.form
  have hsearch := search_starts ds d o hd ho _ w ha (by omega)
  have hlt : startAt ds d + o < (rowOf ds).length := by
    have h1 := startAt_le ds (d + 1) (by omega)
    rw [startAt_succ ds d hd] at h1; omega
  obtain ⟨ad2, rfl, hc2⟩ := h9 d (by rw [startsOf_length]; exact hd)
  have hS : (startsOf ds)[d]'(by rw [startsOf_length]; exact hd) = startAt ds d := by
    have := startsOf_get ds d hd
    exact (List.getElem?_eq_some_iff.1 this).2
  have hc3 : w.cell? (ad2.add d) = some (.int .i64 (startAt ds d : Nat)) := by rw [hc2, hS]; rfl
  rw [startsOf_length] at *
  have HS := Lib.hid hsearch
  clear hsearch h9 hc2 hS ha hr hdd h0 h
  generalize startAt ds d = S at *
  by_cases h0 : o = 0
  · subst h0
    simp only [Nat.add_zero, if_true, decide_true] at HS ⊢
    go_enter Try.func31, Try.ntmps31
    go_wp2_with (go_at_call 71; go_must (refine HS.out.mono ?_; rintro e w1 ⟨rfl, q, rfl⟩))
    go_quiet (fail)
    go_wp2
    go_ret3
    exact ⟨by go_num, _, World.drewN_drewN _ _ _⟩
  · simp only [h0, if_false, decide_false] at HS ⊢
    go_enter Try.func31, Try.ntmps31
    go_wp2_with (go_at_call 71; go_must (refine HS.out.mono ?_; rintro e w1 ⟨rfl, q, rfl⟩))
    go_quiet (fail)
    go_wp2
    go_ret3
    exact ⟨by go_num, _, World.drewN_drewN _ _ _⟩
end Go.Proofs.Ytinlmodkdjpocaa

set_option linter.unusedVariables false
namespace Go.Proofs.Ytinlmodkdjpocaa
open Go.RowKit Go.Shelf

theorem GL.below {w w' : World} (h : GL w) (hb : Below w.heap.size w w') : GL w' := by
  obtain ⟨m, hm⟩ := h
  exact ⟨m, (hb.cell (World.block_lt_of_cell? w _ hm)).trans hm⟩

def awDs : List (List UInt8) := [[97, 97, 97], []]
theorem aw_hits : hits [97, 97] awDs = [(0, 0), (0, 1)] := by decide
theorem aw_row : rowOf awDs = [98, 98, 98, 0, 0] := by decide

theorem aw_docs (w : World) : DocsR ((w.alloc (.cells #[.int .u8 97, .int .u8 97, .int .u8 97] 5 (3, 4))).alloc (.cells #[.slice (some ⟨w.heap.size, 0, none⟩) 3 3, .slice none 0 0] 29)) (.slice (some ⟨w.heap.size + 1, 0, none⟩) 2 2) awDs := by
  have g1 : ((w.alloc (.cells #[.int .u8 97, .int .u8 97, .int .u8 97] 5 (3, 4))).alloc (.cells #[.slice (some ⟨w.heap.size, 0, none⟩) 3 3, .slice none 0 0] 29)).heap[w.heap.size + 1]? = some (.cells #[.slice (some ⟨w.heap.size, 0, none⟩) 3 3, .slice none 0 0] 29 (0, 0)) := by
    have := heap_alloc_new (w.alloc (.cells #[.int .u8 97, .int .u8 97, .int .u8 97] 5 (3, 4))) (.cells #[.slice (some ⟨w.heap.size, 0, none⟩) 3 3, .slice none 0 0] 29)
    rwa [World.size_alloc] at this
  have g0 : ((w.alloc (.cells #[.int .u8 97, .int .u8 97, .int .u8 97] 5 (3, 4))).alloc (.cells #[.slice (some ⟨w.heap.size, 0, none⟩) 3 3, .slice none 0 0] 29)).heap[w.heap.size]? = some (.cells #[.int .u8 97, .int .u8 97, .int .u8 97] 5 (3, 4)) := by
    rw [Below.heap_alloc _ _ _ (by simp)]; exact heap_alloc_new w _
  refine ⟨[.slice (some ⟨w.heap.size, 0, none⟩) 3 3, .slice none 0 0], rfl, ⟨_, _, rfl, Nat.le_refl 2, (by decide : 2 ≤ 9223372036854775807), .inr ⟨_, rfl, fun j hj => ?_⟩⟩, fun j h h' => ?_⟩
  · match j, hj with
    | 0, _ => rw [add_spot]; simp only [World.cell?, g1]; rfl
    | 1, _ => rw [add_spot]; simp only [World.cell?, g1]; rfl
  · match j, h with
    | 0, _ => exact ⟨_, _, rfl, Nat.le_refl 3, (by decide : 3 ≤ 9223372036854775807), .inr ⟨_, rfl, fun j hj => by
        match j, hj with
        | 0, _ => rw [add_spot]; simp only [World.cell?, g0]; rfl
        | 1, _ => rw [add_spot]; simp only [World.cell?, g0]; rfl
        | 2, _ => rw [add_spot]; simp only [World.cell?, g0]; rfl⟩⟩
    | 1, _ => exact SlR.nil _

theorem aw_two (w : World) : HitsR (w.alloc (.cells #[.int .i64 0, .int .i64 0, .int .i64 0, .int .i64 1] 77)) (.slice (some ⟨w.heap.size, 0, none⟩) 2 2) [(0, 0), (0, 1)] := by
  have g0 := heap_alloc_new w (.cells #[.int .i64 0, .int .i64 0, .int .i64 0, .int .i64 1] 77)
  refine ⟨_, _, rfl, by decide, by decide, .inr ⟨_, rfl, fun j hj => ?_⟩⟩
  match j, hj with
  | 0, _ => refine ⟨?_, ?_⟩ <;> rw [add_spot] <;> simp only [World.cell?, g0] <;> rfl
  | 1, _ => refine ⟨?_, ?_⟩ <;> rw [add_spot] <;> simp only [World.cell?, g0] <;> rfl

set_option maxRecDepth 100000 in
set_option maxHeartbeats 2000000 in
theorem law_awake (w : World) (hG : GL w) : Calls Try.prog 21 #[] w fun e w' => e = .returned (.bool true) ∧ Below w.heap.size w w' := by
  obtain ⟨w2, hw2⟩ : ∃ w2, (w.alloc (.cells #[.int .u8 97, .int .u8 97, .int .u8 97] 5 (3, 4))).alloc (.cells #[.slice (some ⟨w.heap.size, 0, none⟩) 3 3, .slice none 0 0] 29) = w2 := ⟨_, rfl⟩
  have hd := aw_docs w
  rw [hw2] at hd
  have hb2 : Below w.heap.size w w2 := by rw [← hw2]; exact ((Below.refl _ w).alloc (Nat.le_refl _) _).alloc (by simp) _
  have hnew := Lib.hid (text_new awDs _ w2 hd)
  have HW := Lib.hid hw2
  have HB2 := Lib.hid hb2
  have HG := Lib.hid hG
  clear hd hw2 hb2 hG
  have kc := Lib.run_convert_bytes_const (P := Try.prog) w 29 5 #[.int .u8 97, .int .u8 97, .int .u8 97] 3 3 Try.underlying29 Try.underlying5
  go_enter Try.func21, Try.ntmps21
  go_wp2_with fail
  clear kc
  rw [HW.out]
  refine hnew.out.mono ?_
  rintro e w3 ⟨hb3, h3⟩
  have hmay : mayE awDs = 0 := by decide
  rcases h3 with ⟨h, -⟩ | ⟨-, b, hb, rfl, ht⟩
  · exact absurd hmay h
  have hbe := Lib.hid (HB2.out.trans (hb3.mono HB2.out.size))
  have HG3 : Hid (GL w3) := Lib.hid (HG.out.below hbe.out)
  have HT := Lib.hid ht
  clear hmay hb3 ht hb hnew HB2 HW HG
  have hat := Lib.hid (text_at b awDs 1 0 w3 HT.out (by decide) (by decide) (by decide) (by decide))
  go_wp2_with (go_at_call 31; go_must (refine hat.out.mono ?_; rintro e w4 ⟨rfl, q, rfl⟩))
  have HT4 : Hid (TextR (w3.drewN q) b awDs) := Lib.hid (HT.out.below (Nat.le_refl _) (below_drewN (Below.refl _ _) q))
  have HG4 : Hid (GL (w3.drewN q)) := Lib.hid (HG3.out.below (below_drewN (Below.refl _ _) q))
  have hbe4 := Lib.hid (below_drewN hbe.out q)
  clear HT HG3 hbe hat
  generalize w3.drewN q = w5 at *
  have hlen := Lib.hid (text_len b awDs w5 HT4.out)
  have hdocs := Lib.hid (text_docs b awDs w5 HT4.out)
  have hfind := Lib.hid (law_find b awDs [97, 97] 9 w5 HT4.out HG4.out (by decide) (by decide) (by decide))
  have el : ((rowOf awDs).length : Int) = 5 := by decide
  have ed : (awDs.length : Int) = 2 := by decide
  have e3 : symAt (rowOf awDs) 3 = 0 := by decide
  have e0 : symAt (rowOf awDs) 0 = 98 := by decide
  have E3 := Lib.hid e3
  have E0 := Lib.hid e0
  rw [aw_hits] at hfind
  rw [el] at hlen
  rw [ed] at hdocs
  clear e3 e0 el ed
  go_wp2_with (first
    | (go_at_call 24; go_must (refine hlen.out.mono ?_; rintro e w6 ⟨rfl, rfl⟩))
    | (go_at_call 68; go_must (refine hdocs.out.mono ?_; rintro e w6 ⟨rfl, rfl⟩))
    | (go_at_call 23; go_must (refine (text_sym b awDs _ _ HT4.out).mono ?_; rintro e w6 ⟨rfl, rfl⟩; first | rw [E3.out] | rw [E0.out]))
    | (go_at_call 25; go_must (refine hfind.out.mono ?_; rintro e w6 ⟨v6, rfl, hh6, hb6⟩; have HH := Lib.hid hh6; have HB6 := Lib.hid hb6; clear hh6 hb6))
    | (go_at_call 29; go_must (refine (same_hits _ _ [(0, 0), (0, 1)] _ (HH.out.later ((Below.refl _ w6).alloc (Nat.le_refl _) _)) (aw_two w6)).mono ?_; rintro e w7 ⟨rfl, q7, rfl⟩)))
  go_ret
  exact ⟨rfl, below_drewN ((hbe4.out.trans (HB6.out.mono hbe4.out.size)).alloc (Nat.le_trans hbe4.out.size HB6.out.size) _) _⟩
end Go.Proofs.Ytinlmodkdjpocaa
