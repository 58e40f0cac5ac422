/- text: At. -/
import Derived.Test.YtinlmodkdjpocaaTxg
import Derived.Test.YtinlmodkdjpocaaTxP
set_option linter.unusedVariables false
namespace Go.Proofs.Ytinlmodkdjpocaa
open Go.RowKit Go.Shelf

theorem cell_spot {w : World} {a : Addr} {v : Value} (h : w.cell? a = some v) : a = ⟨a.block, a.off, none⟩ := by
  obtain ⟨b, o, s⟩ := a
  cases s with
  | none => rfl
  | some s => simp [World.cell?] at h; split at h <;> simp at h
theorem add_spot (b o j : Nat) : (⟨b, o, none⟩ : Addr).add j = ⟨b, o + j, none⟩ := by unfold Addr.add; split <;> simp_all

theorem search_starts (ds : List (List UInt8)) (d o : Nat) (hd : d < ds.length) (ho : o ≤ ds[d].length) (v : Value) (w : World) (h : SlR natV w v (startsOf ds)) (hbig : ds.length < 4611686018427387904) :
    Calls Try.prog 71 #[v, .int .i64 (startAt ds d + o : Nat)] w fun e w' => e = .returned (.tuple #[.int .i64 (d + (if o = 0 then 0 else 1) : Nat), .bool (decide (o = 0))]) ∧ ∃ q, w' = w.drewN q := by
  obtain ⟨A, c, rfl, h1, h2, h3⟩ := h.form
  rw [startsOf_length] at h1 ⊢
  obtain ⟨ad, rfl, h4⟩ := h3 0 (by rw [startsOf_length]; omega)
  have hsp := cell_spot h4
  have hsp' : ad = ⟨ad.block, ad.off, none⟩ := hsp
  have hc := Try.slices_BinarySearch_int ad.block ad.off ds.length c ((startsOf ds).map Int.ofNat) (startAt ds d + o : Nat) w (by simp [startsOf_length]) hbig (fun j hj => by
    rw [List.length_map] at hj
    obtain ⟨ad', e, h5⟩ := h3 j hj
    cases e
    rw [← add_spot, ← hsp', h5]
    simp [natV, List.getD, hj]) (by
    rw [List.take_of_length_le (by simp [startsOf_length])]
    exact List.Pairwise.map _ (fun a b h => Int.ofNat_le.2 h) (startsFrom_sorted 0 ds))
  rw [List.take_of_length_le (by simp [startsOf_length]), ← hsp'] at hc
  obtain ⟨e1, e2⟩ := startsFrom_find 0 ds d o _ _ ds[d] (by simp [hd]) ho (startsOf_get ds d hd) rfl
  have e3 : ((startsOf ds).map Int.ofNat).countP (fun x => decide (x < ((startAt ds d + o : Nat) : Int))) = d + (if o = 0 then 0 else 1) := by
    rw [List.countP_map, ← e1]
    unfold startsOf
    congr 1
    funext y
    simp only [Function.comp_apply]
    congr 1
    exact propext Int.ofNat_lt
  have e4 : ((startsOf ds).map Int.ofNat).contains ((startAt ds d + o : Nat) : Int) = decide (o = 0) := by
    rw [← e2]
    unfold startsOf
    rw [Bool.eq_iff_iff]
    simp only [List.contains_iff_mem, List.mem_map]
    constructor
    · rintro ⟨y, hy, he⟩
      have : y = startAt ds d + o := Int.ofNat.inj he
      rwa [← this]
    · intro hy
      exact ⟨_, hy, rfl⟩
  rw [e3, e4] at hc
  exact hc

set_option maxRecDepth 100000 in
set_option maxHeartbeats 1000000 in
theorem text_at (b : Nat) (ds : List (List UInt8)) (d o : Nat) (w : World) (h : TextR w b ds) (hd : d < ds.length) (ho : o ≤ ds[d].length) (hbig : (rowOf ds).length ≤ 100000000) (hbig2 : ds.length ≤ 100000000) :
    Calls Try.prog 31 #[.pointer (some ⟨b, 0, none⟩), .int .i64 (startAt ds d + o : Nat)] w fun e w' => e = .returned (.tuple #[.int .i64 d, .int .i64 o, .bool true]) ∧ ∃ q, w' = w.drewN q := by
  obtain ⟨dv, av, rv, h0, h1, h2, hdd, ha, hr⟩ := h.cells
  obtain ⟨A, c, rfl, -⟩ := hr.form
  obtain ⟨A2, c2, rfl, h7, h8, h9⟩ := ha.form
  have hsearch := search_starts ds d o hd ho _ w ha (by omega)
  have hlt : startAt ds d + o < (rowOf ds).length := by
    have h1 := startAt_le ds (d + 1) (by omega)
    rw [startAt_succ ds d hd] at h1; omega
  obtain ⟨ad2, rfl, hc2⟩ := h9 d (by rw [startsOf_length]; exact hd)
  have hS : (startsOf ds)[d]'(by rw [startsOf_length]; exact hd) = startAt ds d := by
    have := startsOf_get ds d hd
    exact (List.getElem?_eq_some_iff.1 this).2
  have hc3 : w.cell? (ad2.add d) = some (.int .i64 (startAt ds d : Nat)) := by rw [hc2, hS]; rfl
  rw [startsOf_length] at *
  have HS := Lib.hid hsearch
  clear hsearch h9 hc2 hS ha hr hdd h0 h
  generalize startAt ds d = S at *
  by_cases h0 : o = 0
  · subst h0
    simp only [Nat.add_zero, if_true, decide_true] at HS ⊢
    go_enter Try.func31, Try.ntmps31
    go_wp2_with (go_at_call 71; go_must (refine HS.out.mono ?_; rintro e w1 ⟨rfl, q, rfl⟩))
    go_quiet (fail)
    go_wp2
    go_ret3
    exact ⟨by go_num, _, World.drewN_drewN _ _ _⟩
  · simp only [h0, if_false, decide_false] at HS ⊢
    go_enter Try.func31, Try.ntmps31
    go_wp2_with (go_at_call 71; go_must (refine HS.out.mono ?_; rintro e w1 ⟨rfl, q, rfl⟩))
    go_quiet (fail)
    go_wp2
    go_ret3
    exact ⟨by go_num, _, World.drewN_drewN _ _ _⟩
end Go.Proofs.Ytinlmodkdjpocaa
