/- text: the law TextBounds. -/
import Derived.Test.YtinlmodkdjpocaaTxj
import Derived.Test.YtinlmodkdjpocaaTxm
import Derived.Test.YtinlmodkdjpocaaMsk
import Derived.Deep.OwnRows
set_option linter.unusedVariables false
namespace Go.Proofs.Ytinlmodkdjpocaa
open Go.RowKit Go.Shelf

/-- documents laid so far: an owned row of slices -/
def DocsSt (base : Nat) (W : World) (lv : Value) (ds : List (List UInt8)) : Prop :=
  ∃ dvs : List Value, W.ownsRow base 29 1 lv ds.length dvs ∧ dvs.length = ds.length ∧ ∀ j (h : j < dvs.length) (h' : j < ds.length), SlT 5 byV W dvs[j] ds[j]
theorem DocsSt.docs {base : Nat} {W : World} {lv : Value} {ds : List (List UInt8)} (h : DocsSt base W lv ds) : DocsR W lv ds := by
  obtain ⟨dvs, h1, h2, h3⟩ := h
  exact ⟨dvs, h2, SlR.of_own (enc := id) (by rw [List.map_id]; exact h1), fun j h h' => (h3 j h h').1⟩
theorem DocsSt.nil (base : Nat) (W : World) : DocsSt base W (.slice none 0 0) [] := ⟨[], World.ownsRow_nil _ _ _ _, rfl, fun j h => absurd h (Nat.not_lt_zero _)⟩
theorem DocsSt.snoc {base : Nat} {W W2 : World} {lv v' x : Value} {ds : List (List UInt8)} {dvs : List Value} {d : List UInt8} (h1 : W.ownsRow base 29 1 lv ds.length dvs) (h2 : dvs.length = ds.length) (h3 : ∀ j (h : j < dvs.length) (h' : j < ds.length), SlT 5 byV W dvs[j] ds[j])
    (hx : SlT 5 byV W x d) (ho : W2.ownsRow base 29 1 v' (ds.length + 1) (dvs ++ [x])) (hg : W.grownBy W2 lv.ownBlock) : DocsSt base W2 v' (ds ++ [d]) := by
  refine ⟨dvs ++ [x], by simpa using ho, by simp [h2], fun j h h' => ?_⟩
  by_cases hj : j < ds.length
  · rw [List.getElem_append_left (by omega), List.getElem_append_left hj]
    exact (h3 j (by omega) hj).grown h1 hg (by decide)
  · have hj' : j = ds.length := by simp at h'; omega
    subst hj'
    rw [List.getElem_append_right (by omega), List.getElem_append_right (by omega)]
    simp only [h2, Nat.sub_self, List.getElem_singleton]
    exact hx.grown h1 hg (by decide)
theorem SlT.nilv (T : TypeId) (W : World) : SlT T byV W (.slice none 0 0) [] := ⟨SlR.nil W, .inl rfl⟩
theorem zeros_at (W : World) (n : Nat) (hn : n ≤ 1000000) : SlT 5 byV (W.alloc (.cells (madeCells #[.int .u8 0] n) 5)) (.slice (some ⟨W.heap.size, 0, none⟩) n n) (List.replicate n 0) := by
  have h0 := heap_alloc_new W (.cells (madeCells #[.int .u8 0] n) 5)
  refine ⟨⟨_, _, by rw [List.length_replicate], by simp, by omega, .inr ⟨_, rfl, fun j hj => ?_⟩⟩, .inr ⟨_, _, _, rfl, h0⟩⟩
  rw [List.length_replicate] at hj
  rw [add_spot]
  simp only [World.cell?, h0]
  simp [madeCells, hj, Nat.mod_one, byV]

theorem new_zero (ds : List (List UInt8)) (v : Value) (w : World) (hd : DocsR w v ds) (hE : mayE ds = 0) :
    Calls Try.prog 22 #[v] w fun e w' => Below w.heap.size w w' ∧ ∃ b, e = .returned (.tuple #[.pointer (some ⟨b, 0, none⟩), .int .i64 0]) := by
  refine (text_new ds v w hd).mono ?_
  rintro e w' ⟨h1, h2⟩
  refine ⟨h1, ?_⟩
  rcases h2 with ⟨h, -⟩ | ⟨-, b, -, h, -⟩
  · exact absurd hE h
  · exact ⟨b, h⟩
theorem new_err (ds : List (List UInt8)) (v : Value) (w : World) (hd : DocsR w v ds) (E : Nat) (hE : mayE ds = E) (h0 : E ≠ 0) :
    Calls Try.prog 22 #[v] w fun e w' => Below w.heap.size w w' ∧ e = .returned (.tuple #[.pointer none, .int .i64 E]) := by
  refine (text_new ds v w hd).mono ?_
  rintro e w' ⟨h1, h2⟩
  refine ⟨h1, ?_⟩
  rcases h2 with ⟨-, h⟩ | ⟨h, -⟩
  · rw [hE] at h; exact h
  · exact absurd (hE.symm.trans h) h0

theorem rowLen_append (a b : List (List UInt8)) : (rowOf (a ++ b)).length = (rowOf a).length + (rowOf b).length := by simp [rowOf]
theorem rowLen_rep (n m : Nat) : (rowOf (List.replicate n (List.replicate m (0 : UInt8)))).length = n * (m + 1) := by
  induction n with
  | zero => simp [rowOf]
  | succ n ih =>
    rw [List.replicate_succ']
    rw [rowLen_append, ih]
    simp [rowOf, symsOf, Nat.succ_mul]
theorem mayE_rep (n m : Nat) : mayE (List.replicate n (List.replicate m (0 : UInt8))) = if 500 < n then 65 else if 0 < n ∧ 2000 < m then 2 else if 60000 < n * (m + 1) then 2 else 0 := by
  unfold mayE
  rw [List.length_replicate, rowLen_rep]
  by_cases h1 : 500 < n
  · simp [h1]
  · rw [if_neg h1, if_neg h1]
    by_cases h2 : 0 < n ∧ 2000 < m
    · rw [if_pos h2, if_pos ⟨List.replicate m 0, List.mem_replicate.2 ⟨by omega, rfl⟩, by rw [List.length_replicate]; exact h2.2⟩]
    · rw [if_neg h2, if_neg (fun ⟨d, hd, hl⟩ => h2 (by
        obtain ⟨h3, rfl⟩ := List.mem_replicate.1 hd
        rw [List.length_replicate] at hl
        exact ⟨by omega, hl⟩))]
theorem rowLen_rep' (n : Nat) (D : List UInt8) : (rowOf (List.replicate n D)).length = n * (D.length + 1) := by
  induction n with
  | zero => simp [rowOf]
  | succ n ih =>
    rw [List.replicate_succ', rowLen_append, ih]
    simp [rowOf, symsOf, Nat.succ_mul]
theorem mayE_many (D : List UInt8) (hD : D.length = 1990) (N : Nat) (hN : N ≤ 2000) : mayE (List.replicate 30 D ++ [List.replicate N 0]) = if 269 < N then 2 else 0 := by
  unfold mayE
  have h1 : (List.replicate 30 D ++ [List.replicate N 0]).length = 31 := by rw [List.length_append, List.length_replicate]; rfl
  have h2 : (rowOf (List.replicate 30 D ++ [List.replicate N 0])).length = 59730 + (N + 1) := by
    rw [rowLen_append, rowLen_rep', hD]; simp [rowOf, symsOf]
  rw [h1, h2, if_neg (by omega), if_neg (fun ⟨d, hd, hl⟩ => by
    rw [List.mem_append, List.mem_singleton] at hd
    rcases hd with hd | rfl
    · obtain ⟨-, rfl⟩ := List.mem_replicate.1 hd; omega
    · rw [List.length_replicate] at hl; omega)]
  by_cases h : 269 < N
  · rw [if_pos (by omega), if_pos h]
  · rw [if_neg (by omega), if_neg h]

set_option maxRecDepth 100000 in
set_option maxHeartbeats 2000000 in
theorem bounds_0 (a b c : Int) (w : World) (hG : GL w) (hc : c % 4 = 0) :
    Calls Try.prog 6 #[.int .i64 a, .int .i64 b, .int .i64 c] w fun e w' => e = .returned (.bool true) ∧ Below w.heap.size w w' := by
  obtain ⟨k, hk⟩ : ∃ k : Nat, a % 8 = (k : Nat) := ⟨(a % 8).toNat, by omega⟩
  have hk8 : k ≤ 7 := by omega
  have ha7 : bits .and .i64 a 7 = (k : Nat) := by rw [i64_and7, hk]
  have hc3 : bits .and .i64 c 3 = 0 := by rw [i64_and3, hc]
  have HG := Lib.hid hG
  clear hG hc hk
  go_enter Try.func6, Try.ntmps6
  go_wp2
  obtain ⟨N, hN⟩ : ∃ N : Nat, N = k + 497 := ⟨_, rfl⟩
  have hNk : ((k : Int) + 497) = (N : Nat) := by omega
  have hN1 : N ≤ 504 := by omega
  rw [hNk]
  clear hN hNk hk8 ha7
  go_loopw [7, 9] (fun lv iv wr => ∃ i : Nat, i ≤ N ∧ iv = .int .i64 i ∧ DocsSt w.heap.size wr lv (List.replicate i []) ∧ Below w.heap.size w wr) (fun _ iv _ => N - (intOf iv).toNat)
  case atStart => exact ⟨0, Nat.zero_le _, rfl, DocsSt.nil _ _, Below.refl _ _⟩
  case round =>
    obtain ⟨i, hi, rfl, hst, hbe⟩ := hrel
    by_cases hlt : i < N
    · obtain ⟨dvs, s1, s2, s3⟩ := hst
      rw [List.length_replicate] at s1 s2
      obtain ⟨Ao, co, rfl⟩ := own_form s1
      have hsz := hbe.size
      have S1 := Lib.hid s1
      have S2 := Lib.hid s2
      have S3 := Lib.hid s3
      have HB := Lib.hid hbe
      clear s1 s2 s3 hbe
      go_wp2_with (first
        | (at_builtin; refine wp_app w.heap.size 22 29 (.slice none 0 0) 1 24 (.tmp 45) (.tmp 46) rfl rfl Try.underlying22 info_bys rfl (by decide) (by decide) (.slice Ao i co) i dvs #[.slice none 0 0] rfl rfl S1.out rfl (by intro u hu; simp at hu; subst hu; rfl) (by omega) hsz ?_; intro g cap w9 ho9 hg9 hat9 hgb9 hgl9 hgs9; have HO9 := Lib.hid ho9; have HG9 := Lib.hid hg9; clear ho9 hg9 hat9))
      go_roundw
      case rel =>
        refine ⟨i + 1, by omega, by go_num, ?_, HB.out.grown HG9.out hsz (fun g hg => own_base S1.out hg)⟩
        rw [List.replicate_succ']
        exact DocsSt.snoc (by rw [List.length_replicate]; exact S1.out) (by rw [List.length_replicate]; exact S2.out) S3.out (SlT.nilv _ _) (by rw [List.length_replicate]; exact HO9.out) HG9.out
      case measure => simp [intOf]; omega
    · have hi' : i = N := by omega
      subst hi'
      have HDD := Lib.hid hst.docs
      have HBB := Lib.hid hbe
      clear hst hbe
      have hmay := mayE_rep i 0
      simp only [List.replicate_zero] at hmay
      by_cases h5 : 500 < i
      · clear hlt
        have hE : mayE (List.replicate i []) = 65 := by rw [hmay, if_pos h5]
        have hnew := Lib.hid (new_err (List.replicate i []) _ _ HDD.out 65 hE (by decide))
        clear hE hmay
        go_wp2_with (first
          | (go_at_call 22; go_must (refine hnew.out.mono ?_; rintro e w1 ⟨hb1, rfl⟩; have haw := Lib.hid (law_awake w1 (HG.out.below (HBB.out.trans (hb1.mono HBB.out.size)))); have HB1 := Lib.hid (HBB.out.trans (hb1.mono HBB.out.size)); clear hb1))
          | (go_at_call 21; go_must (refine haw.out.mono ?_; rintro e w6 ⟨rfl, hb6⟩; have HB6 := Lib.hid (HB1.out.trans (hb6.mono HB1.out.size)); clear hb6)))
        go_ret
        exact ⟨rfl, HB6.out⟩
      · clear hlt
        have hE : mayE (List.replicate i []) = 0 := by rw [hmay, if_neg h5, if_neg (by omega), if_neg (by omega)]
        have hnew := Lib.hid (new_zero (List.replicate i []) _ _ HDD.out hE)
        clear hE hmay
        go_wp2_with (first
          | (go_at_call 22; go_must (refine hnew.out.mono ?_; rintro e w1 ⟨hb1, b, rfl⟩; have haw := Lib.hid (law_awake w1 (HG.out.below (HBB.out.trans (hb1.mono HBB.out.size)))); have HB1 := Lib.hid (HBB.out.trans (hb1.mono HBB.out.size)); clear hb1))
          | (go_at_call 21; go_must (refine haw.out.mono ?_; rintro e w6 ⟨rfl, hb6⟩; have HB6 := Lib.hid (HB1.out.trans (hb6.mono HB1.out.size)); clear hb6)))
        go_ret
        exact ⟨rfl, HB6.out⟩

set_option maxRecDepth 100000 in
set_option maxHeartbeats 2000000 in
theorem bounds_1 (a b c : Int) (w : World) (hG : GL w) (hc : c % 4 = 1) :
    Calls Try.prog 6 #[.int .i64 a, .int .i64 b, .int .i64 c] w fun e w' => e = .returned (.bool true) ∧ Below w.heap.size w w' := by
  obtain ⟨k, hk⟩ : ∃ k : Nat, b % 16 = (k : Nat) := ⟨(b % 16).toNat, by omega⟩
  have hk8 : k ≤ 15 := by omega
  have hb7 : bits .and .i64 b 15 = (k : Nat) := by rw [i64_and15, hk]
  have hc3 : bits .and .i64 c 3 = 1 := by rw [i64_and3, hc]
  have HG := Lib.hid hG
  clear hG hc hk
  obtain ⟨N, hN⟩ : ∃ N : Nat, N = k + 1993 := ⟨_, rfl⟩
  have hNk : ((k : Int) + 1993) = (N : Nat) := by omega
  have hN1 : N ≤ 2008 := by omega
  clear hN
  have hmk := fun W => run_make_row' (P := Try.prog) 29 5 (.int .u8 0) 1 Try.underlying29 info_u8 rfl .i64 .i64 N (by omega) (by omega) W
  have HDD : Hid (DocsR ((w.alloc (.cells (madeCells #[.int .u8 0] N) 5)).alloc (.cells #[.slice (some ⟨w.heap.size, 0, none⟩) N N] 29)) (.slice (some ⟨w.heap.size + 1, 0, none⟩) 1 1) [List.replicate N 0]) := Lib.hid (by
    have h0 := heap_alloc_new (w.alloc (.cells (madeCells #[.int .u8 0] N) 5)) (.cells #[.slice (some ⟨w.heap.size, 0, none⟩) N N] 29)
    rw [World.size_alloc] at h0
    refine ⟨[.slice (some ⟨w.heap.size, 0, none⟩) N N], rfl, ⟨_, _, rfl, Nat.le_refl 1, (by decide : 1 ≤ 9223372036854775807), .inr ⟨_, rfl, fun j hj => ?_⟩⟩, fun j h h' => ?_⟩
    · match j, hj with
      | 0, _ => rw [add_spot]; simp only [World.cell?, h0]; rfl
    · match j, h with
      | 0, _ => exact ((zeros_at w N (by omega)).below ((Below.refl _ _).alloc (Nat.le_refl _) _)).1)
  have HBB : Hid (Below w.heap.size w ((w.alloc (.cells (madeCells #[.int .u8 0] N) 5)).alloc (.cells #[.slice (some ⟨w.heap.size, 0, none⟩) N N] 29))) := Lib.hid (((Below.refl _ w).alloc (Nat.le_refl _) _).alloc (by simp) _)
  have hmay := mayE_rep 1 N
  simp only [List.replicate_one] at hmay
  by_cases h5 : 2000 < N
  · have hE : mayE ([List.replicate N 0]) = 2 := by rw [hmay, if_neg (by omega), if_pos ⟨by omega, h5⟩]
    have hnew := Lib.hid (new_err ([List.replicate N 0]) _ _ HDD.out 2 hE (by decide))
    clear hE hmay
    go_enter Try.func6, Try.ntmps6
    go_wp2_with (first
      | (go_at_call 22; go_must (refine hnew.out.mono ?_; rintro e w1 ⟨hb1, rfl⟩; have haw := Lib.hid (law_awake w1 (HG.out.below (HBB.out.trans (hb1.mono HBB.out.size)))); have HB1 := Lib.hid (HBB.out.trans (hb1.mono HBB.out.size)); clear hb1))
      | (go_at_call 21; go_must (refine haw.out.mono ?_; rintro e w6 ⟨rfl, hb6⟩; have HB6 := Lib.hid (HB1.out.trans (hb6.mono HB1.out.size)); clear hb6)))
    go_ret
    exact ⟨rfl, HB6.out⟩
  · have hE : mayE ([List.replicate N 0]) = 0 := by rw [hmay, if_neg (by omega), if_neg (by omega), if_neg (by omega)]
    have hnew := Lib.hid (new_zero ([List.replicate N 0]) _ _ HDD.out hE)
    clear hE hmay
    go_enter Try.func6, Try.ntmps6
    go_wp2_with (first
      | (go_at_call 22; go_must (refine hnew.out.mono ?_; rintro e w1 ⟨hb1, b, rfl⟩; have haw := Lib.hid (law_awake w1 (HG.out.below (HBB.out.trans (hb1.mono HBB.out.size)))); have HB1 := Lib.hid (HBB.out.trans (hb1.mono HBB.out.size)); clear hb1))
      | (go_at_call 21; go_must (refine haw.out.mono ?_; rintro e w6 ⟨rfl, hb6⟩; have HB6 := Lib.hid (HB1.out.trans (hb6.mono HB1.out.size)); clear hb6)))
    go_ret
    exact ⟨rfl, HB6.out⟩

set_option maxRecDepth 100000 in
set_option maxHeartbeats 2000000 in
theorem bounds_2 (a b c : Int) (w : World) (hG : GL w) (hc : c % 4 = 2 ∨ c % 4 = 3) :
    Calls Try.prog 6 #[.int .i64 a, .int .i64 b, .int .i64 c] w fun e w' => e = .returned (.bool true) ∧ Below w.heap.size w w' := by
  obtain ⟨k, hk⟩ : ∃ k : Nat, b % 64 = (k : Nat) := ⟨(b % 64).toNat, by omega⟩
  have hk8 : k ≤ 63 := by omega
  have hb7 : bits .and .i64 b 63 = (k : Nat) := by rw [i64_and63, hk]
  obtain ⟨m, hm, hm0, hm1⟩ : ∃ m : Int, bits .and .i64 c 3 = m ∧ ¬ m = 0 ∧ ¬ m = 1 := ⟨c % 4, i64_and3 c, by omega, by omega⟩
  have hm2 : (m == 0) = false := by simpa using hm0
  have hm3 : (m == 1) = false := by simpa using hm1
  have HG := Lib.hid hG
  clear hG hc hk
  obtain ⟨N, hN⟩ : ∃ N : Nat, N = k + 250 := ⟨_, rfl⟩
  have hNk : ((k : Int) + 250) = (N : Nat) := by omega
  have hN1 : N ≤ 313 := by omega
  clear hN
  have hmk := fun W => run_make_row' (P := Try.prog) 29 5 (.int .u8 0) 1 Try.underlying29 info_u8 rfl .i64 .i64 N (by omega) (by omega) W
  have hmk2 : ∀ W : World, (Instr.makeSlice 29 (.int .i64 1990) (.int .i64 1990)).run Try.prog W = .ok (.slice (some ⟨W.heap.size, 0, none⟩) 1990 1990) (W.alloc (.cells (madeCells #[.int .u8 0] 1990) 5)) := fun W => run_make_row' (P := Try.prog) 29 5 (.int .u8 0) 1 Try.underlying29 info_u8 rfl .i64 .i64 1990 (by omega) (by omega) W
  generalize hD : List.replicate 1990 (0 : UInt8) = D at *
  have HZ : Hid (∀ W : World, SlT 5 byV (W.alloc (.cells (madeCells #[.int .u8 0] 1990) 5)) (.slice (some ⟨W.heap.size, 0, none⟩) 1990 1990) D) := Lib.hid (fun W => by rw [← hD]; exact zeros_at W 1990 (by omega))
  have HM := Lib.hid (mayE_many D (by rw [← hD, List.length_replicate]) N (by omega))
  clear hD
  generalize madeCells #[Value.int .u8 0] 1990 = C1990 at *
  go_enter Try.func6, Try.ntmps6
  go_wp2
  go_loopw [7, 10] (fun lv iv wr => ∃ i : Nat, i ≤ 30 ∧ iv = .int .i64 i ∧ DocsSt w.heap.size wr lv (List.replicate i D) ∧ Below w.heap.size w wr) (fun _ iv _ => 30 - (intOf iv).toNat)
  case atStart => exact ⟨0, Nat.zero_le _, rfl, DocsSt.nil _ _, Below.refl _ _⟩
  case round =>
    obtain ⟨i, hi, rfl, hst, hbe⟩ := hrel
    obtain ⟨dvs, s1, s2, s3⟩ := hst
    rw [List.length_replicate] at s1 s2
    obtain ⟨Ao, co, rfl⟩ := own_form s1
    have hsz := hbe.size
    have S1 := Lib.hid s1
    have S2 := Lib.hid s2
    have S3 := Lib.hid s3
    have HB := Lib.hid hbe
    clear s1 s2 s3 hbe
    by_cases hlt : i < 30
    · have hba : Below wr.heap.size wr (wr.alloc (.cells C1990 5)) := (Below.refl _ wr).alloc (Nat.le_refl _) _
      have hsz2 : w.heap.size ≤ (wr.alloc (.cells C1990 5)).heap.size := by simp; omega
      have HBA := Lib.hid hba
      clear hba
      go_wp2_with (first
        | (at_builtin; refine wp_app (W := wr.alloc (.cells C1990 5)) w.heap.size 22 29 (.slice none 0 0) 1 24 (.tmp 19) (.tmp 21) rfl rfl Try.underlying22 info_bys rfl (by decide) (by decide) (.slice Ao i co) i dvs #[.slice (some ⟨wr.heap.size, 0, none⟩) 1990 1990] rfl (by rw [World.size_alloc]; rfl) (S1.out.alloc _) rfl (by intro u hu; simp at hu; subst hu; rfl) (by omega) hsz2 ?_; intro g cap w9 ho9 hg9 hat9 hgb9 hgl9 hgs9; have HO9 := Lib.hid ho9; have HG9 := Lib.hid hg9; clear ho9 hg9 hat9))
      go_roundw
      case rel =>
        refine ⟨i + 1, by omega, by go_num, ?_, (HB.out.trans (HBA.out.mono hsz)).grown HG9.out hsz2 (fun g hg => own_base S1.out hg)⟩
        rw [List.replicate_succ']
        exact DocsSt.snoc (W := wr.alloc (.cells C1990 5)) (by rw [List.length_replicate]; exact S1.out.alloc _) (by rw [List.length_replicate]; exact S2.out) (fun j h h' => (S3.out j h h').below HBA.out) (HZ.out wr) (by rw [List.length_replicate]; exact HO9.out) HG9.out
      case measure => simp [intOf]; omega
    · have hi' : i = 30 := by omega
      subst hi'
      have HZN : Hid (SlT 5 byV (wr.alloc (.cells (madeCells #[.int .u8 0] N) 5)) (.slice (some ⟨wr.heap.size, 0, none⟩) N N) (List.replicate N 0)) := Lib.hid (zeros_at wr N (by omega))
      generalize madeCells #[Value.int .u8 0] N = CN at *
      have hba : Below wr.heap.size wr (wr.alloc (.cells CN 5)) := (Below.refl _ wr).alloc (Nat.le_refl _) _
      have hsz2 : w.heap.size ≤ (wr.alloc (.cells CN 5)).heap.size := by simp; omega
      have HBA := Lib.hid hba
      clear hba hlt
      have hmk3 : (Instr.makeSlice 29 (.int .i64 (N : Nat)) (.int .i64 (N : Nat))).run Try.prog wr = .ok (.slice (some ⟨wr.heap.size, 0, none⟩) N N) (wr.alloc (.cells CN 5)) := hmk wr
      clear hmk hmk2
      have hLl : (List.replicate 30 D).length = 30 := List.length_replicate
      generalize List.replicate 30 D = L30 at *
      have HLL := Lib.hid hLl
      clear hLl
      obtain ⟨M, hM⟩ : ∃ M : Nat, (59730 : Int) + (N : Nat) = (M : Nat) := ⟨59730 + N, by omega⟩
      have hM1 : M ≤ 60100 := by omega
      have hMN : 269 < N ↔ 59999 < M := by omega
      by_cases h5 : 269 < N
      · have HE : Hid (mayE (L30 ++ [List.replicate N 0]) = 2) := Lib.hid (by rw [HM.out, if_pos h5])
        have h6 := hMN.1 h5
        clear HM hMN h5 hN1 hk8
        have hMM : (60000 : Int) < (M : Nat) + 1 := by omega
        go_wp2_with (first
          | (at_builtin; refine wp_app (W := wr.alloc (.cells CN 5)) w.heap.size 22 29 (.slice none 0 0) 1 24 (.tmp 26) (.tmp 29) rfl rfl Try.underlying22 info_bys rfl (by decide) (by decide) (.slice Ao 30 co) 30 dvs #[.slice (some ⟨wr.heap.size, 0, none⟩) N N] rfl (by rw [World.size_alloc]; rfl) (S1.out.alloc _) rfl (by intro u hu; simp at hu; subst hu; rfl) (by omega) hsz2 ?_; intro g cap w9 ho9 hg9 hat9 hgb9 hgl9 hgs9; have HDD : Hid (DocsR w9 _ (L30 ++ [List.replicate N 0])) := Lib.hid (DocsSt.snoc (W := wr.alloc (.cells CN 5)) (by rw [HLL.out]; exact S1.out.alloc _) (by rw [HLL.out]; exact S2.out) (fun j h h' => (S3.out j h h').below HBA.out) HZN.out (by rw [HLL.out]; exact ho9) hg9).docs; have HBB := Lib.hid ((HB.out.trans (HBA.out.mono hsz)).grown hg9 hsz2 (fun g hg => own_base S1.out hg)); clear ho9 hg9 hat9)
          | (go_at_call 22; go_must (refine (new_err _ _ _ HDD.out 2 HE.out (by decide)).mono ?_; rintro e w1 ⟨hb1, rfl⟩; have haw := Lib.hid (law_awake w1 (HG.out.below (HBB.out.trans (hb1.mono HBB.out.size)))); have HB1 := Lib.hid (HBB.out.trans (hb1.mono HBB.out.size)); clear hb1))
          | (go_at_call 21; go_must (refine haw.out.mono ?_; rintro e w6 ⟨rfl, hb6⟩; have HB6 := Lib.hid (HB1.out.trans (hb6.mono HB1.out.size)); clear hb6)))
        go_ret
        exact ⟨rfl, HB6.out⟩
      · have HE : Hid (mayE (L30 ++ [List.replicate N 0]) = 0) := Lib.hid (by rw [HM.out, if_neg h5])
        have h6 : ¬ 59999 < M := fun h => h5 (hMN.2 h)
        clear HM hMN h5 hN1 hk8
        have hMM : ¬ (60000 : Int) < (M : Nat) + 1 := by omega
        go_wp2_with (first
          | (at_builtin; refine wp_app (W := wr.alloc (.cells CN 5)) w.heap.size 22 29 (.slice none 0 0) 1 24 (.tmp 26) (.tmp 29) rfl rfl Try.underlying22 info_bys rfl (by decide) (by decide) (.slice Ao 30 co) 30 dvs #[.slice (some ⟨wr.heap.size, 0, none⟩) N N] rfl (by rw [World.size_alloc]; rfl) (S1.out.alloc _) rfl (by intro u hu; simp at hu; subst hu; rfl) (by omega) hsz2 ?_; intro g cap w9 ho9 hg9 hat9 hgb9 hgl9 hgs9; have HDD : Hid (DocsR w9 _ (L30 ++ [List.replicate N 0])) := Lib.hid (DocsSt.snoc (W := wr.alloc (.cells CN 5)) (by rw [HLL.out]; exact S1.out.alloc _) (by rw [HLL.out]; exact S2.out) (fun j h h' => (S3.out j h h').below HBA.out) HZN.out (by rw [HLL.out]; exact ho9) hg9).docs; have HBB := Lib.hid ((HB.out.trans (HBA.out.mono hsz)).grown hg9 hsz2 (fun g hg => own_base S1.out hg)); clear ho9 hg9 hat9)
          | (go_at_call 22; go_must (refine (new_zero _ _ _ HDD.out HE.out).mono ?_; rintro e w1 ⟨hb1, b, rfl⟩; have haw := Lib.hid (law_awake w1 (HG.out.below (HBB.out.trans (hb1.mono HBB.out.size)))); have HB1 := Lib.hid (HBB.out.trans (hb1.mono HBB.out.size)); clear hb1))
          | (go_at_call 21; go_must (refine haw.out.mono ?_; rintro e w6 ⟨rfl, hb6⟩; have HB6 := Lib.hid (HB1.out.trans (hb6.mono HB1.out.size)); clear hb6)))
        go_ret
        exact ⟨rfl, HB6.out⟩

theorem law_bounds (a b c : Int) (w : World) (hG : GL w) :
    Calls Try.prog 6 #[.int .i64 a, .int .i64 b, .int .i64 c] w fun e w' => e = .returned (.bool true) ∧ Below w.heap.size w w' := by
  by_cases h0 : c % 4 = 0
  · exact bounds_0 a b c w hG h0
  · by_cases h1 : c % 4 = 1
    · exact bounds_1 a b c w hG h1
    · exact bounds_2 a b c w hG (by omega)
end Go.Proofs.Ytinlmodkdjpocaa
