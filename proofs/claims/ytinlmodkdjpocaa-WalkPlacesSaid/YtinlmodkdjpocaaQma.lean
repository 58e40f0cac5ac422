/- the document: Bwt. law 12: Made. law 12: what the document fixes (awake). -/
import Derived.Test.YtinlmodkdjpocaaQrf
import Derived.Test.YtinlmodkdjpocaaQbw
import Derived.Test.YtinlmodkdjpocaaQbk
import Derived.Test.YtinlmodkdjpocaaTxz
set_option linter.unusedVariables false
namespace Go.Proofs.Ytinlmodkdjpocaa
open Go.RowKit Go.Shelf

theorem aheadH_lt (ds : List (List UInt8)) (a : Nat × Nat) : aheadH ds a ≤ 256 := by
  unfold aheadH
  split
  · have := ((ds.getD a.1 []).getD (a.2 - 1) 0).toNat_lt; omega
  · omega

set_option maxRecDepth 100000 in
set_option maxHeartbeats 4000000 in
theorem ref_bwt (ds : List (List UInt8)) (dv : Value) (w : World) (hd : SlR strV w dv ds) (hb : (rowOf ds).length ≤ 1000000) :
    Calls Try.prog 53 #[dv] w fun e w' => ∃ v', e = .returned v' ∧ SlR symV w' v' (bwtOf (rowOf ds)) ∧ Below w.heap.size w w' := by
  obtain ⟨A, c, rfl, h1, h2, -⟩ := hd.form
  have hro := Lib.hid (ref_rows ds (.slice A ds.length c) w hd hb)
  have HD := Lib.hid hd
  have HDS := Lib.hid (dsOk_row ds hb)
  clear hd
  go_enter Try.func53, Try.ntmps53
  go_wp2_with (first
    | (go_at_call 55; go_must (with_reducible refine hro.out.mono ?_; rintro e w1 ⟨v1, hs, rfl, hh1, hr1, hb1⟩)))
  obtain ⟨B, c', rfl, h3, h4, -⟩ := id hh1
  have hln : hs.length ≤ 1000000 := by rw [hr1.length]; exact hb
  have HH := Lib.hid hh1
  have HR := Lib.hid hr1
  have HB1 := Lib.hid hb1
  clear hh1 hr1 hb1 hro
  go_loopw [4, 5] (fun ov iv wr => ∃ i : Nat, i ≤ hs.length ∧ iv = .int .i64 i ∧ wr.ownsRow w1.heap.size 95 1 ov i (((hs.take i).map (aheadH ds)).map symV) ∧ Below w1.heap.size w1 wr) (fun _ iv _ => hs.length - (intOf iv).toNat)
  case atStart => exact ⟨0, Nat.zero_le _, rfl, World.ownsRow_nil _ _ _ _, Below.refl _ _⟩
  case round =>
    obtain ⟨i, hi, rfl, ho, hbe⟩ := hrel
    obtain ⟨Ao, co, rfl⟩ := own_form ho
    have HO := Lib.hid ho
    have HB := Lib.hid hbe
    have hsz := hbe.size
    clear ho
    by_cases hlt : i < hs.length
    · obtain ⟨ad, rfl, c1, c2⟩ := HH.out.at_ i hlt
      obtain ⟨hda, hoa⟩ := HR.out.mem (List.getElem_mem hlt)
      have hlenO := HDS.out.2 _ hda
      have hT : ((hs.take (i + 1)).map (aheadH ds)).map symV = ((hs.take i).map (aheadH ds)).map symV ++ [.int .u16 ((aheadH ds hs[i] : Nat) : Int)] := by
        rw [List.take_succ_eq_append_getElem hlt, List.map_append, List.map_append]; rfl
      have hah : aheadH ds hs[i] = if 0 < hs[i].2 then ((ds.getD hs[i].1 []).getD (hs[i].2 - 1) 0).toNat + 1 else 0 := rfl
      generalize hs[i] = a at *
      obtain ⟨d, o⟩ := a
      simp only [natV] at c1 c2 hda hoa hlenO hah
      have c1' := (hbe.cell (World.block_lt_of_cell? w1 _ c1)).trans c1
      have c2' := hit_second ((hbe.cell (World.block_lt_of_cell? w1 _ c2)).trans c2)
      have c2w := (hbe.cell (World.block_lt_of_cell? w1 _ c2)).trans c2
      obtain ⟨ad2, e2, cs⟩ := HD.out.at_ d hda
      have cs' := (hbe.cell (by have := World.block_lt_of_cell? w _ cs; have := HB1.out.size; omega)).trans ((HB1.out.cell (World.block_lt_of_cell? w _ cs)).trans cs)
      subst e2
      have HT := Lib.hid hT
      clear hT c1 c2 cs hbe
      have gd : ds.getD d [] = ds[d] := by simp [List.getD, hda]
      by_cases ho0 : 0 < o
      · rw [if_pos ho0, gd] at hah
        have hol : o - 1 < ds[d].length := by omega
        have hgb : ds[d].getD (o - 1) 0 = ds[d][o - 1] := by simp [List.getD, hol]
        rw [hgb] at hah
        have hw1 : IntKind.i64.wrap ((o : Int) - 1) = (o : Int) - 1 := IntWalk.i64_in _ (by omega)
        obtain ⟨q, rfl⟩ : ∃ q, o = q + 1 := ⟨o - 1, by omega⟩
        simp only [Nat.add_sub_cancel] at hah hol
        have hq : ((q + 1 : Nat) : Int) - 1 = (q : Nat) := by omega
        rw [hq] at hw1
        have hsd : (⟨ds[d].toArray⟩ : ByteArray).size = ds[d].length := by simp [ByteArray.size]
        have hbx : (⟨ds[d].toArray⟩ : ByteArray)[q]'(by rw [hsd]; exact hol) = ds[d][q] := by simp [ByteArray.getElem_eq_getElem_data]
        have hb255 := (ds[d][q]).toNat_lt
        simp only [strV] at cs'
        generalize (⟨ds[d].toArray⟩ : ByteArray) = S at *
        go_wp2
        go_quiet (fail)
        have HOd : Hid (∀ q, (wr.drewN q).ownsRow w1.heap.size 95 1 (.slice Ao i co) i (((hs.take i).map (aheadH ds)).map symV)) := Lib.hid (fun q => own_below HO.out (below_drewN (Below.refl _ _) q))
        have HBd : Hid (∀ q, Below w1.heap.size w1 (wr.drewN q)) := Lib.hid (fun q => below_drewN HB.out q)
        go_wp2_with (at_builtin; refine wp_app (W := wr.drewN nq) w1.heap.size 51 95 (.int .u16 0) 1 2 (.tmp 38) (.tmp 40) rfl rfl Try.underlying51 info_u16 rfl (by decide) (by decide) (.slice Ao i co) i _ #[.int .u16 ((ds[d][q].toNat : Nat) + 1)] rfl rfl (HOd.out nq) rfl (by intro u hu; simp at hu; subst hu; rfl) (by omega) hsz ?_; intro g cap w6 ho6 hg6 hat6 hgb6 hgl6 hgs6; have HO6 := Lib.hid ho6; have HG6 := Lib.hid hg6; clear ho6 hg6 hat6)
        go_roundw
        case rel => exact ⟨i + 1, by omega, by go_num, by rw [HT.out, hah]; exact HO6.out, (HBd.out nq).grown HG6.out hsz (fun g hg => own_base HO.out hg)⟩
        case measure => simp [intOf]; omega
      · obtain rfl : o = 0 := by omega
        rw [if_neg ho0] at hah
        go_wp2_with (at_builtin; refine wp_app w1.heap.size 51 95 (.int .u16 0) 1 2 (.tmp 38) (.tmp 40) rfl rfl Try.underlying51 info_u16 rfl (by decide) (by decide) (.slice Ao i co) i _ #[.int .u16 0] rfl rfl HO.out rfl (by intro u hu; simp at hu; subst hu; rfl) (by omega) hsz ?_; intro g cap w6 ho6 hg6 hat6 hgb6 hgl6 hgs6; have HO6 := Lib.hid ho6; have HG6 := Lib.hid hg6; clear ho6 hg6 hat6)
        go_roundw
        case rel => exact ⟨i + 1, by omega, by go_num, by rw [HT.out, hah]; exact HO6.out, HB.out.grown HG6.out hsz (fun g hg => own_base HO.out hg)⟩
        case measure => simp [intOf]; omega
    · have hi' : i = hs.length := by omega
      subst hi'
      have ho := HO.out
      rw [List.take_length, HR.out.bwt] at ho
      have HO2 := Lib.hid ho
      clear ho HO
      go_wp2
      go_ret
      exact ⟨_, rfl, SlR.of_own HO2.out, HB1.out.trans (hbe.mono HB1.out.size)⟩
end Go.Proofs.Ytinlmodkdjpocaa

set_option linter.unusedVariables false
namespace Go.Proofs.Ytinlmodkdjpocaa
open Go.RowKit Go.Shelf

theorem bwt_le (ds : List (List UInt8)) : ∀ x ∈ bwtOf (rowOf ds), x ≤ 256 := by
  intro x hx
  unfold bwtOf at hx
  obtain ⟨p, hp, rfl⟩ := List.mem_map.1 hx
  have hlt : p < (rowOf ds).length := by
    have := (saOf_is (rowOk_rowOf ds)).1.mem_iff.1 hp
    simpa using this
  obtain ⟨d, hd, o, ho, rfl⟩ := place_ex ds p hlt
  rw [ahead_at ds d hd o ho]
  split
  · exact Nat.succ_le_of_lt (by have := UInt8.toNat_lt (ds[d][o - 1]'(by omega)); omega)
  · omega
theorem docsE_bwt (ds : List (List UInt8)) (h : okDs ds) : docsE (bwtOf (rowOf ds)) = 0 := by
  have hl : (bwtOf (rowOf ds)).length ≤ 60000 := by rw [bwtOf_length (rowOk_rowOf ds)]; exact h.2.2
  have ha : (bwtOf (rowOf ds)).any (fun x => decide (256 < x)) = false := by
    rw [List.any_eq_false]
    intro x hx
    have := bwt_le ds x hx
    simp; omega
  unfold docsE
  rw [if_neg (by rw [ha]; simp; omega), docsP_bwt ds h]
  simp

set_option maxRecDepth 100000 in
set_option maxHeartbeats 2000000 in
/-- an Index of documents -/
theorem law_made (ds : List (List UInt8)) (v : Value) (w : World) (hd : DocsR w v ds) (hok : okDs ds) :
    Calls Try.prog 33 #[v] w fun e w' => ∃ b, e = .returned (.pointer (some ⟨b, 0, none⟩)) ∧ w.heap.size ≤ b ∧ IdxR w' b (bwtOf (rowOf ds)) ∧ Below w.heap.size w w' := by
  have h1 := Lib.hid (ref_strings ds v w hd (by have := hok.1; omega))
  have h2 := Lib.hid (fun v1 w1 (h : SlR strV w1 v1 ds) => ref_bwt ds v1 w1 h (by have := hok.2.2; omega))
  have h3 := Lib.hid (fun v1 w1 (h : SlR symV w1 v1 (bwtOf (rowOf ds))) => back_new v1 (bwtOf (rowOf ds)) w1 h (fun x hx => by have := bwt_le ds x hx; omega))
  have h0 := Lib.hid (docsE_bwt ds hok)
  obtain ⟨A, c, rfl, k1, k2, -⟩ := hd.form
  clear hd hok
  go_enter Try.func33, Try.ntmps33
  go_wp2_with (first
    | (go_at_call 28; go_must ((with_reducible refine h1.out.mono ?_); rintro e w1 ⟨v1, rfl, hs1, hb1⟩; have S1 := Lib.hid hs1; have B1 := Lib.hid hb1; clear hs1 hb1))
    | (go_at_call 53; go_must ((with_reducible refine (h2.out _ _ S1.out).mono ?_); rintro e w2 ⟨v2, rfl, hs2, hb2⟩; have S2 := Lib.hid hs2; have B2 := Lib.hid hb2; clear hs2 hb2))
    | (go_at_call 35; go_must ((with_reducible refine (h3.out _ _ S2.out).mono ?_); intro e w3 hn3; obtain ⟨hb3, hn3⟩ := hn3; obtain ⟨b, hb, rfl, hx⟩ := (hn3.resolve_left (fun h => h.1 h0.out)).2; have HX := Lib.hid hx; have B3 := Lib.hid hb3; have HB := Lib.hid hb; clear hn3 hx hb3 hb)))
  go_ret
  have hb1 := B1.out.size
  have hb2 := B2.out.size
  have hb3 := HB.out
  exact ⟨b, rfl, by omega, HX.out, B1.out.trans ((B2.out.mono hb1).trans (B3.out.mono (by omega)))⟩
end Go.Proofs.Ytinlmodkdjpocaa

set_option linter.unusedVariables false
namespace Go.Proofs.Ytinlmodkdjpocaa
open Go.RowKit Go.Shelf

def aw12 : List (List UInt8) := [[98, 97], [97]]
theorem aw12_ok : okDs aw12 := by decide
theorem aw12_row : (rowOf aw12).length = 5 := by decide
theorem aw12_hits : (hits [97] aw12).length = 2 := by decide
theorem docsE_one : docsE [98] = 3 := by
  have h : docsP [98] = none := by
    cases h : docsP [98] with
    | none => rfl
    | some ds =>
      obtain ⟨h1, h2⟩ := docsP_some h
      have h3 := count_zero_bwt ds
      rw [← h2] at h3
      have h4 : ds = [] := List.eq_nil_of_length_eq_zero (by rw [← h3]; decide)
      subst h4
      have h5 := congrArg List.length h2
      rw [bwtOf_length (rowOk_rowOf [])] at h5
      simp [rowOf] at h5
  unfold docsE
  rw [h]
  decide

theorem aw12_docs (w : World) : DocsR (((w.alloc (.cells #[.int .u8 98, .int .u8 97] 5 (2, 3))).alloc (.cells #[.int .u8 97] 5 (1, 2))).alloc (.cells #[.slice (some ⟨w.heap.size, 0, none⟩) 2 2, .slice (some ⟨w.heap.size + 1, 0, none⟩) 1 1] 29)) (.slice (some ⟨w.heap.size + 1 + 1, 0, none⟩) 2 2) aw12 := by
  obtain ⟨W, hW⟩ : ∃ W, ((w.alloc (.cells #[.int .u8 98, .int .u8 97] 5 (2, 3))).alloc (.cells #[.int .u8 97] 5 (1, 2))).alloc (.cells #[.slice (some ⟨w.heap.size, 0, none⟩) 2 2, .slice (some ⟨w.heap.size + 1, 0, none⟩) 1 1] 29) = W := ⟨_, rfl⟩
  have g0 : W.heap[w.heap.size]? = some (.cells #[.int .u8 98, .int .u8 97] 5 (2, 3)) := by
    rw [← hW]; exact heap_old (heap_old (heap_alloc_new w _))
  have g1 : W.heap[w.heap.size + 1]? = some (.cells #[.int .u8 97] 5 (1, 2)) := by
    rw [← hW]
    have := heap_alloc_new (w.alloc (.cells #[.int .u8 98, .int .u8 97] 5 (2, 3))) (.cells #[.int .u8 97] 5 (1, 2))
    rw [World.size_alloc] at this
    exact heap_old this
  have g2 : W.heap[w.heap.size + 1 + 1]? = some (.cells #[.slice (some ⟨w.heap.size, 0, none⟩) 2 2, .slice (some ⟨w.heap.size + 1, 0, none⟩) 1 1] 29 (0, 0)) := by
    rw [← hW]
    have := heap_alloc_new ((w.alloc (.cells #[.int .u8 98, .int .u8 97] 5 (2, 3))).alloc (.cells #[.int .u8 97] 5 (1, 2))) (.cells #[.slice (some ⟨w.heap.size, 0, none⟩) 2 2, .slice (some ⟨w.heap.size + 1, 0, none⟩) 1 1] 29)
    simp only [World.size_alloc] at this
    exact this
  rw [hW]
  refine ⟨[.slice (some ⟨w.heap.size, 0, none⟩) 2 2, .slice (some ⟨w.heap.size + 1, 0, none⟩) 1 1], rfl, ⟨_, _, rfl, Nat.le_refl 2, (by decide : 2 ≤ 9223372036854775807), .inr ⟨_, rfl, fun j hj => ?_⟩⟩, fun j h h' => ?_⟩
  · match j, hj with
    | 0, _ => rw [add_spot]; simp only [World.cell?, g2]; rfl
    | 1, _ => rw [add_spot]; simp only [World.cell?, g2]; rfl
  · match j, h with
    | 0, _ => exact ⟨_, _, rfl, Nat.le_refl 2, (by decide : 2 ≤ 9223372036854775807), .inr ⟨_, rfl, fun j hj => by
        match j, hj with
        | 0, _ => rw [add_spot]; simp only [World.cell?, g0]; rfl
        | 1, _ => rw [add_spot]; simp only [World.cell?, g0]; rfl⟩⟩
    | 1, _ => exact ⟨_, _, rfl, Nat.le_refl 1, (by decide : 1 ≤ 9223372036854775807), .inr ⟨_, rfl, fun j hj => by
        match j, hj with
        | 0, _ => rw [add_spot]; simp only [World.cell?, g1]; rfl⟩⟩
theorem aw12_sym (w : World) : SlR symV (w.alloc (.cells #[.int .u16 98] 95)) (.slice (some ⟨w.heap.size, 0, none⟩) 1 1) [98] := by
  have g0 := heap_alloc_new w (.cells #[.int .u16 98] 95)
  refine ⟨_, _, rfl, by decide, by decide, .inr ⟨_, rfl, fun j hj => ?_⟩⟩
  match j, hj with
  | 0, _ => rw [add_spot]; simp only [World.cell?, g0]; rfl
theorem aw12_byte (w : World) : SlR byV (w.alloc (.cells #[.int .u8 97] 5 (1, 2))) (.slice (some ⟨w.heap.size, 0, none⟩) 1 1) [97] := by
  have g0 := heap_alloc_new w (.cells #[.int .u8 97] 5 (1, 2))
  refine ⟨_, _, rfl, by decide, by decide, .inr ⟨_, rfl, fun j hj => ?_⟩⟩
  match j, hj with
  | 0, _ => rw [add_spot]; simp only [World.cell?, g0]; rfl

set_option maxRecDepth 100000 in
set_option maxHeartbeats 2000000 in
theorem law12_awake (w : World) : Calls Try.prog 32 #[] w fun e w' => e = .returned (.bool true) ∧ Below w.heap.size w w' := by
  obtain ⟨w2, hw2⟩ : ∃ w2, ((w.alloc (.cells #[.int .u8 98, .int .u8 97] 5 (2, 3))).alloc (.cells #[.int .u8 97] 5 (1, 2))).alloc (.cells #[.slice (some ⟨w.heap.size, 0, none⟩) 2 2, .slice (some ⟨w.heap.size + 1, 0, none⟩) 1 1] 29) = w2 := ⟨_, rfl⟩
  have hd := aw12_docs w
  rw [hw2] at hd
  have hb2 : Below w.heap.size w w2 := by rw [← hw2]; exact (((Below.refl _ w).alloc (Nat.le_refl _) _).alloc (by simp) _).alloc (by simp; omega) _
  have hmade := Lib.hid (law_made aw12 _ w2 hd aw12_ok)
  have HW := Lib.hid hw2
  have HB2 := Lib.hid hb2
  clear hd hw2 hb2
  have kc := Lib.run_convert_bytes_const (P := Try.prog) w 29 5 #[.int .u8 98, .int .u8 97] 2 2 Try.underlying29 Try.underlying5
  have kd := Lib.run_convert_bytes_const (P := Try.prog) (w.alloc (.cells #[.int .u8 98, .int .u8 97] 5 (2, 3))) 29 5 #[.int .u8 97] 1 1 Try.underlying29 Try.underlying5
  rw [World.size_alloc] at kd
  go_enter Try.func32, Try.ntmps32
  go_wp2_with fail
  clear kc kd
  rw [HW.out]
  refine hmade.out.mono ?_
  rintro e w3 ⟨b, rfl, hb, hx, hb3⟩
  have hnew := Lib.hid (back_new _ [98] _ (aw12_sym w3) (by decide))
  have HX := Lib.hid hx
  have hbe := Lib.hid (HB2.out.trans (hb3.mono HB2.out.size))
  have h98 := Lib.hid docsE_one
  clear hb hx hb3 hmade HB2 HW
  go_wp2_with fail
  refine hnew.out.mono ?_
  intro e w4 hp
  obtain ⟨hb4, hp⟩ := hp
  rcases hp with ⟨-, rfl⟩ | ⟨h, -⟩
  · rw [h98.out]
    have hx4 := HX.out.later (((Below.refl _ w3).alloc (Nat.le_refl _) _).trans (hb4.mono (by simp)))
    have hbe4 := hbe.out.trans (((Below.refl _ w3).alloc (Nat.le_refl _) _).trans (hb4.mono (by simp)) |>.mono hbe.out.size)
    have hx5 := Lib.hid (fun W (hW : Below w4.heap.size w4 W) => hx4.later hW)
    have HBE := Lib.hid hbe4
    have hc := fun W h => back_count b (bwtOf (rowOf aw12)) (.slice (some ⟨w4.heap.size, 0, none⟩) 1 1) [97] W (hx5.out W h)
    have hl := fun W h => back_len b (bwtOf (rowOf aw12)) W (hx5.out W h)
    have hdn := fun W h => back_docsN b (bwtOf (rowOf aw12)) W (hx5.out W h)
    rw [countL_bwt, aw12_hits] at hc
    rw [bwtOf_length (rowOk_rowOf aw12), aw12_row] at hl
    rw [count_zero_bwt] at hdn
    have HC := Lib.hid hc
    have HL := Lib.hid hl
    have HDN := Lib.hid hdn
    clear hx4 hbe4 hc hl hdn hb4 HX hbe h98 hnew
    have kd := Lib.run_convert_bytes_const (P := Try.prog) w4 29 5 #[.int .u8 97] 1 1 Try.underlying29 Try.underlying5
    go_wp2_with (first
      | (go_at_call 34; go_must ((refine (HC.out _ ((Below.refl _ w4).alloc (Nat.le_refl _) _) (aw12_byte w4) (by decide)).mono ?_); rintro e w5 ⟨rfl, hb5⟩; have HB5 := Lib.hid (((Below.refl w4.heap.size w4).alloc (Nat.le_refl _) _).trans (hb5.mono (by simp))); clear hb5))
      | (go_at_call 39; go_must ((refine (HDN.out _ HB5.out).mono ?_); rintro e w6 ⟨rfl, rfl⟩))
      | (go_at_call 38; go_must ((refine (HL.out _ HB5.out).mono ?_); rintro e w6 ⟨rfl, rfl⟩)))
    go_ret
    exact ⟨rfl, HBE.out.trans (HB5.out.mono HBE.out.size)⟩
  · rw [h98.out] at h; cases h
end Go.Proofs.Ytinlmodkdjpocaa
