/- text: what the document fixes (awake). -/
import Derived.Test.YtinlmodkdjpocaaTxh
import Derived.Lib.SlBytesConst
import Derived.Lib.SlBytesRow
import Derived.WalkSmall
set_option linter.unusedVariables false
namespace Go.Proofs.Ytinlmodkdjpocaa
open Go.RowKit Go.Shelf

theorem GL.below {w w' : World} (h : GL w) (hb : Below w.heap.size w w') : GL w' := by
  obtain ⟨m, hm⟩ := h
  exact ⟨m, (hb.cell (World.block_lt_of_cell? w _ hm)).trans hm⟩

def awDs : List (List UInt8) := [[97, 97, 97], []]
theorem aw_hits : hits [97, 97] awDs = [(0, 0), (0, 1)] := by decide
theorem aw_row : rowOf awDs = [98, 98, 98, 0, 0] := by decide

theorem aw_docs (w : World) : DocsR ((w.alloc (.cells #[.int .u8 97, .int .u8 97, .int .u8 97] 5 (3, 4))).alloc (.cells #[.slice (some ⟨w.heap.size, 0, none⟩) 3 3, .slice none 0 0] 29)) (.slice (some ⟨w.heap.size + 1, 0, none⟩) 2 2) awDs := by
  have g1 : ((w.alloc (.cells #[.int .u8 97, .int .u8 97, .int .u8 97] 5 (3, 4))).alloc (.cells #[.slice (some ⟨w.heap.size, 0, none⟩) 3 3, .slice none 0 0] 29)).heap[w.heap.size + 1]? = some (.cells #[.slice (some ⟨w.heap.size, 0, none⟩) 3 3, .slice none 0 0] 29 (0, 0)) := by
    have := heap_alloc_new (w.alloc (.cells #[.int .u8 97, .int .u8 97, .int .u8 97] 5 (3, 4))) (.cells #[.slice (some ⟨w.heap.size, 0, none⟩) 3 3, .slice none 0 0] 29)
    rwa [World.size_alloc] at this
  have g0 : ((w.alloc (.cells #[.int .u8 97, .int .u8 97, .int .u8 97] 5 (3, 4))).alloc (.cells #[.slice (some ⟨w.heap.size, 0, none⟩) 3 3, .slice none 0 0] 29)).heap[w.heap.size]? = some (.cells #[.int .u8 97, .int .u8 97, .int .u8 97] 5 (3, 4)) := by
    rw [Below.heap_alloc _ _ _ (by simp)]; exact heap_alloc_new w _
  refine ⟨[.slice (some ⟨w.heap.size, 0, none⟩) 3 3, .slice none 0 0], rfl, ⟨_, _, rfl, Nat.le_refl 2, (by decide : 2 ≤ 9223372036854775807), .inr ⟨_, rfl, fun j hj => ?_⟩⟩, fun j h h' => ?_⟩
  · match j, hj with
    | 0, _ => rw [add_spot]; simp only [World.cell?, g1]; rfl
    | 1, _ => rw [add_spot]; simp only [World.cell?, g1]; rfl
  · match j, h with
    | 0, _ => exact ⟨_, _, rfl, Nat.le_refl 3, (by decide : 3 ≤ 9223372036854775807), .inr ⟨_, rfl, fun j hj => by
        match j, hj with
        | 0, _ => rw [add_spot]; simp only [World.cell?, g0]; rfl
        | 1, _ => rw [add_spot]; simp only [World.cell?, g0]; rfl
        | 2, _ => rw [add_spot]; simp only [World.cell?, g0]; rfl⟩⟩
    | 1, _ => exact SlR.nil _

theorem aw_two (w : World) : HitsR (w.alloc (.cells #[.int .i64 0, .int .i64 0, .int .i64 0, .int .i64 1] 77)) (.slice (some ⟨w.heap.size, 0, none⟩) 2 2) [(0, 0), (0, 1)] := by
  have g0 := heap_alloc_new w (.cells #[.int .i64 0, .int .i64 0, .int .i64 0, .int .i64 1] 77)
  refine ⟨_, _, rfl, by decide, by decide, .inr ⟨_, rfl, fun j hj => ?_⟩⟩
  match j, hj with
  | 0, _ => refine ⟨?_, ?_⟩ <;> rw [add_spot] <;> simp only [World.cell?, g0] <;> rfl
  | 1, _ => refine ⟨?_, ?_⟩ <;> rw [add_spot] <;> simp only [World.cell?, g0] <;> rfl

set_option maxRecDepth 100000 in
set_option maxHeartbeats 2000000 in
theorem law_awake (w : World) (hG : GL w) : Calls Try.prog 21 #[] w fun e w' => e = .returned (.bool true) ∧ Below w.heap.size w w' := by
  obtain ⟨w2, hw2⟩ : ∃ w2, (w.alloc (.cells #[.int .u8 97, .int .u8 97, .int .u8 97] 5 (3, 4))).alloc (.cells #[.slice (some ⟨w.heap.size, 0, none⟩) 3 3, .slice none 0 0] 29) = w2 := ⟨_, rfl⟩
  have hd := aw_docs w
  rw [hw2] at hd
  have hb2 : Below w.heap.size w w2 := by rw [← hw2]; exact ((Below.refl _ w).alloc (Nat.le_refl _) _).alloc (by simp) _
  have hnew := Lib.hid (text_new awDs _ w2 hd)
  have HW := Lib.hid hw2
  have HB2 := Lib.hid hb2
  have HG := Lib.hid hG
  clear hd hw2 hb2 hG
  have kc := Lib.run_convert_bytes_const (P := Try.prog) w 29 5 #[.int .u8 97, .int .u8 97, .int .u8 97] 3 3 Try.underlying29 Try.underlying5
  go_enter Try.func21, Try.ntmps21
  go_wp2_with fail
  clear kc
  rw [HW.out]
  refine hnew.out.mono ?_
  rintro e w3 ⟨hb3, h3⟩
  have hmay : mayE awDs = 0 := by decide
  rcases h3 with ⟨h, -⟩ | ⟨-, b, hb, rfl, ht⟩
  · exact absurd hmay h
  have hbe := Lib.hid (HB2.out.trans (hb3.mono HB2.out.size))
  have HG3 : Hid (GL w3) := Lib.hid (HG.out.below hbe.out)
  have HT := Lib.hid ht
  clear hmay hb3 ht hb hnew HB2 HW HG
  have hat := Lib.hid (text_at b awDs 1 0 w3 HT.out (by decide) (by decide) (by decide) (by decide))
  go_wp2_with (go_at_call 31; go_must (refine hat.out.mono ?_; rintro e w4 ⟨rfl, q, rfl⟩))
  have HT4 : Hid (TextR (w3.drewN q) b awDs) := Lib.hid (HT.out.below (Nat.le_refl _) (below_drewN (Below.refl _ _) q))
  have HG4 : Hid (GL (w3.drewN q)) := Lib.hid (HG3.out.below (below_drewN (Below.refl _ _) q))
  have hbe4 := Lib.hid (below_drewN hbe.out q)
  clear HT HG3 hbe hat
  generalize w3.drewN q = w5 at *
  have hlen := Lib.hid (text_len b awDs w5 HT4.out)
  have hdocs := Lib.hid (text_docs b awDs w5 HT4.out)
  have hfind := Lib.hid (law_find b awDs [97, 97] 9 w5 HT4.out HG4.out (by decide) (by decide) (by decide))
  have el : ((rowOf awDs).length : Int) = 5 := by decide
  have ed : (awDs.length : Int) = 2 := by decide
  have e3 : symAt (rowOf awDs) 3 = 0 := by decide
  have e0 : symAt (rowOf awDs) 0 = 98 := by decide
  have E3 := Lib.hid e3
  have E0 := Lib.hid e0
  rw [aw_hits] at hfind
  rw [el] at hlen
  rw [ed] at hdocs
  clear e3 e0 el ed
  go_wp2_with (first
    | (go_at_call 24; go_must (refine hlen.out.mono ?_; rintro e w6 ⟨rfl, rfl⟩))
    | (go_at_call 68; go_must (refine hdocs.out.mono ?_; rintro e w6 ⟨rfl, rfl⟩))
    | (go_at_call 23; go_must (refine (text_sym b awDs _ _ HT4.out).mono ?_; rintro e w6 ⟨rfl, rfl⟩; first | rw [E3.out] | rw [E0.out]))
    | (go_at_call 25; go_must (refine hfind.out.mono ?_; rintro e w6 ⟨v6, rfl, hh6, hb6⟩; have HH := Lib.hid hh6; have HB6 := Lib.hid hb6; clear hh6 hb6))
    | (go_at_call 29; go_must (refine (same_hits _ _ [(0, 0), (0, 1)] _ (HH.out.later ((Below.refl _ w6).alloc (Nat.le_refl _) _)) (aw_two w6)).mono ?_; rintro e w7 ⟨rfl, q7, rfl⟩)))
  go_ret
  exact ⟨rfl, below_drewN ((hbe4.out.trans (HB6.out.mono hbe4.out.size)).alloc (Nat.le_trans hbe4.out.size HB6.out.size) _) _⟩
end Go.Proofs.Ytinlmodkdjpocaa
