/- text: Find, and what the laws make of it. -/
import Derived.Test.YtinlmodkdjpocaaTxd
import Derived.Lib.ConvBytes
set_option linter.unusedVariables false
namespace Go.Proofs.Ytinlmodkdjpocaa
open Go.RowKit Go.Shelf
attribute [local go_sem] Oper.semAt_some

theorem find_any (b : Nat) (pv : Value) (p : List UInt8) (w : World) (hp : SlR byV w pv p) (hpl : p.length ≤ 100000000000) :
    Calls Try.prog 70 #[.pointer (some ⟨b, 0, none⟩), pv] w fun e w' => ∃ pv', e = .returned (.func (.func 95) #[] #[.pointer (some ⟨w.heap.size, 0, none⟩), .pointer (some ⟨w.heap.size + 1, 0, none⟩)]) ∧
      w'.heap[w.heap.size]? = some (.cells #[.pointer (some ⟨b, 0, none⟩)] 25 (0, 0)) ∧ w'.heap[w.heap.size + 1]? = some (.cells #[pv'] 29 (0, 0)) ∧ w'.ownsRow (w.heap.size + 2) 5 1 pv' p.length (p.map byV) ∧ Below w.heap.size w w' ∧ w.heap.size + 2 ≤ w'.heap.size := by
  obtain ⟨A, c, rfl, _, _, -⟩ := hp.form
  obtain ⟨w2, hw2⟩ : ∃ w2, (w.alloc (.cells #[.pointer (some ⟨b, 0, none⟩)] 25)).alloc (.cells #[.slice A p.length c] 29) = w2 := ⟨_, rfl⟩
  have hb2 : Below w.heap.size w w2 := by rw [← hw2]; exact ((Below.refl _ w).alloc (Nat.le_refl _) _).alloc (by simp) _
  have hs2 : w2.heap.size = w.heap.size + 2 := by rw [← hw2]; simp
  have g0 : w2.heap[w.heap.size]? = some (.cells #[.pointer (some ⟨b, 0, none⟩)] 25 (0, 0)) := by
    rw [← hw2, Below.heap_alloc _ _ _ (by simp)]; exact heap_alloc_new w _
  have g1 : w2.heap[w.heap.size + 1]? = some (.cells #[.slice A p.length c] 29 (0, 0)) := by
    rw [← hw2]
    have := heap_alloc_new (w.alloc (.cells #[.pointer (some ⟨b, 0, none⟩)] 25)) (.cells #[.slice A p.length c] 29)
    rwa [World.size_alloc] at this
  have hcl := Lib.hid (clone_by _ p w2 (hp.later hb2) hpl)
  have G0 := Lib.hid g0
  have G1 := Lib.hid g1
  have HB := Lib.hid hb2
  have HS := Lib.hid hs2
  have HW := Lib.hid hw2
  clear hb2 hs2 g0 g1 hp hw2
  go_enter Try.func70, Try.ntmps70
  go_wp2_with fail
  rw [HW.out]
  refine hcl.out.mono ?_
  rintro e w3 ⟨v3, rfl, ho3, hb3⟩
  have h3 : w3.heap[w.heap.size + 1]? = some (.cells #[.slice A p.length c] 29 (0, 0)) := (hb3.block _ (by rw [HS.out]; omega)).trans G1.out
  have c3 : w3.cell? ⟨w.heap.size + 1, 0, none⟩ = some (.slice A p.length c) := by rw [cell_of_block h3]; rfl
  have f3 : w3.frozen? ⟨w.heap.size + 1, 0, none⟩ = false := free_of_block h3
  obtain ⟨A3, c3', rfl, -, -, -⟩ := (SlR.of_own (enc := byV) ho3).form
  have H3 := Lib.hid h3
  have HO := Lib.hid ho3
  have HB3 := Lib.hid hb3
  clear h3 ho3 hb3 hcl
  go_wp2
  go_ret
  rw [HS.out] at HO HB3
  refine ⟨.slice A3 p.length c3', rfl, ?_, ?_, ?_, ?_, ?_⟩
  · rw [Below.heap_setCell _ _ _ _ (by simp)]
    exact (HB3.out.block _ (by omega)).trans G0.out
  · rw [heap_setCell_same H3.out]; rfl
  · exact ownsRow_setCell_below HO.out (by simp) _
  · exact (HB.out.trans (HB3.out.mono (by omega))).setCell (by simp) _
  · have := HB3.out.size; have := HS.out; rw [World.size_setCell]; omega

theorem info_hit : (Try.prog.info? 77).map (fun i => (i.zero, i.size, i.bytes)) = some (some (.agg #[.int .i64 0, .int .i64 0]), 2, 16) := by kernel_rfl

/-- '[]byte(s)' -/
theorem conv_str (p : List UInt8) (w : World) (hp : p.length ≤ 100000000000) : ∃ cp w', (convert 9 29 (strV p)).run Try.prog w = .ok (.slice (some ⟨w.heap.size, 0, none⟩) p.length cp) w' ∧ SlR byV w' (.slice (some ⟨w.heap.size, 0, none⟩) p.length cp) p ∧ Below w.heap.size w w' ∧ w'.heap.size = w.heap.size + 1 := by
  have h := Lib.run_convert_string_bytes (P := Try.prog) w 9 29 5 ⟨p.toArray⟩ Try.underlying9 Try.underlying29 Try.underlying5
  have hsz : (⟨p.toArray⟩ : ByteArray).size = p.length := by simp [ByteArray.size]
  rw [hsz] at h
  refine ⟨_, _, h, ⟨_, _, rfl, grownCap_ge _ _ _ _, by have := grownCap_le_maxLen w p.length 0 5 (by unfold maxLen; omega); unfold maxLen at this; omega, .inr ⟨_, rfl, fun j hj => ?_⟩⟩, ⟨?_, ?_, ?_, by rw [Lib.bytesWorld_size]; omega, fun k hk => Lib.bytesWorld_at_old _ _ _ _ hk⟩, Lib.bytesWorld_size _ _ _⟩
  · have := Lib.bytesWorld_cell w 5 ⟨p.toArray⟩ j (by rw [hsz]; exact hj)
    have e : (⟨w.heap.size, 0, none⟩ : Addr).add j = ⟨w.heap.size, j, none⟩ := by unfold Addr.add; split <;> simp_all
    rw [e, this]
    simp [byV, List.getD, hj]
  · simp [Lib.bytesWorld, World.freeze, World.alloc, World.drew, -World.alloc_eq, -World.drew_eq]
  · simp [Lib.bytesWorld, World.freeze, World.alloc, World.drew, -World.alloc_eq, -World.drew_eq]
  · simp [Lib.bytesWorld, World.freeze, World.alloc, World.drew, -World.alloc_eq, -World.drew_eq]
end Go.Proofs.Ytinlmodkdjpocaa
