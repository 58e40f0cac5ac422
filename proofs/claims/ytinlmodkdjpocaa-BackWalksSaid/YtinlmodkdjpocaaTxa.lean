/- text: the small functions: slices.Clone, Clip at bytes; num.Own; Len, Docs, Sym, Place. -/
import Derived.Test.YtinlmodkdjpocaaProg
import Derived.Test.YtinlmodkdjpocaaRep
import Derived.Test.YtinlmodkdjpocaaTxM
import Derived.Test.YtinlmodkdjpocaaApp
import Derived.WalkKit
import Derived.KernelRfl
import Derived.RowKit3
import Derived.WalkSpells
import Derived.Lib.Hide
import Derived.Laws.AppendOwnNone
import Derived.Deep.DeepCutAuto
import Derived.Deep.RegionWith
import Derived.BigQuiet
import Derived.Deep.QuietTactic
set_option linter.unusedVariables false
namespace Go.Proofs.Ytinlmodkdjpocaa
open Go.RowKit

theorem info_u8 : (Try.prog.info? 5).map (fun i => (i.zero, i.size, i.bytes)) = some (some (.int .u8 0), 1, 1) := by kernel_rfl

theorem clone_nil_by (c : Nat) (w : World) :
    Calls Try.prog 84 #[.slice none 0 c] w fun e w' => e = .returned (.slice none 0 0) ∧ w' = w := by
  have he : ∀ w : World, (binOp .eql 29 (.slice none 0 c) (.slice none 0 0)).run Try.prog w = .ok (.bool true) w := fun w => Lib.run_eql_slice_nil w 29 5 none 0 c 0 0 Try.underlying29
  go_enter Try.func84, Try.ntmps84
  go_wp2
  go_ret
  exact ⟨rfl, rfl⟩

theorem clone_some_by (ad : Addr) (n c : Nat) (vs : List Value) (w : World) (hn : vs.length = n) (hc : ∀ j u, vs[j]? = some u → w.cell? (ad.add j) = some u) (h1 : ∀ u ∈ vs, u.oneCell' = true) (hb : n ≤ 100000000000) :
    Calls Try.prog 84 #[.slice (some ad) n c] w fun e w' => ∃ v', e = .returned v' ∧ w'.ownsRow w.heap.size 5 1 v' n vs ∧ Below w.heap.size w w' := by
  obtain ⟨i0, hi, hz0, hz1, hz2⟩ := info_parts info_u8
  have H : ∀ W : World, Below w.heap.size w W → w.heap.size + 1 ≤ W.heap.size → ∀ j u, vs[j]? = some u → W.cell? (ad.add j) = some u := fun W hW _ j u hj => (hW.cell (World.block_lt_of_cell? w _ (hc j u hj))).trans (hc j u hj)
  have H2 := Lib.hid H; clear H
  have H1 := Lib.hid hc; clear hc
  have H3 := Lib.hid h1; clear h1
  have H4 := Lib.hid hn; clear hn
  have he : ∀ w : World, (binOp .eql 29 (.slice (some ad) n c) (.slice none 0 0)).run Try.prog w = .ok (.bool false) w := fun w => Lib.run_eql_slice_nil w 29 5 (some ad) n c 0 0 Try.underlying29
  go_enter Try.func84, Try.ntmps84
  go_wp2_with (first
    | (at_builtin; go_must (refine wpList_append_own _ rfl _ _ 29 rfl w.heap.size 5 i0 (.int .u8 0) 1 1 Try.underlying29 hi hz0 hz1 hz2 rfl (by decide) (.slice (some ⟨w.heap.size, 0, none⟩) 0 0) 0 [] rfl (World.ownsRow_made w #[] 0 (Nat.le_refl _) (Nat.zero_le _) rfl) ad n c vs rfl (by simp [H4.out]) (H2.out _ ((Below.refl _ w).alloc (Nat.le_refl _) _) (by simp)) H3.out (by unfold maxLen; omega) (by omega) (by simp) ?_); intro v' w1 hown hgrow _))
  go_ret
  exact ⟨_, rfl, by simpa using hown, ((Below.refl _ w).alloc (Nat.le_refl _) _).grown hgrow (by simp) (fun k hk => by cases hk; simp)⟩

theorem clone_by (v : Value) (bs : List UInt8) (w : World) (h : SlR byV w v bs) (hb : bs.length ≤ 100000000000) :
    Calls Try.prog 84 #[v] w fun e w' => ∃ v', e = .returned v' ∧ w'.ownsRow w.heap.size 5 1 v' bs.length (bs.map byV) ∧ Below w.heap.size w w' := by
  obtain ⟨A, c, rfl, _⟩ := h.form
  obtain ⟨_, h1, h2⟩ := h.src
  cases A with
  | none =>
    have h0 := h1 rfl
    obtain rfl : bs = [] := List.eq_nil_of_length_eq_zero h0
    exact (clone_nil_by c w).mono fun e w' ⟨he, hw⟩ => by subst hw; exact ⟨_, he, World.ownsRow_nil _ _ _ _, Below.refl _ _⟩
  | some ad => exact clone_some_by ad bs.length c (bs.map byV) w (by simp) (h2 ad rfl) (oneCell_map (fun _ => rfl) bs) hb

theorem clip_by (A : Option Addr) (n c : Nat) (w : World) (h1 : n ≤ c) (h2 : c ≤ 9223372036854775807) :
    Calls Try.prog 83 #[.slice A n c] w fun e w' => e = .returned (.slice A n n) ∧ w' = w := by
  go_enter Try.func83, Try.ntmps83
  go_wp2
  go_ret
  exact ⟨rfl, rfl⟩

theorem own_by (v : Value) (bs : List UInt8) (w : World) (h : SlR byV w v bs) (hb : bs.length ≤ 100000000000) :
    Calls Try.prog 69 #[v] w fun e w' => ∃ v', e = .returned v' ∧ SlT 5 byV w' v' bs ∧ Below w.heap.size w w' := by
  have hc := Lib.hid (clone_by v bs w h hb)
  clear h
  go_enter Try.func69, Try.ntmps69
  go_wp2_with fail
  refine hc.out.mono ?_
  rintro e w1 ⟨v1, rfl, hown, hbl⟩
  obtain ⟨A, c, rfl, h1, h2, h3⟩ := SlR.of_own (enc := byV) hown
  have hs := Lib.hid (SlT.clip (SlT.of_own (enc := byV) hown))
  have hbl' := Lib.hid hbl
  have hcl := Lib.hid (clip_by A bs.length c w1 h1 h2)
  clear hown hbl h3 hc
  go_wp2_with fail
  refine hcl.out.mono ?_
  rintro e w2 ⟨rfl, rfl⟩
  go_wp2
  go_ret
  exact ⟨_, rfl, hs.out, hbl'.out⟩

/-- A Text in memory: block b holds its documents, where each begins, and the row. -/
def TextR (w : World) (b : Nat) (ds : List (List UInt8)) : Prop :=
  ∃ dv av rv, w.heap[b]? = some (.cells #[dv, av, rv] 93 (0, 0)) ∧ DocsR w dv ds ∧ SlR natV w av (startsOf ds) ∧ SlR symV w rv (rowOf ds)
theorem TextR.below {w w' : World} {b : Nat} {ds : List (List UInt8)} (h : TextR w b ds) {n : Nat} (hn : w.heap.size ≤ n) (hb : Below n w w') : TextR w' b ds := by
  obtain ⟨dv, av, rv, h0, h1, h2, h3⟩ := h
  exact ⟨dv, av, rv, (hb.block b (Nat.lt_of_lt_of_le (Array.getElem?_eq_some_iff.1 h0).1 hn)).trans h0, h1.below hn hb, h2.below hn hb, h3.below hn hb⟩
theorem TextR.cells {w : World} {b : Nat} {ds : List (List UInt8)} (h : TextR w b ds) : ∃ dv av rv, w.cell? ⟨b, 0, none⟩ = some dv ∧ w.cell? ⟨b, 1, none⟩ = some av ∧ w.cell? ⟨b, 2, none⟩ = some rv ∧ DocsR w dv ds ∧ SlR natV w av (startsOf ds) ∧ SlR symV w rv (rowOf ds) := by
  obtain ⟨dv, av, rv, h0, h1, h2, h3⟩ := h
  exact ⟨dv, av, rv, by simp [World.cell?, h0], by simp [World.cell?, h0], by simp [World.cell?, h0], h1, h2, h3⟩

theorem text_len (b : Nat) (ds : List (List UInt8)) (w : World) (h : TextR w b ds) :
    Calls Try.prog 24 #[.pointer (some ⟨b, 0, none⟩)] w fun e w' => e = .returned (.int .i64 (rowOf ds).length) ∧ w' = w := by
  obtain ⟨dv, av, rv, h0, h1, h2, _, _, h3⟩ := h.cells
  obtain ⟨A, c, rfl, _, _, _⟩ := h3
  clear h0 h1 h
  go_enter Try.func24, Try.ntmps24
  go_wp2
  go_ret
  exact ⟨rfl, rfl⟩

theorem text_docs (b : Nat) (ds : List (List UInt8)) (w : World) (h : TextR w b ds) :
    Calls Try.prog 68 #[.pointer (some ⟨b, 0, none⟩)] w fun e w' => e = .returned (.int .i64 ds.length) ∧ w' = w := by
  obtain ⟨dv, av, rv, h0, h1, h2, hd, _, h3⟩ := h.cells
  obtain ⟨A, c, rfl, _⟩ := hd.form
  clear h1 h2 h h3 hd
  go_enter Try.func68, Try.ntmps68
  go_wp2
  go_ret
  exact ⟨rfl, rfl⟩

/-- the symbol at a place, -1 where there is none -/
theorem text_sym (b : Nat) (ds : List (List UInt8)) (i : Int) (w : World) (h : TextR w b ds) :
    Calls Try.prog 23 #[.pointer (some ⟨b, 0, none⟩), .int .i64 i] w fun e w' => e = .returned (.int .i64 (symAt (rowOf ds) i)) ∧ w' = w := by
  obtain ⟨dv, av, rv, h0, h1, h2, _, _, h3⟩ := h.cells
  obtain ⟨A, c, rfl, h4, h5, h6⟩ := h3.form
  clear h0 h1 h h3
  have hlen : (rowOf ds).length ≤ 9223372036854775807 := by omega
  have hm : ∀ x ∈ rowOf ds, x ≤ 256 := rowOf_le ds
  generalize hr : rowOf ds = row at *
  clear hr
  by_cases h0 : 0 ≤ i
  · obtain ⟨n, rfl⟩ := Int.eq_ofNat_of_zero_le h0
    by_cases hlt : n < row.length
    · obtain ⟨ad, rfl, hc⟩ := h6 n hlt
      have hx := hm _ (List.getElem_mem hlt)
      have hs : symAt row (n : Int) = (row[n] : Int) := by simp [symAt, hlt]
      rw [hs]
      have hc' : w.cell? (ad.add n) = some (.int .u16 ((row[n] : Nat) : Int)) := hc
      generalize row[n] = x at *
      clear hc h6 hm hs h4 h5
      go_enter Try.func23, Try.ntmps23
      go_wp2
      go_ret
      exact ⟨rfl, rfl⟩
    · have hs : symAt row (n : Int) = -1 := by simp [symAt, hlt]
      rw [hs]
      clear h6 hm h4 h5 hs
      go_enter Try.func23, Try.ntmps23
      go_wp2
      go_ret
      exact ⟨rfl, rfl⟩
  · have hs : symAt row i = -1 := by simp [symAt, h0]
    rw [hs]
    clear h6 hm h4 h5 hs
    go_enter Try.func23, Try.ntmps23
    go_wp2
    go_ret
    exact ⟨rfl, rfl⟩
end Go.Proofs.Ytinlmodkdjpocaa
