/- text: the small functions: slices.Clone, Clip at bytes; num.Own; Len, Docs, Sym, Place. text: New. -/
import Derived.Test.YtinlmodkdjpocaaProg
import Derived.Test.YtinlmodkdjpocaaGen
import Derived.Test.YtinlmodkdjpocaaTpl
import Derived.WalkKit
import Derived.KernelRfl
import Derived.RowKit3
import Derived.WalkSpells
import Derived.Lib.Hide
import Derived.Laws.AppendOwnNone
import Derived.Deep.DeepCutAuto
import Derived.Deep.RegionWith
import Derived.BigQuiet
import Derived.Deep.QuietTactic
import Derived.LoopN
import Derived.Deep.RegionLaw
set_option linter.unusedVariables false
namespace Go.Proofs.Ytinlmodkdjpocaa
open Go.RowKit

theorem info_u8 : (Try.prog.info? 5).map (fun i => (i.zero, i.size, i.bytes)) = some (some (.int .u8 0), 1, 1) := by kernel_rfl

theorem clone_nil_by (c : Nat) (w : World) :
    Calls Try.prog 84 #[.slice none 0 c] w fun e w' => e = .returned (.slice none 0 0) ∧ w' = w := by
  have he : ∀ w : World, (binOp .eql 29 (.slice none 0 c) (.slice none 0 0)).run Try.prog w = .ok (.bool true) w := fun w => Lib.run_eql_slice_nil w 29 5 none 0 c 0 0 Try.underlying29
  go_enter Try.func84, Try.ntmps84
  go_wp2
  go_ret
  exact ⟨rfl, rfl⟩

theorem clone_some_by (ad : Addr) (n c : Nat) (vs : List Value) (w : World) (hn : vs.length = n) (hc : ∀ j u, vs[j]? = some u → w.cell? (ad.add j) = some u) (h1 : ∀ u ∈ vs, u.oneCell' = true) (hb : n ≤ 100000000000) :
    Calls Try.prog 84 #[.slice (some ad) n c] w fun e w' => ∃ v', e = .returned v' ∧ w'.ownsRow w.heap.size 5 1 v' n vs ∧ Below w.heap.size w w' := by
  obtain ⟨i0, hi, hz0, hz1, hz2⟩ := info_parts info_u8
  have H : ∀ W : World, Below w.heap.size w W → w.heap.size + 1 ≤ W.heap.size → ∀ j u, vs[j]? = some u → W.cell? (ad.add j) = some u := fun W hW _ j u hj => (hW.cell (World.block_lt_of_cell? w _ (hc j u hj))).trans (hc j u hj)
  have H2 := Lib.hid H; clear H
  have H1 := Lib.hid hc; clear hc
  have H3 := Lib.hid h1; clear h1
  have H4 := Lib.hid hn; clear hn
  have he : ∀ w : World, (binOp .eql 29 (.slice (some ad) n c) (.slice none 0 0)).run Try.prog w = .ok (.bool false) w := fun w => Lib.run_eql_slice_nil w 29 5 (some ad) n c 0 0 Try.underlying29
  go_enter Try.func84, Try.ntmps84
  go_wp2_with (first
    | (at_builtin; go_must (refine wpList_append_own _ rfl _ _ 29 rfl w.heap.size 5 i0 (.int .u8 0) 1 1 Try.underlying29 hi hz0 hz1 hz2 rfl (by decide) (.slice (some ⟨w.heap.size, 0, none⟩) 0 0) 0 [] rfl (World.ownsRow_made w #[] 0 (Nat.le_refl _) (Nat.zero_le _) rfl) ad n c vs rfl (by simp [H4.out]) (H2.out _ ((Below.refl _ w).alloc (Nat.le_refl _) _) (by simp)) H3.out (by unfold maxLen; omega) (by omega) (by simp) ?_); intro v' w1 hown hgrow _))
  go_ret
  exact ⟨_, rfl, by simpa using hown, ((Below.refl _ w).alloc (Nat.le_refl _) _).grown hgrow (by simp) (fun k hk => by cases hk; simp)⟩

theorem clone_by (v : Value) (bs : List UInt8) (w : World) (h : SlR byV w v bs) (hb : bs.length ≤ 100000000000) :
    Calls Try.prog 84 #[v] w fun e w' => ∃ v', e = .returned v' ∧ w'.ownsRow w.heap.size 5 1 v' bs.length (bs.map byV) ∧ Below w.heap.size w w' := by
  obtain ⟨A, c, rfl, _⟩ := h.form
  obtain ⟨_, h1, h2⟩ := h.src
  cases A with
  | none =>
    have h0 := h1 rfl
    obtain rfl : bs = [] := List.eq_nil_of_length_eq_zero h0
    exact (clone_nil_by c w).mono fun e w' ⟨he, hw⟩ => by subst hw; exact ⟨_, he, World.ownsRow_nil _ _ _ _, Below.refl _ _⟩
  | some ad => exact clone_some_by ad bs.length c (bs.map byV) w (by simp) (h2 ad rfl) (oneCell_map (fun _ => rfl) bs) hb

theorem clip_by (A : Option Addr) (n c : Nat) (w : World) (h1 : n ≤ c) (h2 : c ≤ 9223372036854775807) :
    Calls Try.prog 83 #[.slice A n c] w fun e w' => e = .returned (.slice A n n) ∧ w' = w := by
  go_enter Try.func83, Try.ntmps83
  go_wp2
  go_ret
  exact ⟨rfl, rfl⟩

theorem own_by (v : Value) (bs : List UInt8) (w : World) (h : SlR byV w v bs) (hb : bs.length ≤ 100000000000) :
    Calls Try.prog 69 #[v] w fun e w' => ∃ v', e = .returned v' ∧ SlT 5 byV w' v' bs ∧ Below w.heap.size w w' := by
  have hc := Lib.hid (clone_by v bs w h hb)
  clear h
  go_enter Try.func69, Try.ntmps69
  go_wp2_with fail
  refine hc.out.mono ?_
  rintro e w1 ⟨v1, rfl, hown, hbl⟩
  obtain ⟨A, c, rfl, h1, h2, h3⟩ := SlR.of_own (enc := byV) hown
  have hs := Lib.hid (SlT.clip (SlT.of_own (enc := byV) hown))
  have hbl' := Lib.hid hbl
  have hcl := Lib.hid (clip_by A bs.length c w1 h1 h2)
  clear hown hbl h3 hc
  go_wp2_with fail
  refine hcl.out.mono ?_
  rintro e w2 ⟨rfl, rfl⟩
  go_wp2
  go_ret
  exact ⟨_, rfl, hs.out, hbl'.out⟩

/-- A Text in memory: block b holds its documents, where each begins, and the row. -/
def TextR (w : World) (b : Nat) (ds : List (List UInt8)) : Prop :=
  ∃ dv av rv, w.heap[b]? = some (.cells #[dv, av, rv] 93 (0, 0)) ∧ DocsR w dv ds ∧ SlR natV w av (startsOf ds) ∧ SlR symV w rv (rowOf ds)
theorem TextR.below {w w' : World} {b : Nat} {ds : List (List UInt8)} (h : TextR w b ds) {n : Nat} (hn : w.heap.size ≤ n) (hb : Below n w w') : TextR w' b ds := by
  obtain ⟨dv, av, rv, h0, h1, h2, h3⟩ := h
  exact ⟨dv, av, rv, (hb.block b (Nat.lt_of_lt_of_le (Array.getElem?_eq_some_iff.1 h0).1 hn)).trans h0, h1.below hn hb, h2.below hn hb, h3.below hn hb⟩
theorem TextR.cells {w : World} {b : Nat} {ds : List (List UInt8)} (h : TextR w b ds) : ∃ dv av rv, w.cell? ⟨b, 0, none⟩ = some dv ∧ w.cell? ⟨b, 1, none⟩ = some av ∧ w.cell? ⟨b, 2, none⟩ = some rv ∧ DocsR w dv ds ∧ SlR natV w av (startsOf ds) ∧ SlR symV w rv (rowOf ds) := by
  obtain ⟨dv, av, rv, h0, h1, h2, h3⟩ := h
  exact ⟨dv, av, rv, by simp [World.cell?, h0], by simp [World.cell?, h0], by simp [World.cell?, h0], h1, h2, h3⟩

theorem text_len (b : Nat) (ds : List (List UInt8)) (w : World) (h : TextR w b ds) :
    Calls Try.prog 24 #[.pointer (some ⟨b, 0, none⟩)] w fun e w' => e = .returned (.int .i64 (rowOf ds).length) ∧ w' = w := by
  obtain ⟨dv, av, rv, h0, h1, h2, _, _, h3⟩ := h.cells
  obtain ⟨A, c, rfl, _, _, _⟩ := h3
  clear h0 h1 h
  go_enter Try.func24, Try.ntmps24
  go_wp2
  go_ret
  exact ⟨rfl, rfl⟩

theorem text_docs (b : Nat) (ds : List (List UInt8)) (w : World) (h : TextR w b ds) :
    Calls Try.prog 68 #[.pointer (some ⟨b, 0, none⟩)] w fun e w' => e = .returned (.int .i64 ds.length) ∧ w' = w := by
  obtain ⟨dv, av, rv, h0, h1, h2, hd, _, h3⟩ := h.cells
  obtain ⟨A, c, rfl, _⟩ := hd.form
  clear h1 h2 h h3 hd
  go_enter Try.func68, Try.ntmps68
  go_wp2
  go_ret
  exact ⟨rfl, rfl⟩

/-- the symbol at a place, -1 where there is none -/
theorem text_sym (b : Nat) (ds : List (List UInt8)) (i : Int) (w : World) (h : TextR w b ds) :
    Calls Try.prog 23 #[.pointer (some ⟨b, 0, none⟩), .int .i64 i] w fun e w' => e = .returned (.int .i64 (symAt (rowOf ds) i)) ∧ w' = w := by
  obtain ⟨dv, av, rv, h0, h1, h2, _, _, h3⟩ := h.cells
  obtain ⟨A, c, rfl, h4, h5, h6⟩ := h3.form
  clear h0 h1 h h3
  have hlen : (rowOf ds).length ≤ 9223372036854775807 := by omega
  have hm : ∀ x ∈ rowOf ds, x ≤ 256 := rowOf_le ds
  generalize hr : rowOf ds = row at *
  clear hr
  by_cases h0 : 0 ≤ i
  · obtain ⟨n, rfl⟩ := Int.eq_ofNat_of_zero_le h0
    by_cases hlt : n < row.length
    · obtain ⟨ad, rfl, hc⟩ := h6 n hlt
      have hx := hm _ (List.getElem_mem hlt)
      have hs : symAt row (n : Int) = (row[n] : Int) := by simp [symAt, hlt]
      rw [hs]
      have hc' : w.cell? (ad.add n) = some (.int .u16 ((row[n] : Nat) : Int)) := hc
      generalize row[n] = x at *
      clear hc h6 hm hs h4 h5
      go_enter Try.func23, Try.ntmps23
      go_wp2
      go_ret
      exact ⟨rfl, rfl⟩
    · have hs : symAt row (n : Int) = -1 := by simp [symAt, hlt]
      rw [hs]
      clear h6 hm h4 h5 hs
      go_enter Try.func23, Try.ntmps23
      go_wp2
      go_ret
      exact ⟨rfl, rfl⟩
  · have hs : symAt row i = -1 := by simp [symAt, h0]
    rw [hs]
    clear h6 hm h4 h5 hs
    go_enter Try.func23, Try.ntmps23
    go_wp2
    go_ret
    exact ⟨rfl, rfl⟩
end Go.Proofs.Ytinlmodkdjpocaa

set_option linter.unusedVariables false
namespace Go.Proofs.Ytinlmodkdjpocaa
open Go.RowKit

/-- New's error -/
def mayE (ds : List (List UInt8)) : Nat :=
  if 500 < ds.length then 65 else if ∃ d ∈ ds, 2000 < d.length then 2 else if 60000 < (rowOf ds).length then 2 else 0

theorem new_many (ds : List (List UInt8)) (A : Option Addr) (c : Nat) (w : World) (h : 500 < ds.length) (hl : ds.length ≤ 9223372036854775807) :
    Calls Try.prog 22 #[.slice A ds.length c] w fun e w' => e = .returned (.tuple #[.pointer none, .int .i64 65]) ∧ w' = w := by
  go_enter Try.func22, Try.ntmps22
  go_wp2
  go_ret2
  exact ⟨rfl, rfl⟩

theorem rowOf_take_succ (ds : List (List UInt8)) (k : Nat) (h : k < ds.length) : rowOf (ds.take (k + 1)) = rowOf (ds.take k) ++ symsOf ds[k] := by
  rw [List.take_succ_eq_append_getElem h, rowOf_snoc]
theorem startsOf_take_succ (ds : List (List UInt8)) (k : Nat) (h : k < ds.length) : startsOf (ds.take (k + 1)) = startsOf (ds.take k) ++ [(rowOf (ds.take k)).length] := by
  rw [List.take_succ_eq_append_getElem h, startsOf_snoc]
theorem rowLen_le (ds : List (List UInt8)) (h : ∀ d ∈ ds, d.length ≤ 2000) : (rowOf ds).length ≤ 2001 * ds.length := by
  induction ds with
  | nil => simp [rowOf]
  | cons d ds ih =>
    have h1 := h d (by simp)
    have h2 := ih (fun x hx => h x (by simp [hx]))
    simp only [rowOf, List.flatMap_cons, List.length_append, symsOf_length, List.length_cons] at h2 ⊢
    omega
theorem rowLen_take_succ (ds : List (List UInt8)) (k : Nat) (h : k < ds.length) : (rowOf (ds.take (k + 1))).length = (rowOf (ds.take k)).length + (ds[k].length + 1) := by
  rw [rowOf_take_succ ds k h, List.length_append, symsOf_length]

theorem info_bys : (Try.prog.info? 29).map (fun i => (i.zero, i.size, i.bytes)) = some (some (.slice none 0 0), 1, 24) := by kernel_rfl
theorem info_int : (Try.prog.info? 3).map (fun i => (i.zero, i.size, i.bytes)) = some (some (.int .i64 0), 1, 8) := by kernel_rfl
theorem info_u16 : (Try.prog.info? 95).map (fun i => (i.zero, i.size, i.bytes)) = some (some (.int .u16 0), 1, 2) := by kernel_rfl

/-- what New has made so far: nd documents, na beginnings, a row -/
def NewSt (b : Nat) (ds : List (List UInt8)) (w W : World) (nd na : Nat) (row : List Nat) : Prop :=
  ∃ dv av rv dvs, W.heap[b]? = some (.cells #[dv, av, rv] 93 (0, 0)) ∧ W.ownsRow w.heap.size 29 1 dv nd dvs ∧ (∀ j (h : j < dvs.length) (h' : j < ds.length), SlT 5 byV W dvs[j] ds[j]) ∧
    W.ownsRow w.heap.size 3 1 av na ((startsOf (ds.take na)).map natV) ∧ W.ownsRow w.heap.size 95 1 rv row.length (row.map symV) ∧ Below w.heap.size w W ∧ w.heap.size ≤ b

theorem SlT.grown {α : Type} {T : TypeId} {enc : α → Value} {w w' : World} {v : Value} {xs : List α} (h : SlT T enc w v xs) {v0 : Value} {base n : Nat} {e : TypeId} {s : Nat} {ys : List Value} (ho : w.ownsRow base e s v0 n ys) (hg : w.grownBy w' v0.ownBlock) (hne : e ≠ T) : SlT T enc w' v xs :=
  h.kept hg (fun k cur fr hk hh => own_ne_block ho hh hne hk)

theorem NewSt.below {b : Nat} {ds : List (List UInt8)} {w W W2 : World} {nd na : Nat} {row : List Nat} (h : NewSt b ds w W nd na row) (hb : Below W.heap.size W W2) : NewSt b ds w W2 nd na row := by
  obtain ⟨dv, av, rv, dvs, h0, h1, h2, h3, h4, h5, h6⟩ := h
  have hg : W.grownBy W2 none := ⟨hb.os, hb.tape, hb.output, hb.size, fun i hi _ => hb.block i hi⟩
  have hk : ∀ v : Value, v.ownBlock = none ∨ v.ownBlock ≠ none := fun v => by cases v.ownBlock <;> simp
  exact ⟨dv, av, rv, dvs, (hb.block b (Array.getElem?_eq_some_iff.1 h0).1).trans h0, h1.kept hg (hk _), fun j h h' => (h2 j h h').below hb, h3.kept hg (hk _), h4.kept hg (hk _), h5.trans (hb.mono h5.size), h6⟩

theorem NewSt.docs {b : Nat} {ds : List (List UInt8)} {w W W2 : World} {nd na : Nat} {row : List Nat} {dv av rv : Value} {dvs : List Value} {x v' : Value} (hnd : nd < ds.length)
    (h0 : W.heap[b]? = some (.cells #[dv, av, rv] 93 (0, 0))) (h1 : W.ownsRow w.heap.size 29 1 dv nd dvs) (h2 : ∀ j (h : j < dvs.length) (h' : j < ds.length), SlT 5 byV W dvs[j] ds[j])
    (h3 : W.ownsRow w.heap.size 3 1 av na ((startsOf (ds.take na)).map natV)) (h4 : W.ownsRow w.heap.size 95 1 rv row.length (row.map symV)) (h5 : Below w.heap.size w W) (h6 : w.heap.size ≤ b)
    (hx : SlT 5 byV W x ds[nd]) (ho : W2.ownsRow w.heap.size 29 1 v' (nd + 1) (dvs ++ [x])) (hg : W.grownBy W2 dv.ownBlock) : NewSt b ds w (W2.setCell ⟨b, 0, none⟩ v') (nd + 1) na row := by
  have hb2 : W2.heap[b]? = some (.cells #[dv, av, rv] 93 (0, 0)) := grown_block hg h0 (own_ne_block h1 h0 (by decide))
  have h3' := h3.kept hg (own_ne h3 h1 (by decide))
  have h4' := h4.kept hg (own_ne h4 h1 (by decide))
  have hlen : dvs.length = nd := by have := h1.1; omega
  have hty : ∀ (cur : Array Value) (fr : Nat × Nat), W2.heap[b]? = some (.cells cur 5 fr) → False := by
    intro cur fr e
    rw [hb2] at e
    injection e with e
    injection e with _ e _
    exact absurd e (by decide)
  refine ⟨v', av, rv, dvs ++ [x], by rw [heap_setCell_same hb2]; rfl, ownsRow_setCell_other ho (own_ne_block ho hb2 (by decide)) _, ?_, ownsRow_setCell_other h3' (own_ne_block h3' hb2 (by decide)) _, ownsRow_setCell_other h4' (own_ne_block h4' hb2 (by decide)) _,
    (h5.grown hg h5.size (fun k hk => (h1.lt k hk).1)).setCell h6 _, h6⟩
  intro j h h'
  refine SlT.setCell ?_ _ _ hty
  by_cases hj : j < dvs.length
  · rw [List.getElem_append_left hj]
    exact (h2 j hj h').grown h1 hg (by decide)
  · have e : j = nd := by simp at h; omega
    subst e
    rw [List.getElem_append_right (by omega)]
    simp only [hlen, Nat.sub_self, List.getElem_cons_zero]
    exact hx.grown h1 hg (by decide)

theorem own_below {w w1 : World} {base : Nat} {e : TypeId} {size n : Nat} {v : Value} {xs : List Value} (h : w.ownsRow base e size v n xs) (hb : Below w.heap.size w w1) : w1.ownsRow base e size v n xs :=
  h.kept (row := none) ⟨hb.os, hb.tape, hb.output, hb.size, fun i hi _ => hb.block i hi⟩ (by cases v.ownBlock <;> simp)

theorem NewSt.docs2 {b : Nat} {ds : List (List UInt8)} {w W0 W1 W2 : World} {nd na : Nat} {row : List Nat} {dv av rv : Value} {dvs : List Value} {x v' : Value} {o : Obj} (hnd : nd < ds.length)
    (h0 : W0.heap[b]? = some (.cells #[dv, av, rv] 93 (0, 0))) (h1 : W0.ownsRow w.heap.size 29 1 dv nd dvs) (h2 : ∀ j (h : j < dvs.length) (h' : j < ds.length), SlT 5 byV W0 dvs[j] ds[j])
    (h3 : W0.ownsRow w.heap.size 3 1 av na ((startsOf (ds.take na)).map natV)) (h4 : W0.ownsRow w.heap.size 95 1 rv row.length (row.map symV)) (h5 : Below w.heap.size w W0) (h6 : w.heap.size ≤ b)
    (hb : Below W0.heap.size W0 W1) (hx : SlT 5 byV W1 x ds[nd]) (ho : W2.ownsRow w.heap.size 29 1 v' (nd + 1) (dvs ++ [x])) (hg : (W1.alloc o).grownBy W2 dv.ownBlock) : NewSt b ds w (W2.setCell ⟨b, 0, none⟩ v') (nd + 1) na row := by
  have hb' : Below W0.heap.size W0 (W1.alloc o) := hb.alloc hb.size o
  exact NewSt.docs hnd ((hb'.block b (Array.getElem?_eq_some_iff.1 h0).1).trans h0) (own_below h1 hb') (fun j h h' => (h2 j h h').below hb') (own_below h3 hb') (own_below h4 hb') (h5.trans (hb'.mono h5.size)) h6
    (hx.below ((Below.refl _ W1).alloc (Nat.le_refl _) o)) ho hg

theorem NewSt.at_ {b : Nat} {ds : List (List UInt8)} {w W W2 : World} {nd na : Nat} {row : List Nat} {dv av rv : Value} {dvs : List Value} {v' : Value} (hna : na < ds.length)
    (h0 : W.heap[b]? = some (.cells #[dv, av, rv] 93 (0, 0))) (h1 : W.ownsRow w.heap.size 29 1 dv nd dvs) (h2 : ∀ j (h : j < dvs.length) (h' : j < ds.length), SlT 5 byV W dvs[j] ds[j])
    (h3 : W.ownsRow w.heap.size 3 1 av na ((startsOf (ds.take na)).map natV)) (h4 : W.ownsRow w.heap.size 95 1 rv row.length (row.map symV)) (h5 : Below w.heap.size w W) (h6 : w.heap.size ≤ b)
    (hr : row = rowOf (ds.take na)) (ho : W2.ownsRow w.heap.size 3 1 v' (na + 1) ((startsOf (ds.take na)).map natV ++ [natV row.length])) (hg : W.grownBy W2 av.ownBlock) : NewSt b ds w (W2.setCell ⟨b, 1, none⟩ v') nd (na + 1) row := by
  have hb2 : W2.heap[b]? = some (.cells #[dv, av, rv] 93 (0, 0)) := grown_block hg h0 (own_ne_block h3 h0 (by decide))
  have h1' := h1.kept hg (own_ne h1 h3 (by decide))
  have h4' := h4.kept hg (own_ne h4 h3 (by decide))
  have hty : ∀ (cur : Array Value) (fr : Nat × Nat), W2.heap[b]? = some (.cells cur 5 fr) → False := by
    intro cur fr e
    rw [hb2] at e
    injection e with e
    injection e with _ e _
    exact absurd e (by decide)
  refine ⟨dv, v', rv, dvs, by rw [heap_setCell_same hb2]; rfl, ownsRow_setCell_other h1' (own_ne_block h1' hb2 (by decide)) _, ?_, ?_, ownsRow_setCell_other h4' (own_ne_block h4' hb2 (by decide)) _,
    (h5.grown hg h5.size (fun k hk => (h3.lt k hk).1)).setCell h6 _, h6⟩
  · intro j h h'
    exact SlT.setCell ((h2 j h h').grown h3 hg (by decide)) _ _ hty
  · rw [startsOf_take_succ ds na hna, List.map_append, ← hr]
    exact ownsRow_setCell_other ho (own_ne_block ho hb2 (by decide)) _

theorem NewSt.sym {b : Nat} {ds : List (List UInt8)} {w W W2 : World} {nd na : Nat} {row : List Nat} {dv av rv : Value} {dvs : List Value} {v' : Value} {s : Nat}
    (h0 : W.heap[b]? = some (.cells #[dv, av, rv] 93 (0, 0))) (h1 : W.ownsRow w.heap.size 29 1 dv nd dvs) (h2 : ∀ j (h : j < dvs.length) (h' : j < ds.length), SlT 5 byV W dvs[j] ds[j])
    (h3 : W.ownsRow w.heap.size 3 1 av na ((startsOf (ds.take na)).map natV)) (h4 : W.ownsRow w.heap.size 95 1 rv row.length (row.map symV)) (h5 : Below w.heap.size w W) (h6 : w.heap.size ≤ b)
    (ho : W2.ownsRow w.heap.size 95 1 v' (row.length + 1) (row.map symV ++ [symV s])) (hg : W.grownBy W2 rv.ownBlock) : NewSt b ds w (W2.setCell ⟨b, 2, none⟩ v') nd na (row ++ [s]) := by
  have hb2 : W2.heap[b]? = some (.cells #[dv, av, rv] 93 (0, 0)) := grown_block hg h0 (own_ne_block h4 h0 (by decide))
  have h1' := h1.kept hg (own_ne h1 h4 (by decide))
  have h3' := h3.kept hg (own_ne h3 h4 (by decide))
  have hty : ∀ (cur : Array Value) (fr : Nat × Nat), W2.heap[b]? = some (.cells cur 5 fr) → False := by
    intro cur fr e
    rw [hb2] at e
    injection e with e
    injection e with _ e _
    exact absurd e (by decide)
  refine ⟨dv, av, v', dvs, by rw [heap_setCell_same hb2]; rfl, ownsRow_setCell_other h1' (own_ne_block h1' hb2 (by decide)) _, ?_, ownsRow_setCell_other h3' (own_ne_block h3' hb2 (by decide)) _, ?_,
    (h5.grown hg h5.size (fun k hk => (h4.lt k hk).1)).setCell h6 _, h6⟩
  · intro j h h'
    exact SlT.setCell ((h2 j h h').grown h4 hg (by decide)) _ _ hty
  · rw [List.length_append, List.map_append]
    exact ownsRow_setCell_other ho (own_ne_block ho hb2 (by decide)) _

theorem NewSt.at2 {b : Nat} {ds : List (List UInt8)} {w W0 W1 W2 : World} {nd na : Nat} {row : List Nat} {dv av rv : Value} {dvs : List Value} {v' : Value} {o : Obj} (hna : na < ds.length)
    (h0 : W0.heap[b]? = some (.cells #[dv, av, rv] 93 (0, 0))) (h1 : W0.ownsRow w.heap.size 29 1 dv nd dvs) (h2 : ∀ j (h : j < dvs.length) (h' : j < ds.length), SlT 5 byV W0 dvs[j] ds[j])
    (h3 : W0.ownsRow w.heap.size 3 1 av na ((startsOf (ds.take na)).map natV)) (h4 : W0.ownsRow w.heap.size 95 1 rv row.length (row.map symV)) (h5 : Below w.heap.size w W0) (h6 : w.heap.size ≤ b)
    (hb : Below W0.heap.size W0 W1) (hr : row = rowOf (ds.take na)) (ho : W2.ownsRow w.heap.size 3 1 v' (na + 1) ((startsOf (ds.take na)).map natV ++ [natV row.length])) (hg : (W1.alloc o).grownBy W2 av.ownBlock) : NewSt b ds w (W2.setCell ⟨b, 1, none⟩ v') nd (na + 1) row := by
  have hb' : Below W0.heap.size W0 (W1.alloc o) := hb.alloc hb.size o
  exact NewSt.at_ hna ((hb'.block b (Array.getElem?_eq_some_iff.1 h0).1).trans h0) (own_below h1 hb') (fun j h h' => (h2 j h h').below hb') (own_below h3 hb') (own_below h4 hb') (h5.trans (hb'.mono h5.size)) h6 hr ho hg

theorem NewSt.sym2 {b : Nat} {ds : List (List UInt8)} {w W0 W2 : World} {nd na : Nat} {row : List Nat} {dv av rv : Value} {dvs : List Value} {v' : Value} {s : Nat} {u : Value}
    (h0 : W0.heap[b]? = some (.cells #[dv, av, rv] 93 (0, 0))) (h1 : W0.ownsRow w.heap.size 29 1 dv nd dvs) (h2 : ∀ j (h : j < dvs.length) (h' : j < ds.length), SlT 5 byV W0 dvs[j] ds[j])
    (h3 : W0.ownsRow w.heap.size 3 1 av na ((startsOf (ds.take na)).map natV)) (h4 : W0.ownsRow w.heap.size 95 1 rv row.length (row.map symV)) (h5 : Below w.heap.size w W0) (h6 : w.heap.size ≤ b)
    (hu : u = symV s) (ho : W2.ownsRow w.heap.size 95 1 v' (row.length + 1) (row.map symV ++ [u])) (hg : W0.grownBy W2 rv.ownBlock) : NewSt b ds w (W2.setCell ⟨b, 2, none⟩ v') nd na (row ++ [s]) := by
  subst hu
  exact NewSt.sym h0 h1 h2 h3 h4 h5 h6 ho hg

theorem NewSt.text {b : Nat} {ds : List (List UInt8)} {w W : World} (h : NewSt b ds w W ds.length ds.length (rowOf (ds.take ds.length))) : TextR W b ds := by
  obtain ⟨dv, av, rv, dvs, s0, s1, s2, s3, s4, s5, s6⟩ := h
  rw [List.take_length] at s3 s4
  refine ⟨dv, av, rv, s0, ⟨dvs, by have := s1.1; omega, SlR.of_own (enc := id) (by simpa using s1), fun j h h' => (s2 j h h').1⟩, SlR.of_own s3, SlR.of_own s4⟩

/-- a document's bytes as symbols -/
def upS (l : List UInt8) : List Nat := l.map (fun b => b.toNat + 1)
theorem upS_length (l : List UInt8) : (upS l).length = l.length := by simp [upS]

set_option maxRecDepth 100000 in
set_option maxHeartbeats 1000000 in
theorem new_few (ds : List (List UInt8)) (v : Value) (w : World) (h : ds.length ≤ 500) (hd : DocsR w v ds) :
    Calls Try.prog 22 #[v] w fun e w' => Below w.heap.size w w' ∧ ((mayE ds ≠ 0 ∧ e = .returned (.tuple #[.pointer none, .int .i64 (mayE ds)])) ∨ (mayE ds = 0 ∧ ∃ b, w.heap.size ≤ b ∧ e = .returned (.tuple #[.pointer (some ⟨b, 0, none⟩), .int .i64 0]) ∧ TextR w' b ds)) := by
  obtain ⟨A, c, rfl, h1, h2, h3⟩ := hd.form
  have H3 := Lib.hid h3; clear h3
  have HD := Lib.hid hd; clear hd
  clear h1 h2
  go_enter Try.func22, Try.ntmps22
  go_wp2
  go_loop [4, 17] (fun n i => ∃ k : Nat, k ≤ ds.length ∧ i = .int .i64 k ∧ n = .int .i64 ((rowOf (ds.take k)).length : Nat) ∧ Hid (∀ d ∈ ds.take k, d.length ≤ 2000)) (fun _ i => ds.length - (intOf i).toNat)
  case atStart => exact ⟨0, Nat.zero_le _, rfl, rfl, Lib.hid (by simp)⟩
  case round =>
    obtain ⟨k, hk, rfl, rfl, hm⟩ := hrel
    have hb := rowLen_le _ hm.out
    have hb2 : (ds.take k).length ≤ 500 := by simp; omega
    by_cases hlt : k < ds.length
    · obtain ⟨ad, B, c', rfl, hc, hs⟩ := H3.out k hlt
      have hsucc := Lib.hid (rowLen_take_succ ds k hlt)
      have hmem : ds[k] ∈ ds := List.getElem_mem hlt
      have hM := Lib.hid hmem
      have hT : ds.take (k + 1) = ds.take k ++ [ds[k]] := List.take_succ_eq_append_getElem hlt
      have HT := Lib.hid hT
      clear hT hmem hs
      generalize hdk : ds[k] = dk at *
      clear hdk
      generalize hR : (rowOf (ds.take k)).length = R at *
      clear hR
      by_cases hlong : 2000 < dk.length
      · go_wp2
        go_ret2
        refine ⟨Below.refl _ _, .inl ?_⟩
        have hE : mayE ds = 2 := by
          unfold mayE
          rw [if_neg (by omega), if_pos ⟨dk, hM.out, hlong⟩]
        rw [hE]
        exact ⟨by omega, rfl⟩
      · go_wp2
        go_round
        case rel =>
          refine ⟨k + 1, by omega, by go_num, ?_, ?_⟩
          · rw [hsucc.out]; go_num
          · refine Lib.hid ?_
            rw [HT.out]
            intro d hd
            rw [List.mem_append, List.mem_singleton] at hd
            rcases hd with hd | rfl
            · exact hm.out d hd
            · omega
        case measure => simp [intOf]; omega
    · have hk' : k = ds.length := by omega
      subst hk'
      have hm' : ∀ d ∈ ds, d.length ≤ 2000 := by have := hm.out; simpa using this
      have hshort := Lib.hid hm'
      clear hm hm'
      rw [List.take_length] at hb ⊢
      by_cases hbig : 60000 < (rowOf ds).length
      · generalize hR : (rowOf ds).length = R at *
        go_wp2
        go_ret2
        refine ⟨Below.refl _ _, .inl ?_⟩
        have hE : mayE ds = 2 := by
          unfold mayE
          rw [if_neg (by omega), if_neg (fun ⟨d, hd, hl⟩ => by have := hshort.out d hd; omega), if_pos (by omega)]
        rw [hE]
        exact ⟨by omega, rfl⟩
      · have hE0 : mayE ds = 0 := by
          unfold mayE
          rw [if_neg (by omega), if_neg (fun ⟨d, hd, hl⟩ => by have := hshort.out d hd; omega), if_neg (by omega)]
        have hE := Lib.hid hE0
        clear hE0
        obtain ⟨i0, hi, hz0, hz1, hz2⟩ := info_parts info_u16
        obtain ⟨w1, hr1, hown1, hg1⟩ := run_make_own (P := Try.prog) w w.heap.size 51 95 i0 (.int .u16 0) 1 Try.underlying51 hi hz0 hz1 .i64 .i64 (rowOf ds).length (by rw [hz2]; omega) (by unfold maxLen; omega) (Nat.le_refl _)
        have hb1 : Below w.heap.size w w1 := (Below.refl _ w).grown hg1 (Nat.le_refl _) (fun k e => by cases e)
        have HO := Lib.hid hown1
        have HB := Lib.hid hb1
        clear hown1 hg1 hb1 hi hz0 hz1 hz2
        generalize hR : (rowOf ds).length = R at *
        have HR := Lib.hid hR
        clear hR
        go_wp2
        obtain ⟨b, hbe⟩ : ∃ b, b = w1.heap.size := ⟨_, rfl⟩
        have h0st : NewSt b ds w (w1.alloc (.cells #[.slice none 0 0, .slice none 0 0, .slice (some ⟨w.heap.size, 0, none⟩) 0 R] 93)) 0 0 [] := by
          refine ⟨_, _, _, [], by rw [hbe]; exact heap_alloc_new w1 _, World.ownsRow_nil _ _ _ _, fun j h => absurd h (Nat.not_lt_zero _), World.ownsRow_nil _ _ _ _, HO.out.alloc _, HB.out.alloc HB.out.size _, by rw [hbe]; exact HB.out.size⟩
        rw [← hbe]
        have H0 := Lib.hid h0st
        clear h0st HO HB
        clear hbe
        go_loopw [38] (fun i wr => ∃ k : Nat, k ≤ ds.length ∧ i = .int .i64 k ∧ NewSt b ds w wr k k (rowOf (ds.take k))) (fun i _ => ds.length - (intOf i).toNat)
        case atStart => exact ⟨0, Nat.zero_le _, rfl, H0.out⟩
        case round =>
          obtain ⟨k, hk, rfl, hst⟩ := hrel
          by_cases hlt : k < ds.length
          · obtain ⟨ad, B, c', rfl, hc, hs⟩ := H3.out k hlt
            obtain ⟨dv, av, rv, dvs, s0, s1, s2, s3, s4, s5, s6⟩ := hst
            have hcw : wr.cell? (ad.add k) = some (.slice B ds[k].length c') := (s5.cell (World.block_lt_of_cell? w _ hc)).trans hc
            have hsw : SlR byV wr (.slice B ds[k].length c') ds[k] := hs.later s5
            have hdl : ds[k].length ≤ 2000 := hshort.out _ (List.getElem_mem hlt)
            have HS := Lib.hid hs
            clear hc hs
            have S2 := Lib.hid s2
            have S0 := Lib.hid s0
            have S1 := Lib.hid s1
            have S3 := Lib.hid s3
            have S4 := Lib.hid s4
            have S5 := Lib.hid s5
            have SW := Lib.hid hsw
            clear s0 s1 s2 s3 s4 s5 hsw
            go_wp2
            go_cut [7, 9] (fun t7 t9 wc => t7 = .pointer (some ⟨b, 0, none⟩) ∧ t9 = .slice B ds[k].length c' ∧ NewSt b ds w wc (k + 1) k (rowOf (ds.take k)))
            case first =>
              have hc0 : wr.cell? ⟨b, 0, none⟩ = some dv := by rw [cell_of_block S0.out]; rfl
              have hlen : dvs.length = k := by have := S1.out.1; omega
              have hbs : w.heap.size ≤ wr.heap.size := S5.out.size
              go_region_law (first
                | (go_simp; go_at_call 69; refine (own_by _ ds[k] _ (by exact SW.out) (by omega)).mono ?_; rintro e w17 ⟨v17, rfl, hx17, hb17⟩; obtain ⟨A17, c17, rfl, _⟩ := hx17.1.form; have hO17 : w17.ownsRow w.heap.size 29 1 dv k dvs := S1.out.kept (row := none) ⟨hb17.os, hb17.tape, hb17.output, hb17.size, fun i hi _ => hb17.block i hi⟩ (by cases dv.ownBlock <;> simp); have hs17 := hb17.size; simp only [World.size_drew] at hs17; have s17 : w17.heap[b]? = some (.cells #[dv, av, rv] 93 (0, 0)) := (hb17.block b (Array.getElem?_eq_some_iff.1 S0.out).1).trans S0.out; have S17 := Lib.hid s17; have hlb17 : b < w17.heap.size := (Array.getElem?_eq_some_iff.1 s17).1; have c17' : w17.cell? ⟨b, 0, none⟩ = some dv := (by rw [cell_of_block s17]; rfl); clear s17; have HX17 := Lib.hid hx17; have HB17 := Lib.hid hb17; have HO17 := Lib.hid hO17; clear hx17 hb17 hO17)
                | (go_must (refine step_app (W := w17.alloc (.cells #[.slice A17 ds[k].length c17] 29)) w.heap.size 22 29 (.slice none 0 0) 1 24 (.tmp 46) (.tmp 49) rfl rfl Try.underlying22 info_bys rfl (by decide) (by decide) dv k dvs w17.heap.size 1 #[.slice A17 ds[k].length c17] (0, 0) rfl rfl (HO17.out.alloc _) (heap_alloc_new w17 _) rfl (by intro u hu; simp at hu; subst hu; rfl) (by omega) (by simp; omega) ?_); intro g17 cap17 w18 ho18 hg18 hat18 hgb18 hgl18; have s18 : w18.heap[b]? = some (.cells #[dv, av, rv] 93 (0, 0)) := grown_block hg18 ((Below.heap_alloc w17 _ b (Array.getElem?_eq_some_iff.1 S17.out).1).trans S17.out) (own_ne_block HO17.out S17.out (by decide)); have c18 : w18.cell? ⟨b, 0, none⟩ = some dv := (by rw [cell_of_block s18]; rfl); have f18 : w18.frozen? ⟨b, 0, none⟩ = false := free_of_block s18; clear s18; have HO18 := Lib.hid ho18; have HG18 := Lib.hid hg18; clear ho18 hg18 hat18 hgb18 hgl18))
              all_goals
                go_wp2_with fail
                go_meet
                exact ⟨rfl, rfl, NewSt.docs2 hlt S0.out S1.out S2.out S3.out S4.out S5.out s6 (below_undrew HB17.out) HX17.out HO18.out HG18.out⟩
            case rest =>
              obtain ⟨rfl, rfl, hst⟩ := hcut
              clear S0 S1 S2 S3 S4 S5 SW hcw
              go_wp2
              go_cut [7, 9] (fun t7 t9 wc => t7 = .pointer (some ⟨b, 0, none⟩) ∧ t9 = .slice B ds[k].length c' ∧ NewSt b ds w wc (k + 1) (k + 1) (rowOf (ds.take k)))
              case first =>
                obtain ⟨dv, av, rv, dvs, s0, s1, s2, s3, s4, s5, s6⟩ := hst
                obtain ⟨Ar, cr, hrv, hr2, hr3, _⟩ := (SlR.of_own (enc := symV) s4).form
                subst hrv
                have hc1 : wc.cell? ⟨b, 1, none⟩ = some av := by rw [cell_of_block s0]; rfl
                have hc2 : wc.cell? ⟨b, 2, none⟩ = some (.slice Ar (rowOf (ds.take k)).length cr) := by rw [cell_of_block s0]; rfl
                have hbs : w.heap.size ≤ wc.heap.size := s5.size
                have hlb : b < wc.heap.size := (Array.getElem?_eq_some_iff.1 s0).1
                have hlen : (startsOf (ds.take k)).length = k := by rw [startsOf_length]; simp; omega
                have S2 := Lib.hid s2
                have S0 := Lib.hid s0
                have S1 := Lib.hid s1
                have S3 := Lib.hid s3
                have S4 := Lib.hid s4
                have S5 := Lib.hid s5
                have HL := Lib.hid hlen
                clear s0 s1 s2 s3 s4 s5 hlen
                generalize hrk : rowOf (ds.take k) = row at *
                have HRK := Lib.hid hrk
                clear hrk
                go_region_law (refine step_app (W := wc.drew.alloc (.cells #[.int .i64 (row.length : Nat)] 3)) w.heap.size 73 3 (.int .i64 0) 1 8 (.tmp 57) (.tmp 63) rfl rfl Try.underlying73 info_int rfl (by decide) (by decide) av k ((startsOf (ds.take k)).map natV) wc.heap.size 1 #[.int .i64 (row.length : Nat)] (0, 0) rfl rfl (own_below S3.out ((Below.refl _ wc).drew.alloc (Nat.le_refl _) _)) (heap_alloc_new wc.drew _) rfl (by intro u hu; simp at hu; subst hu; rfl) (by omega) (by simp; omega) ?_; intro g18 cap18 w19 ho19 hg19 hat19 hgb19 hgl19; have s19 : w19.heap[b]? = some (.cells #[dv, av, .slice Ar row.length cr] 93 (0, 0)) := grown_block hg19 ((Below.heap_alloc wc.drew _ b hlb).trans S0.out) (own_ne_block S3.out S0.out (by decide)); have c19 : w19.cell? ⟨b, 1, none⟩ = some av := (by rw [cell_of_block s19]; rfl); have f19 : w19.frozen? ⟨b, 1, none⟩ = false := free_of_block s19; clear s19; have HO19 := Lib.hid ho19; have HG19 := Lib.hid hg19; clear ho19 hg19 hat19 hgb19 hgl19)
                all_goals
                  go_wp2_with fail
                  go_meet
                  exact ⟨rfl, rfl, NewSt.at2 hlt S0.out S1.out S2.out S3.out S4.out S5.out s6 (below_undrew (Below.refl _ _)) HRK.out.symm HO19.out HG19.out⟩
              case rest =>
                obtain ⟨rfl, rfl, hst⟩ := hcut
                clear H0
                go_wp2
                have hrl := Lib.hid (rowLen_take_succ ds k hlt)
                have hrl2 : (rowOf (ds.take (k + 1))).length ≤ 2001 * 500 := Nat.le_trans (rowLen_le _ (fun d hd => hshort.out d (List.mem_of_mem_take hd))) (Nat.mul_le_mul_left _ (by simp; omega))
                rw [hrl.out] at hrl2
                go_loopw [69] (fun i wr => ∃ j : Nat, j ≤ ds[k].length ∧ i = .int .i64 j ∧ NewSt b ds w wr (k + 1) (k + 1) (rowOf (ds.take k) ++ upS (ds[k].take j))) (fun i _ => ds[k].length - (intOf i).toNat)
                case atStart => exact ⟨0, Nat.zero_le _, rfl, by simpa [upS] using hst⟩
                case round =>
                  obtain ⟨j, hj, rfl, hst⟩ := hrel
                  obtain ⟨dv, av, rv, dvs, s0, s1, s2, s3, s4, s5, s6⟩ := hst
                  obtain ⟨Ar, cr, hrv, hr2, hr3, _⟩ := (SlR.of_own (enc := symV) s4).form
                  subst hrv
                  have hbs : w.heap.size ≤ wr.heap.size := s5.size
                  have hlb : b < wr.heap.size := (Array.getElem?_eq_some_iff.1 s0).1
                  have hc2 : wr.cell? ⟨b, 2, none⟩ = some (.slice Ar (rowOf (ds.take k) ++ upS (ds[k].take j)).length cr) := by rw [cell_of_block s0]; rfl
                  have hrlen : (rowOf (ds.take k) ++ upS (ds[k].take j)).length ≤ 2001 * 500 := by
                    rw [List.length_append, upS_length, List.length_take]; omega
                  have S2 := Lib.hid s2
                  have S0 := Lib.hid s0
                  have S1 := Lib.hid s1
                  have S3 := Lib.hid s3
                  have S4 := Lib.hid s4
                  have S5 := Lib.hid s5
                  clear s0 s1 s2 s3 s4 s5 hst
                  by_cases hjl : j < ds[k].length
                  · obtain ⟨ad2, rfl, hcb⟩ := HS.out.at_ j hjl
                    have hcw2 : wr.cell? (ad2.add j) = some (.int .u8 ((ds[k][j].toNat : Nat) : Int)) := (S5.out.cell (World.block_lt_of_cell? w _ hcb)).trans hcb
                    have hx : ds[k][j].toNat < 256 := ds[k][j].toNat_lt
                    have HT : Hid (rowOf (ds.take k) ++ upS (ds[k].take (j + 1)) = (rowOf (ds.take k) ++ upS (ds[k].take j)) ++ [ds[k][j].toNat + 1]) := by
                      refine Lib.hid ?_
                      rw [List.take_succ_eq_append_getElem hjl, upS, List.map_append, List.append_assoc]; rfl
                    clear hcb
                    generalize hX : ds[k][j].toNat = x at *
                    clear hX
                    generalize hRR : rowOf (ds.take k) ++ upS (ds[k].take j) = row at *
                    clear hRR
                    go_wp2_with (first
                      | (at_builtin; refine wp_app w.heap.size 51 95 (.int .u16 0) 1 2 (.tmp 77) (.tmp 81) rfl rfl Try.underlying51 info_u16 rfl (by decide) (by decide) (.slice Ar row.length cr) row.length (row.map symV) #[.int .u16 ((x : Nat) + 1 : Int)] rfl rfl S4.out rfl (by intro u hu; simp at hu; subst hu; rfl) (by omega) hbs ?_; intro g cap w19 ho19 hg19 hat19 hgb19 hgl19 hgs19; have s19 : w19.heap[b]? = some (.cells #[dv, av, .slice Ar row.length cr] 93 (0, 0)) := grown_block hg19 S0.out (own_ne_block S4.out S0.out (by decide)); have c19 : w19.cell? ⟨b, 2, none⟩ = some (.slice Ar row.length cr) := (by rw [cell_of_block s19]; rfl); have f19 : w19.frozen? ⟨b, 2, none⟩ = false := free_of_block s19; clear s19; have HO19 := Lib.hid ho19; have HG19 := Lib.hid hg19; clear ho19 hg19 hat19 hgb19 hgl19 hgs19))
                    go_roundw
                    case rel => exact ⟨j + 1, by omega, by go_num, by rw [HT.out]; exact NewSt.sym2 S0.out S1.out S2.out S3.out S4.out S5.out s6 rfl HO19.out HG19.out⟩
                    case measure => simp [intOf]; omega
                  · have hj' : j = ds[k].length := by omega
                    have HT : Hid (rowOf (ds.take (k + 1)) = (rowOf (ds.take k) ++ upS (ds[k].take j)) ++ [0]) := by
                      refine Lib.hid ?_
                      rw [rowOf_take_succ ds k hlt, hj', List.take_length, symsOf, List.append_assoc]; rfl
                    generalize hRR : rowOf (ds.take k) ++ upS (ds[k].take j) = row at *
                    clear hRR hj'
                    go_wp2_with (first
                      | (at_builtin; refine wp_app w.heap.size 51 95 (.int .u16 0) 1 2 (.tmp 90) (.tmp 91) rfl rfl Try.underlying51 info_u16 rfl (by decide) (by decide) (.slice Ar row.length cr) row.length (row.map symV) #[.int .u16 0] rfl rfl S4.out rfl (by intro u hu; simp at hu; subst hu; rfl) (by omega) hbs ?_; intro g cap w19 ho19 hg19 hat19 hgb19 hgl19 hgs19; have s19 : w19.heap[b]? = some (.cells #[dv, av, .slice Ar row.length cr] 93 (0, 0)) := grown_block hg19 S0.out (own_ne_block S4.out S0.out (by decide)); have c19 : w19.cell? ⟨b, 2, none⟩ = some (.slice Ar row.length cr) := (by rw [cell_of_block s19]; rfl); have f19 : w19.frozen? ⟨b, 2, none⟩ = false := free_of_block s19; clear s19; have HO19 := Lib.hid ho19; have HG19 := Lib.hid hg19; clear ho19 hg19 hat19 hgb19 hgl19 hgs19))
                    go_roundw
                    case rel => exact ⟨k + 1, by omega, by go_num, by rw [HT.out]; exact NewSt.sym2 S0.out S1.out S2.out S3.out S4.out S5.out s6 rfl HO19.out HG19.out⟩
                    case measure => simp [intOf]; omega
          · have hk' : k = ds.length := by omega
            subst hk'
            have HST := Lib.hid hst.text
            have HBL := Lib.hid hst.choose_spec.choose_spec.choose_spec.choose_spec.2.2.2.2.2
            clear hst H0
            go_wp2
            go_ret2
            exact ⟨HBL.out.1, .inr ⟨hE.out, b, HBL.out.2, rfl, HST.out⟩⟩

/-- text.New, at any documents. -/
theorem text_new (ds : List (List UInt8)) (v : Value) (w : World) (hd : DocsR w v ds) :
    Calls Try.prog 22 #[v] w fun e w' => Below w.heap.size w w' ∧ ((mayE ds ≠ 0 ∧ e = .returned (.tuple #[.pointer none, .int .i64 (mayE ds)])) ∨ (mayE ds = 0 ∧ ∃ b, w.heap.size ≤ b ∧ e = .returned (.tuple #[.pointer (some ⟨b, 0, none⟩), .int .i64 0]) ∧ TextR w' b ds)) := by
  by_cases h : ds.length ≤ 500
  · exact new_few ds v w h hd
  · obtain ⟨A, c, rfl, h1, h2, _⟩ := hd.form
    refine (new_many ds A c w (by omega) (by omega)).mono ?_
    rintro e w' ⟨rfl, rfl⟩
    have hE : mayE ds = 65 := by unfold mayE; rw [if_pos (by omega)]
    rw [hE]
    exact ⟨Below.refl _ _, .inl ⟨by omega, rfl⟩⟩
end Go.Proofs.Ytinlmodkdjpocaa
