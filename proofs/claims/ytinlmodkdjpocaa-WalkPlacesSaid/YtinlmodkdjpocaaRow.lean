/- The row's frame: arguments opened to lists, what comes back. Generic but for the program's name. -/
import Derived.Test.YtinlmodkdjpocaaRows
import Derived.Test.YtinlmodkdjpocaaGen
import Derived.WalkKit
import Derived.ProofKit
import Derived.OpenShut
import Derived.HandedShaped
import Derived.Carry
import Derived.Deep.Matrix
set_option linter.unusedVariables false
namespace Go.Proofs.Ytinlmodkdjpocaa
open Go.ChangeShapes Go.WideShapes Go.ChangeAt Go.RowKit Go.Deep

theorem row_own : ownKnob Try.prog.godebug = none := by kernel_rfl
theorem row_laidOut : laidOutB Try.prog = true := by kernel_rfl

section
variable {H : Type} {enc : TypeId × Value → H}

/-- below the heap's old size nothing has turned: the arguments read as they did -/
theorem trodAll_later {W W' : World} (hb : Below W.heap.size W W') : ∀ (ts : List TypeId) (vs : List Value) (ds : List (DataW H)) (ps : List MemPlace), (∀ t ∈ ts, Try.prog.readableRec t = true ∧ t < Try.prog.types.size) →
    DataW.TrodAll enc Try.prog W 0 (fun _ => true) true ts vs ds ps → (∀ x ∈ ps, x.block < W.heap.size) → DataW.TrodAll enc Try.prog W' 0 (fun b => decide (b < W.heap.size)) true ts vs ds ps
  | [], [], [], _, _, h, _ => h
  | t :: ts, v :: vs, d :: ds, ps, ht, h, hlt => by
    obtain ⟨p, q, h1, h2, rfl⟩ := h
    refine ⟨p, q, ?_, trodAll_later hb ts vs ds q (fun t' h' => ht t' (List.mem_cons_of_mem _ h')) h2 (fun x hx => hlt x (List.mem_append_right _ hx)), rfl⟩
    exact Below.trod row_laidOut (ht t (List.mem_cons_self)).1 (ht t (List.mem_cons_self)).2 h1 hb (fun x hx => hlt x (List.mem_append_left _ hx))
  | [], _ :: _, _, _, _, h, _ => by cases h
  | [], [], _ :: _, _, _, h, _ => by cases h
  | _ :: _, [], _, _, _, h, _ => by cases h
  | _ :: _, _ :: _, [], _, _, h, _ => by cases h

/-- the law's end: true, and the arguments as they were -/
theorem post_law {f : Func} {s : ChangeSpec} {W W' : World} {args : Array Value} {ds gs : List (DataW H)} {before : List MemPlace} (hv : s.vars = []) (hread : ∀ t ∈ f.params.toList, Try.prog.readableRec t = true ∧ t < Try.prog.types.size)
    (hW : DataW.Whole enc Try.prog f.params.toList s.vars false W args.toList ds gs before) (hsp : s.fn H (ds ++ gs) = { results := [.lit (.bool true)], args := ds }) (hres : f.resultTypes = #[4]) (hb : Below W.heap.size W W') :
    s.post enc Try.prog f false true false false W args (.bool true) W' := by
  have hW' := hW
  obtain ⟨p, q, hA, hV, rfl, hfz, hnd⟩ := hW
  have hlt := hW'.lt
  rw [hv] at hV
  have hq : q = [] ∧ gs = [] := by
    cases gs with
    | nil => exact ⟨hV, rfl⟩
    | cons _ _ => cases hV
  obtain ⟨rfl, rfl⟩ := hq
  refine ⟨ds, [], p ++ [], [], p, [], hW', ?_, ?_, ?_, hb.frame _, fun h => by cases h⟩
  · rw [hsp, hres]
    exact trodAll_cons_mk (shut_bool Try.underlying4 _) trodAll_mk0
  · rw [hsp]
    exact trodAll_later hb _ _ _ _ hread hA (fun x hx => hlt x (List.mem_append_left _ hx))
  · rw [hsp, hv]; rfl

theorem wf_u8 {z : Int} (h : (Lit.int .u8 z).wf = true) : 0 ≤ z ∧ z < 256 := by
  have h2 : 0 ≤ z ∧ z ≤ 255 := by simpa [Lit.wf, IntKind.min, IntKind.max, IntKind.signed, IntKind.bits] using h
  exact ⟨h2.1, by omega⟩
theorem byV_of {z : Int} (h : (Lit.int .u8 z).wf = true) : byV (UInt8.ofNat z.toNat) = .int .u8 z := by
  obtain ⟨h1, h2⟩ := wf_u8 h
  have h3 : (UInt8.ofNat z.toNat).toNat = z.toNat := by rw [UInt8.toNat_ofNat']; omega
  unfold byV
  rw [h3]
  congr 1
  omega

/-- a '[][]byte' that came in, as lists -/
theorem open_docs {W : World} {fuel : Nat} {v : Value} {x : DataW H × List MemPlace} (h : DataW.trod enc Try.prog W 0 (fun _ => true) true fuel 22 [v] = some x) : ∃ ds, DocsR W v ds := by
  rcases open_int_rows Try.underlying22 Try.underlying29 Try.underlying5 (by kernel_rfl) (by kernel_rfl) h with ⟨hcs, -⟩ | ⟨a, len, cap, A, L, C, Z, hcs, -, hl, hm, -, hrows⟩
  · cases hcs
    exact ⟨[], [], rfl, SlR.nil _, fun j h => absurd h (Nat.not_lt_zero _)⟩
  · cases hcs
    refine ⟨(List.range len).map fun r => ((Z r).take (L r)).map fun z => UInt8.ofNat z.toNat, (List.range len).map fun r => .slice (A r) (L r) (C r), by simp, ⟨some a, cap, by simp, by simpa using hl, by simpa [maxLen] using hm, ?_⟩, ?_⟩
    · right
      refine ⟨a, rfl, fun j hj => ?_⟩
      simp at hj
      have := (hrows j (by omega)).1
      simpa using this
    · intro j hj hj'
      simp only [List.length_map, List.length_range] at hj
      obtain ⟨-, h1, h2, h3, h4, h5, h6⟩ := hrows j (by omega)
      have hlen : (((Z j).take (L j)).map fun z => UInt8.ofNat z.toNat).length = L j := by simp; omega
      simp only [List.getElem_map, List.getElem_range]
      refine ⟨A j, C j, by rw [hlen], by rw [hlen]; exact h1, by simpa [maxLen] using h2, ?_⟩
      by_cases h0 : L j = 0
      · left; exact List.eq_nil_of_length_eq_zero (by rw [hlen]; exact h0)
      · right
        cases hA : A j with
        | none => have := h5 hA; omega
        | some a' =>
          refine ⟨a', rfl, fun c hc => ?_⟩
          rw [hlen] at hc
          rw [(h6 a' hA).2 c (by omega)]
          have hcz : c < (Z j).length := by omega
          simp only [List.getElem_map, List.getElem_take]
          rw [byV_of (h4 _ (List.getElem_mem hcz))]
          simp [List.getD, hcz]

/-- a '[]byte' that came in, as a list -/
theorem open_bys {W : World} {fuel : Nat} {v : Value} {x : DataW H × List MemPlace} (h : DataW.trod enc Try.prog W 0 (fun _ => true) true fuel 29 [v] = some x) : ∃ bs, SlR byV W v bs := by
  rcases open_ints Try.underlying29 Try.underlying5 (by kernel_rfl) h with ⟨hcs, -⟩ | ⟨a, len, cap, zs, hcs, -, hl, hm, hz, -, hcell, hw⟩
  · cases hcs; exact ⟨[], SlR.nil _⟩
  · cases hcs
    simp only [if_true] at hz
    have hlen : ((zs.take len).map fun z => UInt8.ofNat z.toNat).length = len := by simp; omega
    refine ⟨(zs.take len).map fun z => UInt8.ofNat z.toNat, some a, cap, by rw [hlen], by rw [hlen]; exact hl, by simpa [maxLen] using hm, .inr ⟨a, rfl, fun c hc => ?_⟩⟩
    rw [hlen] at hc
    have hcz : c < zs.length := by omega
    rw [hcell c hcz]
    simp only [List.getElem_map, List.getElem_take]
    rw [byV_of (hw _ (List.getElem_mem hcz))]
    simp [List.getD, hcz]
end
end Go.Proofs.Ytinlmodkdjpocaa
