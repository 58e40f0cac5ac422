/- BackRanges returns true for every input, and the arguments read afterwards as they did before. No condition. -/
import Derived.Test.YtinlmodkdjpocaaFacts
import Derived.Test.YtinlmodkdjpocaaGl
import Derived.Test.YtinlmodkdjpocaaBra
set_option linter.unusedVariables false
namespace Go.Proofs.Ytinlmodkdjpocaa
open Go.ChangeShapes Go.WideShapes Go.ChangeAt Go.RowKit Go.Deep
set_option maxRecDepth 100000

theorem backRanges_c0 : (Rows.backRangesRow.wf (OpenSpec.ofChange Rows.backRangesSpec)) = true := by kernel_rfl
theorem backRanges_c1 : (laidOutB Try.prog) = true := seat_c1
theorem backRanges_c2 : (mapsRowed Try.prog) = true := seat_c2
theorem backRanges_c3 : (Try.f11.params.all (Try.prog.readableRec ·)) = true := by kernel_rfl
theorem backRanges_c4 : (namedTie Try.prog Rows.backRangesRow.named Rows.backRangesSpec.vars) = true := by kernel_rfl
theorem backRanges_c5 : ((Rows.backRangesRow.stops == [])) = true := by kernel_rfl
theorem backRanges_c6 : ((Try.prog.stops == [])) = true := seat_c6
theorem backRanges_c7 : ((Rows.backRangesRow.knobs == [])) = true := by kernel_rfl
theorem backRanges_c8 : ((Try.prog.stopKnobs == [])) = true := seat_c8
theorem backRanges_c9 : ((Rows.backRangesRow.inPlace == Try.prog.inPlace 11)) = true := by kernel_rfl
theorem backRanges_c10 : ((Rows.backRangesRow.unfollowed == Try.prog.unfollowed 11)) = true := by kernel_rfl
theorem backRanges_c11 : ((Rows.backRangesRow.recurses == Try.prog.recurses 11)) = true := by kernel_rfl
theorem backRanges_c12 : ((Rows.backRangesRow.named == Try.prog.varsNamed 11)) = true := by kernel_rfl
theorem backRanges_c13 : ((Rows.backRangesRow.maps == (Try.f11.params.toList ++ Rows.backRangesSpec.plain.varTypes Try.prog).any (Try.prog.mapsRec ·))) = true := by kernel_rfl
theorem backRanges_c14 : ((Rows.backRangesRow.ifaces == (Try.f11.params.toList ++ Rows.backRangesSpec.plain.varTypes Try.prog).any (Try.prog.ifacesRec ·))) = true := by kernel_rfl
theorem backRanges_c15 : ((Rows.backRangesRow.mapsOut == Try.prog.mapsAmong Try.f11.resultTypes.toList)) = true := by kernel_rfl
theorem backRanges_c16 : ((Rows.backRangesRow.loops == (Try.f11.params.toList ++ Rows.backRangesSpec.plain.varTypes Try.prog).any (Try.prog.loopsFrom ·))) = true := by kernel_rfl
theorem backRanges_c17 : ((Rows.backRangesRow.wideKeys == (Try.f11.params.toList ++ Rows.backRangesSpec.plain.varTypes Try.prog ++ Try.f11.resultTypes.toList).any (Try.prog.wideKeysFrom ·))) = true := by kernel_rfl
theorem backRanges_c18 : (Rows.backRangesSpec.vars.all (Try.prog.varReadable ·)) = true := by kernel_rfl
theorem backRanges_c19 : (Try.f11.resultTypes.all (fun t => Try.prog.readableRec t && decide (t < Try.prog.types.size))) = true := by kernel_rfl
theorem backRanges_c20 : ((Rows.backRangesRow.ifacesOut == Try.f11.resultTypes.toList.any (Try.prog.ifacesRec ·))) = true := by kernel_rfl
theorem backRanges_c21 : ((Rows.backRangesRow.loopsOut == Try.f11.resultTypes.toList.any (Try.prog.loopsFrom ·))) = true := by kernel_rfl
theorem backRanges_c22 : ((Rows.backRangesRow.plainKeys == Try.prog.plainKeys)) = true := seat_c22
theorem backRanges_c23 : (Rows.backRangesRow.shortTexts.isNone) = true := by kernel_rfl
theorem backRanges_c24 : (Try.prog.stopsHeard) = true := seat_c24
theorem backRanges_c25 : (Try.prog.mayEnter) = true := seat_c25
theorem backRanges_c26 : ((Rows.backRangesRow.lifted == Try.prog.liftsFinal)) = true := seat_c26
theorem backRanges_c27 : ((Try.prog.make == some Rows.backRangesRow.make)) = true := seat_c27
theorem backRanges_c28 : ((Rows.backRangesRow.kinds == (if Rows.backRangesRow.domain.isEmpty then [] else Try.f11.params.toList.map fun t => match Try.prog.underlying t with | some (.int k) => some k | _ => none))) = true := by kernel_rfl
theorem backRanges_c29 : ((Rows.backRangesRow.pinned == Rows.backRangesRow.pinnedBy)) = true := by kernel_rfl
theorem backRanges_c30 : ((Rows.backRangesRow.veiled == (Try.f11.params.toList ++ Rows.backRangesSpec.plain.varTypes Try.prog ++ Try.f11.resultTypes.toList).any (Try.prog.veiledRec ·))) = true := by kernel_rfl
theorem backRanges_c31 : (Rows.backRangesRow.veiledFits Try.prog Try.f11.params.toList (Try.f11.params.toList ++ Rows.backRangesSpec.plain.varTypes Try.prog ++ Try.f11.resultTypes.toList)) = true := by kernel_rfl
theorem backRanges_closed : joinedFacts Try.prog 11 Try.f11 Rows.backRangesSpec Rows.backRangesRow = true := (and_t (and_t (and_t (and_t (and_t (and_t (and_t (and_t (and_t (and_t (and_t (and_t (and_t (and_t (and_t (and_t (and_t (and_t (and_t (and_t (and_t (and_t (and_t (and_t (and_t (and_t (and_t (and_t (and_t (and_t (and_t backRanges_c0 backRanges_c1) backRanges_c2) backRanges_c3) backRanges_c4) backRanges_c5) backRanges_c6) backRanges_c7) backRanges_c8) backRanges_c9) backRanges_c10) backRanges_c11) backRanges_c12) backRanges_c13) backRanges_c14) backRanges_c15) backRanges_c16) backRanges_c17) backRanges_c18) backRanges_c19) backRanges_c20) backRanges_c21) backRanges_c22) backRanges_c23) backRanges_c24) backRanges_c25) backRanges_c26) backRanges_c27) backRanges_c28) backRanges_c29) backRanges_c30) backRanges_c31)

theorem backRanges_lifted (os : Os) (started : os.Started) (H : Type) (enc : TypeId × Value → H) :
    ReturnsInHanded {} Try.checked os 11 .any (Rows.backRangesSpec.pre6 enc Try.prog Try.f11 Rows.backRangesRow.domain false) (Rows.backRangesSpec.post enc Try.prog Try.f11 false true false false) := by
  refine returnsInHanded_of_change_shaped (C := Try.checked) row_own started (by kernel_rfl) Try.func11
    (ChangeSpec.witness6 (enc := enc) (C := Try.checked) false ⟨#[], #[.slice none 0 0, .slice none 0 0], []⟩ 8 (by kernel_rfl) (by kernel_rfl) (by kernel_rfl) (by kernel_rfl)) ?_
  intro W base args ds gs before hval0 hW hcnd _ hsh _
  have hval : ∀ (j : Nat) t v, Try.f11.params[j]? = some t → args[j]? = some v → Value.okWide Try.prog W .any base t v := hval0
  have hW' := hW
  obtain ⟨p, q, hA0, hV, rfl, hfz, hnd⟩ := hW
  have hA : DataW.TrodAll enc Try.prog W 0 (fun _ => true) true Try.f11.params.toList args.toList ds p := hA0
  rw [Try.params11] at hA hval
  obtain ⟨v0, vs0, d0, ds0, p0, q0, hargs, rfl, rfl, h0, r0⟩ := trodAll_cons hA
  obtain ⟨v1, vs1, d1, ds1, p1, q1, rfl, rfl, rfl, h1, r1⟩ := trodAll_cons r0
  obtain ⟨rfl, rfl, rfl⟩ := trodAll_nil r1
  obtain rfl : args = #[v0, v1] := by cases args; simp_all
  obtain ⟨rfl, rfl⟩ := trodVars_none hV
  obtain ⟨a0, len0, cap0, rfl⟩ := okWide_slice Try.underlying22 (hval 0 22 v0 rfl rfl)
  obtain ⟨fuel0, hf0⟩ := h0
  obtain ⟨x0, hx0⟩ := open_docs hf0
  obtain ⟨a1, len1, cap1, rfl⟩ := okWide_slice Try.underlying29 (hval 1 29 v1 rfl rfl)
  obtain ⟨fuel1, hf1⟩ := h1
  obtain ⟨x1, hx1⟩ := open_bys hf1
  clear hA0 hval0
  refine (law12_ranges x0 _ x1 _ W hx0 hx1).mono fun e W' ⟨he, hb⟩ => ?_
  subst he
  exact ⟨_, rfl, post_law rfl (of_decide_eq_true (by kernel_rfl)) hW' rfl (by kernel_rfl) hb⟩

theorem backRanges_wrap : Try.f11.isWrapper Try.pinned.checked.prog Rows.backRangesRow.wrapper Rows.backRangesRow.mainSum := by
  unfold Func.isWrapper; first | (rw [if_pos (by decide +kernel)]; kernel_rfl) | (rw [if_neg (by decide +kernel)]; exact ⟨rfl, rfl⟩)
theorem backRanges_inst : Try.f11.isInstance Try.pinned.checked.prog Rows.backRangesRow.origin Rows.backRangesRow.targs := of_decide_eq_true (by kernel_rfl)
theorem backRanges_named : Try.pinned.checked.prog.funcNamed Rows.backRangesRow.func = some 11 := by kernel_rfl

/-- BackRanges returns true for every input, and the arguments read afterwards as they did before. No condition. -/
theorem backRanges_holds : Rows.BackRangesSaid :=
  OpenClaim.holds_of_wide 11 Try.f11 rfl rfl rfl rfl rfl rfl rfl ⟨rfl, rfl, rfl, rfl, rfl⟩ rfl rfl rfl rfl rfl backRanges_named Try.func11 backRanges_closed
    backRanges_inst backRanges_wrap (fun os started H enc _ => backRanges_lifted os started H enc)
#print axioms backRanges_holds
end Go.Proofs.Ytinlmodkdjpocaa
