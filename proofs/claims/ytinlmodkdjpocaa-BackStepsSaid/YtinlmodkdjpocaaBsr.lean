/- BackSteps returns true for every input, and the argument reads afterwards as it did before. No condition. -/
import Derived.Test.YtinlmodkdjpocaaFacts
import Derived.Test.YtinlmodkdjpocaaGl
import Derived.Test.YtinlmodkdjpocaaBsa
set_option linter.unusedVariables false
namespace Go.Proofs.Ytinlmodkdjpocaa
open Go.ChangeShapes Go.WideShapes Go.ChangeAt Go.RowKit Go.Deep
set_option maxRecDepth 100000

theorem backSteps_c0 : (Rows.backStepsRow.wf (OpenSpec.ofChange Rows.backStepsSpec)) = true := by kernel_rfl
theorem backSteps_c1 : (laidOutB Try.prog) = true := seat_c1
theorem backSteps_c2 : (mapsRowed Try.prog) = true := seat_c2
theorem backSteps_c3 : (Try.f12.params.all (Try.prog.readableRec ·)) = true := by kernel_rfl
theorem backSteps_c4 : (namedTie Try.prog Rows.backStepsRow.named Rows.backStepsSpec.vars) = true := by kernel_rfl
theorem backSteps_c5 : ((Rows.backStepsRow.stops == [])) = true := by kernel_rfl
theorem backSteps_c6 : ((Try.prog.stops == [])) = true := seat_c6
theorem backSteps_c7 : ((Rows.backStepsRow.knobs == [])) = true := by kernel_rfl
theorem backSteps_c8 : ((Try.prog.stopKnobs == [])) = true := seat_c8
theorem backSteps_c9 : ((Rows.backStepsRow.inPlace == Try.prog.inPlace 12)) = true := by kernel_rfl
theorem backSteps_c10 : ((Rows.backStepsRow.unfollowed == Try.prog.unfollowed 12)) = true := by kernel_rfl
theorem backSteps_c11 : ((Rows.backStepsRow.recurses == Try.prog.recurses 12)) = true := by kernel_rfl
theorem backSteps_c12 : ((Rows.backStepsRow.named == Try.prog.varsNamed 12)) = true := by kernel_rfl
theorem backSteps_c13 : ((Rows.backStepsRow.maps == (Try.f12.params.toList ++ Rows.backStepsSpec.plain.varTypes Try.prog).any (Try.prog.mapsRec ·))) = true := by kernel_rfl
theorem backSteps_c14 : ((Rows.backStepsRow.ifaces == (Try.f12.params.toList ++ Rows.backStepsSpec.plain.varTypes Try.prog).any (Try.prog.ifacesRec ·))) = true := by kernel_rfl
theorem backSteps_c15 : ((Rows.backStepsRow.mapsOut == Try.prog.mapsAmong Try.f12.resultTypes.toList)) = true := by kernel_rfl
theorem backSteps_c16 : ((Rows.backStepsRow.loops == (Try.f12.params.toList ++ Rows.backStepsSpec.plain.varTypes Try.prog).any (Try.prog.loopsFrom ·))) = true := by kernel_rfl
theorem backSteps_c17 : ((Rows.backStepsRow.wideKeys == (Try.f12.params.toList ++ Rows.backStepsSpec.plain.varTypes Try.prog ++ Try.f12.resultTypes.toList).any (Try.prog.wideKeysFrom ·))) = true := by kernel_rfl
theorem backSteps_c18 : (Rows.backStepsSpec.vars.all (Try.prog.varReadable ·)) = true := by kernel_rfl
theorem backSteps_c19 : (Try.f12.resultTypes.all (fun t => Try.prog.readableRec t && decide (t < Try.prog.types.size))) = true := by kernel_rfl
theorem backSteps_c20 : ((Rows.backStepsRow.ifacesOut == Try.f12.resultTypes.toList.any (Try.prog.ifacesRec ·))) = true := by kernel_rfl
theorem backSteps_c21 : ((Rows.backStepsRow.loopsOut == Try.f12.resultTypes.toList.any (Try.prog.loopsFrom ·))) = true := by kernel_rfl
theorem backSteps_c22 : ((Rows.backStepsRow.plainKeys == Try.prog.plainKeys)) = true := seat_c22
theorem backSteps_c23 : (Rows.backStepsRow.shortTexts.isNone) = true := by kernel_rfl
theorem backSteps_c24 : (Try.prog.stopsHeard) = true := seat_c24
theorem backSteps_c25 : (Try.prog.mayEnter) = true := seat_c25
theorem backSteps_c26 : ((Rows.backStepsRow.lifted == Try.prog.liftsFinal)) = true := seat_c26
theorem backSteps_c27 : ((Try.prog.make == some Rows.backStepsRow.make)) = true := seat_c27
theorem backSteps_c28 : ((Rows.backStepsRow.kinds == (if Rows.backStepsRow.domain.isEmpty then [] else Try.f12.params.toList.map fun t => match Try.prog.underlying t with | some (.int k) => some k | _ => none))) = true := by kernel_rfl
theorem backSteps_c29 : ((Rows.backStepsRow.pinned == Rows.backStepsRow.pinnedBy)) = true := by kernel_rfl
theorem backSteps_c30 : ((Rows.backStepsRow.veiled == (Try.f12.params.toList ++ Rows.backStepsSpec.plain.varTypes Try.prog ++ Try.f12.resultTypes.toList).any (Try.prog.veiledRec ·))) = true := by kernel_rfl
theorem backSteps_c31 : (Rows.backStepsRow.veiledFits Try.prog Try.f12.params.toList (Try.f12.params.toList ++ Rows.backStepsSpec.plain.varTypes Try.prog ++ Try.f12.resultTypes.toList)) = true := by kernel_rfl
theorem backSteps_closed : joinedFacts Try.prog 12 Try.f12 Rows.backStepsSpec Rows.backStepsRow = true := (and_t (and_t (and_t (and_t (and_t (and_t (and_t (and_t (and_t (and_t (and_t (and_t (and_t (and_t (and_t (and_t (and_t (and_t (and_t (and_t (and_t (and_t (and_t (and_t (and_t (and_t (and_t (and_t (and_t (and_t (and_t backSteps_c0 backSteps_c1) backSteps_c2) backSteps_c3) backSteps_c4) backSteps_c5) backSteps_c6) backSteps_c7) backSteps_c8) backSteps_c9) backSteps_c10) backSteps_c11) backSteps_c12) backSteps_c13) backSteps_c14) backSteps_c15) backSteps_c16) backSteps_c17) backSteps_c18) backSteps_c19) backSteps_c20) backSteps_c21) backSteps_c22) backSteps_c23) backSteps_c24) backSteps_c25) backSteps_c26) backSteps_c27) backSteps_c28) backSteps_c29) backSteps_c30) backSteps_c31)

theorem backSteps_lifted (os : Os) (started : os.Started) (H : Type) (enc : TypeId × Value → H) :
    ReturnsInHanded {} Try.checked os 12 .any (Rows.backStepsSpec.pre6 enc Try.prog Try.f12 Rows.backStepsRow.domain false) (Rows.backStepsSpec.post enc Try.prog Try.f12 false true false false) := by
  refine returnsInHanded_of_change_shaped (C := Try.checked) row_own started (by kernel_rfl) Try.func12
    (ChangeSpec.witness6 (enc := enc) (C := Try.checked) false ⟨#[], #[.slice none 0 0], []⟩ 8 (by kernel_rfl) (by kernel_rfl) (by kernel_rfl) (by kernel_rfl)) ?_
  intro W base args ds gs before hval0 hW hcnd _ hsh _
  have hval : ∀ (j : Nat) t v, Try.f12.params[j]? = some t → args[j]? = some v → Value.okWide Try.prog W .any base t v := hval0
  have hW' := hW
  obtain ⟨p, q, hA0, hV, rfl, hfz, hnd⟩ := hW
  have hA : DataW.TrodAll enc Try.prog W 0 (fun _ => true) true Try.f12.params.toList args.toList ds p := hA0
  rw [Try.params12] at hA hval
  obtain ⟨v0, vs0, d0, ds0, p0, q0, hargs, rfl, rfl, h0, r0⟩ := trodAll_cons hA
  obtain ⟨rfl, rfl, rfl⟩ := trodAll_nil r0
  obtain rfl : args = #[v0] := by cases args; simp_all
  obtain ⟨rfl, rfl⟩ := trodVars_none hV
  obtain ⟨a0, len0, cap0, rfl⟩ := okWide_slice Try.underlying22 (hval 0 22 v0 rfl rfl)
  obtain ⟨fuel0, hf0⟩ := h0
  obtain ⟨x0, hx0⟩ := open_docs hf0
  clear hA0 hval0
  refine (law12_steps x0 _ W hx0).mono fun e W' ⟨he, hb⟩ => ?_
  subst he
  exact ⟨_, rfl, post_law rfl (of_decide_eq_true (by kernel_rfl)) hW' rfl (by kernel_rfl) hb⟩

theorem backSteps_wrap : Try.f12.isWrapper Try.pinned.checked.prog Rows.backStepsRow.wrapper Rows.backStepsRow.mainSum := by
  unfold Func.isWrapper; first | (rw [if_pos (by decide +kernel)]; kernel_rfl) | (rw [if_neg (by decide +kernel)]; exact ⟨rfl, rfl⟩)
theorem backSteps_inst : Try.f12.isInstance Try.pinned.checked.prog Rows.backStepsRow.origin Rows.backStepsRow.targs := of_decide_eq_true (by kernel_rfl)
theorem backSteps_named : Try.pinned.checked.prog.funcNamed Rows.backStepsRow.func = some 12 := by kernel_rfl

/-- BackSteps returns true for every input, and the argument reads afterwards as it did before. No condition. -/
theorem backSteps_holds : Rows.BackStepsSaid :=
  OpenClaim.holds_of_wide 12 Try.f12 rfl rfl rfl rfl rfl rfl rfl ⟨rfl, rfl, rfl, rfl, rfl⟩ rfl rfl rfl rfl rfl backSteps_named Try.func12 backSteps_closed
    backSteps_inst backSteps_wrap (fun os started H enc _ => backSteps_lifted os started H enc)
#print axioms backSteps_holds
end Go.Proofs.Ytinlmodkdjpocaa
