/- TextSyms returns true for every input, and the documents read afterwards as they did before. No condition. -/
import Derived.Test.YtinlmodkdjpocaaFacts
import Derived.Test.YtinlmodkdjpocaaGl
import Derived.Test.YtinlmodkdjpocaaTxj
set_option linter.unusedVariables false
namespace Go.Proofs.Ytinlmodkdjpocaa
open Go.ChangeShapes Go.WideShapes Go.ChangeAt Go.RowKit Go.Deep
set_option maxRecDepth 100000

theorem textSyms_c0 : (Rows.textSymsRow.wf (OpenSpec.ofChange Rows.textSymsSpec)) = true := by kernel_rfl
theorem textSyms_c1 : (laidOutB Try.prog) = true := seat_c1
theorem textSyms_c2 : (mapsRowed Try.prog) = true := seat_c2
theorem textSyms_c3 : (Try.f3.params.all (Try.prog.readableRec ·)) = true := by kernel_rfl
theorem textSyms_c4 : (namedTie Try.prog Rows.textSymsRow.named Rows.textSymsSpec.vars) = true := by kernel_rfl
theorem textSyms_c5 : ((Rows.textSymsRow.stops == [])) = true := by kernel_rfl
theorem textSyms_c6 : ((Try.prog.stops == [])) = true := seat_c6
theorem textSyms_c7 : ((Rows.textSymsRow.knobs == [])) = true := by kernel_rfl
theorem textSyms_c8 : ((Try.prog.stopKnobs == [])) = true := seat_c8
theorem textSyms_c9 : ((Rows.textSymsRow.inPlace == Try.prog.inPlace 3)) = true := by kernel_rfl
theorem textSyms_c10 : ((Rows.textSymsRow.unfollowed == Try.prog.unfollowed 3)) = true := by kernel_rfl
theorem textSyms_c11 : ((Rows.textSymsRow.recurses == Try.prog.recurses 3)) = true := by kernel_rfl
theorem textSyms_c12 : ((Rows.textSymsRow.named == Try.prog.varsNamed 3)) = true := by kernel_rfl
theorem textSyms_c13 : ((Rows.textSymsRow.maps == (Try.f3.params.toList ++ Rows.textSymsSpec.plain.varTypes Try.prog).any (Try.prog.mapsRec ·))) = true := by kernel_rfl
theorem textSyms_c14 : ((Rows.textSymsRow.ifaces == (Try.f3.params.toList ++ Rows.textSymsSpec.plain.varTypes Try.prog).any (Try.prog.ifacesRec ·))) = true := by kernel_rfl
theorem textSyms_c15 : ((Rows.textSymsRow.mapsOut == Try.prog.mapsAmong Try.f3.resultTypes.toList)) = true := by kernel_rfl
theorem textSyms_c16 : ((Rows.textSymsRow.loops == (Try.f3.params.toList ++ Rows.textSymsSpec.plain.varTypes Try.prog).any (Try.prog.loopsFrom ·))) = true := by kernel_rfl
theorem textSyms_c17 : ((Rows.textSymsRow.wideKeys == (Try.f3.params.toList ++ Rows.textSymsSpec.plain.varTypes Try.prog ++ Try.f3.resultTypes.toList).any (Try.prog.wideKeysFrom ·))) = true := by kernel_rfl
theorem textSyms_c18 : (Rows.textSymsSpec.vars.all (Try.prog.varReadable ·)) = true := by kernel_rfl
theorem textSyms_c19 : (Try.f3.resultTypes.all (fun t => Try.prog.readableRec t && decide (t < Try.prog.types.size))) = true := by kernel_rfl
theorem textSyms_c20 : ((Rows.textSymsRow.ifacesOut == Try.f3.resultTypes.toList.any (Try.prog.ifacesRec ·))) = true := by kernel_rfl
theorem textSyms_c21 : ((Rows.textSymsRow.loopsOut == Try.f3.resultTypes.toList.any (Try.prog.loopsFrom ·))) = true := by kernel_rfl
theorem textSyms_c22 : ((Rows.textSymsRow.plainKeys == Try.prog.plainKeys)) = true := seat_c22
theorem textSyms_c23 : (Rows.textSymsRow.shortTexts.isNone) = true := by kernel_rfl
theorem textSyms_c24 : (Try.prog.stopsHeard) = true := seat_c24
theorem textSyms_c25 : (Try.prog.mayEnter) = true := seat_c25
theorem textSyms_c26 : ((Rows.textSymsRow.lifted == Try.prog.liftsFinal)) = true := seat_c26
theorem textSyms_c27 : ((Try.prog.make == some Rows.textSymsRow.make)) = true := seat_c27
theorem textSyms_c28 : ((Rows.textSymsRow.kinds == (if Rows.textSymsRow.domain.isEmpty then [] else Try.f3.params.toList.map fun t => match Try.prog.underlying t with | some (.int k) => some k | _ => none))) = true := by kernel_rfl
theorem textSyms_c29 : ((Rows.textSymsRow.pinned == Rows.textSymsRow.pinnedBy)) = true := by kernel_rfl
theorem textSyms_c30 : ((Rows.textSymsRow.veiled == (Try.f3.params.toList ++ Rows.textSymsSpec.plain.varTypes Try.prog ++ Try.f3.resultTypes.toList).any (Try.prog.veiledRec ·))) = true := by kernel_rfl
theorem textSyms_c31 : (Rows.textSymsRow.veiledFits Try.prog Try.f3.params.toList (Try.f3.params.toList ++ Rows.textSymsSpec.plain.varTypes Try.prog ++ Try.f3.resultTypes.toList)) = true := by kernel_rfl
theorem textSyms_closed : joinedFacts Try.prog 3 Try.f3 Rows.textSymsSpec Rows.textSymsRow = true := (and_t (and_t (and_t (and_t (and_t (and_t (and_t (and_t (and_t (and_t (and_t (and_t (and_t (and_t (and_t (and_t (and_t (and_t (and_t (and_t (and_t (and_t (and_t (and_t (and_t (and_t (and_t (and_t (and_t (and_t (and_t textSyms_c0 textSyms_c1) textSyms_c2) textSyms_c3) textSyms_c4) textSyms_c5) textSyms_c6) textSyms_c7) textSyms_c8) textSyms_c9) textSyms_c10) textSyms_c11) textSyms_c12) textSyms_c13) textSyms_c14) textSyms_c15) textSyms_c16) textSyms_c17) textSyms_c18) textSyms_c19) textSyms_c20) textSyms_c21) textSyms_c22) textSyms_c23) textSyms_c24) textSyms_c25) textSyms_c26) textSyms_c27) textSyms_c28) textSyms_c29) textSyms_c30) textSyms_c31)

theorem textSyms_lifted (os : Os) (started : os.Started) (H : Type) (enc : TypeId × Value → H) :
    ReturnsInHanded {} Try.checked os 3 .any (Rows.textSymsSpec.pre6 enc Try.prog Try.f3 Rows.textSymsRow.domain false) (Rows.textSymsSpec.post enc Try.prog Try.f3 false true false false) := by
  refine returnsInHanded_of_change_shaped (C := Try.checked) row_own started (by kernel_rfl) Try.func3
    (ChangeSpec.witness6 (enc := enc) (C := Try.checked) false ⟨#[], #[.slice none 0 0], []⟩ 8 (by kernel_rfl) (by kernel_rfl) (by kernel_rfl) (by kernel_rfl)) ?_
  intro W base args ds gs before hval0 hW hcnd _ hsh _
  have hval : ∀ (j : Nat) t v, Try.f3.params[j]? = some t → args[j]? = some v → Value.okWide Try.prog W .any base t v := hval0
  have hW' := hW
  obtain ⟨p, q, hA0, hV, rfl, hfz, hnd⟩ := hW
  have hA : DataW.TrodAll enc Try.prog W 0 (fun _ => true) true Try.f3.params.toList args.toList ds p := hA0
  rw [Try.params3] at hA hval
  obtain ⟨v0, vs0, d0, ds0, p0, q0, hargs, rfl, rfl, h0, r0⟩ := trodAll_cons hA
  obtain ⟨rfl, rfl, rfl⟩ := trodAll_nil r0
  obtain rfl : args = #[v0] := by cases args; simp_all
  obtain ⟨rfl, rfl⟩ := trodVars_none hV
  obtain ⟨a0, len0, cap0, rfl⟩ := okWide_slice Try.underlying22 (hval 0 22 v0 rfl rfl)
  obtain ⟨fuel0, hf0⟩ := h0
  obtain ⟨x0, hx0⟩ := open_docs hf0
  clear hA0 hval0
  refine (law_syms x0 _ W hx0 (gl_of hsh)).mono fun e W' ⟨he, hb⟩ => ?_
  subst he
  exact ⟨_, rfl, post_law rfl (of_decide_eq_true (by kernel_rfl)) hW' rfl (by kernel_rfl) hb⟩

theorem textSyms_wrap : Try.f3.isWrapper Try.pinned.checked.prog Rows.textSymsRow.wrapper Rows.textSymsRow.mainSum := by
  unfold Func.isWrapper; first | (rw [if_pos (by decide +kernel)]; kernel_rfl) | (rw [if_neg (by decide +kernel)]; exact ⟨rfl, rfl⟩)
theorem textSyms_inst : Try.f3.isInstance Try.pinned.checked.prog Rows.textSymsRow.origin Rows.textSymsRow.targs := of_decide_eq_true (by kernel_rfl)
theorem textSyms_named : Try.pinned.checked.prog.funcNamed Rows.textSymsRow.func = some 3 := by kernel_rfl

/-- TextSyms returns true for every input, and the documents read afterwards as they did before. No condition. -/
theorem textSyms_holds : Rows.TextSymsSaid :=
  OpenClaim.holds_of_wide 3 Try.f3 rfl rfl rfl rfl rfl rfl rfl ⟨rfl, rfl, rfl, rfl, rfl⟩ rfl rfl rfl rfl rfl textSyms_named Try.func3 textSyms_closed
    textSyms_inst textSyms_wrap (fun os started H enc _ => textSyms_lifted os started H enc)
#print axioms textSyms_holds
end Go.Proofs.Ytinlmodkdjpocaa
