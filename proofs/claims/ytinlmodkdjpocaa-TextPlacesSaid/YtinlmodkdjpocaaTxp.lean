/- TextPlaces returns true for every input, and the documents read afterwards as they did before. No condition. -/
import Derived.Test.YtinlmodkdjpocaaFacts
import Derived.Test.YtinlmodkdjpocaaGl
import Derived.Test.YtinlmodkdjpocaaTxk
set_option linter.unusedVariables false
namespace Go.Proofs.Ytinlmodkdjpocaa
open Go.ChangeShapes Go.WideShapes Go.ChangeAt Go.RowKit Go.Deep
set_option maxRecDepth 100000

theorem textPlaces_c0 : (Rows.textPlacesRow.wf (OpenSpec.ofChange Rows.textPlacesSpec)) = true := by kernel_rfl
theorem textPlaces_c1 : (laidOutB Try.prog) = true := seat_c1
theorem textPlaces_c2 : (mapsRowed Try.prog) = true := seat_c2
theorem textPlaces_c3 : (Try.f7.params.all (Try.prog.readableRec ·)) = true := by kernel_rfl
theorem textPlaces_c4 : (namedTie Try.prog Rows.textPlacesRow.named Rows.textPlacesSpec.vars) = true := by kernel_rfl
theorem textPlaces_c5 : ((Rows.textPlacesRow.stops == [])) = true := by kernel_rfl
theorem textPlaces_c6 : ((Try.prog.stops == [])) = true := seat_c6
theorem textPlaces_c7 : ((Rows.textPlacesRow.knobs == [])) = true := by kernel_rfl
theorem textPlaces_c8 : ((Try.prog.stopKnobs == [])) = true := seat_c8
theorem textPlaces_c9 : ((Rows.textPlacesRow.inPlace == Try.prog.inPlace 7)) = true := by kernel_rfl
theorem textPlaces_c10 : ((Rows.textPlacesRow.unfollowed == Try.prog.unfollowed 7)) = true := by kernel_rfl
theorem textPlaces_c11 : ((Rows.textPlacesRow.recurses == Try.prog.recurses 7)) = true := by kernel_rfl
theorem textPlaces_c12 : ((Rows.textPlacesRow.named == Try.prog.varsNamed 7)) = true := by kernel_rfl
theorem textPlaces_c13 : ((Rows.textPlacesRow.maps == (Try.f7.params.toList ++ Rows.textPlacesSpec.plain.varTypes Try.prog).any (Try.prog.mapsRec ·))) = true := by kernel_rfl
theorem textPlaces_c14 : ((Rows.textPlacesRow.ifaces == (Try.f7.params.toList ++ Rows.textPlacesSpec.plain.varTypes Try.prog).any (Try.prog.ifacesRec ·))) = true := by kernel_rfl
theorem textPlaces_c15 : ((Rows.textPlacesRow.mapsOut == Try.prog.mapsAmong Try.f7.resultTypes.toList)) = true := by kernel_rfl
theorem textPlaces_c16 : ((Rows.textPlacesRow.loops == (Try.f7.params.toList ++ Rows.textPlacesSpec.plain.varTypes Try.prog).any (Try.prog.loopsFrom ·))) = true := by kernel_rfl
theorem textPlaces_c17 : ((Rows.textPlacesRow.wideKeys == (Try.f7.params.toList ++ Rows.textPlacesSpec.plain.varTypes Try.prog ++ Try.f7.resultTypes.toList).any (Try.prog.wideKeysFrom ·))) = true := by kernel_rfl
theorem textPlaces_c18 : (Rows.textPlacesSpec.vars.all (Try.prog.varReadable ·)) = true := by kernel_rfl
theorem textPlaces_c19 : (Try.f7.resultTypes.all (fun t => Try.prog.readableRec t && decide (t < Try.prog.types.size))) = true := by kernel_rfl
theorem textPlaces_c20 : ((Rows.textPlacesRow.ifacesOut == Try.f7.resultTypes.toList.any (Try.prog.ifacesRec ·))) = true := by kernel_rfl
theorem textPlaces_c21 : ((Rows.textPlacesRow.loopsOut == Try.f7.resultTypes.toList.any (Try.prog.loopsFrom ·))) = true := by kernel_rfl
theorem textPlaces_c22 : ((Rows.textPlacesRow.plainKeys == Try.prog.plainKeys)) = true := seat_c22
theorem textPlaces_c23 : (Rows.textPlacesRow.shortTexts.isNone) = true := by kernel_rfl
theorem textPlaces_c24 : (Try.prog.stopsHeard) = true := seat_c24
theorem textPlaces_c25 : (Try.prog.mayEnter) = true := seat_c25
theorem textPlaces_c26 : ((Rows.textPlacesRow.lifted == Try.prog.liftsFinal)) = true := seat_c26
theorem textPlaces_c27 : ((Try.prog.make == some Rows.textPlacesRow.make)) = true := seat_c27
theorem textPlaces_c28 : ((Rows.textPlacesRow.kinds == (if Rows.textPlacesRow.domain.isEmpty then [] else Try.f7.params.toList.map fun t => match Try.prog.underlying t with | some (.int k) => some k | _ => none))) = true := by kernel_rfl
theorem textPlaces_c29 : ((Rows.textPlacesRow.pinned == Rows.textPlacesRow.pinnedBy)) = true := by kernel_rfl
theorem textPlaces_c30 : ((Rows.textPlacesRow.veiled == (Try.f7.params.toList ++ Rows.textPlacesSpec.plain.varTypes Try.prog ++ Try.f7.resultTypes.toList).any (Try.prog.veiledRec ·))) = true := by kernel_rfl
theorem textPlaces_c31 : (Rows.textPlacesRow.veiledFits Try.prog Try.f7.params.toList (Try.f7.params.toList ++ Rows.textPlacesSpec.plain.varTypes Try.prog ++ Try.f7.resultTypes.toList)) = true := by kernel_rfl
theorem textPlaces_closed : joinedFacts Try.prog 7 Try.f7 Rows.textPlacesSpec Rows.textPlacesRow = true := (and_t (and_t (and_t (and_t (and_t (and_t (and_t (and_t (and_t (and_t (and_t (and_t (and_t (and_t (and_t (and_t (and_t (and_t (and_t (and_t (and_t (and_t (and_t (and_t (and_t (and_t (and_t (and_t (and_t (and_t (and_t textPlaces_c0 textPlaces_c1) textPlaces_c2) textPlaces_c3) textPlaces_c4) textPlaces_c5) textPlaces_c6) textPlaces_c7) textPlaces_c8) textPlaces_c9) textPlaces_c10) textPlaces_c11) textPlaces_c12) textPlaces_c13) textPlaces_c14) textPlaces_c15) textPlaces_c16) textPlaces_c17) textPlaces_c18) textPlaces_c19) textPlaces_c20) textPlaces_c21) textPlaces_c22) textPlaces_c23) textPlaces_c24) textPlaces_c25) textPlaces_c26) textPlaces_c27) textPlaces_c28) textPlaces_c29) textPlaces_c30) textPlaces_c31)

theorem textPlaces_lifted (os : Os) (started : os.Started) (H : Type) (enc : TypeId × Value → H) :
    ReturnsInHanded {} Try.checked os 7 .any (Rows.textPlacesSpec.pre6 enc Try.prog Try.f7 Rows.textPlacesRow.domain false) (Rows.textPlacesSpec.post enc Try.prog Try.f7 false true false false) := by
  refine returnsInHanded_of_change_shaped (C := Try.checked) row_own started (by kernel_rfl) Try.func7
    (ChangeSpec.witness6 (enc := enc) (C := Try.checked) false ⟨#[], #[.slice none 0 0], []⟩ 8 (by kernel_rfl) (by kernel_rfl) (by kernel_rfl) (by kernel_rfl)) ?_
  intro W base args ds gs before hval0 hW hcnd _ hsh _
  have hval : ∀ (j : Nat) t v, Try.f7.params[j]? = some t → args[j]? = some v → Value.okWide Try.prog W .any base t v := hval0
  have hW' := hW
  obtain ⟨p, q, hA0, hV, rfl, hfz, hnd⟩ := hW
  have hA : DataW.TrodAll enc Try.prog W 0 (fun _ => true) true Try.f7.params.toList args.toList ds p := hA0
  rw [Try.params7] at hA hval
  obtain ⟨v0, vs0, d0, ds0, p0, q0, hargs, rfl, rfl, h0, r0⟩ := trodAll_cons hA
  obtain ⟨rfl, rfl, rfl⟩ := trodAll_nil r0
  obtain rfl : args = #[v0] := by cases args; simp_all
  obtain ⟨rfl, rfl⟩ := trodVars_none hV
  obtain ⟨a0, len0, cap0, rfl⟩ := okWide_slice Try.underlying22 (hval 0 22 v0 rfl rfl)
  obtain ⟨fuel0, hf0⟩ := h0
  obtain ⟨x0, hx0⟩ := open_docs hf0
  clear hA0 hval0
  refine (law_places x0 _ W hx0 (gl_of hsh)).mono fun e W' ⟨he, hb⟩ => ?_
  subst he
  exact ⟨_, rfl, post_law rfl (of_decide_eq_true (by kernel_rfl)) hW' rfl (by kernel_rfl) hb⟩

theorem textPlaces_wrap : Try.f7.isWrapper Try.pinned.checked.prog Rows.textPlacesRow.wrapper Rows.textPlacesRow.mainSum := by
  unfold Func.isWrapper; first | (rw [if_pos (by decide +kernel)]; kernel_rfl) | (rw [if_neg (by decide +kernel)]; exact ⟨rfl, rfl⟩)
theorem textPlaces_inst : Try.f7.isInstance Try.pinned.checked.prog Rows.textPlacesRow.origin Rows.textPlacesRow.targs := of_decide_eq_true (by kernel_rfl)
theorem textPlaces_named : Try.pinned.checked.prog.funcNamed Rows.textPlacesRow.func = some 7 := by kernel_rfl

/-- TextPlaces returns true for every input, and the documents read afterwards as they did before. No condition. -/
theorem textPlaces_holds : Rows.TextPlacesSaid :=
  OpenClaim.holds_of_wide 7 Try.f7 rfl rfl rfl rfl rfl rfl rfl ⟨rfl, rfl, rfl, rfl, rfl⟩ rfl rfl rfl rfl rfl textPlaces_named Try.func7 textPlaces_closed
    textPlaces_inst textPlaces_wrap (fun os started H enc _ => textPlaces_lifted os started H enc)
#print axioms textPlaces_holds
end Go.Proofs.Ytinlmodkdjpocaa
