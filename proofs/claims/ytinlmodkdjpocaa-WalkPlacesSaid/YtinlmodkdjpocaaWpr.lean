/- WalkPlaces returns true for every input, and the arguments read afterwards as they did before. No condition. -/
import Derived.Test.YtinlmodkdjpocaaFacts
import Derived.Test.YtinlmodkdjpocaaGl
import Derived.Test.YtinlmodkdjpocaaWpa
set_option linter.unusedVariables false
namespace Go.Proofs.Ytinlmodkdjpocaa
open Go.ChangeShapes Go.WideShapes Go.ChangeAt Go.RowKit Go.Deep
set_option maxRecDepth 100000

theorem walkPlaces_c0 : (Rows.walkPlacesRow.wf (OpenSpec.ofChange Rows.walkPlacesSpec)) = true := by kernel_rfl
theorem walkPlaces_c1 : (laidOutB Try.prog) = true := seat_c1
theorem walkPlaces_c2 : (mapsRowed Try.prog) = true := seat_c2
theorem walkPlaces_c3 : (Try.f15.params.all (Try.prog.readableRec ·)) = true := by kernel_rfl
theorem walkPlaces_c4 : (namedTie Try.prog Rows.walkPlacesRow.named Rows.walkPlacesSpec.vars) = true := by kernel_rfl
theorem walkPlaces_c5 : ((Rows.walkPlacesRow.stops == [])) = true := by kernel_rfl
theorem walkPlaces_c6 : ((Try.prog.stops == [])) = true := seat_c6
theorem walkPlaces_c7 : ((Rows.walkPlacesRow.knobs == [])) = true := by kernel_rfl
theorem walkPlaces_c8 : ((Try.prog.stopKnobs == [])) = true := seat_c8
theorem walkPlaces_c9 : ((Rows.walkPlacesRow.inPlace == Try.prog.inPlace 15)) = true := by kernel_rfl
theorem walkPlaces_c10 : ((Rows.walkPlacesRow.unfollowed == Try.prog.unfollowed 15)) = true := by kernel_rfl
theorem walkPlaces_c11 : ((Rows.walkPlacesRow.recurses == Try.prog.recurses 15)) = true := by kernel_rfl
theorem walkPlaces_c12 : ((Rows.walkPlacesRow.named == Try.prog.varsNamed 15)) = true := by kernel_rfl
theorem walkPlaces_c13 : ((Rows.walkPlacesRow.maps == (Try.f15.params.toList ++ Rows.walkPlacesSpec.plain.varTypes Try.prog).any (Try.prog.mapsRec ·))) = true := by kernel_rfl
theorem walkPlaces_c14 : ((Rows.walkPlacesRow.ifaces == (Try.f15.params.toList ++ Rows.walkPlacesSpec.plain.varTypes Try.prog).any (Try.prog.ifacesRec ·))) = true := by kernel_rfl
theorem walkPlaces_c15 : ((Rows.walkPlacesRow.mapsOut == Try.prog.mapsAmong Try.f15.resultTypes.toList)) = true := by kernel_rfl
theorem walkPlaces_c16 : ((Rows.walkPlacesRow.loops == (Try.f15.params.toList ++ Rows.walkPlacesSpec.plain.varTypes Try.prog).any (Try.prog.loopsFrom ·))) = true := by kernel_rfl
theorem walkPlaces_c17 : ((Rows.walkPlacesRow.wideKeys == (Try.f15.params.toList ++ Rows.walkPlacesSpec.plain.varTypes Try.prog ++ Try.f15.resultTypes.toList).any (Try.prog.wideKeysFrom ·))) = true := by kernel_rfl
theorem walkPlaces_c18 : (Rows.walkPlacesSpec.vars.all (Try.prog.varReadable ·)) = true := by kernel_rfl
theorem walkPlaces_c19 : (Try.f15.resultTypes.all (fun t => Try.prog.readableRec t && decide (t < Try.prog.types.size))) = true := by kernel_rfl
theorem walkPlaces_c20 : ((Rows.walkPlacesRow.ifacesOut == Try.f15.resultTypes.toList.any (Try.prog.ifacesRec ·))) = true := by kernel_rfl
theorem walkPlaces_c21 : ((Rows.walkPlacesRow.loopsOut == Try.f15.resultTypes.toList.any (Try.prog.loopsFrom ·))) = true := by kernel_rfl
theorem walkPlaces_c22 : ((Rows.walkPlacesRow.plainKeys == Try.prog.plainKeys)) = true := seat_c22
theorem walkPlaces_c23 : (Rows.walkPlacesRow.shortTexts.isNone) = true := by kernel_rfl
theorem walkPlaces_c24 : (Try.prog.stopsHeard) = true := seat_c24
theorem walkPlaces_c25 : (Try.prog.mayEnter) = true := seat_c25
theorem walkPlaces_c26 : ((Rows.walkPlacesRow.lifted == Try.prog.liftsFinal)) = true := seat_c26
theorem walkPlaces_c27 : ((Try.prog.make == some Rows.walkPlacesRow.make)) = true := seat_c27
theorem walkPlaces_c28 : ((Rows.walkPlacesRow.kinds == (if Rows.walkPlacesRow.domain.isEmpty then [] else Try.f15.params.toList.map fun t => match Try.prog.underlying t with | some (.int k) => some k | _ => none))) = true := by kernel_rfl
theorem walkPlaces_c29 : ((Rows.walkPlacesRow.pinned == Rows.walkPlacesRow.pinnedBy)) = true := by kernel_rfl
theorem walkPlaces_c30 : ((Rows.walkPlacesRow.veiled == (Try.f15.params.toList ++ Rows.walkPlacesSpec.plain.varTypes Try.prog ++ Try.f15.resultTypes.toList).any (Try.prog.veiledRec ·))) = true := by kernel_rfl
theorem walkPlaces_c31 : (Rows.walkPlacesRow.veiledFits Try.prog Try.f15.params.toList (Try.f15.params.toList ++ Rows.walkPlacesSpec.plain.varTypes Try.prog ++ Try.f15.resultTypes.toList)) = true := by kernel_rfl
theorem walkPlaces_closed : joinedFacts Try.prog 15 Try.f15 Rows.walkPlacesSpec Rows.walkPlacesRow = true := (and_t (and_t (and_t (and_t (and_t (and_t (and_t (and_t (and_t (and_t (and_t (and_t (and_t (and_t (and_t (and_t (and_t (and_t (and_t (and_t (and_t (and_t (and_t (and_t (and_t (and_t (and_t (and_t (and_t (and_t (and_t walkPlaces_c0 walkPlaces_c1) walkPlaces_c2) walkPlaces_c3) walkPlaces_c4) walkPlaces_c5) walkPlaces_c6) walkPlaces_c7) walkPlaces_c8) walkPlaces_c9) walkPlaces_c10) walkPlaces_c11) walkPlaces_c12) walkPlaces_c13) walkPlaces_c14) walkPlaces_c15) walkPlaces_c16) walkPlaces_c17) walkPlaces_c18) walkPlaces_c19) walkPlaces_c20) walkPlaces_c21) walkPlaces_c22) walkPlaces_c23) walkPlaces_c24) walkPlaces_c25) walkPlaces_c26) walkPlaces_c27) walkPlaces_c28) walkPlaces_c29) walkPlaces_c30) walkPlaces_c31)

theorem walkPlaces_lifted (os : Os) (started : os.Started) (H : Type) (enc : TypeId × Value → H) :
    ReturnsInHanded {} Try.checked os 15 .any (Rows.walkPlacesSpec.pre6 enc Try.prog Try.f15 Rows.walkPlacesRow.domain false) (Rows.walkPlacesSpec.post enc Try.prog Try.f15 false true false false) := by
  refine returnsInHanded_of_change_shaped (C := Try.checked) row_own started (by kernel_rfl) Try.func15
    (ChangeSpec.witness6 (enc := enc) (C := Try.checked) false ⟨#[], #[.slice none 0 0, .int .i64 0, .int .i64 0, .int .i64 0], []⟩ 8 (by kernel_rfl) (by kernel_rfl) (by kernel_rfl) (by kernel_rfl)) ?_
  intro W base args ds gs before hval0 hW hcnd _ hsh _
  have hval : ∀ (j : Nat) t v, Try.f15.params[j]? = some t → args[j]? = some v → Value.okWide Try.prog W .any base t v := hval0
  have hW' := hW
  obtain ⟨p, q, hA0, hV, rfl, hfz, hnd⟩ := hW
  have hA : DataW.TrodAll enc Try.prog W 0 (fun _ => true) true Try.f15.params.toList args.toList ds p := hA0
  rw [Try.params15] at hA hval
  obtain ⟨v0, vs0, d0, ds0, p0, q0, hargs, rfl, rfl, h0, r0⟩ := trodAll_cons hA
  obtain ⟨v1, vs1, d1, ds1, p1, q1, rfl, rfl, rfl, h1, r1⟩ := trodAll_cons r0
  obtain ⟨v2, vs2, d2, ds2, p2, q2, rfl, rfl, rfl, h2, r2⟩ := trodAll_cons r1
  obtain ⟨v3, vs3, d3, ds3, p3, q3, rfl, rfl, rfl, h3, r3⟩ := trodAll_cons r2
  obtain ⟨rfl, rfl, rfl⟩ := trodAll_nil r3
  obtain rfl : args = #[v0, v1, v2, v3] := by cases args; simp_all
  obtain ⟨rfl, rfl⟩ := trodVars_none hV
  obtain ⟨a0, len0, cap0, rfl⟩ := okWide_slice Try.underlying22 (hval 0 22 v0 rfl rfl)
  obtain ⟨fuel0, hf0⟩ := h0
  obtain ⟨x0, hx0⟩ := open_docs hf0
  obtain ⟨x1, rfl, rfl, rfl, hx1⟩ := open_int Try.underlying3 (hval 1 3 v1 rfl rfl) h1
  obtain ⟨x2, rfl, rfl, rfl, hx2⟩ := open_int Try.underlying3 (hval 2 3 v2 rfl rfl) h2
  obtain ⟨x3, rfl, rfl, rfl, hx3⟩ := open_int Try.underlying3 (hval 3 3 v3 rfl rfl) h3
  clear hA0 hval0
  refine (law13_places x0 _ x1 x2 x3 W hx0).mono fun e W' ⟨he, hb⟩ => ?_
  subst he
  exact ⟨_, rfl, post_law rfl (of_decide_eq_true (by kernel_rfl)) hW' rfl (by kernel_rfl) hb⟩

theorem walkPlaces_wrap : Try.f15.isWrapper Try.pinned.checked.prog Rows.walkPlacesRow.wrapper Rows.walkPlacesRow.mainSum := by
  unfold Func.isWrapper; first | (rw [if_pos (by decide +kernel)]; kernel_rfl) | (rw [if_neg (by decide +kernel)]; exact ⟨rfl, rfl⟩)
theorem walkPlaces_inst : Try.f15.isInstance Try.pinned.checked.prog Rows.walkPlacesRow.origin Rows.walkPlacesRow.targs := of_decide_eq_true (by kernel_rfl)
theorem walkPlaces_named : Try.pinned.checked.prog.funcNamed Rows.walkPlacesRow.func = some 15 := by kernel_rfl

/-- WalkPlaces returns true for every input, and the arguments read afterwards as they did before. No condition. -/
theorem walkPlaces_holds : Rows.WalkPlacesSaid :=
  OpenClaim.holds_of_wide 15 Try.f15 rfl rfl rfl rfl rfl rfl rfl ⟨rfl, rfl, rfl, rfl, rfl⟩ rfl rfl rfl rfl rfl walkPlaces_named Try.func15 walkPlaces_closed
    walkPlaces_inst walkPlaces_wrap (fun os started H enc _ => walkPlaces_lifted os started H enc)
#print axioms walkPlaces_holds
end Go.Proofs.Ytinlmodkdjpocaa
