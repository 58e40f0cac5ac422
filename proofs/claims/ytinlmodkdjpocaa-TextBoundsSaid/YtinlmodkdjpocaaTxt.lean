/- TextBounds returns true for every input, and the arguments read afterwards as they did before. No condition. -/
import Derived.Test.YtinlmodkdjpocaaFacts
import Derived.Test.YtinlmodkdjpocaaGl
import Derived.Test.YtinlmodkdjpocaaTxr
set_option linter.unusedVariables false
namespace Go.Proofs.Ytinlmodkdjpocaa
open Go.ChangeShapes Go.WideShapes Go.ChangeAt Go.RowKit Go.Deep
set_option maxRecDepth 100000

theorem textBounds_c0 : (Rows.textBoundsRow.wf (OpenSpec.ofChange Rows.textBoundsSpec)) = true := by kernel_rfl
theorem textBounds_c1 : (laidOutB Try.prog) = true := seat_c1
theorem textBounds_c2 : (mapsRowed Try.prog) = true := seat_c2
theorem textBounds_c3 : (Try.f6.params.all (Try.prog.readableRec ·)) = true := by kernel_rfl
theorem textBounds_c4 : (namedTie Try.prog Rows.textBoundsRow.named Rows.textBoundsSpec.vars) = true := by kernel_rfl
theorem textBounds_c5 : ((Rows.textBoundsRow.stops == [])) = true := by kernel_rfl
theorem textBounds_c6 : ((Try.prog.stops == [])) = true := seat_c6
theorem textBounds_c7 : ((Rows.textBoundsRow.knobs == [])) = true := by kernel_rfl
theorem textBounds_c8 : ((Try.prog.stopKnobs == [])) = true := seat_c8
theorem textBounds_c9 : ((Rows.textBoundsRow.inPlace == Try.prog.inPlace 6)) = true := by kernel_rfl
theorem textBounds_c10 : ((Rows.textBoundsRow.unfollowed == Try.prog.unfollowed 6)) = true := by kernel_rfl
theorem textBounds_c11 : ((Rows.textBoundsRow.recurses == Try.prog.recurses 6)) = true := by kernel_rfl
theorem textBounds_c12 : ((Rows.textBoundsRow.named == Try.prog.varsNamed 6)) = true := by kernel_rfl
theorem textBounds_c13 : ((Rows.textBoundsRow.maps == (Try.f6.params.toList ++ Rows.textBoundsSpec.plain.varTypes Try.prog).any (Try.prog.mapsRec ·))) = true := by kernel_rfl
theorem textBounds_c14 : ((Rows.textBoundsRow.ifaces == (Try.f6.params.toList ++ Rows.textBoundsSpec.plain.varTypes Try.prog).any (Try.prog.ifacesRec ·))) = true := by kernel_rfl
theorem textBounds_c15 : ((Rows.textBoundsRow.mapsOut == Try.prog.mapsAmong Try.f6.resultTypes.toList)) = true := by kernel_rfl
theorem textBounds_c16 : ((Rows.textBoundsRow.loops == (Try.f6.params.toList ++ Rows.textBoundsSpec.plain.varTypes Try.prog).any (Try.prog.loopsFrom ·))) = true := by kernel_rfl
theorem textBounds_c17 : ((Rows.textBoundsRow.wideKeys == (Try.f6.params.toList ++ Rows.textBoundsSpec.plain.varTypes Try.prog ++ Try.f6.resultTypes.toList).any (Try.prog.wideKeysFrom ·))) = true := by kernel_rfl
theorem textBounds_c18 : (Rows.textBoundsSpec.vars.all (Try.prog.varReadable ·)) = true := by kernel_rfl
theorem textBounds_c19 : (Try.f6.resultTypes.all (fun t => Try.prog.readableRec t && decide (t < Try.prog.types.size))) = true := by kernel_rfl
theorem textBounds_c20 : ((Rows.textBoundsRow.ifacesOut == Try.f6.resultTypes.toList.any (Try.prog.ifacesRec ·))) = true := by kernel_rfl
theorem textBounds_c21 : ((Rows.textBoundsRow.loopsOut == Try.f6.resultTypes.toList.any (Try.prog.loopsFrom ·))) = true := by kernel_rfl
theorem textBounds_c22 : ((Rows.textBoundsRow.plainKeys == Try.prog.plainKeys)) = true := seat_c22
theorem textBounds_c23 : (Rows.textBoundsRow.shortTexts.isNone) = true := by kernel_rfl
theorem textBounds_c24 : (Try.prog.stopsHeard) = true := seat_c24
theorem textBounds_c25 : (Try.prog.mayEnter) = true := seat_c25
theorem textBounds_c26 : ((Rows.textBoundsRow.lifted == Try.prog.liftsFinal)) = true := seat_c26
theorem textBounds_c27 : ((Try.prog.make == some Rows.textBoundsRow.make)) = true := seat_c27
theorem textBounds_c28 : ((Rows.textBoundsRow.kinds == (if Rows.textBoundsRow.domain.isEmpty then [] else Try.f6.params.toList.map fun t => match Try.prog.underlying t with | some (.int k) => some k | _ => none))) = true := by kernel_rfl
theorem textBounds_c29 : ((Rows.textBoundsRow.pinned == Rows.textBoundsRow.pinnedBy)) = true := by kernel_rfl
theorem textBounds_c30 : ((Rows.textBoundsRow.veiled == (Try.f6.params.toList ++ Rows.textBoundsSpec.plain.varTypes Try.prog ++ Try.f6.resultTypes.toList).any (Try.prog.veiledRec ·))) = true := by kernel_rfl
theorem textBounds_c31 : (Rows.textBoundsRow.veiledFits Try.prog Try.f6.params.toList (Try.f6.params.toList ++ Rows.textBoundsSpec.plain.varTypes Try.prog ++ Try.f6.resultTypes.toList)) = true := by kernel_rfl
theorem textBounds_closed : joinedFacts Try.prog 6 Try.f6 Rows.textBoundsSpec Rows.textBoundsRow = true := (and_t (and_t (and_t (and_t (and_t (and_t (and_t (and_t (and_t (and_t (and_t (and_t (and_t (and_t (and_t (and_t (and_t (and_t (and_t (and_t (and_t (and_t (and_t (and_t (and_t (and_t (and_t (and_t (and_t (and_t (and_t textBounds_c0 textBounds_c1) textBounds_c2) textBounds_c3) textBounds_c4) textBounds_c5) textBounds_c6) textBounds_c7) textBounds_c8) textBounds_c9) textBounds_c10) textBounds_c11) textBounds_c12) textBounds_c13) textBounds_c14) textBounds_c15) textBounds_c16) textBounds_c17) textBounds_c18) textBounds_c19) textBounds_c20) textBounds_c21) textBounds_c22) textBounds_c23) textBounds_c24) textBounds_c25) textBounds_c26) textBounds_c27) textBounds_c28) textBounds_c29) textBounds_c30) textBounds_c31)

theorem textBounds_lifted (os : Os) (started : os.Started) (H : Type) (enc : TypeId × Value → H) :
    ReturnsInHanded {} Try.checked os 6 .any (Rows.textBoundsSpec.pre6 enc Try.prog Try.f6 Rows.textBoundsRow.domain false) (Rows.textBoundsSpec.post enc Try.prog Try.f6 false true false false) := by
  refine returnsInHanded_of_change_shaped (C := Try.checked) row_own started (by kernel_rfl) Try.func6
    (ChangeSpec.witness6 (enc := enc) (C := Try.checked) false ⟨#[], #[.int .i64 0, .int .i64 0, .int .i64 0], []⟩ 8 (by kernel_rfl) (by kernel_rfl) (by kernel_rfl) (by kernel_rfl)) ?_
  intro W base args ds gs before hval0 hW hcnd _ hsh _
  have hval : ∀ (j : Nat) t v, Try.f6.params[j]? = some t → args[j]? = some v → Value.okWide Try.prog W .any base t v := hval0
  have hW' := hW
  obtain ⟨p, q, hA0, hV, rfl, hfz, hnd⟩ := hW
  have hA : DataW.TrodAll enc Try.prog W 0 (fun _ => true) true Try.f6.params.toList args.toList ds p := hA0
  rw [Try.params6] at hA hval
  obtain ⟨v0, vs0, d0, ds0, p0, q0, hargs, rfl, rfl, h0, r0⟩ := trodAll_cons hA
  obtain ⟨v1, vs1, d1, ds1, p1, q1, rfl, rfl, rfl, h1, r1⟩ := trodAll_cons r0
  obtain ⟨v2, vs2, d2, ds2, p2, q2, rfl, rfl, rfl, h2, r2⟩ := trodAll_cons r1
  obtain ⟨rfl, rfl, rfl⟩ := trodAll_nil r2
  obtain rfl : args = #[v0, v1, v2] := by cases args; simp_all
  obtain ⟨rfl, rfl⟩ := trodVars_none hV
  obtain ⟨x0, rfl, rfl, rfl, hx0⟩ := open_int Try.underlying3 (hval 0 3 v0 rfl rfl) h0
  obtain ⟨x1, rfl, rfl, rfl, hx1⟩ := open_int Try.underlying3 (hval 1 3 v1 rfl rfl) h1
  obtain ⟨x2, rfl, rfl, rfl, hx2⟩ := open_int Try.underlying3 (hval 2 3 v2 rfl rfl) h2
  clear hA0 hval0
  refine (law_bounds x0 x1 x2 W (gl_of hsh)).mono fun e W' ⟨he, hb⟩ => ?_
  subst he
  exact ⟨_, rfl, post_law rfl (of_decide_eq_true (by kernel_rfl)) hW' rfl (by kernel_rfl) hb⟩

theorem textBounds_wrap : Try.f6.isWrapper Try.pinned.checked.prog Rows.textBoundsRow.wrapper Rows.textBoundsRow.mainSum := by
  unfold Func.isWrapper; first | (rw [if_pos (by decide +kernel)]; kernel_rfl) | (rw [if_neg (by decide +kernel)]; exact ⟨rfl, rfl⟩)
theorem textBounds_inst : Try.f6.isInstance Try.pinned.checked.prog Rows.textBoundsRow.origin Rows.textBoundsRow.targs := of_decide_eq_true (by kernel_rfl)
theorem textBounds_named : Try.pinned.checked.prog.funcNamed Rows.textBoundsRow.func = some 6 := by kernel_rfl

/-- TextBounds returns true for every input, and the arguments read afterwards as they did before. No condition. -/
theorem textBounds_holds : Rows.TextBoundsSaid :=
  OpenClaim.holds_of_wide 6 Try.f6 rfl rfl rfl rfl rfl rfl rfl ⟨rfl, rfl, rfl, rfl, rfl⟩ rfl rfl rfl rfl rfl textBounds_named Try.func6 textBounds_closed
    textBounds_inst textBounds_wrap (fun os started H enc _ => textBounds_lifted os started H enc)
#print axioms textBounds_holds
end Go.Proofs.Ytinlmodkdjpocaa
