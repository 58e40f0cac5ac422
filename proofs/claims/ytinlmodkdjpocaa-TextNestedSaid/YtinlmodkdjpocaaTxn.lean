/- TextNested returns true for every input, and the arguments read afterwards as they did before. No condition. -/
import Derived.Test.YtinlmodkdjpocaaFacts
import Derived.Test.YtinlmodkdjpocaaGl
import Derived.Test.YtinlmodkdjpocaaTxl
set_option linter.unusedVariables false
namespace Go.Proofs.Ytinlmodkdjpocaa
open Go.ChangeShapes Go.WideShapes Go.ChangeAt Go.RowKit Go.Deep
set_option maxRecDepth 100000

theorem textNested_c0 : (Rows.textNestedRow.wf (OpenSpec.ofChange Rows.textNestedSpec)) = true := by kernel_rfl
theorem textNested_c1 : (laidOutB Try.prog) = true := seat_c1
theorem textNested_c2 : (mapsRowed Try.prog) = true := seat_c2
theorem textNested_c3 : (Try.f4.params.all (Try.prog.readableRec ·)) = true := by kernel_rfl
theorem textNested_c4 : (namedTie Try.prog Rows.textNestedRow.named Rows.textNestedSpec.vars) = true := by kernel_rfl
theorem textNested_c5 : ((Rows.textNestedRow.stops == [])) = true := by kernel_rfl
theorem textNested_c6 : ((Try.prog.stops == [])) = true := seat_c6
theorem textNested_c7 : ((Rows.textNestedRow.knobs == [])) = true := by kernel_rfl
theorem textNested_c8 : ((Try.prog.stopKnobs == [])) = true := seat_c8
theorem textNested_c9 : ((Rows.textNestedRow.inPlace == Try.prog.inPlace 4)) = true := by kernel_rfl
theorem textNested_c10 : ((Rows.textNestedRow.unfollowed == Try.prog.unfollowed 4)) = true := by kernel_rfl
theorem textNested_c11 : ((Rows.textNestedRow.recurses == Try.prog.recurses 4)) = true := by kernel_rfl
theorem textNested_c12 : ((Rows.textNestedRow.named == Try.prog.varsNamed 4)) = true := by kernel_rfl
theorem textNested_c13 : ((Rows.textNestedRow.maps == (Try.f4.params.toList ++ Rows.textNestedSpec.plain.varTypes Try.prog).any (Try.prog.mapsRec ·))) = true := by kernel_rfl
theorem textNested_c14 : ((Rows.textNestedRow.ifaces == (Try.f4.params.toList ++ Rows.textNestedSpec.plain.varTypes Try.prog).any (Try.prog.ifacesRec ·))) = true := by kernel_rfl
theorem textNested_c15 : ((Rows.textNestedRow.mapsOut == Try.prog.mapsAmong Try.f4.resultTypes.toList)) = true := by kernel_rfl
theorem textNested_c16 : ((Rows.textNestedRow.loops == (Try.f4.params.toList ++ Rows.textNestedSpec.plain.varTypes Try.prog).any (Try.prog.loopsFrom ·))) = true := by kernel_rfl
theorem textNested_c17 : ((Rows.textNestedRow.wideKeys == (Try.f4.params.toList ++ Rows.textNestedSpec.plain.varTypes Try.prog ++ Try.f4.resultTypes.toList).any (Try.prog.wideKeysFrom ·))) = true := by kernel_rfl
theorem textNested_c18 : (Rows.textNestedSpec.vars.all (Try.prog.varReadable ·)) = true := by kernel_rfl
theorem textNested_c19 : (Try.f4.resultTypes.all (fun t => Try.prog.readableRec t && decide (t < Try.prog.types.size))) = true := by kernel_rfl
theorem textNested_c20 : ((Rows.textNestedRow.ifacesOut == Try.f4.resultTypes.toList.any (Try.prog.ifacesRec ·))) = true := by kernel_rfl
theorem textNested_c21 : ((Rows.textNestedRow.loopsOut == Try.f4.resultTypes.toList.any (Try.prog.loopsFrom ·))) = true := by kernel_rfl
theorem textNested_c22 : ((Rows.textNestedRow.plainKeys == Try.prog.plainKeys)) = true := seat_c22
theorem textNested_c23 : (Rows.textNestedRow.shortTexts.isNone) = true := by kernel_rfl
theorem textNested_c24 : (Try.prog.stopsHeard) = true := seat_c24
theorem textNested_c25 : (Try.prog.mayEnter) = true := seat_c25
theorem textNested_c26 : ((Rows.textNestedRow.lifted == Try.prog.liftsFinal)) = true := seat_c26
theorem textNested_c27 : ((Try.prog.make == some Rows.textNestedRow.make)) = true := seat_c27
theorem textNested_c28 : ((Rows.textNestedRow.kinds == (if Rows.textNestedRow.domain.isEmpty then [] else Try.f4.params.toList.map fun t => match Try.prog.underlying t with | some (.int k) => some k | _ => none))) = true := by kernel_rfl
theorem textNested_c29 : ((Rows.textNestedRow.pinned == Rows.textNestedRow.pinnedBy)) = true := by kernel_rfl
theorem textNested_c30 : ((Rows.textNestedRow.veiled == (Try.f4.params.toList ++ Rows.textNestedSpec.plain.varTypes Try.prog ++ Try.f4.resultTypes.toList).any (Try.prog.veiledRec ·))) = true := by kernel_rfl
theorem textNested_c31 : (Rows.textNestedRow.veiledFits Try.prog Try.f4.params.toList (Try.f4.params.toList ++ Rows.textNestedSpec.plain.varTypes Try.prog ++ Try.f4.resultTypes.toList)) = true := by kernel_rfl
theorem textNested_closed : joinedFacts Try.prog 4 Try.f4 Rows.textNestedSpec Rows.textNestedRow = true := (and_t (and_t (and_t (and_t (and_t (and_t (and_t (and_t (and_t (and_t (and_t (and_t (and_t (and_t (and_t (and_t (and_t (and_t (and_t (and_t (and_t (and_t (and_t (and_t (and_t (and_t (and_t (and_t (and_t (and_t (and_t textNested_c0 textNested_c1) textNested_c2) textNested_c3) textNested_c4) textNested_c5) textNested_c6) textNested_c7) textNested_c8) textNested_c9) textNested_c10) textNested_c11) textNested_c12) textNested_c13) textNested_c14) textNested_c15) textNested_c16) textNested_c17) textNested_c18) textNested_c19) textNested_c20) textNested_c21) textNested_c22) textNested_c23) textNested_c24) textNested_c25) textNested_c26) textNested_c27) textNested_c28) textNested_c29) textNested_c30) textNested_c31)

theorem textNested_lifted (os : Os) (started : os.Started) (H : Type) (enc : TypeId × Value → H) :
    ReturnsInHanded {} Try.checked os 4 .any (Rows.textNestedSpec.pre6 enc Try.prog Try.f4 Rows.textNestedRow.domain false) (Rows.textNestedSpec.post enc Try.prog Try.f4 false true false false) := by
  refine returnsInHanded_of_change_shaped (C := Try.checked) row_own started (by kernel_rfl) Try.func4
    (ChangeSpec.witness6 (enc := enc) (C := Try.checked) false ⟨#[], #[.slice none 0 0, .slice none 0 0, .int .u8 0], []⟩ 8 (by kernel_rfl) (by kernel_rfl) (by kernel_rfl) (by kernel_rfl)) ?_
  intro W base args ds gs before hval0 hW hcnd _ hsh _
  have hval : ∀ (j : Nat) t v, Try.f4.params[j]? = some t → args[j]? = some v → Value.okWide Try.prog W .any base t v := hval0
  have hW' := hW
  obtain ⟨p, q, hA0, hV, rfl, hfz, hnd⟩ := hW
  have hA : DataW.TrodAll enc Try.prog W 0 (fun _ => true) true Try.f4.params.toList args.toList ds p := hA0
  rw [Try.params4] at hA hval
  obtain ⟨v0, vs0, d0, ds0, p0, q0, hargs, rfl, rfl, h0, r0⟩ := trodAll_cons hA
  obtain ⟨v1, vs1, d1, ds1, p1, q1, rfl, rfl, rfl, h1, r1⟩ := trodAll_cons r0
  obtain ⟨v2, vs2, d2, ds2, p2, q2, rfl, rfl, rfl, h2, r2⟩ := trodAll_cons r1
  obtain ⟨rfl, rfl, rfl⟩ := trodAll_nil r2
  obtain rfl : args = #[v0, v1, v2] := by cases args; simp_all
  obtain ⟨rfl, rfl⟩ := trodVars_none hV
  obtain ⟨a0, len0, cap0, rfl⟩ := okWide_slice Try.underlying22 (hval 0 22 v0 rfl rfl)
  obtain ⟨fuel0, hf0⟩ := h0
  obtain ⟨x0, hx0⟩ := open_docs hf0
  obtain ⟨a1, len1, cap1, rfl⟩ := okWide_slice Try.underlying29 (hval 1 29 v1 rfl rfl)
  obtain ⟨fuel1, hf1⟩ := h1
  obtain ⟨x1, hx1⟩ := open_bys hf1
  obtain ⟨x2, rfl, rfl, rfl, hx2⟩ := open_int Try.underlying5 (hval 2 5 v2 rfl rfl) h2
  obtain ⟨x2, rfl⟩ := u8_of hx2
  clear hA0 hval0
  refine (law_nested x0 _ x1 _ x2 W hx0 hx1 (gl_of hsh)).mono fun e W' ⟨he, hb⟩ => ?_
  subst he
  exact ⟨_, rfl, post_law rfl (of_decide_eq_true (by kernel_rfl)) hW' rfl (by kernel_rfl) hb⟩

theorem textNested_wrap : Try.f4.isWrapper Try.pinned.checked.prog Rows.textNestedRow.wrapper Rows.textNestedRow.mainSum := by
  unfold Func.isWrapper; first | (rw [if_pos (by decide +kernel)]; kernel_rfl) | (rw [if_neg (by decide +kernel)]; exact ⟨rfl, rfl⟩)
theorem textNested_inst : Try.f4.isInstance Try.pinned.checked.prog Rows.textNestedRow.origin Rows.textNestedRow.targs := of_decide_eq_true (by kernel_rfl)
theorem textNested_named : Try.pinned.checked.prog.funcNamed Rows.textNestedRow.func = some 4 := by kernel_rfl

/-- TextNested returns true for every input, and the arguments read afterwards as they did before. No condition. -/
theorem textNested_holds : Rows.TextNestedSaid :=
  OpenClaim.holds_of_wide 4 Try.f4 rfl rfl rfl rfl rfl rfl rfl ⟨rfl, rfl, rfl, rfl, rfl⟩ rfl rfl rfl rfl rfl textNested_named Try.func4 textNested_closed
    textNested_inst textNested_wrap (fun os started H enc _ => textNested_lifted os started H enc)
#print axioms textNested_holds
end Go.Proofs.Ytinlmodkdjpocaa
