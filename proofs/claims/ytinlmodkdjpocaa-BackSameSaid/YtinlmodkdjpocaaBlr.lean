/- BackSame returns true for every input, and the arguments read afterwards as they did before. No condition. -/
import Derived.Test.YtinlmodkdjpocaaFacts
import Derived.Test.YtinlmodkdjpocaaGl
import Derived.Test.YtinlmodkdjpocaaBla
set_option linter.unusedVariables false
namespace Go.Proofs.Ytinlmodkdjpocaa
open Go.ChangeShapes Go.WideShapes Go.ChangeAt Go.RowKit Go.Deep
set_option maxRecDepth 100000

theorem backSame_c0 : (Rows.backSameRow.wf (OpenSpec.ofChange Rows.backSameSpec)) = true := by kernel_rfl
theorem backSame_c1 : (laidOutB Try.prog) = true := seat_c1
theorem backSame_c2 : (mapsRowed Try.prog) = true := seat_c2
theorem backSame_c3 : (Try.f9.params.all (Try.prog.readableRec ·)) = true := by kernel_rfl
theorem backSame_c4 : (namedTie Try.prog Rows.backSameRow.named Rows.backSameSpec.vars) = true := by kernel_rfl
theorem backSame_c5 : ((Rows.backSameRow.stops == [])) = true := by kernel_rfl
theorem backSame_c6 : ((Try.prog.stops == [])) = true := seat_c6
theorem backSame_c7 : ((Rows.backSameRow.knobs == [])) = true := by kernel_rfl
theorem backSame_c8 : ((Try.prog.stopKnobs == [])) = true := seat_c8
theorem backSame_c9 : ((Rows.backSameRow.inPlace == Try.prog.inPlace 9)) = true := by kernel_rfl
theorem backSame_c10 : ((Rows.backSameRow.unfollowed == Try.prog.unfollowed 9)) = true := by kernel_rfl
theorem backSame_c11 : ((Rows.backSameRow.recurses == Try.prog.recurses 9)) = true := by kernel_rfl
theorem backSame_c12 : ((Rows.backSameRow.named == Try.prog.varsNamed 9)) = true := by kernel_rfl
theorem backSame_c13 : ((Rows.backSameRow.maps == (Try.f9.params.toList ++ Rows.backSameSpec.plain.varTypes Try.prog).any (Try.prog.mapsRec ·))) = true := by kernel_rfl
theorem backSame_c14 : ((Rows.backSameRow.ifaces == (Try.f9.params.toList ++ Rows.backSameSpec.plain.varTypes Try.prog).any (Try.prog.ifacesRec ·))) = true := by kernel_rfl
theorem backSame_c15 : ((Rows.backSameRow.mapsOut == Try.prog.mapsAmong Try.f9.resultTypes.toList)) = true := by kernel_rfl
theorem backSame_c16 : ((Rows.backSameRow.loops == (Try.f9.params.toList ++ Rows.backSameSpec.plain.varTypes Try.prog).any (Try.prog.loopsFrom ·))) = true := by kernel_rfl
theorem backSame_c17 : ((Rows.backSameRow.wideKeys == (Try.f9.params.toList ++ Rows.backSameSpec.plain.varTypes Try.prog ++ Try.f9.resultTypes.toList).any (Try.prog.wideKeysFrom ·))) = true := by kernel_rfl
theorem backSame_c18 : (Rows.backSameSpec.vars.all (Try.prog.varReadable ·)) = true := by kernel_rfl
theorem backSame_c19 : (Try.f9.resultTypes.all (fun t => Try.prog.readableRec t && decide (t < Try.prog.types.size))) = true := by kernel_rfl
theorem backSame_c20 : ((Rows.backSameRow.ifacesOut == Try.f9.resultTypes.toList.any (Try.prog.ifacesRec ·))) = true := by kernel_rfl
theorem backSame_c21 : ((Rows.backSameRow.loopsOut == Try.f9.resultTypes.toList.any (Try.prog.loopsFrom ·))) = true := by kernel_rfl
theorem backSame_c22 : ((Rows.backSameRow.plainKeys == Try.prog.plainKeys)) = true := seat_c22
theorem backSame_c23 : (Rows.backSameRow.shortTexts.isNone) = true := by kernel_rfl
theorem backSame_c24 : (Try.prog.stopsHeard) = true := seat_c24
theorem backSame_c25 : (Try.prog.mayEnter) = true := seat_c25
theorem backSame_c26 : ((Rows.backSameRow.lifted == Try.prog.liftsFinal)) = true := seat_c26
theorem backSame_c27 : ((Try.prog.make == some Rows.backSameRow.make)) = true := seat_c27
theorem backSame_c28 : ((Rows.backSameRow.kinds == (if Rows.backSameRow.domain.isEmpty then [] else Try.f9.params.toList.map fun t => match Try.prog.underlying t with | some (.int k) => some k | _ => none))) = true := by kernel_rfl
theorem backSame_c29 : ((Rows.backSameRow.pinned == Rows.backSameRow.pinnedBy)) = true := by kernel_rfl
theorem backSame_c30 : ((Rows.backSameRow.veiled == (Try.f9.params.toList ++ Rows.backSameSpec.plain.varTypes Try.prog ++ Try.f9.resultTypes.toList).any (Try.prog.veiledRec ·))) = true := by kernel_rfl
theorem backSame_c31 : (Rows.backSameRow.veiledFits Try.prog Try.f9.params.toList (Try.f9.params.toList ++ Rows.backSameSpec.plain.varTypes Try.prog ++ Try.f9.resultTypes.toList)) = true := by kernel_rfl
theorem backSame_closed : joinedFacts Try.prog 9 Try.f9 Rows.backSameSpec Rows.backSameRow = true := (and_t (and_t (and_t (and_t (and_t (and_t (and_t (and_t (and_t (and_t (and_t (and_t (and_t (and_t (and_t (and_t (and_t (and_t (and_t (and_t (and_t (and_t (and_t (and_t (and_t (and_t (and_t (and_t (and_t (and_t (and_t backSame_c0 backSame_c1) backSame_c2) backSame_c3) backSame_c4) backSame_c5) backSame_c6) backSame_c7) backSame_c8) backSame_c9) backSame_c10) backSame_c11) backSame_c12) backSame_c13) backSame_c14) backSame_c15) backSame_c16) backSame_c17) backSame_c18) backSame_c19) backSame_c20) backSame_c21) backSame_c22) backSame_c23) backSame_c24) backSame_c25) backSame_c26) backSame_c27) backSame_c28) backSame_c29) backSame_c30) backSame_c31)

theorem backSame_lifted (os : Os) (started : os.Started) (H : Type) (enc : TypeId × Value → H) :
    ReturnsInHanded {} Try.checked os 9 .any (Rows.backSameSpec.pre6 enc Try.prog Try.f9 Rows.backSameRow.domain false) (Rows.backSameSpec.post enc Try.prog Try.f9 false true false false) := by
  refine returnsInHanded_of_change_shaped (C := Try.checked) row_own started (by kernel_rfl) Try.func9
    (ChangeSpec.witness6 (enc := enc) (C := Try.checked) false ⟨#[], #[.slice none 0 0, .slice none 0 0], []⟩ 8 (by kernel_rfl) (by kernel_rfl) (by kernel_rfl) (by kernel_rfl)) ?_
  intro W base args ds gs before hval0 hW hcnd _ hsh _
  have hval : ∀ (j : Nat) t v, Try.f9.params[j]? = some t → args[j]? = some v → Value.okWide Try.prog W .any base t v := hval0
  have hW' := hW
  obtain ⟨p, q, hA0, hV, rfl, hfz, hnd⟩ := hW
  have hA : DataW.TrodAll enc Try.prog W 0 (fun _ => true) true Try.f9.params.toList args.toList ds p := hA0
  rw [Try.params9] at hA hval
  obtain ⟨v0, vs0, d0, ds0, p0, q0, hargs, rfl, rfl, h0, r0⟩ := trodAll_cons hA
  obtain ⟨v1, vs1, d1, ds1, p1, q1, rfl, rfl, rfl, h1, r1⟩ := trodAll_cons r0
  obtain ⟨rfl, rfl, rfl⟩ := trodAll_nil r1
  obtain rfl : args = #[v0, v1] := by cases args; simp_all
  obtain ⟨rfl, rfl⟩ := trodVars_none hV
  obtain ⟨a0, len0, cap0, rfl⟩ := okWide_slice Try.underlying22 (hval 0 22 v0 rfl rfl)
  obtain ⟨fuel0, hf0⟩ := h0
  obtain ⟨x0, hx0⟩ := open_docs hf0
  obtain ⟨a1, len1, cap1, rfl⟩ := okWide_slice Try.underlying29 (hval 1 29 v1 rfl rfl)
  obtain ⟨fuel1, hf1⟩ := h1
  obtain ⟨x1, hx1⟩ := open_bys hf1
  clear hA0 hval0
  refine (law12_same x0 _ x1 _ W hx0 hx1).mono fun e W' ⟨he, hb⟩ => ?_
  subst he
  exact ⟨_, rfl, post_law rfl (of_decide_eq_true (by kernel_rfl)) hW' rfl (by kernel_rfl) hb⟩

theorem backSame_wrap : Try.f9.isWrapper Try.pinned.checked.prog Rows.backSameRow.wrapper Rows.backSameRow.mainSum := by
  unfold Func.isWrapper; first | (rw [if_pos (by decide +kernel)]; kernel_rfl) | (rw [if_neg (by decide +kernel)]; exact ⟨rfl, rfl⟩)
theorem backSame_inst : Try.f9.isInstance Try.pinned.checked.prog Rows.backSameRow.origin Rows.backSameRow.targs := of_decide_eq_true (by kernel_rfl)
theorem backSame_named : Try.pinned.checked.prog.funcNamed Rows.backSameRow.func = some 9 := by kernel_rfl

/-- BackSame returns true for every input, and the arguments read afterwards as they did before. No condition. -/
theorem backSame_holds : Rows.BackSameSaid :=
  OpenClaim.holds_of_wide 9 Try.f9 rfl rfl rfl rfl rfl rfl rfl ⟨rfl, rfl, rfl, rfl, rfl⟩ rfl rfl rfl rfl rfl backSame_named Try.func9 backSame_closed
    backSame_inst backSame_wrap (fun os started H enc _ => backSame_lifted os started H enc)
#print axioms backSame_holds
end Go.Proofs.Ytinlmodkdjpocaa
