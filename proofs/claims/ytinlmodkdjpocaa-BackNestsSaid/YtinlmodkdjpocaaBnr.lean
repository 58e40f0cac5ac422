/- BackNests returns true for every input, and the arguments read afterwards as they did before. No condition. -/
import Derived.Test.YtinlmodkdjpocaaFacts
import Derived.Test.YtinlmodkdjpocaaGl
import Derived.Test.YtinlmodkdjpocaaBna
set_option linter.unusedVariables false
namespace Go.Proofs.Ytinlmodkdjpocaa
open Go.ChangeShapes Go.WideShapes Go.ChangeAt Go.RowKit Go.Deep
set_option maxRecDepth 100000

theorem backNests_c0 : (Rows.backNestsRow.wf (OpenSpec.ofChange Rows.backNestsSpec)) = true := by kernel_rfl
theorem backNests_c1 : (laidOutB Try.prog) = true := seat_c1
theorem backNests_c2 : (mapsRowed Try.prog) = true := seat_c2
theorem backNests_c3 : (Try.f8.params.all (Try.prog.readableRec ·)) = true := by kernel_rfl
theorem backNests_c4 : (namedTie Try.prog Rows.backNestsRow.named Rows.backNestsSpec.vars) = true := by kernel_rfl
theorem backNests_c5 : ((Rows.backNestsRow.stops == [])) = true := by kernel_rfl
theorem backNests_c6 : ((Try.prog.stops == [])) = true := seat_c6
theorem backNests_c7 : ((Rows.backNestsRow.knobs == [])) = true := by kernel_rfl
theorem backNests_c8 : ((Try.prog.stopKnobs == [])) = true := seat_c8
theorem backNests_c9 : ((Rows.backNestsRow.inPlace == Try.prog.inPlace 8)) = true := by kernel_rfl
theorem backNests_c10 : ((Rows.backNestsRow.unfollowed == Try.prog.unfollowed 8)) = true := by kernel_rfl
theorem backNests_c11 : ((Rows.backNestsRow.recurses == Try.prog.recurses 8)) = true := by kernel_rfl
theorem backNests_c12 : ((Rows.backNestsRow.named == Try.prog.varsNamed 8)) = true := by kernel_rfl
theorem backNests_c13 : ((Rows.backNestsRow.maps == (Try.f8.params.toList ++ Rows.backNestsSpec.plain.varTypes Try.prog).any (Try.prog.mapsRec ·))) = true := by kernel_rfl
theorem backNests_c14 : ((Rows.backNestsRow.ifaces == (Try.f8.params.toList ++ Rows.backNestsSpec.plain.varTypes Try.prog).any (Try.prog.ifacesRec ·))) = true := by kernel_rfl
theorem backNests_c15 : ((Rows.backNestsRow.mapsOut == Try.prog.mapsAmong Try.f8.resultTypes.toList)) = true := by kernel_rfl
theorem backNests_c16 : ((Rows.backNestsRow.loops == (Try.f8.params.toList ++ Rows.backNestsSpec.plain.varTypes Try.prog).any (Try.prog.loopsFrom ·))) = true := by kernel_rfl
theorem backNests_c17 : ((Rows.backNestsRow.wideKeys == (Try.f8.params.toList ++ Rows.backNestsSpec.plain.varTypes Try.prog ++ Try.f8.resultTypes.toList).any (Try.prog.wideKeysFrom ·))) = true := by kernel_rfl
theorem backNests_c18 : (Rows.backNestsSpec.vars.all (Try.prog.varReadable ·)) = true := by kernel_rfl
theorem backNests_c19 : (Try.f8.resultTypes.all (fun t => Try.prog.readableRec t && decide (t < Try.prog.types.size))) = true := by kernel_rfl
theorem backNests_c20 : ((Rows.backNestsRow.ifacesOut == Try.f8.resultTypes.toList.any (Try.prog.ifacesRec ·))) = true := by kernel_rfl
theorem backNests_c21 : ((Rows.backNestsRow.loopsOut == Try.f8.resultTypes.toList.any (Try.prog.loopsFrom ·))) = true := by kernel_rfl
theorem backNests_c22 : ((Rows.backNestsRow.plainKeys == Try.prog.plainKeys)) = true := seat_c22
theorem backNests_c23 : (Rows.backNestsRow.shortTexts.isNone) = true := by kernel_rfl
theorem backNests_c24 : (Try.prog.stopsHeard) = true := seat_c24
theorem backNests_c25 : (Try.prog.mayEnter) = true := seat_c25
theorem backNests_c26 : ((Rows.backNestsRow.lifted == Try.prog.liftsFinal)) = true := seat_c26
theorem backNests_c27 : ((Try.prog.make == some Rows.backNestsRow.make)) = true := seat_c27
theorem backNests_c28 : ((Rows.backNestsRow.kinds == (if Rows.backNestsRow.domain.isEmpty then [] else Try.f8.params.toList.map fun t => match Try.prog.underlying t with | some (.int k) => some k | _ => none))) = true := by kernel_rfl
theorem backNests_c29 : ((Rows.backNestsRow.pinned == Rows.backNestsRow.pinnedBy)) = true := by kernel_rfl
theorem backNests_c30 : ((Rows.backNestsRow.veiled == (Try.f8.params.toList ++ Rows.backNestsSpec.plain.varTypes Try.prog ++ Try.f8.resultTypes.toList).any (Try.prog.veiledRec ·))) = true := by kernel_rfl
theorem backNests_c31 : (Rows.backNestsRow.veiledFits Try.prog Try.f8.params.toList (Try.f8.params.toList ++ Rows.backNestsSpec.plain.varTypes Try.prog ++ Try.f8.resultTypes.toList)) = true := by kernel_rfl
theorem backNests_closed : joinedFacts Try.prog 8 Try.f8 Rows.backNestsSpec Rows.backNestsRow = true := (and_t (and_t (and_t (and_t (and_t (and_t (and_t (and_t (and_t (and_t (and_t (and_t (and_t (and_t (and_t (and_t (and_t (and_t (and_t (and_t (and_t (and_t (and_t (and_t (and_t (and_t (and_t (and_t (and_t (and_t (and_t backNests_c0 backNests_c1) backNests_c2) backNests_c3) backNests_c4) backNests_c5) backNests_c6) backNests_c7) backNests_c8) backNests_c9) backNests_c10) backNests_c11) backNests_c12) backNests_c13) backNests_c14) backNests_c15) backNests_c16) backNests_c17) backNests_c18) backNests_c19) backNests_c20) backNests_c21) backNests_c22) backNests_c23) backNests_c24) backNests_c25) backNests_c26) backNests_c27) backNests_c28) backNests_c29) backNests_c30) backNests_c31)

theorem backNests_lifted (os : Os) (started : os.Started) (H : Type) (enc : TypeId × Value → H) :
    ReturnsInHanded {} Try.checked os 8 .any (Rows.backNestsSpec.pre6 enc Try.prog Try.f8 Rows.backNestsRow.domain false) (Rows.backNestsSpec.post enc Try.prog Try.f8 false true false false) := by
  refine returnsInHanded_of_change_shaped (C := Try.checked) row_own started (by kernel_rfl) Try.func8
    (ChangeSpec.witness6 (enc := enc) (C := Try.checked) false ⟨#[], #[.slice none 0 0, .slice none 0 0], []⟩ 8 (by kernel_rfl) (by kernel_rfl) (by kernel_rfl) (by kernel_rfl)) ?_
  intro W base args ds gs before hval0 hW hcnd _ hsh _
  have hval : ∀ (j : Nat) t v, Try.f8.params[j]? = some t → args[j]? = some v → Value.okWide Try.prog W .any base t v := hval0
  have hW' := hW
  obtain ⟨p, q, hA0, hV, rfl, hfz, hnd⟩ := hW
  have hA : DataW.TrodAll enc Try.prog W 0 (fun _ => true) true Try.f8.params.toList args.toList ds p := hA0
  rw [Try.params8] at hA hval
  obtain ⟨v0, vs0, d0, ds0, p0, q0, hargs, rfl, rfl, h0, r0⟩ := trodAll_cons hA
  obtain ⟨v1, vs1, d1, ds1, p1, q1, rfl, rfl, rfl, h1, r1⟩ := trodAll_cons r0
  obtain ⟨rfl, rfl, rfl⟩ := trodAll_nil r1
  obtain rfl : args = #[v0, v1] := by cases args; simp_all
  obtain ⟨rfl, rfl⟩ := trodVars_none hV
  obtain ⟨a0, len0, cap0, rfl⟩ := okWide_slice Try.underlying22 (hval 0 22 v0 rfl rfl)
  obtain ⟨fuel0, hf0⟩ := h0
  obtain ⟨x0, hx0⟩ := open_docs hf0
  obtain ⟨a1, len1, cap1, rfl⟩ := okWide_slice Try.underlying29 (hval 1 29 v1 rfl rfl)
  obtain ⟨fuel1, hf1⟩ := h1
  obtain ⟨x1, hx1⟩ := open_bys hf1
  clear hA0 hval0
  refine (law12_nests x0 _ x1 _ W hx0 hx1).mono fun e W' ⟨he, hb⟩ => ?_
  subst he
  exact ⟨_, rfl, post_law rfl (of_decide_eq_true (by kernel_rfl)) hW' rfl (by kernel_rfl) hb⟩

theorem backNests_wrap : Try.f8.isWrapper Try.pinned.checked.prog Rows.backNestsRow.wrapper Rows.backNestsRow.mainSum := by
  unfold Func.isWrapper; first | (rw [if_pos (by decide +kernel)]; kernel_rfl) | (rw [if_neg (by decide +kernel)]; exact ⟨rfl, rfl⟩)
theorem backNests_inst : Try.f8.isInstance Try.pinned.checked.prog Rows.backNestsRow.origin Rows.backNestsRow.targs := of_decide_eq_true (by kernel_rfl)
theorem backNests_named : Try.pinned.checked.prog.funcNamed Rows.backNestsRow.func = some 8 := by kernel_rfl

/-- BackNests returns true for every input, and the arguments read afterwards as they did before. No condition. -/
theorem backNests_holds : Rows.BackNestsSaid :=
  OpenClaim.holds_of_wide 8 Try.f8 rfl rfl rfl rfl rfl rfl rfl ⟨rfl, rfl, rfl, rfl, rfl⟩ rfl rfl rfl rfl rfl backNests_named Try.func8 backNests_closed
    backNests_inst backNests_wrap (fun os started H enc _ => backNests_lifted os started H enc)
#print axioms backNests_holds
end Go.Proofs.Ytinlmodkdjpocaa
