/- TextFinds returns true for every input, and the arguments read afterwards as they did before. No condition. -/
import Derived.Test.YtinlmodkdjpocaaFacts
import Derived.Test.YtinlmodkdjpocaaGl
import Derived.Test.YtinlmodkdjpocaaTxo
set_option linter.unusedVariables false
namespace Go.Proofs.Ytinlmodkdjpocaa
open Go.ChangeShapes Go.WideShapes Go.ChangeAt Go.RowKit Go.Deep
set_option maxRecDepth 100000

theorem textFinds_c0 : (Rows.textFindsRow.wf (OpenSpec.ofChange Rows.textFindsSpec)) = true := by kernel_rfl
theorem textFinds_c1 : (laidOutB Try.prog) = true := seat_c1
theorem textFinds_c2 : (mapsRowed Try.prog) = true := seat_c2
theorem textFinds_c3 : (Try.f5.params.all (Try.prog.readableRec ·)) = true := by kernel_rfl
theorem textFinds_c4 : (namedTie Try.prog Rows.textFindsRow.named Rows.textFindsSpec.vars) = true := by kernel_rfl
theorem textFinds_c5 : ((Rows.textFindsRow.stops == [])) = true := by kernel_rfl
theorem textFinds_c6 : ((Try.prog.stops == [])) = true := seat_c6
theorem textFinds_c7 : ((Rows.textFindsRow.knobs == [])) = true := by kernel_rfl
theorem textFinds_c8 : ((Try.prog.stopKnobs == [])) = true := seat_c8
theorem textFinds_c9 : ((Rows.textFindsRow.inPlace == Try.prog.inPlace 5)) = true := by kernel_rfl
theorem textFinds_c10 : ((Rows.textFindsRow.unfollowed == Try.prog.unfollowed 5)) = true := by kernel_rfl
theorem textFinds_c11 : ((Rows.textFindsRow.recurses == Try.prog.recurses 5)) = true := by kernel_rfl
theorem textFinds_c12 : ((Rows.textFindsRow.named == Try.prog.varsNamed 5)) = true := by kernel_rfl
theorem textFinds_c13 : ((Rows.textFindsRow.maps == (Try.f5.params.toList ++ Rows.textFindsSpec.plain.varTypes Try.prog).any (Try.prog.mapsRec ·))) = true := by kernel_rfl
theorem textFinds_c14 : ((Rows.textFindsRow.ifaces == (Try.f5.params.toList ++ Rows.textFindsSpec.plain.varTypes Try.prog).any (Try.prog.ifacesRec ·))) = true := by kernel_rfl
theorem textFinds_c15 : ((Rows.textFindsRow.mapsOut == Try.prog.mapsAmong Try.f5.resultTypes.toList)) = true := by kernel_rfl
theorem textFinds_c16 : ((Rows.textFindsRow.loops == (Try.f5.params.toList ++ Rows.textFindsSpec.plain.varTypes Try.prog).any (Try.prog.loopsFrom ·))) = true := by kernel_rfl
theorem textFinds_c17 : ((Rows.textFindsRow.wideKeys == (Try.f5.params.toList ++ Rows.textFindsSpec.plain.varTypes Try.prog ++ Try.f5.resultTypes.toList).any (Try.prog.wideKeysFrom ·))) = true := by kernel_rfl
theorem textFinds_c18 : (Rows.textFindsSpec.vars.all (Try.prog.varReadable ·)) = true := by kernel_rfl
theorem textFinds_c19 : (Try.f5.resultTypes.all (fun t => Try.prog.readableRec t && decide (t < Try.prog.types.size))) = true := by kernel_rfl
theorem textFinds_c20 : ((Rows.textFindsRow.ifacesOut == Try.f5.resultTypes.toList.any (Try.prog.ifacesRec ·))) = true := by kernel_rfl
theorem textFinds_c21 : ((Rows.textFindsRow.loopsOut == Try.f5.resultTypes.toList.any (Try.prog.loopsFrom ·))) = true := by kernel_rfl
theorem textFinds_c22 : ((Rows.textFindsRow.plainKeys == Try.prog.plainKeys)) = true := seat_c22
theorem textFinds_c23 : (Rows.textFindsRow.shortTexts.isNone) = true := by kernel_rfl
theorem textFinds_c24 : (Try.prog.stopsHeard) = true := seat_c24
theorem textFinds_c25 : (Try.prog.mayEnter) = true := seat_c25
theorem textFinds_c26 : ((Rows.textFindsRow.lifted == Try.prog.liftsFinal)) = true := seat_c26
theorem textFinds_c27 : ((Try.prog.make == some Rows.textFindsRow.make)) = true := seat_c27
theorem textFinds_c28 : ((Rows.textFindsRow.kinds == (if Rows.textFindsRow.domain.isEmpty then [] else Try.f5.params.toList.map fun t => match Try.prog.underlying t with | some (.int k) => some k | _ => none))) = true := by kernel_rfl
theorem textFinds_c29 : ((Rows.textFindsRow.pinned == Rows.textFindsRow.pinnedBy)) = true := by kernel_rfl
theorem textFinds_c30 : ((Rows.textFindsRow.veiled == (Try.f5.params.toList ++ Rows.textFindsSpec.plain.varTypes Try.prog ++ Try.f5.resultTypes.toList).any (Try.prog.veiledRec ·))) = true := by kernel_rfl
theorem textFinds_c31 : (Rows.textFindsRow.veiledFits Try.prog Try.f5.params.toList (Try.f5.params.toList ++ Rows.textFindsSpec.plain.varTypes Try.prog ++ Try.f5.resultTypes.toList)) = true := by kernel_rfl
theorem textFinds_closed : joinedFacts Try.prog 5 Try.f5 Rows.textFindsSpec Rows.textFindsRow = true := (and_t (and_t (and_t (and_t (and_t (and_t (and_t (and_t (and_t (and_t (and_t (and_t (and_t (and_t (and_t (and_t (and_t (and_t (and_t (and_t (and_t (and_t (and_t (and_t (and_t (and_t (and_t (and_t (and_t (and_t (and_t textFinds_c0 textFinds_c1) textFinds_c2) textFinds_c3) textFinds_c4) textFinds_c5) textFinds_c6) textFinds_c7) textFinds_c8) textFinds_c9) textFinds_c10) textFinds_c11) textFinds_c12) textFinds_c13) textFinds_c14) textFinds_c15) textFinds_c16) textFinds_c17) textFinds_c18) textFinds_c19) textFinds_c20) textFinds_c21) textFinds_c22) textFinds_c23) textFinds_c24) textFinds_c25) textFinds_c26) textFinds_c27) textFinds_c28) textFinds_c29) textFinds_c30) textFinds_c31)

theorem textFinds_lifted (os : Os) (started : os.Started) (H : Type) (enc : TypeId × Value → H) :
    ReturnsInHanded {} Try.checked os 5 .any (Rows.textFindsSpec.pre6 enc Try.prog Try.f5 Rows.textFindsRow.domain false) (Rows.textFindsSpec.post enc Try.prog Try.f5 false true false false) := by
  refine returnsInHanded_of_change_shaped (C := Try.checked) row_own started (by kernel_rfl) Try.func5
    (ChangeSpec.witness6 (enc := enc) (C := Try.checked) false ⟨#[], #[.slice none 0 0, .slice none 0 0, .int .i64 0], []⟩ 8 (by kernel_rfl) (by kernel_rfl) (by kernel_rfl) (by kernel_rfl)) ?_
  intro W base args ds gs before hval0 hW hcnd _ hsh _
  have hval : ∀ (j : Nat) t v, Try.f5.params[j]? = some t → args[j]? = some v → Value.okWide Try.prog W .any base t v := hval0
  have hW' := hW
  obtain ⟨p, q, hA0, hV, rfl, hfz, hnd⟩ := hW
  have hA : DataW.TrodAll enc Try.prog W 0 (fun _ => true) true Try.f5.params.toList args.toList ds p := hA0
  rw [Try.params5] at hA hval
  obtain ⟨v0, vs0, d0, ds0, p0, q0, hargs, rfl, rfl, h0, r0⟩ := trodAll_cons hA
  obtain ⟨v1, vs1, d1, ds1, p1, q1, rfl, rfl, rfl, h1, r1⟩ := trodAll_cons r0
  obtain ⟨v2, vs2, d2, ds2, p2, q2, rfl, rfl, rfl, h2, r2⟩ := trodAll_cons r1
  obtain ⟨rfl, rfl, rfl⟩ := trodAll_nil r2
  obtain rfl : args = #[v0, v1, v2] := by cases args; simp_all
  obtain ⟨rfl, rfl⟩ := trodVars_none hV
  obtain ⟨a0, len0, cap0, rfl⟩ := okWide_slice Try.underlying22 (hval 0 22 v0 rfl rfl)
  obtain ⟨fuel0, hf0⟩ := h0
  obtain ⟨x0, hx0⟩ := open_docs hf0
  obtain ⟨a1, len1, cap1, rfl⟩ := okWide_slice Try.underlying29 (hval 1 29 v1 rfl rfl)
  obtain ⟨fuel1, hf1⟩ := h1
  obtain ⟨x1, hx1⟩ := open_bys hf1
  obtain ⟨x2, rfl, rfl, rfl, hx2⟩ := open_int Try.underlying3 (hval 2 3 v2 rfl rfl) h2
  clear hA0 hval0
  refine (law_finds x0 _ x1 _ x2 W hx0 hx1 (gl_of hsh)).mono fun e W' ⟨he, hb⟩ => ?_
  subst he
  exact ⟨_, rfl, post_law rfl (of_decide_eq_true (by kernel_rfl)) hW' rfl (by kernel_rfl) hb⟩

theorem textFinds_wrap : Try.f5.isWrapper Try.pinned.checked.prog Rows.textFindsRow.wrapper Rows.textFindsRow.mainSum := by
  unfold Func.isWrapper; first | (rw [if_pos (by decide +kernel)]; kernel_rfl) | (rw [if_neg (by decide +kernel)]; exact ⟨rfl, rfl⟩)
theorem textFinds_inst : Try.f5.isInstance Try.pinned.checked.prog Rows.textFindsRow.origin Rows.textFindsRow.targs := of_decide_eq_true (by kernel_rfl)
theorem textFinds_named : Try.pinned.checked.prog.funcNamed Rows.textFindsRow.func = some 5 := by kernel_rfl

/-- TextFinds returns true for every input, and the arguments read afterwards as they did before. No condition. -/
theorem textFinds_holds : Rows.TextFindsSaid :=
  OpenClaim.holds_of_wide 5 Try.f5 rfl rfl rfl rfl rfl rfl rfl ⟨rfl, rfl, rfl, rfl, rfl⟩ rfl rfl rfl rfl rfl textFinds_named Try.func5 textFinds_closed
    textFinds_inst textFinds_wrap (fun os started H enc _ => textFinds_lifted os started H enc)
#print axioms textFinds_holds
end Go.Proofs.Ytinlmodkdjpocaa
