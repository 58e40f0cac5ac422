/- WalkLong returns true for every input, and the arguments read afterwards as they did before. No condition. -/
import Derived.Test.YtinlmodkdjpocaaFacts
import Derived.Test.YtinlmodkdjpocaaGl
import Derived.Test.YtinlmodkdjpocaaWlo
set_option linter.unusedVariables false
namespace Go.Proofs.Ytinlmodkdjpocaa
open Go.ChangeShapes Go.WideShapes Go.ChangeAt Go.RowKit Go.Deep
set_option maxRecDepth 100000

theorem walkLong_c0 : (Rows.walkLongRow.wf (OpenSpec.ofChange Rows.walkLongSpec)) = true := by kernel_rfl
theorem walkLong_c1 : (laidOutB Try.prog) = true := seat_c1
theorem walkLong_c2 : (mapsRowed Try.prog) = true := seat_c2
theorem walkLong_c3 : (Try.f14.params.all (Try.prog.readableRec ·)) = true := by kernel_rfl
theorem walkLong_c4 : (namedTie Try.prog Rows.walkLongRow.named Rows.walkLongSpec.vars) = true := by kernel_rfl
theorem walkLong_c5 : ((Rows.walkLongRow.stops == [])) = true := by kernel_rfl
theorem walkLong_c6 : ((Try.prog.stops == [])) = true := seat_c6
theorem walkLong_c7 : ((Rows.walkLongRow.knobs == [])) = true := by kernel_rfl
theorem walkLong_c8 : ((Try.prog.stopKnobs == [])) = true := seat_c8
theorem walkLong_c9 : ((Rows.walkLongRow.inPlace == Try.prog.inPlace 14)) = true := by kernel_rfl
theorem walkLong_c10 : ((Rows.walkLongRow.unfollowed == Try.prog.unfollowed 14)) = true := by kernel_rfl
theorem walkLong_c11 : ((Rows.walkLongRow.recurses == Try.prog.recurses 14)) = true := by kernel_rfl
theorem walkLong_c12 : ((Rows.walkLongRow.named == Try.prog.varsNamed 14)) = true := by kernel_rfl
theorem walkLong_c13 : ((Rows.walkLongRow.maps == (Try.f14.params.toList ++ Rows.walkLongSpec.plain.varTypes Try.prog).any (Try.prog.mapsRec ·))) = true := by kernel_rfl
theorem walkLong_c14 : ((Rows.walkLongRow.ifaces == (Try.f14.params.toList ++ Rows.walkLongSpec.plain.varTypes Try.prog).any (Try.prog.ifacesRec ·))) = true := by kernel_rfl
theorem walkLong_c15 : ((Rows.walkLongRow.mapsOut == Try.prog.mapsAmong Try.f14.resultTypes.toList)) = true := by kernel_rfl
theorem walkLong_c16 : ((Rows.walkLongRow.loops == (Try.f14.params.toList ++ Rows.walkLongSpec.plain.varTypes Try.prog).any (Try.prog.loopsFrom ·))) = true := by kernel_rfl
theorem walkLong_c17 : ((Rows.walkLongRow.wideKeys == (Try.f14.params.toList ++ Rows.walkLongSpec.plain.varTypes Try.prog ++ Try.f14.resultTypes.toList).any (Try.prog.wideKeysFrom ·))) = true := by kernel_rfl
theorem walkLong_c18 : (Rows.walkLongSpec.vars.all (Try.prog.varReadable ·)) = true := by kernel_rfl
theorem walkLong_c19 : (Try.f14.resultTypes.all (fun t => Try.prog.readableRec t && decide (t < Try.prog.types.size))) = true := by kernel_rfl
theorem walkLong_c20 : ((Rows.walkLongRow.ifacesOut == Try.f14.resultTypes.toList.any (Try.prog.ifacesRec ·))) = true := by kernel_rfl
theorem walkLong_c21 : ((Rows.walkLongRow.loopsOut == Try.f14.resultTypes.toList.any (Try.prog.loopsFrom ·))) = true := by kernel_rfl
theorem walkLong_c22 : ((Rows.walkLongRow.plainKeys == Try.prog.plainKeys)) = true := seat_c22
theorem walkLong_c23 : (Rows.walkLongRow.shortTexts.isNone) = true := by kernel_rfl
theorem walkLong_c24 : (Try.prog.stopsHeard) = true := seat_c24
theorem walkLong_c25 : (Try.prog.mayEnter) = true := seat_c25
theorem walkLong_c26 : ((Rows.walkLongRow.lifted == Try.prog.liftsFinal)) = true := seat_c26
theorem walkLong_c27 : ((Try.prog.make == some Rows.walkLongRow.make)) = true := seat_c27
theorem walkLong_c28 : ((Rows.walkLongRow.kinds == (if Rows.walkLongRow.domain.isEmpty then [] else Try.f14.params.toList.map fun t => match Try.prog.underlying t with | some (.int k) => some k | _ => none))) = true := by kernel_rfl
theorem walkLong_c29 : ((Rows.walkLongRow.pinned == Rows.walkLongRow.pinnedBy)) = true := by kernel_rfl
theorem walkLong_c30 : ((Rows.walkLongRow.veiled == (Try.f14.params.toList ++ Rows.walkLongSpec.plain.varTypes Try.prog ++ Try.f14.resultTypes.toList).any (Try.prog.veiledRec ·))) = true := by kernel_rfl
theorem walkLong_c31 : (Rows.walkLongRow.veiledFits Try.prog Try.f14.params.toList (Try.f14.params.toList ++ Rows.walkLongSpec.plain.varTypes Try.prog ++ Try.f14.resultTypes.toList)) = true := by kernel_rfl
theorem walkLong_closed : joinedFacts Try.prog 14 Try.f14 Rows.walkLongSpec Rows.walkLongRow = true := (and_t (and_t (and_t (and_t (and_t (and_t (and_t (and_t (and_t (and_t (and_t (and_t (and_t (and_t (and_t (and_t (and_t (and_t (and_t (and_t (and_t (and_t (and_t (and_t (and_t (and_t (and_t (and_t (and_t (and_t (and_t walkLong_c0 walkLong_c1) walkLong_c2) walkLong_c3) walkLong_c4) walkLong_c5) walkLong_c6) walkLong_c7) walkLong_c8) walkLong_c9) walkLong_c10) walkLong_c11) walkLong_c12) walkLong_c13) walkLong_c14) walkLong_c15) walkLong_c16) walkLong_c17) walkLong_c18) walkLong_c19) walkLong_c20) walkLong_c21) walkLong_c22) walkLong_c23) walkLong_c24) walkLong_c25) walkLong_c26) walkLong_c27) walkLong_c28) walkLong_c29) walkLong_c30) walkLong_c31)

theorem walkLong_lifted (os : Os) (started : os.Started) (H : Type) (enc : TypeId × Value → H) :
    ReturnsInHanded {} Try.checked os 14 .any (Rows.walkLongSpec.pre6 enc Try.prog Try.f14 Rows.walkLongRow.domain false) (Rows.walkLongSpec.post enc Try.prog Try.f14 false true false false) := by
  refine returnsInHanded_of_change_shaped (C := Try.checked) row_own started (by kernel_rfl) Try.func14
    (ChangeSpec.witness6 (enc := enc) (C := Try.checked) false ⟨#[], #[.slice none 0 0, .int .i64 0], []⟩ 8 (by kernel_rfl) (by kernel_rfl) (by kernel_rfl) (by kernel_rfl)) ?_
  intro W base args ds gs before hval0 hW hcnd _ hsh _
  have hval : ∀ (j : Nat) t v, Try.f14.params[j]? = some t → args[j]? = some v → Value.okWide Try.prog W .any base t v := hval0
  have hW' := hW
  obtain ⟨p, q, hA0, hV, rfl, hfz, hnd⟩ := hW
  have hA : DataW.TrodAll enc Try.prog W 0 (fun _ => true) true Try.f14.params.toList args.toList ds p := hA0
  rw [Try.params14] at hA hval
  obtain ⟨v0, vs0, d0, ds0, p0, q0, hargs, rfl, rfl, h0, r0⟩ := trodAll_cons hA
  obtain ⟨v1, vs1, d1, ds1, p1, q1, rfl, rfl, rfl, h1, r1⟩ := trodAll_cons r0
  obtain ⟨rfl, rfl, rfl⟩ := trodAll_nil r1
  obtain rfl : args = #[v0, v1] := by cases args; simp_all
  obtain ⟨rfl, rfl⟩ := trodVars_none hV
  obtain ⟨a0, len0, cap0, rfl⟩ := okWide_slice Try.underlying29 (hval 0 29 v0 rfl rfl)
  obtain ⟨fuel0, hf0⟩ := h0
  obtain ⟨x0, hx0⟩ := open_bys hf0
  obtain ⟨x1, rfl, rfl, rfl, hx1⟩ := open_int Try.underlying3 (hval 1 3 v1 rfl rfl) h1
  clear hA0 hval0
  refine (law13_long x0 _ x1 W hx0).mono fun e W' ⟨he, hb⟩ => ?_
  subst he
  exact ⟨_, rfl, post_law rfl (of_decide_eq_true (by kernel_rfl)) hW' rfl (by kernel_rfl) hb⟩

theorem walkLong_wrap : Try.f14.isWrapper Try.pinned.checked.prog Rows.walkLongRow.wrapper Rows.walkLongRow.mainSum := by
  unfold Func.isWrapper; first | (rw [if_pos (by decide +kernel)]; kernel_rfl) | (rw [if_neg (by decide +kernel)]; exact ⟨rfl, rfl⟩)
theorem walkLong_inst : Try.f14.isInstance Try.pinned.checked.prog Rows.walkLongRow.origin Rows.walkLongRow.targs := of_decide_eq_true (by kernel_rfl)
theorem walkLong_named : Try.pinned.checked.prog.funcNamed Rows.walkLongRow.func = some 14 := by kernel_rfl

/-- WalkLong returns true for every input, and the arguments read afterwards as they did before. No condition. -/
theorem walkLong_holds : Rows.WalkLongSaid :=
  OpenClaim.holds_of_wide 14 Try.f14 rfl rfl rfl rfl rfl rfl rfl ⟨rfl, rfl, rfl, rfl, rfl⟩ rfl rfl rfl rfl rfl walkLong_named Try.func14 walkLong_closed
    walkLong_inst walkLong_wrap (fun os started H enc _ => walkLong_lifted os started H enc)
#print axioms walkLong_holds
end Go.Proofs.Ytinlmodkdjpocaa
