/- BackWalks returns true for every input, and the arguments read afterwards as they did before. No condition. -/
import Derived.Test.YtinlmodkdjpocaaFacts
import Derived.Test.YtinlmodkdjpocaaGl
import Derived.Test.YtinlmodkdjpocaaBwl
set_option linter.unusedVariables false
namespace Go.Proofs.Ytinlmodkdjpocaa
open Go.ChangeShapes Go.WideShapes Go.ChangeAt Go.RowKit Go.Deep
set_option maxRecDepth 100000

theorem backWalks_c0 : (Rows.backWalksRow.wf (OpenSpec.ofChange Rows.backWalksSpec)) = true := by kernel_rfl
theorem backWalks_c1 : (laidOutB Try.prog) = true := seat_c1
theorem backWalks_c2 : (mapsRowed Try.prog) = true := seat_c2
theorem backWalks_c3 : (Try.f13.params.all (Try.prog.readableRec ·)) = true := by kernel_rfl
theorem backWalks_c4 : (namedTie Try.prog Rows.backWalksRow.named Rows.backWalksSpec.vars) = true := by kernel_rfl
theorem backWalks_c5 : ((Rows.backWalksRow.stops == [])) = true := by kernel_rfl
theorem backWalks_c6 : ((Try.prog.stops == [])) = true := seat_c6
theorem backWalks_c7 : ((Rows.backWalksRow.knobs == [])) = true := by kernel_rfl
theorem backWalks_c8 : ((Try.prog.stopKnobs == [])) = true := seat_c8
theorem backWalks_c9 : ((Rows.backWalksRow.inPlace == Try.prog.inPlace 13)) = true := by kernel_rfl
theorem backWalks_c10 : ((Rows.backWalksRow.unfollowed == Try.prog.unfollowed 13)) = true := by kernel_rfl
theorem backWalks_c11 : ((Rows.backWalksRow.recurses == Try.prog.recurses 13)) = true := by kernel_rfl
theorem backWalks_c12 : ((Rows.backWalksRow.named == Try.prog.varsNamed 13)) = true := by kernel_rfl
theorem backWalks_c13 : ((Rows.backWalksRow.maps == (Try.f13.params.toList ++ Rows.backWalksSpec.plain.varTypes Try.prog).any (Try.prog.mapsRec ·))) = true := by kernel_rfl
theorem backWalks_c14 : ((Rows.backWalksRow.ifaces == (Try.f13.params.toList ++ Rows.backWalksSpec.plain.varTypes Try.prog).any (Try.prog.ifacesRec ·))) = true := by kernel_rfl
theorem backWalks_c15 : ((Rows.backWalksRow.mapsOut == Try.prog.mapsAmong Try.f13.resultTypes.toList)) = true := by kernel_rfl
theorem backWalks_c16 : ((Rows.backWalksRow.loops == (Try.f13.params.toList ++ Rows.backWalksSpec.plain.varTypes Try.prog).any (Try.prog.loopsFrom ·))) = true := by kernel_rfl
theorem backWalks_c17 : ((Rows.backWalksRow.wideKeys == (Try.f13.params.toList ++ Rows.backWalksSpec.plain.varTypes Try.prog ++ Try.f13.resultTypes.toList).any (Try.prog.wideKeysFrom ·))) = true := by kernel_rfl
theorem backWalks_c18 : (Rows.backWalksSpec.vars.all (Try.prog.varReadable ·)) = true := by kernel_rfl
theorem backWalks_c19 : (Try.f13.resultTypes.all (fun t => Try.prog.readableRec t && decide (t < Try.prog.types.size))) = true := by kernel_rfl
theorem backWalks_c20 : ((Rows.backWalksRow.ifacesOut == Try.f13.resultTypes.toList.any (Try.prog.ifacesRec ·))) = true := by kernel_rfl
theorem backWalks_c21 : ((Rows.backWalksRow.loopsOut == Try.f13.resultTypes.toList.any (Try.prog.loopsFrom ·))) = true := by kernel_rfl
theorem backWalks_c22 : ((Rows.backWalksRow.plainKeys == Try.prog.plainKeys)) = true := seat_c22
theorem backWalks_c23 : (Rows.backWalksRow.shortTexts.isNone) = true := by kernel_rfl
theorem backWalks_c24 : (Try.prog.stopsHeard) = true := seat_c24
theorem backWalks_c25 : (Try.prog.mayEnter) = true := seat_c25
theorem backWalks_c26 : ((Rows.backWalksRow.lifted == Try.prog.liftsFinal)) = true := seat_c26
theorem backWalks_c27 : ((Try.prog.make == some Rows.backWalksRow.make)) = true := seat_c27
theorem backWalks_c28 : ((Rows.backWalksRow.kinds == (if Rows.backWalksRow.domain.isEmpty then [] else Try.f13.params.toList.map fun t => match Try.prog.underlying t with | some (.int k) => some k | _ => none))) = true := by kernel_rfl
theorem backWalks_c29 : ((Rows.backWalksRow.pinned == Rows.backWalksRow.pinnedBy)) = true := by kernel_rfl
theorem backWalks_c30 : ((Rows.backWalksRow.veiled == (Try.f13.params.toList ++ Rows.backWalksSpec.plain.varTypes Try.prog ++ Try.f13.resultTypes.toList).any (Try.prog.veiledRec ·))) = true := by kernel_rfl
theorem backWalks_c31 : (Rows.backWalksRow.veiledFits Try.prog Try.f13.params.toList (Try.f13.params.toList ++ Rows.backWalksSpec.plain.varTypes Try.prog ++ Try.f13.resultTypes.toList)) = true := by kernel_rfl
theorem backWalks_closed : joinedFacts Try.prog 13 Try.f13 Rows.backWalksSpec Rows.backWalksRow = true := (and_t (and_t (and_t (and_t (and_t (and_t (and_t (and_t (and_t (and_t (and_t (and_t (and_t (and_t (and_t (and_t (and_t (and_t (and_t (and_t (and_t (and_t (and_t (and_t (and_t (and_t (and_t (and_t (and_t (and_t (and_t backWalks_c0 backWalks_c1) backWalks_c2) backWalks_c3) backWalks_c4) backWalks_c5) backWalks_c6) backWalks_c7) backWalks_c8) backWalks_c9) backWalks_c10) backWalks_c11) backWalks_c12) backWalks_c13) backWalks_c14) backWalks_c15) backWalks_c16) backWalks_c17) backWalks_c18) backWalks_c19) backWalks_c20) backWalks_c21) backWalks_c22) backWalks_c23) backWalks_c24) backWalks_c25) backWalks_c26) backWalks_c27) backWalks_c28) backWalks_c29) backWalks_c30) backWalks_c31)

theorem backWalks_lifted (os : Os) (started : os.Started) (H : Type) (enc : TypeId × Value → H) :
    ReturnsInHanded {} Try.checked os 13 .any (Rows.backWalksSpec.pre6 enc Try.prog Try.f13 Rows.backWalksRow.domain false) (Rows.backWalksSpec.post enc Try.prog Try.f13 false true false false) := by
  refine returnsInHanded_of_change_shaped (C := Try.checked) row_own started (by kernel_rfl) Try.func13
    (ChangeSpec.witness6 (enc := enc) (C := Try.checked) false ⟨#[], #[.slice none 0 0, .int .i64 0, .int .i64 0], []⟩ 8 (by kernel_rfl) (by kernel_rfl) (by kernel_rfl) (by kernel_rfl)) ?_
  intro W base args ds gs before hval0 hW hcnd _ hsh _
  have hval : ∀ (j : Nat) t v, Try.f13.params[j]? = some t → args[j]? = some v → Value.okWide Try.prog W .any base t v := hval0
  have hW' := hW
  obtain ⟨p, q, hA0, hV, rfl, hfz, hnd⟩ := hW
  have hA : DataW.TrodAll enc Try.prog W 0 (fun _ => true) true Try.f13.params.toList args.toList ds p := hA0
  rw [Try.params13] at hA hval
  obtain ⟨v0, vs0, d0, ds0, p0, q0, hargs, rfl, rfl, h0, r0⟩ := trodAll_cons hA
  obtain ⟨v1, vs1, d1, ds1, p1, q1, rfl, rfl, rfl, h1, r1⟩ := trodAll_cons r0
  obtain ⟨v2, vs2, d2, ds2, p2, q2, rfl, rfl, rfl, h2, r2⟩ := trodAll_cons r1
  obtain ⟨rfl, rfl, rfl⟩ := trodAll_nil r2
  obtain rfl : args = #[v0, v1, v2] := by cases args; simp_all
  obtain ⟨rfl, rfl⟩ := trodVars_none hV
  obtain ⟨a0, len0, cap0, rfl⟩ := okWide_slice Try.underlying22 (hval 0 22 v0 rfl rfl)
  obtain ⟨fuel0, hf0⟩ := h0
  obtain ⟨x0, hx0⟩ := open_docs hf0
  obtain ⟨x1, rfl, rfl, rfl, hx1⟩ := open_int Try.underlying3 (hval 1 3 v1 rfl rfl) h1
  obtain ⟨x2, rfl, rfl, rfl, hx2⟩ := open_int Try.underlying3 (hval 2 3 v2 rfl rfl) h2
  clear hA0 hval0
  refine (law12_walks x0 _ x1 x2 W hx0).mono fun e W' ⟨he, hb⟩ => ?_
  subst he
  exact ⟨_, rfl, post_law rfl (of_decide_eq_true (by kernel_rfl)) hW' rfl (by kernel_rfl) hb⟩

theorem backWalks_wrap : Try.f13.isWrapper Try.pinned.checked.prog Rows.backWalksRow.wrapper Rows.backWalksRow.mainSum := by
  unfold Func.isWrapper; first | (rw [if_pos (by decide +kernel)]; kernel_rfl) | (rw [if_neg (by decide +kernel)]; exact ⟨rfl, rfl⟩)
theorem backWalks_inst : Try.f13.isInstance Try.pinned.checked.prog Rows.backWalksRow.origin Rows.backWalksRow.targs := of_decide_eq_true (by kernel_rfl)
theorem backWalks_named : Try.pinned.checked.prog.funcNamed Rows.backWalksRow.func = some 13 := by kernel_rfl

/-- BackWalks returns true for every input, and the arguments read afterwards as they did before. No condition. -/
theorem backWalks_holds : Rows.BackWalksSaid :=
  OpenClaim.holds_of_wide 13 Try.f13 rfl rfl rfl rfl rfl rfl rfl ⟨rfl, rfl, rfl, rfl, rfl⟩ rfl rfl rfl rfl rfl backWalks_named Try.func13 backWalks_closed
    backWalks_inst backWalks_wrap (fun os started H enc _ => backWalks_lifted os started H enc)
#print axioms backWalks_holds
end Go.Proofs.Ytinlmodkdjpocaa
