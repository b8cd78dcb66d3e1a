
/- Proved: for every input the law VerdictNames returns true, and its arguments read as they did. No condition. -/
import Derived.Test.YtndbdehpkiimjaaGreatFnF
import Derived.Test.YtndbdehpkiimjaaGreatArg
namespace Go.Proofs.YtndbdehpkiimjaaGreat.verdictNames
open Go.ChangeShapes Go.WideShapes Go.ChangeAt Go.RowKit Go.HL
set_option linter.unusedVariables false

theorem own : ownKnob Tryz.prog.godebug = none := by kernel_rfl
theorem laidOut : laidOutB Tryz.prog = true := by kernel_rfl

set_option maxRecDepth 100000 in
theorem lifted (os : Os) (started : os.Started) (H : Type) (enc : TypeId × Value → H) :
    ReturnsInHanded {} Tryz.checked os 3 .any (Rows.verdictNamesSpec.pre6 enc Tryz.prog Tryz.f3 Rows.verdictNamesRow.domain false) (Rows.verdictNamesSpec.post enc Tryz.prog Tryz.f3 false true false false) := by
  refine returnsInHanded_of_change (C := Tryz.checked) own started (by kernel_rfl) Tryz.func3
    (ChangeSpec.witness6 (enc := enc) (C := Tryz.checked) false ⟨#[], #[.int .i64 0], []⟩ 8 (by kernel_rfl) (by kernel_rfl) (by kernel_rfl) (by kernel_rfl)) ?_
  intro W base args ds gs before hval0 hW _ _
  have hval : ∀ (j : Nat) t v, Tryz.f3.params[j]? = some t → args[j]? = some v → Value.okWide Tryz.prog W .any base t v := hval0
  have hW' := hW
  obtain ⟨p, q, hA0, hV, rfl, hfz, hnd⟩ := hW
  have hA : DataW.TrodAll enc Tryz.prog W 0 (fun _ => true) true Tryz.f3.params.toList args.toList ds p := hA0
  rw [Tryz.params3] at hA hval
  obtain ⟨v0, d0, rfl, rfl, t0⟩ := trodAll_one hA
  obtain ⟨rfl, rfl⟩ := trodVars_none hV
  obtain ⟨m0, rfl, rfl, rfl, wm0⟩ := open_int Tryz.underlying3 (hval 0 3 v0 rfl rfl) t0
  have h0 : -9223372036854775808 ≤ m0 ∧ m0 ≤ 9223372036854775807 := by simpa [Lit.wf, IntKind.min, IntKind.max, IntKind.signed, IntKind.bits] using wm0
  have hcall := hcalls_of_callF Tryz.func3 rfl (by decide) (Go.Run.verdictNames_spec (H := W.heap) h0)
  refine (calls_of_hcalls hcall (R := fun W' => Below W.heap.size W W') (fun W' hb => hb)).mono ?_
  rintro e W' ⟨v, rfl, rfl, hb⟩
  exact ⟨_, rfl, law_post laidOut (by rw [Tryz.params3]; intro t ht; simp at ht; subst ht; exact ⟨by kernel_rfl, of_decide_eq_true (by kernel_rfl)⟩) (tb := 4) (by kernel_rfl) Tryz.underlying4 rfl rfl rfl rfl hW' hb⟩

set_option maxRecDepth 100000
theorem andB {a b : Bool} (h : a = true) (h2 : b = true) : (a && b) = true := by rw [h, h2]; rfl
theorem j0 : (Rows.verdictNamesRow.wf (OpenSpec.ofChange Rows.verdictNamesSpec)) = true := by kernel_rfl
theorem j1 : (laidOutB Tryz.prog) = true := by kernel_rfl
theorem j2 : (mapsRowed Tryz.prog) = true := by kernel_rfl
theorem j3 : (Tryz.f3.params.all (Tryz.prog.readableRec ·)) = true := by kernel_rfl
theorem j4 : (namedTie Tryz.prog Rows.verdictNamesRow.named Rows.verdictNamesSpec.vars) = true := by kernel_rfl
theorem j5 : ((Rows.verdictNamesRow.stops == [])) = true := by kernel_rfl
theorem j6 : ((Tryz.prog.stops == [])) = true := by kernel_rfl
theorem j7 : ((Rows.verdictNamesRow.knobs == [])) = true := by kernel_rfl
theorem j8 : ((Tryz.prog.stopKnobs == [])) = true := by kernel_rfl
theorem j9 : ((Rows.verdictNamesRow.inPlace == Tryz.prog.inPlace 3)) = true := by kernel_rfl
theorem j10 : ((Rows.verdictNamesRow.unfollowed == Tryz.prog.unfollowed 3)) = true := by kernel_rfl
theorem j11 : ((Rows.verdictNamesRow.recurses == Tryz.prog.recurses 3)) = true := by kernel_rfl
theorem j12 : ((Rows.verdictNamesRow.named == Tryz.prog.varsNamed 3)) = true := by kernel_rfl
theorem j13 : ((Rows.verdictNamesRow.maps == (Tryz.f3.params.toList ++ Rows.verdictNamesSpec.plain.varTypes Tryz.prog).any (Tryz.prog.mapsRec ·))) = true := by kernel_rfl
theorem j14 : ((Rows.verdictNamesRow.ifaces == (Tryz.f3.params.toList ++ Rows.verdictNamesSpec.plain.varTypes Tryz.prog).any (Tryz.prog.ifacesRec ·))) = true := by kernel_rfl
theorem j15 : ((Rows.verdictNamesRow.mapsOut == Tryz.prog.mapsAmong Tryz.f3.resultTypes.toList)) = true := by kernel_rfl
theorem j16 : ((Rows.verdictNamesRow.loops == (Tryz.f3.params.toList ++ Rows.verdictNamesSpec.plain.varTypes Tryz.prog).any (Tryz.prog.loopsFrom ·))) = true := by kernel_rfl
theorem j17 : ((Rows.verdictNamesRow.wideKeys == (Tryz.f3.params.toList ++ Rows.verdictNamesSpec.plain.varTypes Tryz.prog ++ Tryz.f3.resultTypes.toList).any (Tryz.prog.wideKeysFrom ·))) = true := by kernel_rfl
theorem j18 : (Rows.verdictNamesSpec.vars.all (Tryz.prog.varReadable ·)) = true := by kernel_rfl
theorem j19 : (Tryz.f3.resultTypes.all (fun t => Tryz.prog.readableRec t && decide (t < Tryz.prog.types.size))) = true := by kernel_rfl
theorem j20 : ((Rows.verdictNamesRow.ifacesOut == Tryz.f3.resultTypes.toList.any (Tryz.prog.ifacesRec ·))) = true := by kernel_rfl
theorem j21 : ((Rows.verdictNamesRow.loopsOut == Tryz.f3.resultTypes.toList.any (Tryz.prog.loopsFrom ·))) = true := by kernel_rfl
theorem j22 : ((Rows.verdictNamesRow.plainKeys == Tryz.prog.plainKeys)) = true := by kernel_rfl
theorem j23 : (Rows.verdictNamesRow.shortTexts.isNone) = true := by kernel_rfl
theorem j24 : (Tryz.prog.stopsHeard) = true := by kernel_rfl
theorem j25 : (Tryz.prog.mayEnter) = true := by kernel_rfl
theorem j26 : ((Rows.verdictNamesRow.lifted == Tryz.prog.liftsFinal)) = true := by kernel_rfl
theorem j27 : ((Tryz.prog.make == some Rows.verdictNamesRow.make)) = true := by kernel_rfl
theorem j28 : ((Rows.verdictNamesRow.kinds == (if Rows.verdictNamesRow.domain.isEmpty then [] else Tryz.f3.params.toList.map fun t => match Tryz.prog.underlying t with | some (.int k) => some k | _ => none))) = true := by kernel_rfl
theorem j29 : ((Rows.verdictNamesRow.pinned == Rows.verdictNamesRow.pinnedBy)) = true := by kernel_rfl
theorem j30 : ((Rows.verdictNamesRow.veiled == (Tryz.f3.params.toList ++ Rows.verdictNamesSpec.plain.varTypes Tryz.prog ++ Tryz.f3.resultTypes.toList).any (Tryz.prog.veiledRec ·))) = true := by kernel_rfl
theorem j31 : (Rows.verdictNamesRow.veiledFits Tryz.prog Tryz.f3.params.toList (Tryz.f3.params.toList ++ Rows.verdictNamesSpec.plain.varTypes Tryz.prog ++ Tryz.f3.resultTypes.toList)) = true := by kernel_rfl
theorem joined : joinedFacts Tryz.prog 3 Tryz.f3 Rows.verdictNamesSpec Rows.verdictNamesRow = true := by
  unfold joinedFacts
  exact (andB (andB (andB (andB (andB (andB (andB (andB (andB (andB (andB (andB (andB (andB (andB (andB (andB (andB (andB (andB (andB (andB (andB (andB (andB (andB (andB (andB (andB (andB (andB j0 j1) j2) j3) j4) j5) j6) j7) j8) j9) j10) j11) j12) j13) j14) j15) j16) j17) j18) j19) j20) j21) j22) j23) j24) j25) j26) j27) j28) j29) j30) j31)
theorem proved : Rows.VerdictNamesSaid :=
  OpenClaim.holds_of_wide 3 Tryz.f3 rfl rfl rfl rfl rfl rfl rfl ⟨rfl, rfl, rfl, rfl, rfl⟩ rfl rfl rfl rfl rfl (by kernel_rfl) Tryz.func3 joined
    (of_decide_eq_true (by kernel_rfl)) (by unfold Func.isWrapper; first | (rw [if_pos (by decide +kernel)]; kernel_rfl) | (rw [if_neg (by decide +kernel)]; exact ⟨rfl, rfl⟩))
    (fun os started H enc _ => lifted os started H enc)
#print axioms proved
end Go.Proofs.YtndbdehpkiimjaaGreat.verdictNames
