/- Proved: for every input the law BmcShown returns true, and its arguments read as they did. No condition. -/
import Derived.Test.YtkdlmdmlomgdiaaGreatL15
set_option linter.unusedSimpArgs false
set_option linter.unusedVariables false
set_option maxRecDepth 10000
set_option maxHeartbeats 8000000
noncomputable section
namespace Go.Proofs.YtkdlmdmlomgdiaaGreat.bmcShown
open Go.ChangeShapes Go.WideShapes Go.ChangeAt Go.RowKit Go.HL
theorem own:ownKnob Tryz.prog.godebug=none:=by kernel_rfl
theorem TY:laidOutB Tryz.prog=true:=by kernel_rfl
set_option maxRecDepth 100000 in
theorem lifted (os:Os) (started:os.Started) (H:Type) (enc:TypeId × Value->H) :
  ReturnsInHanded {} Tryz.checked os 3 .any (Rows.bmcShownSpec.pre6 enc Tryz.prog Tryz.f3 Rows.bmcShownRow.domain false) (Rows.bmcShownSpec.post enc Tryz.prog Tryz.f3 false true false false):=by
 refine returnsInHanded_of_change (C:=Tryz.checked) own started (by kernel_rfl) Tryz.func3
  (ChangeSpec.witness6 (enc:=enc) (C:=Tryz.checked) false ⟨#[],#[.slice none 0 0,.slice none 0 0],[]⟩ 8 (by kernel_rfl) (by kernel_rfl) (by kernel_rfl) (by kernel_rfl)) ?_
 intro W base args ds gs before hval0 hW _ _
 have hval:∀ (j:Nat) t v,Tryz.f3.params[j]?=some t->args[j]?=some v->Value.okWide Tryz.prog W .any base t v:=hval0
 have hW':=hW
 obtain ⟨p,q,hA0,hV,rfl,hfz,hnd⟩:=hW
 have hA:DataW.TrodAll enc Tryz.prog W 0 (fun _=>true) true Tryz.f3.params.toList args.toList ds p:=hA0
 rw [Tryz.params3] at hA hval
 obtain ⟨v0,v1,d0,d1,p0,p1,rfl,rfl,rfl,t0,t1⟩:=trodAll_two hA
 obtain ⟨rfl,rfl⟩:=trodVars_none hV
 obtain ⟨a0,css0,cap0,rfl,h0,hl0,hc0,hr0⟩:=UB (hval 0 22 v0 rfl rfl) t0
 obtain ⟨a1,xs1,cap1,rfl,h1,hl1,hc1,hN1⟩:=Su (hval 1 23 v1 rfl rfl) t1
 have hcall:=Iq Tryz.func3 rfl (by decide) (OB Go.Run.j5z (mc:=cap1) h0 h1 hN1 hc0 hl0 hr0 hl1)
 refine (Ir hcall (R:=fun W'=>Below W.heap.size W W') (fun W' hb=>hb)).mono ?_
 rintro e W' ⟨v,rfl,rfl,hb⟩
 exact ⟨_,rfl,RZ TY (by rw [Tryz.params3]; intro t ht; simp at ht; rcases ht with rfl | rfl <;> exact ⟨by kernel_rfl,Xn (by kernel_rfl)⟩) (tb:=4) (by kernel_rfl) Tryz.underlying4 rfl rfl rfl rfl hW' hb⟩
set_option maxRecDepth 100000
theorem andB {a b:Bool} (h:a=true) (h2:b=true):(a && b)=true:=by rw [h,h2]; rfl
theorem j0:(Rows.bmcShownRow.wf (OpenSpec.ofChange Rows.bmcShownSpec))=true:=by kernel_rfl
theorem j1:(laidOutB Tryz.prog)=true:=by kernel_rfl
theorem j2:(mapsRowed Tryz.prog)=true:=by kernel_rfl
theorem j3:(Tryz.f3.params.all (Tryz.prog.readableRec ·))=true:=by kernel_rfl
theorem j4:(namedTie Tryz.prog Rows.bmcShownRow.named Rows.bmcShownSpec.vars)=true:=by kernel_rfl
theorem j5:((Rows.bmcShownRow.stops == []))=true:=by kernel_rfl
theorem j6:((Tryz.prog.stops == []))=true:=by kernel_rfl
theorem j7:((Rows.bmcShownRow.knobs == []))=true:=by kernel_rfl
theorem j8:((Tryz.prog.stopKnobs == []))=true:=by kernel_rfl
theorem j9:((Rows.bmcShownRow.inPlace == Tryz.prog.inPlace 3))=true:=by kernel_rfl
theorem j10:((Rows.bmcShownRow.unfollowed == Tryz.prog.unfollowed 3))=true:=by kernel_rfl
theorem j11:((Rows.bmcShownRow.recurses == Tryz.prog.recurses 3))=true:=by kernel_rfl
theorem j12:((Rows.bmcShownRow.named == Tryz.prog.varsNamed 3))=true:=by kernel_rfl
theorem j13:((Rows.bmcShownRow.maps == (Tryz.f3.params.toList ++ Rows.bmcShownSpec.plain.varTypes Tryz.prog).any (Tryz.prog.mapsRec ·)))=true:=by kernel_rfl
theorem j14:((Rows.bmcShownRow.ifaces == (Tryz.f3.params.toList ++ Rows.bmcShownSpec.plain.varTypes Tryz.prog).any (Tryz.prog.ifacesRec ·)))=true:=by kernel_rfl
theorem j15:((Rows.bmcShownRow.mapsOut == Tryz.prog.mapsAmong Tryz.f3.resultTypes.toList))=true:=by kernel_rfl
theorem j16:((Rows.bmcShownRow.loops == (Tryz.f3.params.toList ++ Rows.bmcShownSpec.plain.varTypes Tryz.prog).any (Tryz.prog.loopsFrom ·)))=true:=by kernel_rfl
theorem j17:((Rows.bmcShownRow.wideKeys == (Tryz.f3.params.toList ++ Rows.bmcShownSpec.plain.varTypes Tryz.prog ++ Tryz.f3.resultTypes.toList).any (Tryz.prog.wideKeysFrom ·)))=true:=by kernel_rfl
theorem j18:(Rows.bmcShownSpec.vars.all (Tryz.prog.varReadable ·))=true:=by kernel_rfl
theorem j19:(Tryz.f3.resultTypes.all (fun t=>Tryz.prog.readableRec t && decide (t < Tryz.prog.types.size)))=true:=by kernel_rfl
theorem j20:((Rows.bmcShownRow.ifacesOut == Tryz.f3.resultTypes.toList.any (Tryz.prog.ifacesRec ·)))=true:=by kernel_rfl
theorem j21:((Rows.bmcShownRow.loopsOut == Tryz.f3.resultTypes.toList.any (Tryz.prog.loopsFrom ·)))=true:=by kernel_rfl
theorem j22:((Rows.bmcShownRow.plainKeys == Tryz.prog.plainKeys))=true:=by kernel_rfl
theorem j23:(Rows.bmcShownRow.shortTexts.isNone)=true:=by kernel_rfl
theorem j24:(Tryz.prog.stopsHeard)=true:=by kernel_rfl
theorem j25:(Tryz.prog.mayEnter)=true:=by kernel_rfl
theorem j26:((Rows.bmcShownRow.lifted == Tryz.prog.liftsFinal))=true:=by kernel_rfl
theorem j27:((Tryz.prog.make == some Rows.bmcShownRow.make))=true:=by kernel_rfl
theorem j28:((Rows.bmcShownRow.kinds == (if Rows.bmcShownRow.domain.isEmpty then [] else Tryz.f3.params.toList.map fun t=>match Tryz.prog.underlying t with | some (.int k)=>some k | _=>none)))=true:=by kernel_rfl
theorem j29:((Rows.bmcShownRow.pinned == Rows.bmcShownRow.pinnedBy))=true:=by kernel_rfl
theorem j30:((Rows.bmcShownRow.veiled == (Tryz.f3.params.toList ++ Rows.bmcShownSpec.plain.varTypes Tryz.prog ++ Tryz.f3.resultTypes.toList).any (Tryz.prog.veiledRec ·)))=true:=by kernel_rfl
theorem j31:(Rows.bmcShownRow.veiledFits Tryz.prog Tryz.f3.params.toList (Tryz.f3.params.toList ++ Rows.bmcShownSpec.plain.varTypes Tryz.prog ++ Tryz.f3.resultTypes.toList))=true:=by kernel_rfl
theorem XF:joinedFacts Tryz.prog 3 Tryz.f3 Rows.bmcShownSpec Rows.bmcShownRow=true:=by
 unfold joinedFacts;exact (andB (andB (andB (andB (andB (andB (andB (andB (andB (andB (andB (andB (andB (andB (andB (andB (andB (andB (andB (andB (andB (andB (andB (andB (andB (andB (andB (andB (andB (andB (andB j0 j1) j2) j3) j4) j5) j6) j7) j8) j9) j10) j11) j12) j13) j14) j15) j16) j17) j18) j19) j20) j21) j22) j23) j24) j25) j26) j27) j28) j29) j30) j31)
theorem proved:Rows.BmcShownSaid :=
 OpenClaim.holds_of_wide 3 Tryz.f3 rfl rfl rfl rfl rfl rfl rfl ⟨rfl,rfl,rfl,rfl,rfl⟩ rfl rfl rfl rfl rfl (by kernel_rfl) Tryz.func3 XF
  (Xn (by kernel_rfl)) (by unfold Func.isWrapper; first | (rw [J8 (by decide +kernel)]; kernel_rfl) | (rw [J4 (by decide +kernel)]; exact ⟨rfl,rfl⟩))
  (fun os started H enc _=>lifted os started H enc)
#print axioms proved
end Go.Proofs.YtkdlmdmlomgdiaaGreat.bmcShown
