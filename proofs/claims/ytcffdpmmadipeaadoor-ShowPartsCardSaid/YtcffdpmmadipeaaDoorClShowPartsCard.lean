/- Proved: the card of the law ShowParts: for every input it returns true, and its arguments read as they did; what its row lists is tied to the program's text. -/
import Derived.Test.YtcffdpmmadipeaaDoorMXC
import Derived.Test.YtcffdpmmadipeaaDoorMXA
import Derived.Test.YtcffdpmmadipeaaDoorMX9
import Derived.Test.YtcffdpmmadipeaaDoorCards
import Derived.Test.YtcffdpmmadipeaaDoorTie
import Derived.ProofKit
import Derived.LaidMore
import Derived.Stop.Joined
import Derived.SevenTiedAt

/- The laws ShowBack, ShowParts. -/
namespace Go.Proofs.YtcffdpmmadipeaaDoor
open Go.HL
set_option maxRecDepth 10000
set_option linter.unusedSimpArgs false
set_option linter.unusedVariables false

theorem parse_long {s : Str} (h : 4000 < s.length) : parseM 1 s = some ([], ⟨12, 0⟩) := by
  unfold parseM tokensM
  rw [if_pos h]
  rfl
theorem lay_few : ∀ (f : Fo) (a : Nat), f.ok = true → f.bare = true → ∀ x ∈ f.lay a, x.words.length ≤ 10 ∧ x.nums.length ≤ 10 ∧ x.kids.length ≤ f.cnt ∧ ∀ w ∈ x.words, w.length ≤ 12
  | .nil, _, _, _, x, hx => by simp [Fo.lay] at hx
  | .cons n k r, a, ho, hb, x, hx => by
    simp only [Fo.ok, Bool.and_eq_true] at ho
    simp only [Fo.bare, Bool.and_eq_true, decide_eq_true_eq] at hb
    simp only [Fo.lay, List.mem_cons, List.mem_append] at hx
    simp only [Fo.cnt]
    rcases hx with rfl | hx | hx
    · have h1 := okN_wl ho.1
      have h2 := okN_ul ho.1
      have h3 : wcount n.kind ≤ 10 := by unfold wcount; (repeat' split) <;> omega
      have h4 : (bnds n.kind).length ≤ 10 := by unfold bnds; (repeat' split) <;> simp
      have h5 := Fo.len_cnt k
      refine ⟨by show n.words.length ≤ 10; omega, by show n.nums.length ≤ 10; omega, ?_, okN_words ho.1⟩
      simp only [hb.1, List.nil_append, Fo.roots_len]
      omega
    · obtain ⟨a1, a2, a3, a4⟩ := lay_few k _ ho.2.1 hb.2.1 x hx
      exact ⟨a1, a2, by omega, a4⟩
    · obtain ⟨a1, a2, a3, a4⟩ := lay_few r _ ho.2.2 hb.2.2 x hx
      exact ⟨a1, a2, by omega, a4⟩
theorem RT.sz {n : Nd} {k : Fo} (h : RT n k) : Sz (layT n k) := by
  have hc := h.cnt
  have key : ∀ (i : Nat) x, (layT n k)[i]? = some x → x.words.length ≤ 10 ∧ x.nums.length ≤ 10 ∧ x.kids.length ≤ 800 ∧ ∀ w ∈ x.words, w.length ≤ 12 := by
    intro i x hx
    have := lay_few (.cons n k .nil) 0 h.ok h.bare x (List.mem_of_getElem? hx)
    simp only [Fo.cnt] at this
    exact ⟨this.1, this.2.1, by omega, this.2.2.2⟩
  exact ⟨by rw [layT_len]; omega, fun i x hx => by have := key i x hx; omega, fun i x hx => by have := key i x hx; omega, fun i x hx => by have := key i x hx; omega, fun i x hx w hw => by have := (key i x hx).2.2.2 w hw; omega⟩
section
variable {H : Heap} {S S' : Nat → Prop} {v v' : Value} {l l' : List Nd}
theorem flt_same {xo yo : Operand} {a b : Int} : binV Tryd.prog (full H) .eql 28 xo yo (.agg #[iv a, iv b]) (.agg #[iv 0, iv 0]) = some (.bool (decide (a = 0) && decide (b = 0))) := by
  have := (bin_struct (P := Tryd.prog) (H := H) (t := 28) (xs := [iv a, iv b]) (ys := [iv 0, iv 0]) (xo := xo) (yo := yo) rfl (by decide +kernel) (by decide +kernel) (eqF_int (by decide) rfl rfl rfl (eqF_int (by decide) rfl rfl rfl eqF_nil))).1
  simpa [Bool.decide_and] using this
theorem showBack_spec (h : NL H S v l) (hz : Sz l) (gt : GT H) : CallF Tryd.prog 3 [v] H (fun r H' => r = .bool true ∧ Fr [] H H') NoP := by
  refine callF_of Tryd.func3 rfl Tryd.ntmps3 Tryd.results3 (by decide) rfl ?_
  simp (disch := omega) only [go_sem, ↓cB, dB]
  refine call_to (w10awake_spec gt) ?_
  intro v H1 hv
  refine Hush.out ?_
  obtain ⟨rfl, f1⟩ := hv
  refine ⟨?_⟩
  simp (disch := omega) only [go_sem, ↓cB, dB]
  refine call_to (r9Small_spec (h.grow f1) hz) ?_
  intro v H2 hv
  refine Hush.out ?_
  obtain ⟨rfl, rfl⟩ := hv
  refine ⟨?_⟩
  have wake : ∀ {H' : Heap}, Fr [] H H' → CallF Tryd.prog 7 [] H' (fun r H'' => r = .bool true ∧ Fr [] H' H'') NoP := fun f => w10awake_spec (gt.grow f)
  cases hsm : smallM l with
  | false =>
    simp (disch := omega) only [go_sem, ↓cB, dB, hsm]
    refine call_to (wake f1) ?_
    intro v H3 hv
    refine Hush.out ?_
    obtain ⟨rfl, f3⟩ := hv
    refine ⟨?_⟩
    simp (disch := omega) only [go_sem, ↓cB, dB]
    exact fin ⟨rfl, f1.trans f3⟩
  | true =>
    simp (disch := omega) only [go_sem, ↓cB, dB, hsm]
    refine call_to (r9Right_spec (h.grow f1) hz) ?_
    intro v H3 hv
    refine Hush.out ?_
    obtain ⟨f3, rfl⟩ := hv
    refine ⟨?_⟩
    rw [← right_eq]
    cases hr : prRightM l with
    | false =>
      simp (disch := omega) only [go_sem, ↓cB, dB, hr]
      refine call_to (wake (f1.trans f3)) ?_
      intro v H4 hv
      refine Hush.out ?_
      obtain ⟨rfl, f4⟩ := hv
      refine ⟨?_⟩
      simp (disch := omega) only [go_sem, ↓cB, dB]
      exact fin ⟨rfl, (f1.trans f3).trans f4⟩
    | true =>
      obtain ⟨n, k, hrt, rfl⟩ := right_rt hr
      simp (disch := omega) only [go_sem, ↓cB, dB, hr]
      refine call_to (wShow_spec (h.grow (f1.trans f3)) hz (gt.grow (f1.trans f3))) ?_
      intro v H4 hv
      refine Hush.out ?_
      obtain ⟨f4, rfl⟩ := hv
      refine ⟨?_⟩
      rw [showM_lay hrt]
      have hlen := showT_len hrt
      simp (disch := omega) only [go_sem, ↓cB, dB]
      by_cases h4 : (showT k).length ≤ 4000
      · obtain ⟨j, k', p, e1, rt', ep, est⟩ := show_back hrt h4
        refine call_to (parse_spec ep) ?_
        intro v H5 hv
        refine Hush.out ?_
        obtain ⟨v1, rfl, f5, nl5⟩ := hv
        refine ⟨?_⟩
        have h4' : ¬ ((4000 : Int) < (showT k).length) := by omega
        simp (disch := omega) only [go_sem, ↓cB, dB, fltV, h4', decide_false, flt_same, decide_true, Bool.and_self]
        refine call_to (r9Like_spec (h.grow ((((f1.trans f3).trans f4).trans f5).trans Fr.push)) (nl5.grow Fr.push) est.symm hz) ?_
        intro v H6 hv
        refine Hush.out ?_
        obtain ⟨f6, rfl⟩ := hv
        refine ⟨?_⟩
        simp (disch := omega) only [go_sem, ↓cB, dB]
        exact fin ⟨rfl, (((((f1.trans f3).trans f4).trans f5).trans Fr.push).trans f6)⟩
      · refine call_to (parse_spec (parse_long (by omega))) ?_
        intro v H5 hv
        refine Hush.out ?_
        obtain ⟨v1, rfl, f5, nl5⟩ := hv
        refine ⟨?_⟩
        have h4' : (4000 : Int) < (showT k).length := by omega
        simp (disch := omega) only [go_sem, ↓cB, dB, fltV, h4', decide_true]
        exact fin ⟨rfl, (((f1.trans f3).trans f4).trans f5).trans Fr.push⟩
set_option maxHeartbeats 1000000 in
theorem showParts_spec (h : NL H S v l) (h' : NL H S' v' l') (hz : Sz l) (hz' : Sz l') (gt : GT H) : CallF Tryd.prog 5 [v, v'] H (fun r H' => r = .bool true ∧ Fr [] H H') NoP := by
  have wake : ∀ {H' : Heap}, Fr [] H H' → CallF Tryd.prog 7 [] H' (fun r H'' => r = .bool true ∧ Fr [] H' H'') NoP := fun f => w10awake_spec (gt.grow f)
  obtain ⟨av, cv, rfl⟩ := h.len
  obtain ⟨av', cv', rfl⟩ := h'.len
  have hzl := hz.len
  have hzl' := hz'.len
  refine callF_of Tryd.func5 rfl Tryd.ntmps5 Tryd.results5 (by decide) rfl ?_
  simp (disch := omega) only [go_sem, ↓cB, dB]
  refine call_to (w10awake_spec gt) ?_
  intro v H1 hv
  refine Hush.out ?_
  obtain ⟨rfl, f1⟩ := hv
  refine ⟨?_⟩
  simp (disch := omega) only [go_sem, ↓cB, dB]
  refine call_to (r9Small_spec (h.grow f1) hz) ?_
  intro v H2 hv
  refine Hush.out ?_
  obtain ⟨rfl, rfl⟩ := hv
  refine ⟨?_⟩
  cases hsm : smallM l with
  | false =>
    simp (disch := omega) only [go_sem, ↓cB, dB, hsm]
    refine call_to (wake f1) ?_
    intro v H3 hv
    refine Hush.out ?_
    obtain ⟨rfl, f3⟩ := hv
    refine ⟨?_⟩
    simp (disch := omega) only [go_sem, ↓cB, dB]
    exact fin ⟨rfl, f1.trans f3⟩
  | true =>
  simp (disch := omega) only [go_sem, ↓cB, dB, hsm]
  refine call_to (r9Small_spec (h'.grow f1) hz') ?_
  intro v H2 hv
  refine Hush.out ?_
  obtain ⟨rfl, rfl⟩ := hv
  refine ⟨?_⟩
  cases hsm' : smallM l' with
  | false =>
    simp (disch := omega) only [go_sem, ↓cB, dB, hsm']
    refine call_to (wake f1) ?_
    intro v H3 hv
    refine Hush.out ?_
    obtain ⟨rfl, f3⟩ := hv
    refine ⟨?_⟩
    simp (disch := omega) only [go_sem, ↓cB, dB]
    exact fin ⟨rfl, f1.trans f3⟩
  | true =>
  simp (disch := omega) only [go_sem, ↓cB, dB, hsm']
  refine call_to (r9Right_spec (h.grow f1) hz) ?_
  intro v H3 hv
  refine Hush.out ?_
  obtain ⟨f3, rfl⟩ := hv
  refine ⟨?_⟩
  rw [← right_eq]
  cases hr : prRightM l with
  | false =>
    simp (disch := omega) only [go_sem, ↓cB, dB, hr]
    refine call_to (wake (f1.trans f3)) ?_
    intro v H4 hv
    refine Hush.out ?_
    obtain ⟨rfl, f4⟩ := hv
    refine ⟨?_⟩
    simp (disch := omega) only [go_sem, ↓cB, dB]
    exact fin ⟨rfl, (f1.trans f3).trans f4⟩
  | true =>
  simp (disch := omega) only [go_sem, ↓cB, dB, hr]
  have f03 := f1.trans f3
  refine call_to (r9Right_spec (h'.grow f03) hz') ?_
  intro v H4 hv
  refine Hush.out ?_
  obtain ⟨f4, rfl⟩ := hv
  refine ⟨?_⟩
  have f04 := f03.trans f4
  rw [← right_eq]
  cases hr' : prRightM l' with
  | false =>
    simp (disch := omega) only [go_sem, ↓cB, dB, hr']
    refine call_to (wake f04) ?_
    intro v H5 hv
    refine Hush.out ?_
    obtain ⟨rfl, f5⟩ := hv
    refine ⟨?_⟩
    simp (disch := omega) only [go_sem, ↓cB, dB]
    exact fin ⟨rfl, f04.trans f5⟩
  | true =>
  obtain ⟨n, k, hrt, rfl⟩ := right_rt hr
  obtain ⟨n', k', hrt', rfl⟩ := right_rt hr'
  have hc := hrt.cnt
  have hc' := hrt'.cnt
  have e7 := layT_len (n := n) (k := k)
  have e7' := layT_len (n := n') (k := k')
  by_cases h7 : (700 : Int) < ((layT n k).length : Int) + ((layT n' k').length : Int)
  · simp (disch := omega) only [go_sem, ↓cB, dB, hr', h7, decide_true]
    refine call_to (wake f04) ?_
    intro v H5 hv
    refine Hush.out ?_
    obtain ⟨rfl, f5⟩ := hv
    refine ⟨?_⟩
    simp (disch := omega) only [go_sem, ↓cB, dB]
    exact fin ⟨rfl, f04.trans f5⟩
  simp (disch := omega) only [go_sem, ↓cB, dB, hr', h7, decide_false]
  have hla := showT_len hrt
  have hlb := showT_len hrt'
  refine call_to (wShow_spec (h.grow f04) hz (gt.grow f04)) ?_
  intro v H5 hv
  refine Hush.out ?_
  obtain ⟨f5, rfl⟩ := hv
  refine ⟨?_⟩
  have f05 := f04.trans f5
  rw [showM_lay hrt]
  simp (disch := omega) only [go_sem, ↓cB, dB]
  refine call_to (wShow_spec (h'.grow f05) hz' (gt.grow f05)) ?_
  intro v H6 hv
  refine Hush.out ?_
  obtain ⟨f6, rfl⟩ := hv
  refine ⟨?_⟩
  have f06 := f05.trans f6
  rw [showM_lay hrt']
  simp (disch := omega) only [go_sem, ↓cB, dB, List.length_append]
  by_cases h4 : (showT k ++ showT k').length ≤ 4000
  · obtain ⟨j, m, p, e1, rt', ep⟩ := show_two hrt hrt' (by omega) h4
    refine call_to (parse_spec ep) ?_
    intro v H7 hv
    refine Hush.out ?_
    obtain ⟨v1, rfl, f7, nl7⟩ := hv
    refine ⟨?_⟩
    have f07 := (f06.trans f7).trans (Fr.push (o := .cells #[iv 0, iv 0] 28))
    simp (disch := omega) only [go_sem, ↓cB, dB, fltV]
    refine call_to (wShow_spec (nl7.grow Fr.push) rt'.sz (gt.grow f07)) ?_
    intro v H8 hv
    refine Hush.out ?_
    obtain ⟨f8, rfl⟩ := hv
    refine ⟨?_⟩
    have f08 := f07.trans f8
    rw [showM_lay rt', show_app e1]
    simp (disch := omega) only [go_sem, ↓cB, dB]
    refine call_to (wShow_spec (h.grow f08) hz (gt.grow f08)) ?_
    intro v H9 hv
    refine Hush.out ?_
    obtain ⟨f9, rfl⟩ := hv
    refine ⟨?_⟩
    have f09 := f08.trans f9
    rw [showM_lay hrt]
    simp (disch := omega) only [go_sem, ↓cB, dB]
    refine call_to (wShow_spec (h'.grow f09) hz' (gt.grow f09)) ?_
    intro v H10 hv
    refine Hush.out ?_
    obtain ⟨f10, rfl⟩ := hv
    refine ⟨?_⟩
    rw [showM_lay hrt']
    simp (disch := omega) only [go_sem, ↓cB, dB, List.length_append, decide_true]
    exact fin ⟨rfl, f09.trans f10⟩
  · refine call_to (parse_spec (parse_long (by omega))) ?_
    intro v H7 hv
    refine Hush.out ?_
    obtain ⟨v1, rfl, f7, nl7⟩ := hv
    refine ⟨?_⟩
    simp (disch := omega) only [go_sem, ↓cB, dB, fltV]
    exact fin ⟨rfl, (f06.trans f7).trans Fr.push⟩
end
end Go.Proofs.YtcffdpmmadipeaaDoor


/- Proved: the card of the law ShowParts: for every input it returns true, and its arguments read as they did; what its row lists is tied to the program's text. -/
namespace Go.Proofs.YtcffdpmmadipeaaDoor.showParts
open Go Go.ChangeShapes Go.WideShapes Go.ChangeAt Go.RowKit Go.HL
set_option linter.unusedVariables false

theorem own : ownKnob Tryd.prog.godebug = none := by kernel_rfl
theorem laidOut : laidOutB Tryd.prog = true := by kernel_rfl

set_option maxRecDepth 100000 in
theorem lifted (os : Os) (started : os.Started) (H : Type) (enc : TypeId × Value → H) :
    ReturnsInHanded {} Tryd.checked os 5 .any (fun w args => (Rows.showPartsSpec.pre enc Tryd.prog Tryd.f5 [] false w args ∧ laidMetH Tryd.prog Rows.showPartsRow.laid w) ∧ sizedMet enc Tryd.prog Tryd.f5 (OpenSpec.ofChange Rows.showPartsSpec) false w args)
      (Rows.showPartsSpec.post enc Tryd.prog Tryd.f5 false true false false) := by
  refine returnsInHanded_of_change_and (C := Tryd.checked) (X := fun w _ => laidMetH Tryd.prog Rows.showPartsRow.laid w) (fun _ _ _ hh h => h.of_heap hh) own started (by kernel_rfl) Tryd.func5
    (ChangeSpec.witness_shaped (enc := enc) (C := Tryd.checked) (os := os) (X := fun w _ => laidMetH Tryd.prog Rows.showPartsRow.laid w) false (World.doorLaid Tryd.prog 400 os) #[.slice none 0 0, .slice none 0 0] 8 rfl (World.shaped_of_RefB (by kernel_rfl) (by kernel_rfl)) (by kernel_rfl) (by kernel_rfl) (by kernel_rfl) (door_met os _)) ?_
  intro W base args ds gs before hval0 hW _ _ hL _
  have hval : ∀ (j : Nat) t v, Tryd.f5.params[j]? = some t → args[j]? = some v → Value.okWide Tryd.prog W .any base t v := hval0
  have hW' := hW
  obtain ⟨p, q, hA0, hV, rfl, hfz, hnd⟩ := hW
  have hA : DataW.TrodAll enc Tryd.prog W 0 (fun _ => true) true Tryd.f5.params.toList args.toList ds p := hA0
  rw [Tryd.params5] at hA hval
  obtain ⟨v0, v1, d0, d1, p0, p1, rfl, rfl, rfl, t0, t1⟩ := trodAll_two hA
  obtain ⟨rfl, rfl⟩ := trodVars_none hV
  have gt := gt_of hL
  obtain ⟨l0, h0, z0⟩ := arg_nodes (hval 0 22 v0 rfl rfl) t0
  obtain ⟨l1, h1, z1⟩ := arg_nodes (hval 1 22 v1 rfl rfl) t1
  have hcall := hcalls_of_callF Tryd.func5 rfl (by decide) ((showParts_spec h0 h1 z0 z1 gt))
  refine (calls_of_hcalls hcall (R := fun W' => Below W.heap.size W W') (fun W' hb => hb)).mono ?_
  rintro e W' ⟨v, rfl, rfl, hb⟩
  exact ⟨_, rfl, law_post laidOut (by rw [Tryd.params5]; intro t ht; simp at ht; rcases ht with rfl | rfl <;> exact ⟨by kernel_rfl, of_decide_eq_true (by kernel_rfl)⟩) (tb := 4) (by kernel_rfl) Tryd.underlying4 rfl rfl rfl rfl hW' hb⟩

theorem said : Rows.ShowPartsSaid :=
  OpenClaim.holds_of_wide 5 Tryd.f5 rfl rfl rfl rfl rfl rfl rfl ⟨rfl, rfl, rfl, rfl, rfl⟩ rfl rfl rfl rfl rfl (by kernel_rfl) Tryd.func5 (by kernel_rfl)
    (of_decide_eq_true (by kernel_rfl)) (by unfold Func.isWrapper; first | (rw [if_pos (by decide +kernel)]; kernel_rfl) | (rw [if_neg (by decide +kernel)]; exact ⟨rfl, rfl⟩))
    (fun os started H enc _ => lifted os started H enc)
theorem proved : Rows.ShowPartsCardSaid :=
  Claim7.holds_tied_plain_at .later [] [.data, .data, .data, .data, .data] true (true, "d9db36a1a2fb3f620f4bbc409713c8e5579d8ff23c35a53dd233920b41e45cce") false
    said (fun _ h => by cases h) (by kernel_rfl) (fun _ h => by cases h) showParts_row_tie rfl ⟨rfl, rfl⟩ (by kernel_rfl) rfl
    (fun f fn hf hfn => by
      obtain rfl : f = 5 := Option.some.inj ((show Tryd.prog.funcNamed "weirgate/weirgatelaw10.ShowParts" = some 5 by kernel_rfl).symm.trans hf) |>.symm
      obtain rfl : fn = Tryd.f5 := (Option.some.inj (Tryd.func5.symm.trans hfn)).symm
      exact ⟨by kernel_rfl, fun j t ht => by
        have hm : t ∈ Tryd.f5.params.toList := by simpa using Array.mem_of_getElem? ht
        have hall : (Tryd.f5.params.toList.all fun u => !Tryd.prog.wantsStandIn u) = true := by kernel_rfl
        exact (show Tryd.prog.wantsStandIn t = false by simpa using List.all_eq_true.1 hall t hm)⟩)
    (by kernel_rfl)
#print axioms proved
end Go.Proofs.YtcffdpmmadipeaaDoor.showParts
