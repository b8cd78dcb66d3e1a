/- Proved: for every input the law AutoMakes returns true, and its arguments read as they did. No condition. -/
import Derived.Test.YtmihefbdghjeoaaGreatMXI
import Derived.Test.YtmihefbdghjeoaaGreatMXF
import Derived.Test.YtmihefbdghjeoaaGreatMX9
import Derived.Test.YtmihefbdghjeoaaGreatMX3

/- The law AutoMakes, over heaps. -/
namespace Go.Proofs.YtmihefbdghjeoaaGreat
open Go.HL
set_option maxRecDepth 10000
set_option linter.unusedSimpArgs false
set_option linter.unusedVariables false

/-- The names of the processes are few. -/
def NmFew (m : Mo) : Prop := ∀ p ∈ m.procs, p.names.length ≤ 2000 ∧ p.vars.length ≤ 2000
section
variable {l : List Nd} {m : Mo} {item before : Nat} {number : Int}
theorem nm_prc (hb : before ≤ 800) (h8 : (nodeAt l item).kids.length ≤ 800) (hq : NmFew m) : NmFew (prcM l m item number before) := by
  intro p hp
  unfold prcM at hp
  simp only [List.mem_append, List.mem_singleton] at hp
  rcases hp with hp | rfl
  · exact hq p hp
  · obtain ⟨-, -, h3, -, h5⟩ := locM_eq (l := l) (nodeAt l item).kids (lo0 m before)
    have hg := gloM_len (V := m.vars) before
    have hx := h5 (by simp only [lo0]; rw [hg.1, hg.2])
    have htw : ((nodeAt l item).kids.takeWhile (isVar l)).length ≤ (nodeAt l item).kids.length := (List.takeWhile_prefix _).length_le
    have hn : (locM l (nodeAt l item).kids (lo0 m before)).2.N.length ≤ 2000 := by
      rw [h3, List.length_append, List.length_map]; simp only [lo0]; rw [hg.1]; omega
    exact ⟨hn, by simp only; omega⟩
theorem nm_prcs (hb : before ≤ 800) (h8 : (nodeAt l item).kids.length ≤ 800) (hq : NmFew m) : ∀ c, NmFew (prcsM l item before c m)
  | 0 => hq
  | c + 1 => nm_prc hb h8 (nm_prcs hb h8 hq c)
theorem nm_items : ∀ (ks : List Int) (before : Nat) (m : Mo), before + ks.length ≤ 800 → (∀ k ∈ ks, (nodeAt l k.toNat).kids.length ≤ 800) → NmFew m → NmFew (itemsM l ks before m) ∧ (itemsM l ks before m).safe = m.safe ∧ (itemsM l ks before m).chans = m.chans
  | [], before, m, _, _, hq => ⟨hq, rfl, rfl⟩
  | k :: ks, before, m, hb, h8, hq => by
    simp only [List.length_cons] at hb
    have h8' := h8 k (by simp)
    have h8s : ∀ k ∈ ks, (nodeAt l k.toNat).kids.length ≤ 800 := fun x hx => h8 x (by simp [hx])
    unfold itemsM
    split
    · exact nm_items ks (before + 1) m (by omega) h8s hq
    · split
      · have hk := prcs_keep (l := l) (n := k.toNat) (before := before) (m := m) (n0 (nodeAt l k.toNat)).toNat
        obtain ⟨a, b, c⟩ := nm_items ks before (prcsM l k.toNat before (n0 (nodeAt l k.toNat)).toNat m) (by omega) h8s (nm_prcs (by omega) h8' hq _)
        exact ⟨a, b.trans hk.1, c.trans hk.2⟩
      · exact nm_items ks before m (by omega) h8s hq
theorem mod_few (h0 : typM l = ⟨0, 0⟩) : NmFew (modM l) ∧ (modM l).safe.length ≤ 800 ∧ (modM l).chans.length ≤ 800 := by
  obtain ⟨hr, hs, hn4⟩ := n0_le4 h0
  have h8 := top_len hr
  obtain ⟨a, b, d⟩ := dcl_facts (nodeAt l 0).kids mo0 (l := l)
  have ds := dcl_safe (l := l) (nodeAt l 0).kids mo0
  have hf := List.length_filter_le (isCh l) (nodeAt l 0).kids
  obtain ⟨u, v, w⟩ := nm_items (l := l) (nodeAt l 0).kids 0 { dclsM l (nodeAt l 0).kids with globals := (dclsM l (nodeAt l 0).kids).vars.length } (by omega) (by
    intro k hk
    obtain ⟨pre, post, e⟩ := List.append_of_mem hk
    obtain ⟨it, en, h1, h2, h3, -⟩ := item_walk hr e
    rw [h1, Int.toNat_natCast]
    exact kids_le8 hr h2 h3) (by
    intro p hp
    have hp' : p ∈ (dclsM l (nodeAt l 0).kids).procs := hp
    unfold dclsM at hp'
    rw [d] at hp'
    simp [mo0] at hp')
  refine ⟨u, ?_, ?_⟩
  · show (modM l).safe.length ≤ 800
    unfold modM
    rw [v]
    show (dclsM l (nodeAt l 0).kids).safe.length ≤ 800
    unfold dclsM
    simp only [mo0, List.length_nil] at ds ⊢
    omega
  · unfold modM
    rw [w]
    show (dclsM l (nodeAt l 0).kids).chans.length ≤ 800
    unfold dclsM
    rw [b]
    simp only [mo0, List.nil_append, List.length_map]
    omega
end
section
variable {H : Heap} {S : Nat → Prop} {v : Value} {l : List Nd}
theorem mr_zero : MR H S ⟨nilS, nilS, nilS, nilS, nilS⟩ [] mo0 [] := by
  refine ⟨?_, Rd.of_vec (e := 59) Vec.nil (by simp [Go.HL.own]), Rd.of_vec (e := 61) Vec.nil (by simp [Go.HL.own]), Rd.of_vec (e := 43) Vec.nil (by simp [Go.HL.own]), Rd.of_vec (e := 3) Vec.nil (by simp [Go.HL.own]), rfl, by simp⟩
  exact ⟨[], rfl, Rd.of_vec (e := 47) Vec.nil (by simp [Go.HL.own]), by simp⟩
set_option maxHeartbeats 8000000 in
theorem autoMakes_spec (h : NL H S v l) (hz : Sz l) : CallF Tryz.prog 3 [v] H (fun r H' => r = .bool true ∧ Fr [] H H') NoP := by
  refine callF_of Tryz.func3 rfl Tryz.ntmps3 Tryz.results3 (by decide) rfl ?_
  simp (disch := omega) only [go_sem, ↓cB, dB]
  refine call_to w13awake_spec ?_
  intro r1 H1 hv
  refine Hush.out ?_
  obtain ⟨rfl, f1⟩ := hv
  have h1 := h.grow f1
  refine ⟨?_⟩
  simp (disch := omega) only [go_sem, ↓cB, dB]
  refine call_to (r9Small_spec h1 hz) ?_
  rintro _ _ ⟨rfl, rfl⟩
  cases hs : smallM l
  · simp (disch := omega) only [go_sem, ↓cB, dB]
    refine call_to w13awake_spec ?_
    intro r2 H2 hv
    refine Hush.out ?_
    obtain ⟨rfl, f2⟩ := hv
    refine ⟨?_⟩
    simp (disch := omega) only [go_sem, ↓cB, dB]
    exact fin ⟨rfl, f1.trans f2⟩
  have hlen := small_len hs
  by_cases h0 : typM l = ⟨0, 0⟩
  rotate_left
  · simp (disch := omega) only [go_sem, ↓cB, dB]
    refine call_to (auMake_no h1 hz h0) ?_
    intro r2 H2 hv
    refine Hush.out ?_
    obtain ⟨f2, rfl⟩ := hv
    have hmc : moC ⟨nilS, nilS, nilS, nilS, nilS⟩ mo0 = [nilS, iv 0, nilS, nilS, nilS, nilS, .bool false] := rfl
    rw [hmc]
    obtain ⟨A, hA⟩ : ∃ A, A = H2.push (.cells #[nilS, iv 0, nilS, nilS, nilS, nilS, .bool false] 30) := ⟨_, rfl⟩
    have f3 : Fr [] H2 A := by rw [hA]; exact Fr.push
    have bA : Blk A H2.size 30 [nilS, iv 0, nilS, nilS, nilS, nilS, .bool false] := by rw [hA]; exact Blk.new rfl
    have ld := bA.cells0
    simp only [List.length_cons, List.length_nil] at ld
    have h3 := (h1.grow f2).grow f3
    refine ⟨?_⟩
    simp (disch := omega) only [go_sem, ↓cB, dB]
    try rw [← hA]
    refine call_to (r9Right_spec h3 hz) ?_
    intro r3 H3 hv
    refine Hush.out ?_
    obtain ⟨f4, rfl⟩ := hv
    have bB := f4.blk bA (by simp)
    have ldB := bB.cells0
    simp only [List.length_cons, List.length_nil] at ldB
    rw [← right_eq]
    have hz9 : moC ⟨nilS, nilS, nilS, nilS, nilS⟩ mo0 = [nilS, iv 0, nilS, nilS, nilS, nilS, .bool false] := rfl
    have same0 := fun {H : Heap} => r13Same_same (H := H) (l := []) (w := ⟨nilS, nilS, nilS, nilS, nilS⟩) (w' := ⟨nilS, nilS, nilS, nilS, nilS⟩) (S := fun _ => True) (S' := fun _ => True) mr_zero mr_zero (m := mo0) (by simp [mo0]) (by simp [mo0])
    rw [hz9] at same0
    cases hr : prRightM l
    · refine ⟨?_⟩
      simp (disch := omega) only [go_sem, ↓cB, dB, ldB]
      refine call_to same0 ?_
      intro r5 H5 hv
      refine Hush.out ?_
      obtain ⟨f5, rfl⟩ := hv
      refine ⟨?_⟩
      simp (disch := omega) only [go_sem, ↓cB, dB]
      exact fin ⟨rfl, (((f1.trans f2).trans f3).trans f4).trans f5⟩
    · refine ⟨?_⟩
      simp (disch := omega) only [go_sem, ↓cB, dB]
      refine call_to (r13Make_no (h3.grow f4) hz hr h0) ?_
      intro r4 H4 hv
      refine Hush.out ?_
      obtain ⟨f5, rfl⟩ := hv
      rw [hmc]
      obtain ⟨C, hC⟩ : ∃ A, A = H4.push (.cells #[nilS, iv 0, nilS, nilS, nilS, nilS, .bool false] 30) := ⟨_, rfl⟩
      have f6 : Fr [] H4 C := by rw [hC]; exact Fr.push
      have bC : Blk C H4.size 30 [nilS, iv 0, nilS, nilS, nilS, nilS, .bool false] := by rw [hC]; exact Blk.new rfl
      have ldC := bC.cells0
      simp only [List.length_cons, List.length_nil] at ldC
      have ldB6 := (f6.blk (f5.blk bB (by simp)) (by simp)).cells0
      simp only [List.length_cons, List.length_nil] at ldB6
      refine ⟨?_⟩
      simp (disch := omega) only [go_sem, ↓cB, dB]
      try rw [← hC]
      try (simp (disch := omega) only [go_sem, ↓cB, dB, ldB6, ldC])
      refine call_to same0 ?_
      intro r5 H5 hv
      refine Hush.out ?_
      obtain ⟨f7, rfl⟩ := hv
      refine ⟨?_⟩
      simp (disch := omega) only [go_sem, ↓cB, dB]
      exact fin ⟨rfl, (((((f1.trans f2).trans f3).trans f4).trans f5).trans f6).trans f7⟩
  obtain ⟨hr, hs', hn4⟩ := n0_le4 h0
  obtain ⟨hfew, hsf, hch⟩ := mod_few h0
  obtain ⟨hmod, hpl, hvl⟩ := modOk h0
  simp (disch := omega) only [go_sem, ↓cB, dB]
  refine call_to (auMake_ok h1 hz h0) ?_
  intro r2 H2 hv
  refine Hush.out ?_
  obtain ⟨f2, w, aps, rfl, mr⟩ := hv
  obtain ⟨x0, c0, x1, c1, x2, c2, x3, c3, x4, c4, e0, e1, e2, e3, e4⟩ := mr.cells
  have hac : moC w (modM l) = [.slice x0 l.length c0, iv (modM l).globals, .slice x1 (modM l).chans.length c1, .slice x2 (modM l).vars.length c2, .slice x3 (modM l).procs.length c3, .slice x4 (modM l).safe.length c4, .bool (modM l).dead] := by
    unfold moC; rw [e0, e1, e2, e3, e4]
  obtain ⟨A, hA⟩ : ∃ A, A = H2.push (.cells #[.slice x0 l.length c0, iv (modM l).globals, .slice x1 (modM l).chans.length c1, .slice x2 (modM l).vars.length c2, .slice x3 (modM l).procs.length c3, .slice x4 (modM l).safe.length c4, .bool (modM l).dead] 30) := ⟨_, rfl⟩
  have f3 : Fr [] H2 A := by rw [hA]; exact Fr.push
  have bA : Blk A H2.size 30 [.slice x0 l.length c0, iv (modM l).globals, .slice x1 (modM l).chans.length c1, .slice x2 (modM l).vars.length c2, .slice x3 (modM l).procs.length c3, .slice x4 (modM l).safe.length c4, .bool (modM l).dead] := by rw [hA]; exact Blk.new rfl
  have ld := bA.cells0
  simp only [List.length_cons, List.length_nil] at ld
  have h3 := (h1.grow f2).grow f3
  rw [hac]
  refine ⟨?_⟩
  simp (disch := omega) only [go_sem, ↓cB, dB]
  try rw [← hA]
  refine call_to (r9Right_spec h3 hz) ?_
  intro r3 H3 hv
  refine Hush.out ?_
  obtain ⟨f4, rfl⟩ := hv
  have bB := f4.blk bA (by simp)
  have ldB := bB.cells0
  simp only [List.length_cons, List.length_nil] at ldB
  rw [← right_eq, hr]
  refine ⟨?_⟩
  simp (disch := omega) only [go_sem, ↓cB, dB]
  refine call_to (r13Make_ok (h3.grow f4) hz h0) ?_
  intro r4 H4 hv
  refine Hush.out ?_
  obtain ⟨f5, w', aps', rfl, mr'⟩ := hv
  obtain ⟨y0, d0, y1, d1, y2, d2, y3, d3, y4, d4, g0, g1, g2, g3, g4⟩ := mr'.cells
  have hbc : moC w' (modM l) = [.slice y0 l.length d0, iv (modM l).globals, .slice y1 (modM l).chans.length d1, .slice y2 (modM l).vars.length d2, .slice y3 (modM l).procs.length d3, .slice y4 (modM l).safe.length d4, .bool (modM l).dead] := by
    unfold moC; rw [g0, g1, g2, g3, g4]
  obtain ⟨C, hC⟩ : ∃ A, A = H4.push (.cells #[.slice y0 l.length d0, iv (modM l).globals, .slice y1 (modM l).chans.length d1, .slice y2 (modM l).vars.length d2, .slice y3 (modM l).procs.length d3, .slice y4 (modM l).safe.length d4, .bool (modM l).dead] 30) := ⟨_, rfl⟩
  have f6 : Fr [] H4 C := by rw [hC]; exact Fr.push
  have bC : Blk C H4.size 30 [.slice y0 l.length d0, iv (modM l).globals, .slice y1 (modM l).chans.length d1, .slice y2 (modM l).vars.length d2, .slice y3 (modM l).procs.length d3, .slice y4 (modM l).safe.length d4, .bool (modM l).dead] := by rw [hC]; exact Blk.new rfl
  have ldC := bC.cells0
  simp only [List.length_cons, List.length_nil] at ldC
  have ldB6 := (f6.blk (f5.blk bB (by simp)) (by simp)).cells0
  simp only [List.length_cons, List.length_nil] at ldB6
  have f26 := ((f3.trans f4).trans f5).trans f6
  have sp := r13Same_same (H := C) (mr.frame (Keeps.of_fr f26 (by simp))) (mr'.frame (Keeps.of_fr f6 (by simp))) (by
    intro p hp
    have h1 := (hmod.pr p hp).few
    have h2 := hfew p hp
    exact ⟨by omega, by omega, by omega, by omega, by omega⟩) ⟨by omega, by omega, by omega, by omega, by omega⟩
  rw [hac, hbc] at sp
  rw [hbc]
  refine ⟨?_⟩
  simp (disch := omega) only [go_sem, ↓cB, dB]
  try rw [← hC]
  try (simp (disch := omega) only [go_sem, ↓cB, dB, ldB6, ldC])
  refine call_to sp ?_
  intro r5 H5 hv
  refine Hush.out ?_
  obtain ⟨f7, rfl⟩ := hv
  refine ⟨?_⟩
  simp (disch := omega) only [go_sem, ↓cB, dB]
  exact fin ⟨rfl, ((f1.trans f2).trans f26).trans f7⟩
end
end Go.Proofs.YtmihefbdghjeoaaGreat


/- Proved: for every input the law AutoMakes returns true, and its arguments read as they did. No condition. -/
namespace Go.Proofs.YtmihefbdghjeoaaGreat.autoMakes
open Go.ChangeShapes Go.WideShapes Go.ChangeAt Go.RowKit Go.HL
set_option linter.unusedVariables false

theorem own : ownKnob Tryz.prog.godebug = none := by kernel_rfl
theorem laidOut : laidOutB Tryz.prog = true := by kernel_rfl

set_option maxRecDepth 100000 in
theorem lifted (os : Os) (started : os.Started) (H : Type) (enc : TypeId × Value → H) :
    ReturnsInHanded {} Tryz.checked os 3 .any (Rows.autoMakesSpec.pre6 enc Tryz.prog Tryz.f3 Rows.autoMakesRow.domain false) (Rows.autoMakesSpec.post enc Tryz.prog Tryz.f3 false true false false) := by
  refine returnsInHanded_of_change (C := Tryz.checked) own started (by kernel_rfl) Tryz.func3
    (ChangeSpec.witness6 (enc := enc) (C := Tryz.checked) false ⟨#[], #[.slice none 0 0], []⟩ 8 (by kernel_rfl) (by kernel_rfl) (by kernel_rfl) (by kernel_rfl)) ?_
  intro W base args ds gs before hval0 hW _ _
  have hval : ∀ (j : Nat) t v, Tryz.f3.params[j]? = some t → args[j]? = some v → Value.okWide Tryz.prog W .any base t v := hval0
  have hW' := hW
  obtain ⟨p, q, hA0, hV, rfl, hfz, hnd⟩ := hW
  have hA : DataW.TrodAll enc Tryz.prog W 0 (fun _ => true) true Tryz.f3.params.toList args.toList ds p := hA0
  rw [Tryz.params3] at hA hval
  obtain ⟨v0, d0, rfl, rfl, t0⟩ := trodAll_one hA
  obtain ⟨rfl, rfl⟩ := trodVars_none hV
  obtain ⟨l0, h0, z0⟩ := arg_nodes (hval 0 22 v0 rfl rfl) t0
  have hcall := hcalls_of_callF Tryz.func3 rfl (by decide) (autoMakes_spec h0 z0)
  refine (calls_of_hcalls hcall (R := fun W' => Below W.heap.size W W') (fun W' hb => hb)).mono ?_
  rintro e W' ⟨v, rfl, rfl, hb⟩
  exact ⟨_, rfl, law_post laidOut (by rw [Tryz.params3]; intro t ht; simp at ht; subst ht; exact ⟨by kernel_rfl, of_decide_eq_true (by kernel_rfl)⟩) (tb := 4) (by kernel_rfl) Tryz.underlying4 rfl rfl rfl rfl hW' hb⟩

theorem proved : Rows.AutoMakesSaid :=
  OpenClaim.holds_of_wide 3 Tryz.f3 rfl rfl rfl rfl rfl rfl rfl ⟨rfl, rfl, rfl, rfl, rfl⟩ rfl rfl rfl rfl rfl (by kernel_rfl) Tryz.func3 (by kernel_rfl)
    (of_decide_eq_true (by kernel_rfl)) (by unfold Func.isWrapper; first | (rw [if_pos (by decide +kernel)]; kernel_rfl) | (rw [if_neg (by decide +kernel)]; exact ⟨rfl, rfl⟩))
    (fun os started H enc _ => lifted os started H enc)
#print axioms proved
end Go.Proofs.YtmihefbdghjeoaaGreat.autoMakes
