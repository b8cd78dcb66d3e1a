/- Proved: for every input the law ScopeChecks returns true, and its arguments read as they did. No condition. -/
import Derived.Test.YthbbeliibdhjmaaMX9
import Derived.Test.YthbbeliibdhjmaaMX3
/- The laws on names: what is read and checked, worked out. -/
namespace Go.Proofs.Ythbbeliibdhjmaa
open Go.HL
set_option maxRecDepth 10000
set_option linter.unusedSimpArgs false
set_option linter.unusedVariables false

def szN (n : Nd) : Bool := decide (n.words.length ≤ 1000) && (decide (n.nums.length ≤ 1000) && (decide (n.kids.length ≤ 1000) && n.words.all fun w => decide (w.length ≤ 1000)))
def szB (l : List Nd) : Bool := decide (l.length ≤ 1000) && l.all szN
theorem sz_of {l : List Nd} (h : szB l = true) : Sz l := by
  unfold szB at h
  simp only [Bool.and_eq_true, decide_eq_true_eq, List.all_eq_true] at h
  have key : ∀ (i : Nat) n, l[i]? = some n → szN n = true := fun i n hi => h.2 n (List.mem_of_getElem? hi)
  have key' : ∀ (i : Nat) n, l[i]? = some n → n.words.length ≤ 1000 ∧ n.nums.length ≤ 1000 ∧ n.kids.length ≤ 1000 ∧ ∀ w ∈ n.words, w.length ≤ 1000 := by
    intro i n hi
    have := key i n hi
    unfold szN at this
    simpa only [Bool.and_eq_true, decide_eq_true_eq, List.all_eq_true] using this
  exact ⟨by omega, fun i n hi => by have := key' i n hi; omega, fun i n hi => by have := key' i n hi; omega, fun i n hi => by have := key' i n hi; omega, fun i n hi w hw => by have := (key' i n hi).2.2.2 w hw; omega⟩
/-- A text read: its fault, and what is wrong with its names. -/
def psM (n : Nat) (s : Str) : Option (Flt × Flt × Bool) := (parseM n s).map fun r => (r.2, scopeM r.1, szB r.1)
theorem ps_open {n : Nat} {s : Str} {f g : Flt} (h : psM n s = some (f, g, true)) : ∃ l, parseM n s = some (l, f) ∧ scopeM l = g ∧ Sz l := by
  unfold psM at h
  rw [Option.map_eq_some_iff] at h
  obtain ⟨⟨l, f'⟩, h1, h2⟩ := h
  simp only [Prod.mk.injEq] at h2
  obtain ⟨rfl, h3, h4⟩ := h2
  exact ⟨l, h1, h3, sz_of h4⟩
theorem aw1 : psM 40 [115, 97, 102, 101, 32, 120, 59] = some (⟨0, 0⟩, ⟨20, 5⟩, true) := by decide +kernel
theorem aw2 : psM 60 [118, 97, 114, 32, 120, 32, 111, 102, 32, 49, 59, 32, 115, 97, 102, 101, 32, 120, 59] = some (⟨0, 0⟩, ⟨0, 0⟩, true) := by decide +kernel
section
variable {H : Heap}
theorem w11awake_spec : CallF Try.prog 11 [] H (fun r H' => r = .bool true ∧ Fr [] H H') NoP := by
  obtain ⟨l1, p1, s1, z1⟩ := ps_open aw1
  obtain ⟨l2, p2, s2, z2⟩ := ps_open aw2
  refine callF_of Try.func11 rfl Try.ntmps11 Try.results11 (by decide) rfl ?_
  simp (disch := omega) only [go_sem, ↓cw_block, dsB_of]
  refine call_to (parse_spec p1) ?_
  intro r1 H1 hv
  refine Hush.out ?_
  obtain ⟨v1, rfl, f1, nl1⟩ := hv
  refine ⟨?_⟩
  simp (disch := omega) only [go_sem, ↓cw_block, dsB_of, fltV]
  refine call_to (parse_spec p2) ?_
  intro r2 H2 hv
  refine Hush.out ?_
  obtain ⟨v2, rfl, f2, nl2⟩ := hv
  have nl1' := nl1.grow ((Fr.push (F := [])).trans f2)
  refine ⟨?_⟩
  simp (disch := omega) only [go_sem, ↓cw_block, dsB_of, fltV]
  refine call_to (scCheck_spec (nl1'.grow Fr.push) z1) ?_
  intro r3 H3 hv
  refine Hush.out ?_
  obtain ⟨f3, rfl⟩ := hv
  rw [s1]
  refine ⟨?_⟩
  simp (disch := omega) only [go_sem, ↓cw_block, dsB_of, fltV]
  refine call_to (scCheck_spec (nl2.grow ((Fr.push (F := [])).trans f3)) z2) ?_
  intro r4 H4 hv
  refine Hush.out ?_
  obtain ⟨f4, rfl⟩ := hv
  rw [s2]
  refine ⟨?_⟩
  simp (disch := omega) only [go_sem, ↓cw_block, dsB_of, fltV]
  exact fin ⟨rfl, (((((f1.trans Fr.push).trans f2).trans Fr.push).trans f3).trans f4)⟩
end
end Go.Proofs.Ythbbeliibdhjmaa

/- The law ScopeChecks, over heaps. -/
namespace Go.Proofs.Ythbbeliibdhjmaa
open Go.HL
set_option maxRecDepth 10000
set_option linter.unusedSimpArgs false
set_option linter.unusedVariables false

section
variable {H : Heap} {S : Nat → Prop} {v : Value} {l : List Nd}
theorem scopeChecks_spec (h : NL H S v l) (hz : Sz l) : CallF Try.prog 3 [v] H (fun r H' => r = .bool true ∧ Fr [] H H') NoP := by
  refine callF_of Try.func3 rfl Try.ntmps3 Try.results3 (by decide) rfl ?_
  simp (disch := omega) only [go_sem, ↓cw_block, dsB_of]
  refine call_to w11awake_spec ?_
  intro r1 H1 hv
  refine Hush.out ?_
  obtain ⟨rfl, f1⟩ := hv
  have h1 := h.grow f1
  refine ⟨?_⟩
  simp (disch := omega) only [go_sem, ↓cw_block, dsB_of]
  refine call_to (r9Small_spec h1 hz) ?_
  rintro _ _ ⟨rfl, rfl⟩
  cases hs : smallM l
  · simp (disch := omega) only [go_sem, ↓cw_block, dsB_of]
    refine call_to w11awake_spec ?_
    intro r2 H2 hv
    refine Hush.out ?_
    obtain ⟨rfl, f2⟩ := hv
    refine ⟨?_⟩
    simp (disch := omega) only [go_sem, ↓cw_block, dsB_of]
    exact fin ⟨rfl, f1.trans f2⟩
  have hlen := small_len hs
  simp (disch := omega) only [go_sem, ↓cw_block, dsB_of]
  refine call_to (scCheck_spec h1 hz) ?_
  intro r2 H2 hv
  refine Hush.out ?_
  obtain ⟨f2, rfl⟩ := hv
  obtain ⟨A, hA⟩ : ∃ A, A = H2.push (.cells #[iv (scopeM l).err, iv (scopeM l).pos] 27) := ⟨_, rfl⟩
  have f3 : Fr [] H2 A := by rw [hA]; exact Fr.push
  have bA : Blk A H2.size 27 [iv (scopeM l).err, iv (scopeM l).pos] := by rw [hA]; exact Blk.new rfl
  have ld := bA.cells0
  simp only [List.length_cons, List.length_nil] at ld
  have h3 := (h1.grow f2).grow f3
  refine ⟨?_⟩
  simp (disch := omega) only [go_sem, ↓cw_block, dsB_of, fltV]
  rw [← hA]
  refine call_to (r9Right_spec h3 hz) ?_
  intro r3 H3 hv
  refine Hush.out ?_
  obtain ⟨f4, rfl⟩ := hv
  have bA3 := f4.blk bA (by simp)
  have ld3 := bA3.cells0
  simp only [List.length_cons, List.length_nil] at ld3
  rw [← right_eq]
  cases hr : prRightM l
  · have hsc : scopeM l = ⟨2, 0⟩ := by unfold scopeM; rw [if_neg (by simp [hr])]
    rw [hsc] at ld3
    refine ⟨?_⟩
    simp (disch := omega) only [go_sem, ↓cw_block, dsB_of, ld3]
    exact fin ⟨rfl, ((f1.trans f2).trans f3).trans f4⟩
  obtain ⟨hl0, hl8, hW, -⟩ := right_facts hr
  refine ⟨?_⟩
  simp (disch := omega) only [go_sem, ↓cw_block, dsB_of]
  refine draw1 (lk [(0, false), (1, true)] (.act 2 (lk [(3, true), (4, true)] .fin) .non)) T.mixed (hlist H2.size 0 _) (heldOK_blk bA3) ?_
  have hall := held_all (b := H2.size) (vs := [iv (scopeM l).err, iv (scopeM l).pos])
  simp only [List.length_cons, List.length_nil] at hall
  simp (disch := omega) only [go_sem, ↓cw_block, dsB_of, hall]
  first | refine held_by (heldOK_blk bA3) ?_ | skip
  first | (simp (disch := omega) only [go_sem, ↓cw_block, dsB_of]) | skip
  refine call_to (r11Check_spec (h3.grow f4) hz hW (by omega)) ?_
  intro r4 H4 hv
  refine Hush.out ?_
  obtain ⟨f5, rfl⟩ := hv
  have bA4 := f5.blk bA3 (by simp)
  have ld4 := bA4.cells0
  simp only [List.length_cons, List.length_nil] at ld4
  refine ⟨?_⟩
  refine held_by (heldOK_blk bA4) ?_
  rw [scope_eq hr]
  simp (disch := omega) only [go_sem, ↓cw_block, dsB_of, fltV]
  exact fin ⟨by simp, (((f1.trans f2).trans f3).trans f4).trans f5⟩
end
end Go.Proofs.Ythbbeliibdhjmaa

/- Proved: for every input the law ScopeChecks returns true, and its arguments read as they did. No condition. -/
namespace Go.Proofs.Ythbbeliibdhjmaa.scopeChecks
open Go.ChangeShapes Go.WideShapes Go.ChangeAt Go.RowKit Go.HL
set_option linter.unusedVariables false

theorem own : ownKnob Try.prog.godebug = none := by kernel_rfl
theorem laidOut : laidOutB Try.prog = true := by kernel_rfl

set_option maxRecDepth 100000 in
theorem lifted (os : Os) (started : os.Started) (H : Type) (enc : TypeId × Value → H) :
    ReturnsInHanded {} Try.checked os 3 .any (Rows.scopeChecksSpec.pre6 enc Try.prog Try.f3 Rows.scopeChecksRow.domain false) (Rows.scopeChecksSpec.post enc Try.prog Try.f3 false true false false) := by
  refine returnsInHanded_of_change (C := Try.checked) own started (by kernel_rfl) Try.func3
    (ChangeSpec.witness6 (enc := enc) (C := Try.checked) false ⟨#[], #[.slice none 0 0], []⟩ 8 (by kernel_rfl) (by kernel_rfl) (by kernel_rfl) (by kernel_rfl)) ?_
  intro W base args ds gs before hval0 hW _ _
  have hval : ∀ (j : Nat) t v, Try.f3.params[j]? = some t → args[j]? = some v → Value.okWide Try.prog W .any base t v := hval0
  have hW' := hW
  obtain ⟨p, q, hA0, hV, rfl, hfz, hnd⟩ := hW
  have hA : DataW.TrodAll enc Try.prog W 0 (fun _ => true) true Try.f3.params.toList args.toList ds p := hA0
  rw [Try.params3] at hA hval
  obtain ⟨v0, d0, rfl, rfl, t0⟩ := trodAll_one hA
  obtain ⟨rfl, rfl⟩ := trodVars_none hV
  obtain ⟨l0, h0, z0⟩ := arg_nodes (hval 0 22 v0 rfl rfl) t0
  have hcall := hcalls_of_callF Try.func3 rfl (by decide) (scopeChecks_spec h0 z0)
  refine (calls_of_hcalls hcall (R := fun W' => Below W.heap.size W W') (fun W' hb => hb)).mono ?_
  rintro e W' ⟨v, rfl, rfl, hb⟩
  exact ⟨_, rfl, law_post laidOut (by rw [Try.params3]; intro t ht; simp at ht; subst ht; exact ⟨by kernel_rfl, of_decide_eq_true (by kernel_rfl)⟩) (tb := 4) (by kernel_rfl) Try.underlying4 rfl rfl rfl rfl hW' hb⟩

theorem proved : Rows.ScopeChecksSaid :=
  OpenClaim.holds_of_wide 3 Try.f3 rfl rfl rfl rfl rfl rfl rfl ⟨rfl, rfl, rfl, rfl, rfl⟩ rfl rfl rfl rfl rfl (by kernel_rfl) Try.func3 (by kernel_rfl)
    (of_decide_eq_true (by kernel_rfl)) (by unfold Func.isWrapper; first | (rw [if_pos (by decide +kernel)]; kernel_rfl) | (rw [if_neg (by decide +kernel)]; exact ⟨rfl, rfl⟩))
    (fun os started H enc _ => lifted os started H enc)
#print axioms proved
end Go.Proofs.Ythbbeliibdhjmaa.scopeChecks
