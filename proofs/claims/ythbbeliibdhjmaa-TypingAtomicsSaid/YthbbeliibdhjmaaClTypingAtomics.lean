/- Proved: for every input the law TypingAtomics returns true, and its arguments read as they did. No condition. -/
import Derived.Test.YthbbeliibdhjmaaMXA
import Derived.Test.YthbbeliibdhjmaaMX6
import Derived.Test.YthbbeliibdhjmaaMX3
/- The laws on numbers: what is read and checked, worked out. -/
namespace Go.Proofs.Ythbbeliibdhjmaa
open Go.HL
set_option maxRecDepth 10000
set_option linter.unusedSimpArgs false
set_option linter.unusedVariables false

def szN (n : Nd) : Bool := decide (n.words.length ≤ 1000) && (decide (n.nums.length ≤ 1000) && (decide (n.kids.length ≤ 1000) && n.words.all fun w => decide (w.length ≤ 1000)))
def szB (l : List Nd) : Bool := decide (l.length ≤ 1000) && l.all szN
theorem sz_of {l : List Nd} (h : szB l = true) : Sz l := by
  unfold szB at h
  simp only [Bool.and_eq_true, decide_eq_true_eq, List.all_eq_true] at h
  have key : ∀ (i : Nat) n, l[i]? = some n → szN n = true := fun i n hi => h.2 n (List.mem_of_getElem? hi)
  have key' : ∀ (i : Nat) n, l[i]? = some n → n.words.length ≤ 1000 ∧ n.nums.length ≤ 1000 ∧ n.kids.length ≤ 1000 ∧ ∀ w ∈ n.words, w.length ≤ 1000 := by
    intro i n hi
    have := key i n hi
    unfold szN at this
    simpa only [Bool.and_eq_true, decide_eq_true_eq, List.all_eq_true] using this
  exact ⟨by omega, fun i n hi => by have := key' i n hi; omega, fun i n hi => by have := key' i n hi; omega, fun i n hi => by have := key' i n hi; omega, fun i n hi w hw => by have := (key' i n hi).2.2.2 w hw; omega⟩
/-- A text read: its fault, and what is wrong with its numbers. -/
def tpM (n : Nat) (s : Str) : Option (Flt × Flt × Bool) := (parseM n s).map fun r => (r.2, typM r.1, szB r.1)
theorem tp_open {n : Nat} {s : Str} {f g : Flt} (h : tpM n s = some (f, g, true)) : ∃ l, parseM n s = some (l, f) ∧ typM l = g ∧ Sz l := by
  unfold tpM at h
  rw [Option.map_eq_some_iff] at h
  obtain ⟨⟨l, f'⟩, h1, h2⟩ := h
  simp only [Prod.mk.injEq] at h2
  obtain ⟨rfl, h3, h4⟩ := h2
  exact ⟨l, h1, h3, sz_of h4⟩
theorem taw1 : tpM 60 [118, 97, 114, 32, 120, 32, 111, 102, 32, 57, 59] = some (⟨0, 0⟩, ⟨22, 0⟩, true) := by decide +kernel
theorem bin_iface_nil {P : Program} {H : Heap} {t : TypeId} {xo : Operand} {c : Value} {ms : Array (String × TypeId)} (hu : P.underlying t = some (.interface ms)) : binV P (full H) .eql t xo (.const c) .nilIface .nilIface = some (.bool true) := by
  show qrun P (do eqGuard .eql t xo (.const c) .nilIface .nilIface; binOp .eql t .nilIface .nilIface) H = _
  have g : qrun P (eqGuard .eql t xo (.const c) .nilIface .nilIface) H = some () := by
    unfold eqGuard
    cases xo <;> rfl
  rw [qrun_bind', g, Option.bind_some]
  show qrun P (do pure (Value.bool (← Op.equal t .nilIface .nilIface))) H = _
  have e : qrun P (Op.equal t .nilIface .nilIface) H = some true := by
    unfold Op.equal Op.maxDepth Op.equalIn
    rw [qrun_bind', qrun_underlying hu, Option.bind_some]
    rfl
  rw [qrun_bind', e]
  rfl
section
variable {H : Heap}
theorem tyLocate_spec {s : Str} {p : Int} : CallF Try.prog 37 [sv s, .agg #[iv 0, iv p]] H (fun r H' => Fr [] H H' ∧ r = .nilIface) NoP := by
  obtain ⟨A, hA⟩ : ∃ A, A = H.push (.cells #[iv 0, iv p] 27) := ⟨_, rfl⟩
  have f0 : Fr [] H A := by rw [hA]; exact Fr.push
  have bA : Blk A H.size 27 [iv 0, iv p] := by rw [hA]; exact Blk.new rfl
  have k0 := bA.cell 0
  simp only [List.getElem?_cons_zero] at k0
  refine callF_of Try.func37 rfl Try.ntmps37 Try.results37 (by decide) rfl ?_
  simp (disch := omega) only [go_sem, ↓cw_block, dsB_of]
  rw [← hA]
  try (simp (disch := omega) only [go_sem, ↓cw_block, dsB_of, k0])
  exact fin ⟨f0, rfl⟩
theorem w12awake_spec : CallF Try.prog 19 [] H (fun r H' => r = .bool true ∧ Fr [] H H') NoP := by
  obtain ⟨l1, p1, s1, z1⟩ := tp_open taw1
  refine callF_of Try.func19 rfl Try.ntmps19 Try.results19 (by decide) rfl ?_
  simp (disch := omega) only [go_sem, ↓cw_block, dsB_of]
  refine call_to (parse_spec p1) ?_
  intro r1 H1 hv
  refine Hush.out ?_
  obtain ⟨v1, rfl, f1, nl1⟩ := hv
  refine ⟨?_⟩
  simp (disch := omega) only [go_sem, ↓cw_block, dsB_of, fltV]
  refine call_to (tyCheck_spec (nl1.grow Fr.push) z1) ?_
  intro r3 H3 hv
  refine Hush.out ?_
  obtain ⟨f3, rfl⟩ := hv
  rw [s1]
  refine ⟨?_⟩
  simp (disch := omega) only [go_sem, ↓cw_block, dsB_of, fltV]
  refine call_to (tyLocate_spec (s := [])) ?_
  intro r4 H4 hv
  refine Hush.out ?_
  obtain ⟨f4, rfl⟩ := hv
  refine ⟨?_⟩
  have hbi := @bin_iface_nil Try.prog H4 76 (.tmp 15) .nilIface _ Try.underlying76
  simp (disch := omega) only [go_sem, ↓cw_block, dsB_of, hbi]
  exact fin ⟨rfl, ((((f1.trans Fr.push).trans f3).trans Fr.push).trans f4)⟩
end
end Go.Proofs.Ythbbeliibdhjmaa

/- The laws on numbers: atomics. -/
namespace Go.Proofs.Ythbbeliibdhjmaa
open Go.HL
set_option maxRecDepth 10000
set_option linter.unusedSimpArgs false
set_option linter.unusedVariables false

theorem rem_rng (m : Int) (k : Int) (h : 0 < k) : 0 ≤ m % k ∧ m % k < k := ⟨Int.emod_nonneg m (by omega), Int.emod_lt_of_pos m h⟩
def opS : Nat → Str
  | 0 => []
  | i + 1 => opS i ++ [105, 102, 32, 49, 32, 123, 32]
def enS : Nat → Str
  | 0 => []
  | i + 1 => enS i ++ [125, 32]
theorem opS_len : ∀ i, (opS i).length = 7 * i
  | 0 => rfl
  | i + 1 => by simp [opS, opS_len i]; omega
theorem enS_len : ∀ i, (enS i).length = 2 * i
  | 0 => rfl
  | i + 1 => by simp [enS, enS_len i]; omega
def atS0 (k : Nat) : Str := ((([112, 114, 111, 99, 32, 112, 32, 123, 32, 97, 116, 111, 109, 105, 99, 32, 123, 32, 115, 107, 105, 112, 59, 32, 125, 32] ++ opS k) ++ [97, 116, 111, 109, 105, 99, 32, 123, 32, 115, 107, 105, 112, 59, 32, 125, 32]) ++ enS k) ++ [125]
def atS1 (k : Nat) : Str := ((([112, 114, 111, 99, 32, 112, 32, 123, 32, 97, 116, 111, 109, 105, 99, 32, 123, 32] ++ opS k) ++ [97, 116, 111, 109, 105, 99, 32, 123, 32, 115, 107, 105, 112, 59, 32, 125, 32]) ++ enS k) ++ [125, 32, 125]
theorem at0 : ∀ k, k < 5 → tpM 400 (atS0 k) = some (⟨0, 0⟩, ⟨0, 0⟩, true) := by decide +kernel
theorem at1 : ∀ k, k < 5 → tpM 400 (atS1 k) = some (⟨0, 0⟩, ⟨21, ((18 + 7 * k : Nat) : Int)⟩, true) := by decide +kernel
section
variable {H : Heap}
set_option maxHeartbeats 4000000 in
theorem typingAtomics_spec {m0 : Int} {w : Bool} (h0 : 0 ≤ m0 ∧ m0 ≤ 255) : CallF Try.prog 7 [.int .u8 m0, .bool w] H (fun r H' => r = .bool true ∧ Fr [] H H') NoP := by
  have c0 := rem_rng m0 5 (by omega)
  have w0 : IntKind.i64.wrap m0 = m0 := IntWalk.i64_in _ (by omega)
  have tm : m0.tmod 5 = m0 % 5 := Int.tmod_eq_emod_of_nonneg (by omega)
  obtain ⟨k, hk⟩ : ∃ k : Nat, m0 % 5 = (k : Int) := ⟨(m0 % 5).toNat, by omega⟩
  have hk5 : k < 5 := by omega
  rw [hk] at tm
  refine callF_of Try.func7 rfl Try.ntmps7 Try.results7 (by decide) rfl ?_
  simp (disch := omega) only [go_sem, ↓cw_block, dsB_of]
  refine call_to w12awake_spec ?_
  intro r0 H0 hv
  refine Hush.out ?_
  obtain ⟨rfl, f0⟩ := hv
  refine ⟨?_⟩
  simp (disch := omega) only [go_sem, ↓cw_block, dsB_of, w0, tm, hk]
  refine loop_by (fun m ρ H2 => ∃ i : Nat, m = k - i ∧ i ≤ k ∧ H0 = H2 ∧ (ρ.get 1 = .bool w ∧ ρ.get 5 = iv k ∧ ρ.get 6 = sv (opS i) ∧ ρ.get 7 = sv (enS i) ∧ ρ.get 8 = iv i ∧ ρ.ds = [])) (k := k) ?_ ?_
  · exact ⟨0, rfl, by omega, rfl, by (simp (disch := omega) only [go_sem, ↓cw_block, dsB_of, hk]) <;> simp [opS, enS]⟩
  · rintro m ρ _ ⟨i, rfl, hi, rfl, r1, r5, r6, r7, r8, rd⟩
    have hxi : (i : Int) + 1 = ((i + 1 : Nat) : Int) := by omega
    have L0 : ([112, 114, 111, 99, 32, 112, 32, 123, 32, 97, 116, 111, 109, 105, 99, 32, 123, 32, 115, 107, 105, 112, 59, 32, 125, 32] : Str).length = 26 := rfl
    have L1 : ([97, 116, 111, 109, 105, 99, 32, 123, 32, 115, 107, 105, 112, 59, 32, 125, 32] : Str).length = 17 := rfl
    have L2 : ([125] : Str).length = 1 := rfl
    have L3 : ([112, 114, 111, 99, 32, 112, 32, 123, 32, 97, 116, 111, 109, 105, 99, 32, 123, 32] : Str).length = 18 := rfl
    have L4 : ([125, 32, 125] : Str).length = 3 := rfl
    have L5 : ([105, 102, 32, 49, 32, 123, 32] : Str).length = 7 := rfl
    have L6 : ([125, 32] : Str).length = 2 := rfl
    have o1 := opS_len i
    have o2 := enS_len i
    by_cases hin : i < k
    · simp (disch := omega) only [go_sem, ↓cw_block, dsB_of, r1, r5, r6, r7, r8, rd, o1, o2, L0, L1, L2, L3, L4, L5, L6]
      exact fin ⟨k - (i + 1), by omega, i + 1, rfl, by omega, rfl, by (simp (disch := omega) only [go_sem, ↓cw_block, dsB_of, r1, r5, r6, r7, r8, rd, hxi]) <;> simp [opS, enS]⟩
    obtain rfl : i = k := by omega
    have a1 : ([112, 114, 111, 99, 32, 112, 32, 123, 32, 97, 116, 111, 109, 105, 99, 32, 123, 32, 115, 107, 105, 112, 59, 32, 125, 32] ++ opS i).length = 26 + 7 * i := by rw [List.length_append, o1]; rfl
    have a2 : (([112, 114, 111, 99, 32, 112, 32, 123, 32, 97, 116, 111, 109, 105, 99, 32, 123, 32, 115, 107, 105, 112, 59, 32, 125, 32] ++ opS i) ++ [97, 116, 111, 109, 105, 99, 32, 123, 32, 115, 107, 105, 112, 59, 32, 125, 32]).length = 43 + 7 * i := by rw [List.length_append, a1]; simp; omega
    have a3 : ((([112, 114, 111, 99, 32, 112, 32, 123, 32, 97, 116, 111, 109, 105, 99, 32, 123, 32, 115, 107, 105, 112, 59, 32, 125, 32] ++ opS i) ++ [97, 116, 111, 109, 105, 99, 32, 123, 32, 115, 107, 105, 112, 59, 32, 125, 32]) ++ enS i).length = 43 + 9 * i := by rw [List.length_append, a2, o2]; omega
    have b1 : ([112, 114, 111, 99, 32, 112, 32, 123, 32, 97, 116, 111, 109, 105, 99, 32, 123, 32] ++ opS i).length = 18 + 7 * i := by rw [List.length_append, o1]; rfl
    have b2 : (([112, 114, 111, 99, 32, 112, 32, 123, 32, 97, 116, 111, 109, 105, 99, 32, 123, 32] ++ opS i) ++ [97, 116, 111, 109, 105, 99, 32, 123, 32, 115, 107, 105, 112, 59, 32, 125, 32]).length = 35 + 7 * i := by rw [List.length_append, b1]; simp; omega
    have b3 : ((([112, 114, 111, 99, 32, 112, 32, 123, 32, 97, 116, 111, 109, 105, 99, 32, 123, 32] ++ opS i) ++ [97, 116, 111, 109, 105, 99, 32, 123, 32, 115, 107, 105, 112, 59, 32, 125, 32]) ++ enS i).length = 35 + 9 * i := by rw [List.length_append, b2, o2]; omega
    simp only [List.cons_append, List.nil_append] at a1 a2 a3 b1 b2 b3
    cases w
    · obtain ⟨l1, p1, s1, z1⟩ := tp_open (at0 i hk5)
      unfold atS0 at p1
      simp only [List.cons_append, List.nil_append] at p1
      simp (disch := omega) only [go_sem, ↓cw_block, dsB_of, r1, r5, r6, r7, r8, rd, o1, o2, a1, a2, a3, L0, L1, L2, L3, L4, L5, L6]
      refine call_to (parse_spec p1) ?_
      intro r1' H1 hv
      refine Hush.out ?_
      obtain ⟨v1, rfl, f1, nl1⟩ := hv
      have nl1' := nl1.grow (Fr.push (F := []) (o := .cells #[iv 0, iv 0] 27))
      obtain ⟨B1, hB1⟩ : ∃ B, B = H1.push (.cells #[iv 0, iv 0] 27) := ⟨_, rfl⟩
      have g1 : Fr [] H1 B1 := by rw [hB1]; exact Fr.push
      have d1 : Blk B1 H1.size 27 [iv 0, iv 0] := by rw [hB1]; exact Blk.new rfl
      rw [← hB1] at nl1'
      refine ⟨?_⟩
      simp (disch := omega) only [go_sem, ↓cw_block, dsB_of, fltV, r1, r5, r6, r7, r8, rd]
      rw [← hB1]
      refine call_to (tyCheck_spec nl1' z1) ?_
      intro r3 H3 hv
      refine Hush.out ?_
      obtain ⟨f3, rfl⟩ := hv
      rw [s1]
      have q1 := (f3.blk d1 (by simp)).cell 0
      simp only [List.getElem?_cons_zero] at q1
      have q1' := (Fr.push (F := []) (o := .cells #[iv 0, iv 0] 27)).cell' q1 (by simp)
      refine ⟨?_⟩
      simp (disch := omega) only [go_sem, ↓cw_block, dsB_of, fltV, r1, r5, r6, r7, r8, rd, q1, q1']
      exact fin ⟨rfl, ((((f0.trans f1).trans g1).trans f3).trans Fr.push)⟩
    · obtain ⟨l1, p1, s1, z1⟩ := tp_open (at1 i hk5)
      unfold atS1 at p1
      simp only [List.cons_append, List.nil_append] at p1
      simp (disch := omega) only [go_sem, ↓cw_block, dsB_of, r1, r5, r6, r7, r8, rd, o1, o2, a1, a2, a3, b1, b2, b3, L0, L1, L2, L3, L4, L5, L6]
      refine call_to (parse_spec p1) ?_
      intro r1' H1 hv
      refine Hush.out ?_
      obtain ⟨v1, rfl, f1, nl1⟩ := hv
      have nl1' := nl1.grow (Fr.push (F := []) (o := .cells #[iv 0, iv 0] 27))
      obtain ⟨B1, hB1⟩ : ∃ B, B = H1.push (.cells #[iv 0, iv 0] 27) := ⟨_, rfl⟩
      have g1 : Fr [] H1 B1 := by rw [hB1]; exact Fr.push
      have d1 : Blk B1 H1.size 27 [iv 0, iv 0] := by rw [hB1]; exact Blk.new rfl
      rw [← hB1] at nl1'
      refine ⟨?_⟩
      simp (disch := omega) only [go_sem, ↓cw_block, dsB_of, fltV, r1, r5, r6, r7, r8, rd]
      rw [← hB1]
      refine call_to (tyCheck_spec nl1' z1) ?_
      intro r3 H3 hv
      refine Hush.out ?_
      obtain ⟨f3, rfl⟩ := hv
      rw [s1]
      have q1 := (f3.blk d1 (by simp)).cell 0
      simp only [List.getElem?_cons_zero] at q1
      have q1' := (Fr.push (F := []) (o := .cells #[iv 21, iv ((18 + 7 * i : Nat) : Int)] 27)).cell' q1 (by simp)
      refine ⟨?_⟩
      simp (disch := omega) only [go_sem, ↓cw_block, dsB_of, fltV, r1, r5, r6, r7, r8, rd, q1, q1']
      exact fin ⟨rfl, ((((f0.trans f1).trans g1).trans f3).trans Fr.push)⟩
end
end Go.Proofs.Ythbbeliibdhjmaa

/- Proved: for every input the law TypingAtomics returns true, and its arguments read as they did. No condition. -/
namespace Go.Proofs.Ythbbeliibdhjmaa.typingAtomics
open Go.ChangeShapes Go.WideShapes Go.ChangeAt Go.RowKit Go.HL
set_option linter.unusedVariables false

theorem own : ownKnob Try.prog.godebug = none := by kernel_rfl
theorem laidOut : laidOutB Try.prog = true := by kernel_rfl

set_option maxRecDepth 100000 in
theorem lifted (os : Os) (started : os.Started) (H : Type) (enc : TypeId × Value → H) :
    ReturnsInHanded {} Try.checked os 7 .any (Rows.typingAtomicsSpec.pre6 enc Try.prog Try.f7 Rows.typingAtomicsRow.domain false) (Rows.typingAtomicsSpec.post enc Try.prog Try.f7 false true false false) := by
  refine returnsInHanded_of_change (C := Try.checked) own started (by kernel_rfl) Try.func7
    (ChangeSpec.witness6 (enc := enc) (C := Try.checked) false ⟨#[], #[.int .u8 0, .bool false], []⟩ 8 (by kernel_rfl) (by kernel_rfl) (by kernel_rfl) (by kernel_rfl)) ?_
  intro W base args ds gs before hval0 hW _ _
  have hval : ∀ (j : Nat) t v, Try.f7.params[j]? = some t → args[j]? = some v → Value.okWide Try.prog W .any base t v := hval0
  have hW' := hW
  obtain ⟨p, q, hA0, hV, rfl, hfz, hnd⟩ := hW
  have hA : DataW.TrodAll enc Try.prog W 0 (fun _ => true) true Try.f7.params.toList args.toList ds p := hA0
  rw [Try.params7] at hA hval
  obtain ⟨v0, v1, d0, d1, p0, p1, rfl, rfl, rfl, t0, t1⟩ := trodAll_two hA
  obtain ⟨rfl, rfl⟩ := trodVars_none hV
  obtain ⟨m0, rfl, rfl, rfl, wm0⟩ := open_int Try.underlying5 (hval 0 5 v0 rfl rfl) t0
  have h0 : 0 ≤ m0 ∧ m0 ≤ 255 := by simpa [Lit.wf, IntKind.min, IntKind.max, IntKind.signed, IntKind.bits] using wm0
  obtain ⟨h1, rfl, rfl, rfl⟩ := open_bool Try.underlying4 (hval 1 4 v1 rfl rfl) t1
  have hcall := hcalls_of_callF Try.func7 rfl (by decide) (typingAtomics_spec (H := W.heap) (w := h1) h0)
  refine (calls_of_hcalls hcall (R := fun W' => Below W.heap.size W W') (fun W' hb => hb)).mono ?_
  rintro e W' ⟨v, rfl, rfl, hb⟩
  exact ⟨_, rfl, law_post laidOut (by rw [Try.params7]; intro t ht; simp at ht; rcases ht with rfl | rfl <;> exact ⟨by kernel_rfl, of_decide_eq_true (by kernel_rfl)⟩) (tb := 4) (by kernel_rfl) Try.underlying4 rfl rfl rfl rfl hW' hb⟩

theorem proved : Rows.TypingAtomicsSaid :=
  OpenClaim.holds_of_wide 7 Try.f7 rfl rfl rfl rfl rfl rfl rfl ⟨rfl, rfl, rfl, rfl, rfl⟩ rfl rfl rfl rfl rfl (by kernel_rfl) Try.func7 (by kernel_rfl)
    (of_decide_eq_true (by kernel_rfl)) (by unfold Func.isWrapper; first | (rw [if_pos (by decide +kernel)]; kernel_rfl) | (rw [if_neg (by decide +kernel)]; exact ⟨rfl, rfl⟩))
    (fun os started H enc _ => lifted os started H enc)
#print axioms proved
end Go.Proofs.Ythbbeliibdhjmaa.typingAtomics
