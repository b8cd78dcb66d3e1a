/- The program's parser at a text that is one word, and no keyword: it panics with a fault; Parse answers the fault. -/
import Derived.Test.YtndbdehpkiimjaaGreatT
import Derived.Test.YtndbdehpkiimjaaGreatHLCut
import Derived.Test.YtndbdehpkiimjaaGreatVxA
import Derived.Test.YtndbdehpkiimjaaGreatRunZ
import Derived.Test.YtndbdehpkiimjaaGreatFnA
namespace Go.Proofs.YtndbdehpkiimjaaGreat
open Go.HL
set_option maxRecDepth 10000
set_option linter.unusedSimpArgs false
set_option linter.unusedVariables false
abbrev hp (p : Nat) : Value := .pointer (some ⟨p, 0, none⟩)
abbrev iv (n : Int) : Value := .int .i64 n
section
variable {H : Heap}
/-- A list of tokens that is read, and which is next. -/
structure TM (H : Heap) (pb i : Nat) (k : Int) (s : Str) (a : Int) : Prop where
  ex : ∃ tb to n c, cellH H ⟨pb, 0, none⟩ = some (.slice (some ⟨tb, to, none⟩) n c) ∧ cellH H ⟨pb, 1, none⟩ = some (iv i) ∧ i < n ∧
    cellH H ⟨tb, to + i * 3, none⟩ = some (iv k) ∧ cellH H ⟨tb, to + i * 3 + 1, none⟩ = some (sv s) ∧ cellH H ⟨tb, to + i * 3 + 2, none⟩ = some (iv a)
theorem TM.grow {H' : Heap} {pb i : Nat} {k : Int} {s : Str} {a : Int} (h : TM H pb i k s a) (hf : Fr [] H H') : TM H' pb i k s a := by
  obtain ⟨tb, to, n, c, h0, h1, h2, h3, h4, h5⟩ := h.ex
  exact ⟨tb, to, n, c, hf.cell' h0 (by simp), hf.cell' h1 (by simp), h2, hf.cell' h3 (by simp), hf.cell' h4 (by simp), hf.cell' h5 (by simp)⟩
variable {pb i : Nat} {k : Int} {s : Str} {a : Int}
theorem now_spec (h : TM H pb i k s a) : CallF Tryz.prog 33 [hp pb] H (fun r H' => Fr [] H H' ∧ r = .agg #[iv k, sv s, iv a]) NoP := by
  have h1 := h.grow (H' := H.push (.cells #[iv 0, sv [], iv 0] 87)) Fr.push
  obtain ⟨tb, to, n, c, c0, c1, hi, t0, t1, t2⟩ := h1.ex
  have hr : cellsH (cellH (H.push (.cells #[iv 0, sv [], iv 0] 87))) ⟨tb, to + i * 3, none⟩ 0 3 = some [iv k, sv s, iv a] := by
    refine cellsH_at [iv k, sv s, iv a] _ 0 ?_
    intro j hj
    match j, hj with
    | 0, _ => exact t0
    | 1, _ => exact t1
    | 2, _ => exact t2
  refine callF_of Tryz.func33 rfl Tryz.ntmps33 Tryz.results33 (by decide) rfl ?_
  simp (disch := omega) only [go_sem, ↓cw_block, dsB_of, newPtr]
  refine draw0 (lk [(0, true), (1, true), (2, true), (3, true), (4, true), (5, true), (6, true), (7, true), (8, true), (9, true)] (.act 10 .fin .non)) T.mixed ?_
  simp (disch := omega) only [go_sem, ↓cw_block, dsB_of, c0, c1, hr, hi, newPtr]
  exact fin ⟨Fr.push, rfl⟩
/-- The end of a function that has panicked with a fault. -/
def Fault (e a : Int) (H : Heap) (c : List PanicEntry) (H' : Heap) : Prop := Fr [] H H' ∧ c = [{ v := .iface 27 (.agg #[iv e, iv a]), recovered := false }]
theorem iface_fault {x : Value} : ifaceV Tryz.prog 27 x = some (.iface 27 x) := by unfold ifaceV; rw [Tryz.underlying27]
theorem fail_spec (h : TM H pb i k s a) {e : Int} : CallF Tryz.prog 135 [hp pb, iv e] H (fun r H' => False) (Fault e a H) := by
  refine callF_of Tryz.func135 rfl Tryz.ntmps135 Tryz.results135 (by decide) rfl ?_
  simp (disch := omega) only [go_sem, ↓cw_block, dsB_of]
  refine call_to (now_spec h) ?_
  rintro _ H1 ⟨f1, rfl⟩
  simp (disch := omega) only [go_sem, ↓cw_block, dsB_of, iface_fault]
  exact fin ⟨f1, rfl⟩
theorem node_spec (h : TM H pb i k s a) {e : Int} : CallF Tryz.prog 32 [hp pb, iv e] H (fun r H' => Fr [] H H' ∧ ∃ b, r = hp b ∧ cellH H' ⟨b, 5, none⟩ = some (.slice none 0 0)) NoP := by
  refine callF_of Tryz.func32 rfl Tryz.ntmps32 Tryz.results32 (by decide) rfl ?_
  simp (disch := omega) only [go_sem, ↓cw_block, dsB_of]
  refine call_to (now_spec h) ?_
  rintro _ H1 ⟨f1, rfl⟩
  simp (disch := omega) only [go_sem, ↓cw_block, dsB_of, newPtr]
  exact fin ⟨f1.trans Fr.push, _, rfl, (Blk.new (vs := [iv e, .slice none 0 0, .slice none 0 0, .slice none 0 0, iv a, .slice none 0 0]) rfl).cell 5⟩
/-- A list of one string. -/
theorem index_spec {sb : Nat} {t x : Str} (hc : cellH H ⟨sb, 0, none⟩ = some (sv t)) (hne : ¬ x = t) : CallF Tryz.prog 141 [.slice (some ⟨sb, 0, none⟩) 1 1, sv x] H (fun r H' => H' = H ∧ r = iv (-1)) NoP := by
  refine callF_of Tryz.func141 rfl Tryz.ntmps141 Tryz.results141 (by decide) rfl ?_
  simp (disch := omega) only [go_sem, ↓cw_block, dsB_of]
  refine loop_by (fun k ρ H2 => H2 = H ∧ ρ.get 0 = .slice (some ⟨sb, 0, none⟩) 1 1 ∧ ρ.get 1 = sv x ∧ ρ.get 7 = iv 1 ∧ ρ.get 8 = iv (1 - k) ∧ k ≤ 1 ∧ ρ.ds = []) (k := 1) ?_ ?_
  · simp (disch := omega) only [go_sem, ↓cw_block, dsB_of]
    exact ⟨rfl, rfl⟩
  · rintro k ρ H2 ⟨rfl, g0, g1, g7, g8, hk, gd⟩
    match k, hk with
    | 0, _ =>
      have g8 : ρ.get 8 = iv 1 := g8
      simp (disch := omega) only [go_sem, ↓cw_block, dsB_of, g0, g1, g7, g8]
      exact fin ⟨rfl, rfl⟩
    | 1, _ =>
      have g8 : ρ.get 8 = iv 0 := g8
      simp (disch := omega) only [go_sem, ↓cw_block, dsB_of, g0, g1, g7, g8, hc, hne]
      exact fin ⟨0, by omega, rfl, by simp (disch := omega) only [go_sem, ↓cw_block, dsB_of, g0, g1, g7]; exact gd⟩
theorem contains_spec {sb : Nat} {t x : Str} (hc : cellH H ⟨sb, 0, none⟩ = some (sv t)) (hne : ¬ x = t) : CallF Tryz.prog 76 [.slice (some ⟨sb, 0, none⟩) 1 1, sv x] H (fun r H' => H' = H ∧ r = .bool false) NoP := by
  refine callF_of Tryz.func76 rfl Tryz.ntmps76 Tryz.results76 (by decide) rfl ?_
  simp (disch := omega) only [go_sem, ↓cw_block, dsB_of]
  refine call_to (index_spec hc hne) ?_
  rintro _ _ ⟨rfl, rfl⟩
  simp (disch := omega) only [go_sem, ↓cw_block, dsB_of]
  exact fin ⟨rfl, rfl⟩
theorem sees_spec (h : TM H pb i k s a) {sb : Nat} {t : Str} (hc : cellH H ⟨sb, 0, none⟩ = some (sv t)) (hne : ¬ s = t) : CallF Tryz.prog 133 [hp pb, .slice (some ⟨sb, 0, none⟩) 1 1] H (fun r H' => Fr [] H H' ∧ r = .bool false) NoP := by
  refine callF_of Tryz.func133 rfl Tryz.ntmps133 Tryz.results133 (by decide) rfl ?_
  simp (disch := omega) only [go_sem, ↓cw_block, dsB_of]
  refine call_to (now_spec h) ?_
  rintro _ H1 ⟨f1, rfl⟩
  simp (disch := omega) only [go_sem, ↓cw_block, dsB_of]
  refine call_to (contains_spec (f1.cell' hc (by simp)) hne) ?_
  rintro _ _ ⟨rfl, rfl⟩
  simp (disch := omega) only [go_sem, ↓cw_block, dsB_of]
  exact fin ⟨f1, rfl⟩
theorem take_spec (h : TM H pb i k s a) {sb : Nat} {t : Str} (hc : cellH H ⟨sb, 0, none⟩ = some (sv t)) (hne : ¬ s = t) : CallF Tryz.prog 71 [hp pb, .slice (some ⟨sb, 0, none⟩) 1 1] H (fun r H' => False) (Fault 11 a H) := by
  refine callF_of Tryz.func71 rfl Tryz.ntmps71 Tryz.results71 (by decide) rfl ?_
  simp (disch := omega) only [go_sem, ↓cw_block, dsB_of]
  refine call_to (sees_spec h hc hne) ?_
  rintro _ H1 ⟨f1, rfl⟩
  simp (disch := omega) only [go_sem, ↓cw_block, dsB_of]
  refine call_pan (fail_spec (h.grow f1)) (fun _ _ h => h.elim) ?_
  rintro c H2 ⟨f2, rfl⟩
  simp (disch := omega) only [go_sem, ↓cw_block, dsB_of]
  exact fin ⟨f1.trans f2, rfl⟩
theorem item_spec (h : TM H pb i k s a) (h1 : ¬ s = [99, 104, 97, 110]) (h2 : ¬ s = [118, 97, 114]) (h3 : ¬ s = [112, 114, 111, 99]) (h4 : ¬ s = [115, 97, 102, 101]) (h5 : ¬ s = [100, 101, 97, 100, 108, 111, 99, 107]) :
    CallF Tryz.prog 34 [hp pb] H (fun r H' => False) (Fault 11 a H) := by
  refine callF_of Tryz.func34 rfl Tryz.ntmps34 Tryz.results34 (by decide) rfl ?_
  simp (disch := omega) only [go_sem, ↓cw_block, dsB_of]
  refine call_to (now_spec h) ?_
  rintro _ H1 ⟨f1, rfl⟩
  simp (disch := omega) only [go_sem, ↓cw_block, dsB_of, h1, h2, h3, h4]
  refine call_to (node_spec (h.grow f1)) ?_
  rintro _ H2 ⟨f2, b, rfl, cb⟩
  simp (disch := omega) only [go_sem, ↓cw_block, dsB_of]
  have f3 : Fr [] H2 (H2.push (.cells #[sv [100, 101, 97, 100, 108, 111, 99, 107]] 9)) := Fr.push
  refine call_pan (take_spec ((h.grow (f1.trans f2)).grow f3) ?_ h5) (fun _ _ h => h.elim) ?_
  · exact (Blk.new (vs := [sv [100, 101, 97, 100, 108, 111, 99, 107]]) rfl).cell 0
  rintro c H3 ⟨f4, rfl⟩
  simp (disch := omega) only [go_sem, ↓cw_block, dsB_of]
  exact fin ⟨((f1.trans f2).trans f3).trans f4, rfl⟩
theorem program_spec (h : TM H pb i k s a) (h0 : ¬ k = 3) (h1 : ¬ s = [99, 104, 97, 110]) (h2 : ¬ s = [118, 97, 114]) (h3 : ¬ s = [112, 114, 111, 99]) (h4 : ¬ s = [115, 97, 102, 101]) (h5 : ¬ s = [100, 101, 97, 100, 108, 111, 99, 107]) :
    CallF Tryz.prog 16 [hp pb] H (fun r H' => False) (Fault 11 a H) := by
  refine callF_of Tryz.func16 rfl Tryz.ntmps16 Tryz.results16 (by decide) rfl ?_
  simp (disch := omega) only [go_sem, ↓cw_block, dsB_of]
  refine call_to (node_spec h) ?_
  rintro _ H1 ⟨f1, b, rfl, cb⟩
  simp (disch := omega) only [go_sem, ↓cw_block, dsB_of]
  refine loop_by (fun k ρ H2 => Fr [] H H2 ∧ cellH H2 ⟨b, 5, none⟩ = some (.slice none 0 0) ∧ ρ.get 0 = hp pb ∧ ρ.get 3 = hp b ∧ ρ.ds = []) (k := 1) ?_ ?_
  · simp (disch := omega) only [go_sem, ↓cw_block, dsB_of]
    exact ⟨f1, cb⟩
  · rintro k ρ H2 ⟨f2, cb2, g0, g3, gd⟩
    simp (disch := omega) only [go_sem, ↓cw_block, dsB_of, g0, g3]
    refine call_to (now_spec (h.grow f2)) ?_
    rintro _ H3 ⟨f3, rfl⟩
    have cb3 := f3.cell' cb2 (by simp)
    simp (disch := omega) only [go_sem, ↓cw_block, dsB_of, g0, g3, h0]
    obtain ⟨hl, hhl⟩ : ∃ hl, hl = [((⟨b, 5, none⟩ : Addr), Value.slice none 0 0)] := ⟨_, rfl⟩
    have lb : lookA hl ⟨b, 5, none⟩ = some (.slice none 0 0) := by rw [hhl]; simp [lookA]
    have hok : heldOK hl H3 := by
      intro x v hx
      rw [hhl] at hx
      simp only [lookA] at hx
      split at hx
      · rename_i e; rw [← e, cb3, ← hx]
      · cases hx
    refine draw1 (lk [(0, false), (1, false), (2, false), (3, false), (4, false), (5, true)] (.act 6 (.act 7 (.act 8 (lk [(9, true), (10, true)] (.actd 11 .fin)) .non) .non) .non)) T.mixed hl hok ?_
    simp (disch := omega) only [go_sem, ↓cw_block, dsB_of, g0, g3, lb]
    refine call_pan (item_spec ((h.grow f2).grow f3) h1 h2 h3 h4 h5) (fun _ _ h => h.elim) ?_
    rintro c H4 ⟨f4, rfl⟩
    simp (disch := omega) only [go_sem, ↓cw_block, dsB_of]
    exact fin ⟨(f2.trans f3).trans f4, rfl⟩
end
end Go.Proofs.YtndbdehpkiimjaaGreat

namespace Go.Run
open Go.HL
set_option linter.unusedSimpArgs false
set_option linter.unusedVariables false
set_option maxRecDepth 20000
noncomputable section
variable {P : Program} {H : Heap}
/-- A call at the end of another one that panics, which takes the panic. -/
def DCallP (P : Program) (g : FuncId) (args : Array Value) (ch : List PanicEntry) (H : Heap) (R : Heap → Prop) : Prop :=
  ∀ (w : World), w.heap = H → CallsD P g args (.panicking ch) w fun e u' w' => settle u' = .returning ∧ HL.Rest w w' ∧ (∃ v, e = .returned v) ∧ R w'.heap
def dfrP (P : Program) (rs : List ResultVar) (R : Value → Heap → Prop) : Exit → En → Heap → Prop
  | .panic ch, ρ, H => ∃ g cap as' fng, ρ.ds = [⟨.fn (.func g) cap, as'⟩] ∧ P.funcs[g]? = some fng ∧ fng.body.isSome = true ∧ (fng.name == "runtime.NumGoroutine") = false ∧
      DCallP P g (as' ++ cap) ch H fun H' => resL P ρ H' rs fun vs => R (tupV vs) H'
  | _, _, _ => False
theorem callF_dfrP {f : FuncId} {fn : Func} {c : Code} {args : List Value} {rs : List ResultVar} {n : Nat} {R : Value → Heap → Prop}
    (hf : P.funcs[f]? = some fn) (hb : fn.body = some c) (hn : fn.ntmps = n) (hr : fn.results = rs.toArray) (hm : (fn.name == "runtime.NumGoroutine") = false)
    (hs : decide (args.length ≤ n) = true)
    (h : CW n P c (dfrP P rs R) (enArgs args.toArray) H) : CallF P f args H R NoP := by
  unfold CallF callFunc
  rw [hwp_bind']
  show hwp P (match P.funcs[f]? with | none => _ | some fn => _) H _ _
  rw [hf]
  simp only [hm, Bool.false_eq_true, if_false, hb, Option.isNone_some]
  show HCalls P f args.toArray H R NoP
  subst hn
  intro w hw
  refine calls_of_wp_defers hf hb ?_
  refine wp_mono (h w w _ (Rest.refl w) hw ⟨?_, fun t => ?_, rfl⟩) ?_
  · have := of_decide_eq_true hs; simp; omega
  · simp only [enArgs]
    rw [Array.getD_eq_getD_getElem?, Array.getD_eq_getD_getElem?, Array.getElem?_append]
    split
    · rfl
    · rename_i ht
      rw [Array.getElem?_eq_none (xs := args.toArray) (by omega), Array.getElem?_replicate]
      split <;> rfl
  · rintro e a' w' ⟨hrest, ρ', ha', hx⟩
    cases e with
    | panic ch =>
      obtain ⟨g, cap, as', fng, hd, hfg, hbg, hng, hcall⟩ := hx
      show Leaves P fn a'.tmps _ a'.defers (.panicking ch) w'
      rw [ha'.2.2, hd]
      refine ⟨by simp, .func g, cap, g, as' ++ cap, rfl, ?_, (hcall w' rfl).mono ?_⟩
      · have : qrun P (invoke (.fn (.func g) cap) as') w'.heap = some (.enter g (as' ++ cap)) := by
          show qrun P (callFunc g (as' ++ cap)) w'.heap = _
          unfold callFunc
          rw [qrun_bind']
          show qrun P (match P.funcs[g]? with | none => _ | some fn => _) _ = _
          rw [hfg]
          cases hb' : fng.body with
          | none => rw [hb'] at hbg; cases hbg
          | some c' => simp only [hng, Bool.false_eq_true, if_false, hb', Option.isNone_some]; rfl
        exact qrun_sound P _ w' _ this
      · rintro e u' w'' ⟨hu, hr1, ⟨v, rfl⟩, hR⟩
        obtain ⟨v', hv', hR'⟩ := resV hr hR
        show Leaves P fn a'.tmps _ [] (settle u') w''
        rw [hu]
        exact ⟨v', by rw [resE_eq ha']; exact qrun_sound P _ w'' v' hv', hrest.trans hr1, hR'⟩
    | _ => exact hx.elim
end
end Go.Run
namespace Go.Proofs.YtndbdehpkiimjaaGreat
open Go.HL
set_option linter.unusedSimpArgs false
set_option linter.unusedVariables false
set_option maxRecDepth 20000
variable {H : Heap}
theorem ta_fault {x y : Int} : qrun Go.Proofs.Tryz.prog (Instr.typeAssert (.iface 27 (.agg #[.int .i64 x, .int .i64 y])) 20 27 true) H = some (.tuple #[.agg #[.int .i64 x, .int .i64 y], .bool true]) := by kernel_rfl
set_option maxHeartbeats 1000000 in
/-- The closure of Parse at a fault: it takes the fault. -/
theorem catch14 {p q : Nat} {z : Value} {e a e0 a0 : Int} {H : Heap} (hp : Blk H p 36 [z]) (hq : Blk H q 27 [.int .i64 e0, .int .i64 a0]) (hpq : p ≠ q) :
    Go.Run.DCallP Go.Proofs.Tryz.prog 14 #[.pointer (some ⟨p, 0, none⟩), .pointer (some ⟨q, 0, none⟩)] [{ v := .iface 27 (.agg #[.int .i64 e, .int .i64 a]), recovered := false }] H
      fun H' => Fr [p, q] H H' ∧ Blk H' p 36 [.slice none 0 0] ∧ Blk H' q 27 [.int .i64 e, .int .i64 a] := by
  intro w hw
  refine callsD_of_wpS Go.Proofs.Tryz.func14 rfl fun c₀ cs hu => ?_
  apply wpS_seq
  apply wpS_region
  simp [wpOpsS, go_sem, recoverD, hu, Go.Proofs.Tryz.ntmps14, Exit.thenS]
  apply wpS_seq
  apply wpS_region
  simp [wpOpsS, go_sem, Exit.thenS]
  refine wpS_cond (t := true) (by simp [Act.eval, Array.replicate]) ?_
  simp only [if_true]
  refine wpS_of_wp ?_
  generalize hT : (#[Value.pointer (some { block := p, off := 0 }), Value.pointer (some { block := q, off := 0 })] ++ _ : Array Value) = TT
  have t0 : TT.getD 0 undef = .pointer (some ⟨p, 0, none⟩) := by subst hT; kernel_rfl
  have t1 : TT.getD 1 undef = .pointer (some ⟨q, 0, none⟩) := by subst hT; kernel_rfl
  have t2 : TT.getD 2 undef = .iface 27 (.agg #[.int .i64 e, .int .i64 a]) := by subst hT; kernel_rfl
  have hsz : TT.size = 17 := by rw [← hT]; simp
  clear hT
  obtain ⟨ρ, hρ⟩ : ∃ ρ : En, ρ = { get := fun t => TT.getD t undef, ds := [] } := ⟨_, rfl⟩
  have g0 : ρ.get 0 = .pointer (some ⟨p, 0, none⟩) := by rw [hρ]; exact t0
  have g1 : ρ.get 1 = .pointer (some ⟨q, 0, none⟩) := by rw [hρ]; exact t1
  have g2 : ρ.get 2 = .iface 27 (.agg #[.int .i64 e, .int .i64 a]) := by rw [hρ]; exact t2
  have gd : ρ.ds = [] := by rw [hρ]
  refine wp_mono ((show CW 17 Go.Proofs.Tryz.prog _ (fun x ρ' H' => match x with | .normal => ρ'.ds = [] ∧ Fr [p, q] H H' ∧ Blk H' p 36 [.slice none 0 0] ∧ Blk H' q 27 [.int .i64 e, .int .i64 a] | _ => False) ρ H from ?_) w w _ (HL.Rest.refl w) hw ⟨hsz, fun t => by rw [hρ], by rw [hρ]⟩) ?_
  · refine cw_sound _ _ _ _ ?_
    obtain ⟨A, hA⟩ : ∃ A, A = H.push (.cells #[.int .i64 e, .int .i64 a] 27) := ⟨_, rfl⟩
    have bA : Blk A H.size 27 [.int .i64 e, .int .i64 a] := by rw [hA]; exact Blk.new rfl
    have pA : Blk A p 36 [z] := by rw [hA]; exact hp.push _
    have qA : Blk A q 27 [.int .i64 e0, .int .i64 a0] := by rw [hA]; exact hq.push _
    have fA : Fr [p, q] H A := by rw [hA]; exact Fr.push
    obtain ⟨hl, hhl⟩ : ∃ hl, hl = [((⟨H.size, 0, none⟩ : Addr), Value.int .i64 e), ((⟨H.size, 1, none⟩ : Addr), Value.int .i64 a)] := ⟨_, rfl⟩
    have l0 : lookA hl ⟨H.size, 0, none⟩ = some (.int .i64 e) := by rw [hhl]; simp [lookA]
    have l1 : lookA hl ⟨H.size, 1, none⟩ = some (.int .i64 a) := by rw [hhl]; simp [lookA]
    have lkk : ∀ x v, lookA hl x = some v → (x = ⟨H.size, 0, none⟩ ∧ v = .int .i64 e) ∨ (x = ⟨H.size, 1, none⟩ ∧ v = .int .i64 a) := by
      intro x v hx
      rw [hhl] at hx
      simp only [lookA] at hx
      split at hx
      · rename_i h; exact .inl ⟨h.symm, by simpa using hx.symm⟩
      · split at hx
        · rename_i h; exact .inr ⟨h.symm, by simpa using hx.symm⟩
        · cases hx
    have hok : heldOK hl A := by
      intro x v hx
      rcases lkk x v hx with ⟨rfl, rfl⟩ | ⟨rfl, rfl⟩
      · exact bA.cell 0
      · exact bA.cell 1
    simp (disch := omega) only [go_sem, ↓cw_block, dsB_of, g0, g1, g2, ta_fault]
    rw [← hA]
    refine draw1 (lk [(0, false)] (.act 1 (.actd 2 .fin) .non)) T.mixed hl hok ?_
    have lr : cellsH (held hl).cells ⟨H.size, 0, none⟩ 0 2 = some [.int .i64 e, .int .i64 a] := by
      refine cellsH_at [.int .i64 e, .int .i64 a] _ 0 ?_
      intro j hj
      match j, hj with
      | 0, _ => exact l0
      | 1, _ => exact l1
    have wp := pA.wr (i := 0) (by simp) (.slice none 0 0)
    simp (disch := omega) only [go_sem, ↓cw_block, dsB_of, g0, g1, lr, newPtr, wp]
    have pl := hp.lt
    have ql := hq.lt
    have hok2 : heldOK hl (setH A ⟨p, 0, none⟩ (.slice none 0 0)) := by
      intro x v hx
      have h9 := hok x v hx
      have hb : x.block = H.size := by rcases lkk x v hx with ⟨rfl, _⟩ | ⟨rfl, _⟩ <;> rfl
      unfold cellH at h9 ⊢
      rw [setH_other (by rw [hb]; exact fun h => by simp at h; omega)]
      exact h9
    refine held_by hok2 ?_
    obtain ⟨H2, e1, e2, e3⟩ := store_at (P := Tryz.prog) (ty := 27) (pre := []) (old := [.int .i64 e0, .int .i64 a0]) (rest := []) (new := [.int .i64 e, .int .i64 a]) (qA.set_other (a := ⟨p, 0, none⟩) (v := .slice none 0 0) (fun h => hpq h.symm)) rfl T.size27 (by simp [oneC])
    simp only [List.length_nil] at e1
    simp (disch := omega) only [go_sem, ↓cw_block, dsB_of, g0, g1, lr, newPtr, e1]
    exact ⟨gd, (fA.trans (Fr.set (by simp))).trans (e3.mono (fun b _ h => by simp at h; simp [h])), e3.blk (pA.set 0 (.slice none 0 0)) (by simp [hpq]), by simpa using e2⟩
  · rintro x a' w' ⟨hr, ρ', ha', hx⟩
    cases x with
    | normal =>
      obtain ⟨hd, hx⟩ := hx
      exact ⟨ha'.2.2.trans hd, _, rfl, .tuple #[], by simp [results, Go.Proofs.Tryz.results14], rfl, hr, ⟨_, rfl⟩, hx⟩
    | _ => exact hx.elim
end Go.Proofs.YtndbdehpkiimjaaGreat

namespace Go.Run
open Go.HL
set_option linter.unusedVariables false
set_option maxRecDepth 1000000
noncomputable section
variable {σ : Nat → Value} {F : Nat → Option Obj} {φ : Phi} {A : AH} {H : Heap} {P : Program}
def isTk (a b c : AV) : Bool := a.on_n (fun n => ifB (Nat.beq n 0) (b.on_s (fun l => ifB (eqL l [120]) (c.on_n (fun m => Nat.beq m 0) false) false) false) false) false
def isZf (r : List AV) : Bool := @List.rec AV (fun _ => Bool) false (fun y _ _ => y.on_a (fun l => @List.rec AV (fun _ => Bool) false (fun a r _ => a.on_n (fun n => ifB (Nat.beq n 0) (@List.rec AV (fun _ => Bool) false (fun b r _ => b.on_n (fun m => ifB (Nat.beq m 0) (@List.rec AV (fun _ => Bool) true (fun _ _ _ => false) r) false) false) r) false) false) l) false) r
def tokK : AV → AH → Bool := fun v A => v.on_t (fun l => @List.rec AV (fun _ => Bool) false (fun x r _ => x.on_q (fun d o len _ _ _ => (A.get d).on_c (fun _ blen t => ifB (Nat.ble (Nat.add o 3) blen) (ifB (Nat.blt 0 len) (ifB (isTk (t.get o) (t.get (Nat.add o 1)) (t.get (Nat.add o 2))) (ifB (isZf r) (@List.rec AV (fun _ => Bool) false (fun _ s _ => @List.rec AV (fun _ => Bool) true (fun _ _ _ => false) s) r) false) false) false) false) false) false) l) false
theorem tk_run : F13 (.s [120]) A0 tokK = true := by kernel_rfl
theorem on_n0 {a : AV} {w : Value} {k : Nat → Bool} (ha : VR σ φ a w) (hk : a.on_n k false = true) : ∃ n : Nat, w = .int .i64 (n : Int) ∧ k n = true := by
  rcases AV.on_n_eq a k false with ⟨n, rfl, e⟩ | e
  · rw [e] at hk; simp only [VR] at ha; exact ⟨n, ha.1, hk⟩
  · rw [e] at hk; cases hk
theorem cellsH_get {c : Addr → Option Value} {a : Addr} : ∀ (n i : Nat) (l : List Value), cellsH c a i n = some l → ∀ j v, l[j]? = some v → c (a.add (i + j)) = some v
  | 0, i, l, h, j, v, hj => by simp only [cellsH, Option.some.injEq] at h; subst h; simp at hj
  | n + 1, i, l, h, j, v, hj => by
    simp only [cellsH] at h
    cases hc : c (a.add i) with
    | none => simp [hc] at h
    | some u =>
      cases hr : cellsH c a (i + 1) n with
      | none => simp [hc, hr] at h
      | some l' =>
        simp only [hc, hr, Option.bind_some, Option.map_some, Option.some.injEq] at h
        subst h
        cases j with
        | zero => simp at hj; subst hj; exact hc
        | succ j => have := cellsH_get n (i + 1) l' hr j v (by simpa using hj); rw [← this]; congr 2; omega
theorem isTk_ok {a b c : AV} {w1 w2 w3 : Value} (h1 : VR σ φ a w1) (h2 : VR σ φ b w2) (h3 : VR σ φ c w3) (h : isTk a b c = true) : w1 = .int .i64 0 ∧ w2 = sv [120] ∧ w3 = .int .i64 0 := by
  unfold isTk at h
  obtain ⟨n, rfl, h⟩ := on_n0 h1 h
  obtain ⟨hn, h⟩ := ifB_and h
  obtain ⟨l, rfl, rfl, _, h⟩ := on_s_sound h2 h
  obtain ⟨hl, h⟩ := ifB_and h
  obtain ⟨m, rfl, h⟩ := on_n0 h3 h
  have e1 := Nat.eq_of_beq_eq_true hn
  have e2 := Nat.eq_of_beq_eq_true h
  subst e1 e2
  rw [eqL_eq] at hl
  have := of_decide_eq_true hl
  subst this
  exact ⟨rfl, rfl, rfl⟩
theorem isZf_ok {r : List AV} {ws : List Value} (hr : VRl σ φ r ws) (h : isZf r = true) : ∃ ws', ws = .agg #[.int .i64 0, .int .i64 0] :: ws' := by
  unfold isZf at h
  cases r with
  | nil => cases h
  | cons y r =>
    simp only [VRl] at hr
    obtain ⟨w, ws', rfl, h1, _⟩ := hr
    refine ⟨ws', ?_⟩
    obtain ⟨l, c, rfl, rfl, hl, h⟩ := on_a_sound h1 (show y.on_a _ false = true from h)
    match l, h with
    | [], h => cases h
    | [a], h =>
      simp only [VRl] at hl
      obtain ⟨w1, _, _, g1, _⟩ := hl
      obtain ⟨n, _, h⟩ := on_n0 g1 h
      have := (ifB_and h).2
      cases this
    | a :: b :: l', h =>
      simp only [VRl] at hl
      obtain ⟨w1, _, e1, g1, w2, _, rfl, g2, g3⟩ := hl
      obtain ⟨n, rfl, h⟩ := on_n0 g1 h
      obtain ⟨hn, h⟩ := ifB_and h
      obtain ⟨m, rfl, h⟩ := on_n0 g2 h
      obtain ⟨hm, h⟩ := ifB_and h
      have en := Nat.eq_of_beq_eq_true hn
      have em := Nat.eq_of_beq_eq_true hm
      subst en em
      cases l' with
      | nil =>
        simp only [VRl] at g3
        subst g3
        congr 1
        congr 1
        apply Array.ext'
        exact e1
      | cons _ _ => cases h
/-- The tokens of the text x. -/
theorem tokens_x : CallF Go.Proofs.Tryz.prog 13 [sv [120]] H (fun r H' => Fr [] H H' ∧ ∃ tb o n c, r = .tuple #[.slice (some ⟨tb, o, none⟩) n c, .agg #[.int .i64 0, .int .i64 0]] ∧ 0 < n ∧
    cellH H' ⟨tb, o, none⟩ = some (.int .i64 0) ∧ cellH H' ⟨tb, o + 1, none⟩ = some (sv [120]) ∧ cellH H' ⟨tb, o + 2, none⟩ = some (.int .i64 0)) NoP := by
  have hv : VRl s0 p0 [AV.s [120]] [sv [120]] := by simp only [VRl, VR]; exact ⟨_, _, rfl, ⟨_, rfl, rfl⟩, rfl⟩
  refine (F13_ok s0 _ p0 A0 H [.s [120]] [sv [120]] tokK A0_rel hv tk_run).mono ?_ (fun _ _ x => x)
  rintro v H' ⟨φ, a, A', _, h1, h2, h3⟩
  have hfr : Fr [] H H' := by
    constructor
    · by_cases hz : H.size = 0
      · omega
      · have h4 := h2.frm (H.size - 1) H[H.size - 1] (Array.getElem?_eq_getElem (by omega))
        have := (Array.getElem?_eq_some_iff.1 h4).1
        omega
    · intro b hb _
      have := h2.frm b H[b] (Array.getElem?_eq_getElem hb)
      rw [this, Array.getElem?_eq_getElem hb]
  refine ⟨hfr, ?_⟩
  unfold tokK at h3
  rcases AV.on_t_eq a _ false with ⟨l, rfl, e⟩ | e
  · rw [e] at h3
    clear e
    simp only [VR] at h1
    obtain ⟨c, rfl, h1⟩ := h1
    cases l with
    | nil => cases h3
    | cons x r =>
      simp only [VRl] at h1
      obtain ⟨w, ws, e1, g1, g2⟩ := h1
      obtain ⟨d, o, len, cap, z, ex, en, y, c', rfl, q1, q2, q3, q4, q5, q6, q7, h3⟩ := on_q_sound g1 (show x.on_q _ false = true from h3)
      rcases AB.on_c_eq (A'.get d) _ false with ⟨ro, blen, t, hg, e'⟩ | e'
      · rw [e'] at h3
        clear e'
        obtain ⟨k1, h3⟩ := ifB_and h3
        obtain ⟨k2, h3⟩ := ifB_and h3
        obtain ⟨k3, h3⟩ := ifB_and h3
        obtain ⟨k4, h3⟩ := ifB_and h3
        have k1 := Nat.le_of_ble_eq_true k1
        have k2 := blt_t k2
        have k1' : o + 3 ≤ blen := k1
        obtain ⟨rw', a1, a2⟩ := h2.row hg q1 3 o 0 (by omega)
        have a2 : VRl s0 φ [t.get o, t.get (o + 1), t.get (o + 2)] rw' := a2
        simp only [VRl] at a2
        obtain ⟨w1, _, rfl, b1, w2, _, rfl, b2, w3, _, rfl, b3, rfl⟩ := a2
        obtain ⟨rfl, rfl, rfl⟩ := isTk_ok b1 b2 b3 k3
        obtain ⟨ws', rfl⟩ := isZf_ok g2 k4
        have hx : y = en.s + o := q6 (.inl (by omega))
        subst q2
        have hs : ws' = [] := by
          match r, g2, h3 with
          | [], _, h3 => cases h3
          | [_], g2, _ => simp only [VRl] at g2; obtain ⟨_, _, h, _, h'⟩ := g2; simp only [List.cons.injEq] at h; rw [h.2, h']
          | _ :: _ :: _, _, h3 => cases h3
        subst hs
        have cs : ∀ j v, ([Value.int .i64 0, sv [120], .int .i64 0] : List Value)[j]? = some v → cellH H' ⟨en.r, en.s + o + j, none⟩ = some v := by
          intro j v hj
          have := cellsH_get _ _ _ a1 j v hj
          rwa [addr_add, Nat.zero_add] at this
        refine ⟨en.r, y, len, c', ?_, k2, ?_, ?_, ?_⟩
        · congr 1
          apply Array.ext'
          exact e1
        · rw [hx]; exact cs 0 _ rfl
        · rw [hx]; exact cs 1 _ rfl
        · rw [hx]; exact cs 2 _ rfl
      · rw [e'] at h3; cases h3
  · rw [e] at h3; cases h3
end
end Go.Run
namespace Go.Proofs.YtndbdehpkiimjaaGreat
open Go.HL
set_option linter.unusedSimpArgs false
set_option linter.unusedVariables false
set_option maxRecDepth 20000
variable {H : Heap} {P : Program} {n : Nat}
theorem cw_at {x : Code} {Q : Exit → En → Heap → Prop} {K : Exit → En → Heap → Prop} {ρ : En} (h : CW n P x Q ρ H) : CW n P x Q ρ H := h
/-- A closure is put off. -/
theorem defer_region {id g : Nat} {ty ty' : TypeId} {pos pos' : String} {af af' : Array Edge} {t : Nat} {tys : Array TypeId} {fs cs : List Operand} {y : Code} {Q : Exit → En → Heap → Prop} {ρ : En}
    (ht : t < n) (hd : ρ.ds = []) (h : CW n P y Q { (En.put n ρ (some t) (.func (.func g) (fs.map ρ.ev).toArray (cs.map ρ.ev).toArray)) with ds := [⟨.fn (.func g) (cs.map ρ.ev).toArray, (fs.map ρ.ev).toArray⟩] } H) :
    CW n P (.seq (.region id #[⟨some t, .makeFunc (.func g) fs.toArray cs.toArray, ty, pos, af, none⟩, ⟨none, .defer ⟨.value (.tmp t), #[], tys⟩, ty', pos', af', none⟩] false) y) Q ρ H := by
  refine Go.Run.CW.seq2 (Go.Run.cw2_sound _ _ _ _ ?_)
  have ef : fs.toArray.map ρ.ev = (fs.map ρ.ev).toArray := by simp
  have ec : cs.toArray.map ρ.ev = (cs.map ρ.ev).toArray := by simp
  obtain ⟨G, hG⟩ : ∃ G, G = Value.func (.func g) (fs.map ρ.ev).toArray (cs.map ρ.ev).toArray := ⟨_, rfl⟩
  have x1 : qrun P (execOp ρ.ev ⟨some t, .makeFunc (.func g) fs.toArray cs.toArray, ty, pos, af, none⟩) H = some (.value G) := by
    rw [hG, ← ef, ← ec]; rfl
  refine hwp_of_qrun P _ H _ _ _ x1 ?_
  have gt : (En.put n ρ (some t) G).get t = G := by
    show (if _ then _ else _) = _
    simp [ht]
  have x2 : qrun P (execOp (En.put n ρ (some t) G).ev ⟨none, .defer ⟨.value (.tmp t), #[], tys⟩, ty', pos', af', none⟩) H = some (.defer ⟨.fn (.func g) (cs.map ρ.ev).toArray, (fs.map ρ.ev).toArray⟩) := by
    show qrun P (do pure (Next.defer (← Deferred.ofValue ((En.put n ρ (some t) G).get t) (#[].map (En.put n ρ (some t) G).ev)))) H = _
    rw [gt, qrun_bind', hG, Array.map_empty]
    show (qrun P (pure (Deferred.mk (.fn (.func g) (cs.map ρ.ev).toArray) ((fs.map ρ.ev).toArray ++ #[]))) H).bind _ = _
    rw [Array.append_empty]
    rfl
  refine hwp_of_qrun P _ H _ _ _ x2 ?_
  show CW n P y Q { (En.put n ρ (some t) G) with ds := _ :: (En.put n ρ (some t) G).ds } H
  rw [show (En.put n ρ (some t) G).ds = [] from hd, hG]
  exact h
theorem parse_x : CallF Tryz.prog 9 [sv [120]] H (fun r H' => r = .tuple #[.slice none 0 0, .agg #[iv 11, iv 0]] ∧ Fr [] H H') NoP := by
  obtain ⟨A, hA⟩ : ∃ A, A = H.push (.cells #[.slice none 0 0] 36) := ⟨_, rfl⟩
  obtain ⟨B, hB⟩ : ∃ B, B = A.push (.cells #[.int .i64 0, .int .i64 0] 27) := ⟨_, rfl⟩
  have bA : Blk A H.size 36 [.slice none 0 0] := by rw [hA]; exact Blk.new rfl
  have bB : Blk B A.size 27 [.int .i64 0, .int .i64 0] := by rw [hB]; exact Blk.new rfl
  have bC : Blk B H.size 36 [.slice none 0 0] := by rw [hB]; exact bA.push _
  have fB : Fr [] H B := by rw [hB, hA]; exact Fr.push.trans Fr.push
  have hne : H.size ≠ A.size := by rw [hA]; simp
  have hlt : H.size < A.size := by rw [hA]; simp
  refine Go.Run.callF_dfrP (n := 31) (rs := [.cell 2 36, .cell 3 27]) Tryz.func9 rfl rfl rfl rfl rfl ?_
  refine Go.Run.CW.seq2 (cw_sound _ _ _ _ ?_)
  simp (disch := omega) only [go_sem, ↓cw_block, dsB_of, newPtr]
  rw [← hA, ← hB]
  refine Go.Run.CW.seq2 (cw_sound _ _ _ _ ?_)
  simp (disch := omega) only [go_sem, ↓cw_block, dsB_of, newPtr]
  refine call_to Go.Run.tokens_x ?_
  rintro _ H1 ⟨f1, tb, o, n, c, rfl, hn, c0, c1, c2⟩
  have b1 := f1.blk bB (by simp)
  have b2 := f1.blk bC (by simp)
  obtain ⟨H2, e1, e2, e3⟩ := store_at (P := Tryz.prog) (ty := 27) (pre := []) (old := [.int .i64 0, .int .i64 0]) (rest := []) (new := [.int .i64 0, .int .i64 0]) b1 rfl T.size27 (by simp [oneC])
  simp only [List.length_nil] at e1
  have e2 : Blk H2 A.size 27 [.int .i64 0, .int .i64 0] := by simpa using e2
  have b3 := e3.blk b2 (by simp; omega)
  simp (disch := omega) only [go_sem, ↓cw_block, dsB_of, newPtr, e1]
  refine Go.Run.CW.seq2 (cw_sound _ _ _ _ ?_)
  have l2 : cellsH (cellH H2) ⟨A.size, 0, none⟩ 0 2 = some [.int .i64 0, .int .i64 0] := e2.cells0
  simp (disch := omega) only [go_sem, ↓cw_block, dsB_of, newPtr, l2]
  refine defer_region (fs := []) (cs := [.tmp 2, .tmp 3]) (by decide) rfl ?_
  refine (show ∀ ρ' : En, ρ'.get 2 = hp H.size → ρ'.get 3 = hp A.size → ρ'.get 4 = .slice (some ⟨tb, o, none⟩) n c → ρ'.ds = [⟨.fn (.func 14) #[hp H.size, hp A.size], #[]⟩] → CW 31 Tryz.prog _ _ ρ' H2 from ?_) _ rfl rfl rfl rfl
  intro ρ' g2 g3 g4 gd
  refine cw_sound _ _ _ _ ?_
  simp (disch := omega) only [go_sem, ↓cw_block, dsB_of, newPtr, g2, g3, g4]
  obtain ⟨C, hC⟩ : ∃ C, C = H2.push (.cells #[.slice (some ⟨tb, o, none⟩) n c, .int .i64 0, .int .i64 0] 59) := ⟨_, rfl⟩
  have bP : Blk C H2.size 59 [.slice (some ⟨tb, o, none⟩) n c, .int .i64 0, .int .i64 0] := by rw [hC]; exact Blk.new rfl
  have fC : Fr [] H2 C := by rw [hC]; exact Fr.push
  have htb : tb ≠ A.size := by
    rintro rfl
    rw [b1.cell] at c1
    match o, c1 with
    | 0, h => simp at h
    | o + 1, h => simp at h
  have tk : ∀ j v, cellH H1 ⟨tb, j, none⟩ = some v → cellH C ⟨tb, j, none⟩ = some v := fun j v h => fC.cell' (e3.cell' h (by simp [htb])) (by simp)
  rw [← hC]
  have hTM : TM C H2.size 0 0 [120] 0 := ⟨tb, o, n, c, bP.cell 0, bP.cell 1, hn, tk _ _ (by simpa using c0), tk _ _ (by simpa using c1), tk _ _ (by simpa using c2)⟩
  refine call_pan (program_spec hTM (by decide) (by decide) (by decide) (by decide) (by decide) (by decide)) (fun _ _ h => h.elim) ?_
  rintro ch H4 ⟨f4, rfl⟩
  simp (disch := omega) only [go_sem, ↓cw_block, dsB_of]
  have p4 : Blk H4 H.size 36 [.slice none 0 0] := f4.blk (fC.blk b3 (by simp)) (by simp)
  have q4 : Blk H4 A.size 27 [.int .i64 0, .int .i64 0] := f4.blk (fC.blk e2 (by simp)) (by simp)
  refine ⟨14, #[hp H.size, hp A.size], #[], _, gd, Tryz.func14, rfl, rfl, ?_⟩
  intro w hw
  refine (catch14 (e := 11) (a := 0) p4 q4 hne w hw).mono ?_
  rintro ev u' w' ⟨x1, x2, x3, f5, p5, q5⟩
  refine ⟨x1, x2, x3, ?_⟩
  have k0 : cellH w'.heap ⟨H.size, 0, none⟩ = some (.slice none 0 0) := p5.cell 0
  have k1 : cellsH (cellH w'.heap) ⟨A.size, 0, none⟩ 0 2 = some [.int .i64 11, .int .i64 0] := q5.cells0
  have t : Fr [H.size, A.size] H w'.heap := ((((fB.mono (by simp)).trans (f1.mono (by simp))).trans (e3.mono (fun b _ h => by simp at h; simp [h]))).trans ((fC.trans f4).mono (by simp))).trans f5
  show resL _ _ _ _ _
  simp (disch := omega) only [go_sem, ↓cw_block, dsB_of, g2, g3, k0, k1]
  exact t.mono (fun b hb h => by simp at h; omega)
theorem check_x {o1 o2 o3 o4 : Value} : CallF Tryz.prog 8 [sv [120], .agg #[o1, o2, o3, o4]] H (fun r H' => r = .agg #[iv 3, iv 11, iv 0, .slice none 0 0, iv 0] ∧ Fr [] H H') NoP := by
  obtain ⟨A, hA⟩ : ∃ A, A = (H.push (.cells #[o1, o2, o3, o4] 34)).push (.cells #[.int .i64 0, .int .i64 0, .int .i64 0, .slice none 0 0, .int .i64 0] 30) := ⟨_, rfl⟩
  have fA : Fr [] H A := by rw [hA]; exact Fr.push.trans Fr.push
  have bA : Blk A (H.push (.cells #[o1, o2, o3, o4] 34)).size 30 [.int .i64 0, .int .i64 0, .int .i64 0, .slice none 0 0, .int .i64 0] := by rw [hA]; exact Blk.new rfl
  refine callF_of Tryz.func8 rfl Tryz.ntmps8 Tryz.results8 (by decide) rfl ?_
  simp (disch := omega) only [go_sem, ↓cw_block, dsB_of, newPtr]
  rw [← hA]
  refine call_to parse_x ?_
  rintro _ H1 ⟨rfl, f1⟩
  have b1 := (f1.blk bA (by simp)).push (.cells #[.int .i64 11, .int .i64 0] 27)
  obtain ⟨H2, e1, e2, e3⟩ := store_at (P := Tryz.prog) (ty := 30) (pre := []) (old := [.int .i64 0, .int .i64 0, .int .i64 0, .slice none 0 0, .int .i64 0]) (rest := []) (new := [.int .i64 3, .int .i64 11, .int .i64 0, .slice none 0 0, .int .i64 0]) b1 rfl T.size30 (by simp [oneC])
  simp only [List.length_nil] at e1
  have l2 : cellsH (cellH H2) ⟨(H.push (.cells #[o1, o2, o3, o4] 34)).size, 0, none⟩ 0 5 = some [.int .i64 3, .int .i64 11, .int .i64 0, .slice none 0 0, .int .i64 0] := by
    have e2 : Blk H2 (H.push (.cells #[o1, o2, o3, o4] 34)).size 30 [.int .i64 3, .int .i64 11, .int .i64 0, .slice none 0 0, .int .i64 0] := by simpa using e2
    exact e2.cells0
  simp (disch := omega) only [go_sem, ↓cw_block, dsB_of, newPtr, e1, l2]
  exact fin ⟨rfl, ((fA.trans (f1.trans Fr.push)).mono (by simp)).trans e3 |>.mono (fun b hb h => by simp at h; omega)⟩
end Go.Proofs.YtndbdehpkiimjaaGreat

