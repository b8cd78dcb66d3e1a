/- Closed runs: a function of the library that the model stands in for: the place of a byte in a string. -/
import Derived.Test.YtndbdehpkiimjaaGreatRunX
import Derived.Laws.Externs
import Derived.Test.YtndbdehpkiimjaaGreatProg
import Derived.Tactics
import Derived.Tactics2
import Derived.Defers
import Derived.Recover
import Derived.Laws.Pointers
namespace Go.Run
open Go.HL
variable {σ : Nat → Value} {F : Nat → Option Obj} {φ : Phi} {A : AH} {H : Heap} {P : Program} {V : HV}
noncomputable section
set_option linter.unusedVariables false

theorem callF_ext {f : FuncId} {fn : Func} {e : Array Value → Sem Value} {args : List Value} {v : Value} {R : Value → Heap → Prop} {E : List PanicEntry → Heap → Prop}
    (hf : P.funcs[f]? = some fn) (hname : (fn.name == "runtime.NumGoroutine") = false) (hb : fn.body.isNone = true) (hn : Extern.findNext fn = none) (he : Extern.find fn = some e)
    (h : qrun P (e args.toArray) H = some v) (hR : R v H) : CallF P f args H R E := by
  unfold CallF callFunc
  rw [hwp_bind']
  show hwp P (match P.funcs[f]? with | none => _ | some fn => _) H _ _
  rw [hf]
  simp only [hname, Bool.false_eq_true, if_false, hb, if_true]
  rw [hwp_bind']
  show hwp P _ H _ _
  simp only [hn, he]
  show hwp P (do let d ← e args.toArray; pure (Next.value d)) H _ _
  rw [hwp_bind']
  exact hwp_of_qrun P _ H _ _ _ h hR
theorem qrun_indexByte {s : ByteArray} {c : Int} : qrun P (Extern.BytealgIndexByte.indexByte #[.string s, .int .u8 c]) H = some (.int .i64 (firstIdx s c.toNat.toUInt8)) := by
  show qrun P (do
    let b ← Extern.Bytes.bytesOf (.string s)
    let c' ← Extern.Bytes.asByte (.int .u8 c)
    match (List.range b.size).find? fun i => b[i]! == c' with
    | some i => pure (goInt i)
    | none => pure (goInt (-1))) H = _
  simp only [Extern.Bytes.bytesOf, Extern.Bytes.asByte, firstIdx, qrun_bind', pure, qrun, Option.bind_some]
  generalize (List.range s.size).find? _ = o
  cases o <;> rfl
def idxB (c : Nat) (l : List Nat) (i : Nat) (k : AV → Bool) : Bool := @List.rec Nat (fun _ => Nat → Bool) (fun _ => k (.z .i64 (Int.negSucc 0))) (fun x _ ih i => ifB (Nat.beq x c) (frc i fun i => k (.n i)) (ih (Nat.succ i))) l i
theorem idxB_ok {c : Nat} {k : AV → Bool} : ∀ (l : List Nat) (i : Nat), i + l.length < 9223372036854775808 → idxB c l i k = true → ∃ v, VR σ φ v (.int .i64 (match (List.range l.length).find? fun j => l.getD j 0 == c with | some j => ((i + j : Nat) : Int) | none => -1)) ∧ k v = true
  | [], i, _, h => ⟨_, by simp [VR], h⟩
  | x :: l, i, hl, h => by
    have h : ifB (Nat.beq x c) (frc i fun i => k (.n i)) (idxB c l (Nat.succ i) k) = true := h
    simp only [List.length_cons] at hl
    rw [List.length_cons, List.range_succ_eq_map, List.find?_cons]
    cases hb : Nat.beq x c with
    | true =>
      rw [hb] at h
      have h2 : (frc i fun i => k (.n i)) = true := h
      rw [frc_eq] at h2
      have := Nat.eq_of_beq_eq_true hb
      subst this
      refine ⟨.n i, ?_, h2⟩
      simp only [List.getD_cons_zero, beq_self_eq_true, VR]
      exact ⟨rfl, by omega⟩
    | false =>
      rw [hb] at h
      have h : idxB c l (Nat.succ i) k = true := h
      obtain ⟨v, h1, h2⟩ := idxB_ok l (i + 1) (by omega) h
      refine ⟨v, ?_, h2⟩
      have hne : (x == c) = false := by have := beq_f hb; simpa using this
      simp only [List.getD_cons_zero, hne, List.find?_map]
      have e : ((fun j => (x :: l).getD j 0 == c) ∘ Nat.succ) = fun j => l.getD j 0 == c := by funext j; simp
      rw [e]
      cases hf : (List.range l.length).find? fun j => l.getD j 0 == c with
      | none => rw [hf] at h1; exact h1
      | some j =>
        rw [hf] at h1
        have e2 : (i + 1 + j : Nat) = i + (j + 1) := by omega
        simp only [e2] at h1
        exact h1
def idxF (s c : AV) (A : AH) (K : AV → AH → Bool) : Bool := s.on_s (fun l => c.on_z (fun g x => ifB (Nat.beq (kindN g) (kindN .u8)) (@Int.rec (fun _ => Bool) (fun n => ifB (Nat.blt (lenL l) 1000000) (ifB (Nat.blt n 256) (idxB n l 0 fun r => K r A) false) false) (fun _ => false) x) false) false) false
theorem idxF_ok {f : Nat} {fn : Func} (hf : P.funcs[f]? = some fn) (hname : (fn.name == "runtime.NumGoroutine") = false) (hb : fn.body.isNone = true) (hn : Extern.findNext fn = none) (he : Extern.find fn = some Extern.BytealgIndexByte.indexByte) : FOK P f 2 idxF := by
  intro σ F φ A H args ws K hr hv hk
  have hlen := appF_len 2 _ args hk
  match args, hlen with
  | [s, c], _ =>
    simp only [VRl] at hv
    obtain ⟨w1, _, rfl, hs, w2, _, rfl, hc, rfl⟩ := hv
    have hk : idxF s c A K = true := hk
    unfold idxF at hk
    obtain ⟨l, rfl, rfl, hl, hk⟩ := on_s_sound hs hk
    rcases AV.on_z_eq c (fun g x => ifB (Nat.beq (kindN g) (kindN .u8)) (@Int.rec (fun _ => Bool) (fun n => ifB (Nat.blt (lenL l) 1000000) (ifB (Nat.blt n 256) (idxB n l 0 fun r => K r A) false) false) (fun _ => false) x) false) false with ⟨g, x, rfl, e⟩ | e
    · rw [e] at hk
      obtain ⟨hg, hk⟩ := ifB_and hk
      have hg := kindN_inj hg
      subst hg
      simp only [VR] at hc
      subst hc
      cases x with
      | negSucc n => cases hk
      | ofNat n =>
        obtain ⟨h1, hk⟩ := ifB_and (show ifB (Nat.blt (lenL l) 1000000) (ifB (Nat.blt n 256) (idxB n l 0 fun r => K r A) false) false = true from hk)
        obtain ⟨h2, hk⟩ := ifB_and hk
        have h1 := blt_t h1
        have h2 := blt_t h2
        rw [lenL_eq] at h1
        obtain ⟨v, hv1, hv2⟩ := idxB_ok (σ := σ) (φ := φ) l 0 (by omega) hk
        refine callF_ext hf hname hb hn he (v := .int .i64 (firstIdx ⟨(l.map UInt8.ofNat).toArray⟩ (Int.ofNat n).toNat.toUInt8)) qrun_indexByte ⟨φ, v, A, φ.le_refl, ?_, hr, hv2⟩
        have e3 : firstIdx ⟨(l.map UInt8.ofNat).toArray⟩ (Int.ofNat n).toNat.toUInt8 = (match (List.range l.length).find? fun j => l.getD j 0 == n with | some j => ((0 + j : Nat) : Int) | none => -1) := by
          unfold firstIdx
          have e4 : (⟨(l.map UInt8.ofNat).toArray⟩ : ByteArray).size = l.length := by simp [ByteArray.size]
          rw [e4]
          have e5 : ((List.range l.length).find? fun i => (⟨(l.map UInt8.ofNat).toArray⟩ : ByteArray)[i]! == (Int.ofNat n).toNat.toUInt8) = ((List.range l.length).find? fun j => l.getD j 0 == n) := by
            have key : ∀ (r : List Nat), (∀ i ∈ r, i < l.length) → (r.find? fun i => (⟨(l.map UInt8.ofNat).toArray⟩ : ByteArray)[i]! == (Int.ofNat n).toNat.toUInt8) = (r.find? fun j => l.getD j 0 == n) := by
              intro r
              induction r with
              | nil => intro _; rfl
              | cons i r ih =>
                intro hr
                have hi := hr i (by simp)
                have e6 : ((⟨(l.map UInt8.ofNat).toArray⟩ : ByteArray)[i]! == (Int.ofNat n).toNat.toUInt8) = (l.getD i 0 == n) := by
                  have hx : l[i]'hi < 256 := hl _ (List.getElem_mem hi)
                  have : (⟨(l.map UInt8.ofNat).toArray⟩ : ByteArray)[i]! = UInt8.ofNat (l[i]'hi) := by
                    rw [getElem!_pos (⟨(l.map UInt8.ofNat).toArray⟩ : ByteArray) i (by simp [ByteArray.size]; exact hi)]
                    have hsz : i < (l.map UInt8.ofNat).toArray.size := by simpa using hi
                    show (l.map UInt8.ofNat).toArray[i]'hsz = _
                    simp
                  rw [this]
                  rw [List.getD_eq_getElem?_getD, List.getElem?_eq_getElem hi]
                  simp only [Option.getD_some]
                  rw [Bool.eq_iff_iff]
                  simp only [beq_iff_eq]
                  constructor
                  · intro h
                    have := congrArg UInt8.toNat h
                    simp at this
                    rw [Nat.mod_eq_of_lt hx, Nat.mod_eq_of_lt h2] at this
                    exact this
                  · intro h; rw [h]; rfl
                rw [List.find?_cons, List.find?_cons, e6, ih fun j hj => hr j (by simp [hj])]
            exact key _ (by simp)
          rw [e5]
          generalize (List.range l.length).find? _ = o
          cases o <;> simp
        rw [e3]
        exact hv1
    · rw [e] at hk; cases hk
end
end Go.Run

namespace Go.Run
open Go.HL
set_option linter.unusedSimpArgs false
set_option linter.unusedVariables false
noncomputable section
theorem idle_call (a b : Value) (w : World) : CallsD Go.Proofs.Tryz.prog 14 #[a, b] .returning w fun e u' w' => e = .returned (.tuple #[]) ∧ u' = .returning ∧ w' = w := by
  refine callsD_of_wpS Go.Proofs.Tryz.func14 rfl fun c₀ cs hu => ?_
  apply wpS_seq
  apply wpS_region
  simp [wpOpsS, go_sem, recoverD, hu, Go.Proofs.Tryz.ntmps14, Exit.thenS]
  apply wpS_seq
  apply wpS_region
  simp [wpOpsS, go_sem, Exit.thenS]
  refine wpS_cond (t := false) (by simp [Act.eval, Array.replicate]) ?_
  simp only [Bool.false_eq_true, if_false]
  refine wpS_of_wp (wp_skip ?_)
  cases c₀
  simp_all [bodyPostS, results, Go.Proofs.Tryz.results14]
theorem idle14 : ∀ (xs : Array Value) (H : Heap), xs.size = 2 → DCall Go.Proofs.Tryz.prog 14 xs H fun H' => H' = H := by
  intro xs H h w hw
  obtain ⟨l⟩ := xs
  match l, h with
  | [a, b], _ =>
    refine (idle_call a b w).mono ?_
    rintro e u' w' ⟨rfl, rfl, rfl⟩
    exact ⟨rfl, HL.Rest.refl _, ⟨_, rfl⟩, hw⟩
end
end Go.Run

