
/- Closed runs: operations that look, all of them. -/
import Derived.Test.YtgpogemdoopdjaaGreatRunK2
namespace Go.Run
open Go.HL
variable {σ : Nat → Value} {F : Nat → Option Obj} {φ : Phi} {A : AH} {H : Heap} {P : Program} {V : HV}
noncomputable section
set_option linter.unusedVariables false

abbrev nthF (l : List (Nat × Nat)) (n : Nat) (k : Nat → Nat → Bool) : Bool := @Option.rec (Nat × Nat) (fun _ => Bool) false (fun x => k x.1 x.2) l[n]?
theorem nthF_ok {l : List (Nat × Nat)} {n : Nat} {k : Nat → Nat → Bool} (h : nthF l n k = true) : ∃ d t, l[n]? = some (d, t) ∧ k d t = true := by
  unfold nthF at h
  cases hl : l[n]? with
  | none => rw [hl] at h; cases h
  | some x => rw [hl] at h; exact ⟨x.1, x.2, rfl, h⟩
/-- The parts of a struct that is put together, with their places. -/
abbrev partsA (ρ : Nat → AV) (pl : List (Nat × Nat)) (ps : List (Nat × Operand)) (k : List (Nat × Nat × AV) → Bool) : Bool :=
  @List.rec (Nat × Operand) (fun _ => (List (Nat × Nat × AV) → Bool) → Bool) (fun k => k []) (fun p _ ih k => nthF pl p.1 fun d z => ih fun l => k ((d, z, ev ρ p.2) :: l)) ps k
theorem partsA_ok {ρ : Nat → AV} {e : En} (he : ER σ φ ρ e) {pl : List (Nat × Nat)} : ∀ (ps : List (Nat × Operand)) (k : List (Nat × Nat × AV) → Bool), partsA ρ pl ps k = true →
    ∃ l, l.length = (ps.map fun p => (p.1, e.ev p.2)).length ∧ (∀ (j : Nat) p q, l[j]? = some p → (ps.map fun p => (p.1, e.ev p.2))[j]? = some q → pl[q.1]? = some (p.1, p.2.1) ∧ VR σ φ p.2.2 q.2) ∧ k l = true
  | [], k, h => ⟨[], rfl, by simp, h⟩
  | p :: ps, k, h => by
    obtain ⟨d, z, h1, h2⟩ := nthF_ok (show nthF pl p.1 (fun d z => partsA ρ pl ps fun l => k ((d, z, ev ρ p.2) :: l)) = true from h)
    obtain ⟨l, h3, h4, h5⟩ := partsA_ok he ps _ h2
    refine ⟨_, by simpa using h3, ?_, h5⟩
    intro j p' q' a b
    cases j with
    | zero =>
      simp only [List.getElem?_cons_zero, Option.some.injEq, List.map_cons] at a b
      subst a b
      exact ⟨h1, ev_ok he p.2⟩
    | succ j => exact h4 j p' q' (by simpa using a) (by simpa using b)
/-- The parts of an array or a slice that is put together. -/
abbrev partsR (ρ : Nat → AV) (z : Nat) (ps : List (Nat × Operand)) (k : List (Nat × Nat × AV) → Bool) : Bool :=
  @List.rec (Nat × Operand) (fun _ => (List (Nat × Nat × AV) → Bool) → Bool) (fun k => k []) (fun p _ ih k => ih fun l => k ((Nat.mul p.1 z, z, ev ρ p.2) :: l)) ps k
theorem partsR_ok {ρ : Nat → AV} {e : En} (he : ER σ φ ρ e) {z : Nat} : ∀ (ps : List (Nat × Operand)) (k : List (Nat × Nat × AV) → Bool), partsR ρ z ps k = true →
    ∃ l, l.length = (ps.map fun p => (p.1, e.ev p.2)).length ∧ (∀ (j : Nat) p q, l[j]? = some p → (ps.map fun p => (p.1, e.ev p.2))[j]? = some q → p.1 = q.1 * z ∧ p.2.1 = z ∧ VR σ φ p.2.2 q.2) ∧ k l = true
  | [], k, h => ⟨[], rfl, by simp, h⟩
  | p :: ps, k, h => by
    obtain ⟨l, h3, h4, h5⟩ := partsR_ok he ps _ (show partsR ρ z ps (fun l => k ((Nat.mul p.1 z, z, ev ρ p.2) :: l)) = true from h)
    refine ⟨_, by simpa using h3, ?_, h5⟩
    intro j p' q' a b
    cases j with
    | zero =>
      simp only [List.getElem?_cons_zero, Option.some.injEq, List.map_cons] at a b
      subst a b
      exact ⟨rfl, rfl, ev_ok he p.2⟩
    | succ j => exact h4 j p' q' (by simpa using a) (by simpa using b)

abbrev slcA (T : TR) (ρ : Nat → AV) (t : Nat) (x : Operand) (lo hi : Option Operand) (k : AV → Bool) : Bool := withT T t fun i => match i.k, lo, hi with
  | .slice e, none, some h => withT T e fun j => slHi (ev ρ x) j.size (ev ρ h) k
  | .slice e, some l, none => withT T e fun j => slLo (ev ρ x) j.size (ev ρ l) k
  | .slice e, some l, some h => withT T e fun j => slLH (ev ρ x) j.size (ev ρ l) (ev ρ h) k
  | .str, none, some h => ssHi (ev ρ x) (ev ρ h) k
  | .str, some l, none => ssLo (ev ρ x) (ev ρ l) k
  | .str, some l, some h => ssLH (ev ρ x) (ev ρ l) (ev ρ h) k
  | _, _, _ => false
theorem elemS_of {t e : Nat} {d : TypeDesc} {j : TI} (hu : P.underlying t = some d) (hd : kindOf d = .slice e) (hj : TIok P e j) : elemS P t = some j.size ∧ elemT P t = some e ∧ P.underlying t = some (.slice e) := by
  have : d = .slice e := by cases d <;> cases hd <;> rfl
  subst this
  refine ⟨?_, ?_, hu⟩
  · simp [elemS, elemT, hu, hj.size]
  · simp [elemT, hu]
theorem str_of {t : Nat} {d : TypeDesc} (hu : P.underlying t = some d) (hd : kindOf d = .str) : P.underlying t = some .string := by
  have : d = .string := by cases d <;> cases hd <;> rfl
  subst this; exact hu
theorem slcA_ok {T : TR} (hT : TTok P T) {ρ : Nat → AV} {e : En} (he : ER σ φ ρ e) {t : Nat} {x : Operand} {lo hi : Option Operand} {k : AV → Bool} (h : slcA T ρ t x lo hi k = true) :
    ∃ v r, sliceV P t (e.ev x) (optMap e.ev lo) (optMap e.ev hi) none = some r ∧ VR σ φ v r ∧ k v = true := by
  obtain ⟨i, hi', h⟩ := withT_ok hT h
  obtain ⟨d, hu, hd⟩ := hi'.kind
  split at h
  · rename_i el hh hk _
    obtain ⟨j, hj, h⟩ := withT_ok hT h
    exact slHi_ok (elemS_of hu (hd.trans hk) hj).1 (ev_ok he x) (ev_ok he hh) h
  · rename_i el hh hk _
    obtain ⟨j, hj, h⟩ := withT_ok hT h
    exact slLo_ok (elemS_of hu (hd.trans hk) hj).1 (ev_ok he x) (ev_ok he hh) h
  · rename_i el l hh hk _
    obtain ⟨j, hj, h⟩ := withT_ok hT h
    exact slLH_ok (elemS_of hu (hd.trans hk) hj).1 (ev_ok he x) (ev_ok he l) (ev_ok he hh) h
  · rename_i hh hk _
    exact ssHi_ok (str_of hu (hd.trans hk)) (ev_ok he x) (ev_ok he hh) h
  · rename_i hh hk _
    exact ssLo_ok (str_of hu (hd.trans hk)) (ev_ok he x) (ev_ok he hh) h
  · rename_i l hh hk _
    exact ssLH_ok (str_of hu (hd.trans hk)) (ev_ok he x) (ev_ok he l) (ev_ok he hh) h
  · cases h
end
end Go.Run
