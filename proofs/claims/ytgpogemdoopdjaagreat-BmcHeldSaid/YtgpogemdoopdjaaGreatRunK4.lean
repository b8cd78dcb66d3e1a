
/- Closed runs: structs held against each other. -/
import Derived.Test.YtgpogemdoopdjaaGreatRunK3
namespace Go.Run
open Go.HL
variable {σ : Nat → Value} {F : Nat → Option Obj} {φ : Phi} {A : AH} {H : Heap} {P : Program} {V : HV}
noncomputable section
set_option linter.unusedVariables false

def eqB (a b : Bool) : Bool := @Bool.rec (fun _ => Bool) (@Bool.rec (fun _ => Bool) true false b) b a
theorem eqB_eq (a b : Bool) : eqB a b = (a == b) := by cases a <;> cases b <;> rfl
def eqI1 (a b : AV) (k : Bool → Bool) : Bool := a.int fun g x => b.int fun g' y => ifB (Nat.beq (kindN g) (kindN g')) (k (eqI x y)) false
def eqB1 (a b : AV) (k : Bool → Bool) : Bool := a.on_b (fun p => b.on_b (fun q => k (eqB p q)) false) false
def eqS1 (a b : AV) (k : Bool → Bool) : Bool := a.on_s (fun l => b.on_s (fun l' => k (eqL l l')) false) false
theorem eqI1_ok {a b : AV} {w w' : Value} {k : Bool → Bool} {g : IntKind} (ha : VR σ φ a w) (hb : VR σ φ b w') (h : eqI1 a b k = true) : ∃ r, eqD (some (.int g)) w w' = some r ∧ k r = true := by
  obtain ⟨g, x, rfl, h⟩ := AV.int_sound ha h
  obtain ⟨g', y, rfl, h⟩ := AV.int_sound hb h
  obtain ⟨hg, h5⟩ := ifB_and h
  clear h
  have := kindN_inj hg
  subst this
  rw [eqI_eq] at h5
  refine ⟨_, ?_, h5⟩
  simp [eqD]
  rfl
theorem eqB1_ok {a b : AV} {w w' : Value} {k : Bool → Bool} (ha : VR σ φ a w) (hb : VR σ φ b w') (h : eqB1 a b k = true) : ∃ r, eqD (some .bool) w w' = some r ∧ k r = true := by
  obtain ⟨p, rfl, rfl, h⟩ := on_b_sound ha h
  obtain ⟨q, rfl, rfl, h⟩ := on_b_sound hb h
  rw [eqB_eq] at h
  exact ⟨_, rfl, h⟩
theorem eqS1_ok {a b : AV} {w w' : Value} {k : Bool → Bool} (ha : VR σ φ a w) (hb : VR σ φ b w') (h : eqS1 a b k = true) : ∃ r, eqD (some .string) w w' = some r ∧ k r = true := by
  obtain ⟨l, rfl, rfl, h1, h⟩ := on_s_sound ha h
  obtain ⟨l', rfl, rfl, h2, h⟩ := on_s_sound hb h
  rw [eqL_eq] at h
  refine ⟨_, ?_, h⟩
  show some (strOf l == strOf l') = _
  congr 1
  rw [ba_beq]
  congr 1
  exact propext (strOf_inj h1 h2)
abbrev eq1 (kd : Nat) (a b : AV) (k : Bool → Bool) : Bool :=
  match kd with
  | 0 => eqI1 a b k
  | 1 => eqB1 a b k
  | 2 => eqS1 a b k
  | 3 => eqI1 a b k
  | _ => false
theorem eq1_ok {a b : AV} {w w' : Value} {k : Bool → Bool} {t kd : Nat} (hk : kindE P t = some kd) (ha : VR σ φ a w) (hb : VR σ φ b w') (h : eq1 kd a b k = true) : ∃ r, eqD (P.underlying t) w w' = some r ∧ k r = true := by
  unfold kindE at hk
  split at hk
  · rename_i hu; cases hk; rw [hu]; exact eqI1_ok ha hb h
  · rename_i hu; cases hk; rw [hu]; exact eqB1_ok ha hb h
  · rename_i hu; cases hk; rw [hu]; exact eqS1_ok ha hb h
  · rename_i hu; cases hk; rw [hu]; exact eqI1_ok ha hb h
  · cases hk
/-- The fields one by one. -/
def eqSL (l : List (Nat × Nat)) (xs ys : List AV) (k : Bool → Bool) : Bool :=
  @List.rec (Nat × Nat) (fun _ => Bool) (k true) (fun f _ ih => nthK xs f.1 fun a => nthK ys f.1 fun b => eq1 f.2 a b fun r => @Bool.rec (fun _ => Bool) (k false) ih r) l
theorem eqSL_ok {xs ys : List AV} {ws us : List Value} {k : Bool → Bool} (hx : VRl σ φ xs ws) (hy : VRl σ φ ys us) : ∀ (fs : List Field) (l : List (Nat × Nat)), eqkOf P fs = some l → eqSL l xs ys k = true → ∃ r, eqFs P ws us fs = some r ∧ k r = true
  | [], l, hl, h => by
    simp only [eqkOf, Option.some.injEq] at hl
    subst hl
    exact ⟨true, rfl, h⟩
  | f :: fs, l, hl, h => by
    unfold eqkOf at hl
    unfold eqFs
    by_cases hn : f.name = "_"
    · rw [if_pos hn] at hl ⊢
      exact eqSL_ok hx hy fs l hl h
    · rw [if_neg hn] at hl ⊢
      cases hkd : kindE P f.type with
      | none => rw [hkd] at hl; cases hl
      | some kd =>
        cases hr : eqkOf P fs with
        | none => rw [hkd, hr] at hl; cases hl
        | some r =>
          rw [hkd, hr] at hl
          simp only [Option.bind_some, Option.map_some, Option.some.injEq] at hl
          subst hl
          replace h : nthK xs f.offset (fun a => nthK ys f.offset fun b => eq1 kd a b fun q => @Bool.rec (fun _ => Bool) (k false) (eqSL r xs ys k) q) = true := h
          obtain ⟨a, h1, h⟩ := nthK_sound h
          obtain ⟨b, h2, h⟩ := nthK_sound h
          obtain ⟨w, h3, h4⟩ := hx.get h1
          obtain ⟨u, h5, h6⟩ := hy.get h2
          obtain ⟨q, h7, h⟩ := eq1_ok hkd h4 h6 h
          rw [h3, h5]
          simp only [Option.bind_some, h7]
          cases q with
          | true => exact eqSL_ok hx hy fs r hr h
          | false => exact ⟨false, rfl, h⟩
def strE (l : List (Nat × Nat)) (neg : Bool) (x y : AV) (k : AV → Bool) : Bool :=
  x.on_a (fun xs => y.on_a (fun ys => eqSL l xs ys fun b => k (.b (@Bool.rec (fun _ => Bool) b (@Bool.rec (fun _ => Bool) true false b) neg))) false) false
theorem strE_ok {t : Nat} {i : TI} {l : List (Nat × Nat)} {op : BinOp} {xo yo : Operand} {x y : AV} {w w' : Value} {k : AV → Bool} (hop : op = .eql ∨ op = .neq) (hi : TIok P t i) (hl : i.eqk = some l)
    (hx : VR σ φ x w) (hy : VR σ φ y w') (h : strE l (match op with | .eql => false | _ => true) x y k = true) : ∃ v r, binV P (full H) op t xo yo w w' = some r ∧ VR σ φ v r ∧ k v = true := by
  obtain ⟨xs, c, rfl, rfl, h1, h⟩ := on_a_sound hx h
  obtain ⟨ys, c', rfl, rfl, h2, h⟩ := on_a_sound hy h
  have he := hi.eqk
  rw [hl] at he
  unfold eqInfo at he
  split at he
  · rename_i fs hu
    split at he
    · cases he
    · rename_i hs
      simp only [Bool.or_eq_true, not_or, Bool.not_eq_true] at hs
      obtain ⟨r, h3, h⟩ := eqSL_ok h1 h2 fs.toList l he h
      have hb := bin_struct (H := H) (xo := xo) (yo := yo) (t := t) (fl := fs.toList) (xs := c.toList) (ys := c'.toList) (r := r) (by simpa using hu) hs.1 hs.2 h3
      simp only [Array.toArray_toList] at hb
      rcases hop with rfl | rfl
      · exact ⟨_, _, hb.1, by simp only [VR], h⟩
      · refine ⟨_, _, hb.2, ?_, h⟩
        simp only [VR]
        cases r <;> rfl
  · cases he
end
end Go.Run
