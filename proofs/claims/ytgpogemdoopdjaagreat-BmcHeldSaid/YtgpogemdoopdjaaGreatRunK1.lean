
/- Closed runs: comparisons of what is no number and no text; parts of structs. -/
import Derived.Test.YtgpogemdoopdjaaGreatRunJ
namespace Go.Run
open Go.HL
variable {σ : Nat → Value} {F : Nat → Option Obj} {φ : Phi} {A : AH} {H : Heap} {P : Program} {V : HV}
noncomputable section
set_option linter.unusedVariables false

/-- Is it a value that is not nil, of kind g? -/
def thing (g : Nat) (v : AV) : Bool :=
  v.on_p (fun _ _ => Nat.beq g 0) (v.on_q (fun _ _ _ _ _ _ => Nat.beq g 1) (v.on_m (fun _ => Nat.beq g 2) (v.on_f (fun _ _ _ => Nat.beq g 3) (v.on_i (fun _ _ => Nat.beq g 4) false))))
/-- Of two values of kind g, of which one is nil: are they the same? -/
def eqN (g : Nat) (x y : AV) (k : Bool → Bool) : Bool :=
  x.on_nil (fun a => ifB (Nat.beq a g) (y.on_nil (fun b => ifB (Nat.beq b g) (k true) false) (ifB (thing g y) (k false) false)) false)
    (y.on_nil (fun b => ifB (Nat.beq b g) (ifB (thing g x) (k false) false) false) false)
/-- A real value of kind g: nil or not. -/
def isNil (g : Nat) (w : Value) (b : Bool) : Prop :=
  match g with
  | 0 => if b then w = .pointer none else ∃ a, w = .pointer (some a)
  | 1 => if b then w = .slice none 0 0 else ∃ a n c, w = .slice (some a) n c
  | 2 => if b then w = .map none else ∃ r, w = .map (some r)
  | 3 => if b then w = .nilFunc else ∃ f xs ys, w = .func f xs ys
  | 4 => if b then w = .nilIface else ∃ t v, w = .iface t v
  | _ => False
theorem thing_ok {g : Nat} {v : AV} {w : Value} (hv : VR σ φ v w) (h : thing g v = true) : isNil g w false := by
  cases v with
  | p i o => have : g = 0 := Nat.eq_of_beq_eq_true h; subst this; simp only [VR] at hv; obtain ⟨e, _, rfl⟩ := hv; exact ⟨_, rfl⟩
  | q i o len cap z ex => have : g = 1 := Nat.eq_of_beq_eq_true h; subst this; simp only [VR] at hv; obtain ⟨e, x, c, _, rfl, _⟩ := hv; exact ⟨_, _, _, rfl⟩
  | m i => have : g = 2 := Nat.eq_of_beq_eq_true h; subst this; simp only [VR] at hv; obtain ⟨e, _, rfl⟩ := hv; exact ⟨_, rfl⟩
  | f fn xs ys => have : g = 3 := Nat.eq_of_beq_eq_true h; subst this; simp only [VR] at hv; obtain ⟨xs', ys', rfl, _⟩ := hv; exact ⟨_, _, _, rfl⟩
  | i t u2 => have : g = 4 := Nat.eq_of_beq_eq_true h; subst this; simp only [VR] at hv; obtain ⟨v', rfl, _⟩ := hv; exact ⟨_, _, rfl⟩
  | _ => cases h
theorem nil_ok {g : Nat} {w : Value} (hg : g ≤ 4) (hv : VR σ φ (.nil g) w) : isNil g w true := by
  simp only [VR] at hv
  subst hv
  match g, hg with
  | 0, _ => rfl
  | 1, _ => rfl
  | 2, _ => rfl
  | 3, _ => rfl
  | 4, _ => rfl
theorem eqN_ok {g : Nat} {x y : AV} {w w' : Value} {k : Bool → Bool} (hg : g ≤ 4) (hx : VR σ φ x w) (hy : VR σ φ y w') (h : eqN g x y k = true) : ∃ a b, isNil g w a ∧ isNil g w' b ∧ (a || b) = true ∧ k (a && b) = true := by
  unfold eqN at h
  rcases AV.on_nil_eq x (fun a => ifB (Nat.beq a g) (y.on_nil (fun b => ifB (Nat.beq b g) (k true) false) (ifB (thing g y) (k false) false)) false)
    (y.on_nil (fun b => ifB (Nat.beq b g) (ifB (thing g x) (k false) false) false) false) with ⟨a, rfl, e⟩ | e
  · rw [e] at h
    obtain ⟨h1, h⟩ := ifB_and h
    have := Nat.eq_of_beq_eq_true h1
    subst this
    rcases AV.on_nil_eq y (fun b => ifB (Nat.beq b a) (k true) false) (ifB (thing a y) (k false) false) with ⟨b, rfl, e⟩ | e
    · rw [e] at h
      obtain ⟨h2, h'⟩ := ifB_and h
      clear h
      have := Nat.eq_of_beq_eq_true h2
      subst this
      exact ⟨true, true, nil_ok hg hx, nil_ok hg hy, rfl, h'⟩
    · rw [e] at h
      obtain ⟨h2, h⟩ := ifB_and h
      exact ⟨true, false, nil_ok hg hx, thing_ok hy h2, rfl, h⟩
  · rw [e] at h
    rcases AV.on_nil_eq y (fun b => ifB (Nat.beq b g) (ifB (thing g x) (k false) false) false) false with ⟨b, rfl, e⟩ | e
    · rw [e] at h
      obtain ⟨h1, h⟩ := ifB_and h
      have := Nat.eq_of_beq_eq_true h1
      subst this
      obtain ⟨h2, h⟩ := ifB_and h
      exact ⟨false, true, thing_ok hx h2, nil_ok hg hy, rfl, h⟩
    · rw [e] at h; cases h
def kindN' : TypeDesc → Option Nat
  | .pointer _ => some 0 | .slice _ => some 1 | .map _ _ => some 2 | .func .. => some 3 | .interface _ => some 4 | _ => none
theorem equal_nil {t : TypeId} {d : TypeDesc} {g : Nat} {w w' : Value} {a b : Bool} (hu : P.underlying t = some d) (hg : kindN' d = some g) (h1 : isNil g w a) (h2 : isNil g w' b) (hab : (a || b) = true) :
    qrun P (Op.equal t w w') H = some (a && b) := by
  unfold Op.equal Op.maxDepth Op.equalIn
  rw [qrun_bind', qrun_underlying hu, Option.bind_some]
  unfold kindN' at hg
  split at hg <;> (try cases hg)
  all_goals (cases a <;> cases b <;> simp only [isNil] at h1 h2 <;> try cases hab)
  all_goals first
    | (obtain ⟨_, rfl⟩ := h1; obtain rfl : _ = _ := h2; rfl)
    | (obtain ⟨_, _, _, rfl⟩ := h1; obtain rfl : _ = _ := h2; rfl)
    | (obtain ⟨_, _, rfl⟩ := h1; obtain rfl : _ = _ := h2; rfl)
    | (obtain ⟨_, rfl⟩ := h2; obtain rfl : _ = _ := h1; rfl)
    | (obtain ⟨_, _, _, rfl⟩ := h2; obtain rfl : _ = _ := h1; rfl)
    | (obtain ⟨_, _, rfl⟩ := h2; obtain rfl : _ = _ := h1; rfl)
    | (obtain rfl : _ = _ := h1; obtain rfl : _ = _ := h2; rfl)
/-- Is one of them a constant? -/
def oneConst : Operand → Operand → Bool
  | .const _, _ => true
  | _, .const _ => true
  | _, _ => false
theorem guard_nil {t : TypeId} {op : BinOp} (hop : op = .eql ∨ op = .neq) {xo yo : Operand} {g : Nat} {w w' : Value} {a b : Bool} (hc : oneConst xo yo = true) (h1 : isNil g w a) (h2 : isNil g w' b) : qrun P (eqGuard op t xo yo w w') H = some () := by
  have key : (∃ p q, w = .agg p ∧ w' = .agg q) ∨ qrun P (eqGuard op t xo yo w w') H = some () := by
    rcases hop with rfl | rfl <;> cases xo <;> (try cases yo) <;> (try cases hc) <;> cases w <;> (first | exact .inr rfl | skip) <;> cases w' <;> first | exact .inr rfl | exact .inl ⟨_, _, rfl, rfl⟩
  rcases key with ⟨p, q, rfl, rfl⟩ | h
  · exfalso
    unfold isNil at h1
    split at h1 <;> first | exact h1 | (split at h1 <;> simp at h1)
  · exact h
theorem binV_gen {t : TypeId} {op : BinOp} {xo yo : Operand} {w w' : Value} (h1 : ∀ k x k' y, ¬ (w = .int k x ∧ w' = .int k' y)) (h2 : ∀ x y, ¬ (w = .string x ∧ w' = .string y)) :
    binV P V op t xo yo w w' = qrunV P (do eqGuard op t xo yo w w'; binOp op t w w') V := by
  unfold binV
  split
  · exact absurd ⟨rfl, rfl⟩ (h1 _ _ _ _)
  · exact absurd ⟨rfl, rfl⟩ (h2 _ _)
  · rfl
theorem isNil_no {g : Nat} {w w' : Value} {a : Bool} (h : isNil g w a) : (∀ k x k' y, ¬ (w = .int k x ∧ w' = .int k' y)) ∧ ∀ x y, ¬ (w = .string x ∧ w' = .string y) := by
  constructor
  · rintro k x k' y ⟨rfl, _⟩
    unfold isNil at h
    split at h <;> first | exact h | (split at h <;> simp at h)
  · rintro x y ⟨rfl, _⟩
    unfold isNil at h
    split at h <;> first | exact h | (split at h <;> simp at h)
def plainV : Value → Prop
  | .int _ _ | .float _ _ | .complex _ _ _ | .string _ => False
  | _ => True
theorem binOp_eql {t : TypeId} {w w' : Value} (h : plainV w) : binOp .eql t w w' = (do pure (.bool (← Op.equal t w w'))) := by
  cases w <;> first | rfl | exact h.elim | (cases w' <;> rfl)
theorem binOp_neq {t : TypeId} {w w' : Value} (h : plainV w) : binOp .neq t w w' = (do pure (.bool (!(← Op.equal t w w')))) := by
  cases w <;> first | rfl | exact h.elim | (cases w' <;> rfl)
/-- == and != by what Op.equal says. -/
theorem bin_of_equal {t : TypeId} {op : BinOp} {xo yo : Operand} {w w' : Value} {r : Bool} (hop : op = .eql ∨ op = .neq) (h : plainV w)
    (hg : qrun P (eqGuard op t xo yo w w') H = some ()) (he : qrun P (Op.equal t w w') H = some r) : binV P (full H) op t xo yo w w' = some (.bool (if op = .eql then r else !r)) := by
  rw [binV_gen (fun k x k' y e => by rw [e.1] at h; exact h) (fun x y e => by rw [e.1] at h; exact h)]
  show qrun P (do eqGuard op t xo yo w w'; binOp op t w w') H = _
  rw [qrun_bind', hg, Option.bind_some]
  rcases hop with rfl | rfl
  · rw [binOp_eql h, qrun_bind', he]; rfl
  · rw [binOp_neq h, qrun_bind', he]; rfl
theorem isNil_not {g : Nat} {w : Value} {a : Bool} (h : isNil g w a) : plainV w := by
  cases w <;> first | trivial | (unfold isNil at h; exfalso; split at h <;> first | exact h | (split at h <;> simp at h))
def nilE (g : Nat) (neg : Bool) (x y : AV) (k : AV → Bool) : Bool := eqN g x y fun b => k (.b (@Bool.rec (fun _ => Bool) b (@Bool.rec (fun _ => Bool) true false b) neg))
theorem nilE_ok {t : TypeId} {d : TypeDesc} {g : Nat} {op : BinOp} {xo yo : Operand} {x y : AV} {w w' : Value} {k : AV → Bool} (hop : op = .eql ∨ op = .neq) (hu : P.underlying t = some d) (hg : kindN' d = some g) (hc : oneConst xo yo = true)
    (hx : VR σ φ x w) (hy : VR σ φ y w') (h : nilE g (match op with | .eql => false | _ => true) x y k = true) : ∃ v r, binV P (full H) op t xo yo w w' = some r ∧ VR σ φ v r ∧ k v = true := by
  have hg4 : g ≤ 4 := by unfold kindN' at hg; split at hg <;> cases hg <;> omega
  obtain ⟨a, b, h1, h2, h3, h4⟩ := eqN_ok hg4 hx hy h
  refine ⟨_, _, bin_of_equal hop (isNil_not h1) (guard_nil hop hc h1 h2) (equal_nil hu hg h1 h2 h3), ?_, h4⟩
  simp only [VR]
  rcases hop with rfl | rfl
  · rfl
  · cases a <;> cases b <;> rfl
def booE (neg : Bool) (x y : AV) (k : AV → Bool) : Bool := x.on_b (fun a => y.on_b (fun b => k (.b (@Bool.rec (fun _ => Bool) (@Bool.rec (fun _ => Bool) (@Bool.rec (fun _ => Bool) true false b) b a) (@Bool.rec (fun _ => Bool) b (@Bool.rec (fun _ => Bool) true false b) a) neg))) false) false
theorem booE_ok {t : TypeId} {op : BinOp} {xo yo : Operand} {x y : AV} {w w' : Value} {k : AV → Bool} (hop : op = .eql ∨ op = .neq) (hu : P.underlying t = some .bool)
    (hx : VR σ φ x w) (hy : VR σ φ y w') (h : booE (match op with | .eql => false | _ => true) x y k = true) : ∃ v r, binV P (full H) op t xo yo w w' = some r ∧ VR σ φ v r ∧ k v = true := by
  obtain ⟨a, rfl, rfl, h⟩ := on_b_sound hx h
  obtain ⟨b, rfl, rfl, h⟩ := on_b_sound hy h
  refine ⟨_, .bool (if op = .eql then a == b else !(a == b)), ?_, ?_, h⟩
  · rcases hop with rfl | rfl
    · exact bin_bool_eql hu
    · exact bin_bool_neq hu
  · simp only [VR]
    rcases hop with rfl | rfl <;> cases a <;> cases b <;> rfl
end
end Go.Run
