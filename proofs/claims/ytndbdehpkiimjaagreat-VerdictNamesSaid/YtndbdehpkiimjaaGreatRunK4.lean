/- Closed runs: comparisons of what is no number and no text; parts of structs. -/
import Derived.Test.YtndbdehpkiimjaaGreatRunJ
namespace Go.Run
open Go.HL
variable {σ : Nat → Value} {F : Nat → Option Obj} {φ : Phi} {A : AH} {H : Heap} {P : Program} {V : HV}
noncomputable section
set_option linter.unusedVariables false

/-- Is it a value that is not nil, of kind g? -/
def thing (g : Nat) (v : AV) : Bool :=
  v.on_p (fun _ _ => Nat.beq g 0) (v.on_q (fun _ _ _ _ _ _ => Nat.beq g 1) (v.on_m (fun _ => Nat.beq g 2) (v.on_f (fun _ _ _ => Nat.beq g 3) (v.on_i (fun _ _ => Nat.beq g 4) false))))
/-- Of two values of kind g, of which one is nil: are they the same? -/
def eqN (g : Nat) (x y : AV) (k : Bool → Bool) : Bool :=
  x.on_nil (fun a => ifB (Nat.beq a g) (y.on_nil (fun b => ifB (Nat.beq b g) (k true) false) (ifB (thing g y) (k false) false)) false)
    (y.on_nil (fun b => ifB (Nat.beq b g) (ifB (thing g x) (k false) false) false) false)
/-- A real value of kind g: nil or not. -/
def isNil (g : Nat) (w : Value) (b : Bool) : Prop :=
  match g with
  | 0 => if b then w = .pointer none else ∃ a, w = .pointer (some a)
  | 1 => if b then w = .slice none 0 0 else ∃ a n c, w = .slice (some a) n c
  | 2 => if b then w = .map none else ∃ r, w = .map (some r)
  | 3 => if b then w = .nilFunc else ∃ f xs ys, w = .func f xs ys
  | 4 => if b then w = .nilIface else ∃ t v, w = .iface t v
  | _ => False
theorem thing_ok {g : Nat} {v : AV} {w : Value} (hv : VR σ φ v w) (h : thing g v = true) : isNil g w false := by
  cases v with
  | p i o => have : g = 0 := Nat.eq_of_beq_eq_true h; subst this; simp only [VR] at hv; obtain ⟨e, _, rfl⟩ := hv; exact ⟨_, rfl⟩
  | q i o len cap z ex => have : g = 1 := Nat.eq_of_beq_eq_true h; subst this; simp only [VR] at hv; obtain ⟨e, x, c, _, rfl, _⟩ := hv; exact ⟨_, _, _, rfl⟩
  | m i => have : g = 2 := Nat.eq_of_beq_eq_true h; subst this; simp only [VR] at hv; obtain ⟨e, _, rfl⟩ := hv; exact ⟨_, rfl⟩
  | f fn xs ys => have : g = 3 := Nat.eq_of_beq_eq_true h; subst this; simp only [VR] at hv; obtain ⟨xs', ys', rfl, _⟩ := hv; exact ⟨_, _, _, rfl⟩
  | i t u2 => have : g = 4 := Nat.eq_of_beq_eq_true h; subst this; simp only [VR] at hv; obtain ⟨v', rfl, _⟩ := hv; exact ⟨_, _, rfl⟩
  | _ => cases h
theorem nil_ok {g : Nat} {w : Value} (hg : g ≤ 4) (hv : VR σ φ (.nil g) w) : isNil g w true := by
  simp only [VR] at hv
  subst hv
  match g, hg with
  | 0, _ => rfl
  | 1, _ => rfl
  | 2, _ => rfl
  | 3, _ => rfl
  | 4, _ => rfl
theorem eqN_ok {g : Nat} {x y : AV} {w w' : Value} {k : Bool → Bool} (hg : g ≤ 4) (hx : VR σ φ x w) (hy : VR σ φ y w') (h : eqN g x y k = true) : ∃ a b, isNil g w a ∧ isNil g w' b ∧ (a || b) = true ∧ k (a && b) = true := by
  unfold eqN at h
  rcases AV.on_nil_eq x (fun a => ifB (Nat.beq a g) (y.on_nil (fun b => ifB (Nat.beq b g) (k true) false) (ifB (thing g y) (k false) false)) false)
    (y.on_nil (fun b => ifB (Nat.beq b g) (ifB (thing g x) (k false) false) false) false) with ⟨a, rfl, e⟩ | e
  · rw [e] at h
    obtain ⟨h1, h⟩ := ifB_and h
    have := Nat.eq_of_beq_eq_true h1
    subst this
    rcases AV.on_nil_eq y (fun b => ifB (Nat.beq b a) (k true) false) (ifB (thing a y) (k false) false) with ⟨b, rfl, e⟩ | e
    · rw [e] at h
      obtain ⟨h2, h'⟩ := ifB_and h
      clear h
      have := Nat.eq_of_beq_eq_true h2
      subst this
      exact ⟨true, true, nil_ok hg hx, nil_ok hg hy, rfl, h'⟩
    · rw [e] at h
      obtain ⟨h2, h⟩ := ifB_and h
      exact ⟨true, false, nil_ok hg hx, thing_ok hy h2, rfl, h⟩
  · rw [e] at h
    rcases AV.on_nil_eq y (fun b => ifB (Nat.beq b g) (ifB (thing g x) (k false) false) false) false with ⟨b, rfl, e⟩ | e
    · rw [e] at h
      obtain ⟨h1, h⟩ := ifB_and h
      have := Nat.eq_of_beq_eq_true h1
      subst this
      obtain ⟨h2, h⟩ := ifB_and h
      exact ⟨false, true, thing_ok hx h2, nil_ok hg hy, rfl, h⟩
    · rw [e] at h; cases h
def kindN' : TypeDesc → Option Nat
  | .pointer _ => some 0 | .slice _ => some 1 | .map _ _ => some 2 | .func .. => some 3 | .interface _ => some 4 | _ => none
theorem equal_nil {t : TypeId} {d : TypeDesc} {g : Nat} {w w' : Value} {a b : Bool} (hu : P.underlying t = some d) (hg : kindN' d = some g) (h1 : isNil g w a) (h2 : isNil g w' b) (hab : (a || b) = true) :
    qrun P (Op.equal t w w') H = some (a && b) := by
  unfold Op.equal Op.maxDepth Op.equalIn
  rw [qrun_bind', qrun_underlying hu, Option.bind_some]
  unfold kindN' at hg
  split at hg <;> (try cases hg)
  all_goals (cases a <;> cases b <;> simp only [isNil] at h1 h2 <;> try cases hab)
  all_goals first
    | (obtain ⟨_, rfl⟩ := h1; obtain rfl : _ = _ := h2; rfl)
    | (obtain ⟨_, _, _, rfl⟩ := h1; obtain rfl : _ = _ := h2; rfl)
    | (obtain ⟨_, _, rfl⟩ := h1; obtain rfl : _ = _ := h2; rfl)
    | (obtain ⟨_, rfl⟩ := h2; obtain rfl : _ = _ := h1; rfl)
    | (obtain ⟨_, _, _, rfl⟩ := h2; obtain rfl : _ = _ := h1; rfl)
    | (obtain ⟨_, _, rfl⟩ := h2; obtain rfl : _ = _ := h1; rfl)
    | (obtain rfl : _ = _ := h1; obtain rfl : _ = _ := h2; rfl)
/-- Is one of them a constant? -/
def oneConst : Operand → Operand → Bool
  | .const _, _ => true
  | _, .const _ => true
  | _, _ => false
theorem guard_nil {t : TypeId} {op : BinOp} (hop : op = .eql ∨ op = .neq) {xo yo : Operand} {g : Nat} {w w' : Value} {a b : Bool} (hc : oneConst xo yo = true) (h1 : isNil g w a) (h2 : isNil g w' b) : qrun P (eqGuard op t xo yo w w') H = some () := by
  have key : (∃ p q, w = .agg p ∧ w' = .agg q) ∨ qrun P (eqGuard op t xo yo w w') H = some () := by
    rcases hop with rfl | rfl <;> cases xo <;> (try cases yo) <;> (try cases hc) <;> cases w <;> (first | exact .inr rfl | skip) <;> cases w' <;> first | exact .inr rfl | exact .inl ⟨_, _, rfl, rfl⟩
  rcases key with ⟨p, q, rfl, rfl⟩ | h
  · exfalso
    unfold isNil at h1
    split at h1 <;> first | exact h1 | (split at h1 <;> simp at h1)
  · exact h
theorem binV_gen {t : TypeId} {op : BinOp} {xo yo : Operand} {w w' : Value} (h1 : ∀ k x k' y, ¬ (w = .int k x ∧ w' = .int k' y)) (h2 : ∀ x y, ¬ (w = .string x ∧ w' = .string y)) :
    binV P V op t xo yo w w' = qrunV P (do eqGuard op t xo yo w w'; binOp op t w w') V := by
  unfold binV
  split
  · exact absurd ⟨rfl, rfl⟩ (h1 _ _ _ _)
  · exact absurd ⟨rfl, rfl⟩ (h2 _ _)
  · rfl
theorem isNil_no {g : Nat} {w w' : Value} {a : Bool} (h : isNil g w a) : (∀ k x k' y, ¬ (w = .int k x ∧ w' = .int k' y)) ∧ ∀ x y, ¬ (w = .string x ∧ w' = .string y) := by
  constructor
  · rintro k x k' y ⟨rfl, _⟩
    unfold isNil at h
    split at h <;> first | exact h | (split at h <;> simp at h)
  · rintro x y ⟨rfl, _⟩
    unfold isNil at h
    split at h <;> first | exact h | (split at h <;> simp at h)
def plainV : Value → Prop
  | .int _ _ | .float _ _ | .complex _ _ _ | .string _ => False
  | _ => True
theorem binOp_eql {t : TypeId} {w w' : Value} (h : plainV w) : binOp .eql t w w' = (do pure (.bool (← Op.equal t w w'))) := by
  cases w <;> first | rfl | exact h.elim | (cases w' <;> rfl)
theorem binOp_neq {t : TypeId} {w w' : Value} (h : plainV w) : binOp .neq t w w' = (do pure (.bool (!(← Op.equal t w w')))) := by
  cases w <;> first | rfl | exact h.elim | (cases w' <;> rfl)
/-- == and != by what Op.equal says. -/
theorem bin_of_equal {t : TypeId} {op : BinOp} {xo yo : Operand} {w w' : Value} {r : Bool} (hop : op = .eql ∨ op = .neq) (h : plainV w)
    (hg : qrun P (eqGuard op t xo yo w w') H = some ()) (he : qrun P (Op.equal t w w') H = some r) : binV P (full H) op t xo yo w w' = some (.bool (if op = .eql then r else !r)) := by
  rw [binV_gen (fun k x k' y e => by rw [e.1] at h; exact h) (fun x y e => by rw [e.1] at h; exact h)]
  show qrun P (do eqGuard op t xo yo w w'; binOp op t w w') H = _
  rw [qrun_bind', hg, Option.bind_some]
  rcases hop with rfl | rfl
  · rw [binOp_eql h, qrun_bind', he]; rfl
  · rw [binOp_neq h, qrun_bind', he]; rfl
theorem isNil_not {g : Nat} {w : Value} {a : Bool} (h : isNil g w a) : plainV w := by
  cases w <;> first | trivial | (unfold isNil at h; exfalso; split at h <;> first | exact h | (split at h <;> simp at h))
def nilE (g : Nat) (neg : Bool) (x y : AV) (k : AV → Bool) : Bool := eqN g x y fun b => k (.b (@Bool.rec (fun _ => Bool) b (@Bool.rec (fun _ => Bool) true false b) neg))
theorem nilE_ok {t : TypeId} {d : TypeDesc} {g : Nat} {op : BinOp} {xo yo : Operand} {x y : AV} {w w' : Value} {k : AV → Bool} (hop : op = .eql ∨ op = .neq) (hu : P.underlying t = some d) (hg : kindN' d = some g) (hc : oneConst xo yo = true)
    (hx : VR σ φ x w) (hy : VR σ φ y w') (h : nilE g (match op with | .eql => false | _ => true) x y k = true) : ∃ v r, binV P (full H) op t xo yo w w' = some r ∧ VR σ φ v r ∧ k v = true := by
  have hg4 : g ≤ 4 := by unfold kindN' at hg; split at hg <;> cases hg <;> omega
  obtain ⟨a, b, h1, h2, h3, h4⟩ := eqN_ok hg4 hx hy h
  refine ⟨_, _, bin_of_equal hop (isNil_not h1) (guard_nil hop hc h1 h2) (equal_nil hu hg h1 h2 h3), ?_, h4⟩
  simp only [VR]
  rcases hop with rfl | rfl
  · rfl
  · cases a <;> cases b <;> rfl
def booE (neg : Bool) (x y : AV) (k : AV → Bool) : Bool := x.on_b (fun a => y.on_b (fun b => k (.b (@Bool.rec (fun _ => Bool) (@Bool.rec (fun _ => Bool) (@Bool.rec (fun _ => Bool) true false b) b a) (@Bool.rec (fun _ => Bool) b (@Bool.rec (fun _ => Bool) true false b) a) neg))) false) false
theorem booE_ok {t : TypeId} {op : BinOp} {xo yo : Operand} {x y : AV} {w w' : Value} {k : AV → Bool} (hop : op = .eql ∨ op = .neq) (hu : P.underlying t = some .bool)
    (hx : VR σ φ x w) (hy : VR σ φ y w') (h : booE (match op with | .eql => false | _ => true) x y k = true) : ∃ v r, binV P (full H) op t xo yo w w' = some r ∧ VR σ φ v r ∧ k v = true := by
  obtain ⟨a, rfl, rfl, h⟩ := on_b_sound hx h
  obtain ⟨b, rfl, rfl, h⟩ := on_b_sound hy h
  refine ⟨_, .bool (if op = .eql then a == b else !(a == b)), ?_, ?_, h⟩
  · rcases hop with rfl | rfl
    · exact bin_bool_eql hu
    · exact bin_bool_neq hu
  · simp only [VR]
    rcases hop with rfl | rfl <;> cases a <;> cases b <;> rfl
end
end Go.Run
namespace Go.Run
open Go.HL
variable {σ : Nat → Value} {F : Nat → Option Obj} {φ : Phi} {A : AH} {H : Heap} {P : Program} {V : HV}
noncomputable section
set_option linter.unusedVariables false

/-- What is known of a type. -/
abbrev withT (T : TR) (t : Nat) (k : TI → Bool) : Bool := @Option.rec TI (fun _ => Bool) false k (T.get t)
theorem withT_ok {T : TR} (hT : TTok P T) {t : Nat} {k : TI → Bool} (h : withT T t k = true) : ∃ i, TIok P t i ∧ k i = true := by
  unfold withT at h
  cases hg : T.get t with
  | none => rw [hg] at h; cases h
  | some i => rw [hg] at h; exact ⟨i, hT t i hg, h⟩
abbrev aggK (k : TK) : Bool := @TK.rec (fun _ => Bool) (fun _ => false) false false (fun _ => false) (fun _ => false) (fun _ _ => true) (fun _ _ => false) true false false false k
theorem aggN_of {t : Nat} {i : TI} (hi : TIok P t i) : aggN P t = some (if aggK i.k then some i.size else none) := by
  obtain ⟨d, h1, h2⟩ := hi.kind
  unfold aggN
  rw [h1, ← h2]
  cases d <;> simp [kindOf, aggK, hi.size]

/-! ### load -/
abbrev ldT (T : TR) (A : AH) (t : Nat) (p : AV) (k : AV → Bool) : Bool := withT T t fun i => @Bool.rec (fun _ => Bool) (ld A p k) (ldN A p i.size fun l => k (.a l)) (aggK i.k)
theorem ldT_ok {T : TR} (hT : TTok P T) {t : Nat} {p : AV} {w : Value} {k : AV → Bool} (h : Rel σ F φ A H) (hp : VR σ φ p w) (hk : ldT T A t p k = true) :
    ∃ a v r, w = .pointer (some a) ∧ loadA P (full H) t a = some r ∧ VR σ φ v r ∧ k v = true := by
  obtain ⟨i, hi, hk⟩ := withT_ok hT hk
  cases hb : aggK i.k with
  | false =>
    rw [hb] at hk
    obtain ⟨a, v, r, h1, h2, h3, h4, h5⟩ := ld_sound h hp hk
    refine ⟨a, v, r, h1, ?_, h4, h5⟩
    unfold loadA
    rw [aggN_of hi, hb]
    exact h3
  | true =>
    rw [hb] at hk
    obtain ⟨a, l, ws, h1, h2, h3, h4, h5, h6⟩ := ldN_sound h hp hk
    refine ⟨a, .a l, .agg ws.toArray, h1, ?_, by simp only [VR]; exact ⟨_, rfl, by simpa using h5⟩, h6⟩
    unfold loadA
    rw [aggN_of hi, hb]
    simp only [if_true]
    show (cellsH (cellH H) a 0 i.size).map _ = _
    rw [h3]
    rfl

/-! ### binOp -/
abbrev binA (op : BinOp) (kd : TK) (xo yo : Operand) (x y : AV) (k : AV → Bool) : Bool :=
  match kd, op with
  | .int _, .add => addA x y k
  | .int _, .sub => subA x y k
  | .int _, .mul => mulA x y k
  | .int _, .quo => quoA x y k
  | .int _, .rem => remA x y k
  | .int _, .and => andA x y k
  | .int _, .or => orA x y k
  | .int _, .xor => xorA x y k
  | .int _, .eql => eqlA x y k
  | .int _, .neq => neqA x y k
  | .int _, .lss => lssA x y k
  | .int _, .leq => leqA x y k
  | .int _, .gtr => gtrA x y k
  | .int _, .geq => geqA x y k
  | .int _, op => binI op x y k
  | .str, .add => scatA x y k
  | .str, .eql => seqA x y k
  | .str, .neq => sneA x y k
  | .bool, .eql => booE false x y k
  | .bool, .neq => booE true x y k
  | .ptr _, .eql => @Bool.rec (fun _ => Bool) false (nilE 0 false x y k) (oneConst xo yo)
  | .ptr _, .neq => @Bool.rec (fun _ => Bool) false (nilE 0 true x y k) (oneConst xo yo)
  | .slice _, .eql => @Bool.rec (fun _ => Bool) false (nilE 1 false x y k) (oneConst xo yo)
  | .slice _, .neq => @Bool.rec (fun _ => Bool) false (nilE 1 true x y k) (oneConst xo yo)
  | .map _ _, .eql => @Bool.rec (fun _ => Bool) false (nilE 2 false x y k) (oneConst xo yo)
  | .map _ _, .neq => @Bool.rec (fun _ => Bool) false (nilE 2 true x y k) (oneConst xo yo)
  | .func, .eql => @Bool.rec (fun _ => Bool) false (nilE 3 false x y k) (oneConst xo yo)
  | .func, .neq => @Bool.rec (fun _ => Bool) false (nilE 3 true x y k) (oneConst xo yo)
  | .iface, .eql => @Bool.rec (fun _ => Bool) false (nilE 4 false x y k) (oneConst xo yo)
  | .iface, .neq => @Bool.rec (fun _ => Bool) false (nilE 4 true x y k) (oneConst xo yo)
  | _, _ => false
theorem bin_ok' {op : BinOp} {f : AV → AV → (AV → Bool) → Bool} (h : binOK P op f) {t : TypeId} {xo yo : Operand} {x y : AV} {w w' : Value} {k : AV → Bool} (hx : VR σ φ x w) (hy : VR σ φ y w') (hk : f x y k = true) :
    ∃ v r, binV P (full H) op t xo yo w w' = some r ∧ VR σ φ v r ∧ k v = true :=
  let ⟨r, v, a, b, c⟩ := h _ _ (full H) t xo yo _ _ _ _ _ hx hy hk; ⟨v, r, a, b, c⟩
theorem binA_ok {t : TypeId} {op : BinOp} {kd : TK} {d : TypeDesc} {xo yo : Operand} {x y : AV} {w w' : Value} {k : AV → Bool} (hu : P.underlying t = some d) (hd : kindOf d = kd)
    (hx : VR σ φ x w) (hy : VR σ φ y w') (h : binA op kd xo yo x y k = true) : ∃ v r, binV P (full H) op t xo yo w w' = some r ∧ VR σ φ v r ∧ k v = true := by
  have nil : ∀ (g : Nat) (b : Bool), kindN' d = some g → (op = .eql ∧ b = false ∨ op = .neq ∧ b = true) → @Bool.rec (fun _ => Bool) false (nilE g b x y k) (oneConst xo yo) = true → ∃ v r, binV P (full H) op t xo yo w w' = some r ∧ VR σ φ v r ∧ k v = true := by
    intro g b hg hop hk
    obtain ⟨hc, hk⟩ := bool_t hk
    rcases hop with ⟨rfl, rfl⟩ | ⟨rfl, rfl⟩
    · exact nilE_ok (op := .eql) (.inl rfl) hu hg hc hx hy hk
    · exact nilE_ok (op := .neq) (.inr rfl) hu hg hc hx hy hk
  unfold binA at h
  split at h
  · exact bin_ok' addA_ok hx hy h
  · exact bin_ok' subA_ok hx hy h
  · exact bin_ok' mulA_ok hx hy h
  · exact bin_ok' quoA_ok hx hy h
  · exact bin_ok' remA_ok hx hy h
  · exact bin_ok' andA_ok hx hy h
  · exact bin_ok' orA_ok hx hy h
  · exact bin_ok' xorA_ok hx hy h
  · exact bin_ok' eqlA_ok hx hy h
  · exact bin_ok' neqA_ok hx hy h
  · exact bin_ok' lssA_ok hx hy h
  · exact bin_ok' leqA_ok hx hy h
  · exact bin_ok' gtrA_ok hx hy h
  · exact bin_ok' geqA_ok hx hy h
  · exact bin_ok' binI_ok hx hy h
  · exact bin_ok' scatA_ok hx hy h
  · exact bin_ok' seqA_ok hx hy h
  · exact bin_ok' sneA_ok hx hy h
  · have : d = .bool := by cases d <;> first | rfl | cases hd
    subst this
    exact booE_ok (op := .eql) (.inl rfl) hu hx hy h
  · have : d = .bool := by cases d <;> first | rfl | cases hd
    subst this
    exact booE_ok (op := .neq) (.inr rfl) hu hx hy h
  · exact nil 0 false (by cases d <;> first | rfl | cases hd) (.inl ⟨rfl, rfl⟩) h
  · exact nil 0 true (by cases d <;> first | rfl | cases hd) (.inr ⟨rfl, rfl⟩) h
  · exact nil 1 false (by cases d <;> first | rfl | cases hd) (.inl ⟨rfl, rfl⟩) h
  · exact nil 1 true (by cases d <;> first | rfl | cases hd) (.inr ⟨rfl, rfl⟩) h
  · exact nil 2 false (by cases d <;> first | rfl | cases hd) (.inl ⟨rfl, rfl⟩) h
  · exact nil 2 true (by cases d <;> first | rfl | cases hd) (.inr ⟨rfl, rfl⟩) h
  · exact nil 3 false (by cases d <;> first | rfl | cases hd) (.inl ⟨rfl, rfl⟩) h
  · exact nil 3 true (by cases d <;> first | rfl | cases hd) (.inr ⟨rfl, rfl⟩) h
  · exact nil 4 false (by cases d <;> first | rfl | cases hd) (.inl ⟨rfl, rfl⟩) h
  · exact nil 4 true (by cases d <;> first | rfl | cases hd) (.inr ⟨rfl, rfl⟩) h
  · cases h
end
end Go.Run
namespace Go.Run
open Go.HL
variable {σ : Nat → Value} {F : Nat → Option Obj} {φ : Phi} {A : AH} {H : Heap} {P : Program} {V : HV}
noncomputable section
set_option linter.unusedVariables false

abbrev nthF (l : List (Nat × Nat)) (n : Nat) (k : Nat → Nat → Bool) : Bool := @Option.rec (Nat × Nat) (fun _ => Bool) false (fun x => k x.1 x.2) l[n]?
theorem nthF_ok {l : List (Nat × Nat)} {n : Nat} {k : Nat → Nat → Bool} (h : nthF l n k = true) : ∃ d t, l[n]? = some (d, t) ∧ k d t = true := by
  unfold nthF at h
  cases hl : l[n]? with
  | none => rw [hl] at h; cases h
  | some x => rw [hl] at h; exact ⟨x.1, x.2, rfl, h⟩
/-- The parts of a struct that is put together, with their places. -/
abbrev partsA (ρ : Nat → AV) (pl : List (Nat × Nat)) (ps : List (Nat × Operand)) (k : List (Nat × Nat × AV) → Bool) : Bool :=
  @List.rec (Nat × Operand) (fun _ => (List (Nat × Nat × AV) → Bool) → Bool) (fun k => k []) (fun p _ ih k => nthF pl p.1 fun d z => ih fun l => k ((d, z, ev ρ p.2) :: l)) ps k
theorem partsA_ok {ρ : Nat → AV} {e : En} (he : ER σ φ ρ e) {pl : List (Nat × Nat)} : ∀ (ps : List (Nat × Operand)) (k : List (Nat × Nat × AV) → Bool), partsA ρ pl ps k = true →
    ∃ l, l.length = (ps.map fun p => (p.1, e.ev p.2)).length ∧ (∀ (j : Nat) p q, l[j]? = some p → (ps.map fun p => (p.1, e.ev p.2))[j]? = some q → pl[q.1]? = some (p.1, p.2.1) ∧ VR σ φ p.2.2 q.2) ∧ k l = true
  | [], k, h => ⟨[], rfl, by simp, h⟩
  | p :: ps, k, h => by
    obtain ⟨d, z, h1, h2⟩ := nthF_ok (show nthF pl p.1 (fun d z => partsA ρ pl ps fun l => k ((d, z, ev ρ p.2) :: l)) = true from h)
    obtain ⟨l, h3, h4, h5⟩ := partsA_ok he ps _ h2
    refine ⟨_, by simpa using h3, ?_, h5⟩
    intro j p' q' a b
    cases j with
    | zero =>
      simp only [List.getElem?_cons_zero, Option.some.injEq, List.map_cons] at a b
      subst a b
      exact ⟨h1, ev_ok he p.2⟩
    | succ j => exact h4 j p' q' (by simpa using a) (by simpa using b)
/-- The parts of an array or a slice that is put together. -/
abbrev partsR (ρ : Nat → AV) (z : Nat) (ps : List (Nat × Operand)) (k : List (Nat × Nat × AV) → Bool) : Bool :=
  @List.rec (Nat × Operand) (fun _ => (List (Nat × Nat × AV) → Bool) → Bool) (fun k => k []) (fun p _ ih k => ih fun l => k ((Nat.mul p.1 z, z, ev ρ p.2) :: l)) ps k
theorem partsR_ok {ρ : Nat → AV} {e : En} (he : ER σ φ ρ e) {z : Nat} : ∀ (ps : List (Nat × Operand)) (k : List (Nat × Nat × AV) → Bool), partsR ρ z ps k = true →
    ∃ l, l.length = (ps.map fun p => (p.1, e.ev p.2)).length ∧ (∀ (j : Nat) p q, l[j]? = some p → (ps.map fun p => (p.1, e.ev p.2))[j]? = some q → p.1 = q.1 * z ∧ p.2.1 = z ∧ VR σ φ p.2.2 q.2) ∧ k l = true
  | [], k, h => ⟨[], rfl, by simp, h⟩
  | p :: ps, k, h => by
    obtain ⟨l, h3, h4, h5⟩ := partsR_ok he ps _ (show partsR ρ z ps (fun l => k ((Nat.mul p.1 z, z, ev ρ p.2) :: l)) = true from h)
    refine ⟨_, by simpa using h3, ?_, h5⟩
    intro j p' q' a b
    cases j with
    | zero =>
      simp only [List.getElem?_cons_zero, Option.some.injEq, List.map_cons] at a b
      subst a b
      exact ⟨rfl, rfl, ev_ok he p.2⟩
    | succ j => exact h4 j p' q' (by simpa using a) (by simpa using b)

abbrev slcA (T : TR) (ρ : Nat → AV) (t : Nat) (x : Operand) (lo hi : Option Operand) (k : AV → Bool) : Bool := withT T t fun i => match i.k, lo, hi with
  | .slice e, none, some h => withT T e fun j => slHi (ev ρ x) j.size (ev ρ h) k
  | .slice e, some l, none => withT T e fun j => slLo (ev ρ x) j.size (ev ρ l) k
  | .slice e, some l, some h => withT T e fun j => slLH (ev ρ x) j.size (ev ρ l) (ev ρ h) k
  | .str, none, some h => ssHi (ev ρ x) (ev ρ h) k
  | .str, some l, none => ssLo (ev ρ x) (ev ρ l) k
  | .str, some l, some h => ssLH (ev ρ x) (ev ρ l) (ev ρ h) k
  | _, _, _ => false
theorem elemS_of {t e : Nat} {d : TypeDesc} {j : TI} (hu : P.underlying t = some d) (hd : kindOf d = .slice e) (hj : TIok P e j) : elemS P t = some j.size ∧ elemT P t = some e ∧ P.underlying t = some (.slice e) := by
  have : d = .slice e := by cases d <;> cases hd <;> rfl
  subst this
  refine ⟨?_, ?_, hu⟩
  · simp [elemS, elemT, hu, hj.size]
  · simp [elemT, hu]
theorem str_of {t : Nat} {d : TypeDesc} (hu : P.underlying t = some d) (hd : kindOf d = .str) : P.underlying t = some .string := by
  have : d = .string := by cases d <;> cases hd <;> rfl
  subst this; exact hu
theorem slcA_ok {T : TR} (hT : TTok P T) {ρ : Nat → AV} {e : En} (he : ER σ φ ρ e) {t : Nat} {x : Operand} {lo hi : Option Operand} {k : AV → Bool} (h : slcA T ρ t x lo hi k = true) :
    ∃ v r, sliceV P t (e.ev x) (optMap e.ev lo) (optMap e.ev hi) none = some r ∧ VR σ φ v r ∧ k v = true := by
  obtain ⟨i, hi', h⟩ := withT_ok hT h
  obtain ⟨d, hu, hd⟩ := hi'.kind
  split at h
  · rename_i el hh hk _
    obtain ⟨j, hj, h⟩ := withT_ok hT h
    exact slHi_ok (elemS_of hu (hd.trans hk) hj).1 (ev_ok he x) (ev_ok he hh) h
  · rename_i el hh hk _
    obtain ⟨j, hj, h⟩ := withT_ok hT h
    exact slLo_ok (elemS_of hu (hd.trans hk) hj).1 (ev_ok he x) (ev_ok he hh) h
  · rename_i el l hh hk _
    obtain ⟨j, hj, h⟩ := withT_ok hT h
    exact slLH_ok (elemS_of hu (hd.trans hk) hj).1 (ev_ok he x) (ev_ok he l) (ev_ok he hh) h
  · rename_i hh hk _
    exact ssHi_ok (str_of hu (hd.trans hk)) (ev_ok he x) (ev_ok he hh) h
  · rename_i hh hk _
    exact ssLo_ok (str_of hu (hd.trans hk)) (ev_ok he x) (ev_ok he hh) h
  · rename_i l hh hk _
    exact ssLH_ok (str_of hu (hd.trans hk)) (ev_ok he x) (ev_ok he l) (ev_ok he hh) h
  · cases h
end
end Go.Run
namespace Go.Run
open Go.HL
variable {σ : Nat → Value} {F : Nat → Option Obj} {φ : Phi} {A : AH} {H : Heap} {P : Program} {V : HV}
noncomputable section
set_option linter.unusedVariables false

def eqB (a b : Bool) : Bool := @Bool.rec (fun _ => Bool) (@Bool.rec (fun _ => Bool) true false b) b a
theorem eqB_eq (a b : Bool) : eqB a b = (a == b) := by cases a <;> cases b <;> rfl
def eqI1 (a b : AV) (k : Bool → Bool) : Bool := a.int fun g x => b.int fun g' y => ifB (Nat.beq (kindN g) (kindN g')) (k (eqI x y)) false
def eqB1 (a b : AV) (k : Bool → Bool) : Bool := a.on_b (fun p => b.on_b (fun q => k (eqB p q)) false) false
def eqS1 (a b : AV) (k : Bool → Bool) : Bool := a.on_s (fun l => b.on_s (fun l' => k (eqL l l')) false) false
theorem eqI1_ok {a b : AV} {w w' : Value} {k : Bool → Bool} {g : IntKind} (ha : VR σ φ a w) (hb : VR σ φ b w') (h : eqI1 a b k = true) : ∃ r, eqD (some (.int g)) w w' = some r ∧ k r = true := by
  obtain ⟨g, x, rfl, h⟩ := AV.int_sound ha h
  obtain ⟨g', y, rfl, h⟩ := AV.int_sound hb h
  obtain ⟨hg, h5⟩ := ifB_and h
  clear h
  have := kindN_inj hg
  subst this
  rw [eqI_eq] at h5
  refine ⟨_, ?_, h5⟩
  simp [eqD]
  rfl
theorem eqB1_ok {a b : AV} {w w' : Value} {k : Bool → Bool} (ha : VR σ φ a w) (hb : VR σ φ b w') (h : eqB1 a b k = true) : ∃ r, eqD (some .bool) w w' = some r ∧ k r = true := by
  obtain ⟨p, rfl, rfl, h⟩ := on_b_sound ha h
  obtain ⟨q, rfl, rfl, h⟩ := on_b_sound hb h
  rw [eqB_eq] at h
  exact ⟨_, rfl, h⟩
theorem eqS1_ok {a b : AV} {w w' : Value} {k : Bool → Bool} (ha : VR σ φ a w) (hb : VR σ φ b w') (h : eqS1 a b k = true) : ∃ r, eqD (some .string) w w' = some r ∧ k r = true := by
  obtain ⟨l, rfl, rfl, h1, h⟩ := on_s_sound ha h
  obtain ⟨l', rfl, rfl, h2, h⟩ := on_s_sound hb h
  rw [eqL_eq] at h
  refine ⟨_, ?_, h⟩
  show some (strOf l == strOf l') = _
  congr 1
  rw [ba_beq]
  congr 1
  exact propext (strOf_inj h1 h2)
abbrev eq1 (kd : Nat) (a b : AV) (k : Bool → Bool) : Bool :=
  match kd with
  | 0 => eqI1 a b k
  | 1 => eqB1 a b k
  | 2 => eqS1 a b k
  | 3 => eqI1 a b k
  | _ => false
theorem eq1_ok {a b : AV} {w w' : Value} {k : Bool → Bool} {t kd : Nat} (hk : kindE P t = some kd) (ha : VR σ φ a w) (hb : VR σ φ b w') (h : eq1 kd a b k = true) : ∃ r, eqD (P.underlying t) w w' = some r ∧ k r = true := by
  unfold kindE at hk
  split at hk
  · rename_i hu; cases hk; rw [hu]; exact eqI1_ok ha hb h
  · rename_i hu; cases hk; rw [hu]; exact eqB1_ok ha hb h
  · rename_i hu; cases hk; rw [hu]; exact eqS1_ok ha hb h
  · rename_i hu; cases hk; rw [hu]; exact eqI1_ok ha hb h
  · cases hk
/-- The fields one by one. -/
def eqSL (l : List (Nat × Nat)) (xs ys : List AV) (k : Bool → Bool) : Bool :=
  @List.rec (Nat × Nat) (fun _ => Bool) (k true) (fun f _ ih => nthK xs f.1 fun a => nthK ys f.1 fun b => eq1 f.2 a b fun r => @Bool.rec (fun _ => Bool) (k false) ih r) l
theorem eqSL_ok {xs ys : List AV} {ws us : List Value} {k : Bool → Bool} (hx : VRl σ φ xs ws) (hy : VRl σ φ ys us) : ∀ (fs : List Field) (l : List (Nat × Nat)), eqkOf P fs = some l → eqSL l xs ys k = true → ∃ r, eqFs P ws us fs = some r ∧ k r = true
  | [], l, hl, h => by
    simp only [eqkOf, Option.some.injEq] at hl
    subst hl
    exact ⟨true, rfl, h⟩
  | f :: fs, l, hl, h => by
    unfold eqkOf at hl
    unfold eqFs
    by_cases hn : f.name = "_"
    · rw [if_pos hn] at hl ⊢
      exact eqSL_ok hx hy fs l hl h
    · rw [if_neg hn] at hl ⊢
      cases hkd : kindE P f.type with
      | none => rw [hkd] at hl; cases hl
      | some kd =>
        cases hr : eqkOf P fs with
        | none => rw [hkd, hr] at hl; cases hl
        | some r =>
          rw [hkd, hr] at hl
          simp only [Option.bind_some, Option.map_some, Option.some.injEq] at hl
          subst hl
          replace h : nthK xs f.offset (fun a => nthK ys f.offset fun b => eq1 kd a b fun q => @Bool.rec (fun _ => Bool) (k false) (eqSL r xs ys k) q) = true := h
          obtain ⟨a, h1, h⟩ := nthK_sound h
          obtain ⟨b, h2, h⟩ := nthK_sound h
          obtain ⟨w, h3, h4⟩ := hx.get h1
          obtain ⟨u, h5, h6⟩ := hy.get h2
          obtain ⟨q, h7, h⟩ := eq1_ok hkd h4 h6 h
          rw [h3, h5]
          simp only [Option.bind_some, h7]
          cases q with
          | true => exact eqSL_ok hx hy fs r hr h
          | false => exact ⟨false, rfl, h⟩
def strE (l : List (Nat × Nat)) (neg : Bool) (x y : AV) (k : AV → Bool) : Bool :=
  x.on_a (fun xs => y.on_a (fun ys => eqSL l xs ys fun b => k (.b (@Bool.rec (fun _ => Bool) b (@Bool.rec (fun _ => Bool) true false b) neg))) false) false
theorem strE_ok {t : Nat} {i : TI} {l : List (Nat × Nat)} {op : BinOp} {xo yo : Operand} {x y : AV} {w w' : Value} {k : AV → Bool} (hop : op = .eql ∨ op = .neq) (hi : TIok P t i) (hl : i.eqk = some l)
    (hx : VR σ φ x w) (hy : VR σ φ y w') (h : strE l (match op with | .eql => false | _ => true) x y k = true) : ∃ v r, binV P (full H) op t xo yo w w' = some r ∧ VR σ φ v r ∧ k v = true := by
  obtain ⟨xs, c, rfl, rfl, h1, h⟩ := on_a_sound hx h
  obtain ⟨ys, c', rfl, rfl, h2, h⟩ := on_a_sound hy h
  have he := hi.eqk
  rw [hl] at he
  unfold eqInfo at he
  split at he
  · rename_i fs hu
    split at he
    · cases he
    · rename_i hs
      simp only [Bool.or_eq_true, not_or, Bool.not_eq_true] at hs
      obtain ⟨r, h3, h⟩ := eqSL_ok h1 h2 fs.toList l he h
      have hb := bin_struct (H := H) (xo := xo) (yo := yo) (t := t) (fl := fs.toList) (xs := c.toList) (ys := c'.toList) (r := r) (by simpa using hu) hs.1 hs.2 h3
      simp only [Array.toArray_toList] at hb
      rcases hop with rfl | rfl
      · exact ⟨_, _, hb.1, by simp only [VR], h⟩
      · refine ⟨_, _, hb.2, ?_, h⟩
        simp only [VR]
        cases r <;> rfl
  · cases he
end
end Go.Run
