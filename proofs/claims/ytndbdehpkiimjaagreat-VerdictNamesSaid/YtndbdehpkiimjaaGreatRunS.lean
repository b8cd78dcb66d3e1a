
/- Closed runs: regions that draw the order of their operations. -/
import Derived.Test.YtndbdehpkiimjaaGreatRunR
namespace Go.Run
open Go.HL
variable {σ : Nat → Value} {F : Nat → Option Obj} {φ : Phi} {A : AH} {H : Heap} {P : Program} {V : HV}
noncomputable section
set_option linter.unusedVariables false

abbrev Kt := (Nat → AV) → AH → Bool
abbrev putA (ρ : Nat → AV) (dst : Option Nat) (v : AV) : Nat → AV :=
  @Option.rec Nat (fun _ => Nat → AV) ρ (fun d t => @Bool.rec (fun _ => AV) (ρ t) v (Nat.beq t d)) dst
structure ENV (σ : Nat → Value) (φ : Phi) (D : List Deferred) (ρ : Nat → AV) (e : En) : Prop where
  er : ER σ φ ρ e
  ds : e.ds = D
def dstOK (n : Nat) (dst : Option Nat) : Bool := @Option.rec Nat (fun _ => Bool) true (fun d => Nat.blt d n) dst
theorem ENV.put {n : Nat} {D : List Deferred} {ρ : Nat → AV} {e : En} {φ φ' : Phi} (h : ENV σ φ D ρ e) (hl : φ.le φ') {dst : Option Nat} (hd : dstOK n dst = true) {v : AV} {w : Value} (hv : VR σ φ' v w) : ENV σ φ' D (putA ρ dst v) (e.put n dst w) := by
  cases dst with
  | none => exact ⟨fun t => VR.mono hl _ _ (h.er t), h.ds⟩
  | some d =>
    refine ⟨fun t => ?_, h.ds⟩
    have hd := blt_t hd
    show VR σ φ' (@Bool.rec (fun _ => AV) (ρ t) v (Nat.beq t d)) (if t = d ∧ d < n then w else e.get t)
    cases hb : Nat.beq t d with
    | true => rw [if_pos ⟨Nat.eq_of_beq_eq_true hb, hd⟩]; exact hv
    | false => rw [if_neg (fun x => beq_f hb x.1)]; exact VR.mono hl _ _ (h.er t)
abbrev slotA (ops : Array Oper) (ρ : Nat → AV) (j : Nat) : AV :=
  match (ops[j]?).bind (·.dst) with
  | some d => ρ d
  | none => undA
theorem slotA_ok {ops : Array Oper} {ρ : Nat → AV} {e : En} (h : ER σ φ ρ e) (j : Nat) : VR σ φ (slotA ops ρ j) (slotOf ops e j) := by
  unfold slotA slotOf
  cases (ops[j]?).bind (·.dst) with
  | some d => exact h d
  | none => exact VR_und
/-- An operation behind a guard. -/
def gdK (c : AV) (want : Bool) (run : (AV → AH → Bool) → Bool) (A : AH) (k : AV → AH → Bool) : Bool :=
  c.on_b (fun b => @Bool.rec (fun _ => Bool) (k undA A) (run k) (eqB b want)) (c.on_t (fun _ => k undA A) false)
theorem gdK_sound {c : AV} {w : Value} {want : Bool} {run : (AV → AH → Bool) → Bool} {k : AV → AH → Bool} {p q : Prop} (hc : VR σ φ c w) (h : gdK c want run A k = true) (hp : run k = true → p) (hq : k undA A = true → q) : guardW w want p q := by
  cases c with
  | b x =>
    simp only [VR] at hc
    subst hc
    replace h : @Bool.rec (fun _ => Bool) (k undA A) (run k) (eqB x want) = true := h
    refine ⟨fun e => ?_, fun e => ?_⟩
    · subst e
      have e2 : eqB x x = true := by cases x <;> rfl
      rw [e2] at h
      exact hp h
    · subst e
      have e2 : eqB (!want) want = false := by cases want <;> rfl
      rw [e2] at h
      exact hq h
  | t l =>
    simp only [VR] at hc
    obtain ⟨c, rfl, _⟩ := hc
    exact hq h
  | _ => cases h

/-! ### What does not look at memory -/
theorem opQ_pure {ρ : Operand → Value} {op : Op} {r : Value} (hl : ∀ t a, op ≠ .load t a) (h : opQ P (held []) ρ op = some r) (V : HV) : opQ P V ρ op = some r := by
  cases op with
  | load t a => exact absurd rfl (hl t a)
  | binOp op t x y y' =>
    have h : binV P (held []) op t x y (ρ x) (ρ y) = some r := h
    show binV P V op t x y (ρ x) (ρ y) = some r
    unfold binV at h ⊢
    split at h
    · exact h
    · exact h
    · cases h
  | convert s d x =>
    have h : convV P (held []) s d (ρ x) = some r := h
    show convV P V s d (ρ x) = some r
    unfold convV at h ⊢
    split at h
    · exact h
    · cases h
  | lookup t m k ok => cases h
  | typeAssert x xt t ok => cases h
  | call c =>
    obtain ⟨cal, args, ats⟩ := c
    have h : callQ P (held []) cal ats.toList (args.toList.map ρ) = some r := h
    show callQ P V cal ats.toList (args.toList.map ρ) = some r
    cases cal with
    | builtin b =>
      have h : builtinQ P (held []) b ats.toList (args.toList.map ρ) = some r := h
      show builtinQ P V b ats.toList (args.toList.map ρ) = some r
      generalize ats.toList = ts at h ⊢
      generalize args.toList.map ρ = vs at h ⊢
      unfold builtinQ at h ⊢
      cases b <;> simp only at h ⊢ <;> try (cases h; done)
      · split at h
        · cases h
        · cases h
      · split at h
        · unfold lenV at h ⊢
          split at h
          · exact h
          · exact h
          · cases h
        · cases h
      · exact h
      · exact h
    | _ => cases h
  | _ => first | exact h | cases h
abbrev pBin (T : TR) (ρ : Nat → AV) (op : BinOp) (t : Nat) (x y : Operand) (k : AV → Bool) : Bool := withT T t fun i =>
  match i.k, op with
  | .int _, .add => addA (ev ρ x) (ev ρ y) k
  | .int _, .sub => subA (ev ρ x) (ev ρ y) k
  | .int _, .xor => xorA (ev ρ x) (ev ρ y) k
  | .int _, op => binI op (ev ρ x) (ev ρ y) k
  | .str, .add => scatA (ev ρ x) (ev ρ y) k
  | .str, .eql => seqA (ev ρ x) (ev ρ y) k
  | .str, .neq => sneA (ev ρ x) (ev ρ y) k
  | _, _ => false
abbrev pConv (T : TR) (ρ : Nat → AV) (s d : Nat) (x : Operand) (k : AV → Bool) : Bool := withT T s fun i => withT T d fun j =>
  match i.k, j.k with
  | .int _, .int g => convA g (ev ρ x) k
  | _, _ => false
abbrev pLen (T : TR) (ρ : Nat → AV) (t : Nat) (x : Operand) (k : AV → Bool) : Bool := withT T t fun i =>
  match i.k with
  | .slice _ => lenA (ev ρ x) k
  | .str => slen (ev ρ x) k
  | _ => false
abbrev pBlt (T : TR) (ρ : Nat → AV) (b : Builtin) (args : List Operand) (ats : List TypeId) (k : AV → Bool) : Bool :=
  match b, args, ats with
  | .len, [x], [t] => pLen T ρ t x k
  | .max, [x, y], _ => maxA (ev ρ x) (ev ρ y) k
  | .min, [x, y], _ => minA (ev ρ x) (ev ρ y) k
  | _, _, _ => false
/-- Operations that look at their operands alone. -/
abbrev pA (T : TR) (ρ : Nat → AV) (op : Op) (k : AV → Bool) : Bool :=
  match op with
  | .move x => k (ev ρ x)
  | .assign x => k (ev ρ x)
  | .pick c a b => pickA (ev ρ c) (ev ρ a) (ev ρ b) k
  | .nilCheck x => nilC (ev ρ x) k
  | .binOp op t x y _ => pBin T ρ op t x y k
  | .unOp op _ x => qUn ρ op x k
  | .convert s d x => pConv T ρ s d x k
  | .makeInterface t x => qIface T ρ t x k
  | .makeFunc fn first captured => qFunc ρ fn first captured k
  | .slice t x lo hi none => slcA T ρ t x lo hi k
  | .fieldAddr s x f => qFld T ρ s x f k
  | .field s x f => qFldV T ρ s x f k
  | .indexAddr t x i => qIdx T ρ t x i k
  | .index t x i => qIdxV T ρ t x i k
  | .extract t i => extA (ev ρ t) i k
  | .build t parts => qBuild T ρ t parts k
  | .call ⟨.builtin b, args, ats⟩ => pBlt T ρ b args.toList ats.toList k
  | _ => false
theorem bin_okV {op : BinOp} {f : AV → AV → (AV → Bool) → Bool} (h : binOK P op f) {t : TypeId} {xo yo : Operand} {x y : AV} {w w' : Value} {k : AV → Bool} (hx : VR σ φ x w) (hy : VR σ φ y w') (hk : f x y k = true) (V : HV) :
    ∃ v r, binV P V op t xo yo w w' = some r ∧ VR σ φ v r ∧ k v = true :=
  let ⟨r, v, a, b, c⟩ := h _ _ V t xo yo _ _ _ _ _ hx hy hk; ⟨v, r, a, b, c⟩
theorem pA_ok {T : TR} {ρ : Nat → AV} {e : En} {k : AV → Bool} (hT : TTok P T) (hr : Rel σ F φ A H) (he : ER σ φ ρ e) {op : Op} (h : pA T ρ op k = true) : ∃ v r, (∀ V, opQ P V e.ev op = some r) ∧ VR σ φ v r ∧ k v = true := by
  have same : ∀ {op : Op}, (∀ V, opQ P V e.ev op = opQ P (full H) e.ev op) → qA T ρ A op k = true → ∃ v r, (∀ V, opQ P V e.ev op = some r) ∧ VR σ φ v r ∧ k v = true := by
    intro op hop h
    obtain ⟨v, r, h1, h2, h3⟩ := qA_ok hT hr he h
    exact ⟨v, r, fun V => (hop V).trans h1, h2, h3⟩
  have none' : ∀ {op : Op}, (∀ t a, op ≠ .load t a) → (∃ v r, opQ P (held []) e.ev op = some r ∧ VR σ φ v r ∧ k v = true) → ∃ v r, (∀ V, opQ P V e.ev op = some r) ∧ VR σ φ v r ∧ k v = true := by
    rintro op hop ⟨v, r, h1, h2, h3⟩
    exact ⟨v, r, opQ_pure hop h1, h2, h3⟩
  unfold pA at h
  split at h
  · exact same (fun _ => rfl) h
  · exact same (fun _ => rfl) h
  · exact same (fun _ => rfl) h
  · exact same (fun _ => rfl) h
  · rename_i op t x y y'
    refine none' (by simp) ?_
    show ∃ v r, binV P (held []) op t x y (e.ev x) (e.ev y) = some r ∧ _
    obtain ⟨i, hi, h⟩ := withT_ok hT h
    split at h
    · exact bin_okV addA_ok (ev_ok he x) (ev_ok he y) h _
    · exact bin_okV subA_ok (ev_ok he x) (ev_ok he y) h _
    · exact bin_okV xorA_ok (ev_ok he x) (ev_ok he y) h _
    · exact bin_okV binI_ok (ev_ok he x) (ev_ok he y) h _
    · exact bin_okV scatA_ok (ev_ok he x) (ev_ok he y) h _
    · exact bin_okV seqA_ok (ev_ok he x) (ev_ok he y) h _
    · exact bin_okV sneA_ok (ev_ok he x) (ev_ok he y) h _
    · cases h
  · exact same (fun _ => rfl) h
  · rename_i s d x
    refine none' (by simp) ?_
    show ∃ v r, convV P (held []) s d (e.ev x) = some r ∧ _
    obtain ⟨i, hi, h⟩ := withT_ok hT h
    obtain ⟨j, hj, h⟩ := withT_ok hT h
    obtain ⟨d1, hu1, hd1⟩ := hi.kind
    obtain ⟨d2, hu2, hd2⟩ := hj.kind
    split at h
    · rename_i g1 g2 h1 h2
      have e1 : d1 = .int g1 := by rw [h1] at hd1; cases d1 <;> simp [kindOf] at hd1; subst hd1; rfl
      have e2 : d2 = .int g2 := by rw [h2] at hd2; cases d2 <;> simp [kindOf] at hd2; subst hd2; rfl
      subst e1 e2
      exact convA_ok hu1 hu2 (ev_ok he x) h
    · cases h
  · exact same (fun _ => rfl) h
  · exact same (fun _ => rfl) h
  · exact same (fun _ => rfl) h
  · exact same (fun _ => rfl) h
  · exact same (fun _ => rfl) h
  · exact same (fun _ => rfl) h
  · exact same (fun _ => rfl) h
  · exact same (fun _ => rfl) h
  · exact same (fun _ => rfl) h
  · rename_i b args ats
    refine none' (by simp) ?_
    unfold pBlt at h
    split at h
    · rename_i x t h1 h2
      have e1 : opQ P (held []) e.ev (.call ⟨.builtin .len, args, ats⟩) = lenV P (held []) t (e.ev x) := by
        show callQ P (held []) (.builtin .len) ats.toList (args.toList.map e.ev) = _
        rw [h1, h2]; rfl
      rw [e1]
      obtain ⟨i, hi, h⟩ := withT_ok hT h
      obtain ⟨d, hu, hd⟩ := hi.kind
      split at h
      · rename_i el hk
        have : d = .slice el := by rw [hk] at hd; cases d <;> simp [kindOf] at hd; subst hd; rfl
        subst this
        exact lenA_ok (e := el) (by simp [elemT, hu]) (ev_ok he x) h
      · rename_i hk
        exact slen_ok (str_of hu (hd.trans hk)) (ev_ok he x) h
      · cases h
    · rename_i x y h1
      have e1 : opQ P (held []) e.ev (.call ⟨.builtin .max, args, ats⟩) = max2V (e.ev x) (e.ev y) := by
        show callQ P (held []) (.builtin .max) ats.toList (args.toList.map e.ev) = _
        rw [h1]; rfl
      rw [e1]
      exact maxA_ok (ev_ok he x) (ev_ok he y) h
    · rename_i x y h1
      have e1 : opQ P (held []) e.ev (.call ⟨.builtin .min, args, ats⟩) = min2V (e.ev x) (e.ev y) := by
        show callQ P (held []) (.builtin .min) ats.toList (args.toList.map e.ev) = _
        rw [h1]; rfl
      rw [e1]
      exact minA_ok (ev_ok he x) (ev_ok he y) h
    · cases h
  · cases h
end
end Go.Run
