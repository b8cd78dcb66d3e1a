
/- Closed runs: regions that draw, by their plans. -/
import Derived.Test.YtndbdehpkiimjaaGreatRunDr
namespace Go.Run
open Go.HL
variable {σ : Nat → Value} {F : Nat → Option Obj} {φ : Phi} {A : AH} {H : Heap} {P : Program} {V : HV}
noncomputable section
set_option linter.unusedVariables false

/-! ### Values that tell their real value -/
def eqId (i j : Id) : Bool := Nat.beq i.nat j.nat
theorem eqId_ok {i j : Id} (h : eqId i j = true) : i = j := Id.nat_inj (Nat.eq_of_beq_eq_true h)
/-- Do both stand for the same real value? -/
def eqX (a b : AV) : Bool :=
  a.on_n (fun x => b.on_n (fun y => Nat.beq x y) false) (a.on_b (fun x => b.on_b (fun y => eqB x y) false)
    (a.on_p (fun i o => b.on_p (fun i' o' => ifB (eqId i i') (Nat.beq o o') false) false)
      (a.on_q (fun i o len cap z ex => b.on_q (fun i' o' len' cap' z' ex' => ifB (eqId i i') (ifB (Nat.beq o o') (ifB (Nat.beq len len') (ifB (Nat.beq z z') (ifB (Nat.beq cap 0) (ifB ex (ifB ex' (Nat.beq cap' 0) false) false) (ifB (Nat.beq cap' 0) false (ifB (Nat.beq z 0) false true))) false) false) false) false) false)
        (a.on_nil (fun x => b.on_nil (fun y => Nat.beq x y) false) (a.on_s (fun l => b.on_s (fun l' => eqL l l') false) (a.on_m (fun i => b.on_m (fun j => eqId i j) false)
          (a.on_z (fun g x => b.on_z (fun g' y => ifB (Nat.beq (kindN g) (kindN g')) (eqI x y) false) false) false)))))))
theorem eqX_ok {a b : AV} {w w' : Value} (ha : VR σ φ a w) (hb : VR σ φ b w') (h : eqX a b = true) : w = w' := by
  cases a with
  | n x =>
    cases b with
    | n y => have := Nat.eq_of_beq_eq_true h; subst this; simp only [VR] at ha hb; rw [ha.1, hb.1]
    | _ => cases h
  | b x =>
    cases b with
    | b y =>
      replace h : eqB x y = true := h
      rw [eqB_eq, beq_iff_eq] at h
      subst h; simp only [VR] at ha hb; rw [ha, hb]
    | _ => cases h
  | p i o =>
    cases b with
    | p i' o' =>
      obtain ⟨h1, h2⟩ := ifB_and (show ifB (eqId i i') (Nat.beq o o') false = true from h)
      have := eqId_ok h1
      have e2 := Nat.eq_of_beq_eq_true h2
      subst this e2
      simp only [VR] at ha hb
      obtain ⟨e, h3, rfl⟩ := ha
      obtain ⟨e', h4, rfl⟩ := hb
      rw [h3] at h4
      cases h4
      rfl
    | _ => cases h
  | q i o len cap z ex =>
    cases b with
    | q i' o' len' cap' z' ex' =>
      obtain ⟨h1, h⟩ := ifB_and (show ifB (eqId i i') _ false = true from h)
      obtain ⟨h2, h⟩ := ifB_and h
      obtain ⟨h3, h⟩ := ifB_and h
      obtain ⟨h4, hL⟩ := ifB_and h
      have e1 := eqId_ok h1
      have e2 := Nat.eq_of_beq_eq_true h2
      have e3 := Nat.eq_of_beq_eq_true h3
      have e4 := Nat.eq_of_beq_eq_true h4
      clear h1 h2 h3 h4
      subst e1 e2 e3 e4
      simp only [VR] at ha hb
      obtain ⟨e, x, c, a1, rfl, a2, a3, a4, a5, a6⟩ := ha
      obtain ⟨e', x', c', b1, rfl, b2, b3, b4, b5, b6⟩ := hb
      rw [a1] at b1
      cases b1
      cases hb0 : Nat.beq cap 0 with
      | true =>
        rw [hb0] at hL
        obtain ⟨g1, hM⟩ := ifB_and (show ifB ex (ifB ex' (Nat.beq cap' 0) false) false = true from hL)
        obtain ⟨g2, hN⟩ := ifB_and hM
        have n0 := Nat.eq_of_beq_eq_true hb0
        have n1 := Nat.eq_of_beq_eq_true hN
        rw [a5 (.inr g1), b5 (.inr g2), a6 g1, b6 g2, n0, n1]
      | false =>
        rw [hb0] at hL
        obtain ⟨h6, hM⟩ := ifB_or (show ifB (Nat.beq cap' 0) false (ifB (Nat.beq z 0) false true) = true from hL)
        obtain ⟨h7, hN⟩ := ifB_or hM
        have n5 := beq_f hb0
        have n6 := beq_f h6
        have n7 := beq_f h7
        have ex1 := a5 (.inl n5)
        have ex2 := b5 (.inl n6)
        subst ex1 ex2
        have c1 := a4.2 (by omega)
        have c2 := b4.2 (by omega)
        have : c * z = c' * z := by omega
        have := Nat.eq_of_mul_eq_mul_right (Nat.pos_of_ne_zero n7) this
        rw [this]
    | _ => cases h
  | nil g =>
    cases b with
    | nil g' => have := Nat.eq_of_beq_eq_true h; subst this; simp only [VR] at ha hb; rw [ha, hb]
    | _ => cases h
  | s l =>
    cases b with
    | s l' =>
      replace h : eqL l l' = true := h
      rw [eqL_eq, decide_eq_true_eq] at h
      subst h
      obtain ⟨_, e, rfl, _⟩ := on_s_sound (k := fun _ => true) ha rfl
      obtain ⟨_, e', rfl, _⟩ := on_s_sound (k := fun _ => true) hb rfl
      cases e; cases e'; rfl
    | _ => cases h
  | m i =>
    cases b with
    | m j =>
      have := eqId_ok (show eqId i j = true from h)
      subst this
      simp only [VR] at ha hb
      obtain ⟨e, h3, rfl⟩ := ha
      obtain ⟨e', h4, rfl⟩ := hb
      rw [h3] at h4
      cases h4
      rfl
    | _ => cases h
  | z g x =>
    cases b with
    | z g' y =>
      obtain ⟨h1, h2⟩ := ifB_and (show ifB (Nat.beq (kindN g) (kindN g')) (eqI x y) false = true from h)
      have := kindN_inj h1
      subst this
      rw [eqI_eq, decide_eq_true_eq] at h2
      subst h2
      simp only [VR] at ha hb; rw [ha, hb]
    | _ => cases h
  | _ => cases h

/-! ### Cells that are held -/
abbrev HD := List (Id × Nat × AV)
def HDR (σ : Nat → Value) (φ : Phi) (hd : HD) (hl : List (Addr × Value)) : Prop :=
  ∀ x ∈ hd, ∃ e w, φ x.1 = some e ∧ lookA hl ⟨e.r, e.s + x.2.1, none⟩ = some w ∧ VR σ φ x.2.2 w
/-- The value in one cell, and its place. -/
def ldO (A : AH) (p : AV) (k : Id → Nat → AV → Bool) : Bool := p.on_p (fun i o => (A.get i).on_c (fun _ len t => ifB (Nat.blt o len) (k i o (t.get o)) false) false) false
def fndH (hd : HD) (p : AV) (k : AV → Bool) : Bool := p.on_p (fun i o => @List.rec (Id × Nat × AV) (fun _ => Bool) false (fun x _ ih => ifB (Nat.beq x.2.1 o) (ifB (eqId x.1 i) (k x.2.2) ih) ih) hd) false
def chkH (hd : HD) (A : AH) (k : Bool) : Bool := @List.rec (Id × Nat × AV) (fun _ => Bool) k (fun x _ ih => (A.get x.1).on_c (fun _ len t => ifB (Nat.blt x.2.1 len) (ifB (eqX x.2.2 (t.get x.2.1)) ih false) false) false) hd
theorem ldO_ok {p : AV} {w : Value} {k : Id → Nat → AV → Bool} (h : Rel σ F φ A H) (hp : VR σ φ p w) (hk : ldO A p k = true) :
    ∃ i o v e r, φ i = some e ∧ w = .pointer (some ⟨e.r, e.s + o, none⟩) ∧ cellH H ⟨e.r, e.s + o, none⟩ = some r ∧ VR σ φ v r ∧ k i o v = true := by
  obtain ⟨i, o, e, rfl, h1, rfl, hk⟩ := on_p_sound hp hk
  rcases AB.on_c_eq (A.get i) (fun _ len t => ifB (Nat.blt o len) (k i o (t.get o)) false) false with ⟨ro, len, t, hg, e'⟩ | e'
  · rw [e'] at hk
    obtain ⟨h2, hk⟩ := ifB_and hk
    obtain ⟨e2, r, h3, h4, h5⟩ := h.cell hg (blt_t h2)
    rw [h1] at h3
    cases h3
    exact ⟨i, o, _, e, r, h1, rfl, h4, h5, hk⟩
  · rw [e'] at hk; cases hk
theorem fndH_ok {hd : HD} {hl : List (Addr × Value)} {p : AV} {w : Value} {k : AV → Bool} (hh : HDR σ φ hd hl) (hp : VR σ φ p w) (hk : fndH hd p k = true) : ∃ a v r, w = .pointer (some a) ∧ lookA hl a = some r ∧ VR σ φ v r ∧ k v = true := by
  obtain ⟨i, o, e, rfl, h1, rfl, hk2⟩ := on_p_sound hp hk
  clear hk
  have hk := hk2
  clear hk2
  induction hd with
  | nil => cases hk
  | cons x hd ih =>
    replace hk : ifB (Nat.beq x.2.1 o) (ifB (eqId x.1 i) (k x.2.2) (@List.rec (Id × Nat × AV) (fun _ => Bool) false (fun x _ ih => ifB (Nat.beq x.2.1 o) (ifB (eqId x.1 i) (k x.2.2) ih) ih) hd))
      (@List.rec (Id × Nat × AV) (fun _ => Bool) false (fun x _ ih => ifB (Nat.beq x.2.1 o) (ifB (eqId x.1 i) (k x.2.2) ih) ih) hd) = true := hk
    cases hb : Nat.beq x.2.1 o with
    | false => rw [hb] at hk; exact ih (fun y hy => hh y (by simp [hy])) hk
    | true =>
      rw [hb] at hk
      have e1 := Nat.eq_of_beq_eq_true hb
      cases hc : eqId x.1 i with
      | false => rw [hc] at hk; exact ih (fun y hy => hh y (by simp [hy])) hk
      | true =>
        rw [hc] at hk
        have e2 := eqId_ok hc
        obtain ⟨e', w, h2, h3, h4⟩ := hh x (by simp)
        rw [e2, h1] at h2
        cases h2
        rw [e1] at h3
        exact ⟨_, x.2.2, w, rfl, h3, h4, hk⟩
theorem chkH_ok {hd : HD} {hl : List (Addr × Value)} {φ0 : Phi} {k : Bool} (hl' : φ0.le φ) (h : Rel σ F φ A H) (hh : HDR σ φ0 hd hl) (hk : chkH hd A k = true) : k = true ∧ ∀ x ∈ hd, ∃ e w, φ x.1 = some e ∧ lookA hl ⟨e.r, e.s + x.2.1, none⟩ = some w ∧ cellH H ⟨e.r, e.s + x.2.1, none⟩ = some w := by
  induction hd with
  | nil => exact ⟨hk, by simp⟩
  | cons x hd ih =>
    replace hk : (A.get x.1).on_c (fun _ len t => ifB (Nat.blt x.2.1 len) (ifB (eqX x.2.2 (t.get x.2.1)) (chkH hd A k) false) false) false = true := hk
    rcases AB.on_c_eq (A.get x.1) (fun _ len t => ifB (Nat.blt x.2.1 len) (ifB (eqX x.2.2 (t.get x.2.1)) (chkH hd A k) false) false) false with ⟨ro, len, t, hg, e'⟩ | e'
    · rw [e'] at hk
      obtain ⟨h1, hk⟩ := ifB_and hk
      obtain ⟨h2, hk⟩ := ifB_and hk
      obtain ⟨k1, k2⟩ := ih (fun y hy => hh y (by simp [hy])) hk
      refine ⟨k1, fun y hy => ?_⟩
      rcases List.mem_cons.1 hy with rfl | hy
      · obtain ⟨e, w, h3, h4, h5⟩ := hh y (by simp)
        obtain ⟨e2, r, h6, h7, h8⟩ := h.cell hg (blt_t h1)
        rw [hl' _ _ h3] at h6
        cases h6
        have := eqX_ok (VR.mono hl' _ _ h5) h8 h2
        subst this
        exact ⟨e, w, hl' _ _ h3, h4, h7⟩
      · exact k2 y hy
    · rw [e'] at hk; cases hk

/-! ### A plan -/
/-- A look, behind its guard. -/
def gdQ (c : AV) (want : Bool) (run : (AV → Bool) → Bool) (k : AV → Bool) : Bool :=
  c.on_b (fun b => @Bool.rec (fun _ => Bool) (k undA) (run k) (eqB b want)) (c.on_t (fun _ => k undA) false)
theorem gdQ_sound {c : AV} {w : Value} {want : Bool} {run : (AV → Bool) → Bool} {k : AV → Bool} {p q : Prop} (hc : VR σ φ c w) (h : gdQ c want run k = true) (hp : run k = true → p) (hq : k undA = true → q) : guardW w want p q := by
  cases c with
  | b x =>
    simp only [VR] at hc
    subst hc
    replace h : @Bool.rec (fun _ => Bool) (k undA) (run k) (eqB x want) = true := h
    refine ⟨fun e => ?_, fun e => ?_⟩
    · subst e
      have e2 : eqB x x = true := by cases x <;> rfl
      rw [e2] at h
      exact hp h
    · subst e
      have e2 : eqB (!want) want = false := by cases want <;> rfl
      rw [e2] at h
      exact hq h
  | t l =>
    simp only [VR] at hc
    obtain ⟨c, rfl, _⟩ := hc
    exact hq h
  | _ => cases h
/-- A look of a whole heap. -/
abbrev lkT (T : TR) (l : List Oper) (o : Oper) (ρ : Nat → AV) (A : AH) (k : AV → Bool) : Bool :=
  @Option.rec (Nat × Bool) (fun _ => Bool) (qA T ρ A o.op k) (fun g => gdQ (slotA l.toArray ρ g.1) g.2 (fun k' => qA T ρ A o.op k') k) o.guard
/-- A look whose moment is open. -/
abbrev lkF (T : TR) (l : List Oper) (o : Oper) (ρ : Nat → AV) (k : AV → Bool) : Bool :=
  @Option.rec (Nat × Bool) (fun _ => Bool) (pA T ρ o.op k) (fun g => gdQ (slotA l.toArray ρ g.1) g.2 (fun k' => pA T ρ o.op k') k) o.guard
/-- The cells of a struct, held one by one. -/
def hldS (A : AH) (p : AV) (n : Nat) (hd : HD) (k : HD → List AV → Bool) : Bool :=
  p.on_p (fun i o => @Nat.rec (fun _ => Nat → HD → (HD → List AV → Bool) → Bool) (fun _ hd k => k hd []) (fun _ ih o hd k => ldO A (.p i o) fun i' o' v => ih (Nat.succ o) ((i', o', v) :: hd) fun hd l => k hd (v :: l)) n o hd k) false
def fndS (hd : HD) (p : AV) (n : Nat) (k : List AV → Bool) : Bool :=
  p.on_p (fun i o => @Nat.rec (fun _ => Nat → (List AV → Bool) → Bool) (fun _ k => k []) (fun _ ih o k => fndH hd (.p i o) fun v => ih (Nat.succ o) fun l => k (v :: l)) n o k) false
abbrev ldHd (T : TR) (t : Nat) (p : AV) (op : Bool) (hd : HD) (A : AH) (k : HD → AV → Bool) : Bool :=
  withT T t fun i => @Bool.rec (fun _ => Bool) (@Bool.rec (fun _ => Bool) (fndH hd p fun v => k hd v) (ldO A p fun i o v => k ((i, o, v) :: hd) v) op)
    (@Bool.rec (fun _ => Bool) (fndS hd p i.size fun l => k hd (.a l)) (hldS A p i.size hd fun hd l => k hd (.a l)) op) (aggK i.k)
def gdH (c : AV) (want : Bool) (run : (HD → AV → Bool) → Bool) (hd : HD) (k : HD → AV → Bool) : Bool :=
  c.on_b (fun b => @Bool.rec (fun _ => Bool) (k hd undA) (run k) (eqB b want)) (c.on_t (fun _ => k hd undA) false)
abbrev lkH (T : TR) (l : List Oper) (o : Oper) (op : Bool) (hd : HD) (ρ : Nat → AV) (A : AH) (k : HD → AV → Bool) : Bool :=
  match o.op, o.guard with
  | .load t p, none => ldHd T t (ev ρ p) op hd A k
  | .load t p, some g => gdH (slotA l.toArray ρ g.1) g.2 (fun k' => ldHd T t (ev ρ p) op hd A k') hd k
  | _, _ => lkF T l o ρ fun v => k hd v
/-- A look beside operations that only make new memory. -/
abbrev xA (T : TR) (ρ : Nat → AV) (A : AH) (op : Op) (k : AV → Bool) : Bool :=
  match op with
  | .load t p => ldT T A t (ev ρ p) k
  | .lookup t m key ok => qLook T ρ A t m key ok k
  | .convert s d x => withT T s fun i => withT T d fun j =>
    match i.k, j.k with
    | .slice e, .str => withT T e fun l => match l.k with
      | .int .u8 => strC A (ev ρ x) k
      | _ => false
    | _, _ => false
  | _ => false
/-- A call that looks at nothing and changes nothing. -/
abbrev lkP (Tb : FT) (o : Oper) (ρ : Nat → AV) (k : AV → Bool) : Bool :=
  match o.op, o.guard with
  | .call ⟨.value (.func f), args, _⟩, none => withF Tb f fun e => e.p (args.toList.map (ev ρ)) k
  | _, _ => false
abbrev lkX (T : TR) (l : List Oper) (o : Oper) (ρ : Nat → AV) (A : AH) (k : AV → Bool) : Bool :=
  @Option.rec (Nat × Bool) (fun _ => Bool) (xA T ρ A o.op k) (fun g => gdQ (slotA l.toArray ρ g.1) g.2 (fun k' => xA T ρ A o.op k') k) o.guard
abbrev actD (T : TR) (Tb : FT) (l : List Oper) (o : Oper) (ρ : Nat → AV) (A : AH) (k : AV → AH → Bool) : Bool :=
  @Option.rec (Nat × Bool) (fun _ => Bool) (dA T Tb ρ A o.op k) (fun g => gdK (slotA l.toArray ρ g.1) g.2 (fun k' => dA T Tb ρ A o.op k') A k) o.guard
abbrev onO (l : List Oper) (i : Nat) (k : Oper → Bool) : Bool := @Option.rec Oper (fun _ => Bool) false k l[i]?
/-! ### Acts that may come in another order -/
abbrev isSt (o : Oper) : Bool := match o.op, o.guard, o.dst with
  | .store _ _ _, none, none => true
  | _, _, _ => false
abbrev stP (ρ : Nat → AV) (o : Oper) : AV := match o.op with
  | .store _ p _ => ev ρ p
  | _ => .u
/-- Two pointers into different blocks. -/
def dsj (A : AH) (p q : AV) (x : Bool) : Bool := p.on_p (fun i _ => q.on_p (fun j _ => ifB (eqId i j) false ((A.get i).on_c (fun _ _ _ => (A.get j).on_c (fun _ _ _ => x) false) false)) false) false
abbrev altG (T : TR) (Tb : FT) (l : List Oper) (i : Nat) (ρ : Nat → AV) (A : AH) (alt : Plan) (x : Bool) : Bool :=
  @Plan.rec (fun _ => Bool) x x (fun _ _ _ _ => false) (fun _ _ _ => false) (fun _ _ _ => false)
    (fun j _ _ _ ih => onO l j fun o => onO l i fun oi => @Bool.rec (fun _ => Bool) (@Bool.rec (fun _ => Bool) false (dsj A (stP ρ oi) (stP ρ o) ih) (isSt o)) (dA T Tb ρ A o.op fun _ _ => ih) (isFl o))
    (fun _ _ _ => false) (fun _ _ _ => false) alt
def eqP : Plan → Plan → Bool
  | .fin, .fin => true
  | .non, .non => true
  | .look i f p, .look j g q => i == j && f == g && eqP p q
  | .lookx i p, .lookx j q => i == j && eqP p q
  | .lookp i p, .lookp j q => i == j && eqP p q
  | .act i p a, .act j q b => i == j && eqP p q && eqP a b
  | .actd i p, .actd j q => i == j && eqP p q
  | .acth i p, .acth j q => i == j && eqP p q
  | _, _ => false
theorem eqP_ok : ∀ (p q : Plan), eqP p q = true → p = q
  | .fin, q, h => by cases q <;> first | rfl | cases h
  | .non, q, h => by cases q <;> first | rfl | cases h
  | .look i f p, q, h => by
    cases q with
    | look j g q => simp only [eqP, Bool.and_eq_true, beq_iff_eq] at h; rw [h.1.1, h.1.2, eqP_ok p q h.2]
    | _ => cases h
  | .lookx i p, q, h => by
    cases q with
    | lookx j q => simp only [eqP, Bool.and_eq_true, beq_iff_eq] at h; rw [h.1, eqP_ok p q h.2]
    | _ => cases h
  | .lookp i p, q, h => by
    cases q with
    | lookp j q => simp only [eqP, Bool.and_eq_true, beq_iff_eq] at h; rw [h.1, eqP_ok p q h.2]
    | _ => cases h
  | .act i p a, q, h => by
    cases q with
    | act j q b => simp only [eqP, Bool.and_eq_true, beq_iff_eq] at h; rw [h.1.1, eqP_ok p q h.1.2, eqP_ok a b h.2]
    | _ => cases h
  | .actd i p, q, h => by
    cases q with
    | actd j q => simp only [eqP, Bool.and_eq_true, beq_iff_eq] at h; rw [h.1, eqP_ok p q h.2]
    | _ => cases h
  | .acth i p, q, h => by
    cases q with
    | acth j q => simp only [eqP, Bool.and_eq_true, beq_iff_eq] at h; rw [h.1, eqP_ok p q h.2]
    | _ => cases h
/-- What was made early is taken in where the plan makes it. -/
def adv : Plan → List Nat → Plan × List Nat
  | .act j p a, D => if D.contains j then adv p (D.filter (· != j)) else (.act j p a, D)
  | p, D => (p, D)
def noOv (l : List Oper) (i : Nat) (D : List Nat) : Bool := D.all fun j => !overlap l i j
def stAt (l : List Oper) (i : Nat) : Bool := match l[i]? with
  | some o => isSt o
  | none => false
def fini (b : Bool) (q pc : Plan) (D : List Nat) : Bool := b && D.isEmpty && eqP q pc
/-- Is another order of acts the plan's own, but for what is made early? -/
def simB (l : List Oper) : Plan → Bool → Plan → List Nat → Bool
  | .fin, b, pc, D => fini b .fin (adv pc D).1 (adv pc D).2
  | .non, b, _, _ => !b
  | .look i f q, b, pc, D => fini b (.look i f q) (adv pc D).1 (adv pc D).2 || (!f && match (adv pc D).1 with
    | .look j g p => j == i && !g && noOv l i (adv pc D).2 && simB l q true p (adv pc D).2
    | _ => false)
  | .lookx i q, b, pc, D => fini b (.lookx i q) (adv pc D).1 (adv pc D).2 || (match (adv pc D).1 with
    | .lookx j p => j == i && noOv l i (adv pc D).2 && simB l q true p (adv pc D).2
    | _ => false)
  | .lookp i q, b, pc, D => fini b (.lookp i q) (adv pc D).1 (adv pc D).2 || (match (adv pc D).1 with
    | .lookp j p => j == i && noOv l i (adv pc D).2 && simB l q true p (adv pc D).2
    | _ => false)
  | .act i q alt, b, pc, D => fini b (.act i q alt) (adv pc D).1 (adv pc D).2 || ((match (adv pc D).1 with
    | .act j p altc => (i == j && noOv l i (adv pc D).2 && simB l q true p (adv pc D).2) ||
        (altc.idxs.contains i && flAt l i && !(adv pc D).2.contains i && noOv l i (adv pc D).2 && simB l q true (.act j p altc) (i :: (adv pc D).2))
    | _ => false) && simB l alt false (adv pc D).1 (adv pc D).2)
  | .actd i q, b, pc, D => fini b (.actd i q) (adv pc D).1 (adv pc D).2
  | .acth i q, b, pc, D => fini b (.acth i q) (adv pc D).1 (adv pc D).2
def swpB (l : List Oper) (i : Nat) (p alt : Plan) : Bool := match p, alt with
  | .act j q .non, .act j' (.act i' q' .non) .non => j == j' && i == i' && eqP q q' && stAt l i && stAt l j
  | _, _ => false
def altB (l : List Oper) (i : Nat) (p alt : Plan) : Bool := eqP alt .non || simB l alt false (.act i p alt) [] || swpB l i p alt
def simA (l : List Oper) : Plan → Bool → Bool
  | .look _ _ p, _ => simA l p true
  | .lookx _ p, _ => simA l p true
  | .lookp _ p, _ => simA l p true
  | .act i p alt, b => (!b || altB l i p alt) && simA l p true && simA l alt false
  | .actd _ p, _ => simA l p true
  | .acth _ p, _ => simA l p true
  | .fin, _ => true
  | .non, _ => true
def psz : Plan → Nat
  | .look _ _ p => psz p + 1
  | .lookx _ p => psz p + 1
  | .lookp _ p => psz p + 1
  | .act _ p a => psz p + psz a + 1
  | .actd _ p => psz p + 1
  | .acth _ p => psz p + 1
  | .fin => 0
  | .non => 0
def drawOK2 (l : List Oper) (p : Plan) : Bool := drawOK l p && simA l p true
/-- New memory changes nothing that is held. -/
abbrev chkF (o : Oper) (hd : HD) (A : AH) (x : Bool) : Bool := @Bool.rec (fun _ => Bool) (chkH hd A x) x (isFl o)
abbrev runP (T : TR) (Tb : FT) (l : List Oper) (p : Plan) : Bool → HD → (Nat → AV) → AH → Kt → Bool :=
  @Plan.rec (fun _ => Bool → HD → (Nat → AV) → AH → Kt → Bool)
    (fun _ _ ρ A k => k ρ A)
    (fun _ _ _ _ _ => false)
    (fun i f _ ih op hd ρ A k => onO l i fun o => @Bool.rec (fun _ => Bool) (lkH T l o op hd ρ A fun hd v => ih op hd (putA ρ o.dst v) A k) (lkT T l o ρ A fun v => ih op hd (putA ρ o.dst v) A k) f)
    (fun i _ ih op hd ρ A k => onO l i fun o => lkX T l o ρ A fun v => ih op hd (putA ρ o.dst v) A k)
    (fun i _ ih op hd ρ A k => onO l i fun o => lkP Tb o ρ fun v => ih op hd (putA ρ o.dst v) A k)
    (fun i _ alt ih _ _ hd ρ A k => altG T Tb l i ρ A alt (onO l i fun o => actD T Tb l o ρ A fun v A => chkF o hd A (ih true hd (putA ρ o.dst v) A k)))
    (fun _ _ _ _ _ _ _ _ => false)
    (fun i _ ih _ _ ρ A k => onO l i fun o => actD T Tb l o ρ A fun v A => ih true [] (putA ρ o.dst v) A k) p
abbrev runD (T : TR) (Tb : FT) (l : List Oper) (p : Plan) (ρ : Nat → AV) (A : AH) (k : Kt) : Bool := runP T Tb l p true [] ρ A k
/-- What may be counted on when a run goes on. -/
def KOK (σ : Nat → Value) (F : Nat → Option Obj) (D : List Deferred) (φ0 : Phi) (k : Kt) (R : En → Heap → Prop) : Prop :=
  ∀ φ A ρ e H, φ0.le φ → Rel σ F φ A H → ENV σ φ D ρ e → k ρ A = true → R e H
theorem KOK.mono {D : List Deferred} {φ φ' : Phi} {k : Kt} {R : En → Heap → Prop} (h : KOK σ F D φ k R) (hl : φ.le φ') : KOK σ F D φ' k R :=
  fun ψ A ρ e H h1 h2 h3 h4 => h ψ A ρ e H (hl.trans h1) h2 h3 h4
def dstsOK (n : Nat) (l : List Oper) : Bool := l.all fun o => dstOK n o.dst
section
variable {T : TR} {Tb : FT} {l : List Oper} {D : List Deferred} {n : Nat} {Q : Exit → En → Heap → Prop} {k : Kt}
theorem onO_ok {i : Nat} {k : Oper → Bool} (h : onO l i k = true) : ∃ o, l[i]? = some o ∧ k o = true := by
  unfold onO at h
  cases hl : l[i]? with
  | none => rw [hl] at h; cases h
  | some o => rw [hl] at h; exact ⟨o, rfl, h⟩
theorem opV_quiet {o : Oper} {e : En} {r : Value} {K : En → Heap → Prop} (hq : isQ o.op = true) (h : opQ P (full H) e.ev o.op = some r) (hk : K (e.put n o.dst r) H) : opV n P o e H K Q := by
  obtain ⟨dst, op, type, pos, after, guard⟩ := o
  have hs : someW (opQ P (full H) e.ev op) fun v => K (e.put n dst v) H := by
    have h : opQ P (full H) e.ev op = some r := h
    rw [h]; exact hk
  cases op with
  | call c =>
    obtain ⟨cal, args, ats⟩ := c
    cases cal with
    | builtin b => cases b <;> first | exact hs | cases hq
    | _ => cases hq
  | _ => first | exact hs | cases hq
theorem lkT_ok (hT : TTok P T) (hr : Rel σ F φ A H) {ρ : Nat → AV} {e : En} (he : ER σ φ ρ e) {o : Oper} {kk : AV → Bool} (hq : isQ o.op = true) (h : lkT T l o ρ A kk = true) :
    ∃ v r, VR σ φ v r ∧ kk v = true ∧ ∀ K : En → Heap → Prop, K (e.put n o.dst r) H → opG n P l.toArray o e H K Q := by
  cases hg : o.guard with
  | none =>
    have h : qA T ρ A o.op kk = true := by unfold lkT at h; rw [hg] at h; exact h
    obtain ⟨v, r, h1, h2, h3⟩ := qA_ok hT hr he h
    refine ⟨v, r, h2, h3, fun K hK => ?_⟩
    unfold opG
    rw [hg]
    exact opV_quiet hq h1 hK
  | some g =>
    obtain ⟨j, want⟩ := g
    have h : gdQ (slotA l.toArray ρ j) want (fun k' => qA T ρ A o.op k') kk = true := by unfold lkT at h; rw [hg] at h; exact h
    have hs := slotA_ok (ops := l.toArray) he j
    have key : ∃ v r, VR σ φ v r ∧ kk v = true ∧ ∀ K : En → Heap → Prop, K (e.put n o.dst r) H → guardW (slotOf l.toArray e j) want (opV n P o e H K Q) (K (e.put n o.dst undef) H) := by
      generalize slotA l.toArray ρ j = c at h hs
      generalize slotOf l.toArray e j = w at hs ⊢
      cases c with
      | b x =>
        simp only [VR] at hs
        subst hs
        replace h : @Bool.rec (fun _ => Bool) (kk undA) (qA T ρ A o.op kk) (eqB x want) = true := h
        cases hb : eqB x want with
        | true =>
          rw [hb] at h
          obtain ⟨v, r, h1, h2, h3⟩ := qA_ok hT hr he h
          refine ⟨v, r, h2, h3, fun K hK => ⟨fun _ => opV_quiet hq h1 hK, fun hx => ?_⟩⟩
          subst hx
          cases want <;> cases hb
        | false =>
          rw [hb] at h
          refine ⟨undA, undef, VR_und, h, fun K hK => ⟨fun hx => ?_, fun _ => hK⟩⟩
          subst hx
          cases x <;> cases hb
      | t lx =>
        simp only [VR] at hs
        obtain ⟨c, rfl, _⟩ := hs
        exact ⟨undA, undef, VR_und, h, fun K hK => hK⟩
      | _ => cases h
    obtain ⟨v, r, h1, h2, h3⟩ := key
    refine ⟨v, r, h1, h2, fun K hK => ?_⟩
    unfold opG
    rw [hg]
    exact h3 K hK
theorem Ext.loadA {H' : Heap} (hE : Ext H H') {t : TypeId} {a : Addr} {r : Value} (h : loadA P (full H) t a = some r) : loadA P (full H') t a = some r := by
  unfold HL.loadA at h ⊢
  split at h
  · exact hE.cell h
  · rename_i n _
    cases hc : cellsH (full H).cells a 0 n with
    | none => simp [hc] at h
    | some l => rw [show cellsH (full H').cells a 0 n = some l from cellsH_of (fun _ _ x => hE.cell x) n 0 l hc]; simpa [hc] using h
  · simp at h
theorem lokX_ok {t kt et g0 : Nat} {mv key zero : AV} {wm wk z : Value} {ok : Bool} {k : AV → Bool} (h : Rel σ F φ A H) (ht : P.underlying t = some (.map kt et)) (hkc : KC P g0 kt) (hz : zeroT P et = some z) (hzv : VR σ φ zero z)
    (hm : VR σ φ mv wm) (hk : VR σ φ key wk) (hr : lokA A g0 mv key zero ok k = true) : ∃ v r, (∀ H', Ext H H' → qrun P (Instr.lookup t wm wk ok) H' = some r) ∧ VR σ φ v r ∧ k v = true := by
  obtain ⟨i, e, rfl, he, rfl, hr⟩ := on_m_sound hm hr
  obtain ⟨g, n, m, es, c, h1, h2, h3, hr⟩ := h.map he hr
  obtain ⟨hg0, hr1⟩ := ifB_and hr
  clear hr
  have hg0 := Nat.eq_of_beq_eq_true hg0
  subst hg0
  obtain ⟨h4, hr⟩ := ifB_and hr1
  clear hr1
  obtain ⟨h5, h6⟩ := keyOK_ok hk h4
  have run : ∀ H', Ext H H' → ∀ o, qrun P (Instr.findKey kt wk es.toList) H' = some o → ∀ r, (∀ (x : Value) (b : Bool), (o = none ∧ x = z ∧ b = false ∨ ∃ j, o = some (j, x) ∧ b = true) → r = if ok then .tuple #[x, .bool b] else x) → qrun P (Instr.lookup t (.map (some e.r)) wk ok) H' = some r := by
    intro H' hE o ho r hrr
    unfold Instr.lookup
    rw [qrun_bind', qrun_underlying ht, Option.bind_some]
    simp only
    rw [qrun_bind', qrun_getObj (hE _ _ h2), Option.bind_some]
    simp only
    rw [qrun_bind', show qrun P (pure es : Sem (Array MapEntry)) H' = some es from rfl, Option.bind_some, qrun_bind', checkKey_ok hkc h5 h6, Option.bind_some, qrun_bind', ho, Option.bind_some]
    cases o with
    | none =>
      simp only
      rw [qrun_bind', qrun_zeroValue hz, Option.bind_some]
      rw [hrr z false (.inl ⟨rfl, rfl, rfl⟩)]
      cases ok <;> rfl
    | some p =>
      obtain ⟨j, x⟩ := p
      rw [hrr x true (.inr ⟨j, rfl, rfl⟩)]
      cases ok <;> rfl
  rcases h3.find h5 hr with ⟨x, a, j, h7, h8, h9, hr⟩ | ⟨h7, hr⟩
  · obtain ⟨v, h10, h11⟩ := resK_ok h9 hr
    refine ⟨v, _, fun H' hE => ?_, h10, h11⟩
    obtain ⟨o, ho, hf⟩ := findKey_ok (H := H') hkc h5 h6 h3.cls
    refine run H' hE o ho _ ?_
    have ho := hf.at h3.nodup h7 h8
    rintro x b (⟨h, _⟩ | ⟨j', h, rfl⟩)
    · rw [ho] at h; cases h
    · rw [ho] at h; cases h; rfl
  · obtain ⟨v, h10, h11⟩ := resK_ok hzv hr
    refine ⟨v, _, fun H' hE => ?_, h10, h11⟩
    obtain ⟨o, ho, hf⟩ := findKey_ok (H := H') hkc h5 h6 h3.cls
    refine run H' hE o ho _ ?_
    have ho := hf.not h7
    rintro x b (⟨h, rfl, rfl⟩ | ⟨j', h, rfl⟩)
    · rfl
    · rw [ho] at h; cases h
theorem strX_ok {s d e : Nat} {x : AV} {w : Value} {k : AV → Bool} (h : Rel σ F φ A H) (hs : P.underlying s = some (.slice e)) (he : P.underlying e = some (.int .u8)) (hd : P.underlying d = some .string) (hx : VR σ φ x w) (hk : strC A x k = true) :
    ∃ v r, (∀ H', Ext H H' → convV P (full H') s d w = some r) ∧ VR σ φ v r ∧ k v = true := by
  have go : ∀ (H' : Heap) (r : List Nat), qrun P (Conv.bytesToString w) H' = some (.string (strOf r)) → (∀ b n c, w = .slice b n c → convV P (full H') s d w = some (.string (strOf r))) := by
    rintro H' r hr b n c rfl
    show qrun P (convert s d _) H' = _
    unfold convert
    rw [qrun_bind', qrun_underlying hs, Option.bind_some, qrun_bind', qrun_underlying hd, Option.bind_some]
    show qrun P (do match ← underlying e with
      | .int .u8 => Conv.bytesToString (.slice b n c)
      | .int .i32 => Conv.runesToString (.slice b n c)
      | _ => stuck "Convert: a slice of what to string?") H' = _
    rw [qrun_bind', qrun_underlying he, Option.bind_some]
    exact hr
  unfold strC at hk
  rcases AV.on_q_eq x (fun _ _ len _ _ _ => srcN A x 1 len fun l => bytesL l fun r => k (.s r)) (nilS x (k (.s []))) with ⟨i, o, len, cap, z, ex, rfl, e'⟩ | e'
  · rw [e'] at hk
    have hx0 := hx
    simp only [VR] at hx
    obtain ⟨en, y, c', g1, rfl, g3, g4, g5, g6, g7⟩ := hx
    obtain ⟨l, ws, h1, h2, h3, hk⟩ := srcN_ok h hx0 (Nat.le_refl _) hk
    obtain ⟨r, h4, h5, h6⟩ := bytesL_ok l ws _ h2 hk
    refine ⟨_, _, fun H' hE => go H' r ?_ _ _ _ rfl, VR_str h5, h4⟩
    have h1' : srcCells H' 1 len (.slice (some ⟨en.r, y, none⟩) len c') = some ws := by
      simp only [srcCells] at h1 ⊢
      exact cellsH_of (fun _ _ x => hE.cell x) _ _ _ h1
    unfold Conv.bytesToString
    simp only
    have hl : qrun P (loadCells ⟨en.r, y, none⟩ len) H' = some ws.toArray := by
      have := qrun_firstCells (P := P) h1'
      rw [show Builtin.firstCells 1 len (.slice (some ⟨en.r, y, none⟩) len c') = loadCells ⟨en.r, y, none⟩ (len * 1) from rfl, Nat.mul_one] at this
      exact this
    rw [qrun_bind', hl, Option.bind_some, qrun_bind', List.forIn_toArray, h6]
    rw [qrun_push (P := P) (H := H') (fun x s => by simp) r ByteArray.empty]
    show some (Value.string ⟨#[] ++ (r.map UInt8.ofNat).toArray⟩) = some (Value.string ⟨(r.map UInt8.ofNat).toArray⟩)
    simp
  · rw [e'] at hk
    obtain ⟨rfl, hk⟩ := nilS_ok hx hk
    exact ⟨_, _, fun H' hE => go H' [] rfl _ _ _ rfl, VR_str (by simp), hk⟩
theorem lkP_ok (hTb : TOK P Tb) {ρ : Nat → AV} {e : En} (he : ER σ φ ρ e) {o : Oper} {kk : AV → Bool} (h : lkP Tb o ρ kk = true) :
    ∃ v r, VR σ φ v r ∧ kk v = true ∧ isQ o.op = false ∧ PureV n P l o e r := by
  obtain ⟨dst, op, type, pos, after, guard⟩ := o
  unfold lkP at h
  simp only at h
  split at h
  · rename_i f args ats
    obtain ⟨fe, hp, h⟩ := withP_ok hTb h
    obtain ⟨v, w, h1, h2, h3⟩ := hp σ φ _ _ kk (evl_ok he args.toList) h
    refine ⟨v, w, h1, h2, rfl, fun H => ?_⟩
    unfold opG
    show callV P (e.ev (.func f)) (args.toList.map e.ev) H _ _
    show CallF P f ([] ++ args.toList.map e.ev ++ []) H _ _
    simp only [List.nil_append, List.append_nil]
    exact (h3 H).mono (fun r H' hx => by obtain ⟨rfl, rfl⟩ := hx; exact ⟨rfl, rfl⟩) (fun _ _ x => x.elim)
  · cases h
theorem xA_ok (hT : TTok P T) (hr : Rel σ F φ A H) {ρ : Nat → AV} {e : En} (he : ER σ φ ρ e) {op : Op} {kk : AV → Bool} (h : xA T ρ A op kk = true) : ∃ v r, (∀ H', Ext H H' → opQ P (full H') e.ev op = some r) ∧ VR σ φ v r ∧ kk v = true := by
  unfold xA at h
  split at h
  · rename_i t p
    obtain ⟨a, v, r, h1, h2, h3, h4⟩ := ldT_ok hT hr (ev_ok he p) h
    refine ⟨v, r, fun H' hE => ?_, h3, h4⟩
    show loadQ P (full H') t (e.ev p) = _
    rw [h1]; exact hE.loadA h2
  · rename_i t m key ok
    obtain ⟨i, hi, h⟩ := withT_ok hT h
    obtain ⟨d, hu, hd⟩ := hi.kind
    split at h
    · rename_i kt et hk
      obtain ⟨g, hg, h⟩ := keyC_ok hT h
      obtain ⟨j, hj, h⟩ := withT_ok hT h
      have hzv := hj.zv
      cases hz : zeroT P et with
      | none => rw [hz] at hzv; cases hzv
      | some z =>
        rw [hz] at hzv
        have hzv : cv1 z = j.zv := Option.some.inj hzv
        exact lokX_ok hr (map_of hu (hd.trans hk)) hg hz (hzv ▸ cv1_ok z) (ev_ok he m) (ev_ok he key) h
    · cases h
  · rename_i s d x
    obtain ⟨i, hi, h⟩ := withT_ok hT h
    obtain ⟨j, hj, h⟩ := withT_ok hT h
    obtain ⟨d1, hu1, hd1⟩ := hi.kind
    obtain ⟨d2, hu2, hd2⟩ := hj.kind
    split at h
    · rename_i el h1 h2
      obtain ⟨l, hl, h⟩ := withT_ok hT h
      obtain ⟨d3, hu3, hd3⟩ := hl.kind
      split at h
      · rename_i h3
        have e3 : d3 = .int .u8 := by rw [h3] at hd3; cases d3 <;> simp [kindOf] at hd3; subst hd3; rfl
        subst e3
        exact strX_ok hr (elemS_of hu1 (hd1.trans h1) hl).2.2 hu3 (str_of hu2 (hd2.trans h2)) (ev_ok he x) h
      · cases h
    · cases h
  · cases h
theorem lkX_ok (hT : TTok P T) (hr : Rel σ F φ A H) {ρ : Nat → AV} {e : En} (he : ER σ φ ρ e) {o : Oper} {kk : AV → Bool} (h : lkX T l o ρ A kk = true) :
    ∃ v r, VR σ φ v r ∧ kk v = true ∧ ∀ H', Ext H H' → evalQ P (full H') l o e = some r := by
  unfold evalQ
  cases hg : o.guard with
  | none =>
    have h : xA T ρ A o.op kk = true := by unfold lkX at h; rw [hg] at h; exact h
    obtain ⟨v, r, h1, h2, h3⟩ := xA_ok hT hr he h
    exact ⟨v, r, h2, h3, h1⟩
  | some g =>
    obtain ⟨j, want⟩ := g
    have h : gdQ (slotA l.toArray ρ j) want (fun k' => xA T ρ A o.op k') kk = true := by unfold lkX at h; rw [hg] at h; exact h
    have hs := slotA_ok (ops := l.toArray) he j
    simp only
    generalize slotA l.toArray ρ j = c at h hs
    generalize slotOf l.toArray e j = w at hs ⊢
    cases c with
    | b x =>
      simp only [VR] at hs
      subst hs
      replace h : @Bool.rec (fun _ => Bool) (kk undA) (xA T ρ A o.op kk) (eqB x want) = true := h
      cases hb : eqB x want with
      | true =>
        rw [hb] at h
        have hx : x = want := by cases x <;> cases want <;> first | rfl | cases hb
        obtain ⟨v, r, h1, h2, h3⟩ := xA_ok hT hr he h
        refine ⟨v, r, h2, h3, fun H' hE => ?_⟩
        rw [if_pos (by simp [yieldV, hx])]; exact h1 H' hE
      | false =>
        rw [hb] at h
        have hx : x ≠ want := by rintro rfl; cases x <;> cases hb
        refine ⟨undA, undef, VR_und, h, fun H' hE => ?_⟩
        rw [if_neg (by simpa [yieldV] using hx)]
    | t lx =>
      simp only [VR] at hs
      obtain ⟨c, rfl, _⟩ := hs
      refine ⟨undA, undef, VR_und, h, fun H' hE => ?_⟩
      rw [if_neg (by simp [yieldV])]
    | _ => cases h
theorem actD_ok (hT : TTok P T) (hTb : TOK P Tb) (hr : Rel σ F φ A H) {ρ : Nat → AV} {e : En} (he : ER σ φ ρ e) {o : Oper} {kk : AV → AH → Bool} {K : En → Heap → Prop} (h : actD T Tb l o ρ A kk = true)
    (hk : After σ F φ kk fun w H' => K (e.put n o.dst w) H') : opG n P l.toArray o e H K Q := by
  unfold opG
  cases hg : o.guard with
  | none =>
    have h : dA T Tb ρ A o.op kk = true := by unfold actD at h; rw [hg] at h; exact h
    exact dA_ok hT hTb hr he h hk
  | some g =>
    obtain ⟨j, want⟩ := g
    have h : gdK (slotA l.toArray ρ j) want (fun k' => dA T Tb ρ A o.op k') A kk = true := by unfold actD at h; rw [hg] at h; exact h
    exact gdK_sound (slotA_ok he j) h (fun h => dA_ok hT hTb hr he h hk) (fun h => hk _ _ _ _ _ φ.le_refl hr VR_und h)
/-- What a look gives when its moment is open: the same for all cells that are held. -/
def LF (P : Program) (n : Nat) (l : List Oper) (o : Oper) (e : En) (r : Value) (hl : List (Addr × Value)) : Prop := ∀ K : En → Prop, K (e.put n o.dst r) → opGF P n hl l o e K
theorem lkF_ok (hT : TTok P T) (hr : Rel σ F φ A H) {ρ : Nat → AV} {e : En} (he : ER σ φ ρ e) {o : Oper} {kk : AV → Bool} (h : lkF T l o ρ kk = true) :
    ∃ v r, VR σ φ v r ∧ kk v = true ∧ ∀ hl, LF P n l o e r hl := by
  cases hg : o.guard with
  | none =>
    have h : pA T ρ o.op kk = true := by unfold lkF at h; rw [hg] at h; exact h
    obtain ⟨v, r, h1, h2, h3⟩ := pA_ok hT hr he h
    refine ⟨v, r, h2, h3, fun hl K hK => ?_⟩
    unfold opGF
    rw [hg]
    show someW (opQ P (held hl) e.ev o.op) _
    rw [h1]
    exact hK
  | some g =>
    obtain ⟨j, want⟩ := g
    have h : gdQ (slotA l.toArray ρ j) want (fun k' => pA T ρ o.op k') kk = true := by unfold lkF at h; rw [hg] at h; exact h
    have hs := slotA_ok (ops := l.toArray) he j
    have key : (∃ v r, VR σ φ v r ∧ kk v = true ∧ (∀ hl (K : En → Prop), K (e.put n o.dst r) → guardW (slotOf l.toArray e j) want (someW (opQ P (held hl) e.ev o.op) fun v => K (e.put n o.dst v)) (K (e.put n o.dst undef)))) := by
      generalize slotA l.toArray ρ j = c at h hs
      generalize slotOf l.toArray e j = w at hs ⊢
      cases c with
      | b x =>
        simp only [VR] at hs
        subst hs
        replace h : @Bool.rec (fun _ => Bool) (kk undA) (pA T ρ o.op kk) (eqB x want) = true := h
        cases hb : eqB x want with
        | true =>
          rw [hb] at h
          obtain ⟨v, r, h1, h2, h3⟩ := pA_ok hT hr he h
          refine ⟨v, r, h2, h3, fun hl K hK => ⟨fun _ => by rw [h1]; exact hK, fun hx => ?_⟩⟩
          subst hx
          cases want <;> cases hb
        | false =>
          rw [hb] at h
          refine ⟨undA, undef, VR_und, h, fun hl K hK => ⟨fun hx => ?_, fun _ => hK⟩⟩
          subst hx
          cases x <;> cases hb
      | t lx =>
        simp only [VR] at hs
        obtain ⟨c, rfl, _⟩ := hs
        exact ⟨undA, undef, VR_und, h, fun hl K hK => hK⟩
      | _ => cases h
    obtain ⟨v, r, h1, h2, h3⟩ := key
    refine ⟨v, r, h1, h2, fun hl K hK => ?_⟩
    unfold opGF
    rw [hg]
    exact h3 hl K hK
theorem LF.look {o : Oper} {e : En} {r : Value} {hl : List (Addr × Value)} (h : LF P n l o e r hl) : ∃ v, LookH P l (heldOK hl) o e v ∧ e.put n o.dst v = e.put n o.dst r := by
  obtain ⟨v, h1, h2⟩ := evalQ_of_GF (h (fun e1 => e1 = e.put n o.dst r) rfl)
  exact ⟨v, fun H hh => ⟨held hl, heldOK_of hh, h1⟩, h2⟩
theorem heldOK_nil_eq : heldOK [] = fun _ => True := funext fun H => propext ⟨fun _ => trivial, fun _ a w hw => by simp [lookA] at hw⟩
/-- The cells that are held are no others. -/
def Only (hd : HD) (φ : Phi) (hl : List (Addr × Value)) : Prop := ∀ a w, lookA hl a = some w → ∃ x ∈ hd, ∃ e, φ x.1 = some e ∧ a = ⟨e.r, e.s + x.2.1, none⟩
theorem add_none {r x j : Nat} : (⟨r, x, none⟩ : Addr).add j = ⟨r, x + j, none⟩ := by
  unfold Addr.add
  split
  · rename_i h; subst h; rfl
  · rfl
theorem hold_one {hd : HD} {hl : List (Addr × Value)} {i : Id} {o : Nat} {v : AV} {en : Ent} {r : Value} (hh : HDR σ φ hd hl) (ho : heldOK hl H) (h1 : φ i = some en) (h3 : cellH H ⟨en.r, en.s + o, none⟩ = some r) (h4 : VR σ φ v r) :
    (∀ a w, lookA hl a = some w → lookA ((⟨en.r, en.s + o, none⟩, r) :: hl) a = some w) ∧ heldOK ((⟨en.r, en.s + o, none⟩, r) :: hl) H ∧ HDR σ φ ((i, o, v) :: hd) ((⟨en.r, en.s + o, none⟩, r) :: hl) ∧
      ((∀ a w, lookA hl a = some w → ∃ x ∈ hd, ∃ e, φ x.1 = some e ∧ a = ⟨e.r, e.s + x.2.1, none⟩) → ∀ a w, lookA ((⟨en.r, en.s + o, none⟩, r) :: hl) a = some w → ∃ x ∈ ((i, o, v) :: hd : HD), ∃ e, φ x.1 = some e ∧ a = ⟨e.r, e.s + x.2.1, none⟩) ∧ lookA ((⟨en.r, en.s + o, none⟩, r) :: hl) ⟨en.r, en.s + o, none⟩ = some r := by
  have ext : ∀ a w, lookA hl a = some w → lookA ((⟨en.r, en.s + o, none⟩, r) :: hl) a = some w := by
    intro a w hw
    unfold lookA
    split
    · rename_i hx
      simp only at hx
      have := ho a w hw
      rw [← hx, h3] at this
      exact this
    · exact hw
  refine ⟨ext, ?_, ?_, fun hO => ?_, by simp [lookA]⟩
  · intro a w hw
    unfold lookA at hw
    split at hw
    · rename_i hx
      simp only at hx hw
      rw [← hx, h3]; exact hw
    · exact ho a w hw
  · intro x hx
    rcases List.mem_cons.1 hx with rfl | hx
    · exact ⟨en, r, h1, by simp [lookA], h4⟩
    · obtain ⟨e', w, a1, a2, a3⟩ := hh x hx
      exact ⟨e', w, a1, ext _ _ a2, a3⟩
  · intro a w hw
    unfold lookA at hw
    split at hw
    · rename_i hx
      simp only at hx
      exact ⟨(i, o, v), by simp, en, h1, hx.symm⟩
    · obtain ⟨x, hx, rest⟩ := hO a w hw
      exact ⟨x, by simp [hx], rest⟩
theorem ldO_p {i : Id} {o : Nat} {en : Ent} {k : Id → Nat → AV → Bool} (h : Rel σ F φ A H) (h1 : φ i = some en) (hk : ldO A (.p i o) k = true) : ∃ v r, cellH H ⟨en.r, en.s + o, none⟩ = some r ∧ VR σ φ v r ∧ k i o v = true := by
  have hk : (A.get i).on_c (fun _ len t => ifB (Nat.blt o len) (k i o (t.get o)) false) false = true := hk
  rcases AB.on_c_eq (A.get i) (fun _ len t => ifB (Nat.blt o len) (k i o (t.get o)) false) false with ⟨ro, len, t, hg, e'⟩ | e'
  · rw [e'] at hk
    obtain ⟨h2, hk⟩ := ifB_and hk
    obtain ⟨e2, r, h3, h4, h5⟩ := h.cell hg (blt_t h2)
    rw [h1] at h3
    cases h3
    exact ⟨_, r, h4, h5, hk⟩
  · rw [e'] at hk; cases hk
theorem hldS_ok {p : AV} {w : Value} {n : Nat} {hd : HD} {hl : List (Addr × Value)} {k : HD → List AV → Bool} (hr : Rel σ F φ A H) (hh : HDR σ φ hd hl) (ho : heldOK hl H) (hp : VR σ φ p w) (hk : hldS A p n hd k = true) :
    ∃ a hd' hl' l ws, w = .pointer (some a) ∧ (∀ a w, lookA hl a = some w → lookA hl' a = some w) ∧ heldOK hl' H ∧ HDR σ φ hd' hl' ∧
      ((∀ a w, lookA hl a = some w → ∃ x ∈ hd, ∃ e, φ x.1 = some e ∧ a = ⟨e.r, e.s + x.2.1, none⟩) → ∀ a w, lookA hl' a = some w → ∃ x ∈ hd', ∃ e, φ x.1 = some e ∧ a = ⟨e.r, e.s + x.2.1, none⟩) ∧ VRl σ φ l ws ∧ k hd' l = true ∧ cellsH (lookA hl') a 0 n = some ws := by
  obtain ⟨i, o, en, rfl, h1, rfl, hk2⟩ := on_p_sound hp hk
  clear hk hp
  suffices key : ∀ (n j : Nat) (hd : HD) (hl : List (Addr × Value)) (k : HD → List AV → Bool), HDR σ φ hd hl → heldOK hl H →
      @Nat.rec (fun _ => Nat → HD → (HD → List AV → Bool) → Bool) (fun _ hd k => k hd []) (fun _ ih o hd k => ldO A (.p i o) fun i' o' v => ih (Nat.succ o) ((i', o', v) :: hd) fun hd l => k hd (v :: l)) n (o + j) hd k = true →
      ∃ hd' hl' l ws, (∀ a w, lookA hl a = some w → lookA hl' a = some w) ∧ heldOK hl' H ∧ HDR σ φ hd' hl' ∧
      ((∀ a w, lookA hl a = some w → ∃ x ∈ hd, ∃ e, φ x.1 = some e ∧ a = ⟨e.r, e.s + x.2.1, none⟩) → ∀ a w, lookA hl' a = some w → ∃ x ∈ hd', ∃ e, φ x.1 = some e ∧ a = ⟨e.r, e.s + x.2.1, none⟩) ∧ VRl σ φ l ws ∧ k hd' l = true ∧ cellsH (lookA hl') ⟨en.r, en.s + o, none⟩ j n = some ws by
    obtain ⟨hd', hl', l, ws, rest⟩ := key n 0 hd hl k hh ho hk2
    exact ⟨_, hd', hl', l, ws, rfl, rest⟩
  intro n
  induction n with
  | zero => intro j hd hl k hh ho hk; exact ⟨hd, hl, [], [], fun _ _ x => x, ho, hh, fun x => x, by simp [VRl], hk, rfl⟩
  | succ n ih =>
    intro j hd hl k hh ho hk
    have hk : ldO A (.p i (o + j)) (fun i' o' v => @Nat.rec (fun _ => Nat → HD → (HD → List AV → Bool) → Bool) (fun _ hd k => k hd []) (fun _ ih o hd k => ldO A (.p i o) fun i' o' v => ih (Nat.succ o) ((i', o', v) :: hd) fun hd l => k hd (v :: l)) n (Nat.succ (o + j)) ((i', o', v) :: hd) fun hd l => k hd (v :: l)) = true := hk
    obtain ⟨v, r, a3, a4, a5⟩ := ldO_p hr h1 hk
    obtain ⟨c1, c2, c3, c4, c5⟩ := hold_one hh ho h1 a3 a4
    obtain ⟨hd', hl', l, ws, d1, d2, d3, d4, d5, d6, d7⟩ := ih (j + 1) _ _ _ c3 c2 a5
    refine ⟨hd', hl', v :: l, r :: ws, fun a w hw => d1 _ _ (c1 _ _ hw), d2, d3, fun hO => d4 (c4 hO), by simp only [VRl]; exact ⟨r, ws, rfl, a4, d5⟩, d6, ?_⟩
    show (lookA hl' ((⟨en.r, en.s + o, none⟩ : Addr).add j)).bind _ = _
    rw [add_none, Nat.add_assoc, d1 _ _ c5, Option.bind_some, d7]
    rfl
theorem fndS_ok {p : AV} {w : Value} {n : Nat} {hd : HD} {hl : List (Addr × Value)} {k : List AV → Bool} (hh : HDR σ φ hd hl) (hp : VR σ φ p w) (hk : fndS hd p n k = true) :
    ∃ a l ws, w = .pointer (some a) ∧ cellsH (lookA hl) a 0 n = some ws ∧ VRl σ φ l ws ∧ k l = true := by
  obtain ⟨i, o, en, rfl, h1, rfl, hk2⟩ := on_p_sound hp hk
  clear hk hp
  suffices key : ∀ (n j : Nat) (k : List AV → Bool),
      @Nat.rec (fun _ => Nat → (List AV → Bool) → Bool) (fun _ k => k []) (fun _ ih o k => fndH hd (.p i o) fun v => ih (Nat.succ o) fun l => k (v :: l)) n (o + j) k = true →
      ∃ l ws, cellsH (lookA hl) ⟨en.r, en.s + o, none⟩ j n = some ws ∧ VRl σ φ l ws ∧ k l = true by
    obtain ⟨l, ws, rest⟩ := key n 0 k hk2
    exact ⟨_, l, ws, rfl, rest⟩
  intro n
  induction n with
  | zero => intro j k hk; exact ⟨[], [], rfl, by simp [VRl], hk⟩
  | succ n ih =>
    intro j k hk
    have hk : fndH hd (.p i (o + j)) (fun v => @Nat.rec (fun _ => Nat → (List AV → Bool) → Bool) (fun _ k => k []) (fun _ ih o k => fndH hd (.p i o) fun v => ih (Nat.succ o) fun l => k (v :: l)) n (Nat.succ (o + j)) fun l => k (v :: l)) = true := hk
    have hp : VR σ φ (.p i (o + j)) (.pointer (some ⟨en.r, en.s + (o + j), none⟩)) := by simp only [VR]; exact ⟨en, h1, rfl⟩
    obtain ⟨a, v, r, a1, a2, a3, a4⟩ := fndH_ok hh hp hk
    simp only [Value.pointer.injEq, Option.some.injEq] at a1
    subst a1
    obtain ⟨l, ws, d1, d2, d3⟩ := ih (j + 1) _ a4
    refine ⟨v :: l, r :: ws, ?_, by simp only [VRl]; exact ⟨r, ws, rfl, a3, d2⟩, d3⟩
    show (lookA hl ((⟨en.r, en.s + o, none⟩ : Addr).add j)).bind _ = _
    rw [add_none, Nat.add_assoc, a2, Option.bind_some, d1]
    rfl
theorem ldHd_ok (hT : TTok P T) (hr : Rel σ F φ A H) {ρ : Nat → AV} {e : En} (he : ER σ φ ρ e) {t : TypeId} {p : Operand} {op : Bool} {hd : HD} {kk : HD → AV → Bool} {hl : List (Addr × Value)} (hh : HDR σ φ hd hl) (ho : heldOK hl H)
    (h : ldHd T t (ev ρ p) op hd A kk = true) :
    ∃ hd' hl' v r, (op = false → hl' = hl) ∧ (∀ a w, lookA hl a = some w → lookA hl' a = some w) ∧ heldOK hl' H ∧ HDR σ φ hd' hl' ∧ (Only hd φ hl → Only hd' φ hl') ∧ VR σ φ v r ∧ kk hd' v = true ∧
      ∀ hl2, (∀ a w, lookA hl' a = some w → lookA hl2 a = some w) → opQ P (held hl2) e.ev (.load t p) = some r := by
  obtain ⟨i, hi, h⟩ := withT_ok hT h
  cases ha : aggK i.k with
  | true =>
    rw [ha] at h
    have lookN : ∀ {a : Addr} {ws : List Value} {hl2 : List (Addr × Value)}, e.ev p = .pointer (some a) → cellsH (lookA hl2) a 0 i.size = some ws → opQ P (held hl2) e.ev (.load t p) = some (.agg ws.toArray) := by
      intro a ws hl2 h1 h2
      show loadQ P (held hl2) t (e.ev p) = _
      rw [h1]
      show loadA P (held hl2) t a = _
      unfold loadA
      rw [aggN_of hi, ha]
      simp only [if_true]
      show (cellsH (lookA hl2) a 0 i.size).map _ = _
      rw [h2]
      rfl
    cases op with
    | false =>
      obtain ⟨a, l, ws, h1, h2, h3, h4⟩ := fndS_ok hh (ev_ok he p) h
      exact ⟨hd, hl, .a l, .agg ws.toArray, fun _ => rfl, fun _ _ x => x, ho, hh, fun x => x, by simp only [VR]; exact ⟨_, rfl, by simpa using h3⟩, h4, fun hl2 hs => lookN h1 (cellsH_of hs _ _ _ h2)⟩
    | true =>
      obtain ⟨a, hd', hl', l, ws, h1, b2, b3, b4, b5, b6, b7, b8⟩ := hldS_ok hr hh ho (ev_ok he p) h
      exact ⟨hd', hl', .a l, .agg ws.toArray, fun hx => (by cases hx), b2, b3, b4, b5, by simp only [VR]; exact ⟨_, rfl, by simpa using b6⟩, b7, fun hl2 hs => lookN h1 (cellsH_of hs _ _ _ b8)⟩
  | false =>
  rw [ha] at h
  have look : ∀ {a : Addr} {r : Value} {hl2 : List (Addr × Value)}, e.ev p = .pointer (some a) → lookA hl2 a = some r → opQ P (held hl2) e.ev (.load t p) = some r := by
    intro a r hl2 h1 h2
    show loadQ P (held hl2) t (e.ev p) = some r
    rw [h1]
    show loadA P (held hl2) t a = some r
    unfold loadA
    rw [aggN_of hi, ha]
    exact h2
  cases op with
  | false =>
    obtain ⟨a, v, r, h1, h2, h3, h4⟩ := fndH_ok hh (ev_ok he p) h
    exact ⟨hd, hl, v, r, fun _ => rfl, fun _ _ x => x, ho, hh, fun x => x, h3, h4, fun hl2 hs => look h1 (hs _ _ h2)⟩
  | true =>
    obtain ⟨j, o', v, en, r, h1, h2, h3, h4, h5⟩ := ldO_ok hr (ev_ok he p) h
    have ext : ∀ a w, lookA hl a = some w → lookA ((⟨en.r, en.s + o', none⟩, r) :: hl) a = some w := by
      intro a w hw
      unfold lookA
      split
      · rename_i hx
        simp only at hx
        have := ho a w hw
        rw [← hx, h3] at this
        exact this
      · exact hw
    refine ⟨(j, o', v) :: hd, (⟨en.r, en.s + o', none⟩, r) :: hl, v, r, fun hx => (by cases hx), ext, ?_, ?_, fun hO => ?_, h4, h5, fun hl2 hs => look h2 (hs _ _ (by simp [lookA]))⟩
    · intro a w hw
      unfold lookA at hw
      split at hw
      · rename_i hx
        simp only at hx hw
        rw [← hx, h3]; exact hw
      · exact ho a w hw
    · intro x hx
      rcases List.mem_cons.1 hx with rfl | hx
      · exact ⟨en, r, h1, by simp [lookA], h4⟩
      · obtain ⟨e', w, a1, a2, a3⟩ := hh x hx
        exact ⟨e', w, a1, ext _ _ a2, a3⟩
    · intro a w hw
      unfold lookA at hw
      split at hw
      · rename_i hx
        simp only at hx
        exact ⟨(j, o', v), by simp, en, h1, hx.symm⟩
      · obtain ⟨x, hx, rest⟩ := hO a w hw
        exact ⟨x, by simp [hx], rest⟩
theorem lkH_ok (hT : TTok P T) (hr : Rel σ F φ A H) {ρ : Nat → AV} {e : En} (he : ER σ φ ρ e) {o : Oper} {op : Bool} {hd : HD} {kk : HD → AV → Bool} {hl : List (Addr × Value)} (hh : HDR σ φ hd hl) (ho : heldOK hl H) (h : lkH T l o op hd ρ A kk = true) :
    ∃ hd' hl' v r, (op = false → hl' = hl) ∧ (∀ a w, lookA hl a = some w → lookA hl' a = some w) ∧ heldOK hl' H ∧ HDR σ φ hd' hl' ∧ (Only hd φ hl → Only hd' φ hl') ∧ VR σ φ v r ∧ kk hd' v = true ∧ ∀ hl2, (∀ a w, lookA hl' a = some w → lookA hl2 a = some w) → LF P n l o e r hl2 := by
  have free : lkF T l o ρ (fun v => kk hd v) = true → ∃ hd' hl' v r, (op = false → hl' = hl) ∧ (∀ a w, lookA hl a = some w → lookA hl' a = some w) ∧ heldOK hl' H ∧ HDR σ φ hd' hl' ∧ (Only hd φ hl → Only hd' φ hl') ∧ VR σ φ v r ∧ kk hd' v = true ∧ ∀ hl2, (∀ a w, lookA hl' a = some w → lookA hl2 a = some w) → LF P n l o e r hl2 := by
    intro h
    obtain ⟨v, r, h1, h2, h3⟩ := lkF_ok (l := l) (n := n) hT hr he h
    exact ⟨hd, hl, v, r, fun _ => rfl, fun _ _ x => x, ho, hh, fun x => x, h1, h2, fun hl2 _ => h3 hl2⟩
  unfold lkH at h
  split at h
  · rename_i t p hop hg
    obtain ⟨hd', hl', v, r, b1, b2, b3, b4, b5, b6, b7, b8⟩ := ldHd_ok hT hr he hh ho h
    refine ⟨hd', hl', v, r, b1, b2, b3, b4, b5, b6, b7, fun hl2 hs K hK => ?_⟩
    unfold opGF
    rw [hg]
    show someW (opQ P (held hl2) e.ev o.op) _
    rw [hop, b8 hl2 hs]
    exact hK
  · rename_i t p g hop hg
    obtain ⟨j, want⟩ := g
    have hs := slotA_ok (ops := l.toArray) he j
    have h : gdH (slotA l.toArray ρ j) want (fun k' => ldHd T t (ev ρ p) op hd A k') hd kk = true := h
    have key : ∃ hd' hl' v r, (op = false → hl' = hl) ∧ (∀ a w, lookA hl a = some w → lookA hl' a = some w) ∧ heldOK hl' H ∧ HDR σ φ hd' hl' ∧ (Only hd φ hl → Only hd' φ hl') ∧ VR σ φ v r ∧ kk hd' v = true ∧
        ∀ hl2, (∀ a w, lookA hl' a = some w → lookA hl2 a = some w) → ∀ K : En → Prop, K (e.put n o.dst r) → guardW (slotOf l.toArray e j) want (someW (opQ P (held hl2) e.ev o.op) fun v => K (e.put n o.dst v)) (K (e.put n o.dst undef)) := by
      generalize slotA l.toArray ρ j = c at h hs
      generalize slotOf l.toArray e j = w at hs ⊢
      cases c with
      | b x =>
        simp only [VR] at hs
        subst hs
        replace h : @Bool.rec (fun _ => Bool) (kk hd undA) (ldHd T t (ev ρ p) op hd A kk) (eqB x want) = true := h
        cases hb : eqB x want with
        | true =>
          rw [hb] at h
          obtain ⟨hd', hl', v, r, b1, b2, b3, b4, b5, b6, b7, b8⟩ := ldHd_ok hT hr he hh ho h
          refine ⟨hd', hl', v, r, b1, b2, b3, b4, b5, b6, b7, fun hl2 hs K hK => ⟨fun _ => ?_, fun hx => ?_⟩⟩
          · rw [hop, b8 hl2 hs]; exact hK
          · subst hx
            cases want <;> cases hb
        | false =>
          rw [hb] at h
          refine ⟨hd, hl, undA, undef, fun _ => rfl, fun _ _ x => x, ho, hh, fun x => x, VR_und, h, fun hl2 hs K hK => ⟨fun hx => ?_, fun _ => hK⟩⟩
          subst hx
          cases x <;> cases hb
      | t lx =>
        simp only [VR] at hs
        obtain ⟨c, rfl, _⟩ := hs
        exact ⟨hd, hl, undA, undef, fun _ => rfl, fun _ _ x => x, ho, hh, fun x => x, VR_und, h, fun hl2 hs K hK => hK⟩
      | _ => cases h
    obtain ⟨hd', hl', v, r, b1, b2, b3, b4, b5, b6, b7, b8⟩ := key
    refine ⟨hd', hl', v, r, b1, b2, b3, b4, b5, b6, b7, fun hl2 hs K hK => ?_⟩
    unfold opGF
    rw [hg]
    exact b8 hl2 hs K hK
  · exact free h
theorem HDR.mono {hd : HD} {hl : List (Addr × Value)} {φ' : Phi} (h : HDR σ φ hd hl) (hl' : φ.le φ') : HDR σ φ' hd hl := by
  intro x hx
  obtain ⟨e, w, h1, h2, h3⟩ := h x hx
  exact ⟨e, w, hl' _ _ h1, h2, VR.mono hl' _ _ h3⟩
theorem Only.mono {hd : HD} {hl : List (Addr × Value)} {φ' : Phi} (h : Only hd φ hl) (hl' : φ.le φ') : Only hd φ' hl := by
  intro a w hw
  obtain ⟨x, hx, e, he, ha⟩ := h a w hw
  exact ⟨x, hx, e, hl' _ _ he, ha⟩
theorem dsj_ok {p q : AV} {x : Bool} (h : dsj A p q x = true) : x = true ∧ ∃ i o j u, p = .p i o ∧ q = .p j u ∧ i ≠ j ∧ A.get i ≠ .no ∧ A.get j ≠ .no := by
  unfold dsj at h
  rcases AV.on_p_eq p (fun i _ => q.on_p (fun j _ => ifB (eqId i j) false ((A.get i).on_c (fun _ _ _ => (A.get j).on_c (fun _ _ _ => x) false) false)) false) false with ⟨i1, o1, e0, e⟩ | e
  · rw [e] at h
    rcases AV.on_p_eq q (fun j _ => ifB (eqId i1 j) false ((A.get i1).on_c (fun _ _ _ => (A.get j).on_c (fun _ _ _ => x) false) false)) false with ⟨i2, o2, e1, e⟩ | e
    · rw [e] at h
      obtain ⟨h1, h⟩ := ifB_or h
      rcases AB.on_c_eq (A.get i1) (fun _ _ _ => (A.get i2).on_c (fun _ _ _ => x) false) false with ⟨_, _, _, a1, e⟩ | e
      · rw [e] at h
        rcases AB.on_c_eq (A.get i2) (fun _ _ _ => x) false with ⟨_, _, _, a2, e⟩ | e
        · rw [e] at h
          refine ⟨h, i1, o1, i2, o2, e0, e1, ?_, by rw [a1]; exact AB.noConfusion, by rw [a2]; exact AB.noConfusion⟩
          intro hx
          subst hx
          have : eqId i1 i1 = true := by unfold eqId; simp
          rw [this] at h1; cases h1
        · rw [e] at h; cases h
      · rw [e] at h; cases h
    · rw [e] at h; cases h
  · rw [e] at h; cases h
theorem altG_ok (hT : TTok P T) {i : Nat} {ρ : Nat → AV} {e : En} (he : ER σ φ ρ e) {x : Bool} : ∀ {alt : Plan}, altG T Tb l i ρ A alt x = true → x = true ∧
    (∀ j ∈ alt.idxs, flAt l j = true → ∃ o cs el wf, l[j]? = some o ∧ isFl o = true ∧ flS P o.op e.ev cs el wf) ∧
    ∀ j ∈ alt.idxs, flAt l j = false → ∃ o oi a b c d, l[j]? = some o ∧ l[i]? = some oi ∧ stP ρ oi = .p a b ∧ stP ρ o = .p c d ∧ a ≠ c ∧ A.get a ≠ .no ∧ A.get c ≠ .no
  | .fin, h => ⟨h, by simp [Plan.idxs], by simp [Plan.idxs]⟩
  | .non, h => ⟨h, by simp [Plan.idxs], by simp [Plan.idxs]⟩
  | .look _ _ _, h => by cases h
  | .lookx _ _, h => by cases h
  | .lookp _ _, h => by cases h
  | .actd _ _, h => by cases h
  | .acth _ _, h => by cases h
  | .act j p a, h => by
    have h : (onO l j fun o => onO l i fun oi => @Bool.rec (fun _ => Bool) (@Bool.rec (fun _ => Bool) false (dsj A (stP ρ oi) (stP ρ o) (altG T Tb l i ρ A a x)) (isSt o)) (dA T Tb ρ A o.op fun _ _ => altG T Tb l i ρ A a x) (isFl o)) = true := h
    obtain ⟨o, ho, h⟩ := onO_ok h
    obtain ⟨oi, hoi, h⟩ := onO_ok h
    have hfl : flAt l j = isFl o := by unfold flAt; rw [ho]
    cases hf : isFl o with
    | false =>
      rw [hf] at h
      obtain ⟨_, h⟩ := bool_t h
      obtain ⟨h, a1, b1, c1, d1, h1, h2, h3, h4, h5⟩ := dsj_ok h
      obtain ⟨g1, g2, g3⟩ := altG_ok hT he h
      refine ⟨g1, fun j' hj hl' => ?_, fun j' hj hl' => ?_⟩
      · rcases List.mem_cons.1 hj with rfl | hj
        · rw [hfl, hf] at hl'; cases hl'
        · exact g2 j' hj hl'
      · rcases List.mem_cons.1 hj with rfl | hj
        · exact ⟨o, oi, a1, b1, c1, d1, ho, hoi, h1, h2, h3, h4, h5⟩
        · exact g3 j' hj hl'
    | true =>
      rw [hf] at h
      have h : dA T Tb ρ A o.op (fun _ _ => altG T Tb l i ρ A a x) = true := h
      obtain ⟨m, t, vf, cs, el, wf, h1, h2, _⟩ := fl_inv hT he hf h
      obtain ⟨_, _, h⟩ := newB_sound h1
      obtain ⟨g1, g2, g3⟩ := altG_ok hT he h
      refine ⟨g1, fun j' hj hl' => ?_, fun j' hj hl' => ?_⟩
      · rcases List.mem_cons.1 hj with rfl | hj
        · exact ⟨o, cs, el, wf, ho, hf, h2⟩
        · exact g2 j' hj hl'
      · rcases List.mem_cons.1 hj with rfl | hj
        · rw [hfl, hf] at hl'; cases hl'
        · exact g3 j' hj hl'

theorem heldOK_push {hl : List (Addr × Value)} (ho : heldOK hl H) (o : Obj) : heldOK hl (H.push o) := by
  intro a v hv
  have := ho a v hv
  unfold cellH at this ⊢
  by_cases hlt : a.block < H.size
  · rw [Array.getElem?_push_lt hlt, ← Array.getElem?_eq_getElem hlt]; exact this
  · rw [Array.getElem?_eq_none (by omega)] at this; cases this
theorem actF_ok (hT : TTok P T) (hr : Rel σ F φ A H) {ρ : Nat → AV} {e : En} (he : ER σ φ ρ e) {o : Oper} (hf : isFl o = true) {kk : AV → AH → Bool} (h : actD T Tb l o ρ A kk = true) :
    ∃ cs el wf φ' v A', flS P o.op e.ev cs el wf ∧ φ.le φ' ∧ Rel σ F φ' A' (H.push (.cells cs el)) ∧ VR σ φ' v (wf H.size) ∧ kk v A' = true := by
  have h : dA T Tb ρ A o.op kk = true := by unfold actD at h; rw [(isFl_op hf).1] at h; exact h
  obtain ⟨m, t, vf, cs, el, wf, a1, a2, a3, a4, a5, a6⟩ := fl_inv hT he hf h
  obtain ⟨j, b1, b2⟩ := newB_sound a1
  exact ⟨cs, el, wf, _, vf A.nx, _, a2, hr.le_put _, hr.newCells (el := el) b1 a3 a4 a5, a6 _ _ _ (if_pos rfl), b2⟩
/-- An act, and what is held behind it. -/
theorem actC_ok (hT : TTok P T) (hTb : TOK P Tb) (hr : Rel σ F φ A H) {ρ : Nat → AV} {e : En} (he : ER σ φ ρ e) {o : Oper} {hd : HD} {hl : List (Addr × Value)} {kk : AV → AH → Bool} {K : En → Heap → Prop} (hh : HDR σ φ hd hl) (hO : Only hd φ hl) (ho : heldOK hl H)
    (h : actD T Tb l o ρ A (fun v A => chkF o hd A (kk v A)) = true) (hk : ∀ v A' φ' w H', φ.le φ' → Rel σ F φ' A' H' → VR σ φ' v w → heldOK hl H' → kk v A' = true → K (e.put n o.dst w) H') : opG n P l.toArray o e H K Q := by
  cases hf : isFl o with
  | true =>
    obtain ⟨cs, el, wf, φ', v, A', h1, h2, h3, h4, h5⟩ := actF_ok (Tb := Tb) hT hr he hf h
    have h5 : kk v A' = true := by
      have : chkF o hd A' (kk v A') = true := h5
      unfold chkF at this; rw [hf] at this; exact this
    exact fl_run hf h1 (hk v A' φ' _ _ h2 h3 h4 (heldOK_push ho _) h5)
  | false =>
    refine actD_ok hT hTb hr he h ?_
    intro v A' φ' w H' h1 h2 h3 h4
    have h4 : chkH hd A' (kk v A') = true := by
      have : chkF o hd A' (kk v A') = true := h4
      unfold chkF at this; rw [hf] at this; exact this
    obtain ⟨h5, h6⟩ := chkH_ok h1 h2 hh h4
    refine hk v A' φ' w H' h1 h2 h3 ?_ h5
    intro a w' hw
    obtain ⟨x, hx, e1, he1, rfl⟩ := hO a w' hw
    obtain ⟨e2, w2, g1, g2, g3⟩ := h6 x hx
    rw [h1 _ _ he1] at g1
    cases g1
    rw [hw] at g2
    cases g2
    exact g3
structure XE where
  j : Nat
  r : Nat
  cs : Array Value
  el : TypeId
/-- What was made early: where it lies, and what its slots hold. -/
structure XI (P : Program) (l : List Oper) (n : Nat) (X : List XE) (F F' : Nat → Option Obj) (e0 e : En) : Prop where
  nd : (X.map (·.j)).Nodup
  ag : ∀ t, (∀ x ∈ X, dstOf l x.j ≠ some t) → e.get t = e0.get t
  ds : e.ds = e0.ds
  fl : ∀ x ∈ X, ∃ o wf, l[x.j]? = some o ∧ isFl o = true ∧ flS P o.op e0.ev x.cs x.el wf ∧ ∀ t, o.dst = some t → e.get t = wf x.r
  f0 : ∀ r, (∀ x ∈ X, x.r ≠ r) → F' r = F r
  f1 : ∀ x ∈ X, F' x.r = some (.cells x.cs x.el) ∧ F x.r = none
  ni : ∀ x ∈ X, ∀ y ∈ X, x.r = y.r → x = y
  ov : ∀ x ∈ X, ∀ y ∈ X, x.j ≠ y.j → overlap l x.j y.j = false
theorem ov_out {i j t : Nat} (h : overlap l i j = false) (hd : dstOf l j = some t) : t ∉ touch l i := by
  unfold overlap at h
  rw [hd] at h
  simp only [Bool.or_eq_false_iff] at h
  have := h.2
  intro hm
  rw [List.contains_iff_mem.2 hm] at this
  cases this
theorem ov_comm {i j : Nat} (h : overlap l i j = false) : overlap l j i = false := by
  unfold overlap at h ⊢
  rw [Bool.or_comm]; exact h
theorem XI.touch {X : List XE} {F F' : Nat → Option Obj} {e0 e : En} (h : XI P l n X F F' e0 e) {i : Nat} (hi : ∀ x ∈ X, overlap l i x.j = false) : ∀ t ∈ HL.touch l i, e0.get t = e.get t := by
  intro t ht
  refine (h.ag t fun x hx hd => ?_).symm
  exact ov_out (hi x hx) hd ht
theorem dst_touch {i t : Nat} {o : Oper} (ho : l[i]? = some o) (hd : o.dst = some t) : t ∈ HL.touch l i := by
  unfold HL.touch
  rw [ho]
  simp [hd]
theorem dstOf_eq {i : Nat} {o : Oper} (ho : l[i]? = some o) : dstOf l i = o.dst := by unfold dstOf; rw [ho]; rfl
/-- Another operation writes its slot. -/
theorem XI.put {X : List XE} {F F' : Nat → Option Obj} {e0 e : En} (h : XI P l n X F F' e0 e) {i : Nat} {o : Oper} (ho : l[i]? = some o) (hi : ∀ x ∈ X, overlap l i x.j = false) (w : Value) : XI P l n X F F' (e0.put n o.dst w) (e.put n o.dst w) := by
  refine ⟨h.nd, fun t ht => ?_, ?_, fun x hx => ?_, h.f0, h.f1, h.ni, h.ov⟩
  · rw [put_get, put_get, h.ag t ht]
  · cases o.dst <;> exact h.ds
  · obtain ⟨ox, wf, h1, h2, h3, h4⟩ := h.fl x hx
    have hov := ov_comm (hi x hx)
    refine ⟨ox, wf, h1, h2, flS_congr (touch_mem h1 fun t ht => ?_).1 (isFl_op h2).2 h3, fun t ht => ?_⟩
    · rw [put_get, if_neg]
      rintro ⟨hd, _⟩
      exact ov_out hov (by rw [dstOf_eq ho]; exact hd) ht
    · rw [put_get, if_neg, h4 t ht]
      rintro ⟨hd, _⟩
      exact ov_out hov (by rw [dstOf_eq ho]; exact hd) (dst_touch h1 ht)
/-- The abstract run has come to a plan; some things were made early. -/
def SS (σ : Nat → Value) (F : Nat → Option Obj) (D : List Deferred) (P : Program) (T : TR) (Tb : FT) (n : Nat) (l : List Oper) (k : Kt) (φ : Phi) (hl : List (Addr × Value)) (pc : Plan) (J : List Nat) (e : En) (H : Heap) : Prop :=
  ∃ (X : List XE) (F' : Nat → Option Obj) (φ' : Phi) (A : AH) (ρ : Nat → AV) (e0 : En) (hd : HD), X.map (·.j) = J ∧ XI P l n X F F' e0 e ∧ φ.le φ' ∧ runP T Tb l pc true hd ρ A k = true ∧ Rel σ F' φ' A H ∧ ENV σ φ' D ρ e0 ∧ HDR σ φ' hd hl ∧ Only hd φ' hl ∧ heldOK hl H ∧ ∀ x ∈ X, ¬ stat σ x.r
theorem noOv_ok {X : List XE} {i : Nat} (h : noOv l i (X.map (·.j)) = true) : ∀ x ∈ X, overlap l i x.j = false := by
  intro x hx
  unfold noOv at h
  rw [List.all_eq_true] at h
  have := h x.j (List.mem_map.2 ⟨x, hx, rfl⟩)
  simpa using this
theorem SS.adopt (hT : TTok P T) (hd0 : dstsOK n l = true) {hl : List (Addr × Value)} {j : Nat} {pc a : Plan} {J : List Nat} {e : En} (h : SS σ F D P T Tb n l k φ hl (.act j pc a) J e H) (hj : j ∈ J) :
    SS σ F D P T Tb n l k φ hl pc (J.filter (· != j)) e H := by
  obtain ⟨X, F', φ', A, ρ, e0, hd, hX, hI, hle, hrun, hr, he, hh, hO, ho, hns⟩ := h
  subst hX
  have hrun : altG T Tb l j ρ A a (onO l j fun o => actD T Tb l o ρ A fun v A => chkF o hd A (runP T Tb l pc true hd (putA ρ o.dst v) A k)) = true := hrun
  obtain ⟨hrun, _, _⟩ := altG_ok hT he.er hrun
  obtain ⟨o, hoj, hrun⟩ := onO_ok hrun
  obtain ⟨x, hx, hxj⟩ := List.mem_map.1 hj
  obtain ⟨o', wf, g1, g2, g3, g4⟩ := hI.fl x hx
  rw [hxj, hoj] at g1
  cases g1
  have hgd : o.guard = none := (isFl_op g2).1
  have hrun : dA T Tb ρ A o.op (fun v A => chkF o hd A (runP T Tb l pc true hd (putA ρ o.dst v) A k)) = true := by
    unfold actD at hrun; rw [hgd] at hrun; exact hrun
  have hcf : ∀ A x, chkF o hd A x = x := fun A x => by unfold chkF; rw [g2]
  simp only [hcf] at hrun
  obtain ⟨m, t, vf, cs, el, wf', a1, a2, a3, a4, a5, a6⟩ := fl_inv hT he.er g2 hrun
  obtain ⟨rfl, rfl, hw⟩ := flS_uniq g3 a2
  obtain ⟨j', b1, b2⟩ := newB_sound a1
  obtain ⟨f1, f2⟩ := hI.f1 x hx
  have hr' := hr.adopt (F := fun r => if r = x.r then none else F' r) f1 (fun r' hn => if_neg hn) (if_pos rfl) (hns x hx) b1 a3 a4 a5
  have hle' := hr.le_put ⟨x.r, 0, x.cs.size⟩
  have c1 := b2
  have hdst : dstOK n o.dst = true := by
    have : ∀ o ∈ l, dstOK n o.dst = true := by simpa [dstsOK] using hd0
    exact this o (List.mem_of_getElem? hoj)
  have hv : VR σ (φ'.put A.nx ⟨x.r, 0, x.cs.size⟩) (vf A.nx) (wf x.r) := by rw [hw]; exact a6 _ _ _ (if_pos rfl)
  have hne : ∀ y ∈ X, y.j ≠ j → y.r ≠ x.r := fun y hy hyj hyr => hyj (by rw [hI.ni y hy x hx hyr, hxj])
  refine ⟨X.filter (fun y => y.j != j), _, _, _, _, e0.put n o.dst (wf x.r), hd, ?_, ?_, hle.trans hle', c1, hr', he.put hle' hdst hv, hh.mono hle', hO.mono hle', ho, fun y hy => hns y (List.mem_filter.1 hy).1⟩
  · rw [List.filter_map]; rfl
  · have hmem : ∀ y, y ∈ X.filter (fun y => y.j != j) ↔ y ∈ X ∧ y.j ≠ j := fun y => by simp [List.mem_filter]
    refine ⟨?_, fun t ht => ?_, ?_, fun y hy => ?_, fun r hr => ?_, fun y hy => ?_, fun y hy z hz => ?_, fun y hy z hz => ?_⟩
    · exact List.Nodup.sublist (List.Sublist.map _ List.filter_sublist) hI.nd
    · rw [put_get]
      by_cases hd : o.dst = some t ∧ t < n
      · rw [if_pos hd]; exact g4 t hd.1
      · rw [if_neg hd]
        refine hI.ag t fun y hy hyd => ?_
        by_cases hyj : y.j = j
        · rw [hyj, dstOf_eq hoj] at hyd
          refine hd ⟨hyd, ?_⟩
          rw [hyd] at hdst
          exact blt_t hdst
        · exact ht y ((hmem y).2 ⟨hy, hyj⟩) hyd
    · rw [hI.ds]; cases o.dst <;> rfl
    · obtain ⟨hy, hyj⟩ := (hmem y).1 hy
      obtain ⟨oy, wy, h1, h2, h3, h4⟩ := hI.fl y hy
      refine ⟨oy, wy, h1, h2, flS_congr (touch_mem h1 fun t ht => ?_).1 (isFl_op h2).2 h3, h4⟩
      rw [put_get, if_neg]
      rintro ⟨hd, _⟩
      exact ov_out (hI.ov y hy x hx (by rw [hxj]; exact hyj)) (by rw [hxj, dstOf_eq hoj]; exact hd) ht
    · show (if r = x.r then none else F' r) = F r
      by_cases hrx : r = x.r
      · rw [if_pos hrx, hrx, f2]
      · rw [if_neg hrx]
        refine hI.f0 r fun y hy hyr => ?_
        by_cases hyj : y.j = j
        · have : (X.map (·.j)).Nodup := hI.nd
          have hyx : y = x := by
            have key : ∀ (X : List XE), (X.map (·.j)).Nodup → ∀ y ∈ X, ∀ x ∈ X, y.j = x.j → y = x := by
              intro X
              induction X with
              | nil => intro _ y hy; simp at hy
              | cons z X ih =>
                intro hn y hy x hx hyx
                simp only [List.map_cons, List.nodup_cons] at hn
                rcases List.mem_cons.1 hy with e1 | hy1
                · rcases List.mem_cons.1 hx with e2 | hx1
                  · rw [e1, e2]
                  · exact absurd (List.mem_map.2 ⟨x, hx1, by rw [← hyx, e1]⟩) hn.1
                · rcases List.mem_cons.1 hx with e2 | hx1
                  · exact absurd (List.mem_map.2 ⟨y, hy1, by rw [hyx, e2]⟩) hn.1
                  · exact ih hn.2 y hy1 x hx1 hyx
            exact key X this y hy x hx (by rw [hyj, hxj])
          exact hrx (by rw [← hyr, hyx])
        · exact hr y ((hmem y).2 ⟨hy, hyj⟩) hyr
    · obtain ⟨hy, hyj⟩ := (hmem y).1 hy
      refine ⟨?_, (hI.f1 y hy).2⟩
      show (if y.r = x.r then none else F' y.r) = _
      rw [if_neg (hne y hy hyj)]; exact (hI.f1 y hy).1
    · exact hI.ni y ((hmem y).1 hy).1 z ((hmem z).1 hz).1
    · exact hI.ov y ((hmem y).1 hy).1 z ((hmem z).1 hz).1
theorem SS.adv (hT : TTok P T) (hd0 : dstsOK n l = true) {hl : List (Addr × Value)} {e : En} : ∀ {pc : Plan} {J : List Nat}, SS σ F D P T Tb n l k φ hl pc J e H → SS σ F D P T Tb n l k φ hl (adv pc J).1 (adv pc J).2 e H
  | .act j p a, J, h => by
    unfold Run.adv
    split
    · rename_i hc
      exact SS.adv hT hd0 (SS.adopt hT hd0 h (by simpa using hc))
    · exact h
  | .fin, J, h => h
  | .non, J, h => h
  | .look _ _ _, J, h => h
  | .lookx _ _, J, h => h
  | .lookp _ _, J, h => h
  | .actd _ _, J, h => h
  | .acth _ _, J, h => h
/-- Something is made early. -/
theorem SS.early (hT : TTok P T) {hl : List (Addr × Value)} {i j : Nat} {pc a : Plan} {J : List Nat} {e : En} (h : SS σ F D P T Tb n l k φ hl (.act j pc a) J e H) (hi : i ∈ a.idxs) (hf : flAt l i = true) (hJ : i ∉ J) (hov : noOv l i J = true) :
    ∃ o cs el wf, l[i]? = some o ∧ isFl o = true ∧ flS P o.op e.ev cs el wf ∧ heldOK hl (H.push (.cells cs el)) ∧ (dstsOK n l = true → SS σ F D P T Tb n l k φ hl (.act j pc a) (i :: J) (e.put n o.dst (wf H.size)) (H.push (.cells cs el))) := by
  obtain ⟨X, F', φ', A, ρ, e0, hd, hX, hI, hle, hrun, hr, he, hh, hO, ho, hns⟩ := h
  subst hX
  have hrun0 := hrun
  have hrun : altG T Tb l j ρ A a (onO l j fun o => actD T Tb l o ρ A fun v A => chkF o hd A (runP T Tb l pc true hd (putA ρ o.dst v) A k)) = true := hrun
  obtain ⟨_, hfl, _⟩ := altG_ok hT he.er hrun
  obtain ⟨o, cs, el, wf, h1, h2, h3⟩ := hfl i hi hf
  have hov := noOv_ok hov
  have hto := hI.touch hov
  have h3' : flS P o.op e.ev cs el wf := flS_congr (touch_mem h1 hto).1 (isFl_op h2).2 h3
  have ho' : heldOK hl (H.push (.cells cs el)) := by
    intro a v hv
    have := ho a v hv
    unfold cellH at this ⊢
    by_cases hlt : a.block < H.size
    · rw [Array.getElem?_push_lt hlt, ← Array.getElem?_eq_getElem hlt]; exact this
    · rw [Array.getElem?_eq_none (by omega)] at this; cases this
  refine ⟨o, cs, el, wf, h1, h2, h3', ho', fun hd0 => ?_⟩
  have hdst : dstOK n o.dst = true := by
    have : ∀ o ∈ l, dstOK n o.dst = true := by simpa [dstsOK] using hd0
    exact this o (List.mem_of_getElem? h1)
  have hfree : F' H.size = none := hr.free
  have hxr : ∀ y ∈ X, y.r ≠ H.size := fun y hy hyr => by
    have := (hI.f1 y hy).1
    rw [hyr, hfree] at this
    cases this
  have hF0 : F H.size = none := by rw [← hI.f0 H.size hxr]; exact hfree
  refine ⟨⟨i, H.size, cs, el⟩ :: X, _, φ', A, ρ, e0, hd, rfl, ?_, hle, hrun0, hr.park (.cells cs el), he, hh, hO, ho', fun y hy => ?_⟩
  rotate_left
  · rcases List.mem_cons.1 hy with rfl | hy
    · intro hs; exact Nat.lt_irrefl _ (hr.st _ hs)
    · exact hns y hy
  refine ⟨?_, fun t ht => ?_, ?_, fun y hy => ?_, fun r hr => ?_, fun y hy => ?_, fun y hy z hz hyz => ?_, fun y hy z hz hyz => ?_⟩
  · simp only [List.map_cons, List.nodup_cons]
    exact ⟨hJ, hI.nd⟩
  · rw [put_get, if_neg]
    · exact hI.ag t fun y hy => ht y (by simp [hy])
    · rintro ⟨hd, _⟩
      exact ht ⟨i, H.size, cs, el⟩ (by simp) (by rw [dstOf_eq h1]; exact hd)
  · rw [← hI.ds]; cases o.dst <;> rfl
  · rcases List.mem_cons.1 hy with rfl | hy
    · refine ⟨o, wf, h1, h2, h3, fun t ht => ?_⟩
      have htn : t < n := by
        have h9 := hdst
        rw [ht] at h9
        exact blt_t h9
      rw [put_get, if_pos ⟨ht, htn⟩]
    · obtain ⟨oy, wy, g1, g2, g3, g4⟩ := hI.fl y hy
      refine ⟨oy, wy, g1, g2, g3, fun t ht => ?_⟩
      rw [put_get, if_neg, g4 t ht]
      rintro ⟨hd, _⟩
      exact ov_out (ov_comm (hov y hy)) (by rw [dstOf_eq h1]; exact hd) (dst_touch g1 ht)
  · show (if r = H.size then _ else F' r) = F r
    rw [if_neg (fun e => hr ⟨i, H.size, cs, el⟩ (by simp) e.symm)]
    exact hI.f0 r fun y hy => hr y (by simp [hy])
  · rcases List.mem_cons.1 hy with rfl | hy
    · exact ⟨if_pos rfl, hF0⟩
    · refine ⟨?_, (hI.f1 y hy).2⟩
      show (if y.r = H.size then _ else F' y.r) = _
      rw [if_neg (hxr y hy)]; exact (hI.f1 y hy).1
  · rcases List.mem_cons.1 hy with rfl | hy
    · rcases List.mem_cons.1 hz with rfl | hz
      · rfl
      · exact absurd hyz.symm (hxr z hz)
    · rcases List.mem_cons.1 hz with rfl | hz
      · exact absurd hyz (hxr y hy)
      · exact hI.ni y hy z hz hyz
  · rcases List.mem_cons.1 hy with rfl | hy
    · rcases List.mem_cons.1 hz with rfl | hz
      · exact absurd rfl hyz
      · exact hov z hz
    · rcases List.mem_cons.1 hz with rfl | hz
      · exact ov_comm (hov y hy)
      · exact hI.ov y hy z hz hyz
/-- An act in its turn. -/
theorem SS.act (hT : TTok P T) (hTb : TOK P Tb) (hd0 : dstsOK n l = true) {hl : List (Addr × Value)} {i : Nat} {pc a : Plan} {J : List Nat} {e : En} (hQ : PanOK Q) (h : SS σ F D P T Tb n l k φ hl (.act i pc a) J e H) (hov : noOv l i J = true) (heff : effAt l i = true) :
    ∃ o, l[i]? = some o ∧ opG n P l.toArray o e H (fun e' H' => heldOK hl H' ∧ SS σ F D P T Tb n l k φ hl pc J e' H') Q := by
  obtain ⟨X, F', φ', A, ρ, e0, hd, hX, hI, hle, hrun, hr, he, hh, hO, ho, hns⟩ := h
  subst hX
  have hrun : altG T Tb l i ρ A a (onO l i fun o => actD T Tb l o ρ A fun v A => chkF o hd A (runP T Tb l pc true hd (putA ρ o.dst v) A k)) = true := hrun
  obtain ⟨hrun, _, _⟩ := altG_ok hT he.er hrun
  obtain ⟨o, hio, hrun⟩ := onO_ok hrun
  have hov := noOv_ok hov
  have hto := hI.touch hov
  have hq : isQ o.op = false := by
    unfold effAt at heff
    rw [hio] at heff
    simpa using heff
  have hdst : dstOK n o.dst = true := by
    have : ∀ o ∈ l, dstOK n o.dst = true := by simpa [dstsOK] using hd0
    exact this o (List.mem_of_getElem? hio)
  refine ⟨o, hio, opG_trans (Q := Q) (K := fun e' H' => ∃ w, e' = e0.put n o.dst w ∧ heldOK hl H' ∧ ∃ (φ'' : Phi) (A' : AH) (v : AV), φ'.le φ'' ∧ Rel σ F' φ'' A' H' ∧ VR σ φ'' v w ∧ runP T Tb l pc true hd (putA ρ o.dst v) A' k = true) hio hq hto ?_ ?_ ?_⟩
  · rintro v H' ⟨w, hw, hho, φ'', A', v', h1, h2, h3, h4⟩
    have hvw : e.put n o.dst v = e.put n o.dst w := by
      cases hd : o.dst with
      | none => rfl
      | some d =>
        rw [hd] at hw
        have := congrFun (congrArg En.get hw) d
        rw [put_get, put_get] at this
        by_cases hdn : d < n
        · rw [if_pos ⟨rfl, hdn⟩, if_pos ⟨rfl, hdn⟩] at this; rw [this]
        · simp only [En.put]
          congr 1
          funext t
          rw [if_neg, if_neg] <;> (rintro ⟨rfl, h⟩; exact hdn h)
    rw [hvw]
    exact ⟨hho, X, F', φ'', A', _, _, hd, rfl, hI.put hio hov w, hle.trans h1, h4, h2, he.put h1 hdst h3, hh.mono h1, hO.mono h1, hho, hns⟩
  · exact fun c H' hp => hQ c e0 e H' hI.ds.symm hp
  · refine actC_ok hT hTb hr he.er hh hO ho hrun ?_
    intro v A' φ'' w H' h1 h2 h3 h4 h5
    exact ⟨w, rfl, h4, φ'', A', v, h1, h2, h3, h5⟩
theorem GF_of_evalQ {o : Oper} {e : En} {hl : List (Addr × Value)} {v : Value} {K : En → Prop} (h : evalQ P (held hl) l o e = some v) (hk : K (e.put n o.dst v)) : opGF P n hl l o e K := by
  unfold opGF
  unfold evalQ at h
  cases hg : o.guard with
  | none => rw [hg] at h; exact someW_iff.2 ⟨v, h, hk⟩
  | some g =>
    obtain ⟨j, want⟩ := g
    rw [hg] at h
    simp only at h ⊢
    generalize slotOf l.toArray e j = w at h
    cases w with
    | bool b =>
      unfold guardW
      by_cases hb : b = want
      · rw [if_pos (by simp [yieldV, hb])] at h
        exact ⟨fun _ => someW_iff.2 ⟨v, h, hk⟩, fun hx => by subst hb; cases b <;> cases hx⟩
      · rw [if_neg (by simp [yieldV, hb])] at h
        cases h
        exact ⟨fun hx => absurd hx hb, fun _ => hk⟩
    | _ => rw [if_neg (by simp [yieldV])] at h; cases h; exact hk
theorem held_sub {hl hl' : List (Addr × Value)} (h : ∀ a w, lookA hl a = some w → lookA hl' a = some w) : ∀ H, heldOK hl' H → heldOK hl H := fun H hh a w hw => hh a w (h a w hw)
def isLk : Plan → Bool
  | .look _ _ _ => true
  | .lookx _ _ => true
  | .lookp _ _ => true
  | _ => false
theorem alt_lk {m ps : List Nat} {d : Nat} {p : Plan} (h : planOK ps l m false d p = true) : isLk p = false := by
  cases p <;> first | rfl | (simp [planOK] at h)
/-- A look in its turn. -/
theorem SS.look (hT : TTok P T) (hd0 : dstsOK n l = true) {hl : List (Addr × Value)} {i : Nat} {pc : Plan} {J : List Nat} {e : En} (h : SS σ F D P T Tb n l k φ hl (.look i false pc) J e H) (hov : noOv l i J = true) :
    ∃ o r hl1, l[i]? = some o ∧ (∀ a w, lookA hl a = some w → lookA hl1 a = some w) ∧ (∀ hl2, (∀ a w, lookA hl1 a = some w → lookA hl2 a = some w) → ∃ v, LookH P l (heldOK hl2) o e v ∧ e.put n o.dst v = e.put n o.dst r) ∧ SS σ F D P T Tb n l k φ hl1 pc J (e.put n o.dst r) H := by
  obtain ⟨X, F', φ', A, ρ, e0, hd, hX, hI, hle, hrun, hr, he, hh, hO, ho, hns⟩ := h
  subst hX
  have hrun : (onO l i fun o => lkH T l o true hd ρ A fun hd v => runP T Tb l pc true hd (putA ρ o.dst v) A k) = true := hrun
  obtain ⟨o, hio, hrun⟩ := onO_ok hrun
  have hov := noOv_ok hov
  have hto := hI.touch hov
  have hdst : dstOK n o.dst = true := by
    have : ∀ o ∈ l, dstOK n o.dst = true := by simpa [dstsOK] using hd0
    exact this o (List.mem_of_getElem? hio)
  obtain ⟨hd', hl1, v, r, _, b2, b3, b4, b5, b6, b7, b8⟩ := lkH_ok (l := l) (n := n) hT hr he.er hh ho hrun
  refine ⟨o, r, hl1, hio, b2, fun hl2 h2 => ?_, ?_⟩
  · obtain ⟨v', hv', hk'⟩ := evalQ_of_GF (b8 hl2 h2 (fun e1 => e1 = e0.put n o.dst r) rfl)
    rw [evalQ_congr hio hto] at hv'
    exact ⟨v', fun H hh => ⟨held hl2, heldOK_of hh, hv'⟩, put_same hk'⟩
  · exact ⟨X, F', φ', A, _, _, hd', rfl, hI.put hio hov r, hle, b7, hr, he.put φ'.le_refl hdst b6, b4, b5 hO, b3, hns⟩
theorem SS.lookx (hT : TTok P T) (hd0 : dstsOK n l = true) {hl : List (Addr × Value)} {i : Nat} {pc : Plan} {J : List Nat} {e : En} (h : SS σ F D P T Tb n l k φ hl (.lookx i pc) J e H) (hov : noOv l i J = true) :
    ∃ o v, l[i]? = some o ∧ (∀ H', Ext H H' → evalQ P (full H') l o e = some v) ∧ SS σ F D P T Tb n l k φ hl pc J (e.put n o.dst v) H := by
  obtain ⟨X, F', φ', A, ρ, e0, hd, hX, hI, hle, hrun, hr, he, hh, hO, ho, hns⟩ := h
  subst hX
  have hrun : (onO l i fun o => lkX T l o ρ A fun v => runP T Tb l pc true hd (putA ρ o.dst v) A k) = true := hrun
  obtain ⟨o, hio, hrun⟩ := onO_ok hrun
  have hov := noOv_ok hov
  have hto := hI.touch hov
  have hdst : dstOK n o.dst = true := by
    have : ∀ o ∈ l, dstOK n o.dst = true := by simpa [dstsOK] using hd0
    exact this o (List.mem_of_getElem? hio)
  obtain ⟨v, r, b1, b2, b3⟩ := lkX_ok (l := l) hT hr he.er hrun
  refine ⟨o, r, hio, fun H' hE => by rw [← evalQ_congr hio hto]; exact b3 H' hE, ?_⟩
  exact ⟨X, F', φ', A, _, _, hd, rfl, hI.put hio hov r, hle, b2, hr, he.put φ'.le_refl hdst b1, hh, hO, ho, hns⟩

theorem SS.lookp (hTb : TOK P Tb) (hd0 : dstsOK n l = true) {hl : List (Addr × Value)} {i : Nat} {pc : Plan} {J : List Nat} {e : En} (h : SS σ F D P T Tb n l k φ hl (.lookp i pc) J e H) (hov : noOv l i J = true) :
    ∃ o v, l[i]? = some o ∧ isQ o.op = false ∧ PureV n P l o e v ∧ SS σ F D P T Tb n l k φ hl pc J (e.put n o.dst v) H := by
  obtain ⟨X, F', φ', A, ρ, e0, hd, hX, hI, hle, hrun, hr, he, hh, hO, ho, hns⟩ := h
  subst hX
  have hrun : (onO l i fun o => lkP Tb o ρ fun v => runP T Tb l pc true hd (putA ρ o.dst v) A k) = true := hrun
  obtain ⟨o, hio, hrun⟩ := onO_ok hrun
  have hov := noOv_ok hov
  have hto := hI.touch hov
  have hdst : dstOK n o.dst = true := by
    have : ∀ o ∈ l, dstOK n o.dst = true := by simpa [dstsOK] using hd0
    exact this o (List.mem_of_getElem? hio)
  obtain ⟨v, r, b1, b2, b3, b4⟩ := lkP_ok (l := l) (n := n) hTb he.er hrun
  refine ⟨o, r, hio, b3, fun H => ?_, ?_⟩
  · exact opG_trans (Q := fun _ _ _ => False) hio b3 hto (fun v H' h => ⟨put_same h.1, h.2⟩) (fun c H' h => h) (b4 H)
  · exact ⟨X, F', φ', A, _, _, hd, rfl, hI.put hio hov r, hle, b2, hr, he.put φ'.le_refl hdst b1, hh, hO, ho, hns⟩

def RunOK (σ : Nat → Value) (F : Nat → Option Obj) (D : List Deferred) (P : Program) (T : TR) (Tb : FT) (n : Nat) (l : List Oper) (m ps : List Nat) (Q : Exit → En → Heap → Prop) (k : Kt) (p : Plan) : Prop :=
  ∀ (d : Nat) (hd : HD) (hl : List (Addr × Value)) (φ : Phi) (ρ : Nat → AV) (A : AH) (e : En) (H : Heap),
    planOK ps l m true d p = true → simA l p true = true → Rel σ F φ A H → ENV σ φ D ρ e → HDR σ φ hd hl → Only hd φ hl → heldOK hl H → KOK σ F D φ k (Q .normal) → runP T Tb l p true hd ρ A k = true →
    ∃ hl', (isLk p = false → hl' = hl) ∧ (∀ a w, lookA hl a = some w → lookA hl' a = some w) ∧ heldOK hl' H ∧ drawW n P l (heldOK hl') Q p e H
theorem fini_ok {m ps : List Nat} {N : Nat} (IH : ∀ r, psz r < N → RunOK σ F D P T Tb n l m ps Q k r) {hl : List (Addr × Value)} (hk : KOK σ F D φ k (Q .normal)) {b : Bool} {q pc : Plan} {J : List Nat} {d : Nat} {e : En} (hs : psz q < N) (hp : planOK ps l m b d q = true)
    (hsim : simA l q b = true) (h : SS σ F D P T Tb n l k φ hl pc J e H) (hf : fini b q pc J = true) : ∃ hl', (isLk q = false → hl' = hl) ∧ (∀ a w, lookA hl a = some w → lookA hl' a = some w) ∧ heldOK hl' H ∧ drawW n P l (heldOK hl') Q q e H := by
  unfold fini at hf
  simp only [Bool.and_eq_true, List.isEmpty_iff] at hf
  obtain ⟨⟨rfl, rfl⟩, hq⟩ := hf
  have := eqP_ok _ _ hq
  subst this
  obtain ⟨X, F', φ', A, ρ, e0, hd, hX, hI, hle, hrun, hr, he, hh, hO, ho, hns⟩ := h
  have hX : X = [] := by simpa using hX
  subst hX
  have hF : F' = F := funext fun r => hI.f0 r (by simp)
  subst hF
  have hee : e = e0 := by
    have h1 : e.get = e0.get := funext fun t => hI.ag t (by simp)
    have h2 := hI.ds
    cases e; cases e0
    simp only at h1 h2
    rw [h1, h2]
  subst hee
  exact IH q hs d hd hl φ' ρ A e H hp hsim hr he hh hO ho (hk.mono hle) hrun
theorem sim_ok {m ps : List Nat} {N : Nat} (hT : TTok P T) (hTb : TOK P Tb) (hd0 : dstsOK n l = true) (hQ : PanOK Q) (IH : ∀ r, psz r < N → RunOK σ F D P T Tb n l m ps Q k r) (hk : KOK σ F D φ k (Q .normal)) :
    ∀ (q : Plan) (hl : List (Addr × Value)) (b : Bool) (pc : Plan) (J : List Nat) (d : Nat) (e : En) (H : Heap), psz q < N → simB l q b pc J = true → planOK ps l m b d q = true → simA l q b = true → SS σ F D P T Tb n l k φ hl pc J e H →
      ∃ hl', (isLk q = false → hl' = hl) ∧ (∀ a w, lookA hl a = some w → lookA hl' a = some w) ∧ heldOK hl' H ∧ drawW n P l (heldOK hl') Q q e H := by
  intro q
  induction q with
  | fin => intro hl b pc J d e H hs hsim hp hA h; exact fini_ok IH hk hs hp hA (h.adv hT hd0) hsim
  | non =>
    intro hl b pc J d e H hs hsim hp hA h
    obtain ⟨X, F', φ', A, ρ, e0, hd, hX, hI, hle, hrun, hr, he, hh, hO, ho, hns⟩ := h
    exact ⟨hl, fun _ => rfl, fun _ _ x => x, ho, trivial⟩
  | look i f q ih =>
    intro hl b pc J d e H hs hsim hp hA h
    have h := h.adv hT hd0
    simp only [simB, Bool.or_eq_true, Bool.and_eq_true] at hsim
    rcases hsim with hf | ⟨hf, hm⟩
    · exact fini_ok IH hk hs hp hA h hf
    · have hf : f = false := by simpa using hf
      subst hf
      split at hm
      · rename_i j g p' hpc
        simp only [Bool.and_eq_true, beq_iff_eq, Bool.not_eq_true'] at hm
        obtain ⟨⟨⟨rfl, rfl⟩, hov⟩, hm⟩ := hm
        rw [hpc] at h
        obtain ⟨o, r, hl1, ho, h1, h2, h3⟩ := h.look hT hd0 hov
        cases b with
        | false => simp [planOK] at hp
        | true =>
          simp only [planOK, Bool.and_eq_true] at hp
          obtain ⟨hl', _, a2, a3, a4⟩ := ih hl1 true _ _ _ _ H (by simp only [psz] at hs; omega) hm hp.2 hA h3
          refine ⟨hl', fun hx => (by cases hx), fun a w hw => a2 a w (h1 a w hw), a3, ?_⟩
          obtain ⟨v, g1, g2⟩ := h2 hl' a2
          unfold drawW
          rw [ho]
          rw [← g2] at a4
          exact ⟨v, g1, a4⟩
      · cases hm
  | lookx i q ih =>
    intro hl b pc J d e H hs hsim hp hA h
    have h := h.adv hT hd0
    simp only [simB, Bool.or_eq_true] at hsim
    rcases hsim with hf | hm
    · exact fini_ok IH hk hs hp hA h hf
    · split at hm
      · rename_i j p' hpc
        simp only [Bool.and_eq_true, beq_iff_eq] at hm
        obtain ⟨⟨rfl, hov⟩, hm⟩ := hm
        rw [hpc] at h
        obtain ⟨o, v, ho, h1, h2⟩ := h.lookx hT hd0 hov
        cases b with
        | false => simp [planOK] at hp
        | true =>
          simp only [planOK, Bool.and_eq_true] at hp
          obtain ⟨hl', _, a2, a3, a4⟩ := ih hl true _ _ _ _ H (by simp only [psz] at hs; omega) hm hp.2 hA h2
          refine ⟨hl', fun hx => (by cases hx), a2, a3, ?_⟩
          unfold drawW
          rw [ho]
          exact ⟨v, h1, a4⟩
      · cases hm
  | lookp i q ih =>
    intro hl b pc J d e H hs hsim hp hA h
    have h := h.adv hT hd0
    simp only [simB, Bool.or_eq_true] at hsim
    rcases hsim with hf | hm
    · exact fini_ok IH hk hs hp hA h hf
    · split at hm
      · rename_i j p' hpc
        simp only [Bool.and_eq_true, beq_iff_eq] at hm
        obtain ⟨⟨rfl, hov⟩, hm⟩ := hm
        rw [hpc] at h
        obtain ⟨o, v, ho, h0, h1, h2⟩ := h.lookp hTb hd0 hov
        cases b with
        | false => simp [planOK] at hp
        | true =>
          simp only [planOK, Bool.and_eq_true] at hp
          obtain ⟨hl', _, a2, a3, a4⟩ := ih hl true _ _ _ _ H (by simp only [psz] at hs; omega) hm hp.2 hA h2
          refine ⟨hl', fun hx => (by cases hx), a2, a3, ?_⟩
          unfold drawW
          rw [ho]
          exact ⟨h0, v, h1, a4⟩
      · cases hm
  | act i q alt ih ihalt =>
    intro hl b pc J d e H hs hsim hp hA h
    have h := h.adv hT hd0
    have hpp : effP ps l i = true ∧ (∃ d', planOK ps l m true d' q = true) ∧ planOK ps l m false d alt = true := by
      cases b <;> simp only [planOK, Bool.and_eq_true] at hp
      · exact ⟨hp.1.1.1.2, ⟨_, hp.1.2⟩, hp.2⟩
      · exact ⟨hp.1.1.1.2, ⟨_, hp.1.2⟩, hp.2⟩
    obtain ⟨heff, ⟨d', hpq⟩, hpa⟩ := hpp
    simp only [simA, Bool.and_eq_true] at hA
    obtain ⟨⟨hA0, hAq⟩, hAa⟩ := hA
    simp only [psz] at hs
    simp only [simB, Bool.or_eq_true, Bool.and_eq_true] at hsim
    rcases hsim with hf | ⟨hm, hsa⟩
    · refine fini_ok IH hk (by simp only [psz]; exact hs) hp ?_ h hf
      simp only [simA, Bool.and_eq_true]
      exact ⟨⟨hA0, hAq⟩, hAa⟩
    · obtain ⟨hl', c1, _, c3, c4⟩ := ihalt hl false _ _ d e H (by omega) hsa hpa hAa h
      have c1 := c1 (alt_lk hpa)
      subst c1
      refine ⟨_, fun _ => rfl, fun _ _ x => x, c3, ?_⟩
      unfold drawW
      refine ⟨?_, c4⟩
      split at hm
      · rename_i j p' altc hpc
        rw [hpc] at h
        simp only [Bool.or_eq_true, Bool.and_eq_true, beq_iff_eq, Bool.not_eq_true'] at hm
        rcases hm with ⟨⟨rfl, hov⟩, hm⟩ | ⟨⟨⟨⟨hi, hfl⟩, hJ⟩, hov⟩, hm⟩
        · obtain ⟨o, ho, h2⟩ := h.act hT hTb hd0 hQ hov (effP_t heff).1
          rw [ho]
          refine opG_mono ?_ (fun _ _ _ h => h) h2
          rintro e' H' ⟨h3, h4⟩
          obtain ⟨hl', _, a2, a3, a4⟩ := ih _ true _ _ _ e' H' (by omega) hm hpq hAq h4
          exact ⟨heldOK hl', held_sub a2, a3, a4⟩
        · obtain ⟨o, cs, el, wf, ho, hfo, hS, hho, h2⟩ := h.early hT (by simpa using hi) hfl (by simpa using hJ) hov
          rw [ho]
          obtain ⟨hl', _, a2, a3, a4⟩ := ih _ true _ _ _ _ _ (by omega) hm hpq hAq (h2 hd0)
          exact fl_run hfo hS ⟨heldOK hl', held_sub a2, a3, a4⟩
      · cases hm
  | actd i q ih => intro hl b pc J d e H hs hsim hp hA h; exact fini_ok IH hk hs hp hA (h.adv hT hd0) hsim
  | acth i q ih => intro hl b pc J d e H hs hsim hp hA h; exact fini_ok IH hk hs hp hA (h.adv hT hd0) hsim
theorem swp_ok {m ps : List Nat} {N : Nat} (hT : TTok P T) (hTb : TOK P Tb) (hd0 : dstsOK n l = true) (IH : ∀ r, psz r < N → RunOK σ F D P T Tb n l m ps Q k r) (hk : KOK σ F D φ k (Q .normal))
    {i : Nat} {p alt : Plan} {d : Nat} {hd : HD} {hl : List (Addr × Value)} {ρ : Nat → AV} {e : En} (hs : psz (.act i p alt) ≤ N) (hp : planOK ps l m true d (.act i p alt) = true) (hA : simA l (.act i p alt) true = true)
    (hr : Rel σ F φ A H) (he : ENV σ φ D ρ e) (hh : HDR σ φ hd hl) (hO : Only hd φ hl) (ho : heldOK hl H)
    (h : altG T Tb l i ρ A alt (onO l i fun o => actD T Tb l o ρ A fun v A => chkF o hd A (runP T Tb l p true hd (putA ρ o.dst v) A k)) = true) (hw : swpB l i p alt = true) : drawW n P l (heldOK hl) Q alt e H := by
  unfold swpB at hw
  split at hw
  · rename_i j q j' i' q'
    simp only [Bool.and_eq_true, beq_iff_eq] at hw
    obtain ⟨⟨⟨⟨rfl, rfl⟩, hq⟩, hsi⟩, hsj⟩ := hw
    have := eqP_ok _ _ hq
    subst this
    obtain ⟨h, _, h3⟩ := altG_ok hT he.er h
    have hff : flAt l j = false := by
      unfold flAt
      unfold stAt at hsj
      cases ho : l[j]? with
      | none => rfl
      | some o =>
        rw [ho] at hsj
        obtain ⟨dst, op, type, pos, after, guard⟩ := o
        cases op <;> first | rfl | (cases guard <;> cases dst <;> first | rfl | cases hsj)
    obtain ⟨o, oi, a, b, c, dd, hoj, hoi, ha, hc, hne, hga, hgc⟩ := h3 j (by simp [Plan.idxs]) hff
    unfold stAt at hsi hsj
    rw [hoi] at hsi
    rw [hoj] at hsj
    simp only at hsi hsj
    obtain ⟨dst, op, ty, pos, aft, guard⟩ := o
    obtain ⟨dst', op', ty', pos', aft', guard'⟩ := oi
    have form : ∀ {dst : Option Nat} {op : Op} {ty : TypeId} {pos : String} {aft : Array Edge} {guard : Option (Nat × Bool)}, isSt ⟨dst, op, ty, pos, aft, guard⟩ = true → dst = none ∧ guard = none ∧ ∃ t p x, op = .store t p x := by
      intro dst op ty pos aft guard h
      cases op <;> cases guard <;> cases dst <;> first | exact ⟨rfl, rfl, _, _, _, rfl⟩ | cases h
    obtain ⟨rfl, rfl, t, po, x, rfl⟩ := form hsj
    obtain ⟨rfl, rfl, t', po', x', rfl⟩ := form hsi
    obtain ⟨oo, hoo, h⟩ := onO_ok h
    rw [hoi] at hoo
    cases hoo
    have h : withT T t' (fun i => stA A (ev ρ po') (ev ρ x') i.size fun A => chkH hd A (runP T Tb l (.act j q .non) true hd ρ A k)) = true := h
    obtain ⟨ti, hti, h⟩ := withT_ok hT h
    obtain ⟨ad', A1, H1, u1, u2, u3, h⟩ := stA_ok hti.size hr (ev_ok he.er po') (ev_ok he.er x') h
    obtain ⟨h, w1⟩ := chkH_ok φ.le_refl u3 hh h
    have hold1 : heldOK hl H1 := by
      intro a w' hw
      obtain ⟨y, hy, e1, he1, rfl⟩ := hO a w' hw
      obtain ⟨e2, w2, g1, g2, g3⟩ := w1 y hy
      rw [he1] at g1; cases g1
      rw [hw] at g2; cases g2
      exact g3
    have h : altG T Tb l j ρ A1 .non (onO l j fun o => actD T Tb l o ρ A1 fun v A => chkF o hd A (runP T Tb l q true hd (putA ρ o.dst v) A k)) = true := h
    obtain ⟨oo, hoo, h⟩ := onO_ok h
    rw [hoj] at hoo
    cases hoo
    have h : withT T t (fun i => stA A1 (ev ρ po) (ev ρ x) i.size fun A => chkH hd A (runP T Tb l q true hd ρ A k)) = true := h
    obtain ⟨tj, htj, h⟩ := withT_ok hT h
    obtain ⟨ad, A2, H2, v1, v2, v3, h⟩ := stA_ok htj.size u3 (ev_ok he.er po) (ev_ok he.er x) h
    obtain ⟨h, w2⟩ := chkH_ok φ.le_refl v3 hh h
    have hold2 : heldOK hl H2 := by
      intro a w' hw
      obtain ⟨y, hy, e1, he1, rfl⟩ := hO a w' hw
      obtain ⟨e2, w3, g1, g2, g3⟩ := w2 y hy
      rw [he1] at g1; cases g1
      rw [hw] at g2; cases g2
      exact g3
    have hblk : ad'.block ≠ ad.block := by
      have ea := ev_ok he.er po'
      have ec := ev_ok he.er po
      have ha : ev ρ po' = .p a b := ha
      have hc : ev ρ po = .p c dd := hc
      rw [ha, u1] at ea
      rw [hc, v1] at ec
      simp only [VR] at ea ec
      obtain ⟨e1, f1, f2⟩ := ea
      obtain ⟨e2, f3, f4⟩ := ec
      simp only [Value.pointer.injEq, Option.some.injEq] at f2 f4
      rw [f2, f4]
      intro hx
      exact hne (hr.inj a c e1 e2 hga hgc f1 f3 hx)
    obtain ⟨H3, s1, s2, s3, s4⟩ := storeA_swap hblk u2 v2
    have hold3 : heldOK hl H3 := by
      intro a w' hw
      by_cases hb : a.block = ad.block
      · have := hold2 a w' hw
        unfold cellH at this ⊢
        rw [hb, s4]; rw [hb] at this; exact this
      · have := ho a w' hw
        unfold cellH at this ⊢
        rw [s3 _ hb]; exact this
    simp only [planOK, Bool.and_eq_true] at hp
    simp only [simA, Bool.and_eq_true] at hA
    simp only [psz] at hs
    obtain ⟨hl', _, a2, a3, a4⟩ := IH q (by omega) _ hd hl φ ρ A2 e H2 hp.1.2.1.2 hA.1.2.1.2 v3 he hh hO hold2 hk h
    unfold drawW
    rw [hoj]
    refine ⟨?_, by unfold drawW; trivial⟩
    show ptrW (e.ev po) fun ad => withV (e.ev x) fun v => someW (storeA P H t ad v) fun H' => ∃ hl', (∀ H, hl' H → heldOK hl H) ∧ hl' H' ∧ drawW n P l hl' Q _ e H'
    rw [v1]
    show someW (storeA P H t ad (e.ev x)) _
    rw [s1]
    refine ⟨heldOK hl, fun _ x => x, hold3, ?_⟩
    unfold drawW
    rw [hoi]
    refine ⟨?_, by unfold drawW; trivial⟩
    show ptrW (e.ev po') fun ad => withV (e.ev x') fun v => someW (storeA P H3 t' ad v) fun H' => ∃ hl', (∀ H, hl' H → heldOK hl H) ∧ hl' H' ∧ drawW n P l hl' Q _ e H'
    rw [u1]
    show someW (storeA P H3 t' ad' (e.ev x')) _
    rw [s2]
    exact ⟨heldOK hl', held_sub a2, a3, a4⟩
  · cases hw
theorem runP_all {m ps : List Nat} (hT : TTok P T) (hTb : TOK P Tb) (hd0 : dstsOK n l = true) (hQ : PanOK Q) : ∀ (N : Nat) (p : Plan), psz p < N → RunOK σ F D P T Tb n l m ps Q k p := by
  have hdst : ∀ {i : Nat} {o : Oper}, l[i]? = some o → dstOK n o.dst = true := by
    intro i o ho
    have : ∀ o ∈ l, dstOK n o.dst = true := by simpa [dstsOK] using hd0
    exact this o (List.mem_of_getElem? ho)
  intro N
  induction N with
  | zero => intro p hp; omega
  | succ N IH =>
    intro p hs d hd hl φ ρ A e H hp hA hr he hh hO ho hk h
    cases p with
    | fin => exact ⟨hl, fun _ => rfl, fun _ _ x => x, ho, hk φ A ρ e H φ.le_refl hr he h⟩
    | non => cases h
    | look i f p =>
      simp only [psz] at hs
      simp only [planOK, Bool.and_eq_true] at hp
      obtain ⟨⟨⟨⟨_, heff⟩, _⟩, _⟩, hp⟩ := hp
      obtain ⟨o, hio, h⟩ := onO_ok h
      have hq : isQ o.op = true := by
        unfold effAt at heff
        rw [hio] at heff
        simpa using heff
      cases f with
      | true =>
        obtain ⟨v, r, h1, h2, h3⟩ := lkT_ok (l := l) (n := n) (Q := Q) hT hr he.er hq h
        obtain ⟨hl', a1, a2, a3, a4⟩ := IH p (by omega) _ hd hl φ _ A (e.put n o.dst r) H hp hA hr (he.put φ.le_refl (hdst hio) h1) hh hO ho hk h2
        refine ⟨hl', fun hx => (by cases hx), a2, a3, ?_⟩
        unfold drawW
        rw [hio]
        exact h3 _ a4
      | false =>
        obtain ⟨hd', hl1, v, r, b1, b2, b3, b4, b5, b6, b7, b8⟩ := lkH_ok (l := l) (n := n) hT hr he.er hh ho h
        obtain ⟨hl', a1, a2, a3, a4⟩ := IH p (by omega) _ hd' hl1 φ _ A (e.put n o.dst r) H hp hA hr (he.put φ.le_refl (hdst hio) b6) b4 (b5 hO) b3 hk b7
        refine ⟨hl', fun hx => (by cases hx), fun a w hw => a2 _ _ (b2 _ _ hw), a3, ?_⟩
        unfold drawW
        rw [hio]
        obtain ⟨v', g1, g2⟩ := LF.look (b8 hl' a2)
        rw [← g2] at a4
        exact ⟨v', g1, a4⟩
    | lookx i p =>
      simp only [psz] at hs
      simp only [planOK, Bool.and_eq_true] at hp
      obtain ⟨_, hp⟩ := hp
      obtain ⟨o, hio, h⟩ := onO_ok h
      obtain ⟨v, r, h1, h2, h3⟩ := lkX_ok (l := l) hT hr he.er h
      obtain ⟨hl', a1, a2, a3, a4⟩ := IH p (by omega) _ hd hl φ _ A (e.put n o.dst r) H hp hA hr (he.put φ.le_refl (hdst hio) h1) hh hO ho hk h2
      refine ⟨hl', fun hx => (by cases hx), a2, a3, ?_⟩
      unfold drawW
      rw [hio]
      exact ⟨r, h3, a4⟩
    | lookp i p =>
      simp only [psz] at hs
      simp only [planOK, Bool.and_eq_true] at hp
      obtain ⟨_, hp⟩ := hp
      obtain ⟨o, hio, h⟩ := onO_ok h
      obtain ⟨v, r, h1, h2, h0, h3⟩ := lkP_ok (l := l) (n := n) hTb he.er h
      obtain ⟨hl', a1, a2, a3, a4⟩ := IH p (by omega) _ hd hl φ _ A (e.put n o.dst r) H hp hA hr (he.put φ.le_refl (hdst hio) h1) hh hO ho hk h2
      refine ⟨hl', fun hx => (by cases hx), a2, a3, ?_⟩
      unfold drawW
      rw [hio]
      exact ⟨h0, r, h3, a4⟩
    | act i p alt =>
      have hp0 := hp
      have hA0 := hA
      have hs0 : psz (.act i p alt) ≤ N := by omega
      simp only [psz] at hs
      simp only [planOK, Bool.and_eq_true] at hp
      simp only [simA, Bool.and_eq_true] at hA
      have h0 : altG T Tb l i ρ A alt (onO l i fun o => actD T Tb l o ρ A fun v A => chkF o hd A (runP T Tb l p true hd (putA ρ o.dst v) A k)) = true := h
      obtain ⟨h, _, _⟩ := altG_ok hT he.er h0
      obtain ⟨o, hio, h⟩ := onO_ok h
      refine ⟨hl, fun _ => rfl, fun _ _ x => x, ho, ?_⟩
      unfold drawW
      rw [hio]
      refine ⟨?_, ?_⟩
      · refine actC_ok hT hTb hr he.er hh hO ho h ?_
        intro v A' φ' w H' h1 h2 h3 ho' h5
        obtain ⟨hl', _, a2, a3, a4⟩ := IH p (by omega) _ hd hl φ' _ A' (e.put n o.dst w) H' hp.1.2 hA.1.2 h2 (he.put h1 (hdst hio) h3) (hh.mono h1) (hO.mono h1) ho' (hk.mono h1) h5
        exact ⟨heldOK hl', held_sub a2, a3, a4⟩
      · have hb : altB l i p alt = true := by
          have := hA.1.1
          simpa using this
        unfold altB at hb
        simp only [Bool.or_eq_true] at hb
        rcases hb with (hb | hb) | hb
        · have := eqP_ok _ _ hb
          subst this
          unfold drawW; trivial
        · obtain ⟨hl', c1, _, c3, c4⟩ := sim_ok (N := N) hT hTb hd0 hQ (fun r hr => IH r hr) hk alt hl false (.act i p alt) [] d e H (by omega) hb hp.2 hA.2
            ⟨[], F, φ, A, ρ, e, hd, rfl, ⟨List.nodup_nil, fun t _ => rfl, rfl, fun x hx => by simp at hx, fun r _ => rfl, fun x hx => by simp at hx, fun x hx => by simp at hx, fun x hx => by simp at hx⟩, φ.le_refl, h0, hr, he, hh, hO, ho, fun x hx => by simp at hx⟩
          have c1 := c1 (alt_lk hp.2)
          subst c1
          exact c4
        · exact swp_ok (N := N) hT hTb hd0 (fun r hr => IH r hr) hk hs0 hp0 hA0 hr he hh hO ho h0 hb
    | actd i p => cases h
    | acth i p =>
      simp only [psz] at hs
      simp only [planOK, Bool.and_eq_true] at hp
      obtain ⟨_, hp⟩ := hp
      obtain ⟨o, hio, h⟩ := onO_ok h
      refine ⟨hl, fun _ => rfl, fun _ _ x => x, ho, ?_⟩
      unfold drawW
      rw [hio]
      refine actD_ok hT hTb hr he.er h ?_
      intro v A' φ' w H' h1 h2 h3 h4
      obtain ⟨hl', _, _, a3, a4⟩ := IH p (by omega) _ [] [] φ' _ A' (e.put n o.dst w) H' hp hA h2 (he.put h1 (hdst hio) h3) (fun x hx => by simp at hx) (fun a w hw => by simp [lookA] at hw) (fun a w hw => by simp [lookA] at hw) (hk.mono h1) h4
      exact ⟨heldOK hl', a3, a4⟩
theorem runD_ok {p : Plan} {id : Nat} {ρ : Nat → AV} {e : En} (hm : P.follows .mixedOrders = true) (hT : TTok P T) (hTb : TOK P Tb) (hd0 : dstsOK n l = true) (hp : drawOK2 l p = true) (hQ : PanOK Q) (hr : Rel σ F φ A H) (he : ENV σ φ D ρ e)
    (hk : KOK σ F D φ k (Q .normal)) (h : runD T Tb l p ρ A k = true) : CW n P (.region id l.toArray true) Q e H := by
  unfold drawOK2 at hp
  simp only [Bool.and_eq_true] at hp
  obtain ⟨hp, hA⟩ := hp
  have hp' := hp
  unfold drawOK at hp'
  simp only [Bool.and_eq_true] at hp'
  obtain ⟨hl', _, _, h3, h4⟩ := runP_all (Q := Q) (m := masks l) (ps := p.pures) hT hTb hd0 hQ (psz p + 1) p (by omega) 0 [] [] φ ρ A e H hp'.2 hA hr he (fun x hx => by simp at hx) (fun a w hw => by simp [lookA] at hw) (fun a w hw => by simp [lookA] at hw) hk h
  exact draw_by p (heldOK hl') hm hp hQ h3 h4
end
end
end Go.Run
