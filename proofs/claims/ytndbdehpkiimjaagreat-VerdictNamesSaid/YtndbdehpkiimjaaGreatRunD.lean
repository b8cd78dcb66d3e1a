
/- Closed runs: numbers, truth values and strings: the operations on them. -/
import Derived.Test.YtndbdehpkiimjaaGreatRunC
namespace Go.Run
open Go.HL
variable {σ : Nat → Value} {F : Nat → Option Obj} {φ : Phi} {A : AH} {H : Heap}
noncomputable section

/-- A number worked out. -/
def frc (n : Nat) (k : Nat → Bool) : Bool := @Nat.rec (fun _ => Bool) (k 0) (fun m _ => k (Nat.succ m)) n
theorem frc_eq (n : Nat) (k : Nat → Bool) : frc n k = k n := by cases n <;> rfl
def ifB (c : Bool) (t e : Bool) : Bool := @Bool.rec (fun _ => Bool) e t c
theorem ifB_eq (c t e : Bool) : ifB c t e = if c then t else e := by cases c <;> rfl
theorem ifB_and {c t : Bool} (h : ifB c t false = true) : c = true ∧ t = true := by cases c <;> simp_all [ifB]

def kindN (g : IntKind) : Nat := @IntKind.rec (fun _ => Nat) 0 1 2 3 4 5 6 7 g
theorem kindN_inj {g g' : IntKind} (h : Nat.beq (kindN g) (kindN g') = true) : g = g' := by
  have := Nat.eq_of_beq_eq_true h
  cases g <;> cases g' <;> first | rfl | (simp [kindN] at this)
/-- A number of whatever kind. -/
def intN (k : IntKind → Int → Bool) (x : Nat) : Bool := k .i64 (Int.ofNat x)
def AV.int (v : AV) (k : IntKind → Int → Bool) : Bool := v.on_n (intN k) (v.on_z k false)
theorem AV.int_sound {v : AV} {w : Value} {k : IntKind → Int → Bool} (hv : VR σ φ v w) (hk : v.int k = true) : ∃ g x, w = .int g x ∧ k g x = true := by
  unfold AV.int at hk
  cases v with
  | n x => simp only [VR] at hv; obtain ⟨rfl, _⟩ := hv; exact ⟨_, _, rfl, hk⟩
  | z g x => simp only [VR] at hv; subst hv; exact ⟨_, _, rfl, hk⟩
  | _ => cases hk
/-- The value of a number, worked out. -/
def mkI (g : IntKind) (x : Int) (k : AV → Bool) : Bool :=
  @Int.rec (fun _ => Bool) (fun n => frc n fun n => ifB (Nat.beq (kindN g) 3) (ifB (Nat.blt n 9223372036854775808) (k (.n n)) false) (k (.z g (Int.ofNat n)))) (fun n => frc n fun n => k (.z g (Int.negSucc n))) x
theorem mkI_sound {g : IntKind} {x : Int} {k : AV → Bool} (hk : mkI g x k = true) : ∃ v, VR σ φ v (.int g x) ∧ k v = true := by
  unfold mkI at hk
  cases x with
  | negSucc n =>
    simp only [frc_eq] at hk
    exact ⟨.z g (Int.negSucc n), by simp only [VR], hk⟩
  | ofNat n =>
    simp only [frc_eq] at hk
    cases hg : Nat.beq (kindN g) 3 with
    | false => rw [hg] at hk; exact ⟨.z g (Int.ofNat n), by simp only [VR], hk⟩
    | true =>
      rw [hg] at hk
      obtain ⟨h1, h2⟩ := ifB_and hk
      have : g = .i64 := kindN_inj hg
      subst this
      exact ⟨.n n, by simp only [VR]; exact ⟨rfl, by have := blt_t h1; omega⟩, h2⟩
/-- An operation on two numbers, in general. -/
def binI (op : BinOp) (x y : AV) (k : AV → Bool) : Bool := x.int fun g a => y.int fun g' c => @Option.rec Value (fun _ => Bool) false (fun w => match w with
  | .int g v => mkI g v k
  | .bool b => k (.b b)
  | _ => false) (intBin op g a g' c)
def binOK (P : Program) (op : BinOp) (f : AV → AV → (AV → Bool) → Bool) : Prop :=
  ∀ (σ : Nat → Value) (φ : Phi) (V : HV) (t : TypeId) (xo yo : Operand) (x y : AV) (w w' : Value) (k : AV → Bool), VR σ φ x w → VR σ φ y w' → f x y k = true → ∃ r v, binV P V op t xo yo w w' = some r ∧ VR σ φ v r ∧ k v = true
theorem binI_ok {P : Program} {op : BinOp} : binOK P op (binI op) := by
  intro σ φ V t xo yo x y w w' k hx hy hk
  unfold binI at hk
  obtain ⟨g, a, rfl, hk⟩ := AV.int_sound hx hk
  obtain ⟨g', c, rfl, hk⟩ := AV.int_sound hy hk
  show ∃ r v, intBin op g a g' c = some r ∧ _
  cases hi : intBin op g a g' c with
  | none => rw [hi] at hk; cases hk
  | some r =>
    rw [hi] at hk
    cases r with
    | int g v => obtain ⟨v', h1, h2⟩ := mkI_sound (σ := σ) (φ := φ) hk; exact ⟨_, v', rfl, h1, h2⟩
    | bool b => exact ⟨_, .b b, rfl, by simp only [VR], hk⟩
    | _ => cases hk
/-- Two numbers of 64 bits, neither below 0; else in general. -/
def nn (x y : AV) (f : Nat → Nat → Bool) (no : Bool) : Bool := x.on_n (fun a => y.on_n (fun c => f a c) no) no
theorem nn_ok {P : Program} {op : BinOp} {f : Nat → Nat → (AV → Bool) → Bool}
    (h : ∀ (σ : Nat → Value) (φ : Phi) (a c : Nat) (k : AV → Bool), a < 2 ^ 63 → c < 2 ^ 63 → f a c k = true → ∃ r v, intBin op .i64 a .i64 c = some r ∧ VR σ φ v r ∧ k v = true) : binOK P op (fun x y k => nn x y (fun a c => f a c k) (binI op x y k)) := by
  intro σ φ V t xo yo x y w w' k hx hy hk
  simp only at hk
  unfold nn at hk
  rcases AV.on_n_eq x (fun a => y.on_n (fun c => f a c k) (binI op x y k)) (binI op x y k) with ⟨a, rfl, e⟩ | e
  · rw [e] at hk
    rcases AV.on_n_eq y (fun c => f a c k) (binI op (.n a) y k) with ⟨c, rfl, e'⟩ | e'
    · rw [e'] at hk
      simp only [VR] at hx hy
      obtain ⟨rfl, ha⟩ := hx
      obtain ⟨rfl, hc⟩ := hy
      exact h σ φ a c k ha hc hk
    · rw [e'] at hk; exact binI_ok σ φ V t xo yo _ _ _ _ k hx hy hk
  · rw [e] at hk; exact binI_ok σ φ V t xo yo _ _ _ _ k hx hy hk

def addA (x y : AV) (k : AV → Bool) : Bool := nn x y (fun a c => frc (Nat.add a c) fun s => ifB (Nat.blt s 9223372036854775808) (k (.n s)) false) (binI .add x y k)
theorem addA_ok {P : Program} : binOK P .add addA := nn_ok (f := fun a c k => frc (Nat.add a c) fun s => ifB (Nat.blt s 9223372036854775808) (k (.n s)) false) fun σ φ a c k ha hc hk => by
  rw [frc_eq] at hk
  obtain ⟨h1, h2⟩ := ifB_and hk
  have := blt_t h1
  refine ⟨_, .n (Nat.add a c), rfl, ?_, h2⟩
  simp only [VR]
  refine ⟨?_, by simp only [Nat.add_eq] at this ⊢; omega⟩
  have e : IntKind.i64.wrap ((a : Int) + c) = ((Nat.add a c : Nat) : Int) := by rw [IntWalk.i64_in _ (by simp only [Nat.add_eq] at this; omega)]; simp
  rw [e]
def subA (x y : AV) (k : AV → Bool) : Bool := nn x y (fun a c => ifB (Nat.ble c a) (frc (Nat.sub a c) fun s => k (.n s)) (frc (Nat.sub (Nat.sub c a) 1) fun s => k (.z .i64 (Int.negSucc s)))) (binI .sub x y k)
theorem subA_ok {P : Program} : binOK P .sub subA := nn_ok (f := fun a c k => ifB (Nat.ble c a) (frc (Nat.sub a c) fun s => k (.n s)) (frc (Nat.sub (Nat.sub c a) 1) fun s => k (.z .i64 (Int.negSucc s)))) fun σ φ a c k ha hc hk => by
  rw [frc_eq, frc_eq, ifB_eq] at hk
  have e : IntKind.i64.wrap ((a : Int) - c) = (a : Int) - c := IntWalk.i64_in _ (by omega)
  refine ⟨.int .i64 ((a : Int) - c), ?_⟩
  by_cases h : c ≤ a
  · rw [if_pos (Nat.ble_eq_true_of_le h)] at hk
    refine ⟨.n (Nat.sub a c), by simp only [intBin, e]; rfl, ?_, hk⟩
    simp only [VR]
    refine ⟨?_, by simp only [Nat.sub_eq]; omega⟩
    simp only [Nat.sub_eq]
    congr 1; omega
  · rw [if_neg (fun x => h (Nat.le_of_ble_eq_true x))] at hk
    refine ⟨.z .i64 (Int.negSucc (Nat.sub (Nat.sub c a) 1)), by simp only [intBin, e]; rfl, ?_, hk⟩
    simp only [VR, Nat.sub_eq]
    congr 1; omega
def mulA (x y : AV) (k : AV → Bool) : Bool := nn x y (fun a c => frc (Nat.mul a c) fun s => ifB (Nat.blt s 9223372036854775808) (k (.n s)) false) (binI .mul x y k)
theorem mulA_ok {P : Program} : binOK P .mul mulA := nn_ok (f := fun a c k => frc (Nat.mul a c) fun s => ifB (Nat.blt s 9223372036854775808) (k (.n s)) false) fun σ φ a c k ha hc hk => by
  rw [frc_eq] at hk
  obtain ⟨h1, h2⟩ := ifB_and hk
  have h3 := blt_t h1
  refine ⟨_, .n (Nat.mul a c), rfl, ?_, h2⟩
  simp only [VR]
  simp only [Nat.mul_eq] at h3 ⊢
  refine ⟨?_, by omega⟩
  have e : IntKind.i64.wrap ((a : Int) * c) = ((a * c : Nat) : Int) := by
    have e1 : (a : Int) * c = ((a * c : Nat) : Int) := by simp
    rw [e1]; exact IntWalk.i64_in _ (by omega)
  rw [e]
def quoA (x y : AV) (k : AV → Bool) : Bool := nn x y (fun a c => ifB (Nat.beq c 0) false (frc (Nat.div a c) fun s => k (.n s))) (binI .quo x y k)
theorem beq_f {a b : Nat} (h : Nat.beq a b = false) : a ≠ b := by intro e; subst e; rw [Nat.beq_refl] at h; cases h
theorem ifB_or {c t : Bool} (h : ifB c false t = true) : c = false ∧ t = true := by cases c <;> simp_all [ifB]
theorem quoA_ok {P : Program} : binOK P .quo quoA := nn_ok (f := fun a c k => ifB (Nat.beq c 0) false (frc (Nat.div a c) fun s => k (.n s))) fun σ φ a c k ha hc hk => by
  rw [frc_eq] at hk
  obtain ⟨h1, h2⟩ := ifB_or hk
  have h3 := beq_f h1
  have hd : Nat.div a c ≤ a := Nat.div_le_self a c
  refine ⟨.int .i64 (Nat.div a c), .n (Nat.div a c), ?_, ?_, h2⟩
  · have e : IntKind.i64.wrap ((a : Int).tdiv c) = (Nat.div a c : Nat) := by rw [show (a : Int).tdiv c = ((Nat.div a c : Nat) : Int) from rfl]; exact IntWalk.i64_in _ (by omega)
    simp only [intBin, e, ne_eq, not_true, if_false]
    rw [if_neg (by omega)]
  · simp only [VR]; exact ⟨trivial, by omega⟩
def remA (x y : AV) (k : AV → Bool) : Bool := nn x y (fun a c => ifB (Nat.beq c 0) false (frc (Nat.mod a c) fun s => k (.n s))) (binI .rem x y k)
theorem remA_ok {P : Program} : binOK P .rem remA := nn_ok (f := fun a c k => ifB (Nat.beq c 0) false (frc (Nat.mod a c) fun s => k (.n s))) fun σ φ a c k ha hc hk => by
  rw [frc_eq] at hk
  obtain ⟨h1, h2⟩ := ifB_or hk
  have h3 := beq_f h1
  have hd : Nat.mod a c ≤ a := Nat.mod_le a c
  refine ⟨.int .i64 (Nat.mod a c), .n (Nat.mod a c), ?_, ?_, h2⟩
  · have e : (a : Int).tmod c = (Nat.mod a c : Nat) := rfl
    simp only [intBin, e, ne_eq, not_true, if_false]
    rw [if_neg (by omega)]
  · simp only [VR]; exact ⟨trivial, by omega⟩
theorem ofInt_nat (a : Nat) : BitVec.ofInt 64 (a : Int) = BitVec.ofNat 64 a := BitVec.ofInt_natCast 64 a
theorem toNat_small {a : Nat} (h : a < 2 ^ 63) : (BitVec.ofNat 64 a).toNat = a := by rw [BitVec.toNat_ofNat]; exact Nat.mod_eq_of_lt (by omega)
def andA (x y : AV) (k : AV → Bool) : Bool := nn x y (fun a c => frc (Nat.land a c) fun s => k (.n s)) (binI .and x y k)
theorem andA_ok {P : Program} : binOK P .and andA := nn_ok (f := fun a c k => frc (Nat.land a c) fun s => k (.n s)) fun σ φ a c k ha hc hk => by
  rw [frc_eq] at hk
  have hl : Nat.land a c ≤ a := Nat.and_le_left
  refine ⟨.int .i64 (Nat.land a c : Nat), .n (Nat.land a c), ?_, ?_, hk⟩
  · have e : (BitVec.ofInt IntKind.i64.bits a &&& BitVec.ofInt IntKind.i64.bits c).toNat = Nat.land a c := by
      show (BitVec.ofInt 64 a &&& BitVec.ofInt 64 c).toNat = _
      rw [ofInt_nat, ofInt_nat, BitVec.toNat_and, toNat_small ha, toNat_small hc]; rfl
    simp only [intBin, e, ne_eq, not_true, if_false]
    rw [IntWalk.i64_in _ (by omega)]
  · simp only [VR]; exact ⟨trivial, by omega⟩
def orA (x y : AV) (k : AV → Bool) : Bool := nn x y (fun a c => frc (Nat.lor a c) fun s => ifB (Nat.blt s 9223372036854775808) (k (.n s)) false) (binI .or x y k)
theorem orA_ok {P : Program} : binOK P .or orA := nn_ok (f := fun a c k => frc (Nat.lor a c) fun s => ifB (Nat.blt s 9223372036854775808) (k (.n s)) false) fun σ φ a c k ha hc hk => by
  rw [frc_eq] at hk
  obtain ⟨h1, h2⟩ := ifB_and hk
  have h3 := blt_t h1
  refine ⟨.int .i64 (Nat.lor a c : Nat), .n (Nat.lor a c), ?_, ?_, h2⟩
  · have e : (BitVec.ofInt IntKind.i64.bits a ||| BitVec.ofInt IntKind.i64.bits c).toNat = Nat.lor a c := by
      show (BitVec.ofInt 64 a ||| BitVec.ofInt 64 c).toNat = _
      rw [ofInt_nat, ofInt_nat, BitVec.toNat_or, toNat_small ha, toNat_small hc]; rfl
    simp only [intBin, e, ne_eq, not_true, if_false]
    rw [IntWalk.i64_in _ (by omega)]
  · simp only [VR]; exact ⟨trivial, by omega⟩
def xorA (x y : AV) (k : AV → Bool) : Bool := nn x y (fun a c => frc (Nat.xor a c) fun s => ifB (Nat.blt s 9223372036854775808) (k (.n s)) false) (binI .xor x y k)
theorem xorA_ok {P : Program} : binOK P .xor xorA := nn_ok (f := fun a c k => frc (Nat.xor a c) fun s => ifB (Nat.blt s 9223372036854775808) (k (.n s)) false) fun σ φ a c k ha hc hk => by
  rw [frc_eq] at hk
  obtain ⟨h1, h2⟩ := ifB_and hk
  have h3 := blt_t h1
  refine ⟨.int .i64 (Nat.xor a c : Nat), .n (Nat.xor a c), ?_, ?_, h2⟩
  · have e : (BitVec.ofInt IntKind.i64.bits a ^^^ BitVec.ofInt IntKind.i64.bits c).toNat = Nat.xor a c := by
      show (BitVec.ofInt 64 a ^^^ BitVec.ofInt 64 c).toNat = _
      rw [ofInt_nat, ofInt_nat, BitVec.toNat_xor, toNat_small ha, toNat_small hc]; rfl
    simp only [intBin, e, ne_eq, not_true, if_false]
    rw [IntWalk.i64_in _ (by omega)]
  · simp only [VR]; exact ⟨trivial, by omega⟩

/-! ### Comparisons -/
def ltI (a c : Int) : Bool := @Int.rec (fun _ => Bool) (fun n => @Int.rec (fun _ => Bool) (fun m => Nat.blt n m) (fun _ => false) c) (fun n => @Int.rec (fun _ => Bool) (fun _ => true) (fun m => Nat.blt m n) c) a
theorem ltI_eq (a c : Int) : ltI a c = decide (a < c) := by
  cases a with
  | ofNat n =>
    cases c with
    | ofNat m =>
      show Nat.blt n m = _
      by_cases h : n < m
      · have : (Int.ofNat n) < Int.ofNat m := by simp; omega
        rw [decide_eq_true this]; exact Nat.ble_eq_true_of_le h
      · have : ¬ (Int.ofNat n) < Int.ofNat m := by simp; omega
        rw [decide_eq_false this]
        cases e : Nat.blt n m with
        | false => rfl
        | true => exact absurd (blt_t e) h
    | negSucc m => exact (decide_eq_false (by simp only [Int.ofNat_eq_natCast]; omega)).symm
  | negSucc n =>
    cases c with
    | ofNat m => exact (decide_eq_true (by simp only [Int.ofNat_eq_natCast]; omega)).symm
    | negSucc m =>
      show Nat.blt m n = _
      by_cases h : m < n
      · rw [decide_eq_true (by omega)]; exact Nat.ble_eq_true_of_le h
      · rw [decide_eq_false (by omega)]
        cases e : Nat.blt m n with
        | false => rfl
        | true => exact absurd (blt_t e) h
def eqI (a c : Int) : Bool := @Int.rec (fun _ => Bool) (fun n => @Int.rec (fun _ => Bool) (fun m => Nat.beq n m) (fun _ => false) c) (fun n => @Int.rec (fun _ => Bool) (fun _ => false) (fun m => Nat.beq n m) c) a
theorem beq_dec (n m : Nat) : Nat.beq n m = decide (n = m) := by
  by_cases h : n = m
  · subst h; simp
  · rw [decide_eq_false h]
    cases e : Nat.beq n m with
    | false => rfl
    | true => exact absurd (Nat.eq_of_beq_eq_true e) h
theorem eqI_eq (a c : Int) : eqI a c = decide (a = c) := by
  cases a with
  | ofNat n =>
    cases c with
    | ofNat m => show Nat.beq n m = _; rw [beq_dec]; congr 1; simp; try omega
    | negSucc m => exact (decide_eq_false (by simp)).symm
  | negSucc n =>
    cases c with
    | ofNat m => exact (decide_eq_false (by simp)).symm
    | negSucc m => show Nat.beq n m = _; rw [beq_dec]; congr 1; simp; try omega
/-- A comparison of two numbers of one kind. -/
def cmp2 (f : Int → Int → Bool) (k : AV → Bool) (g : IntKind) (a : Int) (g' : IntKind) (c : Int) : Bool := ifB (Nat.beq (kindN g) (kindN g')) (k (.b (f a c))) false
def cmp1 (f : Int → Int → Bool) (y : AV) (k : AV → Bool) (g : IntKind) (a : Int) : Bool := y.int (cmp2 f k g a)
def cmpA (f : Int → Int → Bool) (x y : AV) (k : AV → Bool) : Bool := x.int (cmp1 f y k)
theorem cmpA_ok {P : Program} {op : BinOp} {f : Int → Int → Bool} (h : ∀ g a c, intBin op g a g c = some (.bool (f a c))) : binOK P op (cmpA f) := by
  intro σ φ V t xo yo x y w w' k hx hy hk
  change (x.int fun g a => y.int fun g' c => ifB (Nat.beq (kindN g) (kindN g')) (k (.b (f a c))) false) = true at hk
  obtain ⟨g, a, rfl, hk⟩ := AV.int_sound hx hk
  obtain ⟨g', c, rfl, hk⟩ := AV.int_sound hy hk
  obtain ⟨h1, h2⟩ := ifB_and hk
  have := kindN_inj h1
  subst this
  exact ⟨_, .b (f a c), h g a c, by simp only [VR], h2⟩
def lssA : AV → AV → (AV → Bool) → Bool := cmpA ltI
def gtrA : AV → AV → (AV → Bool) → Bool := cmpA fun a c => ltI c a
def leqA : AV → AV → (AV → Bool) → Bool := cmpA fun a c => not (ltI c a)
def geqA : AV → AV → (AV → Bool) → Bool := cmpA fun a c => not (ltI a c)
def eqlA : AV → AV → (AV → Bool) → Bool := cmpA eqI
def neqA : AV → AV → (AV → Bool) → Bool := cmpA fun a c => not (eqI a c)
theorem lssA_ok {P : Program} : binOK P .lss lssA := cmpA_ok fun g a c => by simp [intBin, ltI_eq]
theorem gtrA_ok {P : Program} : binOK P .gtr gtrA := cmpA_ok fun g a c => by simp [intBin, ltI_eq]
theorem not_lt_dec (a c : Int) : (!(decide (a < c))) = decide (c ≤ a) := by
  by_cases h : a < c
  · rw [decide_eq_true h, decide_eq_false (by omega)]; rfl
  · rw [decide_eq_false h, decide_eq_true (by omega)]; rfl
theorem leqA_ok {P : Program} : binOK P .leq leqA := cmpA_ok fun g a c => by simp [intBin, ltI_eq, not_lt_dec]
theorem geqA_ok {P : Program} : binOK P .geq geqA := cmpA_ok fun g a c => by simp [intBin, ltI_eq, not_lt_dec]
theorem eqlA_ok {P : Program} : binOK P .eql eqlA := cmpA_ok fun g a c => by simp [intBin, eqI_eq, BEq.beq]
theorem neqA_ok {P : Program} : binOK P .neq neqA := cmpA_ok fun g a c => by simp [intBin, eqI_eq, bne, BEq.beq]
end
end Go.Run
