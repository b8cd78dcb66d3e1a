
/- Closed runs: the values of an abstract heap, its addresses, and trees of sixteen branches, in a form that the kernel works out fast. -/
import Derived.Test.YtndbdehpkiimjaaGreatHLDraw
namespace Go.Run
open Go.HL
set_option linter.unusedSimpArgs false
set_option linter.unusedVariables false
noncomputable section

inductive D16 where
  | d0 | d1 | d2 | d3 | d4 | d5 | d6 | d7 | d8 | d9 | d10 | d11 | d12 | d13 | d14 | d15
  deriving DecidableEq
structure N16 (α : Type) where
  c0 : α
  c1 : α
  c2 : α
  c3 : α
  c4 : α
  c5 : α
  c6 : α
  c7 : α
  c8 : α
  c9 : α
  c10 : α
  c11 : α
  c12 : α
  c13 : α
  c14 : α
  c15 : α
def D16.nat (d : D16) : Nat := @D16.rec (fun _ => Nat) 0 1 2 3 4 5 6 7 8 9 10 11 12 13 14 15 d
def pSel (d : D16) : (α : Type) → N16 α → α := @D16.rec (fun _ => (α : Type) → N16 α → α) @N16.c0 @N16.c1 @N16.c2 @N16.c3 @N16.c4 @N16.c5 @N16.c6 @N16.c7 @N16.c8 @N16.c9 @N16.c10 @N16.c11 @N16.c12 @N16.c13 @N16.c14 @N16.c15 d
def sel {α : Type} (d : D16) (t : N16 α) : α := pSel d α t
def u0 (α : Type) (f : α → α) (c0 c1 c2 c3 c4 c5 c6 c7 c8 c9 c10 c11 c12 c13 c14 c15 : α) : N16 α := .mk (f c0) c1 c2 c3 c4 c5 c6 c7 c8 c9 c10 c11 c12 c13 c14 c15
def u1 (α : Type) (f : α → α) (c0 c1 c2 c3 c4 c5 c6 c7 c8 c9 c10 c11 c12 c13 c14 c15 : α) : N16 α := .mk c0 (f c1) c2 c3 c4 c5 c6 c7 c8 c9 c10 c11 c12 c13 c14 c15
def u2 (α : Type) (f : α → α) (c0 c1 c2 c3 c4 c5 c6 c7 c8 c9 c10 c11 c12 c13 c14 c15 : α) : N16 α := .mk c0 c1 (f c2) c3 c4 c5 c6 c7 c8 c9 c10 c11 c12 c13 c14 c15
def u3 (α : Type) (f : α → α) (c0 c1 c2 c3 c4 c5 c6 c7 c8 c9 c10 c11 c12 c13 c14 c15 : α) : N16 α := .mk c0 c1 c2 (f c3) c4 c5 c6 c7 c8 c9 c10 c11 c12 c13 c14 c15
def u4 (α : Type) (f : α → α) (c0 c1 c2 c3 c4 c5 c6 c7 c8 c9 c10 c11 c12 c13 c14 c15 : α) : N16 α := .mk c0 c1 c2 c3 (f c4) c5 c6 c7 c8 c9 c10 c11 c12 c13 c14 c15
def u5 (α : Type) (f : α → α) (c0 c1 c2 c3 c4 c5 c6 c7 c8 c9 c10 c11 c12 c13 c14 c15 : α) : N16 α := .mk c0 c1 c2 c3 c4 (f c5) c6 c7 c8 c9 c10 c11 c12 c13 c14 c15
def u6 (α : Type) (f : α → α) (c0 c1 c2 c3 c4 c5 c6 c7 c8 c9 c10 c11 c12 c13 c14 c15 : α) : N16 α := .mk c0 c1 c2 c3 c4 c5 (f c6) c7 c8 c9 c10 c11 c12 c13 c14 c15
def u7 (α : Type) (f : α → α) (c0 c1 c2 c3 c4 c5 c6 c7 c8 c9 c10 c11 c12 c13 c14 c15 : α) : N16 α := .mk c0 c1 c2 c3 c4 c5 c6 (f c7) c8 c9 c10 c11 c12 c13 c14 c15
def u8 (α : Type) (f : α → α) (c0 c1 c2 c3 c4 c5 c6 c7 c8 c9 c10 c11 c12 c13 c14 c15 : α) : N16 α := .mk c0 c1 c2 c3 c4 c5 c6 c7 (f c8) c9 c10 c11 c12 c13 c14 c15
def u9 (α : Type) (f : α → α) (c0 c1 c2 c3 c4 c5 c6 c7 c8 c9 c10 c11 c12 c13 c14 c15 : α) : N16 α := .mk c0 c1 c2 c3 c4 c5 c6 c7 c8 (f c9) c10 c11 c12 c13 c14 c15
def u10 (α : Type) (f : α → α) (c0 c1 c2 c3 c4 c5 c6 c7 c8 c9 c10 c11 c12 c13 c14 c15 : α) : N16 α := .mk c0 c1 c2 c3 c4 c5 c6 c7 c8 c9 (f c10) c11 c12 c13 c14 c15
def u11 (α : Type) (f : α → α) (c0 c1 c2 c3 c4 c5 c6 c7 c8 c9 c10 c11 c12 c13 c14 c15 : α) : N16 α := .mk c0 c1 c2 c3 c4 c5 c6 c7 c8 c9 c10 (f c11) c12 c13 c14 c15
def u12 (α : Type) (f : α → α) (c0 c1 c2 c3 c4 c5 c6 c7 c8 c9 c10 c11 c12 c13 c14 c15 : α) : N16 α := .mk c0 c1 c2 c3 c4 c5 c6 c7 c8 c9 c10 c11 (f c12) c13 c14 c15
def u13 (α : Type) (f : α → α) (c0 c1 c2 c3 c4 c5 c6 c7 c8 c9 c10 c11 c12 c13 c14 c15 : α) : N16 α := .mk c0 c1 c2 c3 c4 c5 c6 c7 c8 c9 c10 c11 c12 (f c13) c14 c15
def u14 (α : Type) (f : α → α) (c0 c1 c2 c3 c4 c5 c6 c7 c8 c9 c10 c11 c12 c13 c14 c15 : α) : N16 α := .mk c0 c1 c2 c3 c4 c5 c6 c7 c8 c9 c10 c11 c12 c13 (f c14) c15
def u15 (α : Type) (f : α → α) (c0 c1 c2 c3 c4 c5 c6 c7 c8 c9 c10 c11 c12 c13 c14 c15 : α) : N16 α := .mk c0 c1 c2 c3 c4 c5 c6 c7 c8 c9 c10 c11 c12 c13 c14 (f c15)
def upd0 (α : Type) (f : α → α) (t : N16 α) : N16 α := @N16.rec α (fun _ => N16 α) (u0 α f) t
def upd1 (α : Type) (f : α → α) (t : N16 α) : N16 α := @N16.rec α (fun _ => N16 α) (u1 α f) t
def upd2 (α : Type) (f : α → α) (t : N16 α) : N16 α := @N16.rec α (fun _ => N16 α) (u2 α f) t
def upd3 (α : Type) (f : α → α) (t : N16 α) : N16 α := @N16.rec α (fun _ => N16 α) (u3 α f) t
def upd4 (α : Type) (f : α → α) (t : N16 α) : N16 α := @N16.rec α (fun _ => N16 α) (u4 α f) t
def upd5 (α : Type) (f : α → α) (t : N16 α) : N16 α := @N16.rec α (fun _ => N16 α) (u5 α f) t
def upd6 (α : Type) (f : α → α) (t : N16 α) : N16 α := @N16.rec α (fun _ => N16 α) (u6 α f) t
def upd7 (α : Type) (f : α → α) (t : N16 α) : N16 α := @N16.rec α (fun _ => N16 α) (u7 α f) t
def upd8 (α : Type) (f : α → α) (t : N16 α) : N16 α := @N16.rec α (fun _ => N16 α) (u8 α f) t
def upd9 (α : Type) (f : α → α) (t : N16 α) : N16 α := @N16.rec α (fun _ => N16 α) (u9 α f) t
def upd10 (α : Type) (f : α → α) (t : N16 α) : N16 α := @N16.rec α (fun _ => N16 α) (u10 α f) t
def upd11 (α : Type) (f : α → α) (t : N16 α) : N16 α := @N16.rec α (fun _ => N16 α) (u11 α f) t
def upd12 (α : Type) (f : α → α) (t : N16 α) : N16 α := @N16.rec α (fun _ => N16 α) (u12 α f) t
def upd13 (α : Type) (f : α → α) (t : N16 α) : N16 α := @N16.rec α (fun _ => N16 α) (u13 α f) t
def upd14 (α : Type) (f : α → α) (t : N16 α) : N16 α := @N16.rec α (fun _ => N16 α) (u14 α f) t
def upd15 (α : Type) (f : α → α) (t : N16 α) : N16 α := @N16.rec α (fun _ => N16 α) (u15 α f) t
def uSel (d : D16) : (α : Type) → (α → α) → N16 α → N16 α := @D16.rec (fun _ => (α : Type) → (α → α) → N16 α → N16 α) upd0 upd1 upd2 upd3 upd4 upd5 upd6 upd7 upd8 upd9 upd10 upd11 upd12 upd13 upd14 upd15 d
def upd {α : Type} (d : D16) (f : α → α) (t : N16 α) : N16 α := uSel d α f t
def all16 {α : Type} (x : α) : N16 α := .mk x x x x x x x x x x x x x x x x
/-- The digit of a number below 16. -/
def g0_2 (n : Nat) : D16 := @Bool.rec (fun _ => D16) .d0 .d1 (Nat.ble 1 n)
def g2_4 (n : Nat) : D16 := @Bool.rec (fun _ => D16) .d2 .d3 (Nat.ble 3 n)
def g0_4 (n : Nat) : D16 := @Bool.rec (fun _ => D16) (g0_2 n) (g2_4 n) (Nat.ble 2 n)
def g4_6 (n : Nat) : D16 := @Bool.rec (fun _ => D16) .d4 .d5 (Nat.ble 5 n)
def g6_8 (n : Nat) : D16 := @Bool.rec (fun _ => D16) .d6 .d7 (Nat.ble 7 n)
def g4_8 (n : Nat) : D16 := @Bool.rec (fun _ => D16) (g4_6 n) (g6_8 n) (Nat.ble 6 n)
def g0_8 (n : Nat) : D16 := @Bool.rec (fun _ => D16) (g0_4 n) (g4_8 n) (Nat.ble 4 n)
def g8_10 (n : Nat) : D16 := @Bool.rec (fun _ => D16) .d8 .d9 (Nat.ble 9 n)
def g10_12 (n : Nat) : D16 := @Bool.rec (fun _ => D16) .d10 .d11 (Nat.ble 11 n)
def g8_12 (n : Nat) : D16 := @Bool.rec (fun _ => D16) (g8_10 n) (g10_12 n) (Nat.ble 10 n)
def g12_14 (n : Nat) : D16 := @Bool.rec (fun _ => D16) .d12 .d13 (Nat.ble 13 n)
def g14_16 (n : Nat) : D16 := @Bool.rec (fun _ => D16) .d14 .d15 (Nat.ble 15 n)
def g12_16 (n : Nat) : D16 := @Bool.rec (fun _ => D16) (g12_14 n) (g14_16 n) (Nat.ble 14 n)
def g8_16 (n : Nat) : D16 := @Bool.rec (fun _ => D16) (g8_12 n) (g12_16 n) (Nat.ble 12 n)
def dig (n : Nat) : D16 := @Bool.rec (fun _ => D16) (g0_8 n) (g8_16 n) (Nat.ble 8 n)
def selN {α : Type} (n : Nat) (t : N16 α) : α := pSel (dig n) α t

theorem sel_upd {α : Type} (d : D16) (f : α → α) (t : N16 α) : sel d (upd d f t) = f (sel d t) := by cases t; cases d <;> rfl
theorem sel_upd' {α : Type} {d d' : D16} (h : d' ≠ d) (f : α → α) (t : N16 α) : sel d' (upd d f t) = sel d' t := by
  cases t; cases d <;> cases d' <;> first | rfl | exact absurd rfl h
theorem sel_all {α : Type} (d : D16) (x : α) : sel d (all16 x) = x := by cases d <;> rfl
theorem selN_eq {α : Type} (n : Nat) (t : N16 α) : selN n t = sel (dig n) t := rfl
theorem dig_nat (d : D16) : dig d.nat = d := by cases d <;> rfl
theorem dig_inj {n m : Nat} (hn : n < 16) (hm : m < 16) (h : dig n = dig m) : n = m := by
  have key : ∀ n, n < 16 → (dig n).nat = n := by decide +kernel
  rw [← key n hn, ← key m hm, h]
theorem D16.nat_lt (d : D16) : d.nat < 16 := by cases d <;> decide
theorem D16.nat_inj {d d' : D16} (h : d.nat = d'.nat) : d = d' := by rw [← dig_nat d, ← dig_nat d', h]

/-- The number of a block, in digits. -/
structure Id where
  a : D16
  b : D16
  c : D16
  d : D16
  e : D16
  deriving DecidableEq
def Id.nat (i : Id) : Nat := i.a.nat + 16 * (i.b.nat + 16 * (i.c.nat + 16 * (i.d.nat + 16 * i.e.nat)))
theorem Id.nat_inj {i j : Id} (h : i.nat = j.nat) : i = j := by
  unfold Id.nat at h
  have h1 := i.a.nat_lt; have h2 := i.b.nat_lt; have h3 := i.c.nat_lt; have h4 := i.d.nat_lt; have h5 := i.e.nat_lt
  have g1 := j.a.nat_lt; have g2 := j.b.nat_lt; have g3 := j.c.nat_lt; have g4 := j.d.nat_lt; have g5 := j.e.nat_lt
  have ea : i.a.nat = j.a.nat := by omega
  have eb : i.b.nat = j.b.nat := by omega
  have ec : i.c.nat = j.c.nat := by omega
  have ed : i.d.nat = j.d.nat := by omega
  have ee : i.e.nat = j.e.nat := by omega
  cases i; cases j
  simp only [Id.mk.injEq]
  exact ⟨D16.nat_inj ea, D16.nat_inj eb, D16.nat_inj ec, D16.nat_inj ed, D16.nat_inj ee⟩

/-- The digit behind: carried over. -/
def bump {α : Type} (d : D16) (k : D16 → α) (c : α) : α := @D16.rec (fun _ => α) (k .d1) (k .d2) (k .d3) (k .d4) (k .d5) (k .d6) (k .d7) (k .d8) (k .d9) (k .d10) (k .d11) (k .d12) (k .d13) (k .d14) (k .d15) c d
def Id.next {α : Type} (i : Id) (k : Id → α) (no : α) : α :=
  @Id.rec (fun _ => α) (fun a b c d e => bump a (fun a => k ⟨a, b, c, d, e⟩) (bump b (fun b => k ⟨.d0, b, c, d, e⟩) (bump c (fun c => k ⟨.d0, .d0, c, d, e⟩) (bump d (fun d => k ⟨.d0, .d0, .d0, d, e⟩) (bump e (fun e => k ⟨.d0, .d0, .d0, .d0, e⟩) no))))) i
theorem bump_eq {α : Type} (d : D16) (k : D16 → α) (c : α) : (d = .d15 ∧ bump d k c = c) ∨ ∃ d', d'.nat = d.nat + 1 ∧ bump d k c = k d' := by
  cases d <;> first | exact .inl ⟨rfl, rfl⟩ | exact .inr ⟨_, rfl, rfl⟩
theorem Id.next_eq {α : Type} (i : Id) (k : Id → α) (no : α) : i.next k no = no ∨ ∃ j, j.nat = i.nat + 1 ∧ i.next k no = k j := by
  obtain ⟨a, b, c, d, e⟩ := i
  simp only [Id.next, Id.nat]
  rcases bump_eq a (fun a => k ⟨a, b, c, d, e⟩) (bump b (fun b => k ⟨.d0, b, c, d, e⟩) (bump c (fun c => k ⟨.d0, .d0, c, d, e⟩) (bump d (fun d => k ⟨.d0, .d0, .d0, d, e⟩) (bump e (fun e => k ⟨.d0, .d0, .d0, .d0, e⟩) no)))) with ⟨rfl, h⟩ | ⟨x, hx, h⟩
  · rw [h]
    rcases bump_eq b (fun b => k ⟨.d0, b, c, d, e⟩) (bump c (fun c => k ⟨.d0, .d0, c, d, e⟩) (bump d (fun d => k ⟨.d0, .d0, .d0, d, e⟩) (bump e (fun e => k ⟨.d0, .d0, .d0, .d0, e⟩) no))) with ⟨rfl, h⟩ | ⟨x, hx, h⟩
    · rw [h]
      rcases bump_eq c (fun c => k ⟨.d0, .d0, c, d, e⟩) (bump d (fun d => k ⟨.d0, .d0, .d0, d, e⟩) (bump e (fun e => k ⟨.d0, .d0, .d0, .d0, e⟩) no)) with ⟨rfl, h⟩ | ⟨x, hx, h⟩
      · rw [h]
        rcases bump_eq d (fun d => k ⟨.d0, .d0, .d0, d, e⟩) (bump e (fun e => k ⟨.d0, .d0, .d0, .d0, e⟩) no) with ⟨rfl, h⟩ | ⟨x, hx, h⟩
        · rw [h]
          rcases bump_eq e (fun e => k ⟨.d0, .d0, .d0, .d0, e⟩) no with ⟨rfl, h⟩ | ⟨x, hx, h⟩
          · exact .inl h
          · refine .inr ⟨_, ?_, h⟩; simp only [hx, show D16.d0.nat = 0 from rfl, show D16.d15.nat = 15 from rfl]; omega
        · refine .inr ⟨_, ?_, h⟩; simp only [hx, show D16.d0.nat = 0 from rfl, show D16.d15.nat = 15 from rfl]; omega
      · refine .inr ⟨_, ?_, h⟩; simp only [hx, show D16.d0.nat = 0 from rfl, show D16.d15.nat = 15 from rfl]; omega
    · refine .inr ⟨_, ?_, h⟩; simp only [hx, show D16.d0.nat = 0 from rfl, show D16.d15.nat = 15 from rfl]; omega
  · refine .inr ⟨_, ?_, h⟩; simp only [hx]; omega

/-! ### Values -/
inductive AV where
  | u
  | b (x : Bool)
  | n (x : Nat)
  | z (g : IntKind) (x : Int)
  | s (l : List Nat)
  | p (i : Id) (o : Nat)
  | q (i : Id) (o len cap z : Nat) (ex : Bool)
  | m (i : Id)
  | nil (g : Nat)
  | f (fn : Nat) (xs ys : List AV)
  | i (t : Nat) (w : AV)
  | a (l : List AV)
  | t (l : List AV)
  | x (j : Nat)

section
variable {α : Type}

def AV.sel_b (v : AV) : (α : Type) → (Bool → α) → α → α := @AV.rec (fun _ => (α : Type) → (Bool → α) → α → α) (fun _ => PUnit) (fun α k no => no) (fun x α k no => k x) (fun _ α k no => no) (fun _ _ α k no => no) (fun _ α k no => no) (fun _ _ α k no => no) (fun _ _ _ _ _ _ α k no => no) (fun _ α k no => no) (fun _ α k no => no) (fun _ _ _ _ _ α k no => no) (fun _ _ _ α k no => no) (fun _ _ α k no => no) (fun _ _ α k no => no) (fun _ α k no => no) .unit (fun _ _ _ _ => .unit) v
def AV.on_b (v : AV) (k : Bool → α) (no : α) : α := AV.sel_b v α k no
theorem AV.on_b_eq (v : AV) (k : Bool → α) (no : α) : (∃ x, v = .b x ∧ v.on_b k no = k x) ∨ v.on_b k no = no := by cases v <;> first | exact .inl ⟨_, rfl, rfl⟩ | exact .inr rfl
def AV.sel_n (v : AV) : (α : Type) → (Nat → α) → α → α := @AV.rec (fun _ => (α : Type) → (Nat → α) → α → α) (fun _ => PUnit) (fun α k no => no) (fun _ α k no => no) (fun x α k no => k x) (fun _ _ α k no => no) (fun _ α k no => no) (fun _ _ α k no => no) (fun _ _ _ _ _ _ α k no => no) (fun _ α k no => no) (fun _ α k no => no) (fun _ _ _ _ _ α k no => no) (fun _ _ _ α k no => no) (fun _ _ α k no => no) (fun _ _ α k no => no) (fun _ α k no => no) .unit (fun _ _ _ _ => .unit) v
def AV.on_n (v : AV) (k : Nat → α) (no : α) : α := AV.sel_n v α k no
theorem AV.on_n_eq (v : AV) (k : Nat → α) (no : α) : (∃ x, v = .n x ∧ v.on_n k no = k x) ∨ v.on_n k no = no := by cases v <;> first | exact .inl ⟨_, rfl, rfl⟩ | exact .inr rfl
def AV.sel_z (v : AV) : (α : Type) → (IntKind → Int → α) → α → α := @AV.rec (fun _ => (α : Type) → (IntKind → Int → α) → α → α) (fun _ => PUnit) (fun α k no => no) (fun _ α k no => no) (fun _ α k no => no) (fun g x α k no => k g x) (fun _ α k no => no) (fun _ _ α k no => no) (fun _ _ _ _ _ _ α k no => no) (fun _ α k no => no) (fun _ α k no => no) (fun _ _ _ _ _ α k no => no) (fun _ _ _ α k no => no) (fun _ _ α k no => no) (fun _ _ α k no => no) (fun _ α k no => no) .unit (fun _ _ _ _ => .unit) v
def AV.on_z (v : AV) (k : IntKind → Int → α) (no : α) : α := AV.sel_z v α k no
theorem AV.on_z_eq (v : AV) (k : IntKind → Int → α) (no : α) : (∃ g x, v = .z g x ∧ v.on_z k no = k g x) ∨ v.on_z k no = no := by cases v <;> first | exact .inl ⟨_, _, rfl, rfl⟩ | exact .inr rfl
def AV.sel_s (v : AV) : (α : Type) → (List Nat → α) → α → α := @AV.rec (fun _ => (α : Type) → (List Nat → α) → α → α) (fun _ => PUnit) (fun α k no => no) (fun _ α k no => no) (fun _ α k no => no) (fun _ _ α k no => no) (fun l α k no => k l) (fun _ _ α k no => no) (fun _ _ _ _ _ _ α k no => no) (fun _ α k no => no) (fun _ α k no => no) (fun _ _ _ _ _ α k no => no) (fun _ _ _ α k no => no) (fun _ _ α k no => no) (fun _ _ α k no => no) (fun _ α k no => no) .unit (fun _ _ _ _ => .unit) v
def AV.on_s (v : AV) (k : List Nat → α) (no : α) : α := AV.sel_s v α k no
theorem AV.on_s_eq (v : AV) (k : List Nat → α) (no : α) : (∃ l, v = .s l ∧ v.on_s k no = k l) ∨ v.on_s k no = no := by cases v <;> first | exact .inl ⟨_, rfl, rfl⟩ | exact .inr rfl
def AV.sel_p (v : AV) : (α : Type) → (Id → Nat → α) → α → α := @AV.rec (fun _ => (α : Type) → (Id → Nat → α) → α → α) (fun _ => PUnit) (fun α k no => no) (fun _ α k no => no) (fun _ α k no => no) (fun _ _ α k no => no) (fun _ α k no => no) (fun i o α k no => k i o) (fun _ _ _ _ _ _ α k no => no) (fun _ α k no => no) (fun _ α k no => no) (fun _ _ _ _ _ α k no => no) (fun _ _ _ α k no => no) (fun _ _ α k no => no) (fun _ _ α k no => no) (fun _ α k no => no) .unit (fun _ _ _ _ => .unit) v
def AV.on_p (v : AV) (k : Id → Nat → α) (no : α) : α := AV.sel_p v α k no
theorem AV.on_p_eq (v : AV) (k : Id → Nat → α) (no : α) : (∃ i o, v = .p i o ∧ v.on_p k no = k i o) ∨ v.on_p k no = no := by cases v <;> first | exact .inl ⟨_, _, rfl, rfl⟩ | exact .inr rfl
def AV.sel_q (v : AV) : (α : Type) → (Id → Nat → Nat → Nat → Nat → Bool → α) → α → α := @AV.rec (fun _ => (α : Type) → (Id → Nat → Nat → Nat → Nat → Bool → α) → α → α) (fun _ => PUnit) (fun α k no => no) (fun _ α k no => no) (fun _ α k no => no) (fun _ _ α k no => no) (fun _ α k no => no) (fun _ _ α k no => no) (fun i o len cap z ex α k no => k i o len cap z ex) (fun _ α k no => no) (fun _ α k no => no) (fun _ _ _ _ _ α k no => no) (fun _ _ _ α k no => no) (fun _ _ α k no => no) (fun _ _ α k no => no) (fun _ α k no => no) .unit (fun _ _ _ _ => .unit) v
def AV.on_q (v : AV) (k : Id → Nat → Nat → Nat → Nat → Bool → α) (no : α) : α := AV.sel_q v α k no
theorem AV.on_q_eq (v : AV) (k : Id → Nat → Nat → Nat → Nat → Bool → α) (no : α) : (∃ i o len cap z ex, v = .q i o len cap z ex ∧ v.on_q k no = k i o len cap z ex) ∨ v.on_q k no = no := by cases v <;> first | exact .inl ⟨_, _, _, _, _, _, rfl, rfl⟩ | exact .inr rfl
def AV.sel_m (v : AV) : (α : Type) → (Id → α) → α → α := @AV.rec (fun _ => (α : Type) → (Id → α) → α → α) (fun _ => PUnit) (fun α k no => no) (fun _ α k no => no) (fun _ α k no => no) (fun _ _ α k no => no) (fun _ α k no => no) (fun _ _ α k no => no) (fun _ _ _ _ _ _ α k no => no) (fun i α k no => k i) (fun _ α k no => no) (fun _ _ _ _ _ α k no => no) (fun _ _ _ α k no => no) (fun _ _ α k no => no) (fun _ _ α k no => no) (fun _ α k no => no) .unit (fun _ _ _ _ => .unit) v
def AV.on_m (v : AV) (k : Id → α) (no : α) : α := AV.sel_m v α k no
theorem AV.on_m_eq (v : AV) (k : Id → α) (no : α) : (∃ i, v = .m i ∧ v.on_m k no = k i) ∨ v.on_m k no = no := by cases v <;> first | exact .inl ⟨_, rfl, rfl⟩ | exact .inr rfl
def AV.sel_nil (v : AV) : (α : Type) → (Nat → α) → α → α := @AV.rec (fun _ => (α : Type) → (Nat → α) → α → α) (fun _ => PUnit) (fun α k no => no) (fun _ α k no => no) (fun _ α k no => no) (fun _ _ α k no => no) (fun _ α k no => no) (fun _ _ α k no => no) (fun _ _ _ _ _ _ α k no => no) (fun _ α k no => no) (fun g α k no => k g) (fun _ _ _ _ _ α k no => no) (fun _ _ _ α k no => no) (fun _ _ α k no => no) (fun _ _ α k no => no) (fun _ α k no => no) .unit (fun _ _ _ _ => .unit) v
def AV.on_nil (v : AV) (k : Nat → α) (no : α) : α := AV.sel_nil v α k no
theorem AV.on_nil_eq (v : AV) (k : Nat → α) (no : α) : (∃ g, v = .nil g ∧ v.on_nil k no = k g) ∨ v.on_nil k no = no := by cases v <;> first | exact .inl ⟨_, rfl, rfl⟩ | exact .inr rfl
def AV.sel_f (v : AV) : (α : Type) → (Nat → List AV → List AV → α) → α → α := @AV.rec (fun _ => (α : Type) → (Nat → List AV → List AV → α) → α → α) (fun _ => PUnit) (fun α k no => no) (fun _ α k no => no) (fun _ α k no => no) (fun _ _ α k no => no) (fun _ α k no => no) (fun _ _ α k no => no) (fun _ _ _ _ _ _ α k no => no) (fun _ α k no => no) (fun _ α k no => no) (fun fn xs ys _ _ α k no => k fn xs ys) (fun _ _ _ α k no => no) (fun _ _ α k no => no) (fun _ _ α k no => no) (fun _ α k no => no) .unit (fun _ _ _ _ => .unit) v
def AV.on_f (v : AV) (k : Nat → List AV → List AV → α) (no : α) : α := AV.sel_f v α k no
theorem AV.on_f_eq (v : AV) (k : Nat → List AV → List AV → α) (no : α) : (∃ fn xs ys, v = .f fn xs ys ∧ v.on_f k no = k fn xs ys) ∨ v.on_f k no = no := by cases v <;> first | exact .inl ⟨_, _, _, rfl, rfl⟩ | exact .inr rfl
def AV.sel_i (v : AV) : (α : Type) → (Nat → AV → α) → α → α := @AV.rec (fun _ => (α : Type) → (Nat → AV → α) → α → α) (fun _ => PUnit) (fun α k no => no) (fun _ α k no => no) (fun _ α k no => no) (fun _ _ α k no => no) (fun _ α k no => no) (fun _ _ α k no => no) (fun _ _ _ _ _ _ α k no => no) (fun _ α k no => no) (fun _ α k no => no) (fun _ _ _ _ _ α k no => no) (fun t w _ α k no => k t w) (fun _ _ α k no => no) (fun _ _ α k no => no) (fun _ α k no => no) .unit (fun _ _ _ _ => .unit) v
def AV.on_i (v : AV) (k : Nat → AV → α) (no : α) : α := AV.sel_i v α k no
theorem AV.on_i_eq (v : AV) (k : Nat → AV → α) (no : α) : (∃ t w, v = .i t w ∧ v.on_i k no = k t w) ∨ v.on_i k no = no := by cases v <;> first | exact .inl ⟨_, _, rfl, rfl⟩ | exact .inr rfl
def AV.sel_a (v : AV) : (α : Type) → (List AV → α) → α → α := @AV.rec (fun _ => (α : Type) → (List AV → α) → α → α) (fun _ => PUnit) (fun α k no => no) (fun _ α k no => no) (fun _ α k no => no) (fun _ _ α k no => no) (fun _ α k no => no) (fun _ _ α k no => no) (fun _ _ _ _ _ _ α k no => no) (fun _ α k no => no) (fun _ α k no => no) (fun _ _ _ _ _ α k no => no) (fun _ _ _ α k no => no) (fun l _ α k no => k l) (fun _ _ α k no => no) (fun _ α k no => no) .unit (fun _ _ _ _ => .unit) v
def AV.on_a (v : AV) (k : List AV → α) (no : α) : α := AV.sel_a v α k no
theorem AV.on_a_eq (v : AV) (k : List AV → α) (no : α) : (∃ l, v = .a l ∧ v.on_a k no = k l) ∨ v.on_a k no = no := by cases v <;> first | exact .inl ⟨_, rfl, rfl⟩ | exact .inr rfl
def AV.sel_t (v : AV) : (α : Type) → (List AV → α) → α → α := @AV.rec (fun _ => (α : Type) → (List AV → α) → α → α) (fun _ => PUnit) (fun α k no => no) (fun _ α k no => no) (fun _ α k no => no) (fun _ _ α k no => no) (fun _ α k no => no) (fun _ _ α k no => no) (fun _ _ _ _ _ _ α k no => no) (fun _ α k no => no) (fun _ α k no => no) (fun _ _ _ _ _ α k no => no) (fun _ _ _ α k no => no) (fun _ _ α k no => no) (fun l _ α k no => k l) (fun _ α k no => no) .unit (fun _ _ _ _ => .unit) v
def AV.on_t (v : AV) (k : List AV → α) (no : α) : α := AV.sel_t v α k no
theorem AV.on_t_eq (v : AV) (k : List AV → α) (no : α) : (∃ l, v = .t l ∧ v.on_t k no = k l) ∨ v.on_t k no = no := by cases v <;> first | exact .inl ⟨_, rfl, rfl⟩ | exact .inr rfl
def AV.sel_x (v : AV) : (α : Type) → (Nat → α) → α → α := @AV.rec (fun _ => (α : Type) → (Nat → α) → α → α) (fun _ => PUnit) (fun α k no => no) (fun _ α k no => no) (fun _ α k no => no) (fun _ _ α k no => no) (fun _ α k no => no) (fun _ _ α k no => no) (fun _ _ _ _ _ _ α k no => no) (fun _ α k no => no) (fun _ α k no => no) (fun _ _ _ _ _ α k no => no) (fun _ _ _ α k no => no) (fun _ _ α k no => no) (fun _ _ α k no => no) (fun j α k no => k j) .unit (fun _ _ _ _ => .unit) v
def AV.on_x (v : AV) (k : Nat → α) (no : α) : α := AV.sel_x v α k no
theorem AV.on_x_eq (v : AV) (k : Nat → α) (no : α) : (∃ j, v = .x j ∧ v.on_x k no = k j) ∨ v.on_x k no = no := by cases v <;> first | exact .inl ⟨_, rfl, rfl⟩ | exact .inr rfl
end

end
end Go.Run
