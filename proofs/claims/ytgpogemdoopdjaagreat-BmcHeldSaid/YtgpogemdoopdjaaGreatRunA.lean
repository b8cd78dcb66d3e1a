
/- Closed runs: the values of an abstract heap, its addresses, and trees of sixteen branches, in a form that the kernel works out fast. -/
import Derived.Test.YtgpogemdoopdjaaGreatHLDraw
namespace Go.Run
open Go.HL
noncomputable section

inductive D16 where
  | d0 | d1 | d2 | d3 | d4 | d5 | d6 | d7 | d8 | d9 | d10 | d11 | d12 | d13 | d14 | d15
  deriving DecidableEq
structure N16 (α : Type) where
  c0 : α
  c1 : α
  c2 : α
  c3 : α
  c4 : α
  c5 : α
  c6 : α
  c7 : α
  c8 : α
  c9 : α
  c10 : α
  c11 : α
  c12 : α
  c13 : α
  c14 : α
  c15 : α
def D16.nat (d : D16) : Nat := @D16.rec (fun _ => Nat) 0 1 2 3 4 5 6 7 8 9 10 11 12 13 14 15 d
def sel {α : Type} (d : D16) (t : N16 α) : α := @D16.rec (fun _ => N16 α → α) (fun t => t.c0) (fun t => t.c1) (fun t => t.c2) (fun t => t.c3) (fun t => t.c4) (fun t => t.c5) (fun t => t.c6) (fun t => t.c7) (fun t => t.c8) (fun t => t.c9) (fun t => t.c10) (fun t => t.c11) (fun t => t.c12) (fun t => t.c13) (fun t => t.c14) (fun t => t.c15) d t
def upd {α : Type} (d : D16) (f : α → α) (t : N16 α) : N16 α := @N16.rec α (fun _ => N16 α) (fun c0 c1 c2 c3 c4 c5 c6 c7 c8 c9 c10 c11 c12 c13 c14 c15 => @D16.rec (fun _ => N16 α) (.mk (f c0) c1 c2 c3 c4 c5 c6 c7 c8 c9 c10 c11 c12 c13 c14 c15) (.mk c0 (f c1) c2 c3 c4 c5 c6 c7 c8 c9 c10 c11 c12 c13 c14 c15) (.mk c0 c1 (f c2) c3 c4 c5 c6 c7 c8 c9 c10 c11 c12 c13 c14 c15) (.mk c0 c1 c2 (f c3) c4 c5 c6 c7 c8 c9 c10 c11 c12 c13 c14 c15) (.mk c0 c1 c2 c3 (f c4) c5 c6 c7 c8 c9 c10 c11 c12 c13 c14 c15) (.mk c0 c1 c2 c3 c4 (f c5) c6 c7 c8 c9 c10 c11 c12 c13 c14 c15) (.mk c0 c1 c2 c3 c4 c5 (f c6) c7 c8 c9 c10 c11 c12 c13 c14 c15) (.mk c0 c1 c2 c3 c4 c5 c6 (f c7) c8 c9 c10 c11 c12 c13 c14 c15) (.mk c0 c1 c2 c3 c4 c5 c6 c7 (f c8) c9 c10 c11 c12 c13 c14 c15) (.mk c0 c1 c2 c3 c4 c5 c6 c7 c8 (f c9) c10 c11 c12 c13 c14 c15) (.mk c0 c1 c2 c3 c4 c5 c6 c7 c8 c9 (f c10) c11 c12 c13 c14 c15) (.mk c0 c1 c2 c3 c4 c5 c6 c7 c8 c9 c10 (f c11) c12 c13 c14 c15) (.mk c0 c1 c2 c3 c4 c5 c6 c7 c8 c9 c10 c11 (f c12) c13 c14 c15) (.mk c0 c1 c2 c3 c4 c5 c6 c7 c8 c9 c10 c11 c12 (f c13) c14 c15) (.mk c0 c1 c2 c3 c4 c5 c6 c7 c8 c9 c10 c11 c12 c13 (f c14) c15) (.mk c0 c1 c2 c3 c4 c5 c6 c7 c8 c9 c10 c11 c12 c13 c14 (f c15)) d) t
def all16 {α : Type} (x : α) : N16 α := .mk x x x x x x x x x x x x x x x x
/-- The digit of a number below 16. -/
def dig (n : Nat) : D16 := (@Bool.rec (fun _ => D16) (@Bool.rec (fun _ => D16) (@Bool.rec (fun _ => D16) (@Bool.rec (fun _ => D16) .d0 .d1 (Nat.ble 1 n)) (@Bool.rec (fun _ => D16) .d2 .d3 (Nat.ble 3 n)) (Nat.ble 2 n)) (@Bool.rec (fun _ => D16) (@Bool.rec (fun _ => D16) .d4 .d5 (Nat.ble 5 n)) (@Bool.rec (fun _ => D16) .d6 .d7 (Nat.ble 7 n)) (Nat.ble 6 n)) (Nat.ble 4 n)) (@Bool.rec (fun _ => D16) (@Bool.rec (fun _ => D16) (@Bool.rec (fun _ => D16) .d8 .d9 (Nat.ble 9 n)) (@Bool.rec (fun _ => D16) .d10 .d11 (Nat.ble 11 n)) (Nat.ble 10 n)) (@Bool.rec (fun _ => D16) (@Bool.rec (fun _ => D16) .d12 .d13 (Nat.ble 13 n)) (@Bool.rec (fun _ => D16) .d14 .d15 (Nat.ble 15 n)) (Nat.ble 14 n)) (Nat.ble 12 n)) (Nat.ble 8 n))
def selN {α : Type} (n : Nat) (t : N16 α) : α := (@Bool.rec (fun _ => α) (@Bool.rec (fun _ => α) (@Bool.rec (fun _ => α) (@Bool.rec (fun _ => α) t.c0 t.c1 (Nat.ble 1 n)) (@Bool.rec (fun _ => α) t.c2 t.c3 (Nat.ble 3 n)) (Nat.ble 2 n)) (@Bool.rec (fun _ => α) (@Bool.rec (fun _ => α) t.c4 t.c5 (Nat.ble 5 n)) (@Bool.rec (fun _ => α) t.c6 t.c7 (Nat.ble 7 n)) (Nat.ble 6 n)) (Nat.ble 4 n)) (@Bool.rec (fun _ => α) (@Bool.rec (fun _ => α) (@Bool.rec (fun _ => α) t.c8 t.c9 (Nat.ble 9 n)) (@Bool.rec (fun _ => α) t.c10 t.c11 (Nat.ble 11 n)) (Nat.ble 10 n)) (@Bool.rec (fun _ => α) (@Bool.rec (fun _ => α) t.c12 t.c13 (Nat.ble 13 n)) (@Bool.rec (fun _ => α) t.c14 t.c15 (Nat.ble 15 n)) (Nat.ble 14 n)) (Nat.ble 12 n)) (Nat.ble 8 n))

theorem sel_upd {α : Type} (d : D16) (f : α → α) (t : N16 α) : sel d (upd d f t) = f (sel d t) := by cases t; cases d <;> rfl
theorem sel_upd' {α : Type} {d d' : D16} (h : d' ≠ d) (f : α → α) (t : N16 α) : sel d' (upd d f t) = sel d' t := by
  cases t; cases d <;> cases d' <;> first | rfl | exact absurd rfl h
theorem sel_all {α : Type} (d : D16) (x : α) : sel d (all16 x) = x := by cases d <;> rfl
theorem sel_rec {α : Type} (c : Bool) (x y : D16) (t : N16 α) : sel (@Bool.rec (fun _ => D16) x y c) t = @Bool.rec (fun _ => α) (sel x t) (sel y t) c := by cases c <;> rfl
theorem selN_eq {α : Type} (n : Nat) (t : N16 α) : selN n t = sel (dig n) t := by
  unfold selN dig
  simp only [sel_rec]
  rfl
theorem dig_nat (d : D16) : dig d.nat = d := by cases d <;> rfl
theorem dig_inj {n m : Nat} (hn : n < 16) (hm : m < 16) (h : dig n = dig m) : n = m := by
  have key : ∀ n, n < 16 → (dig n).nat = n := by decide +kernel
  rw [← key n hn, ← key m hm, h]
theorem D16.nat_lt (d : D16) : d.nat < 16 := by cases d <;> decide
theorem D16.nat_inj {d d' : D16} (h : d.nat = d'.nat) : d = d' := by rw [← dig_nat d, ← dig_nat d', h]

/-- The number of a block, in digits. -/
structure Id where
  a : D16
  b : D16
  c : D16
  d : D16
  e : D16
  deriving DecidableEq
def Id.nat (i : Id) : Nat := i.a.nat + 16 * (i.b.nat + 16 * (i.c.nat + 16 * (i.d.nat + 16 * i.e.nat)))
theorem Id.nat_inj {i j : Id} (h : i.nat = j.nat) : i = j := by
  unfold Id.nat at h
  have h1 := i.a.nat_lt; have h2 := i.b.nat_lt; have h3 := i.c.nat_lt; have h4 := i.d.nat_lt; have h5 := i.e.nat_lt
  have g1 := j.a.nat_lt; have g2 := j.b.nat_lt; have g3 := j.c.nat_lt; have g4 := j.d.nat_lt; have g5 := j.e.nat_lt
  have ea : i.a.nat = j.a.nat := by omega
  have eb : i.b.nat = j.b.nat := by omega
  have ec : i.c.nat = j.c.nat := by omega
  have ed : i.d.nat = j.d.nat := by omega
  have ee : i.e.nat = j.e.nat := by omega
  cases i; cases j
  simp only [Id.mk.injEq]
  exact ⟨D16.nat_inj ea, D16.nat_inj eb, D16.nat_inj ec, D16.nat_inj ed, D16.nat_inj ee⟩

/-- The digit behind: carried over. -/
def bump {α : Type} (d : D16) (k : D16 → α) (c : α) : α := @D16.rec (fun _ => α) (k .d1) (k .d2) (k .d3) (k .d4) (k .d5) (k .d6) (k .d7) (k .d8) (k .d9) (k .d10) (k .d11) (k .d12) (k .d13) (k .d14) (k .d15) c d
def Id.next {α : Type} (i : Id) (k : Id → α) (no : α) : α :=
  @Id.rec (fun _ => α) (fun a b c d e => bump a (fun a => k ⟨a, b, c, d, e⟩) (bump b (fun b => k ⟨.d0, b, c, d, e⟩) (bump c (fun c => k ⟨.d0, .d0, c, d, e⟩) (bump d (fun d => k ⟨.d0, .d0, .d0, d, e⟩) (bump e (fun e => k ⟨.d0, .d0, .d0, .d0, e⟩) no))))) i
theorem bump_eq {α : Type} (d : D16) (k : D16 → α) (c : α) : (d = .d15 ∧ bump d k c = c) ∨ ∃ d', d'.nat = d.nat + 1 ∧ bump d k c = k d' := by
  cases d <;> first | exact .inl ⟨rfl, rfl⟩ | exact .inr ⟨_, rfl, rfl⟩
theorem Id.next_eq {α : Type} (i : Id) (k : Id → α) (no : α) : i.next k no = no ∨ ∃ j, j.nat = i.nat + 1 ∧ i.next k no = k j := by
  obtain ⟨a, b, c, d, e⟩ := i
  simp only [Id.next, Id.nat]
  rcases bump_eq a (fun a => k ⟨a, b, c, d, e⟩) (bump b (fun b => k ⟨.d0, b, c, d, e⟩) (bump c (fun c => k ⟨.d0, .d0, c, d, e⟩) (bump d (fun d => k ⟨.d0, .d0, .d0, d, e⟩) (bump e (fun e => k ⟨.d0, .d0, .d0, .d0, e⟩) no)))) with ⟨rfl, h⟩ | ⟨x, hx, h⟩
  · rw [h]
    rcases bump_eq b (fun b => k ⟨.d0, b, c, d, e⟩) (bump c (fun c => k ⟨.d0, .d0, c, d, e⟩) (bump d (fun d => k ⟨.d0, .d0, .d0, d, e⟩) (bump e (fun e => k ⟨.d0, .d0, .d0, .d0, e⟩) no))) with ⟨rfl, h⟩ | ⟨x, hx, h⟩
    · rw [h]
      rcases bump_eq c (fun c => k ⟨.d0, .d0, c, d, e⟩) (bump d (fun d => k ⟨.d0, .d0, .d0, d, e⟩) (bump e (fun e => k ⟨.d0, .d0, .d0, .d0, e⟩) no)) with ⟨rfl, h⟩ | ⟨x, hx, h⟩
      · rw [h]
        rcases bump_eq d (fun d => k ⟨.d0, .d0, .d0, d, e⟩) (bump e (fun e => k ⟨.d0, .d0, .d0, .d0, e⟩) no) with ⟨rfl, h⟩ | ⟨x, hx, h⟩
        · rw [h]
          rcases bump_eq e (fun e => k ⟨.d0, .d0, .d0, .d0, e⟩) no with ⟨rfl, h⟩ | ⟨x, hx, h⟩
          · exact .inl h
          · refine .inr ⟨_, ?_, h⟩; simp only [hx, show D16.d0.nat = 0 from rfl, show D16.d15.nat = 15 from rfl]; omega
        · refine .inr ⟨_, ?_, h⟩; simp only [hx, show D16.d0.nat = 0 from rfl, show D16.d15.nat = 15 from rfl]; omega
      · refine .inr ⟨_, ?_, h⟩; simp only [hx, show D16.d0.nat = 0 from rfl, show D16.d15.nat = 15 from rfl]; omega
    · refine .inr ⟨_, ?_, h⟩; simp only [hx, show D16.d0.nat = 0 from rfl, show D16.d15.nat = 15 from rfl]; omega
  · refine .inr ⟨_, ?_, h⟩; simp only [hx]; omega

/-! ### Values -/
inductive AV where
  | u
  | b (x : Bool)
  | n (x : Nat)
  | z (g : IntKind) (x : Int)
  | s (l : List Nat)
  | p (i : Id) (o : Nat)
  | q (i : Id) (o len cap z : Nat) (ex : Bool)
  | m (i : Id)
  | nil (g : Nat)
  | f (fn : Nat) (xs ys : List AV)
  | i (t : Nat) (w : AV)
  | a (l : List AV)
  | t (l : List AV)
  | x (j : Nat)

section
variable {α : Type}

def AV.on_b (v : AV) (k : Bool → α) (no : α) : α := @AV.rec (fun _ => α) (fun _ => PUnit) no (fun x => k x) (fun _ => no) (fun _ _ => no) (fun _ => no) (fun _ _ => no) (fun _ _ _ _ _ _ => no) (fun _ => no) (fun _ => no) (fun _ _ _ _ _ => no) (fun _ _ _ => no) (fun _ _ => no) (fun _ _ => no) (fun _ => no) .unit (fun _ _ _ _ => .unit) v
theorem AV.on_b_eq (v : AV) (k : Bool → α) (no : α) : (∃ x, v = .b x ∧ v.on_b k no = k x) ∨ v.on_b k no = no := by cases v <;> first | exact .inl ⟨_, rfl, rfl⟩ | exact .inr rfl
def AV.on_n (v : AV) (k : Nat → α) (no : α) : α := @AV.rec (fun _ => α) (fun _ => PUnit) no (fun _ => no) (fun x => k x) (fun _ _ => no) (fun _ => no) (fun _ _ => no) (fun _ _ _ _ _ _ => no) (fun _ => no) (fun _ => no) (fun _ _ _ _ _ => no) (fun _ _ _ => no) (fun _ _ => no) (fun _ _ => no) (fun _ => no) .unit (fun _ _ _ _ => .unit) v
theorem AV.on_n_eq (v : AV) (k : Nat → α) (no : α) : (∃ x, v = .n x ∧ v.on_n k no = k x) ∨ v.on_n k no = no := by cases v <;> first | exact .inl ⟨_, rfl, rfl⟩ | exact .inr rfl
def AV.on_z (v : AV) (k : IntKind → Int → α) (no : α) : α := @AV.rec (fun _ => α) (fun _ => PUnit) no (fun _ => no) (fun _ => no) (fun g x => k g x) (fun _ => no) (fun _ _ => no) (fun _ _ _ _ _ _ => no) (fun _ => no) (fun _ => no) (fun _ _ _ _ _ => no) (fun _ _ _ => no) (fun _ _ => no) (fun _ _ => no) (fun _ => no) .unit (fun _ _ _ _ => .unit) v
theorem AV.on_z_eq (v : AV) (k : IntKind → Int → α) (no : α) : (∃ g x, v = .z g x ∧ v.on_z k no = k g x) ∨ v.on_z k no = no := by cases v <;> first | exact .inl ⟨_, _, rfl, rfl⟩ | exact .inr rfl
def AV.on_s (v : AV) (k : List Nat → α) (no : α) : α := @AV.rec (fun _ => α) (fun _ => PUnit) no (fun _ => no) (fun _ => no) (fun _ _ => no) (fun l => k l) (fun _ _ => no) (fun _ _ _ _ _ _ => no) (fun _ => no) (fun _ => no) (fun _ _ _ _ _ => no) (fun _ _ _ => no) (fun _ _ => no) (fun _ _ => no) (fun _ => no) .unit (fun _ _ _ _ => .unit) v
theorem AV.on_s_eq (v : AV) (k : List Nat → α) (no : α) : (∃ l, v = .s l ∧ v.on_s k no = k l) ∨ v.on_s k no = no := by cases v <;> first | exact .inl ⟨_, rfl, rfl⟩ | exact .inr rfl
def AV.on_p (v : AV) (k : Id → Nat → α) (no : α) : α := @AV.rec (fun _ => α) (fun _ => PUnit) no (fun _ => no) (fun _ => no) (fun _ _ => no) (fun _ => no) (fun i o => k i o) (fun _ _ _ _ _ _ => no) (fun _ => no) (fun _ => no) (fun _ _ _ _ _ => no) (fun _ _ _ => no) (fun _ _ => no) (fun _ _ => no) (fun _ => no) .unit (fun _ _ _ _ => .unit) v
theorem AV.on_p_eq (v : AV) (k : Id → Nat → α) (no : α) : (∃ i o, v = .p i o ∧ v.on_p k no = k i o) ∨ v.on_p k no = no := by cases v <;> first | exact .inl ⟨_, _, rfl, rfl⟩ | exact .inr rfl
def AV.on_q (v : AV) (k : Id → Nat → Nat → Nat → Nat → Bool → α) (no : α) : α := @AV.rec (fun _ => α) (fun _ => PUnit) no (fun _ => no) (fun _ => no) (fun _ _ => no) (fun _ => no) (fun _ _ => no) (fun i o len cap z ex => k i o len cap z ex) (fun _ => no) (fun _ => no) (fun _ _ _ _ _ => no) (fun _ _ _ => no) (fun _ _ => no) (fun _ _ => no) (fun _ => no) .unit (fun _ _ _ _ => .unit) v
theorem AV.on_q_eq (v : AV) (k : Id → Nat → Nat → Nat → Nat → Bool → α) (no : α) : (∃ i o len cap z ex, v = .q i o len cap z ex ∧ v.on_q k no = k i o len cap z ex) ∨ v.on_q k no = no := by cases v <;> first | exact .inl ⟨_, _, _, _, _, _, rfl, rfl⟩ | exact .inr rfl
def AV.on_m (v : AV) (k : Id → α) (no : α) : α := @AV.rec (fun _ => α) (fun _ => PUnit) no (fun _ => no) (fun _ => no) (fun _ _ => no) (fun _ => no) (fun _ _ => no) (fun _ _ _ _ _ _ => no) (fun i => k i) (fun _ => no) (fun _ _ _ _ _ => no) (fun _ _ _ => no) (fun _ _ => no) (fun _ _ => no) (fun _ => no) .unit (fun _ _ _ _ => .unit) v
theorem AV.on_m_eq (v : AV) (k : Id → α) (no : α) : (∃ i, v = .m i ∧ v.on_m k no = k i) ∨ v.on_m k no = no := by cases v <;> first | exact .inl ⟨_, rfl, rfl⟩ | exact .inr rfl
def AV.on_nil (v : AV) (k : Nat → α) (no : α) : α := @AV.rec (fun _ => α) (fun _ => PUnit) no (fun _ => no) (fun _ => no) (fun _ _ => no) (fun _ => no) (fun _ _ => no) (fun _ _ _ _ _ _ => no) (fun _ => no) (fun g => k g) (fun _ _ _ _ _ => no) (fun _ _ _ => no) (fun _ _ => no) (fun _ _ => no) (fun _ => no) .unit (fun _ _ _ _ => .unit) v
theorem AV.on_nil_eq (v : AV) (k : Nat → α) (no : α) : (∃ g, v = .nil g ∧ v.on_nil k no = k g) ∨ v.on_nil k no = no := by cases v <;> first | exact .inl ⟨_, rfl, rfl⟩ | exact .inr rfl
def AV.on_f (v : AV) (k : Nat → List AV → List AV → α) (no : α) : α := @AV.rec (fun _ => α) (fun _ => PUnit) no (fun _ => no) (fun _ => no) (fun _ _ => no) (fun _ => no) (fun _ _ => no) (fun _ _ _ _ _ _ => no) (fun _ => no) (fun _ => no) (fun fn xs ys _ _ => k fn xs ys) (fun _ _ _ => no) (fun _ _ => no) (fun _ _ => no) (fun _ => no) .unit (fun _ _ _ _ => .unit) v
theorem AV.on_f_eq (v : AV) (k : Nat → List AV → List AV → α) (no : α) : (∃ fn xs ys, v = .f fn xs ys ∧ v.on_f k no = k fn xs ys) ∨ v.on_f k no = no := by cases v <;> first | exact .inl ⟨_, _, _, rfl, rfl⟩ | exact .inr rfl
def AV.on_i (v : AV) (k : Nat → AV → α) (no : α) : α := @AV.rec (fun _ => α) (fun _ => PUnit) no (fun _ => no) (fun _ => no) (fun _ _ => no) (fun _ => no) (fun _ _ => no) (fun _ _ _ _ _ _ => no) (fun _ => no) (fun _ => no) (fun _ _ _ _ _ => no) (fun t w _ => k t w) (fun _ _ => no) (fun _ _ => no) (fun _ => no) .unit (fun _ _ _ _ => .unit) v
theorem AV.on_i_eq (v : AV) (k : Nat → AV → α) (no : α) : (∃ t w, v = .i t w ∧ v.on_i k no = k t w) ∨ v.on_i k no = no := by cases v <;> first | exact .inl ⟨_, _, rfl, rfl⟩ | exact .inr rfl
def AV.on_a (v : AV) (k : List AV → α) (no : α) : α := @AV.rec (fun _ => α) (fun _ => PUnit) no (fun _ => no) (fun _ => no) (fun _ _ => no) (fun _ => no) (fun _ _ => no) (fun _ _ _ _ _ _ => no) (fun _ => no) (fun _ => no) (fun _ _ _ _ _ => no) (fun _ _ _ => no) (fun l _ => k l) (fun _ _ => no) (fun _ => no) .unit (fun _ _ _ _ => .unit) v
theorem AV.on_a_eq (v : AV) (k : List AV → α) (no : α) : (∃ l, v = .a l ∧ v.on_a k no = k l) ∨ v.on_a k no = no := by cases v <;> first | exact .inl ⟨_, rfl, rfl⟩ | exact .inr rfl
def AV.on_t (v : AV) (k : List AV → α) (no : α) : α := @AV.rec (fun _ => α) (fun _ => PUnit) no (fun _ => no) (fun _ => no) (fun _ _ => no) (fun _ => no) (fun _ _ => no) (fun _ _ _ _ _ _ => no) (fun _ => no) (fun _ => no) (fun _ _ _ _ _ => no) (fun _ _ _ => no) (fun _ _ => no) (fun l _ => k l) (fun _ => no) .unit (fun _ _ _ _ => .unit) v
theorem AV.on_t_eq (v : AV) (k : List AV → α) (no : α) : (∃ l, v = .t l ∧ v.on_t k no = k l) ∨ v.on_t k no = no := by cases v <;> first | exact .inl ⟨_, rfl, rfl⟩ | exact .inr rfl
def AV.on_x (v : AV) (k : Nat → α) (no : α) : α := @AV.rec (fun _ => α) (fun _ => PUnit) no (fun _ => no) (fun _ => no) (fun _ _ => no) (fun _ => no) (fun _ _ => no) (fun _ _ _ _ _ _ => no) (fun _ => no) (fun _ => no) (fun _ _ _ _ _ => no) (fun _ _ _ => no) (fun _ _ => no) (fun _ _ => no) (fun j => k j) .unit (fun _ _ _ _ => .unit) v
theorem AV.on_x_eq (v : AV) (k : Nat → α) (no : α) : (∃ j, v = .x j ∧ v.on_x k no = k j) ∨ v.on_x k no = no := by cases v <;> first | exact .inl ⟨_, rfl, rfl⟩ | exact .inr rfl
end

end
end Go.Run
