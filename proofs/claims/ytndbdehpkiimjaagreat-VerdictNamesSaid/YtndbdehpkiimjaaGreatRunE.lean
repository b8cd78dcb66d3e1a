
/- Closed runs: what is known of types; the operations that only look. -/
import Derived.Test.YtndbdehpkiimjaaGreatRunD
namespace Go.Run
set_option linter.unusedSimpArgs false
set_option linter.unusedVariables false
open Go.HL
variable {σ : Nat → Value} {F : Nat → Option Obj} {φ : Phi} {A : AH} {H : Heap} {P : Program}
noncomputable section

/-! ### Values of constants -/
def cv1 : Value → AV
  | .bool b => .b b
  | .int .i64 (.ofNat n) => if n < 9223372036854775808 then .n n else .u
  | .int g x => .z g x
  | .string s => .s (s.data.toList.map UInt8.toNat)
  | .pointer none => .nil 0
  | .slice none 0 0 => .nil 1
  | .map none => .nil 2
  | .nilFunc => .nil 3
  | .nilIface => .nil 4
  | .func (.func f) first captured => if first.size = 0 ∧ captured.size = 0 then .f f [] [] else .u
  | _ => .u
theorem cv1_ok (v : Value) : VR σ φ (cv1 v) v := by
  unfold cv1
  split
  · simp only [VR]
  · split
    · simp only [VR]; exact ⟨rfl, by omega⟩
    · simp only [VR]
  · simp only [VR]
  · simp only [VR]; exact ⟨_, rfl, rfl⟩
  · simp only [VR]; rfl
  · simp only [VR]; rfl
  · simp only [VR]; rfl
  · simp only [VR]; rfl
  · simp only [VR]; rfl
  · split
    · rename_i f first captured h
      have e1 : first = #[] := Array.eq_empty_of_size_eq_zero h.1
      have e2 : captured = #[] := Array.eq_empty_of_size_eq_zero h.2
      subst e1 e2
      simp only [VR, VRl]; exact ⟨_, _, rfl, rfl, rfl⟩
    · simp only [VR]
  · simp only [VR]
def cv (v : Value) : AV := match v with
  | .agg c => .a (c.toList.map cv1)
  | v => cv1 v
theorem cvl_ok : ∀ (l : List Value), VRl σ φ (l.map cv1) l
  | [] => by simp [VRl]
  | v :: l => by simp only [List.map_cons, VRl]; exact ⟨v, l, rfl, cv1_ok v, cvl_ok l⟩
theorem cv_ok (v : Value) : VR σ φ (cv v) v := by
  unfold cv
  split
  · simp only [VR]; exact ⟨_, rfl, cvl_ok _⟩
  · exact cv1_ok _
/-- The kind of a type, as far as operations ask for it. -/
inductive TK where
  | int (g : IntKind) | str | bool | ptr (e : Nat) | slice (e : Nat) | arr (n e : Nat) | map (k e : Nat) | struct | func | iface | other
def kindOf : TypeDesc → TK
  | .int g => .int g | .string => .str | .bool => .bool | .pointer e => .ptr e | .slice e => .slice e | .array n e => .arr n e | .map k e => .map k e
  | .struct _ => .struct | .func .. => .func | .interface _ => .iface | _ => .other
structure TI where
  k : TK
  size : Nat
  bytes : Nat
  zero : List AV
  zv : AV
  flds : List (Nat × Nat)
  pl : Option (List (Nat × Nat))
  eqk : Option (List (Nat × Nat))
def fieldL (P : Program) (t : Nat) : List (Nat × Nat) :=
  match P.underlying t with
  | some (.struct fs) => fs.toList.map fun f => (f.offset, f.type)
  | _ => []
def kindE (P : Program) (t : Nat) : Option Nat :=
  match P.underlying t with
  | some (.int .i64) => some 0
  | some .bool => some 1
  | some .string => some 2
  | some (.int _) => some 3
  | _ => none
def eqkOf (P : Program) : List Field → Option (List (Nat × Nat))
  | [] => some []
  | f :: r => if f.name = "_" then eqkOf P r else (kindE P f.type).bind fun k => (eqkOf P r).map fun l => (f.offset, k) :: l
def eqInfo (P : Program) (t : Nat) : Option (List (Nat × Nat)) :=
  match P.underlying t with
  | some (.struct fs) => if P.stoodInHeld t || P.eqGuardType P.depth t then none else eqkOf P fs.toList
  | _ => none
structure TIok (P : Program) (t : Nat) (i : TI) : Prop where
  desc : (P.underlying t).map kindOf = some i.k
  size : sizeT P t = some i.size
  bytes : bytesT P t = some i.bytes
  zero : (zeroT P t).map (fun z => z.cells.toList.map cv1) = some i.zero
  len : i.zero.length = i.size
  zv : (zeroT P t).map cv1 = some i.zv
  flds : fieldL P t = i.flds
  pl : placesT P t = i.pl
  eqk : eqInfo P t = i.eqk
theorem TIok.kind {P : Program} {t : Nat} {i : TI} (h : TIok P t i) : ∃ d, P.underlying t = some d ∧ kindOf d = i.k := by
  have := h.desc
  cases hu : P.underlying t with
  | none => rw [hu] at this; cases this
  | some d => rw [hu] at this; exact ⟨d, rfl, Option.some.inj this⟩
theorem TIok.zer {P : Program} {t : Nat} {i : TI} (h : TIok P t i) : ∃ z, zeroT P t = some z ∧ z.cells.size = i.size ∧ ∀ σ φ, VRl σ φ i.zero z.cells.toList := by
  have := h.zero
  cases hu : zeroT P t with
  | none => rw [hu] at this; cases this
  | some z =>
    rw [hu] at this
    have this : z.cells.toList.map cv1 = i.zero := Option.some.inj this
    refine ⟨z, rfl, by rw [← h.len, ← this]; simp, fun σ φ => ?_⟩
    rw [← this]
    generalize z.cells.toList = l
    induction l with
    | nil => simp [VRl]
    | cons v l ih => simp only [List.map_cons, VRl]; exact ⟨v, l, rfl, cv1_ok v, ih⟩
theorem TIok.fld {P : Program} {t : Nat} {i : TI} (h : TIok P t i) {f d ft : Nat} (hf : i.flds[f]? = some (d, ft)) : fieldT P t f = some (d, ft) := by
  rw [← h.flds] at hf
  unfold fieldL at hf
  unfold fieldT
  split at hf
  · rename_i fs hu
    rw [hu]
    simp only [List.getElem?_map] at hf
    simp only
    rw [← Array.getElem?_toList]
    exact hf
  · simp at hf
theorem TIok.fldO {P : Program} {t : Nat} {i j : TI} (h : TIok P t i) {f d ft : Nat} (hf : i.flds[f]? = some (d, ft)) (hj : TIok P ft j) (hz : Nat.beq j.size 0 = false) : fieldO P t f = some d := by
  unfold fieldO
  rw [h.fld hf]
  simp only [Option.bind_some, hj.size]
  rw [if_neg]
  intro e
  rw [e] at hz
  cases hz
/-- What is known of types: a tree of numbers. -/
inductive TR where
  | lf (t : Nat) (i : TI)
  | nd (m : Nat) (l r : TR)
def TR.get (T : TR) (t : Nat) : Option TI := @TR.rec (fun _ => Option TI) (fun t' i => @Bool.rec (fun _ => Option TI) none (some i) (Nat.beq t' t)) (fun m _ _ l r => @Bool.rec (fun _ => Option TI) l r (Nat.ble m t)) T
def TR.OK (P : Program) : TR → Prop
  | .lf t i => TIok P t i
  | .nd _ l r => l.OK P ∧ r.OK P
def TTok (P : Program) (T : TR) : Prop := ∀ t i, T.get t = some i → TIok P t i
theorem tt_ok {P : Program} : ∀ {T : TR}, T.OK P → TTok P T
  | .lf t i, h => by
    intro t' i' he
    unfold TR.get at he
    simp only at he
    cases hb : Nat.beq t t' with
    | false => rw [hb] at he; cases he
    | true =>
      rw [hb] at he
      have := Nat.eq_of_beq_eq_true hb
      subst this
      cases he
      exact h
  | .nd m l r, h => by
    intro t' i' he
    have hl := tt_ok (T := l) h.1 t' i'
    have hr := tt_ok (T := r) h.2 t' i'
    unfold TR.get at he hl hr
    simp only at he
    cases hb : Nat.ble m t' with
    | false => rw [hb] at he; exact hl he
    | true => rw [hb] at he; exact hr he

def ev (ρ : Nat → AV) : Operand → AV
  | .tmp t => ρ t
  | .const v => cv v
  | .global _ => .u
  | .func f => .f f [] []
def ER (σ : Nat → Value) (φ : Phi) (ρ : Nat → AV) (e : En) : Prop := ∀ t, VR σ φ (ρ t) (e.get t)
theorem ev_ok {ρ : Nat → AV} {e : En} (h : ER σ φ ρ e) (x : Operand) : VR σ φ (ev ρ x) (e.ev x) := by
  cases x with
  | tmp t => exact h t
  | const v => exact cv_ok v
  | global g => simp only [ev, VR]
  | func f => simp only [ev, En.ev, VR, VRl]; exact ⟨_, _, rfl, rfl, rfl⟩
theorem evl_ok {ρ : Nat → AV} {e : En} (h : ER σ φ ρ e) : ∀ (l : List Operand), VRl σ φ (l.map (ev ρ)) (l.map e.ev)
  | [] => by simp [VRl]
  | x :: l => by simp only [List.map_cons, VRl]; exact ⟨_, _, rfl, ev_ok h x, evl_ok h l⟩

/-! ### Operations on pointers, slices, structs -/
def nilC (p : AV) (k : AV → Bool) : Bool := p.on_p (fun i o => k (.p i o)) false
theorem on_p_sound {p : AV} {w : Value} {k : Id → Nat → Bool} (hp : VR σ φ p w) (hk : p.on_p k false = true) : ∃ i o e, p = .p i o ∧ φ i = some e ∧ w = .pointer (some ⟨e.r, e.s + o, none⟩) ∧ k i o = true := by
  rcases AV.on_p_eq p k false with ⟨i, o, rfl, e⟩ | e
  · rw [e] at hk
    simp only [VR] at hp
    obtain ⟨x, h1, h2⟩ := hp
    exact ⟨i, o, x, rfl, h1, h2, hk⟩
  · rw [e] at hk; cases hk
theorem nilC_ok {p : AV} {w : Value} {k : AV → Bool} (hp : VR σ φ p w) (hk : nilC p k = true) : ∃ v r, nilV w = some r ∧ VR σ φ v r ∧ k v = true := by
  obtain ⟨i, o, e, rfl, h1, rfl, h2⟩ := on_p_sound hp hk
  exact ⟨.p i o, _, rfl, by simp only [VR]; exact ⟨e, h1, rfl⟩, h2⟩
def notA (x : AV) (k : AV → Bool) : Bool := x.on_b (fun b => k (.b (@Bool.rec (fun _ => Bool) true false b))) false
theorem on_b_sound {p : AV} {w : Value} {k : Bool → Bool} (hp : VR σ φ p w) (hk : p.on_b k false = true) : ∃ b, p = .b b ∧ w = .bool b ∧ k b = true := by
  rcases AV.on_b_eq p k false with ⟨b, rfl, e⟩ | e
  · rw [e] at hk
    simp only [VR] at hp
    exact ⟨b, rfl, hp, hk⟩
  · rw [e] at hk; cases hk
theorem notA_ok {p : AV} {w : Value} {k : AV → Bool} (hp : VR σ φ p w) (hk : notA p k = true) : ∃ v r, unV .not w = some r ∧ VR σ φ v r ∧ k v = true := by
  obtain ⟨b, rfl, rfl, h⟩ := on_b_sound hp hk
  exact ⟨_, _, rfl, by simp only [VR]; cases b <;> rfl, h⟩
def negA (x : AV) (k : AV → Bool) : Bool := x.int fun g a => mkI g (g.wrap (0 - a)) k
theorem negA_ok {p : AV} {w : Value} {k : AV → Bool} (hp : VR σ φ p w) (hk : negA p k = true) : ∃ v r, unV .neg w = some r ∧ VR σ φ v r ∧ k v = true := by
  obtain ⟨g, x, rfl, h⟩ := AV.int_sound hp hk
  obtain ⟨v, h1, h2⟩ := mkI_sound (σ := σ) (φ := φ) h
  exact ⟨v, _, rfl, h1, h2⟩
def pickA (c a b : AV) (k : AV → Bool) : Bool := c.on_b (fun x => @Bool.rec (fun _ => Bool) (k b) (k a) x) false
theorem pickA_ok {c a b : AV} {wc wa wb : Value} {k : AV → Bool} (hc : VR σ φ c wc) (ha : VR σ φ a wa) (hb : VR σ φ b wb) (hk : pickA c a b k = true) : ∃ v r, pickV wc wa wb = some r ∧ VR σ φ v r ∧ k v = true := by
  obtain ⟨x, rfl, rfl, h⟩ := on_b_sound hc hk
  cases x with
  | true => exact ⟨a, wa, rfl, ha, h⟩
  | false => exact ⟨b, wb, rfl, hb, h⟩
/-- A field's address. -/
def fldQ (d : Nat) (k : AV → Bool) (i : Id) (o : Nat) : Bool := k (.p i (Nat.add o d))
def fldP (p : AV) (d : Nat) (k : AV → Bool) : Bool := p.on_p (fldQ d k) false
theorem fldP_ok {p : AV} {w : Value} {d : Nat} {k : AV → Bool} (hp : VR σ φ p w) (hk : fldP p d k = true) : ∃ v a, w = .pointer (some a) ∧ VR σ φ v (.pointer (some (a.add d))) ∧ k v = true := by
  obtain ⟨i, o, e, rfl, h1, rfl, h2⟩ := on_p_sound hp hk
  refine ⟨_, _, rfl, ?_, h2⟩
  simp only [VR, addr_add]
  exact ⟨e, h1, by rw [Nat.add_assoc]; rfl⟩
/-- An index that is no less than 0. -/
def idxZ (k : Nat → Bool) (g : IntKind) (x : Int) : Bool := @Int.rec (fun _ => Bool) k (fun _ => false) x
def idx (i : AV) (k : Nat → Bool) : Bool := i.on_n k (i.on_z (idxZ k) false)
theorem idx_sound {i : AV} {w : Value} {k : Nat → Bool} (hi : VR σ φ i w) (hk : idx i k = true) : ∃ g n, w = .int g (n : Nat) ∧ k n = true := by
  change i.on_n k (i.on_z (fun _ x => @Int.rec (fun _ => Bool) k (fun _ => false) x) false) = true at hk
  cases i with
  | n x => simp only [VR] at hi; exact ⟨_, x, hi.1, hk⟩
  | z g x =>
    simp only [VR] at hi
    cases x with
    | ofNat m => exact ⟨g, m, hi, hk⟩
    | negSucc m => cases hk
  | _ => cases hk
/-- The address of an element of a slice. -/
def idxC (z : Nat) (k : AV → Bool) (d : Id) (o len j : Nat) : Bool := ifB (Nat.blt j len) (k (.p d (Nat.add o (Nat.mul j z)))) false
def idxQ (z : Nat) (i : AV) (k : AV → Bool) (d : Id) (o len cap z' : Nat) (ex : Bool) : Bool := idx i (idxC z k d o len)
def idxP (q : AV) (z : Nat) (i : AV) (k : AV → Bool) : Bool := q.on_q (idxQ z i k) false
theorem on_q_sound {q : AV} {w : Value} {k : Id → Nat → Nat → Nat → Nat → Bool → Bool} (hq : VR σ φ q w) (hk : q.on_q k false = true) : ∃ d o len cap z ex e x c, q = .q d o len cap z ex ∧ φ d = some e ∧ w = .slice (some ⟨e.r, x, none⟩) len c ∧ (len ≤ cap ∧ cap < 9223372036854775808) ∧ cap ≤ c ∧
    (x + c * z ≤ e.n ∧ (c ≠ 0 → x + c * z = e.n)) ∧ (cap ≠ 0 ∨ ex = true → x = e.s + o) ∧ (ex = true → c = cap) ∧ k d o len cap z ex = true := by
  rcases AV.on_q_eq q k false with ⟨d, o, len, cap, z, ex, rfl, e⟩ | e
  · rw [e] at hk
    simp only [VR] at hq
    obtain ⟨e, x, c, h1, h2, h3, h4, h5, h6, h7⟩ := hq
    exact ⟨d, o, len, cap, z, ex, e, x, c, rfl, h1, h2, h3, h4, h5, h6, h7, hk⟩
  · rw [e] at hk; cases hk
theorem idxP_ok {q i : AV} {w wi : Value} {z t : Nat} {k : AV → Bool} (hz : elemS P t = some z) (hq : VR σ φ q w) (hi : VR σ φ i wi) (hk : idxP q z i k = true) : ∃ v r, indexAV P t w wi = some r ∧ VR σ φ v r ∧ k v = true := by
  obtain ⟨d, o, len, cap, z', ex, e, x, c, rfl, h1, rfl, h3, h4, h5, h6, h7, hk⟩ := on_q_sound hq hk
  obtain ⟨g, n, rfl, hk⟩ := idx_sound hi hk
  obtain ⟨hlt, hk⟩ := ifB_and hk
  have hlt := blt_t hlt
  refine ⟨_, .pointer (some ⟨e.r, x + n * z, none⟩), ?_, ?_, hk⟩
  · simp only [indexAV, hz, Option.bind_some]
    rw [chk_pos (by omega), addr_add]
    rfl
  · simp only [VR]
    refine ⟨e, h1, ?_⟩
    rw [h6 (.inl (by omega)), Nat.add_assoc]
    rfl
/-- The address of an element of an array. -/
def idxR (p : AV) (n z : Nat) (i : AV) (k : AV → Bool) : Bool := p.on_p (fun d o => idx i fun j => ifB (Nat.blt j n) (k (.p d (Nat.add o (Nat.mul j z)))) false) false
theorem idxR_ok {q i : AV} {w wi : Value} {m z t : Nat} {k : AV → Bool} (hz : arrS P t = some (m, z)) (hq : VR σ φ q w) (hi : VR σ φ i wi) (hk : idxR q m z i k = true) : ∃ v r, indexAV P t w wi = some r ∧ VR σ φ v r ∧ k v = true := by
  obtain ⟨d, o, e, rfl, h1, rfl, hk⟩ := on_p_sound hq hk
  obtain ⟨g, n, rfl, hk⟩ := idx_sound hi hk
  obtain ⟨hlt, hk⟩ := ifB_and hk
  have hlt := blt_t hlt
  refine ⟨_, .pointer (some ⟨e.r, e.s + o + n * z, none⟩), ?_, ?_, hk⟩
  · simp only [indexAV, hz, Option.bind_some]
    rw [chk_pos (by omega), addr_add]
    rfl
  · simp only [VR]
    refine ⟨e, h1, ?_⟩
    rw [Nat.add_assoc]
    rfl
/-- An element of a list of values. -/
def nthK (l : List AV) (n : Nat) (k : AV → Bool) : Bool := @Nat.rec (fun _ => List AV → Bool) (fun l => @List.rec AV (fun _ => Bool) false (fun v _ _ => k v) l) (fun _ ih l => @List.rec AV (fun _ => Bool) false (fun _ l _ => ih l) l) n l
theorem nthK_sound {k : AV → Bool} : ∀ {n : Nat} {l : List AV}, nthK l n k = true → ∃ v, l[n]? = some v ∧ k v = true
  | 0, [], h => by cases h
  | 0, v :: l, h => ⟨v, rfl, h⟩
  | n + 1, [], h => by cases h
  | n + 1, v :: l, h => by obtain ⟨w, h1, h2⟩ := nthK_sound (n := n) (l := l) h; exact ⟨w, by simpa using h1, h2⟩
def extA (t : AV) (i : Nat) (k : AV → Bool) : Bool := t.on_t (fun l => nthK l i k) false
theorem extA_ok {t : AV} {w : Value} {i : Nat} {k : AV → Bool} (ht : VR σ φ t w) (hk : extA t i k = true) : ∃ v r, extrV w i = some r ∧ VR σ φ v r ∧ k v = true := by
  unfold extA at hk
  rcases AV.on_t_eq t (fun l => nthK l i k) false with ⟨l, rfl, e⟩ | e
  · rw [e] at hk
    obtain ⟨v, h1, h2⟩ := nthK_sound hk
    simp only [VR] at ht
    obtain ⟨c, rfl, hc⟩ := ht
    obtain ⟨r, h3, h4⟩ := hc.get h1
    exact ⟨v, r, by simpa [extrV] using h3, h4, h2⟩
  · rw [e] at hk; cases hk
/-- A field of a struct: one cell. -/
def fldA (a : AV) (d : Nat) (k : AV → Bool) : Bool := a.on_a (fun l => nthK l d k) false
theorem on_a_sound {a : AV} {w : Value} {k : List AV → Bool} (ha : VR σ φ a w) (hk : a.on_a k false = true) : ∃ l c, a = .a l ∧ w = .agg c ∧ VRl σ φ l c.toList ∧ k l = true := by
  rcases AV.on_a_eq a k false with ⟨l, rfl, e⟩ | e
  · rw [e] at hk
    simp only [VR] at ha
    obtain ⟨c, h1, h2⟩ := ha
    exact ⟨l, c, rfl, h1, h2, hk⟩
  · rw [e] at hk; cases hk
theorem fldA_ok {a : AV} {w : Value} {t f d ft : Nat} {k : AV → Bool} (hf : fieldT P t f = some (d, ft)) (hg : aggN P ft = some none) (ha : VR σ φ a w) (hk : fldA a d k = true) : ∃ v r, fieldV P t w f = some r ∧ VR σ φ v r ∧ k v = true := by
  obtain ⟨l, c, rfl, rfl, hc, hk⟩ := on_a_sound ha hk
  obtain ⟨v, h1, h2⟩ := nthK_sound hk
  obtain ⟨r, h3, h4⟩ := hc.get h1
  exact ⟨v, r, by simp only [fieldV, hf, Option.bind_some, partV, hg]; simpa using h3, h4, h2⟩
/-- A field of a struct: some cells. -/
def fldB (a : AV) (d n : Nat) (k : AV → Bool) : Bool := a.on_a (fun l => k (.a ((l.drop d).take n))) false
theorem VRl.drop : ∀ {n : Nat} {l : List AV} {ws : List Value}, VRl σ φ l ws → VRl σ φ (l.drop n) (ws.drop n)
  | 0, l, ws, h => h
  | n + 1, [], ws, h => by simp only [VRl] at h; subst h; simp [VRl]
  | n + 1, v :: l, ws, h => by
    simp only [VRl] at h
    obtain ⟨w, ws', rfl, _, h3⟩ := h
    exact VRl.drop (n := n) h3
theorem VRl.take : ∀ {n : Nat} {l : List AV} {ws : List Value}, VRl σ φ l ws → VRl σ φ (l.take n) (ws.take n)
  | 0, l, ws, h => by simp [VRl]
  | n + 1, [], ws, h => by simp only [VRl] at h; subst h; simp [VRl]
  | n + 1, v :: l, ws, h => by
    simp only [VRl] at h
    obtain ⟨w, ws', rfl, h2, h3⟩ := h
    simp only [List.take_succ_cons, VRl]
    exact ⟨w, _, rfl, h2, VRl.take (n := n) h3⟩
theorem fldB_ok {a : AV} {w : Value} {t f d ft n : Nat} {k : AV → Bool} (hf : fieldT P t f = some (d, ft)) (hg : aggN P ft = some (some n)) (ha : VR σ φ a w) (hk : fldB a d n k = true) : ∃ v r, fieldV P t w f = some r ∧ VR σ φ v r ∧ k v = true := by
  obtain ⟨l, c, rfl, rfl, hc, hk⟩ := on_a_sound ha hk
  refine ⟨_, .agg (c.extract d (d + n)), by simp only [fieldV, hf, Option.bind_some, partV, hg], ?_, hk⟩
  simp only [VR]
  refine ⟨_, rfl, ?_⟩
  have := (hc.drop (n := d)).take (n := n)
  simpa [Array.toList_extract, List.extract_eq_take_drop] using this
end
end Go.Run
