/- Maps whose keys are structs of two numbers. -/
import Derived.Test.YtofooamimiijlaaGreatL06
import Derived.Test.YtofooamimiijlaaGreatL05
import Derived.Test.YtofooamimiijlaaGreatT
namespace Go.HL
section
variable {P : Program} {H : Heap}
/-- The type of keys: a struct of two numbers. -/
structure PairT (P : Program) (k : TypeId) : Prop where
  un : ∃ f0 f1 t0 t1, P.underlying k = some (.struct [f0, f1].toArray) ∧ f0.name ≠ "_" ∧ f1.name ≠ "_" ∧ f0.offset = 0 ∧ f1.offset = 1 ∧ f0.type = t0 ∧ f1.type = t1 ∧ P.underlying t0 = some (.int .i64) ∧ P.underlying t1 = some (.int .i64)
  held : P.stoodInHeld k = false
abbrev pv (x : Int × Int) : Value := .agg [.int .i64 x.1, .int .i64 x.2].toArray
theorem PairT.equal {k : TypeId} (h : PairT P k) (x y : Int × Int) : qrun P (Op.equal k (pv x) (pv y)) H = some (decide (x = y)) := by
  obtain ⟨f0, f1, t0, t1, hu, n0, n1, o0, o1, rfl, rfl, u0, u1⟩ := h.un
  have e : eqFs P [.int .i64 x.1, .int .i64 x.2] [.int .i64 y.1, .int .i64 y.2] [f0, f1] = some (decide (x.1 = y.1 ∧ x.2 = y.2 ∧ True)) :=
    eqF_int n0 u0 (by rw [o0]; rfl) (by rw [o0]; rfl) (eqF_int n1 u1 (by rw [o1]; rfl) (by rw [o1]; rfl) eqF_nil)
  have := equal_struct (H := H) (d := Op.maxDepth - 2) hu h.held e
  have e2 : decide (x.1 = y.1 ∧ x.2 = y.2 ∧ True) = decide (x = y) := by
    simp [Prod.ext_iff]
  rw [e2] at this
  exact this
theorem PairT.check {k : TypeId} (h : PairT P k) {b : Bool} (x : Int × Int) : qrun P (Instr.checkKey b 10000 k (pv x)) H = some () := by
  obtain ⟨f0, f1, t0, t1, hu, n0, n1, o0, o1, rfl, rfl, u0, u1⟩ := h.un
  have one : ∀ (n : Int) (t : TypeId), P.underlying t = some (.int .i64) → qrun P (Instr.checkKey b 9999 t (.int .i64 n)) H = some () := by
    intro n t ht
    unfold Instr.checkKey
    rw [qrun_bind', qrun_underlying ht]
    rfl
  have pt : ∀ (t : TypeId) (o : Nat) (v : Value), P.underlying t = some (.int .i64) → [Value.int .i64 x.1, .int .i64 x.2][o]? = some v → qrun P (part t [Value.int .i64 x.1, .int .i64 x.2].toArray o) H = some v := by
    intro t o v ht hv
    refine qrun_part ?_
    unfold partV aggN
    rw [ht]
    simpa using hv
  unfold Instr.checkKey
  rw [qrun_bind', qrun_underlying hu, Option.bind_some]
  simp only
  rw [List.forIn_toArray, List.forIn_cons]
  simp only [ne_eq, n0, not_false_eq_true, if_true]
  rw [qrun_bind', qrun_bind', qrun_bind', pt _ _ _ u0 (by rw [o0]; rfl), Option.bind_some, qrun_bind', one _ _ u0, Option.bind_some]
  simp only [pure, qrun, Option.bind_some]
  rw [List.forIn_cons]
  simp only [n1, not_false_eq_true, if_true]
  rw [qrun_bind', qrun_bind', pt _ _ _ u1 (by rw [o1]; rfl), Option.bind_some, qrun_bind', one _ _ u1, Option.bind_some]
  rfl
def pget (kvs : List ((Int × Int) × Int)) (k : Int × Int) : Option Int := (kvs.find? fun x => x.1 == k).map (·.2)
abbrev pvp (x : (Int × Int) × Int) : Value × Value := (pv x.1, .int .i64 x.2)
theorem PairT.find {k : TypeId} (h : PairT P k) (x : Int × Int) : ∀ (es : List MapEntry) (kvs : List ((Int × Int) × Int)) (i : Nat), es.map (fun e => (e.key, e.val)) = kvs.map pvp →
    ∃ o, qrun P (Instr.findAsking k (pv x) es i) H = some o ∧ o.map (·.2) = (pget kvs x).map (Value.int .i64) := by
  intro es
  induction es with
  | nil => intro kvs i e; cases kvs <;> simp at e; exact ⟨none, rfl, rfl⟩
  | cons a es ih =>
    intro kvs i e
    cases kvs with
    | nil => simp at e
    | cons y kvs =>
      simp only [List.map_cons, List.cons.injEq, Prod.mk.injEq] at e
      obtain ⟨⟨h1, h2⟩, h3⟩ := e
      simp only [Instr.findAsking]
      rw [qrun_bind', h1, h.equal, Option.bind_some]
      by_cases hk : x = y.1
      · refine ⟨some (i, a.val), by simp [hk, pure, qrun], ?_⟩
        simp [pget, h2, hk]
      · obtain ⟨o, ho, hm⟩ := ih kvs (i + 1) h3
        refine ⟨o, by simp [hk, ho], ?_⟩
        rw [hm]
        have e2 : (y.1 == x) = false := by simp [Ne.symm hk]
        simp [pget, e2]
theorem PairT.findKey {k : TypeId} (h : PairT P k) (x : Int × Int) {es : List MapEntry} {kvs : List ((Int × Int) × Int)} (he : es.map (fun e => (e.key, e.val)) = kvs.map pvp) :
    ∃ o, qrun P (Instr.findKey k (pv x) es) H = some o ∧ o.map (·.2) = (pget kvs x).map (Value.int .i64) := by
  obtain ⟨f0, f1, t0, t1, hu, _⟩ := h.un
  obtain ⟨o, ho, hm⟩ := h.find (H := H) x es kvs 0 he
  refine ⟨o, ?_, hm⟩
  unfold Instr.findKey
  rw [qrun_bind', qrun_underlying hu, Option.bind_some]
  cases es with
  | nil => exact ho
  | cons a es => exact ho
theorem look_pairs {t k e r : Nat} {z : Value} {kvs : List ((Int × Int) × Int)} (ht : P.underlying t = some (.map k e)) (hk : PairT P k) (hz : zeroT P e = some z) (h : MapR H r (kvs.map pvp)) (x : Int × Int) :
    qrun P (Instr.lookup t (.map (some r)) (.agg #[.int .i64 x.1, .int .i64 x.2]) true) H = some (.tuple #[((pget kvs x).map (Value.int .i64)).getD z, .bool (pget kvs x).isSome]) := by
  obtain ⟨es, c, h1, h2⟩ := h
  obtain ⟨o, ho, hm⟩ := hk.findKey (H := H) x h2
  show qrun P (Instr.lookup t (.map (some r)) (pv x) true) H = _
  unfold Instr.lookup
  rw [qrun_bind', qrun_underlying ht, Option.bind_some]
  simp only
  rw [qrun_bind', qrun_getObj h1, Option.bind_some]
  simp only
  rw [qrun_bind', show qrun P (pure es : Sem (Array MapEntry)) H = some es from rfl, Option.bind_some, qrun_bind', hk.check, Option.bind_some, qrun_bind', ho, Option.bind_some]
  cases hg : pget kvs x with
  | none =>
    rw [hg] at hm
    cases o with
    | none =>
      simp only
      rw [qrun_bind', qrun_zeroValue hz, Option.bind_some]
      rfl
    | some p => simp at hm
  | some v =>
    rw [hg] at hm
    cases o with
    | none => simp at hm
    | some p =>
      simp at hm
      obtain ⟨i, w⟩ := p
      simp only at hm
      subst hm
      rfl
theorem put_pairs {t k e r : Nat} {kvs : List ((Int × Int) × Int)} {n : Int × Int} {x : Value} {K : Heap → Prop} {E : Value → Heap → Prop} (ht : P.underlying t = some (.map k e)) (hk : PairT P k) (h : MapR H r (kvs.map pvp)) (hn : pget kvs n = none)
    (hK : ∀ H', MapR H' r (kvs.map pvp ++ [(pv n, x)]) → Fr [r] H H' → K H') : @mapB P t (.map (some r)) (.agg #[.int .i64 n.1, .int .i64 n.2]) x ⟨H⟩ ⟨K⟩ ⟨E⟩ := by
  obtain ⟨es, c, h1, h2⟩ := h
  obtain ⟨o, ho, hm⟩ := hk.findKey (H := H) n h2
  rw [hn] at hm
  show hwp P (Instr.mapUpdate t (.map (some r)) (pv n) x) H _ _
  unfold Instr.mapUpdate
  refine hwp_qbind (qrun_underlying ht H) ?_
  simp only
  refine hwp_qbind (qrun_getObj h1) ?_
  simp only
  refine hwp_qbind (hk.check n) ?_
  refine hwp_qbind ho ?_
  cases o with
  | some p => simp at hm
  | none =>
    show hwp P (setObj r (.map (es.push { key := pv n, val := x, born := c }) (c + 1))) H _ _
    simp only [setObj, hwp, h1]
    refine hK _ ⟨es.push { key := pv n, val := x, born := c }, c + 1, ?_, by simp [h2]⟩ (Fr.setObj (by simp))
    have hl : r < H.size := by
      rcases Nat.lt_or_ge r H.size with h | h
      · exact h
      · rw [Array.getElem?_eq_none h] at h1; simp at h1
    rw [Array.getElem?_setIfInBounds]
    simp [hl]

/-! ### Slices whose elements have several cells -/
theorem flatMap_get {α : Type} {f : α → List Value} {z : Nat} (hf : ∀ x, (f x).length = z) : ∀ (xs : List α) (i j : Nat) (x : α), xs[i]? = some x → j < z → (xs.flatMap f)[i * z + j]? = (f x)[j]? := by
  intro xs
  induction xs with
  | nil => intro i j x h; simp at h
  | cons a xs ih =>
    intro i j x h hj
    rw [List.flatMap_cons]
    cases i with
    | zero => simp at h; subst h; rw [Nat.zero_mul, Nat.zero_add, List.getElem?_append_left (by rw [hf]; exact hj)]
    | succ i =>
      rw [List.getElem?_append_right (by rw [hf, Nat.add_mul]; omega), hf]
      have : (i + 1) * z + j - z = i * z + j := by rw [Nat.add_mul]; omega
      rw [this]
      exact ih i j x (by simpa using h) hj
theorem flatMap_len {α : Type} {f : α → List Value} {z : Nat} (hf : ∀ x, (f x).length = z) : ∀ (xs : List α), (xs.flatMap f).length = xs.length * z := by
  intro xs
  induction xs with
  | nil => simp
  | cons a xs ih => rw [List.flatMap_cons, List.length_append, hf, ih, List.length_cons, Nat.add_mul]; omega
theorem Vec.rows {α : Type} {f : α → List Value} {e z : Nat} {v : Value} {xs : List α} (hf : ∀ x, (f x).length = z) (hz : 0 < z) (h : Vec H e z v (xs.flatMap f)) {i : Nat} {x : α} (hi : xs[i]? = some x) :
    ∃ b o cap, v = .slice (some ⟨b, o, none⟩) xs.length cap ∧ ∀ j, j < z → cellH H ⟨b, o + i * z + j, none⟩ = (f x)[j]? := by
  have hl := flatMap_len hf xs
  have hi' := (List.getElem?_eq_some_iff.1 hi).1
  have hp : 0 < xs.length * z := Nat.mul_pos (by omega) hz
  obtain ⟨b, o, len, cap, rfl, h2, h3⟩ := h.cell (by intro e; rw [e] at hl; simp at hl; omega)
  have : len = xs.length := by rw [hl] at h2; exact (Nat.eq_of_mul_eq_mul_right hz h2).symm
  subst this
  refine ⟨b, o, cap, rfl, fun j hj => ?_⟩
  have hlt : i * z + j < xs.length * z := by
    have : (i + 1) * z ≤ xs.length * z := Nat.mul_le_mul_right _ hi'
    rw [Nat.add_mul] at this; omega
  rw [Nat.add_assoc, h3 _ (by rw [hl]; exact hlt), flatMap_get hf xs i j x hi hj]
theorem Vec.form {α : Type} {f : α → List Value} {e z : Nat} {v : Value} {xs : List α} (hf : ∀ x, (f x).length = z) (hz : 0 < z) (h : Vec H e z v (xs.flatMap f)) : ∃ a cap, v = .slice a xs.length cap := by
  obtain ⟨a, len, cap, rfl, hl⟩ := h.len
  rw [flatMap_len hf] at hl
  exact ⟨a, cap, by rw [Nat.eq_of_mul_eq_mul_right hz hl]⟩
end
end Go.HL

namespace Go.Proofs.YtofooamimiijlaaGreat.HM
open Go.HL

def up1 (f : Nat → Int) (i : Nat) (v : Int) : Nat → Int := fun j => if j = i then v else f j
theorem nt_set {xs : List Int} {i : Nat} {v : Int} (h : i < xs.length) : nt (xs.set i v) = up1 (nt xs) i v := by
  funext j
  unfold up1
  split
  · rename_i e; subst e; exact nt_set_eq h
  · rename_i e; exact nt_set_ne (Ne.symm e)
def par (i : Nat) : Nat := (i - 1) / 2
/-- a is taken before b. -/
def bf (A : Nat → Int) (a b : Int) : Prop := A b.toNat < A a.toNat ∨ A a.toNat = A b.toNat ∧ a < b
instance {A : Nat → Int} {a b : Int} : Decidable (bf A a b) := by unfold bf; infer_instance
theorem bf_trans {A : Nat → Int} {a b c : Int} (h : ¬ bf A a b) (h' : ¬ bf A b c) : ¬ bf A a c := by unfold bf at *; omega
theorem bf_asym {A : Nat → Int} {a b : Int} (h : bf A a b) : ¬ bf A b a := by unfold bf at *; omega
theorem bf_lt {A : Nat → Int} {a b c : Int} (h : bf A a b) (h' : ¬ bf A c b) : ¬ bf A c a := by unfold bf at *; omega
theorem bf_irr {A : Nat → Int} {a : Int} : ¬ bf A a a := by unfold bf; omega

/-- The two lists fit: O has m variables out of 1 .. n, and L tells where they are. -/
structure Ok (n m : Nat) (O L : Nat → Int) : Prop where
  le : m ≤ n
  rng : ∀ i, i < m → 1 ≤ O i ∧ O i ≤ n ∧ L (O i).toNat = i
  pos : ∀ v : Nat, 1 ≤ v → v ≤ n → L v = -1 ∨ (0 ≤ L v ∧ L v < m ∧ O (L v).toNat = v)
  zero : L 0 = -1

def swp (O : Nat → Int) (i p : Nat) : Nat → Int := fun j => if j = p then O i else if j = i then O p else O j
theorem Ok.swap {n m : Nat} {O L : Nat → Int} (h : Ok n m O L) {i p : Nat} (hi : i < m) (hp : p < m) (hne : i ≠ p) :
    Ok n m (swp O i p) (up1 (up1 L (O p).toNat i) (O i).toNat p) := by
  have ri := h.rng i hi
  have rp := h.rng p hp
  have hd : (O i).toNat ≠ (O p).toNat := by
    intro e
    have : ((i : Int)) = p := by rw [← ri.2.2, ← rp.2.2, e]
    omega
  refine ⟨h.le, ?_, ?_, ?_⟩
  · intro j hj
    unfold swp up1
    by_cases e1 : j = p
    · subst e1; simp; omega
    · by_cases e2 : j = i
      · subst e2
        simp only [e1, if_false, if_true]
        refine ⟨rp.1, rp.2.1, ?_⟩
        rw [if_neg (Ne.symm hd)]
      · have rj := h.rng j hj
        simp only [e1, e2, if_false]
        have d1 : (O j).toNat ≠ (O i).toNat := by
          intro e; have : ((j : Int)) = i := by rw [← rj.2.2, ← ri.2.2, e]
          omega
        have d2 : (O j).toNat ≠ (O p).toNat := by
          intro e; have : ((j : Int)) = p := by rw [← rj.2.2, ← rp.2.2, e]
          omega
        rw [if_neg d1, if_neg d2]
        exact rj
  · intro v h1 h2
    unfold up1
    by_cases e1 : v = (O i).toNat
    · subst e1
      right
      simp only [if_true]
      refine ⟨by omega, by omega, ?_⟩
      unfold swp
      simp
      omega
    · by_cases e2 : v = (O p).toNat
      · subst e2
        right
        rw [if_neg e1, if_pos rfl]
        refine ⟨by omega, by omega, ?_⟩
        unfold swp
        have : ¬ ((i : Int)).toNat = p := by omega
        rw [if_neg this]
        simp
        omega
      · rw [if_neg e1, if_neg e2]
        rcases h.pos v h1 h2 with h3 | ⟨h3, h4, h5⟩
        · exact .inl h3
        · right
          refine ⟨h3, h4, ?_⟩
          unfold swp
          have d1 : (L v).toNat ≠ p := by rintro e; rw [e] at h5; omega
          have d2 : (L v).toNat ≠ i := by rintro e; rw [e] at h5; omega
          rw [if_neg d1, if_neg d2]
          exact h5
  · unfold up1
    rw [if_neg (by omega), if_neg (by omega)]
    exact h.zero

def OrdAll (A : Nat → Int) (m : Nat) (O : Nat → Int) : Prop := ∀ j, 0 < j → j < m → ¬ bf A (O j) (O (par j))
structure UpInv (A : Nat → Int) (m : Nat) (O : Nat → Int) (i : Nat) : Prop where
  ord : ∀ j, 0 < j → j < m → j ≠ i → ¬ bf A (O j) (O (par j))
  kid : 0 < i → ∀ c, 0 < c → c < m → par c = i → ¬ bf A (O c) (O (par i))
theorem UpInv.step {A : Nat → Int} {m : Nat} {O : Nat → Int} {i : Nat} (h : UpInv A m O i) (h0 : 0 < i) (hm : i < m) (hb : bf A (O i) (O (par i))) : UpInv A m (swp O i (par i)) (par i) := by
  have hpi : par i < i := by unfold par; omega
  constructor
  · intro j hj hjm hne
    unfold swp
    rw [if_neg hne]
    by_cases hji : j = i
    · subst hji
      simp only [if_true]
      exact bf_asym hb
    · rw [if_neg hji]
      by_cases e1 : par j = par i
      · rw [if_pos e1]
        have := h.ord j hj hjm hji
        rw [e1] at this
        exact bf_lt hb this
      · rw [if_neg e1]
        by_cases e2 : par j = i
        · rw [if_pos e2]
          exact h.kid h0 j hj hjm e2
        · rw [if_neg e2]
          exact h.ord j hj hjm hji
  · intro hp c hc hcm hpc
    unfold swp
    have hpp : par (par i) < par i := by unfold par at hp ⊢; omega
    have d1 : ¬ par (par i) = par i := by omega
    have d2 : ¬ par (par i) = i := by omega
    rw [if_neg d1, if_neg d2]
    have d3 : ¬ c = par i := by intro e; rw [e] at hpc; omega
    rw [if_neg d3]
    have hpi' := h.ord (par i) hp (by omega) (by omega)
    by_cases hci : c = i
    · rw [if_pos hci]; exact hpi'
    · rw [if_neg hci]
      have := h.ord c hc hcm hci
      rw [hpc] at this
      exact bf_trans this hpi'
theorem UpInv.done {A : Nat → Int} {m : Nat} {O : Nat → Int} {i : Nat} (h : UpInv A m O i) (he : i = 0 ∨ ¬ bf A (O i) (O (par i))) : OrdAll A m O := by
  intro j hj hjm
  by_cases hji : j = i
  · subst hji
    rcases he with he | he
    · omega
    · exact he
  · exact h.ord j hj hjm hji

structure DnInv (A : Nat → Int) (m : Nat) (O : Nat → Int) (lo k : Nat) : Prop where
  ord : ∀ j, 0 < j → j < m → lo ≤ par j → par j ≠ k → ¬ bf A (O j) (O (par j))
  kid : lo ≠ k → 0 < k ∧ lo ≤ par k ∧ ∀ c, 0 < c → c < m → par c = k → ¬ bf A (O c) (O (par k))
theorem DnInv.step {A : Nat → Int} {m : Nat} {O : Nat → Int} {lo k c : Nat} (h : DnInv A m O lo k) (hlk : lo ≤ k) (hk : k < m) (hc : c < m) (hc0 : 0 < c) (hpc : par c = k)
    (hbest : ∀ c', 0 < c' → c' < m → par c' = k → ¬ bf A (O c') (O c)) (hb : bf A (O c) (O k)) : DnInv A m (swp O k c) lo c := by
  have hkc : k < c := by unfold par at hpc; omega
  constructor
  · intro j hj hjm hlo hne
    unfold swp
    rw [if_neg hne]
    by_cases hjc : j = c
    · subst hjc
      rw [if_pos rfl, if_pos hpc]
      exact bf_asym hb
    · rw [if_neg hjc]
      by_cases hjk : j = k
      · subst hjk
        rw [if_pos rfl]
        have hpk : par j ≠ j := by unfold par; omega
        rw [if_neg hpk]
        have hlk' : lo ≠ j := by
          intro e; subst e
          unfold par at hlo; omega
        obtain ⟨_, _, h3⟩ := h.kid hlk'
        exact h3 c hc0 hc hpc
      · rw [if_neg hjk]
        by_cases e : par j = k
        · rw [if_pos e]
          exact hbest j hj hjm e
        · rw [if_neg e]
          exact h.ord j hj hjm hlo e
  · intro _
    refine ⟨hc0, by omega, ?_⟩
    intro g hg hgm hpg
    unfold swp
    have d1 : g ≠ c := by intro e; subst e; unfold par at hpg; omega
    have d2 : g ≠ k := by intro e; subst e; unfold par at hpg hpc; omega
    rw [if_neg d1, if_neg d2]
    have d3 : ¬ par c = c := by omega
    rw [if_neg d3, if_pos hpc]
    have := h.ord g hg hgm (by omega) (by omega)
    rwa [hpg] at this
theorem DnInv.done {A : Nat → Int} {m : Nat} {O : Nat → Int} {lo k : Nat} (h : DnInv A m O lo k) (he : ∀ c, 0 < c → c < m → par c = k → ¬ bf A (O c) (O k)) :
    ∀ j, 0 < j → j < m → lo ≤ par j → ¬ bf A (O j) (O (par j)) := by
  intro j hj hjm hlo
  by_cases e : par j = k
  · rw [e]; exact he j hj hjm e
  · exact h.ord j hj hjm hlo e
/-- The first one is before all others. -/
theorem OrdAll.top {A : Nat → Int} {m : Nat} {O : Nat → Int} (h : OrdAll A m O) : ∀ j, j < m → ¬ bf A (O j) (O 0) := by
  intro j
  induction j using Nat.strongRecOn with
  | _ j ih =>
    intro hj
    by_cases h0 : j = 0
    · subst h0; exact bf_irr
    · have hp : par j < j := by unfold par; omega
      exact bf_trans (h j (by omega) hj) (ih (par j) hp (by omega))

/-- The first one is taken out, the last one laid in its place. -/
theorem Ok.pop {n m : Nat} {O L : Nat → Int} (h : Ok n m O L) (h1 : 1 < m) : Ok n (m - 1) (up1 O 0 (O (m - 1))) (up1 (up1 L (O 0).toNat (-1)) (O (m - 1)).toNat 0) := by
  have r0 := h.rng 0 (by omega)
  have rl := h.rng (m - 1) (by omega)
  have hd : (O 0).toNat ≠ (O (m - 1)).toNat := by
    intro e
    have : ((0 : Nat) : Int) = ((m - 1 : Nat) : Int) := by rw [← r0.2.2, ← rl.2.2, e]
    omega
  refine ⟨by have := h.le; omega, ?_, ?_, ?_⟩
  · intro j hj
    unfold up1
    by_cases e : j = 0
    · subst e; simp; omega
    · have rj := h.rng j (by omega)
      rw [if_neg e]
      have d1 : (O j).toNat ≠ (O (m - 1)).toNat := by
        intro e; have : ((j : Nat) : Int) = ((m - 1 : Nat) : Int) := by rw [← rj.2.2, ← rl.2.2, e]
        omega
      have d2 : (O j).toNat ≠ (O 0).toNat := by
        intro e; have : ((j : Nat) : Int) = ((0 : Nat) : Int) := by rw [← rj.2.2, ← r0.2.2, e]
        omega
      rw [if_neg d1, if_neg d2]
      exact rj
  · intro v h1' h2'
    unfold up1
    by_cases e1 : v = (O (m - 1)).toNat
    · subst e1
      right
      simp
      omega
    · rw [if_neg e1]
      by_cases e2 : v = (O 0).toNat
      · rw [if_pos e2]; exact .inl rfl
      · rw [if_neg e2]
        rcases h.pos v h1' h2' with h3 | ⟨h3, h4, h5⟩
        · exact .inl h3
        · right
          have d0 : (L v).toNat ≠ 0 := by intro e; rw [e] at h5; omega
          have dl : (L v).toNat ≠ m - 1 := by intro e; rw [e] at h5; omega
          refine ⟨h3, by omega, ?_⟩
          rw [if_neg d0]; exact h5
  · unfold up1
    rw [if_neg (by omega), if_neg (by omega)]; exact h.zero
theorem Ok.pop1 {n : Nat} {O L : Nat → Int} (h : Ok n 1 O L) : Ok n 0 O (up1 L (O 0).toNat (-1)) := by
  have r0 := h.rng 0 (by omega)
  refine ⟨by omega, fun i hi => by omega, ?_, ?_⟩
  · intro v h1 h2
    left
    unfold up1
    split
    · rfl
    · rename_i e
      rcases h.pos v h1 h2 with h3 | ⟨h3, h4, h5⟩
      · exact h3
      · exfalso
        have : (L v).toNat = 0 := by omega
        rw [this] at h5
        omega
  · unfold up1; rw [if_neg (by omega)]; exact h.zero
theorem php : ∀ (n m : Nat) (f : Nat → Nat), (∀ i, i < m → f i < n) → (∀ i j, i < m → j < m → f i = f j → i = j) → m ≤ n := by
  intro n
  induction n with
  | zero => intro m f h _; cases m with | zero => omega | succ m => have := h 0 (by omega); omega
  | succ n ih =>
    intro m f h hi
    by_cases hx : ∃ i, i < m ∧ f i = n
    · obtain ⟨i0, hi0, hf0⟩ := hx
      have := ih (m - 1) (fun i => if i = i0 then f (m - 1) else f i) ?_ ?_
      · omega
      · intro i him
        show (if i = i0 then f (m - 1) else f i) < n
        split
        · rename_i e
          have h1 := h (m - 1) (by omega)
          have h2 : f (m - 1) ≠ n := fun e' => by have := hi (m - 1) i0 (by omega) hi0 (by omega); omega
          omega
        · rename_i e
          have h1 := h i (by omega)
          have h2 : f i ≠ n := fun e' => e (hi i i0 (by omega) hi0 (by omega))
          omega
      · intro i j him hjm e
        by_cases e1 : i = i0 <;> by_cases e2 : j = i0
        · omega
        · rw [if_pos e1, if_neg e2] at e; have := hi (m - 1) j (by omega) (by omega) e; omega
        · rw [if_neg e1, if_pos e2] at e; have := hi i (m - 1) (by omega) (by omega) e; omega
        · rw [if_neg e1, if_neg e2] at e; exact hi i j (by omega) (by omega) e
    · have := ih m f (fun i him => by have := h i him; have : f i ≠ n := fun e => hx ⟨i, him, e⟩; omega) hi
      omega
/-- There is room for one that is not there. -/
theorem Ok.room {n m : Nat} {O L : Nat → Int} (h : Ok n m O L) {v : Nat} (h1 : 1 ≤ v) (h2 : v ≤ n) (hv : L v = -1) : m < n := by
  have inj : ∀ i j, i < m → j < m → (O i).toNat = (O j).toNat → i = j := by
    intro i j hi hj e
    have : ((i : Nat) : Int) = j := by rw [← (h.rng i hi).2.2, ← (h.rng j hj).2.2, e]
    omega
  have := php (n - 1) m (fun i => if (O i).toNat = n then v - 1 else (O i).toNat - 1) ?_ ?_
  · omega
  · intro i hi
    have r := h.rng i hi
    have hne : (O i).toNat ≠ v := by intro e; rw [e] at r; omega
    show (if (O i).toNat = n then v - 1 else (O i).toNat - 1) < n - 1
    split <;> omega
  · intro i j hi hj e
    have ri := h.rng i hi
    have rj := h.rng j hj
    have hni : (O i).toNat ≠ v := by intro e; rw [e] at ri; omega
    have hnj : (O j).toNat ≠ v := by intro e; rw [e] at rj; omega
    apply inj i j hi hj
    split at e <;> split at e <;> omega
/-- One more at the end. -/
theorem Ok.add {n m : Nat} {O L : Nat → Int} (h : Ok n m O L) {v : Nat} (h1 : 1 ≤ v) (h2 : v ≤ n) (hv : L v = -1) : Ok n (m + 1) (up1 O m v) (up1 L v m) := by
  have hroom := h.room h1 h2 hv
  refine ⟨by omega, ?_, ?_, ?_⟩
  · intro j hj
    unfold up1
    by_cases e : j = m
    · subst e; simp; omega
    · have rj := h.rng j (by omega)
      rw [if_neg e]
      have d : (O j).toNat ≠ v := by intro e; rw [e] at rj; omega
      rw [if_neg d]
      exact rj
  · intro u h1' h2'
    unfold up1
    by_cases e : u = v
    · subst e; right; simp; omega
    · rw [if_neg e]
      rcases h.pos u h1' h2' with h3 | ⟨h3, h4, h5⟩
      · exact .inl h3
      · right
        have d : (L u).toNat ≠ m := by omega
        rw [if_neg d]
        exact ⟨h3, by omega, h5⟩
  · unfold up1; rw [if_neg (by omega)]; exact h.zero
theorem UpInv.last {A : Nat → Int} {m : Nat} {O : Nat → Int} {v : Int} (h : OrdAll A m O) : UpInv A (m + 1) (up1 O m v) m := by
  constructor
  · intro j hj hjm hne
    have hp : par j < j := by unfold par; omega
    unfold up1
    rw [if_neg hne, if_neg (by omega)]
    exact h j hj (by omega)
  · intro _ c hc hcm hpc
    unfold par at hpc; omega
/-- The activity of one grows: it may only have to go up. -/
theorem UpInv.bump {A A' : Nat → Int} {n m : Nat} {O L : Nat → Int} (hok : Ok n m O L) (h : OrdAll A m O) {i : Nat} (hi : i < m) (hs : ∀ u, u ≠ (O i).toNat → A' u = A u) (hg : A (O i).toNat ≤ A' (O i).toNat) : UpInv A' m O i := by
  have ne : ∀ j, j < m → j ≠ i → (O j).toNat ≠ (O i).toNat := by
    intro j hj hne e
    have : ((j : Nat) : Int) = i := by rw [← (hok.rng j hj).2.2, ← (hok.rng i hi).2.2, e]
    omega
  constructor
  · intro j hj hjm hji
    have hp : par j < j := by unfold par; omega
    have := h j hj hjm
    have e1 := hs _ (ne j hjm hji)
    by_cases hpi : par j = i
    · rw [hpi] at this ⊢
      unfold bf at this ⊢
      rw [e1]; omega
    · have e2 := hs _ (ne (par j) (by omega) hpi)
      unfold bf at this ⊢
      rw [e1, e2]; exact this
  · intro h0 c hc hcm hpc
    have hpc' : par i < i := by unfold par; omega
    have hci : i < c := by unfold par at hpc; omega
    have t1 := h c hc hcm
    rw [hpc] at t1
    have t2 := h i h0 hi
    have t := bf_trans t1 t2
    have e1 := hs _ (ne c hcm (by omega))
    have e2 := hs _ (ne (par i) (by omega) (by omega))
    unfold bf at t ⊢
    rw [e1, e2]; exact t
theorem OrdAll.bump_out {A A' : Nat → Int} {n m : Nat} {O L : Nat → Int} (hok : Ok n m O L) (h : OrdAll A m O) {v : Nat} (hv : L v = -1) (hs : ∀ u, u ≠ v → A' u = A u) : OrdAll A' m O := by
  have ne : ∀ j, j < m → (O j).toNat ≠ v := by
    intro j hj e
    have := (hok.rng j hj).2.2
    rw [e, hv] at this; omega
  intro j hj hjm
  have hp : par j < j := by unfold par; omega
  have := h j hj hjm
  unfold bf at this ⊢
  rw [hs _ (ne j hjm), hs _ (ne (par j) (by omega))]; exact this
end Go.Proofs.YtofooamimiijlaaGreat.HM

namespace Go.Proofs.YtofooamimiijlaaGreat
open Go.HL HM
set_option maxRecDepth 10000
set_option linter.unusedSimpArgs false

abbrev hp (p : Nat) : Value := .pointer (some ⟨p, 0, none⟩)
abbrev iv (n : Int) : Value := .int .i64 n
theorem known_spec {H : Heap} {p bp n c : Nat} {v : Int} (hc : cellH H ⟨p, 1, none⟩ = some (.slice (some ⟨bp, 0, none⟩) n c)) :
    CallF Tryz.prog 96 [hp p, iv v] H (fun r H' => H = H' ∧ r = .bool (decide (1 ≤ v ∧ v < n))) NoP := by
  refine callF_of Tryz.func96 rfl Tryz.ntmps96 Tryz.results96 (by decide) rfl ?_
  by_cases h : 1 ≤ v
  · simp (disch := omega) only [go_sem, ↓cw_block, dsB_of, hc]
    exact fin ⟨rfl, by simp [h]⟩
  · simp (disch := omega) only [go_sem, ↓cw_block, dsB_of, hc]
    exact fin ⟨rfl, by simp [h]⟩

theorem before_spec {H : Heap} {p ba c : Nat} {ac : List Int} {v w : Int} (hc : cellH H ⟨p, 2, none⟩ = some (.slice (some ⟨ba, 0, none⟩) ac.length c)) (ha : IB H ba 2 ac)
    (hv : 0 ≤ v ∧ v < ac.length) (hw : 0 ≤ w ∧ w < ac.length) :
    CallF Tryz.prog 112 [hp p, iv v, iv w] H
      (fun r H' => H = H' ∧ r = .bool (decide (nt ac w.toNat < nt ac v.toNat ∨ nt ac v.toNat = nt ac w.toNat ∧ v < w))) NoP := by
  have c1 := ha.cell (i := v.toNat) (by omega)
  have c2 := ha.cell (i := w.toNat) (by omega)
  refine callF_of Tryz.func112 rfl Tryz.ntmps112 Tryz.results112 (by decide) rfl ?_
  simp (disch := omega) only [go_sem, ↓cw_block, dsB_of]
  refine draw0 (lk [(0, true), (1, true), (2, true), (3, true), (4, true), (5, true), (6, true), (7, true), (8, true), (9, true), (10, true), (11, true), (12, true), (13, true), (14, true)] .fin) T.mixed ?_
  simp (disch := omega) only [go_sem, ↓cw_block, dsB_of, hc, c1, c2]
  refine cond_dec (fun h => ?_) (fun h => ?_)
  · simp (disch := omega) only [go_sem, ↓cw_block, dsB_of]
    refine draw0 (lk [(0, true), (1, true), (2, true), (3, true), (4, true), (5, true), (6, true), (7, true), (8, true), (9, true), (10, true), (11, true), (12, true), (13, true), (14, true), (15, true)] .fin) T.mixed ?_
    simp (disch := omega) only [go_sem, ↓cw_block, dsB_of, hc, c1, c2]
    exact fin ⟨rfl, by simp [h]⟩
  · simp (disch := omega) only [go_sem, ↓cw_block, dsB_of]
    exact fin ⟨rfl, by simp at h; simp [h]⟩

/-- A heap in memory: the struct at p, its three lists at bo, bp, ba. -/
structure HA (H : Heap) (p bo bp ba n m : Nat) (os pl ac : List Int) : Prop where
  self : Blk H p 91 [.slice (some ⟨bo, 0, none⟩) m n, .slice (some ⟨bp, 0, none⟩) (n + 1) (n + 1), .slice (some ⟨ba, 0, none⟩) (n + 1) (n + 1)]
  io : IB H bo 3 os
  ip : IB H bp 3 pl
  ia : IB H ba 2 ac
  lo : os.length = n
  lp : pl.length = n + 1
  la : ac.length = n + 1
  ne : p ≠ bo ∧ p ≠ bp ∧ p ≠ ba ∧ bo ≠ bp ∧ bo ≠ ba ∧ bp ≠ ba
  big : n ≤ 100000
section
variable {H : Heap} {p bo bp ba n m : Nat} {os pl ac : List Int}
theorem HA.c0 (h : HA H p bo bp ba n m os pl ac) : cellH H ⟨p, 0, none⟩ = some (.slice (some ⟨bo, 0, none⟩) m n) := h.self.cell 0
theorem HA.c1 (h : HA H p bo bp ba n m os pl ac) : cellH H ⟨p, 1, none⟩ = some (.slice (some ⟨bp, 0, none⟩) (n + 1) (n + 1)) := h.self.cell 1
theorem HA.c2 (h : HA H p bo bp ba n m os pl ac) : cellH H ⟨p, 2, none⟩ = some (.slice (some ⟨ba, 0, none⟩) (n + 1) (n + 1)) := h.self.cell 2
theorem HA.frame {H' : Heap} {F : List Nat} (h : HA H p bo bp ba n m os pl ac) (hf : Fr F H H') (h1 : p ∉ F) (h2 : bo ∉ F) (h3 : bp ∉ F) (h4 : ba ∉ F) : HA H' p bo bp ba n m os pl ac :=
  ⟨hf.blk h.self h1, hf.blk h.io h2, hf.blk h.ip h3, hf.blk h.ia h4, h.lo, h.lp, h.la, h.ne, h.big⟩

theorem set_spec (h : HA H p bo bp ba n m os pl ac) {i v : Int} (hi : 0 ≤ i ∧ i < m) (hm : m ≤ n) (hv : 0 ≤ v ∧ v ≤ n) :
    CallF Tryz.prog 105 [hp p, iv i, iv v] H
      (fun r H' => r = .tuple #[] ∧ HA H' p bo bp ba n m (os.set i.toNat v) (pl.set v.toNat i) ac ∧ Fr [bo, bp] H H') NoP := by
  have hn := h.ne
  have hlo := h.lo
  have hlp := h.lp
  have c0 := h.c0
  have w1 := h.io.wr (i := i.toNat) (by omega)
  have g1 := h.io.set i.toNat v
  have c1 := (h.self.set_other (a := ⟨bo, i.toNat, none⟩) (v := iv v) hn.1).cell 1
  have p1 := h.ip.set_other (a := ⟨bo, i.toNat, none⟩) (v := iv v) hn.2.2.2.1.symm
  have w2 := p1.wr (i := v.toNat) (by omega)
  refine callF_of Tryz.func105 rfl Tryz.ntmps105 Tryz.results105 (by decide) rfl ?_
  simp (disch := omega) only [go_sem, ↓cw_block, dsB_of, c0, w1, c1, w2]
  refine fin ⟨rfl, ⟨?_, ?_, ?_, ?_, by simp [hlo], by simp [hlp], h.la, hn, h.big⟩, (Fr.set (by simp)).trans (Fr.set (by simp))⟩
  · exact (h.self.set_other hn.1).set_other hn.2.1
  · exact g1.set_other hn.2.2.2.1
  · exact p1.set _ _
  · exact (h.ia.set_other hn.2.2.2.2.1.symm).set_other hn.2.2.2.2.2.symm

theorem up_spec (h : HA H p bo bp ba n m os pl ac) {i : Nat} (hok : Ok n m (nt os) (up1 (nt pl) (nt os i).toNat i)) (hi : i < m) (hu : UpInv (nt ac) m (nt os) i) :
    CallF Tryz.prog 97 [hp p, iv i] H
      (fun r H' => r = .tuple #[] ∧ Fr [bo, bp] H H' ∧ ∃ os' pl', HA H' p bo bp ba n m os' pl' ac ∧ Ok n m (nt os') (nt pl') ∧ OrdAll (nt ac) m (nt os') ∧ ∀ v, (nt pl' v = -1 ↔ up1 (nt pl) (nt os i).toNat i v = -1)) NoP := by
  have hlo := h.lo
  have hlp := h.lp
  have hla := h.la
  have hmn := hok.le
  have hbig := h.big
  have hri := hok.rng i hi
  have c0 := h.c0
  have ci := h.io.cell (i := i) (by omega)
  refine callF_of Tryz.func97 rfl Tryz.ntmps97 Tryz.results97 (by decide) rfl ?_
  simp (disch := omega) only [go_sem, ↓cw_block, dsB_of, c0, ci, Int.toNat_natCast]
  refine loop_by (fun k ρ H1 => ∃ (j : Nat) (os1 pl1 : List Int), k = j ∧ j < m ∧ (ρ.get 0 = hp p ∧ ρ.get 1 = iv j ∧ ρ.get 4 = iv (nt os i) ∧ ρ.ds = []) ∧ HA H1 p bo bp ba n m os1 pl1 ac ∧ Fr [bo, bp] H H1 ∧
    Ok n m (up1 (nt os1) j (nt os i)) (up1 (nt pl1) (nt os i).toNat j) ∧ UpInv (nt ac) m (up1 (nt os1) j (nt os i)) j ∧ ∀ v, (up1 (nt pl1) (nt os i).toNat j v = -1 ↔ up1 (nt pl) (nt os i).toNat i v = -1)) (k := i) ?_ ?_
  · have e1 : up1 (nt os) i (nt os i) = nt os := by funext j; unfold up1; split <;> simp_all
    refine ⟨i, os, pl, rfl, hi, by simp (disch := omega) only [go_sem, ↓cw_block, dsB_of, Int.toNat_natCast], h, Fr.refl _ _, ?_, ?_, ?_⟩
    · rw [e1]; exact hok
    · rw [e1]; exact hu
    · exact fun _ => Iff.rfl
  · rintro k ρ H1 ⟨j, os1, pl1, rfl, hj, ⟨r0, r1, r4, rd⟩, h1, hf, hok1, hu1, hc1⟩
    have hlo1 := h1.lo
    have hlp1 := h1.lp
    have hn := h1.ne
    have c2' : cellH H1 ⟨p, 2, none⟩ = some (.slice (some ⟨ba, 0, none⟩) ac.length (n + 1)) := by rw [hla]; exact h1.c2
    have d0 := h1.c0
    have last : ∀ (ρ' : En), ρ'.get 0 = hp p → ρ'.get 1 = iv k → ρ'.get 4 = iv (nt os i) → ρ'.ds = [] → (k = 0 ∨ ¬ bf (nt ac) (nt os i) (nt os1 (par k))) →
        HA H1 p bo bp ba n m os1 pl1 ac → CallF Tryz.prog 105 [hp p, iv k, iv (nt os i)] H1 (fun r H' => r = .tuple #[] ∧ Fr [bo, bp] H H' ∧ ∃ os' pl', HA H' p bo bp ba n m os' pl' ac ∧ Ok n m (nt os') (nt pl') ∧ OrdAll (nt ac) m (nt os') ∧ ∀ v, (nt pl' v = -1 ↔ up1 (nt pl) (nt os i).toNat i v = -1)) NoP := by
      intro ρ' _ _ _ _ he _
      refine (set_spec h1 (by omega) hmn (by omega)).to ?_
      rintro v H' ⟨rfl, h2, hf2⟩
      simp only [Int.toNat_natCast] at h2
      refine ⟨rfl, hf.trans hf2, _, _, h2, ?_, ?_, ?_⟩
      · rw [nt_set (by omega), nt_set (by omega)]; exact hok1
      · rw [nt_set (by omega)]
        refine hu1.done ?_
        rcases he with he | he
        · exact .inl he
        · by_cases hk0 : k = 0
          · exact .inl hk0
          · right
            unfold up1
            have : ¬ par k = k := by unfold par; omega
            rw [if_pos rfl, if_neg this]
            exact he
      · rw [nt_set (by omega)]; exact hc1
    simp (disch := omega) only [go_sem, ↓cw_block, dsB_of, r0, r1, r4, rd]
    refine cond_dec (fun hk0 => ?_) (fun hk0 => ?_)
    · have hq : ((k : Int) - 1) / 2 = ((par k : Nat) : Int) := by unfold par; omega
      have hqk : par k < k := by unfold par; omega
      have dp := h1.io.cell (i := par k) (by omega)
      have rp := hok1.rng (par k) (by omega)
      have e1 : up1 (nt os1) k (nt os i) (par k) = nt os1 (par k) := if_neg (by omega)
      rw [e1] at rp
      simp (disch := omega) only [go_sem, ↓cw_block, dsB_of, r0, r1, r4, rd, hq, d0, dp]
      refine call_to (before_spec c2' h1.ia (by omega) (by omega)) ?_
      rintro _ _ ⟨rfl, rfl⟩
      simp (disch := omega) only [go_sem, ↓cw_block, dsB_of, r0, r1, r4, rd]
      refine cond_dec (fun hb => ?_) (fun hb => ?_)
      · simp (disch := omega) only [go_sem, ↓cw_block, dsB_of, r0, r1, r4, rd]
        refine call_to (last ρ r0 r1 r4 rd (.inr ?_) h1) ?_
        · exact hb
        · rintro v H' hx
          simp (disch := omega) only [go_sem, ↓cw_block, dsB_of, rd, dsB_of]
          exact fin ⟨rfl, hx.2⟩
      · have hb' : bf (nt ac) (nt os i) (nt os1 (par k)) := by unfold bf; exact Classical.not_not.1 hb
        simp (disch := omega) only [go_sem, ↓cw_block, dsB_of, r0, r1, r4, rd, d0, dp]
        refine call_to (set_spec h1 (by omega) hmn (by omega)) ?_
        rintro v H' ⟨rfl, h2, hf2⟩
        simp (disch := omega) only [go_sem, ↓cw_block, dsB_of, r0, r1, r4, rd]
        have hst := hu1.step (by omega) hj (by rw [e1]; unfold up1; rw [if_pos rfl]; exact hb')
        have hsw := hok1.swap hj (p := par k) (by omega) (by omega)
        rw [e1] at hsw
        have ek : up1 (nt os1) k (nt os i) k = nt os i := if_pos rfl
        rw [ek] at hsw
        have eO : up1 (nt (os1.set k (nt os1 (par k)))) (par k) (nt os i) = swp (up1 (nt os1) k (nt os i)) k (par k) := by
          rw [nt_set (by omega)]
          funext x
          unfold swp up1
          by_cases x1 : x = par k
          · simp [x1]
          · by_cases x2 : x = k
            · subst x2
              have : ¬ par x = x := by omega
              simp [x1, this]
            · simp [x1, x2]
        have eL : up1 (nt (pl1.set (nt os1 (par k)).toNat k)) (nt os i).toNat (par k) = up1 (up1 (up1 (nt pl1) (nt os i).toNat k) (nt os1 (par k)).toNat k) (nt os i).toNat (par k) := by
          rw [nt_set (by omega)]
          funext x
          unfold up1
          by_cases x1 : x = (nt os i).toNat
          · simp [x1]
          · simp [x1]
        refine fin ⟨par k, hqk, par k, _, _, rfl, by omega, by simp (disch := omega) only [go_sem, ↓cw_block, dsB_of, r0, r1, r4, rd], h2, hf.trans hf2, ?_, ?_, ?_⟩
        · rw [Int.toNat_natCast, eO, eL]; exact hsw
        · rw [Int.toNat_natCast, eO]; exact hst
        · intro v
          rw [eL]
          have := hc1 v
          rw [← this]
          have rk := hok1.rng k hj
          rw [ek] at rk
          have rpp := rp.2.2
          unfold up1 at rpp this ⊢
          by_cases x1 : v = (nt os i).toNat
          · simp [x1]
          · simp only [x1, if_false]
            by_cases x2 : v = (nt os1 (par k)).toNat
            · subst x2
              simp only [if_true]
              rw [if_neg x1] at rpp
              omega
            · simp only [x2, if_false]
    · have hk0' : k = 0 := by omega
      simp (disch := omega) only [go_sem, ↓cw_block, dsB_of, r0, r1, r4, rd]
      refine call_to (last ρ r0 r1 r4 rd (.inl hk0') h1) ?_
      rintro v H' hx
      simp (disch := omega) only [go_sem, ↓cw_block, dsB_of, rd, dsB_of]
      exact fin ⟨rfl, hx.2⟩

theorem down_spec (h : HA H p bo bp ba n m os pl ac) (hok : Ok n m (nt os) (nt pl)) {i : Nat} (hi : i < m) (hd : ∀ j, 0 < j → j < m → i < par j → ¬ bf (nt ac) (nt os j) (nt os (par j))) :
    CallF Tryz.prog 106 [hp p, iv i] H
      (fun r H' => r = .tuple #[] ∧ Fr [bo, bp] H H' ∧ ∃ os' pl', HA H' p bo bp ba n m os' pl' ac ∧ Ok n m (nt os') (nt pl') ∧ (∀ j, 0 < j → j < m → i ≤ par j → ¬ bf (nt ac) (nt os' j) (nt os' (par j))) ∧ ∀ v, (nt pl' v = -1 ↔ nt pl v = -1)) NoP := by
  have hlo := h.lo
  have hlp := h.lp
  have hla := h.la
  have hmn := hok.le
  have hbig := h.big
  have hri := hok.rng i hi
  have c0 := h.c0
  have ci := h.io.cell (i := i) (by omega)
  refine callF_of Tryz.func106 rfl Tryz.ntmps106 Tryz.results106 (by decide) rfl ?_
  simp (disch := omega) only [go_sem, ↓cw_block, dsB_of, c0, ci]
  refine loop_by (fun k ρ H1 => ∃ (j : Nat) (os1 pl1 : List Int), k = m - j ∧ j < m ∧ i ≤ j ∧ (ρ.get 0 = hp p ∧ ρ.get 1 = iv j ∧ ρ.get 4 = iv (nt os i) ∧ ρ.ds = []) ∧ HA H1 p bo bp ba n m os1 pl1 ac ∧ Fr [bo, bp] H H1 ∧
    Ok n m (up1 (nt os1) j (nt os i)) (up1 (nt pl1) (nt os i).toNat j) ∧ DnInv (nt ac) m (up1 (nt os1) j (nt os i)) i j ∧ ∀ v, (up1 (nt pl1) (nt os i).toNat j v = -1 ↔ nt pl v = -1)) (k := m - i) ?_ ?_
  · have e1 : up1 (nt os) i (nt os i) = nt os := by funext j; unfold up1; split <;> simp_all
    have e2 : up1 (nt pl) (nt os i).toNat i = nt pl := by funext j; unfold up1; split <;> simp_all
    refine ⟨i, os, pl, rfl, hi, Nat.le_refl _, by simp (disch := omega) only [go_sem, ↓cw_block, dsB_of], h, Fr.refl _ _, ?_, ?_, ?_⟩
    · rw [e1, e2]; exact hok
    · rw [e1]; exact ⟨fun j a b c d => hd j a b (by omega), fun e => absurd rfl e⟩
    · rw [e2]; exact fun _ => Iff.rfl
  · rintro _ ρ H1 ⟨k, os1, pl1, rfl, hj, hik, ⟨r0, r1, r4, rd⟩, h1, hf, hok1, hu1, hc1⟩
    have hlo1 := h1.lo
    have hlp1 := h1.lp
    have hn := h1.ne
    have c2' : cellH H1 ⟨p, 2, none⟩ = some (.slice (some ⟨ba, 0, none⟩) ac.length (n + 1)) := by rw [hla]; exact h1.c2
    have d0 := h1.c0
    have last : (∀ c, 0 < c → c < m → par c = k → ¬ bf (nt ac) (nt os1 c) (nt os i)) → CallF Tryz.prog 105 [hp p, iv k, iv (nt os i)] H1 (fun r H' => r = .tuple #[] ∧ Fr [bo, bp] H H' ∧
        ∃ os' pl', HA H' p bo bp ba n m os' pl' ac ∧ Ok n m (nt os') (nt pl') ∧ (∀ j, 0 < j → j < m → i ≤ par j → ¬ bf (nt ac) (nt os' j) (nt os' (par j))) ∧ ∀ v, (nt pl' v = -1 ↔ nt pl v = -1)) NoP := by
      intro he
      refine (set_spec h1 (by omega) hmn (by omega)).to ?_
      rintro v H' ⟨rfl, h2, hf2⟩
      simp only [Int.toNat_natCast] at h2
      refine ⟨rfl, hf.trans hf2, _, _, h2, ?_, ?_, ?_⟩
      · rw [nt_set (by omega), nt_set (by omega)]; exact hok1
      · rw [nt_set (by omega)]
        refine hu1.done ?_
        intro c hc hcm hpc
        unfold up1
        have : ¬ c = k := by unfold par at hpc; omega
        rw [if_pos rfl, if_neg this]
        exact he c hc hcm hpc
      · rw [nt_set (by omega)]; exact hc1
    have step : ∀ c : Nat, c < m → 0 < c → par c = k → (∀ c', 0 < c' → c' < m → par c' = k → ¬ bf (nt ac) (nt os1 c') (nt os1 c)) → bf (nt ac) (nt os1 c) (nt os i) →
        CallF Tryz.prog 105 [hp p, iv k, iv (nt os1 c)] H1 (fun r H' => r = .tuple #[] ∧ Fr [bo, bp] H H' ∧
          ∃ os' pl', HA H' p bo bp ba n m os' pl' ac ∧ Ok n m (up1 (nt os') c (nt os i)) (up1 (nt pl') (nt os i).toNat c) ∧ DnInv (nt ac) m (up1 (nt os') c (nt os i)) i c ∧ ∀ v, (up1 (nt pl') (nt os i).toNat c v = -1 ↔ nt pl v = -1)) NoP := by
      intro c hcm hc0 hpc hbest hb
      have hkc : k < c := by unfold par at hpc; omega
      have e1 : up1 (nt os1) k (nt os i) c = nt os1 c := if_neg (by omega)
      have ek : up1 (nt os1) k (nt os i) k = nt os i := if_pos rfl
      have rp := hok1.rng c hcm
      rw [e1] at rp
      refine (set_spec h1 (by omega) hmn (by omega)).to ?_
      rintro v H' ⟨rfl, h2, hf2⟩
      simp only [Int.toNat_natCast] at h2
      have hst := hu1.step (c := c) hik hj hcm hc0 hpc (by
        intro c' h0' hm' hp'
        have : up1 (nt os1) k (nt os i) c' = nt os1 c' := if_neg (by unfold par at hp'; omega)
        rw [this, e1]; exact hbest c' h0' hm' hp') (by rw [e1, ek]; exact hb)
      have hsw := hok1.swap hj (p := c) hcm (by omega)
      rw [e1, ek] at hsw
      have eO : up1 (nt (os1.set k (nt os1 c))) c (nt os i) = swp (up1 (nt os1) k (nt os i)) k c := by
        rw [nt_set (by omega)]
        funext x
        unfold swp up1
        by_cases x1 : x = c
        · simp [x1]
        · by_cases x2 : x = k
          · subst x2
            have : ¬ c = x := by omega
            simp [x1, this]
          · simp [x1, x2]
      have eL : up1 (nt (pl1.set (nt os1 c).toNat k)) (nt os i).toNat c = up1 (up1 (up1 (nt pl1) (nt os i).toNat k) (nt os1 c).toNat k) (nt os i).toNat c := by
        rw [nt_set (by omega)]
        funext x
        unfold up1
        by_cases x1 : x = (nt os i).toNat
        · simp [x1]
        · simp [x1]
      refine ⟨rfl, hf.trans hf2, _, _, h2, ?_, ?_, ?_⟩
      · rw [eO, eL]; exact hsw
      · rw [eO]; exact hst
      · intro v
        rw [eL]
        have := hc1 v
        rw [← this]
        have rk := hok1.rng k hj
        rw [ek] at rk
        have rpp := rp.2.2
        unfold up1 at rpp this ⊢
        by_cases x1 : v = (nt os i).toNat
        · simp [x1]
        · simp only [x1, if_false]
          by_cases x2 : v = (nt os1 c).toNat
          · subst x2
            simp only [if_true]
            rw [if_neg x1] at rpp
            omega
          · simp only [x2, if_false]
    simp (disch := omega) only [go_sem, ↓cw_block, dsB_of, r0, r1, r4, rd, d0]
    refine cond_dec (fun hk0 => ?_) (fun hk0 => ?_)
    · simp (disch := omega) only [go_sem, ↓cw_block, dsB_of, r0, r1, r4, rd]
      refine call_to (last ?_) ?_
      · intro c hc hcm hpc; unfold par at hpc; omega
      · rintro v H' hx
        simp (disch := omega) only [go_sem, ↓cw_block, dsB_of, rd, dsB_of]
        exact fin ⟨rfl, hx.2⟩
    · obtain ⟨c, hce⟩ : ∃ c : Nat, c = 2 * k + 1 := ⟨_, rfl⟩
      have hk1 : 2 * (k : Int) + 1 = (c : Int) := by omega
      have hk2 : (c : Int) + 1 = ((c + 1 : Nat) : Int) := by omega
      have rc := hok1.rng c (by omega)
      have e1 : up1 (nt os1) k (nt os i) c = nt os1 c := if_neg (by omega)
      rw [e1] at rc
      have dc := h1.io.cell (i := c) (by omega)
      by_cases hc2 : c + 1 < m
      · have rd2 := hok1.rng (c + 1) hc2
        have e2 : up1 (nt os1) k (nt os i) (c + 1) = nt os1 (c + 1) := if_neg (by omega)
        rw [e2] at rd2
        have dd := h1.io.cell (i := c + 1) (by omega)
        simp (disch := omega) only [go_sem, ↓cw_block, dsB_of, r0, r1, r4, rd, hk1, hk2]
        refine draw0 (lk [(0, true), (1, true), (2, true), (3, true), (4, true), (5, true), (6, true), (7, true), (8, true), (9, true), (10, true), (11, true), (12, true), (13, true), (14, true), (15, true), (16, true), (17, true), (18, true), (19, true), (20, true), (21, true), (22, true), (23, true), (24, true)] (.act 25 (lk [(26, true)] .fin) .non)) T.mixed ?_
        simp (disch := omega) only [go_sem, ↓cw_block, dsB_of, r0, r1, r4, rd, hk1, hk2, d0, dc, dd]
        refine call_to (before_spec c2' h1.ia (by omega) (by omega)) ?_
        rintro _ _ ⟨rfl, rfl⟩
        simp (disch := omega) only [go_sem, ↓cw_block, dsB_of, r0, r1, r4, rd]
        refine cond_dec (fun hb => ?_) (fun hb => ?_)
        · have best : ∀ c', 0 < c' → c' < m → par c' = k → ¬ bf (nt ac) (nt os1 c') (nt os1 (c + 1)) := by
            intro c' h0' hm' hp'
            have : c' = c ∨ c' = c + 1 := by unfold par at hp'; omega
            rcases this with rfl | rfl
            · exact bf_asym hb
            · exact bf_irr
          simp (disch := omega) only [go_sem, ↓cw_block, dsB_of, r0, r1, r4, rd, hk1, hk2, d0, dc, dd]
          refine call_to (before_spec c2' h1.ia (by omega) (by omega)) ?_
          rintro _ _ ⟨rfl, rfl⟩
          simp (disch := omega) only [go_sem, ↓cw_block, dsB_of, r0, r1, r4, rd]
          refine cond_dec (fun hb2 => ?_) (fun hb2 => ?_)
          · simp (disch := omega) only [go_sem, ↓cw_block, dsB_of, r0, r1, r4, rd]
            refine call_to (last ?_) ?_
            · intro c' h0' hm' hp'
              refine bf_trans (best c' h0' hm' hp') ?_
              unfold bf; exact hb2
            · rintro v H' hx
              simp (disch := omega) only [go_sem, ↓cw_block, dsB_of, rd, dsB_of]
              exact fin ⟨rfl, hx.2⟩
          · simp (disch := omega) only [go_sem, ↓cw_block, dsB_of, r0, r1, r4, rd, d0, hk1, hk2, dc, dd]
            refine call_to (step (c + 1) (by omega) (by omega) (by unfold par; omega) (best) (by unfold bf; exact Classical.not_not.1 hb2)) ?_
            rintro v H' ⟨rfl, hf2, os2, pl2, h2, hok2, hd2, hc2⟩
            simp (disch := omega) only [go_sem, ↓cw_block, dsB_of, r0, r1, r4, rd]
            exact fin ⟨m - (c + 1), by omega, c + 1, os2, pl2, rfl, by omega, by omega, by simp (disch := omega) only [go_sem, ↓cw_block, dsB_of, r0, r1, r4, rd, hk1, hk2], h2, hf2, hok2, hd2, hc2⟩
        · have best : ∀ c', 0 < c' → c' < m → par c' = k → ¬ bf (nt ac) (nt os1 c') (nt os1 c) := by
            intro c' h0' hm' hp'
            have : c' = c ∨ c' = c + 1 := by unfold par at hp'; omega
            rcases this with rfl | rfl
            · exact bf_irr
            · exact hb
          simp (disch := omega) only [go_sem, ↓cw_block, dsB_of, r0, r1, r4, rd, hk1, hk2, d0, dc, dd]
          refine call_to (before_spec c2' h1.ia (by omega) (by omega)) ?_
          rintro _ _ ⟨rfl, rfl⟩
          simp (disch := omega) only [go_sem, ↓cw_block, dsB_of, r0, r1, r4, rd]
          refine cond_dec (fun hb2 => ?_) (fun hb2 => ?_)
          · simp (disch := omega) only [go_sem, ↓cw_block, dsB_of, r0, r1, r4, rd]
            refine call_to (last ?_) ?_
            · intro c' h0' hm' hp'
              refine bf_trans (best c' h0' hm' hp') ?_
              unfold bf; exact hb2
            · rintro v H' hx
              simp (disch := omega) only [go_sem, ↓cw_block, dsB_of, rd, dsB_of]
              exact fin ⟨rfl, hx.2⟩
          · simp (disch := omega) only [go_sem, ↓cw_block, dsB_of, r0, r1, r4, rd, d0, hk1, hk2, dc, dd]
            refine call_to (step (c) (by omega) (by omega) (by unfold par; omega) (best) (by unfold bf; exact Classical.not_not.1 hb2)) ?_
            rintro v H' ⟨rfl, hf2, os2, pl2, h2, hok2, hd2, hc2⟩
            simp (disch := omega) only [go_sem, ↓cw_block, dsB_of, r0, r1, r4, rd]
            exact fin ⟨m - (c), by omega, c, os2, pl2, rfl, by omega, by omega, by simp (disch := omega) only [go_sem, ↓cw_block, dsB_of, r0, r1, r4, rd, hk1, hk2], h2, hf2, hok2, hd2, hc2⟩
      · have best : ∀ c', 0 < c' → c' < m → par c' = k → ¬ bf (nt ac) (nt os1 c') (nt os1 c) := by
          intro c' h0' hm' hp'
          have : c' = c := by unfold par at hp'; omega
          subst this
          exact bf_irr
        simp (disch := omega) only [go_sem, ↓cw_block, dsB_of, r0, r1, r4, rd, hk1, hk2]
        refine draw0 (lk [(0, true), (1, true), (2, true), (3, true), (4, true), (5, true), (6, true), (7, true), (8, true), (9, true), (10, true), (11, true), (12, true), (13, true), (14, true), (15, true), (16, true), (17, true), (18, true), (19, true), (20, true), (21, true), (22, true), (23, true), (24, true)] (.act 25 (lk [(26, true)] .fin) .non)) T.mixed ?_
        simp (disch := omega) only [go_sem, ↓cw_block, dsB_of, r0, r1, r4, rd, hk1, hk2, d0, dc]
        refine call_to (before_spec c2' h1.ia (by omega) (by omega)) ?_
        rintro _ _ ⟨rfl, rfl⟩
        simp (disch := omega) only [go_sem, ↓cw_block, dsB_of, r0, r1, r4, rd]
        refine cond_dec (fun hb2 => ?_) (fun hb2 => ?_)
        · simp (disch := omega) only [go_sem, ↓cw_block, dsB_of, r0, r1, r4, rd]
          refine call_to (last ?_) ?_
          · intro c' h0' hm' hp'
            refine bf_trans (best c' h0' hm' hp') ?_
            unfold bf; exact hb2
          · rintro v H' hx
            simp (disch := omega) only [go_sem, ↓cw_block, dsB_of, rd, dsB_of]
            exact fin ⟨rfl, hx.2⟩
        · simp (disch := omega) only [go_sem, ↓cw_block, dsB_of, r0, r1, r4, rd, d0, hk1, hk2, dc, dc]
          refine call_to (step (c) (by omega) (by omega) (by unfold par; omega) (best) (by unfold bf; exact Classical.not_not.1 hb2)) ?_
          rintro v H' ⟨rfl, hf2, os2, pl2, h2, hok2, hd2, hc2⟩
          simp (disch := omega) only [go_sem, ↓cw_block, dsB_of, r0, r1, r4, rd]
          exact fin ⟨m - (c), by omega, c, os2, pl2, rfl, by omega, by omega, by simp (disch := omega) only [go_sem, ↓cw_block, dsB_of, r0, r1, r4, rd, hk1, hk2], h2, hf2, hok2, hd2, hc2⟩
end
end Go.Proofs.YtofooamimiijlaaGreat

namespace Go.Proofs.YtofooamimiijlaaGreat
open Go.HL
set_option maxRecDepth 10000
set_option linter.unusedSimpArgs false

/-- An edge, turned. -/
def nx (n : Nat) : Nat := if n % 2 = 0 then n + 1 else n - 1
theorem xor_one (n : Nat) : n ^^^ 1 = nx n := by
  have h1 : (n ^^^ 1) / 2 = n / 2 := by rw [Nat.xor_div_two]; simp
  have h2 : (n ^^^ 1) % 2 = (n + 1) % 2 := by
    have := Nat.testBit_xor n 1 0
    simp only [Nat.testBit_zero] at this
    rcases Nat.mod_two_eq_zero_or_one n with h | h <;> rcases Nat.mod_two_eq_zero_or_one (n ^^^ 1) with h' | h' <;> simp [h, h'] at this <;> omega
  unfold nx
  split <;> omega
theorem bin_xor1c {V : HV} {t : TypeId} {xo yo : Operand} {n : Nat} (h : (n : Int) < 9223372036854775807) : binV Tryz.prog V .xor t xo yo (iv n) (iv 1) = some (iv (nx n)) := by
  have e : (BitVec.ofInt 64 (n : Int) ^^^ BitVec.ofInt 64 1).toNat = nx n := by
    rw [← xor_one, BitVec.toNat_xor]
    have a1 : (BitVec.ofInt 64 (n : Int)).toNat = n := by
      rw [BitVec.toNat_ofInt]; omega
    rw [a1]
    rfl
  show some (Value.int .i64 (IntKind.i64.wrap ((BitVec.ofInt 64 (n : Int) ^^^ BitVec.ofInt 64 1).toNat : Nat))) = _
  rw [e, wrap64 (by unfold nx; split <;> omega)]

theorem not_spec {H : Heap} {n : Nat} (h : (n : Int) < 9223372036854775807) : CallF Tryz.prog 11 [iv n] H (fun r H' => H = H' ∧ r = iv (nx n)) NoP := by
  have e := fun V t xo yo => bin_xor1c (V := V) (t := t) (xo := xo) (yo := yo) h
  refine callF_of Tryz.func11 rfl Tryz.ntmps11 Tryz.results11 (by decide) rfl ?_
  simp (disch := omega) only [go_sem, ↓cw_block, dsB_of, e]
  exact fin ⟨rfl, rfl⟩

abbrev Pr := Nat × Nat
abbrev prc (p : Pr) : List Value := [iv p.1, iv p.2]
abbrev prk (x : Pr × Nat) : (Int × Int) × Int := ((x.1.1, x.1.2), x.2)
/-- A graph in memory. -/
structure GM (H : Heap) (g mr : Nat) (nv nw : Value) (ns : List Pr) (ins : List Nat) (kn : List (Pr × Nat)) : Prop where
  self : Blk H g 52 [nv, nw, .map (some mr)]
  vn : Vec H 82 2 nv (ns.flatMap prc)
  vi : IV H 3 nw (ins.map Int.ofNat)
  mp : MapR H mr ((kn.map prk).map pvp)
  s1 : g ∉ own nv
  s2 : g ∉ own nw
  s3 : ∀ b ∈ own nv, b ∉ own nw
  s4 : mr ∉ own nv ∧ mr ∉ own nw ∧ mr ≠ g
def gB (g mr : Nat) (nv nw : Value) : List Nat := g :: mr :: (own nv ++ own nw)
/-- A graph is well made. -/
structure GW (ns : List Pr) (ins : List Nat) (kn : List (Pr × Nat)) : Prop where
  pos : 0 < ns.length
  big : ns.length ≤ 200000
  nd : ∀ (i : Nat) p, ns[i]? = some p → p = (0, 0) ∨ (p ≠ (0, 0) ∧ p.1 < 2 * i ∧ p.2 < 2 * i)
  inp : ∀ n ∈ ins, 0 < n ∧ ns[n]? = some (0, 0)
  nod : ins.Nodup
  kn : ∀ x ∈ kn, 0 < x.2 ∧ ns[x.2]? = some x.1
  il : ins.length ≤ ns.length
def Gr (H : Heap) (g : Nat) (B : List Nat) (ns : List Pr) (ins : List Nat) : Prop := ∃ mr nv nw kn, GM H g mr nv nw ns ins kn ∧ GW ns ins kn ∧ B = gB g mr nv nw
theorem prc_len : ∀ x : Pr, (prc x).length = 2 := fun _ => rfl
section
variable {H : Heap} {g mr : Nat} {nv nw : Value} {ns : List Pr} {ins : List Nat} {kn : List (Pr × Nat)} {B : List Nat}
theorem GM.c0 (h : GM H g mr nv nw ns ins kn) : cellH H ⟨g, 0, none⟩ = some nv := h.self.cell 0
theorem GM.c1 (h : GM H g mr nv nw ns ins kn) : cellH H ⟨g, 1, none⟩ = some nw := h.self.cell 1
theorem GM.c2 (h : GM H g mr nv nw ns ins kn) : cellH H ⟨g, 2, none⟩ = some (.map (some mr)) := h.self.cell 2
theorem GM.lt (h : GM H g mr nv nw ns ins kn) : ∀ b ∈ gB g mr nv nw, b < H.size := by
  intro b hb
  simp only [gB, List.mem_cons, List.mem_append] at hb
  rcases hb with rfl | rfl | hb | hb
  · exact h.self.lt
  · exact h.mp.lt
  · exact h.vn.lt b hb
  · exact h.vi.lt b hb
theorem GM.frame {H' : Heap} {F : List Nat} (h : GM H g mr nv nw ns ins kn) (hf : Fr F H H') (hd : ∀ b ∈ gB g mr nv nw, b ∉ F) : GM H' g mr nv nw ns ins kn :=
  ⟨hf.blk h.self (hd g (by simp [gB])), h.vn.frame hf (fun b hb => hd b (by simp [gB, hb])), h.vi.frame hf (fun b hb => hd b (by simp [gB, hb])), h.mp.frame hf (hd mr (by simp [gB])), h.s1, h.s2, h.s3, h.s4⟩
theorem Gr.frame {H' : Heap} {F : List Nat} (h : Gr H g B ns ins) (hf : Fr F H H') (hd : ∀ b ∈ B, b ∉ F) : Gr H' g B ns ins := by
  obtain ⟨mr, nv, nw, kn, h1, h2, rfl⟩ := h
  exact ⟨mr, nv, nw, kn, h1.frame hf hd, h2, rfl⟩
theorem Gr.lt (h : Gr H g B ns ins) : ∀ b ∈ B, b < H.size := by
  obtain ⟨mr, nv, nw, kn, h1, h2, rfl⟩ := h
  exact h1.lt

theorem nodes_spec (h : Gr H g B ns ins) : CallF Tryz.prog 29 [hp g] H (fun r H' => H = H' ∧ r = iv ns.length) NoP := by
  obtain ⟨mr, nv, nw, kn, h, hw, rfl⟩ := h
  obtain ⟨a, c, e⟩ := h.vn.form prc_len (by omega)
  have c0 := h.c0
  rw [e] at c0
  refine callF_of Tryz.func29 rfl Tryz.ntmps29 Tryz.results29 (by decide) rfl ?_
  simp (disch := omega) only [go_sem, ↓cw_block, dsB_of, c0]
  exact fin ⟨rfl, rfl⟩
/-- An edge of the graph. -/
def ownM (ns : List Pr) (e : Int) : Nat := if 0 ≤ e ∧ e < 2 * ns.length then e.toNat else 0
theorem own_spec (h : Gr H g B ns ins) {e : Int} (he : e ≤ 9223372036854775807) : CallF Tryz.prog 43 [hp g, iv e] H (fun r H' => H = H' ∧ r = iv (ownM ns e)) NoP := by
  obtain ⟨mr, nv, nw, kn, h, hw, rfl⟩ := h
  obtain ⟨a, c, ev⟩ := h.vn.form prc_len (by omega)
  have c0 := h.c0
  rw [ev] at c0
  unfold ownM
  refine callF_of Tryz.func43 rfl Tryz.ntmps43 Tryz.results43 (by decide) rfl ?_
  by_cases h1 : e < 0
  · simp (disch := omega) only [go_sem, ↓cw_block, dsB_of, c0]
    exact fin ⟨rfl, by rw [if_neg (by omega)]; rfl⟩
  · by_cases h2 : (ns.length : Int) ≤ e / 2
    · simp (disch := omega) only [go_sem, ↓cw_block, dsB_of, c0]
      exact fin ⟨rfl, by rw [if_neg (by omega)]; rfl⟩
    · simp (disch := omega) only [go_sem, ↓cw_block, dsB_of, c0]
      exact fin ⟨rfl, by rw [if_pos (by omega), Int.toNat_of_nonneg (by omega)]⟩
theorem ownM_lt {ns : List Pr} (hp : 0 < ns.length) (e : Int) : ownM ns e < 2 * ns.length := by
  unfold ownM; split <;> omega
theorem node_spec (h : Gr H g B ns ins) {n : Nat} {p : Pr} (hn : ns[n]? = some p) :
    CallF Tryz.prog 48 [hp g, iv n] H (fun r H' => H = H' ∧ r = if p = (0, 0) then .tuple #[iv 0, iv 0, .bool false] else .tuple #[iv p.1, iv p.2, .bool true]) NoP := by
  obtain ⟨mr, nv, nw, kn, h, hw, rfl⟩ := h
  obtain ⟨b, o, c, ev, hc⟩ := h.vn.rows prc_len (by omega) hn
  have hl := (List.getElem?_eq_some_iff.1 hn).1
  have hbig := hw.big
  have k0 := hc 0 (by omega)
  have k1 := hc 1 (by omega)
  simp only [List.getElem?_cons_zero, List.getElem?_cons_succ, Nat.add_zero] at k0 k1
  have c0 := h.c0
  rw [ev] at c0
  refine callF_of Tryz.func48 rfl Tryz.ntmps48 Tryz.results48 (by decide) rfl ?_
  by_cases hz : p = (0, 0)
  · subst hz
    rw [if_pos rfl]
    simp (disch := omega) only [go_sem, ↓cw_block, dsB_of, c0, k0, k1, cellsH, Int.natCast_zero]
    exact fin ⟨rfl, rfl⟩
  · rw [if_neg hz]
    have hz' : ¬ ((p.1 : Int) = 0 ∧ (p.2 : Int) = 0) := by
      rintro ⟨e1, e2⟩
      exact hz (Prod.ext (by simpa using e1) (by simpa using e2))
    simp (disch := omega) only [go_sem, ↓cw_block, dsB_of, c0, k0, k1, cellsH, hz', decide_false]
    refine draw0 (lk [(0, true), (1, true), (2, true), (3, true), (4, true), (5, true), (6, true), (7, true), (8, true), (9, true), (10, true), (11, true), (12, true), (13, true), (14, true), (15, true), (16, true), (17, true), (18, true)] .fin) T.mixed ?_
    simp (disch := omega) only [go_sem, ↓cw_block, dsB_of, c0, k0, k1]
    exact fin ⟨rfl, rfl⟩

theorem add_spec (h : GM H g mr nv nw ns ins kn) (hl : ns.length < 200000) {a b : Nat} : CallF Tryz.prog 44 [hp g, .agg #[iv a, iv b]] H (fun r H' => r = iv ns.length ∧ ∃ nv', GM H' g mr nv' nw (ns ++ [(a, b)]) ins kn ∧
    Fr (gB g mr nv nw) H H' ∧ ∀ x ∈ own nv', x ∈ own nv ∨ H.size ≤ x) NoP := by
  have bs : ∀ Hx : Heap, buildSliceV Tryz.prog Hx 49 1 [(0, .agg #[iv a, iv b])] = some (.slice (some ⟨Hx.size, 0, none⟩) 1 1, Hx.push (.cells #[iv a, iv b] 82)) := by
    intro Hx
    refine bsl_sound (vs := [.agg #[iv a, iv b]]) ?_
    simp [bsl, T.elem49, T.size82, T.zero82, chk, Value.cells]
  obtain ⟨H1, hH1⟩ : ∃ H1, H1 = H.push (.cells #[iv a, iv b] 82) := ⟨_, rfl⟩
  have f1 : Fr [] H H1 := by rw [hH1]; exact Fr.push
  have x1 : Blk H1 H.size 82 [iv a, iv b] := by rw [hH1]; exact Blk.new rfl
  have y0 : cellH H1 ⟨H.size, 0, none⟩ = some (iv a) := x1.cell 0
  have y1 : cellH H1 ⟨H.size, 1, none⟩ = some (iv b) := x1.cell 1
  have h1 := h.frame f1 (by simp)
  obtain ⟨an, cn, ev⟩ := h.vn.form prc_len (by omega)
  subst ev
  have c0 := h1.c0
  refine callF_of Tryz.func44 rfl Tryz.ntmps44 Tryz.results44 (by decide) rfl ?_
  simp (disch := omega) only [go_sem, ↓cw_block, dsB_of, cells_agg]
  rw [← hH1]
  simp (disch := omega) only [go_sem, ↓cw_block, dsB_of, c0, newPtr]
  refine draw1 (lk [(0, false), (1, false), (2, false), (3, false), (4, false), (5, true)] (.act 6 (.act 7 (lk [(8, true), (9, true)] (.actd 10 .fin)) .non) .non)) T.mixed [(⟨g, 0, none⟩, .slice an ns.length cn)] (heldOK_one c0) ?_
  simp (disch := omega) only [go_sem, ↓cw_block, dsB_of, c0, newPtr, y0, y1, cellsH, bs]
  refine held_by (heldOK_one ((Fr.push (F := [])).cell' c0 (by simp))) ?_
  simp (disch := omega) only [go_sem, ↓cw_block, dsB_of]
  refine app_lit (n := 1) (new := [iv a, iv b]) T.el49 rfl h1.vn (by simp [oneC]) rfl (by intro a' l c e; simp only [Value.slice.injEq] at e; obtain ⟨_, rfl, _⟩ := e; omega) ?_
  intro v' H2 g1 g2 g3 g4
  obtain ⟨a2, c2, rfl⟩ := g4 _ _ _ rfl
  have d0 := g2.cell' c0 h.s1
  refine held_by (heldOK_one d0) ?_
  have b2 := g2.blk h1.self h.s1
  have w2 := b2.wr (i := 0) (by simp) (.slice a2 (ns.length + 1) c2)
  have b3 := b2.set 0 (.slice a2 (ns.length + 1) c2)
  have F3 : Fr [g] H2 (setH H2 ⟨g, 0, none⟩ (.slice a2 (ns.length + 1) c2)) := Fr.set (by simp)
  have hgs := h1.self.lt
  have hms := h1.mp.lt
  have q1 : g ∉ own (Value.slice a2 (ns.length + 1) c2) := fun e => (g3 _ e).elim h.s1 (fun e => by omega)
  have q2 : ∀ x ∈ own (Value.slice a2 (ns.length + 1) c2), x ∉ own nw := by
    intro x hx e
    rcases g3 x hx with e' | e'
    · exact h.s3 x e' e
    · have := h1.vi.lt x e; omega
  have q3 : mr ∉ own (Value.slice a2 (ns.length + 1) c2) := fun e => (g3 _ e).elim h.s4.1 (fun e => by omega)
  have h3 : GM (setH H2 ⟨g, 0, none⟩ (.slice a2 (ns.length + 1) c2)) g mr (.slice a2 (ns.length + 1) c2) nw (ns ++ [(a, b)]) ins kn := by
    refine ⟨b3, ?_, ?_, ?_, q1, h.s2, q2, q3, h.s4.2⟩
    · have : (ns ++ [(a, b)]).flatMap prc = ns.flatMap prc ++ [iv a, iv b] := by simp
      rw [this]
      exact g1.frame F3 (by intro x hx e; simp at e; subst e; exact q1 hx)
    · exact (h1.vi.frame g2 (fun x hx e => h.s3 x e hx)).frame F3 (by intro x hx e; simp at e; subst e; exact h.s2 hx)
    · exact (h1.mp.frame g2 h.s4.1).frame F3 (by simp; exact h.s4.2.2)
  have F4 : Fr (gB g mr (.slice an ns.length cn) nw) H (setH H2 ⟨g, 0, none⟩ (.slice a2 (ns.length + 1) c2)) :=
    ((f1.mono (by simp)).trans (g2.mono (fun b _ hb => by simp [gB, hb]))).trans (F3.mono (fun b _ hb => by simp at hb; simp [gB, hb]))
  generalize hH3 : setH H2 ⟨g, 0, none⟩ (.slice a2 (ns.length + 1) c2) = H3 at h3 F4
  have d3 := h3.c0
  have e3 : ((ns.length + 1 : Nat) : Int) - 1 = (ns.length : Int) := by omega
  simp (disch := omega) only [go_sem, ↓cw_block, dsB_of, w2, hH3, d3, e3]
  refine fin ⟨rfl, _, h3, F4, fun x hx => ?_⟩
  rcases g3 x hx with e | e
  · exact .inl e
  · right; have := f1.size; omega
end
end Go.Proofs.YtofooamimiijlaaGreat

