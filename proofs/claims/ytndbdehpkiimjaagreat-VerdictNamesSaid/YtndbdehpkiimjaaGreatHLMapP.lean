
/- Maps whose keys are structs of two numbers. -/
import Derived.Test.YtndbdehpkiimjaaGreatHLMap
namespace Go.HL
section
variable {P : Program} {H : Heap}
/-- The type of keys: a struct of two numbers. -/
structure PairT (P : Program) (k : TypeId) : Prop where
  un : ∃ f0 f1 t0 t1, P.underlying k = some (.struct [f0, f1].toArray) ∧ f0.name ≠ "_" ∧ f1.name ≠ "_" ∧ f0.offset = 0 ∧ f1.offset = 1 ∧ f0.type = t0 ∧ f1.type = t1 ∧ P.underlying t0 = some (.int .i64) ∧ P.underlying t1 = some (.int .i64)
  held : P.stoodInHeld k = false
abbrev pv (x : Int × Int) : Value := .agg [.int .i64 x.1, .int .i64 x.2].toArray
theorem PairT.equal {k : TypeId} (h : PairT P k) (x y : Int × Int) : qrun P (Op.equal k (pv x) (pv y)) H = some (decide (x = y)) := by
  obtain ⟨f0, f1, t0, t1, hu, n0, n1, o0, o1, rfl, rfl, u0, u1⟩ := h.un
  have e : eqFs P [.int .i64 x.1, .int .i64 x.2] [.int .i64 y.1, .int .i64 y.2] [f0, f1] = some (decide (x.1 = y.1 ∧ x.2 = y.2 ∧ True)) :=
    eqF_int n0 u0 (by rw [o0]; rfl) (by rw [o0]; rfl) (eqF_int n1 u1 (by rw [o1]; rfl) (by rw [o1]; rfl) eqF_nil)
  have := equal_struct (H := H) (d := Op.maxDepth - 2) hu h.held e
  have e2 : decide (x.1 = y.1 ∧ x.2 = y.2 ∧ True) = decide (x = y) := by
    simp [Prod.ext_iff]
  rw [e2] at this
  exact this
theorem PairT.check {k : TypeId} (h : PairT P k) {b : Bool} (x : Int × Int) : qrun P (Instr.checkKey b 10000 k (pv x)) H = some () := by
  obtain ⟨f0, f1, t0, t1, hu, n0, n1, o0, o1, rfl, rfl, u0, u1⟩ := h.un
  have one : ∀ (n : Int) (t : TypeId), P.underlying t = some (.int .i64) → qrun P (Instr.checkKey b 9999 t (.int .i64 n)) H = some () := by
    intro n t ht
    unfold Instr.checkKey
    rw [qrun_bind', qrun_underlying ht]
    rfl
  have pt : ∀ (t : TypeId) (o : Nat) (v : Value), P.underlying t = some (.int .i64) → [Value.int .i64 x.1, .int .i64 x.2][o]? = some v → qrun P (part t [Value.int .i64 x.1, .int .i64 x.2].toArray o) H = some v := by
    intro t o v ht hv
    refine qrun_part ?_
    unfold partV aggN
    rw [ht]
    simpa using hv
  unfold Instr.checkKey
  rw [qrun_bind', qrun_underlying hu, Option.bind_some]
  simp only
  rw [List.forIn_toArray, List.forIn_cons]
  simp only [ne_eq, n0, not_false_eq_true, if_true]
  rw [qrun_bind', qrun_bind', qrun_bind', pt _ _ _ u0 (by rw [o0]; rfl), Option.bind_some, qrun_bind', one _ _ u0, Option.bind_some]
  simp only [pure, qrun, Option.bind_some]
  rw [List.forIn_cons]
  simp only [n1, not_false_eq_true, if_true]
  rw [qrun_bind', qrun_bind', pt _ _ _ u1 (by rw [o1]; rfl), Option.bind_some, qrun_bind', one _ _ u1, Option.bind_some]
  rfl
def pget (kvs : List ((Int × Int) × Int)) (k : Int × Int) : Option Int := (kvs.find? fun x => x.1 == k).map (·.2)
abbrev pvp (x : (Int × Int) × Int) : Value × Value := (pv x.1, .int .i64 x.2)
theorem PairT.find {k : TypeId} (h : PairT P k) (x : Int × Int) : ∀ (es : List MapEntry) (kvs : List ((Int × Int) × Int)) (i : Nat), es.map (fun e => (e.key, e.val)) = kvs.map pvp →
    ∃ o, qrun P (Instr.findAsking k (pv x) es i) H = some o ∧ o.map (·.2) = (pget kvs x).map (Value.int .i64) := by
  intro es
  induction es with
  | nil => intro kvs i e; cases kvs <;> simp at e; exact ⟨none, rfl, rfl⟩
  | cons a es ih =>
    intro kvs i e
    cases kvs with
    | nil => simp at e
    | cons y kvs =>
      simp only [List.map_cons, List.cons.injEq, Prod.mk.injEq] at e
      obtain ⟨⟨h1, h2⟩, h3⟩ := e
      simp only [Instr.findAsking]
      rw [qrun_bind', h1, h.equal, Option.bind_some]
      by_cases hk : x = y.1
      · refine ⟨some (i, a.val), by simp [hk, pure, qrun], ?_⟩
        simp [pget, h2, hk]
      · obtain ⟨o, ho, hm⟩ := ih kvs (i + 1) h3
        refine ⟨o, by simp [hk, ho], ?_⟩
        rw [hm]
        have e2 : (y.1 == x) = false := by simp [Ne.symm hk]
        simp [pget, e2]
theorem PairT.findKey {k : TypeId} (h : PairT P k) (x : Int × Int) {es : List MapEntry} {kvs : List ((Int × Int) × Int)} (he : es.map (fun e => (e.key, e.val)) = kvs.map pvp) :
    ∃ o, qrun P (Instr.findKey k (pv x) es) H = some o ∧ o.map (·.2) = (pget kvs x).map (Value.int .i64) := by
  obtain ⟨f0, f1, t0, t1, hu, _⟩ := h.un
  obtain ⟨o, ho, hm⟩ := h.find (H := H) x es kvs 0 he
  refine ⟨o, ?_, hm⟩
  unfold Instr.findKey
  rw [qrun_bind', qrun_underlying hu, Option.bind_some]
  cases es with
  | nil => exact ho
  | cons a es => exact ho
theorem look_pairs {t k e r : Nat} {z : Value} {kvs : List ((Int × Int) × Int)} (ht : P.underlying t = some (.map k e)) (hk : PairT P k) (hz : zeroT P e = some z) (h : MapR H r (kvs.map pvp)) (x : Int × Int) :
    qrun P (Instr.lookup t (.map (some r)) (.agg #[.int .i64 x.1, .int .i64 x.2]) true) H = some (.tuple #[((pget kvs x).map (Value.int .i64)).getD z, .bool (pget kvs x).isSome]) := by
  obtain ⟨es, c, h1, h2⟩ := h
  obtain ⟨o, ho, hm⟩ := hk.findKey (H := H) x h2
  show qrun P (Instr.lookup t (.map (some r)) (pv x) true) H = _
  unfold Instr.lookup
  rw [qrun_bind', qrun_underlying ht, Option.bind_some]
  simp only
  rw [qrun_bind', qrun_getObj h1, Option.bind_some]
  simp only
  rw [qrun_bind', show qrun P (pure es : Sem (Array MapEntry)) H = some es from rfl, Option.bind_some, qrun_bind', hk.check, Option.bind_some, qrun_bind', ho, Option.bind_some]
  cases hg : pget kvs x with
  | none =>
    rw [hg] at hm
    cases o with
    | none =>
      simp only
      rw [qrun_bind', qrun_zeroValue hz, Option.bind_some]
      rfl
    | some p => simp at hm
  | some v =>
    rw [hg] at hm
    cases o with
    | none => simp at hm
    | some p =>
      simp at hm
      obtain ⟨i, w⟩ := p
      simp only at hm
      subst hm
      rfl
theorem put_pairs {t k e r : Nat} {kvs : List ((Int × Int) × Int)} {n : Int × Int} {x : Value} {K : Heap → Prop} {E : Value → Heap → Prop} (ht : P.underlying t = some (.map k e)) (hk : PairT P k) (h : MapR H r (kvs.map pvp)) (hn : pget kvs n = none)
    (hK : ∀ H', MapR H' r (kvs.map pvp ++ [(pv n, x)]) → Fr [r] H H' → K H') : @mapB P t (.map (some r)) (.agg #[.int .i64 n.1, .int .i64 n.2]) x ⟨H⟩ ⟨K⟩ ⟨E⟩ := by
  obtain ⟨es, c, h1, h2⟩ := h
  obtain ⟨o, ho, hm⟩ := hk.findKey (H := H) n h2
  rw [hn] at hm
  show hwp P (Instr.mapUpdate t (.map (some r)) (pv n) x) H _ _
  unfold Instr.mapUpdate
  refine hwp_qbind (qrun_underlying ht H) ?_
  simp only
  refine hwp_qbind (qrun_getObj h1) ?_
  simp only
  refine hwp_qbind (hk.check n) ?_
  refine hwp_qbind ho ?_
  cases o with
  | some p => simp at hm
  | none =>
    show hwp P (setObj r (.map (es.push { key := pv n, val := x, born := c }) (c + 1))) H _ _
    simp only [setObj, hwp, h1]
    refine hK _ ⟨es.push { key := pv n, val := x, born := c }, c + 1, ?_, by simp [h2]⟩ (Fr.setObj (by simp))
    have hl : r < H.size := by
      rcases Nat.lt_or_ge r H.size with h | h
      · exact h
      · rw [Array.getElem?_eq_none h] at h1; simp at h1
    rw [Array.getElem?_setIfInBounds]
    simp [hl]

/-! ### Slices whose elements have several cells -/
theorem flatMap_get {α : Type} {f : α → List Value} {z : Nat} (hf : ∀ x, (f x).length = z) : ∀ (xs : List α) (i j : Nat) (x : α), xs[i]? = some x → j < z → (xs.flatMap f)[i * z + j]? = (f x)[j]? := by
  intro xs
  induction xs with
  | nil => intro i j x h; simp at h
  | cons a xs ih =>
    intro i j x h hj
    rw [List.flatMap_cons]
    cases i with
    | zero => simp at h; subst h; rw [Nat.zero_mul, Nat.zero_add, List.getElem?_append_left (by rw [hf]; exact hj)]
    | succ i =>
      rw [List.getElem?_append_right (by rw [hf, Nat.add_mul]; omega), hf]
      have : (i + 1) * z + j - z = i * z + j := by rw [Nat.add_mul]; omega
      rw [this]
      exact ih i j x (by simpa using h) hj
theorem flatMap_len {α : Type} {f : α → List Value} {z : Nat} (hf : ∀ x, (f x).length = z) : ∀ (xs : List α), (xs.flatMap f).length = xs.length * z := by
  intro xs
  induction xs with
  | nil => simp
  | cons a xs ih => rw [List.flatMap_cons, List.length_append, hf, ih, List.length_cons, Nat.add_mul]; omega
theorem Vec.rows {α : Type} {f : α → List Value} {e z : Nat} {v : Value} {xs : List α} (hf : ∀ x, (f x).length = z) (hz : 0 < z) (h : Vec H e z v (xs.flatMap f)) {i : Nat} {x : α} (hi : xs[i]? = some x) :
    ∃ b o cap, v = .slice (some ⟨b, o, none⟩) xs.length cap ∧ ∀ j, j < z → cellH H ⟨b, o + i * z + j, none⟩ = (f x)[j]? := by
  have hl := flatMap_len hf xs
  have hi' := (List.getElem?_eq_some_iff.1 hi).1
  have hp : 0 < xs.length * z := Nat.mul_pos (by omega) hz
  obtain ⟨b, o, len, cap, rfl, h2, h3⟩ := h.cell (by intro e; rw [e] at hl; simp at hl; omega)
  have : len = xs.length := by rw [hl] at h2; exact (Nat.eq_of_mul_eq_mul_right hz h2).symm
  subst this
  refine ⟨b, o, cap, rfl, fun j hj => ?_⟩
  have hlt : i * z + j < xs.length * z := by
    have : (i + 1) * z ≤ xs.length * z := Nat.mul_le_mul_right _ hi'
    rw [Nat.add_mul] at this; omega
  rw [Nat.add_assoc, h3 _ (by rw [hl]; exact hlt), flatMap_get hf xs i j x hi hj]
theorem Vec.form {α : Type} {f : α → List Value} {e z : Nat} {v : Value} {xs : List α} (hf : ∀ x, (f x).length = z) (hz : 0 < z) (h : Vec H e z v (xs.flatMap f)) : ∃ a cap, v = .slice a xs.length cap := by
  obtain ⟨a, len, cap, rfl, hl⟩ := h.len
  rw [flatMap_len hf] at hl
  exact ⟨a, cap, by rw [Nat.eq_of_mul_eq_mul_right hz hl]⟩
end
end Go.HL
