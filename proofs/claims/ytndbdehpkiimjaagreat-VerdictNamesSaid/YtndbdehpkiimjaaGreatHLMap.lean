
/- Structs held against each other; maps. -/
import Derived.Test.YtndbdehpkiimjaaGreatHLCut
namespace Go.HL

/-! ### == of structs -/
def eqD : Option TypeDesc → Value → Value → Option Bool
  | some .bool, .bool a, .bool b => some (a == b)
  | some (.int _), .int k a, .int k' b => if k = k' then some (a == b) else none
  | some .string, .string a, .string b => some (a == b)
  | _, _, _ => none
def eqFs (P : Program) (xs ys : List Value) : List Field → Option Bool
  | [] => some true
  | f :: r => if f.name = "_" then eqFs P xs ys r else
      (xs[f.offset]?).bind fun x => (ys[f.offset]?).bind fun y => (eqD (P.underlying f.type) x y).bind fun b => if b then eqFs P xs ys r else some false
section
variable {P : Program} {H : Heap}
theorem eqD_sound {t : TypeId} {x y : Value} {b : Bool} {d : Nat} (h : eqD (P.underlying t) x y = some b) : qrun P (Op.equalIn (d + 1) t x y) H = some b := by
  cases hu : P.underlying t with
  | none => rw [hu] at h; simp [eqD] at h
  | some u =>
    rw [hu] at h
    unfold Op.equalIn
    rw [qrun_bind', qrun_underlying hu, Option.bind_some]
    unfold eqD at h
    split at h <;> simp at *
    · subst h; subst_vars; rfl
    · subst_vars; obtain ⟨rfl, rfl⟩ := h; simp [pure, qrun]
    · subst h; subst_vars; rfl
theorem eqD_part {t : TypeId} {x y : Value} {b : Bool} (h : eqD (P.underlying t) x y = some b) (cs : List Value) {o : Nat} {v : Value} (hv : cs[o]? = some v) : qrun P (part t cs.toArray o) H = some v := by
  refine qrun_part ?_
  unfold partV aggN
  cases hu : P.underlying t with
  | none => rw [hu] at h; simp [eqD] at h
  | some u => rw [hu] at h; cases u <;> simp [eqD] at h <;> simpa using hv
theorem equal_struct {t : TypeId} {fl : List Field} {xs ys : List Value} {r : Bool} {d : Nat} (hu : P.underlying t = some (.struct fl.toArray)) (hst : P.stoodInHeld t = false) (h : eqFs P xs ys fl = some r) :
    qrun P (Op.equalIn (d + 2) t (.agg xs.toArray) (.agg ys.toArray)) H = some r := by
  unfold Op.equalIn
  rw [qrun_bind', qrun_underlying hu, Option.bind_some]
  simp only
  rw [qrun_bind']
  have e1 : qrun P program H = some P := rfl
  rw [e1, Option.bind_some, hst]
  simp only [Bool.false_eq_true, if_false]
  rw [List.forIn_toArray]
  clear hu hst
  induction fl with
  | nil =>
    simp only [eqFs, Option.some.injEq] at h
    subst h
    rfl
  | cons f fl ih =>
    rw [List.forIn_cons]
    simp only [eqFs] at h
    by_cases hn : f.name = "_"
    · rw [if_pos hn] at h
      have := ih h
      simp only [hn, ne_eq, not_true, if_false] at this ⊢
      exact this
    · rw [if_neg hn] at h
      simp only [Option.bind_eq_some_iff] at h
      obtain ⟨x, hx, y, hy, b, hb, h⟩ := h
      simp only [ne_eq, hn, not_false_eq_true, if_true]
      rw [qrun_bind', qrun_bind', qrun_bind', eqD_part hb xs hx, Option.bind_some, qrun_bind', eqD_part hb ys hy, Option.bind_some, qrun_bind', eqD_sound hb, Option.bind_some]
      cases b with
      | true =>
        simp only [if_true] at h
        have := ih h
        rw [qrun_bind'] at this
        simp only [Bool.not_true, Bool.false_eq_true, if_false, pure, qrun, Option.bind_some]
        exact this
      | false => simp only [Bool.false_eq_true, if_false, Option.some.injEq] at h; subst h; rfl
theorem bin_struct {t : TypeId} {fl : List Field} {xs ys : List Value} {r : Bool} {xo yo : Operand} (hu : P.underlying t = some (.struct fl.toArray)) (hst : P.stoodInHeld t = false) (hg : P.eqGuardType P.depth t = false) (h : eqFs P xs ys fl = some r) :
    binV P (full H) .eql t xo yo (.agg xs.toArray) (.agg ys.toArray) = some (.bool r) ∧ binV P (full H) .neq t xo yo (.agg xs.toArray) (.agg ys.toArray) = some (.bool (!r)) := by
  have g : ∀ op, op = .eql ∨ op = .neq → qrun P (eqGuard op t xo yo (.agg xs.toArray) (.agg ys.toArray)) H = some () := by
    intro op ho
    unfold eqGuard
    have e1 : qrun P program H = some P := rfl
    rcases ho with rfl | rfl
    · simp only [Bool.not_true, Bool.false_eq_true, if_false]
      rw [qrun_bind', e1, Option.bind_some, qrun_bind', e1, Option.bind_some, hg]
      rfl
    · simp only [Bool.not_true, Bool.false_eq_true, if_false]
      rw [qrun_bind', e1, Option.bind_some, qrun_bind', e1, Option.bind_some, hg]
      rfl
  have e : qrun P (Op.equal t (.agg xs.toArray) (.agg ys.toArray)) H = some r := equal_struct (d := Op.maxDepth - 2) hu hst h
  constructor
  · show qrun P (do eqGuard .eql t xo yo (.agg xs.toArray) (.agg ys.toArray); binOp .eql t (.agg xs.toArray) (.agg ys.toArray)) H = _
    rw [qrun_bind', g _ (.inl rfl), Option.bind_some]
    show qrun P (do pure (Value.bool (← Op.equal t (.agg xs.toArray) (.agg ys.toArray)))) H = _
    rw [qrun_bind', e]
    rfl
  · show qrun P (do eqGuard .neq t xo yo (.agg xs.toArray) (.agg ys.toArray); binOp .neq t (.agg xs.toArray) (.agg ys.toArray)) H = _
    rw [qrun_bind', g _ (.inr rfl), Option.bind_some]
    show qrun P (do pure (Value.bool (!(← Op.equal t (.agg xs.toArray) (.agg ys.toArray))))) H = _
    rw [qrun_bind', e]
    rfl

/-! The same, field by field. -/
variable {xs ys : List Value} {f : Field} {r : List Field} {q : Prop} [Decidable q]
theorem ba_beq {a b : ByteArray} : (a == b) = decide (a = b) := by
  cases a with
  | mk x =>
    cases b with
    | mk y =>
      show (x == y) = _
      by_cases h : x = y <;> simp [h]
theorem eqF_nil : eqFs P xs ys [] = some (decide True) := rfl
theorem eqF_int {k k' : IntKind} {a b : Int} (hn : f.name ≠ "_") (hu : P.underlying f.type = some (.int k)) (hx : xs[f.offset]? = some (.int k' a)) (hy : ys[f.offset]? = some (.int k' b)) (h : eqFs P xs ys r = some (decide q)) : eqFs P xs ys (f :: r) = some (decide (a = b ∧ q)) := by
  simp only [eqFs, if_neg hn, hx, hy, hu, Option.bind_some, eqD, if_true, h]
  by_cases e : a = b <;> simp [e]
theorem eqF_bool {a b : Bool} (hn : f.name ≠ "_") (hu : P.underlying f.type = some .bool) (hx : xs[f.offset]? = some (.bool a)) (hy : ys[f.offset]? = some (.bool b)) (h : eqFs P xs ys r = some (decide q)) : eqFs P xs ys (f :: r) = some (decide (a = b ∧ q)) := by
  simp only [eqFs, if_neg hn, hx, hy, hu, Option.bind_some, eqD, h]
  by_cases e : a = b <;> simp [e]
theorem eqF_str {a b : ByteArray} (hn : f.name ≠ "_") (hu : P.underlying f.type = some .string) (hx : xs[f.offset]? = some (.string a)) (hy : ys[f.offset]? = some (.string b)) (h : eqFs P xs ys r = some (decide q)) : eqFs P xs ys (f :: r) = some (decide (a = b ∧ q)) := by
  simp only [eqFs, if_neg hn, hx, hy, hu, Option.bind_some, eqD, h, ba_beq]
  by_cases e : a = b <;> simp [e]
omit [Decidable q]

/-! ### Maps from numbers to numbers -/
def entry (x : Value × Value) (e : MapEntry) : Prop := e.key = x.1 ∧ e.val = x.2
/-- The entries of a map, in the order in which they were put. -/
def MapR (H : Heap) (r : Nat) (kvs : List (Value × Value)) : Prop := ∃ es clock, H[r]? = some (.map es clock) ∧ es.toList.map (fun e => (e.key, e.val)) = kvs
theorem MapR.frame {H H' : Heap} {r : Nat} {kvs : List (Value × Value)} (h : MapR H r kvs) {F : List Nat} (hf : Fr F H H') (hr : r ∉ F) : MapR H' r kvs := by
  obtain ⟨es, c, h1, h2⟩ := h
  refine ⟨es, c, ?_, h2⟩
  have : r < H.size := by
    rcases Nat.lt_or_ge r H.size with h | h
    · exact h
    · rw [Array.getElem?_eq_none h] at h1; simp at h1
  rw [hf.same r this hr]; exact h1
theorem MapR.lt {H : Heap} {r : Nat} {kvs : List (Value × Value)} (h : MapR H r kvs) : r < H.size := by
  obtain ⟨es, c, h1, h2⟩ := h
  rcases Nat.lt_or_ge r H.size with h | h
  · exact h
  · rw [Array.getElem?_eq_none h] at h1; simp at h1
theorem MapR.ne {H : Heap} {r b : Nat} {t : TypeId} {vs : List Value} {kvs : List (Value × Value)} (h : MapR H r kvs) (hb : Blk H b t vs) : r ≠ b := by
  rintro rfl
  obtain ⟨es, c, h1, h2⟩ := h
  unfold Blk at hb
  rw [hb] at h1; simp at h1
theorem MapR.new {H : Heap} : MapR (H.push (.map #[] 0)) H.size [] := ⟨#[], 0, by simp, rfl⟩
theorem Fr.setObj {F : List Nat} {H : Heap} {r : Nat} {o : Obj} (h : r ∈ F) : Fr F H (H.setIfInBounds r o) :=
  ⟨by simp, fun b _ hF => by rw [Array.getElem?_setIfInBounds]; rw [if_neg (fun (e : r = b) => hF (e ▸ h))]⟩
def mget (kvs : List (Int × Int)) (k : Int) : Option Int := (kvs.find? fun x => x.1 == k).map (·.2)
abbrev ivp (x : Int × Int) : Value × Value := (.int .i64 x.1, .int .i64 x.2)
theorem findNow_ints {k : Int} : ∀ (es : List MapEntry) (kvs : List (Int × Int)) (i : Nat), es.map (fun e => (e.key, e.val)) = kvs.map ivp →
    ∃ o, Instr.findNow (.int .i64) (.int .i64 k) es i = some o ∧ o.map (·.2) = (mget kvs k).map (Value.int .i64) := by
  intro es
  induction es with
  | nil => intro kvs i h; cases kvs <;> simp at h; exact ⟨none, rfl, rfl⟩
  | cons e es ih =>
    intro kvs i h
    cases kvs with
    | nil => simp at h
    | cons x kvs =>
      simp only [List.map_cons, List.cons.injEq, Prod.mk.injEq] at h
      obtain ⟨⟨h1, h2⟩, h3⟩ := h
      simp only [Instr.findNow, h1, Instr.sameNow, if_true]
      by_cases hk : k = x.1
      · subst hk
        refine ⟨some (i, e.val), by simp, ?_⟩
        simp [mget, h2]
      · obtain ⟨o, ho, hm⟩ := ih kvs (i + 1) h3
        have e1 : (k == x.1) = false := by simp [hk]
        have e2 : (x.1 == k) = false := by simp [Ne.symm hk]
        refine ⟨o, by simp only [e1]; exact ho, ?_⟩
        rw [hm]
        simp [mget, e2]
theorem checkKey_int {k : TypeId} {n : Int} {b : Bool} (hk : P.underlying k = some (.int .i64)) : qrun P (Instr.checkKey b 10000 k (.int .i64 n)) H = some () := by
  unfold Instr.checkKey
  rw [qrun_bind', qrun_underlying hk]
  rfl
theorem qrun_getObj {r : Nat} {es : Array MapEntry} {c : Nat} (h : H[r]? = some (.map es c)) : qrun P (getObj r) H = some (.map es c) := by
  simp only [getObj, qrun, h]
theorem look_ints {t k e r : Nat} {z : Value} {kvs : List (Int × Int)} (ht : P.underlying t = some (.map k e)) (hk : P.underlying k = some (.int .i64)) (hz : zeroT P e = some z) (h : MapR H r (kvs.map ivp)) (n : Int) (ok : Bool) :
    qrun P (Instr.lookup t (.map (some r)) (.int .i64 n) ok) H = some (if ok then .tuple #[((mget kvs n).map (Value.int .i64)).getD z, .bool (mget kvs n).isSome] else ((mget kvs n).map (Value.int .i64)).getD z) := by
  obtain ⟨es, c, h1, h2⟩ := h
  obtain ⟨o, ho, hm⟩ := findNow_ints (k := n) es.toList kvs 0 h2
  have e2 : qrun P (Instr.findKey k (.int .i64 n) es.toList) H = some o := by
    unfold Instr.findKey
    rw [qrun_bind', qrun_underlying hk, Option.bind_some]
    simp only [ho]
    rfl
  unfold Instr.lookup
  rw [qrun_bind', qrun_underlying ht, Option.bind_some]
  simp only
  rw [qrun_bind', qrun_getObj h1, Option.bind_some]
  simp only
  rw [qrun_bind', show qrun P (pure es : Sem (Array MapEntry)) H = some es from rfl, Option.bind_some, qrun_bind', checkKey_int hk, Option.bind_some, qrun_bind', e2, Option.bind_some]
  cases hg : mget kvs n with
  | none =>
    rw [hg] at hm
    cases o with
    | none =>
      simp only
      rw [qrun_bind', qrun_zeroValue hz, Option.bind_some]
      cases ok <;> rfl
    | some p => simp at hm
  | some v =>
    rw [hg] at hm
    cases o with
    | none => simp at hm
    | some p =>
      simp at hm
      obtain ⟨i, w⟩ := p
      simp only at hm
      subst hm
      cases ok <;> rfl
theorem len_map {t k e r : Nat} {kvs : List (Value × Value)} (ht : P.underlying t = some (.map k e)) (h : MapR H r kvs) : lenV P (full H) t (.map (some r)) = some (.int .i64 kvs.length) := by
  obtain ⟨es, c, h1, h2⟩ := h
  show qrun P (Builtin.len_ #[t] 0 #[.map (some r)]) H = _
  unfold Builtin.len_
  simp only [List.getElem?_toArray, List.getElem?_cons_zero]
  rw [qrun_bind', qrun_underlying ht, Option.bind_some]
  simp only
  rw [qrun_bind']
  have : qrun P (getObj r) H = some (.map es c) := qrun_getObj h1
  rw [this, ← h2]
  simp [pure, qrun, goInt]
/-- A key that is not there yet. -/
theorem put_ints {t k e r : Nat} {kvs : List (Int × Int)} {n : Int} {x : Value} {K : Heap → Prop} {E : Value → Heap → Prop} (ht : P.underlying t = some (.map k e)) (hk : P.underlying k = some (.int .i64)) (h : MapR H r (kvs.map ivp)) (hn : mget kvs n = none)
    (hK : ∀ H', MapR H' r (kvs.map ivp ++ [(.int .i64 n, x)]) → Fr [r] H H' → K H') : @mapB P t (.map (some r)) (.int .i64 n) x ⟨H⟩ ⟨K⟩ ⟨E⟩ := by
  obtain ⟨es, c, h1, h2⟩ := h
  obtain ⟨o, ho, hm⟩ := findNow_ints (k := n) es.toList kvs 0 h2
  rw [hn] at hm
  show hwp P (Instr.mapUpdate t (.map (some r)) (.int .i64 n) x) H _ _
  unfold Instr.mapUpdate
  refine hwp_qbind (qrun_underlying ht H) ?_
  simp only
  have : qrun P (getObj r) H = some (.map es c) := qrun_getObj h1
  refine hwp_qbind this ?_
  simp only
  refine hwp_qbind (checkKey_int hk) ?_
  have e2 : qrun P (Instr.findKey k (.int .i64 n) es.toList) H = some o := by
    unfold Instr.findKey
    rw [qrun_bind', qrun_underlying hk, Option.bind_some]
    simp only [ho]
    rfl
  refine hwp_qbind e2 ?_
  cases o with
  | some p => simp at hm
  | none =>
    show hwp P (setObj r (.map (es.push { key := .int .i64 n, val := x, born := c }) (c + 1))) H _ _
    simp only [setObj, hwp, h1]
    refine hK _ ⟨es.push { key := .int .i64 n, val := x, born := c }, c + 1, ?_, by simp [h2]⟩ (Fr.setObj (by simp))
    have hl : r < H.size := by
      rcases Nat.lt_or_ge r H.size with h | h
      · exact h
      · rw [Array.getElem?_eq_none h] at h1; simp at h1
    rw [Array.getElem?_setIfInBounds]
    simp [hl]
end
end Go.HL
