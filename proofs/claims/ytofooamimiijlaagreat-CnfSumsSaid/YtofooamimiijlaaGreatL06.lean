/- Structs held against each other; maps. -/
import Derived.Test.YtofooamimiijlaaGreatL05
import Derived.Laws.Strings
namespace Go.HL

/-! ### == of structs -/
def eqD : Option TypeDesc → Value → Value → Option Bool
  | some .bool, .bool a, .bool b => some (a == b)
  | some (.int _), .int k a, .int k' b => if k = k' then some (a == b) else none
  | some .string, .string a, .string b => some (a == b)
  | _, _, _ => none
def eqFs (P : Program) (xs ys : List Value) : List Field → Option Bool
  | [] => some true
  | f :: r => if f.name = "_" then eqFs P xs ys r else
      (xs[f.offset]?).bind fun x => (ys[f.offset]?).bind fun y => (eqD (P.underlying f.type) x y).bind fun b => if b then eqFs P xs ys r else some false
section
variable {P : Program} {H : Heap}
theorem eqD_sound {t : TypeId} {x y : Value} {b : Bool} {d : Nat} (h : eqD (P.underlying t) x y = some b) : qrun P (Op.equalIn (d + 1) t x y) H = some b := by
  cases hu : P.underlying t with
  | none => rw [hu] at h; simp [eqD] at h
  | some u =>
    rw [hu] at h
    unfold Op.equalIn
    rw [qrun_bind', qrun_underlying hu, Option.bind_some]
    unfold eqD at h
    split at h <;> simp at *
    · subst h; subst_vars; rfl
    · subst_vars; obtain ⟨rfl, rfl⟩ := h; simp [pure, qrun]
    · subst h; subst_vars; rfl
theorem eqD_part {t : TypeId} {x y : Value} {b : Bool} (h : eqD (P.underlying t) x y = some b) (cs : List Value) {o : Nat} {v : Value} (hv : cs[o]? = some v) : qrun P (part t cs.toArray o) H = some v := by
  refine qrun_part ?_
  unfold partV aggN
  cases hu : P.underlying t with
  | none => rw [hu] at h; simp [eqD] at h
  | some u => rw [hu] at h; cases u <;> simp [eqD] at h <;> simpa using hv
theorem equal_struct {t : TypeId} {fl : List Field} {xs ys : List Value} {r : Bool} {d : Nat} (hu : P.underlying t = some (.struct fl.toArray)) (hst : P.stoodInHeld t = false) (h : eqFs P xs ys fl = some r) :
    qrun P (Op.equalIn (d + 2) t (.agg xs.toArray) (.agg ys.toArray)) H = some r := by
  unfold Op.equalIn
  rw [qrun_bind', qrun_underlying hu, Option.bind_some]
  simp only
  rw [qrun_bind']
  have e1 : qrun P program H = some P := rfl
  rw [e1, Option.bind_some, hst]
  simp only [Bool.false_eq_true, if_false]
  rw [List.forIn_toArray]
  clear hu hst
  induction fl with
  | nil =>
    simp only [eqFs, Option.some.injEq] at h
    subst h
    rfl
  | cons f fl ih =>
    rw [List.forIn_cons]
    simp only [eqFs] at h
    by_cases hn : f.name = "_"
    · rw [if_pos hn] at h
      have := ih h
      simp only [hn, ne_eq, not_true, if_false] at this ⊢
      exact this
    · rw [if_neg hn] at h
      simp only [Option.bind_eq_some_iff] at h
      obtain ⟨x, hx, y, hy, b, hb, h⟩ := h
      simp only [ne_eq, hn, not_false_eq_true, if_true]
      rw [qrun_bind', qrun_bind', qrun_bind', eqD_part hb xs hx, Option.bind_some, qrun_bind', eqD_part hb ys hy, Option.bind_some, qrun_bind', eqD_sound hb, Option.bind_some]
      cases b with
      | true =>
        simp only [if_true] at h
        have := ih h
        rw [qrun_bind'] at this
        simp only [Bool.not_true, Bool.false_eq_true, if_false, pure, qrun, Option.bind_some]
        exact this
      | false => simp only [Bool.false_eq_true, if_false, Option.some.injEq] at h; subst h; rfl
theorem bin_struct {t : TypeId} {fl : List Field} {xs ys : List Value} {r : Bool} {xo yo : Operand} (hu : P.underlying t = some (.struct fl.toArray)) (hst : P.stoodInHeld t = false) (hg : P.eqGuardType P.depth t = false) (h : eqFs P xs ys fl = some r) :
    binV P (full H) .eql t xo yo (.agg xs.toArray) (.agg ys.toArray) = some (.bool r) ∧ binV P (full H) .neq t xo yo (.agg xs.toArray) (.agg ys.toArray) = some (.bool (!r)) := by
  have g : ∀ op, op = .eql ∨ op = .neq → qrun P (eqGuard op t xo yo (.agg xs.toArray) (.agg ys.toArray)) H = some () := by
    intro op ho
    unfold eqGuard
    have e1 : qrun P program H = some P := rfl
    rcases ho with rfl | rfl
    · simp only [Bool.not_true, Bool.false_eq_true, if_false]
      rw [qrun_bind', e1, Option.bind_some, qrun_bind', e1, Option.bind_some, hg]
      rfl
    · simp only [Bool.not_true, Bool.false_eq_true, if_false]
      rw [qrun_bind', e1, Option.bind_some, qrun_bind', e1, Option.bind_some, hg]
      rfl
  have e : qrun P (Op.equal t (.agg xs.toArray) (.agg ys.toArray)) H = some r := equal_struct (d := Op.maxDepth - 2) hu hst h
  constructor
  · show qrun P (do eqGuard .eql t xo yo (.agg xs.toArray) (.agg ys.toArray); binOp .eql t (.agg xs.toArray) (.agg ys.toArray)) H = _
    rw [qrun_bind', g _ (.inl rfl), Option.bind_some]
    show qrun P (do pure (Value.bool (← Op.equal t (.agg xs.toArray) (.agg ys.toArray)))) H = _
    rw [qrun_bind', e]
    rfl
  · show qrun P (do eqGuard .neq t xo yo (.agg xs.toArray) (.agg ys.toArray); binOp .neq t (.agg xs.toArray) (.agg ys.toArray)) H = _
    rw [qrun_bind', g _ (.inr rfl), Option.bind_some]
    show qrun P (do pure (Value.bool (!(← Op.equal t (.agg xs.toArray) (.agg ys.toArray))))) H = _
    rw [qrun_bind', e]
    rfl

/-! The same, field by field. -/
variable {xs ys : List Value} {f : Field} {r : List Field} {q : Prop} [Decidable q]
theorem ba_beq {a b : ByteArray} : (a == b) = decide (a = b) := by
  cases a with
  | mk x =>
    cases b with
    | mk y =>
      show (x == y) = _
      by_cases h : x = y <;> simp [h]
theorem eqF_nil : eqFs P xs ys [] = some (decide True) := rfl
theorem eqF_int {k k' : IntKind} {a b : Int} (hn : f.name ≠ "_") (hu : P.underlying f.type = some (.int k)) (hx : xs[f.offset]? = some (.int k' a)) (hy : ys[f.offset]? = some (.int k' b)) (h : eqFs P xs ys r = some (decide q)) : eqFs P xs ys (f :: r) = some (decide (a = b ∧ q)) := by
  simp only [eqFs, if_neg hn, hx, hy, hu, Option.bind_some, eqD, if_true, h]
  by_cases e : a = b <;> simp [e]
theorem eqF_bool {a b : Bool} (hn : f.name ≠ "_") (hu : P.underlying f.type = some .bool) (hx : xs[f.offset]? = some (.bool a)) (hy : ys[f.offset]? = some (.bool b)) (h : eqFs P xs ys r = some (decide q)) : eqFs P xs ys (f :: r) = some (decide (a = b ∧ q)) := by
  simp only [eqFs, if_neg hn, hx, hy, hu, Option.bind_some, eqD, h]
  by_cases e : a = b <;> simp [e]
theorem eqF_str {a b : ByteArray} (hn : f.name ≠ "_") (hu : P.underlying f.type = some .string) (hx : xs[f.offset]? = some (.string a)) (hy : ys[f.offset]? = some (.string b)) (h : eqFs P xs ys r = some (decide q)) : eqFs P xs ys (f :: r) = some (decide (a = b ∧ q)) := by
  simp only [eqFs, if_neg hn, hx, hy, hu, Option.bind_some, eqD, h, ba_beq]
  by_cases e : a = b <;> simp [e]
omit [Decidable q]

/-! ### Maps from numbers to numbers -/
def entry (x : Value × Value) (e : MapEntry) : Prop := e.key = x.1 ∧ e.val = x.2
/-- The entries of a map, in the order in which they were put. -/
def MapR (H : Heap) (r : Nat) (kvs : List (Value × Value)) : Prop := ∃ es clock, H[r]? = some (.map es clock) ∧ es.toList.map (fun e => (e.key, e.val)) = kvs
theorem MapR.frame {H H' : Heap} {r : Nat} {kvs : List (Value × Value)} (h : MapR H r kvs) {F : List Nat} (hf : Fr F H H') (hr : r ∉ F) : MapR H' r kvs := by
  obtain ⟨es, c, h1, h2⟩ := h
  refine ⟨es, c, ?_, h2⟩
  have : r < H.size := by
    rcases Nat.lt_or_ge r H.size with h | h
    · exact h
    · rw [Array.getElem?_eq_none h] at h1; simp at h1
  rw [hf.same r this hr]; exact h1
theorem MapR.lt {H : Heap} {r : Nat} {kvs : List (Value × Value)} (h : MapR H r kvs) : r < H.size := by
  obtain ⟨es, c, h1, h2⟩ := h
  rcases Nat.lt_or_ge r H.size with h | h
  · exact h
  · rw [Array.getElem?_eq_none h] at h1; simp at h1
theorem MapR.ne {H : Heap} {r b : Nat} {t : TypeId} {vs : List Value} {kvs : List (Value × Value)} (h : MapR H r kvs) (hb : Blk H b t vs) : r ≠ b := by
  rintro rfl
  obtain ⟨es, c, h1, h2⟩ := h
  unfold Blk at hb
  rw [hb] at h1; simp at h1
theorem MapR.new {H : Heap} : MapR (H.push (.map #[] 0)) H.size [] := ⟨#[], 0, by simp, rfl⟩
theorem Fr.setObj {F : List Nat} {H : Heap} {r : Nat} {o : Obj} (h : r ∈ F) : Fr F H (H.setIfInBounds r o) :=
  ⟨by simp, fun b _ hF => by rw [Array.getElem?_setIfInBounds]; rw [if_neg (fun (e : r = b) => hF (e ▸ h))]⟩
def mget (kvs : List (Int × Int)) (k : Int) : Option Int := (kvs.find? fun x => x.1 == k).map (·.2)
abbrev ivp (x : Int × Int) : Value × Value := (.int .i64 x.1, .int .i64 x.2)
theorem findNow_ints {k : Int} : ∀ (es : List MapEntry) (kvs : List (Int × Int)) (i : Nat), es.map (fun e => (e.key, e.val)) = kvs.map ivp →
    ∃ o, Instr.findNow (.int .i64) (.int .i64 k) es i = some o ∧ o.map (·.2) = (mget kvs k).map (Value.int .i64) := by
  intro es
  induction es with
  | nil => intro kvs i h; cases kvs <;> simp at h; exact ⟨none, rfl, rfl⟩
  | cons e es ih =>
    intro kvs i h
    cases kvs with
    | nil => simp at h
    | cons x kvs =>
      simp only [List.map_cons, List.cons.injEq, Prod.mk.injEq] at h
      obtain ⟨⟨h1, h2⟩, h3⟩ := h
      simp only [Instr.findNow, h1, Instr.sameNow, if_true]
      by_cases hk : k = x.1
      · subst hk
        refine ⟨some (i, e.val), by simp, ?_⟩
        simp [mget, h2]
      · obtain ⟨o, ho, hm⟩ := ih kvs (i + 1) h3
        have e1 : (k == x.1) = false := by simp [hk]
        have e2 : (x.1 == k) = false := by simp [Ne.symm hk]
        refine ⟨o, by simp only [e1]; exact ho, ?_⟩
        rw [hm]
        simp [mget, e2]
theorem checkKey_int {k : TypeId} {n : Int} {b : Bool} (hk : P.underlying k = some (.int .i64)) : qrun P (Instr.checkKey b 10000 k (.int .i64 n)) H = some () := by
  unfold Instr.checkKey
  rw [qrun_bind', qrun_underlying hk]
  rfl
theorem qrun_getObj {r : Nat} {es : Array MapEntry} {c : Nat} (h : H[r]? = some (.map es c)) : qrun P (getObj r) H = some (.map es c) := by
  simp only [getObj, qrun, h]
theorem look_ints {t k e r : Nat} {z : Value} {kvs : List (Int × Int)} (ht : P.underlying t = some (.map k e)) (hk : P.underlying k = some (.int .i64)) (hz : zeroT P e = some z) (h : MapR H r (kvs.map ivp)) (n : Int) (ok : Bool) :
    qrun P (Instr.lookup t (.map (some r)) (.int .i64 n) ok) H = some (if ok then .tuple #[((mget kvs n).map (Value.int .i64)).getD z, .bool (mget kvs n).isSome] else ((mget kvs n).map (Value.int .i64)).getD z) := by
  obtain ⟨es, c, h1, h2⟩ := h
  obtain ⟨o, ho, hm⟩ := findNow_ints (k := n) es.toList kvs 0 h2
  have e2 : qrun P (Instr.findKey k (.int .i64 n) es.toList) H = some o := by
    unfold Instr.findKey
    rw [qrun_bind', qrun_underlying hk, Option.bind_some]
    simp only [ho]
    rfl
  unfold Instr.lookup
  rw [qrun_bind', qrun_underlying ht, Option.bind_some]
  simp only
  rw [qrun_bind', qrun_getObj h1, Option.bind_some]
  simp only
  rw [qrun_bind', show qrun P (pure es : Sem (Array MapEntry)) H = some es from rfl, Option.bind_some, qrun_bind', checkKey_int hk, Option.bind_some, qrun_bind', e2, Option.bind_some]
  cases hg : mget kvs n with
  | none =>
    rw [hg] at hm
    cases o with
    | none =>
      simp only
      rw [qrun_bind', qrun_zeroValue hz, Option.bind_some]
      cases ok <;> rfl
    | some p => simp at hm
  | some v =>
    rw [hg] at hm
    cases o with
    | none => simp at hm
    | some p =>
      simp at hm
      obtain ⟨i, w⟩ := p
      simp only at hm
      subst hm
      cases ok <;> rfl
theorem len_map {t k e r : Nat} {kvs : List (Value × Value)} (ht : P.underlying t = some (.map k e)) (h : MapR H r kvs) : lenV P (full H) t (.map (some r)) = some (.int .i64 kvs.length) := by
  obtain ⟨es, c, h1, h2⟩ := h
  show qrun P (Builtin.len_ #[t] 0 #[.map (some r)]) H = _
  unfold Builtin.len_
  simp only [List.getElem?_toArray, List.getElem?_cons_zero]
  rw [qrun_bind', qrun_underlying ht, Option.bind_some]
  simp only
  rw [qrun_bind']
  have : qrun P (getObj r) H = some (.map es c) := qrun_getObj h1
  rw [this, ← h2]
  simp [pure, qrun, goInt]
/-- A key that is not there yet. -/
theorem put_ints {t k e r : Nat} {kvs : List (Int × Int)} {n : Int} {x : Value} {K : Heap → Prop} {E : Value → Heap → Prop} (ht : P.underlying t = some (.map k e)) (hk : P.underlying k = some (.int .i64)) (h : MapR H r (kvs.map ivp)) (hn : mget kvs n = none)
    (hK : ∀ H', MapR H' r (kvs.map ivp ++ [(.int .i64 n, x)]) → Fr [r] H H' → K H') : @mapB P t (.map (some r)) (.int .i64 n) x ⟨H⟩ ⟨K⟩ ⟨E⟩ := by
  obtain ⟨es, c, h1, h2⟩ := h
  obtain ⟨o, ho, hm⟩ := findNow_ints (k := n) es.toList kvs 0 h2
  rw [hn] at hm
  show hwp P (Instr.mapUpdate t (.map (some r)) (.int .i64 n) x) H _ _
  unfold Instr.mapUpdate
  refine hwp_qbind (qrun_underlying ht H) ?_
  simp only
  have : qrun P (getObj r) H = some (.map es c) := qrun_getObj h1
  refine hwp_qbind this ?_
  simp only
  refine hwp_qbind (checkKey_int hk) ?_
  have e2 : qrun P (Instr.findKey k (.int .i64 n) es.toList) H = some o := by
    unfold Instr.findKey
    rw [qrun_bind', qrun_underlying hk, Option.bind_some]
    simp only [ho]
    rfl
  refine hwp_qbind e2 ?_
  cases o with
  | some p => simp at hm
  | none =>
    show hwp P (setObj r (.map (es.push { key := .int .i64 n, val := x, born := c }) (c + 1))) H _ _
    simp only [setObj, hwp, h1]
    refine hK _ ⟨es.push { key := .int .i64 n, val := x, born := c }, c + 1, ?_, by simp [h2]⟩ (Fr.setObj (by simp))
    have hl : r < H.size := by
      rcases Nat.lt_or_ge r H.size with h | h
      · exact h
      · rw [Array.getElem?_eq_none h] at h1; simp at h1
    rw [Array.getElem?_setIfInBounds]
    simp [hl]
end
end Go.HL

namespace Go.HL

abbrev Str := List UInt8
def bs (l : Str) : ByteArray := ⟨l.toArray⟩
abbrev sv (l : Str) : Value := .string (bs l)
@[go_sem] theorem mk_bs {l : Str} : (ByteArray.mk l.toArray) = bs l := (rfl)
theorem bs_size {l : Str} : (bs l).size = l.length := by simp [bs, ByteArray.size]
theorem bs_list {l : Str} : (bs l).toList = l := by unfold bs; simp
theorem bs_inj {a b : Str} : bs a = bs b ↔ a = b := by
  constructor
  · intro h; have := congrArg ByteArray.toList h; rwa [bs_list, bs_list] at this
  · rintro rfl; rfl
theorem bs_of (b : ByteArray) : ∃ l, b = bs l := ⟨b.data.toList, by cases b; simp [bs]⟩
theorem bs_append {a b : Str} : bs a ++ bs b = bs (a ++ b) := by
  apply ByteArray.ext
  simp [bs, ByteArray.data_append]
theorem bs_extract {l : Str} {i j : Nat} : (bs l).extract i j = bs ((l.take j).drop i) := by
  apply ByteArray.ext
  simp [bs, ByteArray.data_extract, List.drop_take]
/-- The i-th byte. -/
def bt8 (l : Str) (i : Nat) : UInt8 := l.getD i 0
theorem bt8_lt {l : Str} {i : Nat} (h : i < l.length) : l[i]? = some (bt8 l i) := by
  unfold bt8; rw [List.getD_eq_getElem?_getD, List.getElem?_eq_getElem h]; rfl
abbrev u8v (c : UInt8) : Value := .int .u8 (c.toNat : Int)
section
variable {P : Program} {V : HV} {t : TypeId} {xo yo : Operand} {a b : Str}
@[go_sem] theorem str_eql : binV P V .eql t xo yo (.string (bs a)) (.string (bs b)) = some (.bool (decide (a = b))) := by
  simp [binV, strBin, bs_list]; by_cases h : a = b <;> simp [h]
@[go_sem] theorem str_neq : binV P V .neq t xo yo (.string (bs a)) (.string (bs b)) = some (.bool (decide (¬ a = b))) := by
  simp [binV, strBin, bs_list]; by_cases h : a = b <;> simp [h]
@[go_sem] theorem str_add : binV P V .add t xo yo (.string (bs a)) (.string (bs b)) = chk (a.length + b.length ≤ 9223372036854775807) (some (.string (bs (a ++ b)))) := by
  have e : IntKind.i64.max = 9223372036854775807 := by decide
  simp only [binV, strBin, bs_size, bs_append, chk, e]
  by_cases h : a.length + b.length ≤ 9223372036854775807
  · rw [if_neg (by omega), if_pos h]
  · rw [if_pos (by omega), if_neg h]
theorem str_len (h : P.underlying t = some .string) : lenV P V t (.string (bs a)) = some (.int .i64 a.length) := by
  simp only [lenV, h, bs_size]
theorem str_index {k : IntKind} {n : Int} (h : P.underlying t = some .string) : indexV P t (.string (bs a)) (.int k n) = chk (0 ≤ n ∧ n < a.length) (some (u8v (bt8 a n.toNat))) := by
  simp only [indexV, h, bs_size]; rfl
theorem str_sub {k k' : IntKind} {x y : Int} (h : P.underlying t = some .string) : sliceV P t (.string (bs a)) (some (.int k x)) (some (.int k' y)) none =
    chk (0 ≤ y ∧ y ≤ a.length) (chk (0 ≤ x ∧ x ≤ y.toNat) (some (.string (bs ((a.take y.toNat).drop x.toNat))))) := by
  simp only [sliceV, h, boundsV, bs_size, chk]
  split
  · simp only [Option.bind_some]
    split <;> simp [bs_extract]
  · rfl
theorem str_lo {k : IntKind} {x : Int} (h : P.underlying t = some .string) : sliceV P t (.string (bs a)) (some (.int k x)) none none =
    chk (0 ≤ x ∧ x ≤ a.length) (some (.string (bs (a.drop x.toNat)))) := by
  simp only [sliceV, h, boundsV, bs_size, chk]
  simp only [Option.bind_some]
  split <;> simp [bs_extract]
theorem str_hi {k : IntKind} {y : Int} (h : P.underlying t = some .string) : sliceV P t (.string (bs a)) none (some (.int k y)) none =
    chk (0 ≤ y ∧ y ≤ a.length) (some (.string (bs (a.take y.toNat)))) := by
  simp only [sliceV, h, boundsV, bs_size, chk]
  split <;> simp [bs_extract]
end

/-! ### Lists that are only read: S is the set of the blocks that hold them -/
def Keeps (S : Nat → Prop) (H H' : Heap) : Prop := ∀ b, S b → b < H.size → H'[b]? = H[b]?
/-- v is a slice of elements of z cells each, these cells. -/
def Rd (H : Heap) (S : Nat → Prop) (z : Nat) (v : Value) (vs : List Value) : Prop :=
  ∃ a len cap, v = .slice a len cap ∧ vs.length = len * z ∧ ∀ (i : Nat) x, vs[i]? = some x → ∃ b o, a = some ⟨b, o, none⟩ ∧ S b ∧ cellH H ⟨b, o + i, none⟩ = some x
theorem Keeps.cell {S : Nat → Prop} {H H' : Heap} (h : Keeps S H H') {b o : Nat} {v : Value} (hb : S b) (hc : cellH H ⟨b, o, none⟩ = some v) : cellH H' ⟨b, o, none⟩ = some v := by
  have := cell_lt hc
  unfold cellH at hc ⊢; rw [h b hb this]; exact hc
theorem Keeps.of_fr {F : List Nat} {S : Nat → Prop} {H H' : Heap} (h : Fr F H H') (hd : ∀ b, S b → b ∉ F) : Keeps S H H' := fun b hb hl => h.same b hl (hd b hb)
theorem Keeps.refl {S : Nat → Prop} {H : Heap} : Keeps S H H := fun _ _ _ => rfl
section
variable {H H' : Heap} {S S' : Nat → Prop} {z : Nat} {v : Value} {vs : List Value}
theorem Rd.frame (h : Rd H S z v vs) (hk : Keeps S H H') : Rd H' S z v vs := by
  obtain ⟨a, len, cap, rfl, hl, hc⟩ := h
  refine ⟨a, len, cap, rfl, hl, fun i x hx => ?_⟩
  obtain ⟨b, o, e, hs, h⟩ := hc i x hx
  exact ⟨b, o, e, hs, hk.cell hs h⟩
theorem Rd.mono (h : Rd H S z v vs) (hs : ∀ b, S b → b < H.size → S' b) : Rd H S' z v vs := by
  obtain ⟨a, len, cap, rfl, hl, hc⟩ := h
  refine ⟨a, len, cap, rfl, hl, fun i x hx => ?_⟩
  obtain ⟨b, o, e, h1, h2⟩ := hc i x hx
  exact ⟨b, o, e, hs b h1 (cell_lt h2), h2⟩
theorem Rd.nil : Rd H S z (.slice none 0 0) [] := ⟨none, 0, 0, rfl, by simp, by simp⟩
theorem Rd.of_vec {e : Nat} (h : Vec H e z v vs) (hs : ∀ b ∈ own v, S b) : Rd H S z v vs := by
  obtain ⟨a, len, cap, rfl, hl⟩ := h.len
  refine ⟨a, len, cap, rfl, hl, fun i x hx => ?_⟩
  obtain ⟨hi, _⟩ := List.getElem?_eq_some_iff.1 hx
  obtain ⟨b, o, len', cap', e1, _, hc⟩ := h.cell (by intro e; rw [e] at hi; simp at hi)
  simp only [Value.slice.injEq] at e1
  obtain ⟨rfl, -, -⟩ := e1
  exact ⟨b, o, rfl, hs b (by simp [own]), by rw [hc i hi]; exact hx⟩
end
section
variable {P : Program} {H : Heap} {b t ty : Nat} {pre old rest new : List Value}
theorem store_at (hb : Blk H b t (pre ++ old ++ rest)) (hl : old.length = new.length) (hs : sizeT P ty = some new.length) (h1 : ∀ v ∈ new, oneC v = true) :
    ∃ H', storeA P H ty ⟨b, pre.length, none⟩ (.agg new.toArray) = some H' ∧ Blk H' b t (pre ++ new ++ rest) ∧ Fr [b] H H' := by
  obtain ⟨H', e1, e2, e3⟩ := wrs_blk new pre old rest H hb hl
  exact ⟨H', by rw [storeA_cells (vs := new) rfl h1, hs, Option.bind_some, chk, if_pos rfl]; exact e1, e2, e3⟩
theorem store_blk (hb : Blk H b t old) (hl : old.length = new.length) (hs : sizeT P ty = some new.length) (h1 : ∀ v ∈ new, oneC v = true) :
    ∃ H', storeA P H ty ⟨b, 0, none⟩ (.agg new.toArray) = some H' ∧ Blk H' b t new ∧ Fr [b] H H' := by
  have := store_at (P := P) (ty := ty) (pre := []) (old := old) (rest := []) (new := new) (by simpa using hb) hl hs h1
  simpa using this
@[go_sem] theorem full_fn : (full H).cells = cellH H := (rfl)
theorem Blk.cells (hb : Blk H b t (pre ++ new ++ rest)) : cellsH (cellH H) ⟨b, pre.length, none⟩ 0 new.length = some new := by
  refine cellsH_at new pre.length 0 ?_
  intro j hj
  rw [Nat.add_zero, hb.cell]
  rw [List.append_assoc, List.getElem?_append_right (by omega), List.getElem?_append_left (by omega)]
  simp [List.getElem?_eq_getElem hj]
theorem Blk.cells0 (hb : Blk H b t new) : cellsH (cellH H) ⟨b, 0, none⟩ 0 new.length = some new := Blk.cells (pre := []) (rest := []) (by simpa using hb)
end
theorem bsl_of {P : Program} {H : Heap} {t e s : Nat} {vs cs : List Value} {z : Value} (he : elemT P t = some e) (hs : sizeT P e = some s) (hz : zeroT P e = some z) (h1 : vs.length * s ≤ 16777216) (h2 : (vs.all fun v => v.cells.size == s) = true)
    (hc : vs.flatMap (·.cells.toList) = cs) : buildSliceV P H t vs.length (enumV vs) = some (.slice (some ⟨H.size, 0, none⟩) vs.length vs.length, H.push (.cells cs.toArray e)) := by
  refine bsl_sound ?_
  unfold bsl
  rw [he, Option.bind_some, hs, Option.bind_some, hz, Option.bind_some, chk, if_pos ⟨h1, h2⟩, hc]
theorem one_all {vs : List Value} (h : vs.all oneC = true) : ∀ v ∈ vs, oneC v = true := List.all_eq_true.1 h
@[go_sem] theorem cell_push {H : Heap} {l : List Value} {t i : Nat} : cellH (H.push (.cells l.toArray t)) ⟨H.size, i, none⟩ = l[i]? := (Blk.new rfl).cell i
theorem cell_old {H : Heap} {o : Obj} {b i : Nat} (h : b < H.size) : cellH (H.push o) ⟨b, i, none⟩ = cellH H ⟨b, i, none⟩ := (Fr.push (F := [])).cell h (by simp)
theorem Fr.nil {F : List Nat} {H H' : Heap} (h : Fr [] H H') : Fr F H H' := h.mono (by simp)
section
variable {α : Type} {f : α → List Value} {z : Nat}
theorem flat_len (hz : ∀ x, (f x).length = z) : ∀ l : List α, (l.flatMap f).length = l.length * z
  | [] => by simp
  | a :: l => by simp [hz, flat_len hz l, Nat.add_mul]; omega
theorem flat_get (hz : ∀ x, (f x).length = z) {j : Nat} (hj : j < z) : ∀ (l : List α) (i : Nat) x, l[i]? = some x → (l.flatMap f)[i * z + j]? = (f x)[j]?
  | [], i, x, h => by simp at h
  | a :: l, 0, x, h => by
    simp only [List.getElem?_cons_zero, Option.some.injEq] at h
    subst h
    rw [List.flatMap_cons, List.getElem?_append_left (by rw [hz]; omega)]
    congr 1; omega
  | a :: l, i + 1, x, h => by
    rw [List.flatMap_cons, List.getElem?_append_right (by rw [hz, Nat.add_mul]; omega)]
    have : (i + 1) * z + j - (f a).length = i * z + j := by rw [hz, Nat.add_mul]; omega
    rw [this]
    exact flat_get hz hj l i x (by simpa using h)
/-- A row of a list that is read. -/
theorem Rd.row {H : Heap} {S : Nat → Prop} {v : Value} {l : List α} (hz : ∀ x, (f x).length = z) (hp : 0 < z) (h : Rd H S z v (l.flatMap f)) {i : Nat} {x : α} (hx : l[i]? = some x) :
    ∃ b o cap, v = .slice (some ⟨b, o, none⟩) l.length cap ∧ S b ∧ cellsH (cellH H) ⟨b, o + i * z, none⟩ 0 z = some (f x) ∧ ∀ j y, (f x)[j]? = some y → cellH H ⟨b, o + i * z + j, none⟩ = some y := by
  obtain ⟨a, len, cap, rfl, hl, hc⟩ := h
  rw [flat_len hz] at hl
  have : l.length = len := Nat.eq_of_mul_eq_mul_right hp hl
  subst this
  have h0 : (l.flatMap f)[i * z + 0]? = some ((f x)[0]'(by rw [hz]; exact hp)) := by rw [flat_get hz hp l i x hx]; simp
  obtain ⟨b, o, rfl, hs, _⟩ := hc _ _ h0
  have hall : ∀ j y, (f x)[j]? = some y → cellH H ⟨b, o + i * z + j, none⟩ = some y := by
    intro j y hy
    have hj : j < z := by have := (List.getElem?_eq_some_iff.1 hy).1; rwa [hz] at this
    obtain ⟨b', o', e, _, h3⟩ := hc (i * z + j) y (by rw [flat_get hz hj l i x hx]; exact hy)
    simp only [Option.some.injEq, Addr.mk.injEq, and_true] at e
    obtain ⟨rfl, rfl⟩ := e
    rw [Nat.add_assoc]; exact h3
  refine ⟨b, o, cap, rfl, hs, ?_, hall⟩
  have := cellsH_at (c := cellH H) (b := b) (f x) (o + i * z) 0 (by intro j hj; exact hall j _ (by simp))
  rwa [hz] at this
theorem Rd.len {H : Heap} {S : Nat → Prop} {v : Value} {l : List α} (hz : ∀ x, (f x).length = z) (hp : 0 < z) (h : Rd H S z v (l.flatMap f)) : ∃ a cap, v = .slice a l.length cap := by
  obtain ⟨a, len, cap, rfl, hl, hc⟩ := h
  rw [flat_len hz] at hl
  have : l.length = len := Nat.eq_of_mul_eq_mul_right hp hl
  subst this
  exact ⟨a, cap, rfl⟩
end
section
variable {P : Program} {t f off : Nat} {l : List Value}
@[go_sem] theorem fieldV_agg : fieldV P t (.agg l.toArray) f = (fieldT P t f).bind fun x => partV P x.2 l.toArray x.1 := (rfl)
@[go_sem] theorem partV_l : partV P t l.toArray off = match aggN P t with
  | some none => l[off]?
  | some (some n) => some (.agg ((l.drop off).take n).toArray)
  | none => none := by
  unfold partV
  cases aggN P t with
  | none => rfl
  | some o =>
    cases o with
    | none => simp
    | some n => simp
@[go_sem] theorem ltake_zero : l.take 0 = [] := List.take_zero
@[go_sem] theorem ltake_succ {a : Value} {n : Nat} : (a :: l).take (n + 1) = a :: l.take n := (rfl)
@[go_sem] theorem ldrop_zero : l.drop 0 = l := (rfl)
@[go_sem] theorem ldrop_succ {a : Value} {n : Nat} : (a :: l).drop (n + 1) = l.drop n := (rfl)
end
@[go_sem] theorem newPtr_eq {H : Heap} : newPtr H = .pointer (some ⟨H.size, 0, none⟩) := (rfl)
/-- A goal that is not looked into. -/
structure Hush (p : Prop) : Prop where
  out : p
end Go.HL

