/- The rules by which simp works out a verification condition. -/
import Derived.Test.YtofooamimiijlaaGreatL02
namespace Go.HL

/-! ### Boxes: what stands in square brackets is not looked into by simp -/
def stop [p : Inhabited Prop] : Prop := p.default
theorem fin {p : Prop} (h : p) : @stop ⟨p⟩ := h
theorem stop_eq {p : Prop} : @stop ⟨p⟩ = p := rfl
def both2 [p : Inhabited Prop] [q : Inhabited Prop] : Prop := p.default ∧ q.default
theorem both_of {p q : Prop} (h : p) (h' : q) : @both2 ⟨p⟩ ⟨q⟩ := ⟨h, h'⟩
def withB (v : Value) [k : Inhabited (Value → Prop)] : Prop := k.default v
def withA (v : Array Value) [k : Inhabited (Array Value → Prop)] : Prop := k.default v
def someB {α : Type} (o : Option α) [k : Inhabited (α → Prop)] : Prop := someW o k.default
def ptrB (v : Value) [k : Inhabited (Addr → Prop)] : Prop := ptrW v k.default
def condB (v : Value) [p : Inhabited Prop] [q : Inhabited Prop] : Prop := condW v p.default q.default
def guardB (v : Value) (b : Bool) [p : Inhabited Prop] [q : Inhabited Prop] : Prop := guardW v b p.default q.default
def appB (P : Program) (t xt : TypeId) (s x : Value) [H : Inhabited Heap] [k : Inhabited (Value → Heap → Prop)] : Prop := appW P H.default t xt s x k.default
def usdB (P : Program) (t ty : TypeId) (x : Value) [H : Inhabited Heap] [k : Inhabited (Value → Heap → Prop)] : Prop := hwp P (Builtin.unsafeSliceData_ #[t] ty #[x]) H.default k.default (fun _ _ => False)
def clrB (P : Program) (t ty : TypeId) (x : Value) [H : Inhabited Heap] [k : Inhabited (Value → Heap → Prop)] : Prop := hwp P (Builtin.clear_ #[t] ty #[x]) H.default k.default (fun _ _ => False)
def ustB (P : Program) (t t' ty : TypeId) (x y : Value) [H : Inhabited Heap] [k : Inhabited (Value → Heap → Prop)] : Prop := hwp P (Builtin.unsafeString_ #[t, t'] ty #[x, y]) H.default k.default (fun _ _ => False)
def callB (P : Program) (f : Value) (args : List Value) [H : Inhabited Heap] [R : Inhabited (Value → Heap → Prop)] [E : Inhabited (List PanicEntry → Heap → Prop)] : Prop := callV P f args H.default R.default E.default
def mapB (P : Program) (t : TypeId) (m k x : Value) [H : Inhabited Heap] [K : Inhabited (Heap → Prop)] [E : Inhabited (Value → Heap → Prop)] : Prop := mapW P H.default t m k x K.default E.default
def CallB (P : Program) (f : FuncId) (args : List Value) [H : Inhabited Heap] [R : Inhabited (Value → Heap → Prop)] [E : Inhabited (List PanicEntry → Heap → Prop)] : Prop := CallF P f args H.default R.default E.default

section
variable {n : Nat} {P : Program} {Q : Exit → En → Heap → Prop} {K : En → Heap → Prop} {ρ : En} {H : Heap}

@[go_sem ↓] theorem cw_skip : cw n P .skip Q ρ H = Q .normal ρ H := (rfl)
@[go_sem ↓] theorem cw_region {id : Nat} {l : List Oper} : cw n P (.region id l.toArray false) Q ρ H = opsWp n P l.toArray Q l ρ H := (rfl)
@[go_sem ↓] theorem cw_draw {id : Nat} {l : Array Oper} : cw n P (.region id l true) Q ρ H = @stop ⟨CW n P (.region id l true) Q ρ H⟩ := (rfl)
@[go_sem ↓] theorem cw_seq {x y : Code} : cw n P (.seq x y) Q ρ H = cw n P x (seqQ (cw n P y Q) Q) ρ H := (rfl)
@[go_sem ↓] theorem cw_cond {c : Operand} {x y : Code} : cw n P (.cond c x y) Q ρ H = @condB (ρ.ev c) ⟨cw n P x Q ρ H⟩ ⟨cw n P y Q ρ H⟩ := (rfl)
theorem cw_block {id : Nat} {c : Code} : cw n P (.block id c) Q ρ H = cw n P c (blkQ id Q) ρ H := (rfl)
@[go_sem ↓] theorem cw_exit {id : Nat} : cw n P (.exit id) Q ρ H = Q (.exit id) ρ H := (rfl)
@[go_sem ↓] theorem cw_ret : cw n P .ret Q ρ H = Q .ret ρ H := (rfl)
@[go_sem ↓] theorem cw_label {l : Nat} : cw n P (.label l) Q ρ H = Q .normal ρ H := (rfl)
@[go_sem ↓] theorem cw_loop' {c : Code} : cw n P (.loop c) Q ρ H = @stop ⟨CW n P (.loop c) Q ρ H⟩ := (rfl)
@[go_sem ↓] theorem seqQ_normal : seqQ K Q .normal ρ H = K ρ H := (rfl)
@[go_sem ↓] theorem seqQ_ret : seqQ K Q .ret ρ H = Q .ret ρ H := (rfl)
@[go_sem ↓] theorem seqQ_exit {i : Nat} : seqQ K Q (.exit i) ρ H = Q (.exit i) ρ H := (rfl)
@[go_sem ↓] theorem seqQ_panic {c : List PanicEntry} : seqQ K Q (.panic c) ρ H = Q (.panic c) ρ H := (rfl)
@[go_sem ↓] theorem blkQ_normal {id : Nat} : blkQ id Q .normal ρ H = Q .normal ρ H := (rfl)
@[go_sem ↓] theorem blkQ_ret {id : Nat} : blkQ id Q .ret ρ H = Q .ret ρ H := (rfl)
@[go_sem ↓] theorem blkQ_panic {id : Nat} {c : List PanicEntry} : blkQ id Q (.panic c) ρ H = Q (.panic c) ρ H := (rfl)
@[go_sem ↓] theorem blkQ_same {id : Nat} : blkQ id Q (.exit id) ρ H = Q .normal ρ H := if_pos rfl
theorem blkQ_other {id i : Nat} (h : i ≠ id) : blkQ id Q (.exit i) ρ H = Q (.exit i) ρ H := if_neg h
@[go_sem ↓] theorem blkQ_exit {id i : Nat} : blkQ id Q (.exit i) ρ H = if i = id then Q .normal ρ H else Q (.exit i) ρ H := (rfl)
@[go_sem ↓] theorem opsWp_nil {ops : Array Oper} : opsWp n P ops Q [] ρ H = Q .normal ρ H := (rfl)
@[go_sem ↓] theorem opsWp_cons {ops : Array Oper} {o : Oper} {l : List Oper} : opsWp n P ops Q (o :: l) ρ H = opG n P ops o ρ H (opsWp n P ops Q l) Q := (rfl)

variable {ops : Array Oper} {dst : Option Nat} {op : Op} {ty : TypeId} {pos : String} {after : Array Edge} {g : Option (Nat × Bool)}
@[go_sem ↓] theorem opG_none : opG n P ops ⟨dst, op, ty, pos, after, none⟩ ρ H K Q = opV n P ⟨dst, op, ty, pos, after, none⟩ ρ H K Q := (rfl)
@[go_sem ↓] theorem opG_some {j : Nat} {want : Bool} : opG n P ops ⟨dst, op, ty, pos, after, some (j, want)⟩ ρ H K Q =
    @guardB (slotOf ops ρ j) want ⟨opV n P ⟨dst, op, ty, pos, after, some (j, want)⟩ ρ H K Q⟩ ⟨K (ρ.put n dst undef) H⟩ := (rfl)
def slotL : List Oper → En → Nat → Value
  | [], _, _ => undef
  | o :: _, ρ, 0 => match o.dst with
    | some d => ρ.get d
    | none => undef
  | _ :: l, ρ, j + 1 => slotL l ρ j
@[go_sem] theorem slotOf_lit {l : List Oper} {j : Nat} : slotOf l.toArray ρ j = slotL l ρ j := by
  unfold slotOf
  simp only [List.getElem?_toArray]
  induction l generalizing j with
  | nil => rfl
  | cons o l ih =>
    cases j with
    | zero => rfl
    | succ j => exact ih
@[go_sem ↓] theorem slotL_zero {l : List Oper} {d : Nat} : slotL (⟨some d, op, ty, pos, after, g⟩ :: l) ρ 0 = ρ.get d := (rfl)
@[go_sem ↓] theorem slotL_succ {o : Oper} {l : List Oper} {j : Nat} : slotL (o :: l) ρ (j + 1) = slotL l ρ j := (rfl)
@[go_sem] theorem guardB_tt {p q : Prop} : @guardB (.bool true) true ⟨p⟩ ⟨q⟩ = p := by simp [guardB, guardW]
@[go_sem] theorem guardB_tf {p q : Prop} : @guardB (.bool true) false ⟨p⟩ ⟨q⟩ = q := by simp [guardB, guardW]
@[go_sem] theorem guardB_ft {p q : Prop} : @guardB (.bool false) true ⟨p⟩ ⟨q⟩ = q := by simp [guardB, guardW]
@[go_sem] theorem guardB_ff {p q : Prop} : @guardB (.bool false) false ⟨p⟩ ⟨q⟩ = p := by simp [guardB, guardW]
@[go_sem] theorem guardB_undef {b : Bool} {p q : Prop} : @guardB undef b ⟨p⟩ ⟨q⟩ = q := (rfl)
@[go_sem] theorem condB_t {p q : Prop} : @condB (.bool true) ⟨p⟩ ⟨q⟩ = p := by simp [condB, condW]
@[go_sem] theorem condB_f {p q : Prop} : @condB (.bool false) ⟨p⟩ ⟨q⟩ = q := by simp [condB, condW]
@[go_sem] theorem cond_pos {c p q : Prop} [Decidable c] (h : c) : @condB (.bool (decide c)) ⟨p⟩ ⟨q⟩ = p := by simp [condB, condW, h]
@[go_sem] theorem cond_neg {c p q : Prop} [Decidable c] (h : ¬ c) : @condB (.bool (decide c)) ⟨p⟩ ⟨q⟩ = q := by simp [condB, condW, h]
theorem cond_dec {c p q : Prop} [Decidable c] (h : c → p) (h' : ¬ c → q) : @condB (.bool (decide c)) ⟨p⟩ ⟨q⟩ := ⟨fun e => h (by simpa using e), fun e => h' (by simpa using e)⟩
theorem cond_b {b : Bool} {p q : Prop} (h : b = true → p) (h' : b = false → q) : @condB (.bool b) ⟨p⟩ ⟨q⟩ := ⟨h, h'⟩
@[go_sem] theorem guard_pos {c p q : Prop} [Decidable c] (h : c) {b : Bool} : @guardB (.bool (decide c)) b ⟨p⟩ ⟨q⟩ = @guardB (.bool true) b ⟨p⟩ ⟨q⟩ := by simp [h]
@[go_sem] theorem guard_neg {c p q : Prop} [Decidable c] (h : ¬ c) {b : Bool} : @guardB (.bool (decide c)) b ⟨p⟩ ⟨q⟩ = @guardB (.bool false) b ⟨p⟩ ⟨q⟩ := by simp [h]
theorem guard_dec {c p q : Prop} [Decidable c] {b : Bool} (h : c → @guardB (.bool true) b ⟨p⟩ ⟨q⟩) (h' : ¬ c → @guardB (.bool false) b ⟨p⟩ ⟨q⟩) : @guardB (.bool (decide c)) b ⟨p⟩ ⟨q⟩ := by
  by_cases hc : c
  · rw [guard_pos hc]; exact h hc
  · rw [guard_neg hc]; exact h' hc
theorem guard_b {c : Bool} {p q : Prop} {b : Bool} (h : c = true → @guardB (.bool true) b ⟨p⟩ ⟨q⟩) (h' : c = false → @guardB (.bool false) b ⟨p⟩ ⟨q⟩) : @guardB (.bool c) b ⟨p⟩ ⟨q⟩ := by
  cases c
  · exact h' rfl
  · exact h rfl

@[go_sem] theorem withB_eq {v : Value} {k : Value → Prop} : @withB v ⟨k⟩ = k v := (rfl)
@[go_sem] theorem someB_some {α : Type} {a : α} {k : α → Prop} : @someB _ (some a) ⟨k⟩ = k a := (rfl)
@[go_sem] theorem ptrB_mk {a : Addr} {k : Addr → Prop} : @ptrB (.pointer (some a)) ⟨k⟩ = k a := (rfl)
theorem some_of {α : Type} {o : Option α} {a : α} {k : α → Prop} (h : o = some a) (hk : k a) : @someB _ o ⟨k⟩ := by subst h; exact hk

@[go_sem ↓] theorem opV_move {x : Operand} : opV n P ⟨dst, .move x, ty, pos, after, g⟩ ρ H K Q = @withB (ρ.ev x) ⟨fun v => K (ρ.put n dst v) H⟩ := (rfl)
@[go_sem ↓] theorem opV_assign {x : Operand} : opV n P ⟨dst, .assign x, ty, pos, after, g⟩ ρ H K Q = @withB (ρ.ev x) ⟨fun v => K (ρ.put n dst v) H⟩ := (rfl)
@[go_sem ↓] theorem opV_pick {c a b : Operand} : opV n P ⟨dst, .pick c a b, ty, pos, after, g⟩ ρ H K Q = @someB _ (pickV (ρ.ev c) (ρ.ev a) (ρ.ev b)) ⟨fun v => K (ρ.put n dst v) H⟩ := (rfl)
@[go_sem ↓] theorem opV_load {t : TypeId} {a : Operand} : opV n P ⟨dst, .load t a, ty, pos, after, g⟩ ρ H K Q = @someB _ (loadQ P (full H) t (ρ.ev a)) ⟨fun v => K (ρ.put n dst v) H⟩ := (rfl)
@[go_sem ↓] theorem opV_store {t : TypeId} {a x : Operand} : opV n P ⟨dst, .store t a x, ty, pos, after, g⟩ ρ H K Q = @ptrB (ρ.ev a) ⟨fun ad => @withB (ρ.ev x) ⟨fun v => @someB _ (storeA P H t ad v) ⟨fun H' => K (ρ.put n dst undef) H'⟩⟩⟩ := (rfl)
@[go_sem ↓] theorem opV_nilCheck {x : Operand} : opV n P ⟨dst, .nilCheck x, ty, pos, after, g⟩ ρ H K Q = @someB _ (nilV (ρ.ev x)) ⟨fun v => K (ρ.put n dst v) H⟩ := (rfl)
@[go_sem ↓] theorem opV_binOp {b : BinOp} {t t' : TypeId} {x y : Operand} : opV n P ⟨dst, .binOp b t x y t', ty, pos, after, g⟩ ρ H K Q = @someB _ (binV P (full H) b t x y (ρ.ev x) (ρ.ev y)) ⟨fun v => K (ρ.put n dst v) H⟩ := (rfl)
@[go_sem ↓] theorem opV_unOp {u : UnOp} {t : TypeId} {x : Operand} : opV n P ⟨dst, .unOp u t x, ty, pos, after, g⟩ ρ H K Q = @someB _ (unV u (ρ.ev x)) ⟨fun v => K (ρ.put n dst v) H⟩ := (rfl)
@[go_sem ↓] theorem opV_convert {s d : TypeId} {x : Operand} : opV n P ⟨dst, .convert s d x, ty, pos, after, g⟩ ρ H K Q = @someB _ (convV P (full H) s d (ρ.ev x)) ⟨fun v => K (ρ.put n dst v) H⟩ := (rfl)
@[go_sem ↓] theorem opV_makeInterface {t : TypeId} {x : Operand} : opV n P ⟨dst, .makeInterface t x, ty, pos, after, g⟩ ρ H K Q = @someB _ (ifaceV P t (ρ.ev x)) ⟨fun v => K (ρ.put n dst v) H⟩ := (rfl)
@[go_sem ↓] theorem opV_makeFunc {fn : Fn} {a b : List Operand} : opV n P ⟨dst, .makeFunc fn a.toArray b.toArray, ty, pos, after, g⟩ ρ H K Q = @someB _ (some (.func fn (a.map ρ.ev).toArray (b.map ρ.ev).toArray)) ⟨fun v => K (ρ.put n dst v) H⟩ := (rfl)
@[go_sem ↓] theorem opV_slice {t : TypeId} {x : Operand} {a b c : Option Operand} : opV n P ⟨dst, .slice t x a b c, ty, pos, after, g⟩ ρ H K Q = @someB _ (sliceV P t (ρ.ev x) (optMap ρ.ev a) (optMap ρ.ev b) (optMap ρ.ev c)) ⟨fun v => K (ρ.put n dst v) H⟩ := (rfl)
@[go_sem ↓] theorem opV_fieldAddr {s : TypeId} {x : Operand} {f : Nat} : opV n P ⟨dst, .fieldAddr s x f, ty, pos, after, g⟩ ρ H K Q = @someB _ (fieldAV P s (ρ.ev x) f) ⟨fun v => K (ρ.put n dst v) H⟩ := (rfl)
@[go_sem ↓] theorem opV_field {s : TypeId} {x : Operand} {f : Nat} : opV n P ⟨dst, .field s x f, ty, pos, after, g⟩ ρ H K Q = @someB _ (fieldV P s (ρ.ev x) f) ⟨fun v => K (ρ.put n dst v) H⟩ := (rfl)
@[go_sem ↓] theorem opV_indexAddr {s : TypeId} {x i : Operand} : opV n P ⟨dst, .indexAddr s x i, ty, pos, after, g⟩ ρ H K Q = @someB _ (indexAV P s (ρ.ev x) (ρ.ev i)) ⟨fun v => K (ρ.put n dst v) H⟩ := (rfl)
@[go_sem ↓] theorem opV_index {s : TypeId} {x i : Operand} : opV n P ⟨dst, .index s x i, ty, pos, after, g⟩ ρ H K Q = @someB _ (indexV P s (ρ.ev x) (ρ.ev i)) ⟨fun v => K (ρ.put n dst v) H⟩ := (rfl)
@[go_sem ↓] theorem opV_lookup {s : TypeId} {x i : Operand} {ok : Bool} : opV n P ⟨dst, .lookup s x i ok, ty, pos, after, g⟩ ρ H K Q = @someB _ (qrunV P (Instr.lookup s (ρ.ev x) (ρ.ev i) ok) (full H)) ⟨fun v => K (ρ.put n dst v) H⟩ := (rfl)
@[go_sem ↓] theorem opV_typeAssert {s t : TypeId} {x : Operand} {ok : Bool} : opV n P ⟨dst, .typeAssert x s t ok, ty, pos, after, g⟩ ρ H K Q = @someB _ (qrunV P (Instr.typeAssert (ρ.ev x) s t ok) (full H)) ⟨fun v => K (ρ.put n dst v) H⟩ := (rfl)
@[go_sem ↓] theorem opV_extract {x : Operand} {i : Nat} : opV n P ⟨dst, .extract x i, ty, pos, after, g⟩ ρ H K Q = @someB _ (extrV (ρ.ev x) i) ⟨fun v => K (ρ.put n dst v) H⟩ := (rfl)
@[go_sem ↓] theorem opV_build {t : TypeId} {l : List (Nat × Operand)} : opV n P ⟨dst, .build t l.toArray, ty, pos, after, g⟩ ρ H K Q = @someB _ (buildV P t (l.map fun p => (p.1, ρ.ev p.2))) ⟨fun v => K (ρ.put n dst v) H⟩ := (rfl)
@[go_sem ↓] theorem opV_alloc {t : TypeId} : opV n P ⟨dst, .alloc t, ty, pos, after, g⟩ ρ H K Q = @someB _ (zeroT P t) ⟨fun z => @withA z.cells ⟨fun cs => K (ρ.put n dst (newPtr H)) (H.push (.cells cs t))⟩⟩ := (rfl)
@[go_sem ↓] theorem opV_box {t : TypeId} {x : Operand} : opV n P ⟨dst, .box t x, ty, pos, after, g⟩ ρ H K Q = @withB (ρ.ev x) ⟨fun v => @withA v.cells ⟨fun cs => K (ρ.put n dst (newPtr H)) (H.push (.cells cs t))⟩⟩ := (rfl)
@[go_sem] theorem withA_l {l : List Value} {k : Array Value → Prop} : @withA l.toArray ⟨k⟩ = k l.toArray := (rfl)
@[go_sem ↓] theorem opV_makeSlice {t : TypeId} {x y : Operand} : opV n P ⟨dst, .makeSlice t x y, ty, pos, after, g⟩ ρ H K Q = @someB _ (makeV P H t (ρ.ev x) (ρ.ev y)) ⟨fun r => K (ρ.put n dst r.1) r.2⟩ := (rfl)
@[go_sem ↓] theorem opV_buildSlice {t : TypeId} {k : Nat} {l : List (Nat × Operand)} : opV n P ⟨dst, .buildSlice t k l.toArray, ty, pos, after, g⟩ ρ H K Q = @someB _ (buildSliceV P H t k (l.map fun p => (p.1, ρ.ev p.2))) ⟨fun r => K (ρ.put n dst r.1) r.2⟩ := (rfl)
@[go_sem ↓] theorem opV_makeMap {t : TypeId} : opV n P ⟨dst, .makeMap t none, ty, pos, after, g⟩ ρ H K Q = K (ρ.put n dst (.map (some H.size))) (H.push (.map #[] 0)) := (rfl)
@[go_sem ↓] theorem opV_mapUpdate {t : TypeId} {x y z : Operand} : opV n P ⟨dst, .mapUpdate t x y z, ty, pos, after, g⟩ ρ H K Q = @withB (ρ.ev x) ⟨fun m => @withB (ρ.ev y) ⟨fun k => @withB (ρ.ev z) ⟨fun u => @mapB P t m k u ⟨H⟩ ⟨fun H' => K (ρ.put n dst undef) H'⟩ ⟨fun v H' => Q (.panic [{ v, recovered := false }]) ρ H'⟩⟩⟩⟩ := (rfl)
@[go_sem ↓] theorem opV_insert {t : TypeId} {x y z : Operand} : opV n P ⟨dst, .insert t x y z, ty, pos, after, g⟩ ρ H K Q = @withB (ρ.ev x) ⟨fun m => @withB (ρ.ev y) ⟨fun k => @withB (ρ.ev z) ⟨fun u => @mapB P t m k u ⟨H⟩ ⟨fun H' => K (ρ.put n dst undef) H'⟩ ⟨fun v H' => Q (.panic [{ v, recovered := false }]) ρ H'⟩⟩⟩⟩ := (rfl)
@[go_sem ↓] theorem opV_usd {t : TypeId} {x : Operand} : opV n P ⟨dst, .call ⟨.builtin .unsafeSliceData, #[x], #[t]⟩, ty, pos, after, g⟩ ρ H K Q = @usdB P t ty (ρ.ev x) ⟨H⟩ ⟨fun v H' => K (ρ.put n dst v) H'⟩ := (rfl)
@[go_sem ↓] theorem opV_clr {t : TypeId} {x : Operand} : opV n P ⟨dst, .call ⟨.builtin .clear, #[x], #[t]⟩, ty, pos, after, g⟩ ρ H K Q = @clrB P t ty (ρ.ev x) ⟨H⟩ ⟨fun v H' => K (ρ.put n dst v) H'⟩ := (rfl)
@[go_sem ↓] theorem opV_ust {t t' : TypeId} {x y : Operand} : opV n P ⟨dst, .call ⟨.builtin .unsafeString, #[x, y], #[t, t']⟩, ty, pos, after, g⟩ ρ H K Q = @ustB P t t' ty (ρ.ev x) (ρ.ev y) ⟨H⟩ ⟨fun v H' => K (ρ.put n dst v) H'⟩ := (rfl)
@[go_sem ↓] theorem opV_append {t t' : TypeId} {x y : Operand} : opV n P ⟨dst, .call ⟨.builtin .append, #[x, y], #[t, t']⟩, ty, pos, after, g⟩ ρ H K Q = @withB (ρ.ev x) ⟨fun s => @withB (ρ.ev y) ⟨fun x => @appB P t t' s x ⟨H⟩ ⟨fun v H' => K (ρ.put n dst v) H'⟩⟩⟩ := (rfl)
@[go_sem ↓] theorem opV_len {t : TypeId} {x : Operand} : opV n P ⟨dst, .call ⟨.builtin .len, #[x], #[t]⟩, ty, pos, after, g⟩ ρ H K Q = @someB _ (lenV P (full H) t (ρ.ev x)) ⟨fun v => K (ρ.put n dst v) H⟩ := (rfl)
@[go_sem ↓] theorem opV_max {ts : Array TypeId} {x y : Operand} : opV n P ⟨dst, .call ⟨.builtin .max, #[x, y], ts⟩, ty, pos, after, g⟩ ρ H K Q = @someB _ (max2V (ρ.ev x) (ρ.ev y)) ⟨fun v => K (ρ.put n dst v) H⟩ := (rfl)
@[go_sem ↓] theorem opV_min {ts : Array TypeId} {x y : Operand} : opV n P ⟨dst, .call ⟨.builtin .min, #[x, y], ts⟩, ty, pos, after, g⟩ ρ H K Q = @someB _ (min2V (ρ.ev x) (ρ.ev y)) ⟨fun v => K (ρ.put n dst v) H⟩ := (rfl)
@[go_sem ↓] theorem opV_call {f : Operand} {l : List Operand} {ts : Array TypeId} : opV n P ⟨dst, .call ⟨.value f, l.toArray, ts⟩, ty, pos, after, g⟩ ρ H K Q = @callB P (ρ.ev f) (l.map ρ.ev) ⟨H⟩ ⟨fun v H' => K (ρ.put n dst v) H'⟩ ⟨fun c H' => Q (.panic c) ρ H'⟩ := (rfl)
def invB (P : Program) (x : Value) (m : String) (args : List Value) [H : Inhabited Heap] [R : Inhabited (Value → Heap → Prop)] [E : Inhabited (List PanicEntry → Heap → Prop)] : Prop := invW P x m args H.default R.default E.default
def panB (v : Value) [k : Inhabited (Value → Prop)] : Prop := panW v k.default
@[go_sem ↓] theorem opV_inv {r : Operand} {m : String} {l : List Operand} {ts : Array TypeId} : opV n P ⟨dst, .call ⟨.invoke r m, l.toArray, ts⟩, ty, pos, after, g⟩ ρ H K Q = @invB P (ρ.ev r) m (l.map ρ.ev) ⟨H⟩ ⟨fun v H' => K (ρ.put n dst v) H'⟩ ⟨fun c H' => Q (.panic c) ρ H'⟩ := (rfl)
@[go_sem ↓] theorem opV_panic {x : Operand} : opV n P ⟨dst, .panic x, ty, pos, after, g⟩ ρ H K Q = @panB (ρ.ev x) ⟨fun v => Q (.panic [{ v, recovered := false }]) ρ H⟩ := (rfl)
@[go_sem] theorem panB_iface {t : TypeId} {u : Value} {k : Value → Prop} : @panB (.iface t u) ⟨k⟩ = k (.iface t u) := (rfl)
@[go_sem] theorem callB_func {f : FuncId} {a b : List Value} {l : List Value} {R : Value → Heap → Prop} {E : List PanicEntry → Heap → Prop} :
    @callB P (.func (.func f) a.toArray b.toArray) l ⟨H⟩ ⟨R⟩ ⟨E⟩ = @CallB P f (a ++ l ++ b) ⟨H⟩ ⟨R⟩ ⟨E⟩ := (rfl)
end

section
variable {ρ : En}
@[go_sem] theorem ev_tmp {t : Nat} : ρ.ev (.tmp t) = ρ.get t := (rfl)
@[go_sem] theorem ev_const {v : Value} : ρ.ev (.const v) = v := (rfl)
@[go_sem] theorem ev_global {g : Nat} : ρ.ev (.global g) = .pointer (some ⟨g, 0, none⟩) := (rfl)
@[go_sem] theorem ev_func {f : FuncId} : ρ.ev (.func f) = .func (.func f) #[] #[] := (rfl)
def selB (b : Bool) (t : Nat) [v : Inhabited Value] [ρ : Inhabited En] : Value := bif b then v.default else ρ.default.get t
@[go_sem] theorem selB_t {v : Value} {t : Nat} : @selB true t ⟨v⟩ ⟨ρ⟩ = v := (rfl)
@[go_sem] theorem selB_f {v : Value} {t : Nat} : @selB false t ⟨v⟩ ⟨ρ⟩ = ρ.get t := (rfl)
@[go_sem ↓] theorem get_put {n d t : Nat} {v : Value} : (En.put n ρ (some d) v).get t = @selB (t == d && decide (d < n)) t ⟨v⟩ ⟨ρ⟩ := by
  simp only [En.put, selB]
  by_cases h : t = d <;> by_cases h' : d < n <;> simp [h, h']
  rw [beq_eq_false_iff_ne.2 h]; rfl
@[go_sem ↓] theorem put_none {n : Nat} {v : Value} : En.put n ρ none v = ρ := (rfl)
@[go_sem] theorem ds_put {n : Nat} {d : Option Nat} {v : Value} : (En.put n ρ d v).ds = ρ.ds := by cases d <;> rfl
@[go_sem] theorem args_zero {a : Value} {l : List Value} : (enArgs (a :: l).toArray).get 0 = a := (rfl)
@[go_sem] theorem args_succ {a : Value} {l : List Value} {t : Nat} : (enArgs (a :: l).toArray).get (t + 1) = (enArgs l.toArray).get t := by
  simp [enArgs]
@[go_sem] theorem args_nil {t : Nat} : (enArgs #[]).get t = undef := (rfl)
@[go_sem] theorem args_ds {a : Array Value} : (enArgs a).ds = [] := (rfl)
attribute [go_sem] cond_true cond_false Bool.true_and Bool.false_and Nat.reduceBEq Nat.reduceLT decide_true decide_false Bool.not_true Bool.not_false
@[go_sem] theorem lmap_cons {α β : Type} {f : α → β} {a : α} {l : List α} : (a :: l).map f = f a :: l.map f := (rfl)
@[go_sem] theorem lmap_nil {α β : Type} {f : α → β} : ([] : List α).map f = [] := (rfl)
@[go_sem] theorem lapp_nil {α : Type} {l : List α} : [] ++ l = l := (rfl)
@[go_sem] theorem lapp_cons {α : Type} {a : α} {l l' : List α} : (a :: l) ++ l' = a :: (l ++ l') := (rfl)
attribute [go_sem] List.append_nil
end

section
variable {P : Program} {V : HV} {H : Heap} {t : TypeId} {xo yo : Operand} {k : IntKind} {x y : Int}
@[go_sem] theorem pickV_b {b : Bool} {u v : Value} : pickV (.bool b) u v = some (bif b then u else v) := (rfl)
@[go_sem] theorem nilV_p {a : Addr} : nilV (.pointer (some a)) = some (.pointer (some a)) := (rfl)
@[go_sem] theorem unV_not {b : Bool} : unV .not (.bool b) = some (.bool (!b)) := (rfl)
@[go_sem] theorem unV_neg : unV .neg (.int k x) = some (.int k (k.wrap (-x))) := by simp [unV]
@[go_sem] theorem bin_add : binV P V .add t xo yo (.int k x) (.int k y) = some (.int k (k.wrap (x + y))) := by simp [binV, intBin]
@[go_sem] theorem bin_sub : binV P V .sub t xo yo (.int k x) (.int k y) = some (.int k (k.wrap (x - y))) := by simp [binV, intBin]
@[go_sem] theorem bin_mul : binV P V .mul t xo yo (.int k x) (.int k y) = some (.int k (k.wrap (x * y))) := by simp [binV, intBin]
@[go_sem] theorem bin_quo : binV P V .quo t xo yo (.int k x) (.int k y) = chk (y ≠ 0) (some (.int k (k.wrap (x.tdiv y)))) := by simp [binV, intBin, chk]
@[go_sem] theorem bin_rem : binV P V .rem t xo yo (.int k x) (.int k y) = chk (y ≠ 0) (some (.int k (x.tmod y))) := by simp [binV, intBin, chk]
@[go_sem] theorem bin_shl {k' : IntKind} : binV P V .shl t xo yo (.int k x) (.int k' y) = chk (0 ≤ y) (some (.int k (k.wrap (x * 2 ^ min y.toNat k.bits)))) := by
  by_cases h : y < 0 <;> simp [binV, intBin, chk, h] <;> omega
@[go_sem] theorem bin_shr {k' : IntKind} : binV P V .shr t xo yo (.int k x) (.int k' y) = chk (0 ≤ y) (some (.int k (x.fdiv (2 ^ min y.toNat k.bits)))) := by
  by_cases h : y < 0 <;> simp [binV, intBin, chk, h] <;> omega
@[go_sem] theorem bin_and : binV P V .and t xo yo (.int k x) (.int k y) = some (.int k (k.wrap (BitVec.ofInt k.bits x &&& BitVec.ofInt k.bits y).toNat)) := by simp [binV, intBin]
@[go_sem] theorem bin_xor : binV P V .xor t xo yo (.int k x) (.int k y) = some (.int k (k.wrap (BitVec.ofInt k.bits x ^^^ BitVec.ofInt k.bits y).toNat)) := by simp [binV, intBin]
@[go_sem] theorem bin_eql : binV P V .eql t xo yo (.int k x) (.int k y) = some (.bool (decide (x = y))) := by simp [binV, intBin, BEq.beq]
@[go_sem] theorem bin_neq : binV P V .neq t xo yo (.int k x) (.int k y) = some (.bool (decide (x ≠ y))) := by simp [binV, intBin, bne, BEq.beq]
@[go_sem] theorem bin_lss : binV P V .lss t xo yo (.int k x) (.int k y) = some (.bool (decide (x < y))) := by simp [binV, intBin]
@[go_sem] theorem bin_leq : binV P V .leq t xo yo (.int k x) (.int k y) = some (.bool (decide (x ≤ y))) := by simp [binV, intBin]
@[go_sem] theorem bin_gtr : binV P V .gtr t xo yo (.int k x) (.int k y) = some (.bool (decide (y < x))) := by simp [binV, intBin]
@[go_sem] theorem bin_geq : binV P V .geq t xo yo (.int k x) (.int k y) = some (.bool (decide (y ≤ x))) := by simp [binV, intBin]
@[go_sem] theorem chk_pos {α : Type} {p : Prop} [Decidable p] {o : Option α} (h : p) : chk p o = o := if_pos h
@[go_sem] theorem bif_pos {α : Type} {p : Prop} [Decidable p] {a b : α} (h : p) : (bif decide p then a else b) = a := by simp [h]
@[go_sem] theorem bif_neg {α : Type} {p : Prop} [Decidable p] {a b : α} (h : ¬ p) : (bif decide p then a else b) = b := by simp [h]
theorem addr_add0 {a : Option Addr} : a.map (·.add 0) = a := by cases a <;> rfl
@[go_sem] theorem sliceV_hi {a : Option Addr} {len c : Nat} : sliceV P t (.slice a len c) none (some (.int k x)) none = (elemS P t).bind fun _ => chk (0 ≤ x ∧ x ≤ c) (some (.slice a x.toNat c)) := by
  unfold sliceV boundsV
  cases elemS P t with
  | none => rfl
  | some z =>
    simp only [Option.bind_some, chk]
    split
    · simp [addr_add0]
    · rfl
@[go_sem] theorem sliceV_lo {a : Option Addr} {len c : Nat} : sliceV P t (.slice a len c) (some (.int k x)) none none = (elemS P t).bind fun z => chk (0 ≤ x ∧ x ≤ len) (some (.slice (if c = x.toNat then a else a.map (·.add (x.toNat * z))) (len - x.toNat) (c - x.toNat))) := by
  unfold sliceV boundsV
  cases elemS P t with
  | none => rfl
  | some z =>
    simp only [Option.bind_some, chk]
    split <;> rfl
@[go_sem] theorem sliceV_lohi {k' : IntKind} {a : Option Addr} {len c : Nat} : sliceV P t (.slice a len c) (some (.int k x)) (some (.int k' y)) none =
    (elemS P t).bind fun z => chk (0 ≤ y ∧ y ≤ c) (chk (0 ≤ x ∧ x ≤ y.toNat) (some (.slice (if c = x.toNat then a else a.map (·.add (x.toNat * z))) (y.toNat - x.toNat) (c - x.toNat)))) := by
  unfold sliceV boundsV
  cases elemS P t with
  | none => rfl
  | some z =>
    simp only [Option.bind_some, chk]
    split
    · simp only [Option.bind_some]
      split <;> rfl
    · rfl
@[go_sem] theorem chk_true {α : Type} {i : Decidable True} {o : Option α} : @chk α True i o = o := if_pos trivial
@[go_sem] theorem not_dec {p : Prop} [Decidable p] : (!(decide p)) = decide (¬ p) := by simp
@[go_sem] theorem wrap64 {n : Int} (h : -9223372036854775808 ≤ n ∧ n ≤ 9223372036854775807) : IntKind.i64.wrap n = n := IntWalk.i64_in n h
@[go_sem] theorem fieldAV_p {s : TypeId} {a : Addr} {f : Nat} : fieldAV P s (.pointer (some a)) f = (fieldO P s f).map fun o => .pointer (some (a.add o)) := (rfl)
@[go_sem] theorem indexAV_s {a : Addr} {len c : Nat} : indexAV P t (.slice (some a) len c) (.int k x) = (elemS P t).bind fun z => chk (0 ≤ x ∧ x < len) (some (.pointer (some (a.add (x.toNat * z))))) := (rfl)
@[go_sem] theorem indexAV_a {a : Addr} : indexAV P t (.pointer (some a)) (.int k x) = (arrS P t).bind fun e => chk (0 ≤ x ∧ x < e.1) (some (.pointer (some (a.add (x.toNat * e.2))))) := (rfl)
@[go_sem] theorem loadQ_p {a : Addr} : loadQ P V t (.pointer (some a)) = loadA P V t a := (rfl)
@[go_sem] theorem lenV_s {a : Option Addr} {len c : Nat} : lenV P V t (.slice a len c) = (elemT P t).map fun _ => .int .i64 len := (rfl)
@[go_sem] theorem extrV_t {l : List Value} {i : Nat} : extrV (.tuple l.toArray) i = l[i]? := by simp [extrV]
@[go_sem] theorem max2V_i {k' : IntKind} : max2V (.int k x) (.int k' y) = some (.int k (max x y)) := by
  simp only [max2V, Int.max_def]; congr 2; split <;> split <;> omega
@[go_sem] theorem min2V_i {k' : IntKind} : min2V (.int k x) (.int k' y) = some (.int k (min x y)) := by
  simp only [min2V, Int.min_def]; congr 2; split <;> split <;> omega
@[go_sem] theorem loadA_one {a : Addr} : loadA P V t a = match aggN P t with
  | some none => V.cells a
  | some (some n) => (cellsH V.cells a 0 n).map fun l => .agg l.toArray
  | none => none := (rfl)
@[go_sem] theorem full_cells {a : Addr} : (full H).cells a = cellH H a := (rfl)
@[go_sem] theorem held_cells {a : Addr} {l : List (Addr × Value)} : (held l).cells a = lookA l a := (rfl)
@[go_sem] theorem qrunV_full {α : Type} {e : Sem α} : qrunV P e (full H) = qrun P e H := (rfl)
@[go_sem] theorem addr_add {b o n : Nat} : (⟨b, o, none⟩ : Addr).add n = ⟨b, o + n, none⟩ := by
  unfold Addr.add; split <;> simp_all
attribute [go_sem] Int.tdiv_eq_ediv_of_nonneg Int.tmod_eq_emod_of_nonneg Int.toNat_natCast
attribute [go_sem] Int.reduceAdd Int.reduceMul Int.reduceSub Int.reduceDiv Int.reduceMod Int.reduceNeg Int.reduceLT Int.reduceLE Int.reduceEq Int.reduceNe Int.reduceToNat Nat.reduceAdd Nat.reduceMul Nat.reduceSub Nat.reduceEqDiff reduceIte
@[go_sem] theorem omap_some {α β : Type} {f : α → β} {a : α} : (some a).map f = some (f a) := (rfl)
@[go_sem] theorem obind_some {α β : Type} {f : α → Option β} {a : α} : (some a).bind f = f a := (rfl)
@[go_sem] theorem lget_zero {α : Type} {a : α} {l : List α} : (a :: l)[0]? = some a := (rfl)
@[go_sem] theorem lget_succ {α : Type} {a : α} {l : List α} {i : Nat} : (a :: l)[i + 1]? = l[i]? := (rfl)
attribute [go_sem] Nat.mul_one Nat.zero_add
@[go_sem] theorem nadd_zero {n : Nat} : n + 0 = n := (rfl)
end

section
variable {P : Program} {H : Heap} {t e : TypeId} {xo yo : Operand} {a : Addr}
theorem equal_ptr_nil (hu : P.underlying t = some (.pointer e)) : qrun P (Op.equal t (.pointer (some a)) (.pointer none)) H = some false := by
  unfold Op.equal Op.maxDepth Op.equalIn
  rw [qrun_bind', qrun_underlying hu, Option.bind_some]
  rfl
theorem equal_nil_nil (hu : P.underlying t = some (.pointer e)) : qrun P (Op.equal t (.pointer none) (.pointer none)) H = some true := by
  unfold Op.equal Op.maxDepth Op.equalIn
  rw [qrun_bind', qrun_underlying hu, Option.bind_some]
  rfl
@[go_sem] theorem beq_tt {b : Bool} : (true == b) = b := by cases b <;> rfl
@[go_sem] theorem beq_ff {b : Bool} : (false == b) = !b := by cases b <;> rfl
theorem decide_yes {p : Prop} [Decidable p] (h : p) : decide p = true := by simp [h]
theorem decide_no {p : Prop} [Decidable p] (h : ¬ p) : decide p = false := by simp [h]
theorem bin_ptr_eql (hu : P.underlying t = some (.pointer e)) : binV P (full H) .eql t xo yo (.pointer (some a)) (.pointer none) = some (.bool false) := by
  show qrun P (do eqGuard .eql t xo yo (.pointer (some a)) (.pointer none); binOp .eql t (.pointer (some a)) (.pointer none)) H = _
  rw [qrun_bind']
  show qrun P (do pure (Value.bool (← Op.equal t (.pointer (some a)) (.pointer none)))) H = _
  rw [qrun_bind', equal_ptr_nil hu]
  rfl
theorem bin_ptr_neq (hu : P.underlying t = some (.pointer e)) : binV P (full H) .neq t xo yo (.pointer (some a)) (.pointer none) = some (.bool true) := by
  show qrun P (do eqGuard .neq t xo yo (.pointer (some a)) (.pointer none); binOp .neq t (.pointer (some a)) (.pointer none)) H = _
  rw [qrun_bind']
  show qrun P (do pure (Value.bool (!(← Op.equal t (.pointer (some a)) (.pointer none))))) H = _
  rw [qrun_bind', equal_ptr_nil hu]
  rfl
theorem bin_nil_eql (hu : P.underlying t = some (.pointer e)) : binV P (full H) .eql t xo yo (.pointer none) (.pointer none) = some (.bool true) := by
  show qrun P (do eqGuard .eql t xo yo (.pointer none) (.pointer none); binOp .eql t (.pointer none) (.pointer none)) H = _
  rw [qrun_bind']
  show qrun P (do pure (Value.bool (← Op.equal t (.pointer none) (.pointer none)))) H = _
  rw [qrun_bind', equal_nil_nil hu]
  rfl
theorem bin_nil_neq (hu : P.underlying t = some (.pointer e)) : binV P (full H) .neq t xo yo (.pointer none) (.pointer none) = some (.bool false) := by
  show qrun P (do eqGuard .neq t xo yo (.pointer none) (.pointer none); binOp .neq t (.pointer none) (.pointer none)) H = _
  rw [qrun_bind']
  show qrun P (do pure (Value.bool (!(← Op.equal t (.pointer none) (.pointer none))))) H = _
  rw [qrun_bind', equal_nil_nil hu]
  rfl
theorem bin_bool_eql {x y : Bool} (hu : P.underlying t = some .bool) : binV P (full H) .eql t xo yo (.bool x) (.bool y) = some (.bool (x == y)) := by
  show qrun P (do eqGuard .eql t xo yo (.bool x) (.bool y); binOp .eql t (.bool x) (.bool y)) H = _
  rw [qrun_bind']
  show qrun P (do pure (Value.bool (← Op.equal t (.bool x) (.bool y)))) H = _
  have e : qrun P (Op.equal t (.bool x) (.bool y)) H = some (x == y) := by
    unfold Op.equal Op.maxDepth Op.equalIn
    rw [qrun_bind', qrun_underlying hu, Option.bind_some]
    rfl
  rw [qrun_bind', e]
  rfl
theorem bin_bool_neq {x y : Bool} (hu : P.underlying t = some .bool) : binV P (full H) .neq t xo yo (.bool x) (.bool y) = some (.bool (!(x == y))) := by
  show qrun P (do eqGuard .neq t xo yo (.bool x) (.bool y); binOp .neq t (.bool x) (.bool y)) H = _
  rw [qrun_bind']
  show qrun P (do pure (Value.bool (!(← Op.equal t (.bool x) (.bool y))))) H = _
  have e : qrun P (Op.equal t (.bool x) (.bool y)) H = some (x == y) := by
    unfold Op.equal Op.maxDepth Op.equalIn
    rw [qrun_bind', qrun_underlying hu, Option.bind_some]
    rfl
  rw [qrun_bind', e]
  rfl
theorem conv_int {V : HV} {s d : TypeId} {k k' : IntKind} {n : Int} {u : TypeDesc} (hs : P.underlying s = some u) (hd : P.underlying d = some (.int k')) : convV P V s d (.int k n) = some (.int k' (k'.wrap n)) := by
  unfold convV; simp only [hs, hd]
end

/-! ### A function's body -/
def resL (P : Program) (ρ : En) (H : Heap) : List ResultVar → (List Value → Prop) → Prop
  | [], k => k []
  | .tmp t :: rs, k => resL P ρ H rs fun vs => k (ρ.get t :: vs)
  | .cell a t :: rs, k => ptrW (ρ.get a) fun ad => someW (loadA P (full H) t ad) fun v => resL P ρ H rs fun vs => k (v :: vs)
def tupV : List Value → Value
  | [v] => v
  | vs => .tuple vs.toArray
def retQ (P : Program) (rs : List ResultVar) (R : Value → Heap → Prop) (E : List PanicEntry → Heap → Prop) : Exit → En → Heap → Prop
  | .normal, ρ, H | .ret, ρ, H => ρ.ds = [] ∧ resL P ρ H rs fun vs => R (tupV vs) H
  | .panic c, ρ, H => ρ.ds = [] ∧ E c H
  | _, _, _ => False
theorem resL_sound {P : Program} {ρ : En} {H : Heap} : ∀ (rs : List ResultVar) (k : List Value → Prop), resL P ρ H rs k → ∃ vs, qrun P (rs.mapM (resF ρ)) H = some vs ∧ k vs := by
  intro rs
  induction rs with
  | nil => intro k h; exact ⟨[], rfl, h⟩
  | cons r rs ih =>
    intro k h
    rw [List.mapM_cons]
    cases r with
    | tmp t =>
      obtain ⟨vs, hv, hk⟩ := ih _ h
      refine ⟨ρ.get t :: vs, ?_, hk⟩
      rw [qrun_bind']
      simp only [resF, pure, qrun, Option.bind_some]
      rw [qrun_bind', hv]
      rfl
    | cell a t =>
      unfold resL at h
      unfold ptrW at h
      split at h
      · rename_i ad ha
        rw [someW_iff] at h
        obtain ⟨v, hv, hk⟩ := h
        obtain ⟨vs, hvs, hk⟩ := ih _ hk
        refine ⟨v :: vs, ?_, hk⟩
        have e : qrun P (resF ρ (.cell a t)) H = some v := by
          simp only [resF]
          rw [ha, qrun_bind']
          simp only [asAddr, pure, qrun, Option.bind_some]
          exact qrun_loadVar (full_of H) hv
        rw [qrun_bind', e, Option.bind_some, qrun_bind', hvs]
        rfl
      · exact h.elim
theorem retQ_sound {P : Program} {fn : Func} {rs : List ResultVar} {R : Value → Heap → Prop} {E : List PanicEntry → Heap → Prop} (hr : fn.results = rs.toArray) :
    ∀ e ρ H, retQ P rs R E e ρ H → bodyQ P fn R E e ρ H := by
  have key : ∀ ρ H, (ρ.ds = [] ∧ resL P ρ H rs fun vs => R (tupV vs) H) → ρ.ds = [] ∧ ∃ v, qrun P (resE fn ρ) H = some v ∧ R v H := by
    rintro ρ H ⟨hd, h⟩
    obtain ⟨vs, hv, hk⟩ := resL_sound rs _ h
    refine ⟨hd, _, ?_, hk⟩
    unfold resE
    rw [hr]
    rw [List.mapM_toArray, qrun_bind', map_eq_pure_bind, qrun_bind', hv]
    simp only [Option.bind_some, pure, qrun]
    congr 1
    match vs with
    | [] => rfl
    | [v] => rfl
    | v :: u :: l => simp [tupV]
  intro e ρ H h
  cases e with
  | normal => exact key ρ H h
  | ret => exact key ρ H h
  | panic c => exact h
  | _ => exact h.elim

section
variable {P : Program} {ρ : En} {H : Heap} {rs : List ResultVar} {R : Value → Heap → Prop} {E : List PanicEntry → Heap → Prop}
def dsB (ρ : En) [p : Inhabited Prop] : Prop := ρ.ds = [] ∧ p.default
@[go_sem ↓] theorem retQ_normal : retQ P rs R E .normal ρ H = @dsB ρ ⟨resL P ρ H rs fun vs => @withB (tupV vs) ⟨fun v => @stop ⟨R v H⟩⟩⟩ := (rfl)
@[go_sem ↓] theorem retQ_ret : retQ P rs R E .ret ρ H = @dsB ρ ⟨resL P ρ H rs fun vs => @withB (tupV vs) ⟨fun v => @stop ⟨R v H⟩⟩⟩ := (rfl)
@[go_sem ↓] theorem retQ_panic {c : List PanicEntry} : retQ P rs R E (.panic c) ρ H = @dsB ρ ⟨@stop ⟨E c H⟩⟩ := (rfl)
@[go_sem ↓] theorem resL_nil {k : List Value → Prop} : resL P ρ H [] k = k [] := (rfl)
@[go_sem ↓] theorem resL_tmp {t : Nat} {k : List Value → Prop} : resL P ρ H (.tmp t :: rs) k = @withB (ρ.get t) ⟨fun v => resL P ρ H rs fun vs => k (v :: vs)⟩ := (rfl)
@[go_sem ↓] theorem resL_cell {a t : Nat} {k : List Value → Prop} : resL P ρ H (.cell a t :: rs) k = @ptrB (ρ.get a) ⟨fun ad => @someB _ (loadA P (full H) t ad) ⟨fun v => resL P ρ H rs fun vs => k (v :: vs)⟩⟩ := (rfl)
@[go_sem ↓] theorem dsB_put {n : Nat} {d : Option Nat} {v : Value} {p : Prop} : @dsB (En.put n ρ d v) ⟨p⟩ = @dsB ρ ⟨p⟩ := by cases d <;> rfl
@[go_sem ↓] theorem dsB_args {a : Array Value} {p : Prop} : @dsB (enArgs a) ⟨p⟩ = p := by simp [dsB, enArgs]
theorem dsB_of {p : Prop} (h : ρ.ds = []) : @dsB ρ ⟨p⟩ = p := by simp [dsB, h]
@[go_sem ↓] theorem tupV_one {v : Value} : tupV [v] = v := (rfl)
@[go_sem ↓] theorem tupV_nil : tupV [] = .tuple #[] := (rfl)
@[go_sem ↓] theorem tupV_two {u v : Value} {l : List Value} : tupV (u :: v :: l) = .tuple (u :: v :: l).toArray := (rfl)
attribute [go_sem] true_and
end

theorem call_to {P : Program} {f : FuncId} {args : List Value} {H : Heap} {R R' : Value → Heap → Prop} {E : List PanicEntry → Heap → Prop}
    (h : CallF P f args H R NoP) (hr : ∀ v H', R v H' → R' v H') : @CallB P f args ⟨H⟩ ⟨R'⟩ ⟨E⟩ := h.to hr
theorem call_pan {P : Program} {f : FuncId} {args : List Value} {H : Heap} {R R' : Value → Heap → Prop} {E E' : List PanicEntry → Heap → Prop}
    (h : CallF P f args H R E) (hr : ∀ v H', R v H' → R' v H') (he : ∀ c H', E c H' → E' c H') : @CallB P f args ⟨H⟩ ⟨R'⟩ ⟨E'⟩ := h.mono hr he
theorem inv_to {P : Program} {t : TypeId} {v r : Value} {m : String} {f : FuncId} {args : List Value} {H : Heap} {R R' : Value → Heap → Prop} {E : List PanicEntry → Heap → Prop}
    (hm : qrun P (Go.method (P.types.size + Made.depth) t v m) H = some (f, r)) (h : CallF P f (r :: args) H R NoP) (hr : ∀ v H', R v H' → R' v H') : @invB P (.iface t v) m args ⟨H⟩ ⟨R'⟩ ⟨E⟩ := invW_of hm (h.to hr)
theorem loop_by {n : Nat} {P : Program} {c : Code} {Q : Exit → En → Heap → Prop} (I : Nat → En → Heap → Prop) {k : Nat} {ρ : En} {H : Heap} (h0 : I k ρ H)
    (round : ∀ k ρ H, I k ρ H → cw n P c (seqQ (fun ρ' H' => @stop ⟨∃ k', k' < k ∧ I k' ρ' H'⟩) Q) ρ H) : @stop ⟨CW n P (.loop c) Q ρ H⟩ := cw_loop I round h0
/-- The contract of a Go function, by its body. -/
theorem callF_of {P : Program} {f : FuncId} {fn : Func} {c : Code} {args : List Value} {rs : List ResultVar} {n : Nat} {H : Heap} {R : Value → Heap → Prop} {E : List PanicEntry → Heap → Prop}
    (hf : P.funcs[f]? = some fn) (hb : fn.body = some c) (hn : fn.ntmps = n) (hr : fn.results = rs.toArray) (hm : (fn.name == "runtime.NumGoroutine") = false)
    (hs : decide (args.length ≤ n) = true)
    (h : cw n P c (retQ P rs R E) (enArgs args.toArray) H) : CallF P f args H R E := by
  unfold CallF callFunc
  rw [hwp_bind']
  show hwp P (match P.funcs[f]? with | none => _ | some fn => _) H _ _
  rw [hf]
  simp only [hm, Bool.false_eq_true, if_false, hb, Option.isNone_some]
  show HCalls P f args.toArray H R E
  subst hn
  refine hcalls_of hf hb (by simpa using hs) ?_
  exact CW.mono (retQ_sound hr) (cw_sound c _ _ _ h)

end Go.HL

