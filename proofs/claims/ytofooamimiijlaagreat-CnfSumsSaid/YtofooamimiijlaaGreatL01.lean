/- Core of a program logic on heaps: environments as functions from slots, worlds by their heaps, and a verification condition for Go code; its soundness over the model's own rules. -/
import Derived.Calls
import Derived.LoopN
import Derived.Orders
import Derived.Laws.Sem
import Derived.KernelRfl
namespace Go.HL

abbrev Heap := Array Obj

def cellH (H : Heap) (a : Addr) : Option Value :=
  match H[a.block]? with
  | some (.cells c _ _) => if a.spot.isSome then none else c[a.off]?
  | _ => none
def frozenH (H : Heap) (a : Addr) : Bool :=
  match H[a.block]? with
  | some (.cells _ _ (lo, hi)) => lo ≤ a.off && a.off < hi
  | _ => false
def setH (H : Heap) (a : Addr) (v : Value) : Heap :=
  H.modify a.block fun
    | .cells c elem frozen => .cells (if a.spot.isSome then c else c.setIfInBounds a.off v) elem frozen
    | o => o
def shapeH (H : Heap) (r : Nat) : Option (TypeId × Nat) :=
  match H[r]? with
  | some (.cells c elem _) => some (elem, c.size)
  | _ => none
def freezeH (H : Heap) (a : Addr) (n : Nat) : Heap :=
  if n = 0 then H else
  H.modify a.block fun
      | .cells c elem (lo, hi) => .cells c elem (if lo == hi then (a.off, a.off + n) else (min lo a.off, max hi (a.off + n)))
      | o => o

structure Rest (w w' : World) : Prop where
  os : w'.os = w.os
  tape : w'.tape = w.tape
  output : w'.output = w.output
theorem Rest.refl (w : World) : Rest w w := ⟨rfl, rfl, rfl⟩
theorem Rest.trans {w w' w'' : World} (h : Rest w w') (h' : Rest w' w'') : Rest w w'' :=
  ⟨h'.os.trans h.os, h'.tape.trans h.tape, h'.output.trans h.output⟩

/-! ### Runs of the base's monad, over a heap -/
/-- May the value lie in one cell? -/
def oneC : Value → Bool
  | .agg _ | .tuple _ => false
  | _ => true
def hwp {α : Type} (P : Program) : Sem α → Heap → (α → Heap → Prop) → (Value → Heap → Prop) → Prop
  | .pure a, H, Q, _ => Q a H
  | .load _ a k, H, Q, E => match cellH H a with
    | some v => hwp P (k v) H Q E
    | none => False
  | .store _ a v k, H, Q, E => oneC v = true ∧ (cellH H a).isSome = true ∧ frozenH H a = false ∧ hwp P k (setH H a v) Q E
  | .new o k, H, Q, E => hwp P (k H.size) (H.push o) Q E
  | .shape r k, H, Q, E => hwp P (k (shapeH H r)) H Q E
  | .freeze a n k, H, Q, E => hwp P k (freezeH H a n) Q E
  | .frozen a k, H, Q, E => hwp P (k (frozenH H a)) H Q E
  | .getObj r k, H, Q, E => match H[r]? with
    | some (.cells ..) => False
    | some o => hwp P (k o) H Q E
    | none => False
  | .setObj r o k, H, Q, E => match H[r]? with
    | some (.cells ..) => False
    | some _ => hwp P k (H.setIfInBounds r o) Q E
    | none => False
  | .choose q k, H, Q, E => if q.forced then hwp P (k 0) H Q E else ∀ n, hwp P (k (q.cut n)) H Q E
  | .sys _ _, _, _, _ => False
  | .program k, H, Q, E => hwp P (k P) H Q E
  | .mark _ k, H, Q, E => hwp P k H Q E
  | .halt h, H, _, E => match h with
    | .panic v => E v H
    | _ => False

def ResSat {α : Type} (w : World) (Q : α → Heap → Prop) (E : Value → Heap → Prop) : Result α → Prop
  | .ok a w' => Rest w w' ∧ Q a w'.heap
  | .halt (.panic v) w' => Rest w w' ∧ E v w'.heap
  | _ => False

theorem ResSat.base {α : Type} {w w1 : World} {Q : α → Heap → Prop} {E : Value → Heap → Prop} {r : Result α} (h : Rest w w1) (hr : ResSat w1 Q E r) : ResSat w Q E r := by
  cases r with
  | ok a w' => exact ⟨h.trans hr.1, hr.2⟩
  | halt x w' => cases x <;> first | exact ⟨h.trans hr.1, hr.2⟩ | exact hr.elim

theorem hwp_sound {α : Type} (P : Program) (e : Sem α) : ∀ (w : World) (Q : α → Heap → Prop) (E : Value → Heap → Prop),
    hwp P e w.heap Q E → ResSat w Q E (e.run P w) := by
  induction e with
  | pure a => intro w Q E h; exact ⟨Rest.refl _, h⟩
  | load m a k ih =>
    intro w Q E h
    simp only [hwp] at h
    have hc : w.cell? a = cellH w.heap a := rfl
    simp only [Sem.run, hc]
    cases hv : cellH w.heap a with
    | none => rw [hv] at h; exact h.elim
    | some v => rw [hv] at h; exact ih v w Q E h
  | store m a v k ih =>
    intro w Q E h
    obtain ⟨h1, h2, h3, h4⟩ := h
    have hc : w.cell? a = cellH w.heap a := rfl
    have hf : w.frozen? a = frozenH w.heap a := rfl
    obtain ⟨u, hu⟩ := Option.isSome_iff_exists.1 h2
    have hrun : (Sem.store m a v k).run P w = k.run P (w.setCell a v) := by
      cases v <;> simp [oneC] at h1 <;> simp [Sem.run, hc, hu, hf, h3]
    rw [hrun]
    exact ResSat.base (w1 := w.setCell a v) ⟨rfl, rfl, rfl⟩ (ih (w.setCell a v) Q E h4)
  | new o k ih => intro w Q E h; exact ResSat.base (w1 := { w with heap := w.heap.push o }) ⟨rfl, rfl, rfl⟩ (ih _ { w with heap := w.heap.push o } Q E h)
  | shape r k ih => intro w Q E h; exact ih _ w Q E h
  | freeze a n k ih =>
    intro w Q E h
    have e1 : (w.freeze a n).heap = freezeH w.heap a n := by unfold World.freeze freezeH; split <;> rfl
    have e2 : Rest w (w.freeze a n) := by unfold World.freeze; split <;> exact ⟨rfl, rfl, rfl⟩
    exact ResSat.base e2 (ih (w.freeze a n) Q E (e1 ▸ h))
  | frozen a k ih => intro w Q E h; exact ih _ w Q E h
  | getObj r k ih =>
    intro w Q E h
    simp only [hwp] at h
    simp only [Sem.run]
    cases hr : w.heap[r]? with
    | none => simp [hr] at h
    | some o => cases o <;> simp [hr] at h <;> exact ih _ w Q E h
  | setObj r o k ih =>
    intro w Q E h
    simp only [hwp] at h
    simp only [Sem.run]
    cases hr : w.heap[r]? with
    | none => simp [hr] at h
    | some o' => cases o' <;> simp [hr] at h <;> exact ResSat.base (w1 := { w with heap := w.heap.setIfInBounds r o }) ⟨rfl, rfl, rfl⟩ (ih { w with heap := w.heap.setIfInBounds r o } Q E h)
  | choose q k ih =>
    intro w Q E h
    simp only [hwp] at h
    simp only [Sem.run]
    cases hq : q.forced with
    | true => simp only [hq, if_true] at h ⊢; exact ih 0 w Q E h
    | false =>
      simp only [hq] at h ⊢
      exact ResSat.base (w1 := { w with drawn := w.drawn + 1 }) ⟨rfl, rfl, rfl⟩ (ih _ { w with drawn := w.drawn + 1 } Q E (h _))
  | sys c k ih => intro w Q E h; exact h.elim
  | program k ih => intro w Q E h; exact ih P w Q E h
  | mark m k ih => intro w Q E h; exact ih w Q E h
  | halt x =>
    intro w Q E h
    cases x <;> first | exact ⟨Rest.refl _, h⟩ | exact h.elim

theorem hwp_mono {α : Type} (P : Program) (e : Sem α) : ∀ (H : Heap) (Q Q' : α → Heap → Prop) (E E' : Value → Heap → Prop),
    (∀ a H, Q a H → Q' a H) → (∀ v H, E v H → E' v H) → hwp P e H Q E → hwp P e H Q' E' := by
  induction e with
  | pure a => intro H Q Q' E E' hq he h; exact hq _ _ h
  | load m a k ih =>
    intro H Q Q' E E' hq he h
    simp only [hwp] at h ⊢
    split <;> rename_i hv <;> rw [hv] at h
    · exact ih _ _ _ _ _ _ hq he h
    · exact h
  | store m a v k ih => intro H Q Q' E E' hq he h; exact ⟨h.1, h.2.1, h.2.2.1, ih _ _ _ _ _ hq he h.2.2.2⟩
  | new o k ih => intro H Q Q' E E' hq he h; exact ih _ _ _ _ _ _ hq he h
  | shape r k ih => intro H Q Q' E E' hq he h; exact ih _ _ _ _ _ _ hq he h
  | freeze a n k ih => intro H Q Q' E E' hq he h; exact ih _ _ _ _ _ hq he h
  | frozen a k ih => intro H Q Q' E E' hq he h; exact ih _ _ _ _ _ _ hq he h
  | getObj r k ih =>
    intro H Q Q' E E' hq he h
    simp only [hwp] at h ⊢
    cases hr : H[r]? with
    | none => simp [hr] at h
    | some o => cases o <;> simp [hr] at h <;> exact ih _ _ _ _ _ _ hq he h
  | setObj r o k ih =>
    intro H Q Q' E E' hq he h
    simp only [hwp] at h ⊢
    cases hr : H[r]? with
    | none => simp [hr] at h
    | some o' => cases o' <;> simp [hr] at h <;> exact ih _ _ _ _ _ hq he h
  | choose q k ih =>
    intro H Q Q' E E' hq he h
    simp only [hwp] at h ⊢
    split <;> rename_i hf
    · rw [if_pos hf] at h; exact ih _ _ _ _ _ _ hq he h
    · rw [if_neg hf] at h; exact fun n => ih _ _ _ _ _ _ hq he (h n)
  | sys c k ih => intro H Q Q' E E' hq he h; exact h
  | program k ih => intro H Q Q' E E' hq he h; exact ih _ _ _ _ _ _ hq he h
  | mark m k ih => intro H Q Q' E E' hq he h; exact ih _ _ _ _ _ hq he h
  | halt x => intro H Q Q' E E' hq he h; cases x <;> first | exact he _ _ h | exact h

/-- A run that reads alone, and answers. -/
def qrun {α : Type} (P : Program) : Sem α → Heap → Option α
  | .pure a, _ => some a
  | .load _ a k, H => match cellH H a with
    | some v => qrun P (k v) H
    | none => none
  | .shape r k, H => qrun P (k (shapeH H r)) H
  | .frozen a k, H => qrun P (k (frozenH H a)) H
  | .getObj r k, H => match H[r]? with
    | some (.cells ..) => none
    | some o => qrun P (k o) H
    | none => none
  | .program k, H => qrun P (k P) H
  | .mark _ k, H => qrun P k H
  | _, _ => none

theorem qrun_sound {α : Type} (P : Program) (e : Sem α) : ∀ (w : World) (a : α), qrun P e w.heap = some a → e.run P w = .ok a w := by
  induction e with
  | pure a => intro w b h; simp only [qrun, Option.some.injEq] at h; subst h; rfl
  | load m a k ih =>
    intro w b h
    simp only [qrun] at h
    have hc : w.cell? a = cellH w.heap a := rfl
    simp only [Sem.run, hc]
    cases hv : cellH w.heap a with
    | none => simp [hv] at h
    | some v => rw [hv] at h; exact ih v w b h
  | shape r k ih => intro w b h; exact ih _ w b h
  | frozen a k ih => intro w b h; exact ih _ w b h
  | getObj r k ih =>
    intro w b h
    simp only [qrun] at h
    simp only [Sem.run]
    cases hr : w.heap[r]? with
    | none => simp [hr] at h
    | some o => cases o <;> simp [hr] at h <;> exact ih _ w b h
  | program k ih => intro w b h; exact ih P w b h
  | mark m k ih => intro w b h; exact ih w b h
  | _ => intro w b h; simp [qrun] at h

theorem hwp_of_qrun {α : Type} (P : Program) (e : Sem α) : ∀ (H : Heap) (a : α) (Q : α → Heap → Prop) (E : Value → Heap → Prop),
    qrun P e H = some a → Q a H → hwp P e H Q E := by
  induction e with
  | pure a => intro H b Q E h hq; simp only [qrun, Option.some.injEq] at h; subst h; exact hq
  | load m a k ih =>
    intro H b Q E h hq
    simp only [qrun] at h
    simp only [hwp]
    cases hv : cellH H a with
    | none => simp [hv] at h
    | some v => rw [hv] at h; exact ih v H b Q E h hq
  | shape r k ih => intro H b Q E h hq; exact ih _ H b Q E h hq
  | frozen a k ih => intro H b Q E h hq; exact ih _ H b Q E h hq
  | getObj r k ih =>
    intro H b Q E h hq
    simp only [qrun] at h
    simp only [hwp]
    cases hr : H[r]? with
    | none => simp [hr] at h
    | some o => cases o <;> simp [hr] at h <;> exact ih _ H b Q E h hq
  | program k ih => intro H b Q E h hq; exact ih P H b Q E h hq
  | mark m k ih => intro H b Q E h hq; exact ih H b Q E h hq
  | _ => intro H b Q E h hq; simp [qrun] at h

theorem hwp_bind {α β : Type} (P : Program) (e : Sem α) (f : α → Sem β) : ∀ (H : Heap) (Q : β → Heap → Prop) (E : Value → Heap → Prop),
    hwp P (e.bind f) H Q E = hwp P e H (fun a H' => hwp P (f a) H' Q E) E := by
  induction e with
  | pure a => intro H Q E; rfl
  | load m a k ih => intro H Q E; simp only [Sem.bind, hwp]; cases cellH H a <;> simp [ih]
  | store m a v k ih => intro H Q E; simp only [Sem.bind, hwp, ih]
  | new o k ih => intro H Q E; simp only [Sem.bind, hwp, ih]
  | shape r k ih => intro H Q E; simp only [Sem.bind, hwp, ih]
  | freeze a n k ih => intro H Q E; simp only [Sem.bind, hwp, ih]
  | frozen a k ih => intro H Q E; simp only [Sem.bind, hwp, ih]
  | getObj r k ih =>
    intro H Q E
    simp only [Sem.bind, hwp]
    cases H[r]? with
    | none => rfl
    | some o => cases o <;> simp [ih]
  | setObj r o k ih =>
    intro H Q E
    simp only [Sem.bind, hwp]
    cases H[r]? with
    | none => rfl
    | some o' => cases o' <;> simp [ih]
  | choose q k ih => intro H Q E; simp only [Sem.bind, hwp, ih]
  | sys c k ih => intro H Q E; rfl
  | program k ih => intro H Q E; simp only [Sem.bind, hwp, ih]
  | mark m k ih => intro H Q E; simp only [Sem.bind, hwp, ih]
  | halt x => intro H Q E; rfl
theorem hwp_bind' {α β : Type} (P : Program) (e : Sem α) (f : α → Sem β) (H : Heap) (Q : β → Heap → Prop) (E : Value → Heap → Prop) :
    hwp P (e >>= f) H Q E = hwp P e H (fun a H' => hwp P (f a) H' Q E) E := hwp_bind P e f H Q E
theorem hwp_pure {α : Type} (P : Program) (a : α) (H : Heap) (Q : α → Heap → Prop) (E : Value → Heap → Prop) : hwp P (Pure.pure a) H Q E = Q a H := rfl

theorem qrun_bind {α β : Type} (P : Program) (e : Sem α) (f : α → Sem β) : ∀ (H : Heap), qrun P (e.bind f) H = (qrun P e H).bind fun a => qrun P (f a) H := by
  induction e with
  | pure a => intro H; rfl
  | load m a k ih => intro H; simp only [Sem.bind, qrun]; cases cellH H a <;> simp [ih]
  | shape r k ih => intro H; simp only [Sem.bind, qrun, ih]
  | frozen a k ih => intro H; simp only [Sem.bind, qrun, ih]
  | getObj r k ih =>
    intro H
    simp only [Sem.bind, qrun]
    cases H[r]? with
    | none => rfl
    | some o => cases o <;> simp [ih]
  | program k ih => intro H; simp only [Sem.bind, qrun, ih]
  | mark m k ih => intro H; simp only [Sem.bind, qrun, ih]
  | _ => intro H; rfl
theorem qrun_bind' {α β : Type} (P : Program) (e : Sem α) (f : α → Sem β) (H : Heap) : qrun P (e >>= f) H = (qrun P e H).bind fun a => qrun P (f a) H := qrun_bind P e f H

end Go.HL

namespace Go.HL

structure En where
  get : Nat → Value
  ds : List Deferred
def En.ev (ρ : En) : Operand → Value
  | .tmp t => ρ.get t
  | .const v => v
  | .global g => .pointer (some ⟨g, 0, none⟩)
  | .func f => .func (.func f) #[] #[]
def En.put (n : Nat) (ρ : En) (dst : Option Nat) (v : Value) : En :=
  match dst with
  | some d => { ρ with get := fun t => if t = d ∧ d < n then v else ρ.get t }
  | none => ρ

def Ag (n : Nat) (a : Act) (ρ : En) : Prop := a.tmps.size = n ∧ (∀ t, a.tmps.getD t undef = ρ.get t) ∧ a.defers = ρ.ds

theorem Ag.ev {n : Nat} {a : Act} {ρ : En} (h : Ag n a ρ) : a.eval = ρ.ev := by
  funext x
  cases x with
  | tmp t => exact h.2.1 t
  | _ => rfl
theorem Ag.put {n : Nat} {a : Act} {ρ : En} (h : Ag n a ρ) (dst : Option Nat) (v : Value) : Ag n (a.put dst v) (ρ.put n dst v) := by
  cases dst with
  | none => exact h
  | some d =>
    refine ⟨by simp [Act.put, h.1], fun t => ?_, h.2.2⟩
    simp only [Act.put, En.put]
    have hs := h.1
    have ht := h.2.1 t
    rw [Array.getD_eq_getD_getElem?] at ht ⊢
    rw [Array.getElem?_setIfInBounds]
    by_cases e : d = t
    · subst e
      by_cases hd : d < n
      · simp [hs, hd]
      · simp only [hs, hd, if_true, if_false, and_false]
        rw [← ht]; rw [Array.getElem?_eq_none (by omega)]
    · have e' : ¬ t = d := fun x => e x.symm
      simp [e, e', ht]

def HCalls (P : Program) (f : FuncId) (args : Array Value) (H : Heap) (R : Value → Heap → Prop) (E : List PanicEntry → Heap → Prop) : Prop :=
  ∀ w : World, w.heap = H → Calls P f args w fun e w' => Rest w w' ∧ match e with
    | .returned v => R v w'.heap
    | .panicked c => E c w'.heap
    | .outgrown => False

theorem HCalls.mono {P : Program} {f : FuncId} {args : Array Value} {H : Heap} {R R' : Value → Heap → Prop} {E E' : List PanicEntry → Heap → Prop}
    (h : HCalls P f args H R E) (hr : ∀ v H', R v H' → R' v H') (he : ∀ c H', E c H' → E' c H') : HCalls P f args H R' E' :=
  fun w hw => (h w hw).mono fun e w' ⟨hrest, hx⟩ => ⟨hrest, by cases e <;> first | exact hr _ _ hx | exact he _ _ hx | exact hx⟩

def nextWp (n : Nat) (P : Program) (dst : Option Nat) (ρ : En) (K : En → Heap → Prop) (Q : Exit → En → Heap → Prop) : Next → Heap → Prop
  | .value v, H => K (ρ.put n dst v) H
  | .skip, H => K (ρ.put n dst undef) H
  | .defer d, H => K (En.put n { ρ with ds := d :: ρ.ds } dst undef) H
  | .enter f args, H => HCalls P f args H (fun v H' => K (ρ.put n dst v) H') (fun c H' => Q (.panic c) ρ H')
  | _, _ => False
def opWp (n : Nat) (P : Program) (o : Oper) (ρ : En) (H : Heap) (K : En → Heap → Prop) (Q : Exit → En → Heap → Prop) : Prop :=
  hwp P (execOp ρ.ev o) H (nextWp n P o.dst ρ K Q) (fun v H' => Q (.panic [{ v, recovered := false }]) ρ H')

def up (n : Nat) (w0 : World) (K : En → Heap → Prop) (a : Act) (w : World) : Prop := Rest w0 w ∧ ∃ ρ, Ag n a ρ ∧ K ρ w.heap
def upQ (n : Nat) (w0 : World) (Q : Exit → En → Heap → Prop) (e : Exit) (a : Act) (w : World) : Prop := Rest w0 w ∧ ∃ ρ, Ag n a ρ ∧ Q e ρ w.heap

theorem opWp_sound {n : Nat} {P : Program} {o : Oper} {ρ : En} {K : En → Heap → Prop} {Q : Exit → En → Heap → Prop} {w0 w : World} {a : Act}
    (h0 : Rest w0 w) (ha : Ag n a ρ) (h : opWp n P o ρ w.heap K Q) : o.wp P a w (up n w0 K) (upQ n w0 Q) := by
  unfold Oper.wp
  rw [ha.ev]
  have hs := hwp_sound P _ w _ _ h
  generalize (execOp ρ.ev o).run P w = r at hs
  cases r with
  | ok x w' =>
    obtain ⟨hr, hn⟩ := hs
    have h1 := h0.trans hr
    cases x with
    | value v => exact ⟨h1, _, ha.put _ _, hn⟩
    | skip => exact ⟨h1, _, ha.put _ _, hn⟩
    | defer d =>
      refine ⟨h1, _, Ag.put (a := { a with defers := d :: a.defers }) (ρ := { ρ with ds := d :: ρ.ds }) ⟨ha.1, ha.2.1, ?_⟩ _ _, hn⟩
      show d :: a.defers = d :: ρ.ds
      rw [ha.2.2]
    | enter f args =>
      refine (hn w' rfl).mono fun e w'' ⟨hr', hx⟩ => ?_
      have h2 := h1.trans hr'
      cases e with
      | returned v => exact ⟨h2, _, ha.put _ _, hx⟩
      | panicked c => exact ⟨h2, _, ha, hx⟩
      | outgrown => exact hx.elim
    | _ => exact hn.elim
  | halt x w' =>
    cases x with
    | panic v => exact ⟨h0.trans hs.1, _, ha, hs.2⟩
    | _ => exact hs.elim

end Go.HL

namespace Go.HL

/-! ### Words on types -/
def underT (P : Program) (t : TypeId) : Option TypeDesc := P.underlying t
def sizeT (P : Program) (t : TypeId) : Option Nat := (P.info? t).map (·.size)
def bytesT (P : Program) (t : TypeId) : Option Nat := (P.info? t).map (·.bytes)
def zeroT (P : Program) (t : TypeId) : Option Value := (P.info? t).bind (·.zero)
/-- none: no such type; some none: a value of one cell; some (some n): a struct or an array of n cells. -/
def aggN (P : Program) (t : TypeId) : Option (Option Nat) :=
  match P.underlying t with
  | some (.struct _) | some (.array _ _) => (sizeT P t).map some
  | some _ => some none
  | none => none
/-- a field's place: its offset and its type's number. -/
def fieldT (P : Program) (s : TypeId) (f : Nat) : Option (Nat × TypeId) :=
  match P.underlying s with
  | some (.struct fields) => (fields[f]?).map fun x => (x.offset, x.type)
  | _ => none
/-- a slice type's element type. -/
def elemT (P : Program) (t : TypeId) : Option TypeId :=
  match P.underlying t with
  | some (.slice e) => some e
  | _ => none
def arrT (P : Program) (t : TypeId) : Option (Nat × TypeId) :=
  match P.underlying t with
  | some (.array n e) => some (n, e)
  | _ => none

/-- a field's offset, if it takes a cell. -/
def fieldO (P : Program) (s : TypeId) (f : Nat) : Option Nat :=
  (fieldT P s f).bind fun x => (sizeT P x.2).bind fun z => if z = 0 then none else some x.1
/-- how many cells an element of a slice takes. -/
def elemS (P : Program) (t : TypeId) : Option Nat := (elemT P t).bind (sizeT P)
/-- an array's length, and how many cells an element takes. -/
def arrS (P : Program) (t : TypeId) : Option (Nat × Nat) := (arrT P t).bind fun e => (sizeT P e.2).map fun z => (e.1, z)
/-- a condition that has to hold. -/
def chk {α : Type} (p : Prop) [Decidable p] (x : Option α) : Option α := if p then x else none
theorem chk_some {α : Type} {p : Prop} [Decidable p] {x : Option α} {a : α} (h : chk p x = some a) : p ∧ x = some a := by
  unfold chk at h; split at h
  · rename_i hp; exact ⟨hp, h⟩
  · simp at h

theorem qrun_typeInfo {P : Program} {t : TypeId} {i : TypeInfo} (h : P.info? t = some i) (H : Heap) : qrun P (typeInfo t) H = some i := by
  unfold typeInfo; rw [qrun_bind']; simp only [program, qrun, Option.bind_some, h]; rfl
theorem qrun_underlying {P : Program} {t : TypeId} {d : TypeDesc} (h : P.underlying t = some d) (H : Heap) : qrun P (underlying t) H = some d := by
  unfold underlying; rw [qrun_bind']; simp only [program, qrun, Option.bind_some, h]; rfl
theorem qrun_sizeOf {P : Program} {t : TypeId} {n : Nat} (h : sizeT P t = some n) (H : Heap) : qrun P (sizeOf t) H = some n := by
  unfold sizeT at h
  cases hi : P.info? t with
  | none => simp [hi] at h
  | some i =>
    simp only [hi, Option.map_some, Option.some.injEq] at h
    unfold sizeOf; rw [qrun_bind', qrun_typeInfo hi]; subst h; rfl
theorem qrun_zeroValue {P : Program} {t : TypeId} {v : Value} (h : zeroT P t = some v) (H : Heap) : qrun P (zeroValue t) H = some v := by
  unfold zeroT at h
  cases hi : P.info? t with
  | none => simp [hi] at h
  | some i =>
    simp only [hi, Option.bind_some] at h
    unfold zeroValue; rw [qrun_bind', qrun_typeInfo hi, Option.bind_some, h]; rfl
theorem qrun_isAgg {P : Program} {t : TypeId} {d : TypeDesc} (h : P.underlying t = some d) (H : Heap) :
    qrun P (isAgg t) H = some (match d with | .struct _ | .array _ _ => true | _ => false) := by
  unfold isAgg; rw [qrun_bind', qrun_underlying h, Option.bind_some]; cases d <;> rfl

/-! ### Memory -/
/-- What may be looked at: a whole heap, or some cells. -/
structure HV where
  cells : Addr → Option Value
  heap : Option Heap
def full (H : Heap) : HV := { cells := cellH H, heap := some H }
def lookA : List (Addr × Value) → Addr → Option Value
  | [], _ => none
  | x :: l, a => if x.1 = a then some x.2 else lookA l a
def held (l : List (Addr × Value)) : HV := { cells := lookA l, heap := none }
/-- The heap shows what the view shows. -/
def HV.of (V : HV) (H : Heap) : Prop := (∀ a v, V.cells a = some v → cellH H a = some v) ∧ ∀ H', V.heap = some H' → H' = H
theorem full_of (H : Heap) : (full H).of H := ⟨fun _ _ h => h, fun H' h => by simpa [full] using h.symm⟩
def qrunV {α : Type} (P : Program) (e : Sem α) (V : HV) : Option α := V.heap.bind fun H => qrun P e H
theorem qrunV_of {α : Type} {P : Program} {e : Sem α} {V : HV} {H : Heap} {a : α} (hv : V.of H) (h : qrunV P e V = some a) : qrun P e H = some a := by
  unfold qrunV at h
  cases hh : V.heap with
  | none => simp [hh] at h
  | some H' => rw [hh] at h; have := hv.2 H' hh; subst this; exact h
def cellsH (c : Addr → Option Value) (a : Addr) (i : Nat) : Nat → Option (List Value)
  | 0 => some []
  | n + 1 => (c (a.add i)).bind fun v => (cellsH c a (i + 1) n).map (v :: ·)
theorem cellsH_of {c c' : Addr → Option Value} (h : ∀ a v, c a = some v → c' a = some v) {a : Addr} : ∀ (n i : Nat) (l : List Value), cellsH c a i n = some l → cellsH c' a i n = some l := by
  intro n
  induction n with
  | zero => intro i l hl; exact hl
  | succ n ih =>
    intro i l hl
    simp only [cellsH] at hl ⊢
    cases hc : c (a.add i) with
    | none => simp [hc] at hl
    | some v =>
      cases hr : cellsH c a (i + 1) n with
      | none => simp [hc, hr] at hl
      | some l' => rw [h _ _ hc, ih _ _ hr]; simpa [hc, hr] using hl
theorem qrun_load {P : Program} {H : Heap} {a : Addr} {v : Value} (h : cellH H a = some v) : qrun P (load a) H = some v := by
  simp only [load, qrun, h]
theorem qrun_loadCellsFrom {P : Program} {H : Heap} {a : Addr} : ∀ (n i : Nat) (acc : Array Value) (l : List Value), cellsH (cellH H) a i n = some l →
    qrun P (loadCellsFrom a i n acc) H = some (acc ++ l.toArray) := by
  intro n
  induction n with
  | zero => intro i acc l h; simp only [cellsH, Option.some.injEq] at h; subst h; simp [loadCellsFrom, pure, qrun]
  | succ n ih =>
    intro i acc l h
    simp only [cellsH] at h
    cases hc : cellH H (a.add i) with
    | none => simp [hc] at h
    | some v =>
      cases hl : cellsH (cellH H) a (i + 1) n with
      | none => simp [hc, hl] at h
      | some l' =>
        simp only [hc, hl, Option.bind_some, Option.map_some, Option.some.injEq] at h
        subst h
        rw [loadCellsFrom, qrun_bind', qrun_load hc, Option.bind_some, ih (i + 1) _ l' hl]
        simp

def loadA (P : Program) (V : HV) (t : TypeId) (a : Addr) : Option Value :=
  match aggN P t with
  | some none => V.cells a
  | some (some n) => (cellsH V.cells a 0 n).map fun l => .agg l.toArray
  | none => none
def loadQ (P : Program) (V : HV) (t : TypeId) (v : Value) : Option Value :=
  match v with
  | .pointer (some a) => loadA P V t a
  | _ => none
theorem loadA_of {P : Program} {V : HV} {H : Heap} {t : TypeId} {a : Addr} {r : Value} (hv : V.of H) (h : loadA P V t a = some r) : loadA P (full H) t a = some r := by
  unfold loadA at h ⊢
  split at h
  · exact hv.1 _ _ h
  · rename_i n _
    cases hc : cellsH V.cells a 0 n with
    | none => simp [hc] at h
    | some l => rw [show cellsH (full H).cells a 0 n = some l from cellsH_of hv.1 n 0 l hc]; simpa [hc] using h
  · simp at h
theorem qrun_loadVar {P : Program} {V : HV} {H : Heap} {t : TypeId} {a : Addr} {r : Value} (hv : V.of H) (h0 : loadA P V t a = some r) : qrun P (loadVar t a) H = some r := by
  have h := loadA_of hv h0
  clear h0 hv
  unfold loadA aggN at h
  unfold loadVar
  cases hu : P.underlying t with
  | none => simp [hu] at h
  | some d =>
    rw [qrun_bind', qrun_isAgg hu, Option.bind_some]
    simp only [hu] at h
    have agg : ∀ n, sizeT P t = some n → (cellsH (cellH H) a 0 n).map (fun l => Value.agg l.toArray) = some r →
        qrun P (do pure (.agg (← loadCells a (← sizeOf t)))) H = some r := by
      intro n hn hm
      rw [qrun_bind', qrun_sizeOf hn, Option.bind_some, qrun_bind']
      cases hc : cellsH (cellH H) a 0 n with
      | none => simp [hc] at hm
      | some l =>
        simp only [hc, Option.map_some, Option.some.injEq] at hm
        subst hm
        unfold loadCells
        rw [qrun_loadCellsFrom n 0 #[] l hc]
        simp [pure, qrun]
    cases d with
    | struct fs =>
      simp only at h
      cases hs : sizeT P t with
      | none => simp [hs] at h
      | some n => simp only [hs, Option.map_some] at h; exact agg n hs h
    | array k e =>
      simp only at h
      cases hs : sizeT P t with
      | none => simp [hs] at h
      | some n => simp only [hs, Option.map_some] at h; exact agg n hs h
    | _ => exact qrun_load h
theorem qrun_loadAt {P : Program} {V : HV} {H : Heap} {t : TypeId} {v r : Value} (hv : V.of H) (h : loadQ P V t v = some r) : qrun P (Instr.loadAt t v) H = some r := by
  unfold loadQ at h
  cases v with
  | pointer a =>
    cases a with
    | none => simp at h
    | some a => exact (qrun_bind' P _ _ H).trans (qrun_loadVar hv h)
  | _ => simp at h

def storeCellsH (H : Heap) (a : Addr) : List Value → Nat → Option Heap
  | [], _ => some H
  | v :: rest, i => if oneC v = true ∧ (cellH H (a.add i)).isSome = true ∧ frozenH H (a.add i) = false then storeCellsH (setH H (a.add i) v) a rest (i + 1) else none
def storeA (P : Program) (H : Heap) (t : TypeId) (a : Addr) (v : Value) : Option Heap :=
  match sizeT P t with
  | some s => if v.cells.size = s then storeCellsH H a v.cells.toList 0 else none
  | none => none
theorem hwp_storeCells {P : Program} {a : Addr} {Q : Unit → Heap → Prop} {E : Value → Heap → Prop} : ∀ (vs : List Value) (i : Nat) (H H' : Heap), storeCellsH H a vs i = some H' → Q () H' →
    hwp P (storeCells a vs i) H Q E := by
  intro vs
  induction vs with
  | nil => intro i H H' h hq; simp only [storeCellsH, Option.some.injEq] at h; subst h; exact hq
  | cons v rest ih =>
    intro i H H' h hq
    simp only [storeCellsH] at h
    split at h
    · rename_i hc
      rw [storeCells, hwp_bind']
      exact ⟨hc.1, hc.2.1, hc.2.2, ih (i + 1) _ H' h hq⟩
    · simp at h
theorem hwp_qbind {α β : Type} {P : Program} {e : Sem α} {f : α → Sem β} {H : Heap} {a : α} {Q : β → Heap → Prop} {E : Value → Heap → Prop}
    (h : qrun P e H = some a) (hf : hwp P (f a) H Q E) : hwp P (e >>= f) H Q E := by
  rw [hwp_bind']; exact hwp_of_qrun P e H a _ _ h hf
theorem hwp_storeAt {P : Program} {H H' : Heap} {t : TypeId} {a : Addr} {v : Value} {Q : Unit → Heap → Prop} {E : Value → Heap → Prop}
    (h : storeA P H t a v = some H') (hq : Q () H') : hwp P (Instr.storeAt t (.pointer (some a)) v) H Q E := by
  unfold storeA at h
  cases hs : sizeT P t with
  | none => simp [hs] at h
  | some s =>
    simp only [hs] at h
    split at h
    · rename_i hc
      unfold Instr.storeAt
      refine hwp_qbind (a := a) rfl ?_
      unfold storeVar
      refine hwp_qbind (qrun_sizeOf hs H) ?_
      rw [if_neg (by simp [hc])]
      exact hwp_storeCells _ 0 H H' h hq
    · simp at h

/-! ### Values of operations that only look -/
def intBin (op : BinOp) (k : IntKind) (x : Int) (k' : IntKind) (y : Int) : Option Value :=
  match op with
  | .shl => if y < 0 then none else some (.int k (k.wrap (x * 2 ^ min y.toNat k.bits)))
  | .shr => if y < 0 then none else some (.int k (x.fdiv (2 ^ min y.toNat k.bits)))
  | _ => if k ≠ k' then none else
    match op with
    | .add => some (.int k (k.wrap (x + y)))
    | .sub => some (.int k (k.wrap (x - y)))
    | .mul => some (.int k (k.wrap (x * y)))
    | .quo => if y = 0 then none else some (.int k (k.wrap (x.tdiv y)))
    | .rem => if y = 0 then none else some (.int k (x.tmod y))
    | .and => some (.int k (k.wrap (BitVec.ofInt k.bits x &&& BitVec.ofInt k.bits y).toNat))
    | .or => some (.int k (k.wrap (BitVec.ofInt k.bits x ||| BitVec.ofInt k.bits y).toNat))
    | .xor => some (.int k (k.wrap (BitVec.ofInt k.bits x ^^^ BitVec.ofInt k.bits y).toNat))
    | .andNot => some (.int k (k.wrap (BitVec.ofInt k.bits x &&& ~~~BitVec.ofInt k.bits y).toNat))
    | .eql => some (.bool (x == y))
    | .neq => some (.bool (x != y))
    | .lss => some (.bool (x < y))
    | .leq => some (.bool (x ≤ y))
    | .gtr => some (.bool (x > y))
    | .geq => some (.bool (x ≥ y))
    | _ => none
def strBin (op : BinOp) (x y : ByteArray) : Option Value :=
  match op with
  | .add => if ((x.size + y.size : Nat) : Int) > IntKind.i64.max then none else some (.string (x ++ y))
  | .eql => some (.bool (x.toList == y.toList))
  | .neq => some (.bool (!(x.toList == y.toList)))
  | _ => none
def binV (P : Program) (V : HV) (op : BinOp) (t : TypeId) (xo yo : Operand) (a b : Value) : Option Value :=
  match a, b with
  | .int k x, .int k' y => intBin op k x k' y
  | .string x, .string y => strBin op x y
  | a, b => qrunV P (do eqGuard op t xo yo a b; binOp op t a b) V
theorem qrun_bin {P : Program} {V : HV} {H : Heap} {op : BinOp} {t : TypeId} {xo yo : Operand} {a b r : Value} (hv : V.of H) (h : binV P V op t xo yo a b = some r) :
    qrun P (do eqGuard op t xo yo a b; binOp op t a b) H = some r := by
  unfold binV at h
  split at h
  · rename_i k x k' y
    rw [qrun_bind']
    have e : qrun P (eqGuard op t xo yo (.int k x) (.int k' y)) H = some () := by unfold eqGuard; split <;> rfl
    rw [e, Option.bind_some]
    cases op <;> simp only [intBin] at h <;> simp only [binOp, Op.shift, Op.intArith, Op.intDiv, Op.intBits, Op.intCmp] <;>
      (repeat' split at h) <;> simp_all [pure, qrun] <;> (rw [if_neg (by omega)]; rfl)
  · rename_i x y
    rw [qrun_bind']
    have e : qrun P (eqGuard op t xo yo (.string x) (.string y)) H = some () := by unfold eqGuard; split <;> rfl
    rw [e, Option.bind_some]
    cases op <;> simp only [strBin] at h <;> simp only [binOp, Op.stringOp] <;>
      (repeat' split at h) <;> simp_all [pure, qrun] <;> (rw [if_neg (by omega)]; rfl)
  · exact qrunV_of hv h

def pickV (c a b : Value) : Option Value :=
  match c with
  | .bool t => some (bif t then a else b)
  | _ => none
def nilV (v : Value) : Option Value :=
  match v with
  | .pointer (some a) => some (.pointer (some a))
  | .func (.func f) x y => some (.func (.func f) x y)
  | _ => none
def unV (op : UnOp) (v : Value) : Option Value :=
  match op, v with
  | .neg, .int k n => some (.int k (k.wrap (0 - n)))
  | .not, .bool b => some (.bool (!b))
  | _, _ => none
def convV (P : Program) (V : HV) (s d : TypeId) (v : Value) : Option Value :=
  match v, P.underlying s, P.underlying d with
  | .int _ n, some _, some (.int k) => some (.int k (k.wrap n))
  | _, _, _ => qrunV P (convert s d v) V
def fieldAV (P : Program) (s : TypeId) (v : Value) (f : Nat) : Option Value :=
  match v with
  | .pointer (some a) => (fieldO P s f).map fun o => .pointer (some (a.add o))
  | _ => none
def partV (P : Program) (t : TypeId) (cs : Array Value) (off : Nat) : Option Value :=
  match aggN P t with
  | some none => cs[off]?
  | some (some n) => some (.agg (cs.extract off (off + n)))
  | none => none
def fieldV (P : Program) (t : TypeId) (v : Value) (f : Nat) : Option Value :=
  match v with
  | .agg cs => (fieldT P t f).bind fun x => partV P x.2 cs x.1
  | _ => none
def indexAV (P : Program) (t : TypeId) (v i : Value) : Option Value :=
  match v, i with
  | .slice (some a) len _, .int _ n => (elemS P t).bind fun z => chk (0 ≤ n ∧ n < len) (some (.pointer (some (a.add (n.toNat * z)))))
  | .pointer (some a), .int _ n => (arrS P t).bind fun e => chk (0 ≤ n ∧ n < e.1) (some (.pointer (some (a.add (n.toNat * e.2)))))
  | _, _ => none
def indexV (P : Program) (t : TypeId) (v i : Value) : Option Value :=
  match v, i with
  | .string s, .int _ n => match P.underlying t with
    | some .string => chk (0 ≤ n ∧ n < s.size) (some (.int .u8 (s.data.toList.getD n.toNat 0).toNat))
    | _ => none
  | .agg cs, .int _ n => (arrT P t).bind fun e => (sizeT P e.2).bind fun z => chk (0 ≤ n ∧ n < e.1) (partV P e.2 cs (n.toNat * z))
  | _, _ => none
def extrV (v : Value) (i : Nat) : Option Value :=
  match v with
  | .tuple vs => vs[i]?
  | _ => none
def lenV (P : Program) (V : HV) (t : TypeId) (v : Value) : Option Value :=
  match v with
  | .slice _ n _ => (elemT P t).map fun _ => .int .i64 n
  | .string s => match P.underlying t with
    | some .string => some (.int .i64 s.size)
    | _ => none
  | v => qrunV P (Builtin.len_ #[t] 0 #[v]) V
def ifaceV (P : Program) (t : TypeId) (v : Value) : Option Value :=
  match P.underlying t with
  | some (.interface _) => none
  | some _ => some (.iface t v)
  | none => none
def max2V (a b : Value) : Option Value :=
  match a, b with
  | .int k x, .int _ y => some (.int k (if y > x then y else x))
  | _, _ => none
def min2V (a b : Value) : Option Value :=
  match a, b with
  | .int k x, .int _ y => some (.int k (if y < x then y else x))
  | _, _ => none
def optMap (ρ : Operand → Value) : Option Operand → Option Value
  | none => none
  | some x => some (ρ x)

/-- bounds of a slice expression, all of them in order. -/
def boundsV (len cap : Nat) (lo hi mx : Option Value) : Option (Nat × Nat × Nat) :=
  match mx with
  | some _ => none
  | none =>
    (match hi with
      | some (.int _ h) => chk (0 ≤ h ∧ h ≤ cap) (some h.toNat)
      | none => some len
      | _ => none).bind fun h =>
    (match lo with
      | some (.int _ l) => chk (0 ≤ l ∧ l ≤ h) (some l.toNat)
      | none => some 0
      | _ => none).map fun l => (l, h, cap)
def sliceV (P : Program) (t : TypeId) (v : Value) (lo hi mx : Option Value) : Option Value :=
  match v with
  | .slice a len cap => (elemS P t).bind fun z => (boundsV len cap lo hi mx).map fun b => .slice (if b.2.2 = b.1 then a else a.map (·.add (b.1 * z))) (b.2.1 - b.1) (b.2.2 - b.1)
  | .string s => match P.underlying t with
    | some .string => (boundsV s.size s.size lo hi mx).map fun b => .string (s.extract b.1 b.2.1)
    | _ => none
  | .pointer (some a) => (arrS P t).bind fun e => (boundsV e.1 e.1 lo hi mx).map fun b => .slice (some (if b.2.2 = b.1 then a else a.add (b.1 * e.2))) (b.2.1 - b.1) (b.2.2 - b.1)
  | _ => none
theorem qrun_bounds {P : Program} {H : Heap} {isSlice : Bool} {len cap : Nat} {lo hi mx : Option Value} {b : Nat × Nat × Nat} (h : boundsV len cap lo hi mx = some b) :
    qrun P (Instr.sliceBounds isSlice len cap lo hi mx) H = some b := by
  unfold boundsV at h
  cases mx with
  | some _ => simp at h
  | none =>
    simp only [Option.bind_eq_some_iff, Option.map_eq_some_iff] at h
    obtain ⟨h', hh, l, hl, rfl⟩ := h
    have bound : ∀ (v : Value) (y : Nat) (code : BoundsCode) (k : IntKind) (n : Int), v = .int k n → 0 ≤ n → n ≤ y → qrun P (Instr.sliceBound v y code) H = some n.toNat := by
      intro v y code k n hv h0 h1
      subst hv
      unfold Instr.sliceBound
      rw [qrun_bind']
      simp only [asIntOf, pure, qrun, Option.bind_some]
      rw [if_pos ⟨h0, h1⟩]
      rfl
    have hi' : hi = none ∧ h' = len ∨ ∃ k n, hi = some (.int k n) ∧ (0 ≤ n ∧ n ≤ cap) ∧ h' = n.toNat := by
      cases hi with
      | none => simp only [Option.some.injEq] at hh; exact .inl ⟨rfl, hh.symm⟩
      | some v =>
        cases v <;> simp only at hh <;> try (simp at hh; done)
        rename_i k n
        obtain ⟨hc, hr⟩ := chk_some hh
        simp only [Option.some.injEq] at hr
        exact .inr ⟨k, n, rfl, hc, hr.symm⟩
    have lo' : lo = none ∧ l = 0 ∨ ∃ k n, lo = some (.int k n) ∧ (0 ≤ n ∧ n ≤ h') ∧ l = n.toNat := by
      cases lo with
      | none => simp only [Option.some.injEq] at hl; exact .inl ⟨rfl, hl.symm⟩
      | some v =>
        cases v <;> simp only at hl <;> try (simp at hl; done)
        rename_i k n
        obtain ⟨hc, hr⟩ := chk_some hl
        simp only [Option.some.injEq] at hr
        exact .inr ⟨k, n, rfl, hc, hr.symm⟩
    clear hh hl
    rcases hi' with ⟨rfl, rfl⟩ | ⟨k, n, rfl, hc, rfl⟩ <;> rcases lo' with ⟨rfl, rfl⟩ | ⟨k', n', rfl, hc', rfl⟩
    · rfl
    · show qrun P (do let l ← Instr.sliceBound (.int k' n') h' .sliceB; Sem.pure (l, h', cap)) H = _
      rw [qrun_bind', bound _ _ _ k' n' rfl hc'.1 hc'.2]; rfl
    · show qrun P (do let h ← Instr.sliceBound (.int k n) cap (if isSlice then .sliceAcap else .sliceAlen); Sem.pure (0, h, cap)) H = _
      rw [qrun_bind', bound _ _ _ k n rfl hc.1 hc.2]; rfl
    · show qrun P (do let h ← Instr.sliceBound (.int k n) cap (if isSlice then .sliceAcap else .sliceAlen); let l ← Instr.sliceBound (.int k' n') h .sliceB; Sem.pure (l, h, cap)) H = _
      rw [qrun_bind', bound _ _ _ k n rfl hc.1 hc.2, Option.bind_some, qrun_bind', bound _ _ _ k' n' rfl hc'.1 hc'.2]; rfl
theorem elemS_some {P : Program} {t : TypeId} {z : Nat} (h : elemS P t = some z) : ∃ e, P.underlying t = some (.slice e) ∧ sizeT P e = some z := by
  unfold elemS elemT at h
  cases hu : P.underlying t with
  | none => simp [hu] at h
  | some d => cases d <;> simp only [hu] at h <;> first | exact ⟨_, rfl, h⟩ | simp at h
theorem arrS_some {P : Program} {t : TypeId} {e : Nat × Nat} (h : arrS P t = some e) : ∃ u, P.underlying t = some (.array e.1 u) ∧ sizeT P u = some e.2 := by
  unfold arrS arrT at h
  cases hu : P.underlying t with
  | none => simp [hu] at h
  | some d =>
    cases d <;> simp only [hu] at h <;> try (simp at h; done)
    rename_i n u
    simp only [Option.bind_some] at h
    cases hs : sizeT P u with
    | none => simp [hs] at h
    | some z => simp only [hs, Option.map_some, Option.some.injEq] at h; subst h; exact ⟨u, rfl, hs⟩
theorem qrun_slice {P : Program} {H : Heap} {t : TypeId} {v : Value} {lo hi mx : Option Value} {r : Value} (h : sliceV P t v lo hi mx = some r) : qrun P (Instr.sliceAt t v lo hi mx) H = some r := by
  unfold sliceV at h
  split at h
  · rename_i a len cap
    simp only [Option.bind_eq_some_iff, Option.map_eq_some_iff] at h
    obtain ⟨z, hz, b, hb, rfl⟩ := h
    obtain ⟨e, hu, hs⟩ := elemS_some hz
    unfold Instr.sliceAt
    rw [qrun_bind', qrun_underlying hu, Option.bind_some]
    simp only
    unfold Instr.slice
    rw [qrun_bind', qrun_underlying hu, Option.bind_some]
    simp only
    rw [qrun_bind', qrun_bounds hb, Option.bind_some, qrun_bind', qrun_sizeOf hs]
    rfl
  · rename_i s
    split at h
    · rename_i hu
      simp only [Option.map_eq_some_iff] at h
      obtain ⟨b, hb, rfl⟩ := h
      unfold Instr.sliceAt
      rw [qrun_bind', qrun_underlying hu, Option.bind_some]
      simp only
      unfold Instr.slice
      rw [qrun_bind', qrun_underlying hu, Option.bind_some]
      have hm : mx = none := by
        unfold boundsV at hb
        cases mx with
        | none => rfl
        | some _ => simp at hb
      subst hm
      simp only [Option.isSome_none, Bool.false_eq_true, if_false]
      rw [qrun_bind', qrun_bounds hb]
      rfl
    · simp at h
  · rename_i a
    simp only [Option.bind_eq_some_iff, Option.map_eq_some_iff] at h
    obtain ⟨e, he, b, hb, rfl⟩ := h
    obtain ⟨u, hu, hs⟩ := arrS_some he
    unfold Instr.sliceAt
    rw [qrun_bind', qrun_underlying hu, Option.bind_some]
    simp only
    rw [qrun_bind']
    simp only [Instr.sureAddr, pure, qrun, Option.bind_some]
    rw [qrun_bind', qrun_bounds hb, Option.bind_some, qrun_bind', qrun_sizeOf hs]
    rfl
  · simp at h
/-- the places of a struct's fields: offset and size. -/
def placesT (P : Program) (t : TypeId) : Option (List (Nat × Nat)) :=
  match P.underlying t with
  | some (.struct fields) => fields.toList.mapM fun f => (sizeT P f.type).map fun z => (f.offset, z)
  | _ => none
def buildV (P : Program) (t : TypeId) (parts : List (Nat × Value)) : Option Value :=
  match placesT P t with
  | some ps => (zeroT P t).bind fun z => (Instr.fill (ps[·]?) z.cells parts).map .agg
  | none => (arrS P t).bind fun e => (zeroT P t).bind fun z => (Instr.fill (fun i => some (i * e.2, e.2)) z.cells parts).map .agg
theorem qrun_places {P : Program} {H : Heap} (fields : List Field) (ps : List (Nat × Nat)) (h : (fields.mapM fun f => (sizeT P f.type).map fun z => (f.offset, z)) = some ps) :
    qrun P (fields.mapM fun f => do pure (f.offset, ← sizeOf f.type)) H = some ps := by
  induction fields generalizing ps with
  | nil => simp at h; subst h; rfl
  | cons f l ih =>
    rw [List.mapM_cons] at h ⊢
    simp only [Option.bind_eq_bind, Option.bind_eq_some_iff, Option.map_eq_some_iff, Option.pure_def, Option.some.injEq] at h
    obtain ⟨x, ⟨z, hz, rfl⟩, ps', hps, rfl⟩ := h
    rw [qrun_bind']
    have e : qrun P (do pure (f.offset, ← sizeOf f.type)) H = some (f.offset, z) := by rw [qrun_bind', qrun_sizeOf hz]; rfl
    rw [e, Option.bind_some, qrun_bind', ih ps' hps]
    rfl
theorem qrun_build {P : Program} {H : Heap} {t : TypeId} {parts : List (Nat × Value)} {r : Value} (h : buildV P t parts = some r) : qrun P (Instr.build t parts.toArray) H = some r := by
  unfold buildV at h
  split at h
  · rename_i ps hps
    simp only [Option.bind_eq_some_iff, Option.map_eq_some_iff] at h
    obtain ⟨z, hz, cs, hf, rfl⟩ := h
    unfold placesT at hps
    split at hps
    · rename_i fields hu
      unfold Instr.build
      rw [qrun_bind', qrun_zeroValue hz, Option.bind_some]
      simp only
      rw [qrun_bind', qrun_underlying hu, Option.bind_some]
      simp only
      rw [qrun_bind']
      have e : fields = fields.toList.toArray := by simp
      rw [e, List.mapM_toArray, map_eq_pure_bind, qrun_bind', qrun_places _ ps hps]
      simp only [Option.bind_some, pure, qrun, List.getElem?_toArray]
      simp only [hf]
      rfl
    · simp at hps
  · simp only [Option.bind_eq_some_iff, Option.map_eq_some_iff] at h
    obtain ⟨e, he, z, hz, cs, hf, rfl⟩ := h
    obtain ⟨u, hu, hs⟩ := arrS_some he
    unfold Instr.build
    rw [qrun_bind', qrun_zeroValue hz, Option.bind_some]
    simp only
    rw [qrun_bind', qrun_underlying hu, Option.bind_some]
    simp only
    rw [qrun_bind', qrun_sizeOf hs, Option.bind_some]
    simp only [hf]
    rfl
def builtinQ (P : Program) (V : HV) (b : Builtin) (ts : List TypeId) (vs : List Value) : Option Value :=
  match b with
  | .len => match ts, vs with
    | [t], [v] => lenV P V t v
    | _, _ => none
  | .max => match vs with
    | [x, y] => max2V x y
    | _ => none
  | .min => match vs with
    | [x, y] => min2V x y
    | _ => none
  | .cap => match vs with
    | [v] => qrunV P (Builtin.cap_ ts.toArray 0 #[v]) V
    | _ => none
  | _ => none
def callQ (P : Program) (V : HV) (c : Callee) (ts : List TypeId) (vs : List Value) : Option Value :=
  match c with
  | .builtin b => builtinQ P V b ts vs
  | _ => none

theorem qrun_builtin {P : Program} {V : HV} {H : Heap} {b : Builtin} {ts : List TypeId} {vs : List Value} {ty : TypeId} {cs : Array Bool} {r : Value} (hv : V.of H) (h : builtinQ P V b ts vs = some r) :
    qrun P (builtin b ts.toArray ty cs vs.toArray) H = some (.value r) := by
  unfold builtinQ at h
  split at h
  · split at h
    · rename_i t v
      show qrun P (do pure (Next.value (← Builtin.len_ #[t] ty #[v]))) H = some (.value r)
      rw [qrun_bind']
      suffices hh : qrun P (Builtin.len_ #[t] ty #[v]) H = some r by rw [hh]; rfl
      unfold lenV at h
      split at h
      · rename_i a n c
        unfold elemT at h
        cases hu : P.underlying t with
        | none => simp [hu] at h
        | some d =>
          cases d <;> simp only [hu] at h <;> try (simp at h)
          subst h
          unfold Builtin.len_
          simp only [List.getElem?_toArray, List.getElem?_cons_zero]
          rw [qrun_bind', qrun_underlying hu, Option.bind_some]
          rfl
      · split at h
        · rename_i hu
          simp only [Option.some.injEq] at h
          subst h
          unfold Builtin.len_
          simp only [List.getElem?_toArray, List.getElem?_cons_zero]
          rw [qrun_bind', qrun_underlying hu, Option.bind_some]
          rfl
        · simp at h
      · exact qrunV_of hv h
    · simp at h
  · split at h
    · rename_i x y
      unfold max2V at h
      split at h
      · simp only [Option.some.injEq] at h; subst h; rfl
      · simp at h
    · simp at h
  · split at h
    · rename_i x y
      unfold min2V at h
      split at h
      · simp only [Option.some.injEq] at h; subst h; rfl
      · simp at h
    · simp at h
  · split at h
    · rename_i v
      show qrun P (do pure (Next.value (← Builtin.cap_ ts.toArray ty #[v]))) H = some (.value r)
      rw [qrun_bind']
      suffices hh : qrun P (Builtin.cap_ ts.toArray ty #[v]) H = some r by rw [hh]; rfl
      exact qrunV_of hv h
    · simp at h
  · simp at h

/-- The value of an operation that only looks. -/
def opQ (P : Program) (V : HV) (ρ : Operand → Value) : Op → Option Value
  | .move x | .assign x => some (ρ x)
  | .pick c a b => pickV (ρ c) (ρ a) (ρ b)
  | .load t a => loadQ P V t (ρ a)
  | .nilCheck x => nilV (ρ x)
  | .binOp op t x y _ => binV P V op t x y (ρ x) (ρ y)
  | .unOp op _ x => unV op (ρ x)
  | .convert s d x => convV P V s d (ρ x)
  | .makeInterface t x => ifaceV P t (ρ x)
  | .makeFunc fn first captured => some (.func fn (first.toList.map ρ).toArray (captured.toList.map ρ).toArray)
  | .slice t x lo hi mx => sliceV P t (ρ x) (optMap ρ lo) (optMap ρ hi) (optMap ρ mx)
  | .fieldAddr s x f => fieldAV P s (ρ x) f
  | .field t x f => fieldV P t (ρ x) f
  | .indexAddr t x i => indexAV P t (ρ x) (ρ i)
  | .index t x i => indexV P t (ρ x) (ρ i)
  | .lookup t m k ok => qrunV P (Instr.lookup t (ρ m) (ρ k) ok) V
  | .typeAssert x xt t ok => qrunV P (Instr.typeAssert (ρ x) xt t ok) V
  | .extract t i => extrV (ρ t) i
  | .build t parts => buildV P t (parts.toList.map fun p => (p.1, ρ p.2))
  | .call c => callQ P V c.callee c.argTypes.toList (c.args.toList.map ρ)
  | _ => none

theorem qrun_part {P : Program} {H : Heap} {t : TypeId} {cs : Array Value} {off : Nat} {r : Value} (h : partV P t cs off = some r) : qrun P (part t cs off) H = some r := by
  unfold partV aggN at h
  unfold part
  cases hu : P.underlying t with
  | none => simp [hu] at h
  | some d =>
    rw [qrun_bind', qrun_isAgg hu, Option.bind_some]
    simp only [hu] at h
    have agg : ∀ n, sizeT P t = some n → some (Value.agg (cs.extract off (off + n))) = some r → qrun P (do pure (.agg (cs.extract off (off + (← sizeOf t))))) H = some r := by
      intro n hn hm
      rw [qrun_bind', qrun_sizeOf hn, Option.bind_some]
      exact hm
    have one : cs[off]? = some r → qrun P (match cs[off]? with | some v => pure v | none => stuck "part: no such cell") H = some r := by
      intro hm; rw [hm]; rfl
    cases d with
    | struct fs =>
      simp only at h
      cases hs : sizeT P t with
      | none => simp [hs] at h
      | some n => simp only [hs, Option.map_some] at h; exact agg n hs h
    | array k e =>
      simp only at h
      cases hs : sizeT P t with
      | none => simp [hs] at h
      | some n => simp only [hs, Option.map_some] at h; exact agg n hs h
    | _ => exact one h

theorem optMap_eq (ρ : Operand → Value) (o : Option Operand) : optMap ρ o = o.map ρ := by cases o <;> rfl

theorem qrun_v {P : Program} {H : Heap} {s : Sem Value} {r : Value} (h : qrun P s H = some r) : qrun P (do pure (Next.value (← s))) H = some (.value r) := by
  rw [qrun_bind', h]; rfl

theorem opQ_sound {P : Program} {V : HV} {H : Heap} {ρ : Operand → Value} {o : Oper} {r : Value} (hv : V.of H) (h : opQ P V ρ o.op = some r) : qrun P (execOp ρ o) H = some (.value r) := by
  obtain ⟨dst, op, type, pos, after, guard⟩ := o
  simp only at h
  unfold opQ at h
  split at h
  · simp only [Option.some.injEq] at h; subst h; rfl
  · simp only [Option.some.injEq] at h; subst h; rfl
  · rename_i c a b
    unfold pickV at h
    split at h
    · rename_i t ht
      simp only [Option.some.injEq] at h
      subst h
      simp only [execOp, ht]
      cases t <;> rfl
    · simp at h
  · exact qrun_v (qrun_loadAt hv h)
  · rename_i x
    unfold nilV at h
    split at h
    · rename_i a ha; simp only [Option.some.injEq] at h; subst h; simp only [execOp, ha]; rfl
    · rename_i f y z ha; simp only [Option.some.injEq] at h; subst h; simp only [execOp, ha]; rfl
    · simp at h
  · exact qrun_v (qrun_bin hv h)
  · rename_i op t x
    unfold unV at h
    split at h
    · rename_i k n hx; simp only [Option.some.injEq] at h; subst h; simp only [execOp, hx]; rfl
    · rename_i b hx; simp only [Option.some.injEq] at h; subst h; simp only [execOp, hx]; rfl
    · simp at h
  · rename_i s d x
    refine qrun_v ?_
    unfold convV at h
    split at h
    · rename_i k n k' hx hs hd
      simp only [Option.some.injEq] at h
      subst h
      unfold convert
      rw [qrun_bind', qrun_underlying hs, Option.bind_some, qrun_bind', qrun_underlying hd, Option.bind_some, hx]
      rfl
    · exact qrunV_of hv h
  · rename_i t x
    unfold ifaceV at h
    cases hu : P.underlying t with
    | none => simp [hu] at h
    | some d =>
      refine qrun_v ?_
      unfold Instr.makeInterface
      rw [qrun_bind', qrun_underlying hu, Option.bind_some]
      rw [hu] at h
      cases d <;> simp at h <;> subst h <;> rfl
  · simp only [Option.some.injEq] at h; subst h; simp [execOp, Instr.makeFunc, qrun, pure, bind, Sem.bind]; exact ⟨by apply Array.ext'; simp, by apply Array.ext'; simp⟩
  · rw [optMap_eq, optMap_eq, optMap_eq] at h; exact qrun_v (qrun_slice h)
  · rename_i s x f
    unfold fieldAV at h
    split at h
    · rename_i a ha
      refine qrun_v ?_
      unfold fieldO at h
      cases hf : fieldT P s f with
      | none => simp [hf] at h
      | some xt =>
        simp only [hf, Option.bind_some] at h
        cases hz : sizeT P xt.2 with
        | none => simp [hz] at h
        | some z =>
          simp only [hz, Option.bind_some] at h
          split at h
          · simp at h
          · rename_i hz0
            simp only [Option.map_some, Option.some.injEq] at h
            subst h
            unfold fieldT at hf
            cases hu : P.underlying s with
            | none => simp [hu] at hf
            | some d =>
              cases d <;> simp only [hu] at hf <;> try (simp at hf)
              rename_i fields
              obtain ⟨fd, hfd, rfl⟩ := hf
              unfold Instr.fieldAt
              rw [qrun_bind', qrun_underlying hu, Option.bind_some]
              simp only [hfd]
              rw [qrun_bind', ha]
              simp only [Instr.sureAddr, pure, qrun, Option.bind_some]
              rw [qrun_bind']
              unfold fieldPlace
              rw [qrun_bind', qrun_sizeOf hz, Option.bind_some, if_neg hz0]
              rfl
    · simp at h
  · rename_i t x f
    unfold fieldV at h
    split at h
    · rename_i cs hx
      refine qrun_v ?_
      cases hf : fieldT P t f with
      | none => simp [hf] at h
      | some xt =>
        simp only [hf, Option.bind_some] at h
        unfold fieldT at hf
        cases hu : P.underlying t with
        | none => simp [hu] at hf
        | some d =>
          cases d <;> simp only [hu] at hf <;> try (simp at hf)
          rename_i fields
          obtain ⟨fd, hfd, rfl⟩ := hf
          unfold Instr.field
          rw [qrun_bind', qrun_underlying hu, Option.bind_some]
          simp only [hfd, hx]
          rw [qrun_bind']
          simp only [asAgg, pure, qrun, Option.bind_some]
          exact qrun_part h
    · simp at h
  · rename_i t x i
    unfold indexAV at h
    split at h
    · rename_i a len cap k n hx hi
      refine qrun_v ?_
      unfold elemS elemT at h
      cases hu : P.underlying t with
      | none => simp [hu] at h
      | some d =>
        cases d <;> simp only [hu] at h <;> try (simp only [Option.bind_none, reduceCtorEq] at h)
        rename_i e
        simp only [Option.bind_some] at h
        cases hz : sizeT P e with
        | none => simp [hz] at h
        | some z =>
          simp only [hz, Option.bind_some] at h
          obtain ⟨hb, h⟩ := chk_some h
          · simp only [Option.some.injEq] at h
            subst h
            unfold Instr.indexAt
            rw [hx, hi]
            simp only [asIntOf, pure]
            rw [qrun_bind']
            simp only [qrun, Option.bind_some]
            rw [qrun_bind', qrun_underlying hu, Option.bind_some]
            simp only
            rw [qrun_bind']
            simp only [qrun, Option.bind_some]
            rw [qrun_bind', qrun_underlying hu, Option.bind_some]
            rw [if_pos hb, qrun_bind', qrun_sizeOf hz]
            rfl
    · rename_i a k n hx hi
      refine qrun_v ?_
      unfold arrS arrT at h
      cases hu : P.underlying t with
      | none => simp [hu] at h
      | some d =>
        cases d <;> simp only [hu] at h <;> try (simp only [Option.bind_none, reduceCtorEq] at h)
        rename_i len e
        simp only [Option.bind_some] at h
        cases hz : sizeT P e with
        | none => simp [hz] at h
        | some z =>
          simp only [hz, Option.bind_some, Option.map_some] at h
          obtain ⟨hb, h⟩ := chk_some h
          · simp only [Option.some.injEq] at h
            subst h
            unfold Instr.indexAt
            rw [hx, hi]
            simp only [asIntOf, pure]
            rw [qrun_bind']
            simp only [qrun, Option.bind_some]
            rw [qrun_bind', qrun_underlying hu, Option.bind_some]
            simp only [Instr.sureAddr, pure]
            rw [qrun_bind']
            simp only [qrun, Option.bind_some]
            rw [qrun_bind']
            simp only [qrun, Option.bind_some]
            rw [qrun_bind', qrun_underlying hu, Option.bind_some]
            rw [if_pos hb, qrun_bind', qrun_sizeOf hz]
            rfl
    · simp at h
  · rename_i t x i
    unfold indexV at h
    split at h
    · rename_i s k n hx hi
      refine qrun_v ?_
      split at h
      · rename_i hu
        obtain ⟨hb, h⟩ := chk_some h
        simp only [Option.some.injEq] at h
        subst h
        unfold Instr.index
        rw [hx, hi]
        simp only [asIntOf, pure]
        rw [qrun_bind']
        simp only [qrun, Option.bind_some]
        rw [qrun_bind', qrun_underlying hu, Option.bind_some]
        have hlt : n.toNat < s.size := by omega
        have hs : s[n.toNat]? = some (s.data.toList.getD n.toNat 0) := by
          have hl : n.toNat < s.data.toList.length := by simpa using hlt
          have e1 : s[n.toNat]? = some s[n.toNat] := getElem?_pos s n.toNat hlt
          rw [e1, List.getD_eq_getElem?_getD, List.getElem?_eq_getElem hl]
          rfl
        simp only [hb.1, if_true, hs]
        rfl
      · simp at h
    · rename_i cs k n hx hi
      refine qrun_v ?_
      unfold arrT at h
      cases hu : P.underlying t with
      | none => simp [hu] at h
      | some d =>
        cases d <;> simp only [hu] at h <;> try (simp only [Option.bind_none, reduceCtorEq] at h)
        rename_i len e
        simp only [Option.bind_some] at h
        cases hz : sizeT P e with
        | none => simp [hz] at h
        | some z =>
          simp only [hz, Option.bind_some] at h
          obtain ⟨hb, h⟩ := chk_some h
          · unfold Instr.index
            rw [hx, hi]
            simp only [asIntOf, pure]
            rw [qrun_bind']
            simp only [qrun, Option.bind_some]
            rw [qrun_bind', qrun_underlying hu, Option.bind_some]
            simp only
            rw [if_pos hb, qrun_bind', qrun_sizeOf hz, Option.bind_some]
            exact qrun_part h
    · simp at h
  · exact qrun_v (qrunV_of hv h)
  · exact qrun_v (qrunV_of hv h)
  · rename_i t i
    unfold extrV at h
    split at h
    · rename_i vs hv
      simp only [execOp, hv, Instr.extract, h]
      rfl
    · simp at h
  · rename_i t parts
    refine qrun_v ?_
    have e : (parts.map fun x => (x.1, ρ x.2)) = (parts.toList.map fun p => (p.1, ρ p.2)).toArray := by
      apply Array.ext'; simp
    show qrun P (Instr.build t (parts.map fun x => (x.1, ρ x.2))) H = some r
    rw [e]; exact qrun_build h
  · rename_i c
    obtain ⟨callee, args, ats⟩ := c
    unfold callQ at h
    split at h
    · rename_i b hb
      simp only at hb h
      subst hb
      have e : args.map ρ = (args.toList.map ρ).toArray := by apply Array.ext'; simp
      show qrun P (builtin b ats type (args.map fun | .const _ => true | _ => false) (args.map ρ)) H = some (.value r)
      rw [e]
      exact qrun_builtin hv h
    · simp at h
  · simp at h

end Go.HL

