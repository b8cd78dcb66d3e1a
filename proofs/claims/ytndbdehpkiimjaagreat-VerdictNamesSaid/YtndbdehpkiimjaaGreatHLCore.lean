
/- Core of a program logic on heaps: environments as functions from slots, worlds by their heaps, and a verification condition for Go code; its soundness over the model's own rules. -/
import Derived.Calls
import Derived.LoopN
import Derived.Orders
import Derived.Laws.Sem
import Derived.KernelRfl
namespace Go.HL

abbrev Heap := Array Obj

def cellH (H : Heap) (a : Addr) : Option Value :=
  match H[a.block]? with
  | some (.cells c _ _) => if a.spot.isSome then none else c[a.off]?
  | _ => none
def frozenH (H : Heap) (a : Addr) : Bool :=
  match H[a.block]? with
  | some (.cells _ _ (lo, hi)) => lo ≤ a.off && a.off < hi
  | _ => false
def setH (H : Heap) (a : Addr) (v : Value) : Heap :=
  H.modify a.block fun
    | .cells c elem frozen => .cells (if a.spot.isSome then c else c.setIfInBounds a.off v) elem frozen
    | o => o
def shapeH (H : Heap) (r : Nat) : Option (TypeId × Nat) :=
  match H[r]? with
  | some (.cells c elem _) => some (elem, c.size)
  | _ => none
def freezeH (H : Heap) (a : Addr) (n : Nat) : Heap :=
  if n = 0 then H else
  H.modify a.block fun
      | .cells c elem (lo, hi) => .cells c elem (if lo == hi then (a.off, a.off + n) else (min lo a.off, max hi (a.off + n)))
      | o => o

structure Rest (w w' : World) : Prop where
  os : w'.os = w.os
  tape : w'.tape = w.tape
  output : w'.output = w.output
theorem Rest.refl (w : World) : Rest w w := ⟨rfl, rfl, rfl⟩
theorem Rest.trans {w w' w'' : World} (h : Rest w w') (h' : Rest w' w'') : Rest w w'' :=
  ⟨h'.os.trans h.os, h'.tape.trans h.tape, h'.output.trans h.output⟩

/-! ### Runs of the base's monad, over a heap -/
/-- May the value lie in one cell? -/
def oneC : Value → Bool
  | .agg _ | .tuple _ => false
  | _ => true
def hwp {α : Type} (P : Program) : Sem α → Heap → (α → Heap → Prop) → (Value → Heap → Prop) → Prop
  | .pure a, H, Q, _ => Q a H
  | .load _ a k, H, Q, E => match cellH H a with
    | some v => hwp P (k v) H Q E
    | none => False
  | .store _ a v k, H, Q, E => oneC v = true ∧ (cellH H a).isSome = true ∧ frozenH H a = false ∧ hwp P k (setH H a v) Q E
  | .new o k, H, Q, E => hwp P (k H.size) (H.push o) Q E
  | .shape r k, H, Q, E => hwp P (k (shapeH H r)) H Q E
  | .freeze a n k, H, Q, E => hwp P k (freezeH H a n) Q E
  | .frozen a k, H, Q, E => hwp P (k (frozenH H a)) H Q E
  | .getObj r k, H, Q, E => match H[r]? with
    | some (.cells ..) => False
    | some o => hwp P (k o) H Q E
    | none => False
  | .setObj r o k, H, Q, E => match H[r]? with
    | some (.cells ..) => False
    | some _ => hwp P k (H.setIfInBounds r o) Q E
    | none => False
  | .choose q k, H, Q, E => if q.forced then hwp P (k 0) H Q E else ∀ n, hwp P (k (q.cut n)) H Q E
  | .sys _ _, _, _, _ => False
  | .program k, H, Q, E => hwp P (k P) H Q E
  | .mark _ k, H, Q, E => hwp P k H Q E
  | .halt h, H, _, E => match h with
    | .panic v => E v H
    | _ => False

def ResSat {α : Type} (w : World) (Q : α → Heap → Prop) (E : Value → Heap → Prop) : Result α → Prop
  | .ok a w' => Rest w w' ∧ Q a w'.heap
  | .halt (.panic v) w' => Rest w w' ∧ E v w'.heap
  | _ => False

theorem ResSat.base {α : Type} {w w1 : World} {Q : α → Heap → Prop} {E : Value → Heap → Prop} {r : Result α} (h : Rest w w1) (hr : ResSat w1 Q E r) : ResSat w Q E r := by
  cases r with
  | ok a w' => exact ⟨h.trans hr.1, hr.2⟩
  | halt x w' => cases x <;> first | exact ⟨h.trans hr.1, hr.2⟩ | exact hr.elim

theorem hwp_sound {α : Type} (P : Program) (e : Sem α) : ∀ (w : World) (Q : α → Heap → Prop) (E : Value → Heap → Prop),
    hwp P e w.heap Q E → ResSat w Q E (e.run P w) := by
  induction e with
  | pure a => intro w Q E h; exact ⟨Rest.refl _, h⟩
  | load m a k ih =>
    intro w Q E h
    simp only [hwp] at h
    have hc : w.cell? a = cellH w.heap a := rfl
    simp only [Sem.run, hc]
    cases hv : cellH w.heap a with
    | none => rw [hv] at h; exact h.elim
    | some v => rw [hv] at h; exact ih v w Q E h
  | store m a v k ih =>
    intro w Q E h
    obtain ⟨h1, h2, h3, h4⟩ := h
    have hc : w.cell? a = cellH w.heap a := rfl
    have hf : w.frozen? a = frozenH w.heap a := rfl
    obtain ⟨u, hu⟩ := Option.isSome_iff_exists.1 h2
    have hrun : (Sem.store m a v k).run P w = k.run P (w.setCell a v) := by
      cases v <;> simp [oneC] at h1 <;> simp [Sem.run, hc, hu, hf, h3]
    rw [hrun]
    exact ResSat.base (w1 := w.setCell a v) ⟨rfl, rfl, rfl⟩ (ih (w.setCell a v) Q E h4)
  | new o k ih => intro w Q E h; exact ResSat.base (w1 := { w with heap := w.heap.push o }) ⟨rfl, rfl, rfl⟩ (ih _ { w with heap := w.heap.push o } Q E h)
  | shape r k ih => intro w Q E h; exact ih _ w Q E h
  | freeze a n k ih =>
    intro w Q E h
    have e1 : (w.freeze a n).heap = freezeH w.heap a n := by unfold World.freeze freezeH; split <;> rfl
    have e2 : Rest w (w.freeze a n) := by unfold World.freeze; split <;> exact ⟨rfl, rfl, rfl⟩
    exact ResSat.base e2 (ih (w.freeze a n) Q E (e1 ▸ h))
  | frozen a k ih => intro w Q E h; exact ih _ w Q E h
  | getObj r k ih =>
    intro w Q E h
    simp only [hwp] at h
    simp only [Sem.run]
    cases hr : w.heap[r]? with
    | none => simp [hr] at h
    | some o => cases o <;> simp [hr] at h <;> exact ih _ w Q E h
  | setObj r o k ih =>
    intro w Q E h
    simp only [hwp] at h
    simp only [Sem.run]
    cases hr : w.heap[r]? with
    | none => simp [hr] at h
    | some o' => cases o' <;> simp [hr] at h <;> exact ResSat.base (w1 := { w with heap := w.heap.setIfInBounds r o }) ⟨rfl, rfl, rfl⟩ (ih { w with heap := w.heap.setIfInBounds r o } Q E h)
  | choose q k ih =>
    intro w Q E h
    simp only [hwp] at h
    simp only [Sem.run]
    cases hq : q.forced with
    | true => simp only [hq, if_true] at h ⊢; exact ih 0 w Q E h
    | false =>
      simp only [hq] at h ⊢
      exact ResSat.base (w1 := { w with drawn := w.drawn + 1 }) ⟨rfl, rfl, rfl⟩ (ih _ { w with drawn := w.drawn + 1 } Q E (h _))
  | sys c k ih => intro w Q E h; exact h.elim
  | program k ih => intro w Q E h; exact ih P w Q E h
  | mark m k ih => intro w Q E h; exact ih w Q E h
  | halt x =>
    intro w Q E h
    cases x <;> first | exact ⟨Rest.refl _, h⟩ | exact h.elim

theorem hwp_mono {α : Type} (P : Program) (e : Sem α) : ∀ (H : Heap) (Q Q' : α → Heap → Prop) (E E' : Value → Heap → Prop),
    (∀ a H, Q a H → Q' a H) → (∀ v H, E v H → E' v H) → hwp P e H Q E → hwp P e H Q' E' := by
  induction e with
  | pure a => intro H Q Q' E E' hq he h; exact hq _ _ h
  | load m a k ih =>
    intro H Q Q' E E' hq he h
    simp only [hwp] at h ⊢
    split <;> rename_i hv <;> rw [hv] at h
    · exact ih _ _ _ _ _ _ hq he h
    · exact h
  | store m a v k ih => intro H Q Q' E E' hq he h; exact ⟨h.1, h.2.1, h.2.2.1, ih _ _ _ _ _ hq he h.2.2.2⟩
  | new o k ih => intro H Q Q' E E' hq he h; exact ih _ _ _ _ _ _ hq he h
  | shape r k ih => intro H Q Q' E E' hq he h; exact ih _ _ _ _ _ _ hq he h
  | freeze a n k ih => intro H Q Q' E E' hq he h; exact ih _ _ _ _ _ hq he h
  | frozen a k ih => intro H Q Q' E E' hq he h; exact ih _ _ _ _ _ _ hq he h
  | getObj r k ih =>
    intro H Q Q' E E' hq he h
    simp only [hwp] at h ⊢
    cases hr : H[r]? with
    | none => simp [hr] at h
    | some o => cases o <;> simp [hr] at h <;> exact ih _ _ _ _ _ _ hq he h
  | setObj r o k ih =>
    intro H Q Q' E E' hq he h
    simp only [hwp] at h ⊢
    cases hr : H[r]? with
    | none => simp [hr] at h
    | some o' => cases o' <;> simp [hr] at h <;> exact ih _ _ _ _ _ hq he h
  | choose q k ih =>
    intro H Q Q' E E' hq he h
    simp only [hwp] at h ⊢
    split <;> rename_i hf
    · rw [if_pos hf] at h; exact ih _ _ _ _ _ _ hq he h
    · rw [if_neg hf] at h; exact fun n => ih _ _ _ _ _ _ hq he (h n)
  | sys c k ih => intro H Q Q' E E' hq he h; exact h
  | program k ih => intro H Q Q' E E' hq he h; exact ih _ _ _ _ _ _ hq he h
  | mark m k ih => intro H Q Q' E E' hq he h; exact ih _ _ _ _ _ hq he h
  | halt x => intro H Q Q' E E' hq he h; cases x <;> first | exact he _ _ h | exact h

/-- A run that reads alone, and answers. -/
def qrun {α : Type} (P : Program) : Sem α → Heap → Option α
  | .pure a, _ => some a
  | .load _ a k, H => match cellH H a with
    | some v => qrun P (k v) H
    | none => none
  | .shape r k, H => qrun P (k (shapeH H r)) H
  | .frozen a k, H => qrun P (k (frozenH H a)) H
  | .getObj r k, H => match H[r]? with
    | some (.cells ..) => none
    | some o => qrun P (k o) H
    | none => none
  | .program k, H => qrun P (k P) H
  | .mark _ k, H => qrun P k H
  | _, _ => none

theorem qrun_sound {α : Type} (P : Program) (e : Sem α) : ∀ (w : World) (a : α), qrun P e w.heap = some a → e.run P w = .ok a w := by
  induction e with
  | pure a => intro w b h; simp only [qrun, Option.some.injEq] at h; subst h; rfl
  | load m a k ih =>
    intro w b h
    simp only [qrun] at h
    have hc : w.cell? a = cellH w.heap a := rfl
    simp only [Sem.run, hc]
    cases hv : cellH w.heap a with
    | none => simp [hv] at h
    | some v => rw [hv] at h; exact ih v w b h
  | shape r k ih => intro w b h; exact ih _ w b h
  | frozen a k ih => intro w b h; exact ih _ w b h
  | getObj r k ih =>
    intro w b h
    simp only [qrun] at h
    simp only [Sem.run]
    cases hr : w.heap[r]? with
    | none => simp [hr] at h
    | some o => cases o <;> simp [hr] at h <;> exact ih _ w b h
  | program k ih => intro w b h; exact ih P w b h
  | mark m k ih => intro w b h; exact ih w b h
  | _ => intro w b h; simp [qrun] at h

theorem hwp_of_qrun {α : Type} (P : Program) (e : Sem α) : ∀ (H : Heap) (a : α) (Q : α → Heap → Prop) (E : Value → Heap → Prop),
    qrun P e H = some a → Q a H → hwp P e H Q E := by
  induction e with
  | pure a => intro H b Q E h hq; simp only [qrun, Option.some.injEq] at h; subst h; exact hq
  | load m a k ih =>
    intro H b Q E h hq
    simp only [qrun] at h
    simp only [hwp]
    cases hv : cellH H a with
    | none => simp [hv] at h
    | some v => rw [hv] at h; exact ih v H b Q E h hq
  | shape r k ih => intro H b Q E h hq; exact ih _ H b Q E h hq
  | frozen a k ih => intro H b Q E h hq; exact ih _ H b Q E h hq
  | getObj r k ih =>
    intro H b Q E h hq
    simp only [qrun] at h
    simp only [hwp]
    cases hr : H[r]? with
    | none => simp [hr] at h
    | some o => cases o <;> simp [hr] at h <;> exact ih _ H b Q E h hq
  | program k ih => intro H b Q E h hq; exact ih P H b Q E h hq
  | mark m k ih => intro H b Q E h hq; exact ih H b Q E h hq
  | _ => intro H b Q E h hq; simp [qrun] at h

theorem hwp_bind {α β : Type} (P : Program) (e : Sem α) (f : α → Sem β) : ∀ (H : Heap) (Q : β → Heap → Prop) (E : Value → Heap → Prop),
    hwp P (e.bind f) H Q E = hwp P e H (fun a H' => hwp P (f a) H' Q E) E := by
  induction e with
  | pure a => intro H Q E; rfl
  | load m a k ih => intro H Q E; simp only [Sem.bind, hwp]; cases cellH H a <;> simp [ih]
  | store m a v k ih => intro H Q E; simp only [Sem.bind, hwp, ih]
  | new o k ih => intro H Q E; simp only [Sem.bind, hwp, ih]
  | shape r k ih => intro H Q E; simp only [Sem.bind, hwp, ih]
  | freeze a n k ih => intro H Q E; simp only [Sem.bind, hwp, ih]
  | frozen a k ih => intro H Q E; simp only [Sem.bind, hwp, ih]
  | getObj r k ih =>
    intro H Q E
    simp only [Sem.bind, hwp]
    cases H[r]? with
    | none => rfl
    | some o => cases o <;> simp [ih]
  | setObj r o k ih =>
    intro H Q E
    simp only [Sem.bind, hwp]
    cases H[r]? with
    | none => rfl
    | some o' => cases o' <;> simp [ih]
  | choose q k ih => intro H Q E; simp only [Sem.bind, hwp, ih]
  | sys c k ih => intro H Q E; rfl
  | program k ih => intro H Q E; simp only [Sem.bind, hwp, ih]
  | mark m k ih => intro H Q E; simp only [Sem.bind, hwp, ih]
  | halt x => intro H Q E; rfl
theorem hwp_bind' {α β : Type} (P : Program) (e : Sem α) (f : α → Sem β) (H : Heap) (Q : β → Heap → Prop) (E : Value → Heap → Prop) :
    hwp P (e >>= f) H Q E = hwp P e H (fun a H' => hwp P (f a) H' Q E) E := hwp_bind P e f H Q E
theorem hwp_pure {α : Type} (P : Program) (a : α) (H : Heap) (Q : α → Heap → Prop) (E : Value → Heap → Prop) : hwp P (Pure.pure a) H Q E = Q a H := rfl

theorem qrun_bind {α β : Type} (P : Program) (e : Sem α) (f : α → Sem β) : ∀ (H : Heap), qrun P (e.bind f) H = (qrun P e H).bind fun a => qrun P (f a) H := by
  induction e with
  | pure a => intro H; rfl
  | load m a k ih => intro H; simp only [Sem.bind, qrun]; cases cellH H a <;> simp [ih]
  | shape r k ih => intro H; simp only [Sem.bind, qrun, ih]
  | frozen a k ih => intro H; simp only [Sem.bind, qrun, ih]
  | getObj r k ih =>
    intro H
    simp only [Sem.bind, qrun]
    cases H[r]? with
    | none => rfl
    | some o => cases o <;> simp [ih]
  | program k ih => intro H; simp only [Sem.bind, qrun, ih]
  | mark m k ih => intro H; simp only [Sem.bind, qrun, ih]
  | _ => intro H; rfl
theorem qrun_bind' {α β : Type} (P : Program) (e : Sem α) (f : α → Sem β) (H : Heap) : qrun P (e >>= f) H = (qrun P e H).bind fun a => qrun P (f a) H := qrun_bind P e f H

end Go.HL
