
/- Environments, calls over heaps, the condition of one operation. -/
import Derived.Test.YtndbdehpkiimjaaGreatHLCore
namespace Go.HL

structure En where
  get : Nat → Value
  ds : List Deferred
def En.ev (ρ : En) : Operand → Value
  | .tmp t => ρ.get t
  | .const v => v
  | .global g => .pointer (some ⟨g, 0, none⟩)
  | .func f => .func (.func f) #[] #[]
def En.put (n : Nat) (ρ : En) (dst : Option Nat) (v : Value) : En :=
  match dst with
  | some d => { ρ with get := fun t => if t = d ∧ d < n then v else ρ.get t }
  | none => ρ

def Ag (n : Nat) (a : Act) (ρ : En) : Prop := a.tmps.size = n ∧ (∀ t, a.tmps.getD t undef = ρ.get t) ∧ a.defers = ρ.ds

theorem Ag.ev {n : Nat} {a : Act} {ρ : En} (h : Ag n a ρ) : a.eval = ρ.ev := by
  funext x
  cases x with
  | tmp t => exact h.2.1 t
  | _ => rfl
theorem Ag.put {n : Nat} {a : Act} {ρ : En} (h : Ag n a ρ) (dst : Option Nat) (v : Value) : Ag n (a.put dst v) (ρ.put n dst v) := by
  cases dst with
  | none => exact h
  | some d =>
    refine ⟨by simp [Act.put, h.1], fun t => ?_, h.2.2⟩
    simp only [Act.put, En.put]
    have hs := h.1
    have ht := h.2.1 t
    rw [Array.getD_eq_getD_getElem?] at ht ⊢
    rw [Array.getElem?_setIfInBounds]
    by_cases e : d = t
    · subst e
      by_cases hd : d < n
      · simp [hs, hd]
      · simp only [hs, hd, if_true, if_false, and_false]
        rw [← ht]; rw [Array.getElem?_eq_none (by omega)]
    · have e' : ¬ t = d := fun x => e x.symm
      simp [e, e', ht]

def HCalls (P : Program) (f : FuncId) (args : Array Value) (H : Heap) (R : Value → Heap → Prop) (E : List PanicEntry → Heap → Prop) : Prop :=
  ∀ w : World, w.heap = H → Calls P f args w fun e w' => Rest w w' ∧ match e with
    | .returned v => R v w'.heap
    | .panicked c => E c w'.heap
    | .outgrown => False

theorem HCalls.mono {P : Program} {f : FuncId} {args : Array Value} {H : Heap} {R R' : Value → Heap → Prop} {E E' : List PanicEntry → Heap → Prop}
    (h : HCalls P f args H R E) (hr : ∀ v H', R v H' → R' v H') (he : ∀ c H', E c H' → E' c H') : HCalls P f args H R' E' :=
  fun w hw => (h w hw).mono fun e w' ⟨hrest, hx⟩ => ⟨hrest, by cases e <;> first | exact hr _ _ hx | exact he _ _ hx | exact hx⟩

def nextWp (n : Nat) (P : Program) (dst : Option Nat) (ρ : En) (K : En → Heap → Prop) (Q : Exit → En → Heap → Prop) : Next → Heap → Prop
  | .value v, H => K (ρ.put n dst v) H
  | .skip, H => K (ρ.put n dst undef) H
  | .defer d, H => K (En.put n { ρ with ds := d :: ρ.ds } dst undef) H
  | .enter f args, H => HCalls P f args H (fun v H' => K (ρ.put n dst v) H') (fun c H' => Q (.panic c) ρ H')
  | _, _ => False
def opWp (n : Nat) (P : Program) (o : Oper) (ρ : En) (H : Heap) (K : En → Heap → Prop) (Q : Exit → En → Heap → Prop) : Prop :=
  hwp P (execOp ρ.ev o) H (nextWp n P o.dst ρ K Q) (fun v H' => Q (.panic [{ v, recovered := false }]) ρ H')

def up (n : Nat) (w0 : World) (K : En → Heap → Prop) (a : Act) (w : World) : Prop := Rest w0 w ∧ ∃ ρ, Ag n a ρ ∧ K ρ w.heap
def upQ (n : Nat) (w0 : World) (Q : Exit → En → Heap → Prop) (e : Exit) (a : Act) (w : World) : Prop := Rest w0 w ∧ ∃ ρ, Ag n a ρ ∧ Q e ρ w.heap

theorem opWp_sound {n : Nat} {P : Program} {o : Oper} {ρ : En} {K : En → Heap → Prop} {Q : Exit → En → Heap → Prop} {w0 w : World} {a : Act}
    (h0 : Rest w0 w) (ha : Ag n a ρ) (h : opWp n P o ρ w.heap K Q) : o.wp P a w (up n w0 K) (upQ n w0 Q) := by
  unfold Oper.wp
  rw [ha.ev]
  have hs := hwp_sound P _ w _ _ h
  generalize (execOp ρ.ev o).run P w = r at hs
  cases r with
  | ok x w' =>
    obtain ⟨hr, hn⟩ := hs
    have h1 := h0.trans hr
    cases x with
    | value v => exact ⟨h1, _, ha.put _ _, hn⟩
    | skip => exact ⟨h1, _, ha.put _ _, hn⟩
    | defer d =>
      refine ⟨h1, _, Ag.put (a := { a with defers := d :: a.defers }) (ρ := { ρ with ds := d :: ρ.ds }) ⟨ha.1, ha.2.1, ?_⟩ _ _, hn⟩
      show d :: a.defers = d :: ρ.ds
      rw [ha.2.2]
    | enter f args =>
      refine (hn w' rfl).mono fun e w'' ⟨hr', hx⟩ => ?_
      have h2 := h1.trans hr'
      cases e with
      | returned v => exact ⟨h2, _, ha.put _ _, hx⟩
      | panicked c => exact ⟨h2, _, ha, hx⟩
      | outgrown => exact hx.elim
    | _ => exact hn.elim
  | halt x w' =>
    cases x with
    | panic v => exact ⟨h0.trans hs.1, _, ha, hs.2⟩
    | _ => exact hs.elim

end Go.HL
