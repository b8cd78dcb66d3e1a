/- Texts of this proof, put together: HLCore, HLEn, HLOps, HLOpV, HLCode, HLVc. The conditions of each theorem stand in it. -/
import Derived.Calls
import Derived.LoopN
import Derived.Orders
import Derived.Laws.Sem
import Derived.KernelRfl
import Derived.IntWalk
set_option linter.unusedSimpArgs false
set_option linter.unusedVariables false
namespace Go.HL
abbrev Heap:=Array Obj
def cellH (H:Heap) (a:Addr):Option Value :=
 match H[a.block]? with
 | some (.cells c _ _)=>if a.spot.isSome then none else c[a.off]?
 | _=>none
def frozenH (H:Heap) (a:Addr):Bool :=
 match H[a.block]? with
 | some (.cells _ _ (lo,hi))=>lo≤a.off && a.off < hi
 | _=>false
def setH (H:Heap) (a:Addr) (v:Value):Heap :=
 H.modify a.block fun
  | .cells c elem frozen=>.cells (if a.spot.isSome then c else c.setIfInBounds a.off v) elem frozen
  | o=>o
def shapeH (H:Heap) (r:Nat):Option (TypeId × Nat) :=
 match H[r]? with
 | some (.cells c elem _)=>some (elem,c.size)
 | _=>none
def freezeH (H:Heap) (a:Addr) (n:Nat):Heap :=
 if n=0 then H else
 H.modify a.block fun
   | .cells c elem (lo,hi)=>.cells c elem (if lo == hi then (a.off,a.off + n) else (min lo a.off,max hi (a.off + n)))
   | o=>o
structure Rest (w w':World):Prop where
 os:w'.os=w.os
 tape:w'.tape=w.tape
 output:w'.output=w.output
theorem Rest.refl (w:World):Rest w w:=⟨rfl,rfl,rfl⟩
theorem Rest.trans {w w' w'':World} (h:Rest w w') (h':Rest w' w''):Rest w w'' :=
 ⟨h'.os.trans h.os,h'.tape.trans h.tape,h'.output.trans h.output⟩
def oneC:Value→Bool
 | .agg _ | .tuple _=>false
 | _=>true
def hwp {α:Type} (P:Program):Sem α→Heap→(α→Heap→Prop)→(Value→Heap→Prop)→Prop
 | .pure a,H,Q,_=>Q a H
 | .load _ a k,H,Q,E=>match cellH H a with
  | some v=>hwp P (k v) H Q E
  | none=>False
 | .store _ a v k,H,Q,E=>oneC v=true∧(cellH H a).isSome=true∧frozenH H a=false∧hwp P k (setH H a v) Q E
 | .new o k,H,Q,E=>hwp P (k H.size) (H.push o) Q E
 | .shape r k,H,Q,E=>hwp P (k (shapeH H r)) H Q E
 | .freeze a n k,H,Q,E=>hwp P k (freezeH H a n) Q E
 | .frozen a k,H,Q,E=>hwp P (k (frozenH H a)) H Q E
 | .getObj r k,H,Q,E=>match H[r]? with
  | some (.cells ..)=>False
  | some o=>hwp P (k o) H Q E
  | none=>False
 | .setObj r o k,H,Q,E=>match H[r]? with
  | some (.cells ..)=>False
  | some _=>hwp P k (H.setIfInBounds r o) Q E
  | none=>False
 | .choose q k,H,Q,E=>if q.forced then hwp P (k 0) H Q E else ∀ n,hwp P (k (q.cut n)) H Q E
 | .sys _ _,_,_,_=>False
 | .program k,H,Q,E=>hwp P (k P) H Q E
 | .mark _ k,H,Q,E=>hwp P k H Q E
 | .halt h,H,_,E=>match h with
  | .panic v=>E v H
  | _=>False
def ResSat {α:Type} (w:World) (Q:α→Heap→Prop) (E:Value→Heap→Prop):Result α→Prop
 | .ok a w'=>Rest w w'∧Q a w'.heap
 | .halt (.panic v) w'=>Rest w w'∧E v w'.heap
 | _=>False
theorem ResSat.base {α:Type} {w w1:World} {Q:α→Heap→Prop} {E:Value→Heap→Prop} {r:Result α} (h:Rest w w1) (hr:ResSat w1 Q E r):ResSat w Q E r:=by
 cases r with
 | ok a w'=>exact ⟨h.trans hr.1,hr.2⟩
 | halt x w'=>cases x <;> first | exact ⟨h.trans hr.1,hr.2⟩ | exact hr.elim
theorem hwp_sound {α:Type} (P:Program) (e:Sem α):∀ (w:World) (Q:α→Heap→Prop) (E:Value→Heap→Prop),
  hwp P e w.heap Q E→ResSat w Q E (e.run P w):=by
 induction e with
 | pure a=>intro w Q E h; exact ⟨Rest.refl _,h⟩
 | load m a k ih =>
  intro w Q E h
  simp only [hwp] at h
  have hc:w.cell? a=cellH w.heap a:=rfl
  simp only [Sem.run,hc]
  cases hv:cellH w.heap a with
  | none=>rw [hv] at h; exact h.elim
  | some v=>rw [hv] at h; exact ih v w Q E h
 | store m a v k ih =>
  intro w Q E h
  obtain ⟨h1,h2,h3,h4⟩:=h
  have hc:w.cell? a=cellH w.heap a:=rfl
  have hf:w.frozen? a=frozenH w.heap a:=rfl
  obtain ⟨u,hu⟩:=Option.isSome_iff_exists.1 h2
  have hrun:(Sem.store m a v k).run P w=k.run P (w.setCell a v):=by
   cases v <;> simp [oneC] at h1 <;> simp [Sem.run,hc,hu,hf,h3]
  rw [hrun]
  exact ResSat.base (w1:=w.setCell a v) ⟨rfl,rfl,rfl⟩ (ih (w.setCell a v) Q E h4)
 | new o k ih=>intro w Q E h; exact ResSat.base (w1:={ w with heap:=w.heap.push o }) ⟨rfl,rfl,rfl⟩ (ih _ { w with heap:=w.heap.push o } Q E h)
 | shape r k ih=>intro w Q E h; exact ih _ w Q E h
 | freeze a n k ih =>
  intro w Q E h
  have e1:(w.freeze a n).heap=freezeH w.heap a n:=by unfold World.freeze freezeH; split <;> rfl
  have e2:Rest w (w.freeze a n):=by unfold World.freeze; split <;> exact ⟨rfl,rfl,rfl⟩
  exact ResSat.base e2 (ih (w.freeze a n) Q E (e1 ▸ h))
 | frozen a k ih=>intro w Q E h; exact ih _ w Q E h
 | getObj r k ih =>
  intro w Q E h
  simp only [hwp] at h
  simp only [Sem.run]
  cases hr:w.heap[r]? with
  | none=>simp [hr] at h
  | some o=>cases o <;> simp [hr] at h <;> exact ih _ w Q E h
 | setObj r o k ih =>
  intro w Q E h
  simp only [hwp] at h
  simp only [Sem.run]
  cases hr:w.heap[r]? with
  | none=>simp [hr] at h
  | some o'=>cases o' <;> simp [hr] at h <;> exact ResSat.base (w1:={ w with heap:=w.heap.setIfInBounds r o }) ⟨rfl,rfl,rfl⟩ (ih { w with heap:=w.heap.setIfInBounds r o } Q E h)
 | choose q k ih =>
  intro w Q E h
  simp only [hwp] at h
  simp only [Sem.run]
  cases hq:q.forced with
  | true=>simp only [hq,if_true] at h ⊢; exact ih 0 w Q E h
  | false =>
   simp only [hq] at h ⊢
   exact ResSat.base (w1:={ w with drawn:=w.drawn + 1 }) ⟨rfl,rfl,rfl⟩ (ih _ { w with drawn:=w.drawn + 1 } Q E (h _))
 | sys c k ih=>intro w Q E h; exact h.elim
 | program k ih=>intro w Q E h; exact ih P w Q E h
 | mark m k ih=>intro w Q E h; exact ih w Q E h
 | halt x =>
  intro w Q E h
  cases x <;> first | exact ⟨Rest.refl _,h⟩ | exact h.elim
theorem hwp_mono {α:Type} (P:Program) (e:Sem α):∀ (H:Heap) (Q Q':α→Heap→Prop) (E E':Value→Heap→Prop),
  (∀ a H,Q a H→Q' a H)→(∀ v H,E v H→E' v H)→hwp P e H Q E→hwp P e H Q' E':=by
 induction e with
 | pure a=>intro H Q Q' E E' hq he h; exact hq _ _ h
 | load m a k ih =>
  intro H Q Q' E E' hq he h
  simp only [hwp] at h ⊢
  split <;> rename_i hv <;> rw [hv] at h
  ·exact ih _ _ _ _ _ _ hq he h
  ·exact h
 | store m a v k ih=>intro H Q Q' E E' hq he h; exact ⟨h.1,h.2.1,h.2.2.1,ih _ _ _ _ _ hq he h.2.2.2⟩
 | new o k ih=>intro H Q Q' E E' hq he h; exact ih _ _ _ _ _ _ hq he h
 | shape r k ih=>intro H Q Q' E E' hq he h; exact ih _ _ _ _ _ _ hq he h
 | freeze a n k ih=>intro H Q Q' E E' hq he h; exact ih _ _ _ _ _ hq he h
 | frozen a k ih=>intro H Q Q' E E' hq he h; exact ih _ _ _ _ _ _ hq he h
 | getObj r k ih =>
  intro H Q Q' E E' hq he h
  simp only [hwp] at h ⊢
  cases hr:H[r]? with
  | none=>simp [hr] at h
  | some o=>cases o <;> simp [hr] at h <;> exact ih _ _ _ _ _ _ hq he h
 | setObj r o k ih =>
  intro H Q Q' E E' hq he h
  simp only [hwp] at h ⊢
  cases hr:H[r]? with
  | none=>simp [hr] at h
  | some o'=>cases o' <;> simp [hr] at h <;> exact ih _ _ _ _ _ hq he h
 | choose q k ih =>
  intro H Q Q' E E' hq he h
  simp only [hwp] at h ⊢
  split <;> rename_i hf
  ·rw [if_pos hf] at h; exact ih _ _ _ _ _ _ hq he h
  ·rw [if_neg hf] at h; exact fun n=>ih _ _ _ _ _ _ hq he (h n)
 | sys c k ih=>intro H Q Q' E E' hq he h; exact h
 | program k ih=>intro H Q Q' E E' hq he h; exact ih _ _ _ _ _ _ hq he h
 | mark m k ih=>intro H Q Q' E E' hq he h; exact ih _ _ _ _ _ hq he h
 | halt x=>intro H Q Q' E E' hq he h; cases x <;> first | exact he _ _ h | exact h
def qrun {α:Type} (P:Program):Sem α→Heap→Option α
 | .pure a,_=>some a
 | .load _ a k,H=>match cellH H a with
  | some v=>qrun P (k v) H
  | none=>none
 | .shape r k,H=>qrun P (k (shapeH H r)) H
 | .frozen a k,H=>qrun P (k (frozenH H a)) H
 | .getObj r k,H=>match H[r]? with
  | some (.cells ..)=>none
  | some o=>qrun P (k o) H
  | none=>none
 | .program k,H=>qrun P (k P) H
 | .mark _ k,H=>qrun P k H
 | _,_=>none
theorem qrun_sound {α:Type} (P:Program) (e:Sem α):∀ (w:World) (a:α),qrun P e w.heap=some a→e.run P w=.ok a w:=by
 induction e with
 | pure a=>intro w b h; simp only [qrun,Option.some.injEq] at h; subst h; rfl
 | load m a k ih =>
  intro w b h
  simp only [qrun] at h
  have hc:w.cell? a=cellH w.heap a:=rfl
  simp only [Sem.run,hc]
  cases hv:cellH w.heap a with
  | none=>simp [hv] at h
  | some v=>rw [hv] at h; exact ih v w b h
 | shape r k ih=>intro w b h; exact ih _ w b h
 | frozen a k ih=>intro w b h; exact ih _ w b h
 | getObj r k ih =>
  intro w b h
  simp only [qrun] at h
  simp only [Sem.run]
  cases hr:w.heap[r]? with
  | none=>simp [hr] at h
  | some o=>cases o <;> simp [hr] at h <;> exact ih _ w b h
 | program k ih=>intro w b h; exact ih P w b h
 | mark m k ih=>intro w b h; exact ih w b h
 | _=>intro w b h; simp [qrun] at h
theorem hwp_of_qrun {α:Type} (P:Program) (e:Sem α):∀ (H:Heap) (a:α) (Q:α→Heap→Prop) (E:Value→Heap→Prop),
  qrun P e H=some a→Q a H→hwp P e H Q E:=by
 induction e with
 | pure a=>intro H b Q E h hq; simp only [qrun,Option.some.injEq] at h; subst h; exact hq
 | load m a k ih =>
  intro H b Q E h hq
  simp only [qrun] at h
  simp only [hwp]
  cases hv:cellH H a with
  | none=>simp [hv] at h
  | some v=>rw [hv] at h; exact ih v H b Q E h hq
 | shape r k ih=>intro H b Q E h hq; exact ih _ H b Q E h hq
 | frozen a k ih=>intro H b Q E h hq; exact ih _ H b Q E h hq
 | getObj r k ih =>
  intro H b Q E h hq
  simp only [qrun] at h
  simp only [hwp]
  cases hr:H[r]? with
  | none=>simp [hr] at h
  | some o=>cases o <;> simp [hr] at h <;> exact ih _ H b Q E h hq
 | program k ih=>intro H b Q E h hq; exact ih P H b Q E h hq
 | mark m k ih=>intro H b Q E h hq; exact ih H b Q E h hq
 | _=>intro H b Q E h hq; simp [qrun] at h
theorem hwp_bind {α β:Type} (P:Program) (e:Sem α) (f:α→Sem β):∀ (H:Heap) (Q:β→Heap→Prop) (E:Value→Heap→Prop),
  hwp P (e.bind f) H Q E=hwp P e H (fun a H'=>hwp P (f a) H' Q E) E:=by
 induction e with
 | pure a=>intro H Q E; rfl
 | load m a k ih=>intro H Q E; simp only [Sem.bind,hwp]; cases cellH H a <;> simp [ih]
 | store m a v k ih=>intro H Q E; simp only [Sem.bind,hwp,ih]
 | new o k ih=>intro H Q E; simp only [Sem.bind,hwp,ih]
 | shape r k ih=>intro H Q E; simp only [Sem.bind,hwp,ih]
 | freeze a n k ih=>intro H Q E; simp only [Sem.bind,hwp,ih]
 | frozen a k ih=>intro H Q E; simp only [Sem.bind,hwp,ih]
 | getObj r k ih =>
  intro H Q E
  simp only [Sem.bind,hwp]
  cases H[r]? with
  | none=>rfl
  | some o=>cases o <;> simp [ih]
 | setObj r o k ih =>
  intro H Q E
  simp only [Sem.bind,hwp]
  cases H[r]? with
  | none=>rfl
  | some o'=>cases o' <;> simp [ih]
 | choose q k ih=>intro H Q E; simp only [Sem.bind,hwp,ih]
 | sys c k ih=>intro H Q E; rfl
 | program k ih=>intro H Q E; simp only [Sem.bind,hwp,ih]
 | mark m k ih=>intro H Q E; simp only [Sem.bind,hwp,ih]
 | halt x=>intro H Q E; rfl
theorem hwp_bind' {α β:Type} (P:Program) (e:Sem α) (f:α→Sem β) (H:Heap) (Q:β→Heap→Prop) (E:Value→Heap→Prop) :
  hwp P (e >>= f) H Q E=hwp P e H (fun a H'=>hwp P (f a) H' Q E) E:=hwp_bind P e f H Q E
theorem hwp_pure {α:Type} (P:Program) (a:α) (H:Heap) (Q:α→Heap→Prop) (E:Value→Heap→Prop):hwp P (Pure.pure a) H Q E=Q a H:=rfl
theorem qrun_bind {α β:Type} (P:Program) (e:Sem α) (f:α→Sem β):∀ (H:Heap),qrun P (e.bind f) H=(qrun P e H).bind fun a=>qrun P (f a) H:=by
 induction e with
 | pure a=>intro H; rfl
 | load m a k ih=>intro H; simp only [Sem.bind,qrun]; cases cellH H a <;> simp [ih]
 | shape r k ih=>intro H; simp only [Sem.bind,qrun,ih]
 | frozen a k ih=>intro H; simp only [Sem.bind,qrun,ih]
 | getObj r k ih =>
  intro H
  simp only [Sem.bind,qrun]
  cases H[r]? with
  | none=>rfl
  | some o=>cases o <;> simp [ih]
 | program k ih=>intro H; simp only [Sem.bind,qrun,ih]
 | mark m k ih=>intro H; simp only [Sem.bind,qrun,ih]
 | _=>intro H; rfl
theorem qrun_bind' {α β:Type} (P:Program) (e:Sem α) (f:α→Sem β) (H:Heap):qrun P (e >>= f) H=(qrun P e H).bind fun a=>qrun P (f a) H:=qrun_bind P e f H
end Go.HL
namespace Go.HL
structure En where
 get:Nat→Value
 ds:List Deferred
def En.ev (ρ:En):Operand→Value
 | .tmp t=>ρ.get t
 | .const v=>v
 | .global g=>.pointer (some ⟨g,0,none⟩)
 | .func f=>.func (.func f) #[] #[]
def En.put (n:Nat) (ρ:En) (dst:Option Nat) (v:Value):En :=
 match dst with
 | some d=>{ ρ with get:=fun t=>if t=d∧d < n then v else ρ.get t }
 | none=>ρ
def Ag (n:Nat) (a:Act) (ρ:En):Prop:=a.tmps.size=n∧(∀ t,a.tmps.getD t undef=ρ.get t)∧a.defers=ρ.ds
theorem Ag.ev {n:Nat} {a:Act} {ρ:En} (h:Ag n a ρ):a.eval=ρ.ev:=by
 funext x
 cases x with
 | tmp t=>exact h.2.1 t
 | _=>rfl
theorem Ag.put {n:Nat} {a:Act} {ρ:En} (h:Ag n a ρ) (dst:Option Nat) (v:Value):Ag n (a.put dst v) (ρ.put n dst v):=by
 cases dst with
 | none=>exact h
 | some d =>
  refine ⟨by simp [Act.put,h.1],fun t=>?_,h.2.2⟩
  simp only [Act.put,En.put]
  have hs:=h.1
  have ht:=h.2.1 t
  rw [Array.getD_eq_getD_getElem?] at ht ⊢
  rw [Array.getElem?_setIfInBounds]
  by_cases e:d=t
  ·subst e
   by_cases hd:d < n
   ·simp [hs,hd]
   ·simp only [hs,hd,if_true,if_false,and_false]
    rw [← ht]; rw [Array.getElem?_eq_none (by omega)]
  ·have e':¬ t=d:=fun x=>e x.symm
   simp [e,e',ht]
def HCalls (P:Program) (f:FuncId) (args:Array Value) (H:Heap) (R:Value→Heap→Prop) (E:List PanicEntry→Heap→Prop):Prop :=
 ∀ w:World,w.heap=H→Calls P f args w fun e w'=>Rest w w'∧match e with
  | .returned v=>R v w'.heap
  | .panicked c=>E c w'.heap
  | .outgrown=>False
theorem HCalls.mono {P:Program} {f:FuncId} {args:Array Value} {H:Heap} {R R':Value→Heap→Prop} {E E':List PanicEntry→Heap→Prop}
  (h:HCalls P f args H R E) (hr:∀ v H',R v H'→R' v H') (he:∀ c H',E c H'→E' c H'):HCalls P f args H R' E' :=
 fun w hw=>(h w hw).mono fun e w' ⟨hrest,hx⟩=>⟨hrest,by cases e <;> first | exact hr _ _ hx | exact he _ _ hx | exact hx⟩
def nextWp (n:Nat) (P:Program) (dst:Option Nat) (ρ:En) (K:En→Heap→Prop) (Q:Exit→En→Heap→Prop):Next→Heap→Prop
 | .value v,H=>K (ρ.put n dst v) H
 | .skip,H=>K (ρ.put n dst undef) H
 | .defer d,H=>K (En.put n { ρ with ds:=d :: ρ.ds } dst undef) H
 | .enter f args,H=>HCalls P f args H (fun v H'=>K (ρ.put n dst v) H') (fun c H'=>Q (.panic c) ρ H')
 | _,_=>False
def opWp (n:Nat) (P:Program) (o:Oper) (ρ:En) (H:Heap) (K:En→Heap→Prop) (Q:Exit→En→Heap→Prop):Prop :=
 hwp P (execOp ρ.ev o) H (nextWp n P o.dst ρ K Q) (fun v H'=>Q (.panic [{ v,recovered:=false }]) ρ H')
def up (n:Nat) (w0:World) (K:En→Heap→Prop) (a:Act) (w:World):Prop:=Rest w0 w∧∃ ρ,Ag n a ρ∧K ρ w.heap
def upQ (n:Nat) (w0:World) (Q:Exit→En→Heap→Prop) (e:Exit) (a:Act) (w:World):Prop:=Rest w0 w∧∃ ρ,Ag n a ρ∧Q e ρ w.heap
theorem opWp_sound {n:Nat} {P:Program} {o:Oper} {ρ:En} {K:En→Heap→Prop} {Q:Exit→En→Heap→Prop} {w0 w:World} {a:Act}
  (h0:Rest w0 w) (ha:Ag n a ρ) (h:opWp n P o ρ w.heap K Q):o.wp P a w (up n w0 K) (upQ n w0 Q):=by
 unfold Oper.wp
 rw [ha.ev]
 have hs:=hwp_sound P _ w _ _ h
 generalize (execOp ρ.ev o).run P w=r at hs
 cases r with
 | ok x w' =>
  obtain ⟨hr,hn⟩:=hs
  have h1:=h0.trans hr
  cases x with
  | value v=>exact ⟨h1,_,ha.put _ _,hn⟩
  | skip=>exact ⟨h1,_,ha.put _ _,hn⟩
  | defer d =>
   refine ⟨h1,_,Ag.put (a:={ a with defers:=d :: a.defers }) (ρ:={ ρ with ds:=d :: ρ.ds }) ⟨ha.1,ha.2.1,?_⟩ _ _,hn⟩
   show d :: a.defers=d :: ρ.ds
   rw [ha.2.2]
  | enter f args =>
   refine (hn w' rfl).mono fun e w'' ⟨hr',hx⟩=>?_
   have h2:=h1.trans hr'
   cases e with
   | returned v=>exact ⟨h2,_,ha.put _ _,hx⟩
   | panicked c=>exact ⟨h2,_,ha,hx⟩
   | outgrown=>exact hx.elim
  | _=>exact hn.elim
 | halt x w' =>
  cases x with
  | panic v=>exact ⟨h0.trans hs.1,_,ha,hs.2⟩
  | _=>exact hs.elim
end Go.HL
namespace Go.HL
def underT (P:Program) (t:TypeId):Option TypeDesc:=P.underlying t
def sizeT (P:Program) (t:TypeId):Option Nat:=(P.info? t).map (·.size)
def bytesT (P:Program) (t:TypeId):Option Nat:=(P.info? t).map (·.bytes)
def zeroT (P:Program) (t:TypeId):Option Value:=(P.info? t).bind (·.zero)
def aggN (P:Program) (t:TypeId):Option (Option Nat) :=
 match P.underlying t with
 | some (.struct _) | some (.array _ _)=>(sizeT P t).map some
 | some _=>some none
 | none=>none
def fieldT (P:Program) (s:TypeId) (f:Nat):Option (Nat × TypeId) :=
 match P.underlying s with
 | some (.struct fields)=>(fields[f]?).map fun x=>(x.offset,x.type)
 | _=>none
def elemT (P:Program) (t:TypeId):Option TypeId :=
 match P.underlying t with
 | some (.slice e)=>some e
 | _=>none
def arrT (P:Program) (t:TypeId):Option (Nat × TypeId) :=
 match P.underlying t with
 | some (.array n e)=>some (n,e)
 | _=>none
def fieldO (P:Program) (s:TypeId) (f:Nat):Option Nat :=
 (fieldT P s f).bind fun x=>(sizeT P x.2).bind fun z=>if z=0 then none else some x.1
def elemS (P:Program) (t:TypeId):Option Nat:=(elemT P t).bind (sizeT P)
def arrS (P:Program) (t:TypeId):Option (Nat × Nat):=(arrT P t).bind fun e=>(sizeT P e.2).map fun z=>(e.1,z)
def chk {α:Type} (p:Prop) [Decidable p] (x:Option α):Option α:=if p then x else none
theorem chk_some {α:Type} {p:Prop} [Decidable p] {x:Option α} {a:α} (h:chk p x=some a):p∧x=some a:=by
 unfold chk at h; split at h
 ·rename_i hp; exact ⟨hp,h⟩
 ·simp at h
theorem qrun_typeInfo {P:Program} {t:TypeId} {i:TypeInfo} (h:P.info? t=some i) (H:Heap):qrun P (typeInfo t) H=some i:=by
 unfold typeInfo; rw [qrun_bind']; simp only [program,qrun,Option.bind_some,h]; rfl
theorem qrun_underlying {P:Program} {t:TypeId} {d:TypeDesc} (h:P.underlying t=some d) (H:Heap):qrun P (underlying t) H=some d:=by
 unfold underlying; rw [qrun_bind']; simp only [program,qrun,Option.bind_some,h]; rfl
theorem qrun_sizeOf {P:Program} {t:TypeId} {n:Nat} (h:sizeT P t=some n) (H:Heap):qrun P (sizeOf t) H=some n:=by
 unfold sizeT at h
 cases hi:P.info? t with
 | none=>simp [hi] at h
 | some i =>
  simp only [hi,Option.map_some,Option.some.injEq] at h
  unfold sizeOf; rw [qrun_bind',qrun_typeInfo hi]; subst h; rfl
theorem qrun_zeroValue {P:Program} {t:TypeId} {v:Value} (h:zeroT P t=some v) (H:Heap):qrun P (zeroValue t) H=some v:=by
 unfold zeroT at h
 cases hi:P.info? t with
 | none=>simp [hi] at h
 | some i =>
  simp only [hi,Option.bind_some] at h
  unfold zeroValue; rw [qrun_bind',qrun_typeInfo hi,Option.bind_some,h]; rfl
theorem qrun_isAgg {P:Program} {t:TypeId} {d:TypeDesc} (h:P.underlying t=some d) (H:Heap) :
  qrun P (isAgg t) H=some (match d with | .struct _ | .array _ _=>true | _=>false):=by
 unfold isAgg; rw [qrun_bind',qrun_underlying h,Option.bind_some]; cases d <;> rfl
structure HV where
 cells:Addr→Option Value
 heap:Option Heap
def full (H:Heap):HV:={ cells:=cellH H,heap:=some H }
def lookA:List (Addr × Value)→Addr→Option Value
 | [],_=>none
 | x :: l,a=>if x.1=a then some x.2 else lookA l a
def held (l:List (Addr × Value)):HV:={ cells:=lookA l,heap:=none }
def HV.of (V:HV) (H:Heap):Prop:=(∀ a v,V.cells a=some v→cellH H a=some v)∧∀ H',V.heap=some H'→H'=H
theorem full_of (H:Heap):(full H).of H:=⟨fun _ _ h=>h,fun H' h=>by simpa [full] using h.symm⟩
def qrunV {α:Type} (P:Program) (e:Sem α) (V:HV):Option α:=V.heap.bind fun H=>qrun P e H
theorem qrunV_of {α:Type} {P:Program} {e:Sem α} {V:HV} {H:Heap} {a:α} (hv:V.of H) (h:qrunV P e V=some a):qrun P e H=some a:=by
 unfold qrunV at h
 cases hh:V.heap with
 | none=>simp [hh] at h
 | some H'=>rw [hh] at h; have:=hv.2 H' hh; subst this; exact h
def cellsH (c:Addr→Option Value) (a:Addr) (i:Nat):Nat→Option (List Value)
 | 0=>some []
 | n + 1=>(c (a.add i)).bind fun v=>(cellsH c a (i + 1) n).map (v :: ·)
theorem cellsH_of {c c':Addr→Option Value} (h:∀ a v,c a=some v→c' a=some v) {a:Addr}:∀ (n i:Nat) (l:List Value),cellsH c a i n=some l→cellsH c' a i n=some l:=by
 intro n
 induction n with
 | zero=>intro i l hl; exact hl
 | succ n ih =>
  intro i l hl
  simp only [cellsH] at hl ⊢
  cases hc:c (a.add i) with
  | none=>simp [hc] at hl
  | some v =>
   cases hr:cellsH c a (i + 1) n with
   | none=>simp [hc,hr] at hl
   | some l'=>rw [h _ _ hc,ih _ _ hr]; simpa [hc,hr] using hl
theorem qrun_load {P:Program} {H:Heap} {a:Addr} {v:Value} (h:cellH H a=some v):qrun P (load a) H=some v:=by
 simp only [load,qrun,h]
theorem qrun_loadCellsFrom {P:Program} {H:Heap} {a:Addr}:∀ (n i:Nat) (acc:Array Value) (l:List Value),cellsH (cellH H) a i n=some l →
  qrun P (loadCellsFrom a i n acc) H=some (acc ++ l.toArray):=by
 intro n
 induction n with
 | zero=>intro i acc l h; simp only [cellsH,Option.some.injEq] at h; subst h; simp [loadCellsFrom,pure,qrun]
 | succ n ih =>
  intro i acc l h
  simp only [cellsH] at h
  cases hc:cellH H (a.add i) with
  | none=>simp [hc] at h
  | some v =>
   cases hl:cellsH (cellH H) a (i + 1) n with
   | none=>simp [hc,hl] at h
   | some l' =>
    simp only [hc,hl,Option.bind_some,Option.map_some,Option.some.injEq] at h
    subst h
    rw [loadCellsFrom,qrun_bind',qrun_load hc,Option.bind_some,ih (i + 1) _ l' hl]
    simp
def loadA (P:Program) (V:HV) (t:TypeId) (a:Addr):Option Value :=
 match aggN P t with
 | some none=>V.cells a
 | some (some n)=>(cellsH V.cells a 0 n).map fun l=>.agg l.toArray
 | none=>none
def loadQ (P:Program) (V:HV) (t:TypeId) (v:Value):Option Value :=
 match v with
 | .pointer (some a)=>loadA P V t a
 | _=>none
theorem loadA_of {P:Program} {V:HV} {H:Heap} {t:TypeId} {a:Addr} {r:Value} (hv:V.of H) (h:loadA P V t a=some r):loadA P (full H) t a=some r:=by
 unfold loadA at h ⊢
 split at h
 ·exact hv.1 _ _ h
 ·rename_i n _
  cases hc:cellsH V.cells a 0 n with
  | none=>simp [hc] at h
  | some l=>rw [show cellsH (full H).cells a 0 n=some l from cellsH_of hv.1 n 0 l hc]; simpa [hc] using h
 ·simp at h
theorem qrun_loadVar {P:Program} {V:HV} {H:Heap} {t:TypeId} {a:Addr} {r:Value} (hv:V.of H) (h0:loadA P V t a=some r):qrun P (loadVar t a) H=some r:=by
 have h:=loadA_of hv h0
 clear h0 hv
 unfold loadA aggN at h
 unfold loadVar
 cases hu:P.underlying t with
 | none=>simp [hu] at h
 | some d =>
  rw [qrun_bind',qrun_isAgg hu,Option.bind_some]
  simp only [hu] at h
  have agg:∀ n,sizeT P t=some n→(cellsH (cellH H) a 0 n).map (fun l=>Value.agg l.toArray)=some r →
    qrun P (do pure (.agg (← loadCells a (← sizeOf t)))) H=some r:=by
   intro n hn hm
   rw [qrun_bind',qrun_sizeOf hn,Option.bind_some,qrun_bind']
   cases hc:cellsH (cellH H) a 0 n with
   | none=>simp [hc] at hm
   | some l =>
    simp only [hc,Option.map_some,Option.some.injEq] at hm
    subst hm
    unfold loadCells
    rw [qrun_loadCellsFrom n 0 #[] l hc]
    simp [pure,qrun]
  cases d with
  | struct fs =>
   simp only at h
   cases hs:sizeT P t with
   | none=>simp [hs] at h
   | some n=>simp only [hs,Option.map_some] at h; exact agg n hs h
  | array k e =>
   simp only at h
   cases hs:sizeT P t with
   | none=>simp [hs] at h
   | some n=>simp only [hs,Option.map_some] at h; exact agg n hs h
  | _=>exact qrun_load h
theorem qrun_loadAt {P:Program} {V:HV} {H:Heap} {t:TypeId} {v r:Value} (hv:V.of H) (h:loadQ P V t v=some r):qrun P (Instr.loadAt t v) H=some r:=by
 unfold loadQ at h
 cases v with
 | pointer a =>
  cases a with
  | none=>simp at h
  | some a=>exact (qrun_bind' P _ _ H).trans (qrun_loadVar hv h)
 | _=>simp at h
def storeCellsH (H:Heap) (a:Addr):List Value→Nat→Option Heap
 | [],_=>some H
 | v :: rest,i=>if oneC v=true∧(cellH H (a.add i)).isSome=true∧frozenH H (a.add i)=false then storeCellsH (setH H (a.add i) v) a rest (i + 1) else none
def storeA (P:Program) (H:Heap) (t:TypeId) (a:Addr) (v:Value):Option Heap :=
 match sizeT P t with
 | some s=>if v.cells.size=s then storeCellsH H a v.cells.toList 0 else none
 | none=>none
theorem hwp_storeCells {P:Program} {a:Addr} {Q:Unit→Heap→Prop} {E:Value→Heap→Prop}:∀ (vs:List Value) (i:Nat) (H H':Heap),storeCellsH H a vs i=some H'→Q () H' →
  hwp P (storeCells a vs i) H Q E:=by
 intro vs
 induction vs with
 | nil=>intro i H H' h hq; simp only [storeCellsH,Option.some.injEq] at h; subst h; exact hq
 | cons v rest ih =>
  intro i H H' h hq
  simp only [storeCellsH] at h
  split at h
  ·rename_i hc
   rw [storeCells,hwp_bind']
   exact ⟨hc.1,hc.2.1,hc.2.2,ih (i + 1) _ H' h hq⟩
  ·simp at h
theorem hwp_qbind {α β:Type} {P:Program} {e:Sem α} {f:α→Sem β} {H:Heap} {a:α} {Q:β→Heap→Prop} {E:Value→Heap→Prop}
  (h:qrun P e H=some a) (hf:hwp P (f a) H Q E):hwp P (e >>= f) H Q E:=by
 rw [hwp_bind']; exact hwp_of_qrun P e H a _ _ h hf
theorem hwp_storeAt {P:Program} {H H':Heap} {t:TypeId} {a:Addr} {v:Value} {Q:Unit→Heap→Prop} {E:Value→Heap→Prop}
  (h:storeA P H t a v=some H') (hq:Q () H'):hwp P (Instr.storeAt t (.pointer (some a)) v) H Q E:=by
 unfold storeA at h
 cases hs:sizeT P t with
 | none=>simp [hs] at h
 | some s =>
  simp only [hs] at h
  split at h
  ·rename_i hc
   unfold Instr.storeAt
   refine hwp_qbind (a:=a) rfl ?_
   unfold storeVar
   refine hwp_qbind (qrun_sizeOf hs H) ?_
   rw [if_neg (by simp [hc])]
   exact hwp_storeCells _ 0 H H' h hq
  ·simp at h
def intBin (op:BinOp) (k:IntKind) (x:Int) (k':IntKind) (y:Int):Option Value :=
 match op with
 | .shl=>if y < 0 then none else some (.int k (k.wrap (x * 2 ^ min y.toNat k.bits)))
 | .shr=>if y < 0 then none else some (.int k (x.fdiv (2 ^ min y.toNat k.bits)))
 | _=>if k ≠ k' then none else
  match op with
  | .add=>some (.int k (k.wrap (x + y)))
  | .sub=>some (.int k (k.wrap (x - y)))
  | .mul=>some (.int k (k.wrap (x * y)))
  | .quo=>if y=0 then none else some (.int k (k.wrap (x.tdiv y)))
  | .rem=>if y=0 then none else some (.int k (x.tmod y))
  | .and=>some (.int k (k.wrap (BitVec.ofInt k.bits x &&& BitVec.ofInt k.bits y).toNat))
  | .or=>some (.int k (k.wrap (BitVec.ofInt k.bits x ||| BitVec.ofInt k.bits y).toNat))
  | .xor=>some (.int k (k.wrap (BitVec.ofInt k.bits x ^^^ BitVec.ofInt k.bits y).toNat))
  | .andNot=>some (.int k (k.wrap (BitVec.ofInt k.bits x &&& ~~~BitVec.ofInt k.bits y).toNat))
  | .eql=>some (.bool (x == y))
  | .neq=>some (.bool (x != y))
  | .lss=>some (.bool (x < y))
  | .leq=>some (.bool (x≤y))
  | .gtr=>some (.bool (x > y))
  | .geq=>some (.bool (x ≥ y))
  | _=>none
def strBin (op:BinOp) (x y:ByteArray):Option Value :=
 match op with
 | .add=>if ((x.size + y.size:Nat):Int) > IntKind.i64.max then none else some (.string (x ++ y))
 | .eql=>some (.bool (x.toList == y.toList))
 | .neq=>some (.bool (!(x.toList == y.toList)))
 | _=>none
def binV (P:Program) (V:HV) (op:BinOp) (t:TypeId) (xo yo:Operand) (a b:Value):Option Value :=
 match a,b with
 | .int k x,.int k' y=>intBin op k x k' y
 | .string x,.string y=>strBin op x y
 | a,b=>qrunV P (do eqGuard op t xo yo a b; binOp op t a b) V
theorem qrun_bin {P:Program} {V:HV} {H:Heap} {op:BinOp} {t:TypeId} {xo yo:Operand} {a b r:Value} (hv:V.of H) (h:binV P V op t xo yo a b=some r) :
  qrun P (do eqGuard op t xo yo a b; binOp op t a b) H=some r:=by
 unfold binV at h
 split at h
 ·rename_i k x k' y
  rw [qrun_bind']
  have e:qrun P (eqGuard op t xo yo (.int k x) (.int k' y)) H=some ():=by unfold eqGuard; split <;> rfl
  rw [e,Option.bind_some]
  cases op <;> simp only [intBin] at h <;> simp only [binOp,Op.shift,Op.intArith,Op.intDiv,Op.intBits,Op.intCmp] <;>
   (repeat' split at h) <;> simp_all [pure,qrun] <;> (rw [if_neg (by omega)]; rfl)
 ·rename_i x y
  rw [qrun_bind']
  have e:qrun P (eqGuard op t xo yo (.string x) (.string y)) H=some ():=by unfold eqGuard; split <;> rfl
  rw [e,Option.bind_some]
  cases op <;> simp only [strBin] at h <;> simp only [binOp,Op.stringOp] <;>
   (repeat' split at h) <;> simp_all [pure,qrun] <;> (rw [if_neg (by omega)]; rfl)
 ·exact qrunV_of hv h
def pickV (c a b:Value):Option Value :=
 match c with
 | .bool t=>some (bif t then a else b)
 | _=>none
def nilV (v:Value):Option Value :=
 match v with
 | .pointer (some a)=>some (.pointer (some a))
 | .func (.func f) x y=>some (.func (.func f) x y)
 | _=>none
def unV (op:UnOp) (v:Value):Option Value :=
 match op,v with
 | .neg,.int k n=>some (.int k (k.wrap (0 - n)))
 | .not,.bool b=>some (.bool (!b))
 | _,_=>none
def convV (P:Program) (V:HV) (s d:TypeId) (v:Value):Option Value :=
 match v,P.underlying s,P.underlying d with
 | .int _ n,some _,some (.int k)=>some (.int k (k.wrap n))
 | _,_,_=>qrunV P (convert s d v) V
def fieldAV (P:Program) (s:TypeId) (v:Value) (f:Nat):Option Value :=
 match v with
 | .pointer (some a)=>(fieldO P s f).map fun o=>.pointer (some (a.add o))
 | _=>none
def partV (P:Program) (t:TypeId) (cs:Array Value) (off:Nat):Option Value :=
 match aggN P t with
 | some none=>cs[off]?
 | some (some n)=>some (.agg (cs.extract off (off + n)))
 | none=>none
def fieldV (P:Program) (t:TypeId) (v:Value) (f:Nat):Option Value :=
 match v with
 | .agg cs=>(fieldT P t f).bind fun x=>partV P x.2 cs x.1
 | _=>none
def indexAV (P:Program) (t:TypeId) (v i:Value):Option Value :=
 match v,i with
 | .slice (some a) len _,.int _ n=>(elemS P t).bind fun z=>chk (0≤n∧n < len) (some (.pointer (some (a.add (n.toNat * z)))))
 | .pointer (some a),.int _ n=>(arrS P t).bind fun e=>chk (0≤n∧n < e.1) (some (.pointer (some (a.add (n.toNat * e.2)))))
 | _,_=>none
def indexV (P:Program) (t:TypeId) (v i:Value):Option Value :=
 match v,i with
 | .string s,.int _ n=>match P.underlying t with
  | some .string=>chk (0≤n∧n < s.size) (some (.int .u8 (s.data.toList.getD n.toNat 0).toNat))
  | _=>none
 | .agg cs,.int _ n=>(arrT P t).bind fun e=>(sizeT P e.2).bind fun z=>chk (0≤n∧n < e.1) (partV P e.2 cs (n.toNat * z))
 | _,_=>none
def extrV (v:Value) (i:Nat):Option Value :=
 match v with
 | .tuple vs=>vs[i]?
 | _=>none
def lenV (P:Program) (V:HV) (t:TypeId) (v:Value):Option Value :=
 match v with
 | .slice _ n _=>(elemT P t).map fun _=>.int .i64 n
 | .string s=>match P.underlying t with
  | some .string=>some (.int .i64 s.size)
  | _=>none
 | v=>qrunV P (Builtin.len_ #[t] 0 #[v]) V
def ifaceV (P:Program) (t:TypeId) (v:Value):Option Value :=
 match P.underlying t with
 | some (.interface _)=>none
 | some _=>some (.iface t v)
 | none=>none
def max2V (a b:Value):Option Value :=
 match a,b with
 | .int k x,.int _ y=>some (.int k (if y > x then y else x))
 | _,_=>none
def min2V (a b:Value):Option Value :=
 match a,b with
 | .int k x,.int _ y=>some (.int k (if y < x then y else x))
 | _,_=>none
def optMap (ρ:Operand→Value):Option Operand→Option Value
 | none=>none
 | some x=>some (ρ x)
def boundsV (len cap:Nat) (lo hi mx:Option Value):Option (Nat × Nat × Nat) :=
 match mx with
 | some _=>none
 | none =>
  (match hi with
   | some (.int _ h)=>chk (0≤h∧h≤cap) (some h.toNat)
   | none=>some len
   | _=>none).bind fun h =>
  (match lo with
   | some (.int _ l)=>chk (0≤l∧l≤h) (some l.toNat)
   | none=>some 0
   | _=>none).map fun l=>(l,h,cap)
def sliceV (P:Program) (t:TypeId) (v:Value) (lo hi mx:Option Value):Option Value :=
 match v with
 | .slice a len cap=>(elemS P t).bind fun z=>(boundsV len cap lo hi mx).map fun b=>.slice (if b.2.2=b.1 then a else a.map (·.add (b.1 * z))) (b.2.1 - b.1) (b.2.2 - b.1)
 | .string s=>match P.underlying t with
  | some .string=>(boundsV s.size s.size lo hi mx).map fun b=>.string (s.extract b.1 b.2.1)
  | _=>none
 | .pointer (some a)=>(arrS P t).bind fun e=>(boundsV e.1 e.1 lo hi mx).map fun b=>.slice (some (if b.2.2=b.1 then a else a.add (b.1 * e.2))) (b.2.1 - b.1) (b.2.2 - b.1)
 | _=>none
theorem qrun_bounds {P:Program} {H:Heap} {isSlice:Bool} {len cap:Nat} {lo hi mx:Option Value} {b:Nat × Nat × Nat} (h:boundsV len cap lo hi mx=some b) :
  qrun P (Instr.sliceBounds isSlice len cap lo hi mx) H=some b:=by
 unfold boundsV at h
 cases mx with
 | some _=>simp at h
 | none =>
  simp only [Option.bind_eq_some_iff,Option.map_eq_some_iff] at h
  obtain ⟨h',hh,l,hl,rfl⟩:=h
  have bound:∀ (v:Value) (y:Nat) (code:BoundsCode) (k:IntKind) (n:Int),v=.int k n→0≤n→n≤y→qrun P (Instr.sliceBound v y code) H=some n.toNat:=by
   intro v y code k n hv h0 h1
   subst hv
   unfold Instr.sliceBound
   rw [qrun_bind']
   simp only [asIntOf,pure,qrun,Option.bind_some]
   rw [if_pos ⟨h0,h1⟩]
   rfl
  have hi':hi=none∧h'=len∨∃ k n,hi=some (.int k n)∧(0≤n∧n≤cap)∧h'=n.toNat:=by
   cases hi with
   | none=>simp only [Option.some.injEq] at hh; exact .inl ⟨rfl,hh.symm⟩
   | some v =>
    cases v <;> simp only at hh <;> try (simp at hh; done)
    rename_i k n
    obtain ⟨hc,hr⟩:=chk_some hh
    simp only [Option.some.injEq] at hr
    exact .inr ⟨k,n,rfl,hc,hr.symm⟩
  have lo':lo=none∧l=0∨∃ k n,lo=some (.int k n)∧(0≤n∧n≤h')∧l=n.toNat:=by
   cases lo with
   | none=>simp only [Option.some.injEq] at hl; exact .inl ⟨rfl,hl.symm⟩
   | some v =>
    cases v <;> simp only at hl <;> try (simp at hl; done)
    rename_i k n
    obtain ⟨hc,hr⟩:=chk_some hl
    simp only [Option.some.injEq] at hr
    exact .inr ⟨k,n,rfl,hc,hr.symm⟩
  clear hh hl
  rcases hi' with ⟨rfl,rfl⟩ | ⟨k,n,rfl,hc,rfl⟩ <;> rcases lo' with ⟨rfl,rfl⟩ | ⟨k',n',rfl,hc',rfl⟩
  ·rfl
  ·show qrun P (do let l ← Instr.sliceBound (.int k' n') h' .sliceB; Sem.pure (l,h',cap)) H=_
   rw [qrun_bind',bound _ _ _ k' n' rfl hc'.1 hc'.2]; rfl
  ·show qrun P (do let h ← Instr.sliceBound (.int k n) cap (if isSlice then .sliceAcap else .sliceAlen); Sem.pure (0,h,cap)) H=_
   rw [qrun_bind',bound _ _ _ k n rfl hc.1 hc.2]; rfl
  ·show qrun P (do let h ← Instr.sliceBound (.int k n) cap (if isSlice then .sliceAcap else .sliceAlen); let l ← Instr.sliceBound (.int k' n') h .sliceB; Sem.pure (l,h,cap)) H=_
   rw [qrun_bind',bound _ _ _ k n rfl hc.1 hc.2,Option.bind_some,qrun_bind',bound _ _ _ k' n' rfl hc'.1 hc'.2]; rfl
theorem elemS_some {P:Program} {t:TypeId} {z:Nat} (h:elemS P t=some z):∃ e,P.underlying t=some (.slice e)∧sizeT P e=some z:=by
 unfold elemS elemT at h
 cases hu:P.underlying t with
 | none=>simp [hu] at h
 | some d=>cases d <;> simp only [hu] at h <;> first | exact ⟨_,rfl,h⟩ | simp at h
theorem arrS_some {P:Program} {t:TypeId} {e:Nat × Nat} (h:arrS P t=some e):∃ u,P.underlying t=some (.array e.1 u)∧sizeT P u=some e.2:=by
 unfold arrS arrT at h
 cases hu:P.underlying t with
 | none=>simp [hu] at h
 | some d =>
  cases d <;> simp only [hu] at h <;> try (simp at h; done)
  rename_i n u
  simp only [Option.bind_some] at h
  cases hs:sizeT P u with
  | none=>simp [hs] at h
  | some z=>simp only [hs,Option.map_some,Option.some.injEq] at h; subst h; exact ⟨u,rfl,hs⟩
theorem qrun_slice {P:Program} {H:Heap} {t:TypeId} {v:Value} {lo hi mx:Option Value} {r:Value} (h:sliceV P t v lo hi mx=some r):qrun P (Instr.sliceAt t v lo hi mx) H=some r:=by
 unfold sliceV at h
 split at h
 ·rename_i a len cap
  simp only [Option.bind_eq_some_iff,Option.map_eq_some_iff] at h
  obtain ⟨z,hz,b,hb,rfl⟩:=h
  obtain ⟨e,hu,hs⟩:=elemS_some hz
  unfold Instr.sliceAt
  rw [qrun_bind',qrun_underlying hu,Option.bind_some]
  simp only
  unfold Instr.slice
  rw [qrun_bind',qrun_underlying hu,Option.bind_some]
  simp only
  rw [qrun_bind',qrun_bounds hb,Option.bind_some,qrun_bind',qrun_sizeOf hs]
  rfl
 ·rename_i s
  split at h
  ·rename_i hu
   simp only [Option.map_eq_some_iff] at h
   obtain ⟨b,hb,rfl⟩:=h
   unfold Instr.sliceAt
   rw [qrun_bind',qrun_underlying hu,Option.bind_some]
   simp only
   unfold Instr.slice
   rw [qrun_bind',qrun_underlying hu,Option.bind_some]
   have hm:mx=none:=by
    unfold boundsV at hb
    cases mx with
    | none=>rfl
    | some _=>simp at hb
   subst hm
   simp only [Option.isSome_none,Bool.false_eq_true,if_false]
   rw [qrun_bind',qrun_bounds hb]
   rfl
  ·simp at h
 ·rename_i a
  simp only [Option.bind_eq_some_iff,Option.map_eq_some_iff] at h
  obtain ⟨e,he,b,hb,rfl⟩:=h
  obtain ⟨u,hu,hs⟩:=arrS_some he
  unfold Instr.sliceAt
  rw [qrun_bind',qrun_underlying hu,Option.bind_some]
  simp only
  rw [qrun_bind']
  simp only [Instr.sureAddr,pure,qrun,Option.bind_some]
  rw [qrun_bind',qrun_bounds hb,Option.bind_some,qrun_bind',qrun_sizeOf hs]
  rfl
 ·simp at h
def placesT (P:Program) (t:TypeId):Option (List (Nat × Nat)) :=
 match P.underlying t with
 | some (.struct fields)=>fields.toList.mapM fun f=>(sizeT P f.type).map fun z=>(f.offset,z)
 | _=>none
def buildV (P:Program) (t:TypeId) (parts:List (Nat × Value)):Option Value :=
 match placesT P t with
 | some ps=>(zeroT P t).bind fun z=>(Instr.fill (ps[·]?) z.cells parts).map .agg
 | none=>(arrS P t).bind fun e=>(zeroT P t).bind fun z=>(Instr.fill (fun i=>some (i * e.2,e.2)) z.cells parts).map .agg
theorem qrun_places {P:Program} {H:Heap} (fields:List Field) (ps:List (Nat × Nat)) (h:(fields.mapM fun f=>(sizeT P f.type).map fun z=>(f.offset,z))=some ps) :
  qrun P (fields.mapM fun f=>do pure (f.offset,← sizeOf f.type)) H=some ps:=by
 induction fields generalizing ps with
 | nil=>simp at h; subst h; rfl
 | cons f l ih =>
  rw [List.mapM_cons] at h ⊢
  simp only [Option.bind_eq_bind,Option.bind_eq_some_iff,Option.map_eq_some_iff,Option.pure_def,Option.some.injEq] at h
  obtain ⟨x,⟨z,hz,rfl⟩,ps',hps,rfl⟩:=h
  rw [qrun_bind']
  have e:qrun P (do pure (f.offset,← sizeOf f.type)) H=some (f.offset,z):=by rw [qrun_bind',qrun_sizeOf hz]; rfl
  rw [e,Option.bind_some,qrun_bind',ih ps' hps]
  rfl
theorem qrun_build {P:Program} {H:Heap} {t:TypeId} {parts:List (Nat × Value)} {r:Value} (h:buildV P t parts=some r):qrun P (Instr.build t parts.toArray) H=some r:=by
 unfold buildV at h
 split at h
 ·rename_i ps hps
  simp only [Option.bind_eq_some_iff,Option.map_eq_some_iff] at h
  obtain ⟨z,hz,cs,hf,rfl⟩:=h
  unfold placesT at hps
  split at hps
  ·rename_i fields hu
   unfold Instr.build
   rw [qrun_bind',qrun_zeroValue hz,Option.bind_some]
   simp only
   rw [qrun_bind',qrun_underlying hu,Option.bind_some]
   simp only
   rw [qrun_bind']
   have e:fields=fields.toList.toArray:=by simp
   rw [e,List.mapM_toArray,map_eq_pure_bind,qrun_bind',qrun_places _ ps hps]
   simp only [Option.bind_some,pure,qrun,List.getElem?_toArray]
   simp only [hf]
   rfl
  ·simp at hps
 ·simp only [Option.bind_eq_some_iff,Option.map_eq_some_iff] at h
  obtain ⟨e,he,z,hz,cs,hf,rfl⟩:=h
  obtain ⟨u,hu,hs⟩:=arrS_some he
  unfold Instr.build
  rw [qrun_bind',qrun_zeroValue hz,Option.bind_some]
  simp only
  rw [qrun_bind',qrun_underlying hu,Option.bind_some]
  simp only
  rw [qrun_bind',qrun_sizeOf hs,Option.bind_some]
  simp only [hf]
  rfl
def builtinQ (P:Program) (V:HV) (b:Builtin) (ts:List TypeId) (vs:List Value):Option Value :=
 match b with
 | .len=>match ts,vs with
  | [t],[v]=>lenV P V t v
  | _,_=>none
 | .max=>match vs with
  | [x,y]=>max2V x y
  | _=>none
 | .min=>match vs with
  | [x,y]=>min2V x y
  | _=>none
 | .cap=>match vs with
  | [v]=>qrunV P (Builtin.cap_ ts.toArray 0 #[v]) V
  | _=>none
 | _=>none
def callQ (P:Program) (V:HV) (c:Callee) (ts:List TypeId) (vs:List Value):Option Value :=
 match c with
 | .builtin b=>builtinQ P V b ts vs
 | _=>none
theorem qrun_builtin {P:Program} {V:HV} {H:Heap} {b:Builtin} {ts:List TypeId} {vs:List Value} {ty:TypeId} {cs:Array Bool} {r:Value} (hv:V.of H) (h:builtinQ P V b ts vs=some r) :
  qrun P (builtin b ts.toArray ty cs vs.toArray) H=some (.value r):=by
 unfold builtinQ at h
 split at h
 ·split at h
  ·rename_i t v
   show qrun P (do pure (Next.value (← Builtin.len_ #[t] ty #[v]))) H=some (.value r)
   rw [qrun_bind']
   suffices hh:qrun P (Builtin.len_ #[t] ty #[v]) H=some r by rw [hh]; rfl
   unfold lenV at h
   split at h
   ·rename_i a n c
    unfold elemT at h
    cases hu:P.underlying t with
    | none=>simp [hu] at h
    | some d =>
     cases d <;> simp only [hu] at h <;> try (simp at h)
     subst h
     unfold Builtin.len_
     simp only [List.getElem?_toArray,List.getElem?_cons_zero]
     rw [qrun_bind',qrun_underlying hu,Option.bind_some]
     rfl
   ·split at h
    ·rename_i hu
     simp only [Option.some.injEq] at h
     subst h
     unfold Builtin.len_
     simp only [List.getElem?_toArray,List.getElem?_cons_zero]
     rw [qrun_bind',qrun_underlying hu,Option.bind_some]
     rfl
    ·simp at h
   ·exact qrunV_of hv h
  ·simp at h
 ·split at h
  ·rename_i x y
   unfold max2V at h
   split at h
   ·simp only [Option.some.injEq] at h; subst h; rfl
   ·simp at h
  ·simp at h
 ·split at h
  ·rename_i x y
   unfold min2V at h
   split at h
   ·simp only [Option.some.injEq] at h; subst h; rfl
   ·simp at h
  ·simp at h
 ·split at h
  ·rename_i v
   show qrun P (do pure (Next.value (← Builtin.cap_ ts.toArray ty #[v]))) H=some (.value r)
   rw [qrun_bind']
   suffices hh:qrun P (Builtin.cap_ ts.toArray ty #[v]) H=some r by rw [hh]; rfl
   exact qrunV_of hv h
  ·simp at h
 ·simp at h
def opQ (P:Program) (V:HV) (ρ:Operand→Value):Op→Option Value
 | .move x | .assign x=>some (ρ x)
 | .pick c a b=>pickV (ρ c) (ρ a) (ρ b)
 | .load t a=>loadQ P V t (ρ a)
 | .nilCheck x=>nilV (ρ x)
 | .binOp op t x y _=>binV P V op t x y (ρ x) (ρ y)
 | .unOp op _ x=>unV op (ρ x)
 | .convert s d x=>convV P V s d (ρ x)
 | .makeInterface t x=>ifaceV P t (ρ x)
 | .makeFunc fn first captured=>some (.func fn (first.toList.map ρ).toArray (captured.toList.map ρ).toArray)
 | .slice t x lo hi mx=>sliceV P t (ρ x) (optMap ρ lo) (optMap ρ hi) (optMap ρ mx)
 | .fieldAddr s x f=>fieldAV P s (ρ x) f
 | .field t x f=>fieldV P t (ρ x) f
 | .indexAddr t x i=>indexAV P t (ρ x) (ρ i)
 | .index t x i=>indexV P t (ρ x) (ρ i)
 | .lookup t m k ok=>qrunV P (Instr.lookup t (ρ m) (ρ k) ok) V
 | .typeAssert x xt t ok=>qrunV P (Instr.typeAssert (ρ x) xt t ok) V
 | .extract t i=>extrV (ρ t) i
 | .build t parts=>buildV P t (parts.toList.map fun p=>(p.1,ρ p.2))
 | .call c=>callQ P V c.callee c.argTypes.toList (c.args.toList.map ρ)
 | _=>none
theorem qrun_part {P:Program} {H:Heap} {t:TypeId} {cs:Array Value} {off:Nat} {r:Value} (h:partV P t cs off=some r):qrun P (part t cs off) H=some r:=by
 unfold partV aggN at h
 unfold part
 cases hu:P.underlying t with
 | none=>simp [hu] at h
 | some d =>
  rw [qrun_bind',qrun_isAgg hu,Option.bind_some]
  simp only [hu] at h
  have agg:∀ n,sizeT P t=some n→some (Value.agg (cs.extract off (off + n)))=some r→qrun P (do pure (.agg (cs.extract off (off + (← sizeOf t))))) H=some r:=by
   intro n hn hm
   rw [qrun_bind',qrun_sizeOf hn,Option.bind_some]
   exact hm
  have one:cs[off]?=some r→qrun P (match cs[off]? with | some v=>pure v | none=>stuck "part: no such cell") H=some r:=by
   intro hm; rw [hm]; rfl
  cases d with
  | struct fs =>
   simp only at h
   cases hs:sizeT P t with
   | none=>simp [hs] at h
   | some n=>simp only [hs,Option.map_some] at h; exact agg n hs h
  | array k e =>
   simp only at h
   cases hs:sizeT P t with
   | none=>simp [hs] at h
   | some n=>simp only [hs,Option.map_some] at h; exact agg n hs h
  | _=>exact one h
theorem optMap_eq (ρ:Operand→Value) (o:Option Operand):optMap ρ o=o.map ρ:=by cases o <;> rfl
theorem qrun_v {P:Program} {H:Heap} {s:Sem Value} {r:Value} (h:qrun P s H=some r):qrun P (do pure (Next.value (← s))) H=some (.value r):=by
 rw [qrun_bind',h]; rfl
theorem opQ_sound {P:Program} {V:HV} {H:Heap} {ρ:Operand→Value} {o:Oper} {r:Value} (hv:V.of H) (h:opQ P V ρ o.op=some r):qrun P (execOp ρ o) H=some (.value r):=by
 obtain ⟨dst,op,type,pos,after,guard⟩:=o
 simp only at h
 unfold opQ at h
 split at h
 ·simp only [Option.some.injEq] at h; subst h; rfl
 ·simp only [Option.some.injEq] at h; subst h; rfl
 ·rename_i c a b
  unfold pickV at h
  split at h
  ·rename_i t ht
   simp only [Option.some.injEq] at h
   subst h
   simp only [execOp,ht]
   cases t <;> rfl
  ·simp at h
 ·exact qrun_v (qrun_loadAt hv h)
 ·rename_i x
  unfold nilV at h
  split at h
  ·rename_i a ha; simp only [Option.some.injEq] at h; subst h; simp only [execOp,ha]; rfl
  ·rename_i f y z ha; simp only [Option.some.injEq] at h; subst h; simp only [execOp,ha]; rfl
  ·simp at h
 ·exact qrun_v (qrun_bin hv h)
 ·rename_i op t x
  unfold unV at h
  split at h
  ·rename_i k n hx; simp only [Option.some.injEq] at h; subst h; simp only [execOp,hx]; rfl
  ·rename_i b hx; simp only [Option.some.injEq] at h; subst h; simp only [execOp,hx]; rfl
  ·simp at h
 ·rename_i s d x
  refine qrun_v ?_
  unfold convV at h
  split at h
  ·rename_i k n k' hx hs hd
   simp only [Option.some.injEq] at h
   subst h
   unfold convert
   rw [qrun_bind',qrun_underlying hs,Option.bind_some,qrun_bind',qrun_underlying hd,Option.bind_some,hx]
   rfl
  ·exact qrunV_of hv h
 ·rename_i t x
  unfold ifaceV at h
  cases hu:P.underlying t with
  | none=>simp [hu] at h
  | some d =>
   refine qrun_v ?_
   unfold Instr.makeInterface
   rw [qrun_bind',qrun_underlying hu,Option.bind_some]
   rw [hu] at h
   cases d <;> simp at h <;> subst h <;> rfl
 ·simp only [Option.some.injEq] at h; subst h; simp [execOp,Instr.makeFunc,qrun,pure,bind,Sem.bind]; exact ⟨by apply Array.ext'; simp,by apply Array.ext'; simp⟩
 ·rw [optMap_eq,optMap_eq,optMap_eq] at h; exact qrun_v (qrun_slice h)
 ·rename_i s x f
  unfold fieldAV at h
  split at h
  ·rename_i a ha
   refine qrun_v ?_
   unfold fieldO at h
   cases hf:fieldT P s f with
   | none=>simp [hf] at h
   | some xt =>
    simp only [hf,Option.bind_some] at h
    cases hz:sizeT P xt.2 with
    | none=>simp [hz] at h
    | some z =>
     simp only [hz,Option.bind_some] at h
     split at h
     ·simp at h
     ·rename_i hz0
      simp only [Option.map_some,Option.some.injEq] at h
      subst h
      unfold fieldT at hf
      cases hu:P.underlying s with
      | none=>simp [hu] at hf
      | some d =>
       cases d <;> simp only [hu] at hf <;> try (simp at hf)
       rename_i fields
       obtain ⟨fd,hfd,rfl⟩:=hf
       unfold Instr.fieldAt
       rw [qrun_bind',qrun_underlying hu,Option.bind_some]
       simp only [hfd]
       rw [qrun_bind',ha]
       simp only [Instr.sureAddr,pure,qrun,Option.bind_some]
       rw [qrun_bind']
       unfold fieldPlace
       rw [qrun_bind',qrun_sizeOf hz,Option.bind_some,if_neg hz0]
       rfl
  ·simp at h
 ·rename_i t x f
  unfold fieldV at h
  split at h
  ·rename_i cs hx
   refine qrun_v ?_
   cases hf:fieldT P t f with
   | none=>simp [hf] at h
   | some xt =>
    simp only [hf,Option.bind_some] at h
    unfold fieldT at hf
    cases hu:P.underlying t with
    | none=>simp [hu] at hf
    | some d =>
     cases d <;> simp only [hu] at hf <;> try (simp at hf)
     rename_i fields
     obtain ⟨fd,hfd,rfl⟩:=hf
     unfold Instr.field
     rw [qrun_bind',qrun_underlying hu,Option.bind_some]
     simp only [hfd,hx]
     rw [qrun_bind']
     simp only [asAgg,pure,qrun,Option.bind_some]
     exact qrun_part h
  ·simp at h
 ·rename_i t x i
  unfold indexAV at h
  split at h
  ·rename_i a len cap k n hx hi
   refine qrun_v ?_
   unfold elemS elemT at h
   cases hu:P.underlying t with
   | none=>simp [hu] at h
   | some d =>
    cases d <;> simp only [hu] at h <;> try (simp only [Option.bind_none,reduceCtorEq] at h)
    rename_i e
    simp only [Option.bind_some] at h
    cases hz:sizeT P e with
    | none=>simp [hz] at h
    | some z =>
     simp only [hz,Option.bind_some] at h
     obtain ⟨hb,h⟩:=chk_some h
     ·simp only [Option.some.injEq] at h
      subst h
      unfold Instr.indexAt
      rw [hx,hi]
      simp only [asIntOf,pure]
      rw [qrun_bind']
      simp only [qrun,Option.bind_some]
      rw [qrun_bind',qrun_underlying hu,Option.bind_some]
      simp only
      rw [qrun_bind']
      simp only [qrun,Option.bind_some]
      rw [qrun_bind',qrun_underlying hu,Option.bind_some]
      rw [if_pos hb,qrun_bind',qrun_sizeOf hz]
      rfl
  ·rename_i a k n hx hi
   refine qrun_v ?_
   unfold arrS arrT at h
   cases hu:P.underlying t with
   | none=>simp [hu] at h
   | some d =>
    cases d <;> simp only [hu] at h <;> try (simp only [Option.bind_none,reduceCtorEq] at h)
    rename_i len e
    simp only [Option.bind_some] at h
    cases hz:sizeT P e with
    | none=>simp [hz] at h
    | some z =>
     simp only [hz,Option.bind_some,Option.map_some] at h
     obtain ⟨hb,h⟩:=chk_some h
     ·simp only [Option.some.injEq] at h
      subst h
      unfold Instr.indexAt
      rw [hx,hi]
      simp only [asIntOf,pure]
      rw [qrun_bind']
      simp only [qrun,Option.bind_some]
      rw [qrun_bind',qrun_underlying hu,Option.bind_some]
      simp only [Instr.sureAddr,pure]
      rw [qrun_bind']
      simp only [qrun,Option.bind_some]
      rw [qrun_bind']
      simp only [qrun,Option.bind_some]
      rw [qrun_bind',qrun_underlying hu,Option.bind_some]
      rw [if_pos hb,qrun_bind',qrun_sizeOf hz]
      rfl
  ·simp at h
 ·rename_i t x i
  unfold indexV at h
  split at h
  ·rename_i s k n hx hi
   refine qrun_v ?_
   split at h
   ·rename_i hu
    obtain ⟨hb,h⟩:=chk_some h
    simp only [Option.some.injEq] at h
    subst h
    unfold Instr.index
    rw [hx,hi]
    simp only [asIntOf,pure]
    rw [qrun_bind']
    simp only [qrun,Option.bind_some]
    rw [qrun_bind',qrun_underlying hu,Option.bind_some]
    have hlt:n.toNat < s.size:=by omega
    have hs:s[n.toNat]?=some (s.data.toList.getD n.toNat 0):=by
     have hl:n.toNat < s.data.toList.length:=by simpa using hlt
     have e1:s[n.toNat]?=some s[n.toNat]:=getElem?_pos s n.toNat hlt
     rw [e1,List.getD_eq_getElem?_getD,List.getElem?_eq_getElem hl]
     rfl
    simp only [hb.1,if_true,hs]
    rfl
   ·simp at h
  ·rename_i cs k n hx hi
   refine qrun_v ?_
   unfold arrT at h
   cases hu:P.underlying t with
   | none=>simp [hu] at h
   | some d =>
    cases d <;> simp only [hu] at h <;> try (simp only [Option.bind_none,reduceCtorEq] at h)
    rename_i len e
    simp only [Option.bind_some] at h
    cases hz:sizeT P e with
    | none=>simp [hz] at h
    | some z =>
     simp only [hz,Option.bind_some] at h
     obtain ⟨hb,h⟩:=chk_some h
     ·unfold Instr.index
      rw [hx,hi]
      simp only [asIntOf,pure]
      rw [qrun_bind']
      simp only [qrun,Option.bind_some]
      rw [qrun_bind',qrun_underlying hu,Option.bind_some]
      simp only
      rw [if_pos hb,qrun_bind',qrun_sizeOf hz,Option.bind_some]
      exact qrun_part h
  ·simp at h
 ·exact qrun_v (qrunV_of hv h)
 ·exact qrun_v (qrunV_of hv h)
 ·rename_i t i
  unfold extrV at h
  split at h
  ·rename_i vs hv
   simp only [execOp,hv,Instr.extract,h]
   rfl
  ·simp at h
 ·rename_i t parts
  refine qrun_v ?_
  have e:(parts.map fun x=>(x.1,ρ x.2))=(parts.toList.map fun p=>(p.1,ρ p.2)).toArray:=by
   apply Array.ext'; simp
  show qrun P (Instr.build t (parts.map fun x=>(x.1,ρ x.2))) H=some r
  rw [e]; exact qrun_build h
 ·rename_i c
  obtain ⟨callee,args,ats⟩:=c
  unfold callQ at h
  split at h
  ·rename_i b hb
   simp only at hb h
   subst hb
   have e:args.map ρ=(args.toList.map ρ).toArray:=by apply Array.ext'; simp
   show qrun P (builtin b ats type (args.map fun | .const _=>true | _=>false) (args.map ρ)) H=some (.value r)
   rw [e]
   exact qrun_builtin hv h
  ·simp at h
 ·simp at h
end Go.HL
namespace Go.HL
def withV (v:Value) (k:Value→Prop):Prop:=k v
def someW {α:Type} (o:Option α) (k:α→Prop):Prop :=
 match o with
 | some a=>k a
 | none=>False
def ptrW (v:Value) (k:Addr→Prop):Prop :=
 match v with
 | .pointer (some a)=>k a
 | _=>False
theorem someW_iff {α:Type} {o:Option α} {k:α→Prop}:someW o k↔∃ a,o=some a∧k a:=by
 cases o <;> simp [someW]
@[congr] theorem withV_congr {v v':Value} {k:Value→Prop} (h:v=v'):withV v k=withV v' k:=by rw [h]
@[congr] theorem someW_congr {α:Type} {o o':Option α} {k:α→Prop} (h:o=o'):someW o k=someW o' k:=by rw [h]
@[congr] theorem ptrW_congr {v v':Value} {k:Addr→Prop} (h:v=v'):ptrW v k=ptrW v' k:=by rw [h]
def CallF (P:Program) (g:FuncId) (args:List Value) (H:Heap) (R:Value→Heap→Prop) (E:List PanicEntry→Heap→Prop):Prop :=
 hwp P (callFunc g args.toArray) H (fun nx H'=>match nx with
  | .value v=>R v H'
  | .enter f as=>HCalls P f as H' R E
  | _=>False) (fun v H'=>E [{ v,recovered:=false }] H')
@[congr] theorem CallF_congr {P:Program} {g:FuncId} {args args':List Value} {H:Heap} {R:Value→Heap→Prop} {E:List PanicEntry→Heap→Prop} (h:args=args') :
  CallF P g args H R E=CallF P g args' H R E:=by rw [h]
theorem CallF.mono {P:Program} {f:FuncId} {args:List Value} {H:Heap} {R R':Value→Heap→Prop} {E E':List PanicEntry→Heap→Prop}
  (h:CallF P f args H R E) (hr:∀ v H',R v H'→R' v H') (he:∀ c H',E c H'→E' c H'):CallF P f args H R' E':=by
 refine hwp_mono P _ _ _ _ _ _ ?_ (fun v H'=>he _ H') h
 intro nx H' hx
 cases nx <;> first | exact hr _ _ hx | exact HCalls.mono hx hr he | exact hx
def NoP:List PanicEntry→Heap→Prop:=fun _ _=>False
theorem CallF.to {P:Program} {f:FuncId} {args:List Value} {H:Heap} {R R':Value→Heap→Prop} {E':List PanicEntry→Heap→Prop}
  (h:CallF P f args H R NoP) (hr:∀ v H',R v H'→R' v H'):CallF P f args H R' E':=h.mono hr (fun _ _ x=>x.elim)
def callV (P:Program) (f:Value) (args:List Value) (H:Heap) (R:Value→Heap→Prop) (E:List PanicEntry→Heap→Prop):Prop :=
 match f with
 | .func (.func g) first captured=>CallF P g (first.toList ++ args ++ captured.toList) H R E
 | _=>False
@[congr] theorem callV_congr {P:Program} {f f':Value} {args args':List Value} {H:Heap} {R:Value→Heap→Prop} {E:List PanicEntry→Heap→Prop} (h:f=f') (h':args=args') :
  callV P f args H R E=callV P f' args' H R E:=by rw [h,h']
def mkCells (z:Array Value) (n:Nat):Array Value:=(Array.range n).map (z[· % z.size]!)
def newPtr (H:Heap):Value:=.pointer (some ⟨H.size,0,none⟩)
def makeV (P:Program) (H:Heap) (t:TypeId) (l c:Value):Option (Value × Heap) :=
 match l,c with
 | .int _ l,.int _ c=>(elemT P t).bind fun e=>(bytesT P e).bind fun b=>(sizeT P e).bind fun s=>(zeroT P e).bind fun z =>
  if 0≤l∧l≤c∧c≤281474976710656∧(b:Int) * c≤281474976710656 then
   some (.slice (some ⟨H.size,0,none⟩) l.toNat c.toNat,H.push (.cells (mkCells z.cells (c.toNat * s)) e)) else none
 | _,_=>none
theorem wrap_i64_small (n:Int) (h0:0≤n) (h1:n≤281474976710656):IntKind.i64.wrap n=n:=IntWalk.i64_in n (by omega)
theorem hwp_makeSlice {P:Program} {H H':Heap} {t:TypeId} {l c r:Value} {Q:Value→Heap→Prop} {E:Value→Heap→Prop} (h:makeV P H t l c=some (r,H')) (hq:Q r H') :
  hwp P (Instr.makeSlice t l c) H Q E:=by
 unfold makeV at h
 split at h
 ·rename_i k l k' c
  cases he:elemT P t with
  | none=>simp [he] at h
  | some e =>
   cases hb:bytesT P e with
   | none=>simp [he,hb] at h
   | some b =>
    cases hs:sizeT P e with
    | none=>simp [he,hb,hs] at h
    | some s =>
     cases hz:zeroT P e with
     | none=>simp [he,hb,hs,hz] at h
     | some z =>
      simp only [he,hb,hs,hz,Option.bind_some] at h
      split at h
      ·rename_i hc
       obtain ⟨h0,h1,h2,h3⟩:=hc
       simp only [Option.some.injEq,Prod.mk.injEq] at h
       obtain ⟨rfl,rfl⟩:=h
       have hu:P.underlying t=some (.slice e):=by
        unfold elemT at he
        cases hu:P.underlying t with
        | none=>simp [hu] at he
        | some d=>cases d <;> simp [hu] at he; subst he; rfl
       have hi:∃ i,P.info? e=some i∧i.bytes=b:=by
        unfold bytesT at hb
        cases hi:P.info? e with
        | none=>simp [hi] at hb
        | some i=>simp [hi] at hb; exact ⟨i,rfl,hb⟩
       obtain ⟨i,hi,hib⟩:=hi
       have wl:=wrap_i64_small l h0 (by omega)
       have wc:=wrap_i64_small c (by omega) h2
       unfold Instr.makeSlice
       refine hwp_qbind (qrun_underlying hu H) ?_
       simp only
       refine hwp_qbind (a:=l) rfl ?_
       refine hwp_qbind (a:=c) rfl ?_
       refine hwp_qbind (qrun_typeInfo hi H) ?_
       simp only [wl,wc,hib]
       rw [if_neg (by simp; omega)]
       refine hwp_qbind (a:=()) (by unfold askRoom; split <;> rfl) ?_
       refine hwp_qbind (qrun_sizeOf hs H) ?_
       split
       ·rename_i hn
        have e0:mkCells z.cells (c.toNat * s) = #[]:=by simp [mkCells,hn]
        rw [e0] at hq
        have e1:(Array.range (c.toNat * s)).map (fun x=>(#[]:Array Value)[x % (#[]:Array Value).size]!) = #[]:=by simp [hn]
        show hwp P (newRow e ((Array.range (c.toNat * s)).map fun x=>(#[]:Array Value)[x % (#[]:Array Value).size]!) >>= fun a=>pure (Value.slice (some a) l.toNat c.toNat)) H Q E
        rw [e1]
        exact hq
       ·refine hwp_qbind (qrun_zeroValue hz H) ?_
        exact hq
      ·simp at h
 ·simp at h
def fillV (size:Nat) (cells:Array Value) (parts:List (Nat × Value)):Option (Array Value):=Instr.fill (fun i=>some (i * size,size)) cells parts
def buildSliceV (P:Program) (H:Heap) (t:TypeId) (len:Nat) (parts:List (Nat × Value)):Option (Value × Heap) :=
 (elemT P t).bind fun e=>(sizeT P e).bind fun s=>(zeroT P e).bind fun z =>
  if len * s≤16777216 then
   (fillV s (mkCells z.cells (len * s)) parts).map fun cs=>(.slice (some ⟨H.size,0,none⟩) len len,H.push (.cells cs e)) else none
theorem hwp_buildSlice {P:Program} {H H':Heap} {t:TypeId} {len:Nat} {parts:List (Nat × Value)} {r:Value} {Q:Value→Heap→Prop} {E:Value→Heap→Prop}
  (h:buildSliceV P H t len parts=some (r,H')) (hq:Q r H'):hwp P (Instr.buildSlice t len parts.toArray) H Q E:=by
 unfold buildSliceV at h
 cases he:elemT P t with
 | none=>simp [he] at h
 | some e =>
  cases hs:sizeT P e with
  | none=>simp [he,hs] at h
  | some s =>
   cases hz:zeroT P e with
   | none=>simp [he,hs,hz] at h
   | some z =>
    simp only [he,hs,hz,Option.bind_some] at h
    split at h
    ·rename_i hc
     have hu:P.underlying t=some (.slice e):=by
      unfold elemT at he
      cases hu:P.underlying t with
      | none=>simp [hu] at he
      | some d=>cases d <;> simp [hu] at he; subst he; rfl
     cases hf:fillV s (mkCells z.cells (len * s)) parts with
     | none=>simp [hf] at h
     | some cs =>
      simp only [hf,Option.map_some,Option.some.injEq,Prod.mk.injEq] at h
      obtain ⟨rfl,rfl⟩:=h
      unfold Instr.buildSlice
      refine hwp_qbind (qrun_underlying hu H) ?_
      simp only
      refine hwp_qbind (qrun_sizeOf hs H) ?_
      rw [if_neg (by simp; omega)]
      unfold fillV at hf
      split
      ·rename_i hn
       have e0:mkCells z.cells (len * s)=(Array.range (len * s)).map fun x=>(#[]:Array Value)[x % (#[]:Array Value).size]!:=by simp [mkCells,hn]
       rw [e0] at hf
       show hwp P (match Instr.fill (fun i=>some (i * s,s)) ((Array.range (len * s)).map fun x=>(#[]:Array Value)[x % (#[]:Array Value).size]!) parts with
        | some cells=>do
         let a ← newRow e cells
         pure (Value.slice (some a) len len)
        | _=>stuck "buildSlice: a part of the wrong size") H Q E
       simp only [hf]
       exact hq
      ·refine hwp_qbind (qrun_zeroValue hz H) ?_
       show hwp P (match Instr.fill (fun i=>some (i * s,s)) (mkCells z.cells (len * s)) parts with
        | some cells=>do
         let a ← newRow e cells
         pure (Value.slice (some a) len len)
        | _=>stuck "buildSlice: a part of the wrong size") H Q E
       simp only [hf]
       exact hq
    ·simp at h
def srcCells (H:Heap) (size n:Nat):Value→Option (List Value)
 | .slice (some a) _ _=>cellsH (cellH H) a 0 (n * size)
 | .slice none _ _=>some []
 | .string s=>some ((s.extract 0 n).data.toList.map fun b=>.int .u8 b.toNat)
 | _=>none
def lenS:Value→Option Nat
 | .slice _ n _=>some n
 | .string s=>some s.size
 | _=>none
def appW (P:Program) (H:Heap) (t xt:TypeId) (s x:Value) (k:Value→Heap→Prop):Prop :=
 match s with
 | .slice base len cap =>
  someW (elemT P t) fun e=>someW (sizeT P e) fun size=>someW (bytesT P e) fun bytes=>someW (zeroT P e) fun z=>someW (lenS x) fun n=>someW (srcCells H size n x) fun new =>
   someW (P.underlying xt) fun d=>(∀ kk,d ≠ .int kk) ∧
   if len + n≤cap then
    match base with
    | some a=>someW (storeCellsH H (a.add (len * size)) new 0) fun H'=>k (.slice base (len + n) cap) H'
    | none=>k (.slice base (len + n) cap) H
   else
    Builtin.nextslicecap (len + n) cap * bytes≤281474976710656∧len + n≤281474976710656∧(bytes=0→len + n≤9223372036854775807) ∧
    someW (srcCells H size len s) fun old=>∀ newCap,len + n≤newCap→newCap < 9223372036854775808 →
     k (.slice (some ⟨H.size,0,none⟩) (len + n) newCap) (H.push (.cells (old.toArray ++ new.toArray ++ Builtin.zeroCells z.cells (newCap - (len + n))) e))
 | _=>False
theorem qrun_firstCells {P:Program} {H:Heap} {size n:Nat} {v:Value} {l:List Value} (h:srcCells H size n v=some l):qrun P (Builtin.firstCells size n v) H=some l.toArray:=by
 unfold srcCells at h
 split at h
 ·rename_i a _ _
  show qrun P (loadCells a (n * size)) H=_
  unfold loadCells
  rw [qrun_loadCellsFrom _ 0 #[] l h]
  simp
 ·simp only [Option.some.injEq] at h; subst h; rfl
 ·rename_i s
  simp only [Option.some.injEq] at h; subst h
  show some _=some _
  congr 1
  apply Array.ext'
  simp
 ·simp at h
theorem hwp_append {P:Program} {H:Heap} {t xt ty:TypeId} {s x:Value} {k:Value→Heap→Prop} {E:Value→Heap→Prop} (h:appW P H t xt s x k) :
  hwp P (Builtin.append_ #[t,xt] ty #[s,x]) H k E:=by
 unfold appW at h
 split at h
 ·rename_i base len cap
  simp only [someW_iff] at h
  obtain ⟨e,he,size,hsz,bytes,hby,z,hz,n,hn,new,hnew,d,hd,hdi,h⟩:=h
  have hu:P.underlying t=some (.slice e):=by
   unfold elemT at he
   cases hu:P.underlying t with
   | none=>simp [hu] at he
   | some d=>cases d <;> simp [hu] at he; subst he; rfl
  have hi:∃ i,P.info? e=some i∧i.bytes=bytes:=by
   unfold bytesT at hby
   cases hi:P.info? e with
   | none=>simp [hi] at hby
   | some i=>simp [hi] at hby; exact ⟨i,rfl,hby⟩
  obtain ⟨i,hi,hib⟩:=hi
  unfold Builtin.append_
  simp only [List.getElem?_toArray,List.getElem?_cons_zero,List.getElem?_cons_succ]
  refine hwp_qbind (qrun_underlying hu H) ?_
  simp only
  refine hwp_qbind (qrun_sizeOf hsz H) ?_
  refine hwp_qbind (qrun_underlying hd H) ?_
  refine hwp_qbind (a:=false) ?_ ?_
  ·cases d <;> first | rfl | exact absurd rfl (hdi _)
  simp only [Bool.false_eq_true,if_false,Bool.not_false,if_true]
  refine hwp_qbind (a:=n) ?_ ?_
  ·unfold lenS at hn
   split at hn
   ·simp only [Option.some.injEq] at hn; subst hn; rfl
   ·simp only [Option.some.injEq] at hn; subst hn; rfl
   ·simp at hn
  split at h
  ·rename_i hfit
   rw [if_pos hfit]
   refine hwp_qbind (qrun_firstCells hnew) ?_
   cases base with
   | none=>exact h
   | some a =>
    obtain ⟨H',hst,hk⟩:=h
    simp only
    rw [hwp_bind']
    exact hwp_storeCells _ 0 H H' (by simpa using hst) hk
  ·rename_i hfit
   rw [if_neg hfit]
   obtain ⟨h1,h2,h3,old,hold,hk⟩:=h
   refine hwp_qbind (qrun_typeInfo hi H) ?_
   rw [hib]
   rw [if_neg (by rintro ⟨ha,hb⟩; simp [IntKind.max,IntKind.bits,IntKind.signed] at ha hb; omega)]
   refine hwp_qbind (qrun_typeInfo hi H) ?_
   rw [hib,if_neg (by simp; omega)]
   rw [hwp_bind']
   show hwp P (choose (.appendCap (len + n) cap e)) H _ E
   simp only [choose,hwp,Question.forced]
   intro tt
   simp only [Question.cut]
   refine hwp_qbind (qrun_typeInfo hi H) ?_
   refine hwp_qbind (a:=()) (by unfold askRoom; split <;> rfl) ?_
   refine hwp_qbind (qrun_firstCells hold) ?_
   refine hwp_qbind (qrun_firstCells hnew) ?_
   refine hwp_qbind (qrun_zeroValue hz H) ?_
   refine hk _ (by omega) ?_
   have:=Nat.mod_lt tt (y:=2 ^ 63 - (len + n)) (by omega)
   omega
 ·exact h.elim
def mapW (P:Program) (H:Heap) (t:TypeId) (m k x:Value) (K:Heap→Prop) (E:Value→Heap→Prop):Prop:=hwp P (Instr.mapUpdate t m k x) H (fun _ H'=>K H') E
theorem mapW_mono {P:Program} {H:Heap} {t:TypeId} {m k x:Value} {K K':Heap→Prop} {E E':Value→Heap→Prop} (hk:∀ H,K H→K' H) (he:∀ v H,E v H→E' v H) (h:mapW P H t m k x K E):mapW P H t m k x K' E' :=
 hwp_mono P _ _ _ _ _ _ (fun _ H h=>hk H h) he h
def opV (n:Nat) (P:Program) (o:Oper) (ρ:En) (H:Heap) (K:En→Heap→Prop) (Q:Exit→En→Heap→Prop):Prop :=
 match o.op with
 | .store t a x=>ptrW (ρ.ev a) fun ad=>withV (ρ.ev x) fun v=>someW (storeA P H t ad v) fun H'=>K (ρ.put n o.dst undef) H'
 | .alloc t=>someW (zeroT P t) fun z=>K (ρ.put n o.dst (newPtr H)) (H.push (.cells z.cells t))
 | .box t x=>withV (ρ.ev x) fun v=>K (ρ.put n o.dst (newPtr H)) (H.push (.cells v.cells t))
 | .makeSlice t l c=>someW (makeV P H t (ρ.ev l) (ρ.ev c)) fun r=>K (ρ.put n o.dst r.1) r.2
 | .buildSlice t len parts=>someW (buildSliceV P H t len (parts.toList.map fun p=>(p.1,ρ.ev p.2))) fun r=>K (ρ.put n o.dst r.1) r.2
 | .makeMap _ none=>K (ρ.put n o.dst (.map (some H.size))) (H.push (.map #[] 0))
 | .mapUpdate t m k x=>mapW P H t (ρ.ev m) (ρ.ev k) (ρ.ev x) (fun H'=>K (ρ.put n o.dst undef) H') (fun v H'=>Q (.panic [{ v,recovered:=false }]) ρ H')
 | .insert t m k x=>mapW P H t (ρ.ev m) (ρ.ev k) (ρ.ev x) (fun H'=>K (ρ.put n o.dst undef) H') (fun v H'=>Q (.panic [{ v,recovered:=false }]) ρ H')
 | .call ⟨.builtin .append,args,ats⟩=>match ats.toList,args.toList with
  | [t,xt],[s,x]=>withV (ρ.ev s) fun s=>withV (ρ.ev x) fun x=>appW P H t xt s x fun v H'=>K (ρ.put n o.dst v) H'
  | _,_=>False
 | .call ⟨.builtin .unsafeSliceData,args,ats⟩=>hwp P (Builtin.unsafeSliceData_ ats o.type (args.toList.map ρ.ev).toArray) H (fun v H'=>K (ρ.put n o.dst v) H') (fun _ _=>False)
 | .call ⟨.builtin .unsafeString,args,ats⟩=>hwp P (Builtin.unsafeString_ ats o.type (args.toList.map ρ.ev).toArray) H (fun v H'=>K (ρ.put n o.dst v) H') (fun _ _=>False)
 | .call ⟨.value f,args,_⟩=>callV P (ρ.ev f) (args.toList.map ρ.ev) H (fun v H'=>K (ρ.put n o.dst v) H') (fun c H'=>Q (.panic c) ρ H')
 | op=>someW (opQ P (full H) ρ.ev op) fun v=>K (ρ.put n o.dst v) H
theorem opWp_call {n:Nat} {P:Program} {dst:Option Nat} {f:Operand} {args:Array Operand} {ats:Array TypeId} {ty:TypeId} {pos:String} {after:Array Edge} {guard:Option (Nat × Bool)} {ρ:En} {H:Heap}
  {K:En→Heap→Prop} {Q:Exit→En→Heap→Prop}
  (h:callV P (ρ.ev f) (args.toList.map ρ.ev) H (fun v H'=>K (ρ.put n dst v) H') (fun c H'=>Q (.panic c) ρ H')) :
  opWp n P ⟨dst,.call ⟨.value f,args,ats⟩,ty,pos,after,guard⟩ ρ H K Q:=by
 unfold callV at h
 split at h
 ·rename_i g first captured hf
  have e:execOp ρ.ev ⟨dst,.call ⟨.value f,args,ats⟩,ty,pos,after,guard⟩=callFunc g (first ++ args.map ρ.ev ++ captured):=by
   unfold execOp resolve
   simp only [hf]
   rfl
  have e2:(first ++ args.map ρ.ev ++ captured)=(first.toList ++ args.toList.map ρ.ev ++ captured.toList).toArray:=by
   apply Array.ext'; simp
  unfold opWp
  rw [e,e2]
  refine hwp_mono P _ _ _ _ _ _ ?_ (fun v H' hx=>hx) h
  intro nx H' hx
  cases nx <;> first | exact hx | exact hx.elim
 ·exact h.elim
theorem opV_op {n:Nat} {P:Program} {o:Oper} {ρ:En} {H:Heap} {K:En→Heap→Prop} {Q:Exit→En→Heap→Prop} (h:opV n P o ρ H K Q):opWp n P o ρ H K Q:=by
 have quiet:∀ o:Oper,(someW (opQ P (full H) ρ.ev o.op) fun v=>K (ρ.put n o.dst v) H)→opWp n P o ρ H K Q:=by
  intro o h
  rw [someW_iff] at h
  obtain ⟨v,hv,hk⟩:=h
  exact hwp_of_qrun P _ H _ _ _ (opQ_sound (full_of H) hv) hk
 obtain ⟨dst,op,type,pos,after,guard⟩:=o
 unfold opV at h
 simp only at h
 split at h
 ·rename_i t a x
  unfold ptrW at h
  split at h
  ·rename_i ad ha
   rw [withV,someW_iff] at h
   obtain ⟨H',hs,hk⟩:=h
   unfold opWp
   simp only [execOp,ha]
   rw [hwp_bind']
   exact hwp_storeAt hs hk
  ·exact h.elim
 ·rename_i t
  rw [someW_iff] at h
  obtain ⟨z,hz,hk⟩:=h
  unfold opWp
  simp only [execOp,Instr.alloc]
  rw [hwp_bind']
  refine hwp_qbind (qrun_zeroValue hz H) ?_
  exact hk
 ·exact h
 ·rename_i t l c
  rw [someW_iff] at h
  obtain ⟨⟨r,H'⟩,hm,hk⟩:=h
  unfold opWp
  simp only [execOp]
  rw [hwp_bind']
  exact hwp_makeSlice hm hk
 ·rename_i t len parts
  rw [someW_iff] at h
  obtain ⟨⟨r,H'⟩,hm,hk⟩:=h
  unfold opWp
  simp only [execOp]
  rw [hwp_bind']
  have e:(parts.map fun x=>(x.1,ρ.ev x.2))=(parts.toList.map fun p=>(p.1,ρ.ev p.2)).toArray:=by apply Array.ext'; simp
  show hwp P (Instr.buildSlice t len (parts.map fun x=>(x.1,ρ.ev x.2))) H _ _
  rw [e]
  exact hwp_buildSlice hm hk
 ·exact h
 ·unfold opWp
  simp only [execOp]
  rw [hwp_bind']
  exact h
 ·unfold opWp
  simp only [execOp]
  rw [hwp_bind']
  exact h
 ·rename_i args ats
  split at h
  ·rename_i t xt s x ht hx
   have e1:ats = #[t,xt]:=by apply Array.ext'; simp [ht]
   have e2:args = #[s,x]:=by apply Array.ext'; simp [hx]
   subst e1 e2
   unfold opWp
   have e3:execOp ρ.ev ⟨dst,.call ⟨.builtin .append,#[s,x],#[t,xt]⟩,type,pos,after,guard⟩=(do pure (Next.value (← Builtin.append_ #[t,xt] type (#[s,x].map ρ.ev)))):=rfl
   have e4:#[s,x].map ρ.ev = #[ρ.ev s,ρ.ev x]:=by simp
   rw [e3,e4,hwp_bind']
   exact hwp_append h
  ·exact h.elim
 ·rename_i args ats
  unfold opWp
  have e3:execOp ρ.ev ⟨dst,.call ⟨.builtin .unsafeSliceData,args,ats⟩,type,pos,after,guard⟩=(do pure (Next.value (← Builtin.unsafeSliceData_ ats type (args.map ρ.ev)))):=rfl
  have e4:args.map ρ.ev=(args.toList.map ρ.ev).toArray:=by apply Array.ext'; simp
  rw [e3,e4,hwp_bind']
  exact hwp_mono P _ _ _ _ _ _ (fun v H' hx=>hx) (fun v H' hx=>hx.elim) h
 ·rename_i args ats
  unfold opWp
  have e3:execOp ρ.ev ⟨dst,.call ⟨.builtin .unsafeString,args,ats⟩,type,pos,after,guard⟩=(do pure (Next.value (← Builtin.unsafeString_ ats type (args.map ρ.ev)))):=rfl
  have e4:args.map ρ.ev=(args.toList.map ρ.ev).toArray:=by apply Array.ext'; simp
  rw [e3,e4,hwp_bind']
  exact hwp_mono P _ _ _ _ _ _ (fun v H' hx=>hx) (fun v H' hx=>hx.elim) h
 ·exact opWp_call h
 ·exact quiet _ h
theorem opV_sound {n:Nat} {P:Program} {o:Oper} {ρ:En} {K:En→Heap→Prop} {Q:Exit→En→Heap→Prop} {w0 w:World} {a:Act}
  (h0:Rest w0 w) (ha:Ag n a ρ) (h:opV n P o ρ w.heap K Q):o.wp P a w (up n w0 K) (upQ n w0 Q):=opWp_sound h0 ha (opV_op h)
end Go.HL
namespace Go.HL
def slotOf (ops:Array Oper) (ρ:En) (j:Nat):Value :=
 match (ops[j]?).bind (·.dst) with
 | some d=>ρ.get d
 | none=>undef
def guardW (v:Value) (want:Bool) (p q:Prop):Prop :=
 match v with
 | .bool b=>(b=want→p)∧(b=(!want)→q)
 | _=>q
def yieldV:Value→Option Bool
 | .bool b=>some b
 | _=>none
theorem yield_eq {n:Nat} {a:Act} {ρ:En} (h:Ag n a ρ) (ops:Array Oper) (j:Nat):yielded ops a.tmps j=yieldV (slotOf ops ρ j):=by
 unfold yielded slotOf
 cases (ops[j]?).bind (·.dst) with
 | none=>rfl
 | some d =>
  have ht:=h.2.1 d
  rw [Array.getD_eq_getD_getElem?] at ht
  simp only [Option.bind_some]
  rw [← ht]
  cases hv:a.tmps[d]? with
  | none=>rfl
  | some v=>cases v <;> rfl
def opG (n:Nat) (P:Program) (ops:Array Oper) (o:Oper) (ρ:En) (H:Heap) (K:En→Heap→Prop) (Q:Exit→En→Heap→Prop):Prop :=
 match o.guard with
 | none=>opV n P o ρ H K Q
 | some (j,want)=>guardW (slotOf ops ρ j) want (opV n P o ρ H K Q) (K (ρ.put n o.dst undef) H)
theorem opG_sound {n:Nat} {P:Program} {ops:Array Oper} {o:Oper} {ρ:En} {K:En→Heap→Prop} {Q:Exit→En→Heap→Prop} {w0 w:World} {a:Act}
  (h0:Rest w0 w) (ha:Ag n a ρ) (h:opG n P ops o ρ w.heap K Q) :
  if Region.wanted o (yielded ops a.tmps) then o.wp P a w (up n w0 K) (upQ n w0 Q)∨(o.asks P a w∧LetsOut (upQ n w0 Q)) else up n w0 K (a.put o.dst undef) w:=by
 unfold opG at h
 unfold Region.wanted
 cases hg:o.guard with
 | none =>
  rw [hg] at h
  simp only [if_true]
  exact .inl (opV_sound h0 ha h)
 | some g =>
  obtain ⟨j,want⟩:=g
  rw [hg] at h
  simp only [yield_eq ha]
  simp only [guardW] at h
  generalize slotOf ops ρ j=v at h
  cases v with
  | bool b =>
   by_cases hb:b=want
   ·have e:(yieldV (.bool b) == some want)=true:=by subst hb; simp [yieldV]
    rw [if_pos e]
    exact .inl (opV_sound h0 ha (h.1 hb))
   ·have hb':b = !want:=by cases b <;> cases want <;> simp_all
    have e:¬ (yieldV (.bool b) == some want)=true:=by simp [yieldV,hb]
    rw [if_neg e]
    exact ⟨h0,_,ha.put _ _,h.2 hb'⟩
  | _=>exact ⟨h0,_,ha.put _ _,h⟩
def opsWp (n:Nat) (P:Program) (ops:Array Oper) (Q:Exit→En→Heap→Prop):List Oper→En→Heap→Prop
 | [],ρ,H=>Q .normal ρ H
 | o :: rest,ρ,H=>opG n P ops o ρ H (opsWp n P ops Q rest) Q
theorem opsWp_sound {n:Nat} {P:Program} {ops:Array Oper} {Q:Exit→En→Heap→Prop} {w0:World} :
  ∀ (l:List Nat) (ol:List Oper),l.map (ops[·]?)=ol.map some→∀ (ρ:En) (w:World) (a:Act),Rest w0 w→Ag n a ρ→opsWp n P ops Q ol ρ w.heap →
   wpOps P ops (upQ n w0 Q) l a w:=by
 intro l
 induction l with
 | nil =>
  intro ol hol ρ w a h0 ha h
  cases ol with
  | nil=>exact ⟨h0,_,ha,h⟩
  | cons _ _=>simp at hol
 | cons i l ih =>
  intro ol hol ρ w a h0 ha h
  cases ol with
  | nil=>simp at hol
  | cons o ol =>
   simp only [List.map_cons,List.cons.injEq] at hol
   obtain ⟨ho,hol⟩:=hol
   rw [wpOps_cons]
   unfold wpOp
   rw [ho]
   have h':=opG_sound h0 ha h
   simp only
   split
   ·rename_i hw
    rw [if_pos hw] at h'
    exact h'.imp (Oper.wp_mono (fun a' w' ⟨hr,ρ',ha',hk⟩=>ih ol hol ρ' w' a' hr ha' hk)) id
   ·rename_i hw
    rw [if_neg hw] at h'
    obtain ⟨hr,ρ',ha',hk⟩:=h'
    exact ih ol hol ρ' w _ hr ha' hk
def seqQ (K:En→Heap→Prop) (Q:Exit→En→Heap→Prop):Exit→En→Heap→Prop
 | .normal,ρ,H=>K ρ H
 | e,ρ,H=>Q e ρ H
def blkQ (id:Nat) (Q:Exit→En→Heap→Prop):Exit→En→Heap→Prop
 | .exit i,ρ,H=>if i=id then Q .normal ρ H else Q (.exit i) ρ H
 | e,ρ,H=>Q e ρ H
def condW (v:Value) (p q:Prop):Prop :=
 match v with
 | .bool b=>(b=true→p)∧(b=false→q)
 | _=>False
def CW (n:Nat) (P:Program) (c:Code) (Q:Exit→En→Heap→Prop) (ρ:En) (H:Heap):Prop :=
 ∀ (w0 w:World) (a:Act),Rest w0 w→w.heap=H→Ag n a ρ→c.wp P (upQ n w0 Q) a w
def cw (n:Nat) (P:Program):Code→(Exit→En→Heap→Prop)→En→Heap→Prop
 | .skip,Q,ρ,H=>Q .normal ρ H
 | .region _ ops false,Q,ρ,H=>opsWp n P ops Q ops.toList ρ H
 | .seq x y,Q,ρ,H=>cw n P x (seqQ (cw n P y Q) Q) ρ H
 | .cond c x y,Q,ρ,H=>condW (ρ.ev c) (cw n P x Q ρ H) (cw n P y Q ρ H)
 | .block id c,Q,ρ,H=>cw n P c (blkQ id Q) ρ H
 | .exit id,Q,ρ,H=>Q (.exit id) ρ H
 | .ret,Q,ρ,H=>Q .ret ρ H
 | .label _,Q,ρ,H=>Q .normal ρ H
 | c,Q,ρ,H=>CW n P c Q ρ H
theorem CW.mono {n:Nat} {P:Program} {c:Code} {Q Q':Exit→En→Heap→Prop} {ρ:En} {H:Heap} (hq:∀ e ρ H,Q e ρ H→Q' e ρ H) (h:CW n P c Q ρ H):CW n P c Q' ρ H :=
 fun w0 w a h0 hw ha=>wp_mono (h w0 w a h0 hw ha) fun _ _ _ ⟨hr,ρ',ha',hx⟩=>⟨hr,ρ',ha',hq _ _ _ hx⟩
theorem cw_sound {n:Nat} {P:Program} (c:Code):∀ (Q:Exit→En→Heap→Prop) (ρ:En) (H:Heap),cw n P c Q ρ H→CW n P c Q ρ H:=by
 induction c with
 | skip=>intro Q ρ H h w0 w a h0 hw ha; subst hw; exact wp_skip ⟨h0,_,ha,h⟩
 | region id ops draw =>
  intro Q ρ H h w0 w a h0 hw ha
  subst hw
  cases draw with
  | true=>exact h w0 w a h0 rfl ha
  | false =>
   refine wp_region (opsWp_sound _ ops.toList ?_ ρ w a h0 ha h)
   apply List.ext_getElem?
   intro i
   simp only [List.getElem?_map]
   by_cases hi:i < ops.size
   ·simp [hi]
   ·simp [hi]
 | seq x y ihx ihy =>
  intro Q ρ H h w0 w a h0 hw ha
  refine wp_seq (wp_mono (ihx _ _ _ h w0 w a h0 hw ha) ?_)
  rintro e a' w' ⟨hr,ρ',ha',hx⟩
  cases e with
  | normal=>exact ihy Q ρ' w'.heap hx w0 w' a' hr rfl ha'
  | _=>exact ⟨hr,ρ',ha',hx⟩
 | cond c x y ihx ihy =>
  intro Q ρ H h w0 w a h0 hw ha
  simp only [cw] at h
  cases hv:ρ.ev c with
  | bool b =>
   rw [hv] at h
   refine wp_cond (t:=b) (by rw [ha.ev]; exact hv) ?_
   cases b with
   | true=>exact ihx Q ρ H (h.1 rfl) w0 w a h0 hw ha
   | false=>exact ihy Q ρ H (h.2 rfl) w0 w a h0 hw ha
  | _=>rw [hv] at h; exact h.elim
 | block id c ih =>
  intro Q ρ H h w0 w a h0 hw ha
  refine wp_block (wp_mono (ih _ _ _ h w0 w a h0 hw ha) ?_)
  rintro e a' w' ⟨hr,ρ',ha',hx⟩
  cases e with
  | exit i =>
   simp only [blkQ] at hx
   simp only [Exit.inBlock]
   split <;> rename_i hi
   ·rw [if_pos hi] at hx; exact ⟨hr,ρ',ha',hx⟩
   ·rw [if_neg hi] at hx; exact ⟨hr,ρ',ha',hx⟩
  | _=>exact ⟨hr,ρ',ha',hx⟩
 | exit id=>intro Q ρ H h w0 w a h0 hw ha; subst hw; exact wp_exit ⟨h0,_,ha,h⟩
 | ret=>intro Q ρ H h w0 w a h0 hw ha; subst hw; exact wp_ret ⟨h0,_,ha,h⟩
 | label l=>intro Q ρ H h w0 w a h0 hw ha; subst hw; exact wp_label ⟨h0,_,ha,h⟩
 | _=>intro Q ρ H h; exact h
theorem cw_loop {n:Nat} {P:Program} {c:Code} {Q:Exit→En→Heap→Prop} (I:Nat→En→Heap→Prop)
  (round:∀ k ρ H,I k ρ H→cw n P c (seqQ (fun ρ' H'=>∃ k',k' < k∧I k' ρ' H') Q) ρ H)
  {k:Nat} {ρ:En} {H:Heap} (h0:I k ρ H):CW n P (.loop c) Q ρ H:=by
 intro w0 w a hr hw ha
 subst hw
 refine wp_loop_rounds (k + 1) ?_
 have key:∀ m k,k < m→∀ ρ (w:World) (a:Act),Rest w0 w→Ag n a ρ→I k ρ w.heap→Code.rounds P c (upQ n w0 Q) m a w:=by
  intro m
  induction m with
  | zero=>intro k hk; omega
  | succ m ih =>
   intro k hk ρ w a hr ha hi
   rw [rounds_succ]
   refine wp_mono (cw_sound c _ _ _ (round k ρ w.heap hi) w0 w a hr rfl ha) ?_
   rintro e a' w' ⟨hr',ρ',ha',hx⟩
   cases e with
   | normal =>
    obtain ⟨k',hk',hi'⟩:=hx
    exact ih k' (by omega) ρ' w' a' hr' ha' hi'
   | _=>exact ⟨hr',ρ',ha',hx⟩
 exact key (k + 1) k (by omega) ρ w a hr ha h0
def resF (ρ:En):ResultVar→Sem Value
 | .tmp t=>pure (ρ.get t)
 | .cell a t=>do loadVar t (← asAddr (ρ.get a))
def resE (fn:Func) (ρ:En):Sem Value:=do
 let vs ← fn.results.mapM (resF ρ)
 pure (if h:vs.size=1 then vs[0] else .tuple vs)
theorem resE_eq {n:Nat} {a:Act} {ρ:En} (h:Ag n a ρ) (fn:Func):results fn a.tmps=resE fn ρ:=by
 unfold results resE
 congr 1
 congr 1
 funext x
 cases x with
 | tmp t=>simp only [h.2.1 t]; rfl
 | cell b t=>simp only [h.2.1 b]; rfl
def bodyQ (P:Program) (fn:Func) (R:Value→Heap→Prop) (E:List PanicEntry→Heap→Prop):Exit→En→Heap→Prop
 | .normal,ρ,H | .ret,ρ,H=>ρ.ds = []∧∃ v,qrun P (resE fn ρ) H=some v∧R v H
 | .panic c,ρ,H=>ρ.ds = []∧E c H
 | _,_,_=>False
def enArgs (args:Array Value):En:={ get:=fun t=>args.getD t undef,ds:=[] }
theorem hcalls_of {P:Program} {f:FuncId} {fn:Func} {c:Code} {args:Array Value} {H:Heap} {R:Value→Heap→Prop} {E:List PanicEntry→Heap→Prop}
  (hf:P.funcs[f]?=some fn) (hb:fn.body=some c) (hs:args.size≤fn.ntmps)
  (h:CW fn.ntmps P c (bodyQ P fn R E) (enArgs args) H):HCalls P f args H R E:=by
 intro w hw
 refine calls_of_wp hf hb ?_
 refine wp_mono (h w w _ (Rest.refl w) hw ⟨?_,fun t=>?_,rfl⟩) ?_
 ·simp; omega
 ·simp only [enArgs]
  rw [Array.getD_eq_getD_getElem?,Array.getD_eq_getD_getElem?,Array.getElem?_append]
  split
  ·rfl
  ·rename_i ht
   rw [Array.getElem?_eq_none (xs:=args) (by omega),Array.getElem?_replicate]
   split <;> rfl
 ·rintro e a' w' ⟨hr,ρ',ha',hx⟩
  cases e with
  | normal =>
   obtain ⟨hd,v,hv,hR⟩:=hx
   exact ⟨ha'.2.2.trans hd,v,by rw [resE_eq ha']; exact qrun_sound P _ w' v hv,hr,hR⟩
  | ret =>
   obtain ⟨hd,v,hv,hR⟩:=hx
   exact ⟨ha'.2.2.trans hd,v,by rw [resE_eq ha']; exact qrun_sound P _ w' v hv,hr,hR⟩
  | panic ch=>exact ⟨ha'.2.2.trans hx.1,hr,hx.2⟩
  | _=>exact hx.elim
end Go.HL
namespace Go.HL
def stop [p:Inhabited Prop]:Prop:=p.default
theorem fin {p:Prop} (h:p):@stop ⟨p⟩:=h
theorem stop_eq {p:Prop}:@stop ⟨p⟩=p:=rfl
def both2 [p:Inhabited Prop] [q:Inhabited Prop]:Prop:=p.default∧q.default
theorem both_of {p q:Prop} (h:p) (h':q):@both2 ⟨p⟩ ⟨q⟩:=⟨h,h'⟩
def withB (v:Value) [k:Inhabited (Value→Prop)]:Prop:=k.default v
def withA (v:Array Value) [k:Inhabited (Array Value→Prop)]:Prop:=k.default v
def someB {α:Type} (o:Option α) [k:Inhabited (α→Prop)]:Prop:=someW o k.default
def ptrB (v:Value) [k:Inhabited (Addr→Prop)]:Prop:=ptrW v k.default
def condB (v:Value) [p:Inhabited Prop] [q:Inhabited Prop]:Prop:=condW v p.default q.default
def guardB (v:Value) (b:Bool) [p:Inhabited Prop] [q:Inhabited Prop]:Prop:=guardW v b p.default q.default
def appB (P:Program) (t xt:TypeId) (s x:Value) [H:Inhabited Heap] [k:Inhabited (Value→Heap→Prop)]:Prop:=appW P H.default t xt s x k.default
def usdB (P:Program) (t ty:TypeId) (x:Value) [H:Inhabited Heap] [k:Inhabited (Value→Heap→Prop)]:Prop:=hwp P (Builtin.unsafeSliceData_ #[t] ty #[x]) H.default k.default (fun _ _=>False)
def ustB (P:Program) (t t' ty:TypeId) (x y:Value) [H:Inhabited Heap] [k:Inhabited (Value→Heap→Prop)]:Prop:=hwp P (Builtin.unsafeString_ #[t,t'] ty #[x,y]) H.default k.default (fun _ _=>False)
def callB (P:Program) (f:Value) (args:List Value) [H:Inhabited Heap] [R:Inhabited (Value→Heap→Prop)] [E:Inhabited (List PanicEntry→Heap→Prop)]:Prop:=callV P f args H.default R.default E.default
def mapB (P:Program) (t:TypeId) (m k x:Value) [H:Inhabited Heap] [K:Inhabited (Heap→Prop)] [E:Inhabited (Value→Heap→Prop)]:Prop:=mapW P H.default t m k x K.default E.default
def CallB (P:Program) (f:FuncId) (args:List Value) [H:Inhabited Heap] [R:Inhabited (Value→Heap→Prop)] [E:Inhabited (List PanicEntry→Heap→Prop)]:Prop:=CallF P f args H.default R.default E.default
section
variable {n:Nat} {P:Program} {Q:Exit→En→Heap→Prop} {K:En→Heap→Prop} {ρ:En} {H:Heap}
@[go_sem ↓] theorem cw_skip:cw n P .skip Q ρ H=Q .normal ρ H:=(rfl)
@[go_sem ↓] theorem cw_region {id:Nat} {l:List Oper}:cw n P (.region id l.toArray false) Q ρ H=opsWp n P l.toArray Q l ρ H:=(rfl)
@[go_sem ↓] theorem cw_draw {id:Nat} {l:Array Oper}:cw n P (.region id l true) Q ρ H = @stop ⟨CW n P (.region id l true) Q ρ H⟩:=(rfl)
@[go_sem ↓] theorem cw_seq {x y:Code}:cw n P (.seq x y) Q ρ H=cw n P x (seqQ (cw n P y Q) Q) ρ H:=(rfl)
@[go_sem ↓] theorem cw_cond {c:Operand} {x y:Code}:cw n P (.cond c x y) Q ρ H = @condB (ρ.ev c) ⟨cw n P x Q ρ H⟩ ⟨cw n P y Q ρ H⟩:=(rfl)
theorem cB {id:Nat} {c:Code}:cw n P (.block id c) Q ρ H=cw n P c (blkQ id Q) ρ H:=(rfl)
@[go_sem ↓] theorem cw_exit {id:Nat}:cw n P (.exit id) Q ρ H=Q (.exit id) ρ H:=(rfl)
@[go_sem ↓] theorem cw_ret:cw n P .ret Q ρ H=Q .ret ρ H:=(rfl)
@[go_sem ↓] theorem cw_label {l:Nat}:cw n P (.label l) Q ρ H=Q .normal ρ H:=(rfl)
@[go_sem ↓] theorem cw_loop' {c:Code}:cw n P (.loop c) Q ρ H = @stop ⟨CW n P (.loop c) Q ρ H⟩:=(rfl)
@[go_sem ↓] theorem seqQ_normal:seqQ K Q .normal ρ H=K ρ H:=(rfl)
@[go_sem ↓] theorem seqQ_ret:seqQ K Q .ret ρ H=Q .ret ρ H:=(rfl)
@[go_sem ↓] theorem seqQ_exit {i:Nat}:seqQ K Q (.exit i) ρ H=Q (.exit i) ρ H:=(rfl)
@[go_sem ↓] theorem seqQ_panic {c:List PanicEntry}:seqQ K Q (.panic c) ρ H=Q (.panic c) ρ H:=(rfl)
@[go_sem ↓] theorem blkQ_normal {id:Nat}:blkQ id Q .normal ρ H=Q .normal ρ H:=(rfl)
@[go_sem ↓] theorem blkQ_ret {id:Nat}:blkQ id Q .ret ρ H=Q .ret ρ H:=(rfl)
@[go_sem ↓] theorem blkQ_panic {id:Nat} {c:List PanicEntry}:blkQ id Q (.panic c) ρ H=Q (.panic c) ρ H:=(rfl)
@[go_sem ↓] theorem blkQ_same {id:Nat}:blkQ id Q (.exit id) ρ H=Q .normal ρ H:=if_pos rfl
theorem blkQ_other {id i:Nat} (h:i ≠ id):blkQ id Q (.exit i) ρ H=Q (.exit i) ρ H:=if_neg h
@[go_sem ↓] theorem blkQ_exit {id i:Nat}:blkQ id Q (.exit i) ρ H=if i=id then Q .normal ρ H else Q (.exit i) ρ H:=(rfl)
@[go_sem ↓] theorem opsWp_nil {ops:Array Oper}:opsWp n P ops Q [] ρ H=Q .normal ρ H:=(rfl)
@[go_sem ↓] theorem opsWp_cons {ops:Array Oper} {o:Oper} {l:List Oper}:opsWp n P ops Q (o :: l) ρ H=opG n P ops o ρ H (opsWp n P ops Q l) Q:=(rfl)
variable {ops:Array Oper} {dst:Option Nat} {op:Op} {ty:TypeId} {pos:String} {after:Array Edge} {g:Option (Nat × Bool)}
@[go_sem ↓] theorem opG_none:opG n P ops ⟨dst,op,ty,pos,after,none⟩ ρ H K Q=opV n P ⟨dst,op,ty,pos,after,none⟩ ρ H K Q:=(rfl)
@[go_sem ↓] theorem opG_some {j:Nat} {want:Bool}:opG n P ops ⟨dst,op,ty,pos,after,some (j,want)⟩ ρ H K Q =
  @guardB (slotOf ops ρ j) want ⟨opV n P ⟨dst,op,ty,pos,after,some (j,want)⟩ ρ H K Q⟩ ⟨K (ρ.put n dst undef) H⟩:=(rfl)
def slotL:List Oper→En→Nat→Value
 | [],_,_=>undef
 | o :: _,ρ,0=>match o.dst with
  | some d=>ρ.get d
  | none=>undef
 | _ :: l,ρ,j + 1=>slotL l ρ j
@[go_sem] theorem slotOf_lit {l:List Oper} {j:Nat}:slotOf l.toArray ρ j=slotL l ρ j:=by
 unfold slotOf
 simp only [List.getElem?_toArray]
 induction l generalizing j with
 | nil=>rfl
 | cons o l ih =>
  cases j with
  | zero=>rfl
  | succ j=>exact ih
@[go_sem ↓] theorem slotL_zero {l:List Oper} {d:Nat}:slotL (⟨some d,op,ty,pos,after,g⟩ :: l) ρ 0=ρ.get d:=(rfl)
@[go_sem ↓] theorem slotL_succ {o:Oper} {l:List Oper} {j:Nat}:slotL (o :: l) ρ (j + 1)=slotL l ρ j:=(rfl)
@[go_sem] theorem guardB_tt {p q:Prop}:@guardB (.bool true) true ⟨p⟩ ⟨q⟩=p:=by simp [guardB,guardW]
@[go_sem] theorem guardB_tf {p q:Prop}:@guardB (.bool true) false ⟨p⟩ ⟨q⟩=q:=by simp [guardB,guardW]
@[go_sem] theorem guardB_ft {p q:Prop}:@guardB (.bool false) true ⟨p⟩ ⟨q⟩=q:=by simp [guardB,guardW]
@[go_sem] theorem guardB_ff {p q:Prop}:@guardB (.bool false) false ⟨p⟩ ⟨q⟩=p:=by simp [guardB,guardW]
@[go_sem] theorem guardB_undef {b:Bool} {p q:Prop}:@guardB undef b ⟨p⟩ ⟨q⟩=q:=(rfl)
@[go_sem] theorem condB_t {p q:Prop}:@condB (.bool true) ⟨p⟩ ⟨q⟩=p:=by simp [condB,condW]
@[go_sem] theorem condB_f {p q:Prop}:@condB (.bool false) ⟨p⟩ ⟨q⟩=q:=by simp [condB,condW]
@[go_sem] theorem cond_pos {c p q:Prop} [Decidable c] (h:c):@condB (.bool (decide c)) ⟨p⟩ ⟨q⟩=p:=by simp [condB,condW,h]
@[go_sem] theorem cond_neg {c p q:Prop} [Decidable c] (h:¬ c):@condB (.bool (decide c)) ⟨p⟩ ⟨q⟩=q:=by simp [condB,condW,h]
theorem cond_dec {c p q:Prop} [Decidable c] (h:c→p) (h':¬ c→q):@condB (.bool (decide c)) ⟨p⟩ ⟨q⟩:=⟨fun e=>h (by simpa using e),fun e=>h' (by simpa using e)⟩
theorem cond_b {b:Bool} {p q:Prop} (h:b=true→p) (h':b=false→q):@condB (.bool b) ⟨p⟩ ⟨q⟩:=⟨h,h'⟩
@[go_sem] theorem guard_pos {c p q:Prop} [Decidable c] (h:c) {b:Bool}:@guardB (.bool (decide c)) b ⟨p⟩ ⟨q⟩ = @guardB (.bool true) b ⟨p⟩ ⟨q⟩:=by simp [h]
@[go_sem] theorem guard_neg {c p q:Prop} [Decidable c] (h:¬ c) {b:Bool}:@guardB (.bool (decide c)) b ⟨p⟩ ⟨q⟩ = @guardB (.bool false) b ⟨p⟩ ⟨q⟩:=by simp [h]
theorem guard_dec {c p q:Prop} [Decidable c] {b:Bool} (h:c→@guardB (.bool true) b ⟨p⟩ ⟨q⟩) (h':¬ c→@guardB (.bool false) b ⟨p⟩ ⟨q⟩):@guardB (.bool (decide c)) b ⟨p⟩ ⟨q⟩:=by
 by_cases hc:c
 ·rw [guard_pos hc]; exact h hc
 ·rw [guard_neg hc]; exact h' hc
theorem guard_b {c:Bool} {p q:Prop} {b:Bool} (h:c=true→@guardB (.bool true) b ⟨p⟩ ⟨q⟩) (h':c=false→@guardB (.bool false) b ⟨p⟩ ⟨q⟩):@guardB (.bool c) b ⟨p⟩ ⟨q⟩:=by
 cases c
 ·exact h' rfl
 ·exact h rfl
@[go_sem] theorem withB_eq {v:Value} {k:Value→Prop}:@withB v ⟨k⟩=k v:=(rfl)
@[go_sem] theorem someB_some {α:Type} {a:α} {k:α→Prop}:@someB _ (some a) ⟨k⟩=k a:=(rfl)
@[go_sem] theorem ptrB_mk {a:Addr} {k:Addr→Prop}:@ptrB (.pointer (some a)) ⟨k⟩=k a:=(rfl)
theorem some_of {α:Type} {o:Option α} {a:α} {k:α→Prop} (h:o=some a) (hk:k a):@someB _ o ⟨k⟩:=by subst h; exact hk
@[go_sem ↓] theorem opV_move {x:Operand}:opV n P ⟨dst,.move x,ty,pos,after,g⟩ ρ H K Q = @withB (ρ.ev x) ⟨fun v=>K (ρ.put n dst v) H⟩:=(rfl)
@[go_sem ↓] theorem opV_assign {x:Operand}:opV n P ⟨dst,.assign x,ty,pos,after,g⟩ ρ H K Q = @withB (ρ.ev x) ⟨fun v=>K (ρ.put n dst v) H⟩:=(rfl)
@[go_sem ↓] theorem opV_pick {c a b:Operand}:opV n P ⟨dst,.pick c a b,ty,pos,after,g⟩ ρ H K Q = @someB _ (pickV (ρ.ev c) (ρ.ev a) (ρ.ev b)) ⟨fun v=>K (ρ.put n dst v) H⟩:=(rfl)
@[go_sem ↓] theorem opV_load {t:TypeId} {a:Operand}:opV n P ⟨dst,.load t a,ty,pos,after,g⟩ ρ H K Q = @someB _ (loadQ P (full H) t (ρ.ev a)) ⟨fun v=>K (ρ.put n dst v) H⟩:=(rfl)
@[go_sem ↓] theorem opV_store {t:TypeId} {a x:Operand}:opV n P ⟨dst,.store t a x,ty,pos,after,g⟩ ρ H K Q = @ptrB (ρ.ev a) ⟨fun ad=>@withB (ρ.ev x) ⟨fun v=>@someB _ (storeA P H t ad v) ⟨fun H'=>K (ρ.put n dst undef) H'⟩⟩⟩:=(rfl)
@[go_sem ↓] theorem opV_nilCheck {x:Operand}:opV n P ⟨dst,.nilCheck x,ty,pos,after,g⟩ ρ H K Q = @someB _ (nilV (ρ.ev x)) ⟨fun v=>K (ρ.put n dst v) H⟩:=(rfl)
@[go_sem ↓] theorem opV_binOp {b:BinOp} {t t':TypeId} {x y:Operand}:opV n P ⟨dst,.binOp b t x y t',ty,pos,after,g⟩ ρ H K Q = @someB _ (binV P (full H) b t x y (ρ.ev x) (ρ.ev y)) ⟨fun v=>K (ρ.put n dst v) H⟩:=(rfl)
@[go_sem ↓] theorem opV_unOp {u:UnOp} {t:TypeId} {x:Operand}:opV n P ⟨dst,.unOp u t x,ty,pos,after,g⟩ ρ H K Q = @someB _ (unV u (ρ.ev x)) ⟨fun v=>K (ρ.put n dst v) H⟩:=(rfl)
@[go_sem ↓] theorem opV_convert {s d:TypeId} {x:Operand}:opV n P ⟨dst,.convert s d x,ty,pos,after,g⟩ ρ H K Q = @someB _ (convV P (full H) s d (ρ.ev x)) ⟨fun v=>K (ρ.put n dst v) H⟩:=(rfl)
@[go_sem ↓] theorem opV_makeInterface {t:TypeId} {x:Operand}:opV n P ⟨dst,.makeInterface t x,ty,pos,after,g⟩ ρ H K Q = @someB _ (ifaceV P t (ρ.ev x)) ⟨fun v=>K (ρ.put n dst v) H⟩:=(rfl)
@[go_sem ↓] theorem opV_makeFunc {fn:Fn} {a b:List Operand}:opV n P ⟨dst,.makeFunc fn a.toArray b.toArray,ty,pos,after,g⟩ ρ H K Q = @someB _ (some (.func fn (a.map ρ.ev).toArray (b.map ρ.ev).toArray)) ⟨fun v=>K (ρ.put n dst v) H⟩:=(rfl)
@[go_sem ↓] theorem opV_slice {t:TypeId} {x:Operand} {a b c:Option Operand}:opV n P ⟨dst,.slice t x a b c,ty,pos,after,g⟩ ρ H K Q = @someB _ (sliceV P t (ρ.ev x) (optMap ρ.ev a) (optMap ρ.ev b) (optMap ρ.ev c)) ⟨fun v=>K (ρ.put n dst v) H⟩:=(rfl)
@[go_sem ↓] theorem opV_fieldAddr {s:TypeId} {x:Operand} {f:Nat}:opV n P ⟨dst,.fieldAddr s x f,ty,pos,after,g⟩ ρ H K Q = @someB _ (fieldAV P s (ρ.ev x) f) ⟨fun v=>K (ρ.put n dst v) H⟩:=(rfl)
@[go_sem ↓] theorem opV_field {s:TypeId} {x:Operand} {f:Nat}:opV n P ⟨dst,.field s x f,ty,pos,after,g⟩ ρ H K Q = @someB _ (fieldV P s (ρ.ev x) f) ⟨fun v=>K (ρ.put n dst v) H⟩:=(rfl)
@[go_sem ↓] theorem opV_indexAddr {s:TypeId} {x i:Operand}:opV n P ⟨dst,.indexAddr s x i,ty,pos,after,g⟩ ρ H K Q = @someB _ (indexAV P s (ρ.ev x) (ρ.ev i)) ⟨fun v=>K (ρ.put n dst v) H⟩:=(rfl)
@[go_sem ↓] theorem opV_index {s:TypeId} {x i:Operand}:opV n P ⟨dst,.index s x i,ty,pos,after,g⟩ ρ H K Q = @someB _ (indexV P s (ρ.ev x) (ρ.ev i)) ⟨fun v=>K (ρ.put n dst v) H⟩:=(rfl)
@[go_sem ↓] theorem opV_lookup {s:TypeId} {x i:Operand} {ok:Bool}:opV n P ⟨dst,.lookup s x i ok,ty,pos,after,g⟩ ρ H K Q = @someB _ (qrunV P (Instr.lookup s (ρ.ev x) (ρ.ev i) ok) (full H)) ⟨fun v=>K (ρ.put n dst v) H⟩:=(rfl)
@[go_sem ↓] theorem opV_typeAssert {s t:TypeId} {x:Operand} {ok:Bool}:opV n P ⟨dst,.typeAssert x s t ok,ty,pos,after,g⟩ ρ H K Q = @someB _ (qrunV P (Instr.typeAssert (ρ.ev x) s t ok) (full H)) ⟨fun v=>K (ρ.put n dst v) H⟩:=(rfl)
@[go_sem ↓] theorem opV_extract {x:Operand} {i:Nat}:opV n P ⟨dst,.extract x i,ty,pos,after,g⟩ ρ H K Q = @someB _ (extrV (ρ.ev x) i) ⟨fun v=>K (ρ.put n dst v) H⟩:=(rfl)
@[go_sem ↓] theorem opV_build {t:TypeId} {l:List (Nat × Operand)}:opV n P ⟨dst,.build t l.toArray,ty,pos,after,g⟩ ρ H K Q = @someB _ (buildV P t (l.map fun p=>(p.1,ρ.ev p.2))) ⟨fun v=>K (ρ.put n dst v) H⟩:=(rfl)
@[go_sem ↓] theorem opV_alloc {t:TypeId}:opV n P ⟨dst,.alloc t,ty,pos,after,g⟩ ρ H K Q = @someB _ (zeroT P t) ⟨fun z=>@withA z.cells ⟨fun cs=>K (ρ.put n dst (newPtr H)) (H.push (.cells cs t))⟩⟩:=(rfl)
@[go_sem ↓] theorem opV_box {t:TypeId} {x:Operand}:opV n P ⟨dst,.box t x,ty,pos,after,g⟩ ρ H K Q = @withB (ρ.ev x) ⟨fun v=>@withA v.cells ⟨fun cs=>K (ρ.put n dst (newPtr H)) (H.push (.cells cs t))⟩⟩:=(rfl)
@[go_sem] theorem withA_l {l:List Value} {k:Array Value→Prop}:@withA l.toArray ⟨k⟩=k l.toArray:=(rfl)
@[go_sem ↓] theorem opV_makeSlice {t:TypeId} {x y:Operand}:opV n P ⟨dst,.makeSlice t x y,ty,pos,after,g⟩ ρ H K Q = @someB _ (makeV P H t (ρ.ev x) (ρ.ev y)) ⟨fun r=>K (ρ.put n dst r.1) r.2⟩:=(rfl)
@[go_sem ↓] theorem opV_buildSlice {t:TypeId} {k:Nat} {l:List (Nat × Operand)}:opV n P ⟨dst,.buildSlice t k l.toArray,ty,pos,after,g⟩ ρ H K Q = @someB _ (buildSliceV P H t k (l.map fun p=>(p.1,ρ.ev p.2))) ⟨fun r=>K (ρ.put n dst r.1) r.2⟩:=(rfl)
@[go_sem ↓] theorem opV_makeMap {t:TypeId}:opV n P ⟨dst,.makeMap t none,ty,pos,after,g⟩ ρ H K Q=K (ρ.put n dst (.map (some H.size))) (H.push (.map #[] 0)):=(rfl)
@[go_sem ↓] theorem opV_mapUpdate {t:TypeId} {x y z:Operand}:opV n P ⟨dst,.mapUpdate t x y z,ty,pos,after,g⟩ ρ H K Q = @withB (ρ.ev x) ⟨fun m=>@withB (ρ.ev y) ⟨fun k=>@withB (ρ.ev z) ⟨fun u=>@mapB P t m k u ⟨H⟩ ⟨fun H'=>K (ρ.put n dst undef) H'⟩ ⟨fun v H'=>Q (.panic [{ v,recovered:=false }]) ρ H'⟩⟩⟩⟩:=(rfl)
@[go_sem ↓] theorem opV_insert {t:TypeId} {x y z:Operand}:opV n P ⟨dst,.insert t x y z,ty,pos,after,g⟩ ρ H K Q = @withB (ρ.ev x) ⟨fun m=>@withB (ρ.ev y) ⟨fun k=>@withB (ρ.ev z) ⟨fun u=>@mapB P t m k u ⟨H⟩ ⟨fun H'=>K (ρ.put n dst undef) H'⟩ ⟨fun v H'=>Q (.panic [{ v,recovered:=false }]) ρ H'⟩⟩⟩⟩:=(rfl)
@[go_sem ↓] theorem opV_usd {t:TypeId} {x:Operand}:opV n P ⟨dst,.call ⟨.builtin .unsafeSliceData,#[x],#[t]⟩,ty,pos,after,g⟩ ρ H K Q = @usdB P t ty (ρ.ev x) ⟨H⟩ ⟨fun v H'=>K (ρ.put n dst v) H'⟩:=(rfl)
@[go_sem ↓] theorem opV_ust {t t':TypeId} {x y:Operand}:opV n P ⟨dst,.call ⟨.builtin .unsafeString,#[x,y],#[t,t']⟩,ty,pos,after,g⟩ ρ H K Q = @ustB P t t' ty (ρ.ev x) (ρ.ev y) ⟨H⟩ ⟨fun v H'=>K (ρ.put n dst v) H'⟩:=(rfl)
@[go_sem ↓] theorem opV_append {t t':TypeId} {x y:Operand}:opV n P ⟨dst,.call ⟨.builtin .append,#[x,y],#[t,t']⟩,ty,pos,after,g⟩ ρ H K Q = @withB (ρ.ev x) ⟨fun s=>@withB (ρ.ev y) ⟨fun x=>@appB P t t' s x ⟨H⟩ ⟨fun v H'=>K (ρ.put n dst v) H'⟩⟩⟩:=(rfl)
@[go_sem ↓] theorem opV_len {t:TypeId} {x:Operand}:opV n P ⟨dst,.call ⟨.builtin .len,#[x],#[t]⟩,ty,pos,after,g⟩ ρ H K Q = @someB _ (lenV P (full H) t (ρ.ev x)) ⟨fun v=>K (ρ.put n dst v) H⟩:=(rfl)
@[go_sem ↓] theorem opV_max {ts:Array TypeId} {x y:Operand}:opV n P ⟨dst,.call ⟨.builtin .max,#[x,y],ts⟩,ty,pos,after,g⟩ ρ H K Q = @someB _ (max2V (ρ.ev x) (ρ.ev y)) ⟨fun v=>K (ρ.put n dst v) H⟩:=(rfl)
@[go_sem ↓] theorem opV_min {ts:Array TypeId} {x y:Operand}:opV n P ⟨dst,.call ⟨.builtin .min,#[x,y],ts⟩,ty,pos,after,g⟩ ρ H K Q = @someB _ (min2V (ρ.ev x) (ρ.ev y)) ⟨fun v=>K (ρ.put n dst v) H⟩:=(rfl)
@[go_sem ↓] theorem opV_call {f:Operand} {l:List Operand} {ts:Array TypeId}:opV n P ⟨dst,.call ⟨.value f,l.toArray,ts⟩,ty,pos,after,g⟩ ρ H K Q = @callB P (ρ.ev f) (l.map ρ.ev) ⟨H⟩ ⟨fun v H'=>K (ρ.put n dst v) H'⟩ ⟨fun c H'=>Q (.panic c) ρ H'⟩:=(rfl)
@[go_sem] theorem callB_func {f:FuncId} {a b:List Value} {l:List Value} {R:Value→Heap→Prop} {E:List PanicEntry→Heap→Prop} :
  @callB P (.func (.func f) a.toArray b.toArray) l ⟨H⟩ ⟨R⟩ ⟨E⟩ = @CallB P f (a ++ l ++ b) ⟨H⟩ ⟨R⟩ ⟨E⟩:=(rfl)
end
section
variable {ρ:En}
@[go_sem] theorem ev_tmp {t:Nat}:ρ.ev (.tmp t)=ρ.get t:=(rfl)
@[go_sem] theorem ev_const {v:Value}:ρ.ev (.const v)=v:=(rfl)
@[go_sem] theorem ev_global {g:Nat}:ρ.ev (.global g)=.pointer (some ⟨g,0,none⟩):=(rfl)
@[go_sem] theorem ev_func {f:FuncId}:ρ.ev (.func f)=.func (.func f) #[] #[]:=(rfl)
def selB (b:Bool) (t:Nat) [v:Inhabited Value] [ρ:Inhabited En]:Value:=bif b then v.default else ρ.default.get t
@[go_sem] theorem selB_t {v:Value} {t:Nat}:@selB true t ⟨v⟩ ⟨ρ⟩=v:=(rfl)
@[go_sem] theorem selB_f {v:Value} {t:Nat}:@selB false t ⟨v⟩ ⟨ρ⟩=ρ.get t:=(rfl)
@[go_sem ↓] theorem get_put {n d t:Nat} {v:Value}:(En.put n ρ (some d) v).get t = @selB (t == d && decide (d < n)) t ⟨v⟩ ⟨ρ⟩:=by
 simp only [En.put,selB]
 by_cases h:t=d <;> by_cases h':d < n <;> simp [h,h']
 rw [beq_eq_false_iff_ne.2 h]; rfl
@[go_sem ↓] theorem put_none {n:Nat} {v:Value}:En.put n ρ none v=ρ:=(rfl)
@[go_sem] theorem ds_put {n:Nat} {d:Option Nat} {v:Value}:(En.put n ρ d v).ds=ρ.ds:=by cases d <;> rfl
@[go_sem] theorem args_zero {a:Value} {l:List Value}:(enArgs (a :: l).toArray).get 0=a:=(rfl)
@[go_sem] theorem args_succ {a:Value} {l:List Value} {t:Nat}:(enArgs (a :: l).toArray).get (t + 1)=(enArgs l.toArray).get t:=by
 simp [enArgs]
@[go_sem] theorem args_nil {t:Nat}:(enArgs #[]).get t=undef:=(rfl)
@[go_sem] theorem args_ds {a:Array Value}:(enArgs a).ds = []:=(rfl)
attribute [go_sem] cond_true cond_false Bool.true_and Bool.false_and Nat.reduceBEq Nat.reduceLT decide_true decide_false Bool.not_true Bool.not_false
@[go_sem] theorem lmap_cons {α β:Type} {f:α→β} {a:α} {l:List α}:(a :: l).map f=f a :: l.map f:=(rfl)
@[go_sem] theorem lmap_nil {α β:Type} {f:α→β}:([]:List α).map f = []:=(rfl)
@[go_sem] theorem lapp_nil {α:Type} {l:List α}:[] ++ l=l:=(rfl)
@[go_sem] theorem lapp_cons {α:Type} {a:α} {l l':List α}:(a :: l) ++ l'=a :: (l ++ l'):=(rfl)
attribute [go_sem] List.append_nil
end
section
variable {P:Program} {V:HV} {H:Heap} {t:TypeId} {xo yo:Operand} {k:IntKind} {x y:Int}
@[go_sem] theorem pickV_b {b:Bool} {u v:Value}:pickV (.bool b) u v=some (bif b then u else v):=(rfl)
@[go_sem] theorem nilV_p {a:Addr}:nilV (.pointer (some a))=some (.pointer (some a)):=(rfl)
@[go_sem] theorem unV_not {b:Bool}:unV .not (.bool b)=some (.bool (!b)):=(rfl)
@[go_sem] theorem unV_neg:unV .neg (.int k x)=some (.int k (k.wrap (-x))):=by simp [unV]
@[go_sem] theorem bin_add:binV P V .add t xo yo (.int k x) (.int k y)=some (.int k (k.wrap (x + y))):=by simp [binV,intBin]
@[go_sem] theorem bin_sub:binV P V .sub t xo yo (.int k x) (.int k y)=some (.int k (k.wrap (x - y))):=by simp [binV,intBin]
@[go_sem] theorem bin_mul:binV P V .mul t xo yo (.int k x) (.int k y)=some (.int k (k.wrap (x * y))):=by simp [binV,intBin]
@[go_sem] theorem bin_quo:binV P V .quo t xo yo (.int k x) (.int k y)=chk (y ≠ 0) (some (.int k (k.wrap (x.tdiv y)))):=by simp [binV,intBin,chk]
@[go_sem] theorem bin_rem:binV P V .rem t xo yo (.int k x) (.int k y)=chk (y ≠ 0) (some (.int k (x.tmod y))):=by simp [binV,intBin,chk]
@[go_sem] theorem bin_shl {k':IntKind}:binV P V .shl t xo yo (.int k x) (.int k' y)=chk (0≤y) (some (.int k (k.wrap (x * 2 ^ min y.toNat k.bits)))):=by
 by_cases h:y < 0 <;> simp [binV,intBin,chk,h] <;> omega
@[go_sem] theorem bin_shr {k':IntKind}:binV P V .shr t xo yo (.int k x) (.int k' y)=chk (0≤y) (some (.int k (x.fdiv (2 ^ min y.toNat k.bits)))):=by
 by_cases h:y < 0 <;> simp [binV,intBin,chk,h] <;> omega
@[go_sem] theorem bin_and:binV P V .and t xo yo (.int k x) (.int k y)=some (.int k (k.wrap (BitVec.ofInt k.bits x &&& BitVec.ofInt k.bits y).toNat)):=by simp [binV,intBin]
@[go_sem] theorem bin_xor:binV P V .xor t xo yo (.int k x) (.int k y)=some (.int k (k.wrap (BitVec.ofInt k.bits x ^^^ BitVec.ofInt k.bits y).toNat)):=by simp [binV,intBin]
@[go_sem] theorem bin_eql:binV P V .eql t xo yo (.int k x) (.int k y)=some (.bool (decide (x=y))):=by simp [binV,intBin,BEq.beq]
@[go_sem] theorem bin_neq:binV P V .neq t xo yo (.int k x) (.int k y)=some (.bool (decide (x ≠ y))):=by simp [binV,intBin,bne,BEq.beq]
@[go_sem] theorem bin_lss:binV P V .lss t xo yo (.int k x) (.int k y)=some (.bool (decide (x < y))):=by simp [binV,intBin]
@[go_sem] theorem bin_leq:binV P V .leq t xo yo (.int k x) (.int k y)=some (.bool (decide (x≤y))):=by simp [binV,intBin]
@[go_sem] theorem bin_gtr:binV P V .gtr t xo yo (.int k x) (.int k y)=some (.bool (decide (y < x))):=by simp [binV,intBin]
@[go_sem] theorem bin_geq:binV P V .geq t xo yo (.int k x) (.int k y)=some (.bool (decide (y≤x))):=by simp [binV,intBin]
@[go_sem] theorem chk_pos {α:Type} {p:Prop} [Decidable p] {o:Option α} (h:p):chk p o=o:=if_pos h
@[go_sem] theorem bif_pos {α:Type} {p:Prop} [Decidable p] {a b:α} (h:p):(bif decide p then a else b)=a:=by simp [h]
@[go_sem] theorem bif_neg {α:Type} {p:Prop} [Decidable p] {a b:α} (h:¬ p):(bif decide p then a else b)=b:=by simp [h]
theorem addr_add0 {a:Option Addr}:a.map (·.add 0)=a:=by cases a <;> rfl
@[go_sem] theorem sliceV_hi {a:Option Addr} {len c:Nat}:sliceV P t (.slice a len c) none (some (.int k x)) none=(elemS P t).bind fun _=>chk (0≤x∧x≤c) (some (.slice a x.toNat c)):=by
 unfold sliceV boundsV
 cases elemS P t with
 | none=>rfl
 | some z =>
  simp only [Option.bind_some,chk]
  split
  ·simp [addr_add0]
  ·rfl
@[go_sem] theorem sliceV_lo {a:Option Addr} {len c:Nat}:sliceV P t (.slice a len c) (some (.int k x)) none none=(elemS P t).bind fun z=>chk (0≤x∧x≤len) (some (.slice (if c=x.toNat then a else a.map (·.add (x.toNat * z))) (len - x.toNat) (c - x.toNat))):=by
 unfold sliceV boundsV
 cases elemS P t with
 | none=>rfl
 | some z =>
  simp only [Option.bind_some,chk]
  split <;> rfl
@[go_sem] theorem sliceV_lohi {k':IntKind} {a:Option Addr} {len c:Nat}:sliceV P t (.slice a len c) (some (.int k x)) (some (.int k' y)) none =
  (elemS P t).bind fun z=>chk (0≤y∧y≤c) (chk (0≤x∧x≤y.toNat) (some (.slice (if c=x.toNat then a else a.map (·.add (x.toNat * z))) (y.toNat - x.toNat) (c - x.toNat)))):=by
 unfold sliceV boundsV
 cases elemS P t with
 | none=>rfl
 | some z =>
  simp only [Option.bind_some,chk]
  split
  ·simp only [Option.bind_some]
   split <;> rfl
  ·rfl
@[go_sem] theorem chk_true {α:Type} {i:Decidable True} {o:Option α}:@chk α True i o=o:=if_pos trivial
@[go_sem] theorem not_dec {p:Prop} [Decidable p]:(!(decide p))=decide (¬ p):=by simp
@[go_sem] theorem wrap64 {n:Int} (h:-9223372036854775808≤n∧n≤9223372036854775807):IntKind.i64.wrap n=n:=IntWalk.i64_in n h
@[go_sem] theorem fieldAV_p {s:TypeId} {a:Addr} {f:Nat}:fieldAV P s (.pointer (some a)) f=(fieldO P s f).map fun o=>.pointer (some (a.add o)):=(rfl)
@[go_sem] theorem indexAV_s {a:Addr} {len c:Nat}:indexAV P t (.slice (some a) len c) (.int k x)=(elemS P t).bind fun z=>chk (0≤x∧x < len) (some (.pointer (some (a.add (x.toNat * z))))):=(rfl)
@[go_sem] theorem indexAV_a {a:Addr}:indexAV P t (.pointer (some a)) (.int k x)=(arrS P t).bind fun e=>chk (0≤x∧x < e.1) (some (.pointer (some (a.add (x.toNat * e.2))))):=(rfl)
@[go_sem] theorem loadQ_p {a:Addr}:loadQ P V t (.pointer (some a))=loadA P V t a:=(rfl)
@[go_sem] theorem lenV_s {a:Option Addr} {len c:Nat}:lenV P V t (.slice a len c)=(elemT P t).map fun _=>.int .i64 len:=(rfl)
@[go_sem] theorem extrV_t {l:List Value} {i:Nat}:extrV (.tuple l.toArray) i=l[i]?:=by simp [extrV]
@[go_sem] theorem max2V_i {k':IntKind}:max2V (.int k x) (.int k' y)=some (.int k (max x y)):=by
 simp only [max2V,Int.max_def]; congr 2; split <;> split <;> omega
@[go_sem] theorem min2V_i {k':IntKind}:min2V (.int k x) (.int k' y)=some (.int k (min x y)):=by
 simp only [min2V,Int.min_def]; congr 2; split <;> split <;> omega
@[go_sem] theorem loadA_one {a:Addr}:loadA P V t a=match aggN P t with
 | some none=>V.cells a
 | some (some n)=>(cellsH V.cells a 0 n).map fun l=>.agg l.toArray
 | none=>none:=(rfl)
@[go_sem] theorem full_cells {a:Addr}:(full H).cells a=cellH H a:=(rfl)
@[go_sem] theorem held_cells {a:Addr} {l:List (Addr × Value)}:(held l).cells a=lookA l a:=(rfl)
@[go_sem] theorem qrunV_full {α:Type} {e:Sem α}:qrunV P e (full H)=qrun P e H:=(rfl)
@[go_sem] theorem addr_add {b o n:Nat}:(⟨b,o,none⟩:Addr).add n=⟨b,o + n,none⟩:=by
 unfold Addr.add; split <;> simp_all
attribute [go_sem] Int.tdiv_eq_ediv_of_nonneg Int.tmod_eq_emod_of_nonneg Int.toNat_natCast
attribute [go_sem] Int.reduceAdd Int.reduceMul Int.reduceSub Int.reduceDiv Int.reduceMod Int.reduceNeg Int.reduceLT Int.reduceLE Int.reduceEq Int.reduceNe Int.reduceToNat Nat.reduceAdd Nat.reduceMul Nat.reduceSub Nat.reduceEqDiff reduceIte
@[go_sem] theorem omap_some {α β:Type} {f:α→β} {a:α}:(some a).map f=some (f a):=(rfl)
@[go_sem] theorem obind_some {α β:Type} {f:α→Option β} {a:α}:(some a).bind f=f a:=(rfl)
@[go_sem] theorem lget_zero {α:Type} {a:α} {l:List α}:(a :: l)[0]?=some a:=(rfl)
@[go_sem] theorem lget_succ {α:Type} {a:α} {l:List α} {i:Nat}:(a :: l)[i + 1]?=l[i]?:=(rfl)
attribute [go_sem] Nat.mul_one Nat.zero_add
@[go_sem] theorem nadd_zero {n:Nat}:n + 0=n:=(rfl)
end
section
variable {P:Program} {H:Heap} {t e:TypeId} {xo yo:Operand} {a:Addr}
theorem equal_ptr_nil (hu:P.underlying t=some (.pointer e)):qrun P (Op.equal t (.pointer (some a)) (.pointer none)) H=some false:=by
 unfold Op.equal Op.maxDepth Op.equalIn
 rw [qrun_bind',qrun_underlying hu,Option.bind_some]
 rfl
theorem equal_nil_nil (hu:P.underlying t=some (.pointer e)):qrun P (Op.equal t (.pointer none) (.pointer none)) H=some true:=by
 unfold Op.equal Op.maxDepth Op.equalIn
 rw [qrun_bind',qrun_underlying hu,Option.bind_some]
 rfl
@[go_sem] theorem beq_tt {b:Bool}:(true == b)=b:=by cases b <;> rfl
@[go_sem] theorem beq_ff {b:Bool}:(false == b) = !b:=by cases b <;> rfl
theorem decide_yes {p:Prop} [Decidable p] (h:p):decide p=true:=by simp [h]
theorem decide_no {p:Prop} [Decidable p] (h:¬ p):decide p=false:=by simp [h]
theorem bin_ptr_eql (hu:P.underlying t=some (.pointer e)):binV P (full H) .eql t xo yo (.pointer (some a)) (.pointer none)=some (.bool false):=by
 show qrun P (do eqGuard .eql t xo yo (.pointer (some a)) (.pointer none); binOp .eql t (.pointer (some a)) (.pointer none)) H=_
 rw [qrun_bind']
 show qrun P (do pure (Value.bool (← Op.equal t (.pointer (some a)) (.pointer none)))) H=_
 rw [qrun_bind',equal_ptr_nil hu]
 rfl
theorem bin_ptr_neq (hu:P.underlying t=some (.pointer e)):binV P (full H) .neq t xo yo (.pointer (some a)) (.pointer none)=some (.bool true):=by
 show qrun P (do eqGuard .neq t xo yo (.pointer (some a)) (.pointer none); binOp .neq t (.pointer (some a)) (.pointer none)) H=_
 rw [qrun_bind']
 show qrun P (do pure (Value.bool (!(← Op.equal t (.pointer (some a)) (.pointer none))))) H=_
 rw [qrun_bind',equal_ptr_nil hu]
 rfl
theorem bin_nil_eql (hu:P.underlying t=some (.pointer e)):binV P (full H) .eql t xo yo (.pointer none) (.pointer none)=some (.bool true):=by
 show qrun P (do eqGuard .eql t xo yo (.pointer none) (.pointer none); binOp .eql t (.pointer none) (.pointer none)) H=_
 rw [qrun_bind']
 show qrun P (do pure (Value.bool (← Op.equal t (.pointer none) (.pointer none)))) H=_
 rw [qrun_bind',equal_nil_nil hu]
 rfl
theorem bin_nil_neq (hu:P.underlying t=some (.pointer e)):binV P (full H) .neq t xo yo (.pointer none) (.pointer none)=some (.bool false):=by
 show qrun P (do eqGuard .neq t xo yo (.pointer none) (.pointer none); binOp .neq t (.pointer none) (.pointer none)) H=_
 rw [qrun_bind']
 show qrun P (do pure (Value.bool (!(← Op.equal t (.pointer none) (.pointer none))))) H=_
 rw [qrun_bind',equal_nil_nil hu]
 rfl
theorem bin_bool_eql {x y:Bool} (hu:P.underlying t=some .bool):binV P (full H) .eql t xo yo (.bool x) (.bool y)=some (.bool (x == y)):=by
 show qrun P (do eqGuard .eql t xo yo (.bool x) (.bool y); binOp .eql t (.bool x) (.bool y)) H=_
 rw [qrun_bind']
 show qrun P (do pure (Value.bool (← Op.equal t (.bool x) (.bool y)))) H=_
 have e:qrun P (Op.equal t (.bool x) (.bool y)) H=some (x == y):=by
  unfold Op.equal Op.maxDepth Op.equalIn
  rw [qrun_bind',qrun_underlying hu,Option.bind_some]
  rfl
 rw [qrun_bind',e]
 rfl
theorem bin_bool_neq {x y:Bool} (hu:P.underlying t=some .bool):binV P (full H) .neq t xo yo (.bool x) (.bool y)=some (.bool (!(x == y))):=by
 show qrun P (do eqGuard .neq t xo yo (.bool x) (.bool y); binOp .neq t (.bool x) (.bool y)) H=_
 rw [qrun_bind']
 show qrun P (do pure (Value.bool (!(← Op.equal t (.bool x) (.bool y))))) H=_
 have e:qrun P (Op.equal t (.bool x) (.bool y)) H=some (x == y):=by
  unfold Op.equal Op.maxDepth Op.equalIn
  rw [qrun_bind',qrun_underlying hu,Option.bind_some]
  rfl
 rw [qrun_bind',e]
 rfl
theorem conv_int {V:HV} {s d:TypeId} {k k':IntKind} {n:Int} {u:TypeDesc} (hs:P.underlying s=some u) (hd:P.underlying d=some (.int k')):convV P V s d (.int k n)=some (.int k' (k'.wrap n)):=by
 unfold convV; simp only [hs,hd]
end
def resL (P:Program) (ρ:En) (H:Heap):List ResultVar→(List Value→Prop)→Prop
 | [],k=>k []
 | .tmp t :: rs,k=>resL P ρ H rs fun vs=>k (ρ.get t :: vs)
 | .cell a t :: rs,k=>ptrW (ρ.get a) fun ad=>someW (loadA P (full H) t ad) fun v=>resL P ρ H rs fun vs=>k (v :: vs)
def tupV:List Value→Value
 | [v]=>v
 | vs=>.tuple vs.toArray
def retQ (P:Program) (rs:List ResultVar) (R:Value→Heap→Prop) (E:List PanicEntry→Heap→Prop):Exit→En→Heap→Prop
 | .normal,ρ,H | .ret,ρ,H=>ρ.ds = []∧resL P ρ H rs fun vs=>R (tupV vs) H
 | .panic c,ρ,H=>ρ.ds = []∧E c H
 | _,_,_=>False
theorem resL_sound {P:Program} {ρ:En} {H:Heap}:∀ (rs:List ResultVar) (k:List Value→Prop),resL P ρ H rs k→∃ vs,qrun P (rs.mapM (resF ρ)) H=some vs∧k vs:=by
 intro rs
 induction rs with
 | nil=>intro k h; exact ⟨[],rfl,h⟩
 | cons r rs ih =>
  intro k h
  rw [List.mapM_cons]
  cases r with
  | tmp t =>
   obtain ⟨vs,hv,hk⟩:=ih _ h
   refine ⟨ρ.get t :: vs,?_,hk⟩
   rw [qrun_bind']
   simp only [resF,pure,qrun,Option.bind_some]
   rw [qrun_bind',hv]
   rfl
  | cell a t =>
   unfold resL at h
   unfold ptrW at h
   split at h
   ·rename_i ad ha
    rw [someW_iff] at h
    obtain ⟨v,hv,hk⟩:=h
    obtain ⟨vs,hvs,hk⟩:=ih _ hk
    refine ⟨v :: vs,?_,hk⟩
    have e:qrun P (resF ρ (.cell a t)) H=some v:=by
     simp only [resF]
     rw [ha,qrun_bind']
     simp only [asAddr,pure,qrun,Option.bind_some]
     exact qrun_loadVar (full_of H) hv
    rw [qrun_bind',e,Option.bind_some,qrun_bind',hvs]
    rfl
   ·exact h.elim
theorem retQ_sound {P:Program} {fn:Func} {rs:List ResultVar} {R:Value→Heap→Prop} {E:List PanicEntry→Heap→Prop} (hr:fn.results=rs.toArray) :
  ∀ e ρ H,retQ P rs R E e ρ H→bodyQ P fn R E e ρ H:=by
 have key:∀ ρ H,(ρ.ds = []∧resL P ρ H rs fun vs=>R (tupV vs) H)→ρ.ds = []∧∃ v,qrun P (resE fn ρ) H=some v∧R v H:=by
  rintro ρ H ⟨hd,h⟩
  obtain ⟨vs,hv,hk⟩:=resL_sound rs _ h
  refine ⟨hd,_,?_,hk⟩
  unfold resE
  rw [hr]
  rw [List.mapM_toArray,qrun_bind',map_eq_pure_bind,qrun_bind',hv]
  simp only [Option.bind_some,pure,qrun]
  congr 1
  match vs with
  | []=>rfl
  | [v]=>rfl
  | v :: u :: l=>simp [tupV]
 intro e ρ H h
 cases e with
 | normal=>exact key ρ H h
 | ret=>exact key ρ H h
 | panic c=>exact h
 | _=>exact h.elim
section
variable {P:Program} {ρ:En} {H:Heap} {rs:List ResultVar} {R:Value→Heap→Prop} {E:List PanicEntry→Heap→Prop}
def dsB (ρ:En) [p:Inhabited Prop]:Prop:=ρ.ds = []∧p.default
@[go_sem ↓] theorem retQ_normal:retQ P rs R E .normal ρ H = @dsB ρ ⟨resL P ρ H rs fun vs=>@withB (tupV vs) ⟨fun v=>@stop ⟨R v H⟩⟩⟩:=(rfl)
@[go_sem ↓] theorem retQ_ret:retQ P rs R E .ret ρ H = @dsB ρ ⟨resL P ρ H rs fun vs=>@withB (tupV vs) ⟨fun v=>@stop ⟨R v H⟩⟩⟩:=(rfl)
@[go_sem ↓] theorem retQ_panic {c:List PanicEntry}:retQ P rs R E (.panic c) ρ H = @dsB ρ ⟨@stop ⟨E c H⟩⟩:=(rfl)
@[go_sem ↓] theorem resL_nil {k:List Value→Prop}:resL P ρ H [] k=k []:=(rfl)
@[go_sem ↓] theorem resL_tmp {t:Nat} {k:List Value→Prop}:resL P ρ H (.tmp t :: rs) k = @withB (ρ.get t) ⟨fun v=>resL P ρ H rs fun vs=>k (v :: vs)⟩:=(rfl)
@[go_sem ↓] theorem resL_cell {a t:Nat} {k:List Value→Prop}:resL P ρ H (.cell a t :: rs) k = @ptrB (ρ.get a) ⟨fun ad=>@someB _ (loadA P (full H) t ad) ⟨fun v=>resL P ρ H rs fun vs=>k (v :: vs)⟩⟩:=(rfl)
@[go_sem ↓] theorem dsB_put {n:Nat} {d:Option Nat} {v:Value} {p:Prop}:@dsB (En.put n ρ d v) ⟨p⟩ = @dsB ρ ⟨p⟩:=by cases d <;> rfl
@[go_sem ↓] theorem dsB_args {a:Array Value} {p:Prop}:@dsB (enArgs a) ⟨p⟩=p:=by simp [dsB,enArgs]
theorem dB {p:Prop} (h:ρ.ds = []):@dsB ρ ⟨p⟩=p:=by simp [dsB,h]
@[go_sem ↓] theorem tupV_one {v:Value}:tupV [v]=v:=(rfl)
@[go_sem ↓] theorem tupV_nil:tupV []=.tuple #[]:=(rfl)
@[go_sem ↓] theorem tupV_two {u v:Value} {l:List Value}:tupV (u :: v :: l)=.tuple (u :: v :: l).toArray:=(rfl)
attribute [go_sem] true_and
end
theorem call_to {P:Program} {f:FuncId} {args:List Value} {H:Heap} {R R':Value→Heap→Prop} {E:List PanicEntry→Heap→Prop}
  (h:CallF P f args H R NoP) (hr:∀ v H',R v H'→R' v H'):@CallB P f args ⟨H⟩ ⟨R'⟩ ⟨E⟩:=h.to hr
theorem loop_by {n:Nat} {P:Program} {c:Code} {Q:Exit→En→Heap→Prop} (I:Nat→En→Heap→Prop) {k:Nat} {ρ:En} {H:Heap} (h0:I k ρ H)
  (round:∀ k ρ H,I k ρ H→cw n P c (seqQ (fun ρ' H'=>@stop ⟨∃ k',k' < k∧I k' ρ' H'⟩) Q) ρ H):@stop ⟨CW n P (.loop c) Q ρ H⟩:=cw_loop I round h0
theorem callF_of {P:Program} {f:FuncId} {fn:Func} {c:Code} {args:List Value} {rs:List ResultVar} {n:Nat} {H:Heap} {R:Value→Heap→Prop} {E:List PanicEntry→Heap→Prop}
  (hf:P.funcs[f]?=some fn) (hb:fn.body=some c) (hn:fn.ntmps=n) (hr:fn.results=rs.toArray) (hm:(fn.name == "runtime.NumGoroutine")=false)
  (hs:decide (args.length≤n)=true)
  (h:cw n P c (retQ P rs R E) (enArgs args.toArray) H):CallF P f args H R E:=by
 unfold CallF callFunc
 rw [hwp_bind']
 show hwp P (match P.funcs[f]? with | none=>_ | some fn=>_) H _ _
 rw [hf]
 simp only [hm,Bool.false_eq_true,if_false,hb,Option.isNone_some]
 show HCalls P f args.toArray H R E
 subst hn
 refine hcalls_of hf hb (by simpa using hs) ?_
 exact CW.mono (retQ_sound hr) (cw_sound c _ _ _ h)
end Go.HL
