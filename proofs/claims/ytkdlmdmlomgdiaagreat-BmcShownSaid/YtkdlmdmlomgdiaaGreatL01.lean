/- Core of a program logic on heaps: environments as functions from slots, worlds by their heaps, and a verification condition for Go code; its soundness over the model's own rules. -/
import Derived.Calls
import Derived.LoopN
import Derived.Orders
import Derived.Laws.Sem
import Derived.KernelRfl
import Derived.IntWalk
set_option linter.unusedSimpArgs false
set_option linter.unusedVariables false
set_option maxRecDepth 10000
set_option maxHeartbeats 8000000
noncomputable section
abbrev J0 := @Option.bind_some
abbrev J1 := @List.getElem?_eq_getElem
abbrev J2 := @List.mem_of_getElem?
abbrev J3 := @List.getElem?_eq_some_iff
abbrev J4 := @if_neg
abbrev J5 := @Option.some.injEq
abbrev J6 := @List.mem_singleton
abbrev J7 := @List.mem_cons
abbrev J8 := @if_pos
abbrev J9 := @Nat.eq_of_beq_eq_true
abbrev Ja := @Nat.le_of_ble_eq_true
abbrev Jb := @Nat.le_refl
abbrev Jc := @List.getElem?_of_mem
abbrev Jd := @Bool.and_eq_true
abbrev Je := @List.append_assoc
abbrev Jf := @List.getElem?_append_right
abbrev Jg := @List.getElem?_append_left
abbrev Jh := @List.mem_append
abbrev Ji := @List.mem_map
abbrev Jj := @Option.some.inj
abbrev Jk := @decide_eq_true_eq
abbrev Jl := @List.take_add_one
abbrev Jm := @List.length_map
abbrev Jn := @Array.getD_eq_getD_getElem?
abbrev Jo := @List.all_eq_true
abbrev Jp := @List.getElem?_eq_none
abbrev Jq := @List.getD_eq_getElem?_getD
abbrev Jr := @List.take_length
abbrev Js := @Nat.le_trans
abbrev Jt := @Array.getElem?_setIfInBounds
abbrev Ju := @Option.map_some
abbrev Jv := @List.length_append
abbrev Jw := @List.getElem?_toArray
abbrev Jx := @Prod.mk.injEq
abbrev Jy := @Nat.mul_one
abbrev Jz := @List.map_cons
abbrev Z0 := @List.getElem?_map
abbrev Z1 := @List.getElem?_cons_zero
abbrev Z2 := @List.length_set
abbrev Z3 := @if_false
abbrev Z4 := @Int.toNat_natCast
abbrev Z5 := @Array.getElem?_eq_none
abbrev Z6 := @List.not_mem_nil
abbrev Z7 := @Bool.false_eq_true
abbrev Z8 := @Array.getElem?_eq_some_iff
abbrev Z9 := @Bool.or_eq_true
abbrev Za := @List.length_cons
abbrev Zb := @Option.bind_eq_some_iff
abbrev Zc := @Nat.add_zero
abbrev Zd := @Array.getElem?_eq_getElem
abbrev Ze := @List.length_take
abbrev Zf := @List.map_append
abbrev Zg := @Nat.lt_trichotomy
abbrev Zh := @List.cons.injEq
abbrev Zi := @decide_eq_false
abbrev Zj := @Option.map_eq_some_iff
abbrev Zk := @Array.ext'
abbrev Zl := @List.prefix_refl
abbrev Zm := @Bool.not_eq_true'
abbrev Zn := @List.take_append_drop
abbrev Zo := @List.length_singleton
abbrev Zp := @Array.size_push
abbrev Zq := @List.map_congr_left
abbrev Zr := @if_true
abbrev Zs := @Nat.add_assoc
abbrev Zt := @and_true
abbrev Zu := @Array.getElem?_modify
abbrev Zv := @Nat.zero_add
abbrev Zw := @Array.length_toList
abbrev Zx := @decide_eq_true
abbrev Zy := @decide_eq_false_iff_not
abbrev Zz := @List.pairwise_iff_getElem
abbrev Y0 := @List.getElem_mem
abbrev Y1 := @Array.getElem?_toList
abbrev Y2 := @Nat.add_sub_cancel_left
abbrev Y3 := @Nat.mul_le_mul_right
abbrev Y4 := @Nat.add_mul
abbrev Y5 := @List.set_cons_zero
abbrev Y6 := @List.getElem?_set_ne
abbrev Y7 := @List.getElem?_drop
abbrev Y8 := @List.nodup_append
abbrev Y9 := @List.ext_getElem?
abbrev Ya := @or_false
abbrev Yb := @List.getElem?_take_of_lt
abbrev Yc := @List.set_cons_succ
abbrev Yd := @List.mem_cons_of_mem
abbrev Ye := @List.ext_getElem
abbrev Yf := @Nat.sub_self
abbrev Yg := @List.take_of_length_le
abbrev Yh := @Array.getElem?_push_lt
abbrev Yi := @List.map_eq_nil_iff
abbrev Yj := @List.nodup_cons
abbrev Yk := @List.drop_eq_getElem_cons
abbrev Yl := @List.set_append_right
abbrev Ym := @List.map_replicate
abbrev Yn := @List.map_set
abbrev Yo := @Array.getElem?_replicate
abbrev Yp := @List.mem_of_mem_take
abbrev Yq := @List.Perm.refl
abbrev Yr := @Array.toArray_toList
abbrev Ys := @List.getElem?_cons_succ
abbrev Yt := @Array.getElem?_push
abbrev Yu := @Nat.lt_of_not_le
abbrev Yv := @Nat.testBit_or
abbrev Yw := @Nat.lt_of_lt_of_le
abbrev Yx := @List.prefix_append
abbrev Yy := @Array.getElem?_append_left
abbrev Yz := @Nat.ble_eq_true_of_le
abbrev X0 := @Array.getElem?_append
abbrev X1 := @List.nil_append
abbrev X2 := @Bool.not_true
abbrev X3 := @List.take_succ_cons
abbrev X4 := @Option.getD_some
abbrev X5 := @decide_true
abbrev X6 := @List.take_append_of_le_length
abbrev X7 := @List.eq_nil_of_length_eq_zero
abbrev X8 := @Option.isNone_some
abbrev X9 := @Nat.lt_or_ge
abbrev Xa := @List.getElem?_set_self
abbrev Xb := @List.countP_append
abbrev Xc := @List.length_nil
abbrev Xd := @List.append_nil
abbrev Xe := @List.size_toArray
abbrev Xf := @List.getElem?_set
abbrev Xg := @List.pairwise_append
abbrev Xh := @Classical.byContradiction
abbrev Xi := @List.mem_map_of_mem
abbrev Xj := @List.getElem?_take
abbrev Xk := @Array.foldl_toList
abbrev Xl := @List.getElem?_replicate
abbrev Xm := @List.countP_cons_of_pos
abbrev Xn := @of_decide_eq_true
abbrev Xo := @Nat.add_comm
abbrev Xp := @List.Pairwise.map
abbrev Xq := @List.length_replicate
abbrev Xr := @decide_eq_decide
abbrev Xs := @Nat.mod_eq_of_lt
abbrev Xt := @List.length_drop
abbrev Xu := @List.getElem_map
abbrev Xv := @List.countP_cons
abbrev Xw := @List.cons_append
abbrev Xx := @Array.eq_empty_of_size_eq_zero
abbrev Xy := @List.mem_filter
abbrev Xz := @List.forIn_cons
abbrev W0 := @List.foldl_cons
abbrev W1 := @List.countP_eq_zero
abbrev W2 := @Nat.mul_le_mul
abbrev W3 := @Nat.mul_eq
abbrev W4 := @Nat.add_sub_cancel
abbrev W5 := @List.take_zero
abbrev W6 := @List.pairwise_cons
abbrev W7 := @List.forIn_toArray
abbrev W8 := @Array.ext_getElem?
abbrev W9 := @List.flatMap_cons
abbrev Wa := @List.all_eq_false
abbrev Wb := @Int.lt_trichotomy
abbrev Wd := @Classical.not_not
abbrev We := @List.length_erase_of_mem
abbrev Wf := @Bool.true_and
abbrev Wg := @Bool.false_or
abbrev Wh := @List.zipIdx_cons
abbrev Wi := @List.countP_cons_of_neg
abbrev Wj := @Bool.not_eq_true
abbrev Wk := @Nat.add_eq
abbrev Wl := @and_congr_right
abbrev Wm := @List.all_append
abbrev Wn := @List.countP_le_length
abbrev Wo := @List.countP_eq_length
abbrev Wp := @List.Pairwise.and_mem
abbrev Wq := @Nat.zero_le
abbrev Wr := @List.mem_range
abbrev Wu := @List.mem_of_mem_drop
abbrev Wv := @List.getElem?_modify
abbrev Ww := @List.contains_eq_mem
abbrev Wx := @Nat.testBit_two_pow
abbrev Wy := @List.length_pos_iff
abbrev Wz := @Array.toList_zipIdx
abbrev V0 := @ByteArray.ext
abbrev V1 := @not_or
abbrev V2 := @List.mem_cons_self
abbrev V4 := @List.getElem_range
abbrev V5 := @not_true
abbrev V6 := @not_false_eq_true
abbrev V7 := @decide_false
abbrev V8 := @List.map_nil
abbrev V9 := @List.map_map
abbrev Va := @List.Pairwise.nil
abbrev Vb := @Option.bind_none
abbrev Vc := @Nat.le_of_not_lt
abbrev Vd := @List.mem_eraseIdx_iff_getElem?
abbrev Ve := @Int.natCast_zero
abbrev Vf := @Nat.mod_one
abbrev Vg := @List.drop_append_of_le_length
namespace Go.HL
abbrev A3:=Array Obj
def A5 (H:A3) (a:Addr):Option Value :=
 match H[a.block]? with
 | some (.cells c _ _)=>if a.spot.isSome then none else c[a.off]?
 | _=>none
def BI (H:A3) (a:Addr):Bool :=
 match H[a.block]? with
 | some (.cells _ _ (lo,hi))=>lo<=a.off && a.off < hi
 | _=>false
def Aw (H:A3) (a:Addr) (v:Value):A3 :=
 H.modify a.block fun
  | .cells c elem frozen=>.cells (if a.spot.isSome then c else c.setIfInBounds a.off v) elem frozen
  | o=>o
def R4 (H:A3) (r:Nat):Option (TypeId × Nat) :=
 match H[r]? with
 | some (.cells c elem _)=>some (elem,c.size)
 | _=>none
def Me (H:A3) (a:Addr) (n:Nat):A3 :=
 if n=0 then H else
 H.modify a.block fun
   | .cells c elem (lo,hi)=>.cells c elem (if lo == hi then (a.off,a.off + n) else (min lo a.off,max hi (a.off + n)))
   | o=>o
structure Rest (w w':World):Prop where
 os:w'.os=w.os
 tape:w'.tape=w.tape
 output:w'.output=w.output
theorem Rest.refl (w:World):Rest w w:=⟨rfl,rfl,rfl⟩
theorem Rest.trans {w w' w'':World} (h:Rest w w') (h':Rest w' w''):Rest w w'' :=
 ⟨h'.os.trans h.os,h'.tape.trans h.tape,h'.output.trans h.output⟩
def Cb:Value->Bool
 | .agg _ | .tuple _=>false
 | _=>true
def hwp {α:Type} (P:Program):Sem α->A3->(α->A3->Prop)->(Value->A3->Prop)->Prop
 | .pure a,H,Q,_=>Q a H
 | .load _ a k,H,Q,E=>match A5 H a with
  | some v=>hwp P (k v) H Q E
  | none=>False
 | .store _ a v k,H,Q,E=>Cb v=true/\(A5 H a).isSome=true/\BI H a=false/\hwp P k (Aw H a v) Q E
 | .new o k,H,Q,E=>hwp P (k H.size) (H.push o) Q E
 | .shape r k,H,Q,E=>hwp P (k (R4 H r)) H Q E
 | .freeze a n k,H,Q,E=>hwp P k (Me H a n) Q E
 | .frozen a k,H,Q,E=>hwp P (k (BI H a)) H Q E
 | .getObj r k,H,Q,E=>match H[r]? with
  | some (.cells ..)=>False
  | some o=>hwp P (k o) H Q E
  | none=>False
 | .setObj r o k,H,Q,E=>match H[r]? with
  | some (.cells ..)=>False
  | some _=>hwp P k (H.setIfInBounds r o) Q E
  | none=>False
 | .choose q k,H,Q,E=>if q.forced then hwp P (k 0) H Q E else ∀ n,hwp P (k (q.cut n)) H Q E
 | .sys _ _,_,_,_=>False
 | .program k,H,Q,E=>hwp P (k P) H Q E
 | .mark _ k,H,Q,E=>hwp P k H Q E
 | .halt h,H,_,E=>match h with
  | .panic v=>E v H
  | _=>False
def ResSat {α:Type} (w:World) (Q:α->A3->Prop) (E:Value->A3->Prop):Result α->Prop
 | .ok a w'=>Rest w w'/\Q a w'.heap
 | .halt (.panic v) w'=>Rest w w'/\E v w'.heap
 | _=>False
theorem ResSat.base {α:Type} {w w1:World} {Q:α->A3->Prop} {E:Value->A3->Prop} {r:Result α} (h:Rest w w1) (hr:ResSat w1 Q E r):ResSat w Q E r:=by
 cases r with
 | ok a w'=>exact ⟨h.trans hr.1,hr.2⟩
 | halt x w'=>cases x <;> first | exact ⟨h.trans hr.1,hr.2⟩ | exact hr.elim
theorem Qt {α:Type} (P:Program) (e:Sem α):∀ (w:World) (Q:α->A3->Prop) (E:Value->A3->Prop),
  hwp P e w.heap Q E->ResSat w Q E (e.run P w):=by
 induction e with
 | pure a=>intro w Q E h; exact ⟨Rest.refl _,h⟩
 | load m a k ih =>
  intro w Q E h;simp only [hwp] at h;have hc:w.cell? a=A5 w.heap a:=rfl;simp only [Sem.run,hc];cases hv:A5 w.heap a with
  | none=>rw [hv] at h; exact h.elim
  | some v=>rw [hv] at h; exact ih v w Q E h
 | store m a v k ih =>
  intro w Q E h;obtain ⟨h1,h2,h3,h4⟩:=h;have hc:w.cell? a=A5 w.heap a:=rfl;have hf:w.frozen? a=BI w.heap a:=rfl;obtain ⟨u,hu⟩:=Option.isSome_iff_exists.1 h2;have hrun:(Sem.store m a v k).run P w=k.run P (w.setCell a v):=by
   cases v <;> simp [Cb] at h1 <;> simp [Sem.run,hc,hu,hf,h3]
  rw [hrun];exact ResSat.base (w1:=w.setCell a v) ⟨rfl,rfl,rfl⟩ (ih (w.setCell a v) Q E h4)
 | new o k ih=>intro w Q E h; exact ResSat.base (w1:={ w with heap:=w.heap.push o }) ⟨rfl,rfl,rfl⟩ (ih _ { w with heap:=w.heap.push o } Q E h)
 | shape r k ih=>intro w Q E h; exact ih _ w Q E h
 | freeze a n k ih =>
  intro w Q E h;have e1:(w.freeze a n).heap=Me w.heap a n:=(by unfold World.freeze Me; split <;> rfl);have e2:Rest w (w.freeze a n):=(by unfold World.freeze; split <;> exact ⟨rfl,rfl,rfl⟩);exact ResSat.base e2 (ih (w.freeze a n) Q E (e1 ▸ h))
 | frozen a k ih=>intro w Q E h; exact ih _ w Q E h
 | getObj r k ih =>
  intro w Q E h;simp only [hwp] at h;simp only [Sem.run];cases hr:w.heap[r]? with
  | none=>simp [hr] at h
  | some o=>cases o <;> simp [hr] at h <;> exact ih _ w Q E h
 | setObj r o k ih =>
  intro w Q E h;simp only [hwp] at h;simp only [Sem.run];cases hr:w.heap[r]? with
  | none=>simp [hr] at h
  | some o'=>cases o' <;> simp [hr] at h <;> exact ResSat.base (w1:={ w with heap:=w.heap.setIfInBounds r o }) ⟨rfl,rfl,rfl⟩ (ih { w with heap:=w.heap.setIfInBounds r o } Q E h)
 | choose q k ih =>
  intro w Q E h;simp only [hwp] at h;simp only [Sem.run];cases hq:q.forced with
  | true=>simp only [hq,Zr] at h ⊢; exact ih 0 w Q E h
  | false =>
   simp only [hq] at h ⊢;exact ResSat.base (w1:={ w with drawn:=w.drawn + 1 }) ⟨rfl,rfl,rfl⟩ (ih _ { w with drawn:=w.drawn + 1 } Q E (h _))
 | sys c k ih=>intro w Q E h; exact h.elim
 | program k ih=>intro w Q E h; exact ih P w Q E h
 | mark m k ih=>intro w Q E h; exact ih w Q E h
 | halt x =>
  intro w Q E h;cases x <;> first | exact ⟨Rest.refl _,h⟩ | exact h.elim
theorem B4 {α:Type} (P:Program) (e:Sem α):∀ (H:A3) (Q Q':α->A3->Prop) (E E':Value->A3->Prop),
  (∀ a H,Q a H->Q' a H)->(∀ v H,E v H->E' v H)->hwp P e H Q E->hwp P e H Q' E':=by
 induction e with
 | pure a=>intro H Q Q' E E' hq he h; exact hq _ _ h
 | load m a k ih =>
  intro H Q Q' E E' hq he h;simp only [hwp] at h ⊢;split <;> rename_i hv <;> rw [hv] at h
  ·exact ih _ _ _ _ _ _ hq he h
  ·exact h
 | store m a v k ih=>intro H Q Q' E E' hq he h; exact ⟨h.1,h.2.1,h.2.2.1,ih _ _ _ _ _ hq he h.2.2.2⟩
 | new o k ih=>intro H Q Q' E E' hq he h; exact ih _ _ _ _ _ _ hq he h
 | shape r k ih=>intro H Q Q' E E' hq he h; exact ih _ _ _ _ _ _ hq he h
 | freeze a n k ih=>intro H Q Q' E E' hq he h; exact ih _ _ _ _ _ hq he h
 | frozen a k ih=>intro H Q Q' E E' hq he h; exact ih _ _ _ _ _ _ hq he h
 | getObj r k ih =>
  intro H Q Q' E E' hq he h;simp only [hwp] at h ⊢;cases hr:H[r]? with
  | none=>simp [hr] at h
  | some o=>cases o <;> simp [hr] at h <;> exact ih _ _ _ _ _ _ hq he h
 | setObj r o k ih =>
  intro H Q Q' E E' hq he h;simp only [hwp] at h ⊢;cases hr:H[r]? with
  | none=>simp [hr] at h
  | some o'=>cases o' <;> simp [hr] at h <;> exact ih _ _ _ _ _ hq he h
 | choose q k ih =>
  intro H Q Q' E E' hq he h;simp only [hwp] at h ⊢;split <;> rename_i hf
  ·rw [J8 hf] at h; exact ih _ _ _ _ _ _ hq he h
  ·rw [J4 hf] at h; exact fun n=>ih _ _ _ _ _ _ hq he (h n)
 | sys c k ih=>intro H Q Q' E E' hq he h; exact h
 | program k ih=>intro H Q Q' E E' hq he h; exact ih _ _ _ _ _ _ hq he h
 | mark m k ih=>intro H Q Q' E E' hq he h; exact ih _ _ _ _ _ hq he h
 | halt x=>intro H Q Q' E E' hq he h; cases x <;> first | exact he _ _ h | exact h
def Ac {α:Type} (P:Program):Sem α->A3->Option α
 | .pure a,_=>some a
 | .load _ a k,H=>match A5 H a with
  | some v=>Ac P (k v) H
  | none=>none
 | .shape r k,H=>Ac P (k (R4 H r)) H
 | .frozen a k,H=>Ac P (k (BI H a)) H
 | .getObj r k,H=>match H[r]? with
  | some (.cells ..)=>none
  | some o=>Ac P (k o) H
  | none=>none
 | .program k,H=>Ac P (k P) H
 | .mark _ k,H=>Ac P k H
 | _,_=>none
theorem Bo {α:Type} (P:Program) (e:Sem α):∀ (w:World) (a:α),Ac P e w.heap=some a->e.run P w=.ok a w:=by
 induction e with
 | pure a=>intro w b h; simp only [Ac,J5] at h; subst h; rfl
 | load m a k ih =>
  intro w b h;simp only [Ac] at h;have hc:w.cell? a=A5 w.heap a:=rfl;simp only [Sem.run,hc];cases hv:A5 w.heap a with
  | none=>simp [hv] at h
  | some v=>rw [hv] at h; exact ih v w b h
 | shape r k ih=>intro w b h; exact ih _ w b h
 | frozen a k ih=>intro w b h; exact ih _ w b h
 | getObj r k ih =>
  intro w b h;simp only [Ac] at h;simp only [Sem.run];cases hr:w.heap[r]? with
  | none=>simp [hr] at h
  | some o=>cases o <;> simp [hr] at h <;> exact ih _ w b h
 | program k ih=>intro w b h; exact ih P w b h
 | mark m k ih=>intro w b h; exact ih w b h
 | _=>intro w b h; simp [Ac] at h
theorem Df {α:Type} (P:Program) (e:Sem α):∀ (H:A3) (a:α) (Q:α->A3->Prop) (E:Value->A3->Prop),
  Ac P e H=some a->Q a H->hwp P e H Q E:=by
 induction e with
 | pure a=>intro H b Q E h hq; simp only [Ac,J5] at h; subst h; exact hq
 | load m a k ih =>
  intro H b Q E h hq;simp only [Ac] at h;simp only [hwp];cases hv:A5 H a with
  | none=>simp [hv] at h
  | some v=>rw [hv] at h; exact ih v H b Q E h hq
 | shape r k ih=>intro H b Q E h hq; exact ih _ H b Q E h hq
 | frozen a k ih=>intro H b Q E h hq; exact ih _ H b Q E h hq
 | getObj r k ih =>
  intro H b Q E h hq;simp only [Ac] at h;simp only [hwp];cases hr:H[r]? with
  | none=>simp [hr] at h
  | some o=>cases o <;> simp [hr] at h <;> exact ih _ H b Q E h hq
 | program k ih=>intro H b Q E h hq; exact ih P H b Q E h hq
 | mark m k ih=>intro H b Q E h hq; exact ih H b Q E h hq
 | _=>intro H b Q E h hq; simp [Ac] at h
theorem S3 {α β:Type} (P:Program) (e:Sem α) (f:α->Sem β):∀ (H:A3) (Q:β->A3->Prop) (E:Value->A3->Prop),
  hwp P (e.bind f) H Q E=hwp P e H (fun a H'=>hwp P (f a) H' Q E) E:=by
 induction e with
 | pure a=>intro H Q E; rfl
 | load m a k ih=>intro H Q E; simp only [Sem.bind,hwp]; cases A5 H a <;> simp [ih]
 | store m a v k ih=>intro H Q E; simp only [Sem.bind,hwp,ih]
 | new o k ih=>intro H Q E; simp only [Sem.bind,hwp,ih]
 | shape r k ih=>intro H Q E; simp only [Sem.bind,hwp,ih]
 | freeze a n k ih=>intro H Q E; simp only [Sem.bind,hwp,ih]
 | frozen a k ih=>intro H Q E; simp only [Sem.bind,hwp,ih]
 | getObj r k ih =>
  intro H Q E;simp only [Sem.bind,hwp];cases H[r]? with
  | none=>rfl
  | some o=>cases o <;> simp [ih]
 | setObj r o k ih =>
  intro H Q E;simp only [Sem.bind,hwp];cases H[r]? with
  | none=>rfl
  | some o'=>cases o' <;> simp [ih]
 | choose q k ih=>intro H Q E; simp only [Sem.bind,hwp,ih]
 | sys c k ih=>intro H Q E; rfl
 | program k ih=>intro H Q E; simp only [Sem.bind,hwp,ih]
 | mark m k ih=>intro H Q E; simp only [Sem.bind,hwp,ih]
 | halt x=>intro H Q E; rfl
theorem Az {α β:Type} (P:Program) (e:Sem α) (f:α->Sem β) (H:A3) (Q:β->A3->Prop) (E:Value->A3->Prop) :
  hwp P (e >>= f) H Q E=hwp P e H (fun a H'=>hwp P (f a) H' Q E) E:=S3 P e f H Q E
theorem j2k {α:Type} (P:Program) (a:α) (H:A3) (Q:α->A3->Prop) (E:Value->A3->Prop):hwp P (Pure.pure a) H Q E=Q a H:=rfl
theorem Q7 {α β:Type} (P:Program) (e:Sem α) (f:α->Sem β):∀ (H:A3),Ac P (e.bind f) H=(Ac P e H).bind fun a=>Ac P (f a) H:=by
 induction e with
 | pure a=>intro H; rfl
 | load m a k ih=>intro H; simp only [Sem.bind,Ac]; cases A5 H a <;> simp [ih]
 | shape r k ih=>intro H; simp only [Sem.bind,Ac,ih]
 | frozen a k ih=>intro H; simp only [Sem.bind,Ac,ih]
 | getObj r k ih =>
  intro H;simp only [Sem.bind,Ac];cases H[r]? with
  | none=>rfl
  | some o=>cases o <;> simp [ih]
 | program k ih=>intro H; simp only [Sem.bind,Ac,ih]
 | mark m k ih=>intro H; simp only [Sem.bind,Ac,ih]
 | _=>intro H; rfl
theorem A4 {α β:Type} (P:Program) (e:Sem α) (f:α->Sem β) (H:A3):Ac P (e >>= f) H=(Ac P e H).bind fun a=>Ac P (f a) H:=Q7 P e f H
structure En where
 get:Nat->Value
 ds:List Deferred
def En.ev (U:En):Operand->Value
 | .tmp t=>U.get t
 | .const v=>v
 | .global g=>.pointer (some ⟨g,0,none⟩)
 | .func f=>.func (.func f) #[] #[]
def En.put (n:Nat) (U:En) (dst:Option Nat) (v:Value):En :=
 match dst with
 | some d=>{ U with get:=fun t=>if t=d/\d < n then v else U.get t }
 | none=>U
def Ag (n:Nat) (a:Act) (U:En):Prop:=a.tmps.size=n/\(∀ t,a.tmps.getD t undef=U.get t)/\a.defers=U.ds
theorem Ag.ev {n:Nat} {a:Act} {U:En} (h:Ag n a U):a.eval=U.ev:=by
 funext x;cases x with
 | tmp t=>exact h.2.1 t
 | _=>rfl
theorem Ag.put {n:Nat} {a:Act} {U:En} (h:Ag n a U) (dst:Option Nat) (v:Value):Ag n (a.put dst v) (U.put n dst v):=by
 cases dst with
 | none=>exact h
 | some d =>
  refine ⟨by simp [Act.put,h.1],fun t=>?_,h.2.2⟩;simp only [Act.put,En.put];have hs:=h.1;have ht:=h.2.1 t;rw [Jn] at ht ⊢;rw [Jt];by_cases e:d=t
  ·subst e;by_cases hd:d < n
   ·simp [hs,hd]
   ·simp only [hs,hd,Zr,Z3,and_false];rw [<- ht]; rw [Z5 (by omega)]
  ·have e':¬ t=d:=fun x=>e x.symm;simp [e,e',ht]
def HCalls (P:Program) (f:FuncId) (args:Array Value) (H:A3) (R:Value->A3->Prop) (E:List PanicEntry->A3->Prop):Prop :=
 ∀ w:World,w.heap=H->Calls P f args w fun e w'=>Rest w w'/\match e with
  | .returned v=>R v w'.heap
  | .panicked c=>E c w'.heap
  | .outgrown=>False
theorem HCalls.mono {P:Program} {f:FuncId} {args:Array Value} {H:A3} {R R':Value->A3->Prop} {E E':List PanicEntry->A3->Prop}
  (h:HCalls P f args H R E) (hr:∀ v H',R v H'->R' v H') (he:∀ c H',E c H'->E' c H'):HCalls P f args H R' E' :=
 fun w hw=>(h w hw).mono fun e w' ⟨hrest,hx⟩=>⟨hrest,by cases e <;> first | exact hr _ _ hx | exact he _ _ hx | exact hx⟩
def WO (n:Nat) (P:Program) (dst:Option Nat) (U:En) (K:En->A3->Prop) (Q:Exit->En->A3->Prop):Next->A3->Prop
 | .value v,H=>K (U.put n dst v) H
 | .skip,H=>K (U.put n dst undef) H
 | .defer d,H=>K (En.put n { U with ds:=d :: U.ds } dst undef) H
 | .enter f args,H=>HCalls P f args H (fun v H'=>K (U.put n dst v) H') (fun c H'=>Q (.panic c) U H')
 | _,_=>False
def Cn (n:Nat) (P:Program) (o:Oper) (U:En) (H:A3) (K:En->A3->Prop) (Q:Exit->En->A3->Prop):Prop :=
 hwp P (execOp U.ev o) H (WO n P o.dst U K Q) (fun v H'=>Q (.panic [{ v,recovered:=false }]) U H')
def up (n:Nat) (w0:World) (K:En->A3->Prop) (a:Act) (w:World):Prop:=Rest w0 w/\∃ U,Ag n a U/\K U w.heap
def upQ (n:Nat) (w0:World) (Q:Exit->En->A3->Prop) (e:Exit) (a:Act) (w:World):Prop:=Rest w0 w/\∃ U,Ag n a U/\Q e U w.heap
theorem El {n:Nat} {P:Program} {o:Oper} {U:En} {K:En->A3->Prop} {Q:Exit->En->A3->Prop} {w0 w:World} {a:Act}
  (h0:Rest w0 w) (ha:Ag n a U) (h:Cn n P o U w.heap K Q):o.wp P a w (up n w0 K) (upQ n w0 Q):=by
 unfold Oper.wp
 rw [ha.ev]
 have hs:=Qt P _ w _ _ h
 generalize (execOp U.ev o).run P w=r at hs
 cases r with
 | ok x w' =>
  obtain ⟨hr,hn⟩:=hs;have h1:=h0.trans hr;cases x with
  | value v=>exact ⟨h1,_,ha.put _ _,hn⟩
  | skip=>exact ⟨h1,_,ha.put _ _,hn⟩
  | defer d =>
   refine ⟨h1,_,Ag.put (a:={ a with defers:=d :: a.defers }) (U:={ U with ds:=d :: U.ds }) ⟨ha.1,ha.2.1,?_⟩ _ _,hn⟩;show d :: a.defers=d :: U.ds;rw [ha.2.2]
  | enter f args =>
   refine (hn w' rfl).mono fun e w'' ⟨hr',hx⟩=>?_;have h2:=h1.trans hr';cases e with
   | returned v=>exact ⟨h2,_,ha.put _ _,hx⟩
   | panicked c=>exact ⟨h2,_,ha,hx⟩
   | outgrown=>exact hx.elim
  | _=>exact hn.elim
 | halt x w' =>
  cases x with
  | panic v=>exact ⟨h0.trans hs.1,_,ha,hs.2⟩
  | _=>exact hs.elim
def Au (P:Program) (t:TypeId):Option Nat:=(P.info? t).map (·.size)
def Bq (P:Program) (t:TypeId):Option Nat:=(P.info? t).map (·.bytes)
def AD (P:Program) (t:TypeId):Option Value:=(P.info? t).bind (·.zero)
def CX (P:Program) (t:TypeId):Option (Option Nat) :=
 match P.underlying t with
 | some (.struct _) | some (.array _ _)=>(Au P t).map some
 | some _=>some none
 | none=>none
def DQ (P:Program) (s:TypeId) (f:Nat):Option (Nat × TypeId) :=
 match P.underlying s with
 | some (.struct fields)=>(fields[f]?).map fun x=>(x.offset,x.type)
 | _=>none
def AN (P:Program) (t:TypeId):Option TypeId :=
 match P.underlying t with
 | some (.slice e)=>some e
 | _=>none
def Mu (P:Program) (t:TypeId):Option (Nat × TypeId) :=
 match P.underlying t with
 | some (.array n e)=>some (n,e)
 | _=>none
def AC (P:Program) (s:TypeId) (f:Nat):Option Nat :=
 (DQ P s f).bind fun x=>(Au P x.2).bind fun z=>if z=0 then none else some x.1
def BP (P:Program) (t:TypeId):Option Nat:=(AN P t).bind (Au P)
def Iw (P:Program) (t:TypeId):Option (Nat × Nat):=(Mu P t).bind fun e=>(Au P e.2).map fun z=>(e.1,z)
def chk {α:Type} (p:Prop) [Decidable p] (x:Option α):Option α:=if p then x else none
theorem Dh {α:Type} {p:Prop} [Decidable p] {x:Option α} {a:α} (h:chk p x=some a):p/\x=some a:=by
 unfold chk at h; split at h
 ·rename_i hp; exact ⟨hp,h⟩
 ·simp at h
theorem B3 {P:Program} {t:TypeId} {i:TypeInfo} (h:P.info? t=some i) (H:A3):Ac P (typeInfo t) H=some i:=by
 unfold typeInfo; rw [A4]; simp only [program,Ac,J0,h]; rfl
theorem A6 {P:Program} {t:TypeId} {d:TypeDesc} (h:P.underlying t=some d) (H:A3):Ac P (underlying t) H=some d:=by
 unfold underlying; rw [A4]; simp only [program,Ac,J0,h]; rfl
theorem AL {P:Program} {t:TypeId} {n:Nat} (h:Au P t=some n) (H:A3):Ac P (sizeOf t) H=some n:=by
 unfold Au at h;cases hi:P.info? t with
 | none=>simp [hi] at h
 | some i =>
  simp only [hi,Ju,J5] at h;unfold sizeOf; rw [A4,B3 hi]; subst h; rfl
theorem AF {P:Program} {t:TypeId} {v:Value} (h:AD P t=some v) (H:A3):Ac P (zeroValue t) H=some v:=by
 unfold AD at h;cases hi:P.info? t with
 | none=>simp [hi] at h
 | some i =>
  simp only [hi,J0] at h;unfold zeroValue; rw [A4,B3 hi,J0,h]; rfl
theorem JJ {P:Program} {t:TypeId} {d:TypeDesc} (h:P.underlying t=some d) (H:A3) :
  Ac P (isAgg t) H=some (match d with | .struct _ | .array _ _=>true | _=>false):=by
 unfold isAgg; rw [A4,A6 h,J0]; cases d <;> rfl
structure HV where
 cells:Addr->Option Value
 heap:Option A3
def AI (H:A3):HV:={ cells:=A5 H,heap:=some H }
def Ak:List (Addr × Value)->Addr->Option Value
 | [],_=>none
 | x :: l,a=>if x.1=a then some x.2 else Ak l a
def held (l:List (Addr × Value)):HV:={ cells:=Ak l,heap:=none }
def HV.of (V:HV) (H:A3):Prop:=(∀ a v,V.cells a=some v->A5 H a=some v)/\∀ H',V.heap=some H'->H'=H
theorem Fv (H:A3):(AI H).of H:=⟨fun _ _ h=>h,fun H' h=>by simpa [AI] using h.symm⟩
def EG {α:Type} (P:Program) (e:Sem α) (V:HV):Option α:=V.heap.bind fun H=>Ac P e H
theorem E0 {α:Type} {P:Program} {e:Sem α} {V:HV} {H:A3} {a:α} (hv:V.of H) (h:EG P e V=some a):Ac P e H=some a:=by
 unfold EG at h;cases hh:V.heap with
 | none=>simp [hh] at h
 | some H'=>rw [hh] at h; have:=hv.2 H' hh; subst this; exact h
def Ay (c:Addr->Option Value) (a:Addr) (i:Nat):Nat->Option (List Value)
 | 0=>some []
 | n + 1=>(c (a.add i)).bind fun v=>(Ay c a (i + 1) n).map (v :: ·)
theorem Eb {c c':Addr->Option Value} (h:∀ a v,c a=some v->c' a=some v) {a:Addr}:∀ (n i:Nat) (l:List Value),Ay c a i n=some l->Ay c' a i n=some l:=by
 intro n;induction n with
 | zero=>intro i l hl; exact hl
 | succ n ih =>
  intro i l hl;simp only [Ay] at hl ⊢;cases hc:c (a.add i) with
  | none=>simp [hc] at hl
  | some v =>
   cases hr:Ay c a (i + 1) n with
   | none=>simp [hc,hr] at hl
   | some l'=>rw [h _ _ hc,ih _ _ hr]; simpa [hc,hr] using hl
theorem KX {P:Program} {H:A3} {a:Addr} {v:Value} (h:A5 H a=some v):Ac P (load a) H=some v:=by
 simp only [load,Ac,h]
theorem Cw {P:Program} {H:A3} {a:Addr}:∀ (n i:Nat) (acc:Array Value) (l:List Value),Ay (A5 H) a i n=some l ->
  Ac P (loadCellsFrom a i n acc) H=some (acc ++ l.toArray):=by
 intro n
 induction n with
 | zero=>intro i acc l h; simp only [Ay,J5] at h; subst h; simp [loadCellsFrom,pure,Ac]
 | succ n ih =>
  intro i acc l h;simp only [Ay] at h;cases hc:A5 H (a.add i) with
  | none=>simp [hc] at h
  | some v =>
   cases hl:Ay (A5 H) a (i + 1) n with
   | none=>simp [hc,hl] at h
   | some l' =>
    simp only [hc,hl,J0,Ju,J5] at h;subst h;rw [loadCellsFrom,A4,KX hc,J0,ih (i + 1) _ l' hl];simp
def loadA (P:Program) (V:HV) (t:TypeId) (a:Addr):Option Value :=
 match CX P t with
 | some none=>V.cells a
 | some (some n)=>(Ay V.cells a 0 n).map fun l=>.agg l.toArray
 | none=>none
def FQ (P:Program) (V:HV) (t:TypeId) (v:Value):Option Value :=
 match v with
 | .pointer (some a)=>loadA P V t a
 | _=>none
theorem RT {P:Program} {V:HV} {H:A3} {t:TypeId} {a:Addr} {r:Value} (hv:V.of H) (h:loadA P V t a=some r):loadA P (AI H) t a=some r:=by
 unfold loadA at h ⊢;split at h
 ·exact hv.1 _ _ h
 ·rename_i n _;cases hc:Ay V.cells a 0 n with
  | none=>simp [hc] at h
  | some l=>rw [show Ay (AI H).cells a 0 n=some l from Eb hv.1 n 0 l hc]; simpa [hc] using h
 ·simp at h
theorem GG {P:Program} {V:HV} {H:A3} {t:TypeId} {a:Addr} {r:Value} (hv:V.of H) (h0:loadA P V t a=some r):Ac P (loadVar t a) H=some r:=by
 have h:=RT hv h0;clear h0 hv;unfold loadA CX at h;unfold loadVar;cases hu:P.underlying t with
 | none=>simp [hu] at h
 | some d =>
  rw [A4,JJ hu,J0];simp only [hu] at h;have agg:∀ n,Au P t=some n->(Ay (A5 H) a 0 n).map (fun l=>Value.agg l.toArray)=some r ->
    Ac P (do pure (.agg (<- loadCells a (<- sizeOf t)))) H=some r:=by
   intro n hn hm
   rw [A4,AL hn,J0,A4]
   cases hc:Ay (A5 H) a 0 n with
   | none=>simp [hc] at hm
   | some l =>
    simp only [hc,Ju,J5] at hm;subst hm;unfold loadCells;rw [Cw n 0 #[] l hc];simp [pure,Ac]
  cases d with
  | struct fs =>
   simp only at h;cases hs:Au P t with
   | none=>simp [hs] at h
   | some n=>simp only [hs,Ju] at h; exact agg n hs h
  | array k e =>
   simp only at h;cases hs:Au P t with
   | none=>simp [hs] at h
   | some n=>simp only [hs,Ju] at h; exact agg n hs h
  | _=>exact KX h
theorem N1 {P:Program} {V:HV} {H:A3} {t:TypeId} {v r:Value} (hv:V.of H) (h:FQ P V t v=some r):Ac P (Instr.loadAt t v) H=some r:=by
 unfold FQ at h;cases v with
 | pointer a =>
  cases a with
  | none=>simp at h
  | some a=>exact (A4 P _ _ H).trans (GG hv h)
 | _=>simp at h
def Ar (H:A3) (a:Addr):List Value->Nat->Option A3
 | [],_=>some H
 | v :: rest,i=>if Cb v=true/\(A5 H (a.add i)).isSome=true/\BI H (a.add i)=false then Ar (Aw H (a.add i) v) a rest (i + 1) else none
def B1 (P:Program) (H:A3) (t:TypeId) (a:Addr) (v:Value):Option A3 :=
 match Au P t with
 | some s=>if v.cells.size=s then Ar H a v.cells.toList 0 else none
 | none=>none
theorem BN {P:Program} {a:Addr} {Q:Unit->A3->Prop} {E:Value->A3->Prop}:∀ (vs:List Value) (i:Nat) (H H':A3),Ar H a vs i=some H'->Q () H' ->
  hwp P (storeCells a vs i) H Q E:=by
 intro vs
 induction vs with
 | nil=>intro i H H' h hq; simp only [Ar,J5] at h; subst h; exact hq
 | cons v rest ih =>
  intro i H H' h hq;simp only [Ar] at h;split at h
  ·rename_i hc;rw [storeCells,Az];exact ⟨hc.1,hc.2.1,hc.2.2,ih (i + 1) _ H' h hq⟩
  ·simp at h
theorem Aa {α β:Type} {P:Program} {e:Sem α} {f:α->Sem β} {H:A3} {a:α} {Q:β->A3->Prop} {E:Value->A3->Prop}
  (h:Ac P e H=some a) (hf:hwp P (f a) H Q E):hwp P (e >>= f) H Q E:=by
 rw [Az]; exact Df P e H a _ _ h hf
theorem Ns {P:Program} {H H':A3} {t:TypeId} {a:Addr} {v:Value} {Q:Unit->A3->Prop} {E:Value->A3->Prop}
  (h:B1 P H t a v=some H') (hq:Q () H'):hwp P (Instr.storeAt t (.pointer (some a)) v) H Q E:=by
 unfold B1 at h
 cases hs:Au P t with
 | none=>simp [hs] at h
 | some s =>
  simp only [hs] at h;split at h
  ·rename_i hc;unfold Instr.storeAt;refine Aa (a:=a) rfl ?_;unfold storeVar;refine Aa (AL hs H) ?_;rw [J4 (by simp [hc])];exact BN _ 0 H H' h hq
  ·simp at h
def AX (op:BinOp) (k:IntKind) (x:Int) (k':IntKind) (y:Int):Option Value :=
 match op with
 | .shl=>if y < 0 then none else some (.int k (k.wrap (x * 2 ^ min y.toNat k.bits)))
 | .shr=>if y < 0 then none else some (.int k (x.fdiv (2 ^ min y.toNat k.bits)))
 | _=>if k ≠ k' then none else
  match op with
  | .add=>some (.int k (k.wrap (x + y)))
  | .sub=>some (.int k (k.wrap (x - y)))
  | .mul=>some (.int k (k.wrap (x * y)))
  | .quo=>if y=0 then none else some (.int k (k.wrap (x.tdiv y)))
  | .rem=>if y=0 then none else some (.int k (x.tmod y))
  | .and=>some (.int k (k.wrap (BitVec.ofInt k.bits x &&& BitVec.ofInt k.bits y).toNat))
  | .or=>some (.int k (k.wrap (BitVec.ofInt k.bits x ||| BitVec.ofInt k.bits y).toNat))
  | .xor=>some (.int k (k.wrap (BitVec.ofInt k.bits x ^^^ BitVec.ofInt k.bits y).toNat))
  | .andNot=>some (.int k (k.wrap (BitVec.ofInt k.bits x &&& ~~~BitVec.ofInt k.bits y).toNat))
  | .eql=>some (.bool (x == y))
  | .neq=>some (.bool (x != y))
  | .lss=>some (.bool (x < y))
  | .leq=>some (.bool (x<=y))
  | .gtr=>some (.bool (x > y))
  | .geq=>some (.bool (x ≥ y))
  | _=>none
def Ly (op:BinOp) (x y:ByteArray):Option Value :=
 match op with
 | .add=>if ((x.size + y.size:Nat):Int) > IntKind.i64.max then none else some (.string (x ++ y))
 | .eql=>some (.bool (x.toList == y.toList))
 | .neq=>some (.bool (!(x.toList == y.toList)))
 | _=>none
def B0 (P:Program) (V:HV) (op:BinOp) (t:TypeId) (xo yo:Operand) (a b:Value):Option Value :=
 match a,b with
 | .int k x,.int k' y=>AX op k x k' y
 | .string x,.string y=>Ly op x y
 | a,b=>EG P (do eqGuard op t xo yo a b; binOp op t a b) V
theorem Rc {P:Program} {V:HV} {H:A3} {op:BinOp} {t:TypeId} {xo yo:Operand} {a b r:Value} (hv:V.of H) (h:B0 P V op t xo yo a b=some r) :
  Ac P (do eqGuard op t xo yo a b; binOp op t a b) H=some r:=by
 unfold B0 at h
 split at h
 ·rename_i k x k' y
  rw [A4]
  have e:Ac P (eqGuard op t xo yo (.int k x) (.int k' y)) H=some ():=by unfold eqGuard; split <;> rfl
  rw [e,J0]
  cases op <;> simp only [AX] at h <;> simp only [binOp,Op.shift,Op.intArith,Op.intDiv,Op.intBits,Op.intCmp] <;>
   (repeat' split at h) <;> simp_all [pure,Ac] <;> (rw [J4 (by omega)]; rfl)
 ·rename_i x y
  rw [A4]
  have e:Ac P (eqGuard op t xo yo (.string x) (.string y)) H=some ():=by unfold eqGuard; split <;> rfl
  rw [e,J0]
  cases op <;> simp only [Ly] at h <;> simp only [binOp,Op.stringOp] <;>
   (repeat' split at h) <;> simp_all [pure,Ac] <;> (rw [J4 (by omega)]; rfl)
 ·exact E0 hv h
def N3 (c a b:Value):Option Value :=
 match c with
 | .bool t=>some (bif t then a else b)
 | _=>none
def Qe (v:Value):Option Value :=
 match v with
 | .pointer (some a)=>some (.pointer (some a))
 | .func (.func f) x y=>some (.func (.func f) x y)
 | _=>none
def unV (op:UnOp) (v:Value):Option Value :=
 match op,v with
 | .neg,.int k n=>some (.int k (k.wrap (0 - n)))
 | .not,.bool b=>some (.bool (!b))
 | _,_=>none
def CS (P:Program) (V:HV) (s d:TypeId) (v:Value):Option Value :=
 match v,P.underlying s,P.underlying d with
 | .int _ n,some _,some (.int k)=>some (.int k (k.wrap n))
 | _,_,_=>EG P (convert s d v) V
def Fw (P:Program) (s:TypeId) (v:Value) (f:Nat):Option Value :=
 match v with
 | .pointer (some a)=>(AC P s f).map fun o=>.pointer (some (a.add o))
 | _=>none
def GK (P:Program) (t:TypeId) (cs:Array Value) (off:Nat):Option Value :=
 match CX P t with
 | some none=>cs[off]?
 | some (some n)=>some (.agg (cs.extract off (off + n)))
 | none=>none
def Gk (P:Program) (t:TypeId) (v:Value) (f:Nat):Option Value :=
 match v with
 | .agg cs=>(DQ P t f).bind fun x=>GK P x.2 cs x.1
 | _=>none
def D7 (P:Program) (t:TypeId) (v i:Value):Option Value :=
 match v,i with
 | .slice (some a) len _,.int _ n=>(BP P t).bind fun z=>chk (0<=n/\n < len) (some (.pointer (some (a.add (n.toNat * z)))))
 | .pointer (some a),.int _ n=>(Iw P t).bind fun e=>chk (0<=n/\n < e.1) (some (.pointer (some (a.add (n.toNat * e.2)))))
 | _,_=>none
def Es (P:Program) (t:TypeId) (v i:Value):Option Value :=
 match v,i with
 | .string s,.int _ n=>match P.underlying t with
  | some .string=>chk (0<=n/\n < s.size) (some (.int .u8 (s.data.toList.getD n.toNat 0).toNat))
  | _=>none
 | .agg cs,.int _ n=>(Mu P t).bind fun e=>(Au P e.2).bind fun z=>chk (0<=n/\n < e.1) (GK P e.2 cs (n.toNat * z))
 | _,_=>none
def K9 (v:Value) (i:Nat):Option Value :=
 match v with
 | .tuple vs=>vs[i]?
 | _=>none
def F3 (P:Program) (V:HV) (t:TypeId) (v:Value):Option Value :=
 match v with
 | .slice _ n _=>(AN P t).map fun _=>.int .i64 n
 | .string s=>match P.underlying t with
  | some .string=>some (.int .i64 s.size)
  | _=>none
 | v=>EG P (Builtin.len_ #[t] 0 #[v]) V
def Mb (P:Program) (t:TypeId) (v:Value):Option Value :=
 match P.underlying t with
 | some (.interface _)=>none
 | some _=>some (.iface t v)
 | none=>none
def FO (a b:Value):Option Value :=
 match a,b with
 | .int k x,.int _ y=>some (.int k (if y > x then y else x))
 | _,_=>none
def JY (a b:Value):Option Value :=
 match a,b with
 | .int k x,.int _ y=>some (.int k (if y < x then y else x))
 | _,_=>none
def CK (U:Operand->Value):Option Operand->Option Value
 | none=>none
 | some x=>some (U x)
def Cv (len cap:Nat) (lo hi mx:Option Value):Option (Nat × Nat × Nat) :=
 match mx with
 | some _=>none
 | none =>
  (match hi with
   | some (.int _ h)=>chk (0<=h/\h<=cap) (some h.toNat)
   | none=>some len
   | _=>none).bind fun h =>
  (match lo with
   | some (.int _ l)=>chk (0<=l/\l<=h) (some l.toNat)
   | none=>some 0
   | _=>none).map fun l=>(l,h,cap)
def Be (P:Program) (t:TypeId) (v:Value) (lo hi mx:Option Value):Option Value :=
 match v with
 | .slice a len cap=>(BP P t).bind fun z=>(Cv len cap lo hi mx).map fun b=>.slice (if b.2.2=b.1 then a else a.map (·.add (b.1 * z))) (b.2.1 - b.1) (b.2.2 - b.1)
 | .string s=>match P.underlying t with
  | some .string=>(Cv s.size s.size lo hi mx).map fun b=>.string (s.extract b.1 b.2.1)
  | _=>none
 | .pointer (some a)=>(Iw P t).bind fun e=>(Cv e.1 e.1 lo hi mx).map fun b=>.slice (some (if b.2.2=b.1 then a else a.add (b.1 * e.2))) (b.2.1 - b.1) (b.2.2 - b.1)
 | _=>none
theorem EX {P:Program} {H:A3} {isSlice:Bool} {len cap:Nat} {lo hi mx:Option Value} {b:Nat × Nat × Nat} (h:Cv len cap lo hi mx=some b) :
  Ac P (Instr.sliceBounds isSlice len cap lo hi mx) H=some b:=by
 unfold Cv at h
 cases mx with
 | some _=>simp at h
 | none =>
  simp only [Zb,Zj] at h;obtain ⟨h',hh,l,hl,rfl⟩:=h;have bound:∀ (v:Value) (y:Nat) (code:BoundsCode) (k:IntKind) (n:Int),v=.int k n->0<=n->n<=y->Ac P (Instr.sliceBound v y code) H=some n.toNat:=by
   intro v y code k n hv h0 h1;subst hv;unfold Instr.sliceBound;rw [A4];simp only [asIntOf,pure,Ac,J0];rw [J8 ⟨h0,h1⟩];rfl
  have hi':hi=none/\h'=len\/∃ k n,hi=some (.int k n)/\(0<=n/\n<=cap)/\h'=n.toNat:=by
   cases hi with
   | none=>simp only [J5] at hh; exact .inl ⟨rfl,hh.symm⟩
   | some v =>
    cases v <;> simp only at hh <;> try (simp at hh; done)
    rename_i k n;obtain ⟨hc,hr⟩:=Dh hh;simp only [J5] at hr;exact .inr ⟨k,n,rfl,hc,hr.symm⟩
  have lo':lo=none/\l=0\/∃ k n,lo=some (.int k n)/\(0<=n/\n<=h')/\l=n.toNat:=by
   cases lo with
   | none=>simp only [J5] at hl; exact .inl ⟨rfl,hl.symm⟩
   | some v =>
    cases v <;> simp only at hl <;> try (simp at hl; done)
    rename_i k n;obtain ⟨hc,hr⟩:=Dh hl;simp only [J5] at hr;exact .inr ⟨k,n,rfl,hc,hr.symm⟩
  clear hh hl;rcases hi' with ⟨rfl,rfl⟩ | ⟨k,n,rfl,hc,rfl⟩ <;> rcases lo' with ⟨rfl,rfl⟩ | ⟨k',n',rfl,hc',rfl⟩
  ·rfl
  ·show Ac P (do let l <- Instr.sliceBound (.int k' n') h' .sliceB; Sem.pure (l,h',cap)) H=_;rw [A4,bound _ _ _ k' n' rfl hc'.1 hc'.2]; rfl
  ·show Ac P (do let h <- Instr.sliceBound (.int k n) cap (if isSlice then .sliceAcap else .sliceAlen); Sem.pure (0,h,cap)) H=_;rw [A4,bound _ _ _ k n rfl hc.1 hc.2]; rfl
  ·show Ac P (do let h <- Instr.sliceBound (.int k n) cap (if isSlice then .sliceAcap else .sliceAlen); let l <- Instr.sliceBound (.int k' n') h .sliceB; Sem.pure (l,h,cap)) H=_;rw [A4,bound _ _ _ k n rfl hc.1 hc.2,J0,A4,bound _ _ _ k' n' rfl hc'.1 hc'.2]; rfl
theorem OJ {P:Program} {t:TypeId} {z:Nat} (h:BP P t=some z):∃ e,P.underlying t=some (.slice e)/\Au P e=some z:=by
 unfold BP AN at h;cases hu:P.underlying t with
 | none=>simp [hu] at h
 | some d=>cases d <;> simp only [hu] at h <;> first | exact ⟨_,rfl,h⟩ | simp at h
theorem Lo {P:Program} {t:TypeId} {e:Nat × Nat} (h:Iw P t=some e):∃ u,P.underlying t=some (.array e.1 u)/\Au P u=some e.2:=by
 unfold Iw Mu at h;cases hu:P.underlying t with
 | none=>simp [hu] at h
 | some d =>
  cases d <;> simp only [hu] at h <;> try (simp at h; done)
  rename_i n u;simp only [J0] at h;cases hs:Au P u with
  | none=>simp [hs] at h
  | some z=>simp only [hs,Ju,J5] at h; subst h; exact ⟨u,rfl,hs⟩
theorem Oj {P:Program} {H:A3} {t:TypeId} {v:Value} {lo hi mx:Option Value} {r:Value} (h:Be P t v lo hi mx=some r):Ac P (Instr.sliceAt t v lo hi mx) H=some r:=by
 unfold Be at h;split at h
 ·rename_i a len cap;simp only [Zb,Zj] at h;obtain ⟨z,hz,b,hb,rfl⟩:=h;obtain ⟨e,hu,hs⟩:=OJ hz;unfold Instr.sliceAt;rw [A4,A6 hu,J0];simp only;unfold Instr.slice;rw [A4,A6 hu,J0];simp only;rw [A4,EX hb,J0,A4,AL hs];rfl
 ·rename_i s;split at h
  ·rename_i hu;simp only [Zj] at h;obtain ⟨b,hb,rfl⟩:=h;unfold Instr.sliceAt;rw [A4,A6 hu,J0];simp only;unfold Instr.slice;rw [A4,A6 hu,J0];have hm:mx=none:=by
    unfold Cv at hb;cases mx with
    | none=>rfl
    | some _=>simp at hb
   subst hm;simp only [Option.isSome_none,Z7,Z3];rw [A4,EX hb];rfl
  ·simp at h
 ·rename_i a;simp only [Zb,Zj] at h;obtain ⟨e,he,b,hb,rfl⟩:=h;obtain ⟨u,hu,hs⟩:=Lo he;unfold Instr.sliceAt;rw [A4,A6 hu,J0];simp only;rw [A4];simp only [Instr.sureAddr,pure,Ac,J0];rw [A4,EX hb,J0,A4,AL hs];rfl
 ·simp at h
def Ch (P:Program) (t:TypeId):Option (List (Nat × Nat)) :=
 match P.underlying t with
 | some (.struct fields)=>fields.toList.mapM fun f=>(Au P f.type).map fun z=>(f.offset,z)
 | _=>none
def D4 (P:Program) (t:TypeId) (parts:List (Nat × Value)):Option Value :=
 match Ch P t with
 | some ps=>(AD P t).bind fun z=>(Instr.fill (ps[·]?) z.cells parts).map .agg
 | none=>(Iw P t).bind fun e=>(AD P t).bind fun z=>(Instr.fill (fun i=>some (i * e.2,e.2)) z.cells parts).map .agg
theorem N0 {P:Program} {H:A3} (fields:List Field) (ps:List (Nat × Nat)) (h:(fields.mapM fun f=>(Au P f.type).map fun z=>(f.offset,z))=some ps) :
  Ac P (fields.mapM fun f=>do pure (f.offset,<- sizeOf f.type)) H=some ps:=by
 induction fields generalizing ps with
 | nil=>simp at h; subst h; rfl
 | cons f l ih =>
  rw [List.mapM_cons] at h ⊢;simp only [Option.bind_eq_bind,Zb,Zj,Option.pure_def,J5] at h;obtain ⟨x,⟨z,hz,rfl⟩,ps',hps,rfl⟩:=h;rw [A4];have e:Ac P (do pure (f.offset,<- sizeOf f.type)) H=some (f.offset,z):=(by rw [A4,AL hz]; rfl);rw [e,J0,A4,ih ps' hps];rfl
theorem Ol {P:Program} {H:A3} {t:TypeId} {parts:List (Nat × Value)} {r:Value} (h:D4 P t parts=some r):Ac P (Instr.build t parts.toArray) H=some r:=by
 unfold D4 at h;split at h
 ·rename_i ps hps;simp only [Zb,Zj] at h;obtain ⟨z,hz,cs,hf,rfl⟩:=h;unfold Ch at hps;split at hps
  ·rename_i fields hu;unfold Instr.build;rw [A4,AF hz,J0];simp only;rw [A4,A6 hu,J0];simp only;rw [A4];have e:fields=fields.toList.toArray:=(by simp);rw [e,List.mapM_toArray,map_eq_pure_bind,A4,N0 _ ps hps];simp only [J0,pure,Ac,Jw];simp only [hf];rfl
  ·simp at hps
 ·simp only [Zb,Zj] at h;obtain ⟨e,he,z,hz,cs,hf,rfl⟩:=h;obtain ⟨u,hu,hs⟩:=Lo he;unfold Instr.build;rw [A4,AF hz,J0];simp only;rw [A4,A6 hu,J0];simp only;rw [A4,AL hs,J0];simp only [hf];rfl
def Ed (P:Program) (V:HV) (b:Builtin) (ts:List TypeId) (vs:List Value):Option Value :=
 match b with
 | .len=>match ts,vs with
  | [t],[v]=>F3 P V t v
  | _,_=>none
 | .max=>match vs with
  | [x,y]=>FO x y
  | _=>none
 | .min=>match vs with
  | [x,y]=>JY x y
  | _=>none
 | .cap=>match vs with
  | [v]=>EG P (Builtin.cap_ ts.toArray 0 #[v]) V
  | _=>none
 | _=>none
def FZ (P:Program) (V:HV) (c:Callee) (ts:List TypeId) (vs:List Value):Option Value :=
 match c with
 | .builtin b=>Ed P V b ts vs
 | _=>none
theorem LO {P:Program} {V:HV} {H:A3} {b:Builtin} {ts:List TypeId} {vs:List Value} {ty:TypeId} {cs:Array Bool} {r:Value} (hv:V.of H) (h:Ed P V b ts vs=some r) :
  Ac P (builtin b ts.toArray ty cs vs.toArray) H=some (.value r):=by
 unfold Ed at h
 split at h
 ·split at h
  ·rename_i t v
   show Ac P (do pure (Next.value (<- Builtin.len_ #[t] ty #[v]))) H=some (.value r)
   rw [A4]
   suffices hh:Ac P (Builtin.len_ #[t] ty #[v]) H=some r by rw [hh]; rfl
   unfold F3 at h
   split at h
   ·rename_i a n c
    unfold AN at h
    cases hu:P.underlying t with
    | none=>simp [hu] at h
    | some d =>
     cases d <;> simp only [hu] at h <;> try (simp at h)
     subst h;unfold Builtin.len_;simp only [Jw,Z1];rw [A4,A6 hu,J0];rfl
   ·split at h
    ·rename_i hu
     simp only [J5] at h
     subst h
     unfold Builtin.len_
     simp only [Jw,Z1]
     rw [A4,A6 hu,J0]
     rfl
    ·simp at h
   ·exact E0 hv h
  ·simp at h
 ·split at h
  ·rename_i x y
   unfold FO at h
   split at h
   ·simp only [J5] at h; subst h; rfl
   ·simp at h
  ·simp at h
 ·split at h
  ·rename_i x y
   unfold JY at h
   split at h
   ·simp only [J5] at h; subst h; rfl
   ·simp at h
  ·simp at h
 ·split at h
  ·rename_i v
   show Ac P (do pure (Next.value (<- Builtin.cap_ ts.toArray ty #[v]))) H=some (.value r)
   rw [A4]
   suffices hh:Ac P (Builtin.cap_ ts.toArray ty #[v]) H=some r by rw [hh]; rfl
   exact E0 hv h
  ·simp at h
 ·simp at h
def opQ (P:Program) (V:HV) (U:Operand->Value):Op->Option Value
 | .move x | .assign x=>some (U x)
 | .pick c a b=>N3 (U c) (U a) (U b)
 | .load t a=>FQ P V t (U a)
 | .nilCheck x=>Qe (U x)
 | .binOp op t x y _=>B0 P V op t x y (U x) (U y)
 | .unOp op _ x=>unV op (U x)
 | .convert s d x=>CS P V s d (U x)
 | .makeInterface t x=>Mb P t (U x)
 | .makeFunc fn first captured=>some (.func fn (first.toList.map U).toArray (captured.toList.map U).toArray)
 | .slice t x lo hi mx=>Be P t (U x) (CK U lo) (CK U hi) (CK U mx)
 | .fieldAddr s x f=>Fw P s (U x) f
 | .field t x f=>Gk P t (U x) f
 | .indexAddr t x i=>D7 P t (U x) (U i)
 | .index t x i=>Es P t (U x) (U i)
 | .lookup t m k ok=>EG P (Instr.lookup t (U m) (U k) ok) V
 | .typeAssert x xt t ok=>EG P (Instr.typeAssert (U x) xt t ok) V
 | .extract t i=>K9 (U t) i
 | .build t parts=>D4 P t (parts.toList.map fun p=>(p.1,U p.2))
 | .call c=>FZ P V c.callee c.argTypes.toList (c.args.toList.map U)
 | _=>none
theorem Fq {P:Program} {H:A3} {t:TypeId} {cs:Array Value} {off:Nat} {r:Value} (h:GK P t cs off=some r):Ac P (part t cs off) H=some r:=by
 unfold GK CX at h;unfold part;cases hu:P.underlying t with
 | none=>simp [hu] at h
 | some d =>
  rw [A4,JJ hu,J0];simp only [hu] at h;have agg:∀ n,Au P t=some n->some (Value.agg (cs.extract off (off + n)))=some r->Ac P (do pure (.agg (cs.extract off (off + (<- sizeOf t))))) H=some r:=by
   intro n hn hm;rw [A4,AL hn,J0];exact hm
  have one:cs[off]?=some r->Ac P (match cs[off]? with | some v=>pure v | none=>stuck "part: no such cell") H=some r:=by
   intro hm; rw [hm]; rfl
  cases d with
  | struct fs =>
   simp only at h;cases hs:Au P t with
   | none=>simp [hs] at h
   | some n=>simp only [hs,Ju] at h; exact agg n hs h
  | array k e =>
   simp only at h;cases hs:Au P t with
   | none=>simp [hs] at h
   | some n=>simp only [hs,Ju] at h; exact agg n hs h
  | _=>exact one h
theorem Ht (U:Operand->Value) (o:Option Operand):CK U o=o.map U:=by cases o <;> rfl
theorem CI {P:Program} {H:A3} {s:Sem Value} {r:Value} (h:Ac P s H=some r):Ac P (do pure (Next.value (<- s))) H=some (.value r):=by
 rw [A4,h]; rfl
theorem Hv {P:Program} {V:HV} {H:A3} {U:Operand->Value} {o:Oper} {r:Value} (hv:V.of H) (h:opQ P V U o.op=some r):Ac P (execOp U o) H=some (.value r):=by
 obtain ⟨dst,op,type,pos,after,guard⟩:=o;simp only at h;unfold opQ at h;split at h
 ·simp only [J5] at h; subst h; rfl
 ·simp only [J5] at h; subst h; rfl
 ·rename_i c a b;unfold N3 at h;split at h
  ·rename_i t ht;simp only [J5] at h;subst h;simp only [execOp,ht];cases t <;> rfl
  ·simp at h
 ·exact CI (N1 hv h)
 ·rename_i x;unfold Qe at h;split at h
  ·rename_i a ha; simp only [J5] at h; subst h; simp only [execOp,ha]; rfl
  ·rename_i f y z ha; simp only [J5] at h; subst h; simp only [execOp,ha]; rfl
  ·simp at h
 ·exact CI (Rc hv h)
 ·rename_i op t x;unfold unV at h;split at h
  ·rename_i k n hx; simp only [J5] at h; subst h; simp only [execOp,hx]; rfl
  ·rename_i b hx; simp only [J5] at h; subst h; simp only [execOp,hx]; rfl
  ·simp at h
 ·rename_i s d x;refine CI ?_;unfold CS at h;split at h
  ·rename_i k n k' hx hs hd;simp only [J5] at h;subst h;unfold convert;rw [A4,A6 hs,J0,A4,A6 hd,J0,hx];rfl
  ·exact E0 hv h
 ·rename_i t x;unfold Mb at h;cases hu:P.underlying t with
  | none=>simp [hu] at h
  | some d =>
   refine CI ?_;unfold Instr.makeInterface;rw [A4,A6 hu,J0];rw [hu] at h;cases d <;> simp at h <;> subst h <;> rfl
 ·simp only [J5] at h; subst h; simp [execOp,Instr.makeFunc,Ac,pure,bind,Sem.bind]; exact ⟨by apply Zk; simp,by apply Zk; simp⟩
 ·rw [Ht,Ht,Ht] at h; exact CI (Oj h)
 ·rename_i s x f;unfold Fw at h;split at h
  ·rename_i a ha;refine CI ?_;unfold AC at h;cases hf:DQ P s f with
   | none=>simp [hf] at h
   | some xt =>
    simp only [hf,J0] at h;cases hz:Au P xt.2 with
    | none=>simp [hz] at h
    | some z =>
     simp only [hz,J0] at h;split at h
     ·simp at h
     ·rename_i hz0;simp only [Ju,J5] at h;subst h;unfold DQ at hf;cases hu:P.underlying s with
      | none=>simp [hu] at hf
      | some d =>
       cases d <;> simp only [hu] at hf <;> try (simp at hf)
       rename_i fields;obtain ⟨fd,hfd,rfl⟩:=hf;unfold Instr.fieldAt;rw [A4,A6 hu,J0];simp only [hfd];rw [A4,ha];simp only [Instr.sureAddr,pure,Ac,J0];rw [A4];unfold fieldPlace;rw [A4,AL hz,J0,J4 hz0];rfl
  ·simp at h
 ·rename_i t x f;unfold Gk at h;split at h
  ·rename_i cs hx;refine CI ?_;cases hf:DQ P t f with
   | none=>simp [hf] at h
   | some xt =>
    simp only [hf,J0] at h;unfold DQ at hf;cases hu:P.underlying t with
    | none=>simp [hu] at hf
    | some d =>
     cases d <;> simp only [hu] at hf <;> try (simp at hf)
     rename_i fields;obtain ⟨fd,hfd,rfl⟩:=hf;unfold Instr.field;rw [A4,A6 hu,J0];simp only [hfd,hx];rw [A4];simp only [asAgg,pure,Ac,J0];exact Fq h
  ·simp at h
 ·rename_i t x i;unfold D7 at h;split at h
  ·rename_i a len cap k n hx hi;refine CI ?_;unfold BP AN at h;cases hu:P.underlying t with
   | none=>simp [hu] at h
   | some d =>
    cases d <;> simp only [hu] at h <;> try (simp only [Vb,reduceCtorEq] at h)
    rename_i e;simp only [J0] at h;cases hz:Au P e with
    | none=>simp [hz] at h
    | some z =>
     simp only [hz,J0] at h;obtain ⟨hb,h⟩:=Dh h
     ·simp only [J5] at h;subst h;unfold Instr.indexAt;rw [hx,hi];simp only [asIntOf,pure];rw [A4];simp only [Ac,J0];rw [A4,A6 hu,J0];simp only;rw [A4];simp only [Ac,J0];rw [A4,A6 hu,J0];rw [J8 hb,A4,AL hz];rfl
  ·rename_i a k n hx hi;refine CI ?_;unfold Iw Mu at h;cases hu:P.underlying t with
   | none=>simp [hu] at h
   | some d =>
    cases d <;> simp only [hu] at h <;> try (simp only [Vb,reduceCtorEq] at h)
    rename_i len e;simp only [J0] at h;cases hz:Au P e with
    | none=>simp [hz] at h
    | some z =>
     simp only [hz,J0,Ju] at h;obtain ⟨hb,h⟩:=Dh h
     ·simp only [J5] at h;subst h;unfold Instr.indexAt;rw [hx,hi];simp only [asIntOf,pure];rw [A4];simp only [Ac,J0];rw [A4,A6 hu,J0];simp only [Instr.sureAddr,pure];rw [A4];simp only [Ac,J0];rw [A4];simp only [Ac,J0];rw [A4,A6 hu,J0];rw [J8 hb,A4,AL hz];rfl
  ·simp at h
 ·rename_i t x i;unfold Es at h;split at h
  ·rename_i s k n hx hi;refine CI ?_;split at h
   ·rename_i hu;obtain ⟨hb,h⟩:=Dh h;simp only [J5] at h;subst h;unfold Instr.index;rw [hx,hi];simp only [asIntOf,pure];rw [A4];simp only [Ac,J0];rw [A4,A6 hu,J0];have hlt:n.toNat < s.size:=(by omega);have hs:s[n.toNat]?=some (s.data.toList.getD n.toNat 0):=by
     have hl:n.toNat < s.data.toList.length:=(by simpa using hlt);have e1:s[n.toNat]?=some s[n.toNat]:=getElem?_pos s n.toNat hlt;rw [e1,Jq,J1 hl];rfl
    simp only [hb.1,Zr,hs];rfl
   ·simp at h
  ·rename_i cs k n hx hi;refine CI ?_;unfold Mu at h;cases hu:P.underlying t with
   | none=>simp [hu] at h
   | some d =>
    cases d <;> simp only [hu] at h <;> try (simp only [Vb,reduceCtorEq] at h)
    rename_i len e;simp only [J0] at h;cases hz:Au P e with
    | none=>simp [hz] at h
    | some z =>
     simp only [hz,J0] at h;obtain ⟨hb,h⟩:=Dh h
     ·unfold Instr.index;rw [hx,hi];simp only [asIntOf,pure];rw [A4];simp only [Ac,J0];rw [A4,A6 hu,J0];simp only;rw [J8 hb,A4,AL hz,J0];exact Fq h
  ·simp at h
 ·exact CI (E0 hv h)
 ·exact CI (E0 hv h)
 ·rename_i t i;unfold K9 at h;split at h
  ·rename_i vs hv;simp only [execOp,hv,Instr.extract,h];rfl
  ·simp at h
 ·rename_i t parts;refine CI ?_;have e:(parts.map fun x=>(x.1,U x.2))=(parts.toList.map fun p=>(p.1,U p.2)).toArray:=by
   apply Zk; simp
  show Ac P (Instr.build t (parts.map fun x=>(x.1,U x.2))) H=some r;rw [e]; exact Ol h
 ·rename_i c;obtain ⟨callee,args,ats⟩:=c;unfold FZ at h;split at h
  ·rename_i b hb;simp only at hb h;subst hb;have e:args.map U=(args.toList.map U).toArray:=(by apply Zk; simp);show Ac P (builtin b ats type (args.map fun | .const _=>true | _=>false) (args.map U)) H=some (.value r);rw [e];exact LO hv h
  ·simp at h
 ·simp at h
def DU (v:Value) (k:Value->Prop):Prop:=k v
def AQ {α:Type} (o:Option α) (k:α->Prop):Prop :=
 match o with
 | some a=>k a
 | none=>False
def GJ (v:Value) (k:Addr->Prop):Prop :=
 match v with
 | .pointer (some a)=>k a
 | _=>False
theorem Aq {α:Type} {o:Option α} {k:α->Prop}:AQ o k↔∃ a,o=some a/\k a:=by
 cases o <;> simp [AQ]
def CallF (P:Program) (g:FuncId) (args:List Value) (H:A3) (R:Value->A3->Prop) (E:List PanicEntry->A3->Prop):Prop :=
 hwp P (callFunc g args.toArray) H (fun nx H'=>match nx with
  | .value v=>R v H'
  | .enter f as=>HCalls P f as H' R E
  | _=>False) (fun v H'=>E [{ v,recovered:=false }] H')
@[congr] theorem Vj {P:Program} {g:FuncId} {args args':List Value} {H:A3} {R:Value->A3->Prop} {E:List PanicEntry->A3->Prop} (h:args=args') :
  CallF P g args H R E=CallF P g args' H R E:=by rw [h]
theorem CallF.mono {P:Program} {f:FuncId} {args:List Value} {H:A3} {R R':Value->A3->Prop} {E E':List PanicEntry->A3->Prop}
  (h:CallF P f args H R E) (hr:∀ v H',R v H'->R' v H') (he:∀ c H',E c H'->E' c H'):CallF P f args H R' E':=by
 refine B4 P _ _ _ _ _ _ ?_ (fun v H'=>he _ H') h
 intro nx H' hx
 cases nx <;> first | exact hr _ _ hx | exact HCalls.mono hx hr he | exact hx
def NoP:List PanicEntry->A3->Prop:=fun _ _=>False
theorem CallF.to {P:Program} {f:FuncId} {args:List Value} {H:A3} {R R':Value->A3->Prop} {E':List PanicEntry->A3->Prop}
  (h:CallF P f args H R NoP) (hr:∀ v H',R v H'->R' v H'):CallF P f args H R' E':=h.mono hr (fun _ _ x=>x.elim)
def EJ (P:Program) (f:Value) (args:List Value) (H:A3) (R:Value->A3->Prop) (E:List PanicEntry->A3->Prop):Prop :=
 match f with
 | .func (.func g) first captured=>CallF P g (first.toList ++ args ++ captured.toList) H R E
 | _=>False
def Tr (v:Value) (k:Value->Prop):Prop :=
 match v with
 | .iface t u=>k (.iface t u)
 | _=>False
def invW (P:Program) (x:Value) (m:String) (args:List Value) (H:A3) (R:Value->A3->Prop) (E:List PanicEntry->A3->Prop):Prop :=
 hwp P (callMethod x m args.toArray) H (fun nx H'=>match nx with
  | .value v=>R v H'
  | .enter f as=>HCalls P f as H' R E
  | _=>False) (fun v H'=>E [{ v,recovered:=false }] H')
theorem invW.mono {P:Program} {x:Value} {m:String} {args:List Value} {H:A3} {R R':Value->A3->Prop} {E E':List PanicEntry->A3->Prop}
  (h:invW P x m args H R E) (hr:∀ v H',R v H'->R' v H') (he:∀ c H',E c H'->E' c H'):invW P x m args H R' E':=by
 refine B4 P _ _ _ _ _ _ ?_ (fun v H'=>he _ H') h
 intro nx H' hx
 cases nx <;> first | exact hr _ _ hx | exact HCalls.mono hx hr he | exact hx
def AO (z:Array Value) (n:Nat):Array Value:=(Array.range n).map (z[· % z.size]!)
def Co (H:A3):Value:=.pointer (some ⟨H.size,0,none⟩)
def makeV (P:Program) (H:A3) (t:TypeId) (l c:Value):Option (Value × A3) :=
 match l,c with
 | .int _ l,.int _ c=>(AN P t).bind fun e=>(Bq P e).bind fun b=>(Au P e).bind fun s=>(AD P e).bind fun z =>
  if 0<=l/\l<=c/\c<=281474976710656/\(b:Int) * c<=281474976710656 then
   some (.slice (some ⟨H.size,0,none⟩) l.toNat c.toNat,H.push (.cells (AO z.cells (c.toNat * s)) e)) else none
 | _,_=>none
theorem Du (n:Int) (h0:0<=n) (h1:n<=281474976710656):IntKind.i64.wrap n=n:=IntWalk.i64_in n (by omega)
theorem KB {P:Program} {H H':A3} {t:TypeId} {l c r:Value} {Q:Value->A3->Prop} {E:Value->A3->Prop} (h:makeV P H t l c=some (r,H')) (hq:Q r H') :
  hwp P (Instr.makeSlice t l c) H Q E:=by
 unfold makeV at h
 split at h
 ·rename_i k l k' c
  cases he:AN P t with
  | none=>simp [he] at h
  | some e =>
   cases hb:Bq P e with
   | none=>simp [he,hb] at h
   | some b =>
    cases hs:Au P e with
    | none=>simp [he,hb,hs] at h
    | some s =>
     cases hz:AD P e with
     | none=>simp [he,hb,hs,hz] at h
     | some z =>
      simp only [he,hb,hs,hz,J0] at h;split at h
      ·rename_i hc;obtain ⟨h0,h1,h2,h3⟩:=hc;simp only [J5,Jx] at h;obtain ⟨rfl,rfl⟩:=h;have hu:P.underlying t=some (.slice e):=by
        unfold AN at he;cases hu:P.underlying t with
        | none=>simp [hu] at he
        | some d=>cases d <;> simp [hu] at he; subst he; rfl
       have hi:∃ i,P.info? e=some i/\i.bytes=b:=by
        unfold Bq at hb;cases hi:P.info? e with
        | none=>simp [hi] at hb
        | some i=>simp [hi] at hb; exact ⟨i,rfl,hb⟩
       obtain ⟨i,hi,hib⟩:=hi;have wl:=Du l h0 (by omega);have wc:=Du c (by omega) h2;unfold Instr.makeSlice;refine Aa (A6 hu H) ?_;simp only;refine Aa (a:=l) rfl ?_;refine Aa (a:=c) rfl ?_;refine Aa (B3 hi H) ?_;simp only [wl,wc,hib];rw [J4 (by simp; omega)];refine Aa (a:=()) (by unfold askRoom; split <;> rfl) ?_;refine Aa (AL hs H) ?_;split
       ·rename_i hn;have e0:AO z.cells (c.toNat * s) = #[]:=(by simp [AO,hn]);rw [e0] at hq;have e1:(Array.range (c.toNat * s)).map (fun x=>(#[]:Array Value)[x % (#[]:Array Value).size]!) = #[]:=(by simp [hn]);show hwp P (newRow e ((Array.range (c.toNat * s)).map fun x=>(#[]:Array Value)[x % (#[]:Array Value).size]!) >>= fun a=>pure (Value.slice (some a) l.toNat c.toNat)) H Q E;rw [e1];exact hq
       ·refine Aa (AF hz H) ?_;exact hq
      ·simp at h
 ·simp at h
def Li (size:Nat) (cells:Array Value) (parts:List (Nat × Value)):Option (Array Value):=Instr.fill (fun i=>some (i * size,size)) cells parts
def buildSliceV (P:Program) (H:A3) (t:TypeId) (len:Nat) (parts:List (Nat × Value)):Option (Value × A3) :=
 (AN P t).bind fun e=>(Au P e).bind fun s=>(AD P e).bind fun z =>
  if len * s<=16777216 then
   (Li s (AO z.cells (len * s)) parts).map fun cs=>(.slice (some ⟨H.size,0,none⟩) len len,H.push (.cells cs e)) else none
theorem K5 {P:Program} {H H':A3} {t:TypeId} {len:Nat} {parts:List (Nat × Value)} {r:Value} {Q:Value->A3->Prop} {E:Value->A3->Prop}
  (h:buildSliceV P H t len parts=some (r,H')) (hq:Q r H'):hwp P (Instr.buildSlice t len parts.toArray) H Q E:=by
 unfold buildSliceV at h
 cases he:AN P t with
 | none=>simp [he] at h
 | some e =>
  cases hs:Au P e with
  | none=>simp [he,hs] at h
  | some s =>
   cases hz:AD P e with
   | none=>simp [he,hs,hz] at h
   | some z =>
    simp only [he,hs,hz,J0] at h;split at h
    ·rename_i hc;have hu:P.underlying t=some (.slice e):=by
      unfold AN at he;cases hu:P.underlying t with
      | none=>simp [hu] at he
      | some d=>cases d <;> simp [hu] at he; subst he; rfl
     cases hf:Li s (AO z.cells (len * s)) parts with
     | none=>simp [hf] at h
     | some cs =>
      simp only [hf,Ju,J5,Jx] at h;obtain ⟨rfl,rfl⟩:=h;unfold Instr.buildSlice;refine Aa (A6 hu H) ?_;simp only;refine Aa (AL hs H) ?_;rw [J4 (by simp; omega)];unfold Li at hf;split
      ·rename_i hn;have e0:AO z.cells (len * s)=(Array.range (len * s)).map fun x=>(#[]:Array Value)[x % (#[]:Array Value).size]!:=(by simp [AO,hn]);rw [e0] at hf;show hwp P (match Instr.fill (fun i=>some (i * s,s)) ((Array.range (len * s)).map fun x=>(#[]:Array Value)[x % (#[]:Array Value).size]!) parts with
        | some cells=>do
         let a <- newRow e cells
         pure (Value.slice (some a) len len)
        | _=>stuck "buildSlice: a part of the wrong size") H Q E
       simp only [hf];exact hq
      ·refine Aa (AF hz H) ?_;show hwp P (match Instr.fill (fun i=>some (i * s,s)) (AO z.cells (len * s)) parts with
        | some cells=>do
         let a <- newRow e cells
         pure (Value.slice (some a) len len)
        | _=>stuck "buildSlice: a part of the wrong size") H Q E
       simp only [hf];exact hq
    ·simp at h
def AR (H:A3) (size n:Nat):Value->Option (List Value)
 | .slice (some a) _ _=>Ay (A5 H) a 0 (n * size)
 | .slice none _ _=>some []
 | .string s=>some ((s.extract 0 n).data.toList.map fun b=>.int .u8 b.toNat)
 | _=>none
def M9:Value->Option Nat
 | .slice _ n _=>some n
 | .string s=>some s.size
 | _=>none
def DK (P:Program) (H:A3) (t xt:TypeId) (s x:Value) (k:Value->A3->Prop):Prop :=
 match s with
 | .slice base len cap =>
  AQ (AN P t) fun e=>AQ (Au P e) fun size=>AQ (Bq P e) fun bytes=>AQ (AD P e) fun z=>AQ (M9 x) fun n=>AQ (AR H size n x) fun new =>
   AQ (P.underlying xt) fun d=>(∀ kk,d ≠ .int kk) /\
   if len + n<=cap then
    match base with
    | some a=>AQ (Ar H (a.add (len * size)) new 0) fun H'=>k (.slice base (len + n) cap) H'
    | none=>k (.slice base (len + n) cap) H
   else
    Builtin.nextslicecap (len + n) cap * bytes<=281474976710656/\len + n<=281474976710656/\(bytes=0->len + n<=9223372036854775807) /\
    AQ (AR H size len s) fun old=>∀ newCap,len + n<=newCap->newCap < 9223372036854775808 ->
     k (.slice (some ⟨H.size,0,none⟩) (len + n) newCap) (H.push (.cells (old.toArray ++ new.toArray ++ Builtin.zeroCells z.cells (newCap - (len + n))) e))
 | _=>False
theorem B7 {P:Program} {H:A3} {size n:Nat} {v:Value} {l:List Value} (h:AR H size n v=some l):Ac P (Builtin.firstCells size n v) H=some l.toArray:=by
 unfold AR at h;split at h
 ·rename_i a _ _;show Ac P (loadCells a (n * size)) H=_;unfold loadCells;rw [Cw _ 0 #[] l h];simp
 ·simp only [J5] at h; subst h; rfl
 ·rename_i s;simp only [J5] at h; subst h;show some _=some _;congr 1;apply Zk;simp
 ·simp at h
theorem Nt {P:Program} {H:A3} {t xt ty:TypeId} {s x:Value} {k:Value->A3->Prop} {E:Value->A3->Prop} (h:DK P H t xt s x k) :
  hwp P (Builtin.append_ #[t,xt] ty #[s,x]) H k E:=by
 unfold DK at h
 split at h
 ·rename_i base len cap
  simp only [Aq] at h
  obtain ⟨e,he,size,hsz,bytes,hby,z,hz,n,hn,new,hnew,d,hd,hdi,h⟩:=h
  have hu:P.underlying t=some (.slice e):=by
   unfold AN at he;cases hu:P.underlying t with
   | none=>simp [hu] at he
   | some d=>cases d <;> simp [hu] at he; subst he; rfl
  have hi:∃ i,P.info? e=some i/\i.bytes=bytes:=by
   unfold Bq at hby;cases hi:P.info? e with
   | none=>simp [hi] at hby
   | some i=>simp [hi] at hby; exact ⟨i,rfl,hby⟩
  obtain ⟨i,hi,hib⟩:=hi
  unfold Builtin.append_
  simp only [Jw,Z1,Ys]
  refine Aa (A6 hu H) ?_
  simp only
  refine Aa (AL hsz H) ?_
  refine Aa (A6 hd H) ?_
  refine Aa (a:=false) ?_ ?_
  ·cases d <;> first | rfl | exact absurd rfl (hdi _)
  simp only [Z7,Z3,Bool.not_false,Zr]
  refine Aa (a:=n) ?_ ?_
  ·unfold M9 at hn
   split at hn
   ·simp only [J5] at hn; subst hn; rfl
   ·simp only [J5] at hn; subst hn; rfl
   ·simp at hn
  split at h
  ·rename_i hfit
   rw [J8 hfit]
   refine Aa (B7 hnew) ?_
   cases base with
   | none=>exact h
   | some a =>
    obtain ⟨H',hst,hk⟩:=h;simp only;rw [Az];exact BN _ 0 H H' (by simpa using hst) hk
  ·rename_i hfit
   rw [J4 hfit]
   obtain ⟨h1,h2,h3,old,hold,hk⟩:=h
   refine Aa (B3 hi H) ?_
   rw [hib]
   rw [J4 (by rintro ⟨ha,hb⟩; simp [IntKind.max,IntKind.bits,IntKind.signed] at ha hb; omega)]
   refine Aa (B3 hi H) ?_
   rw [hib,J4 (by simp; omega)]
   rw [Az]
   show hwp P (choose (.appendCap (len + n) cap e)) H _ E
   simp only [choose,hwp,Question.forced]
   intro tt
   simp only [Question.cut]
   refine Aa (B3 hi H) ?_
   refine Aa (a:=()) (by unfold askRoom; split <;> rfl) ?_
   refine Aa (B7 hold) ?_
   refine Aa (B7 hnew) ?_
   refine Aa (AF hz H) ?_
   refine hk _ (by omega) ?_
   have:=Nat.mod_lt tt (y:=2 ^ 63 - (len + n)) (by omega)
   omega
 ·exact h.elim
def NX (P:Program) (H:A3) (t xt:TypeId) (s x:Value) (k:Value->A3->Prop):Prop:=DK P H t xt s x k\/hwp P (Builtin.append_ #[t,xt] 0 #[s,x]) H k (fun _ _=>False)
theorem Lp {P:Program} {H:A3} {t xt:TypeId} {s x:Value} {k k':Value->A3->Prop} (hk:∀ v H,k v H->k' v H) (h:NX P H t xt s x k):NX P H t xt s x k':=by
 rcases h with hv | hv
 ·refine .inl ?_;unfold DK at hv ⊢;split at hv
  ·rename_i base len cap;simp only [Aq] at hv ⊢;obtain ⟨e,he,size,hsz,bytes,hby,z,hz,m,hm,new,hnew,d,hd,hdi,hv⟩:=hv;refine ⟨e,he,size,hsz,bytes,hby,z,hz,m,hm,new,hnew,d,hd,hdi,?_⟩;split at hv
   ·rename_i hf;rw [J8 hf];cases base with
    | none=>exact hk _ _ hv
    | some a =>
     obtain ⟨H',h1,h2⟩:=hv;exact ⟨H',h1,hk _ _ h2⟩
   ·rename_i hf;rw [J4 hf];obtain ⟨h1,h2,h3,old,h4,h5⟩:=hv;exact ⟨h1,h2,h3,old,h4,fun nc a b=>hk _ _ (h5 nc a b)⟩
  ·exact hv.elim
 ·exact .inr (B4 P _ _ _ _ _ _ hk (fun _ _ hx=>hx) hv)
theorem K6 {P:Program} {H:A3} {t xt ty:TypeId} {s x:Value} {k:Value->A3->Prop} {E:Value->A3->Prop} (h:NX P H t xt s x k) :
  hwp P (Builtin.append_ #[t,xt] ty #[s,x]) H k E:=by
 rcases h with h | h
 ·exact Nt h
 ·exact B4 P _ _ _ _ _ _ (fun _ _ hx=>hx) (fun _ _ hx=>hx.elim) h
def RP (P:Program) (H:A3) (t:TypeId) (m k x:Value) (K:A3->Prop) (E:Value->A3->Prop):Prop:=hwp P (Instr.mapUpdate t m k x) H (fun _ H'=>K H') E
theorem Fs {P:Program} {H:A3} {t:TypeId} {m k x:Value} {K K':A3->Prop} {E E':Value->A3->Prop} (hk:∀ H,K H->K' H) (he:∀ v H,E v H->E' v H) (h:RP P H t m k x K E):RP P H t m k x K' E' :=
 B4 P _ _ _ _ _ _ (fun _ H h=>hk H h) he h
def opV (n:Nat) (P:Program) (o:Oper) (U:En) (H:A3) (K:En->A3->Prop) (Q:Exit->En->A3->Prop):Prop :=
 match o.op with
 | .store t a x=>GJ (U.ev a) fun ad=>DU (U.ev x) fun v=>AQ (B1 P H t ad v) fun H'=>K (U.put n o.dst undef) H'
 | .alloc t=>AQ (AD P t) fun z=>K (U.put n o.dst (Co H)) (H.push (.cells z.cells t))
 | .box t x=>DU (U.ev x) fun v=>K (U.put n o.dst (Co H)) (H.push (.cells v.cells t))
 | .makeSlice t l c=>AQ (makeV P H t (U.ev l) (U.ev c)) fun r=>K (U.put n o.dst r.1) r.2
 | .buildSlice t len parts=>AQ (buildSliceV P H t len (parts.toList.map fun p=>(p.1,U.ev p.2))) fun r=>K (U.put n o.dst r.1) r.2
 | .makeMap _ none=>K (U.put n o.dst (.map (some H.size))) (H.push (.map #[] 0))
 | .mapUpdate t m k x=>RP P H t (U.ev m) (U.ev k) (U.ev x) (fun H'=>K (U.put n o.dst undef) H') (fun v H'=>Q (.panic [{ v,recovered:=false }]) U H')
 | .insert t m k x=>RP P H t (U.ev m) (U.ev k) (U.ev x) (fun H'=>K (U.put n o.dst undef) H') (fun v H'=>Q (.panic [{ v,recovered:=false }]) U H')
 | .call ⟨.builtin .append,args,ats⟩=>match ats.toList,args.toList with
  | [t,xt],[s,x]=>DU (U.ev s) fun s=>DU (U.ev x) fun x=>NX P H t xt s x fun v H'=>K (U.put n o.dst v) H'
  | _,_=>False
 | .call ⟨.builtin .unsafeSliceData,args,ats⟩=>hwp P (Builtin.unsafeSliceData_ ats o.type (args.toList.map U.ev).toArray) H (fun v H'=>K (U.put n o.dst v) H') (fun _ _=>False)
 | .call ⟨.builtin .unsafeString,args,ats⟩=>hwp P (Builtin.unsafeString_ ats o.type (args.toList.map U.ev).toArray) H (fun v H'=>K (U.put n o.dst v) H') (fun _ _=>False)
 | .call ⟨.builtin .clear,args,ats⟩=>hwp P (Builtin.clear_ ats o.type (args.toList.map U.ev).toArray) H (fun v H'=>K (U.put n o.dst v) H') (fun _ _=>False)
 | .call ⟨.value f,args,_⟩=>EJ P (U.ev f) (args.toList.map U.ev) H (fun v H'=>K (U.put n o.dst v) H') (fun c H'=>Q (.panic c) U H')
 | .call ⟨.invoke r m,args,_⟩=>invW P (U.ev r) m (args.toList.map U.ev) H (fun v H'=>K (U.put n o.dst v) H') (fun c H'=>Q (.panic c) U H')
 | .panic x=>Tr (U.ev x) fun v=>Q (.panic [{ v,recovered:=false }]) U H
 | op=>AQ (opQ P (AI H) U.ev op) fun v=>K (U.put n o.dst v) H
theorem L1 {n:Nat} {P:Program} {dst:Option Nat} {f:Operand} {args:Array Operand} {ats:Array TypeId} {ty:TypeId} {pos:String} {after:Array Edge} {guard:Option (Nat × Bool)} {U:En} {H:A3}
  {K:En->A3->Prop} {Q:Exit->En->A3->Prop}
  (h:EJ P (U.ev f) (args.toList.map U.ev) H (fun v H'=>K (U.put n dst v) H') (fun c H'=>Q (.panic c) U H')) :
  Cn n P ⟨dst,.call ⟨.value f,args,ats⟩,ty,pos,after,guard⟩ U H K Q:=by
 unfold EJ at h
 split at h
 ·rename_i g first captured hf
  have e:execOp U.ev ⟨dst,.call ⟨.value f,args,ats⟩,ty,pos,after,guard⟩=callFunc g (first ++ args.map U.ev ++ captured):=by
   unfold execOp resolve;simp only [hf];rfl
  have e2:(first ++ args.map U.ev ++ captured)=(first.toList ++ args.toList.map U.ev ++ captured.toList).toArray:=by
   apply Zk; simp
  unfold Cn
  rw [e,e2]
  refine B4 P _ _ _ _ _ _ ?_ (fun v H' hx=>hx) h
  intro nx H' hx
  cases nx <;> first | exact hx | exact hx.elim
 ·exact h.elim
theorem Em {n:Nat} {P:Program} {o:Oper} {U:En} {H:A3} {K:En->A3->Prop} {Q:Exit->En->A3->Prop} (h:opV n P o U H K Q):Cn n P o U H K Q:=by
 have quiet:∀ o:Oper,(AQ (opQ P (AI H) U.ev o.op) fun v=>K (U.put n o.dst v) H)->Cn n P o U H K Q:=by
  intro o h;rw [Aq] at h;obtain ⟨v,hv,hk⟩:=h;exact Df P _ H _ _ _ (Hv (Fv H) hv) hk
 obtain ⟨dst,op,type,pos,after,guard⟩:=o;unfold opV at h;simp only at h;split at h
 ·rename_i t a x;unfold GJ at h;split at h
  ·rename_i ad ha;rw [DU,Aq] at h;obtain ⟨H',hs,hk⟩:=h;unfold Cn;simp only [execOp,ha];rw [Az];exact Ns hs hk
  ·exact h.elim
 ·rename_i t;rw [Aq] at h;obtain ⟨z,hz,hk⟩:=h;unfold Cn;simp only [execOp,Instr.alloc];rw [Az];refine Aa (AF hz H) ?_;exact hk
 ·exact h
 ·rename_i t l c;rw [Aq] at h;obtain ⟨⟨r,H'⟩,hm,hk⟩:=h;unfold Cn;simp only [execOp];rw [Az];exact KB hm hk
 ·rename_i t len parts;rw [Aq] at h;obtain ⟨⟨r,H'⟩,hm,hk⟩:=h;unfold Cn;simp only [execOp];rw [Az];have e:(parts.map fun x=>(x.1,U.ev x.2))=(parts.toList.map fun p=>(p.1,U.ev p.2)).toArray:=(by apply Zk; simp);show hwp P (Instr.buildSlice t len (parts.map fun x=>(x.1,U.ev x.2))) H _ _;rw [e];exact K5 hm hk
 ·exact h
 ·unfold Cn;simp only [execOp];rw [Az];exact h
 ·unfold Cn;simp only [execOp];rw [Az];exact h
 ·rename_i args ats;split at h
  ·rename_i t xt s x ht hx;have e1:ats = #[t,xt]:=(by apply Zk; simp [ht]);have e2:args = #[s,x]:=(by apply Zk; simp [hx]);subst e1 e2;unfold Cn;have e3:execOp U.ev ⟨dst,.call ⟨.builtin .append,#[s,x],#[t,xt]⟩,type,pos,after,guard⟩=(do pure (Next.value (<- Builtin.append_ #[t,xt] type (#[s,x].map U.ev)))):=rfl;have e4:#[s,x].map U.ev = #[U.ev s,U.ev x]:=(by simp);rw [e3,e4,Az];exact K6 h
  ·exact h.elim
 ·rename_i args ats;unfold Cn;have e3:execOp U.ev ⟨dst,.call ⟨.builtin .unsafeSliceData,args,ats⟩,type,pos,after,guard⟩=(do pure (Next.value (<- Builtin.unsafeSliceData_ ats type (args.map U.ev)))):=rfl;have e4:args.map U.ev=(args.toList.map U.ev).toArray:=(by apply Zk; simp);rw [e3,e4,Az];exact B4 P _ _ _ _ _ _ (fun v H' hx=>hx) (fun v H' hx=>hx.elim) h
 ·rename_i args ats;unfold Cn;have e3:execOp U.ev ⟨dst,.call ⟨.builtin .unsafeString,args,ats⟩,type,pos,after,guard⟩=(do pure (Next.value (<- Builtin.unsafeString_ ats type (args.map U.ev)))):=rfl;have e4:args.map U.ev=(args.toList.map U.ev).toArray:=(by apply Zk; simp);rw [e3,e4,Az];exact B4 P _ _ _ _ _ _ (fun v H' hx=>hx) (fun v H' hx=>hx.elim) h
 ·rename_i args ats;unfold Cn;have e3:execOp U.ev ⟨dst,.call ⟨.builtin .clear,args,ats⟩,type,pos,after,guard⟩=(do pure (Next.value (<- Builtin.clear_ ats type (args.map U.ev)))):=rfl;have e4:args.map U.ev=(args.toList.map U.ev).toArray:=(by apply Zk; simp);rw [e3,e4,Az];exact B4 P _ _ _ _ _ _ (fun v H' hx=>hx) (fun v H' hx=>hx.elim) h
 ·exact L1 h
 ·rename_i r m args ats;unfold Cn;have e:execOp U.ev ⟨dst,.call ⟨.invoke r m,args,ats⟩,type,pos,after,guard⟩=callMethod (U.ev r) m (args.toList.map U.ev).toArray:=by
   show (do let d <- (pure { target:=.fn (.method m) #[],args:=#[U.ev r] ++ args.map U.ev }:Sem Deferred); invoke d.target d.args)=_;show invoke (.fn (.method m) #[]) (#[U.ev r] ++ args.map U.ev)=_;have e1:(#[U.ev r] ++ args.map U.ev)[0]?=some (U.ev r):=(by rw [X0]; rfl);have e2:(#[U.ev r] ++ args.map U.ev).extract 1 (#[U.ev r] ++ args.map U.ev).size=(args.toList.map U.ev).toArray:=(by apply Zk; simp; exact Yg (by simp));unfold invoke;simp only [e1,e2]
  rw [e];refine B4 P _ _ _ _ _ _ ?_ (fun v H' hx=>hx) h;intro nx H' hx;cases nx <;> first | exact hx | exact hx.elim
 ·rename_i x;unfold Tr at h;split at h
  ·rename_i t u hx;unfold Cn;show hwp P (do pure (Next.value (<- Instr.panic (U.ev x)))) H _ _;rw [hx];exact h
  ·exact h.elim
 ·exact quiet _ h
theorem L3 {n:Nat} {P:Program} {o:Oper} {U:En} {K:En->A3->Prop} {Q:Exit->En->A3->Prop} {w0 w:World} {a:Act}
  (h0:Rest w0 w) (ha:Ag n a U) (h:opV n P o U w.heap K Q):o.wp P a w (up n w0 K) (upQ n w0 Q):=El h0 ha (Em h)
def AZ (ops:Array Oper) (U:En) (j:Nat):Value :=
 match (ops[j]?).bind (·.dst) with
 | some d=>U.get d
 | none=>undef
def BO (v:Value) (want:Bool) (p q:Prop):Prop :=
 match v with
 | .bool b=>(b=want->p)/\(b=(!want)->q)
 | _=>q
def BV:Value->Option Bool
 | .bool b=>some b
 | _=>none
theorem IS {n:Nat} {a:Act} {U:En} (h:Ag n a U) (ops:Array Oper) (j:Nat):yielded ops a.tmps j=BV (AZ ops U j):=by
 unfold yielded AZ;cases (ops[j]?).bind (·.dst) with
 | none=>rfl
 | some d =>
  have ht:=h.2.1 d;rw [Jn] at ht;simp only [J0];rw [<- ht];cases hv:a.tmps[d]? with
  | none=>rfl
  | some v=>cases v <;> rfl
def opG (n:Nat) (P:Program) (ops:Array Oper) (o:Oper) (U:En) (H:A3) (K:En->A3->Prop) (Q:Exit->En->A3->Prop):Prop :=
 match o.guard with
 | none=>opV n P o U H K Q
 | some (j,want)=>BO (AZ ops U j) want (opV n P o U H K Q) (K (U.put n o.dst undef) H)
theorem E5 {n:Nat} {P:Program} {ops:Array Oper} {o:Oper} {U:En} {K:En->A3->Prop} {Q:Exit->En->A3->Prop} {w0 w:World} {a:Act}
  (h0:Rest w0 w) (ha:Ag n a U) (h:opG n P ops o U w.heap K Q) :
  if Region.wanted o (yielded ops a.tmps) then o.wp P a w (up n w0 K) (upQ n w0 Q)\/(o.asks P a w/\LetsOut (upQ n w0 Q)) else up n w0 K (a.put o.dst undef) w:=by
 unfold opG at h
 unfold Region.wanted
 cases hg:o.guard with
 | none =>
  rw [hg] at h;simp only [Zr];exact .inl (L3 h0 ha h)
 | some g =>
  obtain ⟨j,want⟩:=g;rw [hg] at h;simp only [IS ha];simp only [BO] at h;generalize AZ ops U j=v at h;cases v with
  | bool b =>
   by_cases hb:b=want
   ·have e:(BV (.bool b) == some want)=true:=(by subst hb; simp [BV]);rw [J8 e];exact .inl (L3 h0 ha (h.1 hb))
   ·have hb':b = !want:=(by cases b <;> cases want <;> simp_all);have e:¬ (BV (.bool b) == some want)=true:=(by simp [BV,hb]);rw [J4 e];exact ⟨h0,_,ha.put _ _,h.2 hb'⟩
  | _=>exact ⟨h0,_,ha.put _ _,h⟩
def GL (n:Nat) (P:Program) (ops:Array Oper) (Q:Exit->En->A3->Prop):List Oper->En->A3->Prop
 | [],U,H=>Q .normal U H
 | o :: rest,U,H=>opG n P ops o U H (GL n P ops Q rest) Q
theorem N8 {n:Nat} {P:Program} {ops:Array Oper} {Q:Exit->En->A3->Prop} {w0:World} :
  ∀ (l:List Nat) (ol:List Oper),l.map (ops[·]?)=ol.map some->∀ (U:En) (w:World) (a:Act),Rest w0 w->Ag n a U->GL n P ops Q ol U w.heap ->
   wpOps P ops (upQ n w0 Q) l a w:=by
 intro l
 induction l with
 | nil =>
  intro ol hol U w a h0 ha h;cases ol with
  | nil=>exact ⟨h0,_,ha,h⟩
  | cons _ _=>simp at hol
 | cons i l ih =>
  intro ol hol U w a h0 ha h;cases ol with
  | nil=>simp at hol
  | cons o ol =>
   simp only [Jz,Zh] at hol;obtain ⟨ho,hol⟩:=hol;rw [wpOps_cons];unfold wpOp;rw [ho];have h':=E5 h0 ha h;simp only;split
   ·rename_i hw;rw [J8 hw] at h';exact h'.imp (Oper.wp_mono (fun a' w' ⟨hr,U',ha',hk⟩=>ih ol hol U' w' a' hr ha' hk)) id
   ·rename_i hw;rw [J4 hw] at h';obtain ⟨hr,U',ha',hk⟩:=h';exact ih ol hol U' w _ hr ha' hk
def D8 (K:En->A3->Prop) (Q:Exit->En->A3->Prop):Exit->En->A3->Prop
 | .normal,U,H=>K U H
 | e,U,H=>Q e U H
def I8 (id:Nat) (Q:Exit->En->A3->Prop):Exit->En->A3->Prop
 | .exit i,U,H=>if i=id then Q .normal U H else Q (.exit i) U H
 | e,U,H=>Q e U H
def FY (v:Value) (p q:Prop):Prop :=
 match v with
 | .bool b=>(b=true->p)/\(b=false->q)
 | _=>False
def CW (n:Nat) (P:Program) (c:Code) (Q:Exit->En->A3->Prop) (U:En) (H:A3):Prop :=
 ∀ (w0 w:World) (a:Act),Rest w0 w->w.heap=H->Ag n a U->c.wp P (upQ n w0 Q) a w
def cw (n:Nat) (P:Program):Code->(Exit->En->A3->Prop)->En->A3->Prop
 | .skip,Q,U,H=>Q .normal U H
 | .region _ ops false,Q,U,H=>GL n P ops Q ops.toList U H
 | .seq x y,Q,U,H=>cw n P x (D8 (cw n P y Q) Q) U H
 | .cond c x y,Q,U,H=>FY (U.ev c) (cw n P x Q U H) (cw n P y Q U H)
 | .block id c,Q,U,H=>cw n P c (I8 id Q) U H
 | .exit id,Q,U,H=>Q (.exit id) U H
 | .ret,Q,U,H=>Q .ret U H
 | .label _,Q,U,H=>Q .normal U H
 | c,Q,U,H=>CW n P c Q U H
theorem CW.mono {n:Nat} {P:Program} {c:Code} {Q Q':Exit->En->A3->Prop} {U:En} {H:A3} (hq:∀ e U H,Q e U H->Q' e U H) (h:CW n P c Q U H):CW n P c Q' U H :=
 fun w0 w a h0 hw ha=>wp_mono (h w0 w a h0 hw ha) fun _ _ _ ⟨hr,U',ha',hx⟩=>⟨hr,U',ha',hq _ _ _ hx⟩
theorem Fe {n:Nat} {P:Program} (c:Code):∀ (Q:Exit->En->A3->Prop) (U:En) (H:A3),cw n P c Q U H->CW n P c Q U H:=by
 induction c with
 | skip=>intro Q U H h w0 w a h0 hw ha; subst hw; exact wp_skip ⟨h0,_,ha,h⟩
 | region id ops draw =>
  intro Q U H h w0 w a h0 hw ha;subst hw;cases draw with
  | true=>exact h w0 w a h0 rfl ha
  | false =>
   refine wp_region (N8 _ ops.toList ?_ U w a h0 ha h);apply Y9;intro i;simp only [Z0];by_cases hi:i < ops.size
   ·simp [hi]
   ·simp [hi]
 | seq x y ihx ihy =>
  intro Q U H h w0 w a h0 hw ha;refine wp_seq (wp_mono (ihx _ _ _ h w0 w a h0 hw ha) ?_);rintro e a' w' ⟨hr,U',ha',hx⟩;cases e with
  | normal=>exact ihy Q U' w'.heap hx w0 w' a' hr rfl ha'
  | _=>exact ⟨hr,U',ha',hx⟩
 | cond c x y ihx ihy =>
  intro Q U H h w0 w a h0 hw ha;simp only [cw] at h;cases hv:U.ev c with
  | bool b =>
   rw [hv] at h;refine wp_cond (t:=b) (by rw [ha.ev]; exact hv) ?_;cases b with
   | true=>exact ihx Q U H (h.1 rfl) w0 w a h0 hw ha
   | false=>exact ihy Q U H (h.2 rfl) w0 w a h0 hw ha
  | _=>rw [hv] at h; exact h.elim
 | block id c ih =>
  intro Q U H h w0 w a h0 hw ha;refine wp_block (wp_mono (ih _ _ _ h w0 w a h0 hw ha) ?_);rintro e a' w' ⟨hr,U',ha',hx⟩;cases e with
  | exit i =>
   simp only [I8] at hx;simp only [Exit.inBlock];split <;> rename_i hi
   ·rw [J8 hi] at hx; exact ⟨hr,U',ha',hx⟩
   ·rw [J4 hi] at hx; exact ⟨hr,U',ha',hx⟩
  | _=>exact ⟨hr,U',ha',hx⟩
 | exit id=>intro Q U H h w0 w a h0 hw ha; subst hw; exact wp_exit ⟨h0,_,ha,h⟩
 | ret=>intro Q U H h w0 w a h0 hw ha; subst hw; exact wp_ret ⟨h0,_,ha,h⟩
 | label l=>intro Q U H h w0 w a h0 hw ha; subst hw; exact wp_label ⟨h0,_,ha,h⟩
 | _=>intro Q U H h; exact h
theorem Uq {n:Nat} {P:Program} {c:Code} {Q:Exit->En->A3->Prop} (I:Nat->En->A3->Prop)
  (round:∀ k U H,I k U H->cw n P c (D8 (fun U' H'=>∃ k',k' < k/\I k' U' H') Q) U H)
  {k:Nat} {U:En} {H:A3} (h0:I k U H):CW n P (.loop c) Q U H:=by
 intro w0 w a hr hw ha
 subst hw
 refine wp_loop_rounds (k + 1) ?_
 have key:∀ m k,k < m->∀ U (w:World) (a:Act),Rest w0 w->Ag n a U->I k U w.heap->Code.rounds P c (upQ n w0 Q) m a w:=by
  intro m;induction m with
  | zero=>intro k hk; omega
  | succ m ih =>
   intro k hk U w a hr ha hi;rw [rounds_succ];refine wp_mono (Fe c _ _ _ (round k U w.heap hi) w0 w a hr rfl ha) ?_;rintro e a' w' ⟨hr',U',ha',hx⟩;cases e with
   | normal =>
    obtain ⟨k',hk',hi'⟩:=hx;exact ih k' (by omega) U' w' a' hr' ha' hi'
   | _=>exact ⟨hr',U',ha',hx⟩
 exact key (k + 1) k (by omega) U w a hr ha h0
def Ra (U:En):ResultVar->Sem Value
 | .tmp t=>pure (U.get t)
 | .cell a t=>do loadVar t (<- asAddr (U.get a))
def Og (fn:Func) (U:En):Sem Value:=do
 let vs <- fn.results.mapM (Ra U)
 pure (if h:vs.size=1 then vs[0] else .tuple vs)
theorem DD {n:Nat} {a:Act} {U:En} (h:Ag n a U) (fn:Func):results fn a.tmps=Og fn U:=by
 unfold results Og;congr 1;congr 1;funext x;cases x with
 | tmp t=>simp only [h.2.1 t]; rfl
 | cell b t=>simp only [h.2.1 b]; rfl
def PG (P:Program) (fn:Func) (R:Value->A3->Prop) (E:List PanicEntry->A3->Prop):Exit->En->A3->Prop
 | .normal,U,H | .ret,U,H=>U.ds = []/\∃ v,Ac P (Og fn U) H=some v/\R v H
 | .panic c,U,H=>U.ds = []/\E c H
 | _,_,_=>False
def B2 (args:Array Value):En:={ get:=fun t=>args.getD t undef,ds:=[] }
theorem Lc {P:Program} {f:FuncId} {fn:Func} {c:Code} {args:Array Value} {H:A3} {R:Value->A3->Prop} {E:List PanicEntry->A3->Prop}
  (hf:P.funcs[f]?=some fn) (hb:fn.body=some c) (hs:args.size<=fn.ntmps)
  (h:CW fn.ntmps P c (PG P fn R E) (B2 args) H):HCalls P f args H R E:=by
 intro w hw
 refine calls_of_wp hf hb ?_
 refine wp_mono (h w w _ (Rest.refl w) hw ⟨?_,fun t=>?_,rfl⟩) ?_
 ·simp; omega
 ·simp only [B2]
  rw [Jn,Jn,X0]
  split
  ·rfl
  ·rename_i ht
   rw [Z5 (xs:=args) (by omega),Yo]
   split <;> rfl
 ·rintro e a' w' ⟨hr,U',ha',hx⟩
  cases e with
  | normal =>
   obtain ⟨hd,v,hv,hR⟩:=hx;exact ⟨ha'.2.2.trans hd,v,by rw [DD ha']; exact Bo P _ w' v hv,hr,hR⟩
  | ret =>
   obtain ⟨hd,v,hv,hR⟩:=hx;exact ⟨ha'.2.2.trans hd,v,by rw [DD ha']; exact Bo P _ w' v hv,hr,hR⟩
  | panic ch=>exact ⟨ha'.2.2.trans hx.1,hr,hx.2⟩
  | _=>exact hx.elim
def EK [p:Inhabited Prop]:Prop:=p.default
theorem fin {p:Prop} (h:p):@EK ⟨p⟩:=h
theorem j3r {p:Prop}:@EK ⟨p⟩=p:=rfl
def UZ [p:Inhabited Prop] [q:Inhabited Prop]:Prop:=p.default/\q.default
theorem Uv {p q:Prop} (h:p) (h':q):@UZ ⟨p⟩ ⟨q⟩:=⟨h,h'⟩
def DV (v:Value) [k:Inhabited (Value->Prop)]:Prop:=k.default v
def QR (v:Array Value) [k:Inhabited (Array Value->Prop)]:Prop:=k.default v
def BT {α:Type} (o:Option α) [k:Inhabited (α->Prop)]:Prop:=AQ o k.default
def j0z (v:Value) [k:Inhabited (Addr->Prop)]:Prop:=GJ v k.default
def DG (v:Value) [p:Inhabited Prop] [q:Inhabited Prop]:Prop:=FY v p.default q.default
def CA (v:Value) (b:Bool) [p:Inhabited Prop] [q:Inhabited Prop]:Prop:=BO v b p.default q.default
def I9 (P:Program) (t xt:TypeId) (s x:Value) [H:Inhabited A3] [k:Inhabited (Value->A3->Prop)]:Prop:=NX P H.default t xt s x k.default
def YG (P:Program) (t ty:TypeId) (x:Value) [H:Inhabited A3] [k:Inhabited (Value->A3->Prop)]:Prop:=hwp P (Builtin.clear_ #[t] ty #[x]) H.default k.default (fun _ _=>False)
def NO (P:Program) (f:Value) (args:List Value) [H:Inhabited A3] [R:Inhabited (Value->A3->Prop)] [E:Inhabited (List PanicEntry->A3->Prop)]:Prop:=EJ P f args H.default R.default E.default
def RQ (P:Program) (t:TypeId) (m k x:Value) [H:Inhabited A3] [K:Inhabited (A3->Prop)] [E:Inhabited (Value->A3->Prop)]:Prop:=RP P H.default t m k x K.default E.default
def O0 (P:Program) (f:FuncId) (args:List Value) [H:Inhabited A3] [R:Inhabited (Value->A3->Prop)] [E:Inhabited (List PanicEntry->A3->Prop)]:Prop:=CallF P f args H.default R.default E.default
section
variable {n:Nat} {P:Program} {Q:Exit->En->A3->Prop} {K:En->A3->Prop} {U:En} {H:A3}
@[go_sem ↓] theorem j45:cw n P .skip Q U H=Q .normal U H:=(rfl)
@[go_sem ↓] theorem j02 {id:Nat} {l:List Oper}:cw n P (.region id l.toArray false) Q U H=GL n P l.toArray Q l U H:=(rfl)
@[go_sem ↓] theorem j47 {id:Nat} {l:Array Oper}:cw n P (.region id l true) Q U H = @EK ⟨CW n P (.region id l true) Q U H⟩:=(rfl)
@[go_sem ↓] theorem j5t {x y:Code}:cw n P (.seq x y) Q U H=cw n P x (D8 (cw n P y Q) Q) U H:=(rfl)
@[go_sem ↓] theorem j48 {c:Operand} {x y:Code}:cw n P (.cond c x y) Q U H = @DG (U.ev c) ⟨cw n P x Q U H⟩ ⟨cw n P y Q U H⟩:=(rfl)
theorem cB {id:Nat} {c:Code}:cw n P (.block id c) Q U H=cw n P c (I8 id Q) U H:=(rfl)
@[go_sem ↓] theorem j46 {id:Nat}:cw n P (.exit id) Q U H=Q (.exit id) U H:=(rfl)
@[go_sem ↓] theorem j5u:cw n P .ret Q U H=Q .ret U H:=(rfl)
@[go_sem ↓] theorem j3a {c:Code}:cw n P (.loop c) Q U H = @EK ⟨CW n P (.loop c) Q U H⟩:=(rfl)
@[go_sem ↓] theorem UK:D8 K Q .normal U H=K U H:=(rfl)
@[go_sem ↓] theorem j0p:D8 K Q .ret U H=Q .ret U H:=(rfl)
@[go_sem ↓] theorem YV {i:Nat}:D8 K Q (.exit i) U H=Q (.exit i) U H:=(rfl)
@[go_sem ↓] theorem Vh {id:Nat}:I8 id Q .normal U H=Q .normal U H:=(rfl)
@[go_sem ↓] theorem j3h {id:Nat}:I8 id Q .ret U H=Q .ret U H:=(rfl)
@[go_sem ↓] theorem j05 {id:Nat}:I8 id Q (.exit id) U H=Q .normal U H:=J8 rfl
@[go_sem ↓] theorem j06 {id i:Nat}:I8 id Q (.exit i) U H=if i=id then Q .normal U H else Q (.exit i) U H:=(rfl)
@[go_sem ↓] theorem YW {ops:Array Oper}:GL n P ops Q [] U H=Q .normal U H:=(rfl)
@[go_sem ↓] theorem WG {ops:Array Oper} {o:Oper} {l:List Oper}:GL n P ops Q (o :: l) U H=opG n P ops o U H (GL n P ops Q l) Q:=(rfl)
variable {ops:Array Oper} {dst:Option Nat} {op:Op} {ty:TypeId} {pos:String} {after:Array Edge} {g:Option (Nat × Bool)}
@[go_sem ↓] theorem j1l:opG n P ops ⟨dst,op,ty,pos,after,none⟩ U H K Q=opV n P ⟨dst,op,ty,pos,after,none⟩ U H K Q:=(rfl)
@[go_sem ↓] theorem j1k {j:Nat} {want:Bool}:opG n P ops ⟨dst,op,ty,pos,after,some (j,want)⟩ U H K Q =
  @CA (AZ ops U j) want ⟨opV n P ⟨dst,op,ty,pos,after,some (j,want)⟩ U H K Q⟩ ⟨K (U.put n dst undef) H⟩:=(rfl)
def MF:List Oper->En->Nat->Value
 | [],_,_=>undef
 | o :: _,U,0=>match o.dst with
  | some d=>U.get d
  | none=>undef
 | _ :: l,U,j + 1=>MF l U j
@[go_sem] theorem VL {l:List Oper} {j:Nat}:AZ l.toArray U j=MF l U j:=by
 unfold AZ;simp only [Jw];induction l generalizing j with
 | nil=>rfl
 | cons o l ih =>
  cases j with
  | zero=>rfl
  | succ j=>exact ih
@[go_sem ↓] theorem VM {l:List Oper} {d:Nat}:MF (⟨some d,op,ty,pos,after,g⟩ :: l) U 0=U.get d:=(rfl)
@[go_sem ↓] theorem VN {o:Oper} {l:List Oper} {j:Nat}:MF (o :: l) U (j + 1)=MF l U j:=(rfl)
@[go_sem] theorem ZV {p q:Prop}:@CA (.bool true) true ⟨p⟩ ⟨q⟩=p:=by simp [CA,BO]
@[go_sem] theorem ZW {p q:Prop}:@CA (.bool true) false ⟨p⟩ ⟨q⟩=q:=by simp [CA,BO]
@[go_sem] theorem ZX {p q:Prop}:@CA (.bool false) true ⟨p⟩ ⟨q⟩=q:=by simp [CA,BO]
@[go_sem] theorem ZY {p q:Prop}:@CA (.bool false) false ⟨p⟩ ⟨q⟩=p:=by simp [CA,BO]
@[go_sem] theorem U6 {b:Bool} {p q:Prop}:@CA undef b ⟨p⟩ ⟨q⟩=q:=(rfl)
@[go_sem] theorem j4a {p q:Prop}:@DG (.bool true) ⟨p⟩ ⟨q⟩=p:=by simp [DG,FY]
@[go_sem] theorem j4b {p q:Prop}:@DG (.bool false) ⟨p⟩ ⟨q⟩=q:=by simp [DG,FY]
@[go_sem] theorem j3d {c p q:Prop} [Decidable c] (h:c):@DG (.bool (decide c)) ⟨p⟩ ⟨q⟩=p:=by simp [DG,FY,h]
@[go_sem] theorem j3e {c p q:Prop} [Decidable c] (h:¬ c):@DG (.bool (decide c)) ⟨p⟩ ⟨q⟩=q:=by simp [DG,FY,h]
theorem Ba {c p q:Prop} [Decidable c] (h:c->p) (h':¬ c->q):@DG (.bool (decide c)) ⟨p⟩ ⟨q⟩:=⟨fun e=>h (by simpa using e),fun e=>h' (by simpa using e)⟩
theorem OM {b:Bool} {p q:Prop} (h:b=true->p) (h':b=false->q):@DG (.bool b) ⟨p⟩ ⟨q⟩:=⟨h,h'⟩
@[go_sem] theorem ZT {c p q:Prop} [Decidable c] (h:c) {b:Bool}:@CA (.bool (decide c)) b ⟨p⟩ ⟨q⟩ = @CA (.bool true) b ⟨p⟩ ⟨q⟩:=by simp [h]
@[go_sem] theorem ZU {c p q:Prop} [Decidable c] (h:¬ c) {b:Bool}:@CA (.bool (decide c)) b ⟨p⟩ ⟨q⟩ = @CA (.bool false) b ⟨p⟩ ⟨q⟩:=by simp [h]
@[go_sem] theorem j09 {v:Value} {k:Value->Prop}:@DV v ⟨k⟩=k v:=(rfl)
@[go_sem] theorem VJ {α:Type} {a:α} {k:α->Prop}:@BT _ (some a) ⟨k⟩=k a:=(rfl)
@[go_sem] theorem j3s {a:Addr} {k:Addr->Prop}:@j0z (.pointer (some a)) ⟨k⟩=k a:=(rfl)
@[go_sem ↓] theorem j1f {x:Operand}:opV n P ⟨dst,.move x,ty,pos,after,g⟩ U H K Q = @DV (U.ev x) ⟨fun v=>K (U.put n dst v) H⟩:=(rfl)
@[go_sem ↓] theorem WJ {x:Operand}:opV n P ⟨dst,.assign x,ty,pos,after,g⟩ U H K Q = @DV (U.ev x) ⟨fun v=>K (U.put n dst v) H⟩:=(rfl)
@[go_sem ↓] theorem j1e {c a b:Operand}:opV n P ⟨dst,.pick c a b,ty,pos,after,g⟩ U H K Q = @BT _ (N3 (U.ev c) (U.ev a) (U.ev b)) ⟨fun v=>K (U.put n dst v) H⟩:=(rfl)
@[go_sem ↓] theorem j1g {t:TypeId} {a:Operand}:opV n P ⟨dst,.load t a,ty,pos,after,g⟩ U H K Q = @BT _ (FQ P (AI H) t (U.ev a)) ⟨fun v=>K (U.put n dst v) H⟩:=(rfl)
@[go_sem ↓] theorem YX {t:TypeId} {a x:Operand}:opV n P ⟨dst,.store t a x,ty,pos,after,g⟩ U H K Q = @j0z (U.ev a) ⟨fun ad=>@DV (U.ev x) ⟨fun v=>@BT _ (B1 P H t ad v) ⟨fun H'=>K (U.put n dst undef) H'⟩⟩⟩:=(rfl)
@[go_sem ↓] theorem Ts {x:Operand}:opV n P ⟨dst,.nilCheck x,ty,pos,after,g⟩ U H K Q = @BT _ (Qe (U.ev x)) ⟨fun v=>K (U.put n dst v) H⟩:=(rfl)
@[go_sem ↓] theorem ZA {b:BinOp} {t t':TypeId} {x y:Operand}:opV n P ⟨dst,.binOp b t x y t',ty,pos,after,g⟩ U H K Q = @BT _ (B0 P (AI H) b t x y (U.ev x) (U.ev y)) ⟨fun v=>K (U.put n dst v) H⟩:=(rfl)
@[go_sem ↓] theorem j1d {u:UnOp} {t:TypeId} {x:Operand}:opV n P ⟨dst,.unOp u t x,ty,pos,after,g⟩ U H K Q = @BT _ (unV u (U.ev x)) ⟨fun v=>K (U.put n dst v) H⟩:=(rfl)
@[go_sem ↓] theorem UT {s d:TypeId} {x:Operand}:opV n P ⟨dst,.convert s d x,ty,pos,after,g⟩ U H K Q = @BT _ (CS P (AI H) s d (U.ev x)) ⟨fun v=>K (U.put n dst v) H⟩:=(rfl)
@[go_sem ↓] theorem Tt {fn:Fn} {a b:List Operand}:opV n P ⟨dst,.makeFunc fn a.toArray b.toArray,ty,pos,after,g⟩ U H K Q = @BT _ (some (.func fn (a.map U.ev).toArray (b.map U.ev).toArray)) ⟨fun v=>K (U.put n dst v) H⟩:=(rfl)
@[go_sem ↓] theorem YY {t:TypeId} {x:Operand} {a b c:Option Operand}:opV n P ⟨dst,.slice t x a b c,ty,pos,after,g⟩ U H K Q = @BT _ (Be P t (U.ev x) (CK U.ev a) (CK U.ev b) (CK U.ev c)) ⟨fun v=>K (U.put n dst v) H⟩:=(rfl)
@[go_sem ↓] theorem SM {s:TypeId} {x:Operand} {f:Nat}:opV n P ⟨dst,.fieldAddr s x f,ty,pos,after,g⟩ U H K Q = @BT _ (Fw P s (U.ev x) f) ⟨fun v=>K (U.put n dst v) H⟩:=(rfl)
@[go_sem ↓] theorem SL {s:TypeId} {x i:Operand}:opV n P ⟨dst,.indexAddr s x i,ty,pos,after,g⟩ U H K Q = @BT _ (D7 P s (U.ev x) (U.ev i)) ⟨fun v=>K (U.put n dst v) H⟩:=(rfl)
@[go_sem ↓] theorem WH {s:TypeId} {x i:Operand} {ok:Bool}:opV n P ⟨dst,.lookup s x i ok,ty,pos,after,g⟩ U H K Q = @BT _ (EG P (Instr.lookup s (U.ev x) (U.ev i) ok) (AI H)) ⟨fun v=>K (U.put n dst v) H⟩:=(rfl)
@[go_sem ↓] theorem US {x:Operand} {i:Nat}:opV n P ⟨dst,.extract x i,ty,pos,after,g⟩ U H K Q = @BT _ (K9 (U.ev x) i) ⟨fun v=>K (U.put n dst v) H⟩:=(rfl)
@[go_sem ↓] theorem YZ {t:TypeId} {l:List (Nat × Operand)}:opV n P ⟨dst,.build t l.toArray,ty,pos,after,g⟩ U H K Q = @BT _ (D4 P t (l.map fun p=>(p.1,U.ev p.2))) ⟨fun v=>K (U.put n dst v) H⟩:=(rfl)
@[go_sem ↓] theorem ZB {t:TypeId}:opV n P ⟨dst,.alloc t,ty,pos,after,g⟩ U H K Q = @BT _ (AD P t) ⟨fun z=>@QR z.cells ⟨fun cs=>K (U.put n dst (Co H)) (H.push (.cells cs t))⟩⟩:=(rfl)
@[go_sem ↓] theorem j3x {t:TypeId} {x:Operand}:opV n P ⟨dst,.box t x,ty,pos,after,g⟩ U H K Q = @DV (U.ev x) ⟨fun v=>@QR v.cells ⟨fun cs=>K (U.put n dst (Co H)) (H.push (.cells cs t))⟩⟩:=(rfl)
@[go_sem] theorem j3n {l:List Value} {k:Array Value->Prop}:@QR l.toArray ⟨k⟩=k l.toArray:=(rfl)
@[go_sem ↓] theorem SK {t:TypeId} {x y:Operand}:opV n P ⟨dst,.makeSlice t x y,ty,pos,after,g⟩ U H K Q = @BT _ (makeV P H t (U.ev x) (U.ev y)) ⟨fun r=>K (U.put n dst r.1) r.2⟩:=(rfl)
@[go_sem ↓] theorem Rv {t:TypeId} {k:Nat} {l:List (Nat × Operand)}:opV n P ⟨dst,.buildSlice t k l.toArray,ty,pos,after,g⟩ U H K Q = @BT _ (buildSliceV P H t k (l.map fun p=>(p.1,U.ev p.2))) ⟨fun r=>K (U.put n dst r.1) r.2⟩:=(rfl)
@[go_sem ↓] theorem UR {t:TypeId}:opV n P ⟨dst,.makeMap t none,ty,pos,after,g⟩ U H K Q=K (U.put n dst (.map (some H.size))) (H.push (.map #[] 0)):=(rfl)
@[go_sem ↓] theorem SJ {t:TypeId} {x y z:Operand}:opV n P ⟨dst,.mapUpdate t x y z,ty,pos,after,g⟩ U H K Q = @DV (U.ev x) ⟨fun m=>@DV (U.ev y) ⟨fun k=>@DV (U.ev z) ⟨fun u=>@RQ P t m k u ⟨H⟩ ⟨fun H'=>K (U.put n dst undef) H'⟩ ⟨fun v H'=>Q (.panic [{ v,recovered:=false }]) U H'⟩⟩⟩⟩:=(rfl)
@[go_sem ↓] theorem j3w {t:TypeId} {x:Operand}:opV n P ⟨dst,.call ⟨.builtin .clear,#[x],#[t]⟩,ty,pos,after,g⟩ U H K Q = @YG P t ty (U.ev x) ⟨H⟩ ⟨fun v H'=>K (U.put n dst v) H'⟩:=(rfl)
@[go_sem ↓] theorem WK {t t':TypeId} {x y:Operand}:opV n P ⟨dst,.call ⟨.builtin .append,#[x,y],#[t,t']⟩,ty,pos,after,g⟩ U H K Q = @DV (U.ev x) ⟨fun s=>@DV (U.ev y) ⟨fun x=>@I9 P t t' s x ⟨H⟩ ⟨fun v H'=>K (U.put n dst v) H'⟩⟩⟩:=(rfl)
@[go_sem ↓] theorem j3v {t:TypeId} {x:Operand}:opV n P ⟨dst,.call ⟨.builtin .len,#[x],#[t]⟩,ty,pos,after,g⟩ U H K Q = @BT _ (F3 P (AI H) t (U.ev x)) ⟨fun v=>K (U.put n dst v) H⟩:=(rfl)
@[go_sem ↓] theorem j3u {ts:Array TypeId} {x y:Operand}:opV n P ⟨dst,.call ⟨.builtin .max,#[x,y],ts⟩,ty,pos,after,g⟩ U H K Q = @BT _ (FO (U.ev x) (U.ev y)) ⟨fun v=>K (U.put n dst v) H⟩:=(rfl)
@[go_sem ↓] theorem j1h {f:Operand} {l:List Operand} {ts:Array TypeId}:opV n P ⟨dst,.call ⟨.value f,l.toArray,ts⟩,ty,pos,after,g⟩ U H K Q = @NO P (U.ev f) (l.map U.ev) ⟨H⟩ ⟨fun v H'=>K (U.put n dst v) H'⟩ ⟨fun c H'=>Q (.panic c) U H'⟩:=(rfl)
@[go_sem] theorem YI {f:FuncId} {a b:List Value} {l:List Value} {R:Value->A3->Prop} {E:List PanicEntry->A3->Prop} :
  @NO P (.func (.func f) a.toArray b.toArray) l ⟨H⟩ ⟨R⟩ ⟨E⟩ = @O0 P f (a ++ l ++ b) ⟨H⟩ ⟨R⟩ ⟨E⟩:=(rfl)
end
section
variable {U:En}
@[go_sem] theorem j5r {t:Nat}:U.ev (.tmp t)=U.get t:=(rfl)
@[go_sem] theorem j2w {v:Value}:U.ev (.const v)=v:=(rfl)
@[go_sem] theorem j43 {f:FuncId}:U.ev (.func f)=.func (.func f) #[] #[]:=(rfl)
def Te (b:Bool) (t:Nat) [v:Inhabited Value] [U:Inhabited En]:Value:=bif b then v.default else U.default.get t
@[go_sem] theorem j56 {v:Value} {t:Nat}:@Te true t ⟨v⟩ ⟨U⟩=v:=(rfl)
@[go_sem] theorem j57 {v:Value} {t:Nat}:@Te false t ⟨v⟩ ⟨U⟩=U.get t:=(rfl)
@[go_sem ↓] theorem j41 {n d t:Nat} {v:Value}:(En.put n U (some d) v).get t = @Te (t == d && decide (d < n)) t ⟨v⟩ ⟨U⟩:=by
 simp only [En.put,Te];by_cases h:t=d <;> by_cases h':d < n <;> simp [h,h'];rw [beq_eq_false_iff_ne.2 h]; rfl
@[go_sem ↓] theorem j0y {n:Nat} {v:Value}:En.put n U none v=U:=(rfl)
@[go_sem] theorem HW {n:Nat} {d:Option Nat} {v:Value}:(En.put n U d v).ds=U.ds:=by cases d <;> rfl
@[go_sem] theorem j07 {a:Value} {l:List Value}:(B2 (a :: l).toArray).get 0=a:=(rfl)
@[go_sem] theorem j08 {a:Value} {l:List Value} {t:Nat}:(B2 (a :: l).toArray).get (t + 1)=(B2 l.toArray).get t:=by
 simp [B2]
@[go_sem] theorem j4r {a:Array Value}:(B2 a).ds = []:=(rfl)
attribute [go_sem] cond_true cond_false Wf Bool.false_and Nat.reduceBEq Nat.reduceLT X5 V7 X2 Bool.not_false
@[go_sem] theorem ZM {α β:Type} {f:α->β} {a:α} {l:List α}:(a :: l).map f=f a :: l.map f:=(rfl)
@[go_sem] theorem j1x {α β:Type} {f:α->β}:([]:List α).map f = []:=(rfl)
@[go_sem] theorem j2c {α:Type} {l:List α}:[] ++ l=l:=(rfl)
@[go_sem] theorem ZQ {α:Type} {a:α} {l l':List α}:(a :: l) ++ l'=a :: (l ++ l'):=(rfl)
attribute [go_sem] Xd
end
section
variable {P:Program} {V:HV} {H:A3} {t:TypeId} {xo yo:Operand} {k:IntKind} {x y:Int}
@[go_sem] theorem j3t {b:Bool} {u v:Value}:N3 (.bool b) u v=some (bif b then u else v):=(rfl)
@[go_sem] theorem j5a {a:Addr}:Qe (.pointer (some a))=some (.pointer (some a)):=(rfl)
@[go_sem] theorem j3o {b:Bool}:unV .not (.bool b)=some (.bool (!b)):=(rfl)
@[go_sem] theorem j3p:unV .neg (.int k x)=some (.int k (k.wrap (-x))):=by simp [unV]
@[go_sem] theorem j4o:B0 P V .add t xo yo (.int k x) (.int k y)=some (.int k (k.wrap (x + y))):=by simp [B0,AX]
@[go_sem] theorem j4c:B0 P V .sub t xo yo (.int k x) (.int k y)=some (.int k (k.wrap (x - y))):=by simp [B0,AX]
@[go_sem] theorem j4i:B0 P V .mul t xo yo (.int k x) (.int k y)=some (.int k (k.wrap (x * y))):=by simp [B0,AX]
@[go_sem] theorem j4g:B0 P V .quo t xo yo (.int k x) (.int k y)=chk (y ≠ 0) (some (.int k (k.wrap (x.tdiv y)))):=by simp [B0,AX,chk]
@[go_sem] theorem j4f:B0 P V .rem t xo yo (.int k x) (.int k y)=chk (y ≠ 0) (some (.int k (x.tmod y))):=by simp [B0,AX,chk]
@[go_sem] theorem j4e {k':IntKind}:B0 P V .shl t xo yo (.int k x) (.int k' y)=chk (0<=y) (some (.int k (k.wrap (x * 2 ^ min y.toNat k.bits)))):=by
 by_cases h:y < 0 <;> simp [B0,AX,chk,h] <;> omega
@[go_sem] theorem j4d {k':IntKind}:B0 P V .shr t xo yo (.int k x) (.int k' y)=chk (0<=y) (some (.int k (x.fdiv (2 ^ min y.toNat k.bits)))):=by
 by_cases h:y < 0 <;> simp [B0,AX,chk,h] <;> omega
@[go_sem] theorem j4n:B0 P V .eql t xo yo (.int k x) (.int k y)=some (.bool (decide (x=y))):=by simp [B0,AX,BEq.beq]
@[go_sem] theorem j4h:B0 P V .neq t xo yo (.int k x) (.int k y)=some (.bool (decide (x ≠ y))):=by simp [B0,AX,bne,BEq.beq]
@[go_sem] theorem j4j:B0 P V .lss t xo yo (.int k x) (.int k y)=some (.bool (decide (x < y))):=by simp [B0,AX]
@[go_sem] theorem j4k:B0 P V .leq t xo yo (.int k x) (.int k y)=some (.bool (decide (x<=y))):=by simp [B0,AX]
@[go_sem] theorem j4l:B0 P V .gtr t xo yo (.int k x) (.int k y)=some (.bool (decide (y < x))):=by simp [B0,AX]
@[go_sem] theorem j4m:B0 P V .geq t xo yo (.int k x) (.int k y)=some (.bool (decide (y<=x))):=by simp [B0,AX]
@[go_sem] theorem Ca {α:Type} {p:Prop} [Decidable p] {o:Option α} (h:p):chk p o=o:=J8 h
@[go_sem] theorem j4p {α:Type} {p:Prop} [Decidable p] {a b:α} (h:p):(bif decide p then a else b)=a:=by simp [h]
@[go_sem] theorem j4q {α:Type} {p:Prop} [Decidable p] {a b:α} (h:¬ p):(bif decide p then a else b)=b:=by simp [h]
theorem QM {a:Option Addr}:a.map (·.add 0)=a:=by cases a <;> rfl
@[go_sem] theorem KU {a:Option Addr} {len c:Nat}:Be P t (.slice a len c) none (some (.int k x)) none=(BP P t).bind fun _=>chk (0<=x/\x<=c) (some (.slice a x.toNat c)):=by
 unfold Be Cv;cases BP P t with
 | none=>rfl
 | some z =>
  simp only [J0,chk];split
  ·simp [QM]
  ·rfl
@[go_sem] theorem KS {a:Option Addr} {len c:Nat}:Be P t (.slice a len c) (some (.int k x)) none none=(BP P t).bind fun z=>chk (0<=x/\x<=len) (some (.slice (if c=x.toNat then a else a.map (·.add (x.toNat * z))) (len - x.toNat) (c - x.toNat))):=by
 unfold Be Cv;cases BP P t with
 | none=>rfl
 | some z =>
  simp only [J0,chk];split <;> rfl
@[go_sem] theorem MG {k':IntKind} {a:Option Addr} {len c:Nat}:Be P t (.slice a len c) (some (.int k x)) (some (.int k' y)) none =
  (BP P t).bind fun z=>chk (0<=y/\y<=c) (chk (0<=x/\x<=y.toNat) (some (.slice (if c=x.toNat then a else a.map (·.add (x.toNat * z))) (y.toNat - x.toNat) (c - x.toNat)))):=by
 unfold Be Cv
 cases BP P t with
 | none=>rfl
 | some z =>
  simp only [J0,chk];split
  ·simp only [J0];split <;> rfl
  ·rfl
@[go_sem] theorem j3g {α:Type} {i:Decidable True} {o:Option α}:@chk α True i o=o:=J8 trivial
@[go_sem] theorem j3y {p:Prop} [Decidable p]:(!(decide p))=decide (¬ p):=by simp
@[go_sem] theorem Vn {n:Int} (h:-9223372036854775808<=n/\n<=9223372036854775807):IntKind.i64.wrap n=n:=IntWalk.i64_in n h
@[go_sem] theorem QA {s:TypeId} {a:Addr} {f:Nat}:Fw P s (.pointer (some a)) f=(AC P s f).map fun o=>.pointer (some (a.add o)):=(rfl)
@[go_sem] theorem ZR {a:Addr} {len c:Nat}:D7 P t (.slice (some a) len c) (.int k x)=(BP P t).bind fun z=>chk (0<=x/\x < len) (some (.pointer (some (a.add (x.toNat * z))))):=(rfl)
@[go_sem] theorem j40 {a:Addr}:FQ P V t (.pointer (some a))=loadA P V t a:=(rfl)
@[go_sem] theorem j5b {a:Option Addr} {len c:Nat}:F3 P V t (.slice a len c)=(AN P t).map fun _=>.int .i64 len:=(rfl)
@[go_sem] theorem j42 {l:List Value} {i:Nat}:K9 (.tuple l.toArray) i=l[i]?:=by simp [K9]
@[go_sem] theorem j3z {k':IntKind}:FO (.int k x) (.int k' y)=some (.int k (max x y)):=by
 simp only [FO,Int.max_def]; congr 2; split <;> split <;> omega
@[go_sem] theorem ZL {a:Addr}:loadA P V t a=match CX P t with
 | some none=>V.cells a
 | some (some n)=>(Ay V.cells a 0 n).map fun l=>.agg l.toArray
 | none=>none:=(rfl)
@[go_sem] theorem XN {a:Addr}:(AI H).cells a=A5 H a:=(rfl)
@[go_sem] theorem XH {a:Addr} {l:List (Addr × Value)}:(held l).cells a=Ak l a:=(rfl)
@[go_sem] theorem VZ {α:Type} {e:Sem α}:EG P e (AI H)=Ac P e H:=(rfl)
@[go_sem] theorem AS {b o n:Nat}:(⟨b,o,none⟩:Addr).add n=⟨b,o + n,none⟩:=by
 unfold Addr.add; split <;> simp_all
attribute [go_sem] Int.tdiv_eq_ediv_of_nonneg Int.tmod_eq_emod_of_nonneg Z4
attribute [go_sem] Int.reduceAdd Int.reduceMul Int.reduceSub Int.reduceDiv Int.reduceMod Int.reduceNeg Int.reduceLT Int.reduceLE Int.reduceEq Int.reduceNe Int.reduceToNat Nat.reduceAdd Nat.reduceMul Nat.reduceSub Nat.reduceEqDiff reduceIte
@[go_sem] theorem ZF {α β:Type} {f:α->β} {a:α}:(some a).map f=some (f a):=(rfl)
@[go_sem] theorem WM {α β:Type} {f:α->Option β} {a:α}:(some a).bind f=f a:=(rfl)
@[go_sem] theorem ZN {α:Type} {a:α} {l:List α}:(a :: l)[0]?=some a:=(rfl)
@[go_sem] theorem ZO {α:Type} {a:α} {l:List α} {i:Nat}:(a :: l)[i + 1]?=l[i]?:=(rfl)
attribute [go_sem] Jy Zv
@[go_sem] theorem ZH {n:Nat}:n + 0=n:=(rfl)
end
section
variable {P:Program} {H:A3} {t e:TypeId} {xo yo:Operand} {a:Addr}
theorem FU (hu:P.underlying t=some (.pointer e)):Ac P (Op.equal t (.pointer (some a)) (.pointer none)) H=some false:=by
 unfold Op.equal Op.maxDepth Op.equalIn;rw [A4,A6 hu,J0];rfl
theorem FV (hu:P.underlying t=some (.pointer e)):Ac P (Op.equal t (.pointer none) (.pointer none)) H=some true:=by
 unfold Op.equal Op.maxDepth Op.equalIn;rw [A4,A6 hu,J0];rfl
@[go_sem] theorem j5x {b:Bool}:(true == b)=b:=by cases b <;> rfl
@[go_sem] theorem j5y {b:Bool}:(false == b) = !b:=by cases b <;> rfl
theorem Ik (hu:P.underlying t=some (.pointer e)):B0 P (AI H) .eql t xo yo (.pointer (some a)) (.pointer none)=some (.bool false):=by
 show Ac P (do eqGuard .eql t xo yo (.pointer (some a)) (.pointer none); binOp .eql t (.pointer (some a)) (.pointer none)) H=_;rw [A4];show Ac P (do pure (Value.bool (<- Op.equal t (.pointer (some a)) (.pointer none)))) H=_;rw [A4,FU hu];rfl
theorem NS (hu:P.underlying t=some (.pointer e)):B0 P (AI H) .neq t xo yo (.pointer (some a)) (.pointer none)=some (.bool true):=by
 show Ac P (do eqGuard .neq t xo yo (.pointer (some a)) (.pointer none); binOp .neq t (.pointer (some a)) (.pointer none)) H=_;rw [A4];show Ac P (do pure (Value.bool (!(<- Op.equal t (.pointer (some a)) (.pointer none))))) H=_;rw [A4,FU hu];rfl
theorem NU (hu:P.underlying t=some (.pointer e)):B0 P (AI H) .eql t xo yo (.pointer none) (.pointer none)=some (.bool true):=by
 show Ac P (do eqGuard .eql t xo yo (.pointer none) (.pointer none); binOp .eql t (.pointer none) (.pointer none)) H=_;rw [A4];show Ac P (do pure (Value.bool (<- Op.equal t (.pointer none) (.pointer none)))) H=_;rw [A4,FV hu];rfl
theorem NT (hu:P.underlying t=some (.pointer e)):B0 P (AI H) .neq t xo yo (.pointer none) (.pointer none)=some (.bool false):=by
 show Ac P (do eqGuard .neq t xo yo (.pointer none) (.pointer none); binOp .neq t (.pointer none) (.pointer none)) H=_;rw [A4];show Ac P (do pure (Value.bool (!(<- Op.equal t (.pointer none) (.pointer none))))) H=_;rw [A4,FV hu];rfl
theorem Hb {x y:Bool} (hu:P.underlying t=some .bool):B0 P (AI H) .eql t xo yo (.bool x) (.bool y)=some (.bool (x == y)):=by
 show Ac P (do eqGuard .eql t xo yo (.bool x) (.bool y); binOp .eql t (.bool x) (.bool y)) H=_;rw [A4];show Ac P (do pure (Value.bool (<- Op.equal t (.bool x) (.bool y)))) H=_;have e:Ac P (Op.equal t (.bool x) (.bool y)) H=some (x == y):=by
  unfold Op.equal Op.maxDepth Op.equalIn;rw [A4,A6 hu,J0];rfl
 rw [A4,e];rfl
theorem Mr {x y:Bool} (hu:P.underlying t=some .bool):B0 P (AI H) .neq t xo yo (.bool x) (.bool y)=some (.bool (!(x == y))):=by
 show Ac P (do eqGuard .neq t xo yo (.bool x) (.bool y); binOp .neq t (.bool x) (.bool y)) H=_;rw [A4];show Ac P (do pure (Value.bool (!(<- Op.equal t (.bool x) (.bool y))))) H=_;have e:Ac P (Op.equal t (.bool x) (.bool y)) H=some (x == y):=by
  unfold Op.equal Op.maxDepth Op.equalIn;rw [A4,A6 hu,J0];rfl
 rw [A4,e];rfl
theorem Sj {V:HV} {s d:TypeId} {k k':IntKind} {n:Int} {u:TypeDesc} (hs:P.underlying s=some u) (hd:P.underlying d=some (.int k')):CS P V s d (.int k n)=some (.int k' (k'.wrap n)):=by
 unfold CS; simp only [hs,hd]
end
def Cr (P:Program) (U:En) (H:A3):List ResultVar->(List Value->Prop)->Prop
 | [],k=>k []
 | .tmp t :: rs,k=>Cr P U H rs fun vs=>k (U.get t :: vs)
 | .cell a t :: rs,k=>GJ (U.get a) fun ad=>AQ (loadA P (AI H) t ad) fun v=>Cr P U H rs fun vs=>k (v :: vs)
def FG:List Value->Value
 | [v]=>v
 | vs=>.tuple vs.toArray
def MU (P:Program) (rs:List ResultVar) (R:Value->A3->Prop) (E:List PanicEntry->A3->Prop):Exit->En->A3->Prop
 | .normal,U,H | .ret,U,H=>U.ds = []/\Cr P U H rs fun vs=>R (FG vs) H
 | .panic c,U,H=>U.ds = []/\E c H
 | _,_,_=>False
theorem Of {P:Program} {U:En} {H:A3}:∀ (rs:List ResultVar) (k:List Value->Prop),Cr P U H rs k->∃ vs,Ac P (rs.mapM (Ra U)) H=some vs/\k vs:=by
 intro rs;induction rs with
 | nil=>intro k h; exact ⟨[],rfl,h⟩
 | cons r rs ih =>
  intro k h;rw [List.mapM_cons];cases r with
  | tmp t =>
   obtain ⟨vs,hv,hk⟩:=ih _ h;refine ⟨U.get t :: vs,?_,hk⟩;rw [A4];simp only [Ra,pure,Ac,J0];rw [A4,hv];rfl
  | cell a t =>
   unfold Cr at h;unfold GJ at h;split at h
   ·rename_i ad ha;rw [Aq] at h;obtain ⟨v,hv,hk⟩:=h;obtain ⟨vs,hvs,hk⟩:=ih _ hk;refine ⟨v :: vs,?_,hk⟩;have e:Ac P (Ra U (.cell a t)) H=some v:=by
     simp only [Ra];rw [ha,A4];simp only [asAddr,pure,Ac,J0];exact GG (Fv H) hv
    rw [A4,e,J0,A4,hvs];rfl
   ·exact h.elim
theorem D0 {P:Program} {fn:Func} {rs:List ResultVar} {R:Value->A3->Prop} {E:List PanicEntry->A3->Prop} (hr:fn.results=rs.toArray) :
  ∀ e U H,MU P rs R E e U H->PG P fn R E e U H:=by
 have key:∀ U H,(U.ds = []/\Cr P U H rs fun vs=>R (FG vs) H)->U.ds = []/\∃ v,Ac P (Og fn U) H=some v/\R v H:=by
  rintro U H ⟨hd,h⟩;obtain ⟨vs,hv,hk⟩:=Of rs _ h;refine ⟨hd,_,?_,hk⟩;unfold Og;rw [hr];rw [List.mapM_toArray,A4,map_eq_pure_bind,A4,hv];simp only [J0,pure,Ac];congr 1;match vs with
  | []=>rfl
  | [v]=>rfl
  | v :: u :: l=>simp [FG]
 intro e U H h
 cases e with
 | normal=>exact key U H h
 | ret=>exact key U H h
 | panic c=>exact h
 | _=>exact h.elim
section
variable {P:Program} {U:En} {H:A3} {rs:List ResultVar} {R:Value->A3->Prop} {E:List PanicEntry->A3->Prop}
def dsB (U:En) [p:Inhabited Prop]:Prop:=U.ds = []/\p.default
@[go_sem ↓] theorem UM:MU P rs R E .normal U H = @dsB U ⟨Cr P U H rs fun vs=>@DV (FG vs) ⟨fun v=>@EK ⟨R v H⟩⟩⟩:=(rfl)
@[go_sem ↓] theorem j0r:MU P rs R E .ret U H = @dsB U ⟨Cr P U H rs fun vs=>@DV (FG vs) ⟨fun v=>@EK ⟨R v H⟩⟩⟩:=(rfl)
@[go_sem ↓] theorem j0t {k:List Value->Prop}:Cr P U H [] k=k []:=(rfl)
@[go_sem ↓] theorem j0s {t:Nat} {k:List Value->Prop}:Cr P U H (.tmp t :: rs) k = @DV (U.get t) ⟨fun v=>Cr P U H rs fun vs=>k (v :: vs)⟩:=(rfl)
@[go_sem ↓] theorem j44 {n:Nat} {d:Option Nat} {v:Value} {p:Prop}:@dsB (En.put n U d v) ⟨p⟩ = @dsB U ⟨p⟩:=by cases d <;> rfl
@[go_sem ↓] theorem j34 {a:Array Value} {p:Prop}:@dsB (B2 a) ⟨p⟩=p:=by simp [dsB,B2]
@[go_sem] theorem dB {p:Prop} (h:U.ds = []):@dsB U ⟨p⟩=p:=by simp [dsB,h]
@[go_sem ↓] theorem j0h {v:Value}:FG [v]=v:=(rfl)
@[go_sem ↓] theorem j0i:FG []=.tuple #[]:=(rfl)
@[go_sem ↓] theorem j0g {u v:Value} {l:List Value}:FG (u :: v :: l)=.tuple (u :: v :: l).toArray:=(rfl)
attribute [go_sem] true_and
end
theorem A7 {P:Program} {f:FuncId} {args:List Value} {H:A3} {R R':Value->A3->Prop} {E:List PanicEntry->A3->Prop}
  (h:CallF P f args H R NoP) (hr:∀ v H',R v H'->R' v H'):@O0 P f args ⟨H⟩ ⟨R'⟩ ⟨E⟩:=h.to hr
theorem Ae {n:Nat} {P:Program} {c:Code} {Q:Exit->En->A3->Prop} (I:Nat->En->A3->Prop) {k:Nat} {U:En} {H:A3} (h0:I k U H)
  (round:∀ k U H,I k U H->cw n P c (D8 (fun U' H'=>@EK ⟨∃ k',k' < k/\I k' U' H'⟩) Q) U H):@EK ⟨CW n P (.loop c) Q U H⟩:=Uq I round h0
theorem A9 {P:Program} {f:FuncId} {fn:Func} {c:Code} {args:List Value} {rs:List ResultVar} {n:Nat} {H:A3} {R:Value->A3->Prop} {E:List PanicEntry->A3->Prop}
  (hf:P.funcs[f]?=some fn) (hb:fn.body=some c) (hn:fn.ntmps=n) (hr:fn.results=rs.toArray) (hm:(fn.name == "runtime.NumGoroutine")=false)
  (hs:decide (args.length<=n)=true)
  (h:cw n P c (MU P rs R E) (B2 args.toArray) H):CallF P f args H R E:=by
 unfold CallF callFunc
 rw [Az]
 show hwp P (match P.funcs[f]? with | none=>_ | some fn=>_) H _ _
 rw [hf]
 simp only [hm,Z7,Z3,hb,X8]
 show HCalls P f args.toArray H R E
 subst hn
 refine Lc hf hb (by simpa using hs) ?_
 exact CW.mono (D0 hr) (Fe c _ _ _ h)
end Go.HL
