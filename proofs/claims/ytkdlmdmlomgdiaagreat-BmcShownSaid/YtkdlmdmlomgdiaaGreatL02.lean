/- A region that draws its order: one walk in a fixed order serves for all orders. -/
import Derived.Test.YtkdlmdmlomgdiaaGreatL01
set_option linter.unusedSimpArgs false
set_option linter.unusedVariables false
set_option maxRecDepth 10000
set_option maxHeartbeats 8000000
noncomputable section
namespace Go.HL
def isQ:Op->Bool
 | .move _ | .assign _ | .pick .. | .load .. | .nilCheck _ | .binOp .. | .unOp .. | .convert .. | .makeInterface .. | .makeFunc .. | .slice .. | .fieldAddr .. | .field .. | .indexAddr .. | .index ..
 | .lookup .. | .typeAssert .. | .extract .. | .build ..=>true
 | .call c=>match c.callee with
  | .builtin .len | .builtin .max | .builtin .min | .builtin .cap=>true
  | _=>false
 | _=>false
theorem Ek {U U':Operand->Value}:∀ (o:Option Operand),(∀ x,o=some x->U x=U' x)->CK U o=CK U' o
 | none,_=>rfl
 | some x,h=>by simp only [CK,h x rfl]
theorem L5 {P:Program} {V:HV} {U U':Operand->Value} {op:Op} (h:∀ x ∈ op.operands.toList,U x=U' x):opQ P V U op=opQ P V U' op:=by
 cases op with
 | move x=>simp only [opQ]; rw [h x (by simp [Op.operands])]
 | assign x=>simp only [opQ]; rw [h x (by simp [Op.operands])]
 | pick c a b=>simp only [opQ]; rw [h c (by simp [Op.operands]),h a (by simp [Op.operands]),h b (by simp [Op.operands])]
 | load t a=>simp only [opQ]; rw [h a (by simp [Op.operands])]
 | nilCheck x=>simp only [opQ]; rw [h x (by simp [Op.operands])]
 | binOp o t x y t'=>simp only [opQ]; rw [h x (by simp [Op.operands]),h y (by simp [Op.operands])]
 | unOp o t x=>simp only [opQ]; rw [h x (by simp [Op.operands])]
 | convert a b x=>simp only [opQ]; rw [h x (by simp [Op.operands])]
 | makeInterface a x=>simp only [opQ]; rw [h x (by simp [Op.operands])]
 | makeFunc fn a b =>
  have h1:a.toList.map U=a.toList.map U':=Zq fun x hx=>h x (by simp [Op.operands] at hx ⊢; exact .inl hx);have h2:b.toList.map U=b.toList.map U':=Zq fun x hx=>h x (by simp [Op.operands] at hx ⊢; exact .inr hx);simp only [opQ]; rw [h1,h2]
 | slice t x lo hi mx =>
  simp only [opQ];rw [h x (by simp [Op.operands]),Ek lo fun y hy=>h y (by simp [Op.operands,hy]),Ek hi fun y hy=>h y (by simp [Op.operands,hy]),Ek mx fun y hy=>h y (by simp [Op.operands,hy])]
 | fieldAddr t x f=>simp only [opQ]; rw [h x (by simp [Op.operands])]
 | field t x f=>simp only [opQ]; rw [h x (by simp [Op.operands])]
 | indexAddr t x y=>simp only [opQ]; rw [h x (by simp [Op.operands]),h y (by simp [Op.operands])]
 | index t x y=>simp only [opQ]; rw [h x (by simp [Op.operands]),h y (by simp [Op.operands])]
 | lookup t x y ok=>simp only [opQ]; rw [h x (by simp [Op.operands]),h y (by simp [Op.operands])]
 | typeAssert x t t' ok=>simp only [opQ]; rw [h x (by simp [Op.operands])]
 | extract x i=>simp only [opQ]; rw [h x (by simp [Op.operands])]
 | build t parts =>
  have e:(parts.toList.map fun p=>(p.1,U p.2))=parts.toList.map fun p=>(p.1,U' p.2):=by
   apply Zq;intro p hp;rw [h p.2 (by simp only [Op.operands,Ji]; exact ⟨p,hp,rfl⟩)]
  simp only [opQ]; rw [e]
 | call c =>
  have h1:c.args.toList.map U=c.args.toList.map U':=Zq fun x hx=>h x (by simp [Op.operands,Call.operands] at hx ⊢; exact .inr hx);simp only [opQ]; rw [h1]
 | _=>rfl
theorem L2 {n:Nat} {P:Program} {o:Oper} {U U':En} {H:A3} {K K':En->A3->Prop} {Q Q':Exit->En->A3->Prop} (hq:isQ o.op=false)
  (h:∀ x ∈ o.op.operands.toList,U.ev x=U'.ev x) (hk:∀ v H',K (U.put n o.dst v) H'->K' (U'.put n o.dst v) H') (hp:∀ c H',Q (.panic c) U H'->Q' (.panic c) U' H')
  (hv:opV n P o U H K Q):opV n P o U' H K' Q':=by
 obtain ⟨dst,op,type,pos,after,guard⟩:=o
 simp only at hq h hk
 unfold opV at hv ⊢
 simp only at hv ⊢
 have quiet:∀ {o:Option Value},o=none->AQ o (fun v=>K (U.put n dst v) H)->False:=by
  intro o ho hs; subst ho; exact hs
 split at hv
 ·rename_i t a x
  rw [<- h a (by simp [Op.operands]),<- h x (by simp [Op.operands])]
  unfold GJ at hv ⊢
  split at hv
  ·rename_i ad ha
   simp only [DU,Aq] at hv ⊢
   obtain ⟨H',hs,hk'⟩:=hv
   exact ⟨H',hs,hk _ _ hk'⟩
  ·exact hv.elim
 ·simp only [Aq] at hv ⊢
  obtain ⟨z,hz,hk'⟩:=hv
  exact ⟨z,hz,hk _ _ hk'⟩
 ·rename_i t x
  rw [<- h x (by simp [Op.operands])]
  exact hk _ _ hv
 ·rename_i t l c
  rw [<- h l (by simp [Op.operands]),<- h c (by simp [Op.operands])]
  simp only [Aq] at hv ⊢
  obtain ⟨z,hz,hk'⟩:=hv
  exact ⟨z,hz,hk _ _ hk'⟩
 ·rename_i t len parts
  have e:(parts.toList.map fun p=>(p.1,U.ev p.2))=parts.toList.map fun p=>(p.1,U'.ev p.2):=by
   apply Zq;intro p hp;rw [h p.2 (by simp only [Op.operands,Ji]; exact ⟨p,hp,rfl⟩)]
  rw [<- e]
  simp only [Aq] at hv ⊢
  obtain ⟨z,hz,hk'⟩:=hv
  exact ⟨z,hz,hk _ _ hk'⟩
 ·exact hk _ _ hv
 ·rename_i t m k x
  rw [<- h m (by simp [Op.operands]),<- h k (by simp [Op.operands]),<- h x (by simp [Op.operands])]
  exact Fs (fun H'=>hk _ H') (fun v H'=>hp _ H') hv
 ·rename_i t m k x
  rw [<- h m (by simp [Op.operands]),<- h k (by simp [Op.operands]),<- h x (by simp [Op.operands])]
  exact Fs (fun H'=>hk _ H') (fun v H'=>hp _ H') hv
 ·rename_i args ats
  split at hv
  ·rename_i t xt s x ht hx
   have hs1:U.ev s=U'.ev s:=h s (by simp [Op.operands,Call.operands]; rw [<- Array.mem_toList_iff,hx]; simp)
   have hx1:U.ev x=U'.ev x:=h x (by simp [Op.operands,Call.operands]; rw [<- Array.mem_toList_iff,hx]; simp)
   simp only [DU] at hv ⊢
   rw [<- hs1,<- hx1]
   exact Lp (fun v H'=>hk _ H') hv
  ·exact hv.elim
 ·rename_i args ats
  have h1:args.toList.map U.ev=args.toList.map U'.ev:=Zq fun x hx=>h x (by simp [Op.operands,Call.operands] at hx ⊢; exact hx)
  rw [<- h1]
  exact B4 P _ _ _ _ _ _ (fun v H' hx=>hk v H' hx) (fun _ _ hx=>hx) hv
 ·rename_i args ats
  have h1:args.toList.map U.ev=args.toList.map U'.ev:=Zq fun x hx=>h x (by simp [Op.operands,Call.operands] at hx ⊢; exact hx)
  rw [<- h1]
  exact B4 P _ _ _ _ _ _ (fun v H' hx=>hk v H' hx) (fun _ _ hx=>hx) hv
 ·rename_i args ats
  have h1:args.toList.map U.ev=args.toList.map U'.ev:=Zq fun x hx=>h x (by simp [Op.operands,Call.operands] at hx ⊢; exact hx)
  rw [<- h1]
  exact B4 P _ _ _ _ _ _ (fun v H' hx=>hk v H' hx) (fun _ _ hx=>hx) hv
 ·rename_i f args ats
  have h1:args.toList.map U.ev=args.toList.map U'.ev:=Zq fun x hx=>h x (by simp [Op.operands,Call.operands] at hx ⊢; exact .inr hx)
  rw [<- h f (by simp [Op.operands,Call.operands]),<- h1]
  unfold EJ at hv ⊢
  split at hv
  ·exact hv.mono (fun v H'=>hk v H') (fun c H'=>hp c H')
  ·exact hv.elim
 ·rename_i r m args ats
  have h1:args.toList.map U.ev=args.toList.map U'.ev:=Zq fun x hx=>h x (by simp [Op.operands,Call.operands] at hx ⊢; exact .inr hx)
  rw [<- h r (by simp [Op.operands,Call.operands]),<- h1]
  exact invW.mono hv (fun v H'=>hk v H') (fun c H'=>hp c H')
 ·rename_i x
  rw [<- h x (by simp [Op.operands])]
  unfold Tr at hv ⊢
  split at hv
  ·exact hp _ _ hv
  ·exact hv.elim
 ·rename_i h1 h2 h3 h4 h5 h6 h9 h10 h7 hu1 hu2 h8 hinv hpan
  exfalso
  refine quiet ?_ hv
  cases op with
  | call c =>
   obtain ⟨callee,args,ats⟩:=c;cases callee with
   | value f=>exact absurd rfl (h8 f args ats)
   | invoke r m=>exact absurd rfl (hinv r m args ats)
   | builtin b=>cases b <;> simp [isQ] at hq <;> first | rfl | exact absurd rfl (h7 args ats) | exact absurd rfl (hu1 args ats) | exact absurd rfl (hu2 args ats)
  | panic x=>exact absurd rfl (hpan x)
  | _=>first | rfl | (simp [isQ] at hq; done)
def Dy (acc:List Nat) (es:List Edge):Nat:=es.foldr (fun e s=>if Region.binds .any e then s ||| 2 ^ e.on ||| acc.getD e.on 0 else s) 0
def Do:List Oper->List Nat->List Nat
 | [],acc=>acc
 | o :: l,acc=>Do l (acc ++ [Dy acc o.after.toList])
def BU (l:List Oper):List Nat:=Do l []
def DC (l:List Oper) (S:Nat->Prop):Prop:=∀ j o,l[j]?=some o->S j->∀ e ∈ o.after.toList,Region.binds .any e=true->S e.on
def Hg (l:List Oper) (S:Nat->Prop) (j:Nat):Prop:=∃ o,l[j]?=some o/\∀ e ∈ o.after.toList,Region.binds .any e=true->S e.on
theorem Oy {acc:List Nat} {i:Nat}:∀ (es:List Edge),(Dy acc es).testBit i=true->∃ e ∈ es,Region.binds .any e=true/\(i=e.on\/(acc.getD e.on 0).testBit i=true):=by
 intro es;induction es with
 | nil=>intro h; simp [Dy] at h
 | cons e es ih =>
  intro h;unfold Dy at h;simp only [List.foldr_cons] at h;split at h
  ·rename_i hb;simp only [Yv,Z9] at h;rcases h with (h | h) | h
   ·obtain ⟨e',he',h'⟩:=ih h;exact ⟨e',Yd _ he',h'⟩
   ·rw [Wx] at h;exact ⟨e,V2,hb,.inl (by simpa using h:e.on=i).symm⟩
   ·exact ⟨e,V2,hb,.inr h⟩
  ·obtain ⟨e',he',h'⟩:=ih h;exact ⟨e',Yd _ he',h'⟩
theorem M6 {l:List Oper} {S:Nat->Prop} (hS:DC l S):∀ (r:List Oper) (k:Nat) (acc:List Nat),acc.length=k->(∀ j,r[j]?=l[k + j]?)->k + r.length=l.length ->
  (∀ j i,j < k->(acc.getD j 0).testBit i=true->Hg l S j->S i) ->
  ∀ j i,((Do r acc).getD j 0).testBit i=true->Hg l S j->S i:=by
 intro r
 induction r with
 | nil =>
  intro k acc hk _ _ hacc j i hb hr;by_cases hj:j < k
  ·exact hacc j i hj hb hr
  ·simp only [Do,Jq] at hb;rw [Jp (by omega)] at hb;simp at hb
 | cons o r ih =>
  intro k acc hk hr hlen hacc j i hb hrd;refine ih (k + 1) (acc ++ [Dy acc o.after.toList]) (by simp [hk]) (fun j=>by have:=hr (j + 1); simpa [Zs,Xo 1] using this) (by simp at hlen; omega) ?_ j i hb hrd;intro j i hj hb hrd;by_cases hjk:j < k
  ·refine hacc j i hjk ?_ hrd;rw [Jq] at hb ⊢;rwa [Jg (by omega)] at hb
  ·have hjk':j=k:=(by omega);subst hjk';rw [Jq,Jf (by omega),hk] at hb;simp only [Yf,Z1,X4] at hb;obtain ⟨e,he,hbe,hor⟩:=Oy _ hb;obtain ⟨o',ho',hall⟩:=hrd;have:o'=o:=(by have:=hr 0; simp at this; rw [<- this] at ho'; simpa using ho'.symm);subst this;have hSe:=hall e he hbe;rcases hor with rfl | hor
   ·exact hSe
   ·by_cases hek:e.on < j
    ·cases hl:l[e.on]? with
     | none =>
      exfalso;have:l.length<=e.on:=(by simpa using hl);omega
     | some oe=>exact hacc e.on i hek hor ⟨oe,hl,fun e' he' hb'=>hS e.on oe hl hSe e' he' hb'⟩
    ·rw [Jq,Jp (by omega)] at hor;simp at hor
theorem BY {l:List Oper} {S:Nat->Prop} (hS:DC l S) {j i:Nat} (hb:((BU l).getD j 0).testBit i=true) (hr:Hg l S j):S i :=
 M6 hS l 0 [] rfl (by simp) (by simp) (by intro j i hj; omega) j i hb hr
def IT:List Operand->List Nat
 | []=>[]
 | .tmp t :: l=>t :: IT l
 | _ :: l=>IT l
theorem L9 {t:Nat}:∀ {l:List Operand},Operand.tmp t ∈ l->t ∈ IT l
 | [],h=>by simp at h
 | x :: l,h=>by
  rcases J7.1 h with h | h
  ·subst h; simp [IT]
  ·have:=L9 h; cases x <;> simp [IT,this]
def Bt (l:List Oper) (i:Nat):Option Nat:=(l[i]?).bind (·.dst)
def touch (l:List Oper) (i:Nat):List Nat :=
 match l[i]? with
 | none=>[]
 | some o=>o.dst.toList ++ IT o.op.operands.toList ++ (match o.guard with | none=>[] | some g=>(Bt l g.1).toList)
def BX (l:List Oper) (i j:Nat):Bool :=
 (match Bt l i with | some d=>(touch l j).contains d | none=>false) || (match Bt l j with | some d=>(touch l i).contains d | none=>false)
def By (l:List Oper) (i:Nat):Bool:=((l[i]?).map fun o=>!isQ o.op).getD false
inductive Plan where
 | fin
 | non
 | look (i:Nat) (f:Bool) (p:Plan)
 | act (i:Nat) (p alt:Plan)
 | actd (i:Nat) (p:Plan)
 | acth (i:Nat) (p:Plan)
def Plan.idxs:Plan->List Nat
 | .act i _ alt=>i :: alt.idxs
 | _=>[]
def BB (m:List Nat) (d i:Nat):Bool:=(m.getD i 0 ||| d) == d && !d.testBit i
def IN (l:List Oper):Bool:=l.zipIdx.all fun x=>x.1.after.toList.all fun e=>!Region.binds .any e || decide (e.on < x.2)
def Ej (l:List Oper) (m:List Nat):Bool:=(List.range l.length).all fun j=>(List.range j).all fun i=>!BX l i j || (m.getD j 0).testBit i
def Kk (l:List Oper) (m:List Nat) (i:Nat):Bool:=(List.range l.length).all fun e=>!By l e || (m.getD i 0).testBit e || (m.getD e 0).testBit i
def Ao (l:List Oper) (m:List Nat):Bool->Nat->Plan->Bool
 | true,d,.fin=>(List.range l.length).all fun i=>d.testBit i
 | true,d,.look i f p=>decide (i < l.length) && !By l i && BB m d i && (!f || Kk l m i) && Ao l m true (d ||| 2 ^ i) p
 | true,d,.act i p alt=>((List.range l.length).all fun k=>!BB m d k || (By l k && (i :: alt.idxs).contains k)) && decide (i < l.length) && By l i && BB m d i && Ao l m true (d ||| 2 ^ i) p && Ao l m false d alt
 | true,d,.actd i p=>((List.range l.length).all fun k=>!BB m d k || (By l k && k == i)) && decide (i < l.length) && By l i && BB m d i && ((List.range l.length).all fun k=>!d.testBit k || By l k || (m.getD i 0).testBit k || Kk l m k) && Ao l m true (d ||| 2 ^ i) p
 | true,d,.acth i p=>((List.range l.length).all fun k=>!BB m d k || (By l k && k == i)) && decide (i < l.length) && By l i && BB m d i && ((List.range l.length).all fun k=>!d.testBit k || By l k || (m.getD i 0).testBit k || Kk l m k) && Ao l m true (d ||| 2 ^ i) p
 | false,_,.non=>true
 | false,d,.act i p alt=>decide (i < l.length) && By l i && BB m d i && Ao l m true (d ||| 2 ^ i) p && Ao l m false d alt
 | _,_,_=>false
def DS (l:List Oper) (p:Plan):Bool:=IN l && Ej l (BU l) && Ao l (BU l) true 0 p
def Al (hl:List (Addr × Value)) (H:A3):Prop:=∀ a v,Ak hl a=some v->A5 H a=some v
theorem HK {hl:List (Addr × Value)} {H:A3} (h:Al hl H):(held hl).of H:=⟨h,fun H' hh=>by simp [held] at hh⟩
def Im (P:Program) (n:Nat) (hl:List (Addr × Value)) (l:List Oper) (o:Oper) (U:En) (K:En->Prop):Prop :=
 match o.guard with
 | none=>AQ (opQ P (held hl) U.ev o.op) fun v=>K (U.put n o.dst v)
 | some (j,want)=>BO (AZ l.toArray U j) want (AQ (opQ P (held hl) U.ev o.op) fun v=>K (U.put n o.dst v)) (K (U.put n o.dst undef))
def Ap (n:Nat) (P:Program) (l:List Oper) (hl:List (Addr × Value)) (Q:Exit->En->A3->Prop) (p:Plan) (U:En) (H:A3):Prop:=match p with
 | .fin=>Q .normal U H
 | .non=>True
 | .actd i p=>match l[i]? with
  | none=>False
  | some o=>opG n P l.toArray o U H (Ap n P l [] Q p) Q
 | .acth i p=>match l[i]? with
  | none=>False
  | some o=>opG n P l.toArray o U H (fun U' H'=>∃ hl',Al hl' H'/\Ap n P l hl' Q p U' H') Q
 | .look i f p=>match l[i]? with
  | none=>False
  | some o=>if f then opG n P l.toArray o U H (Ap n P l hl Q p) Q else Im P n hl l o U fun U'=>Ap n P l hl Q p U' H
 | .act i p alt=>(match l[i]? with
  | none=>False
  | some o=>opG n P l.toArray o U H (fun U' H'=>Al hl H'/\Ap n P l hl Q p U' H') Q)/\Ap n P l hl Q alt U H
def CY (P:Program) (V:HV) (l:List Oper) (o:Oper) (U:En):Option Value :=
 match o.guard with
 | none=>opQ P V U.ev o.op
 | some (j,want)=>if BV (AZ l.toArray U j)=some want then opQ P V U.ev o.op else some undef
theorem LC {l:List Oper} {U U':En} {j:Nat} (h:∀ t ∈ (Bt l j).toList,U.get t=U'.get t):AZ l.toArray U j=AZ l.toArray U' j:=by
 unfold AZ;simp only [Jw];unfold Bt at h;cases hd:(l[j]?).bind (·.dst) with
 | none=>rfl
 | some d=>rw [hd] at h; exact h d (by simp)
theorem Sd {U U':En} {xs:List Operand} (h:∀ t ∈ IT xs,U.get t=U'.get t):∀ x ∈ xs,U.ev x=U'.ev x:=by
 intro x hx;cases x with
 | tmp t=>exact h t (L9 hx)
 | _=>rfl
theorem DW {l:List Oper} {i:Nat} {o:Oper} (ho:l[i]?=some o) {U U':En} (h:∀ t ∈ touch l i,U.get t=U'.get t) :
  (∀ x ∈ o.op.operands.toList,U.ev x=U'.ev x)/\∀ j want,o.guard=some (j,want)->AZ l.toArray U j=AZ l.toArray U' j:=by
 unfold touch at h
 rw [ho] at h
 refine ⟨Sd fun t ht=>h t (by simp [ht]),fun j want hg=>LC fun t ht=>h t ?_⟩
 simp only [hg,Jh]
 exact .inr ht
theorem F9 {P:Program} {V:HV} {l:List Oper} {i:Nat} {o:Oper} (ho:l[i]?=some o) {U U':En} (h:∀ t ∈ touch l i,U.get t=U'.get t):CY P V l o U=CY P V l o U':=by
 obtain ⟨h1,h2⟩:=DW ho h;unfold CY;cases hg:o.guard with
 | none=>exact L5 h1
 | some g =>
  obtain ⟨j,want⟩:=g;simp only;rw [h2 j want hg,L5 h1]
def ES (n:Nat) (l:List Oper) (vals:Nat->Value) (U0:En) (S:Nat->Prop):Nat->En
 | 0=>U0
 | k + 1=>open Classical in if S k then (ES n l vals U0 S k).put n (Bt l k) (vals k) else ES n l vals U0 S k
theorem AU {n:Nat} {U:En} {d:Option Nat} {v:Value} {t:Nat}:(U.put n d v).get t=if d=some t/\t < n then v else U.get t:=by
 cases d with
 | none=>simp [En.put]
 | some d =>
  simp only [En.put,J5];by_cases e:t=d
  ·subst e; simp
  ·have e':¬ d=t:=fun x=>e x.symm;simp [e,e']
theorem DL {n:Nat} {l:List Oper} {vals:Nat->Value} {U0:En} {S:Nat->Prop} {k:Nat} :
  ES n l vals U0 S (k + 1)=open Classical in if S k then (ES n l vals U0 S k).put n (Bt l k) (vals k) else ES n l vals U0 S k:=rfl
theorem Kr {n:Nat} {l:List Oper} {vals:Nat->Value} {U0:En} {S:Nat->Prop}:∀ k,(ES n l vals U0 S k).ds=U0.ds
 | 0=>rfl
 | k + 1=>by
  rw [DL];split
  ·rw [HW]; exact Kr k
  ·exact Kr k
theorem DM {n:Nat} {l:List Oper} {vals vals':Nat->Value} {U0:En} {S S':Nat->Prop} {i t:Nat}
  (h:∀ k,Bt l k=some t->k ≠ i->(k < i↔S k)) (h':∀ k,Bt l k=some t->k ≠ i->(k < i↔S' k)) (hi:¬ S i) (hi':¬ S' i)
  (hv:∀ k,Bt l k=some t->k < i->vals k=vals' k):∀ k,(ES n l vals U0 S k).get t=(ES n l vals' U0 S' k).get t:=by
 intro k
 induction k with
 | zero=>rfl
 | succ k ih =>
  by_cases hd:Bt l k=some t
  ·by_cases hki:k=i
   ·subst hki;simp only [ES,hi,hi',Z3];exact ih
   ·have e1:=h k hd hki;have e2:=h' k hd hki;by_cases hlt:k < i
    ·simp only [ES,e1.1 hlt,e2.1 hlt,Zr];rw [AU,AU,hv k hd hlt,ih]
    ·have n1:¬ S k:=fun x=>hlt (e1.2 x);have n2:¬ S' k:=fun x=>hlt (e2.2 x);simp only [ES,n1,n2,Z3];exact ih
  ·have s1:(ES n l vals U0 S (k + 1)).get t=(ES n l vals U0 S k).get t:=by
    rw [DL]; split
    ·rw [AU,J4 (fun x=>hd x.1)]
    ·rfl
   have s2:(ES n l vals' U0 S' (k + 1)).get t=(ES n l vals' U0 S' k).get t:=by
    rw [DL]; split
    ·rw [AU,J4 (fun x=>hd x.1)]
    ·rfl
   rw [s1,s2,ih]
theorem SF {n:Nat} {l:List Oper} {vals vals':Nat->Value} {U0:En} {S S':Nat->Prop} {i:Nat}
  (hS:∀ k,S' k↔S k\/k=i) (hi:¬ S i) (hv:∀ k,S k->vals' k=vals k)
  (hd:∀ t k,Bt l i=some t->Bt l k=some t->k ≠ i->(k < i↔S k)):∀ (k:Nat),i < k->∀ t,(ES n l vals' U0 S' k).get t=((ES n l vals U0 S k).put n (Bt l i) (vals' i)).get t:=by
 have below:∀ k,k<=i->∀ t,(ES n l vals' U0 S' k).get t=(ES n l vals U0 S k).get t:=by
  intro k;induction k with
  | zero=>intro _ t; rfl
  | succ k ih =>
   intro hk t;have hki:k ≠ i:=(by omega);by_cases hsk:S k
   ·have:S' k:=(hS k).2 (.inl hsk);simp only [ES,hsk,this,Zr];rw [AU,AU,hv k hsk,ih (by omega)]
   ·have:¬ S' k:=fun x=>((hS k).1 x).elim hsk hki;simp only [ES,hsk,this,Z3];exact ih (by omega) t
 intro k
 induction k with
 | zero=>intro h; omega
 | succ k ih =>
  intro hk t;by_cases hki:k=i
  ·subst hki;have:S' k:=(hS k).2 (.inr rfl);simp only [ES,hi,this,Zr,Z3];rw [AU,AU,below k (by omega)]
  ·have hik:i < k:=(by omega);by_cases hsk:S k
   ·have:S' k:=(hS k).2 (.inl hsk);simp only [ES,hsk,this,Zr];rw [AU,AU,AU,hv k hsk,ih hik,AU];by_cases hdk:Bt l k=some t
    ·by_cases hdi:Bt l i=some t
     ·have:=(hd t k hdi hdk hki).2 hsk;omega
     ·simp [hdi]
    ·simp [hdk]
   ·have:¬ S' k:=fun x=>((hS k).1 x).elim hsk hki;simp only [ES,hsk,this,Z3];exact ih hik t
theorem SE {U U':En} (h:∀ t,U.get t=U'.get t) (hd:U.ds=U'.ds):U=U':=by
 cases U; cases U'; simp only [En.mk.injEq]; exact ⟨funext h,hd⟩
theorem NA {n:Nat} {P:Program} {V:HV} {l:List Oper} {i:Nat} {o:Oper} {U:En} {a:Act} {w:World} {v:Value} {K:Act->World->Prop} {Q:Exit->Act->World->Prop}
  (ho:l[i]?=some o) (ha:Ag n a U) (hV:V.of w.heap) (hv:CY P V l o U=some v) (hk:K (a.put o.dst v) w):wpOp P l.toArray Q i K a w:=by
 unfold wpOp
 simp only [Jw,ho]
 have run:opQ P V U.ev o.op=some v->o.wp P a w K Q:=by
  intro h;unfold Oper.wp;rw [ha.ev,Bo P _ w _ (Hv hV h)];exact hk
 unfold CY at hv
 unfold Region.wanted
 cases hg:o.guard with
 | none=>rw [hg] at hv; simp only [Zr]; exact .inl (run hv)
 | some g =>
  obtain ⟨j,want⟩:=g;rw [hg] at hv;simp only [IS ha];simp only at hv;split at hv
  ·rename_i hy;rw [J8 (by rw [hy]; simp)];exact .inl (run hv)
  ·rename_i hy;rw [J4 (by simpa using hy)];simp only [J5] at hv;rw [hv]; exact hk
theorem OH {n:Nat} {P:Program} {l:List Oper} {o:Oper} {U:En} {H:A3} {K:En->A3->Prop} {Q:Exit->En->A3->Prop} (hq:isQ o.op=true)
  (h:opG n P l.toArray o U H K Q):∃ v,CY P (AI H) l o U=some v/\K (U.put n o.dst v) H:=by
 have q:opV n P o U H K Q->∃ v,opQ P (AI H) U.ev o.op=some v/\K (U.put n o.dst v) H:=by
  intro hv;have e:opV n P o U H K Q=AQ (opQ P (AI H) U.ev o.op) fun v=>K (U.put n o.dst v) H:=by
   obtain ⟨dst,op,type,pos,after,guard⟩:=o;cases op with
   | call c =>
    obtain ⟨callee,args,ats⟩:=c;cases callee with
    | value f=>simp [isQ] at hq
    | invoke r m=>simp [isQ] at hq
    | builtin b=>cases b <;> first | rfl | (simp [isQ] at hq; done)
   | _=>first | rfl | (simp [isQ] at hq; done)
  rw [e,Aq] at hv;exact hv
 unfold opG at h
 unfold CY
 cases hg:o.guard with
 | none=>rw [hg] at h; exact q h
 | some g =>
  obtain ⟨j,want⟩:=g;rw [hg] at h;simp only [BO] at h;simp only;generalize AZ l.toArray U j=v at h;cases v with
  | bool b =>
   by_cases hb:b=want
   ·rw [J8 (by simp [BV,hb])]; exact q (h.1 hb)
   ·rw [J4 (by simp [BV,hb])];exact ⟨undef,rfl,h.2 (by cases b <;> cases want <;> simp_all)⟩
  | _=>rw [J4 (by simp [BV])]; exact ⟨undef,rfl,h⟩
theorem F7 {n:Nat} {P:Program} {l:List Oper} {o:Oper} {U:En} {hl:List (Addr × Value)} {K:En->Prop}
  (h:Im P n hl l o U K):∃ v,CY P (held hl) l o U=some v/\K (U.put n o.dst v):=by
 unfold Im at h
 unfold CY
 cases hg:o.guard with
 | none=>rw [hg] at h; exact Aq.1 h
 | some g =>
  obtain ⟨j,want⟩:=g;rw [hg] at h;simp only [BO] at h;simp only;generalize AZ l.toArray U j=v at h;cases v with
  | bool b =>
   by_cases hb:b=want
   ·rw [J8 (by simp [BV,hb])]; exact Aq.1 (h.1 hb)
   ·rw [J4 (by simp [BV,hb])];exact ⟨undef,rfl,h.2 (by cases b <;> cases want <;> simp_all)⟩
  | _=>rw [J4 (by simp [BV])]; exact ⟨undef,rfl,h⟩
theorem E4 {n:Nat} {P:Program} {l:List Oper} {i:Nat} {o:Oper} (ho:l[i]?=some o) {U U':En} {H:A3} {K K':En->A3->Prop} {Q Q':Exit->En->A3->Prop} (hq:isQ o.op=false)
  (h:∀ t ∈ touch l i,U.get t=U'.get t) (hk:∀ v H',K (U.put n o.dst v) H'->K' (U'.put n o.dst v) H') (hp:∀ c H',Q (.panic c) U H'->Q' (.panic c) U' H')
  (hv:opG n P l.toArray o U H K Q):opG n P l.toArray o U' H K' Q':=by
 obtain ⟨h1,h2⟩:=DW ho h
 unfold opG at hv ⊢
 cases hg:o.guard with
 | none=>rw [hg] at hv; exact L2 hq h1 hk hp hv
 | some g =>
  obtain ⟨j,want⟩:=g;rw [hg] at hv;simp only at hv ⊢;rw [<- h2 j want hg];unfold BO at hv ⊢;split at hv
  ·exact ⟨fun e=>L2 hq h1 hk hp (hv.1 e),fun e=>hk _ _ (hv.2 e)⟩
  ·exact hk _ _ hv
def PanOK (Q:Exit->En->A3->Prop):Prop:=∀ c U U' H,U.ds=U'.ds->Q (.panic c) U H->Q (.panic c) U' H
theorem PanOK.seq {K:En->A3->Prop} {Q:Exit->En->A3->Prop} (h:PanOK Q):PanOK (D8 K Q):=h
theorem PanOK.blk {id:Nat} {Q:Exit->En->A3->Prop} (h:PanOK Q):PanOK (I8 id Q):=h
theorem PanOK.ret {P:Program} {rs:List ResultVar} {R:Value->A3->Prop} {E:List PanicEntry->A3->Prop}:PanOK (MU P rs R E):=fun _ _ _ _ hd h=>⟨hd ▸ h.1,h.2⟩
section
variable {l:List Oper}
theorem JQ {i k t:Nat} (ht:t ∈ touch l i) (hk:Bt l k=some t):BX l i k=true/\BX l k i=true:=by
 unfold BX;simp only [hk,Z9,List.contains_iff_mem];exact ⟨.inr (by simpa using ht),.inl (by simpa using ht)⟩
theorem Sf {k t:Nat} (h:Bt l k=some t):k < l.length:=by
 unfold Bt at h;cases hl:l[k]? with
 | none=>simp [hl] at h
 | some o=>exact (J3.1 hl).1
theorem E9 {i t:Nat} (h:Bt l i=some t):t ∈ touch l i:=by
 unfold Bt at h;unfold touch;cases hl:l[i]? with
 | none=>simp [hl] at h
 | some o=>simp only [hl,J0] at h; simp [h]
theorem Hs (h:Ej l (BU l)=true) {i j:Nat} (hij:i < j) (hj:j < l.length) (ho:BX l i j=true):((BU l).getD j 0).testBit i=true:=by
 unfold Ej at h;rw [Jo] at h;have h1:=h j (by simpa using hj);rw [Jo] at h1;have h2:=h1 i (by simpa using hij);rw [ho] at h2;simpa using h2
end
theorem Dz {l:List Oper} (hv:Ej l (BU l)=true) {S:Nat->Prop} (hc:DC l S) {i:Nat} (hr:Hg l S i) (hi:¬ S i)
  {t:Nat} (ht:t ∈ touch l i):∀ k,Bt l k=some t->k ≠ i->(k < i↔S k):=by
 intro k hk hne
 obtain ⟨o1,o2⟩:=JQ ht hk
 have hil:i < l.length:=by obtain ⟨o,ho,_⟩:=hr; exact (J3.1 ho).1
 have hkl:=Sf hk
 by_cases hlt:k < i
 ·exact ⟨fun _=>BY hc (Hs hv hlt hil o2) hr,fun _=>hlt⟩
 ·refine ⟨fun h=>absurd h hlt,fun hs=>absurd ?_ hi⟩
  exact BY hc (Hs hv (by omega) hkl o1) ⟨l[k],by simp [hkl],fun e he hb=>hc k l[k] (by simp [hkl]) hs e he hb⟩
theorem Ox {acc:List Nat} {d:Nat}:∀ (es:List Edge),Dy acc es ||| d=d->∀ e ∈ es,Region.binds .any e=true->d.testBit e.on=true:=by
 intro es;induction es with
 | nil=>intro _ e he; simp at he
 | cons x es ih =>
  intro h e he hb;have bit:∀ i,(Dy acc (x :: es)).testBit i=true->d.testBit i=true:=by
   intro i hi;rw [<- h,Yv,hi]; rfl
  unfold Dy at bit;simp only [List.foldr_cons] at bit;rcases J7.1 he with rfl | he
  ·apply bit;rw [J8 hb,Yv,Yv,Wx];simp
  ·refine ih ?_ e he hb;apply Nat.eq_of_testBit_eq;intro i;rw [Yv];cases hm:(Dy acc es).testBit i with
   | false=>simp
   | true =>
    have:d.testBit i=true:=by
     apply bit;split
     ·rw [Yv,Yv];have:(es.foldr (fun e s=>if Region.binds .any e then s ||| 2 ^ e.on ||| acc.getD e.on 0 else s) 0).testBit i=true:=hm;rw [this]; simp
     ·exact hm
    simp [this]
theorem Ov:∀ (r:List Oper) (acc:List Nat) (j:Nat) (o:Oper),r[j]?=some o->∃ acc',(Do r acc).getD (acc.length + j) 0=Dy acc' o.after.toList:=by
 have keep:∀ (r:List Oper) (acc:List Nat) (k:Nat),k < acc.length->(Do r acc).getD k 0=acc.getD k 0:=by
  intro r;induction r with
  | nil=>intro acc k _; rfl
  | cons o r ih =>
   intro acc k hk;rw [Do,ih _ _ (by simp; omega),Jq,Jg hk,Jq]
 intro r;induction r with
 | nil=>intro acc j o h; simp at h
 | cons x r ih =>
  intro acc j o h;cases j with
  | zero =>
   simp only [Z1,J5] at h;subst h;refine ⟨acc,?_⟩;rw [Do,keep _ _ _ (by simp),Jq,Jf (by simp)];simp
  | succ j =>
   simp only [Ys] at h;obtain ⟨acc',h'⟩:=ih (acc ++ [Dy acc x.after.toList]) j o h;refine ⟨acc',?_⟩;rw [Do];simp only [Jv,Za,Xc] at h';rw [<- h'];congr 1;omega
theorem C7 {l:List Oper} {d i:Nat} (h:BB (BU l) d i=true) (hi:i < l.length):Hg l (fun k=>d.testBit k=true) i/\¬ d.testBit i=true:=by
 unfold BB at h;simp only [Jd,Zm,beq_iff_eq] at h;refine ⟨⟨l[i],by simp [hi],?_⟩,by simp [h.2]⟩;obtain ⟨acc',ha⟩:=Ov l [] i l[i] (by simp [hi]);simp only [Xc,Zv] at ha;have h1:=h.1;unfold BU at h1;rw [ha] at h1;exact fun e he hb=>Ox _ h1 e he hb
theorem FP {l:List Oper} {S:Nat->Prop} {d i:Nat} (hc:DC l S) (hr:Hg l S i) (hs:∀ k,S k->d.testBit k=true) (hi:¬ d.testBit i=true):BB (BU l) d i=true:=by
 unfold BB;simp only [Jd,Zm,beq_iff_eq];refine ⟨?_,by simpa using hi⟩;apply Nat.eq_of_testBit_eq;intro k;rw [Yv];cases hm:((BU l).getD i 0).testBit k with
 | false=>simp
 | true=>simp [hs k (BY hc hm hr)]
theorem BD {d i k:Nat}:(d ||| 2 ^ i).testBit k=true↔(d.testBit k=true\/k=i):=by
 rw [Yv,Wx];simp only [Z9,Jk];constructor
 ·rintro (h | h)
  ·exact .inl h
  ·exact .inr h.symm
 ·rintro (h | h)
  ·exact .inl h
  ·exact .inr h.symm
theorem DB {l:List Oper} {d i:Nat} (hc:DC l (fun k=>d.testBit k=true)) (hr:Hg l (fun k=>d.testBit k=true) i):DC l (fun k=>(d ||| 2 ^ i).testBit k=true):=by
 intro j o hj hs e he hb;rcases BD.1 hs with hs | rfl
 ·exact BD.2 (.inl (hc j o hj hs e he hb))
 ·obtain ⟨o',ho',hall⟩:=hr;rw [hj] at ho';simp only [J5] at ho';subst ho';exact BD.2 (.inl (hall e he hb))
theorem Mx {n:Nat} {l:List Oper} {vals vals':Nat->Value} {U0:En} {S S':Nat->Prop} (hS:∀ k,S k↔S' k) (hv:∀ k,S k->vals k=vals' k):∀ k,ES n l vals U0 S k=ES n l vals' U0 S' k:=by
 intro k;induction k with
 | zero=>rfl
 | succ k ih =>
  rw [DL,DL,ih];by_cases h:S k
  ·rw [J8 h,J8 ((hS k).1 h),hv k h]
  ·rw [J4 h,J4 (fun x=>h ((hS k).2 x))]
section
variable {n:Nat} {P:Program} {l:List Oper} {hl:List (Addr × Value)} {Q:Exit->En->A3->Prop} {U0:En}
theorem E1 (hv:Ej l (BU l)=true) {d i k:Nat} {vals vals':Nat->Value} (hc:DC l (fun k=>d.testBit k=true)) (hk:d.testBit k=true) (hkl:k < l.length) (hi:¬ d.testBit i=true)
  (hvals:∀ j,j ≠ i->vals j=vals' j) {t:Nat} (ht:t ∈ touch l k):(ES n l vals U0 (· < k) l.length).get t=(ES n l vals' U0 (· < k) l.length).get t:=by
 refine DM (i:=k) (fun _ _ _=>Iff.rfl) (fun _ _ _=>Iff.rfl) (by simp) (by simp) (fun j hj hlt=>?_) _
 by_cases e:j=i
 ·exfalso
  subst e
  have hm:=Hs hv hlt hkl (JQ ht hj).2
  exact hi (BY hc hm ⟨l[k],by simp [hkl],fun e he hb=>hc k l[k] (by simp [hkl]) hk e he hb⟩)
 ·exact hvals j e
theorem GV (hv:Ej l (BU l)=true) {d i:Nat} {vals:Nat->Value} {v:Value} {o:Oper} (ho:l[i]?=some o) (hc:DC l (fun k=>d.testBit k=true)) (hr:Hg l (fun k=>d.testBit k=true) i) (hi:¬ d.testBit i=true) :
  ES n l (fun k=>if k=i then v else vals k) U0 (fun k=>(d ||| 2 ^ i).testBit k=true) l.length=(ES n l vals U0 (fun k=>d.testBit k=true) l.length).put n o.dst v:=by
 have hil:i < l.length:=(J3.1 ho).1
 have hdst:Bt l i=o.dst:=by unfold Bt; rw [ho]; rfl
 refine SE (fun t=>?_) (by rw [Kr,HW,Kr])
 have:=SF (n:=n) (l:=l) (vals:=vals) (vals':=fun k=>if k=i then v else vals k) (U0:=U0) (S:=fun k=>d.testBit k=true) (S':=fun k=>(d ||| 2 ^ i).testBit k=true) (i:=i)
  (fun k=>BD) hi (fun k hs=>J4 (fun e=>hi (by rw [<- e]; exact hs))) (fun t k hd hk hne=>Dz hv hc hr hi (E9 hd) k hk hne) l.length hil t
 rw [this,hdst]
 simp
theorem QF {p p':Nat->Bool} {i:Nat} (hi:p i=true) (hi':p' i=false) (h:∀ k,p' k=true->p k=true):∀ {l:List Nat},i ∈ l->l.countP p' < l.countP p:=by
 intro l;induction l with
 | nil=>intro h; simp at h
 | cons x l ih =>
  intro hm;have mono:l.countP p'<=l.countP p:=List.countP_mono_left fun k _ hk=>h k hk;rcases J7.1 hm with rfl | hm
  ·rw [Xm hi,Wi (by simp [hi'])]; omega
  ·have:=ih hm;by_cases hx:p' x=true
   ·rw [Xm hx,Xm (h x hx)]; omega
   ·rw [Wi hx];by_cases hx':p x=true
    ·rw [Xm hx']; omega
    ·rw [Wi hx']; omega
end
section
variable {n:Nat} {P:Program}
theorem Na {o:Oper} {U:En} {H:A3} {K K':En->A3->Prop} {Q Q':Exit->En->A3->Prop} (hk:∀ U H,K U H->K' U H) (hq:∀ e U H,Q e U H->Q' e U H) (hv:opV n P o U H K Q):opV n P o U H K' Q':=by
 obtain ⟨dst,op,type,pos,after,guard⟩:=o;unfold opV at hv ⊢;simp only at hv ⊢;split at hv
 ·unfold GJ at hv ⊢;split at hv
  ·rename_i ad ha;simp only [DU,Aq] at hv ⊢;obtain ⟨H',hs,hk'⟩:=hv;exact ⟨H',hs,hk _ _ hk'⟩
  ·exact hv.elim
 ·simp only [Aq] at hv ⊢;obtain ⟨z,hz,hk'⟩:=hv;exact ⟨z,hz,hk _ _ hk'⟩
 ·exact hk _ _ hv
 ·simp only [Aq] at hv ⊢;obtain ⟨z,hz,hk'⟩:=hv;exact ⟨z,hz,hk _ _ hk'⟩
 ·simp only [Aq] at hv ⊢;obtain ⟨z,hz,hk'⟩:=hv;exact ⟨z,hz,hk _ _ hk'⟩
 ·exact hk _ _ hv
 ·exact Fs (fun H'=>hk _ H') (fun v H'=>hq _ _ H') hv
 ·exact Fs (fun H'=>hk _ H') (fun v H'=>hq _ _ H') hv
 ·rename_i args ats;split at hv
  ·rename_i t xt s x ht hx;simp only [DU] at hv ⊢;exact Lp (fun v H'=>hk _ H') hv
  ·exact hv.elim
 ·exact B4 P _ _ _ _ _ _ (fun v H' hx=>hk _ H' hx) (fun _ _ hx=>hx) hv
 ·exact B4 P _ _ _ _ _ _ (fun v H' hx=>hk _ H' hx) (fun _ _ hx=>hx) hv
 ·exact B4 P _ _ _ _ _ _ (fun v H' hx=>hk _ H' hx) (fun _ _ hx=>hx) hv
 ·unfold EJ at hv ⊢;split at hv
  ·exact hv.mono (fun v H'=>hk _ H') (fun c H'=>hq _ _ H')
  ·exact hv.elim
 ·exact invW.mono hv (fun v H'=>hk _ H') (fun c H'=>hq _ _ H')
 ·unfold Tr at hv ⊢;split at hv
  ·exact hq _ _ _ hv
  ·exact hv.elim
 ·simp only [Aq] at hv ⊢;obtain ⟨z,hz,hk'⟩:=hv;exact ⟨z,hz,hk _ _ hk'⟩
theorem CL {ops:Array Oper} {o:Oper} {U:En} {H:A3} {K K':En->A3->Prop} {Q Q':Exit->En->A3->Prop} (hk:∀ U H,K U H->K' U H) (hq:∀ e U H,Q e U H->Q' e U H) (h:opG n P ops o U H K Q):opG n P ops o U H K' Q':=by
 unfold opG at h ⊢;cases hg:o.guard with
 | none=>rw [hg] at h; exact Na hk hq h
 | some g =>
  obtain ⟨j,want⟩:=g;rw [hg] at h;simp only [BO] at h ⊢;cases hv:AZ ops U j with
  | bool b=>rw [hv] at h; exact ⟨fun e=>Na hk hq (h.1 e),fun e=>hk _ _ (h.2 e)⟩
  | _=>rw [hv] at h; exact hk _ _ h
end
end Go.HL
namespace Go.Run
open Go.HL
abbrev EO (o:Oper):Bool:=match o.op,o.guard with
 | .alloc _,none=>true
 | .makeSlice _ _ _,none=>true
 | .buildSlice _ _ _,none=>true
 | _,_=>false
def XG:Op->Bool
 | .alloc _=>true
 | .makeSlice _ _ _=>true
 | .buildSlice _ _ _=>true
 | _=>false
theorem DF {o:Oper} (h:EO o=true):o.guard=none/\XG o.op=true:=by
 obtain ⟨dst,op,type,pos,after,guard⟩:=o;cases guard with
 | none=>refine ⟨rfl,?_⟩; cases op <;> first | rfl | cases h
 | some g=>cases op <;> cases h
inductive Plan where
 | fin
 | non
 | look (i:Nat) (f:Bool) (p:Plan)
 | lookx (i:Nat) (p:Plan)
 | lookp (i:Nat) (p:Plan)
 | act (i:Nat) (p alt:Plan)
 | actd (i:Nat) (p:Plan)
 | acth (i:Nat) (p:Plan)
def Plan.idxs:Plan->List Nat
 | .act i _ alt=>i :: alt.idxs
 | _=>[]
def Plan.yj:Plan->List Nat
 | .look _ _ p=>p.yj
 | .lookx _ p=>p.yj
 | .lookp i p=>i :: p.yj
 | .act _ p a=>p.yj ++ a.yj
 | .actd _ p=>p.yj
 | .acth _ p=>p.yj
 | _=>[]
def Ev (ps:List Nat) (l:List Oper) (i:Nat):Bool:=By l i && !ps.contains i
theorem Mi {ps:List Nat} {l:List Oper} {i:Nat} (h:Ev ps l i=true):By l i=true/\ps.contains i=false:=by
 unfold Ev at h;simpa using h
def Kj (ps:List Nat) (l:List Oper) (m:List Nat) (i:Nat):Bool:=(List.range l.length).all fun e=>!Ev ps l e || (m.getD i 0).testBit e || (m.getD e 0).testBit i
def KE (l:List Oper) (i:Nat):Bool:=match l[i]? with
 | some o=>EO o
 | none=>false
def Sk (ps:List Nat) (l:List Oper) (m:List Nat) (i:Nat):Bool:=(List.range l.length).all fun e=>!Ev ps l e || ((m.getD i 0).testBit e || (m.getD e 0).testBit i || KE l e)
def Ext (H H':A3):Prop:=∀ (r:Nat) (o:Obj),H[r]?=some o->H'[r]?=some o
theorem Ext.refl (H:A3):Ext H H:=fun _ _ h=>h
theorem Ext.trans {H H' H'':A3} (h:Ext H H') (h':Ext H' H''):Ext H H'':=fun r o ho=>h' r o (h r o ho)
theorem Ext.push (H:A3) (o:Obj):Ext H (H.push o):=fun r x hx=>by
 rw [Yh (Z8.1 hx).1,<- Zd (Z8.1 hx).1]; exact hx
theorem Ext.cell {H H':A3} (h:Ext H H') {a:Addr} {v:Value} (hv:A5 H a=some v):A5 H' a=some v:=by
 unfold A5 at hv ⊢;cases ho:H[a.block]? with
 | none=>rw [ho] at hv; cases hv
 | some o=>rw [ho] at hv; rw [h _ _ ho]; exact hv
theorem Ext.makeV {P:Program} {H H':A3} {t:TypeId} {l c v:Value} (h:makeV P H t l c=some (v,H')):Ext H H':=by
 unfold HL.makeV at h;split at h
 ·simp only [Zb] at h;obtain ⟨_,_,_,_,_,_,z,_,h⟩:=h;split at h
  ·simp only [J5,Jx] at h; rw [<- h.2]; exact Ext.push _ _
  ·cases h
 ·cases h
theorem Ext.buildSliceV {P:Program} {H H':A3} {t:TypeId} {len:Nat} {parts:List (Nat × Value)} {v:Value} (h:buildSliceV P H t len parts=some (v,H')):Ext H H':=by
 unfold HL.buildSliceV at h;simp only [Zb] at h;obtain ⟨_,_,_,_,z,_,h⟩:=h;split at h
 ·simp only [Zj,Jx] at h;obtain ⟨_,_,_,h⟩:=h;rw [<- h]; exact Ext.push _ _
 ·cases h
theorem WL {n:Nat} {P:Program} {l:List Oper} {o:Oper} {U:En} {H:A3} {K:En->A3->Prop} {Q:Exit->En->A3->Prop} (h:opG n P l.toArray o U H K Q) :
  opG n P l.toArray o U H (fun U' H'=>K U' H'/\(EO o=true->Ext H H')) Q:=by
 cases hf:EO o with
 | false=>exact CL (fun _ _ h=>⟨h,fun e=>by cases e⟩) (fun _ _ _ h=>h) h
 | true =>
  obtain ⟨hg,ho⟩:=DF hf;unfold opG at h ⊢;rw [hg] at h ⊢;obtain ⟨dst,op,type,pos,after,guard⟩:=o;cases op with
  | alloc t =>
   have h:AQ (AD P t) _:=h;obtain ⟨z,hz,hk⟩:=Aq.1 h;exact Aq.2 ⟨z,hz,hk,fun _=>Ext.push _ _⟩
  | makeSlice t l c =>
   have h:AQ (makeV P H t (U.ev l) (U.ev c)) _:=h;obtain ⟨z,hz,hk⟩:=Aq.1 h;exact Aq.2 ⟨z,hz,hk,fun _=>Ext.makeV hz⟩
  | buildSlice t len parts =>
   have h:AQ (buildSliceV P H t len (parts.toList.map fun p=>(p.1,U.ev p.2))) _:=h;obtain ⟨z,hz,hk⟩:=Aq.1 h;exact Aq.2 ⟨z,hz,hk,fun _=>Ext.buildSliceV hz⟩
  | _=>cases ho
def Ao (ps:List Nat) (l:List Oper) (m:List Nat):Bool->Nat->Plan->Bool
 | true,d,.fin=>(List.range l.length).all fun i=>d.testBit i
 | true,d,.look i f p=>decide (i < l.length) && !By l i && BB m d i && (!f || Kj ps l m i) && Ao ps l m true (d ||| 2 ^ i) p
 | true,d,.lookx i p=>decide (i < l.length) && !By l i && BB m d i && Sk ps l m i && Ao ps l m true (d ||| 2 ^ i) p
 | true,d,.lookp i p=>decide (i < l.length) && By l i && BB m d i && ps.contains i && Ao ps l m true (d ||| 2 ^ i) p
 | true,d,.act i p alt=>((List.range l.length).all fun k=>!BB m d k || (Ev ps l k && (i :: alt.idxs).contains k)) && decide (i < l.length) && Ev ps l i && BB m d i && Ao ps l m true (d ||| 2 ^ i) p && Ao ps l m false d alt
 | true,d,.acth i p=>((List.range l.length).all fun k=>!BB m d k || (Ev ps l k && k == i)) && decide (i < l.length) && Ev ps l i && BB m d i && ((List.range l.length).all fun k=>!d.testBit k || By l k || (m.getD i 0).testBit k || Kj ps l m k) && Ao ps l m true (d ||| 2 ^ i) p
 | false,_,.non=>true
 | false,d,.act i p alt=>decide (i < l.length) && Ev ps l i && BB m d i && Ao ps l m true (d ||| 2 ^ i) p && Ao ps l m false d alt
 | _,_,_=>false
def DS (l:List Oper) (p:Plan):Bool:=IN l && Ej l (BU l) && Ao p.yj l (BU l) true 0 p
def LookH (P:Program) (l:List Oper) (hl:A3->Prop) (o:Oper) (U:En) (v:Value):Prop:=∀ H,hl H->∃ V:HV,V.of H/\CY P V l o U=some v
theorem LookH.sub {P:Program} {l:List Oper} {hl hl':A3->Prop} {o:Oper} {U:En} {v:Value} (h:LookH P l hl o U v) (hs:∀ H,hl' H->hl H):LookH P l hl' o U v:=fun H hh=>h H (hs H hh)
def NZ (n:Nat) (P:Program) (l:List Oper) (o:Oper) (U:En) (v:Value):Prop:=∀ H,opG n P l.toArray o U H (fun U' H'=>U'=U.put n o.dst v/\H'=H) (fun _ _ _=>False)
def Ap (n:Nat) (P:Program) (l:List Oper) (hl:A3->Prop) (Q:Exit->En->A3->Prop) (p:Plan) (U:En) (H:A3):Prop:=match p with
 | .fin=>Q .normal U H
 | .non=>True
 | .actd i p=>match l[i]? with
  | none=>False
  | some o=>opG n P l.toArray o U H (Ap n P l (fun _=>True) Q p) Q
 | .acth i p=>match l[i]? with
  | none=>False
  | some o=>opG n P l.toArray o U H (fun U' H'=>∃ hl',hl' H'/\Ap n P l hl' Q p U' H') Q
 | .look i f p=>match l[i]? with
  | none=>False
  | some o=>if f then opG n P l.toArray o U H (Ap n P l hl Q p) Q else ∃ v,LookH P l hl o U v/\Ap n P l hl Q p (U.put n o.dst v) H
 | .lookx i p=>match l[i]? with
  | none=>False
  | some o=>∃ v,(∀ H',Ext H H'->CY P (AI H') l o U=some v)/\Ap n P l hl Q p (U.put n o.dst v) H
 | .lookp i p=>match l[i]? with
  | none=>False
  | some o=>isQ o.op=false/\∃ v,NZ n P l o U v/\Ap n P l hl Q p (U.put n o.dst v) H
 | .act i p alt=>(match l[i]? with
  | none=>False
  | some o=>opG n P l.toArray o U H (fun U' H'=>∃ hl',(∀ H,hl' H->hl H)/\hl' H'/\Ap n P l hl' Q p U' H') Q)/\Ap n P l hl Q alt U H
def OE:Plan->Prop
 | .look _ _ _=>False
 | .lookx _ _=>False
 | .lookp _ _=>False
 | _=>True
def PV (ps:List Nat) (n:Nat) (P:Program) (l:List Oper) (hl:A3->Prop) (H:A3) (k:Nat) (o:Oper) (Ui:En) (v:Value) (f:Option (Option Bool)):Prop:=match f with
 | some (some true)=>isQ o.op=true/\Kj ps l (BU l) k=true/\CY P (AI H) l o Ui=some v
 | some (some false)=>isQ o.op=true/\LookH P l hl o Ui v
 | some none=>isQ o.op=true/\Sk ps l (BU l) k=true/\∀ H',Ext H H'->CY P (AI H') l o Ui=some v
 | none=>isQ o.op=false/\NZ n P l o Ui v
theorem JL {n:Nat} {e e0:En} {d:Option Nat} {v r:Value} (h:e0.put n d v=e0.put n d r):e.put n d v=e.put n d r:=by
 cases d with
 | none=>rfl
 | some d =>
  have:=congrFun (congrArg En.get h) d;rw [AU,AU] at this;by_cases hdn:d < n
  ·rw [J8 ⟨rfl,hdn⟩,J8 ⟨rfl,hdn⟩] at this; rw [this]
  ·simp only [En.put];congr 1;funext t;rw [J4,J4] <;> (rintro ⟨rfl,h⟩; exact hdn h)
section
variable {ps:List Nat} {n:Nat} {P:Program} {l:List Oper} {hl:A3->Prop} {Q:Exit->En->A3->Prop} {U0:En}
structure DSt (ps:List Nat) (n:Nat) (P:Program) (l:List Oper) (hl:A3->Prop) (Q:Exit->En->A3->Prop) (U0:En) (S:Nat->Prop) (U:En) (H:A3)
  (vals:Nat->Value) (fl:Nat->Option (Option Bool)) (d:Nat) (p:Plan):Prop where
 ok:Ao ps l (BU l) true d p=true
 closed:DC l (fun k=>d.testBit k=true)
 env:∀ t,U.get t=(ES n l vals U0 S l.length).get t
 sub:∀ k,S k->d.testBit k=true
 eff:∀ k,d.testBit k=true->Ev ps l k=true->S k
 pend:∀ k,d.testBit k=true->¬ S k->∃ o Ui,l[k]?=some o/\PV ps n P l hl H k o Ui (vals k) (fl k)/\∀ t ∈ touch l k,Ui.get t=(ES n l vals U0 (· < k) l.length).get t
 cont:Ap n P l hl Q p (ES n l vals U0 (fun k=>d.testBit k=true) l.length) H
theorem Mw (hv:Ej l (BU l)=true) {S:Nat->Prop} {U:En} {H:A3}:∀ (p:Plan) (d:Nat) (fl:Nat->Option (Option Bool)) (vals:Nat->Value),
  DSt ps n P l hl Q U0 S U H vals fl d p->∃ vals' fl' d' p',DSt ps n P l hl Q U0 S U H vals' fl' d' p'/\OE p':=by
 intro p
 induction p with
 | fin=>intro d fl vals h; exact ⟨vals,fl,d,.fin,h,trivial⟩
 | non=>intro d fl vals h; exact ⟨vals,fl,d,.non,h,trivial⟩
 | act i p alt _ _=>intro d fl vals h; exact ⟨vals,fl,d,.act i p alt,h,trivial⟩
 | actd i p _=>intro d fl vals h; exact ⟨vals,fl,d,.actd i p,h,trivial⟩
 | acth i p _=>intro d fl vals h; exact ⟨vals,fl,d,.acth i p,h,trivial⟩
 | look i f p ih =>
  intro d fl vals h;have hok:=h.ok;simp only [Ao,Jd,Jk,Zm,Z9] at hok;obtain ⟨⟨⟨⟨hil,heff⟩,hrm⟩,hcomp⟩,hok'⟩:=hok;obtain ⟨hr,hi⟩:=C7 hrm hil;have hc:=h.cont;unfold Ap at hc;have ho:l[i]?=some l[i]:=(by simp [hil]);generalize l[i]=o at ho;rw [ho] at hc;have hq:isQ o.op=true:=by
   unfold By at heff;rw [ho] at heff;simpa using heff
  have hns:¬ S i:=fun hs=>hi (h.sub _ hs);have key:∃ v,PV ps n P l hl H i o (ES n l vals U0 (fun k=>d.testBit k=true) l.length) v (some (some f))/\Ap n P l hl Q p ((ES n l vals U0 (fun k=>d.testBit k=true) l.length).put n o.dst v) H:=by
   cases f with
   | true =>
    obtain ⟨v,h1,h2⟩:=OH hq hc;refine ⟨v,⟨hq,?_,h1⟩,h2⟩;rcases hcomp with hcomp | hcomp
    ·simp at hcomp
    ·exact hcomp
   | false=>obtain ⟨v,h1,h2⟩:=hc; exact ⟨v,⟨hq,h1⟩,h2⟩
  obtain ⟨v,hev,hk⟩:=key;refine ih (d ||| 2 ^ i) (fun k=>if k=i then some (some f) else fl k) (fun k=>if k=i then v else vals k) ?_;refine { ok:=hok',closed:=DB h.closed hr,env:=?_,sub:=fun k hs=>BD.2 (.inl (h.sub k hs)),eff:=?_,pend:=?_,cont:=?_ }
  ·intro t;rw [h.env t,Mx (S':=S) (vals':=fun k=>if k=i then v else vals k) (fun _=>Iff.rfl) (fun k hs=>by have hne:k ≠ i:=(fun e=>hns (by rw [<- e]; exact hs)); rw [J4 hne])]
  ·intro k hk' he;rcases BD.1 hk' with hk' | rfl
   ·exact h.eff k hk' he
   ·have:=(Mi he).1; rw [heff] at this; simp at this
  ·intro k hk' hnk;rcases BD.1 hk' with hk' | rfl
   ·obtain ⟨o',Ui,h1,h3,h4⟩:=h.pend k hk' hnk;have hki:k ≠ i:=fun e=>hi (by rw [<- e]; exact hk');refine ⟨o',Ui,h1,by rw [J4 hki,J4 hki]; exact h3,fun t ht=>?_⟩;rw [h4 t ht];exact E1 hv h.closed hk' (J3.1 h1).1 hi (fun j hj=>by rw [J4 hj]) ht
   ·refine ⟨o,ES n l vals U0 (fun k=>d.testBit k=true) l.length,ho,?_,fun t ht=>?_⟩
    ·rw [J8 rfl,J8 rfl];exact hev
    ·refine DM (i:=k) (Dz hv h.closed hr hi ht) (fun j _ _=>Iff.rfl) hi (by simp) (fun j _ hlt=>?_) _;rw [J4 (by omega)]
  ·rw [GV hv ho h.closed hr hi];exact hk
 | lookx i p ih =>
  intro d fl vals h;have hok:=h.ok;simp only [Ao,Jd,Jk,Zm,Z9] at hok;obtain ⟨⟨⟨⟨hil,heff⟩,hrm⟩,hcomp⟩,hok'⟩:=hok;obtain ⟨hr,hi⟩:=C7 hrm hil;have hc:=h.cont;unfold Ap at hc;have ho:l[i]?=some l[i]:=(by simp [hil]);generalize l[i]=o at ho;rw [ho] at hc;have hq:isQ o.op=true:=by
   unfold By at heff;rw [ho] at heff;simpa using heff
  have hns:¬ S i:=fun hs=>hi (h.sub _ hs);obtain ⟨v,hev,hk⟩:=hc;refine ih (d ||| 2 ^ i) (fun k=>if k=i then some none else fl k) (fun k=>if k=i then v else vals k) ?_;refine { ok:=hok',closed:=DB h.closed hr,env:=?_,sub:=fun k hs=>BD.2 (.inl (h.sub k hs)),eff:=?_,pend:=?_,cont:=?_ }
  ·intro t;rw [h.env t,Mx (S':=S) (vals':=fun k=>if k=i then v else vals k) (fun _=>Iff.rfl) (fun k hs=>by have hne:k ≠ i:=(fun e=>hns (by rw [<- e]; exact hs)); rw [J4 hne])]
  ·intro k hk' he;rcases BD.1 hk' with hk' | rfl
   ·exact h.eff k hk' he
   ·have:=(Mi he).1; rw [heff] at this; simp at this
  ·intro k hk' hnk;rcases BD.1 hk' with hk' | rfl
   ·obtain ⟨o',Ui,h1,h3,h4⟩:=h.pend k hk' hnk;have hki:k ≠ i:=fun e=>hi (by rw [<- e]; exact hk');refine ⟨o',Ui,h1,by rw [J4 hki,J4 hki]; exact h3,fun t ht=>?_⟩;rw [h4 t ht];exact E1 hv h.closed hk' (J3.1 h1).1 hi (fun j hj=>by rw [J4 hj]) ht
   ·refine ⟨o,ES n l vals U0 (fun k=>d.testBit k=true) l.length,ho,?_,fun t ht=>?_⟩
    ·rw [J8 rfl,J8 rfl];exact ⟨hq,hcomp,hev⟩
    ·refine DM (i:=k) (Dz hv h.closed hr hi ht) (fun j _ _=>Iff.rfl) hi (by simp) (fun j _ hlt=>?_) _;rw [J4 (by omega)]
  ·rw [GV hv ho h.closed hr hi];exact hk
 | lookp i p ih =>
  intro d fl vals h;have hok:=h.ok;simp only [Ao,Jd,Jk,Zm,Z9] at hok;obtain ⟨⟨⟨⟨hil,heff⟩,hrm⟩,hcomp⟩,hok'⟩:=hok;obtain ⟨hr,hi⟩:=C7 hrm hil;have hc:=h.cont;unfold Ap at hc;have ho:l[i]?=some l[i]:=(by simp [hil]);generalize l[i]=o at ho;rw [ho] at hc;have hns:¬ S i:=fun hs=>hi (h.sub _ hs);obtain ⟨hq,v,hev,hk⟩:=hc;refine ih (d ||| 2 ^ i) (fun k=>if k=i then none else fl k) (fun k=>if k=i then v else vals k) ?_;refine { ok:=hok',closed:=DB h.closed hr,env:=?_,sub:=fun k hs=>BD.2 (.inl (h.sub k hs)),eff:=?_,pend:=?_,cont:=?_ }
  ·intro t;rw [h.env t,Mx (S':=S) (vals':=fun k=>if k=i then v else vals k) (fun _=>Iff.rfl) (fun k hs=>by have hne:k ≠ i:=(fun e=>hns (by rw [<- e]; exact hs)); rw [J4 hne])]
  ·intro k hk' he;rcases BD.1 hk' with hk' | rfl
   ·exact h.eff k hk' he
   ·have:=(Mi he).2; rw [hcomp] at this; simp at this
  ·intro k hk' hnk;rcases BD.1 hk' with hk' | rfl
   ·obtain ⟨o',Ui,h1,h3,h4⟩:=h.pend k hk' hnk;have hki:k ≠ i:=fun e=>hi (by rw [<- e]; exact hk');refine ⟨o',Ui,h1,by rw [J4 hki,J4 hki]; exact h3,fun t ht=>?_⟩;rw [h4 t ht];exact E1 hv h.closed hk' (J3.1 h1).1 hi (fun j hj=>by rw [J4 hj]) ht
   ·refine ⟨o,ES n l vals U0 (fun k=>d.testBit k=true) l.length,ho,?_,fun t ht=>?_⟩
    ·rw [J8 rfl,J8 rfl];exact ⟨hq,hev⟩
    ·refine DM (i:=k) (Dz hv h.closed hr hi ht) (fun j _ _=>Iff.rfl) hi (by simp) (fun j _ hlt=>?_) _;rw [J4 (by omega)]
  ·rw [GV hv ho h.closed hr hi];exact hk
theorem OT {d i:Nat}:∀ (p:Plan),i ∈ p.idxs->∀ U H,Ap n P l hl Q p U H->(∀ j q alt,p=.act j q alt->decide (j < l.length)=true/\Ev ps l j=true/\BB (BU l) d j=true/\Ao ps l (BU l) true (d ||| 2 ^ j) q=true/\Ao ps l (BU l) false d alt=true) ->
  ∃ q o,l[i]?=some o/\Ao ps l (BU l) true (d ||| 2 ^ i) q=true/\opG n P l.toArray o U H (fun U' H'=>∃ hl',(∀ H,hl' H->hl H)/\hl' H'/\Ap n P l hl' Q q U' H') Q:=by
 intro p
 induction p with
 | act j q alt _ ih =>
  intro hi U H hw hok;obtain ⟨h1,_,_,h4,h5⟩:=hok j q alt rfl;unfold Ap at hw;simp only [Plan.idxs,J7] at hi;by_cases hij:i=j
  ·subst hij;have hil:i < l.length:=(by simpa using h1);have ho:l[i]?=some l[i]:=(by simp [hil]);refine ⟨q,l[i],ho,h4,?_⟩;have:=hw.1;rw [ho] at this;exact this
  ·refine ih (by rcases hi with hi | hi; exact absurd hi hij; exact hi) U H hw.2 ?_;rintro j' q' alt' rfl;simp only [Ao,Jd] at h5;obtain ⟨⟨⟨⟨g1,g2⟩,g3⟩,g4⟩,g5⟩:=h5;exact ⟨g1,g2,g3,g4,g5⟩
 | _=>intro hi; simp [Plan.idxs] at hi
theorem QD (hpan:PanOK Q) (hv:Ej l (BU l)=true) (hedge:IN l=true) {w0:World}:∀ (fuel:Nat) (hl:A3->Prop) (listed:Array Bool) (U:En) (w:World) (a:Act)
  (vals:Nat->Value) (fl:Nat->Option (Option Bool)) (d:Nat) (p:Plan),listed.size=l.length->(List.range l.length).countP (fun k=>!listed.getD k false)<=fuel->HL.Rest w0 w->Ag n a U->U.ds=U0.ds->hl w.heap ->
  DC l (fun k=>listed.getD k false=true)->DSt ps n P l hl Q U0 (fun k=>listed.getD k false=true) U w.heap vals fl d p->OE p ->
  wpAny P .any l.toArray (upQ n w0 Q) fuel listed a w:=by
 have ready_of:∀ (listed:Array Bool) (i:Nat),listed.size=l.length->i ∈ Region.ready .any l.toArray listed->Hg l (fun k=>listed.getD k false=true) i/\¬ listed.getD i false=true/\i < l.length:=by
  intro listed i hs hi;unfold Region.ready at hi;simp only [Xe,Xy,Wr,Jw,Jd,Zm] at hi;obtain ⟨hil,hlist,hafter⟩:=hi;refine ⟨⟨l[i],by simp [hil],?_⟩,?_,hil⟩
  ·rw [show l[i]?=some l[i] from by simp [hil]] at hafter;simp only [Ju,X4,Array.all_eq_true] at hafter;intro e he hb;obtain ⟨j,hj,hje⟩:=List.getElem_of_mem he;have:=hafter j (by simpa using hj);simp only [Array.getElem_toList] at hje;rw [hje,hb] at this;simpa using this
  ·rw [Jn] at hlist ⊢;rw [Zd (by omega)] at hlist ⊢;simp only [X4] at hlist ⊢;simp [hlist]
 have finish:∀ (hl:A3->Prop) (listed:Array Bool) (U:En) (w:World) (a:Act) (vals:Nat->Value) (fl:Nat->Option (Option Bool)) (d:Nat) (p:Plan),listed.size=l.length->HL.Rest w0 w->Ag n a U->U.ds=U0.ds ->
   DSt ps n P l hl Q U0 (fun k=>listed.getD k false=true) U w.heap vals fl d p->OE p->(∀ k,k < l.length->listed.getD k false=true)->upQ n w0 Q .normal a w:=by
  intro hl listed U w a vals fl d p hs hr ha hds hst hhead hfull
  have hfin:p=.fin:=by
   have hok:=hst.ok;cases p with
   | fin=>rfl
   | non=>simp [Ao] at hok
   | look i f q=>exact hhead.elim
   | lookx i q=>exact hhead.elim
   | lookp i q=>exact hhead.elim
   | act i q alt =>
    exfalso;simp only [Ao,Jd,Jk] at hok;obtain ⟨⟨⟨⟨⟨_,hil⟩,_⟩,hrm⟩,_⟩,_⟩:=hok;exact (C7 hrm hil).2 (hst.sub i (hfull i hil))
   | actd i q=>simp [Ao] at hok
   | acth i q =>
    exfalso;simp only [Ao,Jd,Jk] at hok;obtain ⟨⟨⟨⟨⟨_,hil⟩,_⟩,hrm⟩,_⟩,_⟩:=hok;exact (C7 hrm hil).2 (hst.sub i (hfull i hil))
  subst hfin
  have hc:=hst.cont
  refine ⟨hr,U,ha,?_⟩
  have e:U=ES n l vals U0 (fun k=>d.testBit k=true) l.length:=by
   refine SE (fun t=>?_) (by rw [Kr]; exact hds);rw [hst.env t];have eq:∀ k,k<=l.length->(ES n l vals U0 (fun k=>listed.getD k false=true) k)=ES n l vals U0 (fun k=>d.testBit k=true) k:=by
    intro k;induction k with
    | zero=>intro _; rfl
    | succ k ih =>
     intro hk;have h1:=hfull k (by omega);rw [DL,DL,J8 h1,J8 (hst.sub k h1),ih (by omega)]
   rw [eq l.length (Jb _)]
  rw [e]
  exact hc
 have stuck0:∀ (listed:Array Bool),listed.size=l.length->Region.ready .any l.toArray listed = []->∀ k,k < l.length->listed.getD k false=true:=by
  intro listed hs hr k;induction k using Nat.strongRecOn with
  | _ k ih =>
   intro hk;cases hb:listed.getD k false with
   | true=>rfl
   | false =>
    exfalso;have:k ∈ Region.ready .any l.toArray listed:=by
     unfold Region.ready;simp only [Xe,Xy,Wr,Jw,Jd,Zm];refine ⟨hk,?_,?_⟩
     ·rw [Jn,Zd (by omega)] at hb ⊢;exact hb
     ·rw [show l[k]?=some l[k] from by simp [hk]];simp only [Ju,X4,Array.all_eq_true];intro j hj;cases hbe:Region.binds .any (l[k].after[j]) with
      | false=>simp
      | true =>
       simp only [X2,Wg];have hed:=hedge;unfold IN at hed;rw [Jo] at hed;have h1:=hed (l[k],k) (by rw [List.mem_zipIdx_iff_getElem?]; simp [hk]);rw [Jo] at h1;have h2:=h1 (l[k].after[j]) (by simp);rw [hbe] at h2;have h3:(l[k].after[j]).on < k:=(by simpa using h2);exact ih _ h3 (by omega)
    rw [hr] at this;simp at this
 intro fuel
 induction fuel with
 | zero =>
  intro hl listed U w a vals fl d p hs hcnt hr ha hds hh hc hst hhead;have hfull:∀ k,k < l.length->listed.getD k false=true:=by
   intro k hk;have h0:(List.range l.length).countP (fun k=>!listed.getD k false)=0:=(by omega);rw [W1] at h0;simpa using h0 k (by simpa using hk)
  refine ⟨?_,finish hl listed U w a vals fl d p hs hr ha hds hst hhead hfull⟩;cases hrd:Region.ready .any l.toArray listed with
  | nil=>rfl
  | cons i r =>
   exfalso;obtain ⟨_,h2,h3⟩:=ready_of listed i hs (by rw [hrd]; simp);exact h2 (hfull i h3)
 | succ fuel ih =>
  intro hl listed U w a vals fl d p hs hcnt hr ha hds hh hc hst hhead;refine ⟨fun hrd=>finish hl listed U w a vals fl d p hs hr ha hds hst hhead (stuck0 listed hs hrd),fun i hi=>?_⟩;obtain ⟨hrdy,hni,hil⟩:=ready_of listed i hs hi;have hset:∀ k,(listed.setIfInBounds i true).getD k false=true↔(listed.getD k false=true\/k=i):=by
   intro k;rw [Jn,Jt,Jn];by_cases e:i=k
   ·subst e; simp [hs,hil]
   ·have e':¬ k=i:=fun x=>e x.symm;simp [e,e']
  have hcnt':(List.range l.length).countP (fun k=>!(listed.setIfInBounds i true).getD k false)<=fuel:=by
   have:=QF (p:=fun k=>!listed.getD k false) (p':=fun k=>!(listed.setIfInBounds i true).getD k false) (i:=i) (by simpa using hni)
    (by have:=(hset i).2 (.inr rfl); simp [this]) (fun k hk=>by
     cases hb:listed.getD k false with
     | false=>rfl
     | true=>have:=(hset k).2 (.inl hb); simp [this] at hk) (l:=List.range l.length) (by simpa using hil)
   omega
  have hc':DC l (fun k=>(listed.setIfInBounds i true).getD k false=true):=by
   intro j o hj hs' e he hb;rcases (hset j).1 hs' with hs' | rfl
   ·exact (hset _).2 (.inl (hc j o hj hs' e he hb))
   ·obtain ⟨o',ho',hall'⟩:=hrdy;rw [hj] at ho';simp only [J5] at ho';subst ho';exact (hset _).2 (.inl (hall' e he hb))
  have hs':(listed.setIfInBounds i true).size=l.length:=(by simpa using hs);obtain ⟨o,ho,_⟩:=id hrdy;have hdst:Bt l i=o.dst:=(by unfold Bt; rw [ho]; rfl);have henv:∀ (vals':Nat->Value),(∀ k,k ≠ i->vals' k=vals k)->∀ t,(U.put n o.dst (vals' i)).get t=(ES n l vals' U0 (fun k=>(listed.setIfInBounds i true).getD k false=true) l.length).get t:=by
   intro vals' hvals t;have:=SF (n:=n) (l:=l) (vals:=vals) (vals':=vals') (U0:=U0) (S:=fun k=>listed.getD k false=true) (S':=fun k=>(listed.setIfInBounds i true).getD k false=true) (i:=i)
    hset hni (fun k hk=>hvals k (fun e=>hni (by rw [<- e]; exact hk))) (fun t k hd hk hne=>Dz hv hc hrdy hni (E9 hd) k hk hne) l.length hil t
   rw [this,hdst,AU,AU,hst.env t]
  have inDone:Ev ps l i=false->d.testBit i=true:=by
   intro heff;cases hdi:d.testBit i with
   | true=>rfl
   | false =>
    exfalso;have hrm:=FP hc hrdy hst.sub (d:=d) (by simp [hdi]);have hok:=hst.ok;cases p with
    | fin =>
     simp only [Ao,Jo] at hok;have:=hok i (by simpa using hil);rw [hdi] at this; simp at this
    | non=>simp [Ao] at hok
    | look j f q=>exact hhead.elim
    | lookx j q=>exact hhead.elim
    | lookp j q=>exact hhead.elim
    | act j q alt =>
     simp only [Ao,Jd,Jo] at hok;have:=hok.1.1.1.1.1 i (by simpa using hil);rw [hrm,heff] at this;simp at this
    | actd j q=>simp [Ao] at hok
    | acth j q =>
     simp only [Ao,Jd,Jo] at hok;have:=hok.1.1.1.1.1 i (by simpa using hil);rw [hrm,heff] at this;simp at this
  cases hqi:isQ o.op with
  | true =>
   have heff:By l i=false:=(by unfold By; rw [ho]; simp [hqi]);have hin:d.testBit i=true:=inDone (by unfold Ev; rw [heff]; rfl);obtain ⟨o',Ui,h1,h3,h4⟩:=hst.pend i hin hni;rw [ho] at h1;simp only [J5] at h1;subst h1;have hag:∀ t ∈ touch l i,Ui.get t=U.get t:=by
    intro t ht;rw [h4 t ht,hst.env t];exact (DM (i:=i) (Dz hv hc hrdy hni ht) (fun k _ _=>Iff.rfl) hni (by simp) (fun _ _ _=>rfl) _).symm
   obtain ⟨V,hV,h3⟩:∃ V:HV,V.of w.heap/\CY P V l o Ui=some (vals i):=by
    unfold PV at h3;split at h3
    ·exact ⟨AI w.heap,Fv _,h3.2.2⟩
    ·exact h3.2 _ hh
    ·exact ⟨AI w.heap,Fv _,h3.2.2 _ (Ext.refl _)⟩
    ·rw [hqi] at h3; cases h3.1
   rw [F9 ho hag] at h3;refine NA (V:=V) ho ha hV h3 ?_;refine ih hl (listed.setIfInBounds i true) (U.put n o.dst (vals i)) w (a.put o.dst (vals i)) vals fl d p hs' hcnt' hr (ha.put _ _) (by rw [HW]; exact hds) hh hc' ?_ hhead;refine { ok:=hst.ok,closed:=hst.closed,env:=henv vals (fun _ _=>rfl),sub:=?_,eff:=fun k hk he=>(hset _).2 (.inl (hst.eff k hk he)),pend:=fun k hk hnk=>hst.pend k hk (fun h=>hnk ((hset _).2 (.inl h))),cont:=hst.cont };intro k hk;rcases (hset k).1 hk with hk | rfl
   ·exact hst.sub k hk
   ·exact hin
  | false =>
   have heff0:By l i=true:=(by unfold By; rw [ho]; simp [hqi]);cases hpi:ps.contains i with
   | true =>
   have hin:d.testBit i=true:=inDone (by unfold Ev; rw [heff0,hpi]; rfl);obtain ⟨o',Ui,h1,h3,h4⟩:=hst.pend i hin hni;rw [ho] at h1;simp only [J5] at h1;subst h1;have hag:∀ t ∈ touch l i,Ui.get t=U.get t:=by
    intro t ht;rw [h4 t ht,hst.env t];exact (DM (i:=i) (Dz hv hc hrdy hni ht) (fun k _ _=>Iff.rfl) hni (by simp) (fun _ _ _=>rfl) _).symm
   have h3:NZ n P l o Ui (vals i):=by
    unfold PV at h3;split at h3
    ·rw [hqi] at h3; cases h3.1
    ·rw [hqi] at h3; cases h3.1
    ·rw [hqi] at h3; cases h3.1
    ·exact h3.2
   have hG:=E4 (K':=fun U' H'=>U'=U.put n o.dst (vals i)/\H'=w.heap) (Q':=Q) ho hqi hag (fun v H' h=>⟨JL h.1,h.2⟩) (fun c H' h=>h.elim) (h3 w.heap);have hS:=E5 hr ha hG;unfold wpOp;simp only [Jw,ho];have next:∀ a' w',up n w0 (fun U' H'=>U'=U.put n o.dst (vals i)/\H'=w.heap) a' w'->wpAny P .any l.toArray (upQ n w0 Q) fuel (listed.setIfInBounds i true) a' w':=by
    rintro a' w' ⟨hr',U',ha',rfl,hheap⟩;refine ih hl (listed.setIfInBounds i true) (U.put n o.dst (vals i)) w' a' vals fl d p hs' hcnt' hr' ha' (by rw [HW]; exact hds) (by rw [hheap]; exact hh) hc' ?_ hhead;rw [hheap];refine { ok:=hst.ok,closed:=hst.closed,env:=henv vals (fun _ _=>rfl),sub:=?_,eff:=fun k hk he=>(hset _).2 (.inl (hst.eff k hk he)),pend:=fun k hk hnk=>hst.pend k hk (fun h=>hnk ((hset _).2 (.inl h))),cont:=hst.cont };intro k hk;rcases (hset k).1 hk with hk | rfl
    ·exact hst.sub k hk
    ·exact hin
   split
   ·rename_i hw;rw [J8 hw] at hS;exact hS.imp (Oper.wp_mono next) id
   ·rename_i hw;rw [J4 hw] at hS;exact next _ _ hS
   | false =>
   have heff:Ev ps l i=true:=(by unfold Ev; rw [heff0,hpi]; rfl);have hnin:¬ d.testBit i=true:=fun h=>hni (hst.eff i h heff);have hrm:=FP hc hrdy hst.sub hnin;have hrd:=(C7 hrm hil).1;have hok:=hst.ok;cases p with
   | fin =>
    exfalso;simp only [Ao,Jo] at hok;exact hnin (hok i (by simpa using hil))
   | non=>simp [Ao] at hok
   | look j f q=>exact hhead.elim
   | lookx j q=>exact hhead.elim
   | lookp j q=>exact hhead.elim
   | act j q alt =>
    simp only [Ao,Jd] at hok;obtain ⟨⟨⟨⟨⟨g0,g1⟩,g2⟩,g3⟩,g4⟩,g5⟩:=hok;have hmem:i ∈ (Plan.act j q alt).idxs:=by
     rw [Jo] at g0;have:=g0 i (by simpa using hil);rw [hrm,heff] at this;simpa [Plan.idxs] using this
    obtain ⟨q',o',ho',hokq,hcont⟩:=OT (d:=d) (.act j q alt) hmem _ _ hst.cont (by
     rintro j' q' alt' he;simp only [Plan.act.injEq] at he;obtain ⟨rfl,rfl,rfl⟩:=he;exact ⟨g1,g2,g3,g4,g5⟩)
    rw [ho] at ho';simp only [J5] at ho';subst ho';have hag:∀ t ∈ touch l i,(ES n l vals U0 (fun k=>d.testBit k=true) l.length).get t=U.get t:=by
     intro t ht;rw [hst.env t];exact DM (i:=i) (Dz hv hst.closed hrd hnin ht) (Dz hv hc hrdy hni ht) hnin hni (fun _ _ _=>rfl) _
    have hG:=E4 (K':=fun U' H'=>∃ v,U'=U.put n o.dst v/\(EO o=true->Ext w.heap H')/\∃ hl',(∀ H,hl' H->hl H)/\hl' H'/\Ap n P l hl' Q q' ((ES n l vals U0 (fun k=>d.testBit k=true) l.length).put n o.dst v) H') ho hqi hag
     (fun v H' h=>⟨v,rfl,h.2,h.1⟩) (fun c H' h=>hpan c _ _ H' (by rw [Kr]; exact hds.symm) h) (WL hcont)
    have hS:=E5 hr ha hG;unfold wpOp;simp only [Jw,ho];have next:∀ a' w',up n w0 (fun U' H'=>∃ v,U'=U.put n o.dst v/\(EO o=true->Ext w.heap H')/\∃ hl',(∀ H,hl' H->hl H)/\hl' H'/\Ap n P l hl' Q q' ((ES n l vals U0 (fun k=>d.testBit k=true) l.length).put n o.dst v) H') a' w' ->
      wpAny P .any l.toArray (upQ n w0 Q) fuel (listed.setIfInBounds i true) a' w':=by
     rintro a' w' ⟨hr',U',ha',v,rfl,hext,hl',hsub,hh',hk⟩
     have hst':DSt ps n P l hl' Q U0 (fun k=>(listed.setIfInBounds i true).getD k false=true) (U.put n o.dst v) w'.heap (fun k=>if k=i then v else vals k) fl (d ||| 2 ^ i) q':=by
      refine { ok:=hokq,closed:=DB hst.closed hrd,env:=?_,sub:=?_,eff:=?_,pend:=?_,cont:=?_ }
      ·have:=henv (fun k=>if k=i then v else vals k) (fun k hk=>J4 hk);simpa using this
      ·intro k hk;rcases (hset k).1 hk with hk | rfl
       ·exact BD.2 (.inl (hst.sub k hk))
       ·exact BD.2 (.inr rfl)
      ·intro k hk he;rcases BD.1 hk with hk | rfl
       ·exact (hset _).2 (.inl (hst.eff k hk he))
       ·exact (hset _).2 (.inr rfl)
      ·intro k hk hnk;rcases BD.1 hk with hk | rfl
       ·have hnk':¬ listed.getD k false=true:=fun h=>hnk ((hset _).2 (.inl h));obtain ⟨o',Ui,h1,h3,h4⟩:=hst.pend k hk hnk';have hki:k ≠ i:=fun e=>hnin (by rw [<- e]; exact hk);have hkl:=(J3.1 h1).1;refine ⟨o',Ui,h1,?_,fun t ht=>?_⟩
        ·rw [J4 hki];have Td:((BU l).getD k 0).testBit i=true\/((BU l).getD i 0).testBit k=true->False:=by
          rintro (h5 | h5)
          ·exact hnin (BY hst.closed h5 ⟨l[k],by simp [hkl],fun e he hb=>hst.closed k l[k] (by simp [hkl]) hk e he hb⟩)
          ·exact hnk' (BY hc h5 hrdy)
         unfold PV at h3 ⊢;cases hfk:fl k with
         | none=>rw [hfk] at h3; exact h3
         | some f =>
         cases f with
         | none =>
          rw [hfk] at h3;refine ⟨h3.1,h3.2.1,fun H' hH=>h3.2.2 H' ((hext ?_).trans hH)⟩;have hcomp:=h3.2.1;unfold Sk at hcomp;rw [Jo] at hcomp;have h5:=hcomp i (by simpa using hil);rw [heff] at h5;simp only [X2,Wg,Z9] at h5;rcases h5 with h5 | h5
          ·exact (Td h5).elim
          ·unfold KE at h5; rw [ho] at h5; exact h5
         | some b =>
          rw [hfk] at h3;cases b with
          | false=>exact ⟨h3.1,LookH.sub h3.2 hsub⟩
          | true =>
           exfalso;have hcomp:=h3.2.1;unfold Kj at hcomp;rw [Jo] at hcomp;have h5:=hcomp i (by simpa using hil);rw [heff] at h5;simp only [X2,Wg,Z9] at h5;exact Td h5
        ·rw [h4 t ht];exact E1 hv hst.closed hk (J3.1 h1).1 hnin (fun j hj=>by rw [J4 hj]) ht
       ·exact absurd ((hset _).2 (.inr rfl)) hnk
      ·rw [GV hv ho hst.closed hrd hnin];exact hk
     obtain ⟨vals',fl',d',p',hst'',hhead'⟩:=Mw hv q' _ _ _ hst'
     exact ih hl' (listed.setIfInBounds i true) (U.put n o.dst v) w' a' vals' fl' d' p' hs' hcnt' hr' ha' (by rw [HW]; exact hds) hh' hc' hst'' hhead'
    split
    ·rename_i hw;rw [J8 hw] at hS;exact hS.imp (Oper.wp_mono next) id
    ·rename_i hw;rw [J4 hw] at hS;exact next _ _ hS
   | actd j q=>simp [Ao] at hok
   | acth j q =>
    simp only [Ao,Jd] at hok;obtain ⟨⟨⟨⟨⟨g0,g1⟩,g2⟩,g3⟩,gd⟩,g4⟩:=hok;have hij:i=j:=by
     rw [Jo] at g0;have:=g0 i (by simpa using hil);rw [hrm,heff] at this;simpa using this
    subst hij;have hcont:opG n P l.toArray o (ES n l vals U0 (fun k=>d.testBit k=true) l.length) w.heap (fun U' H'=>∃ hl',hl' H'/\Ap n P l hl' Q q U' H') Q:=by
     have:=hst.cont;unfold Ap at this;rw [ho] at this;exact this
    have hag:∀ t ∈ touch l i,(ES n l vals U0 (fun k=>d.testBit k=true) l.length).get t=U.get t:=by
     intro t ht;rw [hst.env t];exact DM (i:=i) (Dz hv hst.closed hrd hnin ht) (Dz hv hc hrdy hni ht) hnin hni (fun _ _ _=>rfl) _
    have hG:=E4 (K':=fun U' H'=>∃ v,U'=U.put n o.dst v/\∃ hl',hl' H'/\Ap n P l hl' Q q ((ES n l vals U0 (fun k=>d.testBit k=true) l.length).put n o.dst v) H') ho hqi hag
     (fun v H' h=>⟨v,rfl,h⟩) (fun c H' h=>hpan c _ _ H' (by rw [Kr]; exact hds.symm) h) hcont
    have hS:=E5 hr ha hG;unfold wpOp;simp only [Jw,ho];have next:∀ a' w',up n w0 (fun U' H'=>∃ v,U'=U.put n o.dst v/\∃ hl',hl' H'/\Ap n P l hl' Q q ((ES n l vals U0 (fun k=>d.testBit k=true) l.length).put n o.dst v) H') a' w' ->
      wpAny P .any l.toArray (upQ n w0 Q) fuel (listed.setIfInBounds i true) a' w':=by
     rintro a' w' ⟨hr',U',ha',v,rfl,hl',hh',hk⟩
     have hst':DSt ps n P l hl' Q U0 (fun k=>(listed.setIfInBounds i true).getD k false=true) (U.put n o.dst v) w'.heap (fun k=>if k=i then v else vals k) fl (d ||| 2 ^ i) q:=by
      refine { ok:=g4,closed:=DB hst.closed hrd,env:=?_,sub:=?_,eff:=?_,pend:=?_,cont:=?_ }
      ·have:=henv (fun k=>if k=i then v else vals k) (fun k hk=>J4 hk);simpa using this
      ·intro k hk;rcases (hset k).1 hk with hk | rfl
       ·exact BD.2 (.inl (hst.sub k hk))
       ·exact BD.2 (.inr rfl)
      ·intro k hk he;rcases BD.1 hk with hk | rfl
       ·exact (hset _).2 (.inl (hst.eff k hk he))
       ·exact (hset _).2 (.inr rfl)
      ·intro k hk hnk;rcases BD.1 hk with hk | rfl
       ·have hnk':¬ listed.getD k false=true:=fun h=>hnk ((hset _).2 (.inl h));obtain ⟨o',Ui,h1,h3,h4⟩:=hst.pend k hk hnk';have hkl:=(J3.1 h1).1;have hki:k ≠ i:=fun e=>hnin (by rw [<- e]; exact hk);cases h2:isQ o'.op with
        | false =>
         refine ⟨o',Ui,h1,?_,fun t ht=>?_⟩
         ·rw [J4 hki];unfold PV at h3 ⊢;cases hfk:fl k with
          | none=>rw [hfk] at h3; exact h3
          | some f =>
           rw [hfk] at h3;exfalso;cases f with
           | none=>rw [h2] at h3; cases h3.1
           | some b=>cases b <;> (rw [h2] at h3; cases h3.1)
         ·rw [h4 t ht];exact E1 hv hst.closed hk hkl hnin (fun j hj=>by rw [J4 hj]) ht
        | true =>
         exfalso;have hke:By l k=false:=(by unfold By; rw [h1]; simp [h2]);rw [Jo] at gd;have h5:=gd k (by simpa using hkl);rw [hk,hke] at h5;simp only [X2,Wg,Z9] at h5;rcases h5 with h5 | hcomp
         ·exact hnk' (BY hc h5 hrdy)
         ·unfold Kj at hcomp;rw [Jo] at hcomp;have h6:=hcomp i (by simpa using hil);rw [heff] at h6;simp only [X2,Wg,Z9] at h6;rcases h6 with h6 | h6
          ·exact hnin (BY hst.closed h6 ⟨l[k],by simp [hkl],fun e he hb=>hst.closed k l[k] (by simp [hkl]) hk e he hb⟩)
          ·exact hnk' (BY hc h6 hrdy)
       ·exact absurd ((hset _).2 (.inr rfl)) hnk
      ·rw [GV hv ho hst.closed hrd hnin];exact hk
     obtain ⟨vals',fl',d',p',hst'',hhead'⟩:=Mw hv q _ _ _ hst'
     exact ih hl' (listed.setIfInBounds i true) (U.put n o.dst v) w' a' vals' fl' d' p' hs' hcnt' hr' ha' (by rw [HW]; exact hds) hh' hc' hst'' hhead'
    split
    ·rename_i hw;rw [J8 hw] at hS;exact hS.imp (Oper.wp_mono next) id
    ·rename_i hw;rw [J4 hw] at hS;exact next _ _ hS
theorem Fx {id:Nat} {U:En} {H:A3} (p:Plan) (hl:A3->Prop) (hm:P.follows .mixedOrders=true) (hok:DS l p=true) (hpan:PanOK Q) (hh:hl H)
  (h:Ap n P l hl Q p U H):@EK ⟨CW n P (.region id l.toArray true) Q U H⟩:=by
 intro w0 w a hr hw ha
 subst hw
 unfold DS at hok
 simp only [Jd] at hok
 obtain ⟨⟨h1,h2⟩,h3⟩:=hok
 refine wp_region_any hm ?_
 have none:∀ k,¬ (Array.replicate l.toArray.size false).getD k false=true:=by
  intro k;rw [Jn,Yo];split <;> simp
 have hst:DSt p.yj n P l hl Q U (fun k=>(Array.replicate l.toArray.size false).getD k false=true) U w.heap (fun _=>undef) (fun _=>some (some false)) 0 p:=by
  have e0:∀ (S:Nat->Prop),(∀ k,¬ S k)->∀ k,ES n l (fun _=>undef) U S k=U:=by
   intro S hS k;induction k with
   | zero=>rfl
   | succ k ih=>rw [DL,J4 (hS k),ih]
  refine { ok:=h3,closed:=fun j o _ hs=>by simp at hs,env:=fun t=>by rw [e0 _ none],sub:=fun k hk=>absurd hk (none k),eff:=fun k hk=>by simp at hk,pend:=fun k hk=>by simp at hk,cont:=?_ };rw [e0 _ (fun k=>by simp)];exact h
 obtain ⟨vals',fl',d',p',hst',hhead⟩:=Mw h2 p 0 _ _ hst
 refine QD hpan h2 h1 _ hl _ U { w with drawn:=w.drawn + 1 } a vals' fl' d' p' (by simp) ?_ ⟨hr.os,hr.tape,hr.output⟩ ha rfl hh ?_ hst' hhead
 ·exact Js (Wn) (by simp)
 ·intro j o hj hs
  exact absurd hs (none j)
end
end Go.Run
namespace Go.HL
def Plan.tr:Plan->Run.Plan
 | .fin=>.fin
 | .non=>.non
 | .look i f p=>.look i f p.tr
 | .act i p a=>.act i p.tr a.tr
 | .actd i p=>.acth i p.tr
 | .acth i p=>.acth i p.tr
theorem Plan.yi:∀ p:Plan,p.tr.yj = []
 | .fin=>rfl
 | .non=>rfl
 | .look i f p=>p.yi
 | .act i p a=>by show p.tr.yj ++ a.tr.yj = []; rw [p.yi,a.yi]; rfl
 | .actd i p=>p.yi
 | .acth i p=>p.yi
theorem Plan.sh:∀ p:Plan,p.tr.idxs=p.idxs
 | .fin=>rfl
 | .non=>rfl
 | .look i f p=>rfl
 | .act i p a=>by show i :: a.tr.idxs=i :: a.idxs; rw [a.sh]
 | .actd i p=>rfl
 | .acth i p=>rfl
theorem Fb {l:List Oper} {i:Nat}:Run.Ev [] l i=By l i:=by simp [Run.Ev]
theorem HY {l:List Oper} {m:List Nat} {i:Nat}:Run.Kj [] l m i=Kk l m i:=by simp [Run.Kj,Kk,Fb]
theorem Qb {l:List Oper} {m:List Nat}:∀ (p:Plan) (md:Bool) (d:Nat),Ao l m md d p=true->Run.Ao [] l m md d p.tr=true:=by
 intro p;induction p with
 | fin=>intro md d h; cases md <;> exact h
 | non=>intro md d h; cases md <;> exact h
 | look i f p ih =>
  intro md d h;cases md with
  | false=>exact h
  | true =>
   simp only [Ao,Plan.tr,Run.Ao,Jd,HY] at h ⊢;exact ⟨h.1,ih _ _ h.2⟩
 | act i p a ih iha =>
  intro md d h;cases md with
  | false =>
   simp only [Ao,Plan.tr,Run.Ao,Jd,Fb] at h ⊢;exact ⟨⟨h.1.1,ih _ _ h.1.2⟩,iha _ _ h.2⟩
  | true =>
   simp only [Ao,Plan.tr,Run.Ao,Jd,Fb,Plan.sh] at h ⊢;exact ⟨⟨h.1.1,ih _ _ h.1.2⟩,iha _ _ h.2⟩
 | actd i p ih =>
  intro md d h;cases md with
  | false=>exact h
  | true =>
   simp only [Ao,Plan.tr,Run.Ao,Jd,Fb,HY] at h ⊢;exact ⟨h.1,ih _ _ h.2⟩
 | acth i p ih =>
  intro md d h;cases md with
  | false=>exact h
  | true =>
   simp only [Ao,Plan.tr,Run.Ao,Jd,Fb,HY] at h ⊢;exact ⟨h.1,ih _ _ h.2⟩
section
variable {n:Nat} {P:Program} {l:List Oper} {Q:Exit->En->A3->Prop}
theorem Sg:∀ (p:Plan) (hl:List (Addr × Value)) (U:En) (H:A3),Ap n P l hl Q p U H->Run.Ap n P l (Al hl) Q p.tr U H:=by
 intro p;induction p with
 | fin=>intro hl U H h; exact h
 | non=>intro hl U H h; exact h
 | look i f p ih =>
  intro hl U H h;unfold Ap at h;show (match l[i]? with | none=>False | some o=>if f then _ else _);cases ho:l[i]? with
  | none=>rw [ho] at h; exact h
  | some o =>
   rw [ho] at h;simp only at h ⊢;split at h
   ·rename_i hf;rw [J8 hf];exact CL (fun U H hh=>ih hl U H hh) (fun _ _ _ h=>h) h
   ·rename_i hf;rw [J4 hf];obtain ⟨v,hv,hk⟩:=F7 h;exact ⟨v,fun H' hh=>⟨held hl,HK hh,hv⟩,ih hl _ H hk⟩
 | act i p a ih iha =>
  intro hl U H h;unfold Ap at h;show (match l[i]? with | none=>False | some o=>_)/\_;refine ⟨?_,iha hl U H h.2⟩;have h:=h.1;cases ho:l[i]? with
  | none=>rw [ho] at h; exact h
  | some o =>
   rw [ho] at h;exact CL (fun U H hh=>⟨Al hl,fun _ h=>h,hh.1,ih hl U H hh.2⟩) (fun _ _ _ h=>h) h
 | actd i p ih =>
  intro hl U H h;unfold Ap at h;show (match l[i]? with | none=>False | some o=>_);cases ho:l[i]? with
  | none=>rw [ho] at h; exact h
  | some o =>
   rw [ho] at h;exact CL (fun U H hh=>⟨Al [],fun _ _ h=>by simp [Ak] at h,ih [] U H hh⟩) (fun _ _ _ h=>h) h
 | acth i p ih =>
  intro hl U H h;unfold Ap at h;show (match l[i]? with | none=>False | some o=>_);cases ho:l[i]? with
  | none=>rw [ho] at h; exact h
  | some o =>
   rw [ho] at h;exact CL (fun U H ⟨hl',h1,h2⟩=>⟨Al hl',h1,ih hl' U H h2⟩) (fun _ _ _ h=>h) h
theorem Fx {id:Nat} {U:En} {H:A3} (p:Plan) (hl:List (Addr × Value)) (hm:P.follows .mixedOrders=true) (hok:DS l p=true) (hpan:PanOK Q) (hh:Al hl H)
  (h:Ap n P l hl Q p U H):@EK ⟨CW n P (.region id l.toArray true) Q U H⟩:=by
 refine Run.Fx p.tr (Al hl) hm ?_ hpan hh (Sg p hl U H h)
 unfold DS at hok
 unfold Run.DS
 rw [Plan.yi]
 simp only [Jd] at hok ⊢
 exact ⟨hok.1,Qb p true 0 hok.2⟩
end
abbrev tl (i:Nat):=(i,true)
abbrev fl (i:Nat):=(i,false)
def lk:List (Nat × Bool)->Plan->Plan
 | [],p=>p
 | x :: r,p=>.look x.1 x.2 (lk r p)
def Pq (hl:List (Addr × Value)) (H:A3) [p:Inhabited Prop]:Prop:=Al hl H/\p.default
theorem B9 {hl:List (Addr × Value)} {H:A3} {p:Prop} (h:Al hl H) (hp:p):@Pq hl H ⟨p⟩:=⟨h,hp⟩
theorem K8 {H:A3}:Al [] H:=fun _ _ h=>by simp [Ak] at h
section
variable {n:Nat} {P:Program} {l:List Oper} {hl:List (Addr × Value)} {Q:Exit->En->A3->Prop} {U:En} {H:A3}
@[go_sem ↓] theorem j00 {p:Plan}:Ap n P l hl Q (lk [] p) U H=Ap n P l hl Q p U H:=(rfl)
@[go_sem ↓] theorem j01:Ap n P l hl Q .fin U H=Q .normal U H:=(rfl)
theorem Kd {i:Nat} {f:Bool} {p:Plan}:Ap n P l hl Q (.look i f p) U H=AQ (l[i]?) fun o=>if f then opG n P l.toArray o U H (Ap n P l hl Q p) Q else Im P n hl l o U fun U'=>Ap n P l hl Q p U' H:=by
 show (match l[i]? with | none=>_ | some o=>_)=_;cases l[i]? <;> rfl
@[go_sem ↓] theorem XX {i:Nat} {r:List (Nat × Bool)} {p:Plan}:Ap n P l hl Q (lk ((i,true) :: r) p) U H = @BT _ (l[i]?) ⟨fun o=>opG n P l.toArray o U H (Ap n P l hl Q (lk r p)) Q⟩:=by
 show Ap n P l hl Q (.look i true (lk r p)) U H=_;rw [Kd]; rfl
@[go_sem ↓] theorem XY {i:Nat} {r:List (Nat × Bool)} {p:Plan}:Ap n P l hl Q (lk ((i,false) :: r) p) U H = @BT _ (l[i]?) ⟨fun o=>Im P n hl l o U fun U'=>Ap n P l hl Q (lk r p) U' H⟩:=by
 show Ap n P l hl Q (.look i false (lk r p)) U H=_;rw [Kd]; rfl
theorem HX {i:Nat} {p alt:Plan}:Ap n P l hl Q (.act i p alt) U H=((AQ (l[i]?) fun o=>opG n P l.toArray o U H (fun U' H'=>Al hl H'/\Ap n P l hl Q p U' H') Q)/\Ap n P l hl Q alt U H):=by
 show ((match l[i]? with | none=>_ | some o=>_)/\_)=_;cases l[i]? <;> rfl
@[go_sem ↓] theorem YB {i:Nat} {p:Plan}:Ap n P l hl Q (.act i p .non) U H = @BT _ (l[i]?) ⟨fun o=>opG n P l.toArray o U H (fun U' H'=>@Pq hl H' ⟨Ap n P l hl Q p U' H'⟩) Q⟩:=by
 rw [HX];exact Zt _
@[go_sem ↓] theorem YA {i j:Nat} {p q alt:Plan}:Ap n P l hl Q (.act i p (.act j q alt)) U H = @UZ ⟨Ap n P l hl Q (.act i p .non) U H⟩ ⟨Ap n P l hl Q (.act j q alt) U H⟩:=by
 rw [HX];show (_/\_)=(Ap n P l hl Q (.act i p .non) U H/\_);rw [HX (alt:=.non)];show (_/\_)=((_/\True)/\_);rw [Zt];rfl
theorem NG {i:Nat} {p:Plan}:Ap n P l hl Q (.actd i p) U H=AQ (l[i]?) fun o=>opG n P l.toArray o U H (Ap n P l [] Q p) Q:=by
 show (match l[i]? with | none=>_ | some o=>_)=_;cases l[i]? <;> rfl
@[go_sem ↓] theorem XZ {i:Nat} {p:Plan}:Ap n P l hl Q (.actd i p) U H = @BT _ (l[i]?) ⟨fun o=>opG n P l.toArray o U H (Ap n P l [] Q p) Q⟩:=NG
@[go_sem] theorem ZS {p:Prop}:@Pq [] H ⟨p⟩=p:=by
 unfold Pq;exact propext ⟨fun h=>h.2,fun h=>⟨K8,h⟩⟩
variable {dst:Option Nat} {op:Op} {ty:TypeId} {pos:String} {after:Array Edge} {K:En->Prop}
@[go_sem ↓] theorem ZE:Im P n hl l ⟨dst,op,ty,pos,after,none⟩ U K = @BT _ (opQ P (held hl) U.ev op) ⟨fun v=>K (U.put n dst v)⟩:=(rfl)
@[go_sem ↓] theorem ZD {j:Nat} {want:Bool}:Im P n hl l ⟨dst,op,ty,pos,after,some (j,want)⟩ U K =
  @CA (AZ l.toArray U j) want ⟨@BT _ (opQ P (held hl) U.ev op) ⟨fun v=>K (U.put n dst v)⟩⟩ ⟨K (U.put n dst undef)⟩:=(rfl)
end
section
variable {P:Program} {V:HV} {U:Operand->Value}
@[go_sem ↓] theorem j1i {x:Operand}:opQ P V U (.move x)=some (U x):=(rfl)
@[go_sem ↓] theorem j1j {t:TypeId} {a:Operand}:opQ P V U (.load t a)=FQ P V t (U a):=(rfl)
@[go_sem ↓] theorem Tu {x:Operand}:opQ P V U (.nilCheck x)=Qe (U x):=(rfl)
@[go_sem ↓] theorem ZC {b:BinOp} {t t':TypeId} {x y:Operand}:opQ P V U (.binOp b t x y t')=B0 P V b t x y (U x) (U y):=(rfl)
@[go_sem ↓] theorem SO {s:TypeId} {x:Operand} {f:Nat}:opQ P V U (.fieldAddr s x f)=Fw P s (U x) f:=(rfl)
@[go_sem ↓] theorem SN {s:TypeId} {x i:Operand}:opQ P V U (.indexAddr s x i)=D7 P s (U x) (U i):=(rfl)
@[go_sem] theorem UQ:CK U none=none:=(rfl)
@[go_sem] theorem UP {x:Operand}:CK U (some x)=some (U x):=(rfl)
end
theorem PanOK.no:PanOK (fun _ _ _=>False):=fun _ _ _ _ _ h=>h
theorem As {n:Nat} {P:Program} {l:List Oper} {Q:Exit->En->A3->Prop} {id:Nat} {U:En} {H:A3} (p:Plan) (hm:P.follows .mixedOrders=true) (h:Ap n P l [] Q p U H)
  (hok:DS l p=true:=by kernel_rfl) (hpan:PanOK Q:=by repeat (first | with_reducible exact PanOK.ret | with_reducible exact PanOK.no | with_reducible refine PanOK.seq ?_ | with_reducible refine PanOK.blk ?_ | exact PanOK.ret | exact PanOK.no | refine PanOK.seq ?_ | refine PanOK.blk ?_)):@EK ⟨CW n P (.region id l.toArray true) Q U H⟩ :=
 Fx p [] hm hok hpan K8 h
theorem Fc {n:Nat} {P:Program} {l:List Oper} {Q:Exit->En->A3->Prop} {id:Nat} {U:En} {H:A3} (p:Plan) (hm:P.follows .mixedOrders=true) (hl:List (Addr × Value)) (hh:Al hl H) (h:Ap n P l hl Q p U H)
  (hok:DS l p=true:=by kernel_rfl) (hpan:PanOK Q:=by repeat (first | with_reducible exact PanOK.ret | with_reducible exact PanOK.no | with_reducible refine PanOK.seq ?_ | with_reducible refine PanOK.blk ?_ | exact PanOK.ret | exact PanOK.no | refine PanOK.seq ?_ | refine PanOK.blk ?_)):@EK ⟨CW n P (.region id l.toArray true) Q U H⟩ :=
 Fx p hl hm hok hpan hh h
@[go_sem] theorem Ni {a:Addr} {v:Value} {l:List (Addr × Value)}:Ak ((a,v) :: l) a=some v:=by simp [Ak]
theorem B5 {H:A3} {a:Addr} {v:Value} (h:A5 H a=some v):Al [(a,v)] H:=by
 intro a' v' e;unfold Ak at e;split at e
 ·rename_i ea;cases e
  exact ea ▸ h
 ·simp [Ak] at e
def wr (H:A3) (a:Addr) (v:Value):Option A3:=if (A5 H a).isSome=true/\BI H a=false then some (Aw H a v) else none
def wrs (H:A3) (a:Addr):List Value->Nat->Option A3
 | [],_=>some H
 | v :: r,i=>(wr H (a.add i) v).bind fun H'=>wrs H' a r (i + 1)
theorem BK {a:Addr}:∀ (vs:List Value) (H:A3) (i:Nat),(∀ v ∈ vs,Cb v=true)->Ar H a vs i=wrs H a vs i:=by
 intro vs;induction vs with
 | nil=>intro H i _; rfl
 | cons v r ih =>
  intro H i h;have hv:=h v (by simp);simp only [Ar,wrs,wr,hv,true_and];split
  ·exact ih _ _ fun u hu=>h u (by simp [hu])
  ·rfl
section
variable {P:Program} {H:A3} {t:TypeId} {a:Addr}
theorem CH {v:Value} {vs:List Value} (hc:v.cells=vs.toArray) (h1:∀ u ∈ vs,Cb u=true):B1 P H t a v=(Au P t).bind fun s=>chk (vs.length=s) (wrs H a vs 0):=by
 unfold B1;cases Au P t with
 | none=>rfl
 | some s =>
  simp only [hc,Xe,J0,chk];split
  ·exact BK vs H 0 h1
  ·rfl
@[go_sem] theorem Gt {v:Value}:wrs H a [v] 0=wr H a v:=by
 have e:a.add 0=a:=rfl;simp only [wrs,e];cases wr H a v <;> rfl
@[go_sem] theorem VE {k:IntKind} {n:Int}:B1 P H t a (.int k n)=(Au P t).bind fun s=>chk (1=s) (wr H a (.int k n)):=by
 rw [CH (vs:=[.int k n]) rfl (by simp [Cb]),<- Gt]; rfl
@[go_sem] theorem UJ {b:Bool}:B1 P H t a (.bool b)=(Au P t).bind fun s=>chk (1=s) (wr H a (.bool b)):=by
 rw [CH (vs:=[.bool b]) rfl (by simp [Cb]),<- Gt]; rfl
@[go_sem] theorem QZ {b:Option Addr}:B1 P H t a (.pointer b)=(Au P t).bind fun s=>chk (1=s) (wr H a (.pointer b)):=by
 rw [CH (vs:=[.pointer b]) rfl (by simp [Cb]),<- Gt]; rfl
@[go_sem] theorem T1 {b:Option Addr} {m c:Nat}:B1 P H t a (.slice b m c)=(Au P t).bind fun s=>chk (1=s) (wr H a (.slice b m c)):=by
 rw [CH (vs:=[.slice b m c]) rfl (by simp [Cb]),<- Gt]; rfl
end
def Blk (H:A3) (b:Nat) (t:TypeId) (vs:List Value):Prop:=H[b]?=some (.cells vs.toArray t (0,0))
section
variable {H:A3} {b b':Nat} {t t':TypeId} {vs vs':List Value}
theorem Blk.cell (h:Blk H b t vs) (i:Nat):A5 H ⟨b,i,none⟩=vs[i]?:=by
 unfold A5; rw [h]; simp
theorem Blk.frozen (h:Blk H b t vs) (i:Nat):BI H ⟨b,i,none⟩=false:=by
 unfold BI; rw [h]; simp
theorem Blk.lt (h:Blk H b t vs):b < H.size:=by
 rcases X9 b H.size with h' | h'
 ·exact h'
 ·unfold Blk at h; rw [Z5 h'] at h; simp at h
theorem Blk.wr (h:Blk H b t vs) {i:Nat} (hi:i < vs.length) (v:Value):wr H ⟨b,i,none⟩ v=some (Aw H ⟨b,i,none⟩ v):=by
 unfold HL.wr; rw [h.cell,h.frozen,J8]; simp [hi]
theorem BA {a:Addr} {v:Value} (h:b ≠ a.block):(Aw H a v)[b]?=H[b]?:=by
 unfold Aw; rw [Zu]; simp [Ne.symm h]
theorem Blk.set (h:Blk H b t vs) (i:Nat) (v:Value):Blk (Aw H ⟨b,i,none⟩ v) b t (vs.set i v):=by
 unfold Blk Aw; rw [Zu]; unfold Blk at h; simp [h]
theorem Blk.zd (h:Blk H b t vs) {a:Addr} {v:Value} (hb:b ≠ a.block):Blk (Aw H a v) b t vs:=by
 unfold Blk; rw [BA hb]; exact h
theorem Blk.push (h:Blk H b t vs) (o:Obj):Blk (H.push o) b t vs:=by
 have:=h.lt;unfold Blk at h ⊢;rw [Yt]; simp [Nat.ne_of_lt this,h]
theorem Blk.new {l:Array Value} (h:vs.toArray=l):Blk (H.push (.cells l t)) H.size t vs:=by
 unfold Blk; simp [h]
theorem AA {a:Addr} {v:Value}:(Aw H a v).size=H.size:=by unfold Aw; simp
end
structure Fr (F:List Nat) (H H':A3):Prop where
 size:H.size<=H'.size
 same:∀ b,b < H.size->b ∉ F->H'[b]?=H[b]?
theorem Fr.refl (F:List Nat) (H:A3):Fr F H H:=⟨Jb _,fun _ _ _=>rfl⟩
theorem Fr.trans {F:List Nat} {H H' H'':A3} (h:Fr F H H') (h':Fr F H' H''):Fr F H H'' :=
 ⟨Js h.size h'.size,fun b hb hF=>(h'.same b (Yw hb h.size) hF).trans (h.same b hb hF)⟩
theorem Fr.mono {F G:List Nat} {H H':A3} (h:Fr F H H') (hs:∀ b,b < H.size->b ∈ F->b ∈ G):Fr G H H' :=
 ⟨h.size,fun b hb hG=>h.same b hb fun hF=>hG (hs b hb hF)⟩
theorem Fr.set {F:List Nat} {H:A3} {a:Addr} {v:Value} (h:a.block ∈ F):Fr F H (Aw H a v) :=
 ⟨by rw [AA]; exact Jb _,fun b _ hF=>BA (fun e=>hF (e ▸ h))⟩
theorem Fr.push {F:List Nat} {H:A3} {o:Obj}:Fr F H (H.push o) :=
 ⟨by simp,fun b hb _=>by rw [Yt]; simp [Nat.ne_of_lt hb]⟩
theorem Fr.rm {F:List Nat} {H H':A3} {a:Addr} {v:Value} (h0:Fr F H H') (h:a.block ∈ F\/H.size<=a.block):Fr F H (Aw H' a v) :=
 ⟨by rw [AA]; exact h0.size,fun b hb hF=>by
  have hne:b ≠ a.block:=by
   rintro rfl;rcases h with h | h
   ·exact hF h
   ·omega
  rw [BA hne]; exact h0.same b hb hF⟩
theorem Fr.vn {F:List Nat} {H H':A3} {o:Obj} (h0:Fr F H H'):Fr F H (H'.push o):=h0.trans Fr.push
theorem Fr.blk {F:List Nat} {H H':A3} (h:Fr F H H') {b:Nat} {t:TypeId} {vs:List Value} (hb:Blk H b t vs) (hF:b ∉ F):Blk H' b t vs:=by
 unfold Blk; rw [h.same b hb.lt hF]; exact hb
theorem Fr.cell {F:List Nat} {H H':A3} (h:Fr F H H') {a:Addr} (hb:a.block < H.size) (hF:a.block ∉ F):A5 H' a=A5 H a:=by
 unfold A5; rw [h.same _ hb hF]
theorem FC {H:A3} {a:Addr} {v:Value} (h:A5 H a=some v):a.block < H.size:=by
 rcases X9 a.block H.size with h' | h'
 ·exact h'
 ·unfold A5 at h; rw [Z5 h'] at h; simp at h
theorem Fr.zg {F:List Nat} {H H':A3} (h:Fr F H H') {a:Addr} {v:Value} (hc:A5 H a=some v) (hF:a.block ∉ F):A5 H' a=some v:=(h.cell (FC hc) hF).trans hc
def nt (xs:List Int) (i:Nat):Int:=xs.getD i 0
theorem RD {xs:List Int} {i:Nat} (h:i < xs.length):xs[i]?=some (nt xs i):=by
 unfold nt; rw [Jq,J1 h]; rfl
theorem Hw {xs:List Int} {i:Nat} {v:Int} (h:i < xs.length):nt (xs.set i v) i=v:=by
 unfold nt; simp [h]
theorem L7 {xs:List Int} {i j:Nat} {v:Int} (h:i ≠ j):nt (xs.set i v) j=nt xs j:=by
 unfold nt; simp [Y6 h]
def IB (H:A3) (b:Nat) (t:TypeId) (xs:List Int):Prop:=Blk H b t (xs.map (Value.int .i64))
theorem IB.cell {H:A3} {b:Nat} {t:TypeId} {xs:List Int} (h:IB H b t xs) {i:Nat} (hi:i < xs.length):A5 H ⟨b,i,none⟩=some (.int .i64 (nt xs i)):=by
 rw [Blk.cell h,Z0,RD hi]; rfl
theorem IB.wr {H:A3} {b:Nat} {t:TypeId} {xs:List Int} (h:IB H b t xs) {i:Nat} (hi:i < xs.length) (v:Value):wr H ⟨b,i,none⟩ v=some (Aw H ⟨b,i,none⟩ v):=Blk.wr h (by simpa using hi) v
theorem IB.set {H:A3} {b:Nat} {t:TypeId} {xs:List Int} (h:IB H b t xs) (i:Nat) (v:Int):IB (Aw H ⟨b,i,none⟩ (.int .i64 v)) b t (xs.set i v):=by
 unfold IB; rw [Yn]; exact Blk.set h i _
theorem IB.zd {H:A3} {b:Nat} {t:TypeId} {xs:List Int} (h:IB H b t xs) {a:Addr} {v:Value} (hb:b ≠ a.block):IB (Aw H a v) b t xs:=Blk.zd h hb
theorem IB.lt {H:A3} {b:Nat} {t:TypeId} {xs:List Int} (h:IB H b t xs):b < H.size:=Blk.lt h
theorem Qw (cs:List Value):∀ (pre mid suf:List Value),mid.length=cs.length ->
  (cs.zipIdx).foldl (fun (a:Array Value) (x:Value × Nat)=>a.setIfInBounds (pre.length + x.2) x.1) (pre ++ mid ++ suf).toArray=(pre ++ cs ++ suf).toArray:=by
 have key:∀ (cs:List Value) (k:Nat) (done mid pre suf:List Value),done.length=k->mid.length=cs.length ->
   (cs.zipIdx k).foldl (fun (a:Array Value) (x:Value × Nat)=>a.setIfInBounds (pre.length + x.2) x.1) (pre ++ (done ++ mid) ++ suf).toArray=(pre ++ (done ++ cs) ++ suf).toArray:=by
  intro cs
  induction cs with
  | nil =>
    intro k done mid pre suf _ hm; have:mid = []:=(by cases mid <;> simp_all);subst this; rfl
  | cons c cs ih =>
   intro k done mid pre suf hk hm;cases mid with
   | nil=>simp at hm
   | cons x mid =>
    simp only [Wh,W0];have e:(pre ++ (done ++ x :: mid) ++ suf).toArray.setIfInBounds (pre.length + k) c=(pre ++ ((done ++ [c]) ++ mid) ++ suf).toArray:=by
     simp only [List.setIfInBounds_toArray];congr 1;rw [Je,Yl _ _ (by omega)];simp only [Y2,Je,Xw,X1];rw [Yl _ _ (by omega)];simp [hk]
    rw [e];have:=ih (k + 1) (done ++ [c]) mid pre suf (by simp [hk]) (by simpa using hm);rw [this];simp
 intro pre mid suf hm
 simpa using key cs 0 [] mid pre suf rfl hm
def NC (vs:List Value):List (Nat × Value):=vs.zipIdx.map fun x=>(x.2,x.1)
theorem Qz {s:Nat}:∀ (vs:List Value) (k:Nat) (pre rest:List Value),pre.length=k * s->rest.length=vs.length * s->(∀ v ∈ vs,v.cells.size=s) ->
  Instr.fill (fun i=>some (i * s,s)) (pre ++ rest).toArray ((vs.zipIdx k).map fun x=>(x.2,x.1))=some (pre ++ vs.flatMap (·.cells.toList)).toArray:=by
 intro vs
 induction vs with
 | nil =>
   intro k pre rest _ hr _; have:rest = []:=(by cases rest <;> simp_all);subst this; simp [Instr.fill]
 | cons v vs ih =>
  intro k pre rest hp hr hv;have hvs:=hv v (by simp);simp only [Wh,Jz,Instr.fill];have hlen:s<=rest.length:=(by rw [hr]; simp [Y4];);rw [J4 (by simp [hvs,hp]; omega)];have hsplit:rest=rest.take s ++ rest.drop s:=(Zn s rest).symm;have hf:=Qw v.cells.toList pre (rest.take s) (rest.drop s) (by simp [hvs]; omega);have e:v.cells.zipIdx.foldl (fun cs x=>cs.setIfInBounds (k * s + x.2) x.1) (pre ++ rest).toArray=(pre ++ v.cells.toList ++ rest.drop s).toArray:=by
   rw [<- hf,<- hp];rw [<- Xk,Wz];congr 2;rw [Je,Zn]
  rw [show (v.cells.zipIdx.foldl (fun cs x=>match x with | (c,j)=>cs.setIfInBounds (k * s + j) c) (pre ++ rest).toArray)=(pre ++ v.cells.toList ++ rest.drop s).toArray from e];rw [ih (k + 1) (pre ++ v.cells.toList) (rest.drop s) (by simp [hp,hvs,Y4]) (by simp [hr,Y4]) (fun u hu=>hv u (by simp [hu]))];simp
theorem Bn {z:Array Value} {n:Nat}:(AO z n).size=n:=by simp [AO]
theorem Iu {P:Program} {H:A3} {t:TypeId} {vs:List Value}:buildSliceV P H t vs.length (NC vs) =
  (AN P t).bind fun e=>(Au P e).bind fun s=>(AD P e).bind fun _=>if vs.length * s<=16777216 then
   (if (vs.all fun v=>v.cells.size == s)=true then some (.slice (some ⟨H.size,0,none⟩) vs.length vs.length,H.push (.cells (vs.flatMap (·.cells.toList)).toArray e)) else buildSliceV P H t vs.length (NC vs)) else none:=by
 conv=>lhs; unfold buildSliceV
 cases he:AN P t with
 | none=>rfl
 | some e =>
  cases hs:Au P e with
  | none=>simp [hs]
  | some s =>
   cases hz:AD P e with
   | none=>simp [hs,hz]
   | some z =>
    simp only [hs,hz,J0];split
    ·rename_i hl;split
     ·rename_i ha;rw [Jo] at ha;have:=Qz (s:=s) vs 0 [] (AO z.cells (vs.length * s)).toList (by simp) (by simp [Bn]) (fun v hv=>by simpa using ha v hv);unfold Li NC;simp only [X1,Yr] at this;rw [this];rfl
     ·unfold buildSliceV;simp only [he,hs,hz,J0,J8 hl]
    ·rfl
section
variable {P:Program} {H:A3} {t:TypeId} {a b c d:Value}
def bsl (P:Program) (H:A3) (t:TypeId) (vs:List Value):Option (Value × A3) :=
 (AN P t).bind fun e=>(Au P e).bind fun s=>(AD P e).bind fun _ =>
  chk (vs.length * s<=16777216/\(vs.all fun v=>v.cells.size == s)=true) (some (.slice (some ⟨H.size,0,none⟩) vs.length vs.length,H.push (.cells (vs.flatMap (·.cells.toList)).toArray e)))
theorem Ee {vs:List Value} {r:Value × A3} (h:bsl P H t vs=some r):buildSliceV P H t vs.length (NC vs)=some r:=by
 unfold bsl at h;rw [Iu];cases he:AN P t with
 | none=>simp [he] at h
 | some e =>
  cases hs:Au P e with
  | none=>simp [he,hs] at h
  | some s =>
   cases hz:AD P e with
   | none=>simp [he,hs,hz] at h
   | some z =>
    simp only [he,hs,hz,J0] at h ⊢;obtain ⟨⟨h1,h2⟩,h3⟩:=Dh h;rw [J8 h1,J8 h2];exact h3
theorem Fi {e:TypeId} {z:Value} (he:AN P t=some e) (hs:Au P e=some 1) (hz:AD P e=some z) (ha:a.cells = #[a]) :
  buildSliceV P H t 1 [(0,a)]=some (.slice (some ⟨H.size,0,none⟩) 1 1,H.push (.cells #[a] e)):=by
 refine Ee (vs:=[a]) ?_
 simp [bsl,he,hs,hz,chk,ha]
theorem Sq {e:TypeId} {z:Value} (he:AN P t=some e) (hs:Au P e=some 1) (hz:AD P e=some z) (ha:a.cells = #[a]) (hb:b.cells = #[b]) (hc:c.cells = #[c]) :
  buildSliceV P H t 3 [(0,a),(1,b),(2,c)]=some (.slice (some ⟨H.size,0,none⟩) 3 3,H.push (.cells #[a,b,c] e)):=by
 refine Ee (vs:=[a,b,c]) ?_
 simp [bsl,he,hs,hz,chk,ha,hb,hc]
theorem PD {e:TypeId} {s:Nat} {z:Value} (he:AN P t=some e) (hs:Au P e=some s) (hz:AD P e=some z) :
  buildSliceV P H t 0 []=some (.slice (some ⟨H.size,0,none⟩) 0 0,H.push (.cells #[] e)):=by
 refine Ee (vs:=[]) ?_
 simp [bsl,he,hs,hz,chk]
end
@[go_sem] theorem ZI {P:Program} {H:A3} {t:TypeId} {k k':IntKind} {l c:Int}:makeV P H t (.int k l) (.int k' c)=(AN P t).bind fun e=>(Bq P e).bind fun b=>(Au P e).bind fun s=>(AD P e).bind fun z =>
  chk (0<=l/\l<=c/\c<=281474976710656/\(b:Int) * c<=281474976710656) (some (.slice (some ⟨H.size,0,none⟩) l.toNat c.toNat,H.push (.cells (AO z.cells (c.toNat * s)) e))):=(rfl)
@[go_sem] theorem UV {z:Value} {n:Nat}:AO #[z] n=(List.replicate n z).toArray:=by
 unfold AO;apply Zk;simp only [Array.toList_map,Array.toList_range];apply Ye (by simp);intro i h1 h2;simp [Vf]
attribute [go_sem] Ve
def DY (cells:List Value) (off:Nat):List Value->List Value
 | []=>cells
 | v :: vs=>DY (cells.set off v) (off + 1) vs
def CG (place:Nat->Option (Nat × Nat)) (cells:List Value):List (Nat × Value)->Option (List Value)
 | []=>some cells
 | x :: r=>(place x.1).bind fun p=>chk (x.2.cells.size=p.2/\p.1 + p.2<=cells.length) (CG place (DY cells p.1 x.2.cells.toList) r)
theorem KV:∀ (vs:List Value) (cells:List Value) (off k:Nat),
  (vs.zipIdx k).foldl (fun (a:Array Value) (x:Value × Nat)=>a.setIfInBounds (off + x.2) x.1) cells.toArray=(DY cells (off + k) vs).toArray:=by
 intro vs
 induction vs with
 | nil=>intro cells off k; rfl
 | cons v vs ih =>
  intro cells off k;simp only [Wh,W0,List.setIfInBounds_toArray,DY];rw [ih];rfl
theorem Lh {place:Nat->Option (Nat × Nat)}:∀ (parts:List (Nat × Value)) (cells:List Value) (r:List Value),CG place cells parts=some r->Instr.fill place cells.toArray parts=some r.toArray:=by
 intro parts;induction parts with
 | nil=>intro cells r h; simp only [CG,J5] at h; subst h; rfl
 | cons x rest ih =>
  intro cells r h;obtain ⟨i,v⟩:=x;simp only [CG] at h;cases hp:place i with
  | none=>simp [hp] at h
  | some p =>
   obtain ⟨off,size⟩:=p;simp only [hp,J0] at h;obtain ⟨⟨h1,h2⟩,h3⟩:=Dh h;simp only [Instr.fill,hp];rw [J4 (by simp [h1]; omega)];have e:v.cells.zipIdx.foldl (fun cs x=>cs.setIfInBounds (off + x.2) x.1) cells.toArray=(DY cells off v.cells.toList).toArray:=by
    rw [<- Xk,Wz];exact KV v.cells.toList cells off 0
   rw [show (v.cells.zipIdx.foldl (fun cs x=>match x with | (c,j)=>cs.setIfInBounds (off + j) c) cells.toArray)=(DY cells off v.cells.toList).toArray from e];exact ih _ _ h3
def Gq (P:Program) (t:TypeId) (parts:List (Nat × Value)):Option Value :=
 match Ch P t with
 | some ps=>(AD P t).bind fun z=>(CG (ps[·]?) z.cells.toList parts).map fun l=>.agg l.toArray
 | none=>(Iw P t).bind fun e=>(AD P t).bind fun z=>(CG (fun i=>some (i * e.2,e.2)) z.cells.toList parts).map fun l=>.agg l.toArray
theorem Fh {P:Program} {t:TypeId} {parts:List (Nat × Value)} {v:Value} (h:Gq P t parts=some v):D4 P t parts=some v:=by
 unfold Gq at h;unfold D4;split at h
 ·rename_i ps hps;simp only [Zb,Zj] at h;obtain ⟨z,hz,l,hl,rfl⟩:=h;have:=Lh parts z.cells.toList l hl;simp only [Yr] at this;simp only [hps,hz,J0,this,Ju]
 ·rename_i hps;simp only [Zb,Zj] at h;obtain ⟨e,he,z,hz,l,hl,rfl⟩:=h;have:=Lh parts z.cells.toList l hl;simp only [Yr] at this;simp only [hps,he,hz,J0,this,Ju]
structure ElT (P:Program) (t:TypeId) (e size bytes:Nat) (z:Value):Prop where
 elem:AN P t=some e
 size:Au P e=some size
 bytes:Bq P e=some bytes
 zero:AD P e=some z
theorem ElT.under {P:Program} {t:TypeId} {e size bytes:Nat} {z:Value} (h:ElT P t e size bytes z):P.underlying t=some (.slice e):=by
 have he:=h.elem;unfold AN at he;cases hu:P.underlying t with
 | none=>simp [hu] at he
 | some d=>cases d <;> simp [hu] at he; subst he; rfl
theorem Bi {c:Addr->Option Value} {b:Nat}:∀ (l:List Value) (o i:Nat),(∀ j (h:j < l.length),c ⟨b,o + i + j,none⟩=some l[j])->Ay c ⟨b,o,none⟩ i l.length=some l:=by
 intro l;induction l with
 | nil=>intro o i _; rfl
 | cons v l ih =>
  intro o i h;simp only [Za,Ay];have h0:=h 0 (by simp);simp only [List.getElem_cons_zero,Zc] at h0;rw [AS,h0];simp only [J0];rw [ih o (i + 1) (fun j hj=>by have:=h (j + 1) (by simpa using hj); simpa [Zs,Xo 1 j] using this)];rfl
theorem Sv {P:Program} {H H':A3} {t e bytes:Nat} {z v:Value} {b o len cap xb:Nat} {k:Value->A3->Prop} (hT:ElT P t e 1 bytes z) (hfit:len < cap)
  (hx:A5 H ⟨xb,0,none⟩=some v) (hv:Cb v=true) (hw:wr H ⟨b,o + len,none⟩ v=some H') (hk:k (.slice (some ⟨b,o,none⟩) (len + 1) cap) H') :
  @I9 P t t (.slice (some ⟨b,o,none⟩) len cap) (.slice (some ⟨xb,0,none⟩) 1 1) ⟨H⟩ ⟨k⟩:=by
 refine Or.inl ?_
 show DK P H t t _ _ k
 unfold DK
 simp only [Aq]
 refine ⟨e,hT.elem,1,hT.size,bytes,hT.bytes,z,hT.zero,1,rfl,[v],?_,.slice e,hT.under,by simp,?_⟩
 ·show Ay (A5 H) ⟨xb,0,none⟩ 0 1=some [v]
  have:=Bi (c:=A5 H) (b:=xb) [v] 0 0 (by intro j hj; simp at hj; subst hj; simpa using hx)
  simpa using this
 ·rw [J8 (by omega)]
  refine ⟨H',?_,hk⟩
  rw [BK _ _ _ (by simp [hv]),Gt,AS,Jy]
  exact hw
theorem YE {n:Nat} {P:Program} {c:Code} {K:En->A3->Prop} {Q:Exit->En->A3->Prop} {U:En} {H:A3} (R:En->A3->Prop)
  (h:@EK ⟨CW n P c (D8 (fun U H=>@EK ⟨R U H⟩) (fun _ _ _=>False)) U H⟩) (h2:∀ U H,R U H->K U H):@EK ⟨CW n P c (D8 K Q) U H⟩:=by
 refine CW.mono ?_ h
 intro e U H hx
 cases e <;> first | exact h2 _ _ hx | exact hx.elim
theorem Fu {n:Nat}:∀ (r c:Nat),c<=2 * n + 200->Builtin.growBy n r c<=2 * n + 200:=by
 intro r;induction r with
 | zero=>intro c hc; exact hc
 | succ r ih =>
  intro c hc;unfold Builtin.growBy;split
  ·exact hc
  ·exact ih _ (by omega)
theorem Eo {n c:Nat} (h:c < n):Builtin.nextslicecap n c<=2 * n + 200:=by
 unfold Builtin.nextslicecap;split
 ·omega
 ·split
  ·omega
  ·exact Fu 4 c (by omega)
def own:Value->List Nat
 | .slice (some a) _ _=>[a.block]
 | _=>[]
structure Vec (H:A3) (e z:Nat) (v:Value) (vs:List Value):Prop where
 ex:(v=.slice none 0 0/\vs = [])\/∃ b len cap pre rest,v=.slice (some ⟨b,pre.length,none⟩) len cap/\Blk H b e (pre ++ vs ++ rest)/\vs.length=len * z/\rest.length=(cap - len) * z/\len<=cap
theorem Vec.nil {H:A3} {e z:Nat}:Vec H e z (.slice none 0 0) []:=⟨.inl ⟨rfl,rfl⟩⟩
theorem Vec.lt {H:A3} {e z:Nat} {v:Value} {vs:List Value} (h:Vec H e z v vs):∀ b ∈ own v,b < H.size:=by
 rcases h.ex with ⟨rfl,_⟩ | ⟨b,len,cap,pre,rest,rfl,hb,_⟩
 ·simp [own]
 ·simp [own]; exact hb.lt
theorem Vec.frame {H H':A3} {e z:Nat} {v:Value} {vs:List Value} (h:Vec H e z v vs) {F:List Nat} (hf:Fr F H H') (hd:∀ b ∈ own v,b ∉ F):Vec H' e z v vs:=by
 rcases h.ex with h1 | ⟨b,len,cap,pre,rest,rfl,hb,h2⟩
 ·exact ⟨.inl h1⟩
 ·exact ⟨.inr ⟨b,len,cap,pre,rest,rfl,hf.blk hb (hd b (by simp [own])),h2⟩⟩
theorem Vec.len {H:A3} {e z:Nat} {v:Value} {vs:List Value} (h:Vec H e z v vs):∃ a len cap,v=.slice a len cap/\vs.length=len * z:=by
 rcases h.ex with ⟨rfl,rfl⟩ | ⟨b,len,cap,pre,rest,rfl,_,h2,_⟩
 ·exact ⟨_,_,_,rfl,by simp⟩
 ·exact ⟨_,_,_,rfl,h2⟩
theorem Vec.cell {H:A3} {e z:Nat} {v:Value} {vs:List Value} (h:Vec H e z v vs) (hn:vs ≠ []):∃ b o len cap,v=.slice (some ⟨b,o,none⟩) len cap/\vs.length=len * z/\∀ i,i < vs.length->A5 H ⟨b,o + i,none⟩=vs[i]?:=by
 rcases h.ex with ⟨rfl,rfl⟩ | ⟨b,len,cap,pre,rest,rfl,hb,h2,_⟩
 ·simp at hn
 ·refine ⟨b,pre.length,len,cap,rfl,h2,fun i hi=>?_⟩;rw [hb.cell,Je,Jf (by omega),Y2,Jg hi]
theorem Gu {e b:Nat}:∀ (new pre old rest:List Value) (H:A3),Blk H b e (pre ++ old ++ rest)->old.length=new.length ->
  ∃ H',wrs H ⟨b,pre.length,none⟩ new 0=some H'/\Blk H' b e (pre ++ new ++ rest)/\Fr [b] H H':=by
 have key:∀ (new pre old rest done:List Value) (H:A3),Blk H b e (pre ++ (done ++ (old ++ rest)))->old.length=new.length ->
   ∃ H',wrs H ⟨b,pre.length,none⟩ new done.length=some H'/\Blk H' b e (pre ++ (done ++ (new ++ rest)))/\Fr [b] H H':=by
  intro new
  induction new with
  | nil =>
    intro pre old rest done H hb hl; have:old = []:=(by cases old <;> simp_all);subst this; exact ⟨H,rfl,hb,Fr.refl _ _⟩
  | cons v new ih =>
   intro pre old rest done H hb hl;cases old with
   | nil=>simp at hl
   | cons u old =>
    have hw:=hb.wr (i:=pre.length + done.length) (by simp) v;have hs:=hb.set (pre.length + done.length) v;have e1:(pre ++ (done ++ (u :: old ++ rest))).set (pre.length + done.length) v=pre ++ ((done ++ [v]) ++ (old ++ rest)):=by
     rw [Yl _ _ (by omega),Y2,Yl _ _ (by omega)];simp
    rw [e1] at hs;obtain ⟨H',h1,h2,h3⟩:=ih pre old rest (done ++ [v]) _ hs (by simpa using hl);refine ⟨H',?_,by simpa using h2,(Fr.set (by simp)).trans h3⟩;simp only [wrs];rw [AS,hw,J0];simpa using h1
 intro new pre old rest H hb hl
 have:=key new pre old rest [] H (by simpa [Je] using hb) hl
 simpa [Je] using this
theorem BJ {z:Array Value} {n:Nat}:(Builtin.zeroCells z n).size=n * z.size:=by simp [Builtin.zeroCells]
theorem Hc {P:Program} {H:A3} {t xt e z bytes n:Nat} {zero s x:Value} {vs new:List Value} {d:TypeDesc} {k:Value->A3->Prop} (hT:ElT P t e z bytes zero) (hz:zero.cells.size=z) (hv:Vec H e z s vs)
  (hx:M9 x=some n) (hsrc:AR H z n x=some new) (hu:P.underlying xt=some d) (hnk:∀ kk,d ≠ .int kk) (hone:∀ u ∈ new,Cb u=true) (hnew:new.length=n * z)
  (hlen:∀ a l c,s=.slice a l c->(2 * (l + n) + 200) * (bytes + 1)<=281474976710656)
  (hk:∀ v' H',Vec H' e z v' (vs ++ new)->Fr (own s) H H'->(∀ b ∈ own v',b ∈ own s\/H.size<=b)->(∀ a l c,s=.slice a l c->∃ a' c',v'=.slice a' (l + n) c')->k v' H') :
  @I9 P t xt s x ⟨H⟩ ⟨k⟩:=by
 refine Or.inl ?_
 show DK P H t xt _ _ k
 have fresh:∀ a l c old,s=.slice a l c->c < l + n->AR H z l s=some old->old=vs->DK P H t xt s x k:=by
  intro a l c old hs hc hold ho;subst ho;have hl:=hlen a l c hs;have hl2:2 * (l + n) + 200<=281474976710656:=Js (Nat.le_mul_of_pos_right _ (by omega)) hl;subst hs;unfold DK;simp only [Aq];refine ⟨e,hT.elem,z,hT.size,bytes,hT.bytes,zero,hT.zero,n,hx,new,hsrc,d,hu,hnk,?_⟩;rw [J4 (by omega)];have h3:=Eo hc;refine ⟨?_,by omega,fun _=>by omega,old,hold,?_⟩
  ·have:Builtin.nextslicecap (l + n) c * bytes<=(2 * (l + n) + 200) * bytes:=Y3 _ h3;have h4:(2 * (l + n) + 200) * bytes<=(2 * (l + n) + 200) * (bytes + 1):=Nat.mul_le_mul_left _ (by omega);omega
  ·intro newCap hc1 _;have hvl:old.length=l * z:=by
    obtain ⟨a',l',c',he,hl'⟩:=hv.len;simp only [Value.slice.injEq] at he;rw [he.2.1]; exact hl'
   refine hk _ _ ⟨.inr ⟨H.size,l + n,newCap,[],(Builtin.zeroCells zero.cells (newCap - (l + n))).toList,rfl,?_,by simp [hvl,hnew,Y4],by simp [BJ,hz],hc1⟩⟩ Fr.push ?_ ?_
   ·refine Blk.new ?_;apply Zk;simp
   ·intro b hb;simp [own] at hb;exact .inr (by omega)
   ·intro a' l' c' he;simp only [Value.slice.injEq] at he;obtain ⟨_,rfl,_⟩:=he;exact ⟨_,_,rfl⟩
 rcases hv.ex with ⟨rfl,rfl⟩ | ⟨b,len,cap,pre,rest,rfl,hb,hl,hr,hle⟩
 ·by_cases hn:n=0
  ·subst hn
   have hn0:new = []:=by cases new <;> simp_all
   subst hn0
   unfold DK
   simp only [Aq]
   refine ⟨e,hT.elem,z,hT.size,bytes,hT.bytes,zero,hT.zero,0,hx,[],hsrc,d,hu,hnk,?_⟩
   rw [J8 (by omega)]
   refine hk _ _ Vec.nil (Fr.refl _ _) (by simp [own]) ?_
   intro a l c he
   simp only [Value.slice.injEq] at he
   obtain ⟨_,rfl,_⟩:=he
   exact ⟨_,_,rfl⟩
  ·exact fresh none 0 0 [] rfl (by omega) rfl rfl
 ·by_cases hfit:len + n<=cap
  ·unfold DK
   simp only [Aq]
   refine ⟨e,hT.elem,z,hT.size,bytes,hT.bytes,zero,hT.zero,n,hx,new,hsrc,d,hu,hnk,?_⟩
   rw [J8 hfit]
   have h1:n * z<=rest.length:=by rw [hr]; exact Y3 _ (by omega)
   have hb':Blk H b e ((pre ++ vs) ++ rest.take (n * z) ++ rest.drop (n * z)):=by
    rw [Je,Zn]; exact hb
   obtain ⟨H',hw,hb2,hf⟩:=Gu new (pre ++ vs) _ _ H hb' (by simp [hnew,h1])
   refine ⟨H',?_,?_⟩
   ·rw [BK _ _ _ hone,AS,<- hl]
    rw [Jv] at hw
    exact hw
   ·refine hk _ _ ⟨.inr ⟨b,len + n,cap,pre,rest.drop (n * z),rfl,?_,by simp [hl,hnew,Y4],?_,hfit⟩⟩ (by simpa [own] using hf) (by simp [own]) ?_
    ·simpa [Je] using hb2
    ·simp only [Xt,hr]
     rw [<- Nat.sub_mul]
     congr 1
     omega
    ·intro a l c he
     simp only [Value.slice.injEq] at he
     obtain ⟨_,rfl,_⟩:=he
     exact ⟨_,_,rfl⟩
  ·refine fresh _ len cap vs rfl (by omega) ?_ rfl
   show Ay (A5 H) ⟨b,pre.length,none⟩ 0 (len * z)=some vs
   rw [<- hl]
   refine Bi vs pre.length 0 ?_
   intro j hj
   rw [hb.cell,Zc,Je,Jf (by omega),Y2,Jg hj,J1 hj]
theorem Hd {P:Program} {H:A3} {t e z bytes n:Nat} {zero s:Value} {vs:List Value} {new:List Value} {k:Value->A3->Prop} (hT:ElT P t e z bytes zero) (hz:zero.cells.size=z) (hv:Vec H e z s vs)
  (hone:∀ u ∈ new,Cb u=true) (hnew:new.length=n * z) (hlen:∀ a l c,s=.slice a l c->(2 * (l + n) + 200) * (bytes + 1)<=281474976710656)
  (hk:∀ v' H',Vec H' e z v' (vs ++ new)->Fr (own s) H H'->(∀ b ∈ own v',b ∈ own s\/H.size<=b)->(∀ a l c,s=.slice a l c->∃ a' c',v'=.slice a' (l + n) c')->k v' H') :
  @I9 P t t s (.slice (some ⟨H.size,0,none⟩) n n) ⟨H.push (.cells new.toArray e)⟩ ⟨k⟩:=by
 have hb:Blk (H.push (.cells new.toArray e)) H.size e new:=Blk.new rfl
 refine Hc (n:=n) (new:=new) hT hz (hv.frame (F:=[]) Fr.push (by simp)) rfl ?_ hT.under (by simp) hone hnew hlen ?_
 ·show Ay (A5 _) ⟨H.size,0,none⟩ 0 (n * z)=some new
  rw [<- hnew]
  refine Bi new 0 0 ?_
  intro j hj
  rw [hb.cell]; simp [hj]
 ·intro v' H' g1 g2 g3 g4
  refine hk v' H' g1 ⟨Js (by simp) g2.size,fun b hb' hF=>?_⟩ (fun b hb'=>(g3 b hb').imp id (fun h=>Js (by simp) h)) g4
  rw [g2.same b (by simp; omega) hF,Yt]
  simp [Nat.ne_of_lt hb']
theorem AK {P:Program} {H:A3} {t e bytes:Nat} {zero s v:Value} {vs:List Value} {k:Value->A3->Prop} (hT:ElT P t e 1 bytes zero) (hz:zero.cells.size=1) (hv:Vec H e 1 s vs)
  (h1:Cb v=true) (hlen:(2 * (vs.length + 1) + 200) * (bytes + 1)<=281474976710656)
  (hk:∀ v' H',Vec H' e 1 v' (vs ++ [v])->Fr (own s) H H'->(∀ b ∈ own v',b ∈ own s\/H.size<=b)->(∃ a' c',v'=.slice a' (vs.length + 1) c')->k v' H') :
  @I9 P t t s (.slice (some ⟨H.size,0,none⟩) 1 1) ⟨H.push (.cells #[v] e)⟩ ⟨k⟩:=by
 obtain ⟨a,len,cap,rfl,hl⟩:=hv.len
 rw [Jy] at hl
 refine Hd (n:=1) (new:=[v]) hT hz hv (by simp [h1]) rfl ?_ ?_
 ·intro a' l c he
  simp only [Value.slice.injEq] at he
  obtain ⟨_,rfl,_⟩:=he
  rw [<- hl]; exact hlen
 ·intro v' H' g1 g2 g3 g4
  obtain ⟨a',c',rfl⟩:=g4 _ _ _ rfl
  exact hk _ _ g1 g2 g3 ⟨a',c',by rw [hl]⟩
theorem Vec.qs {H:A3} {e:Nat} {v:Value} {vs:List Value} (h:Vec H e 1 v vs) {i:Nat} (hi:i < vs.length) (u:Value) :
  ∃ b o cap,v=.slice (some ⟨b,o,none⟩) vs.length cap/\wr H ⟨b,o + i,none⟩ u=some (Aw H ⟨b,o + i,none⟩ u)/\Vec (Aw H ⟨b,o + i,none⟩ u) e 1 v (vs.set i u)/\A5 H ⟨b,o + i,none⟩=vs[i]?:=by
 rcases h.ex with ⟨rfl,rfl⟩ | ⟨b,len,cap,pre,rest,rfl,hb,h2,h3,h4⟩
 ·simp at hi
 ·rw [Jy] at h2
  subst h2
  refine ⟨b,pre.length,cap,rfl,hb.wr (by simp; omega) u,⟨.inr ⟨b,vs.length,cap,pre,rest,rfl,?_,by simp,h3,h4⟩⟩,?_⟩
  ·have:=hb.set (pre.length + i) u
   rwa [Je,Yl _ _ (by omega),Y2,List.set_append_left _ _ hi,<- Je] at this
  ·rw [hb.cell,Je,Jf (by omega),Y2,Jg hi]
def bt (xs:List Bool) (i:Nat):Bool:=xs.getD i false
theorem UY {xs:List Bool} {i:Nat} (h:i < xs.length):xs[i]?=some (bt xs i):=by
 unfold bt; rw [Jq,J1 h]; rfl
theorem Dt {xs:List Bool} {i:Nat} {v:Bool} (h:i < xs.length):bt (xs.set i v) i=v:=by
 unfold bt; simp [h]
theorem Ds {xs:List Bool} {i j:Nat} {v:Bool} (h:i ≠ j):bt (xs.set i v) j=bt xs j:=by
 unfold bt; simp [Y6 h]
theorem Uf {place:Nat->Option (Nat × Nat)}:∀ (parts:List (Nat × Value)) (cells:List Value),Instr.fill place cells.toArray parts=(CG place cells parts).map List.toArray:=by
 intro parts;induction parts with
 | nil=>intro cells; rfl
 | cons x rest ih =>
  intro cells;obtain ⟨i,v⟩:=x;cases hp:place i with
  | none=>simp [Instr.fill,CG,hp]
  | some p =>
   obtain ⟨off,size⟩:=p;have e:v.cells.zipIdx.foldl (fun cs x=>cs.setIfInBounds (off + x.2) x.1) cells.toArray=(DY cells off v.cells.toList).toArray:=by
    rw [<- Xk,Wz];exact KV v.cells.toList cells off 0
   simp only [Instr.fill,CG,hp,J0,chk];by_cases hc:v.cells.size=size/\off + size<=cells.length
   ·rw [J8 hc,J4 (by simp [hc.1]; omega)];rw [show (v.cells.zipIdx.foldl (fun cs x=>match x with | (c,j)=>cs.setIfInBounds (off + j) c) cells.toArray)=(DY cells off v.cells.toList).toArray from e];exact ih _
   ·rw [J4 hc,J8 (by
     simp only [ne_eq,Xe,gt_iff_lt,Z9,Jk];rcases X9 cells.length (off + v.cells.size) with h | h
     ·exact .inr h
     ·left; intro e2; exact hc ⟨e2,by omega⟩)]
    rfl
@[go_sem] theorem j04 {P:Program} {t:TypeId} {parts:List (Nat × Value)}:D4 P t parts=match Ch P t with
 | some ps=>(AD P t).bind fun z=>(CG (ps[·]?) z.cells.toList parts).map fun l=>.agg l.toArray
 | none=>(Iw P t).bind fun e=>(AD P t).bind fun z=>(CG (fun i=>some (i * e.2,e.2)) z.cells.toList parts).map fun l=>.agg l.toArray:=by
 unfold D4
 have key:∀ (pl:Nat->Option (Nat × Nat)) (z:Value),(Instr.fill pl z.cells parts).map Value.agg=(CG pl z.cells.toList parts).map fun l=>.agg l.toArray:=by
  intro pl z;have:=Uf (place:=pl) parts z.cells.toList;simp only [Yr] at this;rw [this,Option.map_map];rfl
 simp only [key]
 cases Ch P t <;> rfl
@[go_sem] theorem ZZ {pl:Nat->Option (Nat × Nat)} {cells:List Value}:CG pl cells []=some cells:=(rfl)
@[go_sem] theorem XP {pl:Nat->Option (Nat × Nat)} {cells:List Value} {i:Nat} {v:Value} {r:List (Nat × Value)} :
  CG pl cells ((i,v) :: r)=(pl i).bind fun p=>chk (v.cells.size=p.2/\p.1 + p.2<=cells.length) (CG pl (DY cells p.1 v.cells.toList) r):=(rfl)
@[go_sem] theorem j0o {cells:List Value} {o:Nat}:DY cells o []=cells:=(rfl)
@[go_sem] theorem YU {cells vs:List Value} {o:Nat} {v:Value}:DY cells o (v :: vs)=DY (cells.set o v) (o + 1) vs:=(rfl)
@[go_sem] theorem ZJ {l:List Value} {u v:Value}:(u :: l).set 0 v=v :: l:=(rfl)
@[go_sem] theorem ZK {l:List Value} {u v:Value} {i:Nat}:(u :: l).set (i + 1) v=u :: l.set i v:=(rfl)
@[go_sem] theorem j3q {l:List Value}:l.toArray.toList=l:=(rfl)
@[go_sem] theorem j0n {l:List Value}:l.toArray.size=l.length:=(rfl)
@[go_sem] theorem ZP {l:List Value} {v:Value}:(v :: l).length=l.length + 1:=(rfl)
@[go_sem] theorem j1z:([]:List Value).length=0:=(rfl)
attribute [go_sem] Nat.reduceLeDiff Zt
section
variable {n:Nat} {P:Program}
theorem Oq {ops:Array Oper} {Q Q':Exit->En->A3->Prop} (hq:∀ e U H,Q e U H->Q' e U H):∀ (l:List Oper) (U:En) (H:A3),GL n P ops Q l U H->GL n P ops Q' l U H:=by
 intro l;induction l with
 | nil=>intro U H h; exact hq _ _ _ h
 | cons o l ih=>intro U H h; exact CL (fun U H=>ih U H) hq h
theorem Px (c:Code):∀ {Q Q':Exit->En->A3->Prop} (_:∀ e U H,Q e U H->Q' e U H) {U:En} {H:A3},cw n P c Q U H->cw n P c Q' U H:=by
 induction c with
 | skip=>intro Q Q' hq U H h; exact hq _ _ _ h
 | region id ops draw =>
  intro Q Q' hq U H h;cases draw with
  | true=>exact CW.mono hq h
  | false=>exact Oq hq _ _ _ h
 | seq x y ihx ihy =>
  intro Q Q' hq U H h;refine ihx ?_ h;intro e U H hx;cases e <;> first | exact ihy hq hx | exact hq _ _ _ hx
 | cond c x y ihx ihy =>
  intro Q Q' hq U H h;simp only [cw] at h ⊢;unfold FY at h ⊢;split at h
  ·exact ⟨fun e=>ihx hq (h.1 e),fun e=>ihy hq (h.2 e)⟩
  ·exact h.elim
 | block id c ih =>
  intro Q Q' hq U H h;refine ih ?_ h;intro e U H hx;cases e with
  | exit i =>
   simp only [I8] at hx ⊢;split at hx
   ·rename_i hi; rw [J8 hi]; exact hq _ _ _ hx
   ·rename_i hi; rw [J4 hi]; exact hq _ _ _ hx
  | _=>exact hq _ _ _ hx
 | exit id=>intro Q Q' hq U H h; exact hq _ _ _ h
 | ret=>intro Q Q' hq U H h; exact hq _ _ _ h
 | label l=>intro Q Q' hq U H h; exact hq _ _ _ h
 | _=>intro Q Q' hq U H h; exact CW.mono hq h
theorem Bp {c:Code} {K:En->A3->Prop} {Q:Exit->En->A3->Prop} {U:En} {H:A3} (R:En->A3->Prop)
  (h:cw n P c (D8 (fun U H=>@EK ⟨R U H⟩) Q) U H) (h2:∀ U H,R U H->K U H):cw n P c (D8 K Q) U H:=by
 refine Px c ?_ h
 intro e U H hx
 cases e <;> first | exact h2 _ _ hx | exact hx
theorem PZ {H:A3} {c:Array Value} {t:TypeId} {i:Nat} {v:Value}:Aw (H.push (.cells c t)) ⟨H.size,i,none⟩ v=H.push (.cells (c.setIfInBounds i v) t):=by
 unfold Aw;apply W8;intro j;rw [Zu];split
 ·rename_i e;simp at e; subst e;simp
 ·rename_i e;simp at e;rw [Yt,Yt];simp [Ne.symm e]
theorem QP {H:A3} {t:TypeId}:∀ (new pre old:List Value),old.length=new.length->wrs (H.push (.cells (pre ++ old).toArray t)) ⟨H.size,0,none⟩ new pre.length=some (H.push (.cells (pre ++ new).toArray t)):=by
 intro new;induction new with
 | nil =>
   intro pre old h; have:old = []:=(by cases old <;> simp_all);subst this; rfl
 | cons v new ih =>
  intro pre old h;cases old with
  | nil=>simp at h
  | cons u old =>
   have hb:Blk (H.push (.cells (pre ++ u :: old).toArray t)) H.size t (pre ++ u :: old):=Blk.new rfl;simp only [wrs];rw [AS,Zv,hb.wr (by simp) v,J0,PZ];have e:(pre ++ u :: old).toArray.setIfInBounds pre.length v=((pre ++ [v]) ++ old).toArray:=(by simp);have:=ih (pre ++ [v]) old (by simpa using h);rw [e];simpa using this
theorem PU {H:A3} {z vs:List Value} {t:TypeId} (hs:Au P t=some vs.length) (hz:z.length=vs.length) (h1:∀ v ∈ vs,Cb v=true):B1 P (H.push (.cells z.toArray t)) t ⟨H.size,0,none⟩ (.agg vs.toArray)=some (H.push (.cells vs.toArray t)):=by
 rw [CH (vs:=vs) rfl h1,hs,J0,chk,J8 rfl];exact QP vs [] z hz
end
end Go.HL
