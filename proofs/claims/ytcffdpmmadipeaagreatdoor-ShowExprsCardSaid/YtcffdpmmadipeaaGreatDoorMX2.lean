/- Texts of this proof, put together: HLDraw, HLDrawVc, HLMem, HLApp, HLVec, HLCut, HLMap, HLStr. The conditions of each theorem stand in it. -/
import Derived.Test.YtcffdpmmadipeaaGreatDoorMX1
import Derived.Laws.Strings
set_option linter.unusedSimpArgs false
set_option linter.unusedVariables false
namespace Go.HL
def isQ:Op→Bool
 | .move _ | .assign _ | .pick .. | .load .. | .nilCheck _ | .binOp .. | .unOp .. | .convert .. | .makeInterface .. | .makeFunc .. | .slice .. | .fieldAddr .. | .field .. | .indexAddr .. | .index ..
 | .lookup .. | .typeAssert .. | .extract .. | .build ..=>true
 | .call c=>match c.callee with
  | .builtin .len | .builtin .max | .builtin .min | .builtin .cap=>true
  | _=>false
 | _=>false
theorem map_congr {ρ ρ':Operand→Value}:∀ (l:List Operand),(∀ x ∈ l,ρ x=ρ' x)→l.map ρ=l.map ρ':=fun _ h=>List.map_congr_left h
theorem optMap_congr {ρ ρ':Operand→Value}:∀ (o:Option Operand),(∀ x,o=some x→ρ x=ρ' x)→optMap ρ o=optMap ρ' o
 | none,_=>rfl
 | some x,h=>by simp only [optMap,h x rfl]
theorem opQ_congr {P:Program} {V:HV} {ρ ρ':Operand→Value} {op:Op} (h:∀ x ∈ op.operands.toList,ρ x=ρ' x):opQ P V ρ op=opQ P V ρ' op:=by
 cases op with
 | move x=>simp only [opQ]; rw [h x (by simp [Op.operands])]
 | assign x=>simp only [opQ]; rw [h x (by simp [Op.operands])]
 | pick c a b=>simp only [opQ]; rw [h c (by simp [Op.operands]),h a (by simp [Op.operands]),h b (by simp [Op.operands])]
 | load t a=>simp only [opQ]; rw [h a (by simp [Op.operands])]
 | nilCheck x=>simp only [opQ]; rw [h x (by simp [Op.operands])]
 | binOp o t x y t'=>simp only [opQ]; rw [h x (by simp [Op.operands]),h y (by simp [Op.operands])]
 | unOp o t x=>simp only [opQ]; rw [h x (by simp [Op.operands])]
 | convert a b x=>simp only [opQ]; rw [h x (by simp [Op.operands])]
 | makeInterface a x=>simp only [opQ]; rw [h x (by simp [Op.operands])]
 | makeFunc fn a b =>
  have h1:a.toList.map ρ=a.toList.map ρ':=List.map_congr_left fun x hx=>h x (by simp [Op.operands] at hx ⊢; exact .inl hx)
  have h2:b.toList.map ρ=b.toList.map ρ':=List.map_congr_left fun x hx=>h x (by simp [Op.operands] at hx ⊢; exact .inr hx)
  simp only [opQ]; rw [h1,h2]
 | slice t x lo hi mx =>
  simp only [opQ]
  rw [h x (by simp [Op.operands]),optMap_congr lo fun y hy=>h y (by simp [Op.operands,hy]),optMap_congr hi fun y hy=>h y (by simp [Op.operands,hy]),optMap_congr mx fun y hy=>h y (by simp [Op.operands,hy])]
 | fieldAddr t x f=>simp only [opQ]; rw [h x (by simp [Op.operands])]
 | field t x f=>simp only [opQ]; rw [h x (by simp [Op.operands])]
 | indexAddr t x y=>simp only [opQ]; rw [h x (by simp [Op.operands]),h y (by simp [Op.operands])]
 | index t x y=>simp only [opQ]; rw [h x (by simp [Op.operands]),h y (by simp [Op.operands])]
 | lookup t x y ok=>simp only [opQ]; rw [h x (by simp [Op.operands]),h y (by simp [Op.operands])]
 | typeAssert x t t' ok=>simp only [opQ]; rw [h x (by simp [Op.operands])]
 | extract x i=>simp only [opQ]; rw [h x (by simp [Op.operands])]
 | build t parts =>
  have e:(parts.toList.map fun p=>(p.1,ρ p.2))=parts.toList.map fun p=>(p.1,ρ' p.2):=by
   apply List.map_congr_left
   intro p hp
   rw [h p.2 (by simp only [Op.operands,List.mem_map]; exact ⟨p,hp,rfl⟩)]
  simp only [opQ]; rw [e]
 | call c =>
  have h1:c.args.toList.map ρ=c.args.toList.map ρ':=List.map_congr_left fun x hx=>h x (by simp [Op.operands,Call.operands] at hx ⊢; exact .inr hx)
  simp only [opQ]; rw [h1]
 | _=>rfl
theorem opV_trans {n:Nat} {P:Program} {o:Oper} {ρ ρ':En} {H:Heap} {K K':En→Heap→Prop} {Q Q':Exit→En→Heap→Prop} (hq:isQ o.op=false)
  (h:∀ x ∈ o.op.operands.toList,ρ.ev x=ρ'.ev x) (hk:∀ v H',K (ρ.put n o.dst v) H'→K' (ρ'.put n o.dst v) H') (hp:∀ c H',Q (.panic c) ρ H'→Q' (.panic c) ρ' H')
  (hv:opV n P o ρ H K Q):opV n P o ρ' H K' Q':=by
 obtain ⟨dst,op,type,pos,after,guard⟩:=o
 simp only at hq h hk
 unfold opV at hv ⊢
 simp only at hv ⊢
 have quiet:∀ {o:Option Value},o=none→someW o (fun v=>K (ρ.put n dst v) H)→False:=by
  intro o ho hs; subst ho; exact hs
 split at hv
 ·rename_i t a x
  rw [← h a (by simp [Op.operands]),← h x (by simp [Op.operands])]
  unfold ptrW at hv ⊢
  split at hv
  ·rename_i ad ha
   simp only [withV,someW_iff] at hv ⊢
   obtain ⟨H',hs,hk'⟩:=hv
   exact ⟨H',hs,hk _ _ hk'⟩
  ·exact hv.elim
 ·simp only [someW_iff] at hv ⊢
  obtain ⟨z,hz,hk'⟩:=hv
  exact ⟨z,hz,hk _ _ hk'⟩
 ·rename_i t x
  rw [← h x (by simp [Op.operands])]
  exact hk _ _ hv
 ·rename_i t l c
  rw [← h l (by simp [Op.operands]),← h c (by simp [Op.operands])]
  simp only [someW_iff] at hv ⊢
  obtain ⟨z,hz,hk'⟩:=hv
  exact ⟨z,hz,hk _ _ hk'⟩
 ·rename_i t len parts
  have e:(parts.toList.map fun p=>(p.1,ρ.ev p.2))=parts.toList.map fun p=>(p.1,ρ'.ev p.2):=by
   apply List.map_congr_left
   intro p hp
   rw [h p.2 (by simp only [Op.operands,List.mem_map]; exact ⟨p,hp,rfl⟩)]
  rw [← e]
  simp only [someW_iff] at hv ⊢
  obtain ⟨z,hz,hk'⟩:=hv
  exact ⟨z,hz,hk _ _ hk'⟩
 ·exact hk _ _ hv
 ·rename_i t m k x
  rw [← h m (by simp [Op.operands]),← h k (by simp [Op.operands]),← h x (by simp [Op.operands])]
  exact mapW_mono (fun H'=>hk _ H') (fun v H'=>hp _ H') hv
 ·rename_i t m k x
  rw [← h m (by simp [Op.operands]),← h k (by simp [Op.operands]),← h x (by simp [Op.operands])]
  exact mapW_mono (fun H'=>hk _ H') (fun v H'=>hp _ H') hv
 ·rename_i args ats
  split at hv
  ·rename_i t xt s x ht hx
   have hs1:ρ.ev s=ρ'.ev s:=h s (by simp [Op.operands,Call.operands]; rw [← Array.mem_toList_iff,hx]; simp)
   have hx1:ρ.ev x=ρ'.ev x:=h x (by simp [Op.operands,Call.operands]; rw [← Array.mem_toList_iff,hx]; simp)
   simp only [withV] at hv ⊢
   rw [← hs1,← hx1]
   unfold appW at hv ⊢
   split at hv
   ·rename_i base len cap heq
    simp only [heq,someW_iff] at hv ⊢
    obtain ⟨e,he,size,hsz,bytes,hby,z,hz,m,hm,new,hnew,d,hd,hdi,hv⟩:=hv
    refine ⟨e,he,size,hsz,bytes,hby,z,hz,m,hm,new,hnew,d,hd,hdi,?_⟩
    split at hv
    ·rename_i hf
     rw [if_pos hf]
     cases base with
     | none=>exact hk _ _ hv
     | some a =>
      obtain ⟨H',h1,h2⟩:=hv
      exact ⟨H',h1,hk _ _ h2⟩
    ·rename_i hf
     rw [if_neg hf]
     obtain ⟨h1,h2,h3,old,h4,h5⟩:=hv
     exact ⟨h1,h2,h3,old,h4,fun nc a b=>hk _ _ (h5 nc a b)⟩
   ·exact hv.elim
  ·exact hv.elim
 ·rename_i args ats
  have h1:args.toList.map ρ.ev=args.toList.map ρ'.ev:=List.map_congr_left fun x hx=>h x (by simp [Op.operands,Call.operands] at hx ⊢; exact hx)
  rw [← h1]
  exact hwp_mono P _ _ _ _ _ _ (fun v H' hx=>hk v H' hx) (fun _ _ hx=>hx) hv
 ·rename_i args ats
  have h1:args.toList.map ρ.ev=args.toList.map ρ'.ev:=List.map_congr_left fun x hx=>h x (by simp [Op.operands,Call.operands] at hx ⊢; exact hx)
  rw [← h1]
  exact hwp_mono P _ _ _ _ _ _ (fun v H' hx=>hk v H' hx) (fun _ _ hx=>hx) hv
 ·rename_i f args ats
  have h1:args.toList.map ρ.ev=args.toList.map ρ'.ev:=List.map_congr_left fun x hx=>h x (by simp [Op.operands,Call.operands] at hx ⊢; exact .inr hx)
  rw [← h f (by simp [Op.operands,Call.operands]),← h1]
  unfold callV at hv ⊢
  split at hv
  ·exact hv.mono (fun v H'=>hk v H') (fun c H'=>hp c H')
  ·exact hv.elim
 ·rename_i h1 h2 h3 h4 h5 h6 h9 h10 h7 hu1 hu2 h8
  exfalso
  refine quiet ?_ hv
  cases op with
  | call c =>
   obtain ⟨callee,args,ats⟩:=c
   cases callee with
   | value f=>exact absurd rfl (h8 f args ats)
   | invoke r m=>rfl
   | builtin b=>cases b <;> simp [isQ] at hq <;> first | rfl | exact absurd rfl (h7 args ats) | exact absurd rfl (hu1 args ats) | exact absurd rfl (hu2 args ats)
  | _=>first | rfl | (simp [isQ] at hq; done)
def maskOf (acc:List Nat) (es:List Edge):Nat:=es.foldr (fun e s=>if Region.binds .any e then s ||| 2 ^ e.on ||| acc.getD e.on 0 else s) 0
def masksGo:List Oper→List Nat→List Nat
 | [],acc=>acc
 | o :: l,acc=>masksGo l (acc ++ [maskOf acc o.after.toList])
def masks (l:List Oper):List Nat:=masksGo l []
def Closed (l:List Oper) (S:Nat→Prop):Prop:=∀ j o,l[j]?=some o→S j→∀ e ∈ o.after.toList,Region.binds .any e=true→S e.on
def Ready (l:List Oper) (S:Nat→Prop) (j:Nat):Prop:=∃ o,l[j]?=some o∧∀ e ∈ o.after.toList,Region.binds .any e=true→S e.on
theorem maskOf_bit {acc:List Nat} {i:Nat}:∀ (es:List Edge),(maskOf acc es).testBit i=true→∃ e ∈ es,Region.binds .any e=true∧(i=e.on∨(acc.getD e.on 0).testBit i=true):=by
 intro es
 induction es with
 | nil=>intro h; simp [maskOf] at h
 | cons e es ih =>
  intro h
  unfold maskOf at h
  simp only [List.foldr_cons] at h
  split at h
  ·rename_i hb
   simp only [Nat.testBit_or,Bool.or_eq_true] at h
   rcases h with (h | h) | h
   ·obtain ⟨e',he',h'⟩:=ih h
    exact ⟨e',List.mem_cons_of_mem _ he',h'⟩
   ·rw [Nat.testBit_two_pow] at h
    exact ⟨e,List.mem_cons_self,hb,.inl (by simpa using h:e.on=i).symm⟩
   ·exact ⟨e,List.mem_cons_self,hb,.inr h⟩
  ·obtain ⟨e',he',h'⟩:=ih h
   exact ⟨e',List.mem_cons_of_mem _ he',h'⟩
theorem masksGo_spec {l:List Oper} {S:Nat→Prop} (hS:Closed l S):∀ (r:List Oper) (k:Nat) (acc:List Nat),acc.length=k→(∀ j,r[j]?=l[k + j]?)→k + r.length=l.length →
  (∀ j i,j < k→(acc.getD j 0).testBit i=true→Ready l S j→S i) →
  ∀ j i,((masksGo r acc).getD j 0).testBit i=true→Ready l S j→S i:=by
 intro r
 induction r with
 | nil =>
  intro k acc hk _ _ hacc j i hb hr
  by_cases hj:j < k
  ·exact hacc j i hj hb hr
  ·simp only [masksGo,List.getD_eq_getElem?_getD] at hb
   rw [List.getElem?_eq_none (by omega)] at hb
   simp at hb
 | cons o r ih =>
  intro k acc hk hr hlen hacc j i hb hrd
  refine ih (k + 1) (acc ++ [maskOf acc o.after.toList]) (by simp [hk]) (fun j=>by have:=hr (j + 1); simpa [Nat.add_assoc,Nat.add_comm 1] using this) (by simp at hlen; omega) ?_ j i hb hrd
  intro j i hj hb hrd
  by_cases hjk:j < k
  ·refine hacc j i hjk ?_ hrd
   rw [List.getD_eq_getElem?_getD] at hb ⊢
   rwa [List.getElem?_append_left (by omega)] at hb
  ·have hjk':j=k:=by omega
   subst hjk'
   rw [List.getD_eq_getElem?_getD,List.getElem?_append_right (by omega),hk] at hb
   simp only [Nat.sub_self,List.getElem?_cons_zero,Option.getD_some] at hb
   obtain ⟨e,he,hbe,hor⟩:=maskOf_bit _ hb
   obtain ⟨o',ho',hall⟩:=hrd
   have:o'=o:=by have:=hr 0; simp at this; rw [← this] at ho'; simpa using ho'.symm
   subst this
   have hSe:=hall e he hbe
   rcases hor with rfl | hor
   ·exact hSe
   ·by_cases hek:e.on < j
    ·cases hl:l[e.on]? with
     | none =>
      exfalso
      have:l.length≤e.on:=by simpa using hl
      omega
     | some oe=>exact hacc e.on i hek hor ⟨oe,hl,fun e' he' hb'=>hS e.on oe hl hSe e' he' hb'⟩
    ·rw [List.getD_eq_getElem?_getD,List.getElem?_eq_none (by omega)] at hor
     simp at hor
theorem masks_spec {l:List Oper} {S:Nat→Prop} (hS:Closed l S) {j i:Nat} (hb:((masks l).getD j 0).testBit i=true) (hr:Ready l S j):S i :=
 masksGo_spec hS l 0 [] rfl (by simp) (by simp) (by intro j i hj; omega) j i hb hr
def tmpsL:List Operand→List Nat
 | []=>[]
 | .tmp t :: l=>t :: tmpsL l
 | _ :: l=>tmpsL l
theorem mem_tmpsL {t:Nat}:∀ {l:List Operand},Operand.tmp t ∈ l→t ∈ tmpsL l
 | [],h=>by simp at h
 | x :: l,h=>by
  rcases List.mem_cons.1 h with h | h
  ·subst h; simp [tmpsL]
  ·have:=mem_tmpsL h; cases x <;> simp [tmpsL,this]
def dstOf (l:List Oper) (i:Nat):Option Nat:=(l[i]?).bind (·.dst)
def touch (l:List Oper) (i:Nat):List Nat :=
 match l[i]? with
 | none=>[]
 | some o=>o.dst.toList ++ tmpsL o.op.operands.toList ++ (match o.guard with | none=>[] | some g=>(dstOf l g.1).toList)
def overlap (l:List Oper) (i j:Nat):Bool :=
 (match dstOf l i with | some d=>(touch l j).contains d | none=>false) || (match dstOf l j with | some d=>(touch l i).contains d | none=>false)
def effAt (l:List Oper) (i:Nat):Bool:=((l[i]?).map fun o=>!isQ o.op).getD false
inductive Plan where
 | fin
 | non
 | look (i:Nat) (f:Bool) (p:Plan)
 | act (i:Nat) (p alt:Plan)
 | actd (i:Nat) (p:Plan)
 | acth (i:Nat) (p:Plan)
def Plan.idxs:Plan→List Nat
 | .act i _ alt=>i :: alt.idxs
 | _=>[]
def readyM (m:List Nat) (d i:Nat):Bool:=(m.getD i 0 ||| d) == d && !d.testBit i
def edgesOK (l:List Oper):Bool:=l.zipIdx.all fun x=>x.1.after.toList.all fun e=>!Region.binds .any e || decide (e.on < x.2)
def overOK (l:List Oper) (m:List Nat):Bool:=(List.range l.length).all fun j=>(List.range j).all fun i=>!overlap l i j || (m.getD j 0).testBit i
def compOK (l:List Oper) (m:List Nat) (i:Nat):Bool:=(List.range l.length).all fun e=>!effAt l e || (m.getD i 0).testBit e || (m.getD e 0).testBit i
def planOK (l:List Oper) (m:List Nat):Bool→Nat→Plan→Bool
 | true,d,.fin=>(List.range l.length).all fun i=>d.testBit i
 | true,d,.look i f p=>decide (i < l.length) && !effAt l i && readyM m d i && (!f || compOK l m i) && planOK l m true (d ||| 2 ^ i) p
 | true,d,.act i p alt=>((List.range l.length).all fun k=>!readyM m d k || (effAt l k && (i :: alt.idxs).contains k)) && decide (i < l.length) && effAt l i && readyM m d i && planOK l m true (d ||| 2 ^ i) p && planOK l m false d alt
 | true,d,.actd i p=>((List.range l.length).all fun k=>!readyM m d k || (effAt l k && k == i)) && decide (i < l.length) && effAt l i && readyM m d i && ((List.range l.length).all fun k=>!d.testBit k || effAt l k || (m.getD i 0).testBit k || compOK l m k) && planOK l m true (d ||| 2 ^ i) p
 | true,d,.acth i p=>((List.range l.length).all fun k=>!readyM m d k || (effAt l k && k == i)) && decide (i < l.length) && effAt l i && readyM m d i && ((List.range l.length).all fun k=>!d.testBit k || effAt l k || (m.getD i 0).testBit k || compOK l m k) && planOK l m true (d ||| 2 ^ i) p
 | false,_,.non=>true
 | false,d,.act i p alt=>decide (i < l.length) && effAt l i && readyM m d i && planOK l m true (d ||| 2 ^ i) p && planOK l m false d alt
 | _,_,_=>false
def drawOK (l:List Oper) (p:Plan):Bool:=edgesOK l && overOK l (masks l) && planOK l (masks l) true 0 p
def heldOK (hl:List (Addr × Value)) (H:Heap):Prop:=∀ a v,lookA hl a=some v→cellH H a=some v
theorem heldOK_of {hl:List (Addr × Value)} {H:Heap} (h:heldOK hl H):(held hl).of H:=⟨h,fun H' hh=>by simp [held] at hh⟩
def opGF (P:Program) (n:Nat) (hl:List (Addr × Value)) (l:List Oper) (o:Oper) (ρ:En) (K:En→Prop):Prop :=
 match o.guard with
 | none=>someW (opQ P (held hl) ρ.ev o.op) fun v=>K (ρ.put n o.dst v)
 | some (j,want)=>guardW (slotOf l.toArray ρ j) want (someW (opQ P (held hl) ρ.ev o.op) fun v=>K (ρ.put n o.dst v)) (K (ρ.put n o.dst undef))
def drawW (n:Nat) (P:Program) (l:List Oper) (hl:List (Addr × Value)) (Q:Exit→En→Heap→Prop) (p:Plan) (ρ:En) (H:Heap):Prop:=match p with
 | .fin=>Q .normal ρ H
 | .non=>True
 | .actd i p=>match l[i]? with
  | none=>False
  | some o=>opG n P l.toArray o ρ H (drawW n P l [] Q p) Q
 | .acth i p=>match l[i]? with
  | none=>False
  | some o=>opG n P l.toArray o ρ H (fun ρ' H'=>∃ hl',heldOK hl' H'∧drawW n P l hl' Q p ρ' H') Q
 | .look i f p=>match l[i]? with
  | none=>False
  | some o=>if f then opG n P l.toArray o ρ H (drawW n P l hl Q p) Q else opGF P n hl l o ρ fun ρ'=>drawW n P l hl Q p ρ' H
 | .act i p alt=>(match l[i]? with
  | none=>False
  | some o=>opG n P l.toArray o ρ H (fun ρ' H'=>heldOK hl H'∧drawW n P l hl Q p ρ' H') Q)∧drawW n P l hl Q alt ρ H
def evalQ (P:Program) (V:HV) (l:List Oper) (o:Oper) (ρ:En):Option Value :=
 match o.guard with
 | none=>opQ P V ρ.ev o.op
 | some (j,want)=>if yieldV (slotOf l.toArray ρ j)=some want then opQ P V ρ.ev o.op else some undef
theorem slotOf_congr {l:List Oper} {ρ ρ':En} {j:Nat} (h:∀ t ∈ (dstOf l j).toList,ρ.get t=ρ'.get t):slotOf l.toArray ρ j=slotOf l.toArray ρ' j:=by
 unfold slotOf
 simp only [List.getElem?_toArray]
 unfold dstOf at h
 cases hd:(l[j]?).bind (·.dst) with
 | none=>rfl
 | some d=>rw [hd] at h; exact h d (by simp)
theorem ev_congr {ρ ρ':En} {xs:List Operand} (h:∀ t ∈ tmpsL xs,ρ.get t=ρ'.get t):∀ x ∈ xs,ρ.ev x=ρ'.ev x:=by
 intro x hx
 cases x with
 | tmp t=>exact h t (mem_tmpsL hx)
 | _=>rfl
theorem touch_mem {l:List Oper} {i:Nat} {o:Oper} (ho:l[i]?=some o) {ρ ρ':En} (h:∀ t ∈ touch l i,ρ.get t=ρ'.get t) :
  (∀ x ∈ o.op.operands.toList,ρ.ev x=ρ'.ev x)∧∀ j want,o.guard=some (j,want)→slotOf l.toArray ρ j=slotOf l.toArray ρ' j:=by
 unfold touch at h
 rw [ho] at h
 refine ⟨ev_congr fun t ht=>h t (by simp [ht]),fun j want hg=>slotOf_congr fun t ht=>h t ?_⟩
 simp only [hg,List.mem_append]
 exact .inr ht
theorem evalQ_congr {P:Program} {V:HV} {l:List Oper} {i:Nat} {o:Oper} (ho:l[i]?=some o) {ρ ρ':En} (h:∀ t ∈ touch l i,ρ.get t=ρ'.get t):evalQ P V l o ρ=evalQ P V l o ρ':=by
 obtain ⟨h1,h2⟩:=touch_mem ho h
 unfold evalQ
 cases hg:o.guard with
 | none=>exact opQ_congr h1
 | some g =>
  obtain ⟨j,want⟩:=g
  simp only
  rw [h2 j want hg,opQ_congr h1]
noncomputable def ES (n:Nat) (l:List Oper) (vals:Nat→Value) (ρ0:En) (S:Nat→Prop):Nat→En
 | 0=>ρ0
 | k + 1=>open Classical in if S k then (ES n l vals ρ0 S k).put n (dstOf l k) (vals k) else ES n l vals ρ0 S k
theorem put_get {n:Nat} {ρ:En} {d:Option Nat} {v:Value} {t:Nat}:(ρ.put n d v).get t=if d=some t∧t < n then v else ρ.get t:=by
 cases d with
 | none=>simp [En.put]
 | some d =>
  simp only [En.put,Option.some.injEq]
  by_cases e:t=d
  ·subst e; simp
  ·have e':¬ d=t:=fun x=>e x.symm
   simp [e,e']
theorem ES_succ {n:Nat} {l:List Oper} {vals:Nat→Value} {ρ0:En} {S:Nat→Prop} {k:Nat} :
  ES n l vals ρ0 S (k + 1)=open Classical in if S k then (ES n l vals ρ0 S k).put n (dstOf l k) (vals k) else ES n l vals ρ0 S k:=rfl
theorem ES_ds {n:Nat} {l:List Oper} {vals:Nat→Value} {ρ0:En} {S:Nat→Prop}:∀ k,(ES n l vals ρ0 S k).ds=ρ0.ds
 | 0=>rfl
 | k + 1=>by
  rw [ES_succ]
  split
  ·rw [ds_put]; exact ES_ds k
  ·exact ES_ds k
theorem ES_fits {n:Nat} {l:List Oper} {vals vals':Nat→Value} {ρ0:En} {S S':Nat→Prop} {i t:Nat}
  (h:∀ k,dstOf l k=some t→k ≠ i→(k < i↔S k)) (h':∀ k,dstOf l k=some t→k ≠ i→(k < i↔S' k)) (hi:¬ S i) (hi':¬ S' i)
  (hv:∀ k,dstOf l k=some t→k < i→vals k=vals' k):∀ k,(ES n l vals ρ0 S k).get t=(ES n l vals' ρ0 S' k).get t:=by
 intro k
 induction k with
 | zero=>rfl
 | succ k ih =>
  by_cases hd:dstOf l k=some t
  ·by_cases hki:k=i
   ·subst hki
    simp only [ES,hi,hi',if_false]
    exact ih
   ·have e1:=h k hd hki
    have e2:=h' k hd hki
    by_cases hlt:k < i
    ·simp only [ES,e1.1 hlt,e2.1 hlt,if_true]
     rw [put_get,put_get,hv k hd hlt,ih]
    ·have n1:¬ S k:=fun x=>hlt (e1.2 x)
     have n2:¬ S' k:=fun x=>hlt (e2.2 x)
     simp only [ES,n1,n2,if_false]
     exact ih
  ·have s1:(ES n l vals ρ0 S (k + 1)).get t=(ES n l vals ρ0 S k).get t:=by
    rw [ES_succ]; split
    ·rw [put_get,if_neg (fun x=>hd x.1)]
    ·rfl
   have s2:(ES n l vals' ρ0 S' (k + 1)).get t=(ES n l vals' ρ0 S' k).get t:=by
    rw [ES_succ]; split
    ·rw [put_get,if_neg (fun x=>hd x.1)]
    ·rfl
   rw [s1,s2,ih]
theorem ES_add {n:Nat} {l:List Oper} {vals vals':Nat→Value} {ρ0:En} {S S':Nat→Prop} {i:Nat}
  (hS:∀ k,S' k↔S k∨k=i) (hi:¬ S i) (hv:∀ k,S k→vals' k=vals k)
  (hd:∀ t k,dstOf l i=some t→dstOf l k=some t→k ≠ i→(k < i↔S k)):∀ (k:Nat),i < k→∀ t,(ES n l vals' ρ0 S' k).get t=((ES n l vals ρ0 S k).put n (dstOf l i) (vals' i)).get t:=by
 have below:∀ k,k≤i→∀ t,(ES n l vals' ρ0 S' k).get t=(ES n l vals ρ0 S k).get t:=by
  intro k
  induction k with
  | zero=>intro _ t; rfl
  | succ k ih =>
   intro hk t
   have hki:k ≠ i:=by omega
   by_cases hsk:S k
   ·have:S' k:=(hS k).2 (.inl hsk)
    simp only [ES,hsk,this,if_true]
    rw [put_get,put_get,hv k hsk,ih (by omega)]
   ·have:¬ S' k:=fun x=>((hS k).1 x).elim hsk hki
    simp only [ES,hsk,this,if_false]
    exact ih (by omega) t
 intro k
 induction k with
 | zero=>intro h; omega
 | succ k ih =>
  intro hk t
  by_cases hki:k=i
  ·subst hki
   have:S' k:=(hS k).2 (.inr rfl)
   simp only [ES,hi,this,if_true,if_false]
   rw [put_get,put_get,below k (by omega)]
  ·have hik:i < k:=by omega
   by_cases hsk:S k
   ·have:S' k:=(hS k).2 (.inl hsk)
    simp only [ES,hsk,this,if_true]
    rw [put_get,put_get,put_get,hv k hsk,ih hik,put_get]
    by_cases hdk:dstOf l k=some t
    ·by_cases hdi:dstOf l i=some t
     ·have:=(hd t k hdi hdk hki).2 hsk
      omega
     ·simp [hdi]
    ·simp [hdk]
   ·have:¬ S' k:=fun x=>((hS k).1 x).elim hsk hki
    simp only [ES,hsk,this,if_false]
    exact ih hik t
theorem En_ext {ρ ρ':En} (h:∀ t,ρ.get t=ρ'.get t) (hd:ρ.ds=ρ'.ds):ρ=ρ':=by
 cases ρ; cases ρ'; simp only [En.mk.injEq]; exact ⟨funext h,hd⟩
theorem evalQ_sound {n:Nat} {P:Program} {V:HV} {l:List Oper} {i:Nat} {o:Oper} {ρ:En} {a:Act} {w:World} {v:Value} {K:Act→World→Prop} {Q:Exit→Act→World→Prop}
  (ho:l[i]?=some o) (ha:Ag n a ρ) (hV:V.of w.heap) (hv:evalQ P V l o ρ=some v) (hk:K (a.put o.dst v) w):wpOp P l.toArray Q i K a w:=by
 unfold wpOp
 simp only [List.getElem?_toArray,ho]
 have run:opQ P V ρ.ev o.op=some v→o.wp P a w K Q:=by
  intro h
  unfold Oper.wp
  rw [ha.ev,qrun_sound P _ w _ (opQ_sound hV h)]
  exact hk
 unfold evalQ at hv
 unfold Region.wanted
 cases hg:o.guard with
 | none=>rw [hg] at hv; simp only [if_true]; exact .inl (run hv)
 | some g =>
  obtain ⟨j,want⟩:=g
  rw [hg] at hv
  simp only [yield_eq ha]
  simp only at hv
  split at hv
  ·rename_i hy
   rw [if_pos (by rw [hy]; simp)]
   exact .inl (run hv)
  ·rename_i hy
   rw [if_neg (by simpa using hy)]
   simp only [Option.some.injEq] at hv
   rw [hv]; exact hk
theorem evalQ_of_G {n:Nat} {P:Program} {l:List Oper} {o:Oper} {ρ:En} {H:Heap} {K:En→Heap→Prop} {Q:Exit→En→Heap→Prop} (hq:isQ o.op=true)
  (h:opG n P l.toArray o ρ H K Q):∃ v,evalQ P (full H) l o ρ=some v∧K (ρ.put n o.dst v) H:=by
 have q:opV n P o ρ H K Q→∃ v,opQ P (full H) ρ.ev o.op=some v∧K (ρ.put n o.dst v) H:=by
  intro hv
  have e:opV n P o ρ H K Q=someW (opQ P (full H) ρ.ev o.op) fun v=>K (ρ.put n o.dst v) H:=by
   obtain ⟨dst,op,type,pos,after,guard⟩:=o
   cases op with
   | call c =>
    obtain ⟨callee,args,ats⟩:=c
    cases callee with
    | value f=>simp [isQ] at hq
    | invoke r m=>simp [isQ] at hq
    | builtin b=>cases b <;> first | rfl | (simp [isQ] at hq; done)
   | _=>first | rfl | (simp [isQ] at hq; done)
  rw [e,someW_iff] at hv
  exact hv
 unfold opG at h
 unfold evalQ
 cases hg:o.guard with
 | none=>rw [hg] at h; exact q h
 | some g =>
  obtain ⟨j,want⟩:=g
  rw [hg] at h
  simp only [guardW] at h
  simp only
  generalize slotOf l.toArray ρ j=v at h
  cases v with
  | bool b =>
   by_cases hb:b=want
   ·rw [if_pos (by simp [yieldV,hb])]; exact q (h.1 hb)
   ·rw [if_neg (by simp [yieldV,hb])]
    exact ⟨undef,rfl,h.2 (by cases b <;> cases want <;> simp_all)⟩
  | _=>rw [if_neg (by simp [yieldV])]; exact ⟨undef,rfl,h⟩
theorem evalQ_of_GF {n:Nat} {P:Program} {l:List Oper} {o:Oper} {ρ:En} {hl:List (Addr × Value)} {K:En→Prop}
  (h:opGF P n hl l o ρ K):∃ v,evalQ P (held hl) l o ρ=some v∧K (ρ.put n o.dst v):=by
 unfold opGF at h
 unfold evalQ
 cases hg:o.guard with
 | none=>rw [hg] at h; exact someW_iff.1 h
 | some g =>
  obtain ⟨j,want⟩:=g
  rw [hg] at h
  simp only [guardW] at h
  simp only
  generalize slotOf l.toArray ρ j=v at h
  cases v with
  | bool b =>
   by_cases hb:b=want
   ·rw [if_pos (by simp [yieldV,hb])]; exact someW_iff.1 (h.1 hb)
   ·rw [if_neg (by simp [yieldV,hb])]
    exact ⟨undef,rfl,h.2 (by cases b <;> cases want <;> simp_all)⟩
  | _=>rw [if_neg (by simp [yieldV])]; exact ⟨undef,rfl,h⟩
theorem opG_trans {n:Nat} {P:Program} {l:List Oper} {i:Nat} {o:Oper} (ho:l[i]?=some o) {ρ ρ':En} {H:Heap} {K K':En→Heap→Prop} {Q Q':Exit→En→Heap→Prop} (hq:isQ o.op=false)
  (h:∀ t ∈ touch l i,ρ.get t=ρ'.get t) (hk:∀ v H',K (ρ.put n o.dst v) H'→K' (ρ'.put n o.dst v) H') (hp:∀ c H',Q (.panic c) ρ H'→Q' (.panic c) ρ' H')
  (hv:opG n P l.toArray o ρ H K Q):opG n P l.toArray o ρ' H K' Q':=by
 obtain ⟨h1,h2⟩:=touch_mem ho h
 unfold opG at hv ⊢
 cases hg:o.guard with
 | none=>rw [hg] at hv; exact opV_trans hq h1 hk hp hv
 | some g =>
  obtain ⟨j,want⟩:=g
  rw [hg] at hv
  simp only at hv ⊢
  rw [← h2 j want hg]
  unfold guardW at hv ⊢
  split at hv
  ·exact ⟨fun e=>opV_trans hq h1 hk hp (hv.1 e),fun e=>hk _ _ (hv.2 e)⟩
  ·exact hk _ _ hv
def PanOK (Q:Exit→En→Heap→Prop):Prop:=∀ c ρ ρ' H,ρ.ds=ρ'.ds→Q (.panic c) ρ H→Q (.panic c) ρ' H
theorem PanOK.seq {K:En→Heap→Prop} {Q:Exit→En→Heap→Prop} (h:PanOK Q):PanOK (seqQ K Q):=h
theorem PanOK.blk {id:Nat} {Q:Exit→En→Heap→Prop} (h:PanOK Q):PanOK (blkQ id Q):=h
theorem PanOK.ret {P:Program} {rs:List ResultVar} {R:Value→Heap→Prop} {E:List PanicEntry→Heap→Prop}:PanOK (retQ P rs R E):=fun _ _ _ _ hd h=>⟨hd ▸ h.1,h.2⟩
section
variable {l:List Oper}
theorem overlap_of {i k t:Nat} (ht:t ∈ touch l i) (hk:dstOf l k=some t):overlap l i k=true∧overlap l k i=true:=by
 unfold overlap
 simp only [hk,Bool.or_eq_true,List.contains_iff_mem]
 exact ⟨.inr (by simpa using ht),.inl (by simpa using ht)⟩
theorem dstOf_lt {k t:Nat} (h:dstOf l k=some t):k < l.length:=by
 unfold dstOf at h
 cases hl:l[k]? with
 | none=>simp [hl] at h
 | some o=>exact (List.getElem?_eq_some_iff.1 hl).1
theorem dst_touch {i t:Nat} (h:dstOf l i=some t):t ∈ touch l i:=by
 unfold dstOf at h
 unfold touch
 cases hl:l[i]? with
 | none=>simp [hl] at h
 | some o=>simp only [hl,Option.bind_some] at h; simp [h]
theorem overOK_at (h:overOK l (masks l)=true) {i j:Nat} (hij:i < j) (hj:j < l.length) (ho:overlap l i j=true):((masks l).getD j 0).testBit i=true:=by
 unfold overOK at h
 rw [List.all_eq_true] at h
 have h1:=h j (by simpa using hj)
 rw [List.all_eq_true] at h1
 have h2:=h1 i (by simpa using hij)
 rw [ho] at h2
 simpa using h2
end
theorem fits_S {l:List Oper} (hv:overOK l (masks l)=true) {S:Nat→Prop} (hc:Closed l S) {i:Nat} (hr:Ready l S i) (hi:¬ S i)
  {t:Nat} (ht:t ∈ touch l i):∀ k,dstOf l k=some t→k ≠ i→(k < i↔S k):=by
 intro k hk hne
 obtain ⟨o1,o2⟩:=overlap_of ht hk
 have hil:i < l.length:=by obtain ⟨o,ho,_⟩:=hr; exact (List.getElem?_eq_some_iff.1 ho).1
 have hkl:=dstOf_lt hk
 by_cases hlt:k < i
 ·exact ⟨fun _=>masks_spec hc (overOK_at hv hlt hil o2) hr,fun _=>hlt⟩
 ·refine ⟨fun h=>absurd h hlt,fun hs=>absurd ?_ hi⟩
  exact masks_spec hc (overOK_at hv (by omega) hkl o1) ⟨l[k],by simp [hkl],fun e he hb=>hc k l[k] (by simp [hkl]) hs e he hb⟩
theorem maskOf_sub {acc:List Nat} {d:Nat}:∀ (es:List Edge),maskOf acc es ||| d=d→∀ e ∈ es,Region.binds .any e=true→d.testBit e.on=true:=by
 intro es
 induction es with
 | nil=>intro _ e he; simp at he
 | cons x es ih =>
  intro h e he hb
  have bit:∀ i,(maskOf acc (x :: es)).testBit i=true→d.testBit i=true:=by
   intro i hi
   rw [← h,Nat.testBit_or,hi]; rfl
  unfold maskOf at bit
  simp only [List.foldr_cons] at bit
  rcases List.mem_cons.1 he with rfl | he
  ·apply bit
   rw [if_pos hb,Nat.testBit_or,Nat.testBit_or,Nat.testBit_two_pow]
   simp
  ·refine ih ?_ e he hb
   apply Nat.eq_of_testBit_eq
   intro i
   rw [Nat.testBit_or]
   cases hm:(maskOf acc es).testBit i with
   | false=>simp
   | true =>
    have:d.testBit i=true:=by
     apply bit
     split
     ·rw [Nat.testBit_or,Nat.testBit_or]
      have:(es.foldr (fun e s=>if Region.binds .any e then s ||| 2 ^ e.on ||| acc.getD e.on 0 else s) 0).testBit i=true:=hm
      rw [this]; simp
     ·exact hm
    simp [this]
theorem masksGo_at:∀ (r:List Oper) (acc:List Nat) (j:Nat) (o:Oper),r[j]?=some o→∃ acc',(masksGo r acc).getD (acc.length + j) 0=maskOf acc' o.after.toList:=by
 have keep:∀ (r:List Oper) (acc:List Nat) (k:Nat),k < acc.length→(masksGo r acc).getD k 0=acc.getD k 0:=by
  intro r
  induction r with
  | nil=>intro acc k _; rfl
  | cons o r ih =>
   intro acc k hk
   rw [masksGo,ih _ _ (by simp; omega),List.getD_eq_getElem?_getD,List.getElem?_append_left hk,List.getD_eq_getElem?_getD]
 intro r
 induction r with
 | nil=>intro acc j o h; simp at h
 | cons x r ih =>
  intro acc j o h
  cases j with
  | zero =>
   simp only [List.getElem?_cons_zero,Option.some.injEq] at h
   subst h
   refine ⟨acc,?_⟩
   rw [masksGo,keep _ _ _ (by simp),List.getD_eq_getElem?_getD,List.getElem?_append_right (by simp)]
   simp
  | succ j =>
   simp only [List.getElem?_cons_succ] at h
   obtain ⟨acc',h'⟩:=ih (acc ++ [maskOf acc x.after.toList]) j o h
   refine ⟨acc',?_⟩
   rw [masksGo]
   simp only [List.length_append,List.length_cons,List.length_nil] at h'
   rw [← h']
   congr 1
   omega
theorem ready_of_mask {l:List Oper} {d i:Nat} (h:readyM (masks l) d i=true) (hi:i < l.length):Ready l (fun k=>d.testBit k=true) i∧¬ d.testBit i=true:=by
 unfold readyM at h
 simp only [Bool.and_eq_true,Bool.not_eq_true',beq_iff_eq] at h
 refine ⟨⟨l[i],by simp [hi],?_⟩,by simp [h.2]⟩
 obtain ⟨acc',ha⟩:=masksGo_at l [] i l[i] (by simp [hi])
 simp only [List.length_nil,Nat.zero_add] at ha
 have h1:=h.1
 unfold masks at h1
 rw [ha] at h1
 exact fun e he hb=>maskOf_sub _ h1 e he hb
theorem mask_of_ready {l:List Oper} {S:Nat→Prop} {d i:Nat} (hc:Closed l S) (hr:Ready l S i) (hs:∀ k,S k→d.testBit k=true) (hi:¬ d.testBit i=true):readyM (masks l) d i=true:=by
 unfold readyM
 simp only [Bool.and_eq_true,Bool.not_eq_true',beq_iff_eq]
 refine ⟨?_,by simpa using hi⟩
 apply Nat.eq_of_testBit_eq
 intro k
 rw [Nat.testBit_or]
 cases hm:((masks l).getD i 0).testBit k with
 | false=>simp
 | true=>simp [hs k (masks_spec hc hm hr)]
theorem bit_or {d i k:Nat}:(d ||| 2 ^ i).testBit k=true↔(d.testBit k=true∨k=i):=by
 rw [Nat.testBit_or,Nat.testBit_two_pow]
 simp only [Bool.or_eq_true,decide_eq_true_eq]
 constructor
 ·rintro (h | h)
  ·exact .inl h
  ·exact .inr h.symm
 ·rintro (h | h)
  ·exact .inl h
  ·exact .inr h.symm
theorem closed_add {l:List Oper} {d i:Nat} (hc:Closed l (fun k=>d.testBit k=true)) (hr:Ready l (fun k=>d.testBit k=true) i):Closed l (fun k=>(d ||| 2 ^ i).testBit k=true):=by
 intro j o hj hs e he hb
 rcases bit_or.1 hs with hs | rfl
 ·exact bit_or.2 (.inl (hc j o hj hs e he hb))
 ·obtain ⟨o',ho',hall⟩:=hr
  rw [hj] at ho'
  simp only [Option.some.injEq] at ho'
  subst ho'
  exact bit_or.2 (.inl (hall e he hb))
theorem ES_vals {n:Nat} {l:List Oper} {vals vals':Nat→Value} {ρ0:En} {S S':Nat→Prop} (hS:∀ k,S k↔S' k) (hv:∀ k,S k→vals k=vals' k):∀ k,ES n l vals ρ0 S k=ES n l vals' ρ0 S' k:=by
 intro k
 induction k with
 | zero=>rfl
 | succ k ih =>
  rw [ES_succ,ES_succ,ih]
  by_cases h:S k
  ·rw [if_pos h,if_pos ((hS k).1 h),hv k h]
  ·rw [if_neg h,if_neg (fun x=>h ((hS k).2 x))]
section
variable {n:Nat} {P:Program} {l:List Oper} {hl:List (Addr × Value)} {Q:Exit→En→Heap→Prop} {ρ0:En}
structure DSt (n:Nat) (P:Program) (l:List Oper) (hl:List (Addr × Value)) (Q:Exit→En→Heap→Prop) (ρ0:En) (S:Nat→Prop) (ρ:En) (H:Heap)
  (vals:Nat→Value) (fl:Nat→Bool) (d:Nat) (p:Plan):Prop where
 ok:planOK l (masks l) true d p=true
 closed:Closed l (fun k=>d.testBit k=true)
 env:∀ t,ρ.get t=(ES n l vals ρ0 S l.length).get t
 sub:∀ k,S k→d.testBit k=true
 eff:∀ k,d.testBit k=true→effAt l k=true→S k
 pend:∀ k,d.testBit k=true→¬ S k→∃ o ρi,l[k]?=some o∧isQ o.op=true∧(fl k=true→compOK l (masks l) k=true) ∧
  evalQ P (if fl k then full H else held hl) l o ρi=some (vals k)∧∀ t ∈ touch l k,ρi.get t=(ES n l vals ρ0 (· < k) l.length).get t
 cont:drawW n P l hl Q p (ES n l vals ρ0 (fun k=>d.testBit k=true) l.length) H
theorem pend_keep (hv:overOK l (masks l)=true) {d i k:Nat} {vals vals':Nat→Value} (hc:Closed l (fun k=>d.testBit k=true)) (hk:d.testBit k=true) (hkl:k < l.length) (hi:¬ d.testBit i=true)
  (hvals:∀ j,j ≠ i→vals j=vals' j) {t:Nat} (ht:t ∈ touch l k):(ES n l vals ρ0 (· < k) l.length).get t=(ES n l vals' ρ0 (· < k) l.length).get t:=by
 refine ES_fits (i:=k) (fun _ _ _=>Iff.rfl) (fun _ _ _=>Iff.rfl) (by simp) (by simp) (fun j hj hlt=>?_) _
 by_cases e:j=i
 ·exfalso
  subst e
  have hm:=overOK_at hv hlt hkl (overlap_of ht hj).2
  exact hi (masks_spec hc hm ⟨l[k],by simp [hkl],fun e he hb=>hc k l[k] (by simp [hkl]) hk e he hb⟩)
 ·exact hvals j e
theorem env_add (hv:overOK l (masks l)=true) {d i:Nat} {vals:Nat→Value} {v:Value} {o:Oper} (ho:l[i]?=some o) (hc:Closed l (fun k=>d.testBit k=true)) (hr:Ready l (fun k=>d.testBit k=true) i) (hi:¬ d.testBit i=true) :
  ES n l (fun k=>if k=i then v else vals k) ρ0 (fun k=>(d ||| 2 ^ i).testBit k=true) l.length=(ES n l vals ρ0 (fun k=>d.testBit k=true) l.length).put n o.dst v:=by
 have hil:i < l.length:=(List.getElem?_eq_some_iff.1 ho).1
 have hdst:dstOf l i=o.dst:=by unfold dstOf; rw [ho]; rfl
 refine En_ext (fun t=>?_) (by rw [ES_ds,ds_put,ES_ds])
 have:=ES_add (n:=n) (l:=l) (vals:=vals) (vals':=fun k=>if k=i then v else vals k) (ρ0:=ρ0) (S:=fun k=>d.testBit k=true) (S':=fun k=>(d ||| 2 ^ i).testBit k=true) (i:=i)
  (fun k=>bit_or) hi (fun k hs=>if_neg (fun e=>hi (by rw [← e]; exact hs))) (fun t k hd hk hne=>fits_S hv hc hr hi (dst_touch hd) k hk hne) l.length hil t
 rw [this,hdst]
 simp
theorem advance (hv:overOK l (masks l)=true) {S:Nat→Prop} {ρ:En} {H:Heap}:∀ (p:Plan) (d:Nat) (fl:Nat→Bool) (vals:Nat→Value),
  DSt n P l hl Q ρ0 S ρ H vals fl d p→∃ vals' fl' d' p',DSt n P l hl Q ρ0 S ρ H vals' fl' d' p'∧∀ i f q,p' ≠ .look i f q:=by
 intro p
 induction p with
 | fin=>intro d fl vals h; exact ⟨vals,fl,d,.fin,h,fun _ _ _ e=>by simp at e⟩
 | non=>intro d fl vals h; exact ⟨vals,fl,d,.non,h,fun _ _ _ e=>by simp at e⟩
 | act i p alt _ _=>intro d fl vals h; exact ⟨vals,fl,d,.act i p alt,h,fun _ _ _ e=>by simp at e⟩
 | actd i p _=>intro d fl vals h; exact ⟨vals,fl,d,.actd i p,h,fun _ _ _ e=>by simp at e⟩
 | acth i p _=>intro d fl vals h; exact ⟨vals,fl,d,.acth i p,h,fun _ _ _ e=>by simp at e⟩
 | look i f p ih =>
  intro d fl vals h
  have hok:=h.ok
  simp only [planOK,Bool.and_eq_true,decide_eq_true_eq,Bool.not_eq_true',Bool.or_eq_true] at hok
  obtain ⟨⟨⟨⟨hil,heff⟩,hrm⟩,hcomp⟩,hok'⟩:=hok
  obtain ⟨hr,hi⟩:=ready_of_mask hrm hil
  have hc:=h.cont
  unfold drawW at hc
  have ho:l[i]?=some l[i]:=by simp [hil]
  generalize l[i]=o at ho
  rw [ho] at hc
  have hq:isQ o.op=true:=by
   unfold effAt at heff
   rw [ho] at heff
   simpa using heff
  have hns:¬ S i:=fun hs=>hi (h.sub _ hs)
  have key:∃ v,evalQ P (if f then full H else held hl) l o (ES n l vals ρ0 (fun k=>d.testBit k=true) l.length)=some v∧drawW n P l hl Q p ((ES n l vals ρ0 (fun k=>d.testBit k=true) l.length).put n o.dst v) H:=by
   simp only at hc
   split at hc
   ·rename_i hf; rw [if_pos hf]; exact evalQ_of_G hq hc
   ·rename_i hf; rw [if_neg hf]; exact evalQ_of_GF hc
  obtain ⟨v,hev,hk⟩:=key
  refine ih (d ||| 2 ^ i) (fun k=>if k=i then f else fl k) (fun k=>if k=i then v else vals k) ?_
  refine { ok:=hok',closed:=closed_add h.closed hr,env:=?_,sub:=fun k hs=>bit_or.2 (.inl (h.sub k hs)),eff:=?_,pend:=?_,cont:=?_ }
  ·intro t
   rw [h.env t,ES_vals (S':=S) (vals':=fun k=>if k=i then v else vals k) (fun _=>Iff.rfl) (fun k hs=>by have hne:k ≠ i:=(fun e=>hns (by rw [← e]; exact hs)); rw [if_neg hne])]
  ·intro k hk' he
   rcases bit_or.1 hk' with hk' | rfl
   ·exact h.eff k hk' he
   ·rw [heff] at he; simp at he
  ·intro k hk' hnk
   rcases bit_or.1 hk' with hk' | rfl
   ·obtain ⟨o',ρi,h1,h2,h2',h3,h4⟩:=h.pend k hk' hnk
    have hki:k ≠ i:=fun e=>hi (by rw [← e]; exact hk')
    refine ⟨o',ρi,h1,h2,by rw [if_neg hki]; exact h2',by rw [if_neg hki,if_neg hki]; exact h3,fun t ht=>?_⟩
    rw [h4 t ht]
    exact pend_keep hv h.closed hk' (List.getElem?_eq_some_iff.1 h1).1 hi (fun j hj=>by rw [if_neg hj]) ht
   ·refine ⟨o,ES n l vals ρ0 (fun k=>d.testBit k=true) l.length,ho,hq,?_,by rw [if_pos rfl,if_pos rfl]; exact hev,fun t ht=>?_⟩
    ·rw [if_pos rfl]
     intro hf
     rcases hcomp with hcomp | hcomp
     ·rw [hf] at hcomp; simp at hcomp
     ·exact hcomp
    ·refine ES_fits (i:=k) (fits_S hv h.closed hr hi ht) (fun j _ _=>Iff.rfl) hi (by simp) (fun j _ hlt=>?_) _
     rw [if_neg (by omega)]
  ·rw [env_add hv ho h.closed hr hi]
   exact hk
theorem countP_lt {p p':Nat→Bool} {i:Nat} (hi:p i=true) (hi':p' i=false) (h:∀ k,p' k=true→p k=true):∀ {l:List Nat},i ∈ l→l.countP p' < l.countP p:=by
 intro l
 induction l with
 | nil=>intro h; simp at h
 | cons x l ih =>
  intro hm
  have mono:l.countP p'≤l.countP p:=List.countP_mono_left fun k _ hk=>h k hk
  rcases List.mem_cons.1 hm with rfl | hm
  ·rw [List.countP_cons_of_pos hi,List.countP_cons_of_neg (by simp [hi'])]; omega
  ·have:=ih hm
   by_cases hx:p' x=true
   ·rw [List.countP_cons_of_pos hx,List.countP_cons_of_pos (h x hx)]; omega
   ·rw [List.countP_cons_of_neg hx]
    by_cases hx':p x=true
    ·rw [List.countP_cons_of_pos hx']; omega
    ·rw [List.countP_cons_of_neg hx']; omega
theorem act_choice {d i:Nat}:∀ (p:Plan),i ∈ p.idxs→∀ ρ H,drawW n P l hl Q p ρ H→(∀ j q alt,p=.act j q alt→decide (j < l.length)=true∧effAt l j=true∧readyM (masks l) d j=true∧planOK l (masks l) true (d ||| 2 ^ j) q=true∧planOK l (masks l) false d alt=true) →
  ∃ q o,l[i]?=some o∧planOK l (masks l) true (d ||| 2 ^ i) q=true∧opG n P l.toArray o ρ H (fun ρ' H'=>heldOK hl H'∧drawW n P l hl Q q ρ' H') Q:=by
 intro p
 induction p with
 | act j q alt _ ih =>
  intro hi ρ H hw hok
  obtain ⟨h1,_,_,h4,h5⟩:=hok j q alt rfl
  unfold drawW at hw
  simp only [Plan.idxs,List.mem_cons] at hi
  by_cases hij:i=j
  ·subst hij
   have hil:i < l.length:=by simpa using h1
   have ho:l[i]?=some l[i]:=by simp [hil]
   refine ⟨q,l[i],ho,h4,?_⟩
   have:=hw.1
   rw [ho] at this
   exact this
  ·refine ih (by rcases hi with hi | hi; exact absurd hi hij; exact hi) ρ H hw.2 ?_
   rintro j' q' alt' rfl
   simp only [planOK,Bool.and_eq_true] at h5
   obtain ⟨⟨⟨⟨g1,g2⟩,g3⟩,g4⟩,g5⟩:=h5
   exact ⟨g1,g2,g3,g4,g5⟩
 | _=>intro hi; simp [Plan.idxs] at hi
theorem draw_main (hpan:PanOK Q) (hv:overOK l (masks l)=true) (hedge:edgesOK l=true) {w0:World}:∀ (fuel:Nat) (hl:List (Addr × Value)) (listed:Array Bool) (ρ:En) (w:World) (a:Act)
  (vals:Nat→Value) (fl:Nat→Bool) (d:Nat) (p:Plan),listed.size=l.length→(List.range l.length).countP (fun k=>!listed.getD k false)≤fuel→Rest w0 w→Ag n a ρ→ρ.ds=ρ0.ds→heldOK hl w.heap →
  Closed l (fun k=>listed.getD k false=true)→DSt n P l hl Q ρ0 (fun k=>listed.getD k false=true) ρ w.heap vals fl d p→(∀ i f q,p ≠ .look i f q) →
  wpAny P .any l.toArray (upQ n w0 Q) fuel listed a w:=by
 have ready_of:∀ (listed:Array Bool) (i:Nat),listed.size=l.length→i ∈ Region.ready .any l.toArray listed→Ready l (fun k=>listed.getD k false=true) i∧¬ listed.getD i false=true∧i < l.length:=by
  intro listed i hs hi
  unfold Region.ready at hi
  simp only [List.size_toArray,List.mem_filter,List.mem_range,List.getElem?_toArray,Bool.and_eq_true,Bool.not_eq_true'] at hi
  obtain ⟨hil,hlist,hafter⟩:=hi
  refine ⟨⟨l[i],by simp [hil],?_⟩,?_,hil⟩
  ·rw [show l[i]?=some l[i] from by simp [hil]] at hafter
   simp only [Option.map_some,Option.getD_some,Array.all_eq_true] at hafter
   intro e he hb
   obtain ⟨j,hj,hje⟩:=List.getElem_of_mem he
   have:=hafter j (by simpa using hj)
   simp only [Array.getElem_toList] at hje
   rw [hje,hb] at this
   simpa using this
  ·rw [Array.getD_eq_getD_getElem?] at hlist ⊢
   rw [Array.getElem?_eq_getElem (by omega)] at hlist ⊢
   simp only [Option.getD_some] at hlist ⊢
   simp [hlist]
 have finish:∀ (hl:List (Addr × Value)) (listed:Array Bool) (ρ:En) (w:World) (a:Act) (vals:Nat→Value) (fl:Nat→Bool) (d:Nat) (p:Plan),listed.size=l.length→Rest w0 w→Ag n a ρ→ρ.ds=ρ0.ds →
   DSt n P l hl Q ρ0 (fun k=>listed.getD k false=true) ρ w.heap vals fl d p→(∀ i f q,p ≠ .look i f q)→(∀ k,k < l.length→listed.getD k false=true)→upQ n w0 Q .normal a w:=by
  intro hl listed ρ w a vals fl d p hs hr ha hds hst hhead hfull
  have hfin:p=.fin:=by
   have hok:=hst.ok
   cases p with
   | fin=>rfl
   | non=>simp [planOK] at hok
   | look i f q=>exact absurd rfl (hhead i f q)
   | act i q alt =>
    exfalso
    simp only [planOK,Bool.and_eq_true,decide_eq_true_eq] at hok
    obtain ⟨⟨⟨⟨⟨_,hil⟩,_⟩,hrm⟩,_⟩,_⟩:=hok
    exact (ready_of_mask hrm hil).2 (hst.sub i (hfull i hil))
   | actd i q =>
    exfalso
    simp only [planOK,Bool.and_eq_true,decide_eq_true_eq] at hok
    obtain ⟨⟨⟨⟨⟨_,hil⟩,_⟩,hrm⟩,_⟩,_⟩:=hok
    exact (ready_of_mask hrm hil).2 (hst.sub i (hfull i hil))
   | acth i q =>
    exfalso
    simp only [planOK,Bool.and_eq_true,decide_eq_true_eq] at hok
    obtain ⟨⟨⟨⟨⟨_,hil⟩,_⟩,hrm⟩,_⟩,_⟩:=hok
    exact (ready_of_mask hrm hil).2 (hst.sub i (hfull i hil))
  subst hfin
  have hc:=hst.cont
  refine ⟨hr,ρ,ha,?_⟩
  have e:ρ=ES n l vals ρ0 (fun k=>d.testBit k=true) l.length:=by
   refine En_ext (fun t=>?_) (by rw [ES_ds]; exact hds)
   rw [hst.env t]
   have eq:∀ k,k≤l.length→(ES n l vals ρ0 (fun k=>listed.getD k false=true) k)=ES n l vals ρ0 (fun k=>d.testBit k=true) k:=by
    intro k
    induction k with
    | zero=>intro _; rfl
    | succ k ih =>
     intro hk
     have h1:=hfull k (by omega)
     rw [ES_succ,ES_succ,if_pos h1,if_pos (hst.sub k h1),ih (by omega)]
   rw [eq l.length (Nat.le_refl _)]
  rw [e]
  exact hc
 have stuck0:∀ (listed:Array Bool),listed.size=l.length→Region.ready .any l.toArray listed = []→∀ k,k < l.length→listed.getD k false=true:=by
  intro listed hs hr k
  induction k using Nat.strongRecOn with
  | _ k ih =>
   intro hk
   cases hb:listed.getD k false with
   | true=>rfl
   | false =>
    exfalso
    have:k ∈ Region.ready .any l.toArray listed:=by
     unfold Region.ready
     simp only [List.size_toArray,List.mem_filter,List.mem_range,List.getElem?_toArray,Bool.and_eq_true,Bool.not_eq_true']
     refine ⟨hk,?_,?_⟩
     ·rw [Array.getD_eq_getD_getElem?,Array.getElem?_eq_getElem (by omega)] at hb ⊢
      exact hb
     ·rw [show l[k]?=some l[k] from by simp [hk]]
      simp only [Option.map_some,Option.getD_some,Array.all_eq_true]
      intro j hj
      cases hbe:Region.binds .any (l[k].after[j]) with
      | false=>simp
      | true =>
       simp only [Bool.not_true,Bool.false_or]
       have hed:=hedge
       unfold edgesOK at hed
       rw [List.all_eq_true] at hed
       have h1:=hed (l[k],k) (by rw [List.mem_zipIdx_iff_getElem?]; simp [hk])
       rw [List.all_eq_true] at h1
       have h2:=h1 (l[k].after[j]) (by simp)
       rw [hbe] at h2
       have h3:(l[k].after[j]).on < k:=by simpa using h2
       exact ih _ h3 (by omega)
    rw [hr] at this
    simp at this
 intro fuel
 induction fuel with
 | zero =>
  intro hl listed ρ w a vals fl d p hs hcnt hr ha hds hh hc hst hhead
  have hfull:∀ k,k < l.length→listed.getD k false=true:=by
   intro k hk
   have h0:(List.range l.length).countP (fun k=>!listed.getD k false)=0:=by omega
   rw [List.countP_eq_zero] at h0
   simpa using h0 k (by simpa using hk)
  refine ⟨?_,finish hl listed ρ w a vals fl d p hs hr ha hds hst hhead hfull⟩
  cases hrd:Region.ready .any l.toArray listed with
  | nil=>rfl
  | cons i r =>
   exfalso
   obtain ⟨_,h2,h3⟩:=ready_of listed i hs (by rw [hrd]; simp)
   exact h2 (hfull i h3)
 | succ fuel ih =>
  intro hl listed ρ w a vals fl d p hs hcnt hr ha hds hh hc hst hhead
  refine ⟨fun hrd=>finish hl listed ρ w a vals fl d p hs hr ha hds hst hhead (stuck0 listed hs hrd),fun i hi=>?_⟩
  obtain ⟨hrdy,hni,hil⟩:=ready_of listed i hs hi
  have hset:∀ k,(listed.setIfInBounds i true).getD k false=true↔(listed.getD k false=true∨k=i):=by
   intro k
   rw [Array.getD_eq_getD_getElem?,Array.getElem?_setIfInBounds,Array.getD_eq_getD_getElem?]
   by_cases e:i=k
   ·subst e; simp [hs,hil]
   ·have e':¬ k=i:=fun x=>e x.symm
    simp [e,e']
  have hcnt':(List.range l.length).countP (fun k=>!(listed.setIfInBounds i true).getD k false)≤fuel:=by
   have:=countP_lt (p:=fun k=>!listed.getD k false) (p':=fun k=>!(listed.setIfInBounds i true).getD k false) (i:=i) (by simpa using hni)
    (by have:=(hset i).2 (.inr rfl); simp [this]) (fun k hk=>by
     cases hb:listed.getD k false with
     | false=>rfl
     | true=>have:=(hset k).2 (.inl hb); simp [this] at hk) (l:=List.range l.length) (by simpa using hil)
   omega
  have hc':Closed l (fun k=>(listed.setIfInBounds i true).getD k false=true):=by
   intro j o hj hs' e he hb
   rcases (hset j).1 hs' with hs' | rfl
   ·exact (hset _).2 (.inl (hc j o hj hs' e he hb))
   ·obtain ⟨o',ho',hall'⟩:=hrdy
    rw [hj] at ho'
    simp only [Option.some.injEq] at ho'
    subst ho'
    exact (hset _).2 (.inl (hall' e he hb))
  have hs':(listed.setIfInBounds i true).size=l.length:=by simpa using hs
  obtain ⟨o,ho,_⟩:=id hrdy
  have hdst:dstOf l i=o.dst:=by unfold dstOf; rw [ho]; rfl
  have henv:∀ (vals':Nat→Value),(∀ k,k ≠ i→vals' k=vals k)→∀ t,(ρ.put n o.dst (vals' i)).get t=(ES n l vals' ρ0 (fun k=>(listed.setIfInBounds i true).getD k false=true) l.length).get t:=by
   intro vals' hvals t
   have:=ES_add (n:=n) (l:=l) (vals:=vals) (vals':=vals') (ρ0:=ρ0) (S:=fun k=>listed.getD k false=true) (S':=fun k=>(listed.setIfInBounds i true).getD k false=true) (i:=i)
    hset hni (fun k hk=>hvals k (fun e=>hni (by rw [← e]; exact hk))) (fun t k hd hk hne=>fits_S hv hc hrdy hni (dst_touch hd) k hk hne) l.length hil t
   rw [this,hdst,put_get,put_get,hst.env t]
  cases hqi:isQ o.op with
  | true =>
   have heff:effAt l i=false:=by unfold effAt; rw [ho]; simp [hqi]
   have hin:d.testBit i=true:=by
    cases hdi:d.testBit i with
    | true=>rfl
    | false =>
     exfalso
     have hrm:=mask_of_ready hc hrdy hst.sub (d:=d) (by simp [hdi])
     have hok:=hst.ok
     cases p with
     | fin =>
      simp only [planOK,List.all_eq_true] at hok
      have:=hok i (by simpa using hil)
      rw [hdi] at this; simp at this
     | non=>simp [planOK] at hok
     | look j f q=>exact hhead j f q rfl
     | act j q alt =>
      simp only [planOK,Bool.and_eq_true,List.all_eq_true] at hok
      have:=hok.1.1.1.1.1 i (by simpa using hil)
      rw [hrm,heff] at this
      simp at this
     | actd j q =>
      simp only [planOK,Bool.and_eq_true,List.all_eq_true] at hok
      have:=hok.1.1.1.1.1 i (by simpa using hil)
      rw [hrm,heff] at this
      simp at this
     | acth j q =>
      simp only [planOK,Bool.and_eq_true,List.all_eq_true] at hok
      have:=hok.1.1.1.1.1 i (by simpa using hil)
      rw [hrm,heff] at this
      simp at this
   obtain ⟨o',ρi,h1,_,_,h3,h4⟩:=hst.pend i hin hni
   rw [ho] at h1
   simp only [Option.some.injEq] at h1
   subst h1
   have hag:∀ t ∈ touch l i,ρi.get t=ρ.get t:=by
    intro t ht
    rw [h4 t ht,hst.env t]
    exact (ES_fits (i:=i) (fits_S hv hc hrdy hni ht) (fun k _ _=>Iff.rfl) hni (by simp) (fun _ _ _=>rfl) _).symm
   rw [evalQ_congr ho hag] at h3
   refine evalQ_sound (V:=if fl i=true then full w.heap else held hl) ho ha (by split; exact full_of _; exact heldOK_of hh) h3 ?_
   refine ih hl (listed.setIfInBounds i true) (ρ.put n o.dst (vals i)) w (a.put o.dst (vals i)) vals fl d p hs' hcnt' hr (ha.put _ _) (by rw [ds_put]; exact hds) hh hc' ?_ hhead
   refine { ok:=hst.ok,closed:=hst.closed,env:=henv vals (fun _ _=>rfl),sub:=?_,eff:=fun k hk he=>(hset _).2 (.inl (hst.eff k hk he)),pend:=fun k hk hnk=>hst.pend k hk (fun h=>hnk ((hset _).2 (.inl h))),cont:=hst.cont }
   intro k hk
   rcases (hset k).1 hk with hk | rfl
   ·exact hst.sub k hk
   ·exact hin
  | false =>
   have heff:effAt l i=true:=by unfold effAt; rw [ho]; simp [hqi]
   have hnin:¬ d.testBit i=true:=fun h=>hni (hst.eff i h heff)
   have hrm:=mask_of_ready hc hrdy hst.sub hnin
   have hrd:=(ready_of_mask hrm hil).1
   have hok:=hst.ok
   cases p with
   | fin =>
    exfalso
    simp only [planOK,List.all_eq_true] at hok
    exact hnin (hok i (by simpa using hil))
   | non=>simp [planOK] at hok
   | look j f q=>exact absurd rfl (hhead j f q)
   | act j q alt =>
    simp only [planOK,Bool.and_eq_true] at hok
    obtain ⟨⟨⟨⟨⟨g0,g1⟩,g2⟩,g3⟩,g4⟩,g5⟩:=hok
    have hmem:i ∈ (Plan.act j q alt).idxs:=by
     rw [List.all_eq_true] at g0
     have:=g0 i (by simpa using hil)
     rw [hrm,heff] at this
     simpa [Plan.idxs] using this
    obtain ⟨q',o',ho',hokq,hcont⟩:=act_choice (d:=d) (.act j q alt) hmem _ _ hst.cont (by
     rintro j' q' alt' he
     simp only [Plan.act.injEq] at he
     obtain ⟨rfl,rfl,rfl⟩:=he
     exact ⟨g1,g2,g3,g4,g5⟩)
    rw [ho] at ho'
    simp only [Option.some.injEq] at ho'
    subst ho'
    have hag:∀ t ∈ touch l i,(ES n l vals ρ0 (fun k=>d.testBit k=true) l.length).get t=ρ.get t:=by
     intro t ht
     rw [hst.env t]
     exact ES_fits (i:=i) (fits_S hv hst.closed hrd hnin ht) (fits_S hv hc hrdy hni ht) hnin hni (fun _ _ _=>rfl) _
    have hG:=opG_trans (K':=fun ρ' H'=>∃ v,ρ'=ρ.put n o.dst v∧heldOK hl H'∧drawW n P l hl Q q' ((ES n l vals ρ0 (fun k=>d.testBit k=true) l.length).put n o.dst v) H') ho hqi hag
     (fun v H' h=>⟨v,rfl,h.1,h.2⟩) (fun c H' h=>hpan c _ _ H' (by rw [ES_ds]; exact hds.symm) h) hcont
    have hS:=opG_sound hr ha hG
    unfold wpOp
    simp only [List.getElem?_toArray,ho]
    have next:∀ a' w',up n w0 (fun ρ' H'=>∃ v,ρ'=ρ.put n o.dst v∧heldOK hl H'∧drawW n P l hl Q q' ((ES n l vals ρ0 (fun k=>d.testBit k=true) l.length).put n o.dst v) H') a' w' →
      wpAny P .any l.toArray (upQ n w0 Q) fuel (listed.setIfInBounds i true) a' w':=by
     rintro a' w' ⟨hr',ρ',ha',v,rfl,hh',hk⟩
     have hst':DSt n P l hl Q ρ0 (fun k=>(listed.setIfInBounds i true).getD k false=true) (ρ.put n o.dst v) w'.heap (fun k=>if k=i then v else vals k) fl (d ||| 2 ^ i) q':=by
      refine { ok:=hokq,closed:=closed_add hst.closed hrd,env:=?_,sub:=?_,eff:=?_,pend:=?_,cont:=?_ }
      ·have:=henv (fun k=>if k=i then v else vals k) (fun k hk=>if_neg hk)
       simpa using this
      ·intro k hk
       rcases (hset k).1 hk with hk | rfl
       ·exact bit_or.2 (.inl (hst.sub k hk))
       ·exact bit_or.2 (.inr rfl)
      ·intro k hk he
       rcases bit_or.1 hk with hk | rfl
       ·exact (hset _).2 (.inl (hst.eff k hk he))
       ·exact (hset _).2 (.inr rfl)
      ·intro k hk hnk
       rcases bit_or.1 hk with hk | rfl
       ·have hnk':¬ listed.getD k false=true:=fun h=>hnk ((hset _).2 (.inl h))
        obtain ⟨o',ρi,h1,h2,h2',h3,h4⟩:=hst.pend k hk hnk'
        have hki:k ≠ i:=fun e=>hnin (by rw [← e]; exact hk)
        have hfl:fl k=false:=by
         cases hb:fl k with
         | false=>rfl
         | true =>
          exfalso
          have hcomp:=h2' hb
          unfold compOK at hcomp
          rw [List.all_eq_true] at hcomp
          have h5:=hcomp i (by simpa using hil)
          rw [heff] at h5
          simp only [Bool.not_true,Bool.false_or,Bool.or_eq_true] at h5
          rcases h5 with h5 | h5
          ·have hkl:=(List.getElem?_eq_some_iff.1 h1).1
           exact hnin (masks_spec hst.closed h5 ⟨l[k],by simp [hkl],fun e he hb=>hst.closed k l[k] (by simp [hkl]) hk e he hb⟩)
          ·exact hnk' (masks_spec hc h5 hrdy)
        rw [hfl] at h3
        refine ⟨o',ρi,h1,h2,h2',by rw [if_neg hki,hfl]; exact h3,fun t ht=>?_⟩
        rw [h4 t ht]
        exact pend_keep hv hst.closed hk (List.getElem?_eq_some_iff.1 h1).1 hnin (fun j hj=>by rw [if_neg hj]) ht
       ·exact absurd ((hset _).2 (.inr rfl)) hnk
      ·rw [env_add hv ho hst.closed hrd hnin]
       exact hk
     obtain ⟨vals',fl',d',p',hst'',hhead'⟩:=advance hv q' _ _ _ hst'
     exact ih hl (listed.setIfInBounds i true) (ρ.put n o.dst v) w' a' vals' fl' d' p' hs' hcnt' hr' ha' (by rw [ds_put]; exact hds) hh' hc' hst'' hhead'
    split
    ·rename_i hw
     rw [if_pos hw] at hS
     exact hS.imp (Oper.wp_mono next) id
    ·rename_i hw
     rw [if_neg hw] at hS
     exact next _ _ hS
   | actd j q =>
    simp only [planOK,Bool.and_eq_true] at hok
    obtain ⟨⟨⟨⟨⟨g0,g1⟩,g2⟩,g3⟩,gd⟩,g4⟩:=hok
    have hij:i=j:=by
     rw [List.all_eq_true] at g0
     have:=g0 i (by simpa using hil)
     rw [hrm,heff] at this
     simpa using this
    subst hij
    have hcont:opG n P l.toArray o (ES n l vals ρ0 (fun k=>d.testBit k=true) l.length) w.heap (drawW n P l [] Q q) Q:=by
     have:=hst.cont
     unfold drawW at this
     rw [ho] at this
     exact this
    have hag:∀ t ∈ touch l i,(ES n l vals ρ0 (fun k=>d.testBit k=true) l.length).get t=ρ.get t:=by
     intro t ht
     rw [hst.env t]
     exact ES_fits (i:=i) (fits_S hv hst.closed hrd hnin ht) (fits_S hv hc hrdy hni ht) hnin hni (fun _ _ _=>rfl) _
    have hG:=opG_trans (K':=fun ρ' H'=>∃ v,ρ'=ρ.put n o.dst v∧drawW n P l [] Q q ((ES n l vals ρ0 (fun k=>d.testBit k=true) l.length).put n o.dst v) H') ho hqi hag
     (fun v H' h=>⟨v,rfl,h⟩) (fun c H' h=>hpan c _ _ H' (by rw [ES_ds]; exact hds.symm) h) hcont
    have hS:=opG_sound hr ha hG
    unfold wpOp
    simp only [List.getElem?_toArray,ho]
    have next:∀ a' w',up n w0 (fun ρ' H'=>∃ v,ρ'=ρ.put n o.dst v∧drawW n P l [] Q q ((ES n l vals ρ0 (fun k=>d.testBit k=true) l.length).put n o.dst v) H') a' w' →
      wpAny P .any l.toArray (upQ n w0 Q) fuel (listed.setIfInBounds i true) a' w':=by
     rintro a' w' ⟨hr',ρ',ha',v,rfl,hk⟩
     have hst':DSt n P l [] Q ρ0 (fun k=>(listed.setIfInBounds i true).getD k false=true) (ρ.put n o.dst v) w'.heap (fun k=>if k=i then v else vals k) fl (d ||| 2 ^ i) q:=by
      refine { ok:=g4,closed:=closed_add hst.closed hrd,env:=?_,sub:=?_,eff:=?_,pend:=?_,cont:=?_ }
      ·have:=henv (fun k=>if k=i then v else vals k) (fun k hk=>if_neg hk)
       simpa using this
      ·intro k hk
       rcases (hset k).1 hk with hk | rfl
       ·exact bit_or.2 (.inl (hst.sub k hk))
       ·exact bit_or.2 (.inr rfl)
      ·intro k hk he
       rcases bit_or.1 hk with hk | rfl
       ·exact (hset _).2 (.inl (hst.eff k hk he))
       ·exact (hset _).2 (.inr rfl)
      ·intro k hk hnk
       exfalso
       rcases bit_or.1 hk with hk | rfl
       ·have hnk':¬ listed.getD k false=true:=fun h=>hnk ((hset _).2 (.inl h))
        obtain ⟨o',ρi,h1,h2,h2',h3,h4⟩:=hst.pend k hk hnk'
        have hkl:=(List.getElem?_eq_some_iff.1 h1).1
        have hke:effAt l k=false:=by unfold effAt; rw [h1]; simp [h2]
        rw [List.all_eq_true] at gd
        have h5:=gd k (by simpa using hkl)
        rw [hk,hke] at h5
        simp only [Bool.not_true,Bool.false_or,Bool.or_eq_true] at h5
        rcases h5 with h5 | hcomp
        ·exact hnk' (masks_spec hc h5 hrdy)
        ·unfold compOK at hcomp
         rw [List.all_eq_true] at hcomp
         have h6:=hcomp i (by simpa using hil)
         rw [heff] at h6
         simp only [Bool.not_true,Bool.false_or,Bool.or_eq_true] at h6
         rcases h6 with h6 | h6
         ·exact hnin (masks_spec hst.closed h6 ⟨l[k],by simp [hkl],fun e he hb=>hst.closed k l[k] (by simp [hkl]) hk e he hb⟩)
         ·exact hnk' (masks_spec hc h6 hrdy)
       ·exact hnk ((hset _).2 (.inr rfl))
      ·rw [env_add hv ho hst.closed hrd hnin]
       exact hk
     obtain ⟨vals',fl',d',p',hst'',hhead'⟩:=advance hv q _ _ _ hst'
     exact ih [] (listed.setIfInBounds i true) (ρ.put n o.dst v) w' a' vals' fl' d' p' hs' hcnt' hr' ha' (by rw [ds_put]; exact hds) (fun _ _ h=>by simp [lookA] at h) hc' hst'' hhead'
    split
    ·rename_i hw
     rw [if_pos hw] at hS
     exact hS.imp (Oper.wp_mono next) id
    ·rename_i hw
     rw [if_neg hw] at hS
     exact next _ _ hS
   | acth j q =>
    simp only [planOK,Bool.and_eq_true] at hok
    obtain ⟨⟨⟨⟨⟨g0,g1⟩,g2⟩,g3⟩,gd⟩,g4⟩:=hok
    have hij:i=j:=by
     rw [List.all_eq_true] at g0
     have:=g0 i (by simpa using hil)
     rw [hrm,heff] at this
     simpa using this
    subst hij
    have hcont:opG n P l.toArray o (ES n l vals ρ0 (fun k=>d.testBit k=true) l.length) w.heap (fun ρ' H'=>∃ hl',heldOK hl' H'∧drawW n P l hl' Q q ρ' H') Q:=by
     have:=hst.cont
     unfold drawW at this
     rw [ho] at this
     exact this
    have hag:∀ t ∈ touch l i,(ES n l vals ρ0 (fun k=>d.testBit k=true) l.length).get t=ρ.get t:=by
     intro t ht
     rw [hst.env t]
     exact ES_fits (i:=i) (fits_S hv hst.closed hrd hnin ht) (fits_S hv hc hrdy hni ht) hnin hni (fun _ _ _=>rfl) _
    have hG:=opG_trans (K':=fun ρ' H'=>∃ v,ρ'=ρ.put n o.dst v∧∃ hl',heldOK hl' H'∧drawW n P l hl' Q q ((ES n l vals ρ0 (fun k=>d.testBit k=true) l.length).put n o.dst v) H') ho hqi hag
     (fun v H' h=>⟨v,rfl,h⟩) (fun c H' h=>hpan c _ _ H' (by rw [ES_ds]; exact hds.symm) h) hcont
    have hS:=opG_sound hr ha hG
    unfold wpOp
    simp only [List.getElem?_toArray,ho]
    have next:∀ a' w',up n w0 (fun ρ' H'=>∃ v,ρ'=ρ.put n o.dst v∧∃ hl',heldOK hl' H'∧drawW n P l hl' Q q ((ES n l vals ρ0 (fun k=>d.testBit k=true) l.length).put n o.dst v) H') a' w' →
      wpAny P .any l.toArray (upQ n w0 Q) fuel (listed.setIfInBounds i true) a' w':=by
     rintro a' w' ⟨hr',ρ',ha',v,rfl,hl',hh',hk⟩
     have hst':DSt n P l hl' Q ρ0 (fun k=>(listed.setIfInBounds i true).getD k false=true) (ρ.put n o.dst v) w'.heap (fun k=>if k=i then v else vals k) fl (d ||| 2 ^ i) q:=by
      refine { ok:=g4,closed:=closed_add hst.closed hrd,env:=?_,sub:=?_,eff:=?_,pend:=?_,cont:=?_ }
      ·have:=henv (fun k=>if k=i then v else vals k) (fun k hk=>if_neg hk)
       simpa using this
      ·intro k hk
       rcases (hset k).1 hk with hk | rfl
       ·exact bit_or.2 (.inl (hst.sub k hk))
       ·exact bit_or.2 (.inr rfl)
      ·intro k hk he
       rcases bit_or.1 hk with hk | rfl
       ·exact (hset _).2 (.inl (hst.eff k hk he))
       ·exact (hset _).2 (.inr rfl)
      ·intro k hk hnk
       exfalso
       rcases bit_or.1 hk with hk | rfl
       ·have hnk':¬ listed.getD k false=true:=fun h=>hnk ((hset _).2 (.inl h))
        obtain ⟨o',ρi,h1,h2,h2',h3,h4⟩:=hst.pend k hk hnk'
        have hkl:=(List.getElem?_eq_some_iff.1 h1).1
        have hke:effAt l k=false:=by unfold effAt; rw [h1]; simp [h2]
        rw [List.all_eq_true] at gd
        have h5:=gd k (by simpa using hkl)
        rw [hk,hke] at h5
        simp only [Bool.not_true,Bool.false_or,Bool.or_eq_true] at h5
        rcases h5 with h5 | hcomp
        ·exact hnk' (masks_spec hc h5 hrdy)
        ·unfold compOK at hcomp
         rw [List.all_eq_true] at hcomp
         have h6:=hcomp i (by simpa using hil)
         rw [heff] at h6
         simp only [Bool.not_true,Bool.false_or,Bool.or_eq_true] at h6
         rcases h6 with h6 | h6
         ·exact hnin (masks_spec hst.closed h6 ⟨l[k],by simp [hkl],fun e he hb=>hst.closed k l[k] (by simp [hkl]) hk e he hb⟩)
         ·exact hnk' (masks_spec hc h6 hrdy)
       ·exact hnk ((hset _).2 (.inr rfl))
      ·rw [env_add hv ho hst.closed hrd hnin]
       exact hk
     obtain ⟨vals',fl',d',p',hst'',hhead'⟩:=advance hv q _ _ _ hst'
     exact ih hl' (listed.setIfInBounds i true) (ρ.put n o.dst v) w' a' vals' fl' d' p' hs' hcnt' hr' ha' (by rw [ds_put]; exact hds) hh' hc' hst'' hhead'
    split
    ·rename_i hw
     rw [if_pos hw] at hS
     exact hS.imp (Oper.wp_mono next) id
    ·rename_i hw
     rw [if_neg hw] at hS
     exact next _ _ hS
theorem draw_by {id:Nat} {ρ:En} {H:Heap} (p:Plan) (hl:List (Addr × Value)) (hm:P.follows .mixedOrders=true) (hok:drawOK l p=true) (hpan:PanOK Q) (hh:heldOK hl H)
  (h:drawW n P l hl Q p ρ H):@stop ⟨CW n P (.region id l.toArray true) Q ρ H⟩:=by
 intro w0 w a hr hw ha
 subst hw
 unfold drawOK at hok
 simp only [Bool.and_eq_true] at hok
 obtain ⟨⟨h1,h2⟩,h3⟩:=hok
 refine wp_region_any hm ?_
 have none:∀ k,¬ (Array.replicate l.toArray.size false).getD k false=true:=by
  intro k
  rw [Array.getD_eq_getD_getElem?,Array.getElem?_replicate]
  split <;> simp
 have hst:DSt n P l hl Q ρ (fun k=>(Array.replicate l.toArray.size false).getD k false=true) ρ w.heap (fun _=>undef) (fun _=>false) 0 p:=by
  have e0:∀ (S:Nat→Prop),(∀ k,¬ S k)→∀ k,ES n l (fun _=>undef) ρ S k=ρ:=by
   intro S hS k
   induction k with
   | zero=>rfl
   | succ k ih=>rw [ES_succ,if_neg (hS k),ih]
  refine { ok:=h3,closed:=fun j o _ hs=>by simp at hs,env:=fun t=>by rw [e0 _ none],sub:=fun k hk=>absurd hk (none k),eff:=fun k hk=>by simp at hk,pend:=fun k hk=>by simp at hk,cont:=?_ }
  rw [e0 _ (fun k=>by simp)]
  exact h
 obtain ⟨vals',fl',d',p',hst',hhead⟩:=advance h2 p 0 _ _ hst
 refine draw_main hpan h2 h1 _ hl _ ρ { w with drawn:=w.drawn + 1 } a vals' fl' d' p' (by simp) ?_ ⟨hr.os,hr.tape,hr.output⟩ ha rfl hh ?_ hst' hhead
 ·exact Nat.le_trans (List.countP_le_length) (by simp)
 ·intro j o hj hs
  exact absurd hs (none j)
end
end Go.HL
namespace Go.HL
def lk:List (Nat × Bool)→Plan→Plan
 | [],p=>p
 | x :: r,p=>.look x.1 x.2 (lk r p)
def heldB (hl:List (Addr × Value)) (H:Heap) [p:Inhabited Prop]:Prop:=heldOK hl H∧p.default
theorem held_by {hl:List (Addr × Value)} {H:Heap} {p:Prop} (h:heldOK hl H) (hp:p):@heldB hl H ⟨p⟩:=⟨h,hp⟩
theorem heldOK_nil {H:Heap}:heldOK [] H:=fun _ _ h=>by simp [lookA] at h
section
variable {n:Nat} {P:Program} {l:List Oper} {hl:List (Addr × Value)} {Q:Exit→En→Heap→Prop} {ρ:En} {H:Heap}
@[go_sem ↓] theorem lk_nil {p:Plan}:lk [] p=p:=(rfl)
@[go_sem ↓] theorem lk_cons {i:Nat} {f:Bool} {r:List (Nat × Bool)} {p:Plan}:lk ((i,f) :: r) p=.look i f (lk r p):=(rfl)
@[go_sem ↓] theorem drawW_nil {p:Plan}:drawW n P l hl Q (lk [] p) ρ H=drawW n P l hl Q p ρ H:=(rfl)
@[go_sem ↓] theorem drawW_fin:drawW n P l hl Q .fin ρ H=Q .normal ρ H:=(rfl)
@[go_sem ↓] theorem drawW_non:drawW n P l hl Q .non ρ H=True:=(rfl)
theorem drawW_look {i:Nat} {f:Bool} {p:Plan}:drawW n P l hl Q (.look i f p) ρ H=someW (l[i]?) fun o=>if f then opG n P l.toArray o ρ H (drawW n P l hl Q p) Q else opGF P n hl l o ρ fun ρ'=>drawW n P l hl Q p ρ' H:=by
 show (match l[i]? with | none=>_ | some o=>_)=_
 cases l[i]? <;> rfl
@[go_sem ↓] theorem drawW_lk_t {i:Nat} {r:List (Nat × Bool)} {p:Plan}:drawW n P l hl Q (lk ((i,true) :: r) p) ρ H = @someB _ (l[i]?) ⟨fun o=>opG n P l.toArray o ρ H (drawW n P l hl Q (lk r p)) Q⟩:=by
 show drawW n P l hl Q (.look i true (lk r p)) ρ H=_
 rw [drawW_look]; rfl
@[go_sem ↓] theorem drawW_lk_f {i:Nat} {r:List (Nat × Bool)} {p:Plan}:drawW n P l hl Q (lk ((i,false) :: r) p) ρ H = @someB _ (l[i]?) ⟨fun o=>opGF P n hl l o ρ fun ρ'=>drawW n P l hl Q (lk r p) ρ' H⟩:=by
 show drawW n P l hl Q (.look i false (lk r p)) ρ H=_
 rw [drawW_look]; rfl
theorem drawW_act {i:Nat} {p alt:Plan}:drawW n P l hl Q (.act i p alt) ρ H=((someW (l[i]?) fun o=>opG n P l.toArray o ρ H (fun ρ' H'=>heldOK hl H'∧drawW n P l hl Q p ρ' H') Q)∧drawW n P l hl Q alt ρ H):=by
 show ((match l[i]? with | none=>_ | some o=>_)∧_)=_
 cases l[i]? <;> rfl
@[go_sem ↓] theorem drawW_act1 {i:Nat} {p:Plan}:drawW n P l hl Q (.act i p .non) ρ H = @someB _ (l[i]?) ⟨fun o=>opG n P l.toArray o ρ H (fun ρ' H'=>@heldB hl H' ⟨drawW n P l hl Q p ρ' H'⟩) Q⟩:=by
 rw [drawW_act]
 exact and_true _
@[go_sem ↓] theorem drawW_act2 {i j:Nat} {p q alt:Plan}:drawW n P l hl Q (.act i p (.act j q alt)) ρ H = @both2 ⟨drawW n P l hl Q (.act i p .non) ρ H⟩ ⟨drawW n P l hl Q (.act j q alt) ρ H⟩:=by
 rw [drawW_act]
 show (_∧_)=(drawW n P l hl Q (.act i p .non) ρ H∧_)
 rw [drawW_act (alt:=.non)]
 show (_∧_)=((_∧True)∧_)
 rw [and_true]
 rfl
theorem drawW_actd' {i:Nat} {p:Plan}:drawW n P l hl Q (.actd i p) ρ H=someW (l[i]?) fun o=>opG n P l.toArray o ρ H (drawW n P l [] Q p) Q:=by
 show (match l[i]? with | none=>_ | some o=>_)=_
 cases l[i]? <;> rfl
@[go_sem ↓] theorem drawW_actd {i:Nat} {p:Plan}:drawW n P l hl Q (.actd i p) ρ H = @someB _ (l[i]?) ⟨fun o=>opG n P l.toArray o ρ H (drawW n P l [] Q p) Q⟩:=drawW_actd'
def reholdB (n:Nat) (P:Program) (l:List Oper) (p:Plan) (ρ:En) (H:Heap) [Q:Inhabited (Exit→En→Heap→Prop)]:Prop:=∃ hl',heldOK hl' H∧drawW n P l hl' Q.default p ρ H
@[go_sem ↓] theorem drawW_acth {i:Nat} {p:Plan}:drawW n P l hl Q (.acth i p) ρ H = @someB _ (l[i]?) ⟨fun o=>opG n P l.toArray o ρ H (fun ρ' H'=>@reholdB n P l p ρ' H' ⟨Q⟩) Q⟩:=by
 show (match l[i]? with | none=>_ | some o=>_)=_
 cases l[i]? <;> rfl
theorem rehold_by {p:Plan} (hl':List (Addr × Value)) (hh:heldOK hl' H) (h:drawW n P l hl' Q p ρ H):@reholdB n P l p ρ H ⟨Q⟩:=⟨hl',hh,h⟩
@[go_sem] theorem heldB_nil {p:Prop}:@heldB [] H ⟨p⟩=p:=by
 unfold heldB
 exact propext ⟨fun h=>h.2,fun h=>⟨heldOK_nil,h⟩⟩
variable {dst:Option Nat} {op:Op} {ty:TypeId} {pos:String} {after:Array Edge} {K:En→Prop}
@[go_sem ↓] theorem opGF_none:opGF P n hl l ⟨dst,op,ty,pos,after,none⟩ ρ K = @someB _ (opQ P (held hl) ρ.ev op) ⟨fun v=>K (ρ.put n dst v)⟩:=(rfl)
@[go_sem ↓] theorem opGF_some {j:Nat} {want:Bool}:opGF P n hl l ⟨dst,op,ty,pos,after,some (j,want)⟩ ρ K =
  @guardB (slotOf l.toArray ρ j) want ⟨@someB _ (opQ P (held hl) ρ.ev op) ⟨fun v=>K (ρ.put n dst v)⟩⟩ ⟨K (ρ.put n dst undef)⟩:=(rfl)
end
section
variable {P:Program} {V:HV} {ρ:Operand→Value}
@[go_sem ↓] theorem opQ_move {x:Operand}:opQ P V ρ (.move x)=some (ρ x):=(rfl)
@[go_sem ↓] theorem opQ_assign {x:Operand}:opQ P V ρ (.assign x)=some (ρ x):=(rfl)
@[go_sem ↓] theorem opQ_pick {c a b:Operand}:opQ P V ρ (.pick c a b)=pickV (ρ c) (ρ a) (ρ b):=(rfl)
@[go_sem ↓] theorem opQ_load {t:TypeId} {a:Operand}:opQ P V ρ (.load t a)=loadQ P V t (ρ a):=(rfl)
@[go_sem ↓] theorem opQ_nilCheck {x:Operand}:opQ P V ρ (.nilCheck x)=nilV (ρ x):=(rfl)
@[go_sem ↓] theorem opQ_binOp {b:BinOp} {t t':TypeId} {x y:Operand}:opQ P V ρ (.binOp b t x y t')=binV P V b t x y (ρ x) (ρ y):=(rfl)
@[go_sem ↓] theorem opQ_unOp {u:UnOp} {t:TypeId} {x:Operand}:opQ P V ρ (.unOp u t x)=unV u (ρ x):=(rfl)
@[go_sem ↓] theorem opQ_convert {s d:TypeId} {x:Operand}:opQ P V ρ (.convert s d x)=convV P V s d (ρ x):=(rfl)
@[go_sem ↓] theorem opQ_makeInterface {t:TypeId} {x:Operand}:opQ P V ρ (.makeInterface t x)=ifaceV P t (ρ x):=(rfl)
@[go_sem ↓] theorem opQ_makeFunc {fn:Fn} {a b:List Operand}:opQ P V ρ (.makeFunc fn a.toArray b.toArray)=some (.func fn (a.map ρ).toArray (b.map ρ).toArray):=(rfl)
@[go_sem ↓] theorem opQ_slice {t:TypeId} {x:Operand} {a b c:Option Operand}:opQ P V ρ (.slice t x a b c)=sliceV P t (ρ x) (optMap ρ a) (optMap ρ b) (optMap ρ c):=(rfl)
@[go_sem ↓] theorem opQ_fieldAddr {s:TypeId} {x:Operand} {f:Nat}:opQ P V ρ (.fieldAddr s x f)=fieldAV P s (ρ x) f:=(rfl)
@[go_sem ↓] theorem opQ_field {s:TypeId} {x:Operand} {f:Nat}:opQ P V ρ (.field s x f)=fieldV P s (ρ x) f:=(rfl)
@[go_sem ↓] theorem opQ_indexAddr {s:TypeId} {x i:Operand}:opQ P V ρ (.indexAddr s x i)=indexAV P s (ρ x) (ρ i):=(rfl)
@[go_sem ↓] theorem opQ_index {s:TypeId} {x i:Operand}:opQ P V ρ (.index s x i)=indexV P s (ρ x) (ρ i):=(rfl)
@[go_sem ↓] theorem opQ_extract {x:Operand} {i:Nat}:opQ P V ρ (.extract x i)=extrV (ρ x) i:=(rfl)
@[go_sem ↓] theorem opQ_build {t:TypeId} {l:List (Nat × Operand)}:opQ P V ρ (.build t l.toArray)=buildV P t (l.map fun p=>(p.1,ρ p.2)):=(rfl)
@[go_sem ↓] theorem opQ_len {t:TypeId} {x:Operand}:opQ P V ρ (.call ⟨.builtin .len,#[x],#[t]⟩)=lenV P V t (ρ x):=(rfl)
@[go_sem ↓] theorem opQ_max {ts:Array TypeId} {x y:Operand}:opQ P V ρ (.call ⟨.builtin .max,#[x,y],ts⟩)=max2V (ρ x) (ρ y):=(rfl)
@[go_sem ↓] theorem opQ_min {ts:Array TypeId} {x y:Operand}:opQ P V ρ (.call ⟨.builtin .min,#[x,y],ts⟩)=min2V (ρ x) (ρ y):=(rfl)
@[go_sem] theorem optMap_none:optMap ρ none=none:=(rfl)
@[go_sem] theorem optMap_some {x:Operand}:optMap ρ (some x)=some (ρ x):=(rfl)
end
theorem PanOK.no:PanOK (fun _ _ _=>False):=fun _ _ _ _ _ h=>h
theorem draw0 {n:Nat} {P:Program} {l:List Oper} {Q:Exit→En→Heap→Prop} {id:Nat} {ρ:En} {H:Heap} (p:Plan) (hm:P.follows .mixedOrders=true) (h:drawW n P l [] Q p ρ H)
  (hok:drawOK l p=true:=by kernel_rfl) (hpan:PanOK Q:=by repeat (first | with_reducible exact PanOK.ret | with_reducible exact PanOK.no | with_reducible refine PanOK.seq ?_ | with_reducible refine PanOK.blk ?_ | exact PanOK.ret | exact PanOK.no | refine PanOK.seq ?_ | refine PanOK.blk ?_)):@stop ⟨CW n P (.region id l.toArray true) Q ρ H⟩ :=
 draw_by p [] hm hok hpan heldOK_nil h
theorem draw1 {n:Nat} {P:Program} {l:List Oper} {Q:Exit→En→Heap→Prop} {id:Nat} {ρ:En} {H:Heap} (p:Plan) (hm:P.follows .mixedOrders=true) (hl:List (Addr × Value)) (hh:heldOK hl H) (h:drawW n P l hl Q p ρ H)
  (hok:drawOK l p=true:=by kernel_rfl) (hpan:PanOK Q:=by repeat (first | with_reducible exact PanOK.ret | with_reducible exact PanOK.no | with_reducible refine PanOK.seq ?_ | with_reducible refine PanOK.blk ?_ | exact PanOK.ret | exact PanOK.no | refine PanOK.seq ?_ | refine PanOK.blk ?_)):@stop ⟨CW n P (.region id l.toArray true) Q ρ H⟩ :=
 draw_by p hl hm hok hpan hh h
@[go_sem] theorem lookA_eq {a:Addr} {v:Value} {l:List (Addr × Value)}:lookA ((a,v) :: l) a=some v:=by simp [lookA]
@[go_sem] theorem lookA_ne {b b' o o':Nat} {v:Value} {l:List (Addr × Value)} (h:b ≠ b'∨o ≠ o'):lookA ((⟨b,o,none⟩,v) :: l) ⟨b',o',none⟩=lookA l ⟨b',o',none⟩:=by
 simp only [lookA,Addr.mk.injEq,and_true]
 rw [if_neg (by omega)]
theorem heldOK_one {H:Heap} {a:Addr} {v:Value} (h:cellH H a=some v):heldOK [(a,v)] H:=by
 intro a' v' e
 unfold lookA at e
 split at e
 ·rename_i ea
  cases e
  exact ea ▸ h
 ·simp [lookA] at e
end Go.HL
namespace Go.HL
def wr (H:Heap) (a:Addr) (v:Value):Option Heap:=if (cellH H a).isSome=true∧frozenH H a=false then some (setH H a v) else none
def wrs (H:Heap) (a:Addr):List Value→Nat→Option Heap
 | [],_=>some H
 | v :: r,i=>(wr H (a.add i) v).bind fun H'=>wrs H' a r (i + 1)
theorem storeCells_wrs {a:Addr}:∀ (vs:List Value) (H:Heap) (i:Nat),(∀ v ∈ vs,oneC v=true)→storeCellsH H a vs i=wrs H a vs i:=by
 intro vs
 induction vs with
 | nil=>intro H i _; rfl
 | cons v r ih =>
  intro H i h
  have hv:=h v (by simp)
  simp only [storeCellsH,wrs,wr,hv,true_and]
  split
  ·exact ih _ _ fun u hu=>h u (by simp [hu])
  ·rfl
section
variable {P:Program} {H:Heap} {t:TypeId} {a:Addr}
theorem storeA_cells {v:Value} {vs:List Value} (hc:v.cells=vs.toArray) (h1:∀ u ∈ vs,oneC u=true):storeA P H t a v=(sizeT P t).bind fun s=>chk (vs.length=s) (wrs H a vs 0):=by
 unfold storeA
 cases sizeT P t with
 | none=>rfl
 | some s =>
  simp only [hc,List.size_toArray,Option.bind_some,chk]
  split
  ·exact storeCells_wrs vs H 0 h1
  ·rfl
@[go_sem] theorem wrs_one {v:Value}:wrs H a [v] 0=wr H a v:=by
 have e:a.add 0=a:=rfl
 simp only [wrs,e]
 cases wr H a v <;> rfl
@[go_sem] theorem storeA_int {k:IntKind} {n:Int}:storeA P H t a (.int k n)=(sizeT P t).bind fun s=>chk (1=s) (wr H a (.int k n)):=by
 rw [storeA_cells (vs:=[.int k n]) rfl (by simp [oneC]),← wrs_one]; rfl
@[go_sem] theorem storeA_bool {b:Bool}:storeA P H t a (.bool b)=(sizeT P t).bind fun s=>chk (1=s) (wr H a (.bool b)):=by
 rw [storeA_cells (vs:=[.bool b]) rfl (by simp [oneC]),← wrs_one]; rfl
@[go_sem] theorem storeA_string {b:ByteArray}:storeA P H t a (.string b)=(sizeT P t).bind fun s=>chk (1=s) (wr H a (.string b)):=by
 rw [storeA_cells (vs:=[.string b]) rfl (by simp [oneC]),← wrs_one]; rfl
@[go_sem] theorem storeA_pointer {b:Option Addr}:storeA P H t a (.pointer b)=(sizeT P t).bind fun s=>chk (1=s) (wr H a (.pointer b)):=by
 rw [storeA_cells (vs:=[.pointer b]) rfl (by simp [oneC]),← wrs_one]; rfl
@[go_sem] theorem storeA_slice {b:Option Addr} {m c:Nat}:storeA P H t a (.slice b m c)=(sizeT P t).bind fun s=>chk (1=s) (wr H a (.slice b m c)):=by
 rw [storeA_cells (vs:=[.slice b m c]) rfl (by simp [oneC]),← wrs_one]; rfl
@[go_sem] theorem storeA_map {b:Option Nat}:storeA P H t a (.map b)=(sizeT P t).bind fun s=>chk (1=s) (wr H a (.map b)):=by
 rw [storeA_cells (vs:=[.map b]) rfl (by simp [oneC]),← wrs_one]; rfl
@[go_sem] theorem storeA_func {f:Fn} {x y:Array Value}:storeA P H t a (.func f x y)=(sizeT P t).bind fun s=>chk (1=s) (wr H a (.func f x y)):=by
 rw [storeA_cells (vs:=[.func f x y]) rfl (by simp [oneC]),← wrs_one]; rfl
@[go_sem] theorem storeA_nilFunc:storeA P H t a .nilFunc=(sizeT P t).bind fun s=>chk (1=s) (wr H a .nilFunc):=by
 rw [storeA_cells (vs:=[.nilFunc]) rfl (by simp [oneC]),← wrs_one]; rfl
@[go_sem] theorem storeA_iface {x:TypeId} {y:Value}:storeA P H t a (.iface x y)=(sizeT P t).bind fun s=>chk (1=s) (wr H a (.iface x y)):=by
 rw [storeA_cells (vs:=[.iface x y]) rfl (by simp [oneC]),← wrs_one]; rfl
@[go_sem] theorem storeA_nilIface:storeA P H t a .nilIface=(sizeT P t).bind fun s=>chk (1=s) (wr H a .nilIface):=by
 rw [storeA_cells (vs:=[.nilIface]) rfl (by simp [oneC]),← wrs_one]; rfl
@[go_sem] theorem chk_one {o:Option Heap}:chk (1=1) o=o:=if_pos rfl
@[go_sem] theorem cells_int {k:IntKind} {n:Int}:(Value.int k n).cells = #[.int k n]:=(rfl)
@[go_sem] theorem cells_bool {b:Bool}:(Value.bool b).cells = #[.bool b]:=(rfl)
@[go_sem] theorem cells_string {b:ByteArray}:(Value.string b).cells = #[.string b]:=(rfl)
@[go_sem] theorem cells_pointer {b:Option Addr}:(Value.pointer b).cells = #[.pointer b]:=(rfl)
@[go_sem] theorem cells_slice {b:Option Addr} {m c:Nat}:(Value.slice b m c).cells = #[.slice b m c]:=(rfl)
@[go_sem] theorem cells_map {b:Option Nat}:(Value.map b).cells = #[.map b]:=(rfl)
@[go_sem] theorem cells_func {f:Fn} {x y:Array Value}:(Value.func f x y).cells = #[.func f x y]:=(rfl)
@[go_sem] theorem cells_nilFunc:Value.nilFunc.cells = #[.nilFunc]:=(rfl)
@[go_sem] theorem cells_iface {x:TypeId} {y:Value}:(Value.iface x y).cells = #[.iface x y]:=(rfl)
@[go_sem] theorem cells_nilIface:Value.nilIface.cells = #[.nilIface]:=(rfl)
@[go_sem] theorem cells_agg {x:Array Value}:(Value.agg x).cells=x:=(rfl)
end
def Blk (H:Heap) (b:Nat) (t:TypeId) (vs:List Value):Prop:=H[b]?=some (.cells vs.toArray t (0,0))
section
variable {H:Heap} {b b':Nat} {t t':TypeId} {vs vs':List Value}
theorem Blk.cell (h:Blk H b t vs) (i:Nat):cellH H ⟨b,i,none⟩=vs[i]?:=by
 unfold cellH; rw [h]; simp
theorem Blk.frozen (h:Blk H b t vs) (i:Nat):frozenH H ⟨b,i,none⟩=false:=by
 unfold frozenH; rw [h]; simp
theorem Blk.lt (h:Blk H b t vs):b < H.size:=by
 rcases Nat.lt_or_ge b H.size with h' | h'
 ·exact h'
 ·unfold Blk at h; rw [Array.getElem?_eq_none h'] at h; simp at h
theorem Blk.wr (h:Blk H b t vs) {i:Nat} (hi:i < vs.length) (v:Value):wr H ⟨b,i,none⟩ v=some (setH H ⟨b,i,none⟩ v):=by
 unfold HL.wr; rw [h.cell,h.frozen,if_pos]; simp [hi]
theorem setH_other {a:Addr} {v:Value} (h:b ≠ a.block):(setH H a v)[b]?=H[b]?:=by
 unfold setH; rw [Array.getElem?_modify]; simp [Ne.symm h]
theorem Blk.set (h:Blk H b t vs) (i:Nat) (v:Value):Blk (setH H ⟨b,i,none⟩ v) b t (vs.set i v):=by
 unfold Blk setH; rw [Array.getElem?_modify]; unfold Blk at h; simp [h]
theorem Blk.set_other (h:Blk H b t vs) {a:Addr} {v:Value} (hb:b ≠ a.block):Blk (setH H a v) b t vs:=by
 unfold Blk; rw [setH_other hb]; exact h
theorem Blk.push (h:Blk H b t vs) (o:Obj):Blk (H.push o) b t vs:=by
 have:=h.lt
 unfold Blk at h ⊢
 rw [Array.getElem?_push]; simp [Nat.ne_of_lt this,h]
theorem Blk.new {l:Array Value} (h:vs.toArray=l):Blk (H.push (.cells l t)) H.size t vs:=by
 unfold Blk; simp [h]
theorem Blk.inj (h:Blk H b t vs) (h':Blk H b t' vs'):vs=vs'∧t=t':=by
 unfold Blk at h h'; rw [h] at h'; simpa using h'
theorem size_setH {a:Addr} {v:Value}:(setH H a v).size=H.size:=by unfold setH; simp
end
structure Fr (F:List Nat) (H H':Heap):Prop where
 size:H.size≤H'.size
 same:∀ b,b < H.size→b ∉ F→H'[b]?=H[b]?
theorem Fr.refl (F:List Nat) (H:Heap):Fr F H H:=⟨Nat.le_refl _,fun _ _ _=>rfl⟩
theorem Fr.trans {F:List Nat} {H H' H'':Heap} (h:Fr F H H') (h':Fr F H' H''):Fr F H H'' :=
 ⟨Nat.le_trans h.size h'.size,fun b hb hF=>(h'.same b (Nat.lt_of_lt_of_le hb h.size) hF).trans (h.same b hb hF)⟩
theorem Fr.mono {F G:List Nat} {H H':Heap} (h:Fr F H H') (hs:∀ b,b < H.size→b ∈ F→b ∈ G):Fr G H H' :=
 ⟨h.size,fun b hb hG=>h.same b hb fun hF=>hG (hs b hb hF)⟩
theorem Fr.set {F:List Nat} {H:Heap} {a:Addr} {v:Value} (h:a.block ∈ F):Fr F H (setH H a v) :=
 ⟨by rw [size_setH]; exact Nat.le_refl _,fun b _ hF=>setH_other (fun e=>hF (e ▸ h))⟩
theorem Fr.push {F:List Nat} {H:Heap} {o:Obj}:Fr F H (H.push o) :=
 ⟨by simp,fun b hb _=>by rw [Array.getElem?_push]; simp [Nat.ne_of_lt hb]⟩
theorem Fr.set' {F:List Nat} {H H':Heap} {a:Addr} {v:Value} (h0:Fr F H H') (h:a.block ∈ F∨H.size≤a.block):Fr F H (setH H' a v) :=
 ⟨by rw [size_setH]; exact h0.size,fun b hb hF=>by
  have hne:b ≠ a.block:=by
   rintro rfl
   rcases h with h | h
   ·exact hF h
   ·omega
  rw [setH_other hne]; exact h0.same b hb hF⟩
theorem Fr.push' {F:List Nat} {H H':Heap} {o:Obj} (h0:Fr F H H'):Fr F H (H'.push o):=h0.trans Fr.push
theorem Fr.blk {F:List Nat} {H H':Heap} (h:Fr F H H') {b:Nat} {t:TypeId} {vs:List Value} (hb:Blk H b t vs) (hF:b ∉ F):Blk H' b t vs:=by
 unfold Blk; rw [h.same b hb.lt hF]; exact hb
theorem Fr.cell {F:List Nat} {H H':Heap} (h:Fr F H H') {a:Addr} (hb:a.block < H.size) (hF:a.block ∉ F):cellH H' a=cellH H a:=by
 unfold cellH; rw [h.same _ hb hF]
theorem cell_lt {H:Heap} {a:Addr} {v:Value} (h:cellH H a=some v):a.block < H.size:=by
 rcases Nat.lt_or_ge a.block H.size with h' | h'
 ·exact h'
 ·unfold cellH at h; rw [Array.getElem?_eq_none h'] at h; simp at h
theorem Fr.cell' {F:List Nat} {H H':Heap} (h:Fr F H H') {a:Addr} {v:Value} (hc:cellH H a=some v) (hF:a.block ∉ F):cellH H' a=some v:=(h.cell (cell_lt hc) hF).trans hc
def nt (xs:List Int) (i:Nat):Int:=xs.getD i 0
theorem nt_lt {xs:List Int} {i:Nat} (h:i < xs.length):xs[i]?=some (nt xs i):=by
 unfold nt; rw [List.getD_eq_getElem?_getD,List.getElem?_eq_getElem h]; rfl
theorem nt_set_eq {xs:List Int} {i:Nat} {v:Int} (h:i < xs.length):nt (xs.set i v) i=v:=by
 unfold nt; simp [h]
theorem nt_set_ne {xs:List Int} {i j:Nat} {v:Int} (h:i ≠ j):nt (xs.set i v) j=nt xs j:=by
 unfold nt; simp [List.getElem?_set_ne h]
def IB (H:Heap) (b:Nat) (t:TypeId) (xs:List Int):Prop:=Blk H b t (xs.map (Value.int .i64))
theorem IB.cell {H:Heap} {b:Nat} {t:TypeId} {xs:List Int} (h:IB H b t xs) {i:Nat} (hi:i < xs.length):cellH H ⟨b,i,none⟩=some (.int .i64 (nt xs i)):=by
 rw [Blk.cell h,List.getElem?_map,nt_lt hi]; rfl
theorem IB.wr {H:Heap} {b:Nat} {t:TypeId} {xs:List Int} (h:IB H b t xs) {i:Nat} (hi:i < xs.length) (v:Value):wr H ⟨b,i,none⟩ v=some (setH H ⟨b,i,none⟩ v):=Blk.wr h (by simpa using hi) v
theorem IB.set {H:Heap} {b:Nat} {t:TypeId} {xs:List Int} (h:IB H b t xs) (i:Nat) (v:Int):IB (setH H ⟨b,i,none⟩ (.int .i64 v)) b t (xs.set i v):=by
 unfold IB; rw [List.map_set]; exact Blk.set h i _
theorem IB.set_other {H:Heap} {b:Nat} {t:TypeId} {xs:List Int} (h:IB H b t xs) {a:Addr} {v:Value} (hb:b ≠ a.block):IB (setH H a v) b t xs:=Blk.set_other h hb
theorem IB.lt {H:Heap} {b:Nat} {t:TypeId} {xs:List Int} (h:IB H b t xs):b < H.size:=Blk.lt h
end Go.HL
namespace Go.HL
theorem foldl_set (cs:List Value):∀ (pre mid suf:List Value),mid.length=cs.length →
  (cs.zipIdx).foldl (fun (a:Array Value) (x:Value × Nat)=>a.setIfInBounds (pre.length + x.2) x.1) (pre ++ mid ++ suf).toArray=(pre ++ cs ++ suf).toArray:=by
 have key:∀ (cs:List Value) (k:Nat) (done mid pre suf:List Value),done.length=k→mid.length=cs.length →
   (cs.zipIdx k).foldl (fun (a:Array Value) (x:Value × Nat)=>a.setIfInBounds (pre.length + x.2) x.1) (pre ++ (done ++ mid) ++ suf).toArray=(pre ++ (done ++ cs) ++ suf).toArray:=by
  intro cs
  induction cs with
  | nil =>
    intro k done mid pre suf _ hm; have:mid = []:=by cases mid <;> simp_all
    subst this; rfl
  | cons c cs ih =>
   intro k done mid pre suf hk hm
   cases mid with
   | nil=>simp at hm
   | cons x mid =>
    simp only [List.zipIdx_cons,List.foldl_cons]
    have e:(pre ++ (done ++ x :: mid) ++ suf).toArray.setIfInBounds (pre.length + k) c=(pre ++ ((done ++ [c]) ++ mid) ++ suf).toArray:=by
     simp only [List.setIfInBounds_toArray]
     congr 1
     rw [List.append_assoc,List.set_append_right _ _ (by omega)]
     simp only [Nat.add_sub_cancel_left,List.append_assoc,List.cons_append,List.nil_append]
     rw [List.set_append_right _ _ (by omega)]
     simp [hk]
    rw [e]
    have:=ih (k + 1) (done ++ [c]) mid pre suf (by simp [hk]) (by simpa using hm)
    rw [this]
    simp
 intro pre mid suf hm
 simpa using key cs 0 [] mid pre suf rfl hm
def enumV (vs:List Value):List (Nat × Value):=vs.zipIdx.map fun x=>(x.2,x.1)
theorem fill_enum {s:Nat}:∀ (vs:List Value) (k:Nat) (pre rest:List Value),pre.length=k * s→rest.length=vs.length * s→(∀ v ∈ vs,v.cells.size=s) →
  Instr.fill (fun i=>some (i * s,s)) (pre ++ rest).toArray ((vs.zipIdx k).map fun x=>(x.2,x.1))=some (pre ++ vs.flatMap (·.cells.toList)).toArray:=by
 intro vs
 induction vs with
 | nil =>
   intro k pre rest _ hr _; have:rest = []:=by cases rest <;> simp_all
   subst this; simp [Instr.fill]
 | cons v vs ih =>
  intro k pre rest hp hr hv
  have hvs:=hv v (by simp)
  simp only [List.zipIdx_cons,List.map_cons,Instr.fill]
  have hlen:s≤rest.length:=by rw [hr]; simp [Nat.add_mul];
  rw [if_neg (by simp [hvs,hp]; omega)]
  have hsplit:rest=rest.take s ++ rest.drop s:=(List.take_append_drop s rest).symm
  have hf:=foldl_set v.cells.toList pre (rest.take s) (rest.drop s) (by simp [hvs]; omega)
  have e:v.cells.zipIdx.foldl (fun cs x=>cs.setIfInBounds (k * s + x.2) x.1) (pre ++ rest).toArray=(pre ++ v.cells.toList ++ rest.drop s).toArray:=by
   rw [← hf,← hp]
   rw [← Array.foldl_toList,Array.toList_zipIdx]
   congr 2
   rw [List.append_assoc,List.take_append_drop]
  rw [show (v.cells.zipIdx.foldl (fun cs x=>match x with | (c,j)=>cs.setIfInBounds (k * s + j) c) (pre ++ rest).toArray)=(pre ++ v.cells.toList ++ rest.drop s).toArray from e]
  rw [ih (k + 1) (pre ++ v.cells.toList) (rest.drop s) (by simp [hp,hvs,Nat.add_mul]) (by simp [hr,Nat.add_mul]) (fun u hu=>hv u (by simp [hu]))]
  simp
theorem mkCells_size {z:Array Value} {n:Nat}:(mkCells z n).size=n:=by simp [mkCells]
theorem buildSlice_enum {P:Program} {H:Heap} {t:TypeId} {vs:List Value}:buildSliceV P H t vs.length (enumV vs) =
  (elemT P t).bind fun e=>(sizeT P e).bind fun s=>(zeroT P e).bind fun _=>if vs.length * s≤16777216 then
   (if (vs.all fun v=>v.cells.size == s)=true then some (.slice (some ⟨H.size,0,none⟩) vs.length vs.length,H.push (.cells (vs.flatMap (·.cells.toList)).toArray e)) else buildSliceV P H t vs.length (enumV vs)) else none:=by
 conv=>lhs; unfold buildSliceV
 cases he:elemT P t with
 | none=>rfl
 | some e =>
  cases hs:sizeT P e with
  | none=>simp [hs]
  | some s =>
   cases hz:zeroT P e with
   | none=>simp [hs,hz]
   | some z =>
    simp only [hs,hz,Option.bind_some]
    split
    ·rename_i hl
     split
     ·rename_i ha
      rw [List.all_eq_true] at ha
      have:=fill_enum (s:=s) vs 0 [] (mkCells z.cells (vs.length * s)).toList (by simp) (by simp [mkCells_size]) (fun v hv=>by simpa using ha v hv)
      unfold fillV enumV
      simp only [List.nil_append,Array.toArray_toList] at this
      rw [this]
      rfl
     ·unfold buildSliceV
      simp only [he,hs,hz,Option.bind_some,if_pos hl]
    ·rfl
section
variable {P:Program} {H:Heap} {t:TypeId} {a b c d:Value}
def bsl (P:Program) (H:Heap) (t:TypeId) (vs:List Value):Option (Value × Heap) :=
 (elemT P t).bind fun e=>(sizeT P e).bind fun s=>(zeroT P e).bind fun _ =>
  chk (vs.length * s≤16777216∧(vs.all fun v=>v.cells.size == s)=true) (some (.slice (some ⟨H.size,0,none⟩) vs.length vs.length,H.push (.cells (vs.flatMap (·.cells.toList)).toArray e)))
theorem bsl_sound {vs:List Value} {r:Value × Heap} (h:bsl P H t vs=some r):buildSliceV P H t vs.length (enumV vs)=some r:=by
 unfold bsl at h
 rw [buildSlice_enum]
 cases he:elemT P t with
 | none=>simp [he] at h
 | some e =>
  cases hs:sizeT P e with
  | none=>simp [he,hs] at h
  | some s =>
   cases hz:zeroT P e with
   | none=>simp [he,hs,hz] at h
   | some z =>
    simp only [he,hs,hz,Option.bind_some] at h ⊢
    obtain ⟨⟨h1,h2⟩,h3⟩:=chk_some h
    rw [if_pos h1,if_pos h2]
    exact h3
theorem bs_one {e:TypeId} {z:Value} (he:elemT P t=some e) (hs:sizeT P e=some 1) (hz:zeroT P e=some z) (ha:a.cells = #[a]) :
  buildSliceV P H t 1 [(0,a)]=some (.slice (some ⟨H.size,0,none⟩) 1 1,H.push (.cells #[a] e)):=by
 refine bsl_sound (vs:=[a]) ?_
 simp [bsl,he,hs,hz,chk,ha]
theorem bs_two {e:TypeId} {z:Value} (he:elemT P t=some e) (hs:sizeT P e=some 1) (hz:zeroT P e=some z) (ha:a.cells = #[a]) (hb:b.cells = #[b]) :
  buildSliceV P H t 2 [(0,a),(1,b)]=some (.slice (some ⟨H.size,0,none⟩) 2 2,H.push (.cells #[a,b] e)):=by
 refine bsl_sound (vs:=[a,b]) ?_
 simp [bsl,he,hs,hz,chk,ha,hb]
theorem bs_three {e:TypeId} {z:Value} (he:elemT P t=some e) (hs:sizeT P e=some 1) (hz:zeroT P e=some z) (ha:a.cells = #[a]) (hb:b.cells = #[b]) (hc:c.cells = #[c]) :
  buildSliceV P H t 3 [(0,a),(1,b),(2,c)]=some (.slice (some ⟨H.size,0,none⟩) 3 3,H.push (.cells #[a,b,c] e)):=by
 refine bsl_sound (vs:=[a,b,c]) ?_
 simp [bsl,he,hs,hz,chk,ha,hb,hc]
theorem bs_four {e:TypeId} {z:Value} (he:elemT P t=some e) (hs:sizeT P e=some 1) (hz:zeroT P e=some z) (ha:a.cells = #[a]) (hb:b.cells = #[b]) (hc:c.cells = #[c]) (hd:d.cells = #[d]) :
  buildSliceV P H t 4 [(0,a),(1,b),(2,c),(3,d)]=some (.slice (some ⟨H.size,0,none⟩) 4 4,H.push (.cells #[a,b,c,d] e)):=by
 refine bsl_sound (vs:=[a,b,c,d]) ?_
 simp [bsl,he,hs,hz,chk,ha,hb,hc,hd]
theorem bs_zero {e:TypeId} {s:Nat} {z:Value} (he:elemT P t=some e) (hs:sizeT P e=some s) (hz:zeroT P e=some z) :
  buildSliceV P H t 0 []=some (.slice (some ⟨H.size,0,none⟩) 0 0,H.push (.cells #[] e)):=by
 refine bsl_sound (vs:=[]) ?_
 simp [bsl,he,hs,hz,chk]
end
@[go_sem] theorem makeV_int {P:Program} {H:Heap} {t:TypeId} {k k':IntKind} {l c:Int}:makeV P H t (.int k l) (.int k' c)=(elemT P t).bind fun e=>(bytesT P e).bind fun b=>(sizeT P e).bind fun s=>(zeroT P e).bind fun z =>
  chk (0≤l∧l≤c∧c≤281474976710656∧(b:Int) * c≤281474976710656) (some (.slice (some ⟨H.size,0,none⟩) l.toNat c.toNat,H.push (.cells (mkCells z.cells (c.toNat * s)) e))):=(rfl)
@[go_sem] theorem mkCells_one {z:Value} {n:Nat}:mkCells #[z] n=(List.replicate n z).toArray:=by
 unfold mkCells
 apply Array.ext'
 simp only [Array.toList_map,Array.toList_range]
 apply List.ext_getElem (by simp)
 intro i h1 h2
 simp [Nat.mod_one]
attribute [go_sem] Int.natCast_zero
def setR (cells:List Value) (off:Nat):List Value→List Value
 | []=>cells
 | v :: vs=>setR (cells.set off v) (off + 1) vs
def fillL (place:Nat→Option (Nat × Nat)) (cells:List Value):List (Nat × Value)→Option (List Value)
 | []=>some cells
 | x :: r=>(place x.1).bind fun p=>chk (x.2.cells.size=p.2∧p.1 + p.2≤cells.length) (fillL place (setR cells p.1 x.2.cells.toList) r)
theorem setR_fold:∀ (vs:List Value) (cells:List Value) (off k:Nat),
  (vs.zipIdx k).foldl (fun (a:Array Value) (x:Value × Nat)=>a.setIfInBounds (off + x.2) x.1) cells.toArray=(setR cells (off + k) vs).toArray:=by
 intro vs
 induction vs with
 | nil=>intro cells off k; rfl
 | cons v vs ih =>
  intro cells off k
  simp only [List.zipIdx_cons,List.foldl_cons,List.setIfInBounds_toArray,setR]
  rw [ih]
  rfl
theorem fill_list {place:Nat→Option (Nat × Nat)}:∀ (parts:List (Nat × Value)) (cells:List Value) (r:List Value),fillL place cells parts=some r→Instr.fill place cells.toArray parts=some r.toArray:=by
 intro parts
 induction parts with
 | nil=>intro cells r h; simp only [fillL,Option.some.injEq] at h; subst h; rfl
 | cons x rest ih =>
  intro cells r h
  obtain ⟨i,v⟩:=x
  simp only [fillL] at h
  cases hp:place i with
  | none=>simp [hp] at h
  | some p =>
   obtain ⟨off,size⟩:=p
   simp only [hp,Option.bind_some] at h
   obtain ⟨⟨h1,h2⟩,h3⟩:=chk_some h
   simp only [Instr.fill,hp]
   rw [if_neg (by simp [h1]; omega)]
   have e:v.cells.zipIdx.foldl (fun cs x=>cs.setIfInBounds (off + x.2) x.1) cells.toArray=(setR cells off v.cells.toList).toArray:=by
    rw [← Array.foldl_toList,Array.toList_zipIdx]
    exact setR_fold v.cells.toList cells off 0
   rw [show (v.cells.zipIdx.foldl (fun cs x=>match x with | (c,j)=>cs.setIfInBounds (off + j) c) cells.toArray)=(setR cells off v.cells.toList).toArray from e]
   exact ih _ _ h3
def buildL (P:Program) (t:TypeId) (parts:List (Nat × Value)):Option Value :=
 match placesT P t with
 | some ps=>(zeroT P t).bind fun z=>(fillL (ps[·]?) z.cells.toList parts).map fun l=>.agg l.toArray
 | none=>(arrS P t).bind fun e=>(zeroT P t).bind fun z=>(fillL (fun i=>some (i * e.2,e.2)) z.cells.toList parts).map fun l=>.agg l.toArray
theorem build_of {P:Program} {t:TypeId} {parts:List (Nat × Value)} {v:Value} (h:buildL P t parts=some v):buildV P t parts=some v:=by
 unfold buildL at h
 unfold buildV
 split at h
 ·rename_i ps hps
  simp only [Option.bind_eq_some_iff,Option.map_eq_some_iff] at h
  obtain ⟨z,hz,l,hl,rfl⟩:=h
  have:=fill_list parts z.cells.toList l hl
  simp only [Array.toArray_toList] at this
  simp only [hps,hz,Option.bind_some,this,Option.map_some]
 ·rename_i hps
  simp only [Option.bind_eq_some_iff,Option.map_eq_some_iff] at h
  obtain ⟨e,he,z,hz,l,hl,rfl⟩:=h
  have:=fill_list parts z.cells.toList l hl
  simp only [Array.toArray_toList] at this
  simp only [hps,he,hz,Option.bind_some,this,Option.map_some]
structure ElT (P:Program) (t:TypeId) (e size bytes:Nat) (z:Value):Prop where
 elem:elemT P t=some e
 size:sizeT P e=some size
 bytes:bytesT P e=some bytes
 zero:zeroT P e=some z
theorem ElT.under {P:Program} {t:TypeId} {e size bytes:Nat} {z:Value} (h:ElT P t e size bytes z):P.underlying t=some (.slice e):=by
 have he:=h.elem
 unfold elemT at he
 cases hu:P.underlying t with
 | none=>simp [hu] at he
 | some d=>cases d <;> simp [hu] at he; subst he; rfl
theorem cellsH_at {c:Addr→Option Value} {b:Nat}:∀ (l:List Value) (o i:Nat),(∀ j (h:j < l.length),c ⟨b,o + i + j,none⟩=some l[j])→cellsH c ⟨b,o,none⟩ i l.length=some l:=by
 intro l
 induction l with
 | nil=>intro o i _; rfl
 | cons v l ih =>
  intro o i h
  simp only [List.length_cons,cellsH]
  have h0:=h 0 (by simp)
  simp only [List.getElem_cons_zero,Nat.add_zero] at h0
  rw [addr_add,h0]
  simp only [Option.bind_some]
  rw [ih o (i + 1) (fun j hj=>by have:=h (j + 1) (by simpa using hj); simpa [Nat.add_assoc,Nat.add_comm 1 j] using this)]
  rfl
theorem app_fit1 {P:Program} {H H':Heap} {t e bytes:Nat} {z v:Value} {b o len cap xb:Nat} {k:Value→Heap→Prop} (hT:ElT P t e 1 bytes z) (hfit:len < cap)
  (hx:cellH H ⟨xb,0,none⟩=some v) (hv:oneC v=true) (hw:wr H ⟨b,o + len,none⟩ v=some H') (hk:k (.slice (some ⟨b,o,none⟩) (len + 1) cap) H') :
  @appB P t t (.slice (some ⟨b,o,none⟩) len cap) (.slice (some ⟨xb,0,none⟩) 1 1) ⟨H⟩ ⟨k⟩:=by
 show appW P H t t _ _ k
 unfold appW
 simp only [someW_iff]
 refine ⟨e,hT.elem,1,hT.size,bytes,hT.bytes,z,hT.zero,1,rfl,[v],?_,.slice e,hT.under,by simp,?_⟩
 ·show cellsH (cellH H) ⟨xb,0,none⟩ 0 1=some [v]
  have:=cellsH_at (c:=cellH H) (b:=xb) [v] 0 0 (by intro j hj; simp at hj; subst hj; simpa using hx)
  simpa using this
 ·rw [if_pos (by omega)]
  refine ⟨H',?_,hk⟩
  rw [storeCells_wrs _ _ _ (by simp [hv]),wrs_one,addr_add,Nat.mul_one]
  exact hw
theorem cut_by {n:Nat} {P:Program} {c:Code} {K:En→Heap→Prop} {Q:Exit→En→Heap→Prop} {ρ:En} {H:Heap} (R:En→Heap→Prop)
  (h:@stop ⟨CW n P c (seqQ (fun ρ H=>@stop ⟨R ρ H⟩) (fun _ _ _=>False)) ρ H⟩) (h2:∀ ρ H,R ρ H→K ρ H):@stop ⟨CW n P c (seqQ K Q) ρ H⟩:=by
 refine CW.mono ?_ h
 intro e ρ H hx
 cases e <;> first | exact h2 _ _ hx | exact hx.elim
theorem cut_cw {n:Nat} {P:Program} {c:Code} {K:En→Heap→Prop} {Q:Exit→En→Heap→Prop} {ρ:En} {H:Heap} (R:En→Heap→Prop)
  (h:cw n P c (seqQ (fun ρ H=>@stop ⟨R ρ H⟩) Q) ρ H) (h2:∀ ρ H,R ρ H→K ρ H):CW n P c (seqQ K Q) ρ H:=by
 refine CW.mono ?_ (cw_sound c _ _ _ h)
 intro e ρ H hx
 cases e <;> first | exact h2 _ _ hx | exact hx
end Go.HL
namespace Go.HL
theorem growBy_le {n:Nat}:∀ (r c:Nat),c≤2 * n + 200→Builtin.growBy n r c≤2 * n + 200:=by
 intro r
 induction r with
 | zero=>intro c hc; exact hc
 | succ r ih =>
  intro c hc
  unfold Builtin.growBy
  split
  ·exact hc
  ·exact ih _ (by omega)
theorem nextcap_le {n c:Nat} (h:c < n):Builtin.nextslicecap n c≤2 * n + 200:=by
 unfold Builtin.nextslicecap
 split
 ·omega
 ·split
  ·omega
  ·exact growBy_le 4 c (by omega)
def own:Value→List Nat
 | .slice (some a) _ _=>[a.block]
 | _=>[]
structure Vec (H:Heap) (e z:Nat) (v:Value) (vs:List Value):Prop where
 ex:(v=.slice none 0 0∧vs = [])∨∃ b len cap pre rest,v=.slice (some ⟨b,pre.length,none⟩) len cap∧Blk H b e (pre ++ vs ++ rest)∧vs.length=len * z∧rest.length=(cap - len) * z∧len≤cap
theorem Vec.nil {H:Heap} {e z:Nat}:Vec H e z (.slice none 0 0) []:=⟨.inl ⟨rfl,rfl⟩⟩
theorem Vec.lt {H:Heap} {e z:Nat} {v:Value} {vs:List Value} (h:Vec H e z v vs):∀ b ∈ own v,b < H.size:=by
 rcases h.ex with ⟨rfl,_⟩ | ⟨b,len,cap,pre,rest,rfl,hb,_⟩
 ·simp [own]
 ·simp [own]; exact hb.lt
theorem Vec.frame {H H':Heap} {e z:Nat} {v:Value} {vs:List Value} (h:Vec H e z v vs) {F:List Nat} (hf:Fr F H H') (hd:∀ b ∈ own v,b ∉ F):Vec H' e z v vs:=by
 rcases h.ex with h1 | ⟨b,len,cap,pre,rest,rfl,hb,h2⟩
 ·exact ⟨.inl h1⟩
 ·exact ⟨.inr ⟨b,len,cap,pre,rest,rfl,hf.blk hb (hd b (by simp [own])),h2⟩⟩
theorem Vec.len {H:Heap} {e z:Nat} {v:Value} {vs:List Value} (h:Vec H e z v vs):∃ a len cap,v=.slice a len cap∧vs.length=len * z:=by
 rcases h.ex with ⟨rfl,rfl⟩ | ⟨b,len,cap,pre,rest,rfl,_,h2,_⟩
 ·exact ⟨_,_,_,rfl,by simp⟩
 ·exact ⟨_,_,_,rfl,h2⟩
theorem Vec.cell {H:Heap} {e z:Nat} {v:Value} {vs:List Value} (h:Vec H e z v vs) (hn:vs ≠ []):∃ b o len cap,v=.slice (some ⟨b,o,none⟩) len cap∧vs.length=len * z∧∀ i,i < vs.length→cellH H ⟨b,o + i,none⟩=vs[i]?:=by
 rcases h.ex with ⟨rfl,rfl⟩ | ⟨b,len,cap,pre,rest,rfl,hb,h2,_⟩
 ·simp at hn
 ·refine ⟨b,pre.length,len,cap,rfl,h2,fun i hi=>?_⟩
  rw [hb.cell,List.append_assoc,List.getElem?_append_right (by omega),Nat.add_sub_cancel_left,List.getElem?_append_left hi]
theorem wrs_blk {e b:Nat}:∀ (new pre old rest:List Value) (H:Heap),Blk H b e (pre ++ old ++ rest)→old.length=new.length →
  ∃ H',wrs H ⟨b,pre.length,none⟩ new 0=some H'∧Blk H' b e (pre ++ new ++ rest)∧Fr [b] H H':=by
 have key:∀ (new pre old rest done:List Value) (H:Heap),Blk H b e (pre ++ (done ++ (old ++ rest)))→old.length=new.length →
   ∃ H',wrs H ⟨b,pre.length,none⟩ new done.length=some H'∧Blk H' b e (pre ++ (done ++ (new ++ rest)))∧Fr [b] H H':=by
  intro new
  induction new with
  | nil =>
    intro pre old rest done H hb hl; have:old = []:=by cases old <;> simp_all
    subst this; exact ⟨H,rfl,hb,Fr.refl _ _⟩
  | cons v new ih =>
   intro pre old rest done H hb hl
   cases old with
   | nil=>simp at hl
   | cons u old =>
    have hw:=hb.wr (i:=pre.length + done.length) (by simp) v
    have hs:=hb.set (pre.length + done.length) v
    have e1:(pre ++ (done ++ (u :: old ++ rest))).set (pre.length + done.length) v=pre ++ ((done ++ [v]) ++ (old ++ rest)):=by
     rw [List.set_append_right _ _ (by omega),Nat.add_sub_cancel_left,List.set_append_right _ _ (by omega)]
     simp
    rw [e1] at hs
    obtain ⟨H',h1,h2,h3⟩:=ih pre old rest (done ++ [v]) _ hs (by simpa using hl)
    refine ⟨H',?_,by simpa using h2,(Fr.set (by simp)).trans h3⟩
    simp only [wrs]
    rw [addr_add,hw,Option.bind_some]
    simpa using h1
 intro new pre old rest H hb hl
 have:=key new pre old rest [] H (by simpa [List.append_assoc] using hb) hl
 simpa [List.append_assoc] using this
theorem zeroCells_size {z:Array Value} {n:Nat}:(Builtin.zeroCells z n).size=n * z.size:=by simp [Builtin.zeroCells]
theorem app_vec {P:Program} {H:Heap} {t xt e z bytes n:Nat} {zero s x:Value} {vs new:List Value} {d:TypeDesc} {k:Value→Heap→Prop} (hT:ElT P t e z bytes zero) (hz:zero.cells.size=z) (hv:Vec H e z s vs)
  (hx:lenS x=some n) (hsrc:srcCells H z n x=some new) (hu:P.underlying xt=some d) (hnk:∀ kk,d ≠ .int kk) (hone:∀ u ∈ new,oneC u=true) (hnew:new.length=n * z)
  (hlen:∀ a l c,s=.slice a l c→(2 * (l + n) + 200) * (bytes + 1)≤281474976710656)
  (hk:∀ v' H',Vec H' e z v' (vs ++ new)→Fr (own s) H H'→(∀ b ∈ own v',b ∈ own s∨H.size≤b)→(∀ a l c,s=.slice a l c→∃ a' c',v'=.slice a' (l + n) c')→k v' H') :
  @appB P t xt s x ⟨H⟩ ⟨k⟩:=by
 show appW P H t xt _ _ k
 have fresh:∀ a l c old,s=.slice a l c→c < l + n→srcCells H z l s=some old→old=vs→appW P H t xt s x k:=by
  intro a l c old hs hc hold ho
  subst ho
  have hl:=hlen a l c hs
  have hl2:2 * (l + n) + 200≤281474976710656:=Nat.le_trans (Nat.le_mul_of_pos_right _ (by omega)) hl
  subst hs
  unfold appW
  simp only [someW_iff]
  refine ⟨e,hT.elem,z,hT.size,bytes,hT.bytes,zero,hT.zero,n,hx,new,hsrc,d,hu,hnk,?_⟩
  rw [if_neg (by omega)]
  have h3:=nextcap_le hc
  refine ⟨?_,by omega,fun _=>by omega,old,hold,?_⟩
  ·have:Builtin.nextslicecap (l + n) c * bytes≤(2 * (l + n) + 200) * bytes:=Nat.mul_le_mul_right _ h3
   have h4:(2 * (l + n) + 200) * bytes≤(2 * (l + n) + 200) * (bytes + 1):=Nat.mul_le_mul_left _ (by omega)
   omega
  ·intro newCap hc1 _
   have hvl:old.length=l * z:=by
    obtain ⟨a',l',c',he,hl'⟩:=hv.len
    simp only [Value.slice.injEq] at he
    rw [he.2.1]; exact hl'
   refine hk _ _ ⟨.inr ⟨H.size,l + n,newCap,[],(Builtin.zeroCells zero.cells (newCap - (l + n))).toList,rfl,?_,by simp [hvl,hnew,Nat.add_mul],by simp [zeroCells_size,hz],hc1⟩⟩ Fr.push ?_ ?_
   ·refine Blk.new ?_
    apply Array.ext'
    simp
   ·intro b hb
    simp [own] at hb
    exact .inr (by omega)
   ·intro a' l' c' he
    simp only [Value.slice.injEq] at he
    obtain ⟨_,rfl,_⟩:=he
    exact ⟨_,_,rfl⟩
 rcases hv.ex with ⟨rfl,rfl⟩ | ⟨b,len,cap,pre,rest,rfl,hb,hl,hr,hle⟩
 ·by_cases hn:n=0
  ·subst hn
   have hn0:new = []:=by cases new <;> simp_all
   subst hn0
   unfold appW
   simp only [someW_iff]
   refine ⟨e,hT.elem,z,hT.size,bytes,hT.bytes,zero,hT.zero,0,hx,[],hsrc,d,hu,hnk,?_⟩
   rw [if_pos (by omega)]
   refine hk _ _ Vec.nil (Fr.refl _ _) (by simp [own]) ?_
   intro a l c he
   simp only [Value.slice.injEq] at he
   obtain ⟨_,rfl,_⟩:=he
   exact ⟨_,_,rfl⟩
  ·exact fresh none 0 0 [] rfl (by omega) rfl rfl
 ·by_cases hfit:len + n≤cap
  ·unfold appW
   simp only [someW_iff]
   refine ⟨e,hT.elem,z,hT.size,bytes,hT.bytes,zero,hT.zero,n,hx,new,hsrc,d,hu,hnk,?_⟩
   rw [if_pos hfit]
   have h1:n * z≤rest.length:=by rw [hr]; exact Nat.mul_le_mul_right _ (by omega)
   have hb':Blk H b e ((pre ++ vs) ++ rest.take (n * z) ++ rest.drop (n * z)):=by
    rw [List.append_assoc,List.take_append_drop]; exact hb
   obtain ⟨H',hw,hb2,hf⟩:=wrs_blk new (pre ++ vs) _ _ H hb' (by simp [hnew,h1])
   refine ⟨H',?_,?_⟩
   ·rw [storeCells_wrs _ _ _ hone,addr_add,← hl]
    rw [List.length_append] at hw
    exact hw
   ·refine hk _ _ ⟨.inr ⟨b,len + n,cap,pre,rest.drop (n * z),rfl,?_,by simp [hl,hnew,Nat.add_mul],?_,hfit⟩⟩ (by simpa [own] using hf) (by simp [own]) ?_
    ·simpa [List.append_assoc] using hb2
    ·simp only [List.length_drop,hr]
     rw [← Nat.sub_mul]
     congr 1
     omega
    ·intro a l c he
     simp only [Value.slice.injEq] at he
     obtain ⟨_,rfl,_⟩:=he
     exact ⟨_,_,rfl⟩
  ·refine fresh _ len cap vs rfl (by omega) ?_ rfl
   show cellsH (cellH H) ⟨b,pre.length,none⟩ 0 (len * z)=some vs
   rw [← hl]
   refine cellsH_at vs pre.length 0 ?_
   intro j hj
   rw [hb.cell,Nat.add_zero,List.append_assoc,List.getElem?_append_right (by omega),Nat.add_sub_cancel_left,List.getElem?_append_left hj,List.getElem?_eq_getElem hj]
theorem app_one {P:Program} {H:Heap} {t e bytes:Nat} {zero s v:Value} {vs:List Value} {xb:Nat} {k:Value→Heap→Prop} (hT:ElT P t e 1 bytes zero) (hz:zero.cells.size=1) (hv:Vec H e 1 s vs)
  (hx:cellH H ⟨xb,0,none⟩=some v) (h1:oneC v=true) (hlen:(2 * (vs.length + 1) + 200) * (bytes + 1)≤281474976710656)
  (hk:∀ v' H',Vec H' e 1 v' (vs ++ [v])→Fr (own s) H H'→(∀ b ∈ own v',b ∈ own s∨H.size≤b)→(∃ a' c',v'=.slice a' (vs.length + 1) c')→k v' H') :
  @appB P t t s (.slice (some ⟨xb,0,none⟩) 1 1) ⟨H⟩ ⟨k⟩:=by
 obtain ⟨a,len,cap,rfl,hl⟩:=hv.len
 rw [Nat.mul_one] at hl
 refine app_vec (n:=1) (new:=[v]) hT hz hv rfl ?_ hT.under (by simp) (by simp [h1]) rfl ?_ ?_
 ·show cellsH (cellH H) ⟨xb,0,none⟩ 0 1=some [v]
  have:=cellsH_at (c:=cellH H) (b:=xb) [v] 0 0 (by intro j hj; simp at hj; subst hj; simpa using hx)
  simpa using this
 ·intro a' l c he
  simp only [Value.slice.injEq] at he
  obtain ⟨_,rfl,_⟩:=he
  rw [← hl]; exact hlen
 ·intro v' H' g1 g2 g3 g4
  obtain ⟨a',c',rfl⟩:=g4 _ _ _ rfl
  exact hk _ _ g1 g2 g3 ⟨a',c',by rw [hl]⟩
theorem app_lit {P:Program} {H:Heap} {t e z bytes n:Nat} {zero s:Value} {vs:List Value} {new:List Value} {k:Value→Heap→Prop} (hT:ElT P t e z bytes zero) (hz:zero.cells.size=z) (hv:Vec H e z s vs)
  (hone:∀ u ∈ new,oneC u=true) (hnew:new.length=n * z) (hlen:∀ a l c,s=.slice a l c→(2 * (l + n) + 200) * (bytes + 1)≤281474976710656)
  (hk:∀ v' H',Vec H' e z v' (vs ++ new)→Fr (own s) H H'→(∀ b ∈ own v',b ∈ own s∨H.size≤b)→(∀ a l c,s=.slice a l c→∃ a' c',v'=.slice a' (l + n) c')→k v' H') :
  @appB P t t s (.slice (some ⟨H.size,0,none⟩) n n) ⟨H.push (.cells new.toArray e)⟩ ⟨k⟩:=by
 have hb:Blk (H.push (.cells new.toArray e)) H.size e new:=Blk.new rfl
 refine app_vec (n:=n) (new:=new) hT hz (hv.frame (F:=[]) Fr.push (by simp)) rfl ?_ hT.under (by simp) hone hnew hlen ?_
 ·show cellsH (cellH _) ⟨H.size,0,none⟩ 0 (n * z)=some new
  rw [← hnew]
  refine cellsH_at new 0 0 ?_
  intro j hj
  rw [hb.cell]; simp [hj]
 ·intro v' H' g1 g2 g3 g4
  refine hk v' H' g1 ⟨Nat.le_trans (by simp) g2.size,fun b hb' hF=>?_⟩ (fun b hb'=>(g3 b hb').imp id (fun h=>Nat.le_trans (by simp) h)) g4
  rw [g2.same b (by simp; omega) hF,Array.getElem?_push]
  simp [Nat.ne_of_lt hb']
theorem app_lit1 {P:Program} {H:Heap} {t e bytes:Nat} {zero s v:Value} {vs:List Value} {k:Value→Heap→Prop} (hT:ElT P t e 1 bytes zero) (hz:zero.cells.size=1) (hv:Vec H e 1 s vs)
  (h1:oneC v=true) (hlen:(2 * (vs.length + 1) + 200) * (bytes + 1)≤281474976710656)
  (hk:∀ v' H',Vec H' e 1 v' (vs ++ [v])→Fr (own s) H H'→(∀ b ∈ own v',b ∈ own s∨H.size≤b)→(∃ a' c',v'=.slice a' (vs.length + 1) c')→k v' H') :
  @appB P t t s (.slice (some ⟨H.size,0,none⟩) 1 1) ⟨H.push (.cells #[v] e)⟩ ⟨k⟩:=by
 obtain ⟨a,len,cap,rfl,hl⟩:=hv.len
 rw [Nat.mul_one] at hl
 refine app_lit (n:=1) (new:=[v]) hT hz hv (by simp [h1]) rfl ?_ ?_
 ·intro a' l c he
  simp only [Value.slice.injEq] at he
  obtain ⟨_,rfl,_⟩:=he
  rw [← hl]; exact hlen
 ·intro v' H' g1 g2 g3 g4
  obtain ⟨a',c',rfl⟩:=g4 _ _ _ rfl
  exact hk _ _ g1 g2 g3 ⟨a',c',by rw [hl]⟩
abbrev IV (H:Heap) (e:Nat) (v:Value) (xs:List Int):Prop:=Vec H e 1 v (xs.map (Value.int .i64))
theorem IV.form {H:Heap} {e:Nat} {v:Value} {xs:List Int} (h:IV H e v xs):∃ a cap,v=.slice a xs.length cap:=by
 obtain ⟨a,len,cap,rfl,hl⟩:=h.len
 simp at hl; subst hl
 exact ⟨a,cap,rfl⟩
theorem IV.at {H:Heap} {e:Nat} {v:Value} {xs:List Int} (h:IV H e v xs) {i:Nat} (hi:i < xs.length):∃ b o cap,v=.slice (some ⟨b,o,none⟩) xs.length cap∧cellH H ⟨b,o + i,none⟩=some (.int .i64 (nt xs i)):=by
 obtain ⟨b,o,len,cap,rfl,hl,hc⟩:=h.cell (by intro e; rw [List.map_eq_nil_iff] at e; subst e; simp at hi)
 simp at hl; subst hl
 refine ⟨b,o,cap,rfl,?_⟩
 rw [hc i (by simpa using hi),List.getElem?_map,nt_lt hi]; rfl
theorem nt_append_left {xs ys:List Int} {i:Nat} (h:i < xs.length):nt (xs ++ ys) i=nt xs i:=by
 unfold nt; simp [List.getElem?_append_left h]
theorem nt_append_right {xs:List Int} {y:Int}:nt (xs ++ [y]) xs.length=y:=by
 unfold nt; simp
theorem Vec.put1 {H:Heap} {e:Nat} {v:Value} {vs:List Value} (h:Vec H e 1 v vs) {i:Nat} (hi:i < vs.length) (u:Value) :
  ∃ b o cap,v=.slice (some ⟨b,o,none⟩) vs.length cap∧wr H ⟨b,o + i,none⟩ u=some (setH H ⟨b,o + i,none⟩ u)∧Vec (setH H ⟨b,o + i,none⟩ u) e 1 v (vs.set i u)∧cellH H ⟨b,o + i,none⟩=vs[i]?:=by
 rcases h.ex with ⟨rfl,rfl⟩ | ⟨b,len,cap,pre,rest,rfl,hb,h2,h3,h4⟩
 ·simp at hi
 ·rw [Nat.mul_one] at h2
  subst h2
  refine ⟨b,pre.length,cap,rfl,hb.wr (by simp; omega) u,⟨.inr ⟨b,vs.length,cap,pre,rest,rfl,?_,by simp,h3,h4⟩⟩,?_⟩
  ·have:=hb.set (pre.length + i) u
   rwa [List.append_assoc,List.set_append_right _ _ (by omega),Nat.add_sub_cancel_left,List.set_append_left _ _ hi,← List.append_assoc] at this
  ·rw [hb.cell,List.append_assoc,List.getElem?_append_right (by omega),Nat.add_sub_cancel_left,List.getElem?_append_left hi]
theorem IV.put {H:Heap} {e:Nat} {v:Value} {xs:List Int} (h:IV H e v xs) {i:Nat} (hi:i < xs.length) (u:Int) :
  ∃ b o cap,v=.slice (some ⟨b,o,none⟩) xs.length cap∧wr H ⟨b,o + i,none⟩ (.int .i64 u)=some (setH H ⟨b,o + i,none⟩ (.int .i64 u))∧IV (setH H ⟨b,o + i,none⟩ (.int .i64 u)) e v (xs.set i u)∧cellH H ⟨b,o + i,none⟩=some (.int .i64 (nt xs i)):=by
 obtain ⟨b,o,cap,h1,h2,h3,h4⟩:=Vec.put1 h (i:=i) (by simpa using hi) (.int .i64 u)
 refine ⟨b,o,cap,by simpa using h1,h2,?_,?_⟩
 ·unfold IV; rw [List.map_set]; exact h3
 ·rw [h4,List.getElem?_map,nt_lt hi]; rfl
def bt (xs:List Bool) (i:Nat):Bool:=xs.getD i false
theorem bt_lt {xs:List Bool} {i:Nat} (h:i < xs.length):xs[i]?=some (bt xs i):=by
 unfold bt; rw [List.getD_eq_getElem?_getD,List.getElem?_eq_getElem h]; rfl
theorem bt_set_eq {xs:List Bool} {i:Nat} {v:Bool} (h:i < xs.length):bt (xs.set i v) i=v:=by
 unfold bt; simp [h]
theorem bt_set_ne {xs:List Bool} {i j:Nat} {v:Bool} (h:i ≠ j):bt (xs.set i v) j=bt xs j:=by
 unfold bt; simp [List.getElem?_set_ne h]
abbrev BV (H:Heap) (e:Nat) (v:Value) (xs:List Bool):Prop:=Vec H e 1 v (xs.map Value.bool)
theorem BV.form {H:Heap} {e:Nat} {v:Value} {xs:List Bool} (h:BV H e v xs):∃ a cap,v=.slice a xs.length cap:=by
 obtain ⟨a,len,cap,rfl,hl⟩:=h.len
 simp at hl; subst hl
 exact ⟨a,cap,rfl⟩
theorem BV.at {H:Heap} {e:Nat} {v:Value} {xs:List Bool} (h:BV H e v xs) {i:Nat} (hi:i < xs.length):∃ b o cap,v=.slice (some ⟨b,o,none⟩) xs.length cap∧cellH H ⟨b,o + i,none⟩=some (.bool (bt xs i)):=by
 obtain ⟨b,o,len,cap,rfl,hl,hc⟩:=h.cell (by intro e; rw [List.map_eq_nil_iff] at e; subst e; simp at hi)
 simp at hl; subst hl
 refine ⟨b,o,cap,rfl,?_⟩
 rw [hc i (by simpa using hi),List.getElem?_map,bt_lt hi]; rfl
theorem BV.put {H:Heap} {e:Nat} {v:Value} {xs:List Bool} (h:BV H e v xs) {i:Nat} (hi:i < xs.length) (u:Bool) :
  ∃ b o cap,v=.slice (some ⟨b,o,none⟩) xs.length cap∧wr H ⟨b,o + i,none⟩ (.bool u)=some (setH H ⟨b,o + i,none⟩ (.bool u))∧BV (setH H ⟨b,o + i,none⟩ (.bool u)) e v (xs.set i u)∧cellH H ⟨b,o + i,none⟩=some (.bool (bt xs i)):=by
 obtain ⟨b,o,cap,h1,h2,h3,h4⟩:=Vec.put1 h (i:=i) (by simpa using hi) (.bool u)
 refine ⟨b,o,cap,by simpa using h1,h2,?_,?_⟩
 ·unfold BV; rw [List.map_set]; exact h3
 ·rw [h4,List.getElem?_map,bt_lt hi]; rfl
theorem fill_eq {place:Nat→Option (Nat × Nat)}:∀ (parts:List (Nat × Value)) (cells:List Value),Instr.fill place cells.toArray parts=(fillL place cells parts).map List.toArray:=by
 intro parts
 induction parts with
 | nil=>intro cells; rfl
 | cons x rest ih =>
  intro cells
  obtain ⟨i,v⟩:=x
  cases hp:place i with
  | none=>simp [Instr.fill,fillL,hp]
  | some p =>
   obtain ⟨off,size⟩:=p
   have e:v.cells.zipIdx.foldl (fun cs x=>cs.setIfInBounds (off + x.2) x.1) cells.toArray=(setR cells off v.cells.toList).toArray:=by
    rw [← Array.foldl_toList,Array.toList_zipIdx]
    exact setR_fold v.cells.toList cells off 0
   simp only [Instr.fill,fillL,hp,Option.bind_some,chk]
   by_cases hc:v.cells.size=size∧off + size≤cells.length
   ·rw [if_pos hc,if_neg (by simp [hc.1]; omega)]
    rw [show (v.cells.zipIdx.foldl (fun cs x=>match x with | (c,j)=>cs.setIfInBounds (off + j) c) cells.toArray)=(setR cells off v.cells.toList).toArray from e]
    exact ih _
   ·rw [if_neg hc,if_pos (by
     simp only [ne_eq,List.size_toArray,gt_iff_lt,Bool.or_eq_true,decide_eq_true_eq]
     rcases Nat.lt_or_ge cells.length (off + v.cells.size) with h | h
     ·exact .inr h
     ·left; intro e2; exact hc ⟨e2,by omega⟩)]
    rfl
@[go_sem] theorem buildV_go {P:Program} {t:TypeId} {parts:List (Nat × Value)}:buildV P t parts=match placesT P t with
 | some ps=>(zeroT P t).bind fun z=>(fillL (ps[·]?) z.cells.toList parts).map fun l=>.agg l.toArray
 | none=>(arrS P t).bind fun e=>(zeroT P t).bind fun z=>(fillL (fun i=>some (i * e.2,e.2)) z.cells.toList parts).map fun l=>.agg l.toArray:=by
 unfold buildV
 have key:∀ (pl:Nat→Option (Nat × Nat)) (z:Value),(Instr.fill pl z.cells parts).map Value.agg=(fillL pl z.cells.toList parts).map fun l=>.agg l.toArray:=by
  intro pl z
  have:=fill_eq (place:=pl) parts z.cells.toList
  simp only [Array.toArray_toList] at this
  rw [this,Option.map_map]
  rfl
 simp only [key]
 cases placesT P t <;> rfl
@[go_sem] theorem fillL_nil {pl:Nat→Option (Nat × Nat)} {cells:List Value}:fillL pl cells []=some cells:=(rfl)
@[go_sem] theorem fillL_cons {pl:Nat→Option (Nat × Nat)} {cells:List Value} {i:Nat} {v:Value} {r:List (Nat × Value)} :
  fillL pl cells ((i,v) :: r)=(pl i).bind fun p=>chk (v.cells.size=p.2∧p.1 + p.2≤cells.length) (fillL pl (setR cells p.1 v.cells.toList) r):=(rfl)
@[go_sem] theorem setR_nil {cells:List Value} {o:Nat}:setR cells o []=cells:=(rfl)
@[go_sem] theorem setR_cons {cells vs:List Value} {o:Nat} {v:Value}:setR cells o (v :: vs)=setR (cells.set o v) (o + 1) vs:=(rfl)
@[go_sem] theorem lset_zero {l:List Value} {u v:Value}:(u :: l).set 0 v=v :: l:=(rfl)
@[go_sem] theorem lset_succ {l:List Value} {u v:Value} {i:Nat}:(u :: l).set (i + 1) v=u :: l.set i v:=(rfl)
@[go_sem] theorem toL_toA {l:List Value}:l.toArray.toList=l:=(rfl)
@[go_sem] theorem size_toA {l:List Value}:l.toArray.size=l.length:=(rfl)
@[go_sem] theorem len_consV {l:List Value} {v:Value}:(v :: l).length=l.length + 1:=(rfl)
@[go_sem] theorem len_nilV:([]:List Value).length=0:=(rfl)
attribute [go_sem] Nat.reduceLeDiff and_true
end Go.HL
namespace Go.HL
section
variable {n:Nat} {P:Program}
theorem opV_mono {o:Oper} {ρ:En} {H:Heap} {K K':En→Heap→Prop} {Q Q':Exit→En→Heap→Prop} (hk:∀ ρ H,K ρ H→K' ρ H) (hq:∀ e ρ H,Q e ρ H→Q' e ρ H) (hv:opV n P o ρ H K Q):opV n P o ρ H K' Q':=by
 obtain ⟨dst,op,type,pos,after,guard⟩:=o
 unfold opV at hv ⊢
 simp only at hv ⊢
 split at hv
 ·unfold ptrW at hv ⊢
  split at hv
  ·rename_i ad ha
   simp only [withV,someW_iff] at hv ⊢
   obtain ⟨H',hs,hk'⟩:=hv
   exact ⟨H',hs,hk _ _ hk'⟩
  ·exact hv.elim
 ·simp only [someW_iff] at hv ⊢
  obtain ⟨z,hz,hk'⟩:=hv
  exact ⟨z,hz,hk _ _ hk'⟩
 ·exact hk _ _ hv
 ·simp only [someW_iff] at hv ⊢
  obtain ⟨z,hz,hk'⟩:=hv
  exact ⟨z,hz,hk _ _ hk'⟩
 ·simp only [someW_iff] at hv ⊢
  obtain ⟨z,hz,hk'⟩:=hv
  exact ⟨z,hz,hk _ _ hk'⟩
 ·exact hk _ _ hv
 ·exact mapW_mono (fun H'=>hk _ H') (fun v H'=>hq _ _ H') hv
 ·exact mapW_mono (fun H'=>hk _ H') (fun v H'=>hq _ _ H') hv
 ·rename_i args ats
  split at hv
  ·rename_i t xt s x ht hx
   simp only [withV] at hv ⊢
   unfold appW at hv ⊢
   split at hv
   ·rename_i base len cap heq
    simp only [heq,someW_iff] at hv ⊢
    obtain ⟨e,he,size,hsz,bytes,hby,z,hz,m,hm,new,hnew,d,hd,hdi,hv⟩:=hv
    refine ⟨e,he,size,hsz,bytes,hby,z,hz,m,hm,new,hnew,d,hd,hdi,?_⟩
    split at hv
    ·rename_i hf
     rw [if_pos hf]
     cases base with
     | none=>exact hk _ _ hv
     | some a =>
      obtain ⟨H',h1,h2⟩:=hv
      exact ⟨H',h1,hk _ _ h2⟩
    ·rename_i hf
     rw [if_neg hf]
     obtain ⟨h1,h2,h3,old,h4,h5⟩:=hv
     exact ⟨h1,h2,h3,old,h4,fun nc a b=>hk _ _ (h5 nc a b)⟩
   ·exact hv.elim
  ·exact hv.elim
 ·exact hwp_mono P _ _ _ _ _ _ (fun v H' hx=>hk _ H' hx) (fun _ _ hx=>hx) hv
 ·exact hwp_mono P _ _ _ _ _ _ (fun v H' hx=>hk _ H' hx) (fun _ _ hx=>hx) hv
 ·unfold callV at hv ⊢
  split at hv
  ·exact hv.mono (fun v H'=>hk _ H') (fun c H'=>hq _ _ H')
  ·exact hv.elim
 ·simp only [someW_iff] at hv ⊢
  obtain ⟨z,hz,hk'⟩:=hv
  exact ⟨z,hz,hk _ _ hk'⟩
theorem opG_mono {ops:Array Oper} {o:Oper} {ρ:En} {H:Heap} {K K':En→Heap→Prop} {Q Q':Exit→En→Heap→Prop} (hk:∀ ρ H,K ρ H→K' ρ H) (hq:∀ e ρ H,Q e ρ H→Q' e ρ H) (h:opG n P ops o ρ H K Q):opG n P ops o ρ H K' Q':=by
 unfold opG at h ⊢
 cases hg:o.guard with
 | none=>rw [hg] at h; exact opV_mono hk hq h
 | some g =>
  obtain ⟨j,want⟩:=g
  rw [hg] at h
  simp only [guardW] at h ⊢
  cases hv:slotOf ops ρ j with
  | bool b=>rw [hv] at h; exact ⟨fun e=>opV_mono hk hq (h.1 e),fun e=>hk _ _ (h.2 e)⟩
  | _=>rw [hv] at h; exact hk _ _ h
theorem opsWp_mono {ops:Array Oper} {Q Q':Exit→En→Heap→Prop} (hq:∀ e ρ H,Q e ρ H→Q' e ρ H):∀ (l:List Oper) (ρ:En) (H:Heap),opsWp n P ops Q l ρ H→opsWp n P ops Q' l ρ H:=by
 intro l
 induction l with
 | nil=>intro ρ H h; exact hq _ _ _ h
 | cons o l ih=>intro ρ H h; exact opG_mono (fun ρ H=>ih ρ H) hq h
theorem cw_mono (c:Code):∀ {Q Q':Exit→En→Heap→Prop} (_:∀ e ρ H,Q e ρ H→Q' e ρ H) {ρ:En} {H:Heap},cw n P c Q ρ H→cw n P c Q' ρ H:=by
 induction c with
 | skip=>intro Q Q' hq ρ H h; exact hq _ _ _ h
 | region id ops draw =>
  intro Q Q' hq ρ H h
  cases draw with
  | true=>exact CW.mono hq h
  | false=>exact opsWp_mono hq _ _ _ h
 | seq x y ihx ihy =>
  intro Q Q' hq ρ H h
  refine ihx ?_ h
  intro e ρ H hx
  cases e <;> first | exact ihy hq hx | exact hq _ _ _ hx
 | cond c x y ihx ihy =>
  intro Q Q' hq ρ H h
  simp only [cw] at h ⊢
  unfold condW at h ⊢
  split at h
  ·exact ⟨fun e=>ihx hq (h.1 e),fun e=>ihy hq (h.2 e)⟩
  ·exact h.elim
 | block id c ih =>
  intro Q Q' hq ρ H h
  refine ih ?_ h
  intro e ρ H hx
  cases e with
  | exit i =>
   simp only [blkQ] at hx ⊢
   split at hx
   ·rename_i hi; rw [if_pos hi]; exact hq _ _ _ hx
   ·rename_i hi; rw [if_neg hi]; exact hq _ _ _ hx
  | _=>exact hq _ _ _ hx
 | exit id=>intro Q Q' hq ρ H h; exact hq _ _ _ h
 | ret=>intro Q Q' hq ρ H h; exact hq _ _ _ h
 | label l=>intro Q Q' hq ρ H h; exact hq _ _ _ h
 | _=>intro Q Q' hq ρ H h; exact CW.mono hq h
theorem cut_at {c:Code} {K:En→Heap→Prop} {Q:Exit→En→Heap→Prop} {ρ:En} {H:Heap} (R:En→Heap→Prop)
  (h:cw n P c (seqQ (fun ρ H=>@stop ⟨R ρ H⟩) Q) ρ H) (h2:∀ ρ H,R ρ H→K ρ H):cw n P c (seqQ K Q) ρ H:=by
 refine cw_mono c ?_ h
 intro e ρ H hx
 cases e <;> first | exact h2 _ _ hx | exact hx
theorem cut_tail {c:Code} {Q:Exit→En→Heap→Prop} {ρ:En} {H:Heap} (R:En→Heap→Prop)
  (h:cw n P c (seqQ (fun ρ H=>@stop ⟨R ρ H⟩) Q) ρ H) (h2:∀ ρ H,R ρ H→Q .normal ρ H):cw n P c Q ρ H:=by
 refine cw_mono c ?_ h
 intro e ρ H hx
 cases e <;> first | exact h2 _ _ hx | exact hx
theorem setH_push {H:Heap} {c:Array Value} {t:TypeId} {i:Nat} {v:Value}:setH (H.push (.cells c t)) ⟨H.size,i,none⟩ v=H.push (.cells (c.setIfInBounds i v) t):=by
 unfold setH
 apply Array.ext_getElem?
 intro j
 rw [Array.getElem?_modify]
 split
 ·rename_i e
  simp at e; subst e
  simp
 ·rename_i e
  simp at e
  rw [Array.getElem?_push,Array.getElem?_push]
  simp [Ne.symm e]
theorem wrs_push {H:Heap} {t:TypeId}:∀ (new pre old:List Value),old.length=new.length→wrs (H.push (.cells (pre ++ old).toArray t)) ⟨H.size,0,none⟩ new pre.length=some (H.push (.cells (pre ++ new).toArray t)):=by
 intro new
 induction new with
 | nil =>
   intro pre old h; have:old = []:=by cases old <;> simp_all
   subst this; rfl
 | cons v new ih =>
  intro pre old h
  cases old with
  | nil=>simp at h
  | cons u old =>
   have hb:Blk (H.push (.cells (pre ++ u :: old).toArray t)) H.size t (pre ++ u :: old):=Blk.new rfl
   simp only [wrs]
   rw [addr_add,Nat.zero_add,hb.wr (by simp) v,Option.bind_some,setH_push]
   have e:(pre ++ u :: old).toArray.setIfInBounds pre.length v=((pre ++ [v]) ++ old).toArray:=by simp
   have:=ih (pre ++ [v]) old (by simpa using h)
   rw [e]
   simpa using this
theorem store_new {H:Heap} {z vs:List Value} {t:TypeId} (hs:sizeT P t=some vs.length) (hz:z.length=vs.length) (h1:∀ v ∈ vs,oneC v=true):storeA P (H.push (.cells z.toArray t)) t ⟨H.size,0,none⟩ (.agg vs.toArray)=some (H.push (.cells vs.toArray t)):=by
 rw [storeA_cells (vs:=vs) rfl h1,hs,Option.bind_some,chk,if_pos rfl]
 exact wrs_push vs [] z hz
end
end Go.HL
namespace Go.HL
def eqD:Option TypeDesc→Value→Value→Option Bool
 | some .bool,.bool a,.bool b=>some (a == b)
 | some (.int _),.int k a,.int k' b=>if k=k' then some (a == b) else none
 | some .string,.string a,.string b=>some (a == b)
 | _,_,_=>none
def eqFs (P:Program) (xs ys:List Value):List Field→Option Bool
 | []=>some true
 | f :: r=>if f.name = "_" then eqFs P xs ys r else
   (xs[f.offset]?).bind fun x=>(ys[f.offset]?).bind fun y=>(eqD (P.underlying f.type) x y).bind fun b=>if b then eqFs P xs ys r else some false
section
variable {P:Program} {H:Heap}
theorem eqD_sound {t:TypeId} {x y:Value} {b:Bool} {d:Nat} (h:eqD (P.underlying t) x y=some b):qrun P (Op.equalIn (d + 1) t x y) H=some b:=by
 cases hu:P.underlying t with
 | none=>rw [hu] at h; simp [eqD] at h
 | some u =>
  rw [hu] at h
  unfold Op.equalIn
  rw [qrun_bind',qrun_underlying hu,Option.bind_some]
  unfold eqD at h
  split at h <;> simp at *
  ·subst h; subst_vars; rfl
  ·subst_vars; obtain ⟨rfl,rfl⟩:=h; simp [pure,qrun]
  ·subst h; subst_vars; rfl
theorem eqD_part {t:TypeId} {x y:Value} {b:Bool} (h:eqD (P.underlying t) x y=some b) (cs:List Value) {o:Nat} {v:Value} (hv:cs[o]?=some v):qrun P (part t cs.toArray o) H=some v:=by
 refine qrun_part ?_
 unfold partV aggN
 cases hu:P.underlying t with
 | none=>rw [hu] at h; simp [eqD] at h
 | some u=>rw [hu] at h; cases u <;> simp [eqD] at h <;> simpa using hv
theorem equal_struct {t:TypeId} {fl:List Field} {xs ys:List Value} {r:Bool} {d:Nat} (hu:P.underlying t=some (.struct fl.toArray)) (hst:P.stoodInHeld t=false) (h:eqFs P xs ys fl=some r) :
  qrun P (Op.equalIn (d + 2) t (.agg xs.toArray) (.agg ys.toArray)) H=some r:=by
 unfold Op.equalIn
 rw [qrun_bind',qrun_underlying hu,Option.bind_some]
 simp only
 rw [qrun_bind']
 have e1:qrun P program H=some P:=rfl
 rw [e1,Option.bind_some,hst]
 simp only [Bool.false_eq_true,if_false]
 rw [List.forIn_toArray]
 clear hu hst
 induction fl with
 | nil =>
  simp only [eqFs,Option.some.injEq] at h
  subst h
  rfl
 | cons f fl ih =>
  rw [List.forIn_cons]
  simp only [eqFs] at h
  by_cases hn:f.name = "_"
  ·rw [if_pos hn] at h
   have:=ih h
   simp only [hn,ne_eq,not_true,if_false] at this ⊢
   exact this
  ·rw [if_neg hn] at h
   simp only [Option.bind_eq_some_iff] at h
   obtain ⟨x,hx,y,hy,b,hb,h⟩:=h
   simp only [ne_eq,hn,not_false_eq_true,if_true]
   rw [qrun_bind',qrun_bind',qrun_bind',eqD_part hb xs hx,Option.bind_some,qrun_bind',eqD_part hb ys hy,Option.bind_some,qrun_bind',eqD_sound hb,Option.bind_some]
   cases b with
   | true =>
    simp only [if_true] at h
    have:=ih h
    rw [qrun_bind'] at this
    simp only [Bool.not_true,Bool.false_eq_true,if_false,pure,qrun,Option.bind_some]
    exact this
   | false=>simp only [Bool.false_eq_true,if_false,Option.some.injEq] at h; subst h; rfl
theorem bin_struct {t:TypeId} {fl:List Field} {xs ys:List Value} {r:Bool} {xo yo:Operand} (hu:P.underlying t=some (.struct fl.toArray)) (hst:P.stoodInHeld t=false) (hg:P.eqGuardType P.depth t=false) (h:eqFs P xs ys fl=some r) :
  binV P (full H) .eql t xo yo (.agg xs.toArray) (.agg ys.toArray)=some (.bool r)∧binV P (full H) .neq t xo yo (.agg xs.toArray) (.agg ys.toArray)=some (.bool (!r)):=by
 have g:∀ op,op=.eql∨op=.neq→qrun P (eqGuard op t xo yo (.agg xs.toArray) (.agg ys.toArray)) H=some ():=by
  intro op ho
  unfold eqGuard
  have e1:qrun P program H=some P:=rfl
  rcases ho with rfl | rfl
  ·simp only [Bool.not_true,Bool.false_eq_true,if_false]
   rw [qrun_bind',e1,Option.bind_some,qrun_bind',e1,Option.bind_some,hg]
   rfl
  ·simp only [Bool.not_true,Bool.false_eq_true,if_false]
   rw [qrun_bind',e1,Option.bind_some,qrun_bind',e1,Option.bind_some,hg]
   rfl
 have e:qrun P (Op.equal t (.agg xs.toArray) (.agg ys.toArray)) H=some r:=equal_struct (d:=Op.maxDepth - 2) hu hst h
 constructor
 ·show qrun P (do eqGuard .eql t xo yo (.agg xs.toArray) (.agg ys.toArray); binOp .eql t (.agg xs.toArray) (.agg ys.toArray)) H=_
  rw [qrun_bind',g _ (.inl rfl),Option.bind_some]
  show qrun P (do pure (Value.bool (← Op.equal t (.agg xs.toArray) (.agg ys.toArray)))) H=_
  rw [qrun_bind',e]
  rfl
 ·show qrun P (do eqGuard .neq t xo yo (.agg xs.toArray) (.agg ys.toArray); binOp .neq t (.agg xs.toArray) (.agg ys.toArray)) H=_
  rw [qrun_bind',g _ (.inr rfl),Option.bind_some]
  show qrun P (do pure (Value.bool (!(← Op.equal t (.agg xs.toArray) (.agg ys.toArray))))) H=_
  rw [qrun_bind',e]
  rfl
variable {xs ys:List Value} {f:Field} {r:List Field} {q:Prop} [Decidable q]
theorem ba_beq {a b:ByteArray}:(a == b)=decide (a=b):=by
 cases a with
 | mk x =>
  cases b with
  | mk y =>
   show (x == y)=_
   by_cases h:x=y <;> simp [h]
theorem eqF_nil:eqFs P xs ys []=some (decide True):=rfl
theorem eqF_int {k k':IntKind} {a b:Int} (hn:f.name ≠ "_") (hu:P.underlying f.type=some (.int k)) (hx:xs[f.offset]?=some (.int k' a)) (hy:ys[f.offset]?=some (.int k' b)) (h:eqFs P xs ys r=some (decide q)):eqFs P xs ys (f :: r)=some (decide (a=b∧q)):=by
 simp only [eqFs,if_neg hn,hx,hy,hu,Option.bind_some,eqD,if_true,h]
 by_cases e:a=b <;> simp [e]
theorem eqF_bool {a b:Bool} (hn:f.name ≠ "_") (hu:P.underlying f.type=some .bool) (hx:xs[f.offset]?=some (.bool a)) (hy:ys[f.offset]?=some (.bool b)) (h:eqFs P xs ys r=some (decide q)):eqFs P xs ys (f :: r)=some (decide (a=b∧q)):=by
 simp only [eqFs,if_neg hn,hx,hy,hu,Option.bind_some,eqD,h]
 by_cases e:a=b <;> simp [e]
theorem eqF_str {a b:ByteArray} (hn:f.name ≠ "_") (hu:P.underlying f.type=some .string) (hx:xs[f.offset]?=some (.string a)) (hy:ys[f.offset]?=some (.string b)) (h:eqFs P xs ys r=some (decide q)):eqFs P xs ys (f :: r)=some (decide (a=b∧q)):=by
 simp only [eqFs,if_neg hn,hx,hy,hu,Option.bind_some,eqD,h,ba_beq]
 by_cases e:a=b <;> simp [e]
omit [Decidable q]
def entry (x:Value × Value) (e:MapEntry):Prop:=e.key=x.1∧e.val=x.2
def MapR (H:Heap) (r:Nat) (kvs:List (Value × Value)):Prop:=∃ es clock,H[r]?=some (.map es clock)∧es.toList.map (fun e=>(e.key,e.val))=kvs
theorem MapR.frame {H H':Heap} {r:Nat} {kvs:List (Value × Value)} (h:MapR H r kvs) {F:List Nat} (hf:Fr F H H') (hr:r ∉ F):MapR H' r kvs:=by
 obtain ⟨es,c,h1,h2⟩:=h
 refine ⟨es,c,?_,h2⟩
 have:r < H.size:=by
  rcases Nat.lt_or_ge r H.size with h | h
  ·exact h
  ·rw [Array.getElem?_eq_none h] at h1; simp at h1
 rw [hf.same r this hr]; exact h1
theorem MapR.lt {H:Heap} {r:Nat} {kvs:List (Value × Value)} (h:MapR H r kvs):r < H.size:=by
 obtain ⟨es,c,h1,h2⟩:=h
 rcases Nat.lt_or_ge r H.size with h | h
 ·exact h
 ·rw [Array.getElem?_eq_none h] at h1; simp at h1
theorem MapR.ne {H:Heap} {r b:Nat} {t:TypeId} {vs:List Value} {kvs:List (Value × Value)} (h:MapR H r kvs) (hb:Blk H b t vs):r ≠ b:=by
 rintro rfl
 obtain ⟨es,c,h1,h2⟩:=h
 unfold Blk at hb
 rw [hb] at h1; simp at h1
theorem MapR.new {H:Heap}:MapR (H.push (.map #[] 0)) H.size []:=⟨#[],0,by simp,rfl⟩
theorem Fr.setObj {F:List Nat} {H:Heap} {r:Nat} {o:Obj} (h:r ∈ F):Fr F H (H.setIfInBounds r o) :=
 ⟨by simp,fun b _ hF=>by rw [Array.getElem?_setIfInBounds]; rw [if_neg (fun (e:r=b)=>hF (e ▸ h))]⟩
def mget (kvs:List (Int × Int)) (k:Int):Option Int:=(kvs.find? fun x=>x.1 == k).map (·.2)
abbrev ivp (x:Int × Int):Value × Value:=(.int .i64 x.1,.int .i64 x.2)
theorem findNow_ints {k:Int}:∀ (es:List MapEntry) (kvs:List (Int × Int)) (i:Nat),es.map (fun e=>(e.key,e.val))=kvs.map ivp →
  ∃ o,Instr.findNow (.int .i64) (.int .i64 k) es i=some o∧o.map (·.2)=(mget kvs k).map (Value.int .i64):=by
 intro es
 induction es with
 | nil=>intro kvs i h; cases kvs <;> simp at h; exact ⟨none,rfl,rfl⟩
 | cons e es ih =>
  intro kvs i h
  cases kvs with
  | nil=>simp at h
  | cons x kvs =>
   simp only [List.map_cons,List.cons.injEq,Prod.mk.injEq] at h
   obtain ⟨⟨h1,h2⟩,h3⟩:=h
   simp only [Instr.findNow,h1,Instr.sameNow,if_true]
   by_cases hk:k=x.1
   ·subst hk
    refine ⟨some (i,e.val),by simp,?_⟩
    simp [mget,h2]
   ·obtain ⟨o,ho,hm⟩:=ih kvs (i + 1) h3
    have e1:(k == x.1)=false:=by simp [hk]
    have e2:(x.1 == k)=false:=by simp [Ne.symm hk]
    refine ⟨o,by simp only [e1]; exact ho,?_⟩
    rw [hm]
    simp [mget,e2]
theorem checkKey_int {k:TypeId} {n:Int} {b:Bool} (hk:P.underlying k=some (.int .i64)):qrun P (Instr.checkKey b 10000 k (.int .i64 n)) H=some ():=by
 unfold Instr.checkKey
 rw [qrun_bind',qrun_underlying hk]
 rfl
theorem qrun_getObj {r:Nat} {es:Array MapEntry} {c:Nat} (h:H[r]?=some (.map es c)):qrun P (getObj r) H=some (.map es c):=by
 simp only [getObj,qrun,h]
theorem look_ints {t k e r:Nat} {z:Value} {kvs:List (Int × Int)} (ht:P.underlying t=some (.map k e)) (hk:P.underlying k=some (.int .i64)) (hz:zeroT P e=some z) (h:MapR H r (kvs.map ivp)) (n:Int) (ok:Bool) :
  qrun P (Instr.lookup t (.map (some r)) (.int .i64 n) ok) H=some (if ok then .tuple #[((mget kvs n).map (Value.int .i64)).getD z,.bool (mget kvs n).isSome] else ((mget kvs n).map (Value.int .i64)).getD z):=by
 obtain ⟨es,c,h1,h2⟩:=h
 obtain ⟨o,ho,hm⟩:=findNow_ints (k:=n) es.toList kvs 0 h2
 have e2:qrun P (Instr.findKey k (.int .i64 n) es.toList) H=some o:=by
  unfold Instr.findKey
  rw [qrun_bind',qrun_underlying hk,Option.bind_some]
  simp only [ho]
  rfl
 unfold Instr.lookup
 rw [qrun_bind',qrun_underlying ht,Option.bind_some]
 simp only
 rw [qrun_bind',qrun_getObj h1,Option.bind_some]
 simp only
 rw [qrun_bind',show qrun P (pure es:Sem (Array MapEntry)) H=some es from rfl,Option.bind_some,qrun_bind',checkKey_int hk,Option.bind_some,qrun_bind',e2,Option.bind_some]
 cases hg:mget kvs n with
 | none =>
  rw [hg] at hm
  cases o with
  | none =>
   simp only
   rw [qrun_bind',qrun_zeroValue hz,Option.bind_some]
   cases ok <;> rfl
  | some p=>simp at hm
 | some v =>
  rw [hg] at hm
  cases o with
  | none=>simp at hm
  | some p =>
   simp at hm
   obtain ⟨i,w⟩:=p
   simp only at hm
   subst hm
   cases ok <;> rfl
theorem len_map {t k e r:Nat} {kvs:List (Value × Value)} (ht:P.underlying t=some (.map k e)) (h:MapR H r kvs):lenV P (full H) t (.map (some r))=some (.int .i64 kvs.length):=by
 obtain ⟨es,c,h1,h2⟩:=h
 show qrun P (Builtin.len_ #[t] 0 #[.map (some r)]) H=_
 unfold Builtin.len_
 simp only [List.getElem?_toArray,List.getElem?_cons_zero]
 rw [qrun_bind',qrun_underlying ht,Option.bind_some]
 simp only
 rw [qrun_bind']
 have:qrun P (getObj r) H=some (.map es c):=qrun_getObj h1
 rw [this,← h2]
 simp [pure,qrun,goInt]
theorem put_ints {t k e r:Nat} {kvs:List (Int × Int)} {n:Int} {x:Value} {K:Heap→Prop} {E:Value→Heap→Prop} (ht:P.underlying t=some (.map k e)) (hk:P.underlying k=some (.int .i64)) (h:MapR H r (kvs.map ivp)) (hn:mget kvs n=none)
  (hK:∀ H',MapR H' r (kvs.map ivp ++ [(.int .i64 n,x)])→Fr [r] H H'→K H'):@mapB P t (.map (some r)) (.int .i64 n) x ⟨H⟩ ⟨K⟩ ⟨E⟩:=by
 obtain ⟨es,c,h1,h2⟩:=h
 obtain ⟨o,ho,hm⟩:=findNow_ints (k:=n) es.toList kvs 0 h2
 rw [hn] at hm
 show hwp P (Instr.mapUpdate t (.map (some r)) (.int .i64 n) x) H _ _
 unfold Instr.mapUpdate
 refine hwp_qbind (qrun_underlying ht H) ?_
 simp only
 have:qrun P (getObj r) H=some (.map es c):=qrun_getObj h1
 refine hwp_qbind this ?_
 simp only
 refine hwp_qbind (checkKey_int hk) ?_
 have e2:qrun P (Instr.findKey k (.int .i64 n) es.toList) H=some o:=by
  unfold Instr.findKey
  rw [qrun_bind',qrun_underlying hk,Option.bind_some]
  simp only [ho]
  rfl
 refine hwp_qbind e2 ?_
 cases o with
 | some p=>simp at hm
 | none =>
  show hwp P (setObj r (.map (es.push { key:=.int .i64 n,val:=x,born:=c }) (c + 1))) H _ _
  simp only [setObj,hwp,h1]
  refine hK _ ⟨es.push { key:=.int .i64 n,val:=x,born:=c },c + 1,?_,by simp [h2]⟩ (Fr.setObj (by simp))
  have hl:r < H.size:=by
   rcases Nat.lt_or_ge r H.size with h | h
   ·exact h
   ·rw [Array.getElem?_eq_none h] at h1; simp at h1
  rw [Array.getElem?_setIfInBounds]
  simp [hl]
end
end Go.HL
namespace Go.HL
abbrev Str:=List UInt8
def bs (l:Str):ByteArray:=⟨l.toArray⟩
abbrev sv (l:Str):Value:=.string (bs l)
@[go_sem] theorem mk_bs {l:Str}:(ByteArray.mk l.toArray)=bs l:=(rfl)
theorem bs_size {l:Str}:(bs l).size=l.length:=by simp [bs,ByteArray.size]
theorem bs_list {l:Str}:(bs l).toList=l:=by unfold bs; simp
theorem bs_inj {a b:Str}:bs a=bs b↔a=b:=by
 constructor
 ·intro h; have:=congrArg ByteArray.toList h; rwa [bs_list,bs_list] at this
 ·rintro rfl; rfl
theorem bs_of (b:ByteArray):∃ l,b=bs l:=⟨b.data.toList,by cases b; simp [bs]⟩
theorem bs_append {a b:Str}:bs a ++ bs b=bs (a ++ b):=by
 apply ByteArray.ext
 simp [bs,ByteArray.data_append]
theorem bs_extract {l:Str} {i j:Nat}:(bs l).extract i j=bs ((l.take j).drop i):=by
 apply ByteArray.ext
 simp [bs,ByteArray.data_extract,List.drop_take]
def bt8 (l:Str) (i:Nat):UInt8:=l.getD i 0
theorem bt8_lt {l:Str} {i:Nat} (h:i < l.length):l[i]?=some (bt8 l i):=by
 unfold bt8; rw [List.getD_eq_getElem?_getD,List.getElem?_eq_getElem h]; rfl
abbrev u8v (c:UInt8):Value:=.int .u8 (c.toNat:Int)
section
variable {P:Program} {V:HV} {t:TypeId} {xo yo:Operand} {a b:Str}
@[go_sem] theorem str_eql:binV P V .eql t xo yo (.string (bs a)) (.string (bs b))=some (.bool (decide (a=b))):=by
 simp [binV,strBin,bs_list]; by_cases h:a=b <;> simp [h]
@[go_sem] theorem str_neq:binV P V .neq t xo yo (.string (bs a)) (.string (bs b))=some (.bool (decide (¬ a=b))):=by
 simp [binV,strBin,bs_list]; by_cases h:a=b <;> simp [h]
@[go_sem] theorem str_add:binV P V .add t xo yo (.string (bs a)) (.string (bs b))=chk (a.length + b.length≤9223372036854775807) (some (.string (bs (a ++ b)))):=by
 have e:IntKind.i64.max=9223372036854775807:=by decide
 simp only [binV,strBin,bs_size,bs_append,chk,e]
 by_cases h:a.length + b.length≤9223372036854775807
 ·rw [if_neg (by omega),if_pos h]
 ·rw [if_pos (by omega),if_neg h]
theorem str_len (h:P.underlying t=some .string):lenV P V t (.string (bs a))=some (.int .i64 a.length):=by
 simp only [lenV,h,bs_size]
theorem str_index {k:IntKind} {n:Int} (h:P.underlying t=some .string):indexV P t (.string (bs a)) (.int k n)=chk (0≤n∧n < a.length) (some (u8v (bt8 a n.toNat))):=by
 simp only [indexV,h,bs_size]; rfl
theorem str_sub {k k':IntKind} {x y:Int} (h:P.underlying t=some .string):sliceV P t (.string (bs a)) (some (.int k x)) (some (.int k' y)) none =
  chk (0≤y∧y≤a.length) (chk (0≤x∧x≤y.toNat) (some (.string (bs ((a.take y.toNat).drop x.toNat))))):=by
 simp only [sliceV,h,boundsV,bs_size,chk]
 split
 ·simp only [Option.bind_some]
  split <;> simp [bs_extract]
 ·rfl
theorem str_lo {k:IntKind} {x:Int} (h:P.underlying t=some .string):sliceV P t (.string (bs a)) (some (.int k x)) none none =
  chk (0≤x∧x≤a.length) (some (.string (bs (a.drop x.toNat)))):=by
 simp only [sliceV,h,boundsV,bs_size,chk]
 simp only [Option.bind_some]
 split <;> simp [bs_extract]
theorem str_hi {k:IntKind} {y:Int} (h:P.underlying t=some .string):sliceV P t (.string (bs a)) none (some (.int k y)) none =
  chk (0≤y∧y≤a.length) (some (.string (bs (a.take y.toNat)))):=by
 simp only [sliceV,h,boundsV,bs_size,chk]
 split <;> simp [bs_extract]
end
def Keeps (S:Nat→Prop) (H H':Heap):Prop:=∀ b,S b→b < H.size→H'[b]?=H[b]?
def Rd (H:Heap) (S:Nat→Prop) (z:Nat) (v:Value) (vs:List Value):Prop :=
 ∃ a len cap,v=.slice a len cap∧vs.length=len * z∧∀ (i:Nat) x,vs[i]?=some x→∃ b o,a=some ⟨b,o,none⟩∧S b∧cellH H ⟨b,o + i,none⟩=some x
theorem Keeps.cell {S:Nat→Prop} {H H':Heap} (h:Keeps S H H') {b o:Nat} {v:Value} (hb:S b) (hc:cellH H ⟨b,o,none⟩=some v):cellH H' ⟨b,o,none⟩=some v:=by
 have:=cell_lt hc
 unfold cellH at hc ⊢; rw [h b hb this]; exact hc
theorem Keeps.of_fr {F:List Nat} {S:Nat→Prop} {H H':Heap} (h:Fr F H H') (hd:∀ b,S b→b ∉ F):Keeps S H H':=fun b hb hl=>h.same b hl (hd b hb)
theorem Keeps.refl {S:Nat→Prop} {H:Heap}:Keeps S H H:=fun _ _ _=>rfl
section
variable {H H':Heap} {S S':Nat→Prop} {z:Nat} {v:Value} {vs:List Value}
theorem Rd.frame (h:Rd H S z v vs) (hk:Keeps S H H'):Rd H' S z v vs:=by
 obtain ⟨a,len,cap,rfl,hl,hc⟩:=h
 refine ⟨a,len,cap,rfl,hl,fun i x hx=>?_⟩
 obtain ⟨b,o,e,hs,h⟩:=hc i x hx
 exact ⟨b,o,e,hs,hk.cell hs h⟩
theorem Rd.mono (h:Rd H S z v vs) (hs:∀ b,S b→b < H.size→S' b):Rd H S' z v vs:=by
 obtain ⟨a,len,cap,rfl,hl,hc⟩:=h
 refine ⟨a,len,cap,rfl,hl,fun i x hx=>?_⟩
 obtain ⟨b,o,e,h1,h2⟩:=hc i x hx
 exact ⟨b,o,e,hs b h1 (cell_lt h2),h2⟩
theorem Rd.nil:Rd H S z (.slice none 0 0) []:=⟨none,0,0,rfl,by simp,by simp⟩
theorem Rd.of_vec {e:Nat} (h:Vec H e z v vs) (hs:∀ b ∈ own v,S b):Rd H S z v vs:=by
 obtain ⟨a,len,cap,rfl,hl⟩:=h.len
 refine ⟨a,len,cap,rfl,hl,fun i x hx=>?_⟩
 obtain ⟨hi,_⟩:=List.getElem?_eq_some_iff.1 hx
 obtain ⟨b,o,len',cap',e1,_,hc⟩:=h.cell (by intro e; rw [e] at hi; simp at hi)
 simp only [Value.slice.injEq] at e1
 obtain ⟨rfl,-,-⟩:=e1
 exact ⟨b,o,rfl,hs b (by simp [own]),by rw [hc i hi]; exact hx⟩
end
section
variable {P:Program} {H:Heap} {b t ty:Nat} {pre old rest new:List Value}
theorem store_at (hb:Blk H b t (pre ++ old ++ rest)) (hl:old.length=new.length) (hs:sizeT P ty=some new.length) (h1:∀ v ∈ new,oneC v=true) :
  ∃ H',storeA P H ty ⟨b,pre.length,none⟩ (.agg new.toArray)=some H'∧Blk H' b t (pre ++ new ++ rest)∧Fr [b] H H':=by
 obtain ⟨H',e1,e2,e3⟩:=wrs_blk new pre old rest H hb hl
 exact ⟨H',by rw [storeA_cells (vs:=new) rfl h1,hs,Option.bind_some,chk,if_pos rfl]; exact e1,e2,e3⟩
theorem store_blk (hb:Blk H b t old) (hl:old.length=new.length) (hs:sizeT P ty=some new.length) (h1:∀ v ∈ new,oneC v=true) :
  ∃ H',storeA P H ty ⟨b,0,none⟩ (.agg new.toArray)=some H'∧Blk H' b t new∧Fr [b] H H':=by
 have:=store_at (P:=P) (ty:=ty) (pre:=[]) (old:=old) (rest:=[]) (new:=new) (by simpa using hb) hl hs h1
 simpa using this
@[go_sem] theorem full_fn:(full H).cells=cellH H:=(rfl)
theorem Blk.cells (hb:Blk H b t (pre ++ new ++ rest)):cellsH (cellH H) ⟨b,pre.length,none⟩ 0 new.length=some new:=by
 refine cellsH_at new pre.length 0 ?_
 intro j hj
 rw [Nat.add_zero,hb.cell]
 rw [List.append_assoc,List.getElem?_append_right (by omega),List.getElem?_append_left (by omega)]
 simp [List.getElem?_eq_getElem hj]
theorem Blk.cells0 (hb:Blk H b t new):cellsH (cellH H) ⟨b,0,none⟩ 0 new.length=some new:=Blk.cells (pre:=[]) (rest:=[]) (by simpa using hb)
end
theorem bsl_of {P:Program} {H:Heap} {t e s:Nat} {vs cs:List Value} {z:Value} (he:elemT P t=some e) (hs:sizeT P e=some s) (hz:zeroT P e=some z) (h1:vs.length * s≤16777216) (h2:(vs.all fun v=>v.cells.size == s)=true)
  (hc:vs.flatMap (·.cells.toList)=cs):buildSliceV P H t vs.length (enumV vs)=some (.slice (some ⟨H.size,0,none⟩) vs.length vs.length,H.push (.cells cs.toArray e)):=by
 refine bsl_sound ?_
 unfold bsl
 rw [he,Option.bind_some,hs,Option.bind_some,hz,Option.bind_some,chk,if_pos ⟨h1,h2⟩,hc]
theorem one_all {vs:List Value} (h:vs.all oneC=true):∀ v ∈ vs,oneC v=true:=List.all_eq_true.1 h
@[go_sem] theorem cell_push {H:Heap} {l:List Value} {t i:Nat}:cellH (H.push (.cells l.toArray t)) ⟨H.size,i,none⟩=l[i]?:=(Blk.new rfl).cell i
theorem cell_old {H:Heap} {o:Obj} {b i:Nat} (h:b < H.size):cellH (H.push o) ⟨b,i,none⟩=cellH H ⟨b,i,none⟩:=(Fr.push (F:=[])).cell h (by simp)
theorem Fr.nil {F:List Nat} {H H':Heap} (h:Fr [] H H'):Fr F H H':=h.mono (by simp)
section
variable {α:Type} {f:α→List Value} {z:Nat}
theorem flat_len (hz:∀ x,(f x).length=z):∀ l:List α,(l.flatMap f).length=l.length * z
 | []=>by simp
 | a :: l=>by simp [hz,flat_len hz l,Nat.add_mul]; omega
theorem flat_get (hz:∀ x,(f x).length=z) {j:Nat} (hj:j < z):∀ (l:List α) (i:Nat) x,l[i]?=some x→(l.flatMap f)[i * z + j]?=(f x)[j]?
 | [],i,x,h=>by simp at h
 | a :: l,0,x,h=>by
  simp only [List.getElem?_cons_zero,Option.some.injEq] at h
  subst h
  rw [List.flatMap_cons,List.getElem?_append_left (by rw [hz]; omega)]
  congr 1; omega
 | a :: l,i + 1,x,h=>by
  rw [List.flatMap_cons,List.getElem?_append_right (by rw [hz,Nat.add_mul]; omega)]
  have:(i + 1) * z + j - (f a).length=i * z + j:=by rw [hz,Nat.add_mul]; omega
  rw [this]
  exact flat_get hz hj l i x (by simpa using h)
theorem Rd.row {H:Heap} {S:Nat→Prop} {v:Value} {l:List α} (hz:∀ x,(f x).length=z) (hp:0 < z) (h:Rd H S z v (l.flatMap f)) {i:Nat} {x:α} (hx:l[i]?=some x) :
  ∃ b o cap,v=.slice (some ⟨b,o,none⟩) l.length cap∧S b∧cellsH (cellH H) ⟨b,o + i * z,none⟩ 0 z=some (f x)∧∀ j y,(f x)[j]?=some y→cellH H ⟨b,o + i * z + j,none⟩=some y:=by
 obtain ⟨a,len,cap,rfl,hl,hc⟩:=h
 rw [flat_len hz] at hl
 have:l.length=len:=Nat.eq_of_mul_eq_mul_right hp hl
 subst this
 have h0:(l.flatMap f)[i * z + 0]?=some ((f x)[0]'(by rw [hz]; exact hp)):=by rw [flat_get hz hp l i x hx]; simp
 obtain ⟨b,o,rfl,hs,_⟩:=hc _ _ h0
 have hall:∀ j y,(f x)[j]?=some y→cellH H ⟨b,o + i * z + j,none⟩=some y:=by
  intro j y hy
  have hj:j < z:=by have:=(List.getElem?_eq_some_iff.1 hy).1; rwa [hz] at this
  obtain ⟨b',o',e,_,h3⟩:=hc (i * z + j) y (by rw [flat_get hz hj l i x hx]; exact hy)
  simp only [Option.some.injEq,Addr.mk.injEq,and_true] at e
  obtain ⟨rfl,rfl⟩:=e
  rw [Nat.add_assoc]; exact h3
 refine ⟨b,o,cap,rfl,hs,?_,hall⟩
 have:=cellsH_at (c:=cellH H) (b:=b) (f x) (o + i * z) 0 (by intro j hj; exact hall j _ (by simp))
 rwa [hz] at this
theorem Rd.len {H:Heap} {S:Nat→Prop} {v:Value} {l:List α} (hz:∀ x,(f x).length=z) (hp:0 < z) (h:Rd H S z v (l.flatMap f)):∃ a cap,v=.slice a l.length cap:=by
 obtain ⟨a,len,cap,rfl,hl,hc⟩:=h
 rw [flat_len hz] at hl
 have:l.length=len:=Nat.eq_of_mul_eq_mul_right hp hl
 subst this
 exact ⟨a,cap,rfl⟩
end
section
variable {P:Program} {t f off:Nat} {l:List Value}
@[go_sem] theorem fieldV_agg:fieldV P t (.agg l.toArray) f=(fieldT P t f).bind fun x=>partV P x.2 l.toArray x.1:=(rfl)
@[go_sem] theorem partV_l:partV P t l.toArray off=match aggN P t with
 | some none=>l[off]?
 | some (some n)=>some (.agg ((l.drop off).take n).toArray)
 | none=>none:=by
 unfold partV
 cases aggN P t with
 | none=>rfl
 | some o =>
  cases o with
  | none=>simp
  | some n=>simp
@[go_sem] theorem ltake_zero:l.take 0 = []:=List.take_zero
@[go_sem] theorem ltake_succ {a:Value} {n:Nat}:(a :: l).take (n + 1)=a :: l.take n:=(rfl)
@[go_sem] theorem ldrop_zero:l.drop 0=l:=(rfl)
@[go_sem] theorem ldrop_succ {a:Value} {n:Nat}:(a :: l).drop (n + 1)=l.drop n:=(rfl)
end
@[go_sem] theorem newPtr_eq {H:Heap}:newPtr H=.pointer (some ⟨H.size,0,none⟩):=(rfl)
structure Hush (p:Prop):Prop where
 out:p
end Go.HL
namespace Go.HL
theorem gS {α:Type _} {a:α} {i:Nat} {l:List α}:(a::l)[i + 1]?=l[i]? := List.getElem?_cons_succ
theorem gZ {α:Type _} {a:α} {l:List α}:(a::l)[0]?=some a := List.getElem?_cons_zero
end Go.HL
