/- Closed runs: new memory that may be made earlier or later: blocks that lie aside, and are taken in. -/
import Derived.Test.YtkdlmdmlomgdiaaGreatL13
set_option linter.unusedSimpArgs false
set_option linter.unusedVariables false
set_option maxRecDepth 10000
set_option maxHeartbeats 8000000
noncomputable section
namespace Go.Run
open Go.HL
variable {σ:Nat->Value} {F:Nat->Option Obj} {φ:Phi} {A:AH} {H:A3} {P:Program} {V:HV}
section
theorem BR.chg {F2:Nat->Option Obj} {i:Id} {B:AB} (h:BR σ φ F H i B) (h2:∀ e,φ i=some e->F e.r=none->e.r < H.size->F2 e.r=none):BR σ φ F2 H i B:=by
 cases B with
 | no=>trivial
 | c ro len t =>
  obtain ⟨e,h1,h3,h4,h5,c,el,fr,h6,rest⟩:=h;exact ⟨e,h1,h3.imp (fun h3=>h2 e h1 h3 (Z8.1 h6).1) id,h4,h5,c,el,fr,h6,rest⟩
 | mp g n m =>
  obtain ⟨e,h1,h3,es,clk,h4,rest⟩:=h;exact ⟨e,h1,h2 e h1 h3 (Z8.1 h4).1,es,clk,h4,rest⟩
theorem Rel.non (h:Rel σ F φ A H) {i:Id} (hi:A.get i ≠ .no) {e:Ent} (he:φ i=some e):F e.r=none\/O5 σ e.r:=by
 have hl:=h.liv i;generalize A.get i=B at hi hl;cases B with
 | no=>exact absurd rfl hi
 | c ro len t=>obtain ⟨e',h1,h2,_⟩:=hl; rw [he] at h1; cases h1; exact h2.imp id And.right
 | mp g n m=>obtain ⟨e',h1,h2,_⟩:=hl; rw [he] at h1; cases h1; exact .inl h2
theorem Rel.bm (h:Rel σ F φ A H) (o:Obj):Rel σ (fun r=>if r=H.size then some o else F r) φ A (H.push o):=by
 refine ⟨h.dom,fun i=>?_,h.inj,fun r x hx=>?_,fun r hr=>by have:=h.st r hr; rw [Zp]; omega⟩
 ·have h1:BR σ φ (fun r=>if r=H.size then some o else F r) H i (A.get i):=(h.liv i).chg fun e he hn hlt=>by
   show (if e.r=H.size then some o else F e.r)=none;rw [J4 (by omega)]; exact hn
  exact h1.keep fun x hx hlt=>by rw [Yh hlt,Zd hlt]
 ·have hx:(if r=H.size then some o else F r)=some x:=hx;split at hx
  ·rename_i hr;cases hx
   subst hr;simp
  ·have h1:=h.frm r x hx;have h2:=(Z8.1 h1).1;rw [Yh h2,<- h1,Zd h2]
theorem Rel.xe {F':Nat->Option Obj} (h:Rel σ F' φ A H) {r:Nat} {cs:Array Value} {el:TypeId} (hr:F' r=some (.cells cs el)) (hF:∀ r',r' ≠ r->F r'=F' r') (h0:F r=none) (hs:¬ O5 σ r)
  {j:Id} (hj:j.nat=A.nx.nat + 1) {len:Nat} {t:CT} (hro:len<=t.room) (hn:len<=cs.size) (hv:∀ o,o < len->∃ w,cs[o]?=some w/\VR σ φ (t.get o) w) :
  Rel σ F (φ.put A.nx ⟨r,0,cs.size⟩) ((A.set A.nx (.c false len t)).to j) H:=by
 have hne:∀ i e,A.get i ≠ .no->φ i=some e->e.r ≠ r:=by
  intro i e hi he hx;rcases h.non hi he with this | this
  ·rw [hx,hr] at this;cases this
  ·exact hs (hx ▸ this)
 refine ⟨?_,?_,?_,?_,h.st⟩
 ·intro i x hx
  show i.nat < j.nat
  unfold Phi.put at hx
  split at hx
  ·rename_i hi; subst hi; omega
  ·have:=h.dom i x hx; omega
 ·intro i
  rw [AH.xg]
  by_cases hi:i=A.nx
  ·subst hi
   rw [AH.zn]
   refine ⟨_,J8 rfl,.inl h0,hro,by simpa using hn,cs,el,(0,0),h.frm _ _ hr,(fun _=>rfl),fun _=>rfl,fun o ho=>?_⟩
   obtain ⟨w,h1,h2⟩:=hv o ho
   exact ⟨w,by simpa using h1,VR.mono (h.zt _) _ _ h2⟩
  ·rw [AH.ze _ hi]
   by_cases hno:A.get i=.no
   ·rw [hno]; trivial
   ·refine ((h.liv i).mono (h.zt _)).chg fun e he hn hlt=>?_
    have he':φ i=some e:=by
     unfold Phi.put at he;rw [J4 hi] at he;exact he
    rw [hF _ (hne i e hno he')]; exact hn
 ·intro i i' x x' hi hi' hx hx' hrr
  rw [AH.xg] at hi hi'
  unfold Phi.put at hx hx'
  by_cases a:i=A.nx
  ·by_cases a':i'=A.nx
   ·rw [a,a']
   ·exfalso
    rw [J8 a] at hx
    rw [J4 a'] at hx'
    rw [AH.ze _ a'] at hi'
    simp only [J5] at hx
    subst hx
    exact hne _ _ hi' hx' hrr.symm
  ·by_cases a':i'=A.nx
   ·exfalso
    rw [J4 a] at hx
    rw [J8 a'] at hx'
    rw [AH.ze _ a] at hi
    simp only [J5] at hx'
    subst hx'
    exact hne _ _ hi hx hrr
   ·rw [J4 a] at hx
    rw [J4 a'] at hx'
    rw [AH.ze _ a] at hi
    rw [AH.ze _ a'] at hi'
    exact h.inj i i' x x' hi hi' hx hx' hrr
 ·intro r' o ho
  by_cases hx:r'=r
  ·subst hx; rw [h0] at ho; cases ho
  ·rw [hF _ hx] at ho; exact h.frm _ _ ho
def flX (P:Program) (H:A3) (op:Op) (ev:Operand->Value):Option (Value × A3) :=
 match op with
 | .alloc t=>(AD P t).map fun z=>(Co H,H.push (.cells z.cells t))
 | .makeSlice t l c=>makeV P H t (ev l) (ev c)
 | .buildSlice t len parts=>buildSliceV P H t len (parts.toList.map fun p=>(p.1,ev p.2))
 | _=>none
def flS (P:Program) (op:Op) (ev:Operand->Value) (cs:Array Value) (el:TypeId) (wf:Nat->Value):Prop:=∀ H,flX P H op ev=some (wf H.size,H.push (.cells cs el))
theorem Sb {op:Op} {ev:Operand->Value} {cs cs':Array Value} {el el':TypeId} {wf wf':Nat->Value} (h:flS P op ev cs el wf) (h':flS P op ev cs' el' wf'):cs=cs'/\el=el'/\∀ r,wf r=wf' r:=by
 have key:∀ H:A3,wf H.size=wf' H.size/\(H.push (.cells cs el):A3)=H.push (.cells cs' el'):=fun H=>by
  have:=(h H).symm.trans (h' H);simp only [J5,Jx] at this;exact this
 have h2:=(key #[]).2;simp at h2;refine ⟨h2.1,h2.2,fun r=>?_⟩;have:=(key (Array.replicate r (.cells #[] 0))).1;simpa using this
theorem Qy {op:Op} {ev ev':Operand->Value} (h:∀ x ∈ op.operands.toList,ev x=ev' x) (hf:XG op=true):flX P H op ev=flX P H op ev':=by
 cases op with
 | alloc t=>rfl
 | makeSlice t l c =>
  show makeV P H t (ev l) (ev c)=makeV P H t (ev' l) (ev' c);rw [h l (by simp [Op.operands]),h c (by simp [Op.operands])]
 | buildSlice t len parts =>
  show buildSliceV P H t len (parts.toList.map fun p=>(p.1,ev p.2))=buildSliceV P H t len (parts.toList.map fun p=>(p.1,ev' p.2));have:(parts.toList.map fun p=>(p.1,ev p.2))=parts.toList.map fun p=>(p.1,ev' p.2):=by
   apply Zq;intro p hp;rw [h p.2 (by simp [Op.operands]; exact ⟨p.1,by simpa using hp⟩)]
  rw [this]
 | _=>cases hf
theorem HQ {op:Op} {ev ev':Operand->Value} {cs:Array Value} {el:TypeId} {wf:Nat->Value} (h:∀ x ∈ op.operands.toList,ev x=ev' x) (hf:XG op=true)
  (hs:flS P op ev cs el wf):flS P op ev' cs el wf:=fun H=>by rw [<- Qy h hf]; exact hs H
theorem Sa {n:Nat} {l:List Oper} {o:Oper} {e:En} {cs:Array Value} {el:TypeId} {wf:Nat->Value} {K:En->A3->Prop} {Q:Exit->En->A3->Prop} (hf:EO o=true) (hs:flS P o.op e.ev cs el wf)
  (hk:K (e.put n o.dst (wf H.size)) (H.push (.cells cs el))):opG n P l.toArray o e H K Q:=by
 obtain ⟨hg,ho⟩:=DF hf
 unfold opG
 rw [hg]
 have h:=hs H
 obtain ⟨dst,op,type,pos,after,guard⟩:=o
 cases op with
 | alloc t =>
  show AQ (AD P t) _;unfold flX at h;simp only [Zj,Jx] at h;obtain ⟨z,hz,h1,h2⟩:=h;rw [hz];show K (e.put n dst (Co H)) (H.push (.cells z.cells t));rw [h1,h2]; exact hk
 | makeSlice t l c =>
  show AQ (makeV P H t (e.ev l) (e.ev c)) _;have h:makeV P H t (e.ev l) (e.ev c)=_:=h;rw [h]; exact hk
 | buildSlice t len parts =>
  show AQ (buildSliceV P H t len (parts.toList.map fun p=>(p.1,e.ev p.2))) _;have h:buildSliceV P H t len (parts.toList.map fun p=>(p.1,e.ev p.2))=_:=h;rw [h]; exact hk
 | _=>cases ho
def FLI (P:Program) (σ:Nat->Value) (φ:Phi) (A:AH) (op:Op) (ev:Operand->Value) (k:AV->AH->Bool):Prop :=
 ∃ (m:Nat) (t:CT) (vf:Id->AV) (cs:Array Value) (el:TypeId) (wf:Nat->Value),Qh A m t (fun j A'=>k (vf j) A')=true/\flS P op ev cs el wf/\m<=t.room/\m<=cs.size/\(∀ o,o < m->∃ w,cs[o]?=some w/\VR σ φ (t.get o) w) /\
  ∀ (φ':Phi) (j:Id) (r:Nat),φ' j=some ⟨r,0,cs.size⟩->VR σ φ' (vf j) (wf r)
theorem Sz {l:List AV} {k:AV->AH->Bool} {t:TypeId} {z:Value} {ev:Operand->Value} (hz:AD P t=some z) (hv:VRl σ φ l z.cells.toList) (hk:SC A l k=true):FLI P σ φ A (.alloc t) ev k:=by
 obtain ⟨h1,hk⟩:=Ab hk;have h1:=Ja h1;rw [BH] at h1 hk;obtain ⟨g1,g2,g3⟩:=Dr h1 hv;refine ⟨l.length,ctL l,fun i=>.p i 0,z.cells,t,fun r=>.pointer (some ⟨r,0,none⟩),hk,fun H=>?_,g1,by omega,g3,fun φ' j r hj=>?_⟩
 ·show (AD P t).map (fun z=>(Co H,H.push (.cells z.cells t)))=_;rw [hz]; rfl
 ·simp only [VR]; exact ⟨_,hj,rfl⟩
theorem RR {t e:Nat} {i:TI} {l c:AV} {lo co:Operand} {ev:Operand->Value} {k:AV->AH->Bool} (ht:P.underlying t=some (.slice e)) (hi:TIok P e i) (hl:VR σ φ l (ev lo)) (hc:VR σ φ c (ev co)) (hk:Qk A i l c k=true) :
  FLI P σ φ A (.makeSlice t lo co) ev k:=by
 unfold Qk at hk
 obtain ⟨g,n,hwl,hk⟩:=AY hl hk
 obtain ⟨g',m,hwc,hk⟩:=AY hc hk
 obtain ⟨h1,hk⟩:=Ab hk
 obtain ⟨h2,hk⟩:=Ab hk
 obtain ⟨h3,hk⟩:=Ab hk
 rw [Bw] at hk
 obtain ⟨h4,hk⟩:=Ab hk
 have h1:=Ja h1
 have h2:=Ja h2
 have h3:=Ja h3
 have h4:=Ja h4
 simp only [W3] at hk h4
 obtain ⟨z,hz,hzs,hv⟩:=hi.zer
 obtain ⟨g1,g2⟩:=KI (n:=m) (hv σ φ) (by rw [hi.len]; exact h4)
 rw [hi.len] at g1 g2
 rw [hzs] at g2
 refine ⟨_,_,fun j=>.q j 0 n m i.size true,AO z.cells (m * i.size),e,fun r=>.slice (some ⟨r,0,none⟩) n m,hk,fun H=>?_,g1,by rw [Bn]; exact Jb _,g2,fun φ' j r hj=>?_⟩
 ·have hel:AN P t=some e:=by simp [AN,ht]
  show makeV P H t (ev lo) (ev co)=_
  rw [hwl,hwc]
  unfold makeV
  simp only [hel,hi.bytes,hi.size,hz,J0,Z4]
  rw [J8]
  refine ⟨by omega,by omega,by omega,?_⟩
  have:i.bytes * m<=1048576 * 65536:=W2 h3 h2
  have e1:((i.bytes:Nat):Int) * (m:Int)=((i.bytes * m:Nat):Int):=by simp
  rw [e1]; omega
 ·simp only [VR]
  refine ⟨_,0,m,hj,rfl,⟨h1,by omega⟩,Jb _,?_,fun _=>by simp,fun _=>rfl⟩
  rw [Bn]; show 0 + m * i.size<=m * i.size/\(m ≠ 0->0 + m * i.size=m * i.size); omega
theorem Sp {t e len:Nat} {i:TI} {parts:List (Nat × Nat × AV)} {ops:Array (Nat × Operand)} {ev:Operand->Value} {k:AV->AH->Bool} (ht:P.underlying t=some (.slice e)) (hi:TIok P e i) (hl:parts.length=(ops.toList.map fun p=>(p.1,ev p.2)).length)
  (hp:∀ (j:Nat) p q,parts[j]?=some p->(ops.toList.map fun p=>(p.1,ev p.2))[j]?=some q->p.1=q.1 * i.size/\p.2.1=i.size/\VR σ φ p.2.2 q.2) (hk:Uu A i len parts k=true) :
  FLI P σ φ A (.buildSlice t len ops) ev k:=by
 obtain ⟨h0,hk⟩:=Ab hk
 have h0:=Ja h0
 obtain ⟨h4,hk⟩:=Ab hk
 have h4:=Ja h4
 simp only [W3] at h4
 obtain ⟨z,hz,hzs,hv⟩:=hi.zer
 have hr:=GF (n:=len) (hv σ φ)
 rw [hzs] at hr
 obtain ⟨cs,l,h5,h6,hk⟩:=Ko (place:=fun q=>some (q * i.size,i.size)) parts _ _ _ hl (fun j p q a b=>by
  obtain ⟨c1,c2,c3⟩:=hp j p q a b;exact ⟨by rw [c1,c2],c3⟩) hr hk
 have hsz:cs.size=len * i.size:=by rw [HS _ _ _ h5,Bn]
 have hll:l.length=len * i.size:=by have:=h6.length; simp only [Zw] at this; omega
 rw [BH] at hk
 obtain ⟨g1,g2,g3⟩:=Dr (by rw [hll]; exact h4) h6
 refine ⟨_,_,fun j=>.q j 0 len len i.size true,cs,e,fun r=>.slice (some ⟨r,0,none⟩) len len,hk,fun H=>?_,g1,by omega,g3,fun φ' j r hj=>?_⟩
 ·have hel:AN P t=some e:=by simp [AN,ht]
  show buildSliceV P H t len (ops.toList.map fun p=>(p.1,ev p.2))=_
  unfold buildSliceV
  simp only [hel,hi.size,hz,J0]
  rw [J8 (by omega)]
  unfold Li
  rw [h5]
  rfl
 ·simp only [VR]
  refine ⟨_,0,len,hj,rfl,⟨Jb _,by omega⟩,Jb _,?_,fun _=>by simp,fun _=>rfl⟩
  rw [hsz]; show 0 + len * i.size<=len * i.size/\(len ≠ 0->0 + len * i.size=len * i.size); omega
theorem OG {T:TR} {Tb:FT} {U:Nat->AV} {e:En} (hT:Bl P T) (he:ER σ φ U e) {o:Oper} (hf:EO o=true) {k:AV->AH->Bool} (h:dA T Tb U A o.op k=true):FLI P σ φ A o.op e.ev k:=by
 obtain ⟨hg,ho⟩:=DF hf;obtain ⟨dst,op,type,pos,after,guard⟩:=o;cases op with
 | alloc t =>
  obtain ⟨i,hi,h⟩:=Ad hT h;obtain ⟨z,hz,hzs,hv⟩:=hi.zer;exact Sz hz (hv σ φ) h
 | makeSlice t l c =>
  obtain ⟨i,hi,h⟩:=Ad hT h;obtain ⟨d,hu,hd⟩:=hi.kind;split at h
  ·rename_i el hkk;obtain ⟨j,hj,h⟩:=Ad hT h;exact RR (B6 hu (hd.trans hkk) hj).2.2 hj (Ah he l) (Ah he c) h
  ·cases h
 | buildSlice t len parts =>
  obtain ⟨i,hi,h⟩:=Ad hT h;obtain ⟨d,hu,hd⟩:=hi.kind;split at h
  ·rename_i el hkk;obtain ⟨j,hj,h⟩:=Ad hT h;obtain ⟨l,h1,h2,h⟩:=E2 he _ _ h;exact Sp (B6 hu (hd.trans hkk) hj).2.2 hj h1 h2 h
  ·cases h
 | _=>cases ho
theorem BA {H:A3} {a:Addr} {v:Value} {r:Nat} (h:r ≠ a.block):(Aw H a v)[r]?=H[r]?:=by
 unfold Aw;rw [Zu,J4 (fun e=>h e.symm)]
theorem PY {H H2:A3} {a:Addr} {v:Value} (h:H2[a.block]?=H[a.block]?):(Aw H2 a v)[a.block]?=(Aw H a v)[a.block]?:=by
 unfold Aw;rw [Zu,Zu,J8 rfl,J8 rfl,h]
theorem EE {a:Addr}:∀ (vs:List Value) (i:Nat) (H H' H2:A3),Ar H a vs i=some H'->H2[a.block]?=H[a.block]? ->
  ∃ H2',Ar H2 a vs i=some H2'/\H2'[a.block]?=H'[a.block]?/\(∀ r,r ≠ a.block->H2'[r]?=H2[r]?)/\∀ r,r ≠ a.block->H'[r]?=H[r]?
 | [],i,H,H',H2,h,hb=>by
  simp only [Ar,J5] at h;subst h;exact ⟨H2,rfl,hb,fun _ _=>rfl,fun _ _=>rfl⟩
 | v :: vs,i,H,H',H2,h,hb=>by
  simp only [Ar] at h;split at h
  ·rename_i hc;have hab:(a.add i).block=a.block:=(by unfold Addr.add; split <;> rfl);obtain ⟨H2',h1,h2,h3,h4⟩:=EE vs (i + 1) _ H' (Aw H2 (a.add i) v) h (by rw [<- hab]; exact PY (by rw [hab]; exact hb));refine ⟨H2',?_,h2,fun r hr=>by rw [h3 r hr,BA (by rw [hab]; exact hr)],fun r hr=>by rw [h4 r hr,BA (by rw [hab]; exact hr)]⟩;simp only [Ar];have e1:A5 H2 (a.add i)=A5 H (a.add i):=(by unfold A5; rw [hab,hb]);have e2:BI H2 (a.add i)=BI H (a.add i):=(by unfold BI; rw [hab,hb]);rw [e1,e2,J8 hc];exact h1
  ·cases h
theorem ET {t:TypeId} {a:Addr} {v:Value} {H H' H2:A3} (h:B1 P H t a v=some H') (hb:H2[a.block]?=H[a.block]?) :
  ∃ H2',B1 P H2 t a v=some H2'/\H2'[a.block]?=H'[a.block]?/\(∀ r,r ≠ a.block->H2'[r]?=H2[r]?)/\∀ r,r ≠ a.block->H'[r]?=H[r]?:=by
 unfold B1 at h ⊢
 cases hs:Au P t with
 | none=>rw [hs] at h; cases h
 | some s =>
  rw [hs] at h;simp only at h ⊢;split at h
  ·rename_i hc;rw [J8 hc];exact EE _ _ _ _ _ h hb
  ·cases h
theorem MB {t t':TypeId} {a a':Addr} {v v':Value} {H H1 H2:A3} (hne:a.block ≠ a'.block) (h1:B1 P H t a v=some H1) (h2:B1 P H1 t' a' v'=some H2) :
  ∃ H3,B1 P H t' a' v'=some H3/\B1 P H3 t a v=some H2/\(∀ r,r ≠ a'.block->H3[r]?=H[r]?)/\H3[a'.block]?=H2[a'.block]?:=by
 obtain ⟨_,_,_,_,m1⟩:=ET h1 (H2:=H) rfl
 obtain ⟨H3,s1,s2,s3,m2⟩:=ET h2 (H2:=H) (by rw [m1 _ (fun e=>hne e.symm)])
 obtain ⟨H4,u1,u2,u3,_⟩:=ET h1 (H2:=H3) (by rw [s3 _ hne])
 have:H4=H2:=by
  apply W8;intro r;by_cases e:r=a.block
  ·subst e; rw [u2,m2 _ hne]
  ·by_cases e':r=a'.block
   ·subst e'; rw [u3 _ e,s2]
   ·rw [u3 _ e,s3 _ e',m2 _ e',m1 _ e]
 subst this
 exact ⟨H3,s1,u1,s3,s2⟩
end
end Go.Run
namespace Go.Run
open Go.HL
variable {σ:Nat->Value} {F:Nat->Option Obj} {φ:Phi} {A:AH} {H:A3} {P:Program} {V:HV}
section
def Fa (i j:Id):Bool:=Nat.beq i.nat j.nat
theorem IM {i j:Id} (h:Fa i j=true):i=j:=Id.yr (J9 h)
def eqX (a b:AV):Bool :=
 a.ye (fun x=>b.ye (fun y=>Nat.beq x y) false) (a.y0 (fun x=>b.y0 (fun y=>eqB x y) false)
  (a.yd (fun i o=>b.yd (fun i' o'=>ifB (Fa i i') (Nat.beq o o') false) false)
   (a.yl (fun i o len cap z ex=>b.yl (fun i' o' len' cap' z' ex'=>ifB (Fa i i') (ifB (Nat.beq o o') (ifB (Nat.beq len len') (ifB (Nat.beq z z') (ifB (Nat.beq cap 0) (ifB ex (ifB ex' (Nat.beq cap' 0) false) false) (ifB (Nat.beq cap' 0) false (ifB (Nat.beq z 0) false true))) false) false) false) false) false)
    (a.yg (fun x=>b.yg (fun y=>Nat.beq x y) false) (a.yk (fun l=>b.yk (fun l'=>eqL l l') false) (a.yv (fun i=>b.yv (fun j=>Fa i j) false)
     (a.ui (fun g x=>b.ui (fun g' y=>ifB (Nat.beq (BM g) (BM g')) (eqI x y) false) false) false)))))))
theorem XQ {a b:AV} {w w':Value} (ha:VR σ φ a w) (hb:VR σ φ b w') (h:eqX a b=true):w=w':=by
 cases a with
 | n x =>
  cases b with
  | n y=>have:=J9 h; subst this; simp only [VR] at ha hb; rw [ha.1,hb.1]
  | _=>cases h
 | b x =>
  cases b with
  | b y =>
   replace h:eqB x y=true:=h;rw [Se,beq_iff_eq] at h;subst h; simp only [VR] at ha hb; rw [ha,hb]
  | _=>cases h
 | p i o =>
  cases b with
  | p i' o' =>
   obtain ⟨h1,h2⟩:=Ab (show ifB (Fa i i') (Nat.beq o o') false=true from h);have:=IM h1;have e2:=J9 h2;subst this e2;simp only [VR] at ha hb;obtain ⟨e,h3,rfl⟩:=ha;obtain ⟨e',h4,rfl⟩:=hb;rw [h3] at h4;cases h4
   rfl
  | _=>cases h
 | q i o len cap z ex =>
  cases b with
  | q i' o' len' cap' z' ex' =>
   obtain ⟨h1,h⟩:=Ab (show ifB (Fa i i') _ false=true from h);obtain ⟨h2,h⟩:=Ab h;obtain ⟨h3,h⟩:=Ab h;obtain ⟨h4,hL⟩:=Ab h;have e1:=IM h1;have e2:=J9 h2;have e3:=J9 h3;have e4:=J9 h4;clear h1 h2 h3 h4;subst e1 e2 e3 e4;simp only [VR] at ha hb;obtain ⟨e,x,c,a1,rfl,a2,a3,a4,a5,a6⟩:=ha;obtain ⟨e',x',c',b1,rfl,b2,b3,b4,b5,b6⟩:=hb;rw [a1] at b1;cases b1
   cases hb0:Nat.beq cap 0 with
   | true =>
    rw [hb0] at hL;obtain ⟨g1,hM⟩:=Ab (show ifB ex (ifB ex' (Nat.beq cap' 0) false) false=true from hL);obtain ⟨g2,hN⟩:=Ab hM;have n0:=J9 hb0;have n1:=J9 hN;rw [a5 (.inr g1),b5 (.inr g2),a6 g1,b6 g2,n0,n1]
   | false =>
    rw [hb0] at hL;obtain ⟨h6,hM⟩:=HH (show ifB (Nat.beq cap' 0) false (ifB (Nat.beq z 0) false true)=true from hL);obtain ⟨h7,hN⟩:=HH hM;have n5:=G0 hb0;have n6:=G0 h6;have n7:=G0 h7;have ex1:=a5 (.inl n5);have ex2:=b5 (.inl n6);subst ex1 ex2;have c1:=a4.2 (by omega);have c2:=b4.2 (by omega);have:c * z=c' * z:=(by omega);have:=Nat.eq_of_mul_eq_mul_right (Nat.pos_of_ne_zero n7) this;rw [this]
  | _=>cases h
 | nil g =>
  cases b with
  | nil g'=>have:=J9 h; subst this; simp only [VR] at ha hb; rw [ha,hb]
  | _=>cases h
 | s l =>
  cases b with
  | s l' =>
   replace h:eqL l l'=true:=h;rw [HT,Jk] at h;subst h;obtain ⟨_,e,rfl,_⟩:=AT (k:=fun _=>true) ha rfl;obtain ⟨_,e',rfl,_⟩:=AT (k:=fun _=>true) hb rfl;cases e; cases e'; rfl
  | _=>cases h
 | m i =>
  cases b with
  | m j =>
   have:=IM (show Fa i j=true from h);subst this;simp only [VR] at ha hb;obtain ⟨e,h3,rfl⟩:=ha;obtain ⟨e',h4,rfl⟩:=hb;rw [h3] at h4;cases h4
   rfl
  | _=>cases h
 | z g x =>
  cases b with
  | z g' y =>
   obtain ⟨h1,h2⟩:=Ab (show ifB (Nat.beq (BM g) (BM g')) (eqI x y) false=true from h);have:=CF h1;subst this;rw [Kb,Jk] at h2;subst h2;simp only [VR] at ha hb; rw [ha,hb]
  | _=>cases h
 | _=>cases h
abbrev HD:=List (Id × Nat × AV)
def HDR (σ:Nat->Value) (φ:Phi) (hd:HD) (hl:List (Addr × Value)):Prop :=
 ∀ x ∈ hd,∃ e w,φ x.1=some e/\Ak hl ⟨e.r,e.s + x.2.1,none⟩=some w/\VR σ φ x.2.2 w
def ldO (A:AH) (p:AV) (k:Id->Nat->AV->Bool):Bool:=p.yd (fun i o=>(A.get i).zl (fun _ len t=>ifB (Nat.blt o len) (k i o (t.get o)) false) false) false
def Qx (hd:HD) (p:AV) (k:AV->Bool):Bool:=p.yd (fun i o=>@List.rec (Id × Nat × AV) (fun _=>Bool) false (fun x _ ih=>ifB (Nat.beq x.2.1 o) (ifB (Fa x.1 i) (k x.2.2) ih) ih) hd) false
def OO (hd:HD) (A:AH) (k:Bool):Bool:=@List.rec (Id × Nat × AV) (fun _=>Bool) k (fun x _ ih=>(A.get x.1).zl (fun _ len t=>ifB (Nat.blt x.2.1 len) (ifB (eqX x.2.2 (t.get x.2.1)) ih false) false) false) hd
theorem XD {p:AV} {w:Value} {k:Id->Nat->AV->Bool} (h:Rel σ F φ A H) (hp:VR σ φ p w) (hk:ldO A p k=true) :
  ∃ i o v e r,φ i=some e/\w=.pointer (some ⟨e.r,e.s + o,none⟩)/\A5 H ⟨e.r,e.s + o,none⟩=some r/\VR σ φ v r/\k i o v=true:=by
 obtain ⟨i,o,e,rfl,h1,rfl,hk⟩:=Cc hp hk
 rcases AB.zm (A.get i) (fun _ len t=>ifB (Nat.blt o len) (k i o (t.get o)) false) false with ⟨ro,len,t,hg,e'⟩ | e'
 ·rw [e'] at hk
  obtain ⟨h2,hk⟩:=Ab hk
  obtain ⟨e2,r,h3,h4,h5⟩:=h.cell hg (Cd h2)
  rw [h1] at h3
  cases h3
  exact ⟨i,o,_,e,r,h1,rfl,h4,h5,hk⟩
 ·rw [e'] at hk; cases hk
theorem Ps {hd:HD} {hl:List (Addr × Value)} {p:AV} {w:Value} {k:AV->Bool} (hh:HDR σ φ hd hl) (hp:VR σ φ p w) (hk:Qx hd p k=true):∃ a v r,w=.pointer (some a)/\Ak hl a=some r/\VR σ φ v r/\k v=true:=by
 obtain ⟨i,o,e,rfl,h1,rfl,hk2⟩:=Cc hp hk;clear hk;have hk:=hk2;clear hk2;induction hd with
 | nil=>cases hk
 | cons x hd ih =>
  replace hk:ifB (Nat.beq x.2.1 o) (ifB (Fa x.1 i) (k x.2.2) (@List.rec (Id × Nat × AV) (fun _=>Bool) false (fun x _ ih=>ifB (Nat.beq x.2.1 o) (ifB (Fa x.1 i) (k x.2.2) ih) ih) hd))
   (@List.rec (Id × Nat × AV) (fun _=>Bool) false (fun x _ ih=>ifB (Nat.beq x.2.1 o) (ifB (Fa x.1 i) (k x.2.2) ih) ih) hd)=true:=hk
  cases hb:Nat.beq x.2.1 o with
  | false=>rw [hb] at hk; exact ih (fun y hy=>hh y (by simp [hy])) hk
  | true =>
   rw [hb] at hk;have e1:=J9 hb;cases hc:Fa x.1 i with
   | false=>rw [hc] at hk; exact ih (fun y hy=>hh y (by simp [hy])) hk
   | true =>
    rw [hc] at hk;have e2:=IM hc;obtain ⟨e',w,h2,h3,h4⟩:=hh x (by simp);rw [e2,h1] at h2;cases h2
    rw [e1] at h3;exact ⟨_,x.2.2,w,rfl,h3,h4,hk⟩
theorem Mm {hd:HD} {hl:List (Addr × Value)} {φ0:Phi} {k:Bool} (hl':φ0.le φ) (h:Rel σ F φ A H) (hh:HDR σ φ0 hd hl) (hk:OO hd A k=true):k=true/\∀ x ∈ hd,∃ e w,φ x.1=some e/\Ak hl ⟨e.r,e.s + x.2.1,none⟩=some w/\A5 H ⟨e.r,e.s + x.2.1,none⟩=some w:=by
 induction hd with
 | nil=>exact ⟨hk,by simp⟩
 | cons x hd ih =>
  replace hk:(A.get x.1).zl (fun _ len t=>ifB (Nat.blt x.2.1 len) (ifB (eqX x.2.2 (t.get x.2.1)) (OO hd A k) false) false) false=true:=hk;rcases AB.zm (A.get x.1) (fun _ len t=>ifB (Nat.blt x.2.1 len) (ifB (eqX x.2.2 (t.get x.2.1)) (OO hd A k) false) false) false with ⟨ro,len,t,hg,e'⟩ | e'
  ·rw [e'] at hk;obtain ⟨h1,hk⟩:=Ab hk;obtain ⟨h2,hk⟩:=Ab hk;obtain ⟨k1,k2⟩:=ih (fun y hy=>hh y (by simp [hy])) hk;refine ⟨k1,fun y hy=>?_⟩;rcases J7.1 hy with rfl | hy
   ·obtain ⟨e,w,h3,h4,h5⟩:=hh y (by simp);obtain ⟨e2,r,h6,h7,h8⟩:=h.cell hg (Cd h1);rw [hl' _ _ h3] at h6;cases h6
    have:=XQ (VR.mono hl' _ _ h5) h8 h2;subst this;exact ⟨e,w,hl' _ _ h3,h4,h7⟩
   ·exact k2 y hy
  ·rw [e'] at hk; cases hk
def gdQ (c:AV) (want:Bool) (run:(AV->Bool)->Bool) (k:AV->Bool):Bool :=
 c.y0 (fun b=>@Bool.rec (fun _=>Bool) (k Bz) (run k) (eqB b want)) (c.qb (fun _=>k Bz) false)
abbrev lkT (T:TR) (l:List Oper) (o:Oper) (U:Nat->AV) (A:AH) (k:AV->Bool):Bool :=
 @Option.rec (Nat × Bool) (fun _=>Bool) (qA T U A o.op k) (fun g=>gdQ (CD l.toArray U g.1) g.2 (fun k'=>qA T U A o.op k') k) o.guard
abbrev lkF (T:TR) (l:List Oper) (o:Oper) (U:Nat->AV) (k:AV->Bool):Bool :=
 @Option.rec (Nat × Bool) (fun _=>Bool) (pA T U o.op k) (fun g=>gdQ (CD l.toArray U g.1) g.2 (fun k'=>pA T U o.op k') k) o.guard
def j2l (A:AH) (p:AV) (n:Nat) (hd:HD) (k:HD->List AV->Bool):Bool :=
 p.yd (fun i o=>@Nat.rec (fun _=>Nat->HD->(HD->List AV->Bool)->Bool) (fun _ hd k=>k hd []) (fun _ ih o hd k=>ldO A (.p i o) fun i' o' v=>ih (Nat.succ o) ((i',o',v) :: hd) fun hd l=>k hd (v :: l)) n o hd k) false
def j2s (hd:HD) (p:AV) (n:Nat) (k:List AV->Bool):Bool :=
 p.yd (fun i o=>@Nat.rec (fun _=>Nat->(List AV->Bool)->Bool) (fun _ k=>k []) (fun _ ih o k=>Qx hd (.p i o) fun v=>ih (Nat.succ o) fun l=>k (v :: l)) n o k) false
abbrev RY (T:TR) (t:Nat) (p:AV) (op:Bool) (hd:HD) (A:AH) (k:HD->AV->Bool):Bool :=
 Ax T t fun i=>@Bool.rec (fun _=>Bool) (@Bool.rec (fun _=>Bool) (Qx hd p fun v=>k hd v) (ldO A p fun i o v=>k ((i,o,v) :: hd) v) op)
  (@Bool.rec (fun _=>Bool) (j2s hd p i.size fun l=>k hd (.a l)) (j2l A p i.size hd fun hd l=>k hd (.a l)) op) (KH i.k)
def gdH (c:AV) (want:Bool) (run:(HD->AV->Bool)->Bool) (hd:HD) (k:HD->AV->Bool):Bool :=
 c.y0 (fun b=>@Bool.rec (fun _=>Bool) (k hd Bz) (run k) (eqB b want)) (c.qb (fun _=>k hd Bz) false)
abbrev lkH (T:TR) (l:List Oper) (o:Oper) (op:Bool) (hd:HD) (U:Nat->AV) (A:AH) (k:HD->AV->Bool):Bool :=
 match o.op,o.guard with
 | .load t p,none=>RY T t (ev U p) op hd A k
 | .load t p,some g=>gdH (CD l.toArray U g.1) g.2 (fun k'=>RY T t (ev U p) op hd A k') hd k
 | _,_=>lkF T l o U fun v=>k hd v
abbrev xA (T:TR) (U:Nat->AV) (A:AH) (op:Op) (k:AV->Bool):Bool :=
 match op with
 | .load t p=>ldT T A t (ev U p) k
 | .lookup t m key ok=>Rf T U A t m key ok k
 | .convert s d x=>Ax T s fun i=>Ax T d fun j =>
  match i.k,j.k with
  | .slice e,.str=>Ax T e fun l=>match l.k with
   | .int .u8=>PT A (ev U x) k
   | _=>false
  | _,_=>false
 | _=>false
abbrev lkP (Tb:FT) (o:Oper) (U:Nat->AV) (k:AV->Bool):Bool :=
 match o.op,o.guard with
 | .call ⟨.value (.func f),args,_⟩,none=>Ia Tb f fun e=>e.p (args.toList.map (ev U)) k
 | _,_=>false
abbrev lkX (T:TR) (l:List Oper) (o:Oper) (U:Nat->AV) (A:AH) (k:AV->Bool):Bool :=
 @Option.rec (Nat × Bool) (fun _=>Bool) (xA T U A o.op k) (fun g=>gdQ (CD l.toArray U g.1) g.2 (fun k'=>xA T U A o.op k') k) o.guard
abbrev Gr (T:TR) (Tb:FT) (l:List Oper) (o:Oper) (U:Nat->AV) (A:AH) (k:AV->AH->Bool):Bool :=
 @Option.rec (Nat × Bool) (fun _=>Bool) (dA T Tb U A o.op k) (fun g=>gdK (CD l.toArray U g.1) g.2 (fun k'=>dA T Tb U A o.op k') A k) o.guard
abbrev onO (l:List Oper) (i:Nat) (k:Oper->Bool):Bool:=@Option.rec Oper (fun _=>Bool) false k l[i]?
abbrev TZ (o:Oper):Bool:=match o.op,o.guard,o.dst with
 | .store _ _ _,none,none=>true
 | _,_,_=>false
abbrev stP (U:Nat->AV) (o:Oper):AV:=match o.op with
 | .store _ p _=>ev U p
 | _=>.u
def dsj (A:AH) (p q:AV) (x:Bool):Bool:=p.yd (fun i _=>q.yd (fun j _=>ifB (Fa i j) false ((A.get i).zl (fun _ _ _=>(A.get j).zl (fun _ _ _=>x) false) false)) false) false
abbrev Kq (T:TR) (Tb:FT) (l:List Oper) (i:Nat) (U:Nat->AV) (A:AH) (alt:Plan) (x:Bool):Bool :=
 @Plan.rec (fun _=>Bool) x x (fun _ _ _ _=>false) (fun _ _ _=>false) (fun _ _ _=>false)
  (fun j _ _ _ ih=>onO l j fun o=>onO l i fun oi=>@Bool.rec (fun _=>Bool) (@Bool.rec (fun _=>Bool) false (dsj A (stP U oi) (stP U o) ih) (TZ o)) (dA T Tb U A o.op fun _ _=>ih) (EO o))
  (fun _ _ _=>false) (fun _ _ _=>false) alt
def eqP:Plan->Plan->Bool
 | .fin,.fin=>true
 | .non,.non=>true
 | .look i f p,.look j g q=>i == j && f == g && eqP p q
 | .lookx i p,.lookx j q=>i == j && eqP p q
 | .lookp i p,.lookp j q=>i == j && eqP p q
 | .act i p a,.act j q b=>i == j && eqP p q && eqP a b
 | .actd i p,.actd j q=>i == j && eqP p q
 | .acth i p,.acth j q=>i == j && eqP p q
 | _,_=>false
theorem DR:∀ (p q:Plan),eqP p q=true->p=q
 | .fin,q,h=>by cases q <;> first | rfl | cases h
 | .non,q,h=>by cases q <;> first | rfl | cases h
 | .look i f p,q,h=>by
  cases q with
  | look j g q=>simp only [eqP,Jd,beq_iff_eq] at h; rw [h.1.1,h.1.2,DR p q h.2]
  | _=>cases h
 | .lookx i p,q,h=>by
  cases q with
  | lookx j q=>simp only [eqP,Jd,beq_iff_eq] at h; rw [h.1,DR p q h.2]
  | _=>cases h
 | .lookp i p,q,h=>by
  cases q with
  | lookp j q=>simp only [eqP,Jd,beq_iff_eq] at h; rw [h.1,DR p q h.2]
  | _=>cases h
 | .act i p a,q,h=>by
  cases q with
  | act j q b=>simp only [eqP,Jd,beq_iff_eq] at h; rw [h.1.1,DR p q h.1.2,DR a b h.2]
  | _=>cases h
 | .actd i p,q,h=>by
  cases q with
  | actd j q=>simp only [eqP,Jd,beq_iff_eq] at h; rw [h.1,DR p q h.2]
  | _=>cases h
 | .acth i p,q,h=>by
  cases q with
  | acth j q=>simp only [eqP,Jd,beq_iff_eq] at h; rw [h.1,DR p q h.2]
  | _=>cases h
def adv:Plan->List Nat->Plan × List Nat
 | .act j p a,D=>if D.contains j then adv p (D.filter (· != j)) else (.act j p a,D)
 | p,D=>(p,D)
def Io (l:List Oper) (i:Nat) (D:List Nat):Bool:=D.all fun j=>!BX l i j
def T2 (l:List Oper) (i:Nat):Bool:=match l[i]? with
 | some o=>TZ o
 | none=>false
def FJ (b:Bool) (q pc:Plan) (D:List Nat):Bool:=b && D.isEmpty && eqP q pc
def Il (l:List Oper):Plan->Bool->Plan->List Nat->Bool
 | .fin,b,pc,D=>FJ b .fin (adv pc D).1 (adv pc D).2
 | .non,b,_,_=>!b
 | .look i f q,b,pc,D=>FJ b (.look i f q) (adv pc D).1 (adv pc D).2 || (!f && match (adv pc D).1 with
  | .look j g p=>j == i && !g && Io l i (adv pc D).2 && Il l q true p (adv pc D).2
  | _=>false)
 | .lookx i q,b,pc,D=>FJ b (.lookx i q) (adv pc D).1 (adv pc D).2 || (match (adv pc D).1 with
  | .lookx j p=>j == i && Io l i (adv pc D).2 && Il l q true p (adv pc D).2
  | _=>false)
 | .lookp i q,b,pc,D=>FJ b (.lookp i q) (adv pc D).1 (adv pc D).2 || (match (adv pc D).1 with
  | .lookp j p=>j == i && Io l i (adv pc D).2 && Il l q true p (adv pc D).2
  | _=>false)
 | .act i q alt,b,pc,D=>FJ b (.act i q alt) (adv pc D).1 (adv pc D).2 || ((match (adv pc D).1 with
  | .act j p altc=>(i == j && Io l i (adv pc D).2 && Il l q true p (adv pc D).2) ||
    (altc.idxs.contains i && KE l i && !(adv pc D).2.contains i && Io l i (adv pc D).2 && Il l q true (.act j p altc) (i :: (adv pc D).2))
  | _=>false) && Il l alt false (adv pc D).1 (adv pc D).2)
 | .actd i q,b,pc,D=>FJ b (.actd i q) (adv pc D).1 (adv pc D).2
 | .acth i q,b,pc,D=>FJ b (.acth i q) (adv pc D).1 (adv pc D).2
def Vu (l:List Oper) (i:Nat) (p alt:Plan):Bool:=match p,alt with
 | .act j q .non,.act j' (.act i' q' .non) .non=>j == j' && i == i' && eqP q q' && T2 l i && T2 l j
 | _,_=>false
def YR (l:List Oper) (i:Nat) (p alt:Plan):Bool:=eqP alt .non || Il l alt false (.act i p alt) [] || Vu l i p alt
def FH (l:List Oper):Plan->Bool->Bool
 | .look _ _ p,_=>FH l p true
 | .lookx _ p,_=>FH l p true
 | .lookp _ p,_=>FH l p true
 | .act i p alt,b=>(!b || YR l i p alt) && FH l p true && FH l alt false
 | .actd _ p,_=>FH l p true
 | .acth _ p,_=>FH l p true
 | .fin,_=>true
 | .non,_=>true
def psz:Plan->Nat
 | .look _ _ p=>psz p + 1
 | .lookx _ p=>psz p + 1
 | .lookp _ p=>psz p + 1
 | .act _ p a=>psz p + psz a + 1
 | .actd _ p=>psz p + 1
 | .acth _ p=>psz p + 1
 | .fin=>0
 | .non=>0
def IP (l:List Oper) (p:Plan):Bool:=DS l p && FH l p true
abbrev Gp (o:Oper) (hd:HD) (A:AH) (x:Bool):Bool:=@Bool.rec (fun _=>Bool) (OO hd A x) x (EO o)
abbrev FI (T:TR) (Tb:FT) (l:List Oper) (p:Plan):Bool->HD->(Nat->AV)->AH->Kt->Bool :=
 @Plan.rec (fun _=>Bool->HD->(Nat->AV)->AH->Kt->Bool)
  (fun _ _ U A k=>k U A)
  (fun _ _ _ _ _=>false)
  (fun i f _ ih op hd U A k=>onO l i fun o=>@Bool.rec (fun _=>Bool) (lkH T l o op hd U A fun hd v=>ih op hd (Cs U o.dst v) A k) (lkT T l o U A fun v=>ih op hd (Cs U o.dst v) A k) f)
  (fun i _ ih op hd U A k=>onO l i fun o=>lkX T l o U A fun v=>ih op hd (Cs U o.dst v) A k)
  (fun i _ ih op hd U A k=>onO l i fun o=>lkP Tb o U fun v=>ih op hd (Cs U o.dst v) A k)
  (fun i _ alt ih _ _ hd U A k=>Kq T Tb l i U A alt (onO l i fun o=>Gr T Tb l o U A fun v A=>Gp o hd A (ih true hd (Cs U o.dst v) A k)))
  (fun _ _ _ _ _ _ _ _=>false)
  (fun i _ ih _ _ U A k=>onO l i fun o=>Gr T Tb l o U A fun v A=>ih true [] (Cs U o.dst v) A k) p
abbrev j0q (T:TR) (Tb:FT) (l:List Oper) (p:Plan) (U:Nat->AV) (A:AH) (k:Kt):Bool:=FI T Tb l p true [] U A k
def KOK (σ:Nat->Value) (F:Nat->Option Obj) (D:List Deferred) (φ0:Phi) (k:Kt) (R:En->A3->Prop):Prop :=
 ∀ φ A U e H,φ0.le φ->Rel σ F φ A H->ENV σ φ D U e->k U A=true->R e H
theorem KOK.mono {D:List Deferred} {φ φ':Phi} {k:Kt} {R:En->A3->Prop} (h:KOK σ F D φ k R) (hl:φ.le φ'):KOK σ F D φ' k R :=
 fun ψ A U e H h1 h2 h3 h4=>h ψ A U e H (hl.trans h1) h2 h3 h4
def B8 (n:Nat) (l:List Oper):Bool:=l.all fun o=>Dg n o.dst
section
variable {T:TR} {Tb:FT} {l:List Oper} {D:List Deferred} {n:Nat} {Q:Exit->En->A3->Prop} {k:Kt}
theorem CM {i:Nat} {k:Oper->Bool} (h:onO l i k=true):∃ o,l[i]?=some o/\k o=true:=by
 unfold onO at h;cases hl:l[i]? with
 | none=>rw [hl] at h; cases h
 | some o=>rw [hl] at h; exact ⟨o,rfl,h⟩
theorem L4 {o:Oper} {e:En} {r:Value} {K:En->A3->Prop} (hq:isQ o.op=true) (h:opQ P (AI H) e.ev o.op=some r) (hk:K (e.put n o.dst r) H):opV n P o e H K Q:=by
 obtain ⟨dst,op,type,pos,after,guard⟩:=o;have hs:AQ (opQ P (AI H) e.ev op) fun v=>K (e.put n dst v) H:=by
  have h:opQ P (AI H) e.ev op=some r:=h;rw [h]; exact hk
 cases op with
 | call c =>
  obtain ⟨cal,args,ats⟩:=c;cases cal with
  | builtin b=>cases b <;> first | exact hs | cases hq
  | _=>cases hq
 | _=>first | exact hs | cases hq
theorem WX (hT:Bl P T) (hr:Rel σ F φ A H) {U:Nat->AV} {e:En} (he:ER σ φ U e) {o:Oper} {kk:AV->Bool} (hq:isQ o.op=true) (h:lkT T l o U A kk=true) :
  ∃ v r,VR σ φ v r/\kk v=true/\∀ K:En->A3->Prop,K (e.put n o.dst r) H->opG n P l.toArray o e H K Q:=by
 cases hg:o.guard with
 | none =>
  have h:qA T U A o.op kk=true:=(by unfold lkT at h; rw [hg] at h; exact h);obtain ⟨v,r,h1,h2,h3⟩:=N2 hT hr he h;refine ⟨v,r,h2,h3,fun K hK=>?_⟩;unfold opG;rw [hg];exact L4 hq h1 hK
 | some g =>
  obtain ⟨j,want⟩:=g;have h:gdQ (CD l.toArray U j) want (fun k'=>qA T U A o.op k') kk=true:=(by unfold lkT at h; rw [hg] at h; exact h);have hs:=DX (ops:=l.toArray) he j;have key:∃ v r,VR σ φ v r/\kk v=true/\∀ K:En->A3->Prop,K (e.put n o.dst r) H->BO (AZ l.toArray e j) want (opV n P o e H K Q) (K (e.put n o.dst undef) H):=by
   generalize CD l.toArray U j=c at h hs;generalize AZ l.toArray e j=w at hs ⊢;cases c with
   | b x =>
    simp only [VR] at hs;subst hs;replace h:@Bool.rec (fun _=>Bool) (kk Bz) (qA T U A o.op kk) (eqB x want)=true:=h;cases hb:eqB x want with
    | true =>
     rw [hb] at h;obtain ⟨v,r,h1,h2,h3⟩:=N2 hT hr he h;refine ⟨v,r,h2,h3,fun K hK=>⟨fun _=>L4 hq h1 hK,fun hx=>?_⟩⟩;subst hx;cases want <;> cases hb
    | false =>
     rw [hb] at h;refine ⟨Bz,undef,BS,h,fun K hK=>⟨fun hx=>?_,fun _=>hK⟩⟩;subst hx;cases x <;> cases hb
   | t lx =>
    simp only [VR] at hs;obtain ⟨c,rfl,_⟩:=hs;exact ⟨Bz,undef,BS,h,fun K hK=>hK⟩
   | _=>cases h
  obtain ⟨v,r,h1,h2,h3⟩:=key;refine ⟨v,r,h1,h2,fun K hK=>?_⟩;unfold opG;rw [hg];exact h3 K hK
theorem Ext.loadA {H':A3} (hE:Ext H H') {t:TypeId} {a:Addr} {r:Value} (h:loadA P (AI H) t a=some r):loadA P (AI H') t a=some r:=by
 unfold HL.loadA at h ⊢;split at h
 ·exact hE.cell h
 ·rename_i n _;cases hc:Ay (AI H).cells a 0 n with
  | none=>simp [hc] at h
  | some l=>rw [show Ay (AI H').cells a 0 n=some l from Eb (fun _ _ x=>hE.cell x) n 0 l hc]; simpa [hc] using h
 ·simp at h
theorem TQ {t kt et g0:Nat} {mv key zero:AV} {wm wk z:Value} {ok:Bool} {k:AV->Bool} (h:Rel σ F φ A H) (ht:P.underlying t=some (.map kt et)) (hkc:KC P g0 kt) (hz:AD P et=some z) (hzv:VR σ φ zero z)
  (hm:VR σ φ mv wm) (hk:VR σ φ key wk) (hr:WW A g0 mv key zero ok k=true):∃ v r,(∀ H',Ext H H'->Ac P (Instr.lookup t wm wk ok) H'=some r)/\VR σ φ v r/\k v=true:=by
 obtain ⟨i,e,rfl,he,rfl,hr⟩:=Dv hm hr
 obtain ⟨g,n,m,es,c,h1,h2,h3,hr⟩:=h.map he hr
 obtain ⟨hg0,hr1⟩:=Ab hr
 clear hr
 have hg0:=J9 hg0
 subst hg0
 obtain ⟨h4,hr⟩:=Ab hr1
 clear hr1
 obtain ⟨h5,h6⟩:=GR hk h4
 have run:∀ H',Ext H H'->∀ o,Ac P (Instr.findKey kt wk es.toList) H'=some o->∀ r,(∀ (x:Value) (b:Bool),(o=none/\x=z/\b=false\/∃ j,o=some (j,x)/\b=true)->r=if ok then .tuple #[x,.bool b] else x)->Ac P (Instr.lookup t (.map (some e.r)) wk ok) H'=some r:=by
  intro H' hE o ho r hrr;unfold Instr.lookup;rw [A4,A6 ht,J0];simp only;rw [A4,Bg (hE _ _ h2),J0];simp only;rw [A4,show Ac P (pure es:Sem (Array MapEntry)) H'=some es from rfl,J0,A4,DI hkc h5 h6,J0,A4,ho,J0];cases o with
  | none =>
   simp only;rw [A4,AF hz,J0];rw [hrr z false (.inl ⟨rfl,rfl,rfl⟩)];cases ok <;> rfl
  | some p =>
   obtain ⟨j,x⟩:=p;rw [hrr x true (.inr ⟨j,rfl,rfl⟩)];cases ok <;> rfl
 rcases h3.find h5 hr with ⟨x,a,j,h7,h8,h9,hr⟩ | ⟨h7,hr⟩
 ·obtain ⟨v,h10,h11⟩:=IA h9 hr
  refine ⟨v,_,fun H' hE=>?_,h10,h11⟩
  obtain ⟨o,ho,hf⟩:=DA (H:=H') hkc h5 h6 h3.cls
  refine run H' hE o ho _ ?_
  have ho:=hf.at h3.nodup h7 h8
  rintro x b (⟨h,_⟩ | ⟨j',h,rfl⟩)
  ·rw [ho] at h; cases h
  ·rw [ho] at h; cases h; rfl
 ·obtain ⟨v,h10,h11⟩:=IA hzv hr
  refine ⟨v,_,fun H' hE=>?_,h10,h11⟩
  obtain ⟨o,ho,hf⟩:=DA (H:=H') hkc h5 h6 h3.cls
  refine run H' hE o ho _ ?_
  have ho:=hf.not h7
  rintro x b (⟨h,rfl,rfl⟩ | ⟨j',h,rfl⟩)
  ·rfl
  ·rw [ho] at h; cases h
theorem SZ {s d e:Nat} {x:AV} {w:Value} {k:AV->Bool} (h:Rel σ F φ A H) (hs:P.underlying s=some (.slice e)) (he:P.underlying e=some (.int .u8)) (hd:P.underlying d=some .string) (hx:VR σ φ x w) (hk:PT A x k=true) :
  ∃ v r,(∀ H',Ext H H'->CS P (AI H') s d w=some r)/\VR σ φ v r/\k v=true:=by
 have go:∀ (H':A3) (r:List Nat),Ac P (Conv.bytesToString w) H'=some (.string (Bb r))->(∀ b n c,w=.slice b n c->CS P (AI H') s d w=some (.string (Bb r))):=by
  rintro H' r hr b n c rfl;show Ac P (convert s d _) H'=_;unfold convert;rw [A4,A6 hs,J0,A4,A6 hd,J0];show Ac P (do match <- underlying e with
   | .int .u8=>Conv.bytesToString (.slice b n c)
   | .int .i32=>Conv.runesToString (.slice b n c)
   | _=>stuck "Convert: a slice of what to string?") H'=_
  rw [A4,A6 he,J0];exact hr
 unfold PT at hk
 rcases AV.zw x (fun _ _ len _ _ _=>O6 A x 1 len fun l=>I4 l fun r=>k (.s r)) (Dx x (k (.s []))) with ⟨i,o,len,cap,z,ex,rfl,e'⟩ | e'
 ·rw [e'] at hk
  have hx0:=hx
  simp only [VR] at hx
  obtain ⟨en,y,c',g1,rfl,g3,g4,g5,g6,g7⟩:=hx
  obtain ⟨l,ws,h1,h2,h3,hk⟩:=LB h hx0 (Jb _) hk
  obtain ⟨r,h4,h5,h6⟩:=I3 l ws _ h2 hk
  refine ⟨_,_,fun H' hE=>go H' r ?_ _ _ _ rfl,Gs h5,h4⟩
  have h1':AR H' 1 len (.slice (some ⟨en.r,y,none⟩) len c')=some ws:=by
   simp only [AR] at h1 ⊢;exact Eb (fun _ _ x=>hE.cell x) _ _ _ h1
  unfold Conv.bytesToString
  simp only
  have hl:Ac P (loadCells ⟨en.r,y,none⟩ len) H'=some ws.toArray:=by
   have:=B7 (P:=P) h1';rw [show Builtin.firstCells 1 len (.slice (some ⟨en.r,y,none⟩) len c')=loadCells ⟨en.r,y,none⟩ (len * 1) from rfl,Jy] at this;exact this
  rw [A4,hl,J0,A4,W7,h6]
  rw [Hr (P:=P) (H:=H') (fun x s=>by simp) r ByteArray.empty]
  show some (Value.string ⟨#[] ++ (r.map UInt8.ofNat).toArray⟩)=some (Value.string ⟨(r.map UInt8.ofNat).toArray⟩)
  simp
 ·rw [e'] at hk
  obtain ⟨rfl,hk⟩:=GO hx hk
  exact ⟨_,_,fun H' hE=>go H' [] rfl _ _ _ rfl,Gs (by simp),hk⟩
theorem RV (hTb:TOK P Tb) {U:Nat->AV} {e:En} (he:ER σ φ U e) {o:Oper} {kk:AV->Bool} (h:lkP Tb o U kk=true) :
  ∃ v r,VR σ φ v r/\kk v=true/\isQ o.op=false/\NZ n P l o e r:=by
 obtain ⟨dst,op,type,pos,after,guard⟩:=o
 unfold lkP at h
 simp only at h
 split at h
 ·rename_i f args ats
  obtain ⟨fe,hp,h⟩:=QQ hTb h
  obtain ⟨v,w,h1,h2,h3⟩:=hp σ φ _ _ kk (Gl he args.toList) h
  refine ⟨v,w,h1,h2,rfl,fun H=>?_⟩
  unfold opG
  show EJ P (e.ev (.func f)) (args.toList.map e.ev) H _ _
  show CallF P f ([] ++ args.toList.map e.ev ++ []) H _ _
  simp only [X1,Xd]
  exact (h3 H).mono (fun r H' hx=>by obtain ⟨rfl,rfl⟩:=hx; exact ⟨rfl,rfl⟩) (fun _ _ x=>x.elim)
 ·cases h
theorem UI (hT:Bl P T) (hr:Rel σ F φ A H) {U:Nat->AV} {e:En} (he:ER σ φ U e) {op:Op} {kk:AV->Bool} (h:xA T U A op kk=true):∃ v r,(∀ H',Ext H H'->opQ P (AI H') e.ev op=some r)/\VR σ φ v r/\kk v=true:=by
 unfold xA at h;split at h
 ·rename_i t p;obtain ⟨a,v,r,h1,h2,h3,h4⟩:=OA hT hr (Ah he p) h;refine ⟨v,r,fun H' hE=>?_,h3,h4⟩;show FQ P (AI H') t (e.ev p)=_;rw [h1]; exact hE.loadA h2
 ·rename_i t m key ok;obtain ⟨i,hi,h⟩:=Ad hT h;obtain ⟨d,hu,hd⟩:=hi.kind;split at h
  ·rename_i kt et hk;obtain ⟨g,hg,h⟩:=DE hT h;obtain ⟨j,hj,h⟩:=Ad hT h;have hzv:=hj.zv;cases hz:AD P et with
   | none=>rw [hz] at hzv; cases hzv
   | some z =>
    rw [hz] at hzv;have hzv:cv1 z=j.zv:=Jj hzv;exact TQ hr (F0 hu (hd.trans hk)) hg hz (hzv ▸ Kh z) (Ah he m) (Ah he key) h
  ·cases h
 ·rename_i s d x;obtain ⟨i,hi,h⟩:=Ad hT h;obtain ⟨j,hj,h⟩:=Ad hT h;obtain ⟨d1,hu1,hd1⟩:=hi.kind;obtain ⟨d2,hu2,hd2⟩:=hj.kind;split at h
  ·rename_i el h1 h2;obtain ⟨l,hl,h⟩:=Ad hT h;obtain ⟨d3,hu3,hd3⟩:=hl.kind;split at h
   ·rename_i h3;have e3:d3=.int .u8:=(by rw [h3] at hd3; cases d3 <;> simp [BZ] at hd3; subst hd3; rfl);subst e3;exact SZ hr (B6 hu1 (hd1.trans h1) hl).2.2 hu3 (Eg hu2 (hd2.trans h2)) (Ah he x) h
   ·cases h
  ·cases h
 ·cases h
theorem RU (hT:Bl P T) (hr:Rel σ F φ A H) {U:Nat->AV} {e:En} (he:ER σ φ U e) {o:Oper} {kk:AV->Bool} (h:lkX T l o U A kk=true) :
  ∃ v r,VR σ φ v r/\kk v=true/\∀ H',Ext H H'->CY P (AI H') l o e=some r:=by
 unfold CY
 cases hg:o.guard with
 | none =>
  have h:xA T U A o.op kk=true:=(by unfold lkX at h; rw [hg] at h; exact h);obtain ⟨v,r,h1,h2,h3⟩:=UI hT hr he h;exact ⟨v,r,h2,h3,h1⟩
 | some g =>
  obtain ⟨j,want⟩:=g;have h:gdQ (CD l.toArray U j) want (fun k'=>xA T U A o.op k') kk=true:=(by unfold lkX at h; rw [hg] at h; exact h);have hs:=DX (ops:=l.toArray) he j;simp only;generalize CD l.toArray U j=c at h hs;generalize AZ l.toArray e j=w at hs ⊢;cases c with
  | b x =>
   simp only [VR] at hs;subst hs;replace h:@Bool.rec (fun _=>Bool) (kk Bz) (xA T U A o.op kk) (eqB x want)=true:=h;cases hb:eqB x want with
   | true =>
    rw [hb] at h;have hx:x=want:=by cases x <;> cases want <;> first | rfl | cases hb
    obtain ⟨v,r,h1,h2,h3⟩:=UI hT hr he h;refine ⟨v,r,h2,h3,fun H' hE=>?_⟩;rw [J8 (by simp [BV,hx])]; exact h1 H' hE
   | false =>
    rw [hb] at h;have hx:x ≠ want:=(by rintro rfl; cases x <;> cases hb);refine ⟨Bz,undef,BS,h,fun H' hE=>?_⟩;rw [J4 (by simpa [BV] using hx)]
  | t lx =>
   simp only [VR] at hs;obtain ⟨c,rfl,_⟩:=hs;refine ⟨Bz,undef,BS,h,fun H' hE=>?_⟩;rw [J4 (by simp [BV])]
  | _=>cases h
theorem PN (hT:Bl P T) (hTb:TOK P Tb) (hr:Rel σ F φ A H) {U:Nat->AV} {e:En} (he:ER σ φ U e) {o:Oper} {kk:AV->AH->Bool} {K:En->A3->Prop} (h:Gr T Tb l o U A kk=true)
  (hk:O1 σ F φ kk fun w H'=>K (e.put n o.dst w) H'):opG n P l.toArray o e H K Q:=by
 unfold opG
 cases hg:o.guard with
 | none =>
  have h:dA T Tb U A o.op kk=true:=(by unfold Gr at h; rw [hg] at h; exact h);exact UX hT hTb hr he h hk
 | some g =>
  obtain ⟨j,want⟩:=g;have h:gdK (CD l.toArray U j) want (fun k'=>dA T Tb U A o.op k') A kk=true:=(by unfold Gr at h; rw [hg] at h; exact h);exact Le (DX he j) h (fun h=>UX hT hTb hr he h hk) (fun h=>hk _ _ _ _ _ φ.le_refl hr BS h)
def LF (P:Program) (n:Nat) (l:List Oper) (o:Oper) (e:En) (r:Value) (hl:List (Addr × Value)):Prop:=∀ K:En->Prop,K (e.put n o.dst r)->Im P n hl l o e K
theorem WY (hT:Bl P T) (hr:Rel σ F φ A H) {U:Nat->AV} {e:En} (he:ER σ φ U e) {o:Oper} {kk:AV->Bool} (h:lkF T l o U kk=true) :
  ∃ v r,VR σ φ v r/\kk v=true/\∀ hl,LF P n l o e r hl:=by
 cases hg:o.guard with
 | none =>
  have h:pA T U o.op kk=true:=(by unfold lkF at h; rw [hg] at h; exact h);obtain ⟨v,r,h1,h2,h3⟩:=UO hT hr he h;refine ⟨v,r,h2,h3,fun hl K hK=>?_⟩;unfold Im;rw [hg];show AQ (opQ P (held hl) e.ev o.op) _;rw [h1];exact hK
 | some g =>
  obtain ⟨j,want⟩:=g;have h:gdQ (CD l.toArray U j) want (fun k'=>pA T U o.op k') kk=true:=(by unfold lkF at h; rw [hg] at h; exact h);have hs:=DX (ops:=l.toArray) he j;have key:(∃ v r,VR σ φ v r/\kk v=true/\(∀ hl (K:En->Prop),K (e.put n o.dst r)->BO (AZ l.toArray e j) want (AQ (opQ P (held hl) e.ev o.op) fun v=>K (e.put n o.dst v)) (K (e.put n o.dst undef)))):=by
   generalize CD l.toArray U j=c at h hs;generalize AZ l.toArray e j=w at hs ⊢;cases c with
   | b x =>
    simp only [VR] at hs;subst hs;replace h:@Bool.rec (fun _=>Bool) (kk Bz) (pA T U o.op kk) (eqB x want)=true:=h;cases hb:eqB x want with
    | true =>
     rw [hb] at h;obtain ⟨v,r,h1,h2,h3⟩:=UO hT hr he h;refine ⟨v,r,h2,h3,fun hl K hK=>⟨fun _=>by rw [h1]; exact hK,fun hx=>?_⟩⟩;subst hx;cases want <;> cases hb
    | false =>
     rw [hb] at h;refine ⟨Bz,undef,BS,h,fun hl K hK=>⟨fun hx=>?_,fun _=>hK⟩⟩;subst hx;cases x <;> cases hb
   | t lx =>
    simp only [VR] at hs;obtain ⟨c,rfl,_⟩:=hs;exact ⟨Bz,undef,BS,h,fun hl K hK=>hK⟩
   | _=>cases h
  obtain ⟨v,r,h1,h2,h3⟩:=key;refine ⟨v,r,h1,h2,fun hl K hK=>?_⟩;unfold Im;rw [hg];exact h3 hl K hK
theorem LF.look {o:Oper} {e:En} {r:Value} {hl:List (Addr × Value)} (h:LF P n l o e r hl):∃ v,LookH P l (Al hl) o e v/\e.put n o.dst v=e.put n o.dst r:=by
 obtain ⟨v,h1,h2⟩:=F7 (h (fun e1=>e1=e.put n o.dst r) rfl);exact ⟨v,fun H hh=>⟨held hl,HK hh,h1⟩,h2⟩
def Only (hd:HD) (φ:Phi) (hl:List (Addr × Value)):Prop:=∀ a w,Ak hl a=some w->∃ x ∈ hd,∃ e,φ x.1=some e/\a=⟨e.r,e.s + x.2.1,none⟩
theorem NY {r x j:Nat}:(⟨r,x,none⟩:Addr).add j=⟨r,x + j,none⟩:=by
 unfold Addr.add;split
 ·rename_i h; subst h; rfl
 ·rfl
theorem S4 {hd:HD} {hl:List (Addr × Value)} {i:Id} {o:Nat} {v:AV} {en:Ent} {r:Value} (hh:HDR σ φ hd hl) (ho:Al hl H) (h1:φ i=some en) (h3:A5 H ⟨en.r,en.s + o,none⟩=some r) (h4:VR σ φ v r) :
  (∀ a w,Ak hl a=some w->Ak ((⟨en.r,en.s + o,none⟩,r) :: hl) a=some w)/\Al ((⟨en.r,en.s + o,none⟩,r) :: hl) H/\HDR σ φ ((i,o,v) :: hd) ((⟨en.r,en.s + o,none⟩,r) :: hl) /\
   ((∀ a w,Ak hl a=some w->∃ x ∈ hd,∃ e,φ x.1=some e/\a=⟨e.r,e.s + x.2.1,none⟩)->∀ a w,Ak ((⟨en.r,en.s + o,none⟩,r) :: hl) a=some w->∃ x ∈ ((i,o,v) :: hd:HD),∃ e,φ x.1=some e/\a=⟨e.r,e.s + x.2.1,none⟩)/\Ak ((⟨en.r,en.s + o,none⟩,r) :: hl) ⟨en.r,en.s + o,none⟩=some r:=by
 have ext:∀ a w,Ak hl a=some w->Ak ((⟨en.r,en.s + o,none⟩,r) :: hl) a=some w:=by
  intro a w hw;unfold Ak;split
  ·rename_i hx;simp only at hx;have:=ho a w hw;rw [<- hx,h3] at this;exact this
  ·exact hw
 refine ⟨ext,?_,?_,fun hO=>?_,by simp [Ak]⟩
 ·intro a w hw
  unfold Ak at hw
  split at hw
  ·rename_i hx
   simp only at hx hw
   rw [<- hx,h3]; exact hw
  ·exact ho a w hw
 ·intro x hx
  rcases J7.1 hx with rfl | hx
  ·exact ⟨en,r,h1,by simp [Ak],h4⟩
  ·obtain ⟨e',w,a1,a2,a3⟩:=hh x hx
   exact ⟨e',w,a1,ext _ _ a2,a3⟩
 ·intro a w hw
  unfold Ak at hw
  split at hw
  ·rename_i hx
   simp only at hx
   exact ⟨(i,o,v),by simp,en,h1,hx.symm⟩
  ·obtain ⟨x,hx,rest⟩:=hO a w hw
   exact ⟨x,by simp [hx],rest⟩
theorem j2b {i:Id} {o:Nat} {en:Ent} {k:Id->Nat->AV->Bool} (h:Rel σ F φ A H) (h1:φ i=some en) (hk:ldO A (.p i o) k=true):∃ v r,A5 H ⟨en.r,en.s + o,none⟩=some r/\VR σ φ v r/\k i o v=true:=by
 have hk:(A.get i).zl (fun _ len t=>ifB (Nat.blt o len) (k i o (t.get o)) false) false=true:=hk;rcases AB.zm (A.get i) (fun _ len t=>ifB (Nat.blt o len) (k i o (t.get o)) false) false with ⟨ro,len,t,hg,e'⟩ | e'
 ·rw [e'] at hk;obtain ⟨h2,hk⟩:=Ab hk;obtain ⟨e2,r,h3,h4,h5⟩:=h.cell hg (Cd h2);rw [h1] at h3;cases h3
  exact ⟨_,r,h4,h5,hk⟩
 ·rw [e'] at hk; cases hk
theorem U4 {p:AV} {w:Value} {n:Nat} {hd:HD} {hl:List (Addr × Value)} {k:HD->List AV->Bool} (hr:Rel σ F φ A H) (hh:HDR σ φ hd hl) (ho:Al hl H) (hp:VR σ φ p w) (hk:j2l A p n hd k=true) :
  ∃ a hd' hl' l ws,w=.pointer (some a)/\(∀ a w,Ak hl a=some w->Ak hl' a=some w)/\Al hl' H/\HDR σ φ hd' hl' /\
   ((∀ a w,Ak hl a=some w->∃ x ∈ hd,∃ e,φ x.1=some e/\a=⟨e.r,e.s + x.2.1,none⟩)->∀ a w,Ak hl' a=some w->∃ x ∈ hd',∃ e,φ x.1=some e/\a=⟨e.r,e.s + x.2.1,none⟩)/\VRl σ φ l ws/\k hd' l=true/\Ay (Ak hl') a 0 n=some ws:=by
 obtain ⟨i,o,en,rfl,h1,rfl,hk2⟩:=Cc hp hk
 clear hk hp
 suffices key:∀ (n j:Nat) (hd:HD) (hl:List (Addr × Value)) (k:HD->List AV->Bool),HDR σ φ hd hl->Al hl H ->
   @Nat.rec (fun _=>Nat->HD->(HD->List AV->Bool)->Bool) (fun _ hd k=>k hd []) (fun _ ih o hd k=>ldO A (.p i o) fun i' o' v=>ih (Nat.succ o) ((i',o',v) :: hd) fun hd l=>k hd (v :: l)) n (o + j) hd k=true ->
   ∃ hd' hl' l ws,(∀ a w,Ak hl a=some w->Ak hl' a=some w)/\Al hl' H/\HDR σ φ hd' hl' /\
   ((∀ a w,Ak hl a=some w->∃ x ∈ hd,∃ e,φ x.1=some e/\a=⟨e.r,e.s + x.2.1,none⟩)->∀ a w,Ak hl' a=some w->∃ x ∈ hd',∃ e,φ x.1=some e/\a=⟨e.r,e.s + x.2.1,none⟩)/\VRl σ φ l ws/\k hd' l=true/\Ay (Ak hl') ⟨en.r,en.s + o,none⟩ j n=some ws by
  obtain ⟨hd',hl',l,ws,rest⟩:=key n 0 hd hl k hh ho hk2
  exact ⟨_,hd',hl',l,ws,rfl,rest⟩
 intro n
 induction n with
 | zero=>intro j hd hl k hh ho hk; exact ⟨hd,hl,[],[],fun _ _ x=>x,ho,hh,fun x=>x,by simp [VRl],hk,rfl⟩
 | succ n ih =>
  intro j hd hl k hh ho hk;have hk:ldO A (.p i (o + j)) (fun i' o' v=>@Nat.rec (fun _=>Nat->HD->(HD->List AV->Bool)->Bool) (fun _ hd k=>k hd []) (fun _ ih o hd k=>ldO A (.p i o) fun i' o' v=>ih (Nat.succ o) ((i',o',v) :: hd) fun hd l=>k hd (v :: l)) n (Nat.succ (o + j)) ((i',o',v) :: hd) fun hd l=>k hd (v :: l))=true:=hk;obtain ⟨v,r,a3,a4,a5⟩:=j2b hr h1 hk;obtain ⟨c1,c2,c3,c4,c5⟩:=S4 hh ho h1 a3 a4;obtain ⟨hd',hl',l,ws,d1,d2,d3,d4,d5,d6,d7⟩:=ih (j + 1) _ _ _ c3 c2 a5;refine ⟨hd',hl',v :: l,r :: ws,fun a w hw=>d1 _ _ (c1 _ _ hw),d2,d3,fun hO=>d4 (c4 hO),by simp only [VRl]; exact ⟨r,ws,rfl,a4,d5⟩,d6,?_⟩;show (Ak hl' ((⟨en.r,en.s + o,none⟩:Addr).add j)).bind _=_;rw [NY,Zs,d1 _ _ c5,J0,d7];rfl
theorem Ua {p:AV} {w:Value} {n:Nat} {hd:HD} {hl:List (Addr × Value)} {k:List AV->Bool} (hh:HDR σ φ hd hl) (hp:VR σ φ p w) (hk:j2s hd p n k=true) :
  ∃ a l ws,w=.pointer (some a)/\Ay (Ak hl) a 0 n=some ws/\VRl σ φ l ws/\k l=true:=by
 obtain ⟨i,o,en,rfl,h1,rfl,hk2⟩:=Cc hp hk
 clear hk hp
 suffices key:∀ (n j:Nat) (k:List AV->Bool),
   @Nat.rec (fun _=>Nat->(List AV->Bool)->Bool) (fun _ k=>k []) (fun _ ih o k=>Qx hd (.p i o) fun v=>ih (Nat.succ o) fun l=>k (v :: l)) n (o + j) k=true ->
   ∃ l ws,Ay (Ak hl) ⟨en.r,en.s + o,none⟩ j n=some ws/\VRl σ φ l ws/\k l=true by
  obtain ⟨l,ws,rest⟩:=key n 0 k hk2
  exact ⟨_,l,ws,rfl,rest⟩
 intro n
 induction n with
 | zero=>intro j k hk; exact ⟨[],[],rfl,by simp [VRl],hk⟩
 | succ n ih =>
  intro j k hk;have hk:Qx hd (.p i (o + j)) (fun v=>@Nat.rec (fun _=>Nat->(List AV->Bool)->Bool) (fun _ k=>k []) (fun _ ih o k=>Qx hd (.p i o) fun v=>ih (Nat.succ o) fun l=>k (v :: l)) n (Nat.succ (o + j)) fun l=>k (v :: l))=true:=hk;have hp:VR σ φ (.p i (o + j)) (.pointer (some ⟨en.r,en.s + (o + j),none⟩)):=(by simp only [VR]; exact ⟨en,h1,rfl⟩);obtain ⟨a,v,r,a1,a2,a3,a4⟩:=Ps hh hp hk;simp only [Value.pointer.injEq,J5] at a1;subst a1;obtain ⟨l,ws,d1,d2,d3⟩:=ih (j + 1) _ a4;refine ⟨v :: l,r :: ws,?_,by simp only [VRl]; exact ⟨r,ws,rfl,a3,d2⟩,d3⟩;show (Ak hl ((⟨en.r,en.s + o,none⟩:Addr).add j)).bind _=_;rw [NY,Zs,a2,J0,d1];rfl
theorem Pl (hT:Bl P T) (hr:Rel σ F φ A H) {U:Nat->AV} {e:En} (he:ER σ φ U e) {t:TypeId} {p:Operand} {op:Bool} {hd:HD} {kk:HD->AV->Bool} {hl:List (Addr × Value)} (hh:HDR σ φ hd hl) (ho:Al hl H)
  (h:RY T t (ev U p) op hd A kk=true) :
  ∃ hd' hl' v r,(op=false->hl'=hl)/\(∀ a w,Ak hl a=some w->Ak hl' a=some w)/\Al hl' H/\HDR σ φ hd' hl'/\(Only hd φ hl->Only hd' φ hl')/\VR σ φ v r/\kk hd' v=true /\
   ∀ hl2,(∀ a w,Ak hl' a=some w->Ak hl2 a=some w)->opQ P (held hl2) e.ev (.load t p)=some r:=by
 obtain ⟨i,hi,h⟩:=Ad hT h
 cases ha:KH i.k with
 | true =>
  rw [ha] at h;have lookN:∀ {a:Addr} {ws:List Value} {hl2:List (Addr × Value)},e.ev p=.pointer (some a)->Ay (Ak hl2) a 0 i.size=some ws->opQ P (held hl2) e.ev (.load t p)=some (.agg ws.toArray):=by
   intro a ws hl2 h1 h2;show FQ P (held hl2) t (e.ev p)=_;rw [h1];show loadA P (held hl2) t a=_;unfold loadA;rw [ED hi,ha];simp only [Zr];show (Ay (Ak hl2) a 0 i.size).map _=_;rw [h2];rfl
  cases op with
  | false =>
   obtain ⟨a,l,ws,h1,h2,h3,h4⟩:=Ua hh (Ah he p) h;exact ⟨hd,hl,.a l,.agg ws.toArray,fun _=>rfl,fun _ _ x=>x,ho,hh,fun x=>x,by simp only [VR]; exact ⟨_,rfl,by simpa using h3⟩,h4,fun hl2 hs=>lookN h1 (Eb hs _ _ _ h2)⟩
  | true =>
   obtain ⟨a,hd',hl',l,ws,h1,b2,b3,b4,b5,b6,b7,b8⟩:=U4 hr hh ho (Ah he p) h;exact ⟨hd',hl',.a l,.agg ws.toArray,fun hx=>(by cases hx),b2,b3,b4,b5,by simp only [VR]; exact ⟨_,rfl,by simpa using b6⟩,b7,fun hl2 hs=>lookN h1 (Eb hs _ _ _ b8)⟩
 | false =>
 rw [ha] at h
 have look:∀ {a:Addr} {r:Value} {hl2:List (Addr × Value)},e.ev p=.pointer (some a)->Ak hl2 a=some r->opQ P (held hl2) e.ev (.load t p)=some r:=by
  intro a r hl2 h1 h2;show FQ P (held hl2) t (e.ev p)=some r;rw [h1];show loadA P (held hl2) t a=some r;unfold loadA;rw [ED hi,ha];exact h2
 cases op with
 | false =>
  obtain ⟨a,v,r,h1,h2,h3,h4⟩:=Ps hh (Ah he p) h;exact ⟨hd,hl,v,r,fun _=>rfl,fun _ _ x=>x,ho,hh,fun x=>x,h3,h4,fun hl2 hs=>look h1 (hs _ _ h2)⟩
 | true =>
  obtain ⟨j,o',v,en,r,h1,h2,h3,h4,h5⟩:=XD hr (Ah he p) h;have ext:∀ a w,Ak hl a=some w->Ak ((⟨en.r,en.s + o',none⟩,r) :: hl) a=some w:=by
   intro a w hw;unfold Ak;split
   ·rename_i hx;simp only at hx;have:=ho a w hw;rw [<- hx,h3] at this;exact this
   ·exact hw
  refine ⟨(j,o',v) :: hd,(⟨en.r,en.s + o',none⟩,r) :: hl,v,r,fun hx=>(by cases hx),ext,?_,?_,fun hO=>?_,h4,h5,fun hl2 hs=>look h2 (hs _ _ (by simp [Ak]))⟩
  ·intro a w hw;unfold Ak at hw;split at hw
   ·rename_i hx;simp only at hx hw;rw [<- hx,h3]; exact hw
   ·exact ho a w hw
  ·intro x hx;rcases J7.1 hx with rfl | hx
   ·exact ⟨en,r,h1,by simp [Ak],h4⟩
   ·obtain ⟨e',w,a1,a2,a3⟩:=hh x hx;exact ⟨e',w,a1,ext _ _ a2,a3⟩
  ·intro a w hw;unfold Ak at hw;split at hw
   ·rename_i hx;simp only at hx;exact ⟨(j,o',v),by simp,en,h1,hx.symm⟩
   ·obtain ⟨x,hx,rest⟩:=hO a w hw;exact ⟨x,by simp [hx],rest⟩
theorem RW (hT:Bl P T) (hr:Rel σ F φ A H) {U:Nat->AV} {e:En} (he:ER σ φ U e) {o:Oper} {op:Bool} {hd:HD} {kk:HD->AV->Bool} {hl:List (Addr × Value)} (hh:HDR σ φ hd hl) (ho:Al hl H) (h:lkH T l o op hd U A kk=true) :
  ∃ hd' hl' v r,(op=false->hl'=hl)/\(∀ a w,Ak hl a=some w->Ak hl' a=some w)/\Al hl' H/\HDR σ φ hd' hl'/\(Only hd φ hl->Only hd' φ hl')/\VR σ φ v r/\kk hd' v=true/\∀ hl2,(∀ a w,Ak hl' a=some w->Ak hl2 a=some w)->LF P n l o e r hl2:=by
 have free:lkF T l o U (fun v=>kk hd v)=true->∃ hd' hl' v r,(op=false->hl'=hl)/\(∀ a w,Ak hl a=some w->Ak hl' a=some w)/\Al hl' H/\HDR σ φ hd' hl'/\(Only hd φ hl->Only hd' φ hl')/\VR σ φ v r/\kk hd' v=true/\∀ hl2,(∀ a w,Ak hl' a=some w->Ak hl2 a=some w)->LF P n l o e r hl2:=by
  intro h;obtain ⟨v,r,h1,h2,h3⟩:=WY (l:=l) (n:=n) hT hr he h;exact ⟨hd,hl,v,r,fun _=>rfl,fun _ _ x=>x,ho,hh,fun x=>x,h1,h2,fun hl2 _=>h3 hl2⟩
 unfold lkH at h
 split at h
 ·rename_i t p hop hg
  obtain ⟨hd',hl',v,r,b1,b2,b3,b4,b5,b6,b7,b8⟩:=Pl hT hr he hh ho h
  refine ⟨hd',hl',v,r,b1,b2,b3,b4,b5,b6,b7,fun hl2 hs K hK=>?_⟩
  unfold Im
  rw [hg]
  show AQ (opQ P (held hl2) e.ev o.op) _
  rw [hop,b8 hl2 hs]
  exact hK
 ·rename_i t p g hop hg
  obtain ⟨j,want⟩:=g
  have hs:=DX (ops:=l.toArray) he j
  have h:gdH (CD l.toArray U j) want (fun k'=>RY T t (ev U p) op hd A k') hd kk=true:=h
  have key:∃ hd' hl' v r,(op=false->hl'=hl)/\(∀ a w,Ak hl a=some w->Ak hl' a=some w)/\Al hl' H/\HDR σ φ hd' hl'/\(Only hd φ hl->Only hd' φ hl')/\VR σ φ v r/\kk hd' v=true /\
    ∀ hl2,(∀ a w,Ak hl' a=some w->Ak hl2 a=some w)->∀ K:En->Prop,K (e.put n o.dst r)->BO (AZ l.toArray e j) want (AQ (opQ P (held hl2) e.ev o.op) fun v=>K (e.put n o.dst v)) (K (e.put n o.dst undef)):=by
   generalize CD l.toArray U j=c at h hs
   generalize AZ l.toArray e j=w at hs ⊢
   cases c with
   | b x =>
    simp only [VR] at hs;subst hs;replace h:@Bool.rec (fun _=>Bool) (kk hd Bz) (RY T t (ev U p) op hd A kk) (eqB x want)=true:=h;cases hb:eqB x want with
    | true =>
     rw [hb] at h;obtain ⟨hd',hl',v,r,b1,b2,b3,b4,b5,b6,b7,b8⟩:=Pl hT hr he hh ho h;refine ⟨hd',hl',v,r,b1,b2,b3,b4,b5,b6,b7,fun hl2 hs K hK=>⟨fun _=>?_,fun hx=>?_⟩⟩
     ·rw [hop,b8 hl2 hs]; exact hK
     ·subst hx;cases want <;> cases hb
    | false =>
     rw [hb] at h;refine ⟨hd,hl,Bz,undef,fun _=>rfl,fun _ _ x=>x,ho,hh,fun x=>x,BS,h,fun hl2 hs K hK=>⟨fun hx=>?_,fun _=>hK⟩⟩;subst hx;cases x <;> cases hb
   | t lx =>
    simp only [VR] at hs;obtain ⟨c,rfl,_⟩:=hs;exact ⟨hd,hl,Bz,undef,fun _=>rfl,fun _ _ x=>x,ho,hh,fun x=>x,BS,h,fun hl2 hs K hK=>hK⟩
   | _=>cases h
  obtain ⟨hd',hl',v,r,b1,b2,b3,b4,b5,b6,b7,b8⟩:=key
  refine ⟨hd',hl',v,r,b1,b2,b3,b4,b5,b6,b7,fun hl2 hs K hK=>?_⟩
  unfold Im
  rw [hg]
  exact b8 hl2 hs K hK
 ·exact free h
theorem HDR.mono {hd:HD} {hl:List (Addr × Value)} {φ':Phi} (h:HDR σ φ hd hl) (hl':φ.le φ'):HDR σ φ' hd hl:=by
 intro x hx;obtain ⟨e,w,h1,h2,h3⟩:=h x hx;exact ⟨e,w,hl' _ _ h1,h2,VR.mono hl' _ _ h3⟩
theorem Only.mono {hd:HD} {hl:List (Addr × Value)} {φ':Phi} (h:Only hd φ hl) (hl':φ.le φ'):Only hd φ' hl:=by
 intro a w hw;obtain ⟨x,hx,e,he,ha⟩:=h a w hw;exact ⟨x,hx,e,hl' _ _ he,ha⟩
theorem XW {p q:AV} {x:Bool} (h:dsj A p q x=true):x=true/\∃ i o j u,p=.p i o/\q=.p j u/\i ≠ j/\A.get i ≠ .no/\A.get j ≠ .no:=by
 unfold dsj at h;rcases AV.yp p (fun i _=>q.yd (fun j _=>ifB (Fa i j) false ((A.get i).zl (fun _ _ _=>(A.get j).zl (fun _ _ _=>x) false) false)) false) false with ⟨i1,o1,e0,e⟩ | e
 ·rw [e] at h;rcases AV.yp q (fun j _=>ifB (Fa i1 j) false ((A.get i1).zl (fun _ _ _=>(A.get j).zl (fun _ _ _=>x) false) false)) false with ⟨i2,o2,e1,e⟩ | e
  ·rw [e] at h;obtain ⟨h1,h⟩:=HH h;rcases AB.zm (A.get i1) (fun _ _ _=>(A.get i2).zl (fun _ _ _=>x) false) false with ⟨_,_,_,a1,e⟩ | e
   ·rw [e] at h;rcases AB.zm (A.get i2) (fun _ _ _=>x) false with ⟨_,_,_,a2,e⟩ | e
    ·rw [e] at h;refine ⟨h,i1,o1,i2,o2,e0,e1,?_,by rw [a1]; exact AB.noConfusion,by rw [a2]; exact AB.noConfusion⟩;intro hx;subst hx;have:Fa i1 i1=true:=(by unfold Fa; simp);rw [this] at h1; cases h1
    ·rw [e] at h; cases h
   ·rw [e] at h; cases h
  ·rw [e] at h; cases h
 ·rw [e] at h; cases h
theorem EC (hT:Bl P T) {i:Nat} {U:Nat->AV} {e:En} (he:ER σ φ U e) {x:Bool}:∀ {alt:Plan},Kq T Tb l i U A alt x=true->x=true /\
  (∀ j ∈ alt.idxs,KE l j=true->∃ o cs el wf,l[j]?=some o/\EO o=true/\flS P o.op e.ev cs el wf) /\
  ∀ j ∈ alt.idxs,KE l j=false->∃ o oi a b c d,l[j]?=some o/\l[i]?=some oi/\stP U oi=.p a b/\stP U o=.p c d/\a ≠ c/\A.get a ≠ .no/\A.get c ≠ .no
 | .fin,h=>⟨h,by simp [Plan.idxs],by simp [Plan.idxs]⟩
 | .non,h=>⟨h,by simp [Plan.idxs],by simp [Plan.idxs]⟩
 | .look _ _ _,h=>by cases h
 | .lookx _ _,h=>by cases h
 | .lookp _ _,h=>by cases h
 | .actd _ _,h=>by cases h
 | .acth _ _,h=>by cases h
 | .act j p a,h=>by
  have h:(onO l j fun o=>onO l i fun oi=>@Bool.rec (fun _=>Bool) (@Bool.rec (fun _=>Bool) false (dsj A (stP U oi) (stP U o) (Kq T Tb l i U A a x)) (TZ o)) (dA T Tb U A o.op fun _ _=>Kq T Tb l i U A a x) (EO o))=true:=h;obtain ⟨o,ho,h⟩:=CM h;obtain ⟨oi,hoi,h⟩:=CM h;have hfl:KE l j=EO o:=(by unfold KE; rw [ho]);cases hf:EO o with
  | false =>
   rw [hf] at h;obtain ⟨_,h⟩:=Dm h;obtain ⟨h,a1,b1,c1,d1,h1,h2,h3,h4,h5⟩:=XW h;obtain ⟨g1,g2,g3⟩:=EC hT he h;refine ⟨g1,fun j' hj hl'=>?_,fun j' hj hl'=>?_⟩
   ·rcases J7.1 hj with rfl | hj
    ·rw [hfl,hf] at hl'; cases hl'
    ·exact g2 j' hj hl'
   ·rcases J7.1 hj with rfl | hj
    ·exact ⟨o,oi,a1,b1,c1,d1,ho,hoi,h1,h2,h3,h4,h5⟩
    ·exact g3 j' hj hl'
  | true =>
   rw [hf] at h;have h:dA T Tb U A o.op (fun _ _=>Kq T Tb l i U A a x)=true:=h;obtain ⟨m,t,vf,cs,el,wf,h1,h2,_⟩:=OG hT he hf h;obtain ⟨_,_,h⟩:=D2 h1;obtain ⟨g1,g2,g3⟩:=EC hT he h;refine ⟨g1,fun j' hj hl'=>?_,fun j' hj hl'=>?_⟩
   ·rcases J7.1 hj with rfl | hj
    ·exact ⟨o,cs,el,wf,ho,hf,h2⟩
    ·exact g2 j' hj hl'
   ·rcases J7.1 hj with rfl | hj
    ·rw [hfl,hf] at hl'; cases hl'
    ·exact g3 j' hj hl'
theorem Nu {hl:List (Addr × Value)} (ho:Al hl H) (o:Obj):Al hl (H.push o):=by
 intro a v hv;have:=ho a v hv;unfold A5 at this ⊢;by_cases hlt:a.block < H.size
 ·rw [Yh hlt,<- Zd hlt]; exact this
 ·rw [Z5 (by omega)] at this; cases this
theorem UG (hT:Bl P T) (hr:Rel σ F φ A H) {U:Nat->AV} {e:En} (he:ER σ φ U e) {o:Oper} (hf:EO o=true) {kk:AV->AH->Bool} (h:Gr T Tb l o U A kk=true) :
  ∃ cs el wf φ' v A',flS P o.op e.ev cs el wf/\φ.le φ'/\Rel σ F φ' A' (H.push (.cells cs el))/\VR σ φ' v (wf H.size)/\kk v A'=true:=by
 have h:dA T Tb U A o.op kk=true:=by unfold Gr at h; rw [(DF hf).1] at h; exact h
 obtain ⟨m,t,vf,cs,el,wf,a1,a2,a3,a4,a5,a6⟩:=OG hT he hf h
 obtain ⟨j,b1,b2⟩:=D2 a1
 exact ⟨cs,el,wf,_,vf A.nx,_,a2,hr.zt _,hr.wq (el:=el) b1 a3 a4 a5,a6 _ _ _ (J8 rfl),b2⟩
theorem PO (hT:Bl P T) (hTb:TOK P Tb) (hr:Rel σ F φ A H) {U:Nat->AV} {e:En} (he:ER σ φ U e) {o:Oper} {hd:HD} {hl:List (Addr × Value)} {kk:AV->AH->Bool} {K:En->A3->Prop} (hh:HDR σ φ hd hl) (hO:Only hd φ hl) (ho:Al hl H)
  (h:Gr T Tb l o U A (fun v A=>Gp o hd A (kk v A))=true) (hk:∀ v A' φ' w H',φ.le φ'->Rel σ F φ' A' H'->VR σ φ' v w->Al hl H'->kk v A'=true->K (e.put n o.dst w) H'):opG n P l.toArray o e H K Q:=by
 cases hf:EO o with
 | true =>
  obtain ⟨cs,el,wf,φ',v,A',h1,h2,h3,h4,h5⟩:=UG (Tb:=Tb) hT hr he hf h;have h5:kk v A'=true:=by
   have:Gp o hd A' (kk v A')=true:=h5;unfold Gp at this; rw [hf] at this; exact this
  exact Sa hf h1 (hk v A' φ' _ _ h2 h3 h4 (Nu ho _) h5)
 | false =>
  refine PN hT hTb hr he h ?_;intro v A' φ' w H' h1 h2 h3 h4;have h4:OO hd A' (kk v A')=true:=by
   have:Gp o hd A' (kk v A')=true:=h4;unfold Gp at this; rw [hf] at this; exact this
  obtain ⟨h5,h6⟩:=Mm h1 h2 hh h4;refine hk v A' φ' w H' h1 h2 h3 ?_ h5;intro a w' hw;obtain ⟨x,hx,e1,he1,rfl⟩:=hO a w' hw;obtain ⟨e2,w2,g1,g2,g3⟩:=h6 x hx;rw [h1 _ _ he1] at g1;cases g1
  rw [hw] at g2;cases g2
  exact g3
structure XE where
 j:Nat
 r:Nat
 cs:Array Value
 el:TypeId
structure XI (P:Program) (l:List Oper) (n:Nat) (X:List XE) (F F':Nat->Option Obj) (e0 e:En):Prop where
 nd:(X.map (·.j)).Nodup
 ag:∀ t,(∀ x ∈ X,Bt l x.j ≠ some t)->e.get t=e0.get t
 ds:e.ds=e0.ds
 fl:∀ x ∈ X,∃ o wf,l[x.j]?=some o/\EO o=true/\flS P o.op e0.ev x.cs x.el wf/\∀ t,o.dst=some t->e.get t=wf x.r
 f0:∀ r,(∀ x ∈ X,x.r ≠ r)->F' r=F r
 f1:∀ x ∈ X,F' x.r=some (.cells x.cs x.el)/\F x.r=none
 ni:∀ x ∈ X,∀ y ∈ X,x.r=y.r->x=y
 ov:∀ x ∈ X,∀ y ∈ X,x.j ≠ y.j->BX l x.j y.j=false
theorem JR {i j t:Nat} (h:BX l i j=false) (hd:Bt l j=some t):t ∉ touch l i:=by
 unfold BX at h;rw [hd] at h;simp only [Bool.or_eq_false_iff] at h;have:=h.2;intro hm;rw [List.contains_iff_mem.2 hm] at this;cases this
theorem LW {i j:Nat} (h:BX l i j=false):BX l j i=false:=by
 unfold BX at h ⊢;rw [Bool.or_comm]; exact h
theorem XI.touch {X:List XE} {F F':Nat->Option Obj} {e0 e:En} (h:XI P l n X F F' e0 e) {i:Nat} (hi:∀ x ∈ X,BX l i x.j=false):∀ t ∈ HL.touch l i,e0.get t=e.get t:=by
 intro t ht;refine (h.ag t fun x hx hd=>?_).symm;exact JR (hi x hx) hd ht
theorem E9 {i t:Nat} {o:Oper} (ho:l[i]?=some o) (hd:o.dst=some t):t ∈ HL.touch l i:=by
 unfold HL.touch;rw [ho];simp [hd]
theorem Ea {i:Nat} {o:Oper} (ho:l[i]?=some o):Bt l i=o.dst:=by unfold Bt; rw [ho]; rfl
theorem XI.put {X:List XE} {F F':Nat->Option Obj} {e0 e:En} (h:XI P l n X F F' e0 e) {i:Nat} {o:Oper} (ho:l[i]?=some o) (hi:∀ x ∈ X,BX l i x.j=false) (w:Value):XI P l n X F F' (e0.put n o.dst w) (e.put n o.dst w):=by
 refine ⟨h.nd,fun t ht=>?_,?_,fun x hx=>?_,h.f0,h.f1,h.ni,h.ov⟩
 ·rw [AU,AU,h.ag t ht]
 ·cases o.dst <;> exact h.ds
 ·obtain ⟨ox,wf,h1,h2,h3,h4⟩:=h.fl x hx;have hov:=LW (hi x hx);refine ⟨ox,wf,h1,h2,HQ (DW h1 fun t ht=>?_).1 (DF h2).2 h3,fun t ht=>?_⟩
  ·rw [AU,J4];rintro ⟨hd,_⟩;exact JR hov (by rw [Ea ho]; exact hd) ht
  ·rw [AU,J4,h4 t ht];rintro ⟨hd,_⟩;exact JR hov (by rw [Ea ho]; exact hd) (E9 h1 ht)
def SS (σ:Nat->Value) (F:Nat->Option Obj) (D:List Deferred) (P:Program) (T:TR) (Tb:FT) (n:Nat) (l:List Oper) (k:Kt) (φ:Phi) (hl:List (Addr × Value)) (pc:Plan) (J:List Nat) (e:En) (H:A3):Prop :=
 ∃ (X:List XE) (F':Nat->Option Obj) (φ':Phi) (A:AH) (U:Nat->AV) (e0:En) (hd:HD),X.map (·.j)=J/\XI P l n X F F' e0 e/\φ.le φ'/\FI T Tb l pc true hd U A k=true/\Rel σ F' φ' A H/\ENV σ φ' D U e0/\HDR σ φ' hd hl/\Only hd φ' hl/\Al hl H/\∀ x ∈ X,¬ O5 σ x.r
theorem GN {X:List XE} {i:Nat} (h:Io l i (X.map (·.j))=true):∀ x ∈ X,BX l i x.j=false:=by
 intro x hx;unfold Io at h;rw [Jo] at h;have:=h x.j (Ji.2 ⟨x,hx,rfl⟩);simpa using this
theorem SS.xe (hT:Bl P T) (hd0:B8 n l=true) {hl:List (Addr × Value)} {j:Nat} {pc a:Plan} {J:List Nat} {e:En} (h:SS σ F D P T Tb n l k φ hl (.act j pc a) J e H) (hj:j ∈ J) :
  SS σ F D P T Tb n l k φ hl pc (J.filter (· != j)) e H:=by
 obtain ⟨X,F',φ',A,U,e0,hd,hX,hI,hle,hrun,hr,he,hh,hO,ho,hns⟩:=h
 subst hX
 have hrun:Kq T Tb l j U A a (onO l j fun o=>Gr T Tb l o U A fun v A=>Gp o hd A (FI T Tb l pc true hd (Cs U o.dst v) A k))=true:=hrun
 obtain ⟨hrun,_,_⟩:=EC hT he.er hrun
 obtain ⟨o,hoj,hrun⟩:=CM hrun
 obtain ⟨x,hx,hxj⟩:=Ji.1 hj
 obtain ⟨o',wf,g1,g2,g3,g4⟩:=hI.fl x hx
 rw [hxj,hoj] at g1
 cases g1
 have hgd:o.guard=none:=(DF g2).1
 have hrun:dA T Tb U A o.op (fun v A=>Gp o hd A (FI T Tb l pc true hd (Cs U o.dst v) A k))=true:=by
  unfold Gr at hrun; rw [hgd] at hrun; exact hrun
 have hcf:∀ A x,Gp o hd A x=x:=fun A x=>by unfold Gp; rw [g2]
 simp only [hcf] at hrun
 obtain ⟨m,t,vf,cs,el,wf',a1,a2,a3,a4,a5,a6⟩:=OG hT he.er g2 hrun
 obtain ⟨rfl,rfl,hw⟩:=Sb g3 a2
 obtain ⟨j',b1,b2⟩:=D2 a1
 obtain ⟨f1,f2⟩:=hI.f1 x hx
 have hr':=hr.xe (F:=fun r=>if r=x.r then none else F' r) f1 (fun r' hn=>J4 hn) (J8 rfl) (hns x hx) b1 a3 a4 a5
 have hle':=hr.zt ⟨x.r,0,x.cs.size⟩
 have c1:=b2
 have hdst:Dg n o.dst=true:=by
  have:∀ o ∈ l,Dg n o.dst=true:=(by simpa [B8] using hd0);exact this o (J2 hoj)
 have hv:VR σ (φ'.put A.nx ⟨x.r,0,x.cs.size⟩) (vf A.nx) (wf x.r):=by rw [hw]; exact a6 _ _ _ (J8 rfl)
 have hne:∀ y ∈ X,y.j ≠ j->y.r ≠ x.r:=fun y hy hyj hyr=>hyj (by rw [hI.ni y hy x hx hyr,hxj])
 refine ⟨X.filter (fun y=>y.j != j),_,_,_,_,e0.put n o.dst (wf x.r),hd,?_,?_,hle.trans hle',c1,hr',he.put hle' hdst hv,hh.mono hle',hO.mono hle',ho,fun y hy=>hns y (Xy.1 hy).1⟩
 ·rw [List.filter_map]; rfl
 ·have hmem:∀ y,y ∈ X.filter (fun y=>y.j != j)↔y ∈ X/\y.j ≠ j:=fun y=>by simp [Xy]
  refine ⟨?_,fun t ht=>?_,?_,fun y hy=>?_,fun r hr=>?_,fun y hy=>?_,fun y hy z hz=>?_,fun y hy z hz=>?_⟩
  ·exact List.Nodup.sublist (List.Sublist.map _ List.filter_sublist) hI.nd
  ·rw [AU]
   by_cases hd:o.dst=some t/\t < n
   ·rw [J8 hd]; exact g4 t hd.1
   ·rw [J4 hd]
    refine hI.ag t fun y hy hyd=>?_
    by_cases hyj:y.j=j
    ·rw [hyj,Ea hoj] at hyd
     refine hd ⟨hyd,?_⟩
     rw [hyd] at hdst
     exact Cd hdst
    ·exact ht y ((hmem y).2 ⟨hy,hyj⟩) hyd
  ·rw [hI.ds]; cases o.dst <;> rfl
  ·obtain ⟨hy,hyj⟩:=(hmem y).1 hy
   obtain ⟨oy,wy,h1,h2,h3,h4⟩:=hI.fl y hy
   refine ⟨oy,wy,h1,h2,HQ (DW h1 fun t ht=>?_).1 (DF h2).2 h3,h4⟩
   rw [AU,J4]
   rintro ⟨hd,_⟩
   exact JR (hI.ov y hy x hx (by rw [hxj]; exact hyj)) (by rw [hxj,Ea hoj]; exact hd) ht
  ·show (if r=x.r then none else F' r)=F r
   by_cases hrx:r=x.r
   ·rw [J8 hrx,hrx,f2]
   ·rw [J4 hrx]
    refine hI.f0 r fun y hy hyr=>?_
    by_cases hyj:y.j=j
    ·have:(X.map (·.j)).Nodup:=hI.nd
     have hyx:y=x:=by
      have key:∀ (X:List XE),(X.map (·.j)).Nodup->∀ y ∈ X,∀ x ∈ X,y.j=x.j->y=x:=by
       intro X;induction X with
       | nil=>intro _ y hy; simp at hy
       | cons z X ih =>
        intro hn y hy x hx hyx;simp only [Jz,Yj] at hn;rcases J7.1 hy with e1 | hy1
        ·rcases J7.1 hx with e2 | hx1
         ·rw [e1,e2]
         ·exact absurd (Ji.2 ⟨x,hx1,by rw [<- hyx,e1]⟩) hn.1
        ·rcases J7.1 hx with e2 | hx1
         ·exact absurd (Ji.2 ⟨y,hy1,by rw [hyx,e2]⟩) hn.1
         ·exact ih hn.2 y hy1 x hx1 hyx
      exact key X this y hy x hx (by rw [hyj,hxj])
     exact hrx (by rw [<- hyr,hyx])
    ·exact hr y ((hmem y).2 ⟨hy,hyj⟩) hyr
  ·obtain ⟨hy,hyj⟩:=(hmem y).1 hy
   refine ⟨?_,(hI.f1 y hy).2⟩
   show (if y.r=x.r then none else F' y.r)=_
   rw [J4 (hne y hy hyj)]; exact (hI.f1 y hy).1
  ·exact hI.ni y ((hmem y).1 hy).1 z ((hmem z).1 hz).1
  ·exact hI.ov y ((hmem y).1 hy).1 z ((hmem z).1 hz).1
theorem SS.adv (hT:Bl P T) (hd0:B8 n l=true) {hl:List (Addr × Value)} {e:En}:∀ {pc:Plan} {J:List Nat},SS σ F D P T Tb n l k φ hl pc J e H->SS σ F D P T Tb n l k φ hl (adv pc J).1 (adv pc J).2 e H
 | .act j p a,J,h=>by
  unfold Run.adv;split
  ·rename_i hc;exact SS.adv hT hd0 (SS.xe hT hd0 h (by simpa using hc))
  ·exact h
 | .fin,J,h=>h
 | .non,J,h=>h
 | .look _ _ _,J,h=>h
 | .lookx _ _,J,h=>h
 | .lookp _ _,J,h=>h
 | .actd _ _,J,h=>h
 | .acth _ _,J,h=>h
theorem SS.early (hT:Bl P T) {hl:List (Addr × Value)} {i j:Nat} {pc a:Plan} {J:List Nat} {e:En} (h:SS σ F D P T Tb n l k φ hl (.act j pc a) J e H) (hi:i ∈ a.idxs) (hf:KE l i=true) (hJ:i ∉ J) (hov:Io l i J=true) :
  ∃ o cs el wf,l[i]?=some o/\EO o=true/\flS P o.op e.ev cs el wf/\Al hl (H.push (.cells cs el))/\(B8 n l=true->SS σ F D P T Tb n l k φ hl (.act j pc a) (i :: J) (e.put n o.dst (wf H.size)) (H.push (.cells cs el))):=by
 obtain ⟨X,F',φ',A,U,e0,hd,hX,hI,hle,hrun,hr,he,hh,hO,ho,hns⟩:=h
 subst hX
 have hrun0:=hrun
 have hrun:Kq T Tb l j U A a (onO l j fun o=>Gr T Tb l o U A fun v A=>Gp o hd A (FI T Tb l pc true hd (Cs U o.dst v) A k))=true:=hrun
 obtain ⟨_,hfl,_⟩:=EC hT he.er hrun
 obtain ⟨o,cs,el,wf,h1,h2,h3⟩:=hfl i hi hf
 have hov:=GN hov
 have hto:=hI.touch hov
 have h3':flS P o.op e.ev cs el wf:=HQ (DW h1 hto).1 (DF h2).2 h3
 have ho':Al hl (H.push (.cells cs el)):=by
  intro a v hv;have:=ho a v hv;unfold A5 at this ⊢;by_cases hlt:a.block < H.size
  ·rw [Yh hlt,<- Zd hlt]; exact this
  ·rw [Z5 (by omega)] at this; cases this
 refine ⟨o,cs,el,wf,h1,h2,h3',ho',fun hd0=>?_⟩
 have hdst:Dg n o.dst=true:=by
  have:∀ o ∈ l,Dg n o.dst=true:=(by simpa [B8] using hd0);exact this o (J2 h1)
 have hfree:F' H.size=none:=hr.free
 have hxr:∀ y ∈ X,y.r ≠ H.size:=fun y hy hyr=>by
  have:=(hI.f1 y hy).1;rw [hyr,hfree] at this;cases this
 have hF0:F H.size=none:=by rw [<- hI.f0 H.size hxr]; exact hfree
 refine ⟨⟨i,H.size,cs,el⟩ :: X,_,φ',A,U,e0,hd,rfl,?_,hle,hrun0,hr.bm (.cells cs el),he,hh,hO,ho',fun y hy=>?_⟩
 rotate_left
 ·rcases J7.1 hy with rfl | hy
  ·intro hs; exact Nat.lt_irrefl _ (hr.st _ hs)
  ·exact hns y hy
 refine ⟨?_,fun t ht=>?_,?_,fun y hy=>?_,fun r hr=>?_,fun y hy=>?_,fun y hy z hz hyz=>?_,fun y hy z hz hyz=>?_⟩
 ·simp only [Jz,Yj]
  exact ⟨hJ,hI.nd⟩
 ·rw [AU,J4]
  ·exact hI.ag t fun y hy=>ht y (by simp [hy])
  ·rintro ⟨hd,_⟩
   exact ht ⟨i,H.size,cs,el⟩ (by simp) (by rw [Ea h1]; exact hd)
 ·rw [<- hI.ds]; cases o.dst <;> rfl
 ·rcases J7.1 hy with rfl | hy
  ·refine ⟨o,wf,h1,h2,h3,fun t ht=>?_⟩
   have htn:t < n:=by
    have h9:=hdst;rw [ht] at h9;exact Cd h9
   rw [AU,J8 ⟨ht,htn⟩]
  ·obtain ⟨oy,wy,g1,g2,g3,g4⟩:=hI.fl y hy
   refine ⟨oy,wy,g1,g2,g3,fun t ht=>?_⟩
   rw [AU,J4,g4 t ht]
   rintro ⟨hd,_⟩
   exact JR (LW (hov y hy)) (by rw [Ea h1]; exact hd) (E9 g1 ht)
 ·show (if r=H.size then _ else F' r)=F r
  rw [J4 (fun e=>hr ⟨i,H.size,cs,el⟩ (by simp) e.symm)]
  exact hI.f0 r fun y hy=>hr y (by simp [hy])
 ·rcases J7.1 hy with rfl | hy
  ·exact ⟨J8 rfl,hF0⟩
  ·refine ⟨?_,(hI.f1 y hy).2⟩
   show (if y.r=H.size then _ else F' y.r)=_
   rw [J4 (hxr y hy)]; exact (hI.f1 y hy).1
 ·rcases J7.1 hy with rfl | hy
  ·rcases J7.1 hz with rfl | hz
   ·rfl
   ·exact absurd hyz.symm (hxr z hz)
  ·rcases J7.1 hz with rfl | hz
   ·exact absurd hyz (hxr y hy)
   ·exact hI.ni y hy z hz hyz
 ·rcases J7.1 hy with rfl | hy
  ·rcases J7.1 hz with rfl | hz
   ·exact absurd rfl hyz
   ·exact hov z hz
  ·rcases J7.1 hz with rfl | hz
   ·exact LW (hov y hy)
   ·exact hI.ov y hy z hz hyz
theorem SS.act (hT:Bl P T) (hTb:TOK P Tb) (hd0:B8 n l=true) {hl:List (Addr × Value)} {i:Nat} {pc a:Plan} {J:List Nat} {e:En} (hQ:PanOK Q) (h:SS σ F D P T Tb n l k φ hl (.act i pc a) J e H) (hov:Io l i J=true) (heff:By l i=true) :
  ∃ o,l[i]?=some o/\opG n P l.toArray o e H (fun e' H'=>Al hl H'/\SS σ F D P T Tb n l k φ hl pc J e' H') Q:=by
 obtain ⟨X,F',φ',A,U,e0,hd,hX,hI,hle,hrun,hr,he,hh,hO,ho,hns⟩:=h
 subst hX
 have hrun:Kq T Tb l i U A a (onO l i fun o=>Gr T Tb l o U A fun v A=>Gp o hd A (FI T Tb l pc true hd (Cs U o.dst v) A k))=true:=hrun
 obtain ⟨hrun,_,_⟩:=EC hT he.er hrun
 obtain ⟨o,hio,hrun⟩:=CM hrun
 have hov:=GN hov
 have hto:=hI.touch hov
 have hq:isQ o.op=false:=by
  unfold By at heff;rw [hio] at heff;simpa using heff
 have hdst:Dg n o.dst=true:=by
  have:∀ o ∈ l,Dg n o.dst=true:=(by simpa [B8] using hd0);exact this o (J2 hio)
 refine ⟨o,hio,E4 (Q:=Q) (K:=fun e' H'=>∃ w,e'=e0.put n o.dst w/\Al hl H'/\∃ (φ'':Phi) (A':AH) (v:AV),φ'.le φ''/\Rel σ F' φ'' A' H'/\VR σ φ'' v w/\FI T Tb l pc true hd (Cs U o.dst v) A' k=true) hio hq hto ?_ ?_ ?_⟩
 ·rintro v H' ⟨w,hw,hho,φ'',A',v',h1,h2,h3,h4⟩
  have hvw:e.put n o.dst v=e.put n o.dst w:=by
   cases hd:o.dst with
   | none=>rfl
   | some d =>
    rw [hd] at hw;have:=congrFun (congrArg En.get hw) d;rw [AU,AU] at this;by_cases hdn:d < n
    ·rw [J8 ⟨rfl,hdn⟩,J8 ⟨rfl,hdn⟩] at this; rw [this]
    ·simp only [En.put];congr 1;funext t;rw [J4,J4] <;> (rintro ⟨rfl,h⟩; exact hdn h)
  rw [hvw]
  exact ⟨hho,X,F',φ'',A',_,_,hd,rfl,hI.put hio hov w,hle.trans h1,h4,h2,he.put h1 hdst h3,hh.mono h1,hO.mono h1,hho,hns⟩
 ·exact fun c H' hp=>hQ c e0 e H' hI.ds.symm hp
 ·refine PO hT hTb hr he.er hh hO ho hrun ?_
  intro v A' φ'' w H' h1 h2 h3 h4 h5
  exact ⟨w,rfl,h4,φ'',A',v,h1,h2,h3,h5⟩
theorem GS {hl hl':List (Addr × Value)} (h:∀ a w,Ak hl a=some w->Ak hl' a=some w):∀ H,Al hl' H->Al hl H:=fun H hh a w hw=>hh a w (h a w hw)
def U0:Plan->Bool
 | .look _ _ _=>true
 | .lookx _ _=>true
 | .lookp _ _=>true
 | _=>false
theorem Sx {m ps:List Nat} {d:Nat} {p:Plan} (h:Ao ps l m false d p=true):U0 p=false:=by
 cases p <;> first | rfl | (simp [Ao] at h)
theorem SS.look (hT:Bl P T) (hd0:B8 n l=true) {hl:List (Addr × Value)} {i:Nat} {pc:Plan} {J:List Nat} {e:En} (h:SS σ F D P T Tb n l k φ hl (.look i false pc) J e H) (hov:Io l i J=true) :
  ∃ o r hl1,l[i]?=some o/\(∀ a w,Ak hl a=some w->Ak hl1 a=some w)/\(∀ hl2,(∀ a w,Ak hl1 a=some w->Ak hl2 a=some w)->∃ v,LookH P l (Al hl2) o e v/\e.put n o.dst v=e.put n o.dst r)/\SS σ F D P T Tb n l k φ hl1 pc J (e.put n o.dst r) H:=by
 obtain ⟨X,F',φ',A,U,e0,hd,hX,hI,hle,hrun,hr,he,hh,hO,ho,hns⟩:=h
 subst hX
 have hrun:(onO l i fun o=>lkH T l o true hd U A fun hd v=>FI T Tb l pc true hd (Cs U o.dst v) A k)=true:=hrun
 obtain ⟨o,hio,hrun⟩:=CM hrun
 have hov:=GN hov
 have hto:=hI.touch hov
 have hdst:Dg n o.dst=true:=by
  have:∀ o ∈ l,Dg n o.dst=true:=(by simpa [B8] using hd0);exact this o (J2 hio)
 obtain ⟨hd',hl1,v,r,_,b2,b3,b4,b5,b6,b7,b8⟩:=RW (l:=l) (n:=n) hT hr he.er hh ho hrun
 refine ⟨o,r,hl1,hio,b2,fun hl2 h2=>?_,?_⟩
 ·obtain ⟨v',hv',hk'⟩:=F7 (b8 hl2 h2 (fun e1=>e1=e0.put n o.dst r) rfl)
  rw [F9 hio hto] at hv'
  exact ⟨v',fun H hh=>⟨held hl2,HK hh,hv'⟩,JL hk'⟩
 ·exact ⟨X,F',φ',A,_,_,hd',rfl,hI.put hio hov r,hle,b7,hr,he.put φ'.le_refl hdst b6,b4,b5 hO,b3,hns⟩
theorem SS.lookx (hT:Bl P T) (hd0:B8 n l=true) {hl:List (Addr × Value)} {i:Nat} {pc:Plan} {J:List Nat} {e:En} (h:SS σ F D P T Tb n l k φ hl (.lookx i pc) J e H) (hov:Io l i J=true) :
  ∃ o v,l[i]?=some o/\(∀ H',Ext H H'->CY P (AI H') l o e=some v)/\SS σ F D P T Tb n l k φ hl pc J (e.put n o.dst v) H:=by
 obtain ⟨X,F',φ',A,U,e0,hd,hX,hI,hle,hrun,hr,he,hh,hO,ho,hns⟩:=h
 subst hX
 have hrun:(onO l i fun o=>lkX T l o U A fun v=>FI T Tb l pc true hd (Cs U o.dst v) A k)=true:=hrun
 obtain ⟨o,hio,hrun⟩:=CM hrun
 have hov:=GN hov
 have hto:=hI.touch hov
 have hdst:Dg n o.dst=true:=by
  have:∀ o ∈ l,Dg n o.dst=true:=(by simpa [B8] using hd0);exact this o (J2 hio)
 obtain ⟨v,r,b1,b2,b3⟩:=RU (l:=l) hT hr he.er hrun
 refine ⟨o,r,hio,fun H' hE=>by rw [<- F9 hio hto]; exact b3 H' hE,?_⟩
 exact ⟨X,F',φ',A,_,_,hd,rfl,hI.put hio hov r,hle,b2,hr,he.put φ'.le_refl hdst b1,hh,hO,ho,hns⟩
theorem SS.lookp (hTb:TOK P Tb) (hd0:B8 n l=true) {hl:List (Addr × Value)} {i:Nat} {pc:Plan} {J:List Nat} {e:En} (h:SS σ F D P T Tb n l k φ hl (.lookp i pc) J e H) (hov:Io l i J=true) :
  ∃ o v,l[i]?=some o/\isQ o.op=false/\NZ n P l o e v/\SS σ F D P T Tb n l k φ hl pc J (e.put n o.dst v) H:=by
 obtain ⟨X,F',φ',A,U,e0,hd,hX,hI,hle,hrun,hr,he,hh,hO,ho,hns⟩:=h
 subst hX
 have hrun:(onO l i fun o=>lkP Tb o U fun v=>FI T Tb l pc true hd (Cs U o.dst v) A k)=true:=hrun
 obtain ⟨o,hio,hrun⟩:=CM hrun
 have hov:=GN hov
 have hto:=hI.touch hov
 have hdst:Dg n o.dst=true:=by
  have:∀ o ∈ l,Dg n o.dst=true:=(by simpa [B8] using hd0);exact this o (J2 hio)
 obtain ⟨v,r,b1,b2,b3,b4⟩:=RV (l:=l) (n:=n) hTb he.er hrun
 refine ⟨o,r,hio,b3,fun H=>?_,?_⟩
 ·exact E4 (Q:=fun _ _ _=>False) hio b3 hto (fun v H' h=>⟨JL h.1,h.2⟩) (fun c H' h=>h) (b4 H)
 ·exact ⟨X,F',φ',A,_,_,hd,rfl,hI.put hio hov r,hle,b2,hr,he.put φ'.le_refl hdst b1,hh,hO,ho,hns⟩
def PQ (σ:Nat->Value) (F:Nat->Option Obj) (D:List Deferred) (P:Program) (T:TR) (Tb:FT) (n:Nat) (l:List Oper) (m ps:List Nat) (Q:Exit->En->A3->Prop) (k:Kt) (p:Plan):Prop :=
 ∀ (d:Nat) (hd:HD) (hl:List (Addr × Value)) (φ:Phi) (U:Nat->AV) (A:AH) (e:En) (H:A3),
  Ao ps l m true d p=true->FH l p true=true->Rel σ F φ A H->ENV σ φ D U e->HDR σ φ hd hl->Only hd φ hl->Al hl H->KOK σ F D φ k (Q .normal)->FI T Tb l p true hd U A k=true ->
  ∃ hl',(U0 p=false->hl'=hl)/\(∀ a w,Ak hl a=some w->Ak hl' a=some w)/\Al hl' H/\Ap n P l (Al hl') Q p e H
theorem Et {m ps:List Nat} {N:Nat} (IH:∀ r,psz r < N->PQ σ F D P T Tb n l m ps Q k r) {hl:List (Addr × Value)} (hk:KOK σ F D φ k (Q .normal)) {b:Bool} {q pc:Plan} {J:List Nat} {d:Nat} {e:En} (hs:psz q < N) (hp:Ao ps l m b d q=true)
  (hsim:FH l q b=true) (h:SS σ F D P T Tb n l k φ hl pc J e H) (hf:FJ b q pc J=true):∃ hl',(U0 q=false->hl'=hl)/\(∀ a w,Ak hl a=some w->Ak hl' a=some w)/\Al hl' H/\Ap n P l (Al hl') Q q e H:=by
 unfold FJ at hf
 simp only [Jd,List.isEmpty_iff] at hf
 obtain ⟨⟨rfl,rfl⟩,hq⟩:=hf
 have:=DR _ _ hq
 subst this
 obtain ⟨X,F',φ',A,U,e0,hd,hX,hI,hle,hrun,hr,he,hh,hO,ho,hns⟩:=h
 have hX:X = []:=by simpa using hX
 subst hX
 have hF:F'=F:=funext fun r=>hI.f0 r (by simp)
 subst hF
 have hee:e=e0:=by
  have h1:e.get=e0.get:=funext fun t=>hI.ag t (by simp);have h2:=hI.ds;cases e; cases e0
  simp only at h1 h2;rw [h1,h2]
 subst hee
 exact IH q hs d hd hl φ' U A e H hp hsim hr he hh hO ho (hk.mono hle) hrun
theorem VU {m ps:List Nat} {N:Nat} (hT:Bl P T) (hTb:TOK P Tb) (hd0:B8 n l=true) (hQ:PanOK Q) (IH:∀ r,psz r < N->PQ σ F D P T Tb n l m ps Q k r) (hk:KOK σ F D φ k (Q .normal)) :
  ∀ (q:Plan) (hl:List (Addr × Value)) (b:Bool) (pc:Plan) (J:List Nat) (d:Nat) (e:En) (H:A3),psz q < N->Il l q b pc J=true->Ao ps l m b d q=true->FH l q b=true->SS σ F D P T Tb n l k φ hl pc J e H ->
   ∃ hl',(U0 q=false->hl'=hl)/\(∀ a w,Ak hl a=some w->Ak hl' a=some w)/\Al hl' H/\Ap n P l (Al hl') Q q e H:=by
 intro q
 induction q with
 | fin=>intro hl b pc J d e H hs hsim hp hA h; exact Et IH hk hs hp hA (h.adv hT hd0) hsim
 | non =>
  intro hl b pc J d e H hs hsim hp hA h;obtain ⟨X,F',φ',A,U,e0,hd,hX,hI,hle,hrun,hr,he,hh,hO,ho,hns⟩:=h;exact ⟨hl,fun _=>rfl,fun _ _ x=>x,ho,trivial⟩
 | look i f q ih =>
  intro hl b pc J d e H hs hsim hp hA h;have h:=h.adv hT hd0;simp only [Il,Z9,Jd] at hsim;rcases hsim with hf | ⟨hf,hm⟩
  ·exact Et IH hk hs hp hA h hf
  ·have hf:f=false:=(by simpa using hf);subst hf;split at hm
   ·rename_i j g p' hpc;simp only [Jd,beq_iff_eq,Zm] at hm;obtain ⟨⟨⟨rfl,rfl⟩,hov⟩,hm⟩:=hm;rw [hpc] at h;obtain ⟨o,r,hl1,ho,h1,h2,h3⟩:=h.look hT hd0 hov;cases b with
    | false=>simp [Ao] at hp
    | true =>
     simp only [Ao,Jd] at hp;obtain ⟨hl',_,a2,a3,a4⟩:=ih hl1 true _ _ _ _ H (by simp only [psz] at hs; omega) hm hp.2 hA h3;refine ⟨hl',fun hx=>(by cases hx),fun a w hw=>a2 a w (h1 a w hw),a3,?_⟩;obtain ⟨v,g1,g2⟩:=h2 hl' a2;unfold Ap;rw [ho];rw [<- g2] at a4;exact ⟨v,g1,a4⟩
   ·cases hm
 | lookx i q ih =>
  intro hl b pc J d e H hs hsim hp hA h;have h:=h.adv hT hd0;simp only [Il,Z9] at hsim;rcases hsim with hf | hm
  ·exact Et IH hk hs hp hA h hf
  ·split at hm
   ·rename_i j p' hpc;simp only [Jd,beq_iff_eq] at hm;obtain ⟨⟨rfl,hov⟩,hm⟩:=hm;rw [hpc] at h;obtain ⟨o,v,ho,h1,h2⟩:=h.lookx hT hd0 hov;cases b with
    | false=>simp [Ao] at hp
    | true =>
     simp only [Ao,Jd] at hp;obtain ⟨hl',_,a2,a3,a4⟩:=ih hl true _ _ _ _ H (by simp only [psz] at hs; omega) hm hp.2 hA h2;refine ⟨hl',fun hx=>(by cases hx),a2,a3,?_⟩;unfold Ap;rw [ho];exact ⟨v,h1,a4⟩
   ·cases hm
 | lookp i q ih =>
  intro hl b pc J d e H hs hsim hp hA h;have h:=h.adv hT hd0;simp only [Il,Z9] at hsim;rcases hsim with hf | hm
  ·exact Et IH hk hs hp hA h hf
  ·split at hm
   ·rename_i j p' hpc;simp only [Jd,beq_iff_eq] at hm;obtain ⟨⟨rfl,hov⟩,hm⟩:=hm;rw [hpc] at h;obtain ⟨o,v,ho,h0,h1,h2⟩:=h.lookp hTb hd0 hov;cases b with
    | false=>simp [Ao] at hp
    | true =>
     simp only [Ao,Jd] at hp;obtain ⟨hl',_,a2,a3,a4⟩:=ih hl true _ _ _ _ H (by simp only [psz] at hs; omega) hm hp.2 hA h2;refine ⟨hl',fun hx=>(by cases hx),a2,a3,?_⟩;unfold Ap;rw [ho];exact ⟨h0,v,h1,a4⟩
   ·cases hm
 | act i q alt ih ihalt =>
  intro hl b pc J d e H hs hsim hp hA h;have h:=h.adv hT hd0;have hpp:Ev ps l i=true/\(∃ d',Ao ps l m true d' q=true)/\Ao ps l m false d alt=true:=by
   cases b <;> simp only [Ao,Jd] at hp
   ·exact ⟨hp.1.1.1.2,⟨_,hp.1.2⟩,hp.2⟩
   ·exact ⟨hp.1.1.1.2,⟨_,hp.1.2⟩,hp.2⟩
  obtain ⟨heff,⟨d',hpq⟩,hpa⟩:=hpp;simp only [FH,Jd] at hA;obtain ⟨⟨hA0,hAq⟩,hAa⟩:=hA;simp only [psz] at hs;simp only [Il,Z9,Jd] at hsim;rcases hsim with hf | ⟨hm,hsa⟩
  ·refine Et IH hk (by simp only [psz]; exact hs) hp ?_ h hf;simp only [FH,Jd];exact ⟨⟨hA0,hAq⟩,hAa⟩
  ·obtain ⟨hl',c1,_,c3,c4⟩:=ihalt hl false _ _ d e H (by omega) hsa hpa hAa h;have c1:=c1 (Sx hpa);subst c1;refine ⟨_,fun _=>rfl,fun _ _ x=>x,c3,?_⟩;unfold Ap;refine ⟨?_,c4⟩;split at hm
   ·rename_i j p' altc hpc;rw [hpc] at h;simp only [Z9,Jd,beq_iff_eq,Zm] at hm;rcases hm with ⟨⟨rfl,hov⟩,hm⟩ | ⟨⟨⟨⟨hi,hfl⟩,hJ⟩,hov⟩,hm⟩
    ·obtain ⟨o,ho,h2⟩:=h.act hT hTb hd0 hQ hov (Mi heff).1;rw [ho];refine CL ?_ (fun _ _ _ h=>h) h2;rintro e' H' ⟨h3,h4⟩;obtain ⟨hl',_,a2,a3,a4⟩:=ih _ true _ _ _ e' H' (by omega) hm hpq hAq h4;exact ⟨Al hl',GS a2,a3,a4⟩
    ·obtain ⟨o,cs,el,wf,ho,hfo,hS,hho,h2⟩:=h.early hT (by simpa using hi) hfl (by simpa using hJ) hov;rw [ho];obtain ⟨hl',_,a2,a3,a4⟩:=ih _ true _ _ _ _ _ (by omega) hm hpq hAq (h2 hd0);exact Sa hfo hS ⟨Al hl',GS a2,a3,a4⟩
   ·cases hm
 | actd i q ih=>intro hl b pc J d e H hs hsim hp hA h; exact Et IH hk hs hp hA (h.adv hT hd0) hsim
 | acth i q ih=>intro hl b pc J d e H hs hsim hp hA h; exact Et IH hk hs hp hA (h.adv hT hd0) hsim
theorem Vt {m ps:List Nat} {N:Nat} (hT:Bl P T) (hTb:TOK P Tb) (hd0:B8 n l=true) (IH:∀ r,psz r < N->PQ σ F D P T Tb n l m ps Q k r) (hk:KOK σ F D φ k (Q .normal))
  {i:Nat} {p alt:Plan} {d:Nat} {hd:HD} {hl:List (Addr × Value)} {U:Nat->AV} {e:En} (hs:psz (.act i p alt)<=N) (hp:Ao ps l m true d (.act i p alt)=true) (hA:FH l (.act i p alt) true=true)
  (hr:Rel σ F φ A H) (he:ENV σ φ D U e) (hh:HDR σ φ hd hl) (hO:Only hd φ hl) (ho:Al hl H)
  (h:Kq T Tb l i U A alt (onO l i fun o=>Gr T Tb l o U A fun v A=>Gp o hd A (FI T Tb l p true hd (Cs U o.dst v) A k))=true) (hw:Vu l i p alt=true):Ap n P l (Al hl) Q alt e H:=by
 unfold Vu at hw
 split at hw
 ·rename_i j q j' i' q'
  simp only [Jd,beq_iff_eq] at hw
  obtain ⟨⟨⟨⟨rfl,rfl⟩,hq⟩,hsi⟩,hsj⟩:=hw
  have:=DR _ _ hq
  subst this
  obtain ⟨h,_,h3⟩:=EC hT he.er h
  have hff:KE l j=false:=by
   unfold KE;unfold T2 at hsj;cases ho:l[j]? with
   | none=>rfl
   | some o =>
    rw [ho] at hsj;obtain ⟨dst,op,type,pos,after,guard⟩:=o;cases op <;> first | rfl | (cases guard <;> cases dst <;> first | rfl | cases hsj)
  obtain ⟨o,oi,a,b,c,dd,hoj,hoi,ha,hc,hne,hga,hgc⟩:=h3 j (by simp [Plan.idxs]) hff
  unfold T2 at hsi hsj
  rw [hoi] at hsi
  rw [hoj] at hsj
  simp only at hsi hsj
  obtain ⟨dst,op,ty,pos,aft,guard⟩:=o
  obtain ⟨dst',op',ty',pos',aft',guard'⟩:=oi
  have form:∀ {dst:Option Nat} {op:Op} {ty:TypeId} {pos:String} {aft:Array Edge} {guard:Option (Nat × Bool)},TZ ⟨dst,op,ty,pos,aft,guard⟩=true->dst=none/\guard=none/\∃ t p x,op=.store t p x:=by
   intro dst op ty pos aft guard h;cases op <;> cases guard <;> cases dst <;> first | exact ⟨rfl,rfl,_,_,_,rfl⟩ | cases h
  obtain ⟨rfl,rfl,t,po,x,rfl⟩:=form hsj
  obtain ⟨rfl,rfl,t',po',x',rfl⟩:=form hsi
  obtain ⟨oo,hoo,h⟩:=CM h
  rw [hoi] at hoo
  cases hoo
  have h:Ax T t' (fun i=>stA A (ev U po') (ev U x') i.size fun A=>OO hd A (FI T Tb l (.act j q .non) true hd U A k))=true:=h
  obtain ⟨ti,hti,h⟩:=Ad hT h
  obtain ⟨ad',A1,H1,u1,u2,u3,h⟩:=Lz hti.size hr (Ah he.er po') (Ah he.er x') h
  obtain ⟨h,w1⟩:=Mm φ.le_refl u3 hh h
  have hold1:Al hl H1:=by
   intro a w' hw;obtain ⟨y,hy,e1,he1,rfl⟩:=hO a w' hw;obtain ⟨e2,w2,g1,g2,g3⟩:=w1 y hy;rw [he1] at g1; cases g1;rw [hw] at g2; cases g2;exact g3
  have h:Kq T Tb l j U A1 .non (onO l j fun o=>Gr T Tb l o U A1 fun v A=>Gp o hd A (FI T Tb l q true hd (Cs U o.dst v) A k))=true:=h
  obtain ⟨oo,hoo,h⟩:=CM h
  rw [hoj] at hoo
  cases hoo
  have h:Ax T t (fun i=>stA A1 (ev U po) (ev U x) i.size fun A=>OO hd A (FI T Tb l q true hd U A k))=true:=h
  obtain ⟨tj,htj,h⟩:=Ad hT h
  obtain ⟨ad,A2,H2,v1,v2,v3,h⟩:=Lz htj.size u3 (Ah he.er po) (Ah he.er x) h
  obtain ⟨h,w2⟩:=Mm φ.le_refl v3 hh h
  have hold2:Al hl H2:=by
   intro a w' hw;obtain ⟨y,hy,e1,he1,rfl⟩:=hO a w' hw;obtain ⟨e2,w3,g1,g2,g3⟩:=w2 y hy;rw [he1] at g1; cases g1;rw [hw] at g2; cases g2;exact g3
  have hblk:ad'.block ≠ ad.block:=by
   have ea:=Ah he.er po';have ec:=Ah he.er po;have ha:ev U po'=.p a b:=ha;have hc:ev U po=.p c dd:=hc;rw [ha,u1] at ea;rw [hc,v1] at ec;simp only [VR] at ea ec;obtain ⟨e1,f1,f2⟩:=ea;obtain ⟨e2,f3,f4⟩:=ec;simp only [Value.pointer.injEq,J5] at f2 f4;rw [f2,f4];intro hx;exact hne (hr.inj a c e1 e2 hga hgc f1 f3 hx)
  obtain ⟨H3,s1,s2,s3,s4⟩:=MB hblk u2 v2
  have hold3:Al hl H3:=by
   intro a w' hw;by_cases hb:a.block=ad.block
   ·have:=hold2 a w' hw;unfold A5 at this ⊢;rw [hb,s4]; rw [hb] at this; exact this
   ·have:=ho a w' hw;unfold A5 at this ⊢;rw [s3 _ hb]; exact this
  simp only [Ao,Jd] at hp
  simp only [FH,Jd] at hA
  simp only [psz] at hs
  obtain ⟨hl',_,a2,a3,a4⟩:=IH q (by omega) _ hd hl φ U A2 e H2 hp.1.2.1.2 hA.1.2.1.2 v3 he hh hO hold2 hk h
  unfold Ap
  rw [hoj]
  refine ⟨?_,by unfold Ap; trivial⟩
  show GJ (e.ev po) fun ad=>DU (e.ev x) fun v=>AQ (B1 P H t ad v) fun H'=>∃ hl',(∀ H,hl' H->Al hl H)/\hl' H'/\Ap n P l hl' Q _ e H'
  rw [v1]
  show AQ (B1 P H t ad (e.ev x)) _
  rw [s1]
  refine ⟨Al hl,fun _ x=>x,hold3,?_⟩
  unfold Ap
  rw [hoi]
  refine ⟨?_,by unfold Ap; trivial⟩
  show GJ (e.ev po') fun ad=>DU (e.ev x') fun v=>AQ (B1 P H3 t' ad v) fun H'=>∃ hl',(∀ H,hl' H->Al hl H)/\hl' H'/\Ap n P l hl' Q _ e H'
  rw [u1]
  show AQ (B1 P H3 t' ad' (e.ev x')) _
  rw [s2]
  exact ⟨Al hl',GS a2,a3,a4⟩
 ·cases hw
theorem R6 {m ps:List Nat} (hT:Bl P T) (hTb:TOK P Tb) (hd0:B8 n l=true) (hQ:PanOK Q):∀ (N:Nat) (p:Plan),psz p < N->PQ σ F D P T Tb n l m ps Q k p:=by
 have hdst:∀ {i:Nat} {o:Oper},l[i]?=some o->Dg n o.dst=true:=by
  intro i o ho;have:∀ o ∈ l,Dg n o.dst=true:=(by simpa [B8] using hd0);exact this o (J2 ho)
 intro N;induction N with
 | zero=>intro p hp; omega
 | succ N IH =>
  intro p hs d hd hl φ U A e H hp hA hr he hh hO ho hk h;cases p with
  | fin=>exact ⟨hl,fun _=>rfl,fun _ _ x=>x,ho,hk φ A U e H φ.le_refl hr he h⟩
  | non=>cases h
  | look i f p =>
   simp only [psz] at hs;simp only [Ao,Jd] at hp;obtain ⟨⟨⟨⟨_,heff⟩,_⟩,_⟩,hp⟩:=hp;obtain ⟨o,hio,h⟩:=CM h;have hq:isQ o.op=true:=by
    unfold By at heff;rw [hio] at heff;simpa using heff
   cases f with
   | true =>
    obtain ⟨v,r,h1,h2,h3⟩:=WX (l:=l) (n:=n) (Q:=Q) hT hr he.er hq h;obtain ⟨hl',a1,a2,a3,a4⟩:=IH p (by omega) _ hd hl φ _ A (e.put n o.dst r) H hp hA hr (he.put φ.le_refl (hdst hio) h1) hh hO ho hk h2;refine ⟨hl',fun hx=>(by cases hx),a2,a3,?_⟩;unfold Ap;rw [hio];exact h3 _ a4
   | false =>
    obtain ⟨hd',hl1,v,r,b1,b2,b3,b4,b5,b6,b7,b8⟩:=RW (l:=l) (n:=n) hT hr he.er hh ho h;obtain ⟨hl',a1,a2,a3,a4⟩:=IH p (by omega) _ hd' hl1 φ _ A (e.put n o.dst r) H hp hA hr (he.put φ.le_refl (hdst hio) b6) b4 (b5 hO) b3 hk b7;refine ⟨hl',fun hx=>(by cases hx),fun a w hw=>a2 _ _ (b2 _ _ hw),a3,?_⟩;unfold Ap;rw [hio];obtain ⟨v',g1,g2⟩:=LF.look (b8 hl' a2);rw [<- g2] at a4;exact ⟨v',g1,a4⟩
  | lookx i p =>
   simp only [psz] at hs;simp only [Ao,Jd] at hp;obtain ⟨_,hp⟩:=hp;obtain ⟨o,hio,h⟩:=CM h;obtain ⟨v,r,h1,h2,h3⟩:=RU (l:=l) hT hr he.er h;obtain ⟨hl',a1,a2,a3,a4⟩:=IH p (by omega) _ hd hl φ _ A (e.put n o.dst r) H hp hA hr (he.put φ.le_refl (hdst hio) h1) hh hO ho hk h2;refine ⟨hl',fun hx=>(by cases hx),a2,a3,?_⟩;unfold Ap;rw [hio];exact ⟨r,h3,a4⟩
  | lookp i p =>
   simp only [psz] at hs;simp only [Ao,Jd] at hp;obtain ⟨_,hp⟩:=hp;obtain ⟨o,hio,h⟩:=CM h;obtain ⟨v,r,h1,h2,h0,h3⟩:=RV (l:=l) (n:=n) hTb he.er h;obtain ⟨hl',a1,a2,a3,a4⟩:=IH p (by omega) _ hd hl φ _ A (e.put n o.dst r) H hp hA hr (he.put φ.le_refl (hdst hio) h1) hh hO ho hk h2;refine ⟨hl',fun hx=>(by cases hx),a2,a3,?_⟩;unfold Ap;rw [hio];exact ⟨h0,r,h3,a4⟩
  | act i p alt =>
   have hp0:=hp;have hA0:=hA;have hs0:psz (.act i p alt)<=N:=(by omega);simp only [psz] at hs;simp only [Ao,Jd] at hp;simp only [FH,Jd] at hA;have h0:Kq T Tb l i U A alt (onO l i fun o=>Gr T Tb l o U A fun v A=>Gp o hd A (FI T Tb l p true hd (Cs U o.dst v) A k))=true:=h;obtain ⟨h,_,_⟩:=EC hT he.er h0;obtain ⟨o,hio,h⟩:=CM h;refine ⟨hl,fun _=>rfl,fun _ _ x=>x,ho,?_⟩;unfold Ap;rw [hio];refine ⟨?_,?_⟩
   ·refine PO hT hTb hr he.er hh hO ho h ?_;intro v A' φ' w H' h1 h2 h3 ho' h5;obtain ⟨hl',_,a2,a3,a4⟩:=IH p (by omega) _ hd hl φ' _ A' (e.put n o.dst w) H' hp.1.2 hA.1.2 h2 (he.put h1 (hdst hio) h3) (hh.mono h1) (hO.mono h1) ho' (hk.mono h1) h5;exact ⟨Al hl',GS a2,a3,a4⟩
   ·have hb:YR l i p alt=true:=by
     have:=hA.1.1;simpa using this
    unfold YR at hb
    simp only [Z9] at hb
    rcases hb with (hb | hb) | hb
    ·have:=DR _ _ hb
     subst this
     unfold Ap; trivial
    ·obtain ⟨hl',c1,_,c3,c4⟩:=VU (N:=N) hT hTb hd0 hQ (fun r hr=>IH r hr) hk alt hl false (.act i p alt) [] d e H (by omega) hb hp.2 hA.2
      ⟨[],F,φ,A,U,e,hd,rfl,⟨List.nodup_nil,fun t _=>rfl,rfl,fun x hx=>by simp at hx,fun r _=>rfl,fun x hx=>by simp at hx,fun x hx=>by simp at hx,fun x hx=>by simp at hx⟩,φ.le_refl,h0,hr,he,hh,hO,ho,fun x hx=>by simp at hx⟩
     have c1:=c1 (Sx hp.2)
     subst c1
     exact c4
    ·exact Vt (N:=N) hT hTb hd0 (fun r hr=>IH r hr) hk hs0 hp0 hA0 hr he hh hO ho h0 hb
  | actd i p=>cases h
  | acth i p =>
   simp only [psz] at hs;simp only [Ao,Jd] at hp;obtain ⟨_,hp⟩:=hp;obtain ⟨o,hio,h⟩:=CM h;refine ⟨hl,fun _=>rfl,fun _ _ x=>x,ho,?_⟩;unfold Ap;rw [hio];refine PN hT hTb hr he.er h ?_;intro v A' φ' w H' h1 h2 h3 h4;obtain ⟨hl',_,_,a3,a4⟩:=IH p (by omega) _ [] [] φ' _ A' (e.put n o.dst w) H' hp hA h2 (he.put h1 (hdst hio) h3) (fun x hx=>by simp at hx) (fun a w hw=>by simp [Ak] at hw) (fun a w hw=>by simp [Ak] at hw) (hk.mono h1) h4;exact ⟨Al hl',a3,a4⟩
theorem Tg {p:Plan} {id:Nat} {U:Nat->AV} {e:En} (hm:P.follows .mixedOrders=true) (hT:Bl P T) (hTb:TOK P Tb) (hd0:B8 n l=true) (hp:IP l p=true) (hQ:PanOK Q) (hr:Rel σ F φ A H) (he:ENV σ φ D U e)
  (hk:KOK σ F D φ k (Q .normal)) (h:j0q T Tb l p U A k=true):CW n P (.region id l.toArray true) Q e H:=by
 unfold IP at hp
 simp only [Jd] at hp
 obtain ⟨hp,hA⟩:=hp
 have hp':=hp
 unfold DS at hp'
 simp only [Jd] at hp'
 obtain ⟨hl',_,_,h3,h4⟩:=R6 (Q:=Q) (m:=BU l) (ps:=p.yj) hT hTb hd0 hQ (psz p + 1) p (by omega) 0 [] [] φ U A e H hp'.2 hA hr he (fun x hx=>by simp at hx) (fun a w hw=>by simp [Ak] at hw) (fun a w hw=>by simp [Ak] at hw) hk h
 exact Fx p (Al hl') hm hp hQ h3 h4
end
end
end Go.Run
