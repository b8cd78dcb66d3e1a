/- The solver in memory: which blocks are its own, by roles; what each write to them does. -/
import Derived.Test.YtkdlmdmlomgdiaaGreatL04
set_option linter.unusedSimpArgs false
set_option linter.unusedVariables false
set_option maxRecDepth 10000
set_option maxHeartbeats 8000000
noncomputable section
namespace Go.HL
def HI (H:A3):List Addr->List (Addr × Value)
 | []=>[]
 | a :: r=>match A5 H a with
  | some v=>(a,v) :: HI H r
  | none=>HI H r
theorem F6 {H H':A3}:∀ {L:List Addr},(∀ a ∈ L,∀ v,A5 H a=some v->A5 H' a=some v)->Al (HI H L) H'
 | [],_,a,v,h=>by simp [HI,Ak] at h
 | b :: r,hL,a,v,h=>by
  unfold HI at h;split at h
  ·rename_i w hw;unfold Ak at h;split at h
   ·rename_i e;simp only at e h;subst e;exact hL b (by simp) v (by rw [hw]; exact h)
   ·exact F6 (fun a ha v hv=>hL a (by simp [ha]) v hv) a v h
  ·exact F6 (fun a ha v hv=>hL a (by simp [ha]) v hv) a v h
theorem K7 {H:A3} {L:List Addr}:Al (HI H L) H:=F6 fun _ _ _ h=>h
theorem Cz {H:A3} {a:Addr} {v:Value} (hc:A5 H a=some v):∀ {L:List Addr},a ∈ L->Ak (HI H L) a=some v
 | [],h=>by simp at h
 | b :: r,h=>by
  unfold HI;by_cases e:b=a
  ·subst e;rw [hc];simp [Ak]
  ·have hr:a ∈ r:=by
    rw [J7] at h;exact h.resolve_left (fun x=>e x.symm)
   split
   ·unfold Ak
    rw [J4 (by simpa using e)]
    exact Cz hc hr
   ·exact Cz hc hr
end Go.HL
namespace Go.Proofs.YtkdlmdmlomgdiaaGreat
open Go.HL HM Go.Sat
abbrev pv (b:Nat):Value:=.pointer (some ⟨b,0,none⟩)
abbrev pn (w:Option Nat):Value:=.pointer (w.map fun b=>⟨b,0,none⟩)
def nv (l:List Nat):List Value:=l.map fun x:Nat=>iv (x:Int)
abbrev sl (b n:Nat):Value:=.slice (some ⟨b,0,none⟩) n n
structure Sm (ow:Nat->Nat) (R:Nat->Prop) (H H':A3):Prop where
 size:H.size<=H'.size
 same:∀ b,b < H.size->¬ R (ow b)->H'[b]?=H[b]?
theorem Sm.refl {ow:Nat->Nat} {R:Nat->Prop} {H:A3}:Sm ow R H H:=⟨Jb _,fun _ _ _=>rfl⟩
theorem Sm.set {ow:Nat->Nat} {H:A3} {b i r:Nat} {v:Value} (h:ow b=r):Sm ow (· = r) H (Aw H ⟨b,i,none⟩ v) :=
 ⟨by rw [AA]; exact Jb _,fun x _ hx=>BA (fun e=>hx (e ▸ h))⟩
theorem Sm.of {ow:Nat->Nat} {R:Nat->Prop} {F:List Nat} {H H':A3} (h:Fr F H H') (hF:∀ b ∈ F,R (ow b)):Sm ow R H H':=⟨h.size,fun b hb hr=>h.same b hb fun e=>hr (hF b e)⟩
theorem Sm.mono {ow:Nat->Nat} {R R':Nat->Prop} {H H':A3} (h:Sm ow R H H') (hr:∀ r,R r->R' r):Sm ow R' H H':=⟨h.size,fun b hb hn=>h.same b hb fun e=>hn (hr _ e)⟩
theorem Sm.blk {ow:Nat->Nat} {R:Nat->Prop} {H H':A3} {b t:Nat} {vs:List Value} (h:Sm ow R H H') (hb:Blk H b t vs) (hr:¬ R (ow b)):Blk H' b t vs:=by
 unfold Blk; rw [h.same b hb.lt hr]; exact hb
def Ow (H:A3) (ow ow':Nat->Nat):Prop:=∀ b,b < H.size->ow' b=ow b
theorem Ow.refl {H:A3} {ow:Nat->Nat}:Ow H ow ow:=fun _ _=>rfl
structure BR (H:A3) (ow:Nat->Nat) (r b t:Nat) (vs:List Value):Prop where
 blk:Blk H b t vs
 ow:ow b=r
theorem BR.fr {H H':A3} {ow ow':Nat->Nat} {R:Nat->Prop} {r b t:Nat} {vs:List Value} (h:BR H ow r b t vs) (hs:Sm ow R H H') (ho:Ow H ow ow') (hr:¬ R r):BR H' ow' r b t vs :=
 ⟨hs.blk h.blk (by rw [h.ow]; exact hr),by rw [ho b h.blk.lt]; exact h.ow⟩
theorem BR.set {H:A3} {ow:Nat->Nat} {r b t:Nat} {vs vs':List Value} (h:BR H ow r b t vs) (i:Nat) (v:Value) (e:vs.set i v=vs'):BR (Aw H ⟨b,i,none⟩ v) ow r b t vs':=⟨e ▸ h.blk.set i v,h.ow⟩
structure VR (H:A3) (ow:Nat->Nat) (r e z:Nat) (v:Value) (vs:List Value):Prop where
 vec:Vec H e z v vs
 ow:∀ b ∈ own v,ow b=r
theorem VR.fr {H H':A3} {ow ow':Nat->Nat} {R:Nat->Prop} {r e z:Nat} {v:Value} {vs:List Value} (h:VR H ow r e z v vs) (hs:Sm ow R H H') (ho:Ow H ow ow') (hr:¬ R r):VR H' ow' r e z v vs:=by
 refine ⟨?_,fun b hb=>by rw [ho b (h.vec.lt b hb)]; exact h.ow b hb⟩;rcases h.vec.ex with h1 | ⟨b,len,cap,pre,rest,rfl,hb,h2⟩
 ·exact ⟨.inl h1⟩
 ·exact ⟨.inr ⟨b,len,cap,pre,rest,rfl,hs.blk hb (by rw [h.ow b (by simp [own])]; exact hr),h2⟩⟩
theorem BR.ad {H:A3} {ow ow':Nat->Nat} {r b t:Nat} {vs:List Value} (h:BR H ow r b t vs) (ho:∀ b,ow b ≠ 0->ow' b=ow b) (hr:r ≠ 0):BR H ow' r b t vs:=⟨h.blk,by rw [ho b (by rw [h.ow]; exact hr)]; exact h.ow⟩
theorem VR.ad {H:A3} {ow ow':Nat->Nat} {r e z:Nat} {v:Value} {vs:List Value} (h:VR H ow r e z v vs) (ho:∀ b,ow b ≠ 0->ow' b=ow b) (hr:r ≠ 0):VR H ow' r e z v vs:=⟨h.vec,fun b hb=>by rw [ho b (by rw [h.ow b hb]; exact hr)]; exact h.ow b hb⟩
theorem VR.nil {H:A3} {ow:Nat->Nat} {r e z:Nat}:VR H ow r e z (.slice none 0 0) []:=⟨Vec.nil,by simp [own]⟩
theorem VR.form {H:A3} {ow:Nat->Nat} {r e:Nat} {v:Value} {vs:List Value} (h:VR H ow r e 1 v vs):∃ a cap,v=.slice a vs.length cap:=by
 obtain ⟨a,len,cap,rfl,hl⟩:=h.vec.len;rw [Jy] at hl; subst hl;exact ⟨a,cap,rfl⟩
theorem VR.at {H:A3} {ow:Nat->Nat} {r e:Nat} {v:Value} {vs:List Value} (h:VR H ow r e 1 v vs) {i:Nat} {u:Value} (hi:vs[i]?=some u):∃ b o cap,v=.slice (some ⟨b,o,none⟩) vs.length cap/\ow b=r/\∀ j,A5 H ⟨b,o + j,none⟩=vs[j]?\/vs.length<=j:=by
 obtain ⟨b,o,len,cap,rfl,hl,hc⟩:=h.vec.cell (by intro e; subst e; simp at hi);rw [Jy] at hl; subst hl;refine ⟨b,o,cap,rfl,h.ow b (by simp [own]),fun j=>?_⟩;by_cases hj:j < vs.length
 ·exact .inl (hc j hj)
 ·exact .inr (by omega)
theorem VR.cell {H:A3} {ow:Nat->Nat} {r e:Nat} {v:Value} {vs:List Value} (h:VR H ow r e 1 v vs) {i:Nat} {u:Value} (hi:vs[i]?=some u):∃ b o cap,v=.slice (some ⟨b,o,none⟩) vs.length cap/\ow b=r/\A5 H ⟨b,o + i,none⟩=some u:=by
 obtain ⟨b,o,cap,rfl,ho,hc⟩:=h.at hi;refine ⟨b,o,cap,rfl,ho,?_⟩;rcases hc i with h1 | h1
 ·rw [h1,hi]
 ·have:=(J3.1 hi).1; omega
theorem Bu {l:List Nat} {i x:Nat} (h:l[i]?=some x):(nv l)[i]?=some (iv (x:Int)):=by simp [nv,h]
theorem Am {l:List Nat}:(nv l).length=l.length:=by simp [nv]
theorem CO {l m:List Nat}:nv (l ++ m)=nv l ++ nv m:=by simp [nv]
theorem WC {l:List Nat} {i x:Nat} (h:l[i]?=some x):(l.map pv)[i]?=some (pv x):=by simp [h]
structure Bk where
 bv:Nat
 bl:Nat
 br:Nat
 bs:Nat
 ba:Nat
 bw:Nat
 ho:Nat
 hb:Nat
 hp:Nat
 ha:Nat
structure Cf where
 given:Value
 lines:Value
 model:Value
 core:Value
 trail:Value
 starts:Value
 learned:Value
 gs:List Value
 gl:List (List Int)
 ls:List Value
 loaded:Nat
 conf:Nat
 head:Nat
 step:Int
 room:Int
 rounds:Nat
 dead:Bool
 lrn:List Nat
 vals:List Int
 lvls:List Nat
 seen:List Bool
 last:List Bool
 rea:Nat->Option Nat
 tr:List Nat
 st:List Nat
 m:Nat
 os:List Int
 pl:List Int
 ac:List Int
 ws:Nat->Value
 w:Nat->List Nat
 C:List Nat
 lits:Nat->List Nat
 lb:Nat->Value
 l2:Nat->Nat
abbrev Cf.xd (f:Cf) (q0:List Int):Cf:={ f with vals:=q0 }
abbrev Cf.vi (f:Cf) (q0:List Nat):Cf:={ f with lvls:=q0 }
abbrev Cf.zx (f:Cf) (q0:List Bool):Cf:={ f with seen:=q0 }
abbrev Cf.sg (f:Cf) (q0:List Bool):Cf:={ f with last:=q0 }
abbrev Cf.ux (f:Cf) (q0:Nat->Option Nat):Cf:={ f with rea:=q0 }
abbrev Cf.yw (f:Cf) (q0:Nat->Value) (q1:Nat->List Nat):Cf:={ f with ws:=q0,w:=q1 }
abbrev Cf.ud (f:Cf) (q0:Nat):Cf:={ f with loaded:=q0 }
abbrev Cf.td (f:Cf) (q0:Nat):Cf:={ f with conf:=q0 }
abbrev Cf.zy (f:Cf) (q0:Value):Cf:={ f with model:=q0 }
abbrev Cf.xw (f:Cf) (q0:Value):Cf:={ f with core:=q0 }
abbrev Cf.qj (f:Cf) (q0:Nat):Cf:={ f with head:=q0 }
abbrev Cf.uw (f:Cf) (q0:Int):Cf:={ f with step:=q0 }
abbrev Cf.xx (f:Cf) (q0:Nat):Cf:={ f with rounds:=q0 }
abbrev Cf.uz (f:Cf) (q0:Bool):Cf:={ f with dead:=q0 }
abbrev Cf.vx (f:Cf) (q0:Value) (q1:List Nat):Cf:={ f with trail:=q0,tr:=q1 }
abbrev Cf.zu (f:Cf) (q0:Value) (q1:List Nat):Cf:={ f with starts:=q0,st:=q1 }
abbrev Cf.uy (f:Cf) (q0:Value) (q1:List Nat):Cf:={ f with learned:=q0,lrn:=q1 }
abbrev Cf.yf (f:Cf) (q0:Value) (q1:List Value):Cf:={ f with lines:=q0,ls:=q1 }
abbrev Cf.jf (f:Cf) (q0:Value) (q1:List Value) (q2:List (List Int)):Cf:={ f with given:=q0,gs:=q1,gl:=q2 }
abbrev Cf.ve (f:Cf) (q0:Nat->List Nat):Cf:={ f with lits:=q0 }
abbrev Cf.zj (f:Cf) (q0:Nat) (q1:List Int) (q2:List Int) (q3:List Int):Cf:={ f with m:=q0,os:=q1,pl:=q2,ac:=q3 }
abbrev Cf.gu (f:Cf) (q0:List Nat) (q1:Nat->List Nat) (q2:Nat->Value) (q3:Nat->Nat):Cf:={ f with C:=q0,lits:=q1,lb:=q2,l2:=q3 }
def Cf.s (f:Cf):St:=⟨f.tr,f.st,f.rea,f.lits⟩
def CZ (n:Nat) (k:Bk) (f:Cf):List Value :=
 [iv n,f.given,iv f.loaded,f.lines,iv f.conf,f.model,f.core,pv k.ho,sl k.bw (2 * n + 2),sl k.bv (2 * n + 2),sl k.bl (n + 1),sl k.br (n + 1),sl k.bs (n + 1),sl k.ba (n + 1),
  f.trail,f.starts,iv f.head,.int .i64 f.step,f.learned,iv f.room,iv f.rounds,.bool f.dead]
structure HR (H:A3) (ow:Nat->Nat) (ho hb hp ha n m:Nat) (os pl ac:List Int):Prop where
 hg:HG H ho hb hp ha n m os pl ac
 o1:ow ho=11
 o2:ow hb=12
 o3:ow hp=13
 o4:ow ha=14
theorem HR.fr {H H':A3} {ow ow':Nat->Nat} {R:Nat->Prop} {ho hb hp ha n m:Nat} {os pl ac:List Int} (h:HR H ow ho hb hp ha n m os pl ac) (hs:Sm ow R H H') (hO:Ow H ow ow') (h1:¬ R 11) (h2:¬ R 12) (h3:¬ R 13) (h4:¬ R 14):HR H' ow' ho hb hp ha n m os pl ac :=
 ⟨⟨⟨hs.blk h.hg.ha.self (by rw [h.o1]; exact h1),hs.blk h.hg.ha.io (by rw [h.o2]; exact h2),hs.blk h.hg.ha.ip (by rw [h.o3]; exact h3),hs.blk h.hg.ha.ia (by rw [h.o4]; exact h4),h.hg.ha.lo,h.hg.ha.lp,h.hg.ha.la,h.hg.ha.ne,h.hg.ha.big⟩,h.hg.ok,h.hg.ord,h.hg.act⟩,
  by rw [hO _ h.hg.ha.self.lt]; exact h.o1,by rw [hO _ h.hg.ha.io.lt]; exact h.o2,by rw [hO _ h.hg.ha.ip.lt]; exact h.o3,by rw [hO _ h.hg.ha.ia.lt]; exact h.o4⟩
structure CR (H:A3) (ow:Nat->Nat) (c:Nat) (v:Value) (l:List Nat) (k:Nat):Prop where
 blk:BR H ow 18 c 182 [v,iv (k:Int),.bool false]
 lits:VR H ow (101 + 2 * c) 3 1 v (nv l)
theorem CR.fr {H H':A3} {ow ow':Nat->Nat} {R:Nat->Prop} {c k:Nat} {v:Value} {l:List Nat} (h:CR H ow c v l k) (hs:Sm ow R H H') (ho:Ow H ow ow') (h1:¬ R 18) (h2:¬ R (101 + 2 * c)):CR H' ow' c v l k :=
 ⟨h.blk.fr hs ho h1,h.lits.fr hs ho h2⟩
structure RM (H:A3) (ow:Nat->Nat) (p n:Nat) (k:Bk) (f:Cf):Prop where
 self:BR H ow 1 p 68 (CZ n k f)
 vals:BR H ow 2 k.bv 179 (f.vals.map (Value.int .i8))
 lvls:BR H ow 3 k.bl 3 (nv f.lvls)
 reas:BR H ow 4 k.br 124 ((List.range (n + 1)).map fun v=>pn (f.rea v))
 seen:BR H ow 5 k.bs 4 (f.seen.map Value.bool)
 last:BR H ow 6 k.ba 4 (f.last.map Value.bool)
 wat:BR H ow 7 k.bw 64 ((List.range (2 * n + 2)).map f.ws)
 wl:∀ x,x < 2 * n + 2->VR H ow (100 + 2 * x) 124 1 (f.ws x) ((f.w x).map pv)
 trail:VR H ow 8 3 1 f.trail (nv f.tr)
 starts:VR H ow 9 3 1 f.starts (nv f.st)
 learned:VR H ow 10 124 1 f.learned (f.lrn.map pv)
 order:HR H ow k.ho k.hb k.hp k.ha n f.m f.os f.pl f.ac
 lines:VR H ow 15 79 2 f.lines f.ls
 given:VR H ow 16 23 1 f.given f.gs
 gcl:∀ (i:Nat) (v:Value) (g:List Int),f.gs[i]?=some v->f.gl[i]?=some g->VR H ow 17 3 1 v (g.map iv)
 con:∀ c ∈ f.C,CR H ow c (f.lb c) (f.lits c) (f.l2 c)
 lo:∀ b,ow b ≠ 0->b < H.size
 nv:f.vals.length=2 * n + 2
 nl:f.lvls.length=n + 1
 ns:f.seen.length=n + 1
 na:f.last.length=n + 1
 ng:f.gs.length=f.gl.length
section
variable {H H':A3} {ow ow':Nat->Nat} {R:Nat->Prop} {p n:Nat} {k:Bk} {f:Cf}
theorem RM.lo' (h:RM H ow p n k f) (hs:H.size<=H'.size) (hO:Ow H ow ow') (hn:∀ b,H.size<=b->ow' b ≠ 0->b < H'.size):∀ b,ow' b ≠ 0->b < H'.size:=by
 intro b hb;by_cases hl:b < H.size
 ·omega
 ·exact hn b (by omega) hb
theorem RM.free (h:RM H ow p n k f) {b:Nat} (hb:H.size<=b):ow b=0:=by
 by_cases e:ow b=0
 ·exact e
 ·have:=h.lo b e; omega
theorem RM.fr (h:RM H ow p n k f) (hs:Sm ow R H H') (hO:Ow H ow ow') (hn:∀ b,H.size<=b->ow' b ≠ 0->b < H'.size) (hR:∀ r,R r->r=0) :
  RM H' ow' p n k f:=by
 exact ⟨h.self.fr hs hO (by intro e; have:=hR _ e; omega),
  h.vals.fr hs hO (by intro e; have:=hR _ e; omega),
  h.lvls.fr hs hO (by intro e; have:=hR _ e; omega),
  h.reas.fr hs hO (by intro e; have:=hR _ e; omega),
  h.seen.fr hs hO (by intro e; have:=hR _ e; omega),
  h.last.fr hs hO (by intro e; have:=hR _ e; omega),
  h.wat.fr hs hO (by intro e; have:=hR _ e; omega),
  fun x hx=>(h.wl x hx).fr hs hO (by intro e; have:=hR _ e; omega),
  h.trail.fr hs hO (by intro e; have:=hR _ e; omega),
  h.starts.fr hs hO (by intro e; have:=hR _ e; omega),
  h.learned.fr hs hO (by intro e; have:=hR _ e; omega),
  h.order.fr hs hO (by intro e; have:=hR _ e; omega) (by intro e; have:=hR _ e; omega) (by intro e; have:=hR _ e; omega) (by intro e; have:=hR _ e; omega),
  h.lines.fr hs hO (by intro e; have:=hR _ e; omega),
  h.given.fr hs hO (by intro e; have:=hR _ e; omega),
  fun i v g h1 h2=>(h.gcl i v g h1 h2).fr hs hO (by intro e; have:=hR _ e; omega),
  fun c hc=>(h.con c hc).fr hs hO (by intro e; have:=hR _ e; omega) (by intro e; have:=hR _ e; omega),
  h.lo' hs.size hO hn,
  h.nv,
  h.nl,
  h.ns,
  h.na,
  h.ng⟩
theorem Hp {α β:Type} (g:Nat->α) (k:α->β) (N:Nat) {x:Nat} {v:α}:((List.range N).map fun i=>k (g i)).set x (k v)=(List.range N).map fun i=>k (upd g x v i):=by
 apply Ye (by simp);intro i h1 h2;rw [List.getElem_set];simp only [Xu,V4];split
 ·rename_i e; subst e; rw [A8]
 ·rename_i e; rw [Af (Ne.symm e)]
theorem RM.jh (h:RM H ow p n k f) {x:Nat} (v:Int) :
  RM (Aw H ⟨k.bv,x,none⟩ (.int .i8 v)) ow p n k (f.xd (f.vals.set x v)):=by
 have hO:Ow H ow ow:=Ow.refl
 have hs:=Sm.set (H:=H) (i:=x) (v:=(.int .i8 v)) h.vals.ow
 exact ⟨h.self.fr hs hO (by omega),
  h.vals.set x _ (by rw [Yn]),
  h.lvls.fr hs hO (by omega),
  h.reas.fr hs hO (by omega),
  h.seen.fr hs hO (by omega),
  h.last.fr hs hO (by omega),
  h.wat.fr hs hO (by omega),
  fun x hx=>(h.wl x hx).fr hs hO (by omega),
  h.trail.fr hs hO (by omega),
  h.starts.fr hs hO (by omega),
  h.learned.fr hs hO (by omega),
  h.order.fr hs hO (by omega) (by omega) (by omega) (by omega),
  h.lines.fr hs hO (by omega),
  h.given.fr hs hO (by omega),
  fun i v g h1 h2=>(h.gcl i v g h1 h2).fr hs hO (by omega),
  fun c hc=>(h.con c hc).fr hs hO (by omega) (by omega),
  h.lo' hs.size hO (fun b hb he=>by have:=h.free hb; rw [this] at he; exact absurd rfl he),
  (by simpa using h.nv),
  h.nl,
  h.ns,
  h.na,
  h.ng⟩
theorem RM.jj (h:RM H ow p n k f) {x:Nat} (v:Nat) :
  RM (Aw H ⟨k.bl,x,none⟩ (iv (v:Int))) ow p n k (f.vi (f.lvls.set x v)):=by
 have hO:Ow H ow ow:=Ow.refl
 have hs:=Sm.set (H:=H) (i:=x) (v:=(iv (v:Int))) h.lvls.ow
 exact ⟨h.self.fr hs hO (by omega),
  h.vals.fr hs hO (by omega),
  h.lvls.set x _ (by simp only [Go.Proofs.YtkdlmdmlomgdiaaGreat.nv,Yn]),
  h.reas.fr hs hO (by omega),
  h.seen.fr hs hO (by omega),
  h.last.fr hs hO (by omega),
  h.wat.fr hs hO (by omega),
  fun x hx=>(h.wl x hx).fr hs hO (by omega),
  h.trail.fr hs hO (by omega),
  h.starts.fr hs hO (by omega),
  h.learned.fr hs hO (by omega),
  h.order.fr hs hO (by omega) (by omega) (by omega) (by omega),
  h.lines.fr hs hO (by omega),
  h.given.fr hs hO (by omega),
  fun i v g h1 h2=>(h.gcl i v g h1 h2).fr hs hO (by omega),
  fun c hc=>(h.con c hc).fr hs hO (by omega) (by omega),
  h.lo' hs.size hO (fun b hb he=>by have:=h.free hb; rw [this] at he; exact absurd rfl he),
  h.nv,
  (by simpa using h.nl),
  h.ns,
  h.na,
  h.ng⟩
theorem RM.oa (h:RM H ow p n k f) {x:Nat} (v:Bool) :
  RM (Aw H ⟨k.bs,x,none⟩ (.bool v)) ow p n k (f.zx (f.seen.set x v)):=by
 have hO:Ow H ow ow:=Ow.refl
 have hs:=Sm.set (H:=H) (i:=x) (v:=(.bool v)) h.seen.ow
 exact ⟨h.self.fr hs hO (by omega),
  h.vals.fr hs hO (by omega),
  h.lvls.fr hs hO (by omega),
  h.reas.fr hs hO (by omega),
  h.seen.set x _ (by rw [Yn]),
  h.last.fr hs hO (by omega),
  h.wat.fr hs hO (by omega),
  fun x hx=>(h.wl x hx).fr hs hO (by omega),
  h.trail.fr hs hO (by omega),
  h.starts.fr hs hO (by omega),
  h.learned.fr hs hO (by omega),
  h.order.fr hs hO (by omega) (by omega) (by omega) (by omega),
  h.lines.fr hs hO (by omega),
  h.given.fr hs hO (by omega),
  fun i v g h1 h2=>(h.gcl i v g h1 h2).fr hs hO (by omega),
  fun c hc=>(h.con c hc).fr hs hO (by omega) (by omega),
  h.lo' hs.size hO (fun b hb he=>by have:=h.free hb; rw [this] at he; exact absurd rfl he),
  h.nv,
  h.nl,
  (by simpa using h.ns),
  h.na,
  h.ng⟩
theorem RM.ob (h:RM H ow p n k f) {x:Nat} (v:Bool) :
  RM (Aw H ⟨k.ba,x,none⟩ (.bool v)) ow p n k (f.sg (f.last.set x v)):=by
 have hO:Ow H ow ow:=Ow.refl
 have hs:=Sm.set (H:=H) (i:=x) (v:=(.bool v)) h.last.ow
 exact ⟨h.self.fr hs hO (by omega),
  h.vals.fr hs hO (by omega),
  h.lvls.fr hs hO (by omega),
  h.reas.fr hs hO (by omega),
  h.seen.fr hs hO (by omega),
  h.last.set x _ (by rw [Yn]),
  h.wat.fr hs hO (by omega),
  fun x hx=>(h.wl x hx).fr hs hO (by omega),
  h.trail.fr hs hO (by omega),
  h.starts.fr hs hO (by omega),
  h.learned.fr hs hO (by omega),
  h.order.fr hs hO (by omega) (by omega) (by omega) (by omega),
  h.lines.fr hs hO (by omega),
  h.given.fr hs hO (by omega),
  fun i v g h1 h2=>(h.gcl i v g h1 h2).fr hs hO (by omega),
  fun c hc=>(h.con c hc).fr hs hO (by omega) (by omega),
  h.lo' hs.size hO (fun b hb he=>by have:=h.free hb; rw [this] at he; exact absurd rfl he),
  h.nv,
  h.nl,
  h.ns,
  (by simpa using h.na),
  h.ng⟩
theorem RM.ji (h:RM H ow p n k f) {x:Nat} (v:Option Nat) :
  RM (Aw H ⟨k.br,x,none⟩ (pn v)) ow p n k (f.ux (upd f.rea x v)):=by
 have hO:Ow H ow ow:=Ow.refl
 have hs:=Sm.set (H:=H) (i:=x) (v:=(pn v)) h.reas.ow
 exact ⟨h.self.fr hs hO (by omega),
  h.vals.fr hs hO (by omega),
  h.lvls.fr hs hO (by omega),
  h.reas.set x _ (Hp _ _ _),
  h.seen.fr hs hO (by omega),
  h.last.fr hs hO (by omega),
  h.wat.fr hs hO (by omega),
  fun x hx=>(h.wl x hx).fr hs hO (by omega),
  h.trail.fr hs hO (by omega),
  h.starts.fr hs hO (by omega),
  h.learned.fr hs hO (by omega),
  h.order.fr hs hO (by omega) (by omega) (by omega) (by omega),
  h.lines.fr hs hO (by omega),
  h.given.fr hs hO (by omega),
  fun i v g h1 h2=>(h.gcl i v g h1 h2).fr hs hO (by omega),
  fun c hc=>(h.con c hc).fr hs hO (by omega) (by omega),
  h.lo' hs.size hO (fun b hb he=>by have:=h.free hb; rw [this] at he; exact absurd rfl he),
  h.nv,
  h.nl,
  h.ns,
  h.na,
  h.ng⟩
theorem RM.jg (h:RM H ow p n k f) {x:Nat} {v:Value} {l:List Nat} (hv:VR H ow (100 + 2 * x) 124 1 v (l.map pv)) :
  RM (Aw H ⟨k.bw,x,none⟩ v) ow p n k (f.yw (upd f.ws x v) (upd f.w x l)):=by
 have hO:Ow H ow ow:=Ow.refl
 have hs:=Sm.set (H:=H) (i:=x) (v:=v) h.wat.ow
 exact ⟨h.self.fr hs hO (by omega),
  h.vals.fr hs hO (by omega),
  h.lvls.fr hs hO (by omega),
  h.reas.fr hs hO (by omega),
  h.seen.fr hs hO (by omega),
  h.last.fr hs hO (by omega),
  h.wat.set x _ (Hp _ (fun v=>v) _),
  fun y hy=>by
   by_cases e:y=x
   ·subst e; simp only [A8]; exact hv.fr hs hO (by omega)
   ·simp only [Af e]; exact (h.wl y hy).fr hs hO (by omega),
  h.trail.fr hs hO (by omega),
  h.starts.fr hs hO (by omega),
  h.learned.fr hs hO (by omega),
  h.order.fr hs hO (by omega) (by omega) (by omega) (by omega),
  h.lines.fr hs hO (by omega),
  h.given.fr hs hO (by omega),
  fun i v g h1 h2=>(h.gcl i v g h1 h2).fr hs hO (by omega),
  fun c hc=>(h.con c hc).fr hs hO (by omega) (by omega),
  h.lo' hs.size hO (fun b hb he=>by have:=h.free hb; rw [this] at he; exact absurd rfl he),
  h.nv,
  h.nl,
  h.ns,
  h.na,
  h.ng⟩
theorem RM.rh (h:RM H ow p n k f) (v:Nat) :
  RM (Aw H ⟨p,2,none⟩ (iv (v:Int))) ow p n k (f.ud v):=by
 have hO:Ow H ow ow:=Ow.refl
 have hs:=Sm.set (H:=H) (i:=2) (v:=(iv (v:Int))) h.self.ow
 exact ⟨h.self.set 2 _ rfl,
  h.vals.fr hs hO (by omega),
  h.lvls.fr hs hO (by omega),
  h.reas.fr hs hO (by omega),
  h.seen.fr hs hO (by omega),
  h.last.fr hs hO (by omega),
  h.wat.fr hs hO (by omega),
  fun x hx=>(h.wl x hx).fr hs hO (by omega),
  h.trail.fr hs hO (by omega),
  h.starts.fr hs hO (by omega),
  h.learned.fr hs hO (by omega),
  h.order.fr hs hO (by omega) (by omega) (by omega) (by omega),
  h.lines.fr hs hO (by omega),
  h.given.fr hs hO (by omega),
  fun i v g h1 h2=>(h.gcl i v g h1 h2).fr hs hO (by omega),
  fun c hc=>(h.con c hc).fr hs hO (by omega) (by omega),
  h.lo' hs.size hO (fun b hb he=>by have:=h.free hb; rw [this] at he; exact absurd rfl he),
  h.nv,
  h.nl,
  h.ns,
  h.na,
  h.ng⟩
theorem RM.oh (h:RM H ow p n k f) (v:Nat) :
  RM (Aw H ⟨p,4,none⟩ (iv (v:Int))) ow p n k (f.td v):=by
 have hO:Ow H ow ow:=Ow.refl
 have hs:=Sm.set (H:=H) (i:=4) (v:=(iv (v:Int))) h.self.ow
 exact ⟨h.self.set 4 _ rfl,
  h.vals.fr hs hO (by omega),
  h.lvls.fr hs hO (by omega),
  h.reas.fr hs hO (by omega),
  h.seen.fr hs hO (by omega),
  h.last.fr hs hO (by omega),
  h.wat.fr hs hO (by omega),
  fun x hx=>(h.wl x hx).fr hs hO (by omega),
  h.trail.fr hs hO (by omega),
  h.starts.fr hs hO (by omega),
  h.learned.fr hs hO (by omega),
  h.order.fr hs hO (by omega) (by omega) (by omega) (by omega),
  h.lines.fr hs hO (by omega),
  h.given.fr hs hO (by omega),
  fun i v g h1 h2=>(h.gcl i v g h1 h2).fr hs hO (by omega),
  fun c hc=>(h.con c hc).fr hs hO (by omega) (by omega),
  h.lo' hs.size hO (fun b hb he=>by have:=h.free hb; rw [this] at he; exact absurd rfl he),
  h.nv,
  h.nl,
  h.ns,
  h.na,
  h.ng⟩
theorem RM.qm (h:RM H ow p n k f) (v:Value) :
  RM (Aw H ⟨p,5,none⟩ v) ow p n k (f.zy v):=by
 have hO:Ow H ow ow:=Ow.refl
 have hs:=Sm.set (H:=H) (i:=5) (v:=v) h.self.ow
 exact ⟨h.self.set 5 _ rfl,
  h.vals.fr hs hO (by omega),
  h.lvls.fr hs hO (by omega),
  h.reas.fr hs hO (by omega),
  h.seen.fr hs hO (by omega),
  h.last.fr hs hO (by omega),
  h.wat.fr hs hO (by omega),
  fun x hx=>(h.wl x hx).fr hs hO (by omega),
  h.trail.fr hs hO (by omega),
  h.starts.fr hs hO (by omega),
  h.learned.fr hs hO (by omega),
  h.order.fr hs hO (by omega) (by omega) (by omega) (by omega),
  h.lines.fr hs hO (by omega),
  h.given.fr hs hO (by omega),
  fun i v g h1 h2=>(h.gcl i v g h1 h2).fr hs hO (by omega),
  fun c hc=>(h.con c hc).fr hs hO (by omega) (by omega),
  h.lo' hs.size hO (fun b hb he=>by have:=h.free hb; rw [this] at he; exact absurd rfl he),
  h.nv,
  h.nl,
  h.ns,
  h.na,
  h.ng⟩
theorem RM.og (h:RM H ow p n k f) (v:Value) :
  RM (Aw H ⟨p,6,none⟩ v) ow p n k (f.xw v):=by
 have hO:Ow H ow ow:=Ow.refl
 have hs:=Sm.set (H:=H) (i:=6) (v:=v) h.self.ow
 exact ⟨h.self.set 6 _ rfl,
  h.vals.fr hs hO (by omega),
  h.lvls.fr hs hO (by omega),
  h.reas.fr hs hO (by omega),
  h.seen.fr hs hO (by omega),
  h.last.fr hs hO (by omega),
  h.wat.fr hs hO (by omega),
  fun x hx=>(h.wl x hx).fr hs hO (by omega),
  h.trail.fr hs hO (by omega),
  h.starts.fr hs hO (by omega),
  h.learned.fr hs hO (by omega),
  h.order.fr hs hO (by omega) (by omega) (by omega) (by omega),
  h.lines.fr hs hO (by omega),
  h.given.fr hs hO (by omega),
  fun i v g h1 h2=>(h.gcl i v g h1 h2).fr hs hO (by omega),
  fun c hc=>(h.con c hc).fr hs hO (by omega) (by omega),
  h.lo' hs.size hO (fun b hb he=>by have:=h.free hb; rw [this] at he; exact absurd rfl he),
  h.nv,
  h.nl,
  h.ns,
  h.na,
  h.ng⟩
theorem RM.oc (h:RM H ow p n k f) (v:Nat) :
  RM (Aw H ⟨p,16,none⟩ (iv (v:Int))) ow p n k (f.qj v):=by
 have hO:Ow H ow ow:=Ow.refl
 have hs:=Sm.set (H:=H) (i:=16) (v:=(iv (v:Int))) h.self.ow
 exact ⟨h.self.set 16 _ rfl,
  h.vals.fr hs hO (by omega),
  h.lvls.fr hs hO (by omega),
  h.reas.fr hs hO (by omega),
  h.seen.fr hs hO (by omega),
  h.last.fr hs hO (by omega),
  h.wat.fr hs hO (by omega),
  fun x hx=>(h.wl x hx).fr hs hO (by omega),
  h.trail.fr hs hO (by omega),
  h.starts.fr hs hO (by omega),
  h.learned.fr hs hO (by omega),
  h.order.fr hs hO (by omega) (by omega) (by omega) (by omega),
  h.lines.fr hs hO (by omega),
  h.given.fr hs hO (by omega),
  fun i v g h1 h2=>(h.gcl i v g h1 h2).fr hs hO (by omega),
  fun c hc=>(h.con c hc).fr hs hO (by omega) (by omega),
  h.lo' hs.size hO (fun b hb he=>by have:=h.free hb; rw [this] at he; exact absurd rfl he),
  h.nv,
  h.nl,
  h.ns,
  h.na,
  h.ng⟩
theorem RM.p9 (h:RM H ow p n k f) (v:Int) :
  RM (Aw H ⟨p,17,none⟩ (.int .i64 v)) ow p n k (f.uw v):=by
 have hO:Ow H ow ow:=Ow.refl
 have hs:=Sm.set (H:=H) (i:=17) (v:=(.int .i64 v)) h.self.ow
 exact ⟨h.self.set 17 _ rfl,
  h.vals.fr hs hO (by omega),
  h.lvls.fr hs hO (by omega),
  h.reas.fr hs hO (by omega),
  h.seen.fr hs hO (by omega),
  h.last.fr hs hO (by omega),
  h.wat.fr hs hO (by omega),
  fun x hx=>(h.wl x hx).fr hs hO (by omega),
  h.trail.fr hs hO (by omega),
  h.starts.fr hs hO (by omega),
  h.learned.fr hs hO (by omega),
  h.order.fr hs hO (by omega) (by omega) (by omega) (by omega),
  h.lines.fr hs hO (by omega),
  h.given.fr hs hO (by omega),
  fun i v g h1 h2=>(h.gcl i v g h1 h2).fr hs hO (by omega),
  fun c hc=>(h.con c hc).fr hs hO (by omega) (by omega),
  h.lo' hs.size hO (fun b hb he=>by have:=h.free hb; rw [this] at he; exact absurd rfl he),
  h.nv,
  h.nl,
  h.ns,
  h.na,
  h.ng⟩
theorem RM.rf (h:RM H ow p n k f) (v:Nat) :
  RM (Aw H ⟨p,20,none⟩ (iv (v:Int))) ow p n k (f.xx v):=by
 have hO:Ow H ow ow:=Ow.refl
 have hs:=Sm.set (H:=H) (i:=20) (v:=(iv (v:Int))) h.self.ow
 exact ⟨h.self.set 20 _ rfl,
  h.vals.fr hs hO (by omega),
  h.lvls.fr hs hO (by omega),
  h.reas.fr hs hO (by omega),
  h.seen.fr hs hO (by omega),
  h.last.fr hs hO (by omega),
  h.wat.fr hs hO (by omega),
  fun x hx=>(h.wl x hx).fr hs hO (by omega),
  h.trail.fr hs hO (by omega),
  h.starts.fr hs hO (by omega),
  h.learned.fr hs hO (by omega),
  h.order.fr hs hO (by omega) (by omega) (by omega) (by omega),
  h.lines.fr hs hO (by omega),
  h.given.fr hs hO (by omega),
  fun i v g h1 h2=>(h.gcl i v g h1 h2).fr hs hO (by omega),
  fun c hc=>(h.con c hc).fr hs hO (by omega) (by omega),
  h.lo' hs.size hO (fun b hb he=>by have:=h.free hb; rw [this] at he; exact absurd rfl he),
  h.nv,
  h.nl,
  h.ns,
  h.na,
  h.ng⟩
theorem RM.od (h:RM H ow p n k f) (v:Bool) :
  RM (Aw H ⟨p,21,none⟩ (.bool v)) ow p n k (f.uz v):=by
 have hO:Ow H ow ow:=Ow.refl
 have hs:=Sm.set (H:=H) (i:=21) (v:=(.bool v)) h.self.ow
 exact ⟨h.self.set 21 _ rfl,
  h.vals.fr hs hO (by omega),
  h.lvls.fr hs hO (by omega),
  h.reas.fr hs hO (by omega),
  h.seen.fr hs hO (by omega),
  h.last.fr hs hO (by omega),
  h.wat.fr hs hO (by omega),
  fun x hx=>(h.wl x hx).fr hs hO (by omega),
  h.trail.fr hs hO (by omega),
  h.starts.fr hs hO (by omega),
  h.learned.fr hs hO (by omega),
  h.order.fr hs hO (by omega) (by omega) (by omega) (by omega),
  h.lines.fr hs hO (by omega),
  h.given.fr hs hO (by omega),
  fun i v g h1 h2=>(h.gcl i v g h1 h2).fr hs hO (by omega),
  fun c hc=>(h.con c hc).fr hs hO (by omega) (by omega),
  h.lo' hs.size hO (fun b hb he=>by have:=h.free hb; rw [this] at he; exact absurd rfl he),
  h.nv,
  h.nl,
  h.ns,
  h.na,
  h.ng⟩
theorem RM.qk (h:RM H ow p n k f) {v:Value} {l:List Nat} (hv:VR H ow 8 3 1 v (Go.Proofs.YtkdlmdmlomgdiaaGreat.nv l)) :
  RM (Aw H ⟨p,14,none⟩ v) ow p n k (f.vx v l):=by
 have hO:Ow H ow ow:=Ow.refl
 have hs:=Sm.set (H:=H) (i:=14) (v:=v) h.self.ow
 exact ⟨h.self.set 14 _ rfl,
  h.vals.fr hs hO (by omega),
  h.lvls.fr hs hO (by omega),
  h.reas.fr hs hO (by omega),
  h.seen.fr hs hO (by omega),
  h.last.fr hs hO (by omega),
  h.wat.fr hs hO (by omega),
  fun x hx=>(h.wl x hx).fr hs hO (by omega),
  hv.fr hs hO (by omega),
  h.starts.fr hs hO (by omega),
  h.learned.fr hs hO (by omega),
  h.order.fr hs hO (by omega) (by omega) (by omega) (by omega),
  h.lines.fr hs hO (by omega),
  h.given.fr hs hO (by omega),
  fun i v g h1 h2=>(h.gcl i v g h1 h2).fr hs hO (by omega),
  fun c hc=>(h.con c hc).fr hs hO (by omega) (by omega),
  h.lo' hs.size hO (fun b hb he=>by have:=h.free hb; rw [this] at he; exact absurd rfl he),
  h.nv,
  h.nl,
  h.ns,
  h.na,
  h.ng⟩
theorem RM.re (h:RM H ow p n k f) {v:Value} {l:List Nat} (hv:VR H ow 9 3 1 v (Go.Proofs.YtkdlmdmlomgdiaaGreat.nv l)) :
  RM (Aw H ⟨p,15,none⟩ v) ow p n k (f.zu v l):=by
 have hO:Ow H ow ow:=Ow.refl
 have hs:=Sm.set (H:=H) (i:=15) (v:=v) h.self.ow
 exact ⟨h.self.set 15 _ rfl,
  h.vals.fr hs hO (by omega),
  h.lvls.fr hs hO (by omega),
  h.reas.fr hs hO (by omega),
  h.seen.fr hs hO (by omega),
  h.last.fr hs hO (by omega),
  h.wat.fr hs hO (by omega),
  fun x hx=>(h.wl x hx).fr hs hO (by omega),
  h.trail.fr hs hO (by omega),
  hv.fr hs hO (by omega),
  h.learned.fr hs hO (by omega),
  h.order.fr hs hO (by omega) (by omega) (by omega) (by omega),
  h.lines.fr hs hO (by omega),
  h.given.fr hs hO (by omega),
  fun i v g h1 h2=>(h.gcl i v g h1 h2).fr hs hO (by omega),
  fun c hc=>(h.con c hc).fr hs hO (by omega) (by omega),
  h.lo' hs.size hO (fun b hb he=>by have:=h.free hb; rw [this] at he; exact absurd rfl he),
  h.nv,
  h.nl,
  h.ns,
  h.na,
  h.ng⟩
theorem RM.qn (h:RM H ow p n k f) {c j x b o cap:Nat} (hc:c ∈ f.C) (hv:f.lb c=.slice (some ⟨b,o,none⟩) (f.lits c).length cap) (hj:j < (f.lits c).length) :
  wr H ⟨b,o + j,none⟩ (iv (x:Int))=some (Aw H ⟨b,o + j,none⟩ (iv (x:Int)))/\RM (Aw H ⟨b,o + j,none⟩ (iv (x:Int))) ow p n k (f.ve (upd f.lits c ((f.lits c).set j x))):=by
 have hO:Ow H ow ow:=Ow.refl
 have hcr:=h.con c hc
 have hbr:ow b=101 + 2 * c:=hcr.lits.ow b (by rw [hv]; simp [own])
 have hs:=Sm.set (H:=H) (i:=o + j) (v:=iv (x:Int)) hbr
 obtain ⟨b',o',cap',e1,e2,e3,e4⟩:=Vec.qs hcr.lits.vec (i:=j) (by rw [Am]; exact hj) (iv (x:Int))
 rw [hv] at e1
 simp only [Value.slice.injEq,J5,Addr.mk.injEq,Zt,true_and] at e1
 obtain ⟨⟨rfl,rfl⟩,-,-⟩:=e1
 refine ⟨e2,?_⟩
 exact ⟨h.self.fr hs hO (by omega),
  h.vals.fr hs hO (by omega),
  h.lvls.fr hs hO (by omega),
  h.reas.fr hs hO (by omega),
  h.seen.fr hs hO (by omega),
  h.last.fr hs hO (by omega),
  h.wat.fr hs hO (by omega),
  fun x hx=>(h.wl x hx).fr hs hO (by omega),
  h.trail.fr hs hO (by omega),
  h.starts.fr hs hO (by omega),
  h.learned.fr hs hO (by omega),
  h.order.fr hs hO (by omega) (by omega) (by omega) (by omega),
  h.lines.fr hs hO (by omega),
  h.given.fr hs hO (by omega),
  fun i v g h1 h2=>(h.gcl i v g h1 h2).fr hs hO (by omega),
  fun d hd=>by
   by_cases e:d=c
   ·subst e;simp only [A8];refine ⟨hcr.blk.fr hs hO (by omega),?_,hcr.lits.ow⟩;have:Go.Proofs.YtkdlmdmlomgdiaaGreat.nv ((f.lits d).set j x)=(Go.Proofs.YtkdlmdmlomgdiaaGreat.nv (f.lits d)).set j (iv (x:Int)):=(by simp [Go.Proofs.YtkdlmdmlomgdiaaGreat.nv,Yn]);rw [this]; exact e3
   ·simp only [Af e];exact (h.con d hd).fr hs hO (by omega) (by omega),
  h.lo' hs.size hO (fun b hb he=>by have:=h.free hb; rw [this] at he; exact absurd rfl he),
  h.nv,h.nl,h.ns,h.na,h.ng⟩
theorem RM.xi (h:RM H ow p n k f) {m:Nat} {os pl ac:List Int} (hg:HG H' k.ho k.hb k.hp k.ha n m os pl ac) (hf:Fr [k.ho,k.hb,k.hp,k.ha] H H') :
  RM H' ow p n k (f.zj m os pl ac):=by
 have hO:Ow H ow ow:=Ow.refl
 have hs:Sm ow (fun r=>11<=r/\r<=14) H H':=by
  refine Sm.of hf fun b hb=>?_;have h1:=h.order.o1; have h2:=h.order.o2; have h3:=h.order.o3; have h4:=h.order.o4;simp only [J7,Z6,Ya] at hb;rcases hb with rfl | rfl | rfl | rfl <;> omega
 exact ⟨h.self.fr hs hO (by omega),
  h.vals.fr hs hO (by omega),
  h.lvls.fr hs hO (by omega),
  h.reas.fr hs hO (by omega),
  h.seen.fr hs hO (by omega),
  h.last.fr hs hO (by omega),
  h.wat.fr hs hO (by omega),
  fun x hx=>(h.wl x hx).fr hs hO (by omega),
  h.trail.fr hs hO (by omega),
  h.starts.fr hs hO (by omega),
  h.learned.fr hs hO (by omega),
  ⟨hg,h.order.o1,h.order.o2,h.order.o3,h.order.o4⟩,
  h.lines.fr hs hO (by omega),
  h.given.fr hs hO (by omega),
  fun i v g h1 h2=>(h.gcl i v g h1 h2).fr hs hO (by omega),
  fun c hc=>(h.con c hc).fr hs hO (by omega) (by omega),
  h.lo' hs.size hO (fun b hb he=>by have:=h.free hb; rw [this] at he; exact absurd rfl he),
  h.nv,
  h.nl,
  h.ns,
  h.na,
  h.ng⟩
theorem RM.px (h:RM H ow p n k f) {c kl:Nat} {v:Value} {l:List Nat} (hc:c ∉ f.C) (hn:CR H ow c v l kl) :
  RM H ow p n k (f.gu (c :: f.C) (upd f.lits c l) (upd f.lb c v) (upd f.l2 c kl)):=by
 have hO:Ow H ow ow:=Ow.refl
 have hs:Sm ow (fun _=>False) H H:=Sm.refl
 exact ⟨h.self.fr hs hO (by simp),
  h.vals.fr hs hO (by simp),
  h.lvls.fr hs hO (by simp),
  h.reas.fr hs hO (by simp),
  h.seen.fr hs hO (by simp),
  h.last.fr hs hO (by simp),
  h.wat.fr hs hO (by simp),
  fun x hx=>(h.wl x hx).fr hs hO (by simp),
  h.trail.fr hs hO (by simp),
  h.starts.fr hs hO (by simp),
  h.learned.fr hs hO (by simp),
  h.order.fr hs hO (by simp) (by simp) (by simp) (by simp),
  h.lines.fr hs hO (by simp),
  h.given.fr hs hO (by simp),
  fun i v g h1 h2=>(h.gcl i v g h1 h2).fr hs hO (by simp),
  fun d hd=>by
   by_cases e:d=c
   ·subst e; simp only [A8]; exact hn
   ·simp only [Af e]; exact h.con d ((J7.1 hd).resolve_left e),
  h.lo' hs.size hO (fun b hb he=>by have:=h.free hb; rw [this] at he; exact absurd rfl he),
  h.nv,
  h.nl,
  h.ns,
  h.na,
  h.ng⟩
def grw (ow:Nat->Nat) (r:Nat) (v:Value):Nat->Nat:=fun b=>if b ∈ own v then r else ow b
structure Ex (H:A3) (ow:Nat->Nat) (H':A3) (ow':Nat->Nat):Prop where
 sm:Sm ow (fun r=>r ≠ 0) H H'
 ow:Ow H ow ow'
theorem Ex.refl:Ex H ow H ow:=⟨Sm.refl,Ow.refl⟩
theorem Ex.trans {H'':A3} {ow'':Nat->Nat} (h:Ex H ow H' ow') (h':Ex H' ow' H'' ow''):Ex H ow H'' ow'':=by
 have hz:=h.sm.size;refine ⟨⟨Js h.sm.size h'.sm.size,fun b hb hr=>?_⟩,fun b hb=>?_⟩
 ·rw [h'.sm.same b (by omega) (by rw [h.ow b hb]; exact hr),h.sm.same b hb hr]
 ·rw [h'.ow b (by omega),h.ow b hb]
theorem Ex.of {R:Nat->Prop} (h:Sm ow R H H') (hR:¬ R 0):Ex H ow H' ow:=⟨h.mono fun r hr e=>hR (e ▸ hr),Ow.refl⟩
theorem Ex.push {o:Obj}:Ex H ow (H.push o) ow:=⟨Sm.of (F:=[]) Fr.push (by simp),Ow.refl⟩
theorem Ex.blk (h:Ex H ow H' ow') {b t:Nat} {vs:List Value} (hb:Blk H b t vs) (ho:ow b=0):Blk H' b t vs:=h.sm.blk hb (by rw [ho]; simp)
theorem Ex.fr (h:Ex H ow H' ow') {b:Nat} (hb:b < H.size) (ho:ow b=0):H'[b]?=H[b]?:=h.sm.same b hb (by rw [ho]; simp)
theorem HN {r:Nat} {v v':Value} (ho:∀ b ∈ own v,ow b=r) (g:∀ b ∈ own v',b ∈ own v\/H.size<=b):Ow H ow (grw ow r v'):=by
 intro b hb;unfold grw;split
 ·rename_i e;rcases g b e with h1 | h1
  ·exact (ho b h1).symm
  ·omega
 ·rfl
theorem E8 {r:Nat} {v:Value}:∀ b ∈ own v,grw ow r v b=r:=fun b hb=>by unfold grw; rw [J8 hb]
theorem RM.pq (h:RM H ow p n k f) {v':Value} {l:List Nat} (g1:Vec H' 3 1 v' (Go.Proofs.YtkdlmdmlomgdiaaGreat.nv l)) (g2:Fr (own f.trail) H H') (g3:∀ b ∈ own v',b ∈ own f.trail\/H.size<=b) :
  RM (Aw H' ⟨p,14,none⟩ v') (grw ow 8 v') p n k (f.vx v' l)/\Ex H ow (Aw H' ⟨p,14,none⟩ v') (grw ow 8 v')/\Blk H' p 68 (CZ n k f):=by
 have hO:Ow H ow (grw ow 8 v'):=HN h.trail.ow g3
 have hs1:Sm ow (fun r=>r=8) H H':=Sm.of g2 fun b hb=>h.trail.ow b hb
 have hself:=h.self.fr hs1 hO (by omega)
 have hs2:=Sm.set (H:=H') (i:=14) (v:=v') hself.ow
 have hs:Sm ow (fun r=>r=1\/r=8) H (Aw H' ⟨p,14,none⟩ v'):=by
  have hz:=hs1.size;refine ⟨by rw [AA]; exact hz,fun b hb hr=>?_⟩;rw [hs2.same b (by omega) (by rw [hO b hb]; omega),hs1.same b hb (by omega)]
 have hv':VR H' (grw ow 8 v') 8 3 1 v' (Go.Proofs.YtkdlmdmlomgdiaaGreat.nv l):=⟨g1,E8⟩
 have hlt:=g1.lt
 have hsz:=hs.size
 refine ⟨?_,⟨hs.mono (by intro r hr; omega),hO⟩,hself.blk⟩
 exact ⟨hself.set 14 _ rfl,
  h.vals.fr hs hO (by omega),
  h.lvls.fr hs hO (by omega),
  h.reas.fr hs hO (by omega),
  h.seen.fr hs hO (by omega),
  h.last.fr hs hO (by omega),
  h.wat.fr hs hO (by omega),
  fun x hx=>(h.wl x hx).fr hs hO (by omega),
  hv'.fr hs2 Ow.refl (by omega),
  h.starts.fr hs hO (by omega),
  h.learned.fr hs hO (by omega),
  h.order.fr hs hO (by omega) (by omega) (by omega) (by omega),
  h.lines.fr hs hO (by omega),
  h.given.fr hs hO (by omega),
  fun i v g h1 h2=>(h.gcl i v g h1 h2).fr hs hO (by omega),
  fun c hc=>(h.con c hc).fr hs hO (by omega) (by omega),
  fun b hb=>by
   rw [AA];unfold grw at hb;split at hb
   ·rename_i e; exact hlt b e
   ·have:=h.lo b hb; rw [AA] at hsz; omega,
  h.nv,
  h.nl,
  h.ns,
  h.na,
  h.ng⟩
theorem RM.qf (h:RM H ow p n k f) {v':Value} {l:List Nat} (g1:Vec H' 3 1 v' (Go.Proofs.YtkdlmdmlomgdiaaGreat.nv l)) (g2:Fr (own f.starts) H H') (g3:∀ b ∈ own v',b ∈ own f.starts\/H.size<=b) :
  RM (Aw H' ⟨p,15,none⟩ v') (grw ow 9 v') p n k (f.zu v' l)/\Ex H ow (Aw H' ⟨p,15,none⟩ v') (grw ow 9 v')/\Blk H' p 68 (CZ n k f):=by
 have hO:Ow H ow (grw ow 9 v'):=HN h.starts.ow g3
 have hs1:Sm ow (fun r=>r=9) H H':=Sm.of g2 fun b hb=>h.starts.ow b hb
 have hself:=h.self.fr hs1 hO (by omega)
 have hs2:=Sm.set (H:=H') (i:=15) (v:=v') hself.ow
 have hs:Sm ow (fun r=>r=1\/r=9) H (Aw H' ⟨p,15,none⟩ v'):=by
  have hz:=hs1.size;refine ⟨by rw [AA]; exact hz,fun b hb hr=>?_⟩;rw [hs2.same b (by omega) (by rw [hO b hb]; omega),hs1.same b hb (by omega)]
 have hv':VR H' (grw ow 9 v') 9 3 1 v' (Go.Proofs.YtkdlmdmlomgdiaaGreat.nv l):=⟨g1,E8⟩
 have hlt:=g1.lt
 have hsz:=hs.size
 refine ⟨?_,⟨hs.mono (by intro r hr; omega),hO⟩,hself.blk⟩
 exact ⟨hself.set 15 _ rfl,
  h.vals.fr hs hO (by omega),
  h.lvls.fr hs hO (by omega),
  h.reas.fr hs hO (by omega),
  h.seen.fr hs hO (by omega),
  h.last.fr hs hO (by omega),
  h.wat.fr hs hO (by omega),
  fun x hx=>(h.wl x hx).fr hs hO (by omega),
  h.trail.fr hs hO (by omega),
  hv'.fr hs2 Ow.refl (by omega),
  h.learned.fr hs hO (by omega),
  h.order.fr hs hO (by omega) (by omega) (by omega) (by omega),
  h.lines.fr hs hO (by omega),
  h.given.fr hs hO (by omega),
  fun i v g h1 h2=>(h.gcl i v g h1 h2).fr hs hO (by omega),
  fun c hc=>(h.con c hc).fr hs hO (by omega) (by omega),
  fun b hb=>by
   rw [AA];unfold grw at hb;split at hb
   ·rename_i e; exact hlt b e
   ·have:=h.lo b hb; rw [AA] at hsz; omega,
  h.nv,
  h.nl,
  h.ns,
  h.na,
  h.ng⟩
theorem RM.tx (h:RM H ow p n k f) {v':Value} {l:List Nat} (g1:Vec H' 124 1 v' (l.map pv)) (g2:Fr (own f.learned) H H') (g3:∀ b ∈ own v',b ∈ own f.learned\/H.size<=b) :
  RM (Aw H' ⟨p,18,none⟩ v') (grw ow 10 v') p n k (f.uy v' l)/\Ex H ow (Aw H' ⟨p,18,none⟩ v') (grw ow 10 v')/\Blk H' p 68 (CZ n k f):=by
 have hO:Ow H ow (grw ow 10 v'):=HN h.learned.ow g3
 have hs1:Sm ow (fun r=>r=10) H H':=Sm.of g2 fun b hb=>h.learned.ow b hb
 have hself:=h.self.fr hs1 hO (by omega)
 have hs2:=Sm.set (H:=H') (i:=18) (v:=v') hself.ow
 have hs:Sm ow (fun r=>r=1\/r=10) H (Aw H' ⟨p,18,none⟩ v'):=by
  have hz:=hs1.size;refine ⟨by rw [AA]; exact hz,fun b hb hr=>?_⟩;rw [hs2.same b (by omega) (by rw [hO b hb]; omega),hs1.same b hb (by omega)]
 have hv':VR H' (grw ow 10 v') 10 124 1 v' (l.map pv):=⟨g1,E8⟩
 have hlt:=g1.lt
 have hsz:=hs.size
 refine ⟨?_,⟨hs.mono (by intro r hr; omega),hO⟩,hself.blk⟩
 exact ⟨hself.set 18 _ rfl,
  h.vals.fr hs hO (by omega),
  h.lvls.fr hs hO (by omega),
  h.reas.fr hs hO (by omega),
  h.seen.fr hs hO (by omega),
  h.last.fr hs hO (by omega),
  h.wat.fr hs hO (by omega),
  fun x hx=>(h.wl x hx).fr hs hO (by omega),
  h.trail.fr hs hO (by omega),
  h.starts.fr hs hO (by omega),
  hv'.fr hs2 Ow.refl (by omega),
  h.order.fr hs hO (by omega) (by omega) (by omega) (by omega),
  h.lines.fr hs hO (by omega),
  h.given.fr hs hO (by omega),
  fun i v g h1 h2=>(h.gcl i v g h1 h2).fr hs hO (by omega),
  fun c hc=>(h.con c hc).fr hs hO (by omega) (by omega),
  fun b hb=>by
   rw [AA];unfold grw at hb;split at hb
   ·rename_i e; exact hlt b e
   ·have:=h.lo b hb; rw [AA] at hsz; omega,
  h.nv,
  h.nl,
  h.ns,
  h.na,
  h.ng⟩
theorem RM.pr (h:RM H ow p n k f) {v':Value} {l:List Value} (g1:Vec H' 79 2 v' l) (g2:Fr (own f.lines) H H') (g3:∀ b ∈ own v',b ∈ own f.lines\/H.size<=b) :
  RM (Aw H' ⟨p,3,none⟩ v') (grw ow 15 v') p n k (f.yf v' l)/\Ex H ow (Aw H' ⟨p,3,none⟩ v') (grw ow 15 v')/\Blk H' p 68 (CZ n k f):=by
 have hO:Ow H ow (grw ow 15 v'):=HN h.lines.ow g3
 have hs1:Sm ow (fun r=>r=15) H H':=Sm.of g2 fun b hb=>h.lines.ow b hb
 have hself:=h.self.fr hs1 hO (by omega)
 have hs2:=Sm.set (H:=H') (i:=3) (v:=v') hself.ow
 have hs:Sm ow (fun r=>r=1\/r=15) H (Aw H' ⟨p,3,none⟩ v'):=by
  have hz:=hs1.size;refine ⟨by rw [AA]; exact hz,fun b hb hr=>?_⟩;rw [hs2.same b (by omega) (by rw [hO b hb]; omega),hs1.same b hb (by omega)]
 have hv':VR H' (grw ow 15 v') 15 79 2 v' l:=⟨g1,E8⟩
 have hlt:=g1.lt
 have hsz:=hs.size
 refine ⟨?_,⟨hs.mono (by intro r hr; omega),hO⟩,hself.blk⟩
 exact ⟨hself.set 3 _ rfl,
  h.vals.fr hs hO (by omega),
  h.lvls.fr hs hO (by omega),
  h.reas.fr hs hO (by omega),
  h.seen.fr hs hO (by omega),
  h.last.fr hs hO (by omega),
  h.wat.fr hs hO (by omega),
  fun x hx=>(h.wl x hx).fr hs hO (by omega),
  h.trail.fr hs hO (by omega),
  h.starts.fr hs hO (by omega),
  h.learned.fr hs hO (by omega),
  h.order.fr hs hO (by omega) (by omega) (by omega) (by omega),
  hv'.fr hs2 Ow.refl (by omega),
  h.given.fr hs hO (by omega),
  fun i v g h1 h2=>(h.gcl i v g h1 h2).fr hs hO (by omega),
  fun c hc=>(h.con c hc).fr hs hO (by omega) (by omega),
  fun b hb=>by
   rw [AA];unfold grw at hb;split at hb
   ·rename_i e; exact hlt b e
   ·have:=h.lo b hb; rw [AA] at hsz; omega,
  h.nv,
  h.nl,
  h.ns,
  h.na,
  h.ng⟩
theorem RM.pw (h:RM H ow p n k f) {v':Value} {l:List Value} {gg:List (List Int)} (hg:∀ (i:Nat) (v:Value) (q:List Int),l[i]?=some v->gg[i]?=some q->VR H ow 17 3 1 v (q.map iv)) (hl:l.length=gg.length) (g1:Vec H' 23 1 v' l) (g2:Fr (own f.given) H H') (g3:∀ b ∈ own v',b ∈ own f.given\/H.size<=b) :
  RM (Aw H' ⟨p,1,none⟩ v') (grw ow 16 v') p n k (f.jf v' l gg)/\Ex H ow (Aw H' ⟨p,1,none⟩ v') (grw ow 16 v')/\Blk H' p 68 (CZ n k f):=by
 have hO:Ow H ow (grw ow 16 v'):=HN h.given.ow g3
 have hs1:Sm ow (fun r=>r=16) H H':=Sm.of g2 fun b hb=>h.given.ow b hb
 have hself:=h.self.fr hs1 hO (by omega)
 have hs2:=Sm.set (H:=H') (i:=1) (v:=v') hself.ow
 have hs:Sm ow (fun r=>r=1\/r=16) H (Aw H' ⟨p,1,none⟩ v'):=by
  have hz:=hs1.size;refine ⟨by rw [AA]; exact hz,fun b hb hr=>?_⟩;rw [hs2.same b (by omega) (by rw [hO b hb]; omega),hs1.same b hb (by omega)]
 have hv':VR H' (grw ow 16 v') 16 23 1 v' l:=⟨g1,E8⟩
 have hlt:=g1.lt
 have hsz:=hs.size
 refine ⟨?_,⟨hs.mono (by intro r hr; omega),hO⟩,hself.blk⟩
 exact ⟨hself.set 1 _ rfl,
  h.vals.fr hs hO (by omega),
  h.lvls.fr hs hO (by omega),
  h.reas.fr hs hO (by omega),
  h.seen.fr hs hO (by omega),
  h.last.fr hs hO (by omega),
  h.wat.fr hs hO (by omega),
  fun x hx=>(h.wl x hx).fr hs hO (by omega),
  h.trail.fr hs hO (by omega),
  h.starts.fr hs hO (by omega),
  h.learned.fr hs hO (by omega),
  h.order.fr hs hO (by omega) (by omega) (by omega) (by omega),
  h.lines.fr hs hO (by omega),
  hv'.fr hs2 Ow.refl (by omega),
  fun i v g h1 h2=>(hg i v g h1 h2).fr hs hO (by omega),
  fun c hc=>(h.con c hc).fr hs hO (by omega) (by omega),
  fun b hb=>by
   rw [AA];unfold grw at hb;split at hb
   ·rename_i e; exact hlt b e
   ·have:=h.lo b hb; rw [AA] at hsz; omega,
  h.nv,
  h.nl,
  h.ns,
  h.na,
  hl⟩
theorem RM.tw (h:RM H ow p n k f) {x:Nat} {v':Value} {l:List Nat} (hx:x < 2 * n + 2) (g1:Vec H' 124 1 v' (l.map pv)) (g2:Fr (own (f.ws x)) H H') (g3:∀ b ∈ own v',b ∈ own (f.ws x)\/H.size<=b) :
  RM (Aw H' ⟨k.bw,x,none⟩ v') (grw ow (100 + 2 * x) v') p n k (f.yw (upd f.ws x v') (upd f.w x l))/\Ex H ow (Aw H' ⟨k.bw,x,none⟩ v') (grw ow (100 + 2 * x) v')/\Blk H' k.bw 64 ((List.range (2 * n + 2)).map f.ws):=by
 have hO:Ow H ow (grw ow (100 + 2 * x) v'):=HN (h.wl x hx).ow g3
 have hs1:Sm ow (fun r=>r=100 + 2 * x) H H':=Sm.of g2 fun b hb=>(h.wl x hx).ow b hb
 have hwat:=h.wat.fr hs1 hO (by omega)
 have hs2:=Sm.set (H:=H') (i:=x) (v:=v') hwat.ow
 have hs:Sm ow (fun r=>r=7\/r=100 + 2 * x) H (Aw H' ⟨k.bw,x,none⟩ v'):=by
  have hz:=hs1.size;refine ⟨by rw [AA]; exact hz,fun b hb hr=>?_⟩;rw [hs2.same b (by omega) (by rw [hO b hb]; omega),hs1.same b hb (by omega)]
 have hv':VR H' (grw ow (100 + 2 * x) v') (100 + 2 * x) 124 1 v' (l.map pv):=⟨g1,E8⟩
 have hlt:=g1.lt
 have hsz:=hs.size
 refine ⟨?_,⟨hs.mono (by intro r hr; omega),hO⟩,hwat.blk⟩
 exact ⟨h.self.fr hs hO (by omega),
  h.vals.fr hs hO (by omega),
  h.lvls.fr hs hO (by omega),
  h.reas.fr hs hO (by omega),
  h.seen.fr hs hO (by omega),
  h.last.fr hs hO (by omega),
  hwat.set x _ (Hp _ (fun v=>v) _),
  fun y hy=>by
   by_cases e:y=x
   ·subst e; simp only [A8]; exact hv'.fr hs2 Ow.refl (by omega)
   ·simp only [Af e]; exact (h.wl y hy).fr hs hO (by omega),
  h.trail.fr hs hO (by omega),
  h.starts.fr hs hO (by omega),
  h.learned.fr hs hO (by omega),
  h.order.fr hs hO (by omega) (by omega) (by omega) (by omega),
  h.lines.fr hs hO (by omega),
  h.given.fr hs hO (by omega),
  fun i v g h1 h2=>(h.gcl i v g h1 h2).fr hs hO (by omega),
  fun c hc=>(h.con c hc).fr hs hO (by omega) (by omega),
  fun b hb=>by
   rw [AA];unfold grw at hb;split at hb
   ·rename_i e; exact hlt b e
   ·have:=h.lo b hb; rw [AA] at hsz; omega,
  h.nv,
  h.nl,
  h.ns,
  h.na,
  h.ng⟩
theorem RM.pf (h:RM H ow p n k f) {x:Nat} {l:List Nat} (hs:Sm ow (fun r=>r=100 + 2 * x) H H') (g:Vec H' 124 1 (f.ws x) (l.map pv)) :
  RM H' ow p n k (f.yw f.ws (upd f.w x l)):=by
 have hO:Ow H ow ow:=Ow.refl
 exact ⟨h.self.fr hs hO (by omega),
  h.vals.fr hs hO (by omega),
  h.lvls.fr hs hO (by omega),
  h.reas.fr hs hO (by omega),
  h.seen.fr hs hO (by omega),
  h.last.fr hs hO (by omega),
  h.wat.fr hs hO (by omega),
  fun y hy=>by
   by_cases e:y=x
   ·subst e; simp only [A8]; exact ⟨g,(h.wl y hy).ow⟩
   ·simp only [Af e]; exact (h.wl y hy).fr hs hO (by omega),
  h.trail.fr hs hO (by omega),
  h.starts.fr hs hO (by omega),
  h.learned.fr hs hO (by omega),
  h.order.fr hs hO (by omega) (by omega) (by omega) (by omega),
  h.lines.fr hs hO (by omega),
  h.given.fr hs hO (by omega),
  fun i v g h1 h2=>(h.gcl i v g h1 h2).fr hs hO (by omega),
  fun c hc=>(h.con c hc).fr hs hO (by omega) (by omega),
  h.lo' hs.size hO (fun b hb he=>by have:=h.free hb; rw [this] at he; exact absurd rfl he),
  h.nv,
  h.nl,
  h.ns,
  h.na,
  h.ng⟩
theorem RM.xe (h:RM H ow p n k f) (ho:∀ b,ow b ≠ 0->ow' b=ow b) (hlo:∀ b,ow' b ≠ 0->b < H.size):RM H ow' p n k f:=by
 exact ⟨h.self.ad ho (by omega),
  h.vals.ad ho (by omega),
  h.lvls.ad ho (by omega),
  h.reas.ad ho (by omega),
  h.seen.ad ho (by omega),
  h.last.ad ho (by omega),
  h.wat.ad ho (by omega),
  fun x hx=>(h.wl x hx).ad ho (by omega),
  h.trail.ad ho (by omega),
  h.starts.ad ho (by omega),
  h.learned.ad ho (by omega),
  ⟨h.order.hg,by rw [ho _ (by rw [h.order.o1]; omega)]; exact h.order.o1,by rw [ho _ (by rw [h.order.o2]; omega)]; exact h.order.o2,by rw [ho _ (by rw [h.order.o3]; omega)]; exact h.order.o3,by rw [ho _ (by rw [h.order.o4]; omega)]; exact h.order.o4⟩,
  h.lines.ad ho (by omega),
  h.given.ad ho (by omega),
  fun i v g h1 h2=>(h.gcl i v g h1 h2).ad ho (by omega),
  fun c hc=>⟨(h.con c hc).blk.ad ho (by omega),(h.con c hc).lits.ad ho (by omega)⟩,
  hlo,
  h.nv,h.nl,h.ns,h.na,h.ng⟩
theorem RM.c (h:RM H ow p n k f) (i:Nat):A5 H ⟨p,i,none⟩=(CZ n k f)[i]?:=h.self.blk.cell i
theorem RM.wrc (h:RM H ow p n k f) {i:Nat} (hi:i < 22) (v:Value):wr H ⟨p,i,none⟩ v=some (Aw H ⟨p,i,none⟩ v):=h.self.blk.wr (by simpa [CZ] using hi) v
theorem RM.yn (h:RM H ow p n k f) {x:Nat} (hx:x < 2 * n + 2) (v:Int) :
  ∃ H1,wr H ⟨k.bv,x,none⟩ (.int .i8 v)=some H1/\RM H1 ow p n k (f.xd (f.vals.set x v))/\Ex H ow H1 ow :=
 ⟨_,h.vals.blk.wr (by rw [Jm,h.nv]; exact hx) _,h.jh v,Ex.of (Sm.set h.vals.ow) (by omega)⟩
theorem RM.jm (h:RM H ow p n k f) {x:Nat} (hx:x < n + 1) (v:Nat) :
  ∃ H1,wr H ⟨k.bl,x,none⟩ (iv (v:Int))=some H1/\RM H1 ow p n k (f.vi (f.lvls.set x v))/\Ex H ow H1 ow :=
 ⟨_,h.lvls.blk.wr (by rw [Am,h.nl]; exact hx) _,h.jj v,Ex.of (Sm.set h.lvls.ow) (by omega)⟩
theorem RM.yy (h:RM H ow p n k f) {x:Nat} (hx:x < n + 1) (v:Bool) :
  ∃ H1,wr H ⟨k.bs,x,none⟩ (.bool v)=some H1/\RM H1 ow p n k (f.zx (f.seen.set x v))/\Ex H ow H1 ow :=
 ⟨_,h.seen.blk.wr (by rw [Jm,h.ns]; exact hx) _,h.oa v,Ex.of (Sm.set h.seen.ow) (by omega)⟩
theorem RM.ou (h:RM H ow p n k f) {x:Nat} (hx:x < n + 1) (v:Bool) :
  ∃ H1,wr H ⟨k.ba,x,none⟩ (.bool v)=some H1/\RM H1 ow p n k (f.sg (f.last.set x v))/\Ex H ow H1 ow :=
 ⟨_,h.last.blk.wr (by rw [Jm,h.na]; exact hx) _,h.ob v,Ex.of (Sm.set h.last.ow) (by omega)⟩
theorem RM.xz (h:RM H ow p n k f) {x:Nat} (hx:x < n + 1) (v:Option Nat) :
  ∃ H1,wr H ⟨k.br,x,none⟩ (pn v)=some H1/\RM H1 ow p n k (f.ux (upd f.rea x v))/\Ex H ow H1 ow :=
 ⟨_,h.reas.blk.wr (by simpa using hx) _,h.ji v,Ex.of (Sm.set h.reas.ow) (by omega)⟩
theorem RM.jl (h:RM H ow p n k f) {x:Nat} (hx:x < 2 * n + 2) {v:Value} {l:List Nat} (hv:VR H ow (100 + 2 * x) 124 1 v (l.map pv)) :
  ∃ H1,wr H ⟨k.bw,x,none⟩ v=some H1/\RM H1 ow p n k (f.yw (upd f.ws x v) (upd f.w x l))/\Ex H ow H1 ow :=
 ⟨_,h.wat.blk.wr (by simpa using hx) _,h.jg hv,Ex.of (Sm.set h.wat.ow) (by omega)⟩
theorem RM.rz (h:RM H ow p n k f) (v:Nat) :
  ∃ H1,wr H ⟨p,2,none⟩ (iv (v:Int))=some H1/\RM H1 ow p n k (f.ud v)/\Ex H ow H1 ow :=
 ⟨_,h.wrc (by omega) _,h.rh v,Ex.of (Sm.set h.self.ow) (by omega)⟩
theorem RM.oz (h:RM H ow p n k f) (v:Nat) :
  ∃ H1,wr H ⟨p,4,none⟩ (iv (v:Int))=some H1/\RM H1 ow p n k (f.td v)/\Ex H ow H1 ow :=
 ⟨_,h.wrc (by omega) _,h.oh v,Ex.of (Sm.set h.self.ow) (by omega)⟩
theorem RM.we (h:RM H ow p n k f) (v:Value) :
  ∃ H1,wr H ⟨p,5,none⟩ v=some H1/\RM H1 ow p n k (f.zy v)/\Ex H ow H1 ow :=
 ⟨_,h.wrc (by omega) _,h.qm v,Ex.of (Sm.set h.self.ow) (by omega)⟩
theorem RM.ug (h:RM H ow p n k f) (v:Value) :
  ∃ H1,wr H ⟨p,6,none⟩ v=some H1/\RM H1 ow p n k (f.xw v)/\Ex H ow H1 ow :=
 ⟨_,h.wrc (by omega) _,h.og v,Ex.of (Sm.set h.self.ow) (by omega)⟩
theorem RM.xk (h:RM H ow p n k f) (v:Nat) :
  ∃ H1,wr H ⟨p,16,none⟩ (iv (v:Int))=some H1/\RM H1 ow p n k (f.qj v)/\Ex H ow H1 ow :=
 ⟨_,h.wrc (by omega) _,h.oc v,Ex.of (Sm.set h.self.ow) (by omega)⟩
theorem RM.sr (h:RM H ow p n k f) (v:Int) :
  ∃ H1,wr H ⟨p,17,none⟩ (.int .i64 v)=some H1/\RM H1 ow p n k (f.uw v)/\Ex H ow H1 ow :=
 ⟨_,h.wrc (by omega) _,h.p9 v,Ex.of (Sm.set h.self.ow) (by omega)⟩
theorem RM.ry (h:RM H ow p n k f) (v:Nat) :
  ∃ H1,wr H ⟨p,20,none⟩ (iv (v:Int))=some H1/\RM H1 ow p n k (f.xx v)/\Ex H ow H1 ow :=
 ⟨_,h.wrc (by omega) _,h.rf v,Ex.of (Sm.set h.self.ow) (by omega)⟩
theorem RM.uf (h:RM H ow p n k f) (v:Bool) :
  ∃ H1,wr H ⟨p,21,none⟩ (.bool v)=some H1/\RM H1 ow p n k (f.uz v)/\Ex H ow H1 ow :=
 ⟨_,h.wrc (by omega) _,h.od v,Ex.of (Sm.set h.self.ow) (by omega)⟩
theorem RM.qp (h:RM H ow p n k f) {v:Value} {l:List Nat} (hv:VR H ow 8 3 1 v (Go.Proofs.YtkdlmdmlomgdiaaGreat.nv l)) :
  ∃ H1,wr H ⟨p,14,none⟩ v=some H1/\RM H1 ow p n k (f.vx v l)/\Ex H ow H1 ow :=
 ⟨_,h.wrc (by omega) _,h.qk hv,Ex.of (Sm.set h.self.ow) (by omega)⟩
theorem RM.rq (h:RM H ow p n k f) {v:Value} {l:List Nat} (hv:VR H ow 9 3 1 v (Go.Proofs.YtkdlmdmlomgdiaaGreat.nv l)) :
  ∃ H1,wr H ⟨p,15,none⟩ v=some H1/\RM H1 ow p n k (f.zu v l)/\Ex H ow H1 ow :=
 ⟨_,h.wrc (by omega) _,h.re hv,Ex.of (Sm.set h.self.ow) (by omega)⟩
theorem RM.zz (h:RM H ow p n k f) {c j x b o cap:Nat} (hc:c ∈ f.C) (hv:f.lb c=.slice (some ⟨b,o,none⟩) (f.lits c).length cap) (hj:j < (f.lits c).length) :
  ∃ H1,wr H ⟨b,o + j,none⟩ (iv (x:Int))=some H1/\RM H1 ow p n k (f.ve (upd f.lits c ((f.lits c).set j x)))/\Ex H ow H1 ow:=by
 have hbr:ow b=101 + 2 * c:=(h.con c hc).lits.ow b (by rw [hv]; simp [own])
 exact ⟨_,(h.qn hc hv hj).1,(h.qn hc hv hj).2,Ex.of (Sm.set hbr) (by omega)⟩
end
abbrev sp (p:Nat):Value:=.pointer (some ⟨p,7,none⟩)
theorem Di {V:HV} {t:TypeId} {xo yo:Operand} {n:Nat} (h:n < 9223372036854775807):B0 Tryz.prog V .xor t xo yo (iv n) (iv 1)=some (iv (neg n)):=by
 have e:(BitVec.ofInt 64 (n:Int) ^^^ BitVec.ofInt 64 1).toNat=neg n:=by
  rw [<- TC,BitVec.toNat_xor];have a1:(BitVec.ofInt 64 (n:Int)).toNat=n:=by
   rw [BitVec.toNat_ofInt]; omega
  rw [a1];rfl
 show some (Value.int .i64 (IntKind.i64.wrap ((BitVec.ofInt 64 (n:Int) ^^^ BitVec.ofInt 64 1).toNat:Nat)))=_;rw [e,Vn (by unfold neg; split <;> omega)]
theorem Gg (x:Nat):(x:Int) / 2=((x / 2:Nat):Int):=by omega
structure Rl (n:Nat) (f:Cf):Prop where
 vals:f.vals=f.s.vals n
 lv:∀ (i x:Nat),f.tr[i]?=some x->f.lvls[x / 2]?=some (lev f.st i)
theorem AP {n x:Nat} (h:isC n x):x < 2 * n + 2/\neg x < 2 * n + 2/\x / 2 < n + 1/\1<=x / 2:=by
 have h2:=C0 h;unfold isC at h h2; omega
section
variable {H:A3} {ow:Nat->Nat} {p n:Nat} {k:Bk} {f:Cf}
theorem Rl.val (h:Rl n f) {x:Nat} (hx:x < 2 * n + 2):f.vals[x]?=some (f.s.val x):=by rw [h.vals]; exact Cp hx
theorem RM.uu (h:RM H ow p n k f) (hr:Rl n f) {x:Nat} (hx:x < 2 * n + 2):A5 H ⟨k.bv,x,none⟩=some (.int .i8 (f.s.val x)):=by
 rw [h.vals.blk.cell,Z0,hr.val hx]; rfl
theorem RM.tn (h:RM H ow p n k f) (hr:Rl n f) {i x:Nat} (hx:f.tr[i]?=some x):A5 H ⟨k.bl,x / 2,none⟩=some (iv (lev f.st i:Nat)):=by
 rw [h.lvls.blk.cell]; exact Bu (hr.lv i x hx)
theorem RM.gb (h:RM H ow p n k f) {v:Nat} (hv:v < n + 1):A5 H ⟨k.br,v,none⟩=some (pn (f.rea v)):=by
 rw [h.reas.blk.cell]; simp [hv]
theorem RM.tk (h:RM H ow p n k f) {v:Nat} (hv:v < n + 1):A5 H ⟨k.bs,v,none⟩=some (.bool (bt f.seen v)):=by
 rw [h.seen.blk.cell,Z0,UY (by rw [h.ns]; exact hv)]; rfl
theorem RM.df (h:RM H ow p n k f) {v:Nat} (hv:v < n + 1):A5 H ⟨k.ba,v,none⟩=some (.bool (bt f.last v)):=by
 rw [h.last.blk.cell,Z0,UY (by rw [h.na]; exact hv)]; rfl
theorem RM.i7 (h:RM H ow p n k f) {x:Nat} (hx:x < 2 * n + 2):A5 H ⟨k.bw,x,none⟩=some (f.ws x):=by
 rw [h.wat.blk.cell]; simp [hx]
abbrev Cf.push (f:Cf) (x:Nat) (w:Option Nat) (vs:List Int) (lv:List Nat) (la:List Bool) (v:Value):Cf:=((((f.xd vs).vi lv).ux (upd f.rea (x / 2) w)).sg la).vx v (f.tr ++ [x])
theorem Rl.push (hr:Rl n f) (hi:Inv n f.s) (hl:f.lvls.length=n + 1) {x:Nat} (hx:isC n x) (h1:x ∉ f.tr) (h2:neg x ∉ f.tr) {w:Option Nat} {la:List Bool} {v:Value} :
  Rl n (f.push x w ((f.vals.set x 1).set (neg x) (-1)) (f.lvls.set (x / 2) f.st.length) la v):=by
 refine ⟨?_,fun i y hy=>?_⟩
 ·show (f.vals.set x 1).set (neg x) (-1)=(f.s.push x w).vals n
  rw [hr.vals,KK hx h1 h2]
 ·show (f.lvls.set (x / 2) f.st.length)[y / 2]?=some (lev f.st i)
  have hy':(f.tr ++ [x])[i]?=some y:=hy
  rcases D6 hy' with ⟨ho,_⟩ | ⟨rfl,rfl⟩
  ·rw [Y6 (TrOK.ur (n:=n) h1 h2 ho).symm]
   exact hr.lv i y ho
  ·rw [Xa (by rw [hl]; exact (AP hx).2.2.1)]
   exact congrArg some (IK hi).symm
theorem DZ (h:RM H ow p n k f) (hr:Rl n f) (hi:Inv n f.s) (hn:n<=1000) {x:Nat} (hx:isC n x) (h1:x ∉ f.tr) (h2:neg x ∉ f.tr) (hst:f.st.length<=1000000) (w:Option Nat) :
  CallF Tryz.prog 117 [sp p,iv x,pn w] H (fun r H'=>r=.tuple #[]/\∃ ow' vs lv la v,RM H' ow' p n k (f.push x w vs lv la v)/\Rl n (f.push x w vs lv la v)/\Ex H ow H' ow') NoP:=by
 obtain ⟨x1,x2,x3,x4⟩:=AP hx
 have hlt:f.tr.length<=n:=hi.ok.len
 obtain ⟨H1,w1,m1,e1⟩:=h.yn (x:=x) x1 1
 obtain ⟨H2,w2,(m2:RM H2 ow p n k (f.xd ((f.vals.set x 1).set (neg x) (-1)))),e2⟩:=m1.yn (x:=neg x) x2 (-1)
 obtain ⟨H3,w3,(m3:RM H3 ow p n k ((f.xd ((f.vals.set x 1).set (neg x) (-1))).vi (f.lvls.set (x / 2) f.st.length))),e3⟩:=m2.jm (x:=x / 2) x3 f.st.length
 obtain ⟨H4,w4,(m4:RM H4 ow p n k (((f.xd ((f.vals.set x 1).set (neg x) (-1))).vi (f.lvls.set (x / 2) f.st.length)).ux (upd f.rea (x / 2) w))),e4⟩:=m3.xz (x:=x / 2) x3 w
 obtain ⟨H5,w5,(m5:RM H5 ow p n k ((((f.xd ((f.vals.set x 1).set (neg x) (-1))).vi (f.lvls.set (x / 2) f.st.length)).ux (upd f.rea (x / 2) w)).sg (f.last.set (x / 2) (decide ((x:Int) % 2=0))))),e5⟩:=m4.ou (x:=x / 2) x3 (decide ((x:Int) % 2=0))
 have hl:=(e1.trans e2).trans ((e3.trans e4).trans e5)
 obtain ⟨a,cap,es⟩:=h.starts.form
 rw [Am] at es
 have c9:A5 H ⟨p,9,none⟩=some (sl k.bv (2 * n + 2)):=h.c 9
 have c10:A5 H2 ⟨p,10,none⟩=some (sl k.bl (n + 1)):=m2.c 10
 have c11:A5 H2 ⟨p,11,none⟩=some (sl k.br (n + 1)):=m2.c 11
 have c15:A5 H2 ⟨p,15,none⟩=some (.slice a f.st.length cap):=by rw [<- es]; exact m2.c 15
 have c13:A5 H4 ⟨p,13,none⟩=some (sl k.ba (n + 1)):=m4.c 13
 have c14:A5 H5 ⟨p,14,none⟩=some f.trail:=m5.c 14
 have ex:=fun V t xo yo=>Di (V:=V) (t:=t) (xo:=xo) (yo:=yo) (n:=x) (by omega)
 have hh:=Gg x
 refine A9 Tryz.func117 rfl Tryz.ntmps117 Tryz.results117 (by decide) rfl ?_
 simp (disch:=omega) only [go_sem,↓cB,hh]
 refine As (lk [tl 0,tl 1,tl 2,tl 3,tl 4,tl 5,tl 6,tl 7,tl 8,fl 9,fl 10,tl 11] (.act 12 (lk [tl 13] (.actd 14 .fin)) .non)) T.mixed ?_
 simp (disch:=omega) only [go_sem,↓cB,c9,ex,w1,w2]
 refine As (lk [tl 0,tl 1,tl 2,tl 3,tl 4,tl 5,tl 6,tl 7,tl 8,fl 9,tl 10,tl 11,tl 12,tl 13,tl 14,fl 15,tl 16] (.act 17 (lk [tl 18] (.actd 19 .fin)) .non)) T.mixed ?_
 simp (disch:=omega) only [go_sem,↓cB,c10,c11,c15,hh,w3,w4]
 simp (disch:=omega) only [go_sem,↓cB,c13,w5,c14]
 refine AK T.zk rfl m5.trail.vec rfl (by rw [Am]; show (2 * (f.tr.length + 1) + 200) * _<=_; omega) ?_
 intro v' H6 g1 g2 g3 g4
 obtain ⟨a',c',rfl⟩:=g4
 obtain ⟨m6,e6,b6⟩:=m5.pq (l:=f.tr ++ [x]) (by rw [CO]; exact g1) g2 g3
 have w6:=b6.wr (i:=14) (by simp [CZ]) (.slice a' ((Go.Proofs.YtkdlmdmlomgdiaaGreat.nv f.tr).length + 1) c')
 simp (disch:=omega) only [go_sem,↓cB,w6]
 exact fin ⟨rfl,_,_,_,_,_,m6,hr.push hi h.nl hx h1 h2,hl.trans e6⟩
theorem IY (h:RM H ow p n k f) (ht:f.tr.length<=1000000) (hst:f.st.length<=1000000) :
  CallF Tryz.prog 128 [sp p] H (fun r H'=>r=.tuple #[]/\∃ ow' v,RM H' ow' p n k (f.zu v (f.st ++ [f.tr.length]))/\Ex H ow H' ow') NoP:=by
 obtain ⟨a,cap,es⟩:=h.starts.form
 obtain ⟨a2,cap2,es2⟩:=h.trail.form
 rw [Am] at es es2
 have c14:A5 H ⟨p,14,none⟩=some (.slice a2 f.tr.length cap2):=by rw [<- es2]; exact h.c 14
 have c15:A5 H ⟨p,15,none⟩=some f.starts:=h.c 15
 refine A9 Tryz.func128 rfl Tryz.ntmps128 Tryz.results128 (by decide) rfl ?_
 refine Fc (lk [fl 0,fl 1,fl 2,fl 3,fl 4,tl 5,tl 6,tl 7,tl 8,tl 9] (.act 10 (.act 11 (lk [tl 12,tl 13] (.actd 14 .fin)) .non) .non)) T.mixed [(⟨p,15,none⟩,f.starts)] (B5 c15) ?_
 simp (disch:=omega) only [go_sem,↓cB,c14,c15]
 refine B9 (B5 ((Fr.push (F:=[])).zg c15 (by simp))) ?_
 simp (disch:=omega) only [go_sem,↓cB]
 refine AK T.zk rfl h.starts.vec rfl (by rw [Am]; omega) ?_
 intro v' H6 g1 g2 g3 g4
 obtain ⟨a',c',rfl⟩:=g4
 obtain ⟨m6,e6,b6⟩:=h.qf (l:=f.st ++ [f.tr.length]) (by rw [CO]; exact g1) g2 g3
 have w6:=b6.wr (i:=15) (by simp [CZ]) (.slice a' ((Go.Proofs.YtkdlmdmlomgdiaaGreat.nv f.st).length + 1) c')
 have d15:A5 H6 ⟨p,15,none⟩=some f.starts:=b6.cell 15
 refine B9 (B5 d15) ?_
 simp (disch:=omega) only [go_sem,↓cB,w6]
 exact fin ⟨rfl,_,_,m6,e6⟩
end
section
variable {H:A3} {ow:Nat->Nat} {p n:Nat} {k:Bk} {f:Cf}
theorem RM.zp (h:RM H ow p n k f) {c lb lo m lc i x:Nat} (hc:c ∈ f.C) (el:f.lb c=.slice (some ⟨lb,lo,none⟩) m lc) (hi:(f.lits c)[i]?=some x):A5 H ⟨lb,lo + i,none⟩=some (iv (x:Int)):=by
 obtain ⟨b,o,cap,e,-,hx⟩:=(h.con c hc).lits.cell (Bu hi);rw [el] at e;simp only [Value.slice.injEq,J5,Addr.mk.injEq,Zt] at e;obtain ⟨⟨rfl,rfl⟩,-⟩:=e;exact hx
theorem RM.xf (h:RM H ow p n k f) {c:Nat} (hc:c ∈ f.C) (hl:2<=(f.lits c).length):∃ lb lo lc,f.lb c=.slice (some ⟨lb,lo,none⟩) (f.lits c).length lc/\(f.lits c).length<=lc/\A5 H ⟨c,0,none⟩=some (.slice (some ⟨lb,lo,none⟩) (f.lits c).length lc):=by
 obtain ⟨x,hx⟩:∃ x,(f.lits c)[0]?=some x:=⟨_,J1 (by omega)⟩;obtain ⟨lb,lo,lc,el,-,-⟩:=(h.con c hc).lits.cell (Bu hx);rw [Am] at el;refine ⟨lb,lo,lc,el,?_,by rw [<- el]; exact (h.con c hc).blk.blk.cell 0⟩;rcases (h.con c hc).lits.vec.ex with ⟨e,_⟩ | ⟨b',len,cap,pre,rest,e,_,_,_,hle⟩
 ·rw [el] at e; cases e
 ·rw [el] at e; simp only [Value.slice.injEq] at e; omega
theorem GC (h:RM H ow p n k f) {c a b:Nat} {r:List Nat} (hc:c ∈ f.C) (hl:f.lits c=a :: b :: r) (ha:a < 2 * n + 2) (hb:b < 2 * n + 2) (hab:a ≠ b) (hw:∀ x,(f.w x).length<=1000000) :
  CallF Tryz.prog 118 [sp p,pv c] H (fun r H'=>r=.tuple #[]/\∃ ow' ws,RM H' ow' p n k (f.yw ws (att f.w c a b))/\Ex H ow H' ow') NoP:=by
 have hlen:(f.lits c).length=r.length + 2:=by rw [hl]; rfl
 obtain ⟨lb,lo,lc,el,hcap,d0⟩:=h.xf hc (by omega)
 refine A9 Tryz.func118 rfl Tryz.ntmps118 Tryz.results118 (by decide) rfl ?_
 simp (disch:=omega) only [go_sem,↓cB,d0]
 refine Ae (fun j U H1=>∃ (i:Nat) (ow1:Nat->Nat) (ws1:Nat->Value) (w1:Nat->List Nat),j=2 - i/\i<=2 /\
  (U.get 0=sp p/\U.get 1=pv c/\U.get 10=.slice (some ⟨lb,lo,none⟩) 2 lc/\U.get 11=iv ((2:Nat):Int)/\U.get 12=iv i/\U.ds = []) /\
  RM H1 ow1 p n k (f.yw ws1 w1)/\Ex H ow H1 ow1/\w1=(if i=0 then f.w else if i=1 then upd f.w a (f.w a ++ [c]) else att f.w c a b)) (k:=2) ?_ ?_
 ·exact ⟨0,ow,f.ws,f.w,rfl,by omega,by simp (disch:=omega) only [go_sem,↓cB],h,Ex.refl,rfl⟩
 ·rintro _ U H1 ⟨i,ow1,ws1,w1,rfl,hi,⟨r0,r1,r10,r11,r12,rd⟩,m1,e1,hw1⟩
  by_cases h2:i=2
  ·subst h2
   rw [J4 (by omega),J4 (by omega)] at hw1
   subst hw1
   simp (disch:=omega) only [go_sem,↓cB,r0,r1,r10,r11,r12,rd]
   exact fin ⟨rfl,_,_,m1,e1⟩
  ·obtain ⟨x,hx⟩:∃ x,x=if i=0 then a else b:=⟨_,rfl⟩
   have hxi:(f.lits c)[i]?=some x:=by
    rw [hl,hx];have:i=0\/i=1:=(by omega);rcases this with rfl | rfl <;> rfl
   have hx2:x < 2 * n + 2:=by rw [hx]; split <;> omega
   have kx:=m1.zp (c:=c) hc el hxi
   have hi1:(i:Int) + 1=((i + 1:Nat):Int):=by omega
   have c8:A5 H1 ⟨p,8,none⟩=some (sl k.bw (2 * n + 2)):=m1.c 8
   have cw:A5 H1 ⟨k.bw,x,none⟩=some (ws1 x):=m1.i7 hx2
   have hwl:(w1 x).length<=1000000:=by
    rw [hw1];have:i=0\/i=1:=(by omega);rcases this with rfl | rfl
    ·exact hw x
    ·rw [J4 (by omega),J8 rfl,hx,J4 (by omega),Af (Ne.symm hab)]; exact hw b
   obtain ⟨hl',hhl⟩:∃ hl',hl'=HI H1 [⟨p,8,none⟩,⟨k.bw,x,none⟩]:=⟨_,rfl⟩
   have hok:Al hl' H1:=by rw [hhl]; exact K7
   have l0:Ak hl' ⟨p,8,none⟩=some (sl k.bw (2 * n + 2)):=by rw [hhl]; exact Cz c8 (by simp)
   have l1:Ak hl' ⟨k.bw,x,none⟩=some (ws1 x):=by rw [hhl]; exact Cz cw (by simp)
   have keep:∀ H2,A5 H2 ⟨p,8,none⟩=some (sl k.bw (2 * n + 2))->A5 H2 ⟨k.bw,x,none⟩=some (ws1 x)->Al hl' H2:=by
    intro H2 q1 q2;rw [hhl];refine F6 fun ad had v hv=>?_;simp only [J7,Z6,Ya] at had;rcases had with rfl | rfl
    ·rw [q1,<- c8]; exact hv
    ·rw [q2,<- cw]; exact hv
   simp (disch:=omega) only [go_sem,↓cB,r0,r1,r10,r11,r12,rd,kx]
   refine Fc (lk [fl 0,fl 1,fl 2,fl 3,fl 4,fl 5,fl 6,fl 7,fl 8,fl 9,fl 10,fl 11,tl 12] (.act 13 (.act 14 (lk [tl 15] (.actd 16 .fin)) .non) .non)) T.mixed hl' hok ?_
   simp (disch:=omega) only [go_sem,↓cB,r0,r1,r10,r11,r12,rd,l0,l1]
   refine B9 (keep _ ((Fr.push (F:=[])).zg c8 (by simp)) ((Fr.push (F:=[])).zg cw (by simp))) ?_
   simp (disch:=omega) only [go_sem,↓cB,r0,r1,r10,r11,r12,rd,l0,l1]
   refine AK T.vh rfl (m1.wl x hx2).vec rfl (by rw [Jm]; show (2 * ((w1 x).length + 1) + 200) * _<=_; omega) ?_
   intro v' H6 g1 g2 g3 g4
   obtain ⟨a',c',rfl⟩:=g4
   obtain ⟨m6,e6,b6⟩:=m1.tw (x:=x) (l:=w1 x ++ [c]) hx2 (by rw [Zf]; exact g1) g2 g3
   have hr1:ow1 p=1:=m1.self.ow
   have w6:=b6.wr (i:=x) (by simpa using hx2) (.slice a' (((w1 x).map pv).length + 1) c')
   have q8:A5 H6 ⟨p,8,none⟩=some (sl k.bw (2 * n + 2)):=g2.zg c8 (by intro hh; have:=(m1.wl x hx2).ow _ hh; simp only at this; omega)
   have qw:A5 H6 ⟨k.bw,x,none⟩=some (ws1 x):=by rw [b6.cell]; simp [hx2]
   refine B9 (keep _ q8 qw) ?_
   simp (disch:=omega) only [go_sem,↓cB,r0,r1,r10,r11,r12,rd,l0,l1,w6]
   refine fin ⟨2 - (i + 1),by omega,i + 1,_,_,_,rfl,by omega,by simp (disch:=omega) only [go_sem,↓cB,r0,r1,r10,r11,r12,rd,hi1],m6,e1.trans e6,?_⟩
   have:i=0\/i=1:=by omega
   rcases this with rfl | rfl
   ·rw [hw1]; simp only [hx,Zr]; rfl
   ·rw [hw1]
    simp only [hx,Zr]
    rw [J4 (by omega),J4 (by omega),J4 (by omega)]
    simp only [Af (Ne.symm hab)]
    rfl
end
section
variable {H:A3} {ow:Nat->Nat} {p n:Nat} {k:Bk} {f:Cf}
theorem MO (h:RM H ow p n k f) (hr:Rl n f) {c a x:Nat} {r:List Nat} (hc:c ∈ f.C) (hl:f.lits c=a :: x :: r) (hC:∀ y ∈ f.lits c,y < 2 * n + 2) (hlen:r.length<=1000000) (hw:∀ y,(f.w y).length<=1000000) :
  CallF Tryz.prog 204 [sp p,pv c] H (fun v H'=>(v=.bool false/\H'=H/\∀ y ∈ r,f.s.val y < 0) \/
   (v=.bool true/\∃ (j y:Nat) (ow':Nat->Nat) (wv:Value),r[j]?=some y/\0<=f.s.val y/\RM H' ow' p n k ((f.ve (upd f.lits c (a :: y :: r.set j x))).yw (upd f.ws y wv) (upd f.w y (f.w y ++ [c])))/\Ex H ow H' ow')) NoP:=by
 have hln:(f.lits c).length=r.length + 2:=by rw [hl]; rfl
 obtain ⟨lb,lo,lc,el,hcap,d0⟩:=h.xf hc (by omega)
 have c9:A5 H ⟨p,9,none⟩=some (sl k.bv (2 * n + 2)):=h.c 9
 have c8:A5 H ⟨p,8,none⟩=some (sl k.bw (2 * n + 2)):=h.c 8
 refine A9 Tryz.func204 rfl Tryz.ntmps204 Tryz.results204 (by decide) rfl ?_
 simp (disch:=omega) only [go_sem,↓cB]
 refine Ae (fun j U H1=>∃ i:Nat,j=r.length - i/\i<=r.length/\(U.get 0=sp p/\U.get 1=pv c/\U.get 5=iv ((2 + i:Nat):Int)/\U.ds = [])/\H1=H/\∀ j y,j < i->r[j]?=some y->f.s.val y < 0) (k:=r.length) ?_ ?_
 ·exact ⟨0,rfl,by omega,by simp (disch:=omega) only [go_sem,↓cB]; rfl,rfl,fun j y hj=>by omega⟩
 ·rintro _ U H1 ⟨i,rfl,hi,⟨r0,r1,r5,rd⟩,rfl,hall⟩
  by_cases hi2:i=r.length
  ·simp (disch:=omega) only [go_sem,↓cB,r0,r1,r5,rd,d0]
   refine fin (.inl ⟨rfl,rfl,fun y hy=>?_⟩)
   obtain ⟨j,hj⟩:=Jc hy
   exact hall j y (by have:=(J3.1 hj).1; omega) hj
  ·obtain ⟨y,hy⟩:∃ y,r[i]?=some y:=⟨_,J1 (by omega)⟩
   have hyl:(f.lits c)[2 + i]?=some y:=by rw [hl,Xo]; exact hy
   have hy2:y < 2 * n + 2:=hC y (J2 hyl)
   have ky:=h.zp hc el hyl
   have k1:=h.zp hc el (i:=1) (x:=x) (by rw [hl]; rfl)
   have cv:=h.uu hr hy2
   have hi1:((2 + i:Nat):Int) + 1=((2 + (i + 1):Nat):Int):=by omega
   by_cases hv:0<=f.s.val y
   ·simp (disch:=omega) only [go_sem,↓cB,r0,r1,r5,rd,d0,ky,c9,cv]
    obtain ⟨H1,w1,m1,e1⟩:=h.zz (x:=y) hc el (j:=1) (by omega)
    obtain ⟨H2,w2,m2,e2⟩:=m1.zz (x:=x) (c:=c) (b:=lb) (o:=lo) (cap:=lc) (j:=2 + i) hc (by simp only [A8]; rw [Z2]; exact el) (by simp only [A8]; rw [Z2]; omega)
    have m2':RM H2 ow p n k (f.ve (upd f.lits c (a :: y :: r.set i x))):=by
     have:upd (upd f.lits c ((f.lits c).set 1 y)) c ((upd f.lits c ((f.lits c).set 1 y) c).set (2 + i) x)=upd f.lits c (a :: y :: r.set i x):=by
      funext q;by_cases hq:q=c
      ·subst hq; simp only [A8,hl,Xo 2 i]; rfl
      ·simp only [Af hq]
     rw [<- this]; exact m2
    clear m2
    have d8:A5 H2 ⟨p,8,none⟩=some (sl k.bw (2 * n + 2)):=m2'.c 8
    have dw:A5 H2 ⟨k.bw,y,none⟩=some (f.ws y):=m2'.i7 hy2
    have hwl:=hw y
    obtain ⟨hl',hhl⟩:∃ hl',hl'=HI H2 [⟨p,8,none⟩,⟨k.bw,y,none⟩]:=⟨_,rfl⟩
    have hok:Al hl' H2:=by rw [hhl]; exact K7
    have l0:Ak hl' ⟨p,8,none⟩=some (sl k.bw (2 * n + 2)):=by rw [hhl]; exact Cz d8 (by simp)
    have l1:Ak hl' ⟨k.bw,y,none⟩=some (f.ws y):=by rw [hhl]; exact Cz dw (by simp)
    have keep:∀ H3,A5 H3 ⟨p,8,none⟩=some (sl k.bw (2 * n + 2))->A5 H3 ⟨k.bw,y,none⟩=some (f.ws y)->Al hl' H3:=by
     intro H3 q1 q2;rw [hhl];refine F6 fun ad had v hv=>?_;simp only [J7,Z6,Ya] at had;rcases had with rfl | rfl
     ·rw [q1,<- d8]; exact hv
     ·rw [q2,<- dw]; exact hv
    refine As (lk [tl 0,tl 1,tl 2,tl 3,tl 4,tl 5,tl 6,tl 7,fl 8,tl 9,tl 10,tl 11,tl 12,tl 13,tl 14,tl 15,tl 16] (.act 17 (lk [tl 18] (.actd 19 .fin)) .non)) T.mixed ?_
    simp (disch:=omega) only [go_sem,↓cB,r0,r1,r5,rd,d0,k1,w1,w2]
    refine Fc (lk [fl 0,fl 1,fl 2,fl 3,fl 4,fl 5,fl 6,fl 7,fl 8,fl 9,fl 10,fl 11,tl 12] (.act 13 (.act 14 (lk [tl 15] (.actd 16 .fin)) .non) .non)) T.mixed hl' hok ?_
    simp (disch:=omega) only [go_sem,↓cB,r0,r1,r5,rd,l0,l1]
    refine B9 (keep _ ((Fr.push (F:=[])).zg d8 (by simp)) ((Fr.push (F:=[])).zg dw (by simp))) ?_
    simp (disch:=omega) only [go_sem,↓cB,r0,r1,r5,rd,l0,l1]
    refine AK T.vh rfl (m2'.wl y hy2).vec rfl (by rw [Jm]; show (2 * ((f.w y).length + 1) + 200) * _<=_; omega) ?_
    intro v' H6 g1 g2 g3 g4
    obtain ⟨a',c',rfl⟩:=g4
    obtain ⟨m6,e6,b6⟩:=m2'.tw (x:=y) (l:=f.w y ++ [c]) hy2 (by rw [Zf]; exact g1) g2 g3
    have hr1:ow p=1:=h.self.ow
    have w6:=b6.wr (i:=y) (by simpa using hy2) (.slice a' (((f.w y).map pv).length + 1) c')
    have q8:A5 H6 ⟨p,8,none⟩=some (sl k.bw (2 * n + 2)):=g2.zg d8 (by intro hh; have:=(m2'.wl y hy2).ow _ hh; simp only at this; omega)
    have qw:A5 H6 ⟨k.bw,y,none⟩=some (f.ws y):=by rw [b6.cell]; simp [hy2]
    refine B9 (keep _ q8 qw) ?_
    simp (disch:=omega) only [go_sem,↓cB,r0,r1,r5,rd,l0,l1,w6]
    exact fin (.inr ⟨rfl,i,y,_,_,hy,hv,m6,(e1.trans e2).trans e6⟩)
   ·simp (disch:=omega) only [go_sem,↓cB,r0,r1,r5,rd,d0,ky,c9,cv]
    refine fin ⟨r.length - (i + 1),by omega,i + 1,rfl,by omega,by simp (disch:=omega) only [go_sem,↓cB,r0,r1,r5,rd,hi1],rfl,fun j z hj hz=>?_⟩
    by_cases hji:j=i
    ·subst hji; rw [hy] at hz; have:=Jj hz; subst this; omega
    ·exact hall j z (by omega) hz
end
end Go.Proofs.YtkdlmdmlomgdiaaGreat
namespace Go.HL
section
variable {n:Nat} {P:Program}
theorem GW {v:Value} {x y:Code} {K:En->A3->Prop} {Q:Exit->En->A3->Prop} {U:En} {H:A3} (R:En->A3->Prop)
  (h:@DG v ⟨cw n P x (D8 (fun U H=>@EK ⟨R U H⟩) Q) U H⟩ ⟨cw n P y (D8 (fun U H=>@EK ⟨R U H⟩) Q) U H⟩) (h2:∀ U H,R U H->K U H) :
  @DG v ⟨cw n P x (D8 K Q) U H⟩ ⟨cw n P y (D8 K Q) U H⟩:=by
 unfold DG FY at h ⊢
 split at h
 ·exact ⟨fun e=>Bp R (h.1 e) h2,fun e=>Bp R (h.2 e) h2⟩
 ·exact h
end
end Go.HL
namespace Go.Sat
theorem P2:∀ {l m:List Nat},l.Nodup->(∀ x ∈ l,x ∈ m)->l.length<=m.length
 | [],m,_,_=>by simp
 | a :: l,m,hd,hs=>by
  have hd':=Yj.1 hd;have:=P2 (l:=l) (m:=m.erase a) hd'.2 (fun x hx=>by
   have hne:x ≠ a:=fun e=>hd'.1 (e ▸ hx);exact (List.mem_erase_of_ne hne).2 (hs x (by simp [hx])))
  have ha:=hs a (by simp);rw [We ha] at this;have:0 < m.length:=List.length_pos_of_mem ha;simp only [Za];omega
theorem WI.len {n:Nat} {s:St} {C:List Nat} {w:Nat->List Nat} (h:WI n s C w) (y:Nat):(w y).length<=C.length:=P2 (h.nd y) fun c hc=>(h.w1 y c hc).1
theorem BQ {n:Nat} {l:List Nat} (h:∀ y ∈ l,isC n y) (hd:(l.map (· / 2)).Nodup):l.length<=n:=TrOK.len ⟨h,hd⟩
end Go.Sat
namespace Go.Proofs.YtkdlmdmlomgdiaaGreat
open Go.HL HM Go.Sat
def Cf.key (f:Cf):=(f.C,f.conf,f.lrn,f.ls,f.room,f.rounds,f.loaded,(f.given,f.gs,f.gl),f.seen,f.model,f.core,f.dead,f.step)
def Cf.key2 (f:Cf):=(f.st,f.head,f.m,f.os,f.pl,f.ac)
structure Vk (n:Nat) (f f':Cf):Prop where
 key:f'.key=f.key
 key2:f'.key2=f.key2
 pre:f.tr <+: f'.tr
 num:f.s.N n<=f'.s.N n
theorem Vk.refl {n:Nat} {f:Cf}:Vk n f f:=⟨rfl,rfl,Zl _,Jb _⟩
theorem Vk.trans {n:Nat} {f f' f'':Cf} (h:Vk n f f') (h':Vk n f' f''):Vk n f f'':=⟨h'.key.trans h.key,h'.key2.trans h.key2,h.pre.trans h'.pre,Js h.num h'.num⟩
theorem Vk.C {n:Nat} {f f':Cf} (h:Vk n f f'):f'.C=f.C:=congrArg (·.1) h.key
theorem Vk.st {n:Nat} {f f':Cf} (h:Vk n f f'):f'.st=f.st:=congrArg (·.1) h.key2
theorem Vk.head {n:Nat} {f f':Cf} (h:Vk n f f'):f'.head=f.head:=congrArg (·.2.1) h.key2
section
variable {H:A3} {ow:Nat->Nat} {p n:Nat} {k:Bk} {f:Cf}
theorem RM.sx (h:RM H ow p n k f) {x:Nat} (hx:x < 2 * n + 2) {b o m cap:Nat} (e:f.ws x=.slice (some ⟨b,o,none⟩) m cap) :
  ∃ pre rest,o=pre.length/\Blk H b 124 (pre ++ (f.w x).map pv ++ rest)/\m=(f.w x).length/\rest.length=cap - m/\m<=cap/\ow b=100 + 2 * x:=by
 have hv:=h.wl x hx
 rcases hv.vec.ex with ⟨e',_⟩ | ⟨b',len,cap',pre,rest,e',h1,h2,h3,h4⟩
 ·rw [e] at e'; cases e'
 ·rw [e] at e'
  simp only [Value.slice.injEq,J5,Addr.mk.injEq,Zt] at e'
  obtain ⟨⟨rfl,rfl⟩,rfl,rfl⟩:=e'
  simp only [Jm,Jy] at h2 h3
  exact ⟨pre,rest,rfl,h1,h2.symm,h3,h4,hv.ow _ (by rw [e]; simp [own])⟩
theorem No (h:RM H ow p n k f) {x:Nat} (hx:x < 2 * n + 2) {b o cap c:Nat} {K L:List Nat} {t bytes:Nat} {z:Value} (hT:ElT Tryz.prog t 124 1 bytes z) (e:f.ws x=.slice (some ⟨b,o,none⟩) L.length cap) (hw:f.w x=K ++ L.drop K.length) (hK:K.length < L.length)
  {Q:Value->A3->Prop} (hQ:∀ H',RM H' ow p n k (f.yw f.ws (upd f.w x (K ++ [c] ++ L.drop (K.length + 1))))->Ex H ow H' ow->Q (.slice (some ⟨b,o,none⟩) (K.length + 1) cap) H') :
  @I9 Tryz.prog t t (.slice (some ⟨b,o,none⟩) K.length cap) (.slice (some ⟨H.size,0,none⟩) 1 1) ⟨H.push (.cells #[pv c] 124)⟩ ⟨Q⟩:=by
 obtain ⟨pre,rest,rfl,hb,hm,hr,hle,hob⟩:=h.sx hx e
 have hb1:=hb.push (.cells #[pv c] 124)
 rw [hw,Zf,<- Je,Je] at hb1
 have hx1:Blk (H.push (.cells #[pv c] 124)) H.size 124 [pv c]:=Blk.new rfl
 have hdl:(L.drop K.length).length=L.length - K.length:=by simp
 refine FD (n:=1) (new:=[pv c]) hT hb1 (by simp) (by simp; omega) (by omega) rfl ?_ hT.under (by simp) (by simp [Cb]) rfl ?_
 ·show Ay (A5 _) ⟨H.size,0,none⟩ 0 1=some [pv c]
  exact Bi [pv c] 0 0 (fun j hj=>by
   have:j=0:=(by simpa using hj);subst this; exact hx1.cell 0)
 ·intro H' hb2 hf
  have hd:((L.drop K.length).map pv ++ rest).drop (1 * 1)=(L.drop (K.length + 1)).map pv ++ rest:=by
   obtain ⟨y,hy⟩:∃ y,L.drop K.length=y :: L.drop (K.length + 1):=⟨_,Yk hK⟩;rw [hy]; rfl
  rw [hd] at hb2
  have e1:Ex H ow (H.push (.cells #[pv c] 124)) ow:=Ex.push
  have hs:Sm ow (fun r=>r=100 + 2 * x) H H':=by
   refine ⟨Js e1.sm.size hf.size,fun q hq hr=>?_⟩;have hq':q < (H.push (.cells #[pv c] 124)).size:=(by simp; omega);rw [hf.same q hq' (by simp only [J6]; rintro rfl; exact hr hob)];exact Fr.push (F:=[]) |>.same q hq (by simp)
  refine hQ H' (h.pf hs ?_) (Ex.of hs (by omega))
  rw [e]
  refine ⟨.inr ⟨b,L.length,cap,pre,rest,rfl,?_,by simp; omega,by omega,hle⟩⟩
  simpa [Je] using hb2
theorem Qq (h:RM H ow p n k f) {x:Nat} (hx:x < 2 * n + 2) {b o cap i:Nat} {K L:List Nat} {t bytes:Nat} {z:Value} {sa:Option Addr} (hT:ElT Tryz.prog t 124 1 bytes z) (e:f.ws x=.slice (some ⟨b,o,none⟩) L.length cap) (hw:f.w x=K ++ L.drop K.length) (hK:K.length<=i) (hi:i<=L.length)
  (hsa:i < L.length->sa=some ⟨b,o + i,none⟩) (hsz:L.length<=1000000) {Q:Value->A3->Prop}
  (hQ:∀ H' l',RM H' ow p n k (f.yw f.ws (upd f.w x l'))->VR H' ow (100 + 2 * x) 124 1 (.slice (some ⟨b,o,none⟩) (K.length + (L.length - i)) cap) ((K ++ L.drop i).map pv)->Ex H ow H' ow->Q (.slice (some ⟨b,o,none⟩) (K.length + (L.length - i)) cap) H') :
  @I9 Tryz.prog t t (.slice (some ⟨b,o,none⟩) K.length cap) (.slice sa (L.length - i) (cap - i)) ⟨H⟩ ⟨Q⟩:=by
 obtain ⟨pre,rest,rfl,hb,hm,hr,hle,hob⟩:=h.sx hx e
 have hb0:=hb
 rw [hw,Zf,<- Je,Je] at hb
 have hdl:(L.drop K.length).length=L.length - K.length:=by simp
 refine FD (n:=L.length - i) (new:=(L.drop i).map pv) hT hb (by simp) (by simp; omega) (by omega) rfl ?_ hT.under (by simp) ?_ (by simp) ?_
 ·by_cases hi2:i < L.length
  ·rw [hsa hi2]
   show Ay (A5 H) ⟨b,pre.length + i,none⟩ 0 ((L.length - i) * 1)=some ((L.drop i).map pv)
   have hln:(L.length - i) * 1=((L.drop i).map pv).length:=by simp
   rw [hln]
   refine Bi _ _ 0 fun j hj=>?_
   simp only [Jm,Xt] at hj
   rw [hb0.cell,Zc,Zs,Je,Jf (by omega),Jg (by rw [Jm,hw]; simp; omega)]
   rw [Z0,hw,Jf (by omega),Y7]
   rw [show K.length + (pre.length + (i + j) - pre.length - K.length)=i + j by omega]
   rw [J1 (by omega)]
   simp
  ·have h0:L.length - i=0:=by omega
   rw [h0]
   have:(L.drop i).map pv = []:=by
    rw [Yi,List.drop_eq_nil_iff]; omega
   rw [this]
   cases sa <;> rfl
 ·intro u hu
  obtain ⟨y,_,rfl⟩:=Ji.1 hu
  rfl
 ·intro H' hb2 hf
  have hs:Sm ow (fun r=>r=100 + 2 * x) H H':=Sm.of hf (by intro q hq; simp only [J6] at hq; subst hq; exact hob)
  have hd:((L.drop K.length).map pv ++ rest).drop ((L.length - i) * 1)=((L.drop K.length).drop (L.length - i)).map pv ++ rest:=by
   rw [Jy,Vg (by simp; omega),<- List.map_drop]
  rw [hd] at hb2
  refine hQ H' (K ++ L.drop i ++ (L.drop K.length).drop (L.length - i)) (h.pf hs ?_) ⟨?_,?_⟩ (Ex.of hs (by omega))
  ·rw [e]
   refine ⟨.inr ⟨b,L.length,cap,pre,rest,rfl,?_,by simp; omega,by omega,hle⟩⟩
   simpa [Je] using hb2
  ·refine ⟨.inr ⟨b,K.length + (L.length - i),cap,pre,((L.drop K.length).drop (L.length - i)).map pv ++ rest,rfl,?_,by simp,by simp; omega,by omega⟩⟩
   simpa [Je] using hb2
  ·intro q hq
   simp only [own,J6] at hq
   subst hq; exact hob
theorem S0 (h:RM H ow p n k f) {x:Nat} (hx:x < 2 * n + 2) {b o cap:Nat} {K L:List Nat} (e:f.ws x=.slice (some ⟨b,o,none⟩) L.length cap) (hw:f.w x=K ++ L.drop K.length) (hK:K.length<=L.length) :
  ∃ H',wrs H ⟨b,o + K.length,none⟩ (List.replicate (L.length - K.length) (.pointer none)) 0=some H'/\Fr (own (f.ws x)) H H'/\Vec H' 124 1 (.slice (some ⟨b,o,none⟩) K.length cap) (K.map pv):=by
 obtain ⟨pre,rest,rfl,hb,hm,hr,hle,hob⟩:=h.sx hx e
 rw [hw,Zf,<- Je] at hb
 obtain ⟨H',hw',hb2,hf⟩:=Gu (List.replicate (L.length - K.length) (.pointer none)) (pre ++ K.map pv) _ _ H hb (by simp)
 rw [Jv,Jm] at hw'
 refine ⟨H',hw',by rw [e]; exact hf,⟨.inr ⟨b,K.length,cap,pre,List.replicate (L.length - K.length) (.pointer none) ++ rest,rfl,?_,by simp,by simp; omega,by omega⟩⟩⟩
 simpa [Je] using hb2
end
section
variable {H:A3} {ow:Nat->Nat} {p n:Nat} {k:Bk} {f:Cf} {G:List (List Nat)}
structure Vs (H0:A3) (ow0:Nat->Nat) (f0:Cf) (G:List (List Nat)) (x:Nat) (L:List Nat) (H:A3) (ow:Nat->Nat) (p n:Nat) (k:Bk) (f:Cf) (K D:List Nat):Prop where
 m:RM H ow p n k f
 r:Rl n f
 e:Ex H0 ow0 H ow
 v:VI n f.s f.C (upd f.w x (K ++ D)) G f.head x K D
 ws:f.ws x=f0.ws x
 w:f.w x=K ++ L.drop K.length
 kl:K.length + D.length<=L.length
 vk:Vk n f0 f
variable {H0:A3} {ow0:Nat->Nat} {f0:Cf} {x c:Nat} {L K D:List Nat}
theorem Vs.lens (h:Vs H0 ow0 f0 G x L H ow p n k f K D) (hL:L.length<=f0.C.length) (y:Nat):(f.w y).length<=f0.C.length:=by
 have:=h.v.wi.len y;by_cases e:y=x
 ·subst e; rw [h.w]; have:=h.kl; simp; omega
 ·rw [Af e,h.vk.C] at this; exact this
theorem Vs.swap (h:Vs H0 ow0 f0 G x L H ow p n k f K (c :: D)) {H':A3} {b:Nat} {r:List Nat} (hl:f.lits c=x :: b :: r) (m':RM H' ow p n k (f.ve (upd f.lits c (b :: x :: r)))) (e':Ex H ow H' ow) :
  Vs H0 ow0 f0 G x L H' ow p n k (f.ve (upd f.lits c (b :: x :: r))) K (c :: D) :=
 ⟨m',⟨h.r.vals,h.r.lv⟩,h.e.trans e',h.v.swap hl,h.ws,h.w,h.kl,⟨h.vk.key,h.vk.key2,h.vk.pre,h.vk.num⟩⟩
theorem Fl {α:Type} {g:Nat->α} {x:Nat} {a b:α}:upd (upd g x a) x b=upd g x b:=by
 funext q;by_cases hq:q=x
 ·subst hq; rw [A8,A8]
 ·rw [Af hq,Af hq,Af hq]
theorem Vs.other (h:Vs H0 ow0 f0 G x L H ow p n k f K (c :: D)) {H':A3} {ow':Nat->Nat} {a y j:Nat} {r:List Nat} {wv:Value} (hl:f.lits c=a :: x :: r) (ha:a ∉ f.tr) (hy:r[j]?=some y) (hny:neg y ∉ f.tr)
  (m':RM H' ow' p n k ((f.ve (upd f.lits c (a :: y :: r.set j x))).yw (upd f.ws y wv) (upd f.w y (f.w y ++ [c])))) (e':Ex H ow H' ow') :
  Vs H0 ow0 f0 G x L H' ow' p n k ((f.ve (upd f.lits c (a :: y :: r.set j x))).yw (upd f.ws y wv) (upd f.w y (f.w y ++ [c]))) K D:=by
 have hv:=h.v.other hl ha hy hny
 have hyx:y ≠ x:=by
  rintro rfl;exact hny h.v.yz
 have hw2:upd (upd (upd f.w x (K ++ c :: D)) x (K ++ D)) y (upd f.w x (K ++ c :: D) y ++ [c])=upd (upd f.w y (f.w y ++ [c])) x (K ++ D):=by
  rw [Fl];funext q;by_cases hq:q=y
  ·subst hq; rw [A8,Af hyx,Af hyx,A8]
  ·by_cases hq2:q=x
   ·subst hq2; rw [Af hq,A8,A8]
   ·rw [Af hq,Af hq2,Af hq2,Af hq]
 rw [hw2] at hv
 refine ⟨m',⟨h.r.vals,h.r.lv⟩,h.e.trans e',hv,?_,?_,?_,⟨h.vk.key,h.vk.key2,h.vk.pre,h.vk.num⟩⟩
 ·show upd f.ws y wv x=f0.ws x
  rw [Af (Ne.symm hyx)]; exact h.ws
 ·show upd f.w y (f.w y ++ [c]) x=_
  rw [Af (Ne.symm hyx)]; exact h.w
 ·have:=h.kl; simp only [Za] at this; omega
theorem Vs.kept (h:Vs H0 ow0 f0 G x L H ow p n k f K (c :: D)) {H':A3} {ow':Nat->Nat} {f':Cf}
  (m':RM H' ow' p n k f') (r':Rl n f') (e':Ex H ow H' ow') (hv:VI n f'.s f'.C (upd f.w x (K ++ c :: D)) G f'.head x (K ++ [c]) D) (hws:f'.ws=f.ws) (hw:f'.w=upd f.w x (K ++ [c] ++ L.drop (K.length + 1))) (hk:Vk n f f') :
  Vs H0 ow0 f0 G x L H' ow' p n k f' (K ++ [c]) D:=by
 refine ⟨m',r',h.e.trans e',?_,by rw [hws]; exact h.ws,by rw [hw,A8]; simp,?_,h.vk.trans hk⟩
 ·rw [hw,Fl]
  have:K ++ [c] ++ D=K ++ c :: D:=by simp
  rw [this]; exact hv
 ·have:=h.kl; simp only [Za] at this; simp only [Jv,Zo]; omega
theorem MM (h:RM H ow p n k f) (hr:Rl n f) {x:Nat} (hV:VI n f.s f.C f.w G f.head x [] (f.w x)) (hn:n<=1000) (hC:f.C.length<=100000) (hst:f.st.length<=1000000) (hx:isC n x) :
  CallF Tryz.prog 119 [sp p,iv x] H (fun v H'=>∃ ow' f',RM H' ow' p n k f'/\Rl n f'/\Ex H ow H' ow'/\Vk n f f' /\
   ((v=pn none/\SI n f'.s f'.C f'.w G f'.head)\/∃ c K D,v=pv c/\VI n f'.s f'.C f'.w G f'.head x K (c :: D)/\∀ y ∈ f'.lits c,neg y ∈ f'.tr)) NoP:=by
 obtain ⟨x1,x2,x3,x4⟩:=AP hx
 have hL:(f.w x).length<=f.C.length:=hV.wi.len x
 obtain ⟨L,hLe⟩:∃ L,L=f.w x:=⟨_,rfl⟩
 rw [<- hLe] at hV hL
 obtain ⟨a,cap,ew⟩:=(h.wl x x1).form
 rw [Jm,<- hLe] at ew
 have c8:A5 H ⟨p,8,none⟩=some (sl k.bw (2 * n + 2)):=h.c 8
 have cw:A5 H ⟨k.bw,x,none⟩=some (.slice a L.length cap):=by rw [<- ew]; exact h.i7 x1
 have hcap:L.length<=cap:=by
  rcases (h.wl x x1).vec.ex with ⟨e,e2⟩ | ⟨b',len,cap',pre,rest,e,_,_,_,hle⟩
  ·rw [ew] at e; simp only [Value.slice.injEq] at e; omega
  ·rw [ew] at e; simp only [Value.slice.injEq] at e; omega
 have hV0:VI n f.s f.C (upd f.w x ([] ++ L)) G f.head x [] L:=by
  have:upd f.w x ([] ++ L)=f.w:=by
   funext y;by_cases e:y=x
   ·subst e; rw [A8,hLe]; rfl
   ·rw [Af e]
  rw [this]; exact hV
 refine A9 Tryz.func119 rfl Tryz.ntmps119 Tryz.results119 (by decide) rfl ?_
 simp (disch:=omega) only [go_sem,↓cB,c8,cw]
 refine Ae (fun j U H1=>∃ (i:Nat) (ow1:Nat->Nat) (f1:Cf) (K:List Nat),j=L.length - i/\i<=L.length /\
  (U.get 0=sp p/\U.get 1=iv x/\U.get 5=.slice a L.length cap/\U.get 6=.slice a K.length cap/\U.get 18=.slice a L.length cap/\U.get 19=iv L.length/\U.get 20=iv i/\U.ds = []) /\
  K.length<=i/\Vs H ow f G x L H1 ow1 p n k f1 K (L.drop i)) (k:=L.length) ?_ ?_
 ·exact ⟨0,ow,f,[],rfl,by omega,by simp (disch:=omega) only [go_sem,↓cB]; rfl,by simp,h,hr,Ex.refl,hV0,rfl,by rw [hLe]; rfl,by simp,Vk.refl⟩
 ·rintro _ U H1 ⟨i,ow1,f1,K,rfl,hi,⟨r0,r1,r5,r6,r18,r19,r20,rd⟩,hKi,vs⟩
  by_cases hi2:i=L.length
  ·subst hi2
   rw [List.drop_length] at vs
   have d8:A5 H1 ⟨p,8,none⟩=some (sl k.bw (2 * n + 2)):=vs.m.c 8
   have hK:K.length<=L.length:=hKi
   have fine:∀ (H2:A3) (v':Value),Vec H2 124 1 v' (K.map pv)->Fr (own (f1.ws x)) H1 H2->(∀ b ∈ own v',b ∈ own (f1.ws x)\/H1.size<=b) ->
     ∃ H3,wr H2 ⟨k.bw,x,none⟩ v'=some H3/\∃ ow' f',RM H3 ow' p n k f'/\Rl n f'/\Ex H ow H3 ow'/\Vk n f f'/\SI n f'.s f'.C f'.w G f'.head:=by
    intro H2 v' g1 g2 g3
    obtain ⟨m3,e3,b3⟩:=vs.m.tw (x:=x) (l:=K) x1 g1 g2 g3
    refine ⟨_,b3.wr (i:=x) (by simpa using x1) v',_,_,m3,⟨vs.r.vals,vs.r.lv⟩,vs.e.trans e3,vs.vk.trans ⟨rfl,rfl,Zl _,Jb _⟩,?_⟩
    have hv:=vs.v
    rw [Xd] at hv
    exact hv.done
   have hp1:ow1 p=1:=vs.m.self.ow
   cases a with
   | none =>
    have hL0:L.length=0/\cap=0:=by
     rcases (h.wl x x1).vec.ex with ⟨e,_⟩ | ⟨b',len,cap',pre,rest,e,_⟩
     ·rw [ew] at e; simp only [Value.slice.injEq] at e; exact ⟨e.2.1,e.2.2⟩
     ·rw [ew] at e; simp only [Value.slice.injEq] at e; cases e.1
    have hL:L = []:=List.length_eq_zero_iff.1 hL0.1;have hK0:K = []:=List.length_eq_zero_iff.1 (by omega);obtain ⟨rfl⟩:=hL0.2;subst hL hK0;obtain ⟨H3,w3,ow',f',z1,z2,z3,z4,z5⟩:=fine H1 (.slice none 0 0) Vec.nil (Fr.refl _ _) (by simp [own]);simp only [Xc] at r5 r6 r18 r19;simp (disch:=omega) only [go_sem,↓cB,r0,r1,r5,r6,r18,r19,r20,rd];refine NM T.vh.under ?_;simp (disch:=omega) only [go_sem,↓cB,r0,r1,r5,r6,r18,r19,r20,rd,d8,w3];exact fin ⟨ow',f',z1,z2,z3,z4,.inl ⟨rfl,z5⟩⟩
   | some ad =>
    obtain ⟨b,o,rfl⟩:∃ b o,ad=⟨b,o,none⟩:=by
     rcases (h.wl x x1).vec.ex with ⟨e,_⟩ | ⟨b',len,cap',pre,rest,e,_⟩
     ·rw [ew] at e; simp only [Value.slice.injEq] at e; cases e.1
     ·rw [ew] at e; simp only [Value.slice.injEq] at e; exact ⟨b',_,Jj e.1⟩
    obtain ⟨H2,w2,f2,g2⟩:=S0 vs.m x1 (vs.ws.trans ew) vs.w hK;obtain ⟨H3,w3,ow',f',z1,z2,z3,z4,z5⟩:=fine H2 _ g2 f2 (by rw [vs.ws,ew]; simp [own]);have d8':A5 H2 ⟨p,8,none⟩=some (sl k.bw (2 * n + 2)):=f2.zg d8 (by
     intro hh;have:=(vs.m.wl x x1).ow _ hh;simp only at this; omega)
    simp (disch:=omega) only [go_sem,↓cB,r0,r1,r5,r6,r18,r19,r20,rd];by_cases hc0:cap=K.length
    ·have hz:L.length - K.length=0:=(by omega);rw [hz] at w2 ⊢;simp only [List.replicate,wrs,J5] at w2;subst w2;refine NM T.vh.under ?_;simp (disch:=omega) only [go_sem,↓cB,r0,r1,r5,r6,r18,r19,r20,rd,d8,w3];exact fin ⟨ow',f',z1,z2,z3,z4,.inl ⟨rfl,z5⟩⟩
    ·rw [J4 hc0];refine Lk T.vh.under T.vh.zero rfl rfl w2 ?_;simp (disch:=omega) only [go_sem,↓cB,r0,r1,r5,r6,r18,r19,r20,rd,d8',w3];exact fin ⟨ow',f',z1,z2,z3,z4,.inl ⟨rfl,z5⟩⟩
  ·have hil:i < L.length:=by omega
   obtain ⟨b,o,ea⟩:∃ b o,a=some ⟨b,o,none⟩:=by
    obtain ⟨b,o,cap',e,-,-⟩:=(h.wl x x1).cell (i:=i) (u:=pv L[i]) (by rw [<- hLe]; simp [hil]);rw [ew] at e;simp only [Value.slice.injEq] at e;exact ⟨b,o,e.1⟩
   subst ea
   obtain ⟨c,hc⟩:∃ c,L[i]?=some c:=⟨_,J1 hil⟩
   have hD:L.drop i=c :: L.drop (i + 1):=by
    rw [Yk hil];rw [J1 hil] at hc;rw [Jj hc]
   rw [hD] at vs
   have hwi:(f1.w x)[i]?=some c:=by
    rw [vs.w,Jf hKi,Y7];rw [show K.length + (i - K.length)=i by omega]; exact hc
   have kc:A5 H1 ⟨b,o + i,none⟩=some (pv c):=by
    obtain ⟨b',o',cap',e,-,hx'⟩:=(vs.m.wl x x1).cell (WC hwi);rw [vs.ws,ew] at e;simp only [Value.slice.injEq,J5,Addr.mk.injEq,Zt] at e;obtain ⟨⟨rfl,rfl⟩,-⟩:=e;exact hx'
   obtain ⟨hcC,a0,b0,r,hl,hab⟩:=vs.v.mem
   have hl':f1.lits c=a0 :: b0 :: r:=hl
   have hln:(f1.lits c).length=r.length + 2:=by rw [hl']; rfl
   obtain ⟨lb,lo,lc,el,hlc,d0⟩:=vs.m.xf hcC (by omega)
   have d2:A5 H1 ⟨c,2,none⟩=some (.bool false):=(vs.m.con c hcC).blk.blk.cell 2
   have k0:=vs.m.zp hcC el (i:=0) (x:=a0) (by rw [hl']; rfl)
   have k1:=vs.m.zp hcC el (i:=1) (x:=b0) (by rw [hl']; rfl)
   rw [Zc] at k0
   simp (disch:=omega) only [go_sem,↓cB,r0,r1,r5,r6,r18,r19,r20,rd,kc,d2,d0,k0]
   refine GW (fun U H2=>∃ (f2:Cf) (a2:Nat) (r2:List Nat),(U.get 0=sp p/\U.get 1=iv x/\U.get 5=.slice (some ⟨b,o,none⟩) L.length cap/\U.get 6=.slice (some ⟨b,o,none⟩) K.length cap/\U.get 7=iv i/\U.get 8=pv c/\U.get 18=.slice (some ⟨b,o,none⟩) L.length cap/\U.get 19=iv L.length/\U.get 20=iv i/\U.ds = []) /\
    f2.lits c=a2 :: x :: r2/\f2.lb c=f1.lb c/\r2.length=r.length/\Vs H ow f G x L H2 ow1 p n k f2 K (c :: L.drop (i + 1))) ?_ ?_
   ·refine Ba (fun hb=>?_) (fun hb=>?_)
    ·have hax:a0=x:=by omega
     subst hax
     obtain ⟨H2,w1,m1,e1⟩:=vs.m.zz (x:=b0) hcC el (j:=0) (by omega)
     obtain ⟨H3,w2,m2,e2⟩:=m1.zz (x:=a0) (c:=c) (b:=lb) (o:=lo) (cap:=lc) (j:=1) hcC (by simp only [A8]; rw [Z2]; exact el) (by simp only [A8]; rw [Z2]; omega)
     have m2':RM H3 ow1 p n k (f1.ve (upd f1.lits c (b0 :: a0 :: r))):=by
      have:upd (upd f1.lits c ((f1.lits c).set 0 b0)) c ((upd f1.lits c ((f1.lits c).set 0 b0) c).set 1 a0)=upd f1.lits c (b0 :: a0 :: r):=by
       funext q;by_cases hq:q=c
       ·subst hq; simp only [A8,hl']; rfl
       ·simp only [Af hq]
      rw [<- this]; exact m2
     clear m2
     rw [Zc] at w1
     refine As (lk [tl 0,tl 1,tl 2,tl 3,tl 4,tl 5,tl 6,tl 7,tl 8,tl 9,tl 10,tl 11,tl 12,tl 13,tl 14,tl 15,tl 16,tl 17,tl 18,tl 19,tl 20] (.act 21 (lk [tl 22] (.act 23 .fin .non)) .non)) T.mixed ?_
     simp (disch:=omega) only [go_sem,↓cB,r0,r1,r5,r6,r18,r19,r20,rd,d0,k0,k1,w1,w2]
     exact fin ⟨f1.ve (upd f1.lits c (b0 :: a0 :: r)),b0,r,by simp (disch:=omega) only [go_sem,↓cB,r0,r1,r5,r6,r18,r19,r20,rd],by show upd f1.lits c _ c=_; rw [A8],rfl,rfl,vs.swap hl' m2' (e1.trans e2)⟩
    ·have hax:b0=x:=by
      rcases hab with e | e
      ·exact absurd (by rw [e]) hb
      ·exact e
     subst hax
     simp (disch:=omega) only [go_sem,↓cB,r0,r1,r5,r6,r18,r19,r20,rd]
     exact fin ⟨f1,a0,r,by simp (disch:=omega) only [go_sem,↓cB,r0,r1,r5,r6,r18,r19,r20,rd],hl',rfl,rfl,vs⟩
   ·clear k0 k1 d0 d2 kc el hlc
    rintro U2 H2 ⟨f2,a2,r2,⟨q0,q1,q5,q6,q7,q8,q18,q19,q20,qd⟩,hl2,hlb,hrl,vs2⟩
    have hcC2:c ∈ f2.C:=vs2.v.mem.1
    have hcl:=vs2.v.wi.cl c hcC2
    have hln2:(f2.lits c).length=r2.length + 2:=by rw [hl2]; rfl
    have hlen2:(f2.lits c).length<=n:=BQ hcl.2.1 hcl.2.2
    obtain ⟨lb,lo,lc,el,hlc,d0⟩:=vs2.m.xf hcC2 (by omega)
    have k0:=vs2.m.zp hcC2 el (i:=0) (x:=a2) (by rw [hl2]; rfl)
    rw [Zc] at k0
    have ha2:isC n a2:=hcl.2.1 a2 (by show a2 ∈ f2.lits c; rw [hl2]; simp)
    have ha22:=(AP ha2).1
    have c9:A5 H2 ⟨p,9,none⟩=some (sl k.bv (2 * n + 2)):=vs2.m.c 9
    have cv:=vs2.m.uu vs2.r ha22
    have hla:f2.s.lits c=a2 :: x :: r2:=hl2
    have hkl:=vs2.kl
    simp only [Za,Xt] at hkl
    have hi1:(i:Int) + 1=((i + 1:Nat):Int):=by omega
    have hKl:(K ++ [c]).length=K.length + 1:=by simp
    by_cases hpos:0 < f2.s.val a2
    ·refine As (lk [tl 0,tl 1,tl 2,tl 3,tl 4,tl 5,tl 6,tl 7,tl 8,tl 9,tl 10,tl 11,tl 12,tl 13,tl 14,tl 15] (.act 16 (lk [tl 17] .fin) .non)) T.mixed ?_
     simp (disch:=omega) only [go_sem,↓cB,q0,q1,q5,q6,q7,q8,q18,q19,q20,qd,c9,d0,k0,cv]
     refine No vs2.m x1 T.vh (vs2.ws.trans ew) vs2.w (by omega) ?_
     intro H3 m3 e3
     have d0':A5 H3 ⟨c,0,none⟩=some (.slice (some ⟨lb,lo,none⟩) (f2.lits c).length lc):=by rw [<- el]; exact (m3.con c hcC2).blk.blk.cell 0
     have k0':=m3.zp (c:=c) hcC2 el (i:=0) (x:=a2) (by show (f2.lits c)[0]?=_; rw [hl2]; rfl)
     rw [Zc] at k0'
     have c9':A5 H3 ⟨p,9,none⟩=some (sl k.bv (2 * n + 2)):=m3.c 9
     have r3:Rl n (f2.yw f2.ws (upd f2.w x (K ++ [c] ++ L.drop (K.length + 1)))):=⟨vs2.r.vals,vs2.r.lv⟩
     have cv':A5 H3 ⟨k.bv,a2,none⟩=some (.int .i8 (f2.s.val a2)):=m3.uu r3 ha22
     simp (disch:=omega) only [go_sem,↓cB,q0,q1,q5,q6,q7,q8,q18,q19,q20,qd]
     refine As (lk [tl 0,tl 1,tl 2,tl 3,tl 4,tl 5,tl 6,tl 7,tl 8,tl 9,tl 10,tl 11,tl 12] .fin) T.mixed ?_
     simp (disch:=omega) only [go_sem,↓cB,q0,q1,q5,q6,q7,q8,q18,q19,q20,qd,c9',d0',k0',cv']
     refine As (lk [tl 0,tl 1,tl 2,tl 3,tl 4,tl 5,tl 6,tl 7,tl 8,tl 9,tl 10,tl 11,tl 12] .fin) T.mixed ?_
     simp (disch:=omega) only [go_sem,↓cB,q0,q1,q5,q6,q7,q8,q18,q19,q20,qd,c9',d0',k0',cv']
     have hv:=vs2.v.keep hla (Cu.1 hpos) (fun q _=>vs2.v.top q)
     exact fin ⟨L.length - (i + 1),by omega,i + 1,ow1,_,K ++ [c],rfl,by omega,by simp (disch:=omega) only [go_sem,↓cB,q0,q1,q5,q6,q7,q8,q18,q19,q20,qd,hi1,hKl],by rw [hKl]; omega,vs2.kept m3 r3 e3 hv rfl rfl ⟨rfl,rfl,Zl _,Jb _⟩⟩
    ·have hat:a2 ∉ f2.tr:=fun e=>hpos (Cu.2 e)
     refine As (lk [tl 0,tl 1,tl 2,tl 3,tl 4,tl 5,tl 6,tl 7,tl 8,tl 9,tl 10,tl 11,tl 12,tl 13,tl 14,tl 15] (.act 16 (lk [tl 17] .fin) .non)) T.mixed ?_
     simp (disch:=omega) only [go_sem,↓cB,q0,q1,q5,q6,q7,q8,q18,q19,q20,qd,c9,d0,k0,cv]
     refine A7 (MO vs2.m vs2.r hcC2 hl2 (fun y hy=>(AP (hcl.2.1 y hy)).1) (by omega) (fun y=>by have:=vs2.lens hL y; omega)) ?_
     rintro v H3 (⟨rfl,rfl,hall⟩ | ⟨rfl,j,y,ow3,wv,hj,hy,m3,e3⟩)
     ·have hfr:∀ y ∈ r2,neg y ∈ f2.tr:=fun y hy=>(BG vs2.v.inv).1 (hall y hy)
      simp (disch:=omega) only [go_sem,↓cB,q0,q1,q5,q6,q7,q8,q18,q19,q20,qd]
      refine No vs2.m x1 T.vh (vs2.ws.trans ew) vs2.w (by omega) ?_
      intro H3 m3 e3
      have d0':A5 H3 ⟨c,0,none⟩=some (.slice (some ⟨lb,lo,none⟩) (f2.lits c).length lc):=by rw [<- el]; exact (m3.con c hcC2).blk.blk.cell 0
      have k0':=m3.zp (c:=c) hcC2 el (i:=0) (x:=a2) (by show (f2.lits c)[0]?=_; rw [hl2]; rfl)
      rw [Zc] at k0'
      have c9':A5 H3 ⟨p,9,none⟩=some (sl k.bv (2 * n + 2)):=m3.c 9
      have r3:Rl n (f2.yw f2.ws (upd f2.w x (K ++ [c] ++ L.drop (K.length + 1)))):=⟨vs2.r.vals,vs2.r.lv⟩
      have cv':A5 H3 ⟨k.bv,a2,none⟩=some (.int .i8 (f2.s.val a2)):=m3.uu r3 ha22
      by_cases hneg:f2.s.val a2 < 0
      ·have c8':A5 H3 ⟨p,8,none⟩=some (sl k.bw (2 * n + 2)):=m3.c 8
       simp (disch:=omega) only [go_sem,↓cB,q0,q1,q5,q6,q7,q8,q18,q19,q20,qd]
       refine As (lk [tl 0,tl 1,tl 2,tl 3,tl 4,tl 5,tl 6,tl 7,tl 8,tl 9,tl 10,tl 11,tl 12] .fin) T.mixed ?_
       simp (disch:=omega) only [go_sem,↓cB,q0,q1,q5,q6,q7,q8,q18,q19,q20,qd,c9',d0',k0',cv']
       refine Fc (lk [fl 0,fl 1,fl 2,fl 3,fl 4,tl 5,tl 6,tl 7,tl 8,tl 9] (.act 10 (lk [tl 11] (.actd 12 .fin)) .non)) T.mixed [(⟨p,8,none⟩,sl k.bw (2 * n + 2))] (B5 c8') ?_
       simp (disch:=omega) only [go_sem,↓cB,q0,q1,q5,q6,q7,q8,q18,q19,q20,qd,hi1]
       have hw3:(f2.yw f2.ws (upd f2.w x (K ++ [c] ++ L.drop (K.length + 1)))).w x=(K ++ [c]) ++ L.drop (K ++ [c]).length:=by
        show upd f2.w x _ x=_;rw [A8,hKl]
       rw [<- hKl]
       refine Qq m3 x1 T.vh (vs2.ws.trans ew) hw3 (by rw [hKl]; omega) (by omega) (fun hlt=>by rw [J4 (by omega)]) (by omega) ?_
       intro H4 l' m4 v4 e4
       have c8'':A5 H4 ⟨p,8,none⟩=some (sl k.bw (2 * n + 2)):=m4.c 8
       refine B9 (B5 c8'') ?_
       obtain ⟨H5,w5,m5,e5⟩:=m4.jl (x:=x) x1 v4
       simp (disch:=omega) only [go_sem,↓cB,q0,q1,q5,q6,q7,q8,q18,q19,q20,qd,w5]
       refine fin ⟨ow1,_,m5,⟨vs2.r.vals,vs2.r.lv⟩,vs2.e.trans (e3.trans (e4.trans e5)),vs2.vk.trans ⟨rfl,rfl,Zl _,Jb _⟩,.inr ⟨c,K,L.drop (i + 1),rfl,?_,?_⟩⟩
       ·have hwe:upd (upd (upd f2.w x (K ++ [c] ++ L.drop (K.length + 1))) x l') x (K ++ [c] ++ L.drop (i + 1))=upd f2.w x (K ++ c :: L.drop (i + 1)):=by
         rw [Fl,Fl];congr 1;simp
        show VI n f2.s f2.C (upd (upd (upd f2.w x (K ++ [c] ++ L.drop (K.length + 1))) x l') x (K ++ [c] ++ L.drop (i + 1))) G f2.head x K (c :: L.drop (i + 1))
        rw [hwe]; exact vs2.v
       ·show ∀ y ∈ f2.lits c,neg y ∈ f2.tr
        rw [hl2]
        intro y hy
        rcases J7.1 hy with rfl | hy
        ·exact (BG vs2.v.inv).1 hneg
        ·rcases J7.1 hy with rfl | hy
         ·exact vs2.v.yz
         ·exact hfr y hy
      ·simp (disch:=omega) only [go_sem,↓cB,q0,q1,q5,q6,q7,q8,q18,q19,q20,qd]
       refine As (lk [tl 0,tl 1,tl 2,tl 3,tl 4,tl 5,tl 6,tl 7,tl 8,tl 9,tl 10,tl 11,tl 12] .fin) T.mixed ?_
       simp (disch:=omega) only [go_sem,↓cB,q0,q1,q5,q6,q7,q8,q18,q19,q20,qd,c9',d0',k0',cv']
       refine As (lk [tl 0,tl 1,tl 2,tl 3,tl 4,tl 5,tl 6,tl 7,tl 8,tl 9,tl 10,tl 11,tl 12] .fin) T.mixed ?_
       simp (disch:=omega) only [go_sem,↓cB,q0,q1,q5,q6,q7,q8,q18,q19,q20,qd,c9',d0',k0',cv']
       have hna:neg a2 ∉ f2.tr:=fun e=>hneg ((BG vs2.v.inv).2 e)
       refine A7 (DZ m3 r3 vs2.v.inv hn ha2 hat hna (by have:=vs2.vk.st; show f2.st.length<=_; rw [this]; exact hst) (some c)) ?_
       rintro v H4 ⟨rfl,ow4,vs4,lv4,la4,v4,m4,r4,e4⟩
       simp (disch:=omega) only [go_sem,↓cB,q0,q1,q5,q6,q7,q8,q18,q19,q20,qd]
       have hv:=vs2.v.set hla hat hna hfr
       have hk4:Vk n f2 ((f2.yw f2.ws (upd f2.w x (K ++ [c] ++ L.drop (K.length + 1)))).push a2 (some c) vs4 lv4 la4 v4):=⟨rfl,rfl,Yx _ _,OV (s:=f2.s) (x:=a2) (w:=some c)⟩
       have hv4:VI n ((f2.yw f2.ws (upd f2.w x (K ++ [c] ++ L.drop (K.length + 1)))).push a2 (some c) vs4 lv4 la4 v4).s f2.C (upd f2.w x (K ++ c :: L.drop (i + 1))) G f2.head x (K ++ [c]) (L.drop (i + 1)):=hv
       have vs5:=vs2.kept m4 r4 (e3.trans e4) hv4 rfl rfl hk4
       exact fin ⟨L.length - (i + 1),by omega,i + 1,ow4,_,K ++ [c],rfl,by omega,by simp (disch:=omega) only [go_sem,↓cB,q0,q1,q5,q6,q7,q8,q18,q19,q20,qd,hi1,hKl],by rw [hKl]; omega,vs5⟩
     ·simp (disch:=omega) only [go_sem,↓cB,q0,q1,q5,q6,q7,q8,q18,q19,q20,qd]
      have hny:neg y ∉ f2.tr:=fun e=>by have:=(BG vs2.v.inv).2 e; omega
      exact fin ⟨L.length - (i + 1),by omega,i + 1,ow3,_,K,rfl,by omega,by simp (disch:=omega) only [go_sem,↓cB,q0,q1,q5,q6,q7,q8,q18,q19,q20,qd,hi1],by omega,vs2.other hl2 hat hj hny m3 e3⟩
end
def Cf.key3 (f:Cf):=(f.st,f.m,f.os,f.pl,f.ac)
structure Vp (n:Nat) (f f':Cf):Prop where
 key:f'.key=f.key
 key3:f'.key3=f.key3
 pre:f.tr <+: f'.tr
 num:f.s.N n<=f'.s.N n
theorem Vp.refl {n:Nat} {f:Cf}:Vp n f f:=⟨rfl,rfl,Zl _,Jb _⟩
theorem Vp.trans {n:Nat} {f f' f'':Cf} (h:Vp n f f') (h':Vp n f' f''):Vp n f f'':=⟨h'.key.trans h.key,h'.key3.trans h.key3,h.pre.trans h'.pre,Js h.num h'.num⟩
theorem Vk.vp {n:Nat} {f f':Cf} (h:Vk n f f'):Vp n f f':=by
 refine ⟨h.key,?_,h.pre,h.num⟩;have e:=h.key2;simp only [Cf.key2,Jx] at e;simp only [Cf.key3,Jx];exact ⟨e.1,e.2.2⟩
theorem Vp.C {n:Nat} {f f':Cf} (h:Vp n f f'):f'.C=f.C:=congrArg (·.1) h.key
theorem Vp.st {n:Nat} {f f':Cf} (h:Vp n f f'):f'.st=f.st:=congrArg (·.1) h.key3
section
variable {H:A3} {ow:Nat->Nat} {p n:Nat} {k:Bk} {f:Cf} {G:List (List Nat)}
theorem EF (h:RM H ow p n k f) (hr:Rl n f) (hS:SI n f.s f.C f.w G f.head) (hn:n<=1000) (hC:f.C.length<=100000) (hst:f.st.length<=1000000) :
  CallF Tryz.prog 58 [sp p] H (fun v H'=>∃ ow' f',RM H' ow' p n k f'/\Rl n f'/\Ex H ow H' ow'/\Vp n f f' /\
   ((v=pn none/\SI n f'.s f'.C f'.w G f'.head/\f'.head=f'.tr.length)\/∃ c x K D,v=pv c/\VI n f'.s f'.C f'.w G f'.head x K (c :: D)/\∀ y ∈ f'.lits c,neg y ∈ f'.tr)) NoP:=by
 refine A9 Tryz.func58 rfl Tryz.ntmps58 Tryz.results58 (by decide) rfl ?_
 simp (disch:=omega) only [go_sem,↓cB]
 refine Ae (fun j U H1=>∃ (ow1:Nat->Nat) (f1:Cf),j=n - f1.head/\(U.get 0=sp p/\U.ds = [])/\RM H1 ow1 p n k f1/\Rl n f1/\Ex H ow H1 ow1/\Vp n f f1/\SI n f1.s f1.C f1.w G f1.head) (k:=n - f.head) ?_ ?_
 ·exact ⟨ow,f,rfl,by simp (disch:=omega) only [go_sem,↓cB],h,hr,Ex.refl,Vp.refl,hS⟩
 ·rintro _ U H1 ⟨ow1,f1,rfl,⟨r0,rd⟩,m1,q1,e1,v1,s1⟩
  obtain ⟨a,cap,et⟩:=m1.trail.form
  rw [Am] at et
  have c14:A5 H1 ⟨p,14,none⟩=some (.slice a f1.tr.length cap):=by rw [<- et]; exact m1.c 14
  have c16:A5 H1 ⟨p,16,none⟩=some (iv f1.head):=m1.c 16
  have hle:f1.head<=f1.tr.length:=s1.le
  have htn:f1.tr.length<=n:=s1.inv.ok.len
  by_cases hh:f1.head < f1.tr.length
  ·obtain ⟨y,hy⟩:∃ y,f1.tr[f1.head]?=some y:=⟨_,J1 hh⟩
   have hyc:isC n y:=s1.inv.ok.code y (J2 hy)
   obtain ⟨y1,y2,y3,y4⟩:=AP hyc
   obtain ⟨b,o,cap',e,-,ky⟩:=m1.trail.cell (Bu hy)
   rw [Am] at e
   rw [et] at e
   simp only [Value.slice.injEq,true_and] at e
   obtain ⟨rfl,rfl⟩:=e
   obtain ⟨H2,w2,m2,e2⟩:=m1.xk (f1.head + 1)
   have ex:=fun V t xo yo=>Di (V:=V) (t:=t) (xo:=xo) (yo:=yo) (n:=y) (by omega)
   have hi1:(f1.head:Int) + 1=((f1.head + 1:Nat):Int):=by omega
   simp (disch:=omega) only [go_sem,↓cB,r0,rd]
   refine As (lk [tl 0,tl 1,tl 2,tl 3,tl 4,tl 5,tl 6,tl 7,tl 8,tl 9] .fin) T.mixed ?_
   simp (disch:=omega) only [go_sem,↓cB,r0,rd,c14,c16]
   refine As (lk [tl 0,tl 1,tl 2,tl 3,tl 4,tl 5,tl 6,tl 7,tl 8,tl 9,tl 10,tl 11] .fin) T.mixed ?_
   simp (disch:=omega) only [go_sem,↓cB,r0,rd,c14,c16,ky,ex,hi1,w2]
   have hV:=s1.start (x:=neg y) (by rw [neg_neg]; exact hy)
   refine A7 (MM (G:=G) m2 ⟨q1.vals,q1.lv⟩ (x:=neg y) hV hn (by show f1.C.length<=_; rw [v1.C]; exact hC) (by show f1.st.length<=_; rw [v1.st]; exact hst) (C0 hyc)) ?_
   rintro v H3 ⟨ow3,f3,m3,q3,e3,v3,hcase⟩
   have hv3:Vp n f f3:=v1.trans (Vp.trans (f':=f1.qj (f1.head + 1)) ⟨rfl,rfl,Zl _,Jb _⟩ v3.vp)
   have hh3:f3.head=f1.head + 1:=v3.head
   have ex3:=e1.trans (e2.trans e3)
   rcases hcase with ⟨rfl,hs3⟩ | ⟨c,K,D,rfl,hv,hall⟩
   ·simp (disch:=omega) only [go_sem,↓cB,r0,rd]
    refine OM (fun e=>by simp at e) (fun _=>?_)
    simp (disch:=omega) only [go_sem,↓cB,r0,rd]
    have hle3:=hs3.le
    refine fin ⟨n - f3.head,by omega,ow3,f3,rfl,m3,q3,ex3,hv3,hs3⟩
   ·simp (disch:=omega) only [go_sem,↓cB,r0,rd]
    exact fin ⟨ow3,f3,m3,q3,ex3,hv3,.inr ⟨c,_,K,D,rfl,hv,hall⟩⟩
  ·simp (disch:=omega) only [go_sem,↓cB,r0,rd]
   refine As (lk [tl 0,tl 1,tl 2,tl 3,tl 4,tl 5,tl 6,tl 7,tl 8,tl 9] .fin) T.mixed ?_
   simp (disch:=omega) only [go_sem,↓cB,r0,rd,c14,c16]
   exact fin ⟨ow1,f1,m1,q1,e1,v1,.inl ⟨rfl,s1,by omega⟩⟩
end
end Go.Proofs.YtkdlmdmlomgdiaaGreat
