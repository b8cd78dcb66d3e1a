/- The checker: the trail is made anew. -/
import Derived.Test.YtkdlmdmlomgdiaaGreatL11
set_option linter.unusedSimpArgs false
set_option linter.unusedVariables false
set_option maxRecDepth 10000
set_option maxHeartbeats 8000000
noncomputable section
namespace Go.Proofs.YtkdlmdmlomgdiaaGreat
open Go.HL HM Go.Sat
section
variable {H:A3} {ow:Nat->Nat} {p m:Nat} {f:Kf} {C:List Nat} {G:List (List Nat)}
theorem Vo (h:RK H ow p f) {t bytes:Nat} {z:Value} (hT:ElT Tryz.prog t 3 1 bytes z) {b o cap i u:Nat} (e:f.uns=.slice (some ⟨b,o,none⟩) f.us.length cap) (hi:f.us[i]?=some u) {Q:Value->A3->Prop} (hQ:∀ H' ow',RK H' ow' p f->Ex H ow H' ow'->Q (.slice (some ⟨b,o,none⟩) (i + 1) cap) H') :
  @I9 Tryz.prog t t (.slice (some ⟨b,o,none⟩) i cap) (.slice (some ⟨H.size,0,none⟩) 1 1) ⟨H.push (.cells #[iv u] 3)⟩ ⟨Q⟩:=by
 have hil:=(J3.1 hi).1
 have hv:VR H ow 8 3 1 f.uns (nv f.us):=MD.mm h 8 _ rfl
 rcases hv.vec.ex with ⟨e',_⟩ | ⟨b',len,cap',pre,rest,e',hb,h2,h3,h4⟩
 ·rw [e] at e'; cases e'
 rw [e] at e'
 simp only [Value.slice.injEq,J5,Addr.mk.injEq,Zt] at e'
 obtain ⟨⟨rfl,rfl⟩,rfl,rfl⟩:=e'
 have hsp:nv f.us=nv (f.us.take i) ++ nv (f.us.drop i):=by rw [<- CO,Zn]
 have hb1:=hb.push (.cells #[iv u] 3)
 rw [hsp,<- Je,Je] at hb1
 have hx1:Blk (H.push (.cells #[iv u] 3)) H.size 3 [iv u]:=Blk.new rfl
 refine FD (n:=1) (new:=[iv u]) hT hb1 (by simp [Am]; omega) (by simp [Am]; omega) (by omega) rfl ?_ hT.under (by simp) (by simp [Cb]) rfl ?_
 ·show Ay (A5 _) ⟨H.size,0,none⟩ 0 1=some [iv u]
  exact Bi [iv u] 0 0 (fun j hj=>by
   have:j=0:=(by simpa using hj);subst this; exact hx1.cell 0)
 ·intro H' hb2 hf
  have hd:(nv (f.us.drop i) ++ rest).drop (1 * 1)=nv (f.us.drop (i + 1)) ++ rest:=by
   have hy:f.us.drop i=u :: f.us.drop (i + 1):=by
    rw [Yk hil];rw [J1 hil] at hi;rw [Jj hi]
   rw [hy]; rfl
  rw [hd] at hb2
  have hl:nv (f.us.take i) ++ [iv u] ++ nv (f.us.drop (i + 1))=nv f.us:=by
   have e1:f.us.take (i + 1)=f.us.take i ++ [u]:=(by rw [Jl,hi]; rfl);rw [show nv (f.us.take i) ++ [iv u]=nv (f.us.take (i + 1)) by rw [e1,CO]; rfl,<- CO,Zn]
  have g2:Fr (own f.uns) H H':=by
   rw [e];refine ⟨Js (by simp) hf.size,fun q hq hr=>?_⟩;rw [hf.same q (by simp; omega) (by simpa [own] using hr)];exact Fr.push (F:=[]) |>.same q hq (by simp)
  obtain ⟨ow',m',e2⟩:=MD.grow h (r:=8) rfl (o':=⟨3,1,f.uns,nv f.us⟩) ⟨.inr ⟨b,f.us.length,cap,pre,rest,e,by
   rw [<- hl];simpa [Je] using hb2,by simp [Am],by simpa using h3,h4⟩⟩ g2 (fun b hb=>.inl hb)
  refine hQ H' ow' (MD.ext (D:=_) m' (Ih (f:=f) rfl rfl rfl rfl rfl rfl (by rw [Bh]; rfl) rfl rfl (ds8 kd8 (by omega)) rfl)) e2
def Kf.key2 (f:Kf):=(f.cls,f.uns,f.es,f.kvs,f.kl,f.us,f.emp,f.lits,f.w,f.head)
theorem Kz (h:RK H ow p f) (hm:KM m f C) (ht:KT m f C G) (hmx:m<=1000) (hes:f.es.length<=50000) :
  CallF Tryz.prog 136 [pv p] H (fun v H'=>v=.tuple #[]/\∃ ow' f',RK H' ow' p f'/\KM m f' C/\KT m f' C G/\f'.stale=false/\Ex H ow H' ow'/\f'.es=f.es) NoP:=by
 have c10:A5 H ⟨p,10,none⟩=some (.bool f.stale):=h.c rfl
 refine A9 Tryz.func136 rfl Tryz.ntmps136 Tryz.results136 (by decide) rfl ?_
 cases hst:f.stale with
 | false =>
  rw [hst] at c10;simp (disch:=omega) only [go_sem,↓cB,c10];exact fin ⟨rfl,ow,f,h,hm,ht,hst,Ex.refl,rfl⟩
 | true =>
  rw [hst] at c10;obtain ⟨htr,hh0,Gw,hs,hG⟩:f.tr = []/\f.head=0/\∃ Gw,SI m (Kx [] f.lits) C f.w Gw 0/\∀ T,Clo T G↔Clo T Gw/\f.emp=0/\∀ u ∈ f.us,∀ y,f.lits u = [y]->T y:=by
   cases ht with
   | stale h1 h2 h3 h4 Gw hs hG=>exact ⟨h3,h4,Gw,hs,hG⟩
   | fine h1=>rw [hst] at h1; cases h1
   | broken h1=>rw [hst] at h1; cases h1
  clear ht;simp (disch:=omega) only [go_sem,↓cB,c10];refine A7 (JN h hm.r (by omega) (k:=0) (by omega)) ?_;rintro v H1 ⟨rfl,ow1,rs1,tv1,hrs1,m1,e1⟩;obtain ⟨H2,w2,m2,e2⟩:=m1.qq false;obtain ⟨H3,w3,m3,e3⟩:=m2.yx false;obtain ⟨f3,hf3⟩:∃ f3:Kf,f3 = { f with vals:=(Kx (f.tr.take 0) f.lits).vals m,rs:=rs1,trl:=tv1,tr:=f.tr.take 0,head:=0,stale:=false,bro:=false }:=⟨_,rfl⟩;have m3':RK H3 ow1 p f3:=(by rw [hf3]; exact m3);have hk3:f3.key2=f.key2:=(by rw [hf3]; show (_,_,_,_,_,_,_,_,_,0)=(_,_,_,_,_,_,_,_,_,f.head); rw [hh0]);have ht3:f3.tr = []:=(by rw [hf3]; rfl);have hst3:f3.stale=false:=(by rw [hf3]);have hbr3:f3.bro=false:=(by rw [hf3]);have km3:KM m f3 C:=by
   rw [hf3];exact ⟨⟨rfl,hrs1,hm.r.wv,⟨fun x hx=>by simp at hx,by simp⟩⟩,⟨hm.wi.cl,hm.wi.w1,hm.wi.nd,hm.wi.w3,fun i x c _ h=>by simp at h⟩,hm.ce,hm.cl,hm.ks,hm.kl,hm.us,hm.ul,hm.em⟩
  have e13:Ex H ow H3 ow1:=e1.trans (e2.trans e3);clear m1 m2 m3 e1 e2 e3 hf3;obtain ⟨ua,uc,eu⟩:∃ a cap,f.uns=.slice a f.us.length cap:=by
   obtain ⟨a,cap,e⟩:=MD.form h (r:=8) rfl rfl;exact ⟨a,cap,by simpa [Am] using e⟩
  have hcap:f.us.length<=uc:=by
   rcases (MD.mm h 8 _ rfl).vec.ex with ⟨e,e2⟩ | ⟨b',len,cap',pre,rest,e,_,_,_,hle⟩
   ·rw [show Ob.v _=f.uns from rfl,eu] at e; simp only [Value.slice.injEq] at e; omega
   ·rw [show Ob.v _=f.uns from rfl,eu] at e; simp only [Value.slice.injEq] at e; omega
  have hul:=hm.ul;have c7:A5 H3 ⟨p,7,none⟩=some (.slice ua f.us.length uc):=by
   rw [<- eu,<- show f3.uns=f.uns from congrArg (·.2.1) hk3]; exact m3'.c rfl
  simp (disch:=omega) only [go_sem,↓cB,w2,w3,c7];refine Ae (fun j U H4=>∃ (i:Nat) (ow4:Nat->Nat) (f4:Kf),j=f.us.length - i/\i<=f.us.length /\
   (U.get 0=pv p/\U.get 2=.slice ua i uc/\U.get 27=.slice ua f.us.length uc/\U.get 28=iv f.us.length/\U.get 29=iv i/\U.ds = []) /\
   RK H4 ow4 p f4/\KM m f4 C/\f4.key2=f.key2/\f4.stale=false/\Ex H ow H4 ow4 /\
   ∃ Gi,SI m (Kx f4.tr f.lits) C f.w Gi 0/\(∀ T,Clo T Gw->(∀ u ∈ f.us.take i,∀ y,f.lits u = [y]->T y)->Clo T Gi) /\
    (f4.bro=false->∀ T,Clo T Gi->Clo T Gw/\∀ u ∈ f.us.take i,∀ y,f.lits u = [y]->T y)/\(f4.bro=true->∀ T,Clo T Gw->¬ ∀ u ∈ f.us.take i,∀ y,f.lits u = [y]->T y)) (k:=f.us.length) ?_ ?_
  ·exact ⟨0,ow1,f3,rfl,by omega,by simp (disch:=omega) only [go_sem,↓cB]; try rfl,m3',km3,hk3,hst3,e13,Gw,by rw [ht3]; exact hs,fun T hT _=>hT,fun _ T hT=>⟨hT,by simp⟩,fun e=>by rw [hbr3] at e; cases e⟩
  ·clear w2 w3 c7 m3' km3 hk3 ht3 hst3 hbr3 e13 c10;rintro _ U H4 ⟨i,ow4,f4,rfl,hi,⟨r0,r2,r27,r28,r29,rd⟩,m4,km4,hk4,hs4,e4,Gi,si4,hA,hB,hC⟩;have hk:=hk4;simp only [Kf.key2,Jx] at hk;obtain ⟨x1,x2,x3,x4,x5,x6,x7,x8,x9,x10⟩:=hk;by_cases hie:i=f.us.length
   ·subst hie;rw [Jr] at hA hB hC;have vu:Vec H4 3 1 (.slice ua f.us.length uc) (nv f4.us):=(by rw [<- eu,<- x2]; exact (MD.mm m4 8 _ rfl).vec);obtain ⟨ow5,H5,w5,m5,e5⟩:=m4.qu (l:=f4.us) vu (Fr.refl _ _) (fun b hb=>.inl (by rw [x2,eu]; exact hb));have c9:A5 H5 ⟨p,9,none⟩=some (.bool f4.bro):=m5.c rfl;cases hb4:f4.bro with
    | true =>
     rw [hb4] at c9;obtain ⟨H6,w6,m6,e6⟩:=m5.yx true;simp (disch:=omega) only [go_sem,↓cB,r0,r2,r27,r28,r29,rd,w5,c9,w6];exact fin ⟨rfl,ow5,_,m6,⟨⟨km4.r.vals,km4.r.rs,km4.r.wv,km4.r.ok⟩,km4.wi,km4.ce,km4.cl,km4.ks,km4.kl,km4.us,km4.ul,km4.em⟩,.broken hs4 rfl (fun T hT=>hC hb4 T ((hG T).1 hT).1 ((hG T).1 hT).2.2),hs4,e4.trans (e5.trans e6),x3⟩
    | false =>
     rw [hb4] at c9;have km5:KM m { f4 with uns:=.slice ua f.us.length uc,us:=f4.us } C:=⟨⟨km4.r.vals,km4.r.rs,km4.r.wv,km4.r.ok⟩,km4.wi,km4.ce,km4.cl,km4.ks,km4.kl,km4.us,km4.ul,km4.em⟩;simp (disch:=omega) only [go_sem,↓cB,r0,r2,r27,r28,r29,rd,w5,c9];refine A7 (Ei (G:=Gi) (C:=C) m5 km5.r km5.ce (by show SI m (Kx f4.tr f4.lits) C f4.w Gi f4.head; rw [x8,x9,x10,hh0]; exact si4) hmx (by have:=km4.cl; rw [x3] at this; omega)) ?_;rintro v H6 ⟨ow6,f6,m6,r6,e6,v6,hc6⟩;obtain ⟨cb,rfl,w6,hkt⟩:=KT.prop (Ga:=G) v6 hs4 (fun T=>by
      rw [hG];show _↔_/\f4.emp=0;rw [x7];exact ⟨fun ⟨a,b,c⟩=>⟨hA T a c,b⟩,fun ⟨a,b⟩=>⟨(hB hb4 T a).1,b,(hB hb4 T a).2⟩⟩) hc6
     have km6:=km5.vz r6 v6 w6;obtain ⟨H7,w7,m7,e7⟩:=m6.yx (!cb);simp (disch:=omega) only [go_sem,↓cB,w7];have hst6:f6.stale=false:=by
      have:=v6.key;simp only [Kf.key,Jx] at this;rw [this.2.2.2.2.2.2.2.2.2]; exact hs4
     exact fin ⟨rfl,ow6,_,m7,km6.bro,hkt _ rfl,hst6,((e4.trans e5).trans e6).trans e7,by have:=v6.es; show f6.es=_; rw [this]; exact x3⟩
   ·obtain ⟨u,hu⟩:∃ u,f.us[i]?=some u:=⟨_,J1 (by omega)⟩;have hum:=J2 hu;obtain ⟨hue,huC,y,hly,hyc⟩:=hm.us u hum;obtain ⟨y1,y2,y3,y4⟩:=AP hyc;have hu4:f4.us[i]?=some u:=(by rw [x6]; exact hu);have hly4:f4.lits u = [y]:=(by rw [x8]; exact hly);obtain ⟨ub,uo,ucap,eub,-,ku⟩:=MD.cell m4 (r:=8) rfl rfl (Bu hu4);have eub':f4.uns=.slice (some ⟨ub,uo,none⟩) f4.us.length ucap:=(by simpa [Am] using eub);have eub2:(.slice ua f.us.length uc:Value)=.slice (some ⟨ub,uo,none⟩) f4.us.length ucap:=(by rw [<- eu,<- x2]; exact eub');simp only [Value.slice.injEq] at eub2;obtain ⟨rfl,-,rfl⟩:=eub2;obtain ⟨lv,hlv⟩:∃ v,f4.es[u]?=some v:=⟨_,J1 (by rw [x3]; exact hue)⟩;obtain ⟨cb,co,cc,ecl,-,k1⟩:=m4.cls hlv;have hue4:u < f4.es.length:=(by rw [x3]; exact hue);have c0:A5 H4 ⟨p,0,none⟩=some (.slice (some ⟨cb,co,none⟩) f4.es.length cc):=(by rw [<- ecl]; exact m4.c rfl);have hi1:(i:Int) + 1=((i + 1:Nat):Int):=(by omega);have htk:f.us.take (i + 1)=f.us.take i ++ [u]:=(by rw [Jl,hu]; rfl);have hT1:∀ T:Nat->Prop,(∀ q ∈ f.us.take (i + 1),∀ z,f.lits q = [z]->T z)↔(∀ q ∈ f.us.take i,∀ z,f.lits q = [z]->T z)/\T y:=fun T=>by
     rw [htk];constructor
     ·intro hh;exact ⟨fun q hq z e=>hh q (by simp [hq]) z e,hh u (by simp) y hly⟩
     ·rintro ⟨h1,h2⟩ q hq z e;rcases Jh.1 hq with hq | hq
      ·exact h1 q hq z e
      ·rw [J6.1 hq,hly] at e;simp only [Zh,Zt] at e;rw [<- e]; exact h2
    simp (disch:=omega) only [go_sem,↓cB,r0,r2,r27,r28,r29,rd,ku,c0,k1];refine Vo m4 T.zk eub' hu4 ?_;intro H5 ow5 m5 e5;obtain ⟨cb5,co5,cc5,ecl5,k05,-⟩:=m5.cls hlv;obtain ⟨lb,lo,lcap,rfl,-⟩:=m5.xf hlv (by rw [hly4]; simp);rw [hly4] at hlv k05;have c05:A5 H5 ⟨p,0,none⟩=some (.slice (some ⟨cb5,co5,none⟩) f4.es.length cc5):=(by rw [<- ecl5]; exact m5.c rfl);have ky:A5 H5 ⟨lb,lo + 0,none⟩=some (iv y):=m5.zp (c:=u) (b:=lb) (o:=lo) (cap:=lcap) (by rw [hly4]; exact hlv) (j:=0) (by rw [hly4]; rfl);have ky0:A5 H5 ⟨lb,lo,none⟩=some (iv y):=ky;have hvl:=km4.r.len;have hrl:=km4.r.rs;obtain ⟨vb,vo,vc,ev⟩:=m5.vv (x:=y) (by omega);have c3:A5 H5 ⟨p,3,none⟩=some (.slice (some ⟨vb,vo,none⟩) (2 * m + 2) vc):=(by rw [<- hvl,<- ev]; exact m5.c rfl);have cy:A5 H5 ⟨vb,vo + y,none⟩=some (.int .i8 ((Kx f4.tr f4.lits).val y)):=m5.vw ev (km4.r.val (by omega));have hin:=Dl (L:=f4.lits) km4.r.ok;have e45:=e4.trans e5;have z1:(0:Int) < (([y]:List Nat).length:Int):=(by simp);rcases Wb ((Kx f4.tr f4.lits).val y) 0 with hv | hv | hv
    ·have hny:neg y ∈ f4.tr:=(BG hin).1 hv;obtain ⟨H6,w6,m6,e6⟩:=m5.yx true;simp (disch:=omega) only [go_sem,↓cB,r0,r2,r27,r28,r29,rd,z1,c05,k05,ky,ky0,c3,cy,w6];refine fin ⟨f.us.length - (i + 1),by omega,i + 1,ow5,_,rfl,by omega,by simp (disch:=omega) only [go_sem,↓cB,r0,r2,r27,r28,r29,rd,hi1],m6,km4.bro,hk4,hs4,e45.trans e6,Gi,si4,fun T hT hh=>hA T hT ((hT1 T).1 hh).1,fun e=>(nomatch (show true=false from e)),fun _ T hT hh=>?_⟩;obtain ⟨h1,h2⟩:=(hT1 T).1 hh;have hcl:=hA T hT h1;exact hcl.con y h2 (si4.all hcl _ hny)
    ·obtain ⟨h1,h2⟩:=Cq.1 hv;rw [hv] at cy;simp (disch:=omega) only [go_sem,↓cB,r0,r2,r27,r28,r29,rd,z1,c05,k05,ky,ky0,c3,cy];refine A7 (E3 m5 (x:=y) (q:=(u:Int)) (by omega) (by omega) (by omega) (by omega) (by have:=km4.r.ok.len; omega)) ?_;rintro v H6 ⟨rfl,ow6,tv,m6,e6⟩;simp (disch:=omega) only [go_sem,↓cB,r0,r2,r27,r28,r29,rd];refine fin ⟨f.us.length - (i + 1),by omega,i + 1,ow6,_,rfl,by omega,by simp (disch:=omega) only [go_sem,↓cB,r0,r2,r27,r28,r29,rd,hi1],m6,km4.push hyc h1 h2,hk4,hs4,e45.trans e6,[y] :: Gi,si4.mj hyc h1 h2,fun T hT hh=>CU.2 ⟨((hT1 T).1 hh).2,hA T hT ((hT1 T).1 hh).1⟩,fun e T hT=>?_,fun e T hT hh=>hC e T hT ((hT1 T).1 hh).1⟩;obtain ⟨h3,h4⟩:=CU.1 hT;exact ⟨(hB e T h4).1,(hT1 T).2 ⟨(hB e T h4).2,h3⟩⟩
    ·have hyt:=Cu.1 hv;simp (disch:=omega) only [go_sem,↓cB,r0,r2,r27,r28,r29,rd,z1,c05,k05,ky,ky0,c3,cy];exact fin ⟨f.us.length - (i + 1),by omega,i + 1,ow5,f4,rfl,by omega,by simp (disch:=omega) only [go_sem,↓cB,r0,r2,r27,r28,r29,rd,hi1],m5,km4,hk4,hs4,e45,Gi,si4,fun T hT hh=>hA T hT ((hT1 T).1 hh).1,fun e T hT=>⟨(hB e T hT).1,(hT1 T).2 ⟨(hB e T hT).2,si4.all hT y hyt⟩⟩,fun e T hT hh=>hC e T hT ((hT1 T).1 hh).1⟩
end
section
variable {H:A3} {ow:Nat->Nat} {p m:Nat} {f:Kf} {C:List Nat} {G:List (List Nat)}
theorem FN (h:RK H ow p f) (hm:KM m f C) (ht:KT m f C G) (hmx:m<=1000) (hes:f.es.length<=50000)
  {a:Option Addr} {xs:List Int} {c:Nat} {idle:Bool} (hx:Rn H a xs) (hxo:∀ b o,a=some ⟨b,o,none⟩->b < H.size/\ow b=0) (hn:∀ x ∈ xs,AE x=true/\x.natAbs<=1000) (hlen:xs.length<=1000)
  (hi1:idle=true->∃ y ∈ xs.map Ai,neg y ∈ xs.map Ai) :
  CallF Tryz.prog 68 [pv p,.slice a xs.length c,.bool idle] H (fun v H'=>∃ (r:Bool) (ow':Nat->Nat) (f':Kf) (m':Nat),v=.bool r/\(r=true↔Rup G (xs.map Ai))/\RK H' ow' p f'/\KM m' f' C/\KT m' f' C G/\Ex H ow H' ow'/\m<=m'/\m'<=1000/\f'.es.length=f.es.length) NoP:=by
 have hg:grt xs<=1000:=Gh.2 fun x hx _=>(hn x hx).2
 refine A9 Tryz.func68 rfl Tryz.ntmps68 Tryz.results68 (by decide) rfl ?_
 cases idle with
 | true =>
  simp (disch:=omega) only [go_sem,↓cB];exact fin ⟨true,ow,f,m,rfl,⟨fun _=>Rup.cq (hi1 rfl),fun _=>rfl⟩,h,hm,ht,Ex.refl,Jb _,hmx,rfl⟩
 | false =>
  clear hi1;simp (disch:=omega) only [go_sem,↓cB];refine A7 (Ib h (k:=m + 1) (by rw [hm.r.len]; omega) (by rw [hm.r.wv]; omega) hm.r.rs (fun x hx=>hm.wi.far (by rw [<- hm.r.wv]; exact hx)) (by omega) hx hxo hn (by omega)) ?_;rintro lv H1 ⟨ow1,va,wa,ra,m1,e1,v1,o1⟩;have km1:=hm.gr (v:=grt xs) (va:=va) (wa:=wa) (ra:=ra);have kt1:=ht.gr (v:=grt xs) (va:=va) (wa:=wa) (ra:=ra);obtain ⟨f1,hf1⟩:∃ f1,f1=f.gr (m + 1) (grt xs) va wa ra:=⟨_,rfl⟩;have hes1:f1.es.length=f.es.length:=(by rw [hf1]);rw [<- hf1] at m1 km1 kt1;rw [<- hes1];rw [<- hes1] at hes;obtain ⟨g,hgx⟩:∃ g,g=xs.map Ai:=⟨_,rfl⟩;rw [<- hgx] at v1 ⊢;have hgi:∀ y ∈ g,isC (max m (grt xs)) y:=fun y hy=>by
   rw [hgx] at hy;obtain ⟨x,hx',rfl⟩:=Ji.1 hy;exact D3 (Ci (hn x hx').1) (by have:=Gh.1 (Jb (grt xs)) x hx' (hn x hx').1; omega)
  have hgl:g.length<=1000:=(by rw [hgx]; simpa using hlen);obtain ⟨m',hm'⟩:∃ m',m'=max m (grt xs):=⟨_,rfl⟩;rw [<- hm'] at km1 kt1 hgi;have hmm:m<=m':=(by omega);have hmx':m'<=1000:=(by omega);obtain ⟨la,ll,lc,rfl,hll⟩:=v1.len;have hll':ll=g.length:=(by simpa [Am] using hll.symm);subst hll';clear hm ht h hf1 hm' hll hx hxo;simp (disch:=omega) only [go_sem,↓cB];refine A7 (Kz m1 km1 kt1 hmx' hes) ?_;rintro v H2 ⟨rfl,ow2,f2,m2,km2,kt2,hst2,e2,hes2⟩;have e02:=e1.trans e2;have v2:Vec H2 3 1 (.slice la g.length lc) (nv g):=e2.vec v1 (fun b hb=>(o1 b hb).2);have o2:∀ b ∈ own (.slice la g.length lc),ow2 b=0:=fun b hb=>(by rw [e2.ow b (v1.lt b hb)]; exact (o1 b hb).2);rw [<- hes2];rw [<- hes2] at hes;clear m1 km1 kt1 e1 e2 v1 o1 hes2 hes1;have c8:A5 H2 ⟨p,8,none⟩=some (iv f2.emp):=m2.c rfl;have c9:A5 H2 ⟨p,9,none⟩=some (.bool f2.bro):=m2.c rfl;by_cases hem:0 < f2.emp
  ·simp (disch:=omega) only [go_sem,↓cB,c8];refine fin ⟨true,ow2,f2,m',rfl,⟨fun _ T hT=>?_,fun _=>rfl⟩,m2,km2,kt2,e02,hmm,hmx',rfl⟩;cases kt2 with
   | stale h1=>rw [hst2] at h1; cases h1
   | fine h1 h2 h4 Gw hs hG=>have:=((hG T).1 hT).2; omega
   | broken h1 h2 hG=>exact absurd hT (hG T)
  have hem0:f2.emp=0:=(by omega);rw [hem0] at c8;cases hbr:f2.bro with
  | true =>
   rw [hbr] at c9;simp (disch:=omega) only [go_sem,↓cB,c8,c9];refine fin ⟨true,ow2,f2,m',rfl,⟨fun _ T hT=>?_,fun _=>rfl⟩,m2,km2,kt2,e02,hmm,hmx',rfl⟩;cases kt2 with
   | stale h1=>rw [hst2] at h1; cases h1
   | fine h1 h2=>rw [hbr] at h2; cases h2
   | broken h1 h2 hG=>exact absurd hT (hG T)
  | false =>
   rw [hbr] at c9;obtain ⟨hh2,Gw,hs,hG⟩:=kt2.vt hst2 hbr;clear kt2;have hG':∀ T,Clo T G↔Clo T Gw:=fun T=>(by rw [hG]; exact and_iff_left hem0);obtain ⟨ta,tc,et⟩:∃ a cap,f2.trl=.slice a f2.tr.length cap:=by
    obtain ⟨a,cap,e⟩:=MD.form m2 (r:=7) rfl rfl;exact ⟨a,cap,by simpa [Am] using e⟩
   have c5:A5 H2 ⟨p,5,none⟩=some (.slice ta f2.tr.length tc):=(by rw [<- et]; exact m2.c rfl);have htn:=km2.r.ok.len;simp (disch:=omega) only [go_sem,c8,c9,c5];refine Bp (fun U H3=>∃ (ow3:Nat->Nat) (f3:Kf) (fd:Bool) (Gi:List (List Nat)),
    (U.get 0=pv p/\U.get 8=iv f2.tr.length/\U.get 9=.bool fd/\U.ds = []) /\
    RK H3 ow3 p f3/\KM m' f3 C/\f3.key=f2.key/\f3.lits=f2.lits/\f3.w=f2.w/\f3.head=f2.head/\f2.tr <+: f3.tr/\Ex H ow H3 ow3 /\
    SI m' (Kx f3.tr f2.lits) C f2.w Gi f2.tr.length/\(∀ T,Clo T Gw->(∀ y ∈ g,T (neg y))->Clo T Gi)/\(fd=false->(∀ y ∈ g,neg y ∈ f3.tr)/\∀ T,Clo T Gi->Clo T Gw)/\(fd=true->∀ T,Clo T Gw->¬ ∀ y ∈ g,T (neg y))) ?_ ?_
   ·simp (disch:=omega) only [go_sem,↓cB];refine Ae (fun j U H3=>∃ (i:Nat) (ow3:Nat->Nat) (f3:Kf) (fd:Bool) (Gi:List (List Nat)),j=g.length - i/\i<=g.length /\
     (U.get 0=pv p/\U.get 8=iv f2.tr.length/\U.get 9=.bool fd/\U.get 34=.slice la g.length lc/\U.get 35=iv g.length/\U.get 36=iv i/\U.ds = []) /\
     RK H3 ow3 p f3/\KM m' f3 C/\f3.key=f2.key/\f3.lits=f2.lits/\f3.w=f2.w/\f3.head=f2.head/\f2.tr <+: f3.tr/\Ex H2 ow2 H3 ow3 /\
     SI m' (Kx f3.tr f2.lits) C f2.w Gi f2.tr.length/\(∀ T,Clo T Gw->(∀ y ∈ g.take i,T (neg y))->Clo T Gi)/\(fd=false->(∀ y ∈ g.take i,neg y ∈ f3.tr)/\∀ T,Clo T Gi->Clo T Gw)/\(fd=true->∀ T,Clo T Gw->¬ ∀ y ∈ g,T (neg y))) (k:=g.length) ?_ ?_
    ·exact ⟨0,ow2,f2,false,Gw,rfl,by omega,by simp (disch:=omega) only [go_sem,↓cB]; try rfl,m2,km2,rfl,rfl,rfl,rfl,Zl _,Ex.refl,hs,fun T hT _=>hT,fun _=>⟨by simp,fun T hT=>hT⟩,fun e=>nomatch e⟩
    ·rintro _ U H3 ⟨i,ow3,f3,fd,Gi,rfl,hi,⟨r0,r8,r9,r34,r35,r36,rd⟩,m3,km3,k3,l3,w3,hd3,pre3,e3,s3,hA,hB,hC⟩;by_cases hie:i=g.length
     ·subst hie;rw [Jr] at hA hB;simp (disch:=omega) only [go_sem,↓cB,r0,r8,r9,r34,r35,r36,rd];exact fin ⟨ow3,f3,fd,Gi,by simp (disch:=omega) only [go_sem,↓cB,r0,r8,r9,rd],m3,km3,k3,l3,w3,hd3,pre3,e02.trans e3,s3,hA,hB,hC⟩
     ·obtain ⟨y,hy⟩:∃ y,g[i]?=some y:=⟨_,J1 (by omega)⟩;have hym:=J2 hy;have hyc:=hgi y hym;obtain ⟨y1,y2,y3,y4⟩:=AP hyc;have v3:Vec H3 3 1 (.slice la g.length lc) (nv g):=e3.vec v2 o2;obtain ⟨lb,lo,lcap,el,ky⟩:=Bc v3 (Bu hy);simp only [Value.slice.injEq] at el;obtain ⟨rfl,-,rfl⟩:=el;have hvl:=km3.r.len;have hrl:=km3.r.rs;obtain ⟨vb,vo,vc,ev⟩:=m3.vv (x:=y) (by omega);have c3:A5 H3 ⟨p,3,none⟩=some (.slice (some ⟨vb,vo,none⟩) (2 * m' + 2) vc):=(by rw [<- hvl,<- ev]; exact m3.c rfl);have cy:A5 H3 ⟨vb,vo + y,none⟩=some (.int .i8 ((Kx f3.tr f3.lits).val y)):=m3.vw ev (km3.r.val (by omega));have hin:=Dl (L:=f3.lits) km3.r.ok;have hi1:(i:Int) + 1=((i + 1:Nat):Int):=(by omega);have htk:g.take (i + 1)=g.take i ++ [y]:=(by rw [Jl,hy]; rfl);have hT1:∀ T:Nat->Prop,(∀ q ∈ g.take (i + 1),T (neg q))↔(∀ q ∈ g.take i,T (neg q))/\T (neg y):=fun T=>by
       rw [htk];constructor
       ·intro hh;exact ⟨fun q hq=>hh q (by simp [hq]),hh y (by simp)⟩
       ·rintro ⟨h1,h2⟩ q hq;rcases Jh.1 hq with hq | hq
        ·exact h1 q hq
        ·rw [J6.1 hq]; exact h2
      rcases Wb ((Kx f3.tr f3.lits).val y) 0 with hv | hv | hv
      ·have hny:neg y ∈ f3.tr:=(BG hin).1 hv;simp (disch:=omega) only [go_sem,↓cB,r0,r8,r9,r34,r35,r36,rd,ky,c3,cy];refine fin ⟨g.length - (i + 1),by omega,i + 1,ow3,f3,fd,Gi,rfl,by omega,by simp (disch:=omega) only [go_sem,↓cB,r0,r8,r9,r34,r35,r36,rd,hi1],m3,km3,k3,l3,w3,hd3,pre3,e3,s3,fun T hT hh=>hA T hT ((hT1 T).1 hh).1,fun e=>⟨fun q hq=>?_,(hB e).2⟩,hC⟩;rw [htk] at hq;rcases Jh.1 hq with hq | hq
       ·exact (hB e).1 q hq
       ·rw [J6.1 hq]; exact hny
      ·obtain ⟨h1,h2⟩:=Cq.1 hv;rw [hv] at cy;have ex:=fun V t xo yo=>Di (V:=V) (t:=t) (xo:=xo) (yo:=yo) (n:=y) (by omega);simp (disch:=omega) only [go_sem,↓cB,r0,r8,r9,r34,r35,r36,rd,ky,c3,cy,ex];obtain ⟨z1,z2,z3,z4⟩:=AP (C0 hyc);have hz:=C0 hyc;refine A7 (E3 m3 (x:=neg y) (q:=-1) (by omega) (by omega) (by omega) (by omega) (by have:=km3.r.ok.len; omega)) ?_;rintro v H4 ⟨rfl,ow4,tv,m4,e4⟩;have km4:=km3.push (q:=-1) (tv:=tv) hz h2 (by rw [neg_neg]; exact h1);simp (disch:=omega) only [go_sem,↓cB,r0,r8,r9,r34,r35,r36,rd];refine fin ⟨g.length - (i + 1),by omega,i + 1,ow4,_,fd,[neg y] :: Gi,rfl,by omega,by simp (disch:=omega) only [go_sem,↓cB,r0,r8,r9,r34,r35,r36,rd,hi1],m4,km4,k3,l3,w3,hd3,pre3.trans (Yx _ _),e3.trans e4,s3.mj hz h2 (by rw [neg_neg]; exact h1),fun T hT hh=>CU.2 ⟨((hT1 T).1 hh).2,hA T hT ((hT1 T).1 hh).1⟩,fun e=>⟨fun q hq=>?_,fun T hT=>(hB e).2 T (CU.1 hT).2⟩,hC⟩;rw [htk] at hq;show neg q ∈ f3.tr ++ [neg y];rcases Jh.1 hq with hq | hq
       ·exact Jh.2 (.inl ((hB e).1 q hq))
       ·rw [J6.1 hq]; simp
      ·have hyt:=Cu.1 hv;simp (disch:=omega) only [go_sem,↓cB,r0,r8,r9,r34,r35,r36,rd,ky,c3,cy];refine fin ⟨g.length - (i + 1),by omega,i + 1,ow3,f3,true,Gi,rfl,by omega,by simp (disch:=omega) only [go_sem,↓cB,r0,r8,r9,r34,r35,r36,rd,hi1],m3,km3,k3,l3,w3,hd3,pre3,e3,s3,fun T hT hh=>hA T hT ((hT1 T).1 hh).1,fun e=>(nomatch e),fun _ T hT hh=>?_⟩;have hcl:=hA T hT fun q hq=>hh q (Yp hq);exact hcl.con y (s3.all hcl y hyt) (hh y hym)
   ·rintro U H3 ⟨ow3,f3,fd,Gi,⟨r0,r8,r9,rd⟩,m3,km3,k3,l3,w3,hd3,pre3,e3,s3,hA,hB,hC⟩;have hes3:f3.es=f2.es:=congrArg (·.2.2.1) k3;have hS3:SI m' (Kx f3.tr f3.lits) C f3.w Gi f3.head:=(by rw [l3,w3,hd3,hh2]; exact s3);have hbs3:Bs f2.tr f3.lits C:=(by rw [l3]; exact hs.bs);have fin2:∀ (r:Bool) (ow4:Nat->Nat) (f4:Kf) (H4:A3),(r=true↔Rup G g)->RK H4 ow4 p f4->KM m' f4 C->Ex H ow H4 ow4->Vz C f3 f4 ->
      CallF Tryz.prog 139 [pv p,iv f2.tr.length] H4 (fun v H'=>v=.tuple #[]/\∃ (ow':Nat->Nat) (f':Kf),(r=true↔Rup G g)/\RK H' ow' p f'/\KM m' f' C/\KT m' f' C G/\Ex H ow H' ow'/\f'.es.length=f2.es.length) NoP:=by
     intro r ow4 f4 H4 hr m4 km4 e4 v4
     have hpre:f2.tr <+: f4.tr:=pre3.trans v4.pre
     have htk:f4.tr.take f2.tr.length=f2.tr:=by
      obtain ⟨t,e⟩:=hpre;rw [<- e]; simp
     have hk4:=v4.key
     rw [k3] at hk4
     have hk4':=hk4
     simp only [Kf.key,Jx] at hk4'
     obtain ⟨x1,x2,x3,x4,x5,x6,x7,x8,x9,x10⟩:=hk4'
     refine (JN m4 km4.r (by omega) (k:=f2.tr.length) hpre.length_le).mono ?_ (fun _ _ h=>h)
     rintro v H5 ⟨rfl,ow5,rs5,tv5,hrs5,m5,e5⟩
     rw [htk] at m5
     have hsi:SI m' (Kx f2.tr f4.lits) C f4.w Gw f2.tr.length:=SI.cp hs km4.wi (fun c _=>by rw [<- l3]; exact v4.pm c) (v4.bs f2.tr (fun z hz=>pre3.subset hz) hbs3)
     exact ⟨rfl,ow5,_,hr,m5,⟨⟨rfl,hrs5,km4.r.wv,km2.r.ok⟩,hsi.wi,km4.ce,km4.cl,km4.ks,km4.kl,km4.us,km4.ul,km4.em⟩,.fine (x10.trans hst2) (x9.trans hbr) rfl Gw hsi (fun T=>by rw [hG]; show _↔_/\f4.emp=0; rw [x8]),e4.trans e5,by show f4.es.length=_; rw [x3]⟩
    cases fd with
    | true =>
     simp (disch:=omega) only [go_sem,↓cB,r0,r8,r9,rd];refine A7 (fin2 true ow3 f3 H3 ⟨fun _ T hT=>hC rfl T ((hG' T).1 hT),fun _=>rfl⟩ m3 km3 e3 Vz.refl) ?_;rintro v H5 ⟨rfl,ow5,f5,hr,m5,km5,kt5,e5,hes5⟩;simp (disch:=omega) only [go_sem,↓cB];exact fin ⟨true,ow5,f5,m',rfl,hr,m5,km5,kt5,e5,hmm,hmx',hes5⟩
    | false =>
     obtain ⟨hB1,hB2⟩:=hB rfl;simp (disch:=omega) only [go_sem,↓cB,r0,r8,r9,rd];refine A7 (Ei (G:=Gi) (C:=C) m3 km3.r km3.ce hS3 hmx' (by have:=km3.cl; rw [hes3] at this; omega)) ?_;rintro v H4 ⟨ow4,f4,m4,r4,e4,v4,hc4⟩;obtain ⟨cb,rfl,w4,hcb⟩:∃ cb:Bool,v=.bool cb/\WI m' (Kx f4.tr f4.lits) C f4.w/\((!cb)=true↔Rup G g):=by
      rcases hc4 with ⟨rfl,s4,h4⟩ | ⟨rfl,w4,hno⟩
      ·refine ⟨true,rfl,s4.wi,⟨(fun e=>nomatch e),fun hr=>?_⟩⟩;have hcl:=s4.clo;exact absurd (fun y hy=>v4.pre.subset (hB1 y hy)) (hr _ ((hG' _).2 (hB2 _ hcl)))
      ·exact ⟨false,rfl,w4,fun _ T hT hall=>hno T (hA T ((hG' T).1 hT) hall),fun _=>rfl⟩
     have km4:=km3.vz r4 v4 w4;simp (disch:=omega) only [go_sem,↓cB,r0,r8,r9,rd];refine A7 (fin2 (!cb) ow4 f4 H4 hcb m4 km4 (e3.trans e4) v4) ?_;rintro v H5 ⟨rfl,ow5,f5,hr,m5,km5,kt5,e5,hes5⟩;simp (disch:=omega) only [go_sem,↓cB];exact fin ⟨!cb,ow5,f5,m',rfl,hr,m5,km5,kt5,e5,hmm,hmx',hes5⟩
end
end Go.Proofs.YtkdlmdmlomgdiaaGreat
namespace Go.Sat
theorem ClT.fo {T:Nat->Prop} {g g':List Nat} (h:ClT T g) (hm:∀ y,y ∈ g'↔y ∈ g):ClT T g' :=
 ⟨fun x hx hall=>h.1 x ((hm x).1 hx) fun y hy=>hall y ((hm y).2 hy),fun hall=>h.2 fun y hy=>hall y ((hm y).2 hy)⟩
theorem GD {G:List (List Nat)} {g g':List Nat} (hm:∀ y,y ∈ g'↔y ∈ g):Rup G g'↔Rup G g :=
 ⟨fun h T hT hall=>h T hT fun y hy=>hall y ((hm y).1 hy),fun h T hT hall=>h T hT fun y hy=>hall y ((hm y).2 hy)⟩
theorem Km {T:Nat->Prop} {G:List (List Nat)} {g g':List Nat} (hm:∀ y,y ∈ g'↔y ∈ g):Clo T (g' :: G)↔Clo T (g :: G):=by
 rw [Bj,Bj];exact ⟨fun h=>⟨h.1.fo fun y=>(hm y).symm,h.2⟩,fun h=>⟨h.1.fo hm,h.2⟩⟩
theorem SI.bu {n:Nat} {L:Nat->List Nat} {w:Nat->List Nat} (hw:∀ y,w y = []):SI n (Kx [] L) [] w [] 0 :=
 ⟨Dl ⟨fun x hx=>by simp at hx,by simp⟩,⟨fun c hc=>by simp at hc,fun y c hc=>by rw [hw] at hc; simp at hc,fun y=>by rw [hw]; simp,fun c hc=>by simp at hc,fun i x c _ h=>by simp at h⟩,fun c hc=>by simp at hc,⟨fun T hT=>⟨fun c hc=>by simp at hc,fun i x h=>by simp at h⟩,fun g hg=>by simp at hg⟩,Jb _,by simp⟩
end Go.Sat
namespace Go.Proofs.YtkdlmdmlomgdiaaGreat
open Go.HL HM Go.Sat
theorem KT.iff {m:Nat} {f:Kf} {C:List Nat} {G G':List (List Nat)} (h:KT m f C G) (hG:∀ T,Clo T G'↔Clo T G):KT m f C G':=by
 cases h with
 | stale h1 h2 h3 h4 Gw hs hg=>exact .stale h1 h2 h3 h4 Gw hs fun T=>by rw [hG,hg]
 | fine h1 h2 h4 Gw hs hg=>exact .fine h1 h2 h4 Gw hs fun T=>by rw [hG,hg]
 | broken h1 h2 hg=>exact .broken h1 h2 fun T hT=>hg T ((hG T).1 hT)
section
variable {H:A3} {N:Nat}
theorem Qs {a:Option Addr} {xs:List Int} {c:Nat} (hx:Rn H a xs) (hl:xs.all AE=true) (hlen:xs.length<=1000000):CallF Tryz.prog 132 [.slice a xs.length c] H (fun v H'=>v=.bool false/\H'=H) NoP:=by
 refine A9 Tryz.func132 rfl Tryz.ntmps132 Tryz.results132 (by decide) rfl ?_;simp (disch:=omega) only [go_sem,↓cB];refine A7 (Ff hx hlen) ?_;rintro v H2 ⟨rfl,rfl⟩;rw [hl];simp (disch:=omega) only [go_sem,↓cB];exact fin ⟨rfl,rfl⟩
theorem Nr {a:Option Addr} {css:List (List Int)} {c:Nat} (hx:RL N H a css) (hlen:css.length<=1000000) (hcl:∀ r ∈ css,r.length<=1000000/\r.all AE=true) :
  CallF Tryz.prog 215 [.slice a css.length c,.func (.func 132) #[] #[]] H (fun v H'=>v=iv (-1)/\H'=H) NoP:=by
 refine A9 Tryz.func215 rfl Tryz.ntmps215 Tryz.results215 (by decide) rfl ?_
 simp (disch:=omega) only [go_sem,↓cB]
 refine Ae (fun k U H1=>∃ i:Nat,k=css.length - i/\i<=css.length/\(U.get 0=.slice a css.length c/\U.get 1=.func (.func 132) #[] #[]/\U.get 7=iv css.length/\U.get 8=iv i/\U.ds = [])/\H1=H) (k:=css.length) ?_ ?_
 ·exact ⟨0,rfl,by omega,by simp (disch:=omega) only [go_sem,↓cB]; try rfl,rfl⟩
 ·rintro _ U H1 ⟨i,rfl,hi,⟨r0,r1,r7,r8,rd⟩,e⟩
  subst H1
  by_cases hie:i=css.length
  ·simp (disch:=omega) only [go_sem,↓cB,r0,r1,r7,r8,rd]
   exact fin ⟨rfl,rfl⟩
  ·obtain ⟨x,hxi⟩:∃ x,css[i]?=some x:=⟨_,J1 (by omega)⟩
   obtain ⟨b',o',ra,rc,e,-,kx,hr,-⟩:=hx.ex i x hxi
   subst e
   obtain ⟨hl1,hl2⟩:=hcl x (J2 hxi)
   have hi1:(i:Int) + 1=((i + 1:Nat):Int):=by omega
   have cb:∀ {l:List Value} {H:A3} {R:Value->A3->Prop} {E:List PanicEntry->A3->Prop},@NO Tryz.prog (.func (.func 132) #[] #[]) l ⟨H⟩ ⟨R⟩ ⟨E⟩ = @O0 Tryz.prog 132 (l ++ []) ⟨H⟩ ⟨R⟩ ⟨E⟩:=(rfl)
   simp (disch:=omega) only [go_sem,↓cB,r0,r1,r7,r8,rd,kx,cb]
   refine A7 (Qs hr hl2 hl1) ?_
   rintro v H2 ⟨rfl,rfl⟩
   simp (disch:=omega) only [go_sem,↓cB,r0,r1,r7,r8,rd]
   exact fin ⟨css.length - (i + 1),by omega,i + 1,rfl,by omega,by simp (disch:=omega) only [go_sem,↓cB,r0,r1,r7,r8,rd,hi1],rfl⟩
theorem DO {a:Option Addr} {css:List (List Int)} {c:Nat} (hx:RL N H a css) (hlen:css.length<=1000000) (hcl:∀ r ∈ css,r.length<=1000000/\r.all AE=true) :
  CallF Tryz.prog 65 [.slice a css.length c] H (fun v H'=>v=.bool false/\H'=H) NoP:=by
 refine A9 Tryz.func65 rfl Tryz.ntmps65 Tryz.results65 (by decide) rfl ?_
 simp (disch:=omega) only [go_sem,↓cB]
 have hc:CallF Tryz.prog 131 [.slice a css.length c,.func (.func 132) #[] #[]] H (fun v H'=>v=.bool false/\H'=H) NoP:=by
  refine A9 Tryz.func131 rfl Tryz.ntmps131 Tryz.results131 (by decide) rfl ?_;simp (disch:=omega) only [go_sem,↓cB];refine A7 (Nr hx hlen hcl) ?_;rintro v H2 ⟨rfl,rfl⟩;simp (disch:=omega) only [go_sem,↓cB];exact fin ⟨rfl,rfl⟩
 refine A7 hc ?_
 rintro v H2 ⟨rfl,rfl⟩
 simp (disch:=omega) only [go_sem,↓cB]
 exact fin ⟨rfl,rfl⟩
theorem It {a:Option Addr} {css:List (List Int)} {c:Nat} (hx:RL N H a css) (hlen:css.length<=1000000) (hcl:∀ r ∈ css,r.length<=1000000) :
  CallF Tryz.prog 20 [.slice a css.length c] H (fun v H'=>v=iv (grt css.flatten:Nat)/\H'=H) NoP:=by
 refine A9 Tryz.func20 rfl Tryz.ntmps20 Tryz.results20 (by decide) rfl ?_
 simp (disch:=omega) only [go_sem,↓cB]
 refine Ae (fun j U H1=>∃ i:Nat,j=css.length - i/\i<=css.length/\(U.get 8=.slice a css.length c/\U.get 9=iv css.length/\U.get 10=iv i/\U.get 3=iv (grt (css.take i).flatten:Nat)/\U.ds = [])/\H1=H) (k:=css.length) ?_ ?_
 ·exact ⟨0,rfl,by omega,by simp (disch:=omega) only [go_sem,↓cB]; rfl,rfl⟩
 ·rintro _ U H1 ⟨i,rfl,hi,⟨r8,r9,r10,r3,rd⟩,e⟩
  subst H1
  by_cases h1:i=css.length
  ·subst h1
   rw [Jr] at r3
   simp (disch:=omega) only [go_sem,↓cB,r8,r9,r10,r3,rd]
   exact fin ⟨rfl,rfl⟩
  ·obtain ⟨xs,hxi⟩:∃ x,css[i]?=some x:=⟨_,J1 (by omega)⟩
   obtain ⟨b',o',ra,rc,e,-,kr,hr,-⟩:=hx.ex i xs hxi
   subst e
   have hlen:=hcl xs (J2 hxi)
   have hi1:(i:Int) + 1=((i + 1:Nat):Int):=by omega
   have htf:(css.take (i + 1)).flatten=(css.take i).flatten ++ xs:=by rw [Jl,hxi]; simp
   generalize hF:(css.take i).flatten=F at r3 htf
   simp (disch:=omega) only [go_sem,r8,r9,r10,r3,kr]
   refine Bp (fun U H1=>(U.get 8=.slice (some ⟨b',o',none⟩) css.length c/\U.get 9=iv css.length/\U.get 10=iv i/\U.get 3=iv (grt (F ++ xs):Nat)/\U.ds = [])/\H1=H) ?_ ?_
   ·simp (disch:=omega) only [go_sem,↓cB,r8,r9,r10,r3,kr]
    refine Ae (fun j U H1=>∃ q:Nat,j=xs.length - q/\q<=xs.length/\(U.get 8=.slice (some ⟨b',o',none⟩) css.length c/\U.get 9=iv css.length/\U.get 10=iv i/\U.get 14=.slice ra xs.length rc/\U.get 15=iv xs.length/\U.get 16=iv q/\U.get 3=iv (grt (F ++ xs.take q):Nat)/\U.ds = [])/\H1=H) (k:=xs.length) ?_ ?_
    ·exact ⟨0,rfl,by omega,by (simp (disch:=omega) only [go_sem,↓cB,r8,r9,r10,r3,rd]; simp),rfl⟩
    ·clear r8 r9 r10 r3 rd
     rintro _ U H1 ⟨q,rfl,hq,⟨r8,r9,r10,r14,r15,r16,r3,rd⟩,e⟩
     subst H1
     by_cases hqe:q=xs.length
     ·subst hqe
      rw [Jr] at r3
      simp (disch:=omega) only [go_sem,↓cB,r8,r9,r10,r14,r15,r16,r3,rd]
      exact fin ⟨by simp (disch:=omega) only [go_sem,↓cB,r8,r9,r10,r14,r15,r16,r3,rd],rfl⟩
     ·obtain ⟨x,hxq⟩:∃ x,xs[q]?=some x:=⟨_,J1 (by omega)⟩
      obtain ⟨b2,o2,e,kx⟩:=hr q x hxq
      subst e
      have hq1:(q:Int) + 1=((q + 1:Nat):Int):=by omega
      have htk:F ++ xs.take (q + 1)=(F ++ xs.take q) ++ [x]:=by rw [Jl,hxq]; simp
      have hgt:=Mc (l:=F ++ xs.take q) (x:=x)
      rw [<- htk] at hgt
      simp (disch:=omega) only [go_sem,↓cB,r8,r9,r10,r14,r15,r16,r3,rd,kx]
      refine A7 I2 ?_
      rintro v H2 ⟨rfl,e⟩
      subst H2
      cases hl:AE x with
      | true =>
       rw [hl,J8 rfl] at hgt;simp (disch:=omega) only [go_sem,↓cB,r3];refine A7 (Lm (CP hl)) ?_;rintro v H2 ⟨rfl,e⟩;subst H2;have hmx:max ((grt (F ++ xs.take q):Nat):Int) ((x.natAbs:Nat):Int)=((grt (F ++ xs.take (q + 1)):Nat):Int):=(by rw [hgt]; omega);simp (disch:=omega) only [go_sem,↓cB,r3,hmx,r16];exact fin ⟨xs.length - (q + 1),by omega,q + 1,rfl,by omega,by simp (disch:=omega) only [go_sem,↓cB,r8,r9,r10,r14,r15,r16,r3,rd,hq1],rfl⟩
      | false =>
       rw [hl,J4 (by simp)] at hgt;rw [<- hgt] at r3;simp (disch:=omega) only [go_sem,↓cB,r3,r16];exact fin ⟨xs.length - (q + 1),by omega,q + 1,rfl,by omega,by simp (disch:=omega) only [go_sem,↓cB,r8,r9,r10,r14,r15,r16,r3,rd,hq1],rfl⟩
   ·clear r8 r9 r10 r3 rd
    rintro U H1 ⟨⟨r8,r9,r10,r3,rd⟩,e⟩
    subst H1
    simp (disch:=omega) only [go_sem,↓cB,r8,r9,r10,r3,rd]
    exact fin ⟨css.length - (i + 1),by omega,i + 1,rfl,by omega,by (simp (disch:=omega) only [go_sem,↓cB,r8,r9,r10,r3,rd,hi1]; rw [htf]),rfl⟩
end
section
variable {H:A3} {N:Nat}
theorem Fk {e:Nat} {v:Value} {xs:List Int} (h:Vec H e 1 v (xs.map iv)):∃ a c,v=.slice a xs.length c/\Rn H a xs:=by
 rcases h.ex with ⟨rfl,e2⟩ | ⟨b,len,cap,pre,rest,rfl,hb,h2,h3,h4⟩
 ·rw [Yi] at e2;subst e2;exact ⟨none,0,rfl,fun i x hx=>by simp at hx⟩
 ·have:len=xs.length:=(by simpa using h2.symm);subst this;exact ⟨_,cap,rfl,fun i x hx=>⟨b,pre.length,rfl,DJ hb hx⟩⟩
theorem NF.tm {xs zs:List Int} {idle:Bool} (h:NF xs zs idle) (y:Nat):y ∈ zs.map Ai↔y ∈ xs.map Ai:=by
 simp only [Ji];exact ⟨fun ⟨x,hx,e⟩=>⟨x,(h.mem x).1 hx,e⟩,fun ⟨x,hx,e⟩=>⟨x,(h.mem x).2 hx,e⟩⟩
theorem NF.args {xs zs:List Int} {idle:Bool} (h:NF xs zs idle) (hb:∀ x ∈ xs,AE x=true/\x.natAbs<=1000) :
  (∀ x ∈ zs,AE x=true/\x.natAbs<=1000)/\(idle=true->∃ y ∈ zs.map Ai,neg y ∈ zs.map Ai)/\(idle=false->((zs.map Ai).map (· / 2)).Nodup):=by
 have h1:∀ x ∈ zs,AE x=true/\x.natAbs<=1000:=fun x hx=>hb x ((h.mem x).1 hx)
 refine ⟨h1,fun e=>?_,fun e=>?_⟩
 ·obtain ⟨x,hx,hx2⟩:=h.idle.1 e
  exact ⟨Ai x,Ji.2 ⟨x,hx,rfl⟩,by rw [Cj (Ci (h1 x hx).1)]; exact Ji.2 ⟨-x,hx2,rfl⟩⟩
 ·exact HB (n:=1000) (fun x hx=>⟨Ci (h1 x hx).1,(h1 x hx).2⟩) h.str (fun hh=>by rw [h.idle.2 hh] at e; cases e)
def k0 (mp:Nat):Kf:=⟨.slice none 0 0,.slice none 0 0,.slice none 0 0,.slice none 0 0,.slice none 0 0,.slice none 0 0,[],fun _=>[],mp,[],fun _=>[],[],fun _=>[],[],[],[],[],0,0,false,true⟩
theorem j2e {H1:A3} {ow:Nat->Nat} {p mp:Nat} (hp:Blk H1 p 197 (Cy (k0 mp))) (hm:MapR H1 mp []) (h1:ow p=1) (h3:ow mp=3) (h0:∀ b,ow b ≠ 0->b < H1.size):RK H1 ow p (k0 mp):=by
 refine ⟨fun q o hq=>?_,hm,h3,h0,rfl,rfl⟩;by_cases hs:q=0\/q=3\/8 < q/\q < 100
 ·rw [Ft (by omega) (by omega)] at hq; cases hq
 ·by_cases h8:q<=8
  ·have:q=1\/q=2\/q=4\/q=5\/q=6\/q=7\/q=8:=(by omega);rcases this with rfl | rfl | rfl | rfl | rfl | rfl | rfl
   ·cases hq
    exact ⟨⟨.inr ⟨p,11,11,[],[],rfl,by simpa using hp,rfl,rfl,Jb _⟩⟩,fun b hb=>by
     have:b=p:=(by simpa [own] using hb);rw [this]; exact h1⟩
   all_goals
    cases hq
    exact VR.nil
  ·have h3:q % 3=1\/q % 3=2\/q % 3=0:=(by omega);rcases h3 with h3 | h3 | h3
   ·have e:q=100 + 3 * ((q - 100) / 3):=(by omega);rw [e,F4] at hq;simp [k0] at hq
   ·have e:q=101 + 3 * ((q - 101) / 3):=(by omega);rw [e,Er] at hq;simp [k0] at hq
   ·have e:q=102 + 3 * ((q - 102) / 3):=(by omega);rw [e,EN] at hq;simp [k0] at hq
theorem j2g {mp v:Nat} {va wa ra:Value}:KM v ((k0 mp).gr 0 v va wa ra) []:=by
 have h:∀ y,(Kx [] fun _=>([]:List Nat)).val y=0:=fun y=>Cq.2 ⟨by simp,by simp⟩;refine ⟨⟨?_,?_,?_,⟨fun x hx=>(by cases hx),by show ([]:List Nat).Nodup; simp⟩⟩,⟨fun c hc=>(by simp at hc),fun y c hc=>(by cases hc),fun y=>(by show ([]:List Nat).Nodup; simp),fun c hc=>(by simp at hc),fun i x c _ h=>(by simp at h)⟩,fun c hc=>(by simp at hc),Wq _,fun x hx=>(by cases hx),fun j=>Wq _,fun u hu=>(by cases hu),Wq _,Wq _⟩
 ·show [] ++ List.replicate (2 * (v + 1) - 2 * 0) 0=(Kx [] fun _=>[]).vals v;refine Y9 fun y=>?_;rw [X1,Xl];by_cases hy:y < 2 * v + 2
  ·rw [Cp hy,h,J8 (by omega)]
  ·rw [J4 (by omega),Jp (by rw [C2]; omega)]
 ·show ([] ++ List.replicate (v + 1 - 0) (-1:Int)).length=v + 1;simp
 ·show ([] ++ List.replicate (2 * (v + 1) - 2 * 0) (Value.slice none 0 0)).length=2 * v + 2;simp; omega
theorem j2f {mp v:Nat} {va wa ra:Value}:KT v ((k0 mp).gr 0 v va wa ra) [] [] :=
 .stale rfl rfl rfl rfl [] (SI.bu fun _=>rfl) fun T=>⟨fun h=>⟨h,rfl,fun u hu=>by cases hu⟩,fun h=>h.1⟩
theorem S8 {css:List (List Int)} {n:Nat} (h:∀ r ∈ css,∀ x ∈ r,AE x=true/\x.natAbs<=n):grt css.flatten<=n:=Gh.2 fun x hx _=>by
 obtain ⟨r,hr,hxr⟩:=List.mem_flatten.1 hx;exact (h r hr x hxr).2
theorem N5 {a:Option Addr} {css:List (List Int)} {c:Nat} (hN:N<=H.size) (hx:RL N H a css) (hlen:css.length<=1000) (hcl:∀ r ∈ css,r.length<=1000/\∀ x ∈ r,AE x=true/\x.natAbs<=1000) :
  CallF Tryz.prog 66 [.slice a css.length c] H (fun v H'=>∃ p ow' f m C,v=pv p/\Ex H (fun _=>0) H' ow'/\RK H' ow' p f/\KM m f C/\KT m f C (AW css)/\m<=1000/\f.es.length=css.length) NoP:=by
 have hg:=S8 (fun r hr=>(hcl r hr).2)
 refine A9 Tryz.func66 rfl Tryz.ntmps66 Tryz.results66 (by decide) rfl ?_
 simp (disch:=omega) only [go_sem,↓cB]
 have hs2:∀ o1 o2:Obj,RL N ((H.push o1).push o2) a css:=fun o1 o2=>hx.same fun b hb=>by
  have f1:Fr [] H (H.push o1):=Fr.push;have f2:Fr [] (H.push o1) ((H.push o1).push o2):=Fr.push;rw [f2.same b (by have:=f1.size; omega) (by simp),f1.same b (by omega) (by simp)]
 refine A7 (It (hs2 _ _) (by omega) (fun r hr=>by have:=(hcl r hr).1; omega)) ?_
 rintro v H2 ⟨rfl,e⟩
 have f2:Fr [] H H2:=by rw [e]; exact (Fr.push (F:=[])).trans (Fr.push (F:=[]))
 have hp2:Blk H2 (H.size + 1) 197 (Cy (k0 H.size)):=by
  have h3:(H.push (.map #[] 0)).size=H.size + 1:=(by simp);rw [e,<- h3]; exact Blk.new rfl
 have hm2:MapR H2 H.size []:=by
  rw [e]; exact MapR.new.frame (F:=[]) Fr.push (by simp)
 have hz:H2.size=H.size + 2:=by rw [e]; simp
 have hpz:(H.push (.map #[] 0)).size=H.size + 1:=by simp
 clear e hs2
 obtain ⟨ow,how⟩:∃ ow:Nat->Nat,ow=fun b=>if b=H.size + 1 then 1 else if b=H.size then 3 else 0:=⟨_,rfl⟩
 have m2:RK H2 ow (H.size + 1) (k0 H.size):=j2e hp2 hm2 (by rw [how]; simp) (by rw [how]; simp) (fun b hb=>by
  rw [how] at hb;simp only at hb;split at hb
  ·omega
  ·split at hb
   ·omega
   ·exact absurd rfl hb)
 have e2:Ex H (fun _=>0) H2 ow:=⟨Sm.of f2 (by simp),fun b hb=>by rw [how]; simp only; rw [J4 (by omega),J4 (by omega)]⟩
 clear how hp2 hm2
 obtain ⟨p,hp⟩:∃ p,p=H.size + 1:=⟨_,rfl⟩
 obtain ⟨mp,hmp⟩:∃ mp,mp=H.size:=⟨_,rfl⟩
 rw [hpz]
 rw [<- hp]
 rw [<- hp,<- hmp] at m2
 simp (disch:=omega) only [go_sem,↓cB]
 refine A7 (JO m2 (k:=0) rfl rfl rfl (fun x _=>rfl) (v:=grt css.flatten) (by omega) (by omega)) ?_
 rintro v H3 ⟨rfl,ow3,va,wa,ra,m3,e3⟩
 have km3:=j2g (mp:=mp) (v:=grt css.flatten) (va:=va) (wa:=wa) (ra:=ra)
 have kt3:=j2f (mp:=mp) (v:=grt css.flatten) (va:=va) (wa:=wa) (ra:=ra)
 obtain ⟨f3,hf3⟩:∃ f3,f3=(k0 mp).gr 0 (grt css.flatten) va wa ra:=⟨_,rfl⟩
 have hes3:f3.es.length=0:=by rw [hf3]; rfl
 rw [<- hf3] at km3 kt3
 have m3':RK H3 ow3 p f3:=by rw [hf3]; exact m3
 clear m3 hf3 m2
 have e03:=e2.trans e3
 clear e2 e3 f2
 simp (disch:=omega) only [go_sem,↓cB]
 refine Ae (fun j U H4=>∃ (i m4:Nat) (ow4:Nat->Nat) (f4:Kf) (C4:List Nat),j=css.length - i/\i<=css.length/\(U.get 3=pv p/\U.get 13=.slice a css.length c/\U.get 14=iv css.length/\U.get 15=iv i/\U.ds = []) /\
  RK H4 ow4 p f4/\KM m4 f4 C4/\KT m4 f4 C4 (AW (css.take i))/\m4<=1000/\f4.es.length=i/\Ex H (fun _=>0) H4 ow4) (k:=css.length) ?_ ?_
 ·exact ⟨0,_,ow3,f3,[],rfl,by omega,by simp (disch:=omega) only [go_sem,↓cB]; try rfl,m3',km3,kt3,hg,hes3,e03⟩
 ·clear m3' km3 kt3 hes3 e03
  rintro _ U H4 ⟨i,m4,ow4,f4,C4,rfl,hi,⟨r3,r13,r14,r15,rd⟩,k4,km4,kt4,hm4,he4,e4⟩
  by_cases hie:i=css.length
  ·subst hie
   rw [Jr] at kt4
   simp (disch:=omega) only [go_sem,↓cB,r3,r13,r14,r15,rd]
   exact fin ⟨p,ow4,f4,m4,C4,rfl,e4,k4,km4,kt4,hm4,he4⟩
  ·obtain ⟨xs,hxi⟩:∃ x,css[i]?=some x:=⟨_,J1 (by omega)⟩
   obtain ⟨b',o',ra',rc,e,-,kr,hr,-⟩:=(hx.same (H':=H4) (fun b hb=>e4.fr (by omega) rfl)).ex i xs hxi
   subst e
   obtain ⟨hl1,hl2⟩:=hcl xs (J2 hxi)
   have hi1:(i:Int) + 1=((i + 1:Nat):Int):=by omega
   simp (disch:=omega) only [go_sem,↓cB,r3,r13,r14,r15,rd,kr]
   refine A7 (CB hr (fun x hx=>(hl2 x hx).1) (by omega)) ?_
   rintro v H5 ⟨f5,w,zs,idle,rfl,v5,o5,nf⟩
   obtain ⟨za,zc,rfl,hz5⟩:=Fk v5
   obtain ⟨n1,n2,n3⟩:=nf.args hl2
   have hle:=nf.le
   have k5:=MD.out k4 f5 (by simp)
   have e5:Ex H (fun _=>0) H5 ow4:=e4.trans (Ex.of (Sm.of (R:=fun _=>False) f5 (by simp)) (by simp))
   have hzo:∀ b o,za=some ⟨b,o,none⟩->b < H5.size/\ow4 b=0:=fun b o e=>by
    subst e;have h1:=o5 b (by simp [own]);exact ⟨v5.lt b (by simp [own]),MD.free k4 h1⟩
   simp (disch:=omega) only [go_sem,↓cB,r3]
   refine A7 (KZ k5 km4 kt4 hm4 (by omega) hz5 hzo n1 (by omega) n2 n3) ?_
   rintro v H6 ⟨rfl,ow6,f6,m6,C6,k6,km6,kt6,e6,hmm,hm6,he6⟩
   simp (disch:=omega) only [go_sem,↓cB,r3,r13,r14,r15,rd]
   exact fin ⟨css.length - (i + 1),by omega,i + 1,m6,ow6,f6,C6,rfl,by omega,by simp (disch:=omega) only [go_sem,↓cB,r3,r13,r14,r15,rd,hi1],k6,km6,kt6.iff (fun T=>by rw [Lf hxi]; exact Km fun y=>(nf.tm y).symm),hm6,by omega,e5.trans e6⟩
end
section
variable {H:A3} {N:Nat}
structure LR (N:Nat) (H:A3) (a:Option Addr) (zss:List (List Int)):Prop where
 ex:∀ (i:Nat) (z:List Int),zss[i]?=some z->∃ b o za zc,a=some ⟨b,o,none⟩/\b < N/\A5 H ⟨b,o + i * 2,none⟩=some (.bool false)/\A5 H ⟨b,o + i * 2 + 1,none⟩=some (.slice za z.length zc)/\z.length<=zc/\Rn H za z/\(z ≠ []->∀ b' o',za=some ⟨b',o',none⟩->b' < N)
theorem LR.same {H':A3} {a:Option Addr} {zss:List (List Int)} (h:LR N H a zss) (hs:∀ b,b < N->H'[b]?=H[b]?):LR N H' a zss:=⟨fun i z hi=>by
 obtain ⟨b,o,za,zc,e,hb,h1,h2,h3,h4,h5⟩:=h.ex i z hi
 exact ⟨b,o,za,zc,e,hb,Ec (hs b hb) h1,Ec (hs b hb) h2,h3,h4.same h5 hs,h5⟩⟩
theorem RL.one {t c:Nat} {a:Option Addr} {xs:List Int} (hx:Rn H a xs):RL (H.size + 1) (H.push (.cells #[.slice a xs.length c] t)) (some ⟨H.size,0,none⟩) [xs]:=by
 have hb:Blk (H.push (.cells #[.slice a xs.length c] t)) H.size t [.slice a xs.length c]:=Blk.new rfl;refine ⟨fun i r hi=>?_⟩;cases i with
 | zero =>
  have:xs=r:=(by simpa using hi);subst this;refine ⟨H.size,0,a,c,rfl,by omega,by rw [hb.cell]; rfl,hx.frame (F:=[]) Fr.push (by simp),fun hne b' o' e=>?_⟩;cases xs with
  | nil=>exact absurd rfl hne
  | cons y s =>
   obtain ⟨b2,o2,e2,hc⟩:=hx 0 y rfl;rw [e] at e2;simp only [J5,Addr.mk.injEq,Zt] at e2;have hlt:b2 < H.size:=FC hc;omega
 | succ i=>simp at hi
theorem HP {l:List (List Int)} {z:List Int}:AW (l ++ [z])=z.map Ai :: AW l:=by unfold AW; simp
theorem N7 {a ga pa:Option Addr} {css zss:List (List Int)} {goal:List Int} {c gc pc:Nat} (hN:N<=H.size) (hx:RL N H a css) (hlen:css.length<=1000) (hcl:∀ r ∈ css,r.length<=1000/\∀ x ∈ r,AE x=true/\x.natAbs<=1000)
  (hg:Rn H ga goal) (hgl:goal.length<=1000) (hgz:∀ x ∈ goal,AE x=true/\x.natAbs<=1000)
  (hz:LR N H pa zss) (hzlen:zss.length<=10000) (hzcl:∀ r ∈ zss,r.length<=1000/\∀ x ∈ r,AE x=true/\x.natAbs<=1000) (hru:∀ (i:Nat) (z:List Int),zss[i]?=some z->Rup (AW (css ++ zss.take i)) (z.map Ai)) :
  CallF Tryz.prog 28 [.slice a css.length c,.slice pa zss.length pc,.slice ga goal.length gc] H (fun v H'=>Fr [] H H'/\∃ r:Bool,(r=true↔Rup (AW (css ++ zss)) (goal.map Ai))/\v=iv ((if r then 0 else zss.length + 1:Nat):Int)) NoP:=by
 have hgall:goal.all AE=true:=Jo.2 fun x hx=>(hgz x hx).1
 have hcl2:∀ r ∈ css,r.length<=1000000/\r.all AE=true:=fun r hr=>⟨by have:=(hcl r hr).1; omega,Jo.2 fun x hx=>((hcl r hr).2 x hx).1⟩
 have one:∀ r:List Int,r.length<=1000->r.all AE=true->∀ q ∈ [r],q.length<=1000000/\q.all AE=true:=fun r h1 h2 q hq=>by rw [J6.1 hq]; exact ⟨by omega,h2⟩
 have hb1:∀ {Hx:A3} {xa:Option Addr} {xl xc:Nat},buildSliceV Tryz.prog Hx 22 1 [(0,.slice xa xl xc)]=some (.slice (some ⟨Hx.size,0,none⟩) 1 1,Hx.push (.cells #[.slice xa xl xc] 23)):=fun {Hx xa xl xc}=>Fi T.xu T.xm T.ym rfl
 refine A9 Tryz.func28 rfl Tryz.ntmps28 Tryz.results28 (by decide) rfl ?_
 simp (disch:=omega) only [go_sem,↓cB,hb1]
 refine A7 (DO (RL.one hg) (by simp) (one goal hgl hgall)) ?_
 rintro v H1 ⟨rfl,e⟩
 have f1:Fr [] H H1:=by rw [e]; exact Fr.push
 clear e
 simp (disch:=omega) only [go_sem,↓cB]
 have x1:=hx.same (H':=H1) fun b hb=>f1.same b (by omega) (by simp)
 refine A7 (DO x1 (by omega) hcl2) ?_
 rintro v H2 ⟨rfl,e⟩
 subst H2
 simp (disch:=omega) only [go_sem,↓cB]
 refine A7 (N5 (N:=N) (by have:=f1.size; omega) x1 hlen hcl) ?_
 rintro v H3 ⟨p,ow3,f3,m3,C3,rfl,e3,k3,km3,kt3,hm3,he3⟩
 have f3':Fr [] H H3:=f1.trans ⟨e3.sm.size,fun b hb _=>e3.fr hb rfl⟩
 have e03:Ex H (fun _=>0) H3 ow3:=(Ex.of (Sm.of (R:=fun _=>False) f1 (by simp)) (by simp):Ex H (fun _=>0) H1 (fun _=>0)).trans e3
 clear x1 f1 e3
 simp (disch:=omega) only [go_sem]
 refine Bp (fun U H4=>∃ (m4:Nat) (ow4:Nat->Nat) (f4:Kf) (C4:List Nat),(U.get 1=.slice pa zss.length pc/\U.get 2=.slice ga goal.length gc/\U.get 7=pv p/\U.ds = []) /\
  RK H4 ow4 p f4/\KM m4 f4 C4/\KT m4 f4 C4 (AW (css ++ zss))/\m4<=1000/\f4.es.length=css.length + zss.length/\Ex H (fun _=>0) H4 ow4) ?_ ?_
 ·simp (disch:=omega) only [go_sem,↓cB]
  refine Ae (fun j U H4=>∃ (i m4:Nat) (ow4:Nat->Nat) (f4:Kf) (C4:List Nat),j=zss.length - i/\i<=zss.length/\(U.get 1=.slice pa zss.length pc/\U.get 2=.slice ga goal.length gc/\U.get 7=pv p/\U.get 21=.slice pa zss.length pc/\U.get 22=iv zss.length/\U.get 23=iv i/\U.ds = []) /\
   RK H4 ow4 p f4/\KM m4 f4 C4/\KT m4 f4 C4 (AW (css ++ zss.take i))/\m4<=1000/\f4.es.length=css.length + i/\Ex H (fun _=>0) H4 ow4) (k:=zss.length) ?_ ?_
  ·exact ⟨0,m3,ow3,f3,C3,rfl,by omega,by simp (disch:=omega) only [go_sem,↓cB]; try rfl,k3,km3,by simpa using kt3,hm3,by omega,e03⟩
  ·clear k3 km3 kt3 he3 e03 f3'
   rintro _ U H4 ⟨i,m4,ow4,f4,C4,rfl,hi,⟨r1,r2,r7,r21,r22,r23,rd⟩,k4,km4,kt4,hm4,he4,e4⟩
   by_cases hie:i=zss.length
   ·subst hie
    rw [Jr] at kt4
    simp (disch:=omega) only [go_sem,↓cB,r1,r2,r7,r21,r22,r23,rd]
    exact fin ⟨m4,ow4,f4,C4,by simp (disch:=omega) only [go_sem,↓cB,r1,r2,r7,rd],k4,km4,kt4,hm4,he4,e4⟩
   ·obtain ⟨z,hzi⟩:∃ x,zss[i]?=some x:=⟨_,J1 (by omega)⟩
    obtain ⟨zb,zo,za,zc,e,hzb,kz0,kz1,hzc,hzr,hzn⟩:=(hz.same (H':=H4) (fun b hb=>e4.fr (by omega) rfl)).ex i z hzi
    subst e
    obtain ⟨hl1,hl2⟩:=hzcl z (J2 hzi)
    have hzall:z.all AE=true:=Jo.2 fun x hx=>(hl2 x hx).1
    have hi1:(i:Int) + 1=((i + 1:Nat):Int):=by omega
    obtain ⟨H5,hH5⟩:∃ H5,H4.push (.cells #[.bool false,.slice za z.length zc] 79)=H5:=⟨_,rfl⟩
    have f5:Fr [] H4 H5:=by rw [<- hH5]; exact Fr.push
    have kb:Blk H5 H4.size 79 [.bool false,.slice za z.length zc]:=by rw [<- hH5]; exact Blk.new rfl
    simp (disch:=omega) only [go_sem,↓cB,r1,r2,r7,r21,r22,r23,rd,kz0,kz1,Ay]
    rw [hH5]
    refine A7 (DO (RL.one (hzr.frame f5 (by simp))) (by simp) (one z hl1 hzall)) ?_
    rintro v H6 ⟨rfl,e⟩
    have f6:Fr [] H5 H6:=by rw [e]; exact Fr.push
    clear e
    have kc0:A5 H6 ⟨H4.size,0,none⟩=some (.bool false):=f6.zg (by rw [kb.cell]; rfl) (by simp)
    have kc1:A5 H6 ⟨H4.size,1,none⟩=some (.slice za z.length zc):=f6.zg (by rw [kb.cell]; rfl) (by simp)
    have f56:=f5.trans f6
    simp (disch:=omega) only [go_sem,↓cB,r1,r2,r7,r21,r22,r23,rd,kc0,kc1]
    refine A7 (CB (hzr.frame f56 (by simp)) (fun x hx=>(hl2 x hx).1) (by omega)) ?_
    rintro v H7 ⟨f7,w,zs,idle,rfl,v7,o7,nf⟩
    obtain ⟨wa,wc,rfl,hz7⟩:=Fk v7
    obtain ⟨n1,n2,n3⟩:=nf.args hl2
    have hle:=nf.le
    have f47:=f56.trans f7
    have k7:=MD.out k4 f47 (by simp)
    have e7:Ex H (fun _=>0) H7 ow4:=e4.trans (Ex.of (Sm.of (R:=fun _=>False) f47 (by simp)) (by simp))
    have hzo:∀ b o,wa=some ⟨b,o,none⟩->b < H7.size/\ow4 b=0:=fun b o e=>by
     subst e;have h1:=o7 b (by simp [own]);exact ⟨v7.lt b (by simp [own]),MD.free k4 (by have:=f56.size; omega)⟩
    have kd0:A5 H7 ⟨H4.size,0,none⟩=some (.bool false):=f7.zg kc0 (by simp)
    simp (disch:=omega) only [go_sem,↓cB,r1,r2,r7,r21,r22,r23,rd,kd0]
    refine A7 (FN k7 km4 kt4 hm4 (by omega) hz7 hzo n1 (by omega) n2) ?_
    rintro v H8 ⟨r,ow8,f8,m8,rfl,hr,k8,km8,kt8,e8,hmm,hm8,he8⟩
    have hrt:r=true:=hr.2 ((GD nf.tm).2 (hru i z hzi))
    subst hrt
    simp (disch:=omega) only [go_sem,↓cB,r1,r2,r7,r21,r22,r23,rd]
    refine A7 (KZ k8 km8 kt8 hm8 (by omega) (e8.rn hz7 hzo) (fun b o e=>⟨by have:=(hzo b o e).1; have:=e8.sm.size; omega,by rw [e8.ow b (hzo b o e).1]; exact (hzo b o e).2⟩) n1 (by omega) n2 n3) ?_
    rintro v H9 ⟨rfl,ow9,f9,m9,C9,k9,km9,kt9,e9,hmm9,hm9,he9⟩
    have htk:css ++ zss.take (i + 1)=(css ++ zss.take i) ++ [z]:=by rw [Jl,hzi]; simp
    simp (disch:=omega) only [go_sem,↓cB,r1,r2,r7,r21,r22,r23,rd]
    exact fin ⟨zss.length - (i + 1),by omega,i + 1,m9,ow9,f9,C9,rfl,by omega,by simp (disch:=omega) only [go_sem,↓cB,r1,r2,r7,r21,r22,r23,rd,hi1],k9,km9,kt9.iff (fun T=>by rw [htk,HP]; exact Km fun y=>(nf.tm y).symm),hm9,by omega,e7.trans (e8.trans e9)⟩
 ·clear k3 km3 kt3 he3 e03 f3'
  rintro U H4 ⟨m4,ow4,f4,C4,⟨r1,r2,r7,rd⟩,k4,km4,kt4,hm4,he4,e4⟩
  have f4':Fr [] H H4:=⟨e4.sm.size,fun b hb _=>e4.fr hb rfl⟩
  simp (disch:=omega) only [go_sem,↓cB,r1,r2,r7,rd]
  refine A7 (CB (hg.frame f4' (by simp)) (fun x hx=>(hgz x hx).1) (by omega)) ?_
  rintro v H5 ⟨f5,w,zs,idle,rfl,v5,o5,nf⟩
  obtain ⟨wa,wc,rfl,hz5⟩:=Fk v5
  obtain ⟨n1,n2,n3⟩:=nf.args hgz
  have hle:=nf.le
  have k5:=MD.out k4 f5 (by simp)
  have e5:Ex H (fun _=>0) H5 ow4:=e4.trans (Ex.of (Sm.of (R:=fun _=>False) f5 (by simp)) (by simp))
  have hzo:∀ b o,wa=some ⟨b,o,none⟩->b < H5.size/\ow4 b=0:=fun b o e=>by
   subst e;have h1:=o5 b (by simp [own]);exact ⟨v5.lt b (by simp [own]),MD.free k4 h1⟩
  simp (disch:=omega) only [go_sem,↓cB,r1,r2,r7,rd]
  refine A7 (FN k5 km4 kt4 hm4 (by omega) hz5 hzo n1 (by omega) n2) ?_
  rintro v H8 ⟨r,ow8,f8,m8,rfl,hr,k8,km8,kt8,e8,hmm,hm8,he8⟩
  have e58:=e5.trans e8
  have hr':r=true↔Rup (AW (css ++ zss)) (goal.map Ai):=hr.trans (GD nf.tm)
  cases r with
  | true =>
   simp (disch:=omega) only [go_sem,↓cB,r1,r2,r7,rd];exact fin ⟨⟨e58.sm.size,fun b hb _=>e58.fr hb rfl⟩,true,hr',rfl⟩
  | false =>
   simp (disch:=omega) only [go_sem,↓cB,r1,r2,r7,rd];exact fin ⟨⟨e58.sm.size,fun b hb _=>e58.fr hb rfl⟩,false,hr',rfl⟩
end
section
variable {H:A3}
theorem j3j {Hx:A3} {a':Option Addr} {l' c':Nat}:buildSliceV Tryz.prog Hx 22 1 [(0,.slice a' l' c')]=some (.slice (some ⟨Hx.size,0,none⟩) 1 1,Hx.push (.cells #[.slice a' l' c'] 23)):=Fi T.xu T.xm T.ym rfl
theorem HO {css:List (List Int)} {g:List Nat}:g ∈ AW css↔∃ r ∈ css,r.map Ai=g:=by unfold AW; simp
theorem rup_rev {css:List (List Int)} {g:List Nat}:Rup (AW css) g↔Rup (css.map (·.map Ai)) g :=
 ⟨fun h T hT=>h T (hT.sub fun q hq=>by obtain ⟨r,hr,e⟩:=HO.1 hq; exact Ji.2 ⟨r,hr,e⟩),fun h T hT=>h T (hT.sub fun q hq=>by obtain ⟨r,hr,e⟩:=Ji.1 hq; exact HO.2 ⟨r,hr,e⟩)⟩
theorem MY {N n:Nat} {a ga pa:Option Addr} {css zss:List (List Int)} {goal:List Int} {c gc pc:Nat} (hn:n<=1000) (hlen:css.length<=10000) (hcs:∀ r ∈ css,r.length<=1000/\∀ x ∈ r,AE x=true/\x.natAbs<=n) (hN:N<=H.size) (hx:RC N H a css) (hg:Rn H ga goal) (hgl:goal.length<=1000) (hgz:∀ x ∈ goal,AE x=true/\x.natAbs<=n) (hgn:goal.Nodup)
  (hz:LR N H pa zss) (hzlen:zss.length<=10000) (hzcl:∀ r ∈ zss,r.length<=1000/\r.Nodup/\∀ x ∈ r,AE x=true/\x.natAbs<=n) (hru:∀ (i:Nat) (z:List Int),zss[i]?=some z->Rup (AW (css ++ zss.take i)) (z.map Ai)) :
  CallF Tryz.prog 29 [.slice a css.length c,.slice pa zss.length pc,.slice ga goal.length gc] H (fun v H'=>Fr [] H H'/\∃ r:Bool,(r=true↔Rup (AW (css ++ zss)) (goal.map Ai))/\v=iv ((if r then 0 else zss.length + 1:Nat):Int)) NoP:=by
 obtain ⟨rvs,src,hrl,hrow⟩:=hx.src (c:=c)
 have hgall:goal.all AE=true:=Jo.2 fun x hx=>(hgz x hx).1
 have f0:Fr [] H (H.push (.cells #[] 23)):=Fr.push
 have v0:Vec (H.push (.cells #[] 23)) 23 1 (.slice (some ⟨H.size,0,none⟩) 0 0) []:=⟨.inr ⟨H.size,0,0,[],[],rfl,Blk.new rfl,rfl,by simp,by omega⟩⟩
 obtain ⟨rvs',src',hrl',hrow'⟩:=(hx.same (H':=H.push (.cells #[] 23)) fun b hb=>f0.same b (by omega) (by simp)).src (c:=c)
 refine A9 Tryz.func29 rfl Tryz.ntmps29 Tryz.results29 (by decide) rfl ?_
 simp (disch:=omega) only [go_sem,↓cB]
 refine Hc (n:=css.length) (new:=rvs') T.qe rfl v0 rfl src' T.qe.under (by simp) (fun u hu=>?_) (by simp [hrl']) (by intro a' l c e; simp only [Value.slice.injEq] at e; obtain ⟨_,rfl,_⟩:=e; omega) ?_
 ·obtain ⟨j,hj⟩:=Jc hu
  obtain ⟨r,hr⟩:∃ r,css[j]?=some r:=⟨_,J1 (by rw [<- hrl']; exact (J3.1 hj).1)⟩
  obtain ⟨ra,rc,rfl,-⟩:=hrow' j u r hj hr
  rfl
 intro v1 H1 g1 (g2:Fr (Go.HL.own (.slice (some ⟨H.size,0,none⟩) 0 0)) (H.push (.cells #[] 23)) H1) (g3:∀ b ∈ Go.HL.own v1,b ∈ Go.HL.own (.slice (some ⟨H.size,0,none⟩) 0 0)\/(H.push (.cells #[] 23)).size<=b) g4
 rw [X1] at g1
 have f1:Fr [] H H1:=⟨Js f0.size g2.size,fun q hq _=>by rw [g2.same q (by have:=f0.size; omega) (by simp [Go.HL.own]; omega),f0.same q hq (by simp)]⟩
 have o1:∀ b ∈ Go.HL.own v1,H.size<=b:=fun b hb=>by
  rcases g3 b hb with h | h
  ·simp only [Go.HL.own,J6] at h; omega
  ·have:=f0.size; omega
 have w1:WR H.size H1 v1 rvs' css:=⟨g1,hrl',o1,fun j rv r hj hr=>by
  obtain ⟨ra,rc,h1,h2,h3,h4⟩:=hrow' j rv r hj hr;refine ⟨ra,rc,h1,h2,UL h3 g2 (fun hne b o e hb=>?_),fun hne b o e=>⟨by have:=h4 hne b o e; have:=f1.size; omega,fun hb=>?_⟩⟩
  ·have:=h4 hne b o e;simp only [Go.HL.own,J6] at hb; omega
  ·have:=h4 hne b o e;have:=o1 b hb; omega⟩
 clear g2 g3 g4
 have x1:=hx.same (H':=H1) fun b hb=>f1.same b (by omega) (by simp)
 simp (disch:=omega) only [go_sem]
 refine Bp (fun U H2=>(U.get 0=.slice a css.length c/\U.get 1=.slice pa zss.length pc/\U.get 2=.slice ga goal.length gc/\U.get 7=v1/\U.ds = [])/\H2=H1) ?_ ?_
 ·simp (disch:=omega) only [go_sem,↓cB]
  refine Ae (fun j U H2=>∃ i:Nat,j=css.length - i/\i<=css.length/\(U.get 0=.slice a css.length c/\U.get 1=.slice pa zss.length pc/\U.get 2=.slice ga goal.length gc/\U.get 7=v1/\U.get 8=iv i/\U.ds = [])/\H2=H1) (k:=css.length) ?_ ?_
  ·exact ⟨0,rfl,by omega,by simp (disch:=omega) only [go_sem,↓cB],rfl⟩
  ·rintro _ U H2 ⟨i,rfl,hi,⟨r0,r1,r2,r7,r8,rd⟩,e⟩
   subst H2
   by_cases hie:i=css.length
   ·subst hie
    simp (disch:=omega) only [go_sem,↓cB,r0,r1,r2,r7,r8,rd]
    exact fin ⟨by simp (disch:=omega) only [go_sem,↓cB,r0,r1,r2,r7,rd],rfl⟩
   ·obtain ⟨r,hri⟩:∃ r,css[i]?=some r:=⟨_,J1 (by omega)⟩
    obtain ⟨b',o',ra,rc,e,-,kr,hrr,-,-⟩:=x1.ex i r hri
    subst e
    obtain ⟨hrl2,hrz⟩:=hcs r (J2 hri)
    have hi1:(i:Int) + 1=((i + 1:Nat):Int):=by omega
    simp (disch:=omega) only [go_sem,↓cB,r0,r1,r2,r7,r8,rd,kr]
    refine A7 (CE hrr (by omega)) ?_
    rintro v H2 ⟨rfl,e⟩
    subst H2
    have:r.all AE=true:=Jo.2 fun x hx=>(hrz x hx).1
    rw [this]
    simp (disch:=omega) only [go_sem,↓cB,r0,r1,r2,r7,r8,rd]
    exact fin ⟨css.length - (i + 1),by omega,i + 1,rfl,by omega,by simp (disch:=omega) only [go_sem,↓cB,r0,r1,r2,r7,r8,rd,hi1],rfl⟩
 ·rintro U H2 ⟨⟨r0,r1,r2,r7,rd⟩,e⟩
  subst H2
  have hg1:=hg.frame f1 (by simp)
  simp (disch:=omega) only [go_sem,↓cB,r0,r1,r2,r7,rd]
  refine A7 (CE hg1 (by omega)) ?_
  rintro v H2 ⟨rfl,e⟩
  subst H2
  rw [hgall]
  simp (disch:=omega) only [go_sem,r0,r1,r2,r7,rd]
  refine Bp (fun U H2=>∃ v2 rvs2 css2,(U.get 1=.slice pa zss.length pc/\U.get 2=.slice ga goal.length gc/\U.get 7=v2/\U.ds = [])/\Fr [] H H2/\WR H.size H2 v2 rvs2 css2/\css2=css ++ zss) ?_ ?_
  ·simp (disch:=omega) only [go_sem,↓cB,r0,r1,r2,r7,rd]
   refine Ae (fun j U H2=>∃ (i:Nat) (v2:Value) (rvs2:List Value),j=zss.length - i/\i<=zss.length/\(U.get 1=.slice pa zss.length pc/\U.get 2=.slice ga goal.length gc/\U.get 7=v2/\U.get 9=iv i/\U.ds = [])/\Fr [] H H2/\WR H.size H2 v2 rvs2 (css ++ zss.take i)) (k:=zss.length) ?_ ?_
   ·exact ⟨0,v1,rvs',rfl,by omega,by (simp (disch:=omega) only [go_sem,↓cB,r0,r1,r2,r7,rd]),f1,by simpa using w1⟩
   ·clear r0 r1 r2 r7 rd
    rintro _ U H2 ⟨i,v2,rvs2,rfl,hi,⟨r1,r2,r7,r9,rd⟩,f2,w2⟩
    by_cases hie:i=zss.length
    ·subst hie
     rw [Jr] at w2
     simp (disch:=omega) only [go_sem,↓cB,r1,r2,r7,r9,rd]
     exact fin ⟨v2,rvs2,_,by simp (disch:=omega) only [go_sem,↓cB,r1,r2,r7,rd],f2,w2,rfl⟩
    ·obtain ⟨z,hzi⟩:∃ x,zss[i]?=some x:=⟨_,J1 (by omega)⟩
     obtain ⟨pb,po,za,zc,e,hpb,k0,k1,hzc,hzr,hzn⟩:=(hz.same (H':=H2) (fun b hb=>f2.same b (by omega) (by simp))).ex i z hzi
     subst e
     have k0a:A5 H2 ⟨pb,po + i * 2 + 0,none⟩=some (.bool false):=k0
     obtain ⟨hzl,hznd,hzb⟩:=hzcl z (J2 hzi)
     have hzall:z.all AE=true:=Jo.2 fun x hx=>(hzb x hx).1
     obtain ⟨va,vc,e,rc2⟩:=w2.rc
     have hl2:(css ++ zss.take i).length<=20000:=by simp; omega
     have hi1:(i:Int) + 1=((i + 1:Nat):Int):=by omega
     have htk:css ++ zss.take (i + 1)=(css ++ zss.take i) ++ [z]:=by rw [Jl,hzi]; simp
     have hcs2:∀ r ∈ css ++ zss.take i,r.length<=1000/\∀ x ∈ r,AE x=true/\x.natAbs<=n:=fun r hr=>by
      rcases Jh.1 hr with h | h
      ·exact hcs r h
      ·have:=hzcl r (Yp h);exact ⟨this.1,this.2.2⟩
     obtain ⟨css2,hcss2⟩:∃ css2,css2=css ++ zss.take i:=⟨_,rfl⟩
     have hrz:=hru i z hzi
     rw [<- hcss2] at w2 rc2 hl2 hcs2 htk hrz e
     subst e
     simp (disch:=omega) only [go_sem,↓cB,r1,r2,r7,r9,rd,k0,k0a,k1]
     refine A7 (CE hzr (by omega)) ?_
     rintro v H3 ⟨rfl,e⟩
     subst H3
     rw [hzall]
     simp (disch:=omega) only [go_sem,↓cB,r1,r2,r7,r9,rd,k0,k0a,k1]
     refine A7 (FM (N:=H2.size) (n:=n) hn (by omega) hcs2 (Jb _) rc2 hzr hzl hzb hznd) ?_
     rintro v H3 ⟨f3,r,rfl,hr⟩
     have hrt:r=true:=hr.2 (rup_rev.1 hrz)
     subst hrt
     have w3:=w2.frame f3
     have f13:=f2.trans f3
     have k13:A5 H3 ⟨pb,po + i * 2 + 1,none⟩=some (.slice za z.length zc):=f3.zg k1 (by simp)
     simp (disch:=omega) only [go_sem,↓cB,r1,r2,r7,r9,rd,j3j,k13]
     refine AK T.qe rfl w3.vec rfl (by rw [w3.len]; omega) ?_
     intro v4 H4 q1 q2 q3 q4
     simp (disch:=omega) only [go_sem,↓cB,r1,r2,r7,r9,rd]
     refine fin ⟨zss.length - (i + 1),by omega,i + 1,v4,rvs2 ++ [.slice za z.length zc],rfl,by omega,by (simp (disch:=omega) only [go_sem,↓cB,r1,r2,r7,r9,rd,hi1]; try rfl),⟨Js f13.size q2.size,fun q hq _=>?_⟩,?_⟩
     ·rw [q2.same q (by have:=f13.size; omega) (fun e=>by have:=w3.own q e; omega),f13.same q hq (by simp)]
     ·rw [htk]
      refine w3.add f13.size q1 q2 q3 rfl hzc (hzr.frame f3 (by simp)) fun hne b o e hb=>?_
      have h1:=hzn hne b o e
      have h2:=w3.own b hb
      omega
  ·clear r0 r1 r2 r7 rd
   rintro U H2 ⟨v2,rvs2,css2,⟨r1,r2,r7,rd⟩,f2,w2,hcss2⟩
   have hl2:css2.length<=20000:=by rw [hcss2]; simp; omega
   have hcs2:∀ r ∈ css2,r.length<=1000/\∀ x ∈ r,AE x=true/\x.natAbs<=n:=fun r hr=>by
    rw [hcss2] at hr;rcases Jh.1 hr with h | h
    ·exact hcs r h
    ·have:=hzcl r h;exact ⟨this.1,this.2.2⟩
   rw [<- hcss2]
   obtain ⟨va,vc,e,-⟩:=w2.rc
   subst e
   simp (disch:=omega) only [go_sem,r1,r2,r7,rd]
   refine Bp (fun U H3=>∃ (f3:Fr [] H2 H3),(U.get 1=.slice pa zss.length pc/\U.get 2=.slice ga goal.length gc/\U.get 7=.slice va css2.length vc/\U.ds = [])) ?_ ?_
   ·simp (disch:=omega) only [go_sem,↓cB,r1,r2,r7,rd]
    refine Ae (fun j U H3=>∃ (i:Nat),j=css2.length - i/\i<=css2.length/\(U.get 1=.slice pa zss.length pc/\U.get 2=.slice ga goal.length gc/\U.get 7=.slice va css2.length vc/\U.get 14=iv i/\U.ds = [])/\Fr [] H2 H3) (k:=css2.length) ?_ ?_
    ·exact ⟨0,rfl,by omega,by simp (disch:=omega) only [go_sem,↓cB,r1,r2,r7,rd],Fr.refl _ _⟩
    ·clear r1 r2 r7 rd
     rintro _ U H3 ⟨i,rfl,hi,⟨r1,r2,r7,r14,rd⟩,f3⟩
     by_cases hie:i=css2.length
     ·subst hie
      simp (disch:=omega) only [go_sem,↓cB,r1,r2,r7,r14,rd]
      exact fin ⟨f3,by simp (disch:=omega) only [go_sem,↓cB,r1,r2,r7,rd]⟩
     ·obtain ⟨r,hri⟩:∃ r,css2[i]?=some r:=⟨_,J1 (by omega)⟩
      obtain ⟨va',vc',e,rc3⟩:=(w2.frame f3).rc
      simp only [Value.slice.injEq] at e
      obtain ⟨rfl,-,rfl⟩:=e
      obtain ⟨b',o',ra,rc,e,-,kr,hrr,-,-⟩:=rc3.ex i r hri
      subst e
      obtain ⟨hrl2,hrz⟩:=hcs2 r (J2 hri)
      have hi1:(i:Int) + 1=((i + 1:Nat):Int):=by omega
      have hrall:r.all AE=true:=Jo.2 fun x hx=>(hrz x hx).1
      simp (disch:=omega) only [go_sem,↓cB,r1,r2,r7,r14,rd,kr]
      refine A7 (MX hrr ((hg.frame f2 (by simp)).frame f3 (by simp)) hrall hgall (by omega) (by omega)) ?_
      rintro v H4 ⟨f4,s,rfl,hs⟩
      cases s with
      | true =>
       simp (disch:=omega) only [go_sem,↓cB,r1,r2,r7,r14,rd];refine fin ⟨(f2.trans f3).trans f4,true,⟨fun _=>?_,fun _=>rfl⟩,rfl⟩;have hm:=hs.1 rfl;refine (GD (g:=r.map Ai) fun y=>?_).2 (Rup.mem (HO.2 ⟨r,J2 hri,rfl⟩));simp only [Ji];exact ⟨fun ⟨x,hx,e⟩=>⟨x,(hm x).2 hx,e⟩,fun ⟨x,hx,e⟩=>⟨x,(hm x).1 hx,e⟩⟩
      | false =>
       simp (disch:=omega) only [go_sem,↓cB,r1,r2,r7,r14,rd];exact fin ⟨css2.length - (i + 1),by omega,i + 1,rfl,by omega,by simp (disch:=omega) only [go_sem,↓cB,r1,r2,r7,r14,rd,hi1],f3.trans f4⟩
   ·clear r1 r2 r7 rd
    rintro U H3 ⟨f3,⟨r1,r2,r7,rd⟩⟩
    obtain ⟨va',vc',e,rc3⟩:=(w2.frame f3).rc
    simp only [Value.slice.injEq] at e
    obtain ⟨rfl,-,rfl⟩:=e
    simp (disch:=omega) only [go_sem,↓cB,r1,r2,r7,rd]
    refine A7 (FM (N:=H3.size) (n:=n) hn (by omega) hcs2 (Jb _) rc3 ((hg.frame f2 (by simp)).frame f3 (by simp)) hgl hgz hgn) ?_
    rintro v H4 ⟨f4,r,rfl,hr⟩
    have hr':r=true↔Rup (AW css2) (goal.map Ai):=hr.trans rup_rev.symm
    cases r with
    | false =>
     simp (disch:=omega) only [go_sem,↓cB,r1,r2,r7,rd];exact fin ⟨(f2.trans f3).trans f4,false,hr',rfl⟩
    | true =>
     simp (disch:=omega) only [go_sem,↓cB,r1,r2,r7,rd];exact fin ⟨(f2.trans f3).trans f4,true,hr',rfl⟩
end
section
variable {H:A3} {ow:Nat->Nat} {p n:Nat} {k:Bk} {f:Cf}
theorem QT {e:Nat} {v:Value} {xs:List Int} (h:Vec H e 1 v (xs.map iv)):∃ a c,v=.slice a xs.length c/\xs.length<=c/\Rn H a xs:=by
 rcases h.ex with ⟨rfl,e2⟩ | ⟨b,len,cap,pre,rest,rfl,hb,h2,h3,h4⟩
 ·rw [Yi] at e2;subst e2;exact ⟨none,0,rfl,by simp,fun i x hx=>by simp at hx⟩
 ·have:len=xs.length:=(by simpa using h2.symm);subst this;exact ⟨_,cap,rfl,h4,fun i x hx=>⟨b,pre.length,rfl,DJ hb hx⟩⟩
theorem EV (h:RM H ow p n k f) (hl:f.gl.length<=100000) (hr:∀ g ∈ f.gl,g.length<=1000000):CallF Tryz.prog 12 [hp p] H (fun v H'=>Fr [] H H'/\∃ rvs,WR H.size H' v rvs f.gl) NoP:=by
 have hng:=h.ng;obtain ⟨a,c,ef⟩:=h.given.form;have c1:A5 H ⟨p,1,none⟩=some (.slice a f.gs.length c):=(by rw [<- ef]; exact h.c 1);obtain ⟨G,hG⟩:∃ G,H.push (.cells (List.replicate f.gs.length (.slice none 0 0)).toArray 23)=G:=⟨_,rfl⟩;have f0:Fr [] H G:=(by rw [<- hG]; exact Fr.push);have vG:Vec G 23 1 (.slice (some ⟨H.size,0,none⟩) 0 f.gs.length) []:=⟨.inr ⟨H.size,0,f.gs.length,[],List.replicate f.gs.length (.slice none 0 0),rfl,by rw [<- hG]; exact Blk.new rfl,rfl,by simp,by omega⟩⟩;have c1G:A5 G ⟨p,1,none⟩=some (.slice a f.gs.length c):=(by rw [<- ef]; exact (h.out f0 (by simp)).c 1);refine A9 Tryz.func12 rfl Tryz.ntmps12 Tryz.results12 (by decide) rfl ?_;simp (disch:=omega) only [go_sem,↓cB,c1];rw [hG];simp (disch:=omega) only [go_sem,↓cB,c1G];refine Ae (fun j U H1=>∃ (i:Nat) (wv:Value) (l:List Value),j=f.gs.length - i/\i<=f.gs.length/\(U.get 3=wv/\U.get 15=.slice a f.gs.length c/\U.get 16=iv f.gs.length/\U.get 17=iv i/\U.ds = [])/\Fr [] H H1/\WR H.size H1 wv l (f.gl.take i)) (k:=f.gs.length) ?_ ?_
 ·exact ⟨0,_,[],rfl,by omega,by simp (disch:=omega) only [go_sem,↓cB],f0,WR.nil vG (by simp [own])⟩
 ·rintro _ U H1 ⟨i,wv,l,rfl,hi,⟨r3,r15,r16,r17,rd⟩,f1,w1⟩;by_cases hie:i=f.gs.length
  ·subst hie;rw [hng,Jr] at w1;obtain ⟨wa,wc,ew,-⟩:=w1.rc;simp (disch:=omega) only [go_sem,↓cB,r3,r15,r16,r17,rd];exact fin ⟨f1,l,w1⟩
  ·obtain ⟨v,hv⟩:∃ v,f.gs[i]?=some v:=⟨_,J1 (by omega)⟩;obtain ⟨z,hz⟩:∃ z,f.gl[i]?=some z:=⟨_,J1 (by omega)⟩;have m1:=h.out f1 (by simp);obtain ⟨b,o,cap,e,kv⟩:=Bc m1.given.vec hv;rw [ef] at e;simp only [Value.slice.injEq] at e;obtain ⟨rfl,-,rfl⟩:=e;have hzv:=(m1.gcl i v z hv hz).vec;obtain ⟨va,vl,vc,ev,-⟩:=hzv.len;have hi1:(i:Int) + 1=((i + 1:Nat):Int):=(by omega);have htk:f.gl.take (i + 1)=f.gl.take i ++ [z]:=(by rw [Jl,hz]; rfl);rw [ev] at kv;simp (disch:=omega) only [go_sem,↓cB,r3,r15,r16,r17,rd,kv];rw [<- ev];refine A7 (DH hzv (fun u hu=>by obtain ⟨b,-,rfl⟩:=Ji.1 hu; rfl) (by rw [Jm]; exact hr z (J2 hz))) ?_;rintro r H2 ⟨f2,v2,o2⟩;obtain ⟨ra,rc,er,hrc,hrn⟩:=QT v2;have w2:=w1.frame f2;have hnb:z ≠ []->∀ b o,ra=some ⟨b,o,none⟩->b ∉ own wv:=fun _ b o e hb=>by
    subst e;have h1:=o2 b (by rw [er]; simp [own]);have:=w1.vec.lt b hb;omega
   subst er;simp (disch:=omega) only [go_sem,↓cB,r3,j3j];refine AK T.qe rfl w2.vec rfl (by rw [w2.len,Ze]; omega) ?_;intro v' H4 g1 g2 g3 g4;simp (disch:=omega) only [go_sem,↓cB,r3,r15,r16,r17,rd];have f12:=f1.trans f2;refine fin ⟨f.gs.length - (i + 1),by omega,i + 1,v',_,rfl,by omega,by simp (disch:=omega) only [go_sem,↓cB,r3,r15,r16,r17,rd,hi1],⟨Js f12.size g2.size,fun q hq _=>?_⟩,by rw [htk]; exact w2.add f12.size g1 g2 g3 rfl hrc hrn hnb⟩;rw [g2.same q (by have:=f12.size; omega) (fun e=>by have:=w1.own q e; omega),f12.same q hq (by simp)]
end
section
variable {H:A3} {ow:Nat->Nat} {p n:Nat} {k:Bk} {f:Cf}
abbrev lnv (ws:List Value):List Value:=ws.flatMap fun w=>[.bool false,w]
theorem II {ws:List Value}:(lnv ws).length=ws.length * 2:=by
 induction ws with
 | nil=>rfl
 | cons e es ih=>simp only [lnv,W9,Jv,Za,Xc] at ih ⊢; omega
theorem M8:∀ {ws:List Value} {c:Nat} {v:Value},ws[c]?=some v->(lnv ws)[c * 2]?=some (.bool false)/\(lnv ws)[c * 2 + 1]?=some v
 | [],c,v,h=>by simp at h
 | e :: es,0,v,h=>by
  have:e=v:=(by simpa using h);subst this;simp [lnv]
 | e :: es,c + 1,v,h=>by
  have h':es[c]?=some v:=(by simpa using h);have:=M8 h';rw [show (c + 1) * 2=c * 2 + 2 by omega];simpa [lnv,W9] using this
structure LS (H:A3) (ow:Nat->Nat) (n:Nat) (ls:List Value) (ws:List Value) (zss:List (List Int)):Prop where
 e:ls=lnv ws
 len:ws.length=zss.length
 row:∀ (i:Nat) (w:Value) (z:List Int),ws[i]?=some w->zss[i]?=some z->Vec H 3 1 w (z.map iv)/\∀ b ∈ own w,ow b=0
 ok:∀ z ∈ zss,z.length<=1000/\z.Pairwise ltN/\∀ x ∈ z,AE x=true/\x.natAbs<=n
theorem LS.add {ls:List Value} {ws:List Value} {zss:List (List Int)} (h:LS H ow n ls ws zss) {w:Value} {z:List Int} (hv:Vec H 3 1 w (z.map iv)) (ho:∀ b ∈ own w,ow b=0) (hz:z.length<=1000/\z.Pairwise ltN/\∀ x ∈ z,AE x=true/\x.natAbs<=n):LS H ow n (ls ++ [.bool false,w]) (ws ++ [w]) (zss ++ [z]):=by
 refine ⟨by rw [h.e]; simp [lnv],by simp [h.len],fun i w' z' h1 h2=>?_,fun q hq=>?_⟩
 ·rcases Zg i ws.length with hlt | he | hgt
  ·rw [Jg hlt] at h1;rw [Jg (by rw [<- h.len]; exact hlt)] at h2;exact h.row i w' z' h1 h2
  ·subst he;rw [Jf (Jb _),Yf] at h1;rw [h.len,Jf (Jb _),Yf] at h2;have e1:=Jj h1;have e2:=Jj h2;subst e1; subst e2;exact ⟨hv,ho⟩
  ·rw [Jp (by simp; omega)] at h1;cases h1
 ·rcases Jh.1 hq with hq | hq
  ·exact h.ok q hq
  ·rw [J6.1 hq]; exact hz
theorem Gn {x:Nat} (h:2<=x):Ai (Ct x)=x:=by unfold Ai Ct; split <;> split <;> omega
theorem Nj {x:Nat} (h:isC n x):(Ct x).natAbs<=n:=by unfold isC at h; unfold Ct; split <;> omega
def Lru (gl zss:List (List Int)):Prop:=∀ (i:Nat) (z:List Int),zss[i]?=some z->Rup (AW (gl ++ zss.take i)) (z.map Ai)
theorem Lru.add {gl zss:List (List Int)} (h:Lru gl zss) {z:List Int} (hz:Rup (AW (gl ++ zss)) (z.map Ai)):Lru gl (zss ++ [z]):=fun i z' hi=>by
 rcases Zg i zss.length with hlt | he | hgt
 ·rw [Jg hlt] at hi;rw [X6 (by omega)];exact h i z' hi
 ·subst he;rw [Jf (Jb _),Yf] at hi;have e:=Jj hi;subst e;rw [List.take_left];exact hz
 ·rw [Jp (by simp; omega)] at hi;cases hi
theorem LN.ls {gl:List (List Int)} (hn:n<=1000) {ls:List Value} {Ls:List (List Nat)} (h:LN H ow n (AW gl) ls Ls):∃ ws zss,LS H ow n ls ws zss/\Lru gl zss/\∀ T,Clo T (AW (gl ++ zss))↔Clo T (Ls ++ AW gl):=by
 induction h with
 | nil=>exact ⟨[],[],⟨rfl,rfl,fun i w z h=>by simp at h,fun z h=>by simp at h⟩,fun i z h=>by simp at h,fun T=>by simp⟩
 | add h hl ih =>
  rename_i ls ls' Ls l;obtain ⟨ws,zss,hs,hr,hc⟩:=ih;obtain ⟨⟨w,zs,idle,rfl,hv,ho,nf⟩,⟨hcode,hnd⟩,hru⟩:=hl;have hll:l.length<=n:=BQ hcode hnd;have hlb:∀ x ∈ zs,AE x=true/\x.natAbs<=n:=fun x hx=>by
   obtain ⟨y,hy,rfl⟩:=Ji.1 ((nf.mem x).1 hx);exact ⟨IJ (hcode y hy) hn,Nj (hcode y hy)⟩
  have hm:∀ y,y ∈ zs.map Ai↔y ∈ l:=fun y=>by
   rw [nf.tm y,V9,Ji];constructor
   ·rintro ⟨q,hq,rfl⟩;rw [Function.comp,Gn (hcode q hq).1]; exact hq
   ·intro hy;exact ⟨y,hy,Gn (hcode y hy).1⟩
  refine ⟨ws ++ [w],zss ++ [zs],hs.add hv ho ⟨by have:=nf.le; simp at this; omega,nf.str,hlb⟩,hr.add ((GD hm).2 fun T hT=>hru T ((hc T).1 hT)),fun T=>?_⟩;rw [<- Je,HP,Km hm,Xw,Bj,Bj,hc]
theorem WS {z:Array Value} {n:Nat}:(AO z n).toList.length=n:=by simp [AO]
theorem GA (h:RM H ow p n k f) {ws:List Value} {zss:List (List Int)} (hs:LS H ow n f.ls ws zss) (hlen:zss.length<=10000) :
  CallF Tryz.prog 13 [hp p] H (fun v H'=>Fr [] H H'/\∃ a c,v=.slice a zss.length c/\LR H'.size H' a zss) NoP:=by
 have hv:=h.lines.vec
 rw [hs.e] at hv
 obtain ⟨la,ll,lc,el,hll⟩:=hv.len
 rw [II,hs.len] at hll
 have hll':ll=zss.length:=by omega
 subst hll'
 have c3:A5 H ⟨p,3,none⟩=some (.slice la zss.length lc):=by rw [<- el]; exact h.c 3
 obtain ⟨G,hG⟩:∃ G,H.push (.cells (AO #[.bool false,.slice none 0 0] (zss.length * 2)) 79)=G:=⟨_,rfl⟩
 have f0:Fr [] H G:=by rw [<- hG]; exact Fr.push
 have c3G:A5 G ⟨p,3,none⟩=some (.slice la zss.length lc):=by rw [<- el]; exact (h.out f0 (by simp)).c 3
 have vG:Vec G 79 2 (.slice (some ⟨H.size,0,none⟩) 0 zss.length) (lnv []):=⟨.inr ⟨H.size,0,zss.length,[],(AO #[.bool false,.slice none 0 0] (zss.length * 2)).toList,rfl,by rw [<- hG]; exact Blk.new (by simp),rfl,by rw [WS]; omega,by omega⟩⟩
 refine A9 Tryz.func13 rfl Tryz.ntmps13 Tryz.results13 (by decide) rfl ?_
 simp (disch:=omega) only [go_sem,↓cB,c3]
 rw [hG]
 simp (disch:=omega) only [go_sem,↓cB,c3G]
 refine Ae (fun j U H1=>∃ (i:Nat) (wv:Value) (us:List Value),j=zss.length - i/\i<=zss.length/\(U.get 3=wv/\U.get 15=.slice la zss.length lc/\U.get 16=iv zss.length/\U.get 17=iv i/\U.ds = [])/\Fr [] H H1/\Vec H1 79 2 wv (lnv us)/\(∀ b ∈ own wv,H.size<=b)/\us.length=i/\∀ (q:Nat) (w:Value) (z:List Int),us[q]?=some w->zss[q]?=some z->Vec H1 3 1 w (z.map iv)/\∀ b ∈ own w,b ∉ own wv) (k:=zss.length) ?_ ?_
 ·exact ⟨0,_,[],rfl,by omega,by (simp (disch:=omega) only [go_sem,↓cB]; try rfl),f0,vG,by simp [own],rfl,fun q w z h=>by simp at h⟩
 ·rintro _ U H1 ⟨i,wv,us,rfl,hi,⟨r3,r15,r16,r17,rd⟩,f1,v1,o1,hul,hus⟩
  by_cases hie:i=zss.length
  ·obtain ⟨xa,xl,xc,ew,hxl⟩:=v1.len
   have hul':us.length=zss.length:=by omega
   rw [II] at hxl
   have hxl':xl=zss.length:=by omega
   subst hxl'
   have r17':U.get 17=iv zss.length:=by rw [<- hie]; exact r17
   simp (disch:=omega) only [go_sem,↓cB,r3,r15,r16,r17',rd]
   refine fin ⟨f1,xa,xc,ew,⟨fun q z hq=>?_⟩⟩
   obtain ⟨w,hw⟩:∃ w,us[q]?=some w:=⟨_,J1 (by rw [hul']; exact (J3.1 hq).1)⟩
   obtain ⟨hwv,hwo⟩:=hus q w z hw hq
   obtain ⟨g1,g2⟩:=M8 hw
   obtain ⟨b,o,len,cap,e,hl2,hc⟩:=v1.cell (by intro e; rw [e] at g1; simp at g1)
   rw [ew] at e
   simp only [Value.slice.injEq] at e
   obtain ⟨rfl,-,-⟩:=e
   obtain ⟨za,zc,ez,hzc,hzr⟩:=QT hwv
   have hq2:q * 2 + 1 < (lnv us).length:=(J3.1 g2).1
   refine ⟨b,o,za,zc,rfl,?_,?_,?_,hzc,hzr,fun hne b' o' e=>?_⟩
   ·exact v1.lt b (by rw [ew]; simp [own])
   ·rw [hc _ (by omega)]; exact g1
   ·rw [Zs,hc _ (by omega),g2,ez]
   ·exact hwv.lt b' (by rw [ez,e]; simp [own])
  ·obtain ⟨z,hzi⟩:∃ z,zss[i]?=some z:=⟨_,J1 (by omega)⟩
   obtain ⟨w,hwi⟩:∃ w,ws[i]?=some w:=⟨_,J1 (by rw [hs.len]; omega)⟩
   obtain ⟨hw,hwo⟩:=hs.row i w z hwi hzi
   have hwl:=(hs.ok z (J2 hzi)).1
   obtain ⟨g1,g2⟩:=M8 hwi
   obtain ⟨lb,lo,len,cap,e,hl2,hce⟩:=hv.cell (by intro e; rw [e] at g1; simp at g1)
   rw [el] at e
   simp only [Value.slice.injEq] at e
   obtain ⟨rfl,-,-⟩:=e
   have hq2:i * 2 + 1 < (lnv ws).length:=(J3.1 g2).1
   obtain ⟨wa,wl,wc,ew,-⟩:=hw.len
   subst ew
   have k0:A5 H ⟨lb,lo + i * 2,none⟩=some (.bool false):=by rw [hce _ (by omega)]; exact g1
   have k1:A5 H ⟨lb,lo + i * 2 + 1,none⟩=some (.slice wa wl wc):=by rw [Zs,hce _ (by omega)]; exact g2
   have k0':A5 H1 ⟨lb,lo + i * 2,none⟩=some (.bool false):=f1.zg k0 (by simp)
   have k1':A5 H1 ⟨lb,lo + i * 2 + 1,none⟩=some (.slice wa wl wc):=f1.zg k1 (by simp)
   obtain ⟨H2,hH2⟩:∃ H2,H1.push (.cells #[.bool false,.slice wa wl wc] 79)=H2:=⟨_,rfl⟩
   have f2:Fr [] H1 H2:=by rw [<- hH2]; exact Fr.push
   have kb:Blk H2 H1.size 79 [.bool false,.slice wa wl wc]:=by rw [<- hH2]; exact Blk.new rfl
   have kb0:A5 H2 ⟨H1.size,0,none⟩=some (.bool false):=by rw [kb.cell]; rfl
   have kb1:A5 H2 ⟨H1.size,1,none⟩=some (.slice wa wl wc):=by rw [kb.cell]; rfl
   obtain ⟨hl,hhl⟩:∃ hl:List (Addr × Value),hl = [(⟨H1.size,0,none⟩,.bool false)]:=⟨_,rfl⟩
   have hok:Al hl H2:=by rw [hhl]; exact B5 kb0
   have l0:Ak hl ⟨H1.size,0,none⟩=some (.bool false):=by rw [hhl]; exact Ni
   have hi1:(i:Int) + 1=((i + 1:Nat):Int):=by omega
   simp (disch:=omega) only [go_sem,↓cB,r3,r15,r16,r17,rd,k0',k1',Ay]
   rw [hH2]
   refine Fc (lk [fl 0,fl 1,fl 2,tl 3,tl 4] (.act 5 (lk [tl 6] (.act 7 (.actd 8 (lk [tl 9] .fin)) .non)) .non)) T.mixed hl hok ?_
   simp (disch:=omega) only [go_sem,↓cB,r3,l0,kb0,kb1]
   have f12:=f1.trans f2
   refine A7 (DH (hw.frame f12 (by simp)) (fun u hu=>by obtain ⟨b,-,rfl⟩:=Ji.1 hu; rfl) (by rw [Jm]; omega)) ?_
   rintro r H3 ⟨f3,v3,o3⟩
   have f13:=f12.trans f3
   obtain ⟨ra,rl,rc,er,-⟩:=v3.len
   subst er
   have hok3:Al hl H3:=by rw [hhl]; exact B5 (f3.zg kb0 (by simp))
   have bl:=Fh (P:=Tryz.prog) (t:=79) (parts:=[(0,.bool false),(1,.slice ra rl rc)]) (v:=.agg #[.bool false,.slice ra rl rc])
    (by simp [Gq,T.tg,T.xy,CG,DY,chk,Value.cells])
   refine B9 hok3 ?_
   simp (disch:=omega) only [go_sem,↓cB,r3,l0,bl]
   refine B9 (by rw [hhl]; exact B5 ((Fr.push (F:=[])).zg (f3.zg kb0 (by simp)) (by simp))) ?_
   simp (disch:=omega) only [go_sem,↓cB,r3,l0]
   have v1':Vec H3 79 2 wv (lnv us):=v1.frame (f2.trans f3) (by simp)
   refine Hd (n:=1) (new:=[.bool false,.slice ra rl rc]) T.eh rfl v1' (by simp [Cb]) rfl (by
    intro a' l' c' e;obtain ⟨a2,l2,c2,e2,hl2⟩:=v1.len;rw [e2] at e;simp only [Value.slice.injEq] at e;rw [II] at hl2;omega) ?_
   intro v' H4 g1 g2 g3 g4
   have hf34:Fr (own wv) H3 H4:=g2
   simp (disch:=omega) only [go_sem,↓cB,r3,r15,r16,r17,rd]
   have h23:H1.size < H3.size:=by have h1:=kb.lt; have:=f3.size; omega
   refine fin ⟨zss.length - (i + 1),by omega,i + 1,v',us ++ [.slice ra rl rc],rfl,by omega,by (simp (disch:=omega) only [go_sem,↓cB,r3,r15,r16,r17,rd,hi1]; try rfl),⟨Js f13.size hf34.size,fun q hq _=>?_⟩,by simpa [lnv] using g1,fun q hq=>?_,by simp [hul],fun q w' z' h1 h2=>?_⟩
   ·rw [hf34.same q (by have:=f13.size; omega) (fun e=>by have:=o1 q e; omega),f13.same q hq (by simp)]
   ·rcases g3 q hq with h | h
    ·exact o1 q h
    ·have:=f13.size; omega
   ·have hkeep:∀ (w2:Value) (l2:List Value),Vec H3 3 1 w2 l2->(∀ b ∈ own w2,b ∉ own wv)->Vec H4 3 1 w2 l2/\∀ b ∈ own w2,b ∉ own v':=fun w2 l2 hv2 hd=>⟨hv2.frame hf34 hd,fun b hb hb2=>by
     rcases g3 b hb2 with h | h
     ·exact hd b hb h
     ·have:=hv2.lt b hb; omega⟩
    rcases Zg q us.length with hlt | he | hgt
    ·rw [Jg hlt] at h1
     obtain ⟨h3,h4⟩:=hus q w' z' h1 h2
     exact hkeep w' _ (h3.frame (f2.trans f3) (by simp)) h4
    ·subst he
     rw [Jf (Jb _),Yf] at h1
     have e1:=Jj h1
     subst e1
     rw [hul,hzi] at h2
     have e2:=Jj h2
     subst e2
     exact hkeep _ _ v3 fun b hb hb2=>by
      have h5:=o3 b hb;have h6:=v1.lt b hb2;have:=f2.size;omega
    ·rw [Jp (by simp; omega)] at h1
     cases h1
end
section
variable {H:A3} {ow:Nat->Nat} {p n:Nat} {k:Bk} {f:Cf}
theorem NV (h:RM H ow p n k f) (hn:n<=1000) {ys:List Int} (hv:Vec H 3 1 f.core (ys.map iv)) (hyl:ys.length<=1000) (hyb:∀ x ∈ ys,AE x=true/\x.natAbs<=n) (hgl:f.gl.length<=1000) (hgr:∀ g ∈ f.gl,g.length<=1000/\∀ x ∈ g,AE x=true/\x.natAbs<=n)
  {ws:List Value} {zss:List (List Int)} (hs:LS H ow n f.ls ws zss) (hru:Lru f.gl zss) (hzl:zss.length<=10000) :
  CallF Tryz.prog 10 [hp p] H (fun v H'=>Fr [] H H'/\∃ r:Bool,v=.bool r/\(r=true↔Rup (AW (f.gl ++ zss)) ((ys.map (- ·)).map Ai))) NoP:=by
 have lb:∀ {x:Int},AE x=true/\x.natAbs<=n->AE x=true/\x.natAbs<=1000:=fun h=>⟨h.1,by omega⟩
 have hnb:∀ x ∈ ys.map (- ·),AE x=true/\x.natAbs<=n:=fun x hx=>by
  obtain ⟨y,hy,rfl⟩:=Ji.1 hx;obtain ⟨h1,h2⟩:=hyb y hy;refine ⟨?_,by omega⟩;unfold AE at h1 ⊢;rw [Jk] at h1 ⊢;omega
 refine A9 Tryz.func10 rfl Tryz.ntmps10 Tryz.results10 (by decide) rfl ?_
 simp (disch:=omega) only [go_sem,↓cB]
 refine A7 (JB h hv (by omega)) ?_
 rintro v H1 ⟨f1,v1,o1⟩
 obtain ⟨ya,yc,rfl,hyr⟩:=Fk v1
 obtain ⟨H2,hH2⟩:∃ H2,H1.push (.cells (List.replicate ys.length (iv 0)).toArray 3)=H2:=⟨_,rfl⟩
 have f2:Fr [] H1 H2:=by rw [<- hH2]; exact Fr.push
 have b2:Blk H2 H1.size 3 (List.replicate ys.length (iv 0)):=by rw [<- hH2]; exact Blk.new rfl
 have hz1:H1.size < H2.size:=by rw [<- hH2]; simp
 simp (disch:=omega) only [go_sem]
 rw [hH2]
 clear hH2
 refine Bp (fun U H3=>(U.get 0=hp p/\U.get 4=.slice (some ⟨H1.size,0,none⟩) ys.length ys.length/\U.ds = [])/\Fr [] H H3/\Blk H3 H1.size 3 ((ys.map (- ·)).map iv)) ?_ ?_
 ·simp (disch:=omega) only [go_sem,↓cB]
  refine Ae (fun j U H3=>∃ i:Nat,j=ys.length - i/\i<=ys.length/\(U.get 0=hp p/\U.get 4=.slice (some ⟨H1.size,0,none⟩) ys.length ys.length/\U.get 14=.slice ya ys.length yc/\U.get 15=iv ys.length/\U.get 16=iv i/\U.ds = [])/\Fr [] H1 H3/\Blk H3 H1.size 3 (((ys.take i).map (- ·)).map iv ++ List.replicate (ys.length - i) (iv 0))) (k:=ys.length) ?_ ?_
  ·exact ⟨0,rfl,by omega,by simp (disch:=omega) only [go_sem,↓cB]; try rfl,f2,by simpa using b2⟩
  ·rintro _ U H3 ⟨i,rfl,hi,⟨r0,r4,r14,r15,r16,rd⟩,f3,b3⟩
   by_cases hie:i=ys.length
   ·subst hie
    rw [Jr,Yf,List.replicate_zero,Xd] at b3
    simp (disch:=omega) only [go_sem,↓cB,r0,r4,r14,r15,r16,rd]
    exact fin ⟨by simp (disch:=omega) only [go_sem,↓cB,r0,r4,rd],f1.trans f3,b3⟩
   ·obtain ⟨y,hyi⟩:∃ y,ys[i]?=some y:=⟨_,J1 (by omega)⟩
    obtain ⟨yb,yo,e,ky⟩:=(hyr.frame f3 (by simp)) i y hyi
    subst e
    have hb:=CP (hyb y (J2 hyi)).1
    have hi1:(i:Int) + 1=((i + 1:Nat):Int):=by omega
    have hlen3:(((ys.take i).map (- ·)).map iv ++ List.replicate (ys.length - i) (iv 0)).length=ys.length:=by simp; omega
    have w3:=b3.wr (i:=i) (by omega) (iv (-y))
    have b4:=b3.set i (iv (-y))
    generalize hH4:Aw H3 ⟨H1.size,i,none⟩ (iv (-y))=H4 at w3 b4
    have f34:Fr [H1.size] H3 H4:=by rw [<- hH4]; exact Fr.set (by simp)
    have w3':wr H3 ⟨H1.size,0 + i,none⟩ (iv (-y))=some H4:=by rw [Zv]; exact w3
    simp (disch:=omega) only [go_sem,↓cB,r0,r4,r14,r15,r16,rd,ky,w3,w3']
    refine fin ⟨ys.length - (i + 1),by omega,i + 1,rfl,by omega,by simp (disch:=omega) only [go_sem,↓cB,r0,r4,r14,r15,r16,rd,hi1],⟨Js f3.size f34.size,fun q hq _=>?_⟩,?_⟩
    ·rw [f34.same q (by have:=f3.size; omega) (by simp; omega),f3.same q hq (by simp)]
    ·have:(((ys.take i).map (- ·)).map iv ++ List.replicate (ys.length - i) (iv 0)).set i (iv (-y))=((ys.take (i + 1)).map (- ·)).map iv ++ List.replicate (ys.length - (i + 1)) (iv 0):=by
      have hl:(((ys.take i).map (- ·)).map iv).length=i:=(by simp; omega);rw [Yl _ _ (by omega),hl,Yf];rw [show ys.length - i=(ys.length - (i + 1)) + 1 by omega,List.replicate_succ,Y5,Jl,hyi];simp
     rw [<- this]; exact b4
 ·rintro U H3 ⟨⟨r0,r4,rd⟩,f3,b3⟩
  have m3:=h.out f3 (by simp)
  simp (disch:=omega) only [go_sem,↓cB,r0,r4,rd]
  refine A7 (EV m3 (by omega) (fun g hg=>by have:=(hgr g hg).1; omega)) ?_
  rintro v H4 ⟨f4,rvs,w4⟩
  obtain ⟨ca,cc,rfl,rc4⟩:=w4.rc
  have f04:=f3.trans f4
  have m4:=h.out f04 (by simp)
  have s4:LS H4 ow n f.ls ws zss:=⟨hs.e,hs.len,fun i w z h1 h2=>⟨(hs.row i w z h1 h2).1.frame f04 (by simp),(hs.row i w z h1 h2).2⟩,hs.ok⟩
  simp (disch:=omega) only [go_sem,↓cB,r0,r4,rd]
  refine A7 (GA m4 s4 hzl) ?_
  rintro v H5 ⟨f5,pa,pc,rfl,lr5⟩
  have f35:=f4.trans f5
  have hg5:Rn H5 (some ⟨H1.size,0,none⟩) (ys.map (- ·)):=fun i x hx=>⟨H1.size,0,rfl,f35.zg (by rw [b3.cell,Zv,Z0,hx]; rfl) (by simp)⟩
  have hyl2:ys.length=(ys.map (- ·)).length:=by simp
  simp (disch:=omega) only [go_sem,↓cB,r0,r4,rd]
  rw [hyl2]
  refine A7 (N7 (N:=H5.size) (Jb _) (by
   have:=f5.size;exact ⟨fun i c hi=>by
    obtain ⟨b,o,ra,rc,h1,h2,h3,h4,h5,h6⟩:=(rc4.same (H':=H5) fun b hb=>f5.same b hb (by simp)).ex i c hi;exact ⟨b,o,ra,rc,h1,by omega,h3,h4,fun hne b' o' e=>by have:=h5 hne b' o' e; omega⟩⟩) hgl (fun r hr=>⟨(hgr r hr).1,fun x hx=>lb ((hgr r hr).2 x hx)⟩) hg5 (by simpa using hyl) (fun x hx=>lb (hnb x hx)) lr5 hzl (fun r hr=>⟨(hs.ok r hr).1,fun x hx=>lb ((hs.ok r hr).2.2 x hx)⟩) hru) ?_
  rintro v H6 ⟨f6,r,hr,rfl⟩
  cases r with
  | true =>
   simp (disch:=omega) only [go_sem,↓cB,r0,r4,rd];exact fin ⟨(f04.trans f5).trans f6,true,rfl,hr⟩
  | false =>
   have hz:((((if false=true then 0 else zss.length + 1:Nat):Nat):Int)=0)↔False:=(by simp; omega);simp (disch:=omega) only [go_sem,↓cB,r0,r4,rd,hz];exact fin ⟨(f04.trans f5).trans f6,false,by simp,hr⟩
end
section
variable {H:A3}
theorem SolA.all {gl:List (List Int)} {xs:List Int} {ow:Nat->Nat} {f:Cf} {v:Value} (h:SolA 6 (AW gl) xs H ow f v):∃ (ys:List Int) (ws:List Value) (zss:List (List Int)) (j:Nat),v=iv j/\Vec H 3 1 f.core (ys.map iv)/\ys.length<=1000/\ys.Nodup/\(∀ x ∈ ys,AE x=true/\x.natAbs<=6)/\LS H ow 6 f.ls ws zss/\Lru gl zss/\(j=2->Rup (AW (gl ++ zss)) ((ys.map (- ·)).map Ai)):=by
 have nil:∀ Hx:A3,Vec Hx 3 1 (.slice none 0 0) (([]:List Int).map iv):=fun Hx=>Vec.nil;cases h with
 | bad hb hls hc=>exact ⟨[],[],[],0,rfl,by rw [hc]; exact nil H,by simp,by simp,by simp,⟨by rw [hls]; rfl,rfl,fun i w z h=>by simp at h,fun z h=>by simp at h⟩,fun i z h=>by simp at h,fun e=>by cases e⟩
 | sat m Ls hm hG hc hl =>
  obtain ⟨ws,zss,hs,hr,-⟩:=hl.ls (by omega);exact ⟨[],ws,zss,1,rfl,by rw [hc]; exact nil H,by simp,by simp,by simp,hs,hr,fun e=>by cases e⟩
 | unsat cs ys idle Ls L0 hi hcl hu hn hv ho hln hl =>
  obtain ⟨ws,zss,hs,hr,hc⟩:=hln.ls (by omega);have hyb:∀ x ∈ ys,AE x=true/\x.natAbs<=6:=fun x hx=>by
   obtain ⟨y,hy,rfl⟩:=Ji.1 ((hn.mem x).1 hx);exact ⟨IJ (hi y hy) (by omega),Nj (hi y hy)⟩
  have hnd:ys.Nodup:=hn.str.imp fun hab e=>(by subst e; unfold ltN at hab; omega);have hyl:ys.length<=1000:=(by have:=hn.le; simp at this; omega);have hru:Rup (AW (gl ++ zss)) ((ys.map (- ·)).map Ai):=fun T hT hall=>hu T ((hc T).1 hT) fun y hy=>by
   have hm:Ct y ∈ ys:=(hn.mem _).2 (Ji.2 ⟨y,hy,rfl⟩);have:=hall (Ai (-(Ct y))) (Ji.2 ⟨-(Ct y),Ji.2 ⟨Ct y,hm,rfl⟩,rfl⟩);have h0:=Ci (hyb _ hm).1;rw [Cj (by omega),Int.neg_neg,Gn (hi y hy).1] at this;exact this
  rcases hl with ⟨-,hls⟩ | ⟨hidle,w,hls,hw,how⟩
  ·exact ⟨ys,ws,zss,2,rfl,hv,hyl,hnd,hyb,by rw [hls]; exact hs,hr,fun _=>hru⟩
  ·have hstr:(ys.map (- ·)).Pairwise ltN:=by
    have hno:¬ ∃ x ∈ ys,-x ∈ ys:=fun h=>(by rw [hn.idle.2 h] at hidle; cases hidle);refine Xp _ (fun a b hab=>?_) (Wp.1 hn.str);obtain ⟨ha,hb,hlt⟩:=hab;unfold ltN at hlt ⊢;rcases hlt with h | ⟨h1,h2⟩
    ·left; omega
    ·have:b = -a\/b=a:=(by omega);rcases this with e | e
     ·exact absurd ⟨a,ha,e ▸ hb⟩ hno
     ·omega
   have hs2:LS H ow 6 f.ls (ws ++ [w]) (zss ++ [ys.map (- ·)]):=by
    rw [hls];refine hs.add hw how ⟨by simpa using hyl,hstr,fun x hx=>?_⟩;obtain ⟨y,hy,rfl⟩:=Ji.1 hx;obtain ⟨h1,h2⟩:=hyb y hy;refine ⟨?_,by omega⟩;unfold AE at h1 ⊢;rw [Jk] at h1 ⊢;omega
   exact ⟨ys,_,_,2,rfl,hv,hyl,hnd,hyb,hs2,hr.add hru,fun _=>by
    rw [<- Je,HP];exact Rup.mem (by simp)⟩
theorem OB (aw:∀ H:A3,CallF Tryz.prog 4 [] H (fun v H'=>v=.bool true/\Fr [] H H') NoP) {a ma:Option Addr} {css:List (List Int)} {xs:List Int} {c mc:Nat} (hx:RL H.size H a css) (hm:Rn H ma xs) (hmN:xs ≠ []->∀ b o,ma=some ⟨b,o,none⟩->b < H.size) (hcap:css.length<=c) (hbig:css.length<=9223372036854775807) (hrb:∀ r ∈ css,r.length<=9223372036854775807) (hmb:xs.length<=9223372036854775807) :
  CallF Tryz.prog 3 [.slice a css.length c,.slice ma xs.length mc] H (fun v H'=>v=.bool true/\Fr [] H H') NoP:=by
 have again:∀ H1,Fr [] H H1->CallF Tryz.prog 4 [] H1 (fun v H'=>v=.bool true/\Fr [] H H') NoP:=fun H1 f1=>(aw H1).to fun v H' ⟨h1,h2⟩=>⟨h1,f1.trans h2⟩
 refine A9 Tryz.func3 rfl Tryz.ntmps3 Tryz.results3 (by decide) rfl ?_
 simp (disch:=omega) only [go_sem,↓cB]
 refine A7 (aw H) ?_
 rintro v H1 ⟨rfl,f1⟩
 have x1:=hx.same (H':=H1) (fun b hb=>f1.same b hb (by simp))
 simp (disch:=omega) only [go_sem,↓cB]
 refine A7 (MW (most:=30) (vars:=6) x1 hcap (by omega) (by omega) hbig hrb) ?_
 rintro v H2 ⟨rfl,e⟩
 subst H2
 cases hsm:Eh css 30 6 with
 | false =>
  simp (disch:=omega) only [go_sem,↓cB];refine A7 (again H1 f1) ?_;rintro v H2 ⟨rfl,f2⟩;simp (disch:=omega) only [go_sem,↓cB];exact fin ⟨rfl,f2⟩
 | true =>
  have hsm':=hsm;unfold Eh at hsm';rw [Jd,Jk,Jo] at hsm';obtain ⟨hc30,hrows⟩:=hsm';have hrl:∀ r ∈ css,r.length<=30:=fun r hr=>by
   have:=hrows r hr;rw [Jd,Jk] at this;exact this.1
  by_cases hx5:5 < xs.length
  ·simp (disch:=omega) only [go_sem,↓cB];refine A7 (again H1 f1) ?_;rintro v H2 ⟨rfl,f2⟩;simp (disch:=omega) only [go_sem,↓cB];exact fin ⟨rfl,f2⟩
  ·simp (disch:=omega) only [go_sem,↓cB];refine A7 (Q1 (n:=6) (by omega)) ?_;rintro v H2 ⟨f2,ow2,p,k,g2,rfl,o2,s2,gl2,ro2,bd2,dd2,ls2⟩;have f02:=f1.trans f2;have o02:∀ b,b < H.size->ow2 b=0:=fun b hb=>o2 b (by have:=f1.size; omega);clear x1;simp (disch:=omega) only [go_sem];refine Bp (fun U H3=>∃ (ow3:Nat->Nat) (g3:Cf),(U.get 1=.slice ma xs.length mc/\U.get 5=hp p/\U.ds = [])/\SV H3 ow3 p 6 k g3/\(∀ b,b < H.size->ow3 b=0)/\Fr [] H H3/\g3.gl.length<=30/\g3.rounds=0/\Bd g3 0/\g3.ls = []) ?_ ?_
   ·simp (disch:=omega) only [go_sem,↓cB];refine Ae (fun j U H3=>∃ (i:Nat) (ow3:Nat->Nat) (g3:Cf),j=css.length - i/\i<=css.length/\(U.get 0=.slice a css.length c/\U.get 1=.slice ma xs.length mc/\U.get 5=hp p/\U.get 7=iv i/\U.ds = [])/\SV H3 ow3 p 6 k g3/\(∀ b,b < H.size->ow3 b=0)/\Fr [] H H3/\g3.gl.length<=i/\g3.rounds=0/\Bd g3 0/\g3.ls = []) (k:=css.length) ?_ ?_
    ·exact ⟨0,ow2,g2,rfl,by omega,by simp (disch:=omega) only [go_sem,↓cB]; try rfl,s2,o02,f02,by rw [gl2]; simp,ro2,bd2,ls2⟩
    ·rintro _ U H3 ⟨i,ow3,g3,rfl,hi,⟨r0,r1,r5,r7,rd⟩,s3,o3,f3,gl3,ro3,bd3,ls3⟩;by_cases hie:i=css.length
     ·subst hie;simp (disch:=omega) only [go_sem,↓cB,r0,r1,r5,r7,rd];exact fin ⟨ow3,g3,by simp (disch:=omega) only [go_sem,↓cB,r1,r5,rd],s3,o3,f3,by omega,ro3,bd3,ls3⟩
     ·obtain ⟨x,hxi⟩:∃ x,css[i]?=some x:=⟨_,J1 (by omega)⟩;obtain ⟨b',o',ra,rc,e,-,kx,hr,-⟩:=(hx.same (H':=H3) (fun b hb=>f3.same b (by omega) (by simp))).ex i x hxi;subst e;have hi1:(i:Int) + 1=((i + 1:Nat):Int):=(by omega);have hxl:=hrl x (J2 hxi);simp (disch:=omega) only [go_sem,↓cB,r0,r1,r5,r7,rd,kx];refine A7 (Q3 s3 hr (by omega) (by omega)) ?_;rintro v H4 (⟨-,rfl,f4⟩ | ⟨-,-,rfl,ow4,g4,ys,idle,s4,e4,hnf,gl4,ld4,dd4,ro4,ls4,bd4⟩)
      ·simp (disch:=omega) only [go_sem,↓cB,r0,r1,r5,r7,rd];exact fin ⟨css.length - (i + 1),by omega,i + 1,ow3,g3,rfl,by omega,by simp (disch:=omega) only [go_sem,↓cB,r0,r1,r5,r7,rd,hi1],s3.out f4,o3,f3.trans f4,by omega,ro3,bd3,ls3⟩
      ·obtain ⟨f04,o04⟩:=j2r f3 o3 e4;simp (disch:=omega) only [go_sem,↓cB,r0,r1,r5,r7,rd];exact fin ⟨css.length - (i + 1),by omega,i + 1,ow4,g4,rfl,by omega,by simp (disch:=omega) only [go_sem,↓cB,r0,r1,r5,r7,rd,hi1],s4,o04,f04,by rw [gl4]; simp; omega,ro4.trans ro3,bd4 0 bd3,ls4.trans ls3⟩
   ·clear s2 o2 o02 f02 f2 gl2 ro2 bd2 dd2 ls2 f1;rintro U H3 ⟨ow3,g3,⟨r1,r5,rd⟩,s3,o3,f3,gl3,ro3,bd3,ls3⟩;simp (disch:=omega) only [go_sem,↓cB,r1,r5,rd];refine A7 (MN s3 (by decide) ls3 (by omega) (u:=0) bd3 (by omega) (by omega) (b:=-1) (by omega) (hm.frame f3 (by simp)) (fun hne b o e=>⟨by have:=hmN hne b o e; have:=f3.size; omega,o3 b (hmN hne b o e)⟩) (by omega)) ?_;rintro v H4 ⟨ow4,g4,m4,e4,gs4,gl4,ls4,ans⟩;obtain ⟨f4,o4⟩:=j2r f3 o3 e4;obtain ⟨ys,ws,zss,j,rfl,hv,hyl,hnd,hyb,hls,hru,hj⟩:=ans.all;have hzl:zss.length<=10000:=by
     rw [hls.e,II,hls.len] at ls4;omega
    have hcn:∀ g ∈ g3.gl,g.length<=1000/\∀ x ∈ g,AE x=true/\x.natAbs<=6:=fun g hg=>by
     have hc:=s3.cn g hg;exact ⟨by have:=M7 hc; omega,fun x hx=>by
      have:=hc.lit x hx;refine ⟨?_,this.2⟩;unfold AE;rw [Jk];omega⟩
    rw [<- gl4] at hcn hru hj gl3;clear ans hm hmN hx s3 e4 gs4 ls3 bd3 ro3 f3 o3;simp (disch:=omega) only [go_sem,↓cB,r1,r5,rd];refine A7 (JB m4 hv (by omega)) ?_;rintro v H5 ⟨f5,v5,o5⟩;obtain ⟨ya,yc,rfl,hyr⟩:=Fk v5;simp (disch:=omega) only [go_sem];refine Bp (fun U H6=>∃ wv,(U.get 5=hp p/\U.get 8=iv j/\U.get 9=wv/\U.ds = [])/\Fr [] H4 H6/\Vec H6 3 1 wv ((ys.map (- ·)).map iv)) ?_ ?_
    ·simp (disch:=omega) only [go_sem,↓cB,r5];refine Ae (fun j' U H6=>∃ (i:Nat) (wv:Value),j'=ys.length - i/\i<=ys.length/\(U.get 5=hp p/\U.get 8=iv j/\U.get 9=wv/\U.get 10=.slice ya ys.length yc/\U.get 11=iv i/\U.ds = [])/\Fr [] H5 H6/\Vec H6 3 1 wv (((ys.take i).map (- ·)).map iv)/\∀ b ∈ own wv,H5.size<=b) (k:=ys.length) ?_ ?_
     ·exact ⟨0,.slice none 0 0,rfl,by omega,by simp (disch:=omega) only [go_sem,↓cB,r5,rd]; try rfl,Fr.refl _ _,Vec.nil,by simp [own]⟩
     ·clear r1 r5 rd;rintro _ U H6 ⟨i,wv,rfl,hi,⟨r5,r8,r9,r10,r11,rd⟩,f6,v6,o6⟩;by_cases hie:i=ys.length
      ·subst hie;rw [Jr] at v6;simp (disch:=omega) only [go_sem,↓cB,r5,r8,r9,r10,r11,rd];exact fin ⟨wv,by simp (disch:=omega) only [go_sem,↓cB,r5,r8,r9,rd],f5.trans f6,v6⟩
      ·obtain ⟨y,hyi⟩:∃ y,ys[i]?=some y:=⟨_,J1 (by omega)⟩;obtain ⟨yb,yo,e,ky⟩:=(hyr.frame f6 (by simp)) i y hyi;subst e;have hb:=CP (hyb y (J2 hyi)).1;have hi1:(i:Int) + 1=((i + 1:Nat):Int):=(by omega);simp (disch:=omega) only [go_sem,↓cB,r5,r8,r9,r10,r11,rd,ky];refine AK T.zk rfl v6 rfl (by simp; omega) ?_;intro v' H7 q1 q2 q3 q4;simp (disch:=omega) only [go_sem,↓cB,r5,r8,r9,r10,r11,rd];refine fin ⟨ys.length - (i + 1),by omega,i + 1,v',rfl,by omega,by simp (disch:=omega) only [go_sem,↓cB,r5,r8,r9,r10,r11,rd,hi1],⟨Js f6.size q2.size,fun q hq _=>?_⟩,?_,fun q hq=>?_⟩
       ·rw [q2.same q (by have:=f6.size; omega) (fun e=>by have:=o6 q e; omega),f6.same q hq (by simp)]
       ·have:((ys.take (i + 1)).map (- ·)).map iv=((ys.take i).map (- ·)).map iv ++ [iv (-y)]:=by
         rw [Jl,hyi]; simp
        rw [this]; exact q1
       ·rcases q3 q hq with h | h
        ·exact o6 q h
        ·have:=f6.size; omega
    ·clear r1 r5 rd;rintro U H6 ⟨wv,⟨r5,r8,r9,rd⟩,f6,v6⟩;obtain ⟨ga,gc,rfl,hgr⟩:=Fk v6;have m6:=m4.out f6 (by simp);have hls6:∀ {Hx:A3},Fr [] H4 Hx->LS Hx ow4 6 g4.ls ws zss:=fun fx=>⟨hls.e,hls.len,fun i w z h1 h2=>⟨(hls.row i w z h1 h2).1.frame fx (by simp),(hls.row i w z h1 h2).2⟩,hls.ok⟩;simp (disch:=omega) only [go_sem,↓cB,r5,r8,r9,rd];refine A7 (NV m6 (by omega) (hv.frame f6 (by simp)) hyl hyb (by omega) hcn (hls6 f6) hru hzl) ?_;rintro v H7 ⟨f7,r,rfl,hr⟩;have f47:=f6.trans f7;simp (disch:=omega) only [go_sem,↓cB,r5,r8,r9,rd];refine A7 (EV (m4.out f47 (by simp)) (by omega) (fun g hg=>by have:=(hcn g hg).1; omega)) ?_;rintro v H8 ⟨f8,rvs,w8⟩;obtain ⟨xa,xc,rfl,rc8⟩:=w8.rc;have f48:=f47.trans f8;simp (disch:=omega) only [go_sem,↓cB,r5,r8,r9,rd];refine A7 (GA (m4.out f48 (by simp)) (hls6 f48) hzl) ?_;rintro v H9 ⟨f9,pa,pc,rfl,lr9⟩;have f49:=f48.trans f9;have hgl6:(ys.map (- ·)).length<=1000:=(by simpa using hyl);have hnb:∀ x ∈ ys.map (- ·),AE x=true/\x.natAbs<=6:=fun x hx=>by
      obtain ⟨y,hy,rfl⟩:=Ji.1 hx;obtain ⟨h1,h2⟩:=hyb y hy;refine ⟨?_,by omega⟩;unfold AE at h1 ⊢;rw [Jk] at h1 ⊢;omega
     have hnd2:(ys.map (- ·)).Nodup:=Xp _ (fun p q hpq e=>hpq (by omega)) hnd;have hz9:=f9.size;have ref:=MY (N:=H9.size) (n:=6) (by omega) (by omega:g4.gl.length<=10000) hcn (Jb _) (a:=xa) (c:=xc) ⟨fun i c hi=>by
      obtain ⟨b,o,ra,rc,h1,h2,h3,h4,h5,h6⟩:=(rc8.same (H':=H9) fun b hb=>f9.same b hb (by simp)).ex i c hi;exact ⟨b,o,ra,rc,h1,by omega,h3,h4,fun hne b' o' e=>by have:=h5 hne b' o' e; omega,h6⟩⟩ (gc:=gc) (pc:=pc) (((hgr.frame f7 (by simp)).frame f8 (by simp)).frame f9 (by simp)) hgl6 hnb hnd2 lr9 hzl (fun z hz=>⟨(hls.ok z hz).1,(hls.ok z hz).2.1.imp fun hab e=>by subst e; unfold ltN at hab; omega,(hls.ok z hz).2.2⟩) hru
     have ref4:CallF Tryz.prog 11 [.slice xa g4.gl.length xc,.slice pa zss.length pc,.slice ga (ys.map (- ·)).length gc] H9 (fun v H'=>Fr [] H9 H'/\∃ r:Bool,(r=true↔Rup (AW (g4.gl ++ zss)) ((ys.map (- ·)).map Ai))/\v=iv ((if r then 0 else zss.length + 1:Nat):Int)) NoP:=by
      refine A9 Tryz.func11 rfl Tryz.ntmps11 Tryz.results11 (by decide) rfl ?_;simp (disch:=omega) only [go_sem,↓cB];refine A7 ref ?_;rintro v H10 ⟨f10,r',hr',rfl⟩;simp (disch:=omega) only [go_sem,↓cB];exact fin ⟨f10,r',hr',rfl⟩
     simp (disch:=omega) only [go_sem,↓cB,r5,r8,r9,rd];refine A7 ref4 ?_;rintro v H10 ⟨f10,r',hr',rfl⟩;have hrr:r'=r:=by
      rw [Bool.eq_iff_iff,hr',hr]
     subst hrr;have f410:=(f4.trans f49).trans f10;cases r' with
     | true =>
      by_cases hj2:j=2
      ·have hjd:decide ((j:Int) ≠ 2)=false:=(by rw [Zy]; omega);simp (disch:=omega) only [go_sem,↓cB,r5,r8,r9,rd,hjd];exact fin ⟨rfl,f410⟩
      ·have hjd:decide ((j:Int) ≠ 2)=true:=(by rw [Jk]; omega);simp (disch:=omega) only [go_sem,↓cB,r5,r8,r9,rd,hjd];exact fin ⟨rfl,f410⟩
     | false =>
      have hj2:j ≠ 2:=fun e=>nomatch hr.2 (hj e);have hz:((((if false=true then 0 else zss.length + 1:Nat):Nat):Int)=0)↔False:=(by simp; omega);have hjd:decide ((j:Int) ≠ 2)=true:=(by rw [Jk]; omega);simp (disch:=omega) only [go_sem,↓cB,r5,r8,r9,rd,hz,hjd];exact fin ⟨by simp,f410⟩
end
end Go.Proofs.YtkdlmdmlomgdiaaGreat
namespace Go.Run
open Go.HL
variable {σ:Nat->Value} {F:Nat->Option Obj} {φ:Phi} {A:AH} {H:A3} {P:Program} {V:HV}
section
def Ho (n:Nat) (l:List AV):List AV:=@Nat.rec (fun _=>List AV) [] (fun _ ih=>EB l ih) n
theorem EW (l:List AV):∀ n,(Ho n l).length=n * l.length
 | 0=>by show ([]:List AV).length=_; simp
 | n + 1=>by
  show (EB l (Ho n l)).length=_;rw [EA,Jv,EW l n,Y4]; omega
theorem MV (l:List AV):∀ (n j:Nat),j < n * l.length->(Ho n l)[j]?=l[j % l.length]?
 | 0,j,h=>by simp at h
 | n + 1,j,h=>by
  show (EB l (Ho n l))[j]?=_;rw [EA];by_cases hj:j < l.length
  ·rw [Jg hj,Xs hj]
  ·rw [Jf (by omega),MV l n _ (by rw [Y4] at h; omega),<- Nat.mod_eq_sub_mod (by omega)]
theorem If (z:Array Value) (n j:Nat) (h:j < n) (hz:0 < z.size):(AO z n)[j]?=z[j % z.size]?:=by
 unfold AO;rw [Array.getElem?_map,Array.getElem?_range];rw [J8 h];have hm:=Nat.mod_lt j hz;simp [hm]
theorem Bn (z:Array Value) (n:Nat):(AO z n).size=n:=by simp [AO]
theorem GF {l:List AV} {z:Array Value} {n:Nat} (h:VRl σ φ l z.toList):VRl σ φ (Ho n l) (AO z (n * z.size)).toList:=by
 have hl:=h.length;simp only [Zw] at hl;refine VRl.uq (by have:=Bn z (n * z.size); rw [EW,hl]; simp only [Zw]; omega) ?_;intro j v w hv hw;rw [Y1] at hw;have hj:j < n * z.size:=by
  have:=(J3.1 hv).1;rwa [EW,hl] at this
 have hz:0 < z.size:=by
  rcases Nat.eq_zero_or_pos z.size with e | e
  ·rw [e] at hj; simp at hj
  ·exact e
 rw [MV l n j (by rw [hl]; exact hj)] at hv;rw [If _ _ _ hj hz] at hw;obtain ⟨w',h1,h2⟩:=h.get hv;rw [hl,Y1,hw] at h1;simp only [J5] at h1;subst h1;exact h2
def O2 (n:Nat) (zero:List AV):CT:=@List.rec AV (fun _=>CT) (ctL []) (fun v r _=>@List.rec AV (fun _=>CT) (CT.fill n v) (fun _ _ _=>ctL (Ho n zero)) r) zero
theorem KI {l:List AV} {z:Array Value} {n:Nat} (h:VRl σ φ l z.toList) (hn:n * l.length<=65536) :
  n * l.length<=(O2 n l).room/\∀ o,o < n * l.length->∃ w,(AO z (n * z.size))[o]?=some w/\VR σ φ ((O2 n l).get o) w:=by
 have hl:=h.length
 simp only [Zw] at hl
 have hr:=GF (n:=n) h
 have hlen:=EW l n
 have gen:n * l.length<=(ctL (Ho n l)).room/\∀ o,o < n * l.length->∃ w,(AO z (n * z.size))[o]?=some w/\VR σ φ ((ctL (Ho n l)).get o) w:=by
  obtain ⟨g1,g2,g3⟩:=Dr (by rw [hlen]; exact hn) hr;rw [hlen] at g1 g3;exact ⟨g1,g3⟩
 match l,h,hl,hr,hlen,gen with
 | [],_,_,_,_,_=>simp
 | [v],h,hl,hr,hlen,_ =>
  show n * 1<=(CT.fill n v).room/\∀ o,o < n * 1->∃ w,(AO z (n * z.size))[o]?=some w/\VR σ φ ((CT.fill n v).get o) w;refine ⟨by have:=CT.xn n v (by simpa using hn); omega,fun o ho=>?_⟩;rw [CT.qy];simp only [VRl] at h;obtain ⟨w,ws,e,h1,rfl⟩:=h;refine ⟨w,?_,h1⟩;simp only [Za,Xc] at hl;rw [<- hl,If _ _ _ (by omega) (by omega),<- hl,Vf,<- Y1,e];rfl
 | v :: v2 :: r,h,hl,hr,hlen,gen=>exact gen
def Qk (A:AH) (i:TI) (l c:AV) (k:AV->AH->Bool):Bool :=
 idx l fun l=>idx c fun c=>ifB (Nat.ble l c) (ifB (Nat.ble c 65536) (ifB (Nat.ble i.bytes 1048576) (frc (Nat.mul c i.size) fun n=>ifB (Nat.ble n 65536) (Qh A n (O2 c i.zero) fun j A=>k (.q j 0 l c i.size true) A) false) false) false) false
theorem Pg {t e:Nat} {i:TI} {l c:AV} {wl wc:Value} {k:AV->AH->Bool} (h:Rel σ F φ A H) (ht:P.underlying t=some (.slice e)) (hi:TIok P e i) (hl:VR σ φ l wl) (hc:VR σ φ c wc) (hk:Qk A i l c k=true) :
  ∃ r,makeV P H t wl wc=some r/\∃ v A' φ',φ.le φ'/\Rel σ F φ' A' r.2/\VR σ φ' v r.1/\k v A'=true:=by
 unfold Qk at hk
 obtain ⟨g,n,rfl,hk⟩:=AY hl hk
 obtain ⟨g',m,rfl,hk⟩:=AY hc hk
 obtain ⟨h1,hk⟩:=Ab hk
 obtain ⟨h2,hk⟩:=Ab hk
 obtain ⟨h3,hk⟩:=Ab hk
 rw [Bw] at hk
 obtain ⟨h4,hk⟩:=Ab hk
 have h1:=Ja h1
 have h2:=Ja h2
 have h3:=Ja h3
 have h4:=Ja h4
 simp only [W3] at hk h4
 obtain ⟨z,hz,hzs,hv⟩:=hi.zer
 obtain ⟨g1,g2⟩:=KI (n:=m) (hv σ φ) (by rw [hi.len]; exact h4)
 rw [hi.len] at g1 g2
 rw [hzs] at g2
 obtain ⟨j,A',φ',a1,a2,a3,a4⟩:=ID (cs:=AO z.cells (m * i.size)) (el:=e) h g1 (by rw [Bn]; exact Jb _) g2 hk
 refine ⟨(.slice (some ⟨H.size,0,none⟩) n m,H.push (.cells (AO z.cells (m * i.size)) e)),?_,_,A',φ',a1,a2,?_,a4⟩
 ·have hel:AN P t=some e:=by simp [AN,ht]
  unfold makeV
  simp only [hel,hi.bytes,hi.size,hz,J0,Z4]
  rw [J8]
  refine ⟨by omega,by omega,by omega,?_⟩
  have:i.bytes * m<=1048576 * 65536:=W2 h3 h2
  have e1:((i.bytes:Nat):Int) * (m:Int)=((i.bytes * m:Nat):Int):=by simp
  rw [e1]; omega
 ·simp only [VR]
  refine ⟨_,0,m,a3,rfl,⟨h1,by omega⟩,Jb _,?_,fun _=>by simp,fun _=>rfl⟩
  rw [Bn]; show 0 + m * i.size<=m * i.size/\(m ≠ 0->0 + m * i.size=m * i.size); omega
def Uu (A:AH) (i:TI) (len:Nat) (parts:List (Nat × Nat × AV)) (k:AV->AH->Bool):Bool :=
 ifB (Nat.ble len 65536) (ifB (Nat.ble (Nat.mul len i.size) 65536) (bld parts (Ho len i.zero) fun l=>Qh A (E7 l) (ctL l) fun j A=>k (.q j 0 len len i.size true) A) false) false
theorem HS {place:Nat->Option (Nat × Nat)}:∀ (ps:List (Nat × Value)) (cs cs':Array Value),Instr.fill place cs ps=some cs'->cs'.size=cs.size
 | [],cs,cs',h=>by simp only [Instr.fill,J5] at h; rw [h]
 | ⟨q,v⟩ :: ps,cs,cs',h=>by
  simp only [Instr.fill] at h;cases hp:place q with
  | none=>rw [hp] at h; cases h
  | some x =>
   obtain ⟨off,size⟩:=x;rw [hp] at h;simp only at h;by_cases hc:(decide (v.cells.size ≠ size) || decide (off + v.cells.size > cs.size))=true
   ·rw [J8 hc] at h; cases h
   ·rw [J4 hc] at h;have:=HS ps _ _ h;rw [this];have key:∀ (l:List (Value × Nat)) (c:Array Value),(l.foldl (fun cs (x:Value × Nat)=>cs.setIfInBounds (off + x.2) x.1) c).size=c.size:=by
     intro l;induction l with
     | nil=>intro c; rfl
     | cons x l ih=>intro c; rw [W0,ih]; simp
    rw [<- Xk];exact key _ _
theorem PC {t e len:Nat} {i:TI} {parts:List (Nat × Nat × AV)} {ps:List (Nat × Value)} {k:AV->AH->Bool} (h:Rel σ F φ A H) (ht:P.underlying t=some (.slice e)) (hi:TIok P e i) (hl:parts.length=ps.length)
  (hp:∀ (j:Nat) p q,parts[j]?=some p->ps[j]?=some q->p.1=q.1 * i.size/\p.2.1=i.size/\VR σ φ p.2.2 q.2) (hk:Uu A i len parts k=true) :
  ∃ r,buildSliceV P H t len ps=some r/\∃ v A' φ',φ.le φ'/\Rel σ F φ' A' r.2/\VR σ φ' v r.1/\k v A'=true:=by
 obtain ⟨h0,hk⟩:=Ab hk
 have h0:=Ja h0
 obtain ⟨h4,hk⟩:=Ab hk
 have h4:=Ja h4
 simp only [W3] at h4
 obtain ⟨z,hz,hzs,hv⟩:=hi.zer
 have hr:=GF (n:=len) (hv σ φ)
 rw [hzs] at hr
 obtain ⟨cs,l,h5,h6,hk⟩:=Ko (place:=fun q=>some (q * i.size,i.size)) parts ps _ _ hl (fun j p q a b=>by
  obtain ⟨c1,c2,c3⟩:=hp j p q a b;exact ⟨by rw [c1,c2],c3⟩) hr hk
 have hsz:cs.size=len * i.size:=by rw [HS _ _ _ h5,Bn]
 have hll:l.length=len * i.size:=by have:=h6.length; simp only [Zw] at this; omega
 rw [BH] at hk
 obtain ⟨g1,g2,g3⟩:=Dr (by rw [hll]; exact h4) h6
 obtain ⟨j,A',φ',a1,a2,a3,a4⟩:=ID (cs:=cs) (el:=e) h g1 (by omega) g3 hk
 refine ⟨(.slice (some ⟨H.size,0,none⟩) len len,H.push (.cells cs e)),?_,_,A',φ',a1,a2,?_,a4⟩
 ·have hel:AN P t=some e:=by simp [AN,ht]
  unfold buildSliceV
  simp only [hel,hi.size,hz,J0]
  rw [J8 (by omega)]
  unfold Li
  rw [h5]
  rfl
 ·simp only [VR]
  refine ⟨_,0,len,a3,rfl,⟨Jb _,by omega⟩,Jb _,?_,fun _=>by simp,fun _=>rfl⟩
  rw [hsz]; show 0 + len * i.size<=len * i.size/\(len ≠ 0->0 + len * i.size=len * i.size); omega
def Uy (zero:List AV) (parts:List (Nat × Nat × AV)) (k:AV->Bool):Bool:=bld parts zero fun l=>k (.a l)
theorem Ux {t:Nat} {i:TI} {pl:List (Nat × Nat)} {parts:List (Nat × Nat × AV)} {ps:List (Nat × Value)} {k:AV->Bool} (hi:TIok P t i) (hpl:i.pl=some pl) (hl:parts.length=ps.length)
  (hp:∀ (j:Nat) p q,parts[j]?=some p->ps[j]?=some q->pl[q.1]?=some (p.1,p.2.1)/\VR σ φ p.2.2 q.2) (hk:Uy i.zero parts k=true) :
  ∃ v r,D4 P t ps=some r/\VR σ φ v r/\k v=true:=by
 obtain ⟨z,hz,hzs,hv⟩:=hi.zer
 obtain ⟨cs,l,h5,h6,hk⟩:=Ko (place:=fun q=>pl[q]?) parts ps _ _ hl hp (hv σ φ) hk
 refine ⟨.a l,.agg cs,?_,by simp only [VR]; exact ⟨cs,rfl,h6⟩,hk⟩
 unfold D4
 rw [hi.pl,hpl]
 simp only [hz,J0]
 rw [h5]
 rfl
theorem Uw {t n e:Nat} {i j:TI} {parts:List (Nat × Nat × AV)} {ps:List (Nat × Value)} {k:AV->Bool} (hi:TIok P t i) (hpl:i.pl=none) (ht:P.underlying t=some (.array n e)) (hj:TIok P e j) (hl:parts.length=ps.length)
  (hp:∀ (m:Nat) p q,parts[m]?=some p->ps[m]?=some q->p.1=q.1 * j.size/\p.2.1=j.size/\VR σ φ p.2.2 q.2) (hk:Uy i.zero parts k=true) :
  ∃ v r,D4 P t ps=some r/\VR σ φ v r/\k v=true:=by
 obtain ⟨z,hz,hzs,hv⟩:=hi.zer
 obtain ⟨cs,l,h5,h6,hk⟩:=Ko (place:=fun q=>some (q * j.size,j.size)) parts ps _ _ hl (fun m p q a b=>by
  obtain ⟨c1,c2,c3⟩:=hp m p q a b;exact ⟨by rw [c1,c2],c3⟩) (hv σ φ) hk
 refine ⟨.a l,.agg cs,?_,by simp only [VR]; exact ⟨cs,rfl,h6⟩,hk⟩
 have ha:Iw P t=some (n,j.size):=by simp [Iw,Mu,ht,hj.size]
 unfold D4
 rw [hi.pl,hpl]
 simp only [ha,hz,J0]
 rw [h5]
 rfl
end
end Go.Run
