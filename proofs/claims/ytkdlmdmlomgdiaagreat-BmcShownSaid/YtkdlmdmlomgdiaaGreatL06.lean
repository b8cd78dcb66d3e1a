/- The solver: what a conflict's analysis marks. -/
import Derived.Test.YtkdlmdmlomgdiaaGreatL05
import Derived.Defers
import Derived.Shelf.SlSortCmp.NoneTotal
import Derived.Shelf.SlicesG.Cmp
import Derived.Ground.SlsfProg
import Derived.Ground.SlgcProg
import Derived.Test.YtkdlmdmlomgdiaaGreatProg
import Derived.Test.YtkdlmdmlomgdiaaGreatRows
import Derived.WalkKit
import Derived.ProofKit
import Derived.OpenShut
import Derived.Lib.RowBridge
import Derived.Lib.SortBridge
set_option linter.unusedSimpArgs false
set_option linter.unusedVariables false
set_option maxRecDepth 10000
set_option maxHeartbeats 8000000
noncomputable section
namespace Go.Proofs.YtkdlmdmlomgdiaaGreat
open Go.HL HM Go.Sat
section
variable {H H0:A3} {ow:Nat->Nat} {p n:Nat} {k:Bk} {f f1:Cf}
theorem Ex.vec {H':A3} {ow':Nat->Nat} (h:Ex H ow H' ow') {e z:Nat} {v:Value} {vs:List Value} (hv:Vec H e z v vs) (ho:∀ b ∈ own v,ow b=0):Vec H' e z v vs:=by
 rcases hv.ex with h1 | ⟨b,len,cap,pre,rest,rfl,hb,h2⟩
 ·exact ⟨.inl h1⟩
 ·exact ⟨.inr ⟨b,len,cap,pre,rest,rfl,h.blk hb (ho b (by simp [own])),h2⟩⟩
theorem RM.out (h:RM H ow p n k f) {F:List Nat} {H':A3} (hf:Fr F H H') (hF:∀ b ∈ F,ow b=0):RM H' ow p n k f :=
 h.fr (Sm.of (R:=fun r=>r=0) hf hF) Ow.refl (fun b hb e=>by have:=h.free hb; rw [this] at e; exact absurd rfl e) (fun r hr=>hr)
theorem Ex.fresh {H':A3} {F:List Nat} (h:Ex H0 ow H ow) (hf:Fr F H H') (hF:∀ b ∈ F,H0.size<=b):Ex H0 ow H' ow:=by
 have hz:=h.sm.size;refine ⟨⟨Js hz hf.size,fun b hb hr=>?_⟩,Ow.refl⟩;rw [hf.same b (by omega) (fun e=>by have:=hF b e; omega),h.sm.same b hb hr]
structure AM (H0:A3) (ow:Nat->Nat) (H:A3) (p n:Nat) (k:Bk) (f f1:Cf) (xs xh xo xr:Nat) (rv:Value) (r0:Nat) (a:An):Prop where
 m:RM H ow p n k f1
 e:Ex H0 ow H ow
 z:∀ b,H0.size<=b->ow b=0
 fe:∃ sn m os pl ac,f1=(f.zx sn).zj m os pl ac/\∀ v,(nt pl v = -1↔nt f.pl v = -1)
 seen:∀ v,v<=n->bt f1.seen v=a.seen v
 bs:Blk H xs 183 [sp p]
 bh:Blk H xh 3 [iv f.st.length]
 bo:Blk H xo 3 [iv a.opn]
 br:Blk H xr 23 [rv]
 vr:Vec H 3 1 rv (nv (r0 :: a.r))
 ls:H0.size<=xs
 lh:H0.size<=xh
 lo:H0.size<=xo
 lr:H0.size<=xr
 lv:∀ b ∈ own rv,H0.size<=b/\b ≠ xs/\b ≠ xh/\b ≠ xo/\b ≠ xr
 ne:xs ≠ xh/\xs ≠ xo/\xs ≠ xr/\xh ≠ xo/\xh ≠ xr/\xo ≠ xr
variable {xs xh xo xr r0:Nat} {rv:Value} {a:An}
theorem AM.step (h:AM H0 ow H p n k f f1 xs xh xo xr rv r0 a) {H':A3} {f1':Cf} {sv:Nat->Bool} (m':RM H' ow p n k f1') (e':Ex H ow H' ow)
  (fe:∃ sn m os pl ac,f1'=(f.zx sn).zj m os pl ac/\∀ v,(nt pl v = -1↔nt f.pl v = -1)) (hs:∀ v,v<=n->bt f1'.seen v=sv v) :
  AM H0 ow H' p n k f f1' xs xh xo xr rv r0 { a with seen:=sv } :=
 ⟨m',h.e.trans e',h.z,fe,hs,e'.blk h.bs (h.z _ h.ls),e'.blk h.bh (h.z _ h.lh),e'.blk h.bo (h.z _ h.lo),e'.blk h.br (h.z _ h.lr),e'.vec h.vr (fun b hb=>h.z b (h.lv b hb).1),
  h.ls,h.lh,h.lo,h.lr,h.lv,h.ne⟩
theorem AM.opn (h:AM H0 ow H p n k f f1 xs xh xo xr rv r0 a) (o:Nat) :
  ∃ H',wr H ⟨xo,0,none⟩ (iv (o:Int))=some H'/\AM H0 ow H' p n k f f1 xs xh xo xr rv r0 { a with opn:=o }:=by
 have hw:=h.bo.wr (i:=0) (by simp) (iv (o:Int))
 have hn:=h.ne
 refine ⟨_,hw,h.m.out (Fr.set (F:=[xo]) (by simp)) (by simpa using h.z _ h.lo),h.e.fresh (Fr.set (F:=[xo]) (by simp)) (by simpa using h.lo),h.z,h.fe,h.seen,h.bs.zd hn.2.1,h.bh.zd hn.2.2.2.1,h.bo.set 0 _,h.br.zd hn.2.2.2.2.2.symm,h.vr.frame (Fr.set (F:=[xo]) (by simp)) (fun b hb=>by simp; exact (h.lv b hb).2.2.2.1),
  h.ls,h.lh,h.lo,h.lr,h.lv,hn⟩
theorem AM.inr (h:AM H0 ow H p n k f f1 xs xh xo xr rv r0 a) {H1:A3} {r0':Nat} {r':List Nat} (g1:Vec H1 3 1 rv (nv (r0' :: r'))) (g2:Fr (own rv) H H1):AM H0 ow H1 p n k f f1 xs xh xo xr rv r0' { a with r:=r' }:=by
 have k1:∀ q,q ∈ own rv->q ≠ xs/\q ≠ xh/\q ≠ xo/\q ≠ xr:=fun q hq=>(h.lv q hq).2;have s1:xs ∉ own rv:=fun e=>(k1 _ e).1 rfl;have s2:xh ∉ own rv:=fun e=>(k1 _ e).2.1 rfl;have s3:xo ∉ own rv:=fun e=>(k1 _ e).2.2.1 rfl;have s4:xr ∉ own rv:=fun e=>(k1 _ e).2.2.2 rfl;exact ⟨h.m.out g2 (fun b hb=>h.z b (h.lv b hb).1),h.e.fresh g2 (fun b hb=>(h.lv b hb).1),h.z,h.fe,h.seen,g2.blk h.bs s1,g2.blk h.bh s2,g2.blk h.bo s3,g2.blk h.br s4,g1,h.ls,h.lh,h.lo,h.lr,h.lv,h.ne⟩
theorem AM.out (h:AM H0 ow H p n k f f1 xs xh xo xr rv r0 a) {H1:A3} (g2:Fr [] H H1):AM H0 ow H1 p n k f f1 xs xh xo xr rv r0 a :=
 ⟨h.m.out g2 (by simp),h.e.fresh g2 (by simp),h.z,h.fe,h.seen,g2.blk h.bs (by simp),g2.blk h.bh (by simp),g2.blk h.bo (by simp),g2.blk h.br (by simp),h.vr.frame g2 (by simp),h.ls,h.lh,h.lo,h.lr,h.lv,h.ne⟩
theorem AM.dj (h:AM H0 ow H p n k f f1 xs xh xo xr rv r0 a) {H1:A3} {v':Value} {r0':Nat} {r':List Nat} (g1:Vec H1 3 1 v' (nv (r0' :: r'))) (g2:Fr (own rv) H H1) (g3:∀ b ∈ own v',b ∈ own rv\/H.size<=b) :
  ∃ H',wr H1 ⟨xr,0,none⟩ v'=some H'/\AM H0 ow H' p n k f f1 xs xh xo xr v' r0' { a with r:=r' }:=by
 have hn:=h.ne
 have k1:∀ q,q ∈ own rv->q ≠ xs/\q ≠ xh/\q ≠ xo/\q ≠ xr:=fun q hq=>(h.lv q hq).2
 have s1:xs ∉ own rv:=fun e=>(k1 _ e).1 rfl
 have s2:xh ∉ own rv:=fun e=>(k1 _ e).2.1 rfl
 have s3:xo ∉ own rv:=fun e=>(k1 _ e).2.2.1 rfl
 have s4:xr ∉ own rv:=fun e=>(k1 _ e).2.2.2 rfl
 have b4:=g2.blk h.br s4
 have l1:=h.bs.lt
 have l2:=h.bh.lt
 have l3:=h.bo.lt
 have l4:=h.br.lt
 have hlv:∀ b ∈ own v',H0.size<=b/\b ≠ xs/\b ≠ xh/\b ≠ xo/\b ≠ xr:=by
  intro b hb;rcases g3 b hb with hb | hb
  ·exact h.lv b hb
  ·have:=h.e.sm.size; exact ⟨by omega,by omega,by omega,by omega,by omega⟩
 have hf2:Fr [xr] H1 (Aw H1 ⟨xr,0,none⟩ v'):=Fr.set (by simp)
 refine ⟨_,b4.wr (i:=0) (by simp) v',?_,?_,h.z,h.fe,h.seen,(g2.blk h.bs s1).zd hn.2.2.1,(g2.blk h.bh s2).zd hn.2.2.2.2.1,(g2.blk h.bo s3).zd hn.2.2.2.2.2,b4.set 0 _,?_,h.ls,h.lh,h.lo,h.lr,hlv,hn⟩
 ·exact (h.m.out g2 (fun b hb=>h.z b (h.lv b hb).1)).out hf2 (by simpa using h.z _ h.lr)
 ·exact (h.e.fresh g2 (fun b hb=>(h.lv b hb).1)).fresh hf2 (by simpa using h.lr)
 ·exact g1.frame hf2 (fun b hb=>by simp; exact (hlv b hb).2.2.2.2)
theorem AM.app (h:AM H0 ow H p n k f f1 xs xh xo xr rv r0 a) {H1:A3} {v':Value} {x:Nat} (g1:Vec H1 3 1 v' (nv (r0 :: a.r) ++ [iv (x:Int)])) (g2:Fr (own rv) H H1) (g3:∀ b ∈ own v',b ∈ own rv\/H.size<=b) :
  ∃ H',wr H1 ⟨xr,0,none⟩ v'=some H'/\AM H0 ow H' p n k f f1 xs xh xo xr v' r0 { a with r:=a.r ++ [x] }:=by
 have:nv (r0 :: (a.r ++ [x]))=nv (r0 :: a.r) ++ [iv (x:Int)]:=by simp [nv]
 exact h.dj (by rw [this]; exact g1) g2 g3
theorem IZ (h:AM H0 ow H p n k f f1 xs xh xo xr rv r0 a) (hr:Rl n f) (hi:Inv n f.s) (hn:n<=1000) (hst:0<=f.step/\f.step<=4611686018427387904) {l:List Nat} {lb lo cap:Nat}
  (hcell:∀ H1 f',RM H1 ow p n k f'->f'.lits=f.lits->f'.lb=f.lb->f'.C=f.C->∀ (i x:Nat),l[i]?=some x->A5 H1 ⟨lb,lo + i,none⟩=some (iv (x:Int)))
  (hl:∀ y ∈ l,isC n y/\neg y ∈ f.tr) (hlen:l.length<=1000) (hopn:a.opn + l.length<=1000000) (har:a.r.length + l.length<=1000000) :
  CallF Tryz.prog 207 [.slice (some ⟨lb,lo,none⟩) l.length cap,hp xs,hp xh,hp xo,hp xr] H (fun v H'=>v=.tuple #[]/\∃ f1' rv',AM H0 ow H' p n k f f1' xs xh xo xr rv' r0 (BE f.s f.st.length a l)) NoP:=by
 refine A9 Tryz.func207 rfl Tryz.ntmps207 Tryz.results207 (by decide) rfl ?_
 simp (disch:=omega) only [go_sem,↓cB]
 refine Ae (fun j U H1=>∃ (i:Nat) (f1':Cf) (rv':Value),j=l.length - i/\i<=l.length /\
  (U.get 1=hp xs/\U.get 2=hp xh/\U.get 3=hp xo/\U.get 4=hp xr/\U.get 9=.slice (some ⟨lb,lo,none⟩) l.length cap/\U.get 10=iv l.length/\U.get 11=iv i/\U.ds = []) /\
  AM H0 ow H1 p n k f f1' xs xh xo xr rv' r0 (BE f.s f.st.length a (l.take i))/\(BE f.s f.st.length a (l.take i)).opn<=a.opn + i/\(BE f.s f.st.length a (l.take i)).r.length<=a.r.length + i) (k:=l.length) ?_ ?_
 ·exact ⟨0,f1,rv,rfl,by omega,by simp (disch:=omega) only [go_sem,↓cB],h,Jb _,Jb _⟩
 ·rintro _ U H1 ⟨i,f1',rv',rfl,hil,⟨s1,s2,s3,s4,s9,s10,s11,sd⟩,am,hop,hrl⟩
  by_cases hie:i=l.length
  ·subst hie
   rw [Jr] at am
   simp (disch:=omega) only [go_sem,↓cB,s1,s2,s3,s4,s9,s10,s11,sd]
   exact fin ⟨rfl,_,_,am⟩
  ·obtain ⟨y,hy⟩:∃ y,l[i]?=some y:=⟨_,J1 (by omega)⟩
   have hyl:=J2 hy
   obtain ⟨hyc,hyt⟩:=hl y hyl
   obtain ⟨y1,y2,y3,y4⟩:=AP hyc
   obtain ⟨j,hj⟩:=Jc hyt
   have hstep:BE f.s f.st.length a (l.take (i + 1))=C8 f.s f.st.length (BE f.s f.st.length a (l.take i)) y:=by
    rw [Jl,hy];simp [BE]
   generalize hA:BE f.s f.st.length a (l.take i)=A at am hop hrl hstep
   obtain ⟨sn,m,os,pl,ac,rfl,hpl⟩:=am.fe
   have kc:=hcell H1 _ am.m rfl rfl rfl i y hy
   have hrl1:Rl n ((f.zx sn).zj m os pl ac):=⟨hr.vals,hr.lv⟩
   have clv:=am.m.tn hrl1 hj
   rw [Av] at clv
   have csn:=am.m.tk y3
   rw [am.seen _ (by omega)] at csn
   have hlv:f.s.lv (y / 2)=lev f.st j:=F1 hi hj
   have c0:A5 H1 ⟨xs,0,none⟩=some (sp p):=am.bs.cell 0
   have c12:A5 H1 ⟨p,12,none⟩=some (sl k.bs (n + 1)):=am.m.c 12
   have c10:A5 H1 ⟨p,10,none⟩=some (sl k.bl (n + 1)):=am.m.c 10
   have hh:=Gg y
   have hi1:(i:Int) + 1=((i + 1:Nat):Int):=by omega
   by_cases hseen:A.seen (y / 2)=true
   ·rw [hseen] at csn
    have hm:C8 f.s f.st.length A y=A:=by unfold C8; rw [J8 (.inl hseen)]
    simp (disch:=omega) only [go_sem,↓cB,s1,s2,s3,s4,s9,s10,s11,sd,kc,c0,c12,hh,csn]
    exact fin ⟨l.length - (i + 1),by omega,i + 1,_,rv',rfl,by omega,by simp (disch:=omega) only [go_sem,↓cB,s1,s2,s3,s4,s9,s10,s11,sd,hi1],by rw [hstep,hm]; exact am,by rw [hstep,hm]; omega,by rw [hstep,hm]; omega⟩
   ·simp only [Wj] at hseen
    rw [hseen] at csn
    by_cases h0:lev f.st j=0
    ·have hm:C8 f.s f.st.length A y=A:=by unfold C8; rw [J8 (.inr (by rw [hlv]; exact h0))]
     have clv':A5 H1 ⟨k.bl,y / 2,none⟩=some (iv ((0:Nat):Int)):=by rw [<- h0]; exact clv
     simp (disch:=omega) only [go_sem,↓cB,s1,s2,s3,s4,s9,s10,s11,sd,kc,c0,c12,c10,hh,csn,clv']
     exact fin ⟨l.length - (i + 1),by omega,i + 1,_,rv',rfl,by omega,by simp (disch:=omega) only [go_sem,↓cB,s1,s2,s3,s4,s9,s10,s11,sd,hi1],by rw [hstep,hm]; exact am,by rw [hstep,hm]; omega,by rw [hstep,hm]; omega⟩
    ·have hc:¬ (A.seen (y / 2)=true\/f.s.lv (y / 2)=0):=by rw [hseen,hlv]; simp [h0]
     obtain ⟨H2,w2,m2,e2⟩:=am.m.yy (x:=y / 2) y3 true
     have am2:AM H0 ow H2 p n k f ((f.zx (sn.set (y / 2) true)).zj m os pl ac) xs xh xo xr rv' r0 { A with seen:=up1 A.seen (y / 2) true }:=by
      refine am.step m2 e2 ⟨_,m,os,pl,ac,rfl,hpl⟩ fun v hv=>?_;have hsl:sn.length=n + 1:=am.m.ns;show bt (sn.set (y / 2) true) v=_;unfold Go.Sat.up1;by_cases e:v=y / 2
      ·subst e; rw [J8 rfl,Dt (by rw [hsl]; exact y3)]
      ·rw [J4 e,Ds (Ne.symm e)]; exact am.seen v hv
     have d0:A5 H2 ⟨xs,0,none⟩=some (sp p):=am2.bs.cell 0
     have d7:A5 H2 ⟨p,7,none⟩=some (pv k.ho):=am2.m.c 7
     have d17:A5 H2 ⟨p,17,none⟩=some (iv f.step):=am2.m.c 17
     simp (disch:=omega) only [go_sem,↓cB,s1,s2,s3,s4,s9,s10,s11,sd,kc,c0,c12,c10,hh,csn,clv,w2]
     refine As (lk [tl 0,tl 1,tl 2,tl 3,tl 4,tl 5,tl 6,tl 7,tl 8] (.act 9 .fin .non)) T.mixed ?_
     simp (disch:=omega) only [go_sem,↓cB,s1,s2,s3,s4,s9,s10,s11,sd,d0,d7,d17]
     refine A7 (Sn am2.m.order.hg (by omega) (by omega) hst.1 (by omega)) ?_
     rintro v H3 ⟨rfl,f3,os3,pl3,g3,hp3⟩
     have hf3:Fr [k.ho,k.hb,k.hp,k.ha] H2 H3:=f3.mono (fun b _ hb=>by simp only [J7] at hb ⊢; exact .inr hb)
     have m3:=am2.m.xi g3 hf3
     have e3:Ex H2 ow H3 ow:=Ex.of (R:=fun r=>11<=r/\r<=14) (Sm.of hf3 (by
      intro b hb;have q1:=am2.m.order.o1; have q2:=am2.m.order.o2; have q3:=am2.m.order.o3; have q4:=am2.m.order.o4;simp only [J7,Z6,Ya] at hb;rcases hb with rfl | rfl | rfl | rfl <;> omega)) (by omega)
     have am3:=am2.step (sv:=up1 A.seen (y / 2) true) m3 e3 ⟨sn.set (y / 2) true,m,os3,pl3,_,rfl,fun v=>(hp3 v).trans (hpl v)⟩ am2.seen
     have q0:A5 H3 ⟨xs,0,none⟩=some (sp p):=am3.bs.cell 0
     have qh:A5 H3 ⟨xh,0,none⟩=some (iv f.st.length):=am3.bh.cell 0
     have q10:A5 H3 ⟨p,10,none⟩=some (sl k.bl (n + 1)):=am3.m.c 10
     have qlv:=am3.m.tn ⟨hr.vals,hr.lv⟩ hj
     rw [Av] at qlv
     simp (disch:=omega) only [go_sem,↓cB,s1,s2,s3,s4,s9,s10,s11,sd]
     refine As (lk [tl 0,tl 1,tl 2,tl 3,tl 4,tl 5,tl 6,tl 7,tl 8] .fin) T.mixed ?_
     simp (disch:=omega) only [go_sem,↓cB,s1,s2,s3,s4,s9,s10,s11,sd,q0,qh,q10,qlv]
     refine Ba (fun hb=>?_) (fun hb=>?_)
     ·have hlh:lev f.st j=f.st.length:=by exact_mod_cast hb
      have hm:C8 f.s f.st.length A y=⟨up1 A.seen (y / 2) true,A.opn + 1,A.r⟩:=by unfold C8; rw [J4 hc,J8 (by rw [hlv]; exact hlh)]
      have qo:A5 H3 ⟨xo,0,none⟩=some (iv A.opn):=am3.bo.cell 0
      obtain ⟨H4,w4,am4⟩:=am3.opn (A.opn + 1)
      have hio:(A.opn:Int) + 1=((A.opn + 1:Nat):Int):=by omega
      simp (disch:=omega) only [go_sem,↓cB,s1,s2,s3,s4,s9,s10,s11,sd,qo,hio,w4]
      exact fin ⟨l.length - (i + 1),by omega,i + 1,_,rv',rfl,by omega,by simp (disch:=omega) only [go_sem,↓cB,s1,s2,s3,s4,s9,s10,s11,sd,hi1],by rw [hstep,hm]; exact am4,by rw [hstep,hm]; show A.opn + 1<=_; omega,by rw [hstep,hm]; show A.r.length<=_; omega⟩
     ·have hlh:lev f.st j ≠ f.st.length:=fun e=>hb (by exact_mod_cast e)
      have hm:C8 f.s f.st.length A y=⟨up1 A.seen (y / 2) true,A.opn,A.r ++ [y]⟩:=by unfold C8; rw [J4 hc,J4 (by rw [hlv]; exact hlh)]
      have qr:A5 H3 ⟨xr,0,none⟩=some rv':=am3.br.cell 0
      simp (disch:=omega) only [go_sem,↓cB,s1,s2,s3,s4,s9,s10,s11,sd,qr]
      refine AK T.zk rfl am3.vr rfl (by rw [Am]; show (2 * (A.r.length + 1 + 1) + 200) * _<=_; omega) ?_
      intro v' H4 g1 g2 g3 g4
      obtain ⟨a',c',rfl⟩:=g4
      obtain ⟨H5,w5,am5⟩:=am3.app (x:=y) g1 g2 g3
      simp (disch:=omega) only [go_sem,↓cB,s1,s2,s3,s4,s9,s10,s11,sd,w5]
      exact fin ⟨l.length - (i + 1),by omega,i + 1,_,_,rfl,by omega,by simp (disch:=omega) only [go_sem,↓cB,s1,s2,s3,s4,s9,s10,s11,sd,hi1],by rw [hstep,hm]; exact am5,by rw [hstep,hm]; show A.opn<=_; omega,by rw [hstep,hm]; show (A.r ++ [y]).length<=_; simp; omega⟩
end
end Go.Proofs.YtkdlmdmlomgdiaaGreat
namespace Go.Dfr
open Go.HL
variable {H:A3} {P:Program}
def G9 (P:Program) (g:FuncId) (args:Array Value) (H:A3) (R:A3->Prop):Prop :=
 ∀ (w:World),w.heap=H->CallsD P g args .returning w fun e u' w'=>u'=.returning/\HL.Rest w w'/\(∃ v,e=.returned v)/\R w'.heap
theorem Kg {g:FuncId} {fn:Func} {c:Code} {args:Array Value} {R:A3->Prop}
  (hf:P.funcs[g]?=some fn) (hb:fn.body=some c) (hs:args.size<=fn.ntmps)
  (h:CW fn.ntmps P c (PG P fn (fun _ H=>R H) (fun _ _=>False)) (B2 args) H):G9 P g args H R:=by
 intro w hw
 refine CallsD.mono (callsD_of_wp (R:=fun e w'=>HL.Rest w w'/\(∃ v,e=.returned v)/\R w'.heap) hf hb ?_) fun e u' w' ⟨h1,h2⟩=>⟨h1,h2⟩
 refine wp_mono (h w w _ (Rest.refl w) hw ⟨?_,fun t=>?_,rfl⟩) ?_
 ·simp; omega
 ·simp only [B2]
  rw [Jn,Jn,X0]
  split
  ·rfl
  ·rename_i ht
   rw [Z5 (xs:=args) (by omega),Yo]
   split <;> rfl
 ·rintro e a' w' ⟨hr,U',ha',hx⟩
  cases e with
  | normal =>
   obtain ⟨hd,v,hv,hR⟩:=hx;exact ⟨ha'.2.2.trans hd,v,by rw [DD ha']; exact Bo P _ w' v hv,hr,⟨v,rfl⟩,hR⟩
  | ret =>
   obtain ⟨hd,v,hv,hR⟩:=hx;exact ⟨ha'.2.2.trans hd,v,by rw [DD ha']; exact Bo P _ w' v hv,hr,⟨v,rfl⟩,hR⟩
  | panic ch=>exact hx.2.elim
  | _=>exact hx.elim
def Gm (P:Program) (rs:List ResultVar) (R:Value->A3->Prop):Exit->En->A3->Prop
 | .normal,U,H | .ret,U,H=>∃ g cap xs fng,U.ds = [⟨.fn (.func g) cap,xs⟩]/\P.funcs[g]?=some fng/\fng.body.isSome=true/\(fng.name == "runtime.NumGoroutine")=false /\
   G9 P g (xs ++ cap) H fun H'=>Cr P U H' rs fun vs=>R (FG vs) H'
 | _,_,_=>False
theorem VX {fn:Func} {rs:List ResultVar} {R:Value->A3->Prop} {U:En} (hr:fn.results=rs.toArray) (h:Cr P U H rs fun vs=>R (FG vs) H):∃ v,Ac P (Og fn U) H=some v/\R v H:=by
 have:=D0 (P:=P) (R:=R) (E:=fun _ _=>False) hr .normal { U with ds:=[] } H ⟨rfl,by
  have key:∀ (rs:List ResultVar) (k:List Value->Prop),Cr P U H rs k->Cr P { U with ds:=[] } H rs k:=by
   intro rs;induction rs with
   | nil=>intro k h; exact h
   | cons r rs ih =>
    intro k h;cases r with
    | tmp t=>exact ih _ h
    | cell a t =>
     unfold Cr at h ⊢;unfold GJ at h ⊢;show (match U.get a with | .pointer (some ad)=>_ | _=>_);split at h
     ·rename_i ad ha;simp only [ha];rw [Aq] at h ⊢;obtain ⟨v,h1,h2⟩:=h;exact ⟨v,h1,ih _ h2⟩
     ·exact h.elim
  exact key rs _ h⟩
 obtain ⟨_,v,h1,h2⟩:=this;exact ⟨v,h1,h2⟩
theorem I1 {f:FuncId} {fn:Func} {c:Code} {args:List Value} {rs:List ResultVar} {n:Nat} {R:Value->A3->Prop}
  (hf:P.funcs[f]?=some fn) (hb:fn.body=some c) (hn:fn.ntmps=n) (hr:fn.results=rs.toArray) (hm:(fn.name == "runtime.NumGoroutine")=false)
  (hs:decide (args.length<=n)=true)
  (h:CW n P c (Gm P rs R) (B2 args.toArray) H):CallF P f args H R NoP:=by
 unfold CallF callFunc
 rw [Az]
 show hwp P (match P.funcs[f]? with | none=>_ | some fn=>_) H _ _
 rw [hf]
 simp only [hm,Z7,Z3,hb,X8]
 show HCalls P f args.toArray H R NoP
 subst hn
 intro w hw
 refine calls_of_wp_defers hf hb ?_
 refine wp_mono (h w w _ (Rest.refl w) hw ⟨?_,fun t=>?_,rfl⟩) ?_
 ·have:=Xn hs; simp; omega
 ·simp only [B2]
  rw [Jn,Jn,X0]
  split
  ·rfl
  ·rename_i ht
   rw [Z5 (xs:=args.toArray) (by omega),Yo]
   split <;> rfl
 ·have key:∀ (a':Act) (w':World) (U':En),HL.Rest w w'->Ag fn.ntmps a' U'->Gm P rs R .ret U' w'.heap->Leaves P fn a'.tmps (fun e w'=>HL.Rest w w'/\match e with
    | .returned v=>R v w'.heap
    | .panicked c=>NoP c w'.heap
    | .outgrown=>False) a'.defers .returning w':=by
   rintro a' w' U' hrest ha' ⟨g,cap,xs,fng,hd,hfg,hbg,hng,hcall⟩
   rw [ha'.2.2,hd]
   refine ⟨by simp,.func g,cap,g,xs ++ cap,rfl,?_,(hcall w' rfl).mono ?_⟩
   ·have:Ac P (invoke (.fn (.func g) cap) xs) w'.heap=some (.enter g (xs ++ cap)):=by
     show Ac P (callFunc g (xs ++ cap)) w'.heap=_;unfold callFunc;rw [A4];show Ac P (match P.funcs[g]? with | none=>_ | some fn=>_) _=_;rw [hfg];cases hb':fng.body with
     | none=>rw [hb'] at hbg; cases hbg
     | some c'=>simp only [hng,Z7,Z3,hb',X8]; rfl
    exact Bo P _ w' _ this
   ·rintro e u' w'' ⟨rfl,hr1,⟨v,rfl⟩,hR⟩
    obtain ⟨v',hv',hR'⟩:=VX hr hR
    exact ⟨v',by rw [DD ha']; exact Bo P _ w'' v' hv',hrest.trans hr1,hR'⟩
  rintro e a' w' ⟨hrest,U',ha',hx⟩
  cases e with
  | normal=>exact key a' w' U' hrest ha' hx
  | ret=>exact key a' w' U' hrest ha' hx
  | _=>exact hx.elim
def j36 (f:Operand) (args:Array Operand) (Q:Exit->En->A3->Prop) (U:En) (H:A3):Prop :=
 ∃ g,U.ev f=.func (.func g) #[] #[]/\Q .normal { U with ds:=⟨.fn (.func g) #[],args.map U.ev⟩ :: U.ds } H
def Hu (n:Nat) (P:Program) (ops:Array Oper) (f:Operand) (args:Array Operand) (Q:Exit->En->A3->Prop):List Oper->En->A3->Prop
 | [],U,H=>j36 f args Q U H
 | o :: rest,U,H=>opG n P ops o U H (Hu n P ops f args Q rest) Q
theorem LX {n:Nat} {ops:Array Oper} {f:Operand} {args:Array Operand} {Q:Exit->En->A3->Prop} {w0:World} {ats:Array TypeId} {ty:TypeId} {pos:String} {aft:Array Edge} :
  ∀ (l:List Nat) (ol:List Oper),l.map (ops[·]?)=(ol ++ [(⟨none,.defer ⟨.value f,args,ats⟩,ty,pos,aft,none⟩:Oper)]).map some->∀ (U:En) (w:World) (a:Act),HL.Rest w0 w->Ag n a U->Hu n P ops f args Q ol U w.heap ->
   wpOps P ops (upQ n w0 Q) l a w:=by
 intro l
 induction l with
 | nil=>intro ol hol; simp at hol
 | cons i l ih =>
  intro ol hol U w a h0 ha h;cases ol with
  | nil =>
   simp only [X1,Jz,V8,Zh,Yi] at hol;obtain ⟨ho,hl⟩:=hol;subst hl;rw [wpOps_cons];unfold wpOp;rw [ho];simp only;have hw:Region.wanted (⟨none,.defer ⟨.value f,args,ats⟩,ty,pos,aft,none⟩:Oper) (yielded ops a.tmps)=true:=rfl;rw [J8 hw];left;obtain ⟨g,hg,hQ⟩:=h;have hx:Ac P (execOp U.ev ⟨none,.defer ⟨.value f,args,ats⟩,ty,pos,aft,none⟩) w.heap=some (.defer ⟨.fn (.func g) #[],args.map U.ev⟩):=by
    show Ac P (do pure (Next.defer (<- Deferred.ofValue (U.ev f) (args.map U.ev)))) w.heap=_;rw [hg,A4];have:Ac P (Deferred.ofValue (.func (.func g) #[] #[]) (args.map U.ev)) w.heap=some ⟨.fn (.func g) #[],args.map U.ev⟩:=by
     show Ac P (pure (Deferred.mk (.fn (.func g) #[]) (#[] ++ args.map U.ev))) w.heap=_;rw [Array.empty_append];rfl
    rw [this];rfl
   have hop:Cn n P ⟨none,.defer ⟨.value f,args,ats⟩,ty,pos,aft,none⟩ U w.heap (fun U H=>Q .normal U H) Q:=Df P _ _ _ _ _ hx hQ;exact El h0 ha hop
  | cons o ol =>
   simp only [Xw,Jz,Zh] at hol;obtain ⟨ho,hol⟩:=hol;rw [wpOps_cons];unfold wpOp;rw [ho];have h':=E5 h0 ha h;simp only;split
   ·rename_i hw;rw [J8 hw] at h';exact h'.imp (Oper.wp_mono (fun a' w' ⟨hr,U',ha',hk⟩=>ih ol hol U' w' a' hr ha' hk)) id
   ·rename_i hw;rw [J4 hw] at h';obtain ⟨hr,U',ha',hk⟩:=h';exact ih ol hol U' w _ hr ha' hk
theorem Oh {n id:Nat} {ops:Array Oper} {f:Operand} {args:Array Operand} {Q:Exit->En->A3->Prop} {U:En} {ats:Array TypeId} {ty:TypeId} {pos:String} {aft:Array Edge} (l0:List Oper)
  (hops:ops.toList=l0 ++ [(⟨none,.defer ⟨.value f,args,ats⟩,ty,pos,aft,none⟩:Oper)]) (h:Hu n P ops f args Q l0 U H):CW n P (.region id ops false) Q U H:=by
 intro w0 w a h0 hw ha
 subst hw
 refine wp_region (LX (ats:=ats) (ty:=ty) (pos:=pos) (aft:=aft) _ l0 ?_ U w a h0 ha h)
 rw [<- hops]
 apply Y9
 intro i
 simp only [Z0]
 by_cases hi:i < ops.size
 ·simp [hi]
 ·simp [hi]
theorem CW.gv {n:Nat} {x y:Code} {Q:Exit->En->A3->Prop} {U:En} (h:CW n P x (D8 (CW n P y Q) Q) U H):CW n P (.seq x y) Q U H:=by
 intro w0 w a h0 hw ha;refine wp_seq (wp_mono (h w0 w a h0 hw ha) ?_);rintro e a' w' ⟨hr,U',ha',hx⟩;cases e with
 | normal=>exact hx w0 w' a' hr rfl ha'
 | _=>exact ⟨hr,U',ha',hx⟩
structure CallC (P:Program) (f:FuncId) (args:List Value) (H:A3) (R:Value->A3->Prop):Prop where
 ex:∃ fn c rs n,P.funcs[f]?=some fn/\fn.body=some c/\fn.ntmps=n/\fn.results=rs.toArray/\(fn.name == "runtime.NumGoroutine")=false/\decide (args.length<=n)=true/\cw n P c (MU P rs R NoP) (B2 args.toArray) H
theorem NN {f:FuncId} {fn:Func} {c:Code} {args:List Value} {rs:List ResultVar} {n:Nat} {R:Value->A3->Prop}
  (hf:P.funcs[f]?=some fn) (hb:fn.body=some c) (hn:fn.ntmps=n) (hr:fn.results=rs.toArray) (hm:(fn.name == "runtime.NumGoroutine")=false)
  (hs:decide (args.length<=n)=true)
  (h:cw n P c (MU P rs R NoP) (B2 args.toArray) H):CallC P f args H R:=⟨fn,c,rs,n,hf,hb,hn,hr,hm,hs,h⟩
theorem CallC.je {f:FuncId} {args:List Value} {R:Value->A3->Prop} (h:CallC P f args H R):CallF P f args H R NoP:=by
 obtain ⟨fn,c,rs,n,hf,hb,hn,hr,hm,hs,h⟩:=h.ex;exact A9 hf hb hn hr hm hs h
theorem CallC.da {f:FuncId} {args:List Value} {R:Value->A3->Prop} (h:CallC P f args H R):G9 P f args.toArray H fun H'=>∃ v,R v H':=by
 obtain ⟨fn,c,rs,n,hf,hb,hn,hr,hm,hs,h⟩:=h.ex;subst hn;refine Kg hf hb (by simpa using hs) (CW.mono (fun e U H hx=>?_) (CW.mono (D0 hr) (Fe c _ _ _ h)));cases e with
 | normal=>obtain ⟨h1,v,h2,h3⟩:=hx; exact ⟨h1,v,h2,v,h3⟩
 | ret=>obtain ⟨h1,v,h2,h3⟩:=hx; exact ⟨h1,v,h2,v,h3⟩
 | panic ch=>exact hx.2.elim
 | _=>exact hx.elim
theorem Fp {U:En}:∀ (rs:List ResultVar) (k k':List Value->Prop),(∀ vs,k vs->k' vs)->Cr P U H rs k->Cr P U H rs k'
 | [],k,k',hk,h=>hk _ h
 | .tmp t :: rs,k,k',hk,h=>Fp rs _ _ (fun vs=>hk _) h
 | .cell a t :: rs,k,k',hk,h=>by
  unfold Cr at h ⊢;unfold GJ at h ⊢;split at h
  ·rename_i ad ha;simp only [Aq] at h ⊢;obtain ⟨v,h1,h2⟩:=h;exact ⟨v,h1,Fp rs _ _ (fun vs=>hk _) h2⟩
  ·exact h.elim
theorem CallC.mono {f:FuncId} {args:List Value} {R R':Value->A3->Prop} (h:CallC P f args H R) (hR:∀ v H',R v H'->R' v H'):CallC P f args H R':=by
 obtain ⟨fn,c,rs,n,hf,hb,hn,hr,hm,hs,h⟩:=h.ex;refine ⟨fn,c,rs,n,hf,hb,hn,hr,hm,hs,Px c (fun e U H' hx=>?_) h⟩;cases e with
 | normal=>exact ⟨hx.1,Fp rs _ _ (fun vs=>hR _ _) hx.2⟩
 | ret=>exact ⟨hx.1,Fp rs _ _ (fun vs=>hR _ _) hx.2⟩
 | panic ch=>exact hx
 | _=>exact hx
end Go.Dfr
namespace Go.Proofs.YtkdlmdmlomgdiaaGreat
open Go.HL HM Go.Sat
def Lq (rea:Nat->Option Nat) (l:List Nat):Nat->Option Nat:=fun v=>if v ∈ l.map (· / 2) then none else rea v
theorem QN {rea:Nat->Option Nat}:Lq rea []=rea:=by funext v; simp [Lq]
theorem QO {rea:Nat->Option Nat} {l:List Nat} {x:Nat}:Lq rea (l ++ [x])=upd (Lq rea l) (x / 2) none:=by
 funext v;unfold Lq upd;by_cases h:v=x / 2
 ·subst h; simp
 ·simp [h]
theorem OY {vs:List Int} {l:List Nat} {x:Nat}:zap vs (l ++ [x])=((zap vs l).set x 0).set (neg x) 0:=by simp [zap]
section
variable {H:A3} {ow:Nat->Nat} {p n:Nat} {k:Bk} {f:Cf}
theorem VR.take {r e:Nat} {a:Option Addr} {m cap:Nat} {vs:List Value} (h:VR H ow r e 1 (.slice a m cap) vs) {j:Nat} (hj:j<=m):VR H ow r e 1 (.slice a j cap) (vs.take j):=by
 rcases h.vec.ex with ⟨e1,e2⟩ | ⟨b,len,cap',pre,rest,e1,hb,h2,h3,h4⟩
 ·simp only [Value.slice.injEq] at e1;obtain ⟨rfl,rfl,rfl⟩:=e1;have:j=0:=(by omega);subst this e2;exact VR.nil
 ·simp only [Value.slice.injEq] at e1;obtain ⟨rfl,rfl,rfl⟩:=e1;rw [Jy] at h2 h3;refine ⟨⟨.inr ⟨b,j,cap,pre,vs.drop j ++ rest,rfl,?_,by simp; omega,by simp; omega,by omega⟩⟩,h.ow⟩;have:pre ++ vs.take j ++ (vs.drop j ++ rest)=pre ++ vs ++ rest:=by
   rw [Je,<- Je (vs.take j),Zn,Je]
  rw [this]; exact hb
theorem IC {l:List Nat} {j:Nat}:nv (l.take j)=(nv l).take j:=by simp [nv,List.map_take]
def Cf.qc (f:Cf):=(f.key,f.w,f.ws,f.lits,f.lb,f.l2)
theorem P9 (h:RM H ow p n k f) (hr:Rl n f) (hi:Inv n f.s) (hn:n<=1000) {L:Nat} (hL:L < f.st.length) :
  Go.Dfr.CallC Tryz.prog 59 [sp p,iv L] H (fun v H'=>v=.tuple #[]/\∃ f',RM H' ow p n k f'/\Rl n f'/\Ex H ow H' ow/\f'.s=f.s.cut L f.st[L]/\f'.head=f.st[L]/\f'.qc=f.qc /\
   ∀ v,(nt f'.pl v = -1↔nt f.pl v = -1/\v ∉ (f.tr.drop f.st[L]).map (· / 2))):=by
 obtain ⟨from',hfr⟩:∃ q,q=f.st[L]:=⟨_,rfl⟩
 rw [<- hfr]
 have hfl:from'<=f.tr.length:=by rw [hfr]; exact hi.bound _ (Y0 hL)
 have htn:f.tr.length<=n:=hi.ok.len
 have hstL:f.st[L]?=some from':=by rw [J1 hL,hfr]
 obtain ⟨sb,so,sc,es,-,ks⟩:=h.starts.cell (Bu hstL)
 rw [Am] at es
 obtain ⟨ta,tc,et⟩:=h.trail.form
 rw [Am] at et
 have htc:f.tr.length<=tc:=by
  rcases h.trail.vec.ex with ⟨e,e2⟩ | ⟨b',len,cap',pre,rest,e,_,_,_,hle⟩
  ·rw [et] at e; simp only [Value.slice.injEq] at e; omega
  ·rw [et] at e; simp only [Value.slice.injEq] at e; omega
 have hsc:f.st.length<=sc:=by
  rcases h.starts.vec.ex with ⟨e,e2⟩ | ⟨b',len,cap',pre,rest,e,_,_,_,hle⟩
  ·rw [es] at e; simp only [Value.slice.injEq] at e; omega
  ·rw [es] at e; simp only [Value.slice.injEq] at e; omega
 have c15:A5 H ⟨p,15,none⟩=some (.slice (some ⟨sb,so,none⟩) f.st.length sc):=by rw [<- es]; exact h.c 15
 have c14:A5 H ⟨p,14,none⟩=some (.slice ta f.tr.length tc):=by rw [<- et]; exact h.c 14
 refine Go.Dfr.NN Tryz.func59 rfl Tryz.ntmps59 Tryz.results59 (by decide) rfl ?_
 simp (disch:=omega) only [go_sem,↓cB,c15,ks,c14]
 refine Ae (fun j U H1=>∃ (i m:Nat) (os pl ac:List Int),j=f.tr.length - from' - i/\i<=f.tr.length - from' /\
  (U.get 0=sp p/\U.get 1=iv L/\U.get 4=iv from'/\U.get 26=.slice (if tc=from' then ta else ta.map (·.add from')) (f.tr.length - from') (tc - from')/\U.get 27=iv ((f.tr.length - from':Nat):Int)/\U.get 28=iv i/\U.ds = []) /\
  RM H1 ow p n k (((f.xd (zap f.vals ((f.tr.drop from').take i))).ux (Lq f.rea ((f.tr.drop from').take i))).zj m os pl ac)/\Ex H ow H1 ow /\
  ∀ v,(nt pl v = -1↔nt f.pl v = -1/\v ∉ ((f.tr.drop from').take i).map (· / 2))) (k:=f.tr.length - from') ?_ ?_
 ·refine ⟨0,f.m,f.os,f.pl,f.ac,rfl,by omega,by simp (disch:=omega) only [go_sem,↓cB],?_,Ex.refl,fun v=>by simp⟩
  have:Lq f.rea ((f.tr.drop from').take 0)=f.rea:=QN
  rw [this]
  exact h
 ·rintro _ U H1 ⟨i,m,os,pl,ac,rfl,hil,⟨r0,r1,r4,r26,r27,r28,rd⟩,m1,e1,hpl⟩
  by_cases hie:i=f.tr.length - from'
  ·subst hie
   have htk:(f.tr.drop from').take (f.tr.length - from')=f.tr.drop from':=Yg (by simp)
   rw [htk] at m1 hpl
   have d14:A5 H1 ⟨p,14,none⟩=some (.slice ta f.tr.length tc):=by rw [<- et]; exact m1.c 14
   have hv:=m1.trail
   have hv':VR H1 ow 8 3 1 (.slice ta from' tc) (nv (f.tr.take from')):=by
    rw [IC];have hv2:VR H1 ow 8 3 1 (.slice ta f.tr.length tc) (nv f.tr):=(by rw [<- et]; exact hv);exact hv2.take hfl
   obtain ⟨H2,w2,m2,e2⟩:=m1.qp hv'
   have d15:A5 H2 ⟨p,15,none⟩=some (.slice (some ⟨sb,so,none⟩) f.st.length sc):=by rw [<- es]; exact m2.c 15
   have hu:VR H2 ow 9 3 1 (.slice (some ⟨sb,so,none⟩) L sc) (nv (f.st.take L)):=by
    rw [IC];have hv2:VR H2 ow 9 3 1 (.slice (some ⟨sb,so,none⟩) f.st.length sc) (nv f.st):=(by rw [<- es]; exact m2.starts);exact hv2.take (by omega)
   obtain ⟨H3,w3,m3,e3⟩:=m2.rq hu
   obtain ⟨H4,w4,m4,e4⟩:=m3.xk from'
   simp (disch:=omega) only [go_sem,↓cB,r0,r1,r4,r26,r27,r28,rd,d14,w2,d15,w3,w4]
   refine fin ⟨rfl,_,m4,⟨?_,?_⟩,e1.trans ((e2.trans e3).trans e4),?_,rfl,rfl,hpl⟩
   ·show zap f.vals (f.tr.drop from')=(f.s.cut L from').vals n
    rw [hr.vals,Mz hi]; rfl
   ·intro j y hy
    have hy':(f.tr.take from')[j]?=some y:=hy
    obtain ⟨hy2,hj⟩:=Cg hy'
    show f.lvls[y / 2]?=some (lev (f.st.take L) j)
    have hlt:lev (f.st.take L) j=lev f.st j:=Dd hi.sorted hL (by show j < f.st[L]; rw [<- hfr]; exact hj)
    rw [hlt]
    exact hr.lv j y hy2
   ·rfl
  ·obtain ⟨x,hx⟩:∃ x,f.tr[from' + i]?=some x:=⟨_,J1 (by omega)⟩
   have hxc:isC n x:=hi.ok.code x (J2 hx)
   obtain ⟨x1,x2,x3,x4⟩:=AP hxc
   have hxd:(f.tr.drop from').take (i + 1)=(f.tr.drop from').take i ++ [x]:=by
    rw [Jl,Y7,hx]; rfl
   obtain ⟨tb,to,tc',e,-,kx⟩:=m1.trail.cell (Bu hx)
   rw [Am] at e
   have e':f.trail=_:=e
   rw [et] at e'
   simp only [Value.slice.injEq,true_and] at e'
   obtain ⟨rfl,rfl⟩:=e'
   have hne:¬ tc=from':=by omega
   rw [J4 hne] at r26
   have c9:A5 H1 ⟨p,9,none⟩=some (sl k.bv (2 * n + 2)):=m1.c 9
   have ex:=fun V t xo yo=>Di (V:=V) (t:=t) (xo:=xo) (yo:=yo) (n:=x) (by omega)
   have hh:=Gg x
   have hi1:(i:Int) + 1=((i + 1:Nat):Int):=by omega
   obtain ⟨H2,w2,m2,e2⟩:=m1.yn (x:=x) x1 0
   obtain ⟨H3,w3,m3,e3⟩:=m2.yn (x:=neg x) x2 0
   have c11:A5 H3 ⟨p,11,none⟩=some (sl k.br (n + 1)):=m3.c 11
   obtain ⟨H4,w4,m4,e4⟩:=m3.xz (x:=x / 2) x3 none
   have c7:A5 H4 ⟨p,7,none⟩=some (pv k.ho):=m4.c 7
   have m4':RM H4 ow p n k (((f.xd (zap f.vals ((f.tr.drop from').take (i + 1)))).ux (Lq f.rea ((f.tr.drop from').take (i + 1)))).zj m os pl ac):=by
    rw [hxd,OY,QO]; exact m4
   have w4':wr H3 ⟨k.br,x / 2,none⟩ (.pointer none)=some H4:=w4
   have r26':U.get 26=.slice (some ⟨tb,to + from',none⟩) (f.tr.length - from') (tc - from'):=by rw [r26]; simp only [Ju,AS]
   rw [<- Zs] at kx
   have fine:∀ (H5:A3) (m':Nat) (os' pl' ac':List Int),HG H5 k.ho k.hb k.hp k.ha n m' os' pl' ac'->Fr [k.ho,k.hb,k.hp,k.ha] H4 H5->(∀ v,(nt pl' v = -1↔nt pl v = -1/\v ≠ x / 2)) ->
     RM H5 ow p n k (((f.xd (zap f.vals ((f.tr.drop from').take (i + 1)))).ux (Lq f.rea ((f.tr.drop from').take (i + 1)))).zj m' os' pl' ac')/\Ex H ow H5 ow/\∀ v,(nt pl' v = -1↔nt f.pl v = -1/\v ∉ ((f.tr.drop from').take (i + 1)).map (· / 2)):=by
    intro H5 m' os' pl' ac' hg hf hp5
    have m5:=m4'.xi hg hf
    have e5:Ex H4 ow H5 ow:=Ex.of (R:=fun r=>11<=r/\r<=14) (Sm.of hf (by
     intro b hb;have q1:=m4'.order.o1; have q2:=m4'.order.o2; have q3:=m4'.order.o3; have q4:=m4'.order.o4;simp only [J7,Z6,Ya] at hb;rcases hb with rfl | rfl | rfl | rfl <;> omega)) (by omega)
    refine ⟨m5,e1.trans ((e2.trans e3).trans (e4.trans e5)),fun v=>?_⟩
    rw [hp5,hpl,hxd]
    simp only [Zf,Jz,V8,Jh,J6,V1,and_assoc]
   simp (disch:=omega) only [go_sem,↓cB,r0,r1,r4,r26',r27,r28,rd,kx]
   refine As (lk [tl 0,tl 1,tl 2,tl 3,tl 4,tl 5,tl 6,tl 7,tl 8,fl 9,fl 10,tl 11] (.act 12 (lk [tl 13] (.actd 14 .fin)) .non)) T.mixed ?_
   simp (disch:=omega) only [go_sem,↓cB,r0,r1,r4,r26',r27,r28,rd,c9,ex,w2,w3,hh,c11,w4',c7]
   by_cases hin:nt pl (x / 2) = -1
   ·refine A7 (Tq m4'.order.hg (by omega) (by omega) hin) ?_
    rintro v H5 ⟨rfl,hf5,os5,pl5,hg5,hp5⟩
    obtain ⟨q1,q2,q3⟩:=fine H5 _ os5 pl5 ac hg5 (hf5.mono (fun b _ hb=>by simp only [J7,Z6,Ya] at hb ⊢; rcases hb with h1 | h1 | h1 <;> simp [h1])) hp5
    simp (disch:=omega) only [go_sem,↓cB,r0,r1,r4,r26',r27,r28,rd]
    exact fin ⟨f.tr.length - from' - (i + 1),by omega,i + 1,_,_,_,_,rfl,by omega,by simp (disch:=omega) only [go_sem,↓cB,r0,r1,r4,r26',r27,r28,rd,hi1,Ju,AS,hne,Z3],q1,q2,q3⟩
   ·refine A7 (WD m4'.order.hg (v:=((x / 2:Nat):Int)) (by rintro ⟨_,_,h3⟩; exact hin h3)) ?_
    rintro v H5 ⟨rfl,rfl⟩
    obtain ⟨q1,q2,q3⟩:=fine H4 _ os pl ac m4'.order.hg (Fr.refl _ _) (fun v=>⟨fun h1=>⟨h1,fun e=>hin (e ▸ h1)⟩,fun h1=>h1.1⟩)
    simp (disch:=omega) only [go_sem,↓cB,r0,r1,r4,r26',r27,r28,rd]
    exact fin ⟨f.tr.length - from' - (i + 1),by omega,i + 1,_,_,_,_,rfl,by omega,by simp (disch:=omega) only [go_sem,↓cB,r0,r1,r4,r26',r27,r28,rd,hi1,Ju,AS,hne,Z3],q1,q2,q3⟩
theorem Q2 (h:RM H ow p n k f) {L:Nat} (hL:f.st.length<=L):Go.Dfr.CallC Tryz.prog 59 [sp p,iv L] H (fun v H'=>v=.tuple #[]/\H'=H):=by
 obtain ⟨sa,sc,es⟩:=h.starts.form;rw [Am] at es;have c15:A5 H ⟨p,15,none⟩=some (.slice sa f.st.length sc):=(by rw [<- es]; exact h.c 15);refine Go.Dfr.NN Tryz.func59 rfl Tryz.ntmps59 Tryz.results59 (by decide) rfl ?_;simp (disch:=omega) only [go_sem,↓cB,c15];exact fin ⟨rfl,rfl⟩
theorem Oe (h:RM H ow p n k f) (hr:Rl n f) (hi:Inv n f.s) (hn:n<=1000) {L:Nat} (hL:L < f.st.length) :
  CallF Tryz.prog 59 [sp p,iv L] H (fun v H'=>v=.tuple #[]/\∃ f',RM H' ow p n k f'/\Rl n f'/\Ex H ow H' ow/\f'.s=f.s.cut L f.st[L]/\f'.head=f.st[L]/\f'.qc=f.qc /\
   ∀ v,(nt f'.pl v = -1↔nt f.pl v = -1/\v ∉ (f.tr.drop f.st[L]).map (· / 2))) NoP:=(P9 h hr hi hn hL).je
theorem JA (h:RM H ow p n k f) (hs:1024<=f.step/\f.step<=1099511627776) :
  CallF Tryz.prog 124 [sp p] H (fun v H'=>v=.tuple #[]/\∃ st' m os pl ac,RM H' ow p n k ((f.uw st').zj m os pl ac)/\Ex H ow H' ow/\(1024<=st'/\st'<=1099511627776)/\∀ v,(nt pl v = -1↔nt f.pl v = -1)) NoP:=by
 have c17:A5 H ⟨p,17,none⟩=some (iv f.step):=h.c 17
 obtain ⟨s2,hs2⟩:∃ s2,s2=f.step + f.step / 16:=⟨_,rfl⟩
 obtain ⟨H2,w2,m2,e2⟩:=h.sr s2
 have d17:A5 H2 ⟨p,17,none⟩=some (iv s2):=m2.c 17
 refine A9 Tryz.func124 rfl Tryz.ntmps124 Tryz.results124 (by decide) rfl ?_
 refine As (lk [tl 0,tl 1,tl 2,tl 3,tl 4,tl 5,tl 6,tl 7,tl 8,tl 9,tl 10,tl 11] (.act 12 .fin .non)) T.mixed ?_
 have hq:f.step.fdiv (2 ^ min 4 64)=f.step / 16:=Int.fdiv_eq_ediv_of_nonneg _ (by decide)
 simp (disch:=omega) only [go_sem,↓cB,c17,hq,<- hs2]
 simp (disch:=omega) only [go_sem,↓cB,w2,d17]
 refine Ba (fun hb=>?_) (fun hb=>?_)
 ·have d7:A5 H2 ⟨p,7,none⟩=some (pv k.ho):=m2.c 7
  simp (disch:=omega) only [go_sem,↓cB,d7]
  refine A7 (OF m2.order.hg) ?_
  rintro v H3 ⟨rfl,hf3,os3,pl3,hg3,hp3⟩
  have hf:Fr [k.ho,k.hb,k.hp,k.ha] H2 H3:=hf3.mono (fun b _ hb=>by simp only [J7] at hb ⊢; exact .inr hb)
  have m3:=m2.xi hg3 hf
  have e3:Ex H2 ow H3 ow:=Ex.of (R:=fun r=>11<=r/\r<=14) (Sm.of hf (by
   intro b hb;have q1:=m2.order.o1; have q2:=m2.order.o2; have q3:=m2.order.o3; have q4:=m2.order.o4;simp only [J7,Z6,Ya] at hb;rcases hb with rfl | rfl | rfl | rfl <;> omega)) (by omega)
  have q17:A5 H3 ⟨p,17,none⟩=some (iv s2):=m3.c 17
  have hq2:s2.fdiv (2 ^ min 1 64)=s2 / 2:=Int.fdiv_eq_ediv_of_nonneg _ (by decide)
  obtain ⟨H4,w4,m4,e4⟩:=m3.sr (s2 / 2)
  simp (disch:=omega) only [go_sem,↓cB,q17,hq2,w4]
  exact fin ⟨rfl,s2 / 2,_,_,_,_,m4,e2.trans (e3.trans e4),by omega,hp3⟩
 ·simp (disch:=omega) only [go_sem,↓cB]
  exact fin ⟨rfl,s2,f.m,f.os,f.pl,f.ac,m2,e2,by omega,fun v=>Iff.rfl⟩
end
section
variable {H:A3}
def Rn (H:A3) (a:Option Addr) (xs:List Int):Prop:=∀ (i:Nat) (x:Int),xs[i]?=some x->∃ b o,a=some ⟨b,o,none⟩/\A5 H ⟨b,o + i,none⟩=some (iv x)
theorem OC {g c:Nat} {cap:List Value} {a:Option Addr} {xs:List Int} {P:Int->Bool} (hc:Rn H a xs) (hlen:xs.length<=4611686018427387904)
  (hf:∀ x ∈ xs,CallF Tryz.prog g (iv x :: cap) H (fun v H'=>v=.bool (P x)/\H'=H) NoP) :
  CallF Tryz.prog 113 [.slice a xs.length c,.func (.func g) #[] cap.toArray] H (fun v H'=>H'=H/\∃ j:Int,v=iv j/\(0<=j↔xs.any P=true)) NoP:=by
 refine A9 Tryz.func113 rfl Tryz.ntmps113 Tryz.results113 (by decide) rfl ?_
 simp (disch:=omega) only [go_sem,↓cB]
 refine Ae (fun k U H1=>∃ i:Nat,k=xs.length - i/\i<=xs.length/\(U.get 0=.slice a xs.length c/\U.get 1=.func (.func g) #[] cap.toArray/\U.get 7=iv xs.length/\U.get 8=iv i/\U.ds = [])/\H1=H/\∀ j x,j < i->xs[j]?=some x->P x=false) (k:=xs.length) ?_ ?_
 ·exact ⟨0,rfl,by omega,by simp (disch:=omega) only [go_sem,↓cB],rfl,fun j x hj=>by omega⟩
 ·rintro _ U H1 ⟨i,rfl,hi,⟨r0,r1,r7,r8,rd⟩,rfl,hall⟩
  by_cases hie:i=xs.length
  ·simp (disch:=omega) only [go_sem,↓cB,r0,r1,r7,r8,rd]
   refine fin ⟨rfl,-1,rfl,by omega,fun h=>?_⟩
   rw [List.any_eq_true] at h
   obtain ⟨x,hx,hp⟩:=h
   obtain ⟨j,hj⟩:=Jc hx
   have:=hall j x (by have:=(J3.1 hj).1; omega) hj
   rw [this] at hp; cases hp
  ·obtain ⟨x,hx⟩:∃ x,xs[i]?=some x:=⟨_,J1 (by omega)⟩
   obtain ⟨b,o,rfl,kx⟩:=hc i x hx
   have hxm:=J2 hx
   have hi1:(i:Int) + 1=((i + 1:Nat):Int):=by omega
   have cb:∀ {l:List Value} {H:A3} {R:Value->A3->Prop} {E:List PanicEntry->A3->Prop},@NO Tryz.prog (.func (.func g) #[] cap.toArray) l ⟨H⟩ ⟨R⟩ ⟨E⟩ = @O0 Tryz.prog g (l ++ cap) ⟨H⟩ ⟨R⟩ ⟨E⟩:=(rfl)
   simp (disch:=omega) only [go_sem,↓cB,r0,r1,r7,r8,rd,kx,cb]
   refine A7 (hf x hxm) ?_
   rintro v H2 ⟨rfl,rfl⟩
   simp (disch:=omega) only [go_sem,↓cB,r0,r1,r7,r8,rd]
   refine OM (fun hp=>?_) (fun hp=>?_)
   ·simp (disch:=omega) only [go_sem,↓cB,r0,r1,r7,r8,rd]
    exact fin ⟨rfl,i,rfl,fun _=>by rw [List.any_eq_true]; exact ⟨x,hxm,hp⟩,fun _=>by omega⟩
   ·simp (disch:=omega) only [go_sem,↓cB,r0,r1,r7,r8,rd]
    refine fin ⟨xs.length - (i + 1),by omega,i + 1,rfl,by omega,by simp (disch:=omega) only [go_sem,↓cB,r0,r1,r7,r8,rd,hi1],rfl,fun j y hj hy=>?_⟩
    by_cases hji:j=i
    ·subst hji; rw [hx] at hy; have:=Jj hy; subst this; exact hp
    ·exact hall j y (by omega) hy
theorem FX {g c:Nat} {cap:List Value} {a:Option Addr} {xs:List Int} {P:Int->Bool} (hc:Rn H a xs) (hlen:xs.length<=4611686018427387904)
  (hf:∀ x ∈ xs,CallF Tryz.prog g (iv x :: cap) H (fun v H'=>v=.bool (P x)/\H'=H) NoP) :
  CallF Tryz.prog 48 [.slice a xs.length c,.func (.func g) #[] cap.toArray] H (fun v H'=>H'=H/\v=.bool (xs.any P)) NoP:=by
 refine A9 Tryz.func48 rfl Tryz.ntmps48 Tryz.results48 (by decide) rfl ?_
 simp (disch:=omega) only [go_sem,↓cB]
 refine A7 (OC hc hlen hf) ?_
 rintro v H2 ⟨rfl,j,rfl,hj⟩
 simp (disch:=omega) only [go_sem,↓cB]
 refine fin ⟨rfl,?_⟩
 congr 1
 by_cases h:0<=j
 ·rw [hj.1 h]; simp [h]
 ·have:xs.any P=false:=by
   cases h2:xs.any P
   ·rfl
   ·exact absurd (hj.2 h2) h
  rw [this]; simp [h]
theorem NP {P:Program} {t e:TypeId} {xo yo:Operand} {a:Addr} {n c:Nat} (hu:P.underlying t=some (.slice e)):B0 P (AI H) .eql t xo yo (.slice (some a) n c) (.slice none 0 0)=some (.bool false):=by
 show Ac P (do eqGuard .eql t xo yo (.slice (some a) n c) (.slice none 0 0); binOp .eql t (.slice (some a) n c) (.slice none 0 0)) H=_;rw [A4];show Ac P (do pure (Value.bool (<- Op.equal t (.slice (some a) n c) (.slice none 0 0)))) H=_;have e:Ac P (Op.equal t (.slice (some a) n c) (.slice none 0 0)) H=some false:=by
  unfold Op.equal Op.maxDepth Op.equalIn;rw [A4,A6 hu,J0];rfl
 rw [A4,e];rfl
theorem NQ {P:Program} {t e:TypeId} {xo yo:Operand} {n c:Nat} (hu:P.underlying t=some (.slice e)):B0 P (AI H) .eql t xo yo (.slice none n c) (.slice none 0 0)=some (.bool true):=by
 show Ac P (do eqGuard .eql t xo yo (.slice none n c) (.slice none 0 0); binOp .eql t (.slice none n c) (.slice none 0 0)) H=_;rw [A4];show Ac P (do pure (Value.bool (<- Op.equal t (.slice none n c) (.slice none 0 0)))) H=_;have e:Ac P (Op.equal t (.slice none n c) (.slice none 0 0)) H=some true:=by
  unfold Op.equal Op.maxDepth Op.equalIn;rw [A4,A6 hu,J0];rfl
 rw [A4,e];rfl
theorem SR {e:Nat} {v:Value} {vs:List Value} {n:Nat} (h:Vec H e 1 v vs) (hn:vs.length=n):AR H 1 n v=some vs/\M9 v=some n:=by
 rcases h.ex with ⟨rfl,rfl⟩ | ⟨b,len,cap,pre,rest,rfl,hb,h2,h3,h4⟩
 ·simp at hn; subst hn; exact ⟨rfl,rfl⟩
 ·rw [Jy] at h2;have:n=len:=(by omega);subst this;refine ⟨?_,rfl⟩;show Ay (A5 H) ⟨b,pre.length,none⟩ 0 (n * 1)=some vs;rw [Jy,<- h2];refine Bi _ _ 0 fun j hj=>?_;rw [hb.cell,Zc,Je,Jf (by omega),Jg (by omega)];rw [show pre.length + j - pre.length=j by omega,J1 hj]
theorem DH {v:Value} {vs:List Value} (hv:Vec H 3 1 v vs) (h1:∀ u ∈ vs,Cb u=true) (hlen:vs.length<=1000000) :
  CallF Tryz.prog 27 [v] H (fun r H'=>Fr [] H H'/\Vec H' 3 1 r vs/\∀ b ∈ own r,H.size<=b) NoP:=by
 have hu:=T.zk.under
 rcases hv.ex with ⟨rfl,rfl⟩ | ⟨b,len,cap,pre,rest,rfl,hb,h2,h3,h4⟩
 ·have hb0:=fun {xo yo:Operand}=>NQ (H:=H) (xo:=xo) (yo:=yo) (n:=0) (c:=0) hu
  refine A9 Tryz.func27 rfl Tryz.ntmps27 Tryz.results27 (by decide) rfl ?_
  simp (disch:=omega) only [go_sem,↓cB,hb0]
  exact fin ⟨Fr.refl _ _,Vec.nil,by simp [own]⟩
 ·have hb0:=fun {xo yo:Operand}=>NP (H:=H) (xo:=xo) (yo:=yo) (a:=⟨b,pre.length,none⟩) (n:=len) (c:=cap) hu
  rw [Jy] at h2
  refine A9 Tryz.func27 rfl Tryz.ntmps27 Tryz.results27 (by decide) rfl ?_
  simp (disch:=omega) only [go_sem,↓cB,hb0]
  obtain ⟨G,hG⟩:∃ G,G=H.push (.cells #[] 3):=⟨_,rfl⟩
  have f0:Fr [] H G:=by rw [hG]; exact Fr.push
  have vG:Vec G 3 1 (.slice (some ⟨H.size,0,none⟩) 0 0) []:=⟨.inr ⟨H.size,0,0,[],[],rfl,by rw [hG]; exact Blk.new rfl,rfl,rfl,Jb _⟩⟩
  have hsrc:=SR (hv.frame f0 (by simp)) (n:=len) h2
  try rw [<- hG]
  refine Hc (n:=len) (new:=vs) T.zk rfl vG hsrc.2 hsrc.1 hu (by simp) h1 (by omega) (by intro a' l c e; simp only [Value.slice.injEq] at e; obtain ⟨_,rfl,_⟩:=e; omega) ?_
  intro v' H2 g1 (g2:Fr _ G H2) (g3:∀ b ∈ own v',b ∈ own (.slice (some ⟨H.size,0,none⟩) 0 0)\/G.size<=b) g4
  simp (disch:=omega) only [go_sem,↓cB]
  refine fin ⟨⟨Js f0.size g2.size,fun q hq _=>?_⟩,by simpa using g1,fun q hq=>?_⟩
  ·rw [g2.same q (by have:=f0.size; omega) (by simp [own]; omega),f0.same q hq (by simp)]
  ·rcases g3 q hq with h | h
   ·simp [own] at h; omega
   ·have:=f0.size; omega
end
section
variable {H:A3} {ow:Nat->Nat} {p n:Nat} {k:Bk} {f:Cf}
def Pz (f:Cf) (z:Int):Bool:=!(bt f.seen (z.toNat / 2)) && decide (0 < f.s.lv (z.toNat / 2))
theorem LI (h:RM H ow p n k f) (hr:Rl n f) (hi:Inv n f.s) (hn:n<=1000) {xb y:Nat} (hb:Blk H xb 183 [sp p]) (hy:isC n y) (hyt:neg y ∈ f.tr) :
  CallF Tryz.prog 264 [iv y,hp xb] H (fun v H'=>v=.bool (Pz f y)/\H'=H) NoP:=by
 obtain ⟨y1,y2,y3,y4⟩:=AP hy
 obtain ⟨j,hj⟩:=Jc hyt
 have clv:=h.tn hr hj
 rw [Av] at clv
 have hlv:f.s.lv (y / 2)=lev f.st j:=F1 hi hj
 have csn:=h.tk y3
 have c0:A5 H ⟨xb,0,none⟩=some (sp p):=hb.cell 0
 have c12:A5 H ⟨p,12,none⟩=some (sl k.bs (n + 1)):=h.c 12
 have c10:A5 H ⟨p,10,none⟩=some (sl k.bl (n + 1)):=h.c 10
 have hh:=Gg y
 have hP:Pz f y=(!(bt f.seen (y / 2)) && decide (0 < lev f.st j)):=by
  unfold Pz;rw [Z4,hlv]
 rw [hP]
 refine A9 Tryz.func264 rfl Tryz.ntmps264 Tryz.results264 (by decide) rfl ?_
 cases hs:bt f.seen (y / 2)
 ·rw [hs] at csn
  simp (disch:=omega) only [go_sem,↓cB,c0,c12,c10,hh,csn,clv]
  exact fin ⟨by simp,rfl⟩
 ·rw [hs] at csn
  simp (disch:=omega) only [go_sem,↓cB,c0,c12,c10,hh,csn,clv]
  exact fin ⟨by simp,rfl⟩
def Imp (f:Cf) (z:Nat):Prop:=∃ c,f.rea (z / 2)=some c/\∀ y ∈ (f.lits c).tail,bt f.seen (y / 2)=true\/f.s.lv (y / 2)=0
theorem Kv (h:RM H ow p n k f) (hr:Rl n f) (hi:Inv n f.s) {w:Nat->List Nat} (hw:WI n f.s f.C w) (hn:n<=1000) {b cap r0:Nat} {r:List Nat} {pre rest:List Value} (hb:Blk H b 3 (pre ++ nv (r0 :: r) ++ rest)) (hcap:r.length + 1<=cap) (hob:ow b=0) (hre:rest.length=cap - (r.length + 1))
  (hl:∀ y ∈ r,isC n y/\neg y ∈ f.tr) (hrl:r.length<=1000) :
  CallF Tryz.prog 209 [sp p,.slice (some ⟨b,pre.length,none⟩) (r.length + 1) cap] H (fun v H'=>RM H' ow p n k f/\Fr [b] H H'/\∃ r',v=.slice (some ⟨b,pre.length,none⟩) (r'.length + 1) cap/\Vec H' 3 1 v (nv (r0 :: r'))/\r'.Sublist r/\∀ z ∈ r,z ∈ r'\/Imp f z) NoP:=by
 obtain ⟨G,hG⟩:∃ G,G=H.push (.cells #[sp p] 183):=⟨_,rfl⟩
 have f0:Fr [] H G:=by rw [hG]; exact Fr.push
 have hxb:Blk G H.size 183 [sp p]:=by rw [hG]; exact Blk.new rfl
 have hbl:=hb.lt
 have hbG:=f0.blk hb (by simp)
 have hmG:=h.out f0 (by simp)
 refine A9 Tryz.func209 rfl Tryz.ntmps209 Tryz.results209 (by decide) rfl ?_
 simp (disch:=omega) only [go_sem,↓cB]
 rw [<- hG]
 refine Ae (fun j U H1=>∃ (i:Nat) (K:List Nat),j=r.length - i/\i<=r.length /\
  (U.get 0=sp p/\U.get 2=hp H.size/\U.get 5=.slice (some ⟨b,pre.length,none⟩) (K.length + 1) cap/\U.get 12=.slice (if cap=1 then some ⟨b,pre.length,none⟩ else some ⟨b,pre.length + 1,none⟩) r.length (cap - 1)/\U.get 13=iv r.length/\U.get 14=iv i/\U.ds = []) /\
  K.length<=i/\K.Sublist (r.take i)/\(∀ z ∈ r.take i,z ∈ K\/Imp f z)/\RM H1 ow p n k f/\Fr [b] G H1/\Blk H1 b 3 (pre ++ nv (r0 :: K ++ r.drop K.length) ++ rest)) (k:=r.length) ?_ ?_
 ·refine ⟨0,[],rfl,by omega,by simp (disch:=omega) only [go_sem,↓cB,W4,Xc,Zv],by simp,by simp,by simp,hmG,Fr.refl _ _,by simpa using hbG⟩
 ·rintro _ U H1 ⟨i,K,rfl,hil,⟨s0,s2,s5,s12,s13,s14,sd⟩,hKi,hKs,hKr,m1,e1,b1⟩
  have hdl:(r.drop K.length).length=r.length - K.length:=by simp
  by_cases hie:i=r.length
  ·subst hie
   rw [Jr] at hKs hKr
   simp (disch:=omega) only [go_sem,↓cB,s0,s2,s5,s12,s13,s14,sd]
   refine fin ⟨m1,(f0.mono (by simp)).trans e1,K,rfl,⟨.inr ⟨b,K.length + 1,cap,pre,nv (r.drop K.length) ++ rest,rfl,?_,by simp [nv],by simp [nv]; omega,by omega⟩⟩,hKs,hKr⟩
   have:pre ++ nv (r0 :: K) ++ (nv (r.drop K.length) ++ rest)=pre ++ nv (r0 :: K ++ r.drop K.length) ++ rest:=by simp [nv]
   rw [this]; exact b1
  ·obtain ⟨x,hx⟩:∃ x,r[i]?=some x:=⟨_,J1 (by omega)⟩
   have hxr:=J2 hx
   obtain ⟨hxc,hxt⟩:=hl x hxr
   obtain ⟨x1,x2,x3,x4⟩:=AP hxc
   have hne:¬ cap=1:=by omega
   rw [J4 hne] at s12
   have kx:A5 H1 ⟨b,pre.length + 1 + i,none⟩=some (iv x):=by
    rw [b1.cell,Je,Jf (by omega),Jg (by simp [nv]; omega)];rw [show pre.length + 1 + i - pre.length=i + 1 by omega];have:(r0 :: K ++ r.drop K.length)[i + 1]?=some x:=by
     rw [Xw,Ys,Jf hKi,Y7,show K.length + (i - K.length)=i by omega];exact hx
    exact Bu this
   have hhx:=Gg x
   have hi1:(i:Int) + 1=((i + 1:Nat):Int):=by omega
   have cr:=m1.gb x3
   have c11:A5 H1 ⟨p,11,none⟩=some (sl k.br (n + 1)):=m1.c 11
   have hxb1:=e1.blk hxb (by simp; omega)
   have c0:A5 H1 ⟨H.size,0,none⟩=some (sp p):=hxb1.cell 0
   have htk:r.take (i + 1)=r.take i ++ [x]:=by rw [Jl,hx]; rfl
   have keep:∀ {t bytes:Nat} {z:Value} {Q:Value->A3->Prop},ElT Tryz.prog t 3 1 bytes z->(∀ H2,RM H2 ow p n k f->Fr [b] G H2->Blk H2 b 3 (pre ++ nv (r0 :: (K ++ [x]) ++ r.drop (K ++ [x]).length) ++ rest)->Q (.slice (some ⟨b,pre.length,none⟩) (K.length + 1 + 1) cap) H2) ->
     @I9 Tryz.prog t t (.slice (some ⟨b,pre.length,none⟩) (K.length + 1) cap) (.slice (some ⟨H1.size,0,none⟩) 1 1) ⟨H1.push (.cells #[iv x] 3)⟩ ⟨Q⟩:=by
    intro t bytes z Q hT hQ
    have hb1:=b1.push (.cells #[iv x] 3)
    have hb2:Blk (H1.push (.cells #[iv x] 3)) b 3 (pre ++ nv (r0 :: K) ++ (nv (r.drop K.length) ++ rest)):=by
     have:pre ++ nv (r0 :: K) ++ (nv (r.drop K.length) ++ rest)=pre ++ nv (r0 :: K ++ r.drop K.length) ++ rest:=(by simp [nv]);rw [this]; exact hb1
    have hx1:Blk (H1.push (.cells #[iv x] 3)) H1.size 3 [iv x]:=Blk.new rfl
    refine FD (n:=1) (new:=[iv x]) hT hb2 (by simp [nv]) (by simp [nv]; omega) (by omega) rfl ?_ hT.under (by simp) (by simp [Cb]) rfl ?_
    ·show Ay (A5 _) ⟨H1.size,0,none⟩ 0 1=some [iv x]
     exact Bi [iv x] 0 0 (fun j hj=>by
      have:j=0:=(by simpa using hj);subst this; exact hx1.cell 0)
    ·intro H2 hb3 hf3
     have hf4:Fr [b] H1 H2:=(Fr.push (F:=[b])).trans hf3
     refine hQ H2 (m1.out hf4 (by simpa using hob)) (e1.trans hf4) ?_
     have hd:(nv (r.drop K.length) ++ rest).drop (1 * 1)=nv (r.drop (K.length + 1)) ++ rest:=by
      obtain ⟨y,hy⟩:∃ y,r.drop K.length=y :: r.drop (K.length + 1):=⟨_,Yk (by omega)⟩;rw [hy]; rfl
     rw [hd] at hb3
     have:pre ++ nv (r0 :: (K ++ [x]) ++ r.drop (K ++ [x]).length) ++ rest=pre ++ (nv (r0 :: K) ++ [iv x]) ++ (nv (r.drop (K.length + 1)) ++ rest):=by simp [nv]
     rw [this]; exact hb3
   have hKl:(K ++ [x]).length=K.length + 1:=by simp
   have hsub:(K ++ [x]).Sublist (r.take (i + 1)):=by rw [htk]; exact hKs.append (List.Sublist.refl _)
   have hkr:∀ z ∈ r.take (i + 1),z ∈ K ++ [x]\/Imp f z:=by
    rw [htk];intro z hz;rcases Jh.1 hz with hz | hz
    ·exact (hKr z hz).imp (fun h=>by simp [h]) id
    ·exact .inl (by simp [J6.1 hz])
   obtain ⟨j,hj⟩:=Jc hxt
   cases hre:f.rea (x / 2) with
   | none =>
    rw [hre] at cr;have cr':A5 H1 ⟨k.br,x / 2,none⟩=some (.pointer none):=cr;simp (disch:=omega) only [go_sem,↓cB,s0,s2,s5,s12,s13,s14,sd,kx,hhx,c11,cr',c0];refine keep T.zk ?_;intro H2 m2 e2 b2;simp (disch:=omega) only [go_sem,↓cB,s0,s2,s5,s12,s13,s14,sd];exact fin ⟨r.length - (i + 1),by omega,i + 1,K ++ [x],rfl,by omega,by simp (disch:=omega) only [go_sem,↓cB,s0,s2,s5,s12,s13,s14,sd,hi1,hKl,hne,Z3],by omega,hsub,hkr,m2,e2,b2⟩
   | some c =>
    rw [hre] at cr;have cr':A5 H1 ⟨k.br,x / 2,none⟩=some (pv c):=cr;have hcC:c ∈ f.C:=hw.rs j (neg x) c hj (by rw [Av]; exact hre);obtain ⟨t,hlt,hft⟩:=hi.why j (neg x) c hj (by rw [Av]; exact hre);have hlt':f.lits c=neg x :: t:=hlt;have hcl:=hw.cl c hcC;have hl2:2<=(f.lits c).length:=hcl.1;obtain ⟨lb,lo,lc,el,hlc,d0⟩:=m1.xf hcC hl2;have htl:(f.lits c).length - 1=t.length:=(by rw [hlt']; rfl);have hrn:Rn H1 (some ⟨lb,lo + 1,none⟩) (t.map Int.ofNat):=by
     intro q z hz;rw [Z0,Zj] at hz;obtain ⟨y,hy,rfl⟩:=hz;refine ⟨lb,lo + 1,rfl,?_⟩;have:=m1.zp hcC el (i:=q + 1) (x:=y) (by rw [hlt']; exact hy);rw [show lo + 1 + q=lo + (q + 1) by omega]; exact this
    have hlen:(f.lits c).length<=n:=BQ hcl.2.1 hcl.2.2;have hca:=FX (H:=H1) (g:=264) (cap:=[hp H.size]) (c:=lc - 1) (P:=Pz f) hrn (by rw [Jm]; omega) (by
     intro z hz;obtain ⟨y,hy,rfl⟩:=Ji.1 hz;obtain ⟨q,hq,hq2⟩:=hft y hy;exact LI m1 hr hi hn hxb1 (hcl.2.1 y (by rw [hlt]; simp [hy])) (J2 hq2))
    rw [Jm] at hca;have hne2:¬ lc=1:=(by omega);simp (disch:=omega) only [go_sem,↓cB,s0,s2,s5,s12,s13,s14,sd,kx,hhx,c11,cr',c0,d0,hne2,Z3,htl];refine A7 hca ?_;rintro v H2 ⟨rfl,rfl⟩;simp (disch:=omega) only [go_sem,↓cB,s0,s2,s5,s12,s13,s14,sd];refine OM (fun hp=>?_) (fun hp=>?_)
    ·simp (disch:=omega) only [go_sem,↓cB,s0,s2,s5,s12,s13,s14,sd];refine keep T.zk ?_;intro H2 m2 e2 b2;simp (disch:=omega) only [go_sem,↓cB,s0,s2,s5,s12,s13,s14,sd];exact fin ⟨r.length - (i + 1),by omega,i + 1,K ++ [x],rfl,by omega,by simp (disch:=omega) only [go_sem,↓cB,s0,s2,s5,s12,s13,s14,sd,hi1,hKl,hne,Z3],by omega,hsub,hkr,m2,e2,b2⟩
    ·simp (disch:=omega) only [go_sem,↓cB,s0,s2,s5,s12,s13,s14,sd];refine fin ⟨r.length - (i + 1),by omega,i + 1,K,rfl,by omega,by simp (disch:=omega) only [go_sem,↓cB,s0,s2,s5,s12,s13,s14,sd,hi1,hne,Z3],by omega,?_,?_,m1,e1,b1⟩
     ·rw [htk]; exact hKs.trans (List.sublist_append_left _ _)
     ·rw [htk];intro z hz;rcases Jh.1 hz with hz | hz
      ·exact hKr z hz
      ·have:=J6.1 hz;subst this;refine .inr ⟨c,hre,fun y hy=>?_⟩;rw [hlt'] at hy;have hy':y ∈ t:=hy;rw [List.any_eq_false] at hp;have h1:=hp (Int.ofNat y) (Ji.2 ⟨y,hy',rfl⟩);unfold Pz at h1;rw [show (Int.ofNat y).toNat=y from rfl] at h1;simp only [Jd,Zm,Jk,not_and,Nat.not_lt,Nat.le_zero] at h1;cases hs:bt f.seen (y / 2)
       ·exact .inr (h1 hs)
       ·exact .inl rfl
end
section
variable {H:A3} {ow:Nat->Nat} {p n:Nat} {k:Bk} {f:Cf} {G:List (List Nat)}
theorem AM.make (h:RM H ow p n k f) (hsn:∀ v,v<=n->bt f.seen v=false):∃ G1 G2 G3 G4 G5 G6 G7 G8:A3,
  H.push (.cells #[sp p] 183)=G1/\G1.push (.cells #[iv 0] 3)=G2/\G2.push (.cells #[iv 0] 3)=G3/\wr G3 ⟨G1.size,0,none⟩ (iv f.st.length)=some G4/\wr G4 ⟨G2.size,0,none⟩ (iv 0)=some G5 /\
  G5.push (.cells #[iv 0] 3)=G6/\G6.push (.cells #[.slice none 0 0] 23)=G7/\wr G7 ⟨G6.size,0,none⟩ (.slice (some ⟨G5.size,0,none⟩) 1 1)=some G8 /\
  AM H ow G8 p n k f f H.size G1.size G2.size G6.size (.slice (some ⟨G5.size,0,none⟩) 1 1) 0 An.zero /\
  (RM G1 ow p n k f/\RM G8 ow p n k f/\A5 G1 ⟨H.size,0,none⟩=some (sp p)):=by
 obtain ⟨G1,h1⟩:∃ G,H.push (.cells #[sp p] 183)=G:=⟨_,rfl⟩
 obtain ⟨G2,h2⟩:∃ G,G1.push (.cells #[iv 0] 3)=G:=⟨_,rfl⟩
 obtain ⟨G3,h3⟩:∃ G,G2.push (.cells #[iv 0] 3)=G:=⟨_,rfl⟩
 have z1:G1.size=H.size + 1:=by rw [<- h1]; simp
 have z2:G2.size=H.size + 2:=by rw [<- h2]; simp [z1]
 have z3:G3.size=H.size + 3:=by rw [<- h3]; simp [z2]
 have b1:Blk G3 H.size 183 [sp p]:=by rw [<- h3,<- h2,<- h1]; exact ((Blk.new rfl).push _).push _
 have b2:Blk G3 G1.size 3 [iv 0]:=by rw [<- h3,<- h2]; exact (Blk.new rfl).push _
 have b3:Blk G3 G2.size 3 [iv 0]:=by rw [<- h3]; exact Blk.new rfl
 have w4:=b2.wr (i:=0) (by simp) (iv f.st.length)
 obtain ⟨G4,h4⟩:∃ G,Aw G3 ⟨G1.size,0,none⟩ (iv f.st.length)=G:=⟨_,rfl⟩
 rw [h4] at w4
 have z4:G4.size=H.size + 3:=by rw [<- h4,AA]; exact z3
 have c1:Blk G4 H.size 183 [sp p]:=by rw [<- h4]; exact b1.zd (by simp; omega)
 have c2:Blk G4 G1.size 3 [iv f.st.length]:=by rw [<- h4]; exact b2.set 0 _
 have c3:Blk G4 G2.size 3 [iv 0]:=by rw [<- h4]; exact b3.zd (by simp; omega)
 have w5:=c3.wr (i:=0) (by simp) (iv 0)
 obtain ⟨G5,h5⟩:∃ G,Aw G4 ⟨G2.size,0,none⟩ (iv 0)=G:=⟨_,rfl⟩
 rw [h5] at w5
 have z5:G5.size=H.size + 3:=by rw [<- h5,AA]; exact z4
 have d1:Blk G5 H.size 183 [sp p]:=by rw [<- h5]; exact c1.zd (by simp; omega)
 have d2:Blk G5 G1.size 3 [iv f.st.length]:=by rw [<- h5]; exact c2.zd (by simp; omega)
 have d3:Blk G5 G2.size 3 [iv 0]:=by rw [<- h5]; exact c3.set 0 _
 obtain ⟨G6,h6⟩:∃ G,G5.push (.cells #[iv 0] 3)=G:=⟨_,rfl⟩
 obtain ⟨G7,h7⟩:∃ G,G6.push (.cells #[.slice none 0 0] 23)=G:=⟨_,rfl⟩
 have z6:G6.size=H.size + 4:=by rw [<- h6]; simp [z5]
 have z7:G7.size=H.size + 5:=by rw [<- h7]; simp [z6]
 have e4:Blk G7 G5.size 3 [iv 0]:=by rw [<- h7,<- h6]; exact (Blk.new rfl).push _
 have e5:Blk G7 G6.size 23 [.slice none 0 0]:=by rw [<- h7]; exact Blk.new rfl
 have w8:=e5.wr (i:=0) (by simp) (.slice (some ⟨G5.size,0,none⟩) 1 1)
 obtain ⟨G8,h8⟩:∃ G,Aw G7 ⟨G6.size,0,none⟩ (.slice (some ⟨G5.size,0,none⟩) 1 1)=G:=⟨_,rfl⟩
 rw [h8] at w8
 have p7:∀ {b t:Nat} {vs:List Value},Blk G5 b t vs->Blk G7 b t vs:=by intro b t vs hb; rw [<- h7,<- h6]; exact (hb.push _).push _
 have s8:∀ {b t:Nat} {vs:List Value},Blk G7 b t vs->b ≠ G6.size->Blk G8 b t vs:=by intro b t vs hb hn; rw [<- h8]; exact hb.zd hn
 have F5:Fr [] H G5:=⟨by omega,fun b hb _=>by rw [<- h5,BA (by simp; omega),<- h4,BA (by simp; omega),<- h3,<- h2,<- h1]; simp [Yt]; rw [J4 (by omega),J4 (by omega),J4 (by omega)]⟩
 have F8:Fr [] H G8:=⟨by rw [<- h8,AA]; omega,fun b hb _=>by
  rw [<- h8,BA (by simp; omega),<- h7,<- h6];simp [Yt];rw [J4 (by omega),J4 (by omega)];exact F5.same b hb (by simp)⟩
 have m1:RM G1 ow p n k f:=h.out (F:=[]) (by rw [<- h1]; exact Fr.push) (by simp)
 have m8:RM G8 ow p n k f:=h.out F8 (by simp)
 refine ⟨G1,G2,G3,G4,G5,G6,G7,G8,h1,h2,h3,w4,w5,h6,h7,w8,?_,m1,m8,?_⟩
 ·refine ⟨m8,⟨Sm.of F8 (by simp),Ow.refl⟩,fun b hb=>h.free hb,⟨f.seen,f.m,f.os,f.pl,f.ac,rfl,fun v=>Iff.rfl⟩,fun v hv=>hsn v hv,s8 (p7 d1) (by omega),s8 (p7 d2) (by omega),s8 (p7 d3) (by omega),?_,⟨.inr ⟨G5.size,1,1,[],[],rfl,s8 e4 (by omega),rfl,rfl,Jb _⟩⟩,Jb _,by omega,by omega,by omega,?_,by omega⟩
  ·rw [<- h8]; exact e5.set 0 _
  ·intro b hb
   simp only [own,J6] at hb
   subst hb
   omega
 ·have:Blk G1 H.size 183 [sp p]:=by rw [<- h1]; exact Blk.new rfl
  exact this.cell 0
end
section
variable {H:A3} {ow:Nat->Nat} {p n:Nat} {k:Bk} {f:Cf} {G:List (List Nat)}
theorem Qj {s:St} {here:Nat} {a:An} {y:Nat}:a.opn<=(C8 s here a y).opn:=by
 unfold C8;split
 ·exact Jb _
 ·split <;> simp
theorem La {s:St} {here:Nat}:∀ (l:List Nat) (a:An),a.opn<=(BE s here a l).opn
 | [],a=>Jb _
 | y :: l,a=>Js (Qj (y:=y)) (La l _)
theorem UE {n:Nat} {s:St} {here at':Nat} {a:An} (h:AnI n s here at' a):a.opn<=at':=by
 rw [h.opn];unfold cnt;have:=Wn (p:=hit s here a) (l:=List.range at');simpa using this
theorem Vi {n:Nat} {s:St} {here at':Nat} {a:An} (hv:Inv n s) (h:AnI n s here at' a):a.r.length<=n :=
 BQ (fun y hy=>by
  obtain ⟨_,i,hi,_⟩:=h.low y hy;rw [<- neg_neg y];exact C0 (hv.ok.code _ (J2 hi))) h.nod
theorem Bc {e i:Nat} {v u:Value} {vs:List Value} (h:Vec H e 1 v vs) (hi:vs[i]?=some u):∃ b o cap,v=.slice (some ⟨b,o,none⟩) vs.length cap/\A5 H ⟨b,o + i,none⟩=some u:=by
 have hl:=(J3.1 hi).1;obtain ⟨b,o,len,cap,rfl,hlen,hc⟩:=h.cell (by intro e; subst e; simp at hi);rw [Jy] at hlen; subst hlen;exact ⟨b,o,cap,rfl,by rw [hc i hl,hi]⟩
structure Ana (n:Nat) (f:Cf) (G:List (List Nat)) (l:List Nat) (to:Nat):Prop where
 ex:∃ x0 t,l=neg x0 :: t/\Lrn n f.s x0 t to/\(t = []/\to=0\/1<=to/\∃ y t',t=y :: t'/\∃ j:Nat,f.tr[j]?=some (neg y)/\lev f.st j=to)
 code:(∀ z ∈ l,isC n z)/\(l.map (· / 2)).Nodup
 so:∀ T,Clo T G->¬ ∀ z ∈ l,T (neg z)
theorem Ky (h:RM H ow p n k f) (hr:Rl n f) {c x:Nat} {K D:List Nat} (hV:VI n f.s f.C f.w G f.head x K (c :: D)) (hall:∀ y ∈ f.lits c,neg y ∈ f.tr) (hn:n<=1000) (h0:1<=f.st.length) (hst:f.st.length<=1000000)
  (hsn:∀ v,v<=n->bt f.seen v=false) (hstep:0<=f.step/\f.step<=4611686018427387904) :
  CallF Tryz.prog 121 [sp p,pv c] H (fun v H'=>∃ sn m os pl ac l lv to,v=.tuple #[lv,iv (to:Nat)]/\RM H' ow p n k ((f.zx sn).zj m os pl ac)/\(∀ v,(nt pl v = -1↔nt f.pl v = -1))/\(∀ v,v<=n->bt sn v=false)/\Ex H ow H' ow /\
   Vec H' 3 1 lv (nv l)/\(∀ b ∈ own lv,H.size<=b)/\Ana n f G l to) NoP:=by
 have hi:Inv n f.s:=hV.inv
 have hcC:c ∈ f.C:=hV.mem.1
 have hcl:=hV.wi.cl c hcC
 have hl2:2<=(f.lits c).length:=hcl.1
 have hlen:(f.lits c).length<=n:=BQ hcl.2.1 hcl.2.2
 have htn:f.tr.length<=n:=hi.ok.len
 have hlast:∀ i,i < f.tr.length->lev f.st i<=f.st.length:=fun i _=>DP
 obtain ⟨G1,G2,G3,G4,G5,G6,G7,G8,g1,g2,g3,g4,g5,g6,g7,g8,am,m1,m8,c0⟩:=AM.make h hsn
 obtain ⟨sa,sc,es⟩:=h.starts.form
 rw [Am] at es
 have c15:A5 G1 ⟨p,15,none⟩=some (.slice sa f.st.length sc):=by rw [<- es]; exact m1.c 15
 obtain ⟨ta,tc,et⟩:=h.trail.form
 rw [Am] at et
 have c14:A5 G8 ⟨p,14,none⟩=some (.slice ta f.tr.length tc):=by rw [<- et]; exact m8.c 14
 have c08:A5 G8 ⟨H.size,0,none⟩=some (sp p):=am.bs.cell 0
 obtain ⟨lb,lo,lc,el,hlc,d0⟩:=m8.xf hcC hl2
 refine A9 Tryz.func121 rfl Tryz.ntmps121 Tryz.results121 (by decide) rfl ?_
 simp (disch:=omega) only [go_sem,↓cB,g1,g2,g3,g4,g5,g6,g7,g8,c0,c15,c08,c14,d0]
 have hcell:∀ H1 f',RM H1 ow p n k f'->f'.lits=f.lits->f'.lb=f.lb->f'.C=f.C->∀ (i y:Nat),(f.lits c)[i]?=some y->A5 H1 ⟨lb,lo + i,none⟩=some (iv (y:Int)):=by
  intro H1 f' hm e1 e2 e3 i y hy;exact hm.zp (c:=c) (by rw [e3]; exact hcC) (by rw [e2]; exact el) (by rw [e1]; exact hy)
 have hlits:∀ y ∈ f.lits c,isC n y/\neg y ∈ f.tr:=fun y hy=>⟨hcl.2.1 y hy,hall y hy⟩
 refine A7 (IZ am hr hi hn hstep (l:=f.lits c) (lb:=lb) (lo:=lo) (cap:=lc) hcell hlits (by omega) (by show 0 + _<=_; omega) (by show 0 + _<=_; omega)) ?_
 rintro v H1 ⟨rfl,f1,rv,am1⟩
 have hfls:∀ y ∈ f.lits c,Fls f.tr f.tr.length y:=by
  intro y hy;obtain ⟨j,hj⟩:=Jc (hall y hy);exact ⟨j,(J3.1 hj).1,hj⟩
 have hA0:AnI n f.s f.st.length f.tr.length (BE f.s f.st.length An.zero (f.lits c)):=E6 hi hlast _ _ AnI.zero hfls
 have hxm:x ∈ f.lits c:=by
  obtain ⟨-,a,b,r,hl,hab⟩:=hV.mem;have hl':f.lits c=a :: b :: r:=hl;rw [hl'];rcases hab with rfl | rfl <;> simp
 have htop:lev f.st (f.head - 1)=f.st.length:=by
  unfold lev;rw [Wo];intro q hq;simpa using hV.st q hq
 have hO0:0 < (BE f.s f.st.length An.zero (f.lits c)).opn:=Ru hi h0 hfls hlast hxm hV.at' htop
 have hR0:∀ T,Clo T G->Res f.s f.st.length f.tr.length (BE f.s f.st.length An.zero (f.lits c)) T:=by
  intro T hT;exact Q6 hi (hV.gi.holds hV.wi hT) hfls hlast ((hV.gi.snd T hT).1 c hcC).2
 generalize BE f.s f.st.length An.zero (f.lits c)=A0 at am1 hA0 hO0 hR0
 clear am c0 c15 c14 c08 d0 m1 m8
 simp (disch:=omega) only [go_sem]
 refine Bp (fun U H2=>∃ (i x0:Nat) (a:An) (f1:Cf) (rv:Value),(U.get 2=hp H.size/\U.get 8=hp G6.size/\U.ds = [])/\AM H ow H2 p n k f f1 H.size G1.size G2.size G6.size rv (neg x0) { a with opn:=a.opn - 1 } /\
  f.tr[i]?=some x0/\lev f.st i=f.st.length/\a.seen (x0 / 2)=true/\AnI n f.s f.st.length i (a.pop (x0 / 2))/\a.opn - 1=0/\∀ T,Clo T G->∃ y ∈ neg x0 :: a.r,¬ T (neg y)) ?_ ?_
 ·simp (disch:=omega) only [go_sem,↓cB]
  refine Ae (fun at' U H2=>∃ (a:An) (f1:Cf) (rv:Value),(U.get 2=hp H.size/\U.get 7=hp G2.size/\U.get 8=hp G6.size/\U.get 9=iv at'/\U.get 10=.func (.func 207) #[] #[hp H.size,hp G1.size,hp G2.size,hp G6.size]/\U.ds = []) /\
   AM H ow H2 p n k f f1 H.size G1.size G2.size G6.size rv 0 a/\AnI n f.s f.st.length at' a/\0 < a.opn/\∀ T,Clo T G->Res f.s f.st.length at' a T) (k:=f.tr.length) ?_ ?_
  ·exact ⟨A0,f1,rv,by simp (disch:=omega) only [go_sem,↓cB,g1,g2,g3,g4,g5,g6,g7,g8],am1,hA0,hO0,hR0⟩
  ·clear am1 hA0 hO0 hR0 A0 f1 rv g4 g5 g8
   rintro at' U H2 ⟨a,f1,rv,⟨s2,s7,s8,s9,s10,sd⟩,am,hA,hO,hR⟩
   obtain ⟨i,x0,hia,hx0,hsx,hlx,hbet,hA2⟩:=RF hi hA hO (fun i _=>DP)
   have hle:=hA.le
   have hle':at'<=f.tr.length:=hle
   have ha1:(at':Int) - 1=((at' - 1:Nat):Int):=by omega
   simp (disch:=omega) only [go_sem,↓cB,s2,s7,s8,s9,s10,sd,ha1]
   refine Ae (fun j U H3=>∃ q:Nat,j=q - i/\i<=q/\q < at'/\H3=H2/\(U.get 2=hp H.size/\U.get 7=hp G2.size/\U.get 8=hp G6.size/\U.get 9=iv q/\U.get 10=.func (.func 207) #[] #[hp H.size,hp G1.size,hp G2.size,hp G6.size]/\U.ds = [])) (k:=at' - 1 - i) ?_ ?_
   ·exact ⟨at' - 1,rfl,by omega,by omega,rfl,by simp (disch:=omega) only [go_sem,↓cB,s2,s7,s8,s10,sd]⟩
   ·clear s2 s7 s8 s9 s10 sd
    rintro _ U H3 ⟨q,rfl,hiq,hqa,rfl,⟨s2,s7,s8,s9,s10,sd⟩⟩
    obtain ⟨sn,m,os,pl,ac,rfl,hpl⟩:=am.fe
    obtain ⟨y,hy⟩:∃ y,f.tr[q]?=some y:=⟨_,J1 (by omega)⟩
    have hyc:isC n y:=hi.ok.code y (J2 hy)
    obtain ⟨y1,y2,y3,y4⟩:=AP hyc
    have hh:=Gg y
    have c0:A5 H3 ⟨H.size,0,none⟩=some (sp p):=am.bs.cell 0
    have c12:A5 H3 ⟨p,12,none⟩=some (sl k.bs (n + 1)):=am.m.c 12
    obtain ⟨tb,to,tc',et',-,ky⟩:=am.m.trail.cell (Bu hy)
    rw [Am] at et'
    have et2:f.trail=.slice (some ⟨tb,to,none⟩) f.tr.length tc':=et'
    have c14:A5 H3 ⟨p,14,none⟩=some (.slice (some ⟨tb,to,none⟩) f.tr.length tc'):=by rw [<- et2]; exact am.m.c 14
    have csn:=am.m.tk y3
    rw [am.seen _ (by omega)] at csn
    by_cases hqi:q=i
    ·subst hqi
     have hyx:y=x0:=by
      have:f.tr[q]?=some x0:=hx0;rw [hy] at this; exact Jj this
     subst hyx
     rw [hsx] at csn
     simp (disch:=omega) only [go_sem,↓cB,s2,s7,s8,s9,s10,sd]
     refine As (lk [tl 0,tl 1,tl 2,tl 3,tl 4,tl 5,tl 6,tl 7,tl 8,tl 9,tl 10,tl 11,tl 12,tl 13,tl 14] .fin) T.mixed ?_
     have co:A5 H3 ⟨G2.size,0,none⟩=some (iv a.opn):=am.bo.cell 0
     obtain ⟨H4,w4,am4⟩:=am.opn (a.opn - 1)
     have co4:A5 H4 ⟨G2.size,0,none⟩=some (iv ((a.opn - 1:Nat):Int)):=am4.bo.cell 0
     have ho1:(a.opn:Int) - 1=((a.opn - 1:Nat):Int):=by omega
     have hop:=UE hA
     simp (disch:=omega) only [go_sem,↓cB,s2,s7,s8,s9,s10,sd,c0,c12,c14,ky,hh,csn,co,ho1,w4,co4]
     refine Ba (fun hb=>?_) (fun hb=>?_)
     ·have hz:a.opn - 1=0:=by omega
      have cr:A5 H4 ⟨G6.size,0,none⟩=some rv:=am4.br.cell 0
      obtain ⟨b,o,cap,hrv,hwr,hvec,-⟩:=Vec.qs am4.vr (i:=0) (by simp [nv]) (iv (neg y))
      have ex:=fun V t xo yo=>Di (V:=V) (t:=t) (xo:=xo) (yo:=yo) (n:=y) (by omega)
      subst hrv
      have am5:=am4.inr (r0':=neg y) (r':=a.r) (by simpa [nv] using hvec) (by exact Fr.set (by simp [own]))
      rw [Zc] at hwr
      have hnl:(nv (0 :: a.r)).length=a.r.length + 1:=by simp [nv]
      simp (disch:=omega) only [go_sem,↓cB,s2,s7,s8,s9,s10,sd,cr,ex,hwr]
      exact fin ⟨q,y,a,_,_,by simp (disch:=omega) only [go_sem,↓cB,s2,s7,s8,s9,s10,sd],am5,hy,hlx,hsx,hA2,hz,fun T hT=>Th hi hx0 hbet hA2 hz (hR T hT)⟩
     ·have hop1:0 < (a.pop (y / 2)).opn:=by show 0 < a.opn - 1; omega
      obtain ⟨c',r',hrea,hlits',hfl⟩:=U5 hi h0 hx0 hlx hA2 hop1
      have hrea':f.rea (y / 2)=some c':=hrea
      have hl':f.lits c'=y :: r':=hlits'
      have hcC':c' ∈ f.C:=hV.wi.rs q y c' hy hrea
      have hcl':=hV.wi.cl c' hcC'
      have hl2':2<=(f.lits c').length:=hcl'.1
      have hlen':(f.lits c').length<=n:=BQ hcl'.2.1 hcl'.2.2
      have htl:(f.lits c').length - 1=r'.length:=by rw [hl']; rfl
      have q0:A5 H4 ⟨H.size,0,none⟩=some (sp p):=am4.bs.cell 0
      have q11:A5 H4 ⟨p,11,none⟩=some (sl k.br (n + 1)):=am4.m.c 11
      have qr:A5 H4 ⟨k.br,y / 2,none⟩=some (pv c'):=by
       rw [am4.m.gb y3];show some (pn (f.rea (y / 2)))=_;rw [hrea']; rfl
      obtain ⟨lb',lo',lc',el',hlc',d0'⟩:=am4.m.xf (c:=c') hcC' hl2'
      have d0'':A5 H4 ⟨c',0,none⟩=some (.slice (some ⟨lb',lo',none⟩) (f.lits c').length lc'):=d0'
      have hlc2:(f.lits c').length<=lc':=hlc'
      have hne:¬ lc'=1:=by omega
      have cb:∀ {l:List Value} {H':A3} {R:Value->A3->Prop} {E:List PanicEntry->A3->Prop},@NO Tryz.prog (.func (.func 207) #[] #[hp H.size,hp G1.size,hp G2.size,hp G6.size]) l ⟨H'⟩ ⟨R⟩ ⟨E⟩ = @O0 Tryz.prog 207 (l ++ [hp H.size,hp G1.size,hp G2.size,hp G6.size]) ⟨H'⟩ ⟨R⟩ ⟨E⟩:=(rfl)
      simp (disch:=omega) only [go_sem,↓cB,s2,s7,s8,s9,s10,sd,q0,q11,hh,qr,d0'',hne,Z3,htl,cb]
      have hcell':∀ H1 f',RM H1 ow p n k f'->f'.lits=f.lits->f'.lb=f.lb->f'.C=f.C->∀ (i z:Nat),r'[i]?=some z->A5 H1 ⟨lb',lo' + 1 + i,none⟩=some (iv (z:Int)):=by
       intro H1 f' hm e1 e2 e3 i z hz;rw [show lo' + 1 + i=lo' + (i + 1) by omega];exact hm.zp (c:=c') (by rw [e3]; exact hcC') (by rw [e2]; exact el') (by rw [e1,hl']; exact hz)
      have hla':∀ z ∈ r',isC n z/\neg z ∈ f.tr:=by
       intro z hz;obtain ⟨j,hj,hj2⟩:=hfl z hz;exact ⟨hcl'.2.1 z (by rw [hlits']; simp [hz]),J2 hj2⟩
      have hrl:=Vi hi hA
      refine A7 (IZ am4 hr hi hn hstep (l:=r') (lb:=lb') (lo:=lo' + 1) (cap:=lc' - 1) hcell' hla' (by omega) (by show a.opn - 1 + _<=_; omega) (by show a.r.length + _<=_; omega)) ?_
      rintro v H5 ⟨rfl,f5,rv5,am5⟩
      obtain ⟨sn5,m5,os5,pl5,ac5,rfl,hpl5⟩:=am5.fe
      have u0:A5 H5 ⟨H.size,0,none⟩=some (sp p):=am5.bs.cell 0
      have u12:A5 H5 ⟨p,12,none⟩=some (sl k.bs (n + 1)):=am5.m.c 12
      obtain ⟨H6,w6,m6,e6⟩:=am5.m.yy (x:=y / 2) y3 false
      have hne2:∀ z ∈ r',z / 2 ≠ y / 2:=by
       intro z hz e;obtain ⟨j,hj,hj2⟩:=hfl z hz;have:=hi.ok.idx hj2 hx0 (by rw [Av]; exact e);omega
      have am6:AM H ow H6 p n k f ((f.zx (sn5.set (y / 2) false)).zj m5 os5 pl5 ac5) H.size G1.size G2.size G6.size rv5 0 (BE f.s f.st.length (a.pop (y / 2)) r'):=by
       have hmu:=Ng (s:=f.s) (here:=f.st.length) (v:=y / 2) r' { a with opn:=a.opn - 1 } hne2;have e:BE f.s f.st.length (a.pop (y / 2)) r' = { (BE f.s f.st.length { a with opn:=a.opn - 1 } r') with seen:=up1 (BE f.s f.st.length { a with opn:=a.opn - 1 } r').seen (y / 2) false }:=hmu;rw [e];refine am5.step m6 e6 ⟨_,m5,os5,pl5,ac5,rfl,hpl5⟩ fun v hv=>?_;have hsl:sn5.length=n + 1:=am5.m.ns;show bt (sn5.set (y / 2) false) v=_;unfold Go.Sat.up1;by_cases e:v=y / 2
       ·subst e; rw [J8 rfl,Dt (by rw [hsl]; exact y3)]
       ·rw [J4 e,Ds (Ne.symm e)]; exact am5.seen v hv
      simp (disch:=omega) only [go_sem,↓cB,s2,s7,s8,s9,s10,sd,u0,u12,hh,w6]
      have hAn:=E6 hi (here:=f.st.length) (at':=q) (fun i _=>DP) r' _ hA2 hfl
      have hOn:0 < (BE f.s f.st.length (a.pop (y / 2)) r').opn:=Yw hop1 (La r' _)
      exact fin ⟨q,hqa,_,_,rv5,by simp (disch:=omega) only [go_sem,↓cB,s2,s7,s8,s9,s10,sd],am6,hAn,hOn,fun T hT=>R8 hi (hV.gi.holds hV.wi hT) (fun i _=>DP) hqa hx0 hbet hA2 hrea hlits' hfl (hR T hT)⟩
    ·have hsf:a.seen (y / 2)=false:=hbet q y (by omega) hqa hy
     rw [hsf] at csn
     have hq1:(q:Int) - 1=((q - 1:Nat):Int):=by omega
     simp (disch:=omega) only [go_sem,↓cB,s2,s7,s8,s9,s10,sd]
     refine As (lk [tl 0,tl 1,tl 2,tl 3,tl 4,tl 5,tl 6,tl 7,tl 8,tl 9,tl 10,tl 11,tl 12,tl 13,tl 14] .fin) T.mixed ?_
     simp (disch:=omega) only [go_sem,↓cB,s2,s7,s8,s9,s10,sd,c0,c12,c14,ky,hh,csn,hq1]
     exact fin ⟨q - 1 - i,by omega,q - 1,rfl,by omega,by omega,rfl,by simp (disch:=omega) only [go_sem,↓cB,s2,s7,s8,s9,s10,sd]⟩
 ·clear am1 hA0 hO0 hR0
  rintro U H2 ⟨i,x0,a,f1,rv,⟨s2,s8,sd⟩,am,hx0,hlx,hsx,hA2,hz,hso⟩
  have hla:=Vi hi hA2
  have hla':a.r.length<=n:=hla
  have cr:A5 H2 ⟨G6.size,0,none⟩=some rv:=am.br.cell 0
  simp (disch:=omega) only [go_sem,↓cB,s2,s8,sd,cr]
  have hone:∀ u ∈ nv (neg x0 :: a.r),Cb u=true:=by
   intro u hu;obtain ⟨y,_,rfl⟩:=Ji.1 hu;rfl
  refine A7 (DH am.vr hone (by rw [Am]; show a.r.length + 1<=_; omega)) ?_
  rintro mv H3 ⟨f3,vm,om⟩
  have am3:=am.out f3
  have cr3:A5 H3 ⟨G6.size,0,none⟩=some rv:=am3.br.cell 0
  have c03:A5 H3 ⟨H.size,0,none⟩=some (sp p):=am3.bs.cell 0
  refine Hush.out ?_
  obtain ⟨sn,m,os,pl,ac,rfl,hpl⟩:=am3.fe
  have hvr:=am3.vr
  have hsn3:∀ v,v<=n->bt sn v=a.seen v:=am3.seen
  rcases hvr.ex with ⟨_,e⟩ | ⟨b,len,cap,pre,rest,rfl,hb,hl2',hl3',hl4'⟩
  ·simp [nv] at e
  have hlen':len=a.r.length + 1:=by rw [Jy,Am] at hl2'; exact hl2'.symm
  subst hlen'
  have hbl:=am.lv b (by simp [own])
  have hbH:b < H2.size:=am.vr.lt b (by simp [own])
  have hob:ow b=0:=am.z b hbl.1
  refine ⟨?_⟩
  simp (disch:=omega) only [go_sem,↓cB,s2,s8,sd,cr3,c03]
  refine A7 (Kv am3.m ⟨hr.vals,hr.lv⟩ hi (w:=upd f.w x (f.w x)) (by
   have:upd f.w x (f.w x)=f.w:=by
     funext q; by_cases e:q=x; · subst e; rw [A8]
     ·rw [Af e]
   rw [this]; exact hV.wi) hn (r0:=neg x0) (r:=a.r) hb hl4' hob (by rw [hl3',Jy]) (fun y hy=>by
    obtain ⟨_,j,hj,_⟩:=hA2.low y hy;exact ⟨by rw [<- neg_neg y]; exact C0 (hi.ok.code _ (J2 hj)),J2 hj⟩) (by omega)) ?_
  rintro v H4 ⟨m4,f4,r',rfl,v4,hsub,himp⟩
  refine Hush.out ?_
  have v4':Vec H4 3 1 (.slice (some ⟨b,pre.length,none⟩) (r'.length + 1) cap) (nv (neg x0 :: r')):=v4
  obtain ⟨H5,w5,am5⟩:=am3.dj (r0':=neg x0) (r':=r') v4' (by exact f4) (by intro q hq; left; simpa [own] using hq)
  have hr'l:r'.length<=a.r.length:=hsub.length_le
  have omv:∀ q ∈ own mv,H2.size<=q:=om
  have vm5:Vec H5 3 1 mv (nv (neg x0 :: a.r)):=by
   have h4:=vm.frame f4 (fun q hq=>by simp only [J6]; have:=om q hq; omega);have hG6:G6.size < H2.size:=am.br.lt;unfold HL.wr at w5;split at w5
   ·have e5:=Jj w5;subst e5;exact h4.frame (Fr.set (F:=[G6.size]) (by simp)) (fun q hq=>by simp only [J6]; have:=om q hq; omega)
   ·cases w5
  refine ⟨?_⟩
  obtain ⟨ma,mc,emv⟩:∃ ma mc,mv=.slice ma (a.r.length + 1) mc:=by
   obtain ⟨b',o',cap',e,_⟩:=Bc vm5 (i:=0) rfl;exact ⟨some ⟨b',o',none⟩,cap',by rw [e]; simp [nv]⟩
  subst emv
  simp (disch:=omega) only [go_sem,↓cB,s2,s8,sd,w5]
  refine Ae (fun j U H6=>∃ (q:Nat) (f6:Cf),j=a.r.length + 1 - q/\q<=a.r.length + 1/\(U.get 2=hp H.size/\U.get 8=hp G6.size/\U.get 95=.slice ma (a.r.length + 1) mc/\U.get 96=iv ((a.r.length + 1:Nat):Int)/\U.get 97=iv q/\U.ds = []) /\
   AM H ow H6 p n k f f6 H.size G1.size G2.size G6.size (.slice (some ⟨b,pre.length,none⟩) (r'.length + 1) cap) (neg x0) ⟨fun v=>if v ∈ ((neg x0 :: a.r).take q).map (· / 2) then false else a.seen v,a.opn - 1,r'⟩/\Vec H6 3 1 (.slice ma (a.r.length + 1) mc) (nv (neg x0 :: a.r))) (k:=a.r.length + 1) ?_ ?_
  ·refine ⟨0,(f.zx sn).zj m os pl ac,rfl,by omega,by simp (disch:=omega) only [go_sem,↓cB,s2,s8,sd],?_,vm5⟩
   simpa using am5
  ·clear s2 s8 sd am5 vm5
   rintro _ U H6 ⟨q,f6,rfl,hqa,⟨s2,s8,s95,s96,s97,sd⟩,am6,vm6⟩
   have hll:(neg x0 :: a.r).length=a.r.length + 1:=rfl
   have hcodes:=Ql hi hx0 hlx hA2
   have hcodes1:((neg x0 :: a.r).map (· / 2)).Nodup:=hcodes.1
   have hcodes2:∀ y ∈ neg x0 :: a.r,isC n y:=hcodes.2
   by_cases hqe:q=a.r.length + 1
   ·subst hqe
    have hsv:(fun v=>if v ∈ ((neg x0 :: a.r).take (a.r.length + 1)).map (· / 2) then false else a.seen v)=fun _=>false:=by
     funext v;rw [Yg (by simp)];split
     ·rfl
     ·rename_i hv;cases hb:a.seen v
      ·rfl
      ·exact absurd ((MK hi hx0 hlx hsx hA2 hz v).1 hb) hv
    rw [hsv] at am6
    simp (disch:=omega) only [go_sem,↓cB,s2,s8,s95,s96,s97,sd]
    have hkey:∀ y ∈ r',∃ j:Nat,f.tr[j]?=some (neg y)/\1<=lev f.st j/\f.s.lv (y / 2)=lev f.st j/\isC n y:=by
     intro y hy;obtain ⟨_,j,hj,h1,h2⟩:=hA2.low y (hsub.subset hy);exact ⟨j,hj,h1,F1 hi hj,by rw [<- neg_neg y]; exact C0 (hi.ok.code _ (J2 hj))⟩
    refine Ae (fun j U H7=>∃ (q to r0:Nat) (rr:List Nat),j=r'.length + 1 - q/\1<=q/\(U.get 2=hp H.size/\U.get 8=hp G6.size/\U.get 15=iv to/\U.get 16=iv q/\U.ds = []) /\
     AM H ow H7 p n k f f6 H.size G1.size G2.size G6.size (.slice (some ⟨b,pre.length,none⟩) (r'.length + 1) cap) r0 ⟨fun _=>false,a.opn - 1,rr⟩/\Top f.s.lv (neg x0 :: r') (r0 :: rr) to q/\q<=(r0 :: rr).length) (k:=r'.length) ?_ ?_
    ·exact ⟨1,0,neg x0,r',rfl,Jb _,by simp (disch:=omega) only [go_sem,↓cB,s2,s8,sd]; rfl,am6,Top.zero,by simp⟩
    ·clear s2 s8 s95 s96 s97 sd am6 vm6
     rintro _ U H7 ⟨q,to,r0,rr,rfl,h1q,⟨s2,s8,s15,s16,sd⟩,am7,ht,hql⟩
     have hlen7:(r0 :: rr).length=r'.length + 1:=ht.perm.length_eq
     have cr7:A5 H7 ⟨G6.size,0,none⟩=some (.slice (some ⟨b,pre.length,none⟩) (r'.length + 1) cap):=am7.br.cell 0
     by_cases hqe:q=r'.length + 1
     ·subst hqe
      simp (disch:=omega) only [go_sem,↓cB,s2,s8,s15,s16,sd,cr7]
      obtain ⟨sn7,m7,os7,pl7,ac7,rfl,hpl7⟩:=am7.fe
      obtain ⟨t,hlt,hperm,hlrn,hcase⟩:=Top.lrn hi h0 hx0 hlx hA2 (fun y hy=>hsub.subset hy) (by rw [hlen7]; exact ht)
      refine fin ⟨sn7,m7,os7,pl7,ac7,r0 :: rr,_,to,rfl,am7.m,hpl7,fun v hv=>by rw [am7.seen v hv],am7.e,am7.vr,fun q hq=>(am7.lv q hq).1,⟨x0,t,hlt,hlrn,hcase⟩,?_,?_⟩
      ·refine ⟨fun z hz=>?_,?_⟩
       ·have:=ht.perm.mem_iff.1 hz
        exact hcodes2 z ((List.Sublist.cons_cons (neg x0) hsub).subset this)
       ·exact (ht.perm.map _).nodup_iff.2 (hcodes1.sublist ((List.Sublist.cons_cons (neg x0) hsub).map _))
      ·intro T hT hall0
       obtain ⟨z,hz1,hz2⟩:=R3 hi (hV.gi.holds hV.wi hT) hx0 hlx hA2 (MK hi hx0 hlx hsx hA2 hz) (r:=r') (by
        intro z hzr;rcases himp z hzr with h1 | ⟨c',h1,h2⟩
        ·exact .inl h1
        ·refine .inr ⟨c',h1,fun y hy=>(h2 y hy).imp (fun h3=>?_) id⟩;obtain ⟨_,j,hj,_⟩:=hA2.low z hzr;have hcC2:=hV.wi.rs j (neg z) c' hj (by rw [Av]; exact h1);have hyc:=(hV.wi.cl c' hcC2).2.1 y (List.mem_of_mem_tail hy);rw [<- hsn3 _ (by have:=(AP hyc).2.2.1; omega)];exact h3) (hso T hT)
       exact hz2 (hall0 z (ht.perm.mem_iff.2 hz1))
     ·obtain ⟨y,hy⟩:∃ y,(r0 :: rr)[q]?=some y:=⟨_,J1 (by omega)⟩
      have hyd:(r0 :: rr).getD q 0=y:=by simp [List.getD,hy]
      have hyr:y ∈ r':=by
       have h2:rr[q - 1]?=some y:=by
        obtain ⟨q',rfl⟩:∃ q',q=q' + 1:=⟨q - 1,by omega⟩;exact hy
       exact ht.tail.mem_iff.1 (J2 h2)
      obtain ⟨j,hj,hj1,hjl,hyc⟩:=hkey y hyr
      obtain ⟨y1,y2,y3,y4⟩:=AP hyc
      have hh:=Gg y
      obtain ⟨b',o',cap',e,ky⟩:=Bc am7.vr (Bu hy)
      simp only [Value.slice.injEq,J5,Addr.mk.injEq,Zt] at e
      obtain ⟨⟨rfl,rfl⟩,-,rfl⟩:=e
      have c0:A5 H7 ⟨H.size,0,none⟩=some (sp p):=am7.bs.cell 0
      obtain ⟨sn7,m7,os7,pl7,ac7,hf7,hpl7⟩:=am7.fe
      have c10:A5 H7 ⟨p,10,none⟩=some (sl k.bl (n + 1)):=by have:=am7.m.c 10; exact this
      have clv:A5 H7 ⟨k.bl,y / 2,none⟩=some (iv (lev f.st j:Nat)):=by
       have h1:=am7.m.tn (f:=f6) (by rw [hf7]; exact ⟨hr.vals,hr.lv⟩) (i:=j) (x:=neg y) (by rw [hf7]; exact hj);rw [Av] at h1;rw [h1,hf7]
      have hq1:(q:Int) + 1=((q + 1:Nat):Int):=by omega
      simp (disch:=omega) only [go_sem,↓cB,s2,s8,s15,s16,sd,cr7]
      refine As (lk [tl 0,tl 1,tl 2,tl 3,tl 4,tl 5,tl 6,tl 7,tl 8,tl 9,tl 10,tl 11,tl 12] .fin) T.mixed ?_
      simp (disch:=omega) only [go_sem,↓cB,s2,s8,s15,s16,sd,cr7,c0,c10,ky,hh,clv]
      refine Ba (fun hb=>?_) (fun hb=>?_)
      ·have hlt:to < f.s.lv ((r0 :: rr).getD q 0 / 2):=by rw [hyd,hjl]; omega
       obtain ⟨z,hzz⟩:∃ z,(r0 :: rr)[1]?=some z:=⟨_,J1 (by omega)⟩
       have hzd:(r0 :: rr).getD 1 0=z:=by simp [List.getD,hzz]
       obtain ⟨b'',o'',cap'',e,kz⟩:=Bc am7.vr (Bu hzz)
       simp only [Value.slice.injEq,J5,Addr.mk.injEq,Zt] at e
       obtain ⟨⟨rfl,rfl⟩,-,rfl⟩:=e
       obtain ⟨b1,o1,cap1,e1,w8,v8,-⟩:=Vec.qs am7.vr (i:=1) (by rw [Am]; show 1 < (r0 :: rr).length; omega) (iv y)
       simp only [Value.slice.injEq,J5,Addr.mk.injEq,Zt] at e1
       obtain ⟨⟨rfl,rfl⟩,-,rfl⟩:=e1
       generalize hH8:Aw H7 ⟨b,pre.length + 1,none⟩ (iv y)=H8 at w8 v8
       have f8:Fr [b] H7 H8:=by rw [<- hH8]; exact Fr.set (by simp)
       obtain ⟨b1,o1,cap1,e1,w9,v9,-⟩:=Vec.qs v8 (i:=q) (by rw [Z2,Am]; show q < (r0 :: rr).length; omega) (iv z)
       simp only [Value.slice.injEq,J5,Addr.mk.injEq,Zt] at e1
       obtain ⟨⟨rfl,rfl⟩,-,rfl⟩:=e1
       generalize hH9:Aw H8 ⟨b,pre.length + q,none⟩ (iv z)=H9 at w9 v9
       have f9:Fr [b] H8 H9:=by rw [<- hH9]; exact Fr.set (by simp)
       have hsl:(sw (r0 :: rr) 1 q).length=(r0 :: rr).length:=Vv
       obtain ⟨r0',rr',hsw⟩:∃ r0' rr',sw (r0 :: rr) 1 q=r0' :: rr':=by
        cases h:sw (r0 :: rr) 1 q with
        | nil=>rw [h] at hsl; simp at hsl
        | cons u t=>exact ⟨u,t,rfl⟩
       have hnv:nv (r0' :: rr')=((nv (r0 :: rr)).set 1 (iv y)).set q (iv z):=by
        rw [<- hsw];unfold sw;rw [hyd,hzd];simp only [nv,Yn]
       have am9:=am7.inr (r0':=r0') (r':=rr') (by rw [hnv]; exact v9) (by exact f8.trans f9)
       have cr8:A5 H8 ⟨G6.size,0,none⟩=some (.slice (some ⟨b,pre.length,none⟩) (r'.length + 1) cap):=f8.zg cr7 (by simp only [J6]; intro e; exact (am7.lv b (by simp [own])).2.2.2.2 e.symm)
       simp (disch:=omega) only [go_sem,↓cB,s2,s8,s15,s16,sd]
       refine As (lk [tl 0,tl 1,tl 2,tl 3,tl 4,tl 5,tl 6,tl 7,tl 8,tl 9,tl 10,tl 11] .fin) T.mixed ?_
       simp (disch:=omega) only [go_sem,↓cB,s2,s8,s15,s16,sd,cr7,c0,c10,ky,hh,clv]
       refine Fc (lk [tl 0,fl 1,fl 2,tl 3,tl 4,tl 5,tl 6,tl 7,tl 8,tl 9,tl 10] (.act 11 (lk [tl 12] (.actd 13 .fin)) .non)) T.mixed [(⟨G6.size,0,none⟩,.slice (some ⟨b,pre.length,none⟩) (r'.length + 1) cap)] (B5 cr7) ?_
       simp (disch:=omega) only [go_sem,↓cB,s2,s8,s15,s16,sd,cr7,ky,kz,w8]
       refine B9 (B5 cr8) ?_
       simp (disch:=omega) only [go_sem,↓cB,s2,s8,s15,s16,sd,w9]
       refine fin ⟨r'.length + 1 - (q + 1),by omega,q + 1,lev f.st j,r0',rr',rfl,by omega,by simp (disch:=omega) only [go_sem,↓cB,s2,s8,s15,s16,sd,hq1],am9,?_,by rw [<- hsw,hsl]; omega⟩
       have:=ht.yes h1q (by omega) hlt
       rw [hyd,hjl,hsw] at this
       exact this
      ·simp (disch:=omega) only [go_sem,↓cB,s2,s8,s15,s16,sd]
       refine fin ⟨r'.length + 1 - (q + 1),by omega,q + 1,to,r0,rr,rfl,by omega,by simp (disch:=omega) only [go_sem,↓cB,s2,s8,s15,s16,sd,hq1],am7,?_,by omega⟩
       refine ht.no h1q (by omega) (fun y hy=>?_) (by rw [hyd,hjl]; omega) ht.tail
       obtain ⟨j',_,h2,h3,_⟩:=hkey y hy
       rw [h3]; exact h2
   ·obtain ⟨y,hy⟩:∃ y,(neg x0 :: a.r)[q]?=some y:=⟨_,J1 (by rw [hll]; omega)⟩
    have hym:=J2 hy
    obtain ⟨y1,y2,y3,y4⟩:=AP (hcodes2 y hym)
    have hh:=Gg y
    obtain ⟨mb,mo,mc',e,ky⟩:=Bc vm6 (Bu hy)
    simp only [Value.slice.injEq] at e
    obtain ⟨rfl,-,rfl⟩:=e
    have c0:A5 H6 ⟨H.size,0,none⟩=some (sp p):=am6.bs.cell 0
    have c12:A5 H6 ⟨p,12,none⟩=some (sl k.bs (n + 1)):=am6.m.c 12
    obtain ⟨sn6,m6,os6,pl6,ac6,rfl,hpl6⟩:=am6.fe
    obtain ⟨H7,w7,m7,e7⟩:=am6.m.yy (x:=y / 2) y3 false
    have hq1:(q:Int) + 1=((q + 1:Nat):Int):=by omega
    have htk:(neg x0 :: a.r).take (q + 1)=(neg x0 :: a.r).take q ++ [y]:=by rw [Jl,hy]; rfl
    have am7:=am6.step (sv:=fun v=>if v ∈ ((neg x0 :: a.r).take (q + 1)).map (· / 2) then false else a.seen v) m7 e7 ⟨_,m6,os6,pl6,ac6,rfl,hpl6⟩ (fun v hv=>by
     have hsl:sn6.length=n + 1:=am6.m.ns;have hold:=am6.seen v hv;show bt (sn6.set (y / 2) false) v=if v ∈ ((neg x0 :: a.r).take (q + 1)).map (· / 2) then false else a.seen v;have hold':bt sn6 v=if v ∈ ((neg x0 :: a.r).take q).map (· / 2) then false else a.seen v:=hold;rw [htk];by_cases e:v=y / 2
     ·subst e; rw [Dt (by rw [hsl]; exact y3),J8 (by simp)]
     ·rw [Ds (Ne.symm e),hold'];have:v ∈ ((neg x0 :: a.r).take q ++ [y]).map (· / 2)↔v ∈ ((neg x0 :: a.r).take q).map (· / 2):=by
       rw [Zf,Jh]; simp [e]
      simp only [this])
    simp (disch:=omega) only [go_sem,↓cB,s2,s8,s95,s96,s97,sd,ky,c0,c12,hh,w7]
    refine fin ⟨a.r.length + 1 - (q + 1),by omega,q + 1,_,rfl,by omega,by simp (disch:=omega) only [go_sem,↓cB,s2,s8,s95,s96,s97,sd,hq1],am7,?_⟩
    exact e7.vec vm6 (fun b hb=>am6.z b (by have h1:=omv b hb; have h2:=am.e.sm.size; omega))
end
end Go.Proofs.YtkdlmdmlomgdiaaGreat
namespace Go.Proofs
open Go.Shelf
def Tryz.vj:Go.Shelf.Ren:=⟨fun | 6=>52 | 15=>115 | 14=>114 | 28=>202 | 29=>203 | 20=>194 | 21=>195 | 22=>196 | 23=>197 | 24=>198 | 25=>199 | 26=>200 | 27=>201 | 46=>258 | 47=>259 | 48=>260 | 49=>261 | 50=>262 | 57=>300 | n=>n,fun | 22=>23 | 24=>3 | 25=>122 | 3=>3 | 39=>163 | 0=>0 | 53=>247 | 55=>249 | 4=>4 | 46=>241 | 45=>240 | 50=>191 | 5=>5 | 9=>9 | 66=>300 | 70=>304 | 76=>323 | 77=>324 | n=>n,fun | n=>n⟩
theorem Tryz.mq:Go.Proofs.SlLaysF.n6 Tryz.prog Tryz.vj:={
 mixed:=by kernel_rfl
 f6:=⟨Tryz.f52.name,by decide,Tryz.func52.trans (congrArg some (by kernel_rfl))⟩
 f14:=⟨Tryz.f114.name,by decide,Tryz.func114.trans (congrArg some (by kernel_rfl))⟩
 f15:=Tryz.func115.trans (congrArg some (by kernel_rfl))
 f20:=⟨Tryz.f194.name,by decide,Tryz.func194.trans (congrArg some (by kernel_rfl))⟩
 f21:=⟨Tryz.f195.name,by decide,Tryz.func195.trans (congrArg some (by kernel_rfl))⟩
 f22:=⟨Tryz.f196.name,by decide,Tryz.func196.trans (congrArg some (by kernel_rfl))⟩
 f23:=⟨Tryz.f197.name,by decide,Tryz.func197.trans (congrArg some (by kernel_rfl))⟩
 f24:=⟨Tryz.f198.name,by decide,Tryz.func198.trans (congrArg some (by kernel_rfl))⟩
 f25:=⟨Tryz.f199.name,by decide,Tryz.func199.trans (congrArg some (by kernel_rfl))⟩
 f26:=⟨Tryz.f200.name,by decide,Tryz.func200.trans (congrArg some (by kernel_rfl))⟩
 f27:=⟨Tryz.f201.name,by decide,Tryz.func201.trans (congrArg some (by kernel_rfl))⟩
 f28:=Tryz.func202.trans (congrArg some (by kernel_rfl))
 f29:=Tryz.func203.trans (congrArg some (by kernel_rfl))
 f46:=⟨Tryz.f258.name,by decide,Tryz.func258.trans (congrArg some (by kernel_rfl))⟩
 f47:=Tryz.func259.trans (congrArg some (by kernel_rfl))
 f48:=Tryz.func260.trans (congrArg some (by kernel_rfl))
 f49:=⟨Tryz.f261.name,by decide,Tryz.func261.trans (congrArg some (by kernel_rfl))⟩
 f50:=⟨Tryz.f262.name,by decide,Tryz.func262.trans (congrArg some (by kernel_rfl))⟩
 f57:=⟨Tryz.f300.name,by decide,Tryz.func300.trans (congrArg some (by kernel_rfl))⟩
 t0:=Tryz.underlying0
 a0:=Tryz.isAgg0
 z0:=Tryz.sizeOf0
 v0:=Tryz.zeroValue0
 t3:=Tryz.underlying3
 a3:=Tryz.isAgg3
 z3:=Tryz.sizeOf3
 v3:=Tryz.zeroValue3
 t4:=Tryz.underlying4
 a4:=Tryz.isAgg4
 z4:=Tryz.sizeOf4
 v4:=Tryz.zeroValue4
 t5:=Tryz.underlying5
 a5:=Tryz.isAgg5
 z5:=Tryz.sizeOf5
 v5:=Tryz.zeroValue5
 t9:=Tryz.underlying9
 a9:=Tryz.isAgg9
 z9:=Tryz.sizeOf9
 v9:=Tryz.zeroValue9
 t22:=Tryz.underlying23
 a22:=Tryz.isAgg23
 z22:=Tryz.sizeOf23
 v22:=Tryz.zeroValue23
 a24:=Tryz.isAgg3
 z24:=Tryz.sizeOf3
 t25:=Tryz.underlying122
 a25:=Tryz.isAgg122
 z25:=Tryz.sizeOf122
 v25:=Tryz.zeroValue122
 t39:=Tryz.underlying163
 a39:=Tryz.isAgg163
 z39:=Tryz.sizeOf163
 v39:=Tryz.zeroValue163
 t45:=Tryz.underlying240
 a45:=Tryz.isAgg240
 z45:=Tryz.sizeOf240
 v45:=Tryz.zeroValue240
 t46:=Tryz.underlying241
 a46:=Tryz.isAgg241
 z46:=Tryz.sizeOf241
 v46:=Tryz.zeroValue241
 t50:=Tryz.underlying191
 a50:=Tryz.isAgg191
 z50:=Tryz.sizeOf191
 v50:=Tryz.zeroValue191
 t53:=Tryz.underlying247
 a53:=Tryz.isAgg247
 z53:=Tryz.sizeOf247
 v53:=Tryz.zeroValue247
 t55:=Tryz.underlying249
 a55:=Tryz.isAgg249
 z55:=Tryz.sizeOf249
 v55:=Tryz.zeroValue249
 t66:=Tryz.underlying300
 a66:=Tryz.isAgg300
 z66:=Tryz.sizeOf300
 v66:=Tryz.zeroValue300
 t70:=Tryz.underlying304
 a70:=Tryz.isAgg304
 z70:=Tryz.sizeOf304
 v70:=Tryz.zeroValue304
 t76:=Tryz.underlying323
 a76:=Tryz.isAgg323
 z76:=Tryz.sizeOf323
 v76:=Tryz.zeroValue323
 t77:=Tryz.underlying324
 a77:=Tryz.isAgg324
 z77:=Tryz.sizeOf324
 v77:=Tryz.zeroValue324 }
def Tryz.pe:Go.Shelf.Ren:=⟨fun | 5=>54 | 7=>116 | n=>n,fun | 22=>3 | 3=>3 | 4=>4 | n=>n,fun | n=>n⟩
theorem Tryz.db:Go.Proofs.SlLaysC2.n5 Tryz.prog Tryz.pe:={
 mixed:=by kernel_rfl
 f5:=⟨Tryz.f54.name,by decide,Tryz.func54.trans (congrArg some (by kernel_rfl))⟩
 f7:=⟨Tryz.f116.name,by decide,Tryz.func116.trans (congrArg some (by kernel_rfl))⟩
 t3:=Tryz.underlying3
 a3:=Tryz.isAgg3
 z3:=Tryz.sizeOf3
 v3:=Tryz.zeroValue3
 t4:=Tryz.underlying4
 a4:=Tryz.isAgg4
 z4:=Tryz.sizeOf4
 v4:=Tryz.zeroValue4
 t22:=Tryz.underlying3
 a22:=Tryz.isAgg3
 z22:=Tryz.sizeOf3
 v22:=Tryz.zeroValue3 }
end Go.Proofs
namespace Go.Sat
def ltN (a b:Int):Prop:=a.natAbs < b.natAbs\/a.natAbs=b.natAbs/\b < a
def leN (a b:Int):Prop:=ltN a b\/a=b
theorem XC {a b:Int} (h:leN a b) (hn:b ≠ a):ltN a b:=h.resolve_right (fun e=>hn e.symm)
theorem Lb {a b c:Int} (h:ltN a b) (h':ltN b c):ltN a c:=by unfold ltN at *; omega
theorem IG {a:Int}:¬ ltN a a:=by unfold ltN; omega
theorem RS {a b:Int} (h:ltN a b):¬ ltN b a:=by unfold ltN at *; omega
theorem Td {l:List Int} (hs:l.Pairwise ltN) {x:Int} (h1:x ∈ l) (h2:-x ∈ l) (h0:x ≠ 0):∃ i:Nat,∃ y,l[i]?=some y/\l[i + 1]?=some (-y):=by
 have key:∀ (x:Int),0 < x->x ∈ l->-x ∈ l->∃ i:Nat,∃ y,l[i]?=some y/\l[i + 1]?=some (-y):=by
  intro x hx h1 h2;obtain ⟨i,hi⟩:=Jc h1;obtain ⟨j,hj⟩:=Jc h2;obtain ⟨hil,ei⟩:=J3.1 hi;obtain ⟨hjl,ej⟩:=J3.1 hj;have hp:=Zz.1 hs;have hij:i < j:=by
   rcases Zg i j with h | h | h
   ·exact h
   ·subst h; rw [ei] at ej; omega
   ·have:=hp j i hjl hil h;rw [ei,ej] at this;unfold ltN at this; omega
  refine ⟨i,x,hi,?_⟩;by_cases e:j=i + 1
  ·subst e; exact hj
  ·exfalso;have a1:=hp i (i + 1) hil (by omega) (by omega);have a2:=hp (i + 1) j (by omega) hjl (by omega);rw [ei] at a1;rw [ej] at a2;unfold ltN at a1 a2;omega
 rcases Int.lt_or_gt_of_ne h0 with h | h
 ·exact key (-x) (by omega) h2 (by rw [Int.neg_neg]; exact h1)
 ·exact key x h h1 h2
theorem Lx {l:List Int} (hs:l.Pairwise ltN):l.Nodup:=hs.imp fun h e=>by subst e; exact IG h
theorem KL:∀ {l m:List Int},l.Pairwise ltN->m.Pairwise ltN->(∀ x,x ∈ l↔x ∈ m)->l=m
 | [],[],_,_,_=>rfl
 | [],b :: m,_,_,h=>by have:=(h b).2 (by simp); simp at this
 | a :: l,[],_,_,h=>by have:=(h a).1 (by simp); simp at this
 | a :: l,b :: m,hl,hm,h=>by
  have hl':=W6.1 hl;have hm':=W6.1 hm;have e:a=b:=by
   have h1:=(h a).1 (by simp);have h2:=(h b).2 (by simp);rcases J7.1 h1 with e | h1
   ·exact e
   ·rcases J7.1 h2 with e | h2
    ·exact e.symm
    ·exact absurd (hm'.1 a h1) (RS (hl'.1 b h2))
  subst e;have:l=m:=KL hl'.2 hm'.2 fun x=>by
   constructor
   ·intro hx;have:=(h x).1 (by simp [hx]);rcases J7.1 this with e | h1
    ·subst e; exact absurd (hl'.1 x hx) IG
    ·exact h1
   ·intro hx;have:=(h x).2 (by simp [hx]);rcases J7.1 this with e | h1
    ·subst e; exact absurd (hm'.1 x hx) IG
    ·exact h1
  rw [this]
structure Cpt (xs zs:List Int) (q:Nat):Prop where
 le:zs.length<=q
 str:zs.Pairwise ltN
 mem:∀ x,x ∈ zs↔x ∈ xs.take q
 last:zs.getLast?=xs[q - 1]?
theorem Cpt.same {xs zs:List Int} {q:Nat} {x:Int} (h:Cpt xs zs q) (h1:1<=q) (hx:xs[q]?=some x) (hp:xs[q - 1]?=some x):Cpt xs zs (q + 1):=by
 have ht:xs.take (q + 1)=xs.take q ++ [x]:=(by rw [Jl,hx]; rfl);refine ⟨by have:=h.le; omega,h.str,fun y=>?_,by rw [W4,hx,h.last,hp]⟩;rw [ht,h.mem];simp only [Jh,J6];constructor
 ·exact .inl
 ·rintro (h2 | rfl)
  ·exact h2
  ·have hl:=(J3.1 hp).1;have:(xs.take q)[q - 1]?=some y:=(by rw [Xj,J8 (by omega)]; exact hp);exact J2 this
theorem Cpt.more {xs zs:List Int} {q:Nat} {x y:Int} (h:Cpt xs zs q) (h1:1<=q) (hs:xs.Pairwise leN) (hx:xs[q]?=some x) (hp:xs[q - 1]?=some y) (hne:x ≠ y):Cpt xs (zs ++ [x]) (q + 1):=by
 have ht:xs.take (q + 1)=xs.take q ++ [x]:=(by rw [Jl,hx]; rfl);refine ⟨by have:=h.le; simp; omega,?_,fun z=>?_,by simp [hx]⟩
 ·refine Xg.2 ⟨h.str,by simp,fun a ha b hb=>?_⟩;rw [J6] at hb;subst hb;have hyx:ltN y b:=by
   obtain ⟨hl1,e1⟩:=J3.1 hx;obtain ⟨hl2,e2⟩:=J3.1 hp;have:=Zz.1 hs (q - 1) q hl2 hl1 (by omega);rw [e1,e2] at this;exact XC this hne
  have hlast:=h.last;rw [hp] at hlast;obtain ⟨zi,hz⟩:∃ zi,zs=zi ++ [y]:=by
   rw [List.getLast?_eq_some_iff] at hlast;exact hlast
  rw [hz] at ha;rcases Jh.1 ha with ha | ha
  ·have hst:=h.str;rw [hz] at hst;exact Lb ((Xg.1 hst).2.2 a ha y (by simp)) hyx
  ·rw [J6] at ha; subst ha; exact hyx
 ·rw [ht]; simp only [Jh,h.mem]
theorem Cpt.one {xs:List Int} {x:Int} (hx:xs[0]?=some x):Cpt xs [x] 1:=by
 have ht:xs.take 1 = [x]:=(by rw [Jl,hx]; simp);refine ⟨Jb _,by simp,fun y=>by rw [ht],by simp [hx]⟩
theorem Cpt.all {xs zs:List Int} (h:Cpt xs zs xs.length):zs.Pairwise ltN/\∀ x,x ∈ zs↔x ∈ xs:=⟨h.str,fun x=>by rw [h.mem,Jr]⟩
end Go.Sat
namespace Go.Proofs.YtkdlmdmlomgdiaaGreat
open Go.HL HM Go.Sat
section
variable {H:A3}
theorem DJ {b t:Nat} {pre rest:List Value} {M:List Int} (hb:Blk H b t (pre ++ M.map iv ++ rest)) {j:Nat} {x:Int} (hx:M[j]?=some x):A5 H ⟨b,pre.length + j,none⟩=some (iv x):=by
 have hl:=(J3.1 hx).1;rw [hb.cell,Je,Jf (by omega),Jg (by simp; omega),show pre.length + j - pre.length=j by omega,Z0,hx];rfl
theorem Mj {b cap:Nat} {pre rest:List Value} {xs:List Int} (hb:Blk H b 3 (pre ++ xs.map iv ++ rest)) (hcap:xs.length<=cap) (hre:rest.length=cap - xs.length) (hs:xs.Pairwise leN) (hlen:xs.length<=1000000) :
  CallF Tryz.prog 55 [.slice (some ⟨b,pre.length,none⟩) xs.length cap] H (fun v H'=>Fr [b] H H'/\∃ zs:List Int,v=.slice (some ⟨b,pre.length,none⟩) zs.length cap/\Vec H' 3 1 v (zs.map iv)/\zs.Pairwise ltN/\(∀ x,x ∈ zs↔x ∈ xs)/\zs.length<=xs.length) NoP:=by
 have FJ:∀ (H':A3) (zs:List Int) (M:List Value),Blk H' b 3 (pre ++ zs.map iv ++ M)->M.length=cap - zs.length->zs.length<=cap->Vec H' 3 1 (.slice (some ⟨b,pre.length,none⟩) zs.length cap) (zs.map iv) :=
  fun H' zs M h1 h2 h3=>⟨.inr ⟨b,zs.length,cap,pre,M,rfl,h1,by simp,by simpa using h2,h3⟩⟩
 refine A9 Tryz.func55 rfl Tryz.ntmps55 Tryz.results55 (by decide) rfl ?_
 by_cases h2:xs.length < 2
 ·simp (disch:=omega) only [go_sem,↓cB]
  refine fin ⟨Fr.refl _ _,xs,rfl,FJ H xs rest hb hre hcap,?_,fun x=>Iff.rfl,Jb _⟩
  match xs,h2 with
  | [],_=>exact Va
  | [x],_=>simp
  | _ :: _ :: _,h=>simp at h; omega
 ·simp (disch:=omega) only [go_sem,↓cB]
  refine Ae (fun j U H1=>∃ i:Nat,j=xs.length - i/\1<=i/\i<=xs.length/\(U.get 0=.slice (some ⟨b,pre.length,none⟩) xs.length cap/\U.get 3=iv i/\U.ds = [])/\H1=H/\Cpt xs (xs.take i) i) (k:=xs.length - 1) ?_ ?_
  ·obtain ⟨x,hx⟩:∃ x,xs[0]?=some x:=⟨_,J1 (by omega)⟩
   have ht:xs.take 1 = [x]:=by rw [Jl,hx]; simp
   exact ⟨1,rfl,Jb _,by omega,by simp (disch:=omega) only [go_sem,↓cB]; rfl,rfl,by rw [ht]; exact Cpt.one hx⟩
  ·rintro _ U H1 ⟨i,rfl,h1i,hil,⟨r0,r3,rd⟩,rfl,hc⟩
   by_cases hie:i=xs.length
   ·subst hie
    rw [Jr] at hc
    simp (disch:=omega) only [go_sem,↓cB,r0,r3,rd]
    exact fin ⟨Fr.refl _ _,xs,rfl,FJ _ xs rest hb hre hcap,hc.all.1,fun x=>Iff.rfl,Jb _⟩
   ·obtain ⟨x,hx⟩:∃ x,xs[i]?=some x:=⟨_,J1 (by omega)⟩
    obtain ⟨y,hy⟩:∃ y,xs[i - 1]?=some y:=⟨_,J1 (by omega)⟩
    have kx:=DJ hb hx
    have ky:=DJ hb hy
    have hi1:(i:Int) - 1=((i - 1:Nat):Int):=by omega
    have hi2:(i:Int) + 1=((i + 1:Nat):Int):=by omega
    have ht:xs.take (i + 1)=xs.take i ++ [x]:=by rw [Jl,hx]; rfl
    simp (disch:=omega) only [go_sem,↓cB,r0,r3,rd]
    refine As (lk [tl 0,tl 1,tl 2,tl 3,tl 4,tl 5,tl 6,tl 7,tl 8,tl 9] .fin) T.mixed ?_
    simp (disch:=omega) only [go_sem,↓cB,r0,r3,rd,kx,ky,hi1]
    refine Ba (fun hb2=>?_) (fun hb2=>?_)
    ·subst hb2
     have hne:¬ cap=i:=by omega
     have hll:((xs.length - i:Nat):Int)=(xs.length:Int) - i:=by omega
     simp (disch:=omega) only [go_sem,↓cB,r0,r3,rd,hne,Z3]
     refine Ae (fun j U H2=>∃ (q:Nat) (zs M:List Int),j=xs.length - q/\i + 1<=q/\q<=xs.length/\(U.get 0=.slice (some ⟨b,pre.length,none⟩) xs.length cap/\U.get 3=iv zs.length/\U.get 4=.slice (some ⟨b,pre.length + i,none⟩) (xs.length - i) (cap - i)/\U.get 5=iv ((q - i:Nat):Int)/\U.ds = []) /\
      Fr [b] H1 H2/\Blk H2 b 3 (pre ++ M.map iv ++ rest)/\M.length=xs.length/\zs.length < q/\M.take zs.length=zs/\(∀ j:Nat,q - 1<=j->M[j]?=xs[j]?)/\Cpt xs zs q) (k:=xs.length - i - 1) ?_ ?_
     ·refine ⟨i + 1,xs.take i,xs,by omega,by omega,by omega,?_,Fr.refl _ _,hb,rfl,by simp; omega,by simp,fun j _=>rfl,hc.same h1i hx hy⟩
      have e1:(xs.take i).length=i:=by simp; omega
      have e2:i + 1 - i=1:=by omega
      rw [e1,e2]
      simp (disch:=omega) only [go_sem,↓cB,r0,r3,rd]
      rfl
     ·clear r0 r3 rd kx ky hx hy hc ht hi1 hi2
      rintro _ U H2 ⟨q,zs,M,rfl,hiq,hql,⟨r0,r3,r4,r5,rd⟩,f2,b2,hM,hzq,hzM,hor,hc⟩
      by_cases hqe:q=xs.length
      ·subst hqe
       have hz:zs.length < xs.length:=hzq
       have hMs:M.map iv=zs.map iv ++ (M.drop zs.length).map iv:=by
         rw [<- Zf]; congr 1; conv=>rhs; lhs; rw [<- hzM]
         exact (Zn _ _).symm
       have b2':=b2
       rw [hMs,<- Je] at b2'
       obtain ⟨H3,w3,b3,f3⟩:=Gu (List.replicate (xs.length - zs.length) (iv 0)) (pre ++ zs.map iv) _ _ H2 b2' (by simp [hM])
       rw [Jv,Jm] at w3
       have hne2:¬ cap=zs.length:=by omega
       simp (disch:=omega) only [go_sem,↓cB,r0,r3,r4,r5,rd,hne2,Z3]
       refine Lk T.zk.under T.zk.zero rfl rfl w3 ?_
       simp (disch:=omega) only [go_sem,↓cB,r0,r3,r4,r5,rd]
       refine fin ⟨f2.trans f3,zs,rfl,FJ H3 zs (List.replicate (xs.length - zs.length) (iv 0) ++ rest) (by rw [<- Je]; exact b3) (by simp; omega) (by omega),hc.all.1,hc.all.2,by omega⟩
      ·obtain ⟨x,hx⟩:∃ x,xs[q]?=some x:=⟨_,J1 (by omega)⟩
       obtain ⟨y,hy⟩:∃ y,xs[q - 1]?=some y:=⟨_,J1 (by omega)⟩
       have kx:=DJ b2 (by rw [hor q (by omega)]; exact hx)
       have ky:=DJ b2 (by rw [hor (q - 1) (by omega)]; exact hy)
       have e1:pre.length + i + (q - i)=pre.length + q:=by omega
       have e2:((q - i:Nat):Int) - 1=((q - 1 - i:Nat):Int):=by omega
       have e3:pre.length + i + (q - 1 - i)=pre.length + (q - 1):=by omega
       have e4:((q - i:Nat):Int) + 1=((q + 1 - i:Nat):Int):=by omega
       simp (disch:=omega) only [go_sem,↓cB,r0,r3,r4,r5,rd]
       refine As (lk [tl 0,tl 1,tl 2,tl 3,tl 4,tl 5,tl 6,tl 7,tl 8,tl 9] .fin) T.mixed ?_
       simp (disch:=omega) only [go_sem,↓cB,r0,r3,r4,r5,rd,e1,e2,e3,kx,ky]
       refine Ba (fun hb3=>?_) (fun hb3=>?_)
       ·have w3:=Blk.wr b2 (i:=pre.length + zs.length) (by simp; omega) (iv x)
        have b3:=Blk.set b2 (pre.length + zs.length) (iv x)
        generalize hH3:Aw H2 ⟨b,pre.length + zs.length,none⟩ (iv x)=H3 at w3 b3
        have f3:Fr [b] H2 H3:=by rw [<- hH3]; exact Fr.set (by simp)
        have hz1:(zs.length:Int) + 1=((zs ++ [x]).length:Int):=by simp
        simp (disch:=omega) only [go_sem,↓cB,r0,r3,r4,r5,rd,e1,kx,w3,hz1]
        refine fin ⟨xs.length - (q + 1),by omega,q + 1,zs ++ [x],M.set zs.length x,rfl,by omega,by omega,by simp (disch:=omega) only [go_sem,↓cB,r0,r3,r4,r5,rd,e4,hz1],f2.trans f3,?_,by simp [hM],by simp; omega,?_,fun j hj=>?_,hc.more (by omega) hs hx hy (by simpa using hb3)⟩
        ·have:pre ++ (M.set zs.length x).map iv ++ rest=(pre ++ M.map iv ++ rest).set (pre.length + zs.length) (iv x):=by
          rw [Yn,Je,Je,Yl _ _ (by omega),Y2,List.set_append_left _ _ (by simp; omega)]
         rw [this]; exact b3
        ·rw [Jv,Zo,Jl,List.take_set_of_le (Jb _),hzM,Xa (by omega)]
         rfl
        ·rw [Y6 (by omega)]; exact hor j (by omega)
       ·have hxy:x=y:=by simpa using hb3
        subst hxy
        simp (disch:=omega) only [go_sem,↓cB,r0,r3,r4,r5,rd]
        exact fin ⟨xs.length - (q + 1),by omega,q + 1,zs,M,rfl,by omega,by omega,by simp (disch:=omega) only [go_sem,↓cB,r0,r3,r4,r5,rd,e4],f2,b2,hM,by omega,hzM,fun j hj=>hor j (by omega),hc.same (by omega) hx hy⟩
    ·have hxy:x ≠ y:=by simpa using hb2
     simp (disch:=omega) only [go_sem,↓cB,r0,r3,rd]
     exact fin ⟨xs.length - (i + 1),by omega,i + 1,rfl,by omega,by omega,by simp (disch:=omega) only [go_sem,↓cB,r0,r3,rd,hi2],rfl,by rw [ht]; exact hc.more h1i hs hx hy hxy⟩
end
end Go.Proofs.YtkdlmdmlomgdiaaGreat
namespace Go.HL
open Go.ChangeShapes Go.WideShapes Go.ChangeAt Go.RowKit
theorem Iq {P:Program} {f:FuncId} {fn:Func} {args:List Value} {H:A3} {R:Value->A3->Prop} {E:List PanicEntry->A3->Prop} (hf:P.funcs[f]?=some fn) (hb:fn.body.isNone=false)
  (hm:(fn.name == "runtime.NumGoroutine")=false) (h:CallF P f args H R E):HCalls P f args.toArray H R E:=by
 unfold CallF callFunc at h
 rw [Az] at h
 have h':hwp P (match P.funcs[f]? with
  | none=>stuck "call: no such function"
  | some fn =>
   if fn.name == "runtime.NumGoroutine" then pure .numGoroutine
   else if fn.body.isNone then do
    mark (.extern f)
    if let some e:=Extern.findNext fn then return <- e args.toArray
    match Extern.find fn with
    | some e=>pure (.value (<- e args.toArray))
    | none =>
     if fn.name.endsWith ".init" && !fn.name.startsWith "(" && !fn.name.startsWith "gosem." then pure (.value (.tuple #[]))
     else unsupported (.extern fn.name)
   else pure (.enter f args.toArray)) H (fun nx H'=>match nx with
  | .value v=>R v H'
  | .enter f xs=>HCalls P f xs H' R E
  | _=>False) (fun v H'=>E [{ v,recovered:=false }] H'):=h
 rw [hf] at h'
 simp only [hm,hb,Z7,Z3] at h'
 exact h'
section
variable {H:Type} {enc:TypeId × Value->H} {P:Program}
theorem Ku (hl:laidOutB P=true) {W W':World} {sp:Nat->Bool}:∀ (ts:List TypeId) (vs:List Value) (ds:List (DataW H)) (ps:List MemPlace),(∀ t ∈ ts,P.readableRec t=true/\t < P.types.size) ->
  DataW.TrodAll enc P W 0 (fun _=>true) true ts vs ds ps->(∀ p ∈ ps,W.sameAt W' p)->(∀ p ∈ ps,sp p.block=true)->DataW.TrodAll enc P W' 0 sp true ts vs ds ps:=by
 intro ts
 induction ts with
 | nil=>intro vs ds ps _ h _ _; cases vs <;> cases ds <;> first | exact h | exact h.elim
 | cons t ts ih =>
  intro vs ds ps hr h hs hsp;cases vs with
  | nil=>exact h.elim
  | cons v vs =>
   cases ds with
   | nil=>exact h.elim
   | cons d ds =>
    obtain ⟨p,q,h1,h2,rfl⟩:=h;exact ⟨p,q,WideElems.Trod_stays hl (hr t (by simp)).1 (hr t (by simp)).2 h1 (fun x hx=>hs x (by simp [hx])) (fun x hx=>hsp x (by simp [hx])),
     ih vs ds q (fun u hu=>hr u (by simp [hu])) h2 (fun x hx=>hs x (by simp [hx])) (fun x hx=>hsp x (by simp [hx])),rfl⟩
theorem RZ {f:Func} {s:ChangeSpec} {W W':World} {args:Array Value} {ds gs:List (DataW H)} {before:List MemPlace} {tb:TypeId} (hl:laidOutB P=true) (hr:∀ t ∈ f.params.toList,P.readableRec t=true/\t < P.types.size)
  (hres:f.resultTypes = #[tb]) (htb:P.underlying tb=some .bool) (hsv:s.vars = []) (hsr:(s.fn H (ds ++ gs)).results = [.lit (.bool true)]) (hsa:(s.fn H (ds ++ gs)).args=ds) (hsg:(s.fn H (ds ++ gs)).vars = [])
  (hW:DataW.Whole enc P f.params.toList s.vars false W args.toList ds gs before) (hb:Below W.heap.size W W'):s.post enc P f false true false false W args (.bool true) W':=by
 have hW':=hW
 obtain ⟨p,q,hA,hV,rfl,hfz,hnd⟩:=hW
 have hlt:∀ x ∈ p,x.block < W.heap.size:=fun x hx=>hW'.lt x (by simp [hx])
 refine ⟨ds,gs,p ++ q,[],p,[],hW',?_,?_,?_,hb.frame _,fun h=>by cases h⟩
 ·rw [hres,hsr]
  exact trodAll_cons_mk (shut_bool htb true) trodAll_mk0
 ·rw [hsa]
  exact Ku hl _ _ _ _ hr hA (fun x hx=>hb.same (hlt x hx)) (fun x hx=>by simpa using hlt x hx)
 ·rw [hsv,hsg]; rfl
theorem Ir {f:FuncId} {args:Array Value} {W:World} {R:World->Prop} (h:HCalls P f args W.heap (fun r H'=>r=.bool true/\Fr [] W.heap H') NoP)
  (hR:∀ W',Below W.heap.size W W'->R W'):Calls P f args W fun e W'=>∃ v,e=.returned v/\v=.bool true/\R W':=by
 refine (h W rfl).mono ?_
 rintro e W' ⟨hr,hx⟩
 cases e with
 | returned v =>
  obtain ⟨rfl,hf⟩:=hx;exact ⟨_,rfl,rfl,hR W' ⟨hr.os,hr.tape,hr.output,hf.size,fun k hk=>hf.same k hk (by simp)⟩⟩
 | panicked c=>exact hx.elim
 | outgrown=>exact hx.elim
end
end Go.HL
namespace Go.Proofs.YtkdlmdmlomgdiaaGreat
open Go.HL HM Go.Sat
def AE (x:Int):Bool:=decide (x ≠ 0/\-100000<=x/\x<=100000)
abbrev Lt:={x:Int // -100000<=x/\x<=100000}
instance:Inhabited Lt:=⟨⟨0,by omega⟩⟩
def KF (x:Lt):Value:=.int .i64 x.1
def cfN (x y:Lt):Int:=if Lib.compareInt x.1.natAbs y.1.natAbs=0 then Lib.compareInt y.1 x.1 else Lib.compareInt x.1.natAbs y.1.natAbs
instance decLtN {a b:Int}:Decidable (ltN a b):=by unfold ltN; infer_instance
theorem Dc (x y:Lt):ltOf cfN x y=decide (ltN x.1 y.1):=by
 unfold ltOf cfN Lib.compareInt
 refine Xr.2 ?_
 unfold ltN
 by_cases h1:(x.1.natAbs:Int) < y.1.natAbs
 ·simp [h1]; omega
 ·by_cases h2:(y.1.natAbs:Int) < x.1.natAbs
  ·simp [h1,h2]; omega
  ·simp only [h1,h2,Z3,Zr]
   by_cases h3:y.1 < x.1
   ·simp [h3]; omega
   ·by_cases h4:x.1 < y.1
    ·simp [h3,h4]; omega
    ·simp [h3,h4]; omega
theorem j53:Sort.SWO (ltOf cfN) where
 irrefl x:=by rw [Dc]; simp [IG]
 trans x y z h1 h2:=by
  rw [Dc] at *
  simp only [Jk] at *
  exact Lb h1 h2
 ntrans x y z h1 h2:=by
  rw [Dc] at *
  simp only [Zy] at *
  unfold ltN at *; omega
theorem KJ (x:Int) (hx:-100000<=x/\x<=100000) (W:World):Calls Tryz.prog 51 #[.int .i64 x] W fun e w'=>e=.returned (.int .i64 (x.natAbs:Nat))/\w'=W:=by
 by_cases h:x < 0
 ·have hn:((x.natAbs:Nat):Int) = -x:=by omega
  rw [hn]
  go_enter Tryz.func51,Tryz.ntmps51
  go_wp2
  go_ret
  exact ⟨rfl,rfl⟩
 ·have hn:((x.natAbs:Nat):Int)=x:=by omega
  rw [hn]
  go_enter Tryz.func51,Tryz.ntmps51
  go_wp2
  go_ret
  exact ⟨rfl,rfl⟩
theorem QH (x y:Lt) (W:World):Calls Tryz.prog 53 #[KF x,KF y] W fun e w'=>e=.returned (.int .i64 (cfN x y))/\∃ q,w'=W.drewN q:=by
 have hx:=x.2
 have hy:=y.2
 obtain ⟨x,hx0⟩:=x
 obtain ⟨y,hy0⟩:=y
 simp only at hx hy
 unfold cfN KF
 simp only
 have v1:=fun W=>KJ x hx W
 have v2:=fun W=>KJ y hy W
 have c1:=fun W=>AnyG.cmp_Compare_int Tryz.db (x.natAbs:Int) (y.natAbs:Int) W
 have c2:=fun W=>AnyG.cmp_Compare_int Tryz.db y x W
 change ∀ W,Calls Tryz.prog 54 _ _ _ at c1
 change ∀ W,Calls Tryz.prog 54 _ _ _ at c2
 generalize (x.natAbs:Int)=ax at c1 v1 ⊢
 generalize (y.natAbs:Int)=ay at c1 v2 ⊢
 generalize Lib.compareInt ax ay=r1 at c1 ⊢
 generalize Lib.compareInt y x=r2 at c2 ⊢
 by_cases hr:r1=0
 ·subst hr
  rw [J8 rfl]
  go_enter Tryz.func53,Tryz.ntmps53
  go_wp2_with (first | (go_at_call 51; with_reducible refine (v1 _).mono ?_; rintro e w' ⟨rfl,rfl⟩) | (go_at_call 51; with_reducible refine (v2 _).mono ?_; rintro e w' ⟨rfl,rfl⟩) | (go_at_call 54; with_reducible refine (c1 _).mono ?_; rintro e w' ⟨rfl,rfl⟩) | (go_at_call 54; with_reducible refine (c2 _).mono ?_; rintro e w' ⟨rfl,rfl⟩))
  go_ret
  exact ⟨rfl,0,rfl⟩
 ·rw [J4 hr]
  go_enter Tryz.func53,Tryz.ntmps53
  go_wp2_with (first | (go_at_call 51; with_reducible refine (v1 _).mono ?_; rintro e w' ⟨rfl,rfl⟩) | (go_at_call 51; with_reducible refine (v2 _).mono ?_; rintro e w' ⟨rfl,rfl⟩) | (go_at_call 54; with_reducible refine (c1 _).mono ?_; rintro e w' ⟨rfl,rfl⟩) | (go_at_call 54; with_reducible refine (c2 _).mono ?_; rintro e w' ⟨rfl,rfl⟩))
  go_ret
  exact ⟨rfl,0,rfl⟩
theorem Is {P:Program} {f:FuncId} {fn:Func} {args:List Value} {H:A3} {R:Value->A3->Prop} {E:List PanicEntry->A3->Prop} (hf:P.funcs[f]?=some fn) (hb:fn.body.isNone=false)
  (hm:(fn.name == "runtime.NumGoroutine")=false) (h:HCalls P f args.toArray H R E):CallF P f args H R E:=by
 unfold CallF callFunc
 rw [Az]
 show hwp P (match P.funcs[f]? with
  | none=>stuck "call: no such function"
  | some fn =>
   if fn.name == "runtime.NumGoroutine" then pure .numGoroutine
   else if fn.body.isNone then do
    mark (.extern f)
    if let some e:=Extern.findNext fn then return <- e args.toArray
    match Extern.find fn with
    | some e=>pure (.value (<- e args.toArray))
    | none =>
     if fn.name.endsWith ".init" && !fn.name.startsWith "(" && !fn.name.startsWith "gosem." then pure (.value (.tuple #[]))
     else unsupported (.extern fn.name)
   else pure (.enter f args.toArray)) H (fun nx H'=>match nx with
  | .value v=>R v H'
  | .enter f xs=>HCalls P f xs H' R E
  | _=>False) (fun v H'=>E [{ v,recovered:=false }] H')
 rw [hf]
 simp only [hm,hb,Z7,Z3]
 exact h
theorem j3k {α:Type} {a b c:List α} {i:Nat}:(a ++ b ++ c)[i]?=if i < a.length then a[i]? else if i < a.length + b.length then b[i - a.length]? else c[i - a.length - b.length]?:=by
 by_cases h1:i < a.length
 ·rw [J8 h1,Je,Jg h1]
 ·rw [J4 h1,Je,Jf (by omega)]
  by_cases h2:i < a.length + b.length
  ·rw [J8 h2,Jg (by omega)]
  ·rw [J4 h2,Jf (by omega)]
theorem I0 {P:Program} {f:FuncId} {fn:Func} {c:Code} {args:List Value} {H:A3} {R:Value->A3->Prop} {E:List PanicEntry->A3->Prop} (hf:P.funcs[f]?=some fn) (hb:fn.body=some c)
  (hm:(fn.name == "runtime.NumGoroutine")=false) (h:HCalls P f args.toArray H R E):CallF P f args H R E:=Is hf (by rw [hb]; rfl) hm h
theorem PX {H:A3} {v:Value} {xs:List Int} (h:Vec H 3 1 v (xs.map iv)) (hl:∀ x ∈ xs,AE x=true) (hlen:xs.length<=1000000) :
  CallF Tryz.prog 52 [v,.func (.func 53) #[] #[]] H (fun r H'=>r=.tuple #[]/\Fr (own v) H H'/\∃ ys:List Int,Vec H' 3 1 v (ys.map iv)/\ys.Perm xs/\ys.Pairwise leN) NoP:=by
 refine I0 Tryz.func52 rfl (by decide) ?_
 intro w hw
 rcases h.ex with ⟨rfl,hnil⟩ | ⟨b,len,cap,pre,rest,rfl,hb,h2,h3,h4⟩
 ·rw [Yi] at hnil
  subst hnil
  have hS:=AnyF.slices_SortFunc_none (P:=Tryz.prog) (ρ:=Tryz.vj) { Tryz.mq with } none 0 (.func (.func 53) #[] #[]) w
  change Calls Tryz.prog 52 _ _ _ at hS
  refine hS.mono ?_
  rintro e w' ⟨rfl,rfl⟩
  subst hw
  exact ⟨Rest.refl _,rfl,Fr.refl _ _,[],Vec.nil,Yq _,Va⟩
 ·have hlen2:len=xs.length:=by simpa using h2.symm
  subst hlen2
  have hrng:∀ x ∈ xs,-100000<=x/\x<=100000:=by
   intro x hx
   have:=hl x hx
   unfold AE at this
   simp only [Jk] at this
   exact this.2
  obtain ⟨ds,hds⟩:∃ ds:List Lt,ds.map (·.1)=xs:=by
   refine ⟨xs.pmap (fun x h=>⟨x,h⟩) hrng,?_⟩
   rw [List.map_pmap]
   simp
  have hdl:ds.length=xs.length:=by rw [<- hds]; simp
  have eg:∀ args w,(callFunc 53 args).run Tryz.prog w=.ok (.enter 53 args) w:=enters_of Tryz.func53 (by kernel_rfl) rfl
  have hH:Sort.Holds KF w b pre.length ds.toArray:=by
   intro j hj
   have hj':j < ds.length:=by simpa using hj
   have hx:xs[j]?=some ds[j].1:=by rw [<- hds]; simp [hj']
   have hc:=DJ hb hx
   have hf:=hb.frozen (pre.length + j)
   subst hw
   refine ⟨?_,hf⟩
   have e:ds.toArray[j]! = ds[j]:=by simp [hj']
   rw [e]; exact hc
  have hS:=Any.slices_SortFunc_total Tryz.mq KF (fun _=>rfl) cfN j53 53 #[] b pre.length cap ds.toArray w eg (CmpReads.lays (fun m os dk _ x y=>QH x y _)) hH (by rw [hw]; exact hb.lt) (by simp; omega)
   (fun x y h1 h2=>by
    rw [Dc] at h1 h2
    simp only [Zy] at h1 h2
    refine Subtype.ext ?_
    unfold ltN at h1 h2; omega)
  have hsz:ds.toArray.size=xs.length:=by simp [hdl]
  rw [hsz] at hS
  change Calls Tryz.prog 52 _ _ _ at hS
  refine hS.mono ?_
  rintro e w' ⟨rfl,nn,os,rfl⟩
  refine ⟨⟨rfl,rfl,rfl⟩,rfl,?_⟩
  generalize hms:(ds.toArray.toList.mergeSort fun x y=>!(ltOf cfN) y x)=ms
  have hperm:ms.Perm ds:=by rw [<- hms]; simpa using List.mergeSort_perm ds _
  have hsort:ms.Pairwise (fun x y=>leN x.1 y.1):=by
   have h1:=List.pairwise_mergeSort (le:=fun x y:Lt=>!(ltOf cfN) y x) (fun a b c h1 h2=>by
    rw [Dc] at *
    simp only [Zm,Zy] at *
    unfold ltN at *; omega) (fun a b=>by
    rw [Dc,Dc]
    simp only [Z9,Zm,Zy]
    unfold ltN; omega) ds
   have hms':ds.mergeSort (fun x y=>!(ltOf cfN) y x)=ms:=by rw [<- hms]
   rw [hms'] at h1
   refine h1.imp fun {x y} h=>?_
   rw [Dc] at h
   simp only [Zm,Zy] at h
   unfold leN ltN at *; omega
  have hml:ms.length=xs.length:=by rw [hperm.length_eq,hdl]
  have hheap:(sortWorld KF w b pre.length nn ms.toArray os).heap=H.modify b (Sort.onCells (Sort.putCells KF pre.length ms.toArray)) ++ os:=by
   rw [<- hw]; rfl
  have hb':H[b]?=some (.cells (pre ++ xs.map iv ++ rest).toArray 3 (0,0)):=hb
  have hput:Sort.putCells KF pre.length ms.toArray (pre ++ xs.map iv ++ rest).toArray=(pre ++ (ms.map (·.1)).map iv ++ rest).toArray:=by
   apply W8
   intro i
   unfold Sort.putCells
   rw [Array.getElem?_mapIdx]
   rw [Jw,Jw,j3k,j3k]
   simp only [Jm,hml,Xe]
   by_cases h1:i < pre.length
   ·rw [J8 h1,J8 h1]
    have hc:¬ (pre.length<=i/\i < pre.length + xs.length):=by omega
    simp only [J4 hc]
    cases pre[i]? <;> rfl
   ·rw [J4 h1,J4 h1]
    by_cases h2:i < pre.length + xs.length
    ·rw [J8 h2,J8 h2]
     have hc:pre.length<=i/\i < pre.length + xs.length:=by omega
     have hm1:i - pre.length < xs.length:=by omega
     have hm2:i - pre.length < ms.length:=by omega
     simp only [J8 hc,Z0,J1 hm1,J1 hm2,Ju]
     have e:ms.toArray[i - pre.length]! = ms[i - pre.length]:=by simp [hm2]
     rw [e]; rfl
    ·rw [J4 h2,J4 h2]
     have hc:¬ (pre.length<=i/\i < pre.length + xs.length):=by omega
     simp only [J4 hc]
     cases rest[i - pre.length - xs.length]? <;> rfl
  have hf:Fr [b] H (sortWorld KF w b pre.length nn ms.toArray os).heap:=by
   rw [hheap]
   refine ⟨by simp,fun q hq hF=>?_⟩
   rw [Yy (by simpa using hq),Zu,J4 (by simp at hF; exact fun e=>hF e.symm)]
  have hb2:Blk (sortWorld KF w b pre.length nn ms.toArray os).heap b 3 (pre ++ (ms.map (·.1)).map iv ++ rest):=by
   unfold Blk
   rw [hheap,Yy (by simpa using hb.lt),Zu,J8 rfl,hb',<- hput]
   rfl
  refine ⟨hf,ms.map (·.1),⟨.inr ⟨b,xs.length,cap,pre,rest,rfl,hb2,by simp [hml],h3,h4⟩⟩,?_,?_⟩
  ·rw [<- hds]; exact hperm.map _
  ·rw [List.pairwise_map]; exact hsort
end Go.Proofs.YtkdlmdmlomgdiaaGreat
