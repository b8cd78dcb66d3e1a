/- The reference's propagation: the walk. -/
import Derived.Test.YtkdlmdmlomgdiaaGreatL08
set_option linter.unusedSimpArgs false
set_option linter.unusedVariables false
set_option maxRecDepth 10000
set_option maxHeartbeats 8000000
noncomputable section
namespace Go.Proofs.YtkdlmdmlomgdiaaGreat
open Go.HL HM Go.Sat
section
theorem JI {N n:Nat} {a:Option Addr} {css:List (List Int)} {c:Nat} (hn:n<=1000) (hlen:css.length<=100000) (hcs:∀ r ∈ css,r.length<=1000/\∀ x ∈ r,x ≠ 0/\x.natAbs<=n) :
  ∀ (k:Nat) (H:A3) (so:List Int) (a':Option Addr) (c':Nat),N<=H.size->RC N H a css->Rn H a' so->so.length<=2000->n<=so.length + k->(∀ z ∈ so,z ≠ 0/\z.natAbs<=n)->so.Nodup ->
   CallF Tryz.prog 141 [.slice a css.length c,.slice a' so.length c'] H (fun v H'=>Fr [] H H'/\∃ r:Bool,v=.bool r/\(r=false->∃ so',(∀ z ∈ so,z ∈ so')/\j3m css so')/\(r=true->∀ T,Clo T (css.map (·.map Ai))->¬ ∀ z ∈ so,T (Ai z))) NoP:=by
 intro k
 induction k using Nat.strongRecOn with
 | ind k ih =>
  intro H so a' c' hN hx hs hsl hk hz hnd;refine A9 Tryz.func141 rfl Tryz.ntmps141 Tryz.results141 (by decide) rfl ?_;simp (disch:=omega) only [go_sem];refine Bp (fun U H1=>(U.get 0=.slice a css.length c/\U.get 1=.slice a' so.length c'/\U.ds = [])/\H1=H/\∀ z ∈ so,-z ∉ so) ?_ ?_
  ·simp (disch:=omega) only [go_sem,↓cB];refine Ae (fun j U H1=>∃ i:Nat,j=so.length - i/\i<=so.length/\(U.get 0=.slice a css.length c/\U.get 1=.slice a' so.length c'/\U.get 5=iv i/\U.ds = [])/\H1=H/\∀ z ∈ so.take i,-z ∉ so) (k:=so.length) ?_ ?_
   ·exact ⟨0,rfl,by omega,by simp (disch:=omega) only [go_sem,↓cB],rfl,by simp⟩
   ·rintro _ U H1 ⟨i,rfl,hi,⟨r0,r1,r5,rd⟩,e,hno⟩;subst H1;by_cases hie:i=so.length
    ·subst hie;rw [Jr] at hno;simp (disch:=omega) only [go_sem,↓cB,r0,r1,r5,rd];exact fin ⟨by simp (disch:=omega) only [go_sem,↓cB,r0,r1,rd],rfl,hno⟩
    ·obtain ⟨x,hxi⟩:∃ x,so[i]?=some x:=⟨_,J1 (by omega)⟩;obtain ⟨b',o',e,kx⟩:=hs i x hxi;subst e;have hxz:=hz x (J2 hxi);have hi1:(i:Int) + 1=((i + 1:Nat):Int):=(by omega);have htk:so.take (i + 1)=so.take i ++ [x]:=(by rw [Jl,hxi]; rfl);simp (disch:=omega) only [go_sem,↓cB,r0,r1,r5,rd,kx];refine A7 (Db hs (by omega)) ?_;rintro v H2 ⟨rfl,e⟩;subst H2;by_cases hm:-x ∈ so
     ·rw [Zx hm];simp (disch:=omega) only [go_sem,↓cB,r0,r1,r5,rd];exact fin ⟨Fr.refl _ _,true,rfl,(fun e=>nomatch e),fun _ T hT hall=>hT.con _ (hall x (J2 hxi)) (by rw [Cj hxz.1]; exact hall _ hm)⟩
     ·rw [Zi hm];simp (disch:=omega) only [go_sem,↓cB,r0,r1,r5,rd];refine fin ⟨so.length - (i + 1),by omega,i + 1,rfl,by omega,by simp (disch:=omega) only [go_sem,↓cB,r0,r1,r5,rd,hi1],rfl,fun z hzm=>?_⟩;rw [htk] at hzm;rcases Jh.1 hzm with h | h
      ·exact hno z h
      ·rw [J6.1 h]; exact hm
  ·rintro U H1 ⟨⟨r0,r1,rd⟩,e,hcl⟩;subst H1;have hsn:=R1 hnd hcl hz;simp (disch:=omega) only [go_sem,↓cB,r0,r1,rd];refine Ae (fun j U H1=>∃ i:Nat,j=css.length - i/\i<=css.length/\(U.get 0=.slice a css.length c/\U.get 1=.slice a' so.length c'/\U.get 6=iv i/\U.ds = [])/\H1=H/\∀ r ∈ css.take i,(∃ l ∈ r,l ∈ so)\/∃ l1 ∈ r,∃ l2 ∈ r,l1 ≠ l2/\Opn so l1/\Opn so l2) (k:=css.length) ?_ ?_
   ·exact ⟨0,rfl,by omega,by simp (disch:=omega) only [go_sem,↓cB,r0,r1,rd],rfl,by simp⟩
   ·clear r0 r1 rd;rintro _ U H1 ⟨i,rfl,hi,⟨r0,r1,r6,rd⟩,e,hsh⟩;subst H1;by_cases hie:i=css.length
    ·subst hie;rw [Jr] at hsh;simp (disch:=omega) only [go_sem,↓cB,r0,r1,r6,rd];exact fin ⟨Fr.refl _ _,false,rfl,fun _=>⟨so,fun z h=>h,hcl,hsh⟩,fun e=>nomatch e⟩
    ·obtain ⟨r,hri⟩:∃ r,css[i]?=some r:=⟨_,J1 (by omega)⟩;obtain ⟨b',o',ra,rc,e,-,kr,hr,-,hrcap⟩:=hx.ex i r hri;subst e;obtain ⟨hrl,hrz⟩:=hcs r (J2 hri);have hi1:(i:Int) + 1=((i + 1:Nat):Int):=(by omega);have htk:css.take (i + 1)=css.take i ++ [r]:=(by rw [Jl,hri]; rfl);simp (disch:=omega) only [go_sem,r0,r1,r6,rd];simp only [↓cB];simp (disch:=omega) only [go_sem,r0,r1,r6,rd];refine Bp (fun U H2=>∃ (o:Nat) (last:Int) (holds:Bool),(U.get 0=.slice (some ⟨b',o',none⟩) css.length c/\U.get 1=.slice a' so.length c'/\U.get 6=iv i/\U.get 7=iv o/\U.get 8=iv last/\U.get 9=.bool holds/\U.ds = [])/\H2=H/\OI so r o last/\(holds=true↔∃ l ∈ r,l ∈ so)) ?_ ?_
     ·simp (disch:=omega) only [go_sem,↓cB,r0,r1,r6,rd];refine Ae (fun j U H2=>∃ (q o:Nat) (last:Int) (holds:Bool),j=r.length - q/\q<=r.length/\(U.get 0=.slice (some ⟨b',o',none⟩) css.length c/\U.get 1=.slice a' so.length c'/\U.get 6=iv i/\U.get 7=iv o/\U.get 8=iv last/\U.get 9=.bool holds/\U.get 10=iv q/\U.ds = [])/\H2=H/\OI so (r.take q) o last/\(holds=true↔∃ l ∈ r.take q,l ∈ so)/\o<=q) (k:=r.length) ?_ ?_
      ·exact ⟨0,0,0,false,rfl,by omega,by simp (disch:=omega) only [go_sem,↓cB,r0,r1,r6,rd],rfl,OI.nil,by simp,by omega⟩
      ·clear r0 r1 r6 rd;rintro _ U H2 ⟨q,o,last,holds,rfl,hq,⟨r0,r1,r6,r7,r8,r9,r10,rd⟩,e,oi,hh,hoq⟩;subst H2;by_cases hqe:q=r.length
       ·subst hqe;rw [Jr] at oi hh;simp (disch:=omega) only [go_sem,↓cB,r0,r1,r6,r7,r8,r9,r10,rd,kr];exact fin ⟨o,last,holds,by simp (disch:=omega) only [go_sem,↓cB,r0,r1,r6,r7,r8,r9,rd],rfl,oi,hh⟩
       ·obtain ⟨x,hxi⟩:∃ x,r[q]?=some x:=⟨_,J1 (by omega)⟩;obtain ⟨xb,xo,e,kx⟩:=hr q x hxi;subst e;have hq1:(q:Int) + 1=((q + 1:Nat):Int):=(by omega);have hxz:=hrz x (J2 hxi);have htq:r.take (q + 1)=r.take q ++ [x]:=(by rw [Jl,hxi]; rfl);simp (disch:=omega) only [go_sem,↓cB,r0,r1,r6,r7,r8,r9,r10,rd,kr,kx];refine A7 (Db hs (by omega)) ?_;rintro v H2 ⟨rfl,e⟩;subst H2;by_cases p1:x ∈ so
        ·rw [Zx p1];simp (disch:=omega) only [go_sem,↓cB,r0,r1,r6,r7,r8,r9,r10,rd];exact fin ⟨r.length - (q + 1),by omega,q + 1,o,last,true,rfl,by omega,by simp (disch:=omega) only [go_sem,↓cB,r0,r1,r6,r7,r8,r9,r10,rd,hq1],rfl,by rw [htq]; exact oi.skip (.inl fun h=>h.1 p1),by rw [htq]; simp [p1],by omega⟩
        ·rw [Zi p1];have hh2:holds=true↔∃ l ∈ r.take (q + 1),l ∈ so:=(by rw [htq,hh]; simp [p1]);simp (disch:=omega) only [go_sem,↓cB,r0,r1,r6,r7,r8,r9,r10,rd];refine A7 (Db hs (by omega)) ?_;rintro v H2 ⟨rfl,e⟩;subst H2;by_cases p2:-x ∈ so
         ·rw [Zx p2];simp (disch:=omega) only [go_sem,↓cB,r0,r1,r6,r7,r8,r9,r10,rd,kr];exact fin ⟨r.length - (q + 1),by omega,q + 1,o,last,holds,rfl,by omega,by simp (disch:=omega) only [go_sem,↓cB,r0,r1,r6,r7,r8,r9,r10,rd,hq1],rfl,by rw [htq]; exact oi.skip (.inl fun h=>h.2 p2),hh2,by omega⟩
         ·rw [Zi p2];simp (disch:=omega) only [go_sem,↓cB,r0,r1,r6,r7,r8,r9,r10,rd,kr];have hql:(r.take q).length=q:=(by simp; omega);have hrt:Rn H (some ⟨xb,xo,none⟩) (r.take q):=fun w y hy=>by
           rw [Xj] at hy;split at hy
           ·exact hr w y hy
           ·cases hy
          have hin:=Db (x:=x) (c:=rc) hrt (by omega);rw [hql] at hin;refine A7 hin ?_;rintro v H2 ⟨rfl,e⟩;subst H2;have ho1:(o:Int) + 1=((o + 1:Nat):Int):=(by omega);by_cases p3:x ∈ r.take q
          ·rw [Zx p3];simp (disch:=omega) only [go_sem,↓cB,r0,r1,r6,r7,r8,r9,r10,rd,kr];exact fin ⟨r.length - (q + 1),by omega,q + 1,o,last,holds,rfl,by omega,by simp (disch:=omega) only [go_sem,↓cB,r0,r1,r6,r7,r8,r9,r10,rd,hq1],rfl,by rw [htq]; exact oi.skip (.inr p3),hh2,by omega⟩
          ·rw [Zi p3];simp (disch:=omega) only [go_sem,↓cB,r0,r1,r6,r7,r8,r9,r10,rd,kr];exact fin ⟨r.length - (q + 1),by omega,q + 1,o + 1,x,holds,rfl,by omega,by simp (disch:=omega) only [go_sem,↓cB,r0,r1,r6,r7,r8,r9,r10,rd,hq1,ho1],rfl,by rw [htq]; exact oi.more ⟨p1,p2⟩ p3,hh2,by omega⟩
     ·clear r0 r1 r6 rd;rintro U H2 ⟨o,last,holds,⟨r0,r1,r6,r7,r8,r9,rd⟩,e,oi,hh⟩;subst H2;have next:((∃ l ∈ r,l ∈ so)\/∃ l1 ∈ r,∃ l2 ∈ r,l1 ≠ l2/\Opn so l1/\Opn so l2)->∀ r' ∈ css.take (i + 1),(∃ l ∈ r',l ∈ so)\/∃ l1 ∈ r',∃ l2 ∈ r',l1 ≠ l2/\Opn so l1/\Opn so l2:=fun h r' hr'=>by
       rw [htk] at hr';rcases Jh.1 hr' with h1 | h1
       ·exact hsh r' h1
       ·rw [J6.1 h1]; exact h
      cases holds with
      | true =>
       simp (disch:=omega) only [go_sem,↓cB,r0,r1,r6,r7,r8,r9,rd];exact fin ⟨css.length - (i + 1),by omega,i + 1,rfl,by omega,by simp (disch:=omega) only [go_sem,↓cB,r0,r1,r6,rd,hi1],rfl,next (.inl (hh.1 rfl))⟩
      | false =>
       have fls:∀ l ∈ r,¬ Opn so l->∀ {T:Nat->Prop},(∀ z ∈ so,T (Ai z))->T (neg (Ai l)):=fun l hl ho T hall=>by
        have hns:l ∉ so:=fun e=>nomatch hh.2 ⟨l,hl,e⟩;rw [Cj (hrz l hl).1];by_cases hm:-l ∈ so
        ·exact hall _ hm
        ·exact absurd ⟨hns,hm⟩ ho
       rcases oi with ⟨h1,h2⟩ | ⟨h1,h2,h3,h4⟩ | ⟨h1,h2⟩
       ·subst h1;have r7':U.get 7=iv 0:=r7;simp (disch:=omega) only [go_sem,↓cB,r0,r1,r6,r7',r8,r9,rd];exact fin ⟨Fr.refl _ _,true,rfl,(fun e=>nomatch e),fun _ T hT hall=>(hT.cl _ (Ji.2 ⟨r,J2 hri,rfl⟩)).2 fun y hy=>by
         obtain ⟨l,hl,rfl⟩:=Ji.1 hy;exact fls l hl (h2 l hl) hall⟩
       ·subst h1;have r7':U.get 7=iv 1:=r7;simp (disch:=omega) only [go_sem,↓cB,r0,r1,r6,r7',r8,r9,rd];have f1:Fr [] H (H.push (.cells #[] 3)):=Fr.push;have v1:Vec (H.push (.cells #[] 3)) 3 1 (.slice (some ⟨H.size,0,none⟩) 0 0) []:=⟨.inr ⟨H.size,0,0,[],[],rfl,Blk.new rfl,rfl,by simp,by omega⟩⟩;refine Hc (n:=so.length) (new:=so.map iv) T.zk rfl v1 rfl (hs.frame f1 (by simp)).src Tryz.underlying23 (by simp) (fun u hu=>by obtain ⟨y,-,rfl⟩:=Ji.1 hu; rfl) (by simp) (by intro a l c e; simp only [Value.slice.injEq] at e; omega) ?_;intro v' H4 g1 (g2:Fr (own (.slice (some ⟨H.size,0,none⟩) 0 0)) (H.push (.cells #[] 3)) H4) (g3:∀ b ∈ own v',b ∈ own (.slice (some ⟨H.size,0,none⟩) 0 0)\/(H.push (.cells #[] 3)).size<=b) g4;rw [X1] at g1;have f4:Fr [] H H4:=⟨Js f1.size g2.size,fun q hq _=>by rw [g2.same q (by have:=f1.size; omega) (by simp [own]; omega),f1.same q hq (by simp)]⟩;have o4:∀ b ∈ own v',H.size<=b:=fun b hb=>by
         rcases g3 b hb with h | h
         ·simp only [own,J6] at h; omega
         ·have:=f1.size; omega
        simp (disch:=omega) only [go_sem,↓cB,r0,r1,r6,r7',r8,r9,rd,UA];refine AK T.zk rfl g1 rfl (by simp; omega) ?_;intro v2 H5 q1 q2 q3 q4;have f5:Fr [] H H5:=⟨Js f4.size q2.size,fun q hq _=>by rw [q2.same q (by have:=f4.size; omega) (fun e=>by have:=o4 q e; omega),f4.same q hq (by simp)]⟩;have q1':Vec H5 3 1 v2 ((so ++ [last]).map iv):=(by rw [Zf]; exact q1);obtain ⟨a2,c2,rfl,hs2⟩:=(IL.yq q1').ex;have hz':∀ z ∈ so ++ [last],z ≠ 0/\z.natAbs<=n:=fun z hzm=>(Jh.1 hzm).elim (hz z) fun e=>(by rw [J6.1 e]; exact hrz last h2);have hnd':(so ++ [last]).Nodup:=by
         rw [Y8];exact ⟨hnd,by simp,fun x hx y hy e=>by rw [J6.1 hy] at e; exact h3.1 (e ▸ hx)⟩
        have hcl':∀ z ∈ so ++ [last],-z ∉ so ++ [last]:=fun z hzm hm=>by
         rcases Jh.1 hzm with h1 | h1
         ·rcases Jh.1 hm with h5 | h5
          ·exact hcl z h1 h5
          ·have e:=J6.1 h5;exact h3.2 (by rw [<- e,Int.neg_neg]; exact h1)
         ·have e1:=J6.1 h1;rcases Jh.1 hm with h5 | h5
          ·exact h3.2 (by rw [<- e1]; exact h5)
          ·have e2:=J6.1 h5;have:=(hrz last h2).1;omega
        have hsl':=R1 hnd' hcl' hz';simp only [Jv,Zo] at hsl';have hrec:=ih (k - 1) (by omega) H5 (so ++ [last]) a2 c2 (by have:=f5.size; omega) (hx.same fun b hb=>f5.same b (by omega) (by simp)) hs2 (by simp; omega) (by simp; omega) hz' hnd';simp (disch:=omega) only [go_sem,↓cB];refine A7 hrec ?_;rintro v H6 ⟨f6,r',rfl,hres⟩;simp (disch:=omega) only [go_sem,↓cB];exact fin ⟨f5.trans f6,r',rfl,fun e=>let ⟨so',g5,g6⟩:=hres.1 e; ⟨so',fun z hzm=>g5 z (by simp [hzm]),g6⟩,fun e T hT hall=>hres.2 e T hT fun z hzm=>by
         rcases Jh.1 hzm with h5 | h5
         ·exact hall z h5
         ·rw [J6.1 h5];refine (hT.cl _ (Ji.2 ⟨r,J2 hri,rfl⟩)).1 _ (Ji.2 ⟨last,h2,rfl⟩) fun y hy hne=>?_;obtain ⟨l,hl,rfl⟩:=Ji.1 hy;exact fls l hl (fun ho=>hne (by rw [h4 l hl ho])) hall⟩
       ·have h1':(1:Int) < (o:Int):=(by omega);simp (disch:=omega) only [go_sem,↓cB,r0,r1,r6,r7,r8,r9,rd];exact fin ⟨css.length - (i + 1),by omega,i + 1,rfl,by omega,by simp (disch:=omega) only [go_sem,↓cB,r0,r1,r6,rd,hi1],rfl,next (.inr h2)⟩
end
end Go.Proofs.YtkdlmdmlomgdiaaGreat
namespace Go.Sat
abbrev Kx (tr:List Nat) (L:Nat->List Nat):St:=⟨tr,[],fun _=>none,L⟩
theorem Dl {n:Nat} {tr:List Nat} {L:Nat->List Nat} (h:TrOK n tr):Inv n (Kx tr L):=⟨h,by simp,by simp,fun i x c h1 h2=>by simp at h2,fun i x _ _=>.inl rfl⟩
section
variable {n:Nat} {tr:List Nat} {L:Nat->List Nat} {C:List Nat} {w:Nat->List Nat} {G:List (List Nat)} {head x c:Nat} {K D:List Nat}
theorem SI.kx {s:St} (h:SI n s C w G head) (h1:s.tr=tr) (h2:s.st = []) (h3:s.lits=L):SI n (Kx tr L) C w G head:=by
 obtain ⟨a,b,r,l⟩:=s;simp only at h1 h2 h3;subst h1; subst h2; subst h3;exact ⟨Dl h.inv.ok,⟨h.wi.cl,h.wi.w1,h.wi.nd,h.wi.w3,fun i x c _ h=>by simp at h⟩,h.pi,⟨h.gi.snd,h.gi.cmp⟩,h.le,h.st⟩
theorem VI.kx {s:St} (h:VI n s C w G head x K D) (h1:s.tr=tr) (h2:s.st = []) (h3:s.lits=L):VI n (Kx tr L) C w G head x K D:=by
 obtain ⟨a,b,r,l⟩:=s;simp only at h1 h2 h3;subst h1; subst h2; subst h3;exact ⟨Dl h.inv.ok,⟨h.wi.cl,h.wi.w1,h.wi.nd,h.wi.w3,fun i x c _ h=>by simp at h⟩,h.pi,⟨h.gi.snd,h.gi.cmp⟩,h.le,h.st,h.at',h.ws⟩
theorem VI.bj (h:VI n (Kx tr L) C w G head x K (c :: D)) {a:Nat} {r:List Nat} (hl:L c=a :: x :: r) (ha:a ∉ tr) (hna:neg a ∉ tr) (hr:∀ y ∈ r,neg y ∈ tr):VI n (Kx (tr ++ [a]) L) C w G head x (K ++ [c]) D :=
 (h.set hl ha hna hr).kx rfl rfl rfl
theorem SI.all {T:Nat->Prop} (h:SI n (Kx tr L) C w G head) (hT:Clo T G):∀ y ∈ tr,T y:=fun y hy=>by
 obtain ⟨i,hi⟩:=Jc hy;exact (h.gi.snd T hT).2 i y hi rfl
theorem VI.zr (h:VI n (Kx tr L) C w G head x K (c :: D)) (hall:∀ y ∈ L c,neg y ∈ tr) (T:Nat->Prop):¬ Clo T G:=Hj h.gi h.mem.1 hall rfl
theorem SI.qz (h:SI n (Kx tr L) C w G tr.length) {g:List Nat} (hg:g ∈ G) {x:Nat} (ht:¬ ∃ y ∈ g,neg y ∈ g) (hx:∀ y ∈ g,y=x\/neg y ∈ tr):x ∈ tr:=by
 rcases h.gi.cmp g hg with h1 | ⟨y,hy,i,hi,-⟩ | ⟨c,hc,hs⟩
 ·exact absurd h1 ht
 ·have hm:=J2 hi;rcases hx y hy with rfl | h2
  ·exact hm
  ·exact (h.inv.ok.zr hm h2).elim
 ·obtain ⟨hl,hcd,hnd⟩:=h.wi.cl c hc;have hw:=(h.pi c hc).2 (by simp);have hl:2<=(L c).length:=hl;match he:L c,hl with
  | a :: b :: r,_ =>
   simp only [he] at hs hnd;obtain ⟨w1,w2⟩:=hw a b r he;have hab:a ≠ b:=by
    intro e;subst e;simp at hnd
   rcases hx a (hs a (by simp)) with e | ha
   ·subst e;rcases hx b (hs b (by simp)) with e | hb
    ·exact absurd e.symm hab
    ·obtain ⟨q,hq⟩:=Jc hb;obtain ⟨j,hj,-⟩:=w2 q (J3.1 hq).1 hq;exact J2 hj
   ·obtain ⟨q,hq⟩:=Jc ha;obtain ⟨j,hj,-⟩:=w1 q (J3.1 hq).1 hq;have hm:=J2 hj;rcases hx b (hs b (by simp)) with e | hb
    ·rw [<- e]; exact hm
    ·exact (h.inv.ok.zr hm hb).elim
theorem NL {T:Nat->Prop} {g:List Nat} (hc:∀ x,T x->¬ T (neg x)) (ht:∃ y ∈ g,neg y ∈ g):ClT T g:=by
 obtain ⟨y,h1,h2⟩:=ht;refine ⟨fun x hx hall=>?_,fun hall=>hc _ (hall y h1) (hall _ h2)⟩;by_cases e:y=x
 ·subst e;have:=hall _ h2 (by unfold neg; split <;> omega);rwa [neg_neg] at this
 ·by_cases e2:neg y=x
  ·subst e2; exact hall y h1 e
  ·exact (hc _ (hall y h1 e) (hall _ h2 e2)).elim
theorem SI.clo (h:SI n (Kx tr L) C w G tr.length):Clo (· ∈ tr) G:=by
 refine ⟨fun x h1 h2=>h.inv.ok.zr h1 h2,fun g hg=>?_⟩;by_cases ht:∃ y ∈ g,neg y ∈ g
 ·exact NL (fun x h1 h2=>h.inv.ok.zr h1 h2) ht
 ·refine ⟨fun x hx hall=>h.qz hg ht fun y hy=>?_,fun hall=>?_⟩
  ·by_cases e:y=x
   ·exact .inl e
   ·exact .inr (hall y hy e)
  ·obtain ⟨x,hx⟩:∃ x,x ∈ g:=by
    rcases h.gi.cmp g hg with ⟨y,hy,-⟩ | ⟨y,hy,-⟩ | ⟨c,hc,hs⟩
    ·exact ⟨y,hy⟩
    ·exact ⟨y,hy⟩
    ·have hl:2<=(L c).length:=(h.wi.cl c hc).1;cases he:L c with
     | nil=>rw [he] at hl; simp at hl
     | cons a r=>exact ⟨a,hs a (by show a ∈ L c; rw [he]; simp)⟩
   exact h.inv.ok.zr (h.qz hg ht fun y hy=>.inr (hall y hy)) (hall x hx)
theorem Bj {T:Nat->Prop} {g:List Nat}:Clo T (g :: G)↔ClT T g/\Clo T G :=
 ⟨fun h=>⟨h.cl g (by simp),h.sub fun q hq=>by simp [hq]⟩,fun h=>⟨h.2.con,fun q hq=>by
  rcases J7.1 hq with rfl | hq
  ·exact h.1
  ·exact h.2.cl q hq⟩⟩
theorem CU {T:Nat->Prop} {y:Nat}:Clo T ([y] :: G)↔T y/\Clo T G:=by
 rw [Bj];refine ⟨fun h=>⟨h.1.1 y (by simp) (fun z hz e=>absurd (by simpa using hz) e),h.2⟩,fun h=>⟨⟨fun x hx _=>?_,fun hall=>h.2.con _ h.1 (hall y (by simp))⟩,h.2⟩⟩;have:x=y:=(by simpa using hx);subst this; exact h.1
theorem PB {T:Nat->Prop}:¬ Clo T ([] :: G):=fun h=>(Bj.1 h).1.2 (by simp)
theorem SI.mj (h:SI n (Kx tr L) C w G head) {y:Nat} (hy:isC n y) (h1:y ∉ tr) (h2:neg y ∉ tr):SI n (Kx (tr ++ [y]) L) C w ([y] :: G) head :=
 SI.kx (s:=(Kx tr L).push y none) ⟨h.inv.push hy h1 h2 (fun c hc=>by simp at hc) (fun _=>.inl rfl),h.wi.push (fun c hc=>by simp at hc),h.pi.push h.le,h.gi.unit h.inv rfl,by have:head<=tr.length:=h.le; show head<=(tr ++ [y]).length; simp; omega,h.st⟩ rfl rfl rfl
theorem SI.gj (h:SI n (Kx tr L) C w G head) {a b:Nat} {r:List Nat} (hc:c ∉ C) (hl:(∀ y ∈ a :: b :: r,isC n y)/\((a :: b :: r).map (· / 2)).Nodup) (hb:neg b ∈ tr->a ∈ tr) (ha:neg a ∈ tr->b ∈ tr) :
  SI n (Kx tr (upd L c (a :: b :: r))) (c :: C) (att w c a b) ((a :: b :: r) :: G) head:=by
 have hw:Wc (Kx tr L) head (a :: b :: r):=by
  intro y z t e;simp only [Zh] at e;obtain ⟨rfl,rfl,rfl⟩:=e;refine ⟨fun p _ hp=>?_,fun p _ hp=>?_⟩
  ·obtain ⟨q,hq⟩:=Jc (ha (J2 hp));exact ⟨q,hq,Jb _⟩
  ·obtain ⟨q,hq⟩:=Jc (hb (J2 hp));exact ⟨q,hq,Jb _⟩
 exact SI.kx (s:=(Kx tr L).lit c (a :: b :: r)) ⟨Dl h.inv.ok,h.wi.attach hc hl,h.pi.attach hc hw,h.gi.learned hc,h.le,h.st⟩ rfl rfl rfl
theorem SI.addF (h:SI n (Kx tr L) C w G head) {a b:Nat} {r:List Nat} (hc:c ∉ C) (hl:(∀ y ∈ a :: b :: r,isC n y)/\((a :: b :: r).map (· / 2)).Nodup) (h1:a ∉ tr) (h2:neg a ∉ tr) (hr:∀ y ∈ b :: r,neg y ∈ tr) :
  SI n (Kx (tr ++ [a]) (upd L c (a :: b :: r))) (c :: C) (att w c a b) ((a :: b :: r) :: G) head:=by
 have h3:=(h.mj (hl.1 a (by simp)) h1 h2).gj hc hl (fun _=>by simp) (fun e=>by
  rcases Jh.1 e with e | e
  ·exact absurd e h2
  ·exact absurd (by simpa using e) (M4 a))
 have hq:∀ {T:Nat->Prop},Clo T ((a :: b :: r) :: G)->Clo T ((a :: b :: r) :: [a] :: G):=fun hT=>by
  obtain ⟨hT1,hT2⟩:=Bj.1 hT;refine Bj.2 ⟨hT1,CU.2 ⟨hT1.1 a (by simp) fun y hy hne=>?_,hT2⟩⟩;exact h.all hT2 _ (hr y (by simpa [hne] using hy))
 exact ⟨h3.inv,h3.wi,h3.pi,⟨fun T hT=>h3.gi.snd T (hq hT),fun g hg=>h3.gi.cmp g (by
  rcases J7.1 hg with rfl | hg
  ·simp
  ·simp [hg])⟩,h3.le,h3.st⟩
def Bs (base:List Nat) (L:Nat->List Nat) (C:List Nat):Prop:=∀ c ∈ C,∀ y z r,L c=y :: z :: r->(neg y ∈ base->z ∈ base)/\(neg z ∈ base->y ∈ base)
theorem SI.bs (h:SI n (Kx tr L) C w G tr.length):Bs tr L C:=by
 intro c hc y z r e;obtain ⟨w1,w2⟩:=(h.pi c hc).2 (by simp) y z r e;refine ⟨fun hm=>?_,fun hm=>?_⟩
 ·obtain ⟨p,hp⟩:=Jc hm;obtain ⟨q,hq,-⟩:=w1 p (J3.1 hp).1 hp;exact J2 hq
 ·obtain ⟨p,hp⟩:=Jc hm;obtain ⟨q,hq,-⟩:=w2 p (J3.1 hp).1 hp;exact J2 hq
theorem Bs.swap {base:List Nat} (h:Bs base L C) {a b:Nat} {r:List Nat} (hl:L c=a :: b :: r):Bs base (upd L c (b :: a :: r)) C:=by
 intro q hq y z t e;by_cases hqc:q=c
 ·subst hqc;rw [A8] at e;simp only [Zh] at e;obtain ⟨rfl,rfl,rfl⟩:=e;exact (h q hq _ _ _ hl).symm
 ·rw [Af hqc] at e;exact h q hq _ _ _ e
theorem Bs.other {base:List Nat} (h:Bs base L C) (hc:c ∈ C) {a x y:Nat} {r r':List Nat} (hl:L c=a :: x :: r) (hx:x ∉ base) (hy:neg y ∉ base):Bs base (upd L c (a :: y :: r')) C:=by
 intro q hq u z t e;by_cases hqc:q=c
 ·subst hqc;rw [A8] at e;simp only [Zh] at e;obtain ⟨rfl,rfl,rfl⟩:=e;exact ⟨fun hm=>absurd ((h q hq _ _ _ hl).1 hm) hx,fun hm=>absurd hm hy⟩
 ·rw [Af hqc] at e;exact h q hq _ _ _ e
theorem ClT.perm {T:Nat->Prop} {l l':List Nat} (h:ClT T l) (hp:l'.Perm l):ClT T l' :=
 ⟨fun x hx hall=>h.1 x (hp.mem_iff.1 hx) fun y hy=>hall y (hp.mem_iff.2 hy),fun hall=>h.2 fun y hy=>hall y (hp.mem_iff.2 hy)⟩
theorem SI.cp {base:List Nat} {L0:Nat->List Nat} {w0:Nat->List Nat} (h0:SI n (Kx base L0) C w0 G base.length) (hw:WI n (Kx tr L) C w) (hp:∀ c ∈ C,(L c).Perm (L0 c)) (hb:Bs base L C):SI n (Kx base L) C w G base.length:=by
 have key:∀ c ∈ C,Wc (Kx base L) base.length (L c):=by
  intro c hc y z r e;refine ⟨fun p _ hp=>?_,fun p _ hp=>?_⟩
  ·obtain ⟨q,hq⟩:=Jc ((hb c hc y z r e).1 (J2 hp));exact ⟨q,hq,Jb _⟩
  ·obtain ⟨q,hq⟩:=Jc ((hb c hc y z r e).2 (J2 hp));exact ⟨q,hq,Jb _⟩
 refine ⟨Dl h0.inv.ok,⟨hw.cl,hw.w1,hw.nd,hw.w3,fun i x c _ h=>by simp at h⟩,fun c hc=>⟨(key c hc).le (by omega),fun _=>key c hc⟩,⟨fun T hT=>⟨fun c hc=>((h0.gi.snd T hT).1 c hc).perm (hp c hc),(h0.gi.snd T hT).2⟩,fun g hg=>?_⟩,Jb _,by simp⟩;rcases h0.gi.cmp g hg with h1 | h1 | ⟨c,hc,h1⟩
 ·exact .inl h1
 ·exact .inr (.inl h1)
 ·exact .inr (.inr ⟨c,hc,fun y hy=>h1 y ((hp c hc).mem_iff.1 hy)⟩)
theorem isC.le {m n x:Nat} (h:isC m x) (hm:m<=n):isC n x:=by unfold isC at *; omega
theorem SI.mono {m:Nat} (h:SI m (Kx tr L) C w G head) (hm:m<=n):SI n (Kx tr L) C w G head :=
 ⟨Dl ⟨fun x hx=>(h.inv.ok.code x hx).le hm,h.inv.ok.nodup⟩,⟨fun c hc=>⟨(h.wi.cl c hc).1,fun y hy=>((h.wi.cl c hc).2.1 y hy).le hm,(h.wi.cl c hc).2.2⟩,h.wi.w1,h.wi.nd,h.wi.w3,fun i x c _ h=>by simp at h⟩,h.pi,h.gi,h.le,h.st⟩
def Rup (G:List (List Nat)) (g:List Nat):Prop:=∀ T,Clo T G->¬ ∀ y ∈ g,T (neg y)
theorem Rup.mem {g:List Nat} (h:g ∈ G):Rup G g:=fun T hT hall=>(hT.cl g h).2 hall
theorem Rup.cq {g:List Nat} (h:∃ y ∈ g,neg y ∈ g):Rup G g:=fun T hT hall=>by
 obtain ⟨y,h1,h2⟩:=h;exact hT.con _ (hall y h1) (hall _ h2)
end
end Go.Sat
namespace Go.Proofs.YtkdlmdmlomgdiaaGreat
open Go.HL HM Go.Sat
section
variable {H:A3}
theorem HZ {x y:Int} (h:Ai x=Ai y):x=y:=by unfold Ai at h; split at h <;> split at h <;> omega
theorem R2 {css:List (List Int)} {so xs:List Int} (h0:∀ r ∈ css,∀ x ∈ r,x ≠ 0) (hx0:∀ x ∈ xs,x ≠ 0) (hs:j3m css so) (hx:∀ z ∈ xs,-z ∈ so):¬ Rup (css.map (·.map Ai)) (xs.map Ai):=by
 intro hr;have h00:∀ z:Int,z ≠ 0->∀ q:Nat,Ai z=q->neg q=Ai (-z):=fun z hz q e=>(by rw [<- e]; exact Cj hz);refine hr (fun c=>∃ z ∈ so,z ≠ 0/\Ai z=c) ⟨fun c ⟨z,hz,hz0,e⟩ ⟨z',hz',_,e'⟩=>?_,fun g hg=>?_⟩ fun y hy=>?_
 ·rw [h00 z hz0 c e] at e';have:=HZ e';subst this;exact hs.no z hz hz'
 ·obtain ⟨r,hr,rfl⟩:=Ji.1 hg;have hf:∀ l ∈ r,(∃ z ∈ so,z ≠ 0/\Ai z=neg (Ai l))->-l ∈ so:=fun l hl ⟨z,hz,hz0,e⟩=>by
   rw [Cj (h0 r hr l hl)] at e;rw [<- HZ e]; exact hz
  rcases hs.cl r hr with ⟨l,hl,hlo⟩ | ⟨l1,hl1,l2,hl2,hne,ho1,ho2⟩
  ·refine ⟨fun x hx hall=>?_,fun hall=>?_⟩
   ·by_cases e:x=Ai l
    ·exact ⟨l,hlo,h0 r hr l hl,e.symm⟩
    ·have:=hf l hl (hall _ (Ji.2 ⟨l,hl,rfl⟩) (Ne.symm e));exact absurd this (hs.no l hlo)
   ·have:=hf l hl (hall _ (Ji.2 ⟨l,hl,rfl⟩));exact hs.no l hlo this
  ·refine ⟨fun x hx hall=>?_,fun hall=>?_⟩
   ·by_cases e:Ai l1=x
    ·have:=hf l2 hl2 (hall _ (Ji.2 ⟨l2,hl2,rfl⟩) (fun e2=>hne (HZ (e.trans e2.symm))));exact absurd this ho2.2
    ·have:=hf l1 hl1 (hall _ (Ji.2 ⟨l1,hl1,rfl⟩) e);exact absurd this ho1.2
   ·exact ho1.2 (hf l1 hl1 (hall _ (Ji.2 ⟨l1,hl1,rfl⟩)))
 ·obtain ⟨z,hz,rfl⟩:=Ji.1 hy;have:=hx0 z hz;exact ⟨-z,hx z hz,by omega,(Cj this).symm⟩
theorem FM {N n:Nat} {a:Option Addr} {css:List (List Int)} {c:Nat} (hn:n<=1000) (hlen:css.length<=100000) (hcs:∀ r ∈ css,r.length<=1000/\∀ x ∈ r,AE x=true/\x.natAbs<=n) {xs:List Int} {a':Option Addr} {c':Nat} (hN:N<=H.size) (hx:RC N H a css) (hr:Rn H a' xs) (hxl:xs.length<=1000) (hxs:∀ x ∈ xs,AE x=true/\x.natAbs<=n) (hnd:xs.Nodup) :
  CallF Tryz.prog 71 [.slice a css.length c,.slice a' xs.length c'] H (fun v H'=>Fr [] H H'/\∃ r:Bool,v=.bool r/\(r=true↔Rup (css.map (·.map Ai)) (xs.map Ai))) NoP:=by
 refine A9 Tryz.func71 rfl Tryz.ntmps71 Tryz.results71 (by decide) rfl ?_
 simp (disch:=omega) only [go_sem]
 refine Bp (fun U H1=>(U.get 0=.slice a css.length c/\U.get 1=.slice a' xs.length c'/\U.ds = [])/\H1=H) ?_ ?_
 ·simp (disch:=omega) only [go_sem,↓cB]
  refine Ae (fun j U H1=>∃ i:Nat,j=css.length - i/\i<=css.length/\(U.get 0=.slice a css.length c/\U.get 1=.slice a' xs.length c'/\U.get 5=iv i/\U.ds = [])/\H1=H) (k:=css.length) ?_ ?_
  ·exact ⟨0,rfl,by omega,by simp (disch:=omega) only [go_sem,↓cB],rfl⟩
  ·rintro _ U H1 ⟨i,rfl,hi,⟨r0,r1,r5,rd⟩,e⟩
   subst H1
   by_cases hie:i=css.length
   ·subst hie
    simp (disch:=omega) only [go_sem,↓cB,r0,r1,r5,rd]
    exact fin ⟨by simp (disch:=omega) only [go_sem,↓cB,r0,r1,rd],rfl⟩
   ·obtain ⟨r,hri⟩:∃ r,css[i]?=some r:=⟨_,J1 (by omega)⟩
    obtain ⟨b',o',ra,rc,e,-,kr,hrr,-,-⟩:=hx.ex i r hri
    subst e
    obtain ⟨hrl,hrz⟩:=hcs r (J2 hri)
    have hi1:(i:Int) + 1=((i + 1:Nat):Int):=by omega
    simp (disch:=omega) only [go_sem,↓cB,r0,r1,r5,rd,kr]
    refine A7 (CE hrr (by omega)) ?_
    rintro v H2 ⟨rfl,e⟩
    subst H2
    have:r.all AE=true:=Jo.2 fun x hx=>(hrz x hx).1
    rw [this]
    simp (disch:=omega) only [go_sem,↓cB,r0,r1,r5,rd]
    exact fin ⟨css.length - (i + 1),by omega,i + 1,rfl,by omega,by simp (disch:=omega) only [go_sem,↓cB,r0,r1,r5,rd,hi1],rfl⟩
 ·rintro U H1 ⟨⟨r0,r1,rd⟩,e⟩
  subst H1
  simp (disch:=omega) only [go_sem,r0,r1,rd]
  refine Bp (fun U H1=>∃ wv,(U.get 0=.slice a css.length c/\U.get 1=.slice a' xs.length c'/\U.get 6=wv/\U.ds = [])/\Fr [] H H1/\Vec H1 3 1 wv ((xs.map (- ·)).map iv)) ?_ ?_
  ·simp (disch:=omega) only [go_sem,↓cB,r0,r1,rd]
   refine Ae (fun j U H1=>∃ (i:Nat) (wv:Value),j=xs.length - i/\i<=xs.length/\(U.get 0=.slice a css.length c/\U.get 1=.slice a' xs.length c'/\U.get 6=wv/\U.get 7=iv i/\U.ds = [])/\Fr [] H H1/\Vec H1 3 1 wv (((xs.take i).map (- ·)).map iv)/\∀ b ∈ own wv,H.size<=b) (k:=xs.length) ?_ ?_
   ·exact ⟨0,.slice none 0 0,rfl,by omega,by simp (disch:=omega) only [go_sem,↓cB,r0,r1,rd],Fr.refl _ _,by simpa using (Vec.nil:Vec H 3 1 (.slice none 0 0) []),by simp [own]⟩
   ·clear r0 r1 rd
    rintro _ U H1 ⟨i,wv,rfl,hi,⟨r0,r1,r6,r7,rd⟩,f1,v1,o1⟩
    by_cases hie:i=xs.length
    ·subst hie
     rw [Jr] at v1
     simp (disch:=omega) only [go_sem,↓cB,r0,r1,r6,r7,rd]
     exact fin ⟨wv,by simp (disch:=omega) only [go_sem,↓cB,r0,r1,r6,rd],f1,v1⟩
    ·obtain ⟨y,hyi⟩:∃ y,xs[i]?=some y:=⟨_,J1 (by omega)⟩
     obtain ⟨b',o',e,ky⟩:=(hr.frame f1 (by simp)) i y hyi
     subst e
     have hyb:=CP (hxs y (J2 hyi)).1
     have hi1:(i:Int) + 1=((i + 1:Nat):Int):=by omega
     simp (disch:=omega) only [go_sem,↓cB,r0,r1,r6,r7,rd,ky,UA]
     refine AK T.zk rfl v1 rfl (by simp; omega) ?_
     intro v' H4 g1 g2 g3 g4
     simp (disch:=omega) only [go_sem,↓cB,r0,r1,r6,r7,rd]
     refine fin ⟨xs.length - (i + 1),by omega,i + 1,v',rfl,by omega,by simp (disch:=omega) only [go_sem,↓cB,r0,r1,r6,r7,rd,hi1],⟨Js f1.size g2.size,fun q hq _=>?_⟩,?_,fun q hq=>?_⟩
     ·rw [g2.same q (by have:=f1.size; omega) (fun e=>by have:=o1 q e; omega),f1.same q hq (by simp)]
     ·have:((xs.take (i + 1)).map (- ·)).map iv=((xs.take i).map (- ·)).map iv ++ [iv (-y)]:=by
       rw [Jl,hyi]; simp
      rw [this]; exact g1
     ·rcases g3 q hq with h | h
      ·exact o1 q h
      ·have:=f1.size; omega
  ·clear r0 r1 rd
   rintro U H1 ⟨wv,⟨r0,r1,r6,rd⟩,f1,v1⟩
   obtain ⟨aw,cw,e,hsw⟩:=(IL.yq v1).ex
   subst e
   have hall:xs.all AE=true:=Jo.2 fun x hx=>(hxs x hx).1
   simp (disch:=omega) only [go_sem,↓cB,r0,r1,r6,rd]
   refine A7 (CE (hr.frame f1 (by simp)) (by omega)) ?_
   rintro v H2 ⟨rfl,e⟩
   subst H2
   rw [hall]
   simp (disch:=omega) only [go_sem,↓cB,r0,r1,r6,rd]
   have hc:=JI (N:=N) (n:=n) (a:=a) (css:=css) (c:=c) hn hlen (fun r hr=>⟨(hcs r hr).1,fun x hx=>⟨Ci ((hcs r hr).2 x hx).1,((hcs r hr).2 x hx).2⟩⟩) n H1 (xs.map (- ·)) aw cw (by have:=f1.size; omega) (hx.same fun b hb=>f1.same b (by omega) (by simp)) hsw (by simp; omega) (by omega)
    (fun z hz=>by
     obtain ⟨y,hy,rfl⟩:=Ji.1 hz;have:=hxs y hy;have:=Ci this.1;omega)
    (Xp _ (fun p q hpq e=>hpq (by omega)) hnd)
   refine A7 hc ?_
   rintro v H3 ⟨f3,r,rfl,hres⟩
   simp (disch:=omega) only [go_sem,↓cB]
   refine fin ⟨f1.trans f3,r,rfl,fun e T hT hall=>hres.2 e T hT fun z hz=>?_,fun hr=>?_⟩
   ·obtain ⟨y,hy,rfl⟩:=Ji.1 hz
    rw [<- Cj (Ci (hxs y hy).1)]
    exact hall _ (Ji.2 ⟨y,hy,rfl⟩)
   ·cases r with
    | true=>rfl
    | false =>
     obtain ⟨so',g1,g2⟩:=hres.1 rfl;exact absurd hr (R2 (fun r hr x hx=>Ci ((hcs r hr).2 x hx).1) (fun x hx=>Ci (hxs x hx).1) g2 fun z hz=>g1 _ (Ji.2 ⟨z,hz,rfl⟩))
end
section
variable {H:A3}
theorem UL {H':A3} {F:List Nat} {ra:Option Addr} {r:List Int} (h:Rn H ra r) (hf:Fr F H H') (hd:r ≠ []->∀ b o,ra=some ⟨b,o,none⟩->b ∉ F):Rn H' ra r:=fun i x hi=>by
 obtain ⟨b,o,e,hc⟩:=h i x hi;exact ⟨b,o,e,hf.zg hc (hd (fun e0=>by rw [e0] at hi; simp at hi) b o e)⟩
structure WR (M:Nat) (H:A3) (v:Value) (rvs:List Value) (css:List (List Int)):Prop where
 vec:Vec H 23 1 v rvs
 len:rvs.length=css.length
 own:∀ b ∈ own v,M<=b
 row:∀ (j:Nat) (rv:Value) (r:List Int),rvs[j]?=some rv->css[j]?=some r->∃ ra rc,rv=.slice ra r.length rc/\r.length<=rc/\Rn H ra r/\(r ≠ []->∀ b o,ra=some ⟨b,o,none⟩->b < H.size/\b ∉ Go.HL.own v)
theorem WR.nil {M:Nat} {v:Value} (hv:Vec H 23 1 v []) (ho:∀ b ∈ Go.HL.own v,M<=b):WR M H v [] []:=⟨hv,rfl,ho,fun j rv r h=>by simp at h⟩
theorem WR.frame {M:Nat} {H':A3} {v:Value} {rvs:List Value} {css:List (List Int)} (h:WR M H v rvs css) (hf:Fr [] H H'):WR M H' v rvs css:=⟨h.vec.frame hf (by simp),h.len,h.own,fun j rv r hj hr=>by
 obtain ⟨ra,rc,g1,g2,g3,g4⟩:=h.row j rv r hj hr
 exact ⟨ra,rc,g1,g2,g3.frame hf (by simp),fun e b o e2=>⟨by have:=(g4 e b o e2).1; have:=hf.size; omega,(g4 e b o e2).2⟩⟩⟩
theorem WR.add {M:Nat} {H':A3} {v v' rv:Value} {rvs:List Value} {css:List (List Int)} {r:List Int} {ra:Option Addr} {rc:Nat} (h:WR M H v rvs css) (hM:M<=H.size) (g1:Vec H' 23 1 v' (rvs ++ [rv])) (g2:Fr (Go.HL.own v) H H') (g3:∀ b ∈ Go.HL.own v',b ∈ Go.HL.own v\/H.size<=b)
  (hrv:rv=.slice ra r.length rc) (hc:r.length<=rc) (hr:Rn H ra r) (hb:r ≠ []->∀ b o,ra=some ⟨b,o,none⟩->b ∉ Go.HL.own v):WR M H' v' (rvs ++ [rv]) (css ++ [r]):=by
 have lt:∀ (x:List Int) (xa:Option Addr),Rn H xa x->x ≠ []->∀ b o,xa=some ⟨b,o,none⟩->b < H.size:=fun x xa hx hne b o e=>by
  cases x with
  | nil=>exact absurd rfl hne
  | cons y t =>
   obtain ⟨b',o',e',hc'⟩:=hx 0 y rfl;rw [e] at e';simp only [J5,Addr.mk.injEq,Zt] at e';rw [e'.1]; exact FC hc'
 have mv:∀ (x:List Int) (xa:Option Addr),Rn H xa x->(x ≠ []->∀ b o,xa=some ⟨b,o,none⟩->b ∉ Go.HL.own v)->Rn H' xa x/\(x ≠ []->∀ b o,xa=some ⟨b,o,none⟩->b < H'.size/\b ∉ Go.HL.own v'):=fun x xa hx hd=>by
  refine ⟨UL hx g2 hd,fun hne b o e=>?_⟩;have h1:=lt x xa hx hne b o e;refine ⟨by have:=g2.size; omega,fun h2=>?_⟩;rcases g3 b h2 with h3 | h3
  ·exact hd hne b o e h3
  ·omega
 refine ⟨g1,by simp [h.len],fun b hb=>(g3 b hb).elim (h.own b) (fun e=>by omega),fun j w x hj hx=>?_⟩
 rcases Zg j rvs.length with hlt | he | hgt
 ·rw [Jg hlt] at hj
  rw [Jg (by rw [<- h.len]; exact hlt)] at hx
  obtain ⟨xa,xc,q1,q2,q3,q4⟩:=h.row j w x hj hx
  obtain ⟨q5,q6⟩:=mv x xa q3 fun e b o e2=>(q4 e b o e2).2
  exact ⟨xa,xc,q1,q2,q5,q6⟩
 ·subst he
  rw [Jf (Jb _),Yf] at hj
  rw [h.len,Jf (Jb _),Yf] at hx
  have e1:=Jj hj
  have e2:=Jj hx
  subst e1; subst e2
  obtain ⟨q5,q6⟩:=mv r ra hr hb
  exact ⟨ra,rc,hrv,hc,q5,q6⟩
 ·rw [Jp (by simp; omega)] at hj
  cases hj
theorem WR.rc {M:Nat} {v:Value} {rvs:List Value} {css:List (List Int)} (h:WR M H v rvs css):∃ a c,v=.slice a css.length c/\RC H.size H a css:=by
 obtain ⟨a,len,c,e,hl⟩:=h.vec.len;rw [Jy,h.len] at hl;subst hl;refine ⟨a,c,e,⟨fun i r hi=>?_⟩⟩;have hil:=(J3.1 hi).1;obtain ⟨rv,hrv⟩:∃ rv,rvs[i]?=some rv:=⟨_,J1 (by rw [h.len]; exact hil)⟩;obtain ⟨b,o,cap,e2,hc⟩:=Bc h.vec hrv;rw [e] at e2;simp only [Value.slice.injEq] at e2;obtain ⟨ra,rc,g1,g2,g3,g4⟩:=h.row i rv r hrv hi;exact ⟨b,o,ra,rc,e2.1,FC hc,by rw [<- g1]; exact hc,g3,fun hne b' o' e3=>(g4 hne b' o' e3).1,g2⟩
theorem RC.src {N:Nat} {a:Option Addr} {css:List (List Int)} {c:Nat} (h:RC N H a css):∃ rvs,AR H 1 css.length (.slice a css.length c)=some rvs/\rvs.length=css.length/\∀ (j:Nat) (rv:Value) (r:List Int),rvs[j]?=some rv->css[j]?=some r->∃ ra rc,rv=.slice ra r.length rc/\r.length<=rc/\Rn H ra r/\(r ≠ []->∀ b o,ra=some ⟨b,o,none⟩->b < N):=by
 cases css with
 | nil=>exact ⟨[],by cases a <;> rfl,rfl,fun j rv r h=>by simp at h⟩
 | cons r0 rest =>
  obtain ⟨b,o,ra,rc,ea,-⟩:=h.ex 0 r0 rfl;subst ea;have key:∀ (j:Nat) (r:List Int),(r0 :: rest)[j]?=some r->∃ ra rc,A5 H ⟨b,o + j,none⟩=some (.slice ra r.length rc)/\Rn H ra r/\(r ≠ []->∀ b o,ra=some ⟨b,o,none⟩->b < N)/\r.length<=rc:=fun j r hj=>by
   obtain ⟨b2,o2,ra,rc,e,-,h1,h2,h3,h4⟩:=h.ex j r hj;simp only [J5,Addr.mk.injEq,Zt] at e;obtain ⟨rfl,rfl⟩:=e;exact ⟨ra,rc,h1,h2,h3,h4⟩
  obtain ⟨rvs,hrvs⟩:∃ rvs,rvs=(List.range (r0 :: rest).length).map fun j=>(A5 H ⟨b,o + j,none⟩).getD (iv 0):=⟨_,rfl⟩;have hlen:rvs.length=(r0 :: rest).length:=(by rw [hrvs]; simp);refine ⟨rvs,?_,hlen,?_⟩
  ·show Ay (A5 H) ⟨b,o,none⟩ 0 ((r0 :: rest).length * 1)=some rvs;rw [Jy,<- hlen];refine Bi _ _ 0 fun j hj=>?_;have hj':j < (r0 :: rest).length:=(by rw [<- hlen]; exact hj);obtain ⟨ra,rc,h1,-⟩:=key j _ (J1 hj');rw [Zc,h1];refine congrArg some ?_;subst hrvs;rw [Xu,V4,h1];rfl
  ·intro j rv r hj hr;obtain ⟨ra,rc,h1,h2,h3,h4⟩:=key j r hr;have hjl:=(J3.1 hr).1;rw [hrvs,Z0,List.getElem?_range hjl] at hj;simp only [Ju,J5,h1,X4] at hj;exact ⟨ra,rc,hj.symm,h4,h2,h3⟩
theorem MX {a a':Option Addr} {xs ys:List Int} {c c':Nat} (hx:Rn H a xs) (hy:Rn H a' ys) (h1:xs.all AE=true) (h2:ys.all AE=true) (hlen:xs.length<=100000) (hlen2:ys.length<=100000) :
  CallF Tryz.prog 72 [.slice a xs.length c,.slice a' ys.length c'] H (fun v H'=>Fr [] H H'/\∃ r:Bool,v=.bool r/\(r=true↔∀ x,x ∈ xs↔x ∈ ys)) NoP:=by
 have nl:∀ (z xs:List Int),z.Pairwise ltN->(∀ x,x ∈ z↔x ∈ xs)->xs.all AE=true->z.length<=1000000:=fun z xs hs hm hb=>by
  have:=M7 (n:=100000) (z:=z) ⟨fun x hx=>by
   have hl:=Jo.1 hb x ((hm x).1 hx);have:=CP hl;exact ⟨Ci hl,by omega⟩,hs⟩
  omega
 refine A9 Tryz.func72 rfl Tryz.ntmps72 Tryz.results72 (by decide) rfl ?_
 simp (disch:=omega) only [go_sem,↓cB]
 refine A7 (JG hx h1 hlen) ?_
 rintro v H1 ⟨f1,w1,z1,i1,rfl,v1,o1,s1,m1,-⟩
 simp (disch:=omega) only [go_sem,↓cB]
 refine A7 (JG (hy.frame f1 (by simp)) h2 hlen2) ?_
 rintro v H2 ⟨f2,w2,z2,i2,rfl,v2,o2,s2,m2,-⟩
 obtain ⟨a1,c1,rfl,r1⟩:=(IL.yq (v1.frame f2 (by simp))).ex
 obtain ⟨a2,c2,rfl,r2⟩:=(IL.yq v2).ex
 simp (disch:=omega) only [go_sem,↓cB]
 refine A7 (Oi r1 r2 ?_ ?_) ?_
 ·exact nl z1 xs s1 m1 h1
 ·exact nl z2 ys s2 m2 h2
 ·rintro v H3 ⟨rfl,e⟩
  subst H3
  simp (disch:=omega) only [go_sem,↓cB]
  refine fin ⟨f1.trans f2,_,rfl,fun he x=>?_,fun he=>?_⟩
  ·have:z1=z2:=by simpa using he
   rw [<- m1,<- m2,this]
  ·have:z1=z2:=KL s1 s2 fun x=>by rw [m1,m2,he]
   simp [this]
end
structure Ob where
 e:Nat
 z:Nat
 v:Value
 vs:List Value
def Kc (D:Nat->Option Ob) (r:Nat) (o:Ob):Nat->Option Ob:=fun q=>if q=r then some o else D q
theorem Bh {D:Nat->Option Ob} {r:Nat} {o:Ob}:Kc D r o r=some o:=J8 rfl
theorem Aj {D:Nat->Option Ob} {r q:Nat} {o:Ob} (h:q ≠ r):Kc D r o q=D q:=J4 h
structure MD (H:A3) (ow:Nat->Nat) (D:Nat->Option Ob) (mp:Nat) (kvs:List (Value × Value)):Prop where
 mm:∀ r o,D r=some o->VR H ow r o.e o.z o.v o.vs
 mr:MapR H mp kvs
 mo:ow mp=3
 lo:∀ b,ow b ≠ 0->b < H.size
 d0:D 0=none
 d3:D 3=none
section
variable {H H':A3} {ow:Nat->Nat} {D:Nat->Option Ob} {mp:Nat} {kvs:List (Value × Value)} {r:Nat} {o:Ob}
theorem MD.ext {D':Nat->Option Ob} (h:MD H ow D mp kvs) (hD:∀ q,D' q=D q):MD H ow D' mp kvs:=by
 have:D'=D:=funext hD;rw [this]; exact h
theorem MD.free (h:MD H ow D mp kvs) {b:Nat} (hb:H.size<=b):ow b=0:=by
 by_cases e:ow b=0
 ·exact e
 ·have:=h.lo b e; omega
theorem MD.ro (h:MD H ow D mp kvs) (ho:D r=some o):r ≠ 0/\r ≠ 3:=by
 constructor
 ·rintro rfl; rw [h.d0] at ho; cases ho
 ·rintro rfl; rw [h.d3] at ho; cases ho
theorem MD.out (h:MD H ow D mp kvs) {F:List Nat} (hf:Fr F H H') (hF:∀ b ∈ F,ow b=0):MD H' ow D mp kvs :=
 ⟨fun q o2 h2=>(h.mm q o2 h2).fr (Sm.of (R:=(· = 0)) hf hF) Ow.refl (h.ro h2).1,h.mr.frame hf (fun e=>by have:=hF _ e; rw [h.mo] at this; omega),h.mo,fun b hb=>Yw (h.lo b hb) hf.size,h.d0,h.d3⟩
theorem MD.put (h:MD H ow D mp kvs) (ho:D r=some o) (hz:o.z=1) {i:Nat} (hi:i < o.vs.length) (u:Value) :
  ∃ b c cap,o.v=.slice (some ⟨b,c,none⟩) o.vs.length cap/\wr H ⟨b,c + i,none⟩ u=some (Aw H ⟨b,c + i,none⟩ u)/\MD (Aw H ⟨b,c + i,none⟩ u) ow (Kc D r ⟨o.e,o.z,o.v,o.vs.set i u⟩) mp kvs/\Ex H ow (Aw H ⟨b,c + i,none⟩ u) ow/\ow b=r:=by
 have hv:=h.mm r o ho
 obtain ⟨h0,h3⟩:=h.ro ho
 rw [hz] at hv
 obtain ⟨b,c,cap,e1,e2,e3,e4⟩:=hv.vec.qs hi u
 have hb:ow b=r:=hv.ow b (by rw [e1]; simp [own])
 have hs:Sm ow (· = r) H (Aw H ⟨b,c + i,none⟩ u):=Sm.set hb
 refine ⟨b,c,cap,e1,e2,⟨fun q o2 h2=>?_,h.mr.frame (F:=[b]) (Fr.set (by simp)) (fun e=>?_),h.mo,fun x hx=>by rw [AA]; exact h.lo x hx,by rw [Aj (Ne.symm h0)]; exact h.d0,by rw [Aj (Ne.symm h3)]; exact h.d3⟩,Ex.of hs (Ne.symm h0),hb⟩
 ·by_cases hq:q=r
  ·subst hq
   rw [Bh] at h2
   cases h2
   exact ⟨by show Vec _ o.e o.z o.v _; rw [hz]; exact e3,hv.ow⟩
  ·rw [Aj hq] at h2
   exact (h.mm q o2 h2).fr hs Ow.refl hq
 ·have:mp=b:=by simpa using e
  rw [<- this,h.mo] at hb
  exact h3 hb.symm
theorem MD.grow (h:MD H ow D mp kvs) (ho:D r=some o) {o':Ob} (g1:Vec H' o'.e o'.z o'.v o'.vs) (g2:Fr (own o.v) H H') (g3:∀ b ∈ own o'.v,b ∈ own o.v\/H.size<=b) :
  ∃ ow',MD H' ow' (Kc D r o') mp kvs/\Ex H ow H' ow':=by
 have hv:=h.mm r o ho
 obtain ⟨h0,h3⟩:=h.ro ho
 obtain ⟨ow',how⟩:∃ ow':Nat->Nat,∀ b,ow' b=if b ∈ own o'.v then r else ow b:=⟨_,fun _=>rfl⟩
 have hO:Ow H ow ow':=fun b hb=>by
  rw [how];split
  ·rename_i hm;rcases g3 b hm with h1 | h1
   ·exact (hv.ow b h1).symm
   ·omega
  ·rfl
 have hs:Sm ow (· = r) H H':=Sm.of g2 fun b hb=>hv.ow b hb
 refine ⟨ow',⟨fun q o2 h2=>?_,h.mr.frame g2 (fun e=>?_),?_,fun b hb=>?_,by rw [Aj (Ne.symm h0)]; exact h.d0,by rw [Aj (Ne.symm h3)]; exact h.d3⟩,⟨hs.mono fun q hq=>by subst hq; exact h0,hO⟩⟩
 ·by_cases hq:q=r
  ·subst hq
   rw [Bh] at h2
   cases h2
   exact ⟨g1,fun b hb=>by rw [how,J8 hb]⟩
  ·rw [Aj hq] at h2
   exact (h.mm q o2 h2).fr hs hO hq
 ·have:=hv.ow _ e; rw [h.mo] at this; exact h3 this.symm
 ·rw [hO _ h.mr.lt]; exact h.mo
 ·rw [how] at hb
  split at hb
  ·exact g1.lt b ‹_›
  ·exact Yw (h.lo b hb) g2.size
theorem MD.take (h:MD H ow D mp kvs) (h0:r ≠ 0) (h3:r ≠ 3) (hr:D r=none) {o':Ob} (g1:Vec H o'.e o'.z o'.v o'.vs) (g3:∀ b ∈ own o'.v,ow b=0) :
  ∃ ow',MD H ow' (Kc D r o') mp kvs/\(∀ b,b ∉ own o'.v->ow' b=ow b):=by
 refine ⟨fun b=>if b ∈ own o'.v then r else ow b,⟨fun q o2 h2=>?_,h.mr,?_,fun b hb=>?_,by rw [Aj (Ne.symm h0)]; exact h.d0,by rw [Aj (Ne.symm h3)]; exact h.d3⟩,fun b hb=>J4 hb⟩
 ·by_cases hq:q=r
  ·subst hq
   rw [Bh] at h2
   cases h2
   exact ⟨g1,fun b hb=>J8 hb⟩
  ·rw [Aj hq] at h2
   refine (h.mm q o2 h2).ad (fun b hb=>J4 fun e=>hb (g3 b e)) (h.ro h2).1
 ·show (if mp ∈ own o'.v then r else ow mp)=3
  rw [J4 fun e=>by have:=g3 _ e; rw [h.mo] at this; omega]; exact h.mo
 ·have hb':(if b ∈ own o'.v then r else ow b) ≠ 0:=hb
  split at hb'
  ·exact g1.lt b ‹_›
  ·exact h.lo b hb'
theorem MD.map (h:MD H ow D mp kvs) {kvs':List (Value × Value)} (hm:MapR H' mp kvs') (hf:Fr [mp] H H'):MD H' ow D mp kvs'/\Ex H ow H' ow:=by
 have hs:Sm ow (· = 3) H H':=Sm.of hf fun b hb=>by
  have:b=mp:=(by simpa using hb);rw [this]; exact h.mo
 exact ⟨⟨fun q o2 h2=>(h.mm q o2 h2).fr hs Ow.refl (h.ro h2).2,hm,h.mo,fun b hb=>Yw (h.lo b hb) hf.size,h.d0,h.d3⟩,Ex.of hs (by omega)⟩
theorem MD.cell (h:MD H ow D mp kvs) (ho:D r=some o) (hz:o.z=1) {i:Nat} {u:Value} (hi:o.vs[i]?=some u):∃ b c cap,o.v=.slice (some ⟨b,c,none⟩) o.vs.length cap/\ow b=r/\A5 H ⟨b,c + i,none⟩=some u:=by
 have hv:=h.mm r o ho;rw [hz] at hv;exact hv.cell hi
end
structure Kf where
 cls:Value
 wat:Value
 val:Value
 rea:Value
 trl:Value
 uns:Value
 es:List Value
 lits:Nat->List Nat
 mp:Nat
 kvs:List (Value × Value)
 kl:Nat->List Nat
 wv:List Value
 w:Nat->List Nat
 vals:List Int
 rs:List Int
 tr:List Nat
 us:List Nat
 head:Nat
 emp:Nat
 bro:Bool
 stale:Bool
def Cy (f:Kf):List Value:=[f.cls,.map (some f.mp),f.wat,f.val,f.rea,f.trl,iv f.head,f.uns,iv f.emp,.bool f.bro,.bool f.stale]
def KD (p:Nat) (f:Kf):Nat->Option Ob:=fun r =>
 if r=1 then some ⟨197,1,.slice (some ⟨p,0,none⟩) 11 11,Cy f⟩ else
 if r=2 then some ⟨200,2,f.cls,f.es.flatMap fun v=>[v,.bool false]⟩ else
 if r=4 then some ⟨23,1,f.wat,f.wv⟩ else
 if r=5 then some ⟨179,1,f.val,f.vals.map (Value.int .i8)⟩ else
 if r=6 then some ⟨3,1,f.rea,f.rs.map iv⟩ else
 if r=7 then some ⟨3,1,f.trl,nv f.tr⟩ else
 if r=8 then some ⟨3,1,f.uns,nv f.us⟩ else
 if r < 100 then none else
 if r % 3=1 then (f.wv[(r - 100) / 3]?).map fun v=>⟨3,1,v,nv (f.w ((r - 100) / 3))⟩ else
 if r % 3=2 then (f.es[(r - 101) / 3]?).map fun v=>⟨3,1,v,nv (f.lits ((r - 101) / 3))⟩ else
 (f.kvs[(r - 102) / 3]?).map fun kv=>⟨3,1,kv.2,nv (f.kl ((r - 102) / 3))⟩
abbrev RK (H:A3) (ow:Nat->Nat) (p:Nat) (f:Kf):Prop:=MD H ow (KD p f) f.mp f.kvs
section
variable {p:Nat} {f:Kf}
theorem F4 {x:Nat}:KD p f (100 + 3 * x)=(f.wv[x]?).map fun v=>⟨3,1,v,nv (f.w x)⟩:=by
 unfold KD;rw [J4 (by omega),J4 (by omega),J4 (by omega),J4 (by omega),J4 (by omega),J4 (by omega),J4 (by omega),J4 (by omega),J8 (by omega),show (100 + 3 * x - 100) / 3=x by omega]
theorem Er {c:Nat}:KD p f (101 + 3 * c)=(f.es[c]?).map fun v=>⟨3,1,v,nv (f.lits c)⟩:=by
 unfold KD;rw [J4 (by omega),J4 (by omega),J4 (by omega),J4 (by omega),J4 (by omega),J4 (by omega),J4 (by omega),J4 (by omega),J4 (by omega),J8 (by omega),show (101 + 3 * c - 101) / 3=c by omega]
theorem EN {j:Nat}:KD p f (102 + 3 * j)=(f.kvs[j]?).map fun kv=>⟨3,1,kv.2,nv (f.kl j)⟩:=by
 unfold KD;rw [J4 (by omega),J4 (by omega),J4 (by omega),J4 (by omega),J4 (by omega),J4 (by omega),J4 (by omega),J4 (by omega),J4 (by omega),J4 (by omega),show (102 + 3 * j - 102) / 3=j by omega]
theorem K4 {f':Kf} {D:Nat->Option Ob} (h1:KD p f' 1=D 1) (h2:KD p f' 2=D 2) (h4:KD p f' 4=D 4) (h5:KD p f' 5=D 5) (h6:KD p f' 6=D 6) (h7:KD p f' 7=D 7) (h8:KD p f' 8=D 8)
  (hn:∀ q,(q=0\/q=3\/8 < q)->q < 100->D q=none) (hw:∀ x,KD p f' (100 + 3 * x)=D (100 + 3 * x)) (hl:∀ x,KD p f' (101 + 3 * x)=D (101 + 3 * x)) (hk:∀ x,KD p f' (102 + 3 * x)=D (102 + 3 * x)):∀ q,KD p f' q=D q:=by
 intro q
 by_cases hq:q < 100
 ·by_cases hs:q=0\/q=3\/8 < q
  ·rw [hn q hs hq]
   unfold KD
   rw [J4 (by omega),J4 (by omega),J4 (by omega),J4 (by omega),J4 (by omega),J4 (by omega),J4 (by omega),J8 hq]
  ·have:q=1\/q=2\/q=4\/q=5\/q=6\/q=7\/q=8:=by omega
   rcases this with rfl | rfl | rfl | rfl | rfl | rfl | rfl <;> assumption
 ·have h3:q % 3=1\/q % 3=2\/q % 3=0:=by omega
  rcases h3 with h | h | h
  ·have e:q=100 + 3 * ((q - 100) / 3):=by omega
   rw [e]; exact hw _
  ·have e:q=101 + 3 * ((q - 101) / 3):=by omega
   rw [e]; exact hl _
  ·have e:q=102 + 3 * ((q - 102) / 3):=by omega
   rw [e]; exact hk _
theorem Ft {q:Nat} (h:q=0\/q=3\/8 < q) (hq:q < 100):KD p f q=none:=by
 unfold KD;rw [J4 (by omega),J4 (by omega),J4 (by omega),J4 (by omega),J4 (by omega),J4 (by omega),J4 (by omega),J8 hq]
theorem Ih {f':Kf} {D:Nat->Option Ob} (h1:KD p f' 1=D 1) (h2:KD p f' 2=D 2) (h4:KD p f' 4=D 4) (h5:KD p f' 5=D 5) (h6:KD p f' 6=D 6) (h7:KD p f' 7=D 7) (h8:KD p f' 8=D 8) (d0:D 0=none) (d3:D 3=none)
  (hD:∀ q,8 < q->D q=KD p f q) (hf:(f'.wv,f'.w,f'.es,f'.lits,f'.kvs,f'.kl)=(f.wv,f.w,f.es,f.lits,f.kvs,f.kl)):∀ q,KD p f' q=D q:=by
 simp only [Jx] at hf
 obtain ⟨e1,e2,e3,e4,e5,e6⟩:=hf
 refine K4 h1 h2 h4 h5 h6 h7 h8 (fun q hq hl=>?_) (fun x=>?_) (fun x=>?_) (fun x=>?_)
 ·rcases hq with rfl | rfl | hq
  ·exact d0
  ·exact d3
  ·rw [hD q hq]; exact Ft (.inr (.inr hq)) hl
 ·rw [hD _ (by omega),F4,F4,e1,e2]
 ·rw [hD _ (by omega),Er,Er,e3,e4]
 ·rw [hD _ (by omega),EN,EN,e5,e6]
theorem ds8 {D:Nat->Option Ob} {r:Nat} {o:Ob} {f:Kf} (h:∀ q,8 < q->D q=KD p f q) (hr:r<=8):∀ q,8 < q->Kc D r o q=KD p f q:=fun q hq=>by rw [Aj (by omega)]; exact h q hq
variable {H:A3} {ow:Nat->Nat}
theorem RK.c (h:RK H ow p f) {i:Nat} {u:Value} (hi:(Cy f)[i]?=some u):A5 H ⟨p,i,none⟩=some u:=by
 obtain ⟨b,c,cap,e,-,hc⟩:=MD.cell h (r:=1) rfl rfl hi;simp only [Value.slice.injEq,J5,Addr.mk.injEq,Zt] at e;obtain ⟨⟨rfl,rfl⟩,-⟩:=e;rw [<- hc,Zv]
theorem MD.self {D:Nat->Option Ob} {mp:Nat} {kvs:List (Value × Value)} (h:MD H ow D mp kvs) {l:List Value} {t:Nat} (h1:D 1=some ⟨t,1,.slice (some ⟨p,0,none⟩) 11 11,l⟩) (hl:l.length=11) {i:Nat} (hi:i < 11) (u:Value) :
  ∃ H',wr H ⟨p,i,none⟩ u=some H'/\MD H' ow (Kc D 1 ⟨t,1,.slice (some ⟨p,0,none⟩) 11 11,l.set i u⟩) mp kvs/\Ex H ow H' ow:=by
 obtain ⟨b,c,cap,e,h2,h3,h4,-⟩:=h.put h1 rfl (i:=i) (by show i < l.length; omega) u
 simp only [Value.slice.injEq,J5,Addr.mk.injEq,Zt] at e
 obtain ⟨⟨rfl,rfl⟩,-⟩:=e
 rw [Zv] at h2 h3 h4
 exact ⟨_,h2,h3,h4⟩
theorem kd8:∀ q,8 < q->KD p f q=KD p f q:=fun _ _=>rfl
theorem MD.form {D:Nat->Option Ob} {mp r:Nat} {kvs:List (Value × Value)} {o:Ob} (h:MD H ow D mp kvs) (ho:D r=some o) (hz:o.z=1):∃ a cap,o.v=.slice a o.vs.length cap:=by
 have hv:=h.mm r o ho;rw [hz] at hv;exact hv.form
theorem MD.at {D:Nat->Option Ob} {mp r:Nat} {kvs:List (Value × Value)} {o:Ob} (h:MD H ow D mp kvs) (ho:D r=some o) (hz:o.z=1) {b c cap:Nat} (hv:o.v=.slice (some ⟨b,c,none⟩) o.vs.length cap) {i:Nat} {u:Value} (hi:o.vs[i]?=some u):A5 H ⟨b,c + i,none⟩=some u:=by
 obtain ⟨b',c',cap',e,-,hc⟩:=h.cell ho hz hi;rw [hv] at e;simp only [Value.slice.injEq,J5,Addr.mk.injEq,Zt] at e;obtain ⟨⟨rfl,rfl⟩,-⟩:=e;exact hc
theorem MD.o8 {D:Nat->Option Ob} {mp r:Nat} {kvs:List (Value × Value)} {o:Ob} (h:MD H ow D mp kvs) (ho:D r=some o) (hz:o.z=1) {b c cap:Nat} (hv:o.v=.slice (some ⟨b,c,none⟩) o.vs.length cap) {i:Nat} (hi:i < o.vs.length) (u:Value) :
  ∃ H',wr H ⟨b,c + i,none⟩ u=some H'/\MD H' ow (Kc D r ⟨o.e,o.z,o.v,o.vs.set i u⟩) mp kvs/\Ex H ow H' ow:=by
 obtain ⟨b',c',cap',e,h1,h2,h3,-⟩:=h.put ho hz hi u
 rw [hv] at e
 simp only [Value.slice.injEq,J5,Addr.mk.injEq,Zt] at e
 obtain ⟨⟨rfl,rfl⟩,-⟩:=e
 exact ⟨_,h1,h2,h3⟩
theorem RK.vv (h:RK H ow p f) {x:Nat} (hx:x < f.vals.length):∃ b o cap,f.val=.slice (some ⟨b,o,none⟩) f.vals.length cap:=by
 obtain ⟨u,hu⟩:∃ u,(f.vals.map (Value.int .i8))[x]?=some u:=⟨_,J1 (by simpa using hx)⟩;obtain ⟨b,c,cap,e,-,-⟩:=MD.cell h (r:=5) rfl rfl hu;exact ⟨b,c,cap,by simpa using e⟩
theorem RK.vw (h:RK H ow p f) {b o cap:Nat} (hv:f.val=.slice (some ⟨b,o,none⟩) f.vals.length cap) {x:Nat} {u:Int} (hx:f.vals[x]?=some u):A5 H ⟨b,o + x,none⟩=some (.int .i8 u) :=
 MD.at h (r:=5) rfl rfl (cap:=cap) (by simpa using hv) (by simp [hx])
theorem RK.yn (h:RK H ow p f) {b o cap:Nat} (hv:f.val=.slice (some ⟨b,o,none⟩) f.vals.length cap) {x:Nat} (hx:x < f.vals.length) (u:Int) :
  ∃ H',wr H ⟨b,o + x,none⟩ (.int .i8 u)=some H'/\RK H' ow p { f with vals:=f.vals.set x u }/\Ex H ow H' ow:=by
 obtain ⟨H',h1,h2,h3⟩:=MD.o8 h (r:=5) rfl rfl (cap:=cap) (by simpa using hv) (i:=x) (by simpa using hx) (.int .i8 u)
 exact ⟨H',h1,h2.ext (Ih (f:=f) rfl rfl rfl (by show some _=some _; simp [Yn]) rfl rfl rfl rfl rfl (ds8 kd8 (by omega)) rfl),h3⟩
theorem RK.fj (h:RK H ow p f) {x:Nat} (hx:x < f.rs.length):∃ b o cap,f.rea=.slice (some ⟨b,o,none⟩) f.rs.length cap:=by
 obtain ⟨u,hu⟩:∃ u,(f.rs.map iv)[x]?=some u:=⟨_,J1 (by simpa using hx)⟩;obtain ⟨b,c,cap,e,-,-⟩:=MD.cell h (r:=6) rfl rfl hu;exact ⟨b,c,cap,by simpa using e⟩
theorem RK.xz (h:RK H ow p f) {b o cap:Nat} (hv:f.rea=.slice (some ⟨b,o,none⟩) f.rs.length cap) {x:Nat} (hx:x < f.rs.length) (u:Int) :
  ∃ H',wr H ⟨b,o + x,none⟩ (iv u)=some H'/\RK H' ow p { f with rs:=f.rs.set x u }/\Ex H ow H' ow:=by
 obtain ⟨H',h1,h2,h3⟩:=MD.o8 h (r:=6) rfl rfl (cap:=cap) (by simpa using hv) (i:=x) (by simpa using hx) (iv u)
 exact ⟨H',h1,h2.ext (Ih (f:=f) rfl rfl rfl rfl (by show some _=some _; simp [Yn]) rfl rfl rfl rfl (ds8 kd8 (by omega)) rfl),h3⟩
theorem RK.fld (h:RK H ow p f) {f':Kf} {i:Nat} (u:Value) (hi:i < 11) (hc:Cy f'=(Cy f).set i u) (h2:KD p f' 2=KD p f 2) (h4:KD p f' 4=KD p f 4) (h5:KD p f' 5=KD p f 5) (h6:KD p f' 6=KD p f 6) (h7:KD p f' 7=KD p f 7) (h8:KD p f' 8=KD p f 8)
  (hf:(f'.wv,f'.w,f'.es,f'.lits,f'.kvs,f'.kl)=(f.wv,f.w,f.es,f.lits,f.kvs,f.kl)) (hm:f'.mp=f.mp):∃ H',wr H ⟨p,i,none⟩ u=some H'/\RK H' ow p f'/\Ex H ow H' ow:=by
 obtain ⟨H',h1,m,e⟩:=MD.self h (l:=Cy f) (t:=197) rfl rfl hi u
 have hk:f'.kvs=f.kvs:=by simp only [Jx] at hf; exact hf.2.2.2.2.1
 refine ⟨H',h1,?_,e⟩
 show MD H' ow (KD p f') f'.mp f'.kvs
 rw [hm,hk]
 exact m.ext (Ih (f:=f) (by rw [Bh]; show some (Ob.mk _ _ _ _)=_; rw [hc]) h2 h4 h5 h6 h7 h8 rfl rfl (ds8 kd8 (by omega)) hf)
theorem RK.xk (h:RK H ow p f) (u:Nat):∃ H',wr H ⟨p,6,none⟩ (iv u)=some H'/\RK H' ow p { f with head:=u }/\Ex H ow H' ow:=h.fld _ (by omega) rfl rfl rfl rfl rfl rfl rfl rfl rfl
theorem RK.jn (h:RK H ow p f) (u:Nat):∃ H',wr H ⟨p,8,none⟩ (iv u)=some H'/\RK H' ow p { f with emp:=u }/\Ex H ow H' ow:=h.fld _ (by omega) rfl rfl rfl rfl rfl rfl rfl rfl rfl
theorem RK.yx (h:RK H ow p f) (u:Bool):∃ H',wr H ⟨p,9,none⟩ (.bool u)=some H'/\RK H' ow p { f with bro:=u }/\Ex H ow H' ow:=h.fld _ (by omega) rfl rfl rfl rfl rfl rfl rfl rfl rfl
theorem RK.qq (h:RK H ow p f) (u:Bool):∃ H',wr H ⟨p,10,none⟩ (.bool u)=some H'/\RK H' ow p { f with stale:=u }/\Ex H ow H' ow:=h.fld _ (by omega) rfl rfl rfl rfl rfl rfl rfl rfl rfl
theorem RK.qx (h:RK H ow p f) {H1:A3} {v':Value} {l:List Nat} (g1:Vec H1 3 1 v' (nv l)) (g2:Fr (own f.trl) H H1) (g3:∀ b ∈ own v',b ∈ own f.trl\/H.size<=b) :
  ∃ ow' H',wr H1 ⟨p,5,none⟩ v'=some H'/\RK H' ow' p { f with trl:=v',tr:=l }/\Ex H ow H' ow':=by
 obtain ⟨ow',m1,e1⟩:=MD.grow h (r:=7) rfl (o':=⟨3,1,v',nv l⟩) g1 g2 g3
 obtain ⟨H',h1,m,e⟩:=m1.self (l:=Cy f) (t:=197) rfl rfl (i:=5) (by omega) v'
 exact ⟨ow',H',h1,m.ext (Ih (f:=f) rfl rfl rfl rfl rfl rfl rfl rfl rfl (ds8 (ds8 kd8 (by omega)) (by omega)) rfl),e1.trans e⟩
end
section
variable {H:A3} {ow:Nat->Nat} {p:Nat} {f:Kf}
theorem E3 (h:RK H ow p f) {x:Nat} {q:Int} (x1:x < f.vals.length) (x2:neg x < f.vals.length) (x3:x / 2 < f.rs.length) (hx:x<=1000000) (ht:f.tr.length<=1000000) :
  CallF Tryz.prog 137 [pv p,iv x,iv q] H (fun r H'=>r=.tuple #[]/\∃ ow' tv,RK H' ow' p { f with vals:=(f.vals.set x 1).set (neg x) (-1),rs:=f.rs.set (x / 2) q,trl:=tv,tr:=f.tr ++ [x] }/\Ex H ow H' ow') NoP:=by
 obtain ⟨b,o,cap,ev⟩:=h.vv x1
 obtain ⟨H1,w1,m1,e1⟩:=h.yn ev x1 1
 obtain ⟨H2,w2,m2,e2⟩:=m1.yn (b:=b) (o:=o) (cap:=cap) (by simpa using ev) (x:=neg x) (by simpa using x2) (-1)
 obtain ⟨b',o',cap',er⟩:=h.fj x3
 obtain ⟨H3,w3,m3,e3⟩:=m2.xz (b:=b') (o:=o') (cap:=cap') er x3 q
 have c3:A5 H ⟨p,3,none⟩=some (.slice (some ⟨b,o,none⟩) f.vals.length cap):=by rw [<- ev]; exact h.c rfl
 have c4:A5 H2 ⟨p,4,none⟩=some (.slice (some ⟨b',o',none⟩) f.rs.length cap'):=by rw [<- er]; exact m2.c rfl
 have c5:A5 H3 ⟨p,5,none⟩=some f.trl:=m3.c rfl
 have ex:=fun V t xo yo=>Di (V:=V) (t:=t) (xo:=xo) (yo:=yo) (n:=x) (by omega)
 have hh:=Gg x
 refine A9 Tryz.func137 rfl Tryz.ntmps137 Tryz.results137 (by decide) rfl ?_
 refine As (lk [tl 0,tl 1,tl 2,tl 3,tl 4,tl 5,tl 6,tl 7,tl 8,fl 9,fl 10,tl 11] (.act 12 (lk [tl 13] (.actd 14 .fin)) .non)) T.mixed ?_
 simp (disch:=omega) only [go_sem,↓cB,c3,ex,w1,w2,hh]
 simp (disch:=omega) only [go_sem,↓cB,c4,hh,w3,c5]
 refine AK T.zk rfl (MD.mm m3 7 _ rfl).vec rfl (by rw [Am]; show (2 * (f.tr.length + 1) + 200) * _<=_; omega) ?_
 intro v' H6 g1 g2 g3 g4
 obtain ⟨a',c',rfl⟩:=g4
 obtain ⟨ow',H7,w7,m7,e7⟩:=m3.qx (l:=f.tr ++ [x]) (by rw [CO]; exact g1) g2 g3
 simp (disch:=omega) only [go_sem,↓cB,w7]
 exact fin ⟨rfl,_,_,m7,(e1.trans e2).trans (e3.trans e7)⟩
end
structure KR (m:Nat) (f:Kf):Prop where
 vals:f.vals=(Kx f.tr f.lits).vals m
 rs:f.rs.length=m + 1
 wv:f.wv.length=2 * m + 2
 ok:TrOK m f.tr
section
variable {H:A3} {ow:Nat->Nat} {p m:Nat} {f:Kf}
theorem KR.val (h:KR m f) {x:Nat} (hx:x < 2 * m + 2):f.vals[x]?=some ((Kx f.tr f.lits).val x):=by rw [h.vals]; exact Cp hx
theorem KR.len (h:KR m f):f.vals.length=2 * m + 2:=by rw [h.vals]; exact C2
theorem JN (h:RK H ow p f) (hr:KR m f) (hm:m<=100000) {k:Nat} (hk:k<=f.tr.length) :
  CallF Tryz.prog 139 [pv p,iv k] H (fun v H'=>v=.tuple #[]/\∃ ow' rs' tv,rs'.length=m + 1/\RK H' ow' p { f with vals:=(Kx (f.tr.take k) f.lits).vals m,rs:=rs',trl:=tv,tr:=f.tr.take k,head:=k }/\Ex H ow H' ow') NoP:=by
 have htn:f.tr.length<=m:=hr.ok.len
 have hvl:=hr.len
 have hrl:=hr.rs
 obtain ⟨ta,tc,et⟩:∃ a cap,f.trl=.slice a f.tr.length cap:=by
  obtain ⟨a,cap,e⟩:=MD.form h (r:=7) rfl rfl;exact ⟨a,cap,by simpa [Am] using e⟩
 have hv7:VR H ow 7 3 1 f.trl (nv f.tr):=MD.mm h 7 _ rfl
 have htc:f.tr.length<=tc:=by
  rcases hv7.vec.ex with ⟨e,e2⟩ | ⟨b',len,cap',pre,rest,e,_,_,_,hle⟩
  ·rw [et] at e; simp only [Value.slice.injEq] at e; omega
  ·rw [et] at e; simp only [Value.slice.injEq] at e; omega
 have c5:A5 H ⟨p,5,none⟩=some (.slice ta f.tr.length tc):=by rw [<- et]; exact h.c rfl
 refine A9 Tryz.func139 rfl Tryz.ntmps139 Tryz.results139 (by decide) rfl ?_
 simp (disch:=omega) only [go_sem,↓cB,c5]
 refine Ae (fun j U H1=>∃ (i:Nat) (rs1:List Int),j=f.tr.length - k - i/\i<=f.tr.length - k /\
  (U.get 0=pv p/\U.get 1=iv k/\U.get 11=.slice (if tc=k then ta else ta.map (·.add k)) (f.tr.length - k) (tc - k)/\U.get 12=iv ((f.tr.length - k:Nat):Int)/\U.get 13=iv i/\U.ds = []) /\
  rs1.length=m + 1/\RK H1 ow p { f with vals:=zap f.vals ((f.tr.drop k).take i),rs:=rs1 }/\Ex H ow H1 ow) (k:=f.tr.length - k) ?_ ?_
 ·exact ⟨0,f.rs,rfl,by omega,by simp (disch:=omega) only [go_sem,↓cB],hrl,h,Ex.refl⟩
 ·rintro _ U H1 ⟨i,rs1,rfl,hil,⟨r0,r1,r11,r12,r13,rd⟩,hrs1,m1,e1⟩
  by_cases hie:i=f.tr.length - k
  ·subst hie
   have htk:(f.tr.drop k).take (f.tr.length - k)=f.tr.drop k:=Yg (by simp)
   rw [htk] at m1
   have d5:A5 H1 ⟨p,5,none⟩=some (.slice ta f.tr.length tc):=by rw [<- et]; exact m1.c rfl
   have hv:VR H1 ow 7 3 1 (.slice ta f.tr.length tc) (nv f.tr):=by rw [<- et]; exact MD.mm m1 7 _ rfl
   obtain ⟨ow',H2,w2,m2,e2⟩:=m1.qx (l:=f.tr.take k) (v':=.slice ta k tc) (by rw [IC]; exact (hv.take hk).vec) (Fr.refl _ _) (fun b hb=>.inl (by show b ∈ own f.trl; rw [et]; cases ta <;> exact hb))
   obtain ⟨H3,w3,m3,e3⟩:=m2.xk k
   simp (disch:=omega) only [go_sem,↓cB,r0,r1,r11,r12,r13,rd,d5,w2,w3]
   refine fin ⟨rfl,ow',rs1,.slice ta k tc,hrs1,?_,e1.trans (e2.trans e3)⟩
   have hz:(Kx (f.tr.take k) f.lits).vals m=zap f.vals (f.tr.drop k):=by
    rw [hr.vals]; exact Mz (s:=Kx f.tr f.lits) (Dl hr.ok) (k:=0) (f:=k)
   rw [hz]
   exact m3
  ·obtain ⟨x,hx⟩:∃ x,f.tr[k + i]?=some x:=⟨_,J1 (by omega)⟩
   obtain ⟨x1,x2,x3,x4⟩:=AP (hr.ok.code x (J2 hx))
   have hxd:(f.tr.drop k).take (i + 1)=(f.tr.drop k).take i ++ [x]:=by
    rw [Jl,Y7,hx]; rfl
   obtain ⟨tb,to,tc',e,-,kx⟩:=MD.cell m1 (r:=7) rfl rfl (Bu hx)
   have e':f.trl=.slice (some ⟨tb,to,none⟩) f.tr.length tc':=by simpa [Am] using e
   rw [et] at e'
   simp only [Value.slice.injEq,true_and] at e'
   obtain ⟨rfl,rfl⟩:=e'
   have hne:¬ tc=k:=by omega
   rw [J4 hne] at r11
   have hzl:(zap f.vals ((f.tr.drop k).take i)).length=2 * m + 2:=by rw [Ix]; exact hvl
   obtain ⟨vb,vo,vc,ev⟩:=m1.vv (x:=x) (by show x < (zap _ _).length; omega)
   have c3:A5 H1 ⟨p,3,none⟩=some (.slice (some ⟨vb,vo,none⟩) (zap f.vals ((f.tr.drop k).take i)).length vc):=by rw [<- ev]; exact m1.c rfl
   obtain ⟨H2,w2,m2,e2⟩:=m1.yn ev (x:=x) (by show x < (zap _ _).length; omega) 0
   obtain ⟨H3,w3,m3,e3⟩:=m2.yn (b:=vb) (o:=vo) (cap:=vc) (by simpa using ev) (x:=neg x) (by simp [Ix]; omega) 0
   obtain ⟨rb,ro,rc,er⟩:=m3.fj (x:=x / 2) (by show x / 2 < rs1.length; omega)
   have c4:A5 H3 ⟨p,4,none⟩=some (.slice (some ⟨rb,ro,none⟩) rs1.length rc):=by rw [<- er]; exact m3.c rfl
   obtain ⟨H4,w4,m4,e4⟩:=m3.xz er (x:=x / 2) (by show x / 2 < rs1.length; omega) (-1)
   have ex:=fun V t xo yo=>Di (V:=V) (t:=t) (xo:=xo) (yo:=yo) (n:=x) (by omega)
   have hh:=Gg x
   have hi1:(i:Int) + 1=((i + 1:Nat):Int):=by omega
   have r11':U.get 11=.slice (some ⟨tb,to + k,none⟩) (f.tr.length - k) (tc - k):=by rw [r11]; simp only [Ju,AS]
   rw [<- Zs] at kx
   rw [hzl] at c3
   simp (disch:=omega) only [go_sem,↓cB,r0,r1,r11',r12,r13,rd,kx]
   refine As (lk [tl 0,tl 1,tl 2,tl 3,tl 4,tl 5,tl 6,tl 7,tl 8,fl 9,fl 10,tl 11] (.act 12 (lk [tl 13] (.actd 14 .fin)) .non)) T.mixed ?_
   simp (disch:=omega) only [go_sem,↓cB,r0,r1,r11',r12,r13,rd,c3,ex,w2,w3,c4,hh,w4]
   refine fin ⟨f.tr.length - k - (i + 1),by omega,i + 1,rs1.set (x / 2) (-1),rfl,by omega,by simp (disch:=omega) only [go_sem,↓cB,r0,r1,r11,r12,r13,rd,hi1,J4 hne],by simpa using hrs1,?_,e1.trans ((e2.trans e3).trans e4)⟩
   rw [hxd,OY]
   exact m4
end
section
variable {H:A3} {ow:Nat->Nat} {p m:Nat} {f:Kf}
theorem RK.lv (h:RK H ow p f) {c:Nat} {v:Value} (hc:f.es[c]?=some v):VR H ow (101 + 3 * c) 3 1 v (nv (f.lits c)):=MD.mm h _ ⟨3,1,v,nv (f.lits c)⟩ (by rw [Er,hc]; rfl)
theorem RK.xf (h:RK H ow p f) {c:Nat} {v:Value} (hc:f.es[c]?=some v) (hl:0 < (f.lits c).length):∃ b o cap,v=.slice (some ⟨b,o,none⟩) (f.lits c).length cap/\(f.lits c).length<=cap:=by
 have hv:=h.lv hc;rcases hv.vec.ex with ⟨e,e2⟩ | ⟨b,len,cap,pre,rest,e,_,h2,_,hle⟩
 ·rw [<- Am,e2] at hl; simp at hl
 ·rw [Am,Jy] at h2;exact ⟨b,_,cap,by rw [h2]; exact e,by omega⟩
theorem RK.zp (h:RK H ow p f) {c:Nat} {b o cap:Nat} (hc:f.es[c]?=some (.slice (some ⟨b,o,none⟩) (f.lits c).length cap)) {j x:Nat} (hj:(f.lits c)[j]?=some x):A5 H ⟨b,o + j,none⟩=some (iv x) :=
 MD.at h (r:=101 + 3 * c) (o:=⟨3,1,.slice (some ⟨b,o,none⟩) (f.lits c).length cap,nv (f.lits c)⟩) (by rw [Er,hc]; rfl) rfl (cap:=cap) (by rw [Am]) (Bu hj)
theorem RK.zz (h:RK H ow p f) {c:Nat} {b o cap:Nat} (hc:f.es[c]?=some (.slice (some ⟨b,o,none⟩) (f.lits c).length cap)) {j:Nat} (hj:j < (f.lits c).length) (x:Nat) :
  ∃ H',wr H ⟨b,o + j,none⟩ (iv x)=some H'/\RK H' ow p { f with lits:=upd f.lits c ((f.lits c).set j x) }/\Ex H ow H' ow:=by
 obtain ⟨H',h1,h2,h3⟩:=MD.o8 h (r:=101 + 3 * c) (o:=⟨3,1,.slice (some ⟨b,o,none⟩) (f.lits c).length cap,nv (f.lits c)⟩) (by rw [Er,hc]; rfl) rfl (cap:=cap) (by rw [Am]) (i:=j) (by rw [Am]; exact hj) (iv x)
 refine ⟨H',h1,MD.ext (D:=_) h2 (K4 ?_ ?_ ?_ ?_ ?_ ?_ ?_ (fun q hq hl=>?_) (fun y=>?_) (fun y=>?_) (fun y=>?_)),h3⟩
 ·rw [Aj (by omega)]; rfl
 ·rw [Aj (by omega)]; rfl
 ·rw [Aj (by omega)]; rfl
 ·rw [Aj (by omega)]; rfl
 ·rw [Aj (by omega)]; rfl
 ·rw [Aj (by omega)]; rfl
 ·rw [Aj (by omega)]; rfl
 ·rw [Aj (by omega)]; exact Ft hq hl
 ·rw [Aj (by omega),F4,F4]
 ·by_cases hy:y=c
  ·subst hy
   rw [Bh,Er]
   show (f.es[y]?).map _=_
   rw [hc]
   simp only [Ju,A8]
   simp [nv,Yn]
  ·rw [Aj (by omega),Er,Er]
   simp only [Af hy]
 ·rw [Aj (by omega),EN,EN]
theorem RK.wl (h:RK H ow p f) {x:Nat} {v:Value} (hx:f.wv[x]?=some v):VR H ow (100 + 3 * x) 3 1 v (nv (f.w x)):=MD.mm h _ ⟨3,1,v,nv (f.w x)⟩ (by rw [F4,hx]; rfl)
theorem S1 {x:Nat} {v':Value} {l:List Nat} (hx:x < f.wv.length) {D:Nat->Option Ob} (hD:∀ q,q ≠ 4->q ≠ 100 + 3 * x->D q=KD p f q) (h4:D 4=some ⟨23,1,f.wat,f.wv.set x v'⟩) (hw:D (100 + 3 * x)=some ⟨3,1,v',nv l⟩) :
  ∀ q,KD p { f with wv:=f.wv.set x v',w:=upd f.w x l } q=D q:=by
 refine K4 ?_ ?_ ?_ ?_ ?_ ?_ ?_ (fun q hq hl=>?_) (fun y=>?_) (fun y=>?_) (fun y=>?_)
 ·rw [hD _ (by omega) (by omega)]; rfl
 ·rw [hD _ (by omega) (by omega)]; rfl
 ·rw [h4]; rfl
 ·rw [hD _ (by omega) (by omega)]; rfl
 ·rw [hD _ (by omega) (by omega)]; rfl
 ·rw [hD _ (by omega) (by omega)]; rfl
 ·rw [hD _ (by omega) (by omega)]; rfl
 ·rw [hD _ (by omega) (by omega)]; exact Ft hq hl
 ·by_cases hy:y=x
  ·subst hy
   rw [hw,F4]
   simp only [Xa hx,Ju,A8]
  ·rw [hD _ (by omega) (by omega),F4,F4]
   simp only [Af hy,Y6 (Ne.symm hy)]
 ·rw [hD _ (by omega) (by omega),Er,Er]
 ·rw [hD _ (by omega) (by omega),EN,EN]
theorem RK.qg (h:RK H ow p f) {x:Nat} (hx:x < f.wv.length):∃ b o cap,f.wat=.slice (some ⟨b,o,none⟩) f.wv.length cap:=by
 obtain ⟨b,c,cap,e,-,-⟩:=MD.cell h (r:=4) rfl rfl (J1 hx);exact ⟨b,c,cap,e⟩
theorem RK.p5 (h:RK H ow p f) {b o cap:Nat} (hv:f.wat=.slice (some ⟨b,o,none⟩) f.wv.length cap) {x:Nat} {u:Value} (hx:f.wv[x]?=some u):A5 H ⟨b,o + x,none⟩=some u:=MD.at h (r:=4) rfl rfl (cap:=cap) hv hx
theorem RK.th (h:RK H ow p f) {x:Nat} {v:Value} (hx:f.wv[x]?=some v) {b o cap:Nat} (hv:f.wat=.slice (some ⟨b,o,none⟩) f.wv.length cap) {H1:A3} {v':Value} {l:List Nat} (g1:Vec H1 3 1 v' (nv l)) (g2:Fr (own v) H H1) (g3:∀ b ∈ own v',b ∈ own v\/H.size<=b) :
  (∀ i u,A5 H ⟨p,i,none⟩=some u->(Cy f)[i]?=some u->A5 H1 ⟨p,i,none⟩=some u)/\A5 H1 ⟨b,o + x,none⟩=some v/\∃ ow' H',wr H1 ⟨b,o + x,none⟩ v'=some H'/\RK H' ow' p { f with wv:=f.wv.set x v',w:=upd f.w x l }/\Ex H ow H' ow':=by
 have hxl:x < f.wv.length:=(J3.1 hx).1
 obtain ⟨ow',m1,e1⟩:=MD.grow h (r:=100 + 3 * x) (o:=⟨3,1,v,nv (f.w x)⟩) (by rw [F4,hx]; rfl) (o':=⟨3,1,v',nv l⟩) g1 g2 g3
 have hd4:Kc (KD p f) (100 + 3 * x) ⟨3,1,v',nv l⟩ 4=some ⟨23,1,f.wat,f.wv⟩:=by rw [Aj (by omega)]; rfl
 obtain ⟨H',h1,h2,h3⟩:=m1.o8 hd4 rfl (cap:=cap) hv (i:=x) hxl v'
 refine ⟨fun i u _ hi=>?_,?_,ow',H',h1,MD.ext (D:=_) h2 (S1 hxl (fun q h4 hq=>by rw [Aj h4,Aj hq]) Bh (by rw [Aj (by omega),Bh])),e1.trans h3⟩
 ·have hd1:Kc (KD p f) (100 + 3 * x) ⟨3,1,v',nv l⟩ 1=some ⟨197,1,.slice (some ⟨p,0,none⟩) 11 11,Cy f⟩:=by rw [Aj (by omega)]; rfl
  have:=m1.at hd1 rfl (b:=p) (c:=0) (cap:=11) rfl hi
  rw [Zv] at this; exact this
 ·exact m1.at hd4 rfl (cap:=cap) hv hx
theorem RK.af (h:RK H ow p f) {x:Nat} {v:Value} (hx:f.wv[x]?=some v) {H1:A3} {l:List Nat} (g1:Vec H1 3 1 v (nv l)) (g2:Fr (own v) H H1):∃ ow',RK H1 ow' p { f with w:=upd f.w x l }/\Ex H ow H1 ow':=by
 have hxl:x < f.wv.length:=(J3.1 hx).1;obtain ⟨ow',m1,e1⟩:=MD.grow h (r:=100 + 3 * x) (o:=⟨3,1,v,nv (f.w x)⟩) (by rw [F4,hx]; rfl) (o':=⟨3,1,v,nv l⟩) g1 g2 (fun b hb=>.inl hb);have hs:f.wv.set x v=f.wv:=by
  apply Y9 ; intro i;by_cases hi:i=x
  ·subst hi; rw [Xa hxl,hx]
  ·rw [Y6 (Ne.symm hi)]
 have:=S1 (p:=p) (f:=f) (v':=v) (l:=l) hxl (D:=Kc (KD p f) (100 + 3 * x) ⟨3,1,v,nv l⟩) (fun q h4 hq=>by rw [Aj hq]) (by rw [Aj (by omega),hs]; rfl) Bh;rw [hs] at this;exact ⟨ow',MD.ext (D:=_) m1 this,e1⟩
end
section
variable {H:A3} {ow:Nat->Nat} {p m:Nat} {f:Kf}
theorem RK.sx (h:RK H ow p f) {x b o n cap:Nat} (e:f.wv[x]?=some (.slice (some ⟨b,o,none⟩) n cap)) :
  ∃ pre rest,o=pre.length/\Blk H b 3 (pre ++ nv (f.w x) ++ rest)/\n=(f.w x).length/\rest.length=cap - n/\n<=cap:=by
 rcases (h.wl e).vec.ex with ⟨e',_⟩ | ⟨b',len,cap',pre,rest,e',h1,h2,h3,h4⟩
 ·cases e'
 ·simp only [Value.slice.injEq,J5,Addr.mk.injEq,Zt] at e'
  obtain ⟨⟨rfl,rfl⟩,rfl,rfl⟩:=e'
  simp only [Am,Jy] at h2 h3
  exact ⟨pre,rest,rfl,h1,h2.symm,h3,h4⟩
theorem Nn (h:RK H ow p f) {x b o cap c:Nat} {K L:List Nat} {t bytes:Nat} {z:Value} (hT:ElT Tryz.prog t 3 1 bytes z) (e:f.wv[x]?=some (.slice (some ⟨b,o,none⟩) L.length cap)) (hw:f.w x=K ++ L.drop K.length) (hK:K.length < L.length)
  {Q:Value->A3->Prop} (hQ:∀ H' ow',RK H' ow' p { f with w:=upd f.w x (K ++ [c] ++ L.drop (K.length + 1)) }->Ex H ow H' ow'->Q (.slice (some ⟨b,o,none⟩) (K.length + 1) cap) H') :
  @I9 Tryz.prog t t (.slice (some ⟨b,o,none⟩) K.length cap) (.slice (some ⟨H.size,0,none⟩) 1 1) ⟨H.push (.cells #[iv c] 3)⟩ ⟨Q⟩:=by
 obtain ⟨pre,rest,rfl,hb,hm,hr,hle⟩:=h.sx e
 have hb1:=hb.push (.cells #[iv c] 3)
 rw [hw,CO,<- Je,Je] at hb1
 have hx1:Blk (H.push (.cells #[iv c] 3)) H.size 3 [iv c]:=Blk.new rfl
 refine FD (n:=1) (new:=[iv c]) hT hb1 (by simp [Am]) (by simp [Am]; omega) (by omega) rfl ?_ hT.under (by simp) (by simp [Cb]) rfl ?_
 ·show Ay (A5 _) ⟨H.size,0,none⟩ 0 1=some [iv c]
  exact Bi [iv c] 0 0 (fun j hj=>by
   have:j=0:=(by simpa using hj);subst this; exact hx1.cell 0)
 ·intro H' hb2 hf
  have hd:(nv (L.drop K.length) ++ rest).drop (1 * 1)=nv (L.drop (K.length + 1)) ++ rest:=by
   obtain ⟨y,hy⟩:∃ y,L.drop K.length=y :: L.drop (K.length + 1):=⟨_,Yk hK⟩;rw [hy]; rfl
  rw [hd] at hb2
  have g2:Fr (own (.slice (some ⟨b,pre.length,none⟩) L.length cap)) H H':=by
   refine ⟨Js (by simp) hf.size,fun q hq hr=>?_⟩;rw [hf.same q (by simp; omega) (by simpa [own] using hr)];exact Fr.push (F:=[]) |>.same q hq (by simp)
  obtain ⟨ow',m',e'⟩:=h.af e (l:=K ++ [c] ++ L.drop (K.length + 1)) ⟨.inr ⟨b,L.length,cap,pre,rest,rfl,by simpa [nv,Je] using hb2,by simp [Am]; omega,by rw [Jy]; exact hr,hle⟩⟩ g2
  exact hQ H' ow' m' e'
theorem Qp (h:RK H ow p f) {x b o cap i:Nat} {K L:List Nat} {t bytes:Nat} {z:Value} {sa:Option Addr} (hT:ElT Tryz.prog t 3 1 bytes z) (e:f.wv[x]?=some (.slice (some ⟨b,o,none⟩) L.length cap)) (hw:f.w x=K ++ L.drop K.length) (hK:K.length<=i) (hi:i<=L.length)
  (hsa:i < L.length->sa=some ⟨b,o + i,none⟩) {Q:Value->A3->Prop}
  (hQ:∀ H',Vec H' 3 1 (.slice (some ⟨b,o,none⟩) (K.length + (L.length - i)) cap) (nv (K ++ L.drop i))->Fr [b] H H'->Q (.slice (some ⟨b,o,none⟩) (K.length + (L.length - i)) cap) H') :
  @I9 Tryz.prog t t (.slice (some ⟨b,o,none⟩) K.length cap) (.slice sa (L.length - i) (cap - i)) ⟨H⟩ ⟨Q⟩:=by
 obtain ⟨pre,rest,rfl,hb,hm,hr,hle⟩:=h.sx e
 have hb0:=hb
 rw [hw,CO,<- Je,Je] at hb
 refine FD (n:=L.length - i) (new:=nv (L.drop i)) hT hb (by simp [Am]) (by simp [Am]; omega) (by omega) rfl ?_ hT.under (by simp) ?_ (by simp [Am]) ?_
 ·by_cases hi2:i < L.length
  ·rw [hsa hi2]
   show Ay (A5 H) ⟨b,pre.length + i,none⟩ 0 ((L.length - i) * 1)=some (nv (L.drop i))
   have hln:(L.length - i) * 1=(nv (L.drop i)).length:=by simp [Am]
   rw [hln]
   refine Bi _ _ 0 fun j hj=>?_
   simp only [Am,Xt] at hj
   rw [hb0.cell,Zc,Zs,Je,Jf (by omega),Jg (by rw [Am,hw]; simp; omega)]
   unfold nv
   rw [Z0,hw,Jf (by omega),Y7]
   rw [show K.length + (pre.length + (i + j) - pre.length - K.length)=i + j by omega]
   rw [J1 (by omega)]
   simp
  ·have h0:L.length - i=0:=by omega
   rw [h0]
   have:nv (L.drop i) = []:=by
    unfold nv; rw [Yi,List.drop_eq_nil_iff]; omega
   rw [this]
   cases sa <;> rfl
 ·intro u hu
  obtain ⟨y,_,rfl⟩:=Ji.1 hu
  rfl
 ·intro H' hb2 hf
  have hd:(nv (L.drop K.length) ++ rest).drop ((L.length - i) * 1)=nv ((L.drop K.length).drop (L.length - i)) ++ rest:=by
   rw [Jy,Vg (by simp [Am]; omega)];unfold nv; rw [<- List.map_drop]
  rw [hd] at hb2
  refine hQ H' ⟨.inr ⟨b,K.length + (L.length - i),cap,pre,nv ((L.drop K.length).drop (L.length - i)) ++ rest,rfl,?_,by simp [Am],by simp [Am]; omega,by omega⟩⟩ hf
  simpa [nv,Je] using hb2
theorem Nw:∀ {es:List Value} {c:Nat} {v:Value},es[c]?=some v->(es.flatMap fun v=>[v,.bool false])[2 * c]?=some v/\(es.flatMap fun v=>[v,.bool false])[2 * c + 1]?=some (.bool false)
 | [],c,v,h=>by simp at h
 | e :: es,0,v,h=>by
  have:e=v:=(by simpa using h);subst this;simp
 | e :: es,c + 1,v,h=>by
  have h':es[c]?=some v:=(by simpa using h);have:=Nw h';rw [show 2 * (c + 1)=2 * c + 2 by omega];simpa [W9] using this
theorem GT {es:List Value}:(es.flatMap fun v=>[v,Value.bool false]).length=es.length * 2:=by
 induction es with
 | nil=>rfl
 | cons e es ih=>simp [W9] at ih ⊢; omega
theorem RK.cls (h:RK H ow p f) {c:Nat} {v:Value} (hc:f.es[c]?=some v):∃ b o cap,f.cls=.slice (some ⟨b,o,none⟩) f.es.length cap/\A5 H ⟨b,o + c * 2,none⟩=some v/\A5 H ⟨b,o + c * 2 + 1,none⟩=some (.bool false):=by
 have hv:VR H ow 2 200 2 f.cls (f.es.flatMap fun v=>[v,.bool false]):=MD.mm h 2 _ rfl;obtain ⟨g1,g2⟩:=Nw hc;have hcl:=(J3.1 hc).1;obtain ⟨b,o,len,cap,e,hl,hcell⟩:=hv.vec.cell (by intro e; rw [e] at g1; simp at g1);rw [GT] at hl;have:len=f.es.length:=(by omega);subst this;refine ⟨b,o,cap,e,?_,?_⟩
 ·rw [hcell _ (by rw [GT]; omega),Nat.mul_comm]; exact g1
 ·rw [Zs,hcell _ (by rw [GT]; omega),Nat.mul_comm]; exact g2
theorem N6 (h:RK H ow p f) (hr:KR m f) (hm:m<=100000) {c a x:Nat} {r:List Nat} {v:Value} (hc:f.es[c]?=some v) (hl:f.lits c=a :: x :: r) (hC:∀ y ∈ f.lits c,y < 2 * m + 2) (hlen:r.length<=1000000) (hw:∀ y,(f.w y).length<=1000000) :
  CallF Tryz.prog 267 [pv p,iv c] H (fun v H'=>(v=.bool false/\H'=H/\∀ y ∈ r,(Kx f.tr f.lits).val y < 0) \/
   (v=.bool true/\∃ (j y:Nat) (ow':Nat->Nat) (wv:Value),r[j]?=some y/\0<=(Kx f.tr f.lits).val y/\RK H' ow' p { f with lits:=upd f.lits c (a :: y :: r.set j x),wv:=f.wv.set y wv,w:=upd f.w y (f.w y ++ [c]) }/\Ex H ow H' ow')) NoP:=by
 have hln:(f.lits c).length=r.length + 2:=by rw [hl]; rfl
 obtain ⟨cb,co,cc,ecl,cls0,-⟩:=h.cls hc
 obtain ⟨lb,lo,lc,el,hcap⟩:=h.xf hc (by omega)
 subst el
 have c0:A5 H ⟨p,0,none⟩=some (.slice (some ⟨cb,co,none⟩) f.es.length cc):=by rw [<- ecl]; exact h.c rfl
 have hcl:=(J3.1 hc).1
 obtain ⟨vb,vo,vc,ev⟩:=h.vv (x:=0) (by rw [hr.len]; omega)
 have c3:A5 H ⟨p,3,none⟩=some (.slice (some ⟨vb,vo,none⟩) (2 * m + 2) vc):=by rw [<- hr.len,<- ev]; exact h.c rfl
 obtain ⟨wb,wo,wc,ewt⟩:=h.qg (x:=0) (by rw [hr.wv]; omega)
 refine A9 Tryz.func267 rfl Tryz.ntmps267 Tryz.results267 (by decide) rfl ?_
 simp (disch:=omega) only [go_sem,↓cB,c0,cls0]
 refine Ae (fun j U H1=>∃ i:Nat,j=r.length - i/\i<=r.length/\(U.get 0=pv p/\U.get 1=iv c/\U.get 5=.slice (some ⟨lb,lo,none⟩) (f.lits c).length lc/\U.get 6=iv ((2 + i:Nat):Int)/\U.ds = [])/\H1=H/\∀ j y,j < i->r[j]?=some y->(Kx f.tr f.lits).val y < 0) (k:=r.length) ?_ ?_
 ·exact ⟨0,rfl,by omega,by simp (disch:=omega) only [go_sem,↓cB]; rfl,rfl,fun j y hj=>by omega⟩
 ·rintro _ U H1 ⟨i,rfl,hi,⟨r0,r1,r5,r6,rd⟩,rfl,hall⟩
  by_cases hi2:i=r.length
  ·simp (disch:=omega) only [go_sem,↓cB,r0,r1,r5,r6,rd]
   refine fin (.inl ⟨rfl,rfl,fun y hy=>?_⟩)
   obtain ⟨j,hj⟩:=Jc hy
   exact hall j y (by have:=(J3.1 hj).1; omega) hj
  ·obtain ⟨y,hy⟩:∃ y,r[i]?=some y:=⟨_,J1 (by omega)⟩
   have hyl:(f.lits c)[2 + i]?=some y:=by rw [hl,Xo]; exact hy
   have hy2:y < 2 * m + 2:=hC y (J2 hyl)
   have ky:=h.zp hc hyl
   have k1:=h.zp hc (j:=1) (x:=x) (by rw [hl]; rfl)
   have cv:=h.vw ev (hr.val hy2)
   have hi1:((2 + i:Nat):Int) + 1=((2 + (i + 1):Nat):Int):=by omega
   by_cases hv:0<=(Kx f.tr f.lits).val y
   ·simp (disch:=omega) only [go_sem,↓cB,r0,r1,r5,r6,rd]
    refine As (lk [tl 0,tl 1,tl 2,tl 3,tl 4,tl 5,tl 6,tl 7,tl 8,tl 9,tl 10] .fin) T.mixed ?_
    simp (disch:=omega) only [go_sem,↓cB,r0,r1,r5,r6,rd,c3,ky,cv]
    obtain ⟨H1,w1,m1,e1⟩:=h.zz hc (j:=1) (by omega) y
    obtain ⟨H2,w2,m2,e2⟩:=m1.zz (c:=c) (b:=lb) (o:=lo) (cap:=lc) (j:=2 + i) (by simp only [A8,Z2]; exact hc) (by simp only [A8]; rw [Z2]; omega) x
    have m2':RK H2 ow p { f with lits:=upd f.lits c (a :: y :: r.set i x) }:=by
     have:upd (upd f.lits c ((f.lits c).set 1 y)) c ((upd f.lits c ((f.lits c).set 1 y) c).set (2 + i) x)=upd f.lits c (a :: y :: r.set i x):=by
      funext q;by_cases hq:q=c
      ·subst hq; simp only [A8,hl,Xo 2 i]; rfl
      ·simp only [Af hq]
     rw [<- this]; exact m2
    clear m2
    have hyw:y < f.wv.length:=by rw [hr.wv]; omega
    obtain ⟨wy,hwy⟩:∃ v,f.wv[y]?=some v:=⟨_,J1 hyw⟩
    have hc2:f.es[c]?=some (.slice (some ⟨lb,lo,none⟩) ((upd f.lits c (a :: y :: r.set i x)) c).length lc):=by
     rw [A8,show (a :: y :: r.set i x).length=(f.lits c).length by rw [hl]; simp]; exact hc
    have d2:A5 H2 ⟨p,2,none⟩=some (.slice (some ⟨wb,wo,none⟩) f.wv.length wc):=by rw [<- ewt]; exact m2'.c rfl
    have dl:A5 H2 ⟨lb,lo + 1,none⟩=some (iv y):=m2'.zp hc2 (by simp only [A8]; rfl)
    have dw:A5 H2 ⟨wb,wo + y,none⟩=some wy:=m2'.p5 ewt hwy
    obtain ⟨hl',hhl⟩:∃ hl',hl'=HI H2 [⟨p,2,none⟩,⟨lb,lo + 1,none⟩,⟨wb,wo + y,none⟩]:=⟨_,rfl⟩
    have hok:Al hl' H2:=by rw [hhl]; exact K7
    have l0:Ak hl' ⟨p,2,none⟩=some (.slice (some ⟨wb,wo,none⟩) f.wv.length wc):=by rw [hhl]; exact Cz d2 (by simp)
    have l1:Ak hl' ⟨lb,lo + 1,none⟩=some (iv y):=by rw [hhl]; exact Cz dl (by simp)
    have l2:Ak hl' ⟨wb,wo + y,none⟩=some wy:=by rw [hhl]; exact Cz dw (by simp)
    have keep:∀ H3,A5 H3 ⟨p,2,none⟩=some (.slice (some ⟨wb,wo,none⟩) f.wv.length wc)->A5 H3 ⟨lb,lo + 1,none⟩=some (iv y)->A5 H3 ⟨wb,wo + y,none⟩=some wy->Al hl' H3:=by
     intro H3 q1 q2 q3;rw [hhl];refine F6 fun ad had v hv=>?_;simp only [J7,Z6,Ya] at had;rcases had with rfl | rfl | rfl
     ·rw [q1,<- d2]; exact hv
     ·rw [q2,<- dl]; exact hv
     ·rw [q3,<- dw]; exact hv
    have vy:=m2'.wl (x:=y) hwy
    refine As (lk [tl 0,fl 1,fl 2,tl 3,tl 4,tl 5,tl 6,tl 7,tl 8,tl 9,tl 10] (.act 11 (lk [tl 12] (.actd 13 .fin)) .non)) T.mixed ?_
    simp (disch:=omega) only [go_sem,↓cB,r0,r1,r5,r6,rd,k1,ky,w1,w2]
    refine Fc (lk [fl 0,fl 1,fl 2,fl 3,fl 4,fl 5,fl 6,fl 7,fl 8,fl 9,fl 10,fl 11,fl 12,fl 13,fl 14,fl 15,tl 16] (.act 17 (.act 18 (lk [tl 19] (.actd 20 .fin)) .non) .non)) T.mixed hl' hok ?_
    simp (disch:=omega) only [go_sem,↓cB,r0,r1,r5,r6,rd,l0,l1,l2]
    refine B9 (keep _ ((Fr.push (F:=[])).zg d2 (by simp)) ((Fr.push (F:=[])).zg dl (by simp)) ((Fr.push (F:=[])).zg dw (by simp))) ?_
    simp (disch:=omega) only [go_sem,↓cB,r0,r1,r5,r6,rd,l0,l1,l2]
    refine AK T.zk rfl vy.vec rfl (by rw [Am]; have:=hw y; show (2 * ((f.w y).length + 1) + 200) * _<=_; omega) ?_
    intro v' H6 g1 g2 g3 g4
    obtain ⟨a',c',rfl⟩:=g4
    obtain ⟨q1,q2,ow',H7,w7,m7,e7⟩:=m2'.th (x:=y) (l:=f.w y ++ [c]) hwy ewt (by rw [CO]; exact g1) g2 g3
    have ql:A5 H6 ⟨lb,lo + 1,none⟩=some (iv y):=g2.zg dl (by
     intro hh;have h1:ow lb=100 + 3 * y:=vy.ow _ hh;have h2:ow lb=101 + 3 * c:=(m2'.lv hc2).ow lb (by simp [own]);omega)
    refine B9 (keep _ (q1 2 _ d2 (by rw [<- ewt]; rfl)) ql q2) ?_
    simp (disch:=omega) only [go_sem,↓cB,r0,r1,r5,r6,rd,l0,l1,l2,w7]
    exact fin (.inr ⟨rfl,i,y,_,_,hy,hv,m7,(e1.trans e2).trans e7⟩)
   ·simp (disch:=omega) only [go_sem,↓cB,r0,r1,r5,r6,rd]
    refine As (lk [tl 0,tl 1,tl 2,tl 3,tl 4,tl 5,tl 6,tl 7,tl 8,tl 9,tl 10] .fin) T.mixed ?_
    simp (disch:=omega) only [go_sem,↓cB,r0,r1,r5,r6,rd,c3,ky,cv]
    refine fin ⟨r.length - (i + 1),by omega,i + 1,rfl,by omega,by simp (disch:=omega) only [go_sem,↓cB,r0,r1,r5,r6,rd,hi1],rfl,fun j z hj hz=>?_⟩
    by_cases hji:j=i
    ·subst hji; rw [hy] at hz; have:=Jj hz; subst this; omega
    ·exact hall j z (by omega) hz
end
def Kf.key (f:Kf):=(f.cls,f.uns,f.es,f.mp,f.kvs,f.kl,f.us,f.emp,f.bro,f.stale)
structure Vz (C:List Nat) (f f':Kf):Prop where
 key:f'.key=f.key
 pre:f.tr <+: f'.tr
 pm:∀ c,(f'.lits c).Perm (f.lits c)
 bs:∀ base:List Nat,(∀ z ∈ base,z ∈ f.tr)->Bs base f.lits C->Bs base f'.lits C
theorem Vz.refl {C:List Nat} {f:Kf}:Vz C f f:=⟨rfl,Zl _,fun _=>Yq _,fun _ _ h=>h⟩
theorem Vz.trans {C:List Nat} {f f' f'':Kf} (h:Vz C f f') (h':Vz C f' f''):Vz C f f'' :=
 ⟨h'.key.trans h.key,h.pre.trans h'.pre,fun c=>(h'.pm c).trans (h.pm c),fun b hb hs=>h'.bs b (fun z hz=>h.pre.subset (hb z hz)) (h.bs b hb hs)⟩
theorem Vz.es {C:List Nat} {f f':Kf} (h:Vz C f f'):f'.es=f.es:=congrArg (·.2.2.1) h.key
structure Ws (m:Nat) (C:List Nat) (G:List (List Nat)) (H0:A3) (ow0:Nat->Nat) (f0:Kf) (x:Nat) (L:List Nat) (H:A3) (ow:Nat->Nat) (p:Nat) (f:Kf) (K D:List Nat):Prop where
 k:RK H ow p f
 r:KR m f
 e:Ex H0 ow0 H ow
 v:VI m (Kx f.tr f.lits) C (upd f.w x (K ++ D)) G f.head x K D
 wx:f.wv[x]?=f0.wv[x]?
 w:f.w x=K ++ L.drop K.length
 kl:K.length + D.length<=L.length
 vz:Vz C f0 f
 hd:f.head=f0.head
section
variable {m:Nat} {C:List Nat} {G:List (List Nat)} {H0:A3} {ow0:Nat->Nat} {f0:Kf} {x:Nat} {L:List Nat} {H:A3} {ow:Nat->Nat} {p:Nat} {f:Kf} {K D:List Nat} {c:Nat}
theorem KR.push (h:KR m f) {x:Nat} (hx:isC m x) (h1:x ∉ f.tr) (h2:neg x ∉ f.tr) {q:Int} {tv:Value}:KR m { f with vals:=(f.vals.set x 1).set (neg x) (-1),rs:=f.rs.set (x / 2) q,trl:=tv,tr:=f.tr ++ [x] } :=
 ⟨by
  show (f.vals.set x 1).set (neg x) (-1)=((Kx f.tr f.lits).push x none).vals m;rw [h.vals,KK hx h1 h2],by simpa using h.rs,h.wv,h.ok.push hx h1 h2⟩
theorem EP {α:Type} {g:Nat->α} {x:Nat} {a b:α}:upd (upd g x a) x b=upd g x b:=by
 funext q;by_cases hq:q=x
 ·subst hq; rw [A8,A8]
 ·rw [Af hq,Af hq,Af hq]
theorem Ws.lens (h:Ws m C G H0 ow0 f0 x L H ow p f K D) (hL:L.length<=C.length) (y:Nat):(f.w y).length<=C.length:=by
 have:=h.v.wi.len y;by_cases e:y=x
 ·subst e; rw [h.w]; have:=h.kl; simp; omega
 ·rw [Af e] at this; exact this
theorem Ws.swap (h:Ws m C G H0 ow0 f0 x L H ow p f K (c :: D)) {H':A3} {b:Nat} {r:List Nat} (hl:f.lits c=x :: b :: r) (m':RK H' ow p { f with lits:=upd f.lits c (b :: x :: r) }) (e':Ex H ow H' ow) :
  Ws m C G H0 ow0 f0 x L H' ow p { f with lits:=upd f.lits c (b :: x :: r) } K (c :: D) :=
 ⟨m',⟨h.r.vals,h.r.rs,h.r.wv,h.r.ok⟩,h.e.trans e',h.v.swap hl,h.wx,h.w,h.kl,h.vz.trans ⟨rfl,Zl _,fun q=>by
  by_cases hq:q=c
  ·subst hq;show (upd f.lits q _ q).Perm _;rw [A8,hl]; exact List.Perm.swap _ _ _
  ·show (upd f.lits c _ q).Perm _;rw [Af hq],fun base _ hb=>hb.swap hl⟩,h.hd⟩
theorem Ws.other (h:Ws m C G H0 ow0 f0 x L H ow p f K (c :: D)) {H':A3} {ow':Nat->Nat} {a y j:Nat} {r:List Nat} {wv:Value} (hl:f.lits c=a :: x :: r) (ha:a ∉ f.tr) (hy:r[j]?=some y) (hny:neg y ∉ f.tr)
  (m':RK H' ow' p { f with lits:=upd f.lits c (a :: y :: r.set j x),wv:=f.wv.set y wv,w:=upd f.w y (f.w y ++ [c]) }) (e':Ex H ow H' ow') :
  Ws m C G H0 ow0 f0 x L H' ow' p { f with lits:=upd f.lits c (a :: y :: r.set j x),wv:=f.wv.set y wv,w:=upd f.w y (f.w y ++ [c]) } K D:=by
 have hv:=h.v.other hl ha hy hny
 have hnx:neg x ∈ f.tr:=h.v.yz
 have hyx:y ≠ x:=by
  rintro rfl;exact hny hnx
 have hw2:upd (upd (upd f.w x (K ++ c :: D)) x (K ++ D)) y (upd f.w x (K ++ c :: D) y ++ [c])=upd (upd f.w y (f.w y ++ [c])) x (K ++ D):=by
  rw [EP];funext q;by_cases hq:q=y
  ·subst hq; rw [A8,Af hyx,Af hyx,A8]
  ·by_cases hq2:q=x
   ·subst hq2; rw [Af hq,A8,A8]
   ·rw [Af hq,Af hq2,Af hq2,Af hq]
 rw [hw2] at hv
 have hj:j < r.length:=(J3.1 hy).1
 refine ⟨m',⟨h.r.vals,h.r.rs,by show (f.wv.set y wv).length=_; rw [Z2]; exact h.r.wv,h.r.ok⟩,h.e.trans e',hv,?_,?_,?_,h.vz.trans ⟨rfl,Zl _,fun q=>?_,fun base hb hs=>hs.other h.v.mem.1 hl (fun e=>h.r.ok.zr (hb _ e) hnx) (fun e=>hny (hb _ e))⟩,h.hd⟩
 ·show (f.wv.set y wv)[x]?=_
  rw [Y6 hyx]; exact h.wx
 ·show upd f.w y (f.w y ++ [c]) x=_
  rw [Af (Ne.symm hyx)]; exact h.w
 ·have:=h.kl; simp only [Za] at this; omega
 ·show (upd f.lits c _ q).Perm _
  by_cases hq:q=c
  ·subst hq
   rw [A8,hl]
   have e:sw (a :: x :: r) 1 (j + 2)=a :: y :: r.set j x:=by
    rw [Vx,Jq,hy]; rfl
   rw [<- e]
   exact Gy (by simp) (by simp; omega)
  ·rw [Af hq]
theorem Ws.kept (h:Ws m C G H0 ow0 f0 x L H ow p f K (c :: D)) {H':A3} {ow':Nat->Nat} {f':Kf}
  (m':RK H' ow' p f') (r':KR m f') (e':Ex H ow H' ow') (hv:VI m (Kx f'.tr f'.lits) C (upd f.w x (K ++ c :: D)) G f'.head x (K ++ [c]) D) (hwv:f'.wv=f.wv) (hw:f'.w=upd f.w x (K ++ [c] ++ L.drop (K.length + 1))) (hk:Vz C f f') (hd:f'.head=f.head) :
  Ws m C G H0 ow0 f0 x L H' ow' p f' (K ++ [c]) D:=by
 refine ⟨m',r',h.e.trans e',?_,by rw [hwv]; exact h.wx,by rw [hw,A8]; simp,?_,h.vz.trans hk,hd.trans h.hd⟩
 ·rw [hw,EP]
  have:K ++ [c] ++ D=K ++ c :: D:=by simp
  rw [this]; exact hv
 ·have:=h.kl; simp only [Za] at this; simp only [Jv,Zo]; omega
theorem N4 (h:RK H ow p f) (hr:KR m f) (hE:∀ c ∈ C,c < f.es.length) {x:Nat} (hV:VI m (Kx f.tr f.lits) C f.w G f.head x [] (f.w x)) (hm:m<=1000) (hC:C.length<=100000) (hx:isC m x) :
  CallF Tryz.prog 217 [pv p,iv x] H (fun v H'=>∃ ow' f',RK H' ow' p f'/\KR m f'/\Ex H ow H' ow'/\Vz C f f'/\f'.head=f.head /\
   ((v=.bool true/\SI m (Kx f'.tr f'.lits) C f'.w G f'.head)\/(v=.bool false/\WI m (Kx f'.tr f'.lits) C f'.w/\∀ T,¬ Clo T G))) NoP:=by
 obtain ⟨x1,x2,x3,x4⟩:=AP hx
 have hL:(f.w x).length<=C.length:=hV.wi.len x
 obtain ⟨L,hLe⟩:∃ L,L=f.w x:=⟨_,rfl⟩
 rw [<- hLe] at hV hL
 obtain ⟨wx,hwx⟩:∃ v,f.wv[x]?=some v:=⟨_,J1 (by rw [hr.wv]; exact x1)⟩
 obtain ⟨a,cap,rfl⟩:∃ a cap,wx=.slice a L.length cap:=by
  obtain ⟨a,cap,e⟩:=(h.wl hwx).form;exact ⟨a,cap,by rw [hLe]; simpa [Am] using e⟩
 obtain ⟨wb,wo,wc,ewt⟩:=h.qg (x:=x) (by rw [hr.wv]; exact x1)
 have c2:A5 H ⟨p,2,none⟩=some (.slice (some ⟨wb,wo,none⟩) f.wv.length wc):=by rw [<- ewt]; exact h.c rfl
 have cw:=h.p5 ewt hwx
 have hwl:=hr.wv
 have hcap:L.length<=cap:=by
  rcases (h.wl hwx).vec.ex with ⟨e,e2⟩ | ⟨b',len,cap',pre,rest,e,_,_,_,hle⟩
  ·simp only [Value.slice.injEq] at e; omega
  ·simp only [Value.slice.injEq] at e; omega
 have hV0:VI m (Kx f.tr f.lits) C (upd f.w x ([] ++ L)) G f.head x [] L:=by
  have:upd f.w x ([] ++ L)=f.w:=by
   funext y;by_cases e:y=x
   ·subst e; rw [A8,hLe]; rfl
   ·rw [Af e]
  rw [this]; exact hV
 refine A9 Tryz.func217 rfl Tryz.ntmps217 Tryz.results217 (by decide) rfl ?_
 simp (disch:=omega) only [go_sem,↓cB,c2,cw]
 refine Ae (fun j U H1=>∃ (i:Nat) (ow1:Nat->Nat) (f1:Kf) (K:List Nat),j=L.length - i/\i<=L.length /\
  (U.get 0=pv p/\U.get 1=iv x/\U.get 5=.slice a L.length cap/\U.get 6=.slice a K.length cap/\U.get 19=.slice a L.length cap/\U.get 20=iv L.length/\U.get 21=iv i/\U.ds = []) /\
  K.length<=i/\Ws m C G H ow f x L H1 ow1 p f1 K (L.drop i)) (k:=L.length) ?_ ?_
 ·exact ⟨0,ow,f,[],rfl,by omega,by simp (disch:=omega) only [go_sem,↓cB]; rfl,by simp,h,hr,Ex.refl,hV0,rfl,by rw [hLe]; rfl,by simp,Vz.refl,rfl⟩
 ·rintro _ U H1 ⟨i,ow1,f1,K,rfl,hi,⟨r0,r1,r5,r6,r19,r20,r21,rd⟩,hKi,vs⟩
  have hwx1:=vs.wx.trans hwx
  obtain ⟨wb1,wo1,wc1,ewt1⟩:=vs.k.qg (x:=x) (by rw [vs.r.wv]; exact x1)
  have d2:A5 H1 ⟨p,2,none⟩=some (.slice (some ⟨wb1,wo1,none⟩) f1.wv.length wc1):=by rw [<- ewt1]; exact vs.k.c rfl
  have hwl1:=vs.r.wv
  by_cases hi2:i=L.length
  ·subst hi2
   rw [List.drop_length] at vs
   have hvr:VR H1 ow1 (100 + 3 * x) 3 1 (.slice a L.length cap) (nv (f1.w x)):=vs.k.wl hwx1
   have hv2:VR H1 ow1 (100 + 3 * x) 3 1 (.slice a K.length cap) (nv K):=by
    have:=hvr.take hKi;rwa [vs.w,<- IC,X6 (by simp),Jr] at this
   obtain ⟨-,-,ow',H3,w3,m3,e3⟩:=vs.k.th (x:=x) (l:=K) hwx1 ewt1 hv2.vec (Fr.refl _ _) (fun b hb=>.inl (by cases a <;> exact hb))
   simp (disch:=omega) only [go_sem,↓cB,r0,r1,r5,r6,r19,r20,r21,rd,d2,w3]
   refine fin ⟨ow',_,m3,⟨vs.r.vals,vs.r.rs,by show (f1.wv.set x _).length=_; rw [Z2]; exact vs.r.wv,vs.r.ok⟩,vs.e.trans e3,vs.vz.trans ⟨rfl,Zl _,fun _=>Yq _,fun _ _ h=>h⟩,vs.hd,.inl ⟨rfl,?_⟩⟩
   have hv:=vs.v
   rw [Xd] at hv
   exact hv.done
  ·have hil:i < L.length:=by omega
   obtain ⟨c,hc⟩:∃ c,L[i]?=some c:=⟨_,J1 hil⟩
   have hD:L.drop i=c :: L.drop (i + 1):=by
    rw [Yk hil];rw [J1 hil] at hc;rw [Jj hc]
   rw [hD] at vs
   have hwi:(f1.w x)[i]?=some c:=by
    rw [vs.w,Jf hKi,Y7];rw [show K.length + (i - K.length)=i by omega]; exact hc
   obtain ⟨b,o,cap',ea,-,kc⟩:=(vs.k.wl hwx1).cell (Bu hwi)
   simp only [Value.slice.injEq] at ea
   obtain ⟨rfl,-,rfl⟩:=ea
   obtain ⟨hcC,a0,b0,r,hl,hab⟩:=vs.v.mem
   have hl':f1.lits c=a0 :: b0 :: r:=hl
   have hln:(f1.lits c).length=r.length + 2:=by rw [hl']; rfl
   have hec:c < f1.es.length:=by rw [vs.vz.es]; exact hE c hcC
   obtain ⟨lv,hlv⟩:∃ v,f1.es[c]?=some v:=⟨_,J1 hec⟩
   obtain ⟨cb,co,cc,ecl,g0,g1⟩:=vs.k.cls hlv
   obtain ⟨lb,lo,lc,rfl,hlc⟩:=vs.k.xf hlv (by omega)
   have c0:A5 H1 ⟨p,0,none⟩=some (.slice (some ⟨cb,co,none⟩) f1.es.length cc):=by rw [<- ecl]; exact vs.k.c rfl
   have k0:=vs.k.zp hlv (j:=0) (x:=a0) (by rw [hl']; rfl)
   have k1:=vs.k.zp hlv (j:=1) (x:=b0) (by rw [hl']; rfl)
   rw [Zc] at k0
   simp (disch:=omega) only [go_sem,↓cB,r0,r1,r5,r6,r19,r20,r21,rd,kc,c0,g0,g1,k0]
   refine GW (fun U H2=>∃ (f2:Kf) (a2:Nat) (r2:List Nat),(U.get 0=pv p/\U.get 1=iv x/\U.get 5=.slice (some ⟨b,o,none⟩) L.length cap/\U.get 6=.slice (some ⟨b,o,none⟩) K.length cap/\U.get 7=iv i/\U.get 8=iv c/\U.get 9=.slice (some ⟨lb,lo,none⟩) (f1.lits c).length lc/\U.get 19=.slice (some ⟨b,o,none⟩) L.length cap/\U.get 20=iv L.length/\U.get 21=iv i/\U.ds = []) /\
    f2.lits c=a2 :: x :: r2/\f2.es=f1.es/\r2.length=r.length/\Ws m C G H ow f x L H2 ow1 p f2 K (c :: L.drop (i + 1))) ?_ ?_
   ·refine Ba (fun hb=>?_) (fun hb=>?_)
    ·have hax:a0=x:=by omega
     subst hax
     obtain ⟨H2,w1,m1,e1⟩:=vs.k.zz hlv (j:=0) (by omega) b0
     obtain ⟨H3,w2,m2,e2⟩:=m1.zz (c:=c) (b:=lb) (o:=lo) (cap:=lc) (j:=1) (by simp only [A8,Z2]; exact hlv) (by simp only [A8]; rw [Z2]; omega) a0
     have m2':RK H3 ow1 p { f1 with lits:=upd f1.lits c (b0 :: a0 :: r) }:=by
      have:upd (upd f1.lits c ((f1.lits c).set 0 b0)) c ((upd f1.lits c ((f1.lits c).set 0 b0) c).set 1 a0)=upd f1.lits c (b0 :: a0 :: r):=by
       funext q;by_cases hq:q=c
       ·subst hq; simp only [A8,hl']; rfl
       ·simp only [Af hq]
      rw [<- this]; exact m2
     clear m2
     rw [Zc] at w1
     refine As (lk [tl 0,fl 1,tl 2,tl 3,tl 4,tl 5,tl 6,tl 7,tl 8] (.act 9 (lk [tl 10] (.actd 11 .fin)) .non)) T.mixed ?_
     simp (disch:=omega) only [go_sem,↓cB,r0,r1,r5,r6,r19,r20,r21,rd,k0,k1,w1,w2]
     exact fin ⟨{ f1 with lits:=upd f1.lits c (b0 :: a0 :: r) },b0,r,by simp (disch:=omega) only [go_sem,↓cB,r0,r1,r5,r6,r19,r20,r21,rd],by show upd f1.lits c _ c=_; rw [A8],rfl,rfl,vs.swap hl' m2' (e1.trans e2)⟩
    ·have hax:b0=x:=by
      rcases hab with e | e
      ·exact absurd (by rw [e]) hb
      ·exact e
     subst hax
     simp (disch:=omega) only [go_sem,↓cB,r0,r1,r5,r6,r19,r20,r21,rd]
     exact fin ⟨f1,a0,r,by simp (disch:=omega) only [go_sem,↓cB,r0,r1,r5,r6,r19,r20,r21,rd],hl',rfl,rfl,vs⟩
   ·clear k0 k1 g0 g1 c0 kc hlc d2
    rintro U2 H2 ⟨f2,a2,r2,⟨q0,q1,q5,q6,q7,q8,q9,q19,q20,q21,qd⟩,hl2,hes,hrl,vs2⟩
    have hcC2:c ∈ C:=vs2.v.mem.1
    have hcl:=vs2.v.wi.cl c hcC2
    have hln2:(f2.lits c).length=r2.length + 2:=by rw [hl2]; rfl
    have hlen2:(f2.lits c).length<=m:=BQ hcl.2.1 hcl.2.2
    have hll:(f1.lits c).length=(f2.lits c).length:=by omega
    rw [hll] at hlv q9
    rw [<- hes] at hlv
    have k0:=vs2.k.zp hlv (j:=0) (x:=a2) (by rw [hl2]; rfl)
    rw [Zc] at k0
    have ha2:isC m a2:=hcl.2.1 a2 (by show a2 ∈ f2.lits c; rw [hl2]; simp)
    have ha22:=(AP ha2).1
    obtain ⟨vb,vo,vc,ev⟩:=vs2.k.vv (x:=0) (by rw [vs2.r.len]; omega)
    have c3:A5 H2 ⟨p,3,none⟩=some (.slice (some ⟨vb,vo,none⟩) (2 * m + 2) vc):=by rw [<- vs2.r.len,<- ev]; exact vs2.k.c rfl
    have cv:=vs2.k.vw ev (vs2.r.val ha22)
    have hwx2:=vs2.wx.trans hwx
    have hkl:=vs2.kl
    simp only [Za,Xt] at hkl
    have hi1:(i:Int) + 1=((i + 1:Nat):Int):=by omega
    have hKl:(K ++ [c]).length=K.length + 1:=by simp
    have hnx:neg x ∈ f2.tr:=vs2.v.yz
    have back:∀ {H3:A3} {ow3:Nat->Nat},RK H3 ow3 p { f2 with w:=upd f2.w x (K ++ [c] ++ L.drop (K.length + 1)) }->A5 H3 ⟨p,3,none⟩=some (.slice (some ⟨vb,vo,none⟩) (2 * m + 2) vc)/\A5 H3 ⟨lb,lo,none⟩=some (iv a2)/\A5 H3 ⟨vb,vo + a2,none⟩=some (.int .i8 ((Kx f2.tr f2.lits).val a2)):=by
     intro H3 ow3 m3;refine ⟨by rw [<- vs2.r.len,<- ev]; exact m3.c rfl,?_,m3.vw ev (vs2.r.val ha22)⟩;have:=m3.zp (c:=c) (b:=lb) (o:=lo) (cap:=lc) hlv (j:=0) (x:=a2) (by show (f2.lits c)[0]?=_; rw [hl2]; rfl);rwa [Zc] at this
    by_cases hpos:0 < (Kx f2.tr f2.lits).val a2
    ·refine As (lk [tl 0,tl 1,tl 2,tl 3,tl 4,tl 5,tl 6,tl 7,tl 8,tl 9,tl 10,tl 11,tl 12] (.act 13 (lk [tl 14] .fin) .non)) T.mixed ?_
     simp (disch:=omega) only [go_sem,↓cB,q0,q1,q5,q6,q7,q8,q9,q19,q20,q21,qd,c3,k0,cv]
     refine Nn vs2.k T.zk hwx2 vs2.w (by omega) ?_
     intro H3 ow3 m3 e3
     obtain ⟨c3',k0',cv'⟩:=back m3
     have r3:KR m { f2 with w:=upd f2.w x (K ++ [c] ++ L.drop (K.length + 1)) }:=⟨vs2.r.vals,vs2.r.rs,vs2.r.wv,vs2.r.ok⟩
     simp (disch:=omega) only [go_sem,↓cB,q0,q1,q5,q6,q7,q8,q9,q19,q20,q21,qd]
     refine As (lk [tl 0,tl 1,tl 2,tl 3,tl 4,tl 5,tl 6,tl 7,tl 8,tl 9] .fin) T.mixed ?_
     simp (disch:=omega) only [go_sem,↓cB,q0,q1,q5,q6,q7,q8,q9,q19,q20,q21,qd,c3',k0',cv']
     refine As (lk [tl 0,tl 1,tl 2,tl 3,tl 4,tl 5,tl 6,tl 7,tl 8,tl 9] .fin) T.mixed ?_
     simp (disch:=omega) only [go_sem,↓cB,q0,q1,q5,q6,q7,q8,q9,q19,q20,q21,qd,c3',k0',cv']
     have hv:=vs2.v.keep hl2 (Cu.1 hpos) (fun q _=>vs2.v.top q)
     exact fin ⟨L.length - (i + 1),by omega,i + 1,ow3,_,K ++ [c],rfl,by omega,by simp (disch:=omega) only [go_sem,↓cB,q0,q1,q5,q6,q7,q8,q9,q19,q20,q21,qd,hi1,hKl],by rw [hKl]; omega,vs2.kept m3 r3 e3 hv rfl rfl ⟨rfl,Zl _,fun _=>Yq _,fun _ _ h=>h⟩ rfl⟩
    ·have hat:a2 ∉ f2.tr:=fun e=>hpos (Cu.2 e)
     refine As (lk [tl 0,tl 1,tl 2,tl 3,tl 4,tl 5,tl 6,tl 7,tl 8,tl 9,tl 10,tl 11,tl 12] (.act 13 (lk [tl 14] .fin) .non)) T.mixed ?_
     simp (disch:=omega) only [go_sem,↓cB,q0,q1,q5,q6,q7,q8,q9,q19,q20,q21,qd,c3,k0,cv]
     refine A7 (N6 vs2.k vs2.r (by omega) hlv hl2 (fun y hy=>(AP (hcl.2.1 y hy)).1) (by omega) (fun y=>by have:=vs2.lens hL y; omega)) ?_
     rintro v H3 (⟨rfl,rfl,hall⟩ | ⟨rfl,j,y,ow3,wv,hj,hy,m3,e3⟩)
     ·have hfr:∀ y ∈ r2,neg y ∈ f2.tr:=fun y hy=>(BG vs2.v.inv).1 (hall y hy)
      simp (disch:=omega) only [go_sem,↓cB,q0,q1,q5,q6,q7,q8,q9,q19,q20,q21,qd]
      refine Nn vs2.k T.zk hwx2 vs2.w (by omega) ?_
      intro H3 ow3 m3 e3
      obtain ⟨c3',k0',cv'⟩:=back m3
      have r3:KR m { f2 with w:=upd f2.w x (K ++ [c] ++ L.drop (K.length + 1)) }:=⟨vs2.r.vals,vs2.r.rs,vs2.r.wv,vs2.r.ok⟩
      by_cases hneg:(Kx f2.tr f2.lits).val a2 < 0
      ·obtain ⟨wb2,wo2,wc2,ewt2⟩:=m3.qg (x:=x) (by rw [r3.wv]; exact x1)
       have hwl2:f2.wv.length=2 * m + 2:=vs2.r.wv
       have c2':A5 H3 ⟨p,2,none⟩=some (.slice (some ⟨wb2,wo2,none⟩) f2.wv.length wc2):=by rw [<- ewt2]; exact m3.c rfl
       simp (disch:=omega) only [go_sem,↓cB,q0,q1,q5,q6,q7,q8,q9,q19,q20,q21,qd]
       refine As (lk [tl 0,tl 1,tl 2,tl 3,tl 4,tl 5,tl 6,tl 7,tl 8,tl 9] .fin) T.mixed ?_
       simp (disch:=omega) only [go_sem,↓cB,q0,q1,q5,q6,q7,q8,q9,q19,q20,q21,qd,c3',k0',cv']
       refine Fc (lk [fl 0,fl 1,fl 2,fl 3,fl 4,tl 5,tl 6,tl 7,tl 8,tl 9] (.act 10 (lk [tl 11] (.actd 12 .fin)) .non)) T.mixed [(⟨p,2,none⟩,.slice (some ⟨wb2,wo2,none⟩) f2.wv.length wc2)] (B5 c2') ?_
       simp (disch:=omega) only [go_sem,↓cB,q0,q1,q5,q6,q7,q8,q9,q19,q20,q21,qd,hi1]
       have hw3:upd f2.w x (K ++ [c] ++ L.drop (K.length + 1)) x=(K ++ [c]) ++ L.drop (K ++ [c]).length:=by rw [A8,hKl]
       rw [<- hKl]
       refine Qp m3 T.zk hwx2 hw3 (by rw [hKl]; omega) (by omega) (fun hlt=>by rw [J4 (by omega)]) ?_
       intro H4 v4 f4
       obtain ⟨g1,g2,ow',H5,w5,m5,e5⟩:=m3.th (x:=x) (l:=K ++ [c] ++ L.drop (i + 1)) hwx2 ewt2 v4 f4 (fun b hb=>.inl hb)
       refine B9 (B5 (g1 2 _ c2' (by rw [<- ewt2]; rfl))) ?_
       simp (disch:=omega) only [go_sem,↓cB,q0,q1,q5,q6,q7,q8,q9,q19,q20,q21,qd,w5]
       have hwe:upd (upd f2.w x (K ++ [c] ++ L.drop (K.length + 1))) x (K ++ [c] ++ L.drop (i + 1))=upd f2.w x (K ++ c :: L.drop (i + 1)):=by
        rw [EP];congr 1;simp
       refine fin ⟨ow',_,m5,⟨vs2.r.vals,vs2.r.rs,by show (f2.wv.set x _).length=_; rw [Z2]; exact vs2.r.wv,vs2.r.ok⟩,vs2.e.trans (e3.trans e5),vs2.vz.trans ⟨rfl,Zl _,fun _=>Yq _,fun _ _ h=>h⟩,vs2.hd,.inr ⟨rfl,?_,vs2.v.zr ?_⟩⟩
       ·show WI m (Kx f2.tr f2.lits) C (upd (upd f2.w x (K ++ [c] ++ L.drop (K.length + 1))) x (K ++ [c] ++ L.drop (i + 1)))
        rw [hwe]; exact vs2.v.wi
       ·show ∀ y ∈ f2.lits c,neg y ∈ f2.tr
        rw [hl2]
        intro y hy
        rcases J7.1 hy with rfl | hy
        ·exact (BG vs2.v.inv).1 hneg
        ·rcases J7.1 hy with rfl | hy
         ·exact hnx
         ·exact hfr y hy
      ·simp (disch:=omega) only [go_sem,↓cB,q0,q1,q5,q6,q7,q8,q9,q19,q20,q21,qd]
       refine As (lk [tl 0,tl 1,tl 2,tl 3,tl 4,tl 5,tl 6,tl 7,tl 8,tl 9] .fin) T.mixed ?_
       simp (disch:=omega) only [go_sem,↓cB,q0,q1,q5,q6,q7,q8,q9,q19,q20,q21,qd,c3',k0',cv']
       refine As (lk [tl 0,tl 1,tl 2,tl 3,tl 4,tl 5,tl 6,tl 7,tl 8,tl 9] .fin) T.mixed ?_
       simp (disch:=omega) only [go_sem,↓cB,q0,q1,q5,q6,q7,q8,q9,q19,q20,q21,qd,c3',k0',cv']
       have hna:neg a2 ∉ f2.tr:=fun e=>hneg ((BG vs2.v.inv).2 e)
       obtain ⟨z1,z2,z3,z4⟩:=AP ha2
       have htn:=vs2.r.ok.len
       refine A7 (E3 m3 (x:=a2) (q:=c) (by rw [r3.len]; exact z1) (by rw [r3.len]; exact z2) (by rw [r3.rs]; exact z3) (by omega) (by show f2.tr.length<=_; omega)) ?_
       rintro v H4 ⟨rfl,ow4,tv,m4,e4⟩
       simp (disch:=omega) only [go_sem,↓cB,q0,q1,q5,q6,q7,q8,q9,q19,q20,q21,qd]
       have hv:=vs2.v.bj hl2 hat hna hfr
       exact fin ⟨L.length - (i + 1),by omega,i + 1,ow4,_,K ++ [c],rfl,by omega,by simp (disch:=omega) only [go_sem,↓cB,q0,q1,q5,q6,q7,q8,q9,q19,q20,q21,qd,hi1,hKl],by rw [hKl]; omega,vs2.kept m4 (r3.push ha2 hat hna) (e3.trans e4) hv rfl rfl ⟨rfl,Yx _ _,fun _=>Yq _,fun _ _ h=>h⟩ rfl⟩
     ·simp (disch:=omega) only [go_sem,↓cB,q0,q1,q5,q6,q7,q8,q9,q19,q20,q21,qd]
      have hny:neg y ∉ f2.tr:=fun e=>by have:=(BG vs2.v.inv).2 e; omega
      exact fin ⟨L.length - (i + 1),by omega,i + 1,ow3,_,K,rfl,by omega,by simp (disch:=omega) only [go_sem,↓cB,q0,q1,q5,q6,q7,q8,q9,q19,q20,q21,qd,hi1],by omega,vs2.other hl2 hat hj hny m3 e3⟩
end
section
variable {m:Nat} {C:List Nat} {G:List (List Nat)} {H:A3} {ow:Nat->Nat} {p:Nat} {f:Kf}
theorem Ei (h:RK H ow p f) (hr:KR m f) (hE:∀ c ∈ C,c < f.es.length) (hS:SI m (Kx f.tr f.lits) C f.w G f.head) (hm:m<=1000) (hC:C.length<=100000) :
  CallF Tryz.prog 138 [pv p] H (fun v H'=>∃ ow' f',RK H' ow' p f'/\KR m f'/\Ex H ow H' ow'/\Vz C f f' /\
   ((v=.bool true/\SI m (Kx f'.tr f'.lits) C f'.w G f'.tr.length/\f'.head=f'.tr.length)\/(v=.bool false/\WI m (Kx f'.tr f'.lits) C f'.w/\∀ T,¬ Clo T G))) NoP:=by
 refine A9 Tryz.func138 rfl Tryz.ntmps138 Tryz.results138 (by decide) rfl ?_
 simp (disch:=omega) only [go_sem,↓cB]
 refine Ae (fun j U H1=>∃ (ow1:Nat->Nat) (f1:Kf),j=m - f1.head/\(U.get 0=pv p/\U.ds = [])/\RK H1 ow1 p f1/\KR m f1/\Ex H ow H1 ow1/\Vz C f f1/\SI m (Kx f1.tr f1.lits) C f1.w G f1.head) (k:=m - f.head) ?_ ?_
 ·exact ⟨ow,f,rfl,by simp (disch:=omega) only [go_sem,↓cB],h,hr,Ex.refl,Vz.refl,hS⟩
 ·rintro _ U H1 ⟨ow1,f1,rfl,⟨r0,rd⟩,m1,q1,e1,v1,s1⟩
  obtain ⟨a,cap,et⟩:∃ a cap,f1.trl=.slice a f1.tr.length cap:=by
   obtain ⟨a,cap,e⟩:=MD.form m1 (r:=7) rfl rfl;exact ⟨a,cap,by simpa [Am] using e⟩
  have c5:A5 H1 ⟨p,5,none⟩=some (.slice a f1.tr.length cap):=by rw [<- et]; exact m1.c rfl
  have c6:A5 H1 ⟨p,6,none⟩=some (iv f1.head):=m1.c rfl
  have hle:f1.head<=f1.tr.length:=s1.le
  have htn:f1.tr.length<=m:=q1.ok.len
  by_cases hh:f1.head < f1.tr.length
  ·obtain ⟨y,hy⟩:∃ y,f1.tr[f1.head]?=some y:=⟨_,J1 hh⟩
   have hyc:isC m y:=q1.ok.code y (J2 hy)
   obtain ⟨y1,y2,y3,y4⟩:=AP hyc
   obtain ⟨b,o,cap',e,-,ky⟩:=MD.cell m1 (r:=7) rfl rfl (Bu hy)
   have e':f1.trl=.slice (some ⟨b,o,none⟩) f1.tr.length cap':=by simpa [Am] using e
   rw [et] at e'
   simp only [Value.slice.injEq,true_and] at e'
   obtain ⟨rfl,rfl⟩:=e'
   obtain ⟨H2,w2,m2,e2⟩:=m1.xk (f1.head + 1)
   have ex:=fun V t xo yo=>Di (V:=V) (t:=t) (xo:=xo) (yo:=yo) (n:=y) (by omega)
   have hi1:(f1.head:Int) + 1=((f1.head + 1:Nat):Int):=by omega
   simp (disch:=omega) only [go_sem,↓cB,r0,rd]
   refine As (lk [tl 0,tl 1,tl 2,tl 3,tl 4,tl 5,tl 6,tl 7,tl 8,tl 9] .fin) T.mixed ?_
   simp (disch:=omega) only [go_sem,↓cB,r0,rd,c5,c6]
   refine As (lk [tl 0,tl 1,tl 2,tl 3,tl 4,tl 5,tl 6,tl 7,tl 8,tl 9,tl 10,tl 11] .fin) T.mixed ?_
   simp (disch:=omega) only [go_sem,↓cB,r0,rd,c5,c6,ky,ex,hi1,w2]
   have hV:=s1.start (x:=neg y) (by rw [neg_neg]; exact hy)
   refine A7 (N4 (G:=G) (C:=C) m2 ⟨q1.vals,q1.rs,q1.wv,q1.ok⟩ (fun c hc=>by show c < f1.es.length; rw [v1.es]; exact hE c hc) (x:=neg y) hV hm hC (C0 hyc)) ?_
   rintro v H3 ⟨ow3,f3,m3,q3,e3,v3,hd3,hcase⟩
   have hv3:Vz C f f3:=v1.trans (Vz.trans (f':={ f1 with head:=f1.head + 1 }) ⟨rfl,Zl _,fun _=>Yq _,fun _ _ h=>h⟩ v3)
   have hh3:f3.head=f1.head + 1:=hd3
   have ex3:=e1.trans (e2.trans e3)
   rcases hcase with ⟨rfl,hs3⟩ | ⟨rfl,hw,hno⟩
   ·simp (disch:=omega) only [go_sem,↓cB,r0,rd]
    have hle3:f3.head<=f3.tr.length:=hs3.le
    exact fin ⟨m - f3.head,by have:=q3.ok.len; omega,ow3,f3,rfl,by simp (disch:=omega) only [go_sem,↓cB,r0,rd],m3,q3,ex3,hv3,hs3⟩
   ·simp (disch:=omega) only [go_sem,↓cB,r0,rd]
    exact fin ⟨ow3,f3,m3,q3,ex3,hv3,.inr ⟨rfl,hw,hno⟩⟩
  ·have hhe:f1.head=f1.tr.length:=by omega
   simp (disch:=omega) only [go_sem,↓cB,r0,rd]
   refine As (lk [tl 0,tl 1,tl 2,tl 3,tl 4,tl 5,tl 6,tl 7,tl 8,tl 9] .fin) T.mixed ?_
   simp (disch:=omega) only [go_sem,↓cB,r0,rd,c5,c6]
   exact fin ⟨ow1,f1,m1,q1,e1,v1,.inl ⟨rfl,hhe ▸ s1,hhe⟩⟩
theorem LU (h:RK H ow p f) (hr:KR m f) {c:Nat} {v:Value} (hc:f.es[c]?=some v) (hC:∀ y ∈ f.lits c,y < 2 * m + 2) (h2:2<=(f.lits c).length) (hlen:(f.lits c).length<=1000000) (hm:m<=100000) :
  CallF Tryz.prog 140 [pv p,v] H (fun v' H'=>v'=.tuple #[]/\∃ l,RK H' ow p { f with lits:=upd f.lits c l }/\Ex H ow H' ow/\l.Perm (f.lits c)/\∃ a b r,l=a :: b :: r /\
   (0<=(Kx f.tr f.lits).val a/\0<=(Kx f.tr f.lits).val b\/0<=(Kx f.tr f.lits).val a/\(∀ y ∈ b :: r,(Kx f.tr f.lits).val y < 0)\/∀ y ∈ l,(Kx f.tr f.lits).val y < 0)) NoP:=by
 obtain ⟨lb,lo,lc,rfl,hcap⟩:=h.xf hc (by omega)
 obtain ⟨n,hn⟩:∃ n,n=(f.lits c).length:=⟨_,rfl⟩
 rw [<- hn] at hc hcap h2 hlen ⊢
 obtain ⟨vb,vo,vc,ev⟩:=h.vv (x:=0) (by rw [hr.len]; omega)
 have hu0:upd f.lits c (f.lits c)=f.lits:=by
  funext q;by_cases hq:q=c
  ·subst hq; rw [A8]
  ·rw [Af hq]
 refine A9 Tryz.func140 rfl Tryz.ntmps140 Tryz.results140 (by decide) rfl ?_
 simp (disch:=omega) only [go_sem,↓cB]
 refine Ae (fun j U H1=>∃ (i to:Nat) (l:List Nat),j=n - i/\i<=n/\(U.get 0=pv p/\U.get 1=.slice (some ⟨lb,lo,none⟩) n lc/\U.get 4=iv to/\U.get 6=.slice (some ⟨lb,lo,none⟩) n lc/\U.get 7=iv n/\U.get 8=iv i/\U.ds = []) /\
  to<=2/\to<=i/\l.Perm (f.lits c)/\RK H1 ow p { f with lits:=upd f.lits c l }/\Ex H ow H1 ow/\(∀ j y,j < to->l[j]?=some y->0<=(Kx f.tr f.lits).val y)/\(to < 2->∀ j y,to<=j->j < i->l[j]?=some y->(Kx f.tr f.lits).val y < 0)) (k:=n) ?_ ?_
 ·exact ⟨0,0,f.lits c,rfl,by omega,by simp (disch:=omega) only [go_sem,↓cB],by omega,by omega,Yq _,by rw [hu0]; exact h,Ex.refl,fun j y hj=>by omega,fun _ j y _ hj=>by omega⟩
 ·rintro _ U H1 ⟨i,to,l,rfl,hin,⟨r0,r1,r4,r6,r7,r8,rd⟩,hto2,htoi,hp,m1,e1,hpos,hneg⟩
  have hll:l.length=n:=by rw [hn]; exact hp.length_eq
  by_cases hie:i=n
  ·simp (disch:=omega) only [go_sem,↓cB,r0,r1,r4,r6,r7,r8,rd]
   refine fin ⟨rfl,l,m1,e1,hp,?_⟩
   match l,hll with
   | a :: b :: r,hll =>
    refine ⟨a,b,r,rfl,?_⟩;have ht:to=2\/to=1\/to=0:=(by omega);rcases ht with rfl | rfl | rfl
    ·exact .inl ⟨hpos 0 a (by omega) rfl,hpos 1 b (by omega) rfl⟩
    ·refine .inr (.inl ⟨hpos 0 a (by omega) rfl,fun y hy=>?_⟩);obtain ⟨j,hj⟩:=Jc hy;have:=(J3.1 hj).1;exact hneg (by omega) (j + 1) y (by omega) (by simp at hll this; omega) hj
    ·refine .inr (.inr fun y hy=>?_);obtain ⟨j,hj⟩:=Jc hy;have:=(J3.1 hj).1;exact hneg (by omega) j y (by omega) (by omega) hj
   | [],hll=>simp at hll; omega
   | [a],hll=>simp at hll; omega
  ·obtain ⟨y,hy⟩:∃ y,l[i]?=some y:=⟨_,J1 (by omega)⟩
   have hy2:y < 2 * m + 2:=hC y (hp.mem_iff.1 (J2 hy))
   have hc1:f.es[c]?=some (.slice (some ⟨lb,lo,none⟩) ((upd f.lits c l) c).length lc):=by rw [A8,hll]; exact hc
   have c3:A5 H1 ⟨p,3,none⟩=some (.slice (some ⟨vb,vo,none⟩) (2 * m + 2) vc):=by rw [<- hr.len,<- ev]; exact m1.c rfl
   have ky:=m1.zp hc1 (j:=i) (x:=y) (by simp only [A8]; exact hy)
   have cv:A5 H1 ⟨vb,vo + y,none⟩=some (.int .i8 ((Kx f.tr f.lits).val y)):=m1.vw ev (hr.val hy2)
   have hi1:(i:Int) + 1=((i + 1:Nat):Int):=by omega
   have ht1:(to:Int) + 1=((to + 1:Nat):Int):=by omega
   by_cases ht:to < 2
   ·by_cases hv:0<=(Kx f.tr f.lits).val y
    ·obtain ⟨z,hz⟩:∃ z,l[to]?=some z:=⟨_,J1 (by omega)⟩
     have kz:=m1.zp hc1 (j:=to) (x:=z) (by simp only [A8]; exact hz)
     obtain ⟨H2,w2,m2,e2⟩:=m1.zz hc1 (j:=to) (by simp only [A8]; omega) y
     obtain ⟨H3,w3,m3,e3⟩:=m2.zz (c:=c) (b:=lb) (o:=lo) (cap:=lc) (j:=i) (by simp only [A8,Z2]; rw [hll]; exact hc) (by simp only [A8,Z2]; omega) z
     have hl':(l.set to y).set i z=sw l to i:=by
      unfold sw;rw [Jq,Jq,hy,hz]; rfl
     have m3':RK H3 ow p { f with lits:=upd f.lits c (sw l to i) }:=by
      have:upd (upd (upd f.lits c l) c ((upd f.lits c l c).set to y)) c ((upd (upd f.lits c l) c ((upd f.lits c l c).set to y) c).set i z)=upd f.lits c (sw l to i):=by
       rw [EP,A8,EP,A8,hl']
      rw [<- this]; exact m3
     have hg:∀ q:Nat,(sw l to i)[q]?=if q=i then some z else if q=to then some y else l[q]?:=by
      intro q;rw [<- hl',Xf,Z2];by_cases h1:i=q
      ·subst h1; rw [J8 rfl,J8 (by omega),J8 rfl]
      ·rw [J4 h1,J4 (Ne.symm h1),Xf];by_cases h2:to=q
       ·subst h2; rw [J8 rfl,J8 (by omega),J8 rfl]
       ·rw [J4 h2,J4 (Ne.symm h2)]
     simp (disch:=omega) only [go_sem,↓cB,r0,r1,r4,r6,r7,r8,rd]
     refine As (lk [tl 0,tl 1,tl 2,tl 3,tl 4,tl 5,tl 6,tl 7,tl 8,tl 9,tl 10,tl 11,tl 12,tl 13,tl 14] .fin) T.mixed ?_
     simp (disch:=omega) only [go_sem,↓cB,r0,r1,r4,r6,r7,r8,rd,c3,ky,cv]
     refine As (lk [tl 0,tl 1,fl 2,fl 3,tl 4,tl 5,tl 6,tl 7,tl 8,tl 9,tl 10,tl 11,tl 12] (.act 13 (lk [tl 14] (.actd 15 .fin)) .non)) T.mixed ?_
     simp (disch:=omega) only [go_sem,↓cB,r0,r1,r4,r6,r7,r8,rd,ky,kz,w2,w3]
     refine fin ⟨n - (i + 1),by omega,i + 1,to + 1,sw l to i,rfl,by omega,by simp (disch:=omega) only [go_sem,↓cB,r0,r1,r4,r6,r7,r8,rd,hi1,ht1],by omega,by omega,(Gy (by omega) (by omega)).trans hp,m3',e1.trans (e2.trans e3),fun j u hj hu=>?_,fun h2' j u h3 h4 hu=>?_⟩
     ·rw [hg] at hu
      by_cases h5:j=i
      ·rw [J8 h5] at hu
       have:to=i:=by omega
       subst this
       rw [hy] at hz
       have:=Jj hz; subst this
       have:=Jj hu; subst this
       exact hv
      ·rw [J4 h5] at hu
       by_cases h6:j=to
       ·rw [J8 h6] at hu
        have:=Jj hu; subst this; exact hv
       ·rw [J4 h6] at hu
        exact hpos j u (by omega) hu
     ·rw [hg] at hu
      by_cases h5:j=i
      ·rw [J8 h5] at hu
       have:=Jj hu; subst this
       exact hneg ht to z (by omega) (by omega) hz
      ·rw [J4 h5,J4 (by omega)] at hu
       exact hneg ht j u (by omega) (by omega) hu
    ·simp (disch:=omega) only [go_sem,↓cB,r0,r1,r4,r6,r7,r8,rd]
     refine As (lk [tl 0,tl 1,tl 2,tl 3,tl 4,tl 5,tl 6,tl 7,tl 8,tl 9,tl 10,tl 11,tl 12,tl 13,tl 14] .fin) T.mixed ?_
     simp (disch:=omega) only [go_sem,↓cB,r0,r1,r4,r6,r7,r8,rd,c3,ky,cv]
     refine fin ⟨n - (i + 1),by omega,i + 1,to,l,rfl,by omega,by simp (disch:=omega) only [go_sem,↓cB,r0,r1,r4,r6,r7,r8,rd,hi1],by omega,by omega,hp,m1,e1,hpos,fun h2' j u h3 h4 hu=>?_⟩
     by_cases h5:j=i
     ·subst h5
      rw [hy] at hu
      have:=Jj hu; subst this; omega
     ·exact hneg h2' j u h3 (by omega) hu
   ·simp (disch:=omega) only [go_sem,↓cB,r0,r1,r4,r6,r7,r8,rd]
    refine As (lk [tl 0,tl 1,tl 2,tl 3,tl 4,tl 5,tl 6,tl 7,tl 8,tl 9,tl 10,tl 11,tl 12,tl 13,tl 14] .fin) T.mixed ?_
    simp (disch:=omega) only [go_sem,↓cB,r0,r1,r4,r6,r7,r8,rd,c3,ky,cv]
    exact fin ⟨n - (i + 1),by omega,i + 1,to,l,rfl,by omega,by simp (disch:=omega) only [go_sem,↓cB,r0,r1,r4,r6,r7,r8,rd,hi1],by omega,by omega,hp,m1,e1,hpos,fun h2'=>absurd h2' ht⟩
end
end Go.Proofs.YtkdlmdmlomgdiaaGreat
