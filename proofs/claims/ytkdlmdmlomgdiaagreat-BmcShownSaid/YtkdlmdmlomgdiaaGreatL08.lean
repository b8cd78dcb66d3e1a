/- The solver: a given clause is taken in. -/
import Derived.Test.YtkdlmdmlomgdiaaGreatL07
set_option linter.unusedSimpArgs false
set_option linter.unusedVariables false
set_option maxRecDepth 10000
set_option maxHeartbeats 8000000
noncomputable section
namespace Go.Sat
theorem GI.fk {n:Nat} {s:St} {C:List Nat} {G:List (List Nat)} (hv:Inv n s) (h:GI s C G) {g:List Nat} {x:Nat} (hg:x ∈ g) (h0:s.st = []) (hx:∀ T,Clo T (g :: G)->T x):GI (s.push x none) C (g :: G):=by
 have ht:∀ T,Clo T (g :: G)->Clo T G:=fun T hT=>hT.sub fun q hq=>by simp [hq]
 refine ⟨fun T hT=>⟨(h.snd T (ht T hT)).1,fun i y hi hl=>?_⟩,fun g' hg'=>?_⟩
 ·have hi':(s.tr ++ [x])[i]?=some y:=hi
  have hl':lev s.st i=0:=hl
  rcases D6 hi' with ⟨h1,_⟩ | ⟨rfl,rfl⟩
  ·exact (h.snd T (ht T hT)).2 i y h1 hl'
  ·exact hx T hT
 ·rcases J7.1 hg' with rfl | hg'
  ·exact .inr (.inl ⟨x,hg,s.tr.length,by show (s.tr ++ [x])[s.tr.length]?=_; simp,by show lev s.st _=0; rw [h0]; rfl⟩)
  ·rcases h.cmp g' hg' with h1 | ⟨y,hy,i,hi,hl⟩ | h1
   ·exact .inl h1
   ·exact .inr (.inl ⟨y,hy,i,CJ hi,hl⟩)
   ·exact .inr (.inr h1)
theorem GI.mi {s:St} {C:List Nat} {G:List (List Nat)} (h:GI s C G) {c:Nat} {l g:List Nat} (hc:c ∉ C) (hs:∀ y ∈ l,y ∈ g) (hl:∀ T,Clo T (g :: G)->ClT T l):GI (s.lit c l) (c :: C) (g :: G):=by
 have ht:∀ T,Clo T (g :: G)->Clo T G:=fun T hT=>hT.sub fun q hq=>by simp [hq]
 refine ⟨fun T hT=>⟨fun q hq=>?_,(h.snd T (ht T hT)).2⟩,fun g' hg'=>?_⟩
 ·by_cases e:q=c
  ·subst e; simp only [St.lit,A8]; exact hl T hT
  ·simp only [St.lit,Af e]
   exact (h.snd T (ht T hT)).1 q (by simpa [e] using hq)
 ·rcases J7.1 hg' with rfl | hg'
  ·exact .inr (.inr ⟨c,by simp,by simp only [St.lit,A8]; exact hs⟩)
  ·rcases h.cmp g' hg' with h1 | h1 | ⟨q,hq,h1⟩
   ·exact .inl h1
   ·exact .inr (.inl h1)
   ·have e:q ≠ c:=fun e=>hc (e ▸ hq)
    exact .inr (.inr ⟨q,by simp [hq],fun y hy=>by simp only [St.lit,Af e] at hy; exact h1 y hy⟩)
section
variable {n:Nat} {s:St} {C:List Nat} {w:Nat->List Nat} {G:List (List Nat)} {head:Nat} {g:List Nat}
theorem SI.given (h:SI n s C w G head) (hg:(∃ y ∈ g,neg y ∈ g)\/(∃ y ∈ g,∃ i:Nat,s.tr[i]?=some y/\lev s.st i=0)\/∃ c ∈ C,∀ y ∈ s.lits c,y ∈ g):SI n s C w (g :: G) head :=
 ⟨h.inv,h.wi,h.pi,h.gi.given hg,h.le,h.st⟩
theorem SI.fw (h:SI n s C w G head) (h0:s.st = []) {x:Nat} (hx:isC n x) (h1:x ∉ s.tr) (h2:neg x ∉ s.tr) (hg:x ∈ g) (hso:∀ T,Clo T (g :: G)->T x):SI n (s.push x none) C w (g :: G) head :=
 ⟨h.inv.push hx h1 h2 (fun c hc=>by simp at hc) (fun _=>.inl h0),h.wi.push (fun c hc=>by simp at hc),h.pi.push h.le,h.gi.fk h.inv hg h0 hso,by have:=h.le; simp only [St.push,Jv,Zo]; omega,h.st⟩
theorem SI.me (h:SI n s C w G head) {c a b:Nat} {r:List Nat} (hc:c ∉ C) (hl:(∀ y ∈ a :: b :: r,isC n y)/\((a :: b :: r).map (· / 2)).Nodup) (ha:neg a ∉ s.tr) (hb:neg b ∉ s.tr) (hs:∀ y ∈ a :: b :: r,y ∈ g) (hso:∀ T,Clo T (g :: G)->ClT T (a :: b :: r)) :
  SI n (s.lit c (a :: b :: r)) (c :: C) (att w c a b) (g :: G) head :=
 ⟨h.inv.lits fun i x q hi hq=>Af fun e=>hc (e ▸ h.wi.rs i x q hi hq),h.wi.attach hc hl,h.pi.attach hc (SQ ha hb),h.gi.mi hc hs hso,h.le,h.st⟩
theorem TX (h:SI n s C w G head) (h0:s.st = []) {T:Nat->Prop} (hT:Clo T (g :: G)) {l:List Nat} (hl:∀ y ∈ l,y ∈ g) (hr:∀ y ∈ g,y ∈ l\/neg y ∈ s.tr):ClT T l:=by
 have hz:∀ y ∈ g,y ∈ l\/T (neg y):=fun y hy=>(hr y hy).imp id fun e=>by
  obtain ⟨i,hi⟩:=Jc e
  exact (h.gi.snd T (hT.sub fun q hq=>by simp [hq])).2 i _ hi (by rw [h0]; rfl)
 obtain ⟨c1,c2⟩:=hT.cl g (by simp)
 exact ⟨fun x hx hall=>c1 x (hl x hx) fun y hy hne=>(hz y hy).elim (fun h=>hall y h hne) id,fun hall=>c2 fun y hy=>(hz y hy).elim (hall y) id⟩
end
end Go.Sat
namespace Go.Proofs.YtkdlmdmlomgdiaaGreat
open Go.HL HM Go.Sat
theorem Fz {x:Int}:Ai x / 2=x.natAbs:=by unfold Ai; split <;> omega
theorem Cj {x:Int} (h:x ≠ 0):neg (Ai x)=Ai (-x):=by
 unfold Ai neg
 split <;> split <;> split <;> omega
theorem D3 {n:Nat} {x:Int} (h:x ≠ 0) (hx:x.natAbs<=n):isC n (Ai x):=by unfold Ai isC; split <;> omega
structure CN (n:Nat) (z:List Int):Prop where
 lit:∀ x ∈ z,x ≠ 0/\x.natAbs<=n
 str:z.Pairwise ltN
theorem HB {n:Nat}:∀ {z:List Int},(∀ x ∈ z,x ≠ 0/\x.natAbs<=n)->z.Pairwise ltN->(¬ ∃ x ∈ z,-x ∈ z)->((z.map Ai).map (· / 2)).Nodup
 | [],_,_,_=>by simp
 | x :: z,h,hs,hi=>by
  rw [Jz,Jz,Yj]
  have hs':=W6.1 hs
  refine ⟨fun hm=>?_,HB (fun y hy=>h y (by simp [hy])) hs'.2 fun ⟨y,h1,h2⟩=>hi ⟨y,by simp [h1],by simp [h2]⟩⟩
  simp only [Ji] at hm
  obtain ⟨_,⟨y,hy,rfl⟩,e⟩:=hm
  rw [Fz,Fz] at e
  have:=hs'.1 y hy
  unfold ltN at this
  have hy2:y = -x:=by omega
  exact hi ⟨x,by simp,by rw [<- hy2]; simp [hy]⟩
theorem M7 {n:Nat} {z:List Int} (h:CN n z):z.length<=2 * n:=by
 have h1:(z.map Ai).Nodup:=by
  have:=Lx h.str
  refine Xp Ai (fun a b hab=>?_) (Wp.1 this)
  obtain ⟨ha,hb,hne⟩:=hab
  have ha':=h.lit a ha
  have hb':=h.lit b hb
  intro e
  unfold Ai at e
  split at e <;> split at e <;> omega
 have key:∀ (l:List Nat) (m:Nat),l.Nodup->(∀ x ∈ l,2<=x/\x < m + 2)->l.length<=m:=by
  intro l m
  induction m generalizing l with
  | zero=>intro _ hx; cases l with | nil=>simp | cons a l=>have:=hx a (by simp); omega
  | succ m ih =>
   intro hd hx
   have h2:=ih (l.erase (m + 2)) (hd.erase _) (fun x hx'=>by
    have h3:=hx x (List.mem_of_mem_erase hx')
    have h4:x ≠ m + 2:=fun e=>by subst e; exact (List.Nodup.not_mem_erase hd) hx'
    omega)
   by_cases hm:m + 2 ∈ l
   ·rw [We hm] at h2; omega
   ·rw [List.erase_of_not_mem hm] at h2; omega
 have:=key _ (2 * n) h1 (fun x hx=>by
  obtain ⟨y,hy,rfl⟩:=Ji.1 hx
  have:=h.lit y hy
  have:=D3 this.1 this.2
  unfold isC at this; omega)
 simpa using this
section
variable {H:A3} {ow:Nat->Nat} {p n:Nat} {k:Bk} {f:Cf} {G:List (List Nat)}
structure SD (H:A3) (ow:Nat->Nat) (p n:Nat) (k:Bk) (f:Cf) (G:List (List Nat)):Prop where
 sb:SB H ow p n k f
 st:f.st = []
 ok:f.dead=false->SI n f.s f.C f.w G f.head
 no:f.dead=true->∀ T,¬ Clo T G
def Cf.wz (f:Cf):=(f.conf,f.lrn,f.ls,f.room,f.rounds,f.loaded,(f.given,f.gs,f.gl),f.model,f.core,f.st)
def lft (s:St) (cs:List Nat):List Nat:=cs.filter fun y=>decide (s.val y=0)
theorem TT {s:St} {cs:List Nat} {y:Nat}:y ∈ lft s cs↔y ∈ cs/\y ∉ s.tr/\neg y ∉ s.tr:=by
 unfold lft
 rw [Xy,Jk,Cq]
theorem Qn {s:St} {cs:List Nat} (h:(cs.map (· / 2)).Nodup):((lft s cs).map (· / 2)).Nodup:=h.sublist (List.filter_sublist.map _)
structure EnA (f f':Cf):Prop where
 key:f'.wz=f.wz
 C:f'.C.length<=f.C.length + 1
 dead:f.dead=true->f'.dead=true
theorem MS (h:SD H ow p n k f G) {z:List Int} (hz:CN n z) {lv:Value} (hv:Vec H 3 1 lv (z.map iv)) (hC:f.C.length<=90000) :
  CallF Tryz.prog 57 [hp p,lv] H (fun v H'=>v=.tuple #[]/\∃ ow' f',SD H' ow' p n k f' (z.map Ai :: G)/\Ex H ow H' ow'/\EnA f f') NoP:=by
 have hzl:=M7 hz
 have hn:=h.sb.n
 obtain ⟨a,c,el⟩:∃ a c,lv=.slice a z.length c:=by
  obtain ⟨a,len,c,rfl,e⟩:=hv.len
  rw [Jm,Jy] at e; subst e
  exact ⟨a,c,rfl⟩
 subst el
 obtain ⟨a1,c1,e1,hrn⟩:=(IL.yq hv).ex
 simp only [Value.slice.injEq] at e1
 obtain ⟨rfl,-,rfl⟩:=e1
 refine A9 Tryz.func57 rfl Tryz.ntmps57 Tryz.results57 (by decide) rfl ?_
 simp (disch:=omega) only [go_sem,↓cB]
 refine A7 (CB hrn (by
  intro x hx
  have:=hz.lit x hx
  unfold AE
  simp only [Jk]
  omega) (by omega)) ?_
 rintro v H1 ⟨f1,w,zs,idle,rfl,v1,o1,hnf⟩
 have hno:∀ T,Clo T (z.map Ai :: G)->Clo T G:=fun T hT=>hT.sub fun y hy=>by simp [hy]
 have m1:=h.sb.m.out f1 (by simp)
 have sb1:SB H1 ow p n k f:=⟨m1,h.sb.r,h.sb.inv,h.sb.wi,h.sb.le,h.sb.hin,h.sb.sn,h.sb.stp,h.sb.n⟩
 have e01:Ex H ow H1 ow:=Ex.of (Sm.of (R:=fun _=>False) f1 (by simp)) (by simp)
 by_cases hidle:idle=true
 ·subst hidle
  simp (disch:=omega) only [go_sem,↓cB]
  obtain ⟨x,hx1,hx2⟩:=hnf.idle.1 rfl
  have hx0:=(hz.lit x ((hnf.mem x).1 hx1)).1
  refine fin ⟨rfl,ow,f,⟨sb1,h.st,fun hd=>(h.ok hd).given (.inl ⟨Ai x,Ji.2 ⟨x,(hnf.mem x).1 hx1,rfl⟩,by rw [Cj hx0]; exact Ji.2 ⟨-x,(hnf.mem _).1 hx2,rfl⟩⟩),fun hd T hT=>h.no hd T (hno T hT)⟩,e01,rfl,by omega,id⟩
 ·have hid:idle=false:=by simpa using hidle
  subst hid
  have hnt:¬ ∃ x ∈ z,-x ∈ z:=by
   rintro ⟨x,h1,h2⟩
   have:=hnf.idle.2 ⟨x,(hnf.mem x).2 h1,(hnf.mem _).2 h2⟩
   cases this
  have hnd:=HB hz.lit hz.str hnt
  obtain ⟨G1,hG⟩:∃ G1,H1.push (.cells (List.replicate z.length (iv 0)).toArray 3)=G1:=⟨_,rfl⟩
  have f2:Fr [] H1 G1:=by rw [<- hG]; exact Fr.push
  have vG:Vec G1 3 1 (.slice (some ⟨H1.size,0,none⟩) 0 z.length) []:=⟨.inr ⟨H1.size,0,z.length,[],List.replicate z.length (iv 0),rfl,by rw [<- hG]; exact Blk.new rfl,rfl,by simp,by omega⟩⟩
  have hf12:=f1.trans f2
  simp (disch:=omega) only [go_sem,hG]
  refine Bp (fun U H2=>∃ wv,(U.get 0=hp p/\U.get 6=wv/\U.ds = [])/\Fr [] H H2/\Vec H2 3 1 wv (nv (lft f.s (z.map Ai)))/\(∀ b ∈ own wv,H.size<=b)/\(∀ y ∈ z.map Ai,y ∉ f.tr)) ?_ ?_
  ·simp (disch:=omega) only [go_sem,↓cB]
   refine Ae (fun j U H2=>∃ (i:Nat) (wv:Value),j=z.length - i/\i<=z.length/\(U.get 0=hp p/\U.get 6=wv/\U.get 19=.slice a z.length c/\U.get 20=iv z.length/\U.get 21=iv i/\U.ds = []) /\
    Fr [] H H2/\Vec H2 3 1 wv (nv (lft f.s ((z.take i).map Ai)))/\(∀ b ∈ own wv,H.size<=b)/\(∀ y ∈ (z.take i).map Ai,y ∉ f.tr)) (k:=z.length) ?_ ?_
   ·exact ⟨0,_,rfl,by omega,by simp (disch:=omega) only [go_sem,↓cB]; rfl,hf12,by simpa [nv,lft] using vG,by have:=f1.size; simp [own]; omega,by simp⟩
   ·rintro _ U H2 ⟨i,wv,rfl,hil,⟨r0,r6,r19,r20,r21,rd⟩,f3,v3,o3,n3⟩
    by_cases hie:i=z.length
    ·subst hie
     rw [Jr] at v3 n3
     simp (disch:=omega) only [go_sem,↓cB,r0,r6,r19,r20,r21,rd]
     exact fin ⟨wv,by simp (disch:=omega) only [go_sem,↓cB,r0,r6,rd],f3,v3,o3,n3⟩
    ·obtain ⟨x,hx⟩:∃ x,z[i]?=some x:=⟨_,J1 (by omega)⟩
     have hxl:=hz.lit x (J2 hx)
     have hxc:=D3 hxl.1 hxl.2
     obtain ⟨x1,x2,x3,x4⟩:=AP hxc
     obtain ⟨b,o,cap,e,kx⟩:=Bc (hv.frame f3 (by simp)) (i:=i) (u:=iv x) (by simp [hx])
     simp only [Value.slice.injEq] at e
     obtain ⟨rfl,-,rfl⟩:=e
     have m3:=h.sb.m.out f3 (by simp)
     have c9:A5 H2 ⟨p,9,none⟩=some (sl k.bv (2 * n + 2)):=m3.c 9
     have cv:=m3.uu h.sb.r x1
     have hi1:(i:Int) + 1=((i + 1:Nat):Int):=by omega
     have htk:(z.take (i + 1)).map Ai=(z.take i).map Ai ++ [Ai x]:=by
      rw [Jl,hx]; simp
     simp (disch:=omega) only [go_sem,↓cB,r19,r20,r21,kx]
     refine A7 (JC (l:=x) (by omega)) ?_
     rintro v H3 ⟨rfl,rfl⟩
     by_cases hpos:0 < f.s.val (Ai x)
     ·simp (disch:=omega) only [go_sem,↓cB,r0,r6,c9,cv,rd]
      obtain ⟨q,hq⟩:=Jc (Cu.1 hpos)
      have sb3:SB H3 ow p n k f:=⟨m3,h.sb.r,h.sb.inv,h.sb.wi,h.sb.le,h.sb.hin,h.sb.sn,h.sb.stp,h.sb.n⟩
      exact fin ⟨rfl,ow,f,⟨sb3,h.st,fun hd=>(h.ok hd).given (.inr (.inl ⟨Ai x,Ji.2 ⟨x,J2 hx,rfl⟩,q,hq,by show lev f.st q=0; rw [h.st]; rfl⟩)),fun hd T hT=>h.no hd T (hno T hT)⟩,Ex.of (Sm.of (R:=fun _=>False) f3 (by simp)) (by simp),rfl,by omega,id⟩
     ·have hnt:Ai x ∉ f.tr:=fun e=>hpos (Cu.2 e)
      have n4:∀ y ∈ (z.take (i + 1)).map Ai,y ∉ f.tr:=by
       rw [htk]
       intro y hy
       rcases Jh.1 hy with hy | hy
       ·exact n3 y hy
       ·have:=J6.1 hy; subst this; exact hnt
      by_cases h0:f.s.val (Ai x)=0
      ·have hlf:lft f.s ((z.take (i + 1)).map Ai)=lft f.s ((z.take i).map Ai) ++ [Ai x]:=by
        rw [htk]; unfold lft; rw [List.filter_append]; simp [h0]
       have hll:(lft f.s ((z.take i).map Ai)).length<=i:=by
        have:=List.length_filter_le (fun y=>decide (f.s.val y=0)) ((z.take i).map Ai)
        rw [Jm,Ze] at this
        unfold lft; omega
       rw [h0] at cv
       simp (disch:=omega) only [go_sem,↓cB,r0,r6,c9,cv]
       refine AK T.zk rfl v3 rfl (by rw [Am]; omega) ?_
       intro v' H4 g1 g2 g3 g4
       simp (disch:=omega) only [go_sem,↓cB,r0,r6,r19,r20,r21,rd]
       refine fin ⟨z.length - (i + 1),by omega,i + 1,v',rfl,by omega,by simp (disch:=omega) only [go_sem,↓cB,r0,r6,r19,r20,r21,rd,hi1],⟨Js f3.size g2.size,fun q hq _=>?_⟩,by rw [hlf]; simpa [nv] using g1,fun q hq=>?_,n4⟩
       ·rw [g2.same q (by have:=f3.size; omega) (fun e=>by have:=o3 q e; omega),f3.same q hq (by simp)]
       ·rcases g3 q hq with h | h
        ·exact o3 q h
        ·have:=f3.size; omega
      ·have hlf:lft f.s ((z.take (i + 1)).map Ai)=lft f.s ((z.take i).map Ai):=by
        rw [htk]; unfold lft; rw [List.filter_append]; simp [h0]
       simp (disch:=omega) only [go_sem,↓cB,r0,r6,r19,r20,r21,rd,c9,cv]
       refine fin ⟨z.length - (i + 1),by omega,i + 1,wv,rfl,by omega,by simp (disch:=omega) only [go_sem,↓cB,r0,r6,r19,r20,r21,rd,hi1],f3,by rw [hlf]; exact v3,o3,n4⟩
  ·rintro U H2 ⟨wv,⟨r0,r6,rd⟩,f3,v3,o3,n3⟩
   obtain ⟨l,hl⟩:∃ l,l=lft f.s (z.map Ai):=⟨_,rfl⟩
   rw [<- hl] at v3
   have m3:=h.sb.m.out f3 (by simp)
   have sb3:SB H2 ow p n k f:=⟨m3,h.sb.r,h.sb.inv,h.sb.wi,h.sb.le,h.sb.hin,h.sb.sn,h.sb.stp,h.sb.n⟩
   have e03:Ex H ow H2 ow:=Ex.of (Sm.of (R:=fun _=>False) f3 (by simp)) (by simp)
   have hlm:∀ y,y ∈ l↔y ∈ z.map Ai/\y ∉ f.tr/\neg y ∉ f.tr:=fun y=>by rw [hl]; exact TT
   have hlc:∀ y ∈ l,isC n y:=fun y hy=>by
    obtain ⟨x,hx,rfl⟩:=Ji.1 ((hlm y).1 hy).1
    exact D3 (hz.lit x hx).1 (hz.lit x hx).2
   have hlnd:(l.map (· / 2)).Nodup:=by rw [hl]; exact Qn hnd
   have hll:l.length<=n:=BQ hlc hlnd
   have hso:f.dead=false->∀ T,Clo T (z.map Ai :: G)->ClT T l:=fun hd T hT =>
    TX (h.ok hd) h.st hT (fun y hy=>((hlm y).1 hy).1) fun y hy=>by
     by_cases hn:neg y ∈ f.tr
     ·exact .inr hn
     ·exact .inl ((hlm y).2 ⟨hy,n3 y hy,hn⟩)
   have hdn:f.dead=true->∀ T,¬ Clo T (z.map Ai :: G):=fun hd T hT=>h.no hd T (hno T hT)
   have hst0:f.st.length<=1000000:=by rw [h.st]; simp
   obtain ⟨la,lc,ew⟩:∃ a c,wv=.slice a l.length c:=by
    obtain ⟨a,len,c,rfl,e⟩:=v3.len
    rw [Am,Jy] at e; subst e
    exact ⟨a,c,rfl⟩
   subst ew
   match l,hlm,hlc,hlnd,hso,hll,v3,r6 with
   | [],hlm,hlc,hlnd,hso,hll,v3,r6 =>
    have r6':U.get 6=.slice la 0 lc:=r6
    obtain ⟨H4,w4,(m4:RM _ _ _ _ _ _),e4⟩:=m3.uf true
    simp (disch:=omega) only [go_sem,↓cB,r0,r6',rd,w4]
    refine fin ⟨rfl,ow,f.uz true,⟨⟨m4,⟨h.sb.r.vals,h.sb.r.lv⟩,h.sb.inv,h.sb.wi,h.sb.le,h.sb.hin,h.sb.sn,h.sb.stp,h.sb.n⟩,h.st,(fun e=>nomatch e),fun _ T hT=>?_⟩,e03.trans e4,rfl,by show f.C.length<=_; omega,fun _=>rfl⟩
    by_cases hd:f.dead=true
    ·exact hdn hd T hT
    ·exact (hso (by simpa using hd) T hT).2 (by simp)
   | [x],hlm,hlc,hlnd,hso,hll,v3,r6 =>
    have r6':U.get 6=.slice la 1 lc:=r6
    have hx:=(hlm x).1 (by simp)
    obtain ⟨b,o,cap,e,kx⟩:=Bc v3 (i:=0) (u:=iv x) rfl
    simp only [Value.slice.injEq] at e
    obtain ⟨rfl,-,rfl⟩:=e
    rw [Zc] at kx
    simp (disch:=omega) only [go_sem,↓cB,r0,r6',rd]
    refine As (lk [tl 0,tl 1,tl 2,tl 3,tl 4,tl 5] (.act 6 .fin .non)) T.mixed ?_
    simp (disch:=omega) only [go_sem,↓cB,r0,r6',rd,kx]
    refine A7 (DZ m3 h.sb.r h.sb.inv hn (hlc x (by simp)) hx.2.1 hx.2.2 hst0 none) ?_
    rintro v H4 ⟨rfl,ow4,vs,lv4,la4,v4,m4,r4,e4⟩
    simp (disch:=omega) only [go_sem,↓cB,rd]
    have hiv:Inv n (f.s.push x none):=h.sb.inv.push (hlc x (by simp)) hx.2.1 hx.2.2 (fun c hc=>by simp at hc) (fun _=>.inl h.st)
    refine fin ⟨rfl,ow4,f.push x none vs lv4 la4 v4,⟨⟨m4,r4,hiv,h.sb.wi.push (fun c hc=>by simp at hc),by have:=h.sb.le; show f.head<=(f.tr ++ [x]).length; simp; omega,h.sb.hin.pre (Yx _ _) (fun v=>Iff.rfl),h.sb.sn,h.sb.stp,h.sb.n⟩,h.st,fun hd=>?_,hdn⟩,e03.trans e4,rfl,by show f.C.length<=_; omega,id⟩
    refine (h.ok hd).fw h.st (hlc x (by simp)) hx.2.1 hx.2.2 hx.1 (fun T hT=>?_)
    exact (hso hd T hT).1 x (by simp) fun y hy hne=>absurd (J6.1 hy) hne
   | x :: y :: t,hlm,hlc,hlnd,hso,hll,v3,r6 =>
    obtain ⟨l,hl'⟩:∃ l,l=x :: y :: t:=⟨_,rfl⟩
    have hl2:l.length=t.length + 2:=by rw [hl']; rfl
    rw [<- hl'] at hlm hlc hlnd hso hll v3 r6
    obtain ⟨b5,o5,c5,e5',k05⟩:=Bc v3 (i:=0) (u:=iv x) (by rw [hl']; rfl)
    rw [Am] at e5'
    simp only [Value.slice.injEq] at e5'
    obtain ⟨rfl,-,rfl⟩:=e5'
    have bl:=Fh (P:=Tryz.prog) (t:=182) (parts:=[(0,.slice (some ⟨b5,o5,none⟩) l.length lc)]) (v:=.agg #[.slice (some ⟨b5,o5,none⟩) l.length lc,iv 0,.bool false])
     (by simp [Gq,T.vq,T.se,CG,DY,chk,Value.cells])
    obtain ⟨H6,hH6⟩:∃ H6,H2.push (.cells #[.slice (some ⟨b5,o5,none⟩) l.length lc,iv 0,.bool false] 182)=H6:=⟨_,rfl⟩
    have f6:Fr [] H2 H6:=by rw [<- hH6]; exact Fr.push
    have hbk:Blk H6 H2.size 182 [.slice (some ⟨b5,o5,none⟩) l.length lc,iv ((0:Nat):Int),.bool false]:=by rw [<- hH6]; exact Blk.new rfl
    have hb5:H.size<=b5:=o3 b5 (by simp [own])
    have hb5':b5 < H2.size:=v3.lt b5 (by simp [own])
    have how5:ow b5=0:=h.sb.m.free hb5
    obtain ⟨ow6,how6⟩:∃ ow6:Nat->Nat,ow6=fun b=>if b=H2.size then 18 else if b=b5 then 101 + 2 * H2.size else ow b:=⟨_,rfl⟩
    have z5:ow H2.size=0:=m3.free (Jb _)
    have m6a:=m3.out f6 (by simp)
    have hz6:H6.size=H2.size + 1:=by rw [<- hH6]; simp
    have m6b:=m6a.xe (ow':=ow6) (fun b hb=>by
     have n1:b ≠ H2.size:=fun e=>hb (by rw [e]; exact z5)
     have n2:b ≠ b5:=fun e=>hb (by rw [e]; exact how5)
     rw [how6]; simp only
     rw [J4 n1,J4 n2]) (fun b hb=>by
     rw [how6] at hb; simp only at hb
     split at hb
     ·omega
     ·split at hb
      ·omega
      ·have:=m3.lo b hb; omega)
    have hcn:H2.size ∉ f.C:=fun e=>by
     have:=(m3.con _ e).blk.blk.lt; omega
    have hCR:CR H6 ow6 H2.size (.slice (some ⟨b5,o5,none⟩) l.length lc) l 0:=by
     refine ⟨⟨hbk,by rw [how6]; simp⟩,⟨v3.frame f6 (by simp),fun b hb=>?_⟩⟩
     simp only [own,J6] at hb
     rw [hb,how6]
     show (if b5=H2.size then 18 else if b5=b5 then 101 + 2 * H2.size else ow b5)=_
     rw [J4 (by omega),J8 rfl]
    have m6:=m6b.px hcn hCR
    have e06:Ex H ow H6 ow6:=(e03.trans (Ex.of (Sm.of (R:=fun _=>False) f6 (by simp)) (by simp))).jk (fun b hb=>by
     rw [how6]; simp only
     have:=e03.sm.size
     rw [J4 (by omega),J4 (by omega)])
    have hxl:=(hlm x).1 (by rw [hl']; simp)
    have hyl:=(hlm y).1 (by rw [hl']; simp)
    have hxy:x ≠ y:=by
     intro e
     have:=hlnd
     rw [hl',e] at this
     simp at this
    simp (disch:=omega) only [go_sem,↓cB,r0,r6,rd,bl]
    rw [hH6]
    refine A7 (GC m6 (c:=H2.size) (a:=x) (b:=y) (r:=t) (by show H2.size ∈ H2.size :: f.C; simp) (by show upd f.lits H2.size l H2.size=_; rw [A8]; exact hl') (AP (hlc x (by rw [hl']; simp))).1 (AP (hlc y (by rw [hl']; simp))).1 hxy (fun z=>by
     have hh:=h.sb.wi.len z
     show (f.w z).length<=_
     have hh:(f.w z).length<=f.C.length:=hh
     omega)) ?_
    rintro v H8 ⟨rfl,ow8,ws8,m8,e8⟩
    simp (disch:=omega) only [go_sem,↓cB,rd]
    have hiv:Inv n (f.s.lit H2.size l):=h.sb.inv.lits fun i z q hi hq=>Af fun e=>hcn (e ▸ h.sb.wi.rs i z q hi hq)
    have hwi:WI n (f.s.lit H2.size l) (H2.size :: f.C) (att f.w H2.size x y):=by rw [hl']; exact h.sb.wi.attach hcn (by rw [<- hl']; exact ⟨hlc,hlnd⟩)
    refine fin ⟨rfl,ow8,_,⟨⟨m8,⟨h.sb.r.vals,h.sb.r.lv⟩,hiv,hwi,h.sb.le,h.sb.hin,h.sb.sn,h.sb.stp,h.sb.n⟩,h.st,fun hd=>?_,hdn⟩,e06.trans e8,rfl,by show (H2.size :: f.C).length<=_; simp,id⟩
    show SI n (f.s.lit H2.size l) (H2.size :: f.C) (att f.w H2.size x y) (z.map Ai :: G) f.head
    rw [hl']
    exact (h.ok hd).me hcn (by rw [<- hl']; exact ⟨hlc,hlnd⟩) hxl.2.2 hyl.2.2 (by rw [<- hl']; exact fun y hy=>((hlm y).1 hy).1) (by rw [<- hl']; exact hso hd)
end
section
variable {H:A3} {ow:Nat->Nat} {p n:Nat} {k:Bk} {f:Cf} {G:List (List Nat)}
def AW (gl:List (List Int)):List (List Nat):=(gl.map (·.map Ai)).reverse
theorem Lf {gl:List (List Int)} {i:Nat} {z:List Int} (h:gl[i]?=some z):AW (gl.take (i + 1))=z.map Ai :: AW (gl.take i):=by
 unfold AW;rw [Jl,h];simp
theorem Qv {gl:List (List Int)} {i:Nat} (h:gl.length<=i):AW (gl.take i)=AW gl:=by rw [Yg h]
def Cf.wu (f:Cf):=(f.conf,f.lrn,f.ls,f.room,f.rounds,(f.given,f.gs,f.gl),f.model,f.core,f.st)
theorem j2d {f f':Cf} (h:f'.wz=f.wz):f'.wu=f.wu:=by
 simp only [Cf.wz,Jx] at h;obtain ⟨e1,e2,e3,e4,e5,e6,e7,e8,e9,e10⟩:=h;simp only [Cf.wu,Jx];exact ⟨e1,e2,e3,e4,e5,e7,e8,e9,e10⟩
theorem Oc (h:SD H ow p n k f (AW (f.gl.take f.loaded))) (hg:∀ z ∈ f.gl,CN n z) (hl:f.loaded<=f.gl.length) (hC:f.C.length + f.gl.length<=80000) :
  CallF Tryz.prog 23 [hp p] H (fun v H'=>v=.tuple #[]/\∃ ow' f',SD H' ow' p n k f' (AW f.gl)/\Ex H ow H' ow'/\f'.wu=f.wu/\f'.loaded=f.gl.length/\f'.C.length<=f.C.length + (f.gl.length - f.loaded)/\(f.dead=true->f'.dead=true)/\(f'.dead=false->f'.head=f'.tr.length)) NoP:=by
 have hng:=h.sb.m.ng
 obtain ⟨a,c,ef⟩:=h.sb.m.given.form
 have hcap:f.gs.length<=c:=by
  rcases h.sb.m.given.vec.ex with ⟨e,_⟩ | ⟨b',len,cap,pre,rest,e,_,_,_,hle⟩
  ·rw [ef] at e; simp only [Value.slice.injEq] at e; omega
  ·rw [ef] at e; simp only [Value.slice.injEq] at e; omega
 have c1:A5 H ⟨p,1,none⟩=some (.slice a f.gs.length c):=by rw [<- ef]; exact h.sb.m.c 1
 have c2:A5 H ⟨p,2,none⟩=some (iv f.loaded):=h.sb.m.c 2
 obtain ⟨A,hA⟩:∃ A,A=(if c=(f.loaded:Int).toNat then a else a.map (·.add ((f.loaded:Int).toNat * 1))):=⟨_,rfl⟩
 have hcell:∀ (j:Nat) (v:Value),f.gs[f.loaded + j]?=some v->∃ b o,A=some ⟨b,o,none⟩/\∀ (H1:A3) (ow1:Nat->Nat) (f1:Cf),RM H1 ow1 p n k f1->f1.given=f.given->f1.gs=f.gs->A5 H1 ⟨b,o + j,none⟩=some v:=by
  intro j v hv;have hj:=(J3.1 hv).1;obtain ⟨b,o,cap,e,-⟩:=Bc h.sb.m.given.vec hv;rw [ef] at e;simp only [Value.slice.injEq] at e;obtain ⟨rfl,-,rfl⟩:=e;refine ⟨b,o + f.loaded,?_,fun H1 ow1 f1 m1 e1 e2=>?_⟩
  ·rw [hA,J4 (by omega)];simp [Addr.add]
  ·have hv1:f1.gs[f.loaded + j]?=some v:=(by rw [e2]; exact hv);obtain ⟨b',o',cap',e',hc'⟩:=Bc m1.given.vec hv1;rw [e1,ef] at e';simp only [Value.slice.injEq,J5,Addr.mk.injEq,Zt] at e';obtain ⟨⟨rfl,rfl⟩,-,rfl⟩:=e';rw [Zs]; exact hc'
 refine A9 Tryz.func23 rfl Tryz.ntmps23 Tryz.results23 (by decide) rfl ?_
 refine As (lk [tl 0,tl 1,tl 2,tl 3,tl 4,tl 5,tl 6,tl 7,tl 8,tl 9,tl 10] .fin) T.mixed ?_
 simp (disch:=omega) only [go_sem,c1,c2]
 refine Bp (fun U H1=>∃ ow1 f1,(U.get 0=hp p/\U.ds = [])/\SD H1 ow1 p n k f1 (AW f.gl)/\Ex H ow H1 ow1/\f1.wz=f.wz/\f1.C.length<=f.C.length + (f.gl.length - f.loaded)/\(f.dead=true->f1.dead=true)) ?_ ?_
 ·simp (disch:=omega) only [go_sem,↓cB]
  refine Ae (fun j U H1=>∃ (i:Nat) (ow1:Nat->Nat) (f1:Cf),j=f.gs.length - f.loaded - i/\i<=f.gs.length - f.loaded/\(U.get 0=hp p/\U.get 12=.slice A (f.gs.length - f.loaded) (c - f.loaded)/\U.get 13=iv ((f.gs.length - f.loaded:Nat):Int)/\U.get 14=iv i/\U.ds = []) /\
   SD H1 ow1 p n k f1 (AW (f.gl.take (f.loaded + i)))/\Ex H ow H1 ow1/\f1.wz=f.wz/\f1.C.length<=f.C.length + i/\(f.dead=true->f1.dead=true)) (k:=f.gs.length - f.loaded) ?_ ?_
  ·exact ⟨0,ow,f,rfl,by omega,by simp (disch:=omega) only [go_sem,↓cB]; rw [hA]; simp,h,Ex.refl,rfl,by omega,id⟩
  ·rintro _ U H1 ⟨i,ow1,f1,rfl,hi,⟨r0,r12,r13,r14,rd⟩,s1,e1,k1,C1,d1⟩
   by_cases hie:i=f.gs.length - f.loaded
   ·subst hie
    rw [Qv (by omega)] at s1
    simp (disch:=omega) only [go_sem,↓cB,r0,r12,r13,r14,rd]
    exact fin ⟨ow1,f1,by simp (disch:=omega) only [go_sem,↓cB,r0,rd],s1,e1,k1,by omega,d1⟩
   ·obtain ⟨v,hv⟩:∃ v,f.gs[f.loaded + i]?=some v:=⟨_,J1 (by omega)⟩
    obtain ⟨z,hz⟩:∃ z,f.gl[f.loaded + i]?=some z:=⟨_,J1 (by omega)⟩
    obtain ⟨b,o,eA,hc⟩:=hcell i v hv
    have k1':=k1
    simp only [Cf.wz,Jx] at k1'
    obtain ⟨x1,x2,x3,x4,x5,x6,⟨x7,x8,x9⟩,x10,x11,x12⟩:=k1'
    have kc:=hc H1 ow1 f1 s1.sb.m x7 x8
    have hzv:=(s1.sb.m.gcl (f.loaded + i) v z (by rw [x8]; exact hv) (by rw [x9]; exact hz)).vec
    have hi1:(i:Int) + 1=((i + 1:Nat):Int):=by omega
    rw [eA] at r12
    simp (disch:=omega) only [go_sem,↓cB,r0,r12,r13,r14,kc]
    refine A7 (MS s1 (hg z (J2 hz)) hzv (by omega)) ?_
    rintro v H2 ⟨rfl,ow2,f2,s2,e2,k2⟩
    simp (disch:=omega) only [go_sem,↓cB,r0,r12,r13,r14]
    refine fin ⟨f.gs.length - f.loaded - (i + 1),by omega,i + 1,ow2,f2,rfl,by omega,by simp (disch:=omega) only [go_sem,↓cB,r0,r12,r13,r14,rd,hi1,eA],?_,e1.trans e2,k2.key.trans k1,by have:=k2.C; omega,fun e=>k2.dead (d1 e)⟩
    have:=Lf hz
    rw [<- Zs,this]; exact s2
 ·rintro U H1 ⟨ow1,f1,⟨r0,rd⟩,s1,e1,k1,C1,d1⟩
  have k1':=k1
  simp only [Cf.wz,Jx] at k1'
  obtain ⟨x1,x2,x3,x4,x5,x6,⟨x7,x8,x9⟩,x10,x11,x12⟩:=k1'
  have c1:A5 H1 ⟨p,1,none⟩=some (.slice a f.gs.length c):=by rw [<- ef,<- x7]; exact s1.sb.m.c 1
  obtain ⟨H2,w2,(m2:RM _ _ _ _ _ _),e2⟩:=s1.sb.m.rz f.gs.length
  have c21:A5 H2 ⟨p,21,none⟩=some (.bool f1.dead):=m2.c 21
  have s2:SD H2 ow1 p n k (f1.ud f.gs.length) (AW f.gl):=⟨⟨m2,⟨s1.sb.r.vals,s1.sb.r.lv⟩,s1.sb.inv,s1.sb.wi,s1.sb.le,s1.sb.hin,s1.sb.sn,s1.sb.stp,s1.sb.n⟩,s1.st,s1.ok,s1.no⟩
  by_cases hd:f1.dead=true
  ·rw [hd] at c21
   have hk7:f1.wu=f.wu:=j2d k1
   simp (disch:=omega) only [go_sem,↓cB,r0,c1,w2,c21,rd]
   refine fin ⟨rfl,ow1,_,s2,e1.trans e2,hk7,hng,C1,fun _=>hd,fun e=>?_⟩
   have e':f1.dead=false:=e
   rw [hd] at e'; cases e'
  ·have hd':f1.dead=false:=by simpa using hd
   rw [hd'] at c21
   simp (disch:=omega) only [go_sem,↓cB,r0,c1,w2,c21]
   refine A7 (EF m2 s2.sb.r (s2.ok hd') s2.sb.n (by show f1.C.length<=_; omega) (by rw [s2.st]; simp)) ?_
   rintro v H3 ⟨ow3,f3,m3,q3,e3,v3,ha⟩
   have hn:=s2.sb.n
   have k3:=v3.key
   simp only [Cf.key,Jx] at k3
   obtain ⟨y1,y2,y3,y4,y5,y6,y7,⟨y8,y8',y8''⟩,y9,y10,y11,y12,y13⟩:=k3
   have hk7:f3.wu=f.wu:=by
    simp only [Cf.wu,Jx];exact ⟨y2.trans x1,y3.trans x2,y4.trans x3,y5.trans x4,y6.trans x5,⟨y8.trans x7,y8'.trans x8,y8''.trans x9⟩,y10.trans x10,y11.trans x11,v3.st.trans x12⟩
   have hst3:f3.st = []:=v3.st.trans s2.st
   have hpl3:f3.pl=f1.pl:=congrArg (fun z=>z.2.2.2.1) v3.key3
   have hin3:HIn n f3:=s2.sb.hin.pre v3.pre (fun v=>by rw [hpl3])
   have sn3:∀ v,v<=n->bt f3.seen v=false:=by rw [y9]; exact s2.sb.sn
   have stp3:1024<=f3.step/\f3.step<=1099511627776:=by rw [y13]; exact s2.sb.stp
   have hd3:f3.dead=false:=y12.trans hd'
   have hC3:f3.C.length=f1.C.length:=by rw [y1]
   rcases ha with ⟨rfl,s3,hh3⟩ | ⟨c,x,K,D,rfl,V3,hall⟩
   ·have hpn:pn none=.pointer none:=rfl
    simp (disch:=omega) only [go_sem,↓cB,r0,hpn,rd]
    exact fin ⟨rfl,ow3,f3,⟨⟨m3,q3,s3.inv,s3.wi,s3.le,hin3,sn3,stp3,hn⟩,hst3,fun _=>s3,fun e=>by rw [hd3] at e; cases e⟩,(e1.trans e2).trans e3,hk7,y7.trans hng,by omega,(fun e=>absurd (d1 e) hd),fun _=>hh3⟩
   ·obtain ⟨H4,w4,(m4:RM _ _ _ _ _ _),e4⟩:=m3.uf true
    simp (disch:=omega) only [go_sem,↓cB,r0,w4,rd]
    exact fin ⟨rfl,ow3,f3.uz true,⟨⟨m4,⟨q3.vals,q3.lv⟩,V3.inv,V3.wi,V3.le,hin3,sn3,stp3,hn⟩,hst3,(fun e=>nomatch e),fun _ T=>Hj V3.gi V3.mem.1 hall hst3⟩,((e1.trans e2).trans e3).trans e4,hk7,y7.trans hng,(show f3.C.length<=_ by omega),(fun _=>rfl),(fun e=>nomatch e)⟩
end
section
variable {H:A3} {ow:Nat->Nat} {p n:Nat} {k:Bk} {f:Cf} {G:List (List Nat)}
def cnt (l:List Int) (q:Int):Option Int:=if l.count q=0 then none else some ((l.count q:Nat):Int)
theorem Us {l:List Int} {x:Int} {kvs:List (Int × Int)} (h:∀ q,Dn kvs q=cnt l q):∀ q,Dn (GQ kvs x ((l.count x:Nat) + 1:Int)) q=cnt (l ++ [x]) q:=by
 intro q;rw [Hz,h q];unfold cnt;rw [List.count_append];by_cases e:q=x
 ·subst e;rw [J8 rfl,List.count_singleton_self,J4 (by omega)];rfl
 ·rw [J4 e,List.count_singleton];have:(x == q)=false:=(by simpa using Ne.symm e);rw [this]; simp
def okA (n:Nat) (x:Int):Bool:=decide (x ≠ 0/\-(n:Int)<=x/\x<=n)
theorem LK (h:RM H ow p n k f) (hn:n<=1000) {a:Option Addr} {xs:List Int} {c:Nat} (hx:Rn H a xs) (hlen:xs.length<=1000) :
  CallF Tryz.prog 22 [hp p,.slice a xs.length c] H (fun v H'=>Fr [] H H'/\((xs.all (okA n)=false/\v=.tuple #[.slice none 0 0,.bool false])\/(xs.all (okA n)=true/\∃ (w:Value) (ds:List Int),v=.tuple #[w,.bool true]/\Vec H' 3 1 w (nv (ds.map Ai))/\(∀ b ∈ own w,H.size<=b)/\(∀ x,x ∈ ds↔x ∈ xs)/\ds.length<=xs.length/\∀ x,ds[0]?=some x->xs[0]?=some x))) NoP:=by
 obtain ⟨G,hG⟩:∃ G,H.push (.map #[] 0)=G:=⟨_,rfl⟩
 have f0:Fr [] H G:=by rw [<- hG]; exact Fr.push
 have hm0:MapR G H.size (([]:List (Int × Int)).map ivp):=by rw [<- hG]; exact MapR.new
 refine A9 Tryz.func22 rfl Tryz.ntmps22 Tryz.results22 (by decide) rfl ?_
 simp (disch:=omega) only [go_sem,↓cB]
 rw [hG]
 refine Ae (fun j U H1=>∃ (i:Nat) (kvs:List (Int × Int)) (wv:Value) (ds:List Int),j=xs.length - i/\i<=xs.length/\(U.get 0=hp p/\U.get 6=.map (some H.size)/\U.get 7=wv/\U.get 11=.slice a xs.length c/\U.get 12=iv xs.length/\U.get 13=iv i/\U.ds = []) /\
  Fr [] H H1/\MapR H1 H.size (kvs.map ivp)/\(∀ q,Dn kvs q=cnt (xs.take i) q)/\(xs.take i).all (okA n)=true/\kvs.length<=i/\Vec H1 3 1 wv (nv (ds.map Ai))/\(∀ b ∈ own wv,H.size < b)/\(∀ x,x ∈ ds↔x ∈ xs.take i)/\ds.length<=i/\∀ x,ds[0]?=some x->xs[0]?=some x) (k:=xs.length) ?_ ?_
 ·exact ⟨0,[],.slice none 0 0,[],rfl,by omega,by simp (disch:=omega) only [go_sem,↓cB],f0,hm0,fun q=>by simp [Dn,cnt],by simp,Jb _,Vec.nil,by simp [own],by simp,by simp,by simp⟩
 ·rintro _ U H1 ⟨i,kvs,wv,ds,rfl,hil,⟨r0,r6,r7,r11,r12,r13,rd⟩,f1,m1,hkv,hall,hkl,v1,o1,hds,hdl,hd0⟩
  by_cases hie:i=xs.length
  ·subst hie
   rw [Jr] at hall hds
   simp (disch:=omega) only [go_sem,↓cB,r0,r6,r7,r11,r12,r13,rd]
   exact fin ⟨f1,.inr ⟨hall,wv,ds,rfl,v1,fun b hb=>Nat.le_of_lt (o1 b hb),hds,hdl,hd0⟩⟩
  ·obtain ⟨x,hxi⟩:∃ x,xs[i]?=some x:=⟨_,J1 (by omega)⟩
   obtain ⟨b,o,e,kx⟩:=(hx.frame f1 (by simp)) i x hxi
   subst e
   have hm:=h.out f1 (by simp)
   have c0:A5 H1 ⟨p,0,none⟩=some (iv n):=hm.c 0
   have hi1:(i:Int) + 1=((i + 1:Nat):Int):=by omega
   have htk:xs.take (i + 1)=xs.take i ++ [x]:=by rw [Jl,hxi]; rfl
   by_cases hok:okA n x=true
   ·have hok':=hok
    unfold okA at hok'
    rw [Jk] at hok'
    obtain ⟨x0,x1,x2⟩:=hok'
    have hcl:(xs.take i).count x<=i:=Js List.count_le_length (by simp; omega)
    have hval:((Dn kvs x).map (Value.int .i64)).getD (iv 0)=iv (((xs.take i).count x:Nat):Int):=by
     rw [hkv x]; unfold cnt;split
     ·rename_i e; rw [e]; rfl
     ·rfl
    have hlk:Ac Tryz.prog (Instr.lookup 123 (.map (some H.size)) (iv x) false) H1=some (iv (((xs.take i).count x:Nat):Int)):=by
     rw [HE Tryz.underlying123 Tryz.underlying3 T.xv m1 x false,<- hval]; rfl
    simp (disch:=omega) only [go_sem,↓cB,r0,r6,r7,r11,r12,r13,rd,kx,c0,hlk]
    refine MI Tryz.underlying123 Tryz.underlying3 m1 ?_
    intro H2 m2 f2
    have hkv2:=Us (x:=x) hkv
    rw [<- htk] at hkv2
    have hct:(xs.take (i + 1)).count x=(xs.take i).count x + 1:=by rw [htk,List.count_append,List.count_singleton_self]
    have hc2:cnt (xs.take (i + 1)) x=some ((((xs.take i).count x:Nat):Int) + 1):=by
     unfold cnt;rw [hct,J4 (Nat.succ_ne_zero _)];rfl
    have hlk2:Ac Tryz.prog (Instr.lookup 123 (.map (some H.size)) (iv x) false) H2=some (iv (((xs.take i).count x:Nat) + 1:Int)):=by
     rw [HE Tryz.underlying123 Tryz.underlying3 T.xv m2 x false,hkv2 x,hc2];rfl
    have f12:Fr [H.size] H1 H2:=f2
    have f02:Fr [] H H2:=⟨Js f1.size f2.size,fun q hq _=>by rw [f2.same q (by have:=f1.size; omega) (by simp only [J6]; omega),f1.same q hq (by simp)]⟩
    have v2:=v1.frame f2 (fun b hb=>by have:=o1 b hb; simp only [J6]; omega)
    have hall2:(xs.take (i + 1)).all (okA n)=true:=by rw [htk,Wm,hall]; simp [hok]
    by_cases hc0:(xs.take i).count x=0
    ·have hnm:x ∉ xs.take i:=List.count_eq_zero.1 hc0
     rw [hc0] at hlk2
     rw [Ve,Int.zero_add] at hlk2
     simp (disch:=omega) only [go_sem,↓cB,r0,r6,r7,r11,r12,r13,rd,hlk2]
     refine A7 (JC (l:=x) (by omega)) ?_
     rintro v H3 ⟨rfl,rfl⟩
     simp (disch:=omega) only [go_sem,↓cB,r0,r6,r7,r11,r12,r13,rd]
     refine AK T.zk rfl v2 rfl (by rw [Am,Jm]; omega) ?_
     intro v' H4 g1 g2 g3 g4
     simp (disch:=omega) only [go_sem,↓cB,r0,r6,r7,r11,r12,r13,rd]
     refine fin ⟨xs.length - (i + 1),by omega,i + 1,_,v',ds ++ [x],rfl,by omega,by simp (disch:=omega) only [go_sem,↓cB,r0,r6,r7,r11,r12,r13,rd,hi1],⟨Js f02.size g2.size,fun q hq _=>?_⟩,m2.frame g2 (fun e=>?_),hkv2,hall2,by have:=GP x ((((xs.take i).count x:Nat):Int) + 1) kvs; omega,by simpa [nv] using g1,fun q hq=>?_,fun y=>by rw [htk,Jh,Jh,hds y],by simp; omega,fun y hy=>?_⟩
     ·rw [g2.same q (by have:=f02.size; omega) (fun e=>by have:=o1 q e; omega),f02.same q hq (by simp)]
     ·have:=o1 _ e; omega
     ·rcases g3 q hq with h | h
      ·exact o1 q h
      ·have:=m2.lt; omega
     ·cases ds with
      | nil =>
       have h0:xs.take i = []:=by
        cases hz:xs.take i with
        | nil=>rfl
        | cons z t=>have:=(hds z).2 (by rw [hz]; simp); simp at this
       have hi0:i=0:=by
        have:=congrArg List.length h0;simp at this; rcases this with h | h
        ·exact h
        ·subst h; simp at hxi
       subst hi0;simp at hy;subst hy;exact hxi
      | cons z t=>exact hd0 y (by simpa using hy)
    ·have hne:(((xs.take i).count x:Nat):Int) + 1 ≠ 1:=by omega
     simp (disch:=omega) only [go_sem,↓cB,r0,r6,r7,r11,r12,r13,rd,hlk2]
     have hmx:x ∈ xs.take i:=List.count_pos_iff.1 (by omega)
     refine fin ⟨xs.length - (i + 1),by omega,i + 1,_,wv,ds,rfl,by omega,by simp (disch:=omega) only [go_sem,↓cB,r0,r6,r7,r11,r12,r13,rd,hi1],f02,m2,hkv2,hall2,by have:=GP x ((((xs.take i).count x:Nat):Int) + 1) kvs; omega,v2,o1,fun y=>?_,by omega,hd0⟩
     rw [htk,Jh,hds y,J6]
     exact ⟨.inl,fun h=>h.elim id (fun e=>e ▸ hmx)⟩
   ·have hbad:x=0\/x < -(n:Int)\/(n:Int) < x:=by
     unfold okA at hok;rw [Jk] at hok;omega
    have hf:xs.all (okA n)=false:=by
     rw [Wa];exact ⟨x,J2 hxi,hok⟩
    have hz:x=0\/x ≠ 0:=by omega
    rcases hz with hz | hz
    ·subst hz
     simp (disch:=omega) only [go_sem,↓cB,r0,r6,r7,r11,r12,r13,rd,kx,c0]
     exact fin ⟨f1,.inl ⟨hf,rfl⟩⟩
    ·by_cases hlt:x < -(n:Int)
     ·simp (disch:=omega) only [go_sem,↓cB,r0,r6,r7,r11,r12,r13,rd,kx,c0]
      exact fin ⟨f1,.inl ⟨hf,rfl⟩⟩
     ·simp (disch:=omega) only [go_sem,↓cB,r0,r6,r7,r11,r12,r13,rd,kx,c0]
      exact fin ⟨f1,.inl ⟨hf,rfl⟩⟩
end
section
variable {H:A3} {ow:Nat->Nat} {p n:Nat} {k:Bk} {f:Cf} {G:List (List Nat)}
theorem Kw (h:RM H ow p n k f) {cv:Value} {zs:List Int} (hv:Vec H 3 1 cv (zs.map iv)) (hlb:∀ x ∈ zs,AE x=true) (hlen:zs.length<=100000) {q:Nat} (hq:f.ls.length=2 * q) (hls:q<=1000000) :
  CallF Tryz.prog 26 [hp p,cv] H (fun v H'=>v=.tuple #[]/\∃ ow' cw ys idle,NF zs ys idle/\Vec H' 3 1 cw (ys.map iv)/\(∀ b ∈ own cw,H.size<=b/\ow' b=0)/\Ex H ow H' ow' /\
   ((idle=true/\RM H' ow' p n k (f.xw cw))\/(idle=false/\∃ lv w,RM H' ow' p n k ((f.xw cw).yf lv (f.ls ++ [.bool false,w]))/\Vec H' 3 1 w ((ys.map (- ·)).map iv)/\∀ b ∈ own w,H.size<=b/\ow' b=0))) NoP:=by
 obtain ⟨a,c,el⟩:∃ a c,cv=.slice a zs.length c:=by
  obtain ⟨a,len,c,rfl,e⟩:=hv.len;rw [Jm,Jy] at e; subst e;exact ⟨a,c,rfl⟩
 subst el
 obtain ⟨a1,c1,e1,hrn⟩:=(IL.yq hv).ex
 simp only [Value.slice.injEq] at e1
 obtain ⟨rfl,-,rfl⟩:=e1
 refine A9 Tryz.func26 rfl Tryz.ntmps26 Tryz.results26 (by decide) rfl ?_
 simp (disch:=omega) only [go_sem,↓cB]
 refine A7 (CB hrn hlb (by omega)) ?_
 rintro v H1 ⟨f1,cw,ys,idle,rfl,v1,o1,hnf⟩
 obtain ⟨b,d,eb⟩:∃ a c,cw=.slice a ys.length c:=by
  obtain ⟨a,len,c,rfl,e⟩:=v1.len;rw [Jm,Jy] at e; subst e;exact ⟨a,c,rfl⟩
 subst eb
 have m1:=h.out f1 (by simp)
 have e01:Ex H ow H1 ow:=Ex.of (Sm.of (R:=fun _=>False) f1 (by simp)) (by simp)
 obtain ⟨H2,w2,(m2:RM _ _ _ _ _ _),e2⟩:=m1.ug (.slice b ys.length d)
 have hf1:∀ q ∈ own (Value.slice b ys.length d),ow q=0:=fun b hb=>h.free (o1 b hb)
 have v2:=e2.vec v1 hf1
 have e02:=e01.trans e2
 cases idle with
 | true =>
  simp (disch:=omega) only [go_sem,↓cB,w2];exact fin ⟨rfl,ow,_,ys,true,hnf,v2,fun b hb=>⟨o1 b hb,hf1 b hb⟩,e02,.inl ⟨rfl,m2⟩⟩
 | false =>
  have hyl:=hnf.le;obtain ⟨G1,hG⟩:∃ G1,H2.push (.cells (List.replicate ys.length (iv 0)).toArray 3)=G1:=⟨_,rfl⟩;have f2:Fr [] H2 G1:=(by rw [<- hG]; exact Fr.push);have vG:Vec G1 3 1 (.slice (some ⟨H2.size,0,none⟩) 0 ys.length) []:=⟨.inr ⟨H2.size,0,ys.length,[],List.replicate ys.length (iv 0),rfl,by rw [<- hG]; exact Blk.new rfl,rfl,by simp,by omega⟩⟩;simp (disch:=omega) only [go_sem,↓cB,w2,hG];refine Ae (fun j U H3=>∃ (i:Nat) (wv:Value),j=ys.length - i/\i<=ys.length/\(U.get 0=hp p/\U.get 6=wv/\U.get 22=.slice b ys.length d/\U.get 23=iv ys.length/\U.get 24=iv i/\U.ds = []) /\
   Fr [] H2 H3/\Vec H3 3 1 wv (((ys.take i).map (- ·)).map iv)/\∀ b ∈ own wv,H2.size<=b) (k:=ys.length) ?_ ?_
  ·exact ⟨0,_,rfl,by omega,by simp (disch:=omega) only [go_sem,↓cB]; rfl,f2,by simpa using vG,by simp [own]⟩
  ·rintro _ U H3 ⟨i,wv,rfl,hil,⟨r0,r6,r22,r23,r24,rd⟩,f3,v3,o3⟩;have m3:=m2.out f3 (by simp);have e23:Ex H2 ow H3 ow:=Ex.of (Sm.of (R:=fun _=>False) f3 (by simp)) (by simp);by_cases hie:i=ys.length
   ·subst hie;rw [Jr] at v3;obtain ⟨wa,wc,ew⟩:∃ a c,wv=.slice a ys.length c:=by
     obtain ⟨a,len,c,rfl,e⟩:=v3.len;rw [Jm,Jm,Jy] at e; subst e;exact ⟨a,c,rfl⟩
    subst ew;have hf3:∀ b ∈ own (Value.slice wa ys.length wc),ow b=0:=fun b hb=>m2.free (o3 b hb);simp (disch:=omega) only [go_sem,↓cB,r0,r6,r22,r23,r24,rd];refine A7 (JD m3 (q:=q) hq hls) ?_;rintro v H4 ⟨rfl,ow4,lv,m4,e4⟩;simp (disch:=omega) only [go_sem,↓cB,rd];refine fin ⟨rfl,ow4,_,ys,false,hnf,(e23.trans e4).vec v2 hf1,fun q hq=>⟨o1 q hq,?_⟩,(e02.trans e23).trans e4,.inr ⟨rfl,lv,_,m4,e4.vec v3 hf3,fun q hq=>⟨by have:=o3 q hq; have:=e02.sm.size; omega,?_⟩⟩⟩
    ·rw [e4.ow q ((v2.frame f3 (by simp)).lt q hq)]; exact hf1 q hq
    ·rw [e4.ow q (v3.lt q hq)]; exact hf3 q hq
   ·obtain ⟨x,hx⟩:∃ x,ys[i]?=some x:=⟨_,J1 (by omega)⟩;have hxb:=hlb x ((hnf.mem x).1 (J2 hx));unfold AE at hxb;rw [Jk] at hxb;obtain ⟨b',o',cap',e',kx⟩:=Bc (v2.frame f3 (by simp)) (i:=i) (u:=iv x) (by simp [hx]);simp only [Value.slice.injEq] at e';obtain ⟨rfl,-,rfl⟩:=e';have hi1:(i:Int) + 1=((i + 1:Nat):Int):=(by omega);simp (disch:=omega) only [go_sem,↓cB,r0,r6,r22,r23,r24,rd,kx];refine AK T.zk rfl v3 rfl (by simp; omega) ?_;intro v' H4 g1 g2 g3 g4;simp (disch:=omega) only [go_sem,↓cB,r0,r6,r22,r23,r24,rd];refine fin ⟨ys.length - (i + 1),by omega,i + 1,v',rfl,by omega,by simp (disch:=omega) only [go_sem,↓cB,r0,r6,r22,r23,r24,rd,hi1],⟨Js f3.size g2.size,fun q hq _=>?_⟩,?_,fun q hq=>?_⟩
    ·rw [g2.same q (by have:=f3.size; omega) (fun e=>by have:=o3 q e; omega),f3.same q hq (by simp)]
    ·have:((ys.take (i + 1)).map (- ·)).map iv=((ys.take i).map (- ·)).map iv ++ [iv (-x)]:=by
      rw [Jl,hx]; simp
     rw [this]; exact g1
    ·rcases g3 q hq with h | h
     ·exact o3 q h
     ·have:=f3.size; omega
end
section
variable {H:A3} {ow:Nat->Nat} {p n:Nat} {k:Bk} {f:Cf} {G:List (List Nat)}
theorem Oa {A B:Nat} {x:Int} {b:Int} (hb:b < 0) (hA:Blk H A 3 [iv b]):CallF Tryz.prog 24 [iv x,.pointer (some ⟨A,0,none⟩),.pointer (some ⟨B,0,none⟩)] H (fun v H'=>v=.bool false/\H'=H) NoP:=by
 have hc:A5 H ⟨A,0,none⟩=some (iv b):=(by rw [hA.cell]; rfl);refine A9 Tryz.func24 rfl Tryz.ntmps24 Tryz.results24 (by decide) rfl ?_;simp (disch:=omega) only [go_sem,↓cB,hc];exact fin ⟨rfl,rfl⟩
theorem Ex.rn {H':A3} {ow':Nat->Nat} (h:Ex H ow H' ow') {a:Option Addr} {xs:List Int} (hx:Rn H a xs) (ho:∀ b o,a=some ⟨b,o,none⟩->b < H.size/\ow b=0):Rn H' a xs:=fun i x hi=>by
 obtain ⟨b,o,e,hc⟩:=hx i x hi;refine ⟨b,o,e,?_⟩;obtain ⟨h1,h2⟩:=ho b o e;have:=h.fr h1 h2;unfold A5 at hc ⊢;rw [this]; exact hc
theorem Ex.rn2 {H':A3} {ow':Nat->Nat} (h:Ex H ow H' ow') {a:Option Addr} {xs:List Int} (hx:Rn H a xs) (ho:xs ≠ []->∀ b o,a=some ⟨b,o,none⟩->b < H.size/\ow b=0):Rn H' a xs:=fun i x hi =>
 h.rn hx (ho fun e=>by rw [e] at hi; simp at hi) i x hi
structure Bd (f:Cf) (u:Nat):Prop where
 conf:f.conf<=u
 lrn:f.lrn.length<=u
 ls:∃ q,f.ls.length=2 * q/\q<=u
 C:f.C.length<=f.loaded + u
 room:f.room=4000
 rd:f.rounds<=2
structure SV (H:A3) (ow:Nat->Nat) (p n:Nat) (k:Bk) (f:Cf):Prop where
 sd:SD H ow p n k f (AW (f.gl.take f.loaded))
 cn:∀ z ∈ f.gl,CN n z
 ld:f.loaded<=f.gl.length
inductive SolA (n:Nat) (G:List (List Nat)) (xs:List Int) (H:A3) (ow:Nat->Nat) (f':Cf):Value->Prop
 | bad (hb:xs.all (okA n)=false) (hls:f'.ls = []) (hc:f'.core=.slice none 0 0):SolA n G xs H ow f' (iv 0)
 | sat (m:Nat->Bool) (Ls:List (List Nat)) (hm:Mdl m) (hG:YT m (Ls ++ G)) (hc:f'.core=.slice none 0 0) (hl:LN H ow n G f'.ls Ls):SolA n G xs H ow f' (iv 1)
 | unsat (cs:List Nat) (ys:List Int) (idle:Bool) (Ls:List (List Nat)) (L0:List Value) (hi:∀ y ∈ cs,isC n y) (hcl:cs.length<=n + 1) (hu:∀ T,Clo T (Ls ++ G)->¬ ∀ y ∈ cs,T y) (hn:NF (cs.map Ct) ys idle)
   (hv:Vec H 3 1 f'.core (ys.map iv)) (ho:∀ b ∈ own f'.core,ow b=0) (hln:LN H ow n G L0 Ls)
   (hl:idle=true/\f'.ls=L0\/idle=false/\∃ w,f'.ls=L0 ++ [.bool false,w]/\Vec H 3 1 w ((ys.map (- ·)).map iv)/\∀ b ∈ own w,ow b=0):SolA n G xs H ow f' (iv 2)
theorem MN {xs:List Int} (h:SV H ow p n k f) (hn7:2 ^ n<=128) (hls:f.ls = []) (hr2:f.rounds<=2) {u:Nat} (hbd:Bd f u) (hu:u<=3000) (hgl:f.gl.length<=30000) {b:Int} (hb:b < 0)
  {a:Option Addr} {c:Nat} (hx:Rn H a xs) (hxo:xs ≠ []->∀ b o,a=some ⟨b,o,none⟩->b < H.size/\ow b=0) (hlen:xs.length<=1000) :
  CallF Tryz.prog 8 [hp p,iv b,.slice a xs.length c] H (fun v H'=>∃ ow' f',RM H' ow' p n k f'/\Ex H ow H' ow'/\f'.gs=f.gs/\f'.gl=f.gl/\f'.ls.length<=2 * (u + 400)/\SolA n (AW f.gl) xs H' ow' f' v) NoP:=by
 have hn:=h.sd.sb.n
 obtain ⟨G1,hG1⟩:∃ G1,H.push (.cells #[iv b] 3)=G1:=⟨_,rfl⟩
 have f1:Fr [] H G1:=by rw [<- hG1]; exact Fr.push
 have b1:Blk G1 H.size 3 [iv b]:=by rw [<- hG1]; exact Blk.new rfl
 have m1:=h.sd.sb.m.out f1 (by simp)
 have e01:Ex H ow G1 ow:=Ex.of (Sm.of (R:=fun _=>False) f1 (by simp)) (by simp)
 have hA0:ow H.size=0:=h.sd.sb.m.free (Jb _)
 obtain ⟨H2,w2,(m2:RM _ _ _ _ _ _),e2⟩:=m1.we (.slice none 0 0)
 obtain ⟨H3,w3,(m3:RM _ _ _ _ _ _),e3⟩:=m2.ug (.slice none 0 0)
 have e03:=e01.trans (e2.trans e3)
 have x3:Rn H3 a xs:=e03.rn2 hx hxo
 refine A9 Tryz.func8 rfl Tryz.ntmps8 Tryz.results8 (by decide) rfl ?_
 simp (disch:=omega) only [go_sem,↓cB]
 rw [hG1]
 simp (disch:=omega) only [go_sem,↓cB,w2,w3]
 refine A7 (LK m3 hn x3 hlen) ?_
 rintro v H4 ⟨f4,hv⟩
 have m4:=m3.out f4 (by simp)
 have e04:Ex H ow H4 ow:=e03.trans (Ex.of (Sm.of (R:=fun _=>False) f4 (by simp)) (by simp))
 have sb4:SB H4 ow p n k ((f.zy (.slice none 0 0)).xw (.slice none 0 0)):=⟨m4,⟨h.sd.sb.r.vals,h.sd.sb.r.lv⟩,h.sd.sb.inv,h.sd.sb.wi,h.sd.sb.le,h.sd.sb.hin,h.sd.sb.sn,h.sd.sb.stp,h.sd.sb.n⟩
 have sd4:SD H4 ow p n k ((f.zy (.slice none 0 0)).xw (.slice none 0 0)) (AW (f.gl.take f.loaded)):=⟨sb4,h.sd.st,h.sd.ok,h.sd.no⟩
 obtain ⟨q0,hq0,hqu⟩:=hbd.ls
 have hbc:=hbd.C
 have hbf:=hbd.conf
 have hbl:=hbd.lrn
 have hbr:=hbd.room
 have hld:=h.ld
 rcases hv with ⟨hbad,rfl⟩ | ⟨hall,w,ds,rfl,v4,o4,hds,hdl,hd0⟩
 ·simp (disch:=omega) only [go_sem,↓cB]
  exact fin ⟨ow,_,m4,e04,rfl,rfl,by show f.ls.length<=_; rw [hls]; simp,.bad hbad hls rfl⟩
 ·simp (disch:=omega) only [go_sem,↓cB]
  refine A7 (Oc sd4 h.cn h.ld (by show f.C.length + f.gl.length<=_; omega)) ?_
  rintro v H5 ⟨rfl,ow5,f5,sd5,e5,k5,ld5,C5,dd5,hh5⟩
  have k5':=k5
  simp only [Cf.wu,Jx] at k5'
  obtain ⟨x1,x2,x3',x4,x5,⟨x6,x7,x8⟩,x9,x10,x11⟩:=k5'
  have C5':f5.C.length<=f.C.length + (f.gl.length - f.loaded):=C5
  have e05:=e04.trans e5
  have ld5':f5.loaded=f.gl.length:=ld5
  have c4:A5 H5 ⟨p,4,none⟩=some (iv f5.conf):=sd5.sb.m.c 4
  obtain ⟨H6,hH6⟩:∃ H6,H5.push (.cells #[iv 0] 3)=H6:=⟨_,rfl⟩
  have f6:Fr [] H5 H6:=by rw [<- hH6]; exact Fr.push
  have b6:Blk H6 H5.size 3 [iv 0]:=by rw [<- hH6]; exact Blk.new rfl
  have w6:=b6.wr (i:=0) (by simp) (iv f5.conf)
  generalize hH7:Aw H6 ⟨H5.size,0,none⟩ (iv f5.conf)=H7 at w6
  have f7:Fr [H5.size] H6 H7:=by rw [<- hH7]; exact Fr.set (by simp)
  have z5:ow5 H5.size=0:=sd5.sb.m.free (Jb _)
  have m7:=(sd5.sb.m.out f6 (by simp)).out f7 (by simpa using z5)
  have e57:Ex H5 ow5 H7 ow5:=(Ex.of (Sm.of (R:=fun _=>False) f6 (by simp)) (by simp):Ex H5 ow5 H6 ow5).fresh f7 (by simp)
  have e07:=e05.trans e57
  have sb7:SB H7 ow5 p n k f5:=⟨m7,sd5.sb.r,sd5.sb.inv,sd5.sb.wi,sd5.sb.le,sd5.sb.hin,sd5.sb.sn,sd5.sb.stp,sd5.sb.n⟩
  have e47:Ex H4 ow H7 ow5:=e5.trans e57
  have ho4:∀ b ∈ own w,ow b=0:=fun b hb=>m3.free (o4 b hb)
  have v7:=e47.vec v4 ho4
  have ho7:∀ b ∈ own w,ow5 b=0:=fun b hb=>by rw [e47.ow b (v4.lt b hb)]; exact ho4 b hb
  have hall':=Jo.1 hall
  have hcd:∀ x ∈ xs,x ≠ 0/\x.natAbs<=n:=fun x hx=>by
   have:=hall' x hx;unfold okA at this;rw [Jk] at this;omega
  have hxc:∀ y ∈ ds.map Ai,isC n y:=fun y hy=>by
   obtain ⟨x,hx,rfl⟩:=Ji.1 hy;have:=hcd x ((hds x).1 hx);exact D3 this.1 this.2
  simp (disch:=omega) only [go_sem,↓cB,c4]
  rw [hH6]
  simp (disch:=omega) only [go_sem,↓cB,w6]
  refine A7 (Q0 (f:=f5) (G:=AW f.gl) (Ls0:=[]) sb7 sd5.st sd5.ok sd5.no (by rw [x3',show _=f.ls from rfl,hls]; exact .nil) (xs:=ds.map Ai) v7 ho7 hxc (by rw [Jm]; omega) (g:=24) (caps:=[.pointer (some ⟨H.size,0,none⟩),.pointer (some ⟨H5.size,0,none⟩)]) ?_ hn7 (by rw [x5]; exact hr2) (q:=q0) (by rw [x3']; exact hq0) (by omega) (by rw [x2,x4]; show ((f.lrn.length:Nat):Int) + 400<=f.room; omega) (by rw [x4]; show f.room<=_; omega) (by omega) (by rw [x1]; show f.conf<=_; omega)) ?_
  ·intro H1 ow1 x ex
   have e17:Ex G1 ow H7 ow5:=((e2.trans e3).trans (Ex.of (Sm.of (R:=fun _=>False) f4 (by simp)) (by simp))).trans e47
   have b7:=e17.blk b1 hA0
   have hA5:ow5 H.size=0:=by rw [e17.ow H.size b1.lt]; exact hA0
   exact Oa hb (ex.blk b7 hA5)
  ·rintro v H8 ⟨ow8,f8,d,r,Ls,sb8,st8,ok8,e8,nm8,d8,r8,q8,dd8,ln8,ans⟩
   have e08:=e07.trans e8
   have gl8:f8.gl=f.gl:=nm8.giv.2.2.trans x8
   have gs8:f8.gs=f.gs:=nm8.giv.2.1.trans x7
   have ls8:f8.ls.length=2 * d:=by rw [nm8.ls,x3',show (_:List Value)=f.ls from rfl,hls]; simp
   have refu:∀ (cs:List Nat) (cv:Value),Vec H8 3 1 cv ((cs.map Ct).map iv)->(∀ y ∈ cs,isC n y)->cs.length<=n + 1->(∀ T,Clo T (Ls ++ AW f.gl)->¬ ∀ y ∈ cs,T y) ->
     CallF Tryz.prog 26 [hp p,cv] H8 (fun v H'=>v=.tuple #[]/\∃ ow' f',RM H' ow' p n k f'/\Ex H ow H' ow'/\f'.gs=f.gs/\f'.gl=f.gl/\f'.ls.length<=2 * (u + 400)/\SolA n (AW f.gl) xs H' ow' f' (iv 2)) NoP:=by
    intro cs cv hcv hcc hcl hu
    refine (Kw sb8.m hcv (fun x hx=>by
     obtain ⟨y,hy,rfl⟩:=Ji.1 hx;exact IJ (hcc y hy) hn) (by rw [Jm]; omega) ls8 (by omega)).to ?_
    rintro v H9 ⟨rfl,ow9,cw,ys,idle,hnf,v9,o9,e9,hor⟩
    refine ⟨rfl,?_⟩
    rcases hor with ⟨rfl,m9⟩ | ⟨rfl,lv,w,m9,w9,ow9'⟩
    ·exact ⟨ow9,f8.xw cw,m9,e08.trans e9,gs8,gl8,by show f8.ls.length<=_; omega,.unsat cs ys true Ls f8.ls hcc hcl hu hnf v9 (fun b hb=>(o9 b hb).2) (ln8.ex e9) (.inl ⟨rfl,rfl⟩)⟩
    ·exact ⟨ow9,(f8.xw cw).yf lv (f8.ls ++ [.bool false,w]),m9,e08.trans e9,gs8,gl8,by show (f8.ls ++ [_,w]).length<=_; simp; omega,.unsat cs ys false Ls f8.ls hcc hcl hu hnf v9 (fun b hb=>(o9 b hb).2) (ln8.ex e9) (.inr ⟨rfl,w,rfl,w9,fun b hb=>(ow9' b hb).2⟩)⟩
   cases ans with
   | dead h1 h2 =>
    simp (disch:=omega) only [go_sem,↓cB];refine A7 (refu [] (.slice none 0 0) Vec.nil (by simp) (by simp) (fun T hT _=>h2 T hT)) ?_;rintro v H9 ⟨rfl,hres⟩;simp (disch:=omega) only [go_sem,↓cB];exact fin hres
   | sat md m h1 h2 h3 h4 h5 h6 h7 =>
    simp (disch:=omega) only [go_sem,↓cB];exact fin ⟨ow8,f8,sb8.m,e08,gs8,gl8,by omega,.sat m Ls h2 h3 (nm8.cor.trans x10) ln8⟩
   | unsat core x dd h1 h2 h3 h4 h5 h6 h7 =>
    simp (disch:=omega) only [go_sem,↓cB];refine A7 (refu (x :: dd) core h4 h3 (by simp; omega) h7) ?_;rintro v H9 ⟨rfl,hres⟩;simp (disch:=omega) only [go_sem,↓cB];exact fin hres
end
section
variable {H:A3} {ow:Nat->Nat} {p n:Nat} {k:Bk} {f:Cf} {G:List (List Nat)}
theorem nst {S T:Nat} {L:List Value} (hb:Blk H S T L) {i:Nat} (hi:i < L.length) (v:Value):∃ H',wr H ⟨S,i,none⟩ v=some H'/\Blk H' S T (L.set i v)/\H'.size=H.size/\Fr [S] H H' :=
 ⟨_,hb.wr hi v,hb.set i v,AA,Fr.set (by simp)⟩
theorem npu {S T:Nat} {L:List Value} (hb:Blk H S T L) {i:Nat} (hi:i < L.length) (v:Value) (vs:List Value) (t:Nat) :
  ∃ H',wr (H.push (.cells vs.toArray t)) ⟨S,i,none⟩ v=some H'/\Blk H' S T (L.set i v)/\H'.size=H.size + 1/\Fr [S] H H'/\Blk H' H.size t vs:=by
 have h1:=hb.push (.cells vs.toArray t)
 have fp:Fr [] H (H.push (.cells vs.toArray t)):=Fr.push
 have fs:Fr [S] (H.push (.cells vs.toArray t)) (Aw (H.push (.cells vs.toArray t)) ⟨S,i,none⟩ v):=Fr.set (by simp)
 refine ⟨_,h1.wr hi v,h1.set i v,by rw [AA]; simp,?_,?_⟩
 ·exact ⟨Js fp.size fs.size,fun b hb hne=>by rw [fs.same b (Yw hb fp.size) hne,fp.same b hb (by simp)]⟩
 ·have h2:Blk (H.push (.cells vs.toArray t)) H.size t vs:=Blk.new rfl
  exact h2.zd (show H.size ≠ S from Nat.ne_of_gt hb.lt)
def UU (n:Nat) (os pl:List Int):Cf:={ given:=.slice none 0 0,lines:=.slice none 0 0,model:=.slice none 0 0,core:=.slice none 0 0,trail:=.slice none 0 0,starts:=.slice none 0 0,learned:=.slice none 0 0,gs:=[],gl:=[],ls:=[],loaded:=0,conf:=0,head:=0,step:=1024,room:=4000,rounds:=0,dead:=false,lrn:=[],vals:=List.replicate (2 * n + 2) 0,lvls:=List.replicate (n + 1) 0,seen:=List.replicate (n + 1) false,last:=List.replicate (n + 1) false,rea:=fun _=>none,tr:=[],st:=[],m:=n,os:=os,pl:=pl,ac:=List.replicate (n + 1) 0,ws:=fun _=>.slice none 0 0,w:=fun _=>[],C:=[],lits:=fun _=>[],lb:=fun _=>.slice none 0 0,l2:=fun _=>0 }
def newSt:St:=⟨[],[],fun _=>none,fun _=>[]⟩
theorem VV:SI n newSt [] (fun _=>[]) [] 0 :=
 ⟨⟨⟨by simp [newSt],by simp [newSt]⟩,by simp [newSt],by simp [newSt],fun i x c h=>by simp [newSt] at h,fun i x h=>by simp [newSt] at h⟩,⟨by simp,by simp,by simp,by simp,fun i x c h=>by simp [newSt] at h⟩,fun c hc=>by simp at hc,⟨fun T _=>⟨by simp,fun i x h=>by simp [newSt] at h⟩,by simp⟩,by simp [newSt],by simp [newSt]⟩
theorem YJ {m v:Nat}:bt (List.replicate m false) v=false:=by
 unfold bt;by_cases h:v < m
 ·simp [h]
 ·simp [h]
theorem QU:newSt.vals n=List.replicate (2 * n + 2) 0:=by
 apply Ye (by simp [St.vals]);intro i h1 h2;simp [St.vals,St.val,newSt]
theorem Tj:(List.range (n + 1)).map (fun _=>pn none)=List.replicate (n + 1) (Value.pointer none):=by
 apply Ye (by simp);intro i h1 h2;simp [pn]
theorem Vm:(List.range (2 * n + 2)).map (fun _=>Value.slice none 0 0)=List.replicate (2 * n + 2) (Value.slice none 0 0):=by
 apply Ye (by simp);intro i h1 h2;simp
theorem Q1 (hn:n<=1000) :
  CallF Tryz.prog 6 [iv n] H (fun v H'=>Fr [] H H'/\∃ ow p k f,v=.tuple #[hp p,iv 0]/\(∀ b,b < H.size->ow b=0)/\SV H' ow p n k f/\f.gl = []/\f.rounds=0/\Bd f 0/\f.dead=false/\f.ls = []) NoP:=by
 refine A9 Tryz.func6 rfl Tryz.ntmps6 Tryz.results6 (by decide) rfl ?_
 simp (disch:=omega) only [go_sem,↓cB]
 refine A7 (TA (n:=n) (by omega)) ?_
 rintro v H1 ⟨f1,ho,hb,hp',ha,os,pl,rfl,hsz,hg,hpl⟩
 have e2:(2 * (n:Int) + 2).toNat=2 * n + 2:=by omega
 have e1:((n:Int) + 1).toNat=n + 1:=by omega
 obtain ⟨H2,hH2⟩:∃ H2,H1.push (.cells #[iv n,.slice none 0 0,iv 0,.slice none 0 0,iv 0,.slice none 0 0,.slice none 0 0,.pointer none,.slice none 0 0,.slice none 0 0,.slice none 0 0,.slice none 0 0,.slice none 0 0,.slice none 0 0,.slice none 0 0,.slice none 0 0,iv 0,iv 0,.slice none 0 0,iv 0,iv 0,.bool false] 68)=H2:=⟨_,rfl⟩
 have f2:Fr [] H1 H2:=by rw [<- hH2]; exact Fr.push
 have b2:Blk H2 H1.size 68 [iv n,.slice none 0 0,iv 0,.slice none 0 0,iv 0,.slice none 0 0,.slice none 0 0,.pointer none,.slice none 0 0,.slice none 0 0,.slice none 0 0,.slice none 0 0,.slice none 0 0,.slice none 0 0,.slice none 0 0,.slice none 0 0,iv 0,iv 0,.slice none 0 0,iv 0,iv 0,.bool false]:=by rw [<- hH2]; exact Blk.new rfl
 have z2:H2.size=H1.size + 1:=by rw [<- hH2]; simp
 obtain ⟨H3,w3,b3,z3,f3⟩:=nst b2 (i:=7) (by simp) (pv ho)
 simp only [Yc,Y5] at b3
 obtain ⟨H4,w4,b4,z4,f4,k4⟩:=npu b3 (i:=9) (by simp) (.slice (some ⟨H3.size,0,none⟩) (2 * n + 2) (2 * n + 2)) (List.replicate (2 * n + 2) (.int .i8 0)) 179
 simp only [Yc,Y5] at b4
 obtain ⟨H5,w5,b5,z5,f5,k5⟩:=npu b4 (i:=8) (by simp) (.slice (some ⟨H4.size,0,none⟩) (2 * n + 2) (2 * n + 2)) (List.replicate (2 * n + 2) (.slice none 0 0)) 64
 simp only [Yc,Y5] at b5
 obtain ⟨H6,w6,b6,z6,f6,k6⟩:=npu b5 (i:=10) (by simp) (.slice (some ⟨H5.size,0,none⟩) (n + 1) (n + 1)) (List.replicate (n + 1) (iv 0)) 3
 simp only [Yc,Y5] at b6
 obtain ⟨H7,w7,b7,z7,f7,k7⟩:=npu b6 (i:=11) (by simp) (.slice (some ⟨H6.size,0,none⟩) (n + 1) (n + 1)) (List.replicate (n + 1) (.pointer none)) 124
 simp only [Yc,Y5] at b7
 obtain ⟨H8,w8,b8,z8,f8,k8⟩:=npu b7 (i:=12) (by simp) (.slice (some ⟨H7.size,0,none⟩) (n + 1) (n + 1)) (List.replicate (n + 1) (.bool false)) 4
 simp only [Yc,Y5] at b8
 obtain ⟨H9,w9,b9,z9,f9,k9⟩:=npu b8 (i:=13) (by simp) (.slice (some ⟨H8.size,0,none⟩) (n + 1) (n + 1)) (List.replicate (n + 1) (.bool false)) 4
 simp only [Yc,Y5] at b9
 obtain ⟨H10,w10,b10,z10,f10⟩:=nst b9 (i:=17) (by simp) (iv 1024)
 simp only [Yc,Y5] at b10
 obtain ⟨H11,w11,b11,z11,f11⟩:=nst b10 (i:=19) (by simp) (iv 4000)
 simp only [Yc,Y5] at b11
 simp (disch:=omega) only [go_sem,↓cB]
 rw [hH2]
 simp (disch:=omega) only [go_sem,↓cB,w3,w4,w5,w6,w7,w8,w9,w10,w11,e1,e2]
 obtain ⟨s,hs⟩:∃ s,s=H1.size:=⟨_,rfl⟩
 rw [<- hs] at b11 f3 f4 f5 f6 f7 f8 f9 f10 f11
 have l1:ho < s:=by rw [hs]; exact hg.ha.self.lt
 have l2:hb < s:=by rw [hs]; exact hg.ha.io.lt
 have l3:hp' < s:=by rw [hs]; exact hg.ha.ip.lt
 have l4:ha < s:=by rw [hs]; exact hg.ha.ia.lt
 have hne:=hg.ha.ne
 have hsz0:=f1.size
 have g10:=f10.trans f11
 have g9:=f9.trans g10
 have g8:=f8.trans g9
 have g7:=f7.trans g8
 have g6:=f6.trans g7
 have g5:=f5.trans g6
 have g4:=f4.trans g5
 have g3:=f3.trans g4
 have q4:=g5.blk k4 (by simp; omega)
 have q5:=g6.blk k5 (by simp; omega)
 have q6:=g7.blk k6 (by simp; omega)
 have q7:=g8.blk k7 (by simp; omega)
 have q8:=g9.blk k8 (by simp; omega)
 have q9:=g10.blk k9 (by simp; omega)
 have hg11:=(hg.frame f2 (by simp) (by simp) (by simp) (by simp)).frame g3 (by simp; omega) (by simp; omega) (by simp; omega) (by simp; omega)
 have s3:H3.size=s + 1:=by omega
 have s4:H4.size=s + 2:=by omega
 have s5:H5.size=s + 3:=by omega
 have s6:H6.size=s + 4:=by omega
 have s7:H7.size=s + 5:=by omega
 have s8:H8.size=s + 6:=by omega
 have s11:H11.size=s + 7:=by omega
 rw [s3] at b11 q4
 rw [s4] at b11 q5
 rw [s5] at b11 q6
 rw [s6] at b11 q7
 rw [s7] at b11 q8
 rw [s8] at b11 q9
 obtain ⟨ow,how⟩:∃ ow:Nat->Nat,∀ b,ow b=if b=s then 1 else if b=s + 1 then 2 else if b=s + 2 then 7 else if b=s + 3 then 3 else if b=s + 4 then 4 else if b=s + 5 then 5 else if b=s + 6 then 6 else if b=ho then 11 else if b=hb then 12 else if b=hp' then 13 else if b=ha then 14 else 0:=⟨_,fun _=>rfl⟩
 have f011:Fr [] H H11:=⟨by omega,fun b hb _=>by rw [g3.same b (by omega) (by simp; omega),f2.same b (by omega) (by simp),f1.same b hb (by simp)]⟩
 obtain ⟨nl,hnl⟩:∃ nl:Value,nl=.slice none 0 0:=⟨_,rfl⟩
 obtain ⟨f,hf⟩:∃ f:Cf,f=UU n os pl:=⟨_,rfl⟩
 have ow0:ow s=1:=by rw [how,J8 rfl]
 have ow1:ow (s + 1)=2:=by rw [how,J4 (by omega),J8 rfl]
 have ow2:ow (s + 2)=7:=by rw [how,J4 (by omega),J4 (by omega),J8 rfl]
 have ow3:ow (s + 3)=3:=by rw [how,J4 (by omega),J4 (by omega),J4 (by omega),J8 rfl]
 have ow4:ow (s + 4)=4:=by rw [how,J4 (by omega),J4 (by omega),J4 (by omega),J4 (by omega),J8 rfl]
 have ow5:ow (s + 5)=5:=by rw [how,J4 (by omega),J4 (by omega),J4 (by omega),J4 (by omega),J4 (by omega),J8 rfl]
 have ow6:ow (s + 6)=6:=by rw [how,J4 (by omega),J4 (by omega),J4 (by omega),J4 (by omega),J4 (by omega),J4 (by omega),J8 rfl]
 have ow7:ow ho=11:=by rw [how,J4 (by omega),J4 (by omega),J4 (by omega),J4 (by omega),J4 (by omega),J4 (by omega),J4 (by omega),J8 rfl]
 have ow8:ow hb=12:=by rw [how,J4 (by omega),J4 (by omega),J4 (by omega),J4 (by omega),J4 (by omega),J4 (by omega),J4 (by omega),J4 (by omega),J8 rfl]
 have ow9:ow hp'=13:=by rw [how,J4 (by omega),J4 (by omega),J4 (by omega),J4 (by omega),J4 (by omega),J4 (by omega),J4 (by omega),J4 (by omega),J4 (by omega),J8 rfl]
 have ow10:ow ha=14:=by rw [how,J4 (by omega),J4 (by omega),J4 (by omega),J4 (by omega),J4 (by omega),J4 (by omega),J4 (by omega),J4 (by omega),J4 (by omega),J4 (by omega),J8 rfl]
 have hmem:RM H11 ow s n ⟨s + 1,s + 3,s + 4,s + 5,s + 6,s + 2,ho,hb,hp',ha⟩ (UU n os pl):=by
  have hvr:∀ r e z,VR H11 ow r e z (.slice none 0 0) []:=fun r e z=>⟨Vec.nil,by simp [own]⟩;refine ⟨⟨b11,?_⟩,⟨?_,?_⟩,⟨?_,?_⟩,⟨?_,?_⟩,⟨?_,?_⟩,⟨?_,?_⟩,⟨?_,?_⟩,fun x hx=>hvr _ _ _,hvr _ _ _,hvr _ _ _,hvr _ _ _,⟨hg11,?_,?_,?_,?_⟩,hvr _ _ _,hvr _ _ _,fun i v g h1=>?_,fun c hc=>?_,fun b hb=>?_,?_,?_,?_,?_,rfl⟩
  ·exact ow0
  ·show Blk H11 (s + 1) _ ((List.replicate (2 * n + 2) (0:Int)).map (Value.int .i8));rw [Ym]; exact q4
  ·exact ow1
  ·show Blk H11 (s + 3) _ (nv (List.replicate (n + 1) 0));unfold nv; rw [Ym]; exact q6
  ·exact ow3
  ·show Blk H11 (s + 4) _ ((List.range (n + 1)).map (fun _=>pn none));rw [Tj]; exact q7
  ·exact ow4
  ·show Blk H11 (s + 5) _ ((List.replicate (n + 1) false).map Value.bool);rw [Ym]; exact q8
  ·exact ow5
  ·show Blk H11 (s + 6) _ ((List.replicate (n + 1) false).map Value.bool);rw [Ym]; exact q9
  ·exact ow6
  ·show Blk H11 (s + 2) _ ((List.range (2 * n + 2)).map (fun _=>Value.slice none 0 0));rw [Vm]; exact q5
  ·exact ow2
  ·exact ow7
  ·exact ow8
  ·exact ow9
  ·exact ow10
  ·cases h1
  ·cases hc
  ·rw [s11];rcases X9 b (s + 7) with hlt | hge
   ·exact hlt
   ·exact absurd (by rw [how,J4 (by omega),J4 (by omega),J4 (by omega),J4 (by omega),J4 (by omega),J4 (by omega),J4 (by omega),J4 (by omega),J4 (by omega),J4 (by omega),J4 (by omega)]) hb
  ·exact Xq
  ·exact Xq
  ·exact Xq
  ·exact Xq
 rw [<- hf] at hmem
 have hsi:SI n f.s f.C f.w [] f.head:=by rw [hf]; exact VV
 have hSB:SB H11 ow s n ⟨s + 1,s + 3,s + 4,s + 5,s + 6,s + 2,ho,hb,hp',ha⟩ f:=by
  refine ⟨hmem,?_,hsi.inv,hsi.wi,hsi.le,?_,?_,?_,hn⟩
  ·rw [hf];refine ⟨(QU (n:=n)).symm,fun i x h=>?_⟩;cases h
  ·rw [hf];intro v h1 h2 _;exact hpl v h1 h2
  ·rw [hf];intro v hv;exact YJ
  ·rw [hf]; exact ⟨by show (1024:Int)<=1024; omega,by show (1024:Int)<=_; omega⟩
 have hd:f.dead=false:=by rw [hf]; rfl
 have hgl:f.gl = []:=by rw [hf]; rfl
 have hlo:f.loaded=0:=by rw [hf]; rfl
 have hgc:AW (f.gl.take f.loaded) = []:=by rw [hgl,hlo]; rfl
 refine fin ⟨f011,ow,s,_,f,by rw [hs],fun b hb=>?_,⟨⟨hSB,by rw [hf]; rfl,fun _=>by rw [hgc]; exact hsi,fun e=>by rw [hd] at e; cases e⟩,by rw [hgl]; simp,by rw [hlo]; omega⟩,hgl,by rw [hf]; rfl,⟨by rw [hf]; exact Jb 0,by rw [hf]; exact Jb 0,⟨0,by rw [hf]; rfl,Jb 0⟩,by rw [hf]; exact Jb 0,by rw [hf]; rfl,by rw [hf]; exact Wq 2⟩,hd,by rw [hf]; rfl⟩
 rw [how,J4 (by omega),J4 (by omega),J4 (by omega),J4 (by omega),J4 (by omega),J4 (by omega),J4 (by omega),J4 (by omega),J4 (by omega),J4 (by omega),J4 (by omega)]
end
section
variable {H:A3} {ow:Nat->Nat} {p n:Nat} {k:Bk} {f:Cf} {G:List (List Nat)}
theorem Lm {x:Int} (hx:-100000<=x/\x<=100000):CallF Tryz.prog 51 [iv x] H (fun v H'=>v=iv (x.natAbs:Nat)/\H'=H) NoP:=by
 refine A9 Tryz.func51 rfl Tryz.ntmps51 Tryz.results51 (by decide) rfl ?_
 by_cases h:x < 0
 ·simp (disch:=omega) only [go_sem,↓cB]
  exact fin ⟨by rw [show ((x.natAbs:Nat):Int) = -x by omega],rfl⟩
 ·simp (disch:=omega) only [go_sem,↓cB]
  exact fin ⟨by rw [show ((x.natAbs:Nat):Int)=x by omega],rfl⟩
def grt (l:List Int):Nat:=l.foldl (fun m x=>if AE x then max m x.natAbs else m) 0
theorem Mc {l:List Int} {x:Int}:grt (l ++ [x])=if AE x then max (grt l) x.natAbs else grt l:=by
 unfold grt; rw [List.foldl_append]; rfl
theorem CP {x:Int} (h:AE x=true):-100000<=x/\x<=100000:=by
 unfold AE at h; rw [Jk] at h; omega
theorem Ci {x:Int} (h:AE x=true):x ≠ 0:=by
 unfold AE at h; rw [Jk] at h; omega
theorem Gh:∀ {l:List Int} {m:Nat},grt l<=m↔∀ x ∈ l,AE x=true->x.natAbs<=m:=by
 intro l m
 have key:∀ (l:List Int) (a:Nat),l.foldl (fun m x=>if AE x then max m x.natAbs else m) a<=m↔a<=m/\∀ x ∈ l,AE x=true->x.natAbs<=m:=by
  intro l
  induction l with
  | nil=>intro a; simp
  | cons x l ih =>
   intro a
   rw [W0,ih]
   by_cases h:AE x=true
   ·rw [J8 h]
    simp only [J7,forall_eq_or_imp]
    constructor
    ·rintro ⟨h1,h2⟩; exact ⟨by omega,fun _=>by omega,h2⟩
    ·rintro ⟨h1,h2,h3⟩; have:=h2 h; exact ⟨by omega,h3⟩
   ·rw [J4 h]
    simp only [J7,forall_eq_or_imp]
    exact ⟨fun ⟨h1,h2⟩=>⟨h1,fun e=>absurd e h,h2⟩,fun ⟨h1,_,h2⟩=>⟨h1,h2⟩⟩
 unfold grt
 rw [key]
 simp
theorem Fg {b o c:Nat} {ra:Option Addr} {xs:List Int} {rc:Nat} (hb:A5 H ⟨b,o,none⟩=some (.slice ra xs.length rc)) (hx:Rn H ra xs) (hlen:xs.length<=1000000) :
  CallF Tryz.prog 20 [.slice (some ⟨b,o,none⟩) 1 c] H (fun v H'=>v=iv (grt xs:Nat)/\H'=H) NoP:=by
 refine A9 Tryz.func20 rfl Tryz.ntmps20 Tryz.results20 (by decide) rfl ?_
 simp (disch:=omega) only [go_sem,↓cB]
 refine Ae (fun j U H1=>∃ i:Nat,j=1 - i/\i<=1/\(U.get 8=.slice (some ⟨b,o,none⟩) 1 c/\U.get 9=iv 1/\U.get 10=iv i/\U.get 3=iv ((if i=0 then 0 else grt xs:Nat):Int)/\U.ds = [])/\H1=H) (k:=1) ?_ ?_
 ·exact ⟨0,rfl,by omega,by simp (disch:=omega) only [go_sem,↓cB]; rfl,rfl⟩
 ·rintro _ U H1 ⟨i,rfl,hi,⟨r8,r9,r10,r3,rd⟩,e⟩
  subst H1
  by_cases h1:i=1
  ·subst h1
   simp (disch:=omega) only [go_sem,↓cB,r8,r9,r10,r3,rd]
   exact fin ⟨rfl,rfl⟩
  ·have h0:i=0:=by omega
   subst h0
   rw [J8 rfl] at r3
   have r10':U.get 10=iv 0:=r10
   have r3':U.get 3=iv 0:=r3
   have hb':A5 H ⟨b,o + 0,none⟩=some (.slice ra xs.length rc):=hb
   simp (disch:=omega) only [go_sem,r8,r9,r10',r3',hb,hb']
   refine Bp (fun U H1=>(U.get 8=.slice (some ⟨b,o,none⟩) 1 c/\U.get 9=iv 1/\U.get 10=iv 0/\U.get 3=iv (grt xs:Nat)/\U.ds = [])/\H1=H) ?_ ?_
   ·simp (disch:=omega) only [go_sem,↓cB,r8,r9,r10',r3',hb,hb']
    refine Ae (fun j U H1=>∃ i:Nat,j=xs.length - i/\i<=xs.length/\(U.get 8=.slice (some ⟨b,o,none⟩) 1 c/\U.get 9=iv 1/\U.get 10=iv 0/\U.get 14=.slice ra xs.length rc/\U.get 15=iv xs.length/\U.get 16=iv i/\U.get 3=iv (grt (xs.take i):Nat)/\U.ds = [])/\H1=H) (k:=xs.length) ?_ ?_
    ·exact ⟨0,rfl,by omega,by simp (disch:=omega) only [go_sem,↓cB,r8,r9,r10',r3',rd]; rfl,rfl⟩
    ·rintro _ U H1 ⟨i,rfl,hi,⟨r8,r9,r10,r14,r15,r16,r3,rd⟩,e⟩
     subst H1
     by_cases hie:i=xs.length
     ·subst hie
      rw [Jr] at r3
      simp (disch:=omega) only [go_sem,↓cB,r8,r9,r10,r14,r15,r16,r3,rd]
      exact fin ⟨by simp (disch:=omega) only [go_sem,↓cB,r8,r9,r10,r14,r15,r16,r3,rd],rfl⟩
     ·obtain ⟨x,hxi⟩:∃ x,xs[i]?=some x:=⟨_,J1 (by omega)⟩
      obtain ⟨b',o',e,kx⟩:=hx i x hxi
      subst e
      have hi1:(i:Int) + 1=((i + 1:Nat):Int):=by omega
      have htk:xs.take (i + 1)=xs.take i ++ [x]:=by rw [Jl,hxi]; rfl
      have hgt:=Mc (l:=xs.take i) (x:=x)
      rw [<- htk] at hgt
      simp (disch:=omega) only [go_sem,↓cB,r8,r9,r10,r14,r15,r16,r3,rd,kx]
      refine A7 I2 ?_
      rintro v H2 ⟨rfl,e⟩
      subst H2
      cases hl:AE x with
      | true =>
       rw [hl,J8 rfl] at hgt
       simp (disch:=omega) only [go_sem,↓cB,r3]
       refine A7 (Lm (CP hl)) ?_
       rintro v H2 ⟨rfl,e⟩
       subst H2
       have hmx:max ((grt (xs.take i):Nat):Int) ((x.natAbs:Nat):Int)=((grt (xs.take (i + 1)):Nat):Int):=by rw [hgt]; omega
       simp (disch:=omega) only [go_sem,↓cB,r3,hmx,r16]
       exact fin ⟨xs.length - (i + 1),by omega,i + 1,rfl,by omega,by simp (disch:=omega) only [go_sem,↓cB,r8,r9,r10,r14,r15,r16,r3,rd,hi1],rfl⟩
      | false =>
       rw [hl,J4 (by simp)] at hgt
       rw [<- hgt] at r3
       simp (disch:=omega) only [go_sem,↓cB,r3,r16]
       exact fin ⟨xs.length - (i + 1),by omega,i + 1,rfl,by omega,by simp (disch:=omega) only [go_sem,↓cB,r8,r9,r10,r14,r15,r16,r3,rd,hi1],rfl⟩
   ·rintro U H1 ⟨⟨r8,r9,r10,r3,rd⟩,e⟩
    subst H1
    simp (disch:=omega) only [go_sem,↓cB,r8,r9,r10,r3,rd]
    exact fin ⟨0,by omega,1,rfl,by omega,by simp (disch:=omega) only [go_sem,↓cB,r8,r9,r10,r3,rd]; rfl,rfl⟩
theorem NF.cn {xs ys:List Int} {idle:Bool} (h:NF xs ys idle) (hl:xs.all AE=true) (hg:grt xs<=n):CN n ys:=by
 rw [Jo] at hl
 refine ⟨fun x hx=>?_,h.str⟩
 have hm:=(h.mem x).1 hx
 exact ⟨Ci (hl x hm),Gh.1 hg x hm (hl x hm)⟩
theorem Q3 (h:SV H ow p n k f) {a:Option Addr} {xs:List Int} {c:Nat} (hx:Rn H a xs) (hlen:xs.length<=1000) (hgl:f.gl.length<=30000) :
  CallF Tryz.prog 7 [hp p,.slice a xs.length c] H (fun v H'=>(¬ (xs.all AE=true/\grt xs<=n)/\v=iv 2/\Fr [] H H')\/(xs.all AE=true/\grt xs<=n/\v=iv 0/\∃ ow' f' ys idle,SV H' ow' p n k f'/\Ex H ow H' ow'/\NF xs ys idle/\f'.gl=f.gl ++ [ys]/\f'.loaded=f.loaded/\f'.dead=f.dead/\f'.rounds=f.rounds/\f'.ls=f.ls/\∀ u,Bd f u->Bd f' u)) NoP:=by
 have hm:=h.sd.sb.m
 have hn:=h.sd.sb.n
 have c0:A5 H ⟨p,0,none⟩=some (iv n):=hm.c 0
 have b1:∀ (Hx:A3) (a':Option Addr) (l' c':Nat),buildSliceV Tryz.prog Hx 22 1 [(0,.slice a' l' c')]=some (.slice (some ⟨Hx.size,0,none⟩) 1 1,Hx.push (.cells #[.slice a' l' c'] 23)):=fun Hx a' l' c'=>Fi T.xu T.xm T.ym rfl
 obtain ⟨hl,hhl⟩:∃ hl:List (Addr × Value),hl = [(⟨p,0,none⟩,iv n)]:=⟨_,rfl⟩
 have hok:Al hl H:=by rw [hhl]; exact B5 c0
 have l0:Ak hl ⟨p,0,none⟩=some (iv n):=by rw [hhl]; exact Ni
 obtain ⟨ga,gc,eg⟩:=hm.given.form
 have hng:=hm.ng
 have c1:A5 H ⟨p,1,none⟩=some (.slice ga f.gs.length gc):=by rw [<- eg]; exact hm.c 1
 refine A9 Tryz.func7 rfl Tryz.ntmps7 Tryz.results7 (by decide) rfl ?_
 simp (disch:=omega) only [go_sem,↓cB]
 refine Fc (lk [tl 0] (.act 1 (lk [tl 2,tl 3,tl 4,fl 7,fl 8,fl 9,fl 10] (.act 5 (.act 6 (lk [tl 11,tl 12] .fin) .non) .non)) .non)) T.mixed hl hok ?_
 simp (disch:=omega) only [go_sem,↓cB,l0]
 refine A7 (Ff hx (by omega)) ?_
 rintro v H1 ⟨rfl,e⟩
 subst H1
 refine B9 hok ?_
 cases hall:xs.all AE with
 | false =>
  simp (disch:=omega) only [go_sem,↓cB,l0]
  refine B9 hok ?_
  simp (disch:=omega) only [go_sem,↓cB,l0]
  refine B9 hok ?_
  simp (disch:=omega) only [go_sem,↓cB,l0]
  exact fin (.inl ⟨by simp,rfl,Fr.refl _ _⟩)
 | true =>
  obtain ⟨H1,hH1⟩:∃ H1,H.push (.cells #[.slice a xs.length c] 23)=H1:=⟨_,rfl⟩
  have f1:Fr [] H H1:=by rw [<- hH1]; exact Fr.push
  have k1:A5 H1 ⟨H.size,0,none⟩=some (.slice a xs.length c):=by
   have:Blk H1 H.size 23 [.slice a xs.length c]:=by rw [<- hH1]; exact Blk.new rfl
   rw [this.cell]; rfl
  have m1:=hm.out f1 (by simp)
  have x1:=hx.frame f1 (by simp)
  have hok1:Al hl H1:=by rw [hhl]; exact B5 (m1.c 0)
  simp (disch:=omega) only [go_sem,↓cB,l0,b1]
  rw [hH1]
  refine B9 hok1 ?_
  simp (disch:=omega) only [go_sem,↓cB,l0]
  refine A7 (Fg (c:=1) k1 x1 (by omega)) ?_
  rintro v H2 ⟨rfl,e⟩
  subst H2
  refine B9 hok1 ?_
  by_cases hg:grt xs<=n
  ·have c1':A5 H1 ⟨p,1,none⟩=some (.slice ga f.gs.length gc):=by rw [<- eg]; exact m1.c 1
   simp (disch:=omega) only [go_sem,↓cB,l0,c1']
   refine A7 (CB x1 (Jo.1 hall) (by omega)) ?_
   rintro v H2 ⟨f2,w,ys,idle,rfl,v2,o2,hnf⟩
   have m2:=m1.out f2 (by simp)
   have e02:Ex H ow H2 ow:=(Ex.of (Sm.of (R:=fun _=>False) f1 (by simp)) (by simp):Ex H ow H1 ow).trans (Ex.of (Sm.of (R:=fun _=>False) f2 (by simp)) (by simp))
   have c1'':A5 H2 ⟨p,1,none⟩=some (.slice ga f.gs.length gc):=by rw [<- eg]; exact m2.c 1
   obtain ⟨wa,wc,ew⟩:∃ a c,w=.slice a ys.length c:=by
    obtain ⟨a,len,c,rfl,e⟩:=v2.len
    rw [Jm,Jy] at e; subst e
    exact ⟨a,c,rfl⟩
   subst ew
   obtain ⟨ow3,how3⟩:∃ ow3:Nat->Nat,∀ b,ow3 b=if b ∈ own (Value.slice wa ys.length wc) then 17 else ow b:=⟨_,fun _=>rfl⟩
   have hz:∀ b ∈ own (Value.slice wa ys.length wc),ow b=0:=fun b hb=>m1.free (o2 b hb)
   have m3:=m2.xe (ow':=ow3) (fun b hb=>by
    rw [how3,J4 (fun e=>hb (hz b e))]) (fun b hb=>by
    rw [how3] at hb
    split at hb
    ·exact v2.lt b ‹_›
    ·exact m2.lo b hb)
   have e03:Ex H ow H2 ow3:=e02.jk (fun b hb=>by
    have hb':b ∉ own (Value.slice wa ys.length wc):=fun e=>by have h2:H1.size<=b:=o2 b e; have:=f1.size; omega
    rw [how3,J4 hb'])
   have v3:VR H2 ow3 17 3 1 (.slice wa ys.length wc) (ys.map iv):=⟨v2,fun b hb=>by rw [how3,J8 hb]⟩
   simp (disch:=omega) only [go_sem,↓cB,c1'',b1]
   refine AK T.qe rfl (by rw [<- eg]; exact m3.given.vec) rfl (by omega) ?_
   intro v' H4 g1 g2 g3 g4
   obtain ⟨a',c',rfl⟩:=g4
   rw [<- eg] at g2 g3
   have hgg:∀ (i:Nat) (v:Value) (q:List Int),(f.gs ++ [.slice wa ys.length wc])[i]?=some v->(f.gl ++ [ys])[i]?=some q->VR H2 ow3 17 3 1 v (q.map iv):=by
    intro i v q h1 h2
    rcases Zg i f.gs.length with hlt | he | hgt
    ·rw [Jg hlt] at h1
     rw [Jg (by omega)] at h2
     exact m3.gcl i v q h1 h2
    ·subst he
     rw [Jf (Jb _),Yf] at h1
     rw [hng,Jf (Jb _),Yf] at h2
     have e1:=Jj h1
     have e2:=Jj h2
     subst e1; subst e2
     exact v3
    ·rw [Jp (by simp; omega)] at h1; cases h1
   obtain ⟨m4,e4,b4⟩:=m3.pw (l:=f.gs ++ [.slice wa ys.length wc]) (gg:=f.gl ++ [ys]) hgg (by simp [hng]) g1 g2 g3
   have w4:=b4.wr (i:=1) (by simp [CZ]) (.slice a' (f.gs.length + 1) c')
   obtain ⟨H5,w5,(m5:RM _ _ _ _ _ _),e5⟩:=m4.we (.slice none 0 0)
   obtain ⟨H6,w6,(m6:RM _ _ _ _ _ _),e6⟩:=m5.ug (.slice none 0 0)
   simp (disch:=omega) only [go_sem,↓cB,w4,w5,w6]
   refine fin (.inr ⟨rfl,hg,rfl,_,_,ys,idle,⟨⟨⟨m6,⟨h.sd.sb.r.vals,h.sd.sb.r.lv⟩,h.sd.sb.inv,h.sd.sb.wi,h.sd.sb.le,h.sd.sb.hin,h.sd.sb.sn,h.sd.sb.stp,h.sd.sb.n⟩,h.sd.st,fun hd=>?_,fun hd=>?_⟩,?_,?_⟩,((e03.trans e4).trans e5).trans e6,hnf,rfl,rfl,rfl,rfl,rfl,fun u hb=>⟨hb.conf,hb.lrn,hb.ls,hb.C,hb.room,hb.rd⟩⟩)
   ·show SI n f.s f.C f.w (AW ((f.gl ++ [ys]).take f.loaded)) f.head
    rw [X6 h.ld]; exact h.sd.ok hd
   ·show ∀ T,¬ Clo T (AW ((f.gl ++ [ys]).take f.loaded))
    rw [X6 h.ld]; exact h.sd.no hd
   ·intro z hz
    rcases Jh.1 (show z ∈ f.gl ++ [ys] from hz) with hz | hz
    ·exact h.cn z hz
    ·have:=J6.1 hz; subst this
     exact hnf.cn hall hg
   ·show f.loaded<=(f.gl ++ [ys]).length
    have:=h.ld
    simp; omega
  ·simp (disch:=omega) only [go_sem,↓cB,l0]
   exact fin (.inl ⟨fun e=>hg e.2,rfl,f1⟩)
end
section
variable {H:A3}
theorem FL {x:Int}:CallF Tryz.prog 46 [iv x] H (fun v H'=>v=.bool (AE x)/\H'=H) NoP:=by
 unfold AE;refine A9 Tryz.func46 rfl Tryz.ntmps46 Tryz.results46 (by decide) rfl ?_;by_cases h0:x=0
 ·subst h0;simp (disch:=omega) only [go_sem,↓cB];exact fin ⟨by simp,rfl⟩
 ·by_cases h1:-100000<=x
  ·by_cases h2:x<=100000
   ·simp (disch:=omega) only [go_sem,↓cB];exact fin ⟨by simp [h0,h1,h2],rfl⟩
   ·simp (disch:=omega) only [go_sem,↓cB];exact fin ⟨by simp [h0,h1,h2],rfl⟩
  ·simp (disch:=omega) only [go_sem,↓cB];exact fin ⟨by simp [h0,h1],rfl⟩
theorem Hq {x:Int} (hx:-100000<=x/\x<=100000):CallF Tryz.prog 47 [iv x] H (fun v H'=>v=iv (x.natAbs:Nat)/\H'=H) NoP:=by
 refine A9 Tryz.func47 rfl Tryz.ntmps47 Tryz.results47 (by decide) rfl ?_;by_cases h:x < 0
 ·simp (disch:=omega) only [go_sem,↓cB];exact fin ⟨by rw [show ((x.natAbs:Nat):Int) = -x by omega],rfl⟩
 ·simp (disch:=omega) only [go_sem,↓cB];exact fin ⟨by rw [show ((x.natAbs:Nat):Int)=x by omega],rfl⟩
theorem CE {a:Option Addr} {xs:List Int} {c:Nat} (hx:Rn H a xs) (hlen:xs.length<=1000000):CallF Tryz.prog 70 [.slice a xs.length c] H (fun v H'=>v=.bool (xs.all AE)/\H'=H) NoP:=by
 refine A9 Tryz.func70 rfl Tryz.ntmps70 Tryz.results70 (by decide) rfl ?_;simp (disch:=omega) only [go_sem,↓cB];refine Ae (fun j U H1=>∃ i:Nat,j=xs.length - i/\i<=xs.length/\(U.get 0=.slice a xs.length c/\U.get 3=iv i/\U.ds = [])/\H1=H/\(xs.take i).all AE=true) (k:=xs.length) ?_ ?_
 ·exact ⟨0,rfl,by omega,by simp (disch:=omega) only [go_sem,↓cB],rfl,by simp⟩
 ·rintro _ U H1 ⟨i,rfl,hi,⟨r0,r3,rd⟩,e,hall⟩;subst H1;by_cases hie:i=xs.length
  ·subst hie;rw [Jr] at hall;simp (disch:=omega) only [go_sem,↓cB,r0,r3,rd];exact fin ⟨by rw [hall],rfl⟩
  ·obtain ⟨x,hxi⟩:∃ x,xs[i]?=some x:=⟨_,J1 (by omega)⟩;obtain ⟨b',o',e,kx⟩:=hx i x hxi;subst e;have hi1:(i:Int) + 1=((i + 1:Nat):Int):=(by omega);have htk:xs.take (i + 1)=xs.take i ++ [x]:=(by rw [Jl,hxi]; rfl);simp (disch:=omega) only [go_sem,↓cB,r0,r3,rd,kx];refine A7 FL ?_;rintro v H2 ⟨rfl,e⟩;subst H2;cases hl:AE x with
   | true =>
    simp (disch:=omega) only [go_sem,↓cB,r3];exact fin ⟨xs.length - (i + 1),by omega,i + 1,rfl,by omega,by simp (disch:=omega) only [go_sem,↓cB,r0,r3,rd,hi1],rfl,by rw [htk,Wm,hall]; simp [hl]⟩
   | false =>
    simp (disch:=omega) only [go_sem,↓cB,r3,rd];refine fin ⟨?_,rfl⟩;have:xs.all AE=false:=by
     rw [Wa];exact ⟨x,J2 hxi,by simp [hl]⟩
    rw [this]
structure RL (N:Nat) (H:A3) (a:Option Addr) (css:List (List Int)):Prop where
 ex:∀ (i:Nat) (c:List Int),css[i]?=some c->∃ b o ra rc,a=some ⟨b,o,none⟩/\b < N/\A5 H ⟨b,o + i,none⟩=some (.slice ra c.length rc)/\Rn H ra c/\(c ≠ []->∀ b' o',ra=some ⟨b',o',none⟩->b' < N)
theorem Ec {H':A3} {b o:Nat} {v:Value} (hs:H'[b]?=H[b]?) (h:A5 H ⟨b,o,none⟩=some v):A5 H' ⟨b,o,none⟩=some v:=by
 unfold A5 at h ⊢;rw [hs]; exact h
theorem Rn.same {H':A3} {N:Nat} {a:Option Addr} {xs:List Int} (h:Rn H a xs) (hN:xs ≠ []->∀ b o,a=some ⟨b,o,none⟩->b < N) (hs:∀ b,b < N->H'[b]?=H[b]?):Rn H' a xs:=fun i x hi=>by
 obtain ⟨b,o,e,hc⟩:=h i x hi;exact ⟨b,o,e,Ec (hs b (hN (fun e0=>by rw [e0] at hi; simp at hi) b o e)) hc⟩
theorem RL.same {H':A3} {N:Nat} {a:Option Addr} {css:List (List Int)} (h:RL N H a css) (hs:∀ b,b < N->H'[b]?=H[b]?):RL N H' a css:=⟨fun i c hi=>by
 obtain ⟨b,o,ra,rc,e,hb,hc,hr,hn⟩:=h.ex i c hi
 exact ⟨b,o,ra,rc,e,hb,Ec (hs b hb) hc,hr.same hn hs,hn⟩⟩
theorem JH {b o c:Nat} {ra:Option Addr} {xs:List Int} {rc:Nat} (hb:A5 H ⟨b,o,none⟩=some (.slice ra xs.length rc)) (hx:Rn H ra xs) (hlen:xs.length<=1000000) :
  CallF Tryz.prog 17 [.slice (some ⟨b,o,none⟩) 1 c] H (fun v H'=>v=iv (grt xs:Nat)/\H'=H) NoP:=by
 have hb':A5 H ⟨b,o + 0,none⟩=some (.slice ra xs.length rc):=hb
 refine A9 Tryz.func17 rfl Tryz.ntmps17 Tryz.results17 (by decide) rfl ?_
 simp (disch:=omega) only [go_sem,↓cB]
 refine Ae (fun j U H1=>∃ i:Nat,j=1 - i/\i<=1/\(U.get 0=.slice (some ⟨b,o,none⟩) 1 c/\U.get 4=iv i/\U.get 3=iv ((if i=0 then 0 else grt xs:Nat):Int)/\U.ds = [])/\H1=H) (k:=1) ?_ ?_
 ·exact ⟨0,rfl,by omega,by simp (disch:=omega) only [go_sem,↓cB],rfl⟩
 ·rintro _ U H1 ⟨i,rfl,hi,⟨r0,r4,r3,rd⟩,e⟩
  subst H1
  by_cases h1:i=1
  ·subst h1
   have r4':U.get 4=iv 1:=r4
   simp (disch:=omega) only [go_sem,↓cB,r0,r4',r3,rd]
   exact fin ⟨rfl,rfl⟩
  ·have h0:i=0:=by omega
   subst h0
   rw [J8 rfl] at r3
   have r4':U.get 4=iv 0:=r4
   have r3':U.get 3=iv 0:=r3
   simp (disch:=omega) only [go_sem,r0,r4',r3',hb,hb']
   refine Bp (fun U H1=>(U.get 0=.slice (some ⟨b,o,none⟩) 1 c/\U.get 4=iv 0/\U.get 3=iv (grt xs:Nat)/\U.ds = [])/\H1=H) ?_ ?_
   ·simp (disch:=omega) only [go_sem,↓cB,r0,r4',r3',hb,hb']
    refine Ae (fun j U H1=>∃ i:Nat,j=xs.length - i/\i<=xs.length/\(U.get 0=.slice (some ⟨b,o,none⟩) 1 c/\U.get 4=iv 0/\U.get 5=iv i/\U.get 3=iv (grt (xs.take i):Nat)/\U.ds = [])/\H1=H) (k:=xs.length) ?_ ?_
    ·exact ⟨0,rfl,by omega,by simp (disch:=omega) only [go_sem,↓cB,r0,r4',r3',rd]; rfl,rfl⟩
    ·rintro _ U H1 ⟨i,rfl,hi,⟨r0,r4,r5,r3,rd⟩,e⟩
     subst H1
     by_cases hie:i=xs.length
     ·subst hie
      rw [Jr] at r3
      simp (disch:=omega) only [go_sem,↓cB,r0,r4,r5,r3,rd,hb,hb']
      exact fin ⟨by simp (disch:=omega) only [go_sem,↓cB,r0,r4,r5,r3,rd],rfl⟩
     ·obtain ⟨x,hxi⟩:∃ x,xs[i]?=some x:=⟨_,J1 (by omega)⟩
      obtain ⟨b',o',e,kx⟩:=hx i x hxi
      subst e
      have hi1:(i:Int) + 1=((i + 1:Nat):Int):=by omega
      have htk:xs.take (i + 1)=xs.take i ++ [x]:=by rw [Jl,hxi]; rfl
      have hgt:=Mc (l:=xs.take i) (x:=x)
      rw [<- htk] at hgt
      simp (disch:=omega) only [go_sem,↓cB,r0,r4,r5,r3,rd,hb,hb',kx]
      refine A7 FL ?_
      rintro v H2 ⟨rfl,e⟩
      subst H2
      cases hl:AE x with
      | true =>
       rw [hl,J8 rfl] at hgt;simp (disch:=omega) only [go_sem,↓cB,r0,r4,r5,r3,rd,hb,hb',kx];refine A7 (Hq (CP hl)) ?_;rintro v H2 ⟨rfl,e⟩;subst H2;by_cases hgx:grt (xs.take i) < x.natAbs
       ·simp (disch:=omega) only [go_sem,↓cB,r0,r4,r5,r3,rd,hb,hb',kx];refine A7 (Hq (CP hl)) ?_;rintro v H2 ⟨rfl,e⟩;subst H2;have hmx:((x.natAbs:Nat):Int)=((grt (xs.take (i + 1)):Nat):Int):=(by rw [hgt]; omega);simp (disch:=omega) only [go_sem,↓cB,r0,r4,r5,r3,rd];exact fin ⟨xs.length - (i + 1),by omega,i + 1,rfl,by omega,by simp (disch:=omega) only [go_sem,↓cB,r0,r4,r5,r3,rd,hi1,hmx],rfl⟩
       ·have hmx:((grt (xs.take i):Nat):Int)=((grt (xs.take (i + 1)):Nat):Int):=(by rw [hgt]; omega);rw [hmx] at r3;have hgx':¬ ((grt (xs.take (i + 1)):Nat):Int) < ((x.natAbs:Nat):Int):=(by omega);simp (disch:=omega) only [go_sem,↓cB,r0,r4,r5,r3,rd,hb,hb',kx];exact fin ⟨xs.length - (i + 1),by omega,i + 1,rfl,by omega,by simp (disch:=omega) only [go_sem,↓cB,r0,r4,r5,r3,rd,hi1],rfl⟩
      | false =>
       rw [hl,J4 (by simp)] at hgt;rw [<- hgt] at r3;simp (disch:=omega) only [go_sem,↓cB,r0,r4,r5,r3,rd];exact fin ⟨xs.length - (i + 1),by omega,i + 1,rfl,by omega,by simp (disch:=omega) only [go_sem,↓cB,r0,r4,r5,r3,rd,hi1],rfl⟩
   ·rintro U H1 ⟨⟨r0,r4,r3,rd⟩,e⟩
    subst H1
    simp (disch:=omega) only [go_sem,↓cB,r0,r4,r3,rd]
    exact fin ⟨0,by omega,1,rfl,by omega,by simp (disch:=omega) only [go_sem,↓cB,r0,r4,r3,rd]; rfl,rfl⟩
end
section
variable {H:A3} {N n:Nat}
def Eh (css:List (List Int)) (most vars:Nat):Bool:=decide (css.length<=most) && css.all fun r=>decide (r.length<=30) && decide (grt r<=vars)
theorem MW {a:Option Addr} {css:List (List Int)} {c most vars:Nat} (hx:RL N H a css) (hcap:css.length<=c) (hm:most<=1000) (hv:vars<=100000) (hbig:css.length<=9223372036854775807) (hrb:∀ r ∈ css,r.length<=9223372036854775807) :
  CallF Tryz.prog 5 [.slice a css.length c,iv most,iv vars] H (fun v H'=>v=.bool (Eh css most vars)/\H'=H) NoP:=by
 refine A9 Tryz.func5 rfl Tryz.ntmps5 Tryz.results5 (by decide) rfl ?_
 by_cases hlen:css.length<=most
 ·simp (disch:=omega) only [go_sem,↓cB]
  refine Ae (fun j U H1=>∃ i:Nat,j=css.length - i/\i<=css.length/\(U.get 0=.slice a css.length c/\U.get 2=iv vars/\U.get 7=iv i/\U.ds = [])/\H1=H/\((css.take i).all fun r=>decide (r.length<=30) && decide (grt r<=vars))=true) (k:=css.length) ?_ ?_
  ·exact ⟨0,rfl,by omega,by simp (disch:=omega) only [go_sem,↓cB],rfl,by simp⟩
  ·rintro _ U H1 ⟨i,rfl,hi,⟨r0,r2,r7,rd⟩,e,hall⟩
   subst H1
   by_cases hie:i=css.length
   ·subst hie
    rw [Jr] at hall
    simp (disch:=omega) only [go_sem,↓cB,r0,r2,r7,rd]
    exact fin ⟨by unfold Eh; rw [hall]; simp [hlen],rfl⟩
   ·obtain ⟨x,hxi⟩:∃ x,css[i]?=some x:=⟨_,J1 (by omega)⟩
    obtain ⟨b',o',ra,rc,e,-,kx,hr,-⟩:=hx.ex i x hxi
    subst e
    have hi1:(i:Int) + 1=((i + 1:Nat):Int):=by omega
    have htk:css.take (i + 1)=css.take i ++ [x]:=by rw [Jl,hxi]; rfl
    have hci:¬ c=i:=by omega
    have hsub:i + 1 - i=1:=by omega
    have hrl:=hrb x (J2 hxi)
    by_cases hx30:x.length<=30
    ·simp (disch:=omega) only [go_sem,↓cB,r0,r2,r7,rd,kx,hi1]
     rw [J4 hci,hsub]
     refine A7 (JH kx hr (by omega)) ?_
     rintro v H2 ⟨rfl,e⟩
     subst H2
     by_cases hg:grt x<=vars
     ·simp (disch:=omega) only [go_sem,↓cB,r0,r2,r7,rd,hi1]
      exact fin ⟨css.length - (i + 1),by omega,i + 1,rfl,by omega,by simp (disch:=omega) only [go_sem,↓cB,r0,r2,r7,rd,hi1],rfl,by rw [htk,Wm,hall]; simp [hx30,hg]⟩
     ·simp (disch:=omega) only [go_sem,↓cB,r0,r2,r7,rd,hi1]
      refine fin ⟨?_,rfl⟩
      have:Eh css most vars=false:=by
       unfold Eh;rw [Bool.and_eq_false_iff];right;rw [Wa];exact ⟨x,J2 hxi,by simp [hg]⟩
      rw [this]
    ·simp (disch:=omega) only [go_sem,↓cB,r0,r2,r7,rd,kx]
     refine fin ⟨?_,rfl⟩
     have:Eh css most vars=false:=by
      unfold Eh;rw [Bool.and_eq_false_iff];right;rw [Wa];exact ⟨x,J2 hxi,by simp [hx30]⟩
     rw [this]
 ·simp (disch:=omega) only [go_sem,↓cB]
  exact fin ⟨by unfold Eh; simp [hlen],rfl⟩
end
section
variable {H:A3} {ow:Nat->Nat} {p n:Nat} {k:Bk} {f:Cf}
theorem JB (h:RM H ow p n k f) {ys:List Int} (hv:Vec H 3 1 f.core (ys.map iv)) (hl:ys.length<=1000000):CallF Tryz.prog 9 [hp p] H (fun v H'=>Fr [] H H'/\Vec H' 3 1 v (ys.map iv)/\∀ b ∈ own v,H.size<=b) NoP:=by
 have c6:A5 H ⟨p,6,none⟩=some f.core:=h.c 6;obtain ⟨a,len,c,e,-⟩:=hv.len;rw [e] at c6;refine A9 Tryz.func9 rfl Tryz.ntmps9 Tryz.results9 (by decide) rfl ?_;simp (disch:=omega) only [go_sem,↓cB,c6];rw [<- e];refine A7 (DH hv (by simp [Cb]) (by rw [Jm]; exact hl)) ?_;rintro v H1 ⟨f1,v1,o1⟩;simp (disch:=omega) only [go_sem,↓cB];exact fin ⟨f1,v1,o1⟩
end
section
variable {H:A3} {ow:Nat->Nat} {p n:Nat} {k:Bk} {f:Cf}
end
end Go.Proofs.YtkdlmdmlomgdiaaGreat
namespace Go.Sat
section
variable {n:Nat} {s:St} {C:List Nat} {w:Nat->List Nat} {G:List (List Nat)} {head:Nat}
end
end Go.Sat
namespace Go.Proofs.YtkdlmdmlomgdiaaGreat
open Go.HL HM Go.Sat
section
variable {s:St} {C:List Nat} {w:Nat->List Nat} {head:Nat} {css gl:List (List Int)}
end
section
variable {H:A3}
theorem SV.out {ow:Nat->Nat} {p n:Nat} {k:Bk} {f:Cf} {H':A3} (h:SV H ow p n k f) (hf:Fr [] H H'):SV H' ow p n k f :=
 ⟨⟨⟨h.sd.sb.m.out hf (by simp),h.sd.sb.r,h.sd.sb.inv,h.sd.sb.wi,h.sd.sb.le,h.sd.sb.hin,h.sd.sb.sn,h.sd.sb.stp,h.sd.sb.n⟩,h.sd.st,h.sd.ok,h.sd.no⟩,h.cn,h.ld⟩
theorem j2r {H1 H2:A3} {ow:Nat->Nat} {ow':Nat->Nat} (h1:Fr [] H H1) (ho:∀ b,b < H.size->ow b=0) (e:Ex H1 ow H2 ow'):Fr [] H H2/\∀ b,b < H.size->ow' b=0:=by
 have:=h1.size;exact ⟨⟨Js h1.size e.sm.size,fun b hb _=>by rw [e.fr (by omega) (ho b hb)]; exact h1.same b hb (by simp)⟩,fun b hb=>by rw [e.ow b (by omega)]; exact ho b hb⟩
end
section
variable {H:A3}
theorem Db {x:Int} {a:Option Addr} {xs:List Int} {c:Nat} (hx:Rn H a xs) (hlen:xs.length<=1000000):CallF Tryz.prog 218 [iv x,.slice a xs.length c] H (fun v H'=>v=.bool (decide (x ∈ xs))/\H'=H) NoP:=by
 refine A9 Tryz.func218 rfl Tryz.ntmps218 Tryz.results218 (by decide) rfl ?_;simp (disch:=omega) only [go_sem,↓cB];refine Ae (fun j U H1=>∃ i:Nat,j=xs.length - i/\i<=xs.length/\(U.get 0=iv x/\U.get 1=.slice a xs.length c/\U.get 5=iv i/\U.ds = [])/\H1=H/\x ∉ xs.take i) (k:=xs.length) ?_ ?_
 ·exact ⟨0,rfl,by omega,by simp (disch:=omega) only [go_sem,↓cB],rfl,by simp⟩
 ·rintro _ U H1 ⟨i,rfl,hi,⟨r0,r1,r5,rd⟩,e,hno⟩;subst H1;by_cases hie:i=xs.length
  ·subst hie;rw [Jr] at hno;simp (disch:=omega) only [go_sem,↓cB,r0,r1,r5,rd];exact fin ⟨by simp [hno],rfl⟩
  ·obtain ⟨y,hyi⟩:∃ y,xs[i]?=some y:=⟨_,J1 (by omega)⟩;obtain ⟨b',o',e,ky⟩:=hx i y hyi;subst e;have hi1:(i:Int) + 1=((i + 1:Nat):Int):=(by omega);have htk:xs.take (i + 1)=xs.take i ++ [y]:=(by rw [Jl,hyi]; rfl);by_cases he:y=x
   ·subst he;simp (disch:=omega) only [go_sem,↓cB,r0,r1,r5,rd,ky];exact fin ⟨by simp [J2 hyi],rfl⟩
   ·simp (disch:=omega) only [go_sem,↓cB,r0,r1,r5,rd,ky];exact fin ⟨xs.length - (i + 1),by omega,i + 1,rfl,by omega,by simp (disch:=omega) only [go_sem,↓cB,r0,r1,r5,rd,hi1],rfl,by rw [htk]; simp [hno,Ne.symm he]⟩
theorem UA {Hx:A3} {x:Int}:buildSliceV Tryz.prog Hx 23 1 [(0,iv x)]=some (.slice (some ⟨Hx.size,0,none⟩) 1 1,Hx.push (.cells #[iv x] 3)):=Fi T.vd T.te T.xv rfl
theorem Oi {a a':Option Addr} {xs ys:List Int} {c c':Nat} (hx:Rn H a xs) (hy:Rn H a' ys) (hlen:xs.length<=1000000) (hlen2:ys.length<=1000000):CallF Tryz.prog 143 [.slice a xs.length c,.slice a' ys.length c'] H (fun v H'=>v=.bool (decide (xs=ys))/\H'=H) NoP:=by
 refine A9 Tryz.func143 rfl Tryz.ntmps143 Tryz.results143 (by decide) rfl ?_;by_cases hl:xs.length=ys.length
 ·rw [<- hl];simp (disch:=omega) only [go_sem,↓cB];refine Ae (fun j U H1=>∃ i:Nat,j=xs.length - i/\i<=xs.length/\(U.get 0=.slice a xs.length c/\U.get 1=.slice a' xs.length c'/\U.get 5=iv i/\U.ds = [])/\H1=H/\xs.take i=ys.take i) (k:=xs.length) ?_ ?_
  ·exact ⟨0,rfl,by omega,by simp (disch:=omega) only [go_sem,↓cB],rfl,by simp⟩
  ·rintro _ U H1 ⟨i,rfl,hi,⟨r0,r1,r5,rd⟩,e,heq⟩;subst H1;by_cases hie:i=xs.length
   ·subst hie;rw [Jr,hl,Jr] at heq;simp (disch:=omega) only [go_sem,↓cB,r0,r1,r5,rd];exact fin ⟨by simp [heq],rfl⟩
   ·obtain ⟨x,hxi⟩:∃ x,xs[i]?=some x:=⟨_,J1 (by omega)⟩;obtain ⟨y,hyi⟩:∃ y,ys[i]?=some y:=⟨_,J1 (by omega)⟩;obtain ⟨b,o,e,kx⟩:=hx i x hxi;subst e;obtain ⟨b',o',e,ky⟩:=hy i y hyi;subst e;have hi1:(i:Int) + 1=((i + 1:Nat):Int):=(by omega);by_cases he:x=y
    ·subst he;simp (disch:=omega) only [go_sem,↓cB,r0,r1,r5,rd];refine As (lk [tl 0,tl 1,tl 2,tl 3,tl 4,tl 5,tl 6,tl 7,tl 8] .fin) T.mixed ?_;simp (disch:=omega) only [go_sem,↓cB,r0,r1,r5,rd,kx,ky];exact fin ⟨xs.length - (i + 1),by omega,i + 1,rfl,by omega,by simp (disch:=omega) only [go_sem,↓cB,r0,r1,r5,rd,hi1],rfl,by rw [Jl,Jl,heq,hxi,hyi]⟩
    ·have hne:xs ≠ ys:=fun e=>(by rw [e,hyi] at hxi; exact he (Jj hxi).symm);simp (disch:=omega) only [go_sem,↓cB,r0,r1,r5,rd];refine As (lk [tl 0,tl 1,tl 2,tl 3,tl 4,tl 5,tl 6,tl 7,tl 8] .fin) T.mixed ?_;simp (disch:=omega) only [go_sem,↓cB,r0,r1,r5,rd,kx,ky];exact fin ⟨by simp [hne],rfl⟩
 ·have hne:xs ≠ ys:=fun e=>hl (by rw [e]);simp (disch:=omega) only [go_sem,↓cB];exact fin ⟨by simp [hne],rfl⟩
end
def LV (xs:List Int) (last v:Nat):Prop:=(v=0/\∀ x ∈ xs,x.natAbs<=last)\/(last < v/\(∃ x ∈ xs,x.natAbs=v)/\∀ x ∈ xs,last < x.natAbs->v<=x.natAbs)
theorem LV.nil {last:Nat}:LV [] last 0:=.inl ⟨rfl,by simp⟩
theorem LV.low {xs:List Int} {last v:Nat} {x:Int} (h:LV xs last v) (hx:x.natAbs<=last):LV (xs ++ [x]) last v:=by
 rcases h with ⟨h1,h2⟩ | ⟨h1,⟨y,hy,h2⟩,h3⟩
 ·exact .inl ⟨h1,fun y hy=>(Jh.1 hy).elim (h2 y) (fun e=>by rw [J6.1 e]; exact hx)⟩
 ·exact .inr ⟨h1,⟨y,by simp [hy],h2⟩,fun z hz hl=>(Jh.1 hz).elim (fun e=>h3 z e hl) (fun e=>by rw [J6.1 e] at hl; omega)⟩
theorem LV.new {xs:List Int} {last v:Nat} {x:Int} (h:LV xs last v) (hx:last < x.natAbs) (hv:v=0\/x.natAbs < v):LV (xs ++ [x]) last x.natAbs:=by
 refine .inr ⟨hx,⟨x,by simp,rfl⟩,fun z hz hl=>?_⟩;rcases Jh.1 hz with hz | hz
 ·rcases h with ⟨h1,h2⟩ | ⟨h1,-,h3⟩
  ·have:=h2 z hz; omega
  ·have:=h3 z hz hl; omega
 ·rw [J6.1 hz]; exact Jb _
theorem LV.keep {xs:List Int} {last v:Nat} {x:Int} (h:LV xs last v) (hv0:v ≠ 0) (hx:v<=x.natAbs):LV (xs ++ [x]) last v:=by
 rcases h with ⟨h1,h2⟩ | ⟨h1,⟨y,hy,h2⟩,h3⟩
 ·exact absurd h1 hv0
 ·exact .inr ⟨h1,⟨y,by simp [hy],h2⟩,fun z hz hl=>(Jh.1 hz).elim (fun e=>h3 z e hl) (fun e=>by rw [J6.1 e]; exact hx)⟩
structure NR (xs:List Int) (last:Nat) (zs:List Int) (idle:Bool):Prop where
 str:zs.Pairwise ltN
 mem:∀ x,x ∈ zs↔x ∈ xs/\x.natAbs<=last
 idle:idle=true↔∃ x ∈ zs,-x ∈ zs
 len:zs.length<=2 * last
theorem NR.zero {xs:List Int} (h0:∀ x ∈ xs,x ≠ 0):NR xs 0 [] false :=
 ⟨by simp,fun x=>⟨fun h=>by simp at h,fun ⟨h1,h2⟩=>by have:=h0 x h1; omega⟩,by simp,by simp⟩
theorem NR.step {xs:List Int} {last v:Nat} {zs:List Int} {idle:Bool} (h:NR xs last zs idle) (hv:LV xs last v) (hv0:v ≠ 0) :
  NR xs v (zs ++ (if (v:Int) ∈ xs then [(v:Int)] else []) ++ (if -(v:Int) ∈ xs then [-(v:Int)] else [])) (idle || (decide ((v:Int) ∈ xs) && decide (-(v:Int) ∈ xs))):=by
 obtain ⟨h1,⟨y,hy,hyv⟩,h3⟩:=hv.resolve_left fun e=>hv0 e.1
 have hlow:∀ x ∈ zs,x.natAbs<=last:=fun x hx=>((h.mem x).1 hx).2
 have hmem:∀ x,x ∈ (zs ++ (if (v:Int) ∈ xs then [(v:Int)] else []) ++ (if -(v:Int) ∈ xs then [-(v:Int)] else []))↔x ∈ xs/\x.natAbs<=v:=by
  intro x;rw [Jh,Jh,h.mem];constructor
  ·rintro ((⟨g1,g2⟩ | g) | g)
   ·exact ⟨g1,by omega⟩
   ·split at g
    ·rw [J6.1 g]; exact ⟨‹_›,by omega⟩
    ·simp at g
   ·split at g
    ·rw [J6.1 g]; exact ⟨‹_›,by omega⟩
    ·simp at g
  ·rintro ⟨g1,g2⟩;by_cases gl:x.natAbs<=last
   ·exact .inl (.inl ⟨g1,gl⟩)
   ·have:=h3 x g1 (by omega);have:x=v\/x = -(v:Int):=(by omega);rcases this with rfl | rfl
    ·exact .inl (.inr (by rw [J8 g1]; simp))
    ·exact .inr (by rw [J8 g1]; simp)
 refine ⟨?_,hmem,?_,?_⟩
 ·rw [Xg,Xg]
  refine ⟨⟨h.str,by split <;> simp,fun a ha b hb=>?_⟩,by split <;> simp,fun a ha b hb=>?_⟩
  ·have:=hlow a ha
   split at hb
   ·rw [J6.1 hb]; unfold ltN; omega
   ·simp at hb
  ·split at hb
   ·rw [J6.1 hb]
    rcases Jh.1 ha with ha | ha
    ·have:=hlow a ha; unfold ltN; omega
    ·split at ha
     ·rw [J6.1 ha]; unfold ltN; omega
     ·simp at ha
   ·simp at hb
 ·rw [Z9,h.idle,Jd,Jk,Jk]
  constructor
  ·rintro (⟨x,g1,g2⟩ | ⟨g1,g2⟩)
   ·exact ⟨x,(hmem x).2 ⟨((h.mem x).1 g1).1,by have:=hlow x g1; omega⟩,(hmem _).2 ⟨((h.mem _).1 g2).1,by have:=hlow _ g2; omega⟩⟩
   ·exact ⟨v,(hmem _).2 ⟨g1,by omega⟩,(hmem _).2 ⟨g2,by omega⟩⟩
  ·rintro ⟨x,g1,g2⟩
   obtain ⟨a1,a2⟩:=(hmem x).1 g1
   obtain ⟨b1,b2⟩:=(hmem _).1 g2
   by_cases gl:x.natAbs<=last
   ·exact .inl ⟨x,(h.mem x).2 ⟨a1,gl⟩,(h.mem _).2 ⟨b1,by omega⟩⟩
   ·have:=h3 x a1 (by omega)
    have:x=v\/x = -(v:Int):=by omega
    rcases this with rfl | rfl
    ·exact .inr ⟨a1,b1⟩
    ·exact .inr ⟨by simpa using b1,a1⟩
 ·have:=h.len
  simp only [Jv]
  split <;> split <;> simp <;> omega
section
variable {H:A3}
theorem JG {a:Option Addr} {xs:List Int} {c:Nat} (hx:Rn H a xs) (hall:xs.all AE=true) (hlen:xs.length<=100000):CallF Tryz.prog 142 [.slice a xs.length c] H (fun v H'=>Fr [] H H'/\∃ (w:Value) (zs:List Int) (idle:Bool),v=.tuple #[w,.bool idle]/\Vec H' 3 1 w (zs.map iv)/\(∀ b ∈ own w,H.size<=b)/\zs.Pairwise ltN/\(∀ x,x ∈ zs↔x ∈ xs)/\(idle=true↔∃ x ∈ zs,-x ∈ zs)) NoP:=by
 have hb:=Jo.1 hall;refine A9 Tryz.func142 rfl Tryz.ntmps142 Tryz.results142 (by decide) rfl ?_;simp (disch:=omega) only [go_sem,↓cB];refine A7 (CE hx (by omega)) ?_;rintro v H1 ⟨rfl,e⟩;subst H1;rw [hall];simp (disch:=omega) only [go_sem,↓cB];refine Ae (fun j U H1=>∃ (last:Nat) (wv:Value) (zs:List Int) (idle:Bool),j=100001 - last/\last<=100000/\(U.get 0=.slice a xs.length c/\U.get 4=wv/\U.get 5=.bool idle/\U.get 6=iv last/\U.ds = [])/\Fr [] H H1/\Vec H1 3 1 wv (zs.map iv)/\(∀ b ∈ own wv,H.size<=b)/\NR xs last zs idle) (k:=100001) ?_ ?_
 ·exact ⟨0,.slice none 0 0,[],false,rfl,by omega,by simp (disch:=omega) only [go_sem,↓cB],Fr.refl _ _,Vec.nil,by simp [own],NR.zero fun x hx=>Ci (hb x hx)⟩
 ·rintro _ U H1 ⟨last,wv,zs,idle,rfl,hl,⟨r0,r4,r5,r6,rd⟩,f1,v1,o1,nr⟩;have hx1:=hx.frame f1 (by simp);simp only [↓cB];simp (disch:=omega) only [go_sem,r0,r4,r5,r6,rd];refine Bp (fun U H2=>∃ v:Nat,(U.get 0=.slice a xs.length c/\U.get 4=wv/\U.get 5=.bool idle/\U.get 6=iv last/\U.get 7=iv v/\U.ds = [])/\H2=H1/\LV xs last v) ?_ ?_
  ·simp (disch:=omega) only [go_sem,↓cB,r0,r4,r5,r6,rd];refine Ae (fun j U H2=>∃ (i v:Nat),j=xs.length - i/\i<=xs.length/\(U.get 0=.slice a xs.length c/\U.get 4=wv/\U.get 5=.bool idle/\U.get 6=iv last/\U.get 7=iv v/\U.get 8=iv i/\U.ds = [])/\H2=H1/\LV (xs.take i) last v/\v<=100000) (k:=xs.length) ?_ ?_
   ·exact ⟨0,0,rfl,by omega,by simp (disch:=omega) only [go_sem,↓cB,r0,r4,r5,r6,rd],rfl,LV.nil,by omega⟩
   ·rintro _ U H2 ⟨i,v,rfl,hi,⟨r0,r4,r5,r6,r7,r8,rd⟩,e,lv,hv⟩;subst H2;by_cases hie:i=xs.length
    ·subst hie;rw [Jr] at lv;simp (disch:=omega) only [go_sem,↓cB,r0,r4,r5,r6,r7,r8,rd];exact fin ⟨v,by simp (disch:=omega) only [go_sem,↓cB,r0,r4,r5,r6,r7,rd],rfl,lv⟩
    ·obtain ⟨x,hxi⟩:∃ x,xs[i]?=some x:=⟨_,J1 (by omega)⟩;obtain ⟨b',o',e,kx⟩:=hx1 i x hxi;subst e;have hxb:=CP (hb x (J2 hxi));have hi1:(i:Int) + 1=((i + 1:Nat):Int):=(by omega);have htk:xs.take (i + 1)=xs.take i ++ [x]:=(by rw [Jl,hxi]; rfl);simp (disch:=omega) only [go_sem,↓cB,r0,r4,r5,r6,r7,r8,rd,kx];refine A7 (Hq hxb) ?_;rintro u H3 ⟨rfl,e⟩;subst H3;by_cases h1:last < x.natAbs
     ·by_cases h2:v=0
      ·subst h2;have r7':U.get 7=iv 0:=r7;simp (disch:=omega) only [go_sem,↓cB,r0,r4,r5,r6,r7',r8,rd];exact fin ⟨xs.length - (i + 1),by omega,i + 1,x.natAbs,rfl,by omega,by simp (disch:=omega) only [go_sem,↓cB,r0,r4,r5,r6,r8,rd,hi1],rfl,by rw [htk]; exact lv.new h1 (.inl rfl),by omega⟩
      ·by_cases h3:x.natAbs < v
       ·simp (disch:=omega) only [go_sem,↓cB,r0,r4,r5,r6,r7,r8,rd];exact fin ⟨xs.length - (i + 1),by omega,i + 1,x.natAbs,rfl,by omega,by simp (disch:=omega) only [go_sem,↓cB,r0,r4,r5,r6,r8,rd,hi1],rfl,by rw [htk]; exact lv.new h1 (.inr h3),by omega⟩
       ·simp (disch:=omega) only [go_sem,↓cB,r0,r4,r5,r6,r7,r8,rd];exact fin ⟨xs.length - (i + 1),by omega,i + 1,v,rfl,by omega,by simp (disch:=omega) only [go_sem,↓cB,r0,r4,r5,r6,r7,r8,rd,hi1],rfl,by rw [htk]; exact lv.keep h2 (by omega),hv⟩
     ·simp (disch:=omega) only [go_sem,↓cB,r0,r4,r5,r6,r7,r8,rd];exact fin ⟨xs.length - (i + 1),by omega,i + 1,v,rfl,by omega,by simp (disch:=omega) only [go_sem,↓cB,r0,r4,r5,r6,r7,r8,rd,hi1],rfl,by rw [htk]; exact lv.low (by omega),hv⟩
  ·rintro U H2 ⟨v,⟨r0,r4,r5,r6,r7,rd⟩,e,lv⟩;subst H2;by_cases hv0:v=0
   ·subst hv0;have r7':U.get 7=iv 0:=r7;simp (disch:=omega) only [go_sem,↓cB,r0,r4,r5,r6,r7',rd];have hle:∀ x ∈ xs,x.natAbs<=last:=by
     rcases lv with ⟨_,h⟩ | ⟨h,_⟩
     ·exact h
     ·omega
    exact fin ⟨f1,wv,zs,idle,rfl,v1,o1,nr.str,fun x=>by rw [nr.mem]; exact ⟨fun h=>h.1,fun h=>⟨h,hle x h⟩⟩,nr.idle⟩
   ·have hvl:=lv.resolve_left fun e=>hv0 e.1;have hstep:=nr.step lv hv0;simp (disch:=omega) only [go_sem,↓cB,r0,r4,r5,r6,r7,rd];refine A7 (Db hx1 (by omega)) ?_;rintro u H3 ⟨rfl,e⟩;subst H3;simp (disch:=omega) only [go_sem,↓cB,r0,r4,r5,r6,r7,rd];have hzl:=nr.len;have hvb:v<=100000:=by
     obtain ⟨_,⟨y,hy,hyv⟩,_⟩:=hvl;have:=CP (hb y hy); omega
    refine GW (fun U H3=>∃ w3:Value,(U.get 0=.slice a xs.length c/\U.get 4=w3/\U.get 5=.bool idle/\U.get 7=iv v/\U.ds = [])/\Fr [] H H3/\Vec H3 3 1 w3 ((zs ++ (if (v:Int) ∈ xs then [(v:Int)] else [])).map iv)/\∀ b ∈ own w3,H.size<=b) ?_ ?_
    ·by_cases p1:(v:Int) ∈ xs
     ·rw [Zx p1];simp (disch:=omega) only [go_sem,↓cB,r0,r4,r5,r6,r7,rd,UA];refine AK T.zk rfl v1 rfl (by simp; omega) ?_;intro v' H4 g1 g2 g3 g4;simp (disch:=omega) only [go_sem,↓cB,r0,r4,r5,r6,r7,rd];refine fin ⟨v',by simp (disch:=omega) only [go_sem,↓cB,r0,r4,r5,r6,r7,rd],⟨Js f1.size g2.size,fun q hq _=>?_⟩,by rw [J8 p1]; simpa using g1,fun q hq=>?_⟩
      ·rw [g2.same q (by have:=f1.size; omega) (fun e=>by have:=o1 q e; omega),f1.same q hq (by simp)]
      ·rcases g3 q hq with h | h
       ·exact o1 q h
       ·have:=f1.size; omega
     ·rw [Zi p1];simp (disch:=omega) only [go_sem,↓cB,r0,r4,r5,r6,r7,rd];exact ⟨wv,by simp (disch:=omega) only [go_sem,↓cB,r0,r4,r5,r6,r7,rd],f1,by rw [J4 p1]; simpa using v1,o1⟩
    ·clear r0 r4 r5 r6 r7 rd;rintro U H3 ⟨w3,⟨r0,r4,r5,r7,rd⟩,f3,v3,o3⟩;have hx3:=hx.frame f3 (by simp);simp (disch:=omega) only [go_sem,↓cB,r0,r4,r5,r7,rd];refine A7 (Db hx3 (by omega)) ?_;rintro u H4 ⟨rfl,e⟩;subst H4;simp (disch:=omega) only [go_sem,↓cB,r0,r4,r5,r7,rd];have hz1:(zs ++ (if (v:Int) ∈ xs then [(v:Int)] else [])).length<=zs.length + 1:=(by split <;> simp);refine GW (fun U H4=>∃ w4:Value,(U.get 0=.slice a xs.length c/\U.get 4=w4/\U.get 5=.bool idle/\U.get 7=iv v/\U.ds = [])/\Fr [] H H4/\Vec H4 3 1 w4 ((zs ++ (if (v:Int) ∈ xs then [(v:Int)] else []) ++ (if -(v:Int) ∈ xs then [-(v:Int)] else [])).map iv)/\∀ b ∈ own w4,H.size<=b) ?_ ?_
     ·by_cases p2:-(v:Int) ∈ xs
      ·rw [Zx p2];simp (disch:=omega) only [go_sem,↓cB,r0,r4,r5,r7,rd,UA];refine AK T.zk rfl v3 rfl (by rw [Jm]; omega) ?_;intro v' H4 g1 g2 g3 g4;simp (disch:=omega) only [go_sem,↓cB,r0,r4,r5,r7,rd];refine fin ⟨v',by simp (disch:=omega) only [go_sem,↓cB,r0,r4,r5,r7,rd],⟨Js f3.size g2.size,fun q hq _=>?_⟩,by rw [J8 p2,Zf]; exact g1,fun q hq=>?_⟩
       ·rw [g2.same q (by have:=f3.size; omega) (fun e=>by have:=o3 q e; omega),f3.same q hq (by simp)]
       ·rcases g3 q hq with h | h
        ·exact o3 q h
        ·have:=f3.size; omega
      ·rw [Zi p2];simp (disch:=omega) only [go_sem,↓cB,r0,r4,r5,r7,rd];exact ⟨w3,by simp (disch:=omega) only [go_sem,↓cB,r0,r4,r5,r7,rd],f3,by rw [J4 p2,Xd]; exact v3,o3⟩
     ·clear r0 r4 r5 r7 rd;rintro U H4 ⟨w4,⟨r0,r4,r5,r7,rd⟩,f4,v4,o4⟩;have hx4:=hx.frame f4 (by simp);have hlv:last < v:=hvl.1;cases idle with
      | true =>
       simp (disch:=omega) only [go_sem,↓cB,r0,r4,r5,r7,rd];exact fin ⟨100001 - v,by omega,v,w4,_,true,rfl,hvb,by simp (disch:=omega) only [go_sem,↓cB,r0,r4,r5,r7,rd],f4,v4,o4,by simpa using hstep⟩
      | false =>
       simp (disch:=omega) only [go_sem,↓cB,r0,r4,r5,r7,rd];refine A7 (Db hx4 (by omega)) ?_;rintro u H5 ⟨rfl,e⟩;subst H5;by_cases p1:(v:Int) ∈ xs
       ·rw [Zx p1];simp (disch:=omega) only [go_sem,↓cB,r0,r4,r5,r7,rd];refine A7 (Db hx4 (by omega)) ?_;rintro u H5 ⟨rfl,e⟩;subst H5;simp (disch:=omega) only [go_sem,↓cB,r0,r4,r5,r7,rd];exact fin ⟨100001 - v,by omega,v,w4,_,decide (-(v:Int) ∈ xs),rfl,hvb,by simp (disch:=omega) only [go_sem,↓cB,r0,r4,r5,r7,rd],f4,v4,o4,by simpa [p1] using hstep⟩
       ·rw [Zi p1];simp (disch:=omega) only [go_sem,↓cB,r0,r4,r5,r7,rd];exact fin ⟨100001 - v,by omega,v,w4,_,false,rfl,hvb,by simp (disch:=omega) only [go_sem,↓cB,r0,r4,r5,r7,rd],f4,v4,o4,by simpa [p1] using hstep⟩
end
section
variable {H:A3}
end
section
variable {H:A3} {N:Nat}
end
def Opn (so:List Int) (x:Int):Prop:=x ∉ so/\-x ∉ so
def OI (so cs:List Int) (o:Nat) (last:Int):Prop :=
 (o=0/\∀ l ∈ cs,¬ Opn so l)\/(o=1/\last ∈ cs/\Opn so last/\∀ l ∈ cs,Opn so l->l=last)\/(2<=o/\∃ l1 ∈ cs,∃ l2 ∈ cs,l1 ≠ l2/\Opn so l1/\Opn so l2)
theorem OI.nil {so:List Int} {last:Int}:OI so [] 0 last:=.inl ⟨rfl,by simp⟩
theorem OI.skip {so cs:List Int} {o:Nat} {last x:Int} (h:OI so cs o last) (hx:¬ Opn so x\/x ∈ cs):OI so (cs ++ [x]) o last:=by
 rcases h with ⟨h1,h2⟩ | ⟨h1,h2,h3,h4⟩ | ⟨h1,l1,g1,l2,g2,g3⟩
 ·refine .inl ⟨h1,fun l hl=>?_⟩;rcases Jh.1 hl with hl | hl
  ·exact h2 l hl
  ·rw [J6.1 hl];exact hx.elim id (h2 x)
 ·refine .inr (.inl ⟨h1,by simp [h2],h3,fun l hl ho=>?_⟩);rcases Jh.1 hl with hl | hl
  ·exact h4 l hl ho
  ·have e:=J6.1 hl;subst e;exact hx.elim (fun e=>absurd ho e) (fun e=>h4 l e ho)
 ·exact .inr (.inr ⟨h1,l1,by simp [g1],l2,by simp [g2],g3⟩)
theorem OI.more {so cs:List Int} {o:Nat} {last x:Int} (h:OI so cs o last) (hx:Opn so x) (hn:x ∉ cs):OI so (cs ++ [x]) (o + 1) x:=by
 rcases h with ⟨h1,h2⟩ | ⟨h1,h2,h3,h4⟩ | ⟨h1,l1,g1,l2,g2,g3⟩
 ·subst h1;refine .inr (.inl ⟨rfl,by simp,hx,fun l hl ho=>?_⟩);rcases Jh.1 hl with hl | hl
  ·exact absurd ho (h2 l hl)
  ·exact J6.1 hl
 ·exact .inr (.inr ⟨by omega,last,by simp [h2],x,by simp,fun e=>hn (e ▸ h2),h3,hx⟩)
 ·exact .inr (.inr ⟨by omega,l1,by simp [g1],l2,by simp [g2],g3⟩)
structure j3m (css:List (List Int)) (so:List Int):Prop where
 no:∀ z ∈ so,-z ∉ so
 cl:∀ c ∈ css,(∃ l ∈ c,l ∈ so)\/∃ l1 ∈ c,∃ l2 ∈ c,l1 ≠ l2/\Opn so l1/\Opn so l2
theorem R1 {n:Nat} {so:List Int} (hn:so.Nodup) (hc:∀ z ∈ so,-z ∉ so) (hl:∀ z ∈ so,z ≠ 0/\z.natAbs<=n):so.length<=n:=by
 have h1:((so.map Ai).map (· / 2)).Nodup:=by
  rw [V9];refine Xp _ (fun a b hab=>?_) (Wp.1 hn);obtain ⟨ha,hb,hne⟩:=hab;show Ai a / 2 ≠ Ai b / 2;rw [Fz,Fz];intro e;have:b = -a:=(by omega);subst this;exact hc a ha hb
 have:=BQ (l:=so.map Ai) (n:=n) (fun y hy=>by
  obtain ⟨z,hz,rfl⟩:=Ji.1 hy;exact D3 (hl z hz).1 (hl z hz).2) h1
 simpa using this
structure RC (N:Nat) (H:A3) (a:Option Addr) (css:List (List Int)):Prop where
 ex:∀ (i:Nat) (c:List Int),css[i]?=some c->∃ b o ra rc,a=some ⟨b,o,none⟩/\b < N/\A5 H ⟨b,o + i,none⟩=some (.slice ra c.length rc)/\Rn H ra c/\(c ≠ []->∀ b' o',ra=some ⟨b',o',none⟩->b' < N)/\c.length<=rc
theorem RC.same {H H':A3} {N:Nat} {a:Option Addr} {css:List (List Int)} (h:RC N H a css) (hs:∀ b,b < N->H'[b]?=H[b]?):RC N H' a css:=⟨fun i c hi=>by
 obtain ⟨b,o,ra,rc,e,hb,hc,hr,hn,hl⟩:=h.ex i c hi
 exact ⟨b,o,ra,rc,e,hb,Ec (hs b hb) hc,hr.same hn hs,hn,hl⟩⟩
end Go.Proofs.YtkdlmdmlomgdiaaGreat
