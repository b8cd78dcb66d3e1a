/- Clauses in their normal forms. -/
import Derived.Test.YtkdlmdmlomgdiaaGreatL06
set_option linter.unusedSimpArgs false
set_option linter.unusedVariables false
set_option maxRecDepth 10000
set_option maxHeartbeats 8000000
noncomputable section
namespace Go.Proofs.YtkdlmdmlomgdiaaGreat
open Go.HL HM Go.Sat
section
variable {H:A3}
theorem I2 {x:Int}:CallF Tryz.prog 50 [iv x] H (fun v H'=>v=.bool (AE x)/\H'=H) NoP:=by
 unfold AE;refine A9 Tryz.func50 rfl Tryz.ntmps50 Tryz.results50 (by decide) rfl ?_;by_cases h0:x=0
 ·simp (disch:=omega) only [go_sem,↓cB];exact fin ⟨by simp [h0],rfl⟩
 ·by_cases h1:-100000<=x
  ·by_cases h2:x<=100000
   ·simp (disch:=omega) only [go_sem,↓cB];exact fin ⟨by simp [h0,h1,h2],rfl⟩
   ·simp (disch:=omega) only [go_sem,↓cB];exact fin ⟨by simp [h0,h1,h2],rfl⟩
  ·simp (disch:=omega) only [go_sem,↓cB];exact fin ⟨by simp [h0,h1],rfl⟩
theorem Mo {x:Int}:CallF Tryz.prog 49 [iv x] H (fun v H'=>v=.bool (!AE x)/\H'=H) NoP:=by
 refine A9 Tryz.func49 rfl Tryz.ntmps49 Tryz.results49 (by decide) rfl ?_;simp (disch:=omega) only [go_sem,↓cB];refine A7 I2 ?_;rintro v H2 ⟨rfl,rfl⟩;simp (disch:=omega) only [go_sem,↓cB];exact fin ⟨rfl,rfl⟩
theorem Ff {a:Option Addr} {xs:List Int} {c:Nat} (hc:Rn H a xs) (hlen:xs.length<=1000000):CallF Tryz.prog 19 [.slice a xs.length c] H (fun v H'=>v=.bool (xs.all AE)/\H'=H) NoP:=by
 refine A9 Tryz.func19 rfl Tryz.ntmps19 Tryz.results19 (by decide) rfl ?_;simp (disch:=omega) only [go_sem,↓cB];refine A7 (FX (cap:=[]) (P:=fun x=>!AE x) hc (by omega) (fun x _=>Mo)) ?_;rintro v H2 ⟨rfl,rfl⟩;simp (disch:=omega) only [go_sem,↓cB];refine fin ⟨?_,rfl⟩;rw [List.all_eq_not_any_not]
structure IL (H:A3) (v:Value) (xs:List Int):Prop where
 ex:∃ a c,v=.slice a xs.length c/\Rn H a xs
theorem IL.yq {e:Nat} {v:Value} {xs:List Int} (h:Vec H e 1 v (xs.map iv)):IL H v xs:=by
 rcases h.ex with ⟨rfl,e2⟩ | ⟨b,len,cap,pre,rest,rfl,hb,h2,h3,h4⟩
 ·rw [Yi] at e2;subst e2;exact ⟨none,0,rfl,fun i x hx=>by simp at hx⟩
 ·have:len=xs.length:=(by simpa using h2.symm);subst this;exact ⟨_,cap,rfl,fun i x hx=>⟨b,pre.length,rfl,DJ hb hx⟩⟩
theorem Rn.src {a:Option Addr} {xs:List Int} {c:Nat} (h:Rn H a xs):AR H 1 xs.length (.slice a xs.length c)=some (xs.map iv):=by
 cases xs with
 | nil=>cases a <;> rfl
 | cons x xs =>
  obtain ⟨b,o,rfl,_⟩:=h 0 x rfl;show Ay (A5 H) ⟨b,o,none⟩ 0 ((x :: xs).length * 1)=some ((x :: xs).map iv);have hl:(x :: xs).length * 1=((x :: xs).map iv).length:=(by simp);rw [hl];refine Bi _ _ 0 fun j hj=>?_;have hj':j < (x :: xs).length:=(by simpa using hj);obtain ⟨b',o',e,hc⟩:=h j _ (J1 hj');simp only [J5,Addr.mk.injEq,Zt] at e;obtain ⟨rfl,rfl⟩:=e;rw [Zc,hc];exact congrArg some (by rw [Xu])
theorem Rn.frame {H':A3} {F:List Nat} {a:Option Addr} {xs:List Int} (h:Rn H a xs) (hf:Fr F H H') (hd:∀ b o,a=some ⟨b,o,none⟩->b ∉ F):Rn H' a xs:=fun i x hx=>by
 obtain ⟨b,o,e,hc⟩:=h i x hx;exact ⟨b,o,e,hf.zg hc (hd b o e)⟩
theorem NJ:CallF Tryz.prog 55 [.slice none 0 0] H (fun v H'=>v=.slice none 0 0/\H'=H) NoP:=by
 refine A9 Tryz.func55 rfl Tryz.ntmps55 Tryz.results55 (by decide) rfl ?_;simp (disch:=omega) only [go_sem,↓cB];exact fin ⟨rfl,rfl⟩
structure NF (xs zs:List Int) (idle:Bool):Prop where
 str:zs.Pairwise ltN
 mem:∀ x,x ∈ zs↔x ∈ xs
 le:zs.length<=xs.length
 idle:idle=true↔∃ x ∈ zs,-x ∈ zs
theorem CB {a:Option Addr} {xs:List Int} {c:Nat} (hr:Rn H a xs) (hl:∀ x ∈ xs,AE x=true) (hlen:xs.length<=1000000) :
  CallF Tryz.prog 21 [.slice a xs.length c] H (fun v H'=>Fr [] H H'/\∃ w zs idle,v=.tuple #[w,.bool idle]/\Vec H' 3 1 w (zs.map iv)/\(∀ b ∈ own w,H.size<=b)/\NF xs zs idle) NoP:=by
 have hall:xs.all AE=true:=by rw [Jo]; exact hl
 refine A9 Tryz.func21 rfl Tryz.ntmps21 Tryz.results21 (by decide) rfl ?_
 simp (disch:=omega) only [go_sem,↓cB]
 refine A7 (Ff hr hlen) ?_
 rintro v H1 ⟨rfl,rfl⟩
 rw [hall]
 obtain ⟨G,hG⟩:∃ G,H1.push (.cells (List.replicate xs.length (iv 0)).toArray 3)=G:=⟨_,rfl⟩
 have f0:Fr [] H1 G:=by rw [<- hG]; exact Fr.push
 have vG:Vec G 3 1 (.slice (some ⟨H1.size,0,none⟩) 0 xs.length) []:=⟨.inr ⟨H1.size,0,xs.length,[],List.replicate xs.length (iv 0),rfl,by rw [<- hG]; exact Blk.new rfl,rfl,by simp,by omega⟩⟩
 have hone:∀ u ∈ xs.map iv,Cb u=true:=by
  intro u hu;obtain ⟨y,_,rfl⟩:=Ji.1 hu;rfl
 simp (disch:=omega) only [go_sem,↓cB,hG]
 refine Hc (n:=xs.length) (new:=xs.map iv) T.zk rfl vG rfl (Rn.src (hr.frame f0 (by simp))) T.zk.under (by simp) hone (by simp) (by intro a' l c e; simp only [Value.slice.injEq] at e; obtain ⟨_,rfl,_⟩:=e; omega) ?_
 intro v' H2 g1 (g2:Fr _ G H2) (g3:∀ b ∈ own v',b ∈ own (.slice (some ⟨H1.size,0,none⟩) 0 xs.length)\/G.size<=b) g4
 have hfr2:∀ b ∈ own v',H1.size<=b:=by
  intro b hb;rcases g3 b hb with h | h
  ·simp only [own,J6] at h; omega
  ·have:=f0.size; omega
 have f2:Fr [] H1 H2:=⟨Js f0.size g2.size,fun q hq _=>by
  rw [g2.same q (by have:=f0.size; omega) (by simp only [own,J6]; omega),f0.same q hq (by simp)]⟩
 have g1':Vec H2 3 1 v' (xs.map iv):=by simpa using g1
 simp (disch:=omega) only [go_sem,↓cB]
 refine A7 (PX g1' hl hlen) ?_
 rintro r H3 ⟨rfl,f3,ys,g5,hperm,hsort⟩
 have hyl:ys.length=xs.length:=hperm.length_eq
 have fine3:Fr [] H1 H3:=⟨Js f2.size f3.size,fun q hq _=>by
  rw [f3.same q (by have:=f2.size; omega) (fun e=>by have:=hfr2 q e; omega),f2.same q hq (by simp)]⟩
 refine Hush.out ?_
 have rest:∀ (zs:List Int) (H4:A3) (w:Value),Fr [] H1 H4->Vec H4 3 1 w (zs.map iv)->(∀ b ∈ own w,H1.size<=b)->zs.Pairwise ltN->(∀ x,x ∈ zs↔x ∈ ys)->zs.length<=ys.length->∀ idle,(idle=true↔∃ (i:Nat) (y:Int),zs[i]?=some y/\zs[i + 1]?=some (-y)) ->
   (Fr [] H1 H4/\∃ w' zs idle',Value.tuple #[w,.bool idle]=.tuple #[w',.bool idle']/\Vec H4 3 1 w' (zs.map iv)/\(∀ b ∈ own w',H1.size<=b)/\NF xs zs idle'):=by
  intro zs H4 w h1 h2 h3 h4 h5 h6 idle h7
  refine ⟨h1,w,zs,idle,rfl,h2,h3,h4,fun x=>(h5 x).trans hperm.mem_iff,by omega,h7.trans ⟨?_,?_⟩⟩
  ·rintro ⟨i,y,e1,e2⟩
   exact ⟨y,J2 e1,J2 e2⟩
  ·rintro ⟨x,e1,e2⟩
   have:=hl x (hperm.mem_iff.1 ((h5 x).1 e1))
   unfold AE at this
   simp only [Jk] at this
   exact Td h4 e1 e2 this.1
 rcases g5.ex with ⟨rfl,hnil⟩ | ⟨b,len,cap,pre,rst,rfl,hb,hl2,hl3,hl4⟩
 ·rw [Yi] at hnil
  subst hnil
  refine ⟨?_⟩
  simp (disch:=omega) only [go_sem,↓cB]
  refine A7 NJ ?_
  rintro r H4 ⟨rfl,rfl⟩
  simp (disch:=omega) only [go_sem,↓cB]
  refine Ae (fun j U H5=>(U.get 4=.slice none 0 0/\U.get 5=iv 1/\U.ds = [])/\H5=H4) (k:=0) ?_ ?_
  ·exact ⟨by simp (disch:=omega) only [go_sem,↓cB],rfl⟩
  ·rintro _ U H5 ⟨⟨r4,r5,rd⟩,rfl⟩
   simp (disch:=omega) only [go_sem,↓cB,r4,r5,rd]
   exact fin (rest [] _ _ fine3 Vec.nil (by simp [own]) Va (fun x=>Iff.rfl) (Jb _) false ⟨fun h=>(by cases h),fun ⟨i,y,h,_⟩=>by simp at h⟩)
 ·have hlen2:len=ys.length:=by simpa using hl2.symm
  subst hlen2
  have hsz:=hfr2 b (by simp [own])
  refine ⟨?_⟩
  simp (disch:=omega) only [go_sem,↓cB]
  refine A7 (Mj hb hl4 (by simpa using hl3) hsort (by omega)) ?_
  rintro r H4 ⟨f4,zs,rfl,v4,hstr,hmem,hzl⟩
  have f14:Fr [] H1 H4:=⟨Js fine3.size f4.size,fun q hq _=>by
   rw [f4.same q (by have:=fine3.size; omega) (by simp only [J6]; omega),fine3.same q hq (by simp)]⟩
  simp (disch:=omega) only [go_sem,↓cB]
  have hrn:Rn H4 (some ⟨b,pre.length,none⟩) zs:=by
   obtain ⟨a',c',e,h⟩:=(IL.yq v4).ex;simp only [Value.slice.injEq] at e;rw [e.1]; exact h
  have hpos:∀ j y,zs[j]?=some y->AE y=true:=fun j y hy=>hl y (hperm.mem_iff.1 ((hmem y).1 (J2 hy)))
  refine Ae (fun j U H5=>∃ i:Nat,j=zs.length - i/\1<=i/\(U.get 4=.slice (some ⟨b,pre.length,none⟩) zs.length cap/\U.get 5=iv i/\U.ds = [])/\H5=H4/\∀ (j:Nat) y,j + 1 < i->zs[j]?=some y->zs[j + 1]? ≠ some (-y)) (k:=zs.length - 1) ?_ ?_
  ·exact ⟨1,rfl,Jb _,by simp (disch:=omega) only [go_sem,↓cB]; rfl,rfl,fun j y hj=>by omega⟩
  ·rintro _ U H5 ⟨i,rfl,h1i,⟨r4,r5,rd⟩,rfl,hno⟩
   by_cases hie:zs.length<=i
   ·simp (disch:=omega) only [go_sem,↓cB,r4,r5,rd]
    refine fin (rest zs _ _ f14 v4 (fun q hq=>by simp only [own,J6] at hq; subst hq; exact hsz) hstr hmem hzl false ⟨fun h=>(by cases h),?_⟩)
    rintro ⟨j,y,e1,e2⟩
    have:=(J3.1 e2).1
    exact absurd e2 (hno j y (by omega) e1)
   ·obtain ⟨x,hx⟩:∃ x,zs[i]?=some x:=⟨_,J1 (by omega)⟩
    obtain ⟨y,hy⟩:∃ y,zs[i - 1]?=some y:=⟨_,J1 (by omega)⟩
    obtain ⟨b1,o1,e1,kx⟩:=hrn i x hx
    obtain ⟨b2,o2,e2,ky⟩:=hrn (i - 1) y hy
    simp only [J5,Addr.mk.injEq,Zt] at e1 e2
    obtain ⟨rfl,rfl⟩:=e1
    obtain ⟨e21,e22⟩:=e2
    rw [<- e21,<- e22] at ky
    have hly:=hpos _ y hy
    unfold AE at hly
    simp only [Jk] at hly
    have hi1:(i:Int) - 1=((i - 1:Nat):Int):=by omega
    have hi2:(i:Int) + 1=((i + 1:Nat):Int):=by omega
    simp (disch:=omega) only [go_sem,↓cB,r4,r5,rd]
    refine As (lk [tl 0,tl 1,tl 2,tl 3,tl 4,tl 5,tl 6,tl 7,tl 8,tl 9,tl 10] .fin) T.mixed ?_
    simp (disch:=omega) only [go_sem,↓cB,r4,r5,rd,kx,ky,hi1]
    refine Ba (fun hb2=>?_) (fun hb2=>?_)
    ·simp (disch:=omega) only [go_sem,↓cB,r4,r5,rd]
     refine fin (rest zs _ _ f14 v4 (fun q hq=>by simp only [own,J6] at hq; subst hq; exact hsz) hstr hmem hzl true ⟨fun _=>⟨i - 1,y,hy,?_⟩,fun _=>rfl⟩)
     rw [show i - 1 + 1=i by omega,hx,hb2]
    ·simp (disch:=omega) only [go_sem,↓cB,r4,r5,rd]
     refine fin ⟨zs.length - (i + 1),by omega,i + 1,rfl,by omega,by simp (disch:=omega) only [go_sem,↓cB,r4,r5,rd,hi2],rfl,fun j z hj hz=>?_⟩
     by_cases hji:j + 1=i
     ·have:j=i - 1:=by omega
      subst this
      rw [hy] at hz
      have:=Jj hz
      subst this
      rw [show i - 1 + 1=i by omega,hx]
      intro e
      exact hb2 (Jj e)
     ·exact hno j z (by omega) hz
end
end Go.Proofs.YtkdlmdmlomgdiaaGreat
namespace Go.HL
def GQ:List (Int × Int)->Int->Int->List (Int × Int)
 | [],n,v=>[(n,v)]
 | x :: r,n,v=>if x.1=n then (n,v) :: r else x :: GQ r n v
theorem Dq {x:Int × Int} {r:List (Int × Int)} {k:Int}:Dn (x :: r) k=if x.1=k then some x.2 else Dn r k:=by
 unfold Dn;by_cases h:x.1=k
 ·simp [h]
 ·have:(x.1 == k)=false:=(by simp [h]);simp [this,h]
theorem Hz (k n v:Int):∀ kvs:List (Int × Int),Dn (GQ kvs n v) k=if k=n then some v else Dn kvs k
 | []=>by
  unfold GQ;rw [Dq];by_cases h:n=k
  ·simp [h]
  ·simp [h,Ne.symm h]
 | x :: r=>by
  unfold GQ;by_cases hx:x.1=n
  ·rw [J8 hx,Dq,Dq];by_cases h:n=k
   ·simp [h]
   ·have:¬ x.1=k:=(by rw [hx]; exact h);simp [h,Ne.symm h,this]
  ·rw [J4 hx,Dq,Dq,Hz k n v r];by_cases h:x.1=k
   ·have:¬ k=n:=(by rw [<- h]; exact hx);simp [h,this]
   ·simp [h]
theorem Nf {n v:Int}:∀ {kvs:List (Int × Int)},Dn kvs n=none->GQ kvs n v=kvs ++ [(n,v)]
 | [],_=>rfl
 | x :: r,h=>by
  rw [Dq] at h;unfold GQ;by_cases hx:x.1=n
  ·rw [J8 hx] at h; cases h
  ·rw [J4 hx] at h;rw [J4 hx,Nf h];rfl
theorem GP (n v:Int):∀ kvs:List (Int × Int),(GQ kvs n v).length<=kvs.length + 1
 | []=>by simp [GQ]
 | x :: r=>by
  unfold GQ;split
  ·simp
  ·have:=GP n v r;simp only [Za]; omega
section
variable {P:Program} {H:A3}
theorem Ny {k v:Int}:∀ (es:List MapEntry) (kvs:List (Int × Int)) (i:Nat) (p:Nat × Value),es.map (fun e=>(e.key,e.val))=kvs.map ivp ->
  Instr.findNow (.int .i64) (.int .i64 k) es i=some (some p)->∃ j,p.1=i + j/\(es[j]?).map (·.key)=some (.int .i64 k)/\(es.modify j fun e=>{ e with key:=.int .i64 k,val:=.int .i64 v }).map (fun e=>(e.key,e.val))=(GQ kvs k v).map ivp:=by
 intro es
 induction es with
 | nil=>intro kvs i p h h2; simp [Instr.findNow] at h2
 | cons e es ih =>
  intro kvs i p h h2;cases kvs with
  | nil=>simp at h
  | cons x kvs =>
   simp only [Jz,Zh,Jx] at h;obtain ⟨⟨h1,h3⟩,h4⟩:=h;simp only [Instr.findNow,h1,Instr.sameNow,Zr] at h2;by_cases hk:k=x.1
   ·subst hk;simp only [beq_self_eq_true,J5] at h2;subst h2;refine ⟨0,rfl,by simp [h1],?_⟩;unfold GQ;simp [h4]
   ·have e1:(k == x.1)=false:=(by simp [hk]);simp only [e1] at h2;obtain ⟨j,g1,g2,g3⟩:=ih kvs (i + 1) p h4 h2;refine ⟨j + 1,by omega,by simpa using g2,?_⟩;unfold GQ;rw [J4 (Ne.symm hk)];simp only [List.modify_succ_cons,Jz,g3,h1,h3]
theorem MI {t k e r:Nat} {kvs:List (Int × Int)} {n v:Int} {K:A3->Prop} {E:Value->A3->Prop} (ht:P.underlying t=some (.map k e)) (hk:P.underlying k=some (.int .i64)) (h:MapR H r (kvs.map ivp))
  (hK:∀ H',MapR H' r ((GQ kvs n v).map ivp)->Fr [r] H H'->K H'):@RQ P t (.map (some r)) (.int .i64 n) (.int .i64 v) ⟨H⟩ ⟨K⟩ ⟨E⟩:=by
 cases hn:Dn kvs n with
 | none =>
  refine Ro ht hk h hn fun H' h1 h2=>hK H' ?_ h2;rw [Nf hn];simpa using h1
 | some old =>
  obtain ⟨es,c,h1,h2⟩:=h;obtain ⟨o,ho,hm⟩:=Eu (k:=n) es.toList kvs 0 h2;rw [hn] at hm;cases o with
  | none=>simp at hm
  | some p =>
   obtain ⟨j,g1,g2,g3⟩:=Ny (v:=v) es.toList kvs 0 p h2 ho;rw [Zv] at g1;show hwp P (Instr.mapUpdate t (.map (some r)) (.int .i64 n) (.int .i64 v)) H _ _;unfold Instr.mapUpdate;refine Aa (A6 ht H) ?_;simp only;have:Ac P (getObj r) H=some (.map es c):=Bg h1;refine Aa this ?_;simp only;refine Aa (CV hk) ?_;have e2:Ac P (Instr.findKey k (.int .i64 n) es.toList) H=some (some p):=by
    unfold Instr.findKey;rw [A4,A6 hk,J0];simp only [ho];rfl
   refine Aa e2 ?_;obtain ⟨pi,pvv⟩:=p;simp only at g1;subst g1;simp only;have g2':((es[pi]?).map (·.key)).getD (.int .i64 n)=.int .i64 n:=by
    have:(es.toList[pi]?).map (·.key)=some (.int .i64 n):=g2;rw [Y1] at this;rw [this]; rfl
   have e3:Ac P (Instr.keyThatStays (((es[pi]?).map (·.key)).getD (.int .i64 n)) (.int .i64 n)) H=some (.int .i64 n):=by
    rw [g2'];unfold Instr.keyThatStays;rw [J8 (by simp [Instr.sameBits])];rfl
   refine Aa e3 ?_;show hwp P (setObj r (.map (es.modify pi fun e=>{ e with key:=.int .i64 n,val:=.int .i64 v }) c)) H _ _;simp only [setObj,hwp,h1];refine hK _ ⟨es.modify pi fun e=>{ e with key:=.int .i64 n,val:=.int .i64 v },c,?_,?_⟩ (Fr.setObj (by simp))
   ·have hl:r < H.size:=by
     rcases X9 r H.size with h | h
     ·exact h
     ·rw [Z5 h] at h1; simp at h1
    rw [Jt]
    simp [hl]
   ·rw [<- g3];simp
end
end Go.HL
namespace Go.Proofs.YtkdlmdmlomgdiaaGreat
open Go.HL HM Go.Sat
section
variable {H:A3} {ow:Nat->Nat} {p n:Nat} {k:Bk} {f:Cf}
def Ct (x:Nat):Int:=if x % 2=1 then -((x / 2:Nat):Int) else ((x / 2:Nat):Int)
theorem DN {x:Nat} (hx:x<=1000000):CallF Tryz.prog 210 [iv x] H (fun v H'=>v=iv (Ct x)/\H'=H) NoP:=by
 unfold Ct;have hh:=Gg x;refine A9 Tryz.func210 rfl Tryz.ntmps210 Tryz.results210 (by decide) rfl ?_;by_cases h:x % 2=1
 ·have:(x:Int) % 2=1:=(by omega);simp (disch:=omega) only [go_sem,↓cB,this,hh];exact fin ⟨by rw [J8 h],rfl⟩
 ·have:¬ (x:Int) % 2=1:=(by omega);simp (disch:=omega) only [go_sem,↓cB,this,hh];exact fin ⟨by rw [J4 h],rfl⟩
def Ai (l:Int):Nat:=if l < 0 then (-2 * l + 1).toNat else (2 * l).toNat
theorem JC {l:Int} (hl:-1000000<=l/\l<=1000000):CallF Tryz.prog 56 [iv l] H (fun v H'=>v=iv (Ai l:Nat)/\H'=H) NoP:=by
 unfold Ai;refine A9 Tryz.func56 rfl Tryz.ntmps56 Tryz.results56 (by decide) rfl ?_;by_cases h:l < 0
 ·simp (disch:=omega) only [go_sem,↓cB];exact fin ⟨by rw [J8 h,Int.toNat_of_nonneg (by omega)],rfl⟩
 ·simp (disch:=omega) only [go_sem,↓cB];exact fin ⟨by rw [J4 h,Int.toNat_of_nonneg (by omega)],rfl⟩
end
section
variable {H:A3} {ow:Nat->Nat} {p n:Nat} {k:Bk} {f:Cf}
theorem LH (h:RM H ow p n k f) (hr:Rl n f) (hi:Inv n f.s) (hn:n<=1000) {lv:Value} {l:List Nat} (hv:Vec H 3 1 lv (nv l)) (hl:∀ z ∈ l,isC n z/\(z ∈ f.tr\/neg z ∈ f.tr)) (hlen:l.length<=1000000) :
  CallF Tryz.prog 122 [sp p,lv] H (fun v H'=>Fr [] H H'/\∃ q:Nat,v=iv q/\q<=l.length) NoP:=by
 obtain ⟨a,c,rfl⟩:∃ a c,lv=.slice a l.length c:=by
  obtain ⟨a,len,c,rfl,e⟩:=hv.len;rw [Am,Jy] at e; subst e;exact ⟨a,c,rfl⟩
 obtain ⟨G,hG⟩:∃ G,H.push (.map #[] 0)=G:=⟨_,rfl⟩
 have f0:Fr [] H G:=by rw [<- hG]; exact Fr.push
 have hm0:MapR G H.size (([]:List (Int × Int)).map ivp):=by rw [<- hG]; exact MapR.new
 refine A9 Tryz.func122 rfl Tryz.ntmps122 Tryz.results122 (by decide) rfl ?_
 simp (disch:=omega) only [go_sem,↓cB]
 rw [hG]
 refine Ae (fun j U H1=>∃ (i:Nat) (kvs:List (Int × Int)),j=l.length - i/\i<=l.length/\(U.get 0=sp p/\U.get 5=.map (some H.size)/\U.get 9=.slice a l.length c/\U.get 10=iv l.length/\U.get 11=iv i/\U.ds = []) /\
  Fr [] H H1/\MapR H1 H.size (kvs.map ivp)/\kvs.length<=i/\∀ q v,Dn kvs q=some v->0<=v/\v<=i) (k:=l.length) ?_ ?_
 ·exact ⟨0,[],rfl,by omega,by simp (disch:=omega) only [go_sem,↓cB],f0,hm0,Jb _,fun q v hq=>by simp [Dn] at hq⟩
 ·rintro _ U H1 ⟨i,kvs,rfl,hil,⟨r0,r5,r9,r10,r11,rd⟩,f1,m1,hkl,hkv⟩
  by_cases hie:i=l.length
  ·have hlm:=Pi (P:=Tryz.prog) Tryz.underlying123 m1
   rw [Jm] at hlm
   simp (disch:=omega) only [go_sem,↓cB,r0,r5,r9,r10,r11,rd,hlm]
   exact fin ⟨f1,kvs.length,rfl,by omega⟩
  ·obtain ⟨z,hz⟩:∃ z,l[i]?=some z:=⟨_,J1 (by omega)⟩
   obtain ⟨hzc,hzt⟩:=hl z (J2 hz)
   obtain ⟨z1,z2,z3,z4⟩:=AP hzc
   obtain ⟨b,o,cap,e,kz⟩:=Bc (hv.frame f1 (by simp)) (Bu hz)
   simp only [Value.slice.injEq] at e
   obtain ⟨rfl,-,rfl⟩:=e
   have hm:=h.out f1 (by simp)
   obtain ⟨L,hL,clv⟩:∃ L:Nat,L<=f.st.length/\A5 H1 ⟨k.bl,z / 2,none⟩=some (iv L):=by
    rcases hzt with h1 | h1
    ·obtain ⟨j,hj⟩:=Jc h1;exact ⟨_,DP,hm.tn hr hj⟩
    ·obtain ⟨j,hj⟩:=Jc h1;have:=hm.tn hr hj;rw [Av] at this;exact ⟨_,DP,this⟩
   have c10:A5 H1 ⟨p,10,none⟩=some (sl k.bl (n + 1)):=hm.c 10
   have hh:=Gg z
   have hi1:(i:Int) + 1=((i + 1:Nat):Int):=by omega
   obtain ⟨val,hval,hv0⟩:∃ val:Int,((Dn kvs L).map (Value.int .i64)).getD (iv 0)=iv val/\0<=val/\val<=i:=by
    cases hg:Dn kvs L with
    | none=>exact ⟨0,rfl,by omega,by omega⟩
    | some v=>exact ⟨v,rfl,hkv _ _ hg⟩
   have hlk:Ac Tryz.prog (Instr.lookup 123 (.map (some H.size)) (iv L) false) H1=some (iv val):=by
    rw [HE Tryz.underlying123 Tryz.underlying3 T.xv m1 L false,<- hval]; rfl
   simp (disch:=omega) only [go_sem,↓cB,r0,r5,r9,r10,r11,rd,kz,c10,hh,clv,hlk]
   refine MI Tryz.underlying123 Tryz.underlying3 m1 ?_
   intro H2 m2 f2
   simp (disch:=omega) only [go_sem,↓cB,r0,r5,r9,r10,r11,rd]
   refine fin ⟨l.length - (i + 1),by omega,i + 1,_,rfl,by omega,by simp (disch:=omega) only [go_sem,↓cB,r0,r5,r9,r10,r11,rd,hi1],⟨Js f1.size f2.size,fun q hq _=>by rw [f2.same q (by have:=f1.size; omega) (by simp only [J6]; omega),f1.same q hq (by simp)]⟩,m2,by have:=GP (L:Int) (val + 1) kvs; omega,fun q v hq=>?_⟩
   rw [Hz] at hq
   split at hq
   ·have:=Jj hq; omega
   ·have:=hkv q v hq; omega
theorem IJ {x:Nat} (hx:isC n x) (hn:n<=1000):AE (Ct x)=true:=by
 unfold isC at hx;unfold AE Ct;simp only [Jk];split <;> omega
theorem O9 (hn:n<=1000) {lv:Value} {l:List Nat} (hv:Vec H 3 1 lv (nv l)) (hl:∀ z ∈ l,isC n z) (hlen:l.length<=1000) :
  CallF Tryz.prog 123 [hp p,lv] H (fun v H'=>Fr [] H H'/\∃ zs idle,Vec H' 3 1 v (zs.map iv)/\(∀ b ∈ own v,H.size<=b)/\NF (l.map Ct) zs idle) NoP:=by
 obtain ⟨a,c,rfl⟩:∃ a c,lv=.slice a l.length c:=by
  obtain ⟨a,len,c,rfl,e⟩:=hv.len;rw [Am,Jy] at e; subst e;exact ⟨a,c,rfl⟩
 obtain ⟨G,hG⟩:∃ G,H.push (.cells (List.replicate l.length (iv 0)).toArray 3)=G:=⟨_,rfl⟩
 have f0:Fr [] H G:=by rw [<- hG]; exact Fr.push
 have vG:Vec G 3 1 (.slice (some ⟨H.size,0,none⟩) 0 l.length) []:=⟨.inr ⟨H.size,0,l.length,[],List.replicate l.length (iv 0),rfl,by rw [<- hG]; exact Blk.new rfl,rfl,by simp,by omega⟩⟩
 refine A9 Tryz.func123 rfl Tryz.ntmps123 Tryz.results123 (by decide) rfl ?_
 simp (disch:=omega) only [go_sem,↓cB,hG]
 refine Ae (fun j U H1=>∃ (i:Nat) (wv:Value),j=l.length - i/\i<=l.length/\(U.get 5=wv/\U.get 11=.slice a l.length c/\U.get 12=iv l.length/\U.get 13=iv i/\U.ds = []) /\
  Fr [] H H1/\Vec H1 3 1 wv (((l.take i).map Ct).map iv)/\∀ b ∈ own wv,H.size<=b) (k:=l.length) ?_ ?_
 ·exact ⟨0,_,rfl,by omega,by simp (disch:=omega) only [go_sem,↓cB]; rfl,f0,by simpa using vG,by simp [own]⟩
 ·rintro _ U H1 ⟨i,wv,rfl,hil,⟨r5,r11,r12,r13,rd⟩,f1,v1,o1⟩
  by_cases hie:i=l.length
  ·subst hie
   rw [Jr] at v1
   obtain ⟨a1,c1,e1,hrn⟩:=(IL.yq v1).ex
   rw [e1] at r5
   simp (disch:=omega) only [go_sem,↓cB,r5,r11,r12,r13,rd]
   refine A7 (CB hrn (by
    intro x hx;obtain ⟨z,hz,rfl⟩:=Ji.1 hx;exact IJ (hl z hz) hn) (by rw [Jm]; omega)) ?_
   rintro v H2 ⟨f2,w,zs,idle,rfl,v2,o2,hnf⟩
   simp (disch:=omega) only [go_sem,↓cB,r5,r11,r12,r13,rd]
   exact fin ⟨f1.trans f2,zs,idle,v2,fun b hb=>by have:=o2 b hb; have:=f1.size; omega,hnf⟩
  ·obtain ⟨z,hz⟩:∃ z,l[i]?=some z:=⟨_,J1 (by omega)⟩
   have hzc:=hl z (J2 hz)
   obtain ⟨z1,z2,z3,z4⟩:=AP hzc
   obtain ⟨b,o,cap,e,kz⟩:=Bc (hv.frame f1 (by simp)) (Bu hz)
   simp only [Value.slice.injEq] at e
   obtain ⟨rfl,-,rfl⟩:=e
   have hi1:(i:Int) + 1=((i + 1:Nat):Int):=by omega
   simp (disch:=omega) only [go_sem,↓cB,r5,r11,r12,r13,rd,kz]
   refine A7 (DN (x:=z) (by omega)) ?_
   rintro v H2 ⟨rfl,rfl⟩
   simp (disch:=omega) only [go_sem,↓cB,r5,r11,r12,r13,rd]
   refine AK T.zk rfl v1 rfl (by simp; omega) ?_
   intro v' H3 g1 g2 g3 g4
   simp (disch:=omega) only [go_sem,↓cB,r5,r11,r12,r13,rd]
   refine fin ⟨l.length - (i + 1),by omega,i + 1,v',rfl,by omega,by simp (disch:=omega) only [go_sem,↓cB,r5,r11,r12,r13,rd,hi1],⟨Js f1.size g2.size,fun q hq _=>?_⟩,?_,fun q hq=>?_⟩
   ·rw [g2.same q (by have:=f1.size; omega) (fun e=>by have:=o1 q e; omega),f1.same q hq (by simp)]
   ·have:((l.take (i + 1)).map Ct).map iv=((l.take i).map Ct).map iv ++ [iv (Ct z)]:=by
     rw [Jl,hz]; simp
    rw [this]; exact g1
   ·rcases g3 q hq with h | h
    ·exact o1 q h
    ·have:=f1.size; omega
end
section
variable {H:A3} {ow:Nat->Nat} {p n:Nat} {k:Bk} {f:Cf} {G:List (List Nat)}
theorem JD (h:RM H ow p n k f) {a:Option Addr} {m c q:Nat} (hq:f.ls.length=2 * q) (hls:q<=1000000) :
  CallF Tryz.prog 64 [hp p,.slice a m c] H (fun v H'=>v=.tuple #[]/\∃ ow' lv,RM H' ow' p n k (f.yf lv (f.ls ++ [.bool false,.slice a m c]))/\Ex H ow H' ow') NoP:=by
 have bl:=Fh (P:=Tryz.prog) (t:=79) (parts:=[(1,.slice a m c)]) (v:=.agg #[.bool false,.slice a m c])
  (by simp [Gq,T.tg,T.xy,CG,DY,chk,Value.cells])
 have bs:∀ Hx:A3,buildSliceV Tryz.prog Hx 36 1 [(0,.agg #[.bool false,.slice a m c])]=some (.slice (some ⟨Hx.size,0,none⟩) 1 1,Hx.push (.cells #[.bool false,.slice a m c] 79)):=by
  intro Hx
  refine Ee (vs:=[.agg #[.bool false,.slice a m c]]) ?_
  simp [bsl,T.tu,T.ue,T.xy,chk,Value.cells]
 have c3:A5 H ⟨p,3,none⟩=some f.lines:=h.c 3
 obtain ⟨la,ll,lc,el,hl⟩:=h.lines.vec.len
 have hll:ll=q:=by omega
 refine A9 Tryz.func64 rfl Tryz.ntmps64 Tryz.results64 (by decide) rfl ?_
 simp (disch:=omega) only [go_sem,↓cB,c3,bl,bs]
 refine Hd (n:=1) (new:=[.bool false,.slice a m c]) T.eh rfl h.lines.vec (by simp [Cb]) rfl (by intro a' l c' e; rw [el] at e; simp only [Value.slice.injEq] at e; omega) ?_
 intro v' H2 g1 g2 g3 g4
 obtain ⟨a2,c2,rfl⟩:=g4 _ _ _ el
 obtain ⟨m6,e6,b6⟩:=h.pr (l:=f.ls ++ [.bool false,.slice a m c]) g1 g2 g3
 have w6:=b6.wr (i:=3) (by simp [CZ]) (.slice a2 (ll + 1) c2)
 simp (disch:=omega) only [go_sem,↓cB,w6]
 exact fin ⟨rfl,_,_,m6,e6⟩
def HIn (n:Nat) (f:Cf):Prop:=∀ v:Nat,1<=v->v<=n->(∀ x ∈ f.tr,x / 2 ≠ v)->nt f.pl v ≠ -1
structure SOK (H:A3) (ow:Nat->Nat) (p n:Nat) (k:Bk) (f:Cf) (G:List (List Nat)):Prop where
 m:RM H ow p n k f
 r:Rl n f
 si:SI n f.s f.C f.w G f.head
 hin:HIn n f
 sn:∀ v,v<=n->bt f.seen v=false
 stp:1024<=f.step/\f.step<=1099511627776
 n:n<=1000
def Cf.yt (f:Cf):=(f.conf,f.room,f.rounds,f.loaded,(f.given,f.gs,f.gl),f.model,f.core,f.dead)
structure Gw (f f':Cf) (d:Nat):Prop where
 key:f'.yt=f.yt
 ls:f'.ls.length<=f.ls.length + 2 * d
 lrn:f'.lrn.length<=f.lrn.length + d
 C:f'.C.length<=f.C.length + d
theorem HIn.pre {f f':Cf} (h:HIn n f) (hp:f.tr <+: f'.tr) (hpl:∀ v,(nt f'.pl v = -1↔nt f.pl v = -1)):HIn n f':=by
 intro v h1 h2 h3 h4
 exact h v h1 h2 (fun x hx=>h3 x (hp.subset hx)) ((hpl v).1 h4)
theorem HIn.cut {f f':Cf} (h:HIn n f) {q:Nat} (ht:f'.tr=f.tr.take q) (hpl:∀ v,(nt f'.pl v = -1↔nt f.pl v = -1/\v ∉ (f.tr.drop q).map (· / 2))):HIn n f':=by
 intro v h1 h2 h3 h4
 obtain ⟨h5,h6⟩:=(hpl v).1 h4
 refine h v h1 h2 (fun x hx e=>?_) h5
 rw [<- Zn q f.tr] at hx
 rcases Jh.1 hx with hx | hx
 ·exact h3 x (by rw [ht]; exact hx) e
 ·exact h6 (Ji.2 ⟨x,hx,e⟩)
theorem Ex.jk {H':A3} {ow' ow'':Nat->Nat} (h:Ex H ow H' ow') (ho:∀ b,b < H.size->ow'' b=ow' b):Ex H ow H' ow'':=⟨h.sm,fun b hb=>by rw [ho b hb,h.ow b hb]⟩
theorem Rq {s:St} {y:Nat} {w:Option Nat} (h:Inv n (s.push y w)):y ∉ s.tr/\neg y ∉ s.tr:=by
 have hn:((s.tr ++ [y]).map (· / 2)).Nodup:=h.ok.nodup
 rw [Zf] at hn
 have:=(Y8.1 hn).2.2
 exact ⟨fun e=>this (y / 2) (Ji.2 ⟨y,e,rfl⟩) (y / 2) (by simp) rfl,fun e=>this (y / 2) (Ji.2 ⟨neg y,e,Av y⟩) (y / 2) (by simp) rfl⟩
structure Lnd (H:A3) (ow:Nat->Nat) (n:Nat) (ls ls':List Value) (G:List (List Nat)) (l:List Nat):Prop where
 ex:∃ w zs idle,ls'=ls ++ [.bool false,w]/\Vec H 3 1 w (zs.map iv)/\(∀ b ∈ own w,ow b=0)/\NF (l.map Ct) zs idle
 code:(∀ z ∈ l,isC n z)/\(l.map (· / 2)).Nodup
 ru:∀ T,Clo T G->¬ ∀ z ∈ l,T (neg z)
theorem MP (h:RM H ow p n k f) (hr:Rl n f) {c x:Nat} {K D:List Nat} (hV:VI n f.s f.C f.w G f.head x K (c :: D)) (hall:∀ y ∈ f.lits c,neg y ∈ f.tr) (hn:n<=1000) (h0:1<=f.st.length) (hst:f.st.length<=1000000)
  (hsn:∀ v,v<=n->bt f.seen v=false) (hstep:1024<=f.step/\f.step<=1099511627776) (hin:HIn n f) {q:Nat} (hq:f.ls.length=2 * q) (hls:q<=1000000) (hlrn:f.lrn.length<=1000000) (hC:f.C.length<=100000) :
  CallF Tryz.prog 61 [hp p,pv c] H (fun v H'=>v=.tuple #[]/\∃ ow' f' l,SOK H' ow' p n k f' (l :: G)/\Lnd H' ow' n f.ls f'.ls G l/\Ex H ow H' ow'/\f.s.N n < f'.s.N n/\Gw f f' 1/\f'.ls.length=2 * (q + 1)/\∃ L,∃ hL:L < f.st.length,f'.st=f.st.take L/\f.tr.take f.st[L] <+: f'.tr) NoP:=by
 refine A9 Tryz.func61 rfl Tryz.ntmps61 Tryz.results61 (by decide) rfl ?_
 simp (disch:=omega) only [go_sem,↓cB]
 refine A7 (Ky (G:=G) h hr hV hall hn h0 hst hsn ⟨by omega,by omega⟩) ?_
 rintro v H1 ⟨sn,m,os,pl,ac,l,lv,to,rfl,m1,hpl,hsn1,e1,v1,o1,hana⟩
 obtain ⟨x0,t,hlt,hlrn',hcase⟩:=hana.ex
 have hx0:∃ i:Nat,f.tr[i]?=some x0:=by obtain ⟨i,hi,_⟩:=hlrn'.at'; exact ⟨i,hi⟩
 obtain ⟨i0,hi0⟩:=hx0
 have hlc:∀ z ∈ l,isC n z/\(z ∈ f.tr\/neg z ∈ f.tr):=by
  intro z hz
  refine ⟨hana.code.1 z hz,.inr ?_⟩
  rw [hlt] at hz
  rcases J7.1 hz with rfl | hz
  ·rw [neg_neg]; exact J2 hi0
  ·obtain ⟨j,hj,_⟩:=hlrn'.low z hz
   exact J2 hj
 have hll:l.length<=n:=BQ hana.code.1 hana.code.2
 have hto:=hlrn'.lt
 have hto':to < f.st.length:=hto
 simp (disch:=omega) only [go_sem,↓cB]
 refine A7 (LH m1 ⟨hr.vals,hr.lv⟩ hV.inv hn v1 hlc (by omega)) ?_
 rintro v H2 ⟨f2,lq,rfl,hlq⟩
 have m2:=m1.out f2 (by simp)
 simp (disch:=omega) only [go_sem,↓cB]
 refine A7 (Oe m2 ⟨hr.vals,hr.lv⟩ hV.inv hn hto') ?_
 rintro v H3 ⟨rfl,f3,m3,r3,e3,hs3,hh3,hk3,hpl3⟩
 have hfree:∀ b ∈ own lv,ow b=0:=fun b hb=>h.free (o1 b hb)
 have v3:Vec H3 3 1 lv (nv l):=e3.vec (v1.frame f2 (by simp)) hfree
 have hl1:∀ z ∈ l,isC n z:=fun z hz=>(hlc z hz).1
 simp (disch:=omega) only [go_sem,↓cB]
 refine A7 (O9 (p:=p) hn v3 hl1 (by omega)) ?_
 rintro v H4 ⟨f4,zs,idle,v4,o4,hnf⟩
 have m4:=m3.out f4 (by simp)
 have v4':=v3.frame f4 (by simp)
 obtain ⟨wa,wc,ew,-⟩:=(IL.yq v4).ex
 subst ew
 have hls3:f3.ls=f.ls:=by
  have:=congrArg (fun z=>z.1.2.2.2.1) hk3
  exact this
 simp (disch:=omega) only [go_sem,↓cB]
 refine A7 (JD m4 (by rw [hls3]; exact hq) hls) ?_
 rintro v H5 ⟨rfl,ow5,lnv,m5,e5⟩
 have v5:Vec H5 3 1 lv (nv l):=e5.vec v4' hfree
 have hk3':=hk3
 simp only [Cf.qc,Cf.key,Jx] at hk3'
 obtain ⟨⟨k1,k2,k3,k4,k5,k6,k7,k8,k9,k10,k11,k12,k13⟩,k14,k15,k16,k17,k18⟩:=hk3'
 have e05:Ex H ow H5 ow5:=((e1.trans (Ex.of (Sm.of (R:=fun _=>False) f2 (by simp)) (by simp))).trans e3).trans ((Ex.of (Sm.of (R:=fun _=>False) f4 (by simp)) (by simp)).trans e5)
 have hhin5:HIn n (f3.yf lnv (f3.ls ++ [.bool false,.slice wa zs.length wc])):=by
  have hin1:HIn n ((f.zx sn).zj m os pl ac):=hin.pre (Zl _) hpl
  exact hin1.cut (f':=f3.yf lnv (f3.ls ++ [.bool false,.slice wa zs.length wc])) (q:=f.st[to]) (congrArg St.tr hs3) hpl3
 have hst3:f3.st.length<=1000000:=by
  have:f3.st=f.st.take to:=congrArg St.st hs3
  rw [this]; simp; omega
 obtain ⟨la,lc,el⟩:∃ la lc,lv=.slice la l.length lc:=by
  obtain ⟨a,len,c',e,e2⟩:=v5.len
  rw [Am,Jy] at e2; subst e2
  exact ⟨a,c',e⟩
 obtain ⟨b5,o5,c5,e5',k05⟩:=Bc v5 (i:=0) (u:=iv ((neg x0:Nat):Int)) (by rw [hlt]; rfl)
 rw [Am] at e5'
 rw [Zc] at k05
 have hx0c:isC n (neg x0):=hl1 _ (by rw [hlt]; simp)
 have m5k:∀ v,v<=n->bt f3.seen v=false:=by rw [k9]; exact hsn1
 have hstep3:1024<=f3.step/\f3.step<=1099511627776:=by rw [k13]; exact hstep
 have ow4:∀ b ∈ own (.slice wa zs.length wc),b < H4.size/\ow b=0:=fun b hb=>⟨v4.lt b hb,m3.free (o4 b hb)⟩
 have hv5w:=e5.vec v4 fun b hb=>(ow4 b hb).2
 have ho5w:∀ b ∈ own (.slice wa zs.length wc),ow5 b=0:=fun b hb=>by rw [e5.ow b (ow4 b hb).1]; exact (ow4 b hb).2
 have lnd:∀ {Hx H':A3} {owx ow':Nat->Nat} {ls':List Value},Vec Hx 3 1 (.slice wa zs.length wc) (zs.map iv)->(∀ b ∈ own (.slice wa zs.length wc),owx b=0)->Ex Hx owx H' ow'->ls'=f.ls ++ [.bool false,.slice wa zs.length wc]->Lnd H' ow' n f.ls ls' G l:=fun {Hx H' owx ow' ls'} hv ho ex hls =>
  ⟨⟨_,zs,idle,hls,ex.vec hv ho,fun b hb=>by rw [ex.ow b (hv.lt b hb)]; exact ho b hb,hnf⟩,hana.code,hana.so⟩
 have FJ:∀ {H7:A3} {ow7:Nat->Nat} {f7:Cf} {w:Option Nat},RM H7 ow7 p n k f7->Rl n f7->Ex H ow H7 ow7->A5 H7 ⟨b5,o5,none⟩=some (iv ((neg x0:Nat):Int))->Inv n f7.s->SI n (f7.s.push (neg x0) w) f7.C f7.w (l :: G) f7.head->f.s.N n < (f7.s.push (neg x0) w).N n->HIn n f7->f7.st.length<=1000000 ->
   (∀ v,v<=n->bt f7.seen v=false)->(1024<=f7.step/\f7.step<=1099511627776)->Gw f f7 1->f7.ls.length=2 * (q + 1)->(f7.st=f.st.take to/\f7.tr=f.tr.take f.st[to]) ->
   CallF Tryz.prog 117 [sp p,iv (neg x0),pn w] H7 (fun v H'=>∃ ow' f',v=.tuple #[]/\RM H' ow' p n k f'/\(1024<=f'.step/\f'.step<=1099511627776)/\∀ st' m os pl ac H'' ,RM H'' ow' p n k ((f'.uw st').zj m os pl ac)->Ex H' ow' H'' ow'->(1024<=st'/\st'<=1099511627776)->(∀ v,(nt pl v = -1↔nt f'.pl v = -1)) ->
    ∃ ow' f',SOK H'' ow' p n k f' (l :: G)/\Ex H ow H'' ow'/\Ex H7 ow7 H'' ow'/\f.s.N n < f'.s.N n/\Gw f f' 1/\f'.ls.length=2 * (q + 1)/\f'.ls=f7.ls/\∃ L,∃ hL:L < f.st.length,f'.st=f.st.take L/\f.tr.take f.st[L] <+: f'.tr) NoP:=by
  intro H7 ow7 f7 w m7 r7 e7 kk hi7 hsi hN hh7 hst7 hsn7 hstp7 hgw hlsq hcut
  obtain ⟨n1,n2⟩:=Rq hsi.inv
  refine (DZ m7 r7 hi7 hn hx0c n1 n2 hst7 w).to ?_
  rintro v H8 ⟨rfl,ow8,vs8,lv8,la8,v8,m8,r8,e8⟩
  refine ⟨ow8,_,rfl,m8,hstp7,fun st' m os pl ac H'' m9 e9 hs9 hp9=>?_⟩
  refine ⟨ow8,_,⟨m9,⟨r8.vals,r8.lv⟩,hsi,?_,hsn7,hs9,hn⟩,(e7.trans e8).trans e9,e8.trans e9,hN,⟨hgw.key,hgw.ls,hgw.lrn,hgw.C⟩,hlsq,rfl,to,hto',hcut.1,by
   show _ <+: f7.tr ++ [neg x0]
   rw [hcut.2]; exact Yx _ _⟩
  exact hh7.pre (f':=(((f7.push (neg x0) w vs8 lv8 la8 v8).uw st').zj m os pl ac)) (Yx _ _) hp9
 rcases hcase with ⟨ht0,hto0⟩ | ⟨h1to,y,t',ht',j,hj,hjl⟩
 ·have hl1':l.length=1:=by rw [hlt,ht0]; rfl
  rw [hl1'] at e5' el
  subst e5'
  simp only [Value.slice.injEq] at el
  obtain ⟨rfl,-,rfl⟩:=el
  simp (disch:=omega) only [go_sem,↓cB]
  refine As (lk [tl 0,tl 1,tl 2,tl 3,tl 4,tl 5,tl 6] (.act 7 .fin .non)) T.mixed ?_
  simp (disch:=omega) only [go_sem,↓cB,k05]
  subst hto0
  rw [ht0] at hlrn'
  have hlearn:=hV.jq hlrn'
  have hl1x:l = [neg x0]:=by rw [hlt,ht0]
  refine A7 (FJ (f7:=f3.yf lnv (f3.ls ++ [.bool false,.slice wa zs.length wc])) (w:=none) m5 ⟨r3.vals,r3.lv⟩ e05 k05 ?_ ?_ ?_ hhin5 hst3 m5k hstep3 ?_ ?_ ⟨congrArg St.st hs3,congrArg St.tr hs3⟩) ?_
  ·show Inv n f3.s
   rw [hs3]; exact hV.inv.cut hto
  ·show SI n (f3.s.push (neg x0) none) f3.C f3.w (l :: G) f3.head
   rw [hs3,k1,k14,hh3,hl1x]; exact hlearn.1
  ·show f.s.N n < (f3.s.push (neg x0) none).N n
   rw [hs3]; exact hlearn.2
  ·refine ⟨?_,?_,?_,?_⟩
   ·show f3.yt=f.yt
    simp only [Cf.yt,k2,k5,k6,k7,k8,k10,k11,k12]
   ·show (f3.ls ++ _).length<=_
    rw [hls3]; simp
   ·show f3.lrn.length<=_
    rw [k3]; show f.lrn.length<=_; omega
   ·show f3.C.length<=_
    rw [k1]; show f.C.length<=_; omega
  ·show (f3.ls ++ _).length=_
   rw [hls3]; simp; omega
  ·rintro v H8 ⟨ow8,f8,rfl,m8,hs8,hfin⟩
   simp (disch:=omega) only [go_sem,↓cB]
   refine A7 (JA m8 hs8) ?_
   rintro v H9 ⟨rfl,st9,m9,os9,pl9,ac9,mm9,e9,hst9,hpl9⟩
   simp (disch:=omega) only [go_sem,↓cB]
   obtain ⟨ow',f',z1,z2,z2b,z3,z4,z5,z7,z6⟩:=hfin st9 m9 os9 pl9 ac9 H9 mm9 e9 hst9 hpl9
   exact fin ⟨rfl,ow',f',l,z1,lnd hv5w ho5w z2b (z7.trans (by show f3.ls ++ _=_; rw [hls3])),z2,z3,z4,z5,z6⟩
 ·have hll2:l.length=t'.length + 2:=by rw [hlt,ht']; rfl
  have hlx:l=neg x0 :: y :: t':=by rw [hlt,ht']
  subst el
  simp only [Value.slice.injEq] at e5'
  obtain ⟨rfl,-,rfl⟩:=e5'
  have bl:=Fh (P:=Tryz.prog) (t:=182) (parts:=[(0,.slice (some ⟨b5,o5,none⟩) l.length lc),(1,iv lq)]) (v:=.agg #[.slice (some ⟨b5,o5,none⟩) l.length lc,iv lq,.bool false])
   (by simp [Gq,T.vq,T.se,CG,DY,chk,Value.cells])
  obtain ⟨H6,hH6⟩:∃ H6,H5.push (.cells #[.slice (some ⟨b5,o5,none⟩) l.length lc,iv lq,.bool false] 182)=H6:=⟨_,rfl⟩
  have f6:Fr [] H5 H6:=by rw [<- hH6]; exact Fr.push
  have hbk:Blk H6 H5.size 182 [.slice (some ⟨b5,o5,none⟩) l.length lc,iv lq,.bool false]:=by rw [<- hH6]; exact Blk.new rfl
  have hz6:H6.size=H5.size + 1:=by rw [<- hH6]; simp
  have hb5:H.size<=b5:=o1 b5 (by simp [own])
  have hb5':b5 < H5.size:=v5.lt b5 (by simp [own])
  have how5:ow5 b5=0:=by
   have hb4:b5 < H4.size:=v4'.lt b5 (by simp [own])
   rw [e5.ow b5 hb4]; exact hfree b5 (by simp [own])
  obtain ⟨ow6,how6⟩:∃ ow6:Nat->Nat,ow6=fun b=>if b=H5.size then 18 else if b=b5 then 101 + 2 * H5.size else ow5 b:=⟨_,rfl⟩
  have z5:ow5 H5.size=0:=m5.free (Jb _)
  have m6a:=m5.out f6 (by simp)
  have m6b:=m6a.xe (ow':=ow6) (fun b hb=>by
   have n1:b ≠ H5.size:=fun e=>hb (by rw [e]; exact z5)
   have n2:b ≠ b5:=fun e=>hb (by rw [e]; exact how5)
   rw [how6]; simp only
   rw [J4 n1,J4 n2]) (fun b hb=>by
   rw [how6] at hb; simp only at hb
   split at hb
   ·omega
   ·split at hb
    ·omega
    ·have:=m5.lo b hb; omega)
  have hcn:H5.size ∉ (f3.yf lnv (f3.ls ++ [.bool false,.slice wa zs.length wc])).C:=fun e=>by
   have:=(m5.con _ e).blk.blk.lt; omega
  have hCR:CR H6 ow6 H5.size (.slice (some ⟨b5,o5,none⟩) l.length lc) l lq:=by
   refine ⟨⟨hbk,by rw [how6]; simp⟩,⟨v5.frame f6 (by simp),fun b hb=>?_⟩⟩
   simp only [own,J6] at hb
   rw [hb,how6]
   show (if b5=H5.size then 18 else if b5=b5 then 101 + 2 * H5.size else ow5 b5)=_
   rw [J4 (by omega),J8 rfl]
  have m6:=m6b.px hcn hCR
  have ho6w:∀ b ∈ own (.slice wa zs.length wc),ow6 b=0:=fun b hb=>by
   have h1:=o4 b hb
   have h2:b5 < H1.size:=v1.lt b5 (by simp [own])
   have h3:=f2.size
   have h4:=e3.sm.size
   have h5:=(ow4 b hb).1
   have h6:=e5.sm.size
   rw [how6]; simp only
   rw [J4 (by omega),J4 (by omega)]
   exact ho5w b hb
  have e06:Ex H ow H6 ow6:=(e05.trans (Ex.of (Sm.of (R:=fun _=>False) f6 (by simp)) (by simp))).jk (fun b hb=>by
   rw [how6]; simp only
   have:=e05.sm.size
   rw [J4 (by omega),J4 (by omega)])
  have c18:A5 H6 ⟨p,18,none⟩=some f3.learned:=m6.c 18
  obtain ⟨na,nl,nc,en,hnl⟩:=m6.learned.vec.len
  have hnl':f3.lrn.length=nl:=by simpa using hnl
  have hlr3:f3.lrn.length<=1000000:=by rw [k3]; exact hlrn
  have hlearn:=hV.jo (c:=H5.size) (y:=y) (r:=t') (to:=to) (x0:=x0) (by rw [<- ht']; exact hlrn') ⟨j,hj,hjl⟩ (by
   intro e
   have e':H5.size ∈ (f3.yf lnv (f3.ls ++ [.bool false,.slice wa zs.length wc])).C:=by show H5.size ∈ f3.C; rw [k1]; exact e
   exact hcn e') (by rw [<- hlx]; exact hana.code) h1to
  have en':f3.learned=.slice na nl nc:=en
  rw [en'] at c18
  simp (disch:=omega) only [go_sem,↓cB,bl]
  rw [hH6]
  simp (disch:=omega) only [go_sem,↓cB,c18]
  refine AK T.vh rfl (by rw [<- en']; exact m6.learned.vec) rfl (by rw [Jm]; show (2 * (f3.lrn.length + 1) + 200) * _<=_; omega) ?_
  intro v' H7 g1 g2 g3 g4
  obtain ⟨a',c',rfl⟩:=g4
  rw [<- en'] at g2 g3
  obtain ⟨m7,e7,b7⟩:=m6.tx (l:=f3.lrn ++ [H5.size]) (by rw [Zf]; exact g1) g2 g3
  have w7:=b7.wr (i:=18) (by simp [CZ]) (.slice a' ((f3.lrn.map pv).length + 1) c')
  simp (disch:=omega) only [go_sem,↓cB,w7]
  have hyc:isC n y:=hana.code.1 y (by rw [hlx]; simp)
  have hxy:neg x0 ≠ y:=by
   intro e
   have:=hana.code.2
   rw [hlx,e] at this
   simp at this
  refine A7 (GC m7 (c:=H5.size) (a:=neg x0) (b:=y) (r:=t') (by show H5.size ∈ H5.size :: f3.C; simp) (by show upd f3.lits H5.size l H5.size=_; rw [A8]; exact hlx) (AP hx0c).1 (AP hyc).1 hxy (fun z=>by
   show (f3.w z).length<=_
   rw [k14]
   have:=hV.wi.len z
   show (f.w z).length<=_
   have hh:(f.w z).length<=f.C.length:=this
   omega)) ?_
  rintro v H8 ⟨rfl,ow8,ws8,m8,e8⟩
  have k08:A5 H8 ⟨b5,o5,none⟩=some (iv ((neg x0:Nat):Int)):=by
   have:=m8.zp (c:=H5.size) (lb:=b5) (lo:=o5) (i:=0) (x:=neg x0) (by show H5.size ∈ H5.size :: f3.C; simp) (by show upd f3.lb H5.size _ H5.size=_; rw [A8]) (by show (upd f3.lits H5.size l H5.size)[0]?=_; rw [A8,hlx]; rfl)
   rw [Zc] at this; exact this
  simp (disch:=omega) only [go_sem,↓cB]
  refine As (lk [tl 0,tl 1,tl 2,tl 3,tl 4,tl 5,tl 6] (.act 7 .fin .non)) T.mixed ?_
  simp (disch:=omega) only [go_sem,↓cB,k08]
  have hR:Rl n (((f3.yf lnv (f3.ls ++ [.bool false,.slice wa zs.length wc])).gu (H5.size :: f3.C) (upd f3.lits H5.size l) (upd f3.lb H5.size (.slice (some ⟨b5,o5,none⟩) l.length lc)) (upd f3.l2 H5.size lq)).uy (.slice a' ((f3.lrn.map pv).length + 1) c') (f3.lrn ++ [H5.size]) |>.yw ws8 (att f3.w H5.size (neg x0) y)):=⟨r3.vals,r3.lv⟩
  refine A7 (FJ (w:=some H5.size) m8 hR ((e06.trans e7).trans e8) k08 ?_ ?_ ?_ hhin5 hst3 m5k hstep3 ?_ ?_ ⟨congrArg St.st hs3,congrArg St.tr hs3⟩) ?_
  ·show Inv n (f3.s.lit H5.size l)
   have hic:Inv n f3.s:=by rw [hs3]; exact hV.inv.cut hto
   refine hic.lits fun i z c' hi hc'=>Af fun e=>?_
   subst e
   have hcc:H5.size ∈ f3.C:=by
    rw [k1]
    have hz:(f.s.cut to f.st[to]).rea (z / 2)=some H5.size:=by have h2:f3.s.rea (z / 2)=some H5.size:=hc'; rw [hs3] at h2; exact h2
    have hz2:(f.s.cut to f.st[to]).tr[i]?=some z:=by have h2:f3.s.tr[i]?=some z:=hi; rw [hs3] at h2; exact h2
    exact hV.wi.cut.rs i z H5.size hz2 hz
   exact hcn hcc
  ·show SI n ((f3.s.lit H5.size l).push (neg x0) (some H5.size)) (H5.size :: f3.C) (att f3.w H5.size (neg x0) y) (l :: G) f3.head
   rw [hs3,k1,k14,hh3,hlx]; exact hlearn.1
  ·show f.s.N n < ((f3.s.lit H5.size l).push (neg x0) (some H5.size)).N n
   rw [hs3,hlx]; exact hlearn.2
  ·refine ⟨?_,?_,?_,?_⟩
   ·show f3.yt=f.yt
    simp only [Cf.yt,k2,k5,k6,k7,k8,k10,k11,k12]
   ·show (f3.ls ++ _).length<=_
    rw [hls3]; simp
   ·show (f3.lrn ++ _).length<=_
    rw [k3]; show (f.lrn ++ _).length<=_; simp
   ·show (H5.size :: f3.C).length<=_
    rw [k1]; show (H5.size :: f.C).length<=_; simp
  ·show (f3.ls ++ _).length=_
   rw [hls3]; simp; omega
  ·rintro v H9 ⟨ow9,f9,rfl,m9,hs9,hfin⟩
   simp (disch:=omega) only [go_sem,↓cB]
   refine A7 (JA m9 hs9) ?_
   rintro v H10 ⟨rfl,st9,mm9,os9,pl9,ac9,m10,e10,hst9,hpl9⟩
   simp (disch:=omega) only [go_sem,↓cB]
   obtain ⟨ow',f',z1,z2,z2b,z3,z4,z5,z7,z6⟩:=hfin st9 mm9 os9 pl9 ac9 H10 m10 e10 hst9 hpl9
   exact fin ⟨rfl,ow',f',l,z1,lnd (hv5w.frame f6 (by simp)) ho6w ((e7.trans e8).trans z2b) (z7.trans (by show f3.ls ++ _=_; rw [hls3])),z2,z3,z4,z5,z6⟩
end
end Go.Proofs.YtkdlmdmlomgdiaaGreat
namespace Go.Sat
structure Fin (n:Nat) (s:St) (x i:Nat) (seen:Nat->Bool) (ds:List Nat):Prop where
 at':∀ v,seen v=true->∃ j z:Nat,j < i/\s.tr[j]?=some z/\z / 2=v/\1<=lev s.st j
 so:∀ T,Holds s T->(∀ y ∈ x :: ds,T y)->∃ j z:Nat,j < i/\s.tr[j]?=some z/\1<=lev s.st j/\seen (z / 2)=true/\¬ T z
 dec:∀ y ∈ ds,s.rea (y / 2)=none/\∃ j:Nat,s.tr[j]?=some y/\1<=lev s.st j
 len:ds.length + i<=s.tr.length
theorem Fin.start {n:Nat} {s:St} {x j:Nat} (hj:s.tr[j]?=some (neg x)) (hl:1<=lev s.st j):Fin n s x s.tr.length (up1 (fun _=>false) (x / 2) true) []:=by
 have hjl:=(J3.1 hj).1;refine ⟨fun v hs=>?_,fun m hm hy=>?_,fun y hy=>by simp at hy,by simp⟩
 ·unfold up1 at hs;split at hs
  ·rename_i e;exact ⟨j,neg x,hjl,hj,by rw [Av,e],hl⟩
  ·cases hs
 ·refine ⟨j,neg x,hjl,hj,hl,by rw [Av]; simp [up1],?_⟩;exact hm.con x (hy x (by simp))
theorem Fin.skip {n:Nat} {s:St} {x i z:Nat} {seen:Nat->Bool} {ds:List Nat} (h:Fin n s x (i + 1) seen ds) (hz:s.tr[i]?=some z) (hs:seen (z / 2)=false):Fin n s x i seen ds:=by
 refine ⟨fun v hv=>?_,fun m hm hy=>?_,h.dec,by have:=h.len; omega⟩
 ·obtain ⟨j,y,h1,h2,h3,h4⟩:=h.at' v hv;by_cases e:j=i
  ·subst e; rw [hz] at h2; have:=Jj h2; subst this; rw [h3,hv] at hs; cases hs
  ·exact ⟨j,y,by omega,h2,h3,h4⟩
 ·obtain ⟨j,y,h1,h2,h3,h4,h5⟩:=h.so m hm hy;by_cases e:j=i
  ·subst e; rw [hz] at h2; have:=Jj h2; subst this; rw [h4] at hs; cases hs
  ·exact ⟨j,y,by omega,h2,h3,h4,h5⟩
theorem Fin.ae {n:Nat} {s:St} {x i z:Nat} {seen:Nat->Bool} {ds:List Nat} (hv:Inv n s) (h:Fin n s x (i + 1) seen ds) (hz:s.tr[i]?=some z) (hs:seen (z / 2)=true) (hr:s.rea (z / 2)=none):Fin n s x i (up1 seen (z / 2) false) (ds ++ [z]):=by
 have hlv:1<=lev s.st i:=by
  obtain ⟨j,y,h1,h2,h3,h4⟩:=h.at' _ hs;have:=hv.ok.idx h2 hz h3;subst this; exact h4
 refine ⟨fun v hv'=>?_,fun m hm hy=>?_,fun y hy=>?_,by have:=h.len; simp; omega⟩
 ·unfold up1 at hv';split at hv'
  ·cases hv'
  ·rename_i hne;obtain ⟨j,y,h1,h2,h3,h4⟩:=h.at' v hv';by_cases e:j=i
   ·subst e; rw [hz] at h2; have:=Jj h2; subst this; exact absurd h3.symm hne
   ·exact ⟨j,y,by omega,h2,h3,h4⟩
 ·have hsub:∀ y ∈ x :: ds,y ∈ x :: (ds ++ [z]):=by
   intro y hy';rcases J7.1 hy' with rfl | h'
   ·simp
   ·simp [h']
  obtain ⟨j,y,h1,h2,h3,h4,h5⟩:=h.so m hm (fun y hy'=>hy y (hsub y hy'))
  by_cases e:j=i
  ·subst e; rw [hz] at h2; have:=Jj h2; subst this
   exact absurd (hy z (by simp)) h5
  ·refine ⟨j,y,by omega,h2,h3,?_,h5⟩
   unfold up1
   rw [J4 (fun e2=>e (hv.ok.idx h2 hz e2))]
   exact h4
 ·rcases Jh.1 hy with hy | hy
  ·exact h.dec y hy
  ·have:=J6.1 hy;subst this;exact ⟨hr,i,hz,hlv⟩
def mkS (s:St) (seen:Nat->Bool) (l:List Nat):Nat->Bool:=l.foldl (fun f y=>up1 f (y / 2) (f (y / 2) || decide (0 < s.lv (y / 2)))) seen
theorem TG {s:St} {seen:Nat->Bool} {l:List Nat} {y:Nat}:mkS s seen (l ++ [y])=up1 (mkS s seen l) (y / 2) (mkS s seen l (y / 2) || decide (0 < s.lv (y / 2))):=by simp [mkS]
theorem IF {s:St}:∀ (l:List Nat) (seen:Nat->Bool) (v:Nat),mkS s seen l v=true↔seen v=true\/∃ y ∈ l,y / 2=v/\0 < s.lv v
 | [],seen,v=>by simp [mkS]
 | y :: l,seen,v=>by
  show mkS s (up1 seen (y / 2) (seen (y / 2) || decide (0 < s.lv (y / 2)))) l v=true↔_;rw [IF l];unfold up1;by_cases e:v=y / 2
  ·subst e;simp only [Zr,Z9,Jk,J7];constructor
   ·rintro ((h | h) | ⟨z,h1,h2,h3⟩)
    ·exact .inl h
    ·exact .inr ⟨y,.inl rfl,rfl,h⟩
    ·exact .inr ⟨z,.inr h1,h2,h3⟩
   ·rintro (h | ⟨z,h1 | h1,h2,h3⟩)
    ·exact .inl (.inl h)
    ·exact .inl (.inr h3)
    ·exact .inr ⟨z,h1,h2,h3⟩
  ·rw [J4 e];simp only [J7];constructor
   ·rintro (h | ⟨z,h1,h2,h3⟩)
    ·exact .inl h
    ·exact .inr ⟨z,.inr h1,h2,h3⟩
   ·rintro (h | ⟨z,h1 | h1,h2,h3⟩)
    ·exact .inl h
    ·exact absurd (by rw [<- h2,h1]) e
    ·exact .inr ⟨z,h1,h2,h3⟩
theorem Fin.why {n:Nat} {s:St} {x i z c:Nat} {seen:Nat->Bool} {ds r:List Nat} (hv:Inv n s) (h:Fin n s x (i + 1) seen ds) (hz:s.tr[i]?=some z) (hs:seen (z / 2)=true) (hr:s.rea (z / 2)=some c) (hl:s.lits c=z :: r) (hf:∀ y ∈ r,Fls s.tr i y) :
  Fin n s x i (mkS s (up1 seen (z / 2) false) r) ds:=by
 refine ⟨fun v hv'=>?_,fun m hm hy=>?_,h.dec,by have:=h.len; omega⟩
 ·rw [IF] at hv'
  rcases hv' with hv' | ⟨y,hy,h1,h2⟩
  ·unfold up1 at hv'
   split at hv'
   ·cases hv'
   ·rename_i hne
    obtain ⟨j,y,h1,h2,h3,h4⟩:=h.at' v hv'
    by_cases e:j=i
    ·subst e; rw [hz] at h2; have:=Jj h2; subst this; exact absurd h3.symm hne
    ·exact ⟨j,y,by omega,h2,h3,h4⟩
  ·obtain ⟨j,hj,hj2⟩:=hf y hy
   have:s.lv (y / 2)=lev s.st j:=F1 hv hj2
   subst h1
   exact ⟨j,neg y,hj,hj2,Av y,by omega⟩
 ·obtain ⟨j,y,h1,h2,h3,h4,h5⟩:=h.so m hm hy
  by_cases e:j=i
  ·subst e
   rw [hz] at h2
   have:=Jj h2
   subst this
   have hw0:=hm.why j z c hz hr
   rw [hl] at hw0
   obtain ⟨w,hw,hmw⟩:=JV hw0 h5
   ·obtain ⟨q,hq,hq2⟩:=hf w hw
    have hlq:1<=lev s.st q:=by
     by_cases h0:lev s.st q=0
     ·exact absurd (hm.zero q _ hq2 h0) hmw
     ·omega
    refine ⟨q,neg w,hq,hq2,hlq,?_,hmw⟩
    rw [IF]
    exact .inr ⟨w,hw,(Av w).symm,by rw [Av,F1 hv hq2]; omega⟩
  ·refine ⟨j,y,by omega,h2,h3,?_,h5⟩
   rw [IF]
   left
   unfold up1
   rw [J4 (fun e2=>e (hv.ok.idx h2 hz e2))]
   exact h4
theorem Fin.done {n:Nat} {s:St} {x i:Nat} {seen:Nat->Bool} {ds:List Nat} (h:Fin n s x i seen ds) (h0:∀ j,j < i->lev s.st j=0):(∀ v,seen v=false)/\∀ T,Holds s T->¬ ∀ y ∈ x :: ds,T y:=by
 refine ⟨fun v=>?_,fun m hm hy=>?_⟩
 ·cases hv:seen v
  ·rfl
  ·obtain ⟨j,z,h1,_,_,h4⟩:=h.at' v hv;have:=h0 j h1; omega
 ·obtain ⟨j,z,h1,_,h3,_⟩:=h.so m hm hy;have:=h0 j h1; omega
end Go.Sat
namespace Go.Proofs.YtkdlmdmlomgdiaaGreat
open Go.HL HM Go.Sat
section
variable {H:A3} {ow:Nat->Nat} {p n:Nat} {k:Bk} {f:Cf} {G:List (List Nat)}
theorem MQ (h:RM H ow p n k f) (hr:Rl n f) (hi:Inv n f.s) (hw:WI n f.s f.C f.w) (hn:n<=1000) {x:Nat} (hx:isC n x) (hxt:neg x ∈ f.tr) (hsn:∀ v,v<=n->bt f.seen v=false) :
  CallF Tryz.prog 127 [hp p,iv x] H (fun v H'=>∃ sn ds,RM H' ow p n k (f.zx sn)/\(∀ v,v<=n->bt sn v=false)/\Ex H ow H' ow/\Vec H' 3 1 v (((x :: ds).map Ct).map iv)/\(∀ b ∈ own v,H.size<=b) /\
   (∀ y ∈ ds,f.rea (y / 2)=none/\∃ j:Nat,f.tr[j]?=some y/\1<=lev f.st j)/\ds.length<=n/\∀ T,Holds f.s T->¬ ∀ y ∈ x :: ds,T y) NoP:=by
 obtain ⟨x1,x2,x3,x4⟩:=AP hx
 have htn:f.tr.length<=n:=hi.ok.len
 obtain ⟨j0,hj0⟩:=Jc hxt
 have hh:=Gg x
 obtain ⟨G1,hG1⟩:∃ G1,H.push (.cells #[iv (Ct x)] 3)=G1:=⟨_,rfl⟩
 have f1:Fr [] H G1:=by rw [<- hG1]; exact Fr.push
 have m1:=h.out f1 (by simp)
 have v1:Vec G1 3 1 (.slice (some ⟨H.size,0,none⟩) 1 1) (([x].map Ct).map iv):=⟨.inr ⟨H.size,1,1,[],[],rfl,by rw [<- hG1]; exact Blk.new rfl,rfl,rfl,Jb _⟩⟩
 have c10:A5 G1 ⟨p,10,none⟩=some (sl k.bl (n + 1)):=m1.c 10
 have clv:=m1.tn hr hj0
 rw [Av] at clv
 have e01:Ex H ow G1 ow:=Ex.of (Sm.of (R:=fun _=>False) f1 (by simp)) (by simp)
 refine A9 Tryz.func127 rfl Tryz.ntmps127 Tryz.results127 (by decide) rfl ?_
 simp (disch:=omega) only [go_sem,↓cB]
 refine A7 (DN (x:=x) (by omega)) ?_
 rintro v H1 ⟨rfl,rfl⟩
 by_cases h0:lev f.st j0=0
 ·rw [h0] at clv
  have clv':A5 G1 ⟨k.bl,x / 2,none⟩=some (iv 0):=clv
  simp (disch:=omega) only [go_sem,↓cB]
  rw [hG1]
  simp (disch:=omega) only [go_sem,↓cB,c10,hh,clv']
  refine fin ⟨f.seen,[],m1,hsn,e01,v1,by simp [own],by simp,by simp,fun T hT hy=>?_⟩
  exact hT.con x (hy x (by simp)) (hT.zero j0 _ hj0 h0)
 ·obtain ⟨H2,w2,m2,e2⟩:=m1.yy (x:=x / 2) x3 true
  have c12:A5 G1 ⟨p,12,none⟩=some (sl k.bs (n + 1)):=m1.c 12
  obtain ⟨ta,tc,et⟩:=h.trail.form
  rw [Am] at et
  have c14:A5 H2 ⟨p,14,none⟩=some (.slice ta f.tr.length tc):=by rw [<- et]; exact m2.c 14
  have htl:((f.tr.length:Nat):Int) - 1=(f.tr.length:Int) - 1:=rfl
  simp (disch:=omega) only [go_sem,↓cB]
  rw [hG1]
  simp (disch:=omega) only [go_sem,↓cB,c10,c12,hh,clv,w2,c14]
  have hstn:0 < f.st.length:=by
   have:=DP (st:=f.st) (i:=j0); omega
  obtain ⟨s0,hs0⟩:∃ s0,f.st[0]?=some s0:=⟨_,J1 hstn⟩
  have hlev:∀ j,1<=lev f.st j↔s0<=j:=by
   intro j;have h1:=Dk hi.sorted (i:=j) (k:=0) hstn;have h2:f.s.st[0]'hstn=s0:=by
    have:f.st[0]?=some (f.st[0]'hstn):=J1 hstn;rw [this] at hs0; exact Jj hs0
   rw [h2] at h1;exact h1
  have hs0l:s0<=f.tr.length:=hi.bound s0 (J2 hs0)
  refine Ae (fun j U H3=>∃ (i:Nat) (sn:List Bool) (seen:Nat->Bool) (ds:List Nat) (rv:Value),j=i - s0/\s0<=i/\i<=f.tr.length/\(U.get 0=hp p/\U.get 5=rv/\U.get 6=iv ((i:Int) - 1)/\U.ds = []) /\
   RM H3 ow p n k (f.zx sn)/\(∀ v,v<=n->bt sn v=seen v)/\Fin n f.s x i seen ds/\Ex H1 ow H3 ow/\Vec H3 3 1 rv (((x :: ds).map Ct).map iv)/\∀ b ∈ own rv,H1.size<=b) (k:=f.tr.length - s0) ?_ ?_
  ·refine ⟨f.tr.length,f.seen.set (x / 2) true,up1 (fun _=>false) (x / 2) true,[],_,rfl,hs0l,Jb _,by simp (disch:=omega) only [go_sem,↓cB],m2,fun v hv=>?_,Fin.start hj0 (by show 1<=lev f.st j0; omega),e01.trans e2,e2.vec v1 (by simp only [own,J6]; rintro b rfl; exact h.free (Jb _)),by simp [own]⟩
   unfold Go.Sat.up1
   by_cases e:v=x / 2
   ·subst e; rw [J8 rfl,Dt (by rw [h.ns]; exact x3)]
   ·rw [J4 e,Ds (Ne.symm e)]; exact hsn v hv
  ·rintro _ U H3 ⟨i,sn,seen,ds,rv,rfl,hsi,hil,⟨r0,r5,r6,rd⟩,m3,hsn3,hF,e3,v3,o3⟩
   obtain ⟨sb,so,sc,es,-,ks⟩:=m3.starts.cell (Bu hs0)
   rw [Am,Zc] at *
   have c15:A5 H3 ⟨p,15,none⟩=some (.slice (some ⟨sb,so,none⟩) f.st.length sc):=by
    have:=m3.c 15;rw [this]; exact congrArg some es
   have hlenF:=hF.len
   have hlenF':ds.length + i<=f.tr.length:=hlenF
   by_cases hie:i=s0
   ·subst hie
    simp (disch:=omega) only [go_sem,↓cB,r0,r5,r6,rd,c15,ks]
    obtain ⟨hd1,hd2⟩:=hF.done (fun j hj=>by
     have:=hlev j;show lev f.st j=0;omega)
    exact fin ⟨sn,ds,m3,fun v hv=>by rw [hsn3 v hv,hd1 v],e3,v3,o3,hF.dec,by omega,hd2⟩
   ·obtain ⟨z,hz⟩:∃ z,f.tr[i - 1]?=some z:=⟨_,J1 (by omega)⟩
    have hzc:isC n z:=hi.ok.code z (J2 hz)
    obtain ⟨z1,z2,z3,z4⟩:=AP hzc
    have hhz:=Gg z
    have hi1:(i:Int) - 1=((i - 1:Nat):Int):=by omega
    have hi2:((i - 1:Nat):Int) - 1=(((i - 1:Nat):Nat):Int) - 1:=rfl
    obtain ⟨i',hi'⟩:∃ i',i=i' + 1:=⟨i - 1,by omega⟩
    subst hi'
    rw [W4] at hz hi1
    obtain ⟨tb,to,tc',et',-,kz⟩:=m3.trail.cell (Bu hz)
    have et2:f.trail=.slice (some ⟨tb,to,none⟩) f.tr.length tc':=by have:=et'; rw [Am] at this; exact this
    have c14':A5 H3 ⟨p,14,none⟩=some (.slice (some ⟨tb,to,none⟩) f.tr.length tc'):=by rw [<- et2]; exact m3.c 14
    have c12':A5 H3 ⟨p,12,none⟩=some (sl k.bs (n + 1)):=m3.c 12
    have csn:=m3.tk z3
    rw [hsn3 _ (by omega)] at csn
    rw [hi1] at r6
    cases hsz:seen (z / 2)
    ·rw [hsz] at csn
     simp (disch:=omega) only [go_sem,↓cB,r0,r5,r6,rd,c15,ks,c14',kz,c12',hhz,csn]
     exact fin ⟨i' - s0,by omega,i',sn,seen,ds,rv,rfl,by omega,by omega,by simp (disch:=omega) only [go_sem,↓cB,r0,r5,r6,rd],m3,hsn3,hF.skip hz hsz,e3,v3,o3⟩
    ·rw [hsz] at csn
     have c11:A5 H3 ⟨p,11,none⟩=some (sl k.br (n + 1)):=m3.c 11
     obtain ⟨H4,w4,m4,e4⟩:=m3.yy (x:=z / 2) z3 false
     have d11:A5 H4 ⟨p,11,none⟩=some (sl k.br (n + 1)):=m4.c 11
     have cr:=m4.gb z3
     have hsn4:∀ v,v<=n->bt (sn.set (z / 2) false) v=up1 seen (z / 2) false v:=by
      intro v hv;have hsl:sn.length=n + 1:=m3.ns;unfold Go.Sat.up1;by_cases e:v=z / 2
      ·subst e; rw [J8 rfl,Dt (by rw [hsl]; exact z3)]
      ·rw [J4 e,Ds (Ne.symm e)]; exact hsn3 v hv
     have v4:Vec H4 3 1 rv (((x :: ds).map Ct).map iv):=e4.vec v3 (fun b hb=>h.free (o3 b hb))
     cases hre:f.rea (z / 2) with
     | none =>
      have cr':A5 H4 ⟨k.br,z / 2,none⟩=some (.pointer none):=(by rw [cr]; show some (pn (f.rea (z / 2)))=_; rw [hre]; rfl);simp (disch:=omega) only [go_sem,↓cB,r0,r5,r6,rd,c15,ks,c14',kz,c12',hhz,csn,w4,d11,cr'];refine A7 (DN (x:=z) (by omega)) ?_;rintro v H5 ⟨rfl,rfl⟩;simp (disch:=omega) only [go_sem,↓cB,r0,r5,r6,rd];refine AK T.zk rfl v4 rfl (by simp; omega) ?_;intro v' H6 g1 g2 g3 g4;simp (disch:=omega) only [go_sem,↓cB,r0,r5,r6,rd];have e6:=(e3.trans e4).fresh g2 o3;refine fin ⟨i' - s0,by omega,i',sn.set (z / 2) false,_,ds ++ [z],v',rfl,by omega,by omega,by simp (disch:=omega) only [go_sem,↓cB,r0,r5,r6,rd],m4.out g2 (fun b hb=>h.free (o3 b hb)),hsn4,hF.ae hi hz hsz hre,e6,?_,fun b hb=>?_⟩
      ·have:((x :: (ds ++ [z])).map Ct).map iv=((x :: ds).map Ct).map iv ++ [iv (Ct z)]:=(by simp);rw [this]; exact g1
      ·rcases g3 b hb with h1 | h1
       ·exact o3 b h1
       ·have:=(e3.trans e4).sm.size; omega
     | some c =>
      have cr':A5 H4 ⟨k.br,z / 2,none⟩=some (pv c):=(by rw [cr]; show some (pn (f.rea (z / 2)))=_; rw [hre]; rfl);have hcC:c ∈ f.C:=hw.rs i' z c hz hre;obtain ⟨t,hlt,hft⟩:=hi.why i' z c hz hre;have hlt':f.lits c=z :: t:=hlt;have hcl:=hw.cl c hcC;have hl2:2<=(f.lits c).length:=hcl.1;obtain ⟨lb,lo,lc,el,hlc,d0⟩:=m4.xf (c:=c) hcC hl2;have d0':A5 H4 ⟨c,0,none⟩=some (.slice (some ⟨lb,lo,none⟩) (f.lits c).length lc):=d0;have hlc':(f.lits c).length<=lc:=hlc;have htl:(f.lits c).length - 1=t.length:=(by rw [hlt']; rfl);have hlen:(f.lits c).length<=n:=BQ hcl.2.1 hcl.2.2;have hne2:¬ lc=1:=(by omega);simp (disch:=omega) only [go_sem,↓cB,r0,r5,r6,rd,c15,ks,c14',kz,c12',hhz,csn,w4,d11,cr',d0',hne2,Z3,htl];refine Ae (fun j U H5=>∃ (q:Nat) (sn5:List Bool),j=t.length - q/\q<=t.length/\(U.get 0=hp p/\U.get 5=rv/\U.get 6=iv (i':Int)/\U.get 97=.slice (some ⟨lb,lo + 1,none⟩) t.length (lc - 1)/\U.get 98=iv t.length/\U.get 99=iv q/\U.ds = []) /\
       RM H5 ow p n k (f.zx sn5)/\(∀ v,v<=n->bt sn5 v=mkS f.s (up1 seen (z / 2) false) (t.take q) v)/\Ex H1 ow H5 ow/\Vec H5 3 1 rv (((x :: ds).map Ct).map iv)) (k:=t.length) ?_ ?_
      ·exact ⟨0,sn.set (z / 2) false,rfl,by omega,by simp (disch:=omega) only [go_sem,↓cB,r0,r5,r6,rd],m4,hsn4,e3.trans e4,v4⟩
      ·clear r0 r5 r6 rd c15 ks c14' kz c12' csn w4 d11 cr' d0' d0 cr;rintro _ U H5 ⟨q,sn5,rfl,hqt,⟨r0,r5,r6,r97,r98,r99,rd⟩,m5,hsn5,e5,v5⟩;by_cases hqe:q=t.length
       ·subst hqe;rw [Jr] at hsn5;simp (disch:=omega) only [go_sem,↓cB,r0,r5,r6,r97,r98,r99,rd];exact fin ⟨i' - s0,by omega,i',sn5,_,ds,rv,rfl,by omega,by omega,by simp (disch:=omega) only [go_sem,↓cB,r0,r5,r6,rd],m5,hsn5,hF.why hi hz hsz hre hlt hft,e5,v5,o3⟩
       ·obtain ⟨y,hy⟩:∃ y,t[q]?=some y:=⟨_,J1 (by omega)⟩;have hym:=J2 hy;have hyc:isC n y:=hcl.2.1 y (by rw [hlt]; simp [hym]);obtain ⟨y1,y2,y3,y4⟩:=AP hyc;obtain ⟨jy,hjy,hjy2⟩:=hft y hym;have hlvy:f.s.lv (y / 2)=lev f.st jy:=F1 hi hjy2;have hhy:=Gg y;have ky:=m5.zp (c:=c) hcC el (i:=q + 1) (x:=y) (by show (f.lits c)[q + 1]?=_; rw [hlt']; exact hy);rw [show lo + (q + 1)=lo + 1 + q by omega] at ky;have c12':A5 H5 ⟨p,12,none⟩=some (sl k.bs (n + 1)):=m5.c 12;have c10':A5 H5 ⟨p,10,none⟩=some (sl k.bl (n + 1)):=m5.c 10;have clvy:=m5.tn ⟨hr.vals,hr.lv⟩ hjy2;rw [Av] at clvy;have csy:=m5.tk y3;have csy':A5 H5 ⟨k.bs,y / 2,none⟩=some (.bool (mkS f.s (up1 seen (z / 2) false) (t.take q) (y / 2))):=(by rw [<- hsn5 _ (by omega)]; exact csy);have hq1:(q:Int) + 1=((q + 1:Nat):Int):=(by omega);have htk:t.take (q + 1)=t.take q ++ [y]:=(by rw [Jl,hy]; rfl);obtain ⟨H6,w6,m6,e6⟩:=m5.yy (x:=y / 2) y3 (mkS f.s (up1 seen (z / 2) false) (t.take q) (y / 2) || decide (0 < f.s.lv (y / 2)));have hsn6:∀ v,v<=n->bt (sn5.set (y / 2) (mkS f.s (up1 seen (z / 2) false) (t.take q) (y / 2) || decide (0 < f.s.lv (y / 2)))) v=mkS f.s (up1 seen (z / 2) false) (t.take (q + 1)) v:=by
         intro v hv;have hsl:sn5.length=n + 1:=m5.ns;rw [htk,TG];unfold Go.Sat.up1;by_cases e:v=y / 2
         ·subst e; rw [J8 rfl,Dt (by rw [hsl]; exact y3)]
         ·rw [J4 e,Ds (Ne.symm e)]; exact hsn5 v hv
        have nxt:∀ U':En,(U'.get 0=hp p/\U'.get 5=rv/\U'.get 6=iv (i':Int)/\U'.get 97=.slice (some ⟨lb,lo + 1,none⟩) t.length (lc - 1)/\U'.get 98=iv t.length/\U'.get 99=iv ((q + 1:Nat):Int)/\U'.ds = [])->∃ (q':Nat) (sn5:List Bool),t.length - (q + 1)=t.length - q'/\q'<=t.length/\(U'.get 0=hp p/\U'.get 5=rv/\U'.get 6=iv (i':Int)/\U'.get 97=.slice (some ⟨lb,lo + 1,none⟩) t.length (lc - 1)/\U'.get 98=iv t.length/\U'.get 99=iv q'/\U'.ds = []) /\
          RM H6 ow p n k (f.zx sn5)/\(∀ v,v<=n->bt sn5 v=mkS f.s (up1 seen (z / 2) false) (t.take q') v)/\Ex H1 ow H6 ow/\Vec H6 3 1 rv (((x :: ds).map Ct).map iv) :=
         fun U' hU=>⟨q + 1,_,rfl,by omega,hU,m6,hsn6,e5.trans e6,e6.vec v5 (fun b hb=>h.free (o3 b hb))⟩
        cases hm:mkS f.s (up1 seen (z / 2) false) (t.take q) (y / 2)
        ·rw [hm] at csy' w6;rw [hlvy] at w6;have hd:decide (0 < lev f.st jy)=decide ((0:Int) < ((lev f.st jy:Nat):Int)):=Xr.2 (by omega);have hd':(false || decide (0 < lev f.s.st jy))=decide ((0:Int) < ((lev f.st jy:Nat):Int)):=hd;have w6':wr H5 ⟨k.bs,y / 2,none⟩ (.bool (decide ((0:Int) < ((lev f.st jy:Nat):Int))))=some H6:=(by rw [<- hd]; exact w6);simp (disch:=omega) only [go_sem,↓cB,r0,r5,r6,r97,r98,r99,rd,ky];refine As (lk [tl 0,tl 1,tl 2,tl 3,tl 4,tl 5,tl 6,tl 7,tl 8,tl 9,tl 10,tl 11,tl 12,tl 13,tl 14,tl 15,tl 16,tl 17,tl 18,tl 19,tl 20,tl 21,tl 22,tl 23,tl 24,tl 25,tl 26,tl 27,tl 28] (.act 29 .fin .non)) T.mixed ?_;simp (disch:=omega) only [go_sem,↓cB,r0,r5,r6,r97,r98,r99,rd,ky,c12',c10',hhy,csy',clvy,w6'];exact fin ⟨t.length - (q + 1),by omega,nxt _ (by simp (disch:=omega) only [go_sem,↓cB,r0,r5,r6,r97,r98,r99,rd,hq1])⟩
        ·rw [hm] at csy' w6;simp only [Bool.true_or] at w6;simp (disch:=omega) only [go_sem,↓cB,r0,r5,r6,r97,r98,r99,rd,ky];refine As (lk [tl 0,tl 1,tl 2,tl 3,tl 4,tl 5,tl 6,tl 7,tl 8,tl 9,tl 10,tl 11,tl 12,tl 13,tl 14,tl 15,tl 16,tl 17,tl 18,tl 19,tl 20,tl 21,tl 22,tl 23,tl 24,tl 25,tl 26,tl 27,tl 28] (.act 29 .fin .non)) T.mixed ?_;simp (disch:=omega) only [go_sem,↓cB,r0,r5,r6,r97,r98,r99,rd,ky,c12',c10',hhy,csy',clvy,w6];exact fin ⟨t.length - (q + 1),by omega,nxt _ (by simp (disch:=omega) only [go_sem,↓cB,r0,r5,r6,r97,r98,r99,rd,hq1])⟩
end
section
variable {H:A3} {ow:Nat->Nat} {p n:Nat} {k:Bk} {f:Cf} {G:List (List Nat)}
def mdl (n:Nat) (s:St) (i:Nat):List Bool:=(List.range n).map fun j=>decide (j < i) && decide (0 < s.val (2 * j + 2))
theorem TM {s:St} {i:Nat}:(mdl n s i).set i (decide (0 < s.val (2 * i + 2)))=mdl n s (i + 1):=by
 apply Ye (by simp [mdl]);intro j h1 h2;rw [List.getElem_set];simp only [mdl,Xu,V4];by_cases e:i=j
 ·subst e; simp
 ·rw [J4 e];have:decide (j < i)=decide (j < i + 1):=Xr.2 (by omega);rw [this]
theorem Od (h:RM H ow p n k f) (hr:Rl n f) (hi:Inv n f.s) (hn:n<=1000) :
  CallF Tryz.prog 130 [hp p] H (fun v H'=>v=.tuple #[]/\∃ w,RM H' ow p n k (f.zy w)/\Ex H ow H' ow/\Vec H' 4 1 w ((mdl n f.s n).map Value.bool)/\∀ b ∈ own w,H.size<=b) NoP:=by
 obtain ⟨G1,hG1⟩:∃ G1,H.push (.cells (List.replicate n (.bool false)).toArray 4)=G1:=⟨_,rfl⟩
 have f1:Fr [] H G1:=by rw [<- hG1]; exact Fr.push
 have hb1:Blk G1 H.size 4 ((mdl n f.s 0).map Value.bool):=by
  rw [<- hG1];have:(mdl n f.s 0).map Value.bool=List.replicate n (.bool false):=by
   apply Ye (by simp [mdl]);intro j h1 h2;simp [mdl]
  rw [this]; exact Blk.new rfl
 have m1:=h.out f1 (by simp)
 obtain ⟨H2,w2,m2,e2⟩:=m1.we (.slice (some ⟨H.size,0,none⟩) n n)
 have e01:Ex H ow G1 ow:=Ex.of (Sm.of (R:=fun _=>False) f1 (by simp)) (by simp)
 have c0:A5 H ⟨p,0,none⟩=some (iv n):=h.c 0
 have d0:A5 H2 ⟨p,0,none⟩=some (iv n):=m2.c 0
 have hfr:ow H.size=0:=h.free (Jb _)
 have hb2:=e2.blk hb1 hfr
 refine A9 Tryz.func130 rfl Tryz.ntmps130 Tryz.results130 (by decide) rfl ?_
 simp (disch:=omega) only [go_sem,↓cB,c0,hG1,w2,d0]
 refine Ae (fun j U H3=>∃ i:Nat,j=n - i/\i<=n/\(U.get 0=hp p/\U.get 14=iv n/\U.get 15=iv i/\U.ds = [])/\RM H3 ow p n k (f.zy (.slice (some ⟨H.size,0,none⟩) n n))/\Ex H ow H3 ow/\Blk H3 H.size 4 ((mdl n f.s i).map Value.bool)) (k:=n) ?_ ?_
 ·exact ⟨0,rfl,by omega,by simp (disch:=omega) only [go_sem,↓cB],m2,e01.trans e2,hb2⟩
 ·rintro _ U H3 ⟨i,rfl,hin,⟨r0,r14,r15,rd⟩,m3,e3,b3⟩
  by_cases hie:i=n
  ·subst hie
   simp (disch:=omega) only [go_sem,↓cB,r0,r14,r15,rd]
   refine fin ⟨rfl,_,m3,e3,⟨.inr ⟨H.size,i,i,[],[],rfl,by simpa using b3,by simp [mdl],by simp,Jb _⟩⟩,by simp [own]⟩
  ·have c5:A5 H3 ⟨p,5,none⟩=some (.slice (some ⟨H.size,0,none⟩) n n):=m3.c 5
   have c9:A5 H3 ⟨p,9,none⟩=some (sl k.bv (2 * n + 2)):=m3.c 9
   have cv:=m3.uu ⟨hr.vals,hr.lv⟩ (x:=2 * i + 2) (by omega)
   have hi2:2 * (i:Int) + 2=((2 * i + 2:Nat):Int):=by omega
   have hi1:(i:Int) + 1=((i + 1:Nat):Int):=by omega
   have w4:=b3.wr (i:=i) (by simp [mdl]; omega) (.bool (decide (0 < f.s.val (2 * i + 2))))
   have b4:=b3.set i (.bool (decide (0 < f.s.val (2 * i + 2))))
   rw [<- Yn,TM] at b4
   generalize hH4:Aw H3 ⟨H.size,i,none⟩ (.bool (decide (0 < f.s.val (2 * i + 2))))=H4 at w4 b4
   have f4:Fr [H.size] H3 H4:=by rw [<- hH4]; exact Fr.set (by simp)
   have cv':A5 H3 ⟨k.bv,2 * i + 2,none⟩=some (.int .i8 (f.s.val (2 * i + 2))):=cv
   simp (disch:=omega) only [go_sem,↓cB,r0,r14,r15,rd]
   refine As (lk [tl 0,tl 1,tl 2,tl 3,tl 4,tl 5,tl 6,tl 7,tl 8,tl 9,tl 10,tl 11,tl 12,tl 13,tl 14,tl 15,tl 16] (.act 17 .fin .non)) T.mixed ?_
   simp (disch:=omega) only [go_sem,↓cB,r0,r14,r15,rd,c5,c9,hi2,cv',w4]
   exact fin ⟨n - (i + 1),by omega,i + 1,rfl,by omega,by simp (disch:=omega) only [go_sem,↓cB,r0,r14,r15,rd,hi1],m3.out f4 (by simpa using hfr),e3.fresh f4 (by simp),b4⟩
structure LA (xs st tr:List Nat):Prop where
 len:st.length<=xs.length + tr.length
 lb:∀ (q:Nat) (s:Nat),st[q]?=some s->q<=xs.length + s
 asu:∀ (i x:Nat),i < st.length->xs[i]?=some x->∃ j:Nat,tr[j]?=some x/\lev st j<=i + 1
theorem LA.zero {xs tr:List Nat}:LA xs [] tr:=⟨by simp,fun q s h=>by simp at h,fun i x h=>by simp at h⟩
theorem LA.pre {xs st tr tr':List Nat} (h:LA xs st tr) (hp:tr <+: tr'):LA xs st tr':=by
 obtain ⟨t,rfl⟩:=hp;refine ⟨by have:=h.len; simp; omega,h.lb,fun i x h1 h2=>?_⟩;obtain ⟨j,h3,h4⟩:=h.asu i x h1 h2;exact ⟨j,by rw [Jg (J3.1 h3).1]; exact h3,h4⟩
theorem LA.cut {xs:List Nat} {s:St} (hv:Inv n s) (h:LA xs s.st s.tr) {q:Nat} (hq:q < s.st.length):LA xs (s.st.take q) (s.tr.take s.st[q]):=by
 have hb:s.st[q]<=s.tr.length:=hv.bound _ (Y0 hq);refine ⟨?_,fun j z hj=>?_,fun i x h1 h2=>?_⟩
 ·have:=h.lb q s.st[q] (J1 hq);simp only [Ze]; omega
 ·rw [Xj] at hj;split at hj
  ·exact h.lb j z hj
  ·cases hj
 ·simp only [Ze] at h1;obtain ⟨j,h3,h4⟩:=h.asu i x (by omega) h2;have hl:=Dk hv.sorted (i:=j) hq;have hj:j < s.st[q]:=(by omega);exact ⟨j,by rw [Xj,J8 hj]; exact h3,by rw [Dd hv.sorted hq hj]; exact h4⟩
theorem LA.zf {xs st tr:List Nat} (h:LA xs st tr) (hlev:∀ j,j < tr.length->lev (st ++ [tr.length]) j=lev st j)
  (ha:∀ x,xs[st.length]?=some x->∃ j:Nat,tr[j]?=some x/\lev (st ++ [tr.length]) j<=st.length + 1) (hl:st.length + 1<=xs.length + tr.length):LA xs (st ++ [tr.length]) tr:=by
 refine ⟨by simpa using hl,fun q s hq=>?_,fun i x h2 h3=>?_⟩
 ·rcases Zg q st.length with h4 | h4 | h4
  ·rw [Jg h4] at hq; exact h.lb q s hq
  ·subst h4; simp at hq; subst hq; exact h.len
  ·rw [Jp (by simp; omega)] at hq; cases hq
 ·simp only [Jv,Zo] at h2
  by_cases h4:i < st.length
  ·obtain ⟨j,h5,h6⟩:=h.asu i x h4 h3
   exact ⟨j,h5,by rw [hlev j (J3.1 h5).1]; exact h6⟩
  ·have:i=st.length:=by omega
   subst this; exact ha x h3
theorem SOK.opened (h:SOK H ow p n k f G) (hh:f.head=f.tr.length) {H':A3} {ow':Nat->Nat} {v:Value} (m':RM H' ow' p n k (f.zu v (f.st ++ [f.tr.length]))):SOK H' ow' p n k (f.zu v (f.st ++ [f.tr.length])) G:=by
 refine ⟨m',⟨h.r.vals,fun i x hx=>?_⟩,h.si.zf hh,h.hin,h.sn,h.stp,h.n⟩;have hx':f.tr[i]?=some x:=hx;have e:lev (f.st ++ [f.tr.length]) i=lev f.st i:=De (s:=f.s) (J3.1 hx').1;show f.lvls[x / 2]?=some (lev (f.st ++ [f.tr.length]) i);rw [e]; exact h.r.lv i x hx'
theorem LJ (h:SOK H ow p n k f G) (hh:f.head=f.tr.length) {xs:List Nat} {lv:Value} (hv:Vec H 3 1 lv (nv xs)) (hlv:∀ b ∈ own lv,ow b=0) (hxs:∀ x ∈ xs,isC n x) (hxl:xs.length<=1000) (hla:LA xs f.st f.tr) :
  CallF Tryz.prog 63 [hp p,lv] H (fun v H' =>
   (v=.tuple #[iv 0,.slice none 0 0]/\∃ ow' f',SOK H' ow' p n k f' G/\Ex H ow H' ow'/\Gw f f' 0/\f.s.N n<=f'.s.N n/\f'.ls=f.ls/\LA xs f'.st f'.tr/\(∃ y,f'.tr=f.tr ++ [y]/\y ∉ f.tr/\neg y ∉ f.tr/\f'.head=f.tr.length/\(∀ q ∈ f'.st,q ∈ f.st\/q=f.tr.length)/\(f'.st.length<=xs.length->xs[f'.st.length - 1]?=some y))) \/
   (v=.tuple #[iv 1,.slice none 0 0]/\∃ ow' f' w,RM H' ow' p n k (f'.zy w)/\SOK H' ow' p n k (f'.zy w) G/\Ex H ow H' ow'/\Gw f f' 0/\f'.ls=f.ls/\f'.tr=f.tr/\f'.head=f'.tr.length/\LA xs f'.st f'.tr/\xs.length<=f'.st.length/\(∀ x,isC n x->x ∈ f.tr\/neg x ∈ f.tr)/\Vec H' 4 1 w ((mdl n f.s n).map Value.bool)/\(∀ b ∈ own w,H.size<=b/\ow' b=0)) \/
   (∃ core,v=.tuple #[iv 2,core]/\∃ ow' f' x ds,SOK H' ow' p n k f' G/\Ex H ow H' ow'/\Gw f f' 0/\f'.ls=f.ls/\f'.tr=f.tr/\f'.head=f'.tr.length/\LA xs f'.st f'.tr/\x ∈ xs/\neg x ∈ f.tr/\Vec H' 3 1 core (((x :: ds).map Ct).map iv)/\(∀ b ∈ own core,H.size<=b/\ow' b=0)/\ds.length<=n/\f'.st.length < xs.length /\
    (∀ y ∈ ds,f'.rea (y / 2)=none/\∃ j:Nat,f'.tr[j]?=some y/\1<=lev f'.st j)/\f'.rea=f.rea/\(∀ q ∈ f'.st,q ∈ f.st\/q=f.tr.length)/\∀ T,Holds f'.s T->¬ ∀ y ∈ x :: ds,T y)) NoP:=by
 obtain ⟨la,lc,el⟩:∃ la lc,lv=.slice la xs.length lc:=by
  obtain ⟨a,len,c',e,e2⟩:=hv.len;rw [Am,Jy] at e2; subst e2;exact ⟨a,c',e⟩
 subst el
 refine A9 Tryz.func63 rfl Tryz.ntmps63 Tryz.results63 (by decide) rfl ?_
 simp (disch:=omega) only [go_sem]
 refine Bp (fun U H1=>∃ ow1 f1,(U.get 0=hp p/\U.ds = [])/\SOK H1 ow1 p n k f1 G/\f1.head=f1.tr.length/\LA xs f1.st f1.tr/\f1.tr=f.tr/\f1.lrn=f.lrn/\f1.ls=f.ls/\f1.C=f.C/\f1.yt=f.yt/\f.s.N n<=f1.s.N n/\Ex H ow H1 ow1/\xs.length<=f1.st.length/\f1.rea=f.rea/\(∀ q ∈ f1.st,q ∈ f.st\/q=f.tr.length)) ?_ ?_
 ·simp (disch:=omega) only [go_sem,↓cB]
  refine Ae (fun j U H1=>∃ ow1 f1,j=xs.length - f1.st.length/\(U.get 0=hp p/\U.get 1=.slice la xs.length lc/\U.ds = [])/\SOK H1 ow1 p n k f1 G/\f1.head=f1.tr.length/\LA xs f1.st f1.tr/\f1.tr=f.tr/\f1.lrn=f.lrn/\f1.ls=f.ls/\f1.C=f.C/\f1.yt=f.yt/\f.s.N n<=f1.s.N n/\Ex H ow H1 ow1/\f1.rea=f.rea/\(∀ q ∈ f1.st,q ∈ f.st\/q=f.tr.length)) (k:=xs.length - f.st.length) ?_ ?_
  ·exact ⟨ow,f,rfl,by simp (disch:=omega) only [go_sem,↓cB],h,hh,hla,rfl,rfl,rfl,rfl,rfl,Jb _,Ex.refl,rfl,fun q hq=>.inl hq⟩
  ·rintro _ U H1 ⟨ow1,f1,rfl,⟨r0,r1,rd⟩,s1,hh1,la1,e1,e2,e3,e4,e5,e6,ex1,e7,e8⟩
   have e9:∀ q ∈ f1.st ++ [f1.tr.length],q ∈ f.st\/q=f.tr.length:=fun q hq=>by
    rcases Jh.1 hq with h | h
    ·exact e8 q h
    ·exact .inr (by rw [J6.1 h,e1])
   have v1:=ex1.vec hv hlv
   obtain ⟨sa,sc,es⟩:=s1.m.starts.form
   rw [Am] at es
   have c15:A5 H1 ⟨p,15,none⟩=some (.slice sa f1.st.length sc):=by rw [<- es]; exact s1.m.c 15
   have gw1:Gw f f1 0:=⟨e5,by rw [e3]; exact Jb _,by rw [e2]; exact Jb _,by rw [e4]; exact Jb _⟩
   by_cases hlt:f1.st.length < xs.length
   ·obtain ⟨x,hx⟩:∃ x,xs[f1.st.length]?=some x:=⟨_,J1 hlt⟩
    have hxm:=J2 hx
    have hxc:=hxs x hxm
    obtain ⟨x1,x2,x3,x4⟩:=AP hxc
    obtain ⟨b,o,cap,e,kx⟩:=Bc v1 (Bu hx)
    simp only [Value.slice.injEq] at e
    obtain ⟨rfl,-,rfl⟩:=e
    have c9:A5 H1 ⟨p,9,none⟩=some (sl k.bv (2 * n + 2)):=s1.m.c 9
    have cv:=s1.m.uu s1.r x1
    by_cases hneg:f1.s.val x < 0
    ·simp (disch:=omega) only [go_sem,↓cB,r0,r1,rd,c15,kx,c9,cv]
     have hnx:=(BG s1.si.inv).1 hneg
     refine A7 (MQ s1.m s1.r s1.si.inv s1.si.wi s1.n hxc hnx s1.sn) ?_
     rintro v H2 ⟨sn,ds,m2,hsn2,e22,v2,o2,hd,hdl,hso⟩
     simp (disch:=omega) only [go_sem,↓cB,r0,r1,rd]
     refine fin (.inr (.inr ⟨v,rfl,ow1,f1.zx sn,x,ds,⟨m2,⟨s1.r.vals,s1.r.lv⟩,s1.si,s1.hin,hsn2,s1.stp,s1.n⟩,ex1.trans e22,⟨gw1.key,gw1.ls,gw1.lrn,gw1.C⟩,e3,e1,hh1,la1,hxm,by rw [<- e1]; exact hnx,v2,fun b hb=>⟨by have:=o2 b hb; have:=ex1.sm.size; omega,s1.m.free (o2 b hb)⟩,hdl,hlt,hd,e7,e8,hso⟩))
    ·have hnx:neg x ∉ f1.tr:=fun e=>hneg ((BG s1.si.inv).2 e)
     have htn:f1.tr.length<=n:=s1.si.inv.ok.len
     have hst1:f1.st.length<=1000:=by omega
     have hn1:=s1.n
     simp (disch:=omega) only [go_sem,↓cB,r0,r1,rd,c15,kx,c9,cv]
     refine A7 (IY s1.m (by omega) (by omega)) ?_
     rintro v H2 ⟨rfl,ow2,sv,m2,e22⟩
     have s2:=s1.opened hh1 m2
     have c9':A5 H2 ⟨p,9,none⟩=some (sl k.bv (2 * n + 2)):=m2.c 9
     have cv':A5 H2 ⟨k.bv,x,none⟩=some (.int .i8 (f1.s.val x)):=m2.uu s2.r x1
     have hlev:∀ j,j < f1.tr.length->lev (f1.st ++ [f1.tr.length]) j=lev f1.st j:=fun j hj=>De (s:=f1.s) hj
     have hlend:lev (f1.st ++ [f1.tr.length]) f1.tr.length=f1.st.length + 1:=by
      have:=IK s2.si.inv;have h2:lev (f1.st ++ [f1.tr.length]) f1.tr.length=(f1.st ++ [f1.tr.length]).length:=this;rw [h2]; simp
     by_cases hz:f1.s.val x=0
     ·have hxt:=(Cq.1 hz).1
      rw [hz] at cv'
      simp (disch:=omega) only [go_sem,↓cB,r0,r1,rd,c9',cv']
      have hdec:=s1.si.decide hh1 hxc hxt hnx
      refine A7 (DZ m2 s2.r s2.si.inv s1.n hxc hxt hnx (by show (f1.st ++ [f1.tr.length]).length<=_; simp; omega) none) ?_
      rintro v H3 ⟨rfl,ow3,vs3,lv3,la3,v3,m3,r3,e33⟩
      simp (disch:=omega) only [go_sem,↓cB,r0,r1,rd]
      refine fin (.inl ⟨rfl,ow3,_,⟨m3,r3,hdec,?_,s1.sn,s1.stp,s1.n⟩,ex1.trans (e22.trans e33),⟨gw1.key,gw1.ls,gw1.lrn,gw1.C⟩,?_,e3,?_,x,?_,by rw [<- e1]; exact hxt,by rw [<- e1]; exact hnx,(show f1.head=_ by rw [hh1,e1]),e9,?_⟩)
      ·exact s1.hin.pre (f':=((f1.zu sv (f1.st ++ [f1.tr.length])).push x none vs3 lv3 la3 v3)) (Yx _ _) (fun v=>Iff.rfl)
      ·exact Js e6 (Js (OW (n:=n) (s:=f1.s)) (OV (s:=f1.s.zf) (x:=x) (w:=none)))
      ·show LA xs (f1.st ++ [f1.tr.length]) (f1.tr ++ [x])
       have hla:=la1.len
       refine ⟨by simp; omega,fun q s hq=>?_,fun i z h2 h3=>?_⟩
       ·rcases Zg q f1.st.length with h4 | h4 | h4
        ·rw [Jg h4] at hq; exact la1.lb q s hq
        ·subst h4; simp at hq; subst hq; exact hla
        ·rw [Jp (by simp; omega)] at hq; cases hq
       ·simp only [Jv,Zo] at h2
        by_cases h4:i < f1.st.length
        ·obtain ⟨j,h5,h6⟩:=la1.asu i z h4 h3
         exact ⟨j,CJ h5,by rw [hlev j (J3.1 h5).1]; exact h6⟩
        ·have:i=f1.st.length:=by omega
         subst this
         rw [hx] at h3
         have:=Jj h3
         subst this
         exact ⟨f1.tr.length,by simp,by rw [hlend]; exact Jb _⟩
      ·show f1.tr ++ [x]=f.tr ++ [x]
       rw [e1]
      ·intro _
       show xs[(f1.st ++ [f1.tr.length]).length - 1]?=some x
       simp only [Jv,Zo,W4]
       exact hx
     ·have hxt:x ∈ f1.tr:=by
       have:0 < f1.s.val x:=by
        have h1:f1.s.val x=1\/f1.s.val x = -1\/f1.s.val x=0:=by
         unfold St.val;split
         ·exact .inl rfl
         ·split
          ·exact .inr (.inl rfl)
          ·exact .inr (.inr rfl)
        omega
       exact Cu.1 this
      simp (disch:=omega) only [go_sem,↓cB,r0,r1,rd,c9',cv']
      obtain ⟨jx,hjx⟩:=Jc hxt
      have la2:LA xs (f1.st ++ [f1.tr.length]) f1.tr:=by
       refine la1.zf hlev (fun z hz2=>?_) (by omega);rw [hx] at hz2;have:=Jj hz2;subst this;refine ⟨jx,hjx,?_⟩;rw [hlev jx (J3.1 hjx).1];have:=DP (st:=f1.st) (i:=jx);omega
      refine fin ⟨xs.length - (f1.st.length + 1),by omega,ow2,f1.zu sv (f1.st ++ [f1.tr.length]),by show _=xs.length - (f1.st ++ [f1.tr.length]).length; simp,by simp (disch:=omega) only [go_sem,↓cB,r0,r1,rd],s2,hh1,la2,e1,e2,e3,e4,e5,Js e6 (OW (n:=n) (s:=f1.s)),ex1.trans e22,e7,e9⟩
   ·simp (disch:=omega) only [go_sem,↓cB,r0,r1,rd,c15]
    exact fin ⟨ow1,f1,by simp (disch:=omega) only [go_sem,↓cB,r0,rd],s1,hh1,la1,e1,e2,e3,e4,e5,e6,ex1,by omega,e7,e8⟩
 ·rintro U H1 ⟨ow1,f1,⟨r0,rd⟩,s1,hh1,la1,e1,e2,e3,e4,e5,e6,ex1,hxs1,e7,e8⟩
  simp (disch:=omega) only [go_sem,↓cB,r0,rd]
  refine Ae (fun j U H2=>∃ ow2 f2,j=f2.m/\(U.get 0=hp p/\U.ds = [])/\SOK H2 ow2 p n k f2 G/\f2.head=f2.tr.length/\LA xs f2.st f2.tr/\f2.tr=f.tr/\f2.lrn=f.lrn/\f2.ls=f.ls/\f2.C=f.C/\f2.yt=f.yt/\f.s.N n<=f2.s.N n/\Ex H ow H2 ow2/\xs.length<=f2.st.length/\(∀ q ∈ f2.st,q ∈ f.st\/q=f.tr.length)) (k:=f1.m) ?_ ?_
  ·exact ⟨ow1,f1,rfl,by simp (disch:=omega) only [go_sem,↓cB,r0,rd],s1,hh1,la1,e1,e2,e3,e4,e5,e6,ex1,hxs1,e8⟩
  ·clear r0 rd s1 hh1 la1 e1 e2 e3 e4 e5 e6 ex1 hxs1 e7 e8 f1 ow1
   rintro _ U H2 ⟨ow2,f2,rfl,⟨r0,rd⟩,s2,hh2,la2,e1,e2,e3,e4,e5,e6,ex2,hxs2,e8⟩
   have e9:∀ q ∈ f2.st ++ [f2.tr.length],q ∈ f.st\/q=f.tr.length:=fun q hq=>by
    rcases Jh.1 hq with h | h
    ·exact e8 q h
    ·exact .inr (by rw [J6.1 h,e1])
   have gw2:Gw f f2 0:=⟨e5,by rw [e3]; exact Jb _,by rw [e2]; exact Jb _,by rw [e4]; exact Jb _⟩
   have c7:A5 H2 ⟨p,7,none⟩=some (pv k.ho):=s2.m.c 7
   have hg:=s2.m.order.hg
   have hn:=s2.n
   by_cases hm0:f2.m=0
   ·rw [hm0] at hg
    have hall:∀ x,isC n x->x ∈ f2.tr\/neg x ∈ f2.tr:=by
     intro x hx;obtain ⟨x1,x2,x3,x4⟩:=AP hx;by_cases hno:∀ z ∈ f2.tr,z / 2 ≠ x / 2
     ·exfalso;have h1:=s2.hin (x / 2) x4 (by omega) hno;rcases hg.ok.pos (x / 2) x4 (by omega) with h2 | ⟨h2,h3,_⟩
      ·exact h1 h2
      ·omega
     ·simp only [ne_eq,Classical.not_forall,Decidable.not_not] at hno;obtain ⟨z,hz,e⟩:=hno;rcases O3 e with rfl | rfl
      ·exact .inl hz
      ·right; exact hz
    simp (disch:=omega) only [go_sem,↓cB,r0,rd,c7]
    refine A7 (Qg hg) ?_
    rintro v H3 ⟨rfl,rfl⟩
    simp (disch:=omega) only [go_sem,↓cB,r0,rd]
    refine A7 (Od s2.m s2.r s2.si.inv s2.n) ?_
    rintro v H3 ⟨rfl,w,m3,e33,v3,o3⟩
    simp (disch:=omega) only [go_sem,↓cB,r0,rd]
    have hval:f2.s.val=f.s.val:=by
     funext x;unfold St.val;have:f2.s.tr=f.s.tr:=e1;rw [this]
    have hmdl:mdl n f2.s n=mdl n f.s n:=by unfold mdl; rw [hval]
    rw [hmdl] at v3
    exact fin (.inr (.inl ⟨rfl,ow2,f2,w,m3,⟨m3,⟨s2.r.vals,s2.r.lv⟩,s2.si,s2.hin,s2.sn,s2.stp,s2.n⟩,ex2.trans e33,gw2,e3,e1,hh2,la2,hxs2,by rw [<- e1]; exact hall,v3,fun b hb=>⟨by have:=o3 b hb; have:=ex2.sm.size; omega,s2.m.free (o3 b hb)⟩⟩))
   ·have hrng:=hg.ok.rng 0 (by omega)
    obtain ⟨v,hv0⟩:∃ v:Nat,(nt f2.os 0)=v:=⟨(nt f2.os 0).toNat,by omega⟩
    have hv1:1<=v/\v<=n:=by omega
    simp (disch:=omega) only [go_sem,↓cB,r0,rd,c7]
    refine A7 (Qf hg (by omega)) ?_
    rintro r H3 ⟨rfl,f3,os3,pl3,hg3,hp3⟩
    rw [hv0] at hp3 ⊢
    have hf3:Fr [k.ho,k.hb,k.hp,k.ha] H2 H3:=f3.mono (fun b _ hb=>by simp only [J7,Z6,Ya] at hb ⊢; rcases hb with h1 | h1 | h1 <;> simp [h1])
    have m3:=s2.m.xi hg3 hf3
    have e33:Ex H2 ow2 H3 ow2:=Ex.of (R:=fun r=>11<=r/\r<=14) (Sm.of hf3 (by
     intro b hb;have q1:=s2.m.order.o1; have q2:=s2.m.order.o2; have q3:=s2.m.order.o3; have q4:=s2.m.order.o4;simp only [J7,Z6,Ya] at hb;rcases hb with rfl | rfl | rfl | rfl <;> omega)) (by omega)
    have r3:Rl n (f2.zj (f2.m - 1) os3 pl3 f2.ac):=⟨s2.r.vals,s2.r.lv⟩
    have c9:A5 H3 ⟨p,9,none⟩=some (sl k.bv (2 * n + 2)):=m3.c 9
    have cv:A5 H3 ⟨k.bv,2 * v,none⟩=some (.int .i8 (f2.s.val (2 * v))):=m3.uu r3 (x:=2 * v) (by omega)
    have h2v:2 * (v:Int)=((2 * v:Nat):Int):=by omega
    have hvc:isC n (2 * v):=by unfold isC; omega
    have hp3':∀ u,(nt pl3 u = -1↔nt f2.pl u = -1\/u=v):=by
     intro u;have:=hp3 u;rwa [Z4] at this
    by_cases hz:f2.s.val (2 * v)=0
    ·obtain ⟨hz1,hz2⟩:=Cq.1 hz
     rw [hz] at cv
     simp (disch:=omega) only [go_sem,↓cB,r0,rd,c9,h2v,cv]
     have htn:f2.tr.length<=n:=s2.si.inv.ok.len
     have hla:=la2.len
     refine A7 (IY m3 (by show f2.tr.length<=_; omega) (by show f2.st.length<=_; omega)) ?_
     rintro r H4 ⟨rfl,ow4,sv,m4,e44⟩
     have si4:=s2.si.zf hh2
     have r4:Rl n ((f2.zj (f2.m - 1) os3 pl3 f2.ac).zu sv (f2.st ++ [f2.tr.length])):=by
      refine ⟨s2.r.vals,fun i x hx=>?_⟩;have hx':f2.tr[i]?=some x:=hx;have e:lev (f2.st ++ [f2.tr.length]) i=lev f2.st i:=De (s:=f2.s) (J3.1 hx').1;show f2.lvls[x / 2]?=some (lev (f2.st ++ [f2.tr.length]) i);rw [e]; exact s2.r.lv i x hx'
     have c13:A5 H4 ⟨p,13,none⟩=some (sl k.ba (n + 1)):=m4.c 13
     have cl:=m4.df (v:=v) (by omega)
     have hlev:∀ j,j < f2.tr.length->lev (f2.st ++ [f2.tr.length]) j=lev f2.st j:=fun j hj=>De (s:=f2.s) hj
     have both:∀ y,isC n y->y / 2=v->y ∉ f2.tr->neg y ∉ f2.tr->CallF Tryz.prog 117 [sp p,iv y,pn none] H4 (fun r H'=>r=.tuple #[]/\∃ ow' f',SOK H' ow' p n k f' G/\Ex H ow H' ow'/\Gw f f' 0/\f.s.N n<=f'.s.N n/\f'.ls=f.ls/\LA xs f'.st f'.tr/\(∃ y,f'.tr=f.tr ++ [y]/\y ∉ f.tr/\neg y ∉ f.tr/\f'.head=f.tr.length/\(∀ q ∈ f'.st,q ∈ f.st\/q=f.tr.length)/\(f'.st.length<=xs.length->xs[f'.st.length - 1]?=some y))) NoP:=by
      intro y hyc hyv hy1 hy2;have hdec:=s2.si.decide hh2 hyc hy1 hy2;refine (DZ m4 r4 si4.inv hn hyc hy1 hy2 (by show (f2.st ++ [f2.tr.length]).length<=_; simp; omega) none).to ?_;rintro r H5 ⟨rfl,ow5,vs5,lv5,la5,v5,m5,r5,e55⟩;refine ⟨rfl,ow5,_,⟨m5,r5,hdec,?_,s2.sn,s2.stp,s2.n⟩,ex2.trans (e33.trans (e44.trans e55)),⟨gw2.key,gw2.ls,gw2.lrn,gw2.C⟩,?_,e3,?_,y,?_,by rw [<- e1]; exact hy1,by rw [<- e1]; exact hy2,(show f2.head=_ by rw [hh2,e1]),e9,?_⟩
      ·intro u hu1 hu2 hu3 hu4;have hu3':∀ x ∈ f2.tr ++ [y],x / 2 ≠ u:=hu3;rcases (hp3' u).1 hu4 with h5 | h5
       ·exact s2.hin u hu1 hu2 (fun x hx=>hu3' x (by simp [hx])) h5
       ·exact hu3' y (by simp) (by rw [hyv,h5])
      ·exact Js e6 (Js (OW (n:=n) (s:=f2.s)) (OV (s:=f2.s.zf) (x:=y) (w:=none)))
      ·show LA xs (f2.st ++ [f2.tr.length]) (f2.tr ++ [y]);refine ⟨by simp; omega,fun q s hq=>?_,fun i z h2 h3=>?_⟩
       ·rcases Zg q f2.st.length with h4 | h4 | h4
        ·rw [Jg h4] at hq; exact la2.lb q s hq
        ·subst h4; simp at hq; subst hq; exact hla
        ·rw [Jp (by simp; omega)] at hq; cases hq
       ·have hix:=(J3.1 h3).1;obtain ⟨j,h5,h6⟩:=la2.asu i z (by omega) h3;exact ⟨j,CJ h5,by rw [hlev j (J3.1 h5).1]; exact h6⟩
      ·show f2.tr ++ [y]=f.tr ++ [y];rw [e1]
      ·intro h5;have h6:(f2.st ++ [f2.tr.length]).length<=xs.length:=h5;simp at h6; omega
     have hn2:neg (2 * v)=2 * v + 1:=by unfold neg; rw [J8 (by omega)]
     have hn3:neg (2 * v + 1)=2 * v:=by unfold neg; rw [J4 (by omega)]; omega
     have h2v1:((2 * v:Nat):Int) + 1=((2 * v + 1:Nat):Int):=by omega
     cases hl:bt f2.last v
     ·have cl':A5 H4 ⟨k.ba,v,none⟩=some (.bool false):=by rw [<- hl]; exact cl
      simp (disch:=omega) only [go_sem,↓cB,r0,rd,c13,cl',h2v,h2v1]
      refine A7 (both (2 * v + 1) (by unfold isC; omega) (by omega) (by rw [<- hn2]; exact hz2) (by rw [hn3]; exact hz1)) ?_
      rintro r H5 ⟨rfl,hres⟩
      simp (disch:=omega) only [go_sem,↓cB,r0,rd]
      exact fin (.inl ⟨rfl,hres⟩)
     ·have cl':A5 H4 ⟨k.ba,v,none⟩=some (.bool true):=by rw [<- hl]; exact cl
      simp (disch:=omega) only [go_sem,↓cB,r0,rd,c13,cl',h2v,h2v1]
      refine A7 (both (2 * v) hvc (by omega) hz1 hz2) ?_
      rintro r H5 ⟨rfl,hres⟩
      simp (disch:=omega) only [go_sem,↓cB,r0,rd]
      exact fin (.inl ⟨rfl,hres⟩)
    ·simp (disch:=omega) only [go_sem,↓cB,r0,rd,c9,h2v,cv]
     refine fin ⟨f2.m - 1,by omega,ow2,f2.zj (f2.m - 1) os3 pl3 f2.ac,rfl,by simp (disch:=omega) only [go_sem,↓cB,r0,rd],⟨m3,r3,s2.si,?_,s2.sn,s2.stp,s2.n⟩,hh2,la2,e1,e2,e3,e4,e5,e6,ex2.trans e33,hxs2,e8⟩
     intro u hu1 hu2 hu3 hu4
     rcases (hp3' u).1 hu4 with h5 | h5
     ·exact s2.hin u hu1 hu2 hu3 h5
     ·subst h5
      apply hz
      rw [Cq]
      refine ⟨fun e=>hu3 _ e (by omega),fun e=>hu3 _ e (by rw [Av]; omega)⟩
end
section
variable {H:A3} {ow:Nat->Nat} {p n:Nat} {k:Bk} {f:Cf} {G:List (List Nat)}
def EM (r:Nat):Nat:=if r=2 then 200 else 100
theorem GB {r:Nat} (hr:r<=2):CallF Tryz.prog 60 [iv r] H (fun v H'=>v=iv (EM r)/\H'=H) NoP:=by
 have h012:r=0\/r=1\/r=2:=(by omega);rcases h012 with rfl | rfl | rfl
 ·refine A9 Tryz.func60 rfl Tryz.ntmps60 Tryz.results60 (by decide) rfl ?_;simp (disch:=omega) only [go_sem,↓cB];refine Ae (fun j U H1=>(U.get 0=iv 0/\U.get 3=iv 1/\U.get 4=iv 0/\U.ds = [])/\H1=H) (k:=0) ?_ ?_
  ·exact ⟨by simp (disch:=omega) only [go_sem,↓cB],rfl⟩
  ·rintro _ U H1 ⟨⟨r0,r3,r4,rd⟩,rfl⟩;simp (disch:=omega) only [go_sem,↓cB,r0,r3,r4,rd];refine Ae (fun j U H2=>(U.get 0=iv 0/\U.get 3=iv 1/\U.get 4=iv 0/\U.ds = [])/\H2=H1) (k:=0) ?_ ?_
   ·exact ⟨by simp (disch:=omega) only [go_sem,↓cB,r0,r3,r4,rd],rfl⟩
   ·rintro _ U H2 ⟨⟨r0,r3,r4,rd⟩,rfl⟩;simp (disch:=omega) only [go_sem,↓cB,r0,r3,r4,rd];exact fin ⟨rfl,rfl⟩
 ·refine A9 Tryz.func60 rfl Tryz.ntmps60 Tryz.results60 (by decide) rfl ?_;simp (disch:=omega) only [go_sem,↓cB];refine Ae (fun j U H1=>((j=1/\U.get 0=iv 1/\U.get 3=iv 1/\U.get 4=iv 0/\U.ds = [])\/(j=0/\U.get 0=iv 1/\U.get 3=iv 3/\U.get 4=iv 1/\U.ds = []))/\H1=H) (k:=1) ?_ ?_
  ·exact ⟨.inl ⟨rfl,by simp (disch:=omega) only [go_sem,↓cB]; rfl⟩,rfl⟩
  ·rintro _ U H1 ⟨⟨rfl,r0,r3,r4,rd⟩ | ⟨rfl,r0,r3,r4,rd⟩,rfl⟩
   ·simp (disch:=omega) only [go_sem,↓cB,r0,r3,r4,rd];exact fin ⟨0,by omega,.inr ⟨rfl,by simp (disch:=omega) only [go_sem,↓cB,r0,r3,r4,rd]⟩,rfl⟩
   ·simp (disch:=omega) only [go_sem,↓cB,r0,r3,r4,rd];refine Ae (fun j U H2=>((j=1/\U.get 0=iv 1/\U.get 3=iv 3/\U.get 4=iv 1/\U.ds = [])\/(j=0/\U.get 0=iv 0/\U.get 3=iv 1/\U.get 4=iv 0/\U.ds = []))/\H2=H1) (k:=1) ?_ ?_
    ·exact ⟨.inl ⟨rfl,by simp (disch:=omega) only [go_sem,↓cB,r0,r3,r4,rd]⟩,rfl⟩
    ·rintro _ U H2 ⟨⟨rfl,r0,r3,r4,rd⟩ | ⟨rfl,r0,r3,r4,rd⟩,rfl⟩
     ·simp (disch:=omega) only [go_sem,↓cB,r0,r3,r4,rd];exact fin ⟨0,by omega,.inr ⟨rfl,by simp (disch:=omega) only [go_sem,↓cB,r0,r3,r4,rd]⟩,rfl⟩
     ·simp (disch:=omega) only [go_sem,↓cB,r0,r3,r4,rd];exact fin ⟨rfl,rfl⟩
 ·refine A9 Tryz.func60 rfl Tryz.ntmps60 Tryz.results60 (by decide) rfl ?_;simp (disch:=omega) only [go_sem,↓cB];refine Ae (fun j U H1=>((j=1/\U.get 0=iv 2/\U.get 3=iv 1/\U.get 4=iv 0/\U.ds = [])\/(j=0/\U.get 0=iv 2/\U.get 3=iv 3/\U.get 4=iv 1/\U.ds = []))/\H1=H) (k:=1) ?_ ?_
  ·exact ⟨.inl ⟨rfl,by simp (disch:=omega) only [go_sem,↓cB]; rfl⟩,rfl⟩
  ·rintro _ U H1 ⟨⟨rfl,r0,r3,r4,rd⟩ | ⟨rfl,r0,r3,r4,rd⟩,rfl⟩
   ·simp (disch:=omega) only [go_sem,↓cB,r0,r3,r4,rd];exact fin ⟨0,by omega,.inr ⟨rfl,by simp (disch:=omega) only [go_sem,↓cB,r0,r3,r4,rd]⟩,rfl⟩
   ·simp (disch:=omega) only [go_sem,↓cB,r0,r3,r4,rd];refine Ae (fun j U H2=>(U.get 0=iv 2/\U.get 3=iv 3/\U.get 4=iv 1/\U.ds = [])/\H2=H1) (k:=0) ?_ ?_
    ·exact ⟨by simp (disch:=omega) only [go_sem,↓cB,r0,r3,r4,rd],rfl⟩
    ·rintro _ U H2 ⟨⟨r0,r3,r4,rd⟩,rfl⟩;simp (disch:=omega) only [go_sem,↓cB,r0,r3,r4,rd];exact fin ⟨rfl,rfl⟩
end
section
variable {H:A3} {ow:Nat->Nat} {p n:Nat} {k:Bk} {f:Cf} {G:List (List Nat)}
structure SB (H:A3) (ow:Nat->Nat) (p n:Nat) (k:Bk) (f:Cf):Prop where
 m:RM H ow p n k f
 r:Rl n f
 inv:Inv n f.s
 wi:WI n f.s f.C f.w
 le:f.head<=f.tr.length
 hin:HIn n f
 sn:∀ v,v<=n->bt f.seen v=false
 stp:1024<=f.step/\f.step<=1099511627776
 n:n<=1000
theorem SOK.sb (h:SOK H ow p n k f G):SB H ow p n k f:=⟨h.m,h.r,h.si.inv,h.si.wi,h.si.le,h.hin,h.sn,h.stp,h.n⟩
theorem SB.sok (h:SB H ow p n k f) (hs:SI n f.s f.C f.w G f.head):SOK H ow p n k f G:=⟨h.m,h.r,hs,h.hin,h.sn,h.stp,h.n⟩
structure Bk0 (n:Nat) (f f':Cf):Prop where
 st:f'.st = []
 key:f'.key=f.key
 pre:f'.tr <+: f.tr
 zero:∀ i x:Nat,f.tr[i]?=some x->lev f.st i=0->f'.tr[i]?=some x
 si:∀ G,SI n f.s f.C f.w G f.head->SI n f'.s f'.C f'.w G f'.head
 same:f.st = []->f'=f
 hd:f.head=f.tr.length->f'.head=f'.tr.length
theorem PH (h:SB H ow p n k f):Go.Dfr.CallC Tryz.prog 59 [sp p,iv 0] H (fun v H'=>v=.tuple #[]/\∃ f',SB H' ow p n k f'/\Ex H ow H' ow/\Bk0 n f f'):=by
 by_cases h0:f.st = []
 ·have hc:=Q2 h.m (L:=0) (by rw [h0]; simp);refine hc.mono ?_;rintro v H' ⟨rfl,rfl⟩;exact ⟨rfl,f,h,Ex.refl,h0,rfl,Zl _,fun i x hi _=>hi,fun G hs=>hs,fun _=>rfl,id⟩
 ·have hL:0 < f.st.length:=Wy.2 h0;refine (P9 h.m h.r h.inv h.n (L:=0) hL).mono ?_;rintro v H' ⟨rfl,f',m',r',e',hs,hh,hk,hpl⟩;have hk':=hk;simp only [Cf.qc,Jx] at hk';obtain ⟨k1,k2,k3,k4,k5,k6⟩:=hk';have hC:f'.C=f.C:=congrArg (·.1) k1;have hsn:f'.seen=f.seen:=by
   have:=congrArg (fun z=>z.2.2.2.2.2.2.2.2.1) k1;exact this
  have hstp:f'.step=f.step:=by
   have:=congrArg (fun z=>z.2.2.2.2.2.2.2.2.2.2.2.2) k1;exact this
  have htr:f'.tr=f.tr.take f.st[0]:=congrArg St.tr hs;have hst:f'.st = []:=by
   have:f'.st=f.st.take 0:=congrArg St.st hs;simpa using this
  have hb:f.st[0]<=f.tr.length:=h.inv.bound _ (Y0 hL);refine ⟨rfl,f',⟨m',r',by rw [hs]; exact h.inv.cut hL,by rw [hs,hC,k2]; exact h.wi.cut,by rw [hh,htr]; simp; omega,h.hin.cut htr hpl,by rw [hsn]; exact h.sn,by rw [hstp]; exact h.stp,h.n⟩,e',hst,k1,by rw [htr]; exact List.take_prefix _ _,?_,?_,fun e=>absurd e h0,fun _=>by rw [hh,htr]; simp; omega⟩
  ·intro i x hi hl0;have hlt:i < f.st[0]:=by
    have:=Dk h.inv.sorted (i:=i) hL;have h2:(0 < lev f.st i↔f.st[0]<=i):=this;omega
   rw [htr,Xj,J8 hlt]; exact hi
  ·intro G hsi;rw [hs,hC,k2,hh];exact hsi.cut hL
end
end Go.Proofs.YtkdlmdmlomgdiaaGreat
namespace Go.Dfr
open Go.HL
theorem Ot {n:Nat} {P:Program} {ops:Array Oper} {f:Operand} {args:Array Operand} {Q:Exit->En->A3->Prop} {U:En} {H:A3}:Hu n P ops f args Q [] U H=j36 f args Q U H:=(rfl)
theorem N9 {n:Nat} {P:Program} {ops:Array Oper} {f:Operand} {args:Array Operand} {Q:Exit->En->A3->Prop} {o:Oper} {l:List Oper} {U:En} {H:A3}:Hu n P ops f args Q (o :: l) U H=opG n P ops o U H (Hu n P ops f args Q l) Q:=(rfl)
end Go.Dfr
namespace Go.Proofs.YtkdlmdmlomgdiaaGreat
open Go.HL HM Go.Sat
theorem j1u {P n N N' t t':Nat} (hN:N < N') (hN':N'<=P) (ht:t<=n):(P - N') * (n + 1) + (n - t') < (P - N) * (n + 1) + (n - t):=by
 have h1:(P - N') + 1<=P - N:=(by omega);have h2:=Y3 (n + 1) h1;rw [Y4,Nat.one_mul] at h2;omega
theorem j1t {P n N N' t t':Nat} (hN:N<=N') (ht:t < t') (ht':t'<=n):(P - N') * (n + 1) + (n - t') < (P - N) * (n + 1) + (n - t):=by
 have h1:P - N'<=P - N:=(by omega);have h2:=Y3 (n + 1) h1;omega
theorem j1s {P n N t:Nat}:(P - N) * (n + 1) + (n - t)<=P * (n + 1) + n:=by
 have h2:=Y3 (n + 1) (Nat.sub_le P N);omega
section
variable {H:A3} {ow:Nat->Nat} {p n:Nat} {k:Bk} {f:Cf} {G:List (List Nat)}
structure Nm (f f':Cf) (d r:Nat):Prop where
 room:f'.room=f.room
 loaded:f'.loaded=f.loaded
 giv:f'.given=f.given/\f'.gs=f.gs/\f'.gl=f.gl
 rounds:f'.rounds=f.rounds + r
 conf:f'.conf=f.conf + d
 ls:f'.ls.length=f.ls.length + 2 * d
 lrn:f'.lrn.length<=f.lrn.length + d
 C:f'.C.length<=f.C.length + d
 cor:f'.core=f.core
theorem Nm.refl:Nm f f 0 0:=⟨rfl,rfl,⟨rfl,rfl,rfl⟩,rfl,rfl,rfl,Jb _,Jb _,rfl⟩
theorem Nm.trans {f' f'':Cf} {d r d' r':Nat} (h:Nm f f' d r) (h':Nm f' f'' d' r'):Nm f f'' (d + d') (r + r') :=
 ⟨h'.room.trans h.room,h'.loaded.trans h.loaded,⟨h'.giv.1.trans h.giv.1,h'.giv.2.1.trans h.giv.2.1,h'.giv.2.2.trans h.giv.2.2⟩,by rw [h'.rounds,h.rounds]; omega,by rw [h'.conf,h.conf]; omega,by rw [h'.ls,h.ls]; omega,by have:=h.lrn; have:=h'.lrn; omega,by have:=h.C; have:=h'.C; omega,h'.cor.trans h.cor⟩
theorem Nm.tq {f':Cf} (h:f'.key=f.key):Nm f f' 0 0:=by
 simp only [Cf.key,Jx] at h;obtain ⟨e1,e2,e3,e4,e5,e6,e7,e8,e9,e10,e11,e12,e13⟩:=h;exact ⟨e5,e7,e8,e6,e2,by rw [e4]; omega,by rw [e3]; omega,by rw [e1]; omega,e11⟩
theorem Nm.qt {f':Cf} (h:Gw f f' 0) (hl:f'.ls=f.ls):Nm f f' 0 0:=by
 have h5:=h.key;simp only [Cf.yt,Jx] at h5;obtain ⟨e1,e2,e3,e4,e5,e6,e7,e8⟩:=h5;exact ⟨e2,e4,e5,e3,e1,by rw [hl]; omega,h.lrn,h.C,e7⟩
def big (n:Nat):Nat:=2 ^ n * (n + 1) + n + 1
def msr (n:Nat) (f:Cf):Nat:=(2 - f.rounds) * big n + ((2 ^ n - f.s.N n) * (n + 1) + (n - f.tr.length))
theorem Qi {f1 f2:Cf} (hr:f2.rounds=f1.rounds) (hN:f1.s.N n < f2.s.N n) (ht:f1.tr.length<=n):msr n f2 < msr n f1:=by
 unfold msr;rw [hr];have:=j1u (P:=2 ^ n) (t':=f2.tr.length) hN (Nat.le_of_lt (St.ml f2.s)) ht;omega
theorem RJ {f1 f2:Cf} (hr:f2.rounds=f1.rounds) (hN:f1.s.N n<=f2.s.N n) (ht:f1.tr.length < f2.tr.length) (ht':f2.tr.length<=n):msr n f2 < msr n f1:=by
 unfold msr;rw [hr];have:=j1t (P:=2 ^ n) hN ht ht';omega
theorem WQ {f1 f2:Cf} (hr:f2.rounds=f1.rounds) (hN:f1.s.N n<=f2.s.N n) (ht:f1.tr.length<=f2.tr.length):msr n f2<=msr n f1:=by
 unfold msr;rw [hr];have h1:2 ^ n - f2.s.N n<=2 ^ n - f1.s.N n:=(by omega);have h2:=Y3 (n + 1) h1;omega
theorem RH {f1 f2:Cf} (hr:f2.rounds=f1.rounds + 1) (h2:f2.rounds<=2):msr n f2<=msr n f1:=by
 unfold msr;have h3:=j1s (P:=2 ^ n) (n:=n) (N:=f2.s.N n) (t:=f2.tr.length);obtain ⟨z,hz⟩:∃ z,2 - f1.rounds=z + 1:=⟨1 - f1.rounds,by omega⟩;have hz2:2 - f2.rounds=z:=(by omega);rw [hz,hz2,Y4,Nat.one_mul];unfold big;omega
inductive LN (H:A3) (ow:Nat->Nat) (n:Nat) (G:List (List Nat)):List Value->List (List Nat)->Prop
 | nil:LN H ow n G [] []
 | add {ls ls':List Value} {Ls:List (List Nat)} {l:List Nat} (h:LN H ow n G ls Ls) (hl:Lnd H ow n ls ls' (Ls ++ G) l):LN H ow n G ls' (l :: Ls)
theorem LN.ex {H':A3} {ow':Nat->Nat} {ls:List Value} {Ls:List (List Nat)} (h:LN H ow n G ls Ls) (he:Ex H ow H' ow'):LN H' ow' n G ls Ls:=by
 induction h with
 | nil=>exact .nil
 | add h hl ih =>
  obtain ⟨⟨w,zs,idle,e,hv,ho,hn⟩,hc,hr⟩:=hl;exact .add ih ⟨⟨w,zs,idle,e,he.vec hv ho,fun b hb=>by rw [he.ow b (hv.lt b hb)]; exact ho b hb,hn⟩,hc,hr⟩
inductive RunA (n:Nat) (G:List (List Nat)) (xs:List Nat) (H:A3) (ow:Nat->Nat) (f':Cf):Value->Prop
 | dead (hd:f'.dead=true) (hu:∀ T,¬ Clo T G):RunA n G xs H ow f' (.tuple #[iv 2,.slice none 0 0])
 | sat (md:List Bool) (m:Nat->Bool) (hd:f'.dead=false) (hm:Mdl m) (hG:YT m G) (ha:∀ x ∈ xs,m x=true) (hl:md=(List.range n).map fun j=>m (2 * j + 2)) (hv:Vec H 4 1 f'.model (md.map Value.bool)) (ho:∀ b ∈ own f'.model,ow b=0) :
   RunA n G xs H ow f' (.tuple #[iv 1,.slice none 0 0])
 | unsat (core:Value) (x:Nat) (ds:List Nat) (hd:f'.dead=false) (hx:x ∈ xs) (hc:∀ y ∈ x :: ds,isC n y) (hv:Vec H 3 1 core (((x :: ds).map Ct).map iv)) (ho:∀ b ∈ own core,ow b=0) (hl:ds.length<=n) (hu:∀ T,Clo T G->¬ ∀ y ∈ x :: ds,T y) :
   RunA n G xs H ow f' (.tuple #[iv 2,core])
theorem S6 {s:St} (hi:Inv n s) (hall:∀ x,isC n x->x ∈ s.tr\/neg x ∈ s.tr):∃ m,Mdl m/\(∀ x ∈ s.tr,m x=true)/\∀ x,isC n x->m x=decide (x ∈ s.tr):=by
 haveI:∀ x,Decidable (isC n x):=fun x=>(by unfold isC; infer_instance);refine ⟨fun x=>if isC n x then decide (x ∈ s.tr) else x % 2 == 0,⟨fun x=>?_⟩,fun x hx=>?_,fun x hx=>J8 hx⟩
 ·by_cases hc:isC n x
  ·have hc':=C0 hc;simp only [J8 hc,J8 hc'];rcases hall x hc with h | h
   ·have:neg x ∉ s.tr:=fun e=>hi.ok.zr h e;simp [h,this]
   ·have:x ∉ s.tr:=fun e=>hi.ok.zr e h;simp [h,this]
  ·have hc':¬ isC n (neg x):=fun e=>hc (by have:=C0 e; rwa [neg_neg] at this);simp only [J4 hc,J4 hc'];unfold neg;split
   ·have:(x + 1) % 2=1:=(by omega);simp [*]
   ·have:(x - 1) % 2=0:=(by omega);have h2:x % 2=1:=(by omega);simp [*]
 ·simp only [J8 (hi.ok.code x hx),hx,X5]
theorem mp2 {U:En} {a b:Operand}:Array.map U.ev #[a,b] = #[U.ev a,U.ev b]:=by simp
theorem RunA.back {H1 H2:A3} {ow1:Nat->Nat} {f1 f2:Cf} {xs:List Nat} {v:Value} (h:RunA n G xs H1 ow1 f1 v) (hk:f2.key=f1.key) (he:Ex H1 ow1 H2 ow1):RunA n G xs H2 ow1 f2 v:=by
 have hd:f2.dead=f1.dead:=congrArg (fun z=>z.2.2.2.2.2.2.2.2.2.2.2.1) hk;have hm:f2.model=f1.model:=congrArg (fun z=>z.2.2.2.2.2.2.2.2.2.1) hk;cases h with
 | dead h1 h2=>exact .dead (hd.trans h1) h2
 | sat md m h1 h2 h3 h4 h5 h6 h7=>exact .sat md m (hd.trans h1) h2 h3 h4 h5 (by rw [hm]; exact he.vec h6 h7) (by rw [hm]; exact h7)
 | unsat core x ds h1 h2 h3 h4 h5 h6 h7=>exact .unsat core x ds (hd.trans h1) h2 h3 (he.vec h4 h5) h5 h6 h7
theorem LM {H1:A3} {ow1:Nat->Nat} {f1:Cf} {d r:Nat} {a b:Value} {xs:List Nat} {U:En} (hs:SB H1 ow1 p n k f1) {Ls:List (List Nat)} (hsi:f1.dead=false->SI n f1.s f1.C f1.w (Ls ++ G) f1.head/\f1.head=f1.tr.length) (hln:LN H1 ow1 n G f1.ls Ls)
  (ex:Ex H ow H1 ow1) (nm:Nm f f1 d r) (hd:d<=384) (hr:f.rounds + r<=2) (h64:2 ^ n<=64->r=0/\d<=64) (hdd:f.dead=true->f1.dead=true)
  (ha:RunA n (Ls ++ G) xs H1 ow1 f1 (.tuple #[a,b])) (hds:U.ds = [⟨.fn (.func 59) #[],#[sp p,iv 0]⟩]) (h6:U.get 6=a) (h7:U.get 7=b) :
  Go.Dfr.Gm Tryz.prog [.tmp 6,.tmp 7] (fun v H'=>∃ ow' f' d r Ls,SB H' ow' p n k f'/\f'.st = []/\(f'.dead=false->SI n f'.s f'.C f'.w (Ls ++ G) f'.head/\f'.head=f'.tr.length)/\Ex H ow H' ow'/\Nm f f' d r/\d<=384/\f.rounds + r<=2/\(2 ^ n<=64->r=0/\d<=64)/\(f.dead=true->f'.dead=true)/\LN H' ow' n G f'.ls Ls/\RunA n (Ls ++ G) xs H' ow' f' v) .ret U H1:=by
 refine ⟨59,#[],#[sp p,iv 0],_,hds,Tryz.func59,rfl,rfl,?_⟩
 have hc:=(PH hs).da
 intro w hw
 refine (hc w hw).mono ?_
 rintro e u' w' ⟨h1,h2,h3,v,hv,f',m',e',k'⟩
 refine ⟨h1,h2,h3,?_⟩
 simp only [Cr,h6,h7,FG]
 have hde:f'.dead=f1.dead:=congrArg (fun z=>z.2.2.2.2.2.2.2.2.2.2.2.1) k'.key
 have hls:f'.ls=f1.ls:=congrArg (fun z=>z.2.2.2.1) k'.key
 refine ⟨ow1,f',d,r,Ls,m',k'.st,fun h=>?_,ex.trans e',?_,hd,hr,h64,fun h=>hde.trans (hdd h),by rw [hls]; exact hln.ex e',ha.back k'.key e'⟩
 ·obtain ⟨h4,h5⟩:=hsi (hde.symm.trans h)
  exact ⟨k'.si (Ls ++ G) h4,k'.hd h5⟩
 ·have:=nm.trans (Nm.tq k'.key)
  simpa using this
structure RI (H:A3) (ow:Nat->Nat) (p n:Nat) (k:Bk) (f:Cf) (G:List (List Nat)) (xs:List Nat) (H1:A3) (ow1:Nat->Nat) (f1:Cf) (d r:Nat) (left:Int) (Ls:List (List Nat)):Prop where
 s:SOK H1 ow1 p n k f1 (Ls ++ G)
 ln:LN H1 ow1 n G f1.ls Ls
 dead:f1.dead=false
 la:LA xs f1.st f1.tr
 ex:Ex H ow H1 ow1
 nm:Nm f f1 d r
 d1:d<=2 ^ n * r + f1.s.N n
 r1:f.rounds + r<=2
 lf:(EM f1.rounds:Int)<=left + f1.s.N n
 lu:left<=200
 q:2 ^ n<=64->r=0
theorem RI.d2 {H1:A3} {ow1:Nat->Nat} {f1:Cf} {xs:List Nat} {d r:Nat} {left:Int} {Ls:List (List Nat)} (h:RI H ow p n k f G xs H1 ow1 f1 d r left Ls) (hn:2 ^ n<=128):d<=384/\(2 ^ n<=64->r=0/\d<=64):=by
 have h1:=h.d1;have h2:=St.ml (n:=n) f1.s;have h3:=h.r1;have h4:r<=2:=(by omega);have h5:2 ^ n * r<=128 * 2:=W2 hn h4;refine ⟨by omega,fun h6=>?_⟩;have h7:=h.q h6;subst h7;exact ⟨rfl,by omega⟩
theorem Q0 (h:SB H ow p n k f) (hst:f.st = []) {Ls0:List (List Nat)} (hok:f.dead=false->SI n f.s f.C f.w (Ls0 ++ G) f.head) (hno:f.dead=true->∀ T,¬ Clo T (Ls0 ++ G)) (hln:LN H ow n G f.ls Ls0)
  {xs:List Nat} {lv:Value} (hv:Vec H 3 1 lv (nv xs)) (hlv:∀ b ∈ own lv,ow b=0) (hxs:∀ x ∈ xs,isC n x) (hxl:xs.length<=1000)
  {g:FuncId} {caps:List Value} (hov:∀ (H1:A3) (ow1:Nat->Nat) (x:Nat),Ex H ow H1 ow1->CallF Tryz.prog g (iv x :: caps) H1 (fun v H'=>v=.bool false/\H'=H1) NoP)
  (hn7:2 ^ n<=128) (hr2:f.rounds<=2) {q:Nat} (hq:f.ls.length=2 * q) (hls:q<=900000) (hlr:(f.lrn.length:Int) + 400<=f.room) (hroom:f.room<=100000) (hC:f.C.length<=90000) (hconf:f.conf<=1000000) :
  CallF Tryz.prog 25 [hp p,lv,.func (.func g) #[] caps.toArray] H (fun v H'=>∃ ow' f' d r Ls,SB H' ow' p n k f'/\f'.st = []/\(f'.dead=false->SI n f'.s f'.C f'.w (Ls ++ G) f'.head/\f'.head=f'.tr.length)/\Ex H ow H' ow'/\Nm f f' d r/\d<=384/\f.rounds + r<=2/\(2 ^ n<=64->r=0/\d<=64)/\(f.dead=true->f'.dead=true)/\LN H' ow' n G f'.ls Ls/\RunA n (Ls ++ G) xs H' ow' f' v) NoP:=by
 refine Go.Dfr.I1 (rs:=[.tmp 6,.tmp 7]) Tryz.func25 rfl Tryz.ntmps25 Tryz.results25 (by decide) rfl ?_
 refine Go.Dfr.CW.gv (Fe _ _ _ _ ?_)
 simp (disch:=omega) only [go_sem,↓cB]
 refine Go.Dfr.CW.gv (Go.Dfr.Oh [_,_,_] rfl ?_)
 simp (disch:=omega) only [go_sem,↓cB,↓Go.Dfr.N9,↓Go.Dfr.Ot]
 refine ⟨_,rfl,Fe _ _ _ _ ?_⟩
 have c20:A5 H ⟨p,20,none⟩=some (iv f.rounds):=h.m.c 20
 simp (disch:=omega) only [go_sem,↓cB,c20]
 refine A7 (GB hr2) ?_
 rintro v H1 ⟨rfl,e1⟩
 subst H1
 simp (disch:=omega) only [go_sem]
 refine Bp (fun U H1=>∃ ow1 f1 d r Ls,(U.ds = [⟨.fn (.func 59) #[],#[sp p,iv 0]⟩])/\SB H1 ow1 p n k f1/\f1.dead=true/\(∀ T,¬ Clo T (Ls ++ G))/\Ex H ow H1 ow1/\Nm f f1 d r/\d<=384/\f.rounds + r<=2/\(2 ^ n<=64->r=0/\d<=64)/\LN H1 ow1 n G f1.ls Ls) ?_ ?_
 ·simp (disch:=omega) only [go_sem,↓cB]
  by_cases hd:f.dead=true
  ·refine Ae (fun j U H2=>(U.get 0=hp p/\U.ds = [⟨.fn (.func 59) #[],#[sp p,iv 0]⟩])/\H2=H) (k:=0) ?_ ?_
   ·exact ⟨by simp (disch:=omega) only [go_sem,↓cB,mp2],rfl⟩
   ·rintro _ U H2 ⟨⟨r0,rd⟩,rfl⟩
    have c21:A5 H2 ⟨p,21,none⟩=some (.bool f.dead):=h.m.c 21
    rw [hd] at c21
    simp (disch:=omega) only [go_sem,↓cB,r0,rd,c21]
    exact ⟨ow,f,0,0,Ls0,by simp (disch:=omega) only [go_sem,↓cB,rd],h,hd,hno hd,Ex.refl,Nm.refl,by omega,by omega,by omega,hln⟩
  ·have hd':f.dead=false:=by simpa using hd
   have hl0:0 < (EM f.rounds:Int):=by unfold EM; split <;> omega
   refine Ae (fun j U H2=>∃ ow1 f1 d r left Ls,j=msr n f1/\(U.get 0=hp p/\U.get 1=lv/\U.get 2=.func (.func g) #[] caps.toArray/\U.get 8=iv left/\U.ds = [⟨.fn (.func 59) #[],#[sp p,iv 0]⟩])/\RI H ow p n k f G xs H2 ow1 f1 d r left Ls) (k:=msr n f) ?_ ?_
   ·exact ⟨ow,f,0,0,EM f.rounds,Ls0,rfl,by simp (disch:=omega) only [go_sem,↓cB,mp2],⟨h.sok (hok hd'),hln,hd',by rw [hst]; exact LA.zero,Ex.refl,Nm.refl,by omega,by omega,by omega,by unfold EM; split <;> omega,fun _=>rfl⟩⟩
   ·rintro _ U H2 ⟨ow1,f1,d,r,left,Ls,rfl,⟨r0,r1,r2,r8,rd⟩,ri⟩
    have c21:A5 H2 ⟨p,21,none⟩=some (.bool f1.dead):=ri.s.m.c 21
    rw [ri.dead] at c21
    have htn:f1.tr.length<=n:=ri.s.si.inv.ok.len
    have hn:=ri.s.n
    have hst1:f1.st.length<=1000000:=by have:=ri.la.len; omega
    obtain ⟨hd3,hq3⟩:=ri.d2 hn7
    have hC1:f1.C.length<=100000:=by have:=ri.nm.C; omega
    simp (disch:=omega) only [go_sem,↓cB,r0,c21]
    refine A7 (EF ri.s.m ri.s.r ri.s.si ri.s.n hC1 hst1) ?_
    rintro v H3 ⟨ow3,f3,m3,q3,e3,v3,ha⟩
    have nm3:Nm f f3 d r:=ri.nm.trans (Nm.tq v3.key)
    have la3:LA xs f3.st f3.tr:=by rw [v3.st]; exact ri.la.pre v3.pre
    have ex3:=ri.ex.trans e3
    have dead3:f3.dead=false:=(congrArg (fun z=>z.2.2.2.2.2.2.2.2.2.2.2.1) v3.key).trans ri.dead
    have sn3:∀ v,v<=n->bt f3.seen v=false:=by
     have e:f3.seen=f1.seen:=congrArg (fun z=>z.2.2.2.2.2.2.2.2.1) v3.key;rw [e]; exact ri.s.sn
    have stp3:1024<=f3.step/\f3.step<=1099511627776:=by
     have e:f3.step=f1.step:=congrArg (fun z=>z.2.2.2.2.2.2.2.2.2.2.2.2) v3.key;rw [e]; exact ri.s.stp
    have hpl3:f3.pl=f1.pl:=congrArg (fun z=>z.2.2.2.1) v3.key3
    have hin3:HIn n f3:=ri.s.hin.pre v3.pre (fun v=>by rw [hpl3])
    have rounds3:f3.rounds=f1.rounds:=congrArg (fun z=>z.2.2.2.2.2.1) v3.key
    have num3:=v3.num
    have lf3:(EM f3.rounds:Int)<=left + f3.s.N n:=by rw [rounds3]; have:=ri.lf; omega
    have d3:d<=2 ^ n * r + f3.s.N n:=by have:=ri.d1; omega
    have ls3:f3.ls=f1.ls:=congrArg (fun z=>z.2.2.2.1) v3.key
    have ln3:LN H3 ow3 n G f3.ls Ls:=by rw [ls3]; exact ri.ln.ex e3
    rcases ha with ⟨rfl,s3,hh3⟩ | ⟨c,x,K,D,rfl,V3,hall⟩
    ·have sok3:SOK H3 ow3 p n k f3 (Ls ++ G):=⟨m3,q3,s3,hin3,sn3,stp3,hn⟩
     have hpn:pn none=.pointer none:=rfl
     simp (disch:=omega) only [go_sem,↓cB,r0,r1,r2,r8,rd,hpn]
     refine GW (fun U H4=>∃ ow4 f4 r4 left4,(U.get 0=hp p/\U.get 1=lv/\U.get 2=.func (.func g) #[] caps.toArray/\U.get 8=iv left4/\U.ds = [⟨.fn (.func 59) #[],#[sp p,iv 0]⟩])/\RI H ow p n k f G xs H4 ow4 f4 d r4 left4 Ls/\f4.head=f4.tr.length/\msr n f4<=msr n f1) ?_ ?_
     ·by_cases hle:left<=0
      ·simp (disch:=omega) only [go_sem,↓cB,r0,r8,rd]
       refine A7 (PH sok3.sb).je ?_
       rintro v H4 ⟨rfl,f4,s4,e4,b4⟩
       have hN3:=St.ml (n:=n) f3.s
       have hn128:=hn7
       have hr1:f3.rounds<=1/\100<=f3.s.N n:=by
        have h3:=nm3.rounds;have:=ri.r1;unfold EM at lf3;split at lf3 <;> omega
       have k4:f4.rounds=f3.rounds:=congrArg (fun z=>z.2.2.2.2.2.1) b4.key
       have d4:f4.dead=f3.dead:=congrArg (fun z=>z.2.2.2.2.2.2.2.2.2.2.2.1) b4.key
       have c20:A5 H4 ⟨p,20,none⟩=some (iv f3.rounds):=by rw [<- k4]; exact s4.m.c 20
       obtain ⟨H5,w5,(m5:RM _ _ _ _ _ _),e5⟩:=s4.m.ry (f3.rounds + 1)
       have hcc:(f3.rounds:Int) + 1=((f3.rounds + 1:Nat):Int):=by omega
       have c20':A5 H5 ⟨p,20,none⟩=some (iv ((f3.rounds + 1:Nat):Int)):=m5.c 20
       simp (disch:=omega) only [go_sem,↓cB,r0,r8,rd,c20,hcc,w5,c20']
       refine A7 (GB (r:=f3.rounds + 1) (by omega)) ?_
       rintro v H6 ⟨rfl,e6⟩
       subst H6
       obtain ⟨sa,sc,es⟩:=m5.learned.form
       rw [Jm] at es
       have nm4:Nm f f4 d r:=nm3.trans (Nm.tq b4.key)
       have c18:A5 H5 ⟨p,18,none⟩=some (.slice sa f4.lrn.length sc):=by
        have:A5 H5 ⟨p,18,none⟩=some f4.learned:=m5.c 18;rw [this]; exact congrArg some es
       have c19:A5 H5 ⟨p,19,none⟩=some (iv f4.room):=m5.c 19
       have hrm:f4.room=f.room:=nm4.room
       have hll:(f4.lrn.length:Int)<=f4.room:=by have:=nm4.lrn; rw [hrm]; omega
       simp (disch:=omega) only [go_sem,↓cB,r0,r8,rd]
       refine As (lk [tl 0,tl 1,tl 2,tl 3,tl 4,tl 5,tl 6,tl 7,tl 8,tl 9,tl 10,tl 11] .fin) T.mixed ?_
       simp (disch:=omega) only [go_sem,↓cB,r0,r8,rd,c18,c19]
       have hr3:=nm3.rounds
       exact fin ⟨ow3,f4.xx (f3.rounds + 1),r + 1,EM (f3.rounds + 1),by simp (disch:=omega) only [go_sem,↓cB,r0,r1,r2,r8,rd],
        ⟨(SB.sok (f:=f4.xx (f3.rounds + 1)) ⟨m5,⟨s4.r.vals,s4.r.lv⟩,s4.inv,s4.wi,s4.le,s4.hin,s4.sn,s4.stp,s4.n⟩ (b4.si (Ls ++ G) s3)),by show LN _ _ _ _ f4.ls Ls; rw [show f4.ls=f3.ls from congrArg (fun z=>z.2.2.2.1) b4.key]; exact (ln3.ex e4).ex e5,d4.trans dead3,by show LA xs f4.st f4.tr; rw [b4.st]; exact LA.zero,(ex3.trans e4).trans e5,
         ⟨nm4.room,nm4.loaded,nm4.giv,by show f3.rounds + 1=_; omega,nm4.conf,nm4.ls,nm4.lrn,nm4.C,nm4.cor⟩,by rw [Nat.mul_add,Jy]; omega,by omega,by show (EM (f3.rounds + 1):Int)<=_; omega,by unfold EM; split <;> omega,fun h=>by omega⟩,
        b4.hd hh3,RH (by show f3.rounds + 1=_; rw [rounds3]) (by show f3.rounds + 1<=2; omega)⟩
      ·simp (disch:=omega) only [go_sem,↓cB,r0,r8,rd]
       exact ⟨ow3,f3,r,left,by simp (disch:=omega) only [go_sem,↓cB,r0,r1,r2,r8,rd],⟨sok3,ln3,dead3,la3,ex3,nm3,d3,ri.r1,lf3,ri.lu,ri.q⟩,hh3,WQ rounds3 num3 v3.pre.length_le⟩
     ·rintro U H4 ⟨ow4,f4,r4,left4,⟨r0,r1,r2,r8,rd⟩,ri4,hh4,le4⟩
      simp (disch:=omega) only [go_sem,↓cB,r0,r1]
      refine A7 (LJ ri4.s hh4 (ri4.ex.vec hv hlv) (fun b hb=>?_) hxs hxl ri4.la) ?_
      ·have:=ri4.ex.ow b (hv.lt b hb)
       rw [this]; exact hlv b hb
      have nm4:=ri4.nm
      have tn4:f4.tr.length<=n:=ri4.s.si.inv.ok.len
      obtain ⟨hd4,hq4⟩:=ri4.d2 hn7
      rintro v H5 (⟨rfl,ow5,f5,s5,e5,g5,n5,l5,la5,y,t5,y1,y2,hh5,ys5,ya⟩ | ⟨rfl,ow5,f5,w,m5,s5,e5,g5,l5,t5,h5,la5,x5,a5,v5,o5⟩ | ⟨core,rfl,ow5,f5,x,ds,s5,e5,g5,l5,t5,h5,la5,hx5,nx5,v5,o5,dl5,-,d5,-,ys5,u5⟩)
      ·have k5:=g5.key
       simp only [Cf.yt,Jx] at k5
       obtain ⟨k1,k2,k3,k4,k5,k6,k7,k8⟩:=k5
       have tl5:f5.tr.length=f4.tr.length + 1:=by rw [t5]; simp
       simp (disch:=omega) only [go_sem,↓cB,rd]
       refine fin ⟨msr n f5,Yw (RJ k3 n5 (by omega) s5.si.inv.ok.len) le4,ow5,f5,d,r4,left4,Ls,rfl,by simp (disch:=omega) only [go_sem,↓cB,r0,r1,r2,r8,rd],⟨s5,by rw [l5]; exact ri4.ln.ex e5,k8.trans ri4.dead,la5,ri4.ex.trans e5,nm4.trans (Nm.qt g5 l5),by have:=ri4.d1; omega,ri4.r1,?_,ri4.lu,ri4.q⟩⟩
       ·rw [k3]; have:=ri4.lf; omega
      ·have k5:=g5.key
       simp only [Cf.yt,Jx] at k5
       obtain ⟨k1,k2,k3,k4,k5,k6,k7,k8⟩:=k5
       have nm5:Nm f f5 d r4:=nm4.trans (Nm.qt g5 l5)
       simp (disch:=omega) only [go_sem,↓cB,rd]
       refine LM (f1:=f5.zy w) (a:=iv 1) (b:=.slice none 0 0) s5.sb (fun _=>⟨s5.si,h5⟩) (by show LN _ _ _ _ f5.ls Ls; rw [l5]; exact ri4.ln.ex e5) (ri4.ex.trans e5) ⟨nm5.room,nm5.loaded,nm5.giv,nm5.rounds,nm5.conf,nm5.ls,nm5.lrn,nm5.C,nm5.cor⟩ hd4 ri4.r1 hq4 (fun e=>absurd e hd) ?_ (by simp (disch:=omega) only [go_sem,↓cB,rd]) (by simp (disch:=omega) only [go_sem,↓cB]) (by simp (disch:=omega) only [go_sem,↓cB])
       obtain ⟨m,hm,hm1,hm2⟩:=S6 s5.si.inv (fun x hx=>by show x ∈ f5.tr\/neg x ∈ f5.tr; rw [t5]; exact a5 x hx)
       refine .sat (mdl n f4.s n) m (k8.trans ri4.dead) hm (Tf s5.si.inv s5.si.wi (by have:=s5.si.pi; have e:(f5.zy w).head=(f5.zy w).s.tr.length:=h5; rw [e] at this; exact this) s5.si.gi (fun x hx=>by show x ∈ f5.tr\/neg x ∈ f5.tr; rw [t5]; exact a5 x hx) hm hm1) ?_ ?_ v5 (fun b hb=>(o5 b hb).2)
       ·intro x hx
        obtain ⟨i,hi⟩:=Jc hx
        obtain ⟨j,hj,-⟩:=la5.asu i x (by have:=(J3.1 hi).1; omega) hi
        exact hm1 x (J2 hj)
       ·apply Zq
        intro j hj
        have hj':=Wr.1 hj
        rw [hm2 _ (show isC n (2 * j + 2) by unfold isC; omega)]
        have e:f5.tr=f4.tr:=t5
        simp only [hj',X5,Wf]
        refine Xr.2 ?_
        rw [Cu]
        show (_ ∈ f4.tr)↔(_ ∈ f5.tr)
        rw [e]
      ·have k5:=g5.key
       simp only [Cf.yt,Jx] at k5
       obtain ⟨k1,k2,k3,k4,k5,k6,k7,k8⟩:=k5
       have nm5:Nm f f5 d r4:=nm4.trans (Nm.qt g5 l5)
       simp (disch:=omega) only [go_sem,↓cB,rd]
       refine LM (f1:=f5) (a:=iv 2) (b:=core) s5.sb (fun _=>⟨s5.si,h5⟩) (by rw [l5]; exact ri4.ln.ex e5) (ri4.ex.trans e5) nm5 hd4 ri4.r1 hq4 (fun e=>absurd e hd) ?_ (by simp (disch:=omega) only [go_sem,↓cB,rd]) (by simp (disch:=omega) only [go_sem,↓cB]) (by simp (disch:=omega) only [go_sem,↓cB])
       refine .unsat core x ds (k8.trans ri4.dead) hx5 ?_ v5 (fun b hb=>(o5 b hb).2) dl5 (fun T hT=>u5 T (s5.si.gi.holds s5.si.wi hT))
       ·intro y hy
        rcases J7.1 hy with rfl | hy
        ·exact hxs y hx5
        obtain ⟨-,j,hj,-⟩:=d5 y hy
        exact s5.si.inv.ok.code y (J2 hj)
    ·obtain ⟨sa,sc,es⟩:=m3.starts.form
     rw [Am] at es
     have c15:A5 H3 ⟨p,15,none⟩=some (.slice sa f3.st.length sc):=by rw [<- es]; exact m3.c 15
     by_cases hs0:f3.st = []
     ·obtain ⟨H4,w4,(m4:RM _ _ _ _ _ _),e4⟩:=m3.uf true
      have hz:f3.st.length=0:=by rw [hs0]; rfl
      rw [hz] at c15
      simp (disch:=omega) only [go_sem,↓cB,r0,r1,r2,r8,rd,c15,w4]
      exact ⟨ow3,f3.uz true,d,r,Ls,by simp (disch:=omega) only [go_sem,↓cB,rd],⟨m4,⟨q3.vals,q3.lv⟩,V3.inv,V3.wi,V3.le,hin3,sn3,stp3,hn⟩,rfl,fun T=>Hj V3.gi V3.mem.1 hall hs0,ex3.trans e4,⟨nm3.room,nm3.loaded,nm3.giv,nm3.rounds,nm3.conf,nm3.ls,nm3.lrn,nm3.C,nm3.cor⟩,hd3,ri.r1,hq3,ln3.ex e4⟩
     ·have hz:1<=f3.st.length:=Wy.2 hs0
      have c4:A5 H3 ⟨p,4,none⟩=some (iv f3.conf):=m3.c 4
      have hcf:=nm3.conf
      have hb4:(f3.conf:Int)<=2000000:=by omega
      simp (disch:=omega) only [go_sem,↓cB,r0,r1,r2,r8,rd,c15,c4]
      refine A7 (hov H3 ow3 f3.conf ex3) ?_
      rintro v H4 ⟨rfl,e4⟩
      subst H4
      obtain ⟨H5,w5,(m5:RM _ _ _ _ _ _),e5⟩:=m3.oz (f3.conf + 1)
      have hcc:(f3.conf:Int) + 1=((f3.conf + 1:Nat):Int):=by omega
      have hn128:=hn7
      have lf:=ri.lf
      have hN:=St.ml (n:=n) f1.s
      have hlr1:100<=EM f1.rounds:=by unfold EM; split <;> omega
      have hlu:=ri.lu
      have hl1:-100<=left:=by omega
      simp (disch:=omega) only [go_sem,↓cB,r0,r8,rd,c4,hcc,w5]
      have hls3:=nm3.ls
      have hlrn3:=nm3.lrn
      have hC3:=nm3.C
      have htn3:f3.tr.length<=n:=V3.inv.ok.len
      have hst3:f3.st.length<=1000000:=by have:=la3.len; omega
      refine A7 (MP (f:=f3.td (f3.conf + 1)) (G:=Ls ++ G) m5 ⟨q3.vals,q3.lv⟩ V3 hall hn hz hst3 sn3 stp3 hin3 (q:=q + d) (show f3.ls.length=_ by omega) (by omega) (show f3.lrn.length<=_ by omega) (show f3.C.length<=_ by omega)) ?_
      rintro v H6 ⟨rfl,ow6,f6,lc,s6,lnd6,e6,n6,g6,l6,L,hL,t6,p6⟩
      have n6':f3.s.N n < f6.s.N n:=n6
      have k6:=g6.key
      simp only [Cf.yt,Jx] at k6
      obtain ⟨k1,k2,k3,k4,⟨k5,k5',k5''⟩,k6,k7,k8⟩:=k6
      have nm6:Nm f f6 (d + 1) r:=⟨k2.trans nm3.room,k4.trans nm3.loaded,⟨k5.trans nm3.giv.1,k5'.trans nm3.giv.2.1,k5''.trans nm3.giv.2.2⟩,k3.trans nm3.rounds,by rw [k1]; show f3.conf + 1=_; omega,by omega,
       by have:=g6.lrn; have h':(f3.td (f3.conf + 1)).lrn.length=f3.lrn.length:=rfl; omega,by have:=g6.C; have h':(f3.td (f3.conf + 1)).C.length=f3.C.length:=rfl; omega,k7.trans nm3.cor⟩
      have la6:LA xs f6.st f6.tr:=by
       rw [t6];exact (LA.cut V3.inv la3 (q:=L) hL).pre p6
      simp (disch:=omega) only [go_sem,↓cB]
      refine fin ⟨msr n f6,Qi (k3.trans rounds3) (by omega) htn,ow6,f6,d + 1,r,left - 1,lc :: Ls,rfl,by simp (disch:=omega) only [go_sem,↓cB,r0,r1,r2,r8,rd],⟨s6,.add ((ln3.ex e5).ex e6) lnd6,k8.trans dead3,la6,(ex3.trans e5).trans e6,nm6,by omega,ri.r1,?_,by omega,ri.q⟩⟩
      rw [k3]
      show (EM f3.rounds:Int)<=_
      omega
 ·rintro U H1 ⟨ow1,f1,d,r,Ls,rd,s1,d1,u1,e1,nm1,q1,q2,q3,q4⟩
  simp (disch:=omega) only [go_sem,↓cB,rd]
  exact LM s1 (Ls:=Ls) (fun e=>by rw [d1] at e; cases e) q4 e1 nm1 q1 q2 q3 (fun _=>d1) (.dead d1 u1) (by simp (disch:=omega) only [go_sem,↓cB,rd]) (by simp (disch:=omega) only [go_sem,↓cB]) (by simp (disch:=omega) only [go_sem,↓cB])
end
end Go.Proofs.YtkdlmdmlomgdiaaGreat
