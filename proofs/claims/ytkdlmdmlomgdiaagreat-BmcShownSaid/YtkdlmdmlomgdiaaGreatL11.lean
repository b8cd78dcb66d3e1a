/- Closed runs: slices made, and slices that grow. -/
import Derived.Test.YtkdlmdmlomgdiaaGreatL10
set_option linter.unusedSimpArgs false
set_option linter.unusedVariables false
set_option maxRecDepth 10000
set_option maxHeartbeats 8000000
noncomputable section
namespace Go.Run
open Go.HL
variable {σ:Nat->Value} {F:Nat->Option Obj} {φ:Phi} {A:AH} {H:A3} {P:Program} {V:HV}
section
theorem KO:∀ (ws:List Value) (H:A3) (r off j:Nat) (c:Array Value) (el:TypeId) (fr:Nat × Nat),(∀ w ∈ ws,Cb w=true)->H[r]?=some (.cells c el fr)->fr.1=fr.2->off + j + ws.length<=c.size ->
  ∃ H' c',Ar H ⟨r,off,none⟩ ws j=some H'/\H'[r]?=some (.cells c' el fr)/\c'.size=c.size/\(∀ k,c'[k]?=if off + j<=k/\k < off + j + ws.length then ws[k - (off + j)]? else c[k]?)/\(∀ r',r' ≠ r->H'[r']?=H[r']?)/\H'.size=H.size
 | [],H,r,off,j,c,el,fr,_,h,_,_=>⟨H,c,rfl,h,rfl,fun k=>by rw [J4 (by simp)],fun _ _=>rfl,rfl⟩
 | w :: ws,H,r,off,j,c,el,fr,h1,h2,h3,h4=>by
  simp only [Za] at h4;have g1:(A5 H ⟨r,off + j,none⟩).isSome=true:=(by simp [A5,h2]; omega);have g2:BI H ⟨r,off + j,none⟩=false:=by
   obtain ⟨lo,hi⟩:=fr;simp only at h3;subst h3;simp only [BI,h2];simp; try omega
  obtain ⟨H',c',a1,a2,a3,a4,a5,a6⟩:=KO ws (Aw H ⟨r,off + j,none⟩ w) r off (j + 1) (c.setIfInBounds (off + j) w) el fr (fun x hx=>h1 x (Yd _ hx)) (P7 h2) h3 (by simp; omega);refine ⟨H',c',?_,a2,by simpa using a3,?_,?_,by rw [a6,KW]⟩
  ·simp only [Ar,AS];rw [J8 ⟨h1 w (by simp),g1,g2⟩];exact a1
  ·intro k;rw [a4 k];by_cases e:k=off + j
   ·subst e;rw [J4 (by omega),J8 (by simp),Jt];simp;omega
   ·have e':(c.setIfInBounds (off + j) w)[k]?=c[k]?:=(by rw [Jt,J4 (fun x=>e x.symm)]);rw [e'];by_cases g:off + (j + 1)<=k/\k < off + (j + 1) + ws.length
    ·rw [J8 g,J8 (by simp; omega),show k - (off + j)=(k - (off + (j + 1))) + 1 by omega];simp
    ·rw [J4 g,J4 (by simp; omega)]
  ·intro r' hr;rw [a5 r' hr,LD hr]
theorem Rel.move (h:Rel σ F φ A H) {j:Id} (hj:j.nat=A.nx.nat + 1) {d:Id} {blen:Nat} {t:CT} (hg:A.get d=.c false blen t) {e:Ent} (he:φ d=some e) {x n:Nat} {t':CT} {H':A3} {c':Array Value} {el:TypeId} {fr:Nat × Nat}
  (hH:H'[e.r]?=some (.cells c' el fr)) (hn:c'.size=e.n) (hfr:fr.1=fr.2) (hne:∀ r',r' ≠ e.r->H'[r']?=H[r']?) (hsz:H'.size=H.size) (hr:n<=t'.room) (hx:x + n<=e.n)
  (hv:∀ o,o < n->∃ w,c'[x + o]?=some w/\VR σ φ (t'.get o) w) :
  Rel σ F (φ.put A.nx ⟨e.r,x,e.n⟩) (((A.set d .no).set A.nx (.c false n t')).to j) H':=by
 have hb:=(h.cells hg)
 obtain ⟨e',h1,h3,h4,h5,c,el',fr',h6,h7,h8,h9⟩:=hb
 rw [he] at h1
 simp only [J5] at h1
 subst h1
 have hdn:d ≠ A.nx:=by
  intro x;have:=h.fresh;rw [<- x,he] at this;cases this
 have other:∀ i,i ≠ A.nx->i ≠ d->(((A.set d .no).set A.nx (.c false n t')).to j).get i=A.get i:=by
  intro i h1 h2;rw [AH.xg,AH.ze _ h1,AH.ze _ h2]
 have atD:(((A.set d .no).set A.nx (.c false n t')).to j).get d=.no:=by
  rw [AH.xg,AH.ze _ hdn,AH.zn]
 have atN:(((A.set d .no).set A.nx (.c false n t')).to j).get A.nx=.c false n t':=by
  rw [AH.xg,AH.zn]
 refine ⟨?_,?_,?_,?_,fun r hr=>by rw [hsz]; exact h.st r hr⟩
 ·intro i y hy
  show i.nat < j.nat
  unfold Phi.put at hy
  split at hy
  ·rename_i hi; subst hi; omega
  ·have:=h.dom i y hy; omega
 ·intro i
  by_cases hi:i=A.nx
  ·subst hi
   rw [atN]
   exact ⟨_,J8 rfl,Or.inl (nfr h3),hr,hx,c',el,fr,hH,(fun _=>hn),fun _=>hfr,fun o ho=>let ⟨w,a,b⟩:=hv o ho; ⟨w,a,VR.mono (h.zt _) _ _ b⟩⟩
  ·by_cases hd:i=d
   ·subst hd; rw [atD]; trivial
   ·rw [other i hi hd]
    have hl:=h.liv i
    cases hbk:A.get i with
    | no=>trivial
    | _ =>
     rw [hbk] at hl;refine (hl.keep fun y hy _=>hne _ fun hrr=>hd (h.inj i d y e (by rw [hbk]; simp) (by rw [hg]; simp) hy he hrr)).mono (h.zt _)
 ·intro i1 i2 x1 x2 hi1 hi2 hx1 hx2 hrr
  by_cases a1:i1=d
  ·subst a1; exact absurd atD hi1
  by_cases a2:i2=d
  ·subst a2; exact absurd atD hi2
  unfold Phi.put at hx1 hx2
  by_cases b1:i1=A.nx
  ·by_cases b2:i2=A.nx
   ·rw [b1,b2]
   ·exfalso
    rw [J8 b1] at hx1
    rw [J4 b2] at hx2
    rw [other i2 b2 a2] at hi2
    simp only [J5] at hx1
    subst hx1
    exact a2 (h.inj i2 d x2 e hi2 (by rw [hg]; simp) hx2 he hrr.symm)
  ·rw [J4 b1] at hx1
   rw [other i1 b1 a1] at hi1
   by_cases b2:i2=A.nx
   ·exfalso
    rw [J8 b2] at hx2
    simp only [J5] at hx2
    subst hx2
    exact a1 (h.inj i1 d x1 e hi1 (by rw [hg]; simp) hx1 he hrr)
   ·rw [J4 b2] at hx2
    rw [other i2 b2 a2] at hi2
    exact h.inj i1 i2 x1 x2 hi1 hi2 hx1 hx2 hrr
 ·intro r o hr'
  rw [hne r (by intro x; rw [x,nfr h3] at hr'; cases hr')]
  exact h.frm r o hr'
theorem Rel.drop (h:Rel σ F φ A H) (d:Id):Rel σ F φ (A.set d .no) H:=by
 refine ⟨fun i e he=>by rw [AH.wg]; exact h.dom i e he,fun i=>?_,fun i1 i2 x1 x2 h1 h2=>?_,h.frm,h.st⟩
 ·by_cases hi:i=d
  ·subst hi; rw [AH.zn]; trivial
  ·rw [AH.ze _ hi]; exact h.liv i
 ·have key:∀ i,(A.set d .no).get i ≠ .no->A.get i ≠ .no:=by
   intro i hn;by_cases hi:i=d
   ·subst hi; rw [AH.zn] at hn; exact absurd rfl hn
   ·rwa [AH.ze _ hi] at hn
  exact h.inj i1 i2 x1 x2 (key _ h1) (key _ h2)
def fit (t:CT) (n:Nat):CT:=@Bool.rec (fun _=>CT) ((fun t=>@Bool.rec (fun _=>CT) ((fun t=>@Bool.rec (fun _=>CT) t.up t (Nat.ble n t.room)) t.up) t (Nat.ble n t.room)) t.up) t (Nat.ble n t.room)
theorem Sc (t:CT) (n:Nat) (h:n<=65536):n<=(fit t n).room:=by
 unfold fit;cases h1:Nat.ble n t.room with
 | true=>exact Ja h1
 | false =>
  simp only;cases h2:Nat.ble n t.up.room with
  | true=>exact Ja h2
  | false =>
   simp only;cases h3:Nat.ble n t.up.up.room with
   | true=>exact Ja h3
   | false =>
    simp only;cases t <;> simpa [CT.up,CT.room] using h
theorem Ue (t:CT) (n m:Nat) (hm:m < t.room):(fit t n).get m=t.get m:=by
 unfold fit;have r1:=t.sq;have r2:=t.up.sq;cases Nat.ble n t.room with
 | true=>rfl
 | false =>
  simp only;cases Nat.ble n t.up.room with
  | true=>exact CT.xq hm
  | false =>
   simp only;cases Nat.ble n t.up.up.room with
   | true=>exact (CT.xq (by omega)).trans (CT.xq hm)
   | false=>exact (CT.xq (by omega)).trans ((CT.xq (by omega)).trans (CT.xq hm))
def PW (A:AH) (x:AV) (z:Nat) (k:Nat->List AV->Bool):Bool :=
 x.yl (fun d o len _ _ _=>ifB (Nat.beq len 0) (k 0 []) ((A.get d).zl (fun _ blen t=>ifB (Nat.ble (Nat.add o (Nat.mul len z)) blen) (k len (Da t o (Nat.mul len z))) false) false))
  (x.yk (fun l=>ifB (Nat.beq z 1) (k (E7 l) (l.map fun x=>.z .u8 (Int.ofNat x))) false) (Dx x (k 0 [])))
theorem QY {l:List Nat} (h:∀ x ∈ l,x < 256):VRl σ φ (l.map fun x=>.z .u8 (Int.ofNat x)) (((Bb l).extract 0 l.length).data.toList.map fun b=>.int .u8 b.toNat):=by
 have e:(Bb l).extract 0 l.length=Bb l:=by
  have e:∀ l:List Nat,Bb l=bs (l.map UInt8.ofNat):=fun l=>rfl;rw [e,Ey];simp;rw [Yg (by simp)]
 rw [e];refine VRl.uq (by simp [Bb]) ?_;intro j v w hv hw;simp only [Z0,Bb] at hv hw;cases hl:l[j]? with
 | none=>rw [hl] at hv; cases hv
 | some x =>
  rw [hl] at hv hw;simp only [Ju,J5] at hv hw;subst hv hw;simp only [VR];rw [UInt8.toNat_ofNat',Xs (h x (J2 hl))];rfl
theorem IW {x:AV} {w:Value} {z:Nat} {k:Nat->List AV->Bool} (h:Rel σ F φ A H) (hx:VR σ φ x w) (hk:PW A x z k=true) :
  ∃ n l ws,M9 w=some n/\AR H z n w=some ws/\VRl σ φ l ws/\l.length=n * z/\k n l=true:=by
 unfold PW at hk
 cases x with
 | q d o len cap z' ex =>
  simp only [VR] at hx;obtain ⟨e,x,c,h1,rfl,h3,h4,h5,h6,h7⟩:=hx;replace hk:ifB (Nat.beq len 0) (k 0 []) ((A.get d).zl (fun _ blen t=>ifB (Nat.ble (Nat.add o (Nat.mul len z)) blen) (k len (Da t o (Nat.mul len z))) false) false)=true:=hk;cases hb:Nat.beq len 0 with
  | true =>
   rw [hb] at hk;have:=J9 hb;subst this;exact ⟨0,[],[],rfl,by simp [AR,Ay],by simp [VRl],by simp,hk⟩
  | false =>
   rw [hb] at hk;have hlen:=G0 hb;replace hk:(A.get d).zl (fun _ blen t=>ifB (Nat.ble (Nat.add o (Nat.mul len z)) blen) (k len (Da t o (Nat.mul len z))) false) false=true:=hk;rcases AB.zm (A.get d) (fun _ blen t=>ifB (Nat.ble (Nat.add o (Nat.mul len z)) blen) (k len (Da t o (Nat.mul len z))) false) false with ⟨ro,blen,t,hg,e'⟩ | e'
   ·rw [e'] at hk;obtain ⟨g1,hk⟩:=Ab hk;have g1:=Ja g1;obtain ⟨ws,a1,a2⟩:=h.row hg h1 (len * z) o 0 (by simpa using g1);refine ⟨len,_,ws,rfl,?_,a2,Bx _ _ _,hk⟩;simp only [AR];rw [h6 (.inl (by omega))];exact a1
   ·rw [e'] at hk; cases hk
 | s l =>
  obtain ⟨l',hl,rfl,hb,hk⟩:=AT (k:=fun l=>ifB (Nat.beq z 1) (k (E7 l) (l.map fun x=>.z .u8 (Int.ofNat x))) false) hx hk;simp only [AV.s.injEq] at hl;subst hl;obtain ⟨g1,hk⟩:=Ab hk;have:=J9 g1;subst this;rw [BH] at hk;exact ⟨l.length,_,_,by simp only [M9]; rw [show (ByteArray.mk (l.map UInt8.ofNat).toArray)=Bb l from rfl,IV],rfl,QY hb,by simp,hk⟩
 | nil g =>
  replace hk:ifB (Nat.beq g 1) (k 0 []) false=true:=hk;obtain ⟨g1,hk⟩:=Ab hk;have:=J9 g1;subst this;simp only [VR,EY] at hx;subst hx;exact ⟨0,[],[],rfl,rfl,by simp [VRl],by simp,hk⟩
 | _=>cases hk
def L6 (l:List AV):Bool:=@List.rec AV (fun _=>Bool) true (fun v _ ih=>ifB (GM v) ih false) l
theorem Ic:∀ {l:List AV} {ws:List Value},L6 l=true->VRl σ φ l ws->∀ w ∈ ws,Cb w=true
 | [],ws,_,hv=>by simp only [VRl] at hv; subst hv; simp
 | v :: l,ws,h,hv=>by
  simp only [VRl] at hv;obtain ⟨w,ws',rfl,h1,h2⟩:=hv;obtain ⟨g1,g2⟩:=Ab (show ifB (GM v) (L6 l) false=true from h);intro x hx;rcases J7.1 hx with rfl | hx
  ·exact Gc g1 h1
  ·exact Ic g2 h2 x hx
def Ld (A:AH) (l:List AV) (n:Nat) (z:Nat) (k:AV->AH->Bool):Bool:=ifB (Nat.ble (E7 l) 65536) (Qh A (E7 l) (ctL l) fun i A=>k (.q i 0 n n z false) A) false
def Sw (A:AH) (q:AV) (n:Nat) (l:List AV) (z:Nat) (k:AV->AH->Bool):Bool :=
 q.yl (fun d o len cap z' ex=>ifB (Nat.beq z z') (frc (Nat.add len n) fun need=>ifB (Nat.ble need cap)
   (stN A (.p d (Nat.add o (Nat.mul len z))) l fun A=>k (.q d o need cap z ex) A)
   (ifB (Nat.ble need 60000) (ifB ex (PW A q z fun _ old=>Ld A (EB old l) need z k)
    ((A.get d).zl (fun ro blen t=>ifB ro false (ifB (L6 l) (frc (Nat.mul need z) fun tot=>ifB (Nat.ble tot 65536) (ifB (Nat.ble (Nat.add o (Nat.mul len z)) blen)
     (Nd (A.set d .no) (.c false tot (@Bool.rec (fun _=>CT) (ctL (EB (Da t o (Nat.mul len z)) l)) (Gz l (Nat.mul len z) (fit t tot)) (Nat.beq o 0))) fun i A=>k (.q i 0 need need z false) A) false) false) false)) false)) false)) false)
  (Dx q (ifB (Nat.beq n 0) (k (.nil 1) A) (ifB (Nat.ble n 60000) (Ld A l n z k) false)))
def OS (A:AH) (q x:AV) (z:Nat) (k:AV->AH->Bool):Bool:=PW A x z fun n l=>Sw A q n l z k
theorem Fu (n:Nat):∀ (r c:Nat),c<=n + (n + 768) / 4->Builtin.growBy n r c<=n + (n + 768) / 4
 | 0,c,h=>h
 | r + 1,c,h=>by
  unfold Builtin.growBy;split
  ·exact h
  ·refine Fu n r _ ?_;omega
theorem Eo {need cap:Nat} (h:cap < need):Builtin.nextslicecap need cap<=2 * need + 768:=by
 unfold Builtin.nextslicecap;split
 ·omega
 ·split
  ·omega
  ·have:=Fu need 4 cap (by omega); omega
theorem BJ (z:Array Value) (n:Nat):(Builtin.zeroCells z n).size=n * z.size:=by simp [Builtin.zeroCells]
theorem Pr {l:List AV} {n z:Nat} {k:AV->AH->Bool} {ws rest:List Value} {el:TypeId} {c:Nat} (h:Rel σ F φ A H) (hv:VRl σ φ l ws) (hl:l.length=n * z) (hc:n<=c) (hr:c * z=ws.length + rest.length) (hn:n < 9223372036854775808) (hk:Ld A l n z k=true) :
  ∃ v A' φ',φ.le φ'/\Rel σ F φ' A' (H.push (.cells (ws.toArray ++ rest.toArray) el))/\VR σ φ' v (.slice (some ⟨H.size,0,none⟩) n c)/\k v A'=true:=by
 obtain ⟨h1,hk⟩:=Ab hk
 have h1:=Ja h1
 rw [BH] at h1 hk
 obtain ⟨g1,g2,g3⟩:=Dr (cs:=ws.toArray) h1 (by simpa using hv)
 have hlen:=hv.length
 obtain ⟨i,A',φ',a1,a2,a3,a4⟩:=ID (cs:=ws.toArray ++ rest.toArray) (el:=el) h g1 (by simp; omega) (fun o ho=>by
  obtain ⟨w,b1,b2⟩:=g3 o ho;refine ⟨w,?_,b2⟩;rw [Yy (by simp; omega)];exact b1) hk
 refine ⟨.q i 0 n n z false,A',φ',a1,a2,?_,a4⟩
 simp only [VR]
 refine ⟨_,0,c,a3,rfl,⟨Jb _,hn⟩,hc,?_,fun _=>by simp,fun hh=>by cases hh⟩
 simp
 omega
end
end Go.Run
namespace Go.Run
open Go.HL
variable {σ:Nat->Value} {F:Nat->Option Obj} {φ:Phi} {A:AH} {H:A3} {P:Program} {V:HV}
def AG (H:A3) (size bytes e:Nat) (z:Value) (n:Nat) (new:List Value) (K:Value->A3->Prop) (w:Value):Prop :=
 ∃ base len cap,w=.slice base len cap/\(len + n<=cap->match base with
   | some a=>∃ H',Ar H (a.add (len * size)) new 0=some H'/\K (.slice base (len + n) cap) H'
   | none=>K (.slice base (len + n) cap) H) /\
  (cap < len + n->Builtin.nextslicecap (len + n) cap * bytes<=281474976710656/\len + n<=281474976710656/\∃ old,AR H size len w=some old/\∀ newCap,len + n<=newCap->newCap < 9223372036854775808 ->
   K (.slice (some ⟨H.size,0,none⟩) (len + n) newCap) (H.push (.cells (old.toArray ++ new.toArray ++ Builtin.zeroCells z.cells (newCap - (len + n))) e)))
theorem Ks {size bytes e:Nat} {z:Value} {n:Nat} {new:List Value} {K:Value->A3->Prop} {base:Option Addr} {len cap:Nat}
  (fits:len + n<=cap->match base with
   | some a=>∃ H',Ar H (a.add (len * size)) new 0=some H'/\K (.slice base (len + n) cap) H'
   | none=>K (.slice base (len + n) cap) H)
  (grows:cap < len + n->Builtin.nextslicecap (len + n) cap * bytes<=281474976710656/\len + n<=281474976710656/\∃ old,AR H size len (.slice base len cap)=some old/\∀ newCap,len + n<=newCap->newCap < 9223372036854775808 ->
   K (.slice (some ⟨H.size,0,none⟩) (len + n) newCap) (H.push (.cells (old.toArray ++ new.toArray ++ Builtin.zeroCells z.cells (newCap - (len + n))) e))):AG H size bytes e z n new K (.slice base len cap) :=
 ⟨base,len,cap,rfl,fits,grows⟩
theorem UD {t xt e size bytes n:Nat} {z:Value} {s x:Value} {new:List Value} {d:TypeDesc} {K:Value->A3->Prop}
  (he:AN P t=some e) (h1:Au P e=some size) (h2:Bq P e=some bytes) (hz:AD P e=some z) (hn:M9 x=some n) (hnew:AR H size n x=some new) (hd:P.underlying xt=some d) (hdi:∀ kk,d ≠ .int kk)
  (h:AG H size bytes e z n new K s):NX P H t xt s x K:=by
 obtain ⟨base,len,cap,rfl,fits,grows⟩:=h
 refine .inl ?_
 unfold DK
 simp only [Aq]
 refine ⟨e,he,size,h1,bytes,h2,z,hz,n,hn,new,hnew,d,hd,hdi,?_⟩
 split
 ·rename_i hf
  have:=fits hf
  cases base with
  | none=>exact this
  | some a=>exact this
 ·rename_i hf
  obtain ⟨g1,g2,old,g3,g4⟩:=grows (by omega)
  exact ⟨g1,g2,fun _=>by omega,old,g3,g4⟩
theorem Ii {t xt e size bytes n ty:Nat} {g:IntKind} {z:Value} {s:Value} {K:Value->A3->Prop} {E:Value->A3->Prop}
  (he:P.underlying t=some (.slice e)) (h1:Au P e=some size) (h2:Bq P e=some bytes) (hz:AD P e=some z) (hzs:z.cells.size=size) (hd:P.underlying xt=some (.int g)) (hn:n<=60000) (hb:bytes<=1048576)
  (h:AG H size bytes e z n (Builtin.zeroCells z.cells n).toList K s):hwp P (Builtin.append_ #[t,xt] ty #[s,.int .i64 (n:Nat)]) H K E:=by
 obtain ⟨base,len,cap,rfl,fits,grows⟩:=h
 have hi:∃ i,P.info? e=some i/\i.bytes=bytes:=by
  unfold Bq at h2
  cases hi:P.info? e with
  | none=>simp [hi] at h2
  | some i=>simp [hi] at h2; exact ⟨i,rfl,h2⟩
 obtain ⟨i,hi,hib⟩:=hi
 have hnb:(n:Int) * (bytes:Int)<=281474976710656:=by
  have:n * bytes<=60000 * 1048576:=W2 hn hb
  have e1:((n:Nat):Int) * (bytes:Int)=((n * bytes:Nat):Int):=by simp
  rw [e1]; omega
 unfold Builtin.append_
 simp only [Jw,Z1,Ys]
 refine Aa (A6 he H) ?_
 simp only
 refine Aa (AL h1 H) ?_
 refine Aa (A6 hd H) ?_
 refine Aa (a:=true) rfl ?_
 simp only [Zr]
 have wn:IntKind.i64.wrap (n:Int)=n:=Du n (by omega) (by omega)
 refine Aa (a:=(n:Int)) rfl ?_
 simp only [wn]
 rw [J4 (by omega)]
 refine Aa (B3 hi H) ?_
 rw [hib,J4 (by simp; omega)]
 simp only [Z4]
 refine Aa (a:=n) rfl ?_
 have app:Ac P (if n * size=0 then pure #[] else do pure (Builtin.zeroCells (<- zeroValue e).cells n):Sem (Array Value)) H=some (Builtin.zeroCells z.cells n):=by
  split
  ·rename_i h0
   have:Builtin.zeroCells z.cells n = #[]:=by apply Xx; simp [Builtin.zeroCells,hzs,h0]
   rw [this]; rfl
  ·rw [A4,AF hz]; rfl
 by_cases hf:len + n<=cap
 ·rw [J8 hf]
  refine Aa app ?_
  have:=fits hf
  cases base with
  | none=>exact this
  | some a =>
   obtain ⟨H',hst,hk⟩:=this
   simp only
   rw [Az]
   exact BN _ 0 H H' hst hk
 ·rw [J4 hf]
  obtain ⟨g1,g2,old,hold,hk⟩:=grows (by omega)
  refine Aa (B3 hi H) ?_
  rw [J4 (by rintro ⟨ha,_⟩; simp [IntKind.max,IntKind.bits,IntKind.signed] at ha; omega)]
  refine Aa (B3 hi H) ?_
  rw [hib,J4 (by simp; omega)]
  rw [Az]
  show hwp P (choose (.appendCap (len + n) cap e)) H _ E
  simp only [choose,hwp,Question.forced]
  intro tt
  simp only [Question.cut]
  refine Aa (B3 hi H) ?_
  refine Aa (a:=()) (by unfold askRoom; split <;> rfl) ?_
  refine Aa (B7 hold) ?_
  refine Aa app ?_
  refine Aa (AF hz H) ?_
  have:=hk (len + n + tt % (2 ^ 63 - (len + n))) (by omega) (by have:=Nat.mod_lt tt (y:=2 ^ 63 - (len + n)) (by omega); omega)
  rw [Yr] at this
  exact this
theorem PK {q:AV} {w:Value} {e bytes z n:Nat} {zv:Value} {l:List AV} {new:List Value} {k:AV->AH->Bool} {K:Value->A3->Prop} (h:Rel σ F φ A H) (hq:VR σ φ q w) (hl:VRl σ φ l new) (hll:l.length=n * z)
  (hb:bytes<=1048576) (hzs:zv.cells.size=z)
  (hK:∀ v A' φ' w' H',φ.le φ'->Rel σ F φ' A' H'->VR σ φ' v w'->k v A'=true->K w' H') (hk:Sw A q n l z k=true):AG H z bytes e zv n new K w:=by
 unfold Sw at hk
 have hnl:=hl.length
 have room:∀ m c:Nat,m<=60000->c < m->Builtin.nextslicecap m c * bytes<=281474976710656:=by
  intro m c hm hc
  have:=Eo hc
  calc Builtin.nextslicecap m c * bytes<=(2 * m + 768) * 1048576:=W2 this hb
   _<=281474976710656:=by omega
 cases q with
 | q d o len cap z' ex =>
  have hq0:=hq
  simp only [VR] at hq
  obtain ⟨e',x',c,g1,rfl,g3,g4,g5,g6,g7⟩:=hq
  replace hk:ifB (Nat.beq z z') (frc (Nat.add len n) fun need=>ifB (Nat.ble need cap)
   (stN A (.p d (Nat.add o (Nat.mul len z))) l fun A=>k (.q d o need cap z ex) A)
   (ifB (Nat.ble need 60000) (ifB ex (PW A (.q d o len cap z' ex) z fun _ old=>Ld A (EB old l) need z k)
    ((A.get d).zl (fun ro blen t=>ifB ro false (ifB (L6 l) (frc (Nat.mul need z) fun tot=>ifB (Nat.ble tot 65536) (ifB (Nat.ble (Nat.add o (Nat.mul len z)) blen)
     (Nd (A.set d .no) (.c false tot (@Bool.rec (fun _=>CT) (ctL (EB (Da t o (Nat.mul len z)) l)) (Gz l (Nat.mul len z) (fit t tot)) (Nat.beq o 0))) fun i A=>k (.q i 0 need need z false) A) false) false) false)) false)) false)) false=true:=hk
  obtain ⟨b1,ka⟩:=Ab hk
  have b1:=J9 b1
  subst b1
  rw [Bw] at ka
  clear hk
  simp only [Wk,W3] at ka
  cases hfit:Nat.ble (len + n) cap with
  | true =>
   rw [hfit] at ka
   have hfit:=Ja hfit
   have ka:stN A (.p d (o + len * z)) l (fun A=>k (.q d o (len + n) cap z ex) A)=true:=ka
   obtain ⟨a,A',H',c1,c2,c3,c4⟩:=Fo h (p:=.p d (o + len * z)) (w:=.pointer (some ⟨e'.r,e'.s + (o + len * z),none⟩)) (by simp only [VR]; exact ⟨e',g1,rfl⟩) hl ka
   simp only [Value.pointer.injEq,J5] at c1
   subst c1
   refine Ks (fun _=>?_) (fun hh=>by omega)
   by_cases hcap:cap=0
   ·have:n=0:=by omega
    subst this
    have:l = []:=by apply X7; simpa using hll
    subst this
    simp only [VRl] at hl
    subst hl
    simp only [Ar,J5] at c2 ⊢
    subst c2
    refine ⟨H,rfl,hK _ A' φ _ H φ.le_refl c3 ?_ c4⟩
    simp only [VR]
    exact ⟨e',x',c,g1,rfl,⟨hfit,g3.2⟩,g4,g5,g6,g7⟩
   ·show ∃ H',Ar H ((⟨e'.r,x',none⟩:Addr).add (len * z)) new 0=some H'/\K (.slice (some ⟨e'.r,x',none⟩) (len + n) c) H'
    rw [g6 (.inl hcap),AS]
    refine ⟨H',by rw [show e'.s + o + len * z=e'.s + (o + len * z) by omega]; exact c2,hK _ A' φ _ H' φ.le_refl c3 ?_ c4⟩
    simp only [VR]
    exact ⟨e',e'.s + o,c,g1,rfl,⟨hfit,g3.2⟩,g4,by rw [<- g6 (.inl hcap)]; exact g5,fun _=>rfl,g7⟩
  | false =>
   rw [hfit] at ka
   have hfit:cap < len + n:=by
    apply Yu
    intro hh
    rw [Yz hh] at hfit
    cases hfit
   obtain ⟨b2,ka⟩:=Ab (show ifB _ _ false=true from ka)
   have b2:=Ja b2
   cases ex with
   | true =>
    have hc:=g7 rfl
    obtain ⟨m,ol,old,d1,d2,d3,d4,ka⟩:=IW h hq0 (show PW A (.q d o len cap z true) z (fun _ old=>Ld A (EB old l) (len + n) z k)=true from ka)
    simp only [M9,J5] at d1
    subst d1
    refine Ks (fun hh=>by omega) (fun hh=>⟨room _ _ b2 (by omega),by omega,old,d2,fun nc e1 e2=>?_⟩)
    rw [EA] at ka
    obtain ⟨v,A',φ',f1,f2,f3,f4⟩:=Pr (ws:=old ++ new) (rest:=(Builtin.zeroCells zv.cells (nc - (len + n))).toList) (el:=e) (c:=nc) h (d3.app hl) (by simp [d4,hll,Y4]) e1 (by
     have hol:=d3.length
     simp only [Jv,Zw,BJ,hzs]
     rw [<- hol,<- hnl,d4,hll]
     have:nc * z=(nc - (len + n)) * z + (len + n) * z:=by rw [<- Y4]; congr 1; omega
     rw [this,Y4]; omega) (by omega) ka
    have ea:(old ++ new).toArray ++ (Builtin.zeroCells zv.cells (nc - (len + n))).toList.toArray=old.toArray ++ new.toArray ++ Builtin.zeroCells zv.cells (nc - (len + n)):=by apply Zk; simp
    rw [ea] at f2
    exact hK v A' φ' _ _ f1 f2 f3 f4
   | false =>
    have ka:(A.get d).zl (fun ro blen t=>ifB ro false (ifB (L6 l) (frc ((len + n) * z) fun tot=>ifB (Nat.ble tot 65536) (ifB (Nat.ble (o + len * z) blen)
     (Nd (A.set d .no) (.c false tot (@Bool.rec (fun _=>CT) (ctL (EB (Da t o (len * z)) l)) (Gz l (len * z) (fit t tot)) (Nat.beq o 0))) fun i A=>k (.q i 0 (len + n) (len + n) z false) A) false) false) false)) false=true:=ka
    rcases AB.zm (A.get d) (fun ro blen t=>ifB ro false (ifB (L6 l) (frc ((len + n) * z) fun tot=>ifB (Nat.ble tot 65536) (ifB (Nat.ble (o + len * z) blen)
     (Nd (A.set d .no) (.c false tot (@Bool.rec (fun _=>CT) (ctL (EB (Da t o (len * z)) l)) (Gz l (len * z) (fit t tot)) (Nat.beq o 0))) fun i A=>k (.q i 0 (len + n) (len + n) z false) A) false) false) false)) false with ⟨ro,blen,tr,hg,e1⟩ | e1
    ·rw [e1] at ka
     obtain ⟨i1,ka⟩:=HH ka
     subst i1
     obtain ⟨i2,ka⟩:=Ab ka
     rw [Bw] at ka
     obtain ⟨i3,ka⟩:=Ab ka
     obtain ⟨i4,ka⟩:=Ab ka
     have i3:=Ja i3
     have i4:=Ja i4
     obtain ⟨j,hj,ka⟩:=D2 ka
     rw [AH.wg] at hj ka
     obtain ⟨e2,j1,j3,j4,j5,cc,el,fr,j6,j7,j8,j9⟩:=h.cells hg
     have j7:=j7 rfl
     rw [g1] at j1
     simp only [J5] at j1
     subst j1
     have tot:(len + n) * z=len * z + n * z:=Y4 ..
     have tree:∀ T,T=(@Bool.rec (fun _=>CT) (ctL (EB (Da tr o (len * z)) l)) (Gz l (len * z) (fit tr ((len + n) * z))) (Nat.beq o 0))->(len + n) * z<=T.room/\∀ m,m < (len + n) * z->T.get m=if m < len * z then tr.get (o + m) else l.getD (m - len * z) .u:=by
      intro T hT
      cases ho:Nat.beq o 0 with
      | true =>
       rw [ho] at hT
       have:=J9 ho
       subst this
       simp only at hT
       have hr:=Sc tr ((len + n) * z) i3
       refine ⟨by rw [hT,Hl]; exact hr,fun m hm=>?_⟩
       rw [hT,IX l _ _ (by rw [hll]; omega) m (by omega)]
       by_cases hlt:m < len * z
       ·rw [J4 (by omega),J8 hlt,Ue _ _ _ (by omega),Zv]
       ·rw [J8 (by rw [hll]; omega),J4 hlt]
      | false =>
       rw [ho] at hT
       simp only [EA] at hT
       have hlen:(Da tr o (len * z) ++ l).length=(len + n) * z:=by simp [Bx,hll,Y4]
       refine ⟨by rw [hT,<- hlen]; exact Ki _ (by rw [hlen]; exact i3),fun m hm=>?_⟩
       rw [hT,Py _ (by rw [hlen]; exact i3) m (by rw [hlen]; exact hm),Jq]
       by_cases hlt:m < len * z
       ·rw [Jg (by rw [Bx]; exact hlt),JE _ _ _ _ hlt,J8 hlt]; rfl
       ·rw [Jf (by rw [Bx]; omega),Bx,J4 hlt,Jq]
     obtain ⟨t1,t2⟩:=tree _ rfl
     generalize (@Bool.rec (fun _=>CT) (ctL (EB (Da tr o (len * z)) l)) (Gz l (len * z) (fit tr ((len + n) * z))) (Nat.beq o 0))=T at t1 t2 ka
     have hx0:len * z ≠ 0->x'=e'.s + o:=fun hh=>g6 (.inl (fun hc0=>by
      have:len=0:=by omega
      rw [this] at hh
      simp at hh))
     have oldc:∀ m,m < len * z->∃ w,cc[x' + m]?=some w/\VR σ φ (tr.get (o + m)) w:=by
      intro m hm
      obtain ⟨w,a1,a2⟩:=j9 (o + m) (by omega)
      exact ⟨w,by rw [hx0 (by omega),show e'.s + o + m=e'.s + (o + m) by omega]; exact a1,a2⟩
     have hle:x' + c * z<=cc.size:=by have:=g5.1; omega
     refine Ks (fun hfits=>?_) (fun hgrow=>⟨room _ _ b2 hgrow,by omega,?_⟩)
     ·
      have hcz:(len + n) * z<=c * z:=Y3 _ hfits
      obtain ⟨H',c',k1,k2,k3,k4,k5,k6⟩:=KO new H e'.r (x' + len * z) 0 cc el fr (Ic i2 hl) j6 (j8 rfl) (by rw [<- hnl,hll]; omega)
      show ∃ H',Ar H ((⟨e'.r,x',none⟩:Addr).add (len * z)) new 0=some H'/\K (.slice (some ⟨e'.r,x',none⟩) (len + n) c) H'
      rw [AS]
      refine ⟨H',k1,?_⟩
      refine hK _ _ _ _ _ (h.zt ⟨e'.r,x',e'.n⟩) (h.move (n:=(len + n) * z) (t':=T) hj hg g1 k2 (by omega) (j8 rfl) k5 k6 t1 (by omega) ?_) ?_ ka
      ·intro m hm
       rw [t2 m hm,k4]
       by_cases hlt:m < len * z
       ·rw [J8 hlt,J4 (by omega)]
        exact oldc m hlt
       ·rw [J4 hlt,J8 (by rw [<- hnl,hll]; omega)]
        obtain ⟨w,a1,a2⟩:=hl.get (j:=m - len * z) (v:=l.getD (m - len * z) .u) (by rw [Jq,J1 (by rw [hll]; omega)]; rfl)
        exact ⟨w,by rw [show x' + m - (x' + len * z + 0)=m - len * z by omega]; exact a1,a2⟩
      ·simp only [VR]
       exact ⟨_,x',c,J8 rfl,rfl,⟨Jb _,by omega⟩,hfits,by show x' + c * z<=e'.n/\(c ≠ 0->x' + c * z=e'.n); omega,fun _=>rfl,fun hh=>by cases hh⟩
     ·
      have hold:∃ old,AR H z len (.slice (some ⟨e'.r,x',none⟩) len c)=some old/\VRl σ φ (Da tr o (len * z)) old:=by
       by_cases hz0:len * z=0
       ·refine ⟨[],by simp only [AR,hz0,Ay],by rw [hz0]; simp [Da,VRl]⟩
       ·obtain ⟨ws,a1,a2⟩:=h.row hg g1 (len * z) o 0 (by omega)
        exact ⟨ws,by simp only [AR]; rw [hx0 hz0]; exact a1,a2⟩
      obtain ⟨old,l1,l2⟩:=hold
      refine ⟨old,l1,fun nc e1' e2'=>?_⟩
      have holen:=l2.length
      rw [Bx] at holen
      have hD:=h.drop d
      have hput:((A.set d .no).nx)=A.nx:=AH.wg ..
      have sz:(old.toArray ++ new.toArray ++ Builtin.zeroCells zv.cells (nc - (len + n))).size=nc * z:=by
       simp only [Array.size_append,Xe,BJ,hzs]
       rw [<- holen,<- hnl,hll]
       have:nc * z=(nc - (len + n)) * z + (len + n) * z:=by rw [<- Y4]; congr 1; omega
       omega
      have hnew':=hD.wq (j:=j) (len:=(len + n) * z) (t:=T) (cs:=old.toArray ++ new.toArray ++ Builtin.zeroCells zv.cells (nc - (len + n))) (el:=e) (by rw [hput]; exact hj) t1 (by rw [sz]; exact Y3 _ e1') (by
       intro m hm
       rw [t2 m hm,Yy (by simp; rw [<- holen,<- hnl,hll]; omega)]
       by_cases hlt:m < len * z
       ·rw [J8 hlt,Yy (by simp; omega)]
        obtain ⟨w,a1,a2⟩:=l2.get (JE tr (len * z) o m hlt)
        exact ⟨w,by simpa using a1,a2⟩
       ·rw [J4 hlt,Array.getElem?_append_right (by simp; omega)]
        obtain ⟨w,a1,a2⟩:=hl.get (j:=m - len * z) (v:=l.getD (m - len * z) .u) (by rw [Jq,J1 (by rw [hll]; omega)]; rfl)
        exact ⟨w,by simpa [<- holen] using a1,a2⟩)
      rw [hput] at hnew'
      refine hK _ _ _ _ _ (h.zt _) hnew' ?_ ka
      simp only [VR]
      refine ⟨_,0,nc,J8 rfl,rfl,⟨Jb _,by omega⟩,e1',?_,fun _=>by simp,fun hh=>by cases hh⟩
      rw [sz]; show 0 + nc * z<=nc * z/\(nc ≠ 0->0 + nc * z=nc * z); omega
    ·rw [e1] at ka; cases ka
 | nil g =>
  replace hk:ifB (Nat.beq g 1) (ifB (Nat.beq n 0) (k (.nil 1) A) (ifB (Nat.ble n 60000) (Ld A l n z k) false)) false=true:=hk
  obtain ⟨b1,ka⟩:=Ab hk
  have b1:=J9 b1
  subst b1
  simp only [VR,EY] at hq
  subst hq
  cases hn0:Nat.beq n 0 with
  | true =>
   rw [hn0] at ka
   have hn0:=J9 hn0
   subst hn0
   refine Ks (fun _=>?_) (fun hh=>by omega)
   exact hK _ A φ _ H φ.le_refl h (by simp only [VR,EY]) ka
  | false =>
   rw [hn0] at ka
   have hn0:=G0 hn0
   obtain ⟨b2,ka⟩:=Ab (show ifB _ _ false=true from ka)
   have b2:=Ja b2
   refine Ks (fun hh=>by omega) (fun hh=>⟨room _ _ (by omega) hh,by omega,[],rfl,fun nc e1 e2=>?_⟩)
   obtain ⟨v,A',φ',f1,f2,f3,f4⟩:=Pr (ws:=new) (rest:=(Builtin.zeroCells zv.cells (nc - (0 + n))).toList) (el:=e) (c:=nc) h hl hll (by omega) (by
    simp only [Zw,BJ,hzs]
    rw [<- hnl,hll]
    have:nc * z=(nc - (0 + n)) * z + n * z:=by rw [<- Y4]; congr 1; omega
    omega) (by omega) ka
   have ea:new.toArray ++ (Builtin.zeroCells zv.cells (nc - (0 + n))).toList.toArray=([]:List Value).toArray ++ new.toArray ++ Builtin.zeroCells zv.cells (nc - (0 + n)):=by apply Zk; simp
   rw [ea] at f2
   refine hK v A' φ' _ _ f1 f2 ?_ f4
   rw [Zv]; exact f3
 | _=>cases hk
theorem PL {q x:AV} {w wx:Value} {t xt e bytes z:Nat} {zv:Value} {d:TypeDesc} {k:AV->AH->Bool} {K:Value->A3->Prop} (h:Rel σ F φ A H) (hq:VR σ φ q w) (hx:VR σ φ x wx)
  (he:AN P t=some e) (h1:Au P e=some z) (h2:Bq P e=some bytes) (hb:bytes<=1048576) (hz:AD P e=some zv) (hzs:zv.cells.size=z) (hd:P.underlying xt=some d) (hdi:∀ kk,d ≠ .int kk)
  (hK:∀ v A' φ' w' H',φ.le φ'->Rel σ F φ' A' H'->VR σ φ' v w'->k v A'=true->K w' H') (hk:OS A q x z k=true):NX P H t xt w wx K:=by
 obtain ⟨n,l,new,hn,hnew,hl,hll,hk⟩:=IW h hx hk
 exact UD he h1 h2 hz hn hnew hd hdi (PK h hq hl hll hb hzs hK hk)
end Go.Run
namespace Go.HL
theorem NW {P:Program} {H:A3} {t xt e bytes n:Nat} {zero s:Value} {g:IntKind} {vs:List Value} {k:Value->A3->Prop} (hT:ElT P t e 1 bytes zero) (hz:zero.cells = #[zero]) (h1:Cb zero=true) (hv:Vec H e 1 s vs) (hd:P.underlying xt=some (.int g))
  (hn:n<=60000) (hb:bytes<=1048576) (hlen:(2 * (vs.length + n) + 200) * (bytes + 1)<=281474976710656)
  (hk:∀ v' H',Vec H' e 1 v' (vs ++ List.replicate n zero)->Fr (own s) H H'->(∀ b ∈ own v',b ∈ own s\/H.size<=b)->(∃ a' c',v'=.slice a' (vs.length + n) c')->k v' H') :
  @I9 P t xt s (.int .i64 (n:Nat)) ⟨H⟩ ⟨k⟩:=by
 have hnew:(Builtin.zeroCells zero.cells n).toList=List.replicate n zero:=by
  rw [hz];apply Ye
  ·simp [Builtin.zeroCells]
  ·intro i h1 h2;simp [Builtin.zeroCells,Vf]
 refine .inr (Go.Run.Ii hT.under hT.size hT.bytes hT.zero (by rw [hz]; rfl) hd hn hb ?_)
 rw [hnew]
 have hl2:∀ c,c < vs.length + n->Builtin.nextslicecap (vs.length + n) c * bytes<=281474976710656/\vs.length + n<=281474976710656:=by
  intro c hc;have h3:=Eo hc;have:Builtin.nextslicecap (vs.length + n) c * bytes<=(2 * (vs.length + n) + 200) * bytes:=Y3 _ h3;have h4:(2 * (vs.length + n) + 200) * bytes<=(2 * (vs.length + n) + 200) * (bytes + 1):=Nat.mul_le_mul_left _ (by omega);have h5:2 * (vs.length + n) + 200<=(2 * (vs.length + n) + 200) * (bytes + 1):=Nat.le_mul_of_pos_right _ (by omega);omega
 have fresh:∀ newCap,vs.length + n<=newCap->k (.slice (some ⟨H.size,0,none⟩) (vs.length + n) newCap) (H.push (.cells (vs.toArray ++ (List.replicate n zero).toArray ++ Builtin.zeroCells zero.cells (newCap - (vs.length + n))) e)):=by
  intro newCap hc;refine hk _ _ ⟨.inr ⟨H.size,vs.length + n,newCap,[],(Builtin.zeroCells zero.cells (newCap - (vs.length + n))).toList,rfl,?_,by simp,by simp [BJ,hz],hc⟩⟩ Fr.push ?_ ⟨_,_,rfl⟩
  ·refine Blk.new ?_;apply Zk;simp
  ·intro b hb;simp [own] at hb;exact .inr (by omega)
 rcases hv.ex with ⟨rfl,rfl⟩ | ⟨b,len,cap,pre,rest,rfl,hb,hl,hr,hle⟩
 ·refine Go.Run.Ks (fun hf=>?_) (fun hf=>?_)
  ·have:n=0:=by omega
   subst this
   exact hk _ _ Vec.nil (Fr.refl _ _) (by simp [own]) ⟨_,_,rfl⟩
  ·obtain ⟨g1,g2⟩:=hl2 0 (by simpa using hf)
   exact ⟨by simpa using g1,by simpa using g2,[],rfl,fun nc h2 _=>by simpa using fresh nc (by simpa using h2)⟩
 ·rw [Jy] at hl hr
  subst hl
  refine Go.Run.Ks (fun hf=>?_) (fun hf=>?_)
  ·have hb':Blk H b e ((pre ++ vs) ++ rest.take n ++ rest.drop n):=by
    rw [Je,Zn]; exact hb
   obtain ⟨H',hw,hb2,hf2⟩:=Gu (List.replicate n zero) (pre ++ vs) _ _ H hb' (by simp; omega)
   refine ⟨H',?_,?_⟩
   ·rw [BK _ _ _ (by intro u hu; rw [List.mem_replicate] at hu; rw [hu.2]; exact h1),AS,Jy]
    rw [Jv] at hw
    exact hw
   ·refine hk _ _ ⟨.inr ⟨b,vs.length + n,cap,pre,rest.drop n,rfl,?_,by simp,by simp; omega,hf⟩⟩ (by simpa [own] using hf2) (by simp [own]) ⟨_,_,rfl⟩
    simpa [Je] using hb2
  ·obtain ⟨g1,g2⟩:=hl2 cap hf
   refine ⟨g1,g2,vs,?_,fun nc h2 _=>fresh nc h2⟩
   show Ay (A5 H) ⟨b,pre.length,none⟩ 0 (vs.length * 1)=some vs
   rw [Jy]
   refine Bi vs pre.length 0 ?_
   intro j hj
   rw [hb.cell,Zc,Je,Jf (by omega),Y2,Jg hj,J1 hj]
end Go.HL
namespace Go.Proofs.YtkdlmdmlomgdiaaGreat
open Go.HL HM Go.Sat
section
variable {H:A3} {ow:Nat->Nat} {p m:Nat} {f:Kf}
theorem JP {x:Int} (hx:-100000<=x/\x<=100000):CallF Tryz.prog 216 [iv x] H (fun v H'=>v=iv (Ai x:Nat)/\H'=H) NoP:=by
 have:((Ai x:Nat):Int)=if x < 0 then -2 * x + 1 else 2 * x:=by
  unfold Ai;by_cases h:x < 0
  ·rw [J8 h,J8 h]; omega
  ·rw [J4 h,J4 h]; omega
 rw [this];refine A9 Tryz.func216 rfl Tryz.ntmps216 Tryz.results216 (by decide) rfl ?_;by_cases h:x < 0
 ·rw [J8 h];simp (disch:=omega) only [go_sem,↓cB];exact fin ⟨rfl,rfl⟩
 ·rw [J4 h];simp (disch:=omega) only [go_sem,↓cB];exact fin ⟨rfl,rfl⟩
theorem MD.bq {D D':Nat->Option Ob} {mp:Nat} {kvs:List (Value × Value)} (h:MD H ow D mp kvs) (hD:∀ q,D' q=D q\/∃ e z,D' q=some ⟨e,z,.slice none 0 0,[]⟩) (d0:D' 0=none) (d3:D' 3=none):MD H ow D' mp kvs:=by
 refine ⟨fun q o2 h2=>?_,h.mr,h.mo,h.lo,d0,d3⟩;rcases hD q with e | ⟨e,z,e2⟩
 ·exact h.mm q o2 (e ▸ h2)
 ·rw [e2] at h2;cases h2
  exact VR.nil
theorem RK.nz (h:RK H ow p f) {H1:A3} {v':Value} {l:List Int} (g1:Vec H1 179 1 v' (l.map (Value.int .i8))) (g2:Fr (own f.val) H H1) (g3:∀ b ∈ own v',b ∈ own f.val\/H.size<=b) :
  ∃ ow' H',wr H1 ⟨p,3,none⟩ v'=some H'/\RK H' ow' p { f with val:=v',vals:=l }/\Ex H ow H' ow':=by
 obtain ⟨ow',m1,e1⟩:=MD.grow h (r:=5) rfl (o':=⟨179,1,v',l.map (Value.int .i8)⟩) g1 g2 g3
 obtain ⟨H',h1,m,e⟩:=m1.self (l:=Cy f) (t:=197) rfl rfl (i:=3) (by omega) v'
 exact ⟨ow',H',h1,m.ext (Ih (f:=f) rfl rfl rfl rfl rfl rfl rfl rfl rfl (ds8 (ds8 kd8 (by omega)) (by omega)) rfl),e1.trans e⟩
theorem RK.n9 (h:RK H ow p f) {H1:A3} {v':Value} {l:List Int} (g1:Vec H1 3 1 v' (l.map iv)) (g2:Fr (own f.rea) H H1) (g3:∀ b ∈ own v',b ∈ own f.rea\/H.size<=b) :
  ∃ ow' H',wr H1 ⟨p,4,none⟩ v'=some H'/\RK H' ow' p { f with rea:=v',rs:=l }/\Ex H ow H' ow':=by
 obtain ⟨ow',m1,e1⟩:=MD.grow h (r:=6) rfl (o':=⟨3,1,v',l.map iv⟩) g1 g2 g3
 obtain ⟨H',h1,m,e⟩:=m1.self (l:=Cy f) (t:=197) rfl rfl (i:=4) (by omega) v'
 exact ⟨ow',H',h1,m.ext (Ih (f:=f) rfl rfl rfl rfl rfl rfl rfl rfl rfl (ds8 (ds8 kd8 (by omega)) (by omega)) rfl),e1.trans e⟩
theorem RK.ny (h:RK H ow p f) (hw:∀ x,f.wv.length<=x->f.w x = []) {H1:A3} {v':Value} {n:Nat} (g1:Vec H1 23 1 v' (f.wv ++ List.replicate n (.slice none 0 0))) (g2:Fr (own f.wat) H H1) (g3:∀ b ∈ own v',b ∈ own f.wat\/H.size<=b) :
  ∃ ow' H',wr H1 ⟨p,2,none⟩ v'=some H'/\RK H' ow' p { f with wat:=v',wv:=f.wv ++ List.replicate n (.slice none 0 0) }/\Ex H ow H' ow':=by
 obtain ⟨ow',m1,e1⟩:=MD.grow h (r:=4) rfl (o':=⟨23,1,v',f.wv ++ List.replicate n (.slice none 0 0)⟩) g1 g2 g3
 obtain ⟨H',h1,m,e⟩:=m1.self (l:=Cy f) (t:=197) rfl rfl (i:=2) (by omega) v'
 refine ⟨ow',H',h1,MD.bq m (fun q=>?_) rfl rfl,e1.trans e⟩
 by_cases h1:q=1
 ·subst h1; exact .inl rfl
 by_cases h4:q=4
 ·subst h4; exact .inl rfl
 rw [Aj h1,Aj h4]
 by_cases hq:q < 100
 ·left
  unfold KD
  simp only [J4 h1,J4 h4,J8 hq]
 ·have h3:q % 3=1\/q % 3=2\/q % 3=0:=by omega
  rcases h3 with h3 | h3 | h3
  ·obtain ⟨x,rfl⟩:∃ x,q=100 + 3 * x:=⟨(q - 100) / 3,by omega⟩
   rw [F4,F4]
   by_cases hx:x < f.wv.length
   ·left
    show ((f.wv ++ _)[x]?).map _=_
    rw [Jg hx]
   ·show ((f.wv ++ List.replicate n (Value.slice none 0 0))[x]?).map _=_\/_
    rw [Jf (by omega),Xl]
    split
    ·right
     refine ⟨3,1,?_⟩
     show some (Ob.mk _ _ _ (nv (f.w x)))=_
     rw [hw x (by omega)]; rfl
    ·left
     rw [Jp (by omega)]
  ·obtain ⟨x,rfl⟩:∃ x,q=101 + 3 * x:=⟨(q - 101) / 3,by omega⟩
   rw [Er,Er]; exact .inl rfl
  ·obtain ⟨x,rfl⟩:∃ x,q=102 + 3 * x:=⟨(q - 102) / 3,by omega⟩
   rw [EN,EN]; exact .inl rfl
theorem JO (h:RK H ow p f) {k v:Nat} (h1:f.vals.length=2 * k) (h2:f.wv.length=2 * k) (h3:f.rs.length=k) (hw:∀ x,f.wv.length<=x->f.w x = []) (hv:v<=10000) (hk:k<=10000) :
  CallF Tryz.prog 133 [pv p,iv v] H (fun r H'=>r=.tuple #[]/\∃ ow' va wa ra,RK H' ow' p { f with val:=va,wat:=wa,rea:=ra,vals:=f.vals ++ List.replicate (2 * (v + 1) - 2 * k) 0,wv:=f.wv ++ List.replicate (2 * (v + 1) - 2 * k) (.slice none 0 0),rs:=f.rs ++ List.replicate (v + 1 - k) (-1) }/\Ex H ow H' ow') NoP:=by
 obtain ⟨va,vc,ev⟩:∃ a cap,f.val=.slice a (2 * k) cap:=by
  obtain ⟨a,cap,e⟩:=MD.form h (r:=5) rfl rfl;exact ⟨a,cap,by rw [<- h1]; simpa using e⟩
 have c3:A5 H ⟨p,3,none⟩=some (.slice va (2 * k) vc):=by rw [<- ev]; exact h.c rfl
 obtain ⟨n,hn⟩:∃ n,n=2 * (v + 1) - 2 * k:=⟨_,rfl⟩
 rw [<- hn]
 refine A9 Tryz.func133 rfl Tryz.ntmps133 Tryz.results133 (by decide) rfl ?_
 by_cases hle:v + 1<=k
 ·simp (disch:=omega) only [go_sem,↓cB,c3]
  have e0:n=0:=by omega
  have e1:v + 1 - k=0:=by omega
  rw [e0,e1]
  refine fin ⟨rfl,ow,f.val,f.wat,f.rea,?_,Ex.refl⟩
  simpa using h
 ·have hn1:2 * (v:Int) + 2 - ((2 * k:Nat):Int)=((n:Nat):Int):=by omega
  have hv5:VR H ow 5 179 1 (.slice va (2 * k) vc) (f.vals.map (Value.int .i8)):=by rw [<- ev]; exact MD.mm h 5 _ rfl
  simp (disch:=omega) only [go_sem,↓cB,c3,hn1]
  refine NW T.ab rfl rfl hv5.vec Tryz.underlying3 (by omega) (by omega) (by rw [Jm,h1]; omega) ?_
  intro v1 H1 g1 g2 g3 g4
  obtain ⟨a1,q1,ev1⟩:=g4
  subst ev1
  obtain ⟨ow1,H2,w2,m2,e2⟩:=h.nz (l:=f.vals ++ List.replicate n 0) (by rw [Zf,Ym]; exact g1) (by rw [ev]; exact g2) (by rw [ev]; exact g3)
  have c2:A5 H2 ⟨p,2,none⟩=some f.wat:=m2.c rfl
  simp (disch:=omega) only [go_sem,↓cB,w2,c2]
  refine NW (n:=n) T.qe rfl rfl (MD.mm m2 4 _ rfl).vec Tryz.underlying3 (by omega) (by omega) (by show (2 * (f.wv.length + n) + 200) * _<=_; rw [h2]; omega) ?_
  intro v2 H3 g1 g2 g3 g4
  obtain ⟨a2,q2,ev2⟩:=g4
  subst ev2
  obtain ⟨ow3,H4,w4,m4,e4⟩:=m2.ny hw g1 g2 g3
  simp (disch:=omega) only [go_sem,↓cB,w4]
  refine Ae (fun j U H5=>∃ (i:Nat) (ow5:Nat->Nat) (ra:Value),j=v + 1 - k - i/\i<=v + 1 - k/\(U.get 0=pv p/\U.get 1=iv v/\U.ds = [])/\RK H5 ow5 p { f with val:=.slice a1 ((f.vals.map (Value.int .i8)).length + n) q1,wat:=.slice a2 (f.wv.length + n) q2,rea:=ra,vals:=f.vals ++ List.replicate n 0,wv:=f.wv ++ List.replicate n (.slice none 0 0),rs:=f.rs ++ List.replicate i (-1) }/\Ex H ow H5 ow5) (k:=v + 1 - k) ?_ ?_
  ·exact ⟨0,ow3,f.rea,rfl,by omega,by simp (disch:=omega) only [go_sem,↓cB],by simpa using m4,e2.trans e4⟩
  ·rintro _ U H5 ⟨i,ow5,ra,rfl,hi,⟨r0,r1,rd⟩,m5,e5⟩
   have hv6:VR H5 ow5 6 3 1 ra ((f.rs ++ List.replicate i (-1)).map iv):=MD.mm m5 6 _ rfl
   obtain ⟨a6,q6,rfl⟩:=hv6.form
   have hl6:((f.rs ++ List.replicate i (-1)).map iv).length=k + i:=by simp [h3]
   have c4:A5 H5 ⟨p,4,none⟩=some (.slice a6 (k + i) q6):=by rw [<- hl6]; exact m5.c rfl
   by_cases hie:i=v + 1 - k
   ·simp (disch:=omega) only [go_sem,↓cB,r0,r1,rd,c4]
    subst hie
    exact fin ⟨rfl,ow5,_,_,_,m5,e5⟩
   ·simp (disch:=omega) only [go_sem,↓cB,r0,r1,rd,c4]
    rw [hl6] at hv6
    refine AK T.zk rfl hv6.vec rfl (by rw [hl6]; omega) ?_
    intro v6 H6 g1 g2 g3 g4
    obtain ⟨a7,q7,ev6⟩:=g4
    subst ev6
    obtain ⟨ow7,H7,w7,m7,e7⟩:=m5.n9 (l:=f.rs ++ List.replicate (i + 1) (-1)) (by rw [List.replicate_succ',<- Je,Zf]; exact g1) (by cases a6 <;> exact g2) (fun b hb=>by have:=g3 b hb; cases a6 <;> exact this)
    simp (disch:=omega) only [go_sem,↓cB,w7]
    exact fin ⟨v + 1 - k - (i + 1),by omega,i + 1,ow7,_,rfl,by omega,by simp (disch:=omega) only [go_sem,↓cB,r0,r1,rd],m7,e5.trans e7⟩
end
end Go.Proofs.YtkdlmdmlomgdiaaGreat
namespace Go.HL
variable {P:Program} {H:A3}
def EL (k:ByteArray):List (Value × Value)->Option Nat
 | []=>none
 | (.string s,_) :: r=>if k=s then some 0 else (EL k r).map (· + 1)
 | _ :: r=>(EL k r).map (· + 1)
theorem Nx {k:ByteArray}:∀ (es:List MapEntry) (kvs:List (Value × Value)) (i:Nat),es.map (fun e=>(e.key,e.val))=kvs->(∀ x ∈ kvs,∃ s,x.1=.string s) ->
  (EL k kvs=none/\Instr.findNow .string (.string k) es i=some none)\/∃ j w,EL k kvs=some j/\kvs[j]?=some (.string k,w)/\Instr.findNow .string (.string k) es i=some (some (i + j,w)):=by
 intro es
 induction es with
 | nil=>intro kvs i h _; simp at h; subst h; exact .inl ⟨rfl,rfl⟩
 | cons e es ih =>
  intro kvs i h hs;subst h;obtain ⟨s,hk⟩:=hs _ (V2 ..);simp only at hk;simp only [Jz,hk,EL,Instr.findNow,Instr.sameNow,Kp];by_cases e1:k=s
  ·subst e1;refine .inr ⟨0,e.val,by simp,by simp,by simp⟩
  ·have e2:decide (k=s)=false:=(by simp [e1]);simp only [e2,J4 e1];rcases ih _ (i + 1) rfl (fun x hx=>hs x (by simp only [Jz]; exact Yd _ hx)) with ⟨h1,h2⟩ | ⟨j,w,h1,h2,h3⟩
   ·exact .inl ⟨by rw [h1]; rfl,h2⟩
   ·exact .inr ⟨j + 1,w,by rw [h1]; rfl,by simpa using h2,by rw [h3,Zs,Xo 1 j]⟩
theorem Ew {k:TypeId} {n:ByteArray} {b:Bool} (hk:P.underlying k=some .string):Ac P (Instr.checkKey b 10000 k (.string n)) H=some ():=by
 unfold Instr.checkKey;rw [A4,A6 hk];rfl
theorem HC {t k e r:Nat} {z:Value} {kvs:List (Value × Value)} (ht:P.underlying t=some (.map k e)) (hk:P.underlying k=some .string) (hz:AD P e=some z) (h:MapR H r kvs) (hs:∀ x ∈ kvs,∃ s,x.1=.string s) (n:ByteArray) :
  (EL n kvs=none/\Ac P (Instr.lookup t (.map (some r)) (.string n) false) H=some z)\/∃ j w,EL n kvs=some j/\kvs[j]?=some (.string n,w)/\Ac P (Instr.lookup t (.map (some r)) (.string n) false) H=some w:=by
 obtain ⟨es,c,h1,h2⟩:=h
 have key:∀ o,Instr.findNow .string (.string n) es.toList 0=some o->Ac P (Instr.findKey k (.string n) es.toList) H=some o:=by
  intro o ho;unfold Instr.findKey;rw [A4,A6 hk,J0];simp only [ho];rfl
 rcases Nx (k:=n) es.toList kvs 0 h2 hs with ⟨g1,g2⟩ | ⟨j,w,g1,g2,g3⟩
 ·refine .inl ⟨g1,?_⟩
  unfold Instr.lookup
  rw [A4,A6 ht,J0]
  simp only
  rw [A4,Bg h1,J0]
  simp only
  rw [A4,show Ac P (pure es:Sem (Array MapEntry)) H=some es from rfl,J0,A4,Ew hk,J0,A4,key _ g2,J0]
  simp only
  rw [A4,AF hz,J0]
  rfl
 ·refine .inr ⟨j,w,g1,g2,?_⟩
  unfold Instr.lookup
  rw [A4,A6 ht,J0]
  simp only
  rw [A4,Bg h1,J0]
  simp only
  rw [A4,show Ac P (pure es:Sem (Array MapEntry)) H=some es from rfl,J0,A4,Ew hk,J0,A4,key _ g3,J0]
  rfl
theorem MH {t k e r:Nat} {kvs:List (Value × Value)} {n:ByteArray} {x:Value} {K:A3->Prop} {E:Value->A3->Prop} (ht:P.underlying t=some (.map k e)) (hk:P.underlying k=some .string) (h:MapR H r kvs) (hs:∀ x ∈ kvs,∃ s,x.1=.string s)
  (h0:EL n kvs=none->∀ H',MapR H' r (kvs ++ [(.string n,x)])->Fr [r] H H'->K H') (h1:∀ j,EL n kvs=some j->∀ H',MapR H' r (kvs.set j (.string n,x))->Fr [r] H H'->K H'):@RQ P t (.map (some r)) (.string n) x ⟨H⟩ ⟨K⟩ ⟨E⟩:=by
 obtain ⟨es,c,g1,g2⟩:=h
 have key:∀ o,Instr.findNow .string (.string n) es.toList 0=some o->Ac P (Instr.findKey k (.string n) es.toList) H=some o:=by
  intro o ho;unfold Instr.findKey;rw [A4,A6 hk,J0];simp only [ho];rfl
 have hl:r < H.size:=by
  rcases X9 r H.size with h | h
  ·exact h
  ·rw [Z5 h] at g1; simp at g1
 show hwp P (Instr.mapUpdate t (.map (some r)) (.string n) x) H _ _
 unfold Instr.mapUpdate
 refine Aa (A6 ht H) ?_
 simp only
 have:Ac P (getObj r) H=some (.map es c):=Bg g1
 refine Aa this ?_
 simp only
 refine Aa (Ew hk) ?_
 rcases Nx (k:=n) es.toList kvs 0 g2 hs with ⟨f1,f2⟩ | ⟨j,w,f1,f2,f3⟩
 ·refine Aa (key _ f2) ?_
  show hwp P (setObj r (.map (es.push { key:=.string n,val:=x,born:=c }) (c + 1))) H _ _
  simp only [setObj,hwp,g1]
  refine h0 f1 _ ⟨es.push { key:=.string n,val:=x,born:=c },c + 1,?_,by simp [g2]⟩ (Fr.setObj (by simp))
  rw [Jt]
  simp [hl]
 ·rw [Zv] at f3
  refine Aa (key _ f3) ?_
  simp only
  have f2':(es[j]?).map (·.key)=some (.string n):=by
   rw [<- g2,Z0,Y1] at f2;cases he:es[j]? with
   | none=>rw [he] at f2; cases f2
   | some e0=>rw [he] at f2; simp at f2; simp [f2.1]
  have e3:Ac P (Instr.keyThatStays (((es[j]?).map (·.key)).getD (.string n)) (.string n)) H=some (.string n):=by
   rw [f2'];unfold Instr.keyThatStays;simp only [X4];rw [J8 (by simp [Instr.sameBits,Kp])];rfl
  refine Aa e3 ?_
  show hwp P (setObj r (.map (es.modify j fun e=>{ e with key:=.string n,val:=x }) c)) H _ _
  simp only [setObj,hwp,g1]
  refine h1 j f1 _ ⟨es.modify j fun e=>{ e with key:=.string n,val:=x },c,?_,?_⟩ (Fr.setObj (by simp))
  ·rw [Jt]
   simp [hl]
  ·rw [<- g2]
   apply Y9
   intro i
   rw [Array.toList_modify,Z0,Wv,Xf,Jm,Z0]
   have hj:j < es.toList.length:=by
    rw [<- g2,Z0] at f2;cases he:es.toList[j]? with
    | none=>rw [he] at f2; cases f2
    | some e0=>exact (J3.1 he).1
   by_cases e:j=i
   ·subst e
    rw [J8 rfl,J8 hj,J1 hj]
    simp
   ·rw [J4 e]
    cases es.toList[i]? with
    | none=>rfl
    | some a=>simp [e]
end Go.HL
namespace Go.Proofs.YtkdlmdmlomgdiaaGreat
open Go.HL HM Go.Sat
section
variable {H:A3} {ow:Nat->Nat} {p m:Nat} {f:Kf}
abbrev Kf.gr (f:Kf) (k v:Nat) (va wa ra:Value):Kf:={ f with val:=va,wat:=wa,rea:=ra,vals:=f.vals ++ List.replicate (2 * (v + 1) - 2 * k) 0,wv:=f.wv ++ List.replicate (2 * (v + 1) - 2 * k) (.slice none 0 0),rs:=f.rs ++ List.replicate (v + 1 - k) (-1) }
theorem Ib (h:RK H ow p f) {k:Nat} (h1:f.vals.length=2 * k) (h2:f.wv.length=2 * k) (h3:f.rs.length=k) (hw:∀ x,f.wv.length<=x->f.w x = []) (hk:k<=10000)
  {a:Option Addr} {xs:List Int} {c:Nat} (hx:Rn H a xs) (hxo:∀ b o,a=some ⟨b,o,none⟩->b < H.size/\ow b=0) (hn:∀ x ∈ xs,AE x=true/\x.natAbs<=1000) (hlen:xs.length<=100000) :
  CallF Tryz.prog 135 [pv p,.slice a xs.length c] H (fun v H'=>∃ ow' va wa ra,RK H' ow' p (f.gr k (grt xs) va wa ra)/\Ex H ow H' ow'/\Vec H' 3 1 v (nv (xs.map Ai))/\(∀ b ∈ own v,H.size<=b/\ow' b=0)) NoP:=by
 have hg:grt xs<=1000:=Gh.2 fun x hx _=>(hn x hx).2
 obtain ⟨H1,hH1⟩:∃ H1,H.push (.cells #[.slice a xs.length c] 23)=H1:=⟨_,rfl⟩
 have f1:Fr [] H H1:=by rw [<- hH1]; exact Fr.push
 have b1:Blk H1 H.size 23 [.slice a xs.length c]:=by rw [<- hH1]; exact Blk.new rfl
 have e1:Ex H ow H1 ow:=Ex.of (Sm.of (R:=fun _=>False) f1 (by simp)) (by simp)
 have m1:=MD.out h f1 (by simp)
 have x1:Rn H1 a xs:=e1.rn hx hxo
 refine A9 Tryz.func135 rfl Tryz.ntmps135 Tryz.results135 (by decide) rfl ?_
 simp (disch:=omega) only [go_sem,↓cB]
 rw [hH1]
 refine A7 (Fg (c:=1) (b1.cell 0) x1 (by omega)) ?_
 rintro v H2 ⟨rfl,rfl⟩
 refine A7 (JO m1 h1 h2 h3 hw (v:=grt xs) (by omega) hk) ?_
 rintro v H3 ⟨rfl,ow3,va,wa,ra,m3,e3⟩
 have e03:=e1.trans e3
 have x3:Rn H3 a xs:=e03.rn hx hxo
 obtain ⟨H4,hH4⟩:∃ H4,H3.push (.cells (List.replicate xs.length (iv 0)).toArray 3)=H4:=⟨_,rfl⟩
 have f4:Fr [] H3 H4:=by rw [<- hH4]; exact Fr.push
 have v4:Vec H4 3 1 (.slice (some ⟨H3.size,0,none⟩) 0 xs.length) (nv []):=⟨.inr ⟨H3.size,0,xs.length,[],List.replicate xs.length (iv 0),rfl,by rw [<- hH4]; exact Blk.new rfl,rfl,by simp,by omega⟩⟩
 simp (disch:=omega) only [go_sem,↓cB]
 rw [hH4]
 refine Ae (fun j U H5=>∃ (i:Nat) (wv:Value),j=xs.length - i/\i<=xs.length/\(U.get 0=pv p/\U.get 5=wv/\U.get 16=.slice a xs.length c/\U.get 17=iv xs.length/\U.get 18=iv i/\U.ds = [])/\Fr [] H3 H5/\Vec H5 3 1 wv (nv ((xs.take i).map Ai))/\∀ b ∈ own wv,H3.size<=b) (k:=xs.length) ?_ ?_
 ·exact ⟨0,.slice (some ⟨H3.size,0,none⟩) 0 xs.length,rfl,by omega,by simp (disch:=omega) only [go_sem,↓cB],f4,by simpa using v4,by simp [own]⟩
 ·rintro _ U H5 ⟨i,wv,rfl,hi,⟨r0,r5,r16,r17,r18,rd⟩,f5,v5,o5⟩
  have m5:=MD.out m3 f5 (by simp)
  have e5:Ex H ow H5 ow3:=e03.trans (Ex.of (Sm.of (R:=fun _=>False) f5 (by simp)) (by simp))
  by_cases hie:i=xs.length
  ·subst hie
   rw [Jr] at v5
   obtain ⟨wa',wl',wc',rfl,-⟩:=v5.len
   simp (disch:=omega) only [go_sem,↓cB,r0,r5,r16,r17,r18,rd]
   exact fin ⟨ow3,va,wa,ra,m5,e5,v5,fun b hb=>⟨by have:=o5 b hb; have:=e03.sm.size; omega,m3.free (o5 b hb)⟩⟩
  ·obtain ⟨x,hxi⟩:∃ x,xs[i]?=some x:=⟨_,J1 (by omega)⟩
   obtain ⟨b,o,e,kx⟩:=(e5.rn hx hxo) i x hxi
   subst e
   have hb:=hn x (J2 hxi)
   have hi1:(i:Int) + 1=((i + 1:Nat):Int):=by omega
   have htk:xs.take (i + 1)=xs.take i ++ [x]:=by rw [Jl,hxi]; rfl
   simp (disch:=omega) only [go_sem,↓cB,r0,r5,r16,r17,r18,rd,kx]
   refine A7 (JP (x:=x) (by omega)) ?_
   rintro v H6 ⟨rfl,rfl⟩
   simp (disch:=omega) only [go_sem,↓cB,r0,r5,r16,r17,r18,rd]
   refine AK T.zk rfl v5 rfl (by rw [Am,Jm]; simp; omega) ?_
   intro v' H7 g1 g2 g3 g4
   obtain ⟨a',c',rfl⟩:=g4
   simp (disch:=omega) only [go_sem,↓cB,r0,r5,r16,r17,r18,rd]
   refine fin ⟨xs.length - (i + 1),by omega,i + 1,.slice a' ((nv ((xs.take i).map Ai)).length + 1) c',rfl,by omega,by simp (disch:=omega) only [go_sem,↓cB,r0,r5,r16,r17,r18,rd,hi1],⟨Js f5.size g2.size,fun q hq _=>?_⟩,?_,fun b hb=>?_⟩
   ·rw [g2.same q (by have:=f5.size; omega) (fun e=>by have:=o5 q e; omega),f5.same q hq (by simp)]
   ·rw [htk,Zf,CO]; exact g1
   ·rcases g3 b hb with h | h
    ·exact o5 b h
    ·have:=f5.size; omega
end
end Go.Proofs.YtkdlmdmlomgdiaaGreat
namespace Go.HL
theorem JK {P:Program} {H:A3} {f:Value->ByteArray->Sem (ForInStep ByteArray)} (hf:∀ (c:UInt8) acc,f (u8v c) acc=pure (ForInStep.yield (acc.push c))):∀ (l:List UInt8) (acc:ByteArray),
  Ac P (forIn (l.map u8v) acc f) H=some ⟨acc.data ++ l.toArray⟩
 | [],acc=>by simp [pure,Ac]
 | c :: l,acc=>by
  rw [Jz,Xz,hf];show Ac P (forIn (l.map u8v) (acc.push c) f) H=_;rw [JK hf l (acc.push c)];congr 1;apply V0;simp [ByteArray.push]
theorem OL {P:Program} {H:A3} {s d e b c t:Nat} {l:List UInt8} {pre rest:List Value} (hs:P.underlying s=some (.slice e)) (he:P.underlying e=some (.int .u8)) (hd:P.underlying d=some .string) (hb:Blk H b t (pre ++ l.map u8v ++ rest)) :
  CS P (AI H) s d (.slice (some ⟨b,pre.length,none⟩) l.length c)=some (.string (bs l)):=by
 show Ac P (convert s d (.slice (some ⟨b,pre.length,none⟩) l.length c)) H=_
 unfold convert
 rw [A4,A6 hs,J0,A4,A6 hd,J0]
 show Ac P (do match <- underlying e with
  | .int .u8=>Conv.bytesToString (.slice (some ⟨b,pre.length,none⟩) l.length c)
  | .int .i32=>Conv.runesToString (.slice (some ⟨b,pre.length,none⟩) l.length c)
  | _=>stuck "Convert: a slice of what to string?") H=_
 rw [A4,A6 he,J0]
 show Ac P (Conv.bytesToString (.slice (some ⟨b,pre.length,none⟩) l.length c)) H=_
 unfold Conv.bytesToString
 dsimp only
 have hl:Ac P (loadCells ⟨b,pre.length,none⟩ l.length) H=some (l.map u8v).toArray:=by
  unfold loadCells;have h1:=Blk.cells hb;rw [Jm] at h1;have:=Cw (P:=P) (H:=H) (a:=⟨b,pre.length,none⟩) l.length 0 #[] _ h1;simpa using this
 rw [A4,hl,J0,A4,<- Array.forIn_toList]
 rw [JK (by intro c acc; simp [u8v]) l ByteArray.empty]
 have e1:(⟨ByteArray.empty.data ++ l.toArray⟩:ByteArray)=bs l:=by
  apply V0;simp [bs]
 rw [e1]
 rfl
end Go.HL
namespace Go.Proofs.YtkdlmdmlomgdiaaGreat
open Go.HL HM Go.Sat
theorem Lr (z:Int):∃ c:UInt8,Value.int .u8 (IntKind.u8.wrap z)=u8v c:=by
 refine ⟨UInt8.ofNat (IntKind.u8.wrap z).toNat,?_⟩;have h1:0<=IntKind.u8.wrap z/\IntKind.u8.wrap z < 256:=by
  simp only [IntKind.wrap,IntKind.bits,IntKind.signed];simp;omega
 unfold u8v;have:((UInt8.ofNat (IntKind.u8.wrap z).toNat).toNat:Int)=IntKind.u8.wrap z:=by
  rw [UInt8.toNat_ofNat'];omega
 rw [this]
section
variable {H:A3} {ow:Nat->Nat} {p m:Nat} {f:Kf}
theorem Qc {a:Option Addr} {xs:List Int} {c:Nat} (hx:Rn H a xs) (hn:∀ x ∈ xs,AE x=true) (hlen:xs.length<=100000) :
  CallF Tryz.prog 134 [.slice a xs.length c] H (fun v H'=>∃ s,v=.string s/\Fr [] H H') NoP:=by
 obtain ⟨H1,hH1⟩:∃ H1,H.push (.cells (List.replicate (3 * xs.length) (.int .u8 0)).toArray 5)=H1:=⟨_,rfl⟩
 have f1:Fr [] H H1:=by rw [<- hH1]; exact Fr.push
 have v1:Vec H1 5 1 (.slice (some ⟨H.size,0,none⟩) 0 (3 * xs.length)) (([]:List UInt8).map u8v):=⟨.inr ⟨H.size,0,3 * xs.length,[],List.replicate (3 * xs.length) (.int .u8 0),rfl,by rw [<- hH1]; exact Blk.new rfl,rfl,by simp,by omega⟩⟩
 have e3:3 * (xs.length:Int)=((3 * xs.length:Nat):Int):=by omega
 refine A9 Tryz.func134 rfl Tryz.ntmps134 Tryz.results134 (by decide) rfl ?_
 simp (disch:=omega) only [go_sem,↓cB,e3]
 rw [hH1]
 refine Ae (fun j U H5=>∃ (i:Nat) (b o cap:Nat) (l:List UInt8),j=xs.length - i/\i<=xs.length/\(U.get 3=.slice (some ⟨b,o,none⟩) l.length cap/\U.get 11=.slice a xs.length c/\U.get 12=iv xs.length/\U.get 13=iv i/\U.ds = [])/\l.length=3 * i/\Fr [] H H5/\Vec H5 5 1 (.slice (some ⟨b,o,none⟩) l.length cap) (l.map u8v)/\H.size<=b) (k:=xs.length) ?_ ?_
 ·exact ⟨0,H.size,0,3 * xs.length,[],rfl,by omega,by simp (disch:=omega) only [go_sem,↓cB]; rfl,rfl,f1,v1,Jb _⟩
 ·rintro _ U H5 ⟨i,b,o,cap,l,rfl,hi,⟨r3,r11,r12,r13,rd⟩,hl,f5,v5,hb⟩
  by_cases hie:i=xs.length
  ·subst hie
   have cvt:∀ Hx,Vec Hx 5 1 (.slice (some ⟨b,o,none⟩) l.length cap) (l.map u8v)->CS Tryz.prog (AI Hx) 254 9 (.slice (some ⟨b,o,none⟩) l.length cap)=some (.string (bs l)):=fun Hx hv=>by
    rcases hv.ex with ⟨e,_⟩ | ⟨b',len,cap',pre,rest,e,hb',h2,h3,h4⟩
    ·cases e
    ·simp only [Value.slice.injEq,J5,Addr.mk.injEq,Zt] at e;obtain ⟨⟨rfl,rfl⟩,rfl,rfl⟩:=e;exact OL Tryz.underlying254 Tryz.underlying5 Tryz.underlying9 hb'
   have cv:=cvt H5 v5
   simp (disch:=omega) only [go_sem,↓cB,r3,r11,r12,r13,rd,cv]
   exact fin ⟨_,rfl,f5⟩
  ·obtain ⟨x,hxi⟩:∃ x,xs[i]?=some x:=⟨_,J1 (by omega)⟩
   obtain ⟨xb,xo,e,kx⟩:=(hx.frame f5 (by simp)) i x hxi
   subst e
   have hi1:(i:Int) + 1=((i + 1:Nat):Int):=by omega
   simp (disch:=omega) only [go_sem,↓cB,r3,r11,r12,r13,rd,kx]
   refine A7 (JP (x:=x) (CP (hn x (J2 hxi)))) ?_
   rintro v H6 ⟨rfl,rfl⟩
   simp (disch:=omega) only [go_sem,↓cB,r3,r11,r12,r13,rd]
   refine Hd (n:=3) (new:=[_,_,_]) T.eo rfl v5 (by simp [Cb]) rfl (by intro a' l' c' e; simp only [Value.slice.injEq] at e; omega) ?_
   intro v' H7 g1 g2 g3 g4
   obtain ⟨a',c',rfl⟩:=g4 _ _ _ rfl
   obtain ⟨w1,q1⟩:=Lr (Ai x:Nat)
   obtain ⟨w2,q2⟩:=Lr (((Ai x:Nat):Int).fdiv (2 ^ min 8 64))
   obtain ⟨w3,q3⟩:=Lr (((Ai x:Nat):Int).fdiv (2 ^ min 16 64))
   rw [q1,q2,q3] at g1
   obtain ⟨b7,o7,len7,cap7,e7,hl7,-⟩:=g1.cell (by simp)
   simp only [Value.slice.injEq] at e7
   obtain ⟨rfl,rfl,rfl⟩:=e7
   have g3':=g3 b7 (by simp [own])
   simp (disch:=omega) only [go_sem,↓cB,r3,r11,r12,r13,rd]
   refine fin ⟨xs.length - (i + 1),by omega,i + 1,b7,o7,c',l ++ [w1,w2,w3],rfl,by omega,by (simp (disch:=omega) only [go_sem,↓cB,r3,r11,r12,r13,rd,hi1]; simp),by simp; omega,⟨Js f5.size g2.size,fun q hq _=>?_⟩,by simpa using g1,?_⟩
   ·rw [g2.same q (by have:=f5.size; omega) (by simp [own]; omega),f5.same q hq (by simp)]
   ·rcases g3' with h | h
    ·simp only [own,J6] at h; omega
    ·have:=f5.size; omega
end
end Go.Proofs.YtkdlmdmlomgdiaaGreat
namespace Go.Sat
section
variable {m:Nat} {tr:List Nat} {L L':Nat->List Nat} {C:List Nat} {w:Nat->List Nat} {G:List (List Nat)} {head:Nat}
theorem WI.yu (h:WI m (Kx tr L) C w) (hL:∀ c ∈ C,L' c=L c):WI m (Kx tr L') C w :=
 ⟨fun c hc=>by
  show 2<=(L' c).length/\(∀ y ∈ L' c,isC m y)/\((L' c).map (· / 2)).Nodup
  rw [hL c hc]; exact h.cl c hc,fun y c hc=>by
  obtain ⟨h1,h2⟩:=h.w1 y c hc
  refine ⟨h1,?_⟩
  show y ∈ (L' c).take 2
  rw [hL c h1]; exact h2,h.nd,fun c hc y hy=>h.w3 c hc y (by
  show y ∈ (L c).take 2
  rw [<- hL c hc]; exact hy),fun i x c _ h=>by simp at h⟩
theorem SI.yu (h:SI m (Kx tr L) C w G head) (hL:∀ c ∈ C,L' c=L c):SI m (Kx tr L') C w G head:=by
 refine ⟨Dl h.inv.ok,h.wi.yu hL,fun c hc=>?_,⟨fun T hT=>⟨fun c hc=>?_,(h.gi.snd T hT).2⟩,fun g hg=>?_⟩,h.le,h.st⟩
 ·show Wc (Kx tr L') _ (L' c)/\(_->Wc (Kx tr L') _ (L' c))
  rw [hL c hc]; exact h.pi c hc
 ·show ClT T (L' c)
  rw [hL c hc]; exact (h.gi.snd T hT).1 c hc
 ·rcases h.gi.cmp g hg with h1 | h1 | ⟨c,hc,h1⟩
  ·exact .inl h1
  ·exact .inr (.inl h1)
  ·refine .inr (.inr ⟨c,hc,fun y hy=>h1 y ?_⟩)
   show y ∈ L c
   rw [<- hL c hc]; exact hy
theorem WI.mono {n:Nat} (h:WI m (Kx tr L) C w) (hm:m<=n):WI n (Kx tr L) C w:=⟨fun c hc=>⟨(h.cl c hc).1,fun y hy=>((h.cl c hc).2.1 y hy).le hm,(h.cl c hc).2.2⟩,h.w1,h.nd,h.w3,fun i x c _ h=>by simp at h⟩
theorem WI.far (h:WI m (Kx tr L) C w) {y:Nat} (hy:2 * m + 2<=y):w y = []:=by
 cases he:w y with
 | nil=>rfl
 | cons c r =>
  obtain ⟨h1,h2⟩:=h.w1 y c (by rw [he]; simp)
  have h3:isC m y:=(h.cl c h1).2.1 y (Yp h2)
  unfold isC at h3
  omega
theorem PR {n:Nat} {s:St} (h:TrOK m s.tr) (hm:m<=n):s.vals n=s.vals m ++ List.replicate (2 * (n + 1) - 2 * (m + 1)) 0:=by
 refine Y9 fun y=>?_
 by_cases h1:y < 2 * m + 2
 ·rw [Jg (by rw [C2]; exact h1),Cp h1,Cp (by omega)]
 ·rw [Jf (by rw [C2]; omega),C2,Xl]
  by_cases h2:y < 2 * n + 2
  ·rw [Cp h2,J8 (by omega)]
   refine congrArg some (Cq.2 ⟨fun e=>?_,fun e=>?_⟩)
   ·have:=h.code y e; unfold isC at this; omega
   ·have:=C0 (h.code _ e)
    rw [neg_neg] at this
    unfold isC at this; omega
  ·rw [Jp (by rw [C2]; omega),J4 (by omega)]
end
end Go.Sat
namespace Go.Proofs.YtkdlmdmlomgdiaaGreat
open Go.HL HM Go.Sat
structure KM (m:Nat) (f:Kf) (C:List Nat):Prop where
 r:KR m f
 wi:WI m (Kx f.tr f.lits) C f.w
 ce:∀ c ∈ C,c < f.es.length
 cl:C.length<=f.es.length
 ks:∀ x ∈ f.kvs,∃ s,x.1=.string s
 kl:∀ j,(f.kl j).length<=f.es.length
 us:∀ u ∈ f.us,u < f.es.length/\u ∉ C/\∃ y,f.lits u = [y]/\isC m y
 ul:f.us.length<=f.es.length
 em:f.emp<=f.es.length
inductive KT (m:Nat) (f:Kf) (C:List Nat) (G:List (List Nat)):Prop
 | stale (h1:f.stale=true) (h2:f.bro=false) (h3:f.tr = []) (h4:f.head=0) (Gw:List (List Nat)) (hs:SI m (Kx [] f.lits) C f.w Gw 0) (hG:∀ T,Clo T G↔Clo T Gw/\f.emp=0/\∀ u ∈ f.us,∀ y,f.lits u = [y]->T y)
 | fine (h1:f.stale=false) (h2:f.bro=false) (h4:f.head=f.tr.length) (Gw:List (List Nat)) (hs:SI m (Kx f.tr f.lits) C f.w Gw f.tr.length) (hG:∀ T,Clo T G↔Clo T Gw/\f.emp=0)
 | broken (h1:f.stale=false) (h2:f.bro=true) (hG:∀ T,¬ Clo T G)
section
variable {m:Nat} {f f':Kf} {C:List Nat} {G:List (List Nat)}
theorem KR.gr (h:KR m f) {v:Nat} {va wa ra:Value}:KR (max m v) (f.gr (m + 1) v va wa ra):=by
 by_cases hv:v<=m
 ·have e:max m v=m:=by omega
  have e1:2 * (v + 1) - 2 * (m + 1)=0:=by omega
  have e2:v + 1 - (m + 1)=0:=by omega
  rw [e]
  refine ⟨?_,?_,?_,h.ok⟩
  ·show f.vals ++ List.replicate (2 * (v + 1) - 2 * (m + 1)) 0=_
   rw [e1]; simpa using h.vals
  ·show (f.rs ++ List.replicate (v + 1 - (m + 1)) (-1)).length=_
   rw [e2]; simpa using h.rs
  ·show (f.wv ++ List.replicate (2 * (v + 1) - 2 * (m + 1)) _).length=_
   rw [e1]; simpa using h.wv
 ·have e:max m v=v:=by omega
  rw [e]
  refine ⟨?_,?_,?_,⟨fun x hx=>(h.ok.code x hx).le (by omega),h.ok.nodup⟩⟩
  ·show f.vals ++ List.replicate (2 * (v + 1) - 2 * (m + 1)) 0=(Kx f.tr f.lits).vals v
   rw [PR (s:=Kx f.tr f.lits) h.ok (by omega),h.vals]
  ·show (f.rs ++ List.replicate (v + 1 - (m + 1)) (-1)).length=_
   simp [h.rs]; omega
  ·show (f.wv ++ List.replicate (2 * (v + 1) - 2 * (m + 1)) _).length=_
   simp [h.wv]; omega
theorem KM.gr (h:KM m f C) {v:Nat} {va wa ra:Value}:KM (max m v) (f.gr (m + 1) v va wa ra) C :=
 ⟨h.r.gr,h.wi.mono (by omega),h.ce,h.cl,h.ks,h.kl,fun u hu=>⟨(h.us u hu).1,(h.us u hu).2.1,let ⟨y,h1,h2⟩:=(h.us u hu).2.2; ⟨y,h1,h2.le (by omega)⟩⟩,h.ul,h.em⟩
theorem KT.gr (h:KT m f C G) {v:Nat} {va wa ra:Value}:KT (max m v) (f.gr (m + 1) v va wa ra) C G:=by
 cases h with
 | stale h1 h2 h3 h4 Gw hs hG=>exact .stale h1 h2 h3 h4 Gw (hs.mono (by omega)) hG
 | fine h1 h2 h4 Gw hs hG=>exact .fine h1 h2 h4 Gw (hs.mono (by omega)) hG
 | broken h1 h2 hG=>exact .broken h1 h2 hG
abbrev Kf.ent (f:Kf) (cv lv:Value) (g:List Nat):Kf:={ f with cls:=cv,es:=f.es ++ [lv],lits:=upd f.lits f.es.length g }
abbrev Kf.kv (f:Kf) (kvs:List (Value × Value)) (kl:Nat->List Nat):Kf:={ f with kvs:=kvs,kl:=kl }
theorem Hi {n:Nat} {g:List Nat} {L:Nat->List Nat} (h:∀ c ∈ C,c < n):∀ c ∈ C,upd L n g c=L c:=fun c hc=>Af (by have:=h c hc; omega)
theorem KM.ent (h:KM m f C) {cv lv:Value} {g:List Nat} {kvs:List (Value × Value)} {kl:Nat->List Nat} (ks:∀ x ∈ kvs,∃ s,x.1=.string s) (hk:∀ j,(kl j).length<=f.es.length + 1):KM m ((f.ent cv lv g).kv kvs kl) C:=by
 have hl:(f.es ++ [lv]).length=f.es.length + 1:=by simp
 refine ⟨⟨h.r.vals,h.r.rs,h.r.wv,h.r.ok⟩,h.wi.yu (Hi h.ce),fun c hc=>?_,?_,ks,fun j=>?_,fun u hu=>?_,?_,?_⟩
 ·show c < (f.es ++ [lv]).length
  have:=h.ce c hc; omega
 ·show _<=(f.es ++ [lv]).length
  have:=h.cl; omega
 ·show _<=(f.es ++ [lv]).length
  rw [hl]; exact hk j
 ·obtain ⟨h1,h2,y,h3,h4⟩:=h.us u hu
  refine ⟨?_,h2,y,?_,h4⟩
  ·show u < (f.es ++ [lv]).length
   omega
  ·show upd f.lits f.es.length g u=_
   rw [Af (by omega)]; exact h3
 ·show f.us.length<=(f.es ++ [lv]).length
  have:=h.ul; omega
 ·show f.emp<=(f.es ++ [lv]).length
  have:=h.em; omega
theorem KT.ent (h:KT m f C G) (hm:KM m f C) {cv lv:Value} {g:List Nat} {kvs:List (Value × Value)} {kl:Nat->List Nat}:KT m ((f.ent cv lv g).kv kvs kl) C G:=by
 have hu:∀ u ∈ f.us,upd f.lits f.es.length g u=f.lits u:=fun u hu=>Af (by have:=(hm.us u hu).1; omega)
 cases h with
 | stale h1 h2 h3 h4 Gw hs hG =>
  refine .stale h1 h2 h3 h4 Gw (hs.yu (Hi hm.ce)) fun T=>?_
  rw [hG]
  refine Wl fun _=>Wl fun _=>⟨fun h u hh y e=>h u hh y ?_,fun h u hh y e=>h u hh y ?_⟩
  ·rw [<- hu u hh]; exact e
  ·show upd f.lits f.es.length g u=_
   rw [hu u hh]; exact e
 | fine h1 h2 h4 Gw hs hG=>exact .fine h1 h2 h4 Gw (hs.yu (Hi hm.ce)) hG
 | broken h1 h2 hG=>exact .broken h1 h2 hG
theorem KT.idle (h:KT m f C G) {g:List Nat} (ht:∃ y ∈ g,neg y ∈ g):KT m f C (g :: G):=by
 have e:∀ T,Clo T (g :: G)↔Clo T G:=fun T=>⟨fun h=>(Bj.1 h).2,fun h=>Bj.2 ⟨NL h.con ht,h⟩⟩
 cases h with
 | stale h1 h2 h3 h4 Gw hs hG=>exact .stale h1 h2 h3 h4 Gw hs fun T=>by rw [e,hG]
 | fine h1 h2 h4 Gw hs hG=>exact .fine h1 h2 h4 Gw hs fun T=>by rw [e,hG]
 | broken h1 h2 hG=>exact .broken h1 h2 fun T hT=>hG T ((e T).1 hT)
theorem KT.emp (h:KT m f C G):KT m { f with emp:=f.emp + 1 } C ([] :: G):=by
 cases h with
 | stale h1 h2 h3 h4 Gw hs hG=>exact .stale h1 h2 h3 h4 Gw hs fun T=>⟨fun h=>absurd h PB,fun h=>by have:f.emp + 1=0:=h.2.1; omega⟩
 | fine h1 h2 h4 Gw hs hG=>exact .fine h1 h2 h4 Gw hs fun T=>⟨fun h=>absurd h PB,fun h=>by have:f.emp + 1=0:=h.2; omega⟩
 | broken h1 h2 hG=>exact .broken h1 h2 fun T hT=>hG T (Bj.1 hT).2
theorem KM.bro (h:KM m f C) {b:Bool}:KM m { f with bro:=b } C:=⟨⟨h.r.vals,h.r.rs,h.r.wv,h.r.ok⟩,h.wi,h.ce,h.cl,h.ks,h.kl,h.us,h.ul,h.em⟩
theorem KM.push (h:KM m f C) {x:Nat} (hx:isC m x) (h1:x ∉ f.tr) (h2:neg x ∉ f.tr) {q:Int} {tv:Value}:KM m { f with vals:=(f.vals.set x 1).set (neg x) (-1),rs:=f.rs.set (x / 2) q,trl:=tv,tr:=f.tr ++ [x] } C :=
 ⟨h.r.push hx h1 h2,⟨h.wi.cl,h.wi.w1,h.wi.nd,h.wi.w3,fun i x c _ h=>by simp at h⟩,h.ce,h.cl,h.ks,h.kl,h.us,h.ul,h.em⟩
theorem KM.emp (h:KM m f C) {cv lv:Value} {g:List Nat} {kvs:List (Value × Value)} {kl:Nat->List Nat} (hk:KM m ((f.ent cv lv g).kv kvs kl) C):KM m { ((f.ent cv lv g).kv kvs kl) with emp:=f.emp + 1 } C :=
 ⟨⟨hk.r.vals,hk.r.rs,hk.r.wv,hk.r.ok⟩,hk.wi,hk.ce,hk.cl,hk.ks,hk.kl,hk.us,hk.ul,by
  show f.emp + 1<=(f.es ++ [lv]).length
  have:=h.em
  simp; omega⟩
theorem KM.vz (h:KM m f C) (hr:KR m f') (hv:Vz C f f') (hw:WI m (Kx f'.tr f'.lits) C f'.w):KM m f' C:=by
 have hk:=hv.key
 simp only [Kf.key,Jx] at hk
 obtain ⟨e1,e2,e3,e4,e5,e6,e7,e8,e9,e10⟩:=hk
 refine ⟨hr,hw,by rw [e3]; exact h.ce,by rw [e3]; exact h.cl,by rw [e5]; exact h.ks,by rw [e6,e3]; exact h.kl,fun u hu=>?_,by rw [e7,e3]; exact h.ul,by rw [e8,e3]; exact h.em⟩
 rw [e7] at hu
 obtain ⟨h1,h2,y,h3,h4⟩:=h.us u hu
 refine ⟨by rw [e3]; exact h1,h2,y,?_,h4⟩
 have:=hv.pm u
 rw [h3] at this
 exact List.perm_singleton.1 this
abbrev Kf.wt (f:Kf) (n:Nat) (l:List Nat) (a b:Nat) (wv:List Value):Kf:={ f with lits:=upd f.lits n l,wv:=wv,w:=att f.w n a b }
section
variable {cv lv:Value} {g l r:List Nat} {kvs:List (Value × Value)} {kl:Nat->List Nat} {a b y:Nat} {wv:List Value}
theorem Iy {n:Nat} {g l:List Nat} {L:Nat->List Nat} (h:∀ c ∈ C,c < n):∀ c ∈ n :: C,upd (upd L n g) n l c=upd L n l c:=fun c hc=>by
 by_cases e:c=n
 ·subst e; rw [A8,A8]
 ·rw [Af e,Af e,Af e]
theorem JX (h:KM m f C):f.es.length ∉ C:=fun e=>by have:=h.ce _ e; omega
theorem KM.att (h:KM m f C) (hk:KM m ((f.ent cv lv g).kv kvs kl) C) (hl:(∀ y ∈ a :: b :: r,isC m y)/\((a :: b :: r).map (· / 2)).Nodup) (hw:wv.length=2 * m + 2):KM m (((f.ent cv lv g).kv kvs kl).wt f.es.length (a :: b :: r) a b wv) (f.es.length :: C):=by
 have he:(f.es ++ [lv]).length=f.es.length + 1:=by simp
 refine ⟨⟨hk.r.vals,hk.r.rs,hw,hk.r.ok⟩,(WI.attach h.wi (JX h) hl).yu (Iy h.ce),fun c hc=>?_,?_,hk.ks,hk.kl,fun u hu=>?_,hk.ul,hk.em⟩
 ·show c < (f.es ++ [lv]).length
  rcases J7.1 hc with e | hc
  ·omega
  ·have:=h.ce c hc; omega
 ·show C.length + 1<=(f.es ++ [lv]).length
  have:=h.cl; omega
 ·obtain ⟨h1,h2,z,h3,h4⟩:=h.us u hu
  refine ⟨?_,fun e=>?_,z,?_,h4⟩
  ·show u < (f.es ++ [lv]).length
   omega
  ·rcases J7.1 e with e | e
   ·omega
   ·exact h2 e
  ·show upd (upd f.lits f.es.length g) f.es.length (a :: b :: r) u=_
   rw [Af (by omega),Af (by omega)]; exact h3
theorem Kl {T:Nat->Prop} {G Gw:List (List Nat)} {P:Prop} (hp:l.Perm g) (h:Clo T G↔Clo T Gw/\P):Clo T (g :: G)↔Clo T (l :: Gw)/\P:=by
 rw [Bj,Bj,h]
 exact ⟨fun ⟨h1,h2,h3⟩=>⟨⟨h1.perm hp,h2⟩,h3⟩,fun ⟨⟨h1,h2⟩,h3⟩=>⟨h1.perm hp.symm,h2,h3⟩⟩
theorem KT.au (h:KT m f C G) (hm:KM m f C) (hs:f.stale=true) (hp:(a :: b :: r).Perm g) (hl:(∀ y ∈ a :: b :: r,isC m y)/\((a :: b :: r).map (· / 2)).Nodup):KT m (((f.ent cv lv g).kv kvs kl).wt f.es.length (a :: b :: r) a b wv) (f.es.length :: C) (g :: G):=by
 cases h with
 | stale h1 h2 h3 h4 Gw hs hG =>
  refine .stale h1 h2 h3 h4 ((a :: b :: r) :: Gw) ((hs.gj (JX hm) hl (by simp) (by simp)).yu (Iy hm.ce)) fun T=>Kl hp ?_
  rw [hG]
  refine Wl fun _=>Wl fun _=>⟨fun h u hh y e=>h u hh y ?_,fun h u hh y e=>h u hh y ?_⟩
  ·have:=(hm.us u hh).1
   have e':upd (upd f.lits f.es.length g) f.es.length (a :: b :: r) u = [y]:=e
   rwa [Af (by omega),Af (by omega)] at e'
  ·have:=(hm.us u hh).1
   show upd (upd f.lits f.es.length g) f.es.length (a :: b :: r) u = [y]
   rwa [Af (by omega),Af (by omega)]
 | fine h1=>rw [h1] at hs; cases hs
 | broken h1=>rw [h1] at hs; cases hs
theorem KT.az (h:KT m f C G) (hs:f.bro=true):KT m (((f.ent cv lv g).kv kvs kl).wt f.es.length (a :: b :: r) a b wv) (f.es.length :: C) (g :: G):=by
 cases h with
 | stale h1 h2=>rw [h2] at hs; cases hs
 | fine h1 h2=>rw [h2] at hs; cases hs
 | broken h1 h2 hG=>exact .broken h1 h2 fun T hT=>hG T (Bj.1 hT).2
theorem KT.vt (h:KT m f C G) (h1:f.stale=false) (h2:f.bro=false):f.head=f.tr.length/\∃ Gw,SI m (Kx f.tr f.lits) C f.w Gw f.tr.length/\∀ T,Clo T G↔Clo T Gw/\f.emp=0:=by
 cases h with
 | stale h=>rw [h1] at h; cases h
 | fine _ _ h4 Gw hs hG=>exact ⟨h4,Gw,hs,hG⟩
 | broken _ h=>rw [h2] at h; cases h
theorem KT.di (h:KT m f C G) (hm:KM m f C) (h1:f.stale=false) (h2:f.bro=false) (hp:(a :: b :: r).Perm g) (hl:(∀ y ∈ a :: b :: r,isC m y)/\((a :: b :: r).map (· / 2)).Nodup) (hb:neg b ∈ f.tr->a ∈ f.tr) (ha:neg a ∈ f.tr->b ∈ f.tr) :
  KT m (((f.ent cv lv g).kv kvs kl).wt f.es.length (a :: b :: r) a b wv) (f.es.length :: C) (g :: G):=by
 obtain ⟨h4,Gw,hs,hG⟩:=h.vt h1 h2
 exact .fine h1 h2 h4 ((a :: b :: r) :: Gw) ((hs.gj (JX hm) hl hb ha).yu (Iy hm.ce)) fun T=>Kl hp (hG T)
theorem KT.dh (h:KT m f C G) (h1:f.stale=false) (h2:f.bro=false) (hx:∀ y ∈ g,neg y ∈ f.tr):∀ T,¬ Clo T (g :: G):=by
 obtain ⟨h4,Gw,hs,hG⟩:=h.vt h1 h2
 intro T hT
 obtain ⟨h5,h6⟩:=Bj.1 hT
 exact h5.2 fun y hy=>hs.all ((hG T).1 h6).1 _ (hx y hy)
theorem KT.prop {f2 f':Kf} {Gx Ga:List (List Nat)} {v:Value} (hv:Vz C f2 f') (h1:f2.stale=false) (hG:∀ T,Clo T Ga↔Clo T Gx/\f2.emp=0) (hc:(v=.bool true/\SI m (Kx f'.tr f'.lits) C f'.w Gx f'.tr.length/\f'.head=f'.tr.length)\/(v=.bool false/\WI m (Kx f'.tr f'.lits) C f'.w/\∀ T,¬ Clo T Gx)) :
  ∃ c:Bool,v=.bool c/\WI m (Kx f'.tr f'.lits) C f'.w/\∀ b:Bool,b = !c->KT m { f' with bro:=b } C Ga:=by
 have hk:=hv.key
 simp only [Kf.key,Jx] at hk
 obtain ⟨e1,e2,e3,e4,e5,e6,e7,e8,e9,e10⟩:=hk
 rcases hc with ⟨rfl,hs,hh⟩ | ⟨rfl,hw,hno⟩
 ·exact ⟨true,rfl,hs.wi,fun b hb=>by subst hb; exact .fine (e10.trans h1) rfl hh Gx hs fun T=>by rw [hG]; show _↔_/\f'.emp=0; rw [e8]⟩
 ·exact ⟨false,rfl,hw,fun b hb=>by subst hb; exact .broken (e10.trans h1) rfl fun T hT=>hno T ((hG T).1 hT).1⟩
abbrev Kf.un (f:Kf) (uv:Value) (n:Nat):Kf:={ f with uns:=uv,us:=f.us ++ [n] }
theorem KM.unit (h:KM m f C) (hk:KM m ((f.ent cv lv [y]).kv kvs kl) C) {uv:Value} (hy:isC m y):KM m (((f.ent cv lv [y]).kv kvs kl).un uv f.es.length) C:=by
 have he:(f.es ++ [lv]).length=f.es.length + 1:=by simp
 refine ⟨⟨hk.r.vals,hk.r.rs,hk.r.wv,hk.r.ok⟩,hk.wi,hk.ce,hk.cl,hk.ks,hk.kl,fun u hu=>?_,?_,hk.em⟩
 ·rcases Jh.1 hu with hu | hu
  ·exact hk.us u hu
  ·have e:=J6.1 hu
   subst e
   refine ⟨?_,JX h,y,?_,hy⟩
   ·show f.es.length < (f.es ++ [lv]).length
    omega
   ·show upd f.lits f.es.length [y] f.es.length = [y]
    exact A8
 ·show (f.us ++ [f.es.length]).length<=(f.es ++ [lv]).length
  have:=h.ul
  simp; omega
theorem KT.gp (h:KT m f C G) (hm:KM m f C) {uv:Value} (hs:f.stale=true):KT m (((f.ent cv lv [y]).kv kvs kl).un uv f.es.length) C ([y] :: G):=by
 cases h with
 | stale h1 h2 h3 h4 Gw hs hG =>
  refine .stale h1 h2 h3 h4 Gw (hs.yu (Hi hm.ce)) fun T=>?_
  rw [CU,hG]
  have hh:(∀ u ∈ f.us ++ [f.es.length],∀ z,upd f.lits f.es.length [y] u = [z]->T z)↔T y/\∀ u ∈ f.us,∀ z,f.lits u = [z]->T z:=by
   constructor
   ·intro h
    refine ⟨h f.es.length (by simp) y A8,fun u hu z e=>h u (by simp [hu]) z ?_⟩
    rw [Af (by have:=(hm.us u hu).1; omega)]; exact e
   ·rintro ⟨h5,h6⟩ u hu z e
    rcases Jh.1 hu with hu | hu
    ·rw [Af (by have:=(hm.us u hu).1; omega)] at e
     exact h6 u hu z e
    ·have e2:=J6.1 hu
     subst e2
     rw [A8] at e
     simp only [Zh,Zt] at e
     rw [<- e]; exact h5
  show _↔_/\f.emp=0/\(∀ u ∈ f.us ++ [f.es.length],∀ z,upd f.lits f.es.length [y] u = [z]->T z)
  rw [hh]
  exact ⟨fun ⟨a,b,c,d⟩=>⟨b,c,a,d⟩,fun ⟨b,c,a,d⟩=>⟨a,b,c,d⟩⟩
 | fine h1=>rw [h1] at hs; cases hs
 | broken h1=>rw [h1] at hs; cases hs
theorem KT.gq (h:KT m f C G) {uv:Value} (hs:f.bro=true):KT m (((f.ent cv lv [y]).kv kvs kl).un uv f.es.length) C ([y] :: G):=by
 cases h with
 | stale h1 h2=>rw [h2] at hs; cases hs
 | fine h1 h2=>rw [h2] at hs; cases hs
 | broken h1 h2 hG=>exact .broken h1 h2 fun T hT=>hG T (Bj.1 hT).2
theorem KT.gn (h:KT m f C G) (hm:KM m f C) {uv:Value} (h1:f.stale=false) (h2:f.bro=false) (hy:y ∈ f.tr):KT m (((f.ent cv lv [y]).kv kvs kl).un uv f.es.length) C ([y] :: G):=by
 obtain ⟨h4,Gw,hs,hG⟩:=h.vt h1 h2
 refine .fine h1 h2 h4 Gw (hs.yu (Hi hm.ce)) fun T=>?_
 rw [CU,hG]
 exact ⟨fun h=>h.2,fun h=>⟨hs.all h.1 y hy,h⟩⟩
end
end
section
variable {H H0:A3} {ow ow0:Nat->Nat} {p m:Nat} {f:Kf}
theorem S9 {es:List Value} {v:Value}:((es ++ [v]).flatMap fun v=>[v,Value.bool false])=(es.flatMap fun v=>[v,Value.bool false]) ++ [v,.bool false]:=by simp
theorem Ex.xe {H':A3} {ow' ow'':Nat->Nat} (e:Ex H0 ow0 H' ow') (h:∀ b,b < H0.size->ow'' b=ow' b):Ex H0 ow0 H' ow'':=⟨e.sm,fun b hb=>by rw [h b hb]; exact e.ow b hb⟩
theorem U8 {es:List Value} {v:Value} {x:Nat} (h:x ≠ es.length):(es ++ [v])[x]?=es[x]?:=by
 rcases Zg x es.length with h1 | h1 | h1
 ·exact Jg h1
 ·exact absurd h1 h
 ·rw [Jp (by simp; omega),Jp (by omega)]
theorem RK.addE (h:RK H ow p f) (e0:Ex H0 ow0 H ow) {lv:Value} {g:List Nat} (hl:Vec H 3 1 lv (nv g)) (ho:∀ b ∈ own lv,H0.size<=b/\ow b=0)
  {H1:A3} {v':Value} (g1:Vec H1 200 2 v' ((f.es.flatMap fun v=>[v,.bool false]) ++ [lv,.bool false])) (g2:Fr (own f.cls) H H1) (g3:∀ b ∈ own v',b ∈ own f.cls\/H.size<=b) :
  ∃ ow' H',wr H1 ⟨p,0,none⟩ v'=some H'/\RK H' ow' p (f.ent v' lv g)/\Ex H0 ow0 H' ow':=by
 obtain ⟨ow1,m1,e1⟩:=MD.grow h (r:=2) rfl (o':=⟨200,2,v',(f.es ++ [lv]).flatMap fun v=>[v,.bool false]⟩) (by rw [S9]; exact g1) g2 g3
 obtain ⟨H2,h2,m2,e2⟩:=m1.self (l:=Cy f) (t:=197) rfl rfl (i:=0) (by omega) v'
 have e12:=e1.trans e2
 have ex2:=e0.trans e12
 have hl2:Vec H2 3 1 lv (nv g):=e12.vec hl (fun b hb=>(ho b hb).2)
 have ho2:∀ b ∈ own lv,ow1 b=0:=fun b hb=>by rw [e12.ow b (hl.lt b hb)]; exact (ho b hb).2
 obtain ⟨ow',m3,h3⟩:=MD.take m2 (r:=101 + 3 * f.es.length) (by omega) (by omega) (by rw [Aj (by omega),Aj (by omega),Er,Jp (Jb _)]; rfl) (o':=⟨3,1,lv,nv g⟩) hl2 ho2
 refine ⟨ow',H2,h2,MD.ext (D:=_) m3 (K4 ?_ ?_ ?_ ?_ ?_ ?_ ?_ (fun q hq hl=>?_) (fun y=>?_) (fun y=>?_) (fun y=>?_)),Ex.xe ex2 fun b hb=>h3 b (fun e=>by have:=(ho b e).1; omega)⟩
 ·rw [Aj (by omega),Bh]; rfl
 ·rw [Aj (by omega),Aj (by omega),Bh]; rfl
 ·rw [Aj (by omega),Aj (by omega),Aj (by omega)]; rfl
 ·rw [Aj (by omega),Aj (by omega),Aj (by omega)]; rfl
 ·rw [Aj (by omega),Aj (by omega),Aj (by omega)]; rfl
 ·rw [Aj (by omega),Aj (by omega),Aj (by omega)]; rfl
 ·rw [Aj (by omega),Aj (by omega),Aj (by omega)]; rfl
 ·rw [Aj (by omega),Aj (by omega),Aj (by omega)]; exact Ft hq hl
 ·rw [Aj (by omega),Aj (by omega),Aj (by omega),F4,F4]
 ·by_cases hy:y=f.es.length
  ·subst hy
   rw [Bh,Er]
   simp only [Jf (Jb _),Yf,Z1,Ju,A8]
  ·rw [Aj (by omega),Aj (by omega),Aj (by omega),Er,Er]
   simp only [U8 hy,Af hy]
 ·rw [Aj (by omega),Aj (by omega),Aj (by omega),EN,EN]
theorem S2 {kvs:List (Value × Value)} {kl:Nat->List Nat} {D:Nat->Option Ob} (hD:∀ q,q < 100\/q % 3 ≠ 0->D q=KD p f q) (hk:∀ y,D (102 + 3 * y)=(kvs[y]?).map fun kv=>⟨3,1,kv.2,nv (kl y)⟩):∀ q,KD p (f.kv kvs kl) q=D q:=by
 refine K4 ?_ ?_ ?_ ?_ ?_ ?_ ?_ (fun q hq hl=>?_) (fun y=>?_) (fun y=>?_) (fun y=>?_)
 ·rw [hD _ (by omega)]; rfl
 ·rw [hD _ (by omega)]; rfl
 ·rw [hD _ (by omega)]; rfl
 ·rw [hD _ (by omega)]; rfl
 ·rw [hD _ (by omega)]; rfl
 ·rw [hD _ (by omega)]; rfl
 ·rw [hD _ (by omega)]; rfl
 ·rw [hD _ (by omega)]; exact Ft hq hl
 ·rw [hD _ (by omega),F4,F4]
 ·rw [hD _ (by omega),Er,Er]
 ·rw [hk,EN]
theorem RK.nh (h:RK H ow p f) (hks:∀ x ∈ f.kvs,∃ s,x.1=.string s) (s:ByteArray):∃ u l,Ac Tryz.prog (Instr.lookup 194 (.map (some f.mp)) (.string s) false) H=some u/\Vec H 3 1 u (nv l) /\
  ((EL s f.kvs=none/\u=.slice none 0 0/\l = [])\/∃ j k,EL s f.kvs=some j/\f.kvs[j]?=some (k,u)/\l=f.kl j):=by
 rcases HC (P:=Tryz.prog) (t:=194) (z:=.slice none 0 0) Tryz.underlying194 Tryz.underlying9 T.ym h.mr hks s with ⟨h1,h2⟩ | ⟨j,w,h1,h2,h3⟩
 ·exact ⟨_,[],h2,Vec.nil,.inl ⟨h1,rfl,rfl⟩⟩
 ·exact ⟨w,f.kl j,h3,(MD.mm h (102 + 3 * j) ⟨3,1,w,nv (f.kl j)⟩ (by rw [EN,h2]; rfl)).vec,.inr ⟨j,_,h1,h2,rfl⟩⟩
theorem Qm {H':A3} {mp:Nat} {kvs:List (Value × Value)} {s:ByteArray} {u:Value} (hm:MapR H mp kvs) (hm':MapR H' mp kvs) (hks:∀ x ∈ kvs,∃ s,x.1=.string s) (hu:Ac Tryz.prog (Instr.lookup 194 (.map (some mp)) (.string s) false) H=some u) :
  Ac Tryz.prog (Instr.lookup 194 (.map (some mp)) (.string s) false) H'=some u:=by
 rcases HC (P:=Tryz.prog) (t:=194) (z:=.slice none 0 0) Tryz.underlying194 Tryz.underlying9 T.ym hm hks s with ⟨h1,h2⟩ | ⟨j,w,h1,h2,h3⟩ <;>
 rcases HC (P:=Tryz.prog) (t:=194) (z:=.slice none 0 0) Tryz.underlying194 Tryz.underlying9 T.ym hm' hks s with ⟨h1',h2'⟩ | ⟨j',w',h1',h2',h3'⟩
 ·rw [h2']; rw [h2] at hu; exact hu
 ·rw [h1] at h1'; cases h1'
 ·rw [h1] at h1'; cases h1'
 ·rw [h1] at h1'; cases h1'
  rw [h2] at h2'
  simp only [J5,Jx,true_and] at h2'
  rw [h3',<- h2',<- h3]; exact hu
theorem RK.uh (h:RK H ow p f) {s:ByteArray} {u:Value} {l:List Nat} (hc:(EL s f.kvs=none/\u=.slice none 0 0/\l = [])\/∃ j k,EL s f.kvs=some j/\f.kvs[j]?=some (k,u)/\l=f.kl j)
  {H1:A3} (g2:Fr (own u) H H1):MapR H1 f.mp f.kvs/\A5 H1 ⟨p,1,none⟩=some (.map (some f.mp)):=by
 have hp:ow p=1:=(MD.mm h 1 _ rfl).ow p (by simp [own])
 have c1:A5 H ⟨p,1,none⟩=some (.map (some f.mp)):=h.c rfl
 rcases hc with ⟨hn,rfl,rfl⟩ | ⟨j,k,hj,hg,rfl⟩
 ·exact ⟨h.mr.frame g2 (by simp [own]),g2.zg c1 (by simp [own])⟩
 ·have hv:VR H ow (102 + 3 * j) 3 1 u (nv (f.kl j)):=MD.mm h (102 + 3 * j) ⟨3,1,u,nv (f.kl j)⟩ (by rw [EN,hg]; rfl)
  exact ⟨h.mr.frame g2 fun e=>by have h1:ow f.mp=102 + 3 * j:=hv.ow _ e; have h2:ow f.mp=3:=h.mo; omega,g2.zg c1 fun e=>by have h1:ow p=102 + 3 * j:=hv.ow _ e; omega⟩
theorem RK.tf (h:RK H ow p f) (e0:Ex H0 ow0 H ow) (hks:∀ x ∈ f.kvs,∃ s,x.1=.string s) {s:ByteArray} {u:Value} {l l':List Nat} (hc:(EL s f.kvs=none/\u=.slice none 0 0/\l = [])\/∃ j k,EL s f.kvs=some j/\f.kvs[j]?=some (k,u)/\l=f.kl j)
  {H1:A3} {v':Value} (g1:Vec H1 3 1 v' (nv l')) (g2:Fr (own u) H H1) (g3:∀ b ∈ own v',b ∈ own u\/H.size<=b) {K:A3->Prop} {E:Value->A3->Prop}
  (hK:∀ H' ow' kvs kl,RK H' ow' p (f.kv kvs kl)->Ex H0 ow0 H' ow'->(∀ x ∈ kvs,∃ s,x.1=.string s)->(∀ j,kl j=f.kl j\/kl j=l')->K H'):@RQ Tryz.prog 194 (.map (some f.mp)) (.string s) v' ⟨H1⟩ ⟨K⟩ ⟨E⟩:=by
 rcases hc with ⟨hn,rfl,rfl⟩ | ⟨j,k,hj,hg,rfl⟩
 ·have m1:=MD.out h (F:=[]) g2 (by simp)
  have e1:Ex H0 ow0 H1 ow:=e0.trans (Ex.of (Sm.of (R:=fun _=>False) g2 (by simp [own])) (by simp))
  have hb:∀ b ∈ own v',H.size<=b:=fun b hb=>(g3 b hb).elim (by simp [own]) id
  refine MH Tryz.underlying194 Tryz.underlying9 m1.mr hks (fun _ H' hm hf=>?_) (fun j hj=>by rw [hn] at hj; cases hj)
  obtain ⟨m2,e2⟩:=m1.map hm hf
  have ho:∀ b ∈ own v',ow b=0:=fun b hb'=>MD.free h (hb b hb')
  obtain ⟨ow',m3,h3⟩:=MD.take m2 (r:=102 + 3 * f.kvs.length) (by omega) (by omega) (by rw [EN,Jp (Jb _)]; rfl) (o':=⟨3,1,v',nv l'⟩) (e2.vec g1 ho) ho
  refine hK H' ow' (f.kvs ++ [(.string s,v')]) (upd f.kl f.kvs.length l') (MD.ext (D:=_) m3 (S2 (fun q hq=>by rw [Aj (by omega)]) fun y=>?_)) (Ex.xe (e1.trans e2) fun b hb'=>h3 b fun e=>by have:=hb b e; have:=e0.sm.size; omega) (fun x hx=>?_) (fun j=>?_)
  ·by_cases hy:y=f.kvs.length
   ·subst hy
    rw [Bh]
    simp only [Jf (Jb _),Yf,Z1,Ju,A8]
   ·rw [Aj (by omega),EN]
    have:(f.kvs ++ [(Value.string s,v')])[y]?=f.kvs[y]?:=by
     rcases Zg y f.kvs.length with h1 | h1 | h1
     ·exact Jg h1
     ·exact absurd h1 hy
     ·rw [Jp (by simp; omega),Jp (by omega)]
    rw [this]
    simp only [Af hy]
  ·rcases Jh.1 hx with hx | hx
   ·exact hks x hx
   ·rw [J6.1 hx]; exact ⟨s,rfl⟩
  ·by_cases hj:j=f.kvs.length
   ·subst hj; exact .inr A8
   ·exact .inl (Af hj)
 ·obtain ⟨ow1,m1,e1⟩:=MD.grow h (r:=102 + 3 * j) (o:=⟨3,1,u,nv (f.kl j)⟩) (by rw [EN,hg]; rfl) (o':=⟨3,1,v',nv l'⟩) g1 g2 g3
  refine MH Tryz.underlying194 Tryz.underlying9 m1.mr hks (fun hn=>by rw [hj] at hn; cases hn) (fun j' hj' H' hm hf=>?_)
  rw [hj] at hj'
  cases hj'
  obtain ⟨m2,e2⟩:=m1.map hm hf
  have hjl:=(J3.1 hg).1
  refine hK H' ow1 (f.kvs.set j (.string s,v')) (upd f.kl j l') (MD.ext (D:=_) m2 (S2 (fun q hq=>by rw [Aj (by omega)]) fun y=>?_)) (e0.trans (e1.trans e2)) (fun x hx=>?_) (fun y=>?_)
  ·by_cases hy:y=j
   ·subst hy
    rw [Bh]
    simp only [Xa hjl,Ju,A8]
   ·rw [Aj (by omega),EN]
    simp only [Y6 (Ne.symm hy),Af hy]
  ·rcases List.mem_or_eq_of_mem_set hx with hx | rfl
   ·exact hks x hx
   ·exact ⟨s,rfl⟩
  ·by_cases hy:y=j
   ·subst hy; exact .inr A8
   ·exact .inl (Af hy)
theorem RK.qu (h:RK H ow p f) {H1:A3} {v':Value} {l:List Nat} (g1:Vec H1 3 1 v' (nv l)) (g2:Fr (own f.uns) H H1) (g3:∀ b ∈ own v',b ∈ own f.uns\/H.size<=b) :
  ∃ ow' H',wr H1 ⟨p,7,none⟩ v'=some H'/\RK H' ow' p { f with uns:=v',us:=l }/\Ex H ow H' ow':=by
 obtain ⟨ow',m1,e1⟩:=MD.grow h (r:=8) rfl (o':=⟨3,1,v',nv l⟩) g1 g2 g3
 obtain ⟨H',h1,m,e⟩:=m1.self (l:=Cy f) (t:=197) rfl rfl (i:=7) (by omega) v'
 exact ⟨ow',H',h1,m.ext (Ih (f:=f) rfl rfl rfl rfl rfl rfl rfl rfl rfl (ds8 (ds8 kd8 (by omega)) (by omega)) rfl),e1.trans e⟩
end
end Go.Proofs.YtkdlmdmlomgdiaaGreat
namespace Go.Run
open Go.HL
theorem EI {n i:Nat} {P:Program} {l:List Oper} {hl:A3->Prop} {Q:Exit->En->A3->Prop} {p:Plan} {U:En} {H:A3} {o:Oper} (v:Value) (ho:l[i]?=some o) (hg:o.guard=none) (hv:∀ H',hl H'->opQ P (AI H') U.ev o.op=some v) (h:Ap n P l hl Q p (U.put n o.dst v) H):Ap n P l hl Q (.look i false p) U H:=by
 show (match l[i]? with | none=>False | some o=>if false=true then _ else ∃ v,LookH P l hl o U v/\Ap n P l hl Q p (U.put n o.dst v) H);rw [ho];refine ⟨v,fun H' hh=>⟨AI H',Fv H',?_⟩,h⟩;unfold CY;rw [hg];exact hv H' hh
theorem UW {n i:Nat} {P:Program} {l:List Oper} {hl:A3->Prop} {Q:Exit->En->A3->Prop} {p:Plan} {U:En} {H:A3} {o:Oper} (ho:l[i]?=some o) (h:opG n P l.toArray o U H (fun U' H'=>hl H'/\Ap n P l hl Q p U' H') Q):Ap n P l hl Q (.act i p .non) U H:=by
 show (match l[i]? with | none=>False | some o=>_)/\True;rw [ho];exact ⟨CL (fun U' H' hh=>⟨hl,fun _ h=>h,hh.1,hh.2⟩) (fun _ _ _ h=>h) h,trivial⟩
theorem j35 {n i:Nat} {P:Program} {l:List Oper} {hl:A3->Prop} {Q:Exit->En->A3->Prop} {U:En} {H:A3} {o:Oper} (ho:l[i]?=some o) (h:opG n P l.toArray o U H (fun U' H'=>Q .normal U' H') Q):Ap n P l hl Q (.acth i .fin) U H:=by
 show (match l[i]? with | none=>False | some o=>_);rw [ho];exact CL (fun U' H' hh=>⟨fun _=>True,trivial,hh⟩) (fun _ _ _ h=>h) h
end Go.Run
namespace Go.Proofs.YtkdlmdmlomgdiaaGreat
open Go.HL HM Go.Sat
theorem Rx {P:Program} {H:A3} {U:Operand->Value} {t:TypeId} {m k:Operand} {ok:Bool}:opQ P (AI H) U (.lookup t m k ok)=Ac P (Instr.lookup t (U m) (U k) ok) H:=rfl
section
variable {H:A3} {ow:Nat->Nat} {p m:Nat} {f:Kf} {C:List Nat} {G:List (List Nat)}
theorem RK.de (h:RK H ow p f):∃ a cap,f.cls=.slice a f.es.length cap:=by
 obtain ⟨a,len,cap,e,hl⟩:=(MD.mm h 2 _ rfl).vec.len;have hl':(f.es.flatMap fun v=>[v,Value.bool false]).length=len * 2:=hl;rw [GT] at hl';have:len=f.es.length:=(by omega);subst this;exact ⟨a,cap,e⟩
theorem KZ (h:RK H ow p f) (hm:KM m f C) (ht:KT m f C G) (hmx:m<=1000) (hes:f.es.length<=50000)
  {a:Option Addr} {xs:List Int} {c:Nat} {idle:Bool} (hx:Rn H a xs) (hxo:∀ b o,a=some ⟨b,o,none⟩->b < H.size/\ow b=0) (hn:∀ x ∈ xs,AE x=true/\x.natAbs<=1000) (hlen:xs.length<=1000)
  (hi1:idle=true->∃ y ∈ xs.map Ai,neg y ∈ xs.map Ai) (hi0:idle=false->((xs.map Ai).map (· / 2)).Nodup) :
  CallF Tryz.prog 69 [pv p,.slice a xs.length c,.bool idle] H (fun v H'=>v=.tuple #[]/\∃ ow' f' m' C',RK H' ow' p f'/\KM m' f' C'/\KT m' f' C' (xs.map Ai :: G)/\Ex H ow H' ow'/\m<=m'/\m'<=1000/\f'.es.length=f.es.length + 1) NoP:=by
 have hg:grt xs<=1000:=Gh.2 fun x hx _=>(hn x hx).2
 obtain ⟨ca,cc,ec⟩:=h.de
 have c0:A5 H ⟨p,0,none⟩=some (.slice ca f.es.length cc):=by rw [<- ec]; exact h.c rfl
 refine A9 Tryz.func69 rfl Tryz.ntmps69 Tryz.results69 (by decide) rfl ?_
 simp (disch:=omega) only [go_sem,↓cB,c0]
 refine A7 (Ib h (k:=m + 1) (by rw [hm.r.len]; omega) (by rw [hm.r.wv]; omega) hm.r.rs (fun x hx=>hm.wi.far (by rw [<- hm.r.wv]; exact hx)) (by omega) hx hxo hn (by omega)) ?_
 rintro lv H1 ⟨ow1,va,wa,ra,m1,e1,v1,o1⟩
 have km1:=hm.gr (v:=grt xs) (va:=va) (wa:=wa) (ra:=ra)
 have kt1:=ht.gr (v:=grt xs) (va:=va) (wa:=wa) (ra:=ra)
 obtain ⟨f1,hf1⟩:∃ f1,f1=f.gr (m + 1) (grt xs) va wa ra:=⟨_,rfl⟩
 have hes1:f1.es.length=f.es.length:=by rw [hf1]
 rw [<- hf1] at m1 km1 kt1
 rw [<- hes1]
 rw [<- hes1] at hes
 obtain ⟨g,hgx⟩:∃ g,g=xs.map Ai:=⟨_,rfl⟩
 rw [<- hgx] at v1 hi1 hi0 ⊢
 have hgi:∀ y ∈ g,isC (max m (grt xs)) y:=fun y hy=>by
  rw [hgx] at hy;obtain ⟨x,hx',rfl⟩:=Ji.1 hy;exact D3 (Ci (hn x hx').1) (by have:=Gh.1 (Jb (grt xs)) x hx' (hn x hx').1; omega)
 have hgl:g.length<=1000:=by rw [hgx]; simpa using hlen
 obtain ⟨m',hm'⟩:∃ m',m'=max m (grt xs):=⟨_,rfl⟩
 rw [<- hm'] at km1 kt1 hgi
 have hmm:m<=m':=by omega
 have hmx':m'<=1000:=by omega
 obtain ⟨la,ll,lc,rfl,hll⟩:=v1.len
 have hll':ll=g.length:=by simpa [Am] using hll.symm
 subst hll'
 clear hm ht h hf1 hm' hll c0 ec
 have cv:A5 H1 ⟨p,0,none⟩=some f1.cls:=m1.c rfl
 obtain ⟨ca,cc,ec⟩:=m1.de
 rw [ec] at cv
 simp (disch:=omega) only [go_sem,↓cB,cv]
 refine Hd (n:=1) (new:=[.slice la g.length lc,.bool false]) T.ey rfl (by rw [<- ec]; exact (MD.mm m1 2 _ rfl).vec) (by simp [Cb]) rfl (by intro a' l' c' e; simp only [Value.slice.injEq] at e; omega) ?_
 intro v2 H2 g1 g2 g3 g4
 obtain ⟨a2,c2,rfl⟩:=g4 _ _ _ rfl
 obtain ⟨ow3,H3,w3,m3,e3⟩:=m1.addE e1 v1 o1 g1 (by rw [ec]; exact g2) (by rw [ec]; exact g3)
 clear g1 g2 g3 v1 o1 e1 cv ec
 simp (disch:=omega) only [go_sem,↓cB,w3]
 refine A7 (Qc (e3.rn hx hxo) (fun x hx=>(hn x hx).1) (by omega)) ?_
 rintro v H4 ⟨s,rfl,f4⟩
 have m4:=MD.out m3 f4 (by simp)
 have e4:=e3.trans (Ex.of (Sm.of (R:=fun _=>False) f4 (by simp)) (by simp):Ex H3 ow3 H4 ow3)
 clear e3 w3 f4
 obtain ⟨u,l,hu,vu,hcase⟩:=RK.nh m4 km1.ks s
 have c1:A5 H4 ⟨p,1,none⟩=some (.map (some f1.mp)):=RK.c m4 rfl
 obtain ⟨hl,hhl⟩:∃ hl:A3->Prop,hl=fun H'=>A5 H' ⟨p,1,none⟩=some (.map (some f1.mp))/\Ac Tryz.prog (Instr.lookup 194 (.map (some f1.mp)) (.string s) false) H'=some u:=⟨_,rfl⟩
 have hh1:∀ H',hl H'->A5 H' ⟨p,1,none⟩=some (.map (some f1.mp)):=fun H' h=>by rw [hhl] at h; exact h.1
 have hh2:∀ H',hl H'->Ac Tryz.prog (Instr.lookup 194 (.map (some f1.mp)) (.string s) false) H'=some u:=fun H' h=>by rw [hhl] at h; exact h.2
 have hh3:∀ H',MapR H' f1.mp f1.kvs->A5 H' ⟨p,1,none⟩=some (.map (some f1.mp))->hl H':=fun H' h h'=>by rw [hhl]; exact ⟨h',Qm m4.mr h km1.ks hu⟩
 have hh0:hl H4:=hh3 _ m4.mr c1
 have hll:l.length<=f1.es.length:=by
  rcases hcase with ⟨-,-,rfl⟩ | ⟨j,k,-,-,rfl⟩
  ·simp
  ·exact km1.kl j
 clear hhl
 simp (disch:=omega) only [go_sem,↓cB]
 refine Go.Run.Fx (.look 0 false (.look 1 false (.look 2 false (.look 3 false (.look 4 false (.look 5 false (.look 6 false (.look 7 false (.look 8 false (.look 9 false (.look 10 false (.look 11 false (.act 12 (.act 13 (.acth 14 .fin) .non) .non))))))))))))) hl T.mixed (by kernel_rfl) (by repeat (first | with_reducible exact PanOK.ret | with_reducible exact PanOK.no | with_reducible refine PanOK.seq ?_ | with_reducible refine PanOK.blk ?_)) hh0 ?_
 refine Go.Run.EI (pv p) rfl rfl (fun H' hh=>by simp (disch:=omega) only [go_sem,↓cB]) ?_
 refine Go.Run.EI (pv p) rfl rfl (fun H' hh=>by simp (disch:=omega) only [go_sem,↓cB]) ?_
 refine Go.Run.EI (.pointer (some ⟨p,1,none⟩)) rfl rfl (fun H' hh=>by simp (disch:=omega) only [go_sem,↓cB]) ?_
 refine Go.Run.EI (.map (some f1.mp)) rfl rfl (fun H' hh=>by have:=hh1 H' hh; simp (disch:=omega) only [go_sem,↓cB,this]) ?_
 refine Go.Run.EI (.string s) rfl rfl (fun H' hh=>by simp (disch:=omega) only [go_sem,↓cB]) ?_
 refine Go.Run.EI (pv p) rfl rfl (fun H' hh=>by simp (disch:=omega) only [go_sem,↓cB]) ?_
 refine Go.Run.EI (pv p) rfl rfl (fun H' hh=>by simp (disch:=omega) only [go_sem,↓cB]) ?_
 refine Go.Run.EI (.pointer (some ⟨p,1,none⟩)) rfl rfl (fun H' hh=>by simp (disch:=omega) only [go_sem,↓cB]) ?_
 refine Go.Run.EI (.map (some f1.mp)) rfl rfl (fun H' hh=>by have:=hh1 H' hh; simp (disch:=omega) only [go_sem,↓cB,this]) ?_
 refine Go.Run.EI (.string s) rfl rfl (fun H' hh=>by simp (disch:=omega) only [go_sem,↓cB]) ?_
 refine Go.Run.EI u rfl rfl (fun H' hh=>by have:=hh2 H' hh; simp (disch:=omega) only [go_sem,↓cB,Rx,this]) ?_
 refine Go.Run.EI (iv f1.es.length) rfl rfl (fun H' hh=>by simp (disch:=omega) only [go_sem,↓cB]) ?_
 refine Go.Run.UW rfl ?_
 simp (disch:=omega) only [go_sem,↓cB]
 have f5:Fr [] H4 (H4.push (.cells #[iv f1.es.length] 3)):=Fr.push
 refine ⟨hh3 _ (m4.mr.frame f5 (by simp)) (f5.zg c1 (by simp)),?_⟩
 refine Go.Run.UW rfl ?_
 simp (disch:=omega) only [go_sem,↓cB]
 obtain ⟨ua,ul,uc,rfl,hul⟩:=vu.len
 refine AK T.zk rfl vu rfl (by rw [Am]; omega) ?_
 intro v5 H5 g1 g2 g3 g4
 obtain ⟨a5,c5,rfl⟩:=g4
 obtain ⟨k1,k2⟩:=RK.uh m4 hcase g2
 refine ⟨hh3 _ k1 k2,?_⟩
 refine Go.Run.j35 rfl ?_
 simp (disch:=omega) only [go_sem,↓cB]
 refine RK.tf m4 e4 km1.ks hcase (l':=l ++ [f1.es.length]) (by rw [CO]; exact g1) g2 g3 ?_
 intro H6 ow6 kvs kl m6 e6 ks6 kl6
 have km6:KM m' ((f1.ent (.slice a2 (f1.es.length + 1) c2) (.slice la g.length lc) g).kv kvs kl) C:=km1.ent ks6 (fun j=>by
  rcases kl6 j with e | e
  ·rw [e]; have:=km1.kl j; show (f1.kl j).length<=_; omega
  ·rw [e]; simp; omega)
 clear g1 g2 g3 k1 k2 vu hul c1 hcase hh0 hh1 hh2 hh3 hu f5 m4 e4 hll
 have hel:(f1.es ++ [Value.slice la g.length lc]).length=f1.es.length + 1:=by simp
 cases idle with
 | true =>
  simp (disch:=omega) only [go_sem,↓cB];exact fin ⟨rfl,ow6,_,m',C,m6,km6,(kt1.ent km1).idle (hi1 rfl),e6,hmm,hmx',hel⟩
 | false =>
  have hnd:=hi0 rfl;clear hi0 hi1;match g,hgx,hgl,hgi,hnd,km6,m6 with
  | [],hgx,hgl,hgi,hnd,km6,m6 =>
   have c8:A5 H6 ⟨p,8,none⟩=some (iv f1.emp):=m6.c rfl;obtain ⟨H7,w7,m7,e7⟩:=m6.jn (f1.emp + 1);have hi1:(f1.emp:Int) + 1=((f1.emp + 1:Nat):Int):=(by omega);have z0:(([]:List Nat).length:Int)=0:=rfl;have hem:=km1.em;simp (disch:=omega) only [go_sem,↓cB,z0,c8,hi1,w7];exact fin ⟨rfl,ow6,_,m',C,m7,km1.emp km6,(kt1.ent km1).emp,e6.trans e7,hmm,hmx',hel⟩
  | [y],hgx,hgl,hgi,hnd,km6,m6 =>
   obtain ⟨lb,lo,lcap,elv,-⟩:=m6.xf (c:=f1.es.length) (v:=.slice la [y].length lc) (by simp) (by show 0 < (upd f1.lits f1.es.length [y] f1.es.length).length; rw [A8]; simp);simp only [Value.slice.injEq] at elv;obtain ⟨rfl,-,rfl⟩:=elv;obtain ⟨ua,uc,eu⟩:∃ a cap,f1.uns=.slice a f1.us.length cap:=by
    obtain ⟨a,cap,e⟩:=MD.form m6 (r:=8) rfl rfl;exact ⟨a,cap,by simpa [Am] using e⟩
   have c7:A5 H6 ⟨p,7,none⟩=some (.slice ua f1.us.length uc):=(by rw [<- eu]; exact m6.c rfl);have hul:=km1.ul;have z1:(([y]:List Nat).length:Int)=1:=rfl;simp (disch:=omega) only [go_sem,↓cB,z1,c7];have v8:Vec H6 3 1 (.slice ua f1.us.length uc) (nv f1.us):=(by rw [<- eu]; exact (MD.mm m6 8 _ rfl).vec);refine AK T.zk rfl v8 rfl (by rw [Am]; omega) ?_;intro v7 H7 g1 g2 g3 g4;obtain ⟨a7,c7',rfl⟩:=g4;obtain ⟨ow8,H8,w8,m8,e8⟩:=RK.qu m6 (l:=f1.us ++ [f1.es.length]) (by rw [CO]; exact g1) (by show Fr (own f1.uns) _ _; rw [eu]; exact g2) (by show ∀ b ∈ _,b ∈ own f1.uns\/_; rw [eu]; exact g3);clear g1 g2 g3 c7 v8;have km8:=km1.unit km6 (uv:=.slice a7 ((nv f1.us).length + 1) c7') (hgi y (by simp));have e08:=e6.trans e8;have c10:A5 H8 ⟨p,10,none⟩=some (.bool f1.stale):=m8.c rfl;have c9:A5 H8 ⟨p,9,none⟩=some (.bool f1.bro):=m8.c rfl;cases hs:f1.stale with
   | true =>
    rw [hs] at c10;simp (disch:=omega) only [go_sem,↓cB,w8,c10];exact fin ⟨rfl,ow8,_,m',C,m8,km8,kt1.gp km1 hs,e08,hmm,hmx',hel⟩
   | false =>
    rw [hs] at c10;cases hb:f1.bro with
    | true =>
     rw [hb] at c9;simp (disch:=omega) only [go_sem,↓cB,w8,c10,c9];exact fin ⟨rfl,ow8,_,m',C,m8,km8,kt1.gq hb,e08,hmm,hmx',hel⟩
    | false =>
     rw [hb] at c9;have hyc:=hgi y (by simp);obtain ⟨y1,y2,y3,y4⟩:=AP hyc;have hvl:=km1.r.len;have hrl:=km1.r.rs;obtain ⟨vb,vo,vc,ev⟩:=m8.vv (x:=y) (by show y < f1.vals.length; omega);have c3:A5 H8 ⟨p,3,none⟩=some (.slice (some ⟨vb,vo,none⟩) (2 * m' + 2) vc):=(by rw [<- hvl,<- ev]; exact m8.c rfl);have cy:A5 H8 ⟨vb,vo + y,none⟩=some (.int .i8 ((Kx f1.tr f1.lits).val y)):=m8.vw ev (km1.r.val (by omega));have hc8:(f1.es ++ [Value.slice (some ⟨lb,lo,none⟩) [y].length lc])[f1.es.length]?=some (.slice (some ⟨lb,lo,none⟩) (upd f1.lits f1.es.length [y] f1.es.length).length lc):=(by rw [A8]; simp);have ky:A5 H8 ⟨lb,lo + 0,none⟩=some (iv y):=m8.zp (c:=f1.es.length) hc8 (j:=0) (by show (upd f1.lits f1.es.length [y] f1.es.length)[0]?=_; rw [A8]; rfl);have ky0:A5 H8 ⟨lb,lo,none⟩=some (iv y):=ky;have hin:=Dl (L:=f1.lits) km1.r.ok;simp (disch:=omega) only [go_sem,↓cB,w8,c10,c9];rcases Wb ((Kx f1.tr f1.lits).val y) 0 with hv | hv | hv
     ·have hny:neg y ∈ f1.tr:=(BG hin).1 hv;obtain ⟨H9,w9,m9,e9⟩:=m8.yx true;refine As (lk [tl 0,tl 1,tl 2,tl 3,tl 4,tl 5,tl 6,tl 7,tl 8,tl 9,tl 10] .fin) T.mixed ?_;simp (disch:=omega) only [go_sem,↓cB,z1,c3,ky,ky0,cy,w9];exact fin ⟨rfl,ow8,_,m',C,m9,km8.bro,.broken hs rfl (kt1.dh hs hb (by simpa using hny)),e08.trans e9,hmm,hmx',hel⟩
     ·obtain ⟨h1,h2⟩:=Cq.1 hv;rw [hv] at cy;refine As (lk [tl 0,tl 1,tl 2,tl 3,tl 4,tl 5,tl 6,tl 7,tl 8,tl 9,tl 10] .fin) T.mixed ?_;simp (disch:=omega) only [go_sem,↓cB,z1,c3,ky,ky0,cy];refine As (lk [tl 0,tl 1,tl 2,tl 3,tl 4,tl 5,tl 6,tl 7,tl 8,tl 9,tl 10,tl 11,tl 12,tl 13,tl 14,tl 15,tl 16,tl 17,tl 18,tl 19,tl 20,tl 21,tl 22,tl 23,tl 24,tl 25,tl 26,tl 27] .fin) T.mixed ?_;simp (disch:=omega) only [go_sem,↓cB,z1,c3,ky,ky0,cy];refine A7 (E3 m8 (x:=y) (q:=(f1.es.length:Int)) (by show y < f1.vals.length; omega) (by show neg y < f1.vals.length; omega) (by show y / 2 < f1.rs.length; omega) (by omega) (by have:=km1.r.ok.len; show f1.tr.length<=_; omega)) ?_;rintro v H9 ⟨rfl,ow9,tv,m9,e9⟩;have km9:=km8.push (q:=(f1.es.length:Int)) (tv:=tv) hyc h1 h2;obtain ⟨h4,Gw,hsi,hG⟩:=kt1.vt hs hb;have s9:=(hsi.yu (Hi (g:=[y]) km1.ce)).mj hyc h1 h2;rw [<- h4] at s9;simp (disch:=omega) only [go_sem,↓cB];refine A7 (Ei (G:=[y] :: Gw) (C:=C) m9 km9.r km9.ce s9 (by omega) (by have:=km1.cl; omega)) ?_;rintro v H10 ⟨ow10,f10,m10,r10,e10,v10,hc10⟩;obtain ⟨cb,rfl,w10,hk⟩:=KT.prop (Ga:=[y] :: G) v10 hs (fun T=>by rw [CU,CU,hG]; exact ⟨fun ⟨a,b,c⟩=>⟨⟨a,b⟩,c⟩,fun ⟨⟨a,b⟩,c⟩=>⟨a,b,c⟩⟩) hc10;have km10:=km9.vz r10 v10 w10;obtain ⟨H11,w11,m11,e11⟩:=m10.yx (!cb);simp (disch:=omega) only [go_sem,↓cB,w11];exact fin ⟨rfl,ow10,_,m',C,m11,km10.bro,hk _ rfl,((e08.trans e9).trans e10).trans e11,hmm,hmx',by have:=v10.es; show f10.es.length=_; rw [this]; exact hel⟩
     ·have hyt:=Cu.1 hv;refine As (lk [tl 0,tl 1,tl 2,tl 3,tl 4,tl 5,tl 6,tl 7,tl 8,tl 9,tl 10] .fin) T.mixed ?_;simp (disch:=omega) only [go_sem,↓cB,z1,c3,ky,ky0,cy];refine As (lk [tl 0,tl 1,tl 2,tl 3,tl 4,tl 5,tl 6,tl 7,tl 8,tl 9,tl 10,tl 11,tl 12,tl 13,tl 14,tl 15,tl 16,tl 17,tl 18,tl 19,tl 20,tl 21,tl 22,tl 23,tl 24,tl 25,tl 26,tl 27] .fin) T.mixed ?_;simp (disch:=omega) only [go_sem,↓cB,z1,c3,ky,ky0,cy];exact fin ⟨rfl,ow8,_,m',C,m8,km8,kt1.gn km1 hs hb hyt,e08,hmm,hmx',hel⟩
  | y :: z :: r,hgx,hgl,hgi,hnd,km6,m6 =>
   obtain ⟨lb,lo,lcap,elv,-⟩:=m6.xf (c:=f1.es.length) (v:=.slice la (y :: z :: r).length lc) (by simp) (by show 0 < (upd f1.lits f1.es.length (y :: z :: r) f1.es.length).length; rw [A8]; simp);simp only [Value.slice.injEq] at elv;obtain ⟨rfl,-,rfl⟩:=elv;have hLs:upd f1.lits f1.es.length (y :: z :: r) f1.es.length=y :: z :: r:=A8;have hvl:=km1.r.len;have hrl:=km1.r.rs;have hwl:=km1.r.wv;have hcl:=km1.cl;have z2:decide (((y :: z :: r).length:Int)=0)=false:=(by rw [Zy]; simp only [Za]; omega);have z3:decide (((y :: z :: r).length:Int)=1)=false:=(by rw [Zy]; simp only [Za]; omega);have z4:(0:Int) < ((y :: z :: r).length:Int):=(by simp only [Za]; omega);have z5:(1:Int) < ((y :: z :: r).length:Int):=(by simp only [Za]; omega);simp (disch:=omega) only [go_sem,↓cB,z2,z3];refine A7 (LU m6 km6.r (c:=f1.es.length) (v:=.slice (some ⟨lb,lo,none⟩) (y :: z :: r).length lc) (by simp) (fun q hq=>by
    have hq':q ∈ upd f1.lits f1.es.length (y :: z :: r) f1.es.length:=hq;rw [hLs] at hq';exact (AP (hgi q hq')).1) (by show 2<=(upd f1.lits f1.es.length (y :: z :: r) f1.es.length).length; rw [hLs]; simp) (by show (upd f1.lits f1.es.length (y :: z :: r) f1.es.length).length<=_; rw [hLs]; omega) (by omega)) ?_
   rintro v H7 ⟨rfl,l,m7,e7,hp,a',b',r',rfl,htri⟩;have hp':(a' :: b' :: r').Perm (y :: z :: r):=by
    have hp2:(a' :: b' :: r').Perm (upd f1.lits f1.es.length (y :: z :: r) f1.es.length):=hp;rwa [hLs] at hp2
   clear hp;have hLl:(a' :: b' :: r').length=(y :: z :: r).length:=hp'.length_eq;have hLi:∀ q ∈ a' :: b' :: r',isC m' q:=fun q hq=>hgi q (hp'.mem_iff.1 hq);have hLn:((a' :: b' :: r').map (· / 2)).Nodup:=(hp'.map (· / 2)).nodup_iff.2 hnd;have hab:a' ≠ b':=(by rintro rfl; simp at hLn);obtain ⟨p1,p2,p3,p4⟩:=AP (hLi a' (by simp));obtain ⟨q1,q2,q3,q4⟩:=AP (hLi b' (by simp));obtain ⟨wa,hwa⟩:∃ v,f1.wv[a']?=some v:=⟨_,J1 (by omega)⟩;obtain ⟨wb',hwb⟩:∃ v,f1.wv[b']?=some v:=⟨_,J1 (by omega)⟩;have hw1:=km1.wi.len a';have hw2:=km1.wi.len b';obtain ⟨wb,wo,wc,ewt⟩:∃ b o cap,f1.wat=.slice (some ⟨b,o,none⟩) f1.wv.length cap:=m7.qg (x:=a') (by show a' < f1.wv.length; omega);have hc7:(f1.es ++ [Value.slice (some ⟨lb,lo,none⟩) (y :: z :: r).length lc])[f1.es.length]?=some (.slice (some ⟨lb,lo,none⟩) (upd (upd f1.lits f1.es.length (y :: z :: r)) f1.es.length (a' :: b' :: r') f1.es.length).length lc):=(by rw [A8,hLl]; simp);have d26:A5 H7 ⟨p,2,none⟩=some (.slice (some ⟨wb,wo,none⟩) (f1.wv).length wc):=(by rw [<- ewt]; exact m7.c rfl);have dl6:A5 H7 ⟨lb,lo + 0,none⟩=some (iv a'):=m7.zp (c:=f1.es.length) hc7 (j:=0) (by show (upd (upd f1.lits f1.es.length (y :: z :: r)) f1.es.length (a' :: b' :: r') f1.es.length)[0]?=_; rw [A8]; rfl);have dw6:A5 H7 ⟨wb,wo + a',none⟩=some wa:=m7.p5 ewt hwa;have vy6:VR H7 ow6 (100 + 3 * a') 3 1 wa (nv (f1.w a')):=m7.wl hwa;obtain ⟨hl6,hhl6⟩:∃ hl',hl'=HI H7 [⟨p,2,none⟩,⟨lb,lo + 0,none⟩,⟨wb,wo + a',none⟩]:=⟨_,rfl⟩;have hok6:Al hl6 H7:=(by rw [hhl6]; exact K7);have l06:Ak hl6 ⟨p,2,none⟩=some (.slice (some ⟨wb,wo,none⟩) (f1.wv).length wc):=(by rw [hhl6]; exact Cz d26 (by simp));have l16:Ak hl6 ⟨lb,lo + 0,none⟩=some (iv a'):=(by rw [hhl6]; exact Cz dl6 (by simp));have l1a6:Ak hl6 ⟨lb,lo,none⟩=some (iv a'):=l16;have l26:Ak hl6 ⟨wb,wo + a',none⟩=some wa:=(by rw [hhl6]; exact Cz dw6 (by simp));have keep6:∀ H3,A5 H3 ⟨p,2,none⟩=some (.slice (some ⟨wb,wo,none⟩) (f1.wv).length wc)->A5 H3 ⟨lb,lo + 0,none⟩=some (iv a')->A5 H3 ⟨wb,wo + a',none⟩=some wa->Al hl6 H3:=by
    intro H3 q1 q2 q3;rw [hhl6];refine F6 fun ad had v hv=>?_;simp only [J7,Z6,Ya] at had;rcases had with rfl | rfl | rfl
    ·rw [q1,<- d26]; exact hv
    ·rw [q2,<- dl6]; exact hv
    ·rw [q3,<- dw6]; exact hv
   simp (disch:=omega) only [go_sem,↓cB];refine Fc (lk [fl 0,fl 1,fl 2,fl 3,fl 4,fl 5,fl 6,fl 7,fl 8,fl 9,fl 10,fl 11,fl 12,fl 13,fl 14,fl 15,tl 16] (.act 17 (.act 18 (lk [tl 19] (.actd 20 .fin)) .non) .non)) T.mixed hl6 hok6 ?_;simp (disch:=omega) only [go_sem,↓cB,z4,z5,l06,l16,l1a6,l26,Z2];refine B9 (keep6 _ ((Fr.push (F:=[])).zg d26 (by simp)) ((Fr.push (F:=[])).zg dl6 (by simp)) ((Fr.push (F:=[])).zg dw6 (by simp))) ?_;simp (disch:=omega) only [go_sem,↓cB,z4,z5,l06,l16,l1a6,l26,Z2];refine AK T.zk rfl vy6.vec rfl (by rw [Am]; omega) ?_;intro vv6 Hx6 g1 g2 g3 g4;obtain ⟨ax6,cx6,rfl⟩:=g4;obtain ⟨k1,k2,ow8,H8,w6,m8,e8⟩:=m7.th (x:=a') (l:=f1.w a' ++ [f1.es.length]) hwa ewt (by rw [CO]; exact g1) g2 g3;have ql6:A5 Hx6 ⟨lb,lo + 0,none⟩=some (iv a'):=g2.zg dl6 (by
    intro hh;have h1:ow6 lb=100 + 3 * a':=vy6.ow _ hh;have h2:ow6 lb=101 + 3 * f1.es.length:=(RK.lv m7 (c:=f1.es.length) hc7).ow lb (by simp [own]);omega)
   refine B9 (keep6 _ (k1 2 _ d26 (by rw [<- ewt]; rfl)) ql6 k2) ?_;simp (disch:=omega) only [go_sem,↓cB,z4,z5,l06,l16,l1a6,l26,Z2,w6];clear g1 g2 g3 k1 k2 hok6 hhl6 l06 l16 l1a6 l26 keep6 d26 dl6 dw6 ql6;have hwb9:(f1.wv.set a' (.slice ax6 ((nv (f1.w a')).length + 1) cx6))[b']?=some wb':=(by rw [Y6 hab]; exact hwb);have ewt9:f1.wat=.slice (some ⟨wb,wo,none⟩) (f1.wv.set a' (.slice ax6 ((nv (f1.w a')).length + 1) cx6)).length wc:=(by rw [Z2]; exact ewt);have hub:upd f1.w a' (f1.w a' ++ [f1.es.length]) b'=f1.w b':=Af (Ne.symm hab);have d27:A5 H8 ⟨p,2,none⟩=some (.slice (some ⟨wb,wo,none⟩) (f1.wv.set a' (.slice ax6 ((nv (f1.w a')).length + 1) cx6)).length wc):=(by rw [<- ewt9]; exact m8.c rfl);have dl7:A5 H8 ⟨lb,lo + 1,none⟩=some (iv b'):=m8.zp (c:=f1.es.length) hc7 (j:=1) (by show (upd (upd f1.lits f1.es.length (y :: z :: r)) f1.es.length (a' :: b' :: r') f1.es.length)[1]?=_; rw [A8]; rfl);have dw7:A5 H8 ⟨wb,wo + b',none⟩=some wb':=m8.p5 ewt9 hwb9;have vy7:VR H8 ow8 (100 + 3 * b') 3 1 wb' (nv (f1.w b')):=(by rw [<- hub]; exact m8.wl hwb9);obtain ⟨hl7,hhl7⟩:∃ hl',hl'=HI H8 [⟨p,2,none⟩,⟨lb,lo + 1,none⟩,⟨wb,wo + b',none⟩]:=⟨_,rfl⟩;have hok7:Al hl7 H8:=(by rw [hhl7]; exact K7);have l07:Ak hl7 ⟨p,2,none⟩=some (.slice (some ⟨wb,wo,none⟩) (f1.wv.set a' (.slice ax6 ((nv (f1.w a')).length + 1) cx6)).length wc):=(by rw [hhl7]; exact Cz d27 (by simp));have l17:Ak hl7 ⟨lb,lo + 1,none⟩=some (iv b'):=(by rw [hhl7]; exact Cz dl7 (by simp));have l27:Ak hl7 ⟨wb,wo + b',none⟩=some wb':=(by rw [hhl7]; exact Cz dw7 (by simp));have keep7:∀ H3,A5 H3 ⟨p,2,none⟩=some (.slice (some ⟨wb,wo,none⟩) (f1.wv.set a' (.slice ax6 ((nv (f1.w a')).length + 1) cx6)).length wc)->A5 H3 ⟨lb,lo + 1,none⟩=some (iv b')->A5 H3 ⟨wb,wo + b',none⟩=some wb'->Al hl7 H3:=by
    intro H3 q1 q2 q3;rw [hhl7];refine F6 fun ad had v hv=>?_;simp only [J7,Z6,Ya] at had;rcases had with rfl | rfl | rfl
    ·rw [q1,<- d27]; exact hv
    ·rw [q2,<- dl7]; exact hv
    ·rw [q3,<- dw7]; exact hv
   refine Fc (lk [fl 0,fl 1,fl 2,fl 3,fl 4,fl 5,fl 6,fl 7,fl 8,fl 9,fl 10,fl 11,fl 12,fl 13,fl 14,fl 15,tl 16] (.act 17 (.act 18 (lk [tl 19] (.actd 20 .fin)) .non) .non)) T.mixed hl7 hok7 ?_;simp (disch:=omega) only [go_sem,↓cB,z4,z5,l07,l17,l27,Z2];refine B9 (keep7 _ ((Fr.push (F:=[])).zg d27 (by simp)) ((Fr.push (F:=[])).zg dl7 (by simp)) ((Fr.push (F:=[])).zg dw7 (by simp))) ?_;simp (disch:=omega) only [go_sem,↓cB,z4,z5,l07,l17,l27,Z2];refine AK T.zk rfl vy7.vec rfl (by rw [Am]; omega) ?_;intro vv7 Hx7 g1 g2 g3 g4;obtain ⟨ax7,cx7,rfl⟩:=g4;obtain ⟨k1,k2,ow9,H9,w7,m9,e9⟩:=m8.th (x:=b') (l:=f1.w b' ++ [f1.es.length]) hwb9 ewt9 (by rw [CO]; exact g1) g2 g3;have ql7:A5 Hx7 ⟨lb,lo + 1,none⟩=some (iv b'):=g2.zg dl7 (by
    intro hh;have h1:ow8 lb=100 + 3 * b':=vy7.ow _ hh;have h2:ow8 lb=101 + 3 * f1.es.length:=(RK.lv m8 (c:=f1.es.length) hc7).ow lb (by simp [own]);omega)
   refine B9 (keep7 _ (k1 2 _ d27 (by rw [<- ewt9]; rfl)) ql7 k2) ?_;simp (disch:=omega) only [go_sem,↓cB,z4,z5,l07,l17,l27,Z2,w7];clear g1 g2 g3 k1 k2 hok7 hhl7 l07 l17  l27 keep7 d27 dl7 dw7 ql7;obtain ⟨wv9,hwv9⟩:∃ wv9,wv9=(f1.wv.set a' (.slice ax6 ((nv (f1.w a')).length + 1) cx6)).set b' (.slice ax7 ((nv (f1.w b')).length + 1) cx7):=⟨_,rfl⟩;have hwv9l:wv9.length=2 * m' + 2:=(by rw [hwv9]; simp; omega);have m9':RK H9 ow9 p (((f1.ent (.slice a2 (f1.es.length + 1) c2) (.slice (some ⟨lb,lo,none⟩) (y :: z :: r).length lc) (y :: z :: r)).kv kvs kl).wt f1.es.length (a' :: b' :: r') a' b' wv9):=(by rw [hwv9]; exact m9);have km9:=km1.att km6 ⟨hLi,hLn⟩ hwv9l;have e09:=((e6.trans e7).trans e8).trans e9;clear m9 m8 m7 m6 e6 e7 e8 e9 hwv9 vy6 vy7 hwb9 ewt9 hub;have c10:A5 H9 ⟨p,10,none⟩=some (.bool f1.stale):=m9'.c rfl;have c9:A5 H9 ⟨p,9,none⟩=some (.bool f1.bro):=m9'.c rfl;cases hs:f1.stale with
   | true =>
    rw [hs] at c10;simp (disch:=omega) only [go_sem,↓cB,c10];exact fin ⟨rfl,ow9,_,m',_,m9',km9,kt1.au km1 hs hp' ⟨hLi,hLn⟩,e09,hmm,hmx',hel⟩
   | false =>
    rw [hs] at c10;cases hb:f1.bro with
    | true =>
     rw [hb] at c9;simp (disch:=omega) only [go_sem,↓cB,c10,c9];exact fin ⟨rfl,ow9,_,m',_,m9',km9,kt1.az hb,e09,hmm,hmx',hel⟩
    | false =>
     rw [hb] at c9;obtain ⟨vb,vo,vc,ev⟩:=m9'.vv (x:=a') (by show a' < f1.vals.length; omega);have c3:A5 H9 ⟨p,3,none⟩=some (.slice (some ⟨vb,vo,none⟩) (2 * m' + 2) vc):=(by rw [<- hvl,<- ev]; exact m9'.c rfl);have cy:A5 H9 ⟨vb,vo + a',none⟩=some (.int .i8 ((Kx f1.tr f1.lits).val a')):=m9'.vw ev (km1.r.val (by omega));have cz:A5 H9 ⟨vb,vo + b',none⟩=some (.int .i8 ((Kx f1.tr f1.lits).val b')):=m9'.vw ev (km1.r.val (by omega));have ky:A5 H9 ⟨lb,lo + 0,none⟩=some (iv a'):=m9'.zp (c:=f1.es.length) hc7 (j:=0) (by show (upd (upd f1.lits f1.es.length (y :: z :: r)) f1.es.length (a' :: b' :: r') f1.es.length)[0]?=_; rw [A8]; rfl);have ky0:A5 H9 ⟨lb,lo,none⟩=some (iv a'):=ky;have kz:A5 H9 ⟨lb,lo + 1,none⟩=some (iv b'):=m9'.zp (c:=f1.es.length) hc7 (j:=1) (by show (upd (upd f1.lits f1.es.length (y :: z :: r)) f1.es.length (a' :: b' :: r') f1.es.length)[1]?=_; rw [A8]; rfl);have hin:=Dl (L:=f1.lits) km1.r.ok;have htri':(0<=(Kx f1.tr f1.lits).val a'/\0<=(Kx f1.tr f1.lits).val b')\/(0<=(Kx f1.tr f1.lits).val a'/\∀ q ∈ b' :: r',(Kx f1.tr f1.lits).val q < 0)\/∀ q ∈ a' :: b' :: r',(Kx f1.tr f1.lits).val q < 0:=htri;clear htri;simp (disch:=omega) only [go_sem,↓cB,c10,c9];rcases Wb ((Kx f1.tr f1.lits).val a') 0 with hv | hv | hv
     ·have hall:∀ q ∈ y :: z :: r,neg q ∈ f1.tr:=fun q hq=>by
       rcases htri' with h | h | h
       ·omega
       ·omega
       ·exact (BG hin).1 (h q (hp'.mem_iff.2 hq))
      obtain ⟨H10,w10,m10,e10⟩:=m9'.yx true
      refine As (lk [tl 0,tl 1,tl 2,tl 3,tl 4,tl 5,tl 6,tl 7,tl 8,tl 9,tl 10] .fin) T.mixed ?_
      simp (disch:=omega) only [go_sem,↓cB,z2,z3,z4,z5,c3,ky,ky0,cy,w10]
      exact fin ⟨rfl,ow9,_,m',_,m10,km9.bro,.broken hs rfl (kt1.dh hs hb hall),e09.trans e10,hmm,hmx',hel⟩
     ·obtain ⟨h1,h2⟩:=Cq.1 hv;rw [hv] at cy;by_cases hvb:(Kx f1.tr f1.lits).val b' < 0
      ·have hall:∀ q ∈ b' :: r',neg q ∈ f1.tr:=fun q hq=>by
        rcases htri' with h | h | h
        ·omega
        ·exact (BG hin).1 (h.2 q hq)
        ·have:=h a' (by simp); omega
       refine As (lk [tl 0,tl 1,tl 2,tl 3,tl 4,tl 5,tl 6,tl 7,tl 8,tl 9,tl 10] .fin) T.mixed ?_
       simp (disch:=omega) only [go_sem,↓cB,z2,z3,z4,z5,c3,ky,ky0,cy]
       refine As (lk [tl 0,tl 1,tl 2,tl 3,tl 4,tl 5,tl 6,tl 7,tl 8,tl 9,tl 10,tl 11,tl 12,tl 13,tl 14,tl 15,tl 16,tl 17,tl 18,tl 19,tl 20,tl 21,tl 22,tl 23,tl 24,tl 25,tl 26,tl 27] .fin) T.mixed ?_
       simp (disch:=omega) only [go_sem,↓cB,z2,z3,z4,z5,c3,ky,ky0,cy,kz,cz]
       refine A7 (E3 m9' (x:=a') (q:=(f1.es.length:Int)) (by show a' < f1.vals.length; omega) (by show neg a' < f1.vals.length; omega) (by show a' / 2 < f1.rs.length; omega) (by omega) (by have:=km1.r.ok.len; show f1.tr.length<=_; omega)) ?_
       rintro v H10 ⟨rfl,ow10,tv,m10,e10⟩
       have km10:=km9.push (q:=(f1.es.length:Int)) (tv:=tv) (hLi a' (by simp)) h1 h2
       obtain ⟨h4,Gw,hsi,hG⟩:=kt1.vt hs hb
       have s9:=(hsi.addF (JX km1) ⟨hLi,hLn⟩ h1 h2 hall).yu (Iy (g:=y :: z :: r) km1.ce)
       rw [<- h4] at s9
       simp (disch:=omega) only [go_sem,↓cB]
       refine A7 (Ei (G:=(a' :: b' :: r') :: Gw) (C:=f1.es.length :: C) m10 km10.r km10.ce s9 (by omega) (by simp; omega)) ?_
       rintro v H11 ⟨ow11,f11,m11,r11,e11,v11,hc11⟩
       obtain ⟨cb,rfl,w11,hk⟩:=KT.prop (Ga:=(y :: z :: r) :: G) v11 hs (fun T=>Kl hp' (hG T)) hc11
       have km11:=km10.vz r11 v11 w11
       obtain ⟨H12,w12,m12,e12⟩:=m11.yx (!cb)
       simp (disch:=omega) only [go_sem,↓cB,w12]
       exact fin ⟨rfl,ow11,_,m',_,m12,km11.bro,hk _ rfl,((e09.trans e10).trans e11).trans e12,hmm,hmx',by have:=v11.es; show f11.es.length=_; rw [this]; exact hel⟩
      ·refine As (lk [tl 0,tl 1,tl 2,tl 3,tl 4,tl 5,tl 6,tl 7,tl 8,tl 9,tl 10] .fin) T.mixed ?_;simp (disch:=omega) only [go_sem,↓cB,z2,z3,z4,z5,c3,ky,ky0,cy];refine As (lk [tl 0,tl 1,tl 2,tl 3,tl 4,tl 5,tl 6,tl 7,tl 8,tl 9,tl 10,tl 11,tl 12,tl 13,tl 14,tl 15,tl 16,tl 17,tl 18,tl 19,tl 20,tl 21,tl 22,tl 23,tl 24,tl 25,tl 26,tl 27] .fin) T.mixed ?_;simp (disch:=omega) only [go_sem,↓cB,z2,z3,z4,z5,c3,ky,ky0,cy,kz,cz];exact fin ⟨rfl,ow9,_,m',_,m9',km9,kt1.di km1 hs hb hp' ⟨hLi,hLn⟩ (fun e=>absurd ((BG hin).2 e) hvb) (fun e=>absurd e h2),e09,hmm,hmx',hel⟩
     ·have hat:=Cu.1 hv;refine As (lk [tl 0,tl 1,tl 2,tl 3,tl 4,tl 5,tl 6,tl 7,tl 8,tl 9,tl 10] .fin) T.mixed ?_;simp (disch:=omega) only [go_sem,↓cB,z2,z3,z4,z5,c3,ky,ky0,cy];refine As (lk [tl 0,tl 1,tl 2,tl 3,tl 4,tl 5,tl 6,tl 7,tl 8,tl 9,tl 10,tl 11,tl 12,tl 13,tl 14,tl 15,tl 16,tl 17,tl 18,tl 19,tl 20,tl 21,tl 22,tl 23,tl 24,tl 25,tl 26,tl 27] .fin) T.mixed ?_;simp (disch:=omega) only [go_sem,↓cB,z2,z3,z4,z5,c3,ky,ky0,cy];exact fin ⟨rfl,ow9,_,m',_,m9',km9,kt1.di km1 hs hb hp' ⟨hLi,hLn⟩ (fun _=>hat) (fun e=>(km1.r.ok.zr hat e).elim),e09,hmm,hmx',hel⟩
end
end Go.Proofs.YtkdlmdmlomgdiaaGreat
