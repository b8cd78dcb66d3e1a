/- The solver, plain: trails, levels, reasons; what a conflict teaches. -/
import Derived.Test.YtkdlmdmlomgdiaaGreatL03
set_option linter.unusedSimpArgs false
set_option linter.unusedVariables false
set_option maxRecDepth 10000
set_option maxHeartbeats 8000000
noncomputable section
namespace Go.Sat
def neg (x:Nat):Nat:=if x % 2=0 then x + 1 else x - 1
theorem Av (x:Nat):neg x / 2=x / 2:=by unfold neg; split <;> omega
theorem neg_neg (x:Nat):neg (neg x)=x:=by unfold neg; split <;> split <;> omega
theorem M4 (x:Nat):neg x ≠ x:=by unfold neg; split <;> omega
theorem O3 {x y:Nat} (h:x / 2=y / 2):x=y\/x=neg y:=by unfold neg; split <;> omega
theorem M5 {x y:Nat} (h:neg x=neg y):x=y:=by rw [<- neg_neg x,h,neg_neg]
def isC (n x:Nat):Prop:=2<=x/\x<=2 * n + 1
theorem C0 {n x:Nat} (h:isC n x):isC n (neg x):=by unfold isC neg at *; split <;> omega
structure TrOK (n:Nat) (tr:List Nat):Prop where
 code:∀ x ∈ tr,isC n x
 nodup:(tr.map (· / 2)).Nodup
theorem TrOK.idx {n:Nat} {tr:List Nat} (h:TrOK n tr) {i j:Nat} {x y:Nat} (hi:tr[i]?=some x) (hj:tr[j]?=some y) (hv:x / 2=y / 2):i=j:=by
 have h1:(tr.map (· / 2))[i]?=some (x / 2):=(by simp [hi]);have h2:(tr.map (· / 2))[j]?=some (x / 2):=(by simp [hj,hv]);obtain ⟨hl,e1⟩:=J3.1 h1;obtain ⟨hl2,e2⟩:=J3.1 h2;have hp:=Zz.1 h.nodup;rcases Zg i j with hlt | he | hlt
 ·exact absurd (e1.trans e2.symm) (hp i j hl hl2 hlt)
 ·exact he
 ·exact absurd (e2.trans e1.symm) (hp j i hl2 hl hlt)
theorem TrOK.zr {n:Nat} {tr:List Nat} (h:TrOK n tr) {x:Nat} (h1:x ∈ tr) (h2:neg x ∈ tr):False:=by
 obtain ⟨i,hi⟩:=Jc h1;obtain ⟨j,hj⟩:=Jc h2;have:=h.idx hi hj (by rw [Av]);subst this;rw [hi] at hj;exact M4 x (Jj hj).symm
theorem TrOK.len {n:Nat} {tr:List Nat} (h:TrOK n tr):tr.length<=n:=by
 have key:∀ (l:List Nat) (n:Nat),l.Nodup->(∀ x ∈ l,1<=x/\x<=n)->l.length<=n:=by
  intro l n;induction n generalizing l with
  | zero=>intro _ hx; cases l with | nil=>simp | cons a l=>have:=hx a (by simp); omega
  | succ n ih =>
   intro hd hx;by_cases hm:(n + 1) ∈ l
   ·have h1:=ih (l.erase (n + 1)) (hd.erase _) (by
     intro x hx';have hne:x ≠ n + 1:=fun e=>(by subst e; exact (List.Nodup.not_mem_erase hd) hx');have:=hx x (List.mem_of_mem_erase hx');omega)
    rw [We hm] at h1
    have:0 < l.length:=List.length_pos_of_mem hm
    omega
   ·have:=ih l hd (by
     intro x hx';have hne:x ≠ n + 1:=fun e=>(by subst e; exact hm hx');have:=hx x hx';omega)
    omega
 have:=key (tr.map (· / 2)) n h.nodup (by
  intro v hv;obtain ⟨x,hx,rfl⟩:=Ji.1 hv;have:=h.code x hx;unfold isC at this;omega)
 simpa using this
theorem TrOK.push {n:Nat} {tr:List Nat} (h:TrOK n tr) {x:Nat} (hx:isC n x) (h1:x ∉ tr) (h2:neg x ∉ tr):TrOK n (tr ++ [x]):=by
 refine ⟨fun y hy=>?_,?_⟩
 ·rcases Jh.1 hy with hy | hy
  ·exact h.code y hy
  ·have:=J6.1 hy; subst this; exact hx
 ·rw [Zf];refine Y8.2 ⟨h.nodup,by simp,?_⟩;intro a ha b hb e;simp only [Jz,V8,J6] at hb;obtain ⟨y,hy,rfl⟩:=Ji.1 ha;subst hb;rcases O3 e with rfl | rfl
  ·exact h1 hy
  ·exact h2 hy
theorem TrOK.take {n:Nat} {tr:List Nat} (h:TrOK n tr) (k:Nat):TrOK n (tr.take k) :=
 ⟨fun x hx=>h.code x (Yp hx),by rw [List.map_take]; exact h.nodup.sublist (List.take_sublist _ _)⟩
def lev (st:List Nat) (i:Nat):Nat:=st.countP (·<=i)
theorem JZ {st:List Nat} {i j:Nat} (h:i<=j):lev st i<=lev st j:=by
 unfold lev;exact List.countP_mono_left (fun x _ hx=>by simp at hx ⊢; omega)
theorem DP {st:List Nat} {i:Nat}:lev st i<=st.length:=Wn
theorem Dk {st:List Nat} (hs:st.Pairwise (·<=·)) {i k:Nat} (hk:k < st.length):k < lev st i↔st[k]<=i:=by
 induction st generalizing k with
 | nil=>simp at hk
 | cons a st ih =>
  have hs':=W6.1 hs;unfold lev;rw [Xv];cases k with
  | zero =>
   simp only [List.getElem_cons_zero];by_cases ha:a<=i
   ·simp [ha]
   ·have:st.countP (fun x=>decide (x<=i))=0:=by
     rw [W1];intro x hx h;have:=hs'.1 x hx;simp at h;omega
    simp [ha,this]
  | succ k =>
   simp only [List.getElem_cons_succ];have hk':k < st.length:=(by simpa using hk);have h1:=ih hs'.2 hk';unfold lev at h1;by_cases ha:a<=i
   ·simp only [ha,X5,Zr];omega
   ·have h2:¬ st[k]<=i:=(by have:=hs'.1 st[k] (Y0 hk'); omega);simp only [ha,V7,Z7,Z3,Zc];constructor
    ·intro h; exact absurd (h1.1 (by omega)) h2
    ·intro h; exact absurd h h2
theorem Dd {st:List Nat} (hs:st.Pairwise (·<=·)) {k i:Nat} (hk:k < st.length) (hi:i < st[k]):lev (st.take k) i=lev st i:=by
 have hd:(st.drop k).countP (fun x=>decide (x<=i))=0:=by
  rw [W1];intro x hx h;simp at h;obtain ⟨j,hj⟩:=Jc hx;rw [Y7] at hj;obtain ⟨hl,e⟩:=J3.1 hj;have hp:=Zz.1 hs;by_cases hj0:j=0
  ·subst hj0; simp at e; omega
  ·have:=hp k (k + j) hk hl (by omega); omega
 unfold lev;conv=>rhs; rw [<- Zn k st,Xb]
 omega
structure St where
 tr:List Nat
 st:List Nat
 rea:Nat->Option Nat
 lits:Nat->List Nat
def Fls (tr:List Nat) (i y:Nat):Prop:=∃ j,j < i/\tr[j]?=some (neg y)
structure Inv (n:Nat) (s:St):Prop where
 ok:TrOK n s.tr
 sorted:s.st.Pairwise (·<=·)
 bound:∀ k ∈ s.st,k<=s.tr.length
 why:∀ (i x c:Nat),s.tr[i]?=some x->s.rea (x / 2)=some c->∃ r,s.lits c=x :: r/\∀ y ∈ r,Fls s.tr i y
 dec:∀ (i x:Nat),s.tr[i]?=some x->s.rea (x / 2)=none->lev s.st i=0\/i ∈ s.st
def pos (tr:List Nat) (v:Nat):Nat:=tr.findIdx (fun x=>x / 2 == v)
theorem LP {n:Nat} {tr:List Nat} (h:TrOK n tr) {i x:Nat} (hi:tr[i]?=some x):pos tr (x / 2)=i:=by
 have hm:∃ y ∈ tr,(fun z=>z / 2 == x / 2) y=true:=⟨x,J2 hi,by simp⟩;have hlt:pos tr (x / 2) < tr.length:=List.findIdx_lt_length.2 hm;have hp:(fun z=>z / 2 == x / 2) tr[pos tr (x / 2)]=true:=List.findIdx_getElem (w:=hlt);exact (h.idx hi (J1 hlt) (by have:=hp; simp only [beq_iff_eq] at this; exact this.symm:x / 2=tr[pos tr (x / 2)] / 2)).symm
def St.lv (s:St) (v:Nat):Nat:=lev s.st (pos s.tr v)
structure An where
 seen:Nat->Bool
 opn:Nat
 r:List Nat
def up1 (f:Nat->Bool) (v:Nat) (b:Bool):Nat->Bool:=fun u=>if u=v then b else f u
def C8 (s:St) (here:Nat) (a:An) (x:Nat):An :=
 if a.seen (x / 2)=true\/s.lv (x / 2)=0 then a
 else if s.lv (x / 2)=here then ⟨up1 a.seen (x / 2) true,a.opn + 1,a.r⟩
 else ⟨up1 a.seen (x / 2) true,a.opn,a.r ++ [x]⟩
def BE (s:St) (here:Nat) (a:An) (l:List Nat):An:=l.foldl (C8 s here) a
def hit (s:St) (here:Nat) (a:An) (i:Nat):Bool:=decide (lev s.st i=here) && a.seen (s.tr.getD i 0 / 2)
def cnt (s:St) (here:Nat) (a:An) (at':Nat):Nat:=(List.range at').countP (hit s here a)
structure AnI (n:Nat) (s:St) (here at':Nat) (a:An):Prop where
 le:at'<=s.tr.length
 seen:∀ v,a.seen v=true->∃ i x,s.tr[i]?=some x/\x / 2=v/\1<=lev s.st i/\(lev s.st i=here/\i < at'\/lev s.st i < here/\neg x ∈ a.r)
 opn:a.opn=cnt s here a at'
 low:∀ x ∈ a.r,a.seen (x / 2)=true/\∃ i,s.tr[i]?=some (neg x)/\1<=lev s.st i/\lev s.st i < here
 nod:(a.r.map (· / 2)).Nodup
structure Mdl (m:Nat->Bool):Prop where
 neg:∀ x,m (neg x) = !m x
def ClT (T:Nat->Prop) (g:List Nat):Prop:=(∀ x ∈ g,(∀ y ∈ g,y ≠ x->T (neg y))->T x)/\¬ ∀ y ∈ g,T (neg y)
structure Clo (T:Nat->Prop) (G:List (List Nat)):Prop where
 con:∀ x,T x->¬ T (neg x)
 cl:∀ g ∈ G,ClT T g
theorem Clo.sub {T:Nat->Prop} {G G':List (List Nat)} (h:Clo T G) (hs:∀ g ∈ G',g ∈ G):Clo T G':=⟨h.con,fun g hg=>h.cl g (hs g hg)⟩
def Res (s:St) (here at':Nat) (a:An) (T:Nat->Prop):Prop:=(∃ x ∈ a.r,¬ T (neg x))\/∃ i x,i < at'/\s.tr[i]?=some x/\lev s.st i=here/\a.seen (x / 2)=true/\¬ T x
theorem YF {n:Nat} {s:St} {here at':Nat} {a:An} (hv:Inv n s) (hle:at'<=s.tr.length) {i x:Nat} (hi:s.tr[i]?=some x) (hat:i < at') (hl:lev s.st i=here) (hs:a.seen (x / 2)=false) {o:Nat} {r:List Nat} :
  cnt s here ⟨up1 a.seen (x / 2) true,o,r⟩ at'=cnt s here a at' + 1:=by
 have key:∀ k,(∀ j,j < k->j < s.tr.length)->cnt s here ⟨up1 a.seen (x / 2) true,o,r⟩ k=cnt s here a k + if i < k then 1 else 0:=by
  intro k;induction k with
  | zero=>intro _; simp [cnt]
  | succ k ih =>
   intro hk;have ihk:=ih fun j hj=>hk j (by omega);unfold cnt at ihk ⊢;rw [List.range_succ,Xb,Xb,ihk];simp only [Xv,List.countP_nil];have hkl:=hk k (by omega);have e:s.tr.getD k 0=s.tr[k]:=(by simp [List.getD,J1 hkl]);by_cases hik:i=k
   ·subst hik;have ex:s.tr[i]=x:=(by rw [J1 hkl] at hi; exact Jj hi);have h1:hit s here ⟨up1 a.seen (x / 2) true,o,r⟩ i=true:=(by unfold hit; rw [e]; simp [hl,ex,up1]);have h2:hit s here a i=false:=(by unfold hit; rw [e]; simp [ex,hs]);rw [h1,h2];simp
   ·have hne:s.tr[k] / 2 ≠ x / 2:=fun h=>hik (hv.ok.idx hi (J1 hkl) h.symm);have h1:hit s here ⟨up1 a.seen (x / 2) true,o,r⟩ k=hit s here a k:=(by unfold hit; rw [e]; simp [up1,hne]);rw [h1];by_cases h2:i < k
    ·have h3:i < k + 1:=(by omega);simp only [J8 h2,J8 h3]; omega
    ·have h3:¬ i < k + 1:=(by omega);simp only [J4 h2,J4 h3]; omega
 rw [key at' (fun j hj=>by omega),J8 hat]
theorem NK {n:Nat} {s:St} {here at':Nat} {a:An} (hv:Inv n s) (hle:at'<=s.tr.length) {v:Nat} {b:Bool} (h:∀ i x,i < at'->s.tr[i]?=some x->x / 2=v->lev s.st i ≠ here) {o:Nat} {r:List Nat} :
  cnt s here ⟨up1 a.seen v b,o,r⟩ at'=cnt s here a at':=by
 unfold cnt
 refine List.countP_congr fun i hi=>?_
 have hi:=Wr.1 hi
 have e:s.tr.getD i 0=s.tr[i]:=by simp [List.getD,J1 (show i < s.tr.length by omega)]
 unfold hit
 rw [e]
 by_cases hv':s.tr[i] / 2=v
 ·have:=h i s.tr[i] hi (J1 (by omega)) hv'
  simp [this]
 ·simp [up1,hv']
theorem RO {n:Nat} {s:St} {here at':Nat} {a:An} (hv:Inv n s) (h:AnI n s here at' a) {y:Nat} (hy:Fls s.tr at' y) (hle:∀ i,i < at'->lev s.st i<=here):AnI n s here at' (C8 s here a y):=by
 obtain ⟨i,hi,hx⟩:=hy;have hlv:s.lv (y / 2)=lev s.st i:=by
  unfold St.lv;rw [<- Av y,LP hv.ok hx]
 unfold C8;split
 ·exact h
 rename_i hc;simp only [V1,Wj] at hc;have h0:1<=lev s.st i:=(by have:=hc.2; omega);split
 ·rename_i hh;rw [hlv] at hh;refine ⟨h.le,fun v hs=>?_,?_,fun x hx'=>?_,h.nod⟩
  ·by_cases e:v=y / 2
   ·subst e;exact ⟨i,neg y,hx,Av y,h0,.inl ⟨hh,hi⟩⟩
   ·exact h.seen v (by simpa [up1,e] using hs)
  ·have hcu:=YF (x:=neg y) hv h.le hx hi hh (by rw [Av]; exact hc.1) (o:=a.opn + 1) (r:=a.r);rw [Av] at hcu;rw [hcu,h.opn]
  ·obtain ⟨h1,h2⟩:=h.low x hx';refine ⟨?_,h2⟩;show up1 a.seen (y / 2) true (x / 2)=true;unfold up1;split
   ·rfl
   ·exact h1
 ·rename_i hh;rw [hlv] at hh;have hlt:lev s.st i < here:=(by have:=hle i hi; omega);refine ⟨h.le,fun v hs=>?_,?_,fun x hx'=>?_,?_⟩
  ·by_cases e:v=y / 2
   ·subst e;exact ⟨i,neg y,hx,Av y,h0,.inr ⟨hlt,by rw [neg_neg]; simp⟩⟩
   ·obtain ⟨j,x,g1,g2,g3,g4⟩:=h.seen v (by simpa [up1,e] using hs);exact ⟨j,x,g1,g2,g3,g4.imp id fun ⟨q1,q2⟩=>⟨q1,by simp [q2]⟩⟩
  ·show a.opn=cnt s here ⟨up1 a.seen (y / 2) true,a.opn,a.r ++ [y]⟩ at';rw [NK hv h.le (fun j x hj hjx e=>?_),h.opn];have:=hv.ok.idx hx hjx (by rw [Av,e]);subst this;exact hh
  ·rcases Jh.1 hx' with hx' | hx'
   ·obtain ⟨h1,h2⟩:=h.low x hx';refine ⟨?_,h2⟩;show up1 a.seen (y / 2) true (x / 2)=true;unfold up1;split
    ·rfl
    ·exact h1
   ·have:=J6.1 hx';subst this;exact ⟨by show up1 _ _ _ _=true; simp [up1],i,hx,h0,hlt⟩
  ·rw [Zf];refine Y8.2 ⟨h.nod,by simp,?_⟩;intro u hu w hw e;simp only [Jz,V8,J6] at hw;obtain ⟨x,hx',rfl⟩:=Ji.1 hu;have:=(h.low x hx').1;rw [e,hw,hc.1] at this;cases this
theorem E6 {n:Nat} {s:St} {here at':Nat} (hv:Inv n s) (hle:∀ i,i < at'->lev s.st i<=here):∀ (l:List Nat) (a:An),AnI n s here at' a->(∀ y ∈ l,Fls s.tr at' y)->AnI n s here at' (BE s here a l)
 | [],a,h,_=>h
 | y :: l,a,h,hl=>E6 hv hle l _ (RO hv h (hl y (by simp)) hle) fun z hz=>hl z (by simp [hz])
def num (f:Nat->Bool):Nat->Nat
 | 0=>0
 | k + 1=>2 * num f k + (if f k then 1 else 0)
theorem RB (f:Nat->Bool):∀ V,num f V < 2 ^ V
 | 0=>by simp [num]
 | V + 1=>by
  have:=RB f V;simp only [num,Nat.pow_succ];split <;> omega
theorem JT {f g:Nat->Bool} (h:∀ i,f i=true->g i=true):∀ V,num f V<=num g V
 | 0=>by simp [num]
 | V + 1=>by
  have:=JT h V;simp only [num];by_cases hf:f V=true
  ·simp only [hf,h V hf,Zr]; omega
  ·simp only [hf,Z7,Z3]; split <;> omega
theorem Nb {f g:Nat->Bool}:∀ V,(∀ i,i < V->f i=g i)->num f V=num g V
 | 0,_=>by simp [num]
 | V + 1,h=>by simp only [num]; rw [Nb V fun i hi=>h i (by omega),h V (by omega)]
theorem RA {f g:Nat->Bool} {i:Nat} (hs:∀ j,j < i->f j=g j) (hf:f i=false) (hg:g i=true):∀ V,i < V->num f V < num g V
 | 0,h=>by omega
 | V + 1,h=>by
  by_cases e:i=V
  ·subst e;simp only [num];rw [Nb i hs,hf,hg];simp
  ·have:=RA hs hf hg V (by omega);simp only [num];split <;> split <;> omega
def bit (s:St) (i:Nat):Bool:=decide (i < s.tr.length) && !s.st.contains i
def St.N (n:Nat) (s:St):Nat:=num (bit s) n
theorem St.ml {n:Nat} (s:St):s.N n < 2 ^ n:=RB _ _
def St.push (s:St) (x:Nat) (w:Option Nat):St:={ s with tr:=s.tr ++ [x],rea:=fun v=>if v=x / 2 then w else s.rea v }
def St.zf (s:St):St:={ s with st:=s.st ++ [s.tr.length] }
def St.cut (s:St) (k f:Nat):St:={ s with tr:=s.tr.take f,st:=s.st.take k,rea:=fun v=>if v ∈ (s.tr.drop f).map (· / 2) then none else s.rea v }
theorem IK {n:Nat} {s:St} (h:Inv n s):lev s.st s.tr.length=s.st.length:=by
 unfold lev;rw [Wo];intro k hk;simpa using h.bound k hk
theorem D6 {tr:List Nat} {x:Nat} {i y:Nat} (h:(tr ++ [x])[i]?=some y):tr[i]?=some y/\i < tr.length\/i=tr.length/\y=x:=by
 rcases Zg i tr.length with hl | he | hl
 ·left; rw [Jg hl] at h; exact ⟨h,hl⟩
 ·right; subst he; simp at h; exact ⟨rfl,h.symm⟩
 ·rw [Jp (by simp; omega)] at h; simp at h
theorem CJ {tr:List Nat} {x:Nat} {i y:Nat} (h:tr[i]?=some y):(tr ++ [x])[i]?=some y:=by
 obtain ⟨hl,e⟩:=J3.1 h;rw [Jg hl]; exact h
theorem TrOK.ur {n:Nat} {tr:List Nat} {x y i:Nat} (h1:x ∉ tr) (h2:neg x ∉ tr) (h:tr[i]?=some y):y / 2 ≠ x / 2:=by
 intro e;have hm:=J2 h;rcases O3 e with rfl | rfl
 ·exact h1 hm
 ·exact h2 hm
theorem Inv.push {n:Nat} {s:St} (h:Inv n s) {x:Nat} {w:Option Nat} (hx:isC n x) (h1:x ∉ s.tr) (h2:neg x ∉ s.tr)
  (hw:∀ c,w=some c->∃ r,s.lits c=x :: r/\∀ y ∈ r,neg y ∈ s.tr) (hn:w=none->s.st = []\/s.tr.length ∈ s.st):Inv n (s.push x w):=by
 refine ⟨h.ok.push hx h1 h2,h.sorted,fun k hk=>?_,fun i y c hi hc=>?_,fun i y hi hc=>?_⟩
 ·have:=h.bound k hk; simp [St.push]; omega
 ·simp only [St.push] at hi hc ⊢
  rcases D6 hi with ⟨ho,hl⟩ | ⟨rfl,rfl⟩
  ·rw [J4 (TrOK.ur (n:=n) h1 h2 ho)] at hc
   obtain ⟨r,hr,hf⟩:=h.why i y c ho hc
   refine ⟨r,hr,fun z hz=>?_⟩
   obtain ⟨j,hj,hz⟩:=hf z hz
   exact ⟨j,hj,CJ hz⟩
  ·rw [J8 rfl] at hc
   obtain ⟨r,hr,hf⟩:=hw c hc
   refine ⟨r,hr,fun z hz=>?_⟩
   obtain ⟨j,hj⟩:=Jc (hf z hz)
   have:=(J3.1 hj).1
   exact ⟨j,this,CJ hj⟩
 ·simp only [St.push] at hi hc ⊢
  rcases D6 hi with ⟨ho,hl⟩ | ⟨rfl,rfl⟩
  ·rw [J4 (TrOK.ur (n:=n) h1 h2 ho)] at hc
   exact h.dec i y ho hc
  ·rw [J8 rfl] at hc
   rcases hn hc with he | he
   ·left; rw [he]; rfl
   ·exact .inr he
theorem Inv.zf {n:Nat} {s:St} (h:Inv n s):Inv n s.zf:=by
 refine ⟨h.ok,?_,fun k hk=>?_,h.why,fun i x hi hc=>?_⟩
 ·simp only [St.zf];refine Xg.2 ⟨h.sorted,by simp,?_⟩;intro a ha b hb;simp only [J6] at hb;subst hb;exact h.bound a ha
 ·simp only [St.zf] at hk ⊢;rcases Jh.1 hk with hk | hk
  ·exact h.bound k hk
  ·simp only [J6] at hk; omega
 ·simp only [St.zf] at hi ⊢;have hl:=(J3.1 hi).1;rcases h.dec i x hi hc with hd | hd
  ·left;unfold lev at hd ⊢;rw [Xb,hd];simp;omega
  ·right; simp [hd]
theorem Cg {tr:List Nat} {f i x:Nat} (h:(tr.take f)[i]?=some x):tr[i]?=some x/\i < f:=by
 have hl:=(J3.1 h).1;rw [Ze] at hl;rw [Yb (by omega)] at h;exact ⟨h,by omega⟩
theorem Inv.cut {n:Nat} {s:St} (h:Inv n s) {k:Nat} (hk:k < s.st.length):Inv n (s.cut k s.st[k]):=by
 have keep:∀ {i x:Nat},s.tr[i]?=some x->i < s.st[k]->(s.cut k s.st[k]).rea (x / 2)=s.rea (x / 2):=by
  intro i x hi hl;simp only [St.cut];refine J4 fun hm=>?_;obtain ⟨y,hy,e⟩:=Ji.1 hm;obtain ⟨j,hj⟩:=Jc hy;rw [Y7] at hj;have:=h.ok.idx hi hj e.symm;omega
 have hs:=h.sorted;refine ⟨h.ok.take _,hs.sublist (List.take_sublist _ _),fun j hj=>?_,fun i x c hi hc=>?_,fun i x hi hc=>?_⟩
 ·simp only [St.cut] at hj ⊢;obtain ⟨m,hm⟩:=Jc hj;obtain ⟨hm,hmk⟩:=Cg hm;obtain ⟨hml,e⟩:=J3.1 hm;have h1:=Zz.1 hs m k hml hk hmk;have h2:=h.bound s.st[k] (Y0 hk);rw [Ze];omega
 ·have hi':(s.tr.take s.st[k])[i]?=some x:=hi;obtain ⟨h1,h2⟩:=Cg hi';rw [keep h1 h2] at hc;obtain ⟨r,hr,hf⟩:=h.why i x c h1 hc;refine ⟨r,hr,fun z hz=>?_⟩;obtain ⟨j,hj,hz⟩:=hf z hz;exact ⟨j,hj,by simp only [St.cut]; rw [Yb (by omega)]; exact hz⟩
 ·have hi':(s.tr.take s.st[k])[i]?=some x:=hi;obtain ⟨h1,h2⟩:=Cg hi';rw [keep h1 h2] at hc;rcases h.dec i x h1 hc with hd | hd
  ·left;simp only [St.cut];rw [Dd hs hk h2]; exact hd
  ·right;simp only [St.cut];obtain ⟨m,hm⟩:=Jc hd;obtain ⟨hml,e⟩:=J3.1 hm;have hmk:m < k:=by
    apply Yu;intro hle;by_cases e2:k=m
    ·subst e2; omega
    ·have:=Zz.1 hs k m hk hml (by omega);omega
   exact J2 (i:=m) (by rw [Yb hmk]; exact hm)
theorem OV {n:Nat} {s:St} {x:Nat} {w:Option Nat}:s.N n<=(s.push x w).N n:=by
 refine JT (fun i h=>?_) n;simp only [bit,St.push,Jd,Jk,Jv,Zo] at h ⊢;exact ⟨by omega,h.2⟩
theorem OW {n:Nat} {s:St}:s.N n<=s.zf.N n:=by
 refine JT (fun i h=>?_) n;simp only [bit,St.zf,Jd,Jk,Zm,Ww,Zy] at h ⊢;refine ⟨Zx h.1,fun hm=>?_⟩;rcases Jh.1 hm with hm | hm
 ·exact h.2 hm
 ·simp only [J6] at hm; omega
theorem UH {n:Nat} {s:St} (h:Inv n s) {k:Nat} (hk:k < s.st.length) (hlt:s.st[k] < s.tr.length) (hne:∀ j,(hj:j < k)->s.st[j] < s.st[k]) {x:Nat} {w:Option Nat} :
  s.N n < ((s.cut k s.st[k]).push x w).N n:=by
 have hn:=h.ok.len
 refine RA (i:=s.st[k]) (fun j hj=>?_) ?_ ?_ n (by omega)
 ·have e:(s.st.take k).contains j=s.st.contains j:=by
   rw [Bool.eq_iff_iff];simp only [Ww,Jk];refine ⟨fun hm=>Yp hm,fun hm=>?_⟩;obtain ⟨m,hm⟩:=Jc hm;obtain ⟨hml,e⟩:=J3.1 hm;have hmk:m < k:=by
    apply Yu;intro hle;by_cases e2:k=m
    ·subst e2; omega
    ·have:=Zz.1 h.sorted k m hk hml (by omega);omega
   exact J2 (i:=m) (by rw [Yb hmk]; exact hm)
  simp only [bit,St.push,St.cut,e,Jv,Ze,Zo]
  congr 1
  rw [Xr]
  omega
 ·have:s.st.contains s.st[k]=true:=by simp
  simp [bit,this]
 ·have e:(s.st.take k).contains s.st[k]=false:=by
   rw [Bool.eq_false_iff];intro hm;simp only [Ww,Jk] at hm;obtain ⟨m,hm⟩:=Jc hm;obtain ⟨hm,hmk⟩:=Cg hm;obtain ⟨hml,e⟩:=J3.1 hm;have:=hne m hmk;omega
  simp only [bit,St.push,St.cut,e,Jv,Ze,Zo,Bool.not_false,Bool.and_true,Jk]
  omega
theorem WZ {st:List Nat} {i j:Nat} (hm:i ∈ st) (h:j < i):lev st j < lev st i:=by
 induction st with
 | nil=>simp at hm
 | cons a st ih =>
  have hmo:lev st j<=lev st i:=JZ (by omega);unfold lev at *;rw [Xv,Xv];rcases J7.1 hm with e | hm
  ·subst e;have h1:¬ i<=j:=(by omega);simp only [h1,V7,Z7,Z3,Jb,X5,Zr];omega
  ·have:=ih hm;by_cases h1:a<=j
   ·have h2:a<=i:=(by omega);simp only [h1,h2,X5,Zr]; omega
   ·simp only [h1,V7,Z7,Z3];split <;> omega
theorem GX {s:St} {here:Nat} {a:An} {k:Nat}:cnt s here a (k + 1)=cnt s here a k + if hit s here a k=true then 1 else 0:=by
 unfold cnt;rw [List.range_succ,Xb,Xv,List.countP_nil];omega
theorem Mk {s:St} {here:Nat} {a:An}:∀ k,0 < cnt s here a k->∃ j,j < k/\hit s here a j=true
 | 0,h=>by simp [cnt] at h
 | k + 1,h=>by
  rw [GX] at h;by_cases hh:hit s here a k=true
  ·exact ⟨k,by omega,hh⟩
  ·rw [J4 hh] at h;obtain ⟨j,hj,hx⟩:=Mk k (by omega);exact ⟨j,by omega,hx⟩
theorem Ml {s:St} {here:Nat} {a:An} {j:Nat} (hj:hit s here a j=true):∀ k,j < k->0 < cnt s here a k
 | 0,h=>by omega
 | k + 1,h=>by
  rw [GX];by_cases e:j=k
  ·subst e; rw [J8 hj]; omega
  ·have:=Ml hj k (by omega); omega
theorem Sl {s:St} {here:Nat} {a:An} {i:Nat}:∀ k,i<=k->(∀ j,i<=j->j < k->hit s here a j=false)->cnt s here a k=cnt s here a i
 | 0,h,_=>by
   have:i=0:=(by omega);subst this; rfl
 | k + 1,h,hn=>by
  by_cases e:i=k + 1
  ·subst e; rfl
  ·rw [GX,Sl k (by omega) (fun j h1 h2=>hn j h1 (by omega)),J4 (by rw [hn k (by omega) (by omega)]; simp)];omega
theorem Pm {p:Nat->Prop} [DecidablePred p]:∀ k,(∃ j,j < k/\p j)->∃ i,i < k/\p i/\∀ j,i < j->j < k->¬ p j
 | 0,⟨j,h,_⟩=>by omega
 | k + 1,⟨j,h,hp⟩=>by
  by_cases hk:p k
  ·exact ⟨k,by omega,hk,fun m h1 h2=>by omega⟩
  ·have hj:j ≠ k:=fun e=>hk (e ▸ hp);obtain ⟨i,h1,h2,h3⟩:=Pm k ⟨j,by omega,hp⟩;refine ⟨i,by omega,h2,fun m hm1 hm2=>?_⟩;by_cases e:m=k
   ·subst e; exact hk
   ·exact h3 m hm1 (by omega)
def An.pop (a:An) (v:Nat):An:=⟨up1 a.seen v false,a.opn - 1,a.r⟩
theorem RF {n:Nat} {s:St} {here at':Nat} {a:An} (hv:Inv n s) (h:AnI n s here at' a) (ho:0 < a.opn) (hle:∀ i,i < at'->lev s.st i<=here) :
  ∃ i x,i < at'/\s.tr[i]?=some x/\a.seen (x / 2)=true/\lev s.st i=here/\(∀ j y,i < j->j < at'->s.tr[j]?=some y->a.seen (y / 2)=false)/\AnI n s here i (a.pop (x / 2)):=by
 have hl:=h.le
 have gd:∀ {j:Nat},j < s.tr.length->s.tr.getD j 0=s.tr[j]!:=fun {j} hj=>by simp [List.getD,J1 hj,getElem!_pos s.tr j hj]
 obtain ⟨j0,hj0,hh0⟩:=Mk at' (h.opn ▸ ho)
 simp only [hit,Jd,Jk] at hh0
 obtain ⟨i,hi,hp,hb⟩:=Pm (p:=fun j=>a.seen (s.tr.getD j 0 / 2)=true) at' ⟨j0,hj0,hh0.2⟩
 have hil:i < s.tr.length:=by omega
 have hx:s.tr[i]?=some (s.tr.getD i 0):=by simp [List.getD,J1 hil]
 have hji:j0<=i:=by
  apply Vc;intro hlt;exact hb j0 hlt hj0 hh0.2
 have hlev:lev s.st i=here:=by
  have h1:=JZ (st:=s.st) hji;have h2:=hle i hi;omega
 have hbe:∀ j y,i < j->j < at'->s.tr[j]?=some y->a.seen (y / 2)=false:=by
  intro j y h1 h2 hy;have:=hb j h1 h2;rw [List.getD,hy] at this;simpa using this
 refine ⟨i,_,hi,hx,hp,hlev,hbe,by omega,fun v hs=>?_,?_,fun z hz=>?_,h.nod⟩
 ·simp only [An.pop,up1] at hs
  by_cases e:v=s.tr.getD i 0 / 2
  ·rw [J8 e] at hs; simp at hs
  ·rw [J4 e] at hs
   obtain ⟨j,y,hy,hyv,h1,h2⟩:=h.seen v hs
   refine ⟨j,y,hy,hyv,h1,?_⟩
   rcases h2 with ⟨h2,h3⟩ | h2
   ·left
    refine ⟨h2,?_⟩
    rcases Zg j i with hlt | he | hlt
    ·exact hlt
    ·subst he
     rw [hx] at hy
     exact absurd (by rw [<- hyv,<- Jj hy]) e
    ·have:=hbe j y hlt h3 hy
     rw [hyv,hs] at this
     simp at this
   ·exact .inr h2
 ·have e1:cnt s here a at'=cnt s here a (i + 1):=by
   refine Sl at' (by omega) fun j h1 h2=>?_;have:=hb j (by omega) h2;simp only [hit];rw [Bool.eq_false_iff.2 this];simp
  have e2:hit s here a i=true:=by simp only [hit,hlev,X5,hp,Bool.and_true]
  rw [GX,J8 e2] at e1
  have e3:=NK (here:=here) (at':=i) (a:=a) (v:=s.tr.getD i 0 / 2) (b:=false) (o:=a.opn - 1) (r:=a.r) hv (by omega) fun j y hj hy e=>by
   have:=hv.ok.idx hy hx e;omega
  have:=h.opn
  show a.opn - 1=cnt s here ⟨up1 a.seen (s.tr.getD i 0 / 2) false,a.opn - 1,a.r⟩ i
  omega
 ·obtain ⟨h1,j,h2,h3,h4⟩:=h.low z hz
  refine ⟨?_,j,h2,h3,h4⟩
  simp only [An.pop,up1]
  rw [J4]
  ·exact h1
  ·intro e
   have:=hv.ok.idx h2 hx (by rw [Av]; exact e)
   subst this
   omega
theorem U5 {n:Nat} {s:St} {here i x:Nat} {a:An} (hv:Inv n s) (h1:1<=here) (hx:s.tr[i]?=some x) (hlev:lev s.st i=here) (h:AnI n s here i a) (ho:0 < a.opn) :
  ∃ c r,s.rea (x / 2)=some c/\s.lits c=x :: r/\∀ y ∈ r,Fls s.tr i y:=by
 cases hc:s.rea (x / 2) with
 | some c =>
  obtain ⟨r,hr,hf⟩:=hv.why i x c hx hc;exact ⟨c,r,rfl,hr,hf⟩
 | none =>
  exfalso;rcases hv.dec i x hx hc with hd | hd
  ·omega
  ·obtain ⟨j,hj,hh⟩:=Mk i (h.opn ▸ ho);simp only [hit,Jd,Jk] at hh;have:=WZ hd hj;omega
theorem P1 {f:Nat->Bool} {u v:Nat} {a b:Bool} (h:u ≠ v):up1 (up1 f u a) v b=up1 (up1 f v b) u a:=by
 funext w;unfold up1;by_cases h1:w=v
 ·subst h1;rw [J8 rfl,J4 (fun e=>h e.symm),J8 rfl]
 ·rw [J4 h1];by_cases h2:w=u
  ·rw [J8 h2,J8 h2]
  ·rw [J4 h2,J4 h2,J4 h1]
def An.un (a:An) (v:Nat):An:=⟨up1 a.seen v false,a.opn,a.r⟩
theorem RN {s:St} {here:Nat} {a:An} {y v:Nat} (h:y / 2 ≠ v):C8 s here (a.un v) y=(C8 s here a y).un v:=by
 have e:(a.un v).seen (y / 2)=a.seen (y / 2):=(by simp [An.un,up1,h]);unfold C8;rw [e];split
 ·rfl
 ·split
  ·simp only [An.un,P1 h]
  ·simp only [An.un,P1 h]
theorem Ng {s:St} {here:Nat} {v:Nat}:∀ (l:List Nat) (a:An),(∀ y ∈ l,y / 2 ≠ v)->BE s here (a.un v) l=(BE s here a l).un v
 | [],a,_=>rfl
 | y :: l,a,h=>by
  show BE s here (C8 s here (a.un v) y) l=_;rw [RN (h y (by simp)),Ng l _ fun z hz=>h z (by simp [hz])];rfl
theorem MK {n:Nat} {s:St} {here i x:Nat} {a:An} (hv:Inv n s) (hx:s.tr[i]?=some x) (hlev:lev s.st i=here) (hs:a.seen (x / 2)=true) (h:AnI n s here i (a.pop (x / 2))) (ho:a.opn - 1=0) (v:Nat) :
  a.seen v=true↔v ∈ ((neg x :: a.r).map (· / 2)):=by
 simp only [Jz,J7,Av]
 constructor
 ·intro hv'
  by_cases e:v=x / 2
  ·exact .inl e
  ·right
   obtain ⟨j,y,hy,hyv,h1,h2⟩:=h.seen v (by simp only [An.pop,up1]; rw [J4 e]; exact hv')
   rcases h2 with ⟨h2,h3⟩ | ⟨h2,h3⟩
   ·exfalso
    have hjl:=(J3.1 hy).1
    have hh:hit s here (a.pop (x / 2)) j=true:=by
     have e2:s.tr.getD j 0=y:=(by simp [List.getD,hy]);simp only [hit,h2,X5,Wf,e2,An.pop,up1,hyv];rw [J4 e]; exact hv'
    have:=Ml hh i h3
    have h5:=h.opn
    simp only [An.pop] at h5 this
    omega
   ·rw [<- hyv,<- Av y]
    exact Xi (f:=(· / 2)) h3
 ·rintro (rfl | hm)
  ·exact hs
  ·obtain ⟨z,hz,rfl⟩:=Ji.1 hm
   have:=(h.low z hz).1
   simp only [An.pop,up1] at this
   split at this
   ·simp at this
   ·exact this
def An.zero:An:=⟨fun _=>false,0,[]⟩
theorem AnI.zero {n:Nat} {s:St} {here:Nat}:AnI n s here s.tr.length An.zero:=by
 refine ⟨Jb _,fun v h=>by simp [An.zero] at h,?_,fun x h=>by simp [An.zero] at h,by simp [An.zero]⟩;symm;simp only [An.zero,cnt];rw [W1];intro i _;simp [hit]
theorem Nh {s:St} {here:Nat} {a:An} {y v:Nat} (h:a.seen v=true):(C8 s here a y).seen v=true:=by
 unfold C8;split
 ·exact h
 ·split <;> simp only [up1] <;> split <;> first | rfl | exact h
theorem Oz {s:St} {here:Nat} {a:An} {y:Nat} (h:s.lv (y / 2) ≠ 0):(C8 s here a y).seen (y / 2)=true:=by
 unfold C8;split
 ·rename_i hc;rcases hc with hc | hc
  ·exact hc
  ·exact absurd hc h
 ·split <;> simp [up1]
theorem EZ {s:St} {here:Nat} {v:Nat}:∀ (l:List Nat) (a:An),a.seen v=true->(BE s here a l).seen v=true
 | [],_,h=>h
 | _ :: l,_,h=>EZ l _ (Nh h)
theorem Ep {s:St} {here:Nat} {y:Nat} (h:s.lv (y / 2) ≠ 0):∀ (l:List Nat) (a:An),y ∈ l->(BE s here a l).seen (y / 2)=true
 | [],_,hm=>by simp at hm
 | z :: l,a,hm=>by
  rcases J7.1 hm with e | hm
  ·subst e;exact EZ l _ (Oz h)
  ·exact Ep h l _ hm
theorem Ru {n:Nat} {s:St} {here:Nat} (hv:Inv n s) (h1:1<=here) {l:List Nat} (hl:∀ y ∈ l,Fls s.tr s.tr.length y) (hle:∀ i,i < s.tr.length->lev s.st i<=here) {y i:Nat} (hy:y ∈ l) (hi:s.tr[i]?=some (neg y)) (hlev:lev s.st i=here) :
  0 < (BE s here An.zero l).opn:=by
 have ha:=E6 hv hle l _ (AnI.zero (n:=n)) hl
 have hil:=(J3.1 hi).1
 have hlv:s.lv (y / 2) ≠ 0:=by
  unfold St.lv;rw [<- Av y,LP hv.ok hi];omega
 have hs:=Ep (here:=here) hlv l An.zero hy
 rw [ha.opn]
 refine Ml (j:=i) ?_ _ hil
 have e2:s.tr.getD i 0=neg y:=by simp [List.getD,hi]
 simp only [hit,hlev,X5,Wf,e2,Av]
 exact hs
theorem Inv.lits {n:Nat} {s:St} (h:Inv n s) {L:Nat->List Nat} (hL:∀ (i x c:Nat),s.tr[i]?=some x->s.rea (x / 2)=some c->L c=s.lits c):Inv n { s with lits:=L } :=
 ⟨h.ok,h.sorted,h.bound,fun i x c hi hc=>by
  obtain ⟨r,hr,hf⟩:=h.why i x c hi hc;exact ⟨r,by rw [<- hr]; exact hL i x c hi hc,hf⟩,h.dec⟩
structure Lrn (n:Nat) (s:St) (x:Nat) (r:List Nat) (to:Nat):Prop where
 at':∃ i,s.tr[i]?=some x/\lev s.st i=s.st.length
 low:∀ y ∈ r,∃ j,s.tr[j]?=some (neg y)/\1<=lev s.st j/\lev s.st j<=to
 top:to=0\/∃ y ∈ r,∃ j,s.tr[j]?=some (neg y)/\lev s.st j=to
 lt:to < s.st.length
theorem Nk {n:Nat} {s:St} {x:Nat} {r:List Nat} {to:Nat} (hv:Inv n s) (h:Lrn n s x r to) {w:Option Nat}
  (hw:∀ c,w=some c->s.lits c=neg x :: r) (hn:w=none->r = []) :
  Inv n ((s.cut to (s.st[to]'h.lt)).push (neg x) w)/\s.N n < ((s.cut to (s.st[to]'h.lt)).push (neg x) w).N n/\neg x ∉ (s.cut to (s.st[to]'h.lt)).tr/\x ∉ (s.cut to (s.st[to]'h.lt)).tr/\∀ y ∈ r,neg y ∈ (s.cut to (s.st[to]'h.lt)).tr:=by
 have hlt:=h.lt
 obtain ⟨i,hi,hlev⟩:=h.at'
 have hil:=(J3.1 hi).1
 have hge:s.st[to]<=i:=(Dk hv.sorted hlt).1 (by omega)
 have n1:x ∉ s.tr.take s.st[to]:=by
  intro hm;obtain ⟨j,hj⟩:=Jc hm;obtain ⟨hj,hjl⟩:=Cg hj;have:=hv.ok.idx hi hj rfl;omega
 have n2:neg x ∉ s.tr.take s.st[to]:=by
  intro hm;obtain ⟨j,hj⟩:=Jc hm;obtain ⟨hj,hjl⟩:=Cg hj;have:=hv.ok.idx hi hj (by rw [Av]);omega
 have n3:∀ y ∈ r,neg y ∈ s.tr.take s.st[to]:=by
  intro y hy;obtain ⟨j,hj,h1,h2⟩:=h.low y hy;have hjl:j < s.st[to]:=by
   apply Yu;intro hle;have:=(Dk hv.sorted hlt).2 hle;omega
  exact J2 (i:=j) (by rw [Yb hjl]; exact hj)
 refine ⟨(hv.cut hlt).push ?_ n2 (by rw [neg_neg]; exact n1) (fun c hc=>⟨r,hw c hc,n3⟩) (fun hc=>?_),UH hv hlt (by omega) (fun j hj=>?_),n2,n1,n3⟩
 ·exact C0 (hv.ok.code x (J2 hi))
 ·left
  have he:=hn hc
  rcases h.top with ht | ⟨y,hy,_⟩
  ·simp only [St.cut]; rw [ht]; rfl
  ·rw [he] at hy; simp at hy
 ·rcases h.top with ht | ⟨y,hy,p,hp,hpl⟩
  ·omega
  ·have h1:=(Dk hv.sorted (i:=p) (k:=j) (by omega)).1 (by omega)
   have h2:p < s.st[to]:=by
    apply Yu;intro hle;have:=(Dk hv.sorted hlt).2 hle;omega
   omega
theorem WV {n:Nat} {s:St} {i x:Nat} {a:An} {r:List Nat} {to:Nat} (h0:1<=s.st.length) (hx:s.tr[i]?=some x) (hlev:lev s.st i=s.st.length) (h:AnI n s s.st.length i a) (hr:∀ y ∈ r,y ∈ a.r)
  (hto:∀ y ∈ r,s.lv (y / 2)<=to) (htop:to=0\/∃ y ∈ r,s.lv (y / 2)=to) (hv:Inv n s):Lrn n s x r to:=by
 have lvl:∀ {y j:Nat},s.tr[j]?=some (neg y)->s.lv (y / 2)=lev s.st j:=by
  intro y j hj;unfold St.lv;rw [<- Av y,LP hv.ok hj]
 refine ⟨⟨i,hx,hlev⟩,fun y hy=>?_,?_,?_⟩
 ·obtain ⟨_,j,hj,h1,h2⟩:=h.low y (hr y hy)
  have:=hto y hy
  rw [lvl hj] at this
  exact ⟨j,hj,h1,this⟩
 ·rcases htop with h1 | ⟨y,hy,h1⟩
  ·exact .inl h1
  ·obtain ⟨_,j,hj,_⟩:=h.low y (hr y hy)
   exact .inr ⟨y,hy,j,hj,by rw [<- lvl hj]; exact h1⟩
 ·rcases htop with h1 | ⟨y,hy,h1⟩
  ·omega
  ·obtain ⟨_,j,hj,_,h2⟩:=h.low y (hr y hy)
   rw [lvl hj] at h1
   omega
structure Holds (s:St) (T:Nat->Prop):Prop where
 con:∀ x,T x->¬ T (neg x)
 why:∀ (i x c:Nat),s.tr[i]?=some x->s.rea (x / 2)=some c->ClT T (s.lits c)
 zero:∀ i x,s.tr[i]?=some x->lev s.st i=0->T x
theorem Tw {T:Nat->Prop} {l:List Nat} (h:¬ ∀ y ∈ l,T (neg y)):∃ y ∈ l,¬ T (neg y):=Xh fun hn=>h fun y hy=>Xh fun e=>hn ⟨y,hy,e⟩
theorem JV {T:Nat->Prop} {x:Nat} {r:List Nat} (h:ClT T (x :: r)) (hx:¬ T x):∃ y ∈ r,¬ T (neg y):=Xh fun hn=>hx (h.1 x (by simp) fun y hy hne=>Xh fun e=>hn ⟨y,(J7.1 hy).resolve_left hne,e⟩)
theorem R9 {n:Nat} {s:St} {here at':Nat} {a:An} {T:Nat->Prop} (hv:Inv n s) (h:AnI n s here at' a) {y j:Nat} (hs:a.seen (y / 2)=true) (hj:s.tr[j]?=some (neg y)) (hy:¬ T (neg y)):Res s here at' a T:=by
 obtain ⟨i,x,hx,hxv,h1,h2⟩:=h.seen _ hs;have e:i=j:=hv.ok.idx hx hj (by rw [Av]; exact hxv);subst e;have e:x=neg y:=Jj (hx.symm.trans hj);subst e;rcases h2 with ⟨h2,h3⟩ | ⟨_,h3⟩
 ·exact .inr ⟨i,neg y,h3,hj,h2,by rw [Av]; exact hs,hy⟩
 ·rw [neg_neg] at h3;exact .inl ⟨y,h3,hy⟩
theorem TO {s:St} {here:Nat} {a:An} {y z:Nat} (h:z ∈ a.r):z ∈ (C8 s here a y).r:=by
 unfold C8;split
 ·exact h
 ·split
  ·exact h
  ·simp [h]
theorem Pf {s:St} {here z:Nat}:∀ (l:List Nat) (a:An),z ∈ a.r->z ∈ (BE s here a l).r
 | [],_,h=>h
 | _ :: l,_,h=>Pf l _ (TO h)
theorem F1 {n:Nat} {s:St} (hv:Inv n s) {y j:Nat} (hj:s.tr[j]?=some (neg y)):s.lv (y / 2)=lev s.st j:=by
 unfold St.lv;rw [<- Av y,LP hv.ok hj]
theorem Q6 {n:Nat} {s:St} {here:Nat} {T:Nat->Prop} (hv:Inv n s) (hm:Holds s T) {l:List Nat} (hl:∀ y ∈ l,Fls s.tr s.tr.length y) (hle:∀ i,i < s.tr.length->lev s.st i<=here) (hs:¬ ∀ y ∈ l,T (neg y)) :
  Res s here s.tr.length (BE s here An.zero l) T:=by
 obtain ⟨y,hy,hmy⟩:=Tw hs
 obtain ⟨j,hj,hx⟩:=hl y hy
 have ha:=E6 hv hle l _ (AnI.zero (n:=n)) hl
 refine R9 hv ha (Ep ?_ l _ hy) hx hmy
 rw [F1 hv hx]
 exact fun h0=>hmy (hm.zero j _ hx h0)
theorem R8 {n:Nat} {s:St} {here at' i x c:Nat} {a:An} {r:List Nat} {T:Nat->Prop} (hv:Inv n s) (hm:Holds s T) (hle:∀ i,i < at'->lev s.st i<=here) (hi:i < at') (hx:s.tr[i]?=some x)
  (hb:∀ j y,i < j->j < at'->s.tr[j]?=some y->a.seen (y / 2)=false) (h:AnI n s here i (a.pop (x / 2))) (hc:s.rea (x / 2)=some c) (hl:s.lits c=x :: r) (hf:∀ y ∈ r,Fls s.tr i y) (hr:Res s here at' a T) :
  Res s here i (BE s here (a.pop (x / 2)) r) T:=by
 have ha:=E6 hv (fun j hj=>hle j (by omega)) r _ h hf
 rcases hr with ⟨y,hy,hmy⟩ | ⟨j,y,hj,hjy,hlv,hs,hmy⟩
 ·exact .inl ⟨y,Pf r _ hy,hmy⟩
 ·rcases Zg j i with hlt | he | hlt
  ·right
   refine ⟨j,y,hlt,hjy,hlv,EZ r _ ?_,hmy⟩
   simp only [An.pop,up1]
   rw [J4]
   ·exact hs
   ·intro e
    have:=hv.ok.idx hjy hx e
    omega
  ·subst he
   have e:x=y:=Jj (hx.symm.trans hjy)
   subst e
   have hw:=hm.why j x c hx hc
   rw [hl] at hw
   obtain ⟨z,hz,hmz⟩:=JV hw hmy
   obtain ⟨k,hk,hkz⟩:=hf z hz
   refine R9 hv ha (Ep ?_ r _ hz) hkz hmz
   rw [F1 hv hkz]
   exact fun h0=>hmz (hm.zero k _ hkz h0)
  ·have:=hb j y hlt hj hjy
   rw [hs] at this
   simp at this
theorem Th {n:Nat} {s:St} {here at' i x:Nat} {a:An} {T:Nat->Prop} (hv:Inv n s) (hx:s.tr[i]?=some x)
  (hb:∀ j y,i < j->j < at'->s.tr[j]?=some y->a.seen (y / 2)=false) (h:AnI n s here i (a.pop (x / 2))) (ho:a.opn - 1=0) (hr:Res s here at' a T):∃ y ∈ neg x :: a.r,¬ T (neg y):=by
 rcases hr with ⟨y,hy,hmy⟩ | ⟨j,y,hj,hjy,hlv,hs,hmy⟩
 ·exact ⟨y,by simp [hy],hmy⟩
 ·rcases Zg j i with hlt | he | hlt
  ·exfalso
   have e2:s.tr.getD j 0=y:=by simp [List.getD,hjy]
   have hne:y / 2 ≠ x / 2:=fun e=>by have:=hv.ok.idx hjy hx e; omega
   have hh:hit s here (a.pop (x / 2)) j=true:=by
    simp only [hit,hlv,X5,Wf,e2,An.pop,up1];rw [J4 hne]; exact hs
   have:=Ml hh i hlt
   have h5:=h.opn
   simp only [An.pop] at h5 this
   omega
  ·subst he
   have e:x=y:=Jj (hx.symm.trans hjy)
   subst e
   exact ⟨neg x,by simp,by rw [neg_neg]; exact hmy⟩
  ·have:=hb j y hlt hj hjy
   rw [hs] at this
   simp at this
theorem R3 {n:Nat} {s:St} {i x:Nat} {a:An} {r:List Nat} {T:Nat->Prop} (hv:Inv n s) (hm:Holds s T) (hx:s.tr[i]?=some x) (hlev:lev s.st i=s.st.length) (h:AnI n s s.st.length i (a.pop (x / 2)))
  (hs:∀ v,a.seen v=true↔v ∈ ((neg x :: a.r).map (· / 2)))
  (hr:∀ z ∈ a.r,z ∈ r\/∃ c,s.rea (z / 2)=some c/\∀ y ∈ (s.lits c).tail,a.seen (y / 2)=true\/s.lv (y / 2)=0) (h0:∃ y ∈ neg x :: a.r,¬ T (neg y)):∃ y ∈ neg x :: r,¬ T (neg y):=by
 obtain ⟨y,hy,hmy⟩:=h0
 rcases J7.1 hy with e | hy
 ·exact ⟨y,by simp [e],hmy⟩
 have key:∀ (j:Nat) (y:Nat),y ∈ a.r->s.tr[j]?=some (neg y)->¬ T (neg y)->∃ y ∈ neg x :: r,¬ T (neg y):=by
  intro j;induction j using Nat.strongRecOn with
  | ind j ih =>
   intro y hy hj hmy;rcases hr y hy with h1 | ⟨c,hc,hall⟩
   ·exact ⟨y,by simp [h1],hmy⟩
   ·have hc':s.rea (neg y / 2)=some c:=(by rw [Av]; exact hc);obtain ⟨t,ht,hf⟩:=hv.why j (neg y) c hj hc';have hw:=hm.why j (neg y) c hj hc';rw [ht] at hw hall;obtain ⟨z,hz,hmz⟩:=JV hw hmy;obtain ⟨k,hk,hkz⟩:=hf z hz;have hlz:lev s.st k ≠ 0:=fun h0=>hmz (hm.zero k _ hkz h0);have hsz:a.seen (z / 2)=true:=by
     rcases hall z (by simpa using hz) with h1 | h1
     ·exact h1
     ·rw [F1 hv hkz] at h1; exact absurd h1 hlz
    obtain ⟨_,p,hp,_,hpl⟩:=h.low y hy;have ep:=hv.ok.idx hp hj rfl;subst ep;have hm1:=(hs _).1 hsz;simp only [Jz,J7,Av] at hm1;rcases hm1 with e | hm1
    ·have:=hv.ok.idx hkz hx (by rw [Av]; exact e);subst this;have:=JZ (st:=s.st) (Nat.le_of_lt hk);omega
    ·obtain ⟨w,hw,hwz⟩:=Ji.1 hm1;obtain ⟨_,q,hq,_⟩:=h.low w hw;have e:=hv.ok.idx hq hkz (by rw [Av,Av]; exact hwz);subst e;have e:w=z:=M5 (Jj (hq.symm.trans hkz));subst e;exact ih q hk w hw hkz hmz
 obtain ⟨_,j,hj,_⟩:=h.low y hy
 exact key j y hy hj hmy
def sw (l:List Nat) (i j:Nat):List Nat:=(l.set i (l.getD j 0)).set j (l.getD i 0)
theorem Vv {l:List Nat} {i j:Nat}:(sw l i j).length=l.length:=by simp [sw]
theorem Gy {l:List Nat} {i j:Nat} (hi:i < l.length) (hj:j < l.length):(sw l i j).Perm l:=by
 have h:=Array.swap_perm (xs:=l.toArray) (i:=i) (j:=j) (by simpa using hi) (by simpa using hj);have h2:=Array.perm_iff_toList_perm.1 h;rw [Array.toList_swap] at h2;simpa [sw,List.getD,J1 hi,J1 hj] using h2
theorem Vx {a b:Nat} {r:List Nat} {j:Nat}:sw (a :: b :: r) 1 (j + 2)=a :: r.getD j 0 :: r.set j b:=by simp [sw]
def upd {α:Type} (L:Nat->α) (c:Nat) (l:α):Nat->α:=fun q=>if q=c then l else L q
theorem A8 {α:Type} {L:Nat->α} {c:Nat} {l:α}:upd L c l c=l:=by simp [upd]
theorem Af {α:Type} {L:Nat->α} {c q:Nat} {l:α} (h:q ≠ c):upd L c l q=L q:=by simp [upd,h]
structure WI (n:Nat) (s:St) (C:List Nat) (w:Nat->List Nat):Prop where
 cl:∀ c ∈ C,2<=(s.lits c).length/\(∀ y ∈ s.lits c,isC n y)/\((s.lits c).map (· / 2)).Nodup
 w1:∀ y c,c ∈ w y->c ∈ C/\y ∈ (s.lits c).take 2
 nd:∀ y,(w y).Nodup
 w3:∀ c ∈ C,∀ y ∈ (s.lits c).take 2,c ∈ w y
 rs:∀ (i x c:Nat),s.tr[i]?=some x->s.rea (x / 2)=some c->c ∈ C
def St.lit (s:St) (c:Nat) (l:List Nat):St:={ s with lits:=upd s.lits c l }
theorem WI.lit {n:Nat} {s:St} {C:List Nat} {w w':Nat->List Nat} (h:WI n s C w) {c:Nat} (hc:c ∈ C) {l:List Nat} (hp:l.Perm (s.lits c))
  (hw:∀ q y,q ≠ c->(q ∈ w' y↔q ∈ w y)) (hw1:∀ y,c ∈ w' y↔y ∈ l.take 2) (hn:∀ y,(w' y).Nodup):WI n (s.lit c l) C w':=by
 refine ⟨fun q hq=>?_,fun y q hy=>?_,hn,fun q hq y hy=>?_,h.rs⟩
 ·by_cases e:q=c
  ·subst e
   simp only [St.lit,A8]
   obtain ⟨h1,h2,h3⟩:=h.cl q hq
   exact ⟨by rw [hp.length_eq]; exact h1,fun y hy=>h2 y (hp.mem_iff.1 hy),(hp.map _).nodup_iff.2 h3⟩
  ·simp only [St.lit,Af e]; exact h.cl q hq
 ·by_cases e:q=c
  ·subst e
   simp only [St.lit,A8]
   exact ⟨hc,(hw1 y).1 hy⟩
  ·simp only [St.lit,Af e]; exact h.w1 y q ((hw q y e).1 hy)
 ·by_cases e:q=c
  ·subst e
   simp only [St.lit,A8] at hy
   exact (hw1 y).2 hy
  ·simp only [St.lit,Af e] at hy
   exact (hw q y e).2 (h.w3 q hq y hy)
theorem Inv.lit {n:Nat} {s:St} (h:Inv n s) {c:Nat} {l:List Nat} (hc:∀ (i x:Nat),s.tr[i]?=some x->s.rea (x / 2) ≠ some c):Inv n (s.lit c l) :=
 h.lits fun i x q hi hq=>Af fun e=>hc i x hi (e ▸ hq)
theorem RE {n:Nat} {s:St} (h:Inv n s) {c a:Nat} {r:List Nat} (hl:s.lits c=a :: r) (ha:a ∉ s.tr) (i x:Nat) (hi:s.tr[i]?=some x):s.rea (x / 2) ≠ some c:=by
 intro e;obtain ⟨t,ht,_⟩:=h.why i x c hi e;rw [hl] at ht;have:=(List.cons.inj ht).1;subst this;exact ha (J2 hi)
theorem SU {n:Nat} {s:St} {C:List Nat} {w:Nat->List Nat} (hv:Inv n s) (h:WI n s C w) {c x b:Nat} {r:List Nat} (hc:c ∈ C) (hl:s.lits c=x :: b :: r) (hx:neg x ∈ s.tr) :
  Inv n (s.lit c (b :: x :: r))/\WI n (s.lit c (b :: x :: r)) C w:=by
 refine ⟨hv.lit (RE hv hl fun hm=>hv.ok.zr hm hx),h.lit hc ?_ (fun _ _ _=>Iff.rfl) (fun y=>?_) h.nd⟩
 ·rw [hl]; exact List.Perm.swap _ _ _
 ·have h1:=fun hy=>(h.w1 y c hy).2
  have h2:=h.w3 c hc y
  rw [hl] at h1 h2
  simp only [X3,W5,J7,Z6,Ya] at h1 h2 ⊢
  constructor
  ·intro hm; exact (h1 hm).symm
  ·intro hm; exact h2 hm.symm
theorem Rt {n:Nat} {s:St} {C:List Nat} {w:Nat->List Nat} (hv:Inv n s) (h:WI n s C w) {c a x y j:Nat} {r K D:List Nat} (hc:c ∈ C) (hl:s.lits c=a :: x :: r) (ha:a ∉ s.tr) (hy:r[j]?=some y)
  (hw:w x=K ++ c :: D):Inv n (s.lit c (a :: y :: r.set j x))/\WI n (s.lit c (a :: y :: r.set j x)) C (upd (upd w x (K ++ D)) y (w y ++ [c])):=by
 have hjl:=(J3.1 hy).1
 have hgd:r.getD j 0=y:=by simp [List.getD,hy]
 obtain ⟨h1,h2,h3⟩:=h.cl c hc
 rw [hl] at h3
 simp only [Jz,Yj,J7,V1] at h3
 have hym:y ∈ r:=J2 hy
 have hxy:x ≠ y:=fun e=>h3.2.1 (by rw [e]; exact Xi (f:=(· / 2)) hym)
 have hay:a ≠ y:=fun e=>h3.1.2 (by rw [e]; exact Xi (f:=(· / 2)) hym)
 have hax:a ≠ x:=fun e=>h3.1.1 (by rw [e])
 have hcy:c ∉ w y:=by
  intro hm;have:=(h.w1 y c hm).2;rw [hl] at this;simp only [X3,W5,J7,Z6,Ya] at this;rcases this with e | e
  ·exact hay e.symm
  ·exact hxy e.symm
 have hnx:=h.nd x
 rw [hw] at hnx
 have hcK:c ∉ K/\c ∉ D:=by
  have:=Y8.1 hnx;have h5:=Yj.1 this.2.1;exact ⟨fun hm=>this.2.2 c hm c (by simp) rfl,h5.1⟩
 refine ⟨hv.lit (RE hv hl ha),h.lit hc ?_ (fun q z hq=>?_) (fun z=>?_) (fun z=>?_)⟩
 ·rw [hl,<- hgd,<- Vx]
  exact Gy (by simp) (by simp; omega)
 ·by_cases e:z=y
  ·subst e
   rw [A8]
   simp [hq]
  ·rw [Af e]
   by_cases e2:z=x
   ·subst e2
    rw [A8,hw]
    simp [hq]
   ·rw [Af e2]
 ·simp only [X3,W5,J7,Z6,Ya]
  by_cases e:z=y
  ·subst e
   rw [A8]
   simp
  ·rw [Af e]
   by_cases e2:z=x
   ·subst e2
    rw [A8]
    simp only [Jh,hcK.1,hcK.2,or_self,false_iff,V1]
    exact ⟨fun e=>hax e.symm,e⟩
   ·rw [Af e2]
    have g1:=fun hz=>(h.w1 z c hz).2
    have g2:=h.w3 c hc z
    rw [hl] at g1 g2
    simp only [X3,W5,J7,Z6,Ya] at g1 g2
    constructor
    ·intro hm
     rcases g1 hm with e3 | e3
     ·exact .inl e3
     ·exact absurd e3 e2
    ·rintro (e3 | e3)
     ·exact g2 (.inl e3)
     ·exact absurd e3 e
 ·by_cases e:z=y
  ·subst e
   rw [A8]
   exact Y8.2 ⟨h.nd z,by simp,fun a ha b hb=>by
    simp only [J6] at hb;subst hb;exact fun e=>hcy (e ▸ ha)⟩
  ·rw [Af e]
   by_cases e2:z=x
   ·subst e2
    rw [A8]
    have:=Y8.1 hnx
    exact Y8.2 ⟨this.1,(Yj.1 this.2.1).2,fun a ha b hb=>this.2.2 a ha b (by simp [hb])⟩
   ·rw [Af e2]; exact h.nd z
def Wt (s:St) (head y z:Nat):Prop:=∀ p,p < head->s.tr[p]?=some (neg y)->∃ q:Nat,s.tr[q]?=some z/\lev s.st q<=lev s.st p
def Wc (s:St) (head:Nat) (l:List Nat):Prop:=∀ y z r,l=y :: z :: r->Wt s head y z/\Wt s head z y
def PI (s:St) (C:List Nat) (head:Nat) (D:List Nat):Prop:=∀ c ∈ C,Wc s (head - 1) (s.lits c)/\(c ∉ D->Wc s head (s.lits c))
theorem Wt.le {s:St} {h h' y z:Nat} (hw:Wt s h y z) (hle:h'<=h):Wt s h' y z:=fun p hp hx=>hw p (by omega) hx
theorem Wc.le {s:St} {h h':Nat} {l:List Nat} (hw:Wc s h l) (hle:h'<=h):Wc s h' l:=fun y z r e=>⟨(hw y z r e).1.le hle,(hw y z r e).2.le hle⟩
theorem Wt.push {s:St} {head y z x:Nat} {w:Option Nat} (h:Wt s head y z) (hh:head<=s.tr.length):Wt (s.push x w) head y z:=by
 intro p hp hx;have hx':(s.tr ++ [x])[p]?=some (neg y):=hx;rcases D6 hx' with ⟨h1,_⟩ | ⟨h1,_⟩
 ·obtain ⟨q,hq,hl⟩:=h p hp h1;exact ⟨q,CJ hq,hl⟩
 ·omega
theorem Wc.push {s:St} {head x:Nat} {w:Option Nat} {l:List Nat} (h:Wc s head l) (hh:head<=s.tr.length):Wc (s.push x w) head l:=fun y z r e=>⟨(h y z r e).1.push hh,(h y z r e).2.push hh⟩
theorem PI.push {s:St} {C D:List Nat} {head x:Nat} {w:Option Nat} (h:PI s C head D) (hh:head<=s.tr.length):PI (s.push x w) C head D :=
 fun c hc=>⟨(h c hc).1.push (by omega),fun hd=>((h c hc).2 hd).push hh⟩
theorem De {s:St} {i:Nat} (h:i < s.tr.length):lev s.zf.st i=lev s.st i:=by
 simp only [St.zf,lev];rw [Xb];simp;omega
theorem Wt.zf {s:St} {head y z:Nat} (h:Wt s head y z):Wt s.zf head y z:=by
 intro p hp hx;have hx':s.tr[p]?=some (neg y):=hx;obtain ⟨q,hq,hl⟩:=h p hp hx';refine ⟨q,hq,?_⟩;rw [De (J3.1 hq).1,De (J3.1 hx').1];exact hl
theorem PI.zf {s:St} {C D:List Nat} {head:Nat} (h:PI s C head D):PI s.zf C head D :=
 fun c hc=>⟨fun y z r e=>⟨((h c hc).1 y z r e).1.zf,((h c hc).1 y z r e).2.zf⟩,fun hd y z r e=>⟨((h c hc).2 hd y z r e).1.zf,((h c hc).2 hd y z r e).2.zf⟩⟩
theorem Wt.cut {n:Nat} {s:St} {head y z k:Nat} (hv:Inv n s) (hk:k < s.st.length) (h:Wt s head y z) (hh:s.st[k]<=head):Wt (s.cut k s.st[k]) s.st[k] y z:=by
 intro p hp hx;have hx':(s.tr.take s.st[k])[p]?=some (neg y):=hx;obtain ⟨h1,_⟩:=Cg hx';obtain ⟨q,hq,hl⟩:=h p (by omega) h1;have hq2:q < s.st[k]:=by
  apply Yu;intro hle;have g1:=(Dk hv.sorted hk).2 hle;have g2:k < lev s.st p:=(by omega);have:=(Dk hv.sorted hk).1 g2;omega
 refine ⟨q,?_,?_⟩
 ·simp only [St.cut]; rw [Yb hq2]; exact hq
 ·simp only [St.cut];rw [Dd hv.sorted hk hq2,Dd hv.sorted hk hp];exact hl
theorem PI.cut {n:Nat} {s:St} {C D:List Nat} {head k:Nat} (hv:Inv n s) (hk:k < s.st.length) (h:PI s C head D) (hh:s.st[k]<=head - 1):PI (s.cut k s.st[k]) C s.st[k] []:=by
 have g:∀ c ∈ C,Wc (s.cut k s.st[k]) s.st[k] (s.lits c):=fun c hc y z r e=>⟨((h c hc).1 y z r e).1.cut hv hk hh,((h c hc).1 y z r e).2.cut hv hk hh⟩;exact fun c hc=>⟨(g c hc).le (by simp [St.cut]),fun _=>g c hc⟩
theorem PI.start {n:Nat} {s:St} {C:List Nat} {w:Nat->List Nat} {head x:Nat} (hw:WI n s C w) (h:PI s C head []) (hx:s.tr[head]?=some (neg x)):PI s C (head + 1) (w x):=by
 intro c hc;have h0:=(h c hc).2 (by simp);refine ⟨h0,fun hd y z r e=>?_⟩;have no:∀ u ∈ (s.lits c).take 2,u ≠ x:=fun u hu e=>hd (hw.w3 c hc x (e ▸ hu));have key:∀ u v,u ∈ (s.lits c).take 2->Wt s head u v->Wt s (head + 1) u v:=by
  intro u v hu hw p hp hpx;by_cases ep:p=head
  ·subst ep;exact absurd (M5 (Jj (hpx.symm.trans hx))) (no u hu)
  ·exact hw p (by omega) hpx
 exact ⟨key y z (by simp [e]) (h0 y z r e).1,key z y (by simp [e]) (h0 y z r e).2⟩
theorem PI.done {s:St} {C K D:List Nat} {c head:Nat} (h:PI s C head (c :: D)) (hc:c ∈ C->Wc s head (s.lits c)):PI s C head D:=by
 intro q hq;refine ⟨(h q hq).1,fun hd=>?_⟩;by_cases e:q=c
 ·subst e; exact hc hq
 ·exact (h q hq).2 (by simp [e,hd])
theorem PI.lit {s:St} {C D:List Nat} {c head:Nat} {l:List Nat} (h:PI s C head D) (h1:Wc s (head - 1) l) (h2:c ∉ D->Wc s head l):PI (s.lit c l) C head D:=by
 intro q hq;have tr:∀ {hd:Nat} {l':List Nat},Wc s hd l'->Wc (s.lit c l) hd l':=fun h=>h;by_cases e:q=c
 ·subst e;simp only [St.lit,A8];exact ⟨h1,h2⟩
 ·simp only [St.lit,Af e];exact h q hq
theorem Wc.swap {s:St} {head a b:Nat} {r:List Nat} (h:Wc s head (a :: b :: r)):Wc s head (b :: a :: r):=by
 intro y z t e;simp only [Zh] at e;obtain ⟨rfl,rfl,rfl⟩:=e;exact (h _ _ _ rfl).symm
theorem P0 {n:Nat} {s:St} {head a x q:Nat} {r:List Nat} (hv:Inv n s) (ha:s.tr[q]?=some a) (hx:s.tr[head - 1]?=some (neg x)) (hl:lev s.st q<=lev s.st (head - 1)):Wc s head (a :: x :: r):=by
 intro y z t e;simp only [Zh] at e;obtain ⟨rfl,rfl,rfl⟩:=e;refine ⟨fun p hp hpx=>?_,fun p hp hpx=>?_⟩
 ·exact (hv.ok.zr (J2 ha) (J2 hpx)).elim
 ·have:=hv.ok.idx hpx hx rfl;subst this;exact ⟨q,ha,hl⟩
theorem QS {n:Nat} {s:St} {head a x y:Nat} {r t:List Nat} (hv:Inv n s) (h:Wc s (head - 1) (a :: x :: r)) (hx:s.tr[head - 1]?=some (neg x)) (hax:a ≠ x) (hy:neg y ∉ s.tr):Wc s head (a :: y :: t):=by
 intro u v t' e;simp only [Zh] at e;obtain ⟨rfl,rfl,rfl⟩:=e;refine ⟨fun p hp hpx=>?_,fun p hp hpx=>absurd (J2 hpx) hy⟩;by_cases e:p=head - 1
 ·subst e;exact absurd (M5 (Jj (hpx.symm.trans hx))) hax
 ·obtain ⟨q,hq,_⟩:=(h _ _ _ rfl).1 p (by omega) hpx;exact (hv.ok.zr (J2 hq) (J2 hx)).elim
theorem Sy {n:Nat} {s:St} {C:List Nat} {w:Nat->List Nat} (hv:Inv n s) (hw:WI n s C w) (h:PI s C s.tr.length []) (hall:∀ x,isC n x->x ∈ s.tr\/neg x ∈ s.tr) (c:Nat) (hc:c ∈ C):∃ y ∈ s.lits c,y ∈ s.tr:=by
 obtain ⟨h1,h2,_⟩:=hw.cl c hc;match hl:s.lits c with
 | []=>rw [hl] at h1; simp at h1
 | [_]=>rw [hl] at h1; simp at h1
 | y :: z :: r =>
  rw [hl] at h2;rcases hall y (h2 y (by simp)) with hy | hy
  ·exact ⟨y,by simp,hy⟩
  ·obtain ⟨p,hp⟩:=Jc hy;have hpl:=(J3.1 hp).1;obtain ⟨q,hq,_⟩:=((h c hc).2 (by simp) y z r hl).1 p hpl hp;exact ⟨z,by simp,J2 hq⟩
theorem WI.push {n:Nat} {s:St} {C:List Nat} {w:Nat->List Nat} (h:WI n s C w) {x:Nat} {why:Option Nat} (hc:∀ c,why=some c->c ∈ C):WI n (s.push x why) C w:=by
 refine ⟨h.cl,h.w1,h.nd,h.w3,fun i y c hi hr=>?_⟩;have hi':(s.tr ++ [x])[i]?=some y:=hi;simp only [St.push] at hr;by_cases e:y / 2=x / 2
 ·rw [J8 e] at hr; exact hc c hr
 ·rw [J4 e] at hr;rcases D6 hi' with ⟨h1,_⟩ | ⟨_,rfl⟩
  ·exact h.rs i y c h1 hr
  ·exact absurd rfl e
theorem WI.zf {n:Nat} {s:St} {C:List Nat} {w:Nat->List Nat} (h:WI n s C w):WI n s.zf C w:=⟨h.cl,h.w1,h.nd,h.w3,h.rs⟩
theorem WI.cut {n:Nat} {s:St} {C:List Nat} {w:Nat->List Nat} (h:WI n s C w) {k f:Nat}:WI n (s.cut k f) C w:=by
 refine ⟨h.cl,h.w1,h.nd,h.w3,fun i y c hi hr=>?_⟩;have hi':(s.tr.take f)[i]?=some y:=hi;simp only [St.cut] at hr;split at hr
 ·simp at hr
 ·exact h.rs i y c (Cg hi').1 hr
def att (w:Nat->List Nat) (c a b:Nat):Nat->List Nat:=upd (upd w a (w a ++ [c])) b (w b ++ [c])
theorem PJ {w:Nat->List Nat} {c a b q y:Nat} (hab:a ≠ b) (hc:c ∉ w y):q ∈ att w c a b y↔q ∈ w y\/q=c/\(y=a\/y=b):=by
 unfold att;by_cases e:y=b
 ·subst e; rw [A8]; simp
 ·rw [Af e];by_cases e2:y=a
  ·subst e2; rw [A8]; simp
  ·rw [Af e2]; simp [e,e2]
theorem WI.attach {n:Nat} {s:St} {C:List Nat} {w:Nat->List Nat} (h:WI n s C w) {c a b:Nat} {r:List Nat} (hc:c ∉ C) (hl:(∀ y ∈ a :: b :: r,isC n y)/\((a :: b :: r).map (· / 2)).Nodup) :
  WI n (s.lit c (a :: b :: r)) (c :: C) (att w c a b):=by
 have hab:a ≠ b:=by
  intro e;have:=hl.2;simp only [Jz,Yj,J7,V1] at this;exact this.1.1 (by rw [e])
 have hw:∀ y,c ∉ w y:=fun y hy=>hc (h.w1 y c hy).1
 refine ⟨fun q hq=>?_,fun y q hy=>?_,fun y=>?_,fun q hq y hy=>?_,fun i x q hi hr=>by simp [h.rs i x q hi hr]⟩
 ·by_cases e:q=c
  ·subst e; simp only [St.lit,A8]; exact ⟨by simp,hl⟩
  ·simp only [St.lit,Af e]
   exact h.cl q (by simpa [e] using hq)
 ·rw [PJ hab (hw y)] at hy
  rcases hy with hy | ⟨rfl,hy⟩
  ·have e:q ≠ c:=fun e=>hw y (e ▸ hy)
   simp only [St.lit,Af e]
   exact ⟨by simp [(h.w1 y q hy).1],(h.w1 y q hy).2⟩
  ·simp only [St.lit,A8]
   exact ⟨by simp,by simpa using hy⟩
 ·have nd:∀ y,(w y ++ [c]).Nodup:=fun y=>Y8.2 ⟨h.nd y,by simp,fun u hu v hv=>by
   simp only [J6] at hv;subst hv;exact fun e=>hw y (e ▸ hu)⟩
  unfold att
  by_cases e:y=b
  ·subst e; rw [A8]; exact nd y
  ·rw [Af e]
   by_cases e2:y=a
   ·subst e2; rw [A8]; exact nd y
   ·rw [Af e2]; exact h.nd y
 ·rw [PJ hab (hw y)]
  by_cases e:q=c
  ·subst e
   simp only [St.lit,A8] at hy
   exact .inr ⟨rfl,by simpa using hy⟩
  ·simp only [St.lit,Af e] at hy
   exact .inl (h.w3 q (by simpa [e] using hq) y hy)
theorem PI.attach {s:St} {C D:List Nat} {head c:Nat} {l:List Nat} (h:PI s C head D) (hc:c ∉ C) (hw:Wc s head l):PI (s.lit c l) (c :: C) head D:=by
 intro q hq;by_cases e:q=c
 ·subst e;simp only [St.lit,A8];exact ⟨hw.le (by omega),fun _=>hw⟩
 ·simp only [St.lit,Af e];exact h q (by simpa [e] using hq)
theorem SQ {s:St} {head a b:Nat} {r:List Nat} (ha:neg a ∉ s.tr) (hb:neg b ∉ s.tr):Wc s head (a :: b :: r):=by
 intro y z t e;simp only [Zh] at e;obtain ⟨rfl,rfl,rfl⟩:=e;exact ⟨fun p _ hp=>absurd (J2 hp) ha,fun p _ hp=>absurd (J2 hp) hb⟩
theorem PI.fq {n:Nat} {s:St} {C D:List Nat} {head x y to c:Nat} {r:List Nat} (hv:Inv n s) (h:PI s C head D) (hL:Lrn n s x (y :: r) to) (hy:∃ j:Nat,s.tr[j]?=some (neg y)/\lev s.st j=to) (hc:c ∉ C) (hh:s.st[to]'hL.lt<=head - 1) :
  PI (((s.cut to (s.st[to]'hL.lt)).lit c (neg x :: y :: r)).push (neg x) (some c)) (c :: C) (s.st[to]'hL.lt) []:=by
 have hlt:=hL.lt
 obtain ⟨i,hi,hlev⟩:=hL.at'
 have hge:s.st[to]<=i:=(Dk hv.sorted hlt).1 (by omega)
 have hil:=(J3.1 hi).1
 have hlen:(s.cut to s.st[to]).tr.length=s.st[to]:=by simp only [St.cut,Ze]; omega
 have h1:=(h.cut hv hlt hh).push (x:=neg x) (w:=some c) (by rw [hlen]; exact Jb _)
 have hcut:=hv.cut hlt
 refine h1.attach (l:=neg x :: y :: r) hc ?_
 intro u v t e
 simp only [Zh] at e
 obtain ⟨rfl,rfl,rfl⟩:=e
 refine ⟨fun p hp hpx=>?_,fun p hp hpx=>?_⟩
 ·exfalso
  have hp':((s.tr.take s.st[to]) ++ [neg x])[p]?=some (neg (neg x)):=hpx
  rw [neg_neg] at hp'
  rcases D6 hp' with ⟨g,_⟩ | ⟨g,_⟩
  ·obtain ⟨g,gl⟩:=Cg g
   have:=hv.ok.idx hi g rfl
   omega
  ·rw [Ze] at g
   omega
 ·have hp':((s.tr.take s.st[to]) ++ [neg x])[p]?=some (neg y):=hpx
  rcases D6 hp' with ⟨g,_⟩ | ⟨g,_⟩
  ·obtain ⟨g,gl⟩:=Cg g
   obtain ⟨j,hj,hjl⟩:=hy
   have e:=hv.ok.idx hj g rfl
   subst e
   refine ⟨s.st[to],?_,?_⟩
   ·show ((s.tr.take s.st[to]) ++ [neg x])[s.st[to]]?=some (neg x)
    rw [Jf (by rw [Ze]; omega),Ze]
    have:s.st[to] - min s.st[to] s.tr.length=0:=by omega
    rw [this]; rfl
   ·show lev (s.st.take to) s.st[to]<=lev (s.st.take to) j
    rw [Dd hv.sorted hlt gl,hjl]
    refine Js DP ?_
    rw [Ze]; omega
  ·rw [Ze] at g
   omega
def YT (m:Nat->Bool) (G:List (List Nat)):Prop:=∀ g ∈ G,∃ y ∈ g,m y=true
structure GI (s:St) (C:List Nat) (G:List (List Nat)):Prop where
 snd:∀ T,Clo T G->(∀ c ∈ C,ClT T (s.lits c))/\∀ (i x:Nat),s.tr[i]?=some x->lev s.st i=0->T x
 cmp:∀ g ∈ G,(∃ y ∈ g,neg y ∈ g)\/(∃ y ∈ g,∃ i:Nat,s.tr[i]?=some y/\lev s.st i=0)\/∃ c ∈ C,∀ y ∈ s.lits c,y ∈ g
theorem GI.holds {n:Nat} {s:St} {C:List Nat} {G:List (List Nat)} {w:Nat->List Nat} (h:GI s C G) (hw:WI n s C w) {T:Nat->Prop} (hT:Clo T G):Holds s T :=
 ⟨hT.con,fun i x c hi hr=>(h.snd T hT).1 c (hw.rs i x c hi hr),(h.snd T hT).2⟩
theorem GI.zf {s:St} {C:List Nat} {G:List (List Nat)} (h:GI s C G):GI s.zf C G:=by
 refine ⟨fun T hT=>⟨(h.snd T hT).1,fun i x hi hl=>?_⟩,fun g hg=>?_⟩
 ·have hi':s.tr[i]?=some x:=hi;rw [De (J3.1 hi').1] at hl;exact (h.snd T hT).2 i x hi' hl
 ·rcases h.cmp g hg with h1 | ⟨y,hy,i,hi,hl⟩ | h1
  ·exact .inl h1
  ·exact .inr (.inl ⟨y,hy,i,hi,by rw [De (J3.1 hi).1]; exact hl⟩)
  ·exact .inr (.inr h1)
theorem GI.push {n:Nat} {s:St} {C:List Nat} {G:List (List Nat)} (hv:Inv n s) (h:GI s C G) {x:Nat} {w:Option Nat} (hx:s.st = []->∀ T,Clo T G->T x):GI (s.push x w) C G:=by
 refine ⟨fun T hT=>⟨(h.snd T hT).1,fun i y hi hl=>?_⟩,fun g hg=>?_⟩
 ·have hi':(s.tr ++ [x])[i]?=some y:=hi;have hl':lev s.st i=0:=hl;rcases D6 hi' with ⟨h1,_⟩ | ⟨rfl,rfl⟩
  ·exact (h.snd T hT).2 i y h1 hl'
  ·rw [IK hv] at hl';exact hx (X7 hl') T hT
 ·rcases h.cmp g hg with h1 | ⟨y,hy,i,hi,hl⟩ | h1
  ·exact .inl h1
  ·exact .inr (.inl ⟨y,hy,i,CJ hi,hl⟩)
  ·exact .inr (.inr h1)
theorem SP {n:Nat} {s:St} {C:List Nat} {G:List (List Nat)} (hv:Inv n s) (h:GI s C G) {c x:Nat} {r:List Nat} (hc:c ∈ C) (hl:s.lits c=x :: r) (hr:∀ y ∈ r,neg y ∈ s.tr) (h0:s.st = []) (T:Nat->Prop) (hT:Clo T G):T x:=by
 have hw:=(h.snd T hT).1 c hc;rw [hl] at hw;refine hw.1 x (by simp) fun y hy hne=>?_;obtain ⟨i,hi⟩:=Jc (hr y ((J7.1 hy).resolve_left hne));exact (h.snd T hT).2 i _ hi (by rw [h0]; rfl)
theorem GI.cut {n:Nat} {s:St} {C:List Nat} {G:List (List Nat)} (hv:Inv n s) (h:GI s C G) {k:Nat} (hk:k < s.st.length):GI (s.cut k s.st[k]) C G:=by
 refine ⟨fun T hT=>⟨(h.snd T hT).1,fun i x hi hl=>?_⟩,fun g hg=>?_⟩
 ·have hi':(s.tr.take s.st[k])[i]?=some x:=hi;obtain ⟨h1,h2⟩:=Cg hi';have hl':lev (s.st.take k) i=0:=hl;rw [Dd hv.sorted hk h2] at hl';exact (h.snd T hT).2 i x h1 hl'
 ·rcases h.cmp g hg with h1 | ⟨y,hy,i,hi,hl⟩ | h1
  ·exact .inl h1
  ·refine .inr (.inl ⟨y,hy,i,?_,?_⟩)
   ·have h2:i < s.st[k]:=by
     apply Yu;intro hle;have:=(Dk hv.sorted hk).2 hle;omega
    show (s.tr.take s.st[k])[i]?=some y
    rw [Yb h2]; exact hi
   ·have h2:i < s.st[k]:=by
     apply Yu;intro hle;have:=(Dk hv.sorted hk).2 hle;omega
    show lev (s.st.take k) i=0
    rw [Dd hv.sorted hk h2]; exact hl
  ·exact .inr (.inr h1)
theorem GI.lit {s:St} {C:List Nat} {G:List (List Nat)} (h:GI s C G) {c:Nat} {l:List Nat} (hp:l.Perm (s.lits c)):GI (s.lit c l) C G:=by
 have key:∀ q y,y ∈ (s.lit c l).lits q↔y ∈ s.lits q:=by
  intro q y;by_cases e:q=c
  ·subst e; simp only [St.lit,A8]; exact hp.mem_iff
  ·simp only [St.lit,Af e]
 refine ⟨fun T hT=>⟨fun q hq=>?_,(h.snd T hT).2⟩,fun g hg=>?_⟩
 ·obtain ⟨h1,h2⟩:=(h.snd T hT).1 q hq;exact ⟨fun x hx hall=>h1 x ((key q x).1 hx) fun y hy hne=>hall y ((key q y).2 hy) hne,fun hall=>h2 fun y hy=>hall y ((key q y).2 hy)⟩
 ·rcases h.cmp g hg with h1 | h1 | ⟨q,hq,h1⟩
  ·exact .inl h1
  ·exact .inr (.inl h1)
  ·exact .inr (.inr ⟨q,hq,fun y hy=>h1 y ((key q y).1 hy)⟩)
theorem GI.given {s:St} {C:List Nat} {G:List (List Nat)} (h:GI s C G) {g:List Nat} (hg:(∃ y ∈ g,neg y ∈ g)\/(∃ y ∈ g,∃ i:Nat,s.tr[i]?=some y/\lev s.st i=0)\/∃ c ∈ C,∀ y ∈ s.lits c,y ∈ g):GI s C (g :: G):=by
 refine ⟨fun T hT=>h.snd T (hT.sub fun f hf=>by simp [hf]),fun f hf=>?_⟩;rcases J7.1 hf with e | hf
 ·subst e; exact hg
 ·exact h.cmp f hf
theorem GI.unit {n:Nat} {s:St} {C:List Nat} {G:List (List Nat)} (hv:Inv n s) (h:GI s C G) {x:Nat} (h0:s.st = []):GI (s.push x none) C ([x] :: G):=by
 have hs:∀ T,Clo T ([x] :: G)->Clo T G:=fun T hT=>hT.sub fun g hg=>(by simp [hg]);have hx:∀ T,Clo T ([x] :: G)->T x:=fun T hT=>(hT.cl [x] (by simp)).1 x (by simp) fun y hy hne=>absurd (J6.1 hy) hne;refine ⟨fun T hT=>⟨(h.snd T (hs T hT)).1,fun i y hi hl=>?_⟩,fun g hg=>?_⟩
 ·have hi':(s.tr ++ [x])[i]?=some y:=hi;rcases D6 hi' with ⟨h1,_⟩ | ⟨rfl,rfl⟩
  ·exact (h.snd T (hs T hT)).2 i y h1 hl
  ·exact hx T hT
 ·rcases J7.1 hg with e | hg
  ·subst e;refine .inr (.inl ⟨x,by simp,s.tr.length,by simp [St.push],?_⟩);show lev s.st s.tr.length=0;rw [IK hv,h0]; rfl
  ·rcases h.cmp g hg with h1 | ⟨y,hy,i,hi,hl⟩ | h1
   ·exact .inl h1
   ·exact .inr (.inl ⟨y,hy,i,CJ hi,hl⟩)
   ·exact .inr (.inr h1)
theorem GI.learned {s:St} {C:List Nat} {G:List (List Nat)} (h:GI s C G) {c:Nat} {l:List Nat} (hc:c ∉ C):GI (s.lit c l) (c :: C) (l :: G):=by
 have hs:∀ T,Clo T (l :: G)->Clo T G:=fun T hT=>hT.sub fun g hg=>(by simp [hg]);refine ⟨fun T hT=>⟨fun q hq=>?_,(h.snd T (hs T hT)).2⟩,fun g hg=>?_⟩
 ·by_cases e:q=c
  ·subst e; simp only [St.lit,A8]; exact hT.cl l (by simp)
  ·simp only [St.lit,Af e];exact (h.snd T (hs T hT)).1 q (by simpa [e] using hq)
 ·rcases J7.1 hg with e | hg
  ·subst e;exact .inr (.inr ⟨c,by simp,fun y hy=>by simpa only [St.lit,A8] using hy⟩)
  ·rcases h.cmp g hg with h1 | h1 | ⟨q,hq,h1⟩
   ·exact .inl h1
   ·exact .inr (.inl h1)
   ·have e:q ≠ c:=fun e=>hc (e ▸ hq);exact .inr (.inr ⟨q,by simp [hq],fun y hy=>by simp only [St.lit,Af e] at hy; exact h1 y hy⟩)
theorem Tf {n:Nat} {s:St} {C:List Nat} {G:List (List Nat)} {w:Nat->List Nat} (hv:Inv n s) (hw:WI n s C w) (hP:PI s C s.tr.length []) (h:GI s C G) (hall:∀ x,isC n x->x ∈ s.tr\/neg x ∈ s.tr)
  {m:Nat->Bool} (hm:Mdl m) (hmt:∀ x ∈ s.tr,m x=true):YT m G:=by
 intro g hg
 rcases h.cmp g hg with ⟨y,h1,h2⟩ | ⟨y,hy,i,hi,_⟩ | ⟨c,hc,h1⟩
 ·cases hy:m y with
  | true=>exact ⟨y,h1,hy⟩
  | false=>exact ⟨neg y,h2,by rw [hm.neg,hy]; rfl⟩
 ·exact ⟨y,hy,hmt y (J2 hi)⟩
 ·obtain ⟨y,hy,ht⟩:=Sy hv hw hP hall c hc
  exact ⟨y,h1 y hy,hmt y ht⟩
theorem Hj {s:St} {C:List Nat} {G:List (List Nat)} (h:GI s C G) {c:Nat} (hc:c ∈ C) (hf:∀ y ∈ s.lits c,neg y ∈ s.tr) (h0:s.st = []) {T:Nat->Prop}:¬ Clo T G:=by
 intro hT;refine ((h.snd T hT).1 c hc).2 fun y hy=>?_;obtain ⟨i,hi⟩:=Jc (hf y hy);exact (h.snd T hT).2 i _ hi (by rw [h0]; rfl)
structure SI (n:Nat) (s:St) (C:List Nat) (w:Nat->List Nat) (G:List (List Nat)) (head:Nat):Prop where
 inv:Inv n s
 wi:WI n s C w
 pi:PI s C head []
 gi:GI s C G
 le:head<=s.tr.length
 st:∀ k ∈ s.st,k<=head
structure VI (n:Nat) (s:St) (C:List Nat) (w:Nat->List Nat) (G:List (List Nat)) (head x:Nat) (K D:List Nat):Prop where
 inv:Inv n s
 wi:WI n s C w
 pi:PI s C head D
 gi:GI s C G
 le:head<=s.tr.length
 st:∀ k ∈ s.st,k<=head - 1
 at':s.tr[head - 1]?=some (neg x)
 ws:w x=K ++ D
theorem SI.start {n:Nat} {s:St} {C:List Nat} {w:Nat->List Nat} {G:List (List Nat)} {head x:Nat} (h:SI n s C w G head) (hx:s.tr[head]?=some (neg x)):VI n s C w G (head + 1) x [] (w x) :=
 ⟨h.inv,h.wi,h.pi.start h.wi hx,h.gi,(J3.1 hx).1,h.st,hx,rfl⟩
theorem VI.done {n:Nat} {s:St} {C:List Nat} {w:Nat->List Nat} {G:List (List Nat)} {head x:Nat} {K:List Nat} (h:VI n s C w G head x K []):SI n s C w G head :=
 ⟨h.inv,h.wi,h.pi,h.gi,h.le,fun k hk=>by have:=h.st k hk; omega⟩
section
variable {n:Nat} {s:St} {C:List Nat} {w:Nat->List Nat} {G:List (List Nat)} {head x c:Nat} {K D:List Nat}
theorem VI.mem (h:VI n s C w G head x K (c :: D)):c ∈ C/\∃ a b r,s.lits c=a :: b :: r/\(a=x\/b=x):=by
 have hc:=h.wi.w1 x c (by rw [h.ws]; simp);have hl:=(h.wi.cl c hc.1).1;refine ⟨hc.1,?_⟩;match he:s.lits c with
 | []=>rw [he] at hl; simp at hl
 | [_]=>rw [he] at hl; simp at hl
 | a :: b :: r =>
  refine ⟨a,b,r,rfl,?_⟩;have:=hc.2;rw [he] at this;simp only [X3,W5,J7,Z6,Ya] at this;rcases this with e | e
  ·exact .inl e.symm
  ·exact .inr e.symm
theorem VI.yz (h:VI n s C w G head x K D):neg x ∈ s.tr:=J2 h.at'
theorem VI.swap (h:VI n s C w G head x K (c :: D)) {b:Nat} {r:List Nat} (hl:s.lits c=x :: b :: r):VI n (s.lit c (b :: x :: r)) C w G head x K (c :: D):=by
 have hc:=h.mem.1;obtain ⟨h1,h2⟩:=SU h.inv h.wi hc hl h.yz;have h3:=(h.pi c hc).1;rw [hl] at h3;exact ⟨h1,h2,h.pi.lit h3.swap (fun hn=>absurd (by simp) hn),h.gi.lit (by rw [hl]; exact List.Perm.swap _ _ _),h.le,h.st,h.at',h.ws⟩
theorem VI.keep (h:VI n s C w G head x K (c :: D)) {a:Nat} {r:List Nat} (hl:s.lits c=a :: x :: r) (ha:a ∈ s.tr) (hlev:∀ q:Nat,s.tr[q]?=some a->lev s.st q<=lev s.st (head - 1)):VI n s C w G head x (K ++ [c]) D:=by
 obtain ⟨q,hq⟩:=Jc ha;refine ⟨h.inv,h.wi,h.pi.done (K:=K) (fun _=>?_),h.gi,h.le,h.st,h.at',by rw [h.ws]; simp⟩;rw [hl];exact P0 h.inv hq h.at' (hlev q hq)
theorem VI.top (h:VI n s C w G head x K D) (q:Nat):lev s.st q<=lev s.st (head - 1):=by
 have:lev s.st (head - 1)=s.st.length:=by
  unfold lev;rw [Wo];intro k hk;simpa using h.st k hk
 rw [this]; exact DP
theorem VI.other (h:VI n s C w G head x K (c :: D)) {a y j:Nat} {r:List Nat} (hl:s.lits c=a :: x :: r) (ha:a ∉ s.tr) (hy:r[j]?=some y) (hny:neg y ∉ s.tr) :
  VI n (s.lit c (a :: y :: r.set j x)) C (upd (upd w x (K ++ D)) y (w y ++ [c])) G head x K D:=by
 have hc:=h.mem.1
 have hnd:=(h.wi.cl c hc).2.2
 rw [hl] at hnd
 simp only [Jz,Yj,J7,V1] at hnd
 have hax:a ≠ x:=fun e=>hnd.1.1 (by rw [e])
 have hxy:x ≠ y:=fun e=>hnd.2.1 (by rw [e]; exact Xi (f:=(· / 2)) (J2 hy))
 have hjl:=(J3.1 hy).1
 have hgd:r.getD j 0=y:=by simp [List.getD,hy]
 obtain ⟨h1,h2⟩:=Rt h.inv h.wi hc hl ha hy h.ws
 have h3:=(h.pi c hc).1
 rw [hl] at h3
 have h4:Wc s head (a :: y :: r.set j x):=QS h.inv h3 h.at' hax hny
 refine ⟨h1,h2,?_,h.gi.lit ?_,h.le,h.st,h.at',by rw [Af hxy,A8]⟩
 ·refine (h.pi.lit (h4.le (by omega)) (fun _=>h4)).done (K:=K) (fun _=>?_)
  simp only [St.lit,A8]
  exact h4
 ·rw [hl,<- hgd,<- Vx]
  exact Gy (by simp) (by simp; omega)
theorem VI.set (h:VI n s C w G head x K (c :: D)) {a:Nat} {r:List Nat} (hl:s.lits c=a :: x :: r) (ha:a ∉ s.tr) (hna:neg a ∉ s.tr) (hr:∀ y ∈ r,neg y ∈ s.tr):VI n (s.push a (some c)) C w G head x (K ++ [c]) D:=by
 have hc:=h.mem.1;have hcode:=(h.wi.cl c hc).2.1 a (by rw [hl]; simp);have hr':∀ y ∈ x :: r,neg y ∈ s.tr:=by
  intro y hy;rcases J7.1 hy with e | hy
  ·subst e; exact h.yz
  ·exact hr y hy
 have h1:=h.inv.push (w:=some c) hcode ha hna (fun q hq=>⟨x :: r,by rw [<- Jj hq]; exact hl,hr'⟩) (fun e=>by simp at e);have hx':(s.push a (some c)).tr[head - 1]?=some (neg x):=CJ h.at';refine ⟨h1,h.wi.push (fun q hq=>by rw [<- Jj hq]; exact hc),?_,h.gi.push h.inv (fun h0 T hT=>SP h.inv h.gi hc hl hr' h0 T hT),by simp only [St.push,Jv]; have:=h.le; omega,h.st,hx',by rw [h.ws]; simp⟩;refine (h.pi.push h.le).done (K:=K) (fun _=>?_);show Wc (s.push a (some c)) head (s.lits c);rw [hl];refine P0 (q:=s.tr.length) h1 (by simp [St.push]) hx' (h.top s.tr.length)
end
section
variable {n:Nat} {s:St} {C:List Nat} {w:Nat->List Nat} {G:List (List Nat)} {head:Nat}
theorem SI.zf (h:SI n s C w G head) (hh:head=s.tr.length):SI n s.zf C w G head:=by
 refine ⟨h.inv.zf,h.wi.zf,h.pi.zf,h.gi.zf,h.le,fun k hk=>?_⟩;simp only [St.zf] at hk;rcases Jh.1 hk with hk | hk
 ·exact h.st k hk
 ·simp only [J6] at hk; omega
theorem SI.decide (h:SI n s C w G head) (hh:head=s.tr.length) {x:Nat} (hx:isC n x) (h1:x ∉ s.tr) (h2:neg x ∉ s.tr):SI n (s.zf.push x none) C w G head:=by
 have ho:=h.zf hh;have hm:s.zf.tr.length ∈ s.zf.st:=(by simp [St.zf]);refine ⟨ho.inv.push hx h1 h2 (fun c hc=>by simp at hc) (fun _=>.inr hm),ho.wi.push (fun c hc=>by simp at hc),ho.pi.push ho.le,ho.gi.push ho.inv (fun h0=>?_),?_,ho.st⟩
 ·rw [h0] at hm; simp at hm
 ·have:=ho.le; simp only [St.push,Jv,Zo]; omega
theorem SI.cut (h:SI n s C w G head) {k:Nat} (hk:k < s.st.length):SI n (s.cut k s.st[k]) C w G s.st[k]:=by
 have h0:=h.st s.st[k] (Y0 hk);have hb:=h.inv.bound s.st[k] (Y0 hk);have g:∀ c ∈ C,Wc (s.cut k s.st[k]) s.st[k] (s.lits c):=fun c hc y z r e=>⟨(((h.pi c hc).2 (by simp)) y z r e).1.cut h.inv hk h0,(((h.pi c hc).2 (by simp)) y z r e).2.cut h.inv hk h0⟩;refine ⟨h.inv.cut hk,h.wi.cut,fun c hc=>⟨(g c hc).le (by omega),fun _=>g c hc⟩,h.gi.cut h.inv hk,?_,fun m hm=>?_⟩
 ·simp only [St.cut,Ze]; omega
 ·have:=(h.inv.cut hk).bound m hm;simp only [St.cut,Ze] at this;omega
variable {x x0 c:Nat} {K D:List Nat}
theorem VI.jq (h:VI n s C w G head x K D) (hL:Lrn n s x0 [] 0) :
  SI n ((s.cut 0 (s.st[0]'hL.lt)).push (neg x0) none) C w ([neg x0] :: G) (s.st[0]'hL.lt)/\s.N n < ((s.cut 0 (s.st[0]'hL.lt)).push (neg x0) none).N n:=by
 have hlt:=hL.lt
 obtain ⟨g1,g2,g3,g4,g5⟩:=Nk (w:=none) h.inv hL (fun c hc=>by simp at hc) (fun _=>rfl)
 have hlen:(s.cut 0 s.st[0]).tr.length=s.st[0]:=by
  have:=h.inv.bound s.st[0] (Y0 hlt);simp only [St.cut,Ze]; omega
 have hst:=h.st s.st[0] (Y0 hlt)
 refine ⟨⟨g1,h.wi.cut.push (fun c hc=>by simp at hc),(h.pi.cut h.inv hlt hst).push (by omega),(h.gi.cut h.inv hlt).unit (h.inv.cut hlt) rfl,?_,fun k hk=>by simp [St.push,St.cut] at hk⟩,g2⟩
 simp only [St.push,Jv,hlen]; omega
theorem VI.jo (h:VI n s C w G head x K D) {y to:Nat} {r:List Nat} (hL:Lrn n s x0 (y :: r) to) (hy:∃ j:Nat,s.tr[j]?=some (neg y)/\lev s.st j=to) (hc:c ∉ C)
  (hl:(∀ z ∈ neg x0 :: y :: r,isC n z)/\((neg x0 :: y :: r).map (· / 2)).Nodup) (h1:1<=to) :
  SI n (((s.cut to (s.st[to]'hL.lt)).lit c (neg x0 :: y :: r)).push (neg x0) (some c)) (c :: C) (att w c (neg x0) y) ((neg x0 :: y :: r) :: G) (s.st[to]'hL.lt)/\s.N n < (((s.cut to (s.st[to]'hL.lt)).lit c (neg x0 :: y :: r)).push (neg x0) (some c)).N n:=by
 have hlt:=hL.lt
 have hst:=h.st s.st[to] (Y0 hlt)
 have hlen:(s.cut to s.st[to]).tr.length=s.st[to]:=by
  have:=h.inv.bound s.st[to] (Y0 hlt);simp only [St.cut,Ze]; omega
 have hv2:Inv n (s.lit c (neg x0 :: y :: r)):=h.inv.lits fun i x q hi hq=>Af fun e=>hc (e ▸ h.wi.rs i x q hi hq)
 have hL2:Lrn n (s.lit c (neg x0 :: y :: r)) x0 (y :: r) to:=⟨hL.at',hL.low,hL.top,hL.lt⟩
 obtain ⟨g1,g2,g3,g4,g5⟩:=Nk (w:=some c) hv2 hL2 (fun q hq=>by
  rw [<- Jj hq]; simp only [St.lit,A8]) (fun e=>by simp at e)
 have g6:=h.wi.cut (k:=to) (f:=s.st[to])
 refine ⟨⟨g1,(g6.attach hc hl).push (fun q hq=>by rw [<- Jj hq]; simp),h.pi.fq h.inv hL hy hc hst,?_,?_,fun k hk=>?_⟩,g2⟩
 ·refine (((h.gi.cut h.inv hlt).learned hc).push (s:=(s.cut to s.st[to]).lit c (neg x0 :: y :: r)) (n:=n) ?_ (fun h0=>?_))
  ·exact (h.inv.cut hlt).lits fun i x q hi hq=>Af fun e=>hc (e ▸ g6.rs i x q hi hq)
  ·exfalso
   have h0':s.st.take to = []:=h0
   have:=congrArg List.length h0'
   rw [Ze,Xc] at this
   omega
 ·show s.st[to]<=((s.cut to s.st[to]).tr ++ [neg x0]).length
  rw [Jv,hlen]; omega
 ·have hk':k ∈ s.st.take to:=hk
  have:=(h.inv.cut hlt).bound k hk'
  rw [hlen] at this
  exact this
end
theorem Ql {n:Nat} {s:St} {i x:Nat} {a:An} (hv:Inv n s) (hx:s.tr[i]?=some x) (hlev:lev s.st i=s.st.length) (h:AnI n s s.st.length i a):((neg x :: a.r).map (· / 2)).Nodup/\∀ y ∈ neg x :: a.r,isC n y:=by
 refine ⟨?_,fun y hy=>?_⟩
 ·rw [Jz,Yj];refine ⟨fun hm=>?_,h.nod⟩;obtain ⟨z,hz,e⟩:=Ji.1 hm;obtain ⟨_,j,hj,_,hl⟩:=h.low z hz;have:=hv.ok.idx hj hx (by rw [Av]; have e':z / 2=neg x / 2:=e; rw [e',Av]);subst this;omega
 ·rcases J7.1 hy with e | hy
  ·subst e;exact C0 (hv.ok.code x (J2 hx))
  ·obtain ⟨_,j,hj,_⟩:=h.low y hy;have:=C0 (hv.ok.code _ (J2 hj));rw [neg_neg] at this;exact this
theorem Vw {l:List Nat} {i j k:Nat} (hi:i < l.length) (hj:j < l.length):(sw l i j).getD k 0=if k=j then l.getD i 0 else if k=i then l.getD j 0 else l.getD k 0:=by
 unfold sw;simp only [List.getD,Xf,Z2];by_cases h1:k=j
 ·subst h1; simp [hj]
 ·have h1':¬ j=k:=fun e=>h1 e.symm;rw [J4 h1',J4 h1];by_cases h2:k=i
  ·subst h2; simp [hi]
  ·have h2':¬ i=k:=fun e=>h2 e.symm;rw [J4 h2',J4 h2]
structure Top (lv:Nat->Nat) (l0 l:List Nat) (to i:Nat):Prop where
 perm:l.Perm l0
 first:l.getD 0 0=l0.getD 0 0
 le:∀ j,1<=j->j < i->lv (l.getD j 0 / 2)<=to
 eq:i<=1/\to=0\/1 < i/\lv (l.getD 1 0 / 2)=to
theorem Top.zero {lv:Nat->Nat} {l0:List Nat}:Top lv l0 l0 0 1:=⟨Yq _,rfl,fun j h1 h2=>by omega,.inl ⟨by omega,rfl⟩⟩
theorem Top.no {lv:Nat->Nat} {l0 l:List Nat} {to i:Nat} (h:Top lv l0 l to i) (h1:1<=i) (hi:i < l.length) (hpos:∀ y ∈ l0.tail,1<=lv (y / 2)) (hl:¬ to < lv (l.getD i 0 / 2)) (hl0:l.tail.Perm l0.tail):Top lv l0 l to (i + 1):=by
 refine ⟨h.perm,h.first,fun j g1 g2=>?_,?_⟩
 ·by_cases e:j=i
  ·subst e; omega
  ·exact h.le j g1 (by omega)
 ·rcases h.eq with ⟨g1,g2⟩ | ⟨g1,g2⟩
  ·exfalso;have hm:l.getD i 0 ∈ l.tail:=by
    have:l.getD i 0=l.tail[i - 1]'(by rw [List.length_tail]; omega):=by
     rw [List.getElem_tail,List.getD,J1 hi];simp only [X4];congr 1;omega
    rw [this]; exact Y0 _
   have:=hpos _ (hl0.mem_iff.1 hm);omega
  ·exact .inr ⟨by omega,g2⟩
theorem Top.yes {lv:Nat->Nat} {l0 l:List Nat} {to i:Nat} (h:Top lv l0 l to i) (h1:1<=i) (hi:i < l.length) (hl:to < lv (l.getD i 0 / 2)):Top lv l0 (sw l 1 i) (lv (l.getD i 0 / 2)) (i + 1):=by
 have g:∀ k,_:=fun k=>Vw (l:=l) (i:=1) (j:=i) (k:=k) (by omega) hi;refine ⟨(Gy (by omega) hi).trans h.perm,?_,fun j g1 g2=>?_,.inr ⟨by omega,?_⟩⟩
 ·rw [g 0,J4 (by omega),J4 (by omega)]; exact h.first
 ·rw [g j];by_cases e:j=i
  ·rw [J8 e];by_cases e2:i=1
   ·subst e2; exact Jb _
   ·have:=h.le 1 (by omega) (by omega); omega
  ·rw [J4 e];by_cases e2:j=1
   ·rw [J8 e2]; exact Jb _
   ·rw [J4 e2];have:=h.le j g1 (by omega); omega
 ·rw [g 1];by_cases e:1=i
  ·subst e; simp
  ·rw [J4 e,J8 rfl]
theorem Top.tail {lv:Nat->Nat} {l0 l:List Nat} {to i:Nat} (h:Top lv l0 l to i):l.tail.Perm l0.tail:=by
 have hp:=h.perm;have hf:=h.first;cases l with
 | nil=>have:=hp.length_eq; cases l0 with
  | nil=>exact Yq _
  | cons b t=>simp at this
 | cons a t=>cases l0 with
  | nil=>have:=hp.length_eq; simp at this
  | cons b t0 =>
   have e:a=b:=(by simpa [List.getD] using hf);subst e;exact (List.perm_cons a).1 hp
theorem Top.lrn {n:Nat} {s:St} {i x to:Nat} {a:An} {r l:List Nat} (hv:Inv n s) (h0:1<=s.st.length) (hx:s.tr[i]?=some x) (hlev:lev s.st i=s.st.length) (h:AnI n s s.st.length i a) (hr:∀ y ∈ r,y ∈ a.r)
  (ht:Top s.lv (neg x :: r) l to l.length):∃ t,l=neg x :: t/\t.Perm r/\Lrn n s x t to/\(t = []/\to=0\/1<=to/\∃ y t',t=y :: t'/\∃ j:Nat,s.tr[j]?=some (neg y)/\lev s.st j=to):=by
 cases l with
 | nil=>have:=ht.perm.length_eq; simp at this
 | cons b t =>
  have e:b=neg x:=(by simpa [List.getD] using ht.first);subst e;have hp:t.Perm r:=ht.tail;have hr':∀ y ∈ t,y ∈ a.r:=fun y hy=>hr y (hp.mem_iff.1 hy);have hle:∀ y ∈ t,s.lv (y / 2)<=to:=by
   intro y hy;obtain ⟨j,hj⟩:=Jc hy;have hjl:=(J3.1 hj).1;have:=ht.le (j + 1) (by omega) (by simp; omega);simpa [List.getD,hj] using this
  have pos:∀ y ∈ t,1<=s.lv (y / 2):=by
   intro y hy;obtain ⟨_,j,hj,h1,_⟩:=h.low y (hr' y hy);rw [F1 hv hj]; exact h1
  have htop:t = []/\to=0\/∃ y t',t=y :: t'/\s.lv (y / 2)=to:=by
   cases t with
   | nil =>
    rcases ht.eq with ⟨_,h2⟩ | ⟨h2,_⟩
    ·exact .inl ⟨rfl,h2⟩
    ·simp at h2
   | cons y t' =>
    rcases ht.eq with ⟨h2,_⟩ | ⟨_,h2⟩
    ·simp at h2
    ·exact .inr ⟨y,t',rfl,by simpa [List.getD] using h2⟩
  refine ⟨t,rfl,hp,WV h0 hx hlev h hr' hle ?_ hv,?_⟩
  ·rcases htop with ⟨_,h2⟩ | ⟨y,t',e,h2⟩
   ·exact .inl h2
   ·exact .inr ⟨y,by simp [e],h2⟩
  ·rcases htop with h2 | ⟨y,t',e,h2⟩
   ·exact .inl h2
   ·have hy:y ∈ t:=(by simp [e]);obtain ⟨_,j,hj,_⟩:=h.low y (hr' y hy);refine .inr ⟨by rw [<- h2]; exact pos y hy,y,t',e,j,hj,by rw [<- F1 hv hj]; exact h2⟩
def St.val (s:St) (x:Nat):Int:=if x ∈ s.tr then 1 else if neg x ∈ s.tr then -1 else 0
def St.vals (n:Nat) (s:St):List Int:=(List.range (2 * n + 2)).map s.val
theorem TC (x:Nat):x ^^^ 1=neg x:=by
 have h1:(x ^^^ 1) / 2=x / 2:=by
  have:=Nat.xor_div_two (a:=x) (b:=1);simpa using this
 have h2:(x ^^^ 1) % 2=(x + 1) % 2:=by
  have:=Nat.xor_mod_two_eq_one (a:=x) (b:=1);omega
 unfold neg;split <;> omega
theorem QV {n:Nat} {s:St} {x y:Nat} {w:Option Nat} (h1:x ∉ s.tr) (h2:neg x ∉ s.tr):(s.push x w).val y=if y=x then 1 else if y=neg x then -1 else s.val y:=by
 unfold St.val;simp only [St.push,Jh,J6];by_cases e:y=x
 ·subst e; simp
 ·by_cases e2:y=neg x
  ·subst e2;have:¬ neg x=x:=M4 x;simp [h2,this,neg_neg]
  ·have e3:¬ neg y=x:=fun e=>e2 (by rw [<- e,neg_neg]);simp only [e,e2,e3,Ya,Z3]
theorem C2 {n:Nat} {s:St}:(s.vals n).length=2 * n + 2:=by simp [St.vals]
theorem Cp {n:Nat} {s:St} {x:Nat} (h:x < 2 * n + 2):(s.vals n)[x]?=some (s.val x):=by simp [St.vals,h]
theorem KK {n:Nat} {s:St} {x:Nat} {w:Option Nat} (hx:isC n x) (h1:x ∉ s.tr) (h2:neg x ∉ s.tr):(s.push x w).vals n=((s.vals n).set x 1).set (neg x) (-1):=by
 have hn:=C0 hx;unfold isC at hx hn;refine Y9 fun y=>?_;simp only [Xf,Z2,C2];by_cases hy:y < 2 * n + 2
 ·rw [Cp hy,Cp hy,QV (n:=n) h1 h2];by_cases e:neg x=y
  ·subst e;simp only [M4 x,Zr,Z3,hy]
  ·have e':¬ y=neg x:=fun h=>e h.symm;by_cases e2:x=y
   ·subst e2;simp only [e,Zr,Z3,hy]
   ·have e3:¬ y=x:=fun h=>e2 h.symm;simp only [e,e',e2,e3,Z3]
 ·have g1:¬ neg x=y:=(by omega);have g2:¬ x=y:=(by omega);rw [J4 g1,J4 g2,Jp (by rw [C2]; omega),Jp (by rw [C2]; omega)]
theorem Cu {s:St} {x:Nat}:0 < s.val x↔x ∈ s.tr:=by
 unfold St.val;split
 ·simp [*]
 ·split <;> simp [*]
theorem BG {n:Nat} {s:St} (h:Inv n s) {x:Nat}:s.val x < 0↔neg x ∈ s.tr:=by
 unfold St.val;split
 ·rename_i h1;simp only [Int.reduceLT,false_iff];exact fun h2=>h.ok.zr h1 h2
 ·split <;> simp [*]
theorem Cq {s:St} {x:Nat}:s.val x=0↔x ∉ s.tr/\neg x ∉ s.tr:=by
 unfold St.val;split
 ·simp [*]
 ·split <;> simp [*]
def zap (vs:List Int) (l:List Nat):List Int:=l.foldl (fun v x=>(v.set x 0).set (neg x) 0) vs
theorem Ix:∀ (l:List Nat) (vs:List Int),(zap vs l).length=vs.length
 | [],_=>rfl
 | x :: l,vs=>by
  show (zap ((vs.set x 0).set (neg x) 0) l).length=_;rw [Ix l]; simp
theorem OX (y:Nat):∀ (l:List Nat) (vs:List Int),y < vs.length->(zap vs l)[y]?=if y ∈ l\/neg y ∈ l then some 0 else vs[y]?
 | [],vs,_=>by simp [zap]
 | x :: l,vs,h=>by
  show (zap ((vs.set x 0).set (neg x) 0) l)[y]?=_;rw [OX y l _ (by simpa using h)];by_cases h1:y ∈ l\/neg y ∈ l
  ·rw [J8 h1,J8];rcases h1 with h1 | h1
   ·exact .inl (by simp [h1])
   ·exact .inr (by simp [h1])
  ·rw [J4 h1];simp only [Xf,Z2];by_cases e:neg x=y
   ·subst e;rw [J8 rfl,J8 h,J8 (.inr (by simp [neg_neg]))]
   ·rw [J4 e];by_cases e2:x=y
    ·subst e2;rw [J8 rfl,J8 h,J8 (.inl (by simp))]
    ·rw [J4 e2,J4];simp only [J7,V1] at h1 ⊢;exact ⟨⟨fun e'=>e2 e'.symm,h1.1⟩,⟨fun e'=>e (by rw [<- e',neg_neg]),h1.2⟩⟩
theorem TL {n:Nat} {s:St} (hv:Inv n s) {k f x:Nat}:x ∈ (s.cut k f).tr↔x ∈ s.tr/\x ∉ s.tr.drop f:=by
 simp only [St.cut];constructor
 ·intro h;refine ⟨Yp h,fun h2=>?_⟩;obtain ⟨i,hi⟩:=Jc h;obtain ⟨hi,hf⟩:=Cg hi;obtain ⟨j,hj⟩:=Jc h2;rw [Y7] at hj;have:=hv.ok.idx hi hj rfl;omega
 ·rintro ⟨h1,h2⟩;have:=Zn f s.tr;rw [<- this] at h1;rcases Jh.1 h1 with h | h
  ·exact h
  ·exact absurd h h2
theorem Mz {n:Nat} {s:St} (hv:Inv n s) {k f:Nat}:(s.cut k f).vals n=zap (s.vals n) (s.tr.drop f):=by
 refine Y9 fun y=>?_;by_cases hy:y < 2 * n + 2
 ·rw [OX y _ _ (by rw [C2]; exact hy),Cp hy,Cp hy];unfold St.val;simp only [TL hv];by_cases h1:y ∈ s.tr.drop f
  ·have h3:=Wu h1;have h4:neg y ∉ s.tr:=fun h=>hv.ok.zr h3 h;simp [h1,h4]
  ·by_cases h2:neg y ∈ s.tr.drop f
   ·have h3:=Wu h2;have h4:y ∉ s.tr:=fun h=>hv.ok.zr h h3;simp [h1,h2,h4]
   ·simp [h1,h2]
 ·rw [Jp (by rw [C2]; omega),Jp (by rw [Ix,C2]; omega)]
end Go.Sat
namespace Go.HL
theorem FD {P:Program} {H:A3} {t xt e z bytes n b len cap:Nat} {zero x:Value} {pre vs rest new:List Value} {d:TypeDesc} {k:Value->A3->Prop} (hT:ElT P t e z bytes zero)
  (hb:Blk H b e (pre ++ vs ++ rest)) (hl:vs.length=len * z) (hr:n * z<=rest.length) (hfit:len + n<=cap)
  (hx:M9 x=some n) (hsrc:AR H z n x=some new) (hu:P.underlying xt=some d) (hnk:∀ kk,d ≠ .int kk) (hone:∀ u ∈ new,Cb u=true) (hnew:new.length=n * z)
  (hk:∀ H',Blk H' b e (pre ++ (vs ++ new) ++ rest.drop (n * z))->Fr [b] H H'->k (.slice (some ⟨b,pre.length,none⟩) (len + n) cap) H') :
  @I9 P t xt (.slice (some ⟨b,pre.length,none⟩) len cap) x ⟨H⟩ ⟨k⟩:=by
 refine Or.inl ?_
 show DK P H t xt _ _ k
 unfold DK
 simp only [Aq]
 refine ⟨e,hT.elem,z,hT.size,bytes,hT.bytes,zero,hT.zero,n,hx,new,hsrc,d,hu,hnk,?_⟩
 rw [J8 hfit]
 have hb':Blk H b e ((pre ++ vs) ++ rest.take (n * z) ++ rest.drop (n * z)):=by
  rw [Je,Zn]; exact hb
 obtain ⟨H',hw,hb2,hf⟩:=Gu new (pre ++ vs) _ _ H hb' (by simp [hnew,hr])
 refine ⟨H',?_,?_⟩
 ·rw [BK _ _ _ hone,AS,<- hl]
  rw [Jv] at hw
  exact hw
 ·refine hk _ ?_ hf
  simpa [Je] using hb2
theorem Lk {P:Program} {H H':A3} {t e ty:TypeId} {a:Addr} {n c:Nat} {z:Value} {k:Value->A3->Prop} (hu:P.underlying t=some (.slice e)) (hz:AD P e=some z) (hc:z.cells = #[z]) (h1:Cb z=true)
  (hw:wrs H a (List.replicate n z) 0=some H') (hk:k (.tuple #[]) H'):@YG P t ty (.slice (some a) n c) ⟨H⟩ ⟨k⟩:=by
 show hwp P (Builtin.clear_ #[t] ty #[.slice (some a) n c]) H k _
 unfold Builtin.clear_
 simp only [Jw,Z1]
 refine Aa (A6 hu H) ?_
 cases n with
 | zero =>
  simp only [List.replicate,wrs,J5] at hw;subst hw;exact hk
 | succ n =>
  simp only;refine Aa (AF hz H) ?_;rw [Az];have e1:(Builtin.zeroCells z.cells (n + 1)).toList=List.replicate (n + 1) z:=by
   rw [hc];apply Ye
   ·simp [Builtin.zeroCells]
   ·intro i h1 h2;simp [Builtin.zeroCells,Vf]
  refine BN (Builtin.zeroCells z.cells (n + 1)).toList 0 H H' ?_ hk;rw [e1,BK _ _ _ (by intro v hv; rw [List.mem_replicate] at hv; rw [hv.2]; exact h1)];exact hw
theorem NM {P:Program} {H:A3} {t e ty:TypeId} {b:Option Addr} {c:Nat} {k:Value->A3->Prop} (hu:P.underlying t=some (.slice e)) (hk:k (.tuple #[]) H):@YG P t ty (.slice b 0 c) ⟨H⟩ ⟨k⟩:=by
 show hwp P (Builtin.clear_ #[t] ty #[.slice b 0 c]) H k _;unfold Builtin.clear_;simp only [Jw,Z1];refine Aa (A6 hu H) ?_;cases b <;> exact hk
end Go.HL
