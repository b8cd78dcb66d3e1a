/- Closed runs: comparisons of what is no number and no text; parts of structs. -/
import Derived.Test.YtkdlmdmlomgdiaaGreatL12
set_option linter.unusedSimpArgs false
set_option linter.unusedVariables false
set_option maxRecDepth 10000
set_option maxHeartbeats 8000000
noncomputable section
namespace Go.Run
open Go.HL
variable {σ:Nat->Value} {F:Nat->Option Obj} {φ:Phi} {A:AH} {H:A3} {P:Program} {V:HV}
section
def IU (g:Nat) (v:AV):Bool :=
 v.yd (fun _ _=>Nat.beq g 0) (v.yl (fun _ _ _ _ _ _=>Nat.beq g 1) (v.yv (fun _=>Nat.beq g 2) (v.nq (fun _ _ _=>Nat.beq g 3) (v.bn (fun _ _=>Nat.beq g 4) false))))
def eqN (g:Nat) (x y:AV) (k:Bool->Bool):Bool :=
 x.yg (fun a=>ifB (Nat.beq a g) (y.yg (fun b=>ifB (Nat.beq b g) (k true) false) (ifB (IU g y) (k false) false)) false)
  (y.yg (fun b=>ifB (Nat.beq b g) (ifB (IU g x) (k false) false) false) false)
def EH (g:Nat) (w:Value) (b:Bool):Prop :=
 match g with
 | 0=>if b then w=.pointer none else ∃ a,w=.pointer (some a)
 | 1=>if b then w=.slice none 0 0 else ∃ a n c,w=.slice (some a) n c
 | 2=>if b then w=.map none else ∃ r,w=.map (some r)
 | 3=>if b then w=.nilFunc else ∃ f xs ys,w=.func f xs ys
 | 4=>if b then w=.nilIface else ∃ t v,w=.iface t v
 | _=>False
theorem MA {g:Nat} {v:AV} {w:Value} (hv:VR σ φ v w) (h:IU g v=true):EH g w false:=by
 cases v with
 | p i o=>have:g=0:=J9 h; subst this; simp only [VR] at hv; obtain ⟨e,_,rfl⟩:=hv; exact ⟨_,rfl⟩
 | q i o len cap z ex=>have:g=1:=J9 h; subst this; simp only [VR] at hv; obtain ⟨e,x,c,_,rfl,_⟩:=hv; exact ⟨_,_,_,rfl⟩
 | m i=>have:g=2:=J9 h; subst this; simp only [VR] at hv; obtain ⟨e,_,rfl⟩:=hv; exact ⟨_,rfl⟩
 | f fn xs ys=>have:g=3:=J9 h; subst this; simp only [VR] at hv; obtain ⟨xs',ys',rfl,_⟩:=hv; exact ⟨_,_,_,rfl⟩
 | i t u2=>have:g=4:=J9 h; subst this; simp only [VR] at hv; obtain ⟨v',rfl,_⟩:=hv; exact ⟨_,_,rfl⟩
 | _=>cases h
theorem M3 {g:Nat} {w:Value} (hg:g<=4) (hv:VR σ φ (.nil g) w):EH g w true:=by
 simp only [VR] at hv;subst hv;match g,hg with
 | 0,_=>rfl
 | 1,_=>rfl
 | 2,_=>rfl
 | 3,_=>rfl
 | 4,_=>rfl
theorem XS {g:Nat} {x y:AV} {w w':Value} {k:Bool->Bool} (hg:g<=4) (hx:VR σ φ x w) (hy:VR σ φ y w') (h:eqN g x y k=true):∃ a b,EH g w a/\EH g w' b/\(a || b)=true/\k (a && b)=true:=by
 unfold eqN at h;rcases AV.zq x (fun a=>ifB (Nat.beq a g) (y.yg (fun b=>ifB (Nat.beq b g) (k true) false) (ifB (IU g y) (k false) false)) false)
  (y.yg (fun b=>ifB (Nat.beq b g) (ifB (IU g x) (k false) false) false) false) with ⟨a,rfl,e⟩ | e
 ·rw [e] at h;obtain ⟨h1,h⟩:=Ab h;have:=J9 h1;subst this;rcases AV.zq y (fun b=>ifB (Nat.beq b a) (k true) false) (ifB (IU a y) (k false) false) with ⟨b,rfl,e⟩ | e
  ·rw [e] at h;obtain ⟨h2,h'⟩:=Ab h;clear h;have:=J9 h2;subst this;exact ⟨true,true,M3 hg hx,M3 hg hy,rfl,h'⟩
  ·rw [e] at h;obtain ⟨h2,h⟩:=Ab h;exact ⟨true,false,M3 hg hx,MA hy h2,rfl,h⟩
 ·rw [e] at h;rcases AV.zq y (fun b=>ifB (Nat.beq b g) (ifB (IU g x) (k false) false) false) false with ⟨b,rfl,e⟩ | e
  ·rw [e] at h;obtain ⟨h1,h⟩:=Ab h;have:=J9 h1;subst this;obtain ⟨h2,h⟩:=Ab h;exact ⟨false,true,MA hx h2,M3 hg hy,rfl,h⟩
  ·rw [e] at h; cases h
def K0:TypeDesc->Option Nat
 | .pointer _=>some 0 | .slice _=>some 1 | .map _ _=>some 2 | .func ..=>some 3 | .interface _=>some 4 | _=>none
theorem QB {t:TypeId} {d:TypeDesc} {g:Nat} {w w':Value} {a b:Bool} (hu:P.underlying t=some d) (hg:K0 d=some g) (h1:EH g w a) (h2:EH g w' b) (hab:(a || b)=true) :
  Ac P (Op.equal t w w') H=some (a && b):=by
 unfold Op.equal Op.maxDepth Op.equalIn
 rw [A4,A6 hu,J0]
 unfold K0 at hg
 split at hg <;> (try cases hg)
 all_goals (cases a <;> cases b <;> simp only [EH] at h1 h2 <;> try cases hab)
 all_goals first
  | (obtain ⟨_,rfl⟩:=h1; obtain rfl:_=_:=h2; rfl)
  | (obtain ⟨_,_,_,rfl⟩:=h1; obtain rfl:_=_:=h2; rfl)
  | (obtain ⟨_,_,rfl⟩:=h1; obtain rfl:_=_:=h2; rfl)
  | (obtain ⟨_,rfl⟩:=h2; obtain rfl:_=_:=h1; rfl)
  | (obtain ⟨_,_,_,rfl⟩:=h2; obtain rfl:_=_:=h1; rfl)
  | (obtain ⟨_,_,rfl⟩:=h2; obtain rfl:_=_:=h1; rfl)
  | (obtain rfl:_=_:=h1; obtain rfl:_=_:=h2; rfl)
def BL:Operand->Operand->Bool
 | .const _,_=>true
 | _,.const _=>true
 | _,_=>false
theorem Qu {t:TypeId} {op:BinOp} (hop:op=.eql\/op=.neq) {xo yo:Operand} {g:Nat} {w w':Value} {a b:Bool} (hc:BL xo yo=true) (h1:EH g w a) (h2:EH g w' b):Ac P (eqGuard op t xo yo w w') H=some ():=by
 have key:(∃ p q,w=.agg p/\w'=.agg q)\/Ac P (eqGuard op t xo yo w w') H=some ():=by
  rcases hop with rfl | rfl <;> cases xo <;> (try cases yo) <;> (try cases hc) <;> cases w <;> (first | exact .inr rfl | skip) <;> cases w' <;> first | exact .inr rfl | exact .inl ⟨_,_,rfl,rfl⟩
 rcases key with ⟨p,q,rfl,rfl⟩ | h
 ·exfalso;unfold EH at h1;split at h1 <;> first | exact h1 | (split at h1 <;> simp at h1)
 ·exact h
theorem Sr {t:TypeId} {op:BinOp} {xo yo:Operand} {w w':Value} (h1:∀ k x k' y,¬ (w=.int k x/\w'=.int k' y)) (h2:∀ x y,¬ (w=.string x/\w'=.string y)) :
  B0 P V op t xo yo w w'=EG P (do eqGuard op t xo yo w w'; binOp op t w w') V:=by
 unfold B0
 split
 ·exact absurd ⟨rfl,rfl⟩ (h1 _ _ _ _)
 ·exact absurd ⟨rfl,rfl⟩ (h2 _ _)
 ·rfl
def LQ:Value->Prop
 | .int _ _ | .float _ _ | .complex _ _ _ | .string _=>False
 | _=>True
theorem QL {t:TypeId} {w w':Value} (h:LQ w):binOp .eql t w w'=(do pure (.bool (<- Op.equal t w w'))):=by
 cases w <;> first | rfl | exact h.elim | (cases w' <;> rfl)
theorem QK {t:TypeId} {w w':Value} (h:LQ w):binOp .neq t w w'=(do pure (.bool (!(<- Op.equal t w w')))):=by
 cases w <;> first | rfl | exact h.elim | (cases w' <;> rfl)
theorem Mq {t:TypeId} {op:BinOp} {xo yo:Operand} {w w':Value} {r:Bool} (hop:op=.eql\/op=.neq) (h:LQ w)
  (hg:Ac P (eqGuard op t xo yo w w') H=some ()) (he:Ac P (Op.equal t w w') H=some r):B0 P (AI H) op t xo yo w w'=some (.bool (if op=.eql then r else !r)):=by
 rw [Sr (fun k x k' y e=>by rw [e.1] at h; exact h) (fun x y e=>by rw [e.1] at h; exact h)]
 show Ac P (do eqGuard op t xo yo w w'; binOp op t w w') H=_
 rw [A4,hg,J0]
 rcases hop with rfl | rfl
 ·rw [QL h,A4,he]; rfl
 ·rw [QK h,A4,he]; rfl
theorem Qr {g:Nat} {w:Value} {a:Bool} (h:EH g w a):LQ w:=by
 cases w <;> first | trivial | (unfold EH at h; exfalso; split at h <;> first | exact h | (split at h <;> simp at h))
def Ip (g:Nat) (neg:Bool) (x y:AV) (k:AV->Bool):Bool:=eqN g x y fun b=>k (.b (@Bool.rec (fun _=>Bool) b (@Bool.rec (fun _=>Bool) true false b) neg))
theorem Pc {t:TypeId} {d:TypeDesc} {g:Nat} {op:BinOp} {xo yo:Operand} {x y:AV} {w w':Value} {k:AV->Bool} (hop:op=.eql\/op=.neq) (hu:P.underlying t=some d) (hg:K0 d=some g) (hc:BL xo yo=true)
  (hx:VR σ φ x w) (hy:VR σ φ y w') (h:Ip g (match op with | .eql=>false | _=>true) x y k=true):∃ v r,B0 P (AI H) op t xo yo w w'=some r/\VR σ φ v r/\k v=true:=by
 have hg4:g<=4:=by unfold K0 at hg; split at hg <;> cases hg <;> omega
 obtain ⟨a,b,h1,h2,h3,h4⟩:=XS hg4 hx hy h
 refine ⟨_,_,Mq hop (Qr h1) (Qu hop hc h1 h2) (QB hu hg h1 h2 h3),?_,h4⟩
 simp only [VR]
 rcases hop with rfl | rfl
 ·rfl
 ·cases a <;> cases b <;> rfl
def YN (neg:Bool) (x y:AV) (k:AV->Bool):Bool:=x.y0 (fun a=>y.y0 (fun b=>k (.b (@Bool.rec (fun _=>Bool) (@Bool.rec (fun _=>Bool) (@Bool.rec (fun _=>Bool) true false b) b a) (@Bool.rec (fun _=>Bool) b (@Bool.rec (fun _=>Bool) true false b) a) neg))) false) false
theorem PF {t:TypeId} {op:BinOp} {xo yo:Operand} {x y:AV} {w w':Value} {k:AV->Bool} (hop:op=.eql\/op=.neq) (hu:P.underlying t=some .bool)
  (hx:VR σ φ x w) (hy:VR σ φ y w') (h:YN (match op with | .eql=>false | _=>true) x y k=true):∃ v r,B0 P (AI H) op t xo yo w w'=some r/\VR σ φ v r/\k v=true:=by
 obtain ⟨a,rfl,rfl,h⟩:=Cx hx h
 obtain ⟨b,rfl,rfl,h⟩:=Cx hy h
 refine ⟨_,.bool (if op=.eql then a == b else !(a == b)),?_,?_,h⟩
 ·rcases hop with rfl | rfl
  ·exact Hb hu
  ·exact Mr hu
 ·simp only [VR]
  rcases hop with rfl | rfl <;> cases a <;> cases b <;> rfl
end
end Go.Run
namespace Go.Run
open Go.HL
variable {σ:Nat->Value} {F:Nat->Option Obj} {φ:Phi} {A:AH} {H:A3} {P:Program} {V:HV}
section
abbrev Ax (T:TR) (t:Nat) (k:TI->Bool):Bool:=@Option.rec TI (fun _=>Bool) false k (T.get t)
theorem Ad {T:TR} (hT:Bl P T) {t:Nat} {k:TI->Bool} (h:Ax T t k=true):∃ i,TIok P t i/\k i=true:=by
 unfold Ax at h;cases hg:T.get t with
 | none=>rw [hg] at h; cases h
 | some i=>rw [hg] at h; exact ⟨i,hT t i hg,h⟩
abbrev KH (k:TK):Bool:=@TK.rec (fun _=>Bool) (fun _=>false) false false (fun _=>false) (fun _=>false) (fun _ _=>true) (fun _ _=>false) true false false false k
theorem ED {t:Nat} {i:TI} (hi:TIok P t i):CX P t=some (if KH i.k then some i.size else none):=by
 obtain ⟨d,h1,h2⟩:=hi.kind;unfold CX;rw [h1,<- h2];cases d <;> simp [BZ,KH,hi.size]
abbrev ldT (T:TR) (A:AH) (t:Nat) (p:AV) (k:AV->Bool):Bool:=Ax T t fun i=>@Bool.rec (fun _=>Bool) (ld A p k) (ldN A p i.size fun l=>k (.a l)) (KH i.k)
theorem OA {T:TR} (hT:Bl P T) {t:Nat} {p:AV} {w:Value} {k:AV->Bool} (h:Rel σ F φ A H) (hp:VR σ φ p w) (hk:ldT T A t p k=true) :
  ∃ a v r,w=.pointer (some a)/\loadA P (AI H) t a=some r/\VR σ φ v r/\k v=true:=by
 obtain ⟨i,hi,hk⟩:=Ad hT hk
 cases hb:KH i.k with
 | false =>
  rw [hb] at hk;obtain ⟨a,v,r,h1,h2,h3,h4,h5⟩:=RX h hp hk;refine ⟨a,v,r,h1,?_,h4,h5⟩;unfold loadA;rw [ED hi,hb];exact h3
 | true =>
  rw [hb] at hk;obtain ⟨a,l,ws,h1,h2,h3,h4,h5,h6⟩:=Qo h hp hk;refine ⟨a,.a l,.agg ws.toArray,h1,?_,by simp only [VR]; exact ⟨_,rfl,by simpa using h5⟩,h6⟩;unfold loadA;rw [ED hi,hb];simp only [Zr];show (Ay (A5 H) a 0 i.size).map _=_;rw [h3];rfl
abbrev YP (op:BinOp) (kd:TK) (xo yo:Operand) (x y:AV) (k:AV->Bool):Bool :=
 match kd,op with
 | .int _,.add=>YS x y k
 | .int _,.sub=>VA x y k
 | .int _,.mul=>j1q x y k
 | .int _,.quo=>j0v x y k
 | .int _,.rem=>j0u x y k
 | .int _,.and=>j3l x y k
 | .int _,.or=>orA x y k
 | .int _,.xor=>Vl x y k
 | .int _,.eql=>j2x x y k
 | .int _,.neq=>j1o x y k
 | .int _,.lss=>j1w x y k
 | .int _,.leq=>j1y x y k
 | .int _,.gtr=>j2m x y k
 | .int _,.geq=>j2n x y k
 | .int _,op=>FK op x y k
 | .str,.add=>R5 x y k
 | .str,.eql=>VW x y k
 | .str,.neq=>VK x y k
 | .bool,.eql=>YN false x y k
 | .bool,.neq=>YN true x y k
 | .ptr _,.eql=>@Bool.rec (fun _=>Bool) false (Ip 0 false x y k) (BL xo yo)
 | .ptr _,.neq=>@Bool.rec (fun _=>Bool) false (Ip 0 true x y k) (BL xo yo)
 | .slice _,.eql=>@Bool.rec (fun _=>Bool) false (Ip 1 false x y k) (BL xo yo)
 | .slice _,.neq=>@Bool.rec (fun _=>Bool) false (Ip 1 true x y k) (BL xo yo)
 | .map _ _,.eql=>@Bool.rec (fun _=>Bool) false (Ip 2 false x y k) (BL xo yo)
 | .map _ _,.neq=>@Bool.rec (fun _=>Bool) false (Ip 2 true x y k) (BL xo yo)
 | .func,.eql=>@Bool.rec (fun _=>Bool) false (Ip 3 false x y k) (BL xo yo)
 | .func,.neq=>@Bool.rec (fun _=>Bool) false (Ip 3 true x y k) (BL xo yo)
 | .iface,.eql=>@Bool.rec (fun _=>Bool) false (Ip 4 false x y k) (BL xo yo)
 | .iface,.neq=>@Bool.rec (fun _=>Bool) false (Ip 4 true x y k) (BL xo yo)
 | _,_=>false
theorem Br {op:BinOp} {f:AV->AV->(AV->Bool)->Bool} (h:Ck P op f) {t:TypeId} {xo yo:Operand} {x y:AV} {w w':Value} {k:AV->Bool} (hx:VR σ φ x w) (hy:VR σ φ y w') (hk:f x y k=true) :
  ∃ v r,B0 P (AI H) op t xo yo w w'=some r/\VR σ φ v r/\k v=true :=
 let ⟨r,v,a,b,c⟩:=h _ _ (AI H) t xo yo _ _ _ _ _ hx hy hk; ⟨v,r,a,b,c⟩
theorem Uz {t:TypeId} {op:BinOp} {kd:TK} {d:TypeDesc} {xo yo:Operand} {x y:AV} {w w':Value} {k:AV->Bool} (hu:P.underlying t=some d) (hd:BZ d=kd)
  (hx:VR σ φ x w) (hy:VR σ φ y w') (h:YP op kd xo yo x y k=true):∃ v r,B0 P (AI H) op t xo yo w w'=some r/\VR σ φ v r/\k v=true:=by
 have nil:∀ (g:Nat) (b:Bool),K0 d=some g->(op=.eql/\b=false\/op=.neq/\b=true)->@Bool.rec (fun _=>Bool) false (Ip g b x y k) (BL xo yo)=true->∃ v r,B0 P (AI H) op t xo yo w w'=some r/\VR σ φ v r/\k v=true:=by
  intro g b hg hop hk;obtain ⟨hc,hk⟩:=Dm hk;rcases hop with ⟨rfl,rfl⟩ | ⟨rfl,rfl⟩
  ·exact Pc (op:=.eql) (.inl rfl) hu hg hc hx hy hk
  ·exact Pc (op:=.neq) (.inr rfl) hu hg hc hx hy hk
 unfold YP at h
 split at h
 ·exact Br PM hx hy h
 ·exact Br P3 hx hy h
 ·exact Br TE hx hy h
 ·exact Br Tk hx hy h
 ·exact Br Ti hx hy h
 ·exact Br UF hx hy h
 ·exact Br WE hx hy h
 ·exact Br OZ hx hy h
 ·exact Br Ui hx hy h
 ·exact Br TB hx hy h
 ·exact Br TP hx hy h
 ·exact Br TU hx hy h
 ·exact Br U7 hx hy h
 ·exact Br U9 hx hy h
 ·exact Br IR hx hy h
 ·exact Br ML hx hy h
 ·exact Br P8 hx hy h
 ·exact Br P5 hx hy h
 ·have:d=.bool:=by cases d <;> first | rfl | cases hd
  subst this
  exact PF (op:=.eql) (.inl rfl) hu hx hy h
 ·have:d=.bool:=by cases d <;> first | rfl | cases hd
  subst this
  exact PF (op:=.neq) (.inr rfl) hu hx hy h
 ·exact nil 0 false (by cases d <;> first | rfl | cases hd) (.inl ⟨rfl,rfl⟩) h
 ·exact nil 0 true (by cases d <;> first | rfl | cases hd) (.inr ⟨rfl,rfl⟩) h
 ·exact nil 1 false (by cases d <;> first | rfl | cases hd) (.inl ⟨rfl,rfl⟩) h
 ·exact nil 1 true (by cases d <;> first | rfl | cases hd) (.inr ⟨rfl,rfl⟩) h
 ·exact nil 2 false (by cases d <;> first | rfl | cases hd) (.inl ⟨rfl,rfl⟩) h
 ·exact nil 2 true (by cases d <;> first | rfl | cases hd) (.inr ⟨rfl,rfl⟩) h
 ·exact nil 3 false (by cases d <;> first | rfl | cases hd) (.inl ⟨rfl,rfl⟩) h
 ·exact nil 3 true (by cases d <;> first | rfl | cases hd) (.inr ⟨rfl,rfl⟩) h
 ·exact nil 4 false (by cases d <;> first | rfl | cases hd) (.inl ⟨rfl,rfl⟩) h
 ·exact nil 4 true (by cases d <;> first | rfl | cases hd) (.inr ⟨rfl,rfl⟩) h
 ·cases h
end
end Go.Run
namespace Go.Run
open Go.HL
variable {σ:Nat->Value} {F:Nat->Option Obj} {φ:Phi} {A:AH} {H:A3} {P:Program} {V:HV}
section
abbrev Qd (l:List (Nat × Nat)) (n:Nat) (k:Nat->Nat->Bool):Bool:=@Option.rec (Nat × Nat) (fun _=>Bool) false (fun x=>k x.1 x.2) l[n]?
theorem M1 {l:List (Nat × Nat)} {n:Nat} {k:Nat->Nat->Bool} (h:Qd l n k=true):∃ d t,l[n]?=some (d,t)/\k d t=true:=by
 unfold Qd at h;cases hl:l[n]? with
 | none=>rw [hl] at h; cases h
 | some x=>rw [hl] at h; exact ⟨x.1,x.2,rfl,h⟩
abbrev Oo (U:Nat->AV) (pl:List (Nat × Nat)) (ps:List (Nat × Operand)) (k:List (Nat × Nat × AV)->Bool):Bool :=
 @List.rec (Nat × Operand) (fun _=>(List (Nat × Nat × AV)->Bool)->Bool) (fun k=>k []) (fun p _ ih k=>Qd pl p.1 fun d z=>ih fun l=>k ((d,z,ev U p.2) :: l)) ps k
theorem KY {U:Nat->AV} {e:En} (he:ER σ φ U e) {pl:List (Nat × Nat)}:∀ (ps:List (Nat × Operand)) (k:List (Nat × Nat × AV)->Bool),Oo U pl ps k=true ->
  ∃ l,l.length=(ps.map fun p=>(p.1,e.ev p.2)).length/\(∀ (j:Nat) p q,l[j]?=some p->(ps.map fun p=>(p.1,e.ev p.2))[j]?=some q->pl[q.1]?=some (p.1,p.2.1)/\VR σ φ p.2.2 q.2)/\k l=true
 | [],k,h=>⟨[],rfl,by simp,h⟩
 | p :: ps,k,h=>by
  obtain ⟨d,z,h1,h2⟩:=M1 (show Qd pl p.1 (fun d z=>Oo U pl ps fun l=>k ((d,z,ev U p.2) :: l))=true from h);obtain ⟨l,h3,h4,h5⟩:=KY he ps _ h2;refine ⟨_,by simpa using h3,?_,h5⟩;intro j p' q' a b;cases j with
  | zero =>
   simp only [Z1,J5,Jz] at a b;subst a b;exact ⟨h1,Ah he p.2⟩
  | succ j=>exact h4 j p' q' (by simpa using a) (by simpa using b)
abbrev JM (U:Nat->AV) (z:Nat) (ps:List (Nat × Operand)) (k:List (Nat × Nat × AV)->Bool):Bool :=
 @List.rec (Nat × Operand) (fun _=>(List (Nat × Nat × AV)->Bool)->Bool) (fun k=>k []) (fun p _ ih k=>ih fun l=>k ((Nat.mul p.1 z,z,ev U p.2) :: l)) ps k
theorem E2 {U:Nat->AV} {e:En} (he:ER σ φ U e) {z:Nat}:∀ (ps:List (Nat × Operand)) (k:List (Nat × Nat × AV)->Bool),JM U z ps k=true ->
  ∃ l,l.length=(ps.map fun p=>(p.1,e.ev p.2)).length/\(∀ (j:Nat) p q,l[j]?=some p->(ps.map fun p=>(p.1,e.ev p.2))[j]?=some q->p.1=q.1 * z/\p.2.1=z/\VR σ φ p.2.2 q.2)/\k l=true
 | [],k,h=>⟨[],rfl,by simp,h⟩
 | p :: ps,k,h=>by
  obtain ⟨l,h3,h4,h5⟩:=E2 he ps _ (show JM U z ps (fun l=>k ((Nat.mul p.1 z,z,ev U p.2) :: l))=true from h);refine ⟨_,by simpa using h3,?_,h5⟩;intro j p' q' a b;cases j with
  | zero =>
   simp only [Z1,J5,Jz] at a b;subst a b;exact ⟨rfl,rfl,Ah he p.2⟩
  | succ j=>exact h4 j p' q' (by simpa using a) (by simpa using b)
abbrev VP (T:TR) (U:Nat->AV) (t:Nat) (x:Operand) (lo hi:Option Operand) (k:AV->Bool):Bool:=Ax T t fun i=>match i.k,lo,hi with
 | .slice e,none,some h=>Ax T e fun j=>VT (ev U x) j.size (ev U h) k
 | .slice e,some l,none=>Ax T e fun j=>VQ (ev U x) j.size (ev U l) k
 | .slice e,some l,some h=>Ax T e fun j=>VS (ev U x) j.size (ev U l) (ev U h) k
 | .str,none,some h=>j0m (ev U x) (ev U h) k
 | .str,some l,none=>j0k (ev U x) (ev U l) k
 | .str,some l,some h=>j0l (ev U x) (ev U l) (ev U h) k
 | _,_,_=>false
theorem B6 {t e:Nat} {d:TypeDesc} {j:TI} (hu:P.underlying t=some d) (hd:BZ d=.slice e) (hj:TIok P e j):BP P t=some j.size/\AN P t=some e/\P.underlying t=some (.slice e):=by
 have:d=.slice e:=(by cases d <;> cases hd <;> rfl);subst this;refine ⟨?_,?_,hu⟩
 ·simp [BP,AN,hu,hj.size]
 ·simp [AN,hu]
theorem Eg {t:Nat} {d:TypeDesc} (hu:P.underlying t=some d) (hd:BZ d=.str):P.underlying t=some .string:=by
 have:d=.string:=(by cases d <;> cases hd <;> rfl);subst this; exact hu
theorem T7 {T:TR} (hT:Bl P T) {U:Nat->AV} {e:En} (he:ER σ φ U e) {t:Nat} {x:Operand} {lo hi:Option Operand} {k:AV->Bool} (h:VP T U t x lo hi k=true) :
  ∃ v r,Be P t (e.ev x) (CK e.ev lo) (CK e.ev hi) none=some r/\VR σ φ v r/\k v=true:=by
 obtain ⟨i,hi',h⟩:=Ad hT h
 obtain ⟨d,hu,hd⟩:=hi'.kind
 split at h
 ·rename_i el hh hk _
  obtain ⟨j,hj,h⟩:=Ad hT h
  exact Ta (B6 hu (hd.trans hk) hj).1 (Ah he x) (Ah he hh) h
 ·rename_i el hh hk _
  obtain ⟨j,hj,h⟩:=Ad hT h
  exact T8 (B6 hu (hd.trans hk) hj).1 (Ah he x) (Ah he hh) h
 ·rename_i el l hh hk _
  obtain ⟨j,hj,h⟩:=Ad hT h
  exact T9 (B6 hu (hd.trans hk) hj).1 (Ah he x) (Ah he l) (Ah he hh) h
 ·rename_i hh hk _
  exact T5 (Eg hu (hd.trans hk)) (Ah he x) (Ah he hh) h
 ·rename_i hh hk _
  exact T3 (Eg hu (hd.trans hk)) (Ah he x) (Ah he hh) h
 ·rename_i l hh hk _
  exact T4 (Eg hu (hd.trans hk)) (Ah he x) (Ah he l) (Ah he hh) h
 ·cases h
end
end Go.Run
namespace Go.Run
open Go.HL
variable {σ:Nat->Value} {F:Nat->Option Obj} {φ:Phi} {A:AH} {H:A3} {P:Program} {V:HV}
section
def eqB (a b:Bool):Bool:=@Bool.rec (fun _=>Bool) (@Bool.rec (fun _=>Bool) true false b) b a
theorem Se (a b:Bool):eqB a b=(a == b):=by cases a <;> cases b <;> rfl
def XT (a b:AV) (k:Bool->Bool):Bool:=a.int fun g x=>b.int fun g' y=>ifB (Nat.beq (BM g) (BM g')) (k (eqI x y)) false
def j2z (a b:AV) (k:Bool->Bool):Bool:=a.y0 (fun p=>b.y0 (fun q=>k (eqB p q)) false) false
def j2y (a b:AV) (k:Bool->Bool):Bool:=a.yk (fun l=>b.yk (fun l'=>k (eqL l l')) false) false
theorem Pt {a b:AV} {w w':Value} {k:Bool->Bool} {g:IntKind} (ha:VR σ φ a w) (hb:VR σ φ b w') (h:XT a b k=true):∃ r,eqD (some (.int g)) w w'=some r/\k r=true:=by
 obtain ⟨g,x,rfl,h⟩:=AV.zh ha h;obtain ⟨g',y,rfl,h⟩:=AV.zh hb h;obtain ⟨hg,h5⟩:=Ab h;clear h;have:=CF hg;subst this;rw [Kb] at h5;refine ⟨_,?_,h5⟩;simp [eqD];rfl
theorem Ul {a b:AV} {w w':Value} {k:Bool->Bool} (ha:VR σ φ a w) (hb:VR σ φ b w') (h:j2z a b k=true):∃ r,eqD (some .bool) w w'=some r/\k r=true:=by
 obtain ⟨p,rfl,rfl,h⟩:=Cx ha h;obtain ⟨q,rfl,rfl,h⟩:=Cx hb h;rw [Se] at h;exact ⟨_,rfl,h⟩
theorem Uj {a b:AV} {w w':Value} {k:Bool->Bool} (ha:VR σ φ a w) (hb:VR σ φ b w') (h:j2y a b k=true):∃ r,eqD (some .string) w w'=some r/\k r=true:=by
 obtain ⟨l,rfl,rfl,h1,h⟩:=AT ha h;obtain ⟨l',rfl,rfl,h2,h⟩:=AT hb h;rw [HT] at h;refine ⟨_,?_,h⟩;show some (Bb l == Bb l')=_;congr 1;rw [Kp];congr 1;exact propext (Hk h1 h2)
abbrev eq1 (kd:Nat) (a b:AV) (k:Bool->Bool):Bool :=
 match kd with
 | 0=>XT a b k
 | 1=>j2z a b k
 | 2=>j2y a b k
 | 3=>XT a b k
 | _=>false
theorem XU {a b:AV} {w w':Value} {k:Bool->Bool} {t kd:Nat} (hk:FR P t=some kd) (ha:VR σ φ a w) (hb:VR σ φ b w') (h:eq1 kd a b k=true):∃ r,eqD (P.underlying t) w w'=some r/\k r=true:=by
 unfold FR at hk;split at hk
 ·rename_i hu; cases hk; rw [hu]; exact Pt ha hb h
 ·rename_i hu; cases hk; rw [hu]; exact Ul ha hb h
 ·rename_i hu; cases hk; rw [hu]; exact Uj ha hb h
 ·rename_i hu; cases hk; rw [hu]; exact Pt ha hb h
 ·cases hk
def XR (l:List (Nat × Nat)) (xs ys:List AV) (k:Bool->Bool):Bool :=
 @List.rec (Nat × Nat) (fun _=>Bool) (k true) (fun f _ ih=>M0 xs f.1 fun a=>M0 ys f.1 fun b=>eq1 f.2 a b fun r=>@Bool.rec (fun _=>Bool) (k false) ih r) l
theorem Mg {xs ys:List AV} {ws us:List Value} {k:Bool->Bool} (hx:VRl σ φ xs ws) (hy:VRl σ φ ys us):∀ (fs:List Field) (l:List (Nat × Nat)),Ij P fs=some l->XR l xs ys k=true->∃ r,HU P ws us fs=some r/\k r=true
 | [],l,hl,h=>by
  simp only [Ij,J5] at hl;subst hl;exact ⟨true,rfl,h⟩
 | f :: fs,l,hl,h=>by
  unfold Ij at hl;unfold HU;by_cases hn:f.name = "_"
  ·rw [J8 hn] at hl ⊢;exact Mg hx hy fs l hl h
  ·rw [J4 hn] at hl ⊢;cases hkd:FR P f.type with
   | none=>rw [hkd] at hl; cases hl
   | some kd =>
    cases hr:Ij P fs with
    | none=>rw [hkd,hr] at hl; cases hl
    | some r =>
     rw [hkd,hr] at hl;simp only [J0,Ju,J5] at hl;subst hl;replace h:M0 xs f.offset (fun a=>M0 ys f.offset fun b=>eq1 kd a b fun q=>@Bool.rec (fun _=>Bool) (k false) (XR r xs ys k) q)=true:=h;obtain ⟨a,h1,h⟩:=D1 h;obtain ⟨b,h2,h⟩:=D1 h;obtain ⟨w,h3,h4⟩:=hx.get h1;obtain ⟨u,h5,h6⟩:=hy.get h2;obtain ⟨q,h7,h⟩:=XU hkd h4 h6 h;rw [h3,h5];simp only [J0,h7];cases q with
     | true=>exact Mg hx hy fs r hr h
     | false=>exact ⟨false,rfl,h⟩
def VD (l:List (Nat × Nat)) (neg:Bool) (x y:AV) (k:AV->Bool):Bool :=
 x.xp (fun xs=>y.xp (fun ys=>XR l xs ys fun b=>k (.b (@Bool.rec (fun _=>Bool) b (@Bool.rec (fun _=>Bool) true false b) neg))) false) false
theorem P4 {t:Nat} {i:TI} {l:List (Nat × Nat)} {op:BinOp} {xo yo:Operand} {x y:AV} {w w':Value} {k:AV->Bool} (hop:op=.eql\/op=.neq) (hi:TIok P t i) (hl:i.eqk=some l)
  (hx:VR σ φ x w) (hy:VR σ φ y w') (h:VD l (match op with | .eql=>false | _=>true) x y k=true):∃ v r,B0 P (AI H) op t xo yo w w'=some r/\VR σ φ v r/\k v=true:=by
 obtain ⟨xs,c,rfl,rfl,h1,h⟩:=Dw hx h
 obtain ⟨ys,c',rfl,rfl,h2,h⟩:=Dw hy h
 have he:=hi.eqk
 rw [hl] at he
 unfold Mh at he
 split at he
 ·rename_i fs hu
  split at he
  ·cases he
  ·rename_i hs
   simp only [Z9,V1,Wj] at hs
   obtain ⟨r,h3,h⟩:=Mg h1 h2 fs.toList l he h
   have hb:=OP (H:=H) (xo:=xo) (yo:=yo) (t:=t) (fl:=fs.toList) (xs:=c.toList) (ys:=c'.toList) (r:=r) (by simpa using hu) hs.1 hs.2 h3
   simp only [Yr] at hb
   rcases hop with rfl | rfl
   ·exact ⟨_,_,hb.1,by simp only [VR],h⟩
   ·refine ⟨_,_,hb.2,?_,h⟩
    simp only [VR]
    cases r <;> rfl
 ·cases he
end
end Go.Run
namespace Go.HL
section
variable {P:Program} {H:A3}
structure PairT (P:Program) (k:TypeId):Prop where
 un:∃ f0 f1 t0 t1,P.underlying k=some (.struct [f0,f1].toArray)/\f0.name ≠ "_"/\f1.name ≠ "_"/\f0.offset=0/\f1.offset=1/\f0.type=t0/\f1.type=t1/\P.underlying t0=some (.int .i64)/\P.underlying t1=some (.int .i64)
 held:P.stoodInHeld k=false
abbrev pv (x:Int × Int):Value:=.agg [.int .i64 x.1,.int .i64 x.2].toArray
theorem PairT.equal {k:TypeId} (h:PairT P k) (x y:Int × Int):Ac P (Op.equal k (pv x) (pv y)) H=some (decide (x=y)):=by
 obtain ⟨f0,f1,t0,t1,hu,n0,n1,o0,o1,rfl,rfl,u0,u1⟩:=h.un;have e:HU P [.int .i64 x.1,.int .i64 x.2] [.int .i64 y.1,.int .i64 y.2] [f0,f1]=some (decide (x.1=y.1/\x.2=y.2/\True)) :=
  Pu n0 u0 (by rw [o0]; rfl) (by rw [o0]; rfl) (Pu n1 u1 (by rw [o1]; rfl) (by rw [o1]; rfl) Uk)
 have:=GU (H:=H) (d:=Op.maxDepth - 2) hu h.held e;have e2:decide (x.1=y.1/\x.2=y.2/\True)=decide (x=y):=by
  simp [Prod.ext_iff]
 rw [e2] at this;exact this
theorem PairT.check {k:TypeId} (h:PairT P k) {b:Bool} (x:Int × Int):Ac P (Instr.checkKey b 10000 k (pv x)) H=some ():=by
 obtain ⟨f0,f1,t0,t1,hu,n0,n1,o0,o1,rfl,rfl,u0,u1⟩:=h.un;have one:∀ (n:Int) (t:TypeId),P.underlying t=some (.int .i64)->Ac P (Instr.checkKey b 9999 t (.int .i64 n)) H=some ():=by
  intro n t ht;unfold Instr.checkKey;rw [A4,A6 ht];rfl
 have pt:∀ (t:TypeId) (o:Nat) (v:Value),P.underlying t=some (.int .i64)->[Value.int .i64 x.1,.int .i64 x.2][o]?=some v->Ac P (part t [Value.int .i64 x.1,.int .i64 x.2].toArray o) H=some v:=by
  intro t o v ht hv;refine Fq ?_;unfold GK CX;rw [ht];simpa using hv
 unfold Instr.checkKey;rw [A4,A6 hu,J0];simp only;rw [W7,Xz];simp only [ne_eq,n0,V6,Zr];rw [A4,A4,A4,pt _ _ _ u0 (by rw [o0]; rfl),J0,A4,one _ _ u0,J0];simp only [pure,Ac,J0];rw [Xz];simp only [n1,V6,Zr];rw [A4,A4,pt _ _ _ u1 (by rw [o1]; rfl),J0,A4,one _ _ u1,J0];rfl
end
end Go.HL
namespace Go.Run
open Go.HL
variable {σ:Nat->Value} {F:Nat->Option Obj} {φ:Phi} {A:AH} {H:A3} {P:Program} {V:HV}
section
def j5s (l l':List AV):Bool:=@List.rec AV (fun _=>List AV->Bool) (fun l'=>@List.rec AV (fun _=>Bool) true (fun _ _ _=>false) l') (fun x _ ih l'=>@List.rec AV (fun _=>Bool) false (fun y l' _=>x.ye (fun a=>y.ye (fun b=>ifB (Nat.beq a b) (ih l') false) false) false) l') l l'
def FW (a b:AV):Bool :=
 a.ye (fun x=>b.ye (fun y=>Nat.beq x y) false) (a.ui (fun _ x=>b.ui (fun _ y=>eqI x y) false) (a.yk (fun l=>b.yk (fun l'=>eqL l l') false) (a.xp (fun l=>b.xp (fun l'=>j5s l l') false) false)))
theorem BC {k:AV} {w:Value} (h:CQ k=some w):(∃ x,k=.n x/\x < 9223372036854775808/\w=.int .i64 x)\/(∃ x,k=.z .i64 x/\x < 0/\w=.int .i64 x)\/(∃ l,k=.s l/\(∀ x ∈ l,x < 256)/\w=.string (Bb l)) \/
  ∃ x y,k=.a [.n x,.n y]/\w=.agg #[.int .i64 (x:Nat),.int .i64 (y:Nat)]:=by
 unfold CQ at h
 split at h
 ·split at h
  ·cases h; exact .inl ⟨_,rfl,by assumption,rfl⟩
  ·cases h
 ·split at h
  ·cases h; exact .inr (.inl ⟨_,rfl,by assumption,rfl⟩)
  ·cases h
 ·split at h
  ·rename_i l hl
   cases h
   refine .inr (.inr (.inl ⟨_,rfl,?_,rfl⟩))
   simpa using hl
  ·cases h
 ·split at h
  ·cases h; exact .inr (.inr (.inr ⟨_,_,rfl,rfl⟩))
  ·cases h
 ·cases h
theorem K3 {k k':AV} {w:Value} (h:CQ k=some w) (h':CQ k'=some w):k=k':=by
 rcases BC h with ⟨x,rfl,hx,rfl⟩ | ⟨x,rfl,hx,rfl⟩ | ⟨l,rfl,hl,rfl⟩ | ⟨x,y,rfl,rfl⟩ <;>
  rcases BC h' with ⟨x',rfl,hx',e⟩ | ⟨x',rfl,hx',e⟩ | ⟨l',rfl,hl',e⟩ | ⟨x',y',rfl,e⟩ <;> simp at e
 ·have:x=x':=(by omega);subst this; rfl
 ·omega
 ·omega
 ·subst e; rfl
 ·rw [(Hk hl hl').1 e]
 ·obtain ⟨e1,e2⟩:=e;have e1:x=x':=(by omega);have e2:y=y':=(by omega);subst e1 e2; rfl
theorem Ka {k k':AV} {w w':Value} (h:CQ k=some w) (h':CQ k'=some w'):FW k k'=true↔k=k':=by
 rcases BC h with ⟨x,rfl,hx,rfl⟩ | ⟨x,rfl,hx,rfl⟩ | ⟨l,rfl,hl,rfl⟩ | ⟨x,y,rfl,rfl⟩ <;>
  rcases BC h' with ⟨x',rfl,hx',e⟩ | ⟨x',rfl,hx',e⟩ | ⟨l',rfl,hl',e⟩ | ⟨x',y',rfl,e⟩
 all_goals (try (constructor <;> intro e' <;> cases e'; done))
 ·show Nat.beq x x'=true↔_;rw [Nat.beq_eq]; simp
 ·show eqI x x'=true↔_;rw [Kb]; simp
 ·show eqL l l'=true↔_;rw [HT]; simp
 ·show ifB (Nat.beq x x') (ifB (Nat.beq y y') true false) false=true↔_;simp [OD,Nat.beq_eq]
def Pn (g:Nat) (k:AV):Bool:=ifB (Nat.beq (KG k) g) (k.ye (fun _=>true) (k.ui (fun g x=>ifB (Nat.beq (BM g) (BM .i64)) (ltI x 0) false) (k.yk (fun _=>true) (k.xp (fun l=>@List.rec AV (fun _=>Bool) false (fun a r _=>@List.rec AV (fun _=>Bool) false (fun b r _=>a.ye (fun _=>b.ye (fun _=>@List.rec AV (fun _=>Bool) true (fun _ _ _=>false) r) false) false) r) l) false)))) false
theorem GR {g:Nat} {k:AV} {w:Value} (hv:VR σ φ k w) (h:Pn g k=true):CQ k=some w/\KG k=g:=by
 obtain ⟨h1,h⟩:=Ab h;refine ⟨?_,J9 h1⟩;cases k with
 | n x=>simp only [VR] at hv; obtain ⟨rfl,hx⟩:=hv; simp only [CQ]; rw [J8 (by omega)]
 | z g' x =>
  replace h:ifB (Nat.beq (BM g') (BM .i64)) (ltI x 0) false=true:=h;obtain ⟨h2,h3⟩:=Ab h;clear h;have:=CF h2;subst this;rw [Ge] at h3;have h:=Xn h3;simp only [VR] at hv;subst hv;simp only [CQ]; rw [J8 h]
 | s l =>
  obtain ⟨l',e,rfl,hb,_⟩:=AT (k:=fun _=>true) hv rfl;simp only [AV.s.injEq] at e;subst e;simp only [CQ];rw [J8 (by simpa using hb)]
 | a l =>
  match l,h,hv with
  | [],h,_=>cases h
  | [a],h,_=>cases h
  | a :: b :: c :: r,h,_ =>
   exfalso;replace h:a.ye (fun _=>b.ye (fun _=>false) false) false=true:=h;cases a <;> first | cases h | (cases b <;> cases h)
  | [a,b],h,hv =>
   replace h:a.ye (fun _=>b.ye (fun _=>true) false) false=true:=h;cases a <;> first | cases h; done | skip
   cases b <;> first | cases h; done | skip
   simp only [VR,VRl] at hv;obtain ⟨c,rfl,w1,ws,e,⟨rfl,hx⟩,w2,ws2,rfl,⟨rfl,hy⟩,rfl⟩:=hv;simp only [CQ];rw [J8 ⟨by omega,by omega⟩];congr 2;apply Zk;exact e.symm
 | _=>cases h
def FND (w:Value) (es:List MapEntry) (i:Nat) (o:Option (Nat × Value)):Prop :=
 (o=none/\∀ e ∈ es,e.key ≠ w)\/∃ j e,es[j]?=some e/\e.key=w/\o=some (i + j,e.val)
theorem Gj {d:TypeDesc} {w:Value}:∀ (es:List MapEntry) (i:Nat),(∀ e ∈ es,∃ b,Instr.sameNow d w e.key=some b/\(b=true↔e.key=w))->∃ o,Instr.findNow d w es i=some o/\FND w es i o
 | [],i,_=>⟨none,rfl,.inl ⟨rfl,by simp⟩⟩
 | e :: es,i,h=>by
  obtain ⟨b,h1,h2⟩:=h e (by simp);unfold Instr.findNow;rw [h1];cases b with
  | true=>exact ⟨_,rfl,.inr ⟨0,e,rfl,h2.1 rfl,rfl⟩⟩
  | false =>
   have hne:e.key ≠ w:=fun x=>(by have:=h2.2 x; cases this);obtain ⟨o,h3,h4⟩:=Gj es (i + 1) fun x hx=>h x (by simp [hx]);refine ⟨o,h3,?_⟩;rcases h4 with ⟨rfl,h5⟩ | ⟨j,x,h5,h6,rfl⟩
   ·refine .inl ⟨rfl,fun y hy=>?_⟩;rcases J7.1 hy with rfl | hy
    ·exact hne
    ·exact h5 y hy
   ·exact .inr ⟨j + 1,x,by simpa using h5,h6,by congr 2; omega⟩
theorem FS {kt:TypeId} {w:Value}:∀ (es:List MapEntry) (i:Nat),(∀ e ∈ es,∃ b,Ac P (Op.equal kt w e.key) H=some b/\(b=true↔e.key=w))->∃ o,Ac P (Instr.findAsking kt w es i) H=some o/\FND w es i o
 | [],i,_=>⟨none,rfl,.inl ⟨rfl,by simp⟩⟩
 | e :: es,i,h=>by
  obtain ⟨b,h1,h2⟩:=h e (by simp);unfold Instr.findAsking;rw [A4,h1,J0];cases b with
  | true=>exact ⟨_,rfl,.inr ⟨0,e,rfl,h2.1 rfl,rfl⟩⟩
  | false =>
   have hne:e.key ≠ w:=fun x=>(by have:=h2.2 x; cases this);obtain ⟨o,h3,h4⟩:=FS es (i + 1) fun x hx=>h x (by simp [hx]);refine ⟨o,h3,?_⟩;rcases h4 with ⟨rfl,h5⟩ | ⟨j,x,h5,h6,rfl⟩
   ·refine .inl ⟨rfl,fun y hy=>?_⟩;rcases J7.1 hy with rfl | hy
    ·exact hne
    ·exact h5 y hy
   ·exact .inr ⟨j + 1,x,by simpa using h5,h6,by congr 2; omega⟩
def KC (P:Program) (g:Nat) (kt:TypeId):Prop :=
 match g with
 | 0=>P.underlying kt=some (.int .i64)
 | 1=>P.underlying kt=some .string
 | 2=>PairT P kt
 | _=>False
theorem DA {g:Nat} {kt:TypeId} {k:AV} {w:Value} {es:List MapEntry} (hc:KC P g kt) (hk:CQ k=some w) (hg:KG k=g) (he:∀ e ∈ es,∃ k',CQ k'=some e.key/\KG k'=g) :
  ∃ o,Ac P (Instr.findKey kt w es) H=some o/\FND w es 0 o:=by
 unfold Instr.findKey
 have int:∀ x:Int,w=.int .i64 x->g=0->∃ o,Ac P (do match Instr.findNow (<- underlying kt) w es 0 with
   | some r=>pure r
   | none=>Instr.findAsking kt w es) H=some o/\FND w es 0 o:=by
  rintro x rfl rfl
  obtain ⟨o,h1,h2⟩:=Gj (d:=.int .i64) (w:=.int .i64 x) es 0 fun e hm=>by
   obtain ⟨k',h3,h4⟩:=he e hm;rcases BC h3 with ⟨y,rfl,hy,e1⟩ | ⟨y,rfl,hy,e1⟩ | ⟨l,rfl,hl,e1⟩ | ⟨y,z,rfl,e1⟩
   ·rw [e1]; refine ⟨x == (y:Nat),by simp [Instr.sameNow],?_⟩; simp; exact eq_comm
   ·rw [e1]; refine ⟨x == y,by simp [Instr.sameNow],?_⟩; simp; exact eq_comm
   ·cases h4
   ·cases h4
  refine ⟨o,?_,h2⟩
  rw [A4,A6 hc,J0,h1]
  rfl
 rcases BC hk with ⟨x,rfl,hx,rfl⟩ | ⟨x,rfl,hx,rfl⟩ | ⟨l,rfl,hl,rfl⟩ | ⟨x,y,rfl,rfl⟩
 ·exact int _ rfl hg.symm
 ·exact int _ rfl hg.symm
 ·have hg:g=1:=hg.symm
  subst hg
  obtain ⟨o,h1,h2⟩:=Gj (d:=.string) (w:=.string (Bb l)) es 0 fun e hm=>by
   obtain ⟨k',h3,h4⟩:=he e hm;rcases BC h3 with ⟨y,rfl,hy,e1⟩ | ⟨y,rfl,hy,e1⟩ | ⟨l',rfl,hl',e1⟩ | ⟨y,z,rfl,e1⟩
   ·cases h4
   ·cases h4
   ·rw [e1];refine ⟨Bb l == Bb l',rfl,?_⟩;rw [Kp];simp only [Jk,Value.string.injEq];exact eq_comm
   ·cases h4
  refine ⟨o,?_,h2⟩
  rw [A4,A6 hc,J0,h1]
  rfl
 ·have hg:g=2:=hg.symm
  subst hg
  have hp:PairT P kt:=hc
  obtain ⟨f0,f1,t0,t1,hu,_⟩:=hp.un
  obtain ⟨o,h1,h2⟩:=FS (P:=P) (H:=H) (kt:=kt) (w:=.agg #[.int .i64 (x:Nat),.int .i64 (y:Nat)]) es 0 fun e hm=>by
   obtain ⟨k',h3,h4⟩:=he e hm;rcases BC h3 with ⟨y',rfl,hy,e1⟩ | ⟨y',rfl,hy,e1⟩ | ⟨l',rfl,hl',e1⟩ | ⟨x',y',rfl,e1⟩
   ·cases h4
   ·cases h4
   ·cases h4
   ·rw [e1];refine ⟨_,hp.equal ((x:Int),(y:Int)) ((x':Int),(y':Int)),?_⟩;simp;constructor <;> (rintro ⟨a,b⟩; exact ⟨a.symm,b.symm⟩)
  refine ⟨o,?_,h2⟩
  rw [A4,A6 hu,J0]
  cases es with
  | nil=>exact h1
  | cons a es=>exact h1
theorem DI {g:Nat} {kt:TypeId} {k:AV} {w:Value} {b:Bool} (hc:KC P g kt) (hk:CQ k=some w) (hg:KG k=g):Ac P (Instr.checkKey b 10000 kt w) H=some ():=by
 rcases BC hk with ⟨x,rfl,hx,rfl⟩ | ⟨x,rfl,hx,rfl⟩ | ⟨l,rfl,hl,rfl⟩ | ⟨x,y,rfl,rfl⟩
 ·have hg:g=0:=hg.symm;subst hg;exact CV hc
 ·have hg:g=0:=hg.symm;subst hg;exact CV hc
 ·have hg:g=1:=hg.symm;subst hg;unfold Instr.checkKey;rw [A4,A6 hc];rfl
 ·have hg:g=2:=hg.symm;subst hg;exact PairT.check hc ((x:Int),(y:Int))
def Lg (l:List (AV × AV)) (k:AV) (yes:AV->Bool) (no:Bool):Bool:=@List.rec (AV × AV) (fun _=>Bool) no (fun e _ ih=>@Bool.rec (fun _=>Bool) ih (yes e.2) (FW e.1 k)) l
theorem Nz {k:AV} {w:Value} {yes:AV->Bool} {no:Bool} (hk:CQ k=some w):∀ (l:List (AV × AV)),(∀ e ∈ l,∃ w',CQ e.1=some w')->Lg l k yes no=true ->
  (∃ x,(k,x) ∈ l/\yes x=true)\/((∀ x,(k,x) ∉ l)/\no=true)
 | [],_,h=>.inr ⟨by simp,h⟩
 | e :: l,hl,h=>by
  obtain ⟨w',hw'⟩:=hl e (by simp);have hq:=Ka hw' hk;replace h:@Bool.rec (fun _=>Bool) (Lg l k yes no) (yes e.2) (FW e.1 k)=true:=h;cases hb:FW e.1 k with
  | true =>
   rw [hb] at h;have:=hq.1 hb;exact .inl ⟨e.2,by rw [<- this]; simp,h⟩
  | false =>
   rw [hb] at h;have hne:e.1 ≠ k:=fun x=>(by have:=hq.2 x; rw [hb] at this; cases this);rcases Nz hk l (fun x hx=>hl x (by simp [hx])) h with ⟨x,h1,h2⟩ | ⟨h1,h2⟩
   ·exact .inl ⟨x,by simp [h1],h2⟩
   ·refine .inr ⟨fun x hx=>?_,h2⟩;rcases J7.1 hx with rfl | hx
    ·exact hne rfl
    ·exact h1 x hx
end
end Go.Run
namespace Go.Run
open Go.HL
variable {σ:Nat->Value} {F:Nat->Option Obj} {φ:Phi} {A:AH} {H:A3} {P:Program} {V:HV}
section
def Gv (h:Nat) (f:List (AV × AV)->List (AV × AV)) (m:MT):MT:=upd (dig (lo4 (hi4 h))) (upd (dig (lo4 h)) f) m
theorem Fm (h:Nat) (f:List (AV × AV)->List (AV × AV)) (m:MT):Iv h (Gv h f m)=f (Iv h m):=by
 simp only [Iv,Gv,D5,Bm]
theorem BW (h h':Nat) (f:List (AV × AV)->List (AV × AV)) (m:MT):Iv h' (Gv h f m)=Iv h' m\/(Iv h' m=Iv h m/\Iv h' (Gv h f m)=f (Iv h m)):=by
 simp only [Iv,Gv,D5];by_cases h1:dig (lo4 (hi4 h'))=dig (lo4 (hi4 h))
 ·by_cases h2:dig (lo4 h')=dig (lo4 h)
  ·right; rw [h1,h2]; simp only [Bm,and_self]
  ·left; rw [h1,Bm,Bf h2]
 ·left; rw [Bf h1]
def Hm (k x:AV) (l:List (AV × AV)):List (AV × AV):=@List.rec (AV × AV) (fun _=>List (AV × AV)) [] (fun e _ ih=>@Bool.rec (fun _=>List (AV × AV)) (e :: ih) ((k,x) :: ih) (FW e.1 k)) l
theorem MJ {k x:AV} {w:Value} (hk:CQ k=some w):∀ (l:List (AV × AV)),(∀ e ∈ l,∃ w',CQ e.1=some w') ->
  (∀ e,e ∈ Hm k x l->e=(k,x)\/(e ∈ l/\e.1 ≠ k))/\(∀ e,e ∈ l->e.1 ≠ k->e ∈ Hm k x l)/\(∀ y,(k,y) ∈ l->(k,x) ∈ Hm k x l)
 | [],_=>⟨by simp [Hm],by simp,by simp⟩
 | a :: l,hl=>by
  obtain ⟨w',hw'⟩:=hl a (by simp);have hq:=Ka hw' hk;obtain ⟨i1,i2,i3⟩:=MJ (x:=x) hk l fun e he=>hl e (by simp [he]);have e0:Hm k x (a :: l) = @Bool.rec (fun _=>List (AV × AV)) (a :: Hm k x l) ((k,x) :: Hm k x l) (FW a.1 k):=rfl;cases hb:FW a.1 k with
  | true =>
   rw [hb] at e0;have ha:=hq.1 hb;rw [e0];refine ⟨fun e he=>?_,fun e he hn=>?_,fun y hy=>by simp⟩
   ·rcases J7.1 he with rfl | he
    ·exact .inl rfl
    ·rcases i1 e he with h | ⟨h1,h2⟩
     ·exact .inl h
     ·exact .inr ⟨by simp [h1],h2⟩
   ·rcases J7.1 he with rfl | he
    ·exact absurd ha hn
    ·exact Yd _ (i2 e he hn)
  | false =>
   rw [hb] at e0;have ha:a.1 ≠ k:=fun x=>(by have:=hq.2 x; rw [hb] at this; cases this);rw [e0];refine ⟨fun e he=>?_,fun e he hn=>?_,fun y hy=>?_⟩
   ·rcases J7.1 he with rfl | he
    ·exact .inr ⟨by simp,ha⟩
    ·rcases i1 e he with h | ⟨h1,h2⟩
     ·exact .inl h
     ·exact .inr ⟨by simp [h1],h2⟩
   ·rcases J7.1 he with rfl | he
    ·simp
    ·exact Yd _ (i2 e he hn)
   ·rcases J7.1 hy with rfl | hy
    ·exact absurd rfl ha
    ·exact Yd _ (i3 y hy)
def Ke (k:AV) (l:List (AV × AV)):List (AV × AV):=@List.rec (AV × AV) (fun _=>List (AV × AV)) [] (fun e _ ih=>@Bool.rec (fun _=>List (AV × AV)) (e :: ih) ih (FW e.1 k)) l
theorem NH {k:AV} {w:Value} (hk:CQ k=some w):∀ (l:List (AV × AV)),(∀ e ∈ l,∃ w',CQ e.1=some w')->∀ e,e ∈ Ke k l↔e ∈ l/\e.1 ≠ k
 | [],_=>by simp [Ke]
 | a :: l,hl=>by
  obtain ⟨w',hw'⟩:=hl a (by simp);have hq:=Ka hw' hk;have ih:=NH hk l fun e he=>hl e (by simp [he]);have e0:Ke k (a :: l) = @Bool.rec (fun _=>List (AV × AV)) (a :: Ke k l) (Ke k l) (FW a.1 k):=rfl;intro e;cases hb:FW a.1 k with
  | true =>
   rw [hb] at e0;have ha:=hq.1 hb;rw [e0];constructor
   ·intro h; obtain ⟨h1,h2⟩:=(ih e).1 h; exact ⟨by simp [h1],h2⟩
   ·rintro ⟨h1,h2⟩;rcases J7.1 h1 with rfl | h1
    ·exact absurd ha h2
    ·exact (ih e).2 ⟨h1,h2⟩
  | false =>
   rw [hb] at e0;have ha:a.1 ≠ k:=fun x=>(by have:=hq.2 x; rw [hb] at this; cases this);rw [e0];constructor
   ·intro h;rcases J7.1 h with rfl | h
    ·exact ⟨by simp,ha⟩
    ·obtain ⟨h1,h2⟩:=(ih e).1 h; exact ⟨by simp [h1],h2⟩
   ·rintro ⟨h1,h2⟩;rcases J7.1 h1 with rfl | h1
    ·simp
    ·exact Yd _ ((ih e).2 ⟨h1,h2⟩)
section
variable {g n:Nat} {m:MT} {es:List MapEntry} {k x:AV} {w v:Value} {j:Nat} {e:MapEntry}
theorem Ig {f:MapEntry->MapEntry}:∀ (es:List MapEntry) (j:Nat),(∀ e,es[j]?=some e->(f e).key=e.key)->(es.modify j f).map (·.key)=es.map (·.key)
 | [],j,_=>by cases j <;> simp
 | a :: es,0,h=>by simp [h a rfl]
 | a :: es,j + 1,h=>by simp [Ig es j fun e he=>h e (by simpa using he)]
theorem Nc (h:(es.map (·.key)).Nodup) {i j:Nat} {a b:MapEntry} (ha:es[i]?=some a) (hb:es[j]?=some b) (hk:a.key=b.key):i=j:=by
 have hi:=(J3.1 ha).1;have hj:=(J3.1 hb).1;have hp:=Zz.1 h;have ea:(es.map (·.key))[i]'(by simpa using hi)=a.key:=(by simp [(J3.1 ha).2]);have eb:(es.map (·.key))[j]'(by simpa using hj)=b.key:=(by simp [(J3.1 hb).2]);rcases Zg i j with hlt | rfl | hlt
 ·exact absurd (ea.trans (hk.trans eb.symm)) (hp i j (by simpa using hi) (by simpa using hj) hlt)
 ·rfl
 ·exact absurd (eb.trans (hk.symm.trans ea.symm)) (hp j i (by simpa using hj) (by simpa using hi) hlt)
theorem MR.oq (h:MR σ φ g n m es) (hk:CQ k=some w) (hg:KG k=g) (hj:es[j]?=some e) (he:e.key=w) (hx:VR σ φ x v) :
  MR σ φ g n (Gv (BF k) (Hm k x) m) (es.modify j fun e=>{ e with key:=w,val:=v }):=by
 have hkeys:=Ig (f:=fun e=>{ e with key:=w,val:=v }) es j fun e' he'=>by rw [hj] at he'; simp only [J5] at he'; subst he'; exact he.symm
 obtain ⟨s1,s2,s3⟩:=MJ (x:=x) hk (AJ k m) fun e he=>h.vk k e he
 have hjl:=(J3.1 hj).1
 have hnew:({ e with key:=w,val:=v }:MapEntry) ∈ es.modify j fun e=>{ e with key:=w,val:=v }:=by
  refine J2 (i:=j) ?_;rw [Wv,hj];simp
 have keep:∀ a ∈ es,a.key ≠ w->a ∈ es.modify j fun e=>{ e with key:=w,val:=v }:=by
  intro a ha hne;obtain ⟨i,hi⟩:=Jc ha;refine J2 (i:=i) ?_;have hij:j ≠ i:=by
   intro x;subst x;rw [hj] at hi;simp only [J5] at hi;subst hi;exact hne he
  rw [Wv,hi];simp [hij]
 refine ⟨by rw [List.length_modify]; exact h.size,by rw [hkeys]; exact h.nodup,?_,?_,?_⟩
 ·intro k' w' x' hk' hm
  have old:(k',x') ∈ AJ k' m->k' ≠ k->∃ e ∈ es.modify j fun e=>{ e with key:=w,val:=v },e.key=w'/\VR σ φ x' e.val:=by
   intro hm hne;obtain ⟨a,h1,h2,h3⟩:=h.real k' w' x' hk' hm;exact ⟨a,keep a h1 (by rw [h2]; rintro rfl; exact hne (K3 hk' hk)),h2,h3⟩
  by_cases hne:k'=k
  ·subst hne
   rw [hk] at hk'
   cases hk'
   unfold AJ at hm
   rw [Fm] at hm
   rcases s1 _ hm with h1 | ⟨_,h1⟩
   ·cases h1; exact ⟨_,hnew,rfl,hx⟩
   ·exact absurd rfl h1
  ·rcases BW (BF k) (BF k') (Hm k x) m with h1 | ⟨h1,h2⟩
   ·exact old (by unfold AJ at hm ⊢; rw [h1] at hm; exact hm) hne
   ·unfold AJ at hm
    rw [h2] at hm
    rcases s1 _ hm with h3 | ⟨h3,_⟩
    ·cases h3; exact absurd rfl hne
    ·exact old (by unfold AJ at h3 ⊢; rw [h1]; exact h3) hne
 ·intro a ha
  have hka:a.key ∈ es.map (·.key):=by rw [<- hkeys]; exact Xi ha
  obtain ⟨b,hb,hbk⟩:=Ji.1 hka
  obtain ⟨k',x',h1,h2,h3⟩:=h.all b hb
  rw [<- hbk]
  by_cases hne:k'=k
  ·subst hne
   exact ⟨k',x,h1,h2,by unfold AJ; rw [Fm]; exact s3 _ h3⟩
  ·refine ⟨k',x',h1,h2,?_⟩
   rcases BW (BF k) (BF k') (Hm k x) m with h4 | ⟨h4,h5⟩
   ·unfold AJ at h3 ⊢; rw [h4]; exact h3
   ·unfold AJ at h3 ⊢
    rw [h5]
    exact s2 _ (by unfold AJ; rw [<- h4]; exact h3) hne
 ·intro k' a ha
  rcases BW (BF k) (BF k') (Hm k x) m with h4 | ⟨h4,h5⟩
  ·unfold AJ at ha; rw [h4] at ha; exact h.vk k' a ha
  ·unfold AJ at ha
   rw [h5] at ha
   rcases s1 _ ha with h6 | ⟨h6,_⟩
   ·rw [h6]; exact ⟨w,hk⟩
   ·exact h.vk k a h6
theorem MR.ot (h:MR σ φ g n m es) (hk:CQ k=some w) (hg:KG k=g) (hno:∀ e ∈ es,e.key ≠ w) (hx:VR σ φ x v) {c:Nat} :
  MR σ φ g (n + 1) (Gv (BF k) (fun l=>(k,x) :: l) m) (es ++ [{ key:=w,val:=v,born:=c }]):=by
 have nok:∀ y,(k,y) ∉ AJ k m:=by
  intro y hy;obtain ⟨e,h1,h2,_⟩:=h.real k w y hk hy;exact hno e h1 h2
 refine ⟨by simp [h.size],?_,?_,?_,?_⟩
 ·rw [Zf,Y8]
  refine ⟨h.nodup,by simp,?_⟩
  intro a ha b hb hab
  obtain ⟨e,he,rfl⟩:=Ji.1 ha
  simp at hb
  exact hno e he (by rw [hab,hb])
 ·intro k' w' x' hk' hm
  have old:(k',x') ∈ AJ k' m->∃ e ∈ es ++ [{ key:=w,val:=v,born:=c }],e.key=w'/\VR σ φ x' e.val:=by
   intro hm;obtain ⟨a,h1,h2,h3⟩:=h.real k' w' x' hk' hm;exact ⟨a,by simp [h1],h2,h3⟩
  rcases BW (BF k) (BF k') (fun l=>(k,x) :: l) m with h1 | ⟨h1,h2⟩
  ·exact old (by unfold AJ at hm ⊢; rw [h1] at hm; exact hm)
  ·unfold AJ at hm
   rw [h2] at hm
   rcases J7.1 hm with h3 | h3
   ·cases h3
    rw [hk] at hk'
    cases hk'
    exact ⟨{ key:=w,val:=v,born:=c },by simp,rfl,hx⟩
   ·exact old (by unfold AJ; rw [h1]; exact h3)
 ·intro a ha
  rcases Jh.1 ha with ha | ha
  ·obtain ⟨k',x',h1,h2,h3⟩:=h.all a ha
   refine ⟨k',x',h1,h2,?_⟩
   rcases BW (BF k) (BF k') (fun l=>(k,x) :: l) m with h4 | ⟨h4,h5⟩
   ·unfold AJ at h3 ⊢; rw [h4]; exact h3
   ·unfold AJ at h3 ⊢; rw [h5,<- h4]; simp [h3]
  ·simp at ha
   subst ha
   exact ⟨k,x,hk,hg,by unfold AJ; rw [Fm]; simp⟩
 ·intro k' a ha
  rcases BW (BF k) (BF k') (fun l=>(k,x) :: l) m with h4 | ⟨h4,h5⟩
  ·unfold AJ at ha; rw [h4] at ha; exact h.vk k' a ha
  ·unfold AJ at ha
   rw [h5] at ha
   rcases J7.1 ha with h6 | h6
   ·rw [h6]; exact ⟨w,hk⟩
   ·exact h.vk k a h6
theorem MR.del (h:MR σ φ g n m es) (hk:CQ k=some w) (hg:KG k=g) (hj:es[j]?=some e) (he:e.key=w) :
  MR σ φ g (n - 1) (Gv (BF k) (Ke k) m) (es.eraseIdx j):=by
 have hjl:=(J3.1 hj).1
 have s:=NH hk (AJ k m) fun e he=>h.vk k e he
 have keep:∀ a ∈ es,a.key ≠ w->a ∈ es.eraseIdx j:=by
  intro a ha hne;obtain ⟨i,hi⟩:=Jc ha;have:i ≠ j:=(by rintro rfl; rw [hj] at hi; simp only [J5] at hi; subst hi; exact hne he);exact Vd.2 ⟨i,this,hi⟩
 have gone:∀ a ∈ es.eraseIdx j,a ∈ es/\a.key ≠ w:=by
  intro a ha;obtain ⟨i,h1,h2⟩:=Vd.1 ha;exact ⟨J2 h2,fun hw=>h1 (Nc h.nodup h2 hj (by rw [hw,he]))⟩
 refine ⟨by rw [List.length_eraseIdx,J8 hjl,h.size],?_,?_,?_,?_⟩
 ·exact h.nodup.sublist ((List.eraseIdx_sublist es j).map _)
 ·intro k' w' x' hk' hm
  have old:(k',x') ∈ AJ k' m->k' ≠ k->∃ e ∈ es.eraseIdx j,e.key=w'/\VR σ φ x' e.val:=by
   intro hm hne;obtain ⟨a,h1,h2,h3⟩:=h.real k' w' x' hk' hm;exact ⟨a,keep a h1 (by rw [h2]; rintro rfl; exact hne (K3 hk' hk)),h2,h3⟩
  by_cases hne:k'=k
  ·subst hne
   exfalso
   unfold AJ at hm
   rw [Fm] at hm
   exact ((s _).1 hm).2 rfl
  ·rcases BW (BF k) (BF k') (Ke k) m with h1 | ⟨h1,h2⟩
   ·exact old (by unfold AJ at hm ⊢; rw [h1] at hm; exact hm) hne
   ·unfold AJ at hm
    rw [h2] at hm
    exact old (by unfold AJ; rw [h1]; exact ((s _).1 hm).1) hne
 ·intro a ha
  obtain ⟨h1,h2⟩:=gone a ha
  obtain ⟨k',x',h3,h4,h5⟩:=h.all a h1
  refine ⟨k',x',h3,h4,?_⟩
  have hne:k' ≠ k:=by rintro rfl; rw [hk] at h3; exact h2 (Jj h3).symm
  rcases BW (BF k) (BF k') (Ke k) m with h6 | ⟨h6,h7⟩
  ·unfold AJ at h5 ⊢; rw [h6]; exact h5
  ·unfold AJ at h5 ⊢
   rw [h7]
   exact (s _).2 ⟨by unfold AJ; rw [<- h6]; exact h5,hne⟩
 ·intro k' a ha
  rcases BW (BF k) (BF k') (Ke k) m with h4 | ⟨h4,h5⟩
  ·unfold AJ at ha; rw [h4] at ha; exact h.vk k' a ha
  ·unfold AJ at ha
   rw [h5] at ha
   exact h.vk k a ((s _).1 ha).1
end
theorem Rel.tp (h:Rel σ F φ A H) {i:Id} {g n n':Nat} {m m':MT} (hg:A.get i=.mp g n m) {e:Ent} (he:φ i=some e) {es:Array MapEntry} {c:Nat} (hm:MR σ φ g n' m' es.toList) :
  Rel σ F φ (A.set i (.mp g n' m')) (H.setIfInBounds e.r (.map es c)):=by
 have hl:=h.liv i
 rw [hg] at hl
 obtain ⟨e',h1,h2,es0,c0,h3,h4⟩:=hl
 rw [he] at h1
 simp only [J5] at h1
 subst h1
 have hlt:=(Z8.1 h3).1
 refine ⟨?_,?_,?_,?_,fun r hr=>by have:=h.st r hr; simpa using this⟩
 ·intro i' x hx; rw [AH.wg]; exact h.dom i' x hx
 ·intro i'
  by_cases hi:i'=i
  ·subst hi
   rw [AH.zn]
   exact ⟨e,he,h2,es,c,by rw [Jt]; simp [hlt],hm⟩
  ·rw [AH.ze _ hi]
   have hl:=h.liv i'
   cases hb:A.get i' with
   | no=>trivial
   | _ =>
    rw [hb] at hl;refine hl.keep fun x hx _=>?_;rw [Jt,J4];intro hr;exact hi (h.inj i' i x e (by rw [hb]; simp) (by rw [hg]; simp) hx he hr.symm)
 ·intro i1 i2 x1 x2 hi1 hi2 hx1 hx2 hr
  have key:∀ i',(A.set i (.mp g n' m')).get i' ≠ .no->A.get i' ≠ .no:=by
   intro i' hn;by_cases hi:i'=i
   ·subst hi; rw [hg]; simp
   ·rwa [AH.ze _ hi] at hn
  exact h.inj i1 i2 x1 x2 (key _ hi1) (key _ hi2) hx1 hx2 hr
 ·intro r o hr
  rw [Jt,J4 (by rintro rfl; rw [h2] at hr; cases hr)]
  exact h.frm r o hr
end
end Go.Run
namespace Go.Run
open Go.HL
variable {σ:Nat->Value} {F:Nat->Option Obj} {φ:Phi} {A:AH} {H:A3} {P:Program} {V:HV}
section
theorem Dv {p:AV} {w:Value} {k:Id->Bool} (hp:VR σ φ p w) (hk:p.yv k false=true):∃ i e,p=.m i/\φ i=some e/\w=.map (some e.r)/\k i=true:=by
 rcases AV.uk p k false with ⟨i,rfl,e⟩ | e
 ·rw [e] at hk;simp only [VR] at hp;obtain ⟨x,h1,h2⟩:=hp;exact ⟨i,x,rfl,h1,h2,hk⟩
 ·rw [e] at hk; cases hk
theorem Rel.map (h:Rel σ F φ A H) {i:Id} {e:Ent} (he:φ i=some e) {k:Nat->Nat->MT->Bool} (hk:(A.get i).yv k false=true) :
  ∃ g n m es c,A.get i=.mp g n m/\H[e.r]?=some (.map es c)/\MR σ φ g n m es.toList/\k g n m=true:=by
 rcases AB.uk (A.get i) k false with ⟨g,n,m,hg,e'⟩ | e'
 ·rw [e'] at hk
  have hl:=h.liv i
  rw [hg] at hl
  obtain ⟨e2,h1,_,es,c,h3,h4⟩:=hl
  rw [he] at h1
  simp only [J5] at h1
  subst h1
  exact ⟨g,n,m,es,c,hg,h3,h4,hk⟩
 ·rw [e'] at hk; cases hk
theorem MR.find {g n:Nat} {m:MT} {es:List MapEntry} (h:MR σ φ g n m es) {k:AV} {w:Value} (hk:CQ k=some w) {yes:AV->Bool} {no:Bool} (hf:Lg (AJ k m) k yes no=true) :
  (∃ (x:AV) (e:MapEntry) (j:Nat),es[j]?=some e/\e.key=w/\VR σ φ x e.val/\yes x=true)\/((∀ e ∈ es,e.key ≠ w)/\no=true):=by
 rcases Nz hk _ (fun e he=>h.vk k e he) hf with ⟨x,h1,h2⟩ | ⟨h1,h2⟩
 ·obtain ⟨e,h3,h4,h5⟩:=h.real k w x hk h1
  obtain ⟨j,hj⟩:=Jc h3
  exact .inl ⟨x,e,j,hj,h4,h5,h2⟩
 ·refine .inr ⟨fun e he hw=>?_,h2⟩
  obtain ⟨k',x,h3,_,h5⟩:=h.all e he
  rw [hw] at h3
  have:=K3 h3 hk
  subst this
  exact h1 x h5
theorem FND.at {w:Value} {es:List MapEntry} {o:Option (Nat × Value)} (h:FND w es 0 o) (hn:(es.map (·.key)).Nodup) {j:Nat} {e:MapEntry} (hj:es[j]?=some e) (he:e.key=w):o=some (j,e.val):=by
 rcases h with ⟨_,h⟩ | ⟨i,a,h1,h2,h3⟩
 ·exact absurd he (h e (J2 hj))
 ·have:=Nc hn h1 hj (by rw [h2,he]);subst this;rw [hj] at h1;simp only [J5] at h1;subst h1;rw [h3,Zv]
theorem FND.not {w:Value} {es:List MapEntry} {o:Option (Nat × Value)} (h:FND w es 0 o) (hn:∀ e ∈ es,e.key ≠ w):o=none:=by
 rcases h with ⟨h,_⟩ | ⟨i,a,h1,h2,h3⟩
 ·exact h
 ·exact absurd h2 (hn a (J2 h1))
theorem MR.cls {g n:Nat} {m:MT} {es:List MapEntry} (h:MR σ φ g n m es):∀ e ∈ es,∃ k',CQ k'=some e.key/\KG k'=g:=fun e he=>let ⟨k,_,h1,h2,_⟩:=h.all e he; ⟨k,h1,h2⟩
def VY (ok:Bool) (x:AV) (b:Bool) (k:AV->Bool):Bool:=@Bool.rec (fun _=>Bool) (k x) (k (.t [x,.b b])) ok
def WW (A:AH) (g0:Nat) (mv key:AV) (zero:AV) (ok:Bool) (k:AV->Bool):Bool :=
 mv.yv (fun i=>(A.get i).yv (fun g n m=>ifB (Nat.beq g g0) (ifB (Pn g0 key) (Lg (AJ key m) key (fun x=>VY ok x true k) (VY ok zero false k)) false) false) false) false
theorem IA {ok b:Bool} {x:AV} {w:Value} {k:AV->Bool} (hx:VR σ φ x w) (h:VY ok x b k=true):∃ v,VR σ φ v (if ok then .tuple #[w,.bool b] else w)/\k v=true:=by
 cases ok with
 | true=>exact ⟨_,by simp only [VR,Zr]; exact ⟨_,rfl,by simp only [VRl]; exact ⟨w,_,rfl,hx,_,_,rfl,by simp only [VR],rfl⟩⟩,h⟩
 | false=>exact ⟨x,hx,h⟩
theorem TS {t kt et g0:Nat} {mv key zero:AV} {wm wk z:Value} {ok:Bool} {k:AV->Bool} (h:Rel σ F φ A H) (ht:P.underlying t=some (.map kt et)) (hkc:KC P g0 kt) (hz:AD P et=some z) (hzv:VR σ φ zero z)
  (hm:VR σ φ mv wm) (hk:VR σ φ key wk) (hr:WW A g0 mv key zero ok k=true):∃ v r,Ac P (Instr.lookup t wm wk ok) H=some r/\VR σ φ v r/\k v=true:=by
 obtain ⟨i,e,rfl,he,rfl,hr⟩:=Dv hm hr
 obtain ⟨g,n,m,es,c,h1,h2,h3,hr⟩:=h.map he hr
 obtain ⟨hg0,hr1⟩:=Ab hr
 clear hr
 have hg0:=J9 hg0
 subst hg0
 obtain ⟨h4,hr⟩:=Ab hr1
 clear hr1
 obtain ⟨h5,h6⟩:=GR hk h4
 obtain ⟨o,ho,hf⟩:=DA (H:=H) hkc h5 h6 h3.cls
 have run:∀ r,(∀ (x:Value) (b:Bool),(o=none/\x=z/\b=false\/∃ j,o=some (j,x)/\b=true)->r=if ok then .tuple #[x,.bool b] else x)->Ac P (Instr.lookup t (.map (some e.r)) wk ok) H=some r:=by
  intro r hrr;unfold Instr.lookup;rw [A4,A6 ht,J0];simp only;rw [A4,Bg h2,J0];simp only;rw [A4,show Ac P (pure es:Sem (Array MapEntry)) H=some es from rfl,J0,A4,DI hkc h5 h6,J0,A4,ho,J0];cases o with
  | none =>
   simp only;rw [A4,AF hz,J0];rw [hrr z false (.inl ⟨rfl,rfl,rfl⟩)];cases ok <;> rfl
  | some p =>
   obtain ⟨j,x⟩:=p;rw [hrr x true (.inr ⟨j,rfl,rfl⟩)];cases ok <;> rfl
 rcases h3.find h5 hr with ⟨x,a,j,h7,h8,h9,hr⟩ | ⟨h7,hr⟩
 ·obtain ⟨v,h10,h11⟩:=IA h9 hr
  refine ⟨v,_,run _ ?_,h10,h11⟩
  have ho:=hf.at h3.nodup h7 h8
  rintro x b (⟨h,_⟩ | ⟨j',h,rfl⟩)
  ·rw [ho] at h; cases h
  ·rw [ho] at h; cases h; rfl
 ·obtain ⟨v,h10,h11⟩:=IA hzv hr
  refine ⟨v,_,run _ ?_,h10,h11⟩
  have ho:=hf.not h7
  rintro x b (⟨h,rfl,rfl⟩ | ⟨j',h,rfl⟩)
  ·rfl
  ·rw [ho] at h; cases h
def RG (A:AH) (g0:Nat) (mv key x:AV) (k:AH->Bool):Bool :=
 mv.yv (fun i=>(A.get i).yv (fun g n m=>ifB (Nat.beq g g0) (ifB (Pn g0 key) (Lg (AJ key m) key (fun _=>k (A.set i (.mp g n (Gv (BF key) (Hm key x) m)))) (frc (Nat.succ n) fun n=>k (A.set i (.mp g n (Gv (BF key) (fun l=>(key,x) :: l) m))))) false) false) false) false
theorem LG {k:AV} {w:Value} (hk:CQ k=some w):Instr.sameBits 10000 w w=true:=by
 rcases BC hk with ⟨x,rfl,hx,rfl⟩ | ⟨x,rfl,hx,rfl⟩ | ⟨l,rfl,hl,rfl⟩ | ⟨x,y,rfl,rfl⟩ <;> simp [Instr.sameBits];rw [Kp]; simp
theorem IE {t kt et g0:Nat} {mv key x:AV} {wm wk wx:Value} {k:AH->Bool} {Q:Unit->A3->Prop} {E:Value->A3->Prop} (h:Rel σ F φ A H) (ht:P.underlying t=some (.map kt et)) (hkc:KC P g0 kt)
  (hm:VR σ φ mv wm) (hk:VR σ φ key wk) (hx:VR σ φ x wx) (hQ:∀ A' H',Rel σ F φ A' H'->k A'=true->Q () H') (hr:RG A g0 mv key x k=true):hwp P (Instr.mapUpdate t wm wk wx) H Q E:=by
 obtain ⟨i,e,rfl,he,rfl,hr⟩:=Dv hm hr
 obtain ⟨g,n,m,es,c,h1,h2,h3,hr⟩:=h.map he hr
 obtain ⟨hg0,hr1⟩:=Ab hr
 clear hr
 have hg0:=J9 hg0
 subst hg0
 obtain ⟨h4,hr⟩:=Ab hr1
 clear hr1
 obtain ⟨h5,h6⟩:=GR hk h4
 obtain ⟨o,ho,hf⟩:=DA (H:=H) hkc h5 h6 h3.cls
 unfold Instr.mapUpdate
 refine Aa (A6 ht H) ?_
 simp only
 refine Aa (Bg h2) ?_
 simp only
 refine Aa (DI hkc h5 h6) ?_
 refine Aa ho ?_
 rcases h3.find h5 hr with ⟨_,a,j,h7,h8,_,hr⟩ | ⟨h7,hr⟩
 ·have ho:=hf.at h3.nodup h7 h8
  subst ho
  have ek:(((es[j]?).map (·.key)).getD wk)=wk:=by
   rw [<- Y1,h7]; simp [h8]
  have hs:Ac P (Instr.keyThatStays (((es[j]?).map (·.key)).getD wk) wk) H=some wk:=by
   rw [ek];unfold Instr.keyThatStays;rw [LG h5];rfl
  refine Aa hs ?_
  show hwp P (setObj e.r (.map (es.modify j fun e=>{ e with key:=wk,val:=wx }) c)) H _ _
  simp only [setObj,hwp,h2]
  refine hQ _ _ (h.tp (n':=n) (m':=Gv (BF key) (Hm key x) m) h1 he ?_) hr
  rw [Array.toList_modify]
  exact h3.oq h5 h6 h7 h8 hx
 ·have ho:=hf.not h7
  subst ho
  rw [Bw] at hr
  show hwp P (setObj e.r (.map (es.push { key:=wk,val:=wx,born:=c }) (c + 1))) H _ _
  simp only [setObj,hwp,h2]
  refine hQ _ _ (h.tp (n':=n + 1) (m':=Gv (BF key) (fun l=>(key,x) :: l) m) h1 he ?_) hr
  rw [Array.toList_push]
  exact h3.ot h5 h6 h7 hx
def j1v (A:AH) (g0:Nat) (mv key:AV) (k:AH->Bool):Bool :=
 mv.yv (fun i=>(A.get i).yv (fun g n m=>ifB (Nat.beq g g0) (ifB (Pn g0 key) (Lg (AJ key m) key (fun _=>frc (Nat.sub n 1) fun n=>k (A.set i (.mp g n (Gv (BF key) (Ke key) m)))) (k A)) false) false) false) false
theorem TN {t kt et ty g0:Nat} {mv key:AV} {wm wk:Value} {k:AH->Bool} {Q:Value->A3->Prop} {E:Value->A3->Prop} (h:Rel σ F φ A H) (ht:P.underlying t=some (.map kt et)) (hkc:KC P g0 kt)
  (hm:VR σ φ mv wm) (hk:VR σ φ key wk) (hQ:∀ A' H',Rel σ F φ A' H'->k A'=true->Q undef H') (hr:j1v A g0 mv key k=true) {t2:Nat}:hwp P (Builtin.delete_ #[t,t2] ty #[wm,wk]) H Q E:=by
 obtain ⟨i,e,rfl,he,rfl,hr⟩:=Dv hm hr
 obtain ⟨g,n,m,es,c,h1,h2,h3,hr⟩:=h.map he hr
 obtain ⟨hg0,hr1⟩:=Ab hr
 clear hr
 have hg0:=J9 hg0
 subst hg0
 obtain ⟨h4,hr⟩:=Ab hr1
 clear hr1
 obtain ⟨h5,h6⟩:=GR hk h4
 obtain ⟨o,ho,hf⟩:=DA (H:=H) hkc h5 h6 h3.cls
 unfold Builtin.delete_
 simp only [Jw,Z1,Ys]
 refine Aa (A6 ht H) ?_
 simp only
 refine Aa (Bg h2) ?_
 simp only
 refine Aa (DI hkc h5 h6) ?_
 refine Aa ho ?_
 rcases h3.find h5 hr with ⟨_,a,j,h7,h8,_,hr⟩ | ⟨h7,hr⟩
 ·have ho:=hf.at h3.nodup h7 h8
  subst ho
  rw [Bw] at hr
  show hwp P (do setObj e.r (.map (es.eraseIdxIfInBounds j) c); pure (Value.tuple #[])) H _ _
  rw [Az]
  simp only [setObj,hwp,h2]
  refine hQ _ _ (h.tp (n':=n - 1) (m':=Gv (BF key) (Ke key) m) h1 he ?_) hr
  have hjl:=(J3.1 h7).1
  have e1:(es.eraseIdxIfInBounds j).toList=es.toList.eraseIdx j:=by
   unfold Array.eraseIdxIfInBounds;rw [dif_pos (by simpa using hjl)];simp
  rw [e1]
  exact h3.del h5 h6 h7 h8
 ·have ho:=hf.not h7
  subst ho
  show hwp P (do setObj e.r (.map es c); pure (Value.tuple #[])) H _ _
  rw [Az]
  simp only [setObj,hwp,h2]
  have e1:H.setIfInBounds e.r (.map es c)=H:=by
   apply W8;intro r;rw [Jt];split
   ·rename_i hr'; subst hr';split
    ·exact h2.symm
    ·rename_i hlt; rw [Z5 (by omega)]
   ·rfl
  rw [e1]
  exact hQ _ _ h hr
def j1r (A:AH) (g:Nat) (k:AV->AH->Bool):Bool:=Nd A (.mp g 0 (Ce (Ce []))) fun i A=>k (.m i) A
theorem TF {g:Nat} {k:AV->AH->Bool} (h:Rel σ F φ A H) (hr:j1r A g k=true):∃ v A' φ',φ.le φ'/\Rel σ F φ' A' (H.push (.map #[] 0))/\VR σ φ' v (.map (some H.size))/\k v A'=true:=by
 obtain ⟨j,hj,hk⟩:=D2 hr;refine ⟨.m A.nx,_,φ.put A.nx ⟨H.size,0,0⟩,h.zt ⟨H.size,0,0⟩,h.new hj rfl ?_,by simp only [VR]; exact ⟨⟨H.size,0,0⟩,by simp [Phi.put],rfl⟩,hk⟩;refine ⟨⟨H.size,0,0⟩,by simp [Phi.put],h.free,#[],0,by simp,?_⟩;have hb:∀ k,AJ k (Ce (Ce [])) = []:=(by intro k; unfold AJ Iv; rw [D5,D5,Iz,Iz]);exact ⟨rfl,by simp,fun k w x _ hm=>by rw [hb] at hm; simp at hm,fun e he=>by simp at he,fun k e he=>by rw [hb] at he; simp at he⟩
def j2a (A:AH) (mv:AV) (k:AV->Bool):Bool:=mv.yv (fun i=>(A.get i).yv (fun g n m=>ifB (Nat.blt n 9223372036854775808) (k (.n n)) false) false) false
theorem TV {t kt et:Nat} {mv:AV} {wm:Value} {k:AV->Bool} (h:Rel σ F φ A H) (ht:P.underlying t=some (.map kt et)) (hm:VR σ φ mv wm) (hr:j2a A mv k=true):∃ v r,F3 P (AI H) t wm=some r/\VR σ φ v r/\k v=true:=by
 obtain ⟨i,e,rfl,he,rfl,hr⟩:=Dv hm hr;obtain ⟨g,n,m,es,c,h1,h2,h3,hr⟩:=h.map he hr;obtain ⟨h4,hr⟩:=Ab hr;have h4:=Cd h4;refine ⟨.n n,.int .i64 n,?_,by simp only [VR,true_and]; omega,hr⟩;have:=Pi (P:=P) (H:=H) (t:=t) (kvs:=es.toList.map fun e=>(e.key,e.val)) ht ⟨es,c,h2,rfl⟩;rw [this];simp only [Jm];rw [h3.size]
end
end Go.Run
namespace Go.Run
open Go.HL
variable {σ:Nat->Value} {F:Nat->Option Obj} {φ:Phi} {A:AH} {H:A3} {P:Program} {V:HV}
section
def Bz:AV:=.t []
theorem BS:VR σ φ Bz undef:=by simp only [Bz,VR]; exact ⟨#[],rfl,by simp [VRl]⟩
def TJ (a b:Nat):Nat:=@Bool.rec (fun _=>Nat) b a (Nat.ble a b)
theorem TH (a b:Nat):TJ a b=min a b:=by
 unfold TJ;cases h:Nat.ble a b with
 | true=>have:=Ja h; exact (Nat.min_eq_left this).symm
 | false =>
  have:b<=a:=by
   rcases Nat.le_total a b with h' | h'
   ·rw [Yz h'] at h; cases h
   ·exact h'
  exact (Nat.min_eq_right this).symm
def XA (x:AV) (k:Nat->Bool):Bool:=x.yl (fun _ _ len _ _ _=>k len) (Dx x (k 0))
def O6 (A:AH) (x:AV) (z n:Nat) (k:List AV->Bool):Bool:=ifB (Nat.beq n 0) (k []) (x.yl (fun d o _ _ _ _=>(A.get d).zl (fun _ blen t=>ifB (Nat.ble (Nat.add o (Nat.mul n z)) blen) (k (Da t o (Nat.mul n z))) false) false) false)
def j3c (A:AH) (dst src:AV) (z:Nat) (k:AV->AH->Bool):Bool :=
 XA src fun m=>dst.yl (fun d o len _ _ _=>frc (TJ m len) fun n=>ifB (Nat.blt n 9223372036854775808) (O6 A src z n fun l=>stN A (.p d o) l fun A=>k (.n n) A) false) (Dx dst (k (.n 0) A))
theorem GO {q:AV} {w:Value} {x:Bool} (hq:VR σ φ q w) (h:Dx q x=true):w=.slice none 0 0/\x=true:=by
 unfold Dx at h;rcases AV.zq q (fun g=>ifB (Nat.beq g 1) x false) false with ⟨g,rfl,e⟩ | e
 ·rw [e] at h;obtain ⟨h1,h2⟩:=Ab h;have:=J9 h1;subst this;simp only [VR,EY] at hq;exact ⟨hq,h2⟩
 ·rw [e] at h; cases h
theorem TW {x:AV} {w:Value} {k:Nat->Bool} (hx:VR σ φ x w) (h:XA x k=true):∃ b n c,w=.slice b n c/\k n=true/\(n ≠ 0->∃ d o cap z ex,x=.q d o n cap z ex):=by
 unfold XA at h;rcases AV.zw x (fun _ _ len _ _ _=>k len) (Dx x (k 0)) with ⟨d,o,len,cap,z,ex,rfl,e⟩ | e
 ·rw [e] at h;simp only [VR] at hx;obtain ⟨e,y,c,_,rfl,_⟩:=hx;exact ⟨_,_,_,rfl,h,fun _=>⟨d,o,cap,z,ex,rfl⟩⟩
 ·rw [e] at h;obtain ⟨rfl,h⟩:=GO hx h;exact ⟨_,_,_,rfl,h,fun hh=>absurd rfl hh⟩
theorem LB {x:AV} {b:Option Addr} {len c z n:Nat} {k:List AV->Bool} (h:Rel σ F φ A H) (hx:VR σ φ x (.slice b len c)) (hn:n<=len) (hk:O6 A x z n k=true) :
  ∃ l ws,AR H z n (.slice b len c)=some ws/\VRl σ φ l ws/\l.length=n * z/\k l=true:=by
 unfold O6 at hk
 cases hb:Nat.beq n 0 with
 | true =>
  rw [hb] at hk;have:=J9 hb;subst this;refine ⟨[],[],?_,by simp [VRl],by simp,hk⟩;cases b <;> simp [AR,Ay]
 | false =>
  rw [hb] at hk;have hn0:=G0 hb;obtain ⟨d,o,len',cap,z',ex,e,y,c',rfl,h1,h2,h3,h4,h5,h6,h7,hk2⟩:=Gd hx (show x.yl _ false=true from hk);clear hk;simp only [Value.slice.injEq] at h2;obtain ⟨rfl,rfl,rfl⟩:=h2;rcases AB.zm (A.get d) (fun _ blen t=>ifB (Nat.ble (Nat.add o (Nat.mul n z)) blen) (k (Da t o (Nat.mul n z))) false) false with ⟨ro,blen,t,hg,e'⟩ | e'
  ·rw [e'] at hk2;obtain ⟨g1,hk⟩:=Ab hk2;have g1:=Ja g1;obtain ⟨ws,a1,a2⟩:=h.row hg h1 (n * z) o 0 (by simpa using g1);refine ⟨_,ws,?_,a2,Bx _ _ _,hk⟩;simp only [AR];rw [h6 (.inl (by omega))];exact a1
  ·rw [e'] at hk2; cases hk2
theorem Ur {t t2 e ty z:Nat} {dst src:AV} {wd ws:Value} {k:AV->AH->Bool} {Q:Value->A3->Prop} {E:Value->A3->Prop} (h:Rel σ F φ A H) (ht:P.underlying t=some (.slice e)) (hz:Au P e=some z)
  (hd:VR σ φ dst wd) (hs:VR σ φ src ws) (hQ:∀ v A' w H',Rel σ F φ A' H'->VR σ φ v w->k v A'=true->Q w H') (hk:j3c A dst src z k=true):hwp P (Builtin.copy_ #[t,t2] ty #[wd,ws]) H Q E:=by
 obtain ⟨b,m,c,rfl,hk,hb⟩:=TW hs hk
 unfold Builtin.copy_
 simp only [Jw,Z1,Ys]
 refine Aa (A6 ht H) ?_
 simp only
 rcases AV.zw dst (fun d o len _ _ _=>frc (TJ m len) fun n=>ifB (Nat.blt n 9223372036854775808) (O6 A src z n fun l=>stN A (.p d o) l fun A=>k (.n n) A) false) (Dx dst (k (.n 0) A)) with ⟨d,o,len,cap,z',ex,rfl,e'⟩ | e'
 ·rw [e',Bw,TH] at hk
  simp only [VR] at hd
  obtain ⟨en,y,c',g1,rfl,g3,g4,g5,g6,g7⟩:=hd
  obtain ⟨hlt,hk⟩:=Ab hk
  have hlt:=Cd hlt
  obtain ⟨l,vs,h1,h2,h3,hk⟩:=LB h hs (Nat.min_le_left m len) hk
  refine Aa (a:=m) rfl ?_
  refine Aa (AL hz H) ?_
  refine Aa (B7 h1) ?_
  simp only
  obtain ⟨a,A',H',s1,s2,s3,s4⟩:=Fo h (p:=.p d o) (w:=.pointer (some ⟨en.r,en.s + o,none⟩)) (by simp only [VR]; exact ⟨en,g1,rfl⟩) h2 hk
  simp only [Value.pointer.injEq,J5] at s1
  subst s1
  rw [Az]
  have hst:Ar H ⟨en.r,y,none⟩ vs 0=some H':=by
   by_cases hc:cap=0
   ·have hl:l.length=0:=(by rw [h3,show min m len=0 by omega,Nat.zero_mul]);have hv:vs = []:=(by apply X7; rw [<- h2.length]; exact hl);rw [hv] at s2 ⊢;exact s2
   ·rw [g6 (.inl hc)]; exact s2
  refine BN _ 0 H H' (by simpa using hst) ?_
  refine hQ _ A' _ H' s3 ?_ s4
  simp only [VR]
  exact ⟨rfl,by omega⟩
 ·rw [e'] at hk
  obtain ⟨rfl,hk⟩:=GO hd hk
  refine Aa (a:=m) rfl ?_
  refine Aa (AL hz H) ?_
  refine Aa (B7 (l:=[]) (by cases b <;> simp [AR,Ay])) ?_
  exact hQ _ A _ H h (by simp [VR,Builtin.lenOf,goInt]) hk
def YH (A:AH) (q:AV) (i:TI) (k:AV->AH->Bool):Bool:=q.yl (fun d o len _ _ _=>ifB (Nat.ble (Nat.mul len i.size) 65536) (stN A (.p d o) (Ho len i.zero) fun A=>k Bz A) false) (Dx q (k Bz A))
theorem Ut {t e ty:Nat} {i:TI} {q:AV} {w:Value} {k:AV->AH->Bool} {Q:Value->A3->Prop} {E:Value->A3->Prop} (h:Rel σ F φ A H) (ht:P.underlying t=some (.slice e)) (hi:TIok P e i)
  (hq:VR σ φ q w) (hQ:∀ A' H',Rel σ F φ A' H'->k Bz A'=true->Q undef H') (hk:YH A q i k=true):hwp P (Builtin.clear_ #[t] ty #[w]) H Q E:=by
 unfold Builtin.clear_
 simp only [Jw,Z1]
 refine Aa (A6 ht H) ?_
 obtain ⟨z,hz,hzs,hv⟩:=hi.zer
 unfold YH at hk
 rcases AV.zw q (fun d o len _ _ _=>ifB (Nat.ble (Nat.mul len i.size) 65536) (stN A (.p d o) (Ho len i.zero) fun A=>k Bz A) false) (Dx q (k Bz A)) with ⟨d,o,len,cap,z',ex,rfl,e'⟩ | e'
 ·rw [e'] at hk
  obtain ⟨hs,hk⟩:=Ab hk
  simp only [VR] at hq
  obtain ⟨en,y,c',g1,rfl,g3,g4,g5,g6,g7⟩:=hq
  have hr:=GF (n:=len) (hv σ φ)
  obtain ⟨a,A',H',s1,s2,s3,s4⟩:=Fo h (p:=.p d o) (w:=.pointer (some ⟨en.r,en.s + o,none⟩)) (by simp only [VR]; exact ⟨en,g1,rfl⟩) hr hk
  simp only [Value.pointer.injEq,J5] at s1
  subst s1
  cases len with
  | zero =>
   have e0:(AO z.cells (0 * z.cells.size)).toList = []:=(by simp [AO]);rw [e0] at s2;simp only [Ar,J5] at s2;subst s2;exact hQ A' H s3 s4
  | succ n =>
   have hcap:cap ≠ 0:=(by omega);simp only;refine Aa (AF hz H) ?_;rw [Az];refine BN (Builtin.zeroCells z.cells (n + 1)).toList 0 H H' ?_ (hQ A' H' s3 s4);rw [g6 (.inl hcap)];exact s2
 ·rw [e'] at hk
  obtain ⟨rfl,hk⟩:=GO hq hk
  exact hQ A H h hk
def YQ (A:AH) (q n:AV) (i:TI) (k:AV->AH->Bool):Bool:=n.ye (fun n=>ifB (Nat.ble n 60000) (ifB (Nat.ble i.bytes 1048576) (Sw A q n (Ho n i.zero) i.size k) false) false) false
theorem UC {t xt e ty:Nat} {g:IntKind} {i:TI} {q n:AV} {w wn:Value} {k:AV->AH->Bool} {K:Value->A3->Prop} {E:Value->A3->Prop} (h:Rel σ F φ A H) (hq:VR σ φ q w) (hn:VR σ φ n wn)
  (he:P.underlying t=some (.slice e)) (hi:TIok P e i) (hd:P.underlying xt=some (.int g))
  (hK:∀ v A' φ' w' H',φ.le φ'->Rel σ F φ' A' H'->VR σ φ' v w'->k v A'=true->K w' H') (hk:YQ A q n i k=true):hwp P (Builtin.append_ #[t,xt] ty #[w,wn]) H K E:=by
 unfold YQ at hk
 rcases AV.uj n (fun n=>ifB (Nat.ble n 60000) (ifB (Nat.ble i.bytes 1048576) (Sw A q n (Ho n i.zero) i.size k) false) false) false with ⟨n,rfl,e'⟩ | e'
 ·rw [e'] at hk
  obtain ⟨h1,hk⟩:=Ab hk
  obtain ⟨h2,hk⟩:=Ab hk
  have h1:=Ja h1
  have h2:=Ja h2
  simp only [VR] at hn
  obtain ⟨rfl,_⟩:=hn
  obtain ⟨z,hz,hzs,hv⟩:=hi.zer
  refine Ii he hi.size hi.bytes hz hzs hd h1 h2 ?_
  exact PK h hq (GF (hv σ φ)) (by rw [EW,hi.len]) h2 hzs hK hk
 ·rw [e'] at hk; cases hk
abbrev FF:Nat->Type:=fun n=>@Nat.rec (fun _=>Type) (AH->(AV->AH->Bool)->Bool) (fun _ t=>AV->t) n
abbrev Ef (n:Nat):FF n->List AV->AH->(AV->AH->Bool)->Bool :=
 @Nat.rec (fun n=>FF n->List AV->AH->(AV->AH->Bool)->Bool) (fun g l A K=>@List.rec AV (fun _=>Bool) (g A K) (fun _ _ _=>false) l)
  (fun _ ih g l A K=>@List.rec AV (fun _=>Bool) false (fun x r _=>ih (g x) r A K) l) n
theorem He {K:AV->AH->Bool}:∀ (n:Nat) (g:FF n) (l:List AV),Ef n g l A K=true->l.length=n
 | 0,g,[],_=>rfl
 | 0,g,_ :: _,h=>by cases h
 | n + 1,g,[],h=>by cases h
 | n + 1,g,x :: l,h=>by simp [He n (g x) l h]
structure FE where
 f:Nat
 n:Nat
 g:FF n
 p:List AV->(AV->Bool)->Bool
def noP:List AV->(AV->Bool)->Bool:=fun _ _=>false
abbrev FT:=List FE
abbrev Ia (Tb:FT) (f:Nat) (k:FE->Bool):Bool:=@List.rec FE (fun _=>Bool) false (fun e _ ih=>@Bool.rec (fun _=>Bool) ih (k e) (Nat.beq e.f f)) Tb
def RK (σ:Nat->Value) (F:Nat->Option Obj) (φ0:Phi) (K:AV->AH->Bool) (v:Value) (H:A3):Prop:=∃ φ a A,φ0.le φ/\VR σ φ a v/\Rel σ F φ A H/\K a A=true
def FOK (P:Program) (f n:Nat) (g:FF n):Prop :=
 ∀ (σ:Nat->Value) (F:Nat->Option Obj) (φ:Phi) (A:AH) (H:A3) (args:List AV) (ws:List Value) (K:AV->AH->Bool),Rel σ F φ A H->VRl σ φ args ws->Ef n g args A K=true->CallF P f ws H (RK σ F φ K) NoP
def PUR (P:Program) (f:Nat) (p:List AV->(AV->Bool)->Bool):Prop :=
 ∀ (σ:Nat->Value) (φ:Phi) (args:List AV) (ws:List Value) (k:AV->Bool),VRl σ φ args ws->p args k=true->∃ v w,VR σ φ v w/\k v=true/\∀ H,CallF P f ws H (fun r H'=>r=w/\H'=H) NoP
def TOK (P:Program) (Tb:FT):Prop:=∀ e ∈ Tb,FOK P e.f e.n e.g/\PUR P e.f e.p
theorem QQ {Tb:FT} (hT:TOK P Tb) {f:Nat} {k:FE->Bool} (h:Ia Tb f k=true):∃ e:FE,PUR P f e.p/\k e=true:=by
 induction Tb with
 | nil=>cases h
 | cons e Tb ih =>
  replace h:@Bool.rec (fun _=>Bool) (Ia Tb f k) (k e) (Nat.beq e.f f)=true:=h;cases hb:Nat.beq e.f f with
  | true =>
   rw [hb] at h;have:=J9 hb;subst this;exact ⟨e,(hT e (by simp)).2,h⟩
  | false=>rw [hb] at h; exact ih (fun x hx=>hT x (by simp [hx])) h
theorem My {Tb:FT} (hT:TOK P Tb) {f:Nat} {k:FE->Bool} (h:Ia Tb f k=true):∃ e,FOK P f e.n e.g/\k e=true:=by
 induction Tb with
 | nil=>cases h
 | cons e Tb ih =>
  replace h:@Bool.rec (fun _=>Bool) (Ia Tb f k) (k e) (Nat.beq e.f f)=true:=h;cases hb:Nat.beq e.f f with
  | true =>
   rw [hb] at h;have:=J9 hb;subst this;exact ⟨e,(hT e (by simp)).1,h⟩
  | false=>rw [hb] at h; exact ih (fun x hx=>hT x (by simp [hx])) h
def XV (Tb:FT) (fv:AV) (args:List AV) (A:AH) (k:AV->AH->Bool):Bool:=fv.nq (fun f xs ys=>Ia Tb f fun e=>Ef e.n e.g (EB xs (EB args ys)) A k) false
theorem Um {Tb:FT} (hT:TOK P Tb) {fv:AV} {wf:Value} {args:List AV} {ws:List Value} {k:AV->AH->Bool} {E:List PanicEntry->A3->Prop} (h:Rel σ F φ A H) (hf:VR σ φ fv wf) (ha:VRl σ φ args ws) (hk:XV Tb fv args A k=true) :
  EJ P wf ws H (RK σ F φ k) E:=by
 unfold XV at hk
 rcases AV.np fv (fun f xs ys=>Ia Tb f fun e=>Ef e.n e.g (EB xs (EB args ys)) A k) false with ⟨f,xs,ys,rfl,e⟩ | e
 ·rw [e] at hk
  obtain ⟨e,he,hk⟩:=My hT hk
  simp only [VR] at hf
  obtain ⟨xs',ys',rfl,h1,h2⟩:=hf
  rw [EA,EA] at hk
  have:=he σ F φ A H _ _ k h (h1.app (ha.app h2)) hk
  show CallF P f (xs'.toList ++ ws ++ ys'.toList) H _ E
  rw [Je]
  exact this.to fun _ _ x=>x
 ·rw [e] at hk; cases hk
end
end Go.Run
namespace Go.Run
open Go.HL
variable {σ:Nat->Value} {F:Nat->Option Obj} {φ:Phi} {A:AH} {H:A3} {P:Program} {V:HV}
section
def I4 (l:List AV) (k:List Nat->Bool):Bool:=@List.rec AV (fun _=>(List Nat->Bool)->Bool) (fun k=>k [])
 (fun v _ ih k=>v.ui (fun g x=>ifB (Nat.beq (BM g) (BM .u8)) (@Int.rec (fun _=>Bool) (fun n=>ifB (Nat.blt n 256) (ih fun r=>k (n :: r)) false) (fun _=>false) x) false) false) l k
theorem I3:∀ (l:List AV) (ws:List Value) (k:List Nat->Bool),VRl σ φ l ws->I4 l k=true->∃ r,k r=true/\(∀ x ∈ r,x < 256)/\ws=r.map (fun (x:Nat)=>Value.int .u8 x)
 | [],ws,k,h,hk=>by simp only [VRl] at h; subst h; exact ⟨[],hk,by simp,rfl⟩
 | v :: l,ws,k,h,hk=>by
  simp only [VRl] at h;obtain ⟨w,ws',rfl,h1,h2⟩:=h;cases v with
  | z g x =>
   replace hk:ifB (Nat.beq (BM g) (BM .u8)) (@Int.rec (fun _=>Bool) (fun n=>ifB (Nat.blt n 256) (I4 l fun r=>k (n :: r)) false) (fun _=>false) x) false=true:=hk;obtain ⟨g1,g2⟩:=Ab hk;clear hk;have:=CF g1;subst this;cases x with
   | ofNat n =>
    obtain ⟨g3,g4⟩:=Ab (show ifB (Nat.blt n 256) (I4 l fun r=>k (n :: r)) false=true from g2);obtain ⟨r,h3,h4,h5⟩:=I3 l ws' _ h2 g4;simp only [VR] at h1;subst h1;refine ⟨n :: r,h3,?_,by rw [h5]; rfl⟩;intro x hx;rcases J7.1 hx with rfl | hx
    ·exact Cd g3
    ·exact h4 x hx
   | negSucc n=>cases g2
  | _=>cases hk
def PT (A:AH) (x:AV) (k:AV->Bool):Bool:=x.yl (fun _ _ len _ _ _=>O6 A x 1 len fun l=>I4 l fun r=>k (.s r)) (Dx x (k (.s [])))
theorem Hr {f:Value->ByteArray->Sem (ForInStep ByteArray)} (hf:∀ (x:Nat) s,f (.int .u8 x) s=pure (ForInStep.yield (s.push (UInt8.ofNat x)))):∀ (r:List Nat) (s:ByteArray),
  Ac P (forIn (m:=Sem) (r.map fun (x:Nat)=>Value.int .u8 x) s f) H=some ⟨s.data ++ (r.map UInt8.ofNat).toArray⟩
 | [],s=>by simp [pure,Ac]
 | x :: r,s=>by
  rw [Jz,Xz,hf];show Ac P (forIn (m:=Sem) (r.map fun (x:Nat)=>Value.int .u8 x) (s.push (UInt8.ofNat x)) _) H=_;rw [Hr hf r (s.push (UInt8.ofNat x))];congr 2;apply Zk;simp [ByteArray.push]
theorem T0 {s d e:Nat} {x:AV} {w:Value} {k:AV->Bool} (h:Rel σ F φ A H) (hs:P.underlying s=some (.slice e)) (he:P.underlying e=some (.int .u8)) (hd:P.underlying d=some .string) (hx:VR σ φ x w) (hk:PT A x k=true) :
  ∃ v r,CS P (AI H) s d w=some r/\VR σ φ v r/\k v=true:=by
 have go:∀ r:List Nat,Ac P (Conv.bytesToString w) H=some (.string (Bb r))->(∀ b n c,w=.slice b n c->CS P (AI H) s d w=some (.string (Bb r))):=by
  rintro r hr b n c rfl;show Ac P (convert s d _) H=_;unfold convert;rw [A4,A6 hs,J0,A4,A6 hd,J0];show Ac P (do match <- underlying e with
   | .int .u8=>Conv.bytesToString (.slice b n c)
   | .int .i32=>Conv.runesToString (.slice b n c)
   | _=>stuck "Convert: a slice of what to string?") H=_
  rw [A4,A6 he,J0];exact hr
 unfold PT at hk
 rcases AV.zw x (fun _ _ len _ _ _=>O6 A x 1 len fun l=>I4 l fun r=>k (.s r)) (Dx x (k (.s []))) with ⟨i,o,len,cap,z,ex,rfl,e'⟩ | e'
 ·rw [e'] at hk
  have hx0:=hx
  simp only [VR] at hx
  obtain ⟨en,y,c',g1,rfl,g3,g4,g5,g6,g7⟩:=hx
  obtain ⟨l,ws,h1,h2,h3,hk⟩:=LB h hx0 (Jb _) hk
  obtain ⟨r,h4,h5,h6⟩:=I3 l ws _ h2 hk
  refine ⟨_,_,go r ?_ _ _ _ rfl,Gs h5,h4⟩
  unfold Conv.bytesToString
  simp only
  have hl:Ac P (loadCells ⟨en.r,y,none⟩ len) H=some ws.toArray:=by
   have:=B7 (P:=P) h1;rw [show Builtin.firstCells 1 len (.slice (some ⟨en.r,y,none⟩) len c')=loadCells ⟨en.r,y,none⟩ (len * 1) from rfl,Jy] at this;exact this
  rw [A4,hl,J0,A4,W7,h6]
  rw [Hr (P:=P) (H:=H) (fun x s=>by simp) r ByteArray.empty]
  show some (Value.string ⟨#[] ++ (r.map UInt8.ofNat).toArray⟩)=some (Value.string ⟨(r.map UInt8.ofNat).toArray⟩)
  simp
 ·rw [e'] at hk
  obtain ⟨rfl,hk⟩:=GO hx hk
  exact ⟨_,_,go [] rfl _ _ _ rfl,Gs (by simp),hk⟩
def j2h (a i:AV) (n:Nat) (k:AV->Bool):Bool:=a.xp (fun l=>idx i fun j=>ifB (Nat.blt j n) (M0 l j k) false) false
theorem U1 {t n e:Nat} {j:TI} {a i:AV} {wa wi:Value} {k:AV->Bool} (ht:P.underlying t=some (.array n e)) (hj:TIok P e j) (hz:j.size=1) (hg:KH j.k=false) (ha:VR σ φ a wa) (hi:VR σ φ i wi) (hk:j2h a i n k=true) :
  ∃ v r,Es P t wa wi=some r/\VR σ φ v r/\k v=true:=by
 obtain ⟨l,c,rfl,rfl,hc,hk⟩:=Dw ha hk
 obtain ⟨g,m,rfl,hk⟩:=AY hi hk
 obtain ⟨h1,hk⟩:=Ab hk
 have h1:=Cd h1
 obtain ⟨v,h2,h3⟩:=D1 hk
 obtain ⟨r,h4,h5⟩:=hc.get h2
 refine ⟨v,r,?_,h5,h3⟩
 have hat:Mu P t=some (n,e):=by simp [Mu,ht]
 simp only [Es,hat,J0,hj.size,hz]
 rw [Ca (by omega)]
 unfold GK
 rw [ED hj,hg]
 simpa using h4
abbrev Nl (T:TR) (t:Nat) (k:Nat->Bool):Bool:=Ax T t fun i=>match i.k with
 | .int .i64=>k 0
 | .str=>k 1
 | .struct=>@Bool.rec (fun _=>Bool) false (k 2) (match i.eqk,i.flds with
  | some [(0,0),(1,0)],[_,_]=>true
  | _,_=>false)
 | _=>false
theorem DE {T:TR} (hT:Bl P T) {t:Nat} {k:Nat->Bool} (h:Nl T t k=true):∃ g,KC P g t/\k g=true:=by
 obtain ⟨i,hi,h⟩:=Ad hT h;obtain ⟨d,hu,hd⟩:=hi.kind;split at h
 ·rename_i hk;have:d=.int .i64:=(by rw [hk] at hd; cases d <;> simp [BZ] at hd; subst hd; rfl);subst this;exact ⟨0,hu,h⟩
 ·rename_i hk;exact ⟨1,Eg hu (hd.trans hk),h⟩
 ·rename_i hk;split at h
  ·rename_i he hf;refine ⟨2,?_,h⟩;have he':=hi.eqk;rw [he] at he';have hf':=hi.flds;rw [hf] at hf';unfold Mh at he';split at he'
   ·rename_i fs hfs;split at he'
    ·cases he'
    ·rename_i hs;simp only [Z9,V1,Wj] at hs;unfold Mf at hf';rw [hfs] at hf';simp only at hf';obtain ⟨l⟩:=fs;match l,hf',he',hfs with
     | [],hf',_,_=>simp at hf'
     | [_],hf',_,_=>simp at hf'
     | _ :: _ :: _ :: _,hf',_,_=>simp at hf'
     | [f0,f1],hf',he',hfs =>
      simp only [Ij] at he';have kk:∀ t,FR P t=some 0->P.underlying t=some (.int .i64):=by
       intro t ht;unfold FR at ht;split at ht
       ·assumption
       ·cases ht
       ·cases ht
       ·cases ht
       ·cases ht
      by_cases n0:f0.name = "_"
      ·rw [J8 n0] at he';by_cases n1:f1.name = "_"
       ·rw [J8 n1] at he'; simp at he'
       ·rw [J4 n1] at he'; cases hq:FR P f1.type <;> simp [hq] at he'
      ·rw [J4 n0] at he';by_cases n1:f1.name = "_"
       ·rw [J8 n1] at he'; cases hq:FR P f0.type <;> simp [hq] at he'
       ·rw [J4 n1] at he';cases q0:FR P f0.type with
        | none=>simp [q0] at he'
        | some k0 =>
         cases q1:FR P f1.type with
         | none=>simp [q0,q1] at he'
         | some k1 =>
          simp [q0,q1] at he';obtain ⟨⟨o0,rfl⟩,o1,rfl⟩:=he';exact ⟨⟨f0,f1,_,_,hfs,n0,n1,o0,o1,rfl,rfl,kk _ q0,kk _ q1⟩,hs.1⟩
   ·cases he'
  ·cases h
 ·cases h
end
end Go.Run
namespace Go.Run
open Go.HL
variable {σ:Nat->Value} {F:Nat->Option Obj} {φ:Phi} {A:AH} {H:A3} {P:Program} {V:HV}
section
abbrev j0x (T:TR) (U:Nat->AV) (op:BinOp) (t:Nat) (x y:Operand) (k:AV->Bool):Bool:=Ax T t fun i =>
 match i.eqk,op with
 | some l,.eql=>VD l false (ev U x) (ev U y) k
 | some l,.neq=>VD l true (ev U x) (ev U y) k
 | _,op=>YP op i.k x y (ev U x) (ev U y) k
abbrev qUn (U:Nat->AV) (op:UnOp) (x:Operand) (k:AV->Bool):Bool :=
 match op with
 | .not=>j1n (ev U x) k
 | .neg=>j1p (ev U x) k
 | _=>false
abbrev UN (T:TR) (U:Nat->AV) (A:AH) (s d:Nat) (x:Operand) (k:AV->Bool):Bool:=Ax T s fun i=>Ax T d fun j =>
 match i.k,j.k with
 | .int _,.int g=>PA g (ev U x) k
 | .slice e,.str=>Ax T e fun l=>match l.k with
  | .int .u8=>PT A (ev U x) k
  | _=>false
 | _,_=>false
abbrev Om (T:TR) (U:Nat->AV) (t:Nat) (x:Operand) (k:AV->Bool):Bool:=Ax T t fun i =>
 match i.k with
 | .iface=>false
 | _=>k (.i t (ev U x))
abbrev Pa (U:Nat->AV) (fn:Fn) (first captured:Array Operand) (k:AV->Bool):Bool :=
 match fn with
 | .func f=>k (.f f (first.toList.map (ev U)) (captured.toList.map (ev U)))
 | _=>false
abbrev WB (T:TR) (U:Nat->AV) (s:Nat) (x:Operand) (f:Nat) (k:AV->Bool):Bool:=Ax T s fun i=>Qd i.flds f fun d ft=>Ax T ft fun j=>@Bool.rec (fun _=>Bool) (j2t (ev U x) d k) false (Nat.beq j.size 0)
abbrev Rk (T:TR) (U:Nat->AV) (s:Nat) (x:Operand) (f:Nat) (k:AV->Bool):Bool:=Ax T s fun i=>Qd i.flds f fun d ft=>Ax T ft fun j=>@Bool.rec (fun _=>Bool) (j2v (ev U x) d k) (j2u (ev U x) d j.size k) (KH j.k)
abbrev WA (T:TR) (U:Nat->AV) (t:Nat) (x y:Operand) (k:AV->Bool):Bool:=Ax T t fun i =>
 match i.k with
 | .slice e=>Ax T e fun j=>j2j (ev U x) j.size (ev U y) k
 | .arr n e=>Ax T e fun j=>j2i (ev U x) n j.size (ev U y) k
 | _=>false
abbrev Rh (T:TR) (U:Nat->AV) (t:Nat) (x y:Operand) (k:AV->Bool):Bool:=Ax T t fun i =>
 match i.k with
 | .str=>EL (ev U x) (ev U y) k
 | .arr n e=>Ax T e fun j=>@Bool.rec (fun _=>Bool) false (@Bool.rec (fun _=>Bool) (j2h (ev U x) (ev U y) n k) false (KH j.k)) (Nat.beq j.size 1)
 | _=>false
abbrev Rf (T:TR) (U:Nat->AV) (A:AH) (t:Nat) (m key:Operand) (ok:Bool) (k:AV->Bool):Bool:=Ax T t fun i =>
 match i.k with
 | .map kt et=>Nl T kt fun g=>Ax T et fun j=>WW A g (ev U m) (ev U key) j.zv ok k
 | _=>false
abbrev On (T:TR) (U:Nat->AV) (t:Nat) (parts:Array (Nat × Operand)) (k:AV->Bool):Bool:=Ax T t fun i =>
 match i.pl,i.k with
 | some pl,_=>Oo U pl parts.toList fun l=>Uy i.zero l k
 | none,.arr n e=>Ax T e fun j=>JM U j.size parts.toList fun l=>Uy i.zero l k
 | _,_=>false
abbrev j0w (T:TR) (U:Nat->AV) (A:AH) (t:Nat) (x:Operand) (k:AV->Bool):Bool:=Ax T t fun i =>
 match i.k with
 | .slice _=>XB (ev U x) k
 | .str=>VO (ev U x) k
 | .map _ _=>j2a A (ev U x) k
 | _=>false
abbrev To (T:TR) (U:Nat->AV) (A:AH) (b:Builtin) (args:List Operand) (ats:List TypeId) (k:AV->Bool):Bool :=
 match b,args,ats with
 | .len,[x],[t]=>j0w T U A t x k
 | .max,[x,y],_=>WU (ev U x) (ev U y) k
 | .min,[x,y],_=>WT (ev U x) (ev U y) k
 | _,_,_=>false
abbrev qA (T:TR) (U:Nat->AV) (A:AH) (op:Op) (k:AV->Bool):Bool :=
 match op with
 | .move x=>k (ev U x)
 | .assign x=>k (ev U x)
 | .pick c a b=>Rs (ev U c) (ev U a) (ev U b) k
 | .load t p=>ldT T A t (ev U p) k
 | .nilCheck x=>WN (ev U x) k
 | .binOp op t x y _=>j0x T U op t x y k
 | .unOp op _ x=>qUn U op x k
 | .convert s d x=>UN T U A s d x k
 | .makeInterface t x=>Om T U t x k
 | .makeFunc fn first captured=>Pa U fn first captured k
 | .slice t x lo hi none=>VP T U t x lo hi k
 | .fieldAddr s x f=>WB T U s x f k
 | .field s x f=>Rk T U s x f k
 | .indexAddr t x i=>WA T U t x i k
 | .index t x i=>Rh T U t x i k
 | .lookup t m key ok=>Rf T U A t m key ok k
 | .extract t i=>Uh (ev U t) i k
 | .build t parts=>On T U t parts k
 | .call ⟨.builtin b,args,ats⟩=>To T U A b args.toList ats.toList k
 | _=>false
section
variable {T:TR} {U:Nat->AV} {e:En} {k:AV->Bool}
theorem Tp (hT:Bl P T) (he:ER σ φ U e) {op:BinOp} {t:Nat} {x y:Operand} (h:j0x T U op t x y k=true):∃ v r,B0 P (AI H) op t x y (e.ev x) (e.ev y)=some r/\VR σ φ v r/\k v=true:=by
 obtain ⟨i,hi,h⟩:=Ad hT h;obtain ⟨d,hu,hd⟩:=hi.kind;split at h
 ·rename_i l hl _;exact P4 (op:=.eql) (.inl rfl) hi hl (Ah he x) (Ah he y) h
 ·rename_i l hl _;exact P4 (op:=.neq) (.inr rfl) hi hl (Ah he x) (Ah he y) h
 ·exact Uz hu hd (Ah he x) (Ah he y) h
theorem Rm (hT:Bl P T) (hr:Rel σ F φ A H) (he:ER σ φ U e) {s d:Nat} {x:Operand} (h:UN T U A s d x k=true):∃ v r,CS P (AI H) s d (e.ev x)=some r/\VR σ φ v r/\k v=true:=by
 obtain ⟨i,hi,h⟩:=Ad hT h;obtain ⟨j,hj,h⟩:=Ad hT h;obtain ⟨d1,hu1,hd1⟩:=hi.kind;obtain ⟨d2,hu2,hd2⟩:=hj.kind;split at h
 ·rename_i g1 g2 h1 h2;have e1:d1=.int g1:=(by rw [h1] at hd1; cases d1 <;> simp [BZ] at hd1; subst hd1; rfl);have e2:d2=.int g2:=(by rw [h2] at hd2; cases d2 <;> simp [BZ] at hd2; subst hd2; rfl);subst e1 e2;exact NI hu1 hu2 (Ah he x) h
 ·rename_i el h1 h2;obtain ⟨l,hl,h⟩:=Ad hT h;obtain ⟨d3,hu3,hd3⟩:=hl.kind;split at h
  ·rename_i h3;have e3:d3=.int .u8:=(by rw [h3] at hd3; cases d3 <;> simp [BZ] at hd3; subst hd3; rfl);subst e3;exact T0 hr (B6 hu1 (hd1.trans h1) hl).2.2 hu3 (Eg hu2 (hd2.trans h2)) (Ah he x) h
  ·cases h
 ·cases h
theorem Q8 (hT:Bl P T) (he:ER σ φ U e) {t:Nat} {x:Operand} (h:Om T U t x k=true):∃ v r,Mb P t (e.ev x)=some r/\VR σ φ v r/\k v=true:=by
 obtain ⟨i,hi,h⟩:=Ad hT h;obtain ⟨d,hu,hd⟩:=hi.kind;split at h
 ·cases h
 ·rename_i hn;refine ⟨_,.iface t (e.ev x),?_,by simp only [VR]; exact ⟨_,rfl,Ah he x⟩,h⟩;unfold Mb;rw [hu];cases d <;> first | rfl | exact absurd hd.symm hn
theorem Ri (he:ER σ φ U e) {fn:Fn} {first captured:Array Operand} (h:Pa U fn first captured k=true) :
  ∃ v r,some (Value.func fn (first.toList.map e.ev).toArray (captured.toList.map e.ev).toArray)=some r/\VR σ φ v r/\k v=true:=by
 unfold Pa at h
 split at h
 ·exact ⟨_,_,rfl,by simp only [VR]; exact ⟨_,_,rfl,Gl he _,Gl he _⟩,h⟩
 ·cases h
theorem Tn (hT:Bl P T) (he:ER σ φ U e) {s f:Nat} {x:Operand} (h:WB T U s x f k=true):∃ v r,Fw P s (e.ev x) f=some r/\VR σ φ v r/\k v=true:=by
 obtain ⟨i,hi,h⟩:=Ad hT h;obtain ⟨d,ft,hf,h⟩:=M1 h;obtain ⟨j,hj,h⟩:=Ad hT h;obtain ⟨hz,h⟩:=Mp h;obtain ⟨v,a,h1,h2,h3⟩:=Ub (Ah he x) h;refine ⟨v,_,?_,h2,h3⟩;rw [h1,QA,hi.bx hf hj hz];rfl
theorem Rj (hT:Bl P T) (he:ER σ φ U e) {s f:Nat} {x:Operand} (h:Rk T U s x f k=true):∃ v r,Gk P s (e.ev x) f=some r/\VR σ φ v r/\k v=true:=by
 obtain ⟨i,hi,h⟩:=Ad hT h;obtain ⟨d,ft,hf,h⟩:=M1 h;obtain ⟨j,hj,h⟩:=Ad hT h;cases hb:KH j.k with
 | false =>
  rw [hb] at h;exact Ud (hi.fld hf) (by rw [ED hj,hb]; rfl) (Ah he x) h
 | true =>
  rw [hb] at h;exact Uc (hi.fld hf) (by rw [ED hj,hb]; rfl) (Ah he x) h
theorem OR {t n el:Nat} {d:TypeDesc} (hu:P.underlying t=some d) (hd:BZ d=.arr n el):P.underlying t=some (.array n el):=by
 have:d=.array n el:=(by cases d <;> cases hd <;> rfl);subst this; exact hu
theorem Tm (hT:Bl P T) (he:ER σ φ U e) {t:Nat} {x y:Operand} (h:WA T U t x y k=true):∃ v r,D7 P t (e.ev x) (e.ev y)=some r/\VR σ φ v r/\k v=true:=by
 obtain ⟨i,hi,h⟩:=Ad hT h;obtain ⟨d,hu,hd⟩:=hi.kind;split at h
 ·rename_i el hk;obtain ⟨j,hj,h⟩:=Ad hT h;exact U3 (B6 hu (hd.trans hk) hj).1 (Ah he x) (Ah he y) h
 ·rename_i n el hk;obtain ⟨j,hj,h⟩:=Ad hT h;exact U2 (by simp [Iw,Mu,OR hu (hd.trans hk),hj.size]) (Ah he x) (Ah he y) h
 ·cases h
theorem Rg (hT:Bl P T) (he:ER σ φ U e) {t:Nat} {x y:Operand} (h:Rh T U t x y k=true):∃ v r,Es P t (e.ev x) (e.ev y)=some r/\VR σ φ v r/\k v=true:=by
 obtain ⟨i,hi,h⟩:=Ad hT h;obtain ⟨d,hu,hd⟩:=hi.kind;split at h
 ·rename_i hk;exact Tc (Eg hu (hd.trans hk)) (Ah he x) (Ah he y) h
 ·rename_i n el hk;obtain ⟨j,hj,h⟩:=Ad hT h;obtain ⟨h1,h⟩:=Dm h;obtain ⟨h2,h⟩:=Mp h;exact U1 (OR hu (hd.trans hk)) hj (J9 h1) h2 (Ah he x) (Ah he y) h
 ·cases h
theorem F0 {t kt et:Nat} {d:TypeDesc} (hu:P.underlying t=some d) (hd:BZ d=.map kt et):P.underlying t=some (.map kt et):=by
 have:d=.map kt et:=(by cases d <;> cases hd <;> rfl);subst this; exact hu
theorem Re (hT:Bl P T) (hr:Rel σ F φ A H) (he:ER σ φ U e) {t:Nat} {m key:Operand} {ok:Bool} (h:Rf T U A t m key ok k=true):∃ v r,EG P (Instr.lookup t (e.ev m) (e.ev key) ok) (AI H)=some r/\VR σ φ v r/\k v=true:=by
 obtain ⟨i,hi,h⟩:=Ad hT h;obtain ⟨d,hu,hd⟩:=hi.kind;split at h
 ·rename_i kt et hk;obtain ⟨g,hg,h⟩:=DE hT h;obtain ⟨j,hj,h⟩:=Ad hT h;have hzv:=hj.zv;cases hz:AD P et with
  | none=>rw [hz] at hzv; cases hzv
  | some z =>
   rw [hz] at hzv;have hzv:cv1 z=j.zv:=Jj hzv;exact TS hr (F0 hu (hd.trans hk)) hg hz (hzv ▸ Kh z) (Ah he m) (Ah he key) h
 ·cases h
theorem Q9 (hT:Bl P T) (he:ER σ φ U e) {t:Nat} {parts:Array (Nat × Operand)} (h:On T U t parts k=true):∃ v r,D4 P t (parts.toList.map fun p=>(p.1,e.ev p.2))=some r/\VR σ φ v r/\k v=true:=by
 obtain ⟨i,hi,h⟩:=Ad hT h;obtain ⟨d,hu,hd⟩:=hi.kind;split at h
 ·rename_i pl hpl;obtain ⟨l,h1,h2,h⟩:=KY he _ _ h;exact Ux hi hpl h1 h2 h
 ·rename_i n el hpl hk;obtain ⟨j,hj,h⟩:=Ad hT h;obtain ⟨l,h1,h2,h⟩:=E2 he _ _ h;exact Uw hi hpl (OR hu (hd.trans hk)) hj h1 h2 h
 ·cases h
theorem Tl (hT:Bl P T) (hr:Rel σ F φ A H) (he:ER σ φ U e) {t:Nat} {x:Operand} (h:j0w T U A t x k=true):∃ v r,F3 P (AI H) t (e.ev x)=some r/\VR σ φ v r/\k v=true:=by
 obtain ⟨i,hi,h⟩:=Ad hT h;obtain ⟨d,hu,hd⟩:=hi.kind;split at h
 ·rename_i el hk;have:d=.slice el:=(by rw [hk] at hd; cases d <;> simp [BZ] at hd; subst hd; rfl);subst this;exact Pk (e:=el) (by simp [AN,hu]) (Ah he x) h
 ·rename_i hk;exact P6 (Eg hu (hd.trans hk)) (Ah he x) h
 ·rename_i kt et hk;exact TV hr (F0 hu (hd.trans hk)) (Ah he x) h
 ·cases h
theorem N2 (hT:Bl P T) (hr:Rel σ F φ A H) (he:ER σ φ U e) {op:Op} (h:qA T U A op k=true):∃ v r,opQ P (AI H) e.ev op=some r/\VR σ φ v r/\k v=true:=by
 unfold qA at h;split at h
 ·rename_i x; exact ⟨_,_,rfl,Ah he x,h⟩
 ·rename_i x; exact ⟨_,_,rfl,Ah he x,h⟩
 ·rename_i c a b; exact Rr (Ah he c) (Ah he a) (Ah he b) h
 ·rename_i t p;obtain ⟨a,v,r,h1,h2,h3,h4⟩:=OA hT hr (Ah he p) h;refine ⟨v,r,?_,h3,h4⟩;show FQ P (AI H) t (e.ev p)=_;rw [h1]; exact h2
 ·rename_i x; exact Tz (Ah he x) h
 ·exact Tp hT he h
 ·rename_i op _ x;cases op with
  | not=>exact Tx (Ah he x) h
  | neg=>exact TD (Ah he x) h
  | _=>cases h
 ·exact Rm hT hr he h
 ·exact Q8 hT he h
 ·exact Ri he h
 ·exact T7 hT he h
 ·exact Tn hT he h
 ·exact Rj hT he h
 ·exact Tm hT he h
 ·exact Rg hT he h
 ·exact Re hT hr he h
 ·rename_i t i; exact Ug (Ah he t) h
 ·exact Q9 hT he h
 ·rename_i b args ats;unfold To at h;split at h
  ·rename_i x t h1 h2;have e1:opQ P (AI H) e.ev (.call ⟨.builtin .len,args,ats⟩)=F3 P (AI H) t (e.ev x):=by
    show FZ P (AI H) (.builtin .len) ats.toList (args.toList.map e.ev)=_;rw [h1,h2]; rfl
   rw [e1];exact Tl hT hr he h
  ·rename_i x y h1;have e1:opQ P (AI H) e.ev (.call ⟨.builtin .max,args,ats⟩)=FO (e.ev x) (e.ev y):=by
    show FZ P (AI H) (.builtin .max) ats.toList (args.toList.map e.ev)=_;rw [h1]; rfl
   rw [e1];exact Pe (Ah he x) (Ah he y) h
  ·rename_i x y h1;have e1:opQ P (AI H) e.ev (.call ⟨.builtin .min,args,ats⟩)=JY (e.ev x) (e.ev y):=by
    show FZ P (AI H) (.builtin .min) ats.toList (args.toList.map e.ev)=_;rw [h1]; rfl
   rw [e1];exact Pd (Ah he x) (Ah he y) h
  ·cases h
 ·cases h
end
abbrev j33 (T:TR) (U:Nat->AV) (A:AH) (args:List Operand) (ats:List TypeId) (k:AV->AH->Bool):Bool :=
 match args,ats with
 | [s,x],[t,xt]=>Ax T t fun i=>Ax T xt fun j=>match i.k,j.k with
  | .slice e,.int _=>Ax T e fun l=>YQ A (ev U s) (ev U x) l k
  | .slice e,.slice _=>Ax T e fun l=>@Bool.rec (fun _=>Bool) false (OS A (ev U s) (ev U x) l.size k) (Nat.ble l.bytes 1048576)
  | .slice e,.str=>Ax T e fun l=>@Bool.rec (fun _=>Bool) false (OS A (ev U s) (ev U x) l.size k) (Nat.ble l.bytes 1048576)
  | _,_=>false
 | _,_=>false
abbrev j32 (T:TR) (U:Nat->AV) (A:AH) (b:Builtin) (args:List Operand) (ats:List TypeId) (k:AV->AH->Bool):Bool :=
 match b,args,ats with
 | .append,args,ats=>j33 T U A args ats k
 | .copy,[d,s],[t,_]=>Ax T t fun i=>match i.k with
  | .slice e=>Ax T e fun l=>j3c A (ev U d) (ev U s) l.size k
  | _=>false
 | .clear,[q],[t]=>Ax T t fun i=>match i.k with
  | .slice e=>Ax T e fun l=>YH A (ev U q) l k
  | _=>false
 | .delete,[m,key],[t,_]=>Ax T t fun i=>match i.k with
  | .map kt et=>Nl T kt fun g=>j1v A g (ev U m) (ev U key) fun A=>k Bz A
  | _=>false
 | b,args,ats=>To T U A b args ats fun v=>k v A
abbrev Pv (Tb:FT) (U:Nat->AV) (A:AH) (f:Operand) (args:List Operand) (k:AV->AH->Bool):Bool :=
 match f with
 | .func f=>Ia Tb f fun e=>Ef e.n e.g (args.map (ev U)) A k
 | f=>XV Tb (ev U f) (args.map (ev U)) A k
abbrev opA (T:TR) (Tb:FT) (U:Nat->AV) (A:AH) (op:Op) (k:AV->AH->Bool):Bool :=
 match op with
 | .store t p x=>Ax T t fun i=>stA A (ev U p) (ev U x) i.size fun A=>k Bz A
 | .alloc t=>Ax T t fun i=>SC A i.zero k
 | .box t x=>YM A (ev U x) k
 | .makeSlice t l c=>Ax T t fun i=>match i.k with
  | .slice e=>Ax T e fun j=>Qk A j (ev U l) (ev U c) k
  | _=>false
 | .buildSlice t len parts=>Ax T t fun i=>match i.k with
  | .slice e=>Ax T e fun j=>JM U j.size parts.toList fun l=>Uu A j len l k
  | _=>false
 | .makeMap t none=>Ax T t fun i=>match i.k with
  | .map kt _=>Nl T kt fun g=>j1r A g k
  | _=>false
 | .mapUpdate t m key x=>Ax T t fun i=>match i.k with
  | .map kt _=>Nl T kt fun g=>RG A g (ev U m) (ev U key) (ev U x) fun A=>k Bz A
  | _=>false
 | .insert t m key x=>Ax T t fun i=>match i.k with
  | .map kt _=>Nl T kt fun g=>RG A g (ev U m) (ev U key) (ev U x) fun A=>k Bz A
  | _=>false
 | .call ⟨.value f,args,_⟩=>Pv Tb U A f args.toList k
 | .call ⟨.builtin b,args,ats⟩=>j32 T U A b args.toList ats.toList k
 | op=>qA T U A op fun v=>k v A
section
variable {T:TR} {Tb:FT} {U:Nat->AV} {e:En} {k:AV->AH->Bool} {n:Nat} {K:En->A3->Prop} {Q:Exit->En->A3->Prop}
def O1 (σ:Nat->Value) (F:Nat->Option Obj) (φ:Phi) (k:AV->AH->Bool) (R:Value->A3->Prop):Prop :=
 ∀ v A' φ' w H',φ.le φ'->Rel σ F φ' A' H'->VR σ φ' v w->k v A'=true->R w H'
theorem MZ {o:Oper} {r:Value} (h:opQ P (AI H) e.ev o.op=some r) (hk:K (e.put n o.dst r) H):Cn n P o e H K Q:=Df P _ H _ _ _ (Hv (Fv H) h) hk
theorem ND (hTb:TOK P Tb) (hr:Rel σ F φ A H) (he:ER σ φ U e) {f:Operand} {args:List Operand} {R:Value->A3->Prop} {E:List PanicEntry->A3->Prop} (h:Pv Tb U A f args k=true) (hk:O1 σ F φ k R) :
  EJ P (e.ev f) (args.map e.ev) H R E:=by
 have done:∀ {w:Value},EJ P w (args.map e.ev) H (RK σ F φ k) (fun _ _=>False)->EJ P w (args.map e.ev) H R E:=by
  intro w hw;unfold EJ at hw ⊢;split at hw
  ·exact hw.mono (fun v H' ⟨φ',a,A',h1,h2,h3,h4⟩=>hk a A' φ' v H' h1 h3 h2 h4) (fun _ _ x=>x.elim)
  ·exact hw.elim
 unfold Pv at h
 split at h
 ·rename_i f
  obtain ⟨fe,hf,h⟩:=My hTb h
  refine done ?_
  show CallF P f ([] ++ args.map e.ev ++ []) H _ _
  simp only [X1,Xd]
  exact hf σ F φ A H _ _ k hr (Gl he args) h
 ·exact done (Um hTb hr (Ah he _) (Gl he args) h)
theorem YO (hT:Bl P T) (hr:Rel σ F φ A H) (he:ER σ φ U e) {b:Builtin} {args:Array Operand} {ats:Array TypeId} {dst:Option Nat} {type:TypeId} {pos:String} {after:Array Edge} {guard:Option (Nat × Bool)}
  (h:To T U A b args.toList ats.toList (fun v=>k v A)=true) (hk:O1 σ F φ k fun w H'=>K (e.put n dst w) H'):Cn n P ⟨dst,.call ⟨.builtin b,args,ats⟩,type,pos,after,guard⟩ e H K Q:=by
 obtain ⟨v,r,h1,h2,h3⟩:=N2 (op:=.call ⟨.builtin b,args,ats⟩) hT hr he h
 exact MZ h1 (hk v A φ r H φ.le_refl hr h2 h3)
theorem Ry (hT:Bl P T) (hTb:TOK P Tb) (hr:Rel σ F φ A H) (he:ER σ φ U e) {o:Oper} (h:opA T Tb U A o.op k=true) (hk:O1 σ F φ k fun w H'=>K (e.put n o.dst w) H'):Cn n P o e H K Q:=by
 obtain ⟨dst,op,type,pos,after,guard⟩:=o;simp only at h hk;unfold opA at h;split at h
 ·rename_i t p x;obtain ⟨i,hi,h⟩:=Ad hT h;obtain ⟨a,A',H',h1,h2,h3,h4⟩:=Lz hi.size hr (Ah he p) (Ah he x) h;refine Em ?_;show GJ (e.ev p) _;rw [h1];show DU (e.ev x) fun v=>AQ (B1 P H t a v) _;show AQ (B1 P H t a (e.ev x)) _;rw [h2];exact hk Bz A' φ undef H' φ.le_refl h3 BS h4
 ·rename_i t;obtain ⟨i,hi,h⟩:=Ad hT h;obtain ⟨z,hz,hzs,hv⟩:=hi.zer;obtain ⟨v,A',φ',h1,h2,h3,h4⟩:=Mv (el:=t) hr (hv σ φ) h;refine Em ?_;show AQ (AD P t) _;rw [hz];exact hk v A' φ' _ _ h1 h2 h3 h4
 ·rename_i t x;obtain ⟨v,A',φ',h1,h2,h3,h4⟩:=PE (el:=t) hr (Ah he x) h;exact Em (hk v A' φ' _ _ h1 h2 h3 h4)
 ·rename_i t l c;obtain ⟨i,hi,h⟩:=Ad hT h;obtain ⟨d,hu,hd⟩:=hi.kind;split at h
  ·rename_i el hkk;obtain ⟨j,hj,h⟩:=Ad hT h;obtain ⟨r,h1,v,A',φ',h2,h3,h4,h5⟩:=Pg hr (B6 hu (hd.trans hkk) hj).2.2 hj (Ah he l) (Ah he c) h;refine Em ?_;show AQ (makeV P H t (e.ev l) (e.ev c)) _;rw [h1];exact hk v A' φ' _ _ h2 h3 h4 h5
  ·cases h
 ·rename_i t len parts;obtain ⟨i,hi,h⟩:=Ad hT h;obtain ⟨d,hu,hd⟩:=hi.kind;split at h
  ·rename_i el hkk;obtain ⟨j,hj,h⟩:=Ad hT h;obtain ⟨l,h1,h2,h⟩:=E2 he _ _ h;obtain ⟨r,h3,v,A',φ',h4,h5,h6,h7⟩:=PC hr (B6 hu (hd.trans hkk) hj).2.2 hj h1 h2 h;refine Em ?_;show AQ (buildSliceV P H t len (parts.toList.map fun p=>(p.1,e.ev p.2))) _;rw [h3];exact hk v A' φ' _ _ h4 h5 h6 h7
  ·cases h
 ·rename_i t;obtain ⟨i,hi,h⟩:=Ad hT h;split at h
  ·obtain ⟨g,hg,h⟩:=DE hT h;obtain ⟨v,A',φ',h1,h2,h3,h4⟩:=TF hr h;exact Em (hk v A' φ' _ _ h1 h2 h3 h4)
  ·cases h
 ·rename_i t m key x;obtain ⟨i,hi,h⟩:=Ad hT h;obtain ⟨d,hu,hd⟩:=hi.kind;split at h
  ·rename_i kt et hkk;obtain ⟨g,hg,h⟩:=DE hT h;refine Em ?_;exact IE hr (F0 hu (hd.trans hkk)) hg (Ah he m) (Ah he key) (Ah he x) (fun A' H' h1 h2=>hk Bz A' φ undef H' φ.le_refl h1 BS h2) h
  ·cases h
 ·rename_i t m key x;obtain ⟨i,hi,h⟩:=Ad hT h;obtain ⟨d,hu,hd⟩:=hi.kind;split at h
  ·rename_i kt et hkk;obtain ⟨g,hg,h⟩:=DE hT h;refine Em ?_;exact IE hr (F0 hu (hd.trans hkk)) hg (Ah he m) (Ah he key) (Ah he x) (fun A' H' h1 h2=>hk Bz A' φ undef H' φ.le_refl h1 BS h2) h
  ·cases h
 ·exact L1 (ND hTb hr he h hk)
 ·rename_i b args ats;have bi:∀ {b:Builtin} {run:Array TypeId->TypeId->Array Value->Sem Value},execOp e.ev ⟨dst,.call ⟨.builtin b,args,ats⟩,type,pos,after,guard⟩=(do pure (Next.value (<- run ats type (args.map e.ev)))) ->
    hwp P (run ats type (args.map e.ev)) H (fun w H'=>K (e.put n dst w) H') (fun _ _=>False)->Cn n P ⟨dst,.call ⟨.builtin b,args,ats⟩,type,pos,after,guard⟩ e H K Q:=by
   intro b run e1 h1
   unfold Cn
   rw [e1,Az]
   exact B4 P _ _ _ _ _ _ (fun v H' hx=>hx) (fun v H' hx=>hx.elim) h1
  have two:∀ {x y:Operand},args.toList = [x,y]->args.map e.ev = #[e.ev x,e.ev y]:=by
   intro x y hx; apply Zk; simp [hx]
  have ty2:∀ {t t':TypeId},ats.toList = [t,t']->ats = #[t,t']:=by
   intro t t' hx; apply Zk; simp [hx]
  unfold j32 at h;split at h
  ·unfold j33 at h;split at h
   ·rename_i s x t xt ha hat;obtain ⟨i,hi,h⟩:=Ad hT h;obtain ⟨j,hj,h⟩:=Ad hT h;obtain ⟨d1,hu1,hd1⟩:=hi.kind;obtain ⟨d2,hu2,hd2⟩:=hj.kind;have reg:∀ {el:Nat} {l:TI} (hl:TIok P el l) (he1:AN P t=some el) (hdi:∀ kk,d2 ≠ .int kk),@Bool.rec (fun _=>Bool) false (OS A (ev U s) (ev U x) l.size k) (Nat.ble l.bytes 1048576)=true ->
      Cn n P ⟨dst,.call ⟨.builtin .append,args,ats⟩,type,pos,after,guard⟩ e H K Q:=by
     intro el l hl he1 hdi h
     obtain ⟨hb,h⟩:=Dm h
     obtain ⟨z,hz,hzs,_⟩:=hl.zer
     refine bi rfl ?_
     rw [ty2 hat,two ha]
     refine B4 P _ _ _ _ _ _ (fun v H' hx=>hx) (fun v H' hx=>hx) (K6 (E:=fun _ _=>False) ?_)
     exact PL hr (Ah he s) (Ah he x) he1 hl.size hl.bytes (Ja hb) hz hzs hu2 hdi hk h
    split at h
    ·rename_i el g h1 h2;obtain ⟨l,hl,h⟩:=Ad hT h;have e2:d2=.int g:=(by rw [h2] at hd2; cases d2 <;> simp [BZ] at hd2; subst hd2; rfl);subst e2;refine bi rfl ?_;rw [ty2 hat,two ha];exact UC hr (Ah he s) (Ah he x) (B6 hu1 (hd1.trans h1) hl).2.2 hl hu2 hk h
    ·rename_i el el' h1 h2;obtain ⟨l,hl,h⟩:=Ad hT h;exact reg hl (B6 hu1 (hd1.trans h1) hl).2.1 (by rintro kk rfl; rw [h2] at hd2; cases hd2) h
    ·rename_i el h1 h2;obtain ⟨l,hl,h⟩:=Ad hT h;exact reg hl (B6 hu1 (hd1.trans h1) hl).2.1 (by rintro kk rfl; rw [h2] at hd2; cases hd2) h
    ·cases h
   ·cases h
  ·rename_i dd s t t2 ha hat;obtain ⟨i,hi,h⟩:=Ad hT h;obtain ⟨d,hu,hd⟩:=hi.kind;split at h
   ·rename_i el hkk;obtain ⟨l,hl,h⟩:=Ad hT h;refine bi rfl ?_;rw [ty2 hat,two ha];exact Ur hr (B6 hu (hd.trans hkk) hl).2.2 hl.size (Ah he dd) (Ah he s) (fun v A' w H' h1 h2 h3=>hk v A' φ w H' φ.le_refl h1 h2 h3) h
   ·cases h
  ·rename_i q t ha hat;obtain ⟨i,hi,h⟩:=Ad hT h;obtain ⟨d,hu,hd⟩:=hi.kind;split at h
   ·rename_i el hkk;obtain ⟨l,hl,h⟩:=Ad hT h;refine bi rfl ?_;rw [show ats = #[t] by apply Zk; simp [hat],show args.map e.ev = #[e.ev q] by apply Zk; simp [ha]];exact Ut hr (B6 hu (hd.trans hkk) hl).2.2 hl (Ah he q) (fun A' H' h1 h2=>hk Bz A' φ undef H' φ.le_refl h1 BS h2) h
   ·cases h
  ·rename_i m key t t2 ha hat;obtain ⟨i,hi,h⟩:=Ad hT h;obtain ⟨d,hu,hd⟩:=hi.kind;split at h
   ·rename_i kt et hkk;obtain ⟨g,hg,h⟩:=DE hT h;refine bi rfl ?_;rw [ty2 hat,two ha];exact TN hr (F0 hu (hd.trans hkk)) hg (Ah he m) (Ah he key) (fun A' H' h1 h2=>hk Bz A' φ undef H' φ.le_refl h1 BS h2) h
   ·cases h
  ·exact YO hT hr he h hk
 ·obtain ⟨v,r,h1,h2,h3⟩:=N2 hT hr he h;exact MZ h1 (hk v A φ r H φ.le_refl hr h2 h3)
end
end
end Go.Run
namespace Go.Run
open Go.HL
variable {σ:Nat->Value} {F:Nat->Option Obj} {φ:Phi} {A:AH} {H:A3} {P:Program} {V:HV}
section
abbrev Kt:=(Nat->AV)->AH->Bool
abbrev Cs (U:Nat->AV) (dst:Option Nat) (v:AV):Nat->AV :=
 @Option.rec Nat (fun _=>Nat->AV) U (fun d t=>@Bool.rec (fun _=>AV) (U t) v (Nat.beq t d)) dst
structure ENV (σ:Nat->Value) (φ:Phi) (D:List Deferred) (U:Nat->AV) (e:En):Prop where
 er:ER σ φ U e
 ds:e.ds=D
def Dg (n:Nat) (dst:Option Nat):Bool:=@Option.rec Nat (fun _=>Bool) true (fun d=>Nat.blt d n) dst
theorem ENV.put {n:Nat} {D:List Deferred} {U:Nat->AV} {e:En} {φ φ':Phi} (h:ENV σ φ D U e) (hl:φ.le φ') {dst:Option Nat} (hd:Dg n dst=true) {v:AV} {w:Value} (hv:VR σ φ' v w):ENV σ φ' D (Cs U dst v) (e.put n dst w):=by
 cases dst with
 | none=>exact ⟨fun t=>VR.mono hl _ _ (h.er t),h.ds⟩
 | some d =>
  refine ⟨fun t=>?_,h.ds⟩;have hd:=Cd hd;show VR σ φ' (@Bool.rec (fun _=>AV) (U t) v (Nat.beq t d)) (if t=d/\d < n then w else e.get t);cases hb:Nat.beq t d with
  | true=>rw [J8 ⟨J9 hb,hd⟩]; exact hv
  | false=>rw [J4 (fun x=>G0 hb x.1)]; exact VR.mono hl _ _ (h.er t)
abbrev CD (ops:Array Oper) (U:Nat->AV) (j:Nat):AV :=
 match (ops[j]?).bind (·.dst) with
 | some d=>U d
 | none=>Bz
theorem DX {ops:Array Oper} {U:Nat->AV} {e:En} (h:ER σ φ U e) (j:Nat):VR σ φ (CD ops U j) (AZ ops e j):=by
 unfold CD AZ;cases (ops[j]?).bind (·.dst) with
 | some d=>exact h d
 | none=>exact BS
def gdK (c:AV) (want:Bool) (run:(AV->AH->Bool)->Bool) (A:AH) (k:AV->AH->Bool):Bool :=
 c.y0 (fun b=>@Bool.rec (fun _=>Bool) (k Bz A) (run k) (eqB b want)) (c.qb (fun _=>k Bz A) false)
theorem Le {c:AV} {w:Value} {want:Bool} {run:(AV->AH->Bool)->Bool} {k:AV->AH->Bool} {p q:Prop} (hc:VR σ φ c w) (h:gdK c want run A k=true) (hp:run k=true->p) (hq:k Bz A=true->q):BO w want p q:=by
 cases c with
 | b x =>
  simp only [VR] at hc;subst hc;replace h:@Bool.rec (fun _=>Bool) (k Bz A) (run k) (eqB x want)=true:=h;refine ⟨fun e=>?_,fun e=>?_⟩
  ·subst e;have e2:eqB x x=true:=(by cases x <;> rfl);rw [e2] at h;exact hp h
  ·subst e;have e2:eqB (!want) want=false:=(by cases want <;> rfl);rw [e2] at h;exact hq h
 | t l =>
  simp only [VR] at hc;obtain ⟨c,rfl,_⟩:=hc;exact hq h
 | _=>cases h
theorem Rw {U:Operand->Value} {op:Op} {r:Value} (hl:∀ t a,op ≠ .load t a) (h:opQ P (held []) U op=some r) (V:HV):opQ P V U op=some r:=by
 cases op with
 | load t a=>exact absurd rfl (hl t a)
 | binOp op t x y y' =>
  have h:B0 P (held []) op t x y (U x) (U y)=some r:=h;show B0 P V op t x y (U x) (U y)=some r;unfold B0 at h ⊢;split at h
  ·exact h
  ·exact h
  ·cases h
 | convert s d x =>
  have h:CS P (held []) s d (U x)=some r:=h;show CS P V s d (U x)=some r;unfold CS at h ⊢;split at h
  ·exact h
  ·cases h
 | lookup t m k ok=>cases h
 | typeAssert x xt t ok=>cases h
 | call c =>
  obtain ⟨cal,args,ats⟩:=c;have h:FZ P (held []) cal ats.toList (args.toList.map U)=some r:=h;show FZ P V cal ats.toList (args.toList.map U)=some r;cases cal with
  | builtin b =>
   have h:Ed P (held []) b ats.toList (args.toList.map U)=some r:=h;show Ed P V b ats.toList (args.toList.map U)=some r;generalize ats.toList=ts at h ⊢;generalize args.toList.map U=vs at h ⊢;unfold Ed at h ⊢;cases b <;> simp only at h ⊢ <;> try (cases h; done)
   ·split at h
    ·cases h
    ·cases h
   ·split at h
    ·unfold F3 at h ⊢;split at h
     ·exact h
     ·exact h
     ·cases h
    ·cases h
   ·exact h
   ·exact h
  | _=>cases h
 | _=>first | exact h | cases h
abbrev j59 (T:TR) (U:Nat->AV) (op:BinOp) (t:Nat) (x y:Operand) (k:AV->Bool):Bool:=Ax T t fun i =>
 match i.k,op with
 | .int _,.add=>YS (ev U x) (ev U y) k
 | .int _,.sub=>VA (ev U x) (ev U y) k
 | .int _,.xor=>Vl (ev U x) (ev U y) k
 | .int _,op=>FK op (ev U x) (ev U y) k
 | .str,.add=>R5 (ev U x) (ev U y) k
 | .str,.eql=>VW (ev U x) (ev U y) k
 | .str,.neq=>VK (ev U x) (ev U y) k
 | _,_=>false
abbrev j1b (T:TR) (U:Nat->AV) (s d:Nat) (x:Operand) (k:AV->Bool):Bool:=Ax T s fun i=>Ax T d fun j =>
 match i.k,j.k with
 | .int _,.int g=>PA g (ev U x) k
 | _,_=>false
abbrev j58 (T:TR) (U:Nat->AV) (t:Nat) (x:Operand) (k:AV->Bool):Bool:=Ax T t fun i =>
 match i.k with
 | .slice _=>XB (ev U x) k
 | .str=>VO (ev U x) k
 | _=>false
abbrev j1c (T:TR) (U:Nat->AV) (b:Builtin) (args:List Operand) (ats:List TypeId) (k:AV->Bool):Bool :=
 match b,args,ats with
 | .len,[x],[t]=>j58 T U t x k
 | .max,[x,y],_=>WU (ev U x) (ev U y) k
 | .min,[x,y],_=>WT (ev U x) (ev U y) k
 | _,_,_=>false
abbrev pA (T:TR) (U:Nat->AV) (op:Op) (k:AV->Bool):Bool :=
 match op with
 | .move x=>k (ev U x)
 | .assign x=>k (ev U x)
 | .pick c a b=>Rs (ev U c) (ev U a) (ev U b) k
 | .nilCheck x=>WN (ev U x) k
 | .binOp op t x y _=>j59 T U op t x y k
 | .unOp op _ x=>qUn U op x k
 | .convert s d x=>j1b T U s d x k
 | .makeInterface t x=>Om T U t x k
 | .makeFunc fn first captured=>Pa U fn first captured k
 | .slice t x lo hi none=>VP T U t x lo hi k
 | .fieldAddr s x f=>WB T U s x f k
 | .field s x f=>Rk T U s x f k
 | .indexAddr t x i=>WA T U t x i k
 | .index t x i=>Rh T U t x i k
 | .extract t i=>Uh (ev U t) i k
 | .build t parts=>On T U t parts k
 | .call ⟨.builtin b,args,ats⟩=>j1c T U b args.toList ats.toList k
 | _=>false
theorem Ez {op:BinOp} {f:AV->AV->(AV->Bool)->Bool} (h:Ck P op f) {t:TypeId} {xo yo:Operand} {x y:AV} {w w':Value} {k:AV->Bool} (hx:VR σ φ x w) (hy:VR σ φ y w') (hk:f x y k=true) (V:HV) :
  ∃ v r,B0 P V op t xo yo w w'=some r/\VR σ φ v r/\k v=true :=
 let ⟨r,v,a,b,c⟩:=h _ _ V t xo yo _ _ _ _ _ hx hy hk; ⟨v,r,a,b,c⟩
theorem UO {T:TR} {U:Nat->AV} {e:En} {k:AV->Bool} (hT:Bl P T) (hr:Rel σ F φ A H) (he:ER σ φ U e) {op:Op} (h:pA T U op k=true):∃ v r,(∀ V,opQ P V e.ev op=some r)/\VR σ φ v r/\k v=true:=by
 have same:∀ {op:Op},(∀ V,opQ P V e.ev op=opQ P (AI H) e.ev op)->qA T U A op k=true->∃ v r,(∀ V,opQ P V e.ev op=some r)/\VR σ φ v r/\k v=true:=by
  intro op hop h;obtain ⟨v,r,h1,h2,h3⟩:=N2 hT hr he h;exact ⟨v,r,fun V=>(hop V).trans h1,h2,h3⟩
 have none':∀ {op:Op},(∀ t a,op ≠ .load t a)->(∃ v r,opQ P (held []) e.ev op=some r/\VR σ φ v r/\k v=true)->∃ v r,(∀ V,opQ P V e.ev op=some r)/\VR σ φ v r/\k v=true:=by
  rintro op hop ⟨v,r,h1,h2,h3⟩;exact ⟨v,r,Rw hop h1,h2,h3⟩
 unfold pA at h;split at h
 ·exact same (fun _=>rfl) h
 ·exact same (fun _=>rfl) h
 ·exact same (fun _=>rfl) h
 ·exact same (fun _=>rfl) h
 ·rename_i op t x y y';refine none' (by simp) ?_;show ∃ v r,B0 P (held []) op t x y (e.ev x) (e.ev y)=some r/\_;obtain ⟨i,hi,h⟩:=Ad hT h;split at h
  ·exact Ez PM (Ah he x) (Ah he y) h _
  ·exact Ez P3 (Ah he x) (Ah he y) h _
  ·exact Ez OZ (Ah he x) (Ah he y) h _
  ·exact Ez IR (Ah he x) (Ah he y) h _
  ·exact Ez ML (Ah he x) (Ah he y) h _
  ·exact Ez P8 (Ah he x) (Ah he y) h _
  ·exact Ez P5 (Ah he x) (Ah he y) h _
  ·cases h
 ·exact same (fun _=>rfl) h
 ·rename_i s d x;refine none' (by simp) ?_;show ∃ v r,CS P (held []) s d (e.ev x)=some r/\_;obtain ⟨i,hi,h⟩:=Ad hT h;obtain ⟨j,hj,h⟩:=Ad hT h;obtain ⟨d1,hu1,hd1⟩:=hi.kind;obtain ⟨d2,hu2,hd2⟩:=hj.kind;split at h
  ·rename_i g1 g2 h1 h2;have e1:d1=.int g1:=(by rw [h1] at hd1; cases d1 <;> simp [BZ] at hd1; subst hd1; rfl);have e2:d2=.int g2:=(by rw [h2] at hd2; cases d2 <;> simp [BZ] at hd2; subst hd2; rfl);subst e1 e2;exact NI hu1 hu2 (Ah he x) h
  ·cases h
 ·exact same (fun _=>rfl) h
 ·exact same (fun _=>rfl) h
 ·exact same (fun _=>rfl) h
 ·exact same (fun _=>rfl) h
 ·exact same (fun _=>rfl) h
 ·exact same (fun _=>rfl) h
 ·exact same (fun _=>rfl) h
 ·exact same (fun _=>rfl) h
 ·exact same (fun _=>rfl) h
 ·rename_i b args ats;refine none' (by simp) ?_;unfold j1c at h;split at h
  ·rename_i x t h1 h2;have e1:opQ P (held []) e.ev (.call ⟨.builtin .len,args,ats⟩)=F3 P (held []) t (e.ev x):=by
    show FZ P (held []) (.builtin .len) ats.toList (args.toList.map e.ev)=_;rw [h1,h2]; rfl
   rw [e1];obtain ⟨i,hi,h⟩:=Ad hT h;obtain ⟨d,hu,hd⟩:=hi.kind;split at h
   ·rename_i el hk;have:d=.slice el:=(by rw [hk] at hd; cases d <;> simp [BZ] at hd; subst hd; rfl);subst this;exact Pk (e:=el) (by simp [AN,hu]) (Ah he x) h
   ·rename_i hk;exact P6 (Eg hu (hd.trans hk)) (Ah he x) h
   ·cases h
  ·rename_i x y h1;have e1:opQ P (held []) e.ev (.call ⟨.builtin .max,args,ats⟩)=FO (e.ev x) (e.ev y):=by
    show FZ P (held []) (.builtin .max) ats.toList (args.toList.map e.ev)=_;rw [h1]; rfl
   rw [e1];exact Pe (Ah he x) (Ah he y) h
  ·rename_i x y h1;have e1:opQ P (held []) e.ev (.call ⟨.builtin .min,args,ats⟩)=JY (e.ev x) (e.ev y):=by
    show FZ P (held []) (.builtin .min) ats.toList (args.toList.map e.ev)=_;rw [h1]; rfl
   rw [e1];exact Pd (Ah he x) (Ah he y) h
  ·cases h
 ·cases h
end
end Go.Run
namespace Go.Run
open Go.HL
variable {σ:Nat->Value} {F:Nat->Option Obj} {φ:Phi} {A:AH} {H:A3} {P:Program} {V:HV}
section
abbrev j37 (T:TR) (U:Nat->AV) (A:AH) (args:List Operand) (ats:List TypeId) (k:AV->AH->Bool):Bool :=
 match args,ats with
 | [s,x],[t,xt]=>Ax T t fun i=>Ax T xt fun j=>match i.k,j.k with
  | .slice e,.slice _=>Ax T e fun l=>@Bool.rec (fun _=>Bool) false (OS A (ev U s) (ev U x) l.size k) (Nat.ble l.bytes 1048576)
  | .slice e,.str=>Ax T e fun l=>@Bool.rec (fun _=>Bool) false (OS A (ev U s) (ev U x) l.size k) (Nat.ble l.bytes 1048576)
  | _,_=>false
 | _,_=>false
abbrev dA (T:TR) (Tb:FT) (U:Nat->AV) (A:AH) (op:Op) (k:AV->AH->Bool):Bool :=
 match op with
 | .store t p x=>Ax T t fun i=>stA A (ev U p) (ev U x) i.size fun A=>k Bz A
 | .alloc t=>Ax T t fun i=>SC A i.zero k
 | .box t x=>YM A (ev U x) k
 | .makeSlice t l c=>Ax T t fun i=>match i.k with
  | .slice e=>Ax T e fun j=>Qk A j (ev U l) (ev U c) k
  | _=>false
 | .buildSlice t len parts=>Ax T t fun i=>match i.k with
  | .slice e=>Ax T e fun j=>JM U j.size parts.toList fun l=>Uu A j len l k
  | _=>false
 | .mapUpdate t m key x=>Ax T t fun i=>match i.k with
  | .map kt _=>Nl T kt fun g=>RG A g (ev U m) (ev U key) (ev U x) fun A=>k Bz A
  | _=>false
 | .insert t m key x=>Ax T t fun i=>match i.k with
  | .map kt _=>Nl T kt fun g=>RG A g (ev U m) (ev U key) (ev U x) fun A=>k Bz A
  | _=>false
 | .call ⟨.value f,args,_⟩=>Pv Tb U A f args.toList k
 | .call ⟨.builtin .append,args,ats⟩=>j37 T U A args.toList ats.toList k
 | _=>false
section
variable {T:TR} {Tb:FT} {U:Nat->AV} {e:En} {k:AV->AH->Bool} {n:Nat} {K:En->A3->Prop} {Q:Exit->En->A3->Prop}
theorem UX (hT:Bl P T) (hTb:TOK P Tb) (hr:Rel σ F φ A H) (he:ER σ φ U e) {o:Oper} (h:dA T Tb U A o.op k=true) (hk:O1 σ F φ k fun w H'=>K (e.put n o.dst w) H'):opV n P o e H K Q:=by
 obtain ⟨dst,op,type,pos,after,guard⟩:=o;simp only at h hk;unfold dA at h;split at h
 ·rename_i t p x;obtain ⟨i,hi,h⟩:=Ad hT h;obtain ⟨a,A',H',h1,h2,h3,h4⟩:=Lz hi.size hr (Ah he p) (Ah he x) h;show GJ (e.ev p) _;rw [h1];show DU (e.ev x) fun v=>AQ (B1 P H t a v) _;show AQ (B1 P H t a (e.ev x)) _;rw [h2];exact hk Bz A' φ undef H' φ.le_refl h3 BS h4
 ·rename_i t;obtain ⟨i,hi,h⟩:=Ad hT h;obtain ⟨z,hz,hzs,hv⟩:=hi.zer;obtain ⟨v,A',φ',h1,h2,h3,h4⟩:=Mv (el:=t) hr (hv σ φ) h;show AQ (AD P t) _;rw [hz];exact hk v A' φ' _ _ h1 h2 h3 h4
 ·rename_i t x;obtain ⟨v,A',φ',h1,h2,h3,h4⟩:=PE (el:=t) hr (Ah he x) h;exact (hk v A' φ' _ _ h1 h2 h3 h4)
 ·rename_i t l c;obtain ⟨i,hi,h⟩:=Ad hT h;obtain ⟨d,hu,hd⟩:=hi.kind;split at h
  ·rename_i el hkk;obtain ⟨j,hj,h⟩:=Ad hT h;obtain ⟨r,h1,v,A',φ',h2,h3,h4,h5⟩:=Pg hr (B6 hu (hd.trans hkk) hj).2.2 hj (Ah he l) (Ah he c) h;show AQ (makeV P H t (e.ev l) (e.ev c)) _;rw [h1];exact hk v A' φ' _ _ h2 h3 h4 h5
  ·cases h
 ·rename_i t len parts;obtain ⟨i,hi,h⟩:=Ad hT h;obtain ⟨d,hu,hd⟩:=hi.kind;split at h
  ·rename_i el hkk;obtain ⟨j,hj,h⟩:=Ad hT h;obtain ⟨l,h1,h2,h⟩:=E2 he _ _ h;obtain ⟨r,h3,v,A',φ',h4,h5,h6,h7⟩:=PC hr (B6 hu (hd.trans hkk) hj).2.2 hj h1 h2 h;show AQ (buildSliceV P H t len (parts.toList.map fun p=>(p.1,e.ev p.2))) _;rw [h3];exact hk v A' φ' _ _ h4 h5 h6 h7
  ·cases h
 ·rename_i t m key x;obtain ⟨i,hi,h⟩:=Ad hT h;obtain ⟨d,hu,hd⟩:=hi.kind;split at h
  ·rename_i kt et hkk;obtain ⟨g,hg,h⟩:=DE hT h;exact IE hr (F0 hu (hd.trans hkk)) hg (Ah he m) (Ah he key) (Ah he x) (fun A' H' h1 h2=>hk Bz A' φ undef H' φ.le_refl h1 BS h2) h
  ·cases h
 ·rename_i t m key x;obtain ⟨i,hi,h⟩:=Ad hT h;obtain ⟨d,hu,hd⟩:=hi.kind;split at h
  ·rename_i kt et hkk;obtain ⟨g,hg,h⟩:=DE hT h;exact IE hr (F0 hu (hd.trans hkk)) hg (Ah he m) (Ah he key) (Ah he x) (fun A' H' h1 h2=>hk Bz A' φ undef H' φ.le_refl h1 BS h2) h
  ·cases h
 ·exact (ND hTb hr he h hk)
 ·rename_i args ats;unfold j37 at h;split at h
  ·rename_i s x t xt ha hat;obtain ⟨i,hi,h⟩:=Ad hT h;obtain ⟨j,hj,h⟩:=Ad hT h;obtain ⟨d1,hu1,hd1⟩:=hi.kind;obtain ⟨d2,hu2,hd2⟩:=hj.kind;have reg:∀ {el:Nat} {l:TI} (hl:TIok P el l) (he1:AN P t=some el) (hdi:∀ kk,d2 ≠ .int kk),@Bool.rec (fun _=>Bool) false (OS A (ev U s) (ev U x) l.size k) (Nat.ble l.bytes 1048576)=true ->
     opV n P ⟨dst,.call ⟨.builtin .append,args,ats⟩,type,pos,after,guard⟩ e H K Q:=by
    intro el l hl he1 hdi h
    obtain ⟨hb,h⟩:=Dm h
    obtain ⟨z,hz,hzs,_⟩:=hl.zer
    have key:NX P H t xt (e.ev s) (e.ev x) (fun v H'=>K (e.put n dst v) H'):=PL hr (Ah he s) (Ah he x) he1 hl.size hl.bytes (Ja hb) hz hzs hu2 hdi hk h
    have e1:ats = #[t,xt]:=by apply Zk; simp [hat]
    have e2:args = #[s,x]:=by apply Zk; simp [ha]
    clear h hk hu2 hat ha
    subst e1 e2
    exact key
   split at h
   ·rename_i el el' h1 h2;obtain ⟨l,hl,h⟩:=Ad hT h;exact reg hl (B6 hu1 (hd1.trans h1) hl).2.1 (by rintro kk rfl; rw [h2] at hd2; cases hd2) h
   ·rename_i el h1 h2;obtain ⟨l,hl,h⟩:=Ad hT h;exact reg hl (B6 hu1 (hd1.trans h1) hl).2.1 (by rintro kk rfl; rw [h2] at hd2; cases hd2) h
   ·cases h
  ·cases h
 ·cases h
end
end
end Go.Run
