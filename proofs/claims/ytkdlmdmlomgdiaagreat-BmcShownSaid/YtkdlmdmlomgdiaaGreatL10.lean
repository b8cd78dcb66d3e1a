/- Closed runs: the values of an abstract heap, its addresses, and trees of sixteen branches, in a form that the kernel works out fast. -/
import Derived.Test.YtkdlmdmlomgdiaaGreatL09
set_option linter.unusedSimpArgs false
set_option linter.unusedVariables false
set_option maxRecDepth 10000
set_option maxHeartbeats 8000000
noncomputable section
namespace Go.Run
open Go.HL
section
inductive D16 where
 | d0 | d1 | d2 | d3 | d4 | d5 | d6 | d7 | d8 | d9 | d10 | d11 | d12 | d13 | d14 | d15
 deriving DecidableEq
structure N16 (α:Type) where
 c0:α
 c1:α
 c2:α
 c3:α
 c4:α
 c5:α
 c6:α
 c7:α
 c8:α
 c9:α
 c10:α
 c11:α
 c12:α
 c13:α
 c14:α
 c15:α
def D16.nat (d:D16):Nat:=@D16.rec (fun _=>Nat) 0 1 2 3 4 5 6 7 8 9 10 11 12 13 14 15 d
def j1a (d:D16):(α:Type)->N16 α->α:=@D16.rec (fun _=>(α:Type)->N16 α->α) @N16.c0 @N16.c1 @N16.c2 @N16.c3 @N16.c4 @N16.c5 @N16.c6 @N16.c7 @N16.c8 @N16.c9 @N16.c10 @N16.c11 @N16.c12 @N16.c13 @N16.c14 @N16.c15 d
def sel {α:Type} (d:D16) (t:N16 α):α:=j1a d α t
def u0 (α:Type) (f:α->α) (c0 c1 c2 c3 c4 c5 c6 c7 c8 c9 c10 c11 c12 c13 c14 c15:α):N16 α:=.mk (f c0) c1 c2 c3 c4 c5 c6 c7 c8 c9 c10 c11 c12 c13 c14 c15
def u1 (α:Type) (f:α->α) (c0 c1 c2 c3 c4 c5 c6 c7 c8 c9 c10 c11 c12 c13 c14 c15:α):N16 α:=.mk c0 (f c1) c2 c3 c4 c5 c6 c7 c8 c9 c10 c11 c12 c13 c14 c15
def u2 (α:Type) (f:α->α) (c0 c1 c2 c3 c4 c5 c6 c7 c8 c9 c10 c11 c12 c13 c14 c15:α):N16 α:=.mk c0 c1 (f c2) c3 c4 c5 c6 c7 c8 c9 c10 c11 c12 c13 c14 c15
def u3 (α:Type) (f:α->α) (c0 c1 c2 c3 c4 c5 c6 c7 c8 c9 c10 c11 c12 c13 c14 c15:α):N16 α:=.mk c0 c1 c2 (f c3) c4 c5 c6 c7 c8 c9 c10 c11 c12 c13 c14 c15
def u4 (α:Type) (f:α->α) (c0 c1 c2 c3 c4 c5 c6 c7 c8 c9 c10 c11 c12 c13 c14 c15:α):N16 α:=.mk c0 c1 c2 c3 (f c4) c5 c6 c7 c8 c9 c10 c11 c12 c13 c14 c15
def u5 (α:Type) (f:α->α) (c0 c1 c2 c3 c4 c5 c6 c7 c8 c9 c10 c11 c12 c13 c14 c15:α):N16 α:=.mk c0 c1 c2 c3 c4 (f c5) c6 c7 c8 c9 c10 c11 c12 c13 c14 c15
def u6 (α:Type) (f:α->α) (c0 c1 c2 c3 c4 c5 c6 c7 c8 c9 c10 c11 c12 c13 c14 c15:α):N16 α:=.mk c0 c1 c2 c3 c4 c5 (f c6) c7 c8 c9 c10 c11 c12 c13 c14 c15
def u7 (α:Type) (f:α->α) (c0 c1 c2 c3 c4 c5 c6 c7 c8 c9 c10 c11 c12 c13 c14 c15:α):N16 α:=.mk c0 c1 c2 c3 c4 c5 c6 (f c7) c8 c9 c10 c11 c12 c13 c14 c15
def u8 (α:Type) (f:α->α) (c0 c1 c2 c3 c4 c5 c6 c7 c8 c9 c10 c11 c12 c13 c14 c15:α):N16 α:=.mk c0 c1 c2 c3 c4 c5 c6 c7 (f c8) c9 c10 c11 c12 c13 c14 c15
def u9 (α:Type) (f:α->α) (c0 c1 c2 c3 c4 c5 c6 c7 c8 c9 c10 c11 c12 c13 c14 c15:α):N16 α:=.mk c0 c1 c2 c3 c4 c5 c6 c7 c8 (f c9) c10 c11 c12 c13 c14 c15
def u10 (α:Type) (f:α->α) (c0 c1 c2 c3 c4 c5 c6 c7 c8 c9 c10 c11 c12 c13 c14 c15:α):N16 α:=.mk c0 c1 c2 c3 c4 c5 c6 c7 c8 c9 (f c10) c11 c12 c13 c14 c15
def u11 (α:Type) (f:α->α) (c0 c1 c2 c3 c4 c5 c6 c7 c8 c9 c10 c11 c12 c13 c14 c15:α):N16 α:=.mk c0 c1 c2 c3 c4 c5 c6 c7 c8 c9 c10 (f c11) c12 c13 c14 c15
def u12 (α:Type) (f:α->α) (c0 c1 c2 c3 c4 c5 c6 c7 c8 c9 c10 c11 c12 c13 c14 c15:α):N16 α:=.mk c0 c1 c2 c3 c4 c5 c6 c7 c8 c9 c10 c11 (f c12) c13 c14 c15
def u13 (α:Type) (f:α->α) (c0 c1 c2 c3 c4 c5 c6 c7 c8 c9 c10 c11 c12 c13 c14 c15:α):N16 α:=.mk c0 c1 c2 c3 c4 c5 c6 c7 c8 c9 c10 c11 c12 (f c13) c14 c15
def u14 (α:Type) (f:α->α) (c0 c1 c2 c3 c4 c5 c6 c7 c8 c9 c10 c11 c12 c13 c14 c15:α):N16 α:=.mk c0 c1 c2 c3 c4 c5 c6 c7 c8 c9 c10 c11 c12 c13 (f c14) c15
def u15 (α:Type) (f:α->α) (c0 c1 c2 c3 c4 c5 c6 c7 c8 c9 c10 c11 c12 c13 c14 c15:α):N16 α:=.mk c0 c1 c2 c3 c4 c5 c6 c7 c8 c9 c10 c11 c12 c13 c14 (f c15)
def j51 (α:Type) (f:α->α) (t:N16 α):N16 α:=@N16.rec α (fun _=>N16 α) (u0 α f) t
def j50 (α:Type) (f:α->α) (t:N16 α):N16 α:=@N16.rec α (fun _=>N16 α) (u1 α f) t
def j4z (α:Type) (f:α->α) (t:N16 α):N16 α:=@N16.rec α (fun _=>N16 α) (u2 α f) t
def j4y (α:Type) (f:α->α) (t:N16 α):N16 α:=@N16.rec α (fun _=>N16 α) (u3 α f) t
def j4x (α:Type) (f:α->α) (t:N16 α):N16 α:=@N16.rec α (fun _=>N16 α) (u4 α f) t
def j4w (α:Type) (f:α->α) (t:N16 α):N16 α:=@N16.rec α (fun _=>N16 α) (u5 α f) t
def j4v (α:Type) (f:α->α) (t:N16 α):N16 α:=@N16.rec α (fun _=>N16 α) (u6 α f) t
def j4u (α:Type) (f:α->α) (t:N16 α):N16 α:=@N16.rec α (fun _=>N16 α) (u7 α f) t
def j4t (α:Type) (f:α->α) (t:N16 α):N16 α:=@N16.rec α (fun _=>N16 α) (u8 α f) t
def j4s (α:Type) (f:α->α) (t:N16 α):N16 α:=@N16.rec α (fun _=>N16 α) (u9 α f) t
def j0f (α:Type) (f:α->α) (t:N16 α):N16 α:=@N16.rec α (fun _=>N16 α) (u10 α f) t
def j0e (α:Type) (f:α->α) (t:N16 α):N16 α:=@N16.rec α (fun _=>N16 α) (u11 α f) t
def j0d (α:Type) (f:α->α) (t:N16 α):N16 α:=@N16.rec α (fun _=>N16 α) (u12 α f) t
def j0c (α:Type) (f:α->α) (t:N16 α):N16 α:=@N16.rec α (fun _=>N16 α) (u13 α f) t
def j0b (α:Type) (f:α->α) (t:N16 α):N16 α:=@N16.rec α (fun _=>N16 α) (u14 α f) t
def j0a (α:Type) (f:α->α) (t:N16 α):N16 α:=@N16.rec α (fun _=>N16 α) (u15 α f) t
def j52 (d:D16):(α:Type)->(α->α)->N16 α->N16 α:=@D16.rec (fun _=>(α:Type)->(α->α)->N16 α->N16 α) j51 j50 j4z j4y j4x j4w j4v j4u j4t j4s j0f j0e j0d j0c j0b j0a d
def upd {α:Type} (d:D16) (f:α->α) (t:N16 α):N16 α:=j52 d α f t
def Ce {α:Type} (x:α):N16 α:=.mk x x x x x x x x x x x x x x x x
def j5p (n:Nat):D16:=@Bool.rec (fun _=>D16) .d0 .d1 (Nat.ble 1 n)
def j5m (n:Nat):D16:=@Bool.rec (fun _=>D16) .d2 .d3 (Nat.ble 3 n)
def j5o (n:Nat):D16:=@Bool.rec (fun _=>D16) (j5p n) (j5m n) (Nat.ble 2 n)
def j5l (n:Nat):D16:=@Bool.rec (fun _=>D16) .d4 .d5 (Nat.ble 5 n)
def j5j (n:Nat):D16:=@Bool.rec (fun _=>D16) .d6 .d7 (Nat.ble 7 n)
def j5k (n:Nat):D16:=@Bool.rec (fun _=>D16) (j5l n) (j5j n) (Nat.ble 6 n)
def j5n (n:Nat):D16:=@Bool.rec (fun _=>D16) (j5o n) (j5k n) (Nat.ble 4 n)
def j2q (n:Nat):D16:=@Bool.rec (fun _=>D16) .d8 .d9 (Nat.ble 9 n)
def XM (n:Nat):D16:=@Bool.rec (fun _=>D16) .d10 .d11 (Nat.ble 11 n)
def j2p (n:Nat):D16:=@Bool.rec (fun _=>D16) (j2q n) (XM n) (Nat.ble 10 n)
def XL (n:Nat):D16:=@Bool.rec (fun _=>D16) .d12 .d13 (Nat.ble 13 n)
def XJ (n:Nat):D16:=@Bool.rec (fun _=>D16) .d14 .d15 (Nat.ble 15 n)
def XK (n:Nat):D16:=@Bool.rec (fun _=>D16) (XL n) (XJ n) (Nat.ble 14 n)
def j2o (n:Nat):D16:=@Bool.rec (fun _=>D16) (j2p n) (XK n) (Nat.ble 12 n)
def dig (n:Nat):D16:=@Bool.rec (fun _=>D16) (j5n n) (j2o n) (Nat.ble 8 n)
def Gb {α:Type} (n:Nat) (t:N16 α):α:=j1a (dig n) α t
theorem Bm {α:Type} (d:D16) (f:α->α) (t:N16 α):sel d (upd d f t)=f (sel d t):=by cases t; cases d <;> rfl
theorem Bf {α:Type} {d d':D16} (h:d' ≠ d) (f:α->α) (t:N16 α):sel d' (upd d f t)=sel d' t:=by
 cases t; cases d <;> cases d' <;> first | rfl | exact absurd rfl h
theorem Iz {α:Type} (d:D16) (x:α):sel d (Ce x)=x:=by cases d <;> rfl
theorem D5 {α:Type} (n:Nat) (t:N16 α):Gb n t=sel (dig n) t:=rfl
theorem Pw (d:D16):dig d.nat=d:=by cases d <;> rfl
theorem Un {n m:Nat} (hn:n < 16) (hm:m < 16) (h:dig n=dig m):n=m:=by
 have key:∀ n,n < 16->(dig n).nat=n:=(by decide +kernel);rw [<- key n hn,<- key m hm,h]
theorem D16.yh (d:D16):d.nat < 16:=by cases d <;> decide
theorem D16.yr {d d':D16} (h:d.nat=d'.nat):d=d':=by rw [<- Pw d,<- Pw d',h]
structure Id where
 a:D16
 b:D16
 c:D16
 d:D16
 e:D16
 deriving DecidableEq
def Id.nat (i:Id):Nat:=i.a.nat + 16 * (i.b.nat + 16 * (i.c.nat + 16 * (i.d.nat + 16 * i.e.nat)))
theorem Id.yr {i j:Id} (h:i.nat=j.nat):i=j:=by
 unfold Id.nat at h;have h1:=i.a.yh; have h2:=i.b.yh; have h3:=i.c.yh; have h4:=i.d.yh; have h5:=i.e.yh;have g1:=j.a.yh; have g2:=j.b.yh; have g3:=j.c.yh; have g4:=j.d.yh; have g5:=j.e.yh;have ea:i.a.nat=j.a.nat:=(by omega);have eb:i.b.nat=j.b.nat:=(by omega);have ec:i.c.nat=j.c.nat:=(by omega);have ed:i.d.nat=j.d.nat:=(by omega);have ee:i.e.nat=j.e.nat:=(by omega);cases i; cases j
 simp only [Id.mk.injEq];exact ⟨D16.yr ea,D16.yr eb,D16.yr ec,D16.yr ed,D16.yr ee⟩
def bump {α:Type} (d:D16) (k:D16->α) (c:α):α:=@D16.rec (fun _=>α) (k .d1) (k .d2) (k .d3) (k .d4) (k .d5) (k .d6) (k .d7) (k .d8) (k .d9) (k .d10) (k .d11) (k .d12) (k .d13) (k .d14) (k .d15) c d
def Id.next {α:Type} (i:Id) (k:Id->α) (no:α):α :=
 @Id.rec (fun _=>α) (fun a b c d e=>bump a (fun a=>k ⟨a,b,c,d,e⟩) (bump b (fun b=>k ⟨.d0,b,c,d,e⟩) (bump c (fun c=>k ⟨.d0,.d0,c,d,e⟩) (bump d (fun d=>k ⟨.d0,.d0,.d0,d,e⟩) (bump e (fun e=>k ⟨.d0,.d0,.d0,.d0,e⟩) no))))) i
theorem GZ {α:Type} (d:D16) (k:D16->α) (c:α):(d=.d15/\bump d k c=c)\/∃ d',d'.nat=d.nat + 1/\bump d k c=k d':=by
 cases d <;> first | exact .inl ⟨rfl,rfl⟩ | exact .inr ⟨_,rfl,rfl⟩
theorem Id.nw {α:Type} (i:Id) (k:Id->α) (no:α):i.next k no=no\/∃ j,j.nat=i.nat + 1/\i.next k no=k j:=by
 obtain ⟨a,b,c,d,e⟩:=i;simp only [Id.next,Id.nat];rcases GZ a (fun a=>k ⟨a,b,c,d,e⟩) (bump b (fun b=>k ⟨.d0,b,c,d,e⟩) (bump c (fun c=>k ⟨.d0,.d0,c,d,e⟩) (bump d (fun d=>k ⟨.d0,.d0,.d0,d,e⟩) (bump e (fun e=>k ⟨.d0,.d0,.d0,.d0,e⟩) no)))) with ⟨rfl,h⟩ | ⟨x,hx,h⟩
 ·rw [h];rcases GZ b (fun b=>k ⟨.d0,b,c,d,e⟩) (bump c (fun c=>k ⟨.d0,.d0,c,d,e⟩) (bump d (fun d=>k ⟨.d0,.d0,.d0,d,e⟩) (bump e (fun e=>k ⟨.d0,.d0,.d0,.d0,e⟩) no))) with ⟨rfl,h⟩ | ⟨x,hx,h⟩
  ·rw [h];rcases GZ c (fun c=>k ⟨.d0,.d0,c,d,e⟩) (bump d (fun d=>k ⟨.d0,.d0,.d0,d,e⟩) (bump e (fun e=>k ⟨.d0,.d0,.d0,.d0,e⟩) no)) with ⟨rfl,h⟩ | ⟨x,hx,h⟩
   ·rw [h];rcases GZ d (fun d=>k ⟨.d0,.d0,.d0,d,e⟩) (bump e (fun e=>k ⟨.d0,.d0,.d0,.d0,e⟩) no) with ⟨rfl,h⟩ | ⟨x,hx,h⟩
    ·rw [h];rcases GZ e (fun e=>k ⟨.d0,.d0,.d0,.d0,e⟩) no with ⟨rfl,h⟩ | ⟨x,hx,h⟩
     ·exact .inl h
     ·refine .inr ⟨_,?_,h⟩; simp only [hx,show D16.d0.nat=0 from rfl,show D16.d15.nat=15 from rfl]; omega
    ·refine .inr ⟨_,?_,h⟩; simp only [hx,show D16.d0.nat=0 from rfl,show D16.d15.nat=15 from rfl]; omega
   ·refine .inr ⟨_,?_,h⟩; simp only [hx,show D16.d0.nat=0 from rfl,show D16.d15.nat=15 from rfl]; omega
  ·refine .inr ⟨_,?_,h⟩; simp only [hx,show D16.d0.nat=0 from rfl,show D16.d15.nat=15 from rfl]; omega
 ·refine .inr ⟨_,?_,h⟩; simp only [hx]; omega
inductive AV where
 | u
 | b (x:Bool)
 | n (x:Nat)
 | z (g:IntKind) (x:Int)
 | s (l:List Nat)
 | p (i:Id) (o:Nat)
 | q (i:Id) (o len cap z:Nat) (ex:Bool)
 | m (i:Id)
 | nil (g:Nat)
 | f (fn:Nat) (xs ys:List AV)
 | i (t:Nat) (w:AV)
 | a (l:List AV)
 | t (l:List AV)
 | x (j:Nat)
section
variable {α:Type}
def AV.fh (v:AV):(α:Type)->(Bool->α)->α->α:=@AV.rec (fun _=>(α:Type)->(Bool->α)->α->α) (fun _=>PUnit) (fun α k no=>no) (fun x α k no=>k x) (fun _ α k no=>no) (fun _ _ α k no=>no) (fun _ α k no=>no) (fun _ _ α k no=>no) (fun _ _ _ _ _ _ α k no=>no) (fun _ α k no=>no) (fun _ α k no=>no) (fun _ _ _ _ _ α k no=>no) (fun _ _ _ α k no=>no) (fun _ _ α k no=>no) (fun _ _ α k no=>no) (fun _ α k no=>no) .unit (fun _ _ _ _=>.unit) v
def AV.y0 (v:AV) (k:Bool->α) (no:α):α:=AV.fh v α k no
theorem AV.nu (v:AV) (k:Bool->α) (no:α):(∃ x,v=.b x/\v.y0 k no=k x)\/v.y0 k no=no:=by cases v <;> first | exact .inl ⟨_,rfl,rfl⟩ | exact .inr rfl
def AV.fb (v:AV):(α:Type)->(Nat->α)->α->α:=@AV.rec (fun _=>(α:Type)->(Nat->α)->α->α) (fun _=>PUnit) (fun α k no=>no) (fun _ α k no=>no) (fun x α k no=>k x) (fun _ _ α k no=>no) (fun _ α k no=>no) (fun _ _ α k no=>no) (fun _ _ _ _ _ _ α k no=>no) (fun _ α k no=>no) (fun _ α k no=>no) (fun _ _ _ _ _ α k no=>no) (fun _ _ _ α k no=>no) (fun _ _ α k no=>no) (fun _ _ α k no=>no) (fun _ α k no=>no) .unit (fun _ _ _ _=>.unit) v
def AV.ye (v:AV) (k:Nat->α) (no:α):α:=AV.fb v α k no
theorem AV.uj (v:AV) (k:Nat->α) (no:α):(∃ x,v=.n x/\v.ye k no=k x)\/v.ye k no=no:=by cases v <;> first | exact .inl ⟨_,rfl,rfl⟩ | exact .inr rfl
def AV.gw (v:AV):(α:Type)->(IntKind->Int->α)->α->α:=@AV.rec (fun _=>(α:Type)->(IntKind->Int->α)->α->α) (fun _=>PUnit) (fun α k no=>no) (fun _ α k no=>no) (fun _ α k no=>no) (fun g x α k no=>k g x) (fun _ α k no=>no) (fun _ _ α k no=>no) (fun _ _ _ _ _ _ α k no=>no) (fun _ α k no=>no) (fun _ α k no=>no) (fun _ _ _ _ _ α k no=>no) (fun _ _ _ α k no=>no) (fun _ _ α k no=>no) (fun _ _ α k no=>no) (fun _ α k no=>no) .unit (fun _ _ _ _=>.unit) v
def AV.ui (v:AV) (k:IntKind->Int->α) (no:α):α:=AV.gw v α k no
def AV.gy (v:AV):(α:Type)->(List Nat->α)->α->α:=@AV.rec (fun _=>(α:Type)->(List Nat->α)->α->α) (fun _=>PUnit) (fun α k no=>no) (fun _ α k no=>no) (fun _ α k no=>no) (fun _ _ α k no=>no) (fun l α k no=>k l) (fun _ _ α k no=>no) (fun _ _ _ _ _ _ α k no=>no) (fun _ α k no=>no) (fun _ α k no=>no) (fun _ _ _ _ _ α k no=>no) (fun _ _ _ α k no=>no) (fun _ _ α k no=>no) (fun _ _ α k no=>no) (fun _ α k no=>no) .unit (fun _ _ _ _=>.unit) v
def AV.yk (v:AV) (k:List Nat->α) (no:α):α:=AV.gy v α k no
theorem AV.nk (v:AV) (k:List Nat->α) (no:α):(∃ l,v=.s l/\v.yk k no=k l)\/v.yk k no=no:=by cases v <;> first | exact .inl ⟨_,rfl,rfl⟩ | exact .inr rfl
def AV.fa (v:AV):(α:Type)->(Id->Nat->α)->α->α:=@AV.rec (fun _=>(α:Type)->(Id->Nat->α)->α->α) (fun _=>PUnit) (fun α k no=>no) (fun _ α k no=>no) (fun _ α k no=>no) (fun _ _ α k no=>no) (fun _ α k no=>no) (fun i o α k no=>k i o) (fun _ _ _ _ _ _ α k no=>no) (fun _ α k no=>no) (fun _ α k no=>no) (fun _ _ _ _ _ α k no=>no) (fun _ _ _ α k no=>no) (fun _ _ α k no=>no) (fun _ _ α k no=>no) (fun _ α k no=>no) .unit (fun _ _ _ _=>.unit) v
def AV.yd (v:AV) (k:Id->Nat->α) (no:α):α:=AV.fa v α k no
theorem AV.yp (v:AV) (k:Id->Nat->α) (no:α):(∃ i o,v=.p i o/\v.yd k no=k i o)\/v.yd k no=no:=by cases v <;> first | exact .inl ⟨_,_,rfl,rfl⟩ | exact .inr rfl
def AV.gz (v:AV):(α:Type)->(Id->Nat->Nat->Nat->Nat->Bool->α)->α->α:=@AV.rec (fun _=>(α:Type)->(Id->Nat->Nat->Nat->Nat->Bool->α)->α->α) (fun _=>PUnit) (fun α k no=>no) (fun _ α k no=>no) (fun _ α k no=>no) (fun _ _ α k no=>no) (fun _ α k no=>no) (fun _ _ α k no=>no) (fun i o len cap z ex α k no=>k i o len cap z ex) (fun _ α k no=>no) (fun _ α k no=>no) (fun _ _ _ _ _ α k no=>no) (fun _ _ _ α k no=>no) (fun _ _ α k no=>no) (fun _ _ α k no=>no) (fun _ α k no=>no) .unit (fun _ _ _ _=>.unit) v
def AV.yl (v:AV) (k:Id->Nat->Nat->Nat->Nat->Bool->α) (no:α):α:=AV.gz v α k no
theorem AV.zw (v:AV) (k:Id->Nat->Nat->Nat->Nat->Bool->α) (no:α):(∃ i o len cap z ex,v=.q i o len cap z ex/\v.yl k no=k i o len cap z ex)\/v.yl k no=no:=by cases v <;> first | exact .inl ⟨_,_,_,_,_,_,rfl,rfl⟩ | exact .inr rfl
def AV.fc (v:AV):(α:Type)->(Id->α)->α->α:=@AV.rec (fun _=>(α:Type)->(Id->α)->α->α) (fun _=>PUnit) (fun α k no=>no) (fun _ α k no=>no) (fun _ α k no=>no) (fun _ _ α k no=>no) (fun _ α k no=>no) (fun _ _ α k no=>no) (fun _ _ _ _ _ _ α k no=>no) (fun i α k no=>k i) (fun _ α k no=>no) (fun _ _ _ _ _ α k no=>no) (fun _ _ _ α k no=>no) (fun _ _ α k no=>no) (fun _ _ α k no=>no) (fun _ α k no=>no) .unit (fun _ _ _ _=>.unit) v
def AV.yv (v:AV) (k:Id->α) (no:α):α:=AV.fc v α k no
theorem AV.uk (v:AV) (k:Id->α) (no:α):(∃ i,v=.m i/\v.yv k no=k i)\/v.yv k no=no:=by cases v <;> first | exact .inl ⟨_,rfl,rfl⟩ | exact .inr rfl
def AV.oj (v:AV):(α:Type)->(Nat->α)->α->α:=@AV.rec (fun _=>(α:Type)->(Nat->α)->α->α) (fun _=>PUnit) (fun α k no=>no) (fun _ α k no=>no) (fun _ α k no=>no) (fun _ _ α k no=>no) (fun _ α k no=>no) (fun _ _ α k no=>no) (fun _ _ _ _ _ _ α k no=>no) (fun _ α k no=>no) (fun g α k no=>k g) (fun _ _ _ _ _ α k no=>no) (fun _ _ _ α k no=>no) (fun _ _ α k no=>no) (fun _ _ α k no=>no) (fun _ α k no=>no) .unit (fun _ _ _ _=>.unit) v
def AV.yg (v:AV) (k:Nat->α) (no:α):α:=AV.oj v α k no
theorem AV.zq (v:AV) (k:Nat->α) (no:α):(∃ g,v=.nil g/\v.yg k no=k g)\/v.yg k no=no:=by cases v <;> first | exact .inl ⟨_,rfl,rfl⟩ | exact .inr rfl
def AV.fg (v:AV):(α:Type)->(Nat->List AV->List AV->α)->α->α:=@AV.rec (fun _=>(α:Type)->(Nat->List AV->List AV->α)->α->α) (fun _=>PUnit) (fun α k no=>no) (fun _ α k no=>no) (fun _ α k no=>no) (fun _ _ α k no=>no) (fun _ α k no=>no) (fun _ _ α k no=>no) (fun _ _ _ _ _ _ α k no=>no) (fun _ α k no=>no) (fun _ α k no=>no) (fun fn xs ys _ _ α k no=>k fn xs ys) (fun _ _ _ α k no=>no) (fun _ _ α k no=>no) (fun _ _ α k no=>no) (fun _ α k no=>no) .unit (fun _ _ _ _=>.unit) v
def AV.nq (v:AV) (k:Nat->List AV->List AV->α) (no:α):α:=AV.fg v α k no
theorem AV.np (v:AV) (k:Nat->List AV->List AV->α) (no:α):(∃ fn xs ys,v=.f fn xs ys/\v.nq k no=k fn xs ys)\/v.nq k no=no:=by cases v <;> first | exact .inl ⟨_,_,_,rfl,rfl⟩ | exact .inr rfl
def AV.ff (v:AV):(α:Type)->(Nat->AV->α)->α->α:=@AV.rec (fun _=>(α:Type)->(Nat->AV->α)->α->α) (fun _=>PUnit) (fun α k no=>no) (fun _ α k no=>no) (fun _ α k no=>no) (fun _ _ α k no=>no) (fun _ α k no=>no) (fun _ _ α k no=>no) (fun _ _ _ _ _ _ α k no=>no) (fun _ α k no=>no) (fun _ α k no=>no) (fun _ _ _ _ _ α k no=>no) (fun t w _ α k no=>k t w) (fun _ _ α k no=>no) (fun _ _ α k no=>no) (fun _ α k no=>no) .unit (fun _ _ _ _=>.unit) v
def AV.bn (v:AV) (k:Nat->AV->α) (no:α):α:=AV.ff v α k no
def AV.fi (v:AV):(α:Type)->(List AV->α)->α->α:=@AV.rec (fun _=>(α:Type)->(List AV->α)->α->α) (fun _=>PUnit) (fun α k no=>no) (fun _ α k no=>no) (fun _ α k no=>no) (fun _ _ α k no=>no) (fun _ α k no=>no) (fun _ _ α k no=>no) (fun _ _ _ _ _ _ α k no=>no) (fun _ α k no=>no) (fun _ α k no=>no) (fun _ _ _ _ _ α k no=>no) (fun _ _ _ α k no=>no) (fun l _ α k no=>k l) (fun _ _ α k no=>no) (fun _ α k no=>no) .unit (fun _ _ _ _=>.unit) v
def AV.xp (v:AV) (k:List AV->α) (no:α):α:=AV.fi v α k no
theorem AV.um (v:AV) (k:List AV->α) (no:α):(∃ l,v=.a l/\v.xp k no=k l)\/v.xp k no=no:=by cases v <;> first | exact .inl ⟨_,rfl,rfl⟩ | exact .inr rfl
def AV.gx (v:AV):(α:Type)->(List AV->α)->α->α:=@AV.rec (fun _=>(α:Type)->(List AV->α)->α->α) (fun _=>PUnit) (fun α k no=>no) (fun _ α k no=>no) (fun _ α k no=>no) (fun _ _ α k no=>no) (fun _ α k no=>no) (fun _ _ α k no=>no) (fun _ _ _ _ _ _ α k no=>no) (fun _ α k no=>no) (fun _ α k no=>no) (fun _ _ _ _ _ α k no=>no) (fun _ _ _ α k no=>no) (fun _ _ α k no=>no) (fun l _ α k no=>k l) (fun _ α k no=>no) .unit (fun _ _ _ _=>.unit) v
def AV.qb (v:AV) (k:List AV->α) (no:α):α:=AV.gx v α k no
theorem AV.nj (v:AV) (k:List AV->α) (no:α):(∃ l,v=.t l/\v.qb k no=k l)\/v.qb k no=no:=by cases v <;> first | exact .inl ⟨_,rfl,rfl⟩ | exact .inr rfl
end
end
structure Ent where
 r:Nat
 s:Nat
 n:Nat
abbrev Phi:=Id->Option Ent
def Phi.le (φ φ':Phi):Prop:=∀ i e,φ i=some e->φ' i=some e
theorem Phi.le_refl (φ:Phi):φ.le φ:=fun _ _ h=>h
theorem Phi.le.trans {φ φ' φ'':Phi} (h:φ.le φ') (h':φ'.le φ''):φ.le φ'':=fun i e x=>h' i e (h i e x)
def EY:Nat->Value
 | 0=>.pointer none
 | 1=>.slice none 0 0
 | 2=>.map none
 | 3=>.nilFunc
 | _=>.nilIface
variable {σ:Nat->Value}
mutual
def VR (σ:Nat->Value) (φ:Phi):AV->Value->Prop
 | .u,_=>True
 | .b x,w=>w=.bool x
 | .n x,w=>w=.int .i64 x/\x < 2 ^ 63
 | .z g x,w=>w=.int g x
 | .s l,w=>∃ bs:ByteArray,w=.string bs/\bs.data.toList.map UInt8.toNat=l
 | .p i o,w=>∃ e,φ i=some e/\w=.pointer (some ⟨e.r,e.s + o,none⟩)
 | .q i o len cap z ex,w=>∃ e x c,φ i=some e/\w=.slice (some ⟨e.r,x,none⟩) len c/\(len<=cap/\cap < 9223372036854775808)/\cap<=c/\(x + c * z<=e.n/\(c ≠ 0->x + c * z=e.n))/\(cap ≠ 0\/ex=true->x=e.s + o)/\(ex=true->c=cap)
 | .m i,w=>∃ e,φ i=some e/\w=.map (some e.r)
 | .nil g,w=>w=EY g
 | .f fn xs ys,w=>∃ xs' ys',w=.func (.func fn) xs' ys'/\VRl σ φ xs xs'.toList/\VRl σ φ ys ys'.toList
 | .i t v,w=>∃ v',w=.iface t v'/\VR σ φ v v'
 | .a l,w=>∃ c,w=.agg c/\VRl σ φ l c.toList
 | .t l,w=>∃ c,w=.tuple c/\VRl σ φ l c.toList
 | .x j,w=>w=σ j
def VRl (σ:Nat->Value) (φ:Phi):List AV->List Value->Prop
 | [],ws=>ws = []
 | v :: l,ws=>∃ w ws',ws=w :: ws'/\VR σ φ v w/\VRl σ φ l ws'
end
mutual
theorem VR.mono {φ φ':Phi} (h:φ.le φ'):∀ (v:AV) (w:Value),VR σ φ v w->VR σ φ' v w
 | .u,_=>fun _=>by simp [VR]
 | .b x,w=>by simp only [VR]; exact id
 | .n x,w=>by simp only [VR]; exact id
 | .z g x,w=>by simp only [VR]; exact id
 | .s l,w=>by simp only [VR]; exact id
 | .p i o,w=>by simp only [VR]; exact fun ⟨e,h1,h2⟩=>⟨e,h _ _ h1,h2⟩
 | .q i o len cap z ex,w=>by simp only [VR]; exact fun ⟨e,x,c,h1,h2⟩=>⟨e,x,c,h _ _ h1,h2⟩
 | .m i,w=>by simp only [VR]; exact fun ⟨e,h1,h2⟩=>⟨e,h _ _ h1,h2⟩
 | .nil g,w=>by simp only [VR]; exact id
 | .f fn xs ys,w=>by simp only [VR]; exact fun ⟨xs',ys',h1,h2,h3⟩=>⟨xs',ys',h1,VRl.mono h _ _ h2,VRl.mono h _ _ h3⟩
 | .i t v,w=>by simp only [VR]; exact fun ⟨v',h1,h2⟩=>⟨v',h1,VR.mono h _ _ h2⟩
 | .a l,w=>by simp only [VR]; exact fun ⟨c,h1,h2⟩=>⟨c,h1,VRl.mono h _ _ h2⟩
 | .t l,w=>by simp only [VR]; exact fun ⟨c,h1,h2⟩=>⟨c,h1,VRl.mono h _ _ h2⟩
 | .x j,w=>by simp only [VR]; exact id
theorem VRl.mono {φ φ':Phi} (h:φ.le φ'):∀ (l:List AV) (ws:List Value),VRl σ φ l ws->VRl σ φ' l ws
 | [],ws=>by simp only [VRl]; exact id
 | v :: l,ws=>by simp only [VRl]; exact fun ⟨w,ws',h1,h2,h3⟩=>⟨w,ws',h1,VR.mono h _ _ h2,VRl.mono h _ _ h3⟩
end
theorem VRl.length {φ:Phi}:∀ {l:List AV} {ws:List Value},VRl σ φ l ws->l.length=ws.length
 | [],ws,h=>by simp only [VRl] at h; subst h; rfl
 | v :: l,ws,h=>by
  simp only [VRl] at h;obtain ⟨w,ws',rfl,_,h3⟩:=h;simp [VRl.length h3]
theorem VRl.get {φ:Phi}:∀ {l:List AV} {ws:List Value} {j:Nat} {v:AV},VRl σ φ l ws->l[j]?=some v->∃ w,ws[j]?=some w/\VR σ φ v w
 | [],ws,j,v,h,hj=>by simp at hj
 | v' :: l,ws,0,v,h,hj=>by
  simp only [VRl] at h;obtain ⟨w,ws',rfl,h2,_⟩:=h;simp at hj; subst hj;exact ⟨w,rfl,h2⟩
 | v' :: l,ws,j + 1,v,h,hj=>by
  simp only [VRl] at h;obtain ⟨w,ws',rfl,_,h3⟩:=h;simp at hj;obtain ⟨w',h4,h5⟩:=VRl.get h3 hj;exact ⟨w',by simpa using h4,h5⟩
theorem VRl.app {φ:Phi}:∀ {l l':List AV} {ws ws':List Value},VRl σ φ l ws->VRl σ φ l' ws'->VRl σ φ (l ++ l') (ws ++ ws')
 | [],l',ws,ws',h,h'=>by simp only [VRl] at h; subst h; exact h'
 | v :: l,l',ws,ws',h,h'=>by
  simp only [VRl] at h;obtain ⟨w,ws1,rfl,h2,h3⟩:=h;simp only [Xw,VRl];exact ⟨w,ws1 ++ ws',rfl,h2,VRl.app h3 h'⟩
theorem VRl.uq {φ:Phi}:∀ {l:List AV} {ws:List Value},l.length=ws.length->(∀ (j:Nat) v w,l[j]?=some v->ws[j]?=some w->VR σ φ v w)->VRl σ φ l ws
 | [],ws,h,_=>by simp at h; simp [VRl]; exact X7 h.symm
 | v :: l,[],h,_=>by simp at h
 | v :: l,w :: ws,h,h'=>by
  simp only [VRl];exact ⟨w,ws,rfl,h' 0 v w rfl rfl,VRl.uq (by simpa using h) fun j v w h1 h2=>h' (j + 1) v w (by simpa using h1) (by simpa using h2)⟩
section
inductive CT where
 | c1 (t:N16 AV)
 | c2 (t:N16 (N16 AV))
 | c3 (t:N16 (N16 (N16 AV)))
 | c4 (t:N16 (N16 (N16 (N16 AV))))
def lo4 (n:Nat):Nat:=Nat.land n 15
def hi4 (n:Nat):Nat:=Nat.shiftRight n 4
def CT.vg (t:CT):Nat->AV:=@CT.rec (fun _=>Nat->AV) (fun t n=>Gb n t) (fun t n=>Gb (lo4 n) (Gb (hi4 n) t))
 (fun t n=>Gb (lo4 n) (Gb (lo4 (hi4 n)) (Gb (hi4 (hi4 n)) t))) (fun t n=>Gb (lo4 n) (Gb (lo4 (hi4 n)) (Gb (lo4 (hi4 (hi4 n))) (Gb (hi4 (hi4 (hi4 n))) t)))) t
def CT.get (t:CT) (n:Nat):AV:=CT.vg t n
def kAV (v:AV):AV->AV:=fun _=>v
def CT.sy (t:CT):Nat->AV->CT:=@CT.rec (fun _=>Nat->AV->CT) (fun t n v=>.c1 (upd (dig n) (kAV v) t)) (fun t n v=>.c2 (upd (dig (hi4 n)) (upd (dig (lo4 n)) (kAV v)) t))
 (fun t n v=>.c3 (upd (dig (hi4 (hi4 n))) (upd (dig (lo4 (hi4 n))) (upd (dig (lo4 n)) (kAV v))) t))
 (fun t n v=>.c4 (upd (dig (hi4 (hi4 (hi4 n)))) (upd (dig (lo4 (hi4 (hi4 n)))) (upd (dig (lo4 (hi4 n))) (upd (dig (lo4 n)) (kAV v)))) t)) t
def CT.set (t:CT) (n:Nat) (v:AV):CT:=CT.sy t n v
def CT.room (t:CT):Nat:=@CT.rec (fun _=>Nat) (fun _=>16) (fun _=>256) (fun _=>4096) (fun _=>65536) t
def e1:N16 AV:=Ce .u
def e2:N16 (N16 AV):=Ce e1
def e3:N16 (N16 (N16 AV)):=Ce e2
def CT.up (t:CT):CT:=@CT.rec (fun _=>CT) (fun t=>.c2 (.mk t e1 e1 e1 e1 e1 e1 e1 e1 e1 e1 e1 e1 e1 e1 e1)) (fun t=>.c3 (.mk t e2 e2 e2 e2 e2 e2 e2 e2 e2 e2 e2 e2 e2 e2 e2))
 (fun t=>.c4 (.mk t e3 e3 e3 e3 e3 e3 e3 e3 e3 e3 e3 e3 e3 e3 e3)) (fun t=>.c4 t) t
def CT.fill (n:Nat) (v:AV):CT :=
 @Bool.rec (fun _=>CT) (@Bool.rec (fun _=>CT) (@Bool.rec (fun _=>CT) (.c4 (Ce (Ce (Ce (Ce v))))) (.c3 (Ce (Ce (Ce v)))) (Nat.ble n 4096)) (.c2 (Ce (Ce v))) (Nat.ble n 256)) (.c1 (Ce v)) (Nat.ble n 16)
theorem HF (n:Nat):lo4 n=n % 16:=Nat.and_two_pow_sub_one_eq_mod n 4
theorem HJ (n:Nat):hi4 n=n / 16:=Nat.shiftRight_eq_div_pow n 4
theorem DT {n m:Nat} (hn:n < 16) (hm:m < 16) (h:n ≠ m):dig n ≠ dig m:=fun e=>h (Un hn hm e)
theorem CT.zn (t:CT) (n:Nat) (v:AV):(t.set n v).get n=v:=by
 cases t <;> simp only [CT.set,CT.sy,kAV,CT.get,CT.vg,D5,Bm]
theorem CT.xj (t:CT) (n:Nat) (v:AV):(t.set n v).room=t.room:=by cases t <;> rfl
theorem CT.ze {t:CT} {n m:Nat} (hn:n < t.room) (hm:m < t.room) (h:m ≠ n) (v:AV):(t.set n v).get m=t.get m:=by
 have key:∀ x y:Nat,x ≠ y->x % 16=y % 16->x / 16 ≠ y / 16:=(by omega);cases t with
 | c1 t =>
  simp only [CT.room] at hn hm;simp only [CT.set,CT.sy,kAV,CT.get,CT.vg,D5];rw [Bf (DT hm hn h)]
 | c2 t =>
  simp only [CT.room] at hn hm;simp only [CT.set,CT.sy,kAV,CT.get,CT.vg,D5,HF,HJ];by_cases e:m / 16=n / 16
  ·rw [e,Bm,Bf (DT (by omega) (by omega) (by omega))]
  ·rw [Bf (DT (by omega) (by omega) e)]
 | c3 t =>
  simp only [CT.room] at hn hm;simp only [CT.set,CT.sy,kAV,CT.get,CT.vg,D5,HF,HJ];by_cases e:m / 16 / 16=n / 16 / 16
  ·by_cases e':m / 16 % 16=n / 16 % 16
   ·rw [e,e',Bm,Bm,Bf (DT (by omega) (by omega) (by omega))]
   ·rw [e,Bm,Bf (DT (by omega) (by omega) e')]
  ·rw [Bf (DT (by omega) (by omega) e)]
 | c4 t =>
  simp only [CT.room] at hn hm;simp only [CT.set,CT.sy,kAV,CT.get,CT.vg,D5,HF,HJ];by_cases e:m / 16 / 16 / 16=n / 16 / 16 / 16
  ·by_cases e':m / 16 / 16 % 16=n / 16 / 16 % 16
   ·by_cases e'':m / 16 % 16=n / 16 % 16
    ·rw [e,e',e'',Bm,Bm,Bm,Bf (DT (by omega) (by omega) (by omega))]
    ·rw [e,e',Bm,Bm,Bf (DT (by omega) (by omega) e'')]
   ·rw [e,Bm,Bf (DT (by omega) (by omega) e')]
  ·rw [Bf (DT (by omega) (by omega) e)]
theorem CT.sq (t:CT):t.room<=t.up.room:=by cases t <;> simp [CT.up,CT.room]
theorem CT.xq {t:CT} {n:Nat} (hn:n < t.room):t.up.get n=t.get n:=by
 cases t with
 | c1 t=>simp only [CT.room] at hn; simp only [CT.up,CT.get,CT.vg,HJ,HF]; rw [show n / 16=0 by omega,show n % 16=n by omega]; rfl
 | c2 t=>simp only [CT.room] at hn; simp only [CT.up,CT.get,CT.vg,HJ,HF]; rw [show n / 16 / 16=0 by omega,show n / 16 % 16=n / 16 by omega]; rfl
 | c3 t=>simp only [CT.room] at hn; simp only [CT.up,CT.get,CT.vg,HJ,HF]; rw [show n / 16 / 16 / 16=0 by omega,show n / 16 / 16 % 16=n / 16 / 16 by omega]; rfl
 | c4 t=>rfl
theorem CT.qy (n:Nat) (v:AV) (m:Nat):(CT.fill n v).get m=v:=by
 unfold CT.fill;cases Nat.ble n 4096 <;> cases Nat.ble n 256 <;> cases Nat.ble n 16 <;> simp only [CT.get,CT.vg,D5,Iz]
theorem CT.xn (n:Nat) (v:AV) (h:n<=65536):n<=(CT.fill n v).room:=by
 unfold CT.fill;cases h1:Nat.ble n 16 with
 | true=>have:=Ja h1; simpa [CT.room] using this
 | false =>
  cases h2:Nat.ble n 256 with
  | true=>have:=Ja h2; simpa [CT.room] using this
  | false =>
   cases h3:Nat.ble n 4096 with
   | true=>have:=Ja h3; simpa [CT.room] using this
   | false=>simpa [CT.room] using h
abbrev MT:=N16 (N16 (List (AV × AV)))
inductive AB where
 | no
 | c (ro:Bool) (len:Nat) (t:CT)
 | mp (g n:Nat) (m:MT)
def AB.zl {α:Type} (x:AB) (k:Bool->Nat->CT->α) (no:α):α:=@AB.rec (fun _=>α) no k (fun _ _ _=>no) x
def AB.yv {α:Type} (x:AB) (k:Nat->Nat->MT->α) (no:α):α:=@AB.rec (fun _=>α) no (fun _ _ _=>no) k x
theorem AB.zm {α:Type} (x:AB) (k:Bool->Nat->CT->α) (no:α):(∃ ro len t,x=.c ro len t/\x.zl k no=k ro len t)\/x.zl k no=no:=by
 cases x <;> first | exact .inl ⟨_,_,_,rfl,rfl⟩ | exact .inr rfl
theorem AB.uk {α:Type} (x:AB) (k:Nat->Nat->MT->α) (no:α):(∃ g n m,x=.mp g n m/\x.yv k no=k g n m)\/x.yv k no=no:=by
 cases x <;> first | exact .inl ⟨_,_,_,rfl,rfl⟩ | exact .inr rfl
structure AH where
 t:N16 (N16 (N16 (N16 (N16 AB))))
 nx:Id
def AH.get (A:AH) (i:Id):AB:=sel i.a (sel i.b (sel i.c (sel i.d (sel i.e A.t))))
def AH.set (A:AH) (i:Id) (x:AB):AH:=@AH.rec (fun _=>AH) (fun t nx=>@Id.rec (fun _=>AH) (fun a b c d e=>⟨upd e (upd d (upd c (upd b (upd a fun _=>x)))) t,nx⟩) i) A
def AH.to (A:AH) (nx:Id):AH:=⟨A.t,nx⟩
theorem AH.zn (A:AH) (i:Id) (x:AB):(A.set i x).get i=x:=by
 cases A; cases i; simp only [AH.set,AH.get,Bm]
theorem AH.ze (A:AH) {i j:Id} (h:j ≠ i) (x:AB):(A.set i x).get j=A.get j:=by
 obtain ⟨t,nx⟩:=A; obtain ⟨a,b,c,d,e⟩:=i; obtain ⟨a',b',c',d',e'⟩:=j;simp only [AH.set,AH.get];by_cases he:e'=e
 ·subst he;rw [Bm];by_cases hd:d'=d
  ·subst hd;rw [Bm];by_cases hc:c'=c
   ·subst hc;rw [Bm];by_cases hb:b'=b
    ·subst hb;rw [Bm,Bf (fun ha=>h (by rw [ha]))]
    ·rw [Bf hb]
   ·rw [Bf hc]
  ·rw [Bf hd]
 ·rw [Bf he]
theorem Fl {α:Type} (d:D16) (f g:α->α) (t:N16 α):upd d f (upd d g t)=upd d (fun x=>f (g x)) t:=by cases t; cases d <;> rfl
theorem AH.set_set (A:AH) (i:Id) (x y:AB):(A.set i x).set i y=A.set i y:=by
 cases A; cases i; simp only [AH.set,Fl]
theorem AH.wg (A:AH) (i:Id) (x:AB):(A.set i x).nx=A.nx:=by cases A; cases i; rfl
theorem AH.xg (A:AH) (nx:Id) (i:Id):(A.to nx).get i=A.get i:=rfl
def CQ:AV->Option Value
 | .n x=>if x < 9223372036854775808 then some (.int .i64 x) else none
 | .z .i64 x=>if x < 0 then some (.int .i64 x) else none
 | .s l=>if l.all (fun x=>decide (x < 256))=true then some (.string ⟨(l.map UInt8.ofNat).toArray⟩) else none
 | .a [.n x,.n y]=>if x < 9223372036854775808/\y < 9223372036854775808 then some (.agg #[.int .i64 x,.int .i64 y]) else none
 | _=>none
def KG (k:AV):Nat:=@AV.rec (fun _=>Nat) (fun _=>PUnit) 9 (fun _=>9) (fun _=>0) (fun _ _=>0) (fun _=>1) (fun _ _=>9) (fun _ _ _ _ _ _=>9) (fun _=>9) (fun _=>9) (fun _ _ _ _ _=>9) (fun _ _ _=>9)
 (fun _ _=>2) (fun _ _=>9) (fun _=>9) .unit (fun _ _ _ _=>.unit) k
def BF (k:AV):Nat:=@AV.rec (fun _=>Nat) (fun _=>PUnit) 0 (fun _=>0) (fun x=>x) (fun _ x=>@Int.rec (fun _=>Nat) (fun x=>x) (fun x=>x) x) (fun l=>l.foldl (fun h x=>Nat.land (Nat.add (Nat.mul h 31) x) 65535) 7) (fun _ _=>0) (fun _ _ _ _ _ _=>0) (fun _=>0) (fun _=>0) (fun _ _ _ _ _=>0) (fun _ _ _=>0)
 (fun l _=>l.foldl (fun h v=>AV.ye v (fun x=>Nat.add (Nat.mul h 31) x) h) 0) (fun _ _=>0) (fun _=>0) .unit (fun _ _ _ _=>.unit) k
def Iv (h:Nat) (m:MT):List (AV × AV):=Gb (lo4 h) (Gb (lo4 (hi4 h)) m)
def AJ (k:AV) (m:MT):List (AV × AV):=Iv (BF k) m
structure MR (σ:Nat->Value) (φ:Phi) (g n:Nat) (m:MT) (es:List MapEntry):Prop where
 size:es.length=n
 nodup:(es.map (·.key)).Nodup
 real:∀ k w x,CQ k=some w->(k,x) ∈ AJ k m->∃ e ∈ es,e.key=w/\VR σ φ x e.val
 all:∀ e ∈ es,∃ k x,CQ k=some e.key/\KG k=g/\(k,x) ∈ AJ k m
 vk:∀ k e,e ∈ AJ k m->∃ w,CQ e.1=some w
def O5 (σ:Nat->Value) (r:Nat):Prop:=σ r=.bool true
theorem nfr {p q:Prop} (h:p\/false=true/\q):p:=h.resolve_right fun x=>by cases x.1
def BR (σ:Nat->Value) (φ:Phi) (F:Nat->Option Obj) (H:A3) (i:Id):AB->Prop
 | .no=>True
 | .c ro len t=>∃ e,φ i=some e/\(F e.r=none\/ro=true/\O5 σ e.r)/\len<=t.room/\e.s + len<=e.n /\
   ∃ c el fr,H[e.r]?=some (.cells c el fr)/\(ro=false->c.size=e.n)/\(ro=false->fr.1=fr.2)/\∀ o,o < len->∃ w,c[e.s + o]?=some w/\VR σ φ (t.get o) w
 | .mp g n m=>∃ e,φ i=some e/\F e.r=none/\∃ es clk,H[e.r]?=some (.map es clk)/\MR σ φ g n m es.toList
structure Rel (σ:Nat->Value) (F:Nat->Option Obj) (φ:Phi) (A:AH) (H:A3):Prop where
 dom:∀ i e,φ i=some e->i.nat < A.nx.nat
 liv:∀ i,BR σ φ F H i (A.get i)
 inj:∀ i j e e',A.get i ≠ .no->A.get j ≠ .no->φ i=some e->φ j=some e'->e.r=e'.r->i=j
 frm:∀ r o,F r=some o->H[r]?=some o
 st:∀ r,O5 σ r->r < H.size
end
end Go.Run
namespace Go.Run
open Go.HL
variable {σ:Nat->Value} {F:Nat->Option Obj} {φ:Phi} {A:AH} {H:A3}
theorem BR.mono {φ φ':Phi} (h:φ.le φ') {b:Nat->Option Obj} {H:A3} {i:Id} {B:AB} (hB:BR σ φ b H i B):BR σ φ' b H i B:=by
 cases B with
 | no=>trivial
 | c ro len t =>
  obtain ⟨e,h1,h3,h4,h5,c,el,fr,h6,h7,h8,h9⟩:=hB;exact ⟨e,h _ _ h1,h3,h4,h5,c,el,fr,h6,h7,h8,fun o ho=>let ⟨w,a,b⟩:=h9 o ho; ⟨w,a,VR.mono h _ _ b⟩⟩
 | mp g n m =>
  obtain ⟨e,h1,h2,es,clk,h3,h4⟩:=hB;exact ⟨e,h _ _ h1,h2,es,clk,h3,⟨h4.size,h4.nodup,fun k w x hk hx=>let ⟨e,a,b,c⟩:=h4.real k w x hk hx; ⟨e,a,b,VR.mono h _ _ c⟩,h4.all,h4.vk⟩⟩
theorem BR.keep {b:Nat->Option Obj} {H':A3} {i:Id} {B:AB} (hB:BR σ φ b H i B) (h:∀ e,φ i=some e->e.r < H.size->H'[e.r]?=H[e.r]?):BR σ φ b H' i B:=by
 cases B with
 | no=>trivial
 | c ro len t =>
  obtain ⟨e,h1,h3,h4,h5,c,el,fr,h6,h7⟩:=hB;exact ⟨e,h1,h3,h4,h5,c,el,fr,by rw [h e h1 (Z8.1 h6).1]; exact h6,h7⟩
 | mp g n m =>
  obtain ⟨e,h1,h2,es,clk,h3,h4⟩:=hB;exact ⟨e,h1,h2,es,clk,by rw [h e h1 (Z8.1 h3).1]; exact h3,h4⟩
def Nd (A:AH) (B:AB) (k:Id->AH->Bool):Bool:=A.nx.next (fun j=>k A.nx ((A.set A.nx B).to j)) false
def Phi.put (φ:Phi) (i:Id) (e:Ent):Phi:=fun j=>if j=i then some e else φ j
theorem Rel.fresh (h:Rel σ F φ A H):φ A.nx=none:=by
 cases e:φ A.nx with
 | none=>rfl
 | some x=>exact absurd (h.dom _ _ e) (Nat.lt_irrefl _)
theorem Rel.free (h:Rel σ F φ A H):F H.size=none:=by
 cases e:F H.size with
 | none=>rfl
 | some o=>have:=h.frm _ _ e; simp at this
theorem Rel.zt (h:Rel σ F φ A H) (e:Ent):φ.le (φ.put A.nx e):=by
 intro i x hx;unfold Phi.put;split
 ·rename_i hi; subst hi; rw [h.fresh] at hx; cases hx
 ·exact hx
theorem Rel.mw (h:Rel σ F φ A H) {i:Id} (hi:A.get i ≠ .no):∃ e,φ i=some e/\e.r < H.size:=by
 have hl:=h.liv i;generalize A.get i=B at hi hl;cases B with
 | no=>exact absurd rfl hi
 | c ro len t=>obtain ⟨e,h1,_,_,_,c,el,fr,h6,_⟩:=hl; exact ⟨e,h1,(Z8.1 h6).1⟩
 | mp g n m=>obtain ⟨e,h1,_,es,clk,h3,_⟩:=hl; exact ⟨e,h1,(Z8.1 h3).1⟩
theorem Rel.new (h:Rel σ F φ A H) {j:Id} (hj:j.nat=A.nx.nat + 1) {B:AB} {o:Obj} {e:Ent} (he:e.r=H.size) (hB:BR σ (φ.put A.nx e) F (H.push o) A.nx B) :
  Rel σ F (φ.put A.nx e) ((A.set A.nx B).to j) (H.push o):=by
 refine ⟨?_,?_,?_,?_,fun r hr=>by have:=h.st r hr; rw [Zp]; omega⟩
 ·intro i x hx
  show i.nat < j.nat
  unfold Phi.put at hx
  split at hx
  ·rename_i hi; subst hi; omega
  ·have:=h.dom i x hx; omega
 ·intro i
  rw [AH.xg]
  by_cases hi:i=A.nx
  ·subst hi; rw [AH.zn]; exact hB
  ·rw [AH.ze _ hi]
   refine ((h.liv i).mono (h.zt e)).keep fun x hx hlt=>?_
   rw [Yh hlt,Zd hlt]
 ·intro i i' x x' hi hi' hx hx' hr
  rw [AH.xg] at hi hi'
  unfold Phi.put at hx hx'
  by_cases a:i=A.nx
  ·by_cases a':i'=A.nx
   ·rw [a,a']
   ·exfalso
    rw [J8 a] at hx
    rw [J4 a'] at hx'
    rw [AH.ze _ a'] at hi'
    obtain ⟨y,hy,hlt⟩:=h.mw hi'
    rw [hx'] at hy
    simp only [J5] at hx hy
    subst hx hy
    omega
  ·by_cases a':i'=A.nx
   ·exfalso
    rw [J4 a] at hx
    rw [J8 a'] at hx'
    rw [AH.ze _ a] at hi
    obtain ⟨y,hy,hlt⟩:=h.mw hi
    rw [hx] at hy
    simp only [J5] at hx' hy
    subst hx' hy
    omega
   ·rw [J4 a] at hx
    rw [J4 a'] at hx'
    rw [AH.ze _ a] at hi
    rw [AH.ze _ a'] at hi'
    exact h.inj i i' x x' hi hi' hx hx' hr
 ·intro r o hr
  have h1:=h.frm r o hr
  have h2:=(Z8.1 h1).1
  rw [Yh h2,<- h1,Zd h2]
theorem D2 {B:AB} {k:Id->AH->Bool} (hk:Nd A B k=true):∃ j,j.nat=A.nx.nat + 1/\k A.nx ((A.set A.nx B).to j)=true:=by
 unfold Nd at hk;rcases Id.nw A.nx (fun j=>k A.nx ((A.set A.nx B).to j)) false with e | ⟨j,hj,e⟩
 ·rw [e] at hk; cases hk
 ·rw [e] at hk; exact ⟨j,hj,hk⟩
theorem Rel.wq (h:Rel σ F φ A H) {j:Id} (hj:j.nat=A.nx.nat + 1) {len:Nat} {t:CT} {cs:Array Value} {el:TypeId} (hr:len<=t.room) (hn:len<=cs.size)
  (hv:∀ o,o < len->∃ w,cs[o]?=some w/\VR σ φ (t.get o) w) :
  Rel σ F (φ.put A.nx ⟨H.size,0,cs.size⟩) ((A.set A.nx (.c false len t)).to j) (H.push (.cells cs el)):=by
 refine h.new hj rfl ?_
 refine ⟨_,J8 rfl,Or.inl h.free,hr,by simpa using hn,cs,el,(0,0),by simp,(fun _=>rfl),fun _=>rfl,fun o ho=>?_⟩
 obtain ⟨w,h1,h2⟩:=hv o ho
 exact ⟨w,by simpa using h1,VR.mono (h.zt _) _ _ h2⟩
theorem Rel.cells (h:Rel σ F φ A H) {i:Id} {ro:Bool} {len:Nat} {t:CT} (hg:A.get i=.c ro len t):∃ e,φ i=some e/\(F e.r=none\/ro=true/\O5 σ e.r)/\len<=t.room/\e.s + len<=e.n /\
  ∃ c el fr,H[e.r]?=some (.cells c el fr)/\(ro=false->c.size=e.n)/\(ro=false->fr.1=fr.2)/\∀ o,o < len->∃ w,c[e.s + o]?=some w/\VR σ φ (t.get o) w:=by
 have hl:=h.liv i
 rw [hg] at hl
 exact hl
theorem Rel.cell (h:Rel σ F φ A H) {i:Id} {ro:Bool} {len o:Nat} {t:CT} (hg:A.get i=.c ro len t) (ho:o < len) :
  ∃ e w,φ i=some e/\A5 H ⟨e.r,e.s + o,none⟩=some w/\VR σ φ (t.get o) w:=by
 obtain ⟨e,h1,_,_,_,c,el,fr,h6,_,_,h9⟩:=h.cells hg
 obtain ⟨w,h10,h11⟩:=h9 o ho
 exact ⟨e,w,h1,by simp [A5,h6,h10],h11⟩
def ldC (k:AV->Bool) (o:Nat) (ro:Bool) (len:Nat) (t:CT):Bool:=@Bool.rec (fun _=>Bool) false (k (t.get o)) (Nat.blt o len)
def ldP (A:AH) (k:AV->Bool) (i:Id) (o:Nat):Bool:=(A.get i).zl (ldC k o) false
def ld (A:AH) (p:AV) (k:AV->Bool):Bool:=p.yd (ldP A k) false
theorem Cd {o n:Nat} (h:Nat.blt o n=true):o < n:=by
 have:=Ja h; omega
theorem Dm {c:Bool} {x:Bool} (h:@Bool.rec (fun _=>Bool) false x c=true):c=true/\x=true:=by cases c <;> simp_all
theorem RX {p:AV} {w:Value} {k:AV->Bool} (h:Rel σ F φ A H) (hp:VR σ φ p w) (hk:ld A p k=true):∃ a v r,w=.pointer (some a)/\a.spot=none/\A5 H a=some r/\VR σ φ v r/\k v=true:=by
 change p.yd (fun i o=>(A.get i).zl (fun _ len t=>@Bool.rec (fun _=>Bool) false (k (t.get o)) (Nat.blt o len)) false) false=true at hk;rcases AV.yp p (fun i o=>(A.get i).zl (fun _ len t=>@Bool.rec (fun _=>Bool) false (k (t.get o)) (Nat.blt o len)) false) false with ⟨i,o,rfl,e⟩ | e
 ·rw [e] at hk;rcases AB.zm (A.get i) (fun _ len t=>@Bool.rec (fun _=>Bool) false (k (t.get o)) (Nat.blt o len)) false with ⟨ro,len,t,hg,e'⟩ | e'
  ·rw [e'] at hk;obtain ⟨h1,h2⟩:=Dm hk;obtain ⟨e,r,h3,h4,h5⟩:=h.cell hg (Cd h1);simp only [VR] at hp;obtain ⟨e'',h6,rfl⟩:=hp;rw [h3] at h6;simp only [J5] at h6;subst h6;exact ⟨_,_,r,rfl,rfl,h4,h5,h2⟩
  ·rw [e'] at hk; cases hk
 ·rw [e] at hk; cases hk
def Da (t:CT) (o n:Nat):List AV:=@Nat.rec (fun _=>Nat->List AV) (fun _=>[]) (fun _ ih o=>t.get o :: ih (Nat.succ o)) n o
theorem Bx (t:CT):∀ (n o:Nat),(Da t o n).length=n
 | 0,_=>rfl
 | n + 1,o=>by show (Da t (o + 1) n).length + 1=_; rw [Bx t n]
theorem JE (t:CT):∀ (n o j:Nat),j < n->(Da t o n)[j]?=some (t.get (o + j))
 | 0,_,j,h=>by omega
 | n + 1,o,0,_=>rfl
 | n + 1,o,j + 1,h=>by
  show (Da t (o + 1) n)[j]?=_;rw [JE t n (o + 1) j (by omega)];congr 2; omega
theorem AS (b o n:Nat):(⟨b,o,none⟩:Addr).add n=⟨b,o + n,none⟩:=by unfold Addr.add; split <;> simp_all
theorem Rel.row (h:Rel σ F φ A H) {i:Id} {ro:Bool} {len:Nat} {t:CT} (hg:A.get i=.c ro len t) {e:Ent} (he:φ i=some e):∀ (n o j:Nat),o + j + n<=len ->
  ∃ ws,Ay (A5 H) ⟨e.r,e.s + o,none⟩ j n=some ws/\VRl σ φ (Da t (o + j) n) ws
 | 0,o,j,_=>⟨[],rfl,by simp [Da,VRl]⟩
 | n + 1,o,j,hl=>by
  obtain ⟨ws,h1,h2⟩:=h.row hg he n o (j + 1) (by omega);obtain ⟨e',w,h3,h4,h5⟩:=h.cell (o:=o + j) hg (by omega);rw [he] at h3;simp only [J5] at h3;subst h3;refine ⟨w :: ws,?_,?_⟩
  ·simp only [Ay,AS,h1];rw [show e.s + o + j=e.s + (o + j) by omega,h4];rfl
  ·show VRl σ φ (t.get (o + j) :: Da t (o + j + 1) n) (w :: ws);simp only [VRl];exact ⟨w,ws,rfl,h5,by rw [show o + j + 1=o + (j + 1) by omega]; exact h2⟩
def j5e (n:Nat) (k:List AV->Bool) (o:Nat) (ro:Bool) (len:Nat) (t:CT):Bool:=@Bool.rec (fun _=>Bool) false (k (Da t o n)) (Nat.ble (Nat.add o n) len)
def j5d (A:AH) (n:Nat) (k:List AV->Bool) (i:Id) (o:Nat):Bool:=(A.get i).zl (j5e n k o) false
def ldN (A:AH) (p:AV) (n:Nat) (k:List AV->Bool):Bool:=p.yd (j5d A n k) false
theorem Qo {p:AV} {w:Value} {n:Nat} {k:List AV->Bool} (h:Rel σ F φ A H) (hp:VR σ φ p w) (hk:ldN A p n k=true) :
  ∃ a l ws,w=.pointer (some a)/\a.spot=none/\Ay (A5 H) a 0 n=some ws/\l.length=n/\VRl σ φ l ws/\k l=true:=by
 change p.yd (fun i o=>(A.get i).zl (fun _ len t=>@Bool.rec (fun _=>Bool) false (k (Da t o n)) (Nat.ble (Nat.add o n) len)) false) false=true at hk
 rcases AV.yp p (fun i o=>(A.get i).zl (fun _ len t=>@Bool.rec (fun _=>Bool) false (k (Da t o n)) (Nat.ble (Nat.add o n) len)) false) false with ⟨i,o,rfl,e⟩ | e
 ·rw [e] at hk
  rcases AB.zm (A.get i) (fun _ len t=>@Bool.rec (fun _=>Bool) false (k (Da t o n)) (Nat.ble (Nat.add o n) len)) false with ⟨ro,len,t,hg,e'⟩ | e'
  ·rw [e'] at hk
   obtain ⟨h1,h2⟩:=Dm hk
   have h1:=Ja h1
   simp only [VR] at hp
   obtain ⟨e,h6,rfl⟩:=hp
   obtain ⟨ws,h3,h4⟩:=h.row hg h6 n o 0 h1
   exact ⟨_,_,ws,rfl,rfl,h3,Bx _ _ _,h4,h2⟩
  ·rw [e'] at hk; cases hk
 ·rw [e] at hk; cases hk
def GM (v:AV):Bool:=@AV.rec (fun _=>Bool) (fun _=>PUnit) false (fun _=>true) (fun _=>true) (fun _ _=>true) (fun _=>true) (fun _ _=>true) (fun _ _ _ _ _ _=>true) (fun _=>true) (fun _=>true) (fun _ _ _ _ _=>true)
 (fun _ _ _=>true) (fun _ _=>false) (fun _ _=>false) (fun _=>false) .unit (fun _ _ _ _=>.unit) v
theorem Gc {v:AV} {w:Value} (h:GM v=true) (hv:VR σ φ v w):Cb w=true:=by
 cases v <;> first | (cases h; done) | simp only [VR] at hv
 case b=>subst hv; rfl
 case n=>obtain ⟨rfl,_⟩:=hv; rfl
 case z=>subst hv; rfl
 case s=>obtain ⟨_,rfl,_⟩:=hv; rfl
 case p=>obtain ⟨_,_,rfl⟩:=hv; rfl
 case q=>obtain ⟨_,_,_,_,rfl,_⟩:=hv; rfl
 case m=>obtain ⟨_,_,rfl⟩:=hv; rfl
 case nil g=>subst hv; unfold EY; split <;> rfl
 case f=>obtain ⟨_,_,rfl,_⟩:=hv; rfl
 case i=>obtain ⟨_,rfl,_⟩:=hv; rfl
theorem P7 {H:A3} {r o:Nat} {c:Array Value} {el:TypeId} {fr:Nat × Nat} {w:Value} (h:H[r]?=some (.cells c el fr)):(Aw H ⟨r,o,none⟩ w)[r]?=some (.cells (c.setIfInBounds o w) el fr):=by
 unfold Aw;rw [Zu];simp [h]
theorem LD {H:A3} {a:Addr} {r:Nat} {w:Value} (h:r ≠ a.block):(Aw H a w)[r]?=H[r]?:=by
 unfold Aw;rw [Zu,J4 (fun x=>h x.symm)]
theorem KW {H:A3} {a:Addr} {w:Value}:(Aw H a w).size=H.size:=by simp [Aw]
theorem Rel.store (h:Rel σ F φ A H) {i:Id} {len o:Nat} {t:CT} (hg:A.get i=.c false len t) (ho:o < len) {v:AV} {w:Value} (hv:VR σ φ v w) {e:Ent} (he:φ i=some e) :
  (A5 H ⟨e.r,e.s + o,none⟩).isSome=true/\BI H ⟨e.r,e.s + o,none⟩=false/\Rel σ F φ (A.set i (.c false len (t.set o v))) (Aw H ⟨e.r,e.s + o,none⟩ w):=by
 obtain ⟨e',h1,h3,h4,h5,c,el,fr,h6,h7,h8,h9⟩:=h.cells hg
 rw [he] at h1
 simp only [J5] at h1
 subst h1
 obtain ⟨w0,h10,_⟩:=h9 o ho
 refine ⟨by simp [A5,h6,h10],?_,?_⟩
 ·obtain ⟨lo,hi⟩:=fr
  have:=h8 rfl
  simp only at this
  subst this
  simp only [BI,h6]
  simp; try omega
 refine ⟨?_,?_,?_,?_,fun r hr=>by rw [KW]; exact h.st r hr⟩
 ·intro i' x hx; rw [AH.wg]; exact h.dom i' x hx
 ·intro i'
  by_cases hi:i'=i
  ·subst hi
   rw [AH.zn]
   refine ⟨e,he,h3,by rw [CT.xj]; exact h4,h5,c.setIfInBounds (e.s + o) w,el,fr,P7 h6,(fun _=>by simpa using h7 rfl),h8,fun o' ho'=>?_⟩
   by_cases hoo:o'=o
   ·subst hoo
    refine ⟨w,?_,by rw [CT.zn]; exact hv⟩
    rw [Jt]
    have:=(Z8.1 h10).1
    simp [this]
   ·obtain ⟨w',h11,h12⟩:=h9 o' ho'
    refine ⟨w',?_,by rw [CT.ze (by omega) (by omega) hoo]; exact h12⟩
    rw [Jt,J4 (by omega)]
    exact h11
  ·rw [AH.ze _ hi]
   have hl:=h.liv i'
   cases hb:A.get i' with
   | no=>trivial
   | _ =>
    rw [hb] at hl;refine hl.keep fun x hx _=>LD fun hr=>hi (h.inj i' i x e (by rw [hb]; simp) (by rw [hg]; simp) hx he hr)
 ·intro i1 i2 x1 x2 hi1 hi2 hx1 hx2 hr
  have key:∀ i',(A.set i (.c false len (t.set o v))).get i' ≠ .no->A.get i' ≠ .no:=by
   intro i' hn;by_cases hi:i'=i
   ·subst hi; rw [hg]; simp
   ·rwa [AH.ze _ hi] at hn
  exact h.inj i1 i2 x1 x2 (key _ hi1) (key _ hi2) hx1 hx2 hr
 ·intro r o' hr
  rw [LD (by show r ≠ e.r; intro x; rw [x,nfr h3] at hr; cases hr)]
  exact h.frm r o' hr
def j55 (A:AH) (v:AV) (k:AH->Bool) (i:Id) (o len:Nat) (t:CT):Bool:=k (A.set i (.c false len (t.set o v)))
def j0j (A:AH) (v:AV) (k:AH->Bool) (i:Id) (o:Nat) (ro:Bool) (len:Nat) (t:CT):Bool:=@Bool.rec (fun _=>Bool) (@Bool.rec (fun _=>Bool) false (@Bool.rec (fun _=>Bool) false (j55 A v k i o len t) (Nat.blt o len)) (GM v)) false ro
def j54 (A:AH) (v:AV) (k:AH->Bool) (i:Id) (o:Nat):Bool:=(A.get i).zl (j0j A v k i o) false
def st (A:AH) (p v:AV) (k:AH->Bool):Bool:=p.yd (j54 A v k) false
theorem Mp {c:Bool} {x:Bool} (h:@Bool.rec (fun _=>Bool) x false c=true):c=false/\x=true:=by cases c <;> simp_all
theorem MC {p v:AV} {w x:Value} {k:AH->Bool} (h:Rel σ F φ A H) (hp:VR σ φ p w) (hv:VR σ φ v x) (hk:st A p v k=true) :
  ∃ a A',w=.pointer (some a)/\Cb x=true/\(A5 H a).isSome=true/\BI H a=false/\Rel σ F φ A' (Aw H a x)/\k A'=true:=by
 change p.yd (fun i o=>(A.get i).zl (fun ro len t=>@Bool.rec (fun _=>Bool) (@Bool.rec (fun _=>Bool) false (@Bool.rec (fun _=>Bool) false (k (A.set i (.c false len (t.set o v)))) (Nat.blt o len)) (GM v)) false ro) false) false=true at hk
 rcases AV.yp p (fun i o=>(A.get i).zl (fun ro len t=>@Bool.rec (fun _=>Bool) (@Bool.rec (fun _=>Bool) false (@Bool.rec (fun _=>Bool) false (k (A.set i (.c false len (t.set o v)))) (Nat.blt o len)) (GM v)) false ro) false) false with ⟨i,o,rfl,e⟩ | e
 ·rw [e] at hk
  rcases AB.zm (A.get i) (fun ro len t=>@Bool.rec (fun _=>Bool) (@Bool.rec (fun _=>Bool) false (@Bool.rec (fun _=>Bool) false (k (A.set i (.c false len (t.set o v)))) (Nat.blt o len)) (GM v)) false ro) false with ⟨ro,len,t,hg,e'⟩ | e'
  ·rw [e'] at hk
   obtain ⟨rfl,hk⟩:=Mp hk
   obtain ⟨h1,hk⟩:=Dm hk
   obtain ⟨h2,hk⟩:=Dm hk
   simp only [VR] at hp
   obtain ⟨e,he,rfl⟩:=hp
   obtain ⟨h3,h4,h5⟩:=h.store hg (Cd h2) hv he
   exact ⟨_,_,rfl,Gc h1 hv,h3,h4,h5,hk⟩
  ·rw [e'] at hk; cases hk
 ·rw [e] at hk; cases hk
def stL (i:Id) (l:List AV):Nat->AH->(AH->Bool)->Bool:=@List.rec AV (fun _=>Nat->AH->(AH->Bool)->Bool) (fun _ A k=>k A) (fun v _ ih o A k=>st A (.p i o) v fun A=>ih (Nat.succ o) A k) l
theorem KP {i:Id} {e:Ent} (he:φ i=some e):∀ (l:List AV) (ws:List Value) (o j:Nat) (A:AH) (H:A3) (k:AH->Bool),Rel σ F φ A H->VRl σ φ l ws->stL i l (o + j) A k=true ->
  ∃ A' H',Ar H ⟨e.r,e.s + o,none⟩ ws j=some H'/\Rel σ F φ A' H'/\k A'=true
 | [],ws,o,j,A,H,k,h,hv,hk=>by
  simp only [VRl] at hv;subst hv;exact ⟨A,H,rfl,h,hk⟩
 | v :: l,ws,o,j,A,H,k,h,hv,hk=>by
  simp only [VRl] at hv;obtain ⟨w,ws',rfl,h1,h2⟩:=hv;obtain ⟨a,A',h3,h4,h5,h6,h7,h8⟩:=MC (p:=.p i (o + j)) (w:=.pointer (some ⟨e.r,e.s + (o + j),none⟩)) (k:=fun A=>stL i l (Nat.succ (o + j)) A k) h (by simp only [VR]; exact ⟨e,he,rfl⟩) h1 hk;simp only [Value.pointer.injEq,J5] at h3;subst h3;obtain ⟨A'',H'',h9,h10,h11⟩:=KP he l ws' o (j + 1) A' _ k h7 h2 h8;refine ⟨A'',H'',?_,h10,h11⟩;simp only [Ar,AS];rw [show e.s + o + j=e.s + (o + j) by omega,J8 ⟨h4,h5,h6⟩];exact h9
def DY (l:List AV) (n:Nat) (t:CT):CT:=@List.rec AV (fun _=>Nat->CT->CT) (fun _ t=>t) (fun v _ ih n t=>ih (Nat.succ n) (t.set n v)) l n t
def Rz (l:List AV):Bool:=@List.rec AV (fun _=>Bool) true (fun v _ ih=>@Bool.rec (fun _=>Bool) false ih (GM v)) l
def EM (l:List AV):Nat:=@List.rec AV (fun _=>Nat) 0 (fun _ _ n=>Nat.succ n) l
theorem Pj:∀ (l:List AV),EM l=l.length
 | []=>rfl
 | _ :: l=>by show Nat.succ (EM l)=_; rw [Pj l]; rfl
theorem ME {i:Id} {len:Nat} {k:AH->Bool}:∀ (v:AV) (l:List AV) (o:Nat) (A:AH) (t:CT),A.get i=.c false len t->o + (l.length + 1)<=len->Rz (v :: l)=true->stL i (v :: l) o A k=k (A.set i (.c false len (DY (v :: l) o t)))
 | v,l,o,A,t,hg,hlen,h1=>by
  have ⟨h2,h3⟩:GM v=true/\Rz l=true:=Dm (c:=GM v) h1;have step:stL i (v :: l) o A k=stL i l (Nat.succ o) (A.set i (.c false len (t.set o v))) k:=by
   show (A.get i).zl (j0j A v (fun A=>stL i l (Nat.succ o) A k) i o) false=_;rw [hg];show @Bool.rec (fun _=>Bool) false (@Bool.rec (fun _=>Bool) false (stL i l (Nat.succ o) (A.set i (.c false len (t.set o v))) k) (Nat.blt o len)) (GM v)=_;have h4:Nat.blt o len=true:=Yz (by omega);rw [h2,h4]
  rw [step];cases l with
  | nil=>rfl
  | cons v2 l =>
   rw [ME v2 l (Nat.succ o) (A.set i (.c false len (t.set o v))) (t.set o v) (by rw [AH.zn]) (by simp only [Za] at hlen; omega) h3,AH.set_set];rfl
def VG (A:AH) (l:List AV) (k:AH->Bool) (i:Id) (o:Nat) (ro:Bool) (len:Nat) (t:CT):Bool :=
 @Bool.rec (fun _=>Bool) (@Bool.rec (fun _=>Bool) false (@Bool.rec (fun _=>Bool) false (k (A.set i (.c false len (DY l o t)))) (Nat.ble (Nat.add o (EM l)) len)) (Rz l)) false ro
def VF (A:AH) (l:List AV) (k:AH->Bool) (i:Id) (o:Nat):Bool:=@List.rec AV (fun _=>Bool) (k A) (fun _ _ _=>(A.get i).zl (VG A l k i o) false) l
def stN (A:AH) (p:AV) (l:List AV) (k:AH->Bool):Bool:=p.yd (VF A l k) false
theorem R0 {l:List AV} {k:AH->Bool} {i:Id} {o:Nat} (h:VF A l k i o=true):stL i l o A k=true:=by
 cases l with
 | nil=>exact h
 | cons v l =>
  have h:(A.get i).zl (VG A (v :: l) k i o) false=true:=h;rcases AB.zm (A.get i) (VG A (v :: l) k i o) false with ⟨ro,len,t,hg,e⟩ | e
  ·rw [e] at h;obtain ⟨rfl,h⟩:=Mp h;obtain ⟨h1,h⟩:=Dm h;obtain ⟨h2,h⟩:=Dm h;have h2:=Ja h2;rw [Pj] at h2;rw [ME v l o A t hg (by simpa using h2) h1];exact h
  ·rw [e] at h; cases h
theorem Fo {p:AV} {l:List AV} {w:Value} {ws:List Value} {k:AH->Bool} (h:Rel σ F φ A H) (hp:VR σ φ p w) (hv:VRl σ φ l ws) (hk:stN A p l k=true) :
  ∃ a A' H',w=.pointer (some a)/\Ar H a ws 0=some H'/\Rel σ F φ A' H'/\k A'=true:=by
 unfold stN at hk
 rcases AV.yp p (VF A l k) false with ⟨i,o,rfl,e⟩ | e
 ·rw [e] at hk
  simp only [VR] at hp
  obtain ⟨e,he,rfl⟩:=hp
  obtain ⟨A',H',h1,h2,h3⟩:=KP he l ws o 0 A H k h hv (R0 hk)
  exact ⟨_,A',H',rfl,h1,h2,h3⟩
 ·rw [e] at hk; cases hk
open Go.HL
variable {σ:Nat->Value} {F:Nat->Option Obj} {φ:Phi} {A:AH} {H:A3}
section
def frc (n:Nat) (k:Nat->Bool):Bool:=@Nat.rec (fun _=>Bool) (k 0) (fun m _=>k (Nat.succ m)) n
theorem Bw (n:Nat) (k:Nat->Bool):frc n k=k n:=by cases n <;> rfl
def ifB (c:Bool) (t e:Bool):Bool:=@Bool.rec (fun _=>Bool) e t c
theorem OD (c t e:Bool):ifB c t e=if c then t else e:=by cases c <;> rfl
theorem Ab {c t:Bool} (h:ifB c t false=true):c=true/\t=true:=by cases c <;> simp_all [ifB]
def BM (g:IntKind):Nat:=@IntKind.rec (fun _=>Nat) 0 1 2 3 4 5 6 7 g
theorem CF {g g':IntKind} (h:Nat.beq (BM g) (BM g')=true):g=g':=by
 have:=J9 h;cases g <;> cases g' <;> first | rfl | (simp [BM] at this)
def j5f (k:IntKind->Int->Bool) (x:Nat):Bool:=k .i64 (Int.ofNat x)
def AV.int (v:AV) (k:IntKind->Int->Bool):Bool:=v.ye (j5f k) (v.ui k false)
theorem AV.zh {v:AV} {w:Value} {k:IntKind->Int->Bool} (hv:VR σ φ v w) (hk:v.int k=true):∃ g x,w=.int g x/\k g x=true:=by
 unfold AV.int at hk;cases v with
 | n x=>simp only [VR] at hv; obtain ⟨rfl,_⟩:=hv; exact ⟨_,_,rfl,hk⟩
 | z g x=>simp only [VR] at hv; subst hv; exact ⟨_,_,rfl,hk⟩
 | _=>cases hk
def mkI (g:IntKind) (x:Int) (k:AV->Bool):Bool :=
 @Int.rec (fun _=>Bool) (fun n=>frc n fun n=>ifB (Nat.beq (BM g) 3) (ifB (Nat.blt n 9223372036854775808) (k (.n n)) false) (k (.z g (Int.ofNat n)))) (fun n=>frc n fun n=>k (.z g (Int.negSucc n))) x
theorem Hy {g:IntKind} {x:Int} {k:AV->Bool} (hk:mkI g x k=true):∃ v,VR σ φ v (.int g x)/\k v=true:=by
 unfold mkI at hk;cases x with
 | negSucc n =>
  simp only [Bw] at hk;exact ⟨.z g (Int.negSucc n),by simp only [VR],hk⟩
 | ofNat n =>
  simp only [Bw] at hk;cases hg:Nat.beq (BM g) 3 with
  | false=>rw [hg] at hk; exact ⟨.z g (Int.ofNat n),by simp only [VR],hk⟩
  | true =>
   rw [hg] at hk;obtain ⟨h1,h2⟩:=Ab hk;have:g=.i64:=CF hg;subst this;exact ⟨.n n,by simp only [VR]; exact ⟨rfl,by have:=Cd h1; omega⟩,h2⟩
def FK (op:BinOp) (x y:AV) (k:AV->Bool):Bool:=x.int fun g a=>y.int fun g' c=>@Option.rec Value (fun _=>Bool) false (fun w=>match w with
 | .int g v=>mkI g v k
 | .bool b=>k (.b b)
 | _=>false) (AX op g a g' c)
def Ck (P:Program) (op:BinOp) (f:AV->AV->(AV->Bool)->Bool):Prop :=
 ∀ (σ:Nat->Value) (φ:Phi) (V:HV) (t:TypeId) (xo yo:Operand) (x y:AV) (w w':Value) (k:AV->Bool),VR σ φ x w->VR σ φ y w'->f x y k=true->∃ r v,B0 P V op t xo yo w w'=some r/\VR σ φ v r/\k v=true
theorem IR {P:Program} {op:BinOp}:Ck P op (FK op):=by
 intro σ φ V t xo yo x y w w' k hx hy hk;unfold FK at hk;obtain ⟨g,a,rfl,hk⟩:=AV.zh hx hk;obtain ⟨g',c,rfl,hk⟩:=AV.zh hy hk;show ∃ r v,AX op g a g' c=some r/\_;cases hi:AX op g a g' c with
 | none=>rw [hi] at hk; cases hk
 | some r =>
  rw [hi] at hk;cases r with
  | int g v=>obtain ⟨v',h1,h2⟩:=Hy (σ:=σ) (φ:=φ) hk; exact ⟨_,v',rfl,h1,h2⟩
  | bool b=>exact ⟨_,.b b,rfl,by simp only [VR],hk⟩
  | _=>cases hk
def nn (x y:AV) (f:Nat->Nat->Bool) (no:Bool):Bool:=x.ye (fun a=>y.ye (fun c=>f a c) no) no
theorem Ie {P:Program} {op:BinOp} {f:Nat->Nat->(AV->Bool)->Bool}
  (h:∀ (σ:Nat->Value) (φ:Phi) (a c:Nat) (k:AV->Bool),a < 2 ^ 63->c < 2 ^ 63->f a c k=true->∃ r v,AX op .i64 a .i64 c=some r/\VR σ φ v r/\k v=true):Ck P op (fun x y k=>nn x y (fun a c=>f a c k) (FK op x y k)):=by
 intro σ φ V t xo yo x y w w' k hx hy hk
 simp only at hk
 unfold nn at hk
 rcases AV.uj x (fun a=>y.ye (fun c=>f a c k) (FK op x y k)) (FK op x y k) with ⟨a,rfl,e⟩ | e
 ·rw [e] at hk
  rcases AV.uj y (fun c=>f a c k) (FK op (.n a) y k) with ⟨c,rfl,e'⟩ | e'
  ·rw [e'] at hk
   simp only [VR] at hx hy
   obtain ⟨rfl,ha⟩:=hx
   obtain ⟨rfl,hc⟩:=hy
   exact h σ φ a c k ha hc hk
  ·rw [e'] at hk; exact IR σ φ V t xo yo _ _ _ _ k hx hy hk
 ·rw [e] at hk; exact IR σ φ V t xo yo _ _ _ _ k hx hy hk
def YS (x y:AV) (k:AV->Bool):Bool:=nn x y (fun a c=>frc (Nat.add a c) fun s=>ifB (Nat.blt s 9223372036854775808) (k (.n s)) false) (FK .add x y k)
theorem PM {P:Program}:Ck P .add YS:=Ie (f:=fun a c k=>frc (Nat.add a c) fun s=>ifB (Nat.blt s 9223372036854775808) (k (.n s)) false) fun σ φ a c k ha hc hk=>by
 rw [Bw] at hk;obtain ⟨h1,h2⟩:=Ab hk;have:=Cd h1;refine ⟨_,.n (Nat.add a c),rfl,?_,h2⟩;simp only [VR];refine ⟨?_,by simp only [Wk] at this ⊢; omega⟩;have e:IntKind.i64.wrap ((a:Int) + c)=((Nat.add a c:Nat):Int):=(by rw [IntWalk.i64_in _ (by simp only [Wk] at this; omega)]; simp);rw [e]
def VA (x y:AV) (k:AV->Bool):Bool:=nn x y (fun a c=>ifB (Nat.ble c a) (frc (Nat.sub a c) fun s=>k (.n s)) (frc (Nat.sub (Nat.sub c a) 1) fun s=>k (.z .i64 (Int.negSucc s)))) (FK .sub x y k)
theorem P3 {P:Program}:Ck P .sub VA:=Ie (f:=fun a c k=>ifB (Nat.ble c a) (frc (Nat.sub a c) fun s=>k (.n s)) (frc (Nat.sub (Nat.sub c a) 1) fun s=>k (.z .i64 (Int.negSucc s)))) fun σ φ a c k ha hc hk=>by
 rw [Bw,Bw,OD] at hk;have e:IntKind.i64.wrap ((a:Int) - c)=(a:Int) - c:=IntWalk.i64_in _ (by omega);refine ⟨.int .i64 ((a:Int) - c),?_⟩;by_cases h:c<=a
 ·rw [J8 (Yz h)] at hk;refine ⟨.n (Nat.sub a c),by simp only [AX,e]; rfl,?_,hk⟩;simp only [VR];refine ⟨?_,by simp only [Nat.sub_eq]; omega⟩;simp only [Nat.sub_eq];congr 1; omega
 ·rw [J4 (fun x=>h (Ja x))] at hk;refine ⟨.z .i64 (Int.negSucc (Nat.sub (Nat.sub c a) 1)),by simp only [AX,e]; rfl,?_,hk⟩;simp only [VR,Nat.sub_eq];congr 1; omega
def j1q (x y:AV) (k:AV->Bool):Bool:=nn x y (fun a c=>frc (Nat.mul a c) fun s=>ifB (Nat.blt s 9223372036854775808) (k (.n s)) false) (FK .mul x y k)
theorem TE {P:Program}:Ck P .mul j1q:=Ie (f:=fun a c k=>frc (Nat.mul a c) fun s=>ifB (Nat.blt s 9223372036854775808) (k (.n s)) false) fun σ φ a c k ha hc hk=>by
 rw [Bw] at hk;obtain ⟨h1,h2⟩:=Ab hk;have h3:=Cd h1;refine ⟨_,.n (Nat.mul a c),rfl,?_,h2⟩;simp only [VR];simp only [W3] at h3 ⊢;refine ⟨?_,by omega⟩;have e:IntKind.i64.wrap ((a:Int) * c)=((a * c:Nat):Int):=by
  have e1:(a:Int) * c=((a * c:Nat):Int):=(by simp);rw [e1]; exact IntWalk.i64_in _ (by omega)
 rw [e]
def j0v (x y:AV) (k:AV->Bool):Bool:=nn x y (fun a c=>ifB (Nat.beq c 0) false (frc (Nat.div a c) fun s=>k (.n s))) (FK .quo x y k)
theorem G0 {a b:Nat} (h:Nat.beq a b=false):a ≠ b:=by intro e; subst e; rw [Nat.beq_refl] at h; cases h
theorem HH {c t:Bool} (h:ifB c false t=true):c=false/\t=true:=by cases c <;> simp_all [ifB]
theorem Tk {P:Program}:Ck P .quo j0v:=Ie (f:=fun a c k=>ifB (Nat.beq c 0) false (frc (Nat.div a c) fun s=>k (.n s))) fun σ φ a c k ha hc hk=>by
 rw [Bw] at hk;obtain ⟨h1,h2⟩:=HH hk;have h3:=G0 h1;have hd:Nat.div a c<=a:=Nat.div_le_self a c;refine ⟨.int .i64 (Nat.div a c),.n (Nat.div a c),?_,?_,h2⟩
 ·have e:IntKind.i64.wrap ((a:Int).tdiv c)=(Nat.div a c:Nat):=(by rw [show (a:Int).tdiv c=((Nat.div a c:Nat):Int) from rfl]; exact IntWalk.i64_in _ (by omega));simp only [AX,e,ne_eq,V5,Z3];rw [J4 (by omega)]
 ·simp only [VR]; exact ⟨trivial,by omega⟩
def j0u (x y:AV) (k:AV->Bool):Bool:=nn x y (fun a c=>ifB (Nat.beq c 0) false (frc (Nat.mod a c) fun s=>k (.n s))) (FK .rem x y k)
theorem Ti {P:Program}:Ck P .rem j0u:=Ie (f:=fun a c k=>ifB (Nat.beq c 0) false (frc (Nat.mod a c) fun s=>k (.n s))) fun σ φ a c k ha hc hk=>by
 rw [Bw] at hk;obtain ⟨h1,h2⟩:=HH hk;have h3:=G0 h1;have hd:Nat.mod a c<=a:=Nat.mod_le a c;refine ⟨.int .i64 (Nat.mod a c),.n (Nat.mod a c),?_,?_,h2⟩
 ·have e:(a:Int).tmod c=(Nat.mod a c:Nat):=rfl;simp only [AX,e,ne_eq,V5,Z3];rw [J4 (by omega)]
 ·simp only [VR]; exact ⟨trivial,by omega⟩
theorem Dp (a:Nat):BitVec.ofInt 64 (a:Int)=BitVec.ofNat 64 a:=BitVec.ofInt_natCast 64 a
theorem CC {a:Nat} (h:a < 2 ^ 63):(BitVec.ofNat 64 a).toNat=a:=by rw [BitVec.toNat_ofNat]; exact Xs (by omega)
def j3l (x y:AV) (k:AV->Bool):Bool:=nn x y (fun a c=>frc (Nat.land a c) fun s=>k (.n s)) (FK .and x y k)
theorem UF {P:Program}:Ck P .and j3l:=Ie (f:=fun a c k=>frc (Nat.land a c) fun s=>k (.n s)) fun σ φ a c k ha hc hk=>by
 rw [Bw] at hk;have hl:Nat.land a c<=a:=Nat.and_le_left;refine ⟨.int .i64 (Nat.land a c:Nat),.n (Nat.land a c),?_,?_,hk⟩
 ·have e:(BitVec.ofInt IntKind.i64.bits a &&& BitVec.ofInt IntKind.i64.bits c).toNat=Nat.land a c:=by
   show (BitVec.ofInt 64 a &&& BitVec.ofInt 64 c).toNat=_;rw [Dp,Dp,BitVec.toNat_and,CC ha,CC hc]; rfl
  simp only [AX,e,ne_eq,V5,Z3]
  rw [IntWalk.i64_in _ (by omega)]
 ·simp only [VR]; exact ⟨trivial,by omega⟩
def orA (x y:AV) (k:AV->Bool):Bool:=nn x y (fun a c=>frc (Nat.lor a c) fun s=>ifB (Nat.blt s 9223372036854775808) (k (.n s)) false) (FK .or x y k)
theorem WE {P:Program}:Ck P .or orA:=Ie (f:=fun a c k=>frc (Nat.lor a c) fun s=>ifB (Nat.blt s 9223372036854775808) (k (.n s)) false) fun σ φ a c k ha hc hk=>by
 rw [Bw] at hk;obtain ⟨h1,h2⟩:=Ab hk;have h3:=Cd h1;refine ⟨.int .i64 (Nat.lor a c:Nat),.n (Nat.lor a c),?_,?_,h2⟩
 ·have e:(BitVec.ofInt IntKind.i64.bits a ||| BitVec.ofInt IntKind.i64.bits c).toNat=Nat.lor a c:=by
   show (BitVec.ofInt 64 a ||| BitVec.ofInt 64 c).toNat=_;rw [Dp,Dp,BitVec.toNat_or,CC ha,CC hc]; rfl
  simp only [AX,e,ne_eq,V5,Z3]
  rw [IntWalk.i64_in _ (by omega)]
 ·simp only [VR]; exact ⟨trivial,by omega⟩
def Vl (x y:AV) (k:AV->Bool):Bool:=nn x y (fun a c=>frc (Nat.xor a c) fun s=>ifB (Nat.blt s 9223372036854775808) (k (.n s)) false) (FK .xor x y k)
theorem OZ {P:Program}:Ck P .xor Vl:=Ie (f:=fun a c k=>frc (Nat.xor a c) fun s=>ifB (Nat.blt s 9223372036854775808) (k (.n s)) false) fun σ φ a c k ha hc hk=>by
 rw [Bw] at hk;obtain ⟨h1,h2⟩:=Ab hk;have h3:=Cd h1;refine ⟨.int .i64 (Nat.xor a c:Nat),.n (Nat.xor a c),?_,?_,h2⟩
 ·have e:(BitVec.ofInt IntKind.i64.bits a ^^^ BitVec.ofInt IntKind.i64.bits c).toNat=Nat.xor a c:=by
   show (BitVec.ofInt 64 a ^^^ BitVec.ofInt 64 c).toNat=_;rw [Dp,Dp,BitVec.toNat_xor,CC ha,CC hc]; rfl
  simp only [AX,e,ne_eq,V5,Z3]
  rw [IntWalk.i64_in _ (by omega)]
 ·simp only [VR]; exact ⟨trivial,by omega⟩
def ltI (a c:Int):Bool:=@Int.rec (fun _=>Bool) (fun n=>@Int.rec (fun _=>Bool) (fun m=>Nat.blt n m) (fun _=>false) c) (fun n=>@Int.rec (fun _=>Bool) (fun _=>true) (fun m=>Nat.blt m n) c) a
theorem Ge (a c:Int):ltI a c=decide (a < c):=by
 cases a with
 | ofNat n =>
  cases c with
  | ofNat m =>
   show Nat.blt n m=_;by_cases h:n < m
   ·have:(Int.ofNat n) < Int.ofNat m:=(by simp; omega);rw [Zx this]; exact Yz h
   ·have:¬ (Int.ofNat n) < Int.ofNat m:=(by simp; omega);rw [Zi this];cases e:Nat.blt n m with
    | false=>rfl
    | true=>exact absurd (Cd e) h
  | negSucc m=>exact (Zi (by simp only [Int.ofNat_eq_natCast]; omega)).symm
 | negSucc n =>
  cases c with
  | ofNat m=>exact (Zx (by simp only [Int.ofNat_eq_natCast]; omega)).symm
  | negSucc m =>
   show Nat.blt m n=_;by_cases h:m < n
   ·rw [Zx (by omega)]; exact Yz h
   ·rw [Zi (by omega)];cases e:Nat.blt m n with
    | false=>rfl
    | true=>exact absurd (Cd e) h
def eqI (a c:Int):Bool:=@Int.rec (fun _=>Bool) (fun n=>@Int.rec (fun _=>Bool) (fun m=>Nat.beq n m) (fun _=>false) c) (fun n=>@Int.rec (fun _=>Bool) (fun _=>false) (fun m=>Nat.beq n m) c) a
theorem Mt (n m:Nat):Nat.beq n m=decide (n=m):=by
 by_cases h:n=m
 ·subst h; simp
 ·rw [Zi h];cases e:Nat.beq n m with
  | false=>rfl
  | true=>exact absurd (J9 e) h
theorem Kb (a c:Int):eqI a c=decide (a=c):=by
 cases a with
 | ofNat n =>
  cases c with
  | ofNat m=>show Nat.beq n m=_; rw [Mt]; congr 1; simp; try omega
  | negSucc m=>exact (Zi (by simp)).symm
 | negSucc n =>
  cases c with
  | ofNat m=>exact (Zi (by simp)).symm
  | negSucc m=>show Nat.beq n m=_; rw [Mt]; congr 1; simp; try omega
def j5v (f:Int->Int->Bool) (k:AV->Bool) (g:IntKind) (a:Int) (g':IntKind) (c:Int):Bool:=ifB (Nat.beq (BM g) (BM g')) (k (.b (f a c))) false
def j5w (f:Int->Int->Bool) (y:AV) (k:AV->Bool) (g:IntKind) (a:Int):Bool:=y.int (j5v f k g a)
def ON (f:Int->Int->Bool) (x y:AV) (k:AV->Bool):Bool:=x.int (j5w f y k)
theorem FB {P:Program} {op:BinOp} {f:Int->Int->Bool} (h:∀ g a c,AX op g a g c=some (.bool (f a c))):Ck P op (ON f):=by
 intro σ φ V t xo yo x y w w' k hx hy hk;change (x.int fun g a=>y.int fun g' c=>ifB (Nat.beq (BM g) (BM g')) (k (.b (f a c))) false)=true at hk;obtain ⟨g,a,rfl,hk⟩:=AV.zh hx hk;obtain ⟨g',c,rfl,hk⟩:=AV.zh hy hk;obtain ⟨h1,h2⟩:=Ab hk;have:=CF h1;subst this;exact ⟨_,.b (f a c),h g a c,by simp only [VR],h2⟩
def j1w:AV->AV->(AV->Bool)->Bool:=ON ltI
def j2m:AV->AV->(AV->Bool)->Bool:=ON fun a c=>ltI c a
def j1y:AV->AV->(AV->Bool)->Bool:=ON fun a c=>not (ltI c a)
def j2n:AV->AV->(AV->Bool)->Bool:=ON fun a c=>not (ltI a c)
def j2x:AV->AV->(AV->Bool)->Bool:=ON eqI
def j1o:AV->AV->(AV->Bool)->Bool:=ON fun a c=>not (eqI a c)
theorem TP {P:Program}:Ck P .lss j1w:=FB fun g a c=>by simp [AX,Ge]
theorem U7 {P:Program}:Ck P .gtr j2m:=FB fun g a c=>by simp [AX,Ge]
theorem JW (a c:Int):(!(decide (a < c)))=decide (c<=a):=by
 by_cases h:a < c
 ·rw [Zx h,Zi (by omega)]; rfl
 ·rw [Zi h,Zx (by omega)]; rfl
theorem TU {P:Program}:Ck P .leq j1y:=FB fun g a c=>by simp [AX,Ge,JW]
theorem U9 {P:Program}:Ck P .geq j2n:=FB fun g a c=>by simp [AX,Ge,JW]
theorem Ui {P:Program}:Ck P .eql j2x:=FB fun g a c=>by simp [AX,Kb,BEq.beq]
theorem TB {P:Program}:Ck P .neq j1o:=FB fun g a c=>by simp [AX,Kb,bne,BEq.beq]
end
open Go.HL
variable {σ:Nat->Value} {F:Nat->Option Obj} {φ:Phi} {A:AH} {H:A3} {P:Program}
section
def cv1:Value->AV
 | .bool b=>.b b
 | .int .i64 (.ofNat n)=>if n < 9223372036854775808 then .n n else .u
 | .int g x=>.z g x
 | .string s=>.s (s.data.toList.map UInt8.toNat)
 | .pointer none=>.nil 0
 | .slice none 0 0=>.nil 1
 | .map none=>.nil 2
 | .nilFunc=>.nil 3
 | .nilIface=>.nil 4
 | .func (.func f) first captured=>if first.size=0/\captured.size=0 then .f f [] [] else .u
 | _=>.u
theorem Kh (v:Value):VR σ φ (cv1 v) v:=by
 unfold cv1;split
 ·simp only [VR]
 ·split
  ·simp only [VR]; exact ⟨rfl,by omega⟩
  ·simp only [VR]
 ·simp only [VR]
 ·simp only [VR]; exact ⟨_,rfl,rfl⟩
 ·simp only [VR]; rfl
 ·simp only [VR]; rfl
 ·simp only [VR]; rfl
 ·simp only [VR]; rfl
 ·simp only [VR]; rfl
 ·split
  ·rename_i f first captured h
   have e1:first = #[]:=Xx h.1;have e2:captured = #[]:=Xx h.2;subst e1 e2;simp only [VR,VRl]; exact ⟨_,_,rfl,rfl,rfl⟩
  ·simp only [VR]
 ·simp only [VR]
def cv (v:Value):AV:=match v with
 | .agg c=>.a (c.toList.map cv1)
 | v=>cv1 v
theorem Si:∀ (l:List Value),VRl σ φ (l.map cv1) l
 | []=>by simp [VRl]
 | v :: l=>by simp only [Jz,VRl]; exact ⟨v,l,rfl,Kh v,Si l⟩
theorem j3b (v:Value):VR σ φ (cv v) v:=by
 unfold cv;split
 ·simp only [VR]; exact ⟨_,rfl,Si _⟩
 ·exact Kh _
inductive TK where
 | int (g:IntKind) | str | bool | ptr (e:Nat) | slice (e:Nat) | arr (n e:Nat) | map (k e:Nat) | struct | func | iface | other
def BZ:TypeDesc->TK
 | .int g=>.int g | .string=>.str | .bool=>.bool | .pointer e=>.ptr e | .slice e=>.slice e | .array n e=>.arr n e | .map k e=>.map k e
 | .struct _=>.struct | .func ..=>.func | .interface _=>.iface | _=>.other
structure TI where
 k:TK
 size:Nat
 bytes:Nat
 zero:List AV
 zv:AV
 flds:List (Nat × Nat)
 pl:Option (List (Nat × Nat))
 eqk:Option (List (Nat × Nat))
def Mf (P:Program) (t:Nat):List (Nat × Nat) :=
 match P.underlying t with
 | some (.struct fs)=>fs.toList.map fun f=>(f.offset,f.type)
 | _=>[]
def FR (P:Program) (t:Nat):Option Nat :=
 match P.underlying t with
 | some (.int .i64)=>some 0
 | some .bool=>some 1
 | some .string=>some 2
 | some (.int _)=>some 3
 | _=>none
def Ij (P:Program):List Field->Option (List (Nat × Nat))
 | []=>some []
 | f :: r=>if f.name = "_" then Ij P r else (FR P f.type).bind fun k=>(Ij P r).map fun l=>(f.offset,k) :: l
def Mh (P:Program) (t:Nat):Option (List (Nat × Nat)) :=
 match P.underlying t with
 | some (.struct fs)=>if P.stoodInHeld t || P.eqGuardType P.depth t then none else Ij P fs.toList
 | _=>none
structure TIok (P:Program) (t:Nat) (i:TI):Prop where
 desc:(P.underlying t).map BZ=some i.k
 size:Au P t=some i.size
 bytes:Bq P t=some i.bytes
 zero:(AD P t).map (fun z=>z.cells.toList.map cv1)=some i.zero
 len:i.zero.length=i.size
 zv:(AD P t).map cv1=some i.zv
 flds:Mf P t=i.flds
 pl:Ch P t=i.pl
 eqk:Mh P t=i.eqk
theorem TIok.kind {P:Program} {t:Nat} {i:TI} (h:TIok P t i):∃ d,P.underlying t=some d/\BZ d=i.k:=by
 have:=h.desc;cases hu:P.underlying t with
 | none=>rw [hu] at this; cases this
 | some d=>rw [hu] at this; exact ⟨d,rfl,Jj this⟩
theorem TIok.zer {P:Program} {t:Nat} {i:TI} (h:TIok P t i):∃ z,AD P t=some z/\z.cells.size=i.size/\∀ σ φ,VRl σ φ i.zero z.cells.toList:=by
 have:=h.zero;cases hu:AD P t with
 | none=>rw [hu] at this; cases this
 | some z =>
  rw [hu] at this;have this:z.cells.toList.map cv1=i.zero:=Jj this;refine ⟨z,rfl,by rw [<- h.len,<- this]; simp,fun σ φ=>?_⟩;rw [<- this];generalize z.cells.toList=l;induction l with
  | nil=>simp [VRl]
  | cons v l ih=>simp only [Jz,VRl]; exact ⟨v,l,rfl,Kh v,ih⟩
theorem TIok.fld {P:Program} {t:Nat} {i:TI} (h:TIok P t i) {f d ft:Nat} (hf:i.flds[f]?=some (d,ft)):DQ P t f=some (d,ft):=by
 rw [<- h.flds] at hf;unfold Mf at hf;unfold DQ;split at hf
 ·rename_i fs hu;rw [hu];simp only [Z0] at hf;simp only;rw [<- Y1];exact hf
 ·simp at hf
theorem TIok.bx {P:Program} {t:Nat} {i j:TI} (h:TIok P t i) {f d ft:Nat} (hf:i.flds[f]?=some (d,ft)) (hj:TIok P ft j) (hz:Nat.beq j.size 0=false):AC P t f=some d:=by
 unfold AC;rw [h.fld hf];simp only [J0,hj.size];rw [J4];intro e;rw [e] at hz;cases hz
inductive TR where
 | lf (t:Nat) (i:TI)
 | nd (m:Nat) (l r:TR)
def TR.get (T:TR) (t:Nat):Option TI:=@TR.rec (fun _=>Option TI) (fun t' i=>@Bool.rec (fun _=>Option TI) none (some i) (Nat.beq t' t)) (fun m _ _ l r=>@Bool.rec (fun _=>Option TI) l r (Nat.ble m t)) T
def TR.OK (P:Program):TR->Prop
 | .lf t i=>TIok P t i
 | .nd _ l r=>l.OK P/\r.OK P
def Bl (P:Program) (T:TR):Prop:=∀ t i,T.get t=some i->TIok P t i
theorem QW {P:Program}:∀ {T:TR},T.OK P->Bl P T
 | .lf t i,h=>by
  intro t' i' he;unfold TR.get at he;simp only at he;cases hb:Nat.beq t t' with
  | false=>rw [hb] at he; cases he
  | true =>
   rw [hb] at he;have:=J9 hb;subst this;cases he
   exact h
 | .nd m l r,h=>by
  intro t' i' he;have hl:=QW (T:=l) h.1 t' i';have hr:=QW (T:=r) h.2 t' i';unfold TR.get at he hl hr;simp only at he;cases hb:Nat.ble m t' with
  | false=>rw [hb] at he; exact hl he
  | true=>rw [hb] at he; exact hr he
def ev (U:Nat->AV):Operand->AV
 | .tmp t=>U t
 | .const v=>cv v
 | .global _=>.u
 | .func f=>.f f [] []
def ER (σ:Nat->Value) (φ:Phi) (U:Nat->AV) (e:En):Prop:=∀ t,VR σ φ (U t) (e.get t)
theorem Ah {U:Nat->AV} {e:En} (h:ER σ φ U e) (x:Operand):VR σ φ (ev U x) (e.ev x):=by
 cases x with
 | tmp t=>exact h t
 | const v=>exact j3b v
 | global g=>simp only [ev,VR]
 | func f=>simp only [ev,En.ev,VR,VRl]; exact ⟨_,_,rfl,rfl,rfl⟩
theorem Gl {U:Nat->AV} {e:En} (h:ER σ φ U e):∀ (l:List Operand),VRl σ φ (l.map (ev U)) (l.map e.ev)
 | []=>by simp [VRl]
 | x :: l=>by simp only [Jz,VRl]; exact ⟨_,_,rfl,Ah h x,Gl h l⟩
def WN (p:AV) (k:AV->Bool):Bool:=p.yd (fun i o=>k (.p i o)) false
theorem Cc {p:AV} {w:Value} {k:Id->Nat->Bool} (hp:VR σ φ p w) (hk:p.yd k false=true):∃ i o e,p=.p i o/\φ i=some e/\w=.pointer (some ⟨e.r,e.s + o,none⟩)/\k i o=true:=by
 rcases AV.yp p k false with ⟨i,o,rfl,e⟩ | e
 ·rw [e] at hk;simp only [VR] at hp;obtain ⟨x,h1,h2⟩:=hp;exact ⟨i,o,x,rfl,h1,h2,hk⟩
 ·rw [e] at hk; cases hk
theorem Tz {p:AV} {w:Value} {k:AV->Bool} (hp:VR σ φ p w) (hk:WN p k=true):∃ v r,Qe w=some r/\VR σ φ v r/\k v=true:=by
 obtain ⟨i,o,e,rfl,h1,rfl,h2⟩:=Cc hp hk;exact ⟨.p i o,_,rfl,by simp only [VR]; exact ⟨e,h1,rfl⟩,h2⟩
def j1n (x:AV) (k:AV->Bool):Bool:=x.y0 (fun b=>k (.b (@Bool.rec (fun _=>Bool) true false b))) false
theorem Cx {p:AV} {w:Value} {k:Bool->Bool} (hp:VR σ φ p w) (hk:p.y0 k false=true):∃ b,p=.b b/\w=.bool b/\k b=true:=by
 rcases AV.nu p k false with ⟨b,rfl,e⟩ | e
 ·rw [e] at hk;simp only [VR] at hp;exact ⟨b,rfl,hp,hk⟩
 ·rw [e] at hk; cases hk
theorem Tx {p:AV} {w:Value} {k:AV->Bool} (hp:VR σ φ p w) (hk:j1n p k=true):∃ v r,unV .not w=some r/\VR σ φ v r/\k v=true:=by
 obtain ⟨b,rfl,rfl,h⟩:=Cx hp hk;exact ⟨_,_,rfl,by simp only [VR]; cases b <;> rfl,h⟩
def j1p (x:AV) (k:AV->Bool):Bool:=x.int fun g a=>mkI g (g.wrap (0 - a)) k
theorem TD {p:AV} {w:Value} {k:AV->Bool} (hp:VR σ φ p w) (hk:j1p p k=true):∃ v r,unV .neg w=some r/\VR σ φ v r/\k v=true:=by
 obtain ⟨g,x,rfl,h⟩:=AV.zh hp hk;obtain ⟨v,h1,h2⟩:=Hy (σ:=σ) (φ:=φ) h;exact ⟨v,_,rfl,h1,h2⟩
def Rs (c a b:AV) (k:AV->Bool):Bool:=c.y0 (fun x=>@Bool.rec (fun _=>Bool) (k b) (k a) x) false
theorem Rr {c a b:AV} {wc wa wb:Value} {k:AV->Bool} (hc:VR σ φ c wc) (ha:VR σ φ a wa) (hb:VR σ φ b wb) (hk:Rs c a b k=true):∃ v r,N3 wc wa wb=some r/\VR σ φ v r/\k v=true:=by
 obtain ⟨x,rfl,rfl,h⟩:=Cx hc hk;cases x with
 | true=>exact ⟨a,wa,rfl,ha,h⟩
 | false=>exact ⟨b,wb,rfl,hb,h⟩
def j5q (d:Nat) (k:AV->Bool) (i:Id) (o:Nat):Bool:=k (.p i (Nat.add o d))
def j2t (p:AV) (d:Nat) (k:AV->Bool):Bool:=p.yd (j5q d k) false
theorem Ub {p:AV} {w:Value} {d:Nat} {k:AV->Bool} (hp:VR σ φ p w) (hk:j2t p d k=true):∃ v a,w=.pointer (some a)/\VR σ φ v (.pointer (some (a.add d)))/\k v=true:=by
 obtain ⟨i,o,e,rfl,h1,rfl,h2⟩:=Cc hp hk;refine ⟨_,_,rfl,?_,h2⟩;simp only [VR,AS];exact ⟨e,h1,by rw [Zs]; rfl⟩
def j5g (k:Nat->Bool) (g:IntKind) (x:Int):Bool:=@Int.rec (fun _=>Bool) k (fun _=>false) x
def idx (i:AV) (k:Nat->Bool):Bool:=i.ye k (i.ui (j5g k) false)
theorem AY {i:AV} {w:Value} {k:Nat->Bool} (hi:VR σ φ i w) (hk:idx i k=true):∃ g n,w=.int g (n:Nat)/\k n=true:=by
 change i.ye k (i.ui (fun _ x=>@Int.rec (fun _=>Bool) k (fun _=>false) x) false)=true at hk;cases i with
 | n x=>simp only [VR] at hi; exact ⟨_,x,hi.1,hk⟩
 | z g x =>
  simp only [VR] at hi;cases x with
  | ofNat m=>exact ⟨g,m,hi,hk⟩
  | negSucc m=>cases hk
 | _=>cases hk
def j5i (z:Nat) (k:AV->Bool) (d:Id) (o len j:Nat):Bool:=ifB (Nat.blt j len) (k (.p d (Nat.add o (Nat.mul j z)))) false
def j5h (z:Nat) (i:AV) (k:AV->Bool) (d:Id) (o len cap z':Nat) (ex:Bool):Bool:=idx i (j5i z k d o len)
def j2j (q:AV) (z:Nat) (i:AV) (k:AV->Bool):Bool:=q.yl (j5h z i k) false
theorem Gd {q:AV} {w:Value} {k:Id->Nat->Nat->Nat->Nat->Bool->Bool} (hq:VR σ φ q w) (hk:q.yl k false=true):∃ d o len cap z ex e x c,q=.q d o len cap z ex/\φ d=some e/\w=.slice (some ⟨e.r,x,none⟩) len c/\(len<=cap/\cap < 9223372036854775808)/\cap<=c /\
  (x + c * z<=e.n/\(c ≠ 0->x + c * z=e.n))/\(cap ≠ 0\/ex=true->x=e.s + o)/\(ex=true->c=cap)/\k d o len cap z ex=true:=by
 rcases AV.zw q k false with ⟨d,o,len,cap,z,ex,rfl,e⟩ | e
 ·rw [e] at hk
  simp only [VR] at hq
  obtain ⟨e,x,c,h1,h2,h3,h4,h5,h6,h7⟩:=hq
  exact ⟨d,o,len,cap,z,ex,e,x,c,rfl,h1,h2,h3,h4,h5,h6,h7,hk⟩
 ·rw [e] at hk; cases hk
theorem U3 {q i:AV} {w wi:Value} {z t:Nat} {k:AV->Bool} (hz:BP P t=some z) (hq:VR σ φ q w) (hi:VR σ φ i wi) (hk:j2j q z i k=true):∃ v r,D7 P t w wi=some r/\VR σ φ v r/\k v=true:=by
 obtain ⟨d,o,len,cap,z',ex,e,x,c,rfl,h1,rfl,h3,h4,h5,h6,h7,hk⟩:=Gd hq hk;obtain ⟨g,n,rfl,hk⟩:=AY hi hk;obtain ⟨hlt,hk⟩:=Ab hk;have hlt:=Cd hlt;refine ⟨_,.pointer (some ⟨e.r,x + n * z,none⟩),?_,?_,hk⟩
 ·simp only [D7,hz,J0];rw [Ca (by omega),AS];rfl
 ·simp only [VR];refine ⟨e,h1,?_⟩;rw [h6 (.inl (by omega)),Zs];rfl
def j2i (p:AV) (n z:Nat) (i:AV) (k:AV->Bool):Bool:=p.yd (fun d o=>idx i fun j=>ifB (Nat.blt j n) (k (.p d (Nat.add o (Nat.mul j z)))) false) false
theorem U2 {q i:AV} {w wi:Value} {m z t:Nat} {k:AV->Bool} (hz:Iw P t=some (m,z)) (hq:VR σ φ q w) (hi:VR σ φ i wi) (hk:j2i q m z i k=true):∃ v r,D7 P t w wi=some r/\VR σ φ v r/\k v=true:=by
 obtain ⟨d,o,e,rfl,h1,rfl,hk⟩:=Cc hq hk;obtain ⟨g,n,rfl,hk⟩:=AY hi hk;obtain ⟨hlt,hk⟩:=Ab hk;have hlt:=Cd hlt;refine ⟨_,.pointer (some ⟨e.r,e.s + o + n * z,none⟩),?_,?_,hk⟩
 ·simp only [D7,hz,J0];rw [Ca (by omega),AS];rfl
 ·simp only [VR];refine ⟨e,h1,?_⟩;rw [Zs];rfl
def M0 (l:List AV) (n:Nat) (k:AV->Bool):Bool:=@Nat.rec (fun _=>List AV->Bool) (fun l=>@List.rec AV (fun _=>Bool) false (fun v _ _=>k v) l) (fun _ ih l=>@List.rec AV (fun _=>Bool) false (fun _ l _=>ih l) l) n l
theorem D1 {k:AV->Bool}:∀ {n:Nat} {l:List AV},M0 l n k=true->∃ v,l[n]?=some v/\k v=true
 | 0,[],h=>by cases h
 | 0,v :: l,h=>⟨v,rfl,h⟩
 | n + 1,[],h=>by cases h
 | n + 1,v :: l,h=>by obtain ⟨w,h1,h2⟩:=D1 (n:=n) (l:=l) h; exact ⟨w,by simpa using h1,h2⟩
def Uh (t:AV) (i:Nat) (k:AV->Bool):Bool:=t.qb (fun l=>M0 l i k) false
theorem Ug {t:AV} {w:Value} {i:Nat} {k:AV->Bool} (ht:VR σ φ t w) (hk:Uh t i k=true):∃ v r,K9 w i=some r/\VR σ φ v r/\k v=true:=by
 unfold Uh at hk;rcases AV.nj t (fun l=>M0 l i k) false with ⟨l,rfl,e⟩ | e
 ·rw [e] at hk;obtain ⟨v,h1,h2⟩:=D1 hk;simp only [VR] at ht;obtain ⟨c,rfl,hc⟩:=ht;obtain ⟨r,h3,h4⟩:=hc.get h1;exact ⟨v,r,by simpa [K9] using h3,h4,h2⟩
 ·rw [e] at hk; cases hk
def j2v (a:AV) (d:Nat) (k:AV->Bool):Bool:=a.xp (fun l=>M0 l d k) false
theorem Dw {a:AV} {w:Value} {k:List AV->Bool} (ha:VR σ φ a w) (hk:a.xp k false=true):∃ l c,a=.a l/\w=.agg c/\VRl σ φ l c.toList/\k l=true:=by
 rcases AV.um a k false with ⟨l,rfl,e⟩ | e
 ·rw [e] at hk;simp only [VR] at ha;obtain ⟨c,h1,h2⟩:=ha;exact ⟨l,c,rfl,h1,h2,hk⟩
 ·rw [e] at hk; cases hk
theorem Ud {a:AV} {w:Value} {t f d ft:Nat} {k:AV->Bool} (hf:DQ P t f=some (d,ft)) (hg:CX P ft=some none) (ha:VR σ φ a w) (hk:j2v a d k=true):∃ v r,Gk P t w f=some r/\VR σ φ v r/\k v=true:=by
 obtain ⟨l,c,rfl,rfl,hc,hk⟩:=Dw ha hk;obtain ⟨v,h1,h2⟩:=D1 hk;obtain ⟨r,h3,h4⟩:=hc.get h1;exact ⟨v,r,by simp only [Gk,hf,J0,GK,hg]; simpa using h3,h4,h2⟩
def j2u (a:AV) (d n:Nat) (k:AV->Bool):Bool:=a.xp (fun l=>k (.a ((l.drop d).take n))) false
theorem VRl.drop:∀ {n:Nat} {l:List AV} {ws:List Value},VRl σ φ l ws->VRl σ φ (l.drop n) (ws.drop n)
 | 0,l,ws,h=>h
 | n + 1,[],ws,h=>by simp only [VRl] at h; subst h; simp [VRl]
 | n + 1,v :: l,ws,h=>by
  simp only [VRl] at h;obtain ⟨w,ws',rfl,_,h3⟩:=h;exact VRl.drop (n:=n) h3
theorem VRl.take:∀ {n:Nat} {l:List AV} {ws:List Value},VRl σ φ l ws->VRl σ φ (l.take n) (ws.take n)
 | 0,l,ws,h=>by simp [VRl]
 | n + 1,[],ws,h=>by simp only [VRl] at h; subst h; simp [VRl]
 | n + 1,v :: l,ws,h=>by
  simp only [VRl] at h;obtain ⟨w,ws',rfl,h2,h3⟩:=h;simp only [X3,VRl];exact ⟨w,_,rfl,h2,VRl.take (n:=n) h3⟩
theorem Uc {a:AV} {w:Value} {t f d ft n:Nat} {k:AV->Bool} (hf:DQ P t f=some (d,ft)) (hg:CX P ft=some (some n)) (ha:VR σ φ a w) (hk:j2u a d n k=true):∃ v r,Gk P t w f=some r/\VR σ φ v r/\k v=true:=by
 obtain ⟨l,c,rfl,rfl,hc,hk⟩:=Dw ha hk;refine ⟨_,.agg (c.extract d (d + n)),by simp only [Gk,hf,J0,GK,hg],?_,hk⟩;simp only [VR];refine ⟨_,rfl,?_⟩;have:=(hc.drop (n:=d)).take (n:=n);simpa [Array.toList_extract,List.extract_eq_take_drop] using this
end
open Go.HL
variable {σ:Nat->Value} {F:Nat->Option Obj} {φ:Phi} {A:AH} {H:A3} {P:Program} {V:HV}
section
def slG (z l h:Nat) (k:AV->Bool) (d:Id) (o len cap z':Nat) (ex:Bool):Bool :=
 ifB (Nat.beq z z') (ifB (Nat.ble h cap) (ifB (Nat.ble l h) (frc (Nat.sub h l) fun n=>frc (Nat.sub cap l) fun c=>frc (@Bool.rec (fun _=>Nat) (Nat.add o (Nat.mul l z)) o (Nat.beq c 0)) fun o=>k (.q d o n c z ex)) false) false) false
def Dx (q:AV) (x:Bool):Bool:=q.yg (fun g=>ifB (Nat.beq g 1) x false) false
def VT (q:AV) (z:Nat) (hi:AV) (k:AV->Bool):Bool:=q.yl (fun d o len cap z' ex=>idx hi fun h=>slG z 0 h k d o len cap z' ex) (Dx q (idx hi fun h=>ifB (Nat.beq h 0) (k (.nil 1)) false))
def VQ (q:AV) (z:Nat) (lo:AV) (k:AV->Bool):Bool:=q.yl (fun d o len cap z' ex=>idx lo fun l=>slG z l len k d o len cap z' ex) (Dx q (idx lo fun h=>ifB (Nat.beq h 0) (k (.nil 1)) false))
def VS (q:AV) (z:Nat) (lo hi:AV) (k:AV->Bool):Bool:=q.yl (fun d o len cap z' ex=>idx hi fun h=>idx lo fun l=>slG z l h k d o len cap z' ex) false
theorem O7 {z l h:Nat} {k:AV->Bool} {d:Id} {o len cap z':Nat} {ex:Bool} {e:Ent} {x c:Nat} (h3:len<=cap/\cap < 9223372036854775808) (h1:φ d=some e) (h4:cap<=c) (h5:x + c * z'<=e.n/\(c ≠ 0->x + c * z'=e.n)) (h6:cap ≠ 0\/ex=true->x=e.s + o) (h7:ex=true->c=cap)
  (hk:slG z l h k d o len cap z' ex=true):h<=c/\l<=h/\∃ v,VR σ φ v (.slice (if c=l then some ⟨e.r,x,none⟩ else some ⟨e.r,x + l * z,none⟩) (h - l) (c - l))/\k v=true:=by
 unfold slG at hk
 obtain ⟨a1,ka⟩:=Ab hk
 obtain ⟨a2,kb⟩:=Ab ka
 obtain ⟨a3,kc⟩:=Ab kb
 rw [Bw,Bw,Bw] at kc
 have g1:=J9 a1
 have g2:=Ja a2
 have g3:=Ja a3
 clear hk ka kb a1 a2 a3
 subst g1
 refine ⟨by omega,g3,_,?_,kc⟩
 simp only [VR,Nat.sub_eq,Wk,W3]
 by_cases hc:c=l
 ·rw [J8 hc]
  have hb:Nat.beq (cap - l) 0=true:=by rw [show cap - l=0 by omega]; rfl
  rw [hb]
  exact ⟨e,x,c - l,h1,rfl,by omega,by omega,by rw [show c - l=0 by omega]; have:=h5.1; omega,fun hh=>hh.elim (fun hh=>by omega) (fun hh=>h6 (.inr hh)),fun hx=>by have:=h7 hx; omega⟩
 ·rw [J4 hc]
  refine ⟨e,x + l * z,c - l,h1,rfl,by omega,by omega,?_,?_,fun hx=>by have:=h7 hx; omega⟩
  ·have:l * z + (c - l) * z=c * z:=by rw [<- Y4]; congr 1; omega
   omega
  ·intro hh
   have hcl:cap - l ≠ 0:=by
    rcases hh with hh | hh
    ·exact hh
    ·have:=h7 hh; omega
   have hb:Nat.beq (cap - l) 0=false:=by
    cases he:cap - l with
    | zero=>exact absurd he hcl
    | succ _=>rfl
   rw [hb]
   show x + l * z=e.s + (o + l * z)
   have:=h6 (.inl (by omega))
   rw [this]; omega
theorem Ta {q hi:AV} {w wh:Value} {t z:Nat} {k:AV->Bool} (hz:BP P t=some z) (hq:VR σ φ q w) (hh:VR σ φ hi wh) (hk:VT q z hi k=true):∃ v r,Be P t w none (some wh) none=some r/\VR σ φ v r/\k v=true:=by
 unfold VT at hk;rcases AV.zw q (fun d o len cap z' ex=>idx hi fun h=>slG z 0 h k d o len cap z' ex) (Dx q (idx hi fun h=>ifB (Nat.beq h 0) (k (.nil 1)) false)) with ⟨d,o,len,cap,z',ex,rfl,e⟩ | e
 ·rw [e] at hk;simp only [VR] at hq;obtain ⟨e,x,c,h1,rfl,h3,h4,h5,h6,h7⟩:=hq;obtain ⟨g,n,rfl,hk⟩:=AY hh hk;obtain ⟨g1,g2,v,hv,hk⟩:=O7 h3 h1 h4 h5 h6 h7 hk;refine ⟨v,_,?_,hv,hk⟩;rw [KU,hz,J0,Ca (by omega)];simp
 ·rw [e] at hk;unfold Dx at hk;rcases AV.zq q (fun g=>ifB (Nat.beq g 1) (idx hi fun h=>ifB (Nat.beq h 0) (k (.nil 1)) false) false) false with ⟨g,rfl,e'⟩ | e'
  ·rw [e'] at hk;obtain ⟨g1,hk⟩:=Ab hk;have g1:=J9 g1;subst g1;simp only [VR,EY] at hq;subst hq;obtain ⟨g,n,rfl,hk⟩:=AY hh hk;obtain ⟨g2,hk⟩:=Ab hk;have g2:=J9 g2;subst g2;refine ⟨.nil 1,.slice none 0 0,?_,by simp only [VR,EY],hk⟩;rw [KU,hz,J0,Ca (by omega)];rfl
  ·rw [e'] at hk; cases hk
theorem T8 {q hi:AV} {w wh:Value} {t z:Nat} {k:AV->Bool} (hz:BP P t=some z) (hq:VR σ φ q w) (hh:VR σ φ hi wh) (hk:VQ q z hi k=true):∃ v r,Be P t w (some wh) none none=some r/\VR σ φ v r/\k v=true:=by
 unfold VQ at hk;rcases AV.zw q (fun d o len cap z' ex=>idx hi fun h=>slG z h len k d o len cap z' ex) (Dx q (idx hi fun h=>ifB (Nat.beq h 0) (k (.nil 1)) false)) with ⟨d,o,len,cap,z',ex,rfl,e⟩ | e
 ·rw [e] at hk;simp only [VR] at hq;obtain ⟨e,x,c,h1,rfl,h3,h4,h5,h6,h7⟩:=hq;obtain ⟨g,n,rfl,hk⟩:=AY hh hk;obtain ⟨g1,g2,v,hv,hk⟩:=O7 h3 h1 h4 h5 h6 h7 hk;refine ⟨v,_,?_,hv,hk⟩;rw [KS,hz,J0,Ca (by omega)];simp only [Z4,Ju,AS]
 ·rw [e] at hk;unfold Dx at hk;rcases AV.zq q (fun g=>ifB (Nat.beq g 1) (idx hi fun h=>ifB (Nat.beq h 0) (k (.nil 1)) false) false) false with ⟨g,rfl,e'⟩ | e'
  ·rw [e'] at hk;obtain ⟨g1,hk⟩:=Ab hk;have g1:=J9 g1;subst g1;simp only [VR,EY] at hq;subst hq;obtain ⟨g,n,rfl,hk⟩:=AY hh hk;obtain ⟨g2,hk⟩:=Ab hk;have g2:=J9 g2;subst g2;refine ⟨.nil 1,.slice none 0 0,?_,by simp only [VR,EY],hk⟩;rw [KS,hz,J0,Ca (by omega)];rfl
  ·rw [e'] at hk; cases hk
theorem T9 {q lo hi:AV} {w wl wh:Value} {t z:Nat} {k:AV->Bool} (hz:BP P t=some z) (hq:VR σ φ q w) (hl:VR σ φ lo wl) (hh:VR σ φ hi wh) (hk:VS q z lo hi k=true):∃ v r,Be P t w (some wl) (some wh) none=some r/\VR σ φ v r/\k v=true:=by
 unfold VS at hk;obtain ⟨d,o,len,cap,z',ex,e,x,c,rfl,h1,rfl,h3,h4,h5,h6,h7,hk⟩:=Gd hq hk;obtain ⟨g,n,rfl,hk⟩:=AY hh hk;obtain ⟨g',m,rfl,hk⟩:=AY hl hk;obtain ⟨g1,g2,v,hv,hk⟩:=O7 h3 h1 h4 h5 h6 h7 hk;refine ⟨v,_,?_,hv,hk⟩;rw [MG,hz,J0,Ca (by omega),Ca (by omega)];simp only [Z4,Ju,AS]
def E7 {α:Type} (l:List α):Nat:=@List.rec α (fun _=>Nat) 0 (fun _ _ ih=>Nat.succ ih) l
theorem BH {α:Type} (l:List α):E7 l=l.length:=by induction l with
 | nil=>rfl
 | cons a l ih=>show Nat.succ (E7 l)=_; rw [ih]; rfl
def eqL (l l':List Nat):Bool:=@List.rec Nat (fun _=>List Nat->Bool) (fun l'=>@List.rec Nat (fun _=>Bool) true (fun _ _ _=>false) l') (fun x _ ih l'=>@List.rec Nat (fun _=>Bool) false (fun y l' _=>ifB (Nat.beq x y) (ih l') false) l') l l'
theorem HT:∀ (l l':List Nat),eqL l l'=decide (l=l')
 | [],[]=>rfl
 | [],_ :: _=>rfl
 | _ :: _,[]=>rfl
 | x :: l,y :: l'=>by
  show ifB (Nat.beq x y) (eqL l l') false=_;rw [HT l l',OD];by_cases h:x=y
  ·subst h; simp
  ·have:Nat.beq x y=false:=(by rw [Mt]; simp [h]);rw [this]; simp [h]
theorem AT {p:AV} {w:Value} {k:List Nat->Bool} (hp:VR σ φ p w) (hk:p.yk k false=true):∃ l,p=.s l/\w=.string ⟨(l.map UInt8.ofNat).toArray⟩/\(∀ x ∈ l,x < 256)/\k l=true:=by
 rcases AV.nk p k false with ⟨l,rfl,e⟩ | e
 ·rw [e] at hk;simp only [VR] at hp;obtain ⟨bs,rfl,h2⟩:=hp;refine ⟨l,rfl,?_,?_,hk⟩
  ·subst h2;congr 1;obtain ⟨d⟩:=bs;congr 1;apply Zk;simp only [V9];have:(UInt8.ofNat ∘ UInt8.toNat)=id:=(by funext u; simp);rw [this]; simp
  ·subst h2;intro x hx;simp only [Ji] at hx;obtain ⟨u,_,rfl⟩:=hx;exact u.toNat_lt
 ·rw [e] at hk; cases hk
def Bb (l:List Nat):ByteArray:=⟨(l.map UInt8.ofNat).toArray⟩
theorem Gs {l:List Nat} (h:∀ x ∈ l,x < 256):VR σ φ (.s l) (.string (Bb l)):=by
 simp only [VR];refine ⟨_,rfl,?_⟩;simp only [Bb,V9];apply Y9;intro i;simp only [Z0];cases hi:l[i]? with
 | none=>rfl
 | some x =>
  simp only [Ju,Function.comp];rw [UInt8.toNat_ofNat'];rw [Xs (h x (J2 hi))]
theorem Hk {a b:List Nat} (ha:∀ x ∈ a,x < 256) (hb:∀ x ∈ b,x < 256):Bb a=Bb b↔a=b:=by
 constructor
 ·intro h;have e:∀ l:List Nat,(∀ x ∈ l,x < 256)->(Bb l).data.toList.map UInt8.toNat=l:=by
   intro l hl;have:=Gs (σ:=fun _=>.nilFunc) (φ:=fun _=>none) hl;simp only [VR] at this;obtain ⟨bs,h1,h2⟩:=this;simp only [Value.string.injEq] at h1;rw [h1]; exact h2
  rw [<- e a ha,<- e b hb,h]
 ·rintro rfl; rfl
theorem IV (l:List Nat):(Bb l).size=l.length:=by simp [Bb,ByteArray.size]
def VW (x y:AV) (k:AV->Bool):Bool:=x.yk (fun a=>y.yk (fun b=>k (.b (eqL a b))) false) false
def VK (x y:AV) (k:AV->Bool):Bool:=x.yk (fun a=>y.yk (fun b=>k (.b (@Bool.rec (fun _=>Bool) true false (eqL a b)))) false) false
theorem Ln (a b:List Nat) (ha:∀ x ∈ a,x < 256) (hb:∀ x ∈ b,x < 256):((Bb a).toList == (Bb b).toList)=decide (a=b):=by
 have e:∀ l:List Nat,Bb l=bs (l.map UInt8.ofNat):=fun l=>rfl;rw [e,e,IQ,IQ];have h:=Hk ha hb;rw [e,e,YL] at h;by_cases hab:a=b
 ·subst hab; simp
 ·rw [Zi hab];have:¬ a.map UInt8.ofNat=b.map UInt8.ofNat:=fun x=>hab (h.1 x);exact beq_eq_false_iff_ne.2 this
theorem P8:Ck P .eql VW:=by
 intro σ φ V t xo yo x y w w' k hx hy hk;obtain ⟨a,rfl,rfl,ha,hk⟩:=AT hx hk;obtain ⟨b,rfl,rfl,hb,hk⟩:=AT hy hk;refine ⟨.bool (decide (a=b)),.b (eqL a b),?_,by simp only [VR,HT],hk⟩;show some (Value.bool ((Bb a).toList == (Bb b).toList))=_;rw [Ln a b ha hb]
theorem P5:Ck P .neq VK:=by
 intro σ φ V t xo yo x y w w' k hx hy hk;obtain ⟨a,rfl,rfl,ha,hk⟩:=AT hx hk;obtain ⟨b,rfl,rfl,hb,hk⟩:=AT hy hk;refine ⟨.bool (!(decide (a=b))),_,?_,?_,hk⟩
 ·show some (Value.bool (!((Bb a).toList == (Bb b).toList)))=_;rw [Ln a b ha hb]
 ·simp only [VR,HT];cases decide (a=b) <;> rfl
def EB {α:Type} (l l':List α):List α:=@List.rec α (fun _=>List α) l' (fun x _ ih=>x :: ih) l
theorem EA {α:Type} (l l':List α):EB l l'=l ++ l':=by induction l with
 | nil=>rfl
 | cons a l ih=>show a :: EB l l'=_; rw [ih]; rfl
def R5 (x y:AV) (k:AV->Bool):Bool:=x.yk (fun a=>y.yk (fun b=>ifB (Nat.blt (Nat.add (E7 a) (E7 b)) 1000000) (k (.s (EB a b))) false) false) false
theorem ML:Ck P .add R5:=by
 intro σ φ V t xo yo x y w w' k hx hy hk;obtain ⟨a,rfl,rfl,ha,hk⟩:=AT hx hk;obtain ⟨b,rfl,rfl,hb,hk⟩:=AT hy hk;obtain ⟨h1,hk⟩:=Ab hk;have h1:=Cd h1;simp only [BH,Wk] at h1;refine ⟨.string (Bb (a ++ b)),_,?_,?_,hk⟩
 ·show Ly .add (Bb a) (Bb b)=_;simp only [Ly,IV];rw [J4 (by simp [IntKind.max,IntKind.signed,IntKind.bits]; omega)];have e:∀ l:List Nat,Bb l=bs (l.map UInt8.ofNat):=fun l=>rfl;rw [e,e,e,QJ,Zf]
 ·rw [EA];exact Gs (by intro x hx; rcases Jh.1 hx with h | h; exact ha x h; exact hb x h)
def j1m (l:List Nat) (n:Nat) (k:Nat->Bool):Bool:=@Nat.rec (fun _=>List Nat->Bool) (fun l=>@List.rec Nat (fun _=>Bool) false (fun v _ _=>k v) l) (fun _ ih l=>@List.rec Nat (fun _=>Bool) false (fun _ l _=>ih l) l) n l
theorem JU {k:Nat->Bool}:∀ {n:Nat} {l:List Nat},j1m l n k=true->∃ v,l[n]?=some v/\k v=true
 | 0,[],h=>by cases h
 | 0,v :: l,h=>⟨v,rfl,h⟩
 | n + 1,[],h=>by cases h
 | n + 1,v :: l,h=>by obtain ⟨w,h1,h2⟩:=JU (n:=n) (l:=l) h; exact ⟨w,by simpa using h1,h2⟩
def EL (s i:AV) (k:AV->Bool):Bool:=s.yk (fun l=>idx i fun j=>j1m l j fun x=>k (.z .u8 (Int.ofNat x))) false
theorem Tc {s i:AV} {w wi:Value} {t:Nat} {k:AV->Bool} (ht:P.underlying t=some .string) (hs:VR σ φ s w) (hi:VR σ φ i wi) (hk:EL s i k=true):∃ v r,Es P t w wi=some r/\VR σ φ v r/\k v=true:=by
 obtain ⟨l,rfl,rfl,hl,hk⟩:=AT hs hk;obtain ⟨g,n,rfl,hk⟩:=AY hi hk;obtain ⟨x,h1,hk⟩:=JU hk;have hlt:=(J3.1 h1).1;refine ⟨_,.int .u8 (x:Int),?_,by simp only [VR]; rfl,hk⟩;show Es P t (.string (bs (l.map UInt8.ofNat))) _=_;rw [PS ht,Ca (by simp; omega)];simp only [Z4];have e:bt8 (l.map UInt8.ofNat) n=UInt8.ofNat x:=by
  have:=YK (l:=l.map UInt8.ofNat) (i:=n) (by simpa using hlt);rw [Z0,h1] at this;simpa using this.symm
 rw [e];show some (Value.int .u8 ((UInt8.ofNat x).toNat:Int))=_;rw [UInt8.toNat_ofNat',Xs (hl x (J2 h1))]
def Vy (s:AV) (f:List Nat->(Nat->Nat->Bool)->Bool) (k:AV->Bool):Bool:=s.yk (fun l=>f l fun a b=>ifB (Nat.ble b (E7 l)) (ifB (Nat.ble a b) (k (.s ((l.take b).drop a))) false) false) false
def j0m (s hi:AV) (k:AV->Bool):Bool:=Vy s (fun _ r=>idx hi fun h=>r 0 h) k
def j0k (s lo:AV) (k:AV->Bool):Bool:=Vy s (fun l r=>idx lo fun a=>r a (E7 l)) k
def j0l (s lo hi:AV) (k:AV->Bool):Bool:=Vy s (fun _ r=>idx lo fun a=>idx hi fun h=>r a h) k
theorem OU {l:List Nat} {a b:Nat} (hl:∀ x ∈ l,x < 256):VR σ φ (.s ((l.take b).drop a)) (.string (bs (((l.map UInt8.ofNat).take b).drop a))):=by
 have:bs (((l.map UInt8.ofNat).take b).drop a)=Bb ((l.take b).drop a):=by
  show _=bs _;simp [List.map_drop,List.map_take]
 rw [this];exact Gs fun x hx=>hl x (Yp (Wu hx))
theorem T3 {s lo:AV} {w wl:Value} {t:Nat} {k:AV->Bool} (ht:P.underlying t=some .string) (hs:VR σ φ s w) (hl:VR σ φ lo wl) (hk:j0k s lo k=true):∃ v r,Be P t w (some wl) none none=some r/\VR σ φ v r/\k v=true:=by
 obtain ⟨l,rfl,rfl,hb,hk⟩:=AT hs hk;obtain ⟨g,n,rfl,hk⟩:=AY hl hk;obtain ⟨g1,hk⟩:=Ab hk;obtain ⟨g2,hk⟩:=Ab hk;have g2:=Ja g2;rw [BH] at g2;refine ⟨_,_,?_,OU hb,hk⟩;show Be P t (.string (bs (l.map UInt8.ofNat))) _ _ _=_;rw [VB ht,Ca (by simp; omega)];rw [BH,Yg (by simp)];simp
theorem T5 {s lo:AV} {w wl:Value} {t:Nat} {k:AV->Bool} (ht:P.underlying t=some .string) (hs:VR σ φ s w) (hl:VR σ φ lo wl) (hk:j0m s lo k=true):∃ v r,Be P t w none (some wl) none=some r/\VR σ φ v r/\k v=true:=by
 obtain ⟨l,rfl,rfl,hb,hk⟩:=AT hs hk;obtain ⟨g,n,rfl,hk⟩:=AY hl hk;obtain ⟨g1,hk⟩:=Ab hk;obtain ⟨g2,hk⟩:=Ab hk;have g1:=Ja g1;rw [BH] at g1;refine ⟨_,_,?_,OU hb,hk⟩;show Be P t (.string (bs (l.map UInt8.ofNat))) _ _ _=_;rw [VC ht,Ca (by simp; omega)];simp
theorem T4 {s lo hi:AV} {w wl wh:Value} {t:Nat} {k:AV->Bool} (ht:P.underlying t=some .string) (hs:VR σ φ s w) (hl:VR σ φ lo wl) (hh:VR σ φ hi wh) (hk:j0l s lo hi k=true):∃ v r,Be P t w (some wl) (some wh) none=some r/\VR σ φ v r/\k v=true:=by
 obtain ⟨l,rfl,rfl,hb,hk⟩:=AT hs hk;obtain ⟨g,n,rfl,hk⟩:=AY hl hk;obtain ⟨g',m,rfl,hk⟩:=AY hh hk;obtain ⟨g1,hk⟩:=Ab hk;obtain ⟨g2,hk⟩:=Ab hk;have g1:=Ja g1;have g2:=Ja g2;rw [BH] at g1;refine ⟨_,_,?_,OU hb,hk⟩;show Be P t (.string (bs (l.map UInt8.ofNat))) _ _ _=_;rw [SX ht];simp only [Jm];rw [Ca (by omega)];first | rw [Ca (by omega)] | skip
 all_goals first | rfl | simp
def j5c (k:AV->Bool) (i:Id) (o len cap z:Nat) (ex:Bool):Bool:=k (.n len)
def XB (q:AV) (k:AV->Bool):Bool:=q.yl (j5c k) (Dx q (k (.n 0)))
theorem Pk {q:AV} {w:Value} {t e:Nat} {k:AV->Bool} (he:AN P t=some e) (hq:VR σ φ q w) (hk:XB q k=true):∃ v r,F3 P V t w=some r/\VR σ φ v r/\k v=true:=by
 change q.yl (fun _ _ len _ _ _=>k (.n len)) (Dx q (k (.n 0)))=true at hk;rcases AV.zw q (fun _ _ len _ _ _=>k (.n len)) (Dx q (k (.n 0))) with ⟨d,o,len,cap,z',ex,rfl,e'⟩ | e'
 ·rw [e'] at hk;simp only [VR] at hq;obtain ⟨_,x,c,_,rfl,h1,_⟩:=hq;exact ⟨.n len,.int .i64 len,by simp only [F3,he]; rfl,by simp only [VR]; exact ⟨trivial,by omega⟩,hk⟩
 ·rw [e'] at hk;unfold Dx at hk;rcases AV.zq q (fun g=>ifB (Nat.beq g 1) (k (.n 0)) false) false with ⟨g,rfl,e''⟩ | e''
  ·rw [e''] at hk;obtain ⟨g1,hk⟩:=Ab hk;have g1:=J9 g1;subst g1;simp only [VR,EY] at hq;subst hq;exact ⟨.n 0,.int .i64 0,by simp only [F3,he]; rfl,by simp only [VR]; exact ⟨rfl,by omega⟩,hk⟩
  ·rw [e''] at hk; cases hk
def VO (s:AV) (k:AV->Bool):Bool:=s.yk (fun l=>frc (E7 l) fun n=>ifB (Nat.blt n 9223372036854775808) (k (.n n)) false) false
theorem P6 {q:AV} {w:Value} {t:Nat} {k:AV->Bool} (ht:P.underlying t=some .string) (hq:VR σ φ q w) (hk:VO q k=true):∃ v r,F3 P V t w=some r/\VR σ φ v r/\k v=true:=by
 obtain ⟨l,rfl,rfl,hb,hk⟩:=AT hq hk;rw [Bw] at hk;obtain ⟨h1,hk⟩:=Ab hk;have h1:=Cd h1;rw [BH] at h1 hk;refine ⟨.n l.length,.int .i64 l.length,?_,by simp only [VR]; exact ⟨trivial,by omega⟩,hk⟩;show F3 P V t (.string (bs (l.map UInt8.ofNat)))=_;rw [SY ht]; simp
def WU (x y:AV) (k:AV->Bool):Bool:=x.int fun g a=>y.int fun g' c=>ifB (Nat.beq (BM g) (BM g')) (ifB (ltI a c) (k y) (k x)) false
def WT (x y:AV) (k:AV->Bool):Bool:=x.int fun g a=>y.int fun g' c=>ifB (Nat.beq (BM g) (BM g')) (ifB (ltI c a) (k y) (k x)) false
theorem Pe {x y:AV} {w w':Value} {k:AV->Bool} (hx:VR σ φ x w) (hy:VR σ φ y w') (hk:WU x y k=true):∃ v r,FO w w'=some r/\VR σ φ v r/\k v=true:=by
 obtain ⟨g,a,rfl,hk⟩:=AV.zh hx hk;obtain ⟨g',c,rfl,hk⟩:=AV.zh hy hk;obtain ⟨h1,hf⟩:=Ab hk;clear hk;have:=CF h1;subst this;rw [Ge] at hf;by_cases h:a < c
 ·rw [Zx h] at hf;exact ⟨y,_,by simp only [FO]; rw [J8 h],hy,hf⟩
 ·rw [Zi h] at hf;exact ⟨x,_,by simp only [FO]; rw [J4 h],hx,hf⟩
theorem Pd {x y:AV} {w w':Value} {k:AV->Bool} (hx:VR σ φ x w) (hy:VR σ φ y w') (hk:WT x y k=true):∃ v r,JY w w'=some r/\VR σ φ v r/\k v=true:=by
 obtain ⟨g,a,rfl,hk⟩:=AV.zh hx hk;obtain ⟨g',c,rfl,hk⟩:=AV.zh hy hk;obtain ⟨h1,hf⟩:=Ab hk;clear hk;have:=CF h1;subst this;rw [Ge] at hf;by_cases h:c < a
 ·rw [Zx h] at hf;exact ⟨y,_,by simp only [JY]; rw [J8 h],hy,hf⟩
 ·rw [Zi h] at hf;exact ⟨x,_,by simp only [JY]; rw [J4 h],hx,hf⟩
def PA (g:IntKind) (x:AV) (k:AV->Bool):Bool:=x.int fun _ a=>mkI g (g.wrap a) k
theorem NI {x:AV} {w:Value} {s d:Nat} {g g':IntKind} {k:AV->Bool} (hs:P.underlying s=some (.int g')) (hd:P.underlying d=some (.int g)) (hx:VR σ φ x w) (hk:PA g x k=true):∃ v r,CS P V s d w=some r/\VR σ φ v r/\k v=true:=by
 obtain ⟨g0,a,rfl,hk⟩:=AV.zh hx hk;obtain ⟨v,h1,h2⟩:=Hy (σ:=σ) (φ:=φ) hk;exact ⟨v,_,by simp only [CS,hs,hd],h1,h2⟩
end
open Go.HL
variable {σ:Nat->Value} {F:Nat->Option Obj} {φ:Phi} {A:AH} {H:A3} {P:Program} {V:HV}
section
def hdL (l:List AV):AV:=@List.rec AV (fun _=>AV) .u (fun v _ _=>v) l
def tlL (l:List AV):List AV:=@List.rec AV (fun _=>List AV) [] (fun _ l _=>l) l
def R7 (l:List AV):N16 AV :=
 .mk (hdL l) (hdL (tlL l)) (hdL (tlL (tlL l))) (hdL (tlL (tlL (tlL l)))) (hdL (tlL (tlL (tlL (tlL l))))) (hdL (tlL (tlL (tlL (tlL (tlL l)))))) (hdL (tlL (tlL (tlL (tlL (tlL (tlL l)))))))
  (hdL (tlL (tlL (tlL (tlL (tlL (tlL (tlL l)))))))) (hdL (tlL (tlL (tlL (tlL (tlL (tlL (tlL (tlL l))))))))) (hdL (tlL (tlL (tlL (tlL (tlL (tlL (tlL (tlL (tlL l))))))))))
  (hdL (tlL (tlL (tlL (tlL (tlL (tlL (tlL (tlL (tlL (tlL l))))))))))) (hdL (tlL (tlL (tlL (tlL (tlL (tlL (tlL (tlL (tlL (tlL (tlL l))))))))))))
  (hdL (tlL (tlL (tlL (tlL (tlL (tlL (tlL (tlL (tlL (tlL (tlL (tlL l))))))))))))) (hdL (tlL (tlL (tlL (tlL (tlL (tlL (tlL (tlL (tlL (tlL (tlL (tlL (tlL l))))))))))))))
  (hdL (tlL (tlL (tlL (tlL (tlL (tlL (tlL (tlL (tlL (tlL (tlL (tlL (tlL (tlL l))))))))))))))) (hdL (tlL (tlL (tlL (tlL (tlL (tlL (tlL (tlL (tlL (tlL (tlL (tlL (tlL (tlL (tlL l))))))))))))))))
theorem Q4 (l:List AV) (n:Nat) (h:n < 16):Gb n (R7 l)=l.getD n .u:=by
 have hd:∀ l:List AV,hdL l=l.getD 0 .u:=fun l=>(by cases l <;> rfl);have tl:∀ (l:List AV) (i:Nat),(tlL l).getD i .u=l.getD (i + 1) .u:=fun l i=>(by cases l <;> simp [tlL]);have:n=0\/n=1\/n=2\/n=3\/n=4\/n=5\/n=6\/n=7\/n=8\/n=9\/n=10\/n=11\/n=12\/n=13\/n=14\/n=15:=(by omega);rcases this with rfl | rfl | rfl | rfl | rfl | rfl | rfl | rfl | rfl | rfl | rfl | rfl | rfl | rfl | rfl | rfl <;> (show hdL _=_; simp only [hd,tl])
def Gz (l:List AV) (n:Nat) (t:CT):CT:=@List.rec AV (fun _=>Nat->CT->CT) (fun _ t=>t) (fun v _ ih n t=>ih (Nat.succ n) (t.set n v)) l n t
theorem Hl:∀ (l:List AV) (n:Nat) (t:CT),(Gz l n t).room=t.room
 | [],_,_=>rfl
 | v :: l,n,t=>by show (Gz l (n + 1) (t.set n v)).room=_; rw [Hl,CT.xj]
theorem IX:∀ (l:List AV) (n:Nat) (t:CT),n + l.length<=t.room->∀ m,m < t.room->(Gz l n t).get m=if n<=m/\m < n + l.length then l.getD (m - n) .u else t.get m
 | [],n,t,_,m,_=>by simp [Gz]; intro h1 h2; omega
 | v :: l,n,t,h,m,hm=>by
  show (Gz l (n + 1) (t.set n v)).get m=_;simp only [Za] at h;rw [IX l (n + 1) (t.set n v) (by rw [CT.xj]; omega) m (by rw [CT.xj]; exact hm)];by_cases h1:m=n
  ·subst h1;rw [J4 (by omega),CT.zn,J8 (by simp)];simp
  ·rw [CT.ze (by omega) hm h1];by_cases h2:n + 1<=m/\m < n + 1 + l.length
   ·rw [J8 h2,J8 (by simp; omega)];rw [show m - n=(m - (n + 1)) + 1 by omega];simp
   ·rw [J4 h2,J4 (by simp; omega)]
def ctL (l:List AV):CT:=@Bool.rec (fun _=>CT) (Gz l 0 (CT.fill (E7 l) .u)) (.c1 (R7 l)) (Nat.ble (E7 l) 16)
theorem Ki (l:List AV) (h:l.length<=65536):l.length<=(ctL l).room:=by
 unfold ctL;rw [BH];cases hb:Nat.ble l.length 16 with
 | true=>have:=Ja hb; simpa [CT.room] using this
 | false=>show _<=(Gz _ _ _).room; rw [Hl]; exact CT.xn _ _ h
theorem Py (l:List AV) (h:l.length<=65536) (n:Nat) (hn:n < l.length):(ctL l).get n=l.getD n .u:=by
 have hr:=Ki l h;unfold ctL at hr ⊢;rw [BH] at hr ⊢;cases hb:Nat.ble l.length 16 with
 | true =>
  have:=Ja hb;show Gb n (R7 l)=_;exact Q4 l n (by omega)
 | false =>
  have hf:=CT.xn l.length .u h;show (Gz l 0 (CT.fill l.length .u)).get n=_;rw [IX l 0 _ (by omega) n (by omega),J8 (by omega)];simp
theorem Dr {l:List AV} {cs:Array Value} (h:l.length<=65536) (hv:VRl σ φ l cs.toList):l.length<=(ctL l).room/\l.length=cs.size/\∀ o,o < l.length->∃ w,cs[o]?=some w/\VR σ φ ((ctL l).get o) w:=by
 refine ⟨Ki l h,by simpa using hv.length,fun o ho=>?_⟩;rw [Py l h o ho];obtain ⟨w,h1,h2⟩:=hv.get (j:=o) (v:=l.getD o .u) (by rw [Jq]; rw [J1 ho]; rfl);exact ⟨w,by simpa using h1,h2⟩
def Qh (A:AH) (n:Nat) (t:CT) (k:Id->AH->Bool):Bool:=Nd A (.c false n t) k
theorem ID {n:Nat} {t:CT} {k:Id->AH->Bool} {cs:Array Value} {el:TypeId} (h:Rel σ F φ A H) (h1:n<=t.room) (h2:n<=cs.size) (h3:∀ o,o < n->∃ w,cs[o]?=some w/\VR σ φ (t.get o) w) (hk:Qh A n t k=true) :
  ∃ i A' φ',φ.le φ'/\Rel σ F φ' A' (H.push (.cells cs el))/\φ' i=some ⟨H.size,0,cs.size⟩/\k i A'=true:=by
 obtain ⟨j,hj,hk⟩:=D2 hk
 exact ⟨A.nx,_,_,h.zt _,h.wq (el:=el) hj h1 h2 h3,J8 rfl,hk⟩
def SC (A:AH) (l:List AV) (k:AV->AH->Bool):Bool:=ifB (Nat.ble (E7 l) 65536) (Qh A (E7 l) (ctL l) fun i A=>k (.p i 0) A) false
theorem Mv {l:List AV} {k:AV->AH->Bool} {cs:Array Value} {el:TypeId} (h:Rel σ F φ A H) (hv:VRl σ φ l cs.toList) (hk:SC A l k=true) :
  ∃ v A' φ',φ.le φ'/\Rel σ F φ' A' (H.push (.cells cs el))/\VR σ φ' v (Co H)/\k v A'=true:=by
 obtain ⟨h1,hk⟩:=Ab hk
 have h1:=Ja h1
 rw [BH] at h1 hk
 obtain ⟨g1,g2,g3⟩:=Dr h1 hv
 obtain ⟨i,A',φ',a1,a2,a3,a4⟩:=ID (el:=el) h g1 (by omega) g3 hk
 exact ⟨.p i 0,A',φ',a1,a2,by simp only [VR]; exact ⟨_,a3,rfl⟩,a4⟩
def Mn (v:AV) (k:List AV->Bool):Bool:=v.xp k (ifB (GM v) (k [v]) false)
theorem Ll {w:Value} (h:Cb w=true):w.cells = #[w]:=by cases w <;> first | rfl | cases h
theorem GY {v:AV} {w:Value} {k:List AV->Bool} (hv:VR σ φ v w) (hk:Mn v k=true):∃ l,VRl σ φ l w.cells.toList/\k l=true:=by
 unfold Mn at hk;rcases AV.um v k (ifB (GM v) (k [v]) false) with ⟨l,rfl,e⟩ | e
 ·rw [e] at hk;simp only [VR] at hv;obtain ⟨c,rfl,hc⟩:=hv;exact ⟨l,hc,hk⟩
 ·rw [e] at hk;obtain ⟨h1,hk⟩:=Ab hk;refine ⟨[v],?_,hk⟩;rw [Ll (Gc h1 hv)];simp only [VRl];exact ⟨w,[],rfl,hv,rfl⟩
def YM (A:AH) (v:AV) (k:AV->AH->Bool):Bool:=Mn v fun l=>SC A l k
theorem PE {v:AV} {w:Value} {k:AV->AH->Bool} {el:TypeId} (h:Rel σ F φ A H) (hv:VR σ φ v w) (hk:YM A v k=true) :
  ∃ v A' φ',φ.le φ'/\Rel σ F φ' A' (H.push (.cells w.cells el))/\VR σ φ' v (Co H)/\k v A'=true:=by
 obtain ⟨l,h1,hk⟩:=GY hv hk
 exact Mv h h1 hk
def stA (A:AH) (p v:AV) (n:Nat) (k:AH->Bool):Bool:=v.xp (fun l=>ifB (Nat.beq (E7 l) n) (stN A p l k) false) (ifB (Nat.beq n 1) (st A p v k) false)
theorem Lz {p v:AV} {w x:Value} {t n:Nat} {k:AH->Bool} (hs:Au P t=some n) (h:Rel σ F φ A H) (hp:VR σ φ p w) (hv:VR σ φ v x) (hk:stA A p v n k=true) :
  ∃ a A' H',w=.pointer (some a)/\B1 P H t a x=some H'/\Rel σ F φ A' H'/\k A'=true:=by
 unfold stA at hk
 rcases AV.um v (fun l=>ifB (Nat.beq (E7 l) n) (stN A p l k) false) (ifB (Nat.beq n 1) (st A p v k) false) with ⟨l,rfl,e⟩ | e
 ·rw [e] at hk
  obtain ⟨h1,hk⟩:=Ab hk
  have h1:=J9 h1
  rw [BH] at h1
  simp only [VR] at hv
  obtain ⟨c,rfl,hc⟩:=hv
  obtain ⟨a,A',H',g1,g2,g3,g4⟩:=Fo h hp hc hk
  refine ⟨a,A',H',g1,?_,g3,g4⟩
  simp only [B1,hs]
  rw [J8 (by show c.size=n; rw [<- h1,hc.length]; simp)]
  exact g2
 ·rw [e] at hk
  obtain ⟨h1,hk⟩:=Ab hk
  have h1:=J9 h1
  subst h1
  obtain ⟨a,A',g1,g2,g3,g4,g5,g6⟩:=MC h hp hv hk
  refine ⟨a,A',_,g1,?_,g5,g6⟩
  simp only [B1,hs]
  rw [Ll g2,J8 (by rfl)]
  subst g1
  unfold st at hk
  obtain ⟨i,o,e',_,_,hw,_⟩:=Cc (w:=.pointer (some a)) (k:=fun i o=>(A.get i).zl (fun ro len t=>@Bool.rec (fun _=>Bool) (@Bool.rec (fun _=>Bool) false (@Bool.rec (fun _=>Bool) false (k (A.set i (.c false len (t.set o v)))) (Nat.blt o len)) (GM v)) false ro) false) hp hk
  simp only [Value.pointer.injEq,J5] at hw
  subst hw
  simp only [Ar,AS,Zc]
  rw [J8 ⟨g2,g3,g4⟩]
def ovr (new cells:List AV):List AV:=@List.rec AV (fun _=>List AV->List AV) (fun cells=>cells) (fun v _ ih cells=>v :: ih (tlL cells)) new cells
def Qa (new:List AV) (off:Nat) (cells:List AV):List AV:=@Nat.rec (fun _=>List AV->List AV) (fun cells=>ovr new cells) (fun _ ih cells=>hdL cells :: ih (tlL cells)) off cells
theorem Pb:∀ (new cells:List AV) (j:Nat),new.length<=cells.length->(ovr new cells)[j]?=if j < new.length then new[j]? else cells[j]?
 | [],cells,j,_=>by simp [ovr]
 | v :: new,[],j,h=>by simp at h
 | v :: new,c :: cells,0,h=>by simp [ovr]
 | v :: new,c :: cells,j + 1,h=>by
  show (ovr new cells)[j]?=_;rw [Pb new cells j (by simpa using h)];simp
theorem GH:∀ (off:Nat) (new cells:List AV) (j:Nat),off + new.length<=cells.length->(Qa new off cells)[j]?=if off<=j/\j < off + new.length then new[j - off]? else cells[j]?
 | 0,new,cells,j,h=>by
  show (ovr new cells)[j]?=_;rw [Pb new cells j (by omega)];simp
 | off + 1,new,[],j,h=>by simp at h
 | off + 1,new,c :: cells,0,h=>by simp [Qa,hdL]
 | off + 1,new,c :: cells,j + 1,h=>by
  show (Qa new off cells)[j]?=_;simp only [Za] at h;rw [GH off new cells j (by omega)];by_cases h1:off<=j/\j < off + new.length
  ·rw [J8 h1,J8 (by omega)];congr 1; omega
  ·rw [J4 h1,J4 (by omega)];simp
theorem Rp (off:Nat) (new cells:List AV) (h:off + new.length<=cells.length):(Qa new off cells).length=cells.length:=by
 apply Nat.le_antisymm
 ·apply Vc;intro hh;have:=GH off new cells cells.length h;rw [J4 (by omega)] at this;simp at this;omega
 ·apply Vc;intro hh;have:=GH off new cells (cells.length - 1) h;rw [Jp (by omega)] at this;by_cases h1:off<=cells.length - 1/\cells.length - 1 < off + new.length
  ·rw [J8 h1] at this;simp at this;omega
  ·rw [J4 h1] at this;simp at this;omega
theorem Nv:∀ (l:List Value) (m off:Nat) (cells:Array Value) (j:Nat),off + m + l.length<=cells.size ->
  ((l.zipIdx m).foldl (fun cs (x:Value × Nat)=>cs.setIfInBounds (off + x.2) x.1) cells).size=cells.size /\
  ((l.zipIdx m).foldl (fun cs (x:Value × Nat)=>cs.setIfInBounds (off + x.2) x.1) cells)[j]?=if off + m<=j/\j < off + m + l.length then l[j - (off + m)]? else cells[j]?
 | [],m,off,cells,j,h=>by simp; omega
 | v :: l,m,off,cells,j,h=>by
  simp only [Wh,W0,Za] at h ⊢;obtain ⟨h1,h2⟩:=Nv l (m + 1) off (cells.setIfInBounds (off + m) v) j (by simp; omega);refine ⟨by rw [h1]; simp,?_⟩;rw [h2];by_cases e:j=off + m
  ·subst e;rw [J4 (by omega),J8 (by omega),Jt];simp;omega
  ·have e':(cells.setIfInBounds (off + m) v)[j]?=cells[j]?:=(by rw [Jt,J4 (fun x=>e x.symm)]);rw [e'];by_cases g:off + (m + 1)<=j/\j < off + (m + 1) + l.length
   ·rw [J8 g,J8 (by omega),show j - (off + m)=(j - (off + (m + 1))) + 1 by omega];simp
   ·rw [J4 g,J4 (by omega)]
def LZ (a b c:Nat):Prop:=a + b<=c
def bld (parts:List (Nat × Nat × AV)) (cells:List AV) (k:List AV->Bool):Bool :=
 @List.rec (Nat × Nat × AV) (fun _=>List AV->Bool) (fun cells=>k cells) (fun p _ ih cells=>Mn p.2.2 fun new=>ifB (Nat.beq (E7 new) p.2.1) (ifB (Nat.ble (Nat.add p.1 p.2.1) (E7 cells)) (ih (Qa new p.1 cells)) false) false) parts cells
theorem Ko {place:Nat->Option (Nat × Nat)} {k:List AV->Bool}:∀ (parts:List (Nat × Nat × AV)) (ps:List (Nat × Value)) (cells:List AV) (cs:Array Value),
  parts.length=ps.length->(∀ (j:Nat) p q,parts[j]?=some p->ps[j]?=some q->place q.1=some (p.1,p.2.1)/\VR σ φ p.2.2 q.2)->VRl σ φ cells cs.toList->bld parts cells k=true ->
  ∃ cs' l,Instr.fill place cs ps=some cs'/\VRl σ φ l cs'.toList/\k l=true
 | [],[],cells,cs,_,_,hv,hk=>⟨cs,cells,rfl,hv,hk⟩
 | [],_ :: _,cells,cs,hl,_,_,_=>by simp at hl
 | _ :: _,[],cells,cs,hl,_,_,_=>by simp at hl
 | p :: parts,⟨qi,qv⟩ :: ps,cells,cs,hl,hp,hv,hk=>by
  obtain ⟨h1,h2⟩:=hp 0 p ⟨qi,qv⟩ rfl rfl;obtain ⟨new,h3,hk⟩:=GY h2 hk;obtain ⟨h4,hk⟩:=Ab hk;obtain ⟨h5,hk⟩:=Ab hk;have h4:=J9 h4;have h5:=Ja h5;rw [BH] at h4 h5;have h6:=h3.length;have h7:=hv.length;simp only [Zw] at h6 h7;simp only [Wk] at h5;have hsz:LZ p.1 qv.cells.size cs.size:=(by unfold LZ; omega);refine (fun ⟨cs',l,a,b,c⟩=>⟨cs',l,?_,b,c⟩) (Ko (place:=place) (k:=k) parts ps (Qa new p.1 cells) (qv.cells.zipIdx.foldl (fun cs (c,j)=>cs.setIfInBounds (p.1 + j) c) cs) (by simpa using hl)
   (fun j p' q' a b=>hp (j + 1) p' q' (by simpa using a) (by simpa using b)) ?_ hk)
  ·have ef:qv.cells.zipIdx.foldl (fun cs (x:Value × Nat)=>cs.setIfInBounds (p.1 + x.2) x.1) cs=(qv.cells.toList.zipIdx 0).foldl (fun cs (x:Value × Nat)=>cs.setIfInBounds (p.1 + x.2) x.1) cs:=by
    rw [<- Xk]; simp
   have key:=fun j=>Nv qv.cells.toList 0 p.1 cs j (by simp only [Zw]; unfold LZ at hsz; omega)
   show VRl σ φ _ (qv.cells.zipIdx.foldl (fun cs (x:Value × Nat)=>cs.setIfInBounds (p.1 + x.2) x.1) cs).toList
   rw [ef]
   refine VRl.uq ?_ ?_
   ·rw [Rp _ _ _ (by omega)]
    simp only [Zw]
    rw [(key 0).1]; exact h7
   ·intro j v w hv' hw
    rw [GH _ _ _ _ (by omega)] at hv'
    rw [Y1,(key j).2] at hw
    simp only [Zw,Zc] at hw
    by_cases g:p.1<=j/\j < p.1 + new.length
    ·rw [J8 g] at hv'
     rw [J8 (by omega)] at hw
     obtain ⟨w',g1,g2⟩:=h3.get hv'
     rw [hw] at g1
     simp only [J5] at g1
     subst g1
     exact g2
    ·rw [J4 g] at hv'
     rw [J4 (by omega)] at hw
     obtain ⟨w',g1,g2⟩:=hv.get hv'
     rw [Y1,hw] at g1
     simp only [J5] at g1
     subst g1
     exact g2
  ·simp only [Instr.fill,h1];rw [J4 (by simp only [ne_eq,Z9,Jk]; unfold LZ at hsz; omega)];exact a
end
end Go.Run
