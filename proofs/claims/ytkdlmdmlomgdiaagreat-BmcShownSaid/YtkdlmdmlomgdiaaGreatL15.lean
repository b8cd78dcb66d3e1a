/- Closed runs: code as a function of what its slots hold; annotations; that a run that ends well tells of the code. -/
import Derived.Test.YtkdlmdmlomgdiaaGreatL14
import Derived.Defers
import Derived.Test.YtkdlmdmlomgdiaaGreatProg
set_option linter.unusedSimpArgs false
set_option linter.unusedVariables false
set_option maxRecDepth 10000
set_option maxHeartbeats 8000000
noncomputable section
namespace Go.Run
open Go.HL
variable {σ:Nat->Value} {F:Nat->Option Obj} {φ:Phi} {A:AH} {H:A3} {P:Program} {V:HV}
section
def KA (n:Nat) (P:Program) (ops:Array Oper) (o:Oper) (U:En) (H:A3) (K:En->A3->Prop) (Q:Exit->En->A3->Prop):Prop :=
 match o.guard with
 | none=>Cn n P o U H K Q
 | some (j,want)=>BO (AZ ops U j) want (Cn n P o U H K Q) (K (U.put n o.dst undef) H)
theorem Ou {n:Nat} {P:Program} {ops:Array Oper} {o:Oper} {U:En} {K:En->A3->Prop} {Q:Exit->En->A3->Prop} {w0 w:World} {a:Act}
  (h0:HL.Rest w0 w) (ha:Ag n a U) (h:KA n P ops o U w.heap K Q) :
  if Region.wanted o (yielded ops a.tmps) then o.wp P a w (up n w0 K) (upQ n w0 Q)\/(o.asks P a w/\LetsOut (upQ n w0 Q)) else up n w0 K (a.put o.dst undef) w:=by
 unfold KA at h
 unfold Region.wanted
 cases hg:o.guard with
 | none =>
  rw [hg] at h;simp only [Zr];exact .inl (El h0 ha h)
 | some g =>
  obtain ⟨j,want⟩:=g;rw [hg] at h;simp only [IS ha];simp only [BO] at h;generalize AZ ops U j=v at h;cases v with
  | bool b =>
   by_cases hb:b=want
   ·have e:(BV (.bool b) == some want)=true:=(by subst hb; simp [BV]);rw [J8 e];exact .inl (El h0 ha (h.1 hb))
   ·have hb':b = !want:=(by cases b <;> cases want <;> simp_all);have e:¬ (BV (.bool b) == some want)=true:=(by simp [BV,hb]);rw [J4 e];exact ⟨h0,_,ha.put _ _,h.2 hb'⟩
  | _=>exact ⟨h0,_,ha.put _ _,h⟩
def Cm (n:Nat) (P:Program) (ops:Array Oper) (Q:Exit->En->A3->Prop):List Oper->En->A3->Prop
 | [],U,H=>Q .normal U H
 | o :: rest,U,H=>KA n P ops o U H (Cm n P ops Q rest) Q
theorem LY {n:Nat} {P:Program} {ops:Array Oper} {Q:Exit->En->A3->Prop} {w0:World} :
  ∀ (l:List Nat) (ol:List Oper),l.map (ops[·]?)=ol.map some->∀ (U:En) (w:World) (a:Act),HL.Rest w0 w->Ag n a U->Cm n P ops Q ol U w.heap ->
   wpOps P ops (upQ n w0 Q) l a w:=by
 intro l
 induction l with
 | nil =>
  intro ol hol U w a h0 ha h;cases ol with
  | nil=>exact ⟨h0,_,ha,h⟩
  | cons _ _=>simp at hol
 | cons i l ih =>
  intro ol hol U w a h0 ha h;cases ol with
  | nil=>simp at hol
  | cons o ol =>
   simp only [Jz,Zh] at hol;obtain ⟨ho,hol⟩:=hol;rw [wpOps_cons];unfold wpOp;rw [ho];have h':=Ou h0 ha h;simp only;split
   ·rename_i hw;rw [J8 hw] at h';exact h'.imp (Oper.wp_mono (fun a' w' ⟨hr,U',ha',hk⟩=>ih ol hol U' w' a' hr ha' hk)) id
   ·rename_i hw;rw [J4 hw] at h';obtain ⟨hr,U',ha',hk⟩:=h';exact ih ol hol U' w _ hr ha' hk
def cw2 (n:Nat) (P:Program):Code->(Exit->En->A3->Prop)->En->A3->Prop
 | .skip,Q,U,H=>Q .normal U H
 | .region _ ops false,Q,U,H=>Cm n P ops Q ops.toList U H
 | .seq x y,Q,U,H=>cw2 n P x (D8 (cw2 n P y Q) Q) U H
 | .cond c x y,Q,U,H=>FY (U.ev c) (cw2 n P x Q U H) (cw2 n P y Q U H)
 | .block id c,Q,U,H=>cw2 n P c (I8 id Q) U H
 | .exit id,Q,U,H=>Q (.exit id) U H
 | .ret,Q,U,H=>Q .ret U H
 | .label _,Q,U,H=>Q .normal U H
 | c,Q,U,H=>CW n P c Q U H
theorem Fy {n:Nat} {P:Program} (c:Code):∀ (Q:Exit->En->A3->Prop) (U:En) (H:A3),cw2 n P c Q U H->CW n P c Q U H:=by
 induction c with
 | skip=>intro Q U H h w0 w a h0 hw ha; subst hw; exact wp_skip ⟨h0,_,ha,h⟩
 | region id ops draw =>
  intro Q U H h w0 w a h0 hw ha;subst hw;cases draw with
  | true=>exact h w0 w a h0 rfl ha
  | false =>
   refine wp_region (LY _ ops.toList ?_ U w a h0 ha h);apply Y9;intro i;simp only [Z0];by_cases hi:i < ops.size
   ·simp [hi]
   ·simp [hi]
 | seq x y ihx ihy =>
  intro Q U H h w0 w a h0 hw ha;refine wp_seq (wp_mono (ihx _ _ _ h w0 w a h0 hw ha) ?_);rintro e a' w' ⟨hr,U',ha',hx⟩;cases e with
  | normal=>exact ihy Q U' w'.heap hx w0 w' a' hr rfl ha'
  | _=>exact ⟨hr,U',ha',hx⟩
 | cond c x y ihx ihy =>
  intro Q U H h w0 w a h0 hw ha;simp only [cw2] at h;cases hv:U.ev c with
  | bool b =>
   rw [hv] at h;refine wp_cond (t:=b) (by rw [ha.ev]; exact hv) ?_;cases b with
   | true=>exact ihx Q U H (h.1 rfl) w0 w a h0 hw ha
   | false=>exact ihy Q U H (h.2 rfl) w0 w a h0 hw ha
  | _=>rw [hv] at h; exact h.elim
 | block id c ih =>
  intro Q U H h w0 w a h0 hw ha;refine wp_block (wp_mono (ih _ _ _ h w0 w a h0 hw ha) ?_);rintro e a' w' ⟨hr,U',ha',hx⟩;cases e with
  | exit i =>
   simp only [I8] at hx;simp only [Exit.inBlock];split <;> rename_i hi
   ·rw [J8 hi] at hx; exact ⟨hr,U',ha',hx⟩
   ·rw [J4 hi] at hx; exact ⟨hr,U',ha',hx⟩
  | _=>exact ⟨hr,U',ha',hx⟩
 | exit id=>intro Q U H h w0 w a h0 hw ha; subst hw; exact wp_exit ⟨h0,_,ha,h⟩
 | ret=>intro Q U H h w0 w a h0 hw ha; subst hw; exact wp_ret ⟨h0,_,ha,h⟩
 | label l=>intro Q U H h w0 w a h0 hw ha; subst hw; exact wp_label ⟨h0,_,ha,h⟩
 | _=>intro Q U H h; exact h
theorem Sh {n:Nat} {P:Program} {c:Code} {Q:Exit->En->A3->Prop} (I:Nat->En->A3->Prop)
  (round:∀ k U H,I k U H->cw2 n P c (D8 (fun U' H'=>∃ k',k' < k/\I k' U' H') Q) U H)
  {k:Nat} {U:En} {H:A3} (h0:I k U H):CW n P (.loop c) Q U H:=by
 intro w0 w a hr hw ha
 subst hw
 refine wp_loop_rounds (k + 1) ?_
 have key:∀ m k,k < m->∀ U (w:World) (a:Act),HL.Rest w0 w->Ag n a U->I k U w.heap->Code.rounds P c (upQ n w0 Q) m a w:=by
  intro m;induction m with
  | zero=>intro k hk; omega
  | succ m ih =>
   intro k hk U w a hr ha hi;rw [rounds_succ];refine wp_mono (Fy c _ _ _ (round k U w.heap hi) w0 w a hr rfl ha) ?_;rintro e a' w' ⟨hr',U',ha',hx⟩;cases e with
   | normal =>
    obtain ⟨k',hk',hi'⟩:=hx;exact ih k' (by omega) U' w' a' hr' ha' hi'
   | _=>exact ⟨hr',U',ha',hx⟩
 exact key (k + 1) k (by omega) U w a hr ha h0
theorem QI {P:Program} {f:FuncId} {fn:Func} {c:Code} {args:List Value} {rs:List ResultVar} {n:Nat} {H:A3} {R:Value->A3->Prop} {E:List PanicEntry->A3->Prop}
  (hf:P.funcs[f]?=some fn) (hb:fn.body=some c) (hn:fn.ntmps=n) (hr:fn.results=rs.toArray) (hm:(fn.name == "runtime.NumGoroutine")=false)
  (hs:decide (args.length<=n)=true)
  (h:CW n P c (MU P rs R E) (B2 args.toArray) H):CallF P f args H R E:=by
 unfold CallF callFunc
 rw [Az]
 show hwp P (match P.funcs[f]? with | none=>_ | some fn=>_) H _ _
 rw [hf]
 simp only [hm,Z7,Z3,hb,X8]
 show HCalls P f args.toArray H R E
 subst hn
 refine Lc hf hb (by simpa using hs) ?_
 exact CW.mono (D0 hr) h
abbrev Cl (T:TR) (Tb:FT) (ops:Array Oper) (l:List Oper) (U:Nat->AV) (A:AH) (k:Kt):Bool :=
 @List.rec Oper (fun _=>(Nat->AV)->AH->Bool) (fun U A=>k U A)
  (fun o _ ih U A=>@Option.rec (Nat × Bool) (fun _=>Bool) (opA T Tb U A o.op fun v A'=>ih (Cs U o.dst v) A')
   (fun g=>gdK (CD ops U g.1) g.2 (fun k'=>opA T Tb U A o.op k') A fun v A'=>ih (Cs U o.dst v) A') o.guard) l U A
theorem Hn {T:TR} {Tb:FT} {ops:Array Oper} {n:Nat} {Q:Exit->En->A3->Prop} {D:List Deferred} (hT:Bl P T) (hTb:TOK P Tb) {k:Kt}:∀ (l:List Oper) (φ:Phi) (U:Nat->AV) (A:AH) (e:En) (H:A3),B8 n l=true ->
  Rel σ F φ A H->ENV σ φ D U e->KOK σ F D φ k (Q .normal)->Cl T Tb ops l U A k=true->Cm n P ops Q l e H
 | [],φ,U,A,e,H,_,hr,he,hk,h=>hk φ A U e H φ.le_refl hr he h
 | o :: l,φ,U,A,e,H,hd,hr,he,hk,h=>by
  have hd:Dg n o.dst=true/\B8 n l=true:=(by simpa [B8] using hd);have next:∀ v A' φ' w H',φ.le φ'->Rel σ F φ' A' H'->VR σ φ' v w->Cl T Tb ops l (Cs U o.dst v) A' k=true->Cm n P ops Q l (e.put n o.dst w) H' :=
   fun v A' φ' w H' h1 h2 h3 h4=>Hn hT hTb l φ' _ A' _ H' hd.2 h2 (he.put h1 hd.1 h3) (hk.mono h1) h4
  show KA n P ops o e H (Cm n P ops Q l) Q;unfold KA;cases hg:o.guard with
  | none =>
   have h:opA T Tb U A o.op (fun v A'=>Cl T Tb ops l (Cs U o.dst v) A' k)=true:=by
    have:Cl T Tb ops (o :: l) U A k = @Option.rec (Nat × Bool) (fun _=>Bool) (opA T Tb U A o.op fun v A'=>Cl T Tb ops l (Cs U o.dst v) A' k)
     (fun g=>gdK (CD ops U g.1) g.2 (fun k'=>opA T Tb U A o.op k') A fun v A'=>Cl T Tb ops l (Cs U o.dst v) A' k) o.guard:=rfl
    rw [this,hg] at h; exact h
   exact Ry hT hTb hr he.er h next
  | some g =>
   obtain ⟨j,want⟩:=g;have h:gdK (CD ops U j) want (fun k'=>opA T Tb U A o.op k') A (fun v A'=>Cl T Tb ops l (Cs U o.dst v) A' k)=true:=by
    have:Cl T Tb ops (o :: l) U A k = @Option.rec (Nat × Bool) (fun _=>Bool) (opA T Tb U A o.op fun v A'=>Cl T Tb ops l (Cs U o.dst v) A' k)
     (fun g=>gdK (CD ops U g.1) g.2 (fun k'=>opA T Tb U A o.op k') A fun v A'=>Cl T Tb ops l (Cs U o.dst v) A' k) o.guard:=rfl
    rw [this,hg] at h; exact h
   exact Le (DX he.er j) h (fun h=>Ry hT hTb hr he.er h next) (fun h=>next _ _ _ _ _ φ.le_refl hr BS h)
abbrev JF:Nat->Type:=fun n=>@Nat.rec (fun _=>Type) (AH->Bool) (fun _ t=>AV->t) n
abbrev jmp (l:List Nat):JF l.length->Kt:=@List.rec Nat (fun l=>JF l.length->Kt) (fun g _ A=>g A) (fun t _ ih g U A=>ih (g (U t)) U A) l
abbrev cur (l:List Nat) (f:Kt):(Nat->AV)->JF l.length:=@List.rec Nat (fun l=>(Nat->AV)->JF l.length) (fun U A=>f U A) (fun t _ ih U x=>ih (Cs U (some t) x)) l
def Nq (l:List Nat) (U:Nat->AV) (r:Nat->AV):Nat->AV:=@List.rec Nat (fun _=>(Nat->AV)->Nat->AV) (fun r=>r) (fun t _ ih r=>ih (Cs r (some t) (U t))) l r
theorem Ma (f:Kt) (U:Nat->AV) (A:AH):∀ (l:List Nat) (r:Nat->AV),jmp l (cur l f r) U A=f (Nq l U r) A
 | [],r=>rfl
 | t :: l,r=>Ma f U A l (Cs r (some t) (U t))
theorem Np {D:List Deferred} {U:Nat->AV} {e:En} (h:ENV σ φ D U e):∀ (l:List Nat) (r:Nat->AV),(∀ t,VR σ φ (r t) (e.get t))->ENV σ φ D (Nq l U r) e
 | [],r,hr=>⟨hr,h.ds⟩
 | t :: l,r,hr=>Np h l _ fun u=>by
  show VR σ φ (@Bool.rec (fun _=>AV) (r u) (U t) (Nat.beq u t)) _;cases hb:Nat.beq u t with
  | true=>have:=J9 hb; subst this; exact h.er u
  | false=>exact hr u
abbrev noA:Nat->AV:=fun _=>.u
theorem Po {D:List Deferred} {U:Nat->AV} {e:En} (h:ENV σ φ D U e) (l:List Nat):ENV σ φ D (Nq l U noA) e:=Np h l _ fun t=>by simp [noA,VR]
structure KN where
 n:Kt
 r:Kt
 x:Nat->Kt
inductive An where
 | z
 | s (a b:An)
 | j (l:List Nat) (g:JF l.length) (a b:An)
 | c (a b:An)
 | b (a:An)
 | l (l:List Nat) (g:Nat->JF l.length) (m:Nat) (a:Nat->An)
 | d (p:Plan)
abbrev KN.to (kn:KN) (n:Kt):KN:=⟨n,kn.r,kn.x⟩
abbrev KN.blk (kn:KN) (id:Nat):KN:=⟨kn.n,kn.r,fun i=>@Bool.rec (fun _=>Kt) (kn.x i) kn.n (Nat.beq i id)⟩
abbrev noK:Kt:=fun _ _=>false
def cnd (c:AV) (p q:Bool):Bool:=c.y0 (fun b=>@Bool.rec (fun _=>Bool) q p b) false
theorem QG {c:AV} {w:Value} {p q:Bool} {p' q':Prop} (hc:VR σ φ c w) (h:cnd c p q=true) (hp:p=true->p') (hq:q=true->q'):FY w p' q':=by
 obtain ⟨b,rfl,rfl,h⟩:=Cx hc h;cases b with
 | true=>exact ⟨fun _=>hp h,fun e=>by cases e⟩
 | false=>exact ⟨fun e=>(by cases e),fun _=>hq h⟩
abbrev An.onD (a:An) (k:Plan->Kt):Kt:=@An.rec (fun _=>Kt) noK (fun _ _ _ _=>noK) (fun _ _ _ _ _ _=>noK) (fun _ _ _ _=>noK) (fun _ _=>noK) (fun _ _ _ _ _=>noK) k a
abbrev An.onS (an:An) (ks:An->An->Kt) (kj:(l:List Nat)->JF l.length->An->Kt):Kt:=@An.rec (fun _=>Kt) noK (fun a b _ _=>ks a b) (fun l g a _ _ _=>kj l g a) (fun _ _ _ _=>noK) (fun _ _=>noK) (fun _ _ _ _ _=>noK) (fun _=>noK) an
abbrev An.onC (an:An) (k:An->An->Kt):Kt:=@An.rec (fun _=>Kt) noK (fun _ _ _ _=>noK) (fun _ _ _ _ _ _=>noK) (fun a b _ _=>k a b) (fun _ _=>noK) (fun _ _ _ _ _=>noK) (fun _=>noK) an
abbrev An.onB (an:An) (k:An->Kt):Kt:=@An.rec (fun _=>Kt) noK (fun _ _ _ _=>noK) (fun _ _ _ _ _ _=>noK) (fun _ _ _ _=>noK) (fun a _=>k a) (fun _ _ _ _ _=>noK) (fun _=>noK) an
abbrev An.onL (an:An) (k:(l:List Nat)->(Nat->JF l.length)->Nat->Kt):Kt:=@An.rec (fun _=>Kt) noK (fun _ _ _ _=>noK) (fun _ _ _ _ _ _=>noK) (fun _ _ _ _=>noK) (fun _ _=>noK) (fun l g m _ _=>k l g m) (fun _=>noK) an
abbrev D9 (T:TR) (Tb:FT) (c:Code):An->KN->Kt :=
 @Code.rec (fun _=>An->KN->Kt)
  (fun _ kn=>kn.n)
  (fun _ ops draw an kn=>@Bool.rec (fun _=>Kt) (fun U A=>Cl T Tb ops ops.toList U A kn.n) (an.onD fun p U A=>j0q T Tb ops.toList p U A kn.n) draw)
  (fun _ _ ix iy an kn=>an.onS (fun a b=>ix a (kn.to (iy b kn))) (fun l g a=>ix a (kn.to (jmp l g))))
  (fun c _ _ ix iy an kn=>an.onC fun a b U A=>cnd (ev U c) (ix a kn U A) (iy b kn U A))
  (fun id _ ix an kn=>an.onB fun a=>ix a (kn.blk id))
  (fun _ ix an kn=>an.onL fun l g m=>jmp l (g m))
  (fun _ _ _ _ _ _ _ _=>noK)
  (fun i _ kn=>kn.x i)
  (fun _ _ _ _=>noK)
  (fun _ _ kn=>kn.n)
  (fun _ _ _=>noK)
  (fun _ kn=>kn.r)
  (fun _ _ _=>noK) c
def Hh (T:TR) (Tb:FT) (n:Nat):Code->An->KN->Prop
 | .region _ ops false,_,_=>B8 n ops.toList=true
 | .region _ ops true,.d p,_=>B8 n ops.toList=true/\IP ops.toList p=true
 | .seq x y,.s a b,kn=>Hh T Tb n x a (kn.to (D9 T Tb y b kn))/\Hh T Tb n y b kn
 | .seq x y,.j l g a b,kn=>(∀ U A,jmp l g U A=D9 T Tb y b kn (Nq l U noA) A)/\Hh T Tb n x a (kn.to (jmp l g))/\Hh T Tb n y b kn
 | .cond c x y,.c a b,kn=>Hh T Tb n x a kn/\Hh T Tb n y b kn
 | .block id x,.b a,kn=>Hh T Tb n x a (kn.blk id)
 | .loop x,.l l g m a,kn=>(∀ U A,jmp l (g 0) U A=false)/\∀ m,(∀ U A,jmp l (g (m + 1)) U A=D9 T Tb x (a m) (kn.to (jmp l (g m))) (Nq l U noA) A)/\Hh T Tb n x (a m) (kn.to (jmp l (g m)))
 | _,_,_=>True
structure KQ (σ:Nat->Value) (F:Nat->Option Obj) (D:List Deferred) (φ0:Phi) (kn:KN) (Q:Exit->En->A3->Prop):Prop where
 n:KOK σ F D φ0 kn.n (Q .normal)
 r:KOK σ F D φ0 kn.r (Q .ret)
 x:∀ i,KOK σ F D φ0 (kn.x i) (Q (.exit i))
 p:PanOK Q
theorem LL {D:List Deferred} {T:TR} {Tb:FT} {n:Nat} (hm:P.follows .mixedOrders=true) (hT:Bl P T) (hTb:TOK P Tb):∀ (c:Code) (an:An) (kn:KN),Hh T Tb n c an kn->∀ (Q:Exit->En->A3->Prop) (φ:Phi),KQ σ F D φ kn Q ->
  KOK σ F D φ (D9 T Tb c an kn) (cw2 n P c Q):=by
 intro c
 induction c with
 | skip=>intro an kn hg Q φ hk φ' A U e H h1 h2 h3 h4; exact hk.n φ' A U e H h1 h2 h3 (by cases an <;> exact h4)
 | label l=>intro an kn hg Q φ hk φ' A U e H h1 h2 h3 h4; exact hk.n φ' A U e H h1 h2 h3 (by cases an <;> exact h4)
 | ret=>intro an kn hg Q φ hk φ' A U e H h1 h2 h3 h4; exact hk.r φ' A U e H h1 h2 h3 (by cases an <;> exact h4)
 | exit i=>intro an kn hg Q φ hk φ' A U e H h1 h2 h3 h4; exact hk.x i φ' A U e H h1 h2 h3 (by cases an <;> exact h4)
 | region id ops draw =>
  intro an kn hg Q φ hk φ' A U e H h1 h2 h3 h4;cases draw with
  | false =>
   have hg:B8 n ops.toList=true:=(by cases an <;> exact hg);have h4:Cl T Tb ops ops.toList U A kn.n=true:=(by cases an <;> exact h4);exact Hn hT hTb ops.toList φ' U A e H hg h2 h3 (hk.n.mono h1) h4
  | true =>
   cases an with
   | d p =>
    obtain ⟨g1,g2⟩:=hg;have:=Tg (id:=id) hm hT hTb g1 g2 hk.p h2 h3 (hk.n.mono h1) h4;show CW n P (.region id ops true) Q e H;simpa using this
   | _=>exact absurd h4 (by simp [D9,noK])
 | seq x y ihx ihy =>
  intro an kn hg Q φ hk φ' A U e H h1 h2 h3 h4;cases an with
  | s a b =>
   show cw2 n P x (D8 (cw2 n P y Q) Q) e H;refine ihx a _ hg.1 (D8 (cw2 n P y Q) Q) φ ⟨?_,hk.r,hk.x,?_⟩ φ' A U e H h1 h2 h3 h4
   ·exact ihy b kn hg.2 Q φ hk
   ·exact fun c U U' H=>hk.p c U U' H
  | j l g a b =>
   obtain ⟨g1,g2,g3⟩:=hg;show cw2 n P x (D8 (cw2 n P y Q) Q) e H;refine ihx a _ g2 (D8 (cw2 n P y Q) Q) φ ⟨?_,hk.r,hk.x,?_⟩ φ' A U e H h1 h2 h3 h4
   ·intro ψ A U e H h1 h2 h3 h4;have h4:jmp l g U A=true:=h4;rw [g1] at h4;exact ihy b kn g3 Q φ hk ψ A _ e H h1 h2 (Po h3 l) h4
   ·exact fun c U U' H=>hk.p c U U' H
  | _=>exact absurd h4 (by simp [D9,noK])
 | cond c x y ihx ihy =>
  intro an kn hg Q φ hk φ' A U e H h1 h2 h3 h4;cases an with
  | c a b=>exact QG (Ah h3.er c) h4 (fun h=>ihx a kn hg.1 Q φ hk φ' A U e H h1 h2 h3 h) (fun h=>ihy b kn hg.2 Q φ hk φ' A U e H h1 h2 h3 h)
  | _=>exact absurd h4 (by simp [D9,noK])
 | block id x ih =>
  intro an kn hg Q φ hk φ' A U e H h1 h2 h3 h4;cases an with
  | b a =>
   show cw2 n P x (I8 id Q) e H;refine ih a _ hg (I8 id Q) φ ⟨hk.n,hk.r,?_,?_⟩ φ' A U e H h1 h2 h3 h4
   ·intro i ψ A U e H h1 h2 h3 h4;have h4:(@Bool.rec (fun _=>Kt) (kn.x i) kn.n (Nat.beq i id)) U A=true:=h4;show (if i=id then Q .normal e H else Q (.exit i) e H);cases hb:Nat.beq i id with
    | true =>
     rw [hb] at h4;rw [J8 (J9 hb)];exact hk.n ψ A U e H h1 h2 h3 h4
    | false =>
     rw [hb] at h4;rw [J4 (G0 hb)];exact hk.x i ψ A U e H h1 h2 h3 h4
   ·exact fun c U U' H=>hk.p c U U' H
  | _=>exact absurd h4 (by simp [D9,noK])
 | loop x ih =>
  intro an kn hg Q φ hk φ' A U e H h1 h2 h3 h4;cases an with
  | l l g m a =>
   obtain ⟨g0,gs⟩:=hg;refine Sh (fun k e H=>∃ ψ A U,φ.le ψ/\Rel σ F ψ A H/\ENV σ ψ D U e/\jmp l (g k) U A=true) ?_ (k:=m) ⟨φ',A,U,h1,h2,h3,h4⟩;rintro k e H ⟨ψ,A,U,i1,i2,i3,i4⟩;cases k with
   | zero=>rw [g0] at i4; cases i4
   | succ k =>
    obtain ⟨s1,s2⟩:=gs k;rw [s1] at i4;refine ih (a k) _ s2 (D8 (fun e' H'=>∃ k',k' < k + 1/\∃ ψ A U,φ.le ψ/\Rel σ F ψ A H'/\ENV σ ψ D U e'/\jmp l (g k') U A=true) Q) φ ⟨?_,hk.r,hk.x,?_⟩ ψ A _ e H i1 i2 (Po i3 l) i4
    ·intro ψ A U e H h1 h2 h3 h4;exact ⟨k,Nat.lt_succ_self k,ψ,A,U,h1,h2,h3,h4⟩
    ·exact fun c U U' H=>hk.p c U U' H
  | _=>exact absurd h4 (by simp [D9,noK])
 | _=>intro an kn hg Q φ hk φ' A U e H h1 h2 h3 h4; exact absurd h4 (by cases an <;> simp [D9,noK])
abbrev Q5 (T:TR) (rs:List ResultVar) (U:Nat->AV) (A:AH) (k:List AV->Bool):Bool :=
 @List.rec ResultVar (fun _=>(List AV->Bool)->Bool) (fun k=>k []) (fun r _ ih k=>match r with
  | .tmp t=>ih fun vs=>k (U t :: vs)
  | .cell a t=>ldT T A t (U a) fun v=>ih fun vs=>k (v :: vs)) rs k
abbrev Lw (l:List AV):AV:=@List.rec AV (fun _=>AV) (.t []) (fun v r _=>@List.rec AV (fun _=>AV) v (fun _ _ _=>.t (v :: r)) r) l
theorem Lv {l:List AV} {ws:List Value} (h:VRl σ φ l ws):VR σ φ (Lw l) (FG ws):=by
 match l,h with
 | [],h=>simp only [VRl] at h; subst h; exact BS
 | [v],h=>simp only [VRl] at h; obtain ⟨w,ws',rfl,h1,rfl⟩:=h; exact h1
 | v :: v2 :: l,h =>
  have h0:=h;simp only [VRl] at h;obtain ⟨w,ws',rfl,h1,w2,ws2,rfl,h2,h3⟩:=h;show VR σ φ (.t (v :: v2 :: l)) (.tuple (w :: w2 :: ws2).toArray);simp only [VR];exact ⟨_,rfl,by simpa using h0⟩
theorem GE {T:TR} (hT:Bl P T) (hr:Rel σ F φ A H) {U:Nat->AV} {e:En} (he:ER σ φ U e):∀ (rs:List ResultVar) (k:List AV->Bool) (R:List Value->Prop),Q5 T rs U A k=true ->
  (∀ l ws,VRl σ φ l ws->k l=true->R ws)->Cr P e H rs R
 | [],k,R,h,hR=>hR [] [] (by simp [VRl]) h
 | .tmp t :: rs,k,R,h,hR=>GE hT hr he rs _ _ h fun l ws h1 h2=>hR _ _ (by simp only [VRl]; exact ⟨_,_,rfl,he t,h1⟩) h2
 | .cell a t :: rs,k,R,h,hR=>by
  obtain ⟨ad,v,r,h1,h2,h3,h4⟩:=OA hT hr (he a) h;unfold Cr;rw [h1];show AQ (loadA P (AI H) t ad) _;rw [h2];exact GE hT hr he rs _ _ h4 fun l ws h5 h6=>hR _ _ (by simp only [VRl]; exact ⟨_,_,rfl,h3,h5⟩) h6
abbrev knK (T:TR) (rs:List ResultVar) (K:AV->AH->Bool):KN :=
 ⟨fun U A=>Q5 T rs U A fun l=>K (Lw l) A,fun U A=>Q5 T rs U A fun l=>K (Lw l) A,fun _=>noK⟩
abbrev QE (f:(Nat->AV)->AH->(AV->AH->Bool)->Bool) (n:Nat):Nat->(Nat->AV)->FF n :=
 @Nat.rec (fun n=>Nat->(Nat->AV)->FF n) (fun _ U A K=>f U A K) (fun _ ih t U x=>ih (Nat.succ t) (Cs U (some t) x)) n
theorem Hf (f:(Nat->AV)->AH->(AV->AH->Bool)->Bool) {K:AV->AH->Bool}:∀ (n t:Nat) (U:Nat->AV) (l:List AV) (ws:List Value) (e:Nat->Value),Ef n (QE f n t U) l A K=true->VRl σ φ l ws->(∀ u,VR σ φ (U u) (e u))->(∀ j w,ws[j]?=some w->e (t + j)=w) ->
  ∃ U',(∀ u,VR σ φ (U' u) (e u))/\f U' A K=true
 | 0,t,U,[],ws,e,h,hv,he,hw=>⟨U,he,h⟩
 | 0,t,U,_ :: _,ws,e,h,hv,he,hw=>by cases h
 | n + 1,t,U,[],ws,e,h,hv,he,hw=>by cases h
 | n + 1,t,U,v :: l,ws,e,h,hv,he,hw=>by
  simp only [VRl] at hv;obtain ⟨w,ws',rfl,h1,h2⟩:=hv;refine Hf f n (t + 1) (Cs U (some t) v) l ws' e h h2 ?_ fun j w' hj=>?_
  ·intro u;show VR σ φ (@Bool.rec (fun _=>AV) (U u) v (Nat.beq u t)) _;cases hb:Nat.beq u t with
   | true =>
    have:=J9 hb;subst this;have:=hw 0 w rfl;rw [Zc] at this;rw [this]; exact h1
   | false=>exact he u
  ·have:=hw (j + 1) w' (by simpa using hj);rw [<- this]; congr 1; omega
theorem XO {f:Nat} {fn:Func} {c:Code} {rs:List ResultVar} {n m:Nat} {T:TR} {Tb:FT} {an:(AV->AH->Bool)->An} {G:FF m} (hm:P.follows .mixedOrders=true) (hT:Bl P T) (hTb:TOK P Tb)
  (hf:P.funcs[f]?=some fn) (hb:fn.body=some c) (hn:fn.ntmps=n) (hrs:fn.results=rs.toArray) (hname:(fn.name == "runtime.NumGoroutine")=false) (hmn:Nat.ble m n=true)
  (hF:G=QE (fun U A K=>D9 T Tb c (an K) (knK T rs K) U A) m 0 noA) (hg:∀ K,Hh T Tb n c (an K) (knK T rs K)):FOK P f m G:=by
 intro σ F φ A H args ws K hr hv hk
 rw [hF] at hk
 have hlen:=He m G args (by rw [hF]; exact hk)
 obtain ⟨U,h1,h2⟩:=Hf (σ:=σ) (φ:=φ) (fun U A K=>D9 T Tb c (an K) (knK T rs K) U A) m 0 noA args ws (B2 ws.toArray).get hk hv (fun u=>by simp [noA,VR]) (fun j w hj=>by
  simp only [B2,Zv];rw [Jn];simp [hj])
 refine QI hf hb hn hrs hname (by have:=hv.length; have:=Ja hmn; simp; omega) (Fy c _ _ _ ?_)
 have ret:KOK σ F [] φ (fun U A=>Q5 T rs U A fun l=>K (Lw l) A) fun e H=>e.ds = []/\Cr P e H rs fun vs=>RK σ F φ K (FG vs) H:=by
  intro φ' A U e H h1 h2 h3 h4;exact ⟨h3.ds,GE hT h2 h3.er rs _ _ h4 fun l ws h5 h6=>⟨φ',Lw l,A,h1,Lv h5,h2,h6⟩⟩
 refine LL hm hT hTb c (an K) (knK T rs K) (hg K) _ φ ⟨ret,ret,?_,?_⟩ φ A U (B2 ws.toArray) H φ.le_refl hr ⟨h1,rfl⟩ h2
 ·intro i φ' A U e H _ _ _ h; cases h
 ·intro c U U' H hd h
  exact ⟨hd ▸ h.1,h.2⟩
end
end Go.Run
namespace Go.Run
open Go.HL
variable {σ:Nat->Value} {F:Nat->Option Obj} {φ:Phi} {A:AH} {H:A3} {P:Program} {V:HV}
section
theorem TOK.nil:TOK P []:=fun e he=>by simp at he
theorem TOK.cons {Tb:FT} {f n:Nat} {g:FF n} (h:FOK P f n g) (ht:TOK P Tb):TOK P (⟨f,n,g,noP⟩ :: Tb):=fun e he=>by
 rcases J7.1 he with rfl | he
 ·exact ⟨h,fun _ _ _ _ _ _ h=>by cases h⟩
 ·exact ht e he
end
end Go.Run
namespace Go.Run
open Go.HL
variable {σ:Nat->Value} {F:Nat->Option Obj} {φ:Phi} {A:AH} {H:A3} {P:Program} {V:HV}
section
abbrev sqL (c:Code):Code:=@Code.rec (fun _=>Code) .skip (fun _ _ _=>.skip) (fun a _ _ _=>a) (fun _ _ _ _ _=>.skip) (fun _ _ _=>.skip) (fun _ _=>.skip) (fun _ _ _ _ _ _=>.skip) (fun _=>.skip) (fun _ _=>.skip) (fun _=>.skip) (fun _=>.skip) .skip (fun _=>.skip) c
abbrev sqR (c:Code):Code:=@Code.rec (fun _=>Code) .skip (fun _ _ _=>.skip) (fun _ b _ _=>b) (fun _ _ _ _ _=>.skip) (fun _ _ _=>.skip) (fun _ _=>.skip) (fun _ _ _ _ _ _=>.skip) (fun _=>.skip) (fun _ _=>.skip) (fun _=>.skip) (fun _=>.skip) .skip (fun _=>.skip) c
abbrev Rb (c:Code):Array Oper:=@Code.rec (fun _=>Array Oper) #[] (fun _ o _=>o) (fun _ _ _ _=>#[]) (fun _ _ _ _ _=>#[]) (fun _ _ _=>#[]) (fun _ _=>#[]) (fun _ _ _ _ _ _=>#[]) (fun _=>#[]) (fun _ _=>#[]) (fun _=>#[]) (fun _=>#[]) #[] (fun _=>#[]) c
abbrev dfA (l:List Oper):List Operand:=match l with
 | []=>[]
 | [o]=>(match o.op with | .defer c=>c.args.toList | _=>[])
 | _ :: l=>dfA l
def G9 (P:Program) (g:FuncId) (args:Array Value) (H:A3) (R:A3->Prop):Prop :=
 ∀ (w:World),w.heap=H->CallsD P g args .returning w fun e u' w'=>u'=.returning/\HL.Rest w w'/\(∃ v,e=.returned v)/\R w'.heap
theorem Kg {g:FuncId} {fn:Func} {c:Code} {args:Array Value} {R:A3->Prop}
  (hf:P.funcs[g]?=some fn) (hb:fn.body=some c) (hs:args.size<=fn.ntmps)
  (h:CW fn.ntmps P c (PG P fn (fun _ H=>R H) (fun _ _=>False)) (B2 args) H):G9 P g args H R:=by
 intro w hw
 refine CallsD.mono (callsD_of_wp (R:=fun e w'=>HL.Rest w w'/\(∃ v,e=.returned v)/\R w'.heap) hf hb ?_) fun e u' w' ⟨h1,h2⟩=>⟨h1,h2⟩
 refine wp_mono (h w w _ (Rest.refl w) hw ⟨?_,fun t=>?_,rfl⟩) ?_
 ·simp; omega
 ·simp only [B2]
  rw [Jn,Jn,X0]
  split
  ·rfl
  ·rename_i ht
   rw [Z5 (xs:=args) (by omega),Yo]
   split <;> rfl
 ·rintro e a' w' ⟨hr,U',ha',hx⟩
  cases e with
  | normal =>
   obtain ⟨hd,v,hv,hR⟩:=hx;exact ⟨ha'.2.2.trans hd,v,by rw [DD ha']; exact Bo P _ w' v hv,hr,⟨v,rfl⟩,hR⟩
  | ret =>
   obtain ⟨hd,v,hv,hR⟩:=hx;exact ⟨ha'.2.2.trans hd,v,by rw [DD ha']; exact Bo P _ w' v hv,hr,⟨v,rfl⟩,hR⟩
  | panic ch=>exact hx.2.elim
  | _=>exact hx.elim
def DOK (P:Program) (f n:Nat) (g:FF n):Prop :=
 ∀ (σ:Nat->Value) (F:Nat->Option Obj) (φ:Phi) (A:AH) (H:A3) (args:List AV) (ws:List Value) (K:AV->AH->Bool),Rel σ F φ A H->VRl σ φ args ws->Ef n g args A K=true->G9 P f ws.toArray H fun H'=>∃ v,RK σ F φ K v H'
theorem YC {f:Nat} {fn:Func} {c:Code} {rs:List ResultVar} {n m:Nat} {T:TR} {Tb:FT} {an:(AV->AH->Bool)->An} {G:FF m} (hm:P.follows .mixedOrders=true) (hT:Bl P T) (hTb:TOK P Tb)
  (hf:P.funcs[f]?=some fn) (hb:fn.body=some c) (hn:fn.ntmps=n) (hrs:fn.results=rs.toArray) (hmn:Nat.ble m n=true)
  (hF:G=QE (fun U A K=>D9 T Tb c (an K) (knK T rs K) U A) m 0 noA) (hg:∀ K,Hh T Tb n c (an K) (knK T rs K)):DOK P f m G:=by
 intro σ F φ A H args ws K hr hv hk
 rw [hF] at hk
 have hlen:=He m G args (by rw [hF]; exact hk)
 obtain ⟨U,h1,h2⟩:=Hf (σ:=σ) (φ:=φ) (fun U A K=>D9 T Tb c (an K) (knK T rs K) U A) m 0 noA args ws (B2 ws.toArray).get hk hv (fun u=>by simp [noA,VR]) (fun j w hj=>by
  simp only [B2,Zv];rw [Jn];simp [hj])
 have hsz:ws.length<=n:=by have:=hv.length; have:=Ja hmn; omega
 subst hn
 refine Kg hf hb (by simpa using hsz) ?_
 refine CW.mono (D0 (R:=fun _ H'=>∃ v,RK σ F φ K v H') hrs) (Fy c _ _ _ ?_)
 have ret:KOK σ F [] φ (fun U A=>Q5 T rs U A fun l=>K (Lw l) A) fun e H=>e.ds = []/\Cr P e H rs fun vs=>∃ v,RK σ F φ K v H:=by
  intro φ' A U e H h1 h2 h3 h4;exact ⟨h3.ds,GE hT h2 h3.er rs _ _ h4 fun l ws h5 h6=>⟨_,φ',Lw l,A,h1,Lv h5,h2,h6⟩⟩
 refine LL hm hT hTb c (an K) (knK T rs K) (hg K) _ φ ⟨ret,ret,?_,?_⟩ φ A U (B2 ws.toArray) H φ.le_refl hr ⟨h1,rfl⟩ h2
 ·intro i φ' A U e H _ _ _ h; cases h
 ·intro c U U' H hd h
  exact ⟨hd ▸ h.1,h.2⟩
def Gm (P:Program) (rs:List ResultVar) (R:Value->A3->Prop):Exit->En->A3->Prop
 | .normal,U,H | .ret,U,H=>∃ g cap aZ fng,U.ds = [⟨.fn (.func g) cap,aZ⟩]/\P.funcs[g]?=some fng/\fng.body.isSome=true/\(fng.name == "runtime.NumGoroutine")=false /\
   G9 P g (aZ ++ cap) H fun H'=>Cr P U H' rs fun vs=>R (FG vs) H'
 | _,_,_=>False
theorem VX {fn:Func} {rs:List ResultVar} {R:Value->A3->Prop} {U:En} (hr:fn.results=rs.toArray) (h:Cr P U H rs fun vs=>R (FG vs) H):∃ v,Ac P (Og fn U) H=some v/\R v H:=by
 have:=D0 (P:=P) (R:=R) (E:=fun _ _=>False) hr .normal { U with ds:=[] } H ⟨rfl,by
  have key:∀ (rs:List ResultVar) (k:List Value->Prop),Cr P U H rs k->Cr P { U with ds:=[] } H rs k:=by
   intro rs;induction rs with
   | nil=>intro k h; exact h
   | cons r rs ih =>
    intro k h;cases r with
    | tmp t=>exact ih _ h
    | cell a t =>
     unfold Cr at h ⊢;unfold GJ at h ⊢;show (match U.get a with | .pointer (some ad)=>_ | _=>_);split at h
     ·rename_i ad ha;simp only [ha];rw [Aq] at h ⊢;obtain ⟨v,h1,h2⟩:=h;exact ⟨v,h1,ih _ h2⟩
     ·exact h.elim
  exact key rs _ h⟩
 obtain ⟨_,v,h1,h2⟩:=this;exact ⟨v,h1,h2⟩
theorem I1 {f:FuncId} {fn:Func} {c:Code} {args:List Value} {rs:List ResultVar} {n:Nat} {R:Value->A3->Prop}
  (hf:P.funcs[f]?=some fn) (hb:fn.body=some c) (hn:fn.ntmps=n) (hr:fn.results=rs.toArray) (hm:(fn.name == "runtime.NumGoroutine")=false)
  (hs:decide (args.length<=n)=true)
  (h:CW n P c (Gm P rs R) (B2 args.toArray) H):CallF P f args H R NoP:=by
 unfold CallF callFunc
 rw [Az]
 show hwp P (match P.funcs[f]? with | none=>_ | some fn=>_) H _ _
 rw [hf]
 simp only [hm,Z7,Z3,hb,X8]
 show HCalls P f args.toArray H R NoP
 subst hn
 intro w hw
 refine calls_of_wp_defers hf hb ?_
 refine wp_mono (h w w _ (Rest.refl w) hw ⟨?_,fun t=>?_,rfl⟩) ?_
 ·have:=Xn hs; simp; omega
 ·simp only [B2]
  rw [Jn,Jn,X0]
  split
  ·rfl
  ·rename_i ht
   rw [Z5 (xs:=args.toArray) (by omega),Yo]
   split <;> rfl
 ·have key:∀ (a':Act) (w':World) (U':En),HL.Rest w w'->Ag fn.ntmps a' U'->Gm P rs R .ret U' w'.heap->Leaves P fn a'.tmps (fun e w'=>HL.Rest w w'/\match e with
    | .returned v=>R v w'.heap
    | .panicked c=>NoP c w'.heap
    | .outgrown=>False) a'.defers .returning w':=by
   rintro a' w' U' hrest ha' ⟨g,cap,aZ,fng,hd,hfg,hbg,hng,hcall⟩
   rw [ha'.2.2,hd]
   refine ⟨by simp,.func g,cap,g,aZ ++ cap,rfl,?_,(hcall w' rfl).mono ?_⟩
   ·have:Ac P (invoke (.fn (.func g) cap) aZ) w'.heap=some (.enter g (aZ ++ cap)):=by
     show Ac P (callFunc g (aZ ++ cap)) w'.heap=_;unfold callFunc;rw [A4];show Ac P (match P.funcs[g]? with | none=>_ | some fn=>_) _=_;rw [hfg];cases hb':fng.body with
     | none=>rw [hb'] at hbg; cases hbg
     | some c'=>simp only [hng,Z7,Z3,hb',X8]; rfl
    exact Bo P _ w' _ this
   ·rintro e u' w'' ⟨rfl,hr1,⟨v,rfl⟩,hR⟩
    obtain ⟨v',hv',hR'⟩:=VX hr hR
    exact ⟨v',by rw [DD ha']; exact Bo P _ w'' v' hv',hrest.trans hr1,hR'⟩
  rintro e a' w' ⟨hrest,U',ha',hx⟩
  cases e with
  | normal=>exact key a' w' U' hrest ha' hx
  | ret=>exact key a' w' U' hrest ha' hx
  | _=>exact hx.elim
abbrev Pp (r:ResultVar):Bool:=match r with | .tmp _=>true | _=>false
theorem S7 {f g id nd:Nat} {fn fng:Func} {c0 c2:Code} {opsD:Array Oper} {l0:List Oper} {dargs:Array Operand} {ats:Array TypeId} {ty:TypeId} {pos:String} {aft:Array Edge} {rs:List ResultVar} {n m:Nat} {T:TR} {Tb:FT} {a0:An} {a2:(AV->AH->Bool)->An} {G:FF m} {gd:FF nd}
  (hm:P.follows .mixedOrders=true) (hT:Bl P T) (hTb:TOK P Tb)
  (hf:P.funcs[f]?=some fn) (hb:fn.body=some (.seq c0 (.seq (.region id opsD false) c2))) (hn:fn.ntmps=n) (hrs:fn.results=rs.toArray) (hname:(fn.name == "runtime.NumGoroutine")=false) (hmn:Nat.ble m n=true)
  (hops:opsD.toList=l0 ++ [⟨none,.defer ⟨.value (.func g),dargs,ats⟩,ty,pos,aft,none⟩])
  (hgd:DOK P g nd gd) (hfg:P.funcs[g]?=some fng) (hbg:fng.body.isSome=true) (hng:(fng.name == "runtime.NumGoroutine")=false) (hrt:rs.all Pp=true) (hl0:B8 n l0=true)
  (hF:G=QE (fun U A K=>D9 T Tb c0 a0 ⟨fun U A=>Cl T Tb opsD l0 U A (fun U A=>D9 T Tb c2 (a2 fun v A'=>Ef nd gd (dargs.toList.map (ev U)) A' fun _ A''=>K v A'') (knK T rs fun v A'=>Ef nd gd (dargs.toList.map (ev U)) A' fun _ A''=>K v A'') U A),noK,fun _=>noK⟩ U A) m 0 noA)
  (hg0:∀ kn,Hh T Tb n c0 a0 kn) (hg2:∀ K,Hh T Tb n c2 (a2 K) (knK T rs K)):FOK P f m G:=by
 intro σ F φ A H args ws K hr hv hk
 rw [hF] at hk
 have hlen:=He m G args (by rw [hF]; exact hk)
 obtain ⟨U,h1,h2⟩:=Hf (σ:=σ) (φ:=φ) (fun U A K=>D9 T Tb c0 a0 ⟨fun U A=>Cl T Tb opsD l0 U A (fun U A=>D9 T Tb c2 (a2 fun v A'=>Ef nd gd (dargs.toList.map (ev U)) A' fun _ A''=>K v A'') (knK T rs fun v A'=>Ef nd gd (dargs.toList.map (ev U)) A' fun _ A''=>K v A'') U A),noK,fun _=>noK⟩ U A) m 0 noA args ws (B2 ws.toArray).get hk hv (fun u=>by simp [noA,VR]) (fun j w hj=>by
  simp only [B2,Zv];rw [Jn];simp [hj])
 refine I1 hf hb hn hrs hname (by have:=hv.length; have:=Ja hmn; simp; omega) (Fy _ _ _ _ ?_)
 have hbad:∀ (D:List Deferred) (R:En->A3->Prop),KOK σ F D φ noK R:=fun D R φ' A U e H _ _ _ h=>by cases h
 have hpan:PanOK (Gm P rs (RK σ F φ K)):=fun c U U' H _ h=>h.elim
 have last:∀ (φ1:Phi) (U1:Nat->AV) (e1:En),φ.le φ1->ER σ φ1 U1 e1->KOK σ F [⟨.fn (.func g) #[],(dargs.toList.map e1.ev).toArray⟩] φ1
   (fun U A=>Q5 T rs U A fun l=>Ef nd gd (dargs.toList.map (ev U1)) A fun _ A''=>K (Lw l) A'')
   (fun e H=>Gm P rs (RK σ F φ K) .ret e H):=by
  intro φ1 U1 e1 hle1 her1 φ' A U e H h1 h2 h3 h4
  refine ⟨g,#[],_,fng,h3.ds,hfg,hbg,hng,?_⟩
  rw [Array.append_empty]
  have hres:Cr P e H rs fun vs=>G9 P g (dargs.toList.map e1.ev).toArray H fun H'=>RK σ F φ K (FG vs) H':=by
   refine GE hT h2 h3.er rs _ _ h4 fun l ws h5 h6=>?_;have hargs:VRl σ φ' (dargs.toList.map (ev U1)) (dargs.toList.map e1.ev):=VRl.mono h1 _ _ (Gl her1 dargs.toList);have:=hgd σ F φ' A H _ _ _ h2 hargs h6;intro w hw;refine (this w hw).mono ?_;rintro e' u' w' ⟨a1,a2,a3,v,φ'',av,A'',b1,b2,b3,b4⟩;exact ⟨a1,a2,a3,φ'',Lw l,A'',(hle1.trans h1).trans b1,VR.mono b1 _ _ (Lv h5),b3,b4⟩
  have key:∀ (rs:List ResultVar) (k:List Value->A3->Prop),rs.all Pp=true->(Cr P e H rs fun vs=>G9 P g (dargs.toList.map e1.ev).toArray H fun H'=>k vs H')->G9 P g (dargs.toList.map e1.ev).toArray H fun H'=>Cr P e H' rs fun vs=>k vs H':=by
   intro rs;induction rs with
   | nil=>intro k _ h; exact h
   | cons r rs ih =>
    intro k ha h;cases r with
    | tmp t=>exact ih (fun vs H'=>k (e.get t :: vs) H') (by simpa [Pp] using ha) h
    | cell _ _=>simp [Pp] at ha
  exact key rs _ hrt hres
 have mid:KOK σ F [] φ (fun U A=>Cl T Tb opsD l0 U A (fun U A=>D9 T Tb c2 (a2 fun v A'=>Ef nd gd (dargs.toList.map (ev U)) A' fun _ A''=>K v A'') (knK T rs fun v A'=>Ef nd gd (dargs.toList.map (ev U)) A' fun _ A''=>K v A'') U A))
   (cw2 n P (.seq (.region id opsD false) c2) (Gm P rs (RK σ F φ K))):=by
  intro φ' A U e H h1 h2 h3 h4
  show Cm n P opsD (D8 (cw2 n P c2 (Gm P rs (RK σ F φ K))) (Gm P rs (RK σ F φ K))) opsD.toList e H
  rw [hops]
  have split:∀ (l1 l2:List Oper) (Q Q':Exit->En->A3->Prop) (e:En) (H:A3),(∀ c e H,Q (.panic c) e H->Q' (.panic c) e H)->(∀ e H,Q .normal e H->Cm n P opsD Q' l2 e H)->Cm n P opsD Q l1 e H->Cm n P opsD Q' (l1 ++ l2) e H:=by
   intro l1 l2 Q Q' e H hp hn;induction l1 generalizing e H with
   | nil=>intro h; exact hn _ _ h
   | cons o l1 ih =>
    intro h;have mono:∀ {o:Oper} {e:En} {H:A3} {K1 K2:En->A3->Prop},(∀ e H,K1 e H->K2 e H)->Cn n P o e H K1 Q->Cn n P o e H K2 Q':=by
     intro o e H K1 K2 hk hx;unfold Cn at hx ⊢;refine B4 P _ _ _ _ _ _ ?_ (fun v H' hx=>hp _ _ _ hx) hx;intro nx H' hx;cases nx with
     | enter f aZ=>exact hx.mono (fun v H' h=>hk _ _ h) (fun c H' h=>hp _ _ _ h)
     | value v=>exact hk _ _ hx
     | skip=>exact hk _ _ hx
     | defer d=>exact hk _ _ hx
     | _=>exact hx.elim
    show KA n P opsD o e H (Cm n P opsD Q' (l1 ++ l2)) Q';have h:KA n P opsD o e H (Cm n P opsD Q l1) Q:=h;unfold KA at h ⊢;cases hgd:o.guard with
    | none=>rw [hgd] at h; exact mono (fun e H=>ih e H) h
    | some gg =>
     obtain ⟨j,want⟩:=gg;rw [hgd] at h;have h:BO (AZ opsD e j) want (Cn n P o e H (Cm n P opsD Q l1) Q) (Cm n P opsD Q l1 (e.put n o.dst undef) H):=h;show BO (AZ opsD e j) want (Cn n P o e H (Cm n P opsD Q' (l1 ++ l2)) Q') (Cm n P opsD Q' (l1 ++ l2) (e.put n o.dst undef) H);generalize AZ opsD e j=w at h;cases w with
     | bool b=>exact ⟨fun x=>mono (fun e H=>ih e H) (h.1 x),fun x=>ih _ _ (h.2 x)⟩
     | _=>exact ih _ _ h
  refine split l0 _ (fun x e H=>match x with | .normal=>∃ φ'' A'' U'',φ.le φ''/\Rel σ F φ'' A'' H/\ENV σ φ'' [] U'' e/\(D9 T Tb c2 (a2 fun v A'=>Ef nd gd (dargs.toList.map (ev U'')) A' fun _ A''=>K v A'') (knK T rs fun v A'=>Ef nd gd (dargs.toList.map (ev U'')) A' fun _ A''=>K v A'') U'' A'')=true | _=>False) _ e H ?_ ?_ ?_
  ·intro c e H h; exact h.elim
  ·rintro e H ⟨φ'',A'',U'',k1,k2,k3,k4⟩
   show KA n P opsD _ e H _ _
   unfold KA
   show Cn n P _ e H _ _
   unfold Cn
   have hx:Ac P (execOp e.ev ⟨none,.defer ⟨.value (.func g),dargs,ats⟩,ty,pos,aft,none⟩) H=some (.defer ⟨.fn (.func g) #[],dargs.map e.ev⟩):=by
    show Ac P (do pure (Next.defer (<- Deferred.ofValue (e.ev (.func g)) (dargs.map e.ev)))) H=_;rw [A4];show (Ac P (Deferred.ofValue (.func (.func g) #[] #[]) (dargs.map e.ev)) H).bind _=_;have:Ac P (Deferred.ofValue (.func (.func g) #[] #[]) (dargs.map e.ev)) H=some ⟨.fn (.func g) #[],dargs.map e.ev⟩:=by
     show Ac P (pure (Deferred.mk (.fn (.func g) #[]) (#[] ++ dargs.map e.ev))) H=_;rw [Array.empty_append];rfl
    rw [this];rfl
   refine Df P _ H _ _ _ hx ?_
   show cw2 n P c2 (Gm P rs (RK σ F φ K)) (En.put n { e with ds:=_ :: e.ds } none undef) H
   have hds:e.ds = []:=k3.ds
   have hda:dargs.map e.ev=(dargs.toList.map e.ev).toArray:=by apply Zk; simp
   have hen:(En.put n { e with ds:=(Deferred.mk (.fn (.func g) #[]) (dargs.map e.ev)) :: e.ds } none undef) = { e with ds:=[Deferred.mk (.fn (.func g) #[]) (dargs.toList.map e.ev).toArray] }:=by
    show ({ e with ds:=_ :: e.ds }:En)=_;rw [hds,hda]
   rw [hen]
   have lst:=last φ'' U'' e k1 k3.er
   have:=LL (D:=[⟨.fn (.func g) #[],(dargs.toList.map e.ev).toArray⟩]) hm hT hTb c2 _ _ (hg2 fun v A'=>Ef nd gd (dargs.toList.map (ev U'')) A' fun _ A''=>K v A'') (Gm P rs (RK σ F φ K)) φ''
    ⟨lst,lst,fun i φ' A U e H _ _ _ h=>(by cases h),hpan⟩
   exact this φ'' A'' U'' { e with ds:=[⟨.fn (.func g) #[],(dargs.toList.map e.ev).toArray⟩] } H φ''.le_refl k2 ⟨k3.er,rfl⟩ k4
  ·refine Hn (D:=[]) hT hTb l0 φ' U A e H hl0 h2 h3 ?_ h4
   intro φ'' A'' U'' e'' H'' a1 a2 a3 a4
   exact ⟨φ'',A'',U'',h1.trans a1,a2,a3,a4⟩
 refine LL (D:=[]) hm hT hTb c0 a0 _ (hg0 _) (D8 (cw2 n P (.seq (.region id opsD false) c2) (Gm P rs (RK σ F φ K))) (Gm P rs (RK σ F φ K))) φ ⟨mid,hbad _ _,fun i=>hbad _ _,hpan.seq⟩ φ A U (B2 ws.toArray) H φ.le_refl hr ⟨h1,rfl⟩ h2
end
end Go.Run
namespace Go.Run
open Go.HL
variable {σ:Nat->Value} {F:Nat->Option Obj} {φ:Phi} {A:AH} {H:A3} {P:Program} {V:HV}
section
def A0:AH:=⟨Ce (Ce (Ce (Ce (Ce .no)))),⟨.d0,.d0,.d0,.d0,.d0⟩⟩
def yes:AV->AH->Bool:=fun v _=>v.y0 (fun b=>b) false
abbrev s0:Nat->Value:=fun _=>undef
abbrev p0:Phi:=fun _=>none
theorem SG (i:Id):A0.get i=.no:=by
 unfold A0 AH.get;simp only [Iz]
theorem T6 {f m:Nat} {G:FF m} (h:FOK P f m G) {args:List AV} {ws:List Value} (hv:VRl s0 p0 args ws) (hk:Ef m G args A0 yes=true):CallF P f ws H (fun r H'=>r=.bool true/\Fr [] H H') NoP:=by
 have hr:Rel s0 (fun r=>H[r]?) p0 A0 H:=⟨fun i e h=>(by cases h),fun i=>(by rw [SG]; trivial),fun i j e e' h=>absurd (SG i) h,fun r o h=>h,fun r h=>by simp [O5,undef] at h⟩;refine (h s0 _ p0 A0 H args ws yes hr hv hk).mono ?_ (fun _ _ x=>x);rintro v H' ⟨φ,a,A',_,h1,h2,h3⟩;refine ⟨?_,?_,?_⟩
 ·cases a with
  | b x =>
   have:x=true:=h3;subst this;simpa [VR] using h1
  | _=>cases h3
 ·by_cases hz:H.size=0
  ·omega
  ·have h4:=h2.frm (H.size - 1) H[H.size - 1] (Zd (by omega));have:=(Z8.1 h4).1;omega
 ·intro b hb _;have:=h2.frm b H[b] (Zd hb);rw [this,Zd hb]
end
end Go.Run
namespace Go.Run
open Go.HL
variable {σ:Nat->Value} {F:Nat->Option Obj} {φ:Phi} {A:AH} {H:A3} {P:Program} {V:HV}
section
theorem j49 {g:IntKind} {x:Int} {k:AV->Bool}:PA .i64 (.z g x) k=mkI .i64 (IntKind.i64.wrap x) k:=rfl
set_option maxRecDepth 100000
end
end Go.Run
namespace Go.Run
open Go.HL
variable {P:Program}
section
inductive SA where
 | z
 | s (a b:SA)
 | c (a b:SA)
 | b (a:SA)
 | l (l:List Nat) (m:Nat) (a:SA)
 | d (p:Plan)
abbrev SA.onS {α:Sort 1} (x:SA) (z:α) (k:SA->SA->α):α:=@SA.rec (fun _=>α) z (fun a b _ _=>k a b) (fun _ _ _ _=>z) (fun _ _=>z) (fun _ _ _ _=>z) (fun _=>z) x
abbrev SA.onC {α:Sort 1} (x:SA) (z:α) (k:SA->SA->α):α:=@SA.rec (fun _=>α) z (fun _ _ _ _=>z) (fun a b _ _=>k a b) (fun _ _=>z) (fun _ _ _ _=>z) (fun _=>z) x
abbrev SA.onB {α:Sort 1} (x:SA) (z:α) (k:SA->α):α:=@SA.rec (fun _=>α) z (fun _ _ _ _=>z) (fun _ _ _ _=>z) (fun a _=>k a) (fun _ _ _ _=>z) (fun _=>z) x
abbrev SA.onL {α:Sort 1} (x:SA) (z:α) (k:List Nat->Nat->SA->α):α:=@SA.rec (fun _=>α) z (fun _ _ _ _=>z) (fun _ _ _ _=>z) (fun _ _=>z) (fun l m a _=>k l m a) (fun _=>z) x
abbrev SA.onD {α:Sort 1} (x:SA) (z:α) (k:Plan->α):α:=@SA.rec (fun _=>α) z (fun _ _ _ _=>z) (fun _ _ _ _=>z) (fun _ _=>z) (fun _ _ _ _=>z) k x
def gF (l:List Nat) (f:Kt->Kt) (m:Nat):JF l.length:=@Nat.rec (fun _=>JF l.length) (cur l noK noA) (fun _ ih=>cur l (f (jmp l ih)) noA) m
def mkA (T:TR) (Tb:FT) (c:Code):SA->KN->An :=
 @Code.rec (fun _=>SA->KN->An)
  (fun _ _=>.z)
  (fun _ _ _ sa _=>sa.onD .z fun p=>.d p)
  (fun _ y ix iy sa kn=>sa.onS .z fun a b=>.s (ix a (kn.to (D9 T Tb y (iy b kn) kn))) (iy b kn))
  (fun _ _ _ ix iy sa kn=>sa.onC .z fun a b=>.c (ix a kn) (iy b kn))
  (fun id _ ix sa kn=>sa.onB .z fun a=>.b (ix a (kn.blk id)))
  (fun x ix sa kn=>sa.onL .z fun l m a=>.l l (gF l fun k=>D9 T Tb x (ix a (kn.to k)) (kn.to k)) m fun j=>ix a (kn.to (jmp l (gF l (fun k=>D9 T Tb x (ix a (kn.to k)) (kn.to k)) j))))
  (fun _ _ _ _ _ _ _ _=>.z)
  (fun _ _ _=>.z)
  (fun _ _ _ _=>.z)
  (fun _ _ _=>.z)
  (fun _ _ _=>.z)
  (fun _ _=>.z)
  (fun _ _ _=>.z) c
def S5 (n:Nat) (c:Code):SA->Bool :=
 @Code.rec (fun _=>SA->Bool)
  (fun _=>true)
  (fun _ ops draw sa=>@Bool.rec (fun _=>Bool) (B8 n ops.toList) (sa.onD true fun p=>@Bool.rec (fun _=>Bool) false (IP ops.toList p) (B8 n ops.toList)) draw)
  (fun _ _ ix iy sa=>sa.onS true fun a b=>@Bool.rec (fun _=>Bool) false (iy b) (ix a))
  (fun _ _ _ ix iy sa=>sa.onC true fun a b=>@Bool.rec (fun _=>Bool) false (iy b) (ix a))
  (fun _ _ ix sa=>sa.onB true fun a=>ix a)
  (fun _ ix sa=>sa.onL true fun _ _ a=>ix a)
  (fun _ _ _ _ _ _ _=>true)
  (fun _ _=>true)
  (fun _ _ _=>true)
  (fun _ _=>true)
  (fun _ _=>true)
  (fun _=>true)
  (fun _ _=>true) c
theorem Kn {a b:Bool} (h:@Bool.rec (fun _=>Bool) false b a=true):a=true/\b=true:=by cases a with
 | true=>exact ⟨rfl,h⟩
 | false=>cases h
theorem Md {T:TR} {Tb:FT} {n:Nat}:∀ (c:Code) (sa:SA) (kn:KN),S5 n c sa=true->Hh T Tb n c (mkA T Tb c sa kn) kn:=by
 intro c;induction c with
 | region id ops draw =>
  intro sa kn h;cases draw with
  | false =>
   have h5:B8 n ops.toList=true:=h;cases sa <;> exact h5
  | true =>
   cases sa with
   | d p=>exact Kn h
   | _=>trivial
 | seq x y ihx ihy =>
  intro sa kn h;cases sa with
  | s a b =>
   have h:=Kn h;exact ⟨ihx _ _ h.1,ihy _ _ h.2⟩
  | _=>trivial
 | cond c x y ihx ihy =>
  intro sa kn h;cases sa with
  | c a b =>
   have h:=Kn h;exact ⟨ihx _ _ h.1,ihy _ _ h.2⟩
  | _=>trivial
 | block id x ih =>
  intro sa kn h;cases sa with
  | b a=>exact ih a _ h
  | _=>trivial
 | loop x ih =>
  intro sa kn h;cases sa with
  | l l m a =>
   refine ⟨fun U A=>Ma noK U A l noA,fun j=>⟨fun U A=>Ma _ U A l noA,ih a _ h⟩⟩
  | _=>trivial
 | _=>intro sa kn h; cases sa <;> trivial
structure FA where
 f:Nat
 m:Nat
 fn:Func
 sa:SA
abbrev FA.code (x:FA):Code:=x.fn.body.getD .skip
def FA.run (T:TR) (Tb:FT) (x:FA):FF x.m:=QE (fun U A K=>D9 T Tb x.code (mkA T Tb x.code x.sa (knK T x.fn.results.toList K)) (knK T x.fn.results.toList K) U A) x.m 0 noA
structure FA.OK (P:Program) (x:FA):Prop where
 hf:P.funcs[x.f]?=some x.fn
 hb:x.fn.body=some x.code
 hname:(x.fn.name == "runtime.NumGoroutine")=false
 hmn:Nat.ble x.m x.fn.ntmps=true
 hg:S5 x.fn.ntmps x.code x.sa=true
theorem FA.OK.fok {x:FA} {T:TR} {Tb:FT} (h:x.OK P) (hm:P.follows .mixedOrders=true) (hT:Bl P T) (hTb:TOK P Tb):FOK P x.f x.m (x.run T Tb) :=
 XO hm hT hTb h.hf h.hb rfl (by rw [Yr]) h.hname h.hmn rfl fun K=>Md _ _ _ h.hg
def tbl (T:TR) (L:List FA) (S:FT->FT):Nat->FT:=fun d=>@Nat.rec (fun _=>FT) [] (fun _ ih=>@List.rec FA (fun _=>FT) (S ih) (fun x _ r=>⟨x.f,x.m,x.run T ih,noP⟩ :: r) L) d
theorem Vr {T:TR} {L:List FA} {S:FT->FT} (hm:P.follows .mixedOrders=true) (hT:Bl P T) (hL:∀ x ∈ L,x.OK P) (hS:∀ Tb,TOK P Tb->TOK P (S Tb)):∀ d,TOK P (tbl T L S d):=by
 intro d;induction d with
 | zero=>exact TOK.nil
 | succ d ih =>
  have key:∀ (Tb:FT),TOK P Tb->∀ M:List FA,(∀ x ∈ M,x.OK P)->TOK P (@List.rec FA (fun _=>FT) (S Tb) (fun x _ r=>⟨x.f,x.m,x.run T Tb,noP⟩ :: r) M):=by
   intro Tb hTb M;induction M with
   | nil=>intro _; exact hS Tb hTb
   | cons x M ihM =>
    intro hM;exact TOK.cons ((hM x (by simp)).fok hm hT hTb) (ihM fun y hy=>hM y (by simp [hy]))
  exact key _ ih L hL
end
end Go.Run
namespace Go.Run
open Go.HL
set_option maxRecDepth 100000
section
def tS (t:Nat):TI:=⟨.slice t,1,24,[.nil 1],.nil 1,[],none,none⟩
def tP (t:Nat):TI:=⟨.ptr t,1,8,[.nil 0],.nil 0,[],none,none⟩
def tM (t e:Nat):TI:=⟨.map t e,1,8,[.nil 2],.nil 2,[],none,none⟩
def tI:TI:=⟨.int .i64,1,8,[.n 0],.n 0,[],none,none⟩
def TR.fl:TR->List (Nat × TI)
 | .lf t i=>[(t,i)]
 | .nd _ l r=>l.fl ++ r.fl
def tyF (P:Program) (t:Nat):=((P.underlying t).map BZ,Au P t,Bq P t,(AD P t).map (fun z=>z.cells.toList.map cv1),(AD P t).map cv1,Mf P t,Ch P t,Mh P t)
def tyG (i:TI):=(some i.k,some i.size,some i.bytes,some i.zero,some i.zv,i.flds,i.pl,i.eqk)
theorem Vq {P:Program} {t:Nat} {i:TI} (h:tyF P t=tyG i) (hl:Nat.beq i.zero.length i.size=true):TIok P t i:=by
 simp only [tyF,tyG,Jx] at h;obtain ⟨h1,h2,h3,h4,h5,h6,h7,h8⟩:=h;exact ⟨h1,h2,h3,h4,J9 hl,h5,h6,h7,h8⟩
theorem O4 {P:Program}:∀ (T:TR),T.fl.map (fun x=>tyF P x.1)=T.fl.map (fun x=>tyG x.2)->T.fl.all (fun x=>Nat.beq x.2.zero.length x.2.size)=true->T.OK P
 | .lf t i,h,hl=>Vq (by simpa [TR.fl] using h) (by simpa [TR.fl] using hl)
 | .nd m l r,h,hl=>by
  simp only [TR.fl,Zf,Wm,Jd] at h hl;have h:=List.append_inj h (by simp);exact ⟨O4 l h.1 hl.1,O4 r h.2 hl.2⟩
def Ty:TR:=.nd 100 (.nd 56 (.nd 36 (.nd 9 (.nd 4 (.nd 3 (.lf 2 tI) (.lf 3 tI)) (.nd 5 (.lf 4 ⟨.bool,1,1,[.b false],.b false,[],none,none⟩) (.lf 5 ⟨.int .u8,1,1,[.z .u8 0],.z .u8 0,[],none,none⟩))) (.nd 23 (.nd 22 (.lf 9 ⟨.str,1,16,[.s []],.s [],[],none,none⟩) (.lf 22 (tS 23))) (.nd 26 (.lf 23 (tS 3)) (.nd 27 (.lf 26 (tP 68)) (.lf 27 tI))))) (.nd 45 (.nd 41 (.nd 39 (.lf 36 (tS 79)) (.lf 39 (tS 88))) (.nd 44 (.lf 41 ⟨.struct,2,16,[.n 0,.n 0],.u,[(0,27),(1,3)],some [(0,1),(1,1)],some [(0,0),(1,0)]⟩) (.lf 44 (tS 97)))) (.nd 48 (.nd 46 (.lf 45 (tS 99)) (.lf 46 (tS 102))) (.nd 51 (.lf 48 ⟨.struct,7,136,[.nil 1,.n 0,.nil 1,.nil 1,.nil 1,.nil 1,.b false],.u,[(0,39),(1,3),(2,44),(3,45),(4,46),(5,23),(6,4)],some [(0,1),(1,1),(2,1),(3,1),(4,1),(5,1),(6,1)],none⟩) (.nd 53 (.lf 51 (tS 165)) (.lf 53 ⟨.struct,4,48,[.n 0,.n 0,.n 0,.nil 1],.u,[(0,3),(1,3),(2,3),(3,51)],some [(0,1),(1,1),(2,1),(3,1)],none⟩)))))) (.nd 79 (.nd 63 (.nd 61 (.nd 58 (.lf 56 ⟨.struct,4,24,[.n 0,.n 0,.b false,.b false],.u,[(0,3),(1,3),(2,4),(3,4)],some [(0,1),(1,1),(2,1),(3,1)],some [(0,0),(1,0),(2,1),(3,1)]⟩) (.lf 58 (tP 119))) (.nd 62 (.lf 61 (tS 4)) (.lf 62 (tS 64)))) (.nd 66 (.nd 64 (.lf 63 (tS 179)) (.lf 64 (tS 124))) (.nd 68 (.lf 66 ⟨.struct,15,264,[.nil 0,.nil 1,.nil 1,.nil 1,.nil 1,.nil 1,.nil 1,.nil 1,.nil 1,.n 0,.n 0,.nil 1,.n 0,.n 0,.b false],.u,[(0,58),(1,62),(2,63),(3,23),(4,64),(5,61),(6,61),(7,23),(8,23),(9,3),(10,2),(11,64),(12,3),(13,3),(14,4)],some [(0,1),(1,1),(2,1),(3,1),(4,1),(5,1),(6,1),(7,1),(8,1),(9,1),(10,1),(11,1),(12,1),(13,1),(14,1)],none⟩) (.nd 73 (.lf 68 ⟨.struct,22,384,[.n 0,.nil 1,.n 0,.nil 1,.n 0,.nil 1,.nil 1,.nil 0,.nil 1,.nil 1,.nil 1,.nil 1,.nil 1,.nil 1,.nil 1,.nil 1,.n 0,.n 0,.nil 1,.n 0,.n 0,.b false],.u,[(0,3),(1,22),(2,3),(3,36),(4,3),(5,61),(6,23),(7,66)],some [(0,1),(1,1),(2,1),(3,1),(4,1),(5,1),(6,1),(7,15)],none⟩) (.lf 73 ⟨.func,1,8,[.nil 3],.nil 3,[],none,none⟩))))) (.nd 88 (.nd 83 (.nd 80 (.lf 79 ⟨.struct,2,32,[.b false,.nil 1],.u,[(0,4),(1,23)],some [(0,1),(1,1)],none⟩) (.lf 80 (tS 139))) (.nd 85 (.lf 83 (tP 85)) (.nd 86 (.lf 85 ⟨.struct,5,56,[.nil 1,.n 0,.n 0,.n 0,.n 0],.u,[(0,80),(1,3),(2,3),(3,41)],some [(0,1),(1,1),(2,1),(3,2)],none⟩) (.lf 86 (tS 9))))) (.nd 91 (.nd 89 (.lf 88 ⟨.struct,5,88,[.n 0,.nil 1,.nil 1,.nil 1,.n 0],.u,[(0,3),(1,86),(2,23),(3,23),(4,3)],some [(0,1),(1,1),(2,1),(3,1),(4,1)],none⟩) (.lf 89 (tS 91))) (.nd 97 (.lf 91 ⟨.struct,6,112,[.n 0,.nil 1,.nil 1,.nil 1,.n 0,.nil 1],.u,[(0,88),(5,89)],some [(0,5),(5,1)],none⟩) (.nd 99 (.lf 97 ⟨.struct,5,40,[.s [],.n 0,.n 0,.b false,.b false],.u,[(0,9),(1,3),(2,3),(3,4),(4,4)],some [(0,1),(1,1),(2,1),(3,1),(4,1)],some [(0,2),(1,0),(2,0),(3,1),(4,1)]⟩) (.lf 99 ⟨.struct,3,32,[.s [],.n 0,.n 0],.u,[(0,9),(1,3),(2,3)],some [(0,1),(1,1),(2,1)],some [(0,2),(1,0),(2,0)]⟩))))))) (.nd 170 (.nd 124 (.nd 108 (.nd 104 (.nd 102 (.lf 100 (tS 210)) (.lf 102 ⟨.struct,8,152,[.s [],.n 0,.nil 1,.n 0,.nil 1,.nil 1,.nil 1,.nil 1],.u,[(0,9),(1,3),(2,23),(3,3),(4,61),(5,100),(6,86),(7,23)],some [(0,1),(1,1),(2,1),(3,1),(4,1),(5,1),(6,1),(7,1)],none⟩)) (.nd 106 (.lf 104 (tP 152)) (.lf 106 (tP 167)))) (.nd 119 (.nd 117 (.lf 108 ⟨.struct,3,24,[.nil 0,.nil 0,.n 0],.u,[(0,106),(1,26),(2,3)],some [(0,1),(1,1),(2,1)],none⟩) (.lf 117 (tS 2))) (.nd 122 (.lf 119 ⟨.struct,3,72,[.nil 1,.nil 1,.nil 1],.u,[(0,23),(1,23),(2,117)],some [(0,1),(1,1),(2,1)],none⟩) (.nd 123 (.lf 122 ⟨.func,1,8,[.nil 3],.nil 3,[],none,none⟩) (.lf 123 (tM 3 3)))))) (.nd 153 (.nd 148 (.nd 139 (.lf 124 (tP 182)) (.lf 139 ⟨.struct,3,32,[.n 0,.s [],.n 0],.u,[(0,3),(1,9),(2,3)],some [(0,1),(1,1),(2,1)],some [(0,0),(1,2),(2,0)]⟩)) (.nd 150 (.lf 148 (tP 223)) (.nd 152 (.lf 150 (tS 153)) (.lf 152 ⟨.struct,14,248,[.nil 1,.n 0,.nil 1,.nil 1,.nil 1,.nil 1,.b false,.nil 0,.b false,.b false,.nil 1,.nil 1,.nil 1,.nil 1],.u,[(0,48),(7,148),(8,4),(9,4),(10,150),(11,22),(12,23),(13,23)],some [(0,7),(7,1),(8,1),(9,1),(10,1),(11,1),(12,1),(13,1)],none⟩)))) (.nd 163 (.nd 157 (.lf 153 (tS 3)) (.lf 157 ⟨.struct,4,80,[.nil 1,.nil 1,.nil 1,.n 0],.u,[(0,23),(1,23),(2,22),(3,3)],some [(0,1),(1,1),(2,1),(3,1)],none⟩)) (.nd 165 (.lf 163 ⟨.int .u64,1,8,[.z .u64 0],.z .u64 0,[],none,none⟩) (.nd 167 (.lf 165 ⟨.struct,4,32,[.n 0,.n 0,.n 0,.n 0],.u,[(0,3),(1,3),(2,3),(3,3)],some [(0,1),(1,1),(2,1),(3,1)],some [(0,0),(1,0),(2,0),(3,0)]⟩) (.lf 167 ⟨.struct,3,40,[.nil 0,.nil 2,.nil 1],.u,[(0,148),(1,123),(2,22)],some [(0,1),(1,1),(2,1)],none⟩)))))) (.nd 227 (.nd 205 (.nd 182 (.nd 179 (.lf 170 ⟨.func,1,8,[.nil 3],.nil 3,[],none,none⟩) (.lf 179 ⟨.int .i8,1,1,[.z .i8 0],.z .i8 0,[],none,none⟩)) (.nd 183 (.lf 182 ⟨.struct,3,40,[.nil 1,.n 0,.b false],.u,[(0,23),(1,3),(2,4)],some [(0,1),(1,1),(2,1)],none⟩) (.lf 183 (tP 66)))) (.nd 220 (.nd 210 (.lf 205 ⟨.func,1,8,[.nil 3],.nil 3,[],none,none⟩) (.lf 210 ⟨.struct,8,64,[.n 0,.n 0,.n 0,.n 0,.n 0,.n 0,.b false,.n 0],.u,[(0,3),(1,3),(2,3),(3,3),(4,3),(5,3),(6,4),(7,3)],some [(0,1),(1,1),(2,1),(3,1),(4,1),(5,1),(6,1),(7,1)],some [(0,0),(1,0),(2,0),(3,0),(4,0),(5,0),(6,1),(7,0)]⟩)) (.nd 221 (.lf 220 (tS 231)) (.nd 223 (.lf 221 (tM 231 3)) (.lf 223 ⟨.struct,3,56,[.nil 1,.nil 1,.nil 2],.u,[(0,220),(1,23),(2,221)],some [(0,1),(1,1),(2,1)],none⟩))))) (.nd 268 (.nd 240 (.nd 231 (.lf 227 (tP 270)) (.lf 231 ⟨.struct,2,16,[.n 0,.n 0],.u,[(0,3),(1,3)],some [(0,1),(1,1)],some [(0,0),(1,0)]⟩)) (.nd 247 (.lf 240 tI) (.nd 249 (.lf 247 ⟨.int .u32,1,4,[.z .u32 0],.z .u32 0,[],none,none⟩) (.lf 249 ⟨.int .u64,1,8,[.z .u64 0],.z .u64 0,[],none,none⟩)))) (.nd 279 (.nd 270 (.lf 268 (tS 22)) (.lf 270 ⟨.struct,13,264,[.nil 0,.nil 1,.n 0,.nil 1,.nil 1,.nil 1,.nil 1,.b false,.nil 1,.nil 1,.nil 1,.nil 1,.nil 1],.u,[(0,148),(1,48),(8,22),(9,22),(10,22),(11,268),(12,23)],some [(0,1),(1,7),(8,1),(9,1),(10,1),(11,1),(12,1)],none⟩)) (.nd 281 (.lf 279 ⟨.func,1,8,[.nil 3],.nil 3,[],none,none⟩) (.nd 313 (.lf 281 ⟨.struct,3,40,[.nil 1,.nil 3,.nil 3],.u,[(0,39),(1,279),(2,279)],some [(0,1),(1,1),(2,1)],none⟩) (.lf 313 ⟨.func,1,8,[.nil 3],.nil 3,[],none,none⟩)))))))
theorem PP:Bl Go.Proofs.Tryz.prog Ty:=QW (O4 Ty (by kernel_rfl) (by kernel_rfl))
end
open Go.HL Go.Proofs
set_option maxRecDepth 1000000
section
def lr (b:Bool) (i n:Nat) (p:Plan):Plan:=@Nat.rec (fun _=>Nat->Plan) (fun _=>p) (fun _ ih i=>.look i b (ih (Nat.succ i))) n i
def lt:=lr true
def lf:=lr false
def fu:Nat:=100000
inductive SH where
 | l (l:List Nat) (m:Nat)
 | d (p:Plan)
def j3f (c:Code):Nat:=@Code.rec (fun _=>Nat) 0 (fun _ _ draw=>@Bool.rec (fun _=>Nat) 0 1 draw) (fun _ _ a b=>Nat.add a b) (fun _ _ _ a b=>Nat.add a b) (fun _ _ a=>a) (fun _ a=>Nat.succ a) (fun _ _ _ _ _ _=>0) (fun _=>0) (fun _ _=>0) (fun _=>0) (fun _=>0) 0 (fun _=>0) c
def mkS (c:Code):List SH->SA:=@Code.rec (fun _=>List SH->SA) (fun _=>.z)
 (fun _ _ draw hs=>@Bool.rec (fun _=>SA) .z (@List.rec SH (fun _=>SA) .z (fun x _ _=>@SH.rec (fun _=>SA) (fun _ _=>.z) (fun p=>.d p) x) hs) draw)
 (fun x _ ix iy hs=>.s (ix hs) (iy (hs.drop (j3f x))))
 (fun _ x _ ix iy hs=>.c (ix hs) (iy (hs.drop (j3f x))))
 (fun _ _ ix hs=>.b (ix hs))
 (fun _ ix hs=>@List.rec SH (fun _=>SA) .z (fun x r _=>@SH.rec (fun _=>SA) (fun l m=>.l l m (ix r)) (fun _=>.z) x) hs)
 (fun _ _ _ _ _ _ _=>.z) (fun _ _=>.z) (fun _ _ _=>.z) (fun _ _=>.z) (fun _ _=>.z) (fun _=>.z) (fun _ _=>.z) c
abbrev q (f m:Nat) (fn:Func) (hs:List SH):FA:=⟨f,m,fn,mkS (fn.body.getD .skip) hs⟩
theorem okL {P:Program} {L:List FA} (h1:L.map (fun x=>P.funcs[x.f]?)=L.map (fun x=>some x.fn)) (h2:L.map (fun x=>x.fn.body)=L.map (fun x=>some x.code)) (h3:L.all (fun x=>!(x.fn.name == "runtime.NumGoroutine") && (Nat.ble x.m x.fn.ntmps && S5 x.fn.ntmps x.code x.sa))=true):∀ x ∈ L,x.OK P:=fun x hx=>by
 have h:=Jo.1 h3 x hx;rw [Jd,Jd,Zm] at h;exact ⟨List.map_inj_left.1 h1 x hx,List.map_inj_left.1 h2 x hx,h.1,h.2.1,h.2.2⟩
def s4:FA:=q 4 0 Tryz.f4 []
def s59:FA:=q 59 2 Tryz.f59 [.l [0,1,4,26,27,28] fu,.d (lt 0 9 (lf 9 2 (lt 11 1 (.act 12 (lt 13 1 (.acth 14 .fin)) .non))))]
def saL:List FA:=[s4,s59,q 6 1 Tryz.f6 [],q 7 2 Tryz.f7 [.d (lt 0 1 (.acth 1 (lt 2 3 (lf 7 4 (.act 5 (.act 6 (lt 11 2 .fin) .non) .non)))))],q 8 3 Tryz.f8 [],q 10 1 Tryz.f10 [.l [0,4,14,15,16] fu],q 14 1 Tryz.f14 [.d (lt 0 2 (.act 2 .fin .non)),.d (lt 0 5 (.act 5 .fin .non))],q 15 1 Tryz.f15 [.l [0,2,5,6] fu,.d (lf 0 1 (.lookx 1 (lt 2 23 (.act 25 (.acth 26 (lt 27 1 (.acth 28 .fin))) .non)))),.d (lf 0 1 (.lookx 1 (lt 2 13 (.act 15 (.acth 16 (lt 17 1 (.acth 18 .fin))) .non)))),.d (lf 0 1 (.lookx 1 (lt 2 4 (.act 6 (.acth 7 (lt 8 1 (.acth 9 .fin))) .non)))),.l [0,2,5,8,9] fu,.l [0,2,5,8,9,10,11] fu,.l [0,2,5,8,9,10,11,12,13] fu,.d (lf 0 1 (.lookx 1 (lt 2 6 (.act 8 (.acth 9 (lt 10 1 (.acth 11 .fin))) .non)))),.l [0,2,5,8,9,10,11,12,14] fu,.d (lf 0 1 (.lookx 1 (lt 2 4 (.act 6 (.acth 7 (lt 8 1 (.acth 9 .fin))) .non)))),.d (lf 0 1 (.lookx 1 (lt 2 13 (.act 15 (.acth 16 (lt 17 1 (.acth 18 .fin))) .non)))),.d (lt 0 13 (.act 13 (.act 14 .fin .non) .non))],q 16 2 Tryz.f16 [.l [2,3,4,5,6,7,8,9] fu,.d (lf 0 3 (lt 3 2 (lf 7 1 (.act 5 (.act 6 (.acth 8 (lt 9 1 .fin)) .non) .non))))],q 18 1 Tryz.f18 [.d (lf 0 1 (lf 2 2 (lf 5 2 (.act 1 (.act 4 (.act 7 (lt 8 1 (.acth 9 (lt 10 1 .fin))) .non) (.act 7 (.act 4 (lt 8 1 (.acth 9 (lt 10 1 .fin))) .non) .non)) (.act 4 (.act 1 (.act 7 (lt 8 1 (.acth 9 (lt 10 1 .fin))) .non) (.act 7 (.act 1 (lt 8 1 (.acth 9 (lt 10 1 .fin))) .non) .non)) (.act 7 (.act 1 (.act 4 (lt 8 1 (.acth 9 (lt 10 1 .fin))) .non) (.act 4 (.act 1 (lt 8 1 (.acth 9 (lt 10 1 .fin))) .non) .non)) .non)))))),.l [4,27,28] fu],q 19 1 Tryz.f19 [],q 20 1 Tryz.f20 [.l [3,8,9,10] fu,.l [3,8,9,10,14,15,16] fu],q 21 1 Tryz.f21 [.l [4,5] fu,.d (lt 0 11 .fin)],q 22 2 Tryz.f22 [.l [0,6,7,11,12,13] fu],q 23 1 Tryz.f23 [.d (lt 0 11 .fin),.l [0,12,13,14] fu],q 30 1 Tryz.f30 [.l [0,3,4,5] fu,.l [0,3,4,5] fu,.l [0,3,4,5,6,7] fu,.l [0,3,4,5,6,7] fu],q 31 1 Tryz.f31 [.l [0,2,3] fu,.d (lf 0 2 (lt 2 1 (.act 3 (.act 4 (.acth 5 (lt 6 1 (.acth 7 .fin))) .non) .non)))],q 32 2 Tryz.f32 [.l [1,2,5,6] fu],q 33 2 Tryz.f33 [.l [1,2,5] fu],q 34 1 Tryz.f34 [.l [0,2,4] fu],q 36 4 Tryz.f36 [.d (lf 0 5 (lt 5 8 (.act 13 (.act 14 (.act 15 (lt 16 2 (.acth 18 .fin)) .non) .non) .non))),.d (lf 0 9 (lt 9 4 (.act 13 (.act 14 (.act 15 (.act 16 (lt 17 2 (.acth 19 .fin)) .non) .non) .non) .non)))],q 37 3 Tryz.f37 [.l [2,6,9,10,26,27,28] fu,.l [6,9,13,65,66,67] fu],q 38 2 Tryz.f38 [.d (lt 0 15 (.act 15 (lt 16 1 .fin) .non))],q 39 1 Tryz.f39 [],q 40 3 Tryz.f40 [.l [0,1,7,24,25] fu,.d (lf 0 4 (lt 4 2 (lf 7 1 (.act 6 (.acth 8 (lt 9 1 .fin)) .non)))),.l [0,9,10,11] fu,.l [0,9,10,11,12,13,66,67,68] fu],q 41 2 Tryz.f41 [.l [0,1,6,18,19,20] fu],q 42 1 Tryz.f42 [],q 43 2 Tryz.f43 [],q 48 2 Tryz.f48 [],q 49 1 Tryz.f49 [],q 50 1 Tryz.f50 [],q 51 1 Tryz.f51 [],q 52 2 Tryz.f52 [],q 55 1 Tryz.f55 [.l [0,3] fu,.d (lt 0 10 .fin),.l [0,3,4,5] fu,.d (lt 0 10 .fin)],q 56 1 Tryz.f56 [],q 57 2 Tryz.f57 [.l [0,6,19,20,21] fu,.d (lt 0 6 (.act 6 .fin .non))],q 58 1 Tryz.f58 [.l [0] fu,.d (lt 0 10 .fin),.d (lt 0 12 .fin)],q 60 1 Tryz.f60 [.l [0,3,4] fu,.l [0,3,4] fu],q 63 2 Tryz.f63 [.l [0,1] fu,.l [0] fu],q 73 2 Tryz.f73 [.l [0,1,5] fu],q 74 2 Tryz.f74 [],q 75 1 Tryz.f75 [],q 76 1 Tryz.f76 [],q 77 1 Tryz.f77 [],q 78 2 Tryz.f78 [],q 79 1 Tryz.f79 [],q 80 1 Tryz.f80 [.d (lt 0 10 (.act 10 .fin .non))],q 81 1 Tryz.f81 [.d (lf 0 3 (lt 3 1 (.act 4 (.act 5 (.acth 6 (lt 7 2 (.acth 9 .fin))) .non) .non))),.d (lf 0 3 (lt 3 1 (.act 4 (.act 5 (.acth 6 (lt 7 2 (.acth 9 .fin))) .non) .non))),.d (lf 0 3 (lt 3 1 (.act 4 (.act 5 (.acth 6 (lt 7 2 (.acth 9 .fin))) .non) .non))),.d (lf 0 3 (lt 3 1 (.act 4 (.act 5 (.acth 6 (lt 7 2 (.acth 9 .fin))) .non) .non))),.d (lf 0 3 (lt 3 1 (.act 4 (.act 5 (.acth 6 (lt 7 2 (.acth 9 .fin))) .non) .non))),.d (lf 0 2 (lt 2 1 (.act 3 (.act 4 (.acth 5 (lt 6 1 (.acth 7 .fin))) .non) .non)))],q 82 1 Tryz.f82 [.l [0,2,3] fu],q 83 2 Tryz.f83 [.d (lt 0 21 (lf 22 4 (.act 21 (lt 26 5 (.acth 31 (lt 32 3 .fin))) .non))),.l [0,1,6,7] fu],q 87 1 Tryz.f87 [.l [1,2,3,14,15,16] fu,.d (lf 0 3 (lt 3 2 (.act 5 (lt 6 2 (.acth 8 .fin)) .non))),.d (lf 0 3 (lt 3 2 (.act 5 (lt 6 2 (.acth 8 .fin)) .non))),.d (lf 0 3 (lt 3 2 (.act 5 (lt 6 2 (.acth 8 .fin)) .non))),.l [2,3,63,64,65] fu,.d (lf 0 3 (lt 3 2 (.act 5 (lt 6 2 (.acth 8 .fin)) .non))),.d (lf 0 3 (lt 3 2 (.act 5 (lt 6 2 (.acth 8 .fin)) .non))),.d (lf 0 3 (lt 3 2 (.act 5 (lt 6 2 (.acth 8 .fin)) .non))),.d (lf 0 3 (lt 3 2 (.act 5 (lt 6 2 (.acth 8 .fin)) .non))),.d (lf 0 3 (lt 3 2 (.act 5 (lt 6 2 (.acth 8 .fin)) .non)))],q 88 0 Tryz.f88 [],q 90 1 Tryz.f90 [],q 91 2 Tryz.f91 [.l [7,21,22,23] fu],q 92 1 Tryz.f92 [.d (lf 0 1 (.lookx 1 (lf 2 1 (lf 4 1 (.lookx 5 (lf 6 1 (lf 8 1 (.lookx 9 (lf 10 1 (.act 3 (.act 7 (.act 11 (lf 12 1 (.act 13 (.acth 14 .fin) .non)) (.act 13 (.act 11 (lf 12 1 (.acth 14 .fin)) .non) .non)) (.act 11 (.act 7 (lf 12 1 (.act 13 (.acth 14 .fin) .non)) (.act 13 (.act 7 (lf 12 1 (.acth 14 .fin)) .non) .non)) (.act 13 (.act 7 (.act 11 (lf 12 1 (.acth 14 .fin)) .non) (.act 11 (.act 7 (lf 12 1 (.acth 14 .fin)) .non) .non)) .non))) (.act 7 (.act 3 (.act 11 (lf 12 1 (.act 13 (.acth 14 .fin) .non)) (.act 13 (.act 11 (lf 12 1 (.acth 14 .fin)) .non) .non)) (.act 11 (.act 3 (lf 12 1 (.act 13 (.acth 14 .fin) .non)) (.act 13 (.act 3 (lf 12 1 (.acth 14 .fin)) .non) .non)) (.act 13 (.act 3 (.act 11 (lf 12 1 (.acth 14 .fin)) .non) (.act 11 (.act 3 (lf 12 1 (.acth 14 .fin)) .non) .non)) .non))) (.act 11 (.act 3 (.act 7 (lf 12 1 (.act 13 (.acth 14 .fin) .non)) (.act 13 (.act 7 (lf 12 1 (.acth 14 .fin)) .non) .non)) (.act 7 (.act 3 (lf 12 1 (.act 13 (.acth 14 .fin) .non)) (.act 13 (.act 3 (lf 12 1 (.acth 14 .fin)) .non) .non)) (.act 13 (.act 3 (.act 7 (lf 12 1 (.acth 14 .fin)) .non) (.act 7 (.act 3 (lf 12 1 (.acth 14 .fin)) .non) .non)) .non))) (.act 13 (.act 3 (.act 7 (.act 11 (lf 12 1 (.acth 14 .fin)) .non) (.act 11 (.act 7 (lf 12 1 (.acth 14 .fin)) .non) .non)) (.act 7 (.act 3 (.act 11 (lf 12 1 (.acth 14 .fin)) .non) (.act 11 (.act 3 (lf 12 1 (.acth 14 .fin)) .non) .non)) (.act 11 (.act 3 (.act 7 (lf 12 1 (.acth 14 .fin)) .non) (.act 7 (.act 3 (lf 12 1 (.acth 14 .fin)) .non) .non)) .non))) .non))))))))))))),.l [2,3,20,21,22] fu],q 93 1 Tryz.f93 [],q 94 1 Tryz.f94 [],q 95 1 Tryz.f95 [],q 96 2 Tryz.f96 [],q 97 1 Tryz.f97 [],q 98 1 Tryz.f98 [],q 99 2 Tryz.f99 [],q 100 3 Tryz.f100 [.d (lf 0 2 (lt 2 2 (.act 4 (.acth 5 (lt 6 1 .fin)) .non)))],q 101 1 Tryz.f101 [],q 102 1 Tryz.f102 [.l [1,3,9,10] fu,.l [1,3,4,9,10,19,20] fu,.l [1,3,33,34] fu],q 103 3 Tryz.f103 [.l [0,1,2,7,19,20,21] fu,.l [0,1,2,7,10,11,39,40,41] fu,.d (lt 0 7 (.act 7 .fin .non)),.l [0,2,10,11,69,70,71] fu,.d (lf 0 2 (lt 2 3 (.act 5 (lt 6 4 (.act 10 (lt 11 2 (.acth 13 .fin)) .non)) .non))),.l [0,11,16,96,97,98] fu],q 104 2 Tryz.f104 [.l [0,1,6,7,18,19,20] fu],q 105 1 Tryz.f105 [.l [3,15,16,17] fu],q 106 1 Tryz.f106 [],q 107 3 Tryz.f107 [.l [1,2,3,6,8,15,16,17] fu],q 109 2 Tryz.f109 [],q 113 2 Tryz.f113 [.l [0,1,7,8] fu],q 114 5 Tryz.f114 [.l [0,1,2,3,4,10,11] fu,.d (lt 0 13 (.act 13 (lt 14 3 .fin) .non))],q 115 1 Tryz.f115 [],q 117 3 Tryz.f117 [.d (lt 0 9 (lf 9 2 (lt 11 1 (.act 12 (lt 13 1 (.acth 14 .fin)) .non)))),.d (lt 0 9 (lf 9 1 (lt 10 5 (lf 15 1 (lt 16 1 (.act 17 (lt 18 1 (.acth 19 .fin)) .non))))))],q 119 2 Tryz.f119 [.l [0,1,5,6,18,19,20] fu,.d (lt 0 21 (.act 21 (lt 22 1 (.act 23 .fin .non)) .non)),.d (lt 0 16 (.act 16 (lt 17 1 .fin) .non)),.d (lt 0 13 .fin),.d (lf 0 5 (lt 5 5 (.act 10 (lt 11 1 (.acth 12 .fin)) .non))),.d (lt 0 13 .fin)],q 128 1 Tryz.f128 [.d (lf 0 4 (.lookx 4 (lt 5 5 (.act 10 (.act 11 (lt 12 2 (.acth 14 .fin)) .non) .non))))],q 129 1 Tryz.f129 [],q 130 1 Tryz.f130 [.l [0,14,15] fu,.d (lt 0 17 (.act 17 .fin .non))],q 144 2 Tryz.f144 [],q 145 1 Tryz.f145 [.d (lf 0 3 (lt 3 1 (.act 4 (.act 5 (.acth 6 (lt 7 2 (.acth 9 .fin))) .non) .non)))],q 147 2 Tryz.f147 [],q 148 1 Tryz.f148 [],q 149 2 Tryz.f149 [],q 150 1 Tryz.f150 [.l [3,4,5] fu],q 152 1 Tryz.f152 [.l [0,2,3] fu,.d (lf 0 1 (lt 1 1 (.act 2 (.acth 3 (.acth 4 .fin)) .non)))],q 153 2 Tryz.f153 [],q 154 3 Tryz.f154 [.l [0,1,2,7,8] fu],q 155 2 Tryz.f155 [.l [0,1,5,6] fu],q 161 1 Tryz.f161 [],q 162 1 Tryz.f162 [],q 163 1 Tryz.f163 [],q 164 1 Tryz.f164 [],q 165 1 Tryz.f165 [],q 168 1 Tryz.f168 [.l [1,3,11,12,13] fu,.l [1,3,24,25,26] fu,.l [3,36,37,38] fu],q 170 2 Tryz.f170 [.l [2,3,6,20,21,22] fu,.d (lf 0 6 (lt 6 2 (.act 8 (.acth 9 (lt 10 1 .fin)) .non))),.l [2,3,6,39,40,41] fu,.d (lf 0 1 (lt 1 7 (.act 8 (.acth 9 (lt 10 1 .fin)) .non))),.l [3,6,58,59,60] fu,.l [3,6,11,12,58,59,60,74,75] fu],q 171 2 Tryz.f171 [.l [0,4] fu],q 172 2 Tryz.f172 [],q 173 3 Tryz.f173 [],q 174 3 Tryz.f174 [.l [4,7,8,22,23,24] fu,.d (lf 0 6 (lt 6 2 (.act 8 (.act 9 (.act 10 (.act 11 (lt 12 2 (.acth 14 .fin)) .non) .non) .non) .non))),.l [4,7,8,44,45,46] fu,.d (lf 0 5 (lt 5 3 (.act 8 (.act 9 (.act 10 (lt 11 2 (.acth 13 .fin)) .non) .non) .non))),.l [7,8,65,66,67] fu,.d (lf 0 5 (lt 5 1 (.act 6 (.act 7 (.act 8 (lt 9 2 (.acth 11 .fin)) .non) .non) .non))),.l [7,8,14,15,65,66,67,83,84] fu],q 175 2 Tryz.f175 [.l [5,6,15,16,17] fu],q 176 1 Tryz.f176 [],q 177 1 Tryz.f177 [.l [0,3,4,22,23,24] fu,.d (lf 0 7 (lt 7 5 (.act 12 (.act 13 (lt 14 1 (.acth 15 .fin)) .non) .non)))],q 178 3 Tryz.f178 [],q 180 2 Tryz.f180 [],q 183 2 Tryz.f183 [.l [2,3,39,40,41] fu,.l [2,3,60,61,62] fu,.l [2,3,78,79,80] fu],q 184 2 Tryz.f184 [.l [5,22,23,24] fu],q 186 1 Tryz.f186 [],q 190 3 Tryz.f190 [.d (lt 0 4 (lf 4 2 (lt 6 2 (.act 8 (lt 9 3 .fin) .non)))),.d (lt 0 11 .fin),.d (lt 0 6 (.act 6 .fin .non))],q 193 2 Tryz.f193 [.l [0,5,8,9,10] fu],q 194 4 Tryz.f194 [.l [0,1,2,3,8] fu,.l [0,1,2,3,8,9] fu,.d (lt 0 14 (.act 14 (lt 15 2 .fin) .non)),.d (lt 0 2 (lf 2 3 (lt 5 10 (.act 15 (lt 16 1 (.acth 17 .fin)) .non))))],q 203 1 Tryz.f203 [],q 219 1 Tryz.f219 [.l [0,3,4] fu],q 222 1 Tryz.f222 [.l [0,3] fu],q 224 1 Tryz.f224 [.l [0,2,3] fu,.d (lf 0 1 (lt 1 1 (.act 2 (.acth 3 (.acth 4 .fin)) .non)))],q 225 3 Tryz.f225 [],q 226 3 Tryz.f226 [.l [0,1,2,7,8,9] fu],q 227 2 Tryz.f227 [.l [0,1,5] fu],q 228 2 Tryz.f228 [],q 230 3 Tryz.f230 [.l [0,1,8,9] fu],q 231 2 Tryz.f231 [.l [0,5,11,12] fu],q 234 2 Tryz.f234 [],q 235 2 Tryz.f235 [],q 236 3 Tryz.f236 [.l [0,8,64,65,66] fu,.d (lt 0 7 .fin),.d (lf 0 4 (lf 5 1 (lf 7 1 (.act 4 (.act 6 (lt 8 2 .fin) .non) .non))))],q 237 2 Tryz.f237 [],q 238 2 Tryz.f238 [.l [0,5,8,9,10] fu],q 243 2 Tryz.f243 [],q 245 3 Tryz.f245 [],q 246 2 Tryz.f246 [.d (lt 0 6 (.act 6 (lt 7 4 .fin) .non)),.d (lt 0 6 (.act 6 (lt 7 4 .fin) .non)),.d (lt 0 5 (.act 5 (lt 6 5 .fin) .non)),.d (lt 0 5 (.act 5 (lt 6 5 .fin) .non)),.d (lt 0 5 (.act 5 (lt 6 5 .fin) .non)),.d (lt 0 5 (.act 5 (lt 6 5 .fin) .non))],q 253 2 Tryz.f253 [.l [0,5,20,21] fu],q 269 1 Tryz.f269 [.d (lf 0 1 (lt 1 1 (.act 2 (.acth 3 (.acth 4 .fin)) .non)))],q 270 2 Tryz.f270 [.l [0,1,5,6] fu],q 272 2 Tryz.f272 [.l [0,1,9,10] fu],q 273 2 Tryz.f273 [.l [0,5,11,12] fu],q 275 1 Tryz.f275 [],q 276 4 Tryz.f276 [],q 277 2 Tryz.f277 [.l [0,5,20,21,22] fu],q 283 2 Tryz.f283 [],q 285 4 Tryz.f285 [.d (lt 0 11 .fin)],q 286 2 Tryz.f286 [],q 287 2 Tryz.f287 [.l [0,1,7,8] fu],q 292 1 Tryz.f292 [],q 293 3 Tryz.f293 [],q 298 4 Tryz.f298 [],q 299 3 Tryz.f299 [],q 304 1 Tryz.f304 [.d (lf 0 1 (lt 1 1 (.act 2 (.acth 3 (.acth 4 .fin)) .non)))],q 305 3 Tryz.f305 [],q 309 3 Tryz.f309 [.d (lf 0 4 (lt 4 4 (lf 9 4 (.act 8 (.act 13 (lt 14 1 (.act 15 (lt 16 1 (.acth 17 .fin)) .non)) .non) .non))))],q 318 1 Tryz.f318 [.l [0,2,3] fu,.d (lf 0 2 (lt 2 1 (.act 3 (.acth 4 (.acth 5 .fin)) .non)))],q 319 3 Tryz.f319 [.l [0,1,2,7,10,11] fu,.d (lf 0 1 (lt 1 9 (lf 11 5 (.act 10 (.acth 16 (lt 17 1 .fin)) .non))))],q 324 1 Tryz.f324 [.l [0,2,3] fu,.d (lf 0 2 (lt 2 1 (.act 3 (.acth 4 (.acth 5 .fin)) .non)))],q 327 1 Tryz.f327 [.d (lf 0 3 (lt 3 1 (.act 4 (.act 5 (.acth 6 (lt 7 2 (.acth 9 .fin))) .non) .non))),.d (lf 0 3 (lt 3 1 (.act 4 (.act 5 (.acth 6 (lt 7 2 (.acth 9 .fin))) .non) .non))),.d (lf 0 2 (lt 2 1 (.act 3 (.act 4 (.acth 5 (lt 6 1 (.acth 7 .fin))) .non) .non))),.d (lf 0 3 (lt 3 1 (.act 4 (.act 5 (.acth 6 (lt 7 2 (.acth 9 .fin))) .non) .non)))]]
theorem O8:∀ x ∈ saL,x.OK Tryz.prog:=okL (by kernel_rfl) (by kernel_rfl) (by kernel_rfl)
theorem s4_ok:s4.OK Tryz.prog:=O8 _ (by unfold saL; simp only [J7,true_or,or_true])
theorem s59_ok:s59.OK Tryz.prog:=O8 _ (by unfold saL; simp only [J7,true_or,or_true])
def j39 (Tb:FT) (K:AV->AH->Bool):An:=mkA Ty Tb (sqR (sqR ((Tryz.f25).body.get!))) (mkS (sqR (sqR (Tryz.f25.body.get!))) [.l [0,1,2,8] fu,.d (lt 0 12 .fin)]) (knK Ty [.tmp 6,.tmp 7] K)
def Up (Tb:FT):FF 2:=s59.run Ty Tb
def j38 (Tb:FT):FF 3:=QE (fun U A K=>D9 Ty Tb (sqL ((Tryz.f25).body.get!)) .z ⟨fun U A=>Cl Ty Tb (Rb (sqL (sqR (Tryz.f25.body.get!)))) (Rb (sqL (sqR (Tryz.f25.body.get!)))).toList.dropLast U A (fun U A=>D9 Ty Tb (sqR (sqR ((Tryz.f25).body.get!))) (j39 Tb (fun v A'=>Ef 2 (Up Tb) ((dfA (Rb (sqL (sqR (Tryz.f25.body.get!)))).toList).map (ev U)) A' fun _ A''=>K v A'')) (knK Ty [.tmp 6,.tmp 7] (fun v A'=>Ef 2 (Up Tb) ((dfA (Rb (sqL (sqR (Tryz.f25.body.get!)))).toList).map (ev U)) A' fun _ A''=>K v A'')) U A),noK,fun _=>noK⟩ U A) 3 0 noA
theorem Uo {Tb:FT} (hTb:TOK Tryz.prog Tb):DOK Tryz.prog 59 2 (Up Tb):=YC (an:=fun K=>mkA Ty Tb s59.code s59.sa (knK Ty s59.fn.results.toList K)) Go.Proofs.T.mixed PP hTb rfl rfl rfl rfl rfl rfl fun K=>Md _ _ _ s59_ok.hg
theorem YD {Tb:FT} (hTb:TOK Tryz.prog Tb):FOK Tryz.prog 25 3 (j38 Tb):=S7 (a0:=.z) (a2:=j39 Tb) (T:=Ty) (Tb:=Tb) (rs:=[.tmp 6,.tmp 7]) (l0:=(Rb (sqL (sqR (Tryz.f25.body.get!)))).toList.dropLast) (nd:=2) (gd:=Up Tb) Go.Proofs.T.mixed PP hTb rfl rfl rfl rfl rfl rfl rfl (Uo hTb) rfl rfl rfl rfl rfl rfl (fun _=>by (first | trivial | exact ⟨rfl,trivial⟩ | exact rfl)) fun K=>Md _ _ _ (by kernel_rfl)
def spc (Tb:FT):FT:=[⟨25,3,j38 Tb,noP⟩]
theorem VH:∀ Tb,TOK Tryz.prog Tb->TOK Tryz.prog (spc Tb):=fun Tb h=>TOK.cons (YD h) TOK.nil
end
set_option maxRecDepth 1000000
theorem Ss:(s4.run Ty (tbl Ty saL spc 60):FF 0) A0 yes=true:=by kernel_rfl
theorem j5z (H:A3):CallF Go.Proofs.Tryz.prog 4 [] H (fun r H'=>r=.bool true/\Fr [] H H') NoP :=
 T6 (s4_ok.fok Go.Proofs.T.mixed PP (Vr Go.Proofs.T.mixed PP O8 VH 60)) (args:=[]) (ws:=[]) (by simp only [VRl]) Ss
end Go.Run
namespace Go.HL
open Go.ChangeShapes Go.WideShapes Go.ChangeAt Go.RowKit
theorem JS {α β:Type} {f:α->Option β}:∀ {l:List α} {r:List β},l.mapM f=some r->r.length=l.length/\∀ (j:Nat) x,l[j]?=some x->∃ y,f x=some y/\r[j]?=some y:=by
 intro l;induction l with
 | nil=>intro r h; simp at h; subst h; simp
 | cons a l ih =>
  intro r h;rw [List.mapM_cons] at h;simp only [bind,Zb,pure,J5] at h;obtain ⟨y,hy,r',hr,rfl⟩:=h;obtain ⟨h1,h2⟩:=ih hr;refine ⟨by simp [h1],fun j x hx=>?_⟩;cases j with
  | zero=>simp at hx; subst hx; exact ⟨y,hy,rfl⟩
  | succ j=>simp at hx; simpa using h2 j x hx
theorem Ph {α:Type} {p:Nat->α->Prop}:∀ {n:Nat},(∀ i,i < n->∃ x,p i x)->∃ xs:List α,xs.length=n/\∀ i x,xs[i]?=some x->p i x:=by
 intro n;induction n with
 | zero=>intro _; exact ⟨[],rfl,by simp⟩
 | succ n ih =>
  intro h;obtain ⟨xs,h1,h2⟩:=ih fun i hi=>h i (by omega);obtain ⟨x,hx⟩:=h n (by omega);refine ⟨xs ++ [x],by simp [h1],fun i y hy=>?_⟩;rw [List.getElem?_append] at hy;split at hy
  ·exact h2 i y hy
  ·rename_i hi;have:i=n:=by
    have:=(J3.1 hy).1;simp at this; omega
   subst this;simp [h1] at hy;exact hy ▸ hx
section
variable {H:Type} {enc:TypeId × Value->H} {P:Program} {W:World}
abbrev TR (enc:TypeId × Value->H) (P:Program) (W:World) (t:TypeId) (cs:List Value):Prop:=∃ fuel x,DataW.trod enc P W 0 (fun _=>true) true fuel t cs=some x
theorem TR.int {t:TypeId} {k:IntKind} {cs:List Value} (ht:P.underlying t=some (.int k)) (h:TR enc P W t cs):∃ n,cs = [.int k n]/\(Lit.int k n).wf=true:=by
 obtain ⟨fuel,x,h⟩:=h;cases fuel with
 | zero=>simp [DataW.trod] at h
 | succ fuel =>
  unfold DataW.trod at h;rw [ht] at h;split at h <;> simp_all
theorem TR.slice {t e:TypeId} {z:Nat} {cs:List Value} (ht:P.underlying t=some (.slice e)) (hz:P.cellsOf e=z) (hz0:0 < z) (h:TR enc P W t cs) :
  ∃ a len cap,cs = [.slice a len cap]/\len<=maxLen/\(0 < len->∃ b o,a=some ⟨b,o,none⟩/\∀ i,i < len->∃ es,es.length=z/\(∀ j,j < z->A5 W.heap ⟨b,o + i * z + j,none⟩=es[j]?)/\TR enc P W e es):=by
 obtain ⟨fuel,x,h⟩:=h
 cases fuel with
 | zero=>simp [DataW.trod] at h
 | succ fuel =>
  unfold DataW.trod at h;rw [ht] at h;split at h <;> first | (simp at *; done) | skip
  ·exact ⟨none,0,0,rfl,by simp,by omega⟩
  ·rename_i e' a len cap he;simp only [J5,TypeDesc.slice.injEq] at he;subst he;simp only at h;split at h
   ·rename_i hb;simp only [Zb] at h;obtain ⟨elems,hel,_⟩:=h;refine ⟨some a,len,cap,rfl,by omega,fun hl=>?_⟩;have hrow:∀ i,i < len->∃ es,es.length=z/\(∀ j,j < z->W.cell? ((a.add (i * z)).add j)=es[j]?)/\TR enc P W e es:=by
     intro i hi;obtain ⟨y,hy,_⟩:=(JS hel).2 i i (by simp [hi]);simp only [Zb] at hy;obtain ⟨es,hes,hy⟩:=hy;rw [hz] at hes;unfold World.cells? at hes;split at hes
     ·obtain ⟨g1,g2⟩:=JS hes;simp at g1;refine ⟨es,g1,fun j hj=>?_,fuel,y,hy⟩;obtain ⟨u,hu,hr⟩:=g2 j j (by simp [hj]);rw [hu,hr]
     ·simp at hes
    have ha:a=⟨a.block,a.off,none⟩:=by
     obtain ⟨es,g1,g2,_⟩:=hrow 0 hl;have:=g2 0 hz0;cases a with
     | mk b o s =>
      cases s with
      | none=>rfl
      | some q =>
       exfalso;have h0:es[0]?=some es[0]:=(by simp);rw [h0] at this;simp [Addr.add,World.cell?] at this;split at this <;> simp at this
    refine ⟨a.block,a.off,by rw [<- ha],fun i hi=>?_⟩;obtain ⟨es,g1,g2,g3⟩:=hrow i hi;refine ⟨es,g1,fun j hj=>?_,g3⟩;rw [<- g2 j hj,ha,AS,AS];rfl
   ·simp at h
theorem TR.of {t:TypeId} {v:Value} {d:DataW H} {ps:List MemPlace} (h:DataW.Trod enc P W 0 (fun _=>true) true t v d ps):TR enc P W t v.cells.toList:=by
 obtain ⟨fuel,h⟩:=h;exact ⟨fuel,_,h⟩
end
section
variable {H:Type} {enc:TypeId × Value->H} {P:Program} {W:World}
theorem TR.dg {t e:TypeId} {a:Option Addr} {len cap:Nat} (ht:P.underlying t=some (.slice e)) (h:TR enc P W t [.slice a len cap]):len<=cap:=by
 obtain ⟨fuel,x,h⟩:=h;cases fuel with
 | zero=>simp [DataW.trod] at h
 | succ fuel =>
  unfold DataW.trod at h;rw [ht] at h;split at h <;> first | (simp at *; done) | skip
  ·rename_i hc;simp only [Zh,Value.slice.injEq,Zt] at hc;omega
  ·rename_i e' a' len' cap' he hc;simp only [Zh,Value.slice.injEq,Zt] at hc;obtain ⟨rfl,rfl,rfl⟩:=hc;simp only at h;split at h
   ·rename_i hb; omega
   ·simp at h
end
end Go.HL
namespace Go.Proofs.YtkdlmdmlomgdiaaGreat
open Go.ChangeShapes Go.WideShapes Go.ChangeAt Go.RowKit Go.HL
set_option maxRecDepth 100000
section
variable {H:Type} {enc:TypeId × Value->H} {W:World}
theorem QX {cs:List Value} (h:TR enc Tryz.prog W 23 cs):∃ a xs cap,cs = [.slice a xs.length cap]/\Rn W.heap a xs/\xs.length<=maxLen/\xs.length<=cap/\(xs ≠ []->∀ b o,a=some ⟨b,o,none⟩->b < W.heap.size):=by
 obtain ⟨a,len,cap,rfl,hl,hr⟩:=h.slice (z:=1) Tryz.underlying23 (by kernel_rfl) (by omega);have hcap:=TR.dg Tryz.underlying23 h;have key:∀ i,i < len->∃ x:Int,∃ b o,a=some ⟨b,o,none⟩/\A5 W.heap ⟨b,o + i,none⟩=some (iv x):=by
  intro i hi;obtain ⟨b,o,rfl,hrow⟩:=hr (by omega);obtain ⟨es,hes,hc,ht⟩:=hrow i hi;match es,hes with
  | [x0],_ =>
   obtain ⟨m,e,-⟩:=ht.int Tryz.underlying3;simp only [Zh,Zt] at e;subst e;have c0:=hc 0 (by omega);simp at c0;exact ⟨m,b,o,rfl,c0⟩
 obtain ⟨xs,g1,g2⟩:=Ph key;subst g1;refine ⟨a,xs,cap,rfl,fun i x hx=>?_,hl,hcap,fun hne b o e=>?_⟩
 ·obtain ⟨b,o,e,hc⟩:=g2 i x hx;exact ⟨b,o,e,hc⟩
 ·obtain ⟨x,hx⟩:∃ x,xs[0]?=some x:=⟨_,J1 (Wy.2 hne)⟩;obtain ⟨b',o',e',hc⟩:=g2 0 x hx;rw [e] at e';simp only [J5,Addr.mk.injEq,Zt] at e';obtain ⟨rfl,rfl⟩:=e';exact FC hc
theorem Su {r:Reach} {b0:Nat} {v:Value} {d:DataW H} {ps:List MemPlace}
  (hval:Value.okWide Tryz.prog W r b0 23 v) (hd:DataW.Trod enc Tryz.prog W 0 (fun _=>true) true 23 v d ps):∃ a xs cap,v=.slice a xs.length cap/\Rn W.heap a xs/\xs.length<=maxLen/\xs.length<=cap/\(xs ≠ []->∀ b o,a=some ⟨b,o,none⟩->b < W.heap.size):=by
 obtain ⟨a0,len0,cap0,rfl⟩:=okWide_slice Tryz.underlying23 hval
 obtain ⟨a,xs,cap,e,h⟩:=QX (Go.HL.TR.of hd)
 simp [Value.cells] at e
 obtain ⟨rfl,rfl,rfl⟩:=e
 exact ⟨_,xs,_,rfl,h⟩
theorem UB {r:Reach} {b0:Nat} {v:Value} {d:DataW H} {ps:List MemPlace}
  (hval:Value.okWide Tryz.prog W r b0 22 v) (hd:DataW.Trod enc Tryz.prog W 0 (fun _=>true) true 22 v d ps):∃ a css cap,v=.slice a css.length cap/\RL W.heap.size W.heap a css/\css.length<=maxLen/\css.length<=cap/\∀ c ∈ css,c.length<=maxLen:=by
 obtain ⟨a0,len0,cap0,rfl⟩:=okWide_slice Tryz.underlying22 hval
 have h:=Go.HL.TR.of hd
 obtain ⟨a,len,cap,e,hl,hr⟩:=h.slice (z:=1) Tryz.underlying22 (by kernel_rfl) (by omega)
 rw [e] at h
 have hcap:=TR.dg Tryz.underlying22 h
 simp [Value.cells] at e
 obtain ⟨rfl,rfl,rfl⟩:=e
 have key:∀ i,i < len0->∃ c:List Int,(∃ b o ra rc,a0=some ⟨b,o,none⟩/\A5 W.heap ⟨b,o + i,none⟩=some (.slice ra c.length rc)/\Rn W.heap ra c/\(c ≠ []->∀ b' o',ra=some ⟨b',o',none⟩->b' < W.heap.size))/\c.length<=maxLen:=by
  intro i hi;obtain ⟨b,o,rfl,hrow⟩:=hr (by omega);obtain ⟨es,hes,hc,ht⟩:=hrow i hi;obtain ⟨ra,c,rc,rfl,h1,h2,h3,h4⟩:=QX ht;have c0:=hc 0 (by omega);simp at c0;exact ⟨c,⟨b,o,ra,rc,rfl,c0,h1,h4⟩,h2⟩
 obtain ⟨css,g1,g2⟩:=Ph key
 subst g1
 refine ⟨a0,css,cap0,rfl,⟨fun i c hi=>?_⟩,hl,hcap,fun c hc=>?_⟩
 ·obtain ⟨⟨b,o,ra,rc,e,h1,h2,h3⟩,-⟩:=g2 i c hi
  exact ⟨b,o,ra,rc,e,FC h1,h1,h2,h3⟩
 ·obtain ⟨i,hi⟩:=Jc hc
  exact (g2 i c hi).2
end
end Go.Proofs.YtkdlmdmlomgdiaaGreat
