/- Structs held against each other; maps. -/
import Derived.Test.YtkdlmdmlomgdiaaGreatL02
import Derived.Laws.Strings
import Derived.Test.YtkdlmdmlomgdiaaGreatProg
set_option linter.unusedSimpArgs false
set_option linter.unusedVariables false
set_option maxRecDepth 10000
set_option maxHeartbeats 8000000
noncomputable section
namespace Go.HL
def eqD:Option TypeDesc->Value->Value->Option Bool
 | some .bool,.bool a,.bool b=>some (a == b)
 | some (.int _),.int k a,.int k' b=>if k=k' then some (a == b) else none
 | some .string,.string a,.string b=>some (a == b)
 | _,_,_=>none
def HU (P:Program) (xs ys:List Value):List Field->Option Bool
 | []=>some true
 | f :: r=>if f.name = "_" then HU P xs ys r else
   (xs[f.offset]?).bind fun x=>(ys[f.offset]?).bind fun y=>(eqD (P.underlying f.type) x y).bind fun b=>if b then HU P xs ys r else some false
section
variable {P:Program} {H:A3}
theorem QC {t:TypeId} {x y:Value} {b:Bool} {d:Nat} (h:eqD (P.underlying t) x y=some b):Ac P (Op.equalIn (d + 1) t x y) H=some b:=by
 cases hu:P.underlying t with
 | none=>rw [hu] at h; simp [eqD] at h
 | some u =>
  rw [hu] at h;unfold Op.equalIn;rw [A4,A6 hu,J0];unfold eqD at h;split at h <;> simp at *
  ·subst h; subst_vars; rfl
  ·subst_vars; obtain ⟨rfl,rfl⟩:=h; simp [pure,Ac]
  ·subst h; subst_vars; rfl
theorem NB {t:TypeId} {x y:Value} {b:Bool} (h:eqD (P.underlying t) x y=some b) (cs:List Value) {o:Nat} {v:Value} (hv:cs[o]?=some v):Ac P (part t cs.toArray o) H=some v:=by
 refine Fq ?_;unfold GK CX;cases hu:P.underlying t with
 | none=>rw [hu] at h; simp [eqD] at h
 | some u=>rw [hu] at h; cases u <;> simp [eqD] at h <;> simpa using hv
theorem GU {t:TypeId} {fl:List Field} {xs ys:List Value} {r:Bool} {d:Nat} (hu:P.underlying t=some (.struct fl.toArray)) (hst:P.stoodInHeld t=false) (h:HU P xs ys fl=some r) :
  Ac P (Op.equalIn (d + 2) t (.agg xs.toArray) (.agg ys.toArray)) H=some r:=by
 unfold Op.equalIn
 rw [A4,A6 hu,J0]
 simp only
 rw [A4]
 have e1:Ac P program H=some P:=rfl
 rw [e1,J0,hst]
 simp only [Z7,Z3]
 rw [W7]
 clear hu hst
 induction fl with
 | nil =>
  simp only [HU,J5] at h;subst h;rfl
 | cons f fl ih =>
  rw [Xz];simp only [HU] at h;by_cases hn:f.name = "_"
  ·rw [J8 hn] at h;have:=ih h;simp only [hn,ne_eq,V5,Z3] at this ⊢;exact this
  ·rw [J4 hn] at h;simp only [Zb] at h;obtain ⟨x,hx,y,hy,b,hb,h⟩:=h;simp only [ne_eq,hn,V6,Zr];rw [A4,A4,A4,NB hb xs hx,J0,A4,NB hb ys hy,J0,A4,QC hb,J0];cases b with
   | true =>
    simp only [Zr] at h;have:=ih h;rw [A4] at this;simp only [X2,Z7,Z3,pure,Ac,J0];exact this
   | false=>simp only [Z7,Z3,J5] at h; subst h; rfl
theorem OP {t:TypeId} {fl:List Field} {xs ys:List Value} {r:Bool} {xo yo:Operand} (hu:P.underlying t=some (.struct fl.toArray)) (hst:P.stoodInHeld t=false) (hg:P.eqGuardType P.depth t=false) (h:HU P xs ys fl=some r) :
  B0 P (AI H) .eql t xo yo (.agg xs.toArray) (.agg ys.toArray)=some (.bool r)/\B0 P (AI H) .neq t xo yo (.agg xs.toArray) (.agg ys.toArray)=some (.bool (!r)):=by
 have g:∀ op,op=.eql\/op=.neq->Ac P (eqGuard op t xo yo (.agg xs.toArray) (.agg ys.toArray)) H=some ():=by
  intro op ho;unfold eqGuard;have e1:Ac P program H=some P:=rfl;rcases ho with rfl | rfl
  ·simp only [X2,Z7,Z3];rw [A4,e1,J0,A4,e1,J0,hg];rfl
  ·simp only [X2,Z7,Z3];rw [A4,e1,J0,A4,e1,J0,hg];rfl
 have e:Ac P (Op.equal t (.agg xs.toArray) (.agg ys.toArray)) H=some r:=GU (d:=Op.maxDepth - 2) hu hst h
 constructor
 ·show Ac P (do eqGuard .eql t xo yo (.agg xs.toArray) (.agg ys.toArray); binOp .eql t (.agg xs.toArray) (.agg ys.toArray)) H=_
  rw [A4,g _ (.inl rfl),J0]
  show Ac P (do pure (Value.bool (<- Op.equal t (.agg xs.toArray) (.agg ys.toArray)))) H=_
  rw [A4,e]
  rfl
 ·show Ac P (do eqGuard .neq t xo yo (.agg xs.toArray) (.agg ys.toArray); binOp .neq t (.agg xs.toArray) (.agg ys.toArray)) H=_
  rw [A4,g _ (.inr rfl),J0]
  show Ac P (do pure (Value.bool (!(<- Op.equal t (.agg xs.toArray) (.agg ys.toArray))))) H=_
  rw [A4,e]
  rfl
variable {xs ys:List Value} {f:Field} {r:List Field} {q:Prop} [Decidable q]
theorem Kp {a b:ByteArray}:(a == b)=decide (a=b):=by
 cases a with
 | mk x =>
  cases b with
  | mk y =>
   show (x == y)=_;by_cases h:x=y <;> simp [h]
theorem Uk:HU P xs ys []=some (decide True):=rfl
theorem Pu {k k':IntKind} {a b:Int} (hn:f.name ≠ "_") (hu:P.underlying f.type=some (.int k)) (hx:xs[f.offset]?=some (.int k' a)) (hy:ys[f.offset]?=some (.int k' b)) (h:HU P xs ys r=some (decide q)):HU P xs ys (f :: r)=some (decide (a=b/\q)):=by
 simp only [HU,J4 hn,hx,hy,hu,J0,eqD,Zr,h];by_cases e:a=b <;> simp [e]
omit [Decidable q]
def MapR (H:A3) (r:Nat) (kvs:List (Value × Value)):Prop:=∃ es clock,H[r]?=some (.map es clock)/\es.toList.map (fun e=>(e.key,e.val))=kvs
theorem MapR.frame {H H':A3} {r:Nat} {kvs:List (Value × Value)} (h:MapR H r kvs) {F:List Nat} (hf:Fr F H H') (hr:r ∉ F):MapR H' r kvs:=by
 obtain ⟨es,c,h1,h2⟩:=h;refine ⟨es,c,?_,h2⟩;have:r < H.size:=by
  rcases X9 r H.size with h | h
  ·exact h
  ·rw [Z5 h] at h1; simp at h1
 rw [hf.same r this hr]; exact h1
theorem MapR.lt {H:A3} {r:Nat} {kvs:List (Value × Value)} (h:MapR H r kvs):r < H.size:=by
 obtain ⟨es,c,h1,h2⟩:=h;rcases X9 r H.size with h | h
 ·exact h
 ·rw [Z5 h] at h1; simp at h1
theorem MapR.new {H:A3}:MapR (H.push (.map #[] 0)) H.size []:=⟨#[],0,by simp,rfl⟩
theorem Fr.setObj {F:List Nat} {H:A3} {r:Nat} {o:Obj} (h:r ∈ F):Fr F H (H.setIfInBounds r o) :=
 ⟨by simp,fun b _ hF=>by rw [Jt]; rw [J4 (fun (e:r=b)=>hF (e ▸ h))]⟩
def Dn (kvs:List (Int × Int)) (k:Int):Option Int:=(kvs.find? fun x=>x.1 == k).map (·.2)
abbrev ivp (x:Int × Int):Value × Value:=(.int .i64 x.1,.int .i64 x.2)
theorem Eu {k:Int}:∀ (es:List MapEntry) (kvs:List (Int × Int)) (i:Nat),es.map (fun e=>(e.key,e.val))=kvs.map ivp ->
  ∃ o,Instr.findNow (.int .i64) (.int .i64 k) es i=some o/\o.map (·.2)=(Dn kvs k).map (Value.int .i64):=by
 intro es
 induction es with
 | nil=>intro kvs i h; cases kvs <;> simp at h; exact ⟨none,rfl,rfl⟩
 | cons e es ih =>
  intro kvs i h;cases kvs with
  | nil=>simp at h
  | cons x kvs =>
   simp only [Jz,Zh,Jx] at h;obtain ⟨⟨h1,h2⟩,h3⟩:=h;simp only [Instr.findNow,h1,Instr.sameNow,Zr];by_cases hk:k=x.1
   ·subst hk;refine ⟨some (i,e.val),by simp,?_⟩;simp [Dn,h2]
   ·obtain ⟨o,ho,hm⟩:=ih kvs (i + 1) h3;have e1:(k == x.1)=false:=(by simp [hk]);have e2:(x.1 == k)=false:=(by simp [Ne.symm hk]);refine ⟨o,by simp only [e1]; exact ho,?_⟩;rw [hm];simp [Dn,e2]
theorem CV {k:TypeId} {n:Int} {b:Bool} (hk:P.underlying k=some (.int .i64)):Ac P (Instr.checkKey b 10000 k (.int .i64 n)) H=some ():=by
 unfold Instr.checkKey;rw [A4,A6 hk];rfl
theorem Bg {r:Nat} {es:Array MapEntry} {c:Nat} (h:H[r]?=some (.map es c)):Ac P (getObj r) H=some (.map es c):=by
 simp only [getObj,Ac,h]
theorem HE {t k e r:Nat} {z:Value} {kvs:List (Int × Int)} (ht:P.underlying t=some (.map k e)) (hk:P.underlying k=some (.int .i64)) (hz:AD P e=some z) (h:MapR H r (kvs.map ivp)) (n:Int) (ok:Bool) :
  Ac P (Instr.lookup t (.map (some r)) (.int .i64 n) ok) H=some (if ok then .tuple #[((Dn kvs n).map (Value.int .i64)).getD z,.bool (Dn kvs n).isSome] else ((Dn kvs n).map (Value.int .i64)).getD z):=by
 obtain ⟨es,c,h1,h2⟩:=h
 obtain ⟨o,ho,hm⟩:=Eu (k:=n) es.toList kvs 0 h2
 have e2:Ac P (Instr.findKey k (.int .i64 n) es.toList) H=some o:=by
  unfold Instr.findKey;rw [A4,A6 hk,J0];simp only [ho];rfl
 unfold Instr.lookup
 rw [A4,A6 ht,J0]
 simp only
 rw [A4,Bg h1,J0]
 simp only
 rw [A4,show Ac P (pure es:Sem (Array MapEntry)) H=some es from rfl,J0,A4,CV hk,J0,A4,e2,J0]
 cases hg:Dn kvs n with
 | none =>
  rw [hg] at hm;cases o with
  | none =>
   simp only;rw [A4,AF hz,J0];cases ok <;> rfl
  | some p=>simp at hm
 | some v =>
  rw [hg] at hm;cases o with
  | none=>simp at hm
  | some p =>
   simp at hm;obtain ⟨i,w⟩:=p;simp only at hm;subst hm;cases ok <;> rfl
theorem Pi {t k e r:Nat} {kvs:List (Value × Value)} (ht:P.underlying t=some (.map k e)) (h:MapR H r kvs):F3 P (AI H) t (.map (some r))=some (.int .i64 kvs.length):=by
 obtain ⟨es,c,h1,h2⟩:=h;show Ac P (Builtin.len_ #[t] 0 #[.map (some r)]) H=_;unfold Builtin.len_;simp only [Jw,Z1];rw [A4,A6 ht,J0];simp only;rw [A4];have:Ac P (getObj r) H=some (.map es c):=Bg h1;rw [this,<- h2];simp [pure,Ac,goInt]
theorem Ro {t k e r:Nat} {kvs:List (Int × Int)} {n:Int} {x:Value} {K:A3->Prop} {E:Value->A3->Prop} (ht:P.underlying t=some (.map k e)) (hk:P.underlying k=some (.int .i64)) (h:MapR H r (kvs.map ivp)) (hn:Dn kvs n=none)
  (hK:∀ H',MapR H' r (kvs.map ivp ++ [(.int .i64 n,x)])->Fr [r] H H'->K H'):@RQ P t (.map (some r)) (.int .i64 n) x ⟨H⟩ ⟨K⟩ ⟨E⟩:=by
 obtain ⟨es,c,h1,h2⟩:=h
 obtain ⟨o,ho,hm⟩:=Eu (k:=n) es.toList kvs 0 h2
 rw [hn] at hm
 show hwp P (Instr.mapUpdate t (.map (some r)) (.int .i64 n) x) H _ _
 unfold Instr.mapUpdate
 refine Aa (A6 ht H) ?_
 simp only
 have:Ac P (getObj r) H=some (.map es c):=Bg h1
 refine Aa this ?_
 simp only
 refine Aa (CV hk) ?_
 have e2:Ac P (Instr.findKey k (.int .i64 n) es.toList) H=some o:=by
  unfold Instr.findKey;rw [A4,A6 hk,J0];simp only [ho];rfl
 refine Aa e2 ?_
 cases o with
 | some p=>simp at hm
 | none =>
  show hwp P (setObj r (.map (es.push { key:=.int .i64 n,val:=x,born:=c }) (c + 1))) H _ _;simp only [setObj,hwp,h1];refine hK _ ⟨es.push { key:=.int .i64 n,val:=x,born:=c },c + 1,?_,by simp [h2]⟩ (Fr.setObj (by simp));have hl:r < H.size:=by
   rcases X9 r H.size with h | h
   ·exact h
   ·rw [Z5 h] at h1; simp at h1
  rw [Jt];simp [hl]
end
abbrev Str:=List UInt8
def bs (l:Str):ByteArray:=⟨l.toArray⟩
abbrev sv (l:Str):Value:=.string (bs l)
@[go_sem] theorem j60 {l:Str}:(ByteArray.mk l.toArray)=bs l:=(rfl)
theorem Ha {l:Str}:(bs l).size=l.length:=by simp [bs,ByteArray.size]
theorem IQ {l:Str}:(bs l).toList=l:=by unfold bs; simp
theorem YL {a b:Str}:bs a=bs b↔a=b:=by
 constructor
 ·intro h; have:=congrArg ByteArray.toList h; rwa [IQ,IQ] at this
 ·rintro rfl; rfl
theorem QJ {a b:Str}:bs a ++ bs b=bs (a ++ b):=by
 apply V0;simp [bs,ByteArray.data_append]
theorem Ey {l:Str} {i j:Nat}:(bs l).extract i j=bs ((l.take j).drop i):=by
 apply V0;simp [bs,ByteArray.data_extract,List.drop_take]
def bt8 (l:Str) (i:Nat):UInt8:=l.getD i 0
theorem YK {l:Str} {i:Nat} (h:i < l.length):l[i]?=some (bt8 l i):=by
 unfold bt8; rw [Jq,J1 h]; rfl
abbrev u8v (c:UInt8):Value:=.int .u8 (c.toNat:Int)
section
variable {P:Program} {V:HV} {t:TypeId} {xo yo:Operand} {a b:Str}
theorem SY (h:P.underlying t=some .string):F3 P V t (.string (bs a))=some (.int .i64 a.length):=by
 simp only [F3,h,Ha]
theorem PS {k:IntKind} {n:Int} (h:P.underlying t=some .string):Es P t (.string (bs a)) (.int k n)=chk (0<=n/\n < a.length) (some (u8v (bt8 a n.toNat))):=by
 simp only [Es,h,Ha]; rfl
theorem SX {k k':IntKind} {x y:Int} (h:P.underlying t=some .string):Be P t (.string (bs a)) (some (.int k x)) (some (.int k' y)) none =
  chk (0<=y/\y<=a.length) (chk (0<=x/\x<=y.toNat) (some (.string (bs ((a.take y.toNat).drop x.toNat))))):=by
 simp only [Be,h,Cv,Ha,chk]
 split
 ·simp only [J0]
  split <;> simp [Ey]
 ·rfl
theorem VB {k:IntKind} {x:Int} (h:P.underlying t=some .string):Be P t (.string (bs a)) (some (.int k x)) none none =
  chk (0<=x/\x<=a.length) (some (.string (bs (a.drop x.toNat)))):=by
 simp only [Be,h,Cv,Ha,chk]
 simp only [J0]
 split <;> simp [Ey]
theorem VC {k:IntKind} {y:Int} (h:P.underlying t=some .string):Be P t (.string (bs a)) none (some (.int k y)) none =
  chk (0<=y/\y<=a.length) (some (.string (bs (a.take y.toNat)))):=by
 simp only [Be,h,Cv,Ha,chk]
 split <;> simp [Ey]
end
section
variable {H H':A3} {S S':Nat->Prop} {z:Nat} {v:Value} {vs:List Value}
end
section
variable {P:Program} {H:A3} {b t ty:Nat} {pre old rest new:List Value}
theorem Blk.cells (hb:Blk H b t (pre ++ new ++ rest)):Ay (A5 H) ⟨b,pre.length,none⟩ 0 new.length=some new:=by
 refine Bi new pre.length 0 ?_;intro j hj;rw [Zc,hb.cell];rw [Je,Jf (by omega),Jg (by omega)];simp [J1 hj]
end
theorem So {P:Program} {H:A3} {t e s:Nat} {vs cs:List Value} {z:Value} (he:AN P t=some e) (hs:Au P e=some s) (hz:AD P e=some z) (h1:vs.length * s<=16777216) (h2:(vs.all fun v=>v.cells.size == s)=true)
  (hc:vs.flatMap (·.cells.toList)=cs):buildSliceV P H t vs.length (NC vs)=some (.slice (some ⟨H.size,0,none⟩) vs.length vs.length,H.push (.cells cs.toArray e)):=by
 refine Ee ?_
 unfold bsl
 rw [he,J0,hs,J0,hz,J0,chk,J8 ⟨h1,h2⟩,hc]
theorem Tv {vs:List Value} (h:vs.all Cb=true):∀ v ∈ vs,Cb v=true:=Jo.1 h
@[go_sem] theorem j03 {H:A3} {l:List Value} {t i:Nat}:A5 (H.push (.cells l.toArray t)) ⟨H.size,i,none⟩=l[i]?:=(Blk.new rfl).cell i
section
variable {α:Type} {f:α->List Value} {z:Nat}
end
section
variable {P:Program} {t f off:Nat} {l:List Value}
end
@[go_sem] theorem ZG {H:A3}:Co H=.pointer (some ⟨H.size,0,none⟩):=(rfl)
structure Hush (p:Prop):Prop where
 out:p
end Go.HL
namespace Go.Proofs
theorem T.mixed:Tryz.prog.follows .mixedOrders=true:=by kernel_rfl
@[go_sem] theorem T.agg2:HL.CX Tryz.prog 2=some none:=by kernel_rfl
@[go_sem] theorem T.size2:HL.Au Tryz.prog 2=some 1:=by kernel_rfl
@[go_sem] theorem T.ai:HL.Bq Tryz.prog 2=some 8:=by kernel_rfl
@[go_sem] theorem T.zero2:HL.AD Tryz.prog 2=some (.int .i64 0):=by kernel_rfl
@[go_sem] theorem T.agg3:HL.CX Tryz.prog 3=some none:=by kernel_rfl
@[go_sem] theorem T.te:HL.Au Tryz.prog 3=some 1:=by kernel_rfl
@[go_sem] theorem T.gh:HL.Bq Tryz.prog 3=some 8:=by kernel_rfl
@[go_sem] theorem T.xv:HL.AD Tryz.prog 3=some (.int .i64 0):=by kernel_rfl
@[go_sem] theorem T.agg4:HL.CX Tryz.prog 4=some none:=by kernel_rfl
@[go_sem] theorem T.size4:HL.Au Tryz.prog 4=some 1:=by kernel_rfl
@[go_sem] theorem T.ah:HL.Bq Tryz.prog 4=some 1:=by kernel_rfl
@[go_sem] theorem T.zero4:HL.AD Tryz.prog 4=some (.bool false):=by kernel_rfl
@[go_sem] theorem T.mu:HL.Au Tryz.prog 5=some 1:=by kernel_rfl
@[go_sem] theorem T.gf:HL.Bq Tryz.prog 5=some 1:=by kernel_rfl
@[go_sem] theorem T.mn:HL.AD Tryz.prog 5=some (.int .u8 0):=by kernel_rfl
@[go_sem] theorem T.agg22:HL.CX Tryz.prog 22=some none:=by kernel_rfl
@[go_sem] theorem T.bg:HL.Au Tryz.prog 22=some 1:=by kernel_rfl
@[go_sem] theorem T.xu:HL.AN Tryz.prog 22=some 23:=by kernel_rfl
@[go_sem] theorem T.dy:HL.BP Tryz.prog 22=some 1:=by kernel_rfl
@[go_sem] theorem T.agg23:HL.CX Tryz.prog 23=some none:=by kernel_rfl
@[go_sem] theorem T.xm:HL.Au Tryz.prog 23=some 1:=by kernel_rfl
@[go_sem] theorem T.mh:HL.Bq Tryz.prog 23=some 24:=by kernel_rfl
@[go_sem] theorem T.ym:HL.AD Tryz.prog 23=some (.slice none 0 0):=by kernel_rfl
@[go_sem] theorem T.vd:HL.AN Tryz.prog 23=some 3:=by kernel_rfl
@[go_sem] theorem T.dx:HL.BP Tryz.prog 23=some 1:=by kernel_rfl
@[go_sem] theorem T.agg36:HL.CX Tryz.prog 36=some none:=by kernel_rfl
@[go_sem] theorem T.bd:HL.Au Tryz.prog 36=some 1:=by kernel_rfl
@[go_sem] theorem T.tu:HL.AN Tryz.prog 36=some 79:=by kernel_rfl
@[go_sem] theorem T.dv:HL.BP Tryz.prog 36=some 2:=by kernel_rfl
@[go_sem] theorem T.agg58:HL.CX Tryz.prog 58=some none:=by kernel_rfl
@[go_sem] theorem T.bc:HL.Au Tryz.prog 58=some 1:=by kernel_rfl
@[go_sem] theorem T.agg61:HL.CX Tryz.prog 61=some none:=by kernel_rfl
@[go_sem] theorem T.bb:HL.Au Tryz.prog 61=some 1:=by kernel_rfl
@[go_sem] theorem T.aa:HL.AN Tryz.prog 61=some 4:=by kernel_rfl
@[go_sem] theorem T.du:HL.BP Tryz.prog 61=some 1:=by kernel_rfl
@[go_sem] theorem T.agg62:HL.CX Tryz.prog 62=some none:=by kernel_rfl
@[go_sem] theorem T.cx:HL.Au Tryz.prog 62=some 1:=by kernel_rfl
@[go_sem] theorem T.bz:HL.AN Tryz.prog 62=some 64:=by kernel_rfl
@[go_sem] theorem T.dt:HL.BP Tryz.prog 62=some 1:=by kernel_rfl
@[go_sem] theorem T.agg63:HL.CX Tryz.prog 63=some none:=by kernel_rfl
@[go_sem] theorem T.cu:HL.Au Tryz.prog 63=some 1:=by kernel_rfl
@[go_sem] theorem T.i6:HL.AN Tryz.prog 63=some 179:=by kernel_rfl
@[go_sem] theorem T.dr:HL.BP Tryz.prog 63=some 1:=by kernel_rfl
@[go_sem] theorem T.agg64:HL.CX Tryz.prog 64=some none:=by kernel_rfl
@[go_sem] theorem T.ct:HL.Au Tryz.prog 64=some 1:=by kernel_rfl
@[go_sem] theorem T.cd:HL.Bq Tryz.prog 64=some 24:=by kernel_rfl
@[go_sem] theorem T.cm:HL.AD Tryz.prog 64=some (.slice none 0 0):=by kernel_rfl
@[go_sem] theorem T.pd:HL.AN Tryz.prog 64=some 124:=by kernel_rfl
@[go_sem] theorem T.dq:HL.BP Tryz.prog 64=some 1:=by kernel_rfl
@[go_sem] theorem T.iz:HL.AC Tryz.prog 66 0=some 0:=by kernel_rfl
@[go_sem] theorem T.iw:HL.AC Tryz.prog 66 1=some 1:=by kernel_rfl
@[go_sem] theorem T.iu:HL.AC Tryz.prog 66 2=some 2:=by kernel_rfl
@[go_sem] theorem T.ir:HL.AC Tryz.prog 66 3=some 3:=by kernel_rfl
@[go_sem] theorem T.iq:HL.AC Tryz.prog 66 4=some 4:=by kernel_rfl
@[go_sem] theorem T.im:HL.AC Tryz.prog 66 5=some 5:=by kernel_rfl
@[go_sem] theorem T.il:HL.AC Tryz.prog 66 6=some 6:=by kernel_rfl
@[go_sem] theorem T.ik:HL.AC Tryz.prog 66 7=some 7:=by kernel_rfl
@[go_sem] theorem T.ij:HL.AC Tryz.prog 66 8=some 8:=by kernel_rfl
@[go_sem] theorem T.ig:HL.AC Tryz.prog 66 9=some 9:=by kernel_rfl
@[go_sem] theorem T.ly:HL.AC Tryz.prog 66 10=some 10:=by kernel_rfl
@[go_sem] theorem T.lj:HL.AC Tryz.prog 66 11=some 11:=by kernel_rfl
@[go_sem] theorem T.lg:HL.AC Tryz.prog 66 12=some 12:=by kernel_rfl
@[go_sem] theorem T.mz:HL.AC Tryz.prog 66 13=some 13:=by kernel_rfl
@[go_sem] theorem T.my:HL.AC Tryz.prog 66 14=some 14:=by kernel_rfl
@[go_sem] theorem T.ck:HL.AD Tryz.prog 68=some (.agg #[.int .i64 0,.slice none 0 0,.int .i64 0,.slice none 0 0,.int .i64 0,.slice none 0 0,.slice none 0 0,.pointer none,.slice none 0 0,.slice none 0 0,.slice none 0 0,.slice none 0 0,.slice none 0 0,.slice none 0 0,.slice none 0 0,.slice none 0 0,.int .i64 0,.int .i64 0,.slice none 0 0,.int .i64 0,.int .i64 0,.bool false]):=by kernel_rfl
@[go_sem] theorem T.fm:HL.Ch Tryz.prog 68=some [(0,1),(1,1),(2,1),(3,1),(4,1),(5,1),(6,1),(7,15)]:=by kernel_rfl
@[go_sem] theorem T.ie:HL.AC Tryz.prog 68 0=some 0:=by kernel_rfl
@[go_sem] theorem T.ic:HL.AC Tryz.prog 68 1=some 1:=by kernel_rfl
@[go_sem] theorem T.ib:HL.AC Tryz.prog 68 2=some 2:=by kernel_rfl
@[go_sem] theorem T.jz:HL.AC Tryz.prog 68 3=some 3:=by kernel_rfl
@[go_sem] theorem T.jw:HL.AC Tryz.prog 68 4=some 4:=by kernel_rfl
@[go_sem] theorem T.jv:HL.AC Tryz.prog 68 5=some 5:=by kernel_rfl
@[go_sem] theorem T.ju:HL.AC Tryz.prog 68 6=some 6:=by kernel_rfl
@[go_sem] theorem T.jt:HL.AC Tryz.prog 68 7=some 7:=by kernel_rfl
@[go_sem] theorem T.agg79:HL.CX Tryz.prog 79=some (some 2):=by kernel_rfl
@[go_sem] theorem T.ue:HL.Au Tryz.prog 79=some 2:=by kernel_rfl
@[go_sem] theorem T.mg:HL.Bq Tryz.prog 79=some 32:=by kernel_rfl
@[go_sem] theorem T.xy:HL.AD Tryz.prog 79=some (.agg #[.bool false,.slice none 0 0]):=by kernel_rfl
@[go_sem] theorem T.tg:HL.Ch Tryz.prog 79=some [(0,1),(1,1)]:=by kernel_rfl
@[go_sem] theorem T.js:HL.AC Tryz.prog 79 0=some 0:=by kernel_rfl
@[go_sem] theorem T.jr:HL.AC Tryz.prog 79 1=some 1:=by kernel_rfl
@[go_sem] theorem T.agg117:HL.CX Tryz.prog 117=some none:=by kernel_rfl
@[go_sem] theorem T.dz:HL.AN Tryz.prog 117=some 2:=by kernel_rfl
@[go_sem] theorem T.fz:HL.BP Tryz.prog 117=some 1:=by kernel_rfl
@[go_sem] theorem T.pz:HL.AD Tryz.prog 119=some (.agg #[.slice none 0 0,.slice none 0 0,.slice none 0 0]):=by kernel_rfl
@[go_sem] theorem T.qa:HL.Ch Tryz.prog 119=some [(0,1),(1,1),(2,1)]:=by kernel_rfl
@[go_sem] theorem T.jd:HL.AC Tryz.prog 119 0=some 0:=by kernel_rfl
@[go_sem] theorem T.jc:HL.AC Tryz.prog 119 1=some 1:=by kernel_rfl
@[go_sem] theorem T.jb:HL.AC Tryz.prog 119 2=some 2:=by kernel_rfl
@[go_sem] theorem T.agg124:HL.CX Tryz.prog 124=some none:=by kernel_rfl
@[go_sem] theorem T.sk:HL.Au Tryz.prog 124=some 1:=by kernel_rfl
@[go_sem] theorem T.pj:HL.Bq Tryz.prog 124=some 8:=by kernel_rfl
@[go_sem] theorem T.sf:HL.AD Tryz.prog 124=some (.pointer none):=by kernel_rfl
@[go_sem] theorem T.agg179:HL.CX Tryz.prog 179=some none:=by kernel_rfl
@[go_sem] theorem T.p8:HL.Au Tryz.prog 179=some 1:=by kernel_rfl
@[go_sem] theorem T.ph:HL.Bq Tryz.prog 179=some 1:=by kernel_rfl
@[go_sem] theorem T.py:HL.AD Tryz.prog 179=some (.int .i8 0):=by kernel_rfl
@[go_sem] theorem T.se:HL.AD Tryz.prog 182=some (.agg #[.slice none 0 0,.int .i64 0,.bool false]):=by kernel_rfl
@[go_sem] theorem T.vq:HL.Ch Tryz.prog 182=some [(0,1),(1,1),(2,1)]:=by kernel_rfl
@[go_sem] theorem T.ja:HL.AC Tryz.prog 182 0=some 0:=by kernel_rfl
@[go_sem] theorem T.kq:HL.AC Tryz.prog 182 2=some 2:=by kernel_rfl
@[go_sem] theorem T.agg183:HL.CX Tryz.prog 183=some none:=by kernel_rfl
@[go_sem] theorem T.agg194:HL.CX Tryz.prog 194=some none:=by kernel_rfl
@[go_sem] theorem T.a8:HL.CX Tryz.prog 195=some none:=by kernel_rfl
@[go_sem] theorem T.dn:HL.Au Tryz.prog 195=some 1:=by kernel_rfl
@[go_sem] theorem T.su:HL.AN Tryz.prog 195=some 200:=by kernel_rfl
@[go_sem] theorem T.fy:HL.BP Tryz.prog 195=some 2:=by kernel_rfl
@[go_sem] theorem T.dm:HL.AD Tryz.prog 197=some (.agg #[.slice none 0 0,.map none,.slice none 0 0,.slice none 0 0,.slice none 0 0,.slice none 0 0,.int .i64 0,.slice none 0 0,.int .i64 0,.bool false,.bool false]):=by kernel_rfl
@[go_sem] theorem T.gm:HL.Ch Tryz.prog 197=some [(0,1),(1,1),(2,1),(3,1),(4,1),(5,1),(6,1),(7,1),(8,1),(9,1),(10,1)]:=by kernel_rfl
@[go_sem] theorem T.kp:HL.AC Tryz.prog 197 0=some 0:=by kernel_rfl
@[go_sem] theorem T.ko:HL.AC Tryz.prog 197 1=some 1:=by kernel_rfl
@[go_sem] theorem T.km:HL.AC Tryz.prog 197 2=some 2:=by kernel_rfl
@[go_sem] theorem T.ki:HL.AC Tryz.prog 197 3=some 3:=by kernel_rfl
@[go_sem] theorem T.kh:HL.AC Tryz.prog 197 4=some 4:=by kernel_rfl
@[go_sem] theorem T.kg:HL.AC Tryz.prog 197 5=some 5:=by kernel_rfl
@[go_sem] theorem T.kf:HL.AC Tryz.prog 197 6=some 6:=by kernel_rfl
@[go_sem] theorem T.ke:HL.AC Tryz.prog 197 7=some 7:=by kernel_rfl
@[go_sem] theorem T.l9:HL.AC Tryz.prog 197 8=some 8:=by kernel_rfl
@[go_sem] theorem T.l8:HL.AC Tryz.prog 197 9=some 9:=by kernel_rfl
@[go_sem] theorem T.mf:HL.AC Tryz.prog 197 10=some 10:=by kernel_rfl
@[go_sem] theorem T.sj:HL.Au Tryz.prog 200=some 2:=by kernel_rfl
@[go_sem] theorem T.pg:HL.Bq Tryz.prog 200=some 32:=by kernel_rfl
@[go_sem] theorem T.tz:HL.AD Tryz.prog 200=some (.agg #[.slice none 0 0,.bool false]):=by kernel_rfl
@[go_sem] theorem T.gk:HL.Ch Tryz.prog 200=some [(0,1),(1,1)]:=by kernel_rfl
@[go_sem] theorem T.l7:HL.AC Tryz.prog 200 0=some 0:=by kernel_rfl
@[go_sem] theorem T.lz:HL.AC Tryz.prog 200 1=some 1:=by kernel_rfl
@[go_sem] theorem T.ss:HL.AN Tryz.prog 254=some 5:=by kernel_rfl
theorem T.qe:HL.ElT Tryz.prog 22 23 1 24 (.slice none 0 0):=⟨T.xu,T.xm,T.mh,T.ym⟩
@[go_sem] theorem T.aq {H:HL.A3} {a0:Option Addr} {l0 c0:Nat}:HL.buildSliceV Tryz.prog H 22 1 [(0,.slice a0 l0 c0)]=some (.slice (some ⟨H.size,0,none⟩) 1 1,H.push (.cells #[.slice a0 l0 c0] 23)):=HL.Fi T.xu T.xm T.ym rfl
@[go_sem] theorem T.ar {H:HL.A3}:HL.buildSliceV Tryz.prog H 22 0 []=some (.slice (some ⟨H.size,0,none⟩) 0 0,H.push (.cells #[] 23)):=HL.PD T.xu T.xm T.ym
theorem T.zk:HL.ElT Tryz.prog 23 3 1 8 (.int .i64 0):=⟨T.vd,T.te,T.gh,T.xv⟩
@[go_sem] theorem T.al {H:HL.A3} {k0:IntKind} {n0:Int}:HL.buildSliceV Tryz.prog H 23 1 [(0,.int k0 n0)]=some (.slice (some ⟨H.size,0,none⟩) 1 1,H.push (.cells #[.int k0 n0] 3)):=HL.Fi T.vd T.te T.xv rfl
@[go_sem] theorem T.ao {H:HL.A3}:HL.buildSliceV Tryz.prog H 23 0 []=some (.slice (some ⟨H.size,0,none⟩) 0 0,H.push (.cells #[] 3)):=HL.PD T.vd T.te T.xv
theorem T.eh:HL.ElT Tryz.prog 36 79 2 32 (.agg #[.bool false,.slice none 0 0]):=⟨T.tu,T.ue,T.mg,T.xy⟩
theorem T.ab:HL.ElT Tryz.prog 63 179 1 1 (.int .i8 0):=⟨T.i6,T.p8,T.ph,T.py⟩
theorem T.vh:HL.ElT Tryz.prog 64 124 1 8 (.pointer none):=⟨T.pd,T.sk,T.pj,T.sf⟩
@[go_sem] theorem T.aj {H:HL.A3} {a0:Option Addr}:HL.buildSliceV Tryz.prog H 64 1 [(0,.pointer a0)]=some (.slice (some ⟨H.size,0,none⟩) 1 1,H.push (.cells #[.pointer a0] 124)):=HL.Fi T.pd T.sk T.sf rfl
theorem T.ey:HL.ElT Tryz.prog 195 200 2 32 (.agg #[.slice none 0 0,.bool false]):=⟨T.su,T.sj,T.pg,T.tz⟩
theorem T.eo:HL.ElT Tryz.prog 254 5 1 1 (.int .u8 0):=⟨T.ss,T.mu,T.gf,T.mn⟩
@[go_sem] theorem T.cf {H:HL.A3} {k0:IntKind} {n0:Int} {k1:IntKind} {n1:Int} {k2:IntKind} {n2:Int}:HL.buildSliceV Tryz.prog H 254 3 [(0,.int k0 n0),(1,.int k1 n1),(2,.int k2 n2)]=some (.slice (some ⟨H.size,0,none⟩) 3 3,H.push (.cells #[.int k0 n0,.int k1 n1,.int k2 n2] 5)):=HL.Sq T.ss T.mu T.mn rfl rfl rfl
@[go_sem] theorem T.pe26 {H:HL.A3} {xo yo:Operand} {a:Addr}:HL.B0 Tryz.prog (HL.AI H) .eql 26 xo yo (.pointer (some a)) (.pointer none)=some (.bool false):=HL.Ik Tryz.underlying26
@[go_sem] theorem T.pe124 {H:HL.A3} {xo yo:Operand} {a:Addr}:HL.B0 Tryz.prog (HL.AI H) .eql 124 xo yo (.pointer (some a)) (.pointer none)=some (.bool false):=HL.Ik Tryz.underlying124
@[go_sem] theorem T.pn124 {H:HL.A3} {xo yo:Operand} {a:Addr}:HL.B0 Tryz.prog (HL.AI H) .neq 124 xo yo (.pointer (some a)) (.pointer none)=some (.bool true):=HL.NS Tryz.underlying124
@[go_sem] theorem T.ne124 {H:HL.A3} {xo yo:Operand}:HL.B0 Tryz.prog (HL.AI H) .eql 124 xo yo (.pointer none) (.pointer none)=some (.bool true):=HL.NU Tryz.underlying124
@[go_sem] theorem T.nn124 {H:HL.A3} {xo yo:Operand}:HL.B0 Tryz.prog (HL.AI H) .neq 124 xo yo (.pointer none) (.pointer none)=some (.bool false):=HL.NT Tryz.underlying124
@[go_sem] theorem T.be4 {H:HL.A3} {xo yo:Operand} {x y:Bool}:HL.B0 Tryz.prog (HL.AI H) .eql 4 xo yo (.bool x) (.bool y)=some (.bool (x == y)):=HL.Hb Tryz.underlying4
@[go_sem] theorem T.cv3_5 {V:HL.HV} {k:IntKind} {n:Int}:HL.CS Tryz.prog V 3 5 (.int k n)=some (.int .u8 (IntKind.u8.wrap n)):=HL.Sj Tryz.underlying3 Tryz.underlying5
@[go_sem] theorem T.ak {H:HL.A3} {x0:Bool} {a1:Option Addr} {l1 c1:Nat}:HL.buildSliceV Tryz.prog H 36 1 [(0,.agg #[.bool x0,.slice a1 l1 c1])]=some (.slice (some ⟨H.size,0,none⟩) 1 1,H.push (.cells #[.bool x0,.slice a1 l1 c1] 79)):=HL.So (vs:=[.agg #[.bool x0,.slice a1 l1 c1]]) T.tu T.ue T.xy (Ja rfl) rfl rfl
@[go_sem] theorem T.cg {H:HL.A3} {a0:Option Addr} {l0 c0:Nat} {x1:Bool}:HL.buildSliceV Tryz.prog H 195 1 [(0,.agg #[.slice a0 l0 c0,.bool x1])]=some (.slice (some ⟨H.size,0,none⟩) 1 1,H.push (.cells #[.slice a0 l0 c0,.bool x1] 200)):=HL.So (vs:=[.agg #[.slice a0 l0 c0,.bool x1]]) T.su T.sj T.tz (Ja rfl) rfl rfl
@[go_sem] theorem T.stn79 {H:HL.A3} {z0 z1:Value} {x0:Bool} {a1:Option Addr} {l1 c1:Nat}:HL.B1 Tryz.prog (H.push (.cells #[z0,z1] 79)) 79 ⟨H.size,0,none⟩ (.agg #[.bool x0,.slice a1 l1 c1])=some (H.push (.cells #[.bool x0,.slice a1 l1 c1] 79)):=HL.PU (z:=[z0,z1]) (vs:=[.bool x0,.slice a1 l1 c1]) T.ue rfl (HL.Tv rfl)
end Go.Proofs
namespace Go.Proofs.YtkdlmdmlomgdiaaGreat.HM
open Go.HL
def up1 (f:Nat->Int) (i:Nat) (v:Int):Nat->Int:=fun j=>if j=i then v else f j
theorem Bv {xs:List Int} {i:Nat} {v:Int} (h:i < xs.length):nt (xs.set i v)=up1 (nt xs) i v:=by
 funext j;unfold up1;split
 ·rename_i e; subst e; exact Hw h
 ·rename_i e; exact L7 (Ne.symm e)
def par (i:Nat):Nat:=(i - 1) / 2
def bf (A:Nat->Int) (a b:Int):Prop:=A b.toNat < A a.toNat\/A a.toNat=A b.toNat/\a < b
instance {A:Nat->Int} {a b:Int}:Decidable (bf A a b):=by unfold bf; infer_instance
theorem Fj {A:Nat->Int} {a b c:Int} (h:¬ bf A a b) (h':¬ bf A b c):¬ bf A a c:=by unfold bf at *; omega
theorem Ms {A:Nat->Int} {a b:Int} (h:bf A a b):¬ bf A b a:=by unfold bf at *; omega
theorem j3i {A:Nat->Int} {a b c:Int} (h:bf A a b) (h':¬ bf A c b):¬ bf A c a:=by unfold bf at *; omega
theorem OQ {A:Nat->Int} {a:Int}:¬ bf A a a:=by unfold bf; omega
structure Ok (n m:Nat) (O L:Nat->Int):Prop where
 le:m<=n
 rng:∀ i,i < m->1<=O i/\O i<=n/\L (O i).toNat=i
 pos:∀ v:Nat,1<=v->v<=n->L v = -1\/(0<=L v/\L v < m/\O (L v).toNat=v)
 zero:L 0 = -1
def swp (O:Nat->Int) (i p:Nat):Nat->Int:=fun j=>if j=p then O i else if j=i then O p else O j
theorem Ok.swap {n m:Nat} {O L:Nat->Int} (h:Ok n m O L) {i p:Nat} (hi:i < m) (hp:p < m) (hne:i ≠ p) :
  Ok n m (swp O i p) (up1 (up1 L (O p).toNat i) (O i).toNat p):=by
 have ri:=h.rng i hi
 have rp:=h.rng p hp
 have hd:(O i).toNat ≠ (O p).toNat:=by
  intro e;have:((i:Int))=p:=(by rw [<- ri.2.2,<- rp.2.2,e]);omega
 refine ⟨h.le,?_,?_,?_⟩
 ·intro j hj
  unfold swp up1
  by_cases e1:j=p
  ·subst e1; simp; omega
  ·by_cases e2:j=i
   ·subst e2
    simp only [e1,Z3,Zr]
    refine ⟨rp.1,rp.2.1,?_⟩
    rw [J4 (Ne.symm hd)]
   ·have rj:=h.rng j hj
    simp only [e1,e2,Z3]
    have d1:(O j).toNat ≠ (O i).toNat:=by
     intro e; have:((j:Int))=i:=(by rw [<- rj.2.2,<- ri.2.2,e]);omega
    have d2:(O j).toNat ≠ (O p).toNat:=by
     intro e; have:((j:Int))=p:=(by rw [<- rj.2.2,<- rp.2.2,e]);omega
    rw [J4 d1,J4 d2]
    exact rj
 ·intro v h1 h2
  unfold up1
  by_cases e1:v=(O i).toNat
  ·subst e1
   right
   simp only [Zr]
   refine ⟨by omega,by omega,?_⟩
   unfold swp
   simp
   omega
  ·by_cases e2:v=(O p).toNat
   ·subst e2
    right
    rw [J4 e1,J8 rfl]
    refine ⟨by omega,by omega,?_⟩
    unfold swp
    have:¬ ((i:Int)).toNat=p:=by omega
    rw [J4 this]
    simp
    omega
   ·rw [J4 e1,J4 e2]
    rcases h.pos v h1 h2 with h3 | ⟨h3,h4,h5⟩
    ·exact .inl h3
    ·right
     refine ⟨h3,h4,?_⟩
     unfold swp
     have d1:(L v).toNat ≠ p:=by rintro e; rw [e] at h5; omega
     have d2:(L v).toNat ≠ i:=by rintro e; rw [e] at h5; omega
     rw [J4 d1,J4 d2]
     exact h5
 ·unfold up1
  rw [J4 (by omega),J4 (by omega)]
  exact h.zero
def OrdAll (A:Nat->Int) (m:Nat) (O:Nat->Int):Prop:=∀ j,0 < j->j < m->¬ bf A (O j) (O (par j))
structure UpInv (A:Nat->Int) (m:Nat) (O:Nat->Int) (i:Nat):Prop where
 ord:∀ j,0 < j->j < m->j ≠ i->¬ bf A (O j) (O (par j))
 kid:0 < i->∀ c,0 < c->c < m->par c=i->¬ bf A (O c) (O (par i))
theorem UpInv.step {A:Nat->Int} {m:Nat} {O:Nat->Int} {i:Nat} (h:UpInv A m O i) (h0:0 < i) (hm:i < m) (hb:bf A (O i) (O (par i))):UpInv A m (swp O i (par i)) (par i):=by
 have hpi:par i < i:=(by unfold par; omega);constructor
 ·intro j hj hjm hne;unfold swp;rw [J4 hne];by_cases hji:j=i
  ·subst hji;simp only [Zr];exact Ms hb
  ·rw [J4 hji];by_cases e1:par j=par i
   ·rw [J8 e1];have:=h.ord j hj hjm hji;rw [e1] at this;exact j3i hb this
   ·rw [J4 e1];by_cases e2:par j=i
    ·rw [J8 e2];exact h.kid h0 j hj hjm e2
    ·rw [J4 e2];exact h.ord j hj hjm hji
 ·intro hp c hc hcm hpc;unfold swp;have hpp:par (par i) < par i:=(by unfold par at hp ⊢; omega);have d1:¬ par (par i)=par i:=(by omega);have d2:¬ par (par i)=i:=(by omega);rw [J4 d1,J4 d2];have d3:¬ c=par i:=(by intro e; rw [e] at hpc; omega);rw [J4 d3];have hpi':=h.ord (par i) hp (by omega) (by omega);by_cases hci:c=i
  ·rw [J8 hci]; exact hpi'
  ·rw [J4 hci];have:=h.ord c hc hcm hci;rw [hpc] at this;exact Fj this hpi'
theorem UpInv.done {A:Nat->Int} {m:Nat} {O:Nat->Int} {i:Nat} (h:UpInv A m O i) (he:i=0\/¬ bf A (O i) (O (par i))):OrdAll A m O:=by
 intro j hj hjm;by_cases hji:j=i
 ·subst hji;rcases he with he | he
  ·omega
  ·exact he
 ·exact h.ord j hj hjm hji
structure DnInv (A:Nat->Int) (m:Nat) (O:Nat->Int) (lo k:Nat):Prop where
 ord:∀ j,0 < j->j < m->lo<=par j->par j ≠ k->¬ bf A (O j) (O (par j))
 kid:lo ≠ k->0 < k/\lo<=par k/\∀ c,0 < c->c < m->par c=k->¬ bf A (O c) (O (par k))
theorem DnInv.step {A:Nat->Int} {m:Nat} {O:Nat->Int} {lo k c:Nat} (h:DnInv A m O lo k) (hlk:lo<=k) (hk:k < m) (hc:c < m) (hc0:0 < c) (hpc:par c=k)
  (hbest:∀ c',0 < c'->c' < m->par c'=k->¬ bf A (O c') (O c)) (hb:bf A (O c) (O k)):DnInv A m (swp O k c) lo c:=by
 have hkc:k < c:=by unfold par at hpc; omega
 constructor
 ·intro j hj hjm hlo hne
  unfold swp
  rw [J4 hne]
  by_cases hjc:j=c
  ·subst hjc
   rw [J8 rfl,J8 hpc]
   exact Ms hb
  ·rw [J4 hjc]
   by_cases hjk:j=k
   ·subst hjk
    rw [J8 rfl]
    have hpk:par j ≠ j:=by unfold par; omega
    rw [J4 hpk]
    have hlk':lo ≠ j:=by
     intro e; subst e;unfold par at hlo; omega
    obtain ⟨_,_,h3⟩:=h.kid hlk'
    exact h3 c hc0 hc hpc
   ·rw [J4 hjk]
    by_cases e:par j=k
    ·rw [J8 e]
     exact hbest j hj hjm e
    ·rw [J4 e]
     exact h.ord j hj hjm hlo e
 ·intro _
  refine ⟨hc0,by omega,?_⟩
  intro g hg hgm hpg
  unfold swp
  have d1:g ≠ c:=by intro e; subst e; unfold par at hpg; omega
  have d2:g ≠ k:=by intro e; subst e; unfold par at hpg hpc; omega
  rw [J4 d1,J4 d2]
  have d3:¬ par c=c:=by omega
  rw [J4 d3,J8 hpc]
  have:=h.ord g hg hgm (by omega) (by omega)
  rwa [hpg] at this
theorem DnInv.done {A:Nat->Int} {m:Nat} {O:Nat->Int} {lo k:Nat} (h:DnInv A m O lo k) (he:∀ c,0 < c->c < m->par c=k->¬ bf A (O c) (O k)) :
  ∀ j,0 < j->j < m->lo<=par j->¬ bf A (O j) (O (par j)):=by
 intro j hj hjm hlo
 by_cases e:par j=k
 ·rw [e]; exact he j hj hjm e
 ·exact h.ord j hj hjm hlo e
theorem Ok.pop {n m:Nat} {O L:Nat->Int} (h:Ok n m O L) (h1:1 < m):Ok n (m - 1) (up1 O 0 (O (m - 1))) (up1 (up1 L (O 0).toNat (-1)) (O (m - 1)).toNat 0):=by
 have r0:=h.rng 0 (by omega);have rl:=h.rng (m - 1) (by omega);have hd:(O 0).toNat ≠ (O (m - 1)).toNat:=by
  intro e;have:((0:Nat):Int)=((m - 1:Nat):Int):=(by rw [<- r0.2.2,<- rl.2.2,e]);omega
 refine ⟨by have:=h.le; omega,?_,?_,?_⟩
 ·intro j hj;unfold up1;by_cases e:j=0
  ·subst e; simp; omega
  ·have rj:=h.rng j (by omega);rw [J4 e];have d1:(O j).toNat ≠ (O (m - 1)).toNat:=by
    intro e; have:((j:Nat):Int)=((m - 1:Nat):Int):=(by rw [<- rj.2.2,<- rl.2.2,e]);omega
   have d2:(O j).toNat ≠ (O 0).toNat:=by
    intro e; have:((j:Nat):Int)=((0:Nat):Int):=(by rw [<- rj.2.2,<- r0.2.2,e]);omega
   rw [J4 d1,J4 d2];exact rj
 ·intro v h1' h2';unfold up1;by_cases e1:v=(O (m - 1)).toNat
  ·subst e1;right;simp;omega
  ·rw [J4 e1];by_cases e2:v=(O 0).toNat
   ·rw [J8 e2]; exact .inl rfl
   ·rw [J4 e2];rcases h.pos v h1' h2' with h3 | ⟨h3,h4,h5⟩
    ·exact .inl h3
    ·right;have d0:(L v).toNat ≠ 0:=(by intro e; rw [e] at h5; omega);have dl:(L v).toNat ≠ m - 1:=(by intro e; rw [e] at h5; omega);refine ⟨h3,by omega,?_⟩;rw [J4 d0]; exact h5
 ·unfold up1;rw [J4 (by omega),J4 (by omega)]; exact h.zero
theorem Ok.bk {n:Nat} {O L:Nat->Int} (h:Ok n 1 O L):Ok n 0 O (up1 L (O 0).toNat (-1)):=by
 have r0:=h.rng 0 (by omega);refine ⟨by omega,fun i hi=>by omega,?_,?_⟩
 ·intro v h1 h2;left;unfold up1;split
  ·rfl
  ·rename_i e;rcases h.pos v h1 h2 with h3 | ⟨h3,h4,h5⟩
   ·exact h3
   ·exfalso;have:(L v).toNat=0:=(by omega);rw [this] at h5;omega
 ·unfold up1; rw [J4 (by omega)]; exact h.zero
theorem php:∀ (n m:Nat) (f:Nat->Nat),(∀ i,i < m->f i < n)->(∀ i j,i < m->j < m->f i=f j->i=j)->m<=n:=by
 intro n;induction n with
 | zero=>intro m f h _; cases m with | zero=>omega | succ m=>have:=h 0 (by omega); omega
 | succ n ih =>
  intro m f h hi;by_cases hx:∃ i,i < m/\f i=n
  ·obtain ⟨i0,hi0,hf0⟩:=hx;have:=ih (m - 1) (fun i=>if i=i0 then f (m - 1) else f i) ?_ ?_
   ·omega
   ·intro i him;show (if i=i0 then f (m - 1) else f i) < n;split
    ·rename_i e;have h1:=h (m - 1) (by omega);have h2:f (m - 1) ≠ n:=fun e'=>(by have:=hi (m - 1) i0 (by omega) hi0 (by omega); omega);omega
    ·rename_i e;have h1:=h i (by omega);have h2:f i ≠ n:=fun e'=>e (hi i i0 (by omega) hi0 (by omega));omega
   ·intro i j him hjm e;by_cases e1:i=i0 <;> by_cases e2:j=i0
    ·omega
    ·rw [J8 e1,J4 e2] at e; have:=hi (m - 1) j (by omega) (by omega) e; omega
    ·rw [J4 e1,J8 e2] at e; have:=hi i (m - 1) (by omega) (by omega) e; omega
    ·rw [J4 e1,J4 e2] at e; exact hi i j (by omega) (by omega) e
  ·have:=ih m f (fun i him=>by have:=h i him; have:f i ≠ n:=fun e=>hx ⟨i,him,e⟩; omega) hi;omega
theorem Ok.room {n m:Nat} {O L:Nat->Int} (h:Ok n m O L) {v:Nat} (h1:1<=v) (h2:v<=n) (hv:L v = -1):m < n:=by
 have inj:∀ i j,i < m->j < m->(O i).toNat=(O j).toNat->i=j:=by
  intro i j hi hj e;have:((i:Nat):Int)=j:=(by rw [<- (h.rng i hi).2.2,<- (h.rng j hj).2.2,e]);omega
 have:=php (n - 1) m (fun i=>if (O i).toNat=n then v - 1 else (O i).toNat - 1) ?_ ?_
 ·omega
 ·intro i hi;have r:=h.rng i hi;have hne:(O i).toNat ≠ v:=(by intro e; rw [e] at r; omega);show (if (O i).toNat=n then v - 1 else (O i).toNat - 1) < n - 1;split <;> omega
 ·intro i j hi hj e;have ri:=h.rng i hi;have rj:=h.rng j hj;have hni:(O i).toNat ≠ v:=(by intro e; rw [e] at ri; omega);have hnj:(O j).toNat ≠ v:=(by intro e; rw [e] at rj; omega);apply inj i j hi hj;split at e <;> split at e <;> omega
theorem Ok.add {n m:Nat} {O L:Nat->Int} (h:Ok n m O L) {v:Nat} (h1:1<=v) (h2:v<=n) (hv:L v = -1):Ok n (m + 1) (up1 O m v) (up1 L v m):=by
 have hroom:=h.room h1 h2 hv;refine ⟨by omega,?_,?_,?_⟩
 ·intro j hj;unfold up1;by_cases e:j=m
  ·subst e; simp; omega
  ·have rj:=h.rng j (by omega);rw [J4 e];have d:(O j).toNat ≠ v:=(by intro e; rw [e] at rj; omega);rw [J4 d];exact rj
 ·intro u h1' h2';unfold up1;by_cases e:u=v
  ·subst e; right; simp; omega
  ·rw [J4 e];rcases h.pos u h1' h2' with h3 | ⟨h3,h4,h5⟩
   ·exact .inl h3
   ·right;have d:(L u).toNat ≠ m:=(by omega);rw [J4 d];exact ⟨h3,by omega,h5⟩
 ·unfold up1; rw [J4 (by omega)]; exact h.zero
theorem UpInv.last {A:Nat->Int} {m:Nat} {O:Nat->Int} {v:Int} (h:OrdAll A m O):UpInv A (m + 1) (up1 O m v) m:=by
 constructor
 ·intro j hj hjm hne;have hp:par j < j:=(by unfold par; omega);unfold up1;rw [J4 hne,J4 (by omega)];exact h j hj (by omega)
 ·intro _ c hc hcm hpc;unfold par at hpc; omega
theorem UpInv.bump {A A':Nat->Int} {n m:Nat} {O L:Nat->Int} (hok:Ok n m O L) (h:OrdAll A m O) {i:Nat} (hi:i < m) (hs:∀ u,u ≠ (O i).toNat->A' u=A u) (hg:A (O i).toNat<=A' (O i).toNat):UpInv A' m O i:=by
 have ne:∀ j,j < m->j ≠ i->(O j).toNat ≠ (O i).toNat:=by
  intro j hj hne e;have:((j:Nat):Int)=i:=(by rw [<- (hok.rng j hj).2.2,<- (hok.rng i hi).2.2,e]);omega
 constructor
 ·intro j hj hjm hji;have hp:par j < j:=(by unfold par; omega);have:=h j hj hjm;have e1:=hs _ (ne j hjm hji);by_cases hpi:par j=i
  ·rw [hpi] at this ⊢;unfold bf at this ⊢;rw [e1]; omega
  ·have e2:=hs _ (ne (par j) (by omega) hpi);unfold bf at this ⊢;rw [e1,e2]; exact this
 ·intro h0 c hc hcm hpc;have hpc':par i < i:=(by unfold par; omega);have hci:i < c:=(by unfold par at hpc; omega);have t1:=h c hc hcm;rw [hpc] at t1;have t2:=h i h0 hi;have t:=Fj t1 t2;have e1:=hs _ (ne c hcm (by omega));have e2:=hs _ (ne (par i) (by omega) (by omega));unfold bf at t ⊢;rw [e1,e2]; exact t
theorem OrdAll.pk {A A':Nat->Int} {n m:Nat} {O L:Nat->Int} (hok:Ok n m O L) (h:OrdAll A m O) {v:Nat} (hv:L v = -1) (hs:∀ u,u ≠ v->A' u=A u):OrdAll A' m O:=by
 have ne:∀ j,j < m->(O j).toNat ≠ v:=by
  intro j hj e;have:=(hok.rng j hj).2.2;rw [e,hv] at this; omega
 intro j hj hjm;have hp:par j < j:=(by unfold par; omega);have:=h j hj hjm;unfold bf at this ⊢;rw [hs _ (ne j hjm),hs _ (ne (par j) (by omega))]; exact this
end Go.Proofs.YtkdlmdmlomgdiaaGreat.HM
namespace Go.Proofs.YtkdlmdmlomgdiaaGreat
open Go.HL HM
abbrev hp (p:Nat):Value:=.pointer (some ⟨p,0,none⟩)
abbrev iv (n:Int):Value:=.int .i64 n
theorem Gf {H:A3} {p bp n c:Nat} {v:Int} (hc:A5 H ⟨p,1,none⟩=some (.slice (some ⟨bp,0,none⟩) n c)) :
  CallF Tryz.prog 205 [hp p,iv v] H (fun r H'=>H=H'/\r=.bool (decide (1<=v/\v < n))) NoP:=by
 refine A9 Tryz.func205 rfl Tryz.ntmps205 Tryz.results205 (by decide) rfl ?_
 by_cases h:1<=v
 ·simp (disch:=omega) only [go_sem,↓cB,hc]
  exact fin ⟨rfl,by simp [h]⟩
 ·simp (disch:=omega) only [go_sem,↓cB,hc]
  exact fin ⟨rfl,by simp [h]⟩
theorem Dj {H:A3} {p ba c:Nat} {ac:List Int} {v w:Int} (hc:A5 H ⟨p,2,none⟩=some (.slice (some ⟨ba,0,none⟩) ac.length c)) (ha:IB H ba 2 ac)
  (hv:0<=v/\v < ac.length) (hw:0<=w/\w < ac.length) :
  CallF Tryz.prog 263 [hp p,iv v,iv w] H
   (fun r H'=>H=H'/\r=.bool (decide (nt ac w.toNat < nt ac v.toNat\/nt ac v.toNat=nt ac w.toNat/\v < w))) NoP:=by
 have c1:=ha.cell (i:=v.toNat) (by omega)
 have c2:=ha.cell (i:=w.toNat) (by omega)
 refine A9 Tryz.func263 rfl Tryz.ntmps263 Tryz.results263 (by decide) rfl ?_
 simp (disch:=omega) only [go_sem,↓cB]
 refine As (lk [tl 0,tl 1,tl 2,tl 3,tl 4,tl 5,tl 6,tl 7,tl 8,tl 9,tl 10,tl 11,tl 12,tl 13,tl 14] .fin) T.mixed ?_
 simp (disch:=omega) only [go_sem,↓cB,hc,c1,c2]
 refine Ba (fun h=>?_) (fun h=>?_)
 ·simp (disch:=omega) only [go_sem,↓cB]
  refine As (lk [tl 0,tl 1,tl 2,tl 3,tl 4,tl 5,tl 6,tl 7,tl 8,tl 9,tl 10,tl 11,tl 12,tl 13,tl 14,tl 15] .fin) T.mixed ?_
  simp (disch:=omega) only [go_sem,↓cB,hc,c1,c2]
  exact fin ⟨rfl,by simp [h]⟩
 ·simp (disch:=omega) only [go_sem,↓cB]
  exact fin ⟨rfl,by simp at h; simp [h]⟩
structure HA (H:A3) (p bo bp ba n m:Nat) (os pl ac:List Int):Prop where
 self:Blk H p 119 [.slice (some ⟨bo,0,none⟩) m n,.slice (some ⟨bp,0,none⟩) (n + 1) (n + 1),.slice (some ⟨ba,0,none⟩) (n + 1) (n + 1)]
 io:IB H bo 3 os
 ip:IB H bp 3 pl
 ia:IB H ba 2 ac
 lo:os.length=n
 lp:pl.length=n + 1
 la:ac.length=n + 1
 ne:p ≠ bo/\p ≠ bp/\p ≠ ba/\bo ≠ bp/\bo ≠ ba/\bp ≠ ba
 big:n<=100000
section
variable {H:A3} {p bo bp ba n m:Nat} {os pl ac:List Int}
theorem HA.c0 (h:HA H p bo bp ba n m os pl ac):A5 H ⟨p,0,none⟩=some (.slice (some ⟨bo,0,none⟩) m n):=h.self.cell 0
theorem HA.c1 (h:HA H p bo bp ba n m os pl ac):A5 H ⟨p,1,none⟩=some (.slice (some ⟨bp,0,none⟩) (n + 1) (n + 1)):=h.self.cell 1
theorem HA.c2 (h:HA H p bo bp ba n m os pl ac):A5 H ⟨p,2,none⟩=some (.slice (some ⟨ba,0,none⟩) (n + 1) (n + 1)):=h.self.cell 2
theorem HA.frame {H':A3} {F:List Nat} (h:HA H p bo bp ba n m os pl ac) (hf:Fr F H H') (h1:p ∉ F) (h2:bo ∉ F) (h3:bp ∉ F) (h4:ba ∉ F):HA H' p bo bp ba n m os pl ac :=
 ⟨hf.blk h.self h1,hf.blk h.io h2,hf.blk h.ip h3,hf.blk h.ia h4,h.lo,h.lp,h.la,h.ne,h.big⟩
theorem EU (h:HA H p bo bp ba n m os pl ac) {i v:Int} (hi:0<=i/\i < m) (hm:m<=n) (hv:0<=v/\v<=n) :
  CallF Tryz.prog 213 [hp p,iv i,iv v] H
   (fun r H'=>r=.tuple #[]/\HA H' p bo bp ba n m (os.set i.toNat v) (pl.set v.toNat i) ac/\Fr [bo,bp] H H') NoP:=by
 have hn:=h.ne
 have hlo:=h.lo
 have hlp:=h.lp
 have c0:=h.c0
 have w1:=h.io.wr (i:=i.toNat) (by omega)
 have g1:=h.io.set i.toNat v
 have c1:=(h.self.zd (a:=⟨bo,i.toNat,none⟩) (v:=iv v) hn.1).cell 1
 have p1:=h.ip.zd (a:=⟨bo,i.toNat,none⟩) (v:=iv v) hn.2.2.2.1.symm
 have w2:=p1.wr (i:=v.toNat) (by omega)
 refine A9 Tryz.func213 rfl Tryz.ntmps213 Tryz.results213 (by decide) rfl ?_
 simp (disch:=omega) only [go_sem,↓cB,c0,w1,c1,w2]
 refine fin ⟨rfl,⟨?_,?_,?_,?_,by simp [hlo],by simp [hlp],h.la,hn,h.big⟩,(Fr.set (by simp)).trans (Fr.set (by simp))⟩
 ·exact (h.self.zd hn.1).zd hn.2.1
 ·exact g1.zd hn.2.2.2.1
 ·exact p1.set _ _
 ·exact (h.ia.zd hn.2.2.2.2.1.symm).zd hn.2.2.2.2.2.symm
theorem Lu (h:HA H p bo bp ba n m os pl ac) {i:Nat} (hok:Ok n m (nt os) (up1 (nt pl) (nt os i).toNat i)) (hi:i < m) (hu:UpInv (nt ac) m (nt os) i) :
  CallF Tryz.prog 206 [hp p,iv i] H
   (fun r H'=>r=.tuple #[]/\Fr [bo,bp] H H'/\∃ os' pl',HA H' p bo bp ba n m os' pl' ac/\Ok n m (nt os') (nt pl')/\OrdAll (nt ac) m (nt os')/\∀ v,(nt pl' v = -1↔up1 (nt pl) (nt os i).toNat i v = -1)) NoP:=by
 have hlo:=h.lo
 have hlp:=h.lp
 have hla:=h.la
 have hmn:=hok.le
 have hbig:=h.big
 have hri:=hok.rng i hi
 have c0:=h.c0
 have ci:=h.io.cell (i:=i) (by omega)
 refine A9 Tryz.func206 rfl Tryz.ntmps206 Tryz.results206 (by decide) rfl ?_
 simp (disch:=omega) only [go_sem,↓cB,c0,ci,Z4]
 refine Ae (fun k U H1=>∃ (j:Nat) (os1 pl1:List Int),k=j/\j < m/\(U.get 0=hp p/\U.get 1=iv j/\U.get 4=iv (nt os i)/\U.ds = [])/\HA H1 p bo bp ba n m os1 pl1 ac/\Fr [bo,bp] H H1 /\
  Ok n m (up1 (nt os1) j (nt os i)) (up1 (nt pl1) (nt os i).toNat j)/\UpInv (nt ac) m (up1 (nt os1) j (nt os i)) j/\∀ v,(up1 (nt pl1) (nt os i).toNat j v = -1↔up1 (nt pl) (nt os i).toNat i v = -1)) (k:=i) ?_ ?_
 ·have e1:up1 (nt os) i (nt os i)=nt os:=by funext j; unfold up1; split <;> simp_all
  refine ⟨i,os,pl,rfl,hi,by simp (disch:=omega) only [go_sem,↓cB,Z4],h,Fr.refl _ _,?_,?_,?_⟩
  ·rw [e1]; exact hok
  ·rw [e1]; exact hu
  ·exact fun _=>Iff.rfl
 ·rintro k U H1 ⟨j,os1,pl1,rfl,hj,⟨r0,r1,r4,rd⟩,h1,hf,hok1,hu1,hc1⟩
  have hlo1:=h1.lo
  have hlp1:=h1.lp
  have hn:=h1.ne
  have c2':A5 H1 ⟨p,2,none⟩=some (.slice (some ⟨ba,0,none⟩) ac.length (n + 1)):=by rw [hla]; exact h1.c2
  have d0:=h1.c0
  have last:∀ (U':En),U'.get 0=hp p->U'.get 1=iv k->U'.get 4=iv (nt os i)->U'.ds = []->(k=0\/¬ bf (nt ac) (nt os i) (nt os1 (par k))) ->
    HA H1 p bo bp ba n m os1 pl1 ac->CallF Tryz.prog 213 [hp p,iv k,iv (nt os i)] H1 (fun r H'=>r=.tuple #[]/\Fr [bo,bp] H H'/\∃ os' pl',HA H' p bo bp ba n m os' pl' ac/\Ok n m (nt os') (nt pl')/\OrdAll (nt ac) m (nt os')/\∀ v,(nt pl' v = -1↔up1 (nt pl) (nt os i).toNat i v = -1)) NoP:=by
   intro U' _ _ _ _ he _
   refine (EU h1 (by omega) hmn (by omega)).to ?_
   rintro v H' ⟨rfl,h2,hf2⟩
   simp only [Z4] at h2
   refine ⟨rfl,hf.trans hf2,_,_,h2,?_,?_,?_⟩
   ·rw [Bv (by omega),Bv (by omega)]; exact hok1
   ·rw [Bv (by omega)]
    refine hu1.done ?_
    rcases he with he | he
    ·exact .inl he
    ·by_cases hk0:k=0
     ·exact .inl hk0
     ·right
      unfold up1
      have:¬ par k=k:=by unfold par; omega
      rw [J8 rfl,J4 this]
      exact he
   ·rw [Bv (by omega)]; exact hc1
  simp (disch:=omega) only [go_sem,↓cB,r0,r1,r4,rd]
  refine Ba (fun hk0=>?_) (fun hk0=>?_)
  ·have hq:((k:Int) - 1) / 2=((par k:Nat):Int):=by unfold par; omega
   have hqk:par k < k:=by unfold par; omega
   have dp:=h1.io.cell (i:=par k) (by omega)
   have rp:=hok1.rng (par k) (by omega)
   have e1:up1 (nt os1) k (nt os i) (par k)=nt os1 (par k):=J4 (by omega)
   rw [e1] at rp
   simp (disch:=omega) only [go_sem,↓cB,r0,r1,r4,rd,hq,d0,dp]
   refine A7 (Dj c2' h1.ia (by omega) (by omega)) ?_
   rintro _ _ ⟨rfl,rfl⟩
   simp (disch:=omega) only [go_sem,↓cB,r0,r1,r4,rd]
   refine Ba (fun hb=>?_) (fun hb=>?_)
   ·simp (disch:=omega) only [go_sem,↓cB,r0,r1,r4,rd]
    refine A7 (last U r0 r1 r4 rd (.inr ?_) h1) ?_
    ·exact hb
    ·rintro v H' hx
     simp (disch:=omega) only [go_sem,↓cB,rd]
     exact fin ⟨rfl,hx.2⟩
   ·have hb':bf (nt ac) (nt os i) (nt os1 (par k)):=by unfold bf; exact Wd.1 hb
    simp (disch:=omega) only [go_sem,↓cB,r0,r1,r4,rd,d0,dp]
    refine A7 (EU h1 (by omega) hmn (by omega)) ?_
    rintro v H' ⟨rfl,h2,hf2⟩
    simp (disch:=omega) only [go_sem,↓cB,r0,r1,r4,rd]
    have hst:=hu1.step (by omega) hj (by rw [e1]; unfold up1; rw [J8 rfl]; exact hb')
    have hsw:=hok1.swap hj (p:=par k) (by omega) (by omega)
    rw [e1] at hsw
    have ek:up1 (nt os1) k (nt os i) k=nt os i:=J8 rfl
    rw [ek] at hsw
    have eO:up1 (nt (os1.set k (nt os1 (par k)))) (par k) (nt os i)=swp (up1 (nt os1) k (nt os i)) k (par k):=by
     rw [Bv (by omega)];funext x;unfold swp up1;by_cases x1:x=par k
     ·simp [x1]
     ·by_cases x2:x=k
      ·subst x2;have:¬ par x=x:=(by omega);simp [x1,this]
      ·simp [x1,x2]
    have eL:up1 (nt (pl1.set (nt os1 (par k)).toNat k)) (nt os i).toNat (par k)=up1 (up1 (up1 (nt pl1) (nt os i).toNat k) (nt os1 (par k)).toNat k) (nt os i).toNat (par k):=by
     rw [Bv (by omega)];funext x;unfold up1;by_cases x1:x=(nt os i).toNat
     ·simp [x1]
     ·simp [x1]
    refine fin ⟨par k,hqk,par k,_,_,rfl,by omega,by simp (disch:=omega) only [go_sem,↓cB,r0,r1,r4,rd],h2,hf.trans hf2,?_,?_,?_⟩
    ·rw [Z4,eO,eL]; exact hsw
    ·rw [Z4,eO]; exact hst
    ·intro v
     rw [eL]
     have:=hc1 v
     rw [<- this]
     have rk:=hok1.rng k hj
     rw [ek] at rk
     have rpp:=rp.2.2
     unfold up1 at rpp this ⊢
     by_cases x1:v=(nt os i).toNat
     ·simp [x1]
     ·simp only [x1,Z3]
      by_cases x2:v=(nt os1 (par k)).toNat
      ·subst x2
       simp only [Zr]
       rw [J4 x1] at rpp
       omega
      ·simp only [x2,Z3]
  ·have hk0':k=0:=by omega
   simp (disch:=omega) only [go_sem,↓cB,r0,r1,r4,rd]
   refine A7 (last U r0 r1 r4 rd (.inl hk0') h1) ?_
   rintro v H' hx
   simp (disch:=omega) only [go_sem,↓cB,rd]
   exact fin ⟨rfl,hx.2⟩
theorem Lj (h:HA H p bo bp ba n m os pl ac) (hok:Ok n m (nt os) (nt pl)) {i:Nat} (hi:i < m) (hd:∀ j,0 < j->j < m->i < par j->¬ bf (nt ac) (nt os j) (nt os (par j))) :
  CallF Tryz.prog 214 [hp p,iv i] H
   (fun r H'=>r=.tuple #[]/\Fr [bo,bp] H H'/\∃ os' pl',HA H' p bo bp ba n m os' pl' ac/\Ok n m (nt os') (nt pl')/\(∀ j,0 < j->j < m->i<=par j->¬ bf (nt ac) (nt os' j) (nt os' (par j)))/\∀ v,(nt pl' v = -1↔nt pl v = -1)) NoP:=by
 have hlo:=h.lo
 have hlp:=h.lp
 have hla:=h.la
 have hmn:=hok.le
 have hbig:=h.big
 have hri:=hok.rng i hi
 have c0:=h.c0
 have ci:=h.io.cell (i:=i) (by omega)
 refine A9 Tryz.func214 rfl Tryz.ntmps214 Tryz.results214 (by decide) rfl ?_
 simp (disch:=omega) only [go_sem,↓cB,c0,ci]
 refine Ae (fun k U H1=>∃ (j:Nat) (os1 pl1:List Int),k=m - j/\j < m/\i<=j/\(U.get 0=hp p/\U.get 1=iv j/\U.get 4=iv (nt os i)/\U.ds = [])/\HA H1 p bo bp ba n m os1 pl1 ac/\Fr [bo,bp] H H1 /\
  Ok n m (up1 (nt os1) j (nt os i)) (up1 (nt pl1) (nt os i).toNat j)/\DnInv (nt ac) m (up1 (nt os1) j (nt os i)) i j/\∀ v,(up1 (nt pl1) (nt os i).toNat j v = -1↔nt pl v = -1)) (k:=m - i) ?_ ?_
 ·have e1:up1 (nt os) i (nt os i)=nt os:=by funext j; unfold up1; split <;> simp_all
  have e2:up1 (nt pl) (nt os i).toNat i=nt pl:=by funext j; unfold up1; split <;> simp_all
  refine ⟨i,os,pl,rfl,hi,Jb _,by simp (disch:=omega) only [go_sem,↓cB],h,Fr.refl _ _,?_,?_,?_⟩
  ·rw [e1,e2]; exact hok
  ·rw [e1]; exact ⟨fun j a b c d=>hd j a b (by omega),fun e=>absurd rfl e⟩
  ·rw [e2]; exact fun _=>Iff.rfl
 ·rintro _ U H1 ⟨k,os1,pl1,rfl,hj,hik,⟨r0,r1,r4,rd⟩,h1,hf,hok1,hu1,hc1⟩
  have hlo1:=h1.lo
  have hlp1:=h1.lp
  have hn:=h1.ne
  have c2':A5 H1 ⟨p,2,none⟩=some (.slice (some ⟨ba,0,none⟩) ac.length (n + 1)):=by rw [hla]; exact h1.c2
  have d0:=h1.c0
  have last:(∀ c,0 < c->c < m->par c=k->¬ bf (nt ac) (nt os1 c) (nt os i))->CallF Tryz.prog 213 [hp p,iv k,iv (nt os i)] H1 (fun r H'=>r=.tuple #[]/\Fr [bo,bp] H H' /\
    ∃ os' pl',HA H' p bo bp ba n m os' pl' ac/\Ok n m (nt os') (nt pl')/\(∀ j,0 < j->j < m->i<=par j->¬ bf (nt ac) (nt os' j) (nt os' (par j)))/\∀ v,(nt pl' v = -1↔nt pl v = -1)) NoP:=by
   intro he
   refine (EU h1 (by omega) hmn (by omega)).to ?_
   rintro v H' ⟨rfl,h2,hf2⟩
   simp only [Z4] at h2
   refine ⟨rfl,hf.trans hf2,_,_,h2,?_,?_,?_⟩
   ·rw [Bv (by omega),Bv (by omega)]; exact hok1
   ·rw [Bv (by omega)]
    refine hu1.done ?_
    intro c hc hcm hpc
    unfold up1
    have:¬ c=k:=by unfold par at hpc; omega
    rw [J8 rfl,J4 this]
    exact he c hc hcm hpc
   ·rw [Bv (by omega)]; exact hc1
  have step:∀ c:Nat,c < m->0 < c->par c=k->(∀ c',0 < c'->c' < m->par c'=k->¬ bf (nt ac) (nt os1 c') (nt os1 c))->bf (nt ac) (nt os1 c) (nt os i) ->
    CallF Tryz.prog 213 [hp p,iv k,iv (nt os1 c)] H1 (fun r H'=>r=.tuple #[]/\Fr [bo,bp] H H' /\
     ∃ os' pl',HA H' p bo bp ba n m os' pl' ac/\Ok n m (up1 (nt os') c (nt os i)) (up1 (nt pl') (nt os i).toNat c)/\DnInv (nt ac) m (up1 (nt os') c (nt os i)) i c/\∀ v,(up1 (nt pl') (nt os i).toNat c v = -1↔nt pl v = -1)) NoP:=by
   intro c hcm hc0 hpc hbest hb
   have hkc:k < c:=by unfold par at hpc; omega
   have e1:up1 (nt os1) k (nt os i) c=nt os1 c:=J4 (by omega)
   have ek:up1 (nt os1) k (nt os i) k=nt os i:=J8 rfl
   have rp:=hok1.rng c hcm
   rw [e1] at rp
   refine (EU h1 (by omega) hmn (by omega)).to ?_
   rintro v H' ⟨rfl,h2,hf2⟩
   simp only [Z4] at h2
   have hst:=hu1.step (c:=c) hik hj hcm hc0 hpc (by
    intro c' h0' hm' hp';have:up1 (nt os1) k (nt os i) c'=nt os1 c':=J4 (by unfold par at hp'; omega);rw [this,e1]; exact hbest c' h0' hm' hp') (by rw [e1,ek]; exact hb)
   have hsw:=hok1.swap hj (p:=c) hcm (by omega)
   rw [e1,ek] at hsw
   have eO:up1 (nt (os1.set k (nt os1 c))) c (nt os i)=swp (up1 (nt os1) k (nt os i)) k c:=by
    rw [Bv (by omega)];funext x;unfold swp up1;by_cases x1:x=c
    ·simp [x1]
    ·by_cases x2:x=k
     ·subst x2;have:¬ c=x:=(by omega);simp [x1,this]
     ·simp [x1,x2]
   have eL:up1 (nt (pl1.set (nt os1 c).toNat k)) (nt os i).toNat c=up1 (up1 (up1 (nt pl1) (nt os i).toNat k) (nt os1 c).toNat k) (nt os i).toNat c:=by
    rw [Bv (by omega)];funext x;unfold up1;by_cases x1:x=(nt os i).toNat
    ·simp [x1]
    ·simp [x1]
   refine ⟨rfl,hf.trans hf2,_,_,h2,?_,?_,?_⟩
   ·rw [eO,eL]; exact hsw
   ·rw [eO]; exact hst
   ·intro v
    rw [eL]
    have:=hc1 v
    rw [<- this]
    have rk:=hok1.rng k hj
    rw [ek] at rk
    have rpp:=rp.2.2
    unfold up1 at rpp this ⊢
    by_cases x1:v=(nt os i).toNat
    ·simp [x1]
    ·simp only [x1,Z3]
     by_cases x2:v=(nt os1 c).toNat
     ·subst x2
      simp only [Zr]
      rw [J4 x1] at rpp
      omega
     ·simp only [x2,Z3]
  simp (disch:=omega) only [go_sem,↓cB,r0,r1,r4,rd,d0]
  refine Ba (fun hk0=>?_) (fun hk0=>?_)
  ·simp (disch:=omega) only [go_sem,↓cB,r0,r1,r4,rd]
   refine A7 (last ?_) ?_
   ·intro c hc hcm hpc; unfold par at hpc; omega
   ·rintro v H' hx
    simp (disch:=omega) only [go_sem,↓cB,rd]
    exact fin ⟨rfl,hx.2⟩
  ·obtain ⟨c,hce⟩:∃ c:Nat,c=2 * k + 1:=⟨_,rfl⟩
   have hk1:2 * (k:Int) + 1=(c:Int):=by omega
   have hk2:(c:Int) + 1=((c + 1:Nat):Int):=by omega
   have rc:=hok1.rng c (by omega)
   have e1:up1 (nt os1) k (nt os i) c=nt os1 c:=J4 (by omega)
   rw [e1] at rc
   have dc:=h1.io.cell (i:=c) (by omega)
   by_cases hc2:c + 1 < m
   ·have rd2:=hok1.rng (c + 1) hc2
    have e2:up1 (nt os1) k (nt os i) (c + 1)=nt os1 (c + 1):=J4 (by omega)
    rw [e2] at rd2
    have dd:=h1.io.cell (i:=c + 1) (by omega)
    simp (disch:=omega) only [go_sem,↓cB,r0,r1,r4,rd,hk1,hk2]
    refine As (lk [tl 0,tl 1,tl 2,tl 3,tl 4,tl 5,tl 6,tl 7,tl 8,tl 9,tl 10,tl 11,tl 12,tl 13,tl 14,tl 15,tl 16,tl 17,tl 18,tl 19,tl 20,tl 21,tl 22,tl 23,tl 24] (.act 25 (lk [tl 26] .fin) .non)) T.mixed ?_
    simp (disch:=omega) only [go_sem,↓cB,r0,r1,r4,rd,hk1,hk2,d0,dc,dd]
    refine A7 (Dj c2' h1.ia (by omega) (by omega)) ?_
    rintro _ _ ⟨rfl,rfl⟩
    simp (disch:=omega) only [go_sem,↓cB,r0,r1,r4,rd]
    refine Ba (fun hb=>?_) (fun hb=>?_)
    ·have best:∀ c',0 < c'->c' < m->par c'=k->¬ bf (nt ac) (nt os1 c') (nt os1 (c + 1)):=by
      intro c' h0' hm' hp';have:c'=c\/c'=c + 1:=(by unfold par at hp'; omega);rcases this with rfl | rfl
      ·exact Ms hb
      ·exact OQ
     simp (disch:=omega) only [go_sem,↓cB,r0,r1,r4,rd,hk1,hk2,d0,dc,dd]
     refine A7 (Dj c2' h1.ia (by omega) (by omega)) ?_
     rintro _ _ ⟨rfl,rfl⟩
     simp (disch:=omega) only [go_sem,↓cB,r0,r1,r4,rd]
     refine Ba (fun hb2=>?_) (fun hb2=>?_)
     ·simp (disch:=omega) only [go_sem,↓cB,r0,r1,r4,rd]
      refine A7 (last ?_) ?_
      ·intro c' h0' hm' hp'
       refine Fj (best c' h0' hm' hp') ?_
       unfold bf; exact hb2
      ·rintro v H' hx
       simp (disch:=omega) only [go_sem,↓cB,rd]
       exact fin ⟨rfl,hx.2⟩
     ·simp (disch:=omega) only [go_sem,↓cB,r0,r1,r4,rd,d0,hk1,hk2,dc,dd]
      refine A7 (step (c + 1) (by omega) (by omega) (by unfold par; omega) (best) (by unfold bf; exact Wd.1 hb2)) ?_
      rintro v H' ⟨rfl,hf2,os2,pl2,h2,hok2,hd2,hc2⟩
      simp (disch:=omega) only [go_sem,↓cB,r0,r1,r4,rd]
      exact fin ⟨m - (c + 1),by omega,c + 1,os2,pl2,rfl,by omega,by omega,by simp (disch:=omega) only [go_sem,↓cB,r0,r1,r4,rd,hk1,hk2],h2,hf2,hok2,hd2,hc2⟩
    ·have best:∀ c',0 < c'->c' < m->par c'=k->¬ bf (nt ac) (nt os1 c') (nt os1 c):=by
      intro c' h0' hm' hp';have:c'=c\/c'=c + 1:=(by unfold par at hp'; omega);rcases this with rfl | rfl
      ·exact OQ
      ·exact hb
     simp (disch:=omega) only [go_sem,↓cB,r0,r1,r4,rd,hk1,hk2,d0,dc,dd]
     refine A7 (Dj c2' h1.ia (by omega) (by omega)) ?_
     rintro _ _ ⟨rfl,rfl⟩
     simp (disch:=omega) only [go_sem,↓cB,r0,r1,r4,rd]
     refine Ba (fun hb2=>?_) (fun hb2=>?_)
     ·simp (disch:=omega) only [go_sem,↓cB,r0,r1,r4,rd]
      refine A7 (last ?_) ?_
      ·intro c' h0' hm' hp'
       refine Fj (best c' h0' hm' hp') ?_
       unfold bf; exact hb2
      ·rintro v H' hx
       simp (disch:=omega) only [go_sem,↓cB,rd]
       exact fin ⟨rfl,hx.2⟩
     ·simp (disch:=omega) only [go_sem,↓cB,r0,r1,r4,rd,d0,hk1,hk2,dc,dd]
      refine A7 (step (c) (by omega) (by omega) (by unfold par; omega) (best) (by unfold bf; exact Wd.1 hb2)) ?_
      rintro v H' ⟨rfl,hf2,os2,pl2,h2,hok2,hd2,hc2⟩
      simp (disch:=omega) only [go_sem,↓cB,r0,r1,r4,rd]
      exact fin ⟨m - (c),by omega,c,os2,pl2,rfl,by omega,by omega,by simp (disch:=omega) only [go_sem,↓cB,r0,r1,r4,rd,hk1,hk2],h2,hf2,hok2,hd2,hc2⟩
   ·have best:∀ c',0 < c'->c' < m->par c'=k->¬ bf (nt ac) (nt os1 c') (nt os1 c):=by
     intro c' h0' hm' hp';have:c'=c:=(by unfold par at hp'; omega);subst this;exact OQ
    simp (disch:=omega) only [go_sem,↓cB,r0,r1,r4,rd,hk1,hk2]
    refine As (lk [tl 0,tl 1,tl 2,tl 3,tl 4,tl 5,tl 6,tl 7,tl 8,tl 9,tl 10,tl 11,tl 12,tl 13,tl 14,tl 15,tl 16,tl 17,tl 18,tl 19,tl 20,tl 21,tl 22,tl 23,tl 24] (.act 25 (lk [tl 26] .fin) .non)) T.mixed ?_
    simp (disch:=omega) only [go_sem,↓cB,r0,r1,r4,rd,hk1,hk2,d0,dc]
    refine A7 (Dj c2' h1.ia (by omega) (by omega)) ?_
    rintro _ _ ⟨rfl,rfl⟩
    simp (disch:=omega) only [go_sem,↓cB,r0,r1,r4,rd]
    refine Ba (fun hb2=>?_) (fun hb2=>?_)
    ·simp (disch:=omega) only [go_sem,↓cB,r0,r1,r4,rd]
     refine A7 (last ?_) ?_
     ·intro c' h0' hm' hp'
      refine Fj (best c' h0' hm' hp') ?_
      unfold bf; exact hb2
     ·rintro v H' hx
      simp (disch:=omega) only [go_sem,↓cB,rd]
      exact fin ⟨rfl,hx.2⟩
    ·simp (disch:=omega) only [go_sem,↓cB,r0,r1,r4,rd,d0,hk1,hk2,dc,dc]
     refine A7 (step (c) (by omega) (by omega) (by unfold par; omega) (best) (by unfold bf; exact Wd.1 hb2)) ?_
     rintro v H' ⟨rfl,hf2,os2,pl2,h2,hok2,hd2,hc2⟩
     simp (disch:=omega) only [go_sem,↓cB,r0,r1,r4,rd]
     exact fin ⟨m - (c),by omega,c,os2,pl2,rfl,by omega,by omega,by simp (disch:=omega) only [go_sem,↓cB,r0,r1,r4,rd,hk1,hk2],h2,hf2,hok2,hd2,hc2⟩
end
structure HG (H:A3) (p bo bp ba n m:Nat) (os pl ac:List Int):Prop where
 ha:HA H p bo bp ba n m os pl ac
 ok:Ok n m (nt os) (nt pl)
 ord:OrdAll (nt ac) m (nt os)
 act:∀ v,v<=n->0<=nt ac v/\nt ac v<=1152921504606846976
theorem HG.frame {H H':A3} {F:List Nat} {p bo bp ba n m:Nat} {os pl ac:List Int} (h:HG H p bo bp ba n m os pl ac) (hf:Fr F H H') (h1:p ∉ F) (h2:bo ∉ F) (h3:bp ∉ F) (h4:ba ∉ F):HG H' p bo bp ba n m os pl ac :=
 ⟨h.ha.frame hf h1 h2 h3 h4,h.ok,h.ord,h.act⟩
section
variable {H:A3} {p bo bp ba n m:Nat} {os pl ac:List Int}
theorem HG.place (h:HG H p bo bp ba n m os pl ac) {v:Nat} (hv:v<=n):-1<=nt pl v/\nt pl v < m/\(nt pl v ≠ -1->0<=nt pl v):=by
 by_cases h0:v=0
 ·subst h0; rw [h.ok.zero]; omega
 ·rcases h.ok.pos v (by omega) hv with h1 | h1
  ·rw [h1]; omega
  ·omega
theorem Qg (h:HG H p bo bp ba n 0 os pl ac) :
  CallF Tryz.prog 129 [hp p] H (fun r H'=>H=H'/\r=.tuple #[iv 0,.bool false]) NoP:=by
 have c0:=h.ha.c0
 refine A9 Tryz.func129 rfl Tryz.ntmps129 Tryz.results129 (by decide) rfl ?_
 simp (disch:=omega) only [go_sem,↓cB,c0]
 exact fin ⟨rfl,rfl⟩
theorem Qf (h:HG H p bo bp ba n m os pl ac) (hm:0 < m) :
  CallF Tryz.prog 129 [hp p] H (fun r H'=>r=.tuple #[iv (nt os 0),.bool true]/\Fr [p,bo,bp] H H' /\
   ∃ os' pl',HG H' p bo bp ba n (m - 1) os' pl' ac/\∀ v,(nt pl' v = -1↔nt pl v = -1\/v=(nt os 0).toNat)) NoP:=by
 have c0:=h.ha.c0
 have hlo:=h.ha.lo
 have hlp:=h.ha.lp
 have hmn:=h.ok.le
 have hbig:=h.ha.big
 have hn:=h.ha.ne
 have d0:=h.ha.io.cell (i:=0) (by omega)
 have dl:=h.ha.io.cell (i:=m - 1) (by omega)
 have hml:(m:Int) - 1=((m - 1:Nat):Int):=by omega
 have r0:=h.ok.rng 0 hm
 have rl:=h.ok.rng (m - 1) (by omega)
 have w0:=h.ha.self.wr (i:=0) (by simp)
 have b1:=h.ha.self.set 0 (.slice (some ⟨bo,0,none⟩) (m - 1) n)
 have c1:A5 (Aw H ⟨p,0,none⟩ (.slice (some ⟨bo,0,none⟩) (m - 1) n)) ⟨p,1,none⟩=some (.slice (some ⟨bp,0,none⟩) (n + 1) (n + 1)):=b1.cell 1
 have p1:=h.ha.ip.zd (a:=⟨p,0,none⟩) (v:=.slice (some ⟨bo,0,none⟩) (m - 1) n) hn.2.1.symm
 have w1:=p1.wr (i:=(nt os 0).toNat) (by omega)
 have p2:=p1.set (nt os 0).toNat (-1)
 have ha2:HA (Aw (Aw H ⟨p,0,none⟩ (.slice (some ⟨bo,0,none⟩) (m - 1) n)) ⟨bp,(nt os 0).toNat,none⟩ (.int .i64 (-1))) p bo bp ba n (m - 1) os (pl.set (nt os 0).toNat (-1)) ac :=
  ⟨b1.zd hn.2.1,(h.ha.io.zd hn.1.symm).zd hn.2.2.2.1,p2,(h.ha.ia.zd hn.2.2.1.symm).zd hn.2.2.2.2.2.symm,hlo,by simp [hlp],h.ha.la,hn,hbig⟩
 have f2:Fr [p,bo,bp] H (Aw (Aw H ⟨p,0,none⟩ (.slice (some ⟨bo,0,none⟩) (m - 1) n)) ⟨bp,(nt os 0).toNat,none⟩ (.int .i64 (-1))):=(Fr.set (by simp)).trans (Fr.set (by simp))
 refine A9 Tryz.func129 rfl Tryz.ntmps129 Tryz.results129 (by decide) rfl ?_
 simp (disch:=omega) only [go_sem,↓cB,c0,d0,hml,dl,w0,c1,w1]
 by_cases h1:1 < m
 ·simp (disch:=omega) only [go_sem,↓cB,c0,d0,hml,dl,w0,c1,w1]
  refine A7 (EU ha2 (i:=0) (v:=nt os (m - 1)) (by omega) (by omega) (by omega)) ?_
  rintro v H3 ⟨rfl,ha3,f3⟩
  simp (disch:=omega) only [go_sem,↓cB]
  have hpop:=h.ok.pop h1
  have eO:nt (os.set (0:Int).toNat (nt os (m - 1)))=up1 (nt os) 0 (nt os (m - 1)):=Bv (by simp; omega)
  have eL:nt ((pl.set (nt os 0).toNat (-1)).set (nt os (m - 1)).toNat 0)=up1 (up1 (nt pl) (nt os 0).toNat (-1)) (nt os (m - 1)).toNat 0:=by
   rw [Bv (by simp; omega),Bv (by omega)]
  refine A7 (Lj (i:=0) ha3 (by rw [eO,eL]; exact hpop) (by omega) ?_) ?_
  ·intro j hj hjm hpj
   rw [eO]
   have hpj':par j < j:=by unfold par; omega
   unfold up1
   rw [J4 (by omega),J4 (by omega)]
   exact h.ord j hj (by omega)
  ·rintro v H4 ⟨rfl,f4,os',pl',ha4,ok4,ord4,same4⟩
   simp (disch:=omega) only [go_sem,↓cB]
   refine fin ⟨rfl,f2.trans ((f3.trans f4).mono (by intro b _ hb; simp only [J7,Z6,Ya] at hb ⊢; omega)),os',pl',⟨ha4,ok4,fun j hj hjm=>ord4 j hj hjm (by omega),h.act⟩,?_⟩
   intro v
   rw [same4 v,eL]
   unfold up1
   by_cases e1:v=(nt os (m - 1)).toNat
   ·subst e1
    have:((nt os (m - 1)).toNat) ≠ (nt os 0).toNat:=by
     intro e;have:((0:Nat):Int)=((m - 1:Nat):Int):=(by rw [<- r0.2.2,<- rl.2.2,e]);omega
    simp [this]; omega
   ·rw [J4 e1]
    by_cases e2:v=(nt os 0).toNat
    ·simp [e2]
    ·simp [e2]
 ·have hm1:m=1:=by omega
  subst hm1
  simp (disch:=omega) only [go_sem,↓cB,c0,d0,hml,dl,w0,c1,w1]
  refine fin ⟨rfl,f2,os,_,⟨ha2,?_,fun j hj hjm=>by omega,h.act⟩,?_⟩
  ·rw [Bv (by omega)]; exact h.ok.bk
  ·intro v
   rw [Bv (by omega)]
   unfold up1
   by_cases e2:v=(nt os 0).toNat
   ·simp [e2]
   ·simp [e2]
theorem WD (h:HG H p bo bp ba n m os pl ac) {v:Int} (hv:¬ (1<=v/\v<=n/\nt pl v.toNat = -1)) :
  CallF Tryz.prog 120 [hp p,iv v] H (fun r H'=>H=H'/\r=.bool false) NoP:=by
 have c1:=h.ha.c1
 have hlp:=h.ha.lp
 refine A9 Tryz.func120 rfl Tryz.ntmps120 Tryz.results120 (by decide) rfl ?_
 simp (disch:=omega) only [go_sem,↓cB]
 refine A7 (Gf c1) ?_
 rintro _ _ ⟨rfl,rfl⟩
 by_cases hk:1<=v/\v < (n + 1:Nat)
 ·have cv:=h.ha.ip.cell (i:=v.toNat) (by omega)
  have hpl:=h.place (v:=v.toNat) (by omega)
  simp (disch:=omega) only [go_sem,↓cB,c1,cv]
  exact fin ⟨rfl,rfl⟩
 ·simp (disch:=omega) only [go_sem,↓cB,c1]
  exact fin ⟨rfl,rfl⟩
theorem Tq (h:HG H p bo bp ba n m os pl ac) {v:Nat} (hv1:1<=v) (hv2:v<=n) (hv3:nt pl v = -1) :
  CallF Tryz.prog 120 [hp p,iv v] H (fun r H'=>r=.bool true/\Fr [p,bo,bp] H H' /\
   ∃ os' pl',HG H' p bo bp ba n (m + 1) os' pl' ac/\∀ u,(nt pl' u = -1↔nt pl u = -1/\u ≠ v)) NoP:=by
 have c0:=h.ha.c0
 have c1:=h.ha.c1
 have hlo:=h.ha.lo
 have hlp:=h.ha.lp
 have hmn:=h.ok.room hv1 hv2 hv3
 have hbig:=h.ha.big
 have hn:=h.ha.ne
 have cv:=h.ha.ip.cell (i:=v) (by omega)
 refine A9 Tryz.func120 rfl Tryz.ntmps120 Tryz.results120 (by decide) rfl ?_
 simp (disch:=omega) only [go_sem,↓cB]
 refine A7 (Gf c1) ?_
 rintro _ _ ⟨rfl,rfl⟩
 have bs:=fun (v:Value) (hv:v.cells = #[v])=>Fi (P:=Tryz.prog) (H:=H) (a:=v) T.vd T.te T.xv hv
 have bs1:=bs (iv v) rfl
 simp (disch:=omega) only [go_sem,↓cB,c0,c1,cv,hv3,bs1]
 obtain ⟨H1,hH1⟩:∃ H1,H1=H.push (.cells #[iv v] 3):=⟨_,rfl⟩
 have f1:Fr [p,bo,bp] H H1:=by rw [hH1]; exact Fr.push
 have g1:Fr [] H H1:=by rw [hH1]; exact Fr.push
 have h1:HG H1 p bo bp ba n m os pl ac:=h.frame g1 (by simp) (by simp) (by simp) (by simp)
 have x1:A5 H1 ⟨H.size,0,none⟩=some (iv v):=by rw [hH1]; exact (Blk.new (vs:=[iv v]) rfl).cell 0
 have nb:H.size ≠ bo:=by have:=h.ha.io.lt; omega
 rw [<- hH1]
 clear hH1
 have w1:=h1.ha.io.wr (i:=m) (by omega) (iv v)
 refine Sv T.zk hmn x1 rfl (by rw [Zv]; exact w1) ?_
 have b2:=h1.ha.self.zd (a:=⟨bo,m,none⟩) (v:=iv v) hn.1
 have w2:=b2.wr (i:=0) (by simp)
 have ha3:HA (Aw (Aw H1 ⟨bo,m,none⟩ (iv v)) ⟨p,0,none⟩ (.slice (some ⟨bo,0,none⟩) (m + 1) n)) p bo bp ba n (m + 1) (os.set m v) pl ac :=
  ⟨b2.set 0 _,(h1.ha.io.set m v).zd hn.1.symm,(h1.ha.ip.zd hn.2.2.2.1.symm).zd hn.2.1.symm,(h1.ha.ia.zd hn.2.2.2.2.1.symm).zd hn.2.2.1.symm,by simp [hlo],hlp,h.ha.la,hn,hbig⟩
 have f3:Fr [p,bo,bp] H (Aw (Aw H1 ⟨bo,m,none⟩ (iv v)) ⟨p,0,none⟩ (.slice (some ⟨bo,0,none⟩) (m + 1) n)):=(f1.rm (by simp)).rm (by simp)
 generalize hH3:Aw (Aw H1 ⟨bo,m,none⟩ (iv v)) ⟨p,0,none⟩ (.slice (some ⟨bo,0,none⟩) (m + 1) n)=H3 at ha3 f3
 have d0:=ha3.c0
 have hml:((m + 1:Nat):Int) - 1=(m:Int):=by omega
 simp (disch:=omega) only [go_sem,↓cB,w2,hH3,d0,hml]
 have hadd:=h.ok.add hv1 hv2 hv3
 have eO:nt (os.set m v)=up1 (nt os) m v:=Bv (by omega)
 have em:nt (os.set m v) m=v:=Hw (by omega)
 refine A7 (Lu (i:=m) ha3 (by rw [em,eO,Z4]; exact hadd) (by omega) (by rw [eO]; exact UpInv.last h.ord)) ?_
 rintro r H4 ⟨rfl,f4,os',pl',ha4,ok4,ord4,same4⟩
 simp (disch:=omega) only [go_sem,↓cB]
 refine fin ⟨rfl,f3.trans (f4.mono (by intro b _ hb; simp only [J7,Z6,Ya] at hb ⊢; omega)),os',pl',⟨ha4,ok4,ord4,h.act⟩,?_⟩
 intro u
 rw [same4 u,em]
 unfold up1
 rw [Z4]
 by_cases e:u=v
 ·simp [e]
 ·simp [e]
theorem Sn (h:HG H p bo bp ba n m os pl ac) {v:Nat} {d:Int} (hv1:1<=v) (hv2:v<=n) (hd:0<=d) (hd2:d<=9223372036854775807) :
  CallF Tryz.prog 208 [hp p,iv v,iv d] H (fun r H'=>r=.bool true/\Fr [bo,bp,ba] H H' /\
   ∃ os' pl',HG H' p bo bp ba n m os' pl' (ac.set v (min (nt ac v + d) 1152921504606846976))/\∀ u,(nt pl' u = -1↔nt pl u = -1)) NoP:=by
 have c1:=h.ha.c1
 have c2:=h.ha.c2
 have hlp:=h.ha.lp
 have hla:=h.ha.la
 have hn:=h.ha.ne
 have hav:=h.act v hv2
 have hpv:=h.place hv2
 have cv:=h.ha.ia.cell (i:=v) (by omega)
 have pv:=h.ha.ip.cell (i:=v) (by omega)
 have wv:=h.ha.ia.wr (i:=v) (by omega)
 have fin2:∀ x:Int,x=min (nt ac v + d) 1152921504606846976->(0<=x/\x<=1152921504606846976/\nt ac v<=x)/\HA (Aw H ⟨ba,v,none⟩ (iv x)) p bo bp ba n m os pl (ac.set v x)/\Fr [bo,bp,ba] H (Aw H ⟨ba,v,none⟩ (iv x)) /\
   (∀ u,u<=n->0<=nt (ac.set v x) u/\nt (ac.set v x) u<=1152921504606846976) /\
   (nt pl v = -1->OrdAll (nt (ac.set v x)) m (nt os))/\(∀ i:Nat,nt pl v=i->i < m->UpInv (nt (ac.set v x)) m (nt os) i):=by
  intro x hx
  have hx':0<=x/\x<=1152921504606846976/\nt ac v<=x:=by omega
  have eA:nt (ac.set v x)=up1 (nt ac) v x:=Bv (by omega)
  refine ⟨hx',⟨h.ha.self.zd hn.2.2.1,h.ha.io.zd hn.2.2.2.2.1,h.ha.ip.zd hn.2.2.2.2.2,h.ha.ia.set v x,h.ha.lo,hlp,by simp [hla],hn,h.ha.big⟩,Fr.set (by simp),?_,?_,?_⟩
  ·intro u hu
   rw [eA]; unfold up1
   split
   ·omega
   ·exact h.act u hu
  ·intro hp1
   refine OrdAll.pk h.ok h.ord hp1 ?_
   intro u hu; rw [eA]; exact J4 hu
  ·intro i hi him
   have hoi:(nt os i).toNat=v:=by
    rcases h.ok.pos v hv1 hv2 with h3 | ⟨_,_,h5⟩
    ·omega
    ·rw [hi,Z4] at h5; omega
   refine UpInv.bump h.ok h.ord him ?_ ?_
   ·intro u hu; rw [eA]; exact J4 (by rw [<- hoi]; exact hu)
   ·rw [hoi,eA]; unfold up1; rw [J8 rfl]; exact hx'.2.2
 refine A9 Tryz.func208 rfl Tryz.ntmps208 Tryz.results208 (by decide) rfl ?_
 simp (disch:=omega) only [go_sem,↓cB]
 refine A7 (Gf c1) ?_
 rintro _ _ ⟨rfl,rfl⟩
 simp (disch:=omega) only [go_sem,↓cB,c2,cv]
 refine Ba (fun hb=>?_) (fun hb=>?_)
 ·obtain ⟨hx,ha1,f1,act1,out1,in1⟩:=fin2 (1152921504606846976) (by omega)
  have d1:=ha1.c1
  have pv1:=ha1.ip.cell (i:=v) (by omega)
  have emin:min (nt ac v + d) 1152921504606846976=1152921504606846976:=by omega
  rw [emin]
  by_cases hp1:nt pl v = -1
  ·simp (disch:=omega) only [go_sem,↓cB,c2,cv,wv,d1,pv1]
   exact fin ⟨rfl,f1,os,pl,⟨ha1,h.ok,out1 hp1,act1⟩,fun _=>Iff.rfl⟩
  ·obtain ⟨i,hi⟩:∃ i:Nat,nt pl v=i:=⟨(nt pl v).toNat,by omega⟩
   rw [hi] at pv1
   simp (disch:=omega) only [go_sem,↓cB,c2,cv,wv,d1,pv1]
   have him:i < m:=by omega
   have hoi:(nt os i).toNat=v:=by
    rcases h.ok.pos v hv1 hv2 with h3 | ⟨_,_,h5⟩
    ·omega
    ·rw [hi,Z4] at h5; omega
   have eL:up1 (nt pl) (nt os i).toNat i=nt pl:=by rw [hoi]; funext j; unfold up1; split <;> simp_all
   refine A7 (Lu (i:=i) ha1 (by rw [eL]; exact h.ok) him (in1 i hi him)) ?_
   rintro r H4 ⟨rfl,f4,os',pl',ha4,ok4,ord4,same4⟩
   simp (disch:=omega) only [go_sem,↓cB]
   refine fin ⟨rfl,f1.trans (f4.mono (by intro b _ hb; simp only [J7,Z6,Ya] at hb ⊢; omega)),os',pl',⟨ha4,ok4,ord4,act1⟩,?_⟩
   intro u
   rw [same4 u,eL]
 ·obtain ⟨hx,ha1,f1,act1,out1,in1⟩:=fin2 (nt ac v + d) (by omega)
  have d1:=ha1.c1
  have pv1:=ha1.ip.cell (i:=v) (by omega)
  have emin:min (nt ac v + d) 1152921504606846976=nt ac v + d:=by omega
  rw [emin]
  by_cases hp1:nt pl v = -1
  ·simp (disch:=omega) only [go_sem,↓cB,c2,cv,wv,d1,pv1]
   exact fin ⟨rfl,f1,os,pl,⟨ha1,h.ok,out1 hp1,act1⟩,fun _=>Iff.rfl⟩
  ·obtain ⟨i,hi⟩:∃ i:Nat,nt pl v=i:=⟨(nt pl v).toNat,by omega⟩
   rw [hi] at pv1
   simp (disch:=omega) only [go_sem,↓cB,c2,cv,wv,d1,pv1]
   have him:i < m:=by omega
   have hoi:(nt os i).toNat=v:=by
    rcases h.ok.pos v hv1 hv2 with h3 | ⟨_,_,h5⟩
    ·omega
    ·rw [hi,Z4] at h5; omega
   have eL:up1 (nt pl) (nt os i).toNat i=nt pl:=by rw [hoi]; funext j; unfold up1; split <;> simp_all
   refine A7 (Lu (i:=i) ha1 (by rw [eL]; exact h.ok) him (in1 i hi him)) ?_
   rintro r H4 ⟨rfl,f4,os',pl',ha4,ok4,ord4,same4⟩
   simp (disch:=omega) only [go_sem,↓cB]
   refine fin ⟨rfl,f1.trans (f4.mono (by intro b _ hb; simp only [J7,Z6,Ya] at hb ⊢; omega)),os',pl',⟨ha4,ok4,ord4,act1⟩,?_⟩
   intro u
   rw [same4 u,eL]
theorem OF (h:HG H p bo bp ba n m os pl ac) :
  CallF Tryz.prog 211 [hp p] H (fun r H'=>r=.tuple #[]/\Fr [bo,bp,ba] H H' /\
   ∃ os' pl',HG H' p bo bp ba n m os' pl' (ac.map (· / 2))/\∀ u,(nt pl' u = -1↔nt pl u = -1)) NoP:=by
 have c0:=h.ha.c0
 have c2:=h.ha.c2
 have hla:=h.ha.la
 have hbig:=h.ha.big
 have hn:=h.ha.ne
 refine A9 Tryz.func211 rfl Tryz.ntmps211 Tryz.results211 (by decide) rfl ?_
 simp (disch:=omega) only [go_sem,↓cB,c2]
 refine Ae (fun k U H1=>∃ (j:Nat) (ac1:List Int),k=n + 1 - j/\j<=n + 1/\(U.get 0=hp p/\U.get 8=iv (n + 1:Nat)/\U.get 9=iv j/\U.ds = [])/\HA H1 p bo bp ba n m os pl ac1/\Fr [bo,bp,ba] H H1 /\
  ∀ u,nt ac1 u=if u < j then nt ac u / 2 else nt ac u) (k:=n + 1) ?_ ?_
 ·exact ⟨0,ac,rfl,by omega,by simp (disch:=omega) only [go_sem,↓cB,Ve],h.ha,Fr.refl _ _,fun u=>by simp⟩
 rintro k U H1 ⟨j,ac1,rfl,hj,⟨r0,r8,r9,rd⟩,h1,f1,hac⟩
 have d2:=h1.c2
 have hla1:=h1.la
 by_cases hjn:j < n + 1
 ·have cj:=h1.ia.cell (i:=j) (by omega)
  have wj:=h1.ia.wr (i:=j) (by omega)
  have haj:=h.act j (by omega)
  have ej:nt ac1 j=nt ac j:=by rw [hac,J4 (by omega)]
  rw [ej] at cj
  simp (disch:=omega) only [go_sem,↓cB,r0,r8,r9,rd,d2,cj,wj]
  refine fin ⟨n + 1 - (j + 1),by omega,j + 1,ac1.set j (nt ac j / 2),rfl,by omega,by simp (disch:=omega) only [go_sem,↓cB,r0,r8,r9,rd,Int.natCast_add,Int.natCast_one],?_,f1.rm (by simp),?_⟩
  ·exact ⟨h1.self.zd hn.2.2.1,h1.io.zd hn.2.2.2.2.1,h1.ip.zd hn.2.2.2.2.2,h1.ia.set j _,h1.lo,h1.lp,by simp [hla1],hn,hbig⟩
  ·intro u
   rw [Bv (by omega)]
   unfold up1
   by_cases e:u=j
   ·subst e; simp
   ·rw [J4 e,hac u]
    by_cases hu:u < j
    ·rw [J8 hu,J8 (by omega)]
    ·rw [J4 hu,J4 (by omega)]
 ·have hall:ac1=ac.map (· / 2):=by
   apply Ye (by simp [hla1,hla]);intro u hu1 hu2;have e1:=RD hu1;have e2:u < ac.length:=(by simpa using hu2);have e3:=RD e2;rw [J1 hu1] at e1;rw [J1 e2] at e3;simp only [J5] at e1 e3;rw [Xu,e1,e3,hac u,J8 (by omega)]
  subst hall
  have d0:=h1.c0
  have hmn:=h.ok.le
  have act1:∀ u,u<=n->0<=nt (ac.map (· / 2)) u/\nt (ac.map (· / 2)) u<=1152921504606846976:=by
   intro u hu;have:=h.act u hu;rw [hac u];split <;> omega
  simp (disch:=omega) only [go_sem,↓cB,r0,r8,r9,rd,d0]
  refine Ae (fun k U H2=>∃ (q:Int) (os2 pl2:List Int),k=(q + 1).toNat/\-1<=q/\q < m/\(U.get 0=hp p/\U.get 3=iv q/\U.ds = [])/\HA H2 p bo bp ba n m os2 pl2 (ac.map (· / 2))/\Fr [bo,bp,ba] H H2 /\
   Ok n m (nt os2) (nt pl2)/\(∀ j,0 < j->j < m->q < par j->¬ bf (nt (ac.map (· / 2))) (nt os2 j) (nt os2 (par j)))/\∀ u,(nt pl2 u = -1↔nt pl u = -1)) (k:=((m:Int) / 2 - 1 + 1).toNat) ?_ ?_
  ·refine ⟨(m:Int) / 2 - 1,os,pl,rfl,by omega,by omega,by simp (disch:=omega) only [go_sem,↓cB,r0,r8,r9,rd],h1,f1,h.ok,?_,fun _=>Iff.rfl⟩
   intro j hj hjm hpj
   unfold par at hpj; omega
  ·rintro k U2 H2 ⟨q,os2,pl2,rfl,hq1,hq2,⟨s0,s3,sd⟩,h2,f2,ok2,ord2,same2⟩
   by_cases hq0:0<=q
   ·obtain ⟨i,rfl⟩:∃ i:Nat,q=i:=⟨q.toNat,by omega⟩
    simp (disch:=omega) only [go_sem,↓cB,s0,s3,sd]
    refine A7 (Lj (i:=i) h2 ok2 (by omega) (fun j hj hjm hpj=>ord2 j hj hjm (by omega))) ?_
    rintro r H3 ⟨rfl,f3,os3,pl3,h3,ok3,ord3,same3⟩
    simp (disch:=omega) only [go_sem,↓cB,s0,s3,sd]
    exact fin ⟨i,by omega,(i:Int) - 1,os3,pl3,by omega,by omega,by omega,by simp (disch:=omega) only [go_sem,↓cB,s0,s3,sd],h3,f2.trans (f3.mono (by intro b _ hb; simp only [J7,Z6,Ya] at hb ⊢; omega)),ok3,fun j hj hjm hpj=>ord3 j hj hjm (by omega),fun u=>(same3 u).trans (same2 u)⟩
   ·simp (disch:=omega) only [go_sem,↓cB,s0,s3,sd]
    exact fin ⟨rfl,f2,os2,pl2,⟨h2,ok2,fun j hj hjm=>ord2 j hj hjm (by omega),act1⟩,same2⟩
theorem I7 {H:A3} {vs:List Value} {t:TypeId} {x y:Obj}:Blk (((H.push (.cells vs.toArray t)).push x).push y) H.size t vs:=((Blk.new rfl).push _).push _
theorem I6 {H:A3} {vs:List Value} {t:TypeId} {x y:Obj}:Blk (((H.push x).push (.cells vs.toArray t)).push y) (H.size + 1) t vs:=by
 have:=(Blk.new (H:=H.push x) (t:=t) (vs:=vs) rfl).push y;rwa [Zp] at this
theorem I5 {H:A3} {vs:List Value} {t:TypeId} {x y:Obj}:Blk (((H.push x).push y).push (.cells vs.toArray t)) (H.size + 1 + 1) t vs:=by
 have:=Blk.new (H:=(H.push x).push y) (t:=t) (vs:=vs) rfl;rwa [Zp,Zp] at this
theorem L8 {n:Nat} {H3:A3} {bo bp ba:Nat} (hn:n<=100000) (h1:Blk H3 bo 3 (List.replicate n (iv 0))) (h2:Blk H3 bp 3 (List.replicate (n + 1) (iv 0))) (h3:Blk H3 ba 2 (List.replicate (n + 1) (iv 0)))
  (hne:bo ≠ bp/\bo ≠ ba/\bp ≠ ba):HA (H3.push (.cells #[.slice (some ⟨bo,0,none⟩) n n,.slice (some ⟨bp,0,none⟩) (n + 1) (n + 1),.slice (some ⟨ba,0,none⟩) (n + 1) (n + 1)] 119)) H3.size bo bp ba n n (List.replicate n 0) (List.replicate (n + 1) 0) (List.replicate (n + 1) 0):=by
 have l1:=h1.lt
 have l2:=h2.lt
 have l3:=h3.lt
 refine ⟨Blk.new rfl,?_,?_,?_,by simp,by simp,by simp,⟨by omega,by omega,by omega,hne.1,hne.2.1,hne.2.2⟩,hn⟩
 ·unfold IB; rw [Ym]; exact h1.push _
 ·unfold IB; rw [Ym]; exact h2.push _
 ·unfold IB; rw [Ym]; exact h3.push _
theorem TA {n:Nat} (hn:n<=100000):CallF Tryz.prog 18 [iv n] H (fun r H'=>Fr [] H H'/\∃ p bo bp ba os pl,r=.tuple #[hp p,iv 0]/\(H.size<=p/\H.size<=bo/\H.size<=bp/\H.size<=ba) /\
  HG H' p bo bp ba n n os pl (List.replicate (n + 1) 0)/\(∀ v,1<=v->v<=n->nt pl v ≠ -1)) NoP:=by
 have bl:=fun (x y z:Option Addr) (a b c d e f:Nat)=>Fh (P:=Tryz.prog) (t:=119) (parts:=[(0,.slice x a b),(1,.slice y c d),(2,.slice z e f)]) (v:=.agg #[.slice x a b,.slice y c d,.slice z e f])
  (by simp [Gq,T.qa,T.pz,CG,DY,chk,Value.cells])
 have en:((n:Int) + 1).toNat=n + 1:=by omega
 refine A9 Tryz.func18 rfl Tryz.ntmps18 Tryz.results18 (by decide) rfl ?_
 simp (disch:=omega) only [go_sem,↓cB]
 refine YE (fun U H1=>∃ p bo bp ba,(U.get 0=iv n/\U.get 4=hp p/\U.ds = [])/\(H.size<=p/\H.size<=bo/\H.size<=bp/\H.size<=ba)/\Fr [] H H1 /\
  HA H1 p bo bp ba n n (List.replicate n 0) (List.replicate (n + 1) 0) (List.replicate (n + 1) 0)) ?_ ?_
 ·refine As (lk [fl 0,fl 2,fl 3,fl 5,fl 6] (.act 1 (.act 4 (.act 7 (lk [tl 8] (.actd 9 (lk [tl 10] .fin))) .non) (.act 7 (.act 4 (lk [tl 8] (.actd 9 (lk [tl 10] .fin))) .non) .non)) (.act 4 (.act 1 (.act 7 (lk [tl 8] (.actd 9 (lk [tl 10] .fin))) .non) (.act 7 (.act 1 (lk [tl 8] (.actd 9 (lk [tl 10] .fin))) .non) .non)) (.act 7 (.act 1 (.act 4 (lk [tl 8] (.actd 9 (lk [tl 10] .fin))) .non) (.act 4 (.act 1 (lk [tl 8] (.actd 9 (lk [tl 10] .fin))) .non) .non)) .non)))) T.mixed ?_
  repeat' (first | simp (disch:=omega) only [go_sem,↓cB,bl,en] | refine Uv ?_ ?_)
  ·refine fin ⟨H.size + 1 + 1 + 1,H.size,H.size + 1,H.size + 1 + 1,by simp (disch:=omega) only [go_sem,↓cB,Co,Zp],by omega,by repeat (first | exact Fr.refl _ _ | refine Fr.vn ?_),?_⟩
   have hh:=L8 (H3:=((H.push (.cells (List.replicate n (Value.int .i64 0)).toArray 3)).push (.cells (List.replicate (n + 1) (Value.int .i64 0)).toArray 3)).push (.cells (List.replicate (n + 1) (Value.int .i64 0)).toArray 2)) (bo:=H.size) (bp:=H.size + 1) (ba:=H.size + 1 + 1) hn ?_ ?_ ?_ (by omega)
   ·simp only [Zp] at hh ⊢; exact hh
   all_goals first | exact I7 | exact I6 | exact I5
  ·refine fin ⟨H.size + 1 + 1 + 1,H.size,H.size + 1 + 1,H.size + 1,by simp (disch:=omega) only [go_sem,↓cB,Co,Zp],by omega,by repeat (first | exact Fr.refl _ _ | refine Fr.vn ?_),?_⟩
   have hh:=L8 (H3:=((H.push (.cells (List.replicate n (Value.int .i64 0)).toArray 3)).push (.cells (List.replicate (n + 1) (Value.int .i64 0)).toArray 2)).push (.cells (List.replicate (n + 1) (Value.int .i64 0)).toArray 3)) (bo:=H.size) (bp:=H.size + 1 + 1) (ba:=H.size + 1) hn ?_ ?_ ?_ (by omega)
   ·simp only [Zp] at hh ⊢; exact hh
   all_goals first | exact I7 | exact I6 | exact I5
  ·refine fin ⟨H.size + 1 + 1 + 1,H.size + 1,H.size,H.size + 1 + 1,by simp (disch:=omega) only [go_sem,↓cB,Co,Zp],by omega,by repeat (first | exact Fr.refl _ _ | refine Fr.vn ?_),?_⟩
   have hh:=L8 (H3:=((H.push (.cells (List.replicate (n + 1) (Value.int .i64 0)).toArray 3)).push (.cells (List.replicate n (Value.int .i64 0)).toArray 3)).push (.cells (List.replicate (n + 1) (Value.int .i64 0)).toArray 2)) (bo:=H.size + 1) (bp:=H.size) (ba:=H.size + 1 + 1) hn ?_ ?_ ?_ (by omega)
   ·simp only [Zp] at hh ⊢; exact hh
   all_goals first | exact I7 | exact I6 | exact I5
  ·refine fin ⟨H.size + 1 + 1 + 1,H.size + 1 + 1,H.size,H.size + 1,by simp (disch:=omega) only [go_sem,↓cB,Co,Zp],by omega,by repeat (first | exact Fr.refl _ _ | refine Fr.vn ?_),?_⟩
   have hh:=L8 (H3:=((H.push (.cells (List.replicate (n + 1) (Value.int .i64 0)).toArray 3)).push (.cells (List.replicate (n + 1) (Value.int .i64 0)).toArray 2)).push (.cells (List.replicate n (Value.int .i64 0)).toArray 3)) (bo:=H.size + 1 + 1) (bp:=H.size) (ba:=H.size + 1) hn ?_ ?_ ?_ (by omega)
   ·simp only [Zp] at hh ⊢; exact hh
   all_goals first | exact I7 | exact I6 | exact I5
  ·refine fin ⟨H.size + 1 + 1 + 1,H.size + 1,H.size + 1 + 1,H.size,by simp (disch:=omega) only [go_sem,↓cB,Co,Zp],by omega,by repeat (first | exact Fr.refl _ _ | refine Fr.vn ?_),?_⟩
   have hh:=L8 (H3:=((H.push (.cells (List.replicate (n + 1) (Value.int .i64 0)).toArray 2)).push (.cells (List.replicate n (Value.int .i64 0)).toArray 3)).push (.cells (List.replicate (n + 1) (Value.int .i64 0)).toArray 3)) (bo:=H.size + 1) (bp:=H.size + 1 + 1) (ba:=H.size) hn ?_ ?_ ?_ (by omega)
   ·simp only [Zp] at hh ⊢; exact hh
   all_goals first | exact I7 | exact I6 | exact I5
  ·refine fin ⟨H.size + 1 + 1 + 1,H.size + 1 + 1,H.size + 1,H.size,by simp (disch:=omega) only [go_sem,↓cB,Co,Zp],by omega,by repeat (first | exact Fr.refl _ _ | refine Fr.vn ?_),?_⟩
   have hh:=L8 (H3:=((H.push (.cells (List.replicate (n + 1) (Value.int .i64 0)).toArray 2)).push (.cells (List.replicate (n + 1) (Value.int .i64 0)).toArray 3)).push (.cells (List.replicate n (Value.int .i64 0)).toArray 3)) (bo:=H.size + 1 + 1) (bp:=H.size + 1) (ba:=H.size) hn ?_ ?_ ?_ (by omega)
   ·simp only [Zp] at hh ⊢; exact hh
   all_goals first | exact I7 | exact I6 | exact I5
 ·rintro U H1 ⟨p,bo,bp,ba,⟨r0,r4,rd⟩,hsz,f1,h1⟩
  have hne:=h1.ne
  have d1:=h1.c1
  have w0:=h1.ip.wr (i:=0) (by simp)
  simp (disch:=omega) only [go_sem,↓cB,r0,r4,rd,d1,w0]
  refine Ae (fun k U H2=>∃ (j:Nat) (os pl:List Int),k=n - j/\j<=n/\(U.get 4=hp p/\U.get 27=iv n/\U.get 28=iv j/\U.ds = [])/\HA H2 p bo bp ba n n os pl (List.replicate (n + 1) 0)/\Fr [] H H2 /\
   (∀ u,u < j->nt os u=u + 1)/\nt pl 0 = -1/\(∀ u,1<=u->u<=j->nt pl u=u - 1)) (k:=n) ?_ ?_
  ·refine ⟨0,_,(List.replicate (n + 1) 0).set 0 (-1),rfl,by omega,by simp (disch:=omega) only [go_sem,↓cB,r0,r4,rd],⟨h1.self.zd hne.2.1,h1.io.zd hne.2.2.2.1,h1.ip.set 0 (-1),h1.ia.zd hne.2.2.2.2.2.symm,h1.lo,by simp,h1.la,hne,hn⟩,f1.rm (.inr (by simp; omega)),?_,?_,?_⟩
   ·intro u hu; omega
   ·exact Hw (by simp)
   ·intro u hu1 hu2; omega
  ·rintro k U2 H2 ⟨j,os,pl,rfl,hj,⟨s4,s27,s28,sd⟩,h2,f2,ho,hp0,hpl⟩
   have hlo:=h2.lo
   have hlp:=h2.lp
   by_cases hjn:j < n
   ·have e0:=h2.c0
    have wj:=h2.io.wr (i:=j) (by omega)
    have h3:HA (Aw H2 ⟨bo,j,none⟩ (iv ((j:Int) + 1))) p bo bp ba n n (os.set j ((j:Int) + 1)) pl (List.replicate (n + 1) 0) :=
     ⟨h2.self.zd hne.1,h2.io.set j _,h2.ip.zd hne.2.2.2.1.symm,h2.ia.zd hne.2.2.2.2.1.symm,by simp [hlo],hlp,h2.la,hne,hn⟩
    have e1:=h3.c1
    have ej:((j:Int) + 1).toNat=j + 1:=by omega
    have wj':=h3.ip.wr (i:=j + 1) (by omega)
    simp (disch:=omega) only [go_sem,↓cB,s4,s27,s28,sd,e0,wj,e1,ej,wj']
    refine fin ⟨n - (j + 1),by omega,j + 1,os.set j ((j:Int) + 1),pl.set (j + 1) j,rfl,by omega,by simp (disch:=omega) only [go_sem,↓cB,s4,s27,s28,sd,Int.natCast_add,Int.natCast_one],
     ⟨h3.self.zd hne.2.1,h3.io.zd hne.2.2.2.1,h3.ip.set _ _,h3.ia.zd hne.2.2.2.2.2.symm,h3.lo,by simp [hlp],h3.la,hne,hn⟩,(f2.rm (.inr (by simp; omega))).rm (.inr (by simp; omega)),?_,?_,?_⟩
    ·intro u hu
     rw [Bv (by omega)]; unfold up1
     split
     ·rename_i e; rw [e]
     ·exact ho u (by omega)
    ·rw [L7 (by omega)]; exact hp0
    ·intro u hu1 hu2
     rw [Bv (by omega)]; unfold up1
     split
     ·rename_i e; rw [e]; omega
     ·exact hpl u hu1 (by omega)
   ·simp (disch:=omega) only [go_sem,↓cB,s4,s27,s28,sd]
    have hjn':j=n:=by omega
    subst hjn'
    have z:∀ v,nt (List.replicate (j + 1) 0) v=0:=by
     intro v; unfold nt; rw [Jq,Xl]; split <;> rfl
    refine fin ⟨f2,p,bo,bp,ba,os,pl,rfl,hsz,⟨h2,⟨Jb _,?_,?_,hp0⟩,?_,?_⟩,?_⟩
    ·intro i hi
     rw [ho i hi]
     have e:((i:Int) + 1).toNat=i + 1:=by omega
     rw [e,hpl (i + 1) (by omega) (by omega)]
     omega
    ·intro v hv1 hv2
     right
     rw [hpl v hv1 hv2]
     have e:((v:Int) - 1).toNat=v - 1:=by omega
     rw [e,ho (v - 1) (by omega)]
     omega
    ·intro u hu hum
     unfold bf
     rw [z,z,ho u hum,ho (par u) (by unfold par; omega)]
     unfold par; omega
    ·intro v _; rw [z]; omega
    ·intro v hv1 hv2; rw [hpl v hv1 hv2]; omega
end
end Go.Proofs.YtkdlmdmlomgdiaaGreat
