/- Texts of this proof, put together: AutU, AutV. The conditions of each theorem stand in it. -/
import Derived.Test.YtmihefbdghjeoaaGreatMXE
set_option linter.unusedSimpArgs false
set_option linter.unusedVariables false
namespace Go.Proofs.YtmihefbdghjeoaaGreat
open Go.HL
set_option maxRecDepth 10000
structure EdR (n C L:Nat) (V:Int→Int→Prop) (e e':Ed):Prop where
 fr:0≤e.from'∧e.from' < n∧e.from' ≠ 1
 to:0≤e.to'∧e.to' < n
 va:(e.var = -1∧e'.var = -1)∨V e.var e'.var
 ch:-1≤e.chan∧e.chan < C
 no:0≤e.node∧e.node < L
 ex:-1≤e.expr∧e.expr < L
 asks:(e.do'=1∨e.do'=2∨e.do'=4∨e.do'=5)↔0≤e.expr
 hasv:(e.do'=1∨e.do'=3)↔¬ e.var = -1
 hasc:(e.do'=2∨e.do'=3)↔0≤e.chan
 keep:e.keep=true→e.to' ≠ 1
 eq:e' = { e with var:=e'.var }
structure BsR (C L:Nat) (V:Int→Int→Prop) (b b':Bs):Prop where
 rest:b'.rest=b.rest
 two:2≤b.rest.length
 one:b.rest[1]?=some true
 ed:∃ ps:List (Ed × Ed),b.edges=ps.map Prod.fst∧b'.edges=ps.map Prod.snd∧∀ p ∈ ps,EdR b.rest.length C L V p.1 p.2
def Fr3 (b:Bs) (f t:Int):Prop:=0≤f∧f < b.rest.length∧f ≠ 1∧0≤t∧t < b.rest.length
section
variable {n n' C L:Nat} {V:Int→Int→Prop} {e e':Ed} {b b':Bs} {f t:Int}
theorem EdR.mono (h:EdR n C L V e e') (hn:n≤n'):EdR n' C L V e e' :=
 ⟨⟨h.fr.1,by have:=h.fr.2.1; omega,h.fr.2.2⟩,⟨h.to.1,by have:=h.to.2; omega⟩,h.va,h.ch,h.no,h.ex,h.asks,h.hasv,h.hasc,h.keep,h.eq⟩
theorem edR_of {d x v v' c k:Int} (hf:Fr3 b f t) (hx:-1≤x∧x < L) (hv:v = -1∧v' = -1∨V v v') (hc:-1≤c∧c < C) (hk:0≤k∧k < L)
  (h1:(d=1∨d=2∨d=4∨d=5)↔0≤x) (h2:(d=1∨d=3)↔¬ v = -1) (h3:(d=2∨d=3)↔0≤c):EdR b.rest.length C L V ⟨f,t,d,x,v,c,false,k⟩ ⟨f,t,d,x,v',c,false,k⟩ :=
 ⟨⟨hf.1,hf.2.1,hf.2.2.1⟩,hf.2.2.2,hv,hc,hk,hx,h1,h2,h3,by simp,rfl⟩
theorem BsR.put (x:BsR C L V b b') (h:EdR b.rest.length C L V e e'):BsR C L V (putM b e) (putM b' e'):=by
 obtain ⟨ps,h1,h2,h3⟩:=x.ed
 refine ⟨x.rest,x.two,x.one,ps ++ [(e,e')],by simp [putM,h1],by simp [putM,h2],?_⟩
 intro p hp
 rw [List.mem_append,List.mem_singleton] at hp
 rcases hp with hp | rfl
 ·exact h3 p hp
 ·exact h
theorem BsR.pl (x:BsR C L V b b'):BsR C L V (plM b) (plM b'):=by
 obtain ⟨ps,h1,h2,h3⟩:=x.ed
 have h4:=x.two
 refine ⟨by simp [plM,x.rest],by simp [plM]; omega,?_,ps,h1,h2,fun p hp=>(h3 p hp).mono (by simp [plM])⟩
 simp only [plM]
 rw [List.getElem?_append_left (by omega)]; exact x.one
theorem BsR.idl {y:Int} (x:BsR C L V b b'):BsR C L V (idlM b f y) (idlM b' f y):=by
 unfold idlM
 split
 ·exact x
 ·obtain ⟨ps,h1,h2,h3⟩:=x.ed
  have h4:=x.two
  refine ⟨by simp [x.rest],by simpa using x.two,?_,ps,h1,h2,fun p hp=>(h3 p hp).mono (by simp)⟩
  simp only
  rw [List.getElem?_set]
  split
  ·rename_i h
   rw [if_pos (by omega)]
  ·exact x.one
theorem BsR.kep {m:Nat} (x:BsR C L V b b'):BsR C L V (kepM m t b) (kepM m t b'):=by
 obtain ⟨ps,h1,h2,h3⟩:=x.ed
 refine ⟨x.rest,x.two,x.one,ps.take m ++ (ps.drop m).map (fun p=>(keepE t p.1,keepE t p.2)),?_,?_,?_⟩
 ·simp [kepM,h1,List.map_take,List.map_drop]; rfl
 ·simp [kepM,h2,List.map_take,List.map_drop]; rfl
 ·intro p hp
  rw [List.mem_append,List.mem_map] at hp
  rcases hp with hp | ⟨q,hq,rfl⟩
  ·exact h3 p (List.mem_of_mem_take hp)
  ·obtain ⟨g1,g2,g3,g4,g5,g6,g7,g8,g9,g10,g11⟩:=h3 q (List.mem_of_mem_drop hq)
   refine ⟨g1,g2,g3,g4,g5,g6,g7,g8,g9,?_,?_⟩
   ·simp [keepE]
   ·rw [g11]; simp [keepE]
theorem Fr3.mono (h:Fr3 b f t) (hn:b.rest.length≤b'.rest.length):Fr3 b' f t:=by unfold Fr3 at *; omega
theorem Fr3.new (h:Fr3 b f t) (h2:2≤b.rest.length):Fr3 (plM b) b.rest.length t∧Fr3 (plM b) f b.rest.length∧Fr3 (plM b) b.rest.length f:=by
 unfold Fr3 plM at *
 simp only [List.length_append,List.length_singleton]
 omega
theorem put_len:(putM b e).rest.length=b.rest.length∧(putM b e).edges.length=b.edges.length + 1:=by simp [putM]
theorem pl_len:(plM b).rest.length=b.rest.length + 1∧(plM b).edges.length=b.edges.length:=by simp [plM]
theorem idl_len {y:Int}:(idlM b f y).rest.length=b.rest.length∧(idlM b f y).edges.length=b.edges.length:=by unfold idlM; split <;> simp
theorem kep_len {m:Nat} (h:m≤b.edges.length):(kepM m t b).rest.length=b.rest.length∧(kepM m t b).edges.length=b.edges.length:=by simp [kepM]; omega
end
def GoR (C L:Nat) (V:Int→Int→Prop) (b c c':Bs):Prop:=BsR C L V c c'∧b.edges.length < c.edges.length∧b.rest.length≤c.rest.length
def StR (l:List Nd) (C:Nat) (V:Int→Int→Prop) (m:Nm) (w:Nat→Nat × Bool) (st st':StF):Prop:=∀ (i e:Nat) (f t:Int) (b b':Bs),i < l.length→w i=(e,true)→StK l i→NmOk l m i e→Fr3 b f t→BsR C l.length V b b' →
 i < e∧e≤l.length∧GoR C l.length V b (st i f t b) (st' i f t b')
def BlR (l:List Nd) (C:Nat) (V:Int→Int→Prop) (m:Nm) (dk:Nat) (st st':StF):Prop:=∀ (k e:Nat) (f t:Int) (b b':Bs),k < l.length→walkM l dk k=(e,true)→(nodeAt l k).kind=16→NmOk l m k e→Fr3 b f t→BsR C l.length V b b' →
 k < e∧e≤l.length∧GoR C l.length V b (blkM l st k f t b) (blkM l st' k f t b')
section
variable {l:List Nd} {C:Nat} {V:Int→Int→Prop} {m m':Nm} {w:Nat→Nat × Bool} {st st':StF}
theorem walk_le (h:∀ i e,i < l.length→w i=(e,true)→i < e∧e≤l.length) {ks:List Int} {s e:Nat} (hs:s≤l.length) (hw:walkK l w ks s=(e,true)):s≤e∧e≤l.length:=by
 obtain ⟨a,b,-⟩:=walkK_ok (l:=l) (ih:=w) (Q:=fun _=>True) (fun i e h1 h2=>⟨(h i e h1 h2).1,(h i e h1 h2).2,fun _ _ _=>trivial⟩) ks s e hs hw
 exact ⟨a,b⟩
theorem seq_r (ok:∀ i e,i < l.length→w i=(e,true)→i < e∧e≤l.length) (h:StR l C V m w st st') {node:Int} (hn:0≤node∧node < l.length):∀ (ks:List Int) (s e:Nat) (f t:Int) (b b':Bs),s≤l.length→walkK l w ks s=(e,true)→(∀ k ∈ ks,StK l k.toNat)→NmOk l m s e→Fr3 b f t→BsR C l.length V b b' →
  GoR C l.length V b (seqM st node ks f t b) (seqM st' node ks f t b')
 | [],s,e,f,t,b,b',hs,hw,hK,hN,hf,x=>by
  simp only [seqM]
  exact ⟨x.put (edR_of hf (by omega) (.inl ⟨rfl,rfl⟩) (by omega) hn (by simp) (by simp) (by simp)),by simp [putM],by simp [putM]⟩
 | [k],s,e,f,t,b,b',hs,hw,hK,hN,hf,x=>by
  obtain ⟨rfl,a2,a3,a4⟩:=walkK_first hw
  simp [walkK] at a4
  subst a4
  simp only [seqM,Int.toNat_natCast]
  exact (h s (w s).1 f t b b' a2 (by rw [← a3]) (by simpa using hK (s:Int) (by simp)) hN hf x).2.2
 | k :: k' :: ks,s,e,f,t,b,b',hs,hw,hK,hN,hf,x=>by
  obtain ⟨rfl,a2,a3,a4⟩:=walkK_first hw
  have hwS:w s=((w s).1,true):=by rw [← a3]
  obtain ⟨o1,o2⟩:=ok s _ a2 hwS
  obtain ⟨o3,o4⟩:=walk_le ok o2 a4
  obtain ⟨n1,n2,n3⟩:=hf.new x.two
  have p1:=pl_len (b:=b)
  obtain ⟨-,-,y,y1,y2⟩:=h s (w s).1 f b.rest.length (plM b) (plM b') a2 hwS (by simpa using hK (s:Int) (by simp)) (hN.sub (Nat.le_refl _) o3) n2 x.pl
  have hr:b'.rest.length=b.rest.length:=by rw [x.rest]
  have ih:=seq_r ok h hn (k' :: ks) (w s).1 e b.rest.length t (st s f b.rest.length (plM b)) (st' s f b'.rest.length (plM b')) o2 a4 (fun k hk=>hK k (List.mem_cons_of_mem _ hk)) (hN.sub (by omega) (Nat.le_refl _))
   (n1.mono y2) (by rw [hr]; exact y)
  have e1:seqM st node ((s:Int) :: k' :: ks) f t b=seqM st node (k' :: ks) b.rest.length t (st s f b.rest.length (plM b)):=by simp only [seqM,Int.toNat_natCast]
  have e2:seqM st' node ((s:Int) :: k' :: ks) f t b'=seqM st' node (k' :: ks) b.rest.length t (st' s f b'.rest.length (plM b')):=by simp only [seqM,Int.toNat_natCast,hr]
  rw [e1,e2]
  obtain ⟨z,z1,z2⟩:=ih
  exact ⟨z,by omega,by omega⟩
theorem blR_of (hr:prRightM l=true) {d:Nat} (h:StR l C V m (walkM l d) st st'):BlR l C V m (d + 1) st st':=by
 intro k e f t b b' hk hw h16 hN hf x
 obtain ⟨o1,o2,-⟩:=walkM_ok (d + 1) k e hk hw
 refine ⟨o1,o2,?_⟩
 have hw':=hw
 unfold walkM at hw'
 unfold blkM
 simp only [Int.toNat_natCast]
 refine seq_r (fun i e h1 h2=>by have:=walkM_ok d i e h1 h2; exact ⟨this.1,this.2.1⟩) h (node:=(k:Int)) (by omega) (nodeAt l k).kids (k + 1) e f t b b' (by omega) hw' ?_ (hN.sub (by omega) (Nat.le_refl _)) hf x
 exact fun j hj=>(shp_of hr hk).blk h16 j hj
theorem cho_r {dk:Nat} (h:BlR l C V m dk st st'):∀ (ks:List Int) (s e:Nat) (f t:Int) (b b':Bs),s≤l.length→walkK l (walkM l dk) ks s=(e,true)→(∀ k ∈ ks,(nodeAt l k.toNat).kind=16)→NmOk l m s e→Fr3 b f t→BsR C l.length V b b' →
  BsR C l.length V (choM l st ks f t b) (choM l st' ks f t b')∧b.edges.length + (if ks.length=0 then 0 else 1)≤(choM l st ks f t b).edges.length∧b.rest.length≤(choM l st ks f t b).rest.length
 | [],s,e,f,t,b,b',hs,hw,hK,hN,hf,x=>by simp only [choM]; exact ⟨x,by simp,Nat.le_refl _⟩
 | k :: ks,s,e,f,t,b,b',hs,hw,hK,hN,hf,x=>by
  obtain ⟨rfl,a2,a3,a4⟩:=walkK_first hw
  have hwS:walkM l dk s=((walkM l dk s).1,true):=by rw [← a3]
  have ok:∀ i e,i < l.length→walkM l dk i=(e,true)→i < e∧e≤l.length:=fun i e h1 h2=>by have:=walkM_ok dk i e h1 h2; exact ⟨this.1,this.2.1⟩
  obtain ⟨o1,o2⟩:=ok s _ a2 hwS
  obtain ⟨o3,o4⟩:=walk_le ok o2 a4
  obtain ⟨n1,n2,n3⟩:=hf.new x.two
  have hr:b'.rest.length=b.rest.length:=by rw [x.rest]
  have h16:=hK (s:Int) (by simp)
  simp only [Int.toNat_natCast] at h16
  have p1:=pl_len (b:=b)
  simp only [List.length_cons]
  unfold choM
  split
  ·rw [hr]
   have xp:=x.pl.put (edR_of (x:=-1) (v:=-1) (v':=-1) (c:=-1) (k:=(s:Int)) (d:=0) n2 (by omega) (.inl ⟨rfl,rfl⟩) (by omega) (by omega) (by simp) (by simp) (by simp))
   have p2:=put_len (b:=plM b) (e:=⟨f,b.rest.length,0,-1,-1,-1,false,s⟩)
   obtain ⟨-,-,y,y1,y2⟩:=h s _ b.rest.length t _ _ a2 hwS h16 (hN.sub (Nat.le_refl _) o3) (n1.mono (by omega)) xp
   obtain ⟨i1,i2,i3⟩:=cho_r h ks (walkM l dk s).1 e f t _ _ o2 a4 (fun k hk=>hK k (List.mem_cons_of_mem _ hk)) (hN.sub (by omega) (Nat.le_refl _)) (hf.mono (by omega)) y
   exact ⟨i1,by rw [if_neg (by omega)]; omega,by omega⟩
  ·obtain ⟨-,-,y,y1,y2⟩:=h s _ f t _ _ a2 hwS h16 (hN.sub (Nat.le_refl _) o3) hf x
   obtain ⟨i1,i2,i3⟩:=cho_r h ks (walkM l dk s).1 e f t _ _ o2 a4 (fun k hk=>hK k (List.mem_cons_of_mem _ hk)) (hN.sub (by omega) (Nat.le_refl _)) (hf.mono (by omega)) y
   exact ⟨i1,by rw [if_neg (by omega)]; omega,by omega⟩
theorem cho_some (hr:prRightM l=true) {i:Nat} (hi:i < l.length) (hk:(nodeAt l i).kind=10):0 < (nodeAt l i).kids.length:=by
 have hn:=(tre_of hr).node i hi
 generalize nodeAt l i=n at *
 unfold nodeP at hn
 simp only [Bool.and_eq_true] at hn
 have hks:=hn.2.2
 unfold kidsM at hks
 rw [if_neg (by omega),if_neg (by omega),if_neg (by omega),if_pos hk,Bool.and_eq_true,decide_eq_true_eq,List.length_map] at hks
 exact hks.1
structure NmR (C:Nat) (V:Int→Int→Prop) (m m':Nm):Prop where
 var:∀ s,inL m.names s=true→V (m.var s) (m'.var s)
 pos:∀ x y,V x y→0≤x
 chan:m'.chans=m.chans
 len:m.chans.length=C
theorem chan_lt {s:Str} (h:inL m.chans s=true):0≤m.chan s∧m.chan s < m.chans.length:=by
 unfold inL at h
 rw [List.any_eq_true] at h
 have:=List.findIdx_lt_length_of_exists h
 unfold Nm.chan
 omega
theorem step_r (hr:prRightM l=true) (hm:NmR C V m m') {dk:Nat} (h:BlR l C V m dk st st'):StR l C V m (walkM l (dk + 1)) (stepA l m st) (stepA l m' st'):=by
 intro i e f t b b' hi hw hK hN hf x
 obtain ⟨o1,o2,-⟩:=walkM_ok (dk + 1) i e hi hw
 refine ⟨o1,o2,?_⟩
 have sh:=shp_of hr hi
 have hNi:=hN i (Nat.le_refl _) o1
 have hcs:=cho_some hr hi
 unfold StK at hK
 have hw':=hw
 unfold walkM at hw'
 have hks:(l.getD i nd0').kids=(nodeAt l i).kids:=rfl
 rw [hks] at hw'
 have ok:∀ i e,i < l.length→walkM l dk i=(e,true)→i < e∧e≤l.length:=fun i e h1 h2=>by have:=walkM_ok dk i e h1 h2; exact ⟨this.1,this.2.1⟩
 have hch:∀ s,m'.chan s=m.chan s:=fun s=>by unfold Nm.chan; rw [hm.chan]
 have hcl:=hm.len
 have hr':b'.rest.length=b.rest.length:=by rw [x.rest]
 have he':b'.edges.length=b.edges.length:=by obtain ⟨ps,h1,h2,-⟩:=x.ed; rw [h1,h2]; simp
 obtain ⟨n1,n2,n3⟩:=hf.new x.two
 have hx0:0 < (nodeAt l i).kids.length→k0 (nodeAt l i)=((i + 1:Nat):Int)∧i + 1 < l.length:=by
  intro h0
  obtain ⟨a1,a2,-,-⟩:=kids_1 hw' h0
  exact ⟨a1,a2⟩
 have hni:0≤(i:Int)∧(i:Int) < l.length:=by omega
 have pp:=pl_len (b:=b)
 have qq:=fun e=>put_len (b:=b) (e:=e)
 have ii:=idl_len (b:=b) (f:=f) (y:=n0 (nodeAt l i))
 unfold stepA
 simp only [hch]
 generalize nodeAt l i=n at *
 by_cases e6:n.kind=6
 ·rw [if_pos e6,if_pos e6]
  obtain ⟨g1,g2⟩:=hx0 (sh.one (.inl e6))
  have hv:=hm.var _ (hNi.1 e6)
  have hp:=hm.pos _ _ hv
  exact ⟨x.put (edR_of hf (by omega) (.inr hv) (by omega) hni (by simp; omega) (by simp; omega) (by simp)),by rw [(qq _).2]; omega,by rw [(qq _).1]; omega⟩
 rw [if_neg e6,if_neg e6]
 by_cases e7:n.kind=7
 ·rw [if_pos e7,if_pos e7]
  obtain ⟨g1,g2⟩:=hx0 (sh.one (.inr (.inl e7)))
  have hc:=chan_lt (hNi.2.1 e7)
  exact ⟨x.put (edR_of hf (by omega) (.inl ⟨rfl,rfl⟩) (by omega) hni (by simp; omega) (by simp) (by simp; omega)),by rw [(qq _).2]; omega,by rw [(qq _).1]; omega⟩
 rw [if_neg e7,if_neg e7]
 by_cases e8:n.kind=8
 ·rw [if_pos e8,if_pos e8]
  obtain ⟨hN1,hN2⟩:=hNi.2.2 e8
  have hv:=hm.var _ hN2
  have hp:=hm.pos _ _ hv
  have hc:=chan_lt hN1
  have xi:=x.idl (f:=f) (y:=n0 n)
  have pi:=put_len (b:=idlM b f (n0 n)) (e:=⟨f,t,3,-1,m.var (w1 n),m.chan (w0 n),false,i⟩)
  exact ⟨xi.put (edR_of (hf.mono (by omega)) (by omega) (.inr hv) (by omega) hni (by simp) (by simp; omega) (by simp; omega)),by omega,by omega⟩
 rw [if_neg e8,if_neg e8]
 by_cases e9:n.kind=9
 ·rw [if_pos e9,if_pos e9]
  obtain ⟨g1,g2⟩:=hx0 (sh.one (.inr (.inr e9)))
  have xi:=x.idl (f:=f) (y:=n0 n)
  have pi:=put_len (b:=idlM b f (n0 n)) (e:=⟨f,t,4,k0 n,-1,-1,false,i⟩)
  exact ⟨xi.put (edR_of (hf.mono (by omega)) (by omega) (.inl ⟨rfl,rfl⟩) (by omega) hni (by simp; omega) (by simp) (by simp)),by omega,by omega⟩
 rw [if_neg e9,if_neg e9]
 by_cases e10:n.kind=10
 ·rw [if_pos e10,if_pos e10]
  have h0:=hcs e10
  obtain ⟨c1,c2,c3⟩:=cho_r h n.kids (i + 1) e f t _ _ (by omega) hw' (sh.cho e10) (hN.sub (by omega) (Nat.le_refl _)) (hf.mono (b':=idlM b f (n0 n)) (by omega)) x.idl
  rw [if_neg (by omega)] at c2
  exact ⟨c1,by omega,by omega⟩
 rw [if_neg e10,if_neg e10]
 by_cases e11:n.kind=11
 ·rw [if_pos e11,if_pos e11]
  obtain ⟨hl,h16,h16'⟩:=sh.iff e11
  obtain ⟨g1,g2⟩:=hx0 (by omega)
  obtain ⟨a1,a2,a3,a4⟩:=kids_1 hw' (by omega)
  obtain ⟨a5,a6⟩:=ok (i + 1) _ a2 a3
  obtain ⟨b1,b2,b3,b4⟩:=kids_1 a4 (by rw [List.length_tail]; omega)
  obtain ⟨b5,b6⟩:=ok _ _ b2 b3
  obtain ⟨b7,b8⟩:=walk_le ok b6 b4
  rw [getD_tail] at b1
  have hk1:k1 n=((walkM l dk (i + 1)).1:Int):=b1
  rw [hk1] at h16 ⊢
  simp only [Int.toNat_natCast] at h16
  rw [hr']
  have xp:=x.pl.put (edR_of (x:=k0 n) (v:=-1) (v':=-1) (c:=-1) (k:=(i:Int)) (d:=4) n2 (by omega) (.inl ⟨rfl,rfl⟩) (by omega) hni (by simp; omega) (by simp) (by simp))
  have p2:=put_len (b:=plM b) (e:=⟨f,b.rest.length,4,k0 n,-1,-1,false,i⟩)
  obtain ⟨-,-,y,y1,y2⟩:=h (walkM l dk (i + 1)).1 _ b.rest.length t _ _ b2 b3 h16 (hN.sub (by omega) b7) (n1.mono (by omega)) xp
  obtain ⟨B,hB⟩:∃ B,B=blkM l st ((walkM l dk (i + 1)).1:Int) b.rest.length t (putM (plM b) ⟨f,b.rest.length,4,k0 n,-1,-1,false,i⟩):=⟨_,rfl⟩
  obtain ⟨B',hB'⟩:∃ B',B'=blkM l st' ((walkM l dk (i + 1)).1:Int) b.rest.length t (putM (plM b') ⟨f,b.rest.length,4,k0 n,-1,-1,false,i⟩):=⟨_,rfl⟩
  rw [← hB,← hB'] at y
  rw [← hB] at y1 y2
  rw [← hB,← hB']
  have hrB:B'.rest.length=B.rest.length:=by rw [y.rest]
  have hfB:Fr3 B f t:=hf.mono (by omega)
  obtain ⟨m1,m2,m3⟩:=hfB.new y.two
  rcases hl with hl | hl
  ·rw [if_pos (by omega),if_pos (by omega)]
   have p3:=put_len (b:=B) (e:=⟨f,t,5,k0 n,-1,-1,false,i⟩)
   exact ⟨y.put (edR_of hfB (by omega) (.inl ⟨rfl,rfl⟩) (by omega) hni (by simp; omega) (by simp) (by simp)),by omega,by omega⟩
  ·rw [if_neg (by omega),if_neg (by omega)]
   obtain ⟨d1,d2,d3,d4⟩:=kids_1 b4 (by rw [List.length_tail,List.length_tail]; omega)
   rw [getD_tail,getD_tail] at d1
   have hk2:k2 n=((walkM l dk (walkM l dk (i + 1)).1).1:Int):=d1
   have:n.kids.tail.tail.tail = []:=by
    apply List.eq_nil_of_length_eq_zero; rw [List.length_tail,List.length_tail,List.length_tail]; omega
   rw [this] at d4
   simp [walkK] at d4
   have h17:=h16' hl
   rw [hk2] at h17 ⊢
   simp only [Int.toNat_natCast] at h17
   rw [hrB]
   have xq:=y.pl.put (edR_of (x:=k0 n) (v:=-1) (v':=-1) (c:=-1) (k:=(i:Int)) (d:=5) m2 (by omega) (.inl ⟨rfl,rfl⟩) (by omega) hni (by simp; omega) (by simp) (by simp))
   have p3:=put_len (b:=plM B) (e:=⟨f,B.rest.length,5,k0 n,-1,-1,false,i⟩)
   have p4:=pl_len (b:=B)
   obtain ⟨-,-,z,z1,z2⟩:=h (walkM l dk (walkM l dk (i + 1)).1).1 e B.rest.length t _ _ d2 (by rw [d3,d4]) h17 (hN.sub (by omega) (Nat.le_refl _)) (m1.mono (by omega)) xq
   exact ⟨z,by omega,by omega⟩
 rw [if_neg e11,if_neg e11]
 by_cases e12:n.kind=12
 ·rw [if_pos e12,if_pos e12]
  obtain ⟨hl,h16⟩:=sh.whl e12
  obtain ⟨g1,g2⟩:=hx0 (by omega)
  obtain ⟨a1,a2,a3,a4⟩:=kids_1 hw' (by omega)
  obtain ⟨a5,a6⟩:=ok (i + 1) _ a2 a3
  obtain ⟨b1,b2,b3,b4⟩:=kids_1 a4 (by rw [List.length_tail]; omega)
  rw [getD_tail] at b1
  have hk1:k1 n=((walkM l dk (i + 1)).1:Int):=b1
  have:n.kids.tail.tail = []:=by
   apply List.eq_nil_of_length_eq_zero; rw [List.length_tail,List.length_tail]; omega
  rw [this] at b4
  simp [walkK] at b4
  rw [hk1] at h16 ⊢
  simp only [Int.toNat_natCast] at h16
  rw [hr']
  have xp:=x.pl.put (edR_of (x:=k0 n) (v:=-1) (v':=-1) (c:=-1) (k:=(i:Int)) (d:=4) n2 (by omega) (.inl ⟨rfl,rfl⟩) (by omega) hni (by simp; omega) (by simp) (by simp))
  have p2:=put_len (b:=plM b) (e:=⟨f,b.rest.length,4,k0 n,-1,-1,false,i⟩)
  have xq:=xp.put (edR_of (f:=f) (t:=t) (x:=k0 n) (v:=-1) (v':=-1) (c:=-1) (k:=(i:Int)) (d:=5) (hf.mono (by omega)) (by omega) (.inl ⟨rfl,rfl⟩) (by omega) hni (by simp; omega) (by simp) (by simp))
  have p3:=put_len (b:=putM (plM b) ⟨f,b.rest.length,4,k0 n,-1,-1,false,i⟩) (e:=⟨f,t,5,k0 n,-1,-1,false,i⟩)
  obtain ⟨-,-,y,y1,y2⟩:=h (walkM l dk (i + 1)).1 e b.rest.length f _ _ b2 (by rw [b3,b4]) h16 (hN.sub (by omega) (Nat.le_refl _)) (n3.mono (by omega)) xq
  exact ⟨y,by omega,by omega⟩
 rw [if_neg e12,if_neg e12]
 by_cases e13:n.kind=13
 ·rw [if_pos e13,if_pos e13]
  obtain ⟨hl,h16⟩:=sh.ato e13
  obtain ⟨a1,a2,a3,a4⟩:=kids_1 hw' (by omega)
  have:n.kids.tail = []:=by
   apply List.eq_nil_of_length_eq_zero; rw [List.length_tail]; omega
  rw [this] at a4
  simp [walkK] at a4
  have hk0:k0 n=((i + 1:Nat):Int):=a1
  rw [hk0] at h16 ⊢
  simp only [Int.toNat_natCast] at h16
  rw [he']
  obtain ⟨-,-,y,y1,y2⟩:=h (i + 1) e f t _ _ a2 (by rw [a3,a4]) h16 (hN.sub (by omega) (Nat.le_refl _)) hf x
  have p3:=kep_len (b:=blkM l st ((i + 1:Nat):Int) f t b) (t:=t) (m:=b.edges.length) (by omega)
  exact ⟨y.kep,by omega,by omega⟩
 rw [if_neg e13,if_neg e13]
 by_cases e15:n.kind=15
 ·rw [if_pos e15,if_pos e15]
  have h2:=x.two
  exact ⟨x.put (edR_of (by unfold Fr3 at *; omega) (by omega) (.inl ⟨rfl,rfl⟩) (by omega) hni (by simp) (by simp) (by simp)),by rw [(qq _).2]; omega,by rw [(qq _).1]; omega⟩
 rw [if_neg e15,if_neg e15]
 exact ⟨x.put (edR_of hf (by omega) (.inl ⟨rfl,rfl⟩) (by omega) hni (by simp) (by simp) (by simp)),by rw [(qq _).2]; omega,by rw [(qq _).1]; omega⟩
theorem stat_r (hr:prRightM l=true) (hm:NmR C V m m'):∀ d,StR l C V m (walkM l d) (statM l m d) (statM l m' d)
 | 0=>by intro i e f t b b' hi hw; simp [walkM] at hw
 | 1=>step_r hr hm (fun k e f t b b' hk hw=>by simp [walkM] at hw)
 | d + 2=>step_r hr hm (blR_of hr (stat_r hr hm d))
end
end Go.Proofs.YtmihefbdghjeoaaGreat
namespace Go.Proofs.YtmihefbdghjeoaaGreat
open Go.HL
set_option maxRecDepth 10000
def locN (l:List Nd) (item:Nat):List Int:=(nodeAt l item).kids.takeWhile (isVar l)
def prO (l:List Nd) (C:List Str) (item:Nat) (number:Int) (before:Nat) (V:List Vr):Pr :=
 let r:=locM l (nodeAt l item).kids ⟨V,[],(gloM V before).1,(gloM V before).2⟩
 let b:=seqM (statM l ⟨r.2.N,r.2.X,C⟩ 18) item r.1 0 1 ⟨[false,true],[]⟩
 ⟨w0 (nodeAt l item),number,r.2.L,b.rest,b.edges,r.2.N,r.2.X⟩
section
variable {l:List Nd} {m:Mo} {item before:Nat} {number:Int} {V:List Vr} {C:List Str}
theorem prcM_eq:prcM l m item number before = { m with vars:=m.vars ++ (locN l item).map (vrK l),procs:=m.procs ++ [prO l (m.chans.map Ch.name) item number before m.vars] }:=by
 obtain ⟨-,h2,-⟩:=locM_eq (l:=l) (nodeAt l item).kids (lo0 m before)
 have e:m.vars ++ (locN l item).map (vrK l)=(locM l (nodeAt l item).kids (lo0 m before)).2.V:=by rw [h2]; rfl
 rw [e]
 rfl
theorem gloM_ix:∀ i,(gloM V i).2=(List.range i).map (fun j:Nat=>(j:Int))
 | 0=>rfl
 | i + 1=>by rw [gloM,gloM_ix i,List.range_succ,List.map_append]; rfl
theorem range_cons (a k:Nat):((a:Int) :: (List.range k).map (fun j:Nat=>((a + 1 + j:Nat):Int)))=(List.range (k + 1)).map (fun j:Nat=>((a + j:Nat):Int)):=by
 rw [List.range_succ_eq_map,List.map_cons,List.map_map]
 congr 1
 apply List.map_congr_left
 intro j _
 simp only [Function.comp]
 omega
theorem locM_ix:∀ (ks:List Int) (s:Lo),(locM l ks s).2.L=s.L ++ (List.range (ks.takeWhile (isVar l)).length).map (fun j:Nat=>((s.V.length + j:Nat):Int))∧(locM l ks s).2.X=s.X ++ (List.range (ks.takeWhile (isVar l)).length).map (fun j:Nat=>((s.V.length + j:Nat):Int))
 | [],s=>by simp [locM]
 | k :: ks,s=>by
  unfold locM
  by_cases h:isVar l k=true
  ·rw [if_pos h,List.takeWhile_cons_of_pos h]
   obtain ⟨a,b⟩:=locM_ix ks (locA l s k)
   have e:(locA l s k).V.length=s.V.length + 1:=by simp [locA]
   rw [e] at a b
   rw [a,b,List.length_cons,← range_cons]
   simp [locA]
  ·rw [if_neg h,List.takeWhile_cons_of_neg h]
   simp
theorem pr_locals:(prO l C item number before V).locals=(List.range (locN l item).length).map (fun j:Nat=>((V.length + j:Nat):Int)):=by
 have:=(locM_ix (l:=l) (nodeAt l item).kids ⟨V,[],(gloM V before).1,(gloM V before).2⟩).1
 simpa [prO,locN] using this
theorem pr_vars:(prO l C item number before V).vars=(List.range before).map (fun j:Nat=>(j:Int)) ++ (List.range (locN l item).length).map (fun j:Nat=>((V.length + j:Nat):Int)):=by
 show (locM l (nodeAt l item).kids ⟨V,[],(gloM V before).1,(gloM V before).2⟩).2.X=_
 rw [(locM_ix (l:=l) (nodeAt l item).kids ⟨V,[],(gloM V before).1,(gloM V before).2⟩).2]
 simp only
 rw [gloM_ix]
 rfl
theorem pr_names (hb:before≤V.length):(prO l C item number before V).names=(V.take before).map Vr.name ++ (locN l item).map (fun k=>w0 (nodeAt l k.toNat)):=by
 obtain ⟨-,-,h3,-⟩:=locM_eq (l:=l) (nodeAt l item).kids ⟨V,[],(gloM V before).1,(gloM V before).2⟩
 show (locM l (nodeAt l item).kids ⟨V,[],(gloM V before).1,(gloM V before).2⟩).2.N=_
 rw [h3]
 simp only
 rw [gloM_names before hb]
 rfl
theorem pr_nlen (hb:before≤V.length):(prO l C item number before V).names.length=before + (locN l item).length:=by
 rw [pr_names hb]; simp; omega
theorem pr_at {N:List Str} {k i:Nat} (hi:i < before + k):((List.range before).map (fun j:Nat=>(j:Int)) ++ (List.range k).map (fun j:Nat=>((V.length + j:Nat):Int))).getD i 0=if i < before then (i:Int) else ((V.length + (i - before):Nat):Int):=by
 rw [List.getD_eq_getElem?_getD]
 split
 ·rw [List.getElem?_append_left (by simpa),List.getElem?_map,List.getElem?_range (by omega)]; rfl
 ·rw [List.getElem?_append_right (by simp; omega),List.getElem?_map,List.length_map,List.length_range,List.getElem?_range (by omega)]; rfl
def prNm (l:List Nd) (C:List Str) (item before:Nat) (V:List Vr):Nm:=⟨(prO l C item 0 before V).names,(prO l C item 0 before V).vars,C⟩
theorem pr_ix {s:Str} (hb:before≤V.length) (h:inL (prNm l C item before V).names s=true):∃ i,i < before + (locN l item).length∧i=(prO l C item 0 before V).names.findIdx (· == s)∧(prNm l C item before V).var s=if i < before then (i:Int) else ((V.length + (i - before):Nat):Int):=by
 unfold inL at h
 rw [List.any_eq_true] at h
 have hlt:=List.findIdx_lt_length_of_exists h
 have e:(prNm l C item before V).names.length=before + (locN l item).length:=pr_nlen (number:=0) (C:=C) hb
 rw [e] at hlt
 refine ⟨_,hlt,rfl,?_⟩
 unfold Nm.var
 have e2:(prNm l C item before V).vars=_:=pr_vars (number:=0) (l:=l) (C:=C) (item:=item) (before:=before) (V:=V)
 rw [e2,pr_at (N:=[]) hlt]
theorem nmR_one (hb:before≤V.length):NmR C.length (fun x y=>0≤x∧x < ((V.length + (locN l item).length:Nat):Int)) (prNm l C item before V) (prNm l C item before V):=by
 refine ⟨?_,fun x y h=>h.1,rfl,rfl⟩
 intro s hs
 obtain ⟨i,h1,h2,h3⟩:=pr_ix hb hs
 rw [h3]
 split <;> omega
theorem nmR_two {g:Nat} (hb:before≤g) (hg:g≤V.length) {W:List Vr} (hW:W.take V.length=V) (hWl:W.length=V.length + (locN l item).length) :
  NmR C.length (fun x y=>(0≤x∧x < g∧y=x)∨((g:Int)≤x∧x=y + (locN l item).length)) (prNm l C item before W) (prNm l C item before V):=by
 have hn:(prO l C item 0 before V).names=(prO l C item 0 before W).names:=by
  rw [pr_names (by omega),pr_names (by omega)]
  congr 2
  rw [← hW,List.take_take,Nat.min_eq_left (by omega)]
 refine ⟨?_,fun x y h=>by omega,rfl,rfl⟩
 intro s hs
 obtain ⟨i,h1,h2,h3⟩:=pr_ix (by omega) hs
 have hs':inL (prNm l C item before V).names s=true:=by
  have e:(prNm l C item before V).names=(prNm l C item before W).names:=hn
  rw [e]; exact hs
 obtain ⟨i',g1,g2,g3⟩:=pr_ix (by omega) hs'
 have:i'=i:=by rw [g2,h2,hn]
 subst this
 rw [h3,g3]
 split <;> omega
end
structure PrOk (C L U:Nat) (p:Pr):Prop where
 cp:0≤p.copy∧p.copy≤1000
 few:p.edges.length≤2000∧p.rest.length≤2000∧p.locals.length≤800
 two:2≤p.rest.length
 one:p.rest[1]?=some true
 some:0 < p.edges.length
 ed:∀ e ∈ p.edges,EdR p.rest.length C L (fun x y=>0≤x∧x < (U:Int)) e e
structure PairOk (g:Int) (V:List Vr) (q p:Pr):Prop where
 name:q.name=p.name
 copy:q.copy=p.copy - 1
 rest:q.rest.length=p.rest.length
 loc:q.locals.length=p.locals.length
 ed:∃ ps:List (Ed × Ed),p.edges=ps.map Prod.fst∧q.edges=ps.map Prod.snd∧∀ x ∈ ps,(x.1.var < g→x.2=x.1)∧(g≤x.1.var→x.1 = { x.2 with var:=x.2.var + p.locals.length })
 ls:∀ j:Nat,j < p.locals.length→∃ y:Nat,q.locals[j]?=.some (y:Int)∧p.locals[j]?=.some ((y + p.locals.length:Nat):Int)∧y + p.locals.length < V.length∧V[y]?=V[y + p.locals.length]?
section
variable {l:List Nd} {m:Mo} {item before e:Nat} {number:Int} {V W:List Vr} {C:List Str} {R:Int→Int→Prop}
theorem PrOk.mono {C L U U':Nat} {p:Pr} (h:PrOk C L U p) (hU:U≤U'):PrOk C L U' p :=
 ⟨h.cp,h.few,h.two,h.one,h.some,fun e he=>by
  obtain ⟨g1,g2,g3,g4,g5,g6,g7,g8,g9,g10,g11⟩:=h.ed e he
  exact ⟨g1,g2,g3.imp id (fun h=>by omega),g4,g5,g6,g7,g8,g9,g10,g11⟩⟩
theorem PairOk.mono {g:Int} {q p:Pr} (h:PairOk g V q p) {X:List Vr}:PairOk g (V ++ X) q p:=by
 refine ⟨h.name,h.copy,h.rest,h.loc,h.ed,?_⟩
 intro j hj
 obtain ⟨y,h1,h2,h3,h4⟩:=h.ls j hj
 exact ⟨y,h1,h2,by rw [List.length_append]; omega,by rw [List.getElem?_append_left (by omega),List.getElem?_append_left (by omega)]; exact h4⟩
theorem prc_r (hr:prRightM l=true) (hil:item < l.length) (hk3:(nodeAt l item).kind=3) (hw:walkM l 19 item=(e,true)) {n n':Int}
  (hm:NmR C.length R (prNm l C item before W) (prNm l C item before V)) (hN:NmOk l (prNm l C item before W) (item + 1) e) :
  GoR C.length l.length R ⟨[false,true],[]⟩ ⟨(prO l C item n before W).rest,(prO l C item n before W).edges⟩ ⟨(prO l C item n' before V).rest,(prO l C item n' before V).edges⟩:=by
 have hw':=hw
 unfold walkM at hw'
 have hks:(l.getD item nd0').kids=(nodeAt l item).kids:=rfl
 rw [hks] at hw'
 have ok:∀ i e,i < l.length→walkM l 18 i=(e,true)→i < e∧e≤l.length:=fun i e h1 h2=>by have:=walkM_ok 18 i e h1 h2; exact ⟨this.1,this.2.1⟩
 obtain ⟨s',a1,a2,a3⟩:=walk_drop ok (isVar l) (nodeAt l item).kids (item + 1) e (by omega) hw'
 have hst:=stat_r hr hm 18
 have sq:=seq_r ok hst (node:=(item:Int)) (by omega) ((nodeAt l item).kids.dropWhile (isVar l)) s' e 0 1 ⟨[false,true],[]⟩ ⟨[false,true],[]⟩ a2 a3 (fun k hk=>(shp_of hr hil).prc hk3 k hk) (hN.sub a1 (Nat.le_refl _))
  (by simp [Fr3]) ⟨rfl,by simp,rfl,[],rfl,rfl,by simp⟩
 have d:∀ (X:List Vr) (n:Int),(⟨(prO l C item n before X).rest,(prO l C item n before X).edges⟩:Bs)=seqM (statM l (prNm l C item before X) 18) item ((nodeAt l item).kids.dropWhile (isVar l)) 0 1 ⟨[false,true],[]⟩:=by
  intro X n
  have:=(locM_eq (l:=l) (nodeAt l item).kids ⟨X,[],(gloM X before).1,(gloM X before).2⟩).1
  unfold prO prNm
  simp only [this]
  rfl
 rw [d,d]
 exact sq
theorem prc_few (hr:prRightM l=true) (hil:item < l.length) (hw:walkM l 19 item=(e,true)):(prO l C item number before V).edges.length≤2000∧(prO l C item number before V).rest.length≤2000∧(prO l C item number before V).locals.length≤800:=by
 have h8:=kids_le8 hr hil hw
 have hel:=(walkM_ok 19 item e hil hw).2.1
 have hl8:=(right_facts hr).2.1
 have hw':=hw
 unfold walkM at hw'
 have hks:(l.getD item nd0').kids=(nodeAt l item).kids:=rfl
 rw [hks] at hw'
 have ok:∀ i e,i < l.length→walkM l 18 i=(e,true)→i < e∧e≤l.length:=fun i e h1 h2=>by have:=walkM_ok 18 i e h1 h2; exact ⟨this.1,this.2.1⟩
 obtain ⟨s',a1,a2,a3⟩:=walk_drop ok (isVar l) (nodeAt l item).kids (item + 1) e (by omega) hw'
 have u:=(seq_up (stat_up hr (m:=prNm l C item before V) 18) (node:=(item:Int)) ((nodeAt l item).kids.dropWhile (isVar l)) s' e 0 1 ⟨[false,true],[]⟩ a2 a3).2
 have d:(⟨(prO l C item number before V).rest,(prO l C item number before V).edges⟩:Bs)=seqM (statM l (prNm l C item before V) 18) item ((nodeAt l item).kids.dropWhile (isVar l)) 0 1 ⟨[false,true],[]⟩:=by
  have:=(locM_eq (l:=l) (nodeAt l item).kids ⟨V,[],(gloM V before).1,(gloM V before).2⟩).1
  unfold prO prNm
  simp only [this]
  rfl
 rw [← d] at u
 unfold Up at u
 simp only [List.length_cons,List.length_nil] at u
 have hlc:(prO l C item number before V).locals.length≤800:=by
  rw [pr_locals,List.length_map,List.length_range]
  have:(locN l item).length≤(nodeAt l item).kids.length:=(List.takeWhile_prefix _).length_le
  omega
 split at u <;> exact ⟨by omega,by omega,hlc⟩
theorem prc_ok (hn:0≤number∧number≤1000) (hr:prRightM l=true) (hil:item < l.length) (hk3:(nodeAt l item).kind=3) (hw:walkM l 19 item=(e,true)) (hb:before≤V.length) (hN:NmOk l (prNm l C item before V) (item + 1) e) :
  PrOk C.length l.length (V.length + (locN l item).length) (prO l C item number before V):=by
 obtain ⟨x,h1,h2⟩:=prc_r hr hil hk3 hw (n:=number) (n':=number) (nmR_one hb) hN
 obtain ⟨ps,p1,p2,p3⟩:=x.ed
 simp only at p1 p2 p3 h1
 refine ⟨hn,prc_few hr hil hw,x.two,x.one,by simpa using h1,?_⟩
 intro a ha
 rw [p1,List.mem_map] at ha
 obtain ⟨p,hp,rfl⟩:=ha
 obtain ⟨g1,g2,g3,g4,g5,g6,g7,g8,g9,g10,g11⟩:=p3 p hp
 exact ⟨g1,g2,g3.imp (fun h=>⟨h.1,h.1⟩) id,g4,g5,g6,g7,g8,g9,g10,rfl⟩
theorem prc_pair (hr:prRightM l=true) (hil:item < l.length) (hk3:(nodeAt l item).kind=3) (hw:walkM l 19 item=(e,true)) {g:Nat} (hb:before≤g) (hg:g≤V.length)
  (hN:NmOk l (prNm l C item before (V ++ (locN l item).map (vrK l))) (item + 1) e) :
  PairOk g ((V ++ (locN l item).map (vrK l)) ++ (locN l item).map (vrK l)) (prO l C item number before V) (prO l C item (number + 1) before (V ++ (locN l item).map (vrK l))):=by
 obtain ⟨W,hW⟩:∃ W,W=V ++ (locN l item).map (vrK l):=⟨_,rfl⟩
 have hWl:W.length=V.length + (locN l item).length:=by rw [hW]; simp
 rw [← hW] at hN ⊢
 obtain ⟨x,h1,h2⟩:=prc_r hr hil hk3 hw (n:=number + 1) (n':=number) (nmR_two hb hg (W:=W) (by rw [hW]; simp) hWl) hN
 obtain ⟨ps,p1,p2,p3⟩:=x.ed
 simp only at p1 p2 p3 h1
 have hlp:(prO l C item (number + 1) before W).locals.length=(locN l item).length:=by rw [pr_locals]; simp
 have hlq:(prO l C item number before V).locals.length=(locN l item).length:=by rw [pr_locals]; simp
 refine ⟨rfl,by simp [prO],by have:=x.rest; simp only at this; rw [this],by rw [hlp,hlq],⟨ps,p1,p2,?_⟩,?_⟩
 ·intro y hy
  obtain ⟨g1,g2,g3,g4,g5,g6,g7,g8,g9,g10,g11⟩:=p3 y hy
  rw [hlp]
  refine ⟨fun hlt=>?_,fun hge=>?_⟩
  ·rw [g11]
   have:y.2.var=y.1.var:=by omega
   rw [this]
  ·rw [g11]
   have:y.1.var=y.2.var + (locN l item).length:=by omega
   simp only
   rw [← this]
 ·intro j hj
  rw [hlp] at hj ⊢
  refine ⟨V.length + j,?_,?_,?_,?_⟩
  ·rw [pr_locals,List.getElem?_map,List.getElem?_range hj]; rfl
  ·rw [pr_locals,List.getElem?_map,List.getElem?_range hj,hWl]
   simp only [Option.map_some,Option.some.injEq]
   omega
  ·rw [List.length_append,List.length_map,hWl]; omega
  ·have hj':j < ((locN l item).map (vrK l)).length:=by simpa using hj
   rw [List.getElem?_append_left (by omega),List.getElem?_append_right (by omega),hWl,hW,List.getElem?_append_right (by omega)]
   congr 1
   omega
end
structure ModOk (l:List Nd) (m:Mo):Prop where
 gv:0≤m.globals
 pr:∀ p ∈ m.procs,PrOk m.chans.length l.length m.vars.length p
 pair:∀ (i:Nat) (q p:Pr),m.procs[i]?=some q→m.procs[i + 1]?=some p→p.copy ≠ 0→PairOk m.globals m.vars q p
def Last (l:List Nd) (item before c:Nat) (m:Mo):Prop:=c=0∨∃ V,m.vars=V ++ (locN l item).map (vrK l)∧m.procs.getLast?=some (prO l (m.chans.map Ch.name) item ((c:Int) - 1) before V)∧m.globals≤V.length
section
variable {l:List Nd} {m:Mo} {item before e c:Nat}
theorem modOk_prc (x:ModOk l m) (hc1:c≤1000) (hr:prRightM l=true) (hil:item < l.length) (hk3:(nodeAt l item).kind=3) (hw:walkM l 19 item=(e,true)) {g:Nat} (hg:m.globals=g) (hb:before≤g) (hgl:g≤m.vars.length)
  (hN:NmOk l (prNm l (m.chans.map Ch.name) item before m.vars) (item + 1) e) (hL:Last l item before c m):ModOk l (prcM l m item c before)∧Last l item before (c + 1) (prcM l m item c before):=by
 rw [prcM_eq]
 have hlen:(m.vars ++ (locN l item).map (vrK l)).length=m.vars.length + (locN l item).length:=by simp
 refine ⟨⟨x.gv,?_,?_⟩,.inr ⟨m.vars,rfl,by simp,by simp only [hg]; omega⟩⟩
 ·intro p hp
  simp only at hp ⊢
  rw [List.mem_append,List.mem_singleton] at hp
  rw [hlen]
  rcases hp with hp | rfl
  ·exact (x.pr p hp).mono (by omega)
  ·have:=prc_ok (number:=(c:Int)) (by omega) hr hil hk3 hw (by omega) hN
   rw [List.length_map] at this
   exact this
 ·intro i q p hq hp hc
  simp only at hq hp ⊢
  by_cases hi:i + 1 < m.procs.length
  ·rw [List.getElem?_append_left (by omega)] at hq
   rw [List.getElem?_append_left hi] at hp
   exact (x.pair i q p hq hp hc).mono
  ·have hi2:i + 1=m.procs.length:=by
    have:=(List.getElem?_eq_some_iff.1 hp).1
    rw [List.length_append,List.length_singleton] at this
    omega
   rw [List.getElem?_append_left (by omega)] at hq
   rw [List.getElem?_append_right (by omega),hi2,Nat.sub_self,gZ,Option.some.injEq] at hp
   subst hp
   have hc0:c ≠ 0:=by intro h; apply hc; simp [prO,h]
   rcases hL with h | ⟨V,h1,h2,h3⟩
   ·exact absurd h hc0
   ·rw [List.getLast?_eq_getElem?,show m.procs.length - 1=i by omega,hq,Option.some.injEq] at h2
    rw [hg] at h3
    rw [h1] at hN
    have:=prc_pair (number:=(c:Int) - 1) (V:=V) (g:=g) hr hil hk3 hw hb (by omega) hN
    rw [← h1,← h2,Int.sub_add_cancel] at this
    rw [hg]
    exact this
theorem modOk_prcs {g:Nat} {pre post:List Int} (hr:prRightM l=true) (hs:scopeM l=⟨0,0⟩) (hK:(nodeAt l 0).kids=pre ++ (item:Int) :: post) (hil:item < l.length) (hk3:(nodeAt l item).kind=3) (hw:walkM l 19 item=(e,true)) (hpost:∀ k ∈ post,(e:Int)≤k)
  (hgv:g=((nodeAt l 0).kids.filter (isVar l)).length) (h8:(nodeAt l item).kids.length≤800):∀ (n:Nat) (m:Mo),n≤1000→MoI l pre before 0 m→m.globals=g→ModOk l m →
  MoI l pre before n (prcsM l item before n m)∧(prcsM l item before n m).globals=g∧ModOk l (prcsM l item before n m)∧Last l item before n (prcsM l item before n m)
 | 0,m,hn,x,hg,y=>⟨x,hg,y,.inl rfl⟩
 | n + 1,m,hn,x,hg,y=>by
  obtain ⟨x1,g1,y1,z1⟩:=modOk_prcs hr hs hK hil hk3 hw hpost hgv h8 n m (by omega) x hg y
  rw [prcsM]
  obtain ⟨M,hM⟩:∃ M,M=prcsM l item before n m:=⟨_,rfl⟩
  rw [← hM] at x1 g1 y1 z1 ⊢
  obtain ⟨hb,-⟩:=moi_bef x1 hr hK
  have hbg:before≤g:=by
   rw [hgv,hK,List.filter_append,List.length_append,x1.bf]; omega
  have hgl:g≤M.vars.length:=by
   obtain ⟨⟨r,vs⟩,-⟩:=x1
   rw [vs,hgv]; simp
  have hN:=moi_names x1 hr hs hK hil hk3 hw hpost (prO l (M.chans.map Ch.name) item 0 before M.vars).vars
  obtain ⟨a,b⟩:=modOk_prc y1 (by omega) hr hil hk3 hw g1 hbg hgl hN z1
  exact ⟨moi_prc x1 h8,by rw [prcM_eq]; exact g1,a,b⟩
theorem modOk_items {g:Nat} (h0:typM l=⟨0,0⟩) (hgv:g=((nodeAt l 0).kids.filter (isVar l)).length):∀ (post pre:List Int) (before:Nat) (m:Mo),(nodeAt l 0).kids=pre ++ post→MoI l pre before 0 m→m.globals=g→ModOk l m→ModOk l (itemsM l post before m)∧(itemsM l post before m).procs.length≤4000∧(itemsM l post before m).vars.length≤3000000
 | [],pre,before,m,hK,x,hg,y=>by
  have h8:=top_len (n0_le4 h0).1
  rw [hK,List.append_nil] at h8
  have:=x.pl
  have:=x.vl
  exact ⟨y,by simp only [itemsM]; omega,by simp only [itemsM]; omega⟩
 | k :: ks,pre,before,m,hK,x,hg,y=>by
  obtain ⟨hr,hs,hn4⟩:=n0_le4 h0
  obtain ⟨item,e,rfl,hil,hw,hpost⟩:=item_walk hr hK
  have hK':(nodeAt l 0).kids=(pre ++ [(item:Int)]) ++ ks:=by rw [hK]; simp
  have h8:=kids_le8 hr hil hw
  have nx:=fun {c:Nat} {M:Mo} (x:MoI l pre before c M) (hc:c≤4)=>moi_next (k:=(item:Int)) x hc
  unfold itemsM
  simp only [Int.toNat_natCast]
  by_cases h2:(nodeAt l item).kind=2
  ·rw [if_pos h2]
   have hv:isVar l (item:Int)=true:=by simp [isVar,h2]
   have:=nx x (by omega)
   rw [if_pos hv] at this
   exact modOk_items h0 hgv ks _ _ m hK' this hg y
  rw [if_neg h2]
  have hv:¬ isVar l (item:Int)=true:=by simp [isVar,h2]
  by_cases h3:(nodeAt l item).kind=3
  ·rw [if_pos h3]
   have h4:=hn4 item hil h3
   obtain ⟨x1,g1,y1,-⟩:=modOk_prcs hr hs hK hil h3 hw hpost hgv h8 (n0 (nodeAt l item)).toNat m (by omega) x hg y
   have:=nx x1 (by omega)
   rw [if_neg hv] at this
   exact modOk_items h0 hgv ks _ _ _ hK' this g1 y1
  ·rw [if_neg h3]
   have:=nx x (by omega)
   rw [if_neg hv] at this
   exact modOk_items h0 hgv ks _ _ m hK' this hg y
theorem modOk (h0:typM l=⟨0,0⟩):ModOk l (modM l)∧(modM l).procs.length≤4000∧(modM l).vars.length≤3000000:=by
 obtain ⟨hr,hs,hn4⟩:=n0_le4 h0
 obtain ⟨a,b,d⟩:=dcl_facts (nodeAt l 0).kids mo0 (l:=l)
 have hp:(dclsM l (nodeAt l 0).kids).procs = []:=by
  show (dclsM l _).procs=_
  unfold dclsM; rw [d]; rfl
 have hv:(dclsM l (nodeAt l 0).kids).vars.length=((nodeAt l 0).kids.filter (isVar l)).length:=by
  unfold dclsM; rw [a]; simp [mo0]
 unfold modM
 refine modOk_items h0 rfl (nodeAt l 0).kids [] 0 _ (by simp) (moi_0 hr) (by simp only [hv]) ⟨by simp only; omega,?_,?_⟩
 ·intro p h; simp only [hp] at h; simp at h
 ·intro i q p h; simp only [hp] at h; simp at h
end
end Go.Proofs.YtmihefbdghjeoaaGreat
