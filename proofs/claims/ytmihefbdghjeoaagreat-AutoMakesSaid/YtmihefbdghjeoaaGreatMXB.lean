/- Texts of this proof, put together: AutA, AutB, AutC, AutD, AutE, AutF, AutG, AutH. The conditions of each theorem stand in it. -/
import Derived.Test.YtmihefbdghjeoaaGreatMXA
import Derived.Test.YtmihefbdghjeoaaGreatMX6
set_option linter.unusedSimpArgs false
set_option linter.unusedVariables false
namespace Go.Proofs.YtmihefbdghjeoaaGreat
open Go.HL
set_option maxRecDepth 10000
structure Ed where
 from':Int
 to':Int
 do':Int
 expr:Int
 var:Int
 chan:Int
 keep:Bool
 node:Int
structure Bs where
 rest:List Bool
 edges:List Ed
structure Nm where
 names:List Str
 vars:List Int
 chans:List Str
def Nm.var (m:Nm) (s:Str):Int:=m.vars.getD (m.names.findIdx (· == s)) 0
def Nm.chan (m:Nm) (s:Str):Int:=(m.chans.findIdx (· == s):Nat)
def plM (b:Bs):Bs:={ b with rest:=b.rest ++ [false] }
def putM (b:Bs) (e:Ed):Bs:={ b with edges:=b.edges ++ [e] }
def idlM (b:Bs) (at' idle:Int):Bs:=if idle=0 then b else { b with rest:=b.rest.set at'.toNat true }
def k0 (n:Nd):Int:=n.kids.getD 0 0
def k1 (n:Nd):Int:=n.kids.getD 1 0
def k2 (n:Nd):Int:=n.kids.getD 2 0
abbrev StF:=Nat→Int→Int→Bs→Bs
def seqM (st:StF) (node:Int):List Int→Int→Int→Bs→Bs
 | [],from',to',b=>putM b ⟨from',to',0,-1,-1,-1,false,node⟩
 | k :: ks,from',to',b=>match ks with
  | []=>st k.toNat from' to' b
  | _ :: _=>seqM st node ks b.rest.length to' (st k.toNat from' b.rest.length (plM b))
def blkM (l:List Nd) (st:StF) (k:Int) (from' to':Int) (b:Bs):Bs:=seqM st k (nodeAt l k.toNat).kids from' to' b
def loopK (l:List Nd) (k:Int):Bool:=decide (0 < (nodeAt l k.toNat).kids.length) && decide ((nodeAt l (k0 (nodeAt l k.toNat)).toNat).kind=12)
def choM (l:List Nd) (st:StF):List Int→Int→Int→Bs→Bs
 | [],_,_,b=>b
 | k :: ks,from',to',b =>
  if loopK l k then choM l st ks from' to' (blkM l st k b.rest.length to' (putM (plM b) ⟨from',b.rest.length,0,-1,-1,-1,false,k⟩))
  else choM l st ks from' to' (blkM l st k from' to' b)
def keepE (to':Int) (e:Ed):Ed:={ e with keep:=!decide (e.to'=to') && !decide (e.to'=1) }
def kepM (m:Nat) (to':Int) (b:Bs):Bs:={ b with edges:=b.edges.take m ++ (b.edges.drop m).map (keepE to') }
def stepA (l:List Nd) (m:Nm) (st:StF):StF:=fun i from' to' b =>
 let n:=nodeAt l i
 if n.kind=6 then putM b ⟨from',to',1,k0 n,m.var (w0 n),-1,false,i⟩
 else if n.kind=7 then putM b ⟨from',to',2,k0 n,-1,m.chan (w0 n),false,i⟩
 else if n.kind=8 then putM (idlM b from' (n0 n)) ⟨from',to',3,-1,m.var (w1 n),m.chan (w0 n),false,i⟩
 else if n.kind=9 then putM (idlM b from' (n0 n)) ⟨from',to',4,k0 n,-1,-1,false,i⟩
 else if n.kind=10 then choM l st n.kids from' to' (idlM b from' (n0 n))
 else if n.kind=11 then
  let b1:=blkM l st (k1 n) b.rest.length to' (putM (plM b) ⟨from',b.rest.length,4,k0 n,-1,-1,false,i⟩)
  if n.kids.length < 3 then putM b1 ⟨from',to',5,k0 n,-1,-1,false,i⟩
  else blkM l st (k2 n) b1.rest.length to' (putM (plM b1) ⟨from',b1.rest.length,5,k0 n,-1,-1,false,i⟩)
 else if n.kind=12 then
  blkM l st (k1 n) b.rest.length from' (putM (putM (plM b) ⟨from',b.rest.length,4,k0 n,-1,-1,false,i⟩) ⟨from',to',5,k0 n,-1,-1,false,i⟩)
 else if n.kind=13 then kepM b.edges.length to' (blkM l st (k0 n) from' to' b)
 else if n.kind=15 then putM b ⟨from',1,0,-1,-1,-1,false,i⟩
 else putM b ⟨from',to',0,-1,-1,-1,false,i⟩
def statM (l:List Nd) (m:Nm):Nat→StF
 | 0=>fun _ _ _ b=>b
 | 1=>stepA l m (fun _ _ _ b=>b)
 | d + 2=>stepA l m (statM l m d)
theorem kid_at {l:List Int} {i:Nat} (h:i < l.length):l.getD i 0 ∈ l:=List.mem_of_getElem? (getD_some h)
structure Shp (l:List Nd) (n:Nd):Prop where
 one:n.kind=6∨n.kind=7∨n.kind=9→0 < n.kids.length
 cho:n.kind=10→∀ k ∈ n.kids,(nodeAt l k.toNat).kind=16
 iff:n.kind=11→(n.kids.length=2∨n.kids.length=3)∧(nodeAt l (k1 n).toNat).kind=16∧(n.kids.length=3→(nodeAt l (k2 n).toNat).kind=16)
 whl:n.kind=12→n.kids.length=2∧(nodeAt l (k1 n).toNat).kind=16
 ato:n.kind=13→n.kids.length=1∧(nodeAt l (k0 n).toNat).kind=16
 blk:n.kind=16→∀ k ∈ n.kids,6≤(nodeAt l k.toNat).kind∧(nodeAt l k.toNat).kind≤15
 prc:n.kind=3→∀ k ∈ n.kids.dropWhile (fun k=>decide ((nodeAt l k.toNat).kind=2)),6≤(nodeAt l k.toNat).kind∧(nodeAt l k.toNat).kind≤15
theorem sort_2 {k:Int} (h:sortM k=2):6≤k∧k≤15:=by
 have:=sort2 k
 rw [decide_eq_true h] at this
 unfold inB at this
 simpa using this.symm
theorem sort_4 {k:Int} (h:sortM k=4):k=16:=by
 have:=sort4 k
 rw [decide_eq_true h] at this
 simpa using this.symm
theorem dropWhile_map' {α β:Type} {f:α→β} {p:β→Bool}:∀ (l:List α),(l.map f).dropWhile p=(l.dropWhile (fun x=>p (f x))).map f
 | []=>rfl
 | a :: l=>by
  rw [List.map_cons,List.dropWhile_cons,List.dropWhile_cons]
  split
  ·exact dropWhile_map' l
  ·rfl
theorem shp_of {l:List Nd} (h:prRightM l=true) {i:Nat} (hi:i < l.length):Shp l (nodeAt l i):=by
 have hn:=(tre_of h).node i hi
 generalize nodeAt l i=n at *
 unfold nodeP at hn
 simp only [Bool.and_eq_true] at hn
 have hks:=hn.2.2
 have hget:∀ j,j < n.kids.length→(n.kids.map (knd l)).getD j 0=(nodeAt l (n.kids.getD j 0).toNat).kind:=by
  intro j hj
  rw [List.getD_eq_getElem?_getD,List.getElem?_map,getD_some (d:=(0:Int)) hj]; rfl
 have hlen:(n.kids.map (knd l)).length=n.kids.length:=List.length_map ..
 have hall:∀ s,pAllM (n.kids.map (knd l)) s=true→∀ k ∈ n.kids,sortM (nodeAt l k.toNat).kind=s:=by
  intro s hs k hk
  obtain ⟨j,hj⟩:=List.getElem?_of_mem hk
  have hjl:=(List.getElem?_eq_some_iff.1 hj).1
  unfold pAllM at hs
  rw [allR_iff] at hs
  have:=hs j (by omega)
  rw [hget j hjl,List.getD_eq_getElem?_getD,hj] at this
  simpa using this
 have hare:∀ ss,areM (n.kids.map (knd l)) ss=true→n.kids.length=ss.length∧∀ j,j < ss.length→sortM (nodeAt l (n.kids.getD j 0).toNat).kind=ss.getD j 0:=by
  intro ss hs
  unfold areM at hs
  rw [Bool.and_eq_true,allR_iff,decide_eq_true_eq,hlen] at hs
  refine ⟨hs.1,fun j hj=>?_⟩
  have:=hs.2 j hj
  rw [hget j (by omega)] at this
  simpa using this
 unfold kidsM at hks
 constructor
 ·intro hk
  have e:areM (n.kids.map (knd l)) [3]=true:=by
   rw [if_neg (by omega),if_neg (by omega),if_neg (by omega),if_neg (by omega),if_neg (by omega),if_neg (by omega),if_neg (by omega),if_pos (by omega)] at hks; exact hks
  have:=(hare _ e).1; simp at this; omega
 ·intro hk
  rw [if_neg (by omega),if_neg (by omega),if_neg (by omega),if_pos hk,Bool.and_eq_true] at hks
  exact fun k hm=>sort_4 (hall _ hks.2 k hm)
 ·intro hk
  rw [if_neg (by omega),if_neg (by omega),if_neg (by omega),if_neg (by omega),if_pos hk,Bool.or_eq_true] at hks
  rcases hks with e | e
  ·obtain ⟨a,b⟩:=hare _ e
   simp only [List.length_cons,List.length_nil] at a b
   exact ⟨.inl a,sort_4 (b 1 (by omega)),fun e=>by omega⟩
  ·obtain ⟨a,b⟩:=hare _ e
   simp only [List.length_cons,List.length_nil] at a b
   exact ⟨.inr a,sort_4 (b 1 (by omega)),fun _=>sort_4 (b 2 (by omega))⟩
 ·intro hk
  rw [if_neg (by omega),if_neg (by omega),if_neg (by omega),if_neg (by omega),if_neg (by omega),if_pos hk] at hks
  obtain ⟨a,b⟩:=hare _ hks
  simp only [List.length_cons,List.length_nil] at a b
  exact ⟨a,sort_4 (b 1 (by omega))⟩
 ·intro hk
  rw [if_neg (by omega),if_neg (by omega),if_neg (by omega),if_neg (by omega),if_neg (by omega),if_neg (by omega),if_pos hk] at hks
  obtain ⟨a,b⟩:=hare _ hks
  simp only [List.length_cons,List.length_nil] at a b
  exact ⟨a,sort_4 (b 0 (by omega))⟩
 ·intro hk
  rw [if_neg (by omega),if_neg (by omega),if_pos hk] at hks
  exact fun k hm=>sort_2 (hall _ hks k hm)
 ·intro hk
  rw [if_neg (by omega),if_pos hk,dropWhile_map'] at hks
  intro k hm
  have e:(n.kids.dropWhile fun x=>decide (knd l x=2))=n.kids.dropWhile (fun k=>decide ((nodeAt l k.toNat).kind=2)):=rfl
  rw [e] at hks
  generalize n.kids.dropWhile (fun k=>decide ((nodeAt l k.toNat).kind=2))=ks at *
  obtain ⟨j,hj⟩:=List.getElem?_of_mem hm
  have hjl:=(List.getElem?_eq_some_iff.1 hj).1
  unfold pAllM at hks
  rw [allR_iff] at hks
  have:=hks j (by rw [List.length_map]; omega)
  rw [List.getD_eq_getElem?_getD,List.getElem?_map,hj] at this
  simp only [Option.map_some,Option.getD_some,decide_eq_true_eq] at this
  exact sort_2 this
def Up (c:Nat) (b b':Bs):Prop:=b.rest.length≤b'.rest.length∧b'.rest.length≤b.rest.length + c∧b.edges.length≤b'.edges.length∧b'.edges.length≤b.edges.length + c
theorem Up.refl {b:Bs}:Up 0 b b:=⟨by omega,by omega,by omega,by omega⟩
theorem Up.trans {c d:Nat} {b b1 b2:Bs} (h:Up c b b1) (h':Up d b1 b2):Up (c + d) b b2:=by unfold Up at *; omega
theorem Up.mono {c d:Nat} {b b':Bs} (h:Up c b b') (hc:c≤d):Up d b b':=by unfold Up at *; omega
theorem up_put {b:Bs} {e:Ed}:Up 1 b (putM b e):=by unfold Up putM; simp
theorem up_pl {b:Bs}:Up 1 b (plM b):=by unfold Up plM; simp
theorem up_plput {b:Bs} {e:Ed}:Up 1 b (putM (plM b) e):=by unfold Up plM putM; simp
theorem up_idl {b:Bs} {x y:Int}:Up 0 b (idlM b x y):=by unfold Up idlM; split <;> simp
theorem up_kep {b:Bs} {k:Nat} {x:Int} (h:k≤b.edges.length):Up 0 b (kepM k x b):=by unfold Up kepM; simp; omega
def StUp (l:List Nd) (w:Nat→Nat × Bool) (st:StF):Prop:=∀ i e from' to' b,i < l.length→w i=(e,true)→i < e∧e≤l.length∧Up (2 * (e - i) - 1) b (st i from' to' b)
theorem seq_up {l:List Nd} {w:Nat→Nat × Bool} {st:StF} (h:StUp l w st) {node:Int}:∀ (ks:List Int) (i e:Nat) (from' to':Int) (b:Bs),i≤l.length→walkK l w ks i=(e,true) →
  i≤e∧Up (if ks.length=0 then 1 else 2 * (e - i) - 1) b (seqM st node ks from' to' b)
 | [],i,e,from',to',b,hi,hw=>by
  simp [walkK] at hw
  exact ⟨by omega,by simpa [seqM] using up_put⟩
 | [k],i,e,from',to',b,hi,hw=>by
  unfold walkK at hw
  split at hw
  ·rename_i hcd
   split at hw
   ·rename_i hok
    simp [walkK] at hw
    have hki:k.toNat=i:=by rw [hcd.1]; simp
    obtain ⟨a1,a2,a3⟩:=h i (w i).1 from' to' b hcd.2 (by rw [← hok])
    refine ⟨by omega,?_⟩
    simp only [seqM,hki,List.length_singleton]
    rw [if_neg (by omega),← hw]
    exact a3
   ·simp at hw
  ·simp at hw
 | k :: k' :: ks,i,e,from',to',b,hi,hw=>by
  unfold walkK at hw
  split at hw
  ·rename_i hcd
   split at hw
   ·rename_i hok
    have hki:k.toNat=i:=by rw [hcd.1]; simp
    obtain ⟨a1,a2,a3⟩:=h i (w i).1 from' b.rest.length (plM b) hcd.2 (by rw [← hok])
    have ih:=seq_up h (node:=node) (k' :: ks) (w i).1 e b.rest.length to' (st i from' b.rest.length (plM b)) a2 hw
    have hge:(w i).1 < e:=by
     have hw2:=hw
     unfold walkK at hw2
     split at hw2
     ·rename_i hcd2
      split at hw2
      ·rename_i hok2
       have:=(h (w i).1 (w (w i).1).1 0 0 b hcd2.2 (by rw [← hok2]))
       have:=(walkK_ok (l:=l) (ih:=w) (Q:=fun _=>True) (fun i e h1 h2=>by have:=h i e 0 0 b h1 h2; exact ⟨this.1,this.2.1,fun _ _ _=>trivial⟩) ks _ e this.2.1 hw2).1
       omega
      ·simp at hw2
     ·simp at hw2
    refine ⟨by omega,?_⟩
    have e1:seqM st node (k :: k' :: ks) from' to' b=seqM st node (k' :: ks) b.rest.length to' (st i from' b.rest.length (plM b)):=by
     rw [← hki]; simp only [seqM]
    rw [e1]
    simp only [List.length_cons] at ih ⊢
    rw [if_neg (by omega)] at ih ⊢
    refine Up.mono ((up_pl.trans a3).trans ih.2) (by omega)
   ·simp at hw
  ·simp at hw
theorem blk_up {l:List Nd} {d:Nat} {st:StF} (h:StUp l (walkM l d) st) {k:Nat} {e:Nat} {from' to':Int} {b:Bs} (hk:k < l.length) (hw:walkM l (d + 1) k=(e,true)):k < e∧Up (2 * (e - k) - 1) b (blkM l st k from' to' b):=by
 have hlt:=(walkM_ok (d + 1) k e hk hw).1
 unfold walkM at hw
 have:=seq_up h (node:=(k:Int)) (l.getD k nd0').kids (k + 1) e from' to' b (by omega) hw
 refine ⟨hlt,?_⟩
 unfold blkM
 simp only [Int.toNat_natCast]
 refine Up.mono this.2 ?_
 split <;> omega
theorem walkK_first {l:List Nd} {w:Nat→Nat × Bool} {k:Int} {ks:List Int} {i e:Nat} (hw:walkK l w (k :: ks) i=(e,true)):k=i∧i < l.length∧(w i).2=true∧walkK l w ks (w i).1=(e,true):=by
 unfold walkK at hw
 split at hw
 ·rename_i hcd
  split at hw
  ·rename_i hok
   exact ⟨hcd.1,hcd.2,hok,hw⟩
  ·simp at hw
 ·simp at hw
end Go.Proofs.YtmihefbdghjeoaaGreat
namespace Go.Proofs.YtmihefbdghjeoaaGreat
open Go.HL
set_option maxRecDepth 10000
structure Ch where
 name:Str
 room:Int
 width:Int
 lossy:Bool
 copying:Bool
def chC (c:Ch):List Value:=[sv c.name,iv c.room,iv c.width,.bool c.lossy,.bool c.copying]
theorem chL (c:Ch):(chC c).length=5:=rfl
def edC (e:Ed):List Value:=[iv e.from',iv e.to',iv e.do',iv e.expr,iv e.var,iv e.chan,.bool e.keep,iv e.node]
theorem edL (e:Ed):(edC e).length=8:=rfl
structure AE where
 l:List Nd
 m:Nm
 cs:List Ch
 S:Nat→Prop
 bb:Nat
 nameV:Value
 copyV:Value
 locV:Value
 nmV:Value
 vsV:Value
 tv:Value
 chV:Value
def AE.Sp (E:AE) (x:Nat):Prop:=E.S x
structure FS (S:Nat→Prop) (H H':Heap):Prop where
 size:H.size≤H'.size
 same:∀ b,b < H.size→S b→H'[b]?=H[b]?
section
variable {S S':Nat→Prop} {H H' H2 H3:Heap}
theorem FS.refl:FS S H H:=⟨Nat.le_refl _,fun _ _ _=>rfl⟩
theorem FS.trans (h:FS S H H2) (h':FS S H2 H3):FS S H H3:=⟨Nat.le_trans h.size h'.size,fun b h1 h2=>(h'.same b (Nat.lt_of_lt_of_le h1 h.size) h2).trans (h.same b h1 h2)⟩
theorem FS.of {F:List Nat} (h:Fr F H H') (hF:∀ b ∈ F,¬ S b):FS S H H':=⟨h.size,fun b h1 h2=>h.same b h1 (fun e=>hF b e h2)⟩
theorem FS.sub (h:FS S H H') (hs:∀ b,S' b→S b):FS S' H H':=⟨h.size,fun b h1 h2=>h.same b h1 (hs b h2)⟩
theorem FS.blk (h:FS S H H') {b t:Nat} {vs:List Value} (hb:Blk H b t vs) (h1:S b):Blk H' b t vs:=by
 unfold Blk; rw [h.same b hb.lt h1]; exact hb
end
def bC (E:AE) (n:Int) (rv ev:Value):List Value:=[E.nameV,E.copyV,E.locV,iv n,rv,ev,E.nmV,E.vsV,E.tv,E.chV]
structure Sta (H:Heap) (E:AE):Prop where
 nl:NL H E.Sp E.tv E.l
 nm:Rd H E.Sp 1 E.nmV (E.m.names.map sv)
 vs:Rd H E.Sp 1 E.vsV (E.m.vars.map iv)
 ch:Rd H E.Sp 5 E.chV (E.cs.flatMap chC)
 hc:E.m.chans=E.cs.map Ch.name
 hv:E.m.vars.length=E.m.names.length
 ln:E.m.names.length≤1000000
 lc:E.cs.length≤1000000
 low:¬ E.S E.bb
 sz:∀ x,E.S x→x < H.size
structure BM (H:Heap) (E:AE) (rv ev:Value) (b:Bs):Prop where
 box:Blk H E.bb 82 (bC E b.rest.length rv ev)
 vr:Vec H 4 1 rv (b.rest.map .bool)
 or':∀ x ∈ own rv,¬ E.S x∧x ≠ E.bb
 ve:Vec H 45 8 ev (b.edges.flatMap edC)
 oe:∀ x ∈ own ev,¬ E.S x∧x ≠ E.bb
 dre:∀ x ∈ own rv,x ∉ own ev
 st:Sta H E
def BQ (E:AE) (b:Bs) (H H':Heap):Prop:=FS E.S H H'∧∃ rv ev,BM H' E rv ev b
section
variable {H H':Heap} {E:AE} {rv ev v':Value} {b:Bs}
theorem Sta.frame (h:Sta H E) (q:FS E.S H H'):Sta H' E:=by
 have k:Keeps E.Sp H H':=fun x hx hl=>q.same x hl hx
 have:=q.size
 exact ⟨h.nl.frame k,h.nm.frame k,h.vs.frame k,h.ch.frame k,h.hc,h.hv,h.ln,h.lc,h.low,fun x hx=>by have:=h.sz x hx; omega⟩
theorem BM.grow (x:BM H E rv ev b) (q:Fr [] H H'):BM H' E rv ev b :=
 ⟨q.blk x.box (by simp),x.vr.frame q (by simp),x.or',x.ve.frame q (by simp),x.oe,x.dre,x.st.frame (FS.of q (by simp))⟩
theorem BM.forms (x:BM H E rv ev b):∃ a1 c1 a2 c2,rv=.slice a1 b.rest.length c1∧ev=.slice a2 b.edges.length c2:=by
 obtain ⟨a1,n1,c1,rfl,h1⟩:=x.vr.len
 obtain ⟨a2,n2,c2,rfl,h2⟩:=x.ve.len
 rw [flat_len edL] at h2
 simp only [List.length_map,Nat.mul_one] at h1
 have h2':n2=b.edges.length:=by omega
 subst h1 h2'
 exact ⟨a1,c1,a2,c2,rfl,rfl⟩
theorem BM.ne (x:BM H E rv ev b):E.bb ∉ own rv∧E.bb ∉ own ev:=by
 exact ⟨fun e=>(x.or' _ e).2 rfl,fun e=>(x.oe _ e).2 rfl⟩
theorem BM.place (x:BM H E rv ev b) (g1:Vec H' 4 1 v' ((b.rest.map .bool) ++ [.bool false])) (g2:Fr (own rv) H H') (g3:∀ y ∈ own v',y ∈ own rv∨H.size≤y) :
  wr H' ⟨E.bb,4,none⟩ v'=some (setH H' ⟨E.bb,4,none⟩ v')∧cellH (setH H' ⟨E.bb,4,none⟩ v') ⟨E.bb,3,none⟩=some (iv b.rest.length) ∧
  wr (setH H' ⟨E.bb,4,none⟩ v') ⟨E.bb,3,none⟩ (iv ((plM b).rest.length))=some (setH (setH H' ⟨E.bb,4,none⟩ v') ⟨E.bb,3,none⟩ (iv ((plM b).rest.length))) ∧
  BM (setH (setH H' ⟨E.bb,4,none⟩ v') ⟨E.bb,3,none⟩ (iv ((plM b).rest.length))) E v' ev (plM b)∧FS E.S H (setH (setH H' ⟨E.bb,4,none⟩ v') ⟨E.bb,3,none⟩ (iv ((plM b).rest.length))):=by
 have hs:=x.st.sz
 have hlow:=x.st.low
 have hbl:=x.box.lt
 have ho:∀ y ∈ own v',¬ E.S y∧y ≠ E.bb:=fun y hy=>(g3 y hy).elim (x.or' y) (fun h=>⟨fun e=>by have:=hs y e; omega,by omega⟩)
 have box1:=g2.blk x.box x.ne.1
 have w1:=box1.wr (i:=4) (by simp [bC]) v'
 have box2:=box1.set 4 v'
 have c3:=box2.cell 3
 have w2:=box2.wr (i:=3) (by simp [bC]) (iv ((plM b).rest.length))
 have box3:=box2.set 3 (iv ((plM b).rest.length))
 obtain ⟨X1,hX1⟩:∃ X,X=setH H' ⟨E.bb,4,none⟩ v':=⟨_,rfl⟩
 obtain ⟨X2,hX2⟩:∃ X,X=setH X1 ⟨E.bb,3,none⟩ (iv ((plM b).rest.length)):=⟨_,rfl⟩
 have q1:Fr [E.bb] H' X1:=by rw [hX1]; exact Fr.set (by simp)
 have q2:Fr [E.bb] X1 X2:=by rw [hX2]; exact Fr.set (by simp)
 have q12:=q1.trans q2
 rw [← hX1] at w1 c3 w2 box3
 rw [← hX2] at w2 box3
 rw [← hX1,← hX2]
 have qn:FS E.S H X2:=(FS.of g2 (fun y hy=>(x.or' y hy).1)).trans (FS.of q12 (by simpa using hlow))
 refine ⟨w1,by simpa [bC] using c3,w2,⟨by simpa [bC,plM] using box3,?_,ho,?_,x.oe,?_,x.st.frame qn⟩,qn⟩
 ·have:=g1.frame q12 (fun y hy=>by simpa using (ho y hy).2)
  simpa [plM] using this
 ·exact (x.ve.frame g2 (fun y hy e=>x.dre y e hy)).frame q12 (fun y hy=>by simpa using (x.oe y hy).2)
 ·intro y hy he
  rcases g3 y hy with h | h
  ·exact x.dre y h he
  ·have:=x.ve.lt y he; omega
theorem BM.put (x:BM H E rv ev b) {e:Ed} (g1:Vec H' 45 8 v' ((b.edges.flatMap edC) ++ edC e)) (g2:Fr (own ev) H H') (g3:∀ y ∈ own v',y ∈ own ev∨H.size≤y) :
  wr H' ⟨E.bb,5,none⟩ v'=some (setH H' ⟨E.bb,5,none⟩ v')∧BM (setH H' ⟨E.bb,5,none⟩ v') E rv v' (putM b e)∧FS E.S H (setH H' ⟨E.bb,5,none⟩ v'):=by
 have hs:=x.st.sz
 have hbl:=x.box.lt
 have hlow:=x.st.low
 have ho:∀ y ∈ own v',¬ E.S y∧y ≠ E.bb:=fun y hy=>(g3 y hy).elim (x.oe y) (fun h=>⟨fun e=>by have:=hs y e; omega,by omega⟩)
 have box1:=g2.blk x.box x.ne.2
 have w1:=box1.wr (i:=5) (by simp [bC]) v'
 have box2:=box1.set 5 v'
 obtain ⟨X1,hX1⟩:∃ X,X=setH H' ⟨E.bb,5,none⟩ v':=⟨_,rfl⟩
 have q1:Fr [E.bb] H' X1:=by rw [hX1]; exact Fr.set (by simp)
 rw [← hX1] at w1 box2
 rw [← hX1]
 have qn:FS E.S H X1:=(FS.of g2 (fun y hy=>(x.oe y hy).1)).trans (FS.of q1 (by simpa using hlow))
 refine ⟨w1,⟨by simpa [bC,putM] using box2,?_,x.or',?_,ho,?_,x.st.frame qn⟩,qn⟩
 ·exact (x.vr.frame g2 (fun y hy e=>x.dre y hy e)).frame q1 (fun y hy=>by simpa using (x.or' y hy).2)
 ·have:=g1.frame q1 (fun y hy=>by simpa using (ho y hy).2)
  simpa [putM] using this
 ·intro y hy he
  rcases g3 y he with h | h
  ·exact x.dre y hy h
  ·have:=x.vr.lt y hy; omega
theorem BM.idle (x:BM H E rv ev b) {i:Nat} (hi:i < b.rest.length) :
  ∃ a o c,rv=.slice (some ⟨a,o,none⟩) b.rest.length c∧wr H ⟨a,o + i,none⟩ (.bool true)=some (setH H ⟨a,o + i,none⟩ (.bool true)) ∧
   BM (setH H ⟨a,o + i,none⟩ (.bool true)) E rv ev { b with rest:=b.rest.set i true }∧FS E.S H (setH H ⟨a,o + i,none⟩ (.bool true)):=by
 obtain ⟨a,o,c,h1,h2,h3,_⟩:=x.vr.put1 (i:=i) (by simpa using hi) (.bool true)
 simp only [List.length_map] at h1
 have ha:=x.or' a (by rw [h1]; simp [own])
 have hlow:=x.st.low
 have q:Fr [a] H (setH H ⟨a,o + i,none⟩ (.bool true)):=Fr.set (by simp)
 have qn:FS E.S H (setH H ⟨a,o + i,none⟩ (.bool true)):=FS.of q (by simpa using ha.1)
 refine ⟨a,o,c,h1,h2,⟨by simpa using q.blk x.box (by simpa using Ne.symm ha.2),?_,x.or',?_,x.oe,x.dre,x.st.frame qn⟩,qn⟩
 ·simpa [List.map_set] using h3
 ·exact x.ve.frame q (fun y hy e=>by
   simp at e; subst e
   exact x.dre y (by rw [h1]; simp [own]) hy)
theorem flat_set {α:Type} {f:α→List Value} {z:Nat} (hf:∀ x,(f x).length=z) {j:Nat} {u:Value}:∀ (l:List α) (i:Nat) (a c:α),j < z→l[i]?=some a→f c=(f a).set j u→(l.flatMap f).set (i * z + j) u=(l.set i c).flatMap f
 | [],i,a,c,_,h,_=>by simp at h
 | p :: ps,0,a,c,hj,h,hc=>by
  simp only [gZ,Option.some.injEq] at h
  subst h
  rw [List.flatMap_cons,List.set_cons_zero,List.flatMap_cons,hc,Nat.zero_mul,Nat.zero_add,List.set_append_left _ _ (by rw [hf]; exact hj)]
 | p :: ps,i + 1,a,c,hj,h,hc=>by
  rw [List.flatMap_cons,List.set_cons_succ,List.flatMap_cons,List.set_append_right _ _ (by rw [hf,Nat.add_mul]; omega)]
  have e:(i + 1) * z + j - (f p).length=i * z + j:=by rw [hf,Nat.add_mul]; omega
  rw [e,flat_set hf ps i a c hj (by simpa using h) hc]
theorem BM.cell (x:BM H E rv ev b) {i j:Nat} {e e':Ed} {u:Value} (hi:b.edges[i]?=some e) (hj:j < 8) (he:edC e'=(edC e).set j u) :
  ∃ a o c,ev=.slice (some ⟨a,o,none⟩) b.edges.length c∧wr H ⟨a,o + (i * 8 + j),none⟩ u=some (setH H ⟨a,o + (i * 8 + j),none⟩ u) ∧
   BM (setH H ⟨a,o + (i * 8 + j),none⟩ u) E rv ev { b with edges:=b.edges.set i e' }∧FS E.S H (setH H ⟨a,o + (i * 8 + j),none⟩ u):=by
 have hil:=(List.getElem?_eq_some_iff.1 hi).1
 have hlen:(b.edges.flatMap edC).length=b.edges.length * 8:=flat_len edL _
 obtain ⟨a,o,n,c,h1,h2,h3,h4,h5⟩:=Vec.setc x.ve (i:=i * 8 + j) (by rw [hlen]; omega) u
 rw [hlen] at h2
 have:n=b.edges.length:=by omega
 subst this
 have ha:=x.oe a (by rw [h1]; simp [own])
 have hlow:=x.st.low
 have q:Fr [a] H (setH H ⟨a,o + (i * 8 + j),none⟩ u):=Fr.set (by simp)
 have qn:FS E.S H (setH H ⟨a,o + (i * 8 + j),none⟩ u):=FS.of q (by simpa using ha.1)
 refine ⟨a,o,c,h1,h3,⟨q.blk x.box (by simpa using Ne.symm ha.2),?_,x.or',?_,x.oe,x.dre,x.st.frame qn⟩,qn⟩
 ·exact x.vr.frame q (fun y hy e=>by
   simp at e; subst e
   exact x.dre y hy (by rw [h1]; simp [own]))
 ·have:=flat_set (f:=edC) edL b.edges i e e' hj hi he
  simp only
  rw [← this]; exact h4
end
section
variable {H:Heap} {E:AE} {rv ev:Value} {b:Bs}
theorem auPlace_spec (x:BM H E rv ev b) (hl:b.rest.length≤1000000):CallF Tryz.prog 28 [hp E.bb] H (fun r H'=>BQ E (plM b) H H'∧r=iv b.rest.length) NoP:=by
 have k4:=x.box.cell 4
 simp only [bC,gS,gZ] at k4
 obtain ⟨a1,c1,a2,c2,e1,e2⟩:=x.forms
 subst e1 e2
 refine callF_of Tryz.func28 rfl Tryz.ntmps28 Tryz.results28 (by decide) rfl ?_
 simp (disch:=omega) only [go_sem,↓cB,dB,k4]
 refine app_lit1 T.el39 rfl x.vr rfl (by simp; omega) ?_
 intro v' H1 g1 g2 g3 g4
 refine Hush.out ?_
 obtain ⟨w1,k3,w2,x2,qn⟩:=x.place g1 g2 g3
 have hpl:((plM b).rest.length:Int)=(b.rest.length:Int) + 1:=by simp [plM]
 obtain ⟨X2,hX2⟩:∃ X,X=setH (setH H1 ⟨E.bb,4,none⟩ v') ⟨E.bb,3,none⟩ (iv ((plM b).rest.length)):=⟨_,rfl⟩
 rw [← hX2] at w2 x2 qn
 have k3':=x2.box.cell 3
 simp only [bC,gS,gZ] at k3'
 rw [hpl] at w2 k3'
 obtain ⟨aa,cc,rfl⟩:=g4
 refine ⟨?_⟩
 simp (disch:=omega) only [go_sem,↓cB,dB,w1,k3,w2,k3']
 exact fin ⟨⟨qn,_,_,x2⟩,by congr 1; omega⟩
end
end Go.Proofs.YtmihefbdghjeoaaGreat
namespace Go.Proofs.YtmihefbdghjeoaaGreat
open Go.HL
set_option maxRecDepth 10000
theorem hld_to {H H':Heap}:∀ {L:List Addr},(∀ a ∈ L,∀ v,cellH H a=some v→cellH H' a=some v)→heldOK (hldL H L) H'
 | [],_,a,v,h=>by simp [hldL,lookA] at h
 | b :: r,hL,a,v,h=>by
  unfold hldL at h
  split at h
  ·rename_i w hw
   unfold lookA at h
   split at h
   ·rename_i e
    simp only at e h
    subst e
    exact hL b (by simp) v (by rw [hw]; exact h)
   ·exact hld_to (fun a ha v hv=>hL a (by simp [ha]) v hv) a v h
  ·exact hld_to (fun a ha v hv=>hL a (by simp [ha]) v hv) a v h
theorem NL.inS {H:Heap} {S:Nat→Prop} {v:Value} {l:List Nd} (h:NL H S v l) {i:Nat} {n:Nd} (hi:l[i]?=some n) {b o c:Nat} {m:Nat} (e:v=.slice (some ⟨b,o,none⟩) m c):S b:=by
 obtain ⟨ps,rfl,h2,h3⟩:=h
 rw [List.getElem?_map,Option.map_eq_some_iff] at hi
 obtain ⟨a,ha,rfl⟩:=hi
 obtain ⟨b',o',cap,e',hs,_⟩:=h2.row anL (by decide) ha
 rw [e] at e'
 simp only [Value.slice.injEq,Option.some.injEq,Addr.mk.injEq,and_true,true_and] at e'
 obtain ⟨⟨rfl,rfl⟩,_⟩:=e'
 exact hs
def edge0 (node do' from' to':Int):Ed:=⟨from',to',do',-1,-1,-1,false,node⟩
section
variable {H H':Heap} {E:AE} {rv ev v':Value} {b:Bs} {e e':Ed}
theorem BM.last (x:BM H E rv ev (putM b e)) {j:Nat} {u:Value} (hj:j < 8) (he:edC e'=(edC e).set j u) :
  ∃ a o c,ev=.slice (some ⟨a,o,none⟩) (b.edges.length + 1) c∧wr H ⟨a,o + b.edges.length * 8 + j,none⟩ u=some (setH H ⟨a,o + b.edges.length * 8 + j,none⟩ u) ∧
   BM (setH H ⟨a,o + b.edges.length * 8 + j,none⟩ u) E rv ev (putM b e')∧FS E.S H (setH H ⟨a,o + b.edges.length * 8 + j,none⟩ u):=by
 obtain ⟨a,o,c,h1,h2,h3,h4⟩:=x.cell (i:=b.edges.length) (e:=e) (by simp [putM]) hj he
 rw [← Nat.add_assoc] at h2 h3 h4
 refine ⟨a,o,c,by simpa [putM] using h1,h2,?_,h4⟩
 have:({ putM b e with edges:=(putM b e).edges.set b.edges.length e' }:Bs)=putM b e':=by simp [putM]
 rw [this] at h3
 exact h3
def EdgeQ (E:AE) (b:Bs) (e:Ed) (H:Heap) (r:Value) (H':Heap):Prop:=FS E.S H H'∧∃ rv a o c,r=.pointer (some ⟨a,o + b.edges.length * 8,none⟩)∧BM H' E rv (.slice (some ⟨a,o,none⟩) (b.edges.length + 1) c) (putM b e)
set_option maxHeartbeats 1000000 in
theorem auEdge_spec (x:BM H E rv ev b) (hl:b.edges.length≤1000000) {node do' from' to':Int}:CallF Tryz.prog 56 [hp E.bb,iv node,iv do',iv from',iv to'] H (fun r H'=>EdgeQ E b (edge0 node do' from' to') H r H') NoP:=by
 have k5:=x.box.cell 5
 simp only [bC,gS,gZ] at k5
 obtain ⟨a1,c1,a2,c2,e1,e2⟩:=x.forms
 subst e1 e2
 refine callF_of Tryz.func56 rfl Tryz.ntmps56 Tryz.results56 (by decide) rfl ?_
 simp (disch:=omega) only [go_sem,↓cB,dB,k5]
 refine app_lit (n:=1) (new:=edC (edge0 node do' from' to')) T.el40 rfl x.ve (one_all rfl) rfl (by intro a' l c e; simp only [Value.slice.injEq] at e; obtain ⟨_,rfl,_⟩:=e; omega) ?_
 intro v' H1 g1 g2 g3 g4
 refine Hush.out ?_
 obtain ⟨w1,x1,qn⟩:=x.put g1 g2 g3
 obtain ⟨aa,cc,rfl⟩:=g4 _ _ _ rfl
 obtain ⟨X1,hX1⟩:∃ X,X=setH H1 ⟨E.bb,5,none⟩ (.slice aa (b.edges.length + 1) cc):=⟨_,rfl⟩
 rw [← hX1] at w1 x1 qn
 have k5':=x1.box.cell 5
 simp only [bC,gS,gZ] at k5'
 obtain ⟨a,o,c,e3,-⟩:=x1.last (j:=0) (u:=iv from') (e':=edge0 node do' from' to') (by omega) rfl
 simp only [Value.slice.injEq] at e3
 obtain ⟨rfl,-,rfl⟩:=e3
 have hl1:(((b.edges.length + 1:Nat):Int) - 1).toNat=b.edges.length:=by omega
 refine ⟨?_⟩
 simp (disch:=omega) only [go_sem,↓cB,dB,w1]
 refine draw0 (lk [(0,true),(1,true),(2,true),(3,true),(4,true),(5,true),(6,true),(7,true),(8,true),(9,true),(10,true),(11,true),(12,true),(13,true)] .fin) T.mixed ?_
 simp (disch:=omega) only [go_sem,↓cB,dB,k5',hl1]
 exact fin ⟨qn,_,a,o,_,rfl,x1⟩
set_option maxHeartbeats 1000000 in
theorem auTest_spec (x:BM H E rv ev b) (hl:b.edges.length≤1000000) {i:Nat} (hi:i < E.l.length) (hk:0 < (nodeAt E.l i).kids.length) {do' from' to':Int} :
  CallF Tryz.prog 86 [hp E.bb,iv i,iv do',iv from',iv to'] H (fun r H'=>BQ E (putM b ⟨from',to',do',k0 (nodeAt E.l i),-1,-1,false,i⟩) H H') NoP:=by
 have k8:=x.box.cell 8
 simp only [bC,gS,gZ] at k8
 have hgi:=getD_some (d:=nd0') hi
 obtain ⟨tb,to,tc,a,q1,q2,ar,-,-,-,-,kk,-⟩:=x.st.nl.row hgi
 have hnd:E.l.getD i nd0'=nodeAt E.l i:=rfl
 rw [hnd] at q2
 obtain ⟨nn,x1,c1,x2,c2,x3,c3,rfl⟩:=ar.open
 simp only at q2 kk
 subst q2
 rw [q1] at k8
 have hr:=ar.k
 simp only at hr
 obtain ⟨kb,ko,kc,p1,hkS,p2⟩:=hr.at1 (getD_some (d:=(0:Int)) hk)
 simp only [Value.slice.injEq,true_and] at p1
 obtain ⟨rfl,rfl⟩:=p1
 rw [Nat.add_zero] at p2
 have e0:(nodeAt E.l i).kids.getD 0 0=k0 (nodeAt E.l i):=rfl
 rw [e0] at p2
 obtain ⟨hl',hhl⟩:∃ hl',hl'=hldL H [⟨E.bb,8,none⟩,⟨tb,to + i * 5 + 3,none⟩,⟨kb,ko,none⟩]:=⟨_,rfl⟩
 have hok:heldOK hl' H:=by rw [hhl]; exact hld_ok
 have l0:lookA hl' ⟨E.bb,8,none⟩=some (.slice (some ⟨tb,to,none⟩) E.l.length tc):=by rw [hhl]; exact hld_at k8 (by simp)
 have l1:lookA hl' ⟨tb,to + i * 5 + 3,none⟩=some (.slice (some ⟨kb,ko,none⟩) (nodeAt E.l i).kids.length c3):=by rw [hhl]; exact hld_at kk (by simp)
 have l2:lookA hl' ⟨kb,ko,none⟩=some (iv (k0 (nodeAt E.l i))):=by rw [hhl]; exact hld_at p2 (by simp)
 refine callF_of Tryz.func86 rfl Tryz.ntmps86 Tryz.results86 (by decide) rfl ?_
 simp (disch:=omega) only [go_sem,↓cB,dB]
 refine draw1 (lk [(0,true),(1,true),(2,true),(3,true),(4,true),(6,false),(7,false),(8,false),(9,false),(10,false),(11,false),(12,false),(13,false),(14,false),(15,false)] (.act 5 (lk [(16,true),(17,true)] (.actd 18 .fin)) .non)) T.mixed hl' hok ?_
 try (simp (disch:=omega) only [go_sem,↓cB,dB,l0,l1,l2])
 try refine held_by hok ?_
 try (simp (disch:=omega) only [go_sem,↓cB,dB,l0,l1,l2])
 refine call_to (auEdge_spec x hl) ?_
 intro r5 H5 hv
 refine Hush.out ?_
 obtain ⟨qn,rv5,a5,o5,c5,rfl,x5⟩:=hv
 have hok5:heldOK hl' H5:=by
  rw [hhl]
  refine hld_to ?_
  intro ad had v hv
  simp only [List.mem_cons,List.not_mem_nil,or_false] at had
  have hkeep:Keeps E.Sp H H5:=fun y hy hl=>qn.same y hl hy
  rcases had with rfl | rfl | rfl
  ·have:=x5.box.cell 8
   simp only [bC,gS,gZ] at this
   rw [this,q1,← k8]; exact hv
  ·exact hkeep.cell (x.st.nl.inS hgi q1) hv
  ·exact hkeep.cell hkS hv
 obtain ⟨a6,o6,c6,e6,w6,x6,q6⟩:=x5.last (j:=3) (u:=iv (k0 (nodeAt E.l i))) (e':=⟨from',to',do',k0 (nodeAt E.l i),-1,-1,false,i⟩) (by omega) rfl
 simp only [Value.slice.injEq,Option.some.injEq,Addr.mk.injEq,and_true,true_and] at e6
 obtain ⟨⟨rfl,rfl⟩,rfl⟩:=e6
 refine ⟨?_⟩
 try refine held_by hok5 ?_
 try (simp (disch:=omega) only [go_sem,↓cB,dB,l0,l1,l2,w6])
 try refine held_by hok5 ?_
 try (simp (disch:=omega) only [go_sem,↓cB,dB,l0,l1,l2,w6])
 exact fin ⟨qn.trans q6,_,_,x6⟩
theorem auIdle_spec (x:BM H E rv ev b) {a:AN} {S:Nat→Prop} (ha:AR H S a) (hn:a.n.nums.length=1) {f:Nat} (hf:f < b.rest.length) :
  CallF Tryz.prog 85 [hp E.bb,anV a,iv f] H (fun r H'=>BQ E (idlM b f (n0 a.n)) H H') NoP:=by
 obtain ⟨⟨kind,words,nums,kids,pos⟩,x1,c1,x2,c2,x3,c3,rfl⟩:=ha.open
 simp only at hn
 obtain ⟨G,hG⟩:∃ G,G=H.push (.cells #[iv kind,.slice x1 words.length c1,.slice x2 nums.length c2,.slice x3 kids.length c3,iv pos] 47):=⟨_,rfl⟩
 have f0:Fr [] H G:=by rw [hG]; exact Fr.push
 have hb:Blk G H.size 47 [iv kind,.slice x1 words.length c1,.slice x2 nums.length c2,.slice x3 kids.length c3,iv pos]:=by rw [hG]; exact Blk.new rfl
 have k2':=hb.cell 2
 simp only [gS,gZ] at k2'
 have hu:=ha.u.frame (Keeps.of_fr f0 (by simp))
 simp only at hu
 obtain ⟨ub,uo,uc,ue,-,uq⟩:=hu.at1 (getD_some (d:=(0:Int)) (i:=0) (by omega))
 simp only [Value.slice.injEq,true_and] at ue
 obtain ⟨rfl,rfl⟩:=ue
 rw [Nat.add_zero] at uq
 have xG:=x.grow f0
 have q0:FS E.S H G:=FS.of f0 (by simp)
 have e0:nums.getD 0 0=n0 ⟨kind,words,nums,kids,pos⟩:=rfl
 rw [e0] at uq
 unfold idlM
 simp only
 generalize n0 ⟨kind,words,nums,kids,pos⟩=u at *
 refine callF_of Tryz.func85 rfl Tryz.ntmps85 Tryz.results85 (by decide) rfl ?_
 simp (disch:=omega) only [go_sem,↓cB,dB,anV]
 rw [← hG]
 by_cases hu0:u=0
 ·rw [if_pos hu0]
  try (simp (disch:=omega) only [go_sem,↓cB,dB,k2',uq])
  exact fin ⟨q0,_,_,xG⟩
 ·rw [if_neg hu0]
  have k4:=xG.box.cell 4
  simp only [bC,gS,gZ] at k4
  obtain ⟨ra,ro,rc,e1,w1,x1',q1⟩:=xG.idle hf
  rw [e1] at k4
  try (simp (disch:=omega) only [go_sem,↓cB,dB,k2',uq,k4,w1])
  exact fin ⟨q0.trans q1,rv,ev,by simpa using x1'⟩
theorem findIdx_of {l:List Str} {s:Str} {i:Nat} (h:l[i]?=some s) (hn:∀ j,j < i→¬ l.getD j []=s):l.findIdx (· == s)=i:=by
 have hi:=(List.getElem?_eq_some_iff.1 h).1
 rw [List.findIdx_eq hi]
 refine ⟨by rw [(List.getElem?_eq_some_iff.1 h).2]; simp,fun j hj=>?_⟩
 have:=hn j hj
 rw [List.getD_eq_getElem?_getD,List.getElem?_eq_getElem (by omega)] at this
 simpa using this
theorem auVar_spec (x:BM H E rv ev b) {s:Str} (hs:inL E.m.names s=true):CallF Tryz.prog 83 [hp E.bb,sv s] H (fun r H'=>H=H'∧r=iv (E.m.var s)) NoP:=by
 have k6:=x.box.cell 6
 have k7:=x.box.cell 7
 simp only [bC,gS,gZ] at k6 k7
 have hln:=x.st.ln
 refine callF_of Tryz.func83 rfl Tryz.ntmps83 Tryz.results83 (by decide) rfl ?_
 simp (disch:=omega) only [go_sem,↓cB,dB,k6]
 refine call_to (sIndex_spec x.st.nm (by omega)) ?_
 rintro _ _ ⟨rfl,n,rfl,hn1,hn2⟩
 have hn0:=hn1.2 hs
 obtain ⟨i,rfl⟩:∃ i:Nat,n=i:=⟨n.toNat,by omega⟩
 obtain ⟨hil,hat,hno⟩:=hn2 i rfl
 have hfi:=findIdx_of hat hno
 have hiv:i < E.m.vars.length:=by rw [x.st.hv]; exact hil
 obtain ⟨vb,vo,vc,p1,-,p2⟩:=x.st.vs.at1 (getD_some (d:=(0:Int)) hiv)
 have e:E.m.vars.getD i 0=E.m.var s:=by unfold Nm.var; rw [hfi]
 rw [e] at p2
 rw [p1] at k7
 simp (disch:=omega) only [go_sem,↓cB,dB,k7,p2]
 exact fin ⟨rfl,rfl⟩
theorem auChan1_spec {G:Heap} {cb:Nat} {c:Ch} {s:Str} (hb:Blk G cb 9 [sv s]):CallF Tryz.prog 106 [.agg (chC c).toArray,hp cb] G (fun r H'=>Fr [] G H'∧r=.bool (decide (c.name=s))) NoP:=by
 obtain ⟨A,hA⟩:∃ A,A=G.push (.cells (chC c).toArray 59):=⟨_,rfl⟩
 have f0:Fr [] G A:=by rw [hA]; exact Fr.push
 have b1:Blk A G.size 59 (chC c):=by rw [hA]; exact Blk.new rfl
 have k0:=b1.cell 0
 have ks:=(f0.blk hb (by simp)).cell 0
 simp only [chC,gZ] at k0 ks
 unfold chC at hA
 unfold chC
 refine callF_of Tryz.func106 rfl Tryz.ntmps106 Tryz.results106 (by decide) rfl ?_
 simp (disch:=omega) only [go_sem,↓cB,dB]
 rw [← hA]
 try (simp (disch:=omega) only [go_sem,↓cB,dB,k0,ks])
 exact fin ⟨f0,rfl⟩
theorem sIdxF_spec {S:Nat→Prop} {cv:Value} {cs:List Ch} {cb:Nat} {s:Str} (h:Rd H S 5 cv (cs.flatMap chC)) (hl:cs.length≤1000000) (hb:Blk H cb 9 [sv s]) {i:Nat} (hi:cs.findIdx (fun c=>c.name == s)=i) (hil:i < cs.length) :
  CallF Tryz.prog 105 [cv,.func (.func 106) #[] #[hp cb]] H (fun r H'=>Fr [] H H'∧r=iv i) NoP:=by
 obtain ⟨ca,cc,rfl⟩:=h.len chL (by omega)
 refine callF_of Tryz.func105 rfl Tryz.ntmps105 Tryz.results105 (by decide) rfl ?_
 simp (disch:=omega) only [go_sem,↓cB,dB]
 refine loop_by (fun k ρ H2=>∃ j:Nat,k=cs.length - j∧j≤i∧Fr [] H H2∧(ρ.get 0=.slice ca cs.length cc∧ρ.get 1=.func (.func 106) #[] #[hp cb]∧ρ.get 7=iv cs.length∧ρ.get 8=iv j∧ρ.ds = [])) (k:=cs.length) ?_ ?_
 ·exact ⟨0,rfl,by omega,Fr.refl _ _,by simp (disch:=omega) only [go_sem,↓cB,dB]⟩
 ·rintro k ρ H2 ⟨j,rfl,hj,f2,r0,r1,r7,r8,rd⟩
  have hxj:(j:Int) + 1=((j + 1:Nat):Int):=by omega
  have hjl:j < cs.length:=by omega
  obtain ⟨c,hc⟩:∃ c,cs[j]?=some c:=⟨_,List.getElem?_eq_getElem hjl⟩
  obtain ⟨vb,vo,vc,p1,-,p2,-⟩:=(h.frame (Keeps.of_fr f2 (by simp))).row chL (by omega) hc
  simp only [Value.slice.injEq,true_and] at p1
  obtain ⟨rfl,rfl⟩:=p1
  have hcall:=auChan1_spec (c:=c) (s:=s) (f2.blk hb (by simp))
  simp (disch:=omega) only [go_sem,↓cB,dB,r0,r1,r7,r8,rd,p2]
  refine call_to hcall ?_
  intro r3 H3 hv
  refine Hush.out ?_
  obtain ⟨f3,rfl⟩:=hv
  by_cases hcn:c.name=s
  ·have hji:j=i:=by
    rcases Nat.lt_or_ge j i with h | h
    ·have:=List.not_of_lt_findIdx (xs:=cs) (p:=fun c=>c.name == s) (i:=j) (by omega)
     rw [List.getElem?_eq_getElem hjl,Option.some.injEq] at hc
     simp [hc,hcn] at this
    ·omega
   subst hji
   refine ⟨?_⟩
   rw [decide_eq_true hcn]
   simp (disch:=omega) only [go_sem,↓cB,dB,r0,r1,r7,r8,rd]
   exact fin ⟨f2.trans f3,rfl⟩
  ·have hji:j ≠ i:=by
    rintro rfl
    have:=List.findIdx_getElem (xs:=cs) (p:=fun c=>c.name == s) (w:=by omega)
    simp only [hi] at this
    rw [List.getElem?_eq_getElem hjl,Option.some.injEq] at hc
    rw [hc] at this
    simp at this
    exact hcn this
   refine ⟨?_⟩
   rw [decide_eq_false hcn]
   simp (disch:=omega) only [go_sem,↓cB,dB,r0,r1,r7,r8,rd]
   exact fin ⟨cs.length - (j + 1),by omega,j + 1,rfl,by omega,f2.trans f3,by simp (disch:=omega) only [go_sem,↓cB,dB,r0,r1,r7,r8,rd,hxj]⟩
theorem auChan_spec (x:BM H E rv ev b) {s:Str} (hs:inL E.m.chans s=true):CallF Tryz.prog 84 [hp E.bb,sv s] H (fun r H'=>Fr [] H H'∧r=iv (E.m.chan s)) NoP:=by
 have k9:=x.box.cell 9
 simp only [bC,gS,gZ] at k9
 obtain ⟨A,hA⟩:∃ A,A=H.push (.cells #[sv s] 9):=⟨_,rfl⟩
 have f0:Fr [] H A:=by rw [hA]; exact Fr.push
 have b1:Blk A H.size 9 [sv s]:=by rw [hA]; exact Blk.new rfl
 have k9':=f0.cell' k9 (by simp)
 have hidx:E.cs.findIdx (fun c=>c.name == s)=E.m.chans.findIdx (· == s):=by
  rw [x.st.hc,List.findIdx_map]; rfl
 have hil:E.m.chans.findIdx (· == s) < E.cs.length:=by
  rw [← hidx]
  apply List.findIdx_lt_length_of_exists
  rw [x.st.hc] at hs
  unfold inL at hs
  rw [List.any_eq_true] at hs
  obtain ⟨y,hy,e⟩:=hs
  obtain ⟨c,hc,rfl⟩:=List.mem_map.1 hy
  exact ⟨c,hc,e⟩
 refine callF_of Tryz.func84 rfl Tryz.ntmps84 Tryz.results84 (by decide) rfl ?_
 simp (disch:=omega) only [go_sem,↓cB,dB]
 rw [← hA]
 try (simp (disch:=omega) only [go_sem,↓cB,dB,k9'])
 refine call_to (sIdxF_spec ((x.st.ch).frame (Keeps.of_fr f0 (by simp))) x.st.lc b1 hidx hil) ?_
 intro r3 H3 hv
 refine Hush.out ?_
 obtain ⟨f3,rfl⟩:=hv
 refine ⟨?_⟩
 simp (disch:=omega) only [go_sem,↓cB,dB]
 exact fin ⟨f0.trans f3,rfl⟩
end
end Go.Proofs.YtmihefbdghjeoaaGreat
namespace Go.Proofs.YtmihefbdghjeoaaGreat
open Go.HL
set_option maxRecDepth 10000
def BlUp (l:List Nd) (dk:Nat) (st:StF):Prop:=∀ (k e:Nat) (from' to':Int) (b:Bs),k < l.length→walkM l dk k=(e,true)→k < e∧e≤l.length∧Up (2 * (e - k) - 1) b (blkM l st k from' to' b)
theorem blUp_of {l:List Nd} {d:Nat} {st:StF} (h:StUp l (walkM l d) st):BlUp l (d + 1) st:=by
 intro k e from' to' b hk hw
 have:=blk_up h (from':=from') (to':=to') (b:=b) hk hw
 exact ⟨this.1,(walkM_ok (d + 1) k e hk hw).2.1,this.2⟩
theorem kids_1 {l:List Nd} {w:Nat→Nat × Bool} {ks:List Int} {s e:Nat} (hw:walkK l w ks s=(e,true)) (h1:0 < ks.length) :
  ks.getD 0 0=s∧s < l.length∧w s=((w s).1,true)∧walkK l w ks.tail (w s).1=(e,true):=by
 cases ks with
 | nil=>simp at h1
 | cons k ks =>
  obtain ⟨a,b,c,d⟩:=walkK_first hw
  exact ⟨a,b,by rw [← c],d⟩
theorem getD_tail {ks:List Int} {i:Nat}:ks.tail.getD i 0=ks.getD (i + 1) 0:=by
 cases ks <;> simp
theorem cho_up {l:List Nd} {dk:Nat} {st:StF} (h:BlUp l dk st):∀ (ks:List Int) (s e:Nat) (from' to':Int) (b:Bs),s≤l.length→walkK l (walkM l dk) ks s=(e,true)→s≤e∧Up (2 * (e - s)) b (choM l st ks from' to' b)
 | [],s,e,from',to',b,hs,hw=>by
  simp [walkK] at hw
  subst hw
  refine ⟨by omega,?_⟩
  simp only [choM,Nat.sub_self,Nat.mul_zero]
  exact Up.refl
 | k :: ks,s,e,from',to',b,hs,hw=>by
  obtain ⟨rfl,a2,a3,a4⟩:=walkK_first hw
  have hb:=fun f b=>h s (walkM l dk s).1 f to' b a2 (by rw [← a3])
  obtain ⟨c1,c2,_⟩:=hb 0 b
  unfold choM
  split
  ·obtain ⟨i1,i2⟩:=cho_up h ks (walkM l dk s).1 e from' to' (blkM l st s b.rest.length to' (putM (plM b) ⟨from',b.rest.length,0,-1,-1,-1,false,s⟩)) c2 a4
   exact ⟨by omega,Up.mono ((up_plput.trans (hb _ _).2.2).trans i2) (by omega)⟩
  ·obtain ⟨i1,i2⟩:=cho_up h ks (walkM l dk s).1 e from' to' (blkM l st s from' to' b) c2 a4
   exact ⟨by omega,Up.mono ((hb _ _).2.2.trans i2) (by omega)⟩
theorem step_up {l:List Nd} (hr:prRightM l=true) {m:Nm} {dk:Nat} {st:StF} (h:BlUp l dk st):StUp l (walkM l (dk + 1)) (stepA l m st):=by
 intro i e from' to' b hi hw
 obtain ⟨o1,o2,-⟩:=walkM_ok (dk + 1) i e hi hw
 refine ⟨o1,o2,?_⟩
 have sh:=shp_of hr hi
 have hw':=hw
 unfold walkM at hw'
 have hks:(l.getD i nd0').kids=(nodeAt l i).kids:=rfl
 rw [hks] at hw'
 have one:Up 1 b b→True:=fun _=>trivial
 unfold stepA
 simp only
 generalize nodeAt l i=n at *
 by_cases e6:n.kind=6
 ·rw [if_pos e6]; exact up_put.mono (by omega)
 rw [if_neg e6]
 by_cases e7:n.kind=7
 ·rw [if_pos e7]; exact up_put.mono (by omega)
 rw [if_neg e7]
 by_cases e8:n.kind=8
 ·rw [if_pos e8]; exact (up_idl.trans up_put).mono (by omega)
 rw [if_neg e8]
 by_cases e9:n.kind=9
 ·rw [if_pos e9]; exact (up_idl.trans up_put).mono (by omega)
 rw [if_neg e9]
 by_cases e10:n.kind=10
 ·rw [if_pos e10]
  obtain ⟨c1,c2⟩:=cho_up h n.kids (i + 1) e from' to' (idlM b from' (n0 n)) (by omega) hw'
  exact (up_idl.trans c2).mono (by omega)
 rw [if_neg e10]
 by_cases e11:n.kind=11
 ·rw [if_pos e11]
  obtain ⟨hl,-,-⟩:=sh.iff e11
  obtain ⟨a1,a2,a3,a4⟩:=kids_1 hw' (by omega)
  obtain ⟨a5,a6,-⟩:=walkM_ok dk (i + 1) _ a2 a3
  obtain ⟨b1,b2,b3,b4⟩:=kids_1 a4 (by rw [List.length_tail]; omega)
  rw [getD_tail] at b1
  have hk1:k1 n=((walkM l dk (i + 1)).1:Int):=b1
  have hb1:=fun f b=>h (walkM l dk (i + 1)).1 (walkM l dk (walkM l dk (i + 1)).1).1 f to' b b2 b3
  rw [hk1]
  have u1:=up_plput.trans (hb1 b.rest.length (putM (plM b) ⟨from',b.rest.length,4,k0 n,-1,-1,false,i⟩)).2.2
  obtain ⟨c1,c2,-⟩:=hb1 0 b
  rcases hl with hl | hl
  ·rw [if_pos (by omega)]
   have:n.kids.tail.tail = []:=by
    apply List.eq_nil_of_length_eq_zero; rw [List.length_tail,List.length_tail]; omega
   rw [this] at b4
   simp [walkK] at b4
   exact (u1.trans up_put).mono (by omega)
  ·rw [if_neg (by omega)]
   obtain ⟨d1,d2,d3,d4⟩:=kids_1 b4 (by rw [List.length_tail,List.length_tail]; omega)
   rw [getD_tail,getD_tail] at d1
   have hk2:k2 n=((walkM l dk (walkM l dk (i + 1)).1).1:Int):=d1
   have:n.kids.tail.tail.tail = []:=by
    apply List.eq_nil_of_length_eq_zero; rw [List.length_tail,List.length_tail,List.length_tail]; omega
   rw [this] at d4
   simp [walkK] at d4
   rw [hk2]
   have hb2:=fun f b=>h (walkM l dk (walkM l dk (i + 1)).1).1 e f to' b d2 (by rw [d3,d4])
   obtain ⟨g1,g2,-⟩:=hb2 0 b
   exact ((u1.trans up_plput).trans (hb2 _ _).2.2).mono (by omega)
 rw [if_neg e11]
 by_cases e12:n.kind=12
 ·rw [if_pos e12]
  obtain ⟨hl,-⟩:=sh.whl e12
  obtain ⟨a1,a2,a3,a4⟩:=kids_1 hw' (by omega)
  obtain ⟨a5,a6,-⟩:=walkM_ok dk (i + 1) _ a2 a3
  obtain ⟨b1,b2,b3,b4⟩:=kids_1 a4 (by rw [List.length_tail]; omega)
  rw [getD_tail] at b1
  have hk1:k1 n=((walkM l dk (i + 1)).1:Int):=b1
  have:n.kids.tail.tail = []:=by
   apply List.eq_nil_of_length_eq_zero; rw [List.length_tail,List.length_tail]; omega
  rw [this] at b4
  simp [walkK] at b4
  have hb1:=fun f b=>h (walkM l dk (i + 1)).1 e f from' b b2 (by rw [b3,b4])
  rw [hk1]
  obtain ⟨c1,c2,-⟩:=hb1 0 b
  exact ((up_plput.trans up_put).trans (hb1 _ _).2.2).mono (by omega)
 rw [if_neg e12]
 by_cases e13:n.kind=13
 ·rw [if_pos e13]
  obtain ⟨hl,-⟩:=sh.ato e13
  obtain ⟨a1,a2,a3,a4⟩:=kids_1 hw' (by omega)
  have:n.kids.tail = []:=by
   apply List.eq_nil_of_length_eq_zero; rw [List.length_tail]; omega
  rw [this] at a4
  simp [walkK] at a4
  have hk0:k0 n=((i + 1:Nat):Int):=a1
  rw [hk0]
  obtain ⟨c1,c2,c3⟩:=h (i + 1) e from' to' b a2 (by rw [a3,a4])
  refine (c3.trans (up_kep ?_)).mono (by omega)
  exact c3.2.2.1
 rw [if_neg e13]
 by_cases e15:n.kind=15
 ·rw [if_pos e15]; exact up_put.mono (by omega)
 rw [if_neg e15]
 exact up_put.mono (by omega)
theorem stat_up {l:List Nd} (hr:prRightM l=true) {m:Nm}:∀ d,StUp l (walkM l d) (statM l m d)
 | 0=>by intro i e f t b hi hw; simp [walkM] at hw
 | 1=>step_up hr (fun k e f t b hk hw=>by simp [walkM] at hw)
 | d + 2=>step_up hr (blUp_of (stat_up hr d))
end Go.Proofs.YtmihefbdghjeoaaGreat
namespace Go.Proofs.YtmihefbdghjeoaaGreat
open Go.HL
set_option maxRecDepth 10000
def Room (b:Bs) (n:Nat):Prop:=b.rest.length + n≤100000∧b.edges.length + n≤100000
theorem Room.up {b b':Bs} {c n k:Nat} (h:Room b k) (u:Up c b b') (hk:c + n≤k):Room b' n:=by unfold Room Up at *; omega
theorem Room.mono {b:Bs} {n k:Nat} (h:Room b k) (hk:n≤k):Room b n:=by unfold Room at *; omega
def NmOk (l:List Nd) (m:Nm) (s e:Nat):Prop:=∀ j,s≤j→j < e→((nodeAt l j).kind=6→inL m.names (w0 (nodeAt l j))=true)∧((nodeAt l j).kind=7→inL m.chans (w0 (nodeAt l j))=true) ∧
 ((nodeAt l j).kind=8→inL m.chans (w0 (nodeAt l j))=true∧inL m.names (w1 (nodeAt l j))=true)
theorem NmOk.sub {l:List Nd} {m:Nm} {s e s' e':Nat} (h:NmOk l m s e) (h1:s≤s') (h2:e'≤e):NmOk l m s' e':=fun j a b=>h j (by omega) (by omega)
def StK (l:List Nd) (k:Nat):Prop:=6≤(nodeAt l k).kind∧(nodeAt l k).kind≤15
def SpA (E:AE) (st:StF) (d:Nat):Prop:=∀ {H:Heap} {rv ev:Value} {b:Bs} {i e f:Nat} {to':Int},BM H E rv ev b→i < E.l.length→walkM E.l d i=(e,true)→NmOk E.l E.m i e→StK E.l i→f < b.rest.length→Room b (2 * (e - i)) →
 CallF Tryz.prog 57 [hp E.bb,iv i,iv f,iv to'] H (fun r H'=>BQ E (st i f to' b) H H') NoP
def SqA (E:AE) (st:StF) (d:Nat):Prop:=∀ {H:Heap} {rv ev kv:Value} {b:Bs} {node to':Int} {ks:List Int} {s e f:Nat},BM H E rv ev b→s≤E.l.length→walkK E.l (walkM E.l d) ks s=(e,true)→NmOk E.l E.m s e→(∀ k ∈ ks,StK E.l k.toNat) →
 Rd H E.Sp 1 kv (ks.map iv)→(∀ a n c,kv=.slice a n c→n≤c)→ks.length≤9223372036854775807→f < b.rest.length→Room b (2 * (e - s) + 1) →
 CallF Tryz.prog 29 [hp E.bb,iv node,kv,iv f,iv to'] H (fun r H'=>BQ E (seqM st node ks f to' b) H H') NoP
def BlA (E:AE) (st:StF) (d:Nat):Prop:=∀ {H:Heap} {rv ev:Value} {b:Bs} {k e f:Nat} {to':Int},BM H E rv ev b→k < E.l.length→walkM E.l d k=(e,true)→(nodeAt E.l k).kind=16→NmOk E.l E.m k e→f < b.rest.length→Room b (2 * (e - k)) →
 CallF Tryz.prog 88 [hp E.bb,iv k,iv f,iv to'] H (fun r H'=>BQ E (blkM E.l st k f to' b) H H') NoP
theorem seqM_two {st:StF} {node x y f to':Int} {r:List Int} {b:Bs}:seqM st node (x :: y :: r) f to' b=seqM st node (y :: r) b.rest.length to' (st x.toNat f b.rest.length (plM b)):=by simp only [seqM]
theorem drop_two {ks:List Int} {j:Nat} (h:j + 1 < ks.length):ks.drop j=ks.getD j 0 :: ks.getD (j + 1) 0 :: ks.drop (j + 2):=by
 rw [List.drop_eq_getElem_cons (by omega),List.drop_eq_getElem_cons (by omega)]
 simp [List.getD_eq_getElem?_getD,List.getElem?_eq_getElem h,List.getElem?_eq_getElem (show j < ks.length by omega)]
section
variable {E:AE} {st:StF} {d:Nat}
set_option maxHeartbeats 4000000 in
theorem sqA_of (hsp:SpA E st d) (hup:StUp E.l (walkM E.l d) st):SqA E st d:=by
 intro H rv ev kv b node to' ks s e f x hs hw hN hK hkv hkc hkl hf hroom
 obtain ⟨ax,cx,rfl⟩:=hkv.len1
 have hcx:=hkc _ _ _ rfl
 refine callF_of Tryz.func29 rfl Tryz.ntmps29 Tryz.results29 (by decide) rfl ?_
 by_cases h0:ks.length=0
 ·have hks:ks = []:=List.eq_nil_of_length_eq_zero h0
  subst hks
  simp only [List.length_nil] at *
  simp (disch:=omega) only [go_sem,↓cB,dB]
  refine call_to (auEdge_spec x (by unfold Room at hroom; omega)) ?_
  intro r5 H5 hv
  refine Hush.out ?_
  obtain ⟨qn,rv5,a5,o5,c5,rfl,x5⟩:=hv
  refine ⟨?_⟩
  try (simp (disch:=omega) only [go_sem,↓cB,dB])
  have e5:seqM st node [] f to' b=putM b (edge0 node 0 f to'):=by simp only [seqM,edge0]
  rw [e5]
  exact fin ⟨qn,_,_,x5⟩
 obtain ⟨R,hR⟩:∃ R,R=seqM st node ks f to' b:=⟨_,rfl⟩
 rw [← hR]
 have hl1:((ks.length:Int) - 1)=((ks.length - 1:Nat):Int):=by omega
 simp (disch:=omega) only [go_sem,↓cB,dB,hl1]
 refine loop_by (fun k ρ H2=>∃ (j sj fj:Nat) (rv2 ev2:Value) (bj:Bs),k=ks.length - j∧j + 1≤ks.length∧sj≤E.l.length∧s≤sj∧FS E.S H H2∧BM H2 E rv2 ev2 bj∧walkK E.l (walkM E.l d) (ks.drop j) sj=(e,true)∧R=seqM st node (ks.drop j) fj to' bj∧fj < bj.rest.length∧Room bj (2 * (e - sj) + 1) ∧
   (ρ.get 0=hp E.bb∧ρ.get 1=iv node∧ρ.get 2=.slice ax ks.length cx∧ρ.get 3=iv fj∧ρ.get 4=iv to'∧ρ.get 10=iv ((ks.length - 1:Nat):Int)∧ρ.get 27=.slice ax (ks.length - 1) cx∧ρ.get 28=iv ((ks.length - 1:Nat):Int)∧ρ.get 29=iv j∧ρ.ds = [])) (k:=ks.length) ?_ ?_
 ·refine ⟨0,s,f,rv,ev,b,rfl,by omega,hs,by omega,FS.refl,x,hw,hR,hf,hroom,?_⟩
  simp (disch:=omega) only [go_sem,↓cB,dB,hl1]
 ·clear x hR
  rintro k ρ H2 ⟨j,sj,fj,rv2,ev2,bj,rfl,hj,hsj,hssj,qn,x,hwj,hR,hfj,hrj,r0,r1,r2,r3,r4,r10,r27,r28,r29,rd⟩
  have hxj:(j:Int) + 1=((j + 1:Nat):Int):=by omega
  have hkk:=hkv.frame (show Keeps E.Sp H H2 from fun y hy hl=>qn.same y hl hy)
  have hgj:=getD_some (d:=(0:Int)) (l:=ks) (i:=j) (by omega)
  obtain ⟨kb,ko,kc,p1,-,p2⟩:=hkk.at1 hgj
  simp only [Value.slice.injEq,true_and] at p1
  obtain ⟨rfl,rfl⟩:=p1
  have hKj:=hK _ (List.mem_of_getElem? hgj)
  by_cases hjl:j + 1 < ks.length
  ·rw [drop_two hjl] at hwj hR
   rw [seqM_two] at hR
   obtain ⟨a1,a2,a3,a4⟩:=walkK_first hwj
   have hd1:ks.getD (j + 1) 0 :: ks.drop (j + 2)=ks.drop (j + 1):=by
    rw [List.drop_eq_getElem_cons hjl]; congr 1; simp [List.getD_eq_getElem?_getD,List.getElem?_eq_getElem hjl]
   rw [hd1] at a4 hR
   generalize ks.getD j 0=y at *
   subst a1
   simp only [Int.toNat_natCast] at hR hKj
   obtain ⟨g1,g2,-⟩:=hup sj (walkM E.l d sj).1 0 0 b a2 (by rw [← a3])
   have hge:(walkM E.l d sj).1≤e:=(walkK_ok (l:=E.l) (ih:=walkM E.l d) (Q:=fun _=>True) (fun i e h1 h2=>by have:=hup i e 0 0 b h1 h2; exact ⟨this.1,this.2.1,fun _ _ _=>trivial⟩) _ _ e g2 a4).1
   have hrl:bj.rest.length≤1000000:=by unfold Room at hrj; omega
   have hcond:(j:Int) < ((ks.length - 1:Nat):Int):=by omega
   simp (disch:=omega) only [go_sem,↓cB,dB,r0,r1,r2,r3,r4,r10,r27,r28,r29,rd,p2]
   refine call_to (auPlace_spec x hrl) ?_
   intro r5 H5 hv
   refine Hush.out ?_
   obtain ⟨⟨q5,rv5,ev5,x5⟩,rfl⟩:=hv
   have hup1:=hup sj (walkM E.l d sj).1 fj bj.rest.length (plM bj) a2 (by rw [← a3])
   have hst:=hsp (to':=bj.rest.length) (f:=fj) x5 a2 (show walkM E.l d sj=((walkM E.l d sj).1,true) by rw [← a3]) (hN.sub hssj hge) hKj (by simp [plM]; omega) (Room.up hrj up_pl (by omega))
   refine ⟨?_⟩
   simp (disch:=omega) only [go_sem,↓cB,dB,r0,r1,r2,r3,r4,r10,r27,r28,r29,rd]
   refine call_to hst ?_
   intro r6 H6 hv
   refine Hush.out ?_
   obtain ⟨q6,rv6,ev6,x6⟩:=hv
   have hu2:=up_pl.trans hup1.2.2
   refine ⟨?_⟩
   simp (disch:=omega) only [go_sem,↓cB,dB,r0,r1,r2,r3,r4,r10,r27,r28,r29,rd]
   refine fin ⟨ks.length - (j + 1),by omega,j + 1,(walkM E.l d sj).1,bj.rest.length,rv6,ev6,_,rfl,by omega,g2,by omega,(qn.trans q5).trans q6,x6,a4,hR,?_,Room.up hrj hu2 (by omega),by simp (disch:=omega) only [go_sem,↓cB,dB,r0,r1,r2,r3,r4,r10,r27,r28,r29,rd,hxj]⟩
   have:=hup1.2.2.1
   simp only [plM,List.length_append,List.length_singleton] at this ⊢
   omega
  ·have hjl':ks.length - 1=j:=by omega
   have hd1:ks.drop j = [ks.getD j 0]:=by
    rw [List.drop_eq_getElem_cons (by omega),List.drop_eq_nil_of_le (by omega)]
    simp [List.getD_eq_getElem?_getD,List.getElem?_eq_getElem (show j < ks.length by omega)]
   rw [hd1] at hwj hR
   obtain ⟨a1,a2,a3,a4⟩:=walkK_first hwj
   simp only [walkK,Prod.mk.injEq,and_true] at a4
   rw [hjl'] at r10 r27 r28
   generalize ks.getD j 0=y at *
   subst a1
   simp only [Int.toNat_natCast,seqM] at hR hKj
   have hst:=hsp (to':=to') (f:=fj) x a2 (show walkM E.l d sj=(e,true) by rw [← a4,← a3]) (hN.sub hssj (by omega)) hKj hfj (hrj.mono (by omega))
   simp (disch:=omega) only [go_sem,↓cB,dB,r0,r1,r2,r3,r4,r10,r27,r28,r29,rd,p2]
   refine call_to hst ?_
   intro r6 H6 hv
   refine Hush.out ?_
   obtain ⟨q6,rv6,ev6,x6⟩:=hv
   refine ⟨?_⟩
   try (simp (disch:=omega) only [go_sem,↓cB,dB,r0,r1,r2,r3,r4,r10,r27,r28,r29,rd])
   exact fin ⟨qn.trans q6,rv6,ev6,by rw [hR]; exact x6⟩
theorem blA_of (hz:Sz E.l) (hr:prRightM E.l=true) (hsq:SqA E st d):BlA E st (d + 1):=by
 intro H rv ev b k e f to' x hk hw h16 hN hf hroom
 have k8:=x.box.cell 8
 simp only [bC,gS,gZ] at k8
 have hgi:=getD_some (d:=nd0') hk
 obtain ⟨tb,to,tc,a,q1,q2,ar,-,-,-,-,kk,-⟩:=x.st.nl.row hgi
 have hnd:E.l.getD k nd0'=nodeAt E.l k:=rfl
 rw [hnd] at q2
 obtain ⟨nn,x1,c1,x2,c2,x3,c3,rfl⟩:=ar.open
 simp only at q2 kk
 subst q2
 rw [q1] at k8
 have hrd:=ar.k
 have hkc:=ar.kc
 simp only at hrd hkc
 have hlt:=(walkM_ok (d + 1) k e hk hw).1
 have hw':=hw
 unfold walkM at hw'
 have hseq:=hsq (node:=(k:Int)) (f:=f) (to':=to') x (by omega) hw' (hN.sub (by omega) (by omega)) (fun c hc=>(shp_of hr hk).blk h16 c hc) hrd hkc (hz.k k _ hgi) hf (hroom.mono (by omega))
 unfold blkM
 simp only [Int.toNat_natCast]
 refine callF_of Tryz.func88 rfl Tryz.ntmps88 Tryz.results88 (by decide) rfl ?_
 simp (disch:=omega) only [go_sem,↓cB,dB,k8,kk]
 refine call_to hseq ?_
 intro r6 H6 hv
 refine Hush.out ?_
 obtain ⟨q6,rv6,ev6,x6⟩:=hv
 refine ⟨?_⟩
 try (simp (disch:=omega) only [go_sem,↓cB,dB])
 exact fin ⟨q6,rv6,ev6,x6⟩
end
end Go.Proofs.YtmihefbdghjeoaaGreat
namespace Go.Proofs.YtmihefbdghjeoaaGreat
open Go.HL
set_option maxRecDepth 10000
section
variable {H:Heap} {E:AE} {rv ev:Value} {b:Bs} {st:StF} {dk:Nat}
theorem BM.edge_at (x:BM H E rv ev b) {i:Nat} {e:Ed} (hi:b.edges[i]?=some e):∃ a o c,ev=.slice (some ⟨a,o,none⟩) b.edges.length c∧∀ j,j < 8→cellH H ⟨a,o + i * 8 + j,none⟩=(edC e)[j]?:=by
 have hil:=(List.getElem?_eq_some_iff.1 hi).1
 have hlen:(b.edges.flatMap edC).length=b.edges.length * 8:=flat_len edL _
 obtain ⟨a,o,n,c,h1,h2,h3⟩:=x.ve.cell (by intro e; rw [e] at hlen; simp at hlen; omega)
 rw [hlen] at h2
 have:n=b.edges.length:=by omega
 subst this
 refine ⟨a,o,c,h1,fun j hj=>?_⟩
 rw [Nat.add_assoc,h3 (i * 8 + j) (by rw [hlen]; omega),flat_get edL hj _ i e hi]
theorem BM.kids (x:BM H E rv ev b) {k:Nat} (hk:k < E.l.length):∃ tb to tc a,E.tv=.slice (some ⟨tb,to,none⟩) E.l.length tc∧cellH H ⟨E.bb,8,none⟩=some (.slice (some ⟨tb,to,none⟩) E.l.length tc)∧AR H E.Sp a∧a.n=nodeAt E.l k ∧
  cellH H ⟨tb,to + k * 5,none⟩=some (iv (nodeAt E.l k).kind)∧cellH H ⟨tb,to + k * 5 + 3,none⟩=some a.kv:=by
 have k8:=x.box.cell 8
 simp only [bC,gS,gZ] at k8
 have hgi:=getD_some (d:=nd0') hk
 obtain ⟨tb,to,tc,a,q1,q2,ar,-,h0,-,-,kk,-⟩:=x.st.nl.row hgi
 rw [q1] at k8
 exact ⟨tb,to,tc,a,q1,k8,ar,q2,h0,kk⟩
set_option maxHeartbeats 4000000 in
theorem auChoose_spec (hz:Sz E.l) (hr:prRightM E.l=true) (hbl:BlA E st dk) (hup:BlUp E.l dk st) {kv:Value} {ks:List Int} {s e f:Nat} {to':Int} (x:BM H E rv ev b) (hs:s≤E.l.length) (hw:walkK E.l (walkM E.l dk) ks s=(e,true))
  (hK:∀ k ∈ ks,(nodeAt E.l k.toNat).kind=16) (hN:NmOk E.l E.m s e) (hkv:Rd H E.Sp 1 kv (ks.map iv)) (hkl:ks.length≤9223372036854775807) (hf:f < b.rest.length) (hroom:Room b (2 * (e - s) + 1)) :
  CallF Tryz.prog 89 [hp E.bb,kv,iv f,iv to'] H (fun r H'=>BQ E (choM E.l st ks f to' b) H H') NoP:=by
 obtain ⟨ax,cx,rfl⟩:=hkv.len1
 obtain ⟨R,hR⟩:∃ R,R=choM E.l st ks f to' b:=⟨_,rfl⟩
 rw [← hR]
 refine callF_of Tryz.func89 rfl Tryz.ntmps89 Tryz.results89 (by decide) rfl ?_
 simp (disch:=omega) only [go_sem,↓cB,dB]
 refine loop_by (fun k ρ H2=>∃ (j sj:Nat) (rv2 ev2:Value) (bj:Bs),k=ks.length - j∧j≤ks.length∧sj≤E.l.length∧s≤sj∧FS E.S H H2∧BM H2 E rv2 ev2 bj∧walkK E.l (walkM E.l dk) (ks.drop j) sj=(e,true)∧R=choM E.l st (ks.drop j) f to' bj∧f < bj.rest.length∧Room bj (2 * (e - sj) + 1) ∧
   (ρ.get 0=hp E.bb∧ρ.get 2=iv f∧ρ.get 3=iv to'∧ρ.get 12=.slice ax ks.length cx∧ρ.get 13=iv ks.length∧ρ.get 14=iv j∧ρ.ds = [])) (k:=ks.length) ?_ ?_
 ·exact ⟨0,s,rv,ev,b,rfl,by omega,hs,by omega,FS.refl,x,hw,hR,hf,hroom,by simp (disch:=omega) only [go_sem,↓cB,dB]⟩
 ·clear x hR
  rintro k ρ H2 ⟨j,sj,rv2,ev2,bj,rfl,hj,hsj,hssj,qn,x,hwj,hR,hfj,hrj,r0,r2,r3,r12,r13,r14,rd⟩
  have hxj:(j:Int) + 1=((j + 1:Nat):Int):=by omega
  by_cases hjn:j < ks.length
  rotate_left
  ·obtain rfl:j=ks.length:=by omega
   rw [List.drop_length] at hR
   simp only [choM] at hR
   simp (disch:=omega) only [go_sem,↓cB,dB,r0,r2,r3,r12,r13,r14,rd]
   exact fin ⟨qn,rv2,ev2,by rw [hR]; exact x⟩
  have hkk:=hkv.frame (show Keeps E.Sp H H2 from fun y hy hl=>qn.same y hl hy)
  have hgj:=getD_some (d:=(0:Int)) (l:=ks) (i:=j) hjn
  obtain ⟨kb,ko,kc,p1,-,p2⟩:=hkk.at1 hgj
  simp only [Value.slice.injEq,true_and] at p1
  obtain ⟨rfl,rfl⟩:=p1
  have h16:=hK _ (List.mem_of_getElem? hgj)
  have hd1:ks.drop j=ks.getD j 0 :: ks.drop (j + 1):=by
   rw [List.drop_eq_getElem_cons hjn]; congr 1; simp [List.getD_eq_getElem?_getD,List.getElem?_eq_getElem hjn]
  rw [hd1] at hwj hR
  obtain ⟨a1,a2,a3,a4⟩:=walkK_first hwj
  generalize ks.getD j 0=y at *
  subst a1
  simp only [Int.toNat_natCast] at h16
  have hwk:walkM E.l dk sj=((walkM E.l dk sj).1,true):=by rw [← a3]
  obtain ⟨g1,g2,-⟩:=hup sj (walkM E.l dk sj).1 0 0 bj a2 hwk
  have hge:(walkM E.l dk sj).1≤e:=(walkK_ok (l:=E.l) (ih:=walkM E.l dk) (Q:=fun _=>True) (fun i e h1 h2=>by have:=hup i e 0 0 bj h1 h2; exact ⟨this.1,this.2.1,fun _ _ _=>trivial⟩) _ _ e g2 a4).1
  unfold choM at hR
  obtain ⟨tb,to,tc,a,q1,k8,ar,hna,kd,kk⟩:=x.kids a2
  obtain ⟨nn,x1,c1,x2,c2,x3,c3,rfl⟩:=ar.open
  simp only at hna kk
  subst hna
  have hrk:=ar.k
  simp only at hrk
  have hNk:=hN.sub hssj hge
  by_cases hlo:loopK E.l (sj:Int)=true
  ·rw [if_pos hlo] at hR
   unfold loopK at hlo
   simp only [Int.toNat_natCast,Bool.and_eq_true,decide_eq_true_eq] at hlo
   obtain ⟨hlo1,hlo2⟩:=hlo
   obtain ⟨mb,mo,mc,m1,-,m2⟩:=hrk.at1 (getD_some (d:=(0:Int)) hlo1)
   simp only [Value.slice.injEq,true_and] at m1
   obtain ⟨rfl,rfl⟩:=m1
   rw [Nat.add_zero] at m2
   have hk0r:=kid_rng hr a2 (kid_at hlo1)
   have ek0:(nodeAt E.l sj).kids.getD 0 0=k0 (nodeAt E.l sj):=rfl
   rw [ek0] at m2 hk0r
   obtain ⟨mk,hmk⟩:∃ mk:Nat,k0 (nodeAt E.l sj)=mk:=⟨(k0 (nodeAt E.l sj)).toNat,by omega⟩
   rw [hmk] at m2 hk0r hlo2
   simp only [Int.toNat_natCast] at hlo2
   obtain ⟨tb',to',tc',a',q1',-,-,-,kd',-⟩:=x.kids (k:=mk) (by omega)
   rw [q1] at q1'
   simp only [Value.slice.injEq,Option.some.injEq,Addr.mk.injEq,and_true,true_and] at q1'
   obtain ⟨⟨rfl,rfl⟩,rfl⟩:=q1'
   rw [hlo2] at kd'
   have hrl:bj.rest.length≤1000000:=by unfold Room at hrj; omega
   have hml:mk < E.l.length:=by omega
   simp (disch:=omega) only [go_sem,↓cB,dB,r0,r2,r3,r12,r13,r14,rd,p2,k8,kk]
   refine draw0 (lk [(0,true),(1,true),(2,true),(3,true),(4,true),(5,true),(6,true),(7,true),(8,true),(9,true),(10,true),(11,true),(12,true),(13,true),(14,true),(15,true)] .fin) T.mixed ?_
   simp (disch:=omega) only [go_sem,↓cB,dB,r0,r2,r3,r12,r13,r14,rd,p2,k8,kk,m2,kd']
   refine call_to (auPlace_spec x hrl) ?_
   intro r5 H5 hv
   refine Hush.out ?_
   obtain ⟨⟨q5,rv5,ev5,x5⟩,rfl⟩:=hv
   refine ⟨?_⟩
   simp (disch:=omega) only [go_sem,↓cB,dB,r0,r2,r3,r12,r13,r14,rd]
   refine call_to (auEdge_spec x5 (by unfold Room at hrj; simp [plM]; omega)) ?_
   intro r6 H6 hv
   refine Hush.out ?_
   obtain ⟨q6,rv6,a6,o6,c6,rfl,x6⟩:=hv
   have hu1:Up 1 bj (putM (plM bj) (edge0 sj 0 f bj.rest.length)):=up_plput
   have hup1:=hup sj (walkM E.l dk sj).1 bj.rest.length to' (putM (plM bj) (edge0 sj 0 f bj.rest.length)) a2 hwk
   have hst:=hbl (to':=to') (f:=bj.rest.length) x6 a2 hwk h16 hNk (by simp [plM,putM]) (Room.up hrj hu1 (by omega))
   refine ⟨?_⟩
   simp (disch:=omega) only [go_sem,↓cB,dB,r0,r2,r3,r12,r13,r14,rd]
   refine call_to hst ?_
   intro r7 H7 hv
   refine Hush.out ?_
   obtain ⟨q7,rv7,ev7,x7⟩:=hv
   have hu2:=hu1.trans hup1.2.2
   refine ⟨?_⟩
   simp (disch:=omega) only [go_sem,↓cB,dB,r0,r2,r3,r12,r13,r14,rd]
   refine fin ⟨ks.length - (j + 1),by omega,j + 1,(walkM E.l dk sj).1,rv7,ev7,_,rfl,by omega,g2,by omega,((qn.trans q5).trans q6).trans q7,x7,a4,hR,?_,Room.up hrj hu2 (by omega),by simp (disch:=omega) only [go_sem,↓cB,dB,r0,r2,r3,r12,r13,r14,rd,hxj]⟩
   have:=hu2.1
   omega
  ·rw [if_neg hlo] at hR
   unfold loopK at hlo
   simp only [Int.toNat_natCast,Bool.and_eq_true,decide_eq_true_eq] at hlo
   have hup1:=hup sj (walkM E.l dk sj).1 f to' bj a2 hwk
   have hst:=hbl (to':=to') (f:=f) x a2 hwk h16 hNk hfj (hrj.mono (by omega))
   have tail:∀ {H7:Heap},BQ E (blkM E.l st sj f to' bj) H2 H7→∃ (j' sj':Nat) (rv2 ev2:Value) (b':Bs),ks.length - (j + 1)=ks.length - j'∧j'≤ks.length∧sj'≤E.l.length∧s≤sj'∧FS E.S H H7∧BM H7 E rv2 ev2 b'∧walkK E.l (walkM E.l dk) (ks.drop j') sj'=(e,true)∧R=choM E.l st (ks.drop j') f to' b'∧f < b'.rest.length∧Room b' (2 * (e - sj') + 1)∧j'=j + 1:=by
    rintro H7 ⟨q7,rv7,ev7,x7⟩
    exact ⟨j + 1,(walkM E.l dk sj).1,rv7,ev7,_,rfl,by omega,g2,by omega,qn.trans q7,x7,a4,hR,by have:=hup1.2.2.1; omega,Room.up hrj hup1.2.2 (by omega),rfl⟩
   by_cases hlo1:0 < (nodeAt E.l sj).kids.length
   ·obtain ⟨mb,mo,mc,m1,-,m2⟩:=hrk.at1 (getD_some (d:=(0:Int)) hlo1)
    simp only [Value.slice.injEq,true_and] at m1
    obtain ⟨rfl,rfl⟩:=m1
    rw [Nat.add_zero] at m2
    have hk0r:=kid_rng hr a2 (kid_at hlo1)
    have ek0:(nodeAt E.l sj).kids.getD 0 0=k0 (nodeAt E.l sj):=rfl
    rw [ek0] at m2 hk0r
    obtain ⟨mk,hmk⟩:∃ mk:Nat,k0 (nodeAt E.l sj)=mk:=⟨(k0 (nodeAt E.l sj)).toNat,by omega⟩
    rw [hmk] at m2 hk0r hlo
    simp only [Int.toNat_natCast] at hlo
    have hk12:¬ (nodeAt E.l mk).kind=12:=fun e=>hlo ⟨hlo1,e⟩
    obtain ⟨tb',to',tc',a',q1',-,-,-,kd',-⟩:=x.kids (k:=mk) (by omega)
    rw [q1] at q1'
    simp only [Value.slice.injEq,Option.some.injEq,Addr.mk.injEq,and_true,true_and] at q1'
    obtain ⟨⟨rfl,rfl⟩,rfl⟩:=q1'
    have hml:mk < E.l.length:=by omega
    simp (disch:=omega) only [go_sem,↓cB,dB,r0,r2,r3,r12,r13,r14,rd,p2,k8,kk]
    refine draw0 (lk [(0,true),(1,true),(2,true),(3,true),(4,true),(5,true),(6,true),(7,true),(8,true),(9,true),(10,true),(11,true),(12,true),(13,true),(14,true),(15,true)] .fin) T.mixed ?_
    simp (disch:=omega) only [go_sem,↓cB,dB,r0,r2,r3,r12,r13,r14,rd,p2,k8,kk,m2,kd']
    refine call_to hst ?_
    intro r7 H7 hv
    refine Hush.out ?_
    obtain ⟨j',sj',rv7,ev7,b',t1,t2,t3,t4,t5,t6,t7,t8,t9,t10,rfl⟩:=tail hv
    refine ⟨?_⟩
    simp (disch:=omega) only [go_sem,↓cB,dB,r0,r2,r3,r12,r13,r14,rd]
    exact fin ⟨ks.length - (j + 1),by omega,j + 1,sj',rv7,ev7,b',t1,t2,t3,t4,t5,t6,t7,t8,t9,t10,by simp (disch:=omega) only [go_sem,↓cB,dB,r0,r2,r3,r12,r13,r14,rd,hxj]⟩
   ·have hlo0:(nodeAt E.l sj).kids.length=0:=by omega
    rw [hlo0] at kk
    simp (disch:=omega) only [go_sem,↓cB,dB,r0,r2,r3,r12,r13,r14,rd,p2,k8,kk]
    refine draw0 (lk [(0,true),(1,true),(2,true),(3,true),(4,true),(5,true),(6,true),(7,true),(8,true),(9,true),(10,true),(11,true),(12,true),(13,true),(14,true),(15,true)] .fin) T.mixed ?_
    simp (disch:=omega) only [go_sem,↓cB,dB,r0,r2,r3,r12,r13,r14,rd,p2,k8,kk]
    refine call_to hst ?_
    intro r7 H7 hv
    refine Hush.out ?_
    obtain ⟨j',sj',rv7,ev7,b',t1,t2,t3,t4,t5,t6,t7,t8,t9,t10,rfl⟩:=tail hv
    refine ⟨?_⟩
    simp (disch:=omega) only [go_sem,↓cB,dB,r0,r2,r3,r12,r13,r14,rd]
    exact fin ⟨ks.length - (j + 1),by omega,j + 1,sj',rv7,ev7,b',t1,t2,t3,t4,t5,t6,t7,t8,t9,t10,by simp (disch:=omega) only [go_sem,↓cB,dB,r0,r2,r3,r12,r13,r14,rd,hxj]⟩
end
end Go.Proofs.YtmihefbdghjeoaaGreat
namespace Go.Proofs.YtmihefbdghjeoaaGreat
open Go.HL
set_option maxRecDepth 10000
def markE (m i:Nat) (to':Int) (L:List Ed):List Ed:=L.mapIdx fun k e=>if m≤k∧k < i then keepE to' e else e
theorem mark_none {m i:Nat} {to':Int} {L:List Ed} (h:i≤m):markE m i to' L=L:=by
 unfold markE
 apply List.ext_getElem?
 intro k
 rw [List.getElem?_mapIdx]
 cases hk:L[k]? with
 | none=>rfl
 | some e=>simp only [Option.map_some]; rw [if_neg (by omega)]
theorem mark_step {m i:Nat} {to':Int} {L:List Ed} {e:Ed} (hm:m≤i) (h:L[i]?=some e):(markE m i to' L)[i]?=some e∧(markE m i to' L).set i (keepE to' e)=markE m (i + 1) to' L:=by
 have hil:=(List.getElem?_eq_some_iff.1 h).1
 unfold markE
 constructor
 ·rw [List.getElem?_mapIdx,h]; simp
 ·apply List.ext_getElem?
  intro k
  rw [List.getElem?_set,List.getElem?_mapIdx,List.getElem?_mapIdx,List.length_mapIdx]
  by_cases hki:i=k
  ·subst hki
   rw [if_pos rfl,if_pos hil,h]
   simp only [Option.map_some]
   rw [if_pos ⟨hm,by omega⟩]
  ·rw [if_neg hki]
   cases hk:L[k]? with
   | none=>rfl
   | some e' =>
    simp only [Option.map_some]
    by_cases c:m≤k∧k < i
    ·rw [if_pos c,if_pos ⟨c.1,by omega⟩]
    ·rw [if_neg c,if_neg (by omega)]
theorem mark_end {m:Nat} {to':Int} {L:List Ed} (hm:m≤L.length):markE m L.length to' L=L.take m ++ (L.drop m).map (keepE to'):=by
 unfold markE
 apply List.ext_getElem?
 intro k
 rw [List.getElem?_mapIdx]
 by_cases hk:k < m
 ·rw [List.getElem?_append_left (by rw [List.length_take]; omega),List.getElem?_take,if_pos hk]
  cases L[k]? with
  | none=>rfl
  | some e=>simp only [Option.map_some]; rw [if_neg (by omega)]
 ·rw [List.getElem?_append_right (by rw [List.length_take]; omega),List.length_take,Nat.min_eq_left hm,List.getElem?_map,List.getElem?_drop,show m + (k - m)=k by omega]
  cases hkk:L[k]? with
  | none=>rfl
  | some e =>
   have:=(List.getElem?_eq_some_iff.1 hkk).1
   simp only [Option.map_some]; rw [if_pos ⟨by omega,this⟩]
section
variable {H:Heap} {E:AE} {rv ev:Value} {b:Bs} {st:StF} {dk:Nat}
set_option maxHeartbeats 4000000 in
theorem auAtomic_spec (hbl:BlA E st dk) (hup:BlUp E.l dk st) {k e f:Nat} {to':Int} (x:BM H E rv ev b) (hk:k < E.l.length) (hw:walkM E.l dk k=(e,true))
  (h16:(nodeAt E.l k).kind=16) (hN:NmOk E.l E.m k e) (hf:f < b.rest.length) (hroom:Room b (2 * (e - k))) :
  CallF Tryz.prog 90 [hp E.bb,iv k,iv f,iv to'] H (fun r H'=>BQ E (kepM b.edges.length to' (blkM E.l st k f to' b)) H H') NoP:=by
 have k5:=x.box.cell 5
 simp only [bC,gS,gZ] at k5
 obtain ⟨a1,c1,a2,c2,e1,e2⟩:=x.forms
 rw [e2] at k5
 have hst:=hbl (to':=to') (f:=f) x hk hw h16 hN hf hroom
 have hup1:=(hup k e f to' b hk hw).2.2
 obtain ⟨B,hB⟩:∃ B,B=blkM E.l st k f to' b:=⟨_,rfl⟩
 rw [← hB] at hst hup1 ⊢
 have hBl:b.edges.length≤B.edges.length∧B.edges.length≤100000:=by unfold Up Room at *; omega
 generalize hm:b.edges.length=m at *
 refine callF_of Tryz.func90 rfl Tryz.ntmps90 Tryz.results90 (by decide) rfl ?_
 simp (disch:=omega) only [go_sem,↓cB,dB,k5]
 refine call_to hst ?_
 intro r1 H1 hv
 refine Hush.out ?_
 obtain ⟨q1,rv1,ev1,x1⟩:=hv
 refine ⟨?_⟩
 simp (disch:=omega) only [go_sem,↓cB,dB]
 refine loop_by (fun q ρ H2=>∃ i:Nat,q=B.edges.length - i∧m≤i∧i≤B.edges.length∧FS E.S H H2∧BM H2 E rv1 ev1 { B with edges:=markE m i to' B.edges } ∧
   (ρ.get 0=hp E.bb∧ρ.get 3=iv to'∧ρ.get 9=iv i∧ρ.ds = [])) (k:=B.edges.length - m) ?_ ?_
 ·refine ⟨m,rfl,by omega,by omega,q1,?_,by simp (disch:=omega) only [go_sem,↓cB,dB]⟩
  rw [mark_none (Nat.le_refl _)]; exact x1
 ·rintro q ρ H2 ⟨i,rfl,hmi,hi,qn,x2,r0,r3,r9,rd⟩
  have hxi:(i:Int) + 1=((i + 1:Nat):Int):=by omega
  have k5':=x2.box.cell 5
  simp only [bC,gS,gZ] at k5'
  obtain ⟨a3,c3,a4,c4,e3,e4⟩:=x2.forms
  have hml:(markE m i to' B.edges).length=B.edges.length:=by unfold markE; rw [List.length_mapIdx]
  simp only [hml] at e4
  rw [e4] at k5'
  by_cases hil:i < B.edges.length
  rotate_left
  ·obtain rfl:i=B.edges.length:=by omega
   simp (disch:=omega) only [go_sem,↓cB,dB,r0,r3,r9,rd,k5']
   refine fin ⟨qn,rv1,ev1,?_⟩
   rw [mark_end hBl.1] at x2
   exact x2
  obtain ⟨ed,hed⟩:∃ ed,B.edges[i]?=some ed:=⟨_,List.getElem?_eq_getElem hil⟩
  obtain ⟨s1,s2⟩:=mark_step (to':=to') hmi hed
  obtain ⟨a,o,c,e5,rdc⟩:=x2.edge_at s1
  rw [e4] at e5
  simp only [Value.slice.injEq] at e5
  obtain ⟨rfl,-,rfl⟩:=e5
  have hto:=rdc 1 (by omega)
  simp only [edC,gS,gZ] at hto
  obtain ⟨a6,o6,c6,e6,w6,x6,q6⟩:=x2.cell (j:=6) (u:=.bool (keepE to' ed).keep) (e':=keepE to' ed) s1 (by omega) rfl
  rw [e4] at e6
  simp only [Value.slice.injEq,Option.some.injEq,Addr.mk.injEq,and_true,true_and] at e6
  obtain ⟨⟨rfl,rfl⟩,-,rfl⟩:=e6
  rw [← Nat.add_assoc] at w6 x6 q6
  simp only [s2] at x6
  have hkeep:(keepE to' ed).keep=(!decide (ed.to'=to') && !decide (ed.to'=1)):=rfl
  by_cases d1:ed.to'=to'
  ·rw [hkeep,d1] at w6 x6 q6
   simp only [decide_true,Bool.not_true,Bool.false_and] at w6 x6 q6
   simp (disch:=omega) only [go_sem,↓cB,dB,r0,r3,r9,rd,k5',hto,w6,d1]
   exact fin ⟨B.edges.length - (i + 1),by omega,i + 1,rfl,by omega,by omega,qn.trans q6,x6,by simp (disch:=omega) only [go_sem,↓cB,dB,r0,r3,r9,rd,hxi]⟩
  by_cases d2:ed.to'=1
  ·rw [hkeep,d2] at w6 x6 q6
   have d1':¬ (1:Int)=to':=by rw [← d2]; exact d1
   simp only [decide_true,Bool.not_true,Bool.and_false] at w6 x6 q6
   have hd2:decide (ed.to' ≠ 1)=false:=by simp [d2]
   simp (disch:=omega) only [go_sem,↓cB,dB,r0,r3,r9,rd,k5',hto,hd2,w6]
   exact fin ⟨B.edges.length - (i + 1),by omega,i + 1,rfl,by omega,by omega,qn.trans q6,x6,by simp (disch:=omega) only [go_sem,↓cB,dB,r0,r3,r9,rd,hxi]⟩
  rw [hkeep,decide_eq_false d1,decide_eq_false d2] at w6 x6 q6
  simp only [Bool.not_false,Bool.and_self] at w6 x6 q6
  have hd2:decide (ed.to' ≠ 1)=true:=by simp [d2]
  simp (disch:=omega) only [go_sem,↓cB,dB,r0,r3,r9,rd,k5',hto,hd2,w6]
  exact fin ⟨B.edges.length - (i + 1),by omega,i + 1,rfl,by omega,by omega,qn.trans q6,x6,by simp (disch:=omega) only [go_sem,↓cB,dB,r0,r3,r9,rd,hxi]⟩
set_option maxHeartbeats 4000000 in
theorem auBranch_spec (hr:prRightM E.l=true) (hbl:BlA E st dk) (hup:BlUp E.l dk st) {i e f:Nat} {to':Int} (x:BM H E rv ev b) (hi:i < E.l.length) (hw:walkM E.l (dk + 1) i=(e,true))
  (h11:(nodeAt E.l i).kind=11) (hN:NmOk E.l E.m i e) (hf:f < b.rest.length) (hroom:Room b (2 * (e - i))) :
  CallF Tryz.prog 87 [hp E.bb,iv i,iv f,iv to'] H (fun r H'=>BQ E (stepA E.l E.m st i f to' b) H H') NoP:=by
 obtain ⟨o1,o2,-⟩:=walkM_ok (dk + 1) i e hi hw
 have sh:=shp_of hr hi
 have hw':=hw
 unfold walkM at hw'
 have hks:(E.l.getD i nd0').kids=(nodeAt E.l i).kids:=rfl
 rw [hks] at hw'
 obtain ⟨hl,h16a,h16b⟩:=sh.iff h11
 obtain ⟨u1,u2,u3,u4⟩:=kids_1 hw' (by omega)
 obtain ⟨u5,u6,-⟩:=walkM_ok dk (i + 1) _ u2 u3
 obtain ⟨v1,v2,v3,v4⟩:=kids_1 u4 (by rw [List.length_tail]; omega)
 rw [getD_tail] at v1
 obtain ⟨m1,hm1⟩:∃ m1,m1=(walkM E.l dk (i + 1)).1:=⟨_,rfl⟩
 obtain ⟨m2,hm2⟩:∃ m2,m2=(walkM E.l dk m1).1:=⟨_,rfl⟩
 rw [← hm1] at u6 v1 v2 v3 v4 u5
 rw [← hm2] at v3 v4
 obtain ⟨v5,v6,-⟩:=walkM_ok dk m1 m2 v2 v3
 have hk1:k1 (nodeAt E.l i)=(m1:Int):=v1
 rw [hk1] at h16a
 simp only [Int.toNat_natCast] at h16a
 have hm2e:m2≤e:=(walkK_ok (l:=E.l) (ih:=walkM E.l dk) (Q:=fun _=>True) (fun i e h1 h2=>by have:=walkM_ok dk i e h1 h2; exact ⟨this.1,this.2.1,fun _ _ _=>trivial⟩) _ _ e v6 v4).1
 obtain ⟨tb,to,tc,a,q1,k8,ar,hna,kd,kk⟩:=x.kids hi
 obtain ⟨nn,x1,c1,x2,c2,x3,c3,rfl⟩:=ar.open
 simp only at hna kk
 subst hna
 have hrk:=ar.k
 simp only at hrk
 obtain ⟨kb,ko,kc,p1,hkS,p2⟩:=hrk.at1 (getD_some (d:=(0:Int)) (i:=1) (by omega))
 simp only [Value.slice.injEq,true_and] at p1
 obtain ⟨rfl,rfl⟩:=p1
 have e1:(nodeAt E.l i).kids.getD 1 0=(m1:Int):=hk1
 rw [e1] at p2
 have keep:∀ {H2:Heap},FS E.S H H2→Keeps E.Sp H H2:=fun qn y hy hl=>qn.same y hl hy
 have hrl:b.rest.length≤1000000:=by unfold Room at hroom; omega
 have hl0:0 < (nodeAt E.l i).kids.length:=by omega
 have hstep:stepA E.l E.m st i f to' b=(if (nodeAt E.l i).kids.length < 3 then putM (blkM E.l st (k1 (nodeAt E.l i)) b.rest.length to' (putM (plM b) ⟨f,b.rest.length,4,k0 (nodeAt E.l i),-1,-1,false,i⟩)) ⟨f,to',5,k0 (nodeAt E.l i),-1,-1,false,i⟩
  else blkM E.l st (k2 (nodeAt E.l i)) (blkM E.l st (k1 (nodeAt E.l i)) b.rest.length to' (putM (plM b) ⟨f,b.rest.length,4,k0 (nodeAt E.l i),-1,-1,false,i⟩)).rest.length to' (putM (plM (blkM E.l st (k1 (nodeAt E.l i)) b.rest.length to' (putM (plM b) ⟨f,b.rest.length,4,k0 (nodeAt E.l i),-1,-1,false,i⟩))) ⟨f,(blkM E.l st (k1 (nodeAt E.l i)) b.rest.length to' (putM (plM b) ⟨f,b.rest.length,4,k0 (nodeAt E.l i),-1,-1,false,i⟩)).rest.length,5,k0 (nodeAt E.l i),-1,-1,false,i⟩)):=by
  unfold stepA
  simp only
  rw [if_neg (by omega),if_neg (by omega),if_neg (by omega),if_neg (by omega),if_neg (by omega),if_pos h11]
 obtain ⟨B0,hB0⟩:∃ B0,B0=putM (plM b) ⟨f,b.rest.length,4,k0 (nodeAt E.l i),-1,-1,false,i⟩:=⟨_,rfl⟩
 rw [← hB0,hk1] at hstep
 obtain ⟨B1,hB1⟩:∃ B1,B1=blkM E.l st (m1:Int) b.rest.length to' B0:=⟨_,rfl⟩
 rw [← hB1] at hstep
 rw [hstep]
 have hu0:Up 1 b B0:=by rw [hB0]; exact up_plput
 have hu1:Up (2 * (m2 - m1) - 1) B0 B1:=by rw [hB1]; exact (hup m1 m2 b.rest.length to' B0 v2 v3).2.2
 have hu01:=hu0.trans hu1
 refine callF_of Tryz.func87 rfl Tryz.ntmps87 Tryz.results87 (by decide) rfl ?_
 simp (disch:=omega) only [go_sem,↓cB,dB,k8,kk]
 refine call_to (auPlace_spec x hrl) ?_
 intro r1 H1 hv
 refine Hush.out ?_
 obtain ⟨⟨qa,rva,eva,xa⟩,rfl⟩:=hv
 refine ⟨?_⟩
 simp (disch:=omega) only [go_sem,↓cB,dB]
 refine call_to (auTest_spec xa (by unfold Room at hroom; simp [plM]; omega) hi hl0) ?_
 intro r2 H2 hv
 refine Hush.out ?_
 obtain ⟨qb,rvb,evb,xb⟩:=hv
 rw [← hB0] at xb
 have qab:=qa.trans qb
 have hp2:=(keep qab).cell hkS p2
 have hblk:=hbl (to':=to') (f:=b.rest.length) xb v2 v3 h16a (hN.sub (by omega) hm2e) (by unfold Up at hu0; rw [hB0]; simp [putM,plM]) (Room.up hroom hu0 (by omega))
 rw [← hB1] at hblk
 refine ⟨?_⟩
 simp (disch:=omega) only [go_sem,↓cB,dB,hp2]
 refine call_to hblk ?_
 intro r3 H3 hv
 refine Hush.out ?_
 obtain ⟨qc,rvc,evc,xc⟩:=hv
 have qac:=qab.trans qc
 refine ⟨?_⟩
 by_cases hl3:(nodeAt E.l i).kids.length < 3
 ·rw [if_pos hl3]
  simp (disch:=omega) only [go_sem,↓cB,dB]
  refine call_to (auTest_spec xc (by unfold Room Up at *; omega) hi hl0) ?_
  intro r4 H4 hv
  refine Hush.out ?_
  obtain ⟨qd,rvd,evd,xd⟩:=hv
  refine ⟨?_⟩
  try (simp (disch:=omega) only [go_sem,↓cB,dB])
  exact fin ⟨qac.trans qd,rvd,evd,xd⟩
 ·rw [if_neg hl3]
  have hl3':(nodeAt E.l i).kids.length=3:=by omega
  obtain ⟨w1',w2,w3,w4⟩:=kids_1 v4 (by rw [List.length_tail,List.length_tail]; omega)
  rw [getD_tail,getD_tail] at w1'
  have hk2:k2 (nodeAt E.l i)=(m2:Int):=w1'
  have hnil:(nodeAt E.l i).kids.tail.tail.tail = []:=by
   apply List.eq_nil_of_length_eq_zero; rw [List.length_tail,List.length_tail,List.length_tail]; omega
  rw [hnil] at w4
  simp only [walkK,Prod.mk.injEq,and_true] at w4
  rw [w4] at w3
  have h16c:=h16b hl3'
  rw [hk2] at h16c ⊢
  simp only [Int.toNat_natCast] at h16c
  obtain ⟨kb',ko',kc',p1',hkS',p3⟩:=hrk.at1 (getD_some (d:=(0:Int)) (i:=2) (by omega))
  simp only [Value.slice.injEq,Option.some.injEq,Addr.mk.injEq,and_true,true_and] at p1'
  obtain ⟨⟨rfl,rfl⟩,rfl⟩:=p1'
  have e2:(nodeAt E.l i).kids.getD 2 0=(m2:Int):=hk2
  rw [e2] at p3
  simp (disch:=omega) only [go_sem,↓cB,dB]
  refine call_to (auPlace_spec xc (by unfold Room Up at *; omega)) ?_
  intro r4 H4 hv
  refine Hush.out ?_
  obtain ⟨⟨qd,rvd,evd,xd⟩,rfl⟩:=hv
  refine ⟨?_⟩
  simp (disch:=omega) only [go_sem,↓cB,dB]
  refine call_to (auTest_spec xd (by unfold Room Up at *; simp [plM]; omega) hi hl0) ?_
  intro r5 H5 hv
  refine Hush.out ?_
  obtain ⟨qe,rve,eve,xe⟩:=hv
  have qae:=(qac.trans qd).trans qe
  have hp3:=(keep qae).cell hkS' p3
  obtain ⟨B2,hB2⟩:∃ B2,B2=putM (plM B1) ⟨f,B1.rest.length,5,k0 (nodeAt E.l i),-1,-1,false,i⟩:=⟨_,rfl⟩
  rw [← hB2] at xe ⊢
  have hu2:Up 1 B1 B2:=by rw [hB2]; exact up_plput
  have hu02:=hu01.trans hu2
  have hblk2:=hbl (to':=to') (f:=B1.rest.length) xe w2 w3 h16c (hN.sub (by omega) (Nat.le_refl _)) (by rw [hB2]; simp [putM,plM]) (Room.up hroom hu02 (by omega))
  refine ⟨?_⟩
  simp (disch:=omega) only [go_sem,↓cB,dB,hp3]
  refine call_to hblk2 ?_
  intro r6 H6 hv
  refine Hush.out ?_
  obtain ⟨qf,rvf,evf,xf⟩:=hv
  refine ⟨?_⟩
  try (simp (disch:=omega) only [go_sem,↓cB,dB])
  exact fin ⟨qae.trans qf,rvf,evf,xf⟩
end
end Go.Proofs.YtmihefbdghjeoaaGreat
namespace Go.Proofs.YtmihefbdghjeoaaGreat
open Go.HL
set_option maxRecDepth 10000
theorem hld_mem {H:Heap} {a:Addr} {v:Value}:∀ {L:List Addr},lookA (hldL H L) a=some v→a ∈ L
 | [],h=>by simp [hldL,lookA] at h
 | b :: r,h=>by
  unfold hldL at h
  split at h
  ·unfold lookA at h
   split at h
   ·rename_i e
    simp only at e
    subst e
    simp
   ·exact List.mem_cons_of_mem _ (hld_mem h)
  ·exact List.mem_cons_of_mem _ (hld_mem h)
theorem hld_fs {hl:List (Addr × Value)} {S:Nat→Prop} {H H':Heap} (h:heldOK hl H) (f:FS S H H') (hd:∀ a v,lookA hl a=some v→S a.block):heldOK hl H':=by
 intro a v e
 have hc:=h a v e
 have hlt:=cell_lt hc
 unfold cellH at hc ⊢
 rw [f.same a.block hlt (hd a v e)]; exact hc
def AE.and (E:AE) (nb:Nat):AE:={ E with S:=fun y=>E.S y∨y=nb }
section
variable {H H':Heap} {E:AE} {rv ev:Value} {b:Bs} {st:StF} {dk nb:Nat}
theorem BM.more (x:BM H E rv ev b) (h0:nb < H.size) (h1:nb ≠ E.bb) (h2:∀ y ∈ own rv,y ≠ nb) (h3:∀ y ∈ own ev,y ≠ nb):BM H (E.and nb) rv ev b:=by
 have s:=x.st
 refine ⟨x.box,x.vr,fun y hy=>⟨?_,(x.or' y hy).2⟩,x.ve,fun y hy=>⟨?_,(x.oe y hy).2⟩,x.dre,⟨s.nl.mono (fun y hy _=>.inl hy),s.nm.mono (fun y hy _=>.inl hy),s.vs.mono (fun y hy _=>.inl hy),s.ch.mono (fun y hy _=>.inl hy),s.hc,s.hv,s.ln,s.lc,?_,?_⟩⟩
 ·rintro (h | h)
  ·exact (x.or' y hy).1 h
  ·exact h2 y hy h
 ·rintro (h | h)
  ·exact (x.oe y hy).1 h
  ·exact h3 y hy h
 ·rintro (h | h)
  ·exact s.low h
  ·exact h1 h.symm
 ·rintro y (h | h)
  ·exact s.sz y h
  ·omega
theorem BM.less (x:BM H (E.and nb) rv ev b) (s:Sta H E):BM H E rv ev b :=
 ⟨x.box,x.vr,fun y hy=>⟨fun h=>(x.or' y hy).1 (.inl h),(x.or' y hy).2⟩,x.ve,fun y hy=>⟨fun h=>(x.oe y hy).1 (.inl h),(x.oe y hy).2⟩,x.dre,s⟩
theorem BQ.less {A:Heap} (f0:FS E.S H A) (s:Sta A E) (h:BQ (E.and nb) b A H'):BQ E b H H':=by
 obtain ⟨q,rv',ev',x⟩:=h
 have q':FS E.S A H':=q.sub (fun y hy=>.inl hy)
 exact ⟨f0.trans q',rv',ev',x.less (s.frame q')⟩
theorem wok_of {l:List Nd} (h:prRightM l=true) {i:Nat} (hi:i < l.length):(nodeAt l i).words.length=wcount (nodeAt l i).kind:=(right_facts h).2.2.1 i _ (getD_some hi)
set_option maxHeartbeats 2000000 in
theorem stA_of (hz:Sz E.l) (hr:prRightM E.l=true) (hbl:∀ nb,BlA (E.and nb) st dk) (hup:BlUp E.l dk st):SpA E (stepA E.l E.m st) (dk + 1):=by
 intro H rv ev b i e f to' x0 hi hw hN hK hf hroom
 obtain ⟨o1,o2,-⟩:=walkM_ok (dk + 1) i e hi hw
 have sh:=shp_of hr hi
 have hwo:=wok_of hr hi
 have hnu:=(numsOk_of hr hi).1
 have hw':=hw
 unfold walkM at hw'
 have hks:(E.l.getD i nd0').kids=(nodeAt E.l i).kids:=rfl
 rw [hks] at hw'
 have k8:=x0.box.cell 8
 simp only [bC,gS,gZ] at k8
 have hgi:=getD_some (d:=nd0') hi
 obtain ⟨tb,to,tc,a,q1,q2,ar,ld,-⟩:=x0.st.nl.row hgi
 have hnd:E.l.getD i nd0'=nodeAt E.l i:=rfl
 rw [hnd] at q2 ld
 obtain ⟨nn,x1,c1,x2,c2,x3,c3,rfl⟩:=ar.open
 simp only at q2 ld
 subst q2
 rw [q1] at k8
 obtain ⟨A1,hA1⟩:∃ A,A=H.push (.cells #[iv (nodeAt E.l i).kind,.slice x1 (nodeAt E.l i).words.length c1,.slice x2 (nodeAt E.l i).nums.length c2,.slice x3 (nodeAt E.l i).kids.length c3,iv (nodeAt E.l i).pos] 47):=⟨_,rfl⟩
 have g1:Fr [] H A1:=by rw [hA1]; exact Fr.push
 have z1:A1.size=H.size + 1:=by rw [hA1]; simp
 have bn:Blk A1 H.size 47 [iv (nodeAt E.l i).kind,.slice x1 (nodeAt E.l i).words.length c1,.slice x2 (nodeAt E.l i).nums.length c2,.slice x3 (nodeAt E.l i).kids.length c3,iv (nodeAt E.l i).pos]:=by rw [hA1]; exact Blk.new rfl
 have f0:FS E.S H A1:=FS.of g1 (by simp)
 have hbl0:=x0.box.lt
 have xA:=(x0.grow g1).more (nb:=H.size) (by omega) (by omega) (fun y hy=>by have:=x0.vr.lt y hy; omega) (fun y hy=>by have:=x0.ve.lt y hy; omega)
 have sA:=(x0.grow g1).st
 have hkeep:∀ {H2:Heap},FS (E.and H.size).S A1 H2→Keeps E.Sp A1 H2:=fun qn y hy hl=>qn.same y hl (.inl hy)
 have hnode:∀ {H2:Heap},FS (E.and H.size).S A1 H2→Blk H2 H.size 47 [iv (nodeAt E.l i).kind,.slice x1 (nodeAt E.l i).words.length c1,.slice x2 (nodeAt E.l i).nums.length c2,.slice x3 (nodeAt E.l i).kids.length c3,iv (nodeAt E.l i).pos]:=fun qn=>qn.blk bn (.inr rfl)
 have ar1:AR A1 E.Sp ⟨nodeAt E.l i,.slice x1 (nodeAt E.l i).words.length c1,.slice x2 (nodeAt E.l i).nums.length c2,.slice x3 (nodeAt E.l i).kids.length c3⟩:=ar.frame (Keeps.of_fr g1 (by simp))
 have hrk:=ar1.k
 have hrw:=ar1.w
 simp only at hrk hrw
 have ldn:=bn.cells0
 simp only [List.length_cons,List.length_nil] at ldn
 have c0:=bn.cell 0
 simp only [gS,gZ] at c0
 have lim:b.edges.length≤1000000∧b.rest.length≤1000000:=by unfold Room at hroom; omega
 have hm:(E.and H.size).m=E.m:=rfl
 have hNi:=hN i (Nat.le_refl _) o1
 have dn:∀ {b':Bs} {H2:Heap},BQ (E.and H.size) b' A1 H2→BQ E b' H H2:=fun h=>h.less f0 sA
 have hanV:(Value.agg #[iv (nodeAt E.l i).kind,.slice x1 (nodeAt E.l i).words.length c1,.slice x2 (nodeAt E.l i).nums.length c2,.slice x3 (nodeAt E.l i).kids.length c3,iv (nodeAt E.l i).pos])=anV ⟨nodeAt E.l i,.slice x1 (nodeAt E.l i).words.length c1,.slice x2 (nodeAt E.l i).nums.length c2,.slice x3 (nodeAt E.l i).kids.length c3⟩:=rfl
 obtain ⟨St,hSt⟩:∃ St,stepA E.l E.m st i f to' b=St:=⟨_,rfl⟩
 have hSt0:=hSt
 rw [hSt]
 unfold stepA at hSt
 simp only at hSt
 refine callF_of Tryz.func57 rfl Tryz.ntmps57 Tryz.results57 (by decide) rfl ?_
 simp (disch:=omega) only [go_sem,↓cB,dB,k8,ld]
 rw [← hA1]
 by_cases e6:(nodeAt E.l i).kind=6
 ·rw [if_pos e6] at hSt
  rw [← hSt]
  try (simp (disch:=omega) only [go_sem,↓cB,dB,c0,e6])
  refine call_to (auEdge_spec (E:=E.and H.size) xA lim.1) ?_
  intro r5 H5 hv
  refine Hush.out ?_
  obtain ⟨qn,rv5,a5,o5,c5,rfl,x5⟩:=hv
  have hkl:0 < (nodeAt E.l i).kids.length:=sh.one (by omega)
  obtain ⟨kb,ko,kc,p1,hkS,p2⟩:=hrk.at1 (getD_some (d:=(0:Int)) hkl)
  simp only [Value.slice.injEq,true_and] at p1
  obtain ⟨rfl,rfl⟩:=p1
  rw [Nat.add_zero] at p2
  have ek0:(nodeAt E.l i).kids.getD 0 0=k0 (nodeAt E.l i):=rfl
  rw [ek0] at p2
  have p25:=(hkeep qn).cell hkS p2
  have hwl:(nodeAt E.l i).words.length=1:=by rw [hwo,e6]; rfl
  obtain ⟨wb,wo,wc,w1',hwS,w2'⟩:=hrw.at1 (getD_some (d:=([]:Str)) (i:=0) (by omega))
  simp only [Value.slice.injEq,true_and] at w1'
  obtain ⟨rfl,rfl⟩:=w1'
  rw [Nat.add_zero] at w2'
  have ew0:(nodeAt E.l i).words.getD 0 []=w0 (nodeAt E.l i):=rfl
  rw [ew0] at w2'
  have w25:=(hkeep qn).cell hwS w2'
  have b5:=hnode qn
  have n1:=b5.cell 1
  have n3:=b5.cell 3
  simp only [gS,gZ] at n1 n3
  obtain ⟨hl',hhl⟩:∃ hl',hl'=hldL H5 [⟨H.size,3,none⟩,⟨kb,ko,none⟩,⟨H.size,1,none⟩,⟨wb,wo,none⟩]:=⟨_,rfl⟩
  have hok:heldOK hl' H5:=by rw [hhl]; exact hld_ok
  have hS:∀ ad v,lookA hl' ad=some v→(E.and H.size).S ad.block:=by
   intro ad v hv
   rw [hhl] at hv
   have:=hld_mem hv
   simp only [List.mem_cons,List.not_mem_nil,or_false] at this
   rcases this with rfl | rfl | rfl | rfl
   ·exact .inr rfl
   ·exact .inl hkS
   ·exact .inr rfl
   ·exact .inl hwS
  have l0:lookA hl' ⟨H.size,3,none⟩=some (.slice (some ⟨kb,ko,none⟩) (nodeAt E.l i).kids.length c3):=by rw [hhl]; exact hld_at n3 (by simp)
  have l1:lookA hl' ⟨kb,ko,none⟩=some (iv (k0 (nodeAt E.l i))):=by rw [hhl]; exact hld_at p25 (by simp)
  have l2:lookA hl' ⟨H.size,1,none⟩=some (.slice (some ⟨wb,wo,none⟩) (nodeAt E.l i).words.length c1):=by rw [hhl]; exact hld_at n1 (by simp)
  have l3:lookA hl' ⟨wb,wo,none⟩=some (sv (w0 (nodeAt E.l i))):=by rw [hhl]; exact hld_at w25 (by simp)
  refine ⟨?_⟩
  simp (disch:=omega) only [go_sem,↓cB,dB]
  refine draw1 (lk [(0,false),(1,false),(2,false),(3,false),(4,false),(5,false),(6,true),(7,true),(8,true),(9,true),(10,true)] (.act 11 (lk [(12,true),(13,true)] (.act 14 (lk [(15,true),(16,true)] (.actd 17 .fin)) .non)) .non)) T.mixed hl' hok ?_
  try (simp (disch:=omega) only [go_sem,↓cB,dB,l0,l1,l2,l3,n1,n3,p25,w25])
  try refine held_by hok ?_
  try (simp (disch:=omega) only [go_sem,↓cB,dB,l0,l1,l2,l3,n1,n3,p25,w25])
  refine call_to (auVar_spec (E:=E.and H.size) x5 (hNi.1 e6)) ?_
  rintro _ _ ⟨rfl,rfl⟩
  obtain ⟨a6,o6,c6,e6',w6,x6,q6⟩:=x5.last (j:=3) (u:=iv (k0 (nodeAt E.l i))) (e':=⟨f,to',1,k0 (nodeAt E.l i),-1,-1,false,i⟩) (by omega) rfl
  simp only [Value.slice.injEq,Option.some.injEq,Addr.mk.injEq,and_true,true_and] at e6'
  obtain ⟨⟨rfl,rfl⟩,rfl⟩:=e6'
  obtain ⟨a7,o7,c7,e7',w7,x7,q7⟩:=x6.last (j:=4) (u:=iv (E.m.var (w0 (nodeAt E.l i)))) (e':=⟨f,to',1,k0 (nodeAt E.l i),E.m.var (w0 (nodeAt E.l i)),-1,false,i⟩) (by omega) rfl
  simp only [Value.slice.injEq,Option.some.injEq,Addr.mk.injEq,and_true,true_and] at e7'
  obtain ⟨⟨rfl,rfl⟩,rfl⟩:=e7'
  have hk6:=hld_fs hok q6 hS
  have hk7:=hld_fs hk6 q7 hS
  try refine held_by hok ?_
  try (simp (disch:=omega) only [go_sem,↓cB,dB,l0,l1,l2,l3,hm,w6,w7])
  try refine held_by hk6 ?_
  try (simp (disch:=omega) only [go_sem,↓cB,dB,l0,l1,l2,l3,hm,w6,w7])
  try refine held_by hk7 ?_
  try (simp (disch:=omega) only [go_sem,↓cB,dB,l0,l1,l2,l3,hm,w6,w7])
  exact fin (dn ⟨(qn.trans q6).trans q7,_,_,x7⟩)
 rw [if_neg e6] at hSt
 by_cases e7:(nodeAt E.l i).kind=7
 ·rw [if_pos e7] at hSt
  rw [← hSt]
  try (simp (disch:=omega) only [go_sem,↓cB,dB,c0,e7])
  refine call_to (auEdge_spec (E:=E.and H.size) xA lim.1) ?_
  intro r5 H5 hv
  refine Hush.out ?_
  obtain ⟨qn,rv5,a5,o5,c5,rfl,x5⟩:=hv
  have hkl:0 < (nodeAt E.l i).kids.length:=sh.one (by omega)
  obtain ⟨kb,ko,kc,p1,hkS,p2⟩:=hrk.at1 (getD_some (d:=(0:Int)) hkl)
  simp only [Value.slice.injEq,true_and] at p1
  obtain ⟨rfl,rfl⟩:=p1
  rw [Nat.add_zero] at p2
  have ek0:(nodeAt E.l i).kids.getD 0 0=k0 (nodeAt E.l i):=rfl
  rw [ek0] at p2
  have p25:=(hkeep qn).cell hkS p2
  have hwl:(nodeAt E.l i).words.length=1:=by rw [hwo,e7]; rfl
  obtain ⟨wb,wo,wc,w1',hwS,w2'⟩:=hrw.at1 (getD_some (d:=([]:Str)) (i:=0) (by omega))
  simp only [Value.slice.injEq,true_and] at w1'
  obtain ⟨rfl,rfl⟩:=w1'
  rw [Nat.add_zero] at w2'
  have ew0:(nodeAt E.l i).words.getD 0 []=w0 (nodeAt E.l i):=rfl
  rw [ew0] at w2'
  have w25:=(hkeep qn).cell hwS w2'
  have b5:=hnode qn
  have n1:=b5.cell 1
  have n3:=b5.cell 3
  simp only [gS,gZ] at n1 n3
  obtain ⟨hl',hhl⟩:∃ hl',hl'=hldL H5 [⟨H.size,3,none⟩,⟨kb,ko,none⟩,⟨H.size,1,none⟩,⟨wb,wo,none⟩]:=⟨_,rfl⟩
  have hok:heldOK hl' H5:=by rw [hhl]; exact hld_ok
  have hS:∀ ad v,lookA hl' ad=some v→(E.and H.size).S ad.block:=by
   intro ad v hv
   rw [hhl] at hv
   have:=hld_mem hv
   simp only [List.mem_cons,List.not_mem_nil,or_false] at this
   rcases this with rfl | rfl | rfl | rfl
   ·exact .inr rfl
   ·exact .inl hkS
   ·exact .inr rfl
   ·exact .inl hwS
  have l0:lookA hl' ⟨H.size,3,none⟩=some (.slice (some ⟨kb,ko,none⟩) (nodeAt E.l i).kids.length c3):=by rw [hhl]; exact hld_at n3 (by simp)
  have l1:lookA hl' ⟨kb,ko,none⟩=some (iv (k0 (nodeAt E.l i))):=by rw [hhl]; exact hld_at p25 (by simp)
  have l2:lookA hl' ⟨H.size,1,none⟩=some (.slice (some ⟨wb,wo,none⟩) (nodeAt E.l i).words.length c1):=by rw [hhl]; exact hld_at n1 (by simp)
  have l3:lookA hl' ⟨wb,wo,none⟩=some (sv (w0 (nodeAt E.l i))):=by rw [hhl]; exact hld_at w25 (by simp)
  refine ⟨?_⟩
  simp (disch:=omega) only [go_sem,↓cB,dB]
  refine draw1 (lk [(0,false),(1,false),(2,false),(3,false),(4,false),(5,false),(6,true),(7,true),(8,true),(9,true),(10,true)] (.act 11 (lk [(12,true),(13,true)] (.act 14 (lk [(15,true),(16,true)] (.actd 17 .fin)) .non)) .non)) T.mixed hl' hok ?_
  try (simp (disch:=omega) only [go_sem,↓cB,dB,l0,l1,l2,l3,n1,n3,p25,w25])
  try refine held_by hok ?_
  try (simp (disch:=omega) only [go_sem,↓cB,dB,l0,l1,l2,l3,n1,n3,p25,w25])
  refine call_to (auChan_spec (E:=E.and H.size) x5 (hNi.2.1 e7)) ?_
  intro r6 H6 hv
  refine Hush.out ?_
  obtain ⟨f6,rfl⟩:=hv
  have hok6:=hld_fr hok f6 (by simp)
  obtain ⟨a6,o6,c6,e6',w6,x6,q6⟩:=(x5.grow f6).last (j:=3) (u:=iv (k0 (nodeAt E.l i))) (e':=⟨f,to',2,k0 (nodeAt E.l i),-1,-1,false,i⟩) (by omega) rfl
  simp only [Value.slice.injEq,Option.some.injEq,Addr.mk.injEq,and_true,true_and] at e6'
  obtain ⟨⟨rfl,rfl⟩,rfl⟩:=e6'
  obtain ⟨a7,o7,c7,e7',w7,x7,q7⟩:=x6.last (j:=5) (u:=iv (E.m.chan (w0 (nodeAt E.l i)))) (e':=⟨f,to',2,k0 (nodeAt E.l i),-1,E.m.chan (w0 (nodeAt E.l i)),false,i⟩) (by omega) rfl
  simp only [Value.slice.injEq,Option.some.injEq,Addr.mk.injEq,and_true,true_and] at e7'
  obtain ⟨⟨rfl,rfl⟩,rfl⟩:=e7'
  refine ⟨?_⟩
  have hk6:=hld_fs hok6 q6 hS
  have hk7:=hld_fs hk6 q7 hS
  try refine held_by hok6 ?_
  try (simp (disch:=omega) only [go_sem,↓cB,dB,l0,l1,l2,l3,hm,w6,w7])
  try refine held_by hk6 ?_
  try (simp (disch:=omega) only [go_sem,↓cB,dB,l0,l1,l2,l3,hm,w6,w7])
  try refine held_by hk7 ?_
  try (simp (disch:=omega) only [go_sem,↓cB,dB,l0,l1,l2,l3,hm,w6,w7])
  exact fin (dn ⟨((qn.trans (FS.of f6 (by simp))).trans q6).trans q7,_,_,x7⟩)
 rw [if_neg e7] at hSt
 by_cases e8:(nodeAt E.l i).kind=8
 ·rw [if_pos e8] at hSt
  rw [← hSt]
  try (simp (disch:=omega) only [go_sem,↓cB,dB,c0,e8,ldn])
  have hnl:(nodeAt E.l i).nums.length=1:=by rw [hnu,e8]; rfl
  have hidle:=auIdle_spec (E:=E.and H.size) xA ar1 hnl hf
  rw [← hanV,e8] at hidle
  refine call_to hidle ?_
  intro r4 H4 hv
  refine Hush.out ?_
  obtain ⟨q4,rv4,ev4,x4⟩:=hv
  simp only at x4
  have lim4:(idlM b f (n0 (nodeAt E.l i))).edges.length≤1000000:=by have:=up_idl (b:=b) (x:=f) (y:=n0 (nodeAt E.l i)); unfold Up at this; omega
  refine ⟨?_⟩
  simp (disch:=omega) only [go_sem,↓cB,dB]
  refine call_to (auEdge_spec (E:=E.and H.size) x4 lim4) ?_
  intro r5 H5 hv
  refine Hush.out ?_
  obtain ⟨qn',rv5,a5,o5,c5,rfl,x5⟩:=hv
  have qn:=q4.trans qn'
  have hwl:(nodeAt E.l i).words.length=2:=by rw [hwo,e8]; rfl
  obtain ⟨wb,wo,wc,w1',hwS,w2'⟩:=hrw.at1 (getD_some (d:=([]:Str)) (i:=0) (by omega))
  simp only [Value.slice.injEq,true_and] at w1'
  obtain ⟨rfl,rfl⟩:=w1'
  rw [Nat.add_zero] at w2'
  have ew0:(nodeAt E.l i).words.getD 0 []=w0 (nodeAt E.l i):=rfl
  rw [ew0] at w2'
  have w25:=(hkeep qn).cell hwS w2'
  obtain ⟨wb',wo',wc',w3',hwS',w4'⟩:=hrw.at1 (getD_some (d:=([]:Str)) (i:=1) (by omega))
  simp only [Value.slice.injEq,Option.some.injEq,Addr.mk.injEq,and_true,true_and] at w3'
  obtain ⟨⟨rfl,rfl⟩,rfl⟩:=w3'
  have ew1:(nodeAt E.l i).words.getD 1 []=w1 (nodeAt E.l i):=rfl
  rw [ew1] at w4'
  have w45:=(hkeep qn).cell hwS' w4'
  have b5:=hnode qn
  have n1:=b5.cell 1
  have n3:=b5.cell 3
  simp only [gS,gZ] at n1 n3
  obtain ⟨hl',hhl⟩:∃ hl',hl'=hldL H5 [⟨H.size,1,none⟩,⟨wb,wo,none⟩,⟨wb,wo + 1,none⟩]:=⟨_,rfl⟩
  have hok:heldOK hl' H5:=by rw [hhl]; exact hld_ok
  have hS:∀ ad v,lookA hl' ad=some v→(E.and H.size).S ad.block:=by
   intro ad v hv
   rw [hhl] at hv
   have:=hld_mem hv
   simp only [List.mem_cons,List.not_mem_nil,or_false] at this
   rcases this with rfl | rfl | rfl
   ·exact .inr rfl
   ·exact .inl hwS
   ·exact .inl hwS'
  have l2:lookA hl' ⟨H.size,1,none⟩=some (.slice (some ⟨wb,wo,none⟩) (nodeAt E.l i).words.length c1):=by rw [hhl]; exact hld_at n1 (by simp)
  have l3:lookA hl' ⟨wb,wo,none⟩=some (sv (w0 (nodeAt E.l i))):=by rw [hhl]; exact hld_at w25 (by simp)
  have l4:lookA hl' ⟨wb,wo + 1,none⟩=some (sv (w1 (nodeAt E.l i))):=by rw [hhl]; exact hld_at w45 (by simp)
  refine ⟨?_⟩
  simp (disch:=omega) only [go_sem,↓cB,dB]
  refine draw1 (lk [(0,false),(1,false),(2,true),(3,true),(4,true),(5,true),(6,true),(8,false),(9,false),(10,false),(11,false),(12,false)] (.act 7 (.act 13 (lk [(14,true),(15,true)] (.act 16 (lk [(17,true),(18,true)] (.actd 19 .fin)) .non)) .non) .non)) T.mixed hl' hok ?_
  try (simp (disch:=omega) only [go_sem,↓cB,dB,l2,l3,l4,n1,w25,w45])
  try refine held_by hok ?_
  try (simp (disch:=omega) only [go_sem,↓cB,dB,l2,l3,l4,n1,w25,w45])
  refine call_to (auChan_spec (E:=E.and H.size) x5 (hNi.2.2 e8).1) ?_
  intro r6 H6 hv
  refine Hush.out ?_
  obtain ⟨f6,rfl⟩:=hv
  have hok6:=hld_fr hok f6 (by simp)
  refine ⟨?_⟩
  try refine held_by hok6 ?_
  try (simp (disch:=omega) only [go_sem,↓cB,dB,l2,l3,l4])
  try refine held_by hok6 ?_
  try (simp (disch:=omega) only [go_sem,↓cB,dB,l2,l3,l4])
  refine call_to (auVar_spec (E:=E.and H.size) (x5.grow f6) (hNi.2.2 e8).2) ?_
  rintro _ _ ⟨rfl,rfl⟩
  obtain ⟨a6,o6,c6,e6',w6,x6,q6⟩:=(x5.grow f6).last (j:=5) (u:=iv (E.m.chan (w0 (nodeAt E.l i)))) (e':=⟨f,to',3,-1,-1,E.m.chan (w0 (nodeAt E.l i)),false,i⟩) (by omega) rfl
  simp only [Value.slice.injEq,Option.some.injEq,Addr.mk.injEq,and_true,true_and] at e6'
  obtain ⟨⟨rfl,rfl⟩,rfl⟩:=e6'
  obtain ⟨a7,o7,c7,e7',w7,x7,q7⟩:=x6.last (j:=4) (u:=iv (E.m.var (w1 (nodeAt E.l i)))) (e':=⟨f,to',3,-1,E.m.var (w1 (nodeAt E.l i)),E.m.chan (w0 (nodeAt E.l i)),false,i⟩) (by omega) rfl
  simp only [Value.slice.injEq,Option.some.injEq,Addr.mk.injEq,and_true,true_and] at e7'
  obtain ⟨⟨rfl,rfl⟩,rfl⟩:=e7'
  have hk6:=hld_fs hok6 q6 hS
  have hk7:=hld_fs hk6 q7 hS
  try refine held_by hok6 ?_
  try (simp (disch:=omega) only [go_sem,↓cB,dB,l2,l3,l4,hm,w6,w7])
  try refine held_by hk6 ?_
  try (simp (disch:=omega) only [go_sem,↓cB,dB,l2,l3,l4,hm,w6,w7])
  try refine held_by hk7 ?_
  try (simp (disch:=omega) only [go_sem,↓cB,dB,l2,l3,l4,hm,w6,w7])
  exact fin (dn ⟨((qn.trans (FS.of f6 (by simp))).trans q6).trans q7,_,_,x7⟩)
 rw [if_neg e8] at hSt
 by_cases e9:(nodeAt E.l i).kind=9
 ·rw [if_pos e9] at hSt
  rw [← hSt]
  try (simp (disch:=omega) only [go_sem,↓cB,dB,c0,e9,ldn])
  have hnl:(nodeAt E.l i).nums.length=1:=by rw [hnu,e9]; rfl
  have hidle:=auIdle_spec (E:=E.and H.size) xA ar1 hnl hf
  rw [← hanV,e9] at hidle
  refine call_to hidle ?_
  intro r4 H4 hv
  refine Hush.out ?_
  obtain ⟨q4,rv4,ev4,x4⟩:=hv
  simp only at x4
  have lim4:(idlM b f (n0 (nodeAt E.l i))).edges.length≤1000000:=by have:=up_idl (b:=b) (x:=f) (y:=n0 (nodeAt E.l i)); unfold Up at this; omega
  refine ⟨?_⟩
  simp (disch:=omega) only [go_sem,↓cB,dB]
  refine call_to (auTest_spec (E:=E.and H.size) x4 lim4 hi (sh.one (by omega))) ?_
  intro r5 H5 hv
  refine Hush.out ?_
  obtain ⟨q5,rv5,ev5,x5⟩:=hv
  refine ⟨?_⟩
  try (simp (disch:=omega) only [go_sem,↓cB,dB])
  exact fin (dn ⟨q4.trans q5,_,_,x5⟩)
 rw [if_neg e9] at hSt
 by_cases e10:(nodeAt E.l i).kind=10
 ·rw [if_pos e10] at hSt
  rw [← hSt]
  try (simp (disch:=omega) only [go_sem,↓cB,dB,c0,e10,ldn])
  have hnl:(nodeAt E.l i).nums.length=1:=by rw [hnu,e10]; rfl
  have hidle:=auIdle_spec (E:=E.and H.size) xA ar1 hnl hf
  rw [← hanV,e10] at hidle
  refine call_to hidle ?_
  intro r4 H4 hv
  refine Hush.out ?_
  obtain ⟨q4,rv4,ev4,x4⟩:=hv
  simp only at x4
  have lim4:(idlM b f (n0 (nodeAt E.l i))).edges.length≤1000000:=by have:=up_idl (b:=b) (x:=f) (y:=n0 (nodeAt E.l i)); unfold Up at this; omega
  have b4:=hnode q4
  have n3:=b4.cell 3
  simp only [gS,gZ] at n3
  have hu4:=up_idl (b:=b) (x:=f) (y:=n0 (nodeAt E.l i))
  have hcho:=auChoose_spec (E:=E.and H.size) (f:=f) (to':=to') hz hr (hbl _) hup x4 (by show i + 1≤E.l.length; omega) hw' (sh.cho e10) (hN.sub (by omega) (Nat.le_refl _)) ((hrk.mono (fun y hy _=>.inl hy)).frame (show Keeps (E.and H.size).Sp A1 H4 from fun y hy hl=>q4.same y hl hy)) (hz.k i _ hgi) (by unfold Up at hu4; omega) (Room.up hroom hu4 (by omega))
  refine ⟨?_⟩
  simp (disch:=omega) only [go_sem,↓cB,dB,n3]
  refine call_to hcho ?_
  intro r5 H5 hv
  refine Hush.out ?_
  obtain ⟨q5,rv5,ev5,x5⟩:=hv
  refine ⟨?_⟩
  try (simp (disch:=omega) only [go_sem,↓cB,dB])
  exact fin (dn ⟨q4.trans q5,_,_,x5⟩)
 rw [if_neg e10] at hSt
 by_cases e11:(nodeAt E.l i).kind=11
 ·rw [← hSt0]
  try (simp (disch:=omega) only [go_sem,↓cB,dB,c0,e11])
  refine call_to (auBranch_spec (E:=E.and H.size) hr (hbl _) hup xA hi hw e11 hN hf hroom) ?_
  intro r5 H5 hv
  refine Hush.out ?_
  obtain ⟨q5,rv5,ev5,x5⟩:=hv
  refine ⟨?_⟩
  try (simp (disch:=omega) only [go_sem,↓cB,dB])
  exact fin (dn ⟨q5,_,_,x5⟩)
 rw [if_neg e11] at hSt
 by_cases e12:(nodeAt E.l i).kind=12
 ·rw [if_pos e12] at hSt
  rw [← hSt]
  obtain ⟨hl,h16⟩:=sh.whl e12
  have hkl2:0 < (nodeAt E.l i).kids.length:=by omega
  obtain ⟨u1,u2,u3,u4⟩:=kids_1 hw' (by omega)
  obtain ⟨u5,u6,-⟩:=walkM_ok dk (i + 1) _ u2 u3
  obtain ⟨v1,v2,v3,v4⟩:=kids_1 u4 (by rw [List.length_tail]; omega)
  rw [getD_tail] at v1
  obtain ⟨m1,hm1⟩:∃ m1,m1=(walkM E.l dk (i + 1)).1:=⟨_,rfl⟩
  rw [← hm1] at u6 v1 v2 v3 v4 u5
  have hk1:k1 (nodeAt E.l i)=(m1:Int):=v1
  have hnil:(nodeAt E.l i).kids.tail.tail = []:=by
   apply List.eq_nil_of_length_eq_zero; rw [List.length_tail,List.length_tail]; omega
  rw [hnil] at v4
  simp only [walkK,Prod.mk.injEq,and_true] at v4
  rw [v4] at v3
  rw [hk1] at h16 ⊢
  simp only [Int.toNat_natCast] at h16
  obtain ⟨kb,ko,kc,p1,hkS,p2⟩:=hrk.at1 (getD_some (d:=(0:Int)) (i:=1) (by omega))
  simp only [Value.slice.injEq,true_and] at p1
  obtain ⟨rfl,rfl⟩:=p1
  have e1:(nodeAt E.l i).kids.getD 1 0=(m1:Int):=hk1
  rw [e1] at p2
  try (simp (disch:=omega) only [go_sem,↓cB,dB,c0,e12])
  refine call_to (auPlace_spec (E:=E.and H.size) xA lim.2) ?_
  intro r3 H3 hv
  refine Hush.out ?_
  obtain ⟨⟨q3,rv3,ev3,x3'⟩,rfl⟩:=hv
  refine ⟨?_⟩
  simp (disch:=omega) only [go_sem,↓cB,dB]
  refine call_to (auTest_spec (E:=E.and H.size) x3' (by simp [plM]; omega) hi hkl2) ?_
  intro r4 H4 hv
  refine Hush.out ?_
  obtain ⟨q4,rv4,ev4,x4⟩:=hv
  refine ⟨?_⟩
  simp (disch:=omega) only [go_sem,↓cB,dB]
  refine call_to (auTest_spec (E:=E.and H.size) x4 (by unfold Room at hroom; simp [plM,putM]; omega) hi hkl2) ?_
  intro r5 H5 hv
  refine Hush.out ?_
  obtain ⟨q5,rv5,ev5,x5⟩:=hv
  have q35:=(q3.trans q4).trans q5
  have n3:=(hnode q35).cell 3
  simp only [gS,gZ] at n3
  have p25:=(hkeep q35).cell hkS p2
  obtain ⟨B2,hB2⟩:∃ B2,B2=putM (putM (plM b) ⟨f,b.rest.length,4,k0 (nodeAt E.l i),-1,-1,false,i⟩) ⟨f,to',5,k0 (nodeAt E.l i),-1,-1,false,i⟩:=⟨_,rfl⟩
  have hu2:Up 2 b B2:=by rw [hB2]; exact up_plput.trans up_put
  have x5':BM H5 (E.and H.size) rv5 ev5 B2:=by rw [hB2]; exact x5
  rw [← hB2]
  have hblk:=hbl H.size (to':=f) (f:=b.rest.length) x5' v2 v3 h16 (hN.sub (by omega) (Nat.le_refl _)) (by rw [hB2]; simp [putM,plM]) (Room.up hroom hu2 (by omega))
  refine ⟨?_⟩
  simp (disch:=omega) only [go_sem,↓cB,dB,n3,p25]
  refine call_to hblk ?_
  intro r6 H6 hv
  refine Hush.out ?_
  obtain ⟨q6,rv6,ev6,x6⟩:=hv
  refine ⟨?_⟩
  try (simp (disch:=omega) only [go_sem,↓cB,dB])
  exact fin (dn ⟨q35.trans q6,_,_,x6⟩)
 rw [if_neg e12] at hSt
 by_cases e13:(nodeAt E.l i).kind=13
 ·rw [if_pos e13] at hSt
  rw [← hSt]
  obtain ⟨hl,h16⟩:=sh.ato e13
  obtain ⟨u1,u2,u3,u4⟩:=kids_1 hw' (by omega)
  have hk0:k0 (nodeAt E.l i)=((i + 1:Nat):Int):=u1
  have hnil:(nodeAt E.l i).kids.tail = []:=by
   apply List.eq_nil_of_length_eq_zero; rw [List.length_tail]; omega
  rw [hnil] at u4
  simp only [walkK,Prod.mk.injEq,and_true] at u4
  rw [u4] at u3
  rw [hk0] at h16 ⊢
  simp only [Int.toNat_natCast] at h16
  obtain ⟨kb,ko,kc,p1,hkS,p2⟩:=hrk.at1 (getD_some (d:=(0:Int)) (i:=0) (by omega))
  simp only [Value.slice.injEq,true_and] at p1
  obtain ⟨rfl,rfl⟩:=p1
  rw [Nat.add_zero] at p2
  have e1:(nodeAt E.l i).kids.getD 0 0=((i + 1:Nat):Int):=hk0
  rw [e1] at p2
  have n3:=bn.cell 3
  simp only [gS,gZ] at n3
  try (simp (disch:=omega) only [go_sem,↓cB,dB,c0,e13,n3,p2])
  refine call_to (auAtomic_spec (E:=E.and H.size) (hbl _) hup xA u2 u3 h16 (hN.sub (by omega) (Nat.le_refl _)) hf (hroom.mono (by omega))) ?_
  intro r6 H6 hv
  refine Hush.out ?_
  obtain ⟨q6,rv6,ev6,x6⟩:=hv
  refine ⟨?_⟩
  try (simp (disch:=omega) only [go_sem,↓cB,dB])
  exact fin (dn ⟨q6,_,_,x6⟩)
 rw [if_neg e13] at hSt
 by_cases e15:(nodeAt E.l i).kind=15
 ·rw [if_pos e15] at hSt
  rw [← hSt]
  try (simp (disch:=omega) only [go_sem,↓cB,dB,c0,e15])
  refine call_to (auEdge_spec (E:=E.and H.size) xA lim.1) ?_
  intro r5 H5 hv
  refine Hush.out ?_
  obtain ⟨qn,rv5,a5,o5,c5,rfl,x5⟩:=hv
  refine ⟨?_⟩
  try (simp (disch:=omega) only [go_sem,↓cB,dB])
  exact fin (dn ⟨qn,_,_,x5⟩)
 rw [if_neg e15] at hSt
 have e14:(nodeAt E.l i).kind=14:=by unfold StK at hK; omega
 rw [← hSt]
 try (simp (disch:=omega) only [go_sem,↓cB,dB,c0,e14])
 refine call_to (auEdge_spec (E:=E.and H.size) xA lim.1) ?_
 intro r5 H5 hv
 refine Hush.out ?_
 obtain ⟨qn,rv5,a5,o5,c5,rfl,x5⟩:=hv
 refine ⟨?_⟩
 try (simp (disch:=omega) only [go_sem,↓cB,dB])
 exact fin (dn ⟨qn,_,_,x5⟩)
theorem spA_zero {E:AE} {st:StF}:SpA E st 0:=fun _ _ hw=>by simp [walkM] at hw
theorem blA_zero {E:AE} {st:StF}:BlA E st 0:=fun _ _ hw=>by simp [walkM] at hw
theorem stat_all {l:List Nd} {m:Nm} (hz:Sz l) (hr:prRightM l=true):∀ (d:Nat) (E:AE),E.l=l→E.m=m→SpA E (statM l m d) d
 | 0,E,e1,e2=>spA_zero
 | 1,E,e1,e2=>by
  subst e1 e2
  exact stA_of hz hr (dk:=0) (fun nb=>blA_zero) (fun k e f t b hk hw=>by simp [walkM] at hw)
 | d + 2,E,e1,e2=>by
  subst e1 e2
  exact stA_of hz hr (dk:=d + 1) (fun nb=>blA_of (E:=E.and nb) hz hr (sqA_of (E:=E.and nb) (stat_all hz hr d (E.and nb) rfl rfl) (stat_up hr d))) (blUp_of (stat_up hr d))
end
end Go.Proofs.YtmihefbdghjeoaaGreat
