/- Texts of this proof, put together: AutI, AutJ, AutK, AutL, AutM, AutN, AutO, AutQ. The conditions of each theorem stand in it. -/
import Derived.Test.YtmihefbdghjeoaaGreatMXB
set_option linter.unusedSimpArgs false
set_option linter.unusedVariables false
namespace Go.Proofs.YtmihefbdghjeoaaGreat
open Go.HL
set_option maxRecDepth 10000
structure Vr where
 name:Str
 width:Int
 value:Int
structure Pr where
 name:Str
 copy:Int
 locals:List Int
 rest:List Bool
 edges:List Ed
 names:List Str
 vars:List Int
structure Mo where
 globals:Int
 chans:List Ch
 vars:List Vr
 procs:List Pr
 safe:List Int
 dead:Bool
def vrO (n:Nd):Vr:=⟨w0 n,n0 n,n1 n⟩
def n2 (n:Nd):Int:=n.nums.getD 2 0
def n3 (n:Nd):Int:=n.nums.getD 3 0
def chO (n:Nd):Ch:=⟨w0 n,n0 n,n1 n,decide (¬ n2 n=0),decide (¬ n3 n=0)⟩
def dclM (m:Mo) (n:Nd):Mo :=
 if n.kind=1 then { m with chans:=m.chans ++ [chO n] }
 else if n.kind=2 then { m with vars:=m.vars ++ [vrO n] }
 else if n.kind=4 then { m with safe:=m.safe ++ [k0 n] }
 else if n.kind=5 then { m with dead:=true }
 else m
structure Lo where
 V:List Vr
 L:List Int
 N:List Str
 X:List Int
def locA (l:List Nd) (s:Lo) (k:Int):Lo:=⟨s.V ++ [vrO (nodeAt l k.toNat)],s.L ++ [(s.V.length:Int)],s.N ++ [w0 (nodeAt l k.toNat)],s.X ++ [(s.V.length:Int)]⟩
def isVar (l:List Nd) (k:Int):Bool:=decide ((nodeAt l k.toNat).kind=2)
def locM (l:List Nd):List Int→Lo→List Int × Lo
 | [],s=>([],s)
 | k :: ks,s=>if isVar l k then locM l ks (locA l s k) else (k :: ks,s)
def gloM (V:List Vr):Nat→List Str × List Int
 | 0=>([],[])
 | i + 1=>((gloM V i).1 ++ [(V.getD i ⟨[],0,0⟩).name],(gloM V i).2 ++ [(i:Int)])
def lo0 (m:Mo) (before:Nat):Lo:=⟨m.vars,[],(gloM m.vars before).1,(gloM m.vars before).2⟩
def prcM (l:List Nd) (m:Mo) (item:Nat) (number:Int) (before:Nat):Mo :=
 let r:=locM l (nodeAt l item).kids (lo0 m before)
 let b:=seqM (statM l ⟨r.2.N,r.2.X,m.chans.map Ch.name⟩ 18) item r.1 0 1 ⟨[false,true],[]⟩
 { m with vars:=r.2.V,procs:=m.procs ++ [⟨w0 (nodeAt l item),number,r.2.L,b.rest,b.edges,r.2.N,r.2.X⟩] }
def prcsM (l:List Nd) (item before:Nat):Nat→Mo→Mo
 | 0,m=>m
 | i + 1,m=>prcM l (prcsM l item before i m) item i before
def itemsM (l:List Nd):List Int→Nat→Mo→Mo
 | [],_,m=>m
 | k :: ks,before,m =>
  if (nodeAt l k.toNat).kind=2 then itemsM l ks (before + 1) m
  else if (nodeAt l k.toNat).kind=3 then itemsM l ks before (prcsM l k.toNat before (n0 (nodeAt l k.toNat)).toNat m)
  else itemsM l ks before m
def mo0:Mo:=⟨0,[],[],[],[],false⟩
def dclsM (l:List Nd) (ks:List Int):Mo:=ks.foldl (fun m k=>dclM m (nodeAt l k.toNat)) mo0
def modM (l:List Nd):Mo:=itemsM l (nodeAt l 0).kids 0 { dclsM l (nodeAt l 0).kids with globals:=(dclsM l (nodeAt l 0).kids).vars.length }
theorem gloM_len {V:List Vr}:∀ i,(gloM V i).1.length=i∧(gloM V i).2.length=i
 | 0=>⟨rfl,rfl⟩
 | i + 1=>by have:=gloM_len (V:=V) i; simp [gloM]; omega
theorem locM_eq {l:List Nd}:∀ (ks:List Int) (s:Lo),(locM l ks s).1=ks.dropWhile (isVar l)∧(locM l ks s).2.V=s.V ++ (ks.takeWhile (isVar l)).map (fun k=>vrO (nodeAt l k.toNat)) ∧
  (locM l ks s).2.N=s.N ++ (ks.takeWhile (isVar l)).map (fun k=>w0 (nodeAt l k.toNat))∧(locM l ks s).2.L.length=s.L.length + (ks.takeWhile (isVar l)).length∧(s.X.length=s.N.length→(locM l ks s).2.X.length=(locM l ks s).2.N.length)
 | [],s=>by simp [locM]
 | k :: ks,s=>by
  unfold locM
  by_cases h:isVar l k=true
  ·rw [if_pos h,List.dropWhile_cons_of_pos h,List.takeWhile_cons_of_pos h]
   obtain ⟨a,b,c,d,e⟩:=locM_eq ks (locA l s k)
   refine ⟨a,by rw [b]; simp [locA],by rw [c]; simp [locA],by rw [d]; simp [locA]; omega,fun h=>e (by simp [locA,h])⟩
  ·rw [if_neg h,List.dropWhile_cons_of_neg h,List.takeWhile_cons_of_neg h]
   simp
theorem n0_le4 {l:List Nd} (h:typM l=⟨0,0⟩):prRightM l=true∧scopeM l=⟨0,0⟩∧∀ j,j < l.length→(nodeAt l j).kind=3→0≤n0 (nodeAt l j)∧n0 (nodeAt l j)≤4:=by
 have hs:scopeM l=⟨0,0⟩:=by
  unfold typM at h
  split at h
  ·assumption
  ·exact h
 have hr:=scopeM_right hs
 refine ⟨hr,hs,?_⟩
 intro j hj hk
 refine ⟨(n0_rng hr hj (.inr (.inr (.inl hk)))).1,?_⟩
 have ht:=typ_eq hr
 rw [h] at ht
 unfold check12 at ht
 rw [← scope_eq hr,if_pos hs] at ht
 have hno:firstE (wrongR l) l.length 0=none:=by
  cases hq:firstE (wrongR l) l.length 0 with
  | none=>rfl
  | some x =>
   rw [hq] at ht
   obtain ⟨e,i⟩:=x
   have he:e ≠ 0:=by
    have key:∀ (m i:Nat) x,firstE (wrongR l) m i=some x→x.1 ≠ 0:=by
     intro m
     induction m with
     | zero=>intro i x h; simp [firstE] at h
     | succ m ih =>
      intro i x h
      unfold firstE at h
      split at h
      ·exact ih _ _ h
      ·rename_i hne
       simp only [Option.some.injEq] at h
       subst h; exact hne
    exact key _ _ _ hq
   have ht':(⟨0,0⟩:Flt)=⟨e,(nodeAt l i).pos⟩:=ht
   simp only [Flt.mk.injEq] at ht'
   exact absurd ht'.1.symm he
 have hall:∀ (m i:Nat),firstE (wrongR l) m i=none→∀ k,i≤k→k < i + m→wrongR l k=0:=by
  intro m
  induction m with
  | zero=>intro i _ k h1 h2; omega
  | succ m ih =>
   intro i h k h1 h2
   unfold firstE at h
   split at h
   ·rename_i h0
    by_cases e:k=i
    ·subst e; exact h0
    ·exact ih (i + 1) h k (by omega) (by omega)
   ·simp at h
 have hz:=hall l.length 0 hno j (by omega) (by omega)
 rw [← wrong_eq hr hj] at hz
 unfold oneT at hz
 rw [if_neg (by omega),if_neg (by omega),if_pos hk] at hz
 simp only at hz
 split at hz
 ·rename_i c; exact c.2.2
 ·simp at hz
end Go.Proofs.YtmihefbdghjeoaaGreat
namespace Go.Proofs.YtmihefbdghjeoaaGreat
open Go.HL
set_option maxRecDepth 10000
theorem firstT_none {g:Nat→Bool}:∀ (m i:Nat),firstT g m i=none→∀ k,i≤k→k < i + m→g k=false
 | 0,i,_,k,h1,h2=>by omega
 | m + 1,i,h,k,h1,h2=>by
  unfold firstT at h
  split at h
  ·simp at h
  ·rename_i hg
   by_cases e:k=i
   ·subst e; simpa using hg
   ·exact firstT_none m (i + 1) h k (by omega) (by omega)
theorem no_bad {l:List Nd} (hr:prRightM l=true) (hs:scopeM l=⟨0,0⟩) {j:Nat} (hj:j < l.length):bad11 l j=false:=by
 rw [scope_eq hr] at hs
 unfold check11 at hs
 cases hq:firstT (bad11 l) l.length 0 with
 | none=>exact firstT_none l.length 0 hq j (by omega) (by omega)
 | some i =>
  rw [hq] at hs
  have:(⟨20,(nodeAt l i).pos⟩:Flt)=⟨0,0⟩:=hs
  simp at this
theorem mem_inL {L:List Str} {s:Str} (h:s ∈ L):inL L s=true:=by
 obtain ⟨i,hi⟩:=List.getElem?_of_mem h
 exact inL_true hi
theorem nm_item {l:List Nd} (hr:prRightM l=true) (hs:scopeM l=⟨0,0⟩) {pre post:List Int} {item e:Nat} (hK:(nodeAt l 0).kids=pre ++ (item:Int) :: post) (hil:item < l.length) (hk3:(nodeAt l item).kind=3)
  (hw:walkM l 19 item=(e,true)) (hpost:∀ k ∈ post,(e:Int)≤k) {m:Nm} (hN:∀ k ∈ pre,isVar l k=true→inL m.names (w0 (nodeAt l k.toNat))=true)
  (hL:∀ k ∈ (nodeAt l item).kids.takeWhile (isVar l),inL m.names (w0 (nodeAt l k.toNat))=true) (hC:∀ k ∈ (nodeAt l 0).kids,(nodeAt l k.toNat).kind=1→inL m.chans (w0 (nodeAt l k.toNat))=true):NmOk l m (item + 1) e:=by
 have t:=tre_of hr
 have hmemK:(item:Int) ∈ (nodeAt l 0).kids:=by rw [hK]; simp
 obtain ⟨o1,o2,-⟩:=walkM_ok 19 item e hil hw
 intro j h1 h2
 have hjl:j < l.length:=by omega
 have hit:itemM' l j=item:=by
  have a:=itm t j
  have a1:=a.max _ hmemK (by omega)
  have a2:=a.le
  rcases a.mem with h | h
  ·omega
  ·rw [hK,List.mem_append,List.mem_cons] at h
   have hinc:=t.inc
   rw [hK] at hinc
   obtain ⟨i1,i2,i3⟩:=List.pairwise_append.1 hinc
   rcases h with h | h | h
   ·have:=i3 _ h (item:Int) (by simp); omega
   ·exact h
   ·have:=hpost _ h; omega
 have hV:∀ s,inL (namesM l j 2) s=true→inL m.names s=true:=by
  intro s hsv
  rw [see_V hr hjl,Bool.or_eq_true] at hsv
  unfold sgA at hsv
  simp only at hsv
  rw [selU_mem,selU_mem] at hsv
  rcases hsv with ⟨i,i1,i2,rfl⟩ | ⟨i,i1,i2,rfl⟩
  ·unfold qV at i2
   simp only [Bool.and_eq_true,decide_eq_true_eq] at i2
   have hi0:0 < i:=by
    rcases Nat.eq_zero_or_pos i with rfl | h
    ·have:=t.kind0; omega
    ·exact h
   have hm:=itm_mem t hi0 i2.2
   have hle:=(itm t j).max _ hm (by omega)
   rw [hit] at hle
   have hne:i ≠ item:=by rintro rfl; omega
   rw [hK,List.mem_append,List.mem_cons] at hm
   rcases hm with h | h | h
   ·have:=hN _ h (by unfold isVar; simp [i2.1])
    simpa using this
   ·omega
   ·have:=hpost _ h; omega
  ·unfold qO at i2
   simp only [Bool.and_eq_true,decide_eq_true_eq,Bool.not_eq_true',decide_eq_false_iff_not] at i2
   obtain ⟨i2,i3,i4⟩:=i2
   have hi0:0 < i:=by
    rcases Nat.eq_zero_or_pos i with rfl | h
    ·have:=t.kind0; omega
    ·exact h
   obtain ⟨p,hp,hm⟩:=t.par i hi0 (by omega)
   have hkd:=kid_kind t (by omega) hm
   have hb:inB (knd l i) 1 5=true:=by
    have:knd l (i:Int)=2:=i2
    rw [this]; rfl
   rcases hkd.1 hb with h | ⟨h,-⟩
   ·rcases Nat.eq_zero_or_pos p with rfl | hpp
    ·exact absurd (itm_self t hm) i3
    ·exact absurd h (kind_pos t hpp (by omega))
   ·have hpp:1≤p:=by
     rcases Nat.eq_zero_or_pos p with rfl | hpp
     ·have:=t.kind0; omega
     ·exact hpp
    have hpK:(p:Int) ∈ (nodeAt l 0).kids:=by
     rcases (item_of hr (show p < l.length by omega) (.inr (.inr (.inl h)))).2 with e | ⟨e,_⟩
     ·exact e
     ·omega
    have:=span_of hr hpp (by omega) hm
    rw [itm_self t hpK] at this
    have hpi:p=item:=by omega
    subst hpi
    have hsplit:(nodeAt l p).kids=(nodeAt l p).kids.takeWhile (isVar l) ++ (nodeAt l p).kids.dropWhile (isVar l):=(List.takeWhile_append_dropWhile).symm
    rw [hsplit,List.mem_append] at hm
    rcases hm with hm | hm
    ·have:=hL _ hm; simpa using this
    ·have:=(shp_of hr hil).prc hk3 _ hm
     simp only [Int.toNat_natCast] at this
     omega
 have hCC:∀ s,inL (namesM l j 1) s=true→inL m.chans s=true:=by
  intro s hsv
  rw [see_C hr hjl] at hsv
  unfold sgA at hsv
  simp only at hsv
  rw [selU_mem] at hsv
  obtain ⟨i,i1,i2,rfl⟩:=hsv
  unfold qC at i2
  rw [decide_eq_true_eq] at i2
  rcases (item_of hr (show i < l.length by omega) (.inl i2)).2 with h | ⟨h,_⟩
  ·have:=hC _ h (by simpa using i2); simpa using this
  ·omega
 have hb:=no_bad hr hs hjl
 unfold bad11 at hb
 simp only at hb
 refine ⟨fun hk=>?_,fun hk=>?_,fun hk=>?_⟩
 ·rw [if_neg (by omega),if_pos (.inl hk)] at hb
  exact hV _ (by simpa using hb)
 ·rw [if_neg (by omega),if_neg (by omega),if_pos (.inl hk)] at hb
  exact hCC _ (by simpa using hb)
 ·rw [if_neg (by omega),if_neg (by omega),if_neg (by omega),if_pos hk,Bool.or_eq_false_iff] at hb
  exact ⟨hCC _ (by simpa using hb.1),hV _ (by simpa using hb.2)⟩
end Go.Proofs.YtmihefbdghjeoaaGreat
namespace Go.Proofs.YtmihefbdghjeoaaGreat
open Go.HL
set_option maxRecDepth 10000
structure Bx where
 b:Nat
 t:TypeId
 cs:List Value
structure FV where
 bi:Nat
 cell:Nat
 e:TypeId
 z:Nat
 v:Value
 vs:List Value
structure MB (H:Heap) (bxs:List Bx) (fvs:List FV):Prop where
 blk:∀ (i:Nat) (x:Bx),bxs[i]?=some x→Blk H x.b x.t x.cs
 bne:∀ (i j:Nat) (x y:Bx),i ≠ j→bxs[i]?=some x→bxs[j]?=some y→x.b ≠ y.b
 at':∀ (i:Nat) (f:FV),fvs[i]?=some f→∃ x:Bx,bxs[f.bi]?=some x∧x.cs[f.cell]?=some f.v
 vec:∀ (i:Nat) (f:FV),fvs[i]?=some f→Vec H f.e f.z f.v f.vs
 nb:∀ (i k:Nat) (f:FV) (x:Bx),fvs[i]?=some f→bxs[k]?=some x→x.b ∉ own f.v
 dis:∀ (i j:Nat) (f g:FV),i ≠ j→fvs[i]?=some f→fvs[j]?=some g→∀ y ∈ own f.v,y ∉ own g.v
 hc:∀ (i j:Nat) (f g:FV),i ≠ j→fvs[i]?=some f→fvs[j]?=some g→f.bi ≠ g.bi∨f.cell ≠ g.cell
def wrM (bxs:List Bx) (fvs:List FV):List Nat:=bxs.map Bx.b ++ fvs.flatMap (fun f=>own f.v)
section
variable {H H' H1:Heap} {bxs:List Bx} {fvs:List FV}
theorem MB.grow (x:MB H bxs fvs) (q:Fr [] H H'):MB H' bxs fvs :=
 ⟨fun i b h=>q.blk (x.blk i b h) (by simp),x.bne,x.at',fun i f h=>(x.vec i f h).frame q (by simp),x.nb,x.dis,x.hc⟩
theorem MB.frame {F:List Nat} (x:MB H bxs fvs) (q:Fr F H H') (hF:∀ y ∈ wrM bxs fvs,y ∉ F):MB H' bxs fvs :=
 ⟨fun i b h=>q.blk (x.blk i b h) (hF _ (by unfold wrM; rw [List.mem_append]; exact .inl (List.mem_map.2 ⟨b,List.mem_of_getElem? h,rfl⟩))),x.bne,x.at',
  fun i f h=>(x.vec i f h).frame q (fun y hy=>hF y (by unfold wrM; rw [List.mem_append]; exact .inr (List.mem_flatMap.2 ⟨f,List.mem_of_getElem? h,hy⟩))),x.nb,x.dis,x.hc⟩
theorem MB.fs {S:Nat→Prop} (x:MB H bxs fvs) (q:FS S H H') (hS:∀ y ∈ wrM bxs fvs,S y):MB H' bxs fvs:=by
 have hl:∀ y,S y→y < H.size→H'[y]?=H[y]?:=fun y h1 h2=>q.same y h2 h1
 refine ⟨fun i b h=>q.blk (x.blk i b h) (hS _ (by unfold wrM; rw [List.mem_append]; exact .inl (List.mem_map.2 ⟨b,List.mem_of_getElem? h,rfl⟩))),x.bne,x.at',?_,x.nb,x.dis,x.hc⟩
 intro i f h
 have hv:=x.vec i f h
 have hs:∀ y ∈ own f.v,S y:=fun y hy=>hS y (by unfold wrM; rw [List.mem_append]; exact .inr (List.mem_flatMap.2 ⟨f,List.mem_of_getElem? h,hy⟩))
 rcases hv.ex with ⟨e1,e2⟩ | ⟨b,len,cap,pre,rest,e1,hb,h2,h3,h4⟩
 ·exact ⟨.inl ⟨e1,e2⟩⟩
 ·refine ⟨.inr ⟨b,len,cap,pre,rest,e1,?_,h2,h3,h4⟩⟩
  exact q.blk hb (hs b (by rw [e1]; simp [own]))
theorem MB.lt (x:MB H bxs fvs):∀ y ∈ wrM bxs fvs,y < H.size:=by
 intro y hy
 unfold wrM at hy
 rw [List.mem_append,List.mem_map,List.mem_flatMap] at hy
 rcases hy with ⟨b,hb,rfl⟩ | ⟨f,hf,hy⟩
 ·obtain ⟨i,hi⟩:=List.getElem?_of_mem hb
  exact (x.blk i b hi).lt
 ·obtain ⟨i,hi⟩:=List.getElem?_of_mem hf
  exact (x.vec i f hi).lt y hy
theorem set_get {α:Type} {l:List α} {i j:Nat} {a c:α} (h:(l.set i a)[j]?=some c):(i=j∧c=a∧j < l.length)∨(i ≠ j∧l[j]?=some c):=by
 rw [List.getElem?_set] at h
 by_cases e:i=j
 ·rw [if_pos e] at h
  split at h
  ·simp only [Option.some.injEq] at h; exact .inl ⟨e,h.symm,by omega⟩
  ·simp at h
 ·rw [if_neg e] at h; exact .inr ⟨e,h⟩
theorem MB.app (x:MB H bxs fvs) {i:Nat} {f:FV} {b:Bx} (hf:fvs[i]?=some f) (hb:bxs[f.bi]?=some b) {v':Value} {new:List Value} (g1:Vec H1 f.e f.z v' (f.vs ++ new)) (g2:Fr (own f.v) H H1) (g3:∀ y ∈ own v',y ∈ own f.v∨H.size≤y) :
  wr H1 ⟨b.b,f.cell,none⟩ v'=some (setH H1 ⟨b.b,f.cell,none⟩ v')∧MB (setH H1 ⟨b.b,f.cell,none⟩ v') (bxs.set f.bi { b with cs:=b.cs.set f.cell v' }) (fvs.set i { f with v:=v',vs:=f.vs ++ new }) ∧
   Fr (b.b :: own f.v) H (setH H1 ⟨b.b,f.cell,none⟩ v'):=by
 obtain ⟨b0,hb0,hat⟩:=x.at' i f hf
 rw [hb,Option.some.injEq] at hb0
 subst hb0
 have hcl:=(List.getElem?_eq_some_iff.1 hat).1
 have bb:=g2.blk (x.blk _ _ hb) (x.nb _ _ _ _ hf hb)
 have hlt:∀ y ∈ wrM bxs fvs,y < H.size:=x.lt
 have hbl:∀ (k:Nat) (y:Bx),bxs[k]?=some y→y.b < H.size:=fun k y h=>(x.blk k y h).lt
 have hw:=bb.wr (i:=f.cell) hcl v'
 obtain ⟨X,hX⟩:∃ X,X=setH H1 ⟨b.b,f.cell,none⟩ v':=⟨_,rfl⟩
 have q:Fr [b.b] H1 X:=by rw [hX]; exact Fr.set (by simp)
 have bX:Blk X b.b b.t (b.cs.set f.cell v'):=by rw [hX]; exact bb.set f.cell v'
 rw [← hX] at hw ⊢
 have hall:Fr (b.b :: own f.v) H X:=(g2.mono (by intro y _ hy; simp [hy])).trans (q.mono (by intro y _ hy; simp at hy; simp [hy]))
 have hv'b:∀ (k:Nat) (y:Bx),bxs[k]?=some y→y.b ∉ own v':=by
  intro k y hy e
  rcases g3 _ e with h | h
  ·exact x.nb _ _ _ _ hf hy h
  ·have:=hbl k y hy; omega
 refine ⟨hw,⟨?_,?_,?_,?_,?_,?_,?_⟩,hall⟩
 ·intro k y hy
  rcases set_get hy with ⟨rfl,rfl,_⟩ | ⟨hk,hy⟩
  ·exact bX
  ·exact hall.blk (x.blk k y hy) (by
    rw [List.mem_cons,not_or]
    exact ⟨fun e=>x.bne _ _ _ _ hk hb hy e.symm,x.nb _ _ _ _ hf hy⟩)
 ·intro k j y w hkj hy hw
  rcases set_get hy with ⟨rfl,rfl,_⟩ | ⟨hk,hy⟩
  ·rcases set_get hw with ⟨e,_⟩ | ⟨_,hw⟩
   ·exact absurd e hkj
   ·have:=x.bne _ _ _ _ hkj hb hw; exact this
  ·rcases set_get hw with ⟨rfl,rfl,_⟩ | ⟨_,hw⟩
   ·have:=x.bne _ _ _ _ hkj hy hb; exact this
   ·exact x.bne _ _ _ _ hkj hy hw
 ·intro k g hg
  rcases set_get hg with ⟨rfl,rfl,_⟩ | ⟨hk,hg⟩
  ·refine ⟨{ b with cs:=b.cs.set f.cell v' },?_,?_⟩
   ·simp only
    rw [List.getElem?_set,if_pos rfl,if_pos (List.getElem?_eq_some_iff.1 hb).1]
   ·simp only
    rw [List.getElem?_set,if_pos rfl,if_pos hcl]
  ·obtain ⟨y,hy,hy2⟩:=x.at' k g hg
   by_cases e:f.bi=g.bi
   ·rw [← e,hb,Option.some.injEq] at hy
    subst hy
    refine ⟨{ b with cs:=b.cs.set f.cell v' },?_,?_⟩
    ·rw [List.getElem?_set,if_pos e,if_pos (List.getElem?_eq_some_iff.1 hb).1]
    ·simp only
     have hne:=(x.hc _ _ _ _ hk hf hg).resolve_left (fun h=>h e)
     rw [List.getElem?_set,if_neg hne]; exact hy2
   ·exact ⟨y,by rw [List.getElem?_set,if_neg e]; exact hy,hy2⟩
 ·intro k g hg
  rcases set_get hg with ⟨rfl,rfl,_⟩ | ⟨hk,hg⟩
  ·exact g1.frame q (fun y hy=>by simp; rintro rfl; exact hv'b _ _ hb hy)
  ·exact (x.vec k g hg).frame hall (fun y hy=>by
    rw [List.mem_cons,not_or]
    exact ⟨fun e=>x.nb _ _ _ _ hg hb (e ▸ hy),fun e=>x.dis _ _ _ _ hk hf hg y e hy⟩)
 ·intro k j g y hg hy
  have hyb:∃ y',bxs[j]?=some y'∧y'.b=y.b:=by
   rcases set_get hy with ⟨rfl,rfl,_⟩ | ⟨_,hy⟩
   ·exact ⟨b,hb,rfl⟩
   ·exact ⟨y,hy,rfl⟩
  obtain ⟨y',hy',e⟩:=hyb
  rw [← e]
  rcases set_get hg with ⟨rfl,rfl,_⟩ | ⟨hk,hg⟩
  ·exact hv'b _ _ hy'
  ·exact x.nb _ _ _ _ hg hy'
 ·intro k j g h hkj hg hh y hy hy'
  rcases set_get hg with ⟨rfl,rfl,_⟩ | ⟨hk,hg⟩
  ·rcases set_get hh with ⟨e,_⟩ | ⟨hj,hh⟩
   ·exact hkj e
   ·rcases g3 y hy with h1 | h1
    ·exact x.dis _ _ _ _ hkj hf hh y h1 hy'
    ·have:=(x.vec _ _ hh).lt y hy'; omega
  ·rcases set_get hh with ⟨rfl,rfl,_⟩ | ⟨hj,hh⟩
   ·rcases g3 y hy' with h1 | h1
    ·exact x.dis _ _ _ _ hkj hg hf y hy h1
    ·have:=(x.vec _ _ hg).lt y hy; omega
   ·exact x.dis _ _ _ _ hkj hg hh y hy hy'
 ·intro k j g h hkj hg hh
  have hg':∃ g',fvs[k]?=some g'∧g'.bi=g.bi∧g'.cell=g.cell:=by
   rcases set_get hg with ⟨rfl,rfl,_⟩ | ⟨_,hg⟩
   ·exact ⟨f,hf,rfl,rfl⟩
   ·exact ⟨g,hg,rfl,rfl⟩
  have hh':∃ g',fvs[j]?=some g'∧g'.bi=h.bi∧g'.cell=h.cell:=by
   rcases set_get hh with ⟨rfl,rfl,_⟩ | ⟨_,hh⟩
   ·exact ⟨f,hf,rfl,rfl⟩
   ·exact ⟨h,hh,rfl,rfl⟩
  obtain ⟨a,a1,a2,a3⟩:=hg'
  obtain ⟨c,c1,c2,c3⟩:=hh'
  have:=x.hc _ _ _ _ hkj a1 c1
  rw [a2,a3,c2,c3] at this
  exact this
theorem MB.put (x:MB H bxs fvs) {k i:Nat} {b:Bx} (hb:bxs[k]?=some b) (hi:i < b.cs.length) (hn:∀ (j:Nat) (f:FV),fvs[j]?=some f→f.bi=k→f.cell ≠ i) (u:Value) :
  wr H ⟨b.b,i,none⟩ u=some (setH H ⟨b.b,i,none⟩ u)∧MB (setH H ⟨b.b,i,none⟩ u) (bxs.set k { b with cs:=b.cs.set i u }) fvs∧Fr [b.b] H (setH H ⟨b.b,i,none⟩ u):=by
 have bb:=x.blk _ _ hb
 have hw:=bb.wr (i:=i) hi u
 obtain ⟨X,hX⟩:∃ X,X=setH H ⟨b.b,i,none⟩ u:=⟨_,rfl⟩
 have q:Fr [b.b] H X:=by rw [hX]; exact Fr.set (by simp)
 have bX:Blk X b.b b.t (b.cs.set i u):=by rw [hX]; exact bb.set i u
 rw [← hX] at hw ⊢
 refine ⟨hw,⟨?_,?_,?_,?_,?_,x.dis,x.hc⟩,q⟩
 ·intro j y hy
  rcases set_get hy with ⟨rfl,rfl,_⟩ | ⟨hk,hy⟩
  ·exact bX
  ·exact q.blk (x.blk j y hy) (by simp; exact fun e=>x.bne _ _ _ _ hk hb hy e.symm)
 ·intro c j y w hkj hy hw
  rcases set_get hy with ⟨rfl,rfl,_⟩ | ⟨hk,hy⟩
  ·rcases set_get hw with ⟨e,_⟩ | ⟨_,hw⟩
   ·exact absurd e hkj
   ·have:=x.bne _ _ _ _ hkj hb hw; exact this
  ·rcases set_get hw with ⟨rfl,rfl,_⟩ | ⟨_,hw⟩
   ·have:=x.bne _ _ _ _ hkj hy hb; exact this
   ·exact x.bne _ _ _ _ hkj hy hw
 ·intro j g hg
  obtain ⟨y,hy,hy2⟩:=x.at' j g hg
  by_cases e:k=g.bi
  ·rw [← e,hb,Option.some.injEq] at hy
   subst hy
   refine ⟨{ b with cs:=b.cs.set i u },?_,?_⟩
   ·rw [List.getElem?_set,if_pos e,if_pos (List.getElem?_eq_some_iff.1 hb).1]
   ·simp only
    rw [List.getElem?_set,if_neg (fun h=>hn j g hg e.symm h.symm)]; exact hy2
  ·exact ⟨y,by rw [List.getElem?_set,if_neg e]; exact hy,hy2⟩
 ·intro j g hg
  exact (x.vec j g hg).frame q (fun y hy=>by simp; rintro rfl; exact x.nb _ _ _ _ hg hb hy)
 ·intro j c g y hg hy
  rcases set_get hy with ⟨rfl,rfl,_⟩ | ⟨_,hy⟩
  ·have:=x.nb _ _ _ _ hg hb; exact this
  ·exact x.nb _ _ _ _ hg hy
end
end Go.Proofs.YtmihefbdghjeoaaGreat
namespace Go.Proofs.YtmihefbdghjeoaaGreat
open Go.HL
set_option maxRecDepth 10000
def vrC (v:Vr):List Value:=[sv v.name,iv v.width,iv v.value]
theorem vrL (v:Vr):(vrC v).length=3:=rfl
structure AP where
 p:Pr
 lv:Value
 rv:Value
 ev:Value
 nv:Value
 xv:Value
def apC (a:AP):List Value:=[sv a.p.name,iv a.p.copy,a.lv,iv a.p.rest.length,a.rv,a.ev,a.nv,a.xv]
theorem apL (a:AP):(apC a).length=8:=rfl
structure APR (H:Heap) (S:Nat→Prop) (a:AP):Prop where
 lo:Rd H S 1 a.lv (a.p.locals.map iv)
 re:Rd H S 1 a.rv (a.p.rest.map .bool)
 ed:Rd H S 8 a.ev (a.p.edges.flatMap edC)
 nm:Rd H S 1 a.nv (a.p.names.map sv)
 xs:Rd H S 1 a.xv (a.p.vars.map iv)
theorem APR.frame {H H':Heap} {S:Nat→Prop} {a:AP} (h:APR H S a) (k:Keeps S H H'):APR H' S a:=⟨h.lo.frame k,h.re.frame k,h.ed.frame k,h.nm.frame k,h.xs.frame k⟩
theorem APR.mono {H:Heap} {S S':Nat→Prop} {a:AP} (h:APR H S a) (hs:∀ b,S b→b < H.size→S' b):APR H S' a:=⟨h.lo.mono hs,h.re.mono hs,h.ed.mono hs,h.nm.mono hs,h.xs.mono hs⟩
structure MV where
 tv:Value
 cv:Value
 va:Value
 pv:Value
 sa:Value
def mkB (mb:Nat) (w:MV) (m:Mo):Bx:=⟨mb,51,[w.tv,iv m.globals,w.cv,w.va,w.pv,w.sa,.bool m.dead]⟩
def mkF (w:MV) (m:Mo) (aps:List AP) (r:List FV):List FV:=⟨0,2,59,5,w.cv,m.chans.flatMap chC⟩ :: ⟨0,3,61,3,w.va,m.vars.flatMap vrC⟩ :: ⟨0,4,43,8,w.pv,aps.flatMap apC⟩ :: ⟨0,5,3,1,w.sa,m.safe.map iv⟩ :: r
section
variable {H:Heap} {mb:Nat} {w:MV} {m:Mo} {aps:List AP} {bxs:List Bx} {fvs:List FV} {a:AN} {S:Nat→Prop}
set_option maxHeartbeats 2000000 in
theorem auMVar_spec (x:MB H (mkB mb w m :: bxs) (mkF w m aps fvs)) (hl:m.vars.length≤10000000) (ha:AR H S a) (hw:a.n.words.length=1) (hn:a.n.nums.length=2) :
  CallF Tryz.prog 27 [hp mb,anV a] H (fun r H'=>r=iv m.vars.length∧∃ va',MB H' (mkB mb { w with va:=va' } { m with vars:=m.vars ++ [vrO a.n] } :: bxs) (mkF { w with va:=va' } { m with vars:=m.vars ++ [vrO a.n] } aps fvs)∧Fr (mb :: own w.va) H H'∧∀ y ∈ own va',y ∈ own w.va∨H.size≤y) NoP:=by
 obtain ⟨⟨kind,words,nums,kids,pos⟩,x1,c1,x2,c2,x3,c3,rfl⟩:=ha.open
 obtain ⟨tv,cv,va,pv,sa⟩:=w
 simp only at hw hn
 obtain ⟨G,hG⟩:∃ G,G=H.push (.cells #[iv kind,.slice x1 words.length c1,.slice x2 nums.length c2,.slice x3 kids.length c3,iv pos] 47):=⟨_,rfl⟩
 have f0:Fr [] H G:=by rw [hG]; exact Fr.push
 have zG:G.size=H.size + 1:=by rw [hG]; simp
 have hb:Blk G H.size 47 [iv kind,.slice x1 words.length c1,.slice x2 nums.length c2,.slice x3 kids.length c3,iv pos]:=by rw [hG]; exact Blk.new rfl
 have n1:=hb.cell 1
 have n2:=hb.cell 2
 simp only [gS,gZ] at n1 n2
 have xG:=x.grow f0
 have hw3:=ha.w.frame (Keeps.of_fr f0 (by simp))
 have hu3:=ha.u.frame (Keeps.of_fr f0 (by simp))
 simp only at hw3 hu3
 obtain ⟨wb,wo,wc,ew,-,ec⟩:=hw3.at1 (getD_some (d:=([]:Str)) (i:=0) (by omega))
 simp only [Value.slice.injEq,true_and] at ew
 obtain ⟨rfl,rfl⟩:=ew
 rw [Nat.add_zero] at ec
 obtain ⟨ub,uo,uc,ue,-,uq⟩:=hu3.at1 (getD_some (d:=(0:Int)) (i:=0) (by omega))
 simp only [Value.slice.injEq,true_and] at ue
 obtain ⟨rfl,rfl⟩:=ue
 rw [Nat.add_zero] at uq
 obtain ⟨ub',uo',uc',ue',-,up⟩:=hu3.at1 (getD_some (d:=(0:Int)) (i:=1) (by omega))
 simp only [Value.slice.injEq,Option.some.injEq,Addr.mk.injEq,and_true,true_and] at ue'
 obtain ⟨⟨rfl,rfl⟩,rfl⟩:=ue'
 have e0:nums.getD 0 0=n0 ⟨kind,words,nums,kids,pos⟩:=rfl
 have e1:nums.getD 1 0=Go.Proofs.YtmihefbdghjeoaaGreat.n1 ⟨kind,words,nums,kids,pos⟩:=rfl
 have ew0:words.getD 0 []=w0 ⟨kind,words,nums,kids,pos⟩:=rfl
 rw [e0] at uq
 rw [e1] at up
 rw [ew0] at ec
 have bm:=xG.blk 0 _ rfl
 have k3:=bm.cell 3
 simp only [mkB,gS,gZ] at k3
 have vv:=xG.vec 1 _ rfl
 simp only [mkF,gS,gZ] at vv
 have hnb:=x.nb 1 0 _ _ rfl rfl
 simp only [mkB] at hnb
 obtain ⟨ax,nx,cx,hva,hvl⟩:=vv.len
 rw [flat_len vrL] at hvl
 have hnx:nx=m.vars.length:=by omega
 subst hnx
 subst hva
 obtain ⟨N,hN⟩:∃ N:Nd,N=⟨kind,words,nums,kids,pos⟩:=⟨_,rfl⟩
 rw [← hN] at uq up ec
 obtain ⟨hl',hhl⟩:∃ hl',hl'=hldL G [⟨mb,3,none⟩]:=⟨_,rfl⟩
 have hok:heldOK hl' G:=by rw [hhl]; exact hld_ok
 have l3:lookA hl' ⟨mb,3,none⟩=some (.slice ax m.vars.length cx):=by rw [hhl]; exact hld_at k3 (by simp)
 have hmem:∀ ad v,lookA hl' ad=some v→ad.block=mb:=by
  intro ad v hv
  rw [hhl] at hv
  have:=hld_mem hv
  simp only [List.mem_singleton] at this
  rw [this]
 refine callF_of Tryz.func27 rfl Tryz.ntmps27 Tryz.results27 (by decide) rfl ?_
 simp (disch:=omega) only [go_sem,↓cB,dB,anV]
 rw [← hG]
 refine draw1 (lk [(0,false),(1,false),(2,false),(3,false),(4,false),(5,false),(6,true),(7,true),(8,true),(9,true),(10,true),(11,true),(12,true),(13,true),(14,true),(15,true),(16,true),(17,true),(18,true)] (.act 19 (.act 20 (lk [(21,true),(22,true),(23,true)] (.actd 24 .fin)) .non) .non)) T.mixed hl' hok ?_
 try (simp (disch:=omega) only [go_sem,↓cB,dB,l3,n1,n2,ec,uq,up])
 try refine held_by hok ?_
 try (simp (disch:=omega) only [go_sem,↓cB,dB,l3,n1,n2,ec,uq,up])
 try refine held_by (hld_fr hok (Fr.push (F:=[])) (by simp)) ?_
 try (simp (disch:=omega) only [go_sem,↓cB,dB,l3,n1,n2,ec,uq,up])
 refine app_lit (n:=1) (new:=vrC (vrO N)) T.el26 rfl vv (one_all rfl) rfl (by intro a' l c e; simp only [Value.slice.injEq] at e; obtain ⟨_,rfl,_⟩:=e; omega) ?_
 intro v' H1 g1 g2 g3 g4
 refine Hush.out ?_
 obtain ⟨aa,cc,rfl⟩:=g4 _ _ _ rfl
 have hok2:=hld_fr hok g2 (fun ad v hv=>by rw [hmem ad v hv]; exact hnb)
 obtain ⟨w1,x2,q2⟩:=xG.app (i:=1) rfl rfl g1 g2 g3
 have e3:∀ (r:List FV),(mkF ⟨tv,cv,.slice ax m.vars.length cx,pv,sa⟩ m aps r).set 1 { (⟨0,3,61,3,.slice ax m.vars.length cx,m.vars.flatMap vrC⟩:FV) with v:=.slice aa (m.vars.length + 1) cc,vs:=m.vars.flatMap vrC ++ vrC (vrO N) } = mkF ⟨tv,cv,.slice aa (m.vars.length + 1) cc,pv,sa⟩ { m with vars:=m.vars ++ [vrO N] } aps r:=by
  intro r
  simp only [mkF,List.set_cons_succ,List.set_cons_zero,List.flatMap_append,List.flatMap_cons,List.flatMap_nil,List.append_nil]
 obtain ⟨X,hX⟩:∃ X,X=setH H1 ⟨mb,3,none⟩ (.slice aa (m.vars.length + 1) cc):=⟨_,rfl⟩
 have x3':MB X (mkB mb ⟨tv,cv,.slice aa (m.vars.length + 1) cc,pv,sa⟩ { m with vars:=m.vars ++ [vrO N] } :: bxs) (mkF ⟨tv,cv,.slice aa (m.vars.length + 1) cc,pv,sa⟩ { m with vars:=m.vars ++ [vrO N] } aps fvs):=by
  rw [← e3,hX]; exact x2
 have w1':wr H1 ⟨mb,3,none⟩ (.slice aa (m.vars.length + 1) cc)=some X:=by rw [hX]; exact w1
 have k3':=(x3'.blk 0 _ rfl).cell 3
 simp only [mkB,gS,gZ] at k3'
 have q2':Fr (mb :: own (.slice ax m.vars.length cx)) G X:=by rw [hX]; exact q2
 have hl1:(((m.vars.length + 1:Nat):Int) - 1)=(m.vars.length:Int):=by omega
 refine ⟨?_⟩
 try refine held_by hok2 ?_
 try (simp (disch:=omega) only [go_sem,↓cB,dB,l3,w1',k3',hl1])
 try refine held_by hok2 ?_
 try (simp (disch:=omega) only [go_sem,↓cB,dB,l3,w1',k3',hl1])
 rw [hN] at x3'
 refine fin ⟨rfl,_,x3',f0.nil.trans q2',fun y hy=>(g3 y hy).imp id (fun h=>by have:=f0.size; omega)⟩
end
end Go.Proofs.YtmihefbdghjeoaaGreat
namespace Go.Proofs.YtmihefbdghjeoaaGreat
open Go.HL
set_option maxRecDepth 10000
def DclQ (S:Nat→Prop) (H:Heap) (mb:Nat) (tv:Value) (m:Mo) (H':Heap):Prop:=FS S H H'∧∃ w:MV,MB H' [mkB mb w m] (mkF w m [] [])∧(∀ y ∈ wrM [mkB mb w m] (mkF w m [] []),¬ S y)∧w.tv=tv
theorem wr_mk {mb:Nat} {w:MV} {m:Mo} {y:Nat}:y ∈ wrM [mkB mb w m] (mkF w m [] [])↔y=mb∨y ∈ own w.cv∨y ∈ own w.va∨y ∈ own w.pv∨y ∈ own w.sa:=by
 simp [wrM,mkB,mkF]
section
variable {H:Heap} {mb:Nat} {w:MV} {m:Mo} {a:AN} {S:Nat→Prop} {Sa:Nat→Prop}
set_option maxHeartbeats 4000000 in
theorem auDecl_spec (x:MB H [mkB mb w m] (mkF w m [] [])) (hS:∀ y,S y→y < H.size) (hW:∀ y ∈ wrM [mkB mb w m] (mkF w m [] []),¬ S y) (hl:m.vars.length≤1000000∧m.chans.length≤1000000∧m.safe.length≤1000000)
  (ha:AR H Sa a) (hwn:a.n.words.length=wcount a.n.kind) (hnn:a.n.nums.length=(bnds a.n.kind).length) (hk4:a.n.kind=4→0 < a.n.kids.length) :
  CallF Tryz.prog 13 [hp mb,anV a] H (fun r H'=>DclQ S H mb w.tv (dclM m a.n) H') NoP:=by
 have ha0:=ha
 obtain ⟨⟨kind,words,nums,kids,pos⟩,x1,c1,x2,c2,x3,c3,rfl⟩:=ha.open
 simp only at hwn hnn hk4
 obtain ⟨G,hG⟩:∃ G,G=H.push (.cells #[iv kind,.slice x1 words.length c1,.slice x2 nums.length c2,.slice x3 kids.length c3,iv pos] 47):=⟨_,rfl⟩
 have f0:Fr [] H G:=by rw [hG]; exact Fr.push
 have zG:G.size=H.size + 1:=by rw [hG]; simp
 have hb:Blk G H.size 47 [iv kind,.slice x1 words.length c1,.slice x2 nums.length c2,.slice x3 kids.length c3,iv pos]:=by rw [hG]; exact Blk.new rfl
 have c0:=hb.cell 0
 have n1':=hb.cell 1
 have n2':=hb.cell 2
 have n3':=hb.cell 3
 have ldn:=hb.cells0
 simp only [gS,gZ,List.length_cons,List.length_nil] at c0 n1' n2' n3' ldn
 have xG:=x.grow f0
 have haG:=ha0.frame (Keeps.of_fr f0 (by simp))
 have hw3:=haG.w
 have hu3:=haG.u
 have hk3:=haG.k
 simp only at hw3 hu3 hk3
 have s0:FS S H G:=FS.of f0 (by simp)
 obtain ⟨N,hN⟩:∃ N:Nd,N=⟨kind,words,nums,kids,pos⟩:=⟨_,rfl⟩
 have hdcl:dclM m ⟨kind,words,nums,kids,pos⟩=if kind=1 then { m with chans:=m.chans ++ [chO N] } else if kind=2 then { m with vars:=m.vars ++ [vrO N] } else if kind=4 then { m with safe:=m.safe ++ [k0 N] } else if kind=5 then { m with dead:=true } else m:=by
  rw [hN]; rfl
 simp only
 rw [hdcl]
 have bm:=xG.blk 0 _ rfl
 refine callF_of Tryz.func13 rfl Tryz.ntmps13 Tryz.results13 (by decide) rfl ?_
 by_cases e2:kind=2
 ·subst e2
  rw [if_neg (by omega),if_pos rfl]
  have hnn2:nums.length=2:=by rw [hnn]; rfl
  have hwn2:words.length=1:=by rw [hwn]; rfl
  have hvar:=auMVar_spec (bxs:=[]) (fvs:=[]) xG (by omega) haG hwn2 hnn2
  simp only at hvar
  simp (disch:=omega) only [go_sem,↓cB,dB,anV]
  rw [← hG]
  try (simp (disch:=omega) only [go_sem,↓cB,dB,c0,ldn])
  refine call_to hvar ?_
  intro r5 H5 hv
  refine Hush.out ?_
  obtain ⟨-,va',x5,f5,hown⟩:=hv
  rw [← hN] at x5
  refine ⟨?_⟩
  try (simp (disch:=omega) only [go_sem,↓cB,dB])
  have hmb:¬ S mb:=hW mb (wr_mk.2 (.inl rfl))
  have hvaS:∀ y ∈ own w.va,¬ S y:=fun y hy=>hW y (wr_mk.2 (.inr (.inr (.inl hy))))
  refine fin ⟨s0.trans (FS.of f5 (by
   intro y hy
   rw [List.mem_cons] at hy
   rcases hy with rfl | hy
   ·exact hmb
   ·exact hvaS y hy)),_,x5,?_,rfl⟩
  intro y hy
  rw [wr_mk] at hy
  rcases hy with rfl | hy | hy | hy | hy
  ·exact hmb
  ·exact hW y (wr_mk.2 (.inr (.inl hy)))
  ·rcases hown y hy with h | h
   ·exact hvaS y h
   ·exact fun e=>by have:=hS y e; omega
  ·exact hW y (wr_mk.2 (.inr (.inr (.inr (.inl hy)))))
  ·exact hW y (wr_mk.2 (.inr (.inr (.inr (.inr hy)))))
 obtain ⟨tv,cv,va,pv,sa⟩:=w
 by_cases e1:kind=1
 ·subst e1
  rw [if_pos rfl]
  obtain ⟨ax,nx,cx,hva,hvl⟩:=(xG.vec 0 _ rfl).len
  simp only [mkF,gS,gZ] at hva hvl
  rw [flat_len chL] at hvl
  have hnx:nx=m.chans.length:=by omega
  subst hnx
  subst hva
  have vv:=xG.vec 0 _ rfl
  have k3:=bm.cell 2
  simp only [mkB,gS,gZ] at k3
  simp only [mkF,gS,gZ] at vv
  have hnb:=x.nb 0 0 _ _ rfl rfl
  simp only [mkB,mkF] at hnb
  have hnn4:nums.length=4:=by rw [hnn]; rfl
  have hwn1:words.length=1:=by rw [hwn]; rfl
  obtain ⟨wb,wo,wc,ew,-,ec⟩:=hw3.at1 (getD_some (d:=([]:Str)) (i:=0) (by omega))
  simp only [Value.slice.injEq,true_and] at ew
  obtain ⟨rfl,rfl⟩:=ew
  rw [Nat.add_zero] at ec
  obtain ⟨ub,uo,uc,ue,-,uq0⟩:=hu3.at1 (getD_some (d:=(0:Int)) (i:=0) (by omega))
  simp only [Value.slice.injEq,true_and] at ue
  obtain ⟨rfl,rfl⟩:=ue
  rw [Nat.add_zero] at uq0
  obtain ⟨ub',uo',uc',ue',-,uq1⟩:=hu3.at1 (getD_some (d:=(0:Int)) (i:=1) (by omega))
  simp only [Value.slice.injEq,Option.some.injEq,Addr.mk.injEq,and_true,true_and] at ue'
  obtain ⟨⟨rfl,rfl⟩,rfl⟩:=ue'
  obtain ⟨ub',uo',uc',ue',-,uq2⟩:=hu3.at1 (getD_some (d:=(0:Int)) (i:=2) (by omega))
  simp only [Value.slice.injEq,Option.some.injEq,Addr.mk.injEq,and_true,true_and] at ue'
  obtain ⟨⟨rfl,rfl⟩,rfl⟩:=ue'
  obtain ⟨ub',uo',uc',ue',-,uq3⟩:=hu3.at1 (getD_some (d:=(0:Int)) (i:=3) (by omega))
  simp only [Value.slice.injEq,Option.some.injEq,Addr.mk.injEq,and_true,true_and] at ue'
  obtain ⟨⟨rfl,rfl⟩,rfl⟩:=ue'
  have e0:nums.getD 0 0=n0 N:=by rw [hN]; rfl
  have e1':nums.getD 1 0=n1 N:=by rw [hN]; rfl
  have e2':nums.getD 2 0=n2 N:=by rw [hN]; rfl
  have e3':nums.getD 3 0=n3 N:=by rw [hN]; rfl
  have ew0:words.getD 0 []=w0 N:=by rw [hN]; rfl
  rw [e0] at uq0
  rw [e1'] at uq1
  rw [e2'] at uq2
  rw [e3'] at uq3
  rw [ew0] at ec
  obtain ⟨hl',hhl⟩:∃ hl',hl'=hldL G [⟨mb,2,none⟩]:=⟨_,rfl⟩
  have hok:heldOK hl' G:=by rw [hhl]; exact hld_ok
  have l3:lookA hl' ⟨mb,2,none⟩=some (.slice ax m.chans.length cx):=by rw [hhl]; exact hld_at k3 (by simp)
  have hmem:∀ ad v,lookA hl' ad=some v→ad.block=mb:=by
   intro ad v hv
   rw [hhl] at hv
   have:=hld_mem hv
   simp only [List.mem_singleton] at this
   rw [this]
  simp (disch:=omega) only [go_sem,↓cB,dB,anV]
  rw [← hG]
  try (simp (disch:=omega) only [go_sem,↓cB,dB,c0])
  refine draw1 (lk [(0,false),(1,false),(2,false),(3,false),(4,false),(5,false),(6,true),(7,true),(8,true),(9,true),(10,true),(11,true),(12,true),(13,true),(14,true),(15,true),(16,true),(17,true),(18,true),(19,true),(20,true),(21,true),(22,true),(23,true),(24,true),(25,true),(26,true),(27,true),(28,true)] (.act 29 (.act 30 (lk [(31,true),(32,true),(33,true)] (.actd 34 .fin)) .non) .non)) T.mixed hl' hok ?_
  try (simp (disch:=omega) only [go_sem,↓cB,dB,l3,n1',n2',n3',ec,uq0,uq1,uq2,uq3])
  try refine held_by hok ?_
  try (simp (disch:=omega) only [go_sem,↓cB,dB,l3,n1',n2',n3',ec,uq0,uq1,uq2,uq3])
  try refine held_by (hld_fr hok (Fr.push (F:=[])) (by simp)) ?_
  try (simp (disch:=omega) only [go_sem,↓cB,dB,l3,n1',n2',n3',ec,uq0,uq1,uq2,uq3])
  refine app_lit (n:=1) (new:=chC (chO N)) T.el25 rfl vv (one_all rfl) rfl (by intro a' l c e; simp only [Value.slice.injEq] at e; obtain ⟨_,rfl,_⟩:=e; omega) ?_
  intro v' H1 g1 g2 g3 g4
  refine Hush.out ?_
  obtain ⟨aa,cc,rfl⟩:=g4 _ _ _ rfl
  have hok2:=hld_fr hok g2 (fun ad v hv=>by rw [hmem ad v hv]; exact hnb)
  obtain ⟨w1,x2,q2⟩:=xG.app (i:=0) rfl rfl g1 g2 g3
  obtain ⟨X,hX⟩:∃ X,X=setH H1 ⟨mb,2,none⟩ (.slice aa (m.chans.length + 1) cc):=⟨_,rfl⟩
  have x3':MB X [mkB mb ⟨tv,.slice aa (m.chans.length + 1) cc,va,pv,sa⟩ { m with chans:=m.chans ++ [chO N] }] (mkF ⟨tv,.slice aa (m.chans.length + 1) cc,va,pv,sa⟩ { m with chans:=m.chans ++ [chO N] } [] []):=by
   have e3:mkF ⟨tv,.slice aa (m.chans.length + 1) cc,va,pv,sa⟩ { m with chans:=m.chans ++ [chO N] } [] []=(mkF ⟨tv,.slice ax m.chans.length cx,va,pv,sa⟩ m [] []).set 0 { (⟨0,2,59,5,.slice ax m.chans.length cx,m.chans.flatMap chC⟩:FV) with v:=.slice aa (m.chans.length + 1) cc,vs:=m.chans.flatMap chC ++ chC (chO N) }:=by
    simp only [mkF,List.set_cons_succ,List.set_cons_zero,List.flatMap_append,List.flatMap_cons,List.flatMap_nil,List.append_nil,List.map_append,List.map_cons,List.map_nil]
   rw [e3,hX]; exact x2
  have w1':wr H1 ⟨mb,2,none⟩ (.slice aa (m.chans.length + 1) cc)=some X:=by rw [hX]; exact w1
  have q2':Fr (mb :: own (.slice ax m.chans.length cx)) G X:=by rw [hX]; exact q2
  refine ⟨?_⟩
  try refine held_by hok2 ?_
  try (simp (disch:=omega) only [go_sem,↓cB,dB,l3,w1'])
  try refine held_by hok2 ?_
  try (simp (disch:=omega) only [go_sem,↓cB,dB,l3,w1'])
  have hold:∀ y ∈ own (.slice ax m.chans.length cx),¬ S y:=fun y hy=>hW y (wr_mk.2 (.inr (.inl hy)))
  have hmb:¬ S mb:=hW mb (wr_mk.2 (.inl rfl))
  have q2S:FS S G X:=FS.of q2' (by
   intro y hy
   rw [List.mem_cons] at hy
   rcases hy with rfl | hy
   ·exact hmb
   ·exact hold y hy)
  refine fin ⟨s0.trans q2S,_,x3',?_,rfl⟩
  intro y hy
  rw [wr_mk] at hy
  rcases hy with rfl | hy | hy | hy | hy
  ·exact hmb
  ·rcases g3 y hy with h | h
   ·exact hold y h
   ·exact fun e=>by have:=hS y e; omega
  ·exact hW y (wr_mk.2 (.inr (.inr (.inl hy))))
  ·exact hW y (wr_mk.2 (.inr (.inr (.inr (.inl hy)))))
  ·exact hW y (wr_mk.2 (.inr (.inr (.inr (.inr hy)))))
 rw [if_neg e1,if_neg e2]
 by_cases e4:kind=4
 ·subst e4
  rw [if_pos rfl]
  obtain ⟨ax,nx,cx,hva,hvl⟩:=(xG.vec 3 _ rfl).len
  simp only [mkF,gS,gZ] at hva hvl
  rw [List.length_map,Nat.mul_one] at hvl
  have hnx:nx=m.safe.length:=by omega
  subst hnx
  subst hva
  have vv:=xG.vec 3 _ rfl
  have k3:=bm.cell 5
  simp only [mkB,gS,gZ] at k3
  simp only [mkF,gS,gZ] at vv
  have hnb:=x.nb 3 0 _ _ rfl rfl
  simp only [mkB,mkF] at hnb
  have hkl:=hk4 rfl
  obtain ⟨kb,ko,kc,ke,-,kq⟩:=hk3.at1 (getD_some (d:=(0:Int)) (i:=0) hkl)
  simp only [Value.slice.injEq,true_and] at ke
  obtain ⟨rfl,rfl⟩:=ke
  rw [Nat.add_zero] at kq
  have ek:kids.getD 0 0=k0 N:=by rw [hN]; rfl
  rw [ek] at kq
  obtain ⟨hl',hhl⟩:∃ hl',hl'=hldL G [⟨mb,5,none⟩]:=⟨_,rfl⟩
  have hok:heldOK hl' G:=by rw [hhl]; exact hld_ok
  have l3:lookA hl' ⟨mb,5,none⟩=some (.slice ax m.safe.length cx):=by rw [hhl]; exact hld_at k3 (by simp)
  have hmem:∀ ad v,lookA hl' ad=some v→ad.block=mb:=by
   intro ad v hv
   rw [hhl] at hv
   have:=hld_mem hv
   simp only [List.mem_singleton] at this
   rw [this]
  simp (disch:=omega) only [go_sem,↓cB,dB,anV]
  rw [← hG]
  try (simp (disch:=omega) only [go_sem,↓cB,dB,c0])
  refine draw1 (lk [(0,false),(1,false),(2,false),(3,false),(4,false),(5,false),(6,true),(7,true),(8,true),(9,true)] (.act 10 (.act 11 (lk [(12,true),(13,true),(14,true)] (.actd 15 .fin)) .non) .non)) T.mixed hl' hok ?_
  try (simp (disch:=omega) only [go_sem,↓cB,dB,l3,n1',n2',n3',kq])
  try refine held_by hok ?_
  try (simp (disch:=omega) only [go_sem,↓cB,dB,l3,n1',n2',n3',kq])
  try refine held_by (hld_fr hok (Fr.push (F:=[])) (by simp)) ?_
  try (simp (disch:=omega) only [go_sem,↓cB,dB,l3,n1',n2',n3',kq])
  refine app_lit1 T.el28 rfl vv rfl (by simp; omega) ?_
  intro v' H1 g1 g2 g3 g4
  refine Hush.out ?_
  rw [List.length_map] at g4
  obtain ⟨aa,cc,rfl⟩:=g4
  have hok2:=hld_fr hok g2 (fun ad v hv=>by rw [hmem ad v hv]; exact hnb)
  obtain ⟨w1,x2,q2⟩:=xG.app (i:=3) rfl rfl g1 g2 g3
  obtain ⟨X,hX⟩:∃ X,X=setH H1 ⟨mb,5,none⟩ (.slice aa (m.safe.length + 1) cc):=⟨_,rfl⟩
  have x3':MB X [mkB mb ⟨tv,cv,va,pv,.slice aa (m.safe.length + 1) cc⟩ { m with safe:=m.safe ++ [k0 N] }] (mkF ⟨tv,cv,va,pv,.slice aa (m.safe.length + 1) cc⟩ { m with safe:=m.safe ++ [k0 N] } [] []):=by
   have e3:mkF ⟨tv,cv,va,pv,.slice aa (m.safe.length + 1) cc⟩ { m with safe:=m.safe ++ [k0 N] } [] []=(mkF ⟨tv,cv,va,pv,.slice ax m.safe.length cx⟩ m [] []).set 3 { (⟨0,5,3,1,.slice ax m.safe.length cx,m.safe.map iv⟩:FV) with v:=.slice aa (m.safe.length + 1) cc,vs:=m.safe.map iv ++ [iv (k0 N)] }:=by
    simp only [mkF,List.set_cons_succ,List.set_cons_zero,List.flatMap_append,List.flatMap_cons,List.flatMap_nil,List.append_nil,List.map_append,List.map_cons,List.map_nil]
   rw [e3,hX]; exact x2
  have w1':wr H1 ⟨mb,5,none⟩ (.slice aa (m.safe.length + 1) cc)=some X:=by rw [hX]; exact w1
  have q2':Fr (mb :: own (.slice ax m.safe.length cx)) G X:=by rw [hX]; exact q2
  refine ⟨?_⟩
  try refine held_by hok2 ?_
  try (simp (disch:=omega) only [go_sem,↓cB,dB,l3,w1'])
  try refine held_by hok2 ?_
  try (simp (disch:=omega) only [go_sem,↓cB,dB,l3,w1'])
  have hold:∀ y ∈ own (.slice ax m.safe.length cx),¬ S y:=fun y hy=>hW y (wr_mk.2 (.inr (.inr (.inr (.inr hy)))))
  have hmb:¬ S mb:=hW mb (wr_mk.2 (.inl rfl))
  have q2S:FS S G X:=FS.of q2' (by
   intro y hy
   rw [List.mem_cons] at hy
   rcases hy with rfl | hy
   ·exact hmb
   ·exact hold y hy)
  refine fin ⟨s0.trans q2S,_,x3',?_,rfl⟩
  intro y hy
  rw [wr_mk] at hy
  rcases hy with rfl | hy | hy | hy | hy
  ·exact hmb
  ·exact hW y (wr_mk.2 (.inr (.inl hy)))
  ·exact hW y (wr_mk.2 (.inr (.inr (.inl hy))))
  ·exact hW y (wr_mk.2 (.inr (.inr (.inr (.inl hy)))))
  ·rcases g3 y hy with h | h
   ·exact hold y h
   ·exact fun e=>by have:=hS y e; omega
 rw [if_neg e4]
 by_cases e5:kind=5
 ·subst e5
  rw [if_pos rfl]
  obtain ⟨w1,x5,f5⟩:=xG.put (k:=0) (i:=6) rfl (by simp [mkB]) (by
   intro j f hf _
   match j,hf with
   | 0,hf=>simp only [mkF,gZ,Option.some.injEq] at hf; subst hf; simp
   | 1,hf=>simp only [mkF,gZ,gS,Option.some.injEq] at hf; subst hf; simp
   | 2,hf=>simp only [mkF,gZ,gS,Option.some.injEq] at hf; subst hf; simp
   | 3,hf=>simp only [mkF,gZ,gS,Option.some.injEq] at hf; subst hf; simp
   | j + 4,hf=>simp [mkF] at hf) (.bool true)
  have x5':MB _ [mkB mb ⟨tv,cv,va,pv,sa⟩ { m with dead:=true }] (mkF ⟨tv,cv,va,pv,sa⟩ { m with dead:=true } [] []):=x5
  have w1':wr G ⟨mb,6,none⟩ (.bool true)=some (setH G ⟨mb,6,none⟩ (.bool true)):=w1
  simp (disch:=omega) only [go_sem,↓cB,dB,anV]
  rw [← hG]
  try (simp (disch:=omega) only [go_sem,↓cB,dB,c0,w1'])
  have hmb:¬ S mb:=hW mb (wr_mk.2 (.inl rfl))
  exact fin ⟨s0.trans (FS.of f5 (by simpa [mkB] using hmb)),_,x5',fun y hy=>hW y (wr_mk.2 (wr_mk.1 hy)),rfl⟩
 rw [if_neg e5]
 simp (disch:=omega) only [go_sem,↓cB,dB,anV]
 rw [← hG]
 try (simp (disch:=omega) only [go_sem,↓cB,dB,c0])
 exact fin ⟨s0,_,xG,hW,rfl⟩
end
end Go.Proofs.YtmihefbdghjeoaaGreat
namespace Go.Proofs.YtmihefbdghjeoaaGreat
open Go.HL
set_option maxRecDepth 10000
section
variable {H H1:Heap} {bxs:List Bx} {fvs:List FV} {S:Nat→Prop}
def Apart (S:Nat→Prop) (H:Heap) (bxs:List Bx) (fvs:List FV):Prop:=(∀ y,S y→y < H.size)∧∀ y ∈ wrM bxs fvs,¬ S y
theorem mem_wr_box {i:Nat} {b:Bx} (h:bxs[i]?=some b):b.b ∈ wrM bxs fvs:=by
 unfold wrM; rw [List.mem_append]; exact .inl (List.mem_map.2 ⟨b,List.mem_of_getElem? h,rfl⟩)
theorem mem_wr_own {i:Nat} {f:FV} (h:fvs[i]?=some f) {y:Nat} (hy:y ∈ own f.v):y ∈ wrM bxs fvs:=by
 unfold wrM; rw [List.mem_append]; exact .inr (List.mem_flatMap.2 ⟨f,List.mem_of_getElem? h,hy⟩)
theorem wr_set {i k:Nat} {f f':FV} {b b':Bx} (hf:fvs[i]?=some f) (hb:bxs[k]?=some b) (hbb:b'.b=b.b) {y:Nat} (h:y ∈ wrM (bxs.set k b') (fvs.set i f')):y ∈ wrM bxs fvs∨y ∈ own f'.v:=by
 unfold wrM at h
 rw [List.mem_append,List.mem_map,List.mem_flatMap] at h
 rcases h with ⟨c,hc,rfl⟩ | ⟨g,hg,hy⟩
 ·obtain ⟨j,hj⟩:=List.getElem?_of_mem hc
  rcases set_get hj with ⟨rfl,rfl,_⟩ | ⟨_,hj⟩
  ·rw [hbb]; exact .inl (mem_wr_box hb)
  ·exact .inl (mem_wr_box hj)
 ·obtain ⟨j,hj⟩:=List.getElem?_of_mem hg
  rcases set_get hj with ⟨rfl,rfl,_⟩ | ⟨_,hj⟩
  ·exact .inr hy
  ·exact .inl (mem_wr_own hj hy)
theorem MB.appS (x:MB H bxs fvs) (ap:Apart S H bxs fvs) {i:Nat} {f:FV} {b:Bx} (hf:fvs[i]?=some f) (hb:bxs[f.bi]?=some b) {v':Value} {new:List Value} (g1:Vec H1 f.e f.z v' (f.vs ++ new)) (g2:Fr (own f.v) H H1) (g3:∀ y ∈ own v',y ∈ own f.v∨H.size≤y) :
  wr H1 ⟨b.b,f.cell,none⟩ v'=some (setH H1 ⟨b.b,f.cell,none⟩ v')∧MB (setH H1 ⟨b.b,f.cell,none⟩ v') (bxs.set f.bi { b with cs:=b.cs.set f.cell v' }) (fvs.set i { f with v:=v',vs:=f.vs ++ new }) ∧
   FS S H (setH H1 ⟨b.b,f.cell,none⟩ v')∧Apart S (setH H1 ⟨b.b,f.cell,none⟩ v') (bxs.set f.bi { b with cs:=b.cs.set f.cell v' }) (fvs.set i { f with v:=v',vs:=f.vs ++ new }):=by
 obtain ⟨w1,x1,q⟩:=x.app hf hb g1 g2 g3
 refine ⟨w1,x1,FS.of q ?_,?_,?_⟩
 ·intro y hy
  rw [List.mem_cons] at hy
  rcases hy with rfl | hy
  ·exact ap.2 _ (mem_wr_box hb)
  ·exact ap.2 _ (mem_wr_own hf hy)
 ·intro y hy; have:=ap.1 y hy; have:=q.size; omega
 ·intro y hy
  rcases wr_set (b':=⟨b.b,b.t,b.cs.set f.cell v'⟩) (f':=⟨f.bi,f.cell,f.e,f.z,v',f.vs ++ new⟩) hf hb rfl hy with h | h
  ·exact ap.2 y h
  ·rcases g3 y h with h | h
   ·exact ap.2 y (mem_wr_own hf h)
   ·exact fun e=>by have:=ap.1 y e; omega
theorem Apart.grow {H':Heap} (ap:Apart S H bxs fvs) (q:H.size≤H'.size):Apart S H' bxs fvs:=⟨fun y hy=>by have:=ap.1 y hy; omega,ap.2⟩
end
def bdB (bb:Nat) (nm:Str) (number:Int) (lv nv xv tv cv:Value):Bx:=⟨bb,82,[sv nm,iv number,lv,iv 0,.slice none 0 0,.slice none 0 0,nv,xv,tv,cv]⟩
def bdF (lv nv xv:Value) (s:Lo):List FV:=[⟨1,2,3,1,lv,s.L.map iv⟩,⟨1,6,9,1,nv,s.N.map sv⟩,⟨1,7,3,1,xv,s.X.map iv⟩]
structure PB (H:Heap) (S:Nat→Prop) (mb bb:Nat) (w:MV) (m:Mo) (aps:List AP) (nm:Str) (number:Int) (lv nv xv:Value) (s:Lo):Prop where
 mb':MB H [mkB mb w { m with vars:=s.V },bdB bb nm number lv nv xv w.tv w.cv] (mkF w { m with vars:=s.V } aps (bdF lv nv xv s))
 ap:Apart S H [mkB mb w { m with vars:=s.V },bdB bb nm number lv nv xv w.tv w.cv] (mkF w { m with vars:=s.V } aps (bdF lv nv xv s))
section
variable {H H1:Heap} {S:Nat→Prop} {mb bb:Nat} {w:MV} {m:Mo} {aps:List AP} {nm:Str} {number:Int} {lv nv xv v':Value} {s:Lo}
theorem PB.forms (x:PB H S mb bb w m aps nm number lv nv xv s):∃ a1 c1 a2 c2 a3 c3,lv=.slice a1 s.L.length c1∧nv=.slice a2 s.N.length c2∧xv=.slice a3 s.X.length c3:=by
 have f:∀ {e:Nat} {y:Value} {ys:List Value},Vec H e 1 y ys→∃ a c,y=.slice a ys.length c:=by
  intro e y ys h
  obtain ⟨a,l,c,e,hl⟩:=h.len
  exact ⟨a,c,by rw [e]; congr 1; omega⟩
 obtain ⟨a1,c1,e1⟩:=f (x.mb'.vec 4 _ rfl)
 obtain ⟨a2,c2,e2⟩:=f (x.mb'.vec 5 _ rfl)
 obtain ⟨a3,c3,e3⟩:=f (x.mb'.vec 6 _ rfl)
 simp only [mkF,bdF,gS,gZ,List.length_map] at e1 e2 e3
 exact ⟨a1,c1,a2,c2,a3,c3,e1,e2,e3⟩
theorem PB.appN (x:PB H S mb bb w m aps nm number lv nv xv s) {t:Str} (g1:Vec H1 9 1 v' (s.N.map sv ++ [sv t])) (g2:Fr (own nv) H H1) (g3:∀ y ∈ own v',y ∈ own nv∨H.size≤y) :
  wr H1 ⟨bb,6,none⟩ v'=some (setH H1 ⟨bb,6,none⟩ v')∧PB (setH H1 ⟨bb,6,none⟩ v') S mb bb w m aps nm number lv v' xv { s with N:=s.N ++ [t] }∧FS S H (setH H1 ⟨bb,6,none⟩ v'):=by
 obtain ⟨w1,x1,q,ap⟩:=x.mb'.appS x.ap (i:=5) rfl rfl g1 g2 g3
 have e:bdF lv v' xv { s with N:=s.N ++ [t] } = (bdF lv nv xv s).set 1 { (⟨1,6,9,1,nv,s.N.map sv⟩:FV) with v:=v',vs:=s.N.map sv ++ [sv t] }:=by simp [bdF]
 refine ⟨w1,⟨?_,?_⟩,q⟩
 ·rw [e]; exact x1
 ·rw [e]; exact ap
theorem PB.appX (x:PB H S mb bb w m aps nm number lv nv xv s) {t:Int} (g1:Vec H1 3 1 v' (s.X.map iv ++ [iv t])) (g2:Fr (own xv) H H1) (g3:∀ y ∈ own v',y ∈ own xv∨H.size≤y) :
  wr H1 ⟨bb,7,none⟩ v'=some (setH H1 ⟨bb,7,none⟩ v')∧PB (setH H1 ⟨bb,7,none⟩ v') S mb bb w m aps nm number lv nv v' { s with X:=s.X ++ [t] }∧FS S H (setH H1 ⟨bb,7,none⟩ v'):=by
 obtain ⟨w1,x1,q,ap⟩:=x.mb'.appS x.ap (i:=6) rfl rfl g1 g2 g3
 have e:bdF lv nv v' { s with X:=s.X ++ [t] } = (bdF lv nv xv s).set 2 { (⟨1,7,3,1,xv,s.X.map iv⟩:FV) with v:=v',vs:=s.X.map iv ++ [iv t] }:=by simp [bdF]
 refine ⟨w1,⟨?_,?_⟩,q⟩
 ·rw [e]; exact x1
 ·rw [e]; exact ap
theorem PB.appL (x:PB H S mb bb w m aps nm number lv nv xv s) {t:Int} (g1:Vec H1 3 1 v' (s.L.map iv ++ [iv t])) (g2:Fr (own lv) H H1) (g3:∀ y ∈ own v',y ∈ own lv∨H.size≤y) :
  wr H1 ⟨bb,2,none⟩ v'=some (setH H1 ⟨bb,2,none⟩ v')∧PB (setH H1 ⟨bb,2,none⟩ v') S mb bb w m aps nm number v' nv xv { s with L:=s.L ++ [t] }∧FS S H (setH H1 ⟨bb,2,none⟩ v'):=by
 obtain ⟨w1,x1,q,ap⟩:=x.mb'.appS x.ap (i:=4) rfl rfl g1 g2 g3
 have e:bdF v' nv xv { s with L:=s.L ++ [t] } = (bdF lv nv xv s).set 0 { (⟨1,2,3,1,lv,s.L.map iv⟩:FV) with v:=v',vs:=s.L.map iv ++ [iv t] }:=by simp [bdF]
 refine ⟨w1,⟨?_,?_⟩,q⟩
 ·rw [e]; exact x1
 ·rw [e]; exact ap
end
end Go.Proofs.YtmihefbdghjeoaaGreat
namespace Go.Proofs.YtmihefbdghjeoaaGreat
open Go.HL
set_option maxRecDepth 10000
abbrev nilS:Value:=.slice none 0 0
structure MkS (H:Heap) (S Z:Nat→Prop) (mb:Nat) (w:MV) (l:List Nd) (m:Mo) (aps:List AP):Prop where
 mb':MB H [mkB mb w m] (mkF w m aps [])
 ap:Apart S H [mkB mb w m] (mkF w m aps [])
 ps:aps.map AP.p=m.procs
 pr:∀ a ∈ aps,APR H (fun y=>y ∉ wrM [mkB mb w m] (mkF w m aps [])∧¬ Z y) a
 nl:NL H S w.tv l
theorem wr_mk' {mb:Nat} {w:MV} {m:Mo} {aps:List AP} {y:Nat}:y ∈ wrM [mkB mb w m] (mkF w m aps [])↔y=mb∨y ∈ own w.cv∨y ∈ own w.va∨y ∈ own w.pv∨y ∈ own w.sa:=by
 simp [wrM,mkB,mkF]
section
variable {H H1:Heap} {S:Nat→Prop} {mb bb:Nat} {w:MV} {m:Mo} {aps:List AP} {nm:Str} {number:Int} {lv nv xv v':Value} {s:Lo} {l:List Nd}
theorem PB.new (x:MB H [mkB mb w m] (mkF w m aps [])) (ap:Apart S H [mkB mb w m] (mkF w m aps [])) (hb:Blk H bb 82 [sv [],iv 0,nilS,iv 0,nilS,nilS,nilS,nilS,w.tv,w.cv]) (hn:bb ∉ wrM [mkB mb w m] (mkF w m aps [])) (hS:¬ S bb) :
  PB H S mb bb w m aps [] 0 nilS nilS nilS ⟨m.vars,[],[],[]⟩:=by
 have x':MB H [mkB mb w m,bdB bb [] 0 nilS nilS nilS w.tv w.cv] (mkF w m aps (bdF nilS nilS nilS ⟨m.vars,[],[],[]⟩)):=by
  have hF:∀ {i:Nat} {f:FV},(mkF w m aps (bdF nilS nilS nilS ⟨m.vars,[],[],[]⟩))[i]?=some f→(i < 4∧(mkF w m aps [])[i]?=some f)∨(4≤i∧own f.v = []∧f.bi=1∧f.v=nilS∧f.vs = []):=by
   intro i f hf
   match i,hf with
   | 0,hf=>exact .inl ⟨by omega,hf⟩
   | 1,hf=>exact .inl ⟨by omega,hf⟩
   | 2,hf=>exact .inl ⟨by omega,hf⟩
   | 3,hf=>exact .inl ⟨by omega,hf⟩
   | 4,hf=>simp only [mkF,bdF,gS,gZ,Option.some.injEq] at hf; subst hf; exact .inr ⟨by omega,rfl,rfl,rfl,rfl⟩
   | 5,hf=>simp only [mkF,bdF,gS,gZ,Option.some.injEq] at hf; subst hf; exact .inr ⟨by omega,rfl,rfl,rfl,rfl⟩
   | 6,hf=>simp only [mkF,bdF,gS,gZ,Option.some.injEq] at hf; subst hf; exact .inr ⟨by omega,rfl,rfl,rfl,rfl⟩
   | i + 7,hf=>simp [mkF,bdF] at hf
  have hB:∀ {i:Nat} {b:Bx},[mkB mb w m,bdB bb [] 0 nilS nilS nilS w.tv w.cv][i]?=some b→(i=0∧b=mkB mb w m)∨(i=1∧b=bdB bb [] 0 nilS nilS nilS w.tv w.cv):=by
   intro i b hb
   match i,hb with
   | 0,hb=>simp only [gZ,Option.some.injEq] at hb; exact .inl ⟨rfl,hb.symm⟩
   | 1,hb=>simp only [gS,gZ,Option.some.injEq] at hb; exact .inr ⟨rfl,hb.symm⟩
   | i + 2,hb=>simp at hb
  have hmb:mb ≠ bb:=fun e=>hn (by rw [← e]; exact mem_wr_box (i:=0) (b:=mkB mb w m) rfl)
  refine ⟨?_,?_,?_,?_,?_,?_,?_⟩
  ·intro i b hi
   rcases hB hi with ⟨rfl,rfl⟩ | ⟨rfl,rfl⟩
   ·exact x.blk 0 _ rfl
   ·exact hb
  ·intro i j b c hij hi hj
   rcases hB hi with ⟨rfl,rfl⟩ | ⟨rfl,rfl⟩ <;> rcases hB hj with ⟨rfl,rfl⟩ | ⟨rfl,rfl⟩
   ·exact absurd rfl hij
   ·exact hmb
   ·exact hmb.symm
   ·exact absurd rfl hij
  ·intro i f hf
   rcases hF hf with ⟨h4,h⟩ | ⟨h4,h1,h2,h3,h5⟩
   ·obtain ⟨b,hb1,hb2⟩:=x.at' i f h
    have:f.bi=0:=by
     rcases hq:f.bi with _ | k
     ·rfl
     ·rw [hq] at hb1; simp at hb1
    rw [this] at hb1 ⊢
    exact ⟨b,hb1,hb2⟩
   ·refine ⟨bdB bb [] 0 nilS nilS nilS w.tv w.cv,by rw [h2]; rfl,?_⟩
    match i,hf with
    | 4,hf=>simp only [mkF,bdF,gS,gZ,Option.some.injEq] at hf; subst hf; rfl
    | 5,hf=>simp only [mkF,bdF,gS,gZ,Option.some.injEq] at hf; subst hf; rfl
    | 6,hf=>simp only [mkF,bdF,gS,gZ,Option.some.injEq] at hf; subst hf; rfl
    | i + 7,hf=>simp [mkF,bdF] at hf
  ·intro i f hf
   rcases hF hf with ⟨h4,h⟩ | ⟨h4,h1,h2,h3,h5⟩
   ·exact x.vec i f h
   ·rw [h3,h5]; exact Vec.nil
  ·intro i k f b hf hk
   rcases hF hf with ⟨h4,h⟩ | ⟨h4,h1,h2,h3,h5⟩
   ·rcases hB hk with ⟨rfl,rfl⟩ | ⟨rfl,rfl⟩
    ·exact x.nb i 0 f _ h rfl
    ·exact fun e=>hn (mem_wr_own h e)
   ·rw [h1]; simp
  ·intro i j f g hij hf hg y hy
   rcases hF hf with ⟨h4,h⟩ | ⟨h4,h1,h2,h3,h5⟩
   ·rcases hF hg with ⟨k4,k⟩ | ⟨k4,k1,k2,k3,k5⟩
    ·exact x.dis i j f g hij h k y hy
    ·rw [k1]; simp
   ·rw [h1] at hy; simp at hy
  ·intro i j f g hij hf hg
   match i,j,hf,hg with
   | 0,0,_,_=>exact absurd rfl hij
   | 0,1,hf,hg | 0,2,hf,hg | 0,3,hf,hg | 1,0,hf,hg | 1,2,hf,hg | 1,3,hf,hg | 2,0,hf,hg | 2,1,hf,hg | 2,3,hf,hg | 3,0,hf,hg | 3,1,hf,hg | 3,2,hf,hg=>exact x.hc _ _ f g hij hf hg
   | 1,1,_,_=>exact absurd rfl hij
   | 2,2,_,_=>exact absurd rfl hij
   | 3,3,_,_=>exact absurd rfl hij
   | 4,4,_,_=>exact absurd rfl hij
   | 5,5,_,_=>exact absurd rfl hij
   | 6,6,_,_=>exact absurd rfl hij
   | 0,4,hf,hg | 0,5,hf,hg | 0,6,hf,hg | 1,4,hf,hg | 1,5,hf,hg | 1,6,hf,hg | 2,4,hf,hg | 2,5,hf,hg | 2,6,hf,hg | 3,4,hf,hg | 3,5,hf,hg | 3,6,hf,hg
   | 4,0,hf,hg | 4,1,hf,hg | 4,2,hf,hg | 4,3,hf,hg | 4,5,hf,hg | 4,6,hf,hg | 5,0,hf,hg | 5,1,hf,hg | 5,2,hf,hg | 5,3,hf,hg | 5,4,hf,hg | 5,6,hf,hg
   | 6,0,hf,hg | 6,1,hf,hg | 6,2,hf,hg | 6,3,hf,hg | 6,4,hf,hg | 6,5,hf,hg =>
    simp only [mkF,bdF,gS,gZ,Option.some.injEq] at hf hg
    subst hf hg
    simp
   | i + 7,_,hf,_=>simp [mkF,bdF] at hf
   | 0,j + 7,_,hg | 1,j + 7,_,hg | 2,j + 7,_,hg | 3,j + 7,_,hg | 4,j + 7,_,hg | 5,j + 7,_,hg | 6,j + 7,_,hg=>simp [mkF,bdF] at hg
 refine ⟨x',ap.1,?_⟩
 intro y hy
 unfold wrM at hy
 simp only [List.map_cons,List.map_nil,List.mem_append,List.mem_cons,List.not_mem_nil,or_false] at hy
 rcases hy with (h | h) | hy
 ·rw [h]; exact ap.2 _ (mem_wr_box (i:=0) (b:=mkB mb w m) rfl)
 ·rw [h]; exact hS
 ·refine ap.2 y ?_
  have hnil:own nilS = []:=rfl
  simp only [mkF,bdF,List.flatMap_cons,List.flatMap_nil,List.mem_append,hnil,List.not_mem_nil,or_false] at hy
  rw [wr_mk']
  exact .inr hy
end
end Go.Proofs.YtmihefbdghjeoaaGreat
namespace Go.Proofs.YtmihefbdghjeoaaGreat
open Go.HL
set_option maxRecDepth 10000
def peE (H:Heap) (bb:Nat) (l:List Nd) (m:Mo) (w:MV) (nm:Str) (number:Int) (lv nv xv:Value) (s:Lo):AE :=
 ⟨l,⟨s.N,s.X,m.chans.map Ch.name⟩,m.chans,fun y=>y < H.size∧y ≠ bb,bb,sv nm,iv number,lv,nv,xv,w.tv,w.cv⟩
section
variable {H H5 H6:Heap} {S Z:Nat→Prop} {mb bb:Nat} {w:MV} {m:Mo} {aps:List AP} {nm:Str} {number:Int} {lv nv xv rv ev v':Value} {s:Lo} {l:List Nd} {b:Bs}
theorem mkF_sub {r:List FV} {j:Nat} {f:FV} (h:(mkF w m aps [])[j]?=some f):(mkF w m aps r)[j]?=some f∧f.bi=0∧j < 4:=by
 match j,h with
 | 0,h | 1,h | 2,h | 3,h =>
  simp only [mkF,gS,gZ,Option.some.injEq] at h
  subst h
  exact ⟨by simp [mkF],rfl,by omega⟩
 | j + 4,h=>simp [mkF] at h
theorem MB.first {bx:Bx} {r:List FV} {bxs:List Bx} (x:MB H (bx :: bxs) (mkF w m aps r)):MB H [bx] (mkF w m aps []):=by
 have h1:∀ {i:Nat} {y:Bx},[bx][i]?=some y→i=0∧y=bx:=by
  intro i y h
  match i,h with
  | 0,h=>simp at h; exact ⟨rfl,h.symm⟩
  | i + 1,h=>simp at h
 refine ⟨?_,?_,?_,?_,?_,?_,?_⟩
 ·intro i y h; obtain ⟨rfl,rfl⟩:=h1 h; exact x.blk 0 _ rfl
 ·intro i j y z hne h h'; obtain ⟨rfl,rfl⟩:=h1 h; obtain ⟨rfl,rfl⟩:=h1 h'; exact absurd rfl hne
 ·intro i f h
  obtain ⟨a,b0,c⟩:=mkF_sub (r:=r) h
  obtain ⟨y,hy,hc⟩:=x.at' i f a
  rw [b0] at hy
  simp only [gZ,Option.some.injEq] at hy
  subst hy
  exact ⟨_,by rw [b0]; rfl,hc⟩
 ·intro i f h; exact x.vec i f (mkF_sub h).1
 ·intro i k f y h h'; obtain ⟨rfl,rfl⟩:=h1 h'; exact x.nb i 0 f _ (mkF_sub h).1 rfl
 ·intro i j f g hne h h'; exact x.dis i j f g hne (mkF_sub h).1 (mkF_sub h').1
 ·intro i j f g hne h h'; exact x.hc i j f g hne (mkF_sub h).1 (mkF_sub h').1
theorem PB.bm (x:PB H S mb bb w m aps nm number lv nv xv s) (nl:NL H S w.tv l) (hX:s.X.length=s.N.length) (hn:s.N.length≤1000000) (hc:m.chans.length≤1000000) :
  BM H (peE H bb l m w nm number lv nv xv s) nilS nilS ⟨[],[]⟩:=by
 have bb':¬ S bb:=x.ap.2 _ (mem_wr_box (i:=1) (b:=bdB bb nm number lv nv xv w.tv w.cv) rfl)
 have ho:∀ {i:Nat} {f:FV},(mkF w { m with vars:=s.V } aps (bdF lv nv xv s))[i]?=some f→∀ y ∈ own f.v,y < H.size∧y ≠ bb:=by
  intro i f hf y hy
  refine ⟨x.mb'.lt _ (mem_wr_own hf hy),fun e=>?_⟩
  subst e
  exact x.mb'.nb i 1 f _ hf rfl hy
 refine ⟨x.mb'.blk 1 _ rfl,Vec.nil,by simp [own,nilS],Vec.nil,by simp [own,nilS],by simp [own,nilS],⟨nl.mono (fun y hy hl=>⟨hl,fun e=>bb' (e ▸ hy)⟩),Rd.of_vec (x.mb'.vec 5 _ rfl) (ho (i:=5) rfl),Rd.of_vec (x.mb'.vec 6 _ rfl) (ho (i:=6) rfl),Rd.of_vec (x.mb'.vec 0 _ rfl) (ho (i:=0) rfl),rfl,hX,hn,hc,fun h=>h.2 rfl,fun y hy=>hy.1⟩⟩
theorem PB.done (x:PB H S mb bb w m aps nm number lv nv xv s) (xb:BM H5 (peE H bb l m w nm number lv nv xv s) rv ev b) (q:FS (peE H bb l m w nm number lv nv xv s).S H H5) (hZ:∀ y,Z y→S y) :
  MB H5 [mkB mb w { m with vars:=s.V }] (mkF w { m with vars:=s.V } aps [])∧Apart S H5 [mkB mb w { m with vars:=s.V }] (mkF w { m with vars:=s.V } aps [])∧FS S H H5 ∧
  APR H5 (fun y=>y < H5.size∧y ∉ wrM [mkB mb w { m with vars:=s.V }] (mkF w { m with vars:=s.V } aps [])∧¬ Z y) ⟨⟨nm,number,s.L,b.rest,b.edges,s.N,s.X⟩,lv,rv,ev,nv,xv⟩:=by
 have bb':¬ S bb:=x.ap.2 _ (mem_wr_box (i:=1) (b:=bdB bb nm number lv nv xv w.tv w.cv) rfl)
 have x0:=x.mb'.first
 have hsz:=q.size
 have hW:∀ y ∈ wrM [mkB mb w { m with vars:=s.V }] (mkF w { m with vars:=s.V } aps []),y < H.size∧y ≠ bb∧¬ S y∧∀ (j:Nat) (f:FV),4≤j→(mkF w { m with vars:=s.V } aps (bdF lv nv xv s))[j]?=some f→y ∉ own f.v:=by
  intro y hy
  unfold wrM at hy
  rw [List.mem_append,List.mem_map,List.mem_flatMap] at hy
  rcases hy with ⟨c,hc,rfl⟩ | ⟨f,hf,hy⟩
  ·simp only [List.mem_singleton] at hc
   subst hc
   refine ⟨(x.mb'.blk 0 _ rfl).lt,x.mb'.bne 0 1 _ _ (by decide) rfl rfl,x.ap.2 _ (mem_wr_box (i:=0) rfl),fun j f _ hf=>x.mb'.nb j 0 f _ hf rfl⟩
  ·obtain ⟨i,hi⟩:=List.getElem?_of_mem hf
   obtain ⟨h1,h2,h3⟩:=mkF_sub (r:=bdF lv nv xv s) hi
   refine ⟨x.mb'.lt _ (mem_wr_own h1 hy),fun e=>?_,x.ap.2 _ (mem_wr_own h1 hy),fun j g h4 hg=>x.mb'.dis i j f g (by omega) h1 hg y hy⟩
   subst e
   exact x.mb'.nb i 1 f _ h1 rfl hy
 have hO:∀ {j:Nat} {f:FV},4≤j→(mkF w { m with vars:=s.V } aps (bdF lv nv xv s))[j]?=some f→Rd H5 (fun y=>y < H5.size∧y ∉ wrM [mkB mb w { m with vars:=s.V }] (mkF w { m with vars:=s.V } aps [])∧¬ Z y) f.z f.v f.vs:=by
  intro j f h4 hf
  have h1:Rd H (fun y=>y < H.size∧y ≠ bb∧y ∉ wrM [mkB mb w { m with vars:=s.V }] (mkF w { m with vars:=s.V } aps [])∧¬ Z y) f.z f.v f.vs:=by
   refine Rd.of_vec (x.mb'.vec j f hf) (fun y hy=>⟨x.mb'.lt _ (mem_wr_own hf hy),fun e=>?_,fun h=>(hW y h).2.2.2 j f h4 hf hy,fun h=>x.ap.2 _ (mem_wr_own hf hy) (hZ y h)⟩)
   subst e
   exact x.mb'.nb j 1 f _ hf rfl hy
  exact (h1.frame (show Keeps _ H H5 from fun y hy hl=>q.same y hl ⟨hl,hy.2.1⟩)).mono (fun y hy hl=>⟨hl,hy.2.2⟩)
 have hR:∀ y,(¬ (peE H bb l m w nm number lv nv xv s).S y∧y ≠ (peE H bb l m w nm number lv nv xv s).bb)→y ∉ wrM [mkB mb w { m with vars:=s.V }] (mkF w { m with vars:=s.V } aps [])∧¬ Z y :=
  fun y hy=>⟨fun h=>hy.1 ⟨(hW y h).1,hy.2⟩,fun h=>hy.1 ⟨x.ap.1 y (hZ y h),hy.2⟩⟩
 refine ⟨x0.fs q (fun y hy=>⟨(hW y hy).1,(hW y hy).2.1⟩),⟨fun y hy=>by have:=x.ap.1 y hy; omega,fun y hy=>(hW y hy).2.2.1⟩,q.sub (fun y hy=>⟨x.ap.1 y hy,fun e=>bb' (e ▸ hy)⟩),?_⟩
 exact ⟨hO (j:=4) (by omega) rfl,Rd.of_vec xb.vr (fun y hy=>⟨xb.vr.lt y hy,hR y (xb.or' y hy)⟩),Rd.of_vec xb.ve (fun y hy=>⟨xb.ve.lt y hy,hR y (xb.oe y hy)⟩),hO (j:=5) (by omega) rfl,hO (j:=6) (by omega) rfl⟩
theorem MkS.app (x:MB H5 [mkB mb w m] (mkF w m aps [])) (ap:Apart S H5 [mkB mb w m] (mkF w m aps [])) {a:AP} (hp:aps.map AP.p=m.procs) (hold:∀ a ∈ aps,APR H5 (fun y=>S y∧¬ Z y) a)
  (hnew:APR H5 (fun y=>y < H5.size∧y ∉ wrM [mkB mb w m] (mkF w m aps [])∧¬ Z y) a) (hZ:∀ y,Z y→S y) (nl:NL H5 S w.tv l)
  (g1:Vec H6 43 8 v' (aps.flatMap apC ++ apC a)) (g2:Fr (own w.pv) H5 H6) (g3:∀ y ∈ own v',y ∈ own w.pv∨H5.size≤y) :
  wr H6 ⟨mb,4,none⟩ v'=some (setH H6 ⟨mb,4,none⟩ v')∧FS S H5 (setH H6 ⟨mb,4,none⟩ v') ∧
   MkS (setH H6 ⟨mb,4,none⟩ v') S Z mb { w with pv:=v' } l { m with procs:=m.procs ++ [a.p] } (aps ++ [a]):=by
 obtain ⟨w1,x1,q1,ap1⟩:=x.appS ap (i:=2) (f:=⟨0,4,43,8,w.pv,aps.flatMap apC⟩) (b:=mkB mb w m) rfl rfl g1 g2 g3
 obtain ⟨_,_,fr⟩:=x.app (i:=2) (f:=⟨0,4,43,8,w.pv,aps.flatMap apC⟩) (b:=mkB mb w m) rfl rfl g1 g2 g3
 have e1:[mkB mb w m].set 0 { mkB mb w m with cs:=(mkB mb w m).cs.set 4 v' } = [mkB mb { w with pv:=v' } { m with procs:=m.procs ++ [a.p] }]:=rfl
 have e2:(mkF w m aps []).set 2 ⟨0,4,43,8,v',aps.flatMap apC ++ apC a⟩=mkF { w with pv:=v' } { m with procs:=m.procs ++ [a.p] } (aps ++ [a]) []:=by
  simp [mkF]
 simp only at x1 ap1
 rw [e1,e2] at x1 ap1
 have hW:∀ y ∈ wrM [mkB mb { w with pv:=v' } { m with procs:=m.procs ++ [a.p] }] (mkF { w with pv:=v' } { m with procs:=m.procs ++ [a.p] } (aps ++ [a]) []),y ∈ wrM [mkB mb w m] (mkF w m aps [])∨H5.size≤y:=by
  intro y hy
  rw [wr_mk'] at hy
  simp only at hy
  rw [wr_mk']
  rcases hy with h | h | h | h | h
  ·exact .inl (.inl h)
  ·exact .inl (.inr (.inl h))
  ·exact .inl (.inr (.inr (.inl h)))
  ·exact (g3 y h).elim (fun h=>.inl (.inr (.inr (.inr (.inl h))))) .inr
  ·exact .inl (.inr (.inr (.inr (.inr h))))
 refine ⟨w1,q1,⟨x1,ap1,by simp [hp],?_,nl.frame (fun y hy hl=>q1.same y hl hy)⟩⟩
 intro c hc
 rw [List.mem_append,List.mem_singleton] at hc
 rcases hc with hc | rfl
 ·exact ((hold c hc).frame (fun y hy hl=>q1.same y hl hy.1)).mono (fun y hy _=>⟨fun h=>ap1.2 y h hy.1,hy.2⟩)
 ·refine (hnew.frame (fun y hy hl=>fr.same y hl ?_)).mono (fun y hy _=>⟨fun h=>?_,hy.2.2⟩)
  ·intro h
   rw [List.mem_cons] at h
   exact hy.2.1 (wr_mk'.2 (h.elim .inl (fun h=>.inr (.inr (.inr (.inl h))))))
  ·exact (hW y h).elim hy.2.1 (fun h=>by have:=hy.1; omega)
end
end Go.Proofs.YtmihefbdghjeoaaGreat
