/- Texts of this proof, put together: AutR, AutS, AutT, W12A, W13A. The conditions of each theorem stand in it. -/
import Derived.Test.YtmihefbdghjeoaaGreatMXD
import Derived.Test.YtmihefbdghjeoaaGreatMXA
import Derived.Test.YtmihefbdghjeoaaGreatMX6
set_option linter.unusedSimpArgs false
set_option linter.unusedVariables false
namespace Go.Proofs.YtmihefbdghjeoaaGreat
open Go.HL
set_option maxRecDepth 10000
section
variable {H:Heap} {S:Nat→Prop} {v:Value} {l:List Nd}
theorem rd_all {z:Nat} {vs:List Value} (h:Rd H S z v vs) (hn:vs ≠ []):∃ b o n c,v=.slice (some ⟨b,o,none⟩) n c∧S b∧vs.length=n * z∧cellsH (cellH H) ⟨b,o,none⟩ 0 vs.length=some vs:=by
 obtain ⟨a,n,c,rfl,hl,hc⟩:=h
 obtain ⟨x,xs,rfl⟩:=List.exists_cons_of_ne_nil hn
 obtain ⟨b,o,rfl,hs,_⟩:=hc 0 x rfl
 refine ⟨b,o,n,c,rfl,hs,hl,cellsH_at _ _ 0 (fun j hj=>?_)⟩
 obtain ⟨b',o',e,_,h3⟩:=hc j _ (List.getElem?_eq_getElem hj)
 simp only [Option.some.injEq,Addr.mk.injEq,and_true] at e
 obtain ⟨rfl,rfl⟩:=e
 simpa using h3
theorem bin_sl_nil {P:Program} {t e:TypeId} {xo yo:Operand} {a:Addr} {n c:Nat} (hu:P.underlying t=some (.slice e)):binV P (full H) .eql t xo yo (.slice (some a) n c) (.slice none 0 0)=some (.bool false):=by
 show qrun P (do eqGuard .eql t xo yo (.slice (some a) n c) (.slice none 0 0); binOp .eql t (.slice (some a) n c) (.slice none 0 0)) H=_
 rw [qrun_bind']
 show qrun P (do pure (Value.bool (← Op.equal t (.slice (some a) n c) (.slice none 0 0)))) H=_
 have e:qrun P (Op.equal t (.slice (some a) n c) (.slice none 0 0)) H=some false:=by
  unfold Op.equal Op.maxDepth Op.equalIn
  rw [qrun_bind',qrun_underlying hu,Option.bind_some]
  rfl
 rw [qrun_bind',e]
 rfl
theorem sClone_spec (h:NL H S v l) (h0:0 < l.length) (hl:l.length≤1000) :
  CallF Tryz.prog 12 [v] H (fun r H'=>Fr [] H H'∧NL H' (fun y=>S y∨H.size≤y∧y < H'.size) r l) NoP:=by
 obtain ⟨ps,rfl,h2,h3⟩:=h
 rw [List.length_map] at h0 hl
 have hlen:(ps.flatMap anC).length=ps.length * 5:=flat_len anL _
 obtain ⟨b,o,n,c,rfl,hs,h4,h5⟩:=rd_all h2 (by intro e; rw [e] at hlen; simp at hlen; omega)
 have hn:n=ps.length:=by omega
 subst hn
 refine callF_of Tryz.func12 rfl Tryz.ntmps12 Tryz.results12 (by decide) rfl ?_
 have hu:Tryz.prog.underlying 22=some (.slice 47):=rfl
 have hb0:=fun {xo yo:Operand}=>bin_sl_nil (H:=H) (xo:=xo) (yo:=yo) (a:=⟨b,o,none⟩) (n:=ps.length) (c:=c) hu
 simp (disch:=omega) only [go_sem,↓cB,dB,hb0]
 obtain ⟨G,hG⟩:∃ G,G=H.push (.cells #[] 47):=⟨_,rfl⟩
 have f0:Fr [] H G:=by rw [hG]; exact Fr.push
 have vG:Vec G 47 5 (.slice (some ⟨H.size,0,none⟩) 0 0) []:=⟨.inr ⟨H.size,0,0,[],[],rfl,by rw [hG]; exact Blk.new rfl,rfl,rfl,Nat.le_refl _⟩⟩
 have hS:∀ x,S x→x < H.size→x < G.size:=fun x _ h=>by have:=f0.size; omega
 have h5':cellsH (cellH G) ⟨b,o,none⟩ 0 (ps.length * 5)=some (ps.flatMap anC):=by
  rw [← hlen]
  obtain ⟨b',o',n',c',e1,_,_,e4⟩:=rd_all (h2.frame (Keeps.of_fr f0 (by simp))) (by intro e; rw [e] at hlen; simp at hlen; omega)
  simp only [Value.slice.injEq,Option.some.injEq,Addr.mk.injEq,and_true] at e1
  obtain ⟨⟨rfl,rfl⟩,_,_⟩:=e1
  exact e4
 have hone:∀ u ∈ ps.flatMap anC,oneC u=true:=by
  intro u hu
  obtain ⟨a,ha,hu⟩:=List.mem_flatMap.1 hu
  obtain ⟨x1,c1,x2,c2,x3,c3,e1,e2,e3⟩:=(h3 a ha).forms
  unfold anC at hu
  rw [e1,e2,e3] at hu
  exact one_all (vs:=[iv a.n.kind,.slice x1 a.n.words.length c1,.slice x2 a.n.nums.length c2,.slice x3 a.n.kids.length c3,iv a.n.pos]) rfl u hu
 try rw [← hG]
 refine app_vec (n:=ps.length) (new:=ps.flatMap anC) T.el22 rfl vG rfl h5' T.el22.under (by simp) hone hlen (by intro a' l c e; simp only [Value.slice.injEq] at e; obtain ⟨_,rfl,_⟩:=e; omega) ?_
 intro v' H1 g1 g2 g3 g4
 refine Hush.out ?_
 obtain ⟨aa,cc,rfl⟩:=g4 _ _ _ rfl
 have g2:Fr [H.size] G H1:=g2
 have g3:∀ y ∈ own (.slice aa (0 + ps.length) cc),y ∈ [H.size]∨G.size≤y:=g3
 have hlt:=g1.lt
 have z0:G.size=H.size + 1:=by rw [hG]; simp
 have z1:=g2.size
 have fr:Fr [] H H1:=by
  refine ⟨by omega,fun y h1 h2=>?_⟩
  rw [g2.same y (by omega) (by simp only [List.mem_singleton]; omega),f0.same y h1 (by simp)]
 have hc1:0 + ps.length=ps.length:=by omega
 rw [hc1] at g1 g3 hlt ⊢
 rw [List.nil_append] at g1
 refine ⟨?_⟩
 try (simp (disch:=omega) only [go_sem,↓cB,dB])
 refine fin ⟨fr,ps,rfl,Rd.of_vec g1 (fun y hy=>.inr ⟨?_,hlt y hy⟩),fun a ha=>((h3 a ha).frame (Keeps.of_fr fr (by simp))).mono (fun y hy _=>.inl hy)⟩
 rcases g3 y hy with h | h
 ·simp only [List.mem_singleton] at h; omega
 ·omega
end
end Go.Proofs.YtmihefbdghjeoaaGreat
namespace Go.Proofs.YtmihefbdghjeoaaGreat
open Go.HL
set_option maxRecDepth 10000
theorem walk_top {l:List Nd} (h:prRightM l=true):walkK l (walkM l 19) (nodeAt l 0).kids 1=(l.length,true):=by
 have h':=h
 unfold prRightM at h'
 simp only [Bool.and_eq_true,decide_eq_true_eq] at h'
 obtain ⟨h1,h2,h3,h4,h5⟩:=h'
 have ht:treeM l 20 0=(l.length,true):=by rw [← h4,← h5]
 obtain ⟨hw,hn⟩:=(tree_iff 20 0 l.length h1).1 ht
 have hw':=hw
 unfold walkM at hw'
 exact hw'
theorem walk_split {l:List Nd} {w:Nat→Nat × Bool} (h:∀ i e,i < l.length→w i=(e,true)→i < e∧e≤l.length):∀ (pre:List Int) (k:Int) (post:List Int) (s e:Nat),s≤l.length→walkK l w (pre ++ k :: post) s=(e,true) →
  ∃ i f:Nat,k=i∧i < l.length∧w i=(f,true)∧f≤l.length∧walkK l w post f=(e,true)
 | [],k,post,s,e,hs,hw=>by
  obtain ⟨a,b,c,d⟩:=walkK_first hw
  exact ⟨s,(w s).1,a,b,by rw [← c],(h s (w s).1 b (by rw [← c])).2,d⟩
 | p :: pre,k,post,s,e,hs,hw=>by
  obtain ⟨a,b,c,d⟩:=walkK_first hw
  exact walk_split h pre k post (w s).1 e (h s (w s).1 b (by rw [← c])).2 d
theorem item_walk {l:List Nd} (hr:prRightM l=true) {pre post:List Int} {k:Int} (hK:(nodeAt l 0).kids=pre ++ k :: post) :
  ∃ item e:Nat,k=item∧item < l.length∧walkM l 19 item=(e,true)∧∀ k ∈ post,(e:Int)≤k:=by
 have hw:=walk_top hr
 rw [hK] at hw
 have ok:∀ i e,i < l.length→walkM l 19 i=(e,true)→i < e∧e≤l.length:=fun i e h1 h2=>by have:=walkM_ok 19 i e h1 h2; exact ⟨this.1,this.2.1⟩
 obtain ⟨i,f,a,b,c,d,e⟩:=walk_split ok pre k post 1 _ (right_facts hr).1 hw
 exact ⟨i,f,a,b,c,(walkK_inc ok _ f _ d e).2⟩
theorem gloM_names {V:List Vr}:∀ i,i≤V.length→(gloM V i).1=(V.take i).map Vr.name
 | 0,_=>rfl
 | i + 1,h=>by
  rw [gloM,gloM_names i (by omega),List.take_succ_eq_append_getElem (by omega),List.map_append]
  simp [List.getD_eq_getElem?_getD,List.getElem?_eq_getElem (show i < V.length by omega)]
def isCh (l:List Nd) (k:Int):Bool:=decide ((nodeAt l k.toNat).kind=1)
def vrK (l:List Nd) (k:Int):Vr:=vrO (nodeAt l k.toNat)
def chK (l:List Nd) (k:Int):Ch:=chO (nodeAt l k.toNat)
structure MoI (l:List Nd) (pre:List Int) (before c:Nat) (m:Mo):Prop where
 vs:∃ r,m.vars=((nodeAt l 0).kids.filter (isVar l)).map (vrK l) ++ r
 ch:m.chans=((nodeAt l 0).kids.filter (isCh l)).map (chK l)
 bf:before=(pre.filter (isVar l)).length
 vl:m.vars.length≤800 + 3200 * pre.length + 800 * c
 pl:m.procs.length≤4 * pre.length + c
theorem dcl_facts {l:List Nd}:∀ (ks:List Int) (m:Mo),(ks.foldl (fun m k=>dclM m (nodeAt l k.toNat)) m).vars=m.vars ++ (ks.filter (isVar l)).map (vrK l)∧(ks.foldl (fun m k=>dclM m (nodeAt l k.toNat)) m).chans=m.chans ++ (ks.filter (isCh l)).map (chK l) ∧
  (ks.foldl (fun m k=>dclM m (nodeAt l k.toNat)) m).procs=m.procs
 | [],m=>by simp
 | k :: ks,m=>by
  obtain ⟨a,b,c⟩:=dcl_facts ks (dclM m (nodeAt l k.toNat))
  rw [List.foldl_cons,a,b,c]
  unfold dclM
  by_cases h1:(nodeAt l k.toNat).kind=1
  ·have e1:isCh l k=true:=by simp [isCh,h1]
   have e2:isVar l k=false:=by simp [isVar,h1]
   simp [h1,e1,e2,chK]
  by_cases h2:(nodeAt l k.toNat).kind=2
  ·have e1:isCh l k=false:=by simp [isCh,h2]
   have e2:isVar l k=true:=by simp [isVar,h2]
   simp [h2,e1,e2,vrK]
  have e1:isCh l k=false:=by simp [isCh,h1]
  have e2:isVar l k=false:=by simp [isVar,h2]
  rw [if_neg h1,if_neg h2]
  repeat' split
  all_goals simp [e1,e2]
section
variable {l:List Nd} {pre post:List Int} {before c:Nat} {m:Mo} {k:Int}
theorem kids_le8 (hr:prRightM l=true) {i e:Nat} (hi:i < l.length) {d:Nat} (hw:walkM l (d + 1) i=(e,true)):(nodeAt l i).kids.length≤800:=by
 have hel:=(walkM_ok _ i e hi hw).2.1
 unfold walkM at hw
 have:=kids_cnt (l:=l) (w:=walkM l d) (fun i e h1 h2=>by have:=walkM_ok d i e h1 h2; exact ⟨this.1,this.2.1⟩) _ _ _ (by omega) hw
 have h8:=(right_facts hr).2.1
 have e1:(l.getD i nd0').kids=(nodeAt l i).kids:=rfl
 rw [e1] at this
 omega
theorem top_len (hr:prRightM l=true):(nodeAt l 0).kids.length≤800:=by
 have:=kids_cnt (l:=l) (w:=walkM l 19) (fun i e h1 h2=>by have:=walkM_ok 19 i e h1 h2; exact ⟨this.1,this.2.1⟩) _ _ _ (right_facts hr).1 (walk_top hr)
 have h8:=(right_facts hr).2.1
 omega
theorem moi_0 (hr:prRightM l=true) {g:Int}:MoI l [] 0 0 { dclsM l (nodeAt l 0).kids with globals:=g }:=by
 obtain ⟨a,b,d⟩:=dcl_facts (nodeAt l 0).kids mo0 (l:=l)
 have h8:=top_len hr
 have hf:=List.length_filter_le (isVar l) (nodeAt l 0).kids
 refine ⟨⟨[],?_⟩,?_,rfl,?_,?_⟩
 ·show (dclsM l _).vars=_
  unfold dclsM; rw [a]; simp [mo0]
 ·show (dclsM l _).chans=_
  unfold dclsM; rw [b]; simp [mo0]
 ·show (dclsM l _).vars.length≤_
  unfold dclsM; rw [a]; simp [mo0]; omega
 ·show (dclsM l _).procs.length≤_
  unfold dclsM; rw [d]; simp [mo0]
theorem moi_prc (x:MoI l pre before c m) {item:Nat} {number:Int} (h8:(nodeAt l item).kids.length≤800):MoI l pre before (c + 1) (prcM l m item number before):=by
 obtain ⟨-,h2,-⟩:=locM_eq (l:=l) (nodeAt l item).kids (lo0 m before)
 have htw:((nodeAt l item).kids.takeWhile (isVar l)).length≤(nodeAt l item).kids.length:=(List.takeWhile_prefix _).length_le
 obtain ⟨⟨r,vs⟩,ch,bf,vl,pl⟩:=x
 have hv:(prcM l m item number before).vars=m.vars ++ ((nodeAt l item).kids.takeWhile (isVar l)).map (fun k=>vrO (nodeAt l k.toNat)):=h2
 refine ⟨⟨r ++ ((nodeAt l item).kids.takeWhile (isVar l)).map (fun k=>vrO (nodeAt l k.toNat)),by rw [hv,vs,List.append_assoc]⟩,ch,bf,?_,?_⟩
 ·rw [hv,List.length_append,List.length_map]; omega
 ·show (m.procs ++ [_]).length≤_
  rw [List.length_append,List.length_singleton]; omega
theorem moi_next (x:MoI l pre before c m) (hc:c≤4):MoI l (pre ++ [k]) (if isVar l k then before + 1 else before) 0 m:=by
 obtain ⟨vs,ch,bf,vl,pl⟩:=x
 refine ⟨vs,ch,?_,by simp; omega,by simp; omega⟩
 rw [List.filter_append,List.length_append,bf]
 by_cases h:isVar l k=true <;> simp [h]
theorem moi_bef (x:MoI l pre before c m) (hr:prRightM l=true) (hK:(nodeAt l 0).kids=pre ++ post):before≤m.vars.length∧before≤800:=by
 obtain ⟨⟨r,vs⟩,ch,bf,vl,pl⟩:=x
 have h8:=top_len hr
 have hf:=List.length_filter_le (isVar l) pre
 rw [hK,List.filter_append,List.map_append] at vs
 rw [hK,List.length_append] at h8
 refine ⟨?_,by omega⟩
 rw [vs]; simp; omega
theorem moi_names (x:MoI l pre before c m) (hr:prRightM l=true) (hs:scopeM l=⟨0,0⟩) {item e:Nat} (hK:(nodeAt l 0).kids=pre ++ (item:Int) :: post) (hil:item < l.length) (hk3:(nodeAt l item).kind=3)
  (hw:walkM l 19 item=(e,true)) (hpost:∀ k ∈ post,(e:Int)≤k) (X:List Int):NmOk l ⟨(locM l (nodeAt l item).kids (lo0 m before)).2.N,X,m.chans.map Ch.name⟩ (item + 1) e:=by
 obtain ⟨hb,-⟩:=moi_bef x hr hK
 obtain ⟨⟨r,vs⟩,ch,bf,vl,pl⟩:=x
 obtain ⟨-,-,h3,-⟩:=locM_eq (l:=l) (nodeAt l item).kids (lo0 m before)
 have hN:(locM l (nodeAt l item).kids (lo0 m before)).2.N=(m.vars.take before).map Vr.name ++ ((nodeAt l item).kids.takeWhile (isVar l)).map (fun k=>w0 (nodeAt l k.toNat)):=by
  rw [h3]; simp only [lo0]; rw [gloM_names before hb]
 have ht:m.vars.take before=(pre.filter (isVar l)).map (vrK l):=by
  rw [vs,hK,List.filter_append,List.map_append,List.append_assoc,List.take_append_of_le_length (by rw [List.length_map,bf]; omega),List.take_of_length_le (by rw [List.length_map,bf]; omega)]
 refine nm_item hr hs hK hil hk3 hw hpost ?_ ?_ ?_
 ·intro k hk hv
  refine mem_inL ?_
  show w0 _ ∈ (locM l (nodeAt l item).kids (lo0 m before)).2.N
  rw [hN,ht,List.mem_append]
  refine .inl (List.mem_map.2 ⟨vrK l k,List.mem_map.2 ⟨k,List.mem_filter.2 ⟨hk,hv⟩,rfl⟩,rfl⟩)
 ·intro k hk
  refine mem_inL ?_
  show w0 _ ∈ (locM l (nodeAt l item).kids (lo0 m before)).2.N
  rw [hN,List.mem_append]
  exact .inr (List.mem_map.2 ⟨k,hk,rfl⟩)
 ·intro k hk h1
  refine mem_inL ?_
  show w0 _ ∈ m.chans.map Ch.name
  rw [ch]
  exact List.mem_map.2 ⟨chK l k,List.mem_map.2 ⟨k,List.mem_filter.2 ⟨hk,by simp [isCh,h1]⟩,rfl⟩,rfl⟩
end
end Go.Proofs.YtmihefbdghjeoaaGreat
namespace Go.Proofs.YtmihefbdghjeoaaGreat
open Go.HL
set_option maxRecDepth 10000
def moC (w:MV) (m:Mo):List Value:=[w.tv,iv m.globals,w.cv,w.va,w.pv,w.sa,.bool m.dead]
structure MR (H:Heap) (S:Nat→Prop) (w:MV) (l:List Nd) (m:Mo) (aps:List AP):Prop where
 nl:NL H S w.tv l
 ch:Rd H S 5 w.cv (m.chans.flatMap chC)
 va:Rd H S 3 w.va (m.vars.flatMap vrC)
 pc:Rd H S 8 w.pv (aps.flatMap apC)
 sa:Rd H S 1 w.sa (m.safe.map iv)
 ps:aps.map AP.p=m.procs
 pr:∀ a ∈ aps,APR H S a
section
variable {H H':Heap} {S S' Z:Nat→Prop} {v:Value} {l:List Nd} {mb:Nat} {w:MV} {m:Mo} {aps:List AP}
theorem MR.frame (h:MR H S w l m aps) (k:Keeps S H H'):MR H' S w l m aps:=⟨h.nl.frame k,h.ch.frame k,h.va.frame k,h.pc.frame k,h.sa.frame k,h.ps,fun a ha=>(h.pr a ha).frame k⟩
theorem MR.mono (h:MR H S w l m aps) (hs:∀ b,S b→b < H.size→S' b):MR H S' w l m aps:=⟨h.nl.mono hs,h.ch.mono hs,h.va.mono hs,h.pc.mono hs,h.sa.mono hs,h.ps,fun a ha=>(h.pr a ha).mono hs⟩
theorem MkS.grow (x:MkS H S Z mb w l m aps) (q:Fr [] H H'):MkS H' S Z mb w l m aps :=
 ⟨x.mb'.grow q,x.ap.grow q.size,x.ps,fun a ha=>(x.pr a ha).frame (Keeps.of_fr q (by simp)),x.nl.grow q⟩
theorem MkS.mr (x:MkS H S Z mb w l m aps) (hZ:∀ y,Z y→S y) (hn:NL H (fun y=>¬ Z y) w.tv l):MR H (fun y=>¬ Z y) w l m aps:=by
 have ho:∀ {i:Nat} {f:FV},(mkF w m aps [])[i]?=some f→∀ y ∈ own f.v,¬ Z y:=fun hf y hy h=>x.ap.2 y (mem_wr_own hf hy) (hZ y h)
 exact ⟨hn,Rd.of_vec (x.mb'.vec 0 _ rfl) (ho (i:=0) rfl),Rd.of_vec (x.mb'.vec 1 _ rfl) (ho (i:=1) rfl),Rd.of_vec (x.mb'.vec 2 _ rfl) (ho (i:=2) rfl),Rd.of_vec (x.mb'.vec 3 _ rfl) (ho (i:=3) rfl),x.ps,fun a ha=>(x.pr a ha).mono (fun y hy _=>hy.2)⟩
theorem MkS.one (x:MkS H S Z mb w l m aps):∀ u ∈ moC w m,oneC u=true:=by
 obtain ⟨a0,c0,e0⟩:=x.nl.len
 obtain ⟨a1,n1,c1,e1,-⟩:=(x.mb'.vec 0 _ rfl).len
 obtain ⟨a2,n2,c2,e2,-⟩:=(x.mb'.vec 1 _ rfl).len
 obtain ⟨a3,n3,c3,e3,-⟩:=(x.mb'.vec 2 _ rfl).len
 obtain ⟨a4,n4,c4,e4,-⟩:=(x.mb'.vec 3 _ rfl).len
 simp only [mkF,gS,gZ] at e1 e2 e3 e4
 unfold moC
 rw [e0,e1,e2,e3,e4]
 exact one_all rfl
theorem dcl_safe:∀ (ks:List Int) (m:Mo),(ks.foldl (fun m k=>dclM m (nodeAt l k.toNat)) m).safe.length≤m.safe.length + ks.length
 | [],m=>by simp
 | k :: ks,m=>by
  have:=dcl_safe ks (dclM m (nodeAt l k.toNat))
  rw [List.foldl_cons]
  have h1:(dclM m (nodeAt l k.toNat)).safe.length≤m.safe.length + 1:=by
   unfold dclM; repeat' split
   all_goals simp
  simp only [List.length_cons]; omega
theorem safe_kid (hr:prRightM l=true) {i:Nat} (hi:i < l.length) (h:(nodeAt l i).kind=4):0 < (nodeAt l i).kids.length:=by
 have hn:=(tre_of hr).node i hi
 generalize nodeAt l i=n at *
 unfold nodeP at hn
 simp only [Bool.and_eq_true] at hn
 have hks:=hn.2.2
 by_cases h0:n.kids.length=0
 ·have:n.kids = []:=List.eq_nil_of_length_eq_zero h0
  rw [this] at hks
  simp [kidsM,h,areM] at hks
 ·omega
theorem MB.new0 {tv:Value} (b3:Blk H mb 51 [tv,iv 0,nilS,nilS,nilS,nilS,.bool false]):MB H [mkB mb ⟨tv,nilS,nilS,nilS,nilS⟩ mo0] (mkF ⟨tv,nilS,nilS,nilS,nilS⟩ mo0 [] []):=by
 have hB:∀ {i:Nat} {b:Bx},[mkB mb ⟨tv,nilS,nilS,nilS,nilS⟩ mo0][i]?=some b→i=0∧b=mkB mb ⟨tv,nilS,nilS,nilS,nilS⟩ mo0:=by
  intro i b h
  match i,h with
  | 0,h=>simp at h; exact ⟨rfl,h.symm⟩
  | i + 1,h=>simp at h
 have hF:∀ {i:Nat} {f:FV},(mkF ⟨tv,nilS,nilS,nilS,nilS⟩ mo0 [] [])[i]?=some f→f.bi=0∧f.cell=i + 2∧i < 4∧f.v=nilS∧f.vs = []:=by
  intro i f h
  match i,h with
  | 0,h | 1,h | 2,h | 3,h =>
   simp only [mkF,mo0,gS,gZ,Option.some.injEq,List.flatMap_nil,List.map_nil] at h
   subst h
   exact ⟨rfl,rfl,by omega,rfl,rfl⟩
  | i + 4,h=>simp [mkF] at h
 have hown:own nilS = []:=rfl
 refine ⟨?_,?_,?_,?_,?_,?_,?_⟩
 ·intro i b h; obtain ⟨rfl,rfl⟩:=hB h; exact b3
 ·intro i j b c hne h h'; obtain ⟨rfl,rfl⟩:=hB h; obtain ⟨rfl,rfl⟩:=hB h'; exact absurd rfl hne
 ·intro i f h
  obtain ⟨h1,h2,h3,h4,h5⟩:=hF h
  refine ⟨mkB mb ⟨tv,nilS,nilS,nilS,nilS⟩ mo0,by rw [h1]; rfl,?_⟩
  rw [h2,h4]
  match i,h3 with
  | 0,_ | 1,_ | 2,_ | 3,_=>rfl
  | i + 4,h=>omega
 ·intro i f h; obtain ⟨h1,h2,h3,h4,h5⟩:=hF h; rw [h4,h5]; exact Vec.nil
 ·intro i k f b h h'; obtain ⟨h1,h2,h3,h4,h5⟩:=hF h; rw [h4,hown]; simp
 ·intro i j f g hne h h'; obtain ⟨h1,h2,h3,h4,h5⟩:=hF h; rw [h4,hown]; simp
 ·intro i j f g hne h h'
  obtain ⟨h1,h2,-⟩:=hF h
  obtain ⟨g1,g2,-⟩:=hF h'
  exact .inr (by omega)
theorem auMake_no (h:NL H S v l) (hz:Sz l) (h0:¬ typM l=⟨0,0⟩):CallF Tryz.prog 6 [v] H (fun r H'=>Fr [] H H'∧r=.tuple #[.agg (moC ⟨nilS,nilS,nilS,nilS,nilS⟩ mo0).toArray,.bool false]) NoP:=by
 obtain ⟨A0,hA0⟩:∃ A,A=H.push (.cells #[nilS,iv 0,nilS,nilS,nilS,nilS,.bool false] 30):=⟨_,rfl⟩
 have g0:Fr [] H A0:=by rw [hA0]; exact Fr.push
 have z0:A0.size=H.size + 1:=by rw [hA0]; simp
 have b0:Blk A0 H.size 30 [nilS,iv 0,nilS,nilS,nilS,nilS,.bool false]:=by rw [hA0]; exact Blk.new rfl
 have ht:=tyCheck_spec (h.grow g0) hz
 have hcmp:=fun {H:Heap} {xo yo:Operand}=>(bin_struct (P:=Tryz.prog) (H:=H) (t:=36) (xs:=[iv (typM l).err,iv (typM l).pos]) (ys:=[iv 0,iv 0]) (xo:=xo) (yo:=yo) rfl (by decide +kernel) (by decide +kernel) (eqF_int (by decide) rfl rfl rfl (eqF_int (by decide) rfl rfl rfl eqF_nil))).2
 have hd:(decide ¬((typM l).err=0∧(typM l).pos=0))=true:=by
  rw [decide_eq_true_eq]
  rintro ⟨a,b⟩
  apply h0
  cases hq:typM l
  rw [hq] at a b
  simp only at a b
  rw [a,b]
 refine callF_of Tryz.func6 rfl Tryz.ntmps6 Tryz.results6 (by decide) rfl ?_
 simp (disch:=omega) only [go_sem,↓cB,dB]
 try rw [← hA0]
 refine call_to ht ?_
 intro r1 H1 hv
 refine Hush.out ?_
 obtain ⟨f1,rfl⟩:=hv
 have b1:=f1.blk b0 (by simp)
 obtain ⟨A2,e2,b2,f2⟩:=store_blk (P:=Tryz.prog) (ty:=30) (new:=[nilS,iv 0,nilS,nilS,nilS,nilS,.bool false]) b1 rfl T.size30 (one_all rfl)
 have ld:=b2.cells0
 simp only [List.length_cons,List.length_nil] at ld
 refine ⟨?_⟩
 simp (disch:=omega) only [go_sem,↓cB,dB,fltV,hcmp,hd,e2,ld]
 exact fin ⟨Fr.more (g0.trans f1) f2 (by simp),rfl⟩
set_option maxHeartbeats 4000000 in
theorem auMake_ok (h:NL H S v l) (hz:Sz l) (h0:typM l=⟨0,0⟩):CallF Tryz.prog 6 [v] H (fun r H'=>Fr [] H H'∧∃ w aps,r=.tuple #[.agg (moC w (modM l)).toArray,.bool true]∧MR H' (fun y=>y < H'.size) w l (modM l) aps) NoP:=by
 replace h:NL H (fun b=>b < H.size) v l:=h.mono (fun b _ hb=>hb)
 obtain ⟨hr,hs,hn4⟩:=n0_le4 h0
 have hcmp:=fun {H:Heap} {xo yo:Operand}=>(bin_struct (P:=Tryz.prog) (H:=H) (t:=36) (xs:=[iv 0,iv 0]) (ys:=[iv 0,iv 0]) (r:=true) (xo:=xo) (yo:=yo) rfl (by decide +kernel) (by decide +kernel) (by decide +kernel)).2
 obtain ⟨A0,hA0⟩:∃ A,A=H.push (.cells #[nilS,iv 0,nilS,nilS,nilS,nilS,.bool false] 30):=⟨_,rfl⟩
 have g0:Fr [] H A0:=by rw [hA0]; exact Fr.push
 have z0:A0.size=H.size + 1:=by rw [hA0]; simp
 have b0:Blk A0 H.size 30 [nilS,iv 0,nilS,nilS,nilS,nilS,.bool false]:=by rw [hA0]; exact Blk.new rfl
 have ht:=tyCheck_spec (h.grow g0) hz
 rw [h0] at ht
 obtain ⟨K,hK⟩:∃ K,K=(nodeAt l 0).kids:=⟨_,rfl⟩
 have hK8:=top_len hr
 rw [← hK] at hK8
 have hl0:=(right_facts hr).1
 have hl8:=(right_facts hr).2.1
 obtain ⟨vb,vo,vc,a0,hvv,q2,ar,ld0,k00,k01,k02,k03,k04⟩:=h.row (getD_some (d:=nd0') hl0)
 subst hvv
 have hnd:l.getD 0 nd0'=nodeAt l 0:=rfl
 rw [hnd] at q2
 obtain ⟨ak,ck,ekv⟩:=ar.k.len1
 rw [q2,← hK] at ekv
 have hkR:=ar.k
 rw [q2,← hK,ekv] at hkR
 rw [ekv] at k03
 simp only [Nat.zero_mul,Nat.add_zero] at k03
 have hkid:∀ {i:Nat},i < K.length→∃ b o,ak=some ⟨b,o,none⟩∧b < H.size∧cellH H ⟨b,o + i,none⟩=some (iv (K.getD i 0)):=by
  intro i hi
  obtain ⟨b,o,c,e1,e2,e3⟩:=hkR.at1 (getD_some (d:=(0:Int)) hi)
  simp only [Value.slice.injEq,true_and] at e1
  exact ⟨b,o,e1.1,e2,e3⟩
 have hll:(0:Int) < l.length:=by omega
 refine callF_of Tryz.func6 rfl Tryz.ntmps6 Tryz.results6 (by decide) rfl ?_
 simp (disch:=omega) only [go_sem,↓cB,dB]
 try rw [← hA0]
 refine call_to ht ?_
 intro r1 H1 hv
 refine Hush.out ?_
 obtain ⟨f1,rfl⟩:=hv
 refine ⟨?_⟩
 simp (disch:=omega) only [go_sem,↓cB,dB,fltV,hcmp]
 refine call_to (sClone_spec (h.grow (g0.trans f1)) hl0 (by omega)) ?_
 intro r2 H2 hv
 refine Hush.out ?_
 obtain ⟨f2,nl2⟩:=hv
 obtain ⟨ca,cc,rfl⟩:=nl2.len
 have z1:=f1.size
 have z2:=f2.size
 obtain ⟨A3,hA3⟩:∃ A,A=H2.push (.cells #[.slice ca l.length cc,iv 0,nilS,nilS,nilS,nilS,.bool false] 51):=⟨_,rfl⟩
 have g3:Fr [] H2 A3:=by rw [hA3]; exact Fr.push
 have b3:Blk A3 H2.size 51 [.slice ca l.length cc,iv 0,nilS,nilS,nilS,nilS,.bool false]:=by rw [hA3]; exact Blk.new rfl
 have z3:A3.size=H2.size + 1:=by rw [hA3]; simp
 have gA:Fr [] H A3:=((g0.trans f1).trans f2).trans g3
 obtain ⟨mb,hmb⟩:∃ mb,mb=H2.size:=⟨_,rfl⟩
 rw [← hmb] at b3
 have hkA:=gA.cell' k03 (by simp)
 have hA1:Fr [] A0 A3:=(f1.trans f2).trans g3
 refine ⟨?_⟩
 simp (disch:=omega) only [go_sem,↓cB,dB]
 try rw [← hA3]
 try (simp (disch:=omega) only [go_sem,↓cB,dB,hkA])
 try rw [← hmb]
 obtain ⟨S',hS'⟩:∃ S':Nat→Prop,S'=fun y=>y < A3.size∧y ≠ mb:=⟨_,rfl⟩
 have hsl:∀ y,S' y→y < A3.size:=fun y hy=>by rw [hS'] at hy; exact hy.1
 have hsm:¬ S' mb:=by rw [hS']; exact fun h=>h.2 rfl
 have hsH:∀ y,y < H2.size→S' y:=fun y hy=>by rw [hS']; exact ⟨by omega,by omega⟩
 have x0:=MB.new0 b3
 have hZ:∀ y,y=H.size→S' y:=fun y hy=>hsH y (by omega)
 have nlC:NL A3 (fun y=>S' y∧¬ y=H.size) (.slice ca l.length cc) l:=by
  refine (nl2.grow g3).mono (fun y hy _=>?_)
  rcases hy with h | ⟨h1,h2⟩
  ·exact ⟨hsH y (by omega),by omega⟩
  ·exact ⟨hsH y h2,by omega⟩
 have hlA:NL A3 S' (.slice (some ⟨vb,vo,none⟩) l.length vc) l:=(h.grow gA).mono (fun y hy _=>hsH y (by omega))
 have hkA':∀ {i:Nat} {H2':Heap},i < K.length→FS S' A3 H2'→∃ b o,ak=some ⟨b,o,none⟩∧cellH H2' ⟨b,o + i,none⟩=some (iv (K.getD i 0)):=by
  intro i H2' hi q
  obtain ⟨b,o,e1,e2,e3⟩:=hkid hi
  exact ⟨b,o,e1,Keeps.cell (S:=S') (fun y hy hl=>q.same y hl hy) (hsH b (by omega)) (gA.cell' e3 (by simp))⟩
 have hin:∀ {i:Nat},i < K.length→∃ n:Nat,K.getD i 0=n∧n < l.length:=by
  intro i hi
  have e:(nodeAt l 0).kids=K.take i ++ K.getD i 0 :: K.drop (i + 1):=by
   rw [← hK,List.getD_eq_getElem?_getD,List.getElem?_eq_getElem hi]
   simp
  obtain ⟨item,e1,h1,h2,h3,h4⟩:=item_walk hr e
  exact ⟨item,h1,h2⟩
 refine loop_by (fun k ρ H2'=>∃ (i:Nat) (w:MV),k=K.length - i∧i≤K.length∧FS S' A3 H2'∧MB H2' [mkB mb w ((K.take i).foldl (fun m k=>dclM m (nodeAt l k.toNat)) mo0)] (mkF w ((K.take i).foldl (fun m k=>dclM m (nodeAt l k.toNat)) mo0) [] []) ∧
   (∀ y ∈ wrM [mkB mb w ((K.take i).foldl (fun m k=>dclM m (nodeAt l k.toNat)) mo0)] (mkF w ((K.take i).foldl (fun m k=>dclM m (nodeAt l k.toNat)) mo0) [] []),¬ S' y)∧w.tv=.slice ca l.length cc ∧
   (ρ.get 0=.slice (some ⟨vb,vo,none⟩) l.length vc∧ρ.get 2=hp H.size∧ρ.get 3=.bool false∧ρ.get 4=hp mb∧ρ.get 5=.slice ak K.length ck∧ρ.get 26=.slice ak K.length ck∧ρ.get 27=iv K.length∧ρ.get 28=iv i∧ρ.ds = [])) (k:=K.length) ?_ ?_
 ·refine ⟨0,⟨.slice ca l.length cc,nilS,nilS,nilS,nilS⟩,rfl,by omega,FS.refl,x0,?_,rfl,by (simp (disch:=omega) only [go_sem,↓cB,dB,hmb])⟩
  intro y hy
  rw [wr_mk] at hy
  have:own nilS = []:=rfl
  simp only [this,List.not_mem_nil,or_false] at hy
  rw [hy]; exact hsm
 ·rintro k ρ H2' ⟨i,w,rfl,hi,sF,x,hW,htv,r0,r2,r3,r4,r5,r26,r27,r28,rd⟩
  have hxi:(i:Int) + 1=((i + 1:Nat):Int):=by omega
  by_cases hik:i < K.length
  ·obtain ⟨b,o,rfl,hc⟩:=hkA' hik sF
   obtain ⟨n,hn,hnl⟩:=hin hik
   rw [hn] at hc
   have hgn:=getD_some (d:=nd0') hnl
   obtain ⟨tb,to,tc,a,q1,q3,arn,ldn,-⟩:=(hlA.frame (fun y hy hl=>sF.same y hl hy)).row hgn
   simp only [Value.slice.injEq,Option.some.injEq,Addr.mk.injEq,and_true,true_and] at q1
   obtain ⟨⟨rfl,rfl⟩,rfl⟩:=q1
   have hnd:l.getD n nd0'=nodeAt l n:=rfl
   rw [hnd] at q3 ldn
   obtain ⟨nn,x1,c1,x2,c2,x3,c3,rfl⟩:=arn.open
   simp only at q3 ldn
   subst q3
   obtain ⟨d1,d2,d3⟩:=dcl_facts (l:=l) (K.take i) mo0
   have d4:=dcl_safe (l:=l) (K.take i) mo0
   obtain ⟨M,hM⟩:∃ M,M=(K.take i).foldl (fun m k=>dclM m (nodeAt l k.toNat)) mo0:=⟨_,rfl⟩
   rw [← hM] at x hW d1 d2 d3 d4
   have hMn:(K.take (i + 1)).foldl (fun m k=>dclM m (nodeAt l k.toNat)) mo0=dclM M (nodeAt l n):=by
    rw [List.take_succ_eq_append_getElem hik,List.foldl_append,← hM,List.foldl_cons,List.foldl_nil]
    have:K[i]=(n:Int):=by rw [← hn,List.getD_eq_getElem?_getD,List.getElem?_eq_getElem hik]; rfl
    rw [this,Int.toNat_natCast]
   have hti:(K.take i).length≤800:=by rw [List.length_take]; omega
   have hf1:=List.length_filter_le (isVar l) (K.take i)
   have hf2:=List.length_filter_le (isCh l) (K.take i)
   have hlen:M.vars.length≤1000000∧M.chans.length≤1000000∧M.safe.length≤1000000:=by
    rw [d1,d2]
    simp only [mo0,List.length_append,List.length_nil,List.length_map] at d4 ⊢
    omega
   have hdc:=auDecl_spec (S:=S') x (fun y hy=>by have:=hsl y hy; have:=sF.size; omega) hW hlen arn (wok_of hr hnl) (numsOk_of hr hnl).1 (safe_kid hr hnl)
   simp (disch:=omega) only [go_sem,↓cB,dB,r0,r2,r3,r4,r5,r26,r27,r28,rd,hc,ldn]
   refine call_to hdc ?_
   intro r6 H6 hv
   refine Hush.out ?_
   obtain ⟨s6,w6,x6,hW6,htv6⟩:=hv
   refine ⟨?_⟩
   simp (disch:=omega) only [go_sem,↓cB,dB,r0,r2,r3,r4,r5,r26,r27,r28,rd]
   refine fin ⟨K.length - (i + 1),by omega,i + 1,w6,rfl,by omega,sF.trans s6,?_,?_,by rw [htv6,htv],by (simp (disch:=omega) only [go_sem,↓cB,dB,r0,r2,r3,r4,r5,r26,r27,r28,rd,hxi])⟩
   ·rw [hMn]; exact x6
   ·rw [hMn]; exact hW6
  obtain rfl:i=K.length:=by omega
  rw [List.take_length] at x hW
  have hdm:K.foldl (fun m k=>dclM m (nodeAt l k.toNat)) mo0=dclsM l K:=rfl
  rw [hdm] at x hW
  obtain ⟨M,hM⟩:∃ M,M=dclsM l K:=⟨_,rfl⟩
  rw [← hM] at x hW
  obtain ⟨av,nv,cv,hva,hvl⟩:=(x.vec 1 _ rfl).len
  simp only [mkF,gS,gZ] at hva hvl
  rw [flat_len vrL] at hvl
  have hnv:nv=M.vars.length:=by omega
  subst hnv
  have k3:=(x.blk 0 _ rfl).cell 3
  simp only [mkB,gS,gZ] at k3
  rw [hva] at k3
  obtain ⟨w1,x1,q1⟩:=x.put (k:=0) (i:=1) rfl (by simp [mkB]) (fun j f hf h1=>by
   match j,hf with
   | 0,hf | 1,hf | 2,hf | 3,hf =>
    simp only [mkF,gS,gZ,Option.some.injEq] at hf
    subst hf
    simp
   | j + 4,hf=>simp [mkF] at hf) (iv M.vars.length)
  obtain ⟨X,hX⟩:∃ X,X=setH H2' ⟨mb,1,none⟩ (iv M.vars.length):=⟨_,rfl⟩
  have eb:(mkB mb w M).b=mb:=rfl
  rw [eb] at w1 x1 q1
  rw [← hX] at w1 x1 q1
  have sX:FS S' A3 X:=sF.trans (FS.of q1 (by simp only [List.mem_singleton]; rintro b rfl; exact hsm))
  have nlX:=nlC.frame (H':=X) (fun y hy hl=>sX.same y hl hy.1)
  rw [← htv] at nlX
  obtain ⟨m0,hm0⟩:∃ m0:Mo,m0 = { M with globals:=M.vars.length }:=⟨_,rfl⟩
  have xK:MkS X S' (fun y=>y=H.size) mb w l m0 []:=by
   rw [hm0]
   refine ⟨x1,⟨fun y hy=>by have:=hsl y hy; have:=sX.size; omega,hW⟩,?_,by simp,nlX.mono (fun y hy _=>hy.1)⟩
   show []=M.procs
   rw [hM]; unfold dclsM; rw [(dcl_facts K mo0).2.2]; rfl
  have hmo:itemsM l K 0 m0=modM l:=by rw [hm0,hM,hK]; rfl
  have hmi:MoI l [] 0 0 m0:=by rw [hm0,hM,hK]; exact moi_0 hr
  simp (disch:=omega) only [go_sem,↓cB,dB,r0,r2,r3,r4,r5,r26,r27,r28,rd,k3,w1]
  clear x x1 w1 hmb b3 x0
  refine loop_by (fun k ρ H4=>∃ (j before:Nat) (m:Mo) (w:MV) (aps:List AP),k=K.length - j∧j≤K.length∧FS S' A3 H4∧MkS H4 S' (fun y=>y=H.size) mb w l m aps∧w.tv=.slice ca l.length cc∧MoI l (K.take j) before 0 m∧itemsM l (K.drop j) before m=modM l ∧
   (ρ.get 0=.slice (some ⟨vb,vo,none⟩) l.length vc∧ρ.get 2=hp H.size∧ρ.get 4=hp mb∧ρ.get 8=iv before∧ρ.get 44=.slice ak K.length ck∧ρ.get 45=iv K.length∧ρ.get 46=iv j∧ρ.ds = [])) (k:=K.length) ?_ ?_
  ·exact ⟨0,0,m0,w,[],rfl,by omega,sX,xK,htv,hmi,hmo,by (simp (disch:=omega) only [go_sem,↓cB,dB,r0,r2,r4,rd])⟩
  ·clear xK hmo hmi sX nlX sF
   rintro k ρ H4 ⟨j,before,m,w,aps,rfl,hj,sF,x,htv,hmi,hmo,r0,r2,r4,r8,r44,r45,r46,rd⟩
   have hxj:(j:Int) + 1=((j + 1:Nat):Int):=by omega
   have hxb:(before:Int) + 1=((before + 1:Nat):Int):=by omega
   by_cases hjk:j < K.length
   ·obtain ⟨b,o,rfl,hc⟩:=hkA' hjk sF
    have hKe:(nodeAt l 0).kids=K.take j ++ K.getD j 0 :: K.drop (j + 1):=by
     rw [← hK,List.getD_eq_getElem?_getD,List.getElem?_eq_getElem hjk]
     simp
    obtain ⟨n,e,hn,hnl,hwn,hpost⟩:=item_walk hr hKe
    rw [hn] at hc hKe
    have hKd:K.drop j=(n:Int) :: K.drop (j + 1):=by
     rw [List.drop_eq_getElem_cons hjk,← hn,List.getD_eq_getElem?_getD,List.getElem?_eq_getElem hjk]; rfl
    have hKt:K.take (j + 1)=K.take j ++ [(n:Int)]:=by
     rw [List.take_succ_eq_append_getElem hjk,← hn,List.getD_eq_getElem?_getD,List.getElem?_eq_getElem hjk]; rfl
    rw [hKd] at hmo
    have hgn:=getD_some (d:=nd0') hnl
    obtain ⟨tb,to,tc,a,q1,q3,arn,ldn,-⟩:=(hlA.frame (fun y hy hl=>sF.same y hl hy)).row hgn
    simp only [Value.slice.injEq,Option.some.injEq,Addr.mk.injEq,and_true,true_and] at q1
    obtain ⟨⟨rfl,rfl⟩,rfl⟩:=q1
    have hnd:l.getD n nd0'=nodeAt l n:=rfl
    rw [hnd] at q3 ldn
    obtain ⟨nn,x1,c1,x2,c2,x3,c3,rfl⟩:=arn.open
    simp only at q3 ldn
    subst q3
    obtain ⟨A5,hA5⟩:∃ A,A=H4.push (.cells #[iv (nodeAt l n).kind,.slice x1 (nodeAt l n).words.length c1,.slice x2 (nodeAt l n).nums.length c2,.slice x3 (nodeAt l n).kids.length c3,iv (nodeAt l n).pos] 47):=⟨_,rfl⟩
    have g5:Fr [] H4 A5:=by rw [hA5]; exact Fr.push
    have b5:Blk A5 H4.size 47 [iv (nodeAt l n).kind,.slice x1 (nodeAt l n).words.length c1,.slice x2 (nodeAt l n).nums.length c2,.slice x3 (nodeAt l n).kids.length c3,iv (nodeAt l n).pos]:=by rw [hA5]; exact Blk.new rfl
    have x5:=x.grow g5
    have s5:FS S' A3 A5:=sF.trans (FS.of g5 (by simp))
    have c50:=b5.cell 0
    have c52:=b5.cell 2
    simp only [gS,gZ] at c50 c52
    have hnx:=fun {c:Nat} {M:Mo} (x:MoI l (K.take j) before c M) (hc:c≤4)=>moi_next (k:=(n:Int)) x hc
    rw [← hKt] at hnx
    have hvK:isVar l (n:Int)=decide ((nodeAt l n).kind=2):=by simp [isVar]
    unfold itemsM at hmo
    simp only [Int.toNat_natCast] at hmo
    by_cases hk2:(nodeAt l n).kind=2
    ·rw [if_pos hk2] at hmo
     have hm2:=hnx hmi (by omega)
     rw [hvK,decide_eq_true hk2,if_pos rfl] at hm2
     have hb0:=(moi_bef hmi hr hKe).2
     simp (disch:=omega) only [go_sem,↓cB,dB,r0,r2,r4,r8,r44,r45,r46,rd,hc,ldn]
     try rw [← hA5]
     try (simp (disch:=omega) only [go_sem,↓cB,dB,c50,hk2,r8,hxb])
     exact fin ⟨K.length - (j + 1),by omega,j + 1,before + 1,m,w,aps,rfl,by omega,s5,x5,htv,hm2,hmo,by (simp (disch:=omega) only [go_sem,↓cB,dB,r0,r2,r4,r8,r44,r45,r46,rd,hxj,hxb])⟩
    rw [if_neg hk2] at hmo
    by_cases hk3:(nodeAt l n).kind=3
    ·rw [if_pos hk3] at hmo
     have h4:=hn4 n hnl hk3
     have hnn:(nodeAt l n).nums.length=1:=by rw [(numsOk_of hr hnl).1,hk3]; rfl
     have hun:=arn.u.frame (Keeps.of_fr g5 (by simp))
     obtain ⟨ub,uo,uc,ue,-,uq⟩:=hun.at1 (getD_some (d:=(0:Int)) (i:=0) (by simp only; omega))
     simp only [Value.slice.injEq,true_and] at ue
     obtain ⟨rfl,rfl⟩:=ue
     rw [Nat.add_zero] at uq
     have en0:(nodeAt l n).nums.getD 0 0=n0 (nodeAt l n):=rfl
     rw [en0] at uq
     obtain ⟨N,hN⟩:∃ N:Nat,N=(n0 (nodeAt l n)).toNat:=⟨_,rfl⟩
     have hNi:n0 (nodeAt l n)=(N:Int):=by omega
     rw [← hN] at hmo
     rw [hNi] at uq
     have h8:=kids_le8 hr hnl hwn
     simp (disch:=omega) only [go_sem,↓cB,dB,r0,r2,r4,r8,r44,r45,r46,rd,hc,ldn]
     try rw [← hA5]
     try (simp (disch:=omega) only [go_sem,↓cB,dB,c50,c52,uq,hk3,hnn])
     refine loop_by (fun k ρ H6=>∃ (c:Nat) (w:MV) (aps:List AP),k=N - c∧c≤N∧FS S' A3 H6∧MkS H6 S' (fun y=>y=H.size) mb w l (prcsM l n before c m) aps∧w.tv=.slice ca l.length cc∧MoI l (K.take j) before c (prcsM l n before c m) ∧
      (ρ.get 0=.slice (some ⟨vb,vo,none⟩) l.length vc∧ρ.get 2=hp H.size∧ρ.get 4=hp mb∧ρ.get 8=iv before∧ρ.get 10=iv n∧ρ.get 44=.slice (some ⟨b,o,none⟩) K.length ck∧ρ.get 45=iv K.length∧ρ.get 46=iv j∧ρ.get 65=iv N∧ρ.get 66=iv c∧ρ.ds = [])) (k:=N) ?_ ?_
     ·exact ⟨0,w,aps,rfl,by omega,s5,x5,htv,hmi,by (simp (disch:=omega) only [go_sem,↓cB,dB,r0,r2,r4,r8,r44,r45,r46,rd,hc])⟩
     ·clear x5 x htv
      rintro k ρ H6 ⟨c,w,aps,rfl,hcN,s6,x6,htv,hm6,r0,r2,r4,r8,r10,r44,r45,r46,r65,r66,rd⟩
      have hxc:(c:Int) + 1=((c + 1:Nat):Int):=by omega
      by_cases hcl:c < N
      ·have hb6:=moi_bef hm6 hr hKe
       have hjl:(K.take j).length≤800:=by rw [List.length_take]; omega
       have hv6:=hm6.vl
       have hp6:=hm6.pl
       have hc6:(prcsM l n before c m).chans.length≤800:=by
        rw [hm6.ch,List.length_map,← hK]
        have:=List.length_filter_le (isCh l) K
        omega
       have hpr:=auProc_spec (number:=(c:Int)) x6 (fun y hy=>hZ y hy) hz hr (by omega) hnl hk3 hwn (by omega) (fun X=>moi_names hm6 hr hs hKe hnl hk3 hwn hpost X)
       simp (disch:=omega) only [go_sem,↓cB,dB,r0,r2,r4,r8,r10,r44,r45,r46,r65,r66,rd]
       refine call_to hpr ?_
       intro r7 H7 hv
       refine Hush.out ?_
       obtain ⟨s7,w7,aps7,x7,htv7⟩:=hv
       refine ⟨?_⟩
       simp (disch:=omega) only [go_sem,↓cB,dB,r0,r2,r4,r8,r10,r44,r45,r46,r65,r66,rd]
       exact fin ⟨N - (c + 1),by omega,c + 1,w7,aps7,rfl,by omega,s6.trans s7,x7,by rw [htv7,htv],moi_prc hm6 h8,by (simp (disch:=omega) only [go_sem,↓cB,dB,r0,r2,r4,r8,r10,r44,r45,r46,r65,r66,rd,hxc])⟩
      ·obtain rfl:c=N:=by omega
       have hm3:=hnx hm6 (by omega)
       rw [hvK,decide_eq_false hk2,if_neg (by simp)] at hm3
       simp (disch:=omega) only [go_sem,↓cB,dB,r0,r2,r4,r8,r10,r44,r45,r46,r65,r66,rd]
       exact fin ⟨K.length - (j + 1),by omega,j + 1,before,_,w,aps,rfl,by omega,s6,x6,htv,hm3,hmo,by (simp (disch:=omega) only [go_sem,↓cB,dB,r0,r2,r4,r8,r10,r44,r45,r46,r65,r66,rd,hxj])⟩
    ·rw [if_neg hk3] at hmo
     have hm2:=hnx hmi (by omega)
     rw [hvK,decide_eq_false hk2,if_neg (by simp)] at hm2
     simp (disch:=omega) only [go_sem,↓cB,dB,r0,r2,r4,r8,r44,r45,r46,rd,hc,ldn]
     try rw [← hA5]
     try (simp (disch:=omega) only [go_sem,↓cB,dB,c50,hk2,hk3])
     exact fin ⟨K.length - (j + 1),by omega,j + 1,before,m,w,aps,rfl,by omega,s5,x5,htv,hm2,hmo,by (simp (disch:=omega) only [go_sem,↓cB,dB,r0,r2,r4,r8,r44,r45,r46,rd,hxj])⟩
   obtain rfl:j=K.length:=by omega
   rw [List.drop_length] at hmo
   have hmo:m=modM l:=hmo
   subst hmo
   have bR:Blk H4 H.size 30 [nilS,iv 0,nilS,nilS,nilS,nilS,.bool false]:=sF.blk (hA1.blk b0 (by simp)) (hsH _ (by omega))
   obtain ⟨X9,e9,b9,f9⟩:=store_blk (P:=Tryz.prog) (ty:=30) (new:=moC w (modM l)) bR rfl T.size30 x.one
   have hmr:=(x.mr hZ ((nlC.frame (fun y hy hl=>sF.same y hl hy.1)).mono (fun y hy _=>hy.2) |> fun h=>by rw [htv]; exact h)).frame (H':=X9) (fun y hy hl=>f9.same y hl (by simpa using hy))
   have ldm:=(x.mb'.blk 0 _ rfl).cells0
   have ld9:=b9.cells0
   have hl7:(moC w (modM l)).length=7:=rfl
   rw [hl7] at ld9
   have hfin:Fr [] H X9:=by
    have:=f9.size
    have:=sF.size
    refine ⟨by omega,fun y h1 h2=>?_⟩
    rw [f9.same y (by omega) (by simp only [List.mem_singleton]; omega),sF.same y (by omega) (hsH y (by omega)),gA.same y h1 h2]
   have hlt:MR X9 (fun y=>y < X9.size) w l (modM l) aps:=by
    refine hmr.mono (fun y _ h=>h)
   have e9':storeA Tryz.prog H4 30 ⟨H.size,0,none⟩ (.agg #[w.tv,iv (modM l).globals,w.cv,w.va,w.pv,w.sa,.bool (modM l).dead])=some X9:=e9
   have ldm':cellsH (cellH H4) ⟨mb,0,none⟩ 0 7=some [w.tv,iv (modM l).globals,w.cv,w.va,w.pv,w.sa,.bool (modM l).dead]:=ldm
   have ld9':cellsH (cellH X9) ⟨H.size,0,none⟩ 0 7=some [w.tv,iv (modM l).globals,w.cv,w.va,w.pv,w.sa,.bool (modM l).dead]:=ld9
   simp (disch:=omega) only [go_sem,↓cB,dB,r0,r2,r4,r8,r44,r45,r46,rd,ldm',e9',ld9']
   exact fin ⟨hfin,w,aps,rfl,hlt⟩
end
end Go.Proofs.YtmihefbdghjeoaaGreat
namespace Go.Proofs.YtmihefbdghjeoaaGreat
open Go.HL
set_option maxRecDepth 10000
def szN (n:Nd):Bool:=decide (n.words.length≤1000) && (decide (n.nums.length≤1000) && (decide (n.kids.length≤1000) && n.words.all fun w=>decide (w.length≤1000)))
def szB (l:List Nd):Bool:=decide (l.length≤1000) && l.all szN
theorem sz_of {l:List Nd} (h:szB l=true):Sz l:=by
 unfold szB at h
 simp only [Bool.and_eq_true,decide_eq_true_eq,List.all_eq_true] at h
 have key:∀ (i:Nat) n,l[i]?=some n→szN n=true:=fun i n hi=>h.2 n (List.mem_of_getElem? hi)
 have key':∀ (i:Nat) n,l[i]?=some n→n.words.length≤1000∧n.nums.length≤1000∧n.kids.length≤1000∧∀ w ∈ n.words,w.length≤1000:=by
  intro i n hi
  have:=key i n hi
  unfold szN at this
  simpa only [Bool.and_eq_true,decide_eq_true_eq,List.all_eq_true] using this
 exact ⟨by omega,fun i n hi=>by have:=key' i n hi; omega,fun i n hi=>by have:=key' i n hi; omega,fun i n hi=>by have:=key' i n hi; omega,fun i n hi w hw=>by have:=(key' i n hi).2.2.2 w hw; omega⟩
def tpM (n:Nat) (s:Str):Option (Flt × Flt × Bool):=(parseM n s).map fun r=>(r.2,typM r.1,szB r.1)
section
variable {H:Heap}
end
end Go.Proofs.YtmihefbdghjeoaaGreat
namespace Go.Proofs.YtmihefbdghjeoaaGreat
open Go.HL
set_option maxRecDepth 10000
section
variable {H H':Heap} {S:Nat→Prop} {l:List Nd} {w:MV} {m:Mo} {aps:List AP} {a:AP}
theorem MR.proc (h:MR H S w l m aps) {i:Nat} {p:Pr} (hi:m.procs[i]?=some p):∃ b o c a,w.pv=.slice (some ⟨b,o,none⟩) m.procs.length c∧a.p=p∧APR H S a∧cellsH (cellH H) ⟨b,o + i * 8,none⟩ 0 8=some (apC a)∧∀ j x,(apC a)[j]?=some x→cellH H ⟨b,o + i * 8 + j,none⟩=some x:=by
 rw [← h.ps,List.getElem?_map,Option.map_eq_some_iff] at hi
 obtain ⟨a,ha,rfl⟩:=hi
 obtain ⟨b,o,c,e,_,h1,h2⟩:=h.pc.row apL (by decide) ha
 exact ⟨b,o,c,a,by rw [e,← h.ps,List.length_map],rfl,h.pr a (List.mem_of_getElem? ha),h1,h2⟩
theorem MR.cells (h:MR H S w l m aps):∃ a0 c0 a1 c1 a2 c2 a3 c3 a4 c4,w.tv=.slice a0 l.length c0∧w.cv=.slice a1 m.chans.length c1∧w.va=.slice a2 m.vars.length c2∧w.pv=.slice a3 m.procs.length c3∧w.sa=.slice a4 m.safe.length c4:=by
 obtain ⟨a0,c0,e0⟩:=h.nl.len
 obtain ⟨a1,c1,e1⟩:=h.ch.len chL (by decide)
 obtain ⟨a2,c2,e2⟩:=h.va.len vrL (by decide)
 obtain ⟨a3,c3,e3⟩:=h.pc.len apL (by decide)
 obtain ⟨a4,c4,e4⟩:=h.sa.len1
 exact ⟨a0,c0,a1,c1,a2,c2,a3,c3,a4,c4,e0,e1,e2,by rw [e3,← h.ps,List.length_map],e4⟩
theorem APR.edge (h:APR H S a) {i:Nat} {e:Ed} (hi:a.p.edges[i]?=some e):∃ b o c,a.ev=.slice (some ⟨b,o,none⟩) a.p.edges.length c∧cellsH (cellH H) ⟨b,o + i * 8,none⟩ 0 8=some (edC e)∧∀ j x,(edC e)[j]?=some x→cellH H ⟨b,o + i * 8 + j,none⟩=some x:=by
 obtain ⟨b,o,c,e,_,h1,h2⟩:=h.ed.row edL (by decide) hi
 exact ⟨b,o,c,e,h1,h2⟩
theorem APR.forms (h:APR H S a):∃ x1 c1 x2 c2 x3 c3 x4 c4 x5 c5,a.lv=.slice x1 a.p.locals.length c1∧a.rv=.slice x2 a.p.rest.length c2∧a.ev=.slice x3 a.p.edges.length c3∧a.nv=.slice x4 a.p.names.length c4∧a.xv=.slice x5 a.p.vars.length c5:=by
 obtain ⟨x1,c1,e1⟩:=h.lo.len1
 obtain ⟨x2,c2,e2⟩:=h.re.len1
 obtain ⟨x3,c3,e3⟩:=h.ed.len edL (by decide)
 obtain ⟨x4,c4,e4⟩:=h.nm.len1
 obtain ⟨x5,c5,e5⟩:=h.xs.len1
 exact ⟨x1,c1,x2,c2,x3,c3,x4,c4,x5,c5,e1,e2,e3,e4,e5⟩
end
def maM (n:Nat) (s:Str) (q:List (Nat × List Int)):Option (Flt × Flt × Bool):=(parseM n s).map fun r=>(r.2,typM r.1,szB r.1 && decide (((modM r.1).procs.map fun p=>(p.rest.length,p.edges.map Ed.to'))=q))
theorem ma_open {n:Nat} {s:Str} {f g:Flt} {q:List (Nat × List Int)} (h:maM n s q=some (f,g,true)):∃ l,parseM n s=some (l,f)∧typM l=g∧Sz l∧(modM l).procs.map (fun p=>(p.rest.length,p.edges.map Ed.to'))=q:=by
 unfold maM at h
 rw [Option.map_eq_some_iff] at h
 obtain ⟨⟨l,f'⟩,h1,h2⟩:=h
 simp only [Prod.mk.injEq,Bool.and_eq_true,decide_eq_true_eq] at h2
 obtain ⟨rfl,h3,h4,h5⟩:=h2
 exact ⟨l,h1,h3,sz_of h4,h5⟩
theorem maw1:maM 60 [112,114,111,99,32,112,32,123,32,115,107,105,112,59,32,125] [(2,[1])]=some (⟨0,0⟩,⟨0,0⟩,true):=by decide +kernel
section
variable {H:Heap}
theorem w13awake_spec:CallF Tryz.prog 4 [] H (fun r H'=>r=.bool true∧Fr [] H H') NoP:=by
 obtain ⟨l1,p1,s1,z1,q1⟩:=ma_open maw1
 obtain ⟨p,hp,hp1,e,he,he1⟩:∃ p,(modM l1).procs = [p]∧p.rest.length=2∧∃ e,p.edges = [e]∧e.to'=1:=by
  cases hq:(modM l1).procs with
  | nil=>rw [hq] at q1; simp at q1
  | cons p r =>
   rw [hq] at q1
   simp only [List.map_cons,List.cons.injEq,Prod.mk.injEq,List.map_eq_nil_iff] at q1
   obtain ⟨⟨h1,h2⟩,rfl⟩:=q1
   refine ⟨p,rfl,h1,?_⟩
   cases hq2:p.edges with
   | nil=>rw [hq2] at h2; simp at h2
   | cons e r =>
    rw [hq2] at h2
    simp only [List.map_cons,List.cons.injEq,List.map_eq_nil_iff] at h2
    obtain ⟨h3,rfl⟩:=h2
    exact ⟨e,rfl,h3⟩
 refine callF_of Tryz.func4 rfl Tryz.ntmps4 Tryz.results4 (by decide) rfl ?_
 simp (disch:=omega) only [go_sem,↓cB,dB]
 refine call_to (parse_spec p1) ?_
 intro r1 H1 hv
 refine Hush.out ?_
 obtain ⟨v1,rfl,f1,nl1⟩:=hv
 refine ⟨?_⟩
 simp (disch:=omega) only [go_sem,↓cB,dB,fltV]
 refine call_to (auMake_ok (nl1.grow Fr.push) z1 s1) ?_
 intro r2 H2 hv
 refine Hush.out ?_
 obtain ⟨f2,w,aps,rfl,mr⟩:=hv
 obtain ⟨d0,t0,d1,t1,d2,t2,d3,t3,d4,t4,w0',w1',w2',w3',w4'⟩:=mr.cells
 have hmc:moC w (modM l1) = [.slice d0 l1.length t0,iv (modM l1).globals,.slice d1 (modM l1).chans.length t1,.slice d2 (modM l1).vars.length t2,.slice d3 (modM l1).procs.length t3,.slice d4 (modM l1).safe.length t4,.bool (modM l1).dead]:=by
  unfold moC; rw [w0',w1',w2',w3',w4']
 rw [hmc]
 obtain ⟨A,hA⟩:∃ A,A=H2.push (.cells #[.slice d0 l1.length t0,iv (modM l1).globals,.slice d1 (modM l1).chans.length t1,.slice d2 (modM l1).vars.length t2,.slice d3 (modM l1).procs.length t3,.slice d4 (modM l1).safe.length t4,.bool (modM l1).dead] 30):=⟨_,rfl⟩
 have f3:Fr [] H2 A:=by rw [hA]; exact Fr.push
 have bA:Blk A H2.size 30 (moC w (modM l1)):=by rw [hA,hmc]; exact Blk.new rfl
 have mA:=mr.frame (Keeps.of_fr f3 (by simp))
 have k4:=bA.cell 4
 simp only [moC,gS,gZ] at k4
 obtain ⟨b,o,c,a,e1,e2,ap,-,cs⟩:=mA.proc (i:=0) (p:=p) (by rw [hp]; rfl)
 rw [w3'] at e1 k4
 simp only [Value.slice.injEq,true_and] at e1
 obtain ⟨rfl,rfl⟩:=e1
 obtain ⟨b',o',c',e1',-,cs'⟩:=ap.edge (i:=0) (e:=e) (by rw [e2,he]; rfl)
 have k43:=cs 3 _ rfl
 have k45:=cs 5 _ rfl
 have k1:=cs' 1 _ rfl
 have hpl:((modM l1).procs.length:Int)=1:=by rw [hp]; rfl
 rw [e2,he] at e1'
 rw [e1'] at k45
 rw [e2,hp1] at k43
 rw [he1] at k1
 simp only [Nat.zero_mul,Nat.add_zero,List.length_cons,List.length_nil] at k43 k45 k1
 refine ⟨?_⟩
 simp (disch:=omega) only [go_sem,↓cB,dB]
 try rw [← hA]
 try (simp (disch:=omega) only [go_sem,↓cB,dB,k4,k43,k45,k1,hpl])
 exact fin ⟨rfl,((f1.trans Fr.push).trans f2).trans f3⟩
end
end Go.Proofs.YtmihefbdghjeoaaGreat
