/- Texts of this proof, put together: MrfA, MrfB, MrfC, MrfH, MrfE, MrfD. The conditions of each theorem stand in it. -/
import Derived.Test.YtmihefbdghjeoaaGreatMXE
import Derived.Test.YtmihefbdghjeoaaGreatMXB
import Derived.Test.YtmihefbdghjeoaaGreatMXF
set_option linter.unusedSimpArgs false
set_option linter.unusedVariables false
namespace Go.HL
theorem rd_src {H:Heap} {S:Nat→Prop} {z:Nat} {v:Value} {vs:List Value} (h:Rd H S z v vs):∃ a n c,v=.slice a n c∧vs.length=n * z∧srcCells H z n v=some vs:=by
 by_cases e:vs = []
 ·obtain ⟨a,n,c,rfl,hl,hc⟩:=h
  subst e
  refine ⟨a,n,c,rfl,hl,?_⟩
  have h0:n * z=0:=by simpa using hl.symm
  cases a with
  | none=>rfl
  | some ad=>show cellsH (cellH H) ad 0 (n * z)=some []; rw [h0]; rfl
 ·obtain ⟨a,n,c,rfl,hl,hc⟩:=h
  refine ⟨a,n,c,rfl,hl,?_⟩
  obtain ⟨x,xs,hx⟩:=List.exists_cons_of_ne_nil e
  obtain ⟨b,o,rfl,hs,_⟩:=hc 0 x (by rw [hx]; rfl)
  show cellsH (cellH H) ⟨b,o,none⟩ 0 (n * z)=some vs
  rw [← hl]
  refine cellsH_at _ _ 0 (fun j hj=>?_)
  obtain ⟨b',o',e,_,h3⟩:=hc j _ (List.getElem?_eq_getElem hj)
  simp only [Option.some.injEq,Addr.mk.injEq,and_true] at e
  obtain ⟨rfl,rfl⟩:=e
  simpa using h3
theorem app_copy {P:Program} {H:Heap} {t e z bytes n b0:Nat} {zero x:Value} {vs:List Value} {k:Value→Heap→Prop} (hT:ElT P t e z bytes zero) (hz:zero.cells.size=z) (hb:Blk H b0 e [])
  (hx:lenS x=some n) (hsrc:srcCells H z n x=some vs) (hone:∀ u ∈ vs,oneC u=true) (hnew:vs.length=n * z) (hlen:(2 * n + 200) * (bytes + 1)≤281474976710656)
  (hk:∀ v' H',Vec H' e z v' vs∧Fr [b0] H H'∧(∀ y ∈ own v',y=b0∨H.size≤y)∧(∃ a' c',v'=.slice a' n c')→Hush (k v' H')) :
  @appB P t t (.slice (some ⟨b0,0,none⟩) 0 0) x ⟨H⟩ ⟨k⟩:=by
 have vG:Vec H e z (.slice (some ⟨b0,0,none⟩) 0 0) []:=⟨.inr ⟨b0,0,0,[],[],rfl,by simpa using hb,by simp,by simp,Nat.le_refl _⟩⟩
 refine app_vec (n:=n) (new:=vs) hT hz vG hx hsrc hT.under (by simp) hone hnew ?_ ?_
 ·intro a l c e
  simp only [Value.slice.injEq] at e
  obtain ⟨_,rfl,_⟩:=e
  simpa using hlen
 ·intro v' H' g1 g2 g3 g4
  obtain ⟨a',c',rfl⟩:=g4 _ _ _ rfl
  rw [Nat.zero_add] at *
  exact (hk _ _ ⟨g1,g2,fun y hy=>(g3 y hy).imp (fun h=>by simpa [own] using h) id,a',c',rfl⟩).out
end Go.HL
namespace Go.Proofs.YtmihefbdghjeoaaGreat
open Go.HL
set_option maxRecDepth 10000
def withB (q:Pr) (b:Bs):Pr:={ q with rest:=b.rest,edges:=b.edges }
structure PV (H:Heap) (S:Nat→Prop) (q:Pr) (b:Bs) (a:AP):Prop where
 r:APR H S a
 e:a.p=withB q b
section
variable {H H':Heap} {S S':Nat→Prop} {q:Pr} {b:Bs} {a:AP}
theorem PV.grow (x:PV H S q b a) (f:Fr [] H H'):PV H' S q b a:=⟨x.r.frame (Keeps.of_fr f (by simp)),x.e⟩
theorem PV.frame (x:PV H S q b a) (f:Keeps S H H'):PV H' S q b a:=⟨x.r.frame f,x.e⟩
theorem PV.mono (x:PV H S q b a) (hs:∀ y,S y→y < H.size→S' y):PV H S' q b a:=⟨x.r.mono hs,x.e⟩
theorem PV.cells (x:PV H S q b a):∃ x1 c1 x2 c2 x3 c3 x4 c4 x5 c5,a.lv=.slice x1 q.locals.length c1∧a.rv=.slice x2 b.rest.length c2∧a.ev=.slice x3 b.edges.length c3∧a.nv=.slice x4 q.names.length c4∧a.xv=.slice x5 q.vars.length c5 ∧
  apC a = [sv q.name,iv q.copy,.slice x1 q.locals.length c1,iv b.rest.length,.slice x2 b.rest.length c2,.slice x3 b.edges.length c3,.slice x4 q.names.length c4,.slice x5 q.vars.length c5]:=by
 obtain ⟨x1,c1,x2,c2,x3,c3,x4,c4,x5,c5,e1,e2,e3,e4,e5⟩:=x.r.forms
 have e:=x.e
 rw [e] at e1 e2 e3 e4 e5
 exact ⟨x1,c1,x2,c2,x3,c3,x4,c4,x5,c5,e1,e2,e3,e4,e5,by unfold apC; rw [e1,e2,e3,e4,e5,e]; rfl⟩
set_option maxHeartbeats 2000000 in
theorem r13place_spec (x:PV H S q b a) (hl:b.rest.length≤1000000):CallF Tryz.prog 41 [.agg (apC a).toArray] H (fun r H'=>Fr [] H H'∧∃ a',r=.tuple #[.agg (apC a').toArray,iv b.rest.length]∧PV H' (fun y=>S y∨H.size≤y) q (plM b) a'∧a'.ev=a.ev) NoP:=by
 obtain ⟨x1,c1,x2,c2,x3,c3,x4,c4,x5,c5,e1,e2,e3,e4,e5,hac⟩:=x.cells
 rw [hac]
 obtain ⟨G,hG⟩:∃ G,G=(H.push (.cells #[sv q.name,iv q.copy,.slice x1 q.locals.length c1,iv b.rest.length,.slice x2 b.rest.length c2,.slice x3 b.edges.length c3,.slice x4 q.names.length c4,.slice x5 q.vars.length c5] 43)).push (.cells #[sv [],iv 0,nilS,iv 0,nilS,nilS,nilS,nilS] 43):=⟨_,rfl⟩
 have f0:Fr [] H G:=by rw [hG]; exact Fr.push.trans Fr.push
 have bP:Blk G H.size 43 [sv q.name,iv q.copy,.slice x1 q.locals.length c1,iv b.rest.length,.slice x2 b.rest.length c2,.slice x3 b.edges.length c3,.slice x4 q.names.length c4,.slice x5 q.vars.length c5]:=by rw [hG]; exact Blk.push (Blk.new rfl) _
 have bZ:Blk G (H.size + 1) 43 [sv [],iv 0,nilS,iv 0,nilS,nilS,nilS,nilS]:=by
  rw [hG]
  have:=Blk.new (H:=H.push (.cells #[sv q.name,iv q.copy,.slice x1 q.locals.length c1,iv b.rest.length,.slice x2 b.rest.length c2,.slice x3 b.edges.length c3,.slice x4 q.names.length c4,.slice x5 q.vars.length c5] 43)) (t:=43) (vs:=[sv [],iv 0,nilS,iv 0,nilS,nilS,nilS,nilS]) rfl
  rwa [Array.size_push] at this
 have k3:=bP.cell 3
 simp only [gS,gZ] at k3
 have hw3:=bP.wr (i:=3) (by simp) (iv ((b.rest.length + 1:Nat):Int))
 have bP1:=bP.set 3 (iv ((b.rest.length + 1:Nat):Int))
 obtain ⟨G1,hG1⟩:∃ X,X=setH G ⟨H.size,3,none⟩ (iv ((b.rest.length + 1:Nat):Int)):=⟨_,rfl⟩
 rw [← hG1] at hw3 bP1
 have f1:Fr [H.size] G G1:=by rw [hG1]; exact Fr.set (by simp)
 have bZ1:=f1.blk bZ (by simp)
 have f01:Fr [] H G1:=Fr.more f0 f1 (by simp)
 simp only [List.set_cons_succ,List.set_cons_zero] at bP1
 have hxi:(b.rest.length:Int) + 1=((b.rest.length + 1:Nat):Int):=by omega
 refine callF_of Tryz.func41 rfl Tryz.ntmps41 Tryz.results41 (by decide) rfl ?_
 simp (disch:=omega) only [go_sem,↓cB,dB]
 try rw [← hG]
 try (simp (disch:=omega) only [go_sem,↓cB,dB,k3,hxi,hw3,Array.size_push])
 obtain ⟨G2,hG2⟩:∃ X,X=G1.push (.cells #[] 4):=⟨_,rfl⟩
 have f2:Fr [] G1 G2:=by rw [hG2]; exact Fr.push
 have f02:=f01.trans f2
 have bP2:=f2.blk bP1 (by simp)
 have bZ2:=f2.blk bZ1 (by simp)
 have k4:=bP2.cell 4
 simp only [gS,gZ] at k4
 have zG:G.size=H.size + 2:=by rw [hG]; simp
 have zG1:=f1.size
 have zG2:G2.size=G1.size + 1:=by rw [hG2]; simp
 have vG:Vec G2 4 1 (.slice (some ⟨G1.size,0,none⟩) 0 0) []:=⟨.inr ⟨G1.size,0,0,[],[],rfl,by rw [hG2]; exact Blk.new rfl,rfl,rfl,Nat.le_refl _⟩⟩
 have hrd:=x.r.re.frame (Keeps.of_fr f02 (by simp))
 rw [e2,x.e] at hrd
 have hrr:(withB q b).rest=b.rest:=rfl
 rw [hrr] at hrd
 obtain ⟨sa,sn,sc,se,sl,ss⟩:=rd_src hrd
 rw [List.length_map,Nat.mul_one] at sl
 subst sl
 try rw [← hG2]
 try (simp (disch:=omega) only [go_sem,↓cB,dB,k4])
 refine app_vec (n:=b.rest.length) (new:=b.rest.map .bool) T.el39 rfl vG rfl ss T.el39.under (by simp) (by intro u hu; obtain ⟨y,-,rfl⟩:=List.mem_map.1 hu; rfl) (by simp) (by intro a' l c e; simp only [Value.slice.injEq] at e; obtain ⟨_,rfl,_⟩:=e; omega) ?_
 intro v1 H1 g1 g2 g3 g4
 refine Hush.out ?_
 obtain ⟨aa,cc,rfl⟩:=g4 _ _ _ rfl
 have g2:Fr [G1.size] G2 H1:=g2
 have g3:∀ y ∈ own (.slice aa (0 + b.rest.length) cc),y ∈ [G1.size]∨G2.size≤y:=g3
 rw [List.nil_append] at g1
 rw [Nat.zero_add] at g1 g3
 have zH1:=g2.size
 have bP3:=g2.blk bP2 (by simp; omega)
 have bZ3:=g2.blk bZ2 (by simp; omega)
 refine ⟨?_⟩
 try (simp (disch:=omega) only [go_sem,↓cB,dB])
 refine app_lit1 T.el39 rfl g1 rfl (by rw [List.length_map]; omega) ?_
 intro v2 H3 g1' g2' g3' g4'
 refine Hush.out ?_
 rw [List.length_map] at g4'
 obtain ⟨ab,cb,rfl⟩:=g4'
 have zH3:=g2'.size
 have hno:∀ y,y < G1.size→y ∉ own (.slice aa b.rest.length cc):=by
  intro y hy h
  rcases g3 y h with h | h
  ·simp only [List.mem_singleton] at h; omega
  ·omega
 have hno':∀ y,y < G1.size→y ∉ own (.slice ab (b.rest.length + 1) cb):=by
  intro y hy h
  rcases g3' y h with h | h
  ·exact hno y hy h
  ·omega
 have bP4:=g2'.blk bP3 (hno _ (by omega))
 have bZ4:=g2'.blk bZ3 (hno _ (by omega))
 have hw4:=bP4.wr (i:=4) (by simp) (.slice ab (b.rest.length + 1) cb)
 have bP5:=bP4.set 4 (.slice ab (b.rest.length + 1) cb)
 obtain ⟨G4,hG4⟩:∃ X,X=setH H3 ⟨H.size,4,none⟩ (.slice ab (b.rest.length + 1) cb):=⟨_,rfl⟩
 rw [← hG4] at hw4 bP5
 have f4:Fr [H.size] H3 G4:=by rw [hG4]; exact Fr.set (by simp)
 have bZ5:=f4.blk bZ4 (by simp)
 simp only [List.set_cons_succ,List.set_cons_zero] at bP5
 have k3':=bP5.cell 3
 have ld:=bP5.cells0
 simp only [gS,gZ,List.length_cons,List.length_nil] at k3' ld
 obtain ⟨G5,e6,bZ6,f5⟩:=store_blk (P:=Tryz.prog) (ty:=43) (new:=[sv q.name,iv q.copy,.slice x1 q.locals.length c1,iv ((b.rest.length + 1:Nat):Int),.slice ab (b.rest.length + 1) cb,.slice x3 b.edges.length c3,.slice x4 q.names.length c4,.slice x5 q.vars.length c5]) bZ5 rfl T.size43 (one_all rfl)
 have ld6:=bZ6.cells0
 simp only [List.length_cons,List.length_nil] at ld6
 obtain ⟨hl',hhl⟩:∃ hl',hl'=hldL G4 [⟨H.size,3,none⟩]:=⟨_,rfl⟩
 have hok:heldOK hl' G4:=by rw [hhl]; exact hld_ok
 have l3:lookA hl' ⟨H.size,3,none⟩=some (iv ((b.rest.length + 1:Nat):Int)):=by rw [hhl]; exact hld_at k3' (by simp)
 have hmem:∀ ad v,lookA hl' ad=some v→ad.block=H.size:=by
  intro ad v hv
  rw [hhl] at hv
  have:=hld_mem hv
  simp only [List.mem_singleton] at this
  rw [this]
 have hok5:=hld_fr hok f5 (fun ad v hv=>by rw [hmem ad v hv]; simp)
 have hx1:((b.rest.length + 1:Nat):Int) - 1=(b.rest.length:Int):=by omega
 have fH3:Fr [] H H3:=by
  refine ⟨by have:=f02.size; omega,fun y h1 _=>?_⟩
  have:=f02.size
  rw [g2'.same y (by omega) (hno y (by omega)),g2.same y (by omega) (by simp; omega),f02.same y h1 (by simp)]
 have fin5:Fr [] H G5:=by
  refine ⟨by have:=f4.size; have:=f5.size; have:=fH3.size; omega,fun y h1 _=>?_⟩
  have:=fH3.size; have:=f4.size
  rw [f5.same y (by omega) (by simp; omega),f4.same y (by omega) (by simp; omega),fH3.same y h1 (by simp)]
 have vF:Vec G5 4 1 (.slice ab (b.rest.length + 1) cb) (b.rest.map .bool ++ [.bool false]):=(g1'.frame f4 (by intro y hy e; simp only [List.mem_singleton] at e; subst e; exact hno' _ (by omega) hy)).frame f5 (by intro y hy e; simp only [List.mem_singleton] at e; subst e; exact hno' _ (by omega) hy)
 have hap:=(x.r.frame (Keeps.of_fr fin5 (by simp))).mono (S':=fun y=>S y∨H.size≤y) (fun y h _=>.inl h)
 refine ⟨?_⟩
 try (simp (disch:=omega) only [go_sem,↓cB,dB,hw4])
 refine draw1 (lk [(0,true),(1,false),(2,false),(3,false)] (.act 4 (lk [(5,true)] .fin) .non)) T.mixed hl' hok ?_
 simp (disch:=omega) only [go_sem,↓cB,dB,l3,ld,hx1,e6,Array.size_push]
 try refine held_by hok5 ?_
 try (simp (disch:=omega) only [go_sem,↓cB,dB,l3,ld6,hx1,Array.size_push])
 refine fin ⟨fin5,⟨withB q (plM b),a.lv,.slice ab (b.rest.length + 1) cb,a.ev,a.nv,a.xv⟩,?_,⟨⟨?_,?_,?_,?_,?_⟩,rfl⟩,rfl⟩
 ·unfold apC; simp only [e1,e3,e4,e5,withB,plM,List.length_append,List.length_singleton]
 ·have:=hap.lo; rw [x.e] at this; exact this
 ·have:=Rd.of_vec (S:=fun y=>S y∨H.size≤y) vF (fun y hy=>.inr (Nat.le_of_not_lt (fun h=>hno' y (by omega) hy)))
  simpa [withB,plM] using this
 ·have:=hap.ed; rw [x.e] at this; exact this
 ·have:=hap.nm; rw [x.e] at this; exact this
 ·have:=hap.xs; rw [x.e] at this; exact this
theorem ed_one (es:List Ed):∀ u ∈ es.flatMap edC,oneC u=true:=by
 intro u hu
 obtain ⟨y,-,hy⟩:=List.mem_flatMap.1 hu
 have:(edC y).all oneC=true:=rfl
 exact one_all this u hy
structure APO (H:Heap) (S:Nat→Prop) (a:AP):Prop where
 lo:Rd H S 1 a.lv (a.p.locals.map iv)
 re:Rd H S 1 a.rv (a.p.rest.map .bool)
 nm:Rd H S 1 a.nv (a.p.names.map sv)
 xs:Rd H S 1 a.xv (a.p.vars.map iv)
theorem APO.frame (h:APO H S a) (k:Keeps S H H'):APO H' S a:=⟨h.lo.frame k,h.re.frame k,h.nm.frame k,h.xs.frame k⟩
theorem APO.mono (h:APO H S a) (hs:∀ b,S b→b < H.size→S' b):APO H S' a:=⟨h.lo.mono hs,h.re.mono hs,h.nm.mono hs,h.xs.mono hs⟩
structure PW (H0 H:Heap) (S:Nat→Prop) (q:Pr) (b:Bs) (a:AP):Prop where
 v:PV H (fun y=>S y∨H0.size≤y) q b a
 ve:Vec H 45 8 a.ev (b.edges.flatMap edC)
 nw:∀ y ∈ own a.ev,H0.size≤y
 ot:APO H (fun y=>(S y∨H0.size≤y)∧y ∉ own a.ev) a
set_option maxHeartbeats 2000000 in
theorem r13put_spec (x:PV H S q b a) (hl:b.edges.length≤1000000) {fr to' d node ex v c:Int}:CallF Tryz.prog 39 [.agg (apC a).toArray,iv fr,iv to',iv d,iv node,iv ex,iv v,iv c] H (fun r H'=>Fr [] H H'∧∃ a',r=.agg (apC a').toArray∧PW H H' S q (putM b ⟨fr,to',d,ex,v,c,false,node⟩) a') NoP:=by
 obtain ⟨x1,c1,x2,c2,x3,c3,x4,c4,x5,c5,e1,e2,e3,e4,e5,hac⟩:=x.cells
 rw [hac]
 obtain ⟨G,hG⟩:∃ G,G=(H.push (.cells #[sv q.name,iv q.copy,.slice x1 q.locals.length c1,iv b.rest.length,.slice x2 b.rest.length c2,.slice x3 b.edges.length c3,.slice x4 q.names.length c4,.slice x5 q.vars.length c5] 43)).push (.cells #[sv [],iv 0,nilS,iv 0,nilS,nilS,nilS,nilS] 43):=⟨_,rfl⟩
 have f0:Fr [] H G:=by rw [hG]; exact Fr.push.trans Fr.push
 have bP:Blk G H.size 43 [sv q.name,iv q.copy,.slice x1 q.locals.length c1,iv b.rest.length,.slice x2 b.rest.length c2,.slice x3 b.edges.length c3,.slice x4 q.names.length c4,.slice x5 q.vars.length c5]:=by rw [hG]; exact Blk.push (Blk.new rfl) _
 have bZ:Blk G (H.size + 1) 43 [sv [],iv 0,nilS,iv 0,nilS,nilS,nilS,nilS]:=by
  rw [hG]
  have:=Blk.new (H:=H.push (.cells #[sv q.name,iv q.copy,.slice x1 q.locals.length c1,iv b.rest.length,.slice x2 b.rest.length c2,.slice x3 b.edges.length c3,.slice x4 q.names.length c4,.slice x5 q.vars.length c5] 43)) (t:=43) (vs:=[sv [],iv 0,nilS,iv 0,nilS,nilS,nilS,nilS]) rfl
  rwa [Array.size_push] at this
 obtain ⟨G2,hG2⟩:∃ X,X=G.push (.cells #[] 45):=⟨_,rfl⟩
 have f2:Fr [] G G2:=by rw [hG2]; exact Fr.push
 have f02:=f0.trans f2
 have bP2:=f2.blk bP (by simp)
 have bZ2:=f2.blk bZ (by simp)
 have k5:=bP2.cell 5
 simp only [gS,gZ] at k5
 have zG:G.size=H.size + 2:=by rw [hG]; simp
 have zG2:G2.size=G.size + 1:=by rw [hG2]; simp
 have hrd:=x.r.ed.frame (Keeps.of_fr f02 (by simp))
 rw [e3,x.e] at hrd
 have hrr:(withB q b).edges=b.edges:=rfl
 rw [hrr] at hrd
 obtain ⟨sa,sn,sc,se,sl,ss⟩:=rd_src hrd
 have hsn:sn=b.edges.length:=by simp only [Value.slice.injEq] at se; exact se.2.1.symm
 subst hsn
 refine callF_of Tryz.func39 rfl Tryz.ntmps39 Tryz.results39 (by decide) rfl ?_
 simp (disch:=omega) only [go_sem,↓cB,dB]
 try rw [← hG]
 try (simp (disch:=omega) only [go_sem,↓cB,dB])
 try rw [← hG2]
 try (simp (disch:=omega) only [go_sem,↓cB,dB,k5])
 refine app_copy (n:=b.edges.length) (b0:=G.size) T.el40 rfl (by rw [hG2]; exact Blk.new rfl) rfl ss (ed_one b.edges) sl (by omega) ?_
 rintro v1 H1 ⟨g1,g2,g3,aa,cc,rfl⟩
 have g2:Fr [G.size] G2 H1:=g2
 have g3:∀ y ∈ own (.slice aa b.edges.length cc),y=G.size∨G2.size≤y:=g3
 have zH1:=g2.size
 have bP3:=g2.blk bP2 (by simp; omega)
 have bZ3:=g2.blk bZ2 (by simp; omega)
 refine ⟨?_⟩
 try (simp (disch:=omega) only [go_sem,↓cB,dB])
 refine app_lit (n:=1) (new:=[iv fr,iv to',iv d,iv ex,iv v,iv c,.bool false,iv node]) T.el40 rfl g1 (one_all rfl) rfl (by intro a' l c e; simp only [Value.slice.injEq] at e; obtain ⟨_,rfl,_⟩:=e; omega) ?_
 intro v2 H3 g1' g2' g3' g4'
 refine Hush.out ?_
 obtain ⟨ab,cb,rfl⟩:=g4' _ _ _ rfl
 have zH3:=g2'.size
 have hno:∀ y,y < G.size→y ∉ own (.slice aa b.edges.length cc):=by
  intro y hy h
  rcases g3 y h with h | h <;> omega
 have hnw:∀ y ∈ own (.slice ab (b.edges.length + 1) cb),G.size≤y:=by
  intro y h
  rcases g3' y h with h | h
  ·rcases g3 y h with h | h <;> omega
  ·omega
 have bP4:=g2'.blk bP3 (hno _ (by omega))
 have bZ4:=g2'.blk bZ3 (hno _ (by omega))
 have hw4:=bP4.wr (i:=5) (by simp) (.slice ab (b.edges.length + 1) cb)
 have bP5:=bP4.set 5 (.slice ab (b.edges.length + 1) cb)
 obtain ⟨G4,hG4⟩:∃ X,X=setH H3 ⟨H.size,5,none⟩ (.slice ab (b.edges.length + 1) cb):=⟨_,rfl⟩
 rw [← hG4] at hw4 bP5
 have f4:Fr [H.size] H3 G4:=by rw [hG4]; exact Fr.set (by simp)
 have bZ5:=f4.blk bZ4 (by simp)
 simp only [List.set_cons_succ,List.set_cons_zero] at bP5
 have ld:=bP5.cells0
 simp only [List.length_cons,List.length_nil] at ld
 obtain ⟨G5,e6,bZ6,f5⟩:=store_blk (P:=Tryz.prog) (ty:=43) (new:=[sv q.name,iv q.copy,.slice x1 q.locals.length c1,iv b.rest.length,.slice x2 b.rest.length c2,.slice ab (b.edges.length + 1) cb,.slice x4 q.names.length c4,.slice x5 q.vars.length c5]) bZ5 rfl T.size43 (one_all rfl)
 have ld6:=bZ6.cells0
 simp only [List.length_cons,List.length_nil] at ld6
 have fH3:Fr [] H H3:=by
  refine ⟨by have:=f02.size; omega,fun y h1 _=>?_⟩
  have:=f02.size
  rw [g2'.same y (by omega) (hno y (by omega)),g2.same y (by omega) (by simp; omega),f02.same y h1 (by simp)]
 have fin5:Fr [] H G5:=by
  refine ⟨by have:=f4.size; have:=f5.size; have:=fH3.size; omega,fun y h1 _=>?_⟩
  have:=fH3.size; have:=f4.size
  rw [f5.same y (by omega) (by simp; omega),f4.same y (by omega) (by simp; omega),fH3.same y h1 (by simp)]
 have vF:Vec G5 45 8 (.slice ab (b.edges.length + 1) cb) (b.edges.flatMap edC ++ [iv fr,iv to',iv d,iv ex,iv v,iv c,.bool false,iv node]):=(g1'.frame f4 (by intro y hy e; simp only [List.mem_singleton] at e; subst e; have:=hnw _ hy; omega)).frame f5 (by intro y hy e; simp only [List.mem_singleton] at e; subst e; have:=hnw _ hy; omega)
 have vF':Vec G5 45 8 (.slice ab (b.edges.length + 1) cb) ((putM b ⟨fr,to',d,ex,v,c,false,node⟩).edges.flatMap edC):=by
  have e:(putM b ⟨fr,to',d,ex,v,c,false,node⟩).edges.flatMap edC=b.edges.flatMap edC ++ [iv fr,iv to',iv d,iv ex,iv v,iv c,.bool false,iv node]:=by simp [putM,edC]
  rw [e]; exact vF
 have hap:=(x.r.frame (Keeps.of_fr fin5 (by simp))).mono (S':=fun y=>S y∨H.size≤y) (fun y h _=>.inl h)
 refine ⟨?_⟩
 try (simp (disch:=omega) only [go_sem,↓cB,dB,hw4,ld,e6,ld6,Array.size_push])
 refine fin ⟨fin5,⟨withB q (putM b ⟨fr,to',d,ex,v,c,false,node⟩),a.lv,a.rv,.slice ab (b.edges.length + 1) cb,a.nv,a.xv⟩,?_,⟨⟨⟨?_,?_,?_,?_,?_⟩,rfl⟩,vF',fun y hy=>by have:=hnw y hy; omega,?_⟩⟩
 ·unfold apC; simp only [e1,e2,e4,e5,withB,putM]
 ·have:=hap.lo; rw [x.e] at this; exact this
 ·have:=hap.re; rw [x.e] at this; exact this
 ·exact Rd.of_vec (S:=fun y=>S y∨H.size≤y) vF' (fun y hy=>.inr (by have:=hnw y hy; omega))
 ·have:=hap.nm; rw [x.e] at this; exact this
 ·have:=hap.xs; rw [x.e] at this; exact this
 ·have hmo:=(x.r.mono (S':=fun y=>(S y∨H.size≤y)∧y ∉ own (.slice ab (b.edges.length + 1) cb)) (fun y h hl=>⟨.inl h,fun hy=>by have:=hnw y hy; omega⟩))
  have hmo2:=hmo.frame (Keeps.of_fr fin5 (by simp))
  exact ⟨by have:=hmo2.lo; rw [x.e] at this; exact this,by have:=hmo2.re; rw [x.e] at this; exact this,by have:=hmo2.nm; rw [x.e] at this; exact this,by have:=hmo2.xs; rw [x.e] at this; exact this⟩
end
end Go.Proofs.YtmihefbdghjeoaaGreat
namespace Go.Proofs.YtmihefbdghjeoaaGreat
open Go.HL
set_option maxRecDepth 10000
section
variable {H:Heap} {S:Nat→Prop} {v:Value} {ws:List Str} {s:Str}
theorem find_at {i:Nat} (hi:i < ws.length) (h1:ws[i]?=some s) (h2:∀ j,j < i→¬ ws.getD j []=s):ws.findIdx (· == s)=i:=by
 have hp:(ws[i] == s)=true:=by
  rw [List.getElem?_eq_getElem hi,Option.some.injEq] at h1
  simp [h1]
 rw [List.findIdx_eq hi]
 refine ⟨hp,fun j hj=>?_⟩
 have:=h2 j hj
 rw [List.getD_eq_getElem?_getD,List.getElem?_eq_getElem (show j < ws.length by omega)] at this
 simpa using this
theorem r13find_spec (h:Rd H S 1 v (ws.map sv)) (hl:ws.length≤1000000) (hin:inL ws s=true):CallF Tryz.prog 63 [v,sv s] H (fun r H'=>H=H'∧r=iv (ws.findIdx (· == s):Nat)) NoP:=by
 obtain ⟨av,cv,rfl⟩:=h.len1
 refine callF_of Tryz.func63 rfl Tryz.ntmps63 Tryz.results63 (by decide) rfl ?_
 simp (disch:=omega) only [go_sem,↓cB,dB]
 refine loop_by (fun k ρ H2=>∃ i:Nat,k=ws.length - i∧i≤ws.length∧(∀ j,j < i→¬ ws.getD j []=s)∧H=H2∧(ρ.get 0=.slice av ws.length cv∧ρ.get 1=sv s∧ρ.get 5=iv i∧ρ.ds = [])) (k:=ws.length) ?_ ?_
 ·exact ⟨0,rfl,by omega,by omega,rfl,by simp (disch:=omega) only [go_sem,↓cB,dB]⟩
 ·rintro k ρ _ ⟨i,rfl,hi,hall,rfl,r0,r1,r5,rd⟩
  have hxi:(i:Int) + 1=((i + 1:Nat):Int):=by omega
  by_cases hin':i < ws.length
  ·have hg:=getD_some (d:=([]:Str)) hin'
   obtain ⟨b,o,cap,q1,-,q2⟩:=h.at1 hg
   simp only [Value.slice.injEq,true_and] at q1
   obtain ⟨rfl,rfl⟩:=q1
   by_cases hs:ws.getD i []=s
   ·have hd:decide (ws.getD i []=s)=true:=by simpa using hs
    simp (disch:=omega) only [go_sem,↓cB,dB,r0,r1,r5,rd,q2,hd]
    exact fin ⟨rfl,by rw [find_at hin' (by rw [hg,hs]) hall]⟩
   ·have hd:decide (ws.getD i []=s)=false:=by simpa using hs
    simp (disch:=omega) only [go_sem,↓cB,dB,r0,r1,r5,rd,q2,hd]
    refine fin ⟨ws.length - (i + 1),by omega,i + 1,rfl,by omega,?_,rfl,by simp (disch:=omega) only [go_sem,↓cB,dB,r0,r1,r5,rd,hxi]⟩
    intro j hj
    by_cases e:j=i
    ·subst e; exact hs
    ·exact hall j (by omega)
  ·obtain rfl:i=ws.length:=by omega
   rw [inL_false hall] at hin
   simp at hin
end
section
variable {H:Heap} {S:Nat→Prop} {w:MV} {l:List Nd} {m:Mo} {cs:List Ch} {s:Str}
structure MT (H:Heap) (S:Nat→Prop) (w:MV) (l:List Nd) (cs:List Ch) (g:Int) (d:Bool):Prop where
 nl:NL H S w.tv l
 ch:Rd H S 5 w.cv (cs.flatMap chC)
 va:∃ a n c,w.va=.slice a n c
 pv:∃ a n c,w.pv=.slice a n c
 sa:∃ a n c,w.sa=.slice a n c
def mtC (w:MV) (g:Int) (d:Bool):List Value:=[w.tv,iv g,w.cv,w.va,w.pv,w.sa,.bool d]
theorem MT.grow {H':Heap} {g:Int} {d:Bool} (x:MT H S w l cs g d) (f:Fr [] H H'):MT H' S w l cs g d:=⟨x.nl.grow f,x.ch.frame (Keeps.of_fr f (by simp)),x.va,x.pv,x.sa⟩
theorem MT.frame {H':Heap} {g:Int} {d:Bool} (x:MT H S w l cs g d) (f:Keeps S H H'):MT H' S w l cs g d:=⟨x.nl.frame f,x.ch.frame f,x.va,x.pv,x.sa⟩
theorem MT.cells {g:Int} {d:Bool} (x:MT H S w l cs g d):∃ a0 c0 a1 c1 a2 n2 c2 a3 n3 c3 a4 n4 c4,w.tv=.slice a0 l.length c0∧w.cv=.slice a1 cs.length c1∧mtC w g d = [.slice a0 l.length c0,iv g,.slice a1 cs.length c1,.slice a2 n2 c2,.slice a3 n3 c3,.slice a4 n4 c4,.bool d]:=by
 obtain ⟨a0,c0,e0⟩:=x.nl.len
 obtain ⟨a1,c1,e1⟩:=x.ch.len chL (by decide)
 obtain ⟨a2,n2,c2,e2⟩:=x.va
 obtain ⟨a3,n3,c3,e3⟩:=x.pv
 obtain ⟨a4,n4,c4,e4⟩:=x.sa
 exact ⟨a0,c0,a1,c1,a2,n2,c2,a3,n3,c3,a4,n4,c4,e0,e1,by unfold mtC; rw [e0,e1,e2,e3,e4]⟩
theorem r13channel_spec {g:Int} {d:Bool} (x:MT H S w l cs g d) (hl:cs.length≤1000000) (hin:inL (cs.map Ch.name) s=true):CallF Tryz.prog 64 [.agg (mtC w g d).toArray,sv s] H (fun r H'=>Fr [] H H'∧r=iv ((cs.map Ch.name).findIdx (· == s):Nat)) NoP:=by
 obtain ⟨a0,c0,a1,c1,a2,n2,c2,a3,n3,c3,a4,n4,c4,e0,e1,hmc⟩:=x.cells
 rw [hmc]
 obtain ⟨G,hG⟩:∃ G,G=H.push (.cells #[.slice a0 l.length c0,iv g,.slice a1 cs.length c1,.slice a2 n2 c2,.slice a3 n3 c3,.slice a4 n4 c4,.bool d] 30):=⟨_,rfl⟩
 have f0:Fr [] H G:=by rw [hG]; exact Fr.push
 have bP:Blk G H.size 30 [.slice a0 l.length c0,iv g,.slice a1 cs.length c1,.slice a2 n2 c2,.slice a3 n3 c3,.slice a4 n4 c4,.bool d]:=by rw [hG]; exact Blk.new rfl
 have k2:=bP.cell 2
 simp only [gS,gZ] at k2
 have xG:=x.grow f0
 refine callF_of Tryz.func64 rfl Tryz.ntmps64 Tryz.results64 (by decide) rfl ?_
 simp (disch:=omega) only [go_sem,↓cB,dB]
 try rw [← hG]
 refine loop_by (fun k ρ H2=>∃ i:Nat,k=cs.length - i∧i≤cs.length∧(∀ j,j < i→¬ (cs.map Ch.name).getD j []=s)∧G=H2∧(ρ.get 1=sv s∧ρ.get 2=hp H.size∧ρ.get 5=iv i∧ρ.ds = [])) (k:=cs.length) ?_ ?_
 ·exact ⟨0,rfl,by omega,by omega,rfl,by simp (disch:=omega) only [go_sem,↓cB,dB]⟩
 ·rintro k ρ _ ⟨i,rfl,hi,hall,rfl,r1,r2,r5,rd⟩
  have hxi:(i:Int) + 1=((i + 1:Nat):Int):=by omega
  by_cases hin':i < cs.length
  ·obtain ⟨y,hy⟩:∃ y,cs[i]?=some y:=⟨_,List.getElem?_eq_getElem hin'⟩
   obtain ⟨b,o,cap,q1,-,q2,q3⟩:=xG.ch.row chL (by decide) hy
   rw [e1] at q1
   simp only [Value.slice.injEq,true_and] at q1
   obtain ⟨rfl,rfl⟩:=q1
   have k0:=q3 0 _ rfl
   simp only [Nat.add_zero] at k0
   have hg:(cs.map Ch.name)[i]?=some y.name:=by rw [List.getElem?_map,hy]; rfl
   have hgd:(cs.map Ch.name).getD i []=y.name:=by rw [List.getD_eq_getElem?_getD,hg]; rfl
   by_cases hs:y.name=s
   ·have hd:decide (y.name=s)=true:=by simpa using hs
    simp (disch:=omega) only [go_sem,↓cB,dB,r1,r2,r5,rd,k2,k0,hd]
    exact fin ⟨f0,by rw [find_at (i:=i) (by simpa using hin') (by rw [hg,hs]) hall]⟩
   ·have hd:decide (y.name=s)=false:=by simpa using hs
    simp (disch:=omega) only [go_sem,↓cB,dB,r1,r2,r5,rd,k2,k0,hd]
    refine fin ⟨cs.length - (i + 1),by omega,i + 1,rfl,by omega,?_,rfl,by simp (disch:=omega) only [go_sem,↓cB,dB,r1,r2,r5,rd,hxi]⟩
    intro j hj
    by_cases e:j=i
    ·subst e; rw [hgd]; exact hs
    ·exact hall j (by omega)
  ·obtain rfl:i=cs.length:=by omega
   rw [inL_false (fun j hj=>hall j (by simpa using hj))] at hin
   simp at hin
end
section
variable {H H':Heap} {S:Nat→Prop} {q:Pr} {b:Bs} {a:AP}
set_option maxHeartbeats 2000000 in
theorem r13rest_spec (x:PV H S q b a) (hl:b.rest.length≤1000000) {f:Nat} (hf:f < b.rest.length) {y:Int} (hy:y=0∨y=1):CallF Tryz.prog 65 [.agg (apC a).toArray,iv f,iv y] H (fun r H'=>Fr [] H H'∧∃ a',r=.agg (apC a').toArray∧PV H' (fun y=>S y∨H.size≤y) q (idlM b f y) a'∧a'.ev=a.ev) NoP:=by
 obtain ⟨x1,c1,x2,c2,x3,c3,x4,c4,x5,c5,e1,e2,e3,e4,e5,hac⟩:=x.cells
 rw [hac]
 obtain ⟨G,hG⟩:∃ G,G=(H.push (.cells #[sv q.name,iv q.copy,.slice x1 q.locals.length c1,iv b.rest.length,.slice x2 b.rest.length c2,.slice x3 b.edges.length c3,.slice x4 q.names.length c4,.slice x5 q.vars.length c5] 43)).push (.cells #[sv [],iv 0,nilS,iv 0,nilS,nilS,nilS,nilS] 43):=⟨_,rfl⟩
 have f0:Fr [] H G:=by rw [hG]; exact Fr.push.trans Fr.push
 have bP:Blk G H.size 43 [sv q.name,iv q.copy,.slice x1 q.locals.length c1,iv b.rest.length,.slice x2 b.rest.length c2,.slice x3 b.edges.length c3,.slice x4 q.names.length c4,.slice x5 q.vars.length c5]:=by rw [hG]; exact Blk.push (Blk.new rfl) _
 have bZ:Blk G (H.size + 1) 43 [sv [],iv 0,nilS,iv 0,nilS,nilS,nilS,nilS]:=by
  rw [hG]
  have:=Blk.new (H:=H.push (.cells #[sv q.name,iv q.copy,.slice x1 q.locals.length c1,iv b.rest.length,.slice x2 b.rest.length c2,.slice x3 b.edges.length c3,.slice x4 q.names.length c4,.slice x5 q.vars.length c5] 43)) (t:=43) (vs:=[sv [],iv 0,nilS,iv 0,nilS,nilS,nilS,nilS]) rfl
  rwa [Array.size_push] at this
 obtain ⟨G2,hG2⟩:∃ X,X=G.push (.cells #[] 4):=⟨_,rfl⟩
 have f2:Fr [] G G2:=by rw [hG2]; exact Fr.push
 have f02:=f0.trans f2
 have bP2:=f2.blk bP (by simp)
 have bZ2:=f2.blk bZ (by simp)
 have k4:=bP2.cell 4
 simp only [gS,gZ] at k4
 have zG:G.size=H.size + 2:=by rw [hG]; simp
 have zG2:G2.size=G.size + 1:=by rw [hG2]; simp
 have hrd:=x.r.re.frame (Keeps.of_fr f02 (by simp))
 rw [e2,x.e] at hrd
 have hrr:(withB q b).rest=b.rest:=rfl
 rw [hrr] at hrd
 obtain ⟨sa,sn,sc,se,sl,ss⟩:=rd_src hrd
 have hsn:sn=b.rest.length:=by simp only [Value.slice.injEq] at se; exact se.2.1.symm
 subst hsn
 have hone:∀ u ∈ b.rest.map Value.bool,oneC u=true:=by intro u hu; obtain ⟨y,-,rfl⟩:=List.mem_map.1 hu; rfl
 refine callF_of Tryz.func65 rfl Tryz.ntmps65 Tryz.results65 (by decide) rfl ?_
 simp (disch:=omega) only [go_sem,↓cB,dB]
 try rw [← hG]
 try (simp (disch:=omega) only [go_sem,↓cB,dB])
 try rw [← hG2]
 try (simp (disch:=omega) only [go_sem,↓cB,dB,k4])
 refine app_copy (n:=b.rest.length) (b0:=G.size) T.el39 rfl (by rw [hG2]; exact Blk.new rfl) rfl ss hone sl (by omega) ?_
 rintro v1 H1 ⟨g1,g2,g3,aa,cc,rfl⟩
 have g2:Fr [G.size] G2 H1:=g2
 have g3:∀ y ∈ own (.slice aa b.rest.length cc),y=G.size∨G2.size≤y:=g3
 have zH1:=g2.size
 have bP3:=g2.blk bP2 (by simp; omega)
 have bZ3:=g2.blk bZ2 (by simp; omega)
 have hnw:∀ y ∈ own (.slice aa b.rest.length cc),G.size≤y:=by
  intro y h
  rcases g3 y h with h | h <;> omega
 have fH1:Fr [] H H1:=by
  refine ⟨by have:=f02.size; omega,fun y h1 _=>?_⟩
  have:=f02.size
  rw [g2.same y (by omega) (by simp; omega),f02.same y h1 (by simp)]
 have tail:∀ (X:Heap) (rs:List Bool),Vec X 4 1 (.slice aa b.rest.length cc) (rs.map .bool)→rs.length=b.rest.length→Fr [] H X→Blk X H.size 43 [sv q.name,iv q.copy,.slice x1 q.locals.length c1,iv b.rest.length,.slice x2 b.rest.length c2,.slice x3 b.edges.length c3,.slice x4 q.names.length c4,.slice x5 q.vars.length c5] →
   Blk X (H.size + 1) 43 [sv [],iv 0,nilS,iv 0,nilS,nilS,nilS,nilS]→∃ X4 X5,wr X ⟨H.size,4,none⟩ (.slice aa b.rest.length cc)=some X4∧cellsH (cellH X4) ⟨H.size,0,none⟩ 0 8=some [sv q.name,iv q.copy,.slice x1 q.locals.length c1,iv b.rest.length,.slice aa b.rest.length cc,.slice x3 b.edges.length c3,.slice x4 q.names.length c4,.slice x5 q.vars.length c5] ∧
    storeA Tryz.prog X4 43 ⟨H.size + 1,0,none⟩ (.agg #[sv q.name,iv q.copy,.slice x1 q.locals.length c1,iv b.rest.length,.slice aa b.rest.length cc,.slice x3 b.edges.length c3,.slice x4 q.names.length c4,.slice x5 q.vars.length c5])=some X5 ∧
    cellsH (cellH X5) ⟨H.size + 1,0,none⟩ 0 8=some [sv q.name,iv q.copy,.slice x1 q.locals.length c1,iv b.rest.length,.slice aa b.rest.length cc,.slice x3 b.edges.length c3,.slice x4 q.names.length c4,.slice x5 q.vars.length c5] ∧
    Fr [] H X5∧∃ a',apC a' = [sv q.name,iv q.copy,.slice x1 q.locals.length c1,iv b.rest.length,.slice aa b.rest.length cc,.slice x3 b.edges.length c3,.slice x4 q.names.length c4,.slice x5 q.vars.length c5]∧PV X5 (fun y=>S y∨H.size≤y) q { b with rest:=rs } a'∧a'.ev=a.ev:=by
  intro X rs vX hrs fX bX bY
  have hw4:=bX.wr (i:=4) (by simp) (.slice aa b.rest.length cc)
  have bX4:=bX.set 4 (.slice aa b.rest.length cc)
  obtain ⟨X4,hX4⟩:∃ Y,Y=setH X ⟨H.size,4,none⟩ (.slice aa b.rest.length cc):=⟨_,rfl⟩
  rw [← hX4] at hw4 bX4
  have f4:Fr [H.size] X X4:=by rw [hX4]; exact Fr.set (by simp)
  have bY4:=f4.blk bY (by simp)
  simp only [List.set_cons_succ,List.set_cons_zero] at bX4
  have ld:=bX4.cells0
  obtain ⟨X5,e6,bY5,f5⟩:=store_blk (P:=Tryz.prog) (ty:=43) (new:=[sv q.name,iv q.copy,.slice x1 q.locals.length c1,iv b.rest.length,.slice aa b.rest.length cc,.slice x3 b.edges.length c3,.slice x4 q.names.length c4,.slice x5 q.vars.length c5]) bY4 rfl T.size43 (one_all rfl)
  have ld6:=bY5.cells0
  have fin5:Fr [] H X5:=by
   refine ⟨by have:=f4.size; have:=f5.size; have:=fX.size; omega,fun y h1 _=>?_⟩
   have:=fX.size; have:=f4.size
   rw [f5.same y (by omega) (by simp; omega),f4.same y (by omega) (by simp; omega),fX.same y h1 (by simp)]
  have vF:=(vX.frame f4 (by intro y hy e; simp only [List.mem_singleton] at e; subst e; have:=hnw _ hy; omega)).frame f5 (by intro y hy e; simp only [List.mem_singleton] at e; subst e; have:=hnw _ hy; omega)
  have hap:=(x.r.frame (Keeps.of_fr fin5 (by simp))).mono (S':=fun y=>S y∨H.size≤y) (fun y h _=>.inl h)
  refine ⟨X4,X5,hw4,ld,e6,ld6,fin5,⟨withB q { b with rest:=rs },a.lv,.slice aa b.rest.length cc,a.ev,a.nv,a.xv⟩,?_,⟨⟨?_,?_,?_,?_,?_⟩,rfl⟩,rfl⟩
  ·unfold apC; simp only [e1,e3,e4,e5,withB,hrs]
  ·have:=hap.lo; rw [x.e] at this; exact this
  ·exact Rd.of_vec (S:=fun y=>S y∨H.size≤y) vF (fun y hy=>.inr (by have:=hnw y hy; omega))
  ·have:=hap.ed; rw [x.e] at this; exact this
  ·have:=hap.nm; rw [x.e] at this; exact this
  ·have:=hap.xs; rw [x.e] at this; exact this
 rcases hy with rfl | rfl
 ·obtain ⟨X4,X5,w4,l4,s5,l5,f5,a',ha1,ha2,ha3⟩:=tail H1 b.rest g1 rfl fH1 bP3 bZ3
  refine ⟨?_⟩
  try (simp (disch:=omega) only [go_sem,↓cB,dB,w4,l4,s5,l5,Array.size_push])
  exact fin ⟨f5,a',by rw [ha1],by unfold idlM; rw [if_pos rfl]; exact ha2,ha3⟩
 ·obtain ⟨vb,vo,vn,vc,e7,e8,w7,v7,f7⟩:=Vec.setc g1 (i:=f) (by simpa using hf) (.bool true)
  have hf':(f:Int) < b.rest.length:=by omega
  simp only [Value.slice.injEq] at e7
  obtain ⟨rfl,-,-⟩:=e7
  obtain ⟨X,hX⟩:∃ X,X=setH H1 ⟨vb,vo + f,none⟩ (.bool true):=⟨_,rfl⟩
  rw [← hX] at w7 v7 f7
  have v7':Vec X 4 1 (.slice (some ⟨vb,vo,none⟩) b.rest.length cc) ((b.rest.set f true).map .bool):=by
   have e:(b.rest.set f true).map Value.bool=(b.rest.map Value.bool).set f (.bool true):=by rw [List.map_set]
   rw [e]; exact v7
  have hno:∀ y,y < G.size→y ∉ own (.slice (some ⟨vb,vo,none⟩) b.rest.length cc):=fun y hy h=>by have:=hnw y h; omega
  have fX:Fr [] H X:=by
   refine ⟨by have:=f7.size; have:=fH1.size; omega,fun y h1 _=>?_⟩
   have:=fH1.size
   rw [f7.same y (by omega) (hno y (by omega)),fH1.same y h1 (by simp)]
  obtain ⟨X4,X5,w4,l4,s5,l5,f5,a',ha1,ha2,ha3⟩:=tail X (b.rest.set f true) v7' (by simp) fX (f7.blk bP3 (hno _ (by omega))) (f7.blk bZ3 (hno _ (by omega)))
  refine ⟨?_⟩
  try (simp (disch:=omega) only [go_sem,↓cB,dB,w4,l4,s5,l5,w7,hf',Array.size_push])
  exact fin ⟨f5,a',by rw [ha1],by unfold idlM; rw [if_neg (by omega),Int.toNat_natCast]; exact ha2,ha3⟩
end
end Go.Proofs.YtmihefbdghjeoaaGreat
namespace Go.Proofs.YtmihefbdghjeoaaGreat
open Go.HL
set_option maxRecDepth 10000
def zP:List Value:=[sv [],iv 0,nilS,iv 0,nilS,nilS,nilS,nilS]
structure RM (H0 H:Heap) (S U:Nat→Prop) (mb pb zb:Nat) (w:MV) (l:List Nd) (cs:List Ch) (g:Int) (d:Bool) (q:Pr) (b:Bs) (a:AP):Prop where
 f:Fr [] H0 H
 bm:Blk H mb 30 (mtC w g d)
 bp:Blk H pb 43 (apC a)
 bz:Blk H zb 43 zP
 ne:mb ≠ pb∧mb ≠ zb∧pb ≠ zb
 ge:H0.size≤mb∧H0.size≤pb∧H0.size≤zb
 hS:∀ y,S y→y < H0.size
 hT:∀ y,U y→y ≠ mb∧y ≠ pb∧y ≠ zb
 hTS:∀ y,U y→S y∨H0.size≤y
 hSU:∀ y,S y→U y
 mt:MT H S w l cs g d
 pv:PV H U q b a
section
variable {H0 H H':Heap} {S U:Nat→Prop} {mb pb zb:Nat} {w:MV} {l:List Nd} {cs:List Ch} {g:Int} {d:Bool} {q:Pr} {b b':Bs} {a a':AP}
theorem RM.grow (x:RM H0 H S U mb pb zb w l cs g d q b a) (f:Fr [] H H'):RM H0 H' S U mb pb zb w l cs g d q b a :=
 ⟨x.f.trans f,f.blk x.bm (by simp),f.blk x.bp (by simp),f.blk x.bz (by simp),x.ne,x.ge,x.hS,x.hT,x.hTS,x.hSU,x.mt.grow f,x.pv.grow f⟩
theorem RM.ldm (x:RM H0 H S U mb pb zb w l cs g d q b a):cellsH (cellH H) ⟨mb,0,none⟩ 0 7=some (mtC w g d):=x.bm.cells0
theorem RM.ldp (x:RM H0 H S U mb pb zb w l cs g d q b a):cellsH (cellH H) ⟨pb,0,none⟩ 0 8=some (apC a):=x.bp.cells0
theorem apC_one (x:PV H S q b a):∀ u ∈ apC a,oneC u=true:=by
 obtain ⟨x1,c1,x2,c2,x3,c3,x4,c4,x5,c5,-,-,-,-,-,e⟩:=x.cells
 rw [e]; exact one_all rfl
structure Got (H H':Heap) (U:Nat→Prop) (q:Pr) (b':Bs) (a':AP):Prop where
 f:Fr [] H H'
 pv:PV H' (fun y=>U y∨H.size≤y) q b' a'
theorem RM.set (x:RM H0 H S U mb pb zb w l cs g d q b a) (y:Got H H' U q b' a') :
  ∃ X,storeA Tryz.prog H' 43 ⟨pb,0,none⟩ (.agg (apC a').toArray)=some X∧RM H0 X S (fun y=>U y∨H.size≤y) mb pb zb w l cs g d q b' a'∧Fr [pb] H' X:=by
 have x':=x.grow y.f
 obtain ⟨X,e1,e2,e3⟩:=store_blk (P:=Tryz.prog) (ty:=43) (new:=apC a') x'.bp rfl T.size43 (apC_one y.pv)
 have hlm:=x.bm.lt
 have hlp:=x.bp.lt
 have hlz:=x.bz.lt
 have hge:=x.ge
 have hne:=x.ne
 refine ⟨X,e1,⟨?_,e3.blk x'.bm (by simp; exact hne.1),e2,e3.blk x'.bz (by simp; exact fun h=>hne.2.2 h.symm),hne,hge,x.hS,?_,?_,fun z hz=>.inl (x.hSU z hz),?_,?_⟩,e3⟩
 ·refine ⟨by have:=e3.size; have:=x'.f.size; omega,fun z h1 h2=>?_⟩
  have:=x'.f.size
  rw [e3.same z (by omega) (by simp; omega),x'.f.same z h1 h2]
 ·intro z hz
  rcases hz with h | h
  ·exact x.hT z h
  ·omega
 ·intro z hz
  rcases hz with h | h
  ·exact x.hTS z h
  ·have:=x.f.size; exact .inr (by omega)
 ·exact x'.mt.frame (Keeps.of_fr e3 (fun z hz=>by have:=x.hS z hz; simp; omega))
 ·refine y.pv.frame (Keeps.of_fr e3 (fun z hz=>?_))
  rcases hz with h | h
  ·have:=(x.hT z h).2.1; simpa using this
  ·simp; omega
theorem RM.ret (x:RM H0 H S U mb pb zb w l cs g d q b a) (f:Fr [] H H') (y:PW H H' U q b' a') :
  ∃ X,storeA Tryz.prog H' 43 ⟨zb,0,none⟩ (.agg (apC a').toArray)=some X∧cellsH (cellH X) ⟨zb,0,none⟩ 0 8=some (apC a')∧Fr [] H0 X∧PW H0 X S q b' a':=by
 have x':=x.grow f
 obtain ⟨X,e1,e2,e3⟩:=store_blk (P:=Tryz.prog) (ty:=43) (new:=apC a') x'.bz rfl T.size43 (apC_one y.v)
 have hlz:=x.bz.lt
 have hge:=x.ge
 have hfs:=x.f.size
 have hk:Keeps (fun y=>U y∨H.size≤y) H' X:=Keeps.of_fr e3 (fun z hz=>by
  rcases hz with h | h
  ·have:=(x.hT z h).2.2; simpa using this
  ·simp; omega)
 have hu:∀ z,(U z∨H.size≤z)→S z∨H0.size≤z:=by
  intro z hz
  rcases hz with h | h
  ·exact x.hTS z h
  ·exact .inr (by omega)
 refine ⟨X,e1,e2.cells0,?_,⟨(y.v.frame hk).mono (fun z hz _=>?_),y.ve.frame e3 (fun z hz=>by have:=y.nw z hz; simp; omega),fun z hz=>by have:=y.nw z hz; omega,((y.ot.frame (fun z hz=>hk z hz.1)).mono (fun z hz _=>⟨hu z hz.1,hz.2⟩))⟩⟩
 ·refine ⟨by have:=e3.size; have:=x'.f.size; omega,fun z h1 h2=>?_⟩
  have:=x'.f.size
  rw [e3.same z (by omega) (by simp; omega),x'.f.same z h1 h2]
 ·exact hu z hz
theorem RM.ret0 (x:RM H0 H S U mb pb zb w l cs g d q b a) (ve:Vec H 45 8 a.ev (b.edges.flatMap edC)) (nw:∀ y ∈ own a.ev,H0.size≤y∧y ≠ zb) (ot:APO H (fun y=>U y∧y ∉ own a.ev) a) :
  ∃ X,storeA Tryz.prog H 43 ⟨zb,0,none⟩ (.agg (apC a).toArray)=some X∧cellsH (cellH X) ⟨zb,0,none⟩ 0 8=some (apC a)∧Fr [] H0 X∧PW H0 X S q b a:=by
 obtain ⟨X,e1,e2,e3⟩:=store_blk (P:=Tryz.prog) (ty:=43) (new:=apC a) x.bz rfl T.size43 (apC_one x.pv)
 have hlz:=x.bz.lt
 have hge:=x.ge
 have hfs:=x.f.size
 have hk:Keeps U H X:=Keeps.of_fr e3 (fun z hz=>by
  have:=(x.hT z hz).2.2; simpa using this)
 refine ⟨X,e1,e2.cells0,?_,⟨(x.pv.frame hk).mono (fun z hz _=>x.hTS z hz),ve.frame e3 (fun z hz=>by have:=(nw z hz).2; simpa using this),fun z hz=>(nw z hz).1,(ot.frame (fun z hz=>hk z hz.1)).mono (fun z hz _=>⟨x.hTS z hz.1,hz.2⟩)⟩⟩
 refine ⟨by have:=e3.size; have:=x.f.size; omega,fun z h1 h2=>?_⟩
 have:=x.f.size
 rw [e3.same z (by omega) (by simp; omega),x.f.same z h1 h2]
theorem RM.args (x:RM H0 H S U mb pb zb w l cs g d q b a):MT H (fun y=>U y∧y < H.size) w l cs g d∧PV H (fun y=>U y∧y < H.size) q b a:=by
 have:=x.f.size
 exact ⟨⟨x.mt.nl.mono (fun y hy hl=>⟨x.hSU y hy,hl⟩),x.mt.ch.mono (fun y hy hl=>⟨x.hSU y hy,hl⟩),x.mt.va,x.mt.pv,x.mt.sa⟩,x.pv.mono (fun y hy hl=>⟨hy,hl⟩)⟩
theorem PW.got (y:PW H H' (fun y=>U y∧y < H.size) q b' a') (f:Fr [] H H'):Got H H' U q b' a'∧PW H H' U q b' a':=by
 have h:PV H' (fun y=>U y∨H.size≤y) q b' a':=y.v.mono (fun z hz _=>hz.imp (fun h=>h.1) id)
 exact ⟨⟨f,h⟩,⟨h,y.ve,y.nw,y.ot.mono (fun z hz _=>⟨hz.1.imp (fun h=>h.1) id,hz.2⟩)⟩⟩
theorem RM.new (hm:MT H S w l cs g d) (hp:PV H S q b a) (hS:∀ y,S y→y < H.size) :
  RM H (((H.push (.cells (mtC w g d).toArray 30)).push (.cells (apC a).toArray 43)).push (.cells zP.toArray 43)) S S H.size (H.size + 1) (H.size + 2) w l cs g d q b a:=by
 obtain ⟨G1,h1⟩:∃ G,G=H.push (.cells (mtC w g d).toArray 30):=⟨_,rfl⟩
 obtain ⟨G2,h2⟩:∃ G,G=G1.push (.cells (apC a).toArray 43):=⟨_,rfl⟩
 obtain ⟨G3,h3⟩:∃ G,G=G2.push (.cells zP.toArray 43):=⟨_,rfl⟩
 have f1:Fr [] H G1:=by rw [h1]; exact Fr.push
 have f2:Fr [] G1 G2:=by rw [h2]; exact Fr.push
 have f3:Fr [] G2 G3:=by rw [h3]; exact Fr.push
 have z1:G1.size=H.size + 1:=by rw [h1]; simp
 have z2:G2.size=H.size + 2:=by rw [h2,Array.size_push,z1]
 have b1:Blk G1 H.size 30 (mtC w g d):=by rw [h1]; exact Blk.new rfl
 have b2:Blk G2 (H.size + 1) 43 (apC a):=by rw [← z1,h2]; exact Blk.new rfl
 have b3:Blk G3 (H.size + 2) 43 zP:=by rw [← z2,h3]; exact Blk.new rfl
 rw [← h1,← h2,← h3]
 have ff:=(f1.trans f2).trans f3
 exact ⟨ff,(f2.trans f3).blk b1 (by simp),f3.blk b2 (by simp),b3,by omega,by omega,hS,fun y hy=>by have:=hS y hy; omega,fun y hy=>.inl hy,fun y hy=>hy,hm.grow ff,hp.grow ff⟩
end
def rNm (q:Pr) (cs:List Ch):Nm:=⟨q.names,q.vars,cs.map Ch.name⟩
def SpR (l:List Nd) (cs:List Ch) (q:Pr) (g:Int) (d:Bool) (st:StF) (dk:Nat):Prop:=∀ {H:Heap} {S:Nat→Prop} {w:MV} {b:Bs} {a:AP} {i e f:Nat} {t:Int},MT H S w l cs g d→PV H S q b a→(∀ y,S y→y < H.size)→i < l.length→walkM l dk i=(e,true)→NmOk l (rNm q cs) i e→StK l i→f < b.rest.length→Room b (2 * (e - i)) →
 CallF Tryz.prog 40 [.agg (mtC w g d).toArray,.agg (apC a).toArray,iv i,iv f,iv t] H (fun r H'=>Fr [] H H'∧∃ a',r=.agg (apC a').toArray∧PW H H' S q (st i f t b) a') NoP
def SqR (l:List Nd) (cs:List Ch) (q:Pr) (g:Int) (d:Bool) (st:StF) (dk:Nat):Prop:=∀ (ks:List Int) {H:Heap} {S:Nat→Prop} {w:MV} {b:Bs} {a:AP} {kv:Value} {s e f:Nat} {node t:Int},MT H S w l cs g d→PV H S q b a→(∀ y,S y→y < H.size)→s≤l.length→walkK l (walkM l dk) ks s=(e,true)→NmOk l (rNm q cs) s e→(∀ k ∈ ks,StK l k.toNat) →
 Rd H S 1 kv (ks.map iv)→(∀ a n c,kv=.slice a n c→n≤c)→ks.length≤1000000→f < b.rest.length→Room b (2 * (e - s) + 1) →
 CallF Tryz.prog 20 [.agg (mtC w g d).toArray,.agg (apC a).toArray,kv,iv node,iv f,iv t] H (fun r H'=>Fr [] H H'∧∃ a',r=.agg (apC a').toArray∧PW H H' S q (seqM st node ks f t b) a') NoP
theorem pl_lens {b:Bs}:(plM b).rest.length=b.rest.length + 1∧(plM b).edges.length=b.edges.length:=by simp [plM]
section
variable {l:List Nd} {cs:List Ch} {q:Pr} {g:Int} {d:Bool} {st:StF} {dk:Nat}
set_option maxHeartbeats 4000000 in
theorem sqR_of (hsp:SpR l cs q g d st dk) (hup:StUp l (walkM l dk) st):SqR l cs q g d st dk:=by
 intro ks
 induction ks with
 | nil =>
  intro H S w b a kv s e f node t hm hp hS hs hw hN hK hkv hkc hkl hf hroom
  obtain ⟨ax,cx,rfl⟩:=hkv.len1
  have x:=RM.new hm hp hS
  obtain ⟨G,hG⟩:∃ G,G=((H.push (.cells (mtC w g d).toArray 30)).push (.cells (apC a).toArray 43)).push (.cells zP.toArray 43):=⟨_,rfl⟩
  rw [← hG] at x
  have lp:=x.ldp
  have sp:=fun {node:Int}=>r13put_spec (fr:=(f:Int)) (to':=t) (d:=0) (node:=node) (ex:=-1) (v:=-1) (c:=-1) x.pv (by unfold Room at hroom; omega)
  have hl0:(([]:List Int).length:Int)=0:=rfl
  have h2:H.size + 1 + 1=H.size + 2:=rfl
  have hG':=hG
  unfold zP at hG'
  refine callF_of Tryz.func20 rfl Tryz.ntmps20 Tryz.results20 (by decide) rfl ?_
  simp (disch:=omega) only [go_sem,↓cB,dB,hl0]
  try rw [← hG']
  try (simp (disch:=omega) only [go_sem,↓cB,dB,lp,Array.size_push])
  refine call_to sp ?_
  intro r1 H1 hv
  refine Hush.out ?_
  obtain ⟨f1,a1,rfl,pw1⟩:=hv
  obtain ⟨X,e1,e2,e3,e4⟩:=x.ret f1 pw1
  refine ⟨?_⟩
  simp (disch:=omega) only [go_sem,↓cB,dB,e1,e2,h2,Array.size_push]
  exact fin ⟨e3,a1,rfl,e4⟩
 | cons k ks ih =>
  intro H S w b a kv s e f node t hm hp hS hs hw hN hK hkv hkc hkl hf hroom
  obtain ⟨ax,cx,rfl⟩:=hkv.len1
  have hcx:=hkc _ _ _ rfl
  obtain ⟨rfl,w1,w2,w3⟩:=walkK_first hw
  have hwS:walkM l dk s=((walkM l dk s).1,true):=by rw [← w2]
  have ok:∀ i e,i < l.length→walkM l dk i=(e,true)→i < e∧e≤l.length:=fun i e h1 h2=>by have:=walkM_ok dk i e h1 h2; exact ⟨this.1,this.2.1⟩
  obtain ⟨o1,o2⟩:=ok s _ w1 hwS
  obtain ⟨o3,o4,-⟩:=walkK_ok (l:=l) (ih:=walkM l dk) (Q:=fun _=>True) (fun i e h1 h2=>⟨(ok i e h1 h2).1,(ok i e h1 h2).2,fun _ _ _=>trivial⟩) ks _ e o2 w3
  have hKs:StK l s:=by simpa using hK (s:Int) (by simp)
  have x:=RM.new hm hp hS
  obtain ⟨G,hG⟩:∃ G,G=((H.push (.cells (mtC w g d).toArray 30)).push (.cells (apC a).toArray 43)).push (.cells zP.toArray 43):=⟨_,rfl⟩
  rw [← hG] at x
  have hkG:=hkv.frame (Keeps.of_fr x.f (by simp))
  obtain ⟨kb,ko,kc,ke,hSk,kq⟩:=hkG.at1 (x:=(s:Int)) (i:=0) rfl
  simp only [Value.slice.injEq,true_and] at ke
  obtain ⟨rfl,rfl⟩:=ke
  rw [Nat.add_zero] at kq
  have lm:=x.ldm
  have lp:=x.ldp
  have hgS:∀ {G':Heap},Fr [] H G'→(∀ y,S y→y < G'.size):=fun f y hy=>by have:=hS y hy; have:=f.size; omega
  by_cases h1:ks = []
  ·subst h1
   simp only [walkK,Prod.mk.injEq,and_true] at w3
   subst w3
   have sp:=hsp (t:=t) x.mt x.pv (hgS x.f) w1 hwS hN hKs hf (hroom.mono (by omega))
   have hl1:(([(s:Int)]:List Int).length:Int)=1:=rfl
   have h2:H.size + 1 + 1=H.size + 2:=rfl
   have hG':=hG
   unfold zP at hG'
   refine callF_of Tryz.func20 rfl Tryz.ntmps20 Tryz.results20 (by decide) rfl ?_
   simp (disch:=omega) only [go_sem,↓cB,dB,hl1]
   try rw [← hG']
   refine draw0 (lk [(0,true),(1,true),(2,true),(3,true),(4,true),(5,true),(6,true)] (.act 7 (.act 8 .fin .non) .non)) T.mixed ?_
   simp (disch:=omega) only [go_sem,↓cB,dB,lm,lp,kq,hl1,Array.size_push]
   refine call_to sp ?_
   intro r1 H1 hv
   refine Hush.out ?_
   obtain ⟨f1,a1,rfl,pw1⟩:=hv
   obtain ⟨X,e1,e2,e3,e4⟩:=x.ret f1 pw1
   refine ⟨?_⟩
   simp (disch:=omega) only [go_sem,↓cB,dB,e1,e2,h2,Array.size_push]
   exact fin ⟨e3,a1,rfl,by simp only [seqM,Int.toNat_natCast]; exact e4⟩
  ·obtain ⟨k',ks',rfl⟩:=List.exists_cons_of_ne_nil h1
   have hlk:(((s:Int) :: k' :: ks').length:Int)=((ks'.length + 2:Nat):Int):=rfl
   have hl0:¬ ((ks'.length + 2:Nat):Int)=0:=by omega
   have hl1:¬ ((ks'.length + 2:Nat):Int)=1:=by omega
   have hl2:(0:Int) < ((ks'.length + 2:Nat):Int):=by omega
   have h2:H.size + 1 + 1=H.size + 2:=rfl
   have hG':=hG
   unfold zP at hG'
   have hrm:=hroom
   unfold Room at hrm
   have hge:(walkM l dk s).1 + 1≤e:=by
    obtain ⟨-,b2,b3,b4⟩:=walkK_first w3
    have hb:=ok (walkM l dk s).1 _ b2 (by rw [← b3])
    have:=(walkK_ok (l:=l) (ih:=walkM l dk) (Q:=fun _=>True) (fun i e h1 h2=>⟨(ok i e h1 h2).1,(ok i e h1 h2).2,fun _ _ _=>trivial⟩) ks' _ e hb.2 b4).1
    omega
   have sp1:=r13place_spec x.pv (by omega)
   refine callF_of Tryz.func20 rfl Tryz.ntmps20 Tryz.results20 (by decide) rfl ?_
   simp (disch:=omega) only [go_sem,↓cB,dB,hlk,hl0,hl1]
   try rw [← hG']
   try (simp (disch:=omega) only [go_sem,↓cB,dB,lp,Array.size_push])
   refine call_to sp1 ?_
   intro r1 H1 hv
   refine Hush.out ?_
   obtain ⟨f1,a1,rfl,pv1,-⟩:=hv
   obtain ⟨X1,e1,x1,q1⟩:=x.set ⟨f1,pv1⟩
   have up1:=hup s _ f b.rest.length (plM b) w1 hwS
   obtain ⟨m1,p1⟩:=x1.args
   have pl:=@pl_lens b
   have sp2:=hsp (t:=(b.rest.length:Int)) (f:=f) (i:=s) m1 p1 (fun y hy=>hy.2) w1 hwS (hN.sub (Nat.le_refl _) o3) hKs (by rw [pl.1]; omega) (by unfold Room; rw [pl.1,pl.2]; omega)
   have lm1:=x1.ldm
   have lp1:=x1.ldp
   have hSk':=hS kb hSk
   have kq1:=q1.cell' (f1.cell' kq (by simp)) (by simp; omega)
   refine ⟨?_⟩
   simp (disch:=omega) only [go_sem,↓cB,dB,e1,h2,Array.size_push]
   refine draw0 (lk [(0,true),(1,true),(2,true),(3,true),(4,true),(5,true),(6,true)] (.act 7 (.act 8 .fin .non) .non)) T.mixed ?_
   simp (disch:=omega) only [go_sem,↓cB,dB,lm1,lp1,kq1,hlk,hl2,Array.size_push]
   refine call_to sp2 ?_
   intro r2 H2 hv
   refine Hush.out ?_
   obtain ⟨f2,a2,rfl,pw2⟩:=hv
   obtain ⟨gt2,-⟩:=pw2.got f2
   obtain ⟨X2,e2,x2,q2⟩:=x1.set gt2
   obtain ⟨m2,p2⟩:=x2.args
   have lm2:=x2.ldm
   have lp2:=x2.ldp
   have u1:=up1.2.2
   unfold Up at u1
   rw [pl.1,pl.2] at u1
   obtain ⟨B2,hB2⟩:∃ B2,B2=st s f b.rest.length (plM b):=⟨_,rfl⟩
   rw [← hB2] at u1 x2 p2
   have hkS:∀ y,S y→y ≠ H.size + 1:=fun y hy=>by have:=hS y hy; omega
   have hk2:Rd X2 S 1 (.slice (some ⟨kb,ko,none⟩) (ks'.length + 1 + 1) cx) (iv s :: (k' :: ks').map iv):=by
    have h3:=((hkG.frame (Keeps.of_fr f1 (by simp))).frame (Keeps.of_fr q1 (fun y hy=>by simpa using hkS y hy))).frame (Keeps.of_fr f2 (by simp))
    exact h3.frame (Keeps.of_fr q2 (fun y hy=>by simpa using hkS y hy))
   have htl:=Rd.tail1 (x:=iv s) (xs:=(k' :: ks').map iv) hk2 (by simpa using hcx)
   have sp3:=ih (t:=t) (f:=b.rest.length) (node:=node) m2 p2 (fun y hy=>hy.2) o2 w3 (hN.sub (by omega) (Nat.le_refl _)) (fun k hk=>hK k (List.mem_cons_of_mem _ hk)) (htl.mono (fun y hy hl=>⟨x2.hSU y hy,hl⟩)) (by intro a n c e; simp only [Value.slice.injEq] at e; simp only [List.length_cons] at hcx; omega) (by simp only [List.length_cons] at hkl ⊢; omega) (by omega) (by unfold Room; omega)
   refine ⟨?_⟩
   simp (disch:=omega) only [go_sem,↓cB,dB,e2,h2,Array.size_push]
   refine draw0 (lk [(0,true),(1,true),(2,true),(3,true),(4,true),(5,true),(6,true)] (.act 7 (.act 8 .fin .non) .non)) T.mixed ?_
   simp (disch:=omega) only [go_sem,↓cB,dB,lm2,lp2,hlk,hl2,Array.size_push]
   refine call_to sp3 ?_
   intro r3 H3 hv
   refine Hush.out ?_
   obtain ⟨f3,a3,rfl,pw3⟩:=hv
   obtain ⟨-,pw3'⟩:=pw3.got f3
   obtain ⟨X3,e3,e4,e5,e6⟩:=x2.ret f3 pw3'
   refine ⟨?_⟩
   simp (disch:=omega) only [go_sem,↓cB,dB,e3,e4,h2,Array.size_push]
   refine fin ⟨e5,a3,rfl,?_⟩
   rw [seqM_two,Int.toNat_natCast,← hB2]
   exact e6
def BkR (l:List Nd) (cs:List Ch) (q:Pr) (g:Int) (d:Bool) (st:StF) (dk:Nat):Prop:=∀ {H:Heap} {S:Nat→Prop} {w:MV} {b:Bs} {a:AP} {k e f:Nat} {t:Int},MT H S w l cs g d→PV H S q b a→(∀ y,S y→y < H.size)→k < l.length→walkM l dk k=(e,true)→(nodeAt l k).kind=16→NmOk l (rNm q cs) k e→f < b.rest.length→Room b (2 * (e - k)) →
 CallF Tryz.prog 66 [.agg (mtC w g d).toArray,.agg (apC a).toArray,iv k,iv f,iv t] H (fun r H'=>Fr [] H H'∧∃ a',r=.agg (apC a').toArray∧PW H H' S q (blkM l st k f t b) a') NoP
set_option maxHeartbeats 4000000 in
theorem bkR_of (hz:Sz l) (hr:prRightM l=true) (hsq:SqR l cs q g d st dk):BkR l cs q g d st (dk + 1):=by
 intro H S w b a k e f t hm hp hS hk hw h16 hN hf hroom
 obtain ⟨o1,o2,-⟩:=walkM_ok (dk + 1) k e hk hw
 have hw':=hw
 unfold walkM at hw'
 have hks:(l.getD k nd0').kids=(nodeAt l k).kids:=rfl
 rw [hks] at hw'
 have x:=RM.new hm hp hS
 obtain ⟨G,hG⟩:∃ G,G=((H.push (.cells (mtC w g d).toArray 30)).push (.cells (apC a).toArray 43)).push (.cells zP.toArray 43):=⟨_,rfl⟩
 rw [← hG] at x
 have lm:=x.ldm
 have lp:=x.ldp
 have hgn:=getD_some (d:=nd0') hk
 obtain ⟨tb,to',tc,n,q1,q3,ar,-,-,-,-,lk3,-⟩:=x.mt.nl.row hgn
 have hnd:l.getD k nd0'=nodeAt l k:=rfl
 rw [hnd] at q3
 have kt:=x.bm.cell 0
 unfold mtC at kt
 simp only [gZ] at kt
 rw [q1] at kt
 obtain ⟨kx,kc,hkx⟩:=ar.k.len1
 have hkr:=ar.k
 have hkc:=ar.kc
 rw [q3] at hkx hkr
 rw [hkx] at lk3 hkr
 obtain ⟨m1,p1⟩:=x.args
 have sp:=hsq (nodeAt l k).kids (t:=t) (f:=f) (node:=(k:Int)) m1 p1 (fun y hy=>hy.2) (show k + 1≤l.length by omega) hw' (hN.sub (by omega) (Nat.le_refl _)) (fun j hj=>(shp_of hr hk).blk h16 j hj) (hkr.mono (fun y hy hl=>⟨x.hSU y hy,hl⟩)) (fun a n c e=>by rw [← hkx] at e; exact hkc _ _ _ e) (by have:=kids_le8 hr hk hw; omega) hf (by unfold Room at *; omega)
 have hkk:(k:Int) < l.length:=by omega
 have h2:H.size + 1 + 1=H.size + 2:=rfl
 have hG':=hG
 unfold zP at hG'
 refine callF_of Tryz.func66 rfl Tryz.ntmps66 Tryz.results66 (by decide) rfl ?_
 simp (disch:=omega) only [go_sem,↓cB,dB]
 try rw [← hG']
 refine draw0 (lk [(0,true),(1,true),(2,true),(3,true),(4,true),(5,true),(6,true),(7,true),(8,true),(9,true),(10,true)] (.act 11 (.act 12 .fin .non) .non)) T.mixed ?_
 simp (disch:=omega) only [go_sem,↓cB,dB,lm,lp,kt,lk3,hkk,Array.size_push]
 refine call_to sp ?_
 intro r3 H3 hv
 refine Hush.out ?_
 obtain ⟨f3,a3,rfl,pw3⟩:=hv
 obtain ⟨-,pw3'⟩:=pw3.got f3
 obtain ⟨X3,e3,e4,e5,e6⟩:=x.ret f3 pw3'
 refine ⟨?_⟩
 simp (disch:=omega) only [go_sem,↓cB,dB,e3,e4,h2,Array.size_push]
 refine fin ⟨e5,a3,rfl,?_⟩
 unfold blkM
 rw [Int.toNat_natCast]
 exact e6
end
end Go.Proofs.YtmihefbdghjeoaaGreat
namespace Go.HL
theorem hld_cells {H:Heap} {L:List Addr} {a:Addr}:∀ (n i:Nat) (vs:List Value),cellsH (cellH H) a i n=some vs→(∀ j,i≤j→j < i + n→a.add j ∈ L)→cellsH (lookA (hldL H L)) a i n=some vs
 | 0,i,vs,h,_=>h
 | n + 1,i,vs,h,hm=>by
  simp only [cellsH] at h ⊢
  cases hc:cellH H (a.add i) with
  | none=>simp [hc] at h
  | some v =>
   cases hl:cellsH (cellH H) a (i + 1) n with
   | none=>simp [hc,hl] at h
   | some l' =>
    rw [hld_at hc (hm i (by omega) (by omega)),hld_cells n (i + 1) l' hl (fun j h1 h2=>hm j (by omega) (by omega))]
    simpa [hc,hl] using h
def rowL (b o:Nat):Nat→List Addr
 | 0=>[]
 | n + 1=>rowL b o n ++ [⟨b,o + n,none⟩]
theorem mem_rowL {b o j:Nat}:∀ {n:Nat},j < n→(⟨b,o,none⟩:Addr).add j ∈ rowL b o n
 | 0,h=>by omega
 | n + 1,h=>by
  rw [rowL,List.mem_append]
  by_cases e:j=n
  ·subst e
   refine .inr ?_
   unfold Addr.add
   split
   ·rename_i h0; simp [h0]
   ·simp
  ·exact .inl (mem_rowL (by omega))
end Go.HL
namespace Go.Proofs.YtmihefbdghjeoaaGreat
open Go.HL
set_option maxRecDepth 10000
structure RN (H0 H:Heap) (S U:Nat→Prop) (mb pb zb nb:Nat) (w:MV) (l:List Nd) (cs:List Ch) (g:Int) (d:Bool) (q:Pr) (b:Bs) (a:AP) (n:AN):Prop where
 x:RM H0 H S U mb pb zb w l cs g d q b a
 bn:Blk H nb 47 (anC n)
 ne:nb ≠ mb∧nb ≠ pb∧nb ≠ zb∧H0.size≤nb
 nU:¬ U nb
 ar:AR H S n
section
variable {H0 H H':Heap} {S U:Nat→Prop} {mb pb zb nb:Nat} {w:MV} {l:List Nd} {cs:List Ch} {g:Int} {d:Bool} {q:Pr} {b b':Bs} {a a':AP} {n:AN}
theorem RN.grow (x:RN H0 H S U mb pb zb nb w l cs g d q b a n) (f:Fr [] H H'):RN H0 H' S U mb pb zb nb w l cs g d q b a n :=
 ⟨x.x.grow f,f.blk x.bn (by simp),x.ne,x.nU,x.ar.frame (Keeps.of_fr f (by simp))⟩
theorem RN.set (x:RN H0 H S U mb pb zb nb w l cs g d q b a n) (y:Got H H' U q b' a') :
  ∃ X,storeA Tryz.prog H' 43 ⟨pb,0,none⟩ (.agg (apC a').toArray)=some X∧RN H0 X S (fun y=>U y∨H.size≤y) mb pb zb nb w l cs g d q b' a' n∧Fr [pb] H' X:=by
 obtain ⟨X,e1,e2,e3⟩:=x.x.set y
 have hl:=x.bn.lt
 have hge:=x.x.ge
 refine ⟨X,e1,⟨e2,e3.blk (y.f.blk x.bn (by simp)) (by simpa using x.ne.2.1),x.ne,fun h=>h.elim x.nU (by omega),(x.ar.frame (Keeps.of_fr y.f (by simp))).frame (Keeps.of_fr e3 (fun z hz=>by have:=x.x.hS z hz; simp; omega))⟩,e3⟩
theorem RN.new (x:RM H0 H S U mb pb zb w l cs g d q b a) (hU:∀ y,U y→y < H.size) (ar:AR H S n):RN H0 (H.push (.cells (anC n).toArray 47)) S U mb pb zb H.size w l cs g d q b a n:=by
 have f:Fr [] H (H.push (.cells (anC n).toArray 47)):=Fr.push
 have h1:=x.bm.lt
 have h2:=x.bp.lt
 have h3:=x.bz.lt
 have h4:=x.f.size
 exact ⟨x.grow f,Blk.new rfl,by omega,fun h=>by have:=hU _ h; omega,ar.frame (Keeps.of_fr f (by simp))⟩
end
section
variable {H0 H H':Heap} {S U:Nat→Prop} {mb pb zb nb:Nat} {w:MV} {l:List Nd} {cs:List Ch} {g:Int} {d:Bool} {q:Pr} {b b':Bs} {a a':AP} {n:AN}
theorem RN.k3 (x:RN H0 H S U mb pb zb nb w l cs g d q b a n):cellH H ⟨nb,3,none⟩=some n.kv:=by
 have:=x.bn.cell 3
 simpa [anC] using this
theorem RN.kid (x:RN H0 H S U mb pb zb nb w l cs g d q b a n) {kb ko c m:Nat} (e:n.kv=.slice (some ⟨kb,ko,none⟩) m c) {i:Nat} (hi:i < n.n.kids.length):cellH H ⟨kb,ko + i,none⟩=some (iv (n.n.kids.getD i 0)):=by
 obtain ⟨b1,o1,c1,e1,-,e2⟩:=x.ar.k.at1 (getD_some (d:=(0:Int)) hi)
 rw [e] at e1
 simp only [Value.slice.injEq,Option.some.injEq,Addr.mk.injEq,and_true] at e1
 obtain ⟨⟨rfl,rfl⟩,-,-⟩:=e1
 exact e2
theorem RN.mv (x:RN H0 H S U mb pb zb nb w l cs g d q b a n) (y:Got H H' U q b' a') :
  ∃ X,storeA Tryz.prog (H'.push (.cells zP.toArray 43)) 43 ⟨H'.size,0,none⟩ (.agg (apC a').toArray)=some X∧RN H0 X S (fun y=>(U y∨H.size≤y)∧y < H'.size) mb H'.size zb nb w l cs g d q b' a' n:=by
 have f1:Fr [] H' (H'.push (.cells zP.toArray 43)):=Fr.push
 obtain ⟨X,e1,e2,e3⟩:=store_blk (P:=Tryz.prog) (ty:=43) (new:=apC a') (Blk.new (H:=H') (t:=43) (vs:=zP) rfl) rfl T.size43 (apC_one y.pv)
 have fX:Fr [] H' X:=Fr.more f1 e3 (by simp)
 have fA:Fr [] H X:=y.f.trans fX
 have h1:=x.x.bm.lt
 have h2:=x.x.bp.lt
 have h3:=x.x.bz.lt
 have h4:=x.bn.lt
 have h5:=y.f.size
 have h6:=x.x.f.size
 have h7:=x.x.ge
 refine ⟨X,e1,⟨⟨x.x.f.trans fA,fA.blk x.x.bm (by simp),e2,fA.blk x.x.bz (by simp),⟨by omega,x.x.ne.2.1,by omega⟩,by omega,x.x.hS,?_,?_,?_,x.x.mt.grow fA,?_⟩,fA.blk x.bn (by simp),⟨x.ne.1,by omega,x.ne.2.2⟩,?_,x.ar.frame (Keeps.of_fr fA (by simp))⟩⟩
 ·rintro z ⟨hz | hz,hz2⟩
  ·have:=x.x.hT z hz; omega
  ·omega
 ·rintro z ⟨hz | hz,-⟩
  ·exact x.x.hTS z hz
  ·exact .inr (by omega)
 ·exact fun z hz=>⟨.inl (x.x.hSU z hz),by have:=x.x.hS z hz; omega⟩
 ·exact (y.pv.mono (fun z hz hl=>⟨hz,hl⟩)).grow fX
 ·rintro ⟨hz | hz,-⟩
  ·exact x.nU hz
  ·omega
end
structure EW (H0 H:Heap) (U:Nat→Prop) (mb pb zb nb:Nat) (b:Bs) (a:AP):Prop where
 ve:Vec H 45 8 a.ev (b.edges.flatMap edC)
 ow:∀ y ∈ own a.ev,H0.size≤y∧y ≠ mb∧y ≠ pb∧y ≠ zb∧y ≠ nb
 ot:APO H (fun y=>U y∧y ∉ own a.ev) a
section
variable {H0 H H':Heap} {S U:Nat→Prop} {mb pb zb nb:Nat} {w:MV} {l:List Nd} {cs:List Ch} {g:Int} {d:Bool} {q:Pr} {b b':Bs} {a a':AP} {n:AN}
theorem RN.setW (x:RN H0 H S U mb pb zb nb w l cs g d q b a n) (f:Fr [] H H') (y:PW H H' U q b' a') :
  ∃ X,storeA Tryz.prog H' 43 ⟨pb,0,none⟩ (.agg (apC a').toArray)=some X∧RN H0 X S (fun y=>U y∨H.size≤y) mb pb zb nb w l cs g d q b' a' n∧Fr [pb] H' X∧EW H0 X (fun y=>U y∨H.size≤y) mb pb zb nb b' a':=by
 obtain ⟨X,e1,e2,e3⟩:=x.set ⟨f,y.v⟩
 have h1:=x.x.bm.lt
 have h2:=x.x.bp.lt
 have h3:=x.x.bz.lt
 have h4:=x.bn.lt
 have h5:=x.x.f.size
 have hne:=x.x.ne
 refine ⟨X,e1,e2,e3,y.ve.frame e3 (fun z hz=>by have:=y.nw z hz; simp; omega),fun z hz=>by have:=y.nw z hz; omega,y.ot.frame (Keeps.of_fr e3 (fun z hz=>?_))⟩
 rcases hz.1 with h | h
 ·have:=(x.x.hT z h).2.1; simpa using this
 ·simp; omega
theorem RN.ret0 (x:RN H0 H S U mb pb zb nb w l cs g d q b a n) (y:EW H0 H U mb pb zb nb b a) :
  ∃ X,storeA Tryz.prog H 43 ⟨zb,0,none⟩ (.agg (apC a).toArray)=some X∧cellsH (cellH X) ⟨zb,0,none⟩ 0 8=some (apC a)∧Fr [] H0 X∧PW H0 X S q b a :=
 x.x.ret0 y.ve (fun z hz=>⟨(y.ow z hz).1,(y.ow z hz).2.2.2.1⟩) y.ot
theorem RN.cell (x:RN H0 H S U mb pb zb nb w l cs g d q b a n) (y:EW H0 H U mb pb zb nb b a) {i j:Nat} {e e':Ed} {u:Value} (hi:b.edges[i]?=some e) (hj:j < 8) (he:edC e'=(edC e).set j u) :
  ∃ va vo c,a.ev=.slice (some ⟨va,vo,none⟩) b.edges.length c∧(∀ j,j < 8→cellH H ⟨va,vo + i * 8 + j,none⟩=(edC e)[j]?) ∧
   ∃ X a',wr H ⟨va,vo + i * 8 + j,none⟩ u=some X∧apC a'=apC a∧a'.ev=a.ev∧RN H0 X S (fun z=>U z∨z ∈ own a.ev) mb pb zb nb w l cs g d q { b with edges:=b.edges.set i e' } a' n∧EW H0 X (fun z=>U z∨z ∈ own a.ev) mb pb zb nb { b with edges:=b.edges.set i e' } a':=by
 have hil:=(List.getElem?_eq_some_iff.1 hi).1
 have hlen:(b.edges.flatMap edC).length=b.edges.length * 8:=flat_len edL _
 obtain ⟨va,vo,m,c,h1,h2,h3⟩:=y.ve.cell (by intro e; rw [e] at hlen; simp at hlen; omega)
 obtain ⟨va',vo',m',c',g1,g2,g3,g4,g5⟩:=Vec.setc y.ve (i:=i * 8 + j) (by rw [hlen]; omega) u
 rw [h1] at g1
 simp only [Value.slice.injEq,Option.some.injEq,Addr.mk.injEq,and_true] at g1
 obtain ⟨⟨rfl,rfl⟩,rfl,rfl⟩:=g1
 rw [hlen] at h2
 have:m=b.edges.length:=by omega
 subst this
 obtain ⟨hb1,hb2,hb3,hb4,hb5⟩:=y.ow va (by rw [h1]; simp [own])
 obtain ⟨X,hX⟩:∃ X,X=setH H ⟨va,vo + (i * 8 + j),none⟩ u:=⟨_,rfl⟩
 rw [← hX] at g3 g4 g5
 have f:Fr [va] H X:=by rw [hX]; exact Fr.set (by simp)
 have hfl:(b.edges.flatMap edC).set (i * 8 + j) u=(b.edges.set i e').flatMap edC:=flat_set edL b.edges i e e' hj hi he
 rw [hfl] at g4
 have hva:=g4
 have ho:own a.ev = [va]:=by rw [h1]; rfl
 have hot:=y.ot
 have hk:Keeps (fun z=>U z∧z ∉ own a.ev) H X:=Keeps.of_fr f (fun z hz=>by have:=hz.2; rw [ho] at this; simpa using this)
 have ot:=hot.frame hk
 have pe:=x.x.pv.e
 refine ⟨va,vo,c,h1,fun j hj=>?_,X,{ a with p:=withB q { b with edges:=b.edges.set i e' } },by rw [Nat.add_assoc]; exact g3,?_,rfl,?_,?_⟩
 ·rw [Nat.add_assoc,h3 (i * 8 + j) (by rw [hlen]; omega),flat_get edL hj _ i e hi]
 ·unfold apC; rw [pe]; rfl
 ·have hm0:∀ z,S z→z ≠ va:=fun z hz=>by have:=x.x.hS z hz; omega
  refine ⟨⟨?_,f.blk x.x.bm (by simpa using hb2.symm),?_,f.blk x.x.bz (by simpa using hb4.symm),x.x.ne,x.x.ge,x.x.hS,?_,?_,fun z hz=>.inl (x.x.hSU z hz),x.x.mt.frame (Keeps.of_fr f (fun z hz=>by simpa using hm0 z hz)),⟨?_,rfl⟩⟩,f.blk x.bn (by simpa using hb5.symm),x.ne,?_,x.ar.frame (Keeps.of_fr f (fun z hz=>by simpa using hm0 z hz))⟩
  ·refine ⟨by have:=f.size; have:=x.x.f.size; omega,fun z hz1 hz2=>?_⟩
   have:=x.x.f.size
   rw [f.same z (by omega) (by simp; omega),x.x.f.same z hz1 hz2]
  ·have hap:apC { a with p:=withB q { b with edges:=b.edges.set i e' } } = apC a:=by unfold apC; rw [pe]; rfl
   rw [hap]; exact f.blk x.x.bp (by simpa using hb3.symm)
  ·rintro z (hz | hz)
   ·exact x.x.hT z hz
   ·have:=y.ow z hz; exact ⟨this.2.1,this.2.2.1,this.2.2.2.1⟩
  ·rintro z (hz | hz)
   ·exact x.x.hTS z hz
   ·exact .inr (y.ow z hz).1
  ·have:=ot.mono (S':=fun z=>U z∨z ∈ own a.ev) (fun z hz _=>.inl hz.1)
   have e1:=this.lo
   have e2:=this.re
   have e3:=this.nm
   have e4:=this.xs
   rw [pe] at e1 e2 e3 e4
   exact ⟨e1,e2,Rd.of_vec g4 (fun z hz=>.inr hz),e3,e4⟩
  ·rintro (hz | hz)
   ·exact x.nU hz
   ·exact (y.ow nb hz).2.2.2.2 rfl
 ·have:=ot.mono (S':=fun z=>(U z∨z ∈ own a.ev)∧z ∉ own a.ev) (fun z hz _=>⟨.inl hz.1,hz.2⟩)
  have e1:=this.lo
  have e2:=this.re
  have e3:=this.nm
  have e4:=this.xs
  rw [pe] at e1 e2 e3 e4
  exact ⟨g4,y.ow,⟨e1,e2,e3,e4⟩⟩
end
end Go.Proofs.YtmihefbdghjeoaaGreat
namespace Go.Proofs.YtmihefbdghjeoaaGreat
open Go.HL
set_option maxRecDepth 10000
theorem idl_rng {l:List Nd} (h:prRightM l=true) {j:Nat} (hj:j < l.length) (hk:(nodeAt l j).kind=8∨(nodeAt l j).kind=9∨(nodeAt l j).kind=10):n0 (nodeAt l j)=0∨n0 (nodeAt l j)=1:=by
 have:=num_rng h hj
 have h2:0≤n0 (nodeAt l j)∧n0 (nodeAt l j)≤1:=by
  unfold n0
  rcases hk with e | e | e <;> rw [e] at this <;> simpa [bnds] using this 0 (by simp [bnds])
 omega
theorem rd_first {H:Heap} {S:Nat→Prop} {xs:List Int} {a:Option Addr} {c:Nat} (h:Rd H S 1 (.slice a xs.length c) (xs.map iv)) {i:Nat} (hi:i < xs.length):∃ b o,a=some ⟨b,o,none⟩∧S b∧cellH H ⟨b,o + i,none⟩=some (iv (xs.getD i 0)):=by
 obtain ⟨b,o,c',e,h1,h2⟩:=h.at1 (getD_some (d:=(0:Int)) hi)
 simp only [Value.slice.injEq,true_and] at e
 exact ⟨b,o,e.1,h1,h2⟩
theorem rd_firstS {H:Heap} {S:Nat→Prop} {xs:List Str} {a:Option Addr} {c:Nat} (h:Rd H S 1 (.slice a xs.length c) (xs.map sv)) {i:Nat} (hi:i < xs.length):∃ b o,a=some ⟨b,o,none⟩∧S b∧cellH H ⟨b,o + i,none⟩=some (sv (xs.getD i [])):=by
 obtain ⟨b,o,c',e,h1,h2⟩:=h.at1 (getD_some (d:=([]:Str)) hi)
 simp only [Value.slice.injEq,true_and] at e
 exact ⟨b,o,e.1,h1,h2⟩
section
variable {l:List Nd} {cs:List Ch} {q:Pr} {g:Int} {d:Bool} {st:StF} {dk:Nat}
set_option maxHeartbeats 8000000 in
theorem spR_of (hX:q.vars.length=q.names.length) (hXl:q.names.length≤1000000) (hcl:cs.length≤1000000) (hz:Sz l) (hr:prRightM l=true) (hbk:BkR l cs q g d st dk) (hup:BlUp l dk st):SpR l cs q g d (stepA l (rNm q cs) st) (dk + 1):=by
 intro H S w b a i e f t hm hpv hS hi hw hN hK hf hroom
 obtain ⟨o1,o2,-⟩:=walkM_ok (dk + 1) i e hi hw
 have sh:=shp_of hr hi
 have hNi:=hN i (Nat.le_refl _) o1
 have hw':=hw
 unfold walkM at hw'
 have hks:(l.getD i nd0').kids=(nodeAt l i).kids:=rfl
 rw [hks] at hw'
 have hrm:=hroom
 unfold Room at hrm
 have x0:=RM.new hm hpv hS
 obtain ⟨G,hG⟩:∃ G,G=((H.push (.cells (mtC w g d).toArray 30)).push (.cells (apC a).toArray 43)).push (.cells zP.toArray 43):=⟨_,rfl⟩
 rw [← hG] at x0
 have hgn:=getD_some (d:=nd0') hi
 obtain ⟨tb,to',tc,n,q1,q3,ar,ldn,-⟩:=x0.mt.nl.row hgn
 have hnd:l.getD i nd0'=nodeAt l i:=rfl
 rw [hnd] at q3 ldn
 have kt:=x0.bm.cell 0
 unfold mtC at kt
 simp only [gZ] at kt
 rw [q1] at kt
 obtain ⟨x1,c1,x2,c2,x3,c3,ew,en,ek⟩:=ar.forms
 rw [q3] at ew en ek
 have hzG:G.size=H.size + 3:=by rw [hG]; simp
 have hanC:anC n = [iv (nodeAt l i).kind,.slice x1 (nodeAt l i).words.length c1,.slice x2 (nodeAt l i).nums.length c2,.slice x3 (nodeAt l i).kids.length c3,iv (nodeAt l i).pos]:=by unfold anC; rw [ew,en,ek,q3]
 rw [ew,en,ek] at ldn
 have y0:=RN.new x0 (fun y hy=>by have:=hS y hy; omega) ar
 obtain ⟨G1,hG1⟩:∃ X,X=G.push (.cells (anC n).toArray 47):=⟨_,rfl⟩
 rw [← hG1] at y0
 have hbn:=y0.bn
 rw [hanC] at hG1 hbn
 have n0k:=hbn.cell 0
 have n1k:=hbn.cell 1
 have n2k:=hbn.cell 2
 have n3k:=hbn.cell 3
 simp only [gS,gZ] at n0k n1k n2k n3k
 have ok:∀ i e,i < l.length→walkM l dk i=(e,true)→i < e∧e≤l.length:=fun i e h1 h2=>by have:=walkM_ok dk i e h1 h2; exact ⟨this.1,this.2.1⟩
 have h2:H.size + 1 + 1=H.size + 2:=rfl
 have hii:(i:Int) < l.length:=by omega
 have hG':=hG
 unfold zP at hG'
 have lm:=y0.x.ldm
 have lp:=y0.x.ldp
 refine callF_of Tryz.func40 rfl Tryz.ntmps40 Tryz.results40 (by decide) rfl ?_
 simp (disch:=omega) only [go_sem,↓cB,dB]
 try rw [← hG']
 try (simp (disch:=omega) only [go_sem,↓cB,dB,kt,ldn,hii,Array.size_push])
 try rw [← hG1]
 try (simp (disch:=omega) only [go_sem,↓cB,dB,n0k,Array.size_push])
 have rw':=y0.ar.w
 have ru:=y0.ar.u
 have rk:=y0.ar.k
 rw [ew,q3] at rw'
 rw [en,q3] at ru
 rw [ek,q3] at rk
 obtain ⟨R,hR⟩:∃ R,R=stepA l (rNm q cs) st i f t b:=⟨_,rfl⟩
 rw [← hR]
 unfold stepA at hR
 simp only at hR
 have sput:=fun {ex v c dd to'':Int}=>r13put_spec (fr:=(f:Int)) (to':=to'') (d:=dd) (node:=(i:Int)) (ex:=ex) (v:=v) (c:=c) y0.x.pv (by omega)
 obtain ⟨z1,d1,z2,d2,z3,d3,z4,d4,z5,d5,ea1,ea2,ea3,ea4,ea5,-⟩:=y0.x.pv.cells
 have p6:=y0.x.bp.cell 6
 have p7:=y0.x.bp.cell 7
 simp only [apC,gS,gZ] at p6 p7
 rw [ea4] at p6
 rw [ea5] at p7
 have rnm:=y0.x.pv.r.nm
 have rxs:=y0.x.pv.r.xs
 rw [ea4,y0.x.pv.e] at rnm
 rw [ea5,y0.x.pv.e] at rxs
 have hq1:(withB q b).names=q.names:=rfl
 have hq2:(withB q b).vars=q.vars:=rfl
 rw [hq1] at rnm
 rw [hq2] at rxs
 by_cases e6:(nodeAt l i).kind=6
 ·rw [if_pos e6] at hR
  have hwl:(nodeAt l i).words.length=1:=by rw [wok_of hr hi,e6]; rfl
  have hwl':(0:Int) < (nodeAt l i).words.length:=by omega
  have hkid:=sh.one (.inl e6)
  have hkid':(0:Int) < (nodeAt l i).kids.length:=by omega
  obtain ⟨kb,ko,rfl,-,kq⟩:=rd_first rk (i:=0) hkid
  obtain ⟨wb,wo,rfl,-,wq⟩:=rd_firstS rw' (i:=0) (by omega)
  rw [Nat.add_zero] at kq wq
  have ek0:(nodeAt l i).kids.getD 0 0=k0 (nodeAt l i):=rfl
  have ew0:(nodeAt l i).words.getD 0 []=w0 (nodeAt l i):=rfl
  rw [ek0] at kq
  rw [ew0] at wq
  have hin:=hNi.1 e6
  have hidx:q.names.findIdx (· == w0 (nodeAt l i)) < q.vars.length:=by
   rw [hX]
   have hin':inL q.names (w0 (nodeAt l i))=true:=hin
   unfold inL at hin'
   rw [List.any_eq_true] at hin'
   exact List.findIdx_lt_length_of_exists hin'
  obtain ⟨I,hI⟩:∃ I,I=q.names.findIdx (· == w0 (nodeAt l i)):=⟨_,rfl⟩
  have hvar:(rNm q cs).var (w0 (nodeAt l i))=q.vars.getD I 0:=by rw [hI]; rfl
  rw [← hI] at hidx
  obtain ⟨vb,vo,rfl,-,vq⟩:=rd_first rxs hidx
  have hI':(I:Int) < q.vars.length:=by omega
  obtain ⟨hl',hhl⟩:∃ hl',hl'=hldL G1 (rowL (H.size + 1) 0 8 ++ [⟨G.size,3,none⟩,⟨kb,ko,none⟩]):=⟨_,rfl⟩
  have hok:heldOK hl' G1:=by rw [hhl]; exact hld_ok
  have l3:lookA hl' ⟨G.size,3,none⟩=some (.slice (some ⟨kb,ko,none⟩) (nodeAt l i).kids.length c3):=by rw [hhl]; exact hld_at n3k (by simp)
  have lkk:lookA hl' ⟨kb,ko,none⟩=some (iv (k0 (nodeAt l i))):=by rw [hhl]; exact hld_at kq (by simp)
  have l7:lookA hl' ⟨H.size + 1,7,none⟩=some (.slice (some ⟨vb,vo,none⟩) q.vars.length d5):=by
   rw [hhl]; exact hld_at p7 (List.mem_append_left _ (mem_rowL (b:=H.size + 1) (o:=0) (j:=7) (n:=8) (by omega)))
  have lpp:=hld_cells (L:=rowL (H.size + 1) 0 8 ++ [⟨G.size,3,none⟩,⟨kb,ko,none⟩]) 8 0 _ lp (fun j _ hj=>List.mem_append_left _ (mem_rowL (by omega)))
  rw [← hhl] at lpp
  simp (disch:=omega) only [go_sem,↓cB,dB,e6]
  refine draw1 (lk [(0,false),(1,false),(2,false),(3,false),(4,false),(5,false),(6,false),(7,false),(8,false),(9,false),(10,true),(11,true),(12,true),(13,true),(14,true),(15,true)] (.act 16 (lk [(17,true),(18,true)] (.actd 19 (.actd 20 .fin))) .non)) T.mixed hl' hok ?_
  simp (disch:=omega) only [go_sem,↓cB,dB,lpp,l3,lkk,l7,hkid',n1k,wq,hwl',p6,Array.size_push]
  refine call_to (r13find_spec rnm hXl hin) ?_
  rintro _ _ ⟨rfl,rfl⟩
  rw [← hI]
  refine held_by hok ?_
  simp (disch:=omega) only [go_sem,↓cB,dB,vq,hI',p7]
  refine call_to (r13put_spec (fr:=(f:Int)) (to':=t) (d:=1) (node:=(i:Int)) (ex:=k0 (nodeAt l i)) (v:=q.vars.getD I 0) (c:=-1) y0.x.pv (by omega)) ?_
  intro r2 H2 hv
  refine Hush.out ?_
  obtain ⟨f2,a2,rfl,pw2⟩:=hv
  obtain ⟨X2,s2,s3,s4,s5⟩:=y0.x.ret f2 pw2
  refine ⟨?_⟩
  simp (disch:=omega) only [go_sem,↓cB,dB,s2,s3,h2,Array.size_push]
  exact fin ⟨s4,a2,rfl,by rw [hR,hvar]; exact s5⟩
 rw [if_neg e6] at hR
 by_cases e7:(nodeAt l i).kind=7
 ·rw [if_pos e7] at hR
  have hwl:(nodeAt l i).words.length=1:=by rw [wok_of hr hi,e7]; rfl
  have hwl':(0:Int) < (nodeAt l i).words.length:=by omega
  have hkid:=sh.one (.inr (.inl e7))
  have hkid':(0:Int) < (nodeAt l i).kids.length:=by omega
  obtain ⟨kb,ko,rfl,-,kq⟩:=rd_first rk (i:=0) hkid
  obtain ⟨wb,wo,rfl,-,wq⟩:=rd_firstS rw' (i:=0) (by omega)
  rw [Nat.add_zero] at kq wq
  have ek0:(nodeAt l i).kids.getD 0 0=k0 (nodeAt l i):=rfl
  have ew0:(nodeAt l i).words.getD 0 []=w0 (nodeAt l i):=rfl
  rw [ek0] at kq
  rw [ew0] at wq
  have hin:=hNi.2.1 e7
  have hch:(rNm q cs).chan (w0 (nodeAt l i))=((cs.map Ch.name).findIdx (· == w0 (nodeAt l i)):Nat):=rfl
  obtain ⟨hl',hhl⟩:∃ hl',hl'=hldL G1 (rowL (H.size + 1) 0 8 ++ [⟨G.size,3,none⟩,⟨kb,ko,none⟩]):=⟨_,rfl⟩
  have hok:heldOK hl' G1:=by rw [hhl]; exact hld_ok
  have l3:lookA hl' ⟨G.size,3,none⟩=some (.slice (some ⟨kb,ko,none⟩) (nodeAt l i).kids.length c3):=by rw [hhl]; exact hld_at n3k (by simp)
  have lkk:lookA hl' ⟨kb,ko,none⟩=some (iv (k0 (nodeAt l i))):=by rw [hhl]; exact hld_at kq (by simp)
  have lpp:=hld_cells (L:=rowL (H.size + 1) 0 8 ++ [⟨G.size,3,none⟩,⟨kb,ko,none⟩]) 8 0 _ lp (fun j _ hj=>List.mem_append_left _ (mem_rowL (by omega)))
  rw [← hhl] at lpp
  simp (disch:=omega) only [go_sem,↓cB,dB,e6,e7]
  refine draw1 (lk [(0,false),(1,false),(2,false),(3,false),(4,false),(5,false),(6,false),(7,false),(8,true),(9,true),(10,true),(11,true),(12,true)] (.act 13 (.actd 14 (.actd 15 .fin)) .non)) T.mixed hl' hok ?_
  simp (disch:=omega) only [go_sem,↓cB,dB,lpp,l3,lkk,hkid',lm,n1k,wq,hwl',Array.size_push]
  refine call_to (r13channel_spec y0.x.mt hcl hin) ?_
  intro r1 H1 hv
  refine Hush.out ?_
  obtain ⟨f1,rfl⟩:=hv
  have y1:=y0.grow f1
  refine ⟨?_⟩
  refine held_by (hld_fr hok f1 (by simp)) ?_
  simp (disch:=omega) only [go_sem,↓cB,dB]
  refine call_to (r13put_spec (fr:=(f:Int)) (to':=t) (d:=2) (node:=(i:Int)) (ex:=k0 (nodeAt l i)) (v:=-1) (c:=((cs.map Ch.name).findIdx (· == w0 (nodeAt l i)):Nat)) y1.x.pv (by omega)) ?_
  intro r2 H2 hv
  refine Hush.out ?_
  obtain ⟨f2,a2,rfl,pw2⟩:=hv
  obtain ⟨X2,s2,s3,s4,s5⟩:=y1.x.ret f2 pw2
  refine ⟨?_⟩
  simp (disch:=omega) only [go_sem,↓cB,dB,s2,s3,h2,Array.size_push]
  exact fin ⟨s4,a2,rfl,by rw [hR,hch]; exact s5⟩
 rw [if_neg e7] at hR
 by_cases e8:(nodeAt l i).kind=8
 ·rw [if_pos e8] at hR
  have hnum:(nodeAt l i).nums.length=1:=by rw [(numsOk_of hr hi).1,e8]; rfl
  have hnum':(0:Int) < (nodeAt l i).nums.length:=by omega
  have hwl:(nodeAt l i).words.length=2:=by rw [wok_of hr hi,e8]; rfl
  have hwl':(0:Int) < (nodeAt l i).words.length:=by omega
  have hwl1:(1:Int) < (nodeAt l i).words.length:=by omega
  obtain ⟨ub,uo,rfl,-,uq⟩:=rd_first ru (i:=0) (by omega)
  rw [Nat.add_zero] at uq
  have en0:(nodeAt l i).nums.getD 0 0=n0 (nodeAt l i):=rfl
  rw [en0] at uq
  simp (disch:=omega) only [go_sem,↓cB,dB,e6,e7,e8]
  refine draw0 (lk [(0,true),(1,true),(2,true),(3,true),(4,true),(5,true)] (.act 6 (.act 7 .fin .non) .non)) T.mixed ?_
  simp (disch:=omega) only [go_sem,↓cB,dB,lp,n2k,uq,hnum',Array.size_push]
  refine call_to (r13rest_spec y0.x.pv (by omega) hf (idl_rng hr hi (.inl e8))) ?_
  intro r1 H1 hv
  refine Hush.out ?_
  obtain ⟨f1,a1,rfl,pv1,-⟩:=hv
  obtain ⟨X,s1,y1,q1'⟩:=y0.set ⟨f1,pv1⟩
  have hil:=idl_len (b:=b) (f:=(f:Int)) (y:=n0 (nodeAt l i))
  have lp1:=y1.x.ldp
  have lm1:=y1.x.ldm
  have hbn1:=y1.bn
  rw [hanC] at hbn1
  have n1k1:=hbn1.cell 1
  simp only [gS,gZ] at n1k1
  have rw1:=y1.ar.w
  rw [ew,q3] at rw1
  obtain ⟨wb,wo,rfl,-,wq⟩:=rd_firstS rw1 (i:=0) (by omega)
  obtain ⟨wb',wo',wee,-,wq1⟩:=rd_firstS rw1 (i:=1) (by omega)
  simp only [Option.some.injEq,Addr.mk.injEq,and_true] at wee
  obtain ⟨rfl,rfl⟩:=wee
  rw [Nat.add_zero] at wq
  have ew0:(nodeAt l i).words.getD 0 []=w0 (nodeAt l i):=rfl
  have ew1:(nodeAt l i).words.getD 1 []=w1 (nodeAt l i):=rfl
  rw [ew0] at wq
  rw [ew1] at wq1
  obtain ⟨g1,h1,g2,h2',g3,h3,g4,h4,g5,h5,eb1,eb2,eb3,eb4,eb5,-⟩:=y1.x.pv.cells
  have p61:=y1.x.bp.cell 6
  have p71:=y1.x.bp.cell 7
  simp only [apC,gS,gZ] at p61 p71
  rw [eb4] at p61
  rw [eb5] at p71
  have rnm1:=y1.x.pv.r.nm
  have rxs1:=y1.x.pv.r.xs
  rw [eb4,y1.x.pv.e] at rnm1
  rw [eb5,y1.x.pv.e] at rxs1
  have hq3:(withB q (idlM b f (n0 (nodeAt l i)))).names=q.names:=rfl
  have hq4:(withB q (idlM b f (n0 (nodeAt l i)))).vars=q.vars:=rfl
  rw [hq3] at rnm1
  rw [hq4] at rxs1
  obtain ⟨hinc,hin⟩:=hNi.2.2 e8
  have hch:(rNm q cs).chan (w0 (nodeAt l i))=((cs.map Ch.name).findIdx (· == w0 (nodeAt l i)):Nat):=rfl
  have hidx:q.names.findIdx (· == w1 (nodeAt l i)) < q.vars.length:=by
   rw [hX]
   have hin':inL q.names (w1 (nodeAt l i))=true:=hin
   unfold inL at hin'
   rw [List.any_eq_true] at hin'
   exact List.findIdx_lt_length_of_exists hin'
  obtain ⟨I,hI⟩:∃ I,I=q.names.findIdx (· == w1 (nodeAt l i)):=⟨_,rfl⟩
  have hvar:(rNm q cs).var (w1 (nodeAt l i))=q.vars.getD I 0:=by rw [hI]; rfl
  rw [← hI] at hidx
  obtain ⟨vb,vo,rfl,-,vq⟩:=rd_first rxs1 hidx
  have hI':(I:Int) < q.vars.length:=by omega
  obtain ⟨L,hL⟩:∃ L,L=rowL (H.size + 1) 0 8 ++ (rowL H.size 0 7 ++ [⟨G.size,1,none⟩,⟨wb,wo,none⟩,⟨vb,vo + I,none⟩]):=⟨_,rfl⟩
  obtain ⟨hl',hhl⟩:∃ hl',hl'=hldL X L:=⟨_,rfl⟩
  have hok:heldOK hl' X:=by rw [hhl]; exact hld_ok
  have l1:lookA hl' ⟨G.size,1,none⟩=some (.slice (some ⟨wb,wo,none⟩) (nodeAt l i).words.length c1):=by rw [hhl,hL]; exact hld_at n1k1 (by simp)
  have lw:lookA hl' ⟨wb,wo,none⟩=some (sv (w0 (nodeAt l i))):=by rw [hhl,hL]; exact hld_at wq (by simp)
  have lv:lookA hl' ⟨vb,vo + I,none⟩=some (iv (q.vars.getD I 0)):=by rw [hhl,hL]; exact hld_at vq (by simp)
  have l7:lookA hl' ⟨H.size + 1,7,none⟩=some (.slice (some ⟨vb,vo,none⟩) q.vars.length h5):=by
   rw [hhl,hL]; exact hld_at p71 (List.mem_append_left _ (mem_rowL (b:=H.size + 1) (o:=0) (j:=7) (n:=8) (by omega)))
  have lpp:=hld_cells (L:=L) 8 0 _ lp1 (fun j _ hj=>by rw [hL]; exact List.mem_append_left _ (mem_rowL (by omega)))
  have lmm:=hld_cells (L:=L) 7 0 _ lm1 (fun j _ hj=>by rw [hL]; exact List.mem_append_right _ (List.mem_append_left _ (mem_rowL (by omega))))
  rw [← hhl] at lpp lmm
  refine ⟨?_⟩
  simp (disch:=omega) only [go_sem,↓cB,dB,s1,h2,Array.size_push]
  refine draw1 (lk [(0,false),(1,false),(2,false),(3,false),(4,false),(5,false),(6,true),(7,true),(8,true),(9,true),(10,true),(11,true),(15,false),(16,false),(17,false),(18,false),(19,false)] (.act 12 (lk [(13,false),(14,false)] (.act 20 (.actd 21 (.actd 22 .fin)) .non)) .non)) T.mixed hl' hok ?_
  simp (disch:=omega) only [go_sem,↓cB,dB,lpp,lmm,l1,lw,l7,n1k1,wq,wq1,hwl',hwl1,p61,Array.size_push]
  refine call_to (r13find_spec rnm1 hXl hin) ?_
  rintro _ _ ⟨rfl,rfl⟩
  rw [← hI]
  refine held_by hok ?_
  simp (disch:=omega) only [go_sem,↓cB,dB,lv,hI',l7]
  refine call_to (r13channel_spec y1.x.mt hcl hinc) ?_
  intro r3 H3 hv
  refine Hush.out ?_
  obtain ⟨f3,rfl⟩:=hv
  have y3:=y1.grow f3
  refine ⟨?_⟩
  refine held_by (hld_fr hok f3 (by simp)) ?_
  simp (disch:=omega) only [go_sem,↓cB,dB]
  refine call_to (r13put_spec (fr:=(f:Int)) (to':=t) (d:=3) (node:=(i:Int)) (ex:=-1) (v:=q.vars.getD I 0) (c:=((cs.map Ch.name).findIdx (· == w0 (nodeAt l i)):Nat)) y3.x.pv (by omega)) ?_
  intro r2 H2 hv
  refine Hush.out ?_
  obtain ⟨f2,a2,rfl,pw2⟩:=hv
  obtain ⟨X2,s2,s3,s4,s5⟩:=y3.x.ret f2 pw2
  refine ⟨?_⟩
  simp (disch:=omega) only [go_sem,↓cB,dB,s2,s3,h2,Array.size_push]
  exact fin ⟨s4,a2,rfl,by rw [hR,hch,hvar]; exact s5⟩
 rw [if_neg e8] at hR
 by_cases e9:(nodeAt l i).kind=9
 ·rw [if_pos e9] at hR
  have hnum:(nodeAt l i).nums.length=1:=by rw [(numsOk_of hr hi).1,e9]; rfl
  have hnum':(0:Int) < (nodeAt l i).nums.length:=by omega
  have hkid:=sh.one (.inr (.inr e9))
  have hkid':(0:Int) < (nodeAt l i).kids.length:=by omega
  obtain ⟨ub,uo,rfl,-,uq⟩:=rd_first ru (i:=0) (by omega)
  rw [Nat.add_zero] at uq
  have en0:(nodeAt l i).nums.getD 0 0=n0 (nodeAt l i):=rfl
  rw [en0] at uq
  simp (disch:=omega) only [go_sem,↓cB,dB,e6,e7,e8,e9]
  refine draw0 (lk [(0,true),(1,true),(2,true),(3,true),(4,true),(5,true)] (.act 6 (.act 7 .fin .non) .non)) T.mixed ?_
  simp (disch:=omega) only [go_sem,↓cB,dB,lp,n2k,uq,hnum',Array.size_push]
  refine call_to (r13rest_spec y0.x.pv (by omega) hf (idl_rng hr hi (.inr (.inl e9)))) ?_
  intro r1 H1 hv
  refine Hush.out ?_
  obtain ⟨f1,a1,rfl,pv1,-⟩:=hv
  obtain ⟨X,s1,y1,q1'⟩:=y0.set ⟨f1,pv1⟩
  have lp1:=y1.x.ldp
  have hbn1:=y1.bn
  rw [hanC] at hbn1
  have n3k1:=hbn1.cell 3
  simp only [gS,gZ] at n3k1
  have rk1:=y1.ar.k
  rw [ek,q3] at rk1
  obtain ⟨kb,ko,rfl,-,kq⟩:=rd_first rk1 (i:=0) hkid
  rw [Nat.add_zero] at kq
  have ek0:(nodeAt l i).kids.getD 0 0=k0 (nodeAt l i):=rfl
  rw [ek0] at kq
  have hil:=idl_len (b:=b) (f:=(f:Int)) (y:=n0 (nodeAt l i))
  refine ⟨?_⟩
  simp (disch:=omega) only [go_sem,↓cB,dB,s1,h2,Array.size_push]
  refine draw0 (lk [(0,true),(1,true),(2,true),(3,true),(4,true),(5,true),(6,true),(7,true)] (.act 8 (.act 9 .fin .non) .non)) T.mixed ?_
  simp (disch:=omega) only [go_sem,↓cB,dB,lp1,n3k1,kq,hkid',Array.size_push]
  refine call_to (r13put_spec (fr:=(f:Int)) (to':=t) (d:=4) (node:=(i:Int)) (ex:=k0 (nodeAt l i)) (v:=-1) (c:=-1) y1.x.pv (by omega)) ?_
  intro r2 H2 hv
  refine Hush.out ?_
  obtain ⟨f2,a2,rfl,pw2⟩:=hv
  obtain ⟨X2,s2,s3,s4,s5⟩:=y1.x.ret f2 pw2
  refine ⟨?_⟩
  simp (disch:=omega) only [go_sem,↓cB,dB,s2,s3,h2,Array.size_push]
  exact fin ⟨s4,a2,rfl,by rw [hR]; exact s5⟩
 rw [if_neg e9] at hR
 by_cases e10:(nodeAt l i).kind=10
 ·rw [if_pos e10] at hR
  have hnum:(nodeAt l i).nums.length=1:=by rw [(numsOk_of hr hi).1,e10]; rfl
  have hnum':(0:Int) < (nodeAt l i).nums.length:=by omega
  have h16:=sh.cho e10
  have hne:=cho_some hr hi e10
  have hk8:=kids_le8 hr hi hw
  obtain ⟨ub,uo,rfl,-,uq⟩:=rd_first ru (i:=0) (by omega)
  rw [Nat.add_zero] at uq
  have en0:(nodeAt l i).nums.getD 0 0=n0 (nodeAt l i):=rfl
  rw [en0] at uq
  simp (disch:=omega) only [go_sem,↓cB,dB,e6,e7,e8,e9,e10]
  refine draw0 (lk [(0,true),(1,true),(2,true),(3,true),(4,true),(5,true)] (.act 6 (.act 7 .fin .non) .non)) T.mixed ?_
  simp (disch:=omega) only [go_sem,↓cB,dB,lp,n2k,uq,hnum',Array.size_push]
  refine call_to (r13rest_spec y0.x.pv (by omega) hf (idl_rng hr hi (.inr (.inr e10)))) ?_
  intro r1 H1 hv
  refine Hush.out ?_
  obtain ⟨f1,a1,rfl,pv1,-⟩:=hv
  obtain ⟨X,s1,y1,q1'⟩:=y0.set ⟨f1,pv1⟩
  have hil:=idl_len (b:=b) (f:=(f:Int)) (y:=n0 (nodeAt l i))
  have hui:=up_idl (b:=b) (x:=(f:Int)) (y:=n0 (nodeAt l i))
  obtain ⟨bi,hbi⟩:∃ bi,bi=idlM b f (n0 (nodeAt l i)):=⟨_,rfl⟩
  rw [← hbi] at y1 hR hui
  unfold Up at hui
  refine ⟨?_⟩
  simp (disch:=omega) only [go_sem,↓cB,dB,s1,h2,Array.size_push]
  have hkk:n.n.kids=(nodeAt l i).kids:=by rw [q3]
  have hnn3:∃ kv3,n.kv=.slice kv3 (nodeAt l i).kids.length c3:=⟨_,ek⟩
  clear q1' s1 pv1 f1 hil sh hNi hanC ew en ek hnum hnum' en0 e6 e7 e8 e9 e10 hi hw hm hpv ldn lm lp kt hG1 hbn n0k n1k n2k n3k rw' ru rk sput ea1 ea2 ea3 ea4 ea5 p6 p7 rnm rxs hgn hnd q3 hG hG' hii hks q1 ar uq x0 y0 hK hq1 hq2 hbi hroom
  obtain ⟨kv3,ek⟩:=hnn3
  generalize (nodeAt l i).kids=K at *
  refine loop_by (fun k ρ H2=>∃ (j sj:Nat) (U:Nat→Prop) (bj:Bs) (aj:AP),k=K.length - j∧j≤K.length∧i + 1≤sj∧sj≤l.length∧RN H H2 S U H.size (H.size + 1) (H.size + 2) G.size w l cs g d q bj aj n ∧
    (0 < j→EW H H2 U H.size (H.size + 1) (H.size + 2) G.size bj aj)∧walkK l (walkM l dk) (K.drop j) sj=(e,true)∧R=choM l st (K.drop j) f t bj∧f < bj.rest.length∧Room bj (2 * (e - sj) + 1) ∧
    (ρ.get 3=iv f∧ρ.get 4=iv t∧ρ.get 5=hp H.size∧ρ.get 6=hp (H.size + 1)∧ρ.get 10=hp (H.size + 2)∧ρ.get 11=hp G.size∧ρ.get 12=iv j∧ρ.ds = [])) (k:=K.length) ?_ ?_
  ·refine ⟨0,i + 1,_,bi,a1,rfl,by omega,by omega,by omega,y1,fun h=>by omega,hw',hR,by omega,by unfold Room; omega,?_⟩
   simp (disch:=omega) only [go_sem,↓cB,dB,h2,Array.size_push]
  ·clear y1 hR hui hw' hrm o1
   rintro k ρ H2 ⟨j,sj,U,bj,aj,rfl,hj,hsj1,hsj,y,ew,hwj,hR,hfj,hrj,r3,r4,r5,r6,r10,r11,r12,rd⟩
   have hxj:(j:Int) + 1=((j + 1:Nat):Int):=by omega
   have t3:=y.k3
   have t3':=y.ar.k
   rw [ek] at t3 t3'
   have lpj:=y.x.ldp
   by_cases hjn:j < K.length
   rotate_left
   ·obtain rfl:j=K.length:=by omega
    rw [List.drop_length] at hR
    simp only [choM] at hR
    obtain ⟨X4,s4,s5,s6,s7⟩:=y.ret0 (ew (by omega))
    simp (disch:=omega) only [go_sem,↓cB,dB,r3,r4,r5,r6,r10,r11,r12,rd,t3]
    try (simp (disch:=omega) only [go_sem,↓cB,dB,r3,r4,r5,r6,r10,r11,r12,rd,t3,lpj,s4,s5])
    exact fin ⟨s6,aj,rfl,by rw [hR]; exact s7⟩
   clear ew
   have hgj:=getD_some (d:=(0:Int)) (l:=K) (i:=j) hjn
   have h16j:=h16 _ (List.mem_of_getElem? hgj)
   have hd1:K.drop j=K.getD j 0 :: K.drop (j + 1):=by
    rw [List.drop_eq_getElem_cons hjn]; congr 1; simp [List.getD_eq_getElem?_getD,List.getElem?_eq_getElem hjn]
   have hkk0:=hkk
   rw [hkk] at t3'
   obtain ⟨kb,ko,rfl,hSk,kq⟩:=rd_first t3' (i:=j) hjn
   have hkq':n.n.kids.getD j 0=K.getD j 0:=by rw [hkk]
   have tkj:=y.kid ek (i:=j) (by rw [hkk]; exact hjn)
   rw [hkq'] at tkj
   rw [hd1] at hwj hR
   obtain ⟨a1',a2',a3',a4'⟩:=walkK_first hwj
   generalize K.getD j 0=yk at *
   subst a1'
   simp only [Int.toNat_natCast] at h16j
   have hwk:walkM l dk sj=((walkM l dk sj).1,true):=by rw [← a3']
   obtain ⟨nx,hnx⟩:∃ nx,nx=(walkM l dk sj).1:=⟨_,rfl⟩
   rw [← hnx] at hwk a4'
   clear hnx a3' hwj hd1 hgj
   obtain ⟨g1,g2⟩:=ok sj _ a2' hwk
   have hge:nx≤e:=(walkK_ok (l:=l) (ih:=walkM l dk) (Q:=fun _=>True) (fun i e h1 h2=>⟨(ok i e h1 h2).1,(ok i e h1 h2).2,fun _ _ _=>trivial⟩) _ _ e g2 a4').1
   have hbk':=fun {H':Heap} {S':Nat→Prop} {b':Bs} {a':AP} {f':Nat} {t':Int} (hm:MT H' S' w l cs g d) (hp':PV H' S' q b' a') (h1:∀ y,S' y→y < H'.size) (hN':NmOk l (rNm q cs) sj nx) (hf':f' < b'.rest.length) (hR':Room b' (2 * (nx - sj)))=>hbk (t:=t') hm hp' h1 a2' hwk h16j hN' hf' hR'
   unfold choM at hR
   obtain ⟨tb,to',tc,nk,u1,u3,ark,ldk,-⟩:=y.x.mt.nl.row (getD_some (d:=nd0') a2')
   have hndk:l.getD sj nd0'=nodeAt l sj:=rfl
   rw [hndk] at u3 ldk
   have ktj:=y.x.bm.cell 0
   unfold mtC at ktj
   simp only [gZ] at ktj
   rw [u1] at ktj
   obtain ⟨v1,d1',v2,d2',v3,d3',ewk,enk,ekk⟩:=ark.forms
   rw [u3] at ewk enk ekk
   have arkk:=ark.k
   rw [ekk,u3] at arkk
   have hlx:cellsH (cellH H2) ⟨tb,to' + sj * 5,none⟩ 0 5=some [iv (nodeAt l sj).kind,.slice v1 (nodeAt l sj).words.length d1',.slice v2 (nodeAt l sj).nums.length d2',.slice v3 (nodeAt l sj).kids.length d3',iv (nodeAt l sj).pos]:=by rw [← ewk,← enk,← ekk]; exact ldk
   have hloe:loopK l (sj:Int)=(decide (0 < (nodeAt l sj).kids.length) && decide ((nodeAt l (k0 (nodeAt l sj)).toNat).kind=12)):=by unfold loopK; simp only [Int.toNat_natCast]
   rw [hloe] at hR
   have hk0r:0 < (nodeAt l sj).kids.length→∃ mk:Nat,k0 (nodeAt l sj)=mk∧mk < l.length:=fun h=>by
    have:=kid_rng hr a2' (kid_at h)
    have e0:(nodeAt l sj).kids.getD 0 0=k0 (nodeAt l sj):=rfl
    rw [e0] at this
    exact ⟨(k0 (nodeAt l sj)).toNat,by omega,by omega⟩
   have ek0:(nodeAt l sj).kids.getD 0 0=k0 (nodeAt l sj):=rfl
   clear ldk hndk u3 ark ewk enk ekk hloe t3' hkk h16 hz
   generalize nodeAt l sj=N at *
   obtain ⟨NK,hNK⟩:∃ k:Int,k=N.kind:=⟨_,rfl⟩
   rw [← hNK] at hlx
   obtain ⟨L,hL⟩:∃ L,L=rowL tb (to' + sj * 5) 5 ++ [⟨H.size,0,none⟩,⟨G.size,3,none⟩,⟨kb,ko + j,none⟩]:=⟨_,rfl⟩
   obtain ⟨hl',hhl⟩:∃ hl',hl'=hldL H2 L:=⟨_,rfl⟩
   have hnk2:=hkk0
   have hok:heldOK hl' H2:=by rw [hhl]; exact hld_ok
   have lk0:lookA hl' ⟨H.size,0,none⟩=some (.slice (some ⟨tb,to',none⟩) l.length tc):=by rw [hhl,hL]; exact hld_at ktj (by simp)
   have lk3:lookA hl' ⟨G.size,3,none⟩=some (.slice (some ⟨kb,ko,none⟩) K.length c3):=by rw [hhl,hL]; exact hld_at t3 (by simp)
   have lkk:lookA hl' ⟨kb,ko + j,none⟩=some (iv (sj:Int)):=by rw [hhl,hL]; exact hld_at tkj (by simp)
   have lkn:=hld_cells (L:=L) 5 0 _ hlx (fun j _ hj=>by rw [hL]; exact List.mem_append_left _ (mem_rowL (by omega)))
   rw [← hhl] at lkn
   have hsl:(sj:Int) < l.length:=by omega
   have hjl:(j:Int) < K.length:=by omega
   obtain ⟨Ap,hAp⟩:∃ A,A=H2.push (.cells #[iv 0,nilS,nilS,nilS,iv 0] 47):=⟨_,rfl⟩
   have gp:Fr [] H2 Ap:=by rw [hAp]; exact Fr.push
   have bp:Blk Ap H2.size 47 [iv 0,nilS,nilS,nilS,iv 0]:=by rw [hAp]; exact Blk.new rfl
   obtain ⟨A2,e2,b2,f2⟩:=store_blk (P:=Tryz.prog) (ty:=47) (new:=[iv NK,.slice v1 N.words.length d1',.slice v2 N.nums.length d2',.slice v3 N.kids.length d3',iv N.pos]) bp rfl T.size47 (one_all rfl)
   have g2A:Fr [] H2 A2:=Fr.more gp f2 (by simp)
   have y2:=y.grow g2A
   have x13:=b2.cell 3
   simp only [gS,gZ] at x13
   have zA2:=g2A.size
   have hokp:=hld_fr hok (hAp ▸ gp) (by simp)
   clear lpj
   simp (disch:=omega) only [go_sem,↓cB,dB,r3,r4,r5,r6,r10,r11,r12,rd,t3,hjl]
   refine draw1 (lk [(0,false),(1,false),(2,false),(3,false),(4,false),(5,false),(6,false),(7,false),(8,false)] (.act 9 (.actd 10 .fin) .non)) T.mixed hl' hok ?_
   simp (disch:=omega) only [go_sem,↓cB,dB,r3,r4,r5,r6,r10,r11,r12,rd,lk0,lk3,lkk,lkn,hsl,hjl]
   refine held_by (hld_fr hok (Fr.push (F:=[])) (by simp)) ?_
   rw [← hAp]
   simp (disch:=omega) only [go_sem,↓cB,dB,r3,r4,r5,r6,r10,r11,r12,rd,lk0,lk3,lkk,lkn,hsl,hjl,e2]
   have hfin:∀ {U':Nat→Prop} {X:Heap} {a':AP} {b':Bs},RN H X S U' H.size (H.size + 1) (H.size + 2) G.size w l cs g d q b' a' n→EW H X U' H.size (H.size + 1) (H.size + 2) G.size b' a' →
     R=choM l st (K.drop (j + 1)) f t b'→f < b'.rest.length→Room b' (2 * (e - nx) + 1)→∀ {ρ':En},(ρ'.get 3=iv f∧ρ'.get 4=iv t∧ρ'.get 5=hp H.size∧ρ'.get 6=hp (H.size + 1)∧ρ'.get 10=hp (H.size + 2)∧ρ'.get 11=hp G.size∧ρ'.get 12=iv ((j + 1:Nat):Int)∧ρ'.ds = []) →
     ∃ k',k' < K.length - j∧∃ (j sj:Nat) (U:Nat→Prop) (bj:Bs) (aj:AP),k'=K.length - j∧j≤K.length∧i + 1≤sj∧sj≤l.length∧RN H X S U H.size (H.size + 1) (H.size + 2) G.size w l cs g d q bj aj n ∧
      (0 < j→EW H X U H.size (H.size + 1) (H.size + 2) G.size bj aj)∧walkK l (walkM l dk) (K.drop j) sj=(e,true)∧R=choM l st (K.drop j) f t bj∧f < bj.rest.length∧Room bj (2 * (e - sj) + 1) ∧
      (ρ'.get 3=iv f∧ρ'.get 4=iv t∧ρ'.get 5=hp H.size∧ρ'.get 6=hp (H.size + 1)∧ρ'.get 10=hp (H.size + 2)∧ρ'.get 11=hp G.size∧ρ'.get 12=iv j∧ρ'.ds = []):=by
    intro U' X a' b' y' ew' hR' hf' hr' ρ' hρ
    exact ⟨K.length - (j + 1),by omega,j + 1,_,U',_,a',rfl,by omega,by omega,g2,y',fun _=>ew',a4',hR',hf',hr',hρ⟩
   have t32:=y2.k3
   rw [ek] at t32
   have tk2:=g2A.cell' tkj (by simp)
   have hnl:j < n.n.kids.length:=by rw [hnk2]; exact hjn
   have lp2:=y2.x.ldp
   have lm2:=y2.x.ldm
   obtain ⟨m2,p2⟩:=y2.x.args
   have hrm':=hrj
   unfold Room at hrm'
   clear hlx lkn lkk lk3 lk0 hok hokp hhl hL e2 b2 f2 gp bp hAp tkj t3 kq hrj
   by_cases hlo1:0 < N.kids.length
   rotate_left
   ·have hlo0:(N.kids.length:Int)=0:=by omega
    rw [decide_eq_false hlo1,Bool.false_and,if_neg (by simp)] at hR
    refine draw0 (lk [(0,true),(1,true),(2,true),(3,true),(4,true),(5,true),(6,true),(7,true),(8,true),(9,true),(10,true),(11,true),(12,true),(13,true),(14,true),(15,true)] .fin) T.mixed ?_
    simp (disch:=omega) only [go_sem,↓cB,dB,r3,r4,r5,r6,r10,r11,r12,rd,x13,hlo0]
    refine draw0 (lk [(0,true),(1,true),(2,true),(3,true),(4,true),(5,true),(6,true),(7,true),(8,true)] (.act 9 (.act 10 .fin .non) .non)) T.mixed ?_
    simp (disch:=omega) only [go_sem,↓cB,dB,r3,r4,r5,r6,r10,r11,r12,rd,lm2,lp2,t32,tk2,hjl]
    have u9:=(hup sj nx f t bj a2' hwk).2.2
    have hcb:=hbk' (f':=f) (t':=t) m2 p2 (fun y hy=>hy.2) (hN.sub (by omega) (by omega)) (by omega) (by unfold Room; omega)
    generalize blkM l st (sj:Int) f t bj=B9 at *
    unfold Up at u9
    refine call_to hcb ?_
    clear hcb
    intro r9' H9 hv
    refine Hush.out ?_
    obtain ⟨f9,a9,rfl,pw9⟩:=hv
    obtain ⟨-,pw9'⟩:=pw9.got f9
    obtain ⟨X9,s9,y9,q9',ew9⟩:=y2.setW f9 pw9'
    refine ⟨?_⟩
    simp (disch:=omega) only [go_sem,↓cB,dB,r3,r4,r5,r6,r10,r11,r12,rd,s9]
    exact fin (hfin y9 ew9 hR (by omega) (by unfold Room; omega) (by simp (disch:=omega) only [go_sem,↓cB,dB,r3,r4,r5,r6,r10,r11,r12,rd,hxj]))
   have hlo1':(0:Int) < N.kids.length:=by omega
   rw [decide_eq_true hlo1,Bool.true_and] at hR
   have rkk:=arkk.frame (Keeps.of_fr g2A (by simp))
   obtain ⟨mb',mo',rfl,-,m2'⟩:=rd_first rkk (i:=0) hlo1
   obtain ⟨mk,hmk,hml⟩:=hk0r hlo1
   rw [Nat.add_zero,ek0,hmk] at m2'
   have hml':(mk:Int) < l.length:=by omega
   obtain ⟨tb',to'',tc',nk',u1',-,-,-,kd',-⟩:=y2.x.mt.nl.row (getD_some (d:=nd0') hml)
   have hndk':l.getD mk nd0'=nodeAt l mk:=rfl
   rw [hndk'] at kd'
   rw [u1] at u1'
   simp only [Value.slice.injEq,Option.some.injEq,Addr.mk.injEq,and_true,true_and] at u1'
   obtain ⟨⟨rfl,rfl⟩,rfl⟩:=u1'
   have kt2:=g2A.cell' ktj (by simp)
   rw [hmk,Int.toNat_natCast] at hR
   clear hndk' hk0r ek0 rkk arkk ktj
   generalize (nodeAt l mk).kind=mkk at *
   by_cases hlo2:mkk=12
   rotate_left
   ·rw [decide_eq_false hlo2,if_neg (by simp)] at hR
    refine draw0 (lk [(0,true),(1,true),(2,true),(3,true),(4,true),(5,true),(6,true),(7,true),(8,true),(9,true),(10,true),(11,true),(12,true),(13,true),(14,true),(15,true)] .fin) T.mixed ?_
    simp (disch:=omega) only [go_sem,↓cB,dB,r3,r4,r5,r6,r10,r11,r12,rd,x13,hlo1',kt2,m2',hml',kd',hlo2]
    refine draw0 (lk [(0,true),(1,true),(2,true),(3,true),(4,true),(5,true),(6,true),(7,true),(8,true)] (.act 9 (.act 10 .fin .non) .non)) T.mixed ?_
    simp (disch:=omega) only [go_sem,↓cB,dB,r3,r4,r5,r6,r10,r11,r12,rd,lm2,lp2,t32,tk2,hjl]
    have u9:=(hup sj nx f t bj a2' hwk).2.2
    have hcb:=hbk' (f':=f) (t':=t) m2 p2 (fun y hy=>hy.2) (hN.sub (by omega) (by omega)) (by omega) (by unfold Room; omega)
    generalize blkM l st (sj:Int) f t bj=B9 at *
    unfold Up at u9
    refine call_to hcb ?_
    clear hcb
    intro r9' H9 hv
    refine Hush.out ?_
    obtain ⟨f9,a9,rfl,pw9⟩:=hv
    obtain ⟨-,pw9'⟩:=pw9.got f9
    obtain ⟨X9,s9,y9,q9',ew9⟩:=y2.setW f9 pw9'
    refine ⟨?_⟩
    simp (disch:=omega) only [go_sem,↓cB,dB,r3,r4,r5,r6,r10,r11,r12,rd,s9]
    exact fin (hfin y9 ew9 hR (by omega) (by unfold Room; omega) (by simp (disch:=omega) only [go_sem,↓cB,dB,r3,r4,r5,r6,r10,r11,r12,rd,hxj]))
   rw [decide_eq_true hlo2,if_pos rfl] at hR
   have pl:=@pl_lens bj
   refine draw0 (lk [(0,true),(1,true),(2,true),(3,true),(4,true),(5,true),(6,true),(7,true),(8,true),(9,true),(10,true),(11,true),(12,true),(13,true),(14,true),(15,true)] .fin) T.mixed ?_
   simp (disch:=omega) only [go_sem,↓cB,dB,r3,r4,r5,r6,r10,r11,r12,rd,x13,hlo1',kt2,m2',hml',kd',hlo2]
   try (simp (disch:=omega) only [go_sem,↓cB,dB,r3,r4,r5,r6,r10,r11,r12,rd,lp2])
   refine call_to (r13place_spec y2.x.pv (by omega)) ?_
   intro r6' H6 hv
   refine Hush.out ?_
   obtain ⟨f6,a6,rfl,pv6,-⟩:=hv
   obtain ⟨X6,s6,y6,q6'⟩:=y2.set ⟨f6,pv6⟩
   have t36:=y6.k3
   rw [ek] at t36
   have tk6:=y6.kid ek (i:=j) hnl
   rw [hkq'] at tk6
   have lp6:=y6.x.ldp
   refine ⟨?_⟩
   simp (disch:=omega) only [go_sem,↓cB,dB,r3,r4,r5,r6,r10,r11,r12,rd,s6]
   refine draw0 (lk [(0,true),(1,true),(2,true),(3,true),(4,true),(5,true),(6,true),(7,true)] (.act 8 (.act 9 .fin .non) .non)) T.mixed ?_
   simp (disch:=omega) only [go_sem,↓cB,dB,r3,r4,r5,r6,r10,r11,r12,rd,lp6,t36,tk6,hjl]
   refine call_to (r13put_spec (fr:=(f:Int)) (to':=(bj.rest.length:Int)) (d:=0) (node:=(sj:Int)) (ex:=-1) (v:=-1) (c:=-1) y6.x.pv (by omega)) ?_
   intro r7' H7 hv
   refine Hush.out ?_
   obtain ⟨f7,a7,rfl,pw7⟩:=hv
   obtain ⟨X7,s7,y7,q7'⟩:=y6.set ⟨f7,pw7.v⟩
   have t37:=y7.k3
   rw [ek] at t37
   have tk7:=y7.kid ek (i:=j) hnl
   rw [hkq'] at tk7
   have lp7:=y7.x.ldp
   have lm7:=y7.x.ldm
   obtain ⟨m7,p7'⟩:=y7.x.args
   have pl7:=put_len (b:=plM bj) (e:=⟨f,bj.rest.length,0,-1,-1,-1,false,sj⟩)
   refine ⟨?_⟩
   simp (disch:=omega) only [go_sem,↓cB,dB,r3,r4,r5,r6,r10,r11,r12,rd,s7]
   refine draw0 (lk [(0,true),(1,true),(2,true),(3,true),(4,true),(5,true),(6,true),(7,true),(8,true)] (.act 9 (.act 10 .fin .non) .non)) T.mixed ?_
   simp (disch:=omega) only [go_sem,↓cB,dB,r3,r4,r5,r6,r10,r11,r12,rd,lm7,lp7,t37,tk7,hjl]
   have u9:=(hup sj nx bj.rest.length t (putM (plM bj) ⟨f,bj.rest.length,0,-1,-1,-1,false,sj⟩) a2' hwk).2.2
   have hcb:=hbk' (f':=bj.rest.length) (t':=t) m7 p7' (fun y hy=>hy.2) (hN.sub (by omega) (by omega)) (by omega) (by unfold Room; omega)
   generalize blkM l st (sj:Int) bj.rest.length t (putM (plM bj) ⟨f,bj.rest.length,0,-1,-1,-1,false,sj⟩)=B9 at *
   unfold Up at u9
   refine call_to hcb ?_
   clear hcb
   intro r9' H9 hv
   refine Hush.out ?_
   obtain ⟨f9,a9,rfl,pw9⟩:=hv
   obtain ⟨-,pw9'⟩:=pw9.got f9
   obtain ⟨X9,s9,y9,q9',ew9⟩:=y7.setW f9 pw9'
   refine ⟨?_⟩
   simp (disch:=omega) only [go_sem,↓cB,dB,r3,r4,r5,r6,r10,r11,r12,rd,s9]
   exact fin (hfin y9 ew9 hR (by omega) (by unfold Room; omega) (by simp (disch:=omega) only [go_sem,↓cB,dB,r3,r4,r5,r6,r10,r11,r12,rd,hxj]))
 rw [if_neg e10] at hR
 by_cases e11:(nodeAt l i).kind=11
 ·rw [if_pos e11] at hR
  obtain ⟨hl23,h16,h16'⟩:=sh.iff e11
  have hkid':(0:Int) < (nodeAt l i).kids.length:=by omega
  have hkid1:(1:Int) < (nodeAt l i).kids.length:=by omega
  obtain ⟨a1',a2',a3',a4'⟩:=kids_1 hw' (by omega)
  obtain ⟨a5',a6'⟩:=ok (i + 1) _ a2' a3'
  obtain ⟨b1',b2',b3',b4'⟩:=kids_1 a4' (by rw [List.length_tail]; omega)
  obtain ⟨b5',b6'⟩:=ok _ _ b2' b3'
  obtain ⟨b7',b8',-⟩:=walkK_ok (l:=l) (ih:=walkM l dk) (Q:=fun _=>True) (fun i e h1 h2=>⟨(ok i e h1 h2).1,(ok i e h1 h2).2,fun _ _ _=>trivial⟩) _ _ e b6' b4'
  rw [getD_tail] at b1'
  have hk1:k1 (nodeAt l i)=((walkM l dk (i + 1)).1:Int):=b1'
  rw [hk1] at h16 hR
  simp only [Int.toNat_natCast] at h16
  obtain ⟨kb,ko,rfl,hSk,kq⟩:=rd_first rk (i:=0) (by omega)
  have hq3:(n.n.kids.getD 0 0)=k0 (nodeAt l i):=by rw [q3]; rfl
  have hq4:(n.n.kids.getD 1 0)=((walkM l dk (i + 1)).1:Int):=by rw [q3,← hk1]; rfl
  have hkl:n.n.kids.length=(nodeAt l i).kids.length:=by rw [q3]
  have pl:=@pl_lens b
  simp (disch:=omega) only [go_sem,↓cB,dB,e6,e7,e8,e9,e10,e11,lp,Array.size_push]
  refine call_to (r13place_spec y0.x.pv (by omega)) ?_
  intro r1 H1 hv
  refine Hush.out ?_
  obtain ⟨f1,a1,rfl,pv1,-⟩:=hv
  obtain ⟨X,s1,y1⟩:=y0.mv ⟨f1,pv1⟩
  unfold zP at s1
  have t0:=y1.k3
  rw [ek] at t0
  have t1:=y1.kid ek (i:=0) (by omega)
  rw [hq3,Nat.add_zero] at t1
  have lp1:=y1.x.ldp
  refine ⟨?_⟩
  simp (disch:=omega) only [go_sem,↓cB,dB,s1,h2,Array.size_push]
  refine draw0 (lk [(0,true),(1,true),(2,true),(3,true),(4,true),(5,true),(6,true),(7,true)] (.act 8 (.act 9 .fin .non) .non)) T.mixed ?_
  simp (disch:=omega) only [go_sem,↓cB,dB,lp1,t0,t1,hkid']
  refine call_to (r13put_spec (fr:=(f:Int)) (to':=(b.rest.length:Int)) (d:=4) (node:=(i:Int)) (ex:=k0 (nodeAt l i)) (v:=-1) (c:=-1) y1.x.pv (by omega)) ?_
  intro r2 H2 hv
  refine Hush.out ?_
  obtain ⟨f2,a2,rfl,pw2⟩:=hv
  obtain ⟨X2,s2,y2,q2'⟩:=y1.set ⟨f2,pw2.v⟩
  have t02:=y2.k3
  rw [ek] at t02
  have t12:=y2.kid ek (i:=1) (by omega)
  rw [hq4] at t12
  have lp2:=y2.x.ldp
  have lm2:=y2.x.ldm
  have pl2:=put_len (b:=plM b) (e:=⟨f,b.rest.length,4,k0 (nodeAt l i),-1,-1,false,i⟩)
  obtain ⟨m2,p2⟩:=y2.x.args
  refine ⟨?_⟩
  simp (disch:=omega) only [go_sem,↓cB,dB,s2]
  refine draw0 (lk [(0,true),(1,true),(2,true),(3,true),(4,true),(5,true),(6,true),(7,true)] (.act 8 (.act 9 .fin .non) .non)) T.mixed ?_
  simp (disch:=omega) only [go_sem,↓cB,dB,lm2,lp2,t02,t12,hkid1]
  refine call_to (hbk (k:=(walkM l dk (i + 1)).1) (e:=(walkM l dk (walkM l dk (i + 1)).1).1) (f:=b.rest.length) (t:=t) m2 p2 (fun y hy=>hy.2) b2' b3' h16 (hN.sub (by omega) (by omega)) (by omega) (by unfold Room; omega)) ?_
  intro r3 H3 hv
  refine Hush.out ?_
  obtain ⟨f3,a3,rfl,pw3⟩:=hv
  obtain ⟨gt3,-⟩:=pw3.got f3
  have u3:=(hup (walkM l dk (i + 1)).1 (walkM l dk (walkM l dk (i + 1)).1).1 b.rest.length t (putM (plM b) ⟨f,b.rest.length,4,k0 (nodeAt l i),-1,-1,false,i⟩) b2' b3').2.2
  unfold Up at u3
  obtain ⟨B,hB⟩:∃ B,B=blkM l st ((walkM l dk (i + 1)).1:Int) b.rest.length t (putM (plM b) ⟨f,b.rest.length,4,k0 (nodeAt l i),-1,-1,false,i⟩):=⟨_,rfl⟩
  rw [← hB] at gt3 u3 hR
  obtain ⟨X3,s3,y3,q3'⟩:=y2.set gt3
  have t03:=y3.k3
  rw [ek] at t03
  have t13:=y3.kid ek (i:=0) (by omega)
  rw [hq3,Nat.add_zero] at t13
  have lp3:=y3.x.ldp
  refine ⟨?_⟩
  simp (disch:=omega) only [go_sem,↓cB,dB,s3]
  by_cases hk2:(nodeAt l i).kids.length=2
  ·rw [if_pos (by omega)] at hR
   have hk2':((nodeAt l i).kids.length:Int)=2:=by omega
   try (simp (disch:=omega) only [go_sem,↓cB,dB,t03,hk2'])
   refine draw0 (lk [(0,true),(1,true),(2,true),(3,true),(4,true),(5,true),(6,true),(7,true)] (.act 8 (.act 9 .fin .non) .non)) T.mixed ?_
   simp (disch:=omega) only [go_sem,↓cB,dB,lp3,t03,t13,hkid']
   refine call_to (r13put_spec (fr:=(f:Int)) (to':=t) (d:=5) (node:=(i:Int)) (ex:=k0 (nodeAt l i)) (v:=-1) (c:=-1) y3.x.pv (by omega)) ?_
   intro r4 H4 hv
   refine Hush.out ?_
   obtain ⟨f4,a4,rfl,pw4⟩:=hv
   obtain ⟨X4,s4,s5,s6,s7⟩:=y3.x.ret f4 pw4
   refine ⟨?_⟩
   simp (disch:=omega) only [go_sem,↓cB,dB,s4,s5,h2,Array.size_push]
   exact fin ⟨s6,a4,rfl,by rw [hR]; exact s7⟩
  ·rw [if_neg (by omega)] at hR
   have hk3:=hl23.resolve_left hk2
   have hk2':¬ ((nodeAt l i).kids.length:Int)=2:=by omega
   have hkid2:(2:Int) < (nodeAt l i).kids.length:=by omega
   obtain ⟨d1',d2',d3',d4'⟩:=kids_1 b4' (by rw [List.length_tail,List.length_tail]; omega)
   rw [getD_tail,getD_tail] at d1'
   have hkk2:k2 (nodeAt l i)=((walkM l dk (walkM l dk (i + 1)).1).1:Int):=d1'
   have hnil:(nodeAt l i).kids.tail.tail.tail = []:=by
    apply List.eq_nil_of_length_eq_zero; rw [List.length_tail,List.length_tail,List.length_tail]; omega
   rw [hnil] at d4'
   simp [walkK] at d4'
   have h17:=h16' hk3
   rw [hkk2] at h17 hR
   simp only [Int.toNat_natCast] at h17
   have hq5:(n.n.kids.getD 2 0)=((walkM l dk (walkM l dk (i + 1)).1).1:Int):=by rw [q3,← hkk2]; rfl
   have hw5:walkM l dk (walkM l dk (walkM l dk (i + 1)).1).1=(e,true):=by rw [d3',d4']
   have hle5:=ok _ _ d2' hw5
   try (simp (disch:=omega) only [go_sem,↓cB,dB,t03,hk2',lp3])
   refine call_to (r13place_spec y3.x.pv (by omega)) ?_
   intro r4 H4 hv
   refine Hush.out ?_
   obtain ⟨f4,a4,rfl,pv4,-⟩:=hv
   obtain ⟨X4,s4,y4,q4'⟩:=y3.set ⟨f4,pv4⟩
   have t04:=y4.k3
   rw [ek] at t04
   have t14:=y4.kid ek (i:=0) (by omega)
   rw [hq3,Nat.add_zero] at t14
   have lp4:=y4.x.ldp
   have pl4:=@pl_lens B
   refine ⟨?_⟩
   simp (disch:=omega) only [go_sem,↓cB,dB,s4]
   refine draw0 (lk [(0,true),(1,true),(2,true),(3,true),(4,true),(5,true),(6,true),(7,true)] (.act 8 (.act 9 .fin .non) .non)) T.mixed ?_
   simp (disch:=omega) only [go_sem,↓cB,dB,lp4,t04,t14,hkid']
   refine call_to (r13put_spec (fr:=(f:Int)) (to':=(B.rest.length:Int)) (d:=5) (node:=(i:Int)) (ex:=k0 (nodeAt l i)) (v:=-1) (c:=-1) y4.x.pv (by omega)) ?_
   intro r5 H5 hv
   refine Hush.out ?_
   obtain ⟨f5,a5,rfl,pw5⟩:=hv
   obtain ⟨X5,s5,y5,q5'⟩:=y4.set ⟨f5,pw5.v⟩
   have t05:=y5.k3
   rw [ek] at t05
   have t15:=y5.kid ek (i:=2) (by omega)
   rw [hq5] at t15
   have lp5:=y5.x.ldp
   have lm5:=y5.x.ldm
   have pl5:=put_len (b:=plM B) (e:=⟨f,B.rest.length,5,k0 (nodeAt l i),-1,-1,false,i⟩)
   obtain ⟨m5,p5⟩:=y5.x.args
   refine ⟨?_⟩
   simp (disch:=omega) only [go_sem,↓cB,dB,s5]
   refine draw0 (lk [(0,true),(1,true),(2,true),(3,true),(4,true),(5,true),(6,true),(7,true)] (.act 8 (.act 9 .fin .non) .non)) T.mixed ?_
   simp (disch:=omega) only [go_sem,↓cB,dB,lm5,lp5,t05,t15,hkid2]
   refine call_to (hbk (k:=(walkM l dk (walkM l dk (i + 1)).1).1) (e:=e) (f:=B.rest.length) (t:=t) m5 p5 (fun y hy=>hy.2) d2' hw5 h17 (hN.sub (by omega) (Nat.le_refl _)) (by omega) (by unfold Room; omega)) ?_
   intro r6 H6 hv
   refine Hush.out ?_
   obtain ⟨f6,a6,rfl,pw6⟩:=hv
   obtain ⟨-,pw6'⟩:=pw6.got f6
   obtain ⟨X6,s6,s7,s8,s9⟩:=y5.x.ret f6 pw6'
   refine ⟨?_⟩
   simp (disch:=omega) only [go_sem,↓cB,dB,s6,s7,h2,Array.size_push]
   exact fin ⟨s8,a6,rfl,by rw [hR]; exact s9⟩
 rw [if_neg e11] at hR
 by_cases e12:(nodeAt l i).kind=12
 ·rw [if_pos e12] at hR
  obtain ⟨hl2,h16⟩:=sh.whl e12
  have hkid':(0:Int) < (nodeAt l i).kids.length:=by omega
  have hkid1:(1:Int) < (nodeAt l i).kids.length:=by omega
  obtain ⟨a1',a2',a3',a4'⟩:=kids_1 hw' (by omega)
  obtain ⟨a5',a6'⟩:=ok (i + 1) _ a2' a3'
  obtain ⟨b1',b2',b3',b4'⟩:=kids_1 a4' (by rw [List.length_tail]; omega)
  rw [getD_tail] at b1'
  have hk1:k1 (nodeAt l i)=((walkM l dk (i + 1)).1:Int):=b1'
  have hnil:(nodeAt l i).kids.tail.tail = []:=by
   apply List.eq_nil_of_length_eq_zero; rw [List.length_tail,List.length_tail]; omega
  rw [hnil] at b4'
  simp [walkK] at b4'
  rw [hk1] at h16 hR
  simp only [Int.toNat_natCast] at h16
  obtain ⟨kb,ko,rfl,hSk,kq⟩:=rd_first rk (i:=0) (by omega)
  obtain ⟨kb',ko',kee,-,kq1⟩:=rd_first rk (i:=1) (by omega)
  simp only [Option.some.injEq,Addr.mk.injEq,and_true] at kee
  obtain ⟨rfl,rfl⟩:=kee
  rw [Nat.add_zero] at kq
  have ek0:(nodeAt l i).kids.getD 0 0=k0 (nodeAt l i):=rfl
  have ek1:(nodeAt l i).kids.getD 1 0=k1 (nodeAt l i):=rfl
  rw [ek0] at kq
  rw [ek1,hk1] at kq1
  simp (disch:=omega) only [go_sem,↓cB,dB,e6,e7,e8,e9,e10,e11,e12,lp,Array.size_push]
  refine call_to (r13place_spec y0.x.pv (by omega)) ?_
  intro r1 H1 hv
  refine Hush.out ?_
  obtain ⟨f1,a1,rfl,pv1,-⟩:=hv
  obtain ⟨X,s1,y1⟩:=y0.mv ⟨f1,pv1⟩
  unfold zP at s1
  have hq3:(n.n.kids.getD 0 0)=k0 (nodeAt l i):=by rw [q3]; rfl
  have hq4:(n.n.kids.getD 1 0)=((walkM l dk (i + 1)).1:Int):=by rw [q3,← hk1]; rfl
  have hkl:n.n.kids.length=2:=by rw [q3]; exact hl2
  have t0:=y1.k3
  rw [ek] at t0
  have t1:=y1.kid ek (i:=0) (by omega)
  rw [hq3,Nat.add_zero] at t1
  have lp1:=y1.x.ldp
  have pl:=@pl_lens b
  refine ⟨?_⟩
  simp (disch:=omega) only [go_sem,↓cB,dB,s1,h2,Array.size_push]
  refine draw0 (lk [(0,true),(1,true),(2,true),(3,true),(4,true),(5,true),(6,true),(7,true)] (.act 8 (.act 9 .fin .non) .non)) T.mixed ?_
  simp (disch:=omega) only [go_sem,↓cB,dB,lp1,t0,t1,hkid']
  refine call_to (r13put_spec (fr:=(f:Int)) (to':=(b.rest.length:Int)) (d:=4) (node:=(i:Int)) (ex:=k0 (nodeAt l i)) (v:=-1) (c:=-1) y1.x.pv (by omega)) ?_
  intro r2 H2 hv
  refine Hush.out ?_
  obtain ⟨f2,a2,rfl,pw2⟩:=hv
  obtain ⟨X2,s2,y2,q2'⟩:=y1.set ⟨f2,pw2.v⟩
  have t02:=y2.k3
  rw [ek] at t02
  have t12:=y2.kid ek (i:=0) (by omega)
  rw [hq3,Nat.add_zero] at t12
  have lp2:=y2.x.ldp
  have pl2:=put_len (b:=plM b) (e:=⟨f,b.rest.length,4,k0 (nodeAt l i),-1,-1,false,i⟩)
  refine ⟨?_⟩
  simp (disch:=omega) only [go_sem,↓cB,dB,s2]
  refine draw0 (lk [(0,true),(1,true),(2,true),(3,true),(4,true),(5,true),(6,true),(7,true)] (.act 8 (.act 9 .fin .non) .non)) T.mixed ?_
  simp (disch:=omega) only [go_sem,↓cB,dB,lp2,t02,t12,hkid']
  refine call_to (r13put_spec (fr:=(f:Int)) (to':=t) (d:=5) (node:=(i:Int)) (ex:=k0 (nodeAt l i)) (v:=-1) (c:=-1) y2.x.pv (by omega)) ?_
  intro r3 H3 hv
  refine Hush.out ?_
  obtain ⟨f3,a3,rfl,pw3⟩:=hv
  obtain ⟨X3,s3,y3,q3'⟩:=y2.set ⟨f3,pw3.v⟩
  have t03:=y3.k3
  rw [ek] at t03
  have t13:=y3.kid ek (i:=1) (by omega)
  rw [hq4] at t13
  have lp3:=y3.x.ldp
  have lm3:=y3.x.ldm
  have pl3:=put_len (b:=putM (plM b) ⟨f,b.rest.length,4,k0 (nodeAt l i),-1,-1,false,i⟩) (e:=⟨f,t,5,k0 (nodeAt l i),-1,-1,false,i⟩)
  obtain ⟨m3,p3⟩:=y3.x.args
  have hw3:walkM l dk (walkM l dk (i + 1)).1=(e,true):=by rw [b3',b4']
  have hle:=ok _ _ b2' hw3
  refine ⟨?_⟩
  simp (disch:=omega) only [go_sem,↓cB,dB,s3]
  refine draw0 (lk [(0,true),(1,true),(2,true),(3,true),(4,true),(5,true),(6,true),(7,true)] (.act 8 (.act 9 .fin .non) .non)) T.mixed ?_
  simp (disch:=omega) only [go_sem,↓cB,dB,lm3,lp3,t03,t13,hkid1]
  refine call_to (hbk (k:=(walkM l dk (i + 1)).1) (e:=e) (f:=b.rest.length) (t:=(f:Int)) m3 p3 (fun y hy=>hy.2) b2' hw3 h16 (hN.sub (by omega) (Nat.le_refl _)) (by omega) (by unfold Room; omega)) ?_
  intro r4 H4 hv
  refine Hush.out ?_
  obtain ⟨f4,a4,rfl,pw4⟩:=hv
  obtain ⟨-,pw4'⟩:=pw4.got f4
  obtain ⟨X4,s4,s5,s6,s7⟩:=y3.x.ret f4 pw4'
  refine ⟨?_⟩
  simp (disch:=omega) only [go_sem,↓cB,dB,s4,s5,h2,Array.size_push]
  exact fin ⟨s6,a4,rfl,by rw [hR]; exact s7⟩
 rw [if_neg e12] at hR
 by_cases e13:(nodeAt l i).kind=13
 ·rw [if_pos e13] at hR
  obtain ⟨hl1,h16⟩:=sh.ato e13
  have hkid':(0:Int) < (nodeAt l i).kids.length:=by omega
  obtain ⟨a1',a2',a3',a4'⟩:=kids_1 hw' (by omega)
  obtain ⟨a5',a6'⟩:=ok (i + 1) _ a2' a3'
  have hnil:(nodeAt l i).kids.tail = []:=by
   apply List.eq_nil_of_length_eq_zero; rw [List.length_tail]; omega
  rw [hnil] at a4'
  simp [walkK] at a4'
  have hk0:k0 (nodeAt l i)=((i + 1:Nat):Int):=a1'
  rw [hk0] at h16 hR
  simp only [Int.toNat_natCast] at h16
  have hwk:walkM l dk (i + 1)=(e,true):=by rw [a3',a4']
  obtain ⟨kb,ko,rfl,hSk,kq⟩:=rd_first rk (i:=0) (by omega)
  rw [Nat.add_zero] at kq
  have ek0:(nodeAt l i).kids.getD 0 0=((i + 1:Nat):Int):=hk0
  rw [ek0] at kq
  have p5:=y0.x.bp.cell 5
  simp only [apC,gS,gZ] at p5
  rw [ea3] at p5
  obtain ⟨m0,p0⟩:=y0.x.args
  simp (disch:=omega) only [go_sem,↓cB,dB,e6,e7,e8,e9,e10,e11,e12,e13,p5,Array.size_push]
  refine draw0 (lk [(0,true),(1,true),(2,true),(3,true),(4,true),(5,true),(6,true),(7,true)] (.act 8 (.act 9 .fin .non) .non)) T.mixed ?_
  simp (disch:=omega) only [go_sem,↓cB,dB,lm,lp,n3k,kq,hkid',Array.size_push]
  refine call_to (hbk (k:=i + 1) (e:=e) (f:=f) (t:=t) m0 p0 (fun y hy=>hy.2) a2' hwk h16 (hN.sub (by omega) (Nat.le_refl _)) hf (by unfold Room; omega)) ?_
  intro r3 H3 hv
  refine Hush.out ?_
  obtain ⟨f3,a3,rfl,pw3⟩:=hv
  obtain ⟨-,pw3'⟩:=pw3.got f3
  have u3:=(hup (i + 1) e f t b a2' hwk).2.2
  unfold Up at u3
  obtain ⟨B,hB⟩:∃ B,B=blkM l st ((i + 1:Nat):Int) f t b:=⟨_,rfl⟩
  rw [← hB] at pw3' u3 hR
  obtain ⟨X3,s3,y3,q3',ew3⟩:=y0.setW f3 pw3'
  refine ⟨?_⟩
  simp (disch:=omega) only [go_sem,↓cB,dB,s3,h2,Array.size_push]
  generalize hm:b.edges.length=m at *
  have hBl:m≤B.edges.length∧B.edges.length≤200000:=by omega
  refine loop_by (fun k ρ H2=>∃ (j:Nat) (U:Nat→Prop) (aj:AP),k=B.edges.length - j∧m≤j∧j≤B.edges.length∧RN H H2 S U H.size (H.size + 1) (H.size + 2) G.size w l cs g d q { B with edges:=markE m j t B.edges } aj n ∧
    EW H H2 U H.size (H.size + 1) (H.size + 2) G.size { B with edges:=markE m j t B.edges } aj ∧
    (ρ.get 4=iv t∧ρ.get 6=hp (H.size + 1)∧ρ.get 10=hp (H.size + 2)∧ρ.get 21=iv j∧ρ.ds = [])) (k:=B.edges.length - m) ?_ ?_
  ·refine ⟨m,fun z=>S z∨G1.size≤z,a3,rfl,by omega,by omega,?_,?_,by simp (disch:=omega) only [go_sem,↓cB,dB,h2,Array.size_push]⟩
   ·rw [mark_none (Nat.le_refl _)]; exact y3
   ·rw [mark_none (Nat.le_refl _)]; exact ew3
  ·clear ew3 y3 q3' s3 pw3' pw3 f3 m0 p0 hw x0 y0 hm hpv ldn lm lp kt hG1 hbn n0k n1k n2k n3k rw' ru rk sput ea1 ea2 ea3 ea4 ea5 p6 p7 p5 rnm rxs kq
   rintro k ρ H2 ⟨j,U,aj,rfl,hmj,hj,y,ew,r4,r6,r10,r21,rd⟩
   have hxj:(j:Int) + 1=((j + 1:Nat):Int):=by omega
   have hml:(markE m j t B.edges).length=B.edges.length:=by unfold markE; rw [List.length_mapIdx]
   have lpj:=y.x.ldp
   obtain ⟨_,_,_,_,z3,d3,_,_,_,_,-,-,ea3,-,-,-⟩:=y.x.pv.cells
   simp only [hml] at ea3
   have p5:=y.x.bp.cell 5
   simp only [apC,gS,gZ] at p5
   rw [ea3] at p5
   by_cases hjl:j < B.edges.length
   rotate_left
   ·obtain rfl:j=B.edges.length:=by omega
    obtain ⟨X4,s4,s5,s6,s7⟩:=y.ret0 ew
    simp (disch:=omega) only [go_sem,↓cB,dB,r4,r6,r10,r21,rd,p5]
    try (simp (disch:=omega) only [go_sem,↓cB,dB,r4,r6,r10,r21,rd,p5,lpj,s4,s5])
    rw [mark_end hBl.1] at s7
    exact fin ⟨s6,aj,rfl,by rw [hR]; exact s7⟩
   obtain ⟨ed,hed⟩:∃ ed,B.edges[j]?=some ed:=⟨_,List.getElem?_eq_getElem hjl⟩
   obtain ⟨s1,s2⟩:=mark_step (to':=t) hmj hed
   obtain ⟨va,vo,c,e5,rdc,X,a',w6,hap,hev,y6,ew6⟩:=y.cell ew (j:=6) (u:=.bool (keepE t ed).keep) (e':=keepE t ed) s1 (by omega) rfl
   simp only [hml] at e5
   rw [ea3] at e5
   simp only [Value.slice.injEq] at e5
   obtain ⟨rfl,-,rfl⟩:=e5
   have hto:=rdc 1 (by omega)
   simp only [edC,gS,gZ] at hto
   simp only [s2] at y6 ew6
   have hjl':(j:Int) < B.edges.length:=by omega
   have hkeep:(keepE t ed).keep=(!decide (ed.to'=t) && !decide (ed.to'=1)):=rfl
   rw [hkeep] at w6
   by_cases d1:ed.to'=t
   ·have hd1:decide (ed.to' ≠ t)=false:=by simp [d1]
    rw [decide_eq_true d1] at w6
    simp only [Bool.not_true,Bool.false_and] at w6
    simp (disch:=omega) only [go_sem,↓cB,dB,r4,r6,r10,r21,rd,p5,hjl']
    refine draw0 (lk [(0,true),(1,true),(2,true),(3,true),(4,true),(5,true),(6,true),(7,true),(8,true),(9,true),(10,true),(11,true),(12,true),(13,true),(14,true),(15,true),(16,true),(17,true),(18,true),(19,true),(20,true),(21,true)] (.act 22 .fin .non)) T.mixed ?_
    simp (disch:=omega) only [go_sem,↓cB,dB,r4,r6,r10,r21,rd,p5,hjl',hto,hd1,w6]
    exact fin ⟨B.edges.length - (j + 1),by omega,j + 1,_,a',rfl,by omega,by omega,y6,ew6,by simp (disch:=omega) only [go_sem,↓cB,dB,r4,r6,r10,r21,rd,hxj]⟩
   have hd1:decide (ed.to' ≠ t)=true:=by simp [d1]
   rw [decide_eq_false d1] at w6
   by_cases d2:ed.to'=1
   ·have hd2:decide (ed.to' ≠ 1)=false:=by simp [d2]
    rw [decide_eq_true d2] at w6
    simp only [Bool.not_true,Bool.not_false,Bool.and_false] at w6
    simp (disch:=omega) only [go_sem,↓cB,dB,r4,r6,r10,r21,rd,p5,hjl']
    refine draw0 (lk [(0,true),(1,true),(2,true),(3,true),(4,true),(5,true),(6,true),(7,true),(8,true),(9,true),(10,true),(11,true),(12,true),(13,true),(14,true),(15,true),(16,true),(17,true),(18,true),(19,true),(20,true),(21,true)] (.act 22 .fin .non)) T.mixed ?_
    simp (disch:=omega) only [go_sem,↓cB,dB,r4,r6,r10,r21,rd,p5,hjl',hto,hd1,hd2,w6]
    exact fin ⟨B.edges.length - (j + 1),by omega,j + 1,_,a',rfl,by omega,by omega,y6,ew6,by simp (disch:=omega) only [go_sem,↓cB,dB,r4,r6,r10,r21,rd,hxj]⟩
   have hd2:decide (ed.to' ≠ 1)=true:=by simp [d2]
   rw [decide_eq_false d2] at w6
   simp only [Bool.not_false,Bool.and_self] at w6
   simp (disch:=omega) only [go_sem,↓cB,dB,r4,r6,r10,r21,rd,p5,hjl']
   refine draw0 (lk [(0,true),(1,true),(2,true),(3,true),(4,true),(5,true),(6,true),(7,true),(8,true),(9,true),(10,true),(11,true),(12,true),(13,true),(14,true),(15,true),(16,true),(17,true),(18,true),(19,true),(20,true),(21,true)] (.act 22 .fin .non)) T.mixed ?_
   simp (disch:=omega) only [go_sem,↓cB,dB,r4,r6,r10,r21,rd,p5,hjl',hto,hd1,hd2,w6]
   exact fin ⟨B.edges.length - (j + 1),by omega,j + 1,_,a',rfl,by omega,by omega,y6,ew6,by simp (disch:=omega) only [go_sem,↓cB,dB,r4,r6,r10,r21,rd,hxj]⟩
 rw [if_neg e13] at hR
 by_cases e15:(nodeAt l i).kind=15
 ·rw [if_pos e15] at hR
  simp (disch:=omega) only [go_sem,↓cB,dB,e6,e7,e8,e9,e10,e11,e12,e13,e15,lp,Array.size_push]
  refine call_to sput ?_
  intro r1 H1 hv
  refine Hush.out ?_
  obtain ⟨f1,a1,rfl,pw1⟩:=hv
  obtain ⟨X,s1,s2,s3,s4⟩:=y0.x.ret f1 pw1
  refine ⟨?_⟩
  simp (disch:=omega) only [go_sem,↓cB,dB,s1,s2,h2,Array.size_push]
  exact fin ⟨s3,a1,rfl,by rw [hR]; exact s4⟩
 rw [if_neg e15] at hR
 simp (disch:=omega) only [go_sem,↓cB,dB,e6,e7,e8,e9,e10,e11,e12,e13,e15,lp,Array.size_push]
 refine call_to sput ?_
 intro r1 H1 hv
 refine Hush.out ?_
 obtain ⟨f1,a1,rfl,pw1⟩:=hv
 obtain ⟨X,s1,s2,s3,s4⟩:=y0.x.ret f1 pw1
 refine ⟨?_⟩
 simp (disch:=omega) only [go_sem,↓cB,dB,s1,s2,h2,Array.size_push]
 exact fin ⟨s3,a1,rfl,by rw [hR]; exact s4⟩
end
end Go.Proofs.YtmihefbdghjeoaaGreat
