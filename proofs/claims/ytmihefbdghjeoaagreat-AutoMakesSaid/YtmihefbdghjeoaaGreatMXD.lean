/- Texts of this proof, put together: AutP. The conditions of each theorem stand in it. -/
import Derived.Test.YtmihefbdghjeoaaGreatMXC
set_option linter.unusedSimpArgs false
set_option linter.unusedVariables false
namespace Go.Proofs.YtmihefbdghjeoaaGreat
open Go.HL
set_option maxRecDepth 10000
section
variable {H:Heap} {S:Nat→Prop} {mb bb:Nat} {w:MV} {m:Mo} {aps:List AP} {nm:Str} {number:Int} {lv nv xv:Value} {s:Lo}
theorem bdF_cell {j:Nat} {f:FV} (h:(mkF w m aps (bdF lv nv xv s))[j]?=some f) (h1:f.bi=1):f.cell=2∨f.cell=6∨f.cell=7:=by
 match j,h with
 | 0,h | 1,h | 2,h | 3,h | 4,h | 5,h | 6,h =>
  simp only [mkF,bdF,gS,gZ,Option.some.injEq] at h
  subst h
  simp at h1 ⊢
 | j + 7,h=>simp [mkF,bdF] at h
theorem PB.name (x:PB H S mb bb w m aps nm number lv nv xv s) (t:Str):wr H ⟨bb,0,none⟩ (sv t)=some (setH H ⟨bb,0,none⟩ (sv t))∧PB (setH H ⟨bb,0,none⟩ (sv t)) S mb bb w m aps t number lv nv xv s∧FS S H (setH H ⟨bb,0,none⟩ (sv t)):=by
 obtain ⟨w1,x1,q⟩:=x.mb'.put (k:=1) (i:=0) rfl (by simp [bdB]) (fun j f hf h1=>by rcases bdF_cell hf h1 with h | h | h <;> rw [h] <;> decide) (sv t)
 have hbb:¬ S bb:=x.ap.2 _ (mem_wr_box (i:=1) (b:=bdB bb nm number lv nv xv w.tv w.cv) rfl)
 exact ⟨w1,⟨x1,⟨fun y hy=>Nat.lt_of_lt_of_le (x.ap.1 y hy) q.size,x.ap.2⟩⟩,FS.of q (by simpa [bdB] using hbb)⟩
theorem PB.copy (x:PB H S mb bb w m aps nm number lv nv xv s) (t:Int):wr H ⟨bb,1,none⟩ (iv t)=some (setH H ⟨bb,1,none⟩ (iv t))∧PB (setH H ⟨bb,1,none⟩ (iv t)) S mb bb w m aps nm t lv nv xv s∧FS S H (setH H ⟨bb,1,none⟩ (iv t)):=by
 obtain ⟨w1,x1,q⟩:=x.mb'.put (k:=1) (i:=1) rfl (by simp [bdB]) (fun j f hf h1=>by rcases bdF_cell hf h1 with h | h | h <;> rw [h] <;> decide) (iv t)
 have hbb:¬ S bb:=x.ap.2 _ (mem_wr_box (i:=1) (b:=bdB bb nm number lv nv xv w.tv w.cv) rfl)
 exact ⟨w1,⟨x1,⟨fun y hy=>Nat.lt_of_lt_of_le (x.ap.1 y hy) q.size,x.ap.2⟩⟩,FS.of q (by simpa [bdB] using hbb)⟩
theorem PB.vark {H':Heap} (x:PB H S mb bb w m aps nm number lv nv xv s) {va2:Value} {v:Vr} (x5:MB H' (mkB mb { w with va:=va2 } { m with vars:=s.V ++ [v] } :: [bdB bb nm number lv nv xv w.tv w.cv]) (mkF { w with va:=va2 } { m with vars:=s.V ++ [v] } aps (bdF lv nv xv s)))
  (f5:Fr (mb :: own w.va) H H') (hown:∀ y ∈ own va2,y ∈ own w.va∨H.size≤y):PB H' S mb bb { w with va:=va2 } m aps nm number lv nv xv { s with V:=s.V ++ [v] }∧FS S H H':=by
 have hmb:¬ S mb:=x.ap.2 _ (mem_wr_box (i:=0) (b:=mkB mb w { m with vars:=s.V }) rfl)
 have hva:∀ y ∈ own w.va,¬ S y:=fun y hy=>x.ap.2 _ (mem_wr_own (i:=1) (f:=⟨0,3,61,3,w.va,s.V.flatMap vrC⟩) rfl hy)
 refine ⟨⟨x5,fun y hy=>Nat.lt_of_lt_of_le (x.ap.1 y hy) f5.size,?_⟩,FS.of f5 ?_⟩
 ·intro y hy
  have hy':y ∈ wrM [mkB mb w { m with vars:=s.V },bdB bb nm number lv nv xv w.tv w.cv] (mkF w { m with vars:=s.V } aps (bdF lv nv xv s))∨y ∈ own va2:=by
   simp only [wrM,mkB,mkF,bdB,List.map_cons,List.map_nil,List.flatMap_cons,List.mem_append,List.mem_cons] at hy ⊢
   rcases hy with h | h | h | h
   ·exact .inl (.inl h)
   ·exact .inl (.inr (.inl h))
   ·exact .inr h
   ·exact .inl (.inr (.inr (.inr h)))
  rcases hy' with h | h
  ·exact x.ap.2 y h
  ·rcases hown y h with h | h
   ·exact hva y h
   ·exact fun e=>by have:=x.ap.1 y e; omega
 ·intro y hy
  rw [List.mem_cons] at hy
  rcases hy with rfl | hy
  ·exact hmb
  ·exact hva y hy
theorem kids_cnt {l:List Nd} {w:Nat→Nat × Bool} (h:∀ i e,i < l.length→w i=(e,true)→i < e∧e≤l.length):∀ (ks:List Int) (s e:Nat),s≤l.length→walkK l w ks s=(e,true)→ks.length + s≤e
 | [],s,e,hs,hw=>by simp [walkK] at hw; simp; omega
 | k :: ks,s,e,hs,hw=>by
  obtain ⟨a,b,c,d⟩:=walkK_first hw
  have h1:=h s (w s).1 b (by rw [← c])
  have:=kids_cnt h ks (w s).1 e h1.2 d
  simp; omega
theorem walk_drop {l:List Nd} {w:Nat→Nat × Bool} (h:∀ i e,i < l.length→w i=(e,true)→i < e∧e≤l.length) (p:Int→Bool):∀ (ks:List Int) (s e:Nat),s≤l.length→walkK l w ks s=(e,true)→∃ s',s≤s'∧s'≤l.length∧walkK l w (ks.dropWhile p) s'=(e,true)
 | [],s,e,hs,hw=>⟨s,Nat.le_refl _,hs,hw⟩
 | k :: ks,s,e,hs,hw=>by
  by_cases hp:p k=true
  ·obtain ⟨a,b,c,d⟩:=walkK_first hw
   have h1:=h s (w s).1 b (by rw [← c])
   obtain ⟨s',h2,h3,h4⟩:=walk_drop h p ks (w s).1 e h1.2 d
   exact ⟨s',by omega,h3,by rw [List.dropWhile_cons_of_pos hp]; exact h4⟩
  ·exact ⟨s,Nat.le_refl _,hs,by rw [List.dropWhile_cons_of_neg hp]; exact hw⟩
theorem PB.var (x:PB H S mb bb w m aps nm number lv nv xv s) {i:Nat} (hi:i < s.V.length):∃ a o c,w.va=.slice (some ⟨a,o,none⟩) s.V.length c∧cellH H ⟨mb,3,none⟩=some (.slice (some ⟨a,o,none⟩) s.V.length c)∧cellH H ⟨a,o + i * 3,none⟩=some (sv (s.V.getD i ⟨[],0,0⟩).name):=by
 have vv:=x.mb'.vec 1 _ rfl
 have k3:=(x.mb'.blk 0 _ rfl).cell 3
 simp only [mkF,mkB,gS,gZ] at vv k3
 have hlen:(s.V.flatMap vrC).length=s.V.length * 3:=flat_len vrL _
 obtain ⟨a,o,n,c,h1,h2,h3⟩:=vv.cell (by intro e; rw [e] at hlen; simp at hlen; omega)
 rw [hlen] at h2
 have:n=s.V.length:=by omega
 subst this
 refine ⟨a,o,c,h1,by rw [k3,h1],?_⟩
 have hg:=getD_some (d:=(⟨[],0,0⟩:Vr)) hi
 have:=h3 (i * 3) (by rw [hlen]; omega)
 rw [this]
 have h4:=flat_get (f:=vrC) vrL (j:=0) (by omega) _ i _ hg
 rw [Nat.add_zero] at h4
 rw [h4]; rfl
end
section
variable {H:Heap} {S Z:Nat→Prop} {mb:Nat} {w:MV} {m:Mo} {aps:List AP} {l:List Nd}
set_option maxHeartbeats 4000000 in
theorem auProc_spec (x:MkS H S Z mb w l m aps) (hZ:∀ y,Z y→S y) (hz:Sz l) (hr:prRightM l=true) (hl:m.vars.length≤3000000∧m.procs.length≤10000∧m.chans.length≤1000000) {item e before:Nat} {number:Int} (hil:item < l.length) (hk3:(nodeAt l item).kind=3)
  (hw:walkM l 19 item=(e,true)) (hbef:before≤m.vars.length∧before≤1000)
  (hN:∀ (X:List Int),NmOk l ⟨(locM l (nodeAt l item).kids (lo0 m before)).2.N,X,m.chans.map Ch.name⟩ (item + 1) e) :
  CallF Tryz.prog 14 [hp mb,iv item,iv number,iv before] H (fun r H'=>FS S H H'∧∃ w' aps',MkS H' S Z mb w' l (prcM l m item number before) aps'∧w'.tv=w.tv) NoP:=by
 have bm:=x.mb'.blk 0 _ rfl
 have kt:=bm.cell 0
 have kc:=bm.cell 2
 simp only [mkB,gS,gZ] at kt kc
 have hgi:=getD_some (d:=nd0') hil
 obtain ⟨tb,to,tc,a,q1,q2,ar,ld,-⟩:=x.nl.row hgi
 have hnd:l.getD item nd0'=nodeAt l item:=rfl
 rw [hnd] at q2 ld
 obtain ⟨nn,x1,c1,x2,c2,x3,c3,rfl⟩:=ar.open
 simp only at q2 ld
 subst q2
 rw [q1] at kt
 obtain ⟨A1,hA1⟩:∃ A,A=H.push (.cells #[iv (nodeAt l item).kind,.slice x1 (nodeAt l item).words.length c1,.slice x2 (nodeAt l item).nums.length c2,.slice x3 (nodeAt l item).kids.length c3,iv (nodeAt l item).pos] 47):=⟨_,rfl⟩
 have g1:Fr [] H A1:=by rw [hA1]; exact Fr.push
 have z1:A1.size=H.size + 1:=by rw [hA1]; simp
 have bn:Blk A1 H.size 47 [iv (nodeAt l item).kind,.slice x1 (nodeAt l item).words.length c1,.slice x2 (nodeAt l item).nums.length c2,.slice x3 (nodeAt l item).kids.length c3,iv (nodeAt l item).pos]:=by rw [hA1]; exact Blk.new rfl
 obtain ⟨ac,cc,hcv⟩:∃ ac cc,w.cv=.slice ac m.chans.length cc:=by
  obtain ⟨a1,n1,c1,e1,h1⟩:=(x.mb'.vec 0 _ rfl).len
  simp only [mkF,gZ] at e1 h1
  rw [flat_len chL] at h1
  have:n1=m.chans.length:=by omega
  subst this
  exact ⟨a1,c1,e1⟩
 rw [hcv] at kc
 have kt1:=g1.cell' kt (by simp)
 have kc1:=g1.cell' kc (by simp)
 obtain ⟨hl',hhl⟩:∃ hl',hl'=hldL A1 [⟨mb,0,none⟩,⟨mb,2,none⟩]:=⟨_,rfl⟩
 have hok:heldOK hl' A1:=by rw [hhl]; exact hld_ok
 have l0:lookA hl' ⟨mb,0,none⟩=some (.slice (some ⟨tb,to,none⟩) l.length tc):=by rw [hhl]; exact hld_at kt1 (by simp)
 have l2:lookA hl' ⟨mb,2,none⟩=some (.slice ac m.chans.length cc):=by rw [hhl]; exact hld_at kc1 (by simp)
 refine callF_of Tryz.func14 rfl Tryz.ntmps14 Tryz.results14 (by decide) rfl ?_
 simp (disch:=omega) only [go_sem,↓cB,dB,kt,ld]
 rw [← hA1]
 refine draw1 (lk [(0,false),(1,false),(2,false),(3,false),(4,false),(5,false),(6,false),(7,false),(8,false),(9,false),(10,false)] (.act 11 (.actd 12 .fin) .non)) T.mixed hl' hok ?_
 try (simp (disch:=omega) only [go_sem,↓cB,dB,l0,l2])
 try refine held_by hok ?_
 try (simp (disch:=omega) only [go_sem,↓cB,dB,l0,l2])
 obtain ⟨W0,hW0⟩:∃ W0,W0=wrM [mkB mb w m] (mkF w m aps []):=⟨_,rfl⟩
 have hWlt:∀ y ∈ W0,y < H.size:=by rw [hW0]; exact x.mb'.lt
 obtain ⟨S',hS'⟩:∃ S':Nat→Prop,S'=fun y=>y < A1.size∧y ∉ W0:=⟨_,rfl⟩
 have xA:=x.mb'.grow g1
 have apA:Apart S' A1 [mkB mb w m] (mkF w m aps []):=by
  rw [hS',hW0]; exact ⟨fun y hy=>hy.1,fun y hy h=>h.2 hy⟩
 have hSS:∀ y,S y→S' y:=by
  intro y hy
  rw [hS',hW0]
  exact ⟨by have:=x.ap.1 y hy; omega,fun h=>x.ap.2 y h hy⟩
 obtain ⟨Ap,hAp⟩:∃ A,A=A1.push (.cells #[sv [],iv 0,nilS,iv 0,nilS,nilS,nilS,nilS,nilS,nilS] 82):=⟨_,rfl⟩
 have gp:Fr [] A1 Ap:=by rw [hAp]; exact Fr.push
 have bp:Blk Ap A1.size 82 [sv [],iv 0,nilS,iv 0,nilS,nilS,nilS,nilS,nilS,nilS]:=by rw [hAp]; exact Blk.new rfl
 obtain ⟨A2,e2,b2,f2⟩:=store_blk (P:=Tryz.prog) (ty:=82) (new:=[sv [],iv 0,nilS,iv 0,nilS,nilS,nilS,nilS,w.tv,w.cv]) bp rfl T.size82 (by rw [q1,hcv]; exact one_all rfl)
 have g2:Fr [] A1 A2:=Fr.more gp f2 (by simp)
 have bbW:A1.size ∉ W0:=fun h=>by have:=hWlt _ h; omega
 have pb0:=PB.new (bb:=A1.size) (xA.grow g2) (apA.grow g2.size) b2 (by rw [← hW0]; exact bbW) (by rw [hS']; exact fun h=>by have:=h.1; omega)
 have hn:S' H.size:=by rw [hS']; exact ⟨by omega,fun h=>by have:=hWlt _ h; omega⟩
 rw [q1,hcv] at e2
 try refine held_by (hld_fr hok (Fr.push (F:=[])) (by simp)) ?_
 rw [← hAp]
 try (simp (disch:=omega) only [go_sem,↓cB,dB,l0,l2,e2])
 try refine held_by (hld_fr hok g2 (by simp)) ?_
 try (simp (disch:=omega) only [go_sem,↓cB,dB,l0,l2,e2])
 have hrw:=ar.w
 have hrk:=ar.k
 have hrkc:=ar.kc _ _ _ rfl
 simp only at hrw hrk
 have hwl:(nodeAt l item).words.length=1:=by rw [wok_of hr hil,hk3]; rfl
 obtain ⟨wb,wo,wc,w1',hwS,w2'⟩:=hrw.at1 (getD_some (d:=([]:Str)) (i:=0) (by omega))
 simp only [Value.slice.injEq,true_and] at w1'
 obtain ⟨rfl,rfl⟩:=w1'
 rw [Nat.add_zero] at w2'
 have ew0:(nodeAt l item).words.getD 0 []=w0 (nodeAt l item):=rfl
 rw [ew0] at w2'
 have w22:=(g1.trans g2).cell' w2' (by simp)
 have n1':=(g2.blk bn (by simp)).cell 1
 simp only [gS,gZ] at n1'
 obtain ⟨u1,pb1,s1⟩:=pb0.name (w0 (nodeAt l item))
 obtain ⟨u2,pb2,s2⟩:=pb1.copy number
 obtain ⟨A4,hA4⟩:∃ A,A=setH (setH A2 ⟨A1.size,0,none⟩ (sv (w0 (nodeAt l item)))) ⟨A1.size,1,none⟩ (iv number):=⟨_,rfl⟩
 rw [← hA4] at u2 pb2 s2
 have s12:FS S' A1 A4:=(FS.of g2 (by simp)).trans (s1.trans s2)
 try (simp (disch:=omega) only [go_sem,↓cB,dB,n1',w22,u1,u2])
 have z4:=s12.size
 obtain ⟨bb,hbb⟩:∃ bb,bb=A1.size:=⟨_,rfl⟩
 rw [← hbb] at pb2 ⊢
 have hgl:=fun i=>gloM_len (V:=m.vars) i
 refine loop_by (fun k ρ H2=>∃ (i:Nat) (nv xv:Value),k=before - i∧i≤before∧FS S' A1 H2∧PB H2 S' mb bb w m aps (w0 (nodeAt l item)) number nilS nv xv ⟨m.vars,[],(gloM m.vars i).1,(gloM m.vars i).2⟩ ∧
   (ρ.get 0=hp mb∧ρ.get 1=iv item∧ρ.get 8=hp H.size∧ρ.get 9=hp bb∧ρ.get 43=iv before∧ρ.get 44=iv i∧ρ.ds = [])) (k:=before) ?_ ?_
 ·exact ⟨0,nilS,nilS,rfl,by omega,s12,pb2,by simp (disch:=omega) only [go_sem,↓cB,dB,hbb]⟩
 ·clear pb0 pb1 pb2 u1 u2
  rintro k ρ H2 ⟨i,nv,xv,rfl,hi,sF,pb,r0,r1,r8,r9,r43,r44,rd⟩
  have hxi:(i:Int) + 1=((i + 1:Nat):Int):=by omega
  by_cases hib:i < before
  ·obtain ⟨va,vo,vc,v1,v2,v3⟩:=pb.var (i:=i) (by simp only; omega)
   simp only at v1 v2 v3
   obtain ⟨a1,c1',a2,c2',a3,c3',f1,f2',f3⟩:=pb.forms
   simp only at f1 f2' f3
   subst f2' f3
   have bk:=pb.mb'.blk 1 _ rfl
   have k6:=bk.cell 6
   simp only [bdB,gS,gZ] at k6
   have vN:=pb.mb'.vec 5 _ rfl
   simp only [mkF,bdF,gS,gZ] at vN
   have nbN:=pb.mb'.nb 5 1 _ _ rfl rfl
   simp only [bdB] at nbN
   obtain ⟨hl2,hhl2⟩:∃ hl2,hl2=hldL H2 [⟨bb,6,none⟩]:=⟨_,rfl⟩
   have hok2:heldOK hl2 H2:=by rw [hhl2]; exact hld_ok
   have l6:lookA hl2 ⟨bb,6,none⟩=some (.slice a2 (gloM m.vars i).1.length c2'):=by rw [hhl2]; exact hld_at k6 (by simp)
   have hmem:∀ ad v,lookA hl2 ad=some v→ad.block=bb:=by
    intro ad v hv
    rw [hhl2] at hv
    have:=hld_mem hv
    simp only [List.mem_singleton] at this
    rw [this]
   have hil2:i < m.vars.length:=by omega
   simp (disch:=omega) only [go_sem,↓cB,dB,r0,r1,r8,r9,r43,r44,rd]
   refine draw1 (lk [(0,false),(1,false),(2,false),(3,true),(4,true),(5,true),(6,true),(7,true),(8,true),(9,true),(10,true),(11,true)] (.act 12 (.actd 13 (lk [(14,true),(15,true)] (.actd 16 .fin))) .non)) T.mixed hl2 hok2 ?_
   try (simp (disch:=omega) only [go_sem,↓cB,dB,r0,r1,r8,r9,r43,r44,rd,l6,v2,v3])
   try refine held_by hok2 ?_
   try (simp (disch:=omega) only [go_sem,↓cB,dB,r0,r1,r8,r9,r43,r44,rd,l6,v2,v3])
   try refine held_by (hld_fr hok2 (Fr.push (F:=[])) (by simp)) ?_
   try (simp (disch:=omega) only [go_sem,↓cB,dB,r0,r1,r8,r9,r43,r44,rd,l6,v2,v3])
   refine app_lit1 T.el41 rfl vN rfl (by have:=(hgl i).1; simp; omega) ?_
   intro v' H3 g1' g2' g3' g4'
   refine Hush.out ?_
   rw [List.length_map] at g4'
   obtain ⟨aa,cc',rfl⟩:=g4'
   have hok3:=hld_fr hok2 g2' (fun ad v hv=>by rw [hmem ad v hv]; exact nbN)
   obtain ⟨wN,pbN,sN⟩:=pb.appN (t:=(m.vars.getD i ⟨[],0,0⟩).name) g1' g2' g3'
   obtain ⟨X,hX⟩:∃ X,X=setH H3 ⟨bb,6,none⟩ (.slice aa ((gloM m.vars i).1.length + 1) cc'):=⟨_,rfl⟩
   rw [← hX] at wN pbN sN
   have k7:=(pbN.mb'.blk 1 _ rfl).cell 7
   simp only [bdB,gS,gZ] at k7
   have vX:=pbN.mb'.vec 6 _ rfl
   simp only [mkF,bdF,gS,gZ] at vX
   refine ⟨?_⟩
   try refine held_by hok3 ?_
   try (simp (disch:=omega) only [go_sem,↓cB,dB,r0,r1,r8,r9,r43,r44,rd,l6,wN])
   try refine held_by hok3 ?_
   try (simp (disch:=omega) only [go_sem,↓cB,dB,r0,r1,r8,r9,r43,r44,rd,l6,wN])
   try (simp (disch:=omega) only [go_sem,↓cB,dB,r0,r1,r8,r9,r43,r44,rd,k7])
   refine app_lit1 T.el28 rfl vX rfl (by have:=(hgl i).2; simp; omega) ?_
   intro v'' H5 g1'' g2'' g3'' g4''
   refine Hush.out ?_
   rw [List.length_map] at g4''
   obtain ⟨ab,cb,rfl⟩:=g4''
   obtain ⟨wX,pbX,sX⟩:=pbN.appX (t:=(i:Int)) g1'' g2'' g3''
   refine ⟨?_⟩
   try (simp (disch:=omega) only [go_sem,↓cB,dB,r0,r1,r8,r9,r43,r44,rd,wX])
   exact fin ⟨before - (i + 1),by omega,i + 1,_,_,rfl,by omega,(sF.trans sN).trans sX,pbX,by simp (disch:=omega) only [go_sem,↓cB,dB,r0,r1,r8,r9,r43,r44,rd,hxi]⟩
  obtain rfl:i=before:=by omega
  simp (disch:=omega) only [go_sem,↓cB,dB,r0,r1,r8,r9,r43,r44,rd]
  clear xA apA
  have bn2:=sF.blk bn hn
  have n3':=bn2.cell 3
  simp only [gS,gZ] at n3'
  obtain ⟨RL,hRL⟩:∃ RL,RL=locM l (nodeAt l item).kids (lo0 m i):=⟨_,rfl⟩
  have hw':=hw
  unfold walkM at hw'
  have hKl:=kids_cnt (l:=l) (w:=walkM l 18) (fun i e h1 h2=>by have:=walkM_ok 18 i e h1 h2; exact ⟨this.1,this.2.1⟩) _ _ _ (by omega) hw'
  have hlen8:=(right_facts hr).2.1
  have hel:=(walkM_ok 19 item e hil hw).2.1
  have hkidsl:(nodeAt l item).kids.length≤800:=by
   have e1:(l.getD item nd0').kids=(nodeAt l item).kids:=rfl
   rw [e1] at hKl; omega
  have hkS1:Rd A1 S' 1 (.slice x3 (nodeAt l item).kids.length c3) ((nodeAt l item).kids.map iv):=(hrk.mono (fun y hy _=>hSS y hy)).frame (Keeps.of_fr g1 (by simp))
  have hKn:∀ k ∈ (nodeAt l item).kids,(item:Int) < k∧k < l.length:=fun k hk=>kid_rng hr hil hk
  obtain ⟨K,hK⟩:∃ K,K=(nodeAt l item).kids:=⟨_,rfl⟩
  rw [← hK] at hRL hkidsl hkS1 n3' hKn hrkc
  have nlS:NL A1 S' w.tv l:=(x.nl.mono (fun y hy _=>hSS y hy)).grow g1
  simp (disch:=omega) only [go_sem,dB,n3']
  refine cut_at (fun ρ H3=>∃ (ks:List Int) (aw:Option Addr) (cw:Nat) (va' lv nv xv:Value) (s:Lo),RL=(ks,s)∧(∀ k ∈ ks,k ∈ K)∧ks.length≤cw∧Rd A1 S' 1 (.slice aw ks.length cw) (ks.map iv)∧FS S' A1 H3∧PB H3 S' mb bb { w with va:=va' } m aps (w0 (nodeAt l item)) number lv nv xv s ∧
    (s.V.length≤3000800∧s.N.length≤3000800∧s.X.length≤3000800∧s.L.length≤3000800)∧ks.length≤800 ∧
    (ρ.get 0=hp mb∧ρ.get 1=iv item∧ρ.get 9=hp bb∧ρ.get 11=.slice aw ks.length cw∧ρ.ds = [])) ?_ ?_
  ·try (simp (disch:=omega) only [go_sem,↓cB,dB,n3'])
   refine loop_by (fun k ρ H2=>∃ (ks:List Int) (aw:Option Addr) (cw:Nat) (va' lv nv xv:Value) (s:Lo),k=ks.length∧locM l ks s=RL∧(∀ k ∈ ks,k ∈ K)∧ks.length≤cw∧Rd A1 S' 1 (.slice aw ks.length cw) (ks.map iv)∧FS S' A1 H2∧PB H2 S' mb bb { w with va:=va' } m aps (w0 (nodeAt l item)) number lv nv xv s ∧
    s.V.length + ks.length≤3000800∧s.N.length + ks.length≤3000800∧s.X.length + ks.length≤3000800∧s.L.length + ks.length≤3000800∧ks.length≤800 ∧
    (ρ.get 0=hp mb∧ρ.get 1=iv item∧ρ.get 9=hp bb∧ρ.get 11=.slice aw ks.length cw∧ρ.ds = [])) (k:=K.length) ?_ ?_
   ·exact ⟨K,x3,c3,w.va,nilS,nv,xv,lo0 m i,rfl,hRL.symm,fun _ h=>h,hrkc,hkS1,sF,pb,by simp only [lo0]; omega,by have:=(hgl i).1; simp only [lo0]; omega,by have:=(hgl i).2; simp only [lo0]; omega,by simp only [lo0,List.length_nil]; omega,by omega,by simp (disch:=omega) only [go_sem,↓cB,dB,r0,r1,r8,r9,rd]⟩
   ·clear pb hRL sF n3' r0 r1 r8 r9 r43 r44 rd bn2 hkS1
    rintro k ρ H3 ⟨ks,aw,cw,va',lv,nv,xv,s,rfl,hRL,hin,hcw,hks,sF,pb,b1,b2,b3,b4,b5,r0,r1,r9,r11,rd⟩
    cases ks with
    | nil =>
     have r11':=r11
     simp only [List.length_nil] at r11'
     simp (disch:=omega) only [go_sem,↓cB,dB,r0,r1,r9,r11',rd]
     refine draw0 (lk [(0,true),(1,true),(2,true),(3,true),(4,true),(5,true),(6,true),(7,true),(8,true),(9,true),(10,true),(11,true),(12,true),(13,true),(14,true),(15,true),(16,true)] .fin) T.mixed ?_
     simp (disch:=omega) only [go_sem,↓cB,dB,r0,r1,r9,r11',rd]
     exact fin ⟨[],aw,cw,va',lv,nv,xv,s,by rw [← hRL]; rfl,hin,hcw,hks,sF,pb,by simp only [List.length_nil] at *; omega,b5,by (simp (disch:=omega) only [go_sem,↓cB,dB,r0,r1,r9,r11,rd])⟩
    | cons k ks =>
     have hkr:=hKn k (hin k (by simp))
     obtain ⟨kn,rfl⟩:∃ kn:Nat,k=kn:=⟨k.toNat,by omega⟩
     have hkl:kn < l.length:=by omega
     have kt3:=(pb.mb'.blk 0 _ rfl).cell 0
     simp only [mkB,gZ] at kt3
     have nl3:=nlS.frame (show Keeps S' A1 H3 from fun y hy hl=>sF.same y hl hy)
     have hgk:=getD_some (d:=nd0') hkl
     obtain ⟨tb',to',tc',ak,t1,t2,ark,ldk,kd,-⟩:=nl3.row hgk
     have hndk:l.getD kn nd0'=nodeAt l kn:=rfl
     rw [hndk] at t2 ldk kd
     rw [t1] at kt3
     obtain ⟨nk,y1,d1,y2,d2,y3,d3,rfl⟩:=ark.open
     simp only at t2 ldk
     subst t2
     obtain ⟨kb,ko,kc',p1,-,p2⟩:=(hks.frame (show Keeps S' A1 H3 from fun y hy hl=>sF.same y hl hy)).at1 (i:=0) rfl
     simp only [Value.slice.injEq,true_and] at p1
     obtain ⟨rfl,rfl⟩:=p1
     rw [Nat.add_zero] at p2
     have hl1:(((kn:Int) :: ks).length:Int)=(ks.length:Int) + 1:=by simp
     by_cases hv:(nodeAt l kn).kind=2
     rotate_left
     ·simp (disch:=omega) only [go_sem,↓cB,dB,r0,r1,r9,r11,rd,hl1]
      refine draw0 (lk [(0,true),(1,true),(2,true),(3,true),(4,true),(5,true),(6,true),(7,true),(8,true),(9,true),(10,true),(11,true),(12,true),(13,true),(14,true),(15,true),(16,true)] .fin) T.mixed ?_
      simp (disch:=omega) only [go_sem,↓cB,dB,r0,r1,r9,r11,rd,hl1,kt3,p2,kd]
      have hiv:isVar l (kn:Int)=false:=by unfold isVar; simp [hv]
      exact fin ⟨(kn:Int) :: ks,_,cw,va',lv,nv,xv,s,by rw [← hRL]; unfold locM; rw [if_neg (by simp [hiv])],hin,hcw,hks,sF,pb,by simp only [List.length_cons] at *; omega,b5,by (simp (disch:=omega) only [go_sem,↓cB,dB,r0,r1,r9,r11,rd])⟩
     ·simp (disch:=omega) only [go_sem,↓cB,dB,r0,r1,r9,r11,rd,hl1]
      refine draw0 (lk [(0,true),(1,true),(2,true),(3,true),(4,true),(5,true),(6,true),(7,true),(8,true),(9,true),(10,true),(11,true),(12,true),(13,true),(14,true),(15,true),(16,true)] .fin) T.mixed ?_
      simp (disch:=omega) only [go_sem,↓cB,dB,r0,r1,r9,r11,rd,hl1,kt3,p2,kd]
      refine draw0 (lk [(0,true),(1,true),(2,true),(3,true),(4,true),(5,true),(6,true),(7,true),(8,true),(9,true),(10,true)] (.act 11 (lk [(12,true)] .fin) .non)) T.mixed ?_
      simp (disch:=omega) only [go_sem,↓cB,dB,r0,r1,r9,r11,rd,hl1,kt3,p2,ldk]
      have hwk:(nodeAt l kn).words.length=1:=by rw [wok_of hr hkl,hv]; rfl
      have hnk:(nodeAt l kn).nums.length=2:=by rw [(numsOk_of hr hkl).1,hv]; rfl
      have hvar:=auMVar_spec (bxs:=[bdB bb (w0 (nodeAt l item)) number lv nv xv w.tv w.cv]) (fvs:=bdF lv nv xv s) pb.mb' (by simp only [List.length_cons] at *; omega) ark hwk hnk
      refine call_to hvar ?_
      intro r5 H5 hv5
      refine Hush.out ?_
      obtain ⟨rfl,va2,x5,f5,hown⟩:=hv5
      obtain ⟨pb5,s5⟩:=pb.vark x5 f5 hown
      obtain ⟨a1,c1',a2,c2',a3,c3',f1,f2',f3⟩:=pb5.forms
      simp only at f1 f2' f3
      subst f1 f2' f3
      have kL:=(pb5.mb'.blk 1 _ rfl).cell 2
      simp only [bdB,gS,gZ] at kL
      have vL:=pb5.mb'.vec 4 _ rfl
      simp only [mkF,bdF,gS,gZ] at vL
      refine ⟨?_⟩
      simp (disch:=omega) only [go_sem,↓cB,dB,r0,r1,r9,r11,rd,kL]
      refine app_lit1 T.el28 rfl vL rfl (by simp only [List.length_map,List.length_cons] at *; omega) ?_
      intro v6 H6 g1' g2' g3' g4'
      refine Hush.out ?_
      rw [List.length_map] at g4'
      obtain ⟨a6,c6,rfl⟩:=g4'
      obtain ⟨w6,pb6,s6⟩:=pb5.appL (t:=(s.V.length:Int)) g1' g2' g3'
      obtain ⟨X6,hX6⟩:∃ X,X=setH H6 ⟨bb,2,none⟩ (.slice a6 (s.L.length + 1) c6):=⟨_,rfl⟩
      rw [← hX6] at w6 pb6 s6
      obtain ⟨va3,vo3,vc3,v1,v2,v3⟩:=pb6.var (i:=s.V.length) (by simp)
      have hnm:((s.V ++ [vrO (nodeAt l kn)]).getD s.V.length ⟨[],0,0⟩).name=w0 (nodeAt l kn):=by simp [vrO]
      simp only [hnm] at v2 v3
      have k6:=(pb6.mb'.blk 1 _ rfl).cell 6
      simp only [bdB,gS,gZ] at k6
      have vN:=pb6.mb'.vec 5 _ rfl
      simp only [mkF,bdF,gS,gZ] at vN
      have nbN:=pb6.mb'.nb 5 1 _ _ rfl rfl
      simp only [bdB] at nbN
      obtain ⟨hl2,hhl2⟩:∃ hl2,hl2=hldL X6 [⟨bb,6,none⟩]:=⟨_,rfl⟩
      have hok2:heldOK hl2 X6:=by rw [hhl2]; exact hld_ok
      have l6:lookA hl2 ⟨bb,6,none⟩=some (.slice a2 s.N.length c2'):=by rw [hhl2]; exact hld_at k6 (by simp)
      have hmem:∀ ad v,lookA hl2 ad=some v→ad.block=bb:=by
       intro ad v hv
       rw [hhl2] at hv
       have:=hld_mem hv
       simp only [List.mem_singleton] at this
       rw [this]
      have hlv:(s.V ++ [vrO (nodeAt l kn)]).length=s.V.length + 1:=by simp
      rw [hlv] at v2
      refine ⟨?_⟩
      simp (disch:=omega) only [go_sem,↓cB,dB,r0,r1,r9,r11,rd,w6]
      refine draw1 (lk [(0,false),(1,false),(2,false),(3,true),(4,true),(5,true),(6,true),(7,true),(8,true),(9,true),(10,true),(11,true)] (.act 12 (.actd 13 (lk [(14,true),(15,true)] (.actd 16 .fin))) .non)) T.mixed hl2 hok2 ?_
      try (simp (disch:=omega) only [go_sem,↓cB,dB,r0,r1,r9,r11,rd,l6,v2,v3])
      try refine held_by hok2 ?_
      try (simp (disch:=omega) only [go_sem,↓cB,dB,r0,r1,r9,r11,rd,l6,v2,v3])
      try refine held_by (hld_fr hok2 (Fr.push (F:=[])) (by simp)) ?_
      try (simp (disch:=omega) only [go_sem,↓cB,dB,r0,r1,r9,r11,rd,l6,v2,v3])
      refine app_lit1 T.el41 rfl vN rfl (by simp only [List.length_map,List.length_cons] at *; omega) ?_
      intro v7 H7 g1'' g2'' g3'' g4''
      refine Hush.out ?_
      rw [List.length_map] at g4''
      obtain ⟨a7,c7,rfl⟩:=g4''
      have hok3:=hld_fr hok2 g2'' (fun ad v hv=>by rw [hmem ad v hv]; exact nbN)
      obtain ⟨w7,pb7,s7⟩:=pb6.appN (t:=w0 (nodeAt l kn)) g1'' g2'' g3''
      obtain ⟨X7,hX7⟩:∃ X,X=setH H7 ⟨bb,6,none⟩ (.slice a7 (s.N.length + 1) c7):=⟨_,rfl⟩
      rw [← hX7] at w7 pb7 s7
      have k7:=(pb7.mb'.blk 1 _ rfl).cell 7
      simp only [bdB,gS,gZ] at k7
      have vX:=pb7.mb'.vec 6 _ rfl
      simp only [mkF,bdF,gS,gZ] at vX
      refine ⟨?_⟩
      try refine held_by hok3 ?_
      try (simp (disch:=omega) only [go_sem,↓cB,dB,r0,r1,r9,r11,rd,l6,w7])
      try refine held_by hok3 ?_
      try (simp (disch:=omega) only [go_sem,↓cB,dB,r0,r1,r9,r11,rd,l6,w7])
      try (simp (disch:=omega) only [go_sem,↓cB,dB,r0,r1,r9,r11,rd,k7])
      refine app_lit1 T.el28 rfl vX rfl (by simp only [List.length_map,List.length_cons] at *; omega) ?_
      intro v8 H8 g1' g2' g3' g4'
      refine Hush.out ?_
      rw [List.length_map] at g4'
      obtain ⟨a8,c8,rfl⟩:=g4'
      obtain ⟨w8,pb8,s8⟩:=pb7.appX (t:=(s.V.length:Int)) g1' g2' g3'
      have hiv:isVar l (kn:Int)=true:=by unfold isVar; simp [hv]
      have htl:=Rd.tail1 (x:=iv kn) (xs:=ks.map iv) hks hcw
      refine ⟨?_⟩
      try (simp (disch:=omega) only [go_sem,↓cB,dB,r0,r1,r9,r11,rd,w8,hl1])
      simp only [List.length_cons] at hcw b1 b2 b3 b4 b5
      refine fin ⟨ks.length,by simp,ks,_,cw - 1,va2,_,_,_,_,rfl,?_,fun x hx=>hin x (List.mem_cons_of_mem _ hx),by omega,htl,((((sF.trans s5).trans s6).trans s7).trans s8),pb8,by simp only [List.length_append,List.length_cons,List.length_nil]; omega,by simp only [List.length_append,List.length_cons,List.length_nil]; omega,by simp only [List.length_append,List.length_cons,List.length_nil]; omega,by simp only [List.length_append,List.length_cons,List.length_nil]; omega,by omega,by (simp (disch:=omega) only [go_sem,↓cB,dB,r0,r1,r9,r11,rd,hl1]) <;> simp⟩
      rw [← hRL]
      conv=>rhs; unfold locM
      rw [if_pos hiv]
      rfl
  ·have hRL0:=hRL
   clear pb hRL sF n3' r0 r1 r8 r9 r43 r44 rd bn2 hkS1
   rintro ρ H3 ⟨ks,aw,cw,va',lv,nv,xv,s,hRL,hin,hcw,hks,sF,pb,-,b5,r0,r1,r9,r11,rd⟩
   obtain ⟨a1,c1',a2,c2',a3,c3',f1,f2',f3⟩:=pb.forms
   subst f1 f2' f3
   obtain ⟨lv,hlv⟩:∃ lv,lv=Value.slice a1 s.L.length c1':=⟨_,rfl⟩
   obtain ⟨nv,hnv⟩:∃ nv,nv=Value.slice a2 s.N.length c2':=⟨_,rfl⟩
   obtain ⟨xv,hxv⟩:∃ xv,xv=Value.slice a3 s.X.length c3':=⟨_,rfl⟩
   rw [← hlv,← hnv,← hxv] at pb
   have hL:=locM_eq (l:=l) K (lo0 m i)
   have hsh:=(shp_of hr hil).prc hk3
   rw [← hK] at hsh
   have hw2:walkK l (walkM l 18) K (item + 1)=(e,true):=by rw [hK]; exact hw'
   rw [← hRL0,hRL] at hL
   simp only [lo0] at hL
   obtain ⟨hL1,hL2,hL3,hL4,hL5⟩:=hL
   have htw:(K.takeWhile (isVar l)).length≤K.length:=(List.takeWhile_prefix _).length_le
   have hNl:s.N.length≤1000000:=by rw [hL3,List.length_append,List.length_map,(hgl i).1]; omega
   have hX:s.X.length=s.N.length:=hL5 (by rw [(hgl i).1,(hgl i).2])
   have xb0:=pb.bm (nlS.frame (fun y hy hl=>sF.same y hl hy)) hX hNl hl.2.2
   obtain ⟨E,hE⟩:∃ E,E=peE H3 bb l m { w with va:=va' } (w0 (nodeAt l item)) number lv nv xv s:=⟨_,rfl⟩
   have xd:=fun {H5:Heap} {rv ev:Value} {b:Bs}=>pb.done (H5:=H5) (l:=l) (rv:=rv) (ev:=ev) (b:=b) (Z:=Z)
   rw [← hE] at xb0 xd
   have hEb:E.bb=bb:=by rw [hE]; rfl
   have hEl:E.l=l:=by rw [hE]; rfl
   have hEm:E.m=⟨s.N,s.X,m.chans.map Ch.name⟩:=by rw [hE]; rfl
   have hES:∀ y,S' y→E.S y:=by
    intro y hy
    rw [hE]
    refine ⟨by have:=pb.ap.1 y hy; omega,fun e=>?_⟩
    rw [e] at hy
    exact pb.ap.2 _ (mem_wr_box (i:=1) (b:=bdB bb (w0 (nodeAt l item)) number lv nv xv w.tv w.cv) rfl) hy
   have sp1:=auPlace_spec xb0 (by simp)
   rw [hEb] at sp1
   simp (disch:=omega) only [go_sem,↓cB,dB,r0,r1,r9,r11,rd]
   refine call_to sp1 ?_
   intro r4 H4 hv4
   refine Hush.out ?_
   obtain ⟨⟨q4,rv4,ev4,xb4⟩,rfl⟩:=hv4
   have sp2:=auPlace_spec xb4 (by simp [plM])
   rw [hEb] at sp2
   refine ⟨?_⟩
   simp (disch:=omega) only [go_sem,↓cB,dB,r0,r1,r9,r11,rd]
   refine call_to sp2 ?_
   intro r5 H5 hv5
   refine Hush.out ?_
   obtain ⟨⟨q5,rv5,ev5,xb5⟩,rfl⟩:=hv5
   have ep:plM (plM ⟨[],[]⟩)=⟨[false,false],[]⟩:=rfl
   rw [ep] at xb5
   obtain ⟨ra,ro,rc,e1,e2,xb6,q6⟩:=xb5.idle (i:=1) (by simp)
   have k4:=xb5.box.cell 4
   simp only [bC,gS,gZ,hEb] at k4
   rw [e1] at k4
   have el:((plM ⟨[],[]⟩).rest.length:Int)=1:=rfl
   refine ⟨?_⟩
   have el2:(([false,false]:List Bool).length:Int)=2:=rfl
   simp (disch:=omega) only [go_sem,↓cB,dB,r0,r1,r9,r11,rd,k4,e2,el,el2]
   obtain ⟨X6,hX6⟩:∃ X,X=setH H5 ⟨ra,ro + 1,none⟩ (.bool true):=⟨_,rfl⟩
   have eb:({ (⟨[false,false],[]⟩:Bs) with rest:=([false,false]:List Bool).set 1 true }:Bs)=⟨[false,true],[]⟩:=rfl
   rw [eb] at xb6
   rw [← hX6] at xb6 q6 ⊢
   obtain ⟨s',hs1,hs2,hs3⟩:=walk_drop (l:=l) (w:=walkM l 18) (fun i e h1 h2=>by have:=walkM_ok 18 i e h1 h2; exact ⟨this.1,this.2.1⟩) (isVar l) K (item + 1) e (by omega) hw2
   rw [← hL1] at hs3
   have hN':NmOk l E.m (item + 1) e:=by
    have:=hN s.X
    rw [← hK,← hRL0,hRL] at this
    rw [hEm]; exact this
   have q46:=q4.trans (q5.trans q6)
   have hkS6:Rd X6 E.Sp 1 (.slice aw ks.length cw) (ks.map iv):=((hks.frame (show Keeps S' A1 H3 from fun y hy hl=>sF.same y hl hy)).mono (fun y hy _=>hES y hy)).frame (show Keeps E.S H3 X6 from fun y hy hl=>q46.same y hl hy)
   have sq:=sqA_of (stat_all (m:=E.m) hz hr 18 E hEl rfl) (by rw [hEl]; exact stat_up hr 18) (node:=(item:Int)) (to':=1) (f:=0) (ks:=ks) (s:=s') (e:=e) xb6 (by rw [hEl]; exact hs2) (by rw [hEl]; exact hs3) (by rw [hEl]; exact hN'.sub hs1 (Nat.le_refl _))
    (by rw [hEl]; intro k hk; rw [hL1] at hk; exact hsh k hk) hkS6 (by intro a n c e; simp only [Value.slice.injEq] at e; omega) (by omega) (by simp) (by unfold Room; simp only [List.length_cons,List.length_nil]; omega)
   rw [hEb] at sq
   obtain ⟨B,hB⟩:∃ B,B=seqM (statM l E.m 18) (item:Int) ks ((0:Nat):Int) 1 ⟨[false,true],[]⟩:=⟨_,rfl⟩
   rw [← hB] at sq
   refine call_to sq ?_
   intro r7 H7 hv7
   refine Hush.out ?_
   obtain ⟨q7,rv7,ev7,xb7⟩:=hv7
   obtain ⟨x0,ap0,sS,newA⟩:=xd xb7 (q46.trans q7) (fun y hy=>hSS y (hZ y hy))
   obtain ⟨a4,c4',a5,c5',f4,f5⟩:=xb7.forms
   have ldb:cellsH (cellH H7) ⟨bb,0,none⟩ 0 8=some [sv (w0 (nodeAt l item)),iv number,lv,iv B.rest.length,rv7,ev7,nv,xv]:=by
    have hb7:=xb7.box
    rw [hEb] at hb7
    have e3:bC E B.rest.length rv7 ev7 = [] ++ [sv (w0 (nodeAt l item)),iv number,lv,iv B.rest.length,rv7,ev7,nv,xv] ++ [w.tv,w.cv]:=by rw [hE]; rfl
    rw [e3] at hb7
    exact hb7.cells
   have k8:=(x0.blk 0 _ rfl).cell 4
   have v8:=x0.vec 2 _ rfl
   have nb8:=x0.nb 2 0 _ _ rfl rfl
   simp only [mkF,mkB,gS,gZ] at k8 v8 nb8
   have hpl:aps.length=m.procs.length:=by rw [← x.ps,List.length_map]
   obtain ⟨a8,c8,hpv⟩:∃ a8 c8,w.pv=.slice a8 aps.length c8:=by
    obtain ⟨a1,n1,c1,e1,h1⟩:=v8.len
    rw [flat_len apL] at h1
    have:n1=aps.length:=by omega
    subst this
    exact ⟨a1,c1,e1⟩
   rw [hpv] at k8 v8
   obtain ⟨hl3,hhl3⟩:∃ hl3,hl3=hldL H7 [⟨mb,4,none⟩]:=⟨_,rfl⟩
   have hok3:heldOK hl3 H7:=by rw [hhl3]; exact hld_ok
   have l4:lookA hl3 ⟨mb,4,none⟩=some (.slice a8 aps.length c8):=by rw [hhl3]; exact hld_at k8 (by simp)
   have hmem3:∀ ad v,lookA hl3 ad=some v→ad.block=mb:=by
    intro ad v hv
    rw [hhl3] at hv
    have:=hld_mem hv
    simp only [List.mem_singleton] at this
    rw [this]
   obtain ⟨a,ha⟩:∃ a:AP,a=⟨⟨w0 (nodeAt l item),number,s.L,B.rest,B.edges,s.N,s.X⟩,lv,rv7,ev7,nv,xv⟩:=⟨_,rfl⟩
   rw [← ha] at newA
   rw [hlv,hnv,hxv,f4,f5] at ldb
   have hca:apC a = [sv (w0 (nodeAt l item)),iv number,lv,iv B.rest.length,rv7,ev7,nv,xv]:=by rw [ha]; rfl
   rw [hlv,hnv,hxv,f4,f5] at hca
   refine ⟨?_⟩
   simp (disch:=omega) only [go_sem,↓cB,dB,r0,r1,r9,r11,rd]
   refine draw1 (lk [(0,false),(1,false),(2,false),(3,false),(4,false),(5,false),(6,true),(7,true)] (.act 8 (.act 9 (lk [(10,true),(11,true),(12,true)] (.actd 13 .fin)) .non) .non)) T.mixed hl3 hok3 ?_
   try (simp (disch:=omega) only [go_sem,↓cB,dB,r0,r1,r9,r11,rd,l4,ldb])
   try refine held_by hok3 ?_
   try (simp (disch:=omega) only [go_sem,↓cB,dB,r0,r1,r9,r11,rd,l4,ldb])
   try refine held_by (hld_fr hok3 (Fr.push (F:=[])) (by simp)) ?_
   try (simp (disch:=omega) only [go_sem,↓cB,dB,r0,r1,r9,r11,rd,l4,ldb])
   refine app_lit (n:=1) (new:=[sv (w0 (nodeAt l item)),iv number,.slice a1 s.L.length c1',iv B.rest.length,.slice a4 B.rest.length c4',.slice a5 B.edges.length c5',.slice a2 s.N.length c2',.slice a3 s.X.length c3']) T.el27 rfl v8 (one_all rfl) rfl (by intro a' l c e; simp only [Value.slice.injEq] at e; obtain ⟨_,rfl,_⟩:=e; omega) ?_
   intro v9 H9 ga gb gc gd
   refine Hush.out ?_
   obtain ⟨a9,c9,rfl⟩:=gd _ _ _ rfl
   rw [← hca] at ga
   rw [← hpv] at gb gc
   have hold:∀ c ∈ aps,APR H7 (fun y=>S' y∧¬ Z y) c:=fun c hc=>(((x.pr c hc).mono (S':=fun y=>S' y∧¬ Z y) (fun y hy hl=>⟨by rw [hS',hW0]; exact ⟨by omega,hy.1⟩,hy.2⟩)).frame (Keeps.of_fr g1 (by simp))).frame (fun y hy hl=>(sF.trans sS).same y hl hy.1)
   obtain ⟨w9,s9,m9⟩:=MkS.app x0 ap0 (a:=a) x.ps hold newA (fun y hy=>hSS y (hZ y hy)) (nlS.frame (fun y hy hl=>(sF.trans sS).same y hl hy)) ga gb gc
   obtain ⟨X9,hX9⟩:∃ X,X=setH H9 ⟨mb,4,none⟩ (.slice a9 (aps.length + 1) c9):=⟨_,rfl⟩
   rw [← hX9] at w9 s9 m9
   have hok4:=hld_fr hok3 gb (fun ad v hv=>by rw [hmem3 ad v hv]; exact nb8)
   have sAll:FS S H X9:=(FS.of g1 (by simp)).trans (((sF.trans sS).trans s9).sub hSS)
   have ePrc:prcM l m item number i = { ({ m with vars:=s.V }:Mo) with procs:=m.procs ++ [a.p] }:=by
    unfold prcM
    rw [← hK,← hRL0,hRL,ha,hB,hEm]
    rfl
   refine ⟨?_⟩
   try refine held_by hok4 ?_
   try (simp (disch:=omega) only [go_sem,↓cB,dB,r0,r1,r9,r11,rd,w9])
   try refine held_by hok4 ?_
   try (simp (disch:=omega) only [go_sem,↓cB,dB,r0,r1,r9,r11,rd,w9])
   have mF:MkS X9 S Z mb { ({ w with va:=va' }:MV) with pv:=.slice a9 (aps.length + 1) c9 } l (prcM l m item number i) (aps ++ [a]):=by
    rw [ePrc]
    exact ⟨m9.mb',⟨fun y hy=>m9.ap.1 y (hSS y hy),fun y hy h=>m9.ap.2 y hy (hSS y h)⟩,m9.ps,m9.pr,x.nl.frame (fun y hy hl=>sAll.same y hl hy)⟩
   exact fin ⟨sAll,_,_,mF,rfl⟩
end
end Go.Proofs.YtmihefbdghjeoaaGreat
