/- Texts of this proof, put together: RefA, RefB, RefC, RefD. The conditions of each theorem stand in it. -/
import Derived.Test.YtcffdpmmadipeaaGreatDoorMXC
import Derived.Test.YtcffdpmmadipeaaGreatDoorMXA
set_option linter.unusedSimpArgs false
set_option linter.unusedVariables false
namespace Go.Proofs.YtcffdpmmadipeaaGreatDoor
open Go.HL
set_option maxRecDepth 10000
section
variable {H H':Heap} {p N a:Nat} {v:Value} {l:List Nd} {n:Nd} {k r:Fo} {ks:List Int} {xw xn xk:Option Addr} {s:Str}
theorem lev6 (n:Nd):decide (levN n < 6)=decide (n.kind=22):=by
 unfold levN
 have:=levS_rng (n.nums.getD 0 0)
 by_cases e:n.kind=22
 ·rw [if_pos e,decide_yes e,decide_yes (by omega)]
 ·rw [if_neg e,decide_no e,decide_no (by omega)]
theorem r10num_spec {z:Int} (h:-999999≤z∧z≤999999):CallF Tryz.prog 15 [iv z] H (fun r H'=>Fr [] H H'∧r=sv (digI z)) NoP:=by
 refine callF_of Tryz.func15 rfl Tryz.ntmps15 Tryz.results15 (by decide) rfl ?_
 simp (disch:=omega) only [go_sem,↓cB,dB]
 refine call_to (r1Digits_spec h) ?_
 rintro _ H2 ⟨rfl,f2⟩
 simp (disch:=omega) only [go_sem,↓cB,dB]
 exact fin ⟨f2,rfl⟩
theorem r10paren_spec {b:Bool} (hs:s.length≤10000000):CallF Tryz.prog 16 [sv s,.bool b] H (fun r H'=>H=H'∧r=sv (parS b s)) NoP:=by
 refine callF_of Tryz.func16 rfl Tryz.ntmps16 Tryz.results16 (by decide) rfl ?_
 cases b
 ·simp (disch:=omega) only [go_sem,↓cB,dB]
  exact fin ⟨rfl,rfl⟩
 ·simp (disch:=omega) only [go_sem,↓cB,dB,List.length_cons,List.length_nil,List.length_append]
  exact fin ⟨rfl,by simp [parS]⟩
theorem r10opt_spec {z:Int} (hz:z=0∨z=1):CallF Tryz.prog 43 [iv z,sv s] H (fun r H'=>H=H'∧r=sv (optS z s)) NoP:=by
 refine callF_of Tryz.func43 rfl Tryz.ntmps43 Tryz.results43 (by decide) rfl ?_
 rcases hz with rfl | rfl
 ·simp (disch:=omega) only [go_sem,↓cB,dB]
  exact fin ⟨rfl,rfl⟩
 ·simp (disch:=omega) only [go_sem,↓cB,dB]
  exact fin ⟨rfl,rfl⟩
theorem r10level_spec {m cw cn ck:Nat} {kd:List Int} (hok:okN n kd=true) (nx:NX H p n ks xw xn xk) (hp:p≤H.size):CallF Tryz.prog 17 [.agg (ndV n m xw xn xk cw cn ck).toArray] H (fun r H'=>Fr [] H H'∧r=iv (levN n)) NoP:=by
 obtain ⟨A1,hA1⟩:∃ A,A=H.push (.cells (ndV n m xw xn xk cw cn ck).toArray 28):=⟨_,rfl⟩
 have g1:Fr [] H A1:=by rw [hA1]; exact Fr.push
 have bn:Blk A1 H.size 28 (ndV n m xw xn xk cw cn ck):=by rw [hA1]; exact Blk.new rfl
 have k0:=bn.cell 0
 have k2:=bn.cell 2
 simp only [ndV,gS,gZ] at k0 k2
 have nx1:NX A1 p n ks xw xn xk:=nx.keep (fun b hb=>g1.same b (by omega) (by simp))
 unfold ndV at hA1 ⊢
 refine callF_of Tryz.func17 rfl Tryz.ntmps17 Tryz.results17 (by decide) rfl ?_
 simp (disch:=omega) only [go_sem,↓cB,dB]
 rw [← hA1]
 by_cases h22:n.kind=22
 ·have hn0:=okN_num hok (i:=0) (by rw [h22]; decide)
  have hg0:=n0_get hok (i:=0) (by rw [h22]; decide)
  rw [h22] at hn0
  have hr:0≤n.nums.getD 0 0∧n.nums.getD 0 0≤8:=hn0
  obtain ⟨nb,no,rfl,hnb,hnc⟩:=nx1.u 0 _ hg0
  rw [Nat.add_zero] at hnc
  have hul1:n.nums.length=1:=by rw [okN_ul hok,h22]; rfl
  have hlev:levN n=levS (n.nums.getD 0 0):=by unfold levN; rw [if_pos h22]
  rw [hlev]
  generalize n.nums.getD 0 0=z at *
  have hz:z=0∨z=1∨z=2∨z=3∨z=4∨z=5∨z=6∨z=7∨z=8:=by omega
  rcases hz with rfl | rfl | rfl | rfl | rfl | rfl | rfl | rfl | rfl <;>
  ·try (simp (disch:=omega) only [go_sem,↓cB,dB,k0,h22,k2,hnc,hul1])
   exact fin ⟨g1,rfl⟩
 ·try (simp (disch:=omega) only [go_sem,↓cB,dB,k0,h22])
  exact fin ⟨g1,by unfold levN; rw [if_neg h22]⟩
def sgL:List Str:=[[124,124],[38,38],[61,61],[60],[43],[45],[42],[47],[37]]
theorem bsS9c:buildSliceV Tryz.prog H 25 9 [(0,sv [124,124]),(1,sv [38,38]),(2,sv [61,61]),(3,sv [60]),(4,sv [43]),(5,sv [45]),(6,sv [42]),(7,sv [47]),(8,sv [37])]=some (.slice (some ⟨H.size,0,none⟩) 9 9,H.push (.cells (sgL.map sv).toArray 9)) :=
 bsl_sound (vs:=sgL.map sv) (by unfold bsl; simp only [T.elem25,T.size9]; rfl)
theorem leftM_lev {j:Nat} (h:j < 9):leftM (j:Int)=if levS (j:Int)=2∨levS (j:Int)=3 then levS (j:Int) + 1 else levS (j:Int):=by
 match j,h with | 0,_ | 1,_ | 2,_ | 3,_ | 4,_ | 5,_ | 6,_ | 7,_ | 8,_=>rfl
def RXs (l:List Nd) (p:Nat) (v:Value) (n:Nd) (k:Fo):Prop:=∀ {H a},p≤H.size→NL H (· < p) v l→Lies l a (.cons n k .nil)→CallF Tryz.prog 8 [v,iv ((a:Nat):Int)] H (fun r H'=>Fr [] H H'∧r=sv (exN n k.vs)) NoP
set_option maxHeartbeats 4000000 in
theorem rExpr_all (l:List Nd) (p:Nat) (v:Value):∀ (c:Nat) (n:Nd) (k:Fo),k.cnt < c→k.cnt≤10000→okN n k.kinds=true→n.kids = []→k.ok=true→k.bare=true→17≤n.kind→n.kind≤22→RXs l p v n k:=by
 intro c
 induction c with
 | zero=>intro n k h; omega
 | succ c IH =>
 intro n k hcc hc hok hb hko hkb k17 k22 H a hple nl0 hl
 have hs:=short_of k hko
 have hlen:=ex_len (okN_words hok) hs
 obtain ⟨b,o,cap,xw,cw,xn,cn,xk,ck,rfl,ld,kd,-,nx,hck⟩:=node_at nl0 hl hb
 have hlt:=hl.lt
 obtain ⟨A1,hA1⟩:∃ A,A=H.push (.cells #[iv n.kind,.slice xw n.words.length cw,.slice xn n.nums.length cn,.slice xk k.len ck,iv n.pos] 28):=⟨_,rfl⟩
 have g1:Fr [] H A1:=by rw [hA1]; exact Fr.push
 have z1:A1.size=H.size + 1:=by rw [hA1]; simp
 have hp1:p≤A1.size:=by omega
 have bn:Blk A1 H.size 28 [iv n.kind,.slice xw n.words.length cw,.slice xn n.nums.length cn,.slice xk k.len ck,iv n.pos]:=by rw [hA1]; exact Blk.new rfl
 have nx1:NX A1 p n (k.roots (a + 1)) xw xn xk:=nx.keep (fun b hb=>g1.same b (by omega) (by simp))
 have nl1:=nl0.grow g1
 have k0:=bn.cell 0
 have k1:=bn.cell 1
 have k2:=bn.cell 2
 have k3:=bn.cell 3
 have ldn:=bn.cells0
 simp only [gS,gZ,List.length_cons,List.length_nil,Nat.zero_add,Nat.reduceAdd] at k0 k1 k2 k3 ldn
 have hwl:=okN_wl hok
 have hul:=okN_ul hok
 have hkids:=hl.kids
 refine callF_of Tryz.func8 rfl Tryz.ntmps8 Tryz.results8 (by decide) rfl ?_
 simp (disch:=omega) only [go_sem,↓cB,dB,ld]
 rw [← hA1]
 clear hA1
 have hk:n.kind=17∨n.kind=18∨n.kind=19∨n.kind=20∨n.kind=21∨n.kind=22:=by omega
 rcases hk with e | e | e | e | e | e
 ·have hn0:=okN_num hok (i:=0) (by rw [e]; decide)
  have hg0:=n0_get hok (i:=0) (by rw [e]; decide)
  rw [e] at hn0
  have hr:0≤n.nums.getD 0 0∧n.nums.getD 0 0≤999999:=hn0
  obtain ⟨nb,no,rfl,hnb,hnc⟩:=nx1.u 0 _ hg0
  rw [Nat.add_zero] at hnc
  rw [e] at hul
  have hul1:n.nums.length=1:=hul
  try (simp (disch:=omega) only [go_sem,↓cB,dB,k0,e,k2,hnc,hul1])
  refine call_to (r10num_spec ⟨by omega,hr.2⟩) ?_
  rintro _ H2 ⟨f2,rfl⟩
  simp (disch:=omega) only [go_sem,↓cB,dB]
  exact fin ⟨g1.trans f2,by simp only [exN,e,Int.reduceEq,↓reduceIte]; rfl⟩
 ·have hg0:=w0_get hok (i:=0) (by rw [e]; decide)
  obtain ⟨nb,no,rfl,hnb,hnc⟩:=nx1.w 0 _ hg0
  rw [Nat.add_zero] at hnc
  rw [e] at hwl
  have hwl1:n.words.length=1:=hwl
  try (simp (disch:=omega) only [go_sem,↓cB,dB,k0,e,k1,hnc,hwl1])
  exact fin ⟨g1,by simp only [exN,e,Int.reduceEq,↓reduceIte]; rfl⟩
 ·have hg0:=w0_get hok (i:=0) (by rw [e]; decide)
  obtain ⟨nb,no,rfl,hnb,hnc⟩:=nx1.w 0 _ hg0
  rw [Nat.add_zero] at hnc
  rw [e] at hwl
  have hwl1:n.words.length=1:=hwl
  have hw12:=wOk_getD (okN_words hok) 0
  try (simp (disch:=omega) only [go_sem,↓cB,dB,k0,e,k1,hnc,hwl1,List.length_cons,List.length_nil])
  exact fin ⟨g1,by simp only [exN,e,Int.reduceEq,↓reduceIte]; rfl⟩
 ·obtain ⟨n1,q1,rfl,h17,h22⟩:=kidsE hok (by omega)
  simp only [Fo.ok,Bool.and_true,Bool.and_eq_true] at hko
  simp only [Fo.bare,Bool.and_true,Bool.and_eq_true,decide_eq_true_eq] at hkb
  simp only [Fo.cnt] at hcc hc
  obtain ⟨kb,ko,rfl,hkb2,hkc⟩:=nx1.k 0 _ rfl
  rw [Nat.add_zero] at hkc
  have hkl:(Fo.cons n1 q1 .nil).len=1:=rfl
  have hex:=ex_len (okN_words hko.1) (short_of q1 hko.2)
  have hpl:=@par_len (decide (levN n1 < 6)) (exN n1 q1.vs)
  rw [hkl] at k3
  obtain ⟨b',o',cap',xw',cw',xn',cn',xk',ck',htv,ld1,kd1,-,-,-⟩:=node_at nl1 hkids hkb.1
  simp only [Value.slice.injEq,Option.some.injEq,Addr.mk.injEq,and_true,true_and] at htv
  obtain ⟨⟨rfl,rfl⟩,rfl⟩:=htv
  have hlt1:=hkids.lt
  have hlev:=lev6 n1
  have hv0:=hv_ok (H:=A1) (L:=[⟨H.size,3,none⟩,⟨kb,ko,none⟩,⟨b,o + (a + 1) * 5,none⟩])
  have a1:=hv_at k3 (L:=[⟨H.size,3,none⟩,⟨kb,ko,none⟩,⟨b,o + (a + 1) * 5,none⟩]) (by simp)
  have a2:=hv_at hkc (L:=[⟨H.size,3,none⟩,⟨kb,ko,none⟩,⟨b,o + (a + 1) * 5,none⟩]) (by simp)
  have a3:=hv_at kd1 (L:=[⟨H.size,3,none⟩,⟨kb,ko,none⟩,⟨b,o + (a + 1) * 5,none⟩]) (by simp)
  generalize hvL A1 ([⟨H.size,3,none⟩,⟨kb,ko,none⟩,⟨b,o + (a + 1) * 5,none⟩])=hld at hv0 a1 a2 a3
  try (simp (disch:=omega) only [go_sem,↓cB,dB,k0,e])
  refine draw1 (lk [(0,true),(1,true),(2,true),(3,true),(4,true),(6,false),(7,false),(8,false),(9,false),(10,false),(11,false),(12,false),(13,false),(14,false)] (.act 5 (.actd 15 (lk [(16,true),(17,true)] .fin)) .non)) T.mixed hld hv0 ?_
  simp (disch:=omega) only [go_sem,↓cB,dB,k3,hkc,a1,a2,a3,id_eq]
  refine call_to (IH n1 q1 (by omega) (by omega) hko.1 hkb.1 hko.2 hkb.2 h17 h22 hp1 nl1 hkids) ?_
  intro v H2 hv
  refine Hush.out ?_
  obtain ⟨f2,rfl⟩:=hv
  refine ⟨?_⟩
  refine held_by (hv_fr hv0 f2) ?_
  simp (disch:=omega) only [go_sem,↓cB,dB,id_eq]
  refine call_to (r10paren_spec (by omega)) ?_
  intro v H3 hv
  refine Hush.out ?_
  obtain ⟨rfl,rfl⟩:=hv
  rw [← hlev]
  refine ⟨?_⟩
  simp (disch:=omega) only [go_sem,↓cB,dB,List.length_cons,List.length_nil]
  exact fin ⟨g1.trans f2,by simp only [exN,e,Int.reduceEq,↓reduceIte]; rfl⟩
 ·obtain ⟨n1,q1,rfl,h17,h22⟩:=kidsE hok (by omega)
  simp only [Fo.ok,Bool.and_true,Bool.and_eq_true] at hko
  simp only [Fo.bare,Bool.and_true,Bool.and_eq_true,decide_eq_true_eq] at hkb
  simp only [Fo.cnt] at hcc hc
  obtain ⟨kb,ko,rfl,hkb2,hkc⟩:=nx1.k 0 _ rfl
  rw [Nat.add_zero] at hkc
  have hkl:(Fo.cons n1 q1 .nil).len=1:=rfl
  have hex:=ex_len (okN_words hko.1) (short_of q1 hko.2)
  have hpl:=@par_len (decide (levN n1 < 6)) (exN n1 q1.vs)
  rw [hkl] at k3
  obtain ⟨b',o',cap',xw',cw',xn',cn',xk',ck',htv,ld1,kd1,-,-,-⟩:=node_at nl1 hkids hkb.1
  simp only [Value.slice.injEq,Option.some.injEq,Addr.mk.injEq,and_true,true_and] at htv
  obtain ⟨⟨rfl,rfl⟩,rfl⟩:=htv
  have hlt1:=hkids.lt
  have hlev:=lev6 n1
  have hv0:=hv_ok (H:=A1) (L:=[⟨H.size,3,none⟩,⟨kb,ko,none⟩,⟨b,o + (a + 1) * 5,none⟩])
  have a1:=hv_at k3 (L:=[⟨H.size,3,none⟩,⟨kb,ko,none⟩,⟨b,o + (a + 1) * 5,none⟩]) (by simp)
  have a2:=hv_at hkc (L:=[⟨H.size,3,none⟩,⟨kb,ko,none⟩,⟨b,o + (a + 1) * 5,none⟩]) (by simp)
  have a3:=hv_at kd1 (L:=[⟨H.size,3,none⟩,⟨kb,ko,none⟩,⟨b,o + (a + 1) * 5,none⟩]) (by simp)
  generalize hvL A1 ([⟨H.size,3,none⟩,⟨kb,ko,none⟩,⟨b,o + (a + 1) * 5,none⟩])=hld at hv0 a1 a2 a3
  try (simp (disch:=omega) only [go_sem,↓cB,dB,k0,e])
  refine draw1 (lk [(0,true),(1,true),(2,true),(3,true),(4,true),(6,false),(7,false),(8,false),(9,false),(10,false),(11,false),(12,false),(13,false),(14,false)] (.act 5 (.actd 15 (lk [(16,true),(17,true)] .fin)) .non)) T.mixed hld hv0 ?_
  simp (disch:=omega) only [go_sem,↓cB,dB,k3,hkc,a1,a2,a3,id_eq]
  refine call_to (IH n1 q1 (by omega) (by omega) hko.1 hkb.1 hko.2 hkb.2 h17 h22 hp1 nl1 hkids) ?_
  intro v H2 hv
  refine Hush.out ?_
  obtain ⟨f2,rfl⟩:=hv
  refine ⟨?_⟩
  refine held_by (hv_fr hv0 f2) ?_
  simp (disch:=omega) only [go_sem,↓cB,dB,id_eq]
  refine call_to (r10paren_spec (by omega)) ?_
  intro v H3 hv
  refine Hush.out ?_
  obtain ⟨rfl,rfl⟩:=hv
  rw [← hlev]
  refine ⟨?_⟩
  simp (disch:=omega) only [go_sem,↓cB,dB,List.length_cons,List.length_nil]
  exact fin ⟨g1.trans f2,by simp only [exN,e,Int.reduceEq,↓reduceIte]; rfl⟩
 ·obtain ⟨n1,q1,n2,q2,rfl,h17,h17'⟩:=kids22 hok e
  simp only [Fo.ok,Bool.and_true,Bool.and_eq_true] at hko
  simp only [Fo.bare,Bool.and_true,Bool.and_eq_true,decide_eq_true_eq] at hkb
  simp only [Fo.cnt] at hcc hc
  have hn0:=okN_num hok (i:=0) (by rw [e]; decide)
  have hg0:=n0_get hok (i:=0) (by rw [e]; decide)
  rw [e] at hn0
  have hr:0≤n.nums.getD 0 0∧n.nums.getD 0 0≤8:=hn0
  obtain ⟨nb,no,rfl,hnb,hnc⟩:=nx1.u 0 _ hg0
  rw [Nat.add_zero] at hnc
  rw [e] at hul
  have hul1:n.nums.length=1:=hul
  obtain ⟨j,hj⟩:∃ j:Nat,n.nums.getD 0 0=j:=⟨(n.nums.getD 0 0).toNat,by omega⟩
  rw [hj] at hnc hr
  have hj8:j < 9:=by omega
  obtain ⟨kb,ko,hxk,hkb2,hkc⟩:=nx1.k 0 _ rfl
  obtain ⟨kb',ko',hxk',-,hkc'⟩:=nx1.k 1 _ rfl
  rw [hxk] at hxk'
  simp only [Option.some.injEq,Addr.mk.injEq,and_true] at hxk'
  obtain ⟨rfl,rfl⟩:=hxk'
  subst hxk
  rw [Nat.add_zero] at hkc
  have hkl:(Fo.cons n1 q1 (.cons n2 q2 .nil)).len=2:=rfl
  rw [hkl] at k3 ldn
  have hl2:Lies l (a + 1 + 1 + q1.cnt) (.cons n2 q2 .nil):=hkids.rest
  have hex1:=ex_len (okN_words hko.1) (short_of q1 hko.2.1)
  have hex2:=ex_len (okN_words hko.2.2.1) (short_of q2 hko.2.2.2)
  have hsl:=@sign_len (j:Int)
  obtain ⟨b1,o1,cap1,xw1,cw1,xn1,cn1,xk1,ck1,htv,ld1,-,-,nxa,-⟩:=node_at nl1 hkids.one hkb.1
  simp only [Value.slice.injEq,Option.some.injEq,Addr.mk.injEq,and_true,true_and] at htv
  obtain ⟨⟨rfl,rfl⟩,rfl⟩:=htv
  obtain ⟨b2,o2,cap2,xw2,cw2,xn2,cn2,xk2,ck2,htv,ld2,-,-,nxb,-⟩:=node_at nl1 hl2 hkb.2.2.1
  simp only [Value.slice.injEq,Option.some.injEq,Addr.mk.injEq,and_true,true_and] at htv
  obtain ⟨⟨rfl,rfl⟩,rfl⟩:=htv
  have hlt1:=hkids.lt
  have hlt2:=hl2.lt
  have bs9:=bsS9c (H:=A1)
  obtain ⟨A2,hA2⟩:∃ A,A=A1.push (.cells (sgL.map sv).toArray 9):=⟨_,rfl⟩
  rw [← hA2] at bs9
  have g2:Fr [] A1 A2:=by rw [hA2]; exact Fr.push
  have z2:A2.size=A1.size + 1:=by rw [hA2]; simp
  have bsg:Blk A2 A1.size 9 (sgL.map sv):=by rw [hA2]; exact Blk.new rfl
  have hsg:cellH A2 ⟨A1.size,j,none⟩=some (sv (signM (j:Int))):=by
   rw [bsg.cell]
   match j,hj8 with | 0,_ | 1,_ | 2,_ | 3,_ | 4,_ | 5,_ | 6,_ | 7,_ | 8,_=>rfl
  have nl2:=nl1.grow g2
  have nx2:NX A2 p n _ _ _ _:=nx1.keep (fun b hb=>g2.same b (by omega) (by simp))
  have nxa2:NX A2 p n1 _ _ _ _:=nxa.keep (fun b hb=>g2.same b (by omega) (by simp))
  have nxb2:NX A2 p n2 _ _ _ _:=nxb.keep (fun b hb=>g2.same b (by omega) (by simp))
  have k3':=g2.cell' k3 (by simp)
  have hkc2:=g2.cell' hkc (by simp)
  have hkc2':=g2.cell' hkc' (by simp)
  have k2':=g2.cell' k2 (by simp)
  have hnc2:=g2.cell' hnc (by simp)
  have ldn2:=cellsH_of (fun a v h=>g2.cell' h (by simp)) _ _ _ ldn
  have ld1':=cellsH_of (fun a v h=>g2.cell' h (by simp)) _ _ _ ld1
  have ld2':=cellsH_of (fun a v h=>g2.cell' h (by simp)) _ _ _ ld2
  have hv0:=hv_ok (H:=A2) (L:=[⟨H.size,3,none⟩,⟨kb,ko,none⟩,⟨kb,ko + 1,none⟩] ++ (rowV b (o + (a + 1) * 5) 5 ++ rowV b (o + (a + 1 + 1 + q1.cnt) * 5) 5))
  have a1:=hv_at k3' (L:=[⟨H.size,3,none⟩,⟨kb,ko,none⟩,⟨kb,ko + 1,none⟩] ++ (rowV b (o + (a + 1) * 5) 5 ++ rowV b (o + (a + 1 + 1 + q1.cnt) * 5) 5)) (by simp)
  have a2:=hv_at hkc2 (L:=[⟨H.size,3,none⟩,⟨kb,ko,none⟩,⟨kb,ko + 1,none⟩] ++ (rowV b (o + (a + 1) * 5) 5 ++ rowV b (o + (a + 1 + 1 + q1.cnt) * 5) 5)) (by simp)
  have a3:=hv_at hkc2' (L:=[⟨H.size,3,none⟩,⟨kb,ko,none⟩,⟨kb,ko + 1,none⟩] ++ (rowV b (o + (a + 1) * 5) 5 ++ rowV b (o + (a + 1 + 1 + q1.cnt) * 5) 5)) (by simp)
  have b1:=hv_cells (L:=[⟨H.size,3,none⟩,⟨kb,ko,none⟩,⟨kb,ko + 1,none⟩] ++ (rowV b (o + (a + 1) * 5) 5 ++ rowV b (o + (a + 1 + 1 + q1.cnt) * 5) 5)) 5 0 _ ld1' (fun j _ hj=>List.mem_append_right _ (List.mem_append_left _ (mem_rowV (by omega))))
  have b2:=hv_cells (L:=[⟨H.size,3,none⟩,⟨kb,ko,none⟩,⟨kb,ko + 1,none⟩] ++ (rowV b (o + (a + 1) * 5) 5 ++ rowV b (o + (a + 1 + 1 + q1.cnt) * 5) 5)) 5 0 _ ld2' (fun j _ hj=>List.mem_append_right _ (List.mem_append_right _ (mem_rowV (by omega))))
  generalize hvL A2 ([⟨H.size,3,none⟩,⟨kb,ko,none⟩,⟨kb,ko + 1,none⟩] ++ (rowV b (o + (a + 1) * 5) 5 ++ rowV b (o + (a + 1 + 1 + q1.cnt) * 5) 5))=hld at hv0 a1 a2 a3 b1 b2
  have hlr:=levS_rng (j:Int)
  have hlevn:levN n=levS (j:Int):=by unfold levN; rw [if_pos e,hj]
  have hlm:=leftM_lev hj8
  rw [← hlevn] at hlm hlr
  try (simp (disch:=omega) only [go_sem,↓cB,dB,k0,e,bs9,k2',hnc2,hul1,hsg])
  refine draw1 (H:=A2) (lk [(0,true),(2,false),(3,false),(4,false),(5,false),(6,false),(7,false),(8,false),(10,false),(11,false),(12,false),(13,false),(14,false),(15,false),(16,false)] (.act 1 (.act 9 (.actd 17 (lk [(18,true),(19,true),(20,true)] .fin)) .non) .non)) T.mixed hld hv0 ?_
  simp (disch:=omega) only [go_sem,↓cB,dB,a1,a2,a3,b1,b2,ldn2,id_eq]
  refine call_to (r10level_spec hok nx2 (by omega)) ?_
  intro v H3 hv
  refine Hush.out ?_
  obtain ⟨f3,rfl⟩:=hv
  refine ⟨?_⟩
  refine held_by (hv_fr hv0 f3) ?_
  simp (disch:=omega) only [go_sem,↓cB,dB,id_eq]
  refine call_to (r10level_spec hko.1 (nxa2.keep (fun b hb=>f3.same b (by omega) (by simp))) (by have:=f3.size; omega)) ?_
  intro v H4 hv
  refine Hush.out ?_
  obtain ⟨f4,rfl⟩:=hv
  have f34:=f3.trans f4
  refine ⟨?_⟩
  refine held_by (hv_fr hv0 f34) ?_
  simp (disch:=omega) only [go_sem,↓cB,dB,id_eq]
  refine call_to (r10level_spec hko.2.2.1 (nxb2.keep (fun b hb=>f34.same b (by omega) (by simp))) (by have:=f34.size; omega)) ?_
  intro v H5 hv
  refine Hush.out ?_
  obtain ⟨f4',rfl⟩:=hv
  have f5:=f34.trans f4'
  have nl5:=nl2.grow f5
  have hv5:=hv_fr hv0 f5
  have k35:=f5.cell' k3' (by simp)
  have hkc5:=f5.cell' hkc2 (by simp)
  refine ⟨?_⟩
  simp (disch:=omega) only [go_sem,↓cB,dB,id_eq]
  have fin':∀ (bb:Bool),decide (levN n1 < leftM (j:Int))=bb→sv (parS bb (exN n1 q1.vs) ++ [32] ++ signM (j:Int) ++ [32] ++ parS (decide (levN n2≤levN n)) (exN n2 q2.vs))=sv (exN n (Fo.cons n1 q1 (.cons n2 q2 .nil)).vs):=by
   intro bb hbb
   simp only [exN,e,Int.reduceEq,↓reduceIte]
   have e3:n0' n=(j:Int):=hj
   have e4:decide (levN n2≤levN n)=decide (levN n2 < levS (j:Int) + 1):=by rw [hlevn]; exact decide_eq_decide.2 (by omega)
   rw [e3,← hbb,e4]
   rfl
  have hp2a:=fun bb=>@par_len bb (exN n1 q1.vs)
  have hp2b:=fun bb=>@par_len bb (exN n2 q2.vs)
  have hp2at:=hp2a true
  have hp2af:=hp2a false
  have hp2bd:=hp2b (decide (levN n2≤levN n))
  refine draw1 (lk [(0,true),(1,true),(2,true),(3,true),(4,true),(6,false),(7,false),(8,false),(24,false),(27,false),(28,false),(29,false),(30,false),(31,false),(33,false),(34,false),(35,false)] (.act 5 (lk [(9,true),(10,true),(11,true),(12,true),(13,true),(14,true),(15,true),(16,true),(17,true),(18,true),(19,true),(20,true),(21,true)] (.act 22 (lk [(23,false),(25,false),(26,false)] (.act 32 (.act 36 (lk [(37,true),(38,true)] .fin) .non) .non)) .non)) .non)) T.mixed hld hv5 ?_
  simp (disch:=omega) only [go_sem,↓cB,dB,a1,a2,a3,k35,hkc5,id_eq]
  refine call_to (IH n1 q1 (by omega) (by omega) hko.1 hkb.1 hko.2.1 hkb.2.1 h17.1 h17.2 (by have:=f5.size; omega) nl5 hkids.one) ?_
  intro v H6 hv
  refine Hush.out ?_
  obtain ⟨f6,rfl⟩:=hv
  have hv6:=hv_fr hv5 f6
  refine ⟨?_⟩
  refine held_by hv6 ?_
  by_cases c1:levN n1 < levN n
  ·simp (disch:=omega) only [go_sem,↓cB,dB,c1,decide_true,decide_false,id_eq,List.length_cons,List.length_nil,List.length_append]
   refine call_to (r10paren_spec (b:=true) (by omega)) ?_
   intro v H7 hv
   refine Hush.out ?_
   obtain ⟨rfl,rfl⟩:=hv
   refine ⟨?_⟩
   refine held_by hv6 ?_
   simp (disch:=omega) only [go_sem,↓cB,dB,id_eq,List.length_cons,List.length_nil,List.length_append]
   refine call_to (IH n2 q2 (by omega) (by omega) hko.2.2.1 hkb.2.2.1 hko.2.2.2 hkb.2.2.2 h17'.1 h17'.2 (by have:=f6.size; have:=f5.size; omega) (nl5.grow f6) hl2) ?_
   intro v H8 hv
   refine Hush.out ?_
   obtain ⟨f8,rfl⟩:=hv
   refine ⟨?_⟩
   refine held_by (hv_fr hv6 f8) ?_
   simp (disch:=omega) only [go_sem,↓cB,dB,id_eq,List.length_cons,List.length_nil,List.length_append]
   refine call_to (r10paren_spec (by omega)) ?_
   intro v H9 hv
   refine Hush.out ?_
   obtain ⟨rfl,rfl⟩:=hv
   refine ⟨?_⟩
   refine held_by (hv_fr hv6 f8) ?_
   simp (disch:=omega) only [go_sem,↓cB,dB,id_eq,List.length_cons,List.length_nil,List.length_append]
   exact fin ⟨(((g1.trans g2).trans f5).trans f6).trans f8,fin' true (decide_yes (by omega))⟩
  ·by_cases c2:levN n1=levN n
   ·by_cases c3:levN n=2
    ·simp (disch:=omega) only [go_sem,↓cB,dB,c1,c2,c3,decide_true,decide_false,id_eq,List.length_cons,List.length_nil,List.length_append]
     refine call_to (r10paren_spec (b:=true) (by omega)) ?_
     intro v H7 hv
     refine Hush.out ?_
     obtain ⟨rfl,rfl⟩:=hv
     refine ⟨?_⟩
     refine held_by hv6 ?_
     simp (disch:=omega) only [go_sem,↓cB,dB,id_eq,List.length_cons,List.length_nil,List.length_append]
     refine call_to (IH n2 q2 (by omega) (by omega) hko.2.2.1 hkb.2.2.1 hko.2.2.2 hkb.2.2.2 h17'.1 h17'.2 (by have:=f6.size; have:=f5.size; omega) (nl5.grow f6) hl2) ?_
     intro v H8 hv
     refine Hush.out ?_
     obtain ⟨f8,rfl⟩:=hv
     refine ⟨?_⟩
     refine held_by (hv_fr hv6 f8) ?_
     simp (disch:=omega) only [go_sem,↓cB,dB,id_eq,List.length_cons,List.length_nil,List.length_append]
     refine call_to (r10paren_spec (by omega)) ?_
     intro v H9 hv
     refine Hush.out ?_
     obtain ⟨rfl,rfl⟩:=hv
     refine ⟨?_⟩
     refine held_by (hv_fr hv6 f8) ?_
     simp (disch:=omega) only [go_sem,↓cB,dB,id_eq,List.length_cons,List.length_nil,List.length_append]
     exact fin ⟨(((g1.trans g2).trans f5).trans f6).trans f8,fin' true (decide_yes (by omega))⟩
    ·by_cases c4:levN n=3
     ·simp (disch:=omega) only [go_sem,↓cB,dB,c1,c2,c3,c4,decide_true,decide_false,id_eq,List.length_cons,List.length_nil,List.length_append]
      refine call_to (r10paren_spec (b:=true) (by omega)) ?_
      intro v H7 hv
      refine Hush.out ?_
      obtain ⟨rfl,rfl⟩:=hv
      refine ⟨?_⟩
      refine held_by hv6 ?_
      simp (disch:=omega) only [go_sem,↓cB,dB,id_eq,List.length_cons,List.length_nil,List.length_append]
      refine call_to (IH n2 q2 (by omega) (by omega) hko.2.2.1 hkb.2.2.1 hko.2.2.2 hkb.2.2.2 h17'.1 h17'.2 (by have:=f6.size; have:=f5.size; omega) (nl5.grow f6) hl2) ?_
      intro v H8 hv
      refine Hush.out ?_
      obtain ⟨f8,rfl⟩:=hv
      refine ⟨?_⟩
      refine held_by (hv_fr hv6 f8) ?_
      simp (disch:=omega) only [go_sem,↓cB,dB,id_eq,List.length_cons,List.length_nil,List.length_append]
      refine call_to (r10paren_spec (by omega)) ?_
      intro v H9 hv
      refine Hush.out ?_
      obtain ⟨rfl,rfl⟩:=hv
      refine ⟨?_⟩
      refine held_by (hv_fr hv6 f8) ?_
      simp (disch:=omega) only [go_sem,↓cB,dB,id_eq,List.length_cons,List.length_nil,List.length_append]
      exact fin ⟨(((g1.trans g2).trans f5).trans f6).trans f8,fin' true (decide_yes (by omega))⟩
     ·simp (disch:=omega) only [go_sem,↓cB,dB,c1,c2,c3,c4,decide_true,decide_false,id_eq,List.length_cons,List.length_nil,List.length_append]
      refine call_to (r10paren_spec (b:=false) (by omega)) ?_
      intro v H7 hv
      refine Hush.out ?_
      obtain ⟨rfl,rfl⟩:=hv
      refine ⟨?_⟩
      refine held_by hv6 ?_
      simp (disch:=omega) only [go_sem,↓cB,dB,id_eq,List.length_cons,List.length_nil,List.length_append]
      refine call_to (IH n2 q2 (by omega) (by omega) hko.2.2.1 hkb.2.2.1 hko.2.2.2 hkb.2.2.2 h17'.1 h17'.2 (by have:=f6.size; have:=f5.size; omega) (nl5.grow f6) hl2) ?_
      intro v H8 hv
      refine Hush.out ?_
      obtain ⟨f8,rfl⟩:=hv
      refine ⟨?_⟩
      refine held_by (hv_fr hv6 f8) ?_
      simp (disch:=omega) only [go_sem,↓cB,dB,id_eq,List.length_cons,List.length_nil,List.length_append]
      refine call_to (r10paren_spec (by omega)) ?_
      intro v H9 hv
      refine Hush.out ?_
      obtain ⟨rfl,rfl⟩:=hv
      refine ⟨?_⟩
      refine held_by (hv_fr hv6 f8) ?_
      simp (disch:=omega) only [go_sem,↓cB,dB,id_eq,List.length_cons,List.length_nil,List.length_append]
      exact fin ⟨(((g1.trans g2).trans f5).trans f6).trans f8,fin' false (decide_no (by omega))⟩
   ·simp (disch:=omega) only [go_sem,↓cB,dB,c1,c2,decide_true,decide_false,id_eq,List.length_cons,List.length_nil,List.length_append]
    refine call_to (r10paren_spec (b:=false) (by omega)) ?_
    intro v H7 hv
    refine Hush.out ?_
    obtain ⟨rfl,rfl⟩:=hv
    refine ⟨?_⟩
    refine held_by hv6 ?_
    simp (disch:=omega) only [go_sem,↓cB,dB,id_eq,List.length_cons,List.length_nil,List.length_append]
    refine call_to (IH n2 q2 (by omega) (by omega) hko.2.2.1 hkb.2.2.1 hko.2.2.2 hkb.2.2.2 h17'.1 h17'.2 (by have:=f6.size; have:=f5.size; omega) (nl5.grow f6) hl2) ?_
    intro v H8 hv
    refine Hush.out ?_
    obtain ⟨f8,rfl⟩:=hv
    refine ⟨?_⟩
    refine held_by (hv_fr hv6 f8) ?_
    simp (disch:=omega) only [go_sem,↓cB,dB,id_eq,List.length_cons,List.length_nil,List.length_append]
    refine call_to (r10paren_spec (by omega)) ?_
    intro v H9 hv
    refine Hush.out ?_
    obtain ⟨rfl,rfl⟩:=hv
    refine ⟨?_⟩
    refine held_by (hv_fr hv6 f8) ?_
    simp (disch:=omega) only [go_sem,↓cB,dB,id_eq,List.length_cons,List.length_nil,List.length_append]
    exact fin ⟨(((g1.trans g2).trans f5).trans f6).trans f8,fin' false (decide_no (by omega))⟩
end
end Go.Proofs.YtcffdpmmadipeaaGreatDoor
namespace Go.Proofs.YtcffdpmmadipeaaGreatDoor
open Go.HL
set_option maxRecDepth 10000
theorem in2 (d:Nat):inS d ++ [32,32]=inS (d + 1):=by rw [inS_succ]; simp
def KsL (H:Heap) (p:Nat) (ks:List Int) (xk:Option Addr):Prop:=∀ (i:Nat) x,ks[i]?=some x→∃ b o,xk=some ⟨b,o,none⟩∧b < p∧cellH H ⟨b,o + i,none⟩=some (iv x)
def RTs (l:List Nd) (p:Nat) (v:Value) (n:Nd) (k:Fo):Prop:=∀ {H a d xw xn xk cw cn ck},p≤H.size→NL H (· < p) v l→NX H p n (k.roots (a + 1)) xw xn xk→Lies l (a + 1) k→k.len≤ck→d + k.dep + 1≤50→(thN n k.vs d).length≤900000 →
 CallF Tryz.prog 23 [v,.agg (ndV n k.len xw xn xk cw cn ck).toArray,sv (inS d)] H (fun r H'=>Fr [] H H'∧r=sv (thN n k.vs d)) NoP
def RBs (l:List Nd) (p:Nat) (v:Value) (k:Fo):Prop:=∀ {H a d xk ck},p≤H.size→NL H (· < p) v l→KsL H p (k.roots a) xk→Lies l a k→d + k.dep + 1≤50→(braS k.vs d).length≤900000 →
 CallF Tryz.prog 44 [v,.slice xk k.len ck,sv (inS d)] H (fun r H'=>Fr [] H H'∧r=sv (braS k.vs d)) NoP
section
variable {H H':Heap} {p a q d:Nat} {v:Value} {l:List Nd} {n:Nd} {k r f0:Fo} {ks:List Int} {xw xn xk:Option Addr} {s s' w:Str}
theorem KsL.fr (h:KsL H p ks xk) (f:Fr [] H H'):KsL H' p ks xk:=fun i x hx=>by
 obtain ⟨b,o,e,hb,hc⟩:=h i x hx
 exact ⟨b,o,e,hb,f.cell' hc (by simp)⟩
set_option maxHeartbeats 1000000 in
theorem r10braces_spec (hall:k.All (RTs l p v)) (hbr:k.bare=true) (hc:k.cnt≤10000):RBs l p v k:=by
 intro H a d xk ck hp nl sl hl hd hX
 have hlc:=Nat.le_trans (Fo.len_cnt k) hc
 cases k with
 | nil =>
  rw [show Fo.nil.len=0 from rfl]
  refine callF_of Tryz.func44 rfl Tryz.ntmps44 Tryz.results44 (by decide) rfl ?_
  simp (disch:=omega) only [go_sem,↓cB,dB]
  exact fin ⟨Fr.refl _ _,rfl⟩
 | cons n0 k0 r0 =>
  have hbra:braS (Fo.cons n0 k0 r0).vs d = [123,10] ++ linesS (d + 1) (Fo.cons n0 k0 r0).vs ++ inS d ++ [125]:=rfl
  have hpos:0 < (Fo.cons n0 k0 r0).len:=by simp [Fo.len]
  generalize Fo.cons n0 k0 r0=k at *
  rw [hbra] at hX ⊢
  simp only [List.length_append,in_len,List.length_cons,List.length_nil] at hX
  have hind:=in_len d
  refine callF_of Tryz.func44 rfl Tryz.ntmps44 Tryz.results44 (by decide) rfl ?_
  simp (disch:=omega) only [go_sem,↓cB,dB]
  refine loop_by (fun kk ρ H3=>∃ (i:Nat) (f:Fo) (a':Nat) (t:Str),kk=f.len∧i + f.len=k.len∧Lies l a' f∧f.roots a'=(k.roots a).drop i∧f.All (RTs l p v)∧f.bare=true∧f.dep≤k.dep∧t ++ linesS (d + 1) f.vs = [123,10] ++ linesS (d + 1) k.vs∧Fr [] H H3 ∧
   (ρ.get 0=v∧ρ.get 1=.slice xk k.len ck∧ρ.get 2=sv (inS d)∧ρ.get 7=sv t∧ρ.get 8=iv i∧ρ.ds = [])) (k:=k.len) ?_ ?_
  ·exact ⟨0,k,a,[123,10],rfl,by omega,hl,rfl,hall,hbr,Nat.le_refl _,rfl,Fr.refl _ _,by simp (disch:=omega) only [go_sem,↓cB,dB]⟩
  ·rintro kk ρ H3 ⟨i,f,a',t,rfl,hi,hl3,hr3,ha3,hb3,hd3,ht3,f3,r0,r1,r2,r7,r8,rd⟩
   have hxi:(i:Int) + 1=((i + 1:Nat):Int):=by omega
   have htl:=congrArg List.length ht3
   simp only [List.length_append,List.length_cons,List.length_nil] at htl
   cases f with
   | nil =>
    have:i=k.len:=by simpa [Fo.len] using hi
    subst this
    simp only [Fo.vs,linesS,List.append_nil] at ht3
    simp (disch:=omega) only [go_sem,↓cB,dB,r0,r1,r2,r7,r8,rd,List.length_append,List.length_cons,List.length_nil]
    exact fin ⟨f3,by rw [ht3]⟩
   | cons n1 k1 r1' =>
    simp only [Fo.len] at hi
    simp only [Fo.roots] at hr3
    obtain ⟨hg,hr4⟩:=drop_hd hr3
    obtain ⟨b,o,rfl,hb,hc⟩:=(sl.fr f3) i _ hg
    simp only [Fo.vs,linesS,stepV] at ht3
    simp only [Fo.vs,linesS,stepV,List.length_append,List.length_cons,List.length_nil] at htl
    simp only [Fo.dep] at hd3
    simp only [Fo.bare,Bool.and_eq_true,decide_eq_true_eq] at hb3
    have nl3:=nl.grow f3
    have hp3:p≤H3.size:=by have:=f3.size; omega
    obtain ⟨tb,to,cap,xw,cw,xn,cn,xk',ck',htv,ld,-,-,nx,hck⟩:=node_at nl3 hl3.one hb3.1
    have hlt:=hl3.lt
    have hind1:=in_len (d + 1)
    subst htv
    simp (disch:=omega) only [go_sem,↓cB,dB,r0,r1,r2,r7,r8,rd,hc,ld,in2,List.length_append,List.length_cons,List.length_nil]
    refine call_to (ha3.1 hp3 nl3 nx hl3.kids hck (d:=d + 1) (by omega) (by omega)) ?_
    intro v H4 hv
    refine Hush.out ?_
    obtain ⟨f4,rfl⟩:=hv
    refine ⟨?_⟩
    simp (disch:=omega) only [go_sem,↓cB,dB,r0,r1,r2,r7,r8,rd,List.length_append,List.length_cons,List.length_nil]
    exact fin ⟨r1'.len,by simp only [Fo.len]; omega,i + 1,r1',a' + 1 + k1.cnt,t ++ (inS (d + 1) ++ thN n1 k1.vs (d + 1) ++ [10]),rfl,by omega,hl3.rest,hr4,ha3.2,hb3.2.2,by omega,by rw [← ht3]; simp,f3.trans f4,by (simp (disch:=omega) only [go_sem,↓cB,dB,r0,r1,r2,r7,r8,rd,hxi]); rw [← in2]; simp⟩
set_option maxHeartbeats 1000000 in
theorem r10blocks_spec {frm cw cn ck:Nat} (hcc:k.cnt≤10000) (hall:f0.All (fun _ q=>RBs l p v q)) (hbr:f0.bare=true) (hpl:p≤H.size) (nl:NL H (· < p) v l) (nx:NX H p n (k.roots (a + 1)) xw xn xk) (hck:k.len≤ck) {a0:Nat} (hl:Lies l a0 f0)
  (hr:f0.roots a0=(k.roots (a + 1)).drop frm) (hlen:frm + f0.len=k.len) (hd:d + f0.dep≤50) (hw:w.length≤10) (hX:(joinS w d f0.vs).length≤900000) :
  CallF Tryz.prog 45 [v,.agg (ndV n k.len xw xn xk cw cn ck).toArray,iv frm,sv w,sv (inS d)] H (fun r H'=>Fr [] H H'∧r=sv (joinS w d f0.vs)) NoP:=by
 have hlc:=Nat.le_trans (Fo.len_cnt k) hcc
 obtain ⟨J,hJ⟩:∃ J,J=joinS w d f0.vs:=⟨_,rfl⟩
 rw [← hJ] at hX ⊢
 obtain ⟨A1,hA1⟩:∃ A,A=H.push (.cells (ndV n k.len xw xn xk cw cn ck).toArray 28):=⟨_,rfl⟩
 have g1:Fr [] H A1:=by rw [hA1]; exact Fr.push
 have bn:Blk A1 H.size 28 (ndV n k.len xw xn xk cw cn ck):=by rw [hA1]; exact Blk.new rfl
 unfold ndV at hA1 ⊢
 refine callF_of Tryz.func45 rfl Tryz.ntmps45 Tryz.results45 (by decide) rfl ?_
 simp (disch:=omega) only [go_sem,↓cB,dB]
 rw [← hA1]
 clear hA1
 refine loop_by (fun kk ρ H3=>∃ (i:Nat) (f:Fo) (a':Nat) (t:Str),kk=f.len∧frm≤i∧i + f.len=k.len∧Lies l a' f∧f.roots a'=(k.roots (a + 1)).drop i∧f.All (fun _ q=>RBs l p v q)∧f.bare=true∧f.dep≤f0.dep∧t ++ (if i=frm then joinS w d f.vs else restS w d f.vs)=J∧Fr [] A1 H3 ∧
  (ρ.get 0=v∧ρ.get 2=iv frm∧ρ.get 3=sv w∧ρ.get 4=sv (inS d)∧ρ.get 6=hp H.size∧ρ.get 11=sv t∧ρ.get 12=iv i∧ρ.ds = [])) (k:=f0.len) ?_ ?_
 ·exact ⟨frm,f0,a0,[],rfl,Nat.le_refl _,hlen,hl,hr,hall,hbr,Nat.le_refl _,by rw [if_pos rfl]; exact hJ.symm,Fr.refl _ _,by simp (disch:=omega) only [go_sem,↓cB,dB]⟩
 ·rintro kk ρ H3 ⟨i,f,a',t,rfl,hfi,hi,hl3,hr3,ha3,hb3,hd3,ht3,f3,r0,r2,r3,r4,r6,r11,r12,rd⟩
  have hxi:(i:Int) + 1=((i + 1:Nat):Int):=by omega
  have htl:=congrArg List.length ht3
  have k3n:=bn.cell 3
  simp only [ndV,gS,gZ] at k3n
  have k3c:=f3.cell' k3n (by simp)
  cases f with
  | nil =>
   have:i=k.len:=by simpa [Fo.len] using hi
   subst this
   have ht4:t=J:=by
    rw [← ht3]
    split <;> simp [Fo.vs,joinS,restS]
   simp (disch:=omega) only [go_sem,↓cB,dB,r0,r2,r3,r4,r6,r11,r12,rd,k3c]
   exact fin ⟨g1.trans f3,by rw [ht4]⟩
  | cons n1 k1 r1' =>
   simp only [Fo.len] at hi
   simp only [Fo.roots] at hr3
   obtain ⟨hg,hr4⟩:=drop_hd hr3
   obtain ⟨b,o,rfl,hb,hc0⟩:=nx.k i _ hg
   have hc:=(g1.trans f3).cell' hc0 (by simp)
   have nl3:=nl.grow (g1.trans f3)
   have hp3:p≤H3.size:=by have:=(g1.trans f3).size; omega
   simp only [Fo.dep] at hd3
   simp only [Fo.bare,Bool.and_eq_true,decide_eq_true_eq] at hb3
   obtain ⟨tb,to,cap,xw',cw',xn',cn',xk',ck',htv,-,-,k3,nx',hck'⟩:=node_at nl3 hl3.one hb3.1
   have hlt:=hl3.lt
   subst htv
   by_cases h0:i=frm
   ·rw [if_pos h0] at ht3 htl
    have hni:¬ frm < i:=by omega
    have hni':¬ (frm:Int) < (i:Int):=by omega
    simp only [Fo.vs,joinS,stepV] at ht3 htl
    simp only [List.length_append] at htl
    simp (disch:=omega) only [go_sem,↓cB,dB,r0,r2,r3,r4,r6,r11,r12,rd,k3c,hc,k3,hni,hni']
    refine call_to (ha3.1 hp3 nl3 (fun i x hx=>nx'.k i x hx) hl3.kids (by omega) (by omega)) ?_
    intro v H4 hv
    refine Hush.out ?_
    obtain ⟨f4,rfl⟩:=hv
    refine ⟨?_⟩
    simp (disch:=omega) only [go_sem,↓cB,dB,r0,r2,r3,r4,r6,r11,r12,rd,List.length_append]
    exact fin ⟨r1'.len,by simp only [Fo.len]; omega,i + 1,r1',a' + 1 + k1.cnt,t ++ braS k1.vs d,rfl,by omega,by omega,hl3.rest,hr4,ha3.2,hb3.2.2,by omega,by rw [← ht3,if_neg (by omega)]; simp,f3.trans f4,by simp (disch:=omega) only [go_sem,↓cB,dB,r0,r2,r3,r4,r6,r11,r12,rd,hxi]⟩
   ·rw [if_neg h0] at ht3 htl
    have hni:frm < i:=by omega
    have hni':(frm:Int) < (i:Int):=by omega
    simp only [Fo.vs,restS,stepV] at ht3 htl
    simp only [List.length_append] at htl
    simp (disch:=omega) only [go_sem,↓cB,dB,r0,r2,r3,r4,r6,r11,r12,rd,k3c,hc,k3,hni,hni',List.length_append]
    refine call_to (ha3.1 hp3 nl3 (fun i x hx=>nx'.k i x hx) hl3.kids (by omega) (by omega)) ?_
    intro v H4 hv
    refine Hush.out ?_
    obtain ⟨f4,rfl⟩:=hv
    refine ⟨?_⟩
    simp (disch:=omega) only [go_sem,↓cB,dB,r0,r2,r3,r4,r6,r11,r12,rd,List.length_append]
    exact fin ⟨r1'.len,by simp only [Fo.len]; omega,i + 1,r1',a' + 1 + k1.cnt,t ++ w ++ braS k1.vs d,rfl,by omega,by omega,hl3.rest,hr4,ha3.2,hb3.2.2,by omega,by rw [← ht3,if_neg (by omega)]; simp,f3.trans f4,by simp (disch:=omega) only [go_sem,↓cB,dB,r0,r2,r3,r4,r6,r11,r12,rd,hxi]⟩
set_option maxHeartbeats 4000000 in
theorem r10thing_spec (hok:okN n k.kinds=true) (hko:k.ok=true) (hkb:k.bare=true) (hc:k.cnt≤10000) (h1:1≤n.kind) (h15:n.kind≤15) (bd:n.kind=3→RBs l p v k) (ib:k.All (fun m q=>m.kind=16→RBs l p v q)):RTs l p v n k:=by
 intro H a d xw xn xk cw cn ck hp nl nx hl hck hd hX
 have hul:=okN_ul hok
 have hwl:=okN_wl hok
 obtain ⟨A1,hA1⟩:∃ A,A=H.push (.cells (ndV n k.len xw xn xk cw cn ck).toArray 28):=⟨_,rfl⟩
 have g1:Fr [] H A1:=by rw [hA1]; exact Fr.push
 have z1:A1.size=H.size + 1:=by rw [hA1]; simp
 have hp1:p≤A1.size:=by omega
 have bn:Blk A1 H.size 28 (ndV n k.len xw xn xk cw cn ck):=by rw [hA1]; exact Blk.new rfl
 have nx1:NX A1 p n (k.roots (a + 1)) xw xn xk:=nx.keep (fun b hb=>g1.same b (by omega) (by simp))
 have nl1:=nl.grow g1
 have ldn:=bn.cells0
 have k0c:=bn.cell 0
 have k1c:=bn.cell 1
 have k2c:=bn.cell 2
 have k3c:=bn.cell 3
 simp only [ndV,gS,gZ,List.length_cons,List.length_nil,Nat.zero_add,Nat.reduceAdd] at k0c k1c k2c k3c ldn
 unfold ndV at hA1 ⊢
 refine callF_of Tryz.func23 rfl Tryz.ntmps23 Tryz.results23 (by decide) rfl ?_
 simp (disch:=omega) only [go_sem,↓cB,dB]
 rw [← hA1]
 clear hA1
 have hk:n.kind=1∨n.kind=2∨n.kind=3∨n.kind=4∨n.kind=5∨n.kind=6∨n.kind=7∨n.kind=8∨n.kind=9∨n.kind=10∨n.kind=11∨n.kind=12∨n.kind=13∨n.kind=14∨n.kind=15:=by omega
 rcases hk with e | e | e | e | e | e | e | e | e | e | e | e | e | e | e
 ·obtain rfl:=kidsN hok (by omega)
  have hw0:=w0_get hok (i:=0) (by rw [e]; decide)
  obtain ⟨wb,wo,rfl,hwb,hwc⟩:=nx1.w 0 _ hw0
  rw [Nat.add_zero] at hwc
  rw [e] at hwl
  have lw:=wOk_getD (okN_words hok) 0
  have hwl1:n.words.length=1:=hwl
  have hu0:=n0_get hok (i:=0) (by rw [e]; decide)
  obtain ⟨ub,uo,rfl,hub,u0c⟩:=nx1.u 0 _ hu0
  rw [Nat.add_zero] at u0c
  have q0:=okN_num hok (i:=0) (by rw [e]; decide)
  have hu1:=n0_get hok (i:=1) (by rw [e]; decide)
  obtain ⟨ub1,uo1,hxu1,-,u1c⟩:=nx1.u 1 _ hu1
  simp only [Option.some.injEq,Addr.mk.injEq,and_true] at hxu1
  obtain ⟨rfl,rfl⟩:=hxu1
  have q1:=okN_num hok (i:=1) (by rw [e]; decide)
  have hu2:=n0_get hok (i:=2) (by rw [e]; decide)
  obtain ⟨ub2,uo2,hxu2,-,u2c⟩:=nx1.u 2 _ hu2
  simp only [Option.some.injEq,Addr.mk.injEq,and_true] at hxu2
  obtain ⟨rfl,rfl⟩:=hxu2
  have q2:=okN_num hok (i:=2) (by rw [e]; decide)
  have hu3:=n0_get hok (i:=3) (by rw [e]; decide)
  obtain ⟨ub3,uo3,hxu3,-,u3c⟩:=nx1.u 3 _ hu3
  simp only [Option.some.injEq,Addr.mk.injEq,and_true] at hxu3
  obtain ⟨rfl,rfl⟩:=hxu3
  have q3:=okN_num hok (i:=3) (by rw [e]; decide)
  rw [e] at hul q0 q1 q2 q3
  have hul1:n.nums.length=4:=hul
  have r0:0≤n.nums.getD 0 0∧n.nums.getD 0 0≤999999:=q0
  have r1:0≤n.nums.getD 1 0∧n.nums.getD 1 0≤999999:=q1
  have r2:0≤n.nums.getD 2 0∧n.nums.getD 2 0≤1:=q2
  have r3:0≤n.nums.getD 3 0∧n.nums.getD 3 0≤1:=q3
  have l0:=dig_len (n.nums.getD 0 0)
  have l1:=dig_len (n.nums.getD 1 0)
  have o1:=@opt_len (n.nums.getD 2 0) [32,108,111,115,115,121]
  have o2:=@opt_len (n.nums.getD 3 0) [32,99,111,112,121,105,110,103]
  simp only [List.length_cons,List.length_nil] at o1 o2
  have hT:thN n Fo.nil.vs d = [99,104,97,110,32] ++ n.words.getD 0 [] ++ [91] ++ digI (n.nums.getD 0 0) ++ [93,32,111,102,32] ++ digI (n.nums.getD 1 0) ++ optS (n.nums.getD 2 0) [32,108,111,115,115,121] ++ optS (n.nums.getD 3 0) [32,99,111,112,121,105,110,103] ++ [59]:=by simp only [thN,e,Int.reduceEq,↓reduceIte] <;> rfl
  rw [hT] at hX
  simp only [List.length_append,List.length_cons,List.length_nil] at hX
  have hv0:=hv_ok (H:=A1) (L:=[⟨H.size,1,none⟩,⟨wb,wo,none⟩,⟨H.size,2,none⟩,⟨ub,uo,none⟩,⟨ub,uo + 1,none⟩,⟨ub,uo + 2,none⟩,⟨ub,uo + 3,none⟩])
  have a1:=hv_at k1c (L:=[⟨H.size,1,none⟩,⟨wb,wo,none⟩,⟨H.size,2,none⟩,⟨ub,uo,none⟩,⟨ub,uo + 1,none⟩,⟨ub,uo + 2,none⟩,⟨ub,uo + 3,none⟩]) (by simp)
  have a2:=hv_at hwc (L:=[⟨H.size,1,none⟩,⟨wb,wo,none⟩,⟨H.size,2,none⟩,⟨ub,uo,none⟩,⟨ub,uo + 1,none⟩,⟨ub,uo + 2,none⟩,⟨ub,uo + 3,none⟩]) (by simp)
  have a3:=hv_at k2c (L:=[⟨H.size,1,none⟩,⟨wb,wo,none⟩,⟨H.size,2,none⟩,⟨ub,uo,none⟩,⟨ub,uo + 1,none⟩,⟨ub,uo + 2,none⟩,⟨ub,uo + 3,none⟩]) (by simp)
  have a4:=hv_at u0c (L:=[⟨H.size,1,none⟩,⟨wb,wo,none⟩,⟨H.size,2,none⟩,⟨ub,uo,none⟩,⟨ub,uo + 1,none⟩,⟨ub,uo + 2,none⟩,⟨ub,uo + 3,none⟩]) (by simp)
  have a5:=hv_at u1c (L:=[⟨H.size,1,none⟩,⟨wb,wo,none⟩,⟨H.size,2,none⟩,⟨ub,uo,none⟩,⟨ub,uo + 1,none⟩,⟨ub,uo + 2,none⟩,⟨ub,uo + 3,none⟩]) (by simp)
  have a6:=hv_at u2c (L:=[⟨H.size,1,none⟩,⟨wb,wo,none⟩,⟨H.size,2,none⟩,⟨ub,uo,none⟩,⟨ub,uo + 1,none⟩,⟨ub,uo + 2,none⟩,⟨ub,uo + 3,none⟩]) (by simp)
  have a7:=hv_at u3c (L:=[⟨H.size,1,none⟩,⟨wb,wo,none⟩,⟨H.size,2,none⟩,⟨ub,uo,none⟩,⟨ub,uo + 1,none⟩,⟨ub,uo + 2,none⟩,⟨ub,uo + 3,none⟩]) (by simp)
  generalize hvL A1 [⟨H.size,1,none⟩,⟨wb,wo,none⟩,⟨H.size,2,none⟩,⟨ub,uo,none⟩,⟨ub,uo + 1,none⟩,⟨ub,uo + 2,none⟩,⟨ub,uo + 3,none⟩]=hld at hv0 a1 a2 a3 a4 a5 a6 a7
  have hv1:=hv0
  simp (disch:=omega) only [go_sem,↓cB,dB,k0c,e]
  refine draw1 (lk [(0,false),(1,false),(2,false),(3,false),(4,false),(5,false),(6,true),(7,true),(8,true),(9,true),(13,false),(14,false),(15,false),(16,false),(19,false),(20,false),(21,false),(22,false),(25,false),(26,false),(27,false),(28,false)] (.act 10 (lk [(11,false),(12,false)] (.act 17 (lk [(18,false)] (.act 23 (lk [(24,false)] (.act 29 (lk [(30,true),(31,true),(32,true)] .fin) .non)) .non)) .non)) .non)) T.mixed hld hv0 ?_
  try (simp (disch:=omega) only [go_sem,↓cB,dB,a1,a2,a3,a4,a5,a6,a7,k1c,k2c,u0c,hwl1,hul1,List.length_cons,List.length_nil,List.length_append,id_eq])
  refine call_to (r10num_spec (z:=n.nums.getD 0 0) ⟨by omega,r0.2⟩) ?_
  intro v H2 hv
  refine Hush.out ?_
  obtain ⟨f2,rfl⟩:=hv
  have nl2:=nl1.grow f2
  have hp2:p≤H2.size:=by have:=f2.size; omega
  have nx2:NX H2 p n _ _ _ _:=nx1.keep (fun b hb=>f2.same b (by omega) (by simp))
  have hv2:=hv_fr hv1 f2
  refine ⟨?_⟩
  refine held_by hv2 ?_
  try (simp (disch:=omega) only [go_sem,↓cB,dB,id_eq,List.length_cons,List.length_nil,List.length_append])
  refine call_to (r10num_spec (z:=n.nums.getD 1 0) ⟨by omega,r1.2⟩) ?_
  intro v H3 hv
  refine Hush.out ?_
  obtain ⟨f3,rfl⟩:=hv
  have nl3:=nl2.grow f3
  have hp3:p≤H3.size:=by have:=f3.size; omega
  have nx3:NX H3 p n _ _ _ _:=nx2.keep (fun b hb=>f3.same b (by omega) (by simp))
  have hv3:=hv_fr hv2 f3
  refine ⟨?_⟩
  refine held_by hv3 ?_
  try (simp (disch:=omega) only [go_sem,↓cB,dB,id_eq,List.length_cons,List.length_nil,List.length_append])
  refine call_to (r10opt_spec (s:=[32,108,111,115,115,121]) (z:=n.nums.getD 2 0) (by omega)) ?_
  intro v H3_ hv
  refine Hush.out ?_
  obtain ⟨rfl,rfl⟩:=hv
  refine ⟨?_⟩
  refine held_by hv3 ?_
  try (simp (disch:=omega) only [go_sem,↓cB,dB,id_eq,List.length_cons,List.length_nil,List.length_append])
  refine call_to (r10opt_spec (s:=[32,99,111,112,121,105,110,103]) (z:=n.nums.getD 3 0) (by omega)) ?_
  intro v H3_ hv
  refine Hush.out ?_
  obtain ⟨rfl,rfl⟩:=hv
  refine ⟨?_⟩
  refine held_by hv3 ?_
  try (simp (disch:=omega) only [go_sem,↓cB,dB,id_eq,List.length_cons,List.length_nil,List.length_append])
  exact fin ⟨((g1.trans f2).trans f3),by rw [hT]; try simp⟩
 ·obtain rfl:=kidsN hok (by omega)
  have hw0:=w0_get hok (i:=0) (by rw [e]; decide)
  obtain ⟨wb,wo,rfl,hwb,hwc⟩:=nx1.w 0 _ hw0
  rw [Nat.add_zero] at hwc
  rw [e] at hwl
  have lw:=wOk_getD (okN_words hok) 0
  have hwl1:n.words.length=1:=hwl
  have hu0:=n0_get hok (i:=0) (by rw [e]; decide)
  obtain ⟨ub,uo,rfl,hub,u0c⟩:=nx1.u 0 _ hu0
  rw [Nat.add_zero] at u0c
  have q0:=okN_num hok (i:=0) (by rw [e]; decide)
  have hu1:=n0_get hok (i:=1) (by rw [e]; decide)
  obtain ⟨ub1,uo1,hxu1,-,u1c⟩:=nx1.u 1 _ hu1
  simp only [Option.some.injEq,Addr.mk.injEq,and_true] at hxu1
  obtain ⟨rfl,rfl⟩:=hxu1
  have q1:=okN_num hok (i:=1) (by rw [e]; decide)
  rw [e] at hul q0 q1
  have hul1:n.nums.length=2:=hul
  have r0:0≤n.nums.getD 0 0∧n.nums.getD 0 0≤999999:=q0
  have r1:-999999≤n.nums.getD 1 0∧n.nums.getD 1 0≤999999:=q1
  have l0:=dig_len (n.nums.getD 0 0)
  have l1:=dig_len (n.nums.getD 1 0)
  have hT:thN n Fo.nil.vs d = [118,97,114,32] ++ n.words.getD 0 [] ++ [32,111,102,32] ++ digI (n.nums.getD 0 0) ++ [32,61,32] ++ digI (n.nums.getD 1 0) ++ [59]:=by simp only [thN,e,Int.reduceEq,↓reduceIte] <;> rfl
  rw [hT] at hX
  simp only [List.length_append,List.length_cons,List.length_nil] at hX
  have hv0:=hv_ok (H:=A1) (L:=[⟨H.size,1,none⟩,⟨wb,wo,none⟩,⟨H.size,2,none⟩,⟨ub,uo,none⟩,⟨ub,uo + 1,none⟩])
  have a1:=hv_at k1c (L:=[⟨H.size,1,none⟩,⟨wb,wo,none⟩,⟨H.size,2,none⟩,⟨ub,uo,none⟩,⟨ub,uo + 1,none⟩]) (by simp)
  have a2:=hv_at hwc (L:=[⟨H.size,1,none⟩,⟨wb,wo,none⟩,⟨H.size,2,none⟩,⟨ub,uo,none⟩,⟨ub,uo + 1,none⟩]) (by simp)
  have a3:=hv_at k2c (L:=[⟨H.size,1,none⟩,⟨wb,wo,none⟩,⟨H.size,2,none⟩,⟨ub,uo,none⟩,⟨ub,uo + 1,none⟩]) (by simp)
  have a4:=hv_at u0c (L:=[⟨H.size,1,none⟩,⟨wb,wo,none⟩,⟨H.size,2,none⟩,⟨ub,uo,none⟩,⟨ub,uo + 1,none⟩]) (by simp)
  have a5:=hv_at u1c (L:=[⟨H.size,1,none⟩,⟨wb,wo,none⟩,⟨H.size,2,none⟩,⟨ub,uo,none⟩,⟨ub,uo + 1,none⟩]) (by simp)
  generalize hvL A1 [⟨H.size,1,none⟩,⟨wb,wo,none⟩,⟨H.size,2,none⟩,⟨ub,uo,none⟩,⟨ub,uo + 1,none⟩]=hld at hv0 a1 a2 a3 a4 a5
  have hv1:=hv0
  simp (disch:=omega) only [go_sem,↓cB,dB,k0c,e]
  refine draw1 (lk [(0,false),(1,false),(2,false),(3,false),(4,false),(5,false),(6,true),(7,true),(8,true),(9,true),(13,false),(14,false),(15,false),(16,false)] (.act 10 (lk [(11,false),(12,false)] (.act 17 (lk [(18,true),(19,true),(20,true)] .fin) .non)) .non)) T.mixed hld hv0 ?_
  try (simp (disch:=omega) only [go_sem,↓cB,dB,a1,a2,a3,a4,a5,k1c,k2c,u0c,hwl1,hul1,List.length_cons,List.length_nil,List.length_append,id_eq])
  refine call_to (r10num_spec (z:=n.nums.getD 0 0) ⟨by omega,r0.2⟩) ?_
  intro v H2 hv
  refine Hush.out ?_
  obtain ⟨f2,rfl⟩:=hv
  have nl2:=nl1.grow f2
  have hp2:p≤H2.size:=by have:=f2.size; omega
  have nx2:NX H2 p n _ _ _ _:=nx1.keep (fun b hb=>f2.same b (by omega) (by simp))
  have hv2:=hv_fr hv1 f2
  refine ⟨?_⟩
  refine held_by hv2 ?_
  try (simp (disch:=omega) only [go_sem,↓cB,dB,id_eq,List.length_cons,List.length_nil,List.length_append])
  refine call_to (r10num_spec (z:=n.nums.getD 1 0) ⟨by omega,r1.2⟩) ?_
  intro v H3 hv
  refine Hush.out ?_
  obtain ⟨f3,rfl⟩:=hv
  have nl3:=nl2.grow f3
  have hp3:p≤H3.size:=by have:=f3.size; omega
  have nx3:NX H3 p n _ _ _ _:=nx2.keep (fun b hb=>f3.same b (by omega) (by simp))
  have hv3:=hv_fr hv2 f3
  refine ⟨?_⟩
  refine held_by hv3 ?_
  try (simp (disch:=omega) only [go_sem,↓cB,dB,id_eq,List.length_cons,List.length_nil,List.length_append])
  exact fin ⟨((g1.trans f2).trans f3),by rw [hT]; try simp⟩
 ·have hw0:=w0_get hok (i:=0) (by rw [e]; decide)
  obtain ⟨wb,wo,rfl,hwb,hwc⟩:=nx1.w 0 _ hw0
  rw [Nat.add_zero] at hwc
  rw [e] at hwl
  have lw:=wOk_getD (okN_words hok) 0
  have hwl1:n.words.length=1:=hwl
  have hu0:=n0_get hok (i:=0) (by rw [e]; decide)
  obtain ⟨ub,uo,rfl,hub,u0c⟩:=nx1.u 0 _ hu0
  rw [Nat.add_zero] at u0c
  have q0:=okN_num hok (i:=0) (by rw [e]; decide)
  rw [e] at hul q0
  have hul1:n.nums.length=1:=hul
  have r0:0≤n.nums.getD 0 0∧n.nums.getD 0 0≤999999:=q0
  have l0:=dig_len (n.nums.getD 0 0)
  have hT:thN n k.vs d = [112,114,111,99,32] ++ n.words.getD 0 [] ++ [32,42,32] ++ digI (n.nums.getD 0 0) ++ [32] ++ braS k.vs d:=by simp only [thN,e,Int.reduceEq,↓reduceIte] <;> rfl
  rw [hT] at hX
  simp only [List.length_append,List.length_cons,List.length_nil] at hX
  have hv0:=hv_ok (H:=A1) (L:=[⟨H.size,1,none⟩,⟨wb,wo,none⟩,⟨H.size,2,none⟩,⟨ub,uo,none⟩,⟨H.size,3,none⟩])
  have a1:=hv_at k1c (L:=[⟨H.size,1,none⟩,⟨wb,wo,none⟩,⟨H.size,2,none⟩,⟨ub,uo,none⟩,⟨H.size,3,none⟩]) (by simp)
  have a2:=hv_at hwc (L:=[⟨H.size,1,none⟩,⟨wb,wo,none⟩,⟨H.size,2,none⟩,⟨ub,uo,none⟩,⟨H.size,3,none⟩]) (by simp)
  have a3:=hv_at k2c (L:=[⟨H.size,1,none⟩,⟨wb,wo,none⟩,⟨H.size,2,none⟩,⟨ub,uo,none⟩,⟨H.size,3,none⟩]) (by simp)
  have a4:=hv_at u0c (L:=[⟨H.size,1,none⟩,⟨wb,wo,none⟩,⟨H.size,2,none⟩,⟨ub,uo,none⟩,⟨H.size,3,none⟩]) (by simp)
  have a5:=hv_at k3c (L:=[⟨H.size,1,none⟩,⟨wb,wo,none⟩,⟨H.size,2,none⟩,⟨ub,uo,none⟩,⟨H.size,3,none⟩]) (by simp)
  generalize hvL A1 [⟨H.size,1,none⟩,⟨wb,wo,none⟩,⟨H.size,2,none⟩,⟨ub,uo,none⟩,⟨H.size,3,none⟩]=hld at hv0 a1 a2 a3 a4 a5
  have hv1:=hv0
  simp (disch:=omega) only [go_sem,↓cB,dB,k0c,e]
  refine draw1 (lk [(0,false),(1,false),(2,false),(3,false),(4,false),(5,false),(6,true),(7,true),(8,true),(9,true),(13,false),(14,false),(15,false),(16,false)] (.act 10 (lk [(11,false),(12,false)] (.act 17 (lk [(18,true),(19,true)] .fin) .non)) .non)) T.mixed hld hv0 ?_
  try (simp (disch:=omega) only [go_sem,↓cB,dB,a1,a2,a3,a4,a5,k1c,k2c,u0c,hwl1,hul1,List.length_cons,List.length_nil,List.length_append,id_eq])
  refine call_to (r10num_spec (z:=n.nums.getD 0 0) ⟨by omega,r0.2⟩) ?_
  intro v H2 hv
  refine Hush.out ?_
  obtain ⟨f2,rfl⟩:=hv
  have nl2:=nl1.grow f2
  have hp2:p≤H2.size:=by have:=f2.size; omega
  have nx2:NX H2 p n _ _ _ _:=nx1.keep (fun b hb=>f2.same b (by omega) (by simp))
  have hv2:=hv_fr hv1 f2
  refine ⟨?_⟩
  refine held_by hv2 ?_
  try (simp (disch:=omega) only [go_sem,↓cB,dB,id_eq,List.length_cons,List.length_nil,List.length_append])
  refine call_to (bd e hp2 nl2 (fun i x hx=>nx2.k i x hx) hl (by omega) (by omega)) ?_
  intro v H3 hv
  refine Hush.out ?_
  obtain ⟨f3,rfl⟩:=hv
  have nl3:=nl2.grow f3
  have hp3:p≤H3.size:=by have:=f3.size; omega
  have nx3:NX H3 p n _ _ _ _:=nx2.keep (fun b hb=>f3.same b (by omega) (by simp))
  have hv3:=hv_fr hv2 f3
  refine ⟨?_⟩
  refine held_by hv3 ?_
  try (simp (disch:=omega) only [go_sem,↓cB,dB,id_eq,List.length_cons,List.length_nil,List.length_append])
  exact fin ⟨((g1.trans f2).trans f3),by rw [hT]; try simp⟩
 ·obtain ⟨n1,k1,rfl,h17,h22⟩:=kidsE hok (by omega)
  simp only [Fo.ok,Bool.and_true,Bool.and_eq_true] at hko
  simp only [Fo.bare,Bool.and_true,Bool.and_eq_true,decide_eq_true_eq] at hkb
  simp only [Fo.cnt] at hc
  have i1:RXs l p v n1 k1:=rExpr_all l p v (k1.cnt + 1) n1 k1 (by omega) (by omega) hko.1 hkb.1 hko.2 hkb.2 h17 h22
  rw [show (Fo.cons n1 k1 .nil).len=1 from rfl] at *
  obtain ⟨kb,ko,rfl,hkb2,hkc⟩:=nx1.k 0 _ rfl
  rw [Nat.add_zero] at hkc
  have hT:thN n (Fo.cons n1 k1 .nil).vs d = [115,97,102,101,32] ++ exN n1 k1.vs ++ [59]:=by simp only [thN,e,Int.reduceEq,↓reduceIte] <;> rfl
  rw [hT] at hX
  simp only [List.length_append,List.length_cons,List.length_nil] at hX
  simp (disch:=omega) only [go_sem,↓cB,dB,k0c,e,k3c,hkc]
  refine call_to (i1 hp1 nl1 hl) ?_
  intro v H2 hv
  refine Hush.out ?_
  obtain ⟨f2,rfl⟩:=hv
  have nl2:=nl1.grow f2
  have hp2:p≤H2.size:=by have:=f2.size; omega
  have nx2:NX H2 p n _ _ _ _:=nx1.keep (fun b hb=>f2.same b (by omega) (by simp))
  refine ⟨?_⟩
  try (simp (disch:=omega) only [go_sem,↓cB,dB,id_eq,List.length_cons,List.length_nil,List.length_append])
  exact fin ⟨(g1.trans f2),by rw [hT]; try simp⟩
 ·obtain rfl:=kidsN hok (by omega)
  have hT:thN n Fo.nil.vs d = [100,101,97,100,108,111,99,107,59]:=by simp only [thN,e,Int.reduceEq,↓reduceIte] <;> rfl
  rw [hT] at hX
  simp only [List.length_append,List.length_cons,List.length_nil] at hX
  simp (disch:=omega) only [go_sem,↓cB,dB,k0c,e]
  exact fin ⟨g1,by rw [hT]; try simp⟩
 ·have hw0:=w0_get hok (i:=0) (by rw [e]; decide)
  obtain ⟨wb,wo,rfl,hwb,hwc⟩:=nx1.w 0 _ hw0
  rw [Nat.add_zero] at hwc
  rw [e] at hwl
  have lw:=wOk_getD (okN_words hok) 0
  have hwl1:n.words.length=1:=hwl
  obtain ⟨n1,k1,rfl,h17,h22⟩:=kidsE hok (by omega)
  simp only [Fo.ok,Bool.and_true,Bool.and_eq_true] at hko
  simp only [Fo.bare,Bool.and_true,Bool.and_eq_true,decide_eq_true_eq] at hkb
  simp only [Fo.cnt] at hc
  have i1:RXs l p v n1 k1:=rExpr_all l p v (k1.cnt + 1) n1 k1 (by omega) (by omega) hko.1 hkb.1 hko.2 hkb.2 h17 h22
  rw [show (Fo.cons n1 k1 .nil).len=1 from rfl] at *
  obtain ⟨kb,ko,rfl,hkb2,hkc⟩:=nx1.k 0 _ rfl
  rw [Nat.add_zero] at hkc
  have hT:thN n (Fo.cons n1 k1 .nil).vs d=n.words.getD 0 [] ++ [32,61,32] ++ exN n1 k1.vs ++ [59]:=by simp only [thN,e,Int.reduceEq,↓reduceIte] <;> rfl
  rw [hT] at hX
  simp only [List.length_append,List.length_cons,List.length_nil] at hX
  have hv0:=hv_ok (H:=A1) (L:=[⟨H.size,1,none⟩,⟨wb,wo,none⟩,⟨H.size,3,none⟩,⟨kb,ko,none⟩])
  have a1:=hv_at k1c (L:=[⟨H.size,1,none⟩,⟨wb,wo,none⟩,⟨H.size,3,none⟩,⟨kb,ko,none⟩]) (by simp)
  have a2:=hv_at hwc (L:=[⟨H.size,1,none⟩,⟨wb,wo,none⟩,⟨H.size,3,none⟩,⟨kb,ko,none⟩]) (by simp)
  have a3:=hv_at k3c (L:=[⟨H.size,1,none⟩,⟨wb,wo,none⟩,⟨H.size,3,none⟩,⟨kb,ko,none⟩]) (by simp)
  have a4:=hv_at hkc (L:=[⟨H.size,1,none⟩,⟨wb,wo,none⟩,⟨H.size,3,none⟩,⟨kb,ko,none⟩]) (by simp)
  generalize hvL A1 [⟨H.size,1,none⟩,⟨wb,wo,none⟩,⟨H.size,3,none⟩,⟨kb,ko,none⟩]=hld at hv0 a1 a2 a3 a4
  have hv1:=hv0
  simp (disch:=omega) only [go_sem,↓cB,dB,k0c,e]
  refine draw1 (lk [(0,false),(1,false),(2,false),(3,false),(4,false),(5,true),(6,true),(7,true),(8,true),(9,true)] (.act 10 (lk [(11,true),(12,true),(13,true)] .fin) .non)) T.mixed hld hv0 ?_
  try (simp (disch:=omega) only [go_sem,↓cB,dB,a1,a2,a3,a4,k1c,k3c,hkc,hwl1,List.length_cons,List.length_nil,List.length_append,id_eq])
  refine call_to (i1 hp1 nl1 hl) ?_
  intro v H2 hv
  refine Hush.out ?_
  obtain ⟨f2,rfl⟩:=hv
  have nl2:=nl1.grow f2
  have hp2:p≤H2.size:=by have:=f2.size; omega
  have nx2:NX H2 p n _ _ _ _:=nx1.keep (fun b hb=>f2.same b (by omega) (by simp))
  have hv2:=hv_fr hv1 f2
  refine ⟨?_⟩
  refine held_by hv2 ?_
  try (simp (disch:=omega) only [go_sem,↓cB,dB,id_eq,List.length_cons,List.length_nil,List.length_append])
  exact fin ⟨(g1.trans f2),by rw [hT]; try simp⟩
 ·have hw0:=w0_get hok (i:=0) (by rw [e]; decide)
  obtain ⟨wb,wo,rfl,hwb,hwc⟩:=nx1.w 0 _ hw0
  rw [Nat.add_zero] at hwc
  rw [e] at hwl
  have lw:=wOk_getD (okN_words hok) 0
  have hwl1:n.words.length=1:=hwl
  obtain ⟨n1,k1,rfl,h17,h22⟩:=kidsE hok (by omega)
  simp only [Fo.ok,Bool.and_true,Bool.and_eq_true] at hko
  simp only [Fo.bare,Bool.and_true,Bool.and_eq_true,decide_eq_true_eq] at hkb
  simp only [Fo.cnt] at hc
  have i1:RXs l p v n1 k1:=rExpr_all l p v (k1.cnt + 1) n1 k1 (by omega) (by omega) hko.1 hkb.1 hko.2 hkb.2 h17 h22
  rw [show (Fo.cons n1 k1 .nil).len=1 from rfl] at *
  obtain ⟨kb,ko,rfl,hkb2,hkc⟩:=nx1.k 0 _ rfl
  rw [Nat.add_zero] at hkc
  have hT:thN n (Fo.cons n1 k1 .nil).vs d = [115,101,110,100,32] ++ n.words.getD 0 [] ++ [32] ++ exN n1 k1.vs ++ [59]:=by simp only [thN,e,Int.reduceEq,↓reduceIte] <;> rfl
  rw [hT] at hX
  simp only [List.length_append,List.length_cons,List.length_nil] at hX
  have hv0:=hv_ok (H:=A1) (L:=[⟨H.size,1,none⟩,⟨wb,wo,none⟩,⟨H.size,3,none⟩,⟨kb,ko,none⟩])
  have a1:=hv_at k1c (L:=[⟨H.size,1,none⟩,⟨wb,wo,none⟩,⟨H.size,3,none⟩,⟨kb,ko,none⟩]) (by simp)
  have a2:=hv_at hwc (L:=[⟨H.size,1,none⟩,⟨wb,wo,none⟩,⟨H.size,3,none⟩,⟨kb,ko,none⟩]) (by simp)
  have a3:=hv_at k3c (L:=[⟨H.size,1,none⟩,⟨wb,wo,none⟩,⟨H.size,3,none⟩,⟨kb,ko,none⟩]) (by simp)
  have a4:=hv_at hkc (L:=[⟨H.size,1,none⟩,⟨wb,wo,none⟩,⟨H.size,3,none⟩,⟨kb,ko,none⟩]) (by simp)
  generalize hvL A1 [⟨H.size,1,none⟩,⟨wb,wo,none⟩,⟨H.size,3,none⟩,⟨kb,ko,none⟩]=hld at hv0 a1 a2 a3 a4
  have hv1:=hv0
  simp (disch:=omega) only [go_sem,↓cB,dB,k0c,e]
  refine draw1 (lk [(0,false),(1,false),(2,false),(3,false),(4,false),(5,false),(6,true),(7,true),(8,true),(9,true),(10,true)] (.act 11 (lk [(12,true),(13,true),(14,true)] .fin) .non)) T.mixed hld hv0 ?_
  try (simp (disch:=omega) only [go_sem,↓cB,dB,a1,a2,a3,a4,k1c,k3c,hkc,hwl1,List.length_cons,List.length_nil,List.length_append,id_eq])
  refine call_to (i1 hp1 nl1 hl) ?_
  intro v H2 hv
  refine Hush.out ?_
  obtain ⟨f2,rfl⟩:=hv
  have nl2:=nl1.grow f2
  have hp2:p≤H2.size:=by have:=f2.size; omega
  have nx2:NX H2 p n _ _ _ _:=nx1.keep (fun b hb=>f2.same b (by omega) (by simp))
  have hv2:=hv_fr hv1 f2
  refine ⟨?_⟩
  refine held_by hv2 ?_
  try (simp (disch:=omega) only [go_sem,↓cB,dB,id_eq,List.length_cons,List.length_nil,List.length_append])
  exact fin ⟨(g1.trans f2),by rw [hT]; try simp⟩
 ·obtain rfl:=kidsN hok (by omega)
  have hw0:=w0_get hok (i:=0) (by rw [e]; decide)
  obtain ⟨wb,wo,rfl,hwb,hwc⟩:=nx1.w 0 _ hw0
  rw [Nat.add_zero] at hwc
  rw [e] at hwl
  have lw:=wOk_getD (okN_words hok) 0
  have hwl1:n.words.length=2:=hwl
  have hw1:=w0_get hok (i:=1) (by rw [e]; decide)
  obtain ⟨wb1,wo1,hxw,-,hwc1⟩:=nx1.w 1 _ hw1
  simp only [Option.some.injEq,Addr.mk.injEq,and_true] at hxw
  obtain ⟨rfl,rfl⟩:=hxw
  have lw1:=wOk_getD (okN_words hok) 1
  have hu0:=n0_get hok (i:=0) (by rw [e]; decide)
  obtain ⟨ub,uo,rfl,hub,u0c⟩:=nx1.u 0 _ hu0
  rw [Nat.add_zero] at u0c
  have q0:=okN_num hok (i:=0) (by rw [e]; decide)
  rw [e] at hul q0
  have hul1:n.nums.length=1:=hul
  have r0:0≤n.nums.getD 0 0∧n.nums.getD 0 0≤1:=q0
  have lo:=@opt_len (n.nums.getD 0 0) [105,100,108,101,32]
  simp only [List.length_cons,List.length_nil] at lo
  have hT:thN n Fo.nil.vs d=optS (n.nums.getD 0 0) [105,100,108,101,32] ++ [114,101,99,118,32] ++ n.words.getD 0 [] ++ [32] ++ n.words.getD 1 [] ++ [59]:=by simp only [thN,e,Int.reduceEq,↓reduceIte] <;> rfl
  rw [hT] at hX
  simp only [List.length_append,List.length_cons,List.length_nil] at hX
  have hv0:=hv_ok (H:=A1) (L:=[⟨H.size,2,none⟩,⟨ub,uo,none⟩,⟨H.size,1,none⟩,⟨wb,wo,none⟩,⟨wb,wo + 1,none⟩])
  have a1:=hv_at k2c (L:=[⟨H.size,2,none⟩,⟨ub,uo,none⟩,⟨H.size,1,none⟩,⟨wb,wo,none⟩,⟨wb,wo + 1,none⟩]) (by simp)
  have a2:=hv_at u0c (L:=[⟨H.size,2,none⟩,⟨ub,uo,none⟩,⟨H.size,1,none⟩,⟨wb,wo,none⟩,⟨wb,wo + 1,none⟩]) (by simp)
  have a3:=hv_at k1c (L:=[⟨H.size,2,none⟩,⟨ub,uo,none⟩,⟨H.size,1,none⟩,⟨wb,wo,none⟩,⟨wb,wo + 1,none⟩]) (by simp)
  have a4:=hv_at hwc (L:=[⟨H.size,2,none⟩,⟨ub,uo,none⟩,⟨H.size,1,none⟩,⟨wb,wo,none⟩,⟨wb,wo + 1,none⟩]) (by simp)
  have a5:=hv_at hwc1 (L:=[⟨H.size,2,none⟩,⟨ub,uo,none⟩,⟨H.size,1,none⟩,⟨wb,wo,none⟩,⟨wb,wo + 1,none⟩]) (by simp)
  generalize hvL A1 [⟨H.size,2,none⟩,⟨ub,uo,none⟩,⟨H.size,1,none⟩,⟨wb,wo,none⟩,⟨wb,wo + 1,none⟩]=hld at hv0 a1 a2 a3 a4 a5
  have hv1:=hv0
  simp (disch:=omega) only [go_sem,↓cB,dB,k0c,e]
  refine draw1 (lk [(0,true),(1,true),(2,true),(3,true),(6,false),(7,false),(8,false),(9,false),(12,false),(13,false),(14,false),(15,false)] (.act 4 (lk [(5,true),(10,true),(11,true),(16,true),(17,true),(18,true)] .fin) .non)) T.mixed hld hv0 ?_
  try (simp (disch:=omega) only [go_sem,↓cB,dB,a1,a2,a3,a4,a5,k1c,k2c,u0c,hwl1,hul1,List.length_cons,List.length_nil,List.length_append,id_eq])
  refine call_to (r10opt_spec (s:=[105,100,108,101,32]) (z:=n.nums.getD 0 0) (by omega)) ?_
  intro v H1_ hv
  refine Hush.out ?_
  obtain ⟨rfl,rfl⟩:=hv
  refine ⟨?_⟩
  refine held_by hv1 ?_
  try (simp (disch:=omega) only [go_sem,↓cB,dB,id_eq,List.length_cons,List.length_nil,List.length_append])
  exact fin ⟨g1,by rw [hT]; try simp⟩
 ·have hu0:=n0_get hok (i:=0) (by rw [e]; decide)
  obtain ⟨ub,uo,rfl,hub,u0c⟩:=nx1.u 0 _ hu0
  rw [Nat.add_zero] at u0c
  have q0:=okN_num hok (i:=0) (by rw [e]; decide)
  rw [e] at hul q0
  have hul1:n.nums.length=1:=hul
  have r0:0≤n.nums.getD 0 0∧n.nums.getD 0 0≤1:=q0
  have lo:=@opt_len (n.nums.getD 0 0) [105,100,108,101,32]
  simp only [List.length_cons,List.length_nil] at lo
  obtain ⟨n1,k1,rfl,h17,h22⟩:=kidsE hok (by omega)
  simp only [Fo.ok,Bool.and_true,Bool.and_eq_true] at hko
  simp only [Fo.bare,Bool.and_true,Bool.and_eq_true,decide_eq_true_eq] at hkb
  simp only [Fo.cnt] at hc
  have i1:RXs l p v n1 k1:=rExpr_all l p v (k1.cnt + 1) n1 k1 (by omega) (by omega) hko.1 hkb.1 hko.2 hkb.2 h17 h22
  rw [show (Fo.cons n1 k1 .nil).len=1 from rfl] at *
  obtain ⟨kb,ko,rfl,hkb2,hkc⟩:=nx1.k 0 _ rfl
  rw [Nat.add_zero] at hkc
  have hT:thN n (Fo.cons n1 k1 .nil).vs d=optS (n.nums.getD 0 0) [105,100,108,101,32] ++ [119,104,101,110,32] ++ exN n1 k1.vs ++ [59]:=by simp only [thN,e,Int.reduceEq,↓reduceIte] <;> rfl
  rw [hT] at hX
  simp only [List.length_append,List.length_cons,List.length_nil] at hX
  have hv0:=hv_ok (H:=A1) (L:=[⟨H.size,2,none⟩,⟨ub,uo,none⟩,⟨H.size,3,none⟩,⟨kb,ko,none⟩])
  have a1:=hv_at k2c (L:=[⟨H.size,2,none⟩,⟨ub,uo,none⟩,⟨H.size,3,none⟩,⟨kb,ko,none⟩]) (by simp)
  have a2:=hv_at u0c (L:=[⟨H.size,2,none⟩,⟨ub,uo,none⟩,⟨H.size,3,none⟩,⟨kb,ko,none⟩]) (by simp)
  have a3:=hv_at k3c (L:=[⟨H.size,2,none⟩,⟨ub,uo,none⟩,⟨H.size,3,none⟩,⟨kb,ko,none⟩]) (by simp)
  have a4:=hv_at hkc (L:=[⟨H.size,2,none⟩,⟨ub,uo,none⟩,⟨H.size,3,none⟩,⟨kb,ko,none⟩]) (by simp)
  generalize hvL A1 [⟨H.size,2,none⟩,⟨ub,uo,none⟩,⟨H.size,3,none⟩,⟨kb,ko,none⟩]=hld at hv0 a1 a2 a3 a4
  have hv1:=hv0
  simp (disch:=omega) only [go_sem,↓cB,dB,k0c,e]
  refine draw1 (lk [(0,true),(1,true),(2,true),(3,true),(6,false),(7,false),(8,false),(9,false),(10,false)] (.act 4 (lk [(5,false)] (.act 11 (lk [(12,true),(13,true),(14,true)] .fin) .non)) .non)) T.mixed hld hv0 ?_
  try (simp (disch:=omega) only [go_sem,↓cB,dB,a1,a2,a3,a4,k2c,u0c,hul1,List.length_cons,List.length_nil,List.length_append,id_eq])
  refine call_to (r10opt_spec (s:=[105,100,108,101,32]) (z:=n.nums.getD 0 0) (by omega)) ?_
  intro v H1_ hv
  refine Hush.out ?_
  obtain ⟨rfl,rfl⟩:=hv
  refine ⟨?_⟩
  refine held_by hv1 ?_
  try (simp (disch:=omega) only [go_sem,↓cB,dB,id_eq,List.length_cons,List.length_nil,List.length_append])
  refine call_to (i1 hp1 nl1 hl) ?_
  intro v H2 hv
  refine Hush.out ?_
  obtain ⟨f2,rfl⟩:=hv
  have nl2:=nl1.grow f2
  have hp2:p≤H2.size:=by have:=f2.size; omega
  have nx2:NX H2 p n _ _ _ _:=nx1.keep (fun b hb=>f2.same b (by omega) (by simp))
  have hv2:=hv_fr hv1 f2
  refine ⟨?_⟩
  refine held_by hv2 ?_
  try (simp (disch:=omega) only [go_sem,↓cB,dB,id_eq,List.length_cons,List.length_nil,List.length_append])
  exact fin ⟨(g1.trans f2),by rw [hT]; try simp⟩
 ·have hu0:=n0_get hok (i:=0) (by rw [e]; decide)
  obtain ⟨ub,uo,rfl,hub,u0c⟩:=nx1.u 0 _ hu0
  rw [Nat.add_zero] at u0c
  have q0:=okN_num hok (i:=0) (by rw [e]; decide)
  rw [e] at hul q0
  have hul1:n.nums.length=1:=hul
  have r0:0≤n.nums.getD 0 0∧n.nums.getD 0 0≤1:=q0
  have lo:=@opt_len (n.nums.getD 0 0) [105,100,108,101,32]
  simp only [List.length_cons,List.length_nil] at lo
  have hT:thN n k.vs d=optS (n.nums.getD 0 0) [105,100,108,101,32] ++ [99,104,111,111,115,101,32] ++ joinS [32,111,114,32] d k.vs:=by simp only [thN,e,Int.reduceEq,↓reduceIte] <;> rfl
  rw [hT] at hX
  simp only [List.length_append,List.length_cons,List.length_nil] at hX
  have hv0:=hv_ok (H:=A1) (L:=[⟨H.size,2,none⟩,⟨ub,uo,none⟩] ++ rowV H.size 0 5)
  have a1:=hv_at k2c (L:=[⟨H.size,2,none⟩,⟨ub,uo,none⟩] ++ rowV H.size 0 5) (by simp)
  have a2:=hv_at u0c (L:=[⟨H.size,2,none⟩,⟨ub,uo,none⟩] ++ rowV H.size 0 5) (by simp)
  have b1:=hv_cells (L:=[⟨H.size,2,none⟩,⟨ub,uo,none⟩] ++ rowV H.size 0 5) 5 0 _ ldn (fun j _ hj=>List.mem_append_right _ (mem_rowV (by omega)))
  generalize hvL A1 ([⟨H.size,2,none⟩,⟨ub,uo,none⟩] ++ rowV H.size 0 5)=hld at hv0 a1 a2 b1
  have hv1:=hv0
  simp (disch:=omega) only [go_sem,↓cB,dB,k0c,e]
  refine draw1 (lk [(0,true),(1,true),(2,true),(3,true),(6,false),(7,false),(8,false)] (.act 4 (lk [(5,false)] (.act 9 (lk [(10,true),(11,true)] .fin) .non)) .non)) T.mixed hld hv0 ?_
  try (simp (disch:=omega) only [go_sem,↓cB,dB,a1,a2,b1,k2c,u0c,List.length_cons,List.length_nil,List.length_append,id_eq])
  refine call_to (r10opt_spec (s:=[105,100,108,101,32]) (z:=n.nums.getD 0 0) (by omega)) ?_
  intro v H1_ hv
  refine Hush.out ?_
  obtain ⟨rfl,rfl⟩:=hv
  refine ⟨?_⟩
  refine held_by hv1 ?_
  try (simp (disch:=omega) only [go_sem,↓cB,dB,id_eq,List.length_cons,List.length_nil,List.length_append])
  refine call_to (r10blocks_spec (f0:=k) (w:=[32,111,114,32]) (frm:=0) hc (all16 ib (kids10 hok e).2) hkb hp1 nl1 nx1 hck hl rfl (by omega) (by omega) (by simp) (by omega)) ?_
  intro v H2 hv
  refine Hush.out ?_
  obtain ⟨f2,rfl⟩:=hv
  have nl2:=nl1.grow f2
  have hp2:p≤H2.size:=by have:=f2.size; omega
  have nx2:NX H2 p n _ _ _ _:=nx1.keep (fun b hb=>f2.same b (by omega) (by simp))
  have hv2:=hv_fr hv1 f2
  refine ⟨?_⟩
  refine held_by hv2 ?_
  try (simp (disch:=omega) only [go_sem,↓cB,dB,id_eq,List.length_cons,List.length_nil,List.length_append])
  exact fin ⟨(g1.trans f2),by rw [hT]; try simp⟩
 ·obtain ⟨n1,k1,r,rfl,g1',g2',g3'⟩:=kids11 hok e
  simp only [Fo.ok,Bool.and_eq_true] at hko
  simp only [Fo.bare,Bool.and_eq_true,decide_eq_true_eq] at hkb
  simp only [Fo.cnt] at hc
  simp only [Fo.dep] at hd
  have i1:RXs l p v n1 k1:=rExpr_all l p v (k1.cnt + 1) n1 k1 (by omega) (by omega) hko.1 hkb.1 hko.2.1 hkb.2.1 g1'.1 g1'.2
  obtain ⟨kb,ko,rfl,hkb2,hkc⟩:=nx1.k 0 _ rfl
  rw [Nat.add_zero] at hkc
  have hT:thN n (Fo.cons n1 k1 r).vs d = [105,102,32] ++ exN n1 k1.vs ++ [32] ++ joinS [32,101,108,115,101,32] d r.vs:=by simp only [thN,e,Int.reduceEq,↓reduceIte] <;> rfl
  rw [hT] at hX
  simp only [List.length_append,List.length_cons,List.length_nil] at hX
  have hlr:(Fo.cons n1 k1 r).len=1 + r.len:=by simp [Fo.len]; omega
  have hv0:=hv_ok (H:=A1) (L:=[⟨H.size,3,none⟩,⟨kb,ko,none⟩] ++ rowV H.size 0 5)
  have a1:=hv_at k3c (L:=[⟨H.size,3,none⟩,⟨kb,ko,none⟩] ++ rowV H.size 0 5) (by simp)
  have a2:=hv_at hkc (L:=[⟨H.size,3,none⟩,⟨kb,ko,none⟩] ++ rowV H.size 0 5) (by simp)
  have b1:=hv_cells (L:=[⟨H.size,3,none⟩,⟨kb,ko,none⟩] ++ rowV H.size 0 5) 5 0 _ ldn (fun j _ hj=>List.mem_append_right _ (mem_rowV (by omega)))
  generalize hvL A1 ([⟨H.size,3,none⟩,⟨kb,ko,none⟩] ++ rowV H.size 0 5)=hld at hv0 a1 a2 b1
  have hv1:=hv0
  simp (disch:=omega) only [go_sem,↓cB,dB,k0c,e]
  refine draw1 (lk [(0,true),(1,true),(2,true),(3,true),(4,true),(8,false),(9,false),(10,false)] (.act 5 (lk [(6,false),(7,false)] (.act 11 (lk [(12,true),(13,true)] .fin) .non)) .non)) T.mixed hld hv0 ?_
  try (simp (disch:=omega) only [go_sem,↓cB,dB,a1,a2,b1,k3c,hkc,List.length_cons,List.length_nil,List.length_append,id_eq])
  refine call_to (i1 hp1 nl1 hl.one) ?_
  intro v H2 hv
  refine Hush.out ?_
  obtain ⟨f2,rfl⟩:=hv
  have nl2:=nl1.grow f2
  have hp2:p≤H2.size:=by have:=f2.size; omega
  have nx2:NX H2 p n _ _ _ _:=nx1.keep (fun b hb=>f2.same b (by omega) (by simp))
  have hv2:=hv_fr hv1 f2
  refine ⟨?_⟩
  refine held_by hv2 ?_
  try (simp (disch:=omega) only [go_sem,↓cB,dB,id_eq,List.length_cons,List.length_nil,List.length_append])
  refine call_to (r10blocks_spec (f0:=r) (w:=[32,101,108,115,101,32]) (frm:=1) (by simp only [Fo.cnt]; omega) (all16 ib.2 g3') hkb.2.2 hp2 nl2 nx2 hck hl.rest rfl (by omega) (by omega) (by simp) (by omega)) ?_
  intro v H3 hv
  refine Hush.out ?_
  obtain ⟨f3,rfl⟩:=hv
  have nl3:=nl2.grow f3
  have hp3:p≤H3.size:=by have:=f3.size; omega
  have nx3:NX H3 p n _ _ _ _:=nx2.keep (fun b hb=>f3.same b (by omega) (by simp))
  have hv3:=hv_fr hv2 f3
  refine ⟨?_⟩
  refine held_by hv3 ?_
  try (simp (disch:=omega) only [go_sem,↓cB,dB,id_eq,List.length_cons,List.length_nil,List.length_append])
  exact fin ⟨((g1.trans f2).trans f3),by rw [hT]; try simp⟩
 ·obtain ⟨n1,k1,r,rfl,g1',g2',g3'⟩:=kids12 hok e
  simp only [Fo.ok,Bool.and_eq_true] at hko
  simp only [Fo.bare,Bool.and_eq_true,decide_eq_true_eq] at hkb
  simp only [Fo.cnt] at hc
  simp only [Fo.dep] at hd
  have i1:RXs l p v n1 k1:=rExpr_all l p v (k1.cnt + 1) n1 k1 (by omega) (by omega) hko.1 hkb.1 hko.2.1 hkb.2.1 g1'.1 g1'.2
  obtain ⟨kb,ko,rfl,hkb2,hkc⟩:=nx1.k 0 _ rfl
  rw [Nat.add_zero] at hkc
  have hT:thN n (Fo.cons n1 k1 r).vs d = [119,104,105,108,101,32] ++ exN n1 k1.vs ++ [32] ++ joinS [] d r.vs:=by simp only [thN,e,Int.reduceEq,↓reduceIte] <;> rfl
  rw [hT] at hX
  simp only [List.length_append,List.length_cons,List.length_nil] at hX
  have hlr:(Fo.cons n1 k1 r).len=1 + r.len:=by simp [Fo.len]; omega
  have hv0:=hv_ok (H:=A1) (L:=[⟨H.size,3,none⟩,⟨kb,ko,none⟩] ++ rowV H.size 0 5)
  have a1:=hv_at k3c (L:=[⟨H.size,3,none⟩,⟨kb,ko,none⟩] ++ rowV H.size 0 5) (by simp)
  have a2:=hv_at hkc (L:=[⟨H.size,3,none⟩,⟨kb,ko,none⟩] ++ rowV H.size 0 5) (by simp)
  have b1:=hv_cells (L:=[⟨H.size,3,none⟩,⟨kb,ko,none⟩] ++ rowV H.size 0 5) 5 0 _ ldn (fun j _ hj=>List.mem_append_right _ (mem_rowV (by omega)))
  generalize hvL A1 ([⟨H.size,3,none⟩,⟨kb,ko,none⟩] ++ rowV H.size 0 5)=hld at hv0 a1 a2 b1
  have hv1:=hv0
  simp (disch:=omega) only [go_sem,↓cB,dB,k0c,e]
  refine draw1 (lk [(0,true),(1,true),(2,true),(3,true),(4,true),(8,false),(9,false),(10,false)] (.act 5 (lk [(6,false),(7,false)] (.act 11 (lk [(12,true),(13,true)] .fin) .non)) .non)) T.mixed hld hv0 ?_
  try (simp (disch:=omega) only [go_sem,↓cB,dB,a1,a2,b1,k3c,hkc,List.length_cons,List.length_nil,List.length_append,id_eq])
  refine call_to (i1 hp1 nl1 hl.one) ?_
  intro v H2 hv
  refine Hush.out ?_
  obtain ⟨f2,rfl⟩:=hv
  have nl2:=nl1.grow f2
  have hp2:p≤H2.size:=by have:=f2.size; omega
  have nx2:NX H2 p n _ _ _ _:=nx1.keep (fun b hb=>f2.same b (by omega) (by simp))
  have hv2:=hv_fr hv1 f2
  refine ⟨?_⟩
  refine held_by hv2 ?_
  try (simp (disch:=omega) only [go_sem,↓cB,dB,id_eq,List.length_cons,List.length_nil,List.length_append])
  refine call_to (r10blocks_spec (f0:=r) (w:=[]) (frm:=1) (by simp only [Fo.cnt]; omega) (all16 ib.2 g3') hkb.2.2 hp2 nl2 nx2 hck hl.rest rfl (by omega) (by omega) (by simp) (by omega)) ?_
  intro v H3 hv
  refine Hush.out ?_
  obtain ⟨f3,rfl⟩:=hv
  have nl3:=nl2.grow f3
  have hp3:p≤H3.size:=by have:=f3.size; omega
  have nx3:NX H3 p n _ _ _ _:=nx2.keep (fun b hb=>f3.same b (by omega) (by simp))
  have hv3:=hv_fr hv2 f3
  refine ⟨?_⟩
  refine held_by hv3 ?_
  try (simp (disch:=omega) only [go_sem,↓cB,dB,id_eq,List.length_cons,List.length_nil,List.length_append])
  exact fin ⟨((g1.trans f2).trans f3),by rw [hT]; try simp⟩
 ·obtain ⟨g2',g3'⟩:=kids13 hok e
  have hT:thN n k.vs d = [97,116,111,109,105,99,32] ++ joinS [] d k.vs:=by simp only [thN,e,Int.reduceEq,↓reduceIte] <;> rfl
  rw [hT] at hX
  simp only [List.length_append,List.length_cons,List.length_nil] at hX
  simp (disch:=omega) only [go_sem,↓cB,dB,k0c,e]
  try (simp (disch:=omega) only [go_sem,↓cB,dB,ldn])
  refine call_to (r10blocks_spec (f0:=k) (w:=[]) (frm:=0) hc (all16 ib g3') hkb hp1 nl1 nx1 hck hl rfl (by omega) (by omega) (by simp) (by omega)) ?_
  intro v H2 hv
  refine Hush.out ?_
  obtain ⟨f2,rfl⟩:=hv
  have nl2:=nl1.grow f2
  have hp2:p≤H2.size:=by have:=f2.size; omega
  have nx2:NX H2 p n _ _ _ _:=nx1.keep (fun b hb=>f2.same b (by omega) (by simp))
  refine ⟨?_⟩
  try (simp (disch:=omega) only [go_sem,↓cB,dB,id_eq,List.length_cons,List.length_nil,List.length_append])
  exact fin ⟨(g1.trans f2),by rw [hT]; try simp⟩
 ·obtain rfl:=kidsN hok (by omega)
  have hT:thN n Fo.nil.vs d = [115,107,105,112,59]:=by simp only [thN,e,Int.reduceEq,↓reduceIte] <;> rfl
  rw [hT] at hX
  simp only [List.length_append,List.length_cons,List.length_nil] at hX
  simp (disch:=omega) only [go_sem,↓cB,dB,k0c,e]
  exact fin ⟨g1,by rw [hT]; try simp⟩
 ·obtain rfl:=kidsN hok (by omega)
  have hT:thN n Fo.nil.vs d = [115,116,111,112,59]:=by simp only [thN,e,Int.reduceEq,↓reduceIte] <;> rfl
  rw [hT] at hX
  simp only [List.length_append,List.length_cons,List.length_nil] at hX
  simp (disch:=omega) only [go_sem,↓cB,dB,k0c,e]
  exact fin ⟨g1,by rw [hT]; try simp⟩
theorem allRT:∀ {k:Fo},k.All (fun n q=>(1≤n.kind∧n.kind≤15→RTs l p v n q)∧(n.kind=16→RBs l p v q))→(∀ x ∈ k.kinds,1≤x∧x≤15)→k.All (RTs l p v)
 | .nil,_,_=>trivial
 | .cons m q r,h,hk=>⟨h.1.1 (hk _ (by simp [Fo.kinds])),allRT h.2 (fun x hx=>hk x (by simp [Fo.kinds,hx]))⟩
theorem allRB:∀ {k:Fo},k.All (fun n q=>(1≤n.kind∧n.kind≤15→RTs l p v n q)∧(n.kind=16→RBs l p v q))→k.All (fun m q=>m.kind=16→RBs l p v q)
 | .nil,_=>trivial
 | .cons m q r,h=>⟨h.1.2,allRB h.2⟩
theorem rAll (l:List Nd) (p:Nat) (v:Value):∀ (c:Nat) (k:Fo),k.cnt < c→k.cnt≤10000→k.ok=true→k.bare=true→k.All (fun n q=>(1≤n.kind∧n.kind≤15→RTs l p v n q)∧(n.kind=16→RBs l p v q)):=by
 intro c
 induction c with
 | zero=>intro k h; omega
 | succ c IH =>
  intro k hc hcc ho hb
  cases k with
  | nil=>trivial
  | cons n q r =>
   simp only [Fo.cnt] at hc hcc
   simp only [Fo.ok,Bool.and_eq_true] at ho
   simp only [Fo.bare,Bool.and_eq_true,decide_eq_true_eq] at hb
   have hq:=IH q (by omega) (by omega) ho.2.1 hb.2.1
   refine ⟨⟨fun h=>?_,fun h=>?_⟩,IH r (by omega) (by omega) ho.2.2 hb.2.2⟩
   ·refine r10thing_spec ho.1 ho.2.1 hb.2.1 (by omega) h.1 h.2 (fun e=>?_) (allRB hq)
    exact r10braces_spec (allRT hq (fun x hx=>by have:=kids3 ho.1 e x hx; omega)) hb.2.1 (by omega)
   ·exact r10braces_spec (allRT hq (fun x hx=>by have:=kids16 ho.1 h x hx; omega)) hb.2.1 (by omega)
end
end Go.Proofs.YtcffdpmmadipeaaGreatDoor
namespace Go.Proofs.YtcffdpmmadipeaaGreatDoor
open Go.HL
set_option maxRecDepth 10000
theorem sub_at {l:List Nd}:∀ (f:Fo) (a i:Nat),Lies l a f→f.ok=true→f.bare=true→i < f.cnt→∃ n k,Lies l (a + i) (.cons n k .nil)∧okN n k.kinds=true∧n.kids = []∧k.ok=true∧k.bare=true ∧
  ((n.kind ∈ f.kinds∧k.cnt + 1≤f.cnt∧k.dep + 1≤f.dep)∨(k.cnt + 2≤f.cnt∧k.dep + 2≤f.dep))
 | .nil,a,i,_,_,_,hi=>by simp [Fo.cnt] at hi
 | .cons n k r,a,i,h,ho,hb,hi=>by
  simp only [Fo.ok,Bool.and_eq_true] at ho
  simp only [Fo.bare,Bool.and_eq_true,decide_eq_true_eq] at hb
  simp only [Fo.cnt] at hi
  simp only [Fo.cnt,Fo.dep,Fo.kinds]
  by_cases h0:i=0
  ·subst h0
   exact ⟨n,k,h.one,ho.1,hb.1,ho.2.1,hb.2.1,.inl ⟨by simp,by omega,by omega⟩⟩
  ·by_cases h1:i≤k.cnt
   ·obtain ⟨n',k',a1,a2,a3,a4,a5,a6⟩:=sub_at k (a + 1) (i - 1) h.kids ho.2.1 hb.2.1 (by omega)
    refine ⟨n',k',by rw [show a + i=a + 1 + (i - 1) from by omega]; exact a1,a2,a3,a4,a5,.inr ?_⟩
    rcases a6 with ⟨-,b1,b2⟩ | ⟨b1,b2⟩ <;> constructor <;> omega
   ·obtain ⟨n',k',a1,a2,a3,a4,a5,a6⟩:=sub_at r (a + 1 + k.cnt) (i - 1 - k.cnt) h.rest ho.2.2 hb.2.2 (by omega)
    refine ⟨n',k',by rw [show a + i=a + 1 + k.cnt + (i - 1 - k.cnt) from by omega]; exact a1,a2,a3,a4,a5,?_⟩
    rcases a6 with ⟨b0,b1,b2⟩ | ⟨b1,b2⟩
    ·exact .inl ⟨by simp [b0],by omega,by omega⟩
    ·exact .inr ⟨by omega,by omega⟩
theorem ex_at {n:Nd} {k:Fo} {i:Nat} (h:RT n k) (hi:i < (layT n k).length) (hk:17≤((layT n k).getD i nd0').kind):∃ m q,Lies (layT n k) i (.cons m q .nil)∧okN m q.kinds=true∧m.kids = []∧q.ok=true∧q.bare=true∧q.cnt≤797∧q.dep≤17∧m.kind=((layT n k).getD i nd0').kind∧m.kind≤22:=by
 have hko:=h.kok
 have hc:=h.cnt
 have hd:=h.dep
 rw [layT_len] at hi
 by_cases h0:i=0
 ·subst h0
  have hb:=h.bare
  simp only [Fo.bare,Bool.and_eq_true,decide_eq_true_eq] at hb
  rw [layT_lies.node hb.1] at hk
  have:=h.kind
  simp only at hk
  omega
 ·obtain ⟨m,q,a1,a2,a3,a4,a5,a6⟩:=sub_at k 1 (i - 1) layT_lies.kids hko.1 hko.2.1 (by omega)
  rw [show 1 + (i - 1)=i from by omega] at a1
  have e:=a1.node a3
  rw [e] at hk ⊢
  simp only at hk ⊢
  have h22:m.kind≤22:=by
   have:=a2
   unfold okN kidsM at this
   simp only [Bool.and_eq_true] at this
   by_cases q:m.kind≤22
   ·exact q
   ·exfalso
    have h3:=this.2.2
    simp only [show ¬ m.kind=0 from by omega,show ¬ m.kind=3 from by omega,show ¬ m.kind=16 from by omega,show ¬ m.kind=10 from by omega,show ¬ m.kind=11 from by omega,show ¬ m.kind=12 from by omega,show ¬ m.kind=13 from by omega,show ¬ (m.kind=4∨m.kind=6∨m.kind=7∨m.kind=9∨m.kind=20∨m.kind=21) from by omega,show ¬ m.kind=22 from by omega,show ¬ (m.kind=1∨m.kind=2∨m.kind=5∨m.kind=8∨m.kind=14∨m.kind=15∨m.kind=17∨m.kind=18∨m.kind=19) from by omega,if_false] at h3
    cases h3
  rcases a6 with ⟨b0,-,-⟩ | ⟨b1,b2⟩
  ·have:=hko.2.2 _ b0; omega
  ·exact ⟨m,q,a1,a2,a3,a4,a5,by omega,by omega,rfl,h22⟩
section
variable {H:Heap} {S S':Nat→Prop} {v v':Value} {l l':List Nd} {n m:Nd} {k q:Fo}
theorem wExpression_spec {z:Int}:CallF Tryz.prog 18 [iv z] H (fun r H'=>H=H'∧r=.bool (decide (17≤z∧z≤22))) NoP:=by
 refine callF_of Tryz.func18 rfl Tryz.ntmps18 Tryz.results18 (by decide) rfl ?_
 by_cases h1:17≤z
 ·simp (disch:=omega) only [go_sem,↓cB,dB,h1,decide_true,ge_iff_le]
  exact fin ⟨rfl,by simp [h1]⟩
 ·simp (disch:=omega) only [go_sem,↓cB,dB,h1,decide_false,ge_iff_le]
  exact fin ⟨rfl,by simp [h1]⟩
theorem nd_cell (h:NL H S v l) {i:Nat} (hi:i < l.length):∃ b o cap,v=.slice (some ⟨b,o,none⟩) l.length cap∧cellH H ⟨b,o + i * 5,none⟩=some (iv (l.getD i nd0').kind):=by
 obtain ⟨b,o,cap,an,e1,e2,-,-,k0,-⟩:=h.row (List.getElem?_eq_getElem hi)
 have:l.getD i nd0'=l[i]:=by rw [List.getD_eq_getElem?_getD,List.getElem?_eq_getElem hi]; rfl
 exact ⟨b,o,cap,e1,by rw [this]; exact k0⟩
set_option maxHeartbeats 1000000 in
theorem wExprF_no (h:NL H S v l) (hz:Sz l) {z:Int} (hn:z < 0∨l.length≤z∨prRightM l=false∨(l.getD z.toNat nd0').kind < 17):CallF Tryz.prog 9 [v,iv z] H (fun r H'=>Fr [] H H'∧r=sv []) NoP:=by
 obtain ⟨av,cv,rfl⟩:=h.len
 have hzl:=hz.len
 refine callF_of Tryz.func9 rfl Tryz.ntmps9 Tryz.results9 (by decide) rfl ?_
 by_cases h1:z < 0
 ·simp (disch:=omega) only [go_sem,↓cB,dB,h1,decide_true]
  exact fin ⟨Fr.refl _ _,rfl⟩
 by_cases h2:(l.length:Int)≤z
 ·simp (disch:=omega) only [go_sem,↓cB,dB,h1,h2,decide_true,decide_false,ge_iff_le]
  exact fin ⟨Fr.refl _ _,rfl⟩
 obtain ⟨i,rfl⟩:∃ i:Nat,z=i:=⟨z.toNat,by omega⟩
 have hi:i < l.length:=by omega
 obtain ⟨b,o,cap,e1,k0⟩:=nd_cell h hi
 simp only [Value.slice.injEq,true_and] at e1
 obtain ⟨rfl,rfl⟩:=e1
 rw [Int.toNat_natCast] at hn
 simp (disch:=omega) only [go_sem,↓cB,dB,h1,h2,k0,decide_false,ge_iff_le]
 refine call_to wExpression_spec ?_
 intro v H1 hv
 refine Hush.out ?_
 obtain ⟨rfl,rfl⟩:=hv
 refine ⟨?_⟩
 by_cases h3:17≤(l.getD i nd0').kind∧(l.getD i nd0').kind≤22
 ·have hr:prRightM l=false:=by
   rcases hn with x | x | x | x
   ·omega
   ·omega
   ·exact x
   ·omega
  simp (disch:=omega) only [go_sem,↓cB,dB,h3,decide_true]
  refine call_to (pgRight_spec h hz) ?_
  intro v H2 hv
  refine Hush.out ?_
  obtain ⟨f2,rfl⟩:=hv
  refine ⟨?_⟩
  simp (disch:=omega) only [go_sem,↓cB,dB,hr]
  exact fin ⟨f2,rfl⟩
 ·simp (disch:=omega) only [go_sem,↓cB,dB,h3,decide_false]
  exact fin ⟨Fr.refl _ _,rfl⟩
set_option maxHeartbeats 1000000 in
theorem wExprF_yes (h:NL H S v l) (hz:Sz l) (gt:GT H) {i:Nat} (hr:prRightM l=true) (hl:Lies l i (.cons m q .nil)) (hok:okN m q.kinds=true) (hb:m.kids = []) (hqo:q.ok=true) (hqb:q.bare=true) (hc:q.cnt≤797) (h17:17≤m.kind) (h22:m.kind≤22) :
  CallF Tryz.prog 9 [v,iv ((i:Nat):Int)] H (fun r H'=>Fr [] H H'∧r=sv (exN m q.vs)) NoP:=by
 have hi:=hl.lt
 have hzl:=hz.len
 obtain ⟨b,o,cap,rfl,k0⟩:=nd_cell h hi
 rw [hl.node hb] at k0
 simp only at k0
 refine callF_of Tryz.func9 rfl Tryz.ntmps9 Tryz.results9 (by decide) rfl ?_
 have h1:¬ (i:Int) < 0:=by omega
 have h2:¬ (l.length:Int)≤(i:Int):=by omega
 simp (disch:=omega) only [go_sem,↓cB,dB,h1,h2,k0,decide_false,ge_iff_le]
 refine call_to wExpression_spec ?_
 intro v H1 hv
 refine Hush.out ?_
 obtain ⟨rfl,rfl⟩:=hv
 refine ⟨?_⟩
 have h3:17≤m.kind∧m.kind≤22:=⟨h17,h22⟩
 simp (disch:=omega) only [go_sem,↓cB,dB,h3,decide_true]
 refine call_to (pgRight_spec h hz) ?_
 intro v H2 hv
 refine Hush.out ?_
 obtain ⟨f2,rfl⟩:=hv
 refine ⟨?_⟩
 have h2':=h.grow f2
 obtain ⟨A1,hA1⟩:∃ A,A=H2.push (.cells #[.slice (some ⟨b,o,none⟩) l.length cap,.pointer none,.slice none 0 0] 49):=⟨_,rfl⟩
 have g1:Fr [] H2 A1:=by rw [hA1]; exact Fr.push
 have bw:Blk A1 H2.size 49 [.slice (some ⟨b,o,none⟩) l.length cap,.pointer none,.slice none 0 0]:=by rw [hA1]; exact Blk.new rfl
 have ep:EP A1 H2.size (.slice (some ⟨b,o,none⟩) l.length cap) l:=⟨bw.cell 0,(h2'.mono (fun b _ hb=>hb)).grow g1,(gt.grow f2).grow g1⟩
 simp (disch:=omega) only [go_sem,↓cB,dB,hr]
 rw [← hA1]
 refine call_to (wExpr_all l H2.size _ (q.cnt + 1) m q (by omega) (by omega) hok hb hqo hqb h17 h22 ep hl) ?_
 intro v H3 hv
 refine Hush.out ?_
 obtain ⟨f3,rfl⟩:=hv
 refine ⟨?_⟩
 simp (disch:=omega) only [go_sem,↓cB,dB]
 exact fin ⟨(f2.trans g1).trans f3,rfl⟩
set_option maxHeartbeats 1000000 in
theorem r10Show_spec (h:NL H S v (layT n k)) (hz:Sz (layT n k)) (hrt:RT n k):CallF Tryz.prog 11 [v] H (fun r H'=>Fr [] H H'∧r=sv (showT k)) NoP:=by
 have hkok:=hrt.kok
 have hb:n.kids = []:=by have:=hrt.bare; simp only [Fo.bare,Bool.and_eq_true,decide_eq_true_eq] at this; exact this.1
 have hlies:Lies (layT n k) 0 (.cons n k .nil):=layT_lies
 have hlen:=showT_len hrt
 have hcnt:=hrt.cnt
 have hlc:=Fo.len_cnt k
 have hdep:=hrt.dep
 generalize layT n k=l at *
 have hs:NL H (· < H.size) v l:=h.mono (fun b _ hb=>hb)
 have hlt:=hlies.lt
 have hall:=allRT (rAll l H.size v (k.cnt + 1) k (by omega) (by omega) hkok.1 hkok.2.1) (fun x hx=>by have:=hkok.2.2 x hx; omega)
 obtain ⟨b,o,cap,xw,cw,xn,cn,xk,ck,hv0,ld,kd,k3,nx,hck⟩:=node_at hs hlies hb
 rw [Nat.zero_mul,Nat.add_zero] at k3
 have hnx:KsL H H.size (k.roots 1) xk:=fun i x hx=>nx.k i x hx
 subst hv0
 refine callF_of Tryz.func11 rfl Tryz.ntmps11 Tryz.results11 (by decide) rfl ?_
 simp (disch:=omega) only [go_sem,↓cB,dB]
 refine loop_by (fun kk ρ H3=>∃ (i:Nat) (f:Fo) (a':Nat) (t:Str),kk=f.len∧i + f.len=k.len∧Lies l a' f∧f.roots a'=(k.roots 1).drop i∧f.All (RTs l H.size (.slice (some ⟨b,o,none⟩) l.length cap))∧f.bare=true∧f.dep≤k.dep∧t ++ linesS 0 f.vs=showT k∧Fr [] H H3 ∧
  (ρ.get 0=.slice (some ⟨b,o,none⟩) l.length cap∧ρ.get 3=sv t∧ρ.get 4=iv i∧ρ.ds = [])) (k:=k.len) ?_ ?_
 ·exact ⟨0,k,1,[],rfl,by omega,hlies.kids,rfl,hall,hkok.2.1,Nat.le_refl _,rfl,Fr.refl _ _,by simp (disch:=omega) only [go_sem,↓cB,dB]⟩
 ·rintro kk ρ H3 ⟨i,f,a',t,rfl,hi,hl3,hr3,ha3,hb3,hd3,ht3,f3,r0,r3,r4,rd⟩
  have hxi:(i:Int) + 1=((i + 1:Nat):Int):=by omega
  have htl:=congrArg List.length ht3
  simp only [List.length_append] at htl
  have k3':=f3.cell' k3 (by simp)
  cases f with
  | nil =>
   have:i=k.len:=by simpa [Fo.len] using hi
   subst this
   simp only [Fo.vs,linesS,List.append_nil] at ht3
   simp (disch:=omega) only [go_sem,↓cB,dB,r0,r3,r4,rd,k3']
   exact fin ⟨f3,by rw [ht3]⟩
  | cons n1 k1 r1' =>
   simp only [Fo.len] at hi
   simp only [Fo.roots] at hr3
   obtain ⟨hg,hr4⟩:=drop_hd hr3
   obtain ⟨b',o',rfl,hb',hc⟩:=(hnx.fr f3) i _ hg
   simp only [Fo.vs,linesS,stepV] at ht3
   simp only [Fo.vs,linesS,stepV,List.length_append,List.length_cons,List.length_nil] at htl
   simp only [Fo.dep] at hd3
   simp only [Fo.bare,Bool.and_eq_true,decide_eq_true_eq] at hb3
   have nl3:=hs.grow f3
   have hp3:H.size≤H3.size:=f3.size
   obtain ⟨tb,to,cap',xw',cw',xn',cn',xk',ck',htv,ld',-,-,nx',hck'⟩:=node_at nl3 hl3.one hb3.1
   simp only [Value.slice.injEq,Option.some.injEq,Addr.mk.injEq,and_true,true_and] at htv
   obtain ⟨⟨rfl,rfl⟩,rfl⟩:=htv
   have hlt3:=hl3.lt
   simp (disch:=omega) only [go_sem,↓cB,dB,r0,r3,r4,rd,k3',hc,ld']
   refine call_to (ha3.1 hp3 nl3 nx' hl3.kids hck' (d:=0) (by omega) (by omega)) ?_
   intro v H4 hv
   refine Hush.out ?_
   obtain ⟨f4,rfl⟩:=hv
   refine ⟨?_⟩
   simp (disch:=omega) only [go_sem,↓cB,dB,r0,r3,r4,rd,List.length_append,List.length_cons,List.length_nil]
   exact fin ⟨r1'.len,by simp only [Fo.len]; omega,i + 1,r1',a' + 1 + k1.cnt,t ++ thN n1 k1.vs 0 ++ [10],rfl,by omega,hl3.rest,hr4,ha3.2,hb3.2.2,by omega,by rw [← ht3]; simp [inS],f3.trans f4,by simp (disch:=omega) only [go_sem,↓cB,dB,r0,r3,r4,rd,hxi]⟩
end
end Go.Proofs.YtcffdpmmadipeaaGreatDoor
namespace Go.Proofs.YtcffdpmmadipeaaGreatDoor
open Go.HL
set_option maxRecDepth 10000
section
variable {H:Heap} {S S':Nat→Prop} {v v':Value} {l l':List Nd} {n m:Nd} {k q:Fo}
theorem r10Expr_yes (h:NL H S v l) {i:Nat} (hl:Lies l i (.cons m q .nil)) (hok:okN m q.kinds=true) (hb:m.kids = []) (hqo:q.ok=true) (hqb:q.bare=true) (hc:q.cnt≤797) (h17:17≤m.kind) (h22:m.kind≤22) :
  CallF Tryz.prog 8 [v,iv ((i:Nat):Int)] H (fun r H'=>Fr [] H H'∧r=sv (exN m q.vs)) NoP :=
 rExpr_all l H.size v (q.cnt + 1) m q (by omega) (by omega) hok hb hqo hqb h17 h22 (Nat.le_refl _) (h.mono (fun b _ hb=>hb)) hl
set_option maxHeartbeats 2000000 in
theorem showTrees_spec (h:NL H S v l) (hz:Sz l) (gt:GT H):CallF Tryz.prog 3 [v] H (fun r H'=>r=.bool true∧Fr [] H H') NoP:=by
 have wake:∀ {H':Heap},Fr [] H H'→CallF Tryz.prog 5 [] H' (fun r H''=>r=.bool true∧Fr [] H' H'') NoP:=fun f=>w10awake_spec (gt.grow f)
 obtain ⟨av,cv,rfl⟩:=h.len
 have hzl:=hz.len
 refine callF_of Tryz.func3 rfl Tryz.ntmps3 Tryz.results3 (by decide) rfl ?_
 simp (disch:=omega) only [go_sem,↓cB,dB]
 refine call_to (w10awake_spec gt) ?_
 intro v H1 hv
 refine Hush.out ?_
 obtain ⟨rfl,f1⟩:=hv
 refine ⟨?_⟩
 simp (disch:=omega) only [go_sem,↓cB,dB]
 refine call_to (r9Small_spec (h.grow f1) hz) ?_
 intro v H2 hv
 refine Hush.out ?_
 obtain ⟨rfl,rfl⟩:=hv
 refine ⟨?_⟩
 cases hsm:smallM l with
 | false =>
  simp (disch:=omega) only [go_sem,↓cB,dB,hsm]
  refine call_to (wake f1) ?_
  intro v H3 hv
  refine Hush.out ?_
  obtain ⟨rfl,f3⟩:=hv
  refine ⟨?_⟩
  simp (disch:=omega) only [go_sem,↓cB,dB]
  exact fin ⟨rfl,f1.trans f3⟩
 | true =>
 have hl15:=small_len hsm
 simp (disch:=omega) only [go_sem,↓cB,dB,hsm]
 refine call_to (r9Right_spec (h.grow f1) hz) ?_
 intro v H3 hv
 refine Hush.out ?_
 obtain ⟨f3,rfl⟩:=hv
 refine ⟨?_⟩
 rw [← right_eq]
 have f03:=f1.trans f3
 simp (disch:=omega) only [go_sem,↓cB,dB]
 refine loop_by (fun kk ρ H4=>∃ i:Nat,kk=l.length + 2 - i∧i≤l.length + 2∧Fr [] H H4∧(ρ.get 0=.slice av l.length cv∧ρ.get 3=.bool (prRightM l)∧ρ.get 4=iv ((i:Int) - 1)∧ρ.ds = [])) (k:=l.length + 2) ?_ ?_
 ·exact ⟨0,rfl,by omega,f03,by simp (disch:=omega) only [go_sem,↓cB,dB]⟩
 ·rintro kk ρ H4 ⟨i,rfl,hi,f4,r0,r3,r4,rd⟩
  have hxi:(i:Int) - 1 + 1=((i + 1:Nat):Int) - 1:=by omega
  by_cases hin:l.length + 2≤i
  ·have hle:¬ ((i:Int) - 1≤(l.length:Int)):=by omega
   cases hr:prRightM l with
   | false =>
    rw [hr] at r3
    simp (disch:=omega) only [go_sem,↓cB,dB,r0,r3,r4,rd,hle,decide_false]
    refine call_to (wShow_spec (h.grow f4) hz (gt.grow f4)) ?_
    intro v H5 hv
    refine Hush.out ?_
    obtain ⟨f5,rfl⟩:=hv
    refine ⟨?_⟩
    rw [showM_no hr]
    simp (disch:=omega) only [go_sem,↓cB,dB,decide_true]
    exact fin ⟨rfl,f4.trans f5⟩
   | true =>
    rw [hr] at r3
    obtain ⟨n,k,hrt,rfl⟩:=right_rt hr
    simp (disch:=omega) only [go_sem,↓cB,dB,r0,r3,r4,rd,hle,decide_false]
    refine call_to (wShow_spec (h.grow f4) hz (gt.grow f4)) ?_
    intro v H5 hv
    refine Hush.out ?_
    obtain ⟨f5,rfl⟩:=hv
    refine ⟨?_⟩
    simp (disch:=omega) only [go_sem,↓cB,dB,r0,r3,r4,rd]
    refine call_to (r10Show_spec (n:=n) (k:=k) (h.grow (f4.trans f5)) hz hrt) ?_
    intro v H6 hv
    refine Hush.out ?_
    obtain ⟨f6,rfl⟩:=hv
    refine ⟨?_⟩
    rw [showM_lay hrt]
    simp (disch:=omega) only [go_sem,↓cB,dB,decide_true]
    exact fin ⟨rfl,(f4.trans f5).trans f6⟩
  have hle:(i:Int) - 1≤(l.length:Int):=by omega
  by_cases hyes:prRightM l=true∧1≤i∧i - 1 < l.length∧17≤(l.getD (i - 1) nd0').kind
  ·obtain ⟨hr,hi1,hil,h17⟩:=hyes
   obtain ⟨j,rfl⟩:∃ j,i=j + 1:=⟨i - 1,by omega⟩
   have ej:((j + 1:Nat):Int) - 1=(j:Int):=by omega
   simp only [Nat.add_sub_cancel] at hil h17
   rw [ej] at r4 hle hxi
   rw [hr] at r3
   obtain ⟨n,k,hrt,e⟩:=right_rt hr
   have hx:=ex_at (i:=j) hrt (e ▸ hil) (e ▸ h17)
   rw [← e] at hx
   obtain ⟨m,q,a1,a2,a3,a4,a5,a6,a7,a8,a9⟩:=hx
   obtain ⟨b,o,cap,e1,k0⟩:=nd_cell (h.grow f4) hil
   simp only [Value.slice.injEq,true_and] at e1
   obtain ⟨rfl,rfl⟩:=e1
   have hj0:(0:Int)≤(j:Int):=by omega
   have hjl:(j:Int) < (l.length:Int):=by omega
   have hx2:(j:Int) + 1=((j + 2:Nat):Int) - 1:=by omega
   simp (disch:=omega) only [go_sem,↓cB,dB,r0,r3,r4,rd,hle,hj0,hjl,k0,h17,decide_true,ge_iff_le]
   refine call_to (r10Expr_yes (h.grow f4) a1 a2 a3 a4 a5 a6 (by omega) a9) ?_
   intro v H5 hv
   refine Hush.out ?_
   obtain ⟨f5,rfl⟩:=hv
   refine ⟨?_⟩
   by_cases h60:(j:Int) < 60
   ·simp (disch:=omega) only [go_sem,↓cB,dB,r0,r3,r4,rd,h60,decide_true]
    refine call_to (wExprF_yes (h.grow (f4.trans f5)) hz (gt.grow (f4.trans f5)) hr a1 a2 a3 a4 a5 a6 (by omega) a9) ?_
    intro v H6 hv
    refine Hush.out ?_
    obtain ⟨f6,rfl⟩:=hv
    refine ⟨?_⟩
    simp (disch:=omega) only [go_sem,↓cB,dB,r0,r3,r4,rd,decide_false,not_true_eq_false]
    exact fin ⟨l.length + 2 - (j + 2),by omega,j + 2,rfl,by omega,(f4.trans f5).trans f6,by simp (disch:=omega) only [go_sem,↓cB,dB,r0,r3,r4,rd,hx2,hr]⟩
   ·simp (disch:=omega) only [go_sem,↓cB,dB,r0,r3,r4,rd,h60,decide_false]
    exact fin ⟨l.length + 2 - (j + 2),by omega,j + 2,rfl,by omega,f4.trans f5,by simp (disch:=omega) only [go_sem,↓cB,dB,r0,r3,r4,rd,hx2,hr]⟩
  ·have hno:((i:Int) - 1) < 0∨(l.length:Int)≤(i:Int) - 1∨prRightM l=false∨(l.getD ((i:Int) - 1).toNat nd0').kind < 17:=by
    cases hr:prRightM l with
    | false=>exact .inr (.inr (.inl rfl))
    | true =>
     by_cases g1:1≤i
     ·by_cases g2:i - 1 < l.length
      ·refine .inr (.inr (.inr ?_))
       have:((i:Int) - 1).toNat=i - 1:=by omega
       rw [this]
       have:¬ 17≤(l.getD (i - 1) nd0').kind:=fun x=>hyes ⟨hr,g1,g2,x⟩
       omega
      ·exact .inr (.inl (by omega))
     ·exact .inl (by omega)
   cases hr:prRightM l with
   | false =>
    rw [hr] at r3
    simp (disch:=omega) only [go_sem,↓cB,dB,r0,r3,r4,rd,hle,hr,decide_true,decide_false,ge_iff_le]
    by_cases h60:(i:Int) - 1 < 60
    ·try (simp (disch:=omega) only [go_sem,↓cB,dB,r0,r3,r4,rd,h60,decide_true])
     refine call_to (wExprF_no (h.grow f4) hz hno) ?_
     intro v H6 hv
     refine Hush.out ?_
     obtain ⟨f6,rfl⟩:=hv
     refine ⟨?_⟩
     simp (disch:=omega) only [go_sem,↓cB,dB,r0,r3,r4,rd,decide_false,not_true_eq_false]
     exact fin ⟨l.length + 2 - (i + 1),by omega,i + 1,rfl,by omega,f4.trans f6,by simp (disch:=omega) only [go_sem,↓cB,dB,r0,r3,r4,rd,hxi,hr]⟩
    ·try (simp (disch:=omega) only [go_sem,↓cB,dB,r0,r3,r4,rd,h60,decide_false])
     exact fin ⟨l.length + 2 - (i + 1),by omega,i + 1,rfl,by omega,f4,by simp (disch:=omega) only [go_sem,↓cB,dB,r0,r3,r4,rd,hxi,hr]⟩
   | true =>
    rw [hr] at r3
    by_cases g1:(0:Int)≤(i:Int) - 1
    ·by_cases g2:(i:Int) - 1 < (l.length:Int)
     ·obtain ⟨j,rfl⟩:∃ j,i=j + 1:=⟨i - 1,by omega⟩
      have ej:((j + 1:Nat):Int) - 1=(j:Int):=by omega
      rw [ej] at r4 hle hxi g1 g2 hno
      have g3:¬ 17≤(l.getD j nd0').kind:=fun x=>hyes ⟨hr,by omega,by omega,x⟩
      obtain ⟨b,o,cap,e1,k0⟩:=nd_cell (h.grow f4) (i:=j) (by omega)
      simp only [Value.slice.injEq,true_and] at e1
      obtain ⟨rfl,rfl⟩:=e1
      simp (disch:=omega) only [go_sem,↓cB,dB,r0,r3,r4,rd,hle,g1,g2,g3,k0,decide_true,decide_false,ge_iff_le]
      by_cases h60:(j:Int) < 60
      ·try (simp (disch:=omega) only [go_sem,↓cB,dB,r0,r3,r4,rd,h60,decide_true])
       refine call_to (wExprF_no (h.grow f4) hz hno) ?_
       intro v H6 hv
       refine Hush.out ?_
       obtain ⟨f6,rfl⟩:=hv
       refine ⟨?_⟩
       simp (disch:=omega) only [go_sem,↓cB,dB,r0,r3,r4,rd,decide_false,not_true_eq_false]
       exact fin ⟨l.length + 2 - (j + 1 + 1),by omega,j + 1 + 1,rfl,by omega,f4.trans f6,by simp (disch:=omega) only [go_sem,↓cB,dB,r0,r3,r4,rd,hxi,hr]⟩
      ·try (simp (disch:=omega) only [go_sem,↓cB,dB,r0,r3,r4,rd,h60,decide_false])
       exact fin ⟨l.length + 2 - (j + 1 + 1),by omega,j + 1 + 1,rfl,by omega,f4,by simp (disch:=omega) only [go_sem,↓cB,dB,r0,r3,r4,rd,hxi,hr]⟩
     ·
      simp (disch:=omega) only [go_sem,↓cB,dB,r0,r3,r4,rd,hle,g1,g2,decide_true,decide_false,ge_iff_le]
      by_cases h60:(i:Int) - 1 < 60
      ·try (simp (disch:=omega) only [go_sem,↓cB,dB,r0,r3,r4,rd,h60,decide_true])
       refine call_to (wExprF_no (h.grow f4) hz hno) ?_
       intro v H6 hv
       refine Hush.out ?_
       obtain ⟨f6,rfl⟩:=hv
       refine ⟨?_⟩
       simp (disch:=omega) only [go_sem,↓cB,dB,r0,r3,r4,rd,decide_false,not_true_eq_false]
       exact fin ⟨l.length + 2 - (i + 1),by omega,i + 1,rfl,by omega,f4.trans f6,by simp (disch:=omega) only [go_sem,↓cB,dB,r0,r3,r4,rd,hxi,hr]⟩
      ·try (simp (disch:=omega) only [go_sem,↓cB,dB,r0,r3,r4,rd,h60,decide_false])
       exact fin ⟨l.length + 2 - (i + 1),by omega,i + 1,rfl,by omega,f4,by simp (disch:=omega) only [go_sem,↓cB,dB,r0,r3,r4,rd,hxi,hr]⟩
    ·
     simp (disch:=omega) only [go_sem,↓cB,dB,r0,r3,r4,rd,hle,g1,decide_true,decide_false,ge_iff_le]
     by_cases h60:(i:Int) - 1 < 60
     ·try (simp (disch:=omega) only [go_sem,↓cB,dB,r0,r3,r4,rd,h60,decide_true])
      refine call_to (wExprF_no (h.grow f4) hz hno) ?_
      intro v H6 hv
      refine Hush.out ?_
      obtain ⟨f6,rfl⟩:=hv
      refine ⟨?_⟩
      simp (disch:=omega) only [go_sem,↓cB,dB,r0,r3,r4,rd,decide_false,not_true_eq_false]
      exact fin ⟨l.length + 2 - (i + 1),by omega,i + 1,rfl,by omega,f4.trans f6,by simp (disch:=omega) only [go_sem,↓cB,dB,r0,r3,r4,rd,hxi,hr]⟩
     ·exfalso; omega
set_option maxHeartbeats 2000000 in
theorem showExprs_spec (h:NL H S v l) (hz:Sz l) (gt:GT H) {z:Int}:CallF Tryz.prog 4 [v,iv z] H (fun r H'=>r=.bool true∧Fr [] H H') NoP:=by
 have wake:∀ {H':Heap},Fr [] H H'→CallF Tryz.prog 5 [] H' (fun r H''=>r=.bool true∧Fr [] H' H'') NoP:=fun f=>w10awake_spec (gt.grow f)
 obtain ⟨av,cv,rfl⟩:=h.len
 have hzl:=hz.len
 refine callF_of Tryz.func4 rfl Tryz.ntmps4 Tryz.results4 (by decide) rfl ?_
 simp (disch:=omega) only [go_sem,↓cB,dB]
 refine call_to (w10awake_spec gt) ?_
 intro v H1 hv
 refine Hush.out ?_
 obtain ⟨rfl,f1⟩:=hv
 refine ⟨?_⟩
 simp (disch:=omega) only [go_sem,↓cB,dB]
 refine call_to (r9Small_spec (h.grow f1) hz) ?_
 intro v H2 hv
 refine Hush.out ?_
 obtain ⟨rfl,rfl⟩:=hv
 refine ⟨?_⟩
 cases hsm:smallM l with
 | false =>
  simp (disch:=omega) only [go_sem,↓cB,dB,hsm]
  refine call_to (wake f1) ?_
  intro v H3 hv
  refine Hush.out ?_
  obtain ⟨rfl,f3⟩:=hv
  refine ⟨?_⟩
  simp (disch:=omega) only [go_sem,↓cB,dB]
  exact fin ⟨rfl,f1.trans f3⟩
 | true =>
 simp (disch:=omega) only [go_sem,↓cB,dB,hsm]
 refine call_to (r9Right_spec (h.grow f1) hz) ?_
 intro v H3 hv
 refine Hush.out ?_
 obtain ⟨f3,rfl⟩:=hv
 refine ⟨?_⟩
 rw [← right_eq]
 have f03:=f1.trans f3
 cases hr:prRightM l with
 | false =>
  simp (disch:=omega) only [go_sem,↓cB,dB,hr]
  refine call_to (wake f03) ?_
  intro v H4 hv
  refine Hush.out ?_
  obtain ⟨rfl,f4⟩:=hv
  refine ⟨?_⟩
  simp (disch:=omega) only [go_sem,↓cB,dB]
  exact fin ⟨rfl,f03.trans f4⟩
 | true =>
 by_cases h1:z < 0
 ·simp (disch:=omega) only [go_sem,↓cB,dB,hr,h1,decide_true]
  refine call_to (wake f03) ?_
  intro v H4 hv
  refine Hush.out ?_
  obtain ⟨rfl,f4⟩:=hv
  refine ⟨?_⟩
  simp (disch:=omega) only [go_sem,↓cB,dB]
  exact fin ⟨rfl,f03.trans f4⟩
 by_cases h2:(l.length:Int)≤z
 ·simp (disch:=omega) only [go_sem,↓cB,dB,hr,h1,h2,decide_true,decide_false,ge_iff_le]
  refine call_to (wake f03) ?_
  intro v H4 hv
  refine Hush.out ?_
  obtain ⟨rfl,f4⟩:=hv
  refine ⟨?_⟩
  simp (disch:=omega) only [go_sem,↓cB,dB]
  exact fin ⟨rfl,f03.trans f4⟩
 obtain ⟨i,rfl⟩:∃ i:Nat,z=i:=⟨z.toNat,by omega⟩
 have hi:i < l.length:=by omega
 obtain ⟨b,o,cap,e1,k0⟩:=nd_cell (h.grow f03) hi
 simp only [Value.slice.injEq,true_and] at e1
 obtain ⟨rfl,rfl⟩:=e1
 by_cases h17:(l.getD i nd0').kind < 17
 ·simp (disch:=omega) only [go_sem,↓cB,dB,hr,h1,h2,k0,h17,decide_true,decide_false,ge_iff_le]
  refine call_to (wake f03) ?_
  intro v H4 hv
  refine Hush.out ?_
  obtain ⟨rfl,f4⟩:=hv
  refine ⟨?_⟩
  simp (disch:=omega) only [go_sem,↓cB,dB]
  exact fin ⟨rfl,f03.trans f4⟩
 simp (disch:=omega) only [go_sem,↓cB,dB,hr,h1,h2,k0,h17,decide_true,decide_false,ge_iff_le]
 obtain ⟨n,k,hrt,e⟩:=right_rt hr
 have hx:=ex_at (i:=i) hrt (e ▸ hi) (by rw [← e]; omega)
 rw [← e] at hx
 obtain ⟨m,q,a1,a2,a3,a4,a5,a6,a7,a8,a9⟩:=hx
 refine call_to (wExprF_yes (h.grow f03) hz (gt.grow f03) hr a1 a2 a3 a4 a5 a6 (by omega) a9) ?_
 intro v H4 hv
 refine Hush.out ?_
 obtain ⟨f4,rfl⟩:=hv
 refine ⟨?_⟩
 have f04:=f03.trans f4
 have hlen:=ex_len (okN_words a2) (short_of q a4)
 simp (disch:=omega) only [go_sem,↓cB,dB,List.length_cons,List.length_nil,List.length_append]
 by_cases h4:([115,97,102,101,32] ++ exN m q.vs ++ [59]).length≤4000
 ·obtain ⟨j,n',k',p',q',e2,rt',ep⟩:=show_expr (n:=m) (k:=q) (by simp only [Fo.ok,Bool.and_true,Bool.and_eq_true]; exact ⟨a2,a4⟩) (by simp only [Fo.bare,Bool.and_true,Bool.and_eq_true,decide_eq_true_eq]; exact ⟨a3,a5⟩) (by omega) a9 a7 a6 h4
  simp only [List.cons_append,List.nil_append] at ep
  refine call_to (parse_spec ep) ?_
  intro v H5 hv
  refine Hush.out ?_
  obtain ⟨v1,rfl,f5,nl5⟩:=hv
  refine ⟨?_⟩
  have f05:=(f04.trans f5).trans (Fr.push (o:=.cells #[iv 0,iv 0] 33))
  have nl6:=nl5.grow (Fr.push (o:=.cells #[iv 0,iv 0] 33))
  have hl2:Lies (layT ⟨0,[],[],[],p'⟩ (.cons ⟨4,[],[],[],q'⟩ (.cons n' k' .nil) .nil)) 2 (.cons n' k' .nil):=layT_lies.kids.kids
  have hst:(Fo.cons n' k' .nil).st=(Fo.cons m q .nil).st:=by
   unfold stT at e2
   simp only [Prod.mk.injEq] at e2
   simp only [Fo.st,e2.1,e2.2]
  have ss:=st_same hst
  have hkd:n'.kind=m.kind:=by
   have:=ss.1
   simpa [Fo.kinds] using this
  have hvs:exN n' k'.vs=exN m q.vs:=by
   have:=ss.2.2.2.2.2
   simp only [Fo.vs,List.cons.injEq,and_true] at this
   exact congrArg KV.ex this
  have hct:k'.cnt=q.cnt:=by
   have:=ss.2.1
   simp only [Fo.cnt] at this
   omega
  have hlt2:=hl2.lt
  obtain ⟨b2,o2,cap2,e3,k2⟩:=nd_cell nl6 hlt2
  have hbn:n'.kids = []:=by
   have:=rt'.bare
   simp [Fo.bare] at this
   exact this.1
  have ek2:=congrArg Nd.kind (hl2.node hbn)
  simp only at ek2
  rw [ek2,hkd,a8] at k2
  have hok':okN n' k'.kinds=true∧k'.ok=true:=by
   have:=rt'.ok
   simp only [Fo.ok,Bool.and_true,Bool.and_eq_true] at this
   exact this.2.2
  have hbk:k'.bare=true:=by
   have:=rt'.bare
   simp [Fo.bare] at this
   exact this.2
  simp (disch:=omega) only [go_sem,↓cB,dB,fltV]
  refine draw0 (lk [(0,true),(1,true),(2,true),(3,true),(4,true),(6,false)] (.act 5 (lk [(7,true),(8,true),(9,true),(10,true),(11,true),(12,true),(13,true),(14,true),(15,true),(16,true),(17,true),(18,true),(19,true),(20,true),(21,true)] .fin) .non)) T.mixed ?_
  simp (disch:=omega) only [go_sem,↓cB,dB,id_eq]
  refine call_to (r10Expr_yes nl6 hl2 hok'.1 hbn hok'.2 hbk (by omega) (by omega) (by omega)) ?_
  intro v H6 hv
  refine Hush.out ?_
  obtain ⟨f6,rfl⟩:=hv
  refine ⟨?_⟩
  have k2':=f6.cell' k2 (by simp)
  have k0':=(((f4.trans f5).trans (Fr.push (o:=.cells #[iv 0,iv 0] 33))).trans f6).cell' k0 (by simp)
  subst e3
  rw [hvs]
  refine held_by heldOK_nil ?_
  simp (disch:=omega) only [go_sem,↓cB,dB,k2',k0',decide_true,id_eq]
  exact fin ⟨rfl,f05.trans f6⟩
 ·refine call_to (parse_spec (parse_long (by simp only [List.length_append,List.length_cons,List.length_nil] at h4 ⊢; omega))) ?_
  intro v H5 hv
  refine Hush.out ?_
  obtain ⟨v1,rfl,f5,nl5⟩:=hv
  refine ⟨?_⟩
  simp (disch:=omega) only [go_sem,↓cB,dB,fltV]
  exact fin ⟨rfl,(f04.trans f5).trans Fr.push⟩
end
end Go.Proofs.YtcffdpmmadipeaaGreatDoor
