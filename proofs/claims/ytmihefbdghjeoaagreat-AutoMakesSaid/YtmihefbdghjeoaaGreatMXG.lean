/- Texts of this proof, put together: TypE, TypF. The conditions of each theorem stand in it. -/
import Derived.Test.YtmihefbdghjeoaaGreatMXA
set_option linter.unusedSimpArgs false
set_option linter.unusedVariables false
namespace Go.Proofs.YtmihefbdghjeoaaGreat
open Go.HL
set_option maxRecDepth 10000
section
variable {H:Heap} {S:Nat→Prop} {v:Value} {l:List Nd}
theorem r12copies_spec (h:NL H S v l) (hz:Sz l) (hr:prRightM l=true) {i:Nat} (hi:i < l.length):CallF Tryz.prog 94 [v,iv i] H (fun r H'=>Fr [] H H'∧r=iv (cpR l i)) NoP:=by
 have it:=itm (tre_of hr) i
 obtain ⟨m,hm⟩:∃ m:Nat,itemM' l i=m:=⟨(itemM' l i).toNat,by have:=it.nn; omega⟩
 have ile:=it.le
 have hml:m < l.length:=by omega
 have hgm:=getD_some (d:=nd0') hml
 obtain ⟨b,o,cap,a,q1,q2,ar,ld,-⟩:=h.row hgm
 subst q1
 have hnd:l.getD m nd0'=nodeAt l m:=rfl
 rw [hnd] at ld q2
 obtain ⟨nn,x1,c1,x2,c2,x3,c3,rfl⟩:=ar.open
 simp only at q2 ld
 subst q2
 have hcp:cpR l i=if (nodeAt l m).kind=3 then n0 (nodeAt l m) else 1:=by unfold cpR; rw [hm]; simp
 obtain ⟨A,hA⟩:∃ A,A=H.push (.cells #[iv (nodeAt l m).kind,.slice x1 (nodeAt l m).words.length c1,.slice x2 (nodeAt l m).nums.length c2,.slice x3 (nodeAt l m).kids.length c3,iv (nodeAt l m).pos] 47):=⟨_,rfl⟩
 have f0:Fr [] H A:=by rw [hA]; exact Fr.push
 have bn:Blk A H.size 47 [iv (nodeAt l m).kind,.slice x1 (nodeAt l m).words.length c1,.slice x2 (nodeAt l m).nums.length c2,.slice x3 (nodeAt l m).kids.length c3,iv (nodeAt l m).pos]:=by rw [hA]; exact Blk.new rfl
 have c0:=bn.cell 0
 have c2':=bn.cell 2
 simp only [gS,gZ] at c0 c2'
 have hu:=ar.u.frame (Keeps.of_fr f0 (by simp))
 simp only at hu
 have hitem:=r11Item_spec (i:=(i:Int)) h hz (by omega)
 rw [hm] at hitem
 rw [hcp]
 refine callF_of Tryz.func94 rfl Tryz.ntmps94 Tryz.results94 (by decide) rfl ?_
 simp (disch:=omega) only [go_sem,↓cB,dB]
 refine call_to hitem ?_
 rintro _ _ ⟨rfl,rfl⟩
 by_cases k3:(nodeAt l m).kind=3
 ·have hnl:(nodeAt l m).nums.length=1:=by rw [(numsOk_of hr hml).1,k3]; rfl
  have g0:=getD_some (l:=(nodeAt l m).nums) (d:=(0:Int)) (i:=0) (by omega)
  obtain ⟨ub,uo,uc,ue,-,uq⟩:=hu.at1 g0
  simp only [Value.slice.injEq,true_and] at ue
  obtain ⟨rfl,rfl⟩:=ue
  rw [Nat.add_zero] at uq
  rw [if_pos k3]
  simp (disch:=omega) only [go_sem,↓cB,dB,ld]
  rw [← hA]
  try (simp (disch:=omega) only [go_sem,↓cB,dB,c0,c2',uq,k3])
  exact fin ⟨f0,rfl⟩
 ·rw [if_neg k3]
  simp (disch:=omega) only [go_sem,↓cB,dB,ld]
  rw [← hA]
  try (simp (disch:=omega) only [go_sem,↓cB,dB,c0])
  exact fin ⟨f0,rfl⟩
set_option maxHeartbeats 1000000 in
theorem r12sum_spec (h:NL H S v l) (hz:Sz l) (hr:prRightM l=true) {i:Nat} (hi:i < l.length) {kind:Int} (hk:kind=1∨kind=2∨kind=3):CallF Tryz.prog 60 [v,iv i,iv kind] H (fun r H'=>Fr [] H H'∧r=iv (sumR l i kind)) NoP:=by
 have hl8:=(right_facts hr).2.1
 obtain ⟨av,cv,rfl⟩:=h.len
 unfold sumR
 obtain ⟨R,hR⟩:∃ R,R=sumL l kind (i + 1) 0 0:=⟨_,rfl⟩
 rw [← hR]
 refine callF_of Tryz.func60 rfl Tryz.ntmps60 Tryz.results60 (by decide) rfl ?_
 simp (disch:=omega) only [go_sem,↓cB,dB]
 refine loop_by (fun k ρ H2=>∃ (j:Nat) (n:Int),k=i + 1 - j∧j≤i + 1∧0≤n∧n≤1000 + j∧R=sumL l kind (i + 1 - j) j n∧Fr [] H H2∧(ρ.get 0=.slice av l.length cv∧ρ.get 1=iv i∧ρ.get 2=iv kind∧ρ.get 7=iv n∧ρ.get 8=iv j∧ρ.ds = [])) (k:=i + 1) ?_ ?_
 ·exact ⟨0,0,rfl,by omega,by omega,by omega,hR,Fr.refl _ _,by simp (disch:=omega) only [go_sem,↓cB,dB]⟩
 ·rintro k ρ H2 ⟨j,n,rfl,hj,hn0,hn1,hs,f2,r0,r1,r2,r7,r8,rd⟩
  have hxj:(j:Int) + 1=((j + 1:Nat):Int):=by omega
  by_cases hji:j < i + 1
  rotate_left
  ·obtain rfl:j=i + 1:=by omega
   rw [Nat.sub_self] at hs
   simp only [sumL] at hs
   simp (disch:=omega) only [go_sem,↓cB,dB,r0,r1,r2,r7,r8,rd]
   exact fin ⟨f2,by rw [hs]⟩
  have e1:i + 1 - j=(i + 1 - (j + 1)) + 1:=by omega
  rw [e1] at hs
  unfold sumL at hs
  by_cases hn:n < 100
  rotate_left
  ·rw [if_neg hn] at hs
   simp (disch:=omega) only [go_sem,↓cB,dB,r0,r1,r2,r7,r8,rd]
   exact fin ⟨f2,by rw [hs]⟩
  rw [if_pos hn] at hs
  have hgj:=getD_some (l:=l) (d:=nd0') (i:=j) (by omega)
  have nl2:=h.grow f2
  obtain ⟨b,o,cap,a,q1,q2,ar,-,k0,-⟩:=nl2.row hgj
  simp only [Value.slice.injEq,true_and] at q1
  obtain ⟨rfl,rfl⟩:=q1
  have hnd:l.getD j nd0'=nodeAt l j:=rfl
  rw [hnd] at k0
  by_cases hkind:(nodeAt l j).kind=kind
  rotate_left
  ·rw [if_neg hkind] at hs
   simp (disch:=omega) only [go_sem,↓cB,dB,r0,r1,r2,r7,r8,rd,k0]
   exact fin ⟨i + 1 - (j + 1),by omega,j + 1,n,rfl,by omega,hn0,by push_cast; omega,hs,f2,by simp (disch:=omega) only [go_sem,↓cB,dB,r0,r1,r2,r7,r8,rd,hxj]⟩
  rw [if_pos hkind] at hs
  by_cases h1:kind=1
  ·rw [if_pos h1] at hs
   simp (disch:=omega) only [go_sem,↓cB,dB,r0,r1,r2,r7,r8,rd,k0,hkind]
   exact fin ⟨i + 1 - (j + 1),by omega,j + 1,n + 1,rfl,by omega,by omega,by push_cast; omega,hs,f2,by simp (disch:=omega) only [go_sem,↓cB,dB,r0,r1,r2,r7,r8,rd,hxj]⟩
  ·rw [if_neg h1] at hs
   have hc:=cp_nn hr (show j < l.length by omega)
   simp (disch:=omega) only [go_sem,↓cB,dB,r0,r1,r2,r7,r8,rd,k0,hkind]
   refine call_to (r12copies_spec nl2 hz hr (by omega)) ?_
   intro r3 H3 hv
   refine Hush.out ?_
   obtain ⟨f3,rfl⟩:=hv
   refine ⟨?_⟩
   simp (disch:=omega) only [go_sem,↓cB,dB,r0,r1,r2,r7,r8,rd]
   exact fin ⟨i + 1 - (j + 1),by omega,j + 1,n + min (cpR l j) 100,rfl,by omega,by omega,by push_cast; omega,hs,f2.trans f3,by simp (disch:=omega) only [go_sem,↓cB,dB,r0,r1,r2,r7,r8,rd,hxj]⟩
theorem r12inside_spec (hz:Sz l) (hr:prRightM l=true) {k:Nat}:∀ (f:Nat) {H:Heap} {p:Nat},NL H S v l→p < l.length→l.length - p≤f→CallF Tryz.prog 62 [v,iv k,iv p] H (fun r H'=>H=H'∧∃ b,r=.bool b∧(b=true↔Bel l p k)) NoP:=by
 intro f
 have hl8:=(right_facts hr).2.1
 induction f with
 | zero=>intro H p h hp hf; omega
 | succ f IH =>
  intro H p h hp hf
  have hgp:=getD_some (d:=nd0') hp
  obtain ⟨b,o,cap,a,q1,q2,ar,-,-,-,-,k3,-⟩:=h.row hgp
  subst q1
  have hnd:l.getD p nd0'=nodeAt l p:=rfl
  rw [hnd] at q2
  obtain ⟨nn,x1,c1,x2,c2,x3,c3,rfl⟩:=ar.open
  simp only at q2 k3
  subst q2
  have hkk:=ar.k
  simp only at hkk
  have hkl:=hz.k p _ hgp
  rw [hnd] at hkl
  have hbel:∀ c:Int,c ∈ (nodeAt l p).kids→(p:Int) < c∧c < l.length:=fun c hc=>kid_rng hr hp hc
  have hdec:Bel l p k↔∃ c ∈ (nodeAt l p).kids,c=(k:Int)∨Bel l c.toNat k:=by
   constructor
   ·intro hb
    cases hb with
    | kid hm=>exact ⟨_,hm,.inl rfl⟩
    | @step _ c _ hm hb=>exact ⟨_,hm,.inr (by simpa using hb)⟩
   ·rintro ⟨c,hm,e | hb⟩
    ·subst e; exact .kid hm
    ·obtain ⟨n,rfl⟩:∃ n:Nat,c=n:=⟨c.toNat,by have:=hbel c hm; omega⟩
     exact .step hm (by simpa using hb)
  generalize hks:(nodeAt l p).kids=ks at *
  refine callF_of Tryz.func62 rfl Tryz.ntmps62 Tryz.results62 (by decide) rfl ?_
  simp (disch:=omega) only [go_sem,↓cB,dB]
  refine loop_by (fun q ρ H2=>∃ j:Nat,q=ks.length - j∧j≤ks.length∧H=H2∧(∀ i,i < j→ks.getD i 0 ≠ (k:Int)∧¬ Bel l (ks.getD i 0).toNat k)∧(ρ.get 0=.slice (some ⟨b,o,none⟩) l.length cap∧ρ.get 1=iv k∧ρ.get 2=iv p∧ρ.get 7=iv j∧ρ.ds = [])) (k:=ks.length) ?_ ?_
  ·exact ⟨0,rfl,by omega,rfl,by simp,by simp (disch:=omega) only [go_sem,↓cB,dB]⟩
  ·rintro q ρ _ ⟨j,rfl,hj,rfl,hall,r0,r1,r2,r7,rd⟩
   have hxj:(j:Int) + 1=((j + 1:Nat):Int):=by omega
   by_cases hjn:j < ks.length
   rotate_left
   ·obtain rfl:j=ks.length:=by omega
    simp (disch:=omega) only [go_sem,↓cB,dB,r0,r1,r2,r7,rd,k3]
    refine fin ⟨rfl,false,rfl,?_⟩
    rw [hdec]
    constructor
    ·intro e; cases e
    ·rintro ⟨c,hm,hc⟩
     obtain ⟨i,hi⟩:=List.getElem?_of_mem hm
     have hil:=(List.getElem?_eq_some_iff.1 hi).1
     have e:ks.getD i 0=c:=by rw [List.getD_eq_getElem?_getD,hi]; rfl
     have:=hall i hil
     rw [e] at this
     rcases hc with hc | hc
     ·exact absurd hc this.1
     ·exact absurd hc this.2
   have hgj:=getD_some (d:=(0:Int)) hjn
   obtain ⟨kb,ko,kc,p1,-,p2⟩:=hkk.at1 hgj
   simp only [Value.slice.injEq,true_and] at p1
   obtain ⟨rfl,rfl⟩:=p1
   have hm:=List.mem_of_getElem? hgj
   have hr1:=hbel _ hm
   have hall1:=hall
   generalize hy:ks.getD j 0=y at *
   obtain ⟨n,rfl⟩:∃ n:Nat,y=n:=⟨y.toNat,by omega⟩
   have a0:p < n:=by have:=hr1.1; clear hall hall1 hf; omega
   have a1:n < l.length:=by have:=hr1.2; clear hall hall1 hf; omega
   have a2:l.length - n≤f:=by clear hall hall1 hr1; omega
   by_cases hnk:n=k
   ·subst hnk
    simp (disch:=omega) only [go_sem,↓cB,dB,r0,r1,r2,r7,rd,k3,p2]
    exact fin ⟨rfl,true,rfl,by rw [hdec]; exact ⟨fun _=>⟨_,hm,.inl rfl⟩,fun _=>rfl⟩⟩
   have hnk':¬ ((n:Int)=(k:Int)):=by omega
   simp (disch:=omega) only [go_sem,↓cB,dB,r0,r1,r2,r7,rd,k3,p2]
   refine call_to (IH h a1 a2) ?_
   rintro _ _ ⟨rfl,bb,rfl,hb⟩
   cases bb
   ·simp (disch:=omega) only [go_sem,↓cB,dB,r0,r1,r2,r7,rd]
    refine fin ⟨ks.length - (j + 1),by omega,j + 1,rfl,by omega,rfl,?_,by simp (disch:=omega) only [go_sem,↓cB,dB,r0,r1,r2,r7,rd,hxj]⟩
    intro i hi
    by_cases e:i=j
    ·subst e
     rw [hy]
     exact ⟨hnk',fun hq=>by have:=hb.2 (by simpa using hq); cases this⟩
    ·exact hall1 i (by omega)
   ·simp (disch:=omega) only [go_sem,↓cB,dB,r0,r1,r2,r7,rd]
    exact fin ⟨rfl,true,rfl,by rw [hdec]; exact ⟨fun _=>⟨_,hm,.inr (by simpa using hb.1 rfl)⟩,fun _=>rfl⟩⟩
end
end Go.Proofs.YtmihefbdghjeoaaGreat
namespace Go.Proofs.YtmihefbdghjeoaaGreat
open Go.HL
set_option maxRecDepth 10000
section
variable {H:Heap} {S:Nat→Prop} {v:Value} {l:List Nd}
set_option maxHeartbeats 4000000 in
open Classical in
theorem r12wrong_spec (h:NL H S v l) (hz:Sz l) (hr:prRightM l=true) {i:Nat} (hi:i < l.length):CallF Tryz.prog 38 [v,iv i] H (fun r H'=>Fr [] H H'∧r=iv (wrongR l i)) NoP:=by
 have hl8:=(right_facts hr).2.1
 have hgm:=getD_some (d:=nd0') hi
 obtain ⟨tb,to,tc,a,q1,q2,ar,ld,-⟩:=h.row hgm
 subst q1
 have hnd:l.getD i nd0'=nodeAt l i:=rfl
 rw [hnd] at ld q2
 obtain ⟨nn,x1,c1,x2,c2,x3,c3,rfl⟩:=ar.open
 simp only at q2 ld
 subst q2
 obtain ⟨A,hA⟩:∃ A,A=H.push (.cells #[iv (nodeAt l i).kind,.slice x1 (nodeAt l i).words.length c1,.slice x2 (nodeAt l i).nums.length c2,.slice x3 (nodeAt l i).kids.length c3,iv (nodeAt l i).pos] 47):=⟨_,rfl⟩
 have f0:Fr [] H A:=by rw [hA]; exact Fr.push
 have bn:Blk A H.size 47 [iv (nodeAt l i).kind,.slice x1 (nodeAt l i).words.length c1,.slice x2 (nodeAt l i).nums.length c2,.slice x3 (nodeAt l i).kids.length c3,iv (nodeAt l i).pos]:=by rw [hA]; exact Blk.new rfl
 have c0:=bn.cell 0
 have c2':=bn.cell 2
 simp only [gS,gZ] at c0 c2'
 have hu:=ar.u.frame (Keeps.of_fr f0 (by simp))
 simp only at hu
 have hA2:=h.grow f0
 have hnl:=(numsOk_of hr hi).1
 unfold wrongR
 simp only
 refine callF_of Tryz.func38 rfl Tryz.ntmps38 Tryz.results38 (by decide) rfl ?_
 simp (disch:=omega) only [go_sem,↓cB,dB,ld]
 rw [← hA]
 generalize hn:nodeAt l i=n at *
 by_cases k1:n.kind=1
 ·rw [if_pos k1]
  have hl4:n.nums.length=4:=by rw [hnl,k1]; rfl
  have g0:=getD_some (l:=n.nums) (d:=(0:Int)) (i:=0) (by omega)
  have g1:=getD_some (l:=n.nums) (d:=(0:Int)) (i:=1) (by omega)
  obtain ⟨b,o,cc,q1,-,q2⟩:=hu.at1 g0
  simp only [Value.slice.injEq,true_and] at q1
  obtain ⟨rfl,rfl⟩:=q1
  obtain ⟨b',o',cc',p1,-,p2⟩:=hu.at1 g1
  simp only [Value.slice.injEq,Option.some.injEq,Addr.mk.injEq,and_true,true_and] at p1
  obtain ⟨⟨rfl,rfl⟩,rfl⟩:=p1
  rw [Nat.add_zero] at q2
  have e0:n.nums.getD 0 0=n0 n:=rfl
  have e1:n.nums.getD 1 0=n1 n:=rfl
  rw [e0] at q2
  rw [e1] at p2
  generalize n0 n=u0 at *
  generalize n1 n=u1 at *
  by_cases d1:u0 < 1
  ·rw [if_pos (.inl d1)]
   simp (disch:=omega) only [go_sem,↓cB,dB,c0,c2',q2,p2,k1]
   exact fin ⟨f0,rfl⟩
  by_cases d2:u0 > 3
  ·rw [if_pos (.inr (.inl d2))]
   simp (disch:=omega) only [go_sem,↓cB,dB,c0,c2',q2,p2,k1]
   exact fin ⟨f0,rfl⟩
  by_cases d3:u1 < 1
  ·rw [if_pos (.inr (.inr (.inl d3)))]
   simp (disch:=omega) only [go_sem,↓cB,dB,c0,c2',q2,p2,k1]
   exact fin ⟨f0,rfl⟩
  by_cases d4:u1 > 8
  ·rw [if_pos (.inr (.inr (.inr (.inl d4))))]
   simp (disch:=omega) only [go_sem,↓cB,dB,c0,c2',q2,p2,k1]
   exact fin ⟨f0,rfl⟩
  simp (disch:=omega) only [go_sem,↓cB,dB,c0,c2',q2,p2,k1]
  refine call_to (r12sum_spec hA2 hz hr hi (.inl rfl)) ?_
  intro r2 H2 hv
  refine Hush.out ?_
  obtain ⟨f2,rfl⟩:=hv
  by_cases d5:sumR l i 1 > 3
  ·rw [if_pos (.inr (.inr (.inr (.inr d5))))]
   refine ⟨?_⟩
   simp (disch:=omega) only [go_sem,↓cB,dB]
   exact fin ⟨f0.trans f2,rfl⟩
  ·rw [if_neg (by omega)]
   refine ⟨?_⟩
   simp (disch:=omega) only [go_sem,↓cB,dB]
   exact fin ⟨f0.trans f2,rfl⟩
 rw [if_neg k1]
 by_cases k2:n.kind=2
 ·rw [if_pos k2]
  have hl2:n.nums.length=2:=by rw [hnl,k2]; rfl
  have g0:=getD_some (l:=n.nums) (d:=(0:Int)) (i:=0) (by omega)
  have g1:=getD_some (l:=n.nums) (d:=(0:Int)) (i:=1) (by omega)
  obtain ⟨b,o,cc,q1,-,q2⟩:=hu.at1 g0
  simp only [Value.slice.injEq,true_and] at q1
  obtain ⟨rfl,rfl⟩:=q1
  obtain ⟨b',o',cc',p1,-,p2⟩:=hu.at1 g1
  simp only [Value.slice.injEq,Option.some.injEq,Addr.mk.injEq,and_true,true_and] at p1
  obtain ⟨⟨rfl,rfl⟩,rfl⟩:=p1
  rw [Nat.add_zero] at q2
  have e0:n.nums.getD 0 0=n0 n:=rfl
  have e1:n.nums.getD 1 0=n1 n:=rfl
  rw [e0] at q2
  rw [e1] at p2
  generalize n0 n=u0 at *
  generalize n1 n=u1 at *
  obtain ⟨hl',hhl⟩:∃ hl',hl'=hldL A [⟨H.size,2,none⟩,⟨b,o,none⟩,⟨b,o + 1,none⟩]:=⟨_,rfl⟩
  have hok:heldOK hl' A:=by rw [hhl]; exact hld_ok
  have l2:lookA hl' ⟨H.size,2,none⟩=some (.slice (some ⟨b,o,none⟩) n.nums.length c2):=by rw [hhl]; exact hld_at c2' (by simp)
  have l0:lookA hl' ⟨b,o,none⟩=some (iv u0):=by rw [hhl]; exact hld_at q2 (by simp)
  have l1:lookA hl' ⟨b,o + 1,none⟩=some (iv u1):=by rw [hhl]; exact hld_at p2 (by simp)
  have lb:∀ a v,lookA hl' a=some v→a.block ∉ ([]:List Nat):=by simp
  simp (disch:=omega) only [go_sem,↓cB,dB,c0,k2]
  refine draw1 (lk [(0,true),(1,true),(2,true),(3,true),(4,true),(5,true),(6,true),(7,true),(8,true),(9,true),(10,true),(11,true),(12,true),(13,true),(14,true),(15,true),(16,true),(17,true),(18,true),(19,true),(20,true),(22,false),(23,false),(24,false),(25,false)] (.act 21 (lk [(26,true),(27,true),(28,true),(29,true),(30,true)] (.actd 31 (lk [(32,true),(33,true),(34,true)] .fin))) .non)) T.mixed hl' hok ?_
  by_cases d1:u0 < 1
  ·rw [if_pos (.inl d1)]
   try (simp (disch:=omega) only [go_sem,↓cB,dB,c0,c2',q2,p2,k2,l2,l0,l1])
   try refine held_by hok ?_
   try (simp (disch:=omega) only [go_sem,↓cB,dB,c0,c2',q2,p2,k2,l2,l0,l1])
   try refine held_by hok ?_
   try (simp (disch:=omega) only [go_sem,↓cB,dB,c0,c2',q2,p2,k2,l2,l0,l1])
   exact fin ⟨f0,rfl⟩
  by_cases d2:u0 > 8
  ·rw [if_pos (.inr (.inl d2))]
   try (simp (disch:=omega) only [go_sem,↓cB,dB,c0,c2',q2,p2,k2,l2,l0,l1])
   try refine held_by hok ?_
   try (simp (disch:=omega) only [go_sem,↓cB,dB,c0,c2',q2,p2,k2,l2,l0,l1])
   try refine held_by hok ?_
   try (simp (disch:=omega) only [go_sem,↓cB,dB,c0,c2',q2,p2,k2,l2,l0,l1])
   exact fin ⟨f0,rfl⟩
  try (simp (disch:=omega) only [go_sem,↓cB,dB,c0,c2',q2,p2,k2,l2,l0,l1])
  try refine held_by hok ?_
  try (simp (disch:=omega) only [go_sem,↓cB,dB,c0,c2',q2,p2,k2,l2,l0,l1])
  refine call_to (r6Trim_spec (by omega) (by omega)) ?_
  rintro _ _ ⟨rfl,rfl⟩
  by_cases d3:trimI u1 u0=u1
  rotate_left
  ·rw [if_pos (.inr (.inr (.inl d3)))]
   have d3':decide (trimI u1 u0=u1)=false:=decide_eq_false d3
   have d3'':decide (¬ trimI u1 u0=u1)=true:=decide_eq_true d3
   try refine held_by hok ?_
   try (simp (disch:=omega) only [go_sem,↓cB,dB,c0,c2',q2,p2,k2,l2,l0,l1,d3',d3''])
   try refine held_by hok ?_
   try (simp (disch:=omega) only [go_sem,↓cB,dB,c0,c2',q2,p2,k2,l2,l0,l1,d3',d3''])
   exact fin ⟨f0,rfl⟩
  have d3':decide (trimI u1 u0=u1)=true:=decide_eq_true d3
  have d3'':decide (¬ trimI u1 u0=u1)=false:=decide_eq_false (fun e=>e d3)
  try refine held_by hok ?_
  try (simp (disch:=omega) only [go_sem,↓cB,dB,c0,c2',q2,p2,k2,l2,l0,l1,d3',d3''])
  try refine held_by hok ?_
  try (simp (disch:=omega) only [go_sem,↓cB,dB,c0,c2',q2,p2,k2,l2,l0,l1,d3',d3''])
  refine call_to (r12sum_spec hA2 hz hr hi (.inr (.inl rfl))) ?_
  intro r2 H2 hv
  refine Hush.out ?_
  obtain ⟨f2,rfl⟩:=hv
  have hok2:=hld_fr hok f2 lb
  by_cases d5:sumR l i 2 > 8
  ·rw [if_pos (.inr (.inr (.inr d5)))]
   refine ⟨?_⟩
   try refine held_by hok2 ?_
   simp (disch:=omega) only [go_sem,↓cB,dB,l2,l0,l1]
   exact fin ⟨f0.trans f2,rfl⟩
  ·rw [if_neg (by rintro (e | e | e | e) <;> first | omega | exact e d3)]
   refine ⟨?_⟩
   try refine held_by hok2 ?_
   simp (disch:=omega) only [go_sem,↓cB,dB,l2,l0,l1]
   exact fin ⟨f0.trans f2,rfl⟩
 rw [if_neg k2]
 by_cases k3:n.kind=3
 ·rw [if_pos k3]
  have hl1:n.nums.length=1:=by rw [hnl,k3]; rfl
  have g0:=getD_some (l:=n.nums) (d:=(0:Int)) (i:=0) (by omega)
  obtain ⟨b,o,cc,q1,-,q2⟩:=hu.at1 g0
  simp only [Value.slice.injEq,true_and] at q1
  obtain ⟨rfl,rfl⟩:=q1
  rw [Nat.add_zero] at q2
  have e0:n.nums.getD 0 0=n0 n:=rfl
  rw [e0] at q2
  generalize n0 n=u0 at *
  by_cases d1:u0 < 1
  ·rw [if_pos (.inl d1)]
   simp (disch:=omega) only [go_sem,↓cB,dB,c0,c2',q2,k3]
   exact fin ⟨f0,rfl⟩
  simp (disch:=omega) only [go_sem,↓cB,dB,c0,c2',q2,k3]
  refine call_to (r12sum_spec hA2 hz hr hi (.inr (.inr rfl))) ?_
  intro r2 H2 hv
  refine Hush.out ?_
  obtain ⟨f2,rfl⟩:=hv
  by_cases d5:sumR l i 3 > 4
  ·rw [if_pos (.inr d5)]
   refine ⟨?_⟩
   simp (disch:=omega) only [go_sem,↓cB,dB]
   exact fin ⟨f0.trans f2,rfl⟩
  ·rw [if_neg (by omega)]
   refine ⟨?_⟩
   simp (disch:=omega) only [go_sem,↓cB,dB]
   exact fin ⟨f0.trans f2,rfl⟩
 rw [if_neg k3]
 by_cases k13:n.kind=13
 ·rw [if_pos k13]
  simp (disch:=omega) only [go_sem,↓cB,dB,c0,k13]
  refine loop_by (fun q ρ H2=>∃ j:Nat,q=i - j∧j≤i∧A=H2∧(∀ p,p < j→¬ ((nodeAt l p).kind=13∧Bel l p i))∧(ρ.get 0=.slice (some ⟨tb,to,none⟩) l.length tc∧ρ.get 1=iv i∧ρ.get 6=.bool false∧ρ.get 7=iv j∧ρ.ds = [])) (k:=i) ?_ ?_
  ·exact ⟨0,rfl,by omega,rfl,by simp,by simp (disch:=omega) only [go_sem,↓cB,dB]⟩
  ·rintro q ρ _ ⟨j,rfl,hj,rfl,hall,r0,r1,r6,r7,rd⟩
   have hxj:(j:Int) + 1=((j + 1:Nat):Int):=by omega
   by_cases hji:j < i
   rotate_left
   ·obtain rfl:j=i:=by omega
    rw [if_neg (fun ⟨a,h1,h2,h3⟩=>hall a h1 ⟨h2,h3⟩)]
    simp (disch:=omega) only [go_sem,↓cB,dB,r0,r1,r6,r7,rd]
    exact fin ⟨f0,rfl⟩
   have hgj:=getD_some (l:=l) (d:=nd0') (i:=j) (by omega)
   obtain ⟨b,o,cap,a,q1,q2,arj,-,kj,-⟩:=hA2.row hgj
   simp only [Value.slice.injEq,Option.some.injEq,Addr.mk.injEq,and_true,true_and] at q1
   obtain ⟨⟨rfl,rfl⟩,rfl⟩:=q1
   have hndj:l.getD j nd0'=nodeAt l j:=rfl
   rw [hndj] at kj
   by_cases kk:(nodeAt l j).kind=13
   rotate_left
   ·simp (disch:=omega) only [go_sem,↓cB,dB,r0,r1,r6,r7,rd,kj]
    refine fin ⟨i - (j + 1),by omega,j + 1,rfl,by omega,rfl,?_,by simp (disch:=omega) only [go_sem,↓cB,dB,r0,r1,r6,r7,rd,hxj]⟩
    intro p hp
    by_cases e:p=j
    ·subst e; exact fun x=>kk x.1
    ·exact hall p (by omega)
   simp (disch:=omega) only [go_sem,↓cB,dB,r0,r1,r6,r7,rd,kj,kk]
   refine call_to (r12inside_spec hz hr (l.length - j) hA2 (by omega) (by omega)) ?_
   rintro _ _ ⟨rfl,bb,rfl,hb⟩
   cases bb
   ·simp (disch:=omega) only [go_sem,↓cB,dB,r0,r1,r6,r7,rd]
    refine fin ⟨i - (j + 1),by omega,j + 1,rfl,by omega,rfl,?_,by simp (disch:=omega) only [go_sem,↓cB,dB,r0,r1,r6,r7,rd,hxj]⟩
    intro p hp
    by_cases e:p=j
    ·subst e; exact fun x=>by have:=hb.2 x.2; cases this
    ·exact hall p (by omega)
   ·simp (disch:=omega) only [go_sem,↓cB,dB,r0,r1,r6,r7,rd]
    rw [if_pos (show amR l i from ⟨j,hji,kk,hb.1 rfl⟩)]
    exact fin ⟨f0,rfl⟩
 rw [if_neg k13]
 by_cases k17:n.kind=17
 ·rw [if_pos k17]
  have hl1:n.nums.length=1:=by rw [hnl,k17]; rfl
  have g0:=getD_some (l:=n.nums) (d:=(0:Int)) (i:=0) (by omega)
  obtain ⟨b,o,cc,q1,-,q2⟩:=hu.at1 g0
  simp only [Value.slice.injEq,true_and] at q1
  obtain ⟨rfl,rfl⟩:=q1
  rw [Nat.add_zero] at q2
  have e0:n.nums.getD 0 0=n0 n:=rfl
  rw [e0] at q2
  generalize n0 n=u0 at *
  by_cases d1:u0 > 127
  ·rw [if_pos d1]
   simp (disch:=omega) only [go_sem,↓cB,dB,c0,c2',q2,k17]
   exact fin ⟨f0,rfl⟩
  ·rw [if_neg d1]
   simp (disch:=omega) only [go_sem,↓cB,dB,c0,c2',q2,k17]
   exact fin ⟨f0,rfl⟩
 rw [if_neg k17]
 simp (disch:=omega) only [go_sem,↓cB,dB,c0]
 exact fin ⟨f0,rfl⟩
set_option maxHeartbeats 1000000 in
theorem r12Check_spec (h:NL H S v l) (hz:Sz l) (hr:prRightM l=true):CallF Tryz.prog 19 [v] H (fun r H'=>Fr [] H H'∧r=fltV (check12 l)) NoP:=by
 obtain ⟨hl0,hl8,hW,-⟩:=right_facts hr
 obtain ⟨av,cv,rfl⟩:=h.len
 obtain ⟨A0,hA0⟩:∃ A,A=H.push (.cells #[iv 0,iv 0] 36):=⟨_,rfl⟩
 have g0:Fr [] H A0:=by rw [hA0]; exact Fr.push
 have z0:A0.size=H.size + 1:=by rw [hA0]; simp
 have hsc:=scopeM_err l
 rw [scope_eq hr] at hsc
 unfold check12
 refine callF_of Tryz.func19 rfl Tryz.ntmps19 Tryz.results19 (by decide) rfl ?_
 simp (disch:=omega) only [go_sem,↓cB,dB]
 rw [← hA0]
 refine call_to (r11Check_spec (h.grow g0) hz hW (by omega)) ?_
 intro r1 H1 hv
 refine Hush.out ?_
 obtain ⟨f1,rfl⟩:=hv
 obtain ⟨A1,hA1⟩:∃ A,A=H1.push (.cells #[iv (check11 l).err,iv (check11 l).pos] 36):=⟨_,rfl⟩
 have g1:Fr [] H1 A1:=by rw [hA1]; exact Fr.push
 have z1:A1.size=H1.size + 1:=by rw [hA1]; simp
 have b1:Blk A1 H1.size 36 [iv (check11 l).err,iv (check11 l).pos]:=by rw [hA1]; exact Blk.new rfl
 have ld1:=b1.cells0
 simp only [List.length_cons,List.length_nil] at ld1
 have k1:=b1.cell 0
 simp only [gZ] at k1
 have f01:=f1.trans g1
 rcases hsc with he | he
 rotate_left
 ·rw [if_neg (fun e=>by rw [e] at he; exact he rfl)]
  obtain ⟨X',e1,e2,e3,e4⟩:=flt_res (H:=H) (X:=A1) (by rw [← hA0]; exact f01) (check11 l).err (check11 l).pos
  refine ⟨?_⟩
  simp (disch:=omega) only [go_sem,↓cB,dB,fltV]
  rw [← hA1]
  try (simp (disch:=omega) only [go_sem,↓cB,dB,k1,ld1,e1,e2])
  exact fin ⟨e3,rfl⟩
 rw [if_pos he]
 rw [he] at hA1 k1
 obtain ⟨R,hR⟩:∃ R,R=firstE (wrongR l) l.length 0:=⟨_,rfl⟩
 rw [← hR]
 rw [he]
 refine ⟨?_⟩
 simp (disch:=omega) only [go_sem,↓cB,dB,fltV]
 rw [← hA1]
 try (simp (disch:=omega) only [go_sem,↓cB,dB,k1])
 refine loop_by (fun q ρ H2=>∃ j:Nat,q=l.length - j∧j≤l.length∧Fr [] A0 H2∧R=firstE (wrongR l) (l.length - j) j∧(ρ.get 0=.slice av l.length cv∧ρ.get 2=hp H.size∧ρ.get 4=iv j∧ρ.ds = [])) (k:=l.length) ?_ ?_
 ·exact ⟨0,rfl,by omega,f01,hR,by simp (disch:=omega) only [go_sem,↓cB,dB]⟩
 ·rintro q ρ H2 ⟨j,rfl,hj,f2,hR,r0,r2,r4,rd⟩
  have hxj:(j:Int) + 1=((j + 1:Nat):Int):=by omega
  by_cases hjl:j < l.length
  rotate_left
  ·obtain rfl:j=l.length:=by omega
   rw [Nat.sub_self] at hR
   simp only [firstE] at hR
   obtain ⟨X',e1,e2,e3,e4⟩:=flt_res (H:=H) (X:=H2) (by rw [← hA0]; exact f2) 0 0
   simp (disch:=omega) only [go_sem,↓cB,dB,r0,r2,r4,rd,e1,e2]
   exact fin ⟨e3,by rw [hR]; rfl⟩
  rw [show l.length - j=(l.length - (j + 1)) + 1 by omega] at hR
  unfold firstE at hR
  have nl2:=h.grow (g0.trans f2)
  simp (disch:=omega) only [go_sem,↓cB,dB,r0,r2,r4,rd]
  refine call_to (r12wrong_spec nl2 hz hr hjl) ?_
  intro r3 H3 hv
  refine Hush.out ?_
  obtain ⟨f3,rfl⟩:=hv
  have f23:=f2.trans f3
  by_cases hw:wrongR l j=0
  ·rw [if_pos hw] at hR
   refine ⟨?_⟩
   simp (disch:=omega) only [go_sem,↓cB,dB,r0,r2,r4,rd]
   exact fin ⟨l.length - (j + 1),by omega,j + 1,rfl,by omega,f23,hR,by simp (disch:=omega) only [go_sem,↓cB,dB,r0,r2,r4,rd,hxj]⟩
  ·rw [if_neg hw] at hR
   have hgj:=getD_some (l:=l) (d:=nd0') (i:=j) (by omega)
   obtain ⟨b,o,cap,a,q1,q2,arj,-,-,-,-,-,kj⟩:=(nl2.grow f3).row hgj
   simp only [Value.slice.injEq,true_and] at q1
   obtain ⟨rfl,rfl⟩:=q1
   have hndj:l.getD j nd0'=nodeAt l j:=rfl
   rw [hndj] at kj
   obtain ⟨X',e1,e2,e3,e4⟩:=flt_res (H:=H) (X:=H3) (by rw [← hA0]; exact f23) (wrongR l j) (nodeAt l j).pos
   refine ⟨?_⟩
   simp (disch:=omega) only [go_sem,↓cB,dB,r0,r2,r4,rd,kj,e1,e2]
   exact fin ⟨e3,by rw [hR]; rfl⟩
end
end Go.Proofs.YtmihefbdghjeoaaGreat
