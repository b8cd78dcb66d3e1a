/- Texts of this proof, put together: ScpA, ScpB, ScpC, ScpD, ScpE, ScpF, ScpG, ScpH, ArgN. The conditions of each theorem stand in it. -/
import Derived.Test.YtmihefbdghjeoaaGreatMX8
import Derived.Test.YtmihefbdghjeoaaGreatMX6
import Derived.Test.YtmihefbdghjeoaaGreatMX3
import Derived.Test.YtmihefbdghjeoaaGreatMX7
set_option linter.unusedSimpArgs false
set_option linter.unusedVariables false
namespace Go.Proofs.YtmihefbdghjeoaaGreat
open Go.HL
set_option maxRecDepth 10000
def inL (l:List Str) (s:Str):Bool:=l.any (· == s)
theorem inL_true {l:List Str} {s:Str} {i:Nat} (h:l[i]?=some s):inL l s=true:=by
 unfold inL; rw [List.any_eq_true]; exact ⟨s,List.mem_of_getElem? h,by simp⟩
theorem inL_false {l:List Str} {s:Str} (h:∀ j,j < l.length→¬ l.getD j []=s):inL l s=false:=by
 unfold inL; rw [List.any_eq_false]
 intro x hx
 obtain ⟨i,hi⟩:=List.getElem?_of_mem hx
 have hil:=(List.getElem?_eq_some_iff.1 hi).1
 have:=h i hil
 rw [List.getD_eq_getElem?_getD,hi] at this
 simpa using this
section
variable {H:Heap} {S:Nat→Prop} {v:Value} {ws:List Str} {s:Str}
theorem r11In_spec (h:Rd H S 1 v (ws.map sv)) (hl:ws.length≤9223372036854775807):CallF Tryz.prog 93 [v,sv s] H (fun r H'=>H=H'∧r=.bool (inL ws s)) NoP:=by
 obtain ⟨av,cv,rfl⟩:=h.len1
 refine callF_of Tryz.func93 rfl Tryz.ntmps93 Tryz.results93 (by decide) rfl ?_
 simp (disch:=omega) only [go_sem,↓cB,dB]
 refine loop_by (fun k ρ H2=>∃ i:Nat,k=ws.length - i∧i≤ws.length∧(∀ j,j < i→¬ ws.getD j []=s)∧H=H2∧(ρ.get 0=.slice av ws.length cv∧ρ.get 1=sv s∧ρ.get 5=iv i∧ρ.ds = [])) (k:=ws.length) ?_ ?_
 ·exact ⟨0,rfl,by omega,by omega,rfl,by simp (disch:=omega) only [go_sem,↓cB,dB]⟩
 ·rintro k ρ _ ⟨i,rfl,hi,hall,rfl,r0,r1,r5,rd⟩
  have hxi:(i:Int) + 1=((i + 1:Nat):Int):=by omega
  by_cases hin:i < ws.length
  ·have hg:=getD_some (d:=([]:Str)) hin
   obtain ⟨b,o,cap,q1,-,q2⟩:=h.at1 hg
   simp only [Value.slice.injEq,true_and] at q1
   obtain ⟨rfl,rfl⟩:=q1
   by_cases hs:ws.getD i []=s
   ·have hd:decide (ws.getD i []=s)=true:=by simpa using hs
    simp (disch:=omega) only [go_sem,↓cB,dB,r0,r1,r5,rd,q2,hd]
    exact fin ⟨rfl,by rw [inL_true (i:=i) (by rw [hg,hs])]⟩
   ·have hd:decide (ws.getD i []=s)=false:=by simpa using hs
    simp (disch:=omega) only [go_sem,↓cB,dB,r0,r1,r5,rd,q2,hd]
    refine fin ⟨ws.length - (i + 1),by omega,i + 1,rfl,by omega,?_,rfl,by simp (disch:=omega) only [go_sem,↓cB,dB,r0,r1,r5,rd,hxi]⟩
    intro j hj
    by_cases e:j=i
    ·subst e; exact hs
    ·exact hall j (by omega)
  ·obtain rfl:i=ws.length:=by omega
   simp (disch:=omega) only [go_sem,↓cB,dB,r0,r1,r5,rd]
   exact fin ⟨rfl,by rw [inL_false hall]⟩
theorem sIndex_spec (h:Rd H S 1 v (ws.map sv)) (hl:ws.length≤9223372036854775807):CallF Tryz.prog 103 [v,sv s] H (fun r H'=>H=H'∧∃ n:Int,r=iv n∧(0≤n↔inL ws s=true)∧(∀ i:Nat,n=i→i < ws.length∧ws[i]?=some s∧∀ j,j < i→¬ ws.getD j []=s)) NoP:=by
 obtain ⟨av,cv,rfl⟩:=h.len1
 refine callF_of Tryz.func103 rfl Tryz.ntmps103 Tryz.results103 (by decide) rfl ?_
 simp (disch:=omega) only [go_sem,↓cB,dB]
 refine loop_by (fun k ρ H2=>∃ i:Nat,k=ws.length - i∧i≤ws.length∧(∀ j,j < i→¬ ws.getD j []=s)∧H=H2∧(ρ.get 0=.slice av ws.length cv∧ρ.get 1=sv s∧ρ.get 7=iv ws.length∧ρ.get 8=iv i∧ρ.ds = [])) (k:=ws.length) ?_ ?_
 ·exact ⟨0,rfl,by omega,by omega,rfl,by simp (disch:=omega) only [go_sem,↓cB,dB]⟩
 ·rintro k ρ _ ⟨i,rfl,hi,hall,rfl,r0,r1,r7,r8,rd⟩
  have hxi:(i:Int) + 1=((i + 1:Nat):Int):=by omega
  by_cases hin:i < ws.length
  ·have hg:=getD_some (d:=([]:Str)) hin
   obtain ⟨b,o,cap,q1,-,q2⟩:=h.at1 hg
   simp only [Value.slice.injEq,true_and] at q1
   obtain ⟨rfl,rfl⟩:=q1
   by_cases hs:s=ws.getD i []
   ·have hd:decide (s=ws.getD i [])=true:=by simpa using hs
    simp (disch:=omega) only [go_sem,↓cB,dB,r0,r1,r7,r8,rd,q2,hd]
    refine fin ⟨rfl,i,rfl,⟨fun _=>inL_true (i:=i) (by rw [hg,hs]),fun _=>by omega⟩,?_⟩
    intro i' e
    have:i'=i:=by omega
    subst this
    exact ⟨hin,by rw [hg,← hs],hall⟩
   ·have hd:decide (s=ws.getD i [])=false:=by simpa using hs
    simp (disch:=omega) only [go_sem,↓cB,dB,r0,r1,r7,r8,rd,q2,hd]
    refine fin ⟨ws.length - (i + 1),by omega,i + 1,rfl,by omega,?_,rfl,by simp (disch:=omega) only [go_sem,↓cB,dB,r0,r1,r7,r8,rd,hxi]⟩
    intro j hj
    by_cases e:j=i
    ·subst e; exact fun h=>hs h.symm
    ·exact hall j (by omega)
  ·obtain rfl:i=ws.length:=by omega
   simp (disch:=omega) only [go_sem,↓cB,dB,r0,r1,r7,r8,rd]
   refine fin ⟨rfl,-1,rfl,?_,fun i e=>by omega⟩
   rw [inL_false hall]
   simp
theorem sContains_spec (h:Rd H S 1 v (ws.map sv)) (hl:ws.length≤9223372036854775807):CallF Tryz.prog 79 [v,sv s] H (fun r H'=>H=H'∧r=.bool (inL ws s)) NoP:=by
 refine callF_of Tryz.func79 rfl Tryz.ntmps79 Tryz.results79 (by decide) rfl ?_
 simp (disch:=omega) only [go_sem,↓cB,dB]
 refine call_to (sIndex_spec h hl) ?_
 rintro _ _ ⟨rfl,n,rfl,hn,-⟩
 simp (disch:=omega) only [go_sem,↓cB,dB]
 refine fin ⟨rfl,?_⟩
 rw [Bool.eq_iff_iff.2 (show decide (0≤n)=true↔inL ws s=true by simpa using hn)]
end
def itemL (ks:List Int) (i:Int):Int:=ks.foldl (fun out k=>if k≤i then k else out) 0
def itemM' (l:List Nd) (i:Int):Int:=itemL (l.getD 0 nd0').kids i
theorem itemL_step {ks:List Int} {j:Nat} {k i:Int} (h:ks[j]?=some k):itemL (ks.take (j + 1)) i=if k≤i then k else itemL (ks.take j) i:=by
 unfold itemL; rw [List.take_add_one,h]; simp
section
variable {H:Heap} {S:Nat→Prop} {v:Value} {l:List Nd}
theorem r11Item_spec (h:NL H S v l) (hz:Sz l) (h0:0 < l.length) {i:Int}:CallF Tryz.prog 107 [v,iv i] H (fun r H'=>H=H'∧r=iv (itemM' l i)) NoP:=by
 have hg0:=getD_some (d:=nd0') h0
 obtain ⟨b,o,cap,a,q1,q2,ar,-,-,-,-,k3,-⟩:=h.row hg0
 obtain ⟨nn,x1,c1,x2,c2,x3,c3,rfl⟩:=ar.open
 simp only at q2
 have hkl:=hz.k 0 _ hg0
 rw [← q2] at hkl
 have hit:itemM' l i=itemL nn.kids i:=by unfold itemM'; rw [← q2]
 rw [hit]
 subst q1
 rw [Nat.zero_mul,Nat.add_zero] at k3
 simp only at k3
 have hkk:=ar.k
 simp only at hkk
 clear ar
 generalize nn.kids=ks at *
 refine callF_of Tryz.func107 rfl Tryz.ntmps107 Tryz.results107 (by decide) rfl ?_
 simp (disch:=omega) only [go_sem,↓cB,dB]
 refine loop_by (fun k ρ H2=>∃ j:Nat,k=ks.length - j∧j≤ks.length∧H=H2∧(ρ.get 0=.slice (some ⟨b,o,none⟩) l.length cap∧ρ.get 1=iv i∧ρ.get 5=iv (itemL (ks.take j) i)∧ρ.get 6=iv j∧ρ.ds = [])) (k:=ks.length) ?_ ?_
 ·exact ⟨0,rfl,by omega,rfl,by (simp (disch:=omega) only [go_sem,↓cB,dB]) <;> simp [itemL]⟩
 ·rintro k ρ _ ⟨j,rfl,hj,rfl,r0,r1,r5,r6,rd⟩
  have hxj:(j:Int) + 1=((j + 1:Nat):Int):=by omega
  by_cases hjn:j < ks.length
  ·have hgj:=getD_some (d:=(0:Int)) hjn
   obtain ⟨b',o',cap',p1,-,p2⟩:=hkk.at1 hgj
   simp only [Value.slice.injEq,true_and] at p1
   obtain ⟨rfl,rfl⟩:=p1
   have hst:=itemL_step (i:=i) hgj
   generalize ks.getD j 0=y at *
   by_cases hy:y≤i
   ·rw [if_pos hy] at hst
    simp (disch:=omega) only [go_sem,↓cB,dB,r0,r1,r5,r6,rd,k3,p2]
    exact fin ⟨ks.length - (j + 1),by omega,j + 1,rfl,by omega,rfl,by rw [hst]; simp (disch:=omega) only [go_sem,↓cB,dB,r0,r1,r5,r6,rd,hxj]⟩
   ·rw [if_neg hy] at hst
    simp (disch:=omega) only [go_sem,↓cB,dB,r0,r1,r5,r6,rd,k3,p2]
    exact fin ⟨ks.length - (j + 1),by omega,j + 1,rfl,by omega,rfl,by rw [hst]; simp (disch:=omega) only [go_sem,↓cB,dB,r0,r1,r5,r6,rd,hxj]⟩
  ·obtain rfl:j=ks.length:=by omega
   rw [List.take_length] at r5
   simp (disch:=omega) only [go_sem,↓cB,dB,r0,r1,r5,r6,rd,k3]
   exact fin ⟨rfl,rfl⟩
end
end Go.Proofs.YtmihefbdghjeoaaGreat
namespace Go.Proofs.YtmihefbdghjeoaaGreat
open Go.HL
set_option maxRecDepth 10000
def w0 (n:Nd):Str:=n.words.getD 0 []
def w1 (n:Nd):Str:=n.words.getD 1 []
def nodeAt (l:List Nd) (i:Nat):Nd:=l.getD i nd0'
def namesU (l:List Nd) (it kind:Int):Nat→List Str
 | 0=>[]
 | i + 1=>if (nodeAt l i).kind=kind∧(itemM' l i=i∨itemM' l i=it) then (if inL (namesU l it kind i) (w0 (nodeAt l i)) then namesU l it kind i else namesU l it kind i ++ [w0 (nodeAt l i)]) else namesU l it kind i
def namesM (l:List Nd) (i:Nat) (kind:Int):List Str:=namesU l (itemM' l i) kind i
theorem namesU_len {l:List Nd} {it kind:Int}:∀ i,(namesU l it kind i).length≤i
 | 0=>by simp [namesU]
 | i + 1=>by
  have:=namesU_len (l:=l) (it:=it) (kind:=kind) i
  unfold namesU
  split
  ·split
   ·omega
   ·simp; omega
  ·omega
def WOk (l:List Nd):Prop:=∀ (i:Nat) n,l[i]?=some n→n.words.length=wcount n.kind
def bad11 (l:List Nd) (i:Nat):Bool :=
 let n:=nodeAt l i
 let C:=namesM l i 1
 let V:=namesM l i 2
 let P:=namesM l i 3
 if n.kind=1∨n.kind=2∨n.kind=3 then inL C (w0 n) || (inL V (w0 n) || inL P (w0 n))
 else if n.kind=6∨n.kind=18 then !inL V (w0 n)
 else if n.kind=7∨n.kind=19 then !inL C (w0 n)
 else if n.kind=8 then (!inL C (w0 n) || !inL V (w1 n))
 else false
def firstT (g:Nat→Bool):Nat→Nat→Option Nat
 | 0,_=>none
 | m + 1,i=>if g i then some i else firstT g m (i + 1)
def fltOf (l:List Nd):Option Nat→Flt
 | none=>⟨0,0⟩
 | some i=>⟨20,(nodeAt l i).pos⟩
def check11 (l:List Nd):Flt:=fltOf l (firstT (bad11 l) l.length 0)
section
variable {H:Heap} {S:Nat→Prop} {v:Value} {l:List Nd}
set_option maxHeartbeats 1000000 in
theorem r11Names_spec (h:NL H S v l) (hz:Sz l) (hW:WOk l) (h8:l.length≤1000000) {i:Nat} (hi:i < l.length) {kind:Int} (hk:kind=1∨kind=2∨kind=3) :
  CallF Tryz.prog 92 [v,iv i,iv kind] H (fun r H'=>Fr [] H H'∧Rd H' (fun b=>H.size≤b) 1 r ((namesM l i kind).map sv)) NoP:=by
 have h0:0 < l.length:=by omega
 obtain ⟨av,cv,rfl⟩:=h.len
 unfold namesM
 refine callF_of Tryz.func92 rfl Tryz.ntmps92 Tryz.results92 (by decide) rfl ?_
 simp (disch:=omega) only [go_sem,↓cB,dB]
 refine call_to (r11Item_spec h hz h0) ?_
 rintro _ _ ⟨rfl,rfl⟩
 simp (disch:=omega) only [go_sem,↓cB,dB]
 generalize itemM' l i=it at *
 refine loop_by (fun k ρ H2=>∃ (j:Nat) (ov:Value),k=i - j∧j≤i∧Fr [] H H2∧Vec H2 9 1 ov ((namesU l it kind j).map sv)∧(∀ b ∈ own ov,H.size≤b)∧(ρ.get 0=.slice av l.length cv∧ρ.get 1=iv i∧ρ.get 2=iv kind∧ρ.get 7=ov∧ρ.get 8=iv it∧ρ.get 9=iv j∧ρ.ds = [])) (k:=i) ?_ ?_
 ·exact ⟨0,_,rfl,by omega,Fr.refl _ _,Vec.nil,by simp [own],by simp (disch:=omega) only [go_sem,↓cB,dB]⟩
 ·rintro k ρ H2 ⟨j,ov,rfl,hj,fr2,vec,hown,r0,r1,r2,r7,r8,r9,rd⟩
  have hxj:(j:Int) + 1=((j + 1:Nat):Int):=by omega
  by_cases hji:j < i
  ·have hgj:=getD_some (l:=l) (d:=nd0') (i:=j) (by omega)
   have nl2:=h.grow fr2
   obtain ⟨b,o,cap,a,q1,q2,ar,-,k0,k1,-⟩:=nl2.row hgj
   simp only [Value.slice.injEq,true_and] at q1
   obtain ⟨rfl,rfl⟩:=q1
   have hwn:=hW j _ hgj
   have hnu:namesU l it kind (j + 1)=if (l.getD j nd0').kind=kind∧(itemM' l j=j∨itemM' l j=it) then (if inL (namesU l it kind j) (w0 (l.getD j nd0')) then namesU l it kind j else namesU l it kind j ++ [w0 (l.getD j nd0')]) else namesU l it kind j:=rfl
   have hnl:=namesU_len (l:=l) (it:=it) (kind:=kind) j
   generalize hn:l.getD j nd0'=n at *
   by_cases hkind:n.kind=kind
   rotate_left
   ·rw [if_neg (fun e=>hkind e.1)] at hnu
    simp (disch:=omega) only [go_sem,↓cB,dB,r0,r1,r2,r7,r8,r9,rd,k0]
    exact fin ⟨i - (j + 1),by omega,j + 1,ov,rfl,by omega,fr2,by rw [hnu]; exact vec,hown,by simp (disch:=omega) only [go_sem,↓cB,dB,r0,r1,r2,r7,r8,r9,rd,hxj]⟩
   have hwl:0 < n.words.length:=by
    rw [hwn,hkind]
    rcases hk with rfl | rfl | rfl <;> decide
   have hg0:=getD_some (d:=([]:Str)) hwl
   have hw:=ar.w
   rw [q2] at hw
   obtain ⟨wb,wo,wc,ew,-,ec⟩:=hw.at1 hg0
   rw [Nat.add_zero] at ec
   rw [ew] at k1
   have hitem:=r11Item_spec (i:=(j:Int)) nl2 hz h0
   have tail:∀ {ρ':En},((itemM' l j=j∨itemM' l j=it))→True:=fun _=>trivial
   simp (disch:=omega) only [go_sem,↓cB,dB,r0,r1,r2,r7,r8,r9,rd,k0,hkind]
   refine call_to hitem ?_
   rintro _ _ ⟨rfl,rfl⟩
   by_cases hA:itemM' l j=j∨itemM' l j=it
   rotate_left
   ·rw [if_neg (fun e=>hA e.2)] at hnu
    have hA1:¬ itemM' l j=j:=fun e=>hA (.inl e)
    have hA2:¬ itemM' l j=it:=fun e=>hA (.inr e)
    simp (disch:=omega) only [go_sem,↓cB,dB,r0,r1,r2,r7,r8,r9,rd]
    refine call_to hitem ?_
    rintro _ _ ⟨rfl,rfl⟩
    simp (disch:=omega) only [go_sem,↓cB,dB,r0,r1,r2,r7,r8,r9,rd]
    exact fin ⟨i - (j + 1),by omega,j + 1,ov,rfl,by omega,fr2,by rw [hnu]; exact vec,hown,by simp (disch:=omega) only [go_sem,↓cB,dB,r0,r1,r2,r7,r8,r9,rd,hxj]⟩
   rw [if_pos ⟨hkind,hA⟩] at hnu
   have hIn:=r11In_spec (H:=H2) (s:=w0 n) (Rd.of_vec vec hown) (by omega)
   obtain ⟨ak,lk,ck,ekv,hlk⟩:=vec.len
   simp only [List.length_map,Nat.mul_one] at hlk
   subst hlk
   subst ekv
   have hww:n.words.getD 0 []=w0 n:=rfl
   rw [hww] at ec
   have main:∀ {x:Prop},True:=trivial
   by_cases hA1:itemM' l j=j
   ·simp (disch:=omega) only [go_sem,↓cB,dB,r0,r1,r2,r7,r8,r9,rd,k1,ec]
    refine call_to hIn ?_
    rintro _ _ ⟨rfl,rfl⟩
    cases hq:inL (namesU l it kind j) (w0 n)
    ·rw [hq] at hnu
     simp only [Bool.false_eq_true,if_false] at hnu
     simp (disch:=omega) only [go_sem,↓cB,dB,r0,r1,r2,r7,r8,r9,rd,k1,ec]
     refine app_lit1 T.el41 rfl vec rfl (by simp; omega) ?_
     intro v' H6 g1 g2 g3 g4
     refine Hush.out ?_
     have fr6:Fr [] H H6:=Fr.more fr2 g2 (fun b hb=>.inr (hown b hb))
     have hz2:=fr2.size
     refine ⟨?_⟩
     simp (disch:=omega) only [go_sem,↓cB,dB,r0,r1,r2,r7,r8,r9,rd]
     exact fin ⟨i - (j + 1),by omega,j + 1,v',rfl,by omega,fr6,by rw [hnu,List.map_append]; exact g1,fun b hb=>(g3 b hb).elim (hown b) (fun h=>by omega),by simp (disch:=omega) only [go_sem,↓cB,dB,r0,r1,r2,r7,r8,r9,rd,hxj]⟩
    ·rw [hq] at hnu
     simp only [if_true] at hnu
     simp (disch:=omega) only [go_sem,↓cB,dB,r0,r1,r2,r7,r8,r9,rd]
     exact fin ⟨i - (j + 1),by omega,j + 1,_,rfl,by omega,fr2,by rw [hnu]; exact vec,hown,by simp (disch:=omega) only [go_sem,↓cB,dB,r0,r1,r2,r7,r8,r9,rd,hxj]⟩
   ·have hA2:itemM' l j=it:=hA.resolve_left hA1
    simp (disch:=omega) only [go_sem,↓cB,dB,r0,r1,r2,r7,r8,r9,rd]
    refine call_to hitem ?_
    rintro _ _ ⟨rfl,rfl⟩
    simp (disch:=omega) only [go_sem,↓cB,dB,r0,r1,r2,r7,r8,r9,rd,k1,ec,hA2]
    refine call_to hIn ?_
    rintro _ _ ⟨rfl,rfl⟩
    cases hq:inL (namesU l it kind j) (w0 n)
    ·rw [hq] at hnu
     simp only [Bool.false_eq_true,if_false] at hnu
     simp (disch:=omega) only [go_sem,↓cB,dB,r0,r1,r2,r7,r8,r9,rd,k1,ec]
     refine app_lit1 T.el41 rfl vec rfl (by simp; omega) ?_
     intro v' H6 g1 g2 g3 g4
     refine Hush.out ?_
     have fr6:Fr [] H H6:=Fr.more fr2 g2 (fun b hb=>.inr (hown b hb))
     have hz2:=fr2.size
     refine ⟨?_⟩
     simp (disch:=omega) only [go_sem,↓cB,dB,r0,r1,r2,r7,r8,r9,rd]
     exact fin ⟨i - (j + 1),by omega,j + 1,v',rfl,by omega,fr6,by rw [hnu,List.map_append]; exact g1,fun b hb=>(g3 b hb).elim (hown b) (fun h=>by omega),by simp (disch:=omega) only [go_sem,↓cB,dB,r0,r1,r2,r7,r8,r9,rd,hxj]⟩
    ·rw [hq] at hnu
     simp only [if_true] at hnu
     simp (disch:=omega) only [go_sem,↓cB,dB,r0,r1,r2,r7,r8,r9,rd]
     exact fin ⟨i - (j + 1),by omega,j + 1,_,rfl,by omega,fr2,by rw [hnu]; exact vec,hown,by simp (disch:=omega) only [go_sem,↓cB,dB,r0,r1,r2,r7,r8,r9,rd,hxj]⟩
  ·obtain rfl:j=i:=by omega
   simp (disch:=omega) only [go_sem,↓cB,dB,r0,r1,r2,r7,r8,r9,rd]
   exact fin ⟨fr2,Rd.of_vec vec hown⟩
end
end Go.Proofs.YtmihefbdghjeoaaGreat
namespace Go.Proofs.YtmihefbdghjeoaaGreat
open Go.HL
set_option maxRecDepth 10000
section
variable {H:Heap} {S:Nat→Prop} {v:Value} {l:List Nd}
set_option maxHeartbeats 2000000 in
theorem r11bad_spec (h:NL H S v l) (hz:Sz l) (hW:WOk l) (h8:l.length≤1000000) {i:Nat} (hi:i < l.length) :
  CallF Tryz.prog 59 [v,iv i] H (fun r H'=>Fr [] H H'∧r=.bool (bad11 l i)) NoP:=by
 have hgi:=getD_some (d:=nd0') hi
 obtain ⟨b,o,cap,a,q1,q2,ar,ld,-⟩:=h.row hgi
 obtain ⟨nn,x1,c1,x2,c2,x3,c3,rfl⟩:=ar.open
 simp only at q2 ld
 have hwn:=hW i _ hgi
 have hat:nodeAt l i=nn:=by unfold nodeAt; rw [q2]
 rw [← q2] at ld hwn
 subst q1
 obtain ⟨kind,words,nums,kids,pos⟩:=nn
 simp only at ld hwn
 obtain ⟨G,hG⟩:∃ G,G=H.push (.cells #[iv kind,.slice x1 words.length c1,.slice x2 nums.length c2,.slice x3 kids.length c3,iv pos] 47):=⟨_,rfl⟩
 have f0:Fr [] H G:=by rw [hG]; exact Fr.push
 have zG:G.size=H.size + 1:=by rw [hG]; simp
 have hb:Blk G H.size 47 [iv kind,.slice x1 words.length c1,.slice x2 nums.length c2,.slice x3 kids.length c3,iv pos]:=by rw [hG]; exact Blk.new rfl
 unfold bad11
 rw [hat]
 refine callF_of Tryz.func59 rfl Tryz.ntmps59 Tryz.results59 (by decide) rfl ?_
 simp (disch:=omega) only [go_sem,↓cB,dB,ld]
 rw [← hG]
 refine call_to (r11Names_spec (kind:=1) (h.grow f0) hz hW h8 hi (by omega)) ?_
 intro C H1 hv
 refine Hush.out ?_
 obtain ⟨f1,rC⟩:=hv
 refine ⟨?_⟩
 simp (disch:=omega) only [go_sem,↓cB,dB]
 refine call_to (r11Names_spec (kind:=2) ((h.grow f0).grow f1) hz hW h8 hi (by omega)) ?_
 intro V H2 hv
 refine Hush.out ?_
 obtain ⟨f2,rV⟩:=hv
 refine ⟨?_⟩
 simp (disch:=omega) only [go_sem,↓cB,dB]
 refine call_to (r11Names_spec (kind:=3) (((h.grow f0).grow f1).grow f2) hz hW h8 hi (by omega)) ?_
 intro P H3 hv
 refine Hush.out ?_
 obtain ⟨f3,rP⟩:=hv
 have rC3:=rC.frame (Keeps.of_fr (f2.trans f3) (by simp))
 have rV3:=rV.frame (Keeps.of_fr f3 (by simp))
 have hlC:(namesM l i 1).length≤1000000:=by have:=namesU_len (l:=l) (it:=itemM' l i) (kind:=1) i; unfold namesM; omega
 have hlV:(namesM l i 2).length≤1000000:=by have:=namesU_len (l:=l) (it:=itemM' l i) (kind:=2) i; unfold namesM; omega
 have hlP:(namesM l i 3).length≤1000000:=by have:=namesU_len (l:=l) (it:=itemM' l i) (kind:=3) i; unfold namesM; omega
 have hC:∀ s,CallF Tryz.prog 93 [C,sv s] H3 (fun r H'=>H3=H'∧r=.bool (inL (namesM l i 1) s)) NoP:=fun s=>r11In_spec rC3 (by omega)
 have hV:∀ s,CallF Tryz.prog 93 [V,sv s] H3 (fun r H'=>H3=H'∧r=.bool (inL (namesM l i 2) s)) NoP:=fun s=>r11In_spec rV3 (by omega)
 have hP:∀ s,CallF Tryz.prog 93 [P,sv s] H3 (fun r H'=>H3=H'∧r=.bool (inL (namesM l i 3) s)) NoP:=fun s=>r11In_spec rP (by omega)
 have fall:Fr [] H H3:=((f0.trans f1).trans f2).trans f3
 generalize namesM l i 1=CL at *
 generalize namesM l i 2=VL at *
 generalize namesM l i 3=PL at *
 have hb3:=((f1.trans f2).trans f3).blk hb (by simp)
 have k0:=hb3.cell 0
 have k1:=hb3.cell 1
 simp only [gS,gZ] at k0 k1
 have hw3:=ar.w.frame (Keeps.of_fr fall (by simp))
 simp only at hw3
 by_cases e1:kind=1
 ·subst e1
  have hwl:words.length=1:=by rw [hwn]; rfl
  obtain ⟨wb0,wo0,wc0,ew0,-,ec0⟩:=hw3.at1 (getD_some (d:=([]:Str)) (i:=0) (by rw [hwn]; decide))
  simp only [Value.slice.injEq,true_and] at ew0
  obtain ⟨rfl,rfl⟩:=ew0
  rw [Nat.add_zero] at ec0
  generalize hs0:words.getD 0 []=s0 at *
  refine ⟨?_⟩
  simp (disch:=omega) only [go_sem,↓cB,dB,k0,k1,ec0]
  refine call_to (hC s0) ?_
  rintro _ _ ⟨rfl,rfl⟩
  cases qC:inL CL s0
  rotate_left
  ·simp (disch:=omega) only [go_sem,↓cB,dB]
   exact fin ⟨fall,by simp [w0,w1,-List.getD_eq_getElem?_getD,hs0,qC]⟩
  simp (disch:=omega) only [go_sem,↓cB,dB]
  refine call_to (hV s0) ?_
  rintro _ _ ⟨rfl,rfl⟩
  cases qV:inL VL s0
  rotate_left
  ·simp (disch:=omega) only [go_sem,↓cB,dB]
   exact fin ⟨fall,by simp [w0,w1,-List.getD_eq_getElem?_getD,hs0,qC,qV]⟩
  simp (disch:=omega) only [go_sem,↓cB,dB]
  refine call_to (hP s0) ?_
  rintro _ _ ⟨rfl,rfl⟩
  simp (disch:=omega) only [go_sem,↓cB,dB]
  exact fin ⟨fall,by simp [w0,w1,-List.getD_eq_getElem?_getD,hs0,qC,qV]⟩
 by_cases e2:kind=2
 ·subst e2
  have hwl:words.length=1:=by rw [hwn]; rfl
  obtain ⟨wb0,wo0,wc0,ew0,-,ec0⟩:=hw3.at1 (getD_some (d:=([]:Str)) (i:=0) (by rw [hwn]; decide))
  simp only [Value.slice.injEq,true_and] at ew0
  obtain ⟨rfl,rfl⟩:=ew0
  rw [Nat.add_zero] at ec0
  generalize hs0:words.getD 0 []=s0 at *
  refine ⟨?_⟩
  simp (disch:=omega) only [go_sem,↓cB,dB,k0,k1,ec0]
  refine call_to (hC s0) ?_
  rintro _ _ ⟨rfl,rfl⟩
  cases qC:inL CL s0
  rotate_left
  ·simp (disch:=omega) only [go_sem,↓cB,dB]
   exact fin ⟨fall,by simp [w0,w1,-List.getD_eq_getElem?_getD,hs0,qC]⟩
  simp (disch:=omega) only [go_sem,↓cB,dB]
  refine call_to (hV s0) ?_
  rintro _ _ ⟨rfl,rfl⟩
  cases qV:inL VL s0
  rotate_left
  ·simp (disch:=omega) only [go_sem,↓cB,dB]
   exact fin ⟨fall,by simp [w0,w1,-List.getD_eq_getElem?_getD,hs0,qC,qV]⟩
  simp (disch:=omega) only [go_sem,↓cB,dB]
  refine call_to (hP s0) ?_
  rintro _ _ ⟨rfl,rfl⟩
  simp (disch:=omega) only [go_sem,↓cB,dB]
  exact fin ⟨fall,by simp [w0,w1,-List.getD_eq_getElem?_getD,hs0,qC,qV]⟩
 by_cases e3:kind=3
 ·subst e3
  have hwl:words.length=1:=by rw [hwn]; rfl
  obtain ⟨wb0,wo0,wc0,ew0,-,ec0⟩:=hw3.at1 (getD_some (d:=([]:Str)) (i:=0) (by rw [hwn]; decide))
  simp only [Value.slice.injEq,true_and] at ew0
  obtain ⟨rfl,rfl⟩:=ew0
  rw [Nat.add_zero] at ec0
  generalize hs0:words.getD 0 []=s0 at *
  refine ⟨?_⟩
  simp (disch:=omega) only [go_sem,↓cB,dB,k0,k1,ec0]
  refine call_to (hC s0) ?_
  rintro _ _ ⟨rfl,rfl⟩
  cases qC:inL CL s0
  rotate_left
  ·simp (disch:=omega) only [go_sem,↓cB,dB]
   exact fin ⟨fall,by simp [w0,w1,-List.getD_eq_getElem?_getD,hs0,qC]⟩
  simp (disch:=omega) only [go_sem,↓cB,dB]
  refine call_to (hV s0) ?_
  rintro _ _ ⟨rfl,rfl⟩
  cases qV:inL VL s0
  rotate_left
  ·simp (disch:=omega) only [go_sem,↓cB,dB]
   exact fin ⟨fall,by simp [w0,w1,-List.getD_eq_getElem?_getD,hs0,qC,qV]⟩
  simp (disch:=omega) only [go_sem,↓cB,dB]
  refine call_to (hP s0) ?_
  rintro _ _ ⟨rfl,rfl⟩
  simp (disch:=omega) only [go_sem,↓cB,dB]
  exact fin ⟨fall,by simp [w0,w1,-List.getD_eq_getElem?_getD,hs0,qC,qV]⟩
 by_cases e6:kind=6
 ·subst e6
  have hwl:words.length=1:=by rw [hwn]; rfl
  obtain ⟨wb0,wo0,wc0,ew0,-,ec0⟩:=hw3.at1 (getD_some (d:=([]:Str)) (i:=0) (by rw [hwn]; decide))
  simp only [Value.slice.injEq,true_and] at ew0
  obtain ⟨rfl,rfl⟩:=ew0
  rw [Nat.add_zero] at ec0
  generalize hs0:words.getD 0 []=s0 at *
  refine ⟨?_⟩
  simp (disch:=omega) only [go_sem,↓cB,dB,k0,k1,ec0]
  refine call_to (hV s0) ?_
  rintro _ _ ⟨rfl,rfl⟩
  simp (disch:=omega) only [go_sem,↓cB,dB]
  exact fin ⟨fall,by simp [w0,w1,-List.getD_eq_getElem?_getD,hs0]⟩
 by_cases e18:kind=18
 ·subst e18
  have hwl:words.length=1:=by rw [hwn]; rfl
  obtain ⟨wb0,wo0,wc0,ew0,-,ec0⟩:=hw3.at1 (getD_some (d:=([]:Str)) (i:=0) (by rw [hwn]; decide))
  simp only [Value.slice.injEq,true_and] at ew0
  obtain ⟨rfl,rfl⟩:=ew0
  rw [Nat.add_zero] at ec0
  generalize hs0:words.getD 0 []=s0 at *
  refine ⟨?_⟩
  simp (disch:=omega) only [go_sem,↓cB,dB,k0,k1,ec0]
  refine call_to (hV s0) ?_
  rintro _ _ ⟨rfl,rfl⟩
  simp (disch:=omega) only [go_sem,↓cB,dB]
  exact fin ⟨fall,by simp [w0,w1,-List.getD_eq_getElem?_getD,hs0]⟩
 by_cases e7:kind=7
 ·subst e7
  have hwl:words.length=1:=by rw [hwn]; rfl
  obtain ⟨wb0,wo0,wc0,ew0,-,ec0⟩:=hw3.at1 (getD_some (d:=([]:Str)) (i:=0) (by rw [hwn]; decide))
  simp only [Value.slice.injEq,true_and] at ew0
  obtain ⟨rfl,rfl⟩:=ew0
  rw [Nat.add_zero] at ec0
  generalize hs0:words.getD 0 []=s0 at *
  refine ⟨?_⟩
  simp (disch:=omega) only [go_sem,↓cB,dB,k0,k1,ec0]
  refine call_to (hC s0) ?_
  rintro _ _ ⟨rfl,rfl⟩
  simp (disch:=omega) only [go_sem,↓cB,dB]
  exact fin ⟨fall,by simp [w0,w1,-List.getD_eq_getElem?_getD,hs0]⟩
 by_cases e19:kind=19
 ·subst e19
  have hwl:words.length=1:=by rw [hwn]; rfl
  obtain ⟨wb0,wo0,wc0,ew0,-,ec0⟩:=hw3.at1 (getD_some (d:=([]:Str)) (i:=0) (by rw [hwn]; decide))
  simp only [Value.slice.injEq,true_and] at ew0
  obtain ⟨rfl,rfl⟩:=ew0
  rw [Nat.add_zero] at ec0
  generalize hs0:words.getD 0 []=s0 at *
  refine ⟨?_⟩
  simp (disch:=omega) only [go_sem,↓cB,dB,k0,k1,ec0]
  refine call_to (hC s0) ?_
  rintro _ _ ⟨rfl,rfl⟩
  simp (disch:=omega) only [go_sem,↓cB,dB]
  exact fin ⟨fall,by simp [w0,w1,-List.getD_eq_getElem?_getD,hs0]⟩
 by_cases e8:kind=8
 ·subst e8
  have hwl:words.length=2:=by rw [hwn]; rfl
  obtain ⟨wb0,wo0,wc0,ew0,-,ec0⟩:=hw3.at1 (getD_some (d:=([]:Str)) (i:=0) (by rw [hwn]; decide))
  simp only [Value.slice.injEq,true_and] at ew0
  obtain ⟨rfl,rfl⟩:=ew0
  rw [Nat.add_zero] at ec0
  obtain ⟨wb1,wo1,wc1,ew1,-,ec1⟩:=hw3.at1 (getD_some (d:=([]:Str)) (i:=1) (by rw [hwn]; decide))
  simp only [Value.slice.injEq,Option.some.injEq,Addr.mk.injEq,and_true,true_and] at ew1
  obtain ⟨⟨rfl,rfl⟩,rfl⟩:=ew1
  generalize hs0:words.getD 0 []=s0 at *
  generalize hs1:words.getD 1 []=s1 at *
  refine ⟨?_⟩
  simp (disch:=omega) only [go_sem,↓cB,dB,k0,k1,ec0]
  refine call_to (hC s0) ?_
  rintro _ _ ⟨rfl,rfl⟩
  cases qC:inL CL s0
  ·simp (disch:=omega) only [go_sem,↓cB,dB]
   exact fin ⟨fall,by simp [w0,w1,-List.getD_eq_getElem?_getD,hs0,hs1,qC]⟩
  simp (disch:=omega) only [go_sem,↓cB,dB,k1,ec1]
  refine call_to (hV s1) ?_
  rintro _ _ ⟨rfl,rfl⟩
  simp (disch:=omega) only [go_sem,↓cB,dB]
  exact fin ⟨fall,by simp [w0,w1,-List.getD_eq_getElem?_getD,hs0,hs1,qC]⟩
 refine ⟨?_⟩
 simp (disch:=omega) only [go_sem,↓cB,dB,k0]
 refine fin ⟨fall,?_⟩
 rw [if_neg (by simp only; omega),if_neg (by simp only; omega),if_neg (by simp only; omega),if_neg (by simp only; omega)]
theorem r11Check_spec (h:NL H S v l) (hz:Sz l) (hW:WOk l) (h8:l.length≤1000000) :
  CallF Tryz.prog 37 [v] H (fun r H'=>Fr [] H H'∧r=fltV (check11 l)) NoP:=by
 obtain ⟨av,cv,rfl⟩:=h.len
 obtain ⟨G,hG⟩:∃ G,G=H.push (.cells #[iv 0,iv 0] 36):=⟨_,rfl⟩
 have f0:Fr [] H G:=by rw [hG]; exact Fr.push
 unfold check11
 refine callF_of Tryz.func37 rfl Tryz.ntmps37 Tryz.results37 (by decide) rfl ?_
 simp (disch:=omega) only [go_sem,↓cB,dB]
 rw [← hG]
 refine loop_by (fun k ρ H2=>∃ i:Nat,k=l.length - i∧i≤l.length∧firstT (bad11 l) (l.length - i) i=firstT (bad11 l) l.length 0∧Fr [] G H2∧(ρ.get 0=.slice av l.length cv∧ρ.get 2=hp H.size∧ρ.get 3=iv i∧ρ.ds = [])) (k:=l.length) ?_ ?_
 ·exact ⟨0,rfl,by omega,rfl,Fr.refl _ _,by simp (disch:=omega) only [go_sem,↓cB,dB]⟩
 ·rintro k ρ H2 ⟨i,rfl,hi,hf,fr2,r0,r2,r3,rd⟩
  have hxi:(i:Int) + 1=((i + 1:Nat):Int):=by omega
  by_cases hin:i < l.length
  ·have nl2:=h.grow (f0.trans fr2)
   have hm:l.length - i=(l.length - (i + 1)) + 1:=by omega
   rw [hm] at hf
   have hf':(if bad11 l i then some i else firstT (bad11 l) (l.length - (i + 1)) (i + 1))=firstT (bad11 l) l.length 0:=hf
   simp (disch:=omega) only [go_sem,↓cB,dB,r0,r2,r3,rd]
   refine call_to (r11bad_spec nl2 hz hW h8 hin) ?_
   intro v5 H5 hv
   refine Hush.out ?_
   obtain ⟨fr5,rfl⟩:=hv
   cases hbad:bad11 l i
   ·rw [hbad] at hf'
    simp only [Bool.false_eq_true,if_false] at hf'
    refine ⟨?_⟩
    simp (disch:=omega) only [go_sem,↓cB,dB,r0,r2,r3,rd]
    exact fin ⟨l.length - (i + 1),by omega,i + 1,rfl,by omega,hf',fr2.trans fr5,by simp (disch:=omega) only [go_sem,↓cB,dB,r0,r2,r3,rd,hxi]⟩
   ·rw [hbad] at hf'
    simp only [if_true] at hf'
    obtain ⟨b,o,cap,a,q1,q2,ar,-,-,-,-,-,k4⟩:=(nl2.grow fr5).row (getD_some (d:=nd0') hin)
    simp only [Value.slice.injEq,true_and] at q1
    obtain ⟨rfl,rfl⟩:=q1
    obtain ⟨X',e1,e2,e3,_⟩:=flt_res (X:=H5) (H:=H) (by rw [← hG]; exact fr2.trans fr5) 20 (l.getD i nd0').pos
    refine ⟨?_⟩
    simp (disch:=omega) only [go_sem,↓cB,dB,r0,r2,r3,rd,k4,e1,e2]
    exact fin ⟨e3,by rw [← hf']; rfl⟩
  ·have hm:l.length - i=0:=by omega
   rw [hm] at hf
   have hf':none=firstT (bad11 l) l.length 0:=hf
   obtain ⟨X',e1,e2,e3,_⟩:=flt_res (X:=H2) (H:=H) (by rw [← hG]; exact fr2) 0 0
   simp (disch:=omega) only [go_sem,↓cB,dB,r0,r2,r3,rd,e1,e2]
   exact fin ⟨e3,by rw [← hf']; rfl⟩
end
end Go.Proofs.YtmihefbdghjeoaaGreat
namespace Go.Proofs.YtmihefbdghjeoaaGreat
open Go.HL
set_option maxRecDepth 10000
structure Sg where
 C:List Str
 V:List Str
 P:List Str
 O:List Str
 ins:Bool
structure SM (H:Heap) (M sb:Nat) (c v p o:Value) (g:Sg):Prop where
 box:Blk H sb 126 [c,v,p,o,.bool g.ins]
 low:M≤sb
 vc:Vec H 9 1 c (g.C.map sv)
 oc:∀ b ∈ own c,M≤b∧b ≠ sb
 vv:Vec H 9 1 v (g.V.map sv)
 ov:∀ b ∈ own v,M≤b∧b ≠ sb
 vp:Vec H 9 1 p (g.P.map sv)
 op:∀ b ∈ own p,M≤b∧b ≠ sb
 vo:Vec H 9 1 o (g.O.map sv)
 oo:∀ b ∈ own o,M≤b∧b ≠ sb
 dcv:∀ b ∈ own c,b ∉ own v
 dcp:∀ b ∈ own c,b ∉ own p
 dco:∀ b ∈ own c,b ∉ own o
 dvp:∀ b ∈ own v,b ∉ own p
 dvo:∀ b ∈ own v,b ∉ own o
 dpo:∀ b ∈ own p,b ∉ own o
def wrongM (g:Sg) (n:Nd):Bool :=
 if n.kind=1∨n.kind=2∨n.kind=3 then (inL g.C (w0 n) || (inL g.V (w0 n) || inL g.O (w0 n))) || inL g.P (w0 n)
 else if n.kind=6∨n.kind=18 then !(inL g.V (w0 n) || inL g.O (w0 n))
 else if n.kind=7∨n.kind=19 then !inL g.C (w0 n)
 else if n.kind=8 then (!inL g.C (w0 n) || !(inL g.V (w1 n) || inL g.O (w1 n)))
 else false
def declM (g:Sg) (n:Nd):Sg :=
 if n.kind=1 then { g with C:=g.C ++ [w0 n] } else if n.kind=3 then { g with P:=g.P ++ [w0 n],ins:=true }
 else if n.kind=2 then (if g.ins then { g with O:=g.O ++ [w0 n] } else { g with V:=g.V ++ [w0 n] }) else g
def Sg.small (g:Sg) (m:Nat):Prop:=g.C.length≤m∧g.V.length≤m∧g.P.length≤m∧g.O.length≤m
theorem decl_small {g:Sg} {n:Nd} {m:Nat} (h:g.small m):(declM g n).small (m + 1):=by
 unfold Sg.small declM at *
 split
 ·simp; omega
 ·split
  ·simp; omega
  ·split
   ·split <;> (simp; omega)
   ·omega
section
variable {H H':Heap} {S:Nat→Prop} {M sb:Nat} {c v p o x':Value} {g:Sg} {s:Str} {a:AN}
theorem SM.grow (x:SM H M sb c v p o g) (q:Fr [] H H'):SM H' M sb c v p o g :=
 ⟨q.blk x.box (by simp),x.low,x.vc.frame q (by simp),x.oc,x.vv.frame q (by simp),x.ov,x.vp.frame q (by simp),x.op,x.vo.frame q (by simp),x.oo,x.dcv,x.dcp,x.dco,x.dvp,x.dvo,x.dpo⟩
theorem SM.forms (x:SM H M sb c v p o g):∃ a1 k1 a2 k2 a3 k3 a4 k4,c=.slice a1 g.C.length k1∧v=.slice a2 g.V.length k2∧p=.slice a3 g.P.length k3∧o=.slice a4 g.O.length k4:=by
 have f:∀ {y:Value} {xs:List Str},Vec H 9 1 y (xs.map sv)→∃ a k,y=.slice a xs.length k:=by
  intro y xs h
  obtain ⟨a,l,k,e,hl⟩:=h.len
  simp at hl
  exact ⟨a,k,by rw [e,hl]⟩
 obtain ⟨a1,k1,e1⟩:=f x.vc
 obtain ⟨a2,k2,e2⟩:=f x.vv
 obtain ⟨a3,k3,e3⟩:=f x.vp
 obtain ⟨a4,k4,e4⟩:=f x.vo
 exact ⟨a1,k1,a2,k2,a3,k3,a4,k4,e1,e2,e3,e4⟩
theorem SM.appC (x:SM H M sb c v p o g) (hM:M≤H.size) (g1:Vec H' 9 1 x' (g.C.map sv ++ [sv s])) (g2:Fr (own c) H H') (g3:∀ b ∈ own x',b ∈ own c∨H.size≤b) :
  wr H' ⟨sb,0,none⟩ x'=some (setH H' ⟨sb,0,none⟩ x')∧SM (setH H' ⟨sb,0,none⟩ x') M sb x' v p o { g with C:=g.C ++ [s] }∧Blk H' sb 126 [c,v,p,o,.bool g.ins]∧∀ b ∈ own c,M≤b:=by
 have hsb:=x.box.lt
 have b1:=g2.blk x.box (fun e=>(x.oc _ e).2 rfl)
 have f3:Fr [sb] H' (setH H' ⟨sb,0,none⟩ x'):=Fr.set (by simp)
 have ox:∀ b ∈ own x',M≤b∧b ≠ sb:=fun b hb=>(g3 b hb).elim (x.oc b) (fun h=>⟨by omega,by omega⟩)
 refine ⟨b1.wr (by simp) _,⟨b1.set 0 x',x.low,by rw [List.map_append]; exact g1.frame f3 (fun b hb=>by simpa using (ox b hb).2),ox,(x.vv.frame g2 (fun b hb e=>x.dcv b e hb)).frame f3 (fun b hb=>by simpa using (x.ov b hb).2),x.ov,(x.vp.frame g2 (fun b hb e=>x.dcp b e hb)).frame f3 (fun b hb=>by simpa using (x.op b hb).2),x.op,(x.vo.frame g2 (fun b hb e=>x.dco b e hb)).frame f3 (fun b hb=>by simpa using (x.oo b hb).2),x.oo,(fun b hb e=>(g3 b hb).elim (fun h=>x.dcv b h e) (fun h=>by have:=x.vv.lt b e; omega)),(fun b hb e=>(g3 b hb).elim (fun h=>x.dcp b h e) (fun h=>by have:=x.vp.lt b e; omega)),(fun b hb e=>(g3 b hb).elim (fun h=>x.dco b h e) (fun h=>by have:=x.vo.lt b e; omega)),x.dvp,x.dvo,x.dpo⟩,b1,fun b hb=>(x.oc b hb).1⟩
theorem SM.appV (x:SM H M sb c v p o g) (hM:M≤H.size) (g1:Vec H' 9 1 x' (g.V.map sv ++ [sv s])) (g2:Fr (own v) H H') (g3:∀ b ∈ own x',b ∈ own v∨H.size≤b) :
  wr H' ⟨sb,1,none⟩ x'=some (setH H' ⟨sb,1,none⟩ x')∧SM (setH H' ⟨sb,1,none⟩ x') M sb c x' p o { g with V:=g.V ++ [s] }∧Blk H' sb 126 [c,v,p,o,.bool g.ins]∧∀ b ∈ own v,M≤b:=by
 have hsb:=x.box.lt
 have b1:=g2.blk x.box (fun e=>(x.ov _ e).2 rfl)
 have f3:Fr [sb] H' (setH H' ⟨sb,1,none⟩ x'):=Fr.set (by simp)
 have ox:∀ b ∈ own x',M≤b∧b ≠ sb:=fun b hb=>(g3 b hb).elim (x.ov b) (fun h=>⟨by omega,by omega⟩)
 refine ⟨b1.wr (by simp) _,⟨b1.set 1 x',x.low,(x.vc.frame g2 (fun b hb e=>x.dcv b hb e)).frame f3 (fun b hb=>by simpa using (x.oc b hb).2),x.oc,by rw [List.map_append]; exact g1.frame f3 (fun b hb=>by simpa using (ox b hb).2),ox,(x.vp.frame g2 (fun b hb e=>x.dvp b e hb)).frame f3 (fun b hb=>by simpa using (x.op b hb).2),x.op,(x.vo.frame g2 (fun b hb e=>x.dvo b e hb)).frame f3 (fun b hb=>by simpa using (x.oo b hb).2),x.oo,(fun b hb e=>(g3 b e).elim (fun h=>x.dcv b hb h) (fun h=>by have:=x.vc.lt b hb; omega)),x.dcp,x.dco,(fun b hb e=>(g3 b hb).elim (fun h=>x.dvp b h e) (fun h=>by have:=x.vp.lt b e; omega)),(fun b hb e=>(g3 b hb).elim (fun h=>x.dvo b h e) (fun h=>by have:=x.vo.lt b e; omega)),x.dpo⟩,b1,fun b hb=>(x.ov b hb).1⟩
theorem SM.appP (x:SM H M sb c v p o g) (hM:M≤H.size) (g1:Vec H' 9 1 x' (g.P.map sv ++ [sv s])) (g2:Fr (own p) H H') (g3:∀ b ∈ own x',b ∈ own p∨H.size≤b) :
  wr H' ⟨sb,2,none⟩ x'=some (setH H' ⟨sb,2,none⟩ x')∧SM (setH H' ⟨sb,2,none⟩ x') M sb c v x' o { g with P:=g.P ++ [s] }∧Blk H' sb 126 [c,v,p,o,.bool g.ins]∧∀ b ∈ own p,M≤b:=by
 have hsb:=x.box.lt
 have b1:=g2.blk x.box (fun e=>(x.op _ e).2 rfl)
 have f3:Fr [sb] H' (setH H' ⟨sb,2,none⟩ x'):=Fr.set (by simp)
 have ox:∀ b ∈ own x',M≤b∧b ≠ sb:=fun b hb=>(g3 b hb).elim (x.op b) (fun h=>⟨by omega,by omega⟩)
 refine ⟨b1.wr (by simp) _,⟨b1.set 2 x',x.low,(x.vc.frame g2 (fun b hb e=>x.dcp b hb e)).frame f3 (fun b hb=>by simpa using (x.oc b hb).2),x.oc,(x.vv.frame g2 (fun b hb e=>x.dvp b hb e)).frame f3 (fun b hb=>by simpa using (x.ov b hb).2),x.ov,by rw [List.map_append]; exact g1.frame f3 (fun b hb=>by simpa using (ox b hb).2),ox,(x.vo.frame g2 (fun b hb e=>x.dpo b e hb)).frame f3 (fun b hb=>by simpa using (x.oo b hb).2),x.oo,x.dcv,(fun b hb e=>(g3 b e).elim (fun h=>x.dcp b hb h) (fun h=>by have:=x.vc.lt b hb; omega)),x.dco,(fun b hb e=>(g3 b e).elim (fun h=>x.dvp b hb h) (fun h=>by have:=x.vv.lt b hb; omega)),x.dvo,(fun b hb e=>(g3 b hb).elim (fun h=>x.dpo b h e) (fun h=>by have:=x.vo.lt b e; omega))⟩,b1,fun b hb=>(x.op b hb).1⟩
theorem SM.appO (x:SM H M sb c v p o g) (hM:M≤H.size) (g1:Vec H' 9 1 x' (g.O.map sv ++ [sv s])) (g2:Fr (own o) H H') (g3:∀ b ∈ own x',b ∈ own o∨H.size≤b) :
  wr H' ⟨sb,3,none⟩ x'=some (setH H' ⟨sb,3,none⟩ x')∧SM (setH H' ⟨sb,3,none⟩ x') M sb c v p x' { g with O:=g.O ++ [s] }∧Blk H' sb 126 [c,v,p,o,.bool g.ins]∧∀ b ∈ own o,M≤b:=by
 have hsb:=x.box.lt
 have b1:=g2.blk x.box (fun e=>(x.oo _ e).2 rfl)
 have f3:Fr [sb] H' (setH H' ⟨sb,3,none⟩ x'):=Fr.set (by simp)
 have ox:∀ b ∈ own x',M≤b∧b ≠ sb:=fun b hb=>(g3 b hb).elim (x.oo b) (fun h=>⟨by omega,by omega⟩)
 refine ⟨b1.wr (by simp) _,⟨b1.set 3 x',x.low,(x.vc.frame g2 (fun b hb e=>x.dco b hb e)).frame f3 (fun b hb=>by simpa using (x.oc b hb).2),x.oc,(x.vv.frame g2 (fun b hb e=>x.dvo b hb e)).frame f3 (fun b hb=>by simpa using (x.ov b hb).2),x.ov,(x.vp.frame g2 (fun b hb e=>x.dpo b hb e)).frame f3 (fun b hb=>by simpa using (x.op b hb).2),x.op,by rw [List.map_append]; exact g1.frame f3 (fun b hb=>by simpa using (ox b hb).2),ox,x.dcv,x.dcp,(fun b hb e=>(g3 b e).elim (fun h=>x.dco b hb h) (fun h=>by have:=x.vc.lt b hb; omega)),x.dvp,(fun b hb e=>(g3 b e).elim (fun h=>x.dvo b hb h) (fun h=>by have:=x.vv.lt b hb; omega)),(fun b hb e=>(g3 b e).elim (fun h=>x.dpo b hb h) (fun h=>by have:=x.vp.lt b hb; omega))⟩,b1,fun b hb=>(x.oo b hb).1⟩
theorem SM.reset (x:SM H M sb c v p o g):wr H ⟨sb,3,none⟩ (.slice none 0 0)=some (setH H ⟨sb,3,none⟩ (.slice none 0 0))∧wr (setH H ⟨sb,3,none⟩ (.slice none 0 0)) ⟨sb,4,none⟩ (.bool false)=some (setH (setH H ⟨sb,3,none⟩ (.slice none 0 0)) ⟨sb,4,none⟩ (.bool false)) ∧
  SM (setH (setH H ⟨sb,3,none⟩ (.slice none 0 0)) ⟨sb,4,none⟩ (.bool false)) M sb c v p (.slice none 0 0) { g with O:=[],ins:=false }:=by
 have b1:=x.box.set 3 (.slice none 0 0)
 have b2:=b1.set 4 (.bool false)
 have f:Fr [sb] H (setH (setH H ⟨sb,3,none⟩ (.slice none 0 0)) ⟨sb,4,none⟩ (.bool false)):=(Fr.set (by simp)).trans (Fr.set (by simp))
 exact ⟨x.box.wr (by simp) _,b1.wr (by simp) _,⟨b2,x.low,x.vc.frame f (fun b hb=>by simpa using (x.oc b hb).2),x.oc,x.vv.frame f (fun b hb=>by simpa using (x.ov b hb).2),x.ov,x.vp.frame f (fun b hb=>by simpa using (x.op b hb).2),x.op,Vec.nil,by simp [own],x.dcv,x.dcp,by simp [own],x.dvp,by simp [own],by simp [own]⟩⟩
theorem SM.inside (x:SM H M sb c v p o g):wr H ⟨sb,4,none⟩ (.bool true)=some (setH H ⟨sb,4,none⟩ (.bool true))∧SM (setH H ⟨sb,4,none⟩ (.bool true)) M sb c v p o { g with ins:=true }:=by
 have b1:=x.box.set 4 (.bool true)
 have f:Fr [sb] H (setH H ⟨sb,4,none⟩ (.bool true)):=Fr.set (by simp)
 exact ⟨x.box.wr (by simp) _,⟨b1,x.low,x.vc.frame f (fun b hb=>by simpa using (x.oc b hb).2),x.oc,x.vv.frame f (fun b hb=>by simpa using (x.ov b hb).2),x.ov,x.vp.frame f (fun b hb=>by simpa using (x.op b hb).2),x.op,x.vo.frame f (fun b hb=>by simpa using (x.oo b hb).2),x.oo,x.dcv,x.dcp,x.dco,x.dvp,x.dvo,x.dpo⟩⟩
theorem sgChannel_spec (x:SM H M sb c v p o g) (hs:g.small 1000000):CallF Tryz.prog 77 [hp sb,sv s] H (fun r H'=>H=H'∧r=.bool (inL g.C s)) NoP:=by
 have k0:=x.box.cell 0
 simp only [gS,gZ] at k0
 unfold Sg.small at hs
 obtain ⟨a1,k1,a2,k2,a3,k3,a4,k4,e1,e2,e3,e4⟩:=x.forms
 subst e1 e2 e3 e4
 refine callF_of Tryz.func77 rfl Tryz.ntmps77 Tryz.results77 (by decide) rfl ?_
 simp (disch:=omega) only [go_sem,↓cB,dB,k0]
 refine call_to (sContains_spec (Rd.of_vec (S:=fun _=>True) x.vc (fun _ _=>trivial)) (by omega)) ?_
 rintro _ _ ⟨rfl,rfl⟩
 simp (disch:=omega) only [go_sem,↓cB,dB]
 exact fin ⟨rfl,rfl⟩
theorem sgVariable_spec (x:SM H M sb c v p o g) (hs:g.small 1000000):CallF Tryz.prog 78 [hp sb,sv s] H (fun r H'=>H=H'∧r=.bool (inL g.V s || inL g.O s)) NoP:=by
 have k1':=x.box.cell 1
 have k3':=x.box.cell 3
 simp only [gS,gZ] at k1' k3'
 unfold Sg.small at hs
 obtain ⟨a1,k1,a2,k2,a3,k3,a4,k4,e1,e2,e3,e4⟩:=x.forms
 subst e1 e2 e3 e4
 refine callF_of Tryz.func78 rfl Tryz.ntmps78 Tryz.results78 (by decide) rfl ?_
 simp (disch:=omega) only [go_sem,↓cB,dB,k1']
 refine call_to (sContains_spec (Rd.of_vec (S:=fun _=>True) x.vv (fun _ _=>trivial)) (by omega)) ?_
 rintro _ _ ⟨rfl,rfl⟩
 cases q:inL g.V s
 ·simp (disch:=omega) only [go_sem,↓cB,dB,k3']
  refine call_to (sContains_spec (Rd.of_vec (S:=fun _=>True) x.vo (fun _ _=>trivial)) (by omega)) ?_
  rintro _ _ ⟨rfl,rfl⟩
  simp (disch:=omega) only [go_sem,↓cB,dB]
  exact fin ⟨rfl,by simp⟩
 ·simp (disch:=omega) only [go_sem,↓cB,dB]
  exact fin ⟨rfl,by simp⟩
set_option maxHeartbeats 2000000 in
theorem sgWrong_spec (x:SM H M sb c v p o g) (hs:g.small 1000000) (ha:AR H S a) (hwn:a.n.words.length=wcount a.n.kind):CallF Tryz.prog 53 [hp sb,anV a] H (fun r H'=>Fr [] H H'∧r=.bool (wrongM g a.n)) NoP:=by
 obtain ⟨⟨kind,words,nums,kids,pos⟩,x1,c1,x2,c2,x3,c3,rfl⟩:=ha.open
 simp only at hwn
 obtain ⟨G,hG⟩:∃ G,G=H.push (.cells #[iv kind,.slice x1 words.length c1,.slice x2 nums.length c2,.slice x3 kids.length c3,iv pos] 47):=⟨_,rfl⟩
 have f0:Fr [] H G:=by rw [hG]; exact Fr.push
 have zG:G.size=H.size + 1:=by rw [hG]; simp
 have hb:Blk G H.size 47 [iv kind,.slice x1 words.length c1,.slice x2 nums.length c2,.slice x3 kids.length c3,iv pos]:=by rw [hG]; exact Blk.new rfl
 have k0:=hb.cell 0
 have k1:=hb.cell 1
 simp only [gS,gZ] at k0 k1
 have xG:=x.grow f0
 have hw3:=ha.w.frame (Keeps.of_fr f0 (by simp))
 simp only at hw3
 refine callF_of Tryz.func53 rfl Tryz.ntmps53 Tryz.results53 (by decide) rfl ?_
 by_cases e1:kind=1
 ·subst e1
  have hwl:words.length=1:=by rw [hwn]; rfl
  obtain ⟨wb0,wo0,wc0,ew0,-,ec0⟩:=hw3.at1 (getD_some (d:=([]:Str)) (i:=0) (by rw [hwn]; decide))
  simp only [Value.slice.injEq,true_and] at ew0
  obtain ⟨rfl,rfl⟩:=ew0
  rw [Nat.add_zero] at ec0
  generalize hs0:words.getD 0 []=s0 at *
  simp (disch:=omega) only [go_sem,↓cB,dB,anV]
  rw [← hG]
  try (simp (disch:=omega) only [go_sem,↓cB,dB,k0,k1,ec0])
  refine call_to (sgChannel_spec (s:=s0) xG hs) ?_
  rintro _ _ ⟨rfl,rfl⟩
  cases qC:inL g.C s0
  rotate_left
  ·simp (disch:=omega) only [go_sem,↓cB,dB]
   exact fin ⟨f0,by simp [wrongM,w0,w1,-List.getD_eq_getElem?_getD,hs0,qC]⟩
  simp (disch:=omega) only [go_sem,↓cB,dB]
  refine call_to (sgVariable_spec (s:=s0) xG hs) ?_
  rintro _ _ ⟨rfl,rfl⟩
  cases qV:(inL g.V s0 || inL g.O s0)
  rotate_left
  ·simp (disch:=omega) only [go_sem,↓cB,dB]
   exact fin ⟨f0,by simp [wrongM,w0,w1,-List.getD_eq_getElem?_getD,hs0,qC,qV]⟩
  have kp:=xG.box.cell 2
  simp only [gS,gZ] at kp
  obtain ⟨a1,k1',a2,k2',a3,k3',a4,k4',e1',e2',e3',e4'⟩:=xG.forms
  rw [e3'] at kp
  simp (disch:=omega) only [go_sem,↓cB,dB,kp]
  refine call_to (sContains_spec (Rd.of_vec (S:=fun _=>True) (e3' ▸ xG.vp) (fun _ _=>trivial)) (by have:=hs; unfold Sg.small at this; omega)) ?_
  rintro _ _ ⟨rfl,rfl⟩
  simp (disch:=omega) only [go_sem,↓cB,dB]
  exact fin ⟨f0,by simp [wrongM,w0,w1,-List.getD_eq_getElem?_getD,hs0,qC,qV]⟩
 by_cases e2:kind=2
 ·subst e2
  have hwl:words.length=1:=by rw [hwn]; rfl
  obtain ⟨wb0,wo0,wc0,ew0,-,ec0⟩:=hw3.at1 (getD_some (d:=([]:Str)) (i:=0) (by rw [hwn]; decide))
  simp only [Value.slice.injEq,true_and] at ew0
  obtain ⟨rfl,rfl⟩:=ew0
  rw [Nat.add_zero] at ec0
  generalize hs0:words.getD 0 []=s0 at *
  simp (disch:=omega) only [go_sem,↓cB,dB,anV]
  rw [← hG]
  try (simp (disch:=omega) only [go_sem,↓cB,dB,k0,k1,ec0])
  refine call_to (sgChannel_spec (s:=s0) xG hs) ?_
  rintro _ _ ⟨rfl,rfl⟩
  cases qC:inL g.C s0
  rotate_left
  ·simp (disch:=omega) only [go_sem,↓cB,dB]
   exact fin ⟨f0,by simp [wrongM,w0,w1,-List.getD_eq_getElem?_getD,hs0,qC]⟩
  simp (disch:=omega) only [go_sem,↓cB,dB]
  refine call_to (sgVariable_spec (s:=s0) xG hs) ?_
  rintro _ _ ⟨rfl,rfl⟩
  cases qV:(inL g.V s0 || inL g.O s0)
  rotate_left
  ·simp (disch:=omega) only [go_sem,↓cB,dB]
   exact fin ⟨f0,by simp [wrongM,w0,w1,-List.getD_eq_getElem?_getD,hs0,qC,qV]⟩
  have kp:=xG.box.cell 2
  simp only [gS,gZ] at kp
  obtain ⟨a1,k1',a2,k2',a3,k3',a4,k4',e1',e2',e3',e4'⟩:=xG.forms
  rw [e3'] at kp
  simp (disch:=omega) only [go_sem,↓cB,dB,kp]
  refine call_to (sContains_spec (Rd.of_vec (S:=fun _=>True) (e3' ▸ xG.vp) (fun _ _=>trivial)) (by have:=hs; unfold Sg.small at this; omega)) ?_
  rintro _ _ ⟨rfl,rfl⟩
  simp (disch:=omega) only [go_sem,↓cB,dB]
  exact fin ⟨f0,by simp [wrongM,w0,w1,-List.getD_eq_getElem?_getD,hs0,qC,qV]⟩
 by_cases e3:kind=3
 ·subst e3
  have hwl:words.length=1:=by rw [hwn]; rfl
  obtain ⟨wb0,wo0,wc0,ew0,-,ec0⟩:=hw3.at1 (getD_some (d:=([]:Str)) (i:=0) (by rw [hwn]; decide))
  simp only [Value.slice.injEq,true_and] at ew0
  obtain ⟨rfl,rfl⟩:=ew0
  rw [Nat.add_zero] at ec0
  generalize hs0:words.getD 0 []=s0 at *
  simp (disch:=omega) only [go_sem,↓cB,dB,anV]
  rw [← hG]
  try (simp (disch:=omega) only [go_sem,↓cB,dB,k0,k1,ec0])
  refine call_to (sgChannel_spec (s:=s0) xG hs) ?_
  rintro _ _ ⟨rfl,rfl⟩
  cases qC:inL g.C s0
  rotate_left
  ·simp (disch:=omega) only [go_sem,↓cB,dB]
   exact fin ⟨f0,by simp [wrongM,w0,w1,-List.getD_eq_getElem?_getD,hs0,qC]⟩
  simp (disch:=omega) only [go_sem,↓cB,dB]
  refine call_to (sgVariable_spec (s:=s0) xG hs) ?_
  rintro _ _ ⟨rfl,rfl⟩
  cases qV:(inL g.V s0 || inL g.O s0)
  rotate_left
  ·simp (disch:=omega) only [go_sem,↓cB,dB]
   exact fin ⟨f0,by simp [wrongM,w0,w1,-List.getD_eq_getElem?_getD,hs0,qC,qV]⟩
  have kp:=xG.box.cell 2
  simp only [gS,gZ] at kp
  obtain ⟨a1,k1',a2,k2',a3,k3',a4,k4',e1',e2',e3',e4'⟩:=xG.forms
  rw [e3'] at kp
  simp (disch:=omega) only [go_sem,↓cB,dB,kp]
  refine call_to (sContains_spec (Rd.of_vec (S:=fun _=>True) (e3' ▸ xG.vp) (fun _ _=>trivial)) (by have:=hs; unfold Sg.small at this; omega)) ?_
  rintro _ _ ⟨rfl,rfl⟩
  simp (disch:=omega) only [go_sem,↓cB,dB]
  exact fin ⟨f0,by simp [wrongM,w0,w1,-List.getD_eq_getElem?_getD,hs0,qC,qV]⟩
 by_cases e6:kind=6
 ·subst e6
  have hwl:words.length=1:=by rw [hwn]; rfl
  obtain ⟨wb0,wo0,wc0,ew0,-,ec0⟩:=hw3.at1 (getD_some (d:=([]:Str)) (i:=0) (by rw [hwn]; decide))
  simp only [Value.slice.injEq,true_and] at ew0
  obtain ⟨rfl,rfl⟩:=ew0
  rw [Nat.add_zero] at ec0
  generalize hs0:words.getD 0 []=s0 at *
  simp (disch:=omega) only [go_sem,↓cB,dB,anV]
  rw [← hG]
  try (simp (disch:=omega) only [go_sem,↓cB,dB,k0,k1,ec0])
  refine call_to (sgVariable_spec (s:=s0) xG hs) ?_
  rintro _ _ ⟨rfl,rfl⟩
  simp (disch:=omega) only [go_sem,↓cB,dB]
  exact fin ⟨f0,by simp [wrongM,w0,w1,-List.getD_eq_getElem?_getD,hs0]⟩
 by_cases e18:kind=18
 ·subst e18
  have hwl:words.length=1:=by rw [hwn]; rfl
  obtain ⟨wb0,wo0,wc0,ew0,-,ec0⟩:=hw3.at1 (getD_some (d:=([]:Str)) (i:=0) (by rw [hwn]; decide))
  simp only [Value.slice.injEq,true_and] at ew0
  obtain ⟨rfl,rfl⟩:=ew0
  rw [Nat.add_zero] at ec0
  generalize hs0:words.getD 0 []=s0 at *
  simp (disch:=omega) only [go_sem,↓cB,dB,anV]
  rw [← hG]
  try (simp (disch:=omega) only [go_sem,↓cB,dB,k0,k1,ec0])
  refine call_to (sgVariable_spec (s:=s0) xG hs) ?_
  rintro _ _ ⟨rfl,rfl⟩
  simp (disch:=omega) only [go_sem,↓cB,dB]
  exact fin ⟨f0,by simp [wrongM,w0,w1,-List.getD_eq_getElem?_getD,hs0]⟩
 by_cases e7:kind=7
 ·subst e7
  have hwl:words.length=1:=by rw [hwn]; rfl
  obtain ⟨wb0,wo0,wc0,ew0,-,ec0⟩:=hw3.at1 (getD_some (d:=([]:Str)) (i:=0) (by rw [hwn]; decide))
  simp only [Value.slice.injEq,true_and] at ew0
  obtain ⟨rfl,rfl⟩:=ew0
  rw [Nat.add_zero] at ec0
  generalize hs0:words.getD 0 []=s0 at *
  simp (disch:=omega) only [go_sem,↓cB,dB,anV]
  rw [← hG]
  try (simp (disch:=omega) only [go_sem,↓cB,dB,k0,k1,ec0])
  refine call_to (sgChannel_spec (s:=s0) xG hs) ?_
  rintro _ _ ⟨rfl,rfl⟩
  simp (disch:=omega) only [go_sem,↓cB,dB]
  exact fin ⟨f0,by simp [wrongM,w0,w1,-List.getD_eq_getElem?_getD,hs0]⟩
 by_cases e19:kind=19
 ·subst e19
  have hwl:words.length=1:=by rw [hwn]; rfl
  obtain ⟨wb0,wo0,wc0,ew0,-,ec0⟩:=hw3.at1 (getD_some (d:=([]:Str)) (i:=0) (by rw [hwn]; decide))
  simp only [Value.slice.injEq,true_and] at ew0
  obtain ⟨rfl,rfl⟩:=ew0
  rw [Nat.add_zero] at ec0
  generalize hs0:words.getD 0 []=s0 at *
  simp (disch:=omega) only [go_sem,↓cB,dB,anV]
  rw [← hG]
  try (simp (disch:=omega) only [go_sem,↓cB,dB,k0,k1,ec0])
  refine call_to (sgChannel_spec (s:=s0) xG hs) ?_
  rintro _ _ ⟨rfl,rfl⟩
  simp (disch:=omega) only [go_sem,↓cB,dB]
  exact fin ⟨f0,by simp [wrongM,w0,w1,-List.getD_eq_getElem?_getD,hs0]⟩
 by_cases e8:kind=8
 ·subst e8
  have hwl:words.length=2:=by rw [hwn]; rfl
  obtain ⟨wb0,wo0,wc0,ew0,-,ec0⟩:=hw3.at1 (getD_some (d:=([]:Str)) (i:=0) (by rw [hwn]; decide))
  simp only [Value.slice.injEq,true_and] at ew0
  obtain ⟨rfl,rfl⟩:=ew0
  rw [Nat.add_zero] at ec0
  obtain ⟨wb1,wo1,wc1,ew1,-,ec1⟩:=hw3.at1 (getD_some (d:=([]:Str)) (i:=1) (by rw [hwn]; decide))
  simp only [Value.slice.injEq,Option.some.injEq,Addr.mk.injEq,and_true,true_and] at ew1
  obtain ⟨⟨rfl,rfl⟩,rfl⟩:=ew1
  generalize hs0:words.getD 0 []=s0 at *
  generalize hs1:words.getD 1 []=s1 at *
  simp (disch:=omega) only [go_sem,↓cB,dB,anV]
  rw [← hG]
  try (simp (disch:=omega) only [go_sem,↓cB,dB,k0,k1,ec0])
  refine call_to (sgChannel_spec (s:=s0) xG hs) ?_
  rintro _ _ ⟨rfl,rfl⟩
  cases qC:inL g.C s0
  ·simp (disch:=omega) only [go_sem,↓cB,dB]
   exact fin ⟨f0,by simp [wrongM,w0,w1,-List.getD_eq_getElem?_getD,hs0,qC,hs1]⟩
  simp (disch:=omega) only [go_sem,↓cB,dB,k1,ec1]
  refine call_to (sgVariable_spec (s:=s1) xG hs) ?_
  rintro _ _ ⟨rfl,rfl⟩
  simp (disch:=omega) only [go_sem,↓cB,dB]
  exact fin ⟨f0,by simp [wrongM,w0,w1,-List.getD_eq_getElem?_getD,hs0,qC,hs1]⟩
 simp (disch:=omega) only [go_sem,↓cB,dB,anV]
 refine fin ⟨Fr.push,?_⟩
 unfold wrongM
 rw [if_neg (by simp only; omega),if_neg (by simp only; omega),if_neg (by simp only; omega),if_neg (by simp only; omega)]
def DecQ (H:Heap) (M sb:Nat) (g:Sg) (H':Heap):Prop:=∃ c v p o,SM H' M sb c v p o g∧∃ F,Fr F H H'∧∀ b ∈ F,M≤b
set_option maxHeartbeats 2000000 in
theorem sgDeclare_spec (x:SM H M sb c v p o g) (hM:M≤H.size) (hs:g.small 1000000) (ha:AR H S a) (hwn:a.n.words.length=wcount a.n.kind):CallF Tryz.prog 80 [hp sb,anV a] H (fun r H'=>DecQ H M sb (declM g a.n) H') NoP:=by
 obtain ⟨⟨kind,words,nums,kids,pos⟩,x1,c1,x2,c2,x3,c3,rfl⟩:=ha.open
 simp only at hwn
 obtain ⟨G,hG⟩:∃ G,G=H.push (.cells #[iv kind,.slice x1 words.length c1,.slice x2 nums.length c2,.slice x3 kids.length c3,iv pos] 47):=⟨_,rfl⟩
 have f0:Fr [] H G:=by rw [hG]; exact Fr.push
 have zG:G.size=H.size + 1:=by rw [hG]; simp
 have hb:Blk G H.size 47 [iv kind,.slice x1 words.length c1,.slice x2 nums.length c2,.slice x3 kids.length c3,iv pos]:=by rw [hG]; exact Blk.new rfl
 have k0:=hb.cell 0
 have k1:=hb.cell 1
 simp only [gS,gZ] at k0 k1
 have xG:=x.grow f0
 have hw3:=ha.w.frame (Keeps.of_fr f0 (by simp))
 simp only at hw3
 refine callF_of Tryz.func80 rfl Tryz.ntmps80 Tryz.results80 (by decide) rfl ?_
 by_cases e1:kind=1
 ·subst e1
  have hwl:words.length=1:=by rw [hwn]; rfl
  obtain ⟨wb0,wo0,wc0,ew0,-,ec0⟩:=hw3.at1 (getD_some (d:=([]:Str)) (i:=0) (by rw [hwn]; decide))
  simp only [Value.slice.injEq,true_and] at ew0
  obtain ⟨rfl,rfl⟩:=ew0
  rw [Nat.add_zero] at ec0
  generalize hs0:words.getD 0 []=s0 at *
  simp (disch:=omega) only [go_sem,↓cB,dB,anV]
  rw [← hG]
  try (simp (disch:=omega) only [go_sem,↓cB,dB,k0,k1,ec0])
  obtain ⟨a1,k1',a2,k2',a3,k3',a4,k4',e1',e2',e3',e4'⟩:=xG.forms
  subst e1' e2' e3' e4'
  refine draw1 (lk [(0,false),(1,false),(2,false),(3,false),(4,false),(5,true),(6,true),(7,true),(8,true)] (.act 9 (.act 10 (lk [(11,true),(12,true)] (.actd 13 .fin)) .non) .non)) T.mixed (hlist sb 0 _) (heldOK_blk xG.box) ?_
  simp (disch:=omega) only [go_sem,↓cB,dB,k1,ec0]
  refine held_by (heldOK_blk (xG.grow Fr.push).box) ?_
  simp (disch:=omega) only [go_sem,↓cB,dB,k1,ec0]
  refine app_lit1 T.el41 rfl xG.vc rfl (by simp; unfold Sg.small at hs; omega) ?_
  intro v' HZ g1 g2 g3 g4
  refine Hush.out ?_
  obtain ⟨aa,cc,hv'⟩:=g4
  obtain ⟨w5,x5,bx,o5⟩:=xG.appC (by omega) g1 g2 g3
  subst hv'
  refine ⟨?_⟩
  first | refine held_by (heldOK_blk bx) ?_ | skip
  simp (disch:=omega) only [go_sem,↓cB,dB,w5]
  exact fin ⟨_,_,_,_,by simpa [declM,w0,-List.getD_eq_getElem?_getD,hs0] using x5,_,(f0.cat g2).cat (Fr.set (a:=⟨sb,0,none⟩) (F:=[sb]) (by simp)),by intro b hb; simp only [List.nil_append,List.mem_append,List.mem_singleton] at hb; rcases hb with hb | rfl; exact o5 b hb; exact xG.low⟩
 by_cases e3:kind=3
 ·subst e3
  have hwl:words.length=1:=by rw [hwn]; rfl
  obtain ⟨wb0,wo0,wc0,ew0,-,ec0⟩:=hw3.at1 (getD_some (d:=([]:Str)) (i:=0) (by rw [hwn]; decide))
  simp only [Value.slice.injEq,true_and] at ew0
  obtain ⟨rfl,rfl⟩:=ew0
  rw [Nat.add_zero] at ec0
  generalize hs0:words.getD 0 []=s0 at *
  simp (disch:=omega) only [go_sem,↓cB,dB,anV]
  rw [← hG]
  try (simp (disch:=omega) only [go_sem,↓cB,dB,k0,k1,ec0])
  obtain ⟨a1,k1',a2,k2',a3,k3',a4,k4',e1',e2',e3',e4'⟩:=xG.forms
  subst e1' e2' e3' e4'
  refine draw1 (lk [(0,false),(1,false),(2,false),(3,false),(4,false),(5,true),(6,true),(7,true),(8,true)] (.act 9 (.act 10 (lk [(11,true),(12,true)] (.actd 13 .fin)) .non) .non)) T.mixed (hlist sb 0 _) (heldOK_blk xG.box) ?_
  simp (disch:=omega) only [go_sem,↓cB,dB,k1,ec0]
  refine held_by (heldOK_blk (xG.grow Fr.push).box) ?_
  simp (disch:=omega) only [go_sem,↓cB,dB,k1,ec0]
  refine app_lit1 T.el41 rfl xG.vp rfl (by simp; unfold Sg.small at hs; omega) ?_
  intro v' HZ g1 g2 g3 g4
  refine Hush.out ?_
  obtain ⟨aa,cc,hv'⟩:=g4
  obtain ⟨w5,x5,bx,o5⟩:=xG.appP (by omega) g1 g2 g3
  subst hv'
  refine ⟨?_⟩
  first | refine held_by (heldOK_blk bx) ?_ | skip
  obtain ⟨w6,x6⟩:=x5.inside
  simp (disch:=omega) only [go_sem,↓cB,dB,w5,w6]
  exact fin ⟨_,_,_,_,by simpa [declM,w0,-List.getD_eq_getElem?_getD,hs0] using x6,_,((f0.cat g2).cat (Fr.set (a:=⟨sb,2,none⟩) (F:=[sb]) (by simp))).cat (Fr.set (a:=⟨sb,4,none⟩) (F:=[sb]) (by simp)),by intro b hb; simp only [List.nil_append,List.mem_append,List.mem_singleton] at hb; rcases hb with (hb | rfl) | rfl; exact o5 b hb; exact xG.low; exact xG.low⟩
 by_cases e2:kind=2
 ·subst e2
  have hwl:words.length=1:=by rw [hwn]; rfl
  obtain ⟨wb0,wo0,wc0,ew0,-,ec0⟩:=hw3.at1 (getD_some (d:=([]:Str)) (i:=0) (by rw [hwn]; decide))
  simp only [Value.slice.injEq,true_and] at ew0
  obtain ⟨rfl,rfl⟩:=ew0
  rw [Nat.add_zero] at ec0
  generalize hs0:words.getD 0 []=s0 at *
  have ki:=xG.box.cell 4
  simp only [gS,gZ] at ki
  cases hi:g.ins
  ·rw [hi] at ki
   simp (disch:=omega) only [go_sem,↓cB,dB,anV]
   rw [← hG]
   try (simp (disch:=omega) only [go_sem,↓cB,dB,k0,k1,ec0,ki])
   obtain ⟨a1,k1',a2,k2',a3,k3',a4,k4',e1',e2',e3',e4'⟩:=xG.forms
   subst e1' e2' e3' e4'
   refine draw1 (lk [(0,false),(1,false),(2,false),(3,false),(4,false),(5,true),(6,true),(7,true),(8,true)] (.act 9 (.act 10 (lk [(11,true),(12,true)] (.actd 13 .fin)) .non) .non)) T.mixed (hlist sb 0 _) (heldOK_blk xG.box) ?_
   simp (disch:=omega) only [go_sem,↓cB,dB,k1,ec0]
   refine held_by (heldOK_blk (xG.grow Fr.push).box) ?_
   simp (disch:=omega) only [go_sem,↓cB,dB,k1,ec0]
   refine app_lit1 T.el41 rfl xG.vv rfl (by simp; unfold Sg.small at hs; omega) ?_
   intro v' HZ g1 g2 g3 g4
   refine Hush.out ?_
   obtain ⟨aa,cc,hv'⟩:=g4
   obtain ⟨w5,x5,bx,o5⟩:=xG.appV (by omega) g1 g2 g3
   subst hv'
   refine ⟨?_⟩
   first | refine held_by (heldOK_blk bx) ?_ | skip
   simp (disch:=omega) only [go_sem,↓cB,dB,w5]
   exact fin ⟨_,_,_,_,by simpa [declM,w0,-List.getD_eq_getElem?_getD,hs0,hi] using x5,_,(f0.cat g2).cat (Fr.set (a:=⟨sb,1,none⟩) (F:=[sb]) (by simp)),by intro b hb; simp only [List.nil_append,List.mem_append,List.mem_singleton] at hb; rcases hb with hb | rfl; exact o5 b hb; exact xG.low⟩
  ·rw [hi] at ki
   simp (disch:=omega) only [go_sem,↓cB,dB,anV]
   rw [← hG]
   try (simp (disch:=omega) only [go_sem,↓cB,dB,k0,k1,ec0,ki])
   obtain ⟨a1,k1',a2,k2',a3,k3',a4,k4',e1',e2',e3',e4'⟩:=xG.forms
   subst e1' e2' e3' e4'
   refine draw1 (lk [(0,false),(1,false),(2,false),(3,false),(4,false),(5,true),(6,true),(7,true),(8,true)] (.act 9 (.act 10 (lk [(11,true),(12,true)] (.actd 13 .fin)) .non) .non)) T.mixed (hlist sb 0 _) (heldOK_blk xG.box) ?_
   simp (disch:=omega) only [go_sem,↓cB,dB,k1,ec0]
   refine held_by (heldOK_blk (xG.grow Fr.push).box) ?_
   simp (disch:=omega) only [go_sem,↓cB,dB,k1,ec0]
   refine app_lit1 T.el41 rfl xG.vo rfl (by simp; unfold Sg.small at hs; omega) ?_
   intro v' HZ g1 g2 g3 g4
   refine Hush.out ?_
   obtain ⟨aa,cc,hv'⟩:=g4
   obtain ⟨w5,x5,bx,o5⟩:=xG.appO (by omega) g1 g2 g3
   subst hv'
   refine ⟨?_⟩
   first | refine held_by (heldOK_blk bx) ?_ | skip
   simp (disch:=omega) only [go_sem,↓cB,dB,w5]
   exact fin ⟨_,_,_,_,by simpa [declM,w0,-List.getD_eq_getElem?_getD,hs0,hi] using x5,_,(f0.cat g2).cat (Fr.set (a:=⟨sb,3,none⟩) (F:=[sb]) (by simp)),by intro b hb; simp only [List.nil_append,List.mem_append,List.mem_singleton] at hb; rcases hb with hb | rfl; exact o5 b hb; exact xG.low⟩
 simp (disch:=omega) only [go_sem,↓cB,dB,anV]
 rw [← hG]
 refine fin ⟨c,v,p,o,?_,[],f0,by simp⟩
 unfold declM
 rw [if_neg (by simp only; omega),if_neg (by simp only; omega),if_neg (by simp only; omega)]
 exact xG
end
end Go.Proofs.YtmihefbdghjeoaaGreat
namespace Go.Proofs.YtmihefbdghjeoaaGreat
open Go.HL
set_option maxRecDepth 10000
def hitM (ks:List Int) (i:Nat):Bool:=match ks with
 | k :: _=>decide (k=i)
 | []=>false
def resetM (g:Sg):Sg:={ g with O:=[],ins:=false }
def runL (stop:Nat→Sg→Bool):List Nd→Nat→List Int→Sg→Option (Nat × Sg)
 | [],_,_,_=>none
 | n :: r,i,ks,g =>
  if stop i (if hitM ks i then resetM g else g) then some (i,if hitM ks i then resetM g else g)
  else runL stop r (i + 1) (if hitM ks i then ks.tail else ks) (declM (if hitM ks i then resetM g else g) n)
def sg0:Sg:=⟨[],[],[],[],false⟩
theorem reset_small {g:Sg} {m:Nat} (h:g.small m):(resetM g).small m:=by unfold Sg.small resetM at *; simp; omega
theorem small_mono {g:Sg} {m k:Nat} (h:g.small m) (hk:m≤k):g.small k:=by unfold Sg.small at *; omega
def RunQ (Post:Nat→Sg→Heap→Prop) (H H':Heap):Option (Nat × Sg)→Prop
 | none=>Fr [] H H'
 | some x=>Post x.1 x.2 H'
section
variable {H:Heap} {S:Nat→Prop} {tv:Value} {l:List Nd}
set_option maxHeartbeats 4000000 in
theorem scRun_spec (h:NL H S tv l) (hW:WOk l) (h8:l.length≤1000000) (h0:0 < l.length) {gf:Nat} {caps:List Value} {stop:Nat→Sg→Bool} {Post:Nat→Sg→Heap→Prop}
  (hv:∀ {i g H' M sb c v p o},i < l.length→Fr [] H H'→SM H' M sb c v p o g→H.size≤M→g.small 1000000→CallF Tryz.prog gf (iv i :: hp sb :: caps) H' (fun r H''=>r=.bool (!stop i g)∧(stop i g=false→Fr [] H' H'')∧(stop i g=true→Post i g H'')) NoP) :
  CallF Tryz.prog 54 [.agg #[tv,.func (.func gf) #[] caps.toArray]] H (fun r H'=>RunQ Post H H' (runL stop l 0 (nodeAt l 0).kids sg0)) NoP:=by
 replace h:NL H (fun b=>b < H.size) tv l:=h.mono (fun b _ hb=>hb)
 have hg0:=getD_some (d:=nd0') h0
 obtain ⟨b,o,cap,a,q1,q2,ar,-,-,-,-,k3,-⟩:=h.row hg0
 obtain ⟨nn,x1,c1,x2,c2,x3,c3,rfl⟩:=ar.open
 simp only at q2
 rw [Nat.zero_mul,Nat.add_zero] at k3
 simp only at k3
 have hnd:nodeAt l 0=nn:=by unfold nodeAt; rw [q2]
 rw [hnd]
 have hkk:=ar.k
 have hkc:=ar.kc _ _ _ rfl
 simp only at hkk
 subst q1
 obtain ⟨A0,hA0⟩:∃ A,A=H.push (.cells #[.slice (some ⟨b,o,none⟩) l.length cap,.func (.func gf) #[] caps.toArray] 107):=⟨_,rfl⟩
 obtain ⟨A1,hA1⟩:∃ A,A=A0.push (.cells #[.slice none 0 0,.slice none 0 0,.slice none 0 0,.slice none 0 0,.bool false] 126):=⟨_,rfl⟩
 have z0:A0.size=H.size + 1:=by rw [hA0]; simp
 have z1:A1.size=A0.size + 1:=by rw [hA1]; simp
 have g0:Fr [] H A0:=by rw [hA0]; exact Fr.push
 have g1:Fr [] A0 A1:=by rw [hA1]; exact Fr.push
 have bw:Blk A1 H.size 107 [.slice (some ⟨b,o,none⟩) l.length cap,.func (.func gf) #[] caps.toArray]:=g1.blk (by rw [hA0]; exact Blk.new rfl) (by simp)
 have bs:Blk A1 A0.size 126 [.slice none 0 0,.slice none 0 0,.slice none 0 0,.slice none 0 0,.bool false]:=by rw [hA1]; exact Blk.new rfl
 have sm0:SM A1 A0.size A0.size (.slice none 0 0) (.slice none 0 0) (.slice none 0 0) (.slice none 0 0) sg0 :=
  ⟨bs,Nat.le_refl _,Vec.nil,by simp [own],Vec.nil,by simp [own],Vec.nil,by simp [own],Vec.nil,by simp [own],by simp [own],by simp [own],by simp [own],by simp [own],by simp [own],by simp [own]⟩
 have w0':=bw.cell 0
 have k3':=(g0.trans g1).cell' k3 (by simp)
 simp only [gS,gZ] at w0'
 generalize hR:runL stop l 0 nn.kids sg0=R
 refine callF_of Tryz.func54 rfl Tryz.ntmps54 Tryz.results54 (by decide) rfl ?_
 simp (disch:=omega) only [go_sem,↓cB,dB]
 rw [← hA0,← hA1]
 simp (disch:=omega) only [go_sem,↓cB,dB,w0',k3']
 refine loop_by (fun k ρ H2=>∃ (i:Nat) (ks:List Int) (g:Sg) (aw:Option Addr) (cw:Nat) (c v p ov:Value),k=l.length - i∧i≤l.length∧runL stop (l.drop i) i ks g=R∧ks.length≤cw∧Rd H (fun b=>b < H.size) 1 (.slice aw ks.length cw) (ks.map iv)∧Fr [] H H2 ∧
   Blk H2 H.size 107 [.slice (some ⟨b,o,none⟩) l.length cap,.func (.func gf) #[] caps.toArray]∧SM H2 A0.size A0.size c v p ov g∧g.small i∧A0.size≤H2.size ∧
   (ρ.get 1=hp H.size∧ρ.get 2=hp A0.size∧ρ.get 3=.slice aw ks.length cw∧ρ.get 14=.slice (some ⟨b,o,none⟩) l.length cap∧ρ.get 15=iv l.length∧ρ.get 16=iv i∧ρ.ds = [])) (k:=l.length) ?_ ?_
 ·exact ⟨0,nn.kids,sg0,x3,c3,_,_,_,_,rfl,by omega,hR,hkc,hkk,g0.trans g1,bw,sm0,by simp [Sg.small,sg0],by omega,by simp (disch:=omega) only [go_sem,↓cB,dB]⟩
 ·clear sm0 bs bw hR
  rintro k ρ H2 ⟨i,ks,g,aw,cw,c,v,p,ov,rfl,hi,hrun,hcw,hrd,fr2,bw,sm,hsm,hsz,r1,r2,r3,r14,r15,r16,rd⟩
  have hxi:(i:Int) + 1=((i + 1:Nat):Int):=by omega
  by_cases hin:i < l.length
  rotate_left
  ·rw [List.drop_eq_nil_of_le (by omega)] at hrun
   have hrun':none=R:=hrun
   simp (disch:=omega) only [go_sem,↓cB,dB,r1,r2,r3,r14,r15,r16,rd]
   refine fin ?_
   rw [← hrun']
   exact fr2
  have hgi:=getD_some (d:=nd0') hin
  have hd:l.drop i=l.getD i nd0' :: l.drop (i + 1):=by
   rw [List.drop_eq_getElem_cons hin]; congr 1; simp [hin]
  rw [hd] at hrun
  obtain ⟨b',o',cap',a',q1,q2',ar',ld,-⟩:=(h.grow fr2).row hgi
  simp only [Value.slice.injEq,Option.some.injEq,Addr.mk.injEq,and_true,true_and] at q1
  obtain ⟨⟨rfl,rfl⟩,rfl⟩:=q1
  have hwn:=hW i _ hgi
  rw [← q2'] at ld hwn hrun
  obtain ⟨G,hG⟩:∃ G,G=H2.push (.cells #[iv a'.n.kind,a'.wv,a'.nv,a'.kv,iv a'.n.pos] 47):=⟨_,rfl⟩
  have f3:Fr [] H2 G:=by rw [hG]; exact Fr.push
  have zG:G.size=H2.size + 1:=by rw [hG]; simp
  have bn:Blk G H2.size 47 [iv a'.n.kind,a'.wv,a'.nv,a'.kv,iv a'.n.pos]:=by rw [hG]; exact Blk.new rfl
  have smG:=sm.grow f3
  have bwG:=f3.blk bw (by simp)
  obtain ⟨nn',y1,d1,y2,d2,y3,d3,rfl⟩:=ar'.open
  simp only at ld hwn hrun bn hG
  have hrun':(if stop i (if hitM ks i then resetM g else g) then some (i,if hitM ks i then resetM g else g)
   else runL stop (l.drop (i + 1)) (i + 1) (if hitM ks i then ks.tail else ks) (declM (if hitM ks i then resetM g else g) nn'))=R:=hrun
  clear hrun
  cases hh:hitM ks i
  ·rw [hh] at hrun'
   simp only [Bool.false_eq_true,if_false] at hrun'
   have go1:∀ {x:Prop},True:=trivial
   have hsm':=hsm
   obtain ⟨g',hg'⟩:∃ g',g'=g:=⟨_,rfl⟩
   rw [← hg'] at hrun' hsm' smG
   have frX:=fr2.trans f3
   have smX:=smG
   have bwX:=bwG
   have bnX:=bn
   have frK:Fr [] H2 G:=f3
   cases ks with
   | nil =>
    simp only [List.length_nil] at r3
    have wc1:=bwX.cell 1
    simp only [gS,gZ] at wc1
    simp (disch:=omega) only [go_sem,↓cB,dB,r1,r2,r3,r14,r15,r16,rd,ld]
    rw [← hG]
    simp (disch:=omega) only [go_sem,↓cB,dB,r1,r2,r3,r14,r15,r16,rd,wc1]
    refine call_to (hv hin frX smX (by omega) (small_mono hsm' (by omega))) ?_
    intro v5 H5 hvv
    refine Hush.out ?_
    obtain ⟨rfl,hv1,hv2⟩:=hvv
    cases hst:stop i g'
    rotate_left
    ·rw [hst] at hrun'
     simp only [if_true] at hrun'
     refine ⟨?_⟩
     simp (disch:=omega) only [go_sem,↓cB,dB,r1,r2,r3,r14,r15,r16,rd]
     refine fin ?_
     rw [← hrun']
     exact hv2 hst
    rw [hst] at hrun'
    simp only [Bool.false_eq_true,if_false] at hrun'
    have f5:=hv1 hst
    have smY:=smX.grow f5
    have ldn:=(f5.blk bnX (by simp)).cells0
    simp only [List.length_cons,List.length_nil] at ldn
    have z5:=f5.size
    refine ⟨?_⟩
    simp (disch:=omega) only [go_sem,↓cB,dB,r1,r2,r3,r14,r15,r16,rd,ldn]
    refine call_to (sgDeclare_spec (a:=⟨nn',.slice y1 nn'.words.length d1,.slice y2 nn'.nums.length d2,.slice y3 nn'.kids.length d3⟩) smY (by omega) (small_mono hsm' (by omega)) (ar'.frame (Keeps.of_fr (frK.trans f5) (by simp))) hwn) ?_
    intro v6 H6 hvv
    refine Hush.out ?_
    obtain ⟨c6,v6',p6,o6,sm6,F,f6,hF⟩:=hvv
    have fr6:Fr [] H H6:=Fr.more (frX.trans f5) f6 (fun b hb=>.inr (by have:=hF b hb; omega))
    have bw6:=f6.blk (f5.blk bwX (by simp)) (fun e=>by have:=hF _ e; omega)
    have z6:=f6.size
    refine ⟨?_⟩
    simp (disch:=omega) only [go_sem,↓cB,dB,r1,r2,r3,r14,r15,r16,rd]
    exact fin ⟨l.length - (i + 1),by omega,i + 1,[],_,aw,cw,c6,v6',p6,o6,rfl,by omega,hrun',hcw,hrd,fr6,bw6,sm6,decl_small hsm',by omega,by (simp (disch:=omega) only [go_sem,↓cB,dB,r1,r2,r3,r14,r15,r16,rd,hxi]) <;> simp⟩
   | cons k0 ks =>
    have hne:¬ k0=(i:Int):=by simpa [hitM] using hh
    obtain ⟨bk,ok,ck,e1,-,e2⟩:=(hrd.frame (Keeps.of_fr (fr2.trans f3) (by simp))).at1 (i:=0) (x:=k0) rfl
    simp only [Value.slice.injEq,true_and] at e1
    obtain ⟨rfl,rfl⟩:=e1
    rw [Nat.add_zero] at e2
    simp only [List.length_cons] at r3
    have wc1:=bwX.cell 1
    simp only [gS,gZ] at wc1
    simp (disch:=omega) only [go_sem,↓cB,dB,r1,r2,r3,r14,r15,r16,rd,ld]
    rw [← hG]
    simp (disch:=omega) only [go_sem,↓cB,dB,r1,r2,r3,r14,r15,r16,rd,wc1,e2]
    refine call_to (hv hin frX smX (by omega) (small_mono hsm' (by omega))) ?_
    intro v5 H5 hvv
    refine Hush.out ?_
    obtain ⟨rfl,hv1,hv2⟩:=hvv
    cases hst:stop i g'
    rotate_left
    ·rw [hst] at hrun'
     simp only [if_true] at hrun'
     refine ⟨?_⟩
     simp (disch:=omega) only [go_sem,↓cB,dB,r1,r2,r3,r14,r15,r16,rd]
     refine fin ?_
     rw [← hrun']
     exact hv2 hst
    rw [hst] at hrun'
    simp only [Bool.false_eq_true,if_false] at hrun'
    have f5:=hv1 hst
    have smY:=smX.grow f5
    have ldn:=(f5.blk bnX (by simp)).cells0
    simp only [List.length_cons,List.length_nil] at ldn
    have z5:=f5.size
    refine ⟨?_⟩
    simp (disch:=omega) only [go_sem,↓cB,dB,r1,r2,r3,r14,r15,r16,rd,ldn]
    refine call_to (sgDeclare_spec (a:=⟨nn',.slice y1 nn'.words.length d1,.slice y2 nn'.nums.length d2,.slice y3 nn'.kids.length d3⟩) smY (by omega) (small_mono hsm' (by omega)) (ar'.frame (Keeps.of_fr (frK.trans f5) (by simp))) hwn) ?_
    intro v6 H6 hvv
    refine Hush.out ?_
    obtain ⟨c6,v6',p6,o6,sm6,F,f6,hF⟩:=hvv
    have fr6:Fr [] H H6:=Fr.more (frX.trans f5) f6 (fun b hb=>.inr (by have:=hF b hb; omega))
    have bw6:=f6.blk (f5.blk bwX (by simp)) (fun e=>by have:=hF _ e; omega)
    have z6:=f6.size
    refine ⟨?_⟩
    simp (disch:=omega) only [go_sem,↓cB,dB,r1,r2,r3,r14,r15,r16,rd]
    exact fin ⟨l.length - (i + 1),by omega,i + 1,k0 :: ks,_,_,_,c6,v6',p6,o6,rfl,by omega,hrun',hcw,hrd,fr6,bw6,sm6,decl_small hsm',by omega,by (simp (disch:=omega) only [go_sem,↓cB,dB,r1,r2,r3,r14,r15,r16,rd,hxi]) <;> simp⟩
  ·rw [hh] at hrun'
   simp only [if_true] at hrun'
   cases ks with
   | nil=>simp [hitM] at hh
   | cons k0 ks =>
    have hne:k0=(i:Int):=by simpa [hitM] using hh
    obtain ⟨bk,ok,ck,e1,-,e2⟩:=(hrd.frame (Keeps.of_fr (fr2.trans f3) (by simp))).at1 (i:=0) (x:=k0) rfl
    simp only [Value.slice.injEq,true_and] at e1
    obtain ⟨rfl,rfl⟩:=e1
    rw [Nat.add_zero] at e2
    simp only [List.length_cons] at r3 hcw hrd
    have htl:=Rd.tail1 (x:=iv k0) (xs:=ks.map iv) hrd hcw
    obtain ⟨u1,u2,smX⟩:=smG.reset
    have hsm':=reset_small hsm
    obtain ⟨g',hg'⟩:∃ g',g'=resetM g:=⟨_,rfl⟩
    have smX:SM _ A0.size A0.size c v p (.slice none 0 0) (resetM g):=smX
    rw [← hg'] at hrun' hsm' smX
    generalize hHX:setH (setH G ⟨A0.size,3,none⟩ (.slice none 0 0)) ⟨A0.size,4,none⟩ (.bool false)=HX at u2 smX
    have fX:Fr [A0.size] G HX:=by rw [← hHX]; exact (Fr.set (by simp)).trans (Fr.set (by simp))
    have frX:Fr [] H HX:=Fr.more (fr2.trans f3) fX (by simp; omega)
    have zX:=fX.size
    have bwX:=fX.blk bwG (by simp; omega)
    have hsz2:=smG.box.lt
    have hA2:A0.size < H2.size:=sm.box.lt
    have bnX:=fX.blk bn (by simp; omega)
    have frK:Fr [A0.size] H2 HX:=f3.nil.trans fX
    have arX:=(ar'.frame (Keeps.of_fr frK (by intro b hb; simp; omega)))
    subst hne
    have wc1:=bwX.cell 1
    simp only [gS,gZ] at wc1
    simp (disch:=omega) only [go_sem,↓cB,dB,r1,r2,r3,r14,r15,r16,rd,ld]
    rw [← hG]
    simp (disch:=omega) only [go_sem,↓cB,dB,r1,r2,r3,r14,r15,r16,rd,e2,u1,u2,wc1]
    refine call_to (hv hin frX smX (by omega) (small_mono hsm' (by omega))) ?_
    intro v5 H5 hvv
    refine Hush.out ?_
    obtain ⟨rfl,hv1,hv2⟩:=hvv
    cases hst:stop i g'
    rotate_left
    ·rw [hst] at hrun'
     simp only [if_true] at hrun'
     refine ⟨?_⟩
     simp (disch:=omega) only [go_sem,↓cB,dB,r1,r2,r3,r14,r15,r16,rd]
     refine fin ?_
     rw [← hrun']
     exact hv2 hst
    rw [hst] at hrun'
    simp only [Bool.false_eq_true,if_false] at hrun'
    have f5:=hv1 hst
    have smY:=smX.grow f5
    have ldn:=(f5.blk bnX (by simp)).cells0
    simp only [List.length_cons,List.length_nil] at ldn
    have z5:=f5.size
    refine ⟨?_⟩
    simp (disch:=omega) only [go_sem,↓cB,dB,r1,r2,r3,r14,r15,r16,rd,ldn]
    refine call_to (sgDeclare_spec (a:=⟨nn',.slice y1 nn'.words.length d1,.slice y2 nn'.nums.length d2,.slice y3 nn'.kids.length d3⟩) smY (by omega) (small_mono hsm' (by omega)) (arX.frame (Keeps.of_fr f5 (by simp))) hwn) ?_
    intro v6 H6 hvv
    refine Hush.out ?_
    obtain ⟨c6,v6',p6,o6,sm6,F,f6,hF⟩:=hvv
    have fr6:Fr [] H H6:=Fr.more (frX.trans f5) f6 (fun b hb=>.inr (by have:=hF b hb; omega))
    have bw6:=f6.blk (f5.blk bwX (by simp)) (fun e=>by have:=hF _ e; omega)
    have z6:=f6.size
    refine ⟨?_⟩
    simp (disch:=omega) only [go_sem,↓cB,dB,r1,r2,r3,r14,r15,r16,rd]
    exact fin ⟨l.length - (i + 1),by omega,i + 1,ks,_,_,_,c6,v6',p6,o6,rfl,by omega,hrun',by omega,htl,fr6,bw6,sm6,decl_small hsm',by omega,by (simp (disch:=omega) only [go_sem,↓cB,dB,r1,r2,r3,r14,r15,r16,rd,hxi]) <;> simp⟩
end
end Go.Proofs.YtmihefbdghjeoaaGreat
namespace Go.Proofs.YtmihefbdghjeoaaGreat
open Go.HL
set_option maxRecDepth 10000
theorem right_facts {l:List Nd} (h:prRightM l=true):0 < l.length∧l.length≤800∧WOk l∧treeM l 20 0=(l.length,true):=by
 unfold prRightM at h
 simp only [Bool.and_eq_true,decide_eq_true_eq] at h
 obtain ⟨h1,h2,h3,h4,h5⟩:=h
 have ht:treeM l 20 0=(l.length,true):=by rw [← h4,← h5]
 obtain ⟨_,hn⟩:=(tree_iff 20 0 l.length h1).1 ht
 refine ⟨h1,h2,?_,ht⟩
 intro i n hi
 have hil:=(List.getElem?_eq_some_iff.1 hi).1
 have hx:=hn i (by omega) hil
 have e:l.getD i nd0'=n:=by rw [List.getD_eq_getElem?_getD,hi]; rfl
 rw [e] at hx
 unfold nodeP wordsM at hx
 simp only [Bool.and_eq_true,decide_eq_true_eq] at hx
 exact hx.1.2
def stopC (l:List Nd) (i:Nat) (g:Sg):Bool:=wrongM g (nodeAt l i)
def scopeM (l:List Nd):Flt:=if prRightM l then fltOf l ((runL (stopC l) l 0 (nodeAt l 0).kids sg0).map Prod.fst) else ⟨2,0⟩
section
variable {H:Heap} {S:Nat→Prop} {tv:Value} {l:List Nd}
theorem scCheck1_spec {M sb b1 b3:Nat} {c v p o:Value} {g:Sg} {i:Nat} (h:NL H S tv l) (hW:WOk l) (hi:i < l.length) (x:SM H M sb c v p o g) (hs:g.small 1000000) (hb1:Blk H b1 22 [tv]) (hb3:Blk H b3 36 [iv 0,iv 0]) :
  CallF Tryz.prog 52 [iv i,hp sb,hp b1,hp b3] H (fun r H'=>r=.bool (!stopC l i g)∧(stopC l i g=false→Fr [] H H')∧(stopC l i g=true→Fr [b3] H H'∧Blk H' b3 36 [iv 20,iv (nodeAt l i).pos])) NoP:=by
 have hgi:=getD_some (d:=nd0') hi
 obtain ⟨b,o',cap,a,q1,q2,ar,ld,-⟩:=h.row hgi
 subst q1
 have hwn:=hW i _ hgi
 rw [← q2] at ld hwn
 have kb:=hb1.cell 0
 simp only [gZ] at kb
 unfold stopC
 have hna:nodeAt l i=a.n:=by rw [q2]; rfl
 refine callF_of Tryz.func52 rfl Tryz.ntmps52 Tryz.results52 (by decide) rfl ?_
 simp (disch:=omega) only [go_sem,↓cB,dB,kb,ld]
 refine call_to (sgWrong_spec x hs ar hwn) ?_
 intro v5 H5 hv
 refine Hush.out ?_
 obtain ⟨f5,rfl⟩:=hv
 rw [hna]
 cases hq:wrongM g a.n
 ·refine ⟨?_⟩
  simp (disch:=omega) only [go_sem,↓cB,dB]
  exact fin ⟨rfl,fun _=>f5,by simp⟩
 obtain ⟨b',o'',cap',a',p1,p2,-,-,-,-,-,-,k4⟩:=(h.grow f5).row hgi
 simp only [Value.slice.injEq,Option.some.injEq,Addr.mk.injEq,and_true,true_and] at p1
 obtain ⟨⟨rfl,rfl⟩,rfl⟩:=p1
 rw [← q2] at k4
 have kb5:=(f5.blk hb1 (by simp)).cell 0
 simp only [gZ] at kb5
 obtain ⟨X',e1,e2,e3⟩:=store_blk (P:=Tryz.prog) (ty:=36) (new:=[iv 20,iv a.n.pos]) (f5.blk hb3 (by simp)) rfl T.size36 (one_all rfl)
 refine ⟨?_⟩
 simp (disch:=omega) only [go_sem,↓cB,dB,kb5,k4,e1]
 exact fin ⟨rfl,by simp,fun _=>⟨f5.nil.trans e3,e2⟩⟩
set_option maxHeartbeats 1000000 in
theorem scCheck_spec (h:NL H S tv l) (hz:Sz l):CallF Tryz.prog 25 [tv] H (fun r H'=>Fr [] H H'∧r=fltV (scopeM l)) NoP:=by
 obtain ⟨av,cv,rfl⟩:=h.len
 obtain ⟨A0,hA0⟩:∃ A,A=H.push (.cells #[.slice av l.length cv] 22):=⟨_,rfl⟩
 obtain ⟨A1,hA1⟩:∃ A,A=A0.push (.cells #[iv 0,iv 0] 36):=⟨_,rfl⟩
 have z0:A0.size=H.size + 1:=by rw [hA0]; simp
 have z1:A1.size=A0.size + 1:=by rw [hA1]; simp
 have g0:Fr [] H A0:=by rw [hA0]; exact Fr.push
 have g1:Fr [] A0 A1:=by rw [hA1]; exact Fr.push
 have b1:Blk A1 H.size 22 [.slice av l.length cv]:=g1.blk (by rw [hA0]; exact Blk.new rfl) (by simp)
 have b2:Blk A1 A0.size 36 [iv 0,iv 0]:=by rw [hA1]; exact Blk.new rfl
 have k1:=b1.cell 0
 simp only [gZ] at k1
 unfold scopeM
 refine callF_of Tryz.func25 rfl Tryz.ntmps25 Tryz.results25 (by decide) rfl ?_
 simp (disch:=omega) only [go_sem,↓cB,dB]
 rw [← hA0,← hA1]
 simp (disch:=omega) only [go_sem,↓cB,dB,k1]
 refine call_to (pgRight_spec (h.grow (g0.trans g1)) hz) ?_
 intro v5 H5 hv
 refine Hush.out ?_
 obtain ⟨f5,rfl⟩:=hv
 cases hr:prRightM l
 ·obtain ⟨X',e1,e2,e3,_⟩:=flt_res (X:=H5) (H:=A0) (by rw [← hA1]; exact f5) 2 0
  refine ⟨?_⟩
  simp (disch:=omega) only [go_sem,↓cB,dB,e1,e2]
  exact fin ⟨g0.trans e3,rfl⟩
 obtain ⟨hl0,hl8,hW,-⟩:=right_facts hr
 obtain ⟨A2,hA2⟩:∃ A,A=H5.push (.cells #[iv 0,iv 0] 36):=⟨_,rfl⟩
 have g2:Fr [] H5 A2:=by rw [hA2]; exact Fr.push
 have z2:A2.size=H5.size + 1:=by rw [hA2]; simp
 have b3:Blk A2 H5.size 36 [iv 0,iv 0]:=by rw [hA2]; exact Blk.new rfl
 have k2:=(g2.blk (f5.blk b1 (by simp)) (by simp)).cell 0
 simp only [gZ] at k2
 obtain ⟨A2p,hA2p⟩:∃ A,A=A2.push (.cells #[.slice none 0 0,.nilFunc] 107):=⟨_,rfl⟩
 have g2p:Fr [] A2 A2p:=by rw [hA2p]; exact Fr.push
 have b4z:Blk A2p A2.size 107 [.slice none 0 0,.nilFunc]:=by rw [hA2p]; exact Blk.new rfl
 obtain ⟨A3,e4,b4,f4⟩:=store_blk (P:=Tryz.prog) (ty:=107) (new:=[.slice av l.length cv,.func (.func 52) #[] #[hp H.size,hp H5.size]]) b4z rfl T.size107 (one_all rfl)
 have g3:Fr [] A2 A3:=Fr.more g2p f4 (by simp)
 have ld4:=b4.cells0
 simp only [List.length_cons,List.length_nil] at ld4
 have fall:Fr [] A1 A3:=(f5.trans g2).trans g3
 have hz5:=f5.size
 have nl3:=h.grow ((g0.trans g1).trans fall)
 have b1':=fall.blk b1 (by simp)
 have b3':=g3.blk b3 (by simp)
 have hrun:=scRun_spec (caps:=[hp H.size,hp H5.size]) (gf:=52) (stop:=stopC l) (Post:=fun i g H'=>Fr [H5.size] A3 H'∧Blk H' H5.size 36 [iv 20,iv (nodeAt l i).pos]) nl3 hW (by omega) hl0
  (by
   intro i g H' M sb c v p o hi hfr sm _ hs
   refine (scCheck1_spec (nl3.grow hfr) hW hi sm hs (hfr.blk b1' (by simp)) (hfr.blk b3' (by simp))).mono ?_ (fun _ _ x=>x)
   rintro r H'' ⟨e1,e2,e3⟩
   refine ⟨e1,e2,fun hq=>⟨?_,(e3 hq).2⟩⟩
   exact hfr.nil.trans (e3 hq).1)
 refine ⟨?_⟩
 simp (disch:=omega) only [go_sem,↓cB,dB]
 rw [← hA2]
 simp (disch:=omega) only [go_sem,↓cB,dB,k2]
 rw [← hA2p]
 simp (disch:=omega) only [go_sem,↓cB,dB,e4,ld4]
 refine call_to hrun ?_
 intro v6 H6 hv
 refine Hush.out ?_
 generalize runL (stopC l) l 0 (nodeAt l 0).kids sg0=R at *
 obtain ⟨fl,hfl,hb6,hf6⟩:∃ fl:Flt,fl=fltOf l (R.map Prod.fst)∧Blk H6 H5.size 36 [iv fl.err,iv fl.pos]∧Fr [H5.size] A3 H6:=by
  cases R with
  | none=>exact ⟨⟨0,0⟩,rfl,Fr.blk hv b3' (by simp),Fr.nil hv⟩
  | some x=>exact ⟨⟨20,(nodeAt l x.1).pos⟩,rfl,hv.2,hv.1⟩
 have ld6:=hb6.cells0
 simp only [List.length_cons,List.length_nil] at ld6
 have hfA:Fr [] A1 H6:=Fr.more fall hf6 (by simp; omega)
 obtain ⟨X',e1,e2,e3,_⟩:=flt_res (X:=H6) (H:=A0) (by rw [← hA1]; exact hfA) fl.err fl.pos
 refine ⟨?_⟩
 simp (disch:=omega) only [go_sem,↓cB,dB,ld6,e1,e2]
 refine fin ⟨g0.trans e3,?_⟩
 simp only [if_true]
 rw [← hfl]
 rfl
end
end Go.Proofs.YtmihefbdghjeoaaGreat
namespace Go.Proofs.YtmihefbdghjeoaaGreat
open Go.HL
set_option maxRecDepth 10000
theorem walkK_par {l:List Nd} {ih:Nat→Nat × Bool} (h:∀ i e,i < l.length→ih i=(e,true)→i < e∧e≤l.length∧∀ j,i < j→j < e→∃ p,i≤p∧p < j∧(j:Int) ∈ (nodeAt l p).kids) :
  ∀ (ks:List Int) (i e:Nat),i≤l.length→walkK l ih ks i=(e,true)→∀ j,i≤j→j < e→(j:Int) ∈ ks∨∃ p,i≤p∧p < j∧(j:Int) ∈ (nodeAt l p).kids
 | [],i,e,hi,hw=>by
  simp [walkK] at hw
  intro j h1 h2; omega
 | k :: ks,i,e,hi,hw=>by
  intro j h1 h2
  unfold walkK at hw
  split at hw
  ·rename_i hc
   split at hw
   ·rename_i hok
    obtain ⟨a1,a2,a3⟩:=h i (ih i).1 hc.2 (by rw [← hok])
    by_cases hj:j=i
    ·subst hj; exact .inl (by rw [hc.1]; simp)
    ·by_cases hj2:j < (ih i).1
     ·obtain ⟨p,p1,p2,p3⟩:=a3 j (by omega) hj2
      exact .inr ⟨p,p1,p2,p3⟩
     ·rcases walkK_par h ks (ih i).1 e a2 hw j (by omega) h2 with h' | ⟨p,p1,p2,p3⟩
      ·exact .inl (by simp [h'])
      ·exact .inr ⟨p,by omega,p2,p3⟩
   ·simp at hw
  ·simp at hw
theorem walkM_par {l:List Nd}:∀ (d i e:Nat),i < l.length→walkM l d i=(e,true)→∀ j,i < j→j < e→∃ p,i≤p∧p < j∧(j:Int) ∈ (nodeAt l p).kids
 | 0,i,e,hi,hw=>by simp [walkM] at hw
 | d + 1,i,e,hi,hw=>by
  intro j h1 h2
  unfold walkM at hw
  rcases walkK_par (l:=l) (ih:=walkM l d) (fun i' e' hi' hw'=>by
   have:=walkM_ok d i' e' hi' hw'
   exact ⟨this.1,this.2.1,walkM_par d i' e' hi' hw'⟩) (l.getD i nd0').kids (i + 1) e (by omega) hw j (by omega) h2 with h' | ⟨p,p1,p2,p3⟩
  ·exact ⟨i,by omega,h1,h'⟩
  ·exact ⟨p,by omega,p2,p3⟩
theorem walkK_inc {l:List Nd} {ih:Nat→Nat × Bool} (h:∀ i e,i < l.length→ih i=(e,true)→i < e∧e≤l.length):∀ (ks:List Int) (i e:Nat),i≤l.length→walkK l ih ks i=(e,true)→ks.Pairwise (· < ·)∧∀ k ∈ ks,(i:Int)≤k
 | [],i,e,hi,hw=>⟨.nil,by simp⟩
 | k :: ks,i,e,hi,hw=>by
  unfold walkK at hw
  split at hw
  ·rename_i hc
   split at hw
   ·rename_i hok
    have h1:=h i (ih i).1 hc.2 (by rw [← hok])
    obtain ⟨a,b⟩:=walkK_inc h ks (ih i).1 e h1.2 hw
    refine ⟨List.pairwise_cons.2 ⟨fun k' hk'=>by have:=b k' hk'; omega,a⟩,fun k' hk'=>?_⟩
    rw [List.mem_cons] at hk'
    rcases hk' with rfl | hk'
    ·omega
    ·have:=b k' hk'; omega
   ·simp at hw
  ·simp at hw
structure Tre (l:List Nd):Prop where
 pos:0 < l.length
 kind0:(nodeAt l 0).kind=0
 inc:(nodeAt l 0).kids.Pairwise (· < ·)
 kpos:∀ k ∈ (nodeAt l 0).kids,1≤k∧k < l.length
 par:∀ j,0 < j→j < l.length→∃ p,p < j∧(j:Int) ∈ (nodeAt l p).kids
 node:∀ j,j < l.length→nodeP l (nodeAt l j)=true
theorem tre_of {l:List Nd} (h:prRightM l=true):Tre l:=by
 have h':=h
 unfold prRightM at h'
 simp only [Bool.and_eq_true,decide_eq_true_eq] at h'
 obtain ⟨h1,h2,h3,h4,h5⟩:=h'
 have ht:treeM l 20 0=(l.length,true):=by rw [← h4,← h5]
 obtain ⟨hw,hn⟩:=(tree_iff 20 0 l.length h1).1 ht
 have hw':=hw
 unfold walkM at hw'
 have inc:=walkK_inc (l:=l) (ih:=walkM l 19) (fun i e h1 h2=>by have:=walkM_ok 19 i e h1 h2; exact ⟨this.1,this.2.1⟩) _ 1 l.length (by omega) hw'
 obtain ⟨_,_,ok⟩:=walkM_ok 20 0 l.length h1 hw
 exact ⟨h1,h3,inc.1,fun k hk=>⟨inc.2 k hk,(ok 0 (by omega) h1 k hk).2⟩,fun j a b=>by
  obtain ⟨p,_,p2,p3⟩:=walkM_par 20 0 l.length h1 hw j a b
  exact ⟨p,p2,p3⟩,fun j hj=>hn j (by omega) hj⟩
theorem mem_tw {α:Type} {p:α→Bool} {x:α}:∀ {l:List α},x ∈ l.takeWhile p→p x=true
 | [],h=>by simp at h
 | a :: l,h=>by
  by_cases ha:p a=true
  ·rw [List.takeWhile_cons_of_pos ha,List.mem_cons] at h
   rcases h with rfl | h
   ·exact ha
   ·exact mem_tw h
  ·rw [List.takeWhile_cons_of_neg ha] at h; simp at h
theorem kid_kind {l:List Nd} (h:Tre l) {p:Nat} {k:Int} (hp:p < l.length) (hk:k ∈ (nodeAt l p).kids) :
  (inB (knd l k) 1 5=true→(nodeAt l p).kind=0∨((nodeAt l p).kind=3∧knd l k=2))∧knd l k ≠ 0:=by
 have hn:=h.node p hp
 generalize hpn:nodeAt l p=n at *
 unfold nodeP at hn
 simp only [Bool.and_eq_true] at hn
 have hks:=hn.2.2
 obtain ⟨i,hi⟩:=List.getElem?_of_mem hk
 have hil:=(List.getElem?_eq_some_iff.1 hi).1
 have hget:(n.kids.map (knd l)).getD i 0=knd l k:=by simp [List.getD_eq_getElem?_getD,hi]
 have hlen:(n.kids.map (knd l)).length=n.kids.length:=List.length_map ..
 have hmem:knd l k ∈ n.kids.map (knd l):=List.mem_map.2 ⟨k,hk,rfl⟩
 generalize n.kids.map (knd l)=ks at *
 generalize knd l k=x at *
 have all:∀ {s:Int},pAllM ks s=true→sortM x=s:=by
  intro s hs
  unfold pAllM at hs
  rw [allR_iff] at hs
  have:=hs i (by omega)
  rw [hget] at this
  simpa using this
 have are:∀ {ss:List Int},areM ks ss=true→∃ s ∈ ss,sortM x=s:=by
  intro ss hs
  unfold areM at hs
  rw [Bool.and_eq_true,allR_iff,decide_eq_true_eq] at hs
  have h1:=hs.2 i (by omega)
  rw [hget] at h1
  simp only [decide_eq_true_eq] at h1
  exact ⟨ss.getD i 0,List.mem_of_getElem? (getD_some (by omega)),h1⟩
 have s1:=sort1 x
 have s2:=sort2 x
 have s3:=sort3 x
 have s4:=sort4 x
 have e0:sortM 0=0:=rfl
 have concl:∀ s:Int,sortM x=s→s ≠ 1→s ≠ 0→(inB x 1 5=true→n.kind=0∨(n.kind=3∧x=2))∧x ≠ 0:=by
  intro s hs h1 h0
  refine ⟨fun hb=>?_,fun e=>by rw [e,e0] at hs; exact h0 hs.symm⟩
  rw [← s1,decide_eq_true_eq] at hb
  exact absurd (hs.symm.trans hb) h1
 unfold kidsM at hks
 split at hks
 ·rename_i hk0
  have:=all hks
  exact ⟨fun _=>.inl hk0,fun e=>by rw [e,e0] at this; omega⟩
 ·split at hks
  ·rename_i hk3
   by_cases h2:x=2
   ·exact ⟨fun _=>.inr ⟨hk3,h2⟩,by omega⟩
   ·have hin:x ∈ ks.dropWhile fun x=>decide (x=2):=by
     have hsplit:ks=(ks.takeWhile fun x=>decide (x=2)) ++ (ks.dropWhile fun x=>decide (x=2)):=(List.takeWhile_append_dropWhile).symm
     rw [hsplit,List.mem_append] at hmem
     rcases hmem with hm | hm
     ·have:=mem_tw hm
      simp at this
      exact absurd this h2
     ·exact hm
    obtain ⟨i',hi'⟩:=List.getElem?_of_mem hin
    have hil':=(List.getElem?_eq_some_iff.1 hi').1
    unfold pAllM at hks
    rw [allR_iff] at hks
    have:=hks i' hil'
    rw [List.getD_eq_getElem?_getD,hi'] at this
    simp at this
    exact concl 2 this (by omega) (by omega)
  ·split at hks
   ·exact concl 2 (all hks) (by omega) (by omega)
   ·split at hks
    ·rw [Bool.and_eq_true] at hks
     exact concl 4 (all hks.2) (by omega) (by omega)
    ·split at hks
     ·rw [Bool.or_eq_true] at hks
      rcases hks with hks | hks
      ·obtain ⟨s,hs,e⟩:=are hks
       simp at hs
       exact concl s e (by omega) (by omega)
      ·obtain ⟨s,hs,e⟩:=are hks
       simp at hs
       exact concl s e (by omega) (by omega)
     ·split at hks
      ·obtain ⟨s,hs,e⟩:=are hks
       simp at hs
       exact concl s e (by omega) (by omega)
      ·split at hks
       ·obtain ⟨s,hs,e⟩:=are hks
        simp at hs
        exact concl s e (by omega) (by omega)
       ·split at hks
        ·obtain ⟨s,hs,e⟩:=are hks
         simp at hs
         exact concl s e (by omega) (by omega)
        ·split at hks
         ·obtain ⟨s,hs,e⟩:=are hks
          simp at hs
          exact concl s e (by omega) (by omega)
         ·split at hks
          ·rw [decide_eq_true_eq,List.length_eq_zero_iff] at hks; rw [hks] at hmem; simp at hmem
          ·simp at hks
end Go.Proofs.YtmihefbdghjeoaaGreat
namespace Go.Proofs.YtmihefbdghjeoaaGreat
open Go.HL
set_option maxRecDepth 10000
theorem foldl_congr_item {i j:Int}:∀ (ks:List Int) (o:Int),(∀ k ∈ ks,(k≤i↔k≤j))→ks.foldl (fun out k=>if k≤i then k else out) o=ks.foldl (fun out k=>if k≤j then k else out) o
 | [],o,_=>rfl
 | k :: ks,o,h=>by
  simp only [List.foldl_cons]
  have hk:=h k (by simp)
  have:(if k≤i then k else o)=(if k≤j then k else o):=by
   by_cases c:k≤i
   ·rw [if_pos c,if_pos (hk.1 c)]
   ·rw [if_neg c,if_neg (fun e=>c (hk.2 e))]
  rw [this]
  exact foldl_congr_item ks _ (fun k' h'=>h k' (by simp [h']))
theorem foldl_item {i:Int}:∀ (ks:List Int) (o:Int),ks.Pairwise (· < ·)→(∀ k ∈ ks,o≤k) →
  (ks.foldl (fun out k=>if k≤i then k else out) o=o∨(ks.foldl (fun out k=>if k≤i then k else out) o ∈ ks∧ks.foldl (fun out k=>if k≤i then k else out) o≤i)) ∧
  o≤ks.foldl (fun out k=>if k≤i then k else out) o∧∀ k ∈ ks,k≤i→k≤ks.foldl (fun out k=>if k≤i then k else out) o
 | [],o,_,_=>by simp
 | k :: ks,o,hp,hk=>by
  rw [List.pairwise_cons] at hp
  simp only [List.foldl_cons]
  have hok:=hk k (by simp)
  by_cases c:k≤i
  ·rw [if_pos c]
   obtain ⟨a1,a2,a3⟩:=foldl_item ks k hp.2 (fun k' h'=>by have:=hp.1 k' h'; omega)
   refine ⟨.inr ?_,Int.le_trans hok a2,?_⟩
   ·rcases a1 with e | ⟨e1,e2⟩
    ·rw [e]; exact ⟨by simp,c⟩
    ·exact ⟨by simp [e1],e2⟩
   ·intro k' h' hi
    rw [List.mem_cons] at h'
    rcases h' with rfl | h'
    ·exact a2
    ·exact a3 k' h' hi
  ·rw [if_neg c]
   obtain ⟨a1,a2,a3⟩:=foldl_item ks o hp.2 (fun k' h'=>hk k' (by simp [h']))
   refine ⟨?_,a2,?_⟩
   ·rcases a1 with e | ⟨e1,e2⟩
    ·exact .inl e
    ·exact .inr ⟨by simp [e1],e2⟩
   ·intro k' h' hi
    rw [List.mem_cons] at h'
    rcases h' with rfl | h'
    ·exact absurd hi c
    ·exact a3 k' h' hi
theorem walkK_span {l:List Nd} {ih:Nat→Nat × Bool} (h:∀ i e,i < l.length→ih i=(e,true)→i < e∧e≤l.length∧∀ j,i≤j→j < e→∀ c ∈ (nodeAt l j).kids,(j:Int) < c∧c < e) :
  ∀ (ks:List Int) (i e:Nat),i≤l.length→walkK l ih ks i=(e,true)→∀ p,i≤p→p < e→∀ c ∈ (nodeAt l p).kids,c < e∧∀ k ∈ ks,(k≤(p:Int)↔k≤c)
 | [],i,e,hi,hw=>by
  simp [walkK] at hw
  intro j h1 h2; omega
 | k :: ks,i,e,hi,hw=>by
  intro p h1 h2 c hc
  unfold walkK at hw
  split at hw
  ·rename_i hcd
   split at hw
   ·rename_i hok
    obtain ⟨a1,a2,a3⟩:=h i (ih i).1 hcd.2 (by rw [← hok])
    obtain ⟨b1,b2⟩:=walkK_inc (l:=l) (ih:=ih) (fun i e h1 h2=>by have:=h i e h1 h2; exact ⟨this.1,this.2.1⟩) ks (ih i).1 e a2 hw
    have hge:(ih i).1≤e:=by
     have hge:∀ (ks:List Int) (i:Nat),i≤l.length→walkK l ih ks i=(e,true)→i≤e:=by
      intro ks
      induction ks with
      | nil=>intro i _ hw; simp [walkK] at hw; omega
      | cons k ks IH =>
       intro i hi hw
       unfold walkK at hw
       split at hw
       ·rename_i hc
        split at hw
        ·rename_i hok
         have:=h i (ih i).1 hc.2 (by rw [← hok])
         have:=IH (ih i).1 this.2.1 hw
         omega
        ·simp at hw
       ·simp at hw
     exact hge ks (ih i).1 a2 hw
    by_cases hp:p < (ih i).1
    ·obtain ⟨c1,c2⟩:=a3 p h1 hp c hc
     refine ⟨by omega,fun k' hk'=>?_⟩
     rw [List.mem_cons] at hk'
     rcases hk' with rfl | hk'
     ·omega
     ·have:=b2 k' hk'
      omega
    ·obtain ⟨c1,c2⟩:=walkK_span h ks (ih i).1 e a2 hw p (by omega) h2 c hc
     refine ⟨c1,fun k' hk'=>?_⟩
     rw [List.mem_cons] at hk'
     rcases hk' with rfl | hk'
     ·have hpc:(p:Int) < c:=by
       have:=walkK_low h ks (ih i).1 e a2 hw p (by omega) h2 c hc
       exact this
      omega
     ·exact c2 k' hk'
   ·simp at hw
  ·simp at hw
where
 walkK_low {l:List Nd} {ih:Nat→Nat × Bool} (h:∀ i e,i < l.length→ih i=(e,true)→i < e∧e≤l.length∧∀ j,i≤j→j < e→∀ c ∈ (nodeAt l j).kids,(j:Int) < c∧c < e) :
  ∀ (ks:List Int) (i e:Nat),i≤l.length→walkK l ih ks i=(e,true)→∀ p,i≤p→p < e→∀ c ∈ (nodeAt l p).kids,(p:Int) < c
 | [],i,e,hi,hw=>by
  simp [walkK] at hw
  intro j h1 h2; omega
 | k :: ks,i,e,hi,hw=>by
  intro p h1 h2 c hc
  unfold walkK at hw
  split at hw
  ·rename_i hcd
   split at hw
   ·rename_i hok
    obtain ⟨a1,a2,a3⟩:=h i (ih i).1 hcd.2 (by rw [← hok])
    by_cases hp:p < (ih i).1
    ·exact (a3 p h1 hp c hc).1
    ·exact walkK_low h ks (ih i).1 e a2 hw p (by omega) h2 c hc
   ·simp at hw
  ·simp at hw
theorem walkM_end {l:List Nd}:∀ (d i e:Nat),i < l.length→walkM l d i=(e,true)→∀ j,i≤j→j < e→∀ c ∈ (nodeAt l j).kids,(j:Int) < c∧c < e
 | 0,i,e,hi,hw=>by simp [walkM] at hw
 | d + 1,i,e,hi,hw=>by
  intro j h1 h2 c hc
  obtain ⟨o1,o2,o3⟩:=walkM_ok (d + 1) i e hi hw
  refine ⟨(o3 j h1 h2 c hc).1,?_⟩
  unfold walkM at hw
  have H:∀ i e,i < l.length→walkM l d i=(e,true)→i < e∧e≤l.length∧∀ j,i≤j→j < e→∀ c ∈ (nodeAt l j).kids,(j:Int) < c∧c < e:=by
   intro i' e' hi' hw'
   have:=walkM_ok d i' e' hi' hw'
   exact ⟨this.1,this.2.1,walkM_end d i' e' hi' hw'⟩
  by_cases hj:j=i
  ·subst hj
   have K:∀ (ks:List Int) (s:Nat),s≤l.length→walkK l (walkM l d) ks s=(e,true)→∀ k ∈ ks,k < e:=by
    intro ks
    induction ks with
    | nil=>intro s _ _; simp
    | cons k ks IH =>
     intro s hs hw
     have hinc:=walkK_inc (l:=l) (ih:=walkM l d) (fun i e h1 h2=>by have:=H i e h1 h2; exact ⟨this.1,this.2.1⟩) (k :: ks) s e hs hw
     unfold walkK at hw
     split at hw
     ·rename_i hcd
      split at hw
      ·rename_i hok
       have a:=H s (walkM l d s).1 hcd.2 (by rw [← hok])
       have hge:(walkM l d s).1≤e:=by
        cases ks with
        | nil=>simp [walkK] at hw; omega
        | cons k' ks' =>
         have h1:=IH _ a.2.1 hw k' (by simp)
         have h2:=(walkK_inc (l:=l) (ih:=walkM l d) (fun i e h1 h2=>by have:=H i e h1 h2; exact ⟨this.1,this.2.1⟩) (k' :: ks') _ e a.2.1 hw).2 k' (by simp)
         omega
       intro k' hk'
       rw [List.mem_cons] at hk'
       rcases hk' with rfl | hk'
       ·omega
       ·exact IH _ a.2.1 hw k' hk'
      ·simp at hw
     ·simp at hw
   exact K _ (j + 1) (by omega) hw c hc
  ·exact (walkK_span H (l.getD i nd0').kids (i + 1) e (by omega) hw j (by omega) h2 c hc).1
theorem span_of {l:List Nd} (h:prRightM l=true) {p:Nat} (h1:1≤p) (hp:p < l.length) {c:Int} (hc:c ∈ (nodeAt l p).kids):itemM' l c=itemM' l p:=by
 have h':=h
 unfold prRightM at h'
 simp only [Bool.and_eq_true,decide_eq_true_eq] at h'
 obtain ⟨k1,k2,k3,k4,k5⟩:=h'
 have ht:treeM l 20 0=(l.length,true):=by rw [← k4,← k5]
 obtain ⟨hw,hn⟩:=(tree_iff 20 0 l.length k1).1 ht
 unfold walkM at hw
 have H:∀ i e,i < l.length→walkM l 19 i=(e,true)→i < e∧e≤l.length∧∀ j,i≤j→j < e→∀ c ∈ (nodeAt l j).kids,(j:Int) < c∧c < e:=by
  intro i' e' hi' hw'
  have:=walkM_ok 19 i' e' hi' hw'
  exact ⟨this.1,this.2.1,walkM_end 19 i' e' hi' hw'⟩
 obtain ⟨_,hs⟩:=walkK_span H (l.getD 0 nd0').kids 1 l.length (by omega) hw p h1 hp c hc
 unfold itemM' itemL
 exact (foldl_congr_item _ _ hs).symm
structure Itm (l:List Nd) (i:Nat) (m:Int):Prop where
 le:m≤i
 nn:0≤m
 mem:m=0∨m ∈ (nodeAt l 0).kids
 max:∀ k ∈ (nodeAt l 0).kids,k≤(i:Int)→k≤m
theorem itm {l:List Nd} (h:Tre l) (i:Nat):Itm l i (itemM' l i):=by
 have hk:=h.kpos
 obtain ⟨a1,a2,a3⟩:=foldl_item (i:=(i:Int)) (nodeAt l 0).kids 0 h.inc (fun k hk'=>by have:=hk k hk'; omega)
 have e:itemM' l i=(nodeAt l 0).kids.foldl (fun out k=>if k≤(i:Int) then k else out) 0:=rfl
 rw [← e] at a1 a2 a3
 refine ⟨?_,a2,?_,a3⟩
 ·rcases a1 with e | e <;> omega
 ·rcases a1 with e | e
  ·exact .inl e
  ·exact .inr e.1
theorem itm_self {l:List Nd} (h:Tre l) {i:Nat} (hi:(i:Int) ∈ (nodeAt l 0).kids):itemM' l i=i:=by
 have a:=itm h i
 have:=a.max _ hi (Int.le_refl _)
 have:=a.le
 omega
theorem itm_mem {l:List Nd} (h:Tre l) {i:Nat} (h0:0 < i) (hi:itemM' l i=i):(i:Int) ∈ (nodeAt l 0).kids:=by
 rcases (itm h i).mem with e | e
 ·omega
 ·rwa [hi] at e
theorem kind_pos {l:List Nd} (h:Tre l) {i:Nat} (h0:0 < i) (hi:i < l.length):(nodeAt l i).kind ≠ 0:=by
 obtain ⟨p,hp,hm⟩:=h.par i h0 hi
 exact (kid_kind h (by omega) hm).2
theorem item_of {l:List Nd} (h:prRightM l=true) {i:Nat} (hi:i < l.length) (hk:(nodeAt l i).kind=1∨(nodeAt l i).kind=2∨(nodeAt l i).kind=3∨(nodeAt l i).kind=4∨(nodeAt l i).kind=5) :
  0 < i∧((i:Int) ∈ (nodeAt l 0).kids∨((nodeAt l i).kind=2∧∃ p:Nat,p < i∧(p:Int) ∈ (nodeAt l 0).kids∧(nodeAt l p).kind=3∧itemM' l i=p)):=by
 have t:=tre_of h
 have h0:0 < i:=by
  rcases Nat.eq_zero_or_pos i with rfl | h
  ·have:=t.kind0; omega
  ·exact h
 refine ⟨h0,?_⟩
 obtain ⟨p,hp,hm⟩:=t.par i h0 hi
 have hkd:=kid_kind t (by omega) hm
 have ek:knd l i=(nodeAt l i).kind:=rfl
 have hb:inB (knd l i) 1 5=true:=by
  rw [ek]; unfold inB; simp; omega
 rcases hkd.1 hb with e | ⟨e1,e2⟩
 ·left
  rcases Nat.eq_zero_or_pos p with rfl | hpp
  ·exact hm
  ·exact absurd e (kind_pos t hpp (by omega))
 ·right
  refine ⟨by rw [← ek]; exact e2,p,hp,?_,e1,?_⟩
  ·have hpp:0 < p:=by
    rcases Nat.eq_zero_or_pos p with rfl | h
    ·have:=t.kind0; omega
    ·exact h
   obtain ⟨p',hp',hm'⟩:=t.par p hpp (by omega)
   have hkd':=kid_kind t (by omega) hm'
   have ek':knd l p=(nodeAt l p).kind:=rfl
   have hb':inB (knd l p) 1 5=true:=by
    rw [ek',e1]; rfl
   rcases hkd'.1 hb' with e | ⟨e3,e4⟩
   ·rcases Nat.eq_zero_or_pos p' with rfl | hpp'
    ·exact hm'
    ·exact absurd e (kind_pos t hpp' (by omega))
   ·omega
  ·have hpp:0 < p:=by
    rcases Nat.eq_zero_or_pos p with rfl | h
    ·have:=t.kind0; omega
    ·exact h
   rw [span_of h hpp (by omega) hm]
   obtain ⟨p',hp',hm'⟩:=t.par p hpp (by omega)
   have hkd':=kid_kind t (by omega) hm'
   have ek':knd l p=(nodeAt l p).kind:=rfl
   have hb':inB (knd l p) 1 5=true:=by
    rw [ek',e1]; rfl
   rcases hkd'.1 hb' with e | ⟨e3,e4⟩
   ·rcases Nat.eq_zero_or_pos p' with rfl | hpp'
    ·exact itm_self t hm'
    ·exact absurd e (kind_pos t hpp' (by omega))
   ·omega
def selU (l:List Nd) (q:Nat→Bool):Nat→List Str
 | 0=>[]
 | i + 1=>if q i then selU l q i ++ [w0 (nodeAt l i)] else selU l q i
theorem selU_mem {l:List Nd} {q:Nat→Bool} {s:Str}:∀ {i:Nat},inL (selU l q i) s=true↔∃ j,j < i∧q j=true∧w0 (nodeAt l j)=s
 | 0=>by simp [selU,inL]
 | i + 1=>by
  unfold selU
  have ih:=selU_mem (l:=l) (q:=q) (s:=s) (i:=i)
  by_cases hq:q i=true
  ·rw [if_pos hq]
   have e:inL (selU l q i ++ [w0 (nodeAt l i)]) s=true↔inL (selU l q i) s=true∨w0 (nodeAt l i)=s:=by
    unfold inL; simp [List.any_append]
   rw [e,ih]
   constructor
   ·rintro (⟨j,h1,h2,h3⟩ | h)
    ·exact ⟨j,by omega,h2,h3⟩
    ·exact ⟨i,by omega,hq,h⟩
   ·rintro ⟨j,h1,h2,h3⟩
    by_cases hj:j=i
    ·subst hj; exact .inr h3
    ·exact .inl ⟨j,by omega,h2,h3⟩
  ·rw [if_neg hq,ih]
   constructor
   ·rintro ⟨j,h1,h2,h3⟩
    exact ⟨j,by omega,h2,h3⟩
   ·rintro ⟨j,h1,h2,h3⟩
    have hj:j ≠ i:=by rintro rfl; exact hq h2
    exact ⟨j,by omega,h2,h3⟩
theorem selU_none {l:List Nd} {q:Nat→Bool}:∀ {i:Nat},(∀ j,j < i→q j=false)→selU l q i = []
 | 0,_=>rfl
 | i + 1,h=>by
  unfold selU
  rw [selU_none (i:=i) (fun j hj=>h j (by omega)),h i (by omega)]; rfl
def qC (l:List Nd) (j:Nat):Bool:=decide ((nodeAt l j).kind=1)
def qP (l:List Nd) (j:Nat):Bool:=decide ((nodeAt l j).kind=3)
def qV (l:List Nd) (j:Nat):Bool:=decide ((nodeAt l j).kind=2) && decide (itemM' l j=j)
def qO (l:List Nd) (it:Int) (j:Nat):Bool:=decide ((nodeAt l j).kind=2) && (!decide (itemM' l j=j) && decide (itemM' l j=it))
def sgA (l:List Nd) (i:Nat):Sg :=
 ⟨selU l (qC l) i,selU l (qV l) i,selU l (qP l) i,selU l (qO l (itemM' l i)) i,decide (itemM' l i < i) && decide ((nodeAt l (itemM' l i).toNat).kind=3)⟩
theorem var_ins {l:List Nd} (h:prRightM l=true) {i:Nat} (hi:i < l.length) (hk:(nodeAt l i).kind=2):(sgA l i).ins = !decide (itemM' l i=i):=by
 have t:=tre_of h
 have a:=itm t i
 unfold sgA
 simp only
 rcases (item_of h hi (.inr (.inl hk))).2 with e | ⟨_,p,hp,e1,e2,e3⟩
 ·rw [itm_self t e]; simp
 ·rw [e3]
  simp only [Int.toNat_natCast,e2,decide_true,Bool.and_true]
  rw [decide_eq_true (by omega),decide_eq_false (by omega)]; rfl
theorem sgA_step {l:List Nd} (h:prRightM l=true) {i:Nat} (hi:i < l.length) :
  (if (((i + 1:Nat):Int) ∈ (nodeAt l 0).kids) then resetM (declM (sgA l i) (nodeAt l i)) else declM (sgA l i) (nodeAt l i))=sgA l (i + 1):=by
 have t:=tre_of h
 have a:=itm t i
 have a1:=itm t (i + 1)
 have hC:(declM (sgA l i) (nodeAt l i)).C=selU l (qC l) (i + 1):=by
  unfold declM selU qC
  by_cases e1:(nodeAt l i).kind=1
  ·simp [e1,sgA]; rfl
  ·rw [if_neg e1]
   simp only [e1,decide_false,Bool.false_eq_true,if_false]
   split
   ·rfl
   ·split
    ·split <;> rfl
    ·rfl
 have hP:(declM (sgA l i) (nodeAt l i)).P=selU l (qP l) (i + 1):=by
  unfold declM selU qP
  by_cases e1:(nodeAt l i).kind=1
  ·simp [e1,sgA]; rfl
  ·rw [if_neg e1]
   by_cases e3:(nodeAt l i).kind=3
   ·simp [e3,sgA]; rfl
   ·rw [if_neg e3]
    simp only [e3,decide_false,Bool.false_eq_true,if_false]
    split
    ·split <;> rfl
    ·rfl
 have hV:(declM (sgA l i) (nodeAt l i)).V=selU l (qV l) (i + 1):=by
  unfold declM
  have eu:selU l (qV l) (i + 1)=if qV l i then selU l (qV l) i ++ [w0 (nodeAt l i)] else selU l (qV l) i:=rfl
  rw [eu]
  by_cases e2:(nodeAt l i).kind=2
  ·have hv:=var_ins h hi e2
   rw [if_neg (by omega),if_neg (by omega),if_pos e2,hv]
   unfold qV
   rw [e2]
   by_cases c:itemM' l i=i
   ·simp [c,sgA]; rfl
   ·simp [c,sgA]; rfl
  ·have hq:qV l i=false:=by unfold qV; simp [e2]
   rw [hq]
   simp only [Bool.false_eq_true,if_false]
   split
   ·rfl
   ·split
    ·rfl
    ·rfl
 by_cases hm:((i + 1:Nat):Int) ∈ (nodeAt l 0).kids
 ·rw [if_pos hm]
  have hs:=itm_self t hm
  have hO:selU l (qO l (itemM' l ((i + 1:Nat):Int))) (i + 1) = []:=by
   rw [hs]
   apply selU_none
   intro j hj
   have:=(itm t j).le
   unfold qO
   rw [show decide (itemM' l j=((i + 1:Nat):Int))=false from by simp; omega]
   simp
  have e:sgA l (i + 1)=⟨selU l (qC l) (i + 1),selU l (qV l) (i + 1),selU l (qP l) (i + 1),[],false⟩:=by
   unfold sgA
   rw [hO,hs]
   simp
  rw [e,← hC,← hP,← hV]
  rfl
 ·rw [if_neg hm]
  have hit:itemM' l ((i + 1:Nat):Int)=itemM' l i:=by
   have m1:=a1.mem
   have m2:=a1.max
   have m3:=a1.le
   have m4:=a.mem
   have n4:=a.le
   have n1:=a1.nn
   have n2:=a.nn
   have u1:itemM' l ((i + 1:Nat):Int)≤itemM' l i:=by
    rcases m1 with e | e
    ·rw [e]; exact a.nn
    ·refine a.max _ e ?_
     have:itemM' l ((i + 1:Nat):Int) ≠ ((i + 1:Nat):Int):=by
      intro e'; rw [e'] at e; exact hm e
     omega
   have u2:itemM' l i≤itemM' l ((i + 1:Nat):Int):=by
    rcases m4 with e | e
    ·rw [e]; exact a1.nn
    ·exact a1.max _ e (by omega)
   omega
  have hO:(declM (sgA l i) (nodeAt l i)).O=selU l (qO l (itemM' l ((i + 1:Nat):Int))) (i + 1):=by
   rw [hit]
   have eu:selU l (qO l (itemM' l i)) (i + 1)=if qO l (itemM' l i) i then selU l (qO l (itemM' l i)) i ++ [w0 (nodeAt l i)] else selU l (qO l (itemM' l i)) i:=rfl
   rw [eu]
   unfold declM
   by_cases e2:(nodeAt l i).kind=2
   ·have hv:=var_ins h hi e2
    rw [if_neg (by omega),if_neg (by omega),if_pos e2,hv]
    unfold qO
    rw [e2]
    by_cases c:itemM' l i=i
    ·simp [c,sgA]; rfl
    ·simp [c,sgA]; rfl
   ·have hq:qO l (itemM' l i) i=false:=by unfold qO; simp [e2]
    rw [hq]
    simp only [Bool.false_eq_true,if_false]
    split
    ·rfl
    ·split
     ·rfl
     ·rfl
  have hI:(declM (sgA l i) (nodeAt l i)).ins=(sgA l (i + 1)).ins:=by
   have e1':(sgA l (i + 1)).ins=(decide (itemM' l i < ((i + 1:Nat):Int)) && decide ((nodeAt l (itemM' l i).toNat).kind=3)):=by
    unfold sgA; simp only; rw [hit]
   have e2':(sgA l i).ins=(decide (itemM' l i < i) && decide ((nodeAt l (itemM' l i).toNat).kind=3)):=rfl
   rw [e1']
   have hle:=a.le
   rw [decide_eq_true (show itemM' l i < ((i + 1:Nat):Int) by omega),Bool.true_and]
   unfold declM
   by_cases k3:(nodeAt l i).kind=3
   ·rw [if_neg (by omega),if_pos k3]
    simp only
    have hself:itemM' l i=i:=by
     rcases (item_of h hi (.inr (.inr (.inl k3)))).2 with e | ⟨e,_⟩
     ·exact itm_self t e
     ·omega
    rw [hself]; simp [k3]
   ·have hins:(sgA l i).ins=decide ((nodeAt l (itemM' l i).toNat).kind=3):=by
     rw [e2']
     by_cases c:itemM' l i < i
     ·rw [decide_eq_true c,Bool.true_and]
     ·have:itemM' l i=i:=by omega
      rw [this]; simp [k3]
    rw [if_neg k3]
    split
    ·exact hins
    ·split
     ·split <;> exact hins
     ·exact hins
  have e:sgA l (i + 1)=⟨selU l (qC l) (i + 1),selU l (qV l) (i + 1),selU l (qP l) (i + 1),selU l (qO l (itemM' l ((i + 1:Nat):Int))) (i + 1),(sgA l (i + 1)).ins⟩:=rfl
  rw [e,← hC,← hP,← hV,← hO,← hI]
theorem runL_first {l:List Nd} (h:prRightM l=true) (stop:Nat→Sg→Bool) :
  runL stop l 0 (nodeAt l 0).kids sg0=(firstT (fun i=>stop i (sgA l i)) l.length 0).map fun i=>(i,sgA l i):=by
 have t:=tre_of h
 have key:∀ (m i:Nat) (pre ks:List Int) (g:Sg),m + i=l.length→(nodeAt l 0).kids=pre ++ ks→(∀ k ∈ pre,k < i)→(∀ k ∈ ks,(i:Int)≤k) →
   (if ((i:Int) ∈ (nodeAt l 0).kids) then resetM g else g)=sgA l i→runL stop (l.drop i) i ks g=(firstT (fun i=>stop i (sgA l i)) m i).map fun i=>(i,sgA l i):=by
  intro m
  induction m with
  | zero =>
   intro i pre ks g hm _ _ _ _
   rw [List.drop_eq_nil_of_le (by omega)]
   rfl
  | succ m IH =>
   intro i pre ks g hm hk hpre hks hg
   have hin:i < l.length:=by omega
   have hd:l.drop i=nodeAt l i :: l.drop (i + 1):=by
    rw [List.drop_eq_getElem_cons hin]; congr 1; simp [nodeAt,hin]
   have hinc:=t.inc
   rw [hk] at hinc
   have hhit:hitM ks i=decide ((i:Int) ∈ (nodeAt l 0).kids):=by
    rw [hk]
    cases ks with
    | nil =>
     unfold hitM
     symm
     simp only [List.append_nil,decide_eq_false_iff_not]
     intro hc; have:=hpre _ hc; omega
    | cons k ks' =>
     unfold hitM
     by_cases c:k=i
     ·subst c; simp
     ·simp only [c,decide_false]
      symm
      simp only [List.mem_append,decide_eq_false_iff_not,List.mem_cons]
      rintro (hc | hc | hc)
      ·have:=hpre _ hc; omega
      ·exact c hc.symm
      ·have h1:=hks k (by simp)
       have h2:=(List.pairwise_append.1 hinc).2.1
       have:=(List.pairwise_cons.1 h2).1 _ hc
       omega
   have hg':(if hitM ks i then resetM g else g)=sgA l i:=by
    rw [hhit,← hg]
    by_cases c:(i:Int) ∈ (nodeAt l 0).kids
    ·simp [c]
    ·simp [c]
   rw [hd]
   unfold runL firstT
   rw [hg']
   cases hst:stop i (sgA l i)
   ·simp only [Bool.false_eq_true,if_false]
    have hstep:=sgA_step h hin
    have hlast:∀ k ∈ (if hitM ks i then ks.tail else ks),((i + 1:Nat):Int)≤k:=by
     intro k hk'
     have h2:=(List.pairwise_append.1 hinc).2.1
     cases ks with
     | nil=>simp at hk'
     | cons k0 ks' =>
      unfold hitM at hk'
      by_cases c:k0=i
      ·subst c
       simp only [decide_true,if_true,List.tail_cons] at hk'
       have:=(List.pairwise_cons.1 h2).1 _ hk'
       omega
      ·simp only [c,decide_false,Bool.false_eq_true,if_false] at hk'
       have h0:=hks k0 (by simp)
       rw [List.mem_cons] at hk'
       rcases hk' with rfl | hk'
       ·omega
       ·have:=(List.pairwise_cons.1 h2).1 _ hk'
        omega
    refine IH (i + 1) (if hitM ks i then pre ++ [(i:Int)] else pre) _ _ (by omega) ?_ ?_ hlast ?_
    ·rw [hk]
     cases ks with
     | nil=>rfl
     | cons k0 ks' =>
      unfold hitM
      by_cases c:k0=i
      ·subst c; simp
      ·simp [c]
    ·intro k hk'
     split at hk'
     ·rw [List.mem_append,List.mem_singleton] at hk'
      rcases hk' with hk' | rfl
      ·have:=hpre k hk'; omega
      ·omega
     ·have:=hpre k hk'; omega
    ·exact hstep
   ·simp
 have h0:(if ((0:Nat):Int) ∈ (nodeAt l 0).kids then resetM sg0 else sg0)=sgA l 0:=by
  have hn:¬ ((0:Nat):Int) ∈ (nodeAt l 0).kids:=fun e=>by have:=t.kpos _ e; omega
  rw [if_neg hn]
  have:itemM' l ((0:Nat):Int)=0:=by
   have:=itm t 0
   have:=this.le; have:=(itm t 0).nn; omega
  unfold sgA
  rw [this]
  rfl
 have:=key l.length 0 [] (nodeAt l 0).kids sg0 (by omega) rfl (by simp) (fun k hk=>by have:=t.kpos k hk; omega) h0
 simpa using this
theorem namesU_mem {l:List Nd} {it kind:Int} {s:Str}:∀ {i:Nat},inL (namesU l it kind i) s=true↔∃ j,j < i∧((nodeAt l j).kind=kind∧(itemM' l j=j∨itemM' l j=it))∧w0 (nodeAt l j)=s
 | 0=>by simp [namesU,inL]
 | i + 1=>by
  unfold namesU
  have ih:=namesU_mem (l:=l) (it:=it) (kind:=kind) (s:=s) (i:=i)
  by_cases hq:(nodeAt l i).kind=kind∧(itemM' l i=i∨itemM' l i=it)
  ·rw [if_pos hq]
   have e:inL (if inL (namesU l it kind i) (w0 (nodeAt l i))=true then namesU l it kind i else namesU l it kind i ++ [w0 (nodeAt l i)]) s=true↔inL (namesU l it kind i) s=true∨w0 (nodeAt l i)=s:=by
    by_cases c:inL (namesU l it kind i) (w0 (nodeAt l i))=true
    ·rw [if_pos c]
     constructor
     ·exact .inl
     ·rintro (h | rfl)
      ·exact h
      ·exact c
    ·rw [if_neg c]
     unfold inL; simp [List.any_append]
   rw [e,ih]
   constructor
   ·rintro (⟨j,h1,h2,h3⟩ | h)
    ·exact ⟨j,by omega,h2,h3⟩
    ·exact ⟨i,by omega,hq,h⟩
   ·rintro ⟨j,h1,h2,h3⟩
    by_cases hj:j=i
    ·subst hj; exact .inr h3
    ·exact .inl ⟨j,by omega,h2,h3⟩
  ·rw [if_neg hq,ih]
   constructor
   ·rintro ⟨j,h1,h2,h3⟩
    exact ⟨j,by omega,h2,h3⟩
   ·rintro ⟨j,h1,h2,h3⟩
    have hj:j ≠ i:=by rintro rfl; exact hq h2
    exact ⟨j,by omega,h2,h3⟩
theorem see_C {l:List Nd} (h:prRightM l=true) {i:Nat} (hi:i < l.length) (s:Str):inL (namesM l i 1) s=inL (sgA l i).C s:=by
 rw [Bool.eq_iff_iff]
 unfold namesM sgA
 simp only
 rw [namesU_mem,selU_mem]
 constructor
 ·rintro ⟨j,h1,h2,h3⟩
  exact ⟨j,h1,by unfold qC; simp [h2.1],h3⟩
 ·rintro ⟨j,h1,h2,h3⟩
  unfold qC at h2
  rw [decide_eq_true_eq] at h2
  refine ⟨j,h1,⟨h2,.inl ?_⟩,h3⟩
  rcases (item_of h (by omega) (.inl h2)).2 with e | ⟨e,_⟩
  ·exact itm_self (tre_of h) e
  ·omega
theorem see_P {l:List Nd} (h:prRightM l=true) {i:Nat} (hi:i < l.length) (s:Str):inL (namesM l i 3) s=inL (sgA l i).P s:=by
 rw [Bool.eq_iff_iff]
 unfold namesM sgA
 simp only
 rw [namesU_mem,selU_mem]
 constructor
 ·rintro ⟨j,h1,h2,h3⟩
  exact ⟨j,h1,by unfold qP; simp [h2.1],h3⟩
 ·rintro ⟨j,h1,h2,h3⟩
  unfold qP at h2
  rw [decide_eq_true_eq] at h2
  refine ⟨j,h1,⟨h2,.inl ?_⟩,h3⟩
  rcases (item_of h (by omega) (.inr (.inr (.inl h2)))).2 with e | ⟨e,_⟩
  ·exact itm_self (tre_of h) e
  ·omega
theorem see_V {l:List Nd} (h:prRightM l=true) {i:Nat} (hi:i < l.length) (s:Str):inL (namesM l i 2) s=(inL (sgA l i).V s || inL (sgA l i).O s):=by
 rw [Bool.eq_iff_iff,Bool.or_eq_true]
 unfold namesM sgA
 simp only
 rw [namesU_mem,selU_mem,selU_mem]
 constructor
 ·rintro ⟨j,h1,⟨h2,h4⟩,h3⟩
  by_cases c:itemM' l j=j
  ·exact .inl ⟨j,h1,by unfold qV; simp [h2,c],h3⟩
  ·exact .inr ⟨j,h1,by unfold qO; rw [decide_eq_true h2,decide_eq_false c,decide_eq_true (h4.resolve_left c)]; rfl,h3⟩
 ·rintro (⟨j,h1,h2,h3⟩ | ⟨j,h1,h2,h3⟩)
  ·unfold qV at h2
   simp only [Bool.and_eq_true,decide_eq_true_eq] at h2
   exact ⟨j,h1,⟨h2.1,.inl h2.2⟩,h3⟩
  ·unfold qO at h2
   simp only [Bool.and_eq_true,decide_eq_true_eq] at h2
   exact ⟨j,h1,⟨h2.1,.inr h2.2.2⟩,h3⟩
theorem bad_eq {l:List Nd} (h:prRightM l=true) {i:Nat} (hi:i < l.length):stopC l i (sgA l i)=bad11 l i:=by
 unfold stopC bad11 wrongM
 simp only [see_C h hi,see_V h hi,see_P h hi,Bool.or_assoc]
theorem firstT_congr {g g':Nat→Bool}:∀ (m i:Nat),(∀ j,i≤j→j < i + m→g j=g' j)→firstT g m i=firstT g' m i
 | 0,_,_=>rfl
 | m + 1,i,h=>by
  unfold firstT
  rw [h i (by omega) (by omega),firstT_congr m (i + 1) (fun j h1 h2=>h j (by omega) (by omega))]
theorem scope_eq {l:List Nd} (h:prRightM l=true):scopeM l=check11 l:=by
 unfold scopeM check11
 rw [if_pos h,runL_first h,Option.map_map]
 rw [firstT_congr (g:=fun i=>stopC l i (sgA l i)) (g':=bad11 l) l.length 0 (fun j h1 h2=>bad_eq h (by omega))]
 congr 1
 cases firstT (bad11 l) l.length 0 <;> rfl
end Go.Proofs.YtmihefbdghjeoaaGreat
namespace Go.HL
open Go.ChangeShapes Go.WideShapes Go.ChangeAt Go.RowKit
section
variable {H:Type} {enc:TypeId × Value→H} {P:Program} {W:World}
theorem TR.cap {t e:TypeId} {a:Option Addr} {len cap:Nat} (ht:P.underlying t=some (.slice e)) (h:TR enc P W t [.slice a len cap]):len≤cap:=by
 obtain ⟨fuel,x,h⟩:=h
 cases fuel with
 | zero=>simp [DataW.trod] at h
 | succ fuel =>
  unfold DataW.trod at h
  rw [ht] at h
  split at h <;> first | (simp at *; done) | skip
  ·rename_i hc
   simp only [List.cons.injEq,Value.slice.injEq,and_true] at hc
   omega
  ·rename_i e' a' len' cap' he hc
   simp only [List.cons.injEq,Value.slice.injEq,and_true] at hc
   obtain ⟨rfl,rfl,rfl⟩:=hc
   simp only at h
   split at h
   ·rename_i hb; omega
   ·simp at h
theorem TR.rd {α:Type} {f:α→Value} {p:α→Prop} {t e:TypeId} {cs:List Value} (ht:P.underlying t=some (.slice e)) (hz:P.cellsOf e=1) (hf:∀ x,TR enc P W e [x]→∃ y,x=f y∧p y) (h:TR enc P W t cs) :
  ∃ (v:Value) (l:List α),cs = [v]∧Rd W.heap (fun _=>True) 1 v (l.map f)∧l.length≤maxLen∧(∀ y ∈ l,p y)∧∀ a m c,v=.slice a m c→m≤c:=by
 obtain ⟨a,len,cap,rfl,hl,hr⟩:=h.slice (z:=1) ht hz (by omega)
 have hcap:=TR.cap ht h
 have key:∀ i,i < len→∃ y:α,(∃ b o,a=some ⟨b,o,none⟩∧cellH W.heap ⟨b,o + i,none⟩=some (f y))∧p y:=by
  intro i hi
  obtain ⟨b,o,rfl,hrow⟩:=hr (by omega)
  obtain ⟨es,hes,hc,ht⟩:=hrow i hi
  match es,hes with
  | [x0],_ =>
   obtain ⟨y,rfl,hy⟩:=hf x0 ht
   have c0:=hc 0 (by omega)
   simp at c0
   exact ⟨y,⟨b,o,rfl,c0⟩,hy⟩
 obtain ⟨l,g1,g2⟩:=list_of key
 subst g1
 refine ⟨_,l,rfl,⟨a,l.length,cap,rfl,by simp,?_⟩,hl,?_,?_⟩
 ·intro i x hx
  rw [List.getElem?_map,Option.map_eq_some_iff] at hx
  obtain ⟨y,hy,rfl⟩:=hx
  obtain ⟨⟨b,o,e,hc⟩,_⟩:=g2 i y hy
  exact ⟨b,o,e,trivial,hc⟩
 ·intro y hy
  obtain ⟨i,hi⟩:=List.getElem?_of_mem hy
  exact (g2 i y hi).2
 ·intro a' m c e
  simp only [Value.slice.injEq] at e
  omega
end
end Go.HL
namespace Go.Proofs.YtmihefbdghjeoaaGreat
open Go.ChangeShapes Go.WideShapes Go.ChangeAt Go.RowKit Go.HL
set_option maxRecDepth 100000
theorem maxLen_eq:maxLen=9223372036854775807:=rfl
theorem arg_nodes {H:Type} {enc:TypeId × Value→H} {W:World} {r:Reach} {b0:Nat} {v:Value} {d:DataW H} {ps:List MemPlace}
  (hval:Value.okWide Tryz.prog W r b0 22 v) (hd:DataW.Trod enc Tryz.prog W 0 (fun _=>true) true 22 v d ps):∃ l,NL W.heap (fun _=>True) v l∧Sz l:=by
 obtain ⟨a0,len0,cap0,rfl⟩:=okWide_slice Tryz.underlying22 hval
 obtain ⟨a,len,cap,e,hl,hr⟩:=(Go.HL.TR.of hd).slice (z:=5) Tryz.underlying22 (by kernel_rfl) (by omega)
 simp [Value.cells] at e
 obtain ⟨rfl,rfl,rfl⟩:=e
 have key:∀ i,i < len0→∃ an:AN,(∃ b o,a0=some ⟨b,o,none⟩∧∀ j y,(anC an)[j]?=some y→cellH W.heap ⟨b,o + (i * 5 + j),none⟩=some y)∧AR W.heap (fun _=>True) an ∧
   an.n.words.length≤maxLen∧an.n.nums.length≤maxLen∧an.n.kids.length≤maxLen∧∀ w ∈ an.n.words,w.length≤maxLen:=by
  intro i hi
  obtain ⟨b,o,rfl,hrow⟩:=hr (by omega)
  obtain ⟨es,hes,hc,ht⟩:=hrow i hi
  obtain ⟨h1,h2⟩:=ht.struct Tryz.underlying47
  match es,hes with
  | [x0,x1,x2,x3,x4],_ =>
   have s0:Tryz.prog.cellsOf 3=1:=by kernel_rfl
   have s1:Tryz.prog.cellsOf 41=1:=by kernel_rfl
   have s2:Tryz.prog.cellsOf 28=1:=by kernel_rfl
   have s3:Tryz.prog.cellsOf 9=1:=by kernel_rfl
   have t0:=h2 _ (by simp; exact .inl rfl)
   have t1:=h2 _ (by simp; exact .inr (.inl rfl))
   have t2:=h2 _ (by simp; exact .inr (.inr (.inl rfl)))
   have t3:=h2 _ (by simp; exact .inr (.inr (.inr (.inl rfl))))
   have t4:=h2 _ (by simp; exact .inr (.inr (.inr (.inr rfl))))
   simp only [s0,s1,s2,List.drop_zero,List.drop_succ_cons,List.take_succ_cons,List.take_zero] at t0 t1 t2 t3 t4
   obtain ⟨n0,e0,w0⟩:=Go.HL.TR.int (k:=.i64) Tryz.underlying3 t0
   obtain ⟨n4,e4,w4⟩:=Go.HL.TR.int (k:=.i64) Tryz.underlying3 t4
   have fstr:∀ x,Go.HL.TR enc Tryz.prog W 9 [x]→∃ y:Str,x=sv y∧y.length≤maxLen:=by
    intro x hx
    obtain ⟨s,e,hs⟩:=Go.HL.TR.string Tryz.underlying9 hx
    simp only [List.cons.injEq,and_true] at e
    subst e
    obtain ⟨y,rfl⟩:=bs_of s
    exact ⟨y,rfl,by rwa [bs_size] at hs⟩
   have fint:∀ x,Go.HL.TR enc Tryz.prog W 3 [x]→∃ y:Int,x=iv y∧True:=by
    intro x hx
    obtain ⟨s,e,hs⟩:=Go.HL.TR.int (k:=.i64) Tryz.underlying3 hx
    simp only [List.cons.injEq,and_true] at e
    exact ⟨s,e,trivial⟩
   obtain ⟨v1,l1,e1,r1,z1,p1,_⟩:=Go.HL.TR.rd Tryz.underlying41 s3 fstr t1
   obtain ⟨v2,l2,e2,r2,z2,_,_⟩:=Go.HL.TR.rd Tryz.underlying28 s0 fint t2
   obtain ⟨v3,l3,e3,r3,z3,_,k3⟩:=Go.HL.TR.rd Tryz.underlying28 s0 fint t3
   simp only [List.cons.injEq,and_true] at e0 e1 e2 e3 e4
   subst e0 e1 e2 e3 e4
   refine ⟨⟨⟨n0,l1,l2,l3,n4⟩,x1,x2,x3⟩,⟨b,o,rfl,?_⟩,⟨r1,r2,r3,k3⟩,z1,z2,z3,p1⟩
   intro j y hy
   have hj:j < 5:=(List.getElem?_eq_some_iff.1 hy).1
   have:=hc j hj
   rw [← Nat.add_assoc,this]
   exact hy
 obtain ⟨ans,g1,g2⟩:=list_of key
 subst g1
 have hat:∀ (i:Nat) n,(ans.map AN.n)[i]?=some n→∃ an,ans[i]?=some an∧an.n=n:=by
  intro i n hi
  rw [List.getElem?_map,Option.map_eq_some_iff] at hi
  exact hi
 refine ⟨ans.map AN.n,⟨ans,rfl,⟨a0,ans.length,cap0,rfl,flat_len anL ans,?_⟩,?_⟩,?_⟩
 ·intro i x hx
  have hil:=(List.getElem?_eq_some_iff.1 hx).1
  rw [flat_len anL] at hil
  have hq:i / 5 < ans.length:=by omega
  have hg:ans[i / 5]?=some ans[i / 5]:=by simp
  obtain ⟨⟨b,o,e,hc⟩,_⟩:=g2 (i / 5) _ hg
  refine ⟨b,o,e,trivial,?_⟩
  have h5:i=i / 5 * 5 + i % 5:=by omega
  have hx':=flat_get (f:=anC) anL (j:=i % 5) (by omega) ans (i / 5) _ hg
  rw [← h5,hx] at hx'
  rw [h5]
  exact hc _ _ hx'.symm
 ·intro an han
  obtain ⟨i,hi⟩:=List.getElem?_of_mem han
  exact (g2 i an hi).2.1
 ·refine ⟨by rw [List.length_map]; exact hl,?_,?_,?_,?_⟩
  ·intro i n hi
   obtain ⟨an,h1,rfl⟩:=hat i n hi
   exact (g2 i an h1).2.2.1
  ·intro i n hi
   obtain ⟨an,h1,rfl⟩:=hat i n hi
   exact (g2 i an h1).2.2.2.1
  ·intro i n hi
   obtain ⟨an,h1,rfl⟩:=hat i n hi
   exact (g2 i an h1).2.2.2.2.1
  ·intro i n hi
   obtain ⟨an,h1,rfl⟩:=hat i n hi
   exact (g2 i an h1).2.2.2.2.2
end Go.Proofs.YtmihefbdghjeoaaGreat
