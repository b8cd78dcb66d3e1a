/- Texts of this proof, put together: RgtA, RgtB, RgtC, RgtD, RgtE. The conditions of each theorem stand in it. -/
import Derived.Test.YtcffdpmmadipeaaGreatDoorMX6
set_option linter.unusedSimpArgs false
set_option linter.unusedVariables false
namespace Go.Proofs.YtcffdpmmadipeaaGreatDoor
open Go.HL
set_option maxRecDepth 10000
def allR (n:Nat) (g:Nat→Bool):Bool:=(List.range n).all g
theorem allR_true {n:Nat} {g:Nat→Bool} (h:∀ j,j < n→g j=true):allR n g=true:=by
 unfold allR; rw [List.all_eq_true]; intro j hj; exact h j (List.mem_range.1 hj)
theorem allR_false {n j:Nat} {g:Nat→Bool} (hj:j < n) (h:g j=false):allR n g=false:=by
 unfold allR; rw [List.all_eq_false]; exact ⟨j,List.mem_range.2 hj,by simp [h]⟩
theorem allR_iff {n:Nat} {g:Nat→Bool}:allR n g=true↔∀ j,j < n→g j=true:=by
 unfold allR; rw [List.all_eq_true]; simp
abbrev anV (a:AN):Value:=.agg #[iv a.n.kind,a.wv,a.nv,a.kv,iv a.n.pos]
def nd0':Nd:=⟨0,[],[],[],0⟩
def knd (l:List Nd) (k:Int):Int:=(l.getD k.toNat nd0').kind
def kidA (n:Nd) (i:Nat):Int:=n.kids.getD i 0
def KOk (l:List Nd) (n:Nd):Prop:=∀ (i:Nat) k,n.kids[i]?=some k→0≤k∧k < l.length
def inB (k a b:Int):Bool:=decide (a≤k) && decide (k≤b)
def exprsM (l:List Nd) (n:Nd) (first least most:Nat):Bool :=
 allR n.kids.length (fun i=>if i < first then inB (knd l (kidA n i)) 17 22 else decide (knd l (kidA n i)=16)) && (decide (first + least≤n.kids.length) && decide (n.kids.length≤first + most))
def allM (l:List Nd) (n:Nd) (from':Nat) (a b:Int):Bool:=allR n.kids.length (fun i=>decide (i < from') || inB (knd l (kidA n i)) a b)
def numsM (n:Nd) (count:Nat) (most:Int):Bool:=allR n.nums.length (fun i=>decide (0≤n.nums.getD i 0) && decide (n.nums.getD i 0≤most)) && decide (n.nums.length=count)
def wordsM (n:Nd) (count:Nat):Bool:=allR n.words.length (fun i=>nameM (n.words.getD i [])) && decide (n.words.length=count)
theorem getD_some {α:Type} {l:List α} {i:Nat} {d:α} (h:i < l.length):l[i]?=some (l.getD i d):=by
 rw [List.getD_eq_getElem?_getD,List.getElem?_eq_getElem h]; rfl
section
variable {H:Heap} {S:Nat→Prop} {v:Value} {l:List Nd} {a:AN}
theorem r9in_spec {k x y:Int}:CallF Tryz.prog 31 [iv k,iv x,iv y] H (fun r H'=>H=H'∧r=.bool (inB k x y)) NoP:=by
 unfold inB
 refine callF_of Tryz.func31 rfl Tryz.ntmps31 Tryz.results31 (by decide) rfl ?_
 by_cases h1:x≤k
 ·simp (disch:=omega) only [go_sem,↓cB,dB]
  exact fin ⟨rfl,by simp [h1]⟩
 ·simp (disch:=omega) only [go_sem,↓cB,dB]
  exact fin ⟨rfl,by simp [h1]⟩
theorem AR.open (h:AR H S a):∃ n x1 c1 x2 c2 x3 c3,a=⟨n,.slice x1 n.words.length c1,.slice x2 n.nums.length c2,.slice x3 n.kids.length c3⟩:=by
 obtain ⟨n,wv,nv,kv⟩:=a
 obtain ⟨x1,c1,x2,c2,x3,c3,e1,e2,e3⟩:=h.forms
 simp only at e1 e2 e3
 subst e1 e2 e3
 exact ⟨n,x1,c1,x2,c2,x3,c3,rfl⟩
theorem r9kid_spec (h:NL H S v l) (ha:AR H S a) (hk:KOk l a.n) {i:Nat} (hi:i < a.n.kids.length) :
  CallF Tryz.prog 32 [v,anV a,iv i] H (fun r H'=>Fr [] H H'∧r=iv (knd l (kidA a.n i))) NoP:=by
 obtain ⟨n,x1,c1,x2,c2,x3,c3,rfl⟩:=ha.open
 simp only at hi hk
 have hki:=getD_some (d:=(0:Int)) hi
 obtain ⟨hk1,hk2⟩:=hk i _ hki
 have hkn:kidA n i=n.kids.getD i 0:=rfl
 rw [← hkn] at hki hk1 hk2
 have hln:=getD_some (l:=l) (d:=nd0') (i:=(kidA n i).toNat) (by omega)
 obtain ⟨G,hG⟩:∃ G,G=H.push (.cells #[iv n.kind,.slice x1 n.words.length c1,.slice x2 n.nums.length c2,.slice x3 n.kids.length c3,iv n.pos] 28):=⟨_,rfl⟩
 have f0:Fr [] H G:=by rw [hG]; exact Fr.push
 have hb:Blk G H.size 28 [iv n.kind,.slice x1 n.words.length c1,.slice x2 n.nums.length c2,.slice x3 n.kids.length c3,iv n.pos]:=by rw [hG]; exact Blk.new rfl
 have k3:=hb.cell 3
 simp only [gS,gZ] at k3
 obtain ⟨b,o,cap,q1,-,q2⟩:=(ha.k.frame (Keeps.of_fr f0 (by simp))).at1 hki
 obtain ⟨b',o',cap',a',p1,-,-,-,p2,-⟩:=(h.grow f0).row hln
 simp only [Value.slice.injEq,true_and] at q1
 obtain ⟨rfl,rfl⟩:=q1
 subst p1
 refine callF_of Tryz.func32 rfl Tryz.ntmps32 Tryz.results32 (by decide) rfl ?_
 simp (disch:=omega) only [go_sem,↓cB,dB,anV]
 rw [← hG]
 simp (disch:=omega) only [go_sem,↓cB,dB,k3,q2,p2]
 exact fin ⟨f0,rfl⟩
end
end Go.Proofs.YtcffdpmmadipeaaGreatDoor
namespace Go.Proofs.YtcffdpmmadipeaaGreatDoor
open Go.HL
set_option maxRecDepth 10000
section
variable {H:Heap} {S:Nat→Prop} {v:Value} {l:List Nd} {a:AN}
theorem r9nums_spec (ha:AR H S a) (hl:a.n.nums.length≤9223372036854775807) {count:Nat} {most:Int} :
  CallF Tryz.prog 29 [anV a,iv count,iv most] H (fun r H'=>Fr [] H H'∧r=.bool (numsM a.n count most)) NoP:=by
 obtain ⟨n,x1,c1,x2,c2,x3,c3,rfl⟩:=ha.open
 obtain ⟨G,hG⟩:∃ G,G=H.push (.cells #[iv n.kind,.slice x1 n.words.length c1,.slice x2 n.nums.length c2,.slice x3 n.kids.length c3,iv n.pos] 28):=⟨_,rfl⟩
 have f0:Fr [] H G:=by rw [hG]; exact Fr.push
 have hb:Blk G H.size 28 [iv n.kind,.slice x1 n.words.length c1,.slice x2 n.nums.length c2,.slice x3 n.kids.length c3,iv n.pos]:=by rw [hG]; exact Blk.new rfl
 have ar0:=ha.frame (Keeps.of_fr f0 (by simp))
 refine callF_of Tryz.func29 rfl Tryz.ntmps29 Tryz.results29 (by decide) rfl ?_
 simp (disch:=omega) only [go_sem,↓cB,dB,anV]
 rw [← hG]
 simp only at hl
 unfold numsM
 refine loop_by (fun k ρ H2=>∃ i:Nat,k=n.nums.length - i∧i≤n.nums.length∧(∀ j,j < i→(decide (0≤n.nums.getD j 0) && decide (n.nums.getD j 0≤most))=true)∧Fr [] G H2∧(ρ.get 1=iv count∧ρ.get 2=iv most∧ρ.get 3=hp H.size∧ρ.get 7=iv i∧ρ.ds = [])) (k:=n.nums.length) ?_ ?_
 ·exact ⟨0,rfl,by omega,by omega,Fr.refl _ _,by simp (disch:=omega) only [go_sem,↓cB,dB]⟩
 ·rintro k ρ H2 ⟨i,rfl,hi,hall,fr2,r1,r2,r3,r7,rd⟩
  have hb2:=fr2.blk hb (by simp)
  have ld2:=hb2.cells0
  simp only [List.length_cons,List.length_nil] at ld2
  have k0:=hb2.cell 0
  have k1:=hb2.cell 1
  have k2:=hb2.cell 2
  have k3:=hb2.cell 3
  simp only [gS,gZ] at k0 k1 k2 k3
  have hxi:(i:Int) + 1=((i + 1:Nat):Int):=by omega
  by_cases hin:i < n.nums.length
  ·have hg:=getD_some (d:=(0:Int)) hin
   obtain ⟨b,o,cap,q1,-,q2⟩:=(ar0.u.frame (Keeps.of_fr fr2 (by simp))).at1 hg
   simp only [Value.slice.injEq,true_and] at q1
   obtain ⟨rfl,rfl⟩:=q1
   generalize hy:n.nums.getD i 0=y at *
   by_cases h0:0≤y
   ·by_cases h1:y≤most
    ·simp (disch:=omega) only [go_sem,↓cB,dB,r1,r2,r3,r7,rd,k2,q2]
     refine fin ⟨n.nums.length - (i + 1),by omega,i + 1,rfl,by omega,?_,fr2,by simp (disch:=omega) only [go_sem,↓cB,dB,r1,r2,r3,r7,rd,hxi]⟩
     intro j hj
     by_cases e:j=i
     ·subst e; rw [hy]; simp [h0,h1]
     ·exact hall j (by omega)
    ·simp (disch:=omega) only [go_sem,↓cB,dB,r1,r2,r3,r7,rd,k2,q2]
     refine fin ⟨f0.trans fr2,?_⟩
     rw [allR_false hin (by rw [hy]; simp [h1])]; rfl
   ·simp (disch:=omega) only [go_sem,↓cB,dB,r1,r2,r3,r7,rd,k2,q2]
    refine fin ⟨f0.trans fr2,?_⟩
    rw [allR_false hin (by rw [hy]; simp [h0])]; rfl
  ·obtain rfl:i=n.nums.length:=by omega
   simp (disch:=omega) only [go_sem,↓cB,dB,r1,r2,r3,r7,rd,k2]
   refine fin ⟨f0.trans fr2,?_⟩
   rw [allR_true hall]
   have e:((n.nums.length:Int)=(count:Int))↔(n.nums.length=count):=by omega
   simp [e]
theorem r9words_spec (ha:AR H S a) (hl:a.n.words.length≤9223372036854775807) {count:Nat} :
  CallF Tryz.prog 28 [anV a,iv count] H (fun r H'=>Fr [] H H'∧r=.bool (wordsM a.n count)) NoP:=by
 obtain ⟨n,x1,c1,x2,c2,x3,c3,rfl⟩:=ha.open
 obtain ⟨G,hG⟩:∃ G,G=H.push (.cells #[iv n.kind,.slice x1 n.words.length c1,.slice x2 n.nums.length c2,.slice x3 n.kids.length c3,iv n.pos] 28):=⟨_,rfl⟩
 have f0:Fr [] H G:=by rw [hG]; exact Fr.push
 have hb:Blk G H.size 28 [iv n.kind,.slice x1 n.words.length c1,.slice x2 n.nums.length c2,.slice x3 n.kids.length c3,iv n.pos]:=by rw [hG]; exact Blk.new rfl
 have ar0:=ha.frame (Keeps.of_fr f0 (by simp))
 refine callF_of Tryz.func28 rfl Tryz.ntmps28 Tryz.results28 (by decide) rfl ?_
 simp (disch:=omega) only [go_sem,↓cB,dB,anV]
 rw [← hG]
 simp only at hl
 unfold wordsM
 refine loop_by (fun k ρ H2=>∃ i:Nat,k=n.words.length - i∧i≤n.words.length∧(∀ j,j < i→nameM (n.words.getD j [])=true)∧Fr [] G H2∧(ρ.get 1=iv count∧ρ.get 2=hp H.size∧ρ.get 5=iv i∧ρ.ds = [])) (k:=n.words.length) ?_ ?_
 ·exact ⟨0,rfl,by omega,by omega,Fr.refl _ _,by simp (disch:=omega) only [go_sem,↓cB,dB]⟩
 ·rintro k ρ H2 ⟨i,rfl,hi,hall,fr2,r1,r2,r5,rd⟩
  have hb2:=fr2.blk hb (by simp)
  have ld2:=hb2.cells0
  simp only [List.length_cons,List.length_nil] at ld2
  have k0:=hb2.cell 0
  have k1:=hb2.cell 1
  have k2:=hb2.cell 2
  have k3:=hb2.cell 3
  simp only [gS,gZ] at k0 k1 k2 k3
  have hxi:(i:Int) + 1=((i + 1:Nat):Int):=by omega
  by_cases hin:i < n.words.length
  ·have hg:=getD_some (d:=([]:Str)) hin
   obtain ⟨b,o,cap,q1,-,q2⟩:=(ar0.w.frame (Keeps.of_fr fr2 (by simp))).at1 hg
   simp only [Value.slice.injEq,true_and] at q1
   obtain ⟨rfl,rfl⟩:=q1
   simp (disch:=omega) only [go_sem,↓cB,dB,r1,r2,r5,rd,k1,q2]
   refine call_to r8Name_spec ?_
   intro v5 H5 hv
   refine Hush.out ?_
   obtain ⟨fr5,rfl⟩:=hv
   cases hn:nameM (n.words.getD i [])
   ·refine ⟨?_⟩
    simp (disch:=omega) only [go_sem,↓cB,dB,r1,r2,r5,rd]
    refine fin ⟨(f0.trans fr2).trans fr5,?_⟩
    rw [allR_false hin hn]; rfl
   ·refine ⟨?_⟩
    simp (disch:=omega) only [go_sem,↓cB,dB,r1,r2,r5,rd]
    refine fin ⟨n.words.length - (i + 1),by omega,i + 1,rfl,by omega,?_,fr2.trans fr5,by simp (disch:=omega) only [go_sem,↓cB,dB,r1,r2,r5,rd,hxi]⟩
    intro j hj
    by_cases e:j=i
    ·subst e; exact hn
    ·exact hall j (by omega)
  ·obtain rfl:i=n.words.length:=by omega
   simp (disch:=omega) only [go_sem,↓cB,dB,r1,r2,r5,rd,k1]
   refine fin ⟨f0.trans fr2,?_⟩
   rw [allR_true hall]
   have e:((n.words.length:Int)=(count:Int))↔(n.words.length=count):=by omega
   simp [e]
theorem r9all_spec (h:NL H S v l) (ha:AR H S a) (hk:KOk l a.n) (hl:a.n.kids.length≤9223372036854775807) {m:Nat} (hm:m≤a.n.kids.length) {x y:Int} :
  CallF Tryz.prog 30 [v,anV a,iv m,iv x,iv y] H (fun r H'=>Fr [] H H'∧r=.bool (allM l a.n m x y)) NoP:=by
 obtain ⟨n,x1,c1,x2,c2,x3,c3,rfl⟩:=ha.open
 obtain ⟨G,hG⟩:∃ G,G=H.push (.cells #[iv n.kind,.slice x1 n.words.length c1,.slice x2 n.nums.length c2,.slice x3 n.kids.length c3,iv n.pos] 28):=⟨_,rfl⟩
 have f0:Fr [] H G:=by rw [hG]; exact Fr.push
 have hb:Blk G H.size 28 [iv n.kind,.slice x1 n.words.length c1,.slice x2 n.nums.length c2,.slice x3 n.kids.length c3,iv n.pos]:=by rw [hG]; exact Blk.new rfl
 have ar0:=ha.frame (Keeps.of_fr f0 (by simp))
 refine callF_of Tryz.func30 rfl Tryz.ntmps30 Tryz.results30 (by decide) rfl ?_
 simp (disch:=omega) only [go_sem,↓cB,dB,anV]
 rw [← hG]
 simp only at hl hk hm
 have h0:=h.grow f0
 unfold allM
 refine loop_by (fun k ρ H2=>∃ i:Nat,k=n.kids.length - i∧m≤i∧i≤n.kids.length∧(∀ j,j < i→(decide (j < m) || inB (knd l (kidA n j)) x y)=true)∧Fr [] G H2∧(ρ.get 0=v∧ρ.get 3=iv x∧ρ.get 4=iv y∧ρ.get 6=hp H.size∧ρ.get 11=iv i∧ρ.ds = [])) (k:=n.kids.length - m) ?_ ?_
 ·exact ⟨m,rfl,by omega,by omega,by intro j hj; simp [hj],Fr.refl _ _,by simp (disch:=omega) only [go_sem,↓cB,dB]⟩
 ·rintro k ρ H2 ⟨i,rfl,him,hi,hall,fr2,q0,r3,r4,r6,r11,rd⟩
  have hb2:=fr2.blk hb (by simp)
  have ld2:=hb2.cells0
  simp only [List.length_cons,List.length_nil] at ld2
  have k0:=hb2.cell 0
  have k1:=hb2.cell 1
  have k2:=hb2.cell 2
  have k3:=hb2.cell 3
  simp only [gS,gZ] at k0 k1 k2 k3
  have hxi:(i:Int) + 1=((i + 1:Nat):Int):=by omega
  by_cases hin:i < n.kids.length
  ·simp (disch:=omega) only [go_sem,↓cB,dB,q0,r3,r4,r6,r11,rd,k3,ld2]
   refine call_to (r9kid_spec (h0.grow fr2) (ar0.frame (Keeps.of_fr fr2 (by simp))) hk hin) ?_
   intro v5 H5 hv
   refine Hush.out ?_
   obtain ⟨fr5,rfl⟩:=hv
   refine ⟨?_⟩
   simp (disch:=omega) only [go_sem,↓cB,dB,q0,r3,r4,r6,r11,rd]
   refine call_to r9in_spec ?_
   intro v6 H6 hv
   refine Hush.out ?_
   obtain ⟨rfl,rfl⟩:=hv
   cases hn:inB (knd l (kidA n i)) x y
   ·refine ⟨?_⟩
    simp (disch:=omega) only [go_sem,↓cB,dB,q0,r3,r4,r6,r11,rd]
    refine fin ⟨(f0.trans fr2).trans fr5,?_⟩
    rw [allR_false hin (by rw [hn]; simp; omega)]
   ·refine ⟨?_⟩
    simp (disch:=omega) only [go_sem,↓cB,dB,q0,r3,r4,r6,r11,rd]
    refine fin ⟨n.kids.length - (i + 1),by omega,i + 1,rfl,by omega,by omega,?_,fr2.trans fr5,by simp (disch:=omega) only [go_sem,↓cB,dB,q0,r3,r4,r6,r11,rd,hxi]⟩
    intro j hj
    by_cases e:j=i
    ·subst e; simp [hn]
    ·exact hall j (by omega)
  ·obtain rfl:i=n.kids.length:=by omega
   simp (disch:=omega) only [go_sem,↓cB,dB,q0,r3,r4,r6,r11,rd,k3]
   refine fin ⟨f0.trans fr2,?_⟩
   rw [allR_true hall]
theorem r9exprs_spec (h:NL H S v l) (ha:AR H S a) (hk:KOk l a.n) (hl:a.n.kids.length≤9223372036854775807) {f e m:Nat} (hf:f≤1000) (he:e≤1000) (hm:m≤1000) :
  CallF Tryz.prog 33 [v,anV a,iv f,iv e,iv m] H (fun r H'=>Fr [] H H'∧r=.bool (exprsM l a.n f e m)) NoP:=by
 obtain ⟨n,x1,c1,x2,c2,x3,c3,rfl⟩:=ha.open
 obtain ⟨G,hG⟩:∃ G,G=H.push (.cells #[iv n.kind,.slice x1 n.words.length c1,.slice x2 n.nums.length c2,.slice x3 n.kids.length c3,iv n.pos] 28):=⟨_,rfl⟩
 have f0:Fr [] H G:=by rw [hG]; exact Fr.push
 have hb:Blk G H.size 28 [iv n.kind,.slice x1 n.words.length c1,.slice x2 n.nums.length c2,.slice x3 n.kids.length c3,iv n.pos]:=by rw [hG]; exact Blk.new rfl
 have ar0:=ha.frame (Keeps.of_fr f0 (by simp))
 refine callF_of Tryz.func33 rfl Tryz.ntmps33 Tryz.results33 (by decide) rfl ?_
 simp (disch:=omega) only [go_sem,↓cB,dB,anV]
 rw [← hG]
 simp only at hl hk
 have h0:=h.grow f0
 unfold exprsM
 refine loop_by (fun k ρ H2=>∃ i:Nat,k=n.kids.length - i∧i≤n.kids.length∧(∀ j,j < i→(if j < f then inB (knd l (kidA n j)) 17 22 else decide (knd l (kidA n j)=16))=true)∧Fr [] G H2∧(ρ.get 0=v∧ρ.get 2=iv f∧ρ.get 3=iv e∧ρ.get 4=iv m∧ρ.get 6=hp H.size∧ρ.get 11=iv n.kids.length∧ρ.get 12=iv i∧ρ.ds = [])) (k:=n.kids.length) ?_ ?_
 ·exact ⟨0,rfl,by omega,by omega,Fr.refl _ _,by simp (disch:=omega) only [go_sem,↓cB,dB]⟩
 ·rintro k ρ H2 ⟨i,rfl,hi,hall,fr2,q0,r2,r3,r4,r6,r11,r12,rd⟩
  have hb2:=fr2.blk hb (by simp)
  have ld2:=hb2.cells0
  simp only [List.length_cons,List.length_nil] at ld2
  have k0:=hb2.cell 0
  have k1:=hb2.cell 1
  have k2:=hb2.cell 2
  have k3:=hb2.cell 3
  simp only [gS,gZ] at k0 k1 k2 k3
  have hxi:(i:Int) + 1=((i + 1:Nat):Int):=by omega
  by_cases hin:i < n.kids.length
  ·have hkid:=r9kid_spec (h0.grow fr2) (ar0.frame (Keeps.of_fr fr2 (by simp))) hk hin
   by_cases hfi:i < f
   ·simp (disch:=omega) only [go_sem,↓cB,dB,q0,r2,r3,r4,r6,r11,r12,rd,k3,ld2]
    refine call_to hkid ?_
    intro v5 H5 hv
    refine Hush.out ?_
    obtain ⟨fr5,rfl⟩:=hv
    refine ⟨?_⟩
    simp (disch:=omega) only [go_sem,↓cB,dB,q0,r2,r3,r4,r6,r11,r12,rd]
    refine call_to r9in_spec ?_
    intro v6 H6 hv
    refine Hush.out ?_
    obtain ⟨rfl,rfl⟩:=hv
    cases hn:inB (knd l (kidA n i)) 17 22
    ·refine ⟨?_⟩
     simp (disch:=omega) only [go_sem,↓cB,dB,q0,r2,r3,r4,r6,r11,r12,rd]
     refine fin ⟨(f0.trans fr2).trans fr5,?_⟩
     rw [allR_false hin (by rw [if_pos hfi]; exact hn)]; rfl
    ·refine ⟨?_⟩
     simp (disch:=omega) only [go_sem,↓cB,dB,q0,r2,r3,r4,r6,r11,r12,rd]
     refine fin ⟨n.kids.length - (i + 1),by omega,i + 1,rfl,by omega,?_,fr2.trans fr5,by simp (disch:=omega) only [go_sem,↓cB,dB,q0,r2,r3,r4,r6,r11,r12,rd,hxi]⟩
     intro j hj
     by_cases e:j=i
     ·subst e; rw [if_pos hfi]; exact hn
     ·exact hall j (by omega)
   ·simp (disch:=omega) only [go_sem,↓cB,dB,q0,r2,r3,r4,r6,r11,r12,rd,k3,ld2]
    refine call_to hkid ?_
    intro v5 H5 hv
    refine Hush.out ?_
    obtain ⟨fr5,rfl⟩:=hv
    by_cases hn:knd l (kidA n i)=16
    ·refine ⟨?_⟩
     simp (disch:=omega) only [go_sem,↓cB,dB,q0,r2,r3,r4,r6,r11,r12,rd,hn]
     refine fin ⟨n.kids.length - (i + 1),by omega,i + 1,rfl,by omega,?_,fr2.trans fr5,by simp (disch:=omega) only [go_sem,↓cB,dB,q0,r2,r3,r4,r6,r11,r12,rd,hxi]⟩
     intro j hj
     by_cases e:j=i
     ·subst e; rw [if_neg hfi]; simp [hn]
     ·exact hall j (by omega)
    ·refine ⟨?_⟩
     simp (disch:=omega) only [go_sem,↓cB,dB,q0,r2,r3,r4,r6,r11,r12,rd]
     refine fin ⟨(f0.trans fr2).trans fr5,?_⟩
     rw [allR_false hin (by rw [if_neg hfi]; simp [hn])]; rfl
  ·obtain rfl:i=n.kids.length:=by omega
   rw [allR_true hall,Bool.true_and]
   have e1:((n.kids.length:Int) ≥ (f:Int) + (e:Int))↔(f + e≤n.kids.length):=by omega
   have e2:((n.kids.length:Int)≤(f:Int) + (m:Int))↔(n.kids.length≤f + m):=by omega
   by_cases h1:f + e≤n.kids.length
   ·simp (disch:=omega) only [go_sem,↓cB,dB,q0,r2,r3,r4,r6,r11,r12,rd]
    refine fin ⟨f0.trans fr2,?_⟩
    simp [h1,e2]
   ·simp (disch:=omega) only [go_sem,↓cB,dB,q0,r2,r3,r4,r6,r11,r12,rd]
    refine fin ⟨f0.trans fr2,?_⟩
    simp [h1]
end
end Go.Proofs.YtcffdpmmadipeaaGreatDoor
namespace Go.Proofs.YtcffdpmmadipeaaGreatDoor
open Go.HL
set_option maxRecDepth 10000
def varsN (l:List Nd) (n:Nd):Nat:=(n.kids.takeWhile fun k=>decide (knd l k=2)).length
theorem tw_all {α:Type} {p:α→Bool}:∀ {l:List α},(∀ x ∈ l,p x=true)→l.takeWhile p=l
 | [],_=>rfl
 | a :: l,h=>by rw [List.takeWhile_cons_of_pos (h a (by simp)),tw_all (fun x hx=>h x (by simp [hx]))]
def nodeM (l:List Nd) (n:Nd):Bool :=
 if n.kind=0 then (wordsM n 0 && (numsM n 0 0 && allM l n 0 1 5))
 else if n.kind=1 then (wordsM n 1 && (numsM n 4 999999 && (decide (n.nums.getD 2 0≤1) && (decide (n.nums.getD 3 0≤1) && decide (n.kids.length=0)))))
 else if n.kind=2 then (wordsM n 1 && (decide (n.nums.length=2) && (inB (n.nums.getD 0 0) 0 999999 && (inB (n.nums.getD 1 0) (-999999) 999999 && decide (n.kids.length=0)))))
 else if n.kind=3 then (wordsM n 1 && (numsM n 1 999999 && allM l n (varsN l n) 6 15))
 else if n.kind=4 then (wordsM n 0 && (numsM n 0 0 && exprsM l n 1 0 0))
 else if n.kind=5 then (wordsM n 0 && (numsM n 0 0 && decide (n.kids.length=0)))
 else if n.kind=6 then (wordsM n 1 && (numsM n 0 0 && exprsM l n 1 0 0))
 else if n.kind=7 then (wordsM n 1 && (numsM n 0 0 && exprsM l n 1 0 0))
 else if n.kind=8 then (wordsM n 2 && (numsM n 1 1 && decide (n.kids.length=0)))
 else if n.kind=9 then (wordsM n 0 && (numsM n 1 1 && exprsM l n 1 0 0))
 else if n.kind=10 then (wordsM n 0 && (numsM n 1 1 && exprsM l n 0 1 800))
 else if n.kind=11 then (wordsM n 0 && (numsM n 0 0 && exprsM l n 1 1 2))
 else if n.kind=12 then (wordsM n 0 && (numsM n 0 0 && exprsM l n 1 1 1))
 else if n.kind=13 then (wordsM n 0 && (numsM n 0 0 && exprsM l n 0 1 1))
 else if n.kind=14 then (wordsM n 0 && (numsM n 0 0 && decide (n.kids.length=0)))
 else if n.kind=15 then (wordsM n 0 && (numsM n 0 0 && decide (n.kids.length=0)))
 else if n.kind=16 then (wordsM n 0 && (numsM n 0 0 && allM l n 0 6 15))
 else if n.kind=17 then (wordsM n 0 && (numsM n 1 999999 && decide (n.kids.length=0)))
 else if n.kind=18 then (wordsM n 1 && (numsM n 0 0 && decide (n.kids.length=0)))
 else if n.kind=19 then (wordsM n 1 && (numsM n 0 0 && decide (n.kids.length=0)))
 else if n.kind=20 then (wordsM n 0 && (numsM n 0 0 && exprsM l n 1 0 0))
 else if n.kind=21 then (wordsM n 0 && (numsM n 0 0 && exprsM l n 1 0 0))
 else if n.kind=22 then (wordsM n 0 && (numsM n 1 8 && exprsM l n 2 0 0))
 else false
section
variable {H:Heap} {S:Nat→Prop} {v:Value} {l:List Nd} {a:AN}
set_option maxHeartbeats 4000000 in
theorem r9node_spec (h:NL H S v l) (ha:AR H S a) (hk:KOk l a.n) (hlw:a.n.words.length≤9223372036854775807) (hlu:a.n.nums.length≤9223372036854775807) (hlk:a.n.kids.length≤9223372036854775807) :
  CallF Tryz.prog 14 [v,anV a] H (fun r H'=>Fr [] H H'∧r=.bool (nodeM l a.n)) NoP:=by
 obtain ⟨⟨kind,words,nums,kids,pos⟩,x1,c1,x2,c2,x3,c3,rfl⟩:=ha.open
 simp only at hlw hlu hlk hk
 obtain ⟨G,hG⟩:∃ G,G=H.push (.cells #[iv kind,.slice x1 words.length c1,.slice x2 nums.length c2,.slice x3 kids.length c3,iv pos] 28):=⟨_,rfl⟩
 have f0:Fr [] H G:=by rw [hG]; exact Fr.push
 have hb:Blk G H.size 28 [iv kind,.slice x1 words.length c1,.slice x2 nums.length c2,.slice x3 kids.length c3,iv pos]:=by rw [hG]; exact Blk.new rfl
 have ar0:=ha.frame (Keeps.of_fr f0 (by simp))
 have h0:=h.grow f0
 have k0:=hb.cell 0
 have k3:=hb.cell 3
 simp only [gS,gZ] at k0 k3
 refine callF_of Tryz.func14 rfl Tryz.ntmps14 Tryz.results14 (by decide) rfl ?_
 by_cases e0:kind=0
 ·subst e0
  simp (disch:=omega) only [go_sem,↓cB,dB,anV]
  rw [← hG]
  have fr0:Fr [] G G:=Fr.refl _ _
  have hb0:=fr0.blk hb (by simp)
  have ld0:=hb0.cells0
  simp only [List.length_cons,List.length_nil] at ld0
  have n0:=hb0.cell 2
  simp only [gS,gZ] at n0
  have ar0:=ar0.frame (Keeps.of_fr fr0 (by simp))
  have nl0:=h0.grow fr0
  try (simp (disch:=omega) only [go_sem,↓cB,dB,ld0,n0])
  refine call_to (r9words_spec (count:=0) ar0 hlw) ?_
  intro v HV hv
  refine Hush.out ?_
  obtain ⟨fa,rfl⟩:=hv
  have fr1:=fr0.trans fa
  have hb1:=fr1.blk hb (by simp)
  have ld1:=hb1.cells0
  simp only [List.length_cons,List.length_nil] at ld1
  have n1:=hb1.cell 2
  simp only [gS,gZ] at n1
  have ar1:=ar0.frame (Keeps.of_fr fr1 (by simp))
  have nl1:=h0.grow fr1
  cases qw:wordsM (⟨0,words,nums,kids,pos⟩:Nd) 0
  ·refine ⟨?_⟩
   simp (disch:=omega) only [go_sem,↓cB,dB]
   exact fin ⟨f0.trans fr1,by simp [nodeM,qw]⟩
  refine ⟨?_⟩
  try (simp (disch:=omega) only [go_sem,↓cB,dB,ld1,n1])
  refine call_to (r9nums_spec (count:=0) (most:=0) ar1 hlu) ?_
  intro v HV hv
  refine Hush.out ?_
  obtain ⟨fa,rfl⟩:=hv
  have fr2:=fr1.trans fa
  have hb2:=fr2.blk hb (by simp)
  have ld2:=hb2.cells0
  simp only [List.length_cons,List.length_nil] at ld2
  have n2:=hb2.cell 2
  simp only [gS,gZ] at n2
  have ar2:=ar0.frame (Keeps.of_fr fr2 (by simp))
  have nl2:=h0.grow fr2
  cases qn:numsM (⟨0,words,nums,kids,pos⟩:Nd) 0 0
  ·refine ⟨?_⟩
   simp (disch:=omega) only [go_sem,↓cB,dB]
   exact fin ⟨f0.trans fr2,by simp [nodeM,qw,qn]⟩
  refine ⟨?_⟩
  try (simp (disch:=omega) only [go_sem,↓cB,dB,ld2,n2])
  refine call_to (r9all_spec (m:=0) nl2 ar2 hk hlk (by simp)) ?_
  intro v HV hv
  refine Hush.out ?_
  obtain ⟨fa,rfl⟩:=hv
  have fr3:=fr2.trans fa
  refine ⟨?_⟩
  simp (disch:=omega) only [go_sem,↓cB,dB]
  exact fin ⟨f0.trans fr3,by simp [nodeM,qw,qn]⟩
 by_cases e1:kind=1
 ·subst e1
  simp (disch:=omega) only [go_sem,↓cB,dB,anV]
  rw [← hG]
  have fr0:Fr [] G G:=Fr.refl _ _
  have hb0:=fr0.blk hb (by simp)
  have ld0:=hb0.cells0
  simp only [List.length_cons,List.length_nil] at ld0
  have n0:=hb0.cell 2
  simp only [gS,gZ] at n0
  have ar0:=ar0.frame (Keeps.of_fr fr0 (by simp))
  have nl0:=h0.grow fr0
  try (simp (disch:=omega) only [go_sem,↓cB,dB,ld0,n0])
  refine call_to (r9words_spec (count:=1) ar0 hlw) ?_
  intro v HV hv
  refine Hush.out ?_
  obtain ⟨fa,rfl⟩:=hv
  have fr1:=fr0.trans fa
  have hb1:=fr1.blk hb (by simp)
  have ld1:=hb1.cells0
  simp only [List.length_cons,List.length_nil] at ld1
  have n1:=hb1.cell 2
  simp only [gS,gZ] at n1
  have ar1:=ar0.frame (Keeps.of_fr fr1 (by simp))
  have nl1:=h0.grow fr1
  cases qw:wordsM (⟨1,words,nums,kids,pos⟩:Nd) 1
  ·refine ⟨?_⟩
   simp (disch:=omega) only [go_sem,↓cB,dB]
   exact fin ⟨f0.trans fr1,by simp [nodeM,qw]⟩
  refine ⟨?_⟩
  try (simp (disch:=omega) only [go_sem,↓cB,dB,ld1,n1])
  refine call_to (r9nums_spec (count:=4) (most:=999999) ar1 hlu) ?_
  intro v HV hv
  refine Hush.out ?_
  obtain ⟨fa,rfl⟩:=hv
  have fr2:=fr1.trans fa
  have hb2:=fr2.blk hb (by simp)
  have ld2:=hb2.cells0
  simp only [List.length_cons,List.length_nil] at ld2
  have n2:=hb2.cell 2
  simp only [gS,gZ] at n2
  have ar2:=ar0.frame (Keeps.of_fr fr2 (by simp))
  have nl2:=h0.grow fr2
  cases qn:numsM (⟨1,words,nums,kids,pos⟩:Nd) 4 999999
  ·refine ⟨?_⟩
   simp (disch:=omega) only [go_sem,↓cB,dB]
   exact fin ⟨f0.trans fr2,by simp [nodeM,qw,qn]⟩
  have h4:nums.length=4:=by
   have:=qn
   unfold numsM at this
   simp only [Bool.and_eq_true,decide_eq_true_eq] at this
   exact this.2
  obtain ⟨b2,o2,cap2,p2,-,m2⟩:=ar2.u.at1 (getD_some (d:=(0:Int)) (i:=2) (by simp only; omega))
  obtain ⟨b3,o3,cap3,p3,-,m3⟩:=ar2.u.at1 (getD_some (d:=(0:Int)) (i:=3) (by simp only; omega))
  simp only [Value.slice.injEq,true_and] at p2 p3
  obtain ⟨rfl,rfl⟩:=p2
  simp only [Option.some.injEq,Addr.mk.injEq,and_true,true_and] at p3
  obtain ⟨⟨rfl,rfl⟩,rfl⟩:=p3
  simp only at m2 m3
  generalize hy2:nums.getD 2 0=y2 at *
  generalize hy3:nums.getD 3 0=y3 at *
  by_cases g2:y2≤1
  ·by_cases g3:y3≤1
   ·refine ⟨?_⟩
    simp (disch:=omega) only [go_sem,↓cB,dB,ld2,n2,h4,m2,m3]
    exact fin ⟨f0.trans fr2,by simp [nodeM,-List.getD_eq_getElem?_getD,qw,qn,hy2,hy3,g2,g3]⟩
   ·refine ⟨?_⟩
    simp (disch:=omega) only [go_sem,↓cB,dB,ld2,n2,h4,m2,m3]
    exact fin ⟨f0.trans fr2,by simp [nodeM,-List.getD_eq_getElem?_getD,qw,qn,hy2,hy3,g2,g3]⟩
  ·refine ⟨?_⟩
   simp (disch:=omega) only [go_sem,↓cB,dB,ld2,n2,h4,m2,m3]
   exact fin ⟨f0.trans fr2,by simp [nodeM,-List.getD_eq_getElem?_getD,qw,qn,hy2,hy3,g2]⟩
 by_cases e2:kind=2
 ·subst e2
  simp (disch:=omega) only [go_sem,↓cB,dB,anV]
  rw [← hG]
  have fr0:Fr [] G G:=Fr.refl _ _
  have hb0:=fr0.blk hb (by simp)
  have ld0:=hb0.cells0
  simp only [List.length_cons,List.length_nil] at ld0
  have n0:=hb0.cell 2
  simp only [gS,gZ] at n0
  have ar0:=ar0.frame (Keeps.of_fr fr0 (by simp))
  have nl0:=h0.grow fr0
  try (simp (disch:=omega) only [go_sem,↓cB,dB,ld0,n0])
  refine call_to (r9words_spec (count:=1) ar0 hlw) ?_
  intro v HV hv
  refine Hush.out ?_
  obtain ⟨fa,rfl⟩:=hv
  have fr1:=fr0.trans fa
  have hb1:=fr1.blk hb (by simp)
  have ld1:=hb1.cells0
  simp only [List.length_cons,List.length_nil] at ld1
  have n1:=hb1.cell 2
  simp only [gS,gZ] at n1
  have ar1:=ar0.frame (Keeps.of_fr fr1 (by simp))
  have nl1:=h0.grow fr1
  cases qw:wordsM (⟨2,words,nums,kids,pos⟩:Nd) 1
  ·refine ⟨?_⟩
   simp (disch:=omega) only [go_sem,↓cB,dB]
   exact fin ⟨f0.trans fr1,by simp [nodeM,qw]⟩
  by_cases h4:nums.length=2
  rotate_left
  ·refine ⟨?_⟩
   have h4':¬ ((nums.length:Int)=2):=by omega
   simp (disch:=omega) only [go_sem,↓cB,dB,ld1,n1]
   exact fin ⟨f0.trans fr1,by simp [nodeM,-List.getD_eq_getElem?_getD,qw,h4]⟩
  obtain ⟨b2,o2,cap2,p2,-,m2⟩:=ar1.u.at1 (getD_some (d:=(0:Int)) (i:=0) (by simp only; omega))
  obtain ⟨b3,o3,cap3,p3,-,m3⟩:=ar1.u.at1 (getD_some (d:=(0:Int)) (i:=1) (by simp only; omega))
  simp only [Value.slice.injEq,true_and] at p2 p3
  obtain ⟨rfl,rfl⟩:=p2
  simp only [Option.some.injEq,Addr.mk.injEq,and_true,true_and] at p3
  obtain ⟨⟨rfl,rfl⟩,rfl⟩:=p3
  simp only [Nat.add_zero] at m2 m3
  generalize hy2:nums.getD 0 0=y2 at *
  generalize hy3:nums.getD 1 0=y3 at *
  refine ⟨?_⟩
  have h4':((nums.length:Int)=2):=by omega
  simp (disch:=omega) only [go_sem,↓cB,dB,ld1,n1,m2,h4']
  refine call_to r9in_spec ?_
  intro v6 H6 hv
  refine Hush.out ?_
  obtain ⟨rfl,rfl⟩:=hv
  cases g2:inB y2 0 999999
  ·refine ⟨?_⟩
   simp (disch:=omega) only [go_sem,↓cB,dB]
   exact fin ⟨f0.trans fr1,by simp [nodeM,-List.getD_eq_getElem?_getD,qw,h4,hy2,g2]⟩
  refine ⟨?_⟩
  simp (disch:=omega) only [go_sem,↓cB,dB,ld1,n1,m3]
  refine call_to r9in_spec ?_
  intro v6 H6 hv
  refine Hush.out ?_
  obtain ⟨rfl,rfl⟩:=hv
  cases g3:inB y3 (-999999) 999999
  ·refine ⟨?_⟩
   simp (disch:=omega) only [go_sem,↓cB,dB]
   exact fin ⟨f0.trans fr1,by simp [nodeM,-List.getD_eq_getElem?_getD,qw,h4,hy2,hy3,g2,g3]⟩
  refine ⟨?_⟩
  simp (disch:=omega) only [go_sem,↓cB,dB]
  exact fin ⟨f0.trans fr1,by simp [nodeM,-List.getD_eq_getElem?_getD,qw,h4,hy2,hy3,g2,g3]⟩
 by_cases e3:kind=3
 ·subst e3
  simp (disch:=omega) only [go_sem,↓cB,dB,anV]
  rw [← hG]
  have fr0:Fr [] G G:=Fr.refl _ _
  have hb0:=fr0.blk hb (by simp)
  have ld0:=hb0.cells0
  simp only [List.length_cons,List.length_nil] at ld0
  have n0:=hb0.cell 2
  simp only [gS,gZ] at n0
  have ar0:=ar0.frame (Keeps.of_fr fr0 (by simp))
  have nl0:=h0.grow fr0
  try (simp (disch:=omega) only [go_sem,↓cB,dB,ld0])
  refine loop_by (fun m ρ H2=>∃ i:Nat,m=kids.length - i∧i≤kids.length∧(kids.take i).all (fun k=>decide (knd l k=2))=true∧Fr [] G H2∧(ρ.get 0=v∧ρ.get 3=hp H.size∧ρ.get 5=iv kids.length∧ρ.get 6=iv i∧ρ.ds = [])) (k:=kids.length) ?_ ?_
  ·exact ⟨0,rfl,by omega,by simp,Fr.refl _ _,by simp (disch:=omega) only [go_sem,↓cB,dB]⟩
  rintro m ρ H2 ⟨i,rfl,hi,hall,fr7,r0,r3,r5,r6,rd⟩
  have hb7:=fr7.blk hb (by simp)
  have ld7:=hb7.cells0
  simp only [List.length_cons,List.length_nil] at ld7
  have n7:=hb7.cell 2
  simp only [gS,gZ] at n7
  have ar7:=ar0.frame (Keeps.of_fr fr7 (by simp))
  have nl7:=h0.grow fr7
  have hxi:(i:Int) + 1=((i + 1:Nat):Int):=by omega
  have tail:varsN l (⟨3,words,nums,kids,pos⟩:Nd)=i→True:=fun _=>trivial
  by_cases hin:i < kids.length
  ·simp (disch:=omega) only [go_sem,↓cB,dB,r0,r3,r5,r6,rd,ld7]
   refine call_to (r9kid_spec nl7 ar7 hk (i:=i) hin) ?_
   intro v5 H5 hv
   refine Hush.out ?_
   obtain ⟨fa,rfl⟩:=hv
   have fr1:=fr7.trans fa
   have hgi:=getD_some (d:=(0:Int)) hin
   have hkn:kidA (⟨3,words,nums,kids,pos⟩:Nd) i=kids.getD i 0:=rfl
   by_cases hq:knd l (kidA (⟨3,words,nums,kids,pos⟩:Nd) i)=2
   ·refine ⟨?_⟩
    simp (disch:=omega) only [go_sem,↓cB,dB,r0,r3,r5,r6,rd,hq]
    refine fin ⟨kids.length - (i + 1),by omega,i + 1,rfl,by omega,?_,fr1,by simp (disch:=omega) only [go_sem,↓cB,dB,r0,r3,r5,r6,rd,hxi]⟩
    rw [List.take_add_one,hgi,List.all_append,hall]
    rw [hkn] at hq
    simp only [Option.toList_some,List.all_cons,List.all_nil,Bool.and_true,Bool.true_and,decide_eq_true_eq]
    exact hq
   ·have hvn:varsN l (⟨3,words,nums,kids,pos⟩:Nd)=i:=by
     unfold varsN
     have hs:kids=kids.take i ++ kids.drop i:=(List.take_append_drop i kids).symm
     have hd:kids.drop i=kids.getD i 0 :: kids.drop (i + 1):=by
      rw [List.drop_eq_getElem_cons hin]; congr 1; simp [hin]
     show (kids.takeWhile fun k=>decide (knd l k=2)).length=i
     rw [hs,List.takeWhile_append_of_pos (by intro x hx; exact List.all_eq_true.1 hall x hx),hd,List.takeWhile_cons_of_neg (by rw [hkn] at hq; simpa using hq)]
     simp; omega
    have hb1:=fr1.blk hb (by simp)
    have ld1:=hb1.cells0
    simp only [List.length_cons,List.length_nil] at ld1
    have n1:=hb1.cell 2
    simp only [gS,gZ] at n1
    have ar1:=ar0.frame (Keeps.of_fr fr1 (by simp))
    have nl1:=h0.grow fr1
    refine ⟨?_⟩
    simp (disch:=omega) only [go_sem,↓cB,dB,r0,r3,r5,r6,rd,ld1]
    refine call_to (r9words_spec (count:=1) ar1 hlw) ?_
    intro v HV hv
    refine Hush.out ?_
    obtain ⟨fa,rfl⟩:=hv
    have fr2:=fr1.trans fa
    have hb2:=fr2.blk hb (by simp)
    have ld2:=hb2.cells0
    simp only [List.length_cons,List.length_nil] at ld2
    have n2:=hb2.cell 2
    simp only [gS,gZ] at n2
    have ar2:=ar0.frame (Keeps.of_fr fr2 (by simp))
    have nl2:=h0.grow fr2
    cases qw:wordsM (⟨3,words,nums,kids,pos⟩:Nd) 1
    ·refine ⟨?_⟩
     simp (disch:=omega) only [go_sem,↓cB,dB,r0,r3,r5,r6,rd ]
     exact fin ⟨f0.trans fr2,by simp [nodeM,qw]⟩
    refine ⟨?_⟩
    try (simp (disch:=omega) only [go_sem,↓cB,dB,r0,r3,r5,r6,rd,ld2,n2])
    refine call_to (r9nums_spec (count:=1) (most:=999999) ar2 hlu) ?_
    intro v HV hv
    refine Hush.out ?_
    obtain ⟨fa,rfl⟩:=hv
    have fr3:=fr2.trans fa
    have hb3:=fr3.blk hb (by simp)
    have ld3:=hb3.cells0
    simp only [List.length_cons,List.length_nil] at ld3
    have n3:=hb3.cell 2
    simp only [gS,gZ] at n3
    have ar3:=ar0.frame (Keeps.of_fr fr3 (by simp))
    have nl3:=h0.grow fr3
    cases qn:numsM (⟨3,words,nums,kids,pos⟩:Nd) 1 999999
    ·refine ⟨?_⟩
     simp (disch:=omega) only [go_sem,↓cB,dB,r0,r3,r5,r6,rd]
     exact fin ⟨f0.trans fr3,by simp [nodeM,qw,qn]⟩
    refine ⟨?_⟩
    try (simp (disch:=omega) only [go_sem,↓cB,dB,r0,r3,r5,r6,rd,ld3,n3])
    refine call_to (r9all_spec (m:=i) nl3 ar3 hk hlk (by simp only; omega)) ?_
    intro v HV hv
    refine Hush.out ?_
    obtain ⟨fa,rfl⟩:=hv
    have fr4:=fr3.trans fa
    refine ⟨?_⟩
    simp (disch:=omega) only [go_sem,↓cB,dB,r0,r3,r5,r6,rd]
    exact fin ⟨f0.trans fr4,by simp [nodeM,qw,qn,hvn]⟩
  ·have hvn:varsN l (⟨3,words,nums,kids,pos⟩:Nd)=i:=by
    unfold varsN
    obtain rfl:i=kids.length:=by omega
    rw [List.take_length] at hall
    show (kids.takeWhile fun k=>decide (knd l k=2)).length=_
    rw [tw_all (by intro x hx; exact List.all_eq_true.1 hall x hx)]
   have fr1:=fr7
   refine Hush.out ?_
   have hb1:=fr1.blk hb (by simp)
   have ld1:=hb1.cells0
   simp only [List.length_cons,List.length_nil] at ld1
   have n1:=hb1.cell 2
   simp only [gS,gZ] at n1
   have ar1:=ar0.frame (Keeps.of_fr fr1 (by simp))
   have nl1:=h0.grow fr1
   refine ⟨?_⟩
   simp (disch:=omega) only [go_sem,↓cB,dB,r0,r3,r5,r6,rd,ld1]
   refine call_to (r9words_spec (count:=1) ar1 hlw) ?_
   intro v HV hv
   refine Hush.out ?_
   obtain ⟨fa,rfl⟩:=hv
   have fr2:=fr1.trans fa
   have hb2:=fr2.blk hb (by simp)
   have ld2:=hb2.cells0
   simp only [List.length_cons,List.length_nil] at ld2
   have n2:=hb2.cell 2
   simp only [gS,gZ] at n2
   have ar2:=ar0.frame (Keeps.of_fr fr2 (by simp))
   have nl2:=h0.grow fr2
   cases qw:wordsM (⟨3,words,nums,kids,pos⟩:Nd) 1
   ·refine ⟨?_⟩
    simp (disch:=omega) only [go_sem,↓cB,dB,r0,r3,r5,r6,rd ]
    exact fin ⟨f0.trans fr2,by simp [nodeM,qw]⟩
   refine ⟨?_⟩
   try (simp (disch:=omega) only [go_sem,↓cB,dB,r0,r3,r5,r6,rd,ld2,n2])
   refine call_to (r9nums_spec (count:=1) (most:=999999) ar2 hlu) ?_
   intro v HV hv
   refine Hush.out ?_
   obtain ⟨fa,rfl⟩:=hv
   have fr3:=fr2.trans fa
   have hb3:=fr3.blk hb (by simp)
   have ld3:=hb3.cells0
   simp only [List.length_cons,List.length_nil] at ld3
   have n3:=hb3.cell 2
   simp only [gS,gZ] at n3
   have ar3:=ar0.frame (Keeps.of_fr fr3 (by simp))
   have nl3:=h0.grow fr3
   cases qn:numsM (⟨3,words,nums,kids,pos⟩:Nd) 1 999999
   ·refine ⟨?_⟩
    simp (disch:=omega) only [go_sem,↓cB,dB,r0,r3,r5,r6,rd]
    exact fin ⟨f0.trans fr3,by simp [nodeM,qw,qn]⟩
   refine ⟨?_⟩
   try (simp (disch:=omega) only [go_sem,↓cB,dB,r0,r3,r5,r6,rd,ld3,n3])
   refine call_to (r9all_spec (m:=i) nl3 ar3 hk hlk (by simp only; omega)) ?_
   intro v HV hv
   refine Hush.out ?_
   obtain ⟨fa,rfl⟩:=hv
   have fr4:=fr3.trans fa
   refine ⟨?_⟩
   simp (disch:=omega) only [go_sem,↓cB,dB,r0,r3,r5,r6,rd]
   exact fin ⟨f0.trans fr4,by simp [nodeM,qw,qn,hvn]⟩
 by_cases e4:kind=4
 ·subst e4
  simp (disch:=omega) only [go_sem,↓cB,dB,anV]
  rw [← hG]
  have fr0:Fr [] G G:=Fr.refl _ _
  have hb0:=fr0.blk hb (by simp)
  have ld0:=hb0.cells0
  simp only [List.length_cons,List.length_nil] at ld0
  have n0:=hb0.cell 2
  simp only [gS,gZ] at n0
  have ar0:=ar0.frame (Keeps.of_fr fr0 (by simp))
  have nl0:=h0.grow fr0
  try (simp (disch:=omega) only [go_sem,↓cB,dB,ld0,n0])
  refine call_to (r9words_spec (count:=0) ar0 hlw) ?_
  intro v HV hv
  refine Hush.out ?_
  obtain ⟨fa,rfl⟩:=hv
  have fr1:=fr0.trans fa
  have hb1:=fr1.blk hb (by simp)
  have ld1:=hb1.cells0
  simp only [List.length_cons,List.length_nil] at ld1
  have n1:=hb1.cell 2
  simp only [gS,gZ] at n1
  have ar1:=ar0.frame (Keeps.of_fr fr1 (by simp))
  have nl1:=h0.grow fr1
  cases qw:wordsM (⟨4,words,nums,kids,pos⟩:Nd) 0
  ·refine ⟨?_⟩
   simp (disch:=omega) only [go_sem,↓cB,dB]
   exact fin ⟨f0.trans fr1,by simp [nodeM,qw]⟩
  refine ⟨?_⟩
  try (simp (disch:=omega) only [go_sem,↓cB,dB,ld1,n1])
  refine call_to (r9nums_spec (count:=0) (most:=0) ar1 hlu) ?_
  intro v HV hv
  refine Hush.out ?_
  obtain ⟨fa,rfl⟩:=hv
  have fr2:=fr1.trans fa
  have hb2:=fr2.blk hb (by simp)
  have ld2:=hb2.cells0
  simp only [List.length_cons,List.length_nil] at ld2
  have n2:=hb2.cell 2
  simp only [gS,gZ] at n2
  have ar2:=ar0.frame (Keeps.of_fr fr2 (by simp))
  have nl2:=h0.grow fr2
  cases qn:numsM (⟨4,words,nums,kids,pos⟩:Nd) 0 0
  ·refine ⟨?_⟩
   simp (disch:=omega) only [go_sem,↓cB,dB]
   exact fin ⟨f0.trans fr2,by simp [nodeM,qw,qn]⟩
  refine ⟨?_⟩
  try (simp (disch:=omega) only [go_sem,↓cB,dB,ld2,n2])
  refine call_to (r9exprs_spec (f:=1) (e:=0) (m:=0) nl2 ar2 hk hlk (by omega) (by omega) (by omega)) ?_
  intro v HV hv
  refine Hush.out ?_
  obtain ⟨fa,rfl⟩:=hv
  have fr3:=fr2.trans fa
  refine ⟨?_⟩
  simp (disch:=omega) only [go_sem,↓cB,dB]
  exact fin ⟨f0.trans fr3,by simp [nodeM,qw,qn]⟩
 by_cases e5:kind=5
 ·subst e5
  simp (disch:=omega) only [go_sem,↓cB,dB,anV]
  rw [← hG]
  have fr0:Fr [] G G:=Fr.refl _ _
  have hb0:=fr0.blk hb (by simp)
  have ld0:=hb0.cells0
  simp only [List.length_cons,List.length_nil] at ld0
  have n0:=hb0.cell 2
  simp only [gS,gZ] at n0
  have ar0:=ar0.frame (Keeps.of_fr fr0 (by simp))
  have nl0:=h0.grow fr0
  try (simp (disch:=omega) only [go_sem,↓cB,dB,ld0,n0])
  refine call_to (r9words_spec (count:=0) ar0 hlw) ?_
  intro v HV hv
  refine Hush.out ?_
  obtain ⟨fa,rfl⟩:=hv
  have fr1:=fr0.trans fa
  have hb1:=fr1.blk hb (by simp)
  have ld1:=hb1.cells0
  simp only [List.length_cons,List.length_nil] at ld1
  have n1:=hb1.cell 2
  simp only [gS,gZ] at n1
  have ar1:=ar0.frame (Keeps.of_fr fr1 (by simp))
  have nl1:=h0.grow fr1
  cases qw:wordsM (⟨5,words,nums,kids,pos⟩:Nd) 0
  ·refine ⟨?_⟩
   simp (disch:=omega) only [go_sem,↓cB,dB]
   exact fin ⟨f0.trans fr1,by simp [nodeM,qw]⟩
  refine ⟨?_⟩
  try (simp (disch:=omega) only [go_sem,↓cB,dB,ld1,n1])
  refine call_to (r9nums_spec (count:=0) (most:=0) ar1 hlu) ?_
  intro v HV hv
  refine Hush.out ?_
  obtain ⟨fa,rfl⟩:=hv
  have fr2:=fr1.trans fa
  have hb2:=fr2.blk hb (by simp)
  have ld2:=hb2.cells0
  simp only [List.length_cons,List.length_nil] at ld2
  have n2:=hb2.cell 2
  simp only [gS,gZ] at n2
  have ar2:=ar0.frame (Keeps.of_fr fr2 (by simp))
  have nl2:=h0.grow fr2
  cases qn:numsM (⟨5,words,nums,kids,pos⟩:Nd) 0 0
  ·refine ⟨?_⟩
   simp (disch:=omega) only [go_sem,↓cB,dB]
   exact fin ⟨f0.trans fr2,by simp [nodeM,qw,qn]⟩
  refine ⟨?_⟩
  try (simp (disch:=omega) only [go_sem,↓cB,dB,ld2,n2])
  exact fin ⟨f0.trans fr2,by simp [nodeM,qw,qn]⟩
 by_cases e6:kind=6
 ·subst e6
  simp (disch:=omega) only [go_sem,↓cB,dB,anV]
  rw [← hG]
  have fr0:Fr [] G G:=Fr.refl _ _
  have hb0:=fr0.blk hb (by simp)
  have ld0:=hb0.cells0
  simp only [List.length_cons,List.length_nil] at ld0
  have n0:=hb0.cell 2
  simp only [gS,gZ] at n0
  have ar0:=ar0.frame (Keeps.of_fr fr0 (by simp))
  have nl0:=h0.grow fr0
  try (simp (disch:=omega) only [go_sem,↓cB,dB,ld0,n0])
  refine call_to (r9words_spec (count:=1) ar0 hlw) ?_
  intro v HV hv
  refine Hush.out ?_
  obtain ⟨fa,rfl⟩:=hv
  have fr1:=fr0.trans fa
  have hb1:=fr1.blk hb (by simp)
  have ld1:=hb1.cells0
  simp only [List.length_cons,List.length_nil] at ld1
  have n1:=hb1.cell 2
  simp only [gS,gZ] at n1
  have ar1:=ar0.frame (Keeps.of_fr fr1 (by simp))
  have nl1:=h0.grow fr1
  cases qw:wordsM (⟨6,words,nums,kids,pos⟩:Nd) 1
  ·refine ⟨?_⟩
   simp (disch:=omega) only [go_sem,↓cB,dB]
   exact fin ⟨f0.trans fr1,by simp [nodeM,qw]⟩
  refine ⟨?_⟩
  try (simp (disch:=omega) only [go_sem,↓cB,dB,ld1,n1])
  refine call_to (r9nums_spec (count:=0) (most:=0) ar1 hlu) ?_
  intro v HV hv
  refine Hush.out ?_
  obtain ⟨fa,rfl⟩:=hv
  have fr2:=fr1.trans fa
  have hb2:=fr2.blk hb (by simp)
  have ld2:=hb2.cells0
  simp only [List.length_cons,List.length_nil] at ld2
  have n2:=hb2.cell 2
  simp only [gS,gZ] at n2
  have ar2:=ar0.frame (Keeps.of_fr fr2 (by simp))
  have nl2:=h0.grow fr2
  cases qn:numsM (⟨6,words,nums,kids,pos⟩:Nd) 0 0
  ·refine ⟨?_⟩
   simp (disch:=omega) only [go_sem,↓cB,dB]
   exact fin ⟨f0.trans fr2,by simp [nodeM,qw,qn]⟩
  refine ⟨?_⟩
  try (simp (disch:=omega) only [go_sem,↓cB,dB,ld2,n2])
  refine call_to (r9exprs_spec (f:=1) (e:=0) (m:=0) nl2 ar2 hk hlk (by omega) (by omega) (by omega)) ?_
  intro v HV hv
  refine Hush.out ?_
  obtain ⟨fa,rfl⟩:=hv
  have fr3:=fr2.trans fa
  refine ⟨?_⟩
  simp (disch:=omega) only [go_sem,↓cB,dB]
  exact fin ⟨f0.trans fr3,by simp [nodeM,qw,qn]⟩
 by_cases e7:kind=7
 ·subst e7
  simp (disch:=omega) only [go_sem,↓cB,dB,anV]
  rw [← hG]
  have fr0:Fr [] G G:=Fr.refl _ _
  have hb0:=fr0.blk hb (by simp)
  have ld0:=hb0.cells0
  simp only [List.length_cons,List.length_nil] at ld0
  have n0:=hb0.cell 2
  simp only [gS,gZ] at n0
  have ar0:=ar0.frame (Keeps.of_fr fr0 (by simp))
  have nl0:=h0.grow fr0
  try (simp (disch:=omega) only [go_sem,↓cB,dB,ld0,n0])
  refine call_to (r9words_spec (count:=1) ar0 hlw) ?_
  intro v HV hv
  refine Hush.out ?_
  obtain ⟨fa,rfl⟩:=hv
  have fr1:=fr0.trans fa
  have hb1:=fr1.blk hb (by simp)
  have ld1:=hb1.cells0
  simp only [List.length_cons,List.length_nil] at ld1
  have n1:=hb1.cell 2
  simp only [gS,gZ] at n1
  have ar1:=ar0.frame (Keeps.of_fr fr1 (by simp))
  have nl1:=h0.grow fr1
  cases qw:wordsM (⟨7,words,nums,kids,pos⟩:Nd) 1
  ·refine ⟨?_⟩
   simp (disch:=omega) only [go_sem,↓cB,dB]
   exact fin ⟨f0.trans fr1,by simp [nodeM,qw]⟩
  refine ⟨?_⟩
  try (simp (disch:=omega) only [go_sem,↓cB,dB,ld1,n1])
  refine call_to (r9nums_spec (count:=0) (most:=0) ar1 hlu) ?_
  intro v HV hv
  refine Hush.out ?_
  obtain ⟨fa,rfl⟩:=hv
  have fr2:=fr1.trans fa
  have hb2:=fr2.blk hb (by simp)
  have ld2:=hb2.cells0
  simp only [List.length_cons,List.length_nil] at ld2
  have n2:=hb2.cell 2
  simp only [gS,gZ] at n2
  have ar2:=ar0.frame (Keeps.of_fr fr2 (by simp))
  have nl2:=h0.grow fr2
  cases qn:numsM (⟨7,words,nums,kids,pos⟩:Nd) 0 0
  ·refine ⟨?_⟩
   simp (disch:=omega) only [go_sem,↓cB,dB]
   exact fin ⟨f0.trans fr2,by simp [nodeM,qw,qn]⟩
  refine ⟨?_⟩
  try (simp (disch:=omega) only [go_sem,↓cB,dB,ld2,n2])
  refine call_to (r9exprs_spec (f:=1) (e:=0) (m:=0) nl2 ar2 hk hlk (by omega) (by omega) (by omega)) ?_
  intro v HV hv
  refine Hush.out ?_
  obtain ⟨fa,rfl⟩:=hv
  have fr3:=fr2.trans fa
  refine ⟨?_⟩
  simp (disch:=omega) only [go_sem,↓cB,dB]
  exact fin ⟨f0.trans fr3,by simp [nodeM,qw,qn]⟩
 by_cases e8:kind=8
 ·subst e8
  simp (disch:=omega) only [go_sem,↓cB,dB,anV]
  rw [← hG]
  have fr0:Fr [] G G:=Fr.refl _ _
  have hb0:=fr0.blk hb (by simp)
  have ld0:=hb0.cells0
  simp only [List.length_cons,List.length_nil] at ld0
  have n0:=hb0.cell 2
  simp only [gS,gZ] at n0
  have ar0:=ar0.frame (Keeps.of_fr fr0 (by simp))
  have nl0:=h0.grow fr0
  try (simp (disch:=omega) only [go_sem,↓cB,dB,ld0,n0])
  refine call_to (r9words_spec (count:=2) ar0 hlw) ?_
  intro v HV hv
  refine Hush.out ?_
  obtain ⟨fa,rfl⟩:=hv
  have fr1:=fr0.trans fa
  have hb1:=fr1.blk hb (by simp)
  have ld1:=hb1.cells0
  simp only [List.length_cons,List.length_nil] at ld1
  have n1:=hb1.cell 2
  simp only [gS,gZ] at n1
  have ar1:=ar0.frame (Keeps.of_fr fr1 (by simp))
  have nl1:=h0.grow fr1
  cases qw:wordsM (⟨8,words,nums,kids,pos⟩:Nd) 2
  ·refine ⟨?_⟩
   simp (disch:=omega) only [go_sem,↓cB,dB]
   exact fin ⟨f0.trans fr1,by simp [nodeM,qw]⟩
  refine ⟨?_⟩
  try (simp (disch:=omega) only [go_sem,↓cB,dB,ld1,n1])
  refine call_to (r9nums_spec (count:=1) (most:=1) ar1 hlu) ?_
  intro v HV hv
  refine Hush.out ?_
  obtain ⟨fa,rfl⟩:=hv
  have fr2:=fr1.trans fa
  have hb2:=fr2.blk hb (by simp)
  have ld2:=hb2.cells0
  simp only [List.length_cons,List.length_nil] at ld2
  have n2:=hb2.cell 2
  simp only [gS,gZ] at n2
  have ar2:=ar0.frame (Keeps.of_fr fr2 (by simp))
  have nl2:=h0.grow fr2
  cases qn:numsM (⟨8,words,nums,kids,pos⟩:Nd) 1 1
  ·refine ⟨?_⟩
   simp (disch:=omega) only [go_sem,↓cB,dB]
   exact fin ⟨f0.trans fr2,by simp [nodeM,qw,qn]⟩
  refine ⟨?_⟩
  try (simp (disch:=omega) only [go_sem,↓cB,dB,ld2,n2])
  exact fin ⟨f0.trans fr2,by simp [nodeM,qw,qn]⟩
 by_cases e9:kind=9
 ·subst e9
  simp (disch:=omega) only [go_sem,↓cB,dB,anV]
  rw [← hG]
  have fr0:Fr [] G G:=Fr.refl _ _
  have hb0:=fr0.blk hb (by simp)
  have ld0:=hb0.cells0
  simp only [List.length_cons,List.length_nil] at ld0
  have n0:=hb0.cell 2
  simp only [gS,gZ] at n0
  have ar0:=ar0.frame (Keeps.of_fr fr0 (by simp))
  have nl0:=h0.grow fr0
  try (simp (disch:=omega) only [go_sem,↓cB,dB,ld0,n0])
  refine call_to (r9words_spec (count:=0) ar0 hlw) ?_
  intro v HV hv
  refine Hush.out ?_
  obtain ⟨fa,rfl⟩:=hv
  have fr1:=fr0.trans fa
  have hb1:=fr1.blk hb (by simp)
  have ld1:=hb1.cells0
  simp only [List.length_cons,List.length_nil] at ld1
  have n1:=hb1.cell 2
  simp only [gS,gZ] at n1
  have ar1:=ar0.frame (Keeps.of_fr fr1 (by simp))
  have nl1:=h0.grow fr1
  cases qw:wordsM (⟨9,words,nums,kids,pos⟩:Nd) 0
  ·refine ⟨?_⟩
   simp (disch:=omega) only [go_sem,↓cB,dB]
   exact fin ⟨f0.trans fr1,by simp [nodeM,qw]⟩
  refine ⟨?_⟩
  try (simp (disch:=omega) only [go_sem,↓cB,dB,ld1,n1])
  refine call_to (r9nums_spec (count:=1) (most:=1) ar1 hlu) ?_
  intro v HV hv
  refine Hush.out ?_
  obtain ⟨fa,rfl⟩:=hv
  have fr2:=fr1.trans fa
  have hb2:=fr2.blk hb (by simp)
  have ld2:=hb2.cells0
  simp only [List.length_cons,List.length_nil] at ld2
  have n2:=hb2.cell 2
  simp only [gS,gZ] at n2
  have ar2:=ar0.frame (Keeps.of_fr fr2 (by simp))
  have nl2:=h0.grow fr2
  cases qn:numsM (⟨9,words,nums,kids,pos⟩:Nd) 1 1
  ·refine ⟨?_⟩
   simp (disch:=omega) only [go_sem,↓cB,dB]
   exact fin ⟨f0.trans fr2,by simp [nodeM,qw,qn]⟩
  refine ⟨?_⟩
  try (simp (disch:=omega) only [go_sem,↓cB,dB,ld2,n2])
  refine call_to (r9exprs_spec (f:=1) (e:=0) (m:=0) nl2 ar2 hk hlk (by omega) (by omega) (by omega)) ?_
  intro v HV hv
  refine Hush.out ?_
  obtain ⟨fa,rfl⟩:=hv
  have fr3:=fr2.trans fa
  refine ⟨?_⟩
  simp (disch:=omega) only [go_sem,↓cB,dB]
  exact fin ⟨f0.trans fr3,by simp [nodeM,qw,qn]⟩
 by_cases e10:kind=10
 ·subst e10
  simp (disch:=omega) only [go_sem,↓cB,dB,anV]
  rw [← hG]
  have fr0:Fr [] G G:=Fr.refl _ _
  have hb0:=fr0.blk hb (by simp)
  have ld0:=hb0.cells0
  simp only [List.length_cons,List.length_nil] at ld0
  have n0:=hb0.cell 2
  simp only [gS,gZ] at n0
  have ar0:=ar0.frame (Keeps.of_fr fr0 (by simp))
  have nl0:=h0.grow fr0
  try (simp (disch:=omega) only [go_sem,↓cB,dB,ld0,n0])
  refine call_to (r9words_spec (count:=0) ar0 hlw) ?_
  intro v HV hv
  refine Hush.out ?_
  obtain ⟨fa,rfl⟩:=hv
  have fr1:=fr0.trans fa
  have hb1:=fr1.blk hb (by simp)
  have ld1:=hb1.cells0
  simp only [List.length_cons,List.length_nil] at ld1
  have n1:=hb1.cell 2
  simp only [gS,gZ] at n1
  have ar1:=ar0.frame (Keeps.of_fr fr1 (by simp))
  have nl1:=h0.grow fr1
  cases qw:wordsM (⟨10,words,nums,kids,pos⟩:Nd) 0
  ·refine ⟨?_⟩
   simp (disch:=omega) only [go_sem,↓cB,dB]
   exact fin ⟨f0.trans fr1,by simp [nodeM,qw]⟩
  refine ⟨?_⟩
  try (simp (disch:=omega) only [go_sem,↓cB,dB,ld1,n1])
  refine call_to (r9nums_spec (count:=1) (most:=1) ar1 hlu) ?_
  intro v HV hv
  refine Hush.out ?_
  obtain ⟨fa,rfl⟩:=hv
  have fr2:=fr1.trans fa
  have hb2:=fr2.blk hb (by simp)
  have ld2:=hb2.cells0
  simp only [List.length_cons,List.length_nil] at ld2
  have n2:=hb2.cell 2
  simp only [gS,gZ] at n2
  have ar2:=ar0.frame (Keeps.of_fr fr2 (by simp))
  have nl2:=h0.grow fr2
  cases qn:numsM (⟨10,words,nums,kids,pos⟩:Nd) 1 1
  ·refine ⟨?_⟩
   simp (disch:=omega) only [go_sem,↓cB,dB]
   exact fin ⟨f0.trans fr2,by simp [nodeM,qw,qn]⟩
  refine ⟨?_⟩
  try (simp (disch:=omega) only [go_sem,↓cB,dB,ld2,n2])
  refine call_to (r9exprs_spec (f:=0) (e:=1) (m:=800) nl2 ar2 hk hlk (by omega) (by omega) (by omega)) ?_
  intro v HV hv
  refine Hush.out ?_
  obtain ⟨fa,rfl⟩:=hv
  have fr3:=fr2.trans fa
  refine ⟨?_⟩
  simp (disch:=omega) only [go_sem,↓cB,dB]
  exact fin ⟨f0.trans fr3,by simp [nodeM,qw,qn]⟩
 by_cases e11:kind=11
 ·subst e11
  simp (disch:=omega) only [go_sem,↓cB,dB,anV]
  rw [← hG]
  have fr0:Fr [] G G:=Fr.refl _ _
  have hb0:=fr0.blk hb (by simp)
  have ld0:=hb0.cells0
  simp only [List.length_cons,List.length_nil] at ld0
  have n0:=hb0.cell 2
  simp only [gS,gZ] at n0
  have ar0:=ar0.frame (Keeps.of_fr fr0 (by simp))
  have nl0:=h0.grow fr0
  try (simp (disch:=omega) only [go_sem,↓cB,dB,ld0,n0])
  refine call_to (r9words_spec (count:=0) ar0 hlw) ?_
  intro v HV hv
  refine Hush.out ?_
  obtain ⟨fa,rfl⟩:=hv
  have fr1:=fr0.trans fa
  have hb1:=fr1.blk hb (by simp)
  have ld1:=hb1.cells0
  simp only [List.length_cons,List.length_nil] at ld1
  have n1:=hb1.cell 2
  simp only [gS,gZ] at n1
  have ar1:=ar0.frame (Keeps.of_fr fr1 (by simp))
  have nl1:=h0.grow fr1
  cases qw:wordsM (⟨11,words,nums,kids,pos⟩:Nd) 0
  ·refine ⟨?_⟩
   simp (disch:=omega) only [go_sem,↓cB,dB]
   exact fin ⟨f0.trans fr1,by simp [nodeM,qw]⟩
  refine ⟨?_⟩
  try (simp (disch:=omega) only [go_sem,↓cB,dB,ld1,n1])
  refine call_to (r9nums_spec (count:=0) (most:=0) ar1 hlu) ?_
  intro v HV hv
  refine Hush.out ?_
  obtain ⟨fa,rfl⟩:=hv
  have fr2:=fr1.trans fa
  have hb2:=fr2.blk hb (by simp)
  have ld2:=hb2.cells0
  simp only [List.length_cons,List.length_nil] at ld2
  have n2:=hb2.cell 2
  simp only [gS,gZ] at n2
  have ar2:=ar0.frame (Keeps.of_fr fr2 (by simp))
  have nl2:=h0.grow fr2
  cases qn:numsM (⟨11,words,nums,kids,pos⟩:Nd) 0 0
  ·refine ⟨?_⟩
   simp (disch:=omega) only [go_sem,↓cB,dB]
   exact fin ⟨f0.trans fr2,by simp [nodeM,qw,qn]⟩
  refine ⟨?_⟩
  try (simp (disch:=omega) only [go_sem,↓cB,dB,ld2,n2])
  refine call_to (r9exprs_spec (f:=1) (e:=1) (m:=2) nl2 ar2 hk hlk (by omega) (by omega) (by omega)) ?_
  intro v HV hv
  refine Hush.out ?_
  obtain ⟨fa,rfl⟩:=hv
  have fr3:=fr2.trans fa
  refine ⟨?_⟩
  simp (disch:=omega) only [go_sem,↓cB,dB]
  exact fin ⟨f0.trans fr3,by simp [nodeM,qw,qn]⟩
 by_cases e12:kind=12
 ·subst e12
  simp (disch:=omega) only [go_sem,↓cB,dB,anV]
  rw [← hG]
  have fr0:Fr [] G G:=Fr.refl _ _
  have hb0:=fr0.blk hb (by simp)
  have ld0:=hb0.cells0
  simp only [List.length_cons,List.length_nil] at ld0
  have n0:=hb0.cell 2
  simp only [gS,gZ] at n0
  have ar0:=ar0.frame (Keeps.of_fr fr0 (by simp))
  have nl0:=h0.grow fr0
  try (simp (disch:=omega) only [go_sem,↓cB,dB,ld0,n0])
  refine call_to (r9words_spec (count:=0) ar0 hlw) ?_
  intro v HV hv
  refine Hush.out ?_
  obtain ⟨fa,rfl⟩:=hv
  have fr1:=fr0.trans fa
  have hb1:=fr1.blk hb (by simp)
  have ld1:=hb1.cells0
  simp only [List.length_cons,List.length_nil] at ld1
  have n1:=hb1.cell 2
  simp only [gS,gZ] at n1
  have ar1:=ar0.frame (Keeps.of_fr fr1 (by simp))
  have nl1:=h0.grow fr1
  cases qw:wordsM (⟨12,words,nums,kids,pos⟩:Nd) 0
  ·refine ⟨?_⟩
   simp (disch:=omega) only [go_sem,↓cB,dB]
   exact fin ⟨f0.trans fr1,by simp [nodeM,qw]⟩
  refine ⟨?_⟩
  try (simp (disch:=omega) only [go_sem,↓cB,dB,ld1,n1])
  refine call_to (r9nums_spec (count:=0) (most:=0) ar1 hlu) ?_
  intro v HV hv
  refine Hush.out ?_
  obtain ⟨fa,rfl⟩:=hv
  have fr2:=fr1.trans fa
  have hb2:=fr2.blk hb (by simp)
  have ld2:=hb2.cells0
  simp only [List.length_cons,List.length_nil] at ld2
  have n2:=hb2.cell 2
  simp only [gS,gZ] at n2
  have ar2:=ar0.frame (Keeps.of_fr fr2 (by simp))
  have nl2:=h0.grow fr2
  cases qn:numsM (⟨12,words,nums,kids,pos⟩:Nd) 0 0
  ·refine ⟨?_⟩
   simp (disch:=omega) only [go_sem,↓cB,dB]
   exact fin ⟨f0.trans fr2,by simp [nodeM,qw,qn]⟩
  refine ⟨?_⟩
  try (simp (disch:=omega) only [go_sem,↓cB,dB,ld2,n2])
  refine call_to (r9exprs_spec (f:=1) (e:=1) (m:=1) nl2 ar2 hk hlk (by omega) (by omega) (by omega)) ?_
  intro v HV hv
  refine Hush.out ?_
  obtain ⟨fa,rfl⟩:=hv
  have fr3:=fr2.trans fa
  refine ⟨?_⟩
  simp (disch:=omega) only [go_sem,↓cB,dB]
  exact fin ⟨f0.trans fr3,by simp [nodeM,qw,qn]⟩
 by_cases e13:kind=13
 ·subst e13
  simp (disch:=omega) only [go_sem,↓cB,dB,anV]
  rw [← hG]
  have fr0:Fr [] G G:=Fr.refl _ _
  have hb0:=fr0.blk hb (by simp)
  have ld0:=hb0.cells0
  simp only [List.length_cons,List.length_nil] at ld0
  have n0:=hb0.cell 2
  simp only [gS,gZ] at n0
  have ar0:=ar0.frame (Keeps.of_fr fr0 (by simp))
  have nl0:=h0.grow fr0
  try (simp (disch:=omega) only [go_sem,↓cB,dB,ld0,n0])
  refine call_to (r9words_spec (count:=0) ar0 hlw) ?_
  intro v HV hv
  refine Hush.out ?_
  obtain ⟨fa,rfl⟩:=hv
  have fr1:=fr0.trans fa
  have hb1:=fr1.blk hb (by simp)
  have ld1:=hb1.cells0
  simp only [List.length_cons,List.length_nil] at ld1
  have n1:=hb1.cell 2
  simp only [gS,gZ] at n1
  have ar1:=ar0.frame (Keeps.of_fr fr1 (by simp))
  have nl1:=h0.grow fr1
  cases qw:wordsM (⟨13,words,nums,kids,pos⟩:Nd) 0
  ·refine ⟨?_⟩
   simp (disch:=omega) only [go_sem,↓cB,dB]
   exact fin ⟨f0.trans fr1,by simp [nodeM,qw]⟩
  refine ⟨?_⟩
  try (simp (disch:=omega) only [go_sem,↓cB,dB,ld1,n1])
  refine call_to (r9nums_spec (count:=0) (most:=0) ar1 hlu) ?_
  intro v HV hv
  refine Hush.out ?_
  obtain ⟨fa,rfl⟩:=hv
  have fr2:=fr1.trans fa
  have hb2:=fr2.blk hb (by simp)
  have ld2:=hb2.cells0
  simp only [List.length_cons,List.length_nil] at ld2
  have n2:=hb2.cell 2
  simp only [gS,gZ] at n2
  have ar2:=ar0.frame (Keeps.of_fr fr2 (by simp))
  have nl2:=h0.grow fr2
  cases qn:numsM (⟨13,words,nums,kids,pos⟩:Nd) 0 0
  ·refine ⟨?_⟩
   simp (disch:=omega) only [go_sem,↓cB,dB]
   exact fin ⟨f0.trans fr2,by simp [nodeM,qw,qn]⟩
  refine ⟨?_⟩
  try (simp (disch:=omega) only [go_sem,↓cB,dB,ld2,n2])
  refine call_to (r9exprs_spec (f:=0) (e:=1) (m:=1) nl2 ar2 hk hlk (by omega) (by omega) (by omega)) ?_
  intro v HV hv
  refine Hush.out ?_
  obtain ⟨fa,rfl⟩:=hv
  have fr3:=fr2.trans fa
  refine ⟨?_⟩
  simp (disch:=omega) only [go_sem,↓cB,dB]
  exact fin ⟨f0.trans fr3,by simp [nodeM,qw,qn]⟩
 by_cases e14:kind=14
 ·subst e14
  simp (disch:=omega) only [go_sem,↓cB,dB,anV]
  rw [← hG]
  have fr0:Fr [] G G:=Fr.refl _ _
  have hb0:=fr0.blk hb (by simp)
  have ld0:=hb0.cells0
  simp only [List.length_cons,List.length_nil] at ld0
  have n0:=hb0.cell 2
  simp only [gS,gZ] at n0
  have ar0:=ar0.frame (Keeps.of_fr fr0 (by simp))
  have nl0:=h0.grow fr0
  try (simp (disch:=omega) only [go_sem,↓cB,dB,ld0,n0])
  refine call_to (r9words_spec (count:=0) ar0 hlw) ?_
  intro v HV hv
  refine Hush.out ?_
  obtain ⟨fa,rfl⟩:=hv
  have fr1:=fr0.trans fa
  have hb1:=fr1.blk hb (by simp)
  have ld1:=hb1.cells0
  simp only [List.length_cons,List.length_nil] at ld1
  have n1:=hb1.cell 2
  simp only [gS,gZ] at n1
  have ar1:=ar0.frame (Keeps.of_fr fr1 (by simp))
  have nl1:=h0.grow fr1
  cases qw:wordsM (⟨14,words,nums,kids,pos⟩:Nd) 0
  ·refine ⟨?_⟩
   simp (disch:=omega) only [go_sem,↓cB,dB]
   exact fin ⟨f0.trans fr1,by simp [nodeM,qw]⟩
  refine ⟨?_⟩
  try (simp (disch:=omega) only [go_sem,↓cB,dB,ld1,n1])
  refine call_to (r9nums_spec (count:=0) (most:=0) ar1 hlu) ?_
  intro v HV hv
  refine Hush.out ?_
  obtain ⟨fa,rfl⟩:=hv
  have fr2:=fr1.trans fa
  have hb2:=fr2.blk hb (by simp)
  have ld2:=hb2.cells0
  simp only [List.length_cons,List.length_nil] at ld2
  have n2:=hb2.cell 2
  simp only [gS,gZ] at n2
  have ar2:=ar0.frame (Keeps.of_fr fr2 (by simp))
  have nl2:=h0.grow fr2
  cases qn:numsM (⟨14,words,nums,kids,pos⟩:Nd) 0 0
  ·refine ⟨?_⟩
   simp (disch:=omega) only [go_sem,↓cB,dB]
   exact fin ⟨f0.trans fr2,by simp [nodeM,qw,qn]⟩
  refine ⟨?_⟩
  try (simp (disch:=omega) only [go_sem,↓cB,dB,ld2,n2])
  exact fin ⟨f0.trans fr2,by simp [nodeM,qw,qn]⟩
 by_cases e15:kind=15
 ·subst e15
  simp (disch:=omega) only [go_sem,↓cB,dB,anV]
  rw [← hG]
  have fr0:Fr [] G G:=Fr.refl _ _
  have hb0:=fr0.blk hb (by simp)
  have ld0:=hb0.cells0
  simp only [List.length_cons,List.length_nil] at ld0
  have n0:=hb0.cell 2
  simp only [gS,gZ] at n0
  have ar0:=ar0.frame (Keeps.of_fr fr0 (by simp))
  have nl0:=h0.grow fr0
  try (simp (disch:=omega) only [go_sem,↓cB,dB,ld0,n0])
  refine call_to (r9words_spec (count:=0) ar0 hlw) ?_
  intro v HV hv
  refine Hush.out ?_
  obtain ⟨fa,rfl⟩:=hv
  have fr1:=fr0.trans fa
  have hb1:=fr1.blk hb (by simp)
  have ld1:=hb1.cells0
  simp only [List.length_cons,List.length_nil] at ld1
  have n1:=hb1.cell 2
  simp only [gS,gZ] at n1
  have ar1:=ar0.frame (Keeps.of_fr fr1 (by simp))
  have nl1:=h0.grow fr1
  cases qw:wordsM (⟨15,words,nums,kids,pos⟩:Nd) 0
  ·refine ⟨?_⟩
   simp (disch:=omega) only [go_sem,↓cB,dB]
   exact fin ⟨f0.trans fr1,by simp [nodeM,qw]⟩
  refine ⟨?_⟩
  try (simp (disch:=omega) only [go_sem,↓cB,dB,ld1,n1])
  refine call_to (r9nums_spec (count:=0) (most:=0) ar1 hlu) ?_
  intro v HV hv
  refine Hush.out ?_
  obtain ⟨fa,rfl⟩:=hv
  have fr2:=fr1.trans fa
  have hb2:=fr2.blk hb (by simp)
  have ld2:=hb2.cells0
  simp only [List.length_cons,List.length_nil] at ld2
  have n2:=hb2.cell 2
  simp only [gS,gZ] at n2
  have ar2:=ar0.frame (Keeps.of_fr fr2 (by simp))
  have nl2:=h0.grow fr2
  cases qn:numsM (⟨15,words,nums,kids,pos⟩:Nd) 0 0
  ·refine ⟨?_⟩
   simp (disch:=omega) only [go_sem,↓cB,dB]
   exact fin ⟨f0.trans fr2,by simp [nodeM,qw,qn]⟩
  refine ⟨?_⟩
  try (simp (disch:=omega) only [go_sem,↓cB,dB,ld2,n2])
  exact fin ⟨f0.trans fr2,by simp [nodeM,qw,qn]⟩
 by_cases e16:kind=16
 ·subst e16
  simp (disch:=omega) only [go_sem,↓cB,dB,anV]
  rw [← hG]
  have fr0:Fr [] G G:=Fr.refl _ _
  have hb0:=fr0.blk hb (by simp)
  have ld0:=hb0.cells0
  simp only [List.length_cons,List.length_nil] at ld0
  have n0:=hb0.cell 2
  simp only [gS,gZ] at n0
  have ar0:=ar0.frame (Keeps.of_fr fr0 (by simp))
  have nl0:=h0.grow fr0
  try (simp (disch:=omega) only [go_sem,↓cB,dB,ld0,n0])
  refine call_to (r9words_spec (count:=0) ar0 hlw) ?_
  intro v HV hv
  refine Hush.out ?_
  obtain ⟨fa,rfl⟩:=hv
  have fr1:=fr0.trans fa
  have hb1:=fr1.blk hb (by simp)
  have ld1:=hb1.cells0
  simp only [List.length_cons,List.length_nil] at ld1
  have n1:=hb1.cell 2
  simp only [gS,gZ] at n1
  have ar1:=ar0.frame (Keeps.of_fr fr1 (by simp))
  have nl1:=h0.grow fr1
  cases qw:wordsM (⟨16,words,nums,kids,pos⟩:Nd) 0
  ·refine ⟨?_⟩
   simp (disch:=omega) only [go_sem,↓cB,dB]
   exact fin ⟨f0.trans fr1,by simp [nodeM,qw]⟩
  refine ⟨?_⟩
  try (simp (disch:=omega) only [go_sem,↓cB,dB,ld1,n1])
  refine call_to (r9nums_spec (count:=0) (most:=0) ar1 hlu) ?_
  intro v HV hv
  refine Hush.out ?_
  obtain ⟨fa,rfl⟩:=hv
  have fr2:=fr1.trans fa
  have hb2:=fr2.blk hb (by simp)
  have ld2:=hb2.cells0
  simp only [List.length_cons,List.length_nil] at ld2
  have n2:=hb2.cell 2
  simp only [gS,gZ] at n2
  have ar2:=ar0.frame (Keeps.of_fr fr2 (by simp))
  have nl2:=h0.grow fr2
  cases qn:numsM (⟨16,words,nums,kids,pos⟩:Nd) 0 0
  ·refine ⟨?_⟩
   simp (disch:=omega) only [go_sem,↓cB,dB]
   exact fin ⟨f0.trans fr2,by simp [nodeM,qw,qn]⟩
  refine ⟨?_⟩
  try (simp (disch:=omega) only [go_sem,↓cB,dB,ld2,n2])
  refine call_to (r9all_spec (m:=0) nl2 ar2 hk hlk (by simp)) ?_
  intro v HV hv
  refine Hush.out ?_
  obtain ⟨fa,rfl⟩:=hv
  have fr3:=fr2.trans fa
  refine ⟨?_⟩
  simp (disch:=omega) only [go_sem,↓cB,dB]
  exact fin ⟨f0.trans fr3,by simp [nodeM,qw,qn]⟩
 by_cases e17:kind=17
 ·subst e17
  simp (disch:=omega) only [go_sem,↓cB,dB,anV]
  rw [← hG]
  have fr0:Fr [] G G:=Fr.refl _ _
  have hb0:=fr0.blk hb (by simp)
  have ld0:=hb0.cells0
  simp only [List.length_cons,List.length_nil] at ld0
  have n0:=hb0.cell 2
  simp only [gS,gZ] at n0
  have ar0:=ar0.frame (Keeps.of_fr fr0 (by simp))
  have nl0:=h0.grow fr0
  try (simp (disch:=omega) only [go_sem,↓cB,dB,ld0,n0])
  refine call_to (r9words_spec (count:=0) ar0 hlw) ?_
  intro v HV hv
  refine Hush.out ?_
  obtain ⟨fa,rfl⟩:=hv
  have fr1:=fr0.trans fa
  have hb1:=fr1.blk hb (by simp)
  have ld1:=hb1.cells0
  simp only [List.length_cons,List.length_nil] at ld1
  have n1:=hb1.cell 2
  simp only [gS,gZ] at n1
  have ar1:=ar0.frame (Keeps.of_fr fr1 (by simp))
  have nl1:=h0.grow fr1
  cases qw:wordsM (⟨17,words,nums,kids,pos⟩:Nd) 0
  ·refine ⟨?_⟩
   simp (disch:=omega) only [go_sem,↓cB,dB]
   exact fin ⟨f0.trans fr1,by simp [nodeM,qw]⟩
  refine ⟨?_⟩
  try (simp (disch:=omega) only [go_sem,↓cB,dB,ld1,n1])
  refine call_to (r9nums_spec (count:=1) (most:=999999) ar1 hlu) ?_
  intro v HV hv
  refine Hush.out ?_
  obtain ⟨fa,rfl⟩:=hv
  have fr2:=fr1.trans fa
  have hb2:=fr2.blk hb (by simp)
  have ld2:=hb2.cells0
  simp only [List.length_cons,List.length_nil] at ld2
  have n2:=hb2.cell 2
  simp only [gS,gZ] at n2
  have ar2:=ar0.frame (Keeps.of_fr fr2 (by simp))
  have nl2:=h0.grow fr2
  cases qn:numsM (⟨17,words,nums,kids,pos⟩:Nd) 1 999999
  ·refine ⟨?_⟩
   simp (disch:=omega) only [go_sem,↓cB,dB]
   exact fin ⟨f0.trans fr2,by simp [nodeM,qw,qn]⟩
  refine ⟨?_⟩
  try (simp (disch:=omega) only [go_sem,↓cB,dB,ld2,n2])
  exact fin ⟨f0.trans fr2,by simp [nodeM,qw,qn]⟩
 by_cases e18:kind=18
 ·subst e18
  simp (disch:=omega) only [go_sem,↓cB,dB,anV]
  rw [← hG]
  have fr0:Fr [] G G:=Fr.refl _ _
  have hb0:=fr0.blk hb (by simp)
  have ld0:=hb0.cells0
  simp only [List.length_cons,List.length_nil] at ld0
  have n0:=hb0.cell 2
  simp only [gS,gZ] at n0
  have ar0:=ar0.frame (Keeps.of_fr fr0 (by simp))
  have nl0:=h0.grow fr0
  try (simp (disch:=omega) only [go_sem,↓cB,dB,ld0,n0])
  refine call_to (r9words_spec (count:=1) ar0 hlw) ?_
  intro v HV hv
  refine Hush.out ?_
  obtain ⟨fa,rfl⟩:=hv
  have fr1:=fr0.trans fa
  have hb1:=fr1.blk hb (by simp)
  have ld1:=hb1.cells0
  simp only [List.length_cons,List.length_nil] at ld1
  have n1:=hb1.cell 2
  simp only [gS,gZ] at n1
  have ar1:=ar0.frame (Keeps.of_fr fr1 (by simp))
  have nl1:=h0.grow fr1
  cases qw:wordsM (⟨18,words,nums,kids,pos⟩:Nd) 1
  ·refine ⟨?_⟩
   simp (disch:=omega) only [go_sem,↓cB,dB]
   exact fin ⟨f0.trans fr1,by simp [nodeM,qw]⟩
  refine ⟨?_⟩
  try (simp (disch:=omega) only [go_sem,↓cB,dB,ld1,n1])
  refine call_to (r9nums_spec (count:=0) (most:=0) ar1 hlu) ?_
  intro v HV hv
  refine Hush.out ?_
  obtain ⟨fa,rfl⟩:=hv
  have fr2:=fr1.trans fa
  have hb2:=fr2.blk hb (by simp)
  have ld2:=hb2.cells0
  simp only [List.length_cons,List.length_nil] at ld2
  have n2:=hb2.cell 2
  simp only [gS,gZ] at n2
  have ar2:=ar0.frame (Keeps.of_fr fr2 (by simp))
  have nl2:=h0.grow fr2
  cases qn:numsM (⟨18,words,nums,kids,pos⟩:Nd) 0 0
  ·refine ⟨?_⟩
   simp (disch:=omega) only [go_sem,↓cB,dB]
   exact fin ⟨f0.trans fr2,by simp [nodeM,qw,qn]⟩
  refine ⟨?_⟩
  try (simp (disch:=omega) only [go_sem,↓cB,dB,ld2,n2])
  exact fin ⟨f0.trans fr2,by simp [nodeM,qw,qn]⟩
 by_cases e19:kind=19
 ·subst e19
  simp (disch:=omega) only [go_sem,↓cB,dB,anV]
  rw [← hG]
  have fr0:Fr [] G G:=Fr.refl _ _
  have hb0:=fr0.blk hb (by simp)
  have ld0:=hb0.cells0
  simp only [List.length_cons,List.length_nil] at ld0
  have n0:=hb0.cell 2
  simp only [gS,gZ] at n0
  have ar0:=ar0.frame (Keeps.of_fr fr0 (by simp))
  have nl0:=h0.grow fr0
  try (simp (disch:=omega) only [go_sem,↓cB,dB,ld0,n0])
  refine call_to (r9words_spec (count:=1) ar0 hlw) ?_
  intro v HV hv
  refine Hush.out ?_
  obtain ⟨fa,rfl⟩:=hv
  have fr1:=fr0.trans fa
  have hb1:=fr1.blk hb (by simp)
  have ld1:=hb1.cells0
  simp only [List.length_cons,List.length_nil] at ld1
  have n1:=hb1.cell 2
  simp only [gS,gZ] at n1
  have ar1:=ar0.frame (Keeps.of_fr fr1 (by simp))
  have nl1:=h0.grow fr1
  cases qw:wordsM (⟨19,words,nums,kids,pos⟩:Nd) 1
  ·refine ⟨?_⟩
   simp (disch:=omega) only [go_sem,↓cB,dB]
   exact fin ⟨f0.trans fr1,by simp [nodeM,qw]⟩
  refine ⟨?_⟩
  try (simp (disch:=omega) only [go_sem,↓cB,dB,ld1,n1])
  refine call_to (r9nums_spec (count:=0) (most:=0) ar1 hlu) ?_
  intro v HV hv
  refine Hush.out ?_
  obtain ⟨fa,rfl⟩:=hv
  have fr2:=fr1.trans fa
  have hb2:=fr2.blk hb (by simp)
  have ld2:=hb2.cells0
  simp only [List.length_cons,List.length_nil] at ld2
  have n2:=hb2.cell 2
  simp only [gS,gZ] at n2
  have ar2:=ar0.frame (Keeps.of_fr fr2 (by simp))
  have nl2:=h0.grow fr2
  cases qn:numsM (⟨19,words,nums,kids,pos⟩:Nd) 0 0
  ·refine ⟨?_⟩
   simp (disch:=omega) only [go_sem,↓cB,dB]
   exact fin ⟨f0.trans fr2,by simp [nodeM,qw,qn]⟩
  refine ⟨?_⟩
  try (simp (disch:=omega) only [go_sem,↓cB,dB,ld2,n2])
  exact fin ⟨f0.trans fr2,by simp [nodeM,qw,qn]⟩
 by_cases e20:kind=20
 ·subst e20
  simp (disch:=omega) only [go_sem,↓cB,dB,anV]
  rw [← hG]
  have fr0:Fr [] G G:=Fr.refl _ _
  have hb0:=fr0.blk hb (by simp)
  have ld0:=hb0.cells0
  simp only [List.length_cons,List.length_nil] at ld0
  have n0:=hb0.cell 2
  simp only [gS,gZ] at n0
  have ar0:=ar0.frame (Keeps.of_fr fr0 (by simp))
  have nl0:=h0.grow fr0
  try (simp (disch:=omega) only [go_sem,↓cB,dB,ld0,n0])
  refine call_to (r9words_spec (count:=0) ar0 hlw) ?_
  intro v HV hv
  refine Hush.out ?_
  obtain ⟨fa,rfl⟩:=hv
  have fr1:=fr0.trans fa
  have hb1:=fr1.blk hb (by simp)
  have ld1:=hb1.cells0
  simp only [List.length_cons,List.length_nil] at ld1
  have n1:=hb1.cell 2
  simp only [gS,gZ] at n1
  have ar1:=ar0.frame (Keeps.of_fr fr1 (by simp))
  have nl1:=h0.grow fr1
  cases qw:wordsM (⟨20,words,nums,kids,pos⟩:Nd) 0
  ·refine ⟨?_⟩
   simp (disch:=omega) only [go_sem,↓cB,dB]
   exact fin ⟨f0.trans fr1,by simp [nodeM,qw]⟩
  refine ⟨?_⟩
  try (simp (disch:=omega) only [go_sem,↓cB,dB,ld1,n1])
  refine call_to (r9nums_spec (count:=0) (most:=0) ar1 hlu) ?_
  intro v HV hv
  refine Hush.out ?_
  obtain ⟨fa,rfl⟩:=hv
  have fr2:=fr1.trans fa
  have hb2:=fr2.blk hb (by simp)
  have ld2:=hb2.cells0
  simp only [List.length_cons,List.length_nil] at ld2
  have n2:=hb2.cell 2
  simp only [gS,gZ] at n2
  have ar2:=ar0.frame (Keeps.of_fr fr2 (by simp))
  have nl2:=h0.grow fr2
  cases qn:numsM (⟨20,words,nums,kids,pos⟩:Nd) 0 0
  ·refine ⟨?_⟩
   simp (disch:=omega) only [go_sem,↓cB,dB]
   exact fin ⟨f0.trans fr2,by simp [nodeM,qw,qn]⟩
  refine ⟨?_⟩
  try (simp (disch:=omega) only [go_sem,↓cB,dB,ld2,n2])
  refine call_to (r9exprs_spec (f:=1) (e:=0) (m:=0) nl2 ar2 hk hlk (by omega) (by omega) (by omega)) ?_
  intro v HV hv
  refine Hush.out ?_
  obtain ⟨fa,rfl⟩:=hv
  have fr3:=fr2.trans fa
  refine ⟨?_⟩
  simp (disch:=omega) only [go_sem,↓cB,dB]
  exact fin ⟨f0.trans fr3,by simp [nodeM,qw,qn]⟩
 by_cases e21:kind=21
 ·subst e21
  simp (disch:=omega) only [go_sem,↓cB,dB,anV]
  rw [← hG]
  have fr0:Fr [] G G:=Fr.refl _ _
  have hb0:=fr0.blk hb (by simp)
  have ld0:=hb0.cells0
  simp only [List.length_cons,List.length_nil] at ld0
  have n0:=hb0.cell 2
  simp only [gS,gZ] at n0
  have ar0:=ar0.frame (Keeps.of_fr fr0 (by simp))
  have nl0:=h0.grow fr0
  try (simp (disch:=omega) only [go_sem,↓cB,dB,ld0,n0])
  refine call_to (r9words_spec (count:=0) ar0 hlw) ?_
  intro v HV hv
  refine Hush.out ?_
  obtain ⟨fa,rfl⟩:=hv
  have fr1:=fr0.trans fa
  have hb1:=fr1.blk hb (by simp)
  have ld1:=hb1.cells0
  simp only [List.length_cons,List.length_nil] at ld1
  have n1:=hb1.cell 2
  simp only [gS,gZ] at n1
  have ar1:=ar0.frame (Keeps.of_fr fr1 (by simp))
  have nl1:=h0.grow fr1
  cases qw:wordsM (⟨21,words,nums,kids,pos⟩:Nd) 0
  ·refine ⟨?_⟩
   simp (disch:=omega) only [go_sem,↓cB,dB]
   exact fin ⟨f0.trans fr1,by simp [nodeM,qw]⟩
  refine ⟨?_⟩
  try (simp (disch:=omega) only [go_sem,↓cB,dB,ld1,n1])
  refine call_to (r9nums_spec (count:=0) (most:=0) ar1 hlu) ?_
  intro v HV hv
  refine Hush.out ?_
  obtain ⟨fa,rfl⟩:=hv
  have fr2:=fr1.trans fa
  have hb2:=fr2.blk hb (by simp)
  have ld2:=hb2.cells0
  simp only [List.length_cons,List.length_nil] at ld2
  have n2:=hb2.cell 2
  simp only [gS,gZ] at n2
  have ar2:=ar0.frame (Keeps.of_fr fr2 (by simp))
  have nl2:=h0.grow fr2
  cases qn:numsM (⟨21,words,nums,kids,pos⟩:Nd) 0 0
  ·refine ⟨?_⟩
   simp (disch:=omega) only [go_sem,↓cB,dB]
   exact fin ⟨f0.trans fr2,by simp [nodeM,qw,qn]⟩
  refine ⟨?_⟩
  try (simp (disch:=omega) only [go_sem,↓cB,dB,ld2,n2])
  refine call_to (r9exprs_spec (f:=1) (e:=0) (m:=0) nl2 ar2 hk hlk (by omega) (by omega) (by omega)) ?_
  intro v HV hv
  refine Hush.out ?_
  obtain ⟨fa,rfl⟩:=hv
  have fr3:=fr2.trans fa
  refine ⟨?_⟩
  simp (disch:=omega) only [go_sem,↓cB,dB]
  exact fin ⟨f0.trans fr3,by simp [nodeM,qw,qn]⟩
 by_cases e22:kind=22
 ·subst e22
  simp (disch:=omega) only [go_sem,↓cB,dB,anV]
  rw [← hG]
  have fr0:Fr [] G G:=Fr.refl _ _
  have hb0:=fr0.blk hb (by simp)
  have ld0:=hb0.cells0
  simp only [List.length_cons,List.length_nil] at ld0
  have n0:=hb0.cell 2
  simp only [gS,gZ] at n0
  have ar0:=ar0.frame (Keeps.of_fr fr0 (by simp))
  have nl0:=h0.grow fr0
  try (simp (disch:=omega) only [go_sem,↓cB,dB,ld0,n0])
  refine call_to (r9words_spec (count:=0) ar0 hlw) ?_
  intro v HV hv
  refine Hush.out ?_
  obtain ⟨fa,rfl⟩:=hv
  have fr1:=fr0.trans fa
  have hb1:=fr1.blk hb (by simp)
  have ld1:=hb1.cells0
  simp only [List.length_cons,List.length_nil] at ld1
  have n1:=hb1.cell 2
  simp only [gS,gZ] at n1
  have ar1:=ar0.frame (Keeps.of_fr fr1 (by simp))
  have nl1:=h0.grow fr1
  cases qw:wordsM (⟨22,words,nums,kids,pos⟩:Nd) 0
  ·refine ⟨?_⟩
   simp (disch:=omega) only [go_sem,↓cB,dB]
   exact fin ⟨f0.trans fr1,by simp [nodeM,qw]⟩
  refine ⟨?_⟩
  try (simp (disch:=omega) only [go_sem,↓cB,dB,ld1,n1])
  refine call_to (r9nums_spec (count:=1) (most:=8) ar1 hlu) ?_
  intro v HV hv
  refine Hush.out ?_
  obtain ⟨fa,rfl⟩:=hv
  have fr2:=fr1.trans fa
  have hb2:=fr2.blk hb (by simp)
  have ld2:=hb2.cells0
  simp only [List.length_cons,List.length_nil] at ld2
  have n2:=hb2.cell 2
  simp only [gS,gZ] at n2
  have ar2:=ar0.frame (Keeps.of_fr fr2 (by simp))
  have nl2:=h0.grow fr2
  cases qn:numsM (⟨22,words,nums,kids,pos⟩:Nd) 1 8
  ·refine ⟨?_⟩
   simp (disch:=omega) only [go_sem,↓cB,dB]
   exact fin ⟨f0.trans fr2,by simp [nodeM,qw,qn]⟩
  refine ⟨?_⟩
  try (simp (disch:=omega) only [go_sem,↓cB,dB,ld2,n2])
  refine call_to (r9exprs_spec (f:=2) (e:=0) (m:=0) nl2 ar2 hk hlk (by omega) (by omega) (by omega)) ?_
  intro v HV hv
  refine Hush.out ?_
  obtain ⟨fa,rfl⟩:=hv
  have fr3:=fr2.trans fa
  refine ⟨?_⟩
  simp (disch:=omega) only [go_sem,↓cB,dB]
  exact fin ⟨f0.trans fr3,by simp [nodeM,qw,qn]⟩
 simp (disch:=omega) only [go_sem,↓cB,dB,anV]
 rw [← hG]
 exact fin ⟨f0,by simp [nodeM,e0,e1,e2,e3,e4,e5,e6,e7,e8,e9,e10,e11,e12,e13,e14,e15,e16,e17,e18,e19,e20,e21,e22]⟩
end
end Go.Proofs.YtcffdpmmadipeaaGreatDoor
namespace Go.Proofs.YtcffdpmmadipeaaGreatDoor
open Go.HL
set_option maxRecDepth 10000
structure Sz (l:List Nd):Prop where
 len:l.length≤9223372036854775807
 w:∀ (i:Nat) n,l[i]?=some n→n.words.length≤9223372036854775807
 u:∀ (i:Nat) n,l[i]?=some n→n.nums.length≤9223372036854775807
 k:∀ (i:Nat) n,l[i]?=some n→n.kids.length≤9223372036854775807
 s:∀ (i:Nat) n,l[i]?=some n→∀ w ∈ n.words,w.length≤9223372036854775807
def i64w (n:Int):Int:=IntKind.i64.wrap n
def smallL:List Nd→Int→Int
 | [],n=>n
 | x :: l,n=>if n≤1500 then smallL l (i64w (i64w (i64w (n + x.words.length) + x.nums.length) + x.kids.length)) else n
def smallM (l:List Nd):Bool:=decide (smallL l l.length≤1500)
theorem small_len {l:List Nd} (h:smallM l=true):l.length≤1500:=by
 unfold smallM at h
 simp only [decide_eq_true_eq] at h
 cases l with
 | nil=>simp
 | cons x l =>
  unfold smallL at h
  split at h <;> omega
def walkK (l:List Nd) (ih:Nat→Nat × Bool):List Int→Nat→Nat × Bool
 | [],next=>(next,true)
 | k :: ks,next=>if k=next∧next < l.length then (if (ih next).2 then walkK l ih ks (ih next).1 else ((ih next).1,false)) else (next,false)
def walkM (l:List Nd):Nat→Nat→Nat × Bool
 | 0,i=>(i,false)
 | d + 1,i=>walkK l (walkM l d) (l.getD i nd0').kids (i + 1)
theorem walkK_ge {l:List Nd} {ih:Nat→Nat × Bool} (h:∀ i,i < l.length→i≤(ih i).1∧(ih i).1≤l.length):∀ (ks:List Int) (i:Nat),i≤l.length→i≤(walkK l ih ks i).1∧(walkK l ih ks i).1≤l.length
 | [],i,hi=>by simp [walkK,hi]
 | k :: ks,i,hi=>by
  unfold walkK
  split
  ·rename_i hc
   have h1:=h i hc.2
   split
   ·have:=walkK_ge h ks (ih i).1 h1.2
    omega
   ·simp; omega
  ·simp; omega
theorem walkM_ge {l:List Nd}:∀ (d i:Nat),i < l.length→i≤(walkM l d i).1∧(walkM l d i).1≤l.length
 | 0,i,h=>by simp [walkM]; omega
 | d + 1,i,h=>by
  have:=walkK_ge (l:=l) (ih:=walkM l d) (fun j hj=>walkM_ge d j hj) (l.getD i nd0').kids (i + 1) (by omega)
  unfold walkM
  omega
def rightM (l:List Nd):Bool :=
 decide (0 < l.length) && (decide (l.length≤800) && (decide ((l.getD 0 nd0').kind=0) && ((walkM l 20 0).2 && (decide ((walkM l 20 0).1=l.length) && allR l.length (fun i=>nodeM l (l.getD i nd0'))))))
section
variable {H:Heap} {S:Nat→Prop} {v:Value} {l:List Nd}
theorem r9Small_spec (h:NL H S v l) (hz:Sz l):CallF Tryz.prog 6 [v] H (fun r H'=>H=H'∧r=.bool (smallM l)) NoP:=by
 obtain ⟨av,cv,rfl⟩:=h.len
 have hzl:=hz.len
 unfold smallM
 obtain ⟨R,hR⟩:∃ R,R=smallL l l.length:=⟨_,rfl⟩
 rw [← hR]
 refine callF_of Tryz.func6 rfl Tryz.ntmps6 Tryz.results6 (by decide) rfl ?_
 simp (disch:=omega) only [go_sem,↓cB,dB]
 refine loop_by (fun k ρ H2=>∃ (i:Nat) (n:Int),k=l.length - i∧i≤l.length∧smallL (l.drop i) n=R∧H2=H∧(ρ.get 0=.slice av l.length cv∧ρ.get 3=iv n∧ρ.get 4=iv i∧ρ.ds = [])) (k:=l.length) ?_ ?_
 ·exact ⟨0,l.length,rfl,by omega,hR.symm,rfl,by simp (disch:=omega) only [go_sem,↓cB,dB]⟩
 ·rintro k ρ _ ⟨i,n,rfl,hi,hs,rfl,r0,r3,r4,rd⟩
  have hxi:(i:Int) + 1=((i + 1:Nat):Int):=by omega
  by_cases hin:i < l.length
  ·have hgi:=getD_some (d:=nd0') hin
   have hd:l.drop i=l.getD i nd0' :: l.drop (i + 1):=by
    rw [List.drop_eq_getElem_cons hin]; congr 1; simp [hin]
   rw [hd] at hs
   unfold smallL at hs
   by_cases hn:n≤1500
   ·rw [if_pos hn] at hs
    obtain ⟨b,o,cap,a,q1,q2,ar,-,-,k1,k2,k3,-⟩:=h.row hgi
    obtain ⟨nn,x1,c1,x2,c2,x3,c3,rfl⟩:=ar.open
    simp only at q2
    subst q2
    simp only [Value.slice.injEq,true_and] at q1
    obtain ⟨rfl,rfl⟩:=q1
    simp only at k1 k2 k3
    simp (disch:=omega) only [go_sem,↓cB,dB,r0,r3,r4,rd]
    refine draw0 (lk [(0,true),(1,true),(2,true),(3,true),(4,true),(5,true),(6,true),(7,true),(8,true),(9,true),(10,true),(11,true),(12,true),(13,true),(14,true),(15,true),(16,true),(17,true),(18,true),(19,true),(20,true),(21,true),(22,true)] .fin) T.mixed ?_
    simp (disch:=omega) only [go_sem,↓cB,dB,r0,r3,r4,rd,k1,k2,k3]
    exact fin ⟨l.length - (i + 1),by omega,i + 1,_,rfl,by omega,hs,rfl,by simp (disch:=omega) only [go_sem,↓cB,dB,r0,r3,r4,rd,hxi]; simp [i64w]⟩
   ·rw [if_neg hn] at hs
    subst hs
    simp (disch:=omega) only [go_sem,↓cB,dB,r0,r3,r4,rd]
    exact fin ⟨rfl,rfl⟩
  ·rw [List.drop_eq_nil_of_le (by omega)] at hs
   unfold smallL at hs
   subst hs
   simp (disch:=omega) only [go_sem,↓cB,dB,r0,r3,r4,rd]
   exact fin ⟨rfl,rfl⟩
set_option maxHeartbeats 1000000 in
theorem r9walk_spec (hz:Sz l):∀ (d:Nat) {H:Heap} {i:Nat} {deep:Int},NL H S v l→i < l.length→d≤20→deep=21 - d →
  CallF Tryz.prog 13 [v,iv i,iv deep] H (fun r H'=>H=H'∧r=.tuple #[iv (walkM l d i).1,.bool (walkM l d i).2]) NoP:=by
 intro d
 have hzl:=hz.len
 induction d with
 | zero =>
  intro H i deep h hi _ hd
  subst hd
  refine callF_of Tryz.func13 rfl Tryz.ntmps13 Tryz.results13 (by decide) rfl ?_
  simp (disch:=omega) only [go_sem,↓cB,dB]
  exact fin ⟨rfl,rfl⟩
 | succ d IH =>
  intro H i deep h hi hd20 hd
  have hgi:=getD_some (d:=nd0') hi
  obtain ⟨b,o,cap,a,q1,q2,ar,-,-,-,-,k3,-⟩:=h.row hgi
  obtain ⟨nn,x1,c1,x2,c2,x3,c3,rfl⟩:=ar.open
  simp only at q2
  have hkl:=hz.k i _ hgi
  unfold walkM
  subst q2
  subst q1
  simp only at k3
  generalize hks:(l.getD i nd0').kids=ks at *
  obtain ⟨R,hR⟩:∃ R,R=walkK l (walkM l d) ks (i + 1):=⟨_,rfl⟩
  rw [← hR]
  refine callF_of Tryz.func13 rfl Tryz.ntmps13 Tryz.results13 (by decide) rfl ?_
  simp (disch:=omega) only [go_sem,↓cB,dB]
  refine loop_by (fun k ρ H2=>∃ (j next:Nat),k=ks.length - j∧j≤ks.length∧next≤l.length∧walkK l (walkM l d) (ks.drop j) next=R∧H2=H∧(ρ.get 0=.slice (some ⟨b,o,none⟩) l.length cap∧ρ.get 1=iv i∧ρ.get 2=iv deep∧ρ.get 8=iv next∧ρ.get 9=iv j∧ρ.ds = [])) (k:=ks.length) ?_ ?_
  ·exact ⟨0,i + 1,rfl,by omega,by omega,hR.symm,rfl,by simp (disch:=omega) only [go_sem,↓cB,dB]; simp⟩
  ·rintro k ρ _ ⟨j,next,rfl,hj,hnl,hw,rfl,r0,r1,r2,r8,r9,rd⟩
   have hxj:(j:Int) + 1=((j + 1:Nat):Int):=by omega
   by_cases hjn:j < ks.length
   ·have hgj:=getD_some (d:=(0:Int)) hjn
    have hkk:=ar.k
    simp only [hks] at hkk
    obtain ⟨b',o',cap',p1,-,p2⟩:=hkk.at1 hgj
    simp only [Value.slice.injEq,true_and] at p1
    obtain ⟨rfl,rfl⟩:=p1
    have hd':ks.drop j=ks.getD j 0 :: ks.drop (j + 1):=by
     rw [List.drop_eq_getElem_cons hjn]; congr 1; simp [hjn]
    rw [hd'] at hw
    unfold walkK at hw
    generalize hy:ks.getD j 0=y at *
    by_cases hyn:y=next
    ·by_cases hnx:next < l.length
     ·rw [if_pos ⟨hyn,hnx⟩] at hw
      subst hyn
      simp (disch:=omega) only [go_sem,↓cB,dB,r0,r1,r2,r8,r9,rd,k3,p2]
      refine call_to (IH h hnx (by omega) (by omega)) ?_
      intro v5 H5 hv
      refine Hush.out ?_
      obtain ⟨rfl,rfl⟩:=hv
      have hge:=walkM_ge d next hnx
      cases hok:(walkM l d next).2
      ·rw [hok] at hw
       simp only [Bool.false_eq_true,if_false] at hw
       rw [← hw]
       refine ⟨?_⟩
       simp (disch:=omega) only [go_sem,↓cB,dB,r0,r1,r2,r8,r9,rd]
       exact fin ⟨rfl,rfl⟩
      ·rw [hok] at hw
       simp only [if_true] at hw
       refine ⟨?_⟩
       simp (disch:=omega) only [go_sem,↓cB,dB,r0,r1,r2,r8,r9,rd]
       exact fin ⟨ks.length - (j + 1),by omega,j + 1,(walkM l d next).1,rfl,by omega,by omega,hw,rfl,by simp (disch:=omega) only [go_sem,↓cB,dB,r0,r1,r2,r8,r9,rd,hxj]⟩
     ·rw [if_neg (fun e=>hnx e.2)] at hw
      rw [← hw]
      simp (disch:=omega) only [go_sem,↓cB,dB,r0,r1,r2,r8,r9,rd,k3,p2,hyn]
      exact fin ⟨rfl,rfl⟩
    ·rw [if_neg (fun e=>hyn e.1)] at hw
     rw [← hw]
     simp (disch:=omega) only [go_sem,↓cB,dB,r0,r1,r2,r8,r9,rd,k3,p2]
     exact fin ⟨rfl,rfl⟩
   ·rw [List.drop_eq_nil_of_le (by omega)] at hw
    unfold walkK at hw
    rw [← hw]
    simp (disch:=omega) only [go_sem,↓cB,dB,r0,r1,r2,r8,r9,rd,k3]
    exact fin ⟨rfl,rfl⟩
end
end Go.Proofs.YtcffdpmmadipeaaGreatDoor
namespace Go.Proofs.YtcffdpmmadipeaaGreatDoor
open Go.HL
set_option maxRecDepth 10000
theorem walkK_ok {l:List Nd} {ih:Nat→Nat × Bool} {Q:Nat→Prop} (h:∀ i e,i < l.length→ih i=(e,true)→i < e∧e≤l.length∧∀ j,i≤j→j < e→Q j) :
  ∀ (ks:List Int) (i e:Nat),i≤l.length→walkK l ih ks i=(e,true)→i≤e∧e≤l.length∧(∀ k ∈ ks,(i:Int)≤k∧k < e)∧∀ j,i≤j→j < e→Q j
 | [],i,e,hi,hw=>by
  simp [walkK] at hw
  subst hw
  exact ⟨by omega,hi,by simp,by intro j h1 h2; omega⟩
 | k :: ks,i,e,hi,hw=>by
  unfold walkK at hw
  split at hw
  ·rename_i hc
   split at hw
   ·rename_i hok
    obtain ⟨a1,a2,a3⟩:=h i (ih i).1 hc.2 (by rw [← hok])
    obtain ⟨b1,b2,b3,b4⟩:=walkK_ok h ks (ih i).1 e a2 hw
    refine ⟨by omega,b2,?_,?_⟩
    ·intro k' hk'
     rw [List.mem_cons] at hk'
     rcases hk' with rfl | hk'
     ·omega
     ·have:=b3 k' hk'; omega
    ·intro j h1 h2
     by_cases hj:j < (ih i).1
     ·exact a3 j h1 hj
     ·exact b4 j (by omega) h2
   ·simp at hw
  ·simp at hw
theorem walkM_ok {l:List Nd}:∀ (d i e:Nat),i < l.length→walkM l d i=(e,true)→i < e∧e≤l.length∧∀ j,i≤j→j < e→∀ k ∈ (l.getD j nd0').kids,(j:Int) < k∧k < l.length
 | 0,i,e,hi,hw=>by simp [walkM] at hw
 | d + 1,i,e,hi,hw=>by
  unfold walkM at hw
  obtain ⟨b1,b2,b3,b4⟩:=walkK_ok (l:=l) (ih:=walkM l d) (Q:=fun j=>∀ k ∈ (l.getD j nd0').kids,(j:Int) < k∧k < l.length) (fun i' e' hi' hw'=>walkM_ok d i' e' hi' hw') (l.getD i nd0').kids (i + 1) e (by omega) hw
  refine ⟨by omega,b2,?_⟩
  intro j h1 h2 k hk
  by_cases hj:j=i
  ·subst hj
   have:=b3 k hk
   omega
  ·exact b4 j (by omega) h2 k hk
theorem kok_of {l:List Nd} (h:walkM l 20 0=(l.length,true)) (hl:0 < l.length) {i:Nat} {n:Nd} (hi:l[i]?=some n):KOk l n:=by
 obtain ⟨_,_,h3⟩:=walkM_ok 20 0 l.length hl h
 have hil:=(List.getElem?_eq_some_iff.1 hi).1
 have hn:l.getD i nd0'=n:=by rw [List.getD_eq_getElem?_getD,hi]; rfl
 intro j k hk
 have:=h3 i (by omega) hil k (by rw [hn]; exact List.mem_of_getElem? hk)
 omega
section
variable {H:Heap} {S:Nat→Prop} {v:Value} {l:List Nd}
set_option maxHeartbeats 1000000 in
theorem r9Right_spec (h:NL H S v l) (hz:Sz l):CallF Tryz.prog 7 [v] H (fun r H'=>Fr [] H H'∧r=.bool (rightM l)) NoP:=by
 obtain ⟨av,cv,rfl⟩:=h.len
 have hzl:=hz.len
 unfold rightM
 refine callF_of Tryz.func7 rfl Tryz.ntmps7 Tryz.results7 (by decide) rfl ?_
 by_cases h1:0 < l.length
 rotate_left
 ·simp (disch:=omega) only [go_sem,↓cB,dB]
  exact fin ⟨Fr.refl _ _,by simp [h1]⟩
 have hg0:=getD_some (d:=nd0') h1
 obtain ⟨b,o,cap,a,q1,q2,ar,-,k0,-⟩:=h.row hg0
 simp only [Value.slice.injEq,true_and] at q1
 obtain ⟨rfl,rfl⟩:=q1
 rw [Nat.zero_mul,Nat.add_zero] at k0
 by_cases h2:l.length≤800
 rotate_left
 ·simp (disch:=omega) only [go_sem,↓cB,dB]
  exact fin ⟨Fr.refl _ _,by simp [h2]⟩
 by_cases h3:(l.getD 0 nd0').kind=0
 rotate_left
 ·simp (disch:=omega) only [go_sem,↓cB,dB,k0]
  exact fin ⟨Fr.refl _ _,by simp [-List.getD_eq_getElem?_getD,h3]⟩
 simp (disch:=omega) only [go_sem,↓cB,dB,k0,h3]
 refine call_to (r9walk_spec hz 20 (i:=0) h h1 (by omega) (by omega)) ?_
 intro v5 H5 hv
 refine Hush.out ?_
 obtain ⟨rfl,rfl⟩:=hv
 cases h4:(walkM l 20 0).2
 ·refine ⟨?_⟩
  simp (disch:=omega) only [go_sem,↓cB,dB]
  exact fin ⟨Fr.refl _ _,by simp⟩
 by_cases h5:(walkM l 20 0).1=l.length
 rotate_left
 ·have h5':¬ ((walkM l 20 0).1:Int)=(l.length:Int):=by omega
  refine ⟨?_⟩
  simp (disch:=omega) only [go_sem,↓cB,dB]
  exact fin ⟨Fr.refl _ _,by simp [h5]⟩
 have hw:walkM l 20 0=(l.length,true):=by rw [← h5,← h4]
 refine ⟨?_⟩
 simp (disch:=omega) only [go_sem,↓cB,dB,h5]
 refine loop_by (fun k ρ H2=>∃ i:Nat,k=l.length - i∧i≤l.length∧(∀ j,j < i→nodeM l (l.getD j nd0')=true)∧Fr [] H H2∧(ρ.get 0=.slice (some ⟨b,o,none⟩) l.length cv∧ρ.get 5=iv i∧ρ.ds = [])) (k:=l.length) ?_ ?_
 ·exact ⟨0,rfl,by omega,by omega,Fr.refl _ _,by simp (disch:=omega) only [go_sem,↓cB,dB]⟩
 ·rintro k ρ H2 ⟨i,rfl,hi,hall,fr2,r0,r5,rd⟩
  have hxi:(i:Int) + 1=((i + 1:Nat):Int):=by omega
  have e1:decide (0 < l.length)=true:=by simpa using h1
  have e2:decide (l.length≤800)=true:=by simpa using h2
  have e3:decide ((l.getD 0 nd0').kind=0)=true:=by simpa using h3
  have e5:decide ((walkM l 20 0).1=l.length)=true:=by simpa using h5
  rw [e1,e2,e3,e5,Bool.true_and,Bool.true_and,Bool.true_and,Bool.true_and,Bool.true_and]
  by_cases hin:i < l.length
  ·have hgi:=getD_some (d:=nd0') hin
   have nl2:=h.grow fr2
   obtain ⟨b',o',cap',a',p1,p2,ar',ld,-⟩:=nl2.row hgi
   simp only [Value.slice.injEq,Option.some.injEq,Addr.mk.injEq,and_true,true_and] at p1
   obtain ⟨⟨rfl,rfl⟩,rfl⟩:=p1
   have hnode:=r9node_spec nl2 ar' (by rw [p2]; exact kok_of hw h1 hgi) (by rw [p2]; exact hz.w i _ hgi) (by rw [p2]; exact hz.u i _ hgi) (by rw [p2]; exact hz.k i _ hgi)
   rw [← p2] at ld
   simp (disch:=omega) only [go_sem,↓cB,dB,r0,r5,rd,ld]
   refine call_to hnode ?_
   intro v6 H6 hv
   refine Hush.out ?_
   obtain ⟨fr6,rfl⟩:=hv
   rw [p2]
   cases hn:nodeM l (l.getD i nd0')
   ·refine ⟨?_⟩
    simp (disch:=omega) only [go_sem,↓cB,dB,r0,r5,rd]
    refine fin ⟨fr2.trans fr6,?_⟩
    rw [allR_false hin hn]
   ·refine ⟨?_⟩
    simp (disch:=omega) only [go_sem,↓cB,dB,r0,r5,rd]
    refine fin ⟨l.length - (i + 1),by omega,i + 1,rfl,by omega,?_,fr2.trans fr6,by simp (disch:=omega) only [go_sem,↓cB,dB,r0,r5,rd,hxi]⟩
    intro j hj
    by_cases e:j=i
    ·subst e; exact hn
    ·exact hall j (by omega)
  ·obtain rfl:i=l.length:=by omega
   simp (disch:=omega) only [go_sem,↓cB,dB,r0,r5,rd]
   refine fin ⟨fr2,?_⟩
   rw [allR_true hall]
end
end Go.Proofs.YtcffdpmmadipeaaGreatDoor
