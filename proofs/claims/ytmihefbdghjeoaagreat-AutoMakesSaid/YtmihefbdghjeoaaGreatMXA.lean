/- Texts of this proof, put together: TypT, TypA, TypB, TypC, TypD. The conditions of each theorem stand in it. -/
import Derived.Test.YtmihefbdghjeoaaGreatMX3
import Derived.Test.YtmihefbdghjeoaaGreatMX9
set_option linter.unusedSimpArgs false
set_option linter.unusedVariables false
namespace Go.Proofs.YtmihefbdghjeoaaGreat
open Go.HL
set_option maxRecDepth 10000
def trimI (n w:Int):Int :=
 let m:Int:=2 ^ (max (min w 16) 1).toNat
 if n % m ≥ m / 2 then n % m - m else n % m
theorem and_mask {x:Int} {w:Nat} (hw:w≤62):(BitVec.ofInt 64 x &&& BitVec.ofInt 64 (2 ^ w - 1)).toNat=(x % 2 ^ w).toNat:=by
 have hp:(2:Int) ^ w≤2 ^ 62:=by
  have:(2:Nat) ^ w≤2 ^ 62:=Nat.pow_le_pow_right (by omega) hw
  exact_mod_cast this
 have h1:(1:Int)≤2 ^ w:=by
  have:(1:Nat)≤2 ^ w:=Nat.one_le_two_pow
  exact_mod_cast this
 rw [BitVec.toNat_and,BitVec.toNat_ofInt,BitVec.toNat_ofInt]
 have e2:((2 ^ w - 1:Int) % ((2 ^ 64:Nat):Int)).toNat=2 ^ w - 1:=by
  rw [Int.emod_eq_of_lt (by omega) (by omega)]
  have:(2:Int) ^ w=((2 ^ w:Nat):Int):=by push_cast; rfl
  omega
 rw [e2,Nat.and_two_pow_sub_one_eq_mod]
 have hd:((2 ^ w:Nat):Int) ∣ ((2 ^ 64:Nat):Int):=by
  have:(2:Nat) ^ w ∣ 2 ^ 64:=Nat.pow_dvd_pow 2 (by omega)
  exact_mod_cast this
 have h2:((x % ((2 ^ 64:Nat):Int)).toNat:Int)=x % ((2 ^ 64:Nat):Int):=Int.toNat_of_nonneg (Int.emod_nonneg _ (by omega))
 have h3:(((x % ((2 ^ 64:Nat):Int)).toNat % 2 ^ w:Nat):Int)=x % ((2 ^ w:Nat):Int):=by
  rw [Int.natCast_emod,h2,Int.emod_emod_of_dvd _ hd]
 have:(2:Int) ^ w=((2 ^ w:Nat):Int):=by push_cast; rfl
 rw [this,← h3,Int.toNat_natCast]
theorem tmod_fix {n m:Int} (hm:0 < m):(if n.tmod m < 0 then n.tmod m + m else n.tmod m)=n % m:=by
 have h1:=Int.emod_nonneg n (by omega:m ≠ 0)
 have h2:=Int.emod_lt_of_pos n hm
 have hm':((m.natAbs:Nat):Int)=m:=by omega
 rw [Int.tmod_eq_emod]
 by_cases c:0≤n∨m ∣ n
 ·rw [if_pos c,show ((0:Nat):Int)=0 from rfl,Int.sub_zero,if_neg (by omega)]
 ·rw [if_neg c,hm',if_pos (by omega)]; omega
section
variable {H:Heap}
theorem tyWithin_spec {n m:Int}:CallF Tryz.prog 81 [iv n,iv m] H (fun r H'=>H=H'∧r=.bool (decide (1≤n∧n≤m))) NoP:=by
 refine callF_of Tryz.func81 rfl Tryz.ntmps81 Tryz.results81 (by decide) rfl ?_
 by_cases h1:1≤n
 ·by_cases h2:n≤m
  ·simp (disch:=omega) only [go_sem,↓cB,dB]
   exact fin ⟨rfl,by simp [h1,h2]⟩
  ·simp (disch:=omega) only [go_sem,↓cB,dB]
   exact fin ⟨rfl,by simp [h1,h2]⟩
 ·simp (disch:=omega) only [go_sem,↓cB,dB]
  exact fin ⟨rfl,by simp [h1]⟩
theorem bWidth_spec {w:Int} (h1:1≤w) (h8:w≤8):CallF Tryz.prog 104 [iv w] H (fun r H'=>H=H'∧r=iv w) NoP:=by
 refine callF_of Tryz.func104 rfl Tryz.ntmps104 Tryz.results104 (by decide) rfl ?_
 simp (disch:=omega) only [go_sem,↓cB,dB]
 exact fin ⟨rfl,by congr 1; omega⟩
theorem trim_k {n:Int} {k:Nat} (h1:1≤k) (h8:k≤8):trimI n k=if n % 2 ^ k ≥ 2 ^ (k - 1) then n % 2 ^ k - 2 ^ k else n % 2 ^ k:=by
 unfold trimI
 have e:(max (min (k:Int) 16) 1).toNat=k:=by omega
 have e2:(2:Int) ^ k / 2=2 ^ (k - 1):=by
  have hk:k=1∨k=2∨k=3∨k=4∨k=5∨k=6∨k=7∨k=8:=by omega
  rcases hk with rfl | rfl | rfl | rfl | rfl | rfl | rfl | rfl <;> decide
 simp only [e,e2]
theorem pow_facts {k:Nat} (h1:1≤k) (h8:k≤8):IntKind.i64.wrap (1 * 2 ^ min k 64)=2 ^ k∧IntKind.i64.wrap (1 * 2 ^ min ((k:Int) - 1).toNat 64)=2 ^ (k - 1)∧IntKind.i64.wrap (2 ^ k - 1)=2 ^ k - 1∧(2:Int) ^ k≤256∧(2:Int) ^ k=2 ^ (k - 1) * 2∧(1:Int)≤2 ^ (k - 1):=by
 have hk:k=1∨k=2∨k=3∨k=4∨k=5∨k=6∨k=7∨k=8:=by omega
 rcases hk with rfl | rfl | rfl | rfl | rfl | rfl | rfl | rfl <;> decide +kernel
theorem bTrim_spec {n w:Int} (h1:1≤w) (h8:w≤8):CallF Tryz.prog 82 [iv n,iv w] H (fun r H'=>H=H'∧r=iv (trimI n w)) NoP:=by
 refine callF_of Tryz.func82 rfl Tryz.ntmps82 Tryz.results82 (by decide) rfl ?_
 simp (disch:=omega) only [go_sem,↓cB,dB]
 refine call_to (bWidth_spec h1 h8) ?_
 rintro _ _ ⟨rfl,rfl⟩
 obtain ⟨k,rfl⟩:∃ k:Nat,w=k:=⟨w.toNat,by omega⟩
 obtain ⟨e1,e2,e3,e4,e5,e6⟩:=pow_facts (k:=k) (by omega) (by omega)
 have hm:(@BitVec.toNat 64 (@HAnd.hAnd (BitVec 64) (BitVec 64) (BitVec 64) (@instHAndOfAndOp (BitVec IntKind.i64.bits) (@BitVec.instAndOp IntKind.i64.bits)) (BitVec.ofInt 64 n) (BitVec.ofInt 64 (2 ^ k - 1))))=(n % 2 ^ k).toNat:=and_mask (x:=n) (w:=k) (by omega)
 rw [trim_k (by omega) (by omega)]
 have r1:=Int.emod_nonneg n (show (2:Int) ^ k ≠ 0 by omega)
 have r2:=Int.emod_lt_of_pos n (show (0:Int) < 2 ^ k by omega)
 have e7:IntKind.i64.wrap (((n % 2 ^ k).toNat:Nat):Int)=n % 2 ^ k:=by
  rw [Int.toNat_of_nonneg r1]
  exact wrap64 (by omega)
 have ek:((k:Int)).toNat=k:=Int.toNat_natCast k
 generalize n % 2 ^ k=y at *
 by_cases c:2 ^ (k - 1)≤y
 ·rw [if_pos c]
  simp (disch:=omega) only [go_sem,↓cB,dB,ek,e1,e2,e3,hm,e7]
  have e8:IntKind.i64.wrap (y - 2 ^ k)=y - 2 ^ k:=wrap64 (by omega)
  first | exact fin ⟨rfl,rfl⟩ | (rw [e8]; exact fin ⟨rfl,rfl⟩) | trace_state
 ·rw [if_neg c]
  simp (disch:=omega) only [go_sem,↓cB,dB,ek,e1,e2,e3,hm,e7]
  exact fin ⟨rfl,rfl⟩
theorem tmod_rng {n m:Int} (hm:0 < m):-m≤n.tmod m∧n.tmod m < m:=by
 have h1:=Int.emod_nonneg n (by omega:m ≠ 0)
 have h2:=Int.emod_lt_of_pos n hm
 have h3:=tmod_fix (n:=n) hm
 generalize n % m=y at *
 generalize n.tmod m=z at *
 split at h3 <;> omega
theorem pow_le8 {i:Nat} (h:i≤8):(1:Int)≤2 ^ i∧(2:Int) ^ i≤256:=by
 have hk:i=0∨i=1∨i=2∨i=3∨i=4∨i=5∨i=6∨i=7∨i=8:=by omega
 rcases hk with rfl | rfl | rfl | rfl | rfl | rfl | rfl | rfl | rfl <;> decide
theorem r6Trim_spec {n w:Int} (h1:1≤w) (h8:w≤8):CallF Tryz.prog 61 [iv n,iv w] H (fun r H'=>H=H'∧r=iv (trimI n w)) NoP:=by
 obtain ⟨k,rfl⟩:∃ k:Nat,w=k:=⟨w.toNat,by omega⟩
 obtain ⟨e1,e2,e3,e4,e5,e6⟩:=pow_facts (k:=k) (by omega) (by omega)
 rw [trim_k (by omega) (by omega)]
 have r1:=Int.emod_nonneg n (show (2:Int) ^ k ≠ 0 by omega)
 have r2:=Int.emod_lt_of_pos n (show (0:Int) < 2 ^ k by omega)
 have hfix:=tmod_fix (n:=n) (m:=2 ^ k) (by omega)
 have ht1:=tmod_rng (n:=n) (m:=2 ^ k) (by omega)
 have hq0:(2:Int) ^ 0=1:=rfl
 have hq:((2:Int) ^ k).tdiv 2=2 ^ (k - 1):=by
  rw [Int.tdiv_eq_ediv_of_nonneg (by omega)]; omega
 refine callF_of Tryz.func61 rfl Tryz.ntmps61 Tryz.results61 (by decide) rfl ?_
 simp (disch:=omega) only [go_sem,↓cB,dB]
 refine loop_by (fun j ρ H2=>∃ i:Nat,j=k - i∧i≤k∧H=H2∧(ρ.get 0=iv n∧ρ.get 1=iv k∧ρ.get 5=iv (2 ^ i)∧ρ.get 6=iv i∧ρ.ds = [])) (k:=k) ?_ ?_
 ·exact ⟨0,rfl,by omega,rfl,by simp (disch:=omega) only [go_sem,↓cB,dB,hq0]⟩
 ·rintro j ρ _ ⟨i,rfl,hi,rfl,r0,r1',r5,r6,rd⟩
  have hxi:(i:Int) + 1=((i + 1:Nat):Int):=by omega
  obtain ⟨p1,p2⟩:=pow_le8 (i:=i) (by omega)
  by_cases hik:i < k
  ·have hpow:(2:Int) ^ i * 2=2 ^ (i + 1):=rfl
   simp (disch:=omega) only [go_sem,↓cB,dB,r0,r1',r5,r6,rd]
   exact fin ⟨k - (i + 1),by omega,i + 1,rfl,by omega,rfl,by simp (disch:=omega) only [go_sem,↓cB,dB,r0,r1',r5,r6,rd,hxi,hpow]⟩
  ·obtain rfl:i=k:=by omega
   generalize n % 2 ^ i=y at *
   obtain ⟨z,hz⟩:∃ z,n.tmod (2 ^ i)=z:=⟨_,rfl⟩
   rw [hz] at hfix ht1
   by_cases c1:z < 0
   ·rw [if_pos c1] at hfix
    by_cases c:2 ^ (i - 1)≤y
    ·rw [if_pos c]
     simp (disch:=omega) only [go_sem,↓cB,dB,r0,r1',r5,r6,rd,hq,hz,hfix]
     exact fin ⟨rfl,rfl⟩
    ·rw [if_neg c]
     simp (disch:=omega) only [go_sem,↓cB,dB,r0,r1',r5,r6,rd,hq,hz,hfix]
     exact fin ⟨rfl,rfl⟩
   ·rw [if_neg c1] at hfix
    subst hfix
    by_cases c:2 ^ (i - 1)≤z
    ·rw [if_pos c]
     simp (disch:=omega) only [go_sem,↓cB,dB,r0,r1',r5,r6,rd,hq,hz]
     exact fin ⟨rfl,rfl⟩
    ·rw [if_neg c]
     simp (disch:=omega) only [go_sem,↓cB,dB,r0,r1',r5,r6,rd,hq,hz]
     exact fin ⟨rfl,rfl⟩
end
end Go.Proofs.YtmihefbdghjeoaaGreat
namespace Go.Proofs.YtmihefbdghjeoaaGreat
open Go.HL
set_option maxRecDepth 10000
theorem walk20 {l:List Nd} (h:prRightM l=true):walkM l 20 0=(l.length,true)∧0 < l.length:=by
 unfold prRightM at h
 simp only [Bool.and_eq_true,decide_eq_true_eq] at h
 obtain ⟨h1,h2,h3,h4,h5⟩:=h
 have ht:treeM l 20 0=(l.length,true):=by rw [← h4,← h5]
 exact ⟨((tree_iff 20 0 l.length h1).1 ht).1,h1⟩
theorem kid_rng {l:List Nd} (h:prRightM l=true) {p:Nat} (hp:p < l.length) {k:Int} (hk:k ∈ (nodeAt l p).kids):(p:Int) < k∧k < l.length:=by
 obtain ⟨hw,h0⟩:=walk20 h
 exact (walkM_ok 20 0 l.length h0 hw).2.2 p (by omega) hp k hk
theorem walkK_uni {l:List Nd} {ih:Nat→Nat × Bool} (h:∀ i e,i < l.length→ih i=(e,true)→i < e∧e≤l.length∧(∀ j,i≤j→j < e→∀ c ∈ (nodeAt l j).kids,(j:Int) < c∧c < e) ∧
   ∀ p q,i≤p→p < e→i≤q→q < e→∀ c,c ∈ (nodeAt l p).kids→c ∈ (nodeAt l q).kids→p=q) :
  ∀ (ks:List Int) (i e:Nat),i≤l.length→walkK l ih ks i=(e,true) →
   (∀ p,i≤p→p < e→∀ c ∈ (nodeAt l p).kids,(p:Int) < c∧c < e∧c ∉ ks)∧∀ p q,i≤p→p < e→i≤q→q < e→∀ c,c ∈ (nodeAt l p).kids→c ∈ (nodeAt l q).kids→p=q
 | [],i,e,hi,hw=>by
  simp [walkK] at hw
  exact ⟨fun j h1 h2=>by omega,fun p q h1 h2=>by omega⟩
 | k :: ks,i,e,hi,hw=>by
  have hinc:=walkK_inc (l:=l) (ih:=ih) (fun i e h1 h2=>by have:=h i e h1 h2; exact ⟨this.1,this.2.1⟩) (k :: ks) i e hi hw
  unfold walkK at hw
  split at hw
  ·rename_i hcd
   split at hw
   ·rename_i hok
    obtain ⟨a1,a2,a3,a4⟩:=h i (ih i).1 hcd.2 (by rw [← hok])
    obtain ⟨b1,b2⟩:=walkK_uni h ks (ih i).1 e a2 hw
    have hinc2:=walkK_inc (l:=l) (ih:=ih) (fun i e h1 h2=>by have:=h i e h1 h2; exact ⟨this.1,this.2.1⟩) ks (ih i).1 e a2 hw
    have hge:=(walkK_ok (l:=l) (ih:=ih) (Q:=fun _=>True) (fun i e h1 h2=>by have:=h i e h1 h2; exact ⟨this.1,this.2.1,fun _ _ _=>trivial⟩) ks (ih i).1 e a2 hw).1
    have hin:∀ p,i≤p→p < (ih i).1→∀ c ∈ (nodeAt l p).kids,(p:Int) < c∧c < (ih i).1:=a3
    refine ⟨?_,?_⟩
    ·intro p h1 h2 c hc
     by_cases hp:p < (ih i).1
     ·obtain ⟨c1,c2⟩:=a3 p h1 hp c hc
      refine ⟨c1,by omega,?_⟩
      rw [List.mem_cons]
      rintro (rfl | hm)
      ·omega
      ·have:=hinc2.2 c hm; omega
     ·obtain ⟨c1,c2,c3⟩:=b1 p (by omega) h2 c hc
      refine ⟨c1,c2,?_⟩
      rw [List.mem_cons]
      rintro (rfl | hm)
      ·omega
      ·exact c3 hm
    ·intro p q h1 h2 h3 h4 c hc hc'
     by_cases hp:p < (ih i).1
     ·by_cases hq:q < (ih i).1
      ·exact a4 p q h1 hp h3 hq c hc hc'
      ·have:=a3 p h1 hp c hc
       have:=b1 q (by omega) h4 c hc'
       omega
     ·by_cases hq:q < (ih i).1
      ·have:=a3 q h3 hq c hc'
       have:=b1 p (by omega) h2 c hc
       omega
      ·exact b2 p q (by omega) h2 (by omega) h4 c hc hc'
   ·simp at hw
  ·simp at hw
theorem walkM_uni {l:List Nd}:∀ (d i e:Nat),i < l.length→walkM l d i=(e,true)→∀ p q,i≤p→p < e→i≤q→q < e→∀ c,c ∈ (nodeAt l p).kids→c ∈ (nodeAt l q).kids→p=q
 | 0,i,e,hi,hw=>by simp [walkM] at hw
 | d + 1,i,e,hi,hw=>by
  intro p q h1 h2 h3 h4 c hc hc'
  unfold walkM at hw
  have H:=walkK_uni (l:=l) (ih:=walkM l d) (fun i' e' hi' hw'=>by
   have:=walkM_ok d i' e' hi' hw'
   exact ⟨this.1,this.2.1,walkM_end d i' e' hi' hw',walkM_uni d i' e' hi' hw'⟩) (l.getD i nd0').kids (i + 1) e (by omega) hw
  by_cases hp:p=i
  ·by_cases hq:q=i
   ·omega
   ·subst hp
    exact absurd hc (H.1 q (by omega) h4 c hc').2.2
  ·by_cases hq:q=i
   ·subst hq
    exact absurd hc' (H.1 p (by omega) h2 c hc).2.2
   ·exact H.2 p q (by omega) h2 (by omega) h4 c hc hc'
theorem kid_uni {l:List Nd} (h:prRightM l=true) {p q:Nat} (hp:p < l.length) (hq:q < l.length) {c:Int} (hc:c ∈ (nodeAt l p).kids) (hc':c ∈ (nodeAt l q).kids):p=q:=by
 obtain ⟨hw,h0⟩:=walk20 h
 exact walkM_uni 20 0 l.length h0 hw p q (by omega) hp (by omega) hq c hc hc'
inductive Bel (l:List Nd):Nat→Nat→Prop
 | kid {a k:Nat}:(k:Int) ∈ (nodeAt l a).kids→Bel l a k
 | step {a c k:Nat}:(c:Int) ∈ (nodeAt l a).kids→Bel l c k→Bel l a k
theorem nodeAt_out {l:List Nd} {a:Nat} (h:¬ a < l.length):(nodeAt l a).kids = []:=by
 unfold nodeAt
 rw [List.getD_eq_getElem?_getD,List.getElem?_eq_none (by omega)]; rfl
theorem bel_lt {l:List Nd} (h:prRightM l=true) {a k:Nat} (hb:Bel l a k):a < k∧k < l.length:=by
 induction hb with
 | @kid a k hk =>
  by_cases ha:a < l.length
  ·have:=kid_rng h ha hk; omega
  ·rw [nodeAt_out ha] at hk; simp at hk
 | @step a c k hc hb ih =>
  by_cases ha:a < l.length
  ·have:=kid_rng h ha hc; omega
  ·rw [nodeAt_out ha] at hc; simp at hc
theorem bel_kid {l:List Nd} (h:prRightM l=true) {a p k:Nat} (hp:p < l.length) (hk:(k:Int) ∈ (nodeAt l p).kids):Bel l a k↔a=p∨Bel l a p:=by
 constructor
 ·intro hb
  induction hb with
  | @kid a k' hk' =>
   by_cases ha:a < l.length
   ·exact .inl (kid_uni h ha hp hk' hk)
   ·rw [nodeAt_out ha] at hk'; simp at hk'
  | @step a c k' hc hb ih =>
   rcases ih hk with rfl | hb'
   ·exact .inr (.kid hc)
   ·exact .inr (.step hc hb')
 ·rintro (rfl | hb)
  ·exact .kid hk
  ·induction hb with
   | @kid a p' hc=>exact .step hc (.kid hk)
   | @step a c p' hc hb ih=>exact .step hc (ih hp hk)
structure TS where
 c:Int
 p:Int
 v:Int
def n0 (n:Nd):Int:=n.nums.getD 0 0
def n1 (n:Nd):Int:=n.nums.getD 1 0
def oneT (s:TS) (n:Nd) (cp:Int) (am:Bool):TS × Int :=
 if n.kind=1 then (⟨s.c + 1,s.p,s.v⟩,if s.c + 1≤3∧(1≤n0 n∧n0 n≤3)∧(1≤n1 n∧n1 n≤8) then 0 else 22)
 else if n.kind=2 then (⟨s.c,s.p,s.v + cp⟩,if s.v + cp≤8∧(1≤n0 n∧n0 n≤8)∧trimI (n1 n) (n0 n)=n1 n then 0 else 22)
 else if n.kind=3 then (⟨s.c,s.p + n0 n,s.v⟩,if s.p + n0 n≤4∧1≤n0 n∧n0 n≤4 then 0 else 22)
 else if n.kind=17 then (s,if 0≤n0 n∧n0 n≤127 then 0 else 22)
 else if n.kind=13 then (s,if am then 21 else 0)
 else (s,0)
def kidsT (ih:Nat→Int→Bool→TS→TS × Option (Int × Nat)):List Int→Int→Bool→TS→TS × Option (Int × Nat)
 | [],_,_,s=>(s,none)
 | k :: ks,cp,am,s=>match (ih k.toNat cp am s).2 with
  | none=>kidsT ih ks cp am (ih k.toNat cp am s).1
  | some x=>((ih k.toNat cp am s).1,some x)
def nodeT (l:List Nd):Nat→Nat→Int→Bool→TS→TS × Option (Int × Nat)
 | 0,_,_,_,s=>(s,none)
 | d + 1,i,cp,am,s =>
  if (oneT s (nodeAt l i) cp am).2=0 then kidsT (nodeT l d) (nodeAt l i).kids (if (nodeAt l i).kind=3 then n0 (nodeAt l i) else cp) (if (nodeAt l i).kind=13 then true else am) (oneT s (nodeAt l i) cp am).1
  else ((oneT s (nodeAt l i) cp am).1,some ((oneT s (nodeAt l i) cp am).2,i))
def seqT (l:List Nd) (cx:Nat→Int × Bool):Nat→Nat→TS→TS × Option (Int × Nat)
 | 0,_,s=>(s,none)
 | m + 1,i,s=>if (oneT s (nodeAt l i) (cx i).1 (cx i).2).2=0 then seqT l cx m (i + 1) (oneT s (nodeAt l i) (cx i).1 (cx i).2).1
  else ((oneT s (nodeAt l i) (cx i).1 (cx i).2).1,some ((oneT s (nodeAt l i) (cx i).1 (cx i).2).2,i))
theorem seqT_add {l:List Nd} {cx:Nat→Int × Bool}:∀ (m m' i:Nat) (s:TS),seqT l cx (m + m') i s=match (seqT l cx m i s).2 with
  | none=>seqT l cx m' (i + m) (seqT l cx m i s).1
  | some x=>((seqT l cx m i s).1,some x)
 | 0,m',i,s=>by simp [seqT]
 | m + 1,m',i,s=>by
  have e:m + 1 + m'=(m + m') + 1:=by omega
  have eq:∀ k,seqT l cx (k + 1) i s=if (oneT s (nodeAt l i) (cx i).1 (cx i).2).2=0 then seqT l cx k (i + 1) (oneT s (nodeAt l i) (cx i).1 (cx i).2).1
   else ((oneT s (nodeAt l i) (cx i).1 (cx i).2).1,some ((oneT s (nodeAt l i) (cx i).1 (cx i).2).2,i)):=fun _=>rfl
  rw [e,eq,eq]
  by_cases c:(oneT s (nodeAt l i) (cx i).1 (cx i).2).2=0
  ·rw [if_pos c,if_pos c]
   rw [seqT_add m m' (i + 1),show i + 1 + m=i + (m + 1) by omega]
  ·rw [if_neg c,if_neg c]
def CxOk (l:List Nd) (cx:Nat→Int × Bool):Prop :=
 ∀ p,p < l.length→∀ k ∈ (nodeAt l p).kids,cx k.toNat=(if (nodeAt l p).kind=3 then n0 (nodeAt l p) else (cx p).1,if (nodeAt l p).kind=13 then true else (cx p).2)
theorem kidsT_seq {l:List Nd} {cx:Nat→Int × Bool} {ih:Nat→Nat × Bool} {f:Nat→Int→Bool→TS→TS × Option (Int × Nat)}
  (h:∀ i e s,i < l.length→ih i=(e,true)→i < e∧e≤l.length∧f i (cx i).1 (cx i).2 s=seqT l cx (e - i) i s) {cp:Int} {am:Bool} :
  ∀ (ks:List Int) (i e:Nat) (s:TS),i≤l.length→walkK l ih ks i=(e,true)→(∀ k ∈ ks,cx k.toNat=(cp,am))→kidsT f ks cp am s=seqT l cx (e - i) i s∧i≤e
 | [],i,e,s,hi,hw,hc=>by
  simp [walkK] at hw
  subst hw
  simp [kidsT,seqT]
 | k :: ks,i,e,s,hi,hw,hc=>by
  unfold walkK at hw
  split at hw
  ·rename_i hcd
   split at hw
   ·rename_i hok
    obtain ⟨a1,a2,a3⟩:=h i (ih i).1 s hcd.2 (by rw [← hok])
    have hk0:=hc k (by simp)
    have hki:k.toNat=i:=by rw [hcd.1]; simp
    rw [hki] at hk0
    rw [hk0] at a3
    have rest:=fun s'=>kidsT_seq h (cp:=cp) (am:=am) ks (ih i).1 e s' a2 hw (fun k' hk'=>hc k' (by simp [hk']))
    have hge:=(rest s).2
    refine ⟨?_,by omega⟩
    unfold kidsT
    rw [hki]
    simp only at a3
    rw [a3]
    have e1:e - i=((ih i).1 - i) + (e - (ih i).1):=by omega
    rw [e1,seqT_add,show i + ((ih i).1 - i)=(ih i).1 by omega]
    cases (seqT l cx ((ih i).1 - i) i s).2 with
    | none=>simp only; rw [(rest _).1]
    | some x=>rfl
   ·simp at hw
  ·simp at hw
theorem nodeT_seq {l:List Nd} {cx:Nat→Int × Bool} (hcx:CxOk l cx):∀ (d i e:Nat) (s:TS),i < l.length→walkM l d i=(e,true)→nodeT l d i (cx i).1 (cx i).2 s=seqT l cx (e - i) i s
 | 0,i,e,s,hi,hw=>by simp [walkM] at hw
 | d + 1,i,e,s,hi,hw=>by
  unfold walkM at hw
  have H:=fun s'=>kidsT_seq (l:=l) (cx:=cx) (ih:=walkM l d) (f:=nodeT l d) (fun i' e' s' hi' hw'=>by
   have:=walkM_ok d i' e' hi' hw'
   exact ⟨this.1,this.2.1,nodeT_seq hcx d i' e' s' hi' hw'⟩) (l.getD i nd0').kids (i + 1) e s' (by omega) hw (fun k hk=>hcx i hi k hk)
  have hge:=(H s).2
  unfold nodeT
  rw [show e - i=(e - (i + 1)) + 1 by omega]
  unfold seqT
  by_cases c:(oneT s (nodeAt l i) (cx i).1 (cx i).2).2=0
  ·rw [if_pos c,if_pos c]
   exact (H _).1
  ·rw [if_neg c,if_neg c]
def cpR (l:List Nd) (j:Nat):Int:=if (nodeAt l (itemM' l j).toNat).kind=3 then n0 (nodeAt l (itemM' l j).toNat) else 1
def sumL (l:List Nd) (kind:Int):Nat→Nat→Int→Int
 | 0,_,n=>n
 | m + 1,i,n=>if n < 100 then sumL l kind m (i + 1) (if (nodeAt l i).kind=kind then (if kind=1 then n + 1 else n + min (cpR l i) 100) else n) else n
def sumR (l:List Nd) (i:Nat) (kind:Int):Int:=sumL l kind (i + 1) 0 0
def amR (l:List Nd) (i:Nat):Prop:=∃ a,a < i∧(nodeAt l a).kind=13∧Bel l a i
open Classical in
noncomputable def wrongR (l:List Nd) (i:Nat):Int :=
 let n:=nodeAt l i
 if n.kind=1 then (if n0 n < 1∨n0 n > 3∨n1 n < 1∨n1 n > 8∨sumR l i 1 > 3 then 22 else 0)
 else if n.kind=2 then (if n0 n < 1∨n0 n > 8∨trimI (n1 n) (n0 n) ≠ n1 n∨sumR l i 2 > 8 then 22 else 0)
 else if n.kind=3 then (if n0 n < 1∨sumR l i 3 > 4 then 22 else 0)
 else if n.kind=13 then (if amR l i then 21 else 0)
 else if n.kind=17 then (if n0 n > 127 then 22 else 0)
 else 0
def firstE (g:Nat→Int):Nat→Nat→Option (Int × Nat)
 | 0,_=>none
 | m + 1,i=>if g i=0 then firstE g m (i + 1) else some (g i,i)
theorem firstE_congr {g g':Nat→Int}:∀ (m i:Nat),(∀ j,i≤j→j < i + m→g j=g' j)→firstE g m i=firstE g' m i
 | 0,_,_=>rfl
 | m + 1,i,h=>by
  unfold firstE
  rw [h i (by omega) (by omega),firstE_congr m (i + 1) (fun j h1 h2=>h j (by omega) (by omega))]
def fltE (l:List Nd):Option (Int × Nat)→Flt
 | none=>⟨0,0⟩
 | some (e,i)=>⟨e,(nodeAt l i).pos⟩
def stA (l:List Nd) (cx:Nat→Int × Bool):Nat→TS
 | 0=>⟨0,0,0⟩
 | i + 1=>(oneT (stA l cx i) (nodeAt l i) (cx i).1 (cx i).2).1
theorem seqT_first {l:List Nd} {cx:Nat→Int × Bool}:∀ (m i:Nat),(seqT l cx m i (stA l cx i)).2=firstE (fun i=>(oneT (stA l cx i) (nodeAt l i) (cx i).1 (cx i).2).2) m i
 | 0,i=>rfl
 | m + 1,i=>by
  unfold seqT firstE
  by_cases c:(oneT (stA l cx i) (nodeAt l i) (cx i).1 (cx i).2).2=0
  ·rw [if_pos c,if_pos c]
   exact seqT_first m (i + 1)
  ·rw [if_neg c,if_neg c]
def ctb (l:List Nd) (kind:Int) (j:Nat):Int:=if (nodeAt l j).kind=kind then (if kind=1 then 1 else cpR l j) else 0
def totL (l:List Nd) (kind:Int):Nat→Nat→Int
 | 0,_=>0
 | m + 1,i=>ctb l kind i + totL l kind m (i + 1)
theorem totL_end {l:List Nd} {kind:Int}:∀ (m i:Nat),totL l kind (m + 1) i=totL l kind m i + ctb l kind (i + m)
 | 0,i=>by simp [totL]
 | m + 1,i=>by
  have h1:totL l kind (m + 1 + 1) i=ctb l kind i + totL l kind (m + 1) (i + 1):=rfl
  have h2:totL l kind (m + 1) i=ctb l kind i + totL l kind m (i + 1):=rfl
  have:=totL_end (l:=l) (kind:=kind) m (i + 1)
  rw [h1,h2,this,show i + 1 + m=i + (m + 1) by omega]; omega
theorem totL_nn {l:List Nd} {kind:Int} (h:∀ j,0≤ctb l kind j):∀ (m i:Nat),0≤totL l kind m i
 | 0,i=>by simp [totL]
 | m + 1,i=>by have:=totL_nn h m (i + 1); have:=h i; unfold totL; omega
theorem sumL_le {l:List Nd} {kind B:Int} (hB:B < 100) (h:∀ j,0≤ctb l kind j):∀ (m i:Nat) (n:Int),0≤n→(sumL l kind m i n≤B↔n + totL l kind m i≤B)
 | 0,i,n,hn=>by simp [sumL,totL]
 | m + 1,i,n,hn=>by
  have hj:=h i
  have ht:=totL_nn h m (i + 1)
  unfold sumL totL
  by_cases hc:n < 100
  ·rw [if_pos hc]
   unfold ctb at hj ⊢
   by_cases hk:(nodeAt l i).kind=kind
   ·rw [if_pos hk] at hj ⊢
    rw [if_pos hk]
    by_cases h1:kind=1
    ·rw [if_pos h1] at hj ⊢
     rw [if_pos h1,sumL_le hB h m (i + 1) _ (by omega)]
     constructor <;> intro <;> omega
    ·rw [if_neg h1] at hj ⊢
     rw [if_neg h1,sumL_le hB h m (i + 1) _ (by omega)]
     constructor <;> intro <;> omega
   ·rw [if_neg hk] at hj ⊢
    rw [if_neg hk,sumL_le hB h m (i + 1) _ hn]
    constructor <;> intro <;> omega
  ·rw [if_neg hc]
   constructor <;> intro <;> omega
open Classical in
noncomputable def cxR (l:List Nd) (j:Nat):Int × Bool:=(if itemM' l j=j then 1 else cpR l j,decide (amR l j))
theorem num_rng {l:List Nd} (h:prRightM l=true) {j:Nat} (hj:j < l.length):∀ i,i < (bnds (nodeAt l j).kind).length→((bnds (nodeAt l j).kind).getD i (0,0)).1≤(nodeAt l j).nums.getD i 0∧(nodeAt l j).nums.getD i 0≤((bnds (nodeAt l j).kind).getD i (0,0)).2:=by
 have hn:=(tre_of h).node j hj
 unfold nodeP at hn
 simp only [Bool.and_eq_true] at hn
 have h2:=hn.2.1
 unfold withinM at h2
 rw [Bool.and_eq_true,allR_iff] at h2
 intro i hi
 have:=h2.2 i hi
 simpa only [Bool.and_eq_true,decide_eq_true_eq] using this
theorem n0_rng {l:List Nd} (h:prRightM l=true) {j:Nat} (hj:j < l.length) (hk:(nodeAt l j).kind=1∨(nodeAt l j).kind=2∨(nodeAt l j).kind=3∨(nodeAt l j).kind=17):0≤n0 (nodeAt l j)∧n0 (nodeAt l j)≤999999:=by
 have:=num_rng h hj
 unfold n0
 rcases hk with e | e | e | e <;> rw [e] at this <;> simpa [bnds] using this 0 (by simp [bnds])
theorem cp_nn {l:List Nd} (h:prRightM l=true) {j:Nat} (hj:j < l.length):0≤cpR l j∧cpR l j≤999999:=by
 unfold cpR
 have a:=itm (tre_of h) j
 have ale:=a.le
 have ann:=a.nn
 split
 ·rename_i hk
  exact n0_rng h (by omega) (.inr (.inr (.inl hk)))
 ·omega
theorem item_zero {l:List Nd} (h:Tre l):itemM' l ((0:Nat):Int)=0:=by
 have a:=itm h 0
 have:=a.le; have:=a.nn
 omega
theorem item_lt {l:List Nd} (h:prRightM l=true) {p:Nat} (h1:1≤p) (hp:p < l.length) {k:Nat} (hk:(k:Int) ∈ (nodeAt l p).kids):itemM' l k ≠ k:=by
 have:=span_of h h1 hp hk
 have:=(itm (tre_of h) p).le
 have:=kid_rng h hp hk
 omega
open Classical in
theorem cx_ok {l:List Nd} (h:prRightM l=true):CxOk l (cxR l):=by
 have t:=tre_of h
 intro p hp k hk
 have hr:=kid_rng h hp hk
 obtain ⟨m,rfl⟩:∃ m:Nat,k=m:=⟨k.toNat,by omega⟩
 simp only [Int.toNat_natCast]
 unfold cxR
 simp only [Prod.mk.injEq]
 refine ⟨?_,?_⟩
 ·rcases Nat.eq_zero_or_pos p with rfl | h1
  ·rw [if_pos (itm_self t hk),t.kind0]
   rw [if_neg (by omega),item_zero t]
   simp
  ·rw [if_neg (item_lt h h1 hp hk)]
   unfold cpR
   rw [span_of h h1 hp hk]
   by_cases k3:(nodeAt l p).kind=3
   ·have hself:itemM' l p=p:=by
     rcases (item_of h hp (.inr (.inr (.inl k3)))).2 with e | ⟨e,_⟩
     ·exact itm_self t e
     ·omega
    rw [hself,if_pos k3]
    simp only [Int.toNat_natCast]
    rw [if_pos k3]
   ·rw [if_neg k3]
    by_cases hs:itemM' l p=p
    ·rw [hs,if_pos rfl]
     simp only [Int.toNat_natCast]
     rw [if_neg k3]
    ·rw [if_neg hs]
 ·have hb:amR l m↔((nodeAt l p).kind=13∨amR l p):=by
   unfold amR
   constructor
   ·rintro ⟨a,h1,h2,h3⟩
    rcases (bel_kid h hp hk).1 h3 with rfl | h4
    ·exact .inl h2
    ·exact .inr ⟨a,(bel_lt h h4).1,h2,h4⟩
   ·rintro (h2 | ⟨a,h1,h2,h3⟩)
    ·exact ⟨p,by omega,h2,.kid hk⟩
    ·exact ⟨a,by omega,h2,(bel_kid h hp hk).2 (.inr h3)⟩
  by_cases k13:(nodeAt l p).kind=13
  ·rw [if_pos k13,decide_eq_true (hb.2 (.inl k13))]
  ·rw [if_neg k13]
   congr 1
   rw [eq_iff_iff,hb]
   exact ⟨fun e=>e.resolve_left k13,.inr⟩
theorem stA_tot {l:List Nd} (h:prRightM l=true):∀ i,i≤l.length→stA l (cxR l) i=⟨totL l 1 i 0,totL l 3 i 0,totL l 2 i 0⟩
 | 0,_=>rfl
 | i + 1,hi=>by
  have ih:=stA_tot h i (by omega)
  have t:=tre_of h
  unfold stA
  rw [ih,totL_end,totL_end,totL_end,Nat.zero_add]
  unfold oneT ctb
  by_cases k1:(nodeAt l i).kind=1
  ·simp [k1]
  ·by_cases k2:(nodeAt l i).kind=2
   ·have hcp:(cxR l i).1=cpR l i:=by
     unfold cxR
     simp only
     by_cases c:itemM' l i=i
     ·rw [if_pos c]; unfold cpR; rw [c]; simp [k2]
     ·rw [if_neg c]
    simp [k2,hcp]
   ·by_cases k3:(nodeAt l i).kind=3
    ·have hself:itemM' l i=i:=by
      rcases (item_of h (by omega) (.inr (.inr (.inl k3)))).2 with e | ⟨e,_⟩
      ·exact itm_self t e
      ·omega
     have:cpR l i=n0 (nodeAt l i):=by unfold cpR; rw [hself]; simp [k3]
     simp [k3,this]
    ·rw [if_neg k1,if_neg k2,if_neg k3]
     have:∀ (a b:Int),(if (nodeAt l i).kind=17 then ((⟨totL l 1 i 0,totL l 3 i 0,totL l 2 i 0⟩:TS),a) else if (nodeAt l i).kind=13 then (⟨totL l 1 i 0,totL l 3 i 0,totL l 2 i 0⟩,b) else (⟨totL l 1 i 0,totL l 3 i 0,totL l 2 i 0⟩,0)).1=⟨totL l 1 i 0,totL l 3 i 0,totL l 2 i 0⟩:=by
      intro a b; split
      ·rfl
      ·split <;> rfl
     rw [this]
     simp [k1,k2,k3]
theorem ctb_nn {l:List Nd} (h:prRightM l=true) {kind:Int} (hk:kind=1∨kind=2∨kind=3) (j:Nat):0≤ctb l kind j:=by
 unfold ctb
 split
 ·rename_i e
  split
  ·omega
  ·by_cases hj:j < l.length
   ·exact (cp_nn h hj).1
   ·have:(nodeAt l j).kind=0:=by
     unfold nodeAt
     rw [List.getD_eq_getElem?_getD,List.getElem?_eq_none (by omega)]; rfl
    omega
 ·omega
open Classical in
theorem wrong_eq {l:List Nd} (h:prRightM l=true) {i:Nat} (hi:i < l.length):(oneT (stA l (cxR l) i) (nodeAt l i) (cxR l i).1 (cxR l i).2).2=wrongR l i:=by
 have t:=tre_of h
 rw [stA_tot h i (by omega)]
 have s1:=sumL_le (l:=l) (kind:=1) (B:=3) (by omega) (ctb_nn h (.inl rfl)) (i + 1) 0 0 (by omega)
 have s2:=sumL_le (l:=l) (kind:=2) (B:=8) (by omega) (ctb_nn h (.inr (.inl rfl))) (i + 1) 0 0 (by omega)
 have s3:=sumL_le (l:=l) (kind:=3) (B:=4) (by omega) (ctb_nn h (.inr (.inr rfl))) (i + 1) 0 0 (by omega)
 rw [totL_end,Nat.zero_add,Int.zero_add] at s1 s2 s3
 have p3:=totL_nn (ctb_nn h (kind:=3) (.inr (.inr rfl))) i 0
 unfold oneT wrongR sumR
 simp only
 by_cases k1:(nodeAt l i).kind=1
 ·simp only [k1,if_true]
  have e:ctb l 1 i=1:=by unfold ctb; simp [k1]
  rw [e] at s1
  by_cases c:totL l 1 i 0 + 1≤3∧(1≤n0 (nodeAt l i)∧n0 (nodeAt l i)≤3)∧(1≤n1 (nodeAt l i)∧n1 (nodeAt l i)≤8)
  ·rw [if_pos c,if_neg (by have:=s1.2 c.1; omega)]
  ·rw [if_neg c,if_pos]
   by_cases c1:totL l 1 i 0 + 1≤3
   ·omega
   ·have:¬ sumL l 1 (i + 1) 0 0≤3:=fun e=>c1 (s1.1 e)
    omega
 rw [if_neg k1,if_neg k1]
 by_cases k2:(nodeAt l i).kind=2
 ·rw [if_pos k2,if_pos k2]
  have e:ctb l 2 i=cpR l i:=by unfold ctb; simp [k2]
  rw [e] at s2
  have hcp:(cxR l i).1=cpR l i:=by
   unfold cxR
   simp only
   by_cases c:itemM' l i=i
   ·rw [if_pos c]; unfold cpR; rw [c]; simp [k2]
   ·rw [if_neg c]
  rw [hcp]
  simp only
  by_cases c:totL l 2 i 0 + cpR l i≤8∧(1≤n0 (nodeAt l i)∧n0 (nodeAt l i)≤8)∧trimI (n1 (nodeAt l i)) (n0 (nodeAt l i))=n1 (nodeAt l i)
  ·rw [if_pos c,if_neg]
   have:=s2.2 c.1
   have:=c.2.2
   omega
  ·rw [if_neg c,if_pos]
   by_cases c1:totL l 2 i 0 + cpR l i≤8
   ·by_cases c3:trimI (n1 (nodeAt l i)) (n0 (nodeAt l i))=n1 (nodeAt l i)
    ·omega
    ·exact .inr (.inr (.inl c3))
   ·have:¬ sumL l 2 (i + 1) 0 0≤8:=fun e=>c1 (s2.1 e)
    omega
 rw [if_neg k2,if_neg k2]
 by_cases k3:(nodeAt l i).kind=3
 ·rw [if_pos k3,if_pos k3]
  have hself:itemM' l i=i:=by
   rcases (item_of h hi (.inr (.inr (.inl k3)))).2 with e | ⟨e,_⟩
   ·exact itm_self t e
   ·omega
  have hcp:cpR l i=n0 (nodeAt l i):=by unfold cpR; rw [hself]; simp [k3]
  have e:ctb l 3 i=n0 (nodeAt l i):=by unfold ctb; simp [k3,hcp]
  rw [e] at s3
  simp only
  by_cases c:totL l 3 i 0 + n0 (nodeAt l i)≤4∧1≤n0 (nodeAt l i)∧n0 (nodeAt l i)≤4
  ·rw [if_pos c,if_neg]
   have:=s3.2 c.1
   omega
  ·rw [if_neg c,if_pos]
   by_cases c1:totL l 3 i 0 + n0 (nodeAt l i)≤4
   ·omega
   ·have:¬ sumL l 3 (i + 1) 0 0≤4:=fun e=>c1 (s3.1 e)
    omega
 rw [if_neg k3,if_neg k3]
 by_cases k17:(nodeAt l i).kind=17
 ·rw [if_pos k17,if_neg (show ¬ (nodeAt l i).kind=13 by omega),if_pos k17]
  have:=n0_rng h hi (.inr (.inr (.inr k17)))
  simp only
  by_cases c:0≤n0 (nodeAt l i)∧n0 (nodeAt l i)≤127
  ·rw [if_pos c,if_neg (by omega)]
  ·rw [if_neg c,if_pos (by omega)]
 rw [if_neg k17]
 by_cases k13:(nodeAt l i).kind=13
 ·rw [if_pos k13,if_pos k13]
  unfold cxR
  simp only
  by_cases c:amR l i
  ·rw [if_pos c,decide_eq_true c]; rfl
  ·rw [if_neg c,decide_eq_false c]; rfl
 rw [if_neg k13,if_neg k13,if_neg k17]
noncomputable def check12 (l:List Nd):Flt:=if check11 l=⟨0,0⟩ then fltE l (firstE (wrongR l) l.length 0) else check11 l
def typM (l:List Nd):Flt:=if scopeM l=⟨0,0⟩ then fltE l (nodeT l 20 0 1 false ⟨0,0,0⟩).2 else scopeM l
open Classical in
theorem typ_eq {l:List Nd} (h:prRightM l=true):typM l=check12 l:=by
 unfold typM check12
 rw [scope_eq h]
 congr 2
 obtain ⟨hw,h0⟩:=walk20 h
 have hc:cxR l 0=(1,false):=by
  unfold cxR
  have e0:itemM' l ((0:Nat):Int)=((0:Nat):Int):=by rw [item_zero (tre_of h)]; rfl
  rw [if_pos e0,decide_eq_false]
  rintro ⟨a,ha,_⟩
  omega
 have:=nodeT_seq (cx_ok h) 20 0 l.length ⟨0,0,0⟩ h0 hw
 rw [hc] at this
 rw [this,Nat.sub_zero]
 have h2:=seqT_first (l:=l) (cx:=cxR l) l.length 0
 have e0:stA l (cxR l) 0=⟨0,0,0⟩:=rfl
 rw [e0] at h2
 rw [h2]
 exact firstE_congr l.length 0 (fun j h1 h2=>wrong_eq h (by omega))
end Go.Proofs.YtmihefbdghjeoaaGreat
namespace Go.Proofs.YtmihefbdghjeoaaGreat
open Go.HL
set_option maxRecDepth 10000
end Go.Proofs.YtmihefbdghjeoaaGreat
namespace Go.HL
def hldL (H:Heap):List Addr→List (Addr × Value)
 | []=>[]
 | a :: r=>match cellH H a with
  | some v=>(a,v) :: hldL H r
  | none=>hldL H r
theorem hld_ok {H:Heap}:∀ {L:List Addr},heldOK (hldL H L) H
 | [],a,v,h=>by simp [hldL,lookA] at h
 | b :: r,a,v,h=>by
  unfold hldL at h
  split at h
  ·rename_i w hw
   unfold lookA at h
   split at h
   ·rename_i e
    simp only at e h
    subst e
    rw [hw]; exact h
   ·exact hld_ok a v h
  ·exact hld_ok a v h
theorem hld_at {H:Heap} {a:Addr} {v:Value} (hc:cellH H a=some v):∀ {L:List Addr},a ∈ L→lookA (hldL H L) a=some v
 | [],h=>by simp at h
 | b :: r,h=>by
  unfold hldL
  by_cases e:b=a
  ·subst e
   rw [hc]
   simp [lookA]
  ·have hr:a ∈ r:=by
    rw [List.mem_cons] at h
    exact h.resolve_left (fun x=>e x.symm)
   split
   ·unfold lookA
    rw [if_neg (by simpa using e)]
    exact hld_at hc hr
   ·exact hld_at hc hr
theorem hld_fr {hl:List (Addr × Value)} {F:List Nat} {H H':Heap} (h:heldOK hl H) (f:Fr F H H') (hd:∀ a v,lookA hl a=some v→a.block ∉ F):heldOK hl H' :=
 fun a v e=>f.cell' (h a v e) (hd a v e)
end Go.HL
namespace Go.Proofs.YtmihefbdghjeoaaGreat
open Go.HL
set_option maxRecDepth 10000
def cntC (tv:Value) (s:TS):List Value:=[tv,iv s.c,iv s.p,iv s.v]
def TSok (m:Int) (s:TS):Prop:=(0≤s.c∧s.c≤m)∧(0≤s.p∧s.p≤m)∧(0≤s.v∧s.v≤m)
def numsOk (n:Nd):Prop:=n.nums.length=(bnds n.kind).length∧∀ u ∈ n.nums,-999999≤u∧u≤999999
section
variable {H:Heap} {S:Nat→Prop} {a:AN} {tv:Value} {cb:Nat} {s:TS}
def OneQ (H:Heap) (cb:Nat) (tv:Value) (R:TS × Int) (r:Value) (H':Heap):Prop:=Fr [cb] H H'∧Blk H' cb 77 (cntC tv R.1)∧r=iv R.2
set_option maxHeartbeats 4000000 in
theorem tyOne_spec (hb:Blk H cb 77 (cntC tv s)) (hs:TSok 1000000000000 s) (ha:AR H S a) (hS:∀ b,S b→b ≠ cb) (hn:numsOk a.n) {cp:Int} (hcp:0≤cp∧cp≤999999) {am:Bool} :
  CallF Tryz.prog 55 [hp cb,anV a,iv cp,.bool am] H (fun r H'=>OneQ H cb tv (oneT s a.n cp am) r H') NoP:=by
 obtain ⟨⟨kind,words,nums,kids,pos⟩,x1,c1,x2,c2,x3,c3,rfl⟩:=ha.open
 obtain ⟨hn1,hn2⟩:=hn
 obtain ⟨⟨sc0,sc1⟩,⟨sp0,sp1⟩,sv0,sv1⟩:=hs
 simp only at hn1 hn2
 obtain ⟨G,hG⟩:∃ G,G=H.push (.cells #[iv kind,.slice x1 words.length c1,.slice x2 nums.length c2,.slice x3 kids.length c3,iv pos] 47):=⟨_,rfl⟩
 have f0:Fr [] H G:=by rw [hG]; exact Fr.push
 have zG:G.size=H.size + 1:=by rw [hG]; simp
 have hbn:Blk G H.size 47 [iv kind,.slice x1 words.length c1,.slice x2 nums.length c2,.slice x3 kids.length c3,iv pos]:=by rw [hG]; exact Blk.new rfl
 have k0:=hbn.cell 0
 have k2:=hbn.cell 2
 simp only [gS,gZ] at k0 k2
 have hcl:=hb.lt
 have hbG:=f0.blk hb (by simp)
 have hu:=ha.u.frame (Keeps.of_fr f0 (by simp))
 simp only at hu
 refine callF_of Tryz.func55 rfl Tryz.ntmps55 Tryz.results55 (by decide) rfl ?_
 by_cases e1:kind=1
 ·subst e1
  have hl:nums.length=4:=by rw [hn1]; rfl
  have g0:=getD_some (l:=nums) (d:=(0:Int)) (i:=0) (by omega)
  have m0:=hn2 _ (List.mem_of_getElem? g0)
  have g1:=getD_some (l:=nums) (d:=(0:Int)) (i:=1) (by omega)
  have w1:=hbG.wr (i:=1) (by simp [cntC]) (iv (s.c + 1))
  obtain ⟨G1,hG1⟩:∃ G1,G1=setH G ⟨cb,1,none⟩ (iv (s.c + 1)):=⟨_,rfl⟩
  have f1:Fr [cb] G G1:=by rw [hG1]; exact Fr.set (by simp)
  have b1:Blk G1 cb 77 (cntC tv ⟨s.c + 1,s.p,s.v⟩):=by rw [hG1]; exact hbG.set 1 _
  have kc:=hbG.cell 1
  have kc1:=b1.cell 1
  have kn:=(f1.blk hbn (by simp; omega)).cell 2
  simp only [cntC,gS,gZ] at kc kc1 kn
  have hu1:=hu.frame (Keeps.of_fr f1 (fun b hb=>by have:=hS b hb; simpa using this))
  obtain ⟨b,o,cc,q1,-,q2⟩:=hu1.at1 g0
  simp only [Value.slice.injEq,true_and] at q1
  obtain ⟨rfl,rfl⟩:=q1
  obtain ⟨b',o',cc',p1,-,p2⟩:=hu1.at1 g1
  simp only [Value.slice.injEq,Option.some.injEq,Addr.mk.injEq,and_true,true_and] at p1
  obtain ⟨⟨rfl,rfl⟩,rfl⟩:=p1
  rw [Nat.add_zero] at q2
  generalize hu0:nums.getD 0 0=u0 at *
  generalize hu1':nums.getD 1 0=u1 at *
  have hR:oneT s ⟨1,words,nums,kids,pos⟩ cp am=(⟨s.c + 1,s.p,s.v⟩,if s.c + 1≤3∧(1≤u0∧u0≤3)∧(1≤u1∧u1≤8) then 0 else 22):=by
   unfold oneT n0 n1; simp only; rw [hu0,hu1']; rfl
  rw [hR]
  have hfr:Fr [cb] H G1:=f0.nil.trans f1
  by_cases d1:s.c + 1≤3
  rotate_left
  ·simp (disch:=omega) only [go_sem,↓cB,dB,anV]
   rw [← hG]
   try (simp (disch:=omega) only [go_sem,↓cB,dB,k0,kc,w1])
   rw [← hG1]
   try (simp (disch:=omega) only [go_sem,↓cB,dB,kc1,kn,q2,p2])
   exact fin ⟨hfr,b1,by rw [if_neg (fun e=>d1 e.1)]⟩
  simp (disch:=omega) only [go_sem,↓cB,dB,anV]
  rw [← hG]
  try (simp (disch:=omega) only [go_sem,↓cB,dB,k0,kc,w1])
  rw [← hG1]
  try (simp (disch:=omega) only [go_sem,↓cB,dB,kc1,kn,q2,p2])
  refine call_to tyWithin_spec ?_
  rintro _ _ ⟨rfl,rfl⟩
  by_cases d2:1≤u0∧u0≤3
  rotate_left
  ·rw [decide_eq_false d2]
   simp (disch:=omega) only [go_sem,↓cB,dB,kc1,kn,q2,p2]
   exact fin ⟨hfr,b1,by rw [if_neg (fun e=>d2 e.2.1)]⟩
  rw [decide_eq_true d2]
  simp (disch:=omega) only [go_sem,↓cB,dB,kc1,kn,q2,p2]
  refine call_to tyWithin_spec ?_
  rintro _ _ ⟨rfl,rfl⟩
  by_cases d3:1≤u1∧u1≤8
  rotate_left
  ·rw [decide_eq_false d3]
   simp (disch:=omega) only [go_sem,↓cB,dB]
   exact fin ⟨hfr,b1,by rw [if_neg (fun e=>d3 e.2.2)]⟩
  rw [decide_eq_true d3]
  simp (disch:=omega) only [go_sem,↓cB,dB]
  exact fin ⟨hfr,b1,by rw [if_pos ⟨d1,d2,d3⟩]⟩
 by_cases e2:kind=2
 ·subst e2
  have hl:nums.length=2:=by rw [hn1]; rfl
  have g0:=getD_some (l:=nums) (d:=(0:Int)) (i:=0) (by omega)
  have m0:=hn2 _ (List.mem_of_getElem? g0)
  have g1:=getD_some (l:=nums) (d:=(0:Int)) (i:=1) (by omega)
  have w1:=hbG.wr (i:=3) (by simp [cntC]) (iv (s.v + cp))
  obtain ⟨G1,hG1⟩:∃ G1,G1=setH G ⟨cb,3,none⟩ (iv (s.v + cp)):=⟨_,rfl⟩
  have f1:Fr [cb] G G1:=by rw [hG1]; exact Fr.set (by simp)
  have b1:Blk G1 cb 77 (cntC tv ⟨s.c,s.p,s.v + cp⟩):=by rw [hG1]; exact hbG.set 3 _
  have kc:=hbG.cell 3
  have kc1:=b1.cell 3
  have kn:=(f1.blk hbn (by simp; omega)).cell 2
  simp only [cntC,gS,gZ] at kc kc1 kn
  have hu1:=hu.frame (Keeps.of_fr f1 (fun b hb=>by have:=hS b hb; simpa using this))
  obtain ⟨b,o,cc,q1,-,q2⟩:=hu1.at1 g0
  simp only [Value.slice.injEq,true_and] at q1
  obtain ⟨rfl,rfl⟩:=q1
  obtain ⟨b',o',cc',p1,-,p2⟩:=hu1.at1 g1
  simp only [Value.slice.injEq,Option.some.injEq,Addr.mk.injEq,and_true,true_and] at p1
  obtain ⟨⟨rfl,rfl⟩,rfl⟩:=p1
  rw [Nat.add_zero] at q2
  generalize hu0:nums.getD 0 0=u0 at *
  generalize hu1':nums.getD 1 0=u1 at *
  have hR:oneT s ⟨2,words,nums,kids,pos⟩ cp am=(⟨s.c,s.p,s.v + cp⟩,if s.v + cp≤8∧(1≤u0∧u0≤8)∧trimI u1 u0=u1 then 0 else 22):=by
   unfold oneT n0 n1; simp only; rw [hu0,hu1']; rfl
  rw [hR]
  have hfr:Fr [cb] H G1:=f0.nil.trans f1
  obtain ⟨hl',hhl⟩:∃ hl',hl'=hldL G1 [⟨H.size,2,none⟩,⟨b,o,none⟩,⟨b,o + 1,none⟩]:=⟨_,rfl⟩
  have hok:heldOK hl' G1:=by rw [hhl]; exact hld_ok
  have l2:lookA hl' ⟨H.size,2,none⟩=some (.slice (some ⟨b,o,none⟩) nums.length c2):=by rw [hhl]; exact hld_at kn (by simp)
  have l0:lookA hl' ⟨b,o,none⟩=some (iv u0):=by rw [hhl]; exact hld_at q2 (by simp)
  have l1:lookA hl' ⟨b,o + 1,none⟩=some (iv u1):=by rw [hhl]; exact hld_at p2 (by simp)
  by_cases d1:s.v + cp≤8
  rotate_left
  ·simp (disch:=omega) only [go_sem,↓cB,dB,anV]
   rw [← hG]
   try (simp (disch:=omega) only [go_sem,↓cB,dB,k0,kc,w1])
   rw [← hG1]
   refine draw0 (lk [(0,true),(1,true),(2,true),(3,true),(4,true),(5,true),(6,true),(7,true),(8,true),(9,true)] (.act 10 (lk [(11,true),(12,true),(13,true),(14,true),(15,true),(16,true),(17,true),(18,true),(19,true),(20,true),(22,false),(23,false),(24,false),(25,false)] (.act 21 (lk [(26,true),(27,true),(28,true)] .fin) .non)) .non)) T.mixed ?_
   try (simp (disch:=omega) only [go_sem,↓cB,dB,kc1,kn,q2,p2])
   exact fin ⟨hfr,b1,by rw [if_neg (fun e=>d1 e.1)]⟩
  simp (disch:=omega) only [go_sem,↓cB,dB,anV]
  rw [← hG]
  try (simp (disch:=omega) only [go_sem,↓cB,dB,k0,kc,w1])
  rw [← hG1]
  refine draw1 (lk [(0,true),(1,true),(2,true),(3,true),(4,true),(5,true),(6,true),(7,true),(8,true),(9,true)] (.act 10 (lk [(11,true),(12,true),(13,true),(14,true),(15,true),(16,true),(17,true),(18,true),(19,true),(20,true),(22,false),(23,false),(24,false),(25,false)] (.act 21 (lk [(26,true),(27,true),(28,true)] .fin) .non)) .non)) T.mixed hl' hok ?_
  try (simp (disch:=omega) only [go_sem,↓cB,dB,kc1,kn,q2,p2,l2,l0,l1])
  try refine held_by hok ?_
  try (simp (disch:=omega) only [go_sem,↓cB,dB,kc1,kn,q2,p2,l2,l0,l1])
  refine call_to tyWithin_spec ?_
  rintro _ _ ⟨rfl,rfl⟩
  by_cases d2:1≤u0∧u0≤8
  rotate_left
  ·rw [decide_eq_false d2]
   try refine held_by hok ?_
   simp (disch:=omega) only [go_sem,↓cB,dB,kc1,kn,q2,p2,l2,l0,l1]
   refine held_by hok ?_
   simp (disch:=omega) only [go_sem,↓cB,dB,kc1,kn,q2,p2,l2,l0,l1]
   exact fin ⟨hfr,b1,by rw [if_neg (fun e=>d2 e.2.1)]⟩
  rw [decide_eq_true d2]
  try refine held_by hok ?_
  try (simp (disch:=omega) only [go_sem,↓cB,dB,kc1,kn,q2,p2,l2,l0,l1])
  try refine held_by hok ?_
  try (simp (disch:=omega) only [go_sem,↓cB,dB,kc1,kn,q2,p2,l2,l0,l1])
  refine call_to (bTrim_spec d2.1 d2.2) ?_
  rintro _ _ ⟨rfl,rfl⟩
  try refine held_by hok ?_
  by_cases d3:trimI u1 u0=u1
  rotate_left
  ·have d3':decide (trimI u1 u0=u1)=false:=decide_eq_false d3
   simp (disch:=omega) only [go_sem,↓cB,dB,kc1,kn,q2,p2,l2,l0,l1,d3']
   exact fin ⟨hfr,b1,by rw [if_neg (fun e=>d3 e.2.2)]⟩
  have d3':decide (trimI u1 u0=u1)=true:=decide_eq_true d3
  simp (disch:=omega) only [go_sem,↓cB,dB,kc1,kn,q2,p2,l2,l0,l1,d3']
  exact fin ⟨hfr,b1,by rw [if_pos ⟨d1,d2,d3⟩]⟩
 by_cases e3:kind=3
 ·subst e3
  have hl:nums.length=1:=by rw [hn1]; rfl
  have g0:=getD_some (l:=nums) (d:=(0:Int)) (i:=0) (by omega)
  have m0:=hn2 _ (List.mem_of_getElem? g0)
  obtain ⟨ub,uo,uc,ue,-,uq⟩:=hu.at1 g0
  simp only [Value.slice.injEq,true_and] at ue
  obtain ⟨rfl,rfl⟩:=ue
  rw [Nat.add_zero] at uq
  have hcl':True:=trivial
  have w1:=hbG.wr (i:=2) (by simp [cntC]) (iv (s.p + nums.getD 0 0))
  obtain ⟨G1,hG1⟩:∃ G1,G1=setH G ⟨cb,2,none⟩ (iv (s.p + nums.getD 0 0)):=⟨_,rfl⟩
  have f1:Fr [cb] G G1:=by rw [hG1]; exact Fr.set (by simp)
  have b1:Blk G1 cb 77 (cntC tv ⟨s.c,s.p + nums.getD 0 0,s.v⟩):=by rw [hG1]; exact hbG.set 2 _
  have kc:=hbG.cell 2
  have kc1:=b1.cell 2
  have kn:=(f1.blk hbn (by simp; omega)).cell 2
  simp only [cntC,gS,gZ] at kc kc1 kn
  have hu1:=hu.frame (Keeps.of_fr f1 (fun b hb=>by have:=hS b hb; simpa using this))
  obtain ⟨b',o',cc',p1,-,q2⟩:=hu1.at1 g0
  simp only [Value.slice.injEq,Option.some.injEq,Addr.mk.injEq,and_true,true_and] at p1
  obtain ⟨⟨rfl,rfl⟩,rfl⟩:=p1
  rw [Nat.add_zero] at q2
  generalize hu0:nums.getD 0 0=u0 at *
  have hR:oneT s ⟨3,words,nums,kids,pos⟩ cp am=(⟨s.c,s.p + u0,s.v⟩,if s.p + u0≤4∧1≤u0∧u0≤4 then 0 else 22):=by
   unfold oneT n0; simp only; rw [hu0]; rfl
  rw [hR]
  have hfr:Fr [cb] H G1:=f0.nil.trans f1
  simp (disch:=omega) only [go_sem,↓cB,dB,anV]
  rw [← hG]
  try (simp (disch:=omega) only [go_sem,↓cB,dB,k0])
  refine draw0 (lk [(0,true),(1,true),(2,true),(3,true),(4,true),(5,true),(6,true),(7,true),(8,true),(9,true),(10,true)] (.act 11 .fin .non)) T.mixed ?_
  by_cases d1:s.p + u0≤4
  rotate_left
  ·simp (disch:=omega) only [go_sem,↓cB,dB,kc,k2,uq,w1]
   rw [← hG1]
   try (simp (disch:=omega) only [go_sem,↓cB,dB,kc1,kn,q2])
   exact fin ⟨hfr,b1,by rw [if_neg (fun e=>d1 e.1)]⟩
  by_cases d2:1≤u0
  rotate_left
  ·simp (disch:=omega) only [go_sem,↓cB,dB,kc,k2,uq,w1]
   rw [← hG1]
   try (simp (disch:=omega) only [go_sem,↓cB,dB,kc1,kn,q2])
   exact fin ⟨hfr,b1,by rw [if_neg (fun e=>d2 e.2.1)]⟩
  by_cases d3:u0≤4
  rotate_left
  ·simp (disch:=omega) only [go_sem,↓cB,dB,kc,k2,uq,w1]
   rw [← hG1]
   try (simp (disch:=omega) only [go_sem,↓cB,dB,kc1,kn,q2])
   exact fin ⟨hfr,b1,by rw [if_neg (fun e=>d3 e.2.2)]⟩
  simp (disch:=omega) only [go_sem,↓cB,dB,kc,k2,uq,w1]
  rw [← hG1]
  try (simp (disch:=omega) only [go_sem,↓cB,dB,kc1,kn,q2])
  exact fin ⟨hfr,b1,by rw [if_pos ⟨d1,d2,d3⟩]⟩
 by_cases e17:kind=17
 ·subst e17
  have hl:nums.length=1:=by rw [hn1]; rfl
  have g0:=getD_some (l:=nums) (d:=(0:Int)) (i:=0) (by omega)
  have m0:=hn2 _ (List.mem_of_getElem? g0)
  obtain ⟨b,o,cc,q1,-,q2⟩:=hu.at1 g0
  simp only [Value.slice.injEq,true_and] at q1
  obtain ⟨rfl,rfl⟩:=q1
  rw [Nat.add_zero] at q2
  generalize hu0:nums.getD 0 0=u0 at *
  have hR:oneT s ⟨17,words,nums,kids,pos⟩ cp am=(s,if 0≤u0∧u0≤127 then 0 else 22):=by
   unfold oneT n0; simp only; rw [hu0]; rfl
  rw [hR]
  by_cases d2:0≤u0
  rotate_left
  ·simp (disch:=omega) only [go_sem,↓cB,dB,anV]
   rw [← hG]
   try (simp (disch:=omega) only [go_sem,↓cB,dB,k0,k2,q2])
   exact fin ⟨f0.nil,hbG,by rw [if_neg (fun e=>d2 e.1)]⟩
  by_cases d3:u0≤127
  rotate_left
  ·simp (disch:=omega) only [go_sem,↓cB,dB,anV]
   rw [← hG]
   try (simp (disch:=omega) only [go_sem,↓cB,dB,k0,k2,q2])
   exact fin ⟨f0.nil,hbG,by rw [if_neg (fun e=>d3 e.2)]⟩
  simp (disch:=omega) only [go_sem,↓cB,dB,anV]
  rw [← hG]
  try (simp (disch:=omega) only [go_sem,↓cB,dB,k0,k2,q2])
  exact fin ⟨f0.nil,hbG,by rw [if_pos ⟨d2,d3⟩]⟩
 by_cases e13:kind=13
 ·subst e13
  have hR:oneT s ⟨13,words,nums,kids,pos⟩ cp am=(s,if am then 21 else 0):=by
   rfl
  rw [hR]
  cases am
  ·simp (disch:=omega) only [go_sem,↓cB,dB,anV]
   rw [← hG]
   try (simp (disch:=omega) only [go_sem,↓cB,dB,k0])
   exact fin ⟨f0.nil,hbG,rfl⟩
  ·simp (disch:=omega) only [go_sem,↓cB,dB,anV]
   rw [← hG]
   try (simp (disch:=omega) only [go_sem,↓cB,dB,k0])
   exact fin ⟨f0.nil,hbG,rfl⟩
 have hR:oneT s ⟨kind,words,nums,kids,pos⟩ cp am=(s,0):=by
  unfold oneT; simp only; rw [if_neg e1,if_neg e2,if_neg e3,if_neg e17,if_neg e13]
 rw [hR]
 simp (disch:=omega) only [go_sem,↓cB,dB,anV]
 rw [← hG]
 try (simp (disch:=omega) only [go_sem,↓cB,dB,k0])
 exact fin ⟨f0.nil,hbG,rfl⟩
end
end Go.Proofs.YtmihefbdghjeoaaGreat
namespace Go.Proofs.YtmihefbdghjeoaaGreat
open Go.HL
set_option maxRecDepth 10000
theorem numsOk_of {l:List Nd} (h:prRightM l=true) {i:Nat} (hi:i < l.length):numsOk (nodeAt l i):=by
 have hn:=(tre_of h).node i hi
 unfold nodeP at hn
 simp only [Bool.and_eq_true] at hn
 have h2:=hn.2.1
 unfold withinM at h2
 rw [Bool.and_eq_true,allR_iff,decide_eq_true_eq] at h2
 obtain ⟨a,b⟩:=h2
 refine ⟨a,fun u hu=>?_⟩
 obtain ⟨j,hj⟩:=List.getElem?_of_mem hu
 have hjl:=(List.getElem?_eq_some_iff.1 hj).1
 have hb:=b j (by omega)
 simp only [Bool.and_eq_true,decide_eq_true_eq] at hb
 have e:(nodeAt l i).nums.getD j 0=u:=by rw [List.getD_eq_getElem?_getD,hj]; rfl
 rw [e] at hb
 have hbn:∀ k,∀ p ∈ bnds k,-999999≤p.1∧p.2≤999999:=by
  intro k p hp
  unfold bnds at hp
  repeat' split at hp
  all_goals simp at hp
  all_goals first | (rcases hp with rfl | rfl | rfl | rfl <;> decide) | (rcases hp with rfl | rfl <;> decide) | (subst hp; decide)
 have hm:=hbn _ _ (List.mem_of_getElem? (getD_some (d:=((0:Int),(0:Int))) (l:=bnds (nodeAt l i).kind) (i:=j) (by omega)))
 omega
theorem oneT_ok {m:Int} {s:TS} {n:Nd} {cp:Int} {am:Bool} (h:TSok m s) (hc:0≤cp∧cp≤999999) (hn:n.kind=3→0≤n0 n∧n0 n≤999999):TSok (m + 1000000) (oneT s n cp am).1:=by
 unfold TSok at *
 unfold oneT
 split
 ·simp only; omega
 ·split
  ·simp only; omega
  ·split
   ·rename_i e; have:=hn e; simp only; omega
   ·split
    ·simp only; omega
    ·split
     ·simp only; omega
     ·simp only; omega
theorem kidsT_ok {l:List Nd} {ih:Nat→Nat × Bool} {f:Nat→Int→Bool→TS→TS × Option (Int × Nat)} {cp:Int} {am:Bool}
  (h:∀ i e s m,i < l.length→ih i=(e,true)→TSok m s→i < e∧e≤l.length∧TSok (m + 1000000 * ((e:Int) - i)) (f i cp am s).1) :
  ∀ (ks:List Int) (i e:Nat) (s:TS) (m:Int),i≤l.length→walkK l ih ks i=(e,true)→TSok m s→i≤e∧TSok (m + 1000000 * ((e:Int) - i)) (kidsT f ks cp am s).1
 | [],i,e,s,m,hi,hw,hs=>by
  simp [walkK] at hw
  subst hw
  unfold TSok at *
  simp only [kidsT]; omega
 | k :: ks,i,e,s,m,hi,hw,hs=>by
  unfold walkK at hw
  split at hw
  ·rename_i hcd
   split at hw
   ·rename_i hok
    obtain ⟨a1,a2,a3⟩:=h i (ih i).1 s m hcd.2 (by rw [← hok]) hs
    have hki:k.toNat=i:=by rw [hcd.1]; simp
    obtain ⟨b1,b2⟩:=kidsT_ok h ks (ih i).1 e _ _ a2 hw a3
    refine ⟨by omega,?_⟩
    unfold kidsT
    rw [hki]
    cases (f i cp am s).2 with
    | none =>
     simp only
     have e1:m + 1000000 * (((ih i).1:Int) - i) + 1000000 * ((e:Int) - (ih i).1)=m + 1000000 * ((e:Int) - i):=by omega
     rw [← e1]; exact b2
    | some x =>
     simp only
     unfold TSok at *
     omega
   ·simp at hw
  ·simp at hw
theorem nodeT_ok {l:List Nd} (hr:prRightM l=true):∀ (d i e:Nat) (cp:Int) (am:Bool) (s:TS) (m:Int),i < l.length→walkM l d i=(e,true)→(0≤cp∧cp≤999999)→TSok m s→TSok (m + 1000000 * ((e:Int) - i)) (nodeT l d i cp am s).1
 | 0,i,e,cp,am,s,m,hi,hw,_,_=>by simp [walkM] at hw
 | d + 1,i,e,cp,am,s,m,hi,hw,hc,hs=>by
  unfold walkM at hw
  have hcp:0≤(if (nodeAt l i).kind=3 then n0 (nodeAt l i) else cp)∧(if (nodeAt l i).kind=3 then n0 (nodeAt l i) else cp)≤999999:=by
   split
   ·rename_i hk; exact n0_rng hr hi (.inr (.inr (.inl hk)))
   ·exact hc
  have h1:=oneT_ok (am:=am) hs hc (fun hk=>n0_rng hr hi (.inr (.inr (.inl hk))))
  unfold nodeT
  split
  ·obtain ⟨b1,b2⟩:=kidsT_ok (l:=l) (ih:=walkM l d) (f:=nodeT l d) (cp:=if (nodeAt l i).kind=3 then n0 (nodeAt l i) else cp) (am:=if (nodeAt l i).kind=13 then true else am) (fun i' e' s' m' hi' hw' hs'=>by
    have:=walkM_ok d i' e' hi' hw'
    exact ⟨this.1,this.2.1,nodeT_ok hr d i' e' _ _ s' m' hi' hw' hcp hs'⟩) (l.getD i nd0').kids (i + 1) e _ _ (by omega) hw h1
   have e1:m + 1000000 + 1000000 * ((e:Int) - ((i + 1:Nat):Int))=m + 1000000 * ((e:Int) - i):=by push_cast; omega
   rw [← e1]; exact b2
  ·have b1:=(kidsT_ok (l:=l) (ih:=walkM l d) (f:=nodeT l d) (cp:=if (nodeAt l i).kind=3 then n0 (nodeAt l i) else cp) (am:=if (nodeAt l i).kind=13 then true else am) (fun i' e' s' m' hi' hw' hs'=>by
    have:=walkM_ok d i' e' hi' hw'
    exact ⟨this.1,this.2.1,nodeT_ok hr d i' e' _ _ s' m' hi' hw' hcp hs'⟩) (l.getD i nd0').kids (i + 1) e _ _ (by omega) hw h1).1
   unfold TSok at *
   simp only
   omega
theorem kidsT_err {f:Nat→Int→Bool→TS→TS × Option (Int × Nat)} (h:∀ i cp am s x,(f i cp am s).2=some x→x.1 ≠ 0):∀ (ks:List Int) (cp:Int) (am:Bool) (s:TS) x,(kidsT f ks cp am s).2=some x→x.1 ≠ 0
 | [],cp,am,s,x,hx=>by simp [kidsT] at hx
 | k :: ks,cp,am,s,x,hx=>by
  unfold kidsT at hx
  cases hq:(f k.toNat cp am s).2 with
  | none=>rw [hq] at hx; exact kidsT_err h ks cp am _ x hx
  | some y =>
   rw [hq] at hx
   simp only [Option.some.injEq] at hx
   subst hx
   exact h _ _ _ _ _ hq
theorem nodeT_err {l:List Nd}:∀ (d i:Nat) (cp:Int) (am:Bool) (s:TS) x,(nodeT l d i cp am s).2=some x→x.1 ≠ 0
 | 0,i,cp,am,s,x,h=>by simp [nodeT] at h
 | d + 1,i,cp,am,s,x,h=>by
  unfold nodeT at h
  split at h
  ·exact kidsT_err (fun i cp am s x h=>nodeT_err d i cp am s x h) _ _ _ _ _ h
  ·rename_i hne
   simp only [Option.some.injEq] at h
   subst h
   exact hne
section
variable {H X:Heap} {S:Nat→Prop} {v:Value} {l:List Nd} {cb:Nat}
theorem flt_res2 {F:List Nat} (f:Fr F (H.push (.cells #[iv 0,iv 0] 36)) X) (hF:∀ b ∈ F,b < H.size) (e p:Int):∃ X',storeA Tryz.prog X 36 ⟨H.size,0,none⟩ (.agg #[iv e,iv p])=some X'∧cellsH (cellH X') ⟨H.size,0,none⟩ 0 2=some [iv e,iv p]∧Fr F H X'∧Fr [H.size] X X':=by
 have hb:Blk X H.size 36 [iv 0,iv 0]:=f.blk (Blk.new rfl) (fun h=>by have:=hF _ h; omega)
 obtain ⟨X',e1,e2,e3⟩:=store_blk (P:=Tryz.prog) (ty:=36) (new:=[iv e,iv p]) hb rfl T.size36 (one_all rfl)
 have f0:Fr F H X:=((Fr.push (F:=[]) (o:=.cells #[iv 0,iv 0] 36)).nil).trans f
 exact ⟨X',e1,e2.cells0,Fr.more f0 e3 (by simp),e3⟩
def NodeQ (H:Heap) (cb:Nat) (v:Value) (l:List Nd) (R:TS × Option (Int × Nat)) (r:Value) (H':Heap):Prop:=Fr [cb] H H'∧Blk H' cb 77 (cntC v R.1)∧r=fltV (fltE l R.2)
set_option maxHeartbeats 4000000 in
theorem tyNode_spec (hz:Sz l) (hr:prRightM l=true) (hS:∀ b,S b→b ≠ cb):∀ (d:Nat) {H:Heap} {i e:Nat} {cp:Int} {am:Bool} {s:TS} {m:Int},NL H S v l→Blk H cb 77 (cntC v s)→i < l.length→walkM l d i=(e,true)→(0≤cp∧cp≤999999)→TSok m s→m + 1000000 * ((e:Int) - i)≤1000000000 →
  CallF Tryz.prog 26 [hp cb,iv i,iv cp,.bool am] H (fun r H'=>NodeQ H cb v l (nodeT l d i cp am s) r H') NoP:=by
 intro d
 have hzl:=hz.len
 induction d with
 | zero =>
  intro H i e cp am s m h hb hi hw
  simp [walkM] at hw
 | succ d IH =>
  intro H i e cp am s m h hb hi hw hc hs hm
  obtain ⟨o1,o2,o3⟩:=walkM_ok (d + 1) i e hi hw
  have hgi:=getD_some (d:=nd0') hi
  obtain ⟨tb,to,tc,a,q1,q2,ar,ld,-⟩:=h.row hgi
  have hna:a.n=nodeAt l i:=q2
  have hnum:numsOk a.n:=by rw [hna]; exact numsOk_of hr hi
  have hcb:=hb.lt
  have hw':=hw
  unfold walkM at hw'
  have hn3:(nodeAt l i).kind=3→0≤n0 (nodeAt l i)∧n0 (nodeAt l i)≤999999:=fun hk=>n0_rng hr hi (.inr (.inr (.inl hk)))
  subst q1
  have cT:=hb.cell 0
  simp only [cntC,gZ] at cT
  obtain ⟨A0,hA0⟩:∃ A,A=H.push (.cells #[iv 0,iv 0] 36):=⟨_,rfl⟩
  have g0:Fr [] H A0:=by rw [hA0]; exact Fr.push
  have z0:A0.size=H.size + 1:=by rw [hA0]; simp
  have cT0:=g0.cell' cT (by simp)
  have ld0:=((h.grow g0).row hgi)
  obtain ⟨tb',to',tc',a',q1',q2',ar0,ld0,-⟩:=ld0
  simp only [Value.slice.injEq,Option.some.injEq,Addr.mk.injEq,and_true,true_and] at q1'
  obtain ⟨⟨rfl,rfl⟩,rfl⟩:=q1'
  have hna':a'.n=nodeAt l i:=q2'
  have hnd:l.getD i nd0'=nodeAt l i:=rfl
  rw [hnd] at ld0
  obtain ⟨nn,x1,c1,x2,c2,x3,c3,rfl⟩:=ar0.open
  simp only at hna' ld0
  subst hna'
  obtain ⟨A1,hA1⟩:∃ A,A=A0.push (.cells #[iv (nodeAt l i).kind,.slice x1 (nodeAt l i).words.length c1,.slice x2 (nodeAt l i).nums.length c2,.slice x3 (nodeAt l i).kids.length c3,iv (nodeAt l i).pos] 47):=⟨_,rfl⟩
  have g1:Fr [] A0 A1:=by rw [hA1]; exact Fr.push
  have z1:A1.size=A0.size + 1:=by rw [hA1]; simp
  have bn:Blk A1 A0.size 47 [iv (nodeAt l i).kind,.slice x1 (nodeAt l i).words.length c1,.slice x2 (nodeAt l i).nums.length c2,.slice x3 (nodeAt l i).kids.length c3,iv (nodeAt l i).pos]:=by rw [hA1]; exact Blk.new rfl
  have ldn:=bn.cells0
  simp only [List.length_cons,List.length_nil] at ldn
  have g01:=g0.trans g1
  have ar1:=(ar0.frame (Keeps.of_fr g1 (by simp)))
  have bC1:=g01.blk hb (by simp)
  have hone:=tyOne_spec (am:=am) (cp:=cp) bC1 (by unfold TSok at *; omega) ar1 hS (numsOk_of hr hi) hc
  refine callF_of Tryz.func26 rfl Tryz.ntmps26 Tryz.results26 (by decide) rfl ?_
  simp (disch:=omega) only [go_sem,↓cB,dB]
  rw [← hA0]
  simp (disch:=omega) only [go_sem,↓cB,dB,cT0,ld0]
  rw [← hA1]
  try (simp (disch:=omega) only [go_sem,↓cB,dB,ldn])
  refine call_to hone ?_
  intro r1 H1 hv
  refine Hush.out ?_
  obtain ⟨f2,b2,rfl⟩:=hv
  obtain ⟨R1,hR1⟩:∃ R1,R1=oneT s (nodeAt l i) cp am:=⟨_,rfl⟩
  rw [← hR1] at b2 ⊢
  have hsok:TSok (m + 1000000) R1.1:=by rw [hR1]; exact oneT_ok hs hc hn3
  have z2:=f2.size
  have bn2:Blk H1 A0.size 47 _:=f2.blk bn (by simp; omega)
  have f02:Fr [cb] A0 H1:=g1.nil.trans f2
  have fH2:Fr [cb] H H1:=g0.nil.trans f02
  by_cases he:R1.2=0
  rotate_left
  ·have hnode:nodeT l (d + 1) i cp am s=(R1.1,some (R1.2,i)):=by
    unfold nodeT; rw [← hR1,if_neg he]
   have c4:=bn2.cell 4
   simp only [gS,gZ] at c4
   obtain ⟨X',e1,e2,e3,e4⟩:=flt_res2 (H:=H) (X:=H1) (F:=[cb]) (by rw [← hA0]; exact f02) (by simp; omega) R1.2 (nodeAt l i).pos
   rw [hnode]
   refine ⟨?_⟩
   simp (disch:=omega) only [go_sem,↓cB,dB,c4,e1,e2]
   exact fin ⟨e3,e4.blk b2 (by simp; omega),rfl⟩
  have hnode:nodeT l (d + 1) i cp am s=kidsT (nodeT l d) (nodeAt l i).kids (if (nodeAt l i).kind=3 then n0 (nodeAt l i) else cp) (if (nodeAt l i).kind=13 then true else am) R1.1:=by
   unfold nodeT; rw [← hR1,if_pos he]
  obtain ⟨R,hR⟩:∃ R,R=nodeT l (d + 1) i cp am s:=⟨_,rfl⟩
  rw [← hR]
  rw [hnode] at hR
  have c0:=bn2.cell 0
  have c2':=bn2.cell 2
  have c3':=bn2.cell 3
  simp only [gS,gZ] at c0 c2' c3'
  obtain ⟨cp',hcp'⟩:∃ cp',cp'=(if (nodeAt l i).kind=3 then n0 (nodeAt l i) else cp):=⟨_,rfl⟩
  obtain ⟨am',ham'⟩:∃ am',am'=(if (nodeAt l i).kind=13 then true else am):=⟨_,rfl⟩
  have hcp:0≤cp'∧cp'≤999999:=by
   rw [hcp']
   split
   ·rename_i hk; exact hn3 hk
   ·exact hc
  rw [← hcp',← ham'] at hR
  have hu2:=ar1.u.frame (Keeps.of_fr f2 (fun b hb=>by have:=hS b hb; simpa using this))
  have hk0:=ar0.k
  simp only at hu2 hk0
  have hnl:(nodeAt l i).nums.length=(bnds (nodeAt l i).kind).length:=(numsOk_of hr hi).1
  refine ⟨?_⟩
  simp (disch:=omega) only [go_sem,dB,c0,he]
  refine cut_at (fun ρ H2=>H1=H2∧(ρ.get 0=hp cb∧ρ.get 2=iv cp'∧ρ.get 3=.bool am'∧ρ.get 8=hp H.size∧ρ.get 9=hp A0.size∧ρ.ds = [])) ?_ ?_
  ·by_cases k3:(nodeAt l i).kind=3
   ·have g0':=getD_some (l:=(nodeAt l i).nums) (d:=(0:Int)) (i:=0) (by rw [hnl,k3]; decide)
    obtain ⟨ub,uo,uc,ue,-,uq⟩:=hu2.at1 g0'
    simp only [Value.slice.injEq,true_and] at ue
    obtain ⟨rfl,rfl⟩:=ue
    rw [Nat.add_zero] at uq
    have e1:(nodeAt l i).nums.getD 0 0=cp':=by rw [hcp',if_pos k3]; rfl
    rw [e1] at uq
    have e2:am'=am:=by rw [ham',if_neg (by omega)]
    have hl0:0 < (nodeAt l i).nums.length:=by rw [hnl,k3]; decide
    subst e2
    simp (disch:=omega) only [go_sem,↓cB,dB,c0,c2',uq,k3]
    exact fin ⟨rfl,by simp (disch:=omega) only [go_sem,↓cB,dB]⟩
   ·have e1:cp'=cp:=by rw [hcp',if_neg k3]
    by_cases k13:(nodeAt l i).kind=13
    ·have e2:am'=true:=by rw [ham',if_pos k13]
     subst e1 e2
     simp (disch:=omega) only [go_sem,↓cB,dB,c0,k13]
     exact fin ⟨rfl,by simp (disch:=omega) only [go_sem,↓cB,dB]⟩
    ·have e2:am'=am:=by rw [ham',if_neg k13]
     subst e1 e2
     simp (disch:=omega) only [go_sem,↓cB,dB,c0]
     exact fin ⟨rfl,by simp (disch:=omega) only [go_sem,↓cB,dB]⟩
  rintro ρ _ ⟨rfl,r0,r2,r3,r8,r9,rd⟩
  generalize hks:(nodeAt l i).kids=ks at *
  have hks':(l.getD i nd0').kids=ks:=hks
  rw [hks'] at hw'
  have hkl:=hz.k i _ hgi
  rw [hks'] at hkl
  simp (disch:=omega) only [go_sem,↓cB,dB,r0,r2,r3,r8,r9,rd,c3']
  have bn2':=bn2
  clear hone c0 c2'
  refine loop_by (fun k ρ H2=>∃ (j next:Nat) (st:TS),k=ks.length - j∧j≤ks.length∧next≤l.length∧i < next∧next≤e∧walkK l (walkM l d) (ks.drop j) next=(e,true)∧R=kidsT (nodeT l d) (ks.drop j) cp' am' st∧TSok (m + 1000000 * ((next:Int) - i)) st∧Fr [cb] A0 H2∧Fr [cb] H1 H2∧Blk H2 cb 77 (cntC (.slice (some ⟨tb,to,none⟩) l.length tc) st) ∧
    (ρ.get 0=hp cb∧ρ.get 2=iv cp'∧ρ.get 3=.bool am'∧ρ.get 8=hp H.size∧ρ.get 9=hp A0.size∧ρ.get 43=.slice x3 ks.length c3∧ρ.get 44=iv ks.length∧ρ.get 45=iv j∧ρ.ds = [])) (k:=ks.length) ?_ ?_
  ·refine ⟨0,i + 1,R1.1,rfl,by omega,by omega,by omega,by omega,hw',hR,?_,f02,Fr.refl _ _,b2,by simp (disch:=omega) only [go_sem,↓cB,dB,r0,r2,r3,r8,r9,rd]⟩
   unfold TSok at *; push_cast; omega
  ·clear r0 r2 r3 r8 r9 rd hR hw'
   rintro k ρ H2 ⟨j,next,st,rfl,hj,hnl',hin,hne,hwk,hR,hst,fA2,f12,bC,r0,r2,r3,r8,r9,r43,r44,r45,rd⟩
   have hxj:(j:Int) + 1=((j + 1:Nat):Int):=by omega
   have zA:=fA2.size
   have fHH2:Fr [cb] H H2:=g0.nil.trans fA2
   by_cases hjn:j < ks.length
   rotate_left
   ·obtain rfl:j=ks.length:=by omega
    rw [List.drop_length] at hR
    simp only [kidsT] at hR
    obtain ⟨X',e1,e2,e3,e4⟩:=flt_res2 (H:=H) (X:=H2) (F:=[cb]) (by rw [← hA0]; exact fA2) (by simp; omega) 0 0
    simp (disch:=omega) only [go_sem,↓cB,dB,r0,r2,r3,r8,r9,r43,r44,r45,rd,e1,e2]
    refine fin ⟨e3,?_,by rw [hR]; rfl⟩
    rw [hR]
    exact e4.blk bC (by simp; omega)
   have hgj:=getD_some (d:=(0:Int)) hjn
   have hd':ks.drop j=ks.getD j 0 :: ks.drop (j + 1):=by
    rw [List.drop_eq_getElem_cons hjn]; congr 1; simp [hjn]
   have hk2:=hk0.frame (Keeps.of_fr fA2 (fun b hb=>by have:=hS b hb; simpa using this))
   obtain ⟨kb,ko,kc,p1,-,p2⟩:=hk2.at1 hgj
   simp only [Value.slice.injEq,true_and] at p1
   obtain ⟨rfl,rfl⟩:=p1
   rw [hd'] at hwk hR
   generalize hy:ks.getD j 0=y at *
   unfold walkK at hwk
   split at hwk
   rotate_left
   ·simp at hwk
   rename_i hcd
   split at hwk
   rotate_left
   ·simp at hwk
   rename_i hok
   obtain ⟨w1,w2,w3⟩:=walkM_ok d next (walkM l d next).1 hcd.2 (by rw [← hok])
   have w4:=(walkK_ok (l:=l) (ih:=walkM l d) (Q:=fun _=>True) (fun i e h1 h2=>by have:=walkM_ok d i e h1 h2; exact ⟨this.1,this.2.1,fun _ _ _=>trivial⟩) (ks.drop (j + 1)) _ e w2 hwk).1
   have hyn:y=(next:Int):=hcd.1
   subst hyn
   have nl2:=h.frame (Keeps.of_fr fHH2 (fun b hb=>by have:=hS b hb; simpa using this))
   have hcall:=IH (am:=am') (cp:=cp') (m:=m + 1000000 * ((next:Int) - i)) nl2 bC hcd.2 (by rw [← hok]) hcp hst (by omega)
   unfold kidsT at hR
   simp only [Int.toNat_natCast] at hR
   have herr:=nodeT_err (l:=l) d next cp' am' st
   have hok5:=nodeT_ok hr d next (walkM l d next).1 cp' am' st _ hcd.2 (by rw [← hok]) hcp hst
   obtain ⟨R2,hR2⟩:∃ R2,R2=nodeT l d next cp' am' st:=⟨_,rfl⟩
   rw [← hR2] at hcall hR herr hok5
   simp (disch:=omega) only [go_sem,↓cB,dB,r0,r2,r3,r8,r9,r43,r44,r45,rd,p2]
   refine call_to hcall ?_
   intro r5 H5 hv
   refine Hush.out ?_
   obtain ⟨f5,b5,rfl⟩:=hv
   obtain ⟨st',R2o⟩:=R2
   simp only at b5 hR herr hok5
   cases R2o with
   | none =>
    simp only at hR
    obtain ⟨A6,hA6⟩:∃ A,A=H5.push (.cells #[iv 0,iv 0] 36):=⟨_,rfl⟩
    have g6:Fr [] H5 A6:=by rw [hA6]; exact Fr.push
    have b6:Blk A6 H5.size 36 [iv 0,iv 0]:=by rw [hA6]; exact Blk.new rfl
    have ld6:=b6.cells0
    simp only [List.length_cons,List.length_nil] at ld6
    have f56:=f5.trans g6.nil
    refine ⟨?_⟩
    simp (disch:=omega) only [go_sem,↓cB,dB,r0,r2,r3,r8,r9,r43,r44,r45,rd,fltV,fltE]
    rw [← hA6]
    try (simp (disch:=omega) only [go_sem,↓cB,dB,r0,r2,r3,r8,r9,r43,r44,r45,rd,ld6])
    refine fin ⟨ks.length - (j + 1),by omega,j + 1,(walkM l d next).1,st',rfl,by omega,w2,by omega,w4,hwk,hR,?_,fA2.trans f56,f12.trans f56,g6.blk b5 (by simp),by simp (disch:=omega) only [go_sem,↓cB,dB,r0,r2,r3,r8,r9,r43,r44,r45,rd,hxj]⟩
    have e1:m + 1000000 * ((next:Int) - i) + 1000000 * (((walkM l d next).1:Int) - next)=m + 1000000 * (((walkM l d next).1:Int) - i):=by omega
    rw [← e1]; exact hok5
   | some x =>
    simp only at hR
    have hx:=herr x rfl
    obtain ⟨xe,xi⟩:=x
    simp only at hx
    obtain ⟨A6,hA6⟩:∃ A,A=H5.push (.cells #[iv xe,iv (nodeAt l xi).pos] 36):=⟨_,rfl⟩
    have g6:Fr [] H5 A6:=by rw [hA6]; exact Fr.push
    have b6:Blk A6 H5.size 36 [iv xe,iv (nodeAt l xi).pos]:=by rw [hA6]; exact Blk.new rfl
    have ld6:=b6.cells0
    simp only [List.length_cons,List.length_nil] at ld6
    have f56:=f5.trans g6.nil
    obtain ⟨X',e1,e2,e3,e4⟩:=flt_res2 (H:=H) (X:=A6) (F:=[cb]) (by rw [← hA0]; exact fA2.trans f56) (by simp; omega) xe (nodeAt l xi).pos
    refine ⟨?_⟩
    simp (disch:=omega) only [go_sem,↓cB,dB,r0,r2,r3,r8,r9,r43,r44,r45,rd,fltV,fltE]
    rw [← hA6]
    try (simp (disch:=omega) only [go_sem,↓cB,dB,r0,r2,r3,r8,r9,r43,r44,r45,rd,ld6,e1,e2])
    refine fin ⟨e3,?_,by rw [hR]; rfl⟩
    rw [hR]
    exact e4.blk (g6.blk b5 (by simp)) (by simp; omega)
end
end Go.Proofs.YtmihefbdghjeoaaGreat
namespace Go.Proofs.YtmihefbdghjeoaaGreat
open Go.HL
set_option maxRecDepth 10000
theorem scopeM_err (l:List Nd):scopeM l=⟨0,0⟩∨(scopeM l).err ≠ 0:=by
 unfold scopeM
 split
 ·cases (runL (stopC l) l 0 (nodeAt l 0).kids sg0).map Prod.fst with
  | none=>exact .inl rfl
  | some i=>exact .inr (by simp [fltOf])
 ·exact .inr (by simp)
theorem scopeM_right {l:List Nd} (h:scopeM l=⟨0,0⟩):prRightM l=true:=by
 cases hr:prRightM l
 ·unfold scopeM at h
  rw [if_neg (by simp [hr])] at h
  simp at h
 ·rfl
section
variable {H:Heap} {S:Nat→Prop} {v:Value} {l:List Nd}
theorem tyCheck_spec (h:NL H S v l) (hz:Sz l):CallF Tryz.prog 11 [v] H (fun r H'=>Fr [] H H'∧r=fltV (typM l)) NoP:=by
 replace h:NL H (fun b=>b < H.size) v l:=h.mono (fun b _ hb=>hb)
 obtain ⟨A0,hA0⟩:∃ A,A=H.push (.cells #[iv 0,iv 0] 36):=⟨_,rfl⟩
 have g0:Fr [] H A0:=by rw [hA0]; exact Fr.push
 have z0:A0.size=H.size + 1:=by rw [hA0]; simp
 unfold typM
 refine callF_of Tryz.func11 rfl Tryz.ntmps11 Tryz.results11 (by decide) rfl ?_
 simp (disch:=omega) only [go_sem,↓cB,dB]
 rw [← hA0]
 refine call_to (scCheck_spec (h.grow g0) hz) ?_
 intro r1 H1 hv
 refine Hush.out ?_
 obtain ⟨f1,rfl⟩:=hv
 obtain ⟨A1,hA1⟩:∃ A,A=H1.push (.cells #[iv (scopeM l).err,iv (scopeM l).pos] 36):=⟨_,rfl⟩
 have g1:Fr [] H1 A1:=by rw [hA1]; exact Fr.push
 have z1:A1.size=H1.size + 1:=by rw [hA1]; simp
 have b1:Blk A1 H1.size 36 [iv (scopeM l).err,iv (scopeM l).pos]:=by rw [hA1]; exact Blk.new rfl
 have ld1:=b1.cells0
 simp only [List.length_cons,List.length_nil] at ld1
 have f01:=f1.trans g1
 have zf:=f1.size
 rcases scopeM_err l with he | he
 rotate_left
 ·rw [if_neg (fun e=>by rw [e] at he; exact he rfl)]
  obtain ⟨X',e1,e2,e3,e4⟩:=flt_res (H:=H) (X:=A1) (by rw [← hA0]; exact f01) (scopeM l).err (scopeM l).pos
  refine ⟨?_⟩
  simp (disch:=omega) only [go_sem,↓cB,dB,fltV]
  rw [← hA1]
  try (simp (disch:=omega) only [go_sem,↓cB,dB,ld1,e1,e2])
  exact fin ⟨e3,rfl⟩
 have hr:=scopeM_right he
 obtain ⟨hw,hl0⟩:=walk20 hr
 have hl8:=(right_facts hr).2.1
 rw [if_pos he]
 rw [he] at hA1 ld1
 obtain ⟨A2,hA2⟩:∃ A,A=A1.push (.cells #[v,iv 0,iv 0,iv 0] 77):=⟨_,rfl⟩
 have g2:Fr [] A1 A2:=by rw [hA2]; exact Fr.push
 have b2:Blk A2 A1.size 77 (cntC v ⟨0,0,0⟩):=by rw [hA2]; exact Blk.new rfl
 have f02:=f01.trans g2
 obtain ⟨av,cv,rfl⟩:=h.len
 have hnode:=tyNode_spec (cb:=A1.size) (am:=false) (cp:=1) (s:=⟨0,0,0⟩) (m:=0) hz hr (fun b hb=>by omega) 20 (h.grow (g0.trans f02)) b2 hl0 hw (by omega) (by unfold TSok; simp) (by omega)
 rw [he]
 refine ⟨?_⟩
 simp (disch:=omega) only [go_sem,↓cB,dB,fltV]
 rw [← hA1]
 try (simp (disch:=omega) only [go_sem,↓cB,dB,ld1])
 rw [← hA2]
 refine call_to hnode ?_
 intro r3 H3 hv
 refine Hush.out ?_
 obtain ⟨f3,b3,rfl⟩:=hv
 obtain ⟨F,hF⟩:∃ F,F=fltE l (nodeT l 20 0 1 false ⟨0,0,0⟩).2:=⟨_,rfl⟩
 rw [← hF]
 have f03:Fr [] A0 H3:=Fr.more f02 f3 (by simp; omega)
 obtain ⟨X',e1,e2,e3,e4⟩:=flt_res (H:=H) (X:=H3) (by rw [← hA0]; exact f03) F.err F.pos
 refine ⟨?_⟩
 simp (disch:=omega) only [go_sem,↓cB,dB,fltV,e1,e2]
 exact fin ⟨e3,rfl⟩
end
end Go.Proofs.YtmihefbdghjeoaaGreat
