/- Texts of this proof, put together: MrfF, MrfG, MrfI, MrfJ, MrfS. The conditions of each theorem stand in it. -/
import Derived.Test.YtmihefbdghjeoaaGreatMXH
import Derived.Test.YtmihefbdghjeoaaGreatMXG
import Derived.Test.YtmihefbdghjeoaaGreatMXE
set_option linter.unusedSimpArgs false
set_option linter.unusedVariables false
namespace Go.Proofs.YtmihefbdghjeoaaGreat
open Go.HL
set_option maxRecDepth 10000
section
variable {l:List Nd} {cs:List Ch} {q:Pr} {g:Int} {d:Bool}
theorem spR_zero {st:StF}:SpR l cs q g d st 0:=fun _ _ _ _ hw=>by simp [walkM] at hw
theorem bkR_zero {st:StF}:BkR l cs q g d st 0:=fun _ _ _ _ hw=>by simp [walkM] at hw
theorem r13_all (hX:q.vars.length=q.names.length) (hXl:q.names.length≤1000000) (hcl:cs.length≤1000000) (hz:Sz l) (hr:prRightM l=true):∀ n,SpR l cs q g d (statM l (rNm q cs) n) n
 | 0=>spR_zero
 | 1=>spR_of hX hXl hcl hz hr (dk:=0) bkR_zero (fun k e f t b hk hw=>by simp [walkM] at hw)
 | n + 2=>spR_of hX hXl hcl hz hr (dk:=n + 1) (bkR_of hz hr (sqR_of (r13_all hX hXl hcl hz hr n) (stat_up hr n))) (blUp_of (stat_up hr n))
end
end Go.Proofs.YtmihefbdghjeoaaGreat
namespace Go.Proofs.YtmihefbdghjeoaaGreat
open Go.HL
set_option maxRecDepth 10000
theorem firstE_ne {g:Nat→Int}:∀ (m i:Nat) x,firstE g m i=some x→x.1 ≠ 0:=by
 intro m
 induction m with
 | zero=>intro i x h; simp [firstE] at h
 | succ m ih =>
  intro i x h
  unfold firstE at h
  split at h
  ·exact ih _ _ h
  ·rename_i hne
   simp only [Option.some.injEq] at h
   subst h; exact hne
theorem err12 {l:List Nd} (h:(check12 l).err=0):check12 l=⟨0,0⟩:=by
 unfold check12 at *
 split
 ·rename_i h1
  rw [if_pos h1] at h
  cases hq:firstE (wrongR l) l.length 0 with
  | none=>rfl
  | some x =>
   rw [hq] at h
   exact absurd h (firstE_ne _ _ _ hq)
 ·rename_i h1
  rw [if_neg h1] at h
  unfold check11 at *
  cases hq:firstT (bad11 l) l.length 0 with
  | none=>rw [hq] at h1; exact absurd rfl h1
  | some x=>rw [hq] at h; simp [fltOf] at h
section
variable {H:Heap} {S:Nat→Prop} {v:Value} {l:List Nd}
theorem r13Make_no (h:NL H S v l) (hz:Sz l) (hr:prRightM l=true) (h0:¬ typM l=⟨0,0⟩):CallF Tryz.prog 9 [v] H (fun r H'=>Fr [] H H'∧r=.tuple #[.agg (moC ⟨nilS,nilS,nilS,nilS,nilS⟩ mo0).toArray,.bool false]) NoP:=by
 obtain ⟨A0,hA0⟩:∃ A,A=H.push (.cells #[nilS,iv 0,nilS,nilS,nilS,nilS,.bool false] 30):=⟨_,rfl⟩
 have g0:Fr [] H A0:=by rw [hA0]; exact Fr.push
 have z0:A0.size=H.size + 1:=by rw [hA0]; simp
 have b0:Blk A0 H.size 30 [nilS,iv 0,nilS,nilS,nilS,nilS,.bool false]:=by rw [hA0]; exact Blk.new rfl
 have ht:=r12Check_spec (h.grow g0) hz hr
 have he:¬ (check12 l).err=0:=fun e=>h0 (by rw [typ_eq hr]; exact err12 e)
 refine callF_of Tryz.func9 rfl Tryz.ntmps9 Tryz.results9 (by decide) rfl ?_
 simp (disch:=omega) only [go_sem,↓cB,dB]
 try rw [← hA0]
 refine call_to ht ?_
 intro r1 H1 hv
 refine Hush.out ?_
 obtain ⟨f1,rfl⟩:=hv
 obtain ⟨A1,hA1⟩:∃ A,A=H1.push (.cells #[iv (check12 l).err,iv (check12 l).pos] 36):=⟨_,rfl⟩
 have g1:Fr [] H1 A1:=by rw [hA1]; exact Fr.push
 have b1:Blk A1 H1.size 36 [iv (check12 l).err,iv (check12 l).pos]:=by rw [hA1]; exact Blk.new rfl
 have k0':=b1.cell 0
 simp only [gZ] at k0'
 have b01:=(f1.trans g1).blk b0 (by simp)
 obtain ⟨A2,e2,b2,f2⟩:=store_blk (P:=Tryz.prog) (ty:=30) (new:=[nilS,iv 0,nilS,nilS,nilS,nilS,.bool false]) b01 rfl T.size30 (one_all rfl)
 have ld:=b2.cells0
 simp only [List.length_cons,List.length_nil] at ld
 have hd:decide ((check12 l).err ≠ 0)=true:=by simpa using he
 refine ⟨?_⟩
 simp (disch:=omega) only [go_sem,↓cB,dB,fltV]
 try rw [← hA1]
 try (simp (disch:=omega) only [go_sem,↓cB,dB,k0',hd,e2,ld])
 exact fin ⟨Fr.more ((g0.trans f1).trans g1) f2 (by simp),rfl⟩
end
def rmB (mb:Nat) (w:MV) (m:Mo):Bx:=⟨mb,30,[w.tv,iv m.globals,w.cv,w.va,w.pv,w.sa,.bool m.dead]⟩
def RmQ (S:Nat→Prop) (A:Heap) (mb:Nat) (tv:Value) (m:Mo) (H':Heap):Prop:=FS S A H'∧∃ w:MV,MB H' [rmB mb w m] (mkF w m [] [])∧Apart S H' [rmB mb w m] (mkF w m [] [])∧w.tv=tv
section
variable {H H1:Heap} {S:Nat→Prop} {mb:Nat} {w:MV} {m:Mo} {v':Value}
theorem rm_chan (x:MB H [rmB mb w m] (mkF w m [] [])) (ap:Apart S H [rmB mb w m] (mkF w m [] [])) {c:Ch} (g1:Vec H1 59 5 v' (m.chans.flatMap chC ++ chC c)) (g2:Fr (own w.cv) H H1) (g3:∀ y ∈ own v',y ∈ own w.cv∨H.size≤y) :
  wr H1 ⟨mb,2,none⟩ v'=some (setH H1 ⟨mb,2,none⟩ v')∧RmQ S H mb w.tv { m with chans:=m.chans ++ [c] } (setH H1 ⟨mb,2,none⟩ v'):=by
 obtain ⟨w1,x1,q,ap1⟩:=x.appS ap (i:=0) rfl rfl g1 g2 g3
 have e:mkF { w with cv:=v' } { m with chans:=m.chans ++ [c] } [] []=(mkF w m [] []).set 0 { (⟨0,2,59,5,w.cv,m.chans.flatMap chC⟩:FV) with v:=v',vs:=m.chans.flatMap chC ++ chC c }:=by simp [mkF]
 exact ⟨w1,q,{ w with cv:=v' },by rw [e]; exact x1,by rw [e]; exact ap1,rfl⟩
theorem rm_var (x:MB H [rmB mb w m] (mkF w m [] [])) (ap:Apart S H [rmB mb w m] (mkF w m [] [])) {c:Vr} (g1:Vec H1 61 3 v' (m.vars.flatMap vrC ++ vrC c)) (g2:Fr (own w.va) H H1) (g3:∀ y ∈ own v',y ∈ own w.va∨H.size≤y) :
  wr H1 ⟨mb,3,none⟩ v'=some (setH H1 ⟨mb,3,none⟩ v')∧RmQ S H mb w.tv { m with vars:=m.vars ++ [c] } (setH H1 ⟨mb,3,none⟩ v'):=by
 obtain ⟨w1,x1,q,ap1⟩:=x.appS ap (i:=1) rfl rfl g1 g2 g3
 have e:mkF { w with va:=v' } { m with vars:=m.vars ++ [c] } [] []=(mkF w m [] []).set 1 { (⟨0,3,61,3,w.va,m.vars.flatMap vrC⟩:FV) with v:=v',vs:=m.vars.flatMap vrC ++ vrC c }:=by simp [mkF]
 exact ⟨w1,q,{ w with va:=v' },by rw [e]; exact x1,by rw [e]; exact ap1,rfl⟩
theorem rm_safe (x:MB H [rmB mb w m] (mkF w m [] [])) (ap:Apart S H [rmB mb w m] (mkF w m [] [])) {c:Int} (g1:Vec H1 3 1 v' (m.safe.map iv ++ [iv c])) (g2:Fr (own w.sa) H H1) (g3:∀ y ∈ own v',y ∈ own w.sa∨H.size≤y) :
  wr H1 ⟨mb,5,none⟩ v'=some (setH H1 ⟨mb,5,none⟩ v')∧RmQ S H mb w.tv { m with safe:=m.safe ++ [c] } (setH H1 ⟨mb,5,none⟩ v'):=by
 obtain ⟨w1,x1,q,ap1⟩:=x.appS ap (i:=3) rfl rfl g1 g2 g3
 have e:mkF { w with sa:=v' } { m with safe:=m.safe ++ [c] } [] []=(mkF w m [] []).set 3 { (⟨0,5,3,1,w.sa,m.safe.map iv⟩:FV) with v:=v',vs:=m.safe.map iv ++ [iv c] }:=by simp [mkF]
 exact ⟨w1,q,{ w with sa:=v' },by rw [e]; exact x1,by rw [e]; exact ap1,rfl⟩
theorem rm_dead (x:MB H [rmB mb w m] (mkF w m [] [])) (ap:Apart S H [rmB mb w m] (mkF w m [] [])) :
  wr H ⟨mb,6,none⟩ (.bool true)=some (setH H ⟨mb,6,none⟩ (.bool true))∧RmQ S H mb w.tv { m with dead:=true } (setH H ⟨mb,6,none⟩ (.bool true)):=by
 obtain ⟨w1,x1,q⟩:=x.put (k:=0) (i:=6) rfl (by simp [rmB]) (by
   intro j f hf _
   match j,hf with
   | 0,hf | 1,hf | 2,hf | 3,hf=>simp only [mkF,gZ,gS,Option.some.injEq] at hf; subst hf; simp
   | j + 4,hf=>simp [mkF] at hf) (.bool true)
 have hb:mb ∈ wrM [rmB mb w m] (mkF w m [] []):=mem_wr_box (i:=0) (b:=rmB mb w m) rfl
 have eb:(rmB mb w m).b=mb:=rfl
 rw [eb] at w1 x1 q
 exact ⟨w1,FS.of q (by simp only [rmB,List.mem_singleton]; rintro b rfl; exact ap.2 _ hb),w,x1,⟨fun y hy=>by have:=ap.1 y hy; have:=q.size; omega,ap.2⟩,rfl⟩
theorem rm_lens (x:MB H [rmB mb w m] (mkF w m [] [])):∃ a1 c1 a2 c2 a3 n3 c3 a4 c4,w.cv=.slice a1 m.chans.length c1∧w.va=.slice a2 m.vars.length c2∧w.pv=.slice a3 n3 c3∧w.sa=.slice a4 m.safe.length c4:=by
 obtain ⟨a1,n1,c1,e1,h1⟩:=(x.vec 0 _ rfl).len
 obtain ⟨a2,n2,c2,e2,h2⟩:=(x.vec 1 _ rfl).len
 obtain ⟨a3,n3,c3,e3,-⟩:=(x.vec 2 _ rfl).len
 obtain ⟨a4,n4,c4,e4,h4⟩:=(x.vec 3 _ rfl).len
 simp only [mkF,gS,gZ] at e1 h1 e2 h2 e3 e4 h4
 rw [flat_len chL] at h1
 rw [flat_len vrL] at h2
 rw [List.length_map] at h4
 exact ⟨a1,c1,a2,c2,a3,n3,c3,a4,c4,by rw [e1]; congr 1; omega,by rw [e2]; congr 1; omega,e3,by rw [e4]; congr 1; omega⟩
end
theorem ch_bits {l:List Nd} (hr:prRightM l=true) {n:Nat} (hn:n < l.length) (h1:(nodeAt l n).kind=1):decide (n2 (nodeAt l n)=1)=decide (¬ n2 (nodeAt l n)=0)∧decide (n3 (nodeAt l n)=1)=decide (¬ n3 (nodeAt l n)=0):=by
 have:=num_rng hr hn
 rw [h1] at this
 have a:=this 2 (by simp [bnds])
 have b:=this 3 (by simp [bnds])
 simp only [bnds,if_true,List.getD_cons_succ,List.getD_cons_zero] at a b
 have e2:(nodeAt l n).nums.getD 2 0=n2 (nodeAt l n):=rfl
 have e3:(nodeAt l n).nums.getD 3 0=n3 (nodeAt l n):=rfl
 rw [e2] at a
 rw [e3] at b
 refine ⟨decide_eq_decide.2 (by omega),decide_eq_decide.2 (by omega)⟩
theorem rm_new0 {H:Heap} {mb:Nat} {tv:Value} (b3:Blk H mb 30 [tv,iv 0,nilS,nilS,nilS,nilS,.bool false]):MB H [rmB mb ⟨tv,nilS,nilS,nilS,nilS⟩ mo0] (mkF ⟨tv,nilS,nilS,nilS,nilS⟩ mo0 [] []):=by
 have hB:∀ {i:Nat} {b:Bx},[rmB mb ⟨tv,nilS,nilS,nilS,nilS⟩ mo0][i]?=some b→i=0∧b=rmB mb ⟨tv,nilS,nilS,nilS,nilS⟩ mo0:=by
  intro i b h
  match i,h with
  | 0,h=>simp at h; exact ⟨rfl,h.symm⟩
  | i + 1,h=>simp at h
 have hF:∀ {i:Nat} {f:FV},(mkF ⟨tv,nilS,nilS,nilS,nilS⟩ mo0 [] [])[i]?=some f→f.bi=0∧f.cell=i + 2∧i < 4∧f.v=nilS∧f.vs = []:=by
  intro i f h
  match i,h with
  | 0,h | 1,h | 2,h | 3,h =>
   simp only [mkF,mo0,gS,gZ,Option.some.injEq,List.flatMap_nil,List.map_nil] at h
   subst h
   exact ⟨rfl,rfl,by omega,rfl,rfl⟩
  | i + 4,h=>simp [mkF] at h
 have hown:own nilS = []:=rfl
 refine ⟨?_,?_,?_,?_,?_,?_,?_⟩
 ·intro i b h; obtain ⟨rfl,rfl⟩:=hB h; exact b3
 ·intro i j b c hne h h'; obtain ⟨rfl,rfl⟩:=hB h; obtain ⟨rfl,rfl⟩:=hB h'; exact absurd rfl hne
 ·intro i f h
  obtain ⟨h1,h2,h3,h4,h5⟩:=hF h
  refine ⟨rmB mb ⟨tv,nilS,nilS,nilS,nilS⟩ mo0,by rw [h1]; rfl,?_⟩
  rw [h2,h4]
  match i,h3 with
  | 0,_ | 1,_ | 2,_ | 3,_=>rfl
  | i + 4,h=>omega
 ·intro i f h; obtain ⟨h1,h2,h3,h4,h5⟩:=hF h; rw [h4,h5]; exact Vec.nil
 ·intro i k f b h h'; obtain ⟨h1,h2,h3,h4,h5⟩:=hF h; rw [h4,hown]; simp
 ·intro i j f g hne h h'; obtain ⟨h1,h2,h3,h4,h5⟩:=hF h; rw [h4,hown]; simp
 ·intro i j f g hne h h'
  obtain ⟨h1,h2,-⟩:=hF h
  obtain ⟨g1,g2,-⟩:=hF h'
  exact .inr (by omega)
end Go.Proofs.YtmihefbdghjeoaaGreat
namespace Go.Proofs.YtmihefbdghjeoaaGreat
open Go.HL
set_option maxRecDepth 10000
section
variable {H H':Heap} {bxs:List Bx} {fvs fvs':List FV}
theorem MB.sub (x:MB H bxs fvs) (g:Nat→Nat) (hg:∀ i j,i ≠ j→g i ≠ g j) (hs:∀ (i:Nat) (f:FV),fvs'[i]?=some f→fvs[g i]?=some f):MB H bxs fvs' :=
 ⟨x.blk,x.bne,fun i f h=>x.at' _ f (hs i f h),fun i f h=>x.vec _ f (hs i f h),fun i k f y h=>x.nb _ k f y (hs i f h),fun i j f g' n h h'=>x.dis _ _ f g' (hg i j n) (hs i f h) (hs j g' h'),fun i j f g' n h h'=>x.hc _ _ f g' (hg i j n) (hs i f h) (hs j g' h')⟩
theorem MB.add (x:MB H bxs fvs) (b:Bx) (hb:Blk H b.b b.t b.cs) (hn:b.b ∉ wrM bxs fvs) (gs:List FV) (hg:∀ (i:Nat) (f:FV),gs[i]?=some f→f.bi=bxs.length∧f.v=nilS∧f.vs = []∧b.cs[f.cell]?=some nilS)
  (hgc:∀ (i j:Nat) (f g:FV),i ≠ j→gs[i]?=some f→gs[j]?=some g→f.cell ≠ g.cell):MB H (bxs ++ [b]) (fvs ++ gs):=by
 have hown:own nilS = []:=rfl
 have hF:∀ {i:Nat} {f:FV},(fvs ++ gs)[i]?=some f→(i < fvs.length∧fvs[i]?=some f∧f.bi < bxs.length)∨(fvs.length≤i∧gs[i - fvs.length]?=some f):=by
  intro i f hf
  by_cases hi:i < fvs.length
  ·rw [List.getElem?_append_left hi] at hf
   obtain ⟨y,hy,-⟩:=x.at' i f hf
   exact .inl ⟨hi,hf,(List.getElem?_eq_some_iff.1 hy).1⟩
  ·rw [List.getElem?_append_right (by omega)] at hf
   exact .inr ⟨by omega,hf⟩
 have hB:∀ {i:Nat} {y:Bx},(bxs ++ [b])[i]?=some y→(i < bxs.length∧bxs[i]?=some y)∨(i=bxs.length∧y=b):=by
  intro i y hy
  by_cases hi:i < bxs.length
  ·rw [List.getElem?_append_left hi] at hy; exact .inl ⟨hi,hy⟩
  ·rw [List.getElem?_append_right (by omega)] at hy
   have:=(List.getElem?_eq_some_iff.1 hy).1
   simp only [List.length_singleton] at this
   have e:i - bxs.length=0:=by omega
   rw [e] at hy
   simp only [gZ,Option.some.injEq] at hy
   exact .inr ⟨by omega,hy.symm⟩
 refine ⟨?_,?_,?_,?_,?_,?_,?_⟩
 ·intro i y hy
  rcases hB hy with ⟨_,h⟩ | ⟨_,rfl⟩
  ·exact x.blk i y h
  ·exact hb
 ·intro i j y z hij hy hz
  rcases hB hy with ⟨_,h⟩ | ⟨e1,rfl⟩ <;> rcases hB hz with ⟨_,h'⟩ | ⟨e2,rfl⟩
  ·exact x.bne i j y z hij h h'
  ·exact fun e=>hn (by rw [← e]; exact mem_wr_box h)
  ·exact fun e=>hn (by rw [e]; exact mem_wr_box h')
  ·exact absurd (e1.trans e2.symm) hij
 ·intro i f hf
  rcases hF hf with ⟨_,h,h2⟩ | ⟨_,h⟩
  ·obtain ⟨y,h3,h4⟩:=x.at' i f h
   exact ⟨y,by rw [List.getElem?_append_left h2]; exact h3,h4⟩
  ·obtain ⟨a1,a2,a3,a4⟩:=hg _ _ h
   exact ⟨b,by rw [a1,List.getElem?_append_right (Nat.le_refl _),Nat.sub_self]; rfl,by rw [a2]; exact a4⟩
 ·intro i f hf
  rcases hF hf with ⟨_,h,_⟩ | ⟨_,h⟩
  ·exact x.vec i f h
  ·obtain ⟨a1,a2,a3,a4⟩:=hg _ _ h
   rw [a2,a3]; exact Vec.nil
 ·intro i k f y hf hy
  rcases hF hf with ⟨_,h,_⟩ | ⟨_,h⟩
  ·rcases hB hy with ⟨_,h'⟩ | ⟨_,rfl⟩
   ·exact x.nb i k f y h h'
   ·exact fun e=>hn (mem_wr_own h e)
  ·obtain ⟨a1,a2,a3,a4⟩:=hg _ _ h
   rw [a2,hown]; simp
 ·intro i j f g hij hf hg' y hy
  rcases hF hf with ⟨_,h,_⟩ | ⟨_,h⟩
  ·rcases hF hg' with ⟨_,h',_⟩ | ⟨_,h'⟩
   ·exact x.dis i j f g hij h h' y hy
   ·obtain ⟨a1,a2,a3,a4⟩:=hg _ _ h'
    rw [a2,hown]; simp
  ·obtain ⟨a1,a2,a3,a4⟩:=hg _ _ h
   rw [a2,hown] at hy; simp at hy
 ·intro i j f g hij hf hg'
  rcases hF hf with ⟨l1,h,hl⟩ | ⟨l1,h⟩ <;> rcases hF hg' with ⟨l2,h',hl'⟩ | ⟨l2,h'⟩
  ·exact x.hc i j f g hij h h'
  ·have:=(hg _ _ h').1; exact .inl (by omega)
  ·have:=(hg _ _ h).1; exact .inl (by omega)
  ·exact .inr (hgc _ _ f g (by omega) h h')
end
theorem MB.one {H:Heap} {b0 b1:Bx} {fvs:List FV} (x:MB H [b0,b1] fvs) (h0:∀ f ∈ fvs,f.bi=0):MB H [b0] fvs:=by
 have hB:∀ {i:Nat} {y:Bx},[b0][i]?=some y→[b0,b1][i]?=some y:=by
  intro i y h
  match i,h with
  | 0,h=>exact h
  | i + 1,h=>simp at h
 refine ⟨fun i y h=>x.blk i y (hB h),fun i j y z n h h'=>x.bne i j y z n (hB h) (hB h'),?_,x.vec,fun i k f y h h'=>x.nb i k f y h (hB h'),x.dis,x.hc⟩
 intro i f h
 obtain ⟨y,h1,h2⟩:=x.at' i f h
 have e:=h0 f (List.mem_of_getElem? h)
 rw [e] at h1 ⊢
 exact ⟨y,h1,h2⟩
def mk2 (w:MV) (m:Mo) (aps:List AP):List FV:=[⟨0,3,61,3,w.va,m.vars.flatMap vrC⟩,⟨0,4,43,8,w.pv,aps.flatMap apC⟩]
theorem wr_k2 {mb:Nat} {w:MV} {m:Mo} {aps:List AP} {y:Nat}:y ∈ wrM [rmB mb w m] (mk2 w m aps)↔y=mb∨y ∈ own w.va∨y ∈ own w.pv:=by simp [wrM,rmB,mk2]
structure RkS (zb:Nat) (H:Heap) (S:Nat→Prop) (mb:Nat) (w:MV) (m:Mo) (aps:List AP):Prop where
 mb':MB H [rmB mb w m] (mk2 w m aps)
 ap:Apart S H [rmB mb w m] (mk2 w m aps)
 ps:aps.map AP.p=m.procs
 pr:∀ a ∈ aps,APR H (fun y=>y ∉ wrM [rmB mb w m] (mk2 w m aps)∧y ≠ zb) a
def rpB (bb:Nat) (nm:Str) (number:Int) (lv rv nv xv:Value):Bx:=⟨bb,43,[sv nm,iv number,lv,iv 2,rv,nilS,nv,xv]⟩
structure RB (H:Heap) (S:Nat→Prop) (mb bb:Nat) (w:MV) (m:Mo) (aps:List AP) (nm:Str) (number:Int) (rv lv nv xv:Value) (s:Lo):Prop where
 mb':MB H [rmB mb w { m with vars:=s.V },rpB bb nm number lv rv nv xv] (mk2 w { m with vars:=s.V } aps ++ bdF lv nv xv s)
 ap:Apart S H [rmB mb w { m with vars:=s.V },rpB bb nm number lv rv nv xv] (mk2 w { m with vars:=s.V } aps ++ bdF lv nv xv s)
section
variable {H H1:Heap} {S:Nat→Prop} {zb mb bb:Nat} {w:MV} {m:Mo} {aps:List AP} {nm:Str} {number:Int} {rv lv nv xv v':Value} {s:Lo}
theorem RkS.grow (x:RkS zb H S mb w m aps) (q:Fr [] H H1):RkS zb H1 S mb w m aps :=
 ⟨x.mb'.grow q,x.ap.grow q.size,x.ps,fun a ha=>(x.pr a ha).frame (Keeps.of_fr q (by simp))⟩
theorem wr_new {y:Nat} (hy:y ∈ wrM [rmB mb w { m with vars:=m.vars },rpB bb nm number nilS rv nilS nilS] (mk2 w { m with vars:=m.vars } aps ++ bdF nilS nilS nilS ⟨m.vars,[],[],[]⟩)):y ∈ wrM [rmB mb w m] (mk2 w m aps)∨y=bb:=by
 have hown:own nilS = []:=rfl
 unfold wrM at hy ⊢
 rw [List.mem_append] at hy ⊢
 rcases hy with h | h
 ·simp only [List.map_cons,List.map_nil,List.mem_cons,List.not_mem_nil,or_false] at h ⊢
  exact h.imp (fun h=>.inl h) (fun h=>h)
 ·rw [List.flatMap_append,List.mem_append] at h
  rcases h with h | h
  ·exact .inl (.inr h)
  ·simp only [bdF,List.flatMap_cons,List.flatMap_nil,hown,List.append_nil,List.not_mem_nil] at h
theorem RB.new (x:RkS zb H S mb w m aps) (hb:Blk H bb 43 [sv nm,iv number,nilS,iv 2,rv,nilS,nilS,nilS]) (hn:bb ∉ wrM [rmB mb w m] (mk2 w m aps)) (hS:¬ S bb) :
  RB H S mb bb w m aps nm number rv nilS nilS nilS ⟨m.vars,[],[],[]⟩:=by
 have key:=x.mb'.add (rpB bb nm number nilS rv nilS nilS) hb hn (bdF nilS nilS nilS ⟨m.vars,[],[],[]⟩) (by
  intro i f hf
  match i,hf with
  | 0,hf | 1,hf | 2,hf=>simp only [bdF,gS,gZ,Option.some.injEq] at hf; subst hf; exact ⟨rfl,rfl,rfl,rfl⟩
  | i + 3,hf=>simp [bdF] at hf) (by
  intro i j f g hij hf hg
  match i,hf with
  | 0,hf | 1,hf | 2,hf =>
   simp only [bdF,gS,gZ,Option.some.injEq] at hf; subst hf
   match j,hg with
   | 0,hg | 1,hg | 2,hg=>simp only [bdF,gS,gZ,Option.some.injEq] at hg; subst hg; first | exact absurd rfl hij | simp
   | j + 3,hg=>simp [bdF] at hg
  | i + 3,hf=>simp [bdF] at hf)
 refine ⟨key,⟨x.ap.1,?_⟩⟩
 intro y hy
 have h2:=wr_new hy
 rcases h2 with h | rfl
 ·exact x.ap.2 y h
 ·exact hS
theorem RB.grow {H':Heap} (x:RB H S mb bb w m aps nm number rv lv nv xv s) (q:Fr [] H H'):RB H' S mb bb w m aps nm number rv lv nv xv s:=⟨x.mb'.grow q,x.ap.grow q.size⟩
theorem RB.forms (x:RB H S mb bb w m aps nm number rv lv nv xv s):∃ a0 c0 a1 c1 a2 c2 a3 c3,w.va=.slice a0 s.V.length c0∧lv=.slice a1 s.L.length c1∧nv=.slice a2 s.N.length c2∧xv=.slice a3 s.X.length c3:=by
 have f:∀ {e:Nat} {y:Value} {ys:List Value},Vec H e 1 y ys→∃ a c,y=.slice a ys.length c:=by
  intro e y ys h
  obtain ⟨a,l,c,e,hl⟩:=h.len
  exact ⟨a,c,by rw [e]; congr 1; omega⟩
 obtain ⟨a0,n0,c0,e0,h0⟩:=(x.mb'.vec 0 _ rfl).len
 simp only [mk2,bdF,List.cons_append,List.nil_append,gS,gZ] at e0 h0
 rw [flat_len vrL] at h0
 obtain ⟨a1,c1,e1⟩:=f (x.mb'.vec 2 _ rfl)
 obtain ⟨a2,c2,e2⟩:=f (x.mb'.vec 3 _ rfl)
 obtain ⟨a3,c3,e3⟩:=f (x.mb'.vec 4 _ rfl)
 simp only [List.length_map] at e1 e2 e3
 exact ⟨a0,c0,a1,c1,a2,c2,a3,c3,by rw [e0]; congr 1; omega,e1,e2,e3⟩
theorem RB.appN (x:RB H S mb bb w m aps nm number rv lv nv xv s) {t:Str} (g1:Vec H1 9 1 v' (s.N.map sv ++ [sv t])) (g2:Fr (own nv) H H1) (g3:∀ y ∈ own v',y ∈ own nv∨H.size≤y) :
  wr H1 ⟨bb,6,none⟩ v'=some (setH H1 ⟨bb,6,none⟩ v')∧RB (setH H1 ⟨bb,6,none⟩ v') S mb bb w m aps nm number rv lv v' xv { s with N:=s.N ++ [t] }∧FS S H (setH H1 ⟨bb,6,none⟩ v'):=by
 obtain ⟨w1,x1,q,ap⟩:=x.mb'.appS x.ap (i:=3) rfl rfl g1 g2 g3
 have e:mk2 w { m with vars:=s.V } aps ++ bdF lv v' xv { s with N:=s.N ++ [t] } = (mk2 w { m with vars:=s.V } aps ++ bdF lv nv xv s).set 3 { (⟨1,6,9,1,nv,s.N.map sv⟩:FV) with v:=v',vs:=s.N.map sv ++ [sv t] }:=by simp [bdF,mk2]
 exact ⟨w1,⟨by rw [e]; exact x1,by rw [e]; exact ap⟩,q⟩
theorem RB.appX (x:RB H S mb bb w m aps nm number rv lv nv xv s) {t:Int} (g1:Vec H1 3 1 v' (s.X.map iv ++ [iv t])) (g2:Fr (own xv) H H1) (g3:∀ y ∈ own v',y ∈ own xv∨H.size≤y) :
  wr H1 ⟨bb,7,none⟩ v'=some (setH H1 ⟨bb,7,none⟩ v')∧RB (setH H1 ⟨bb,7,none⟩ v') S mb bb w m aps nm number rv lv nv v' { s with X:=s.X ++ [t] }∧FS S H (setH H1 ⟨bb,7,none⟩ v'):=by
 obtain ⟨w1,x1,q,ap⟩:=x.mb'.appS x.ap (i:=4) rfl rfl g1 g2 g3
 have e:mk2 w { m with vars:=s.V } aps ++ bdF lv nv v' { s with X:=s.X ++ [t] } = (mk2 w { m with vars:=s.V } aps ++ bdF lv nv xv s).set 4 { (⟨1,7,3,1,xv,s.X.map iv⟩:FV) with v:=v',vs:=s.X.map iv ++ [iv t] }:=by simp [bdF,mk2]
 exact ⟨w1,⟨by rw [e]; exact x1,by rw [e]; exact ap⟩,q⟩
theorem RB.appL (x:RB H S mb bb w m aps nm number rv lv nv xv s) {t:Int} (g1:Vec H1 3 1 v' (s.L.map iv ++ [iv t])) (g2:Fr (own lv) H H1) (g3:∀ y ∈ own v',y ∈ own lv∨H.size≤y) :
  wr H1 ⟨bb,2,none⟩ v'=some (setH H1 ⟨bb,2,none⟩ v')∧RB (setH H1 ⟨bb,2,none⟩ v') S mb bb w m aps nm number rv v' nv xv { s with L:=s.L ++ [t] }∧FS S H (setH H1 ⟨bb,2,none⟩ v'):=by
 obtain ⟨w1,x1,q,ap⟩:=x.mb'.appS x.ap (i:=2) rfl rfl g1 g2 g3
 have e:mk2 w { m with vars:=s.V } aps ++ bdF v' nv xv { s with L:=s.L ++ [t] } = (mk2 w { m with vars:=s.V } aps ++ bdF lv nv xv s).set 2 { (⟨1,2,3,1,lv,s.L.map iv⟩:FV) with v:=v',vs:=s.L.map iv ++ [iv t] }:=by simp [bdF,mk2]
 exact ⟨w1,⟨by rw [e]; exact x1,by rw [e]; exact ap⟩,q⟩
theorem RB.appV (x:RB H S mb bb w m aps nm number rv lv nv xv s) {t:Vr} (g1:Vec H1 61 3 v' (s.V.flatMap vrC ++ vrC t)) (g2:Fr (own w.va) H H1) (g3:∀ y ∈ own v',y ∈ own w.va∨H.size≤y) :
  wr H1 ⟨mb,3,none⟩ v'=some (setH H1 ⟨mb,3,none⟩ v')∧RB (setH H1 ⟨mb,3,none⟩ v') S mb bb { w with va:=v' } m aps nm number rv lv nv xv { s with V:=s.V ++ [t] }∧FS S H (setH H1 ⟨mb,3,none⟩ v'):=by
 obtain ⟨w1,x1,q,ap⟩:=x.mb'.appS x.ap (i:=0) rfl rfl g1 g2 g3
 have e:mk2 { w with va:=v' } { m with vars:=s.V ++ [t] } aps ++ bdF lv nv xv { s with V:=s.V ++ [t] } = (mk2 w { m with vars:=s.V } aps ++ bdF lv nv xv s).set 0 { (⟨0,3,61,3,w.va,s.V.flatMap vrC⟩:FV) with v:=v',vs:=s.V.flatMap vrC ++ vrC t }:=by simp [bdF,mk2]
 exact ⟨w1,⟨by rw [e]; exact x1,by rw [e]; exact ap⟩,q⟩
end
end Go.Proofs.YtmihefbdghjeoaaGreat
namespace Go.Proofs.YtmihefbdghjeoaaGreat
open Go.HL
set_option maxRecDepth 10000
theorem Apart.top {H:Heap} {bxs:List Bx} {fvs:List FV}:Apart (fun y=>y < H.size∧y ∉ wrM bxs fvs) H bxs fvs:=⟨fun y h=>h.1,fun y hy h=>h.2 hy⟩
theorem Apart.sub {S S':Nat→Prop} {H:Heap} {bxs:List Bx} {fvs:List FV} (h:Apart S H bxs fvs) (hs:∀ y,S' y→S y):Apart S' H bxs fvs:=⟨fun y hy=>h.1 y (hs y hy),fun y hy e=>h.2 y hy (hs y e)⟩
section
variable {H:Heap} {S S':Nat→Prop} {zb mb bb:Nat} {w:MV} {m:Mo} {aps:List AP} {nm:Str} {number:Int} {rv lv nv xv:Value} {s:Lo}
theorem RB.top (x:RB H S mb bb w m aps nm number rv lv nv xv s):RB H (fun y=>y < H.size∧y ∉ wrM [rmB mb w { m with vars:=s.V },rpB bb nm number lv rv nv xv] (mk2 w { m with vars:=s.V } aps ++ bdF lv nv xv s)) mb bb w m aps nm number rv lv nv xv s:=⟨x.mb',.top⟩
theorem RB.sub (x:RB H S mb bb w m aps nm number rv lv nv xv s) (hs:∀ y,S' y→S y):RB H S' mb bb w m aps nm number rv lv nv xv s:=⟨x.mb',x.ap.sub hs⟩
theorem RkS.sub (x:RkS zb H S mb w m aps) (hs:∀ y,S' y→S y):RkS zb H S' mb w m aps:=⟨x.mb',x.ap.sub hs,x.ps,x.pr⟩
theorem RB.var (x:RB H S mb bb w m aps nm number rv lv nv xv s) {i:Nat} (hi:i < s.V.length):∃ a o c,w.va=.slice (some ⟨a,o,none⟩) s.V.length c∧cellH H ⟨mb,3,none⟩=some (.slice (some ⟨a,o,none⟩) s.V.length c)∧cellH H ⟨a,o + i * 3,none⟩=some (sv (s.V.getD i ⟨[],0,0⟩).name):=by
 have vv:=x.mb'.vec 0 _ rfl
 have k3:=(x.mb'.blk 0 _ rfl).cell 3
 simp only [mk2,bdF,rmB,List.cons_append,List.nil_append,gS,gZ] at vv k3
 have hlen:(s.V.flatMap vrC).length=s.V.length * 3:=flat_len vrL _
 obtain ⟨a,o,n,c,h1,h2,h3⟩:=vv.cell (by intro e; rw [e] at hlen; simp at hlen; omega)
 rw [hlen] at h2
 have:n=s.V.length:=by omega
 subst this
 refine ⟨a,o,c,h1,by rw [k3,h1],?_⟩
 have hg:=getD_some (d:=(⟨[],0,0⟩:Vr)) hi
 have:=h3 (i * 3) (by rw [hlen]; omega)
 rw [this]
 have h4:=flat_get (f:=vrC) vrL (j:=0) (by omega) _ i _ hg
 rw [Nat.add_zero] at h4
 rw [h4]; rfl
end
section
variable {H:Heap} {S:Nat→Prop} {v:Value} {l:List Nd}
theorem nl_row {vb vo vc:Nat} (h:NL H S (.slice (some ⟨vb,vo,none⟩) l.length vc) l) {n:Nat} (hn:n < l.length):∃ x1 c1 x2 c2 x3 c3,AR H S ⟨nodeAt l n,.slice x1 (nodeAt l n).words.length c1,.slice x2 (nodeAt l n).nums.length c2,.slice x3 (nodeAt l n).kids.length c3⟩ ∧
   cellsH (cellH H) ⟨vb,vo + n * 5,none⟩ 0 5=some [iv (nodeAt l n).kind,.slice x1 (nodeAt l n).words.length c1,.slice x2 (nodeAt l n).nums.length c2,.slice x3 (nodeAt l n).kids.length c3,iv (nodeAt l n).pos] ∧
   cellH H ⟨vb,vo + n * 5 + 3,none⟩=some (.slice x3 (nodeAt l n).kids.length c3)∧cellH H ⟨vb,vo + n * 5,none⟩=some (iv (nodeAt l n).kind):=by
 obtain ⟨tb,to,tc,a,q1,q3,arn,ldn,d0,-,-,d3,-⟩:=h.row (getD_some (d:=nd0') hn)
 simp only [Value.slice.injEq,Option.some.injEq,Addr.mk.injEq,and_true,true_and] at q1
 obtain ⟨⟨rfl,rfl⟩,rfl⟩:=q1
 have hnd:l.getD n nd0'=nodeAt l n:=rfl
 rw [hnd] at q3 ldn d0
 obtain ⟨nn,x1,c1,x2,c2,x3,c3,rfl⟩:=arn.open
 simp only at q3 ldn d3
 subst q3
 exact ⟨x1,c1,x2,c2,x3,c3,arn,ldn,d3,d0⟩
theorem nl_top {vb vo vc:Nat} {K:List Int} (hK:K=(nodeAt l 0).kids) (hl0:0 < l.length) (h:NL H S (.slice (some ⟨vb,vo,none⟩) l.length vc) l):∃ ax cx,cellH H ⟨vb,vo + 3,none⟩=some (.slice ax K.length cx)∧∀ {i:Nat},i < K.length→∃ b o,ax=some ⟨b,o,none⟩∧cellH H ⟨b,o + i,none⟩=some (iv (K.getD i 0)):=by
 obtain ⟨x1,c1,x2,c2,x3,c3,arn,-,d3,-⟩:=nl_row h hl0
 rw [← hK] at d3
 simp only [Nat.zero_mul,Nat.add_zero] at d3
 have hk:=arn.k
 simp only at hk
 rw [← hK] at hk
 refine ⟨x3,c3,d3,fun hi=>?_⟩
 obtain ⟨b,o,c,e1,-,e3⟩:=hk.at1 (getD_some (d:=(0:Int)) hi)
 simp only [Value.slice.injEq,true_and] at e1
 exact ⟨b,o,e1.1,e3⟩
theorem Rd.dropk {H:Heap} {S:Nat→Prop} {xs:List Value} {ad:Option Addr} {cap d:Nat} (h:Rd H S 1 (.slice ad xs.length cap) xs) (hd:d≤xs.length) (hc:xs.length≤cap) :
  Rd H S 1 (.slice (if cap=d then ad else ad.map (·.add d)) (xs.length - d) (cap - d)) (xs.drop d):=by
 obtain ⟨a0,l0,c0,e,hl,hcell⟩:=h
 simp only [Value.slice.injEq] at e
 obtain ⟨rfl,rfl,rfl⟩:=e
 refine ⟨_,_,_,rfl,by rw [List.length_drop]; omega,fun i y hy=>?_⟩
 rw [List.getElem?_drop] at hy
 obtain ⟨b,o,rfl,hs,h3⟩:=hcell (d + i) y hy
 have hil:=(List.getElem?_eq_some_iff.1 hy).1
 rw [if_neg (by omega)]
 refine ⟨b,o + d,by simp [Addr.add],hs,?_⟩
 rw [Nat.add_assoc]; exact h3
theorem prcs_keep {n before:Nat} {m:Mo}:∀ c,(prcsM l n before c m).safe=m.safe∧(prcsM l n before c m).chans=m.chans
 | 0=>⟨rfl,rfl⟩
 | c + 1=>prcs_keep c
set_option maxHeartbeats 4000000 in
theorem r13Make_ok (h:NL H S v l) (hz:Sz l) (h0:typM l=⟨0,0⟩):CallF Tryz.prog 9 [v] H (fun r H'=>Fr [] H H'∧∃ w aps,r=.tuple #[.agg (moC w (modM l)).toArray,.bool true]∧MR H' (fun y=>y < H'.size) w l (modM l) aps) NoP:=by
 replace h:NL H (fun b=>b < H.size) v l:=h.mono (fun b _ hb=>hb)
 obtain ⟨hr,hs,hn4⟩:=n0_le4 h0
 have h0':check12 l=⟨0,0⟩:=by rw [← typ_eq hr]; exact h0
 obtain ⟨A0,hA0⟩:∃ A,A=H.push (.cells #[nilS,iv 0,nilS,nilS,nilS,nilS,.bool false] 30):=⟨_,rfl⟩
 have g0:Fr [] H A0:=by rw [hA0]; exact Fr.push
 have z0:A0.size=H.size + 1:=by rw [hA0]; simp
 have b0:Blk A0 H.size 30 [nilS,iv 0,nilS,nilS,nilS,nilS,.bool false]:=by rw [hA0]; exact Blk.new rfl
 have ht:=r12Check_spec (h.grow g0) hz hr
 rw [h0'] at ht
 obtain ⟨K,hK⟩:∃ K,K=(nodeAt l 0).kids:=⟨_,rfl⟩
 have hK8:=top_len hr
 rw [← hK] at hK8
 have hl0:=(right_facts hr).1
 have hl8:=(right_facts hr).2.1
 obtain ⟨vb,vo,vc,a0,hvv,q2,ar,ld0,k00,k01,k02,k03,k04⟩:=h.row (getD_some (d:=nd0') hl0)
 subst hvv
 have hnd:l.getD 0 nd0'=nodeAt l 0:=rfl
 rw [hnd] at q2
 obtain ⟨ak,ck,ekv⟩:=ar.k.len1
 rw [q2,← hK] at ekv
 have hkR:=ar.k
 rw [q2,← hK,ekv] at hkR
 rw [ekv] at k03
 simp only [Nat.zero_mul,Nat.add_zero] at k03
 have hkid:∀ {i:Nat},i < K.length→∃ b o,ak=some ⟨b,o,none⟩∧b < H.size∧cellH H ⟨b,o + i,none⟩=some (iv (K.getD i 0)):=by
  intro i hi
  obtain ⟨b,o,c,e1,e2,e3⟩:=hkR.at1 (getD_some (d:=(0:Int)) hi)
  simp only [Value.slice.injEq,true_and] at e1
  exact ⟨b,o,e1.1,e2,e3⟩
 have hll:(0:Int) < l.length:=by omega
 clear ld0 k00 k01 k02 k04
 refine callF_of Tryz.func9 rfl Tryz.ntmps9 Tryz.results9 (by decide) rfl ?_
 simp (disch:=omega) only [go_sem,↓cB,dB]
 try rw [← hA0]
 refine call_to ht ?_
 intro r1 H1 hv
 refine Hush.out ?_
 obtain ⟨f1,rfl⟩:=hv
 obtain ⟨A1,hA1⟩:∃ A,A=H1.push (.cells #[iv 0,iv 0] 36):=⟨_,rfl⟩
 have g1:Fr [] H1 A1:=by rw [hA1]; exact Fr.push
 have z1':A1.size=H1.size + 1:=by rw [hA1]; simp
 have b1:Blk A1 H1.size 36 [iv 0,iv 0]:=by rw [hA1]; exact Blk.new rfl
 have kf:=b1.cell 0
 simp only [gZ] at kf
 have z1:=f1.size
 obtain ⟨A3,hA3⟩:∃ A,A=A1.push (.cells #[.slice (some ⟨vb,vo,none⟩) l.length vc,iv 0,nilS,nilS,nilS,nilS,.bool false] 30):=⟨_,rfl⟩
 have g3:Fr [] A1 A3:=by rw [hA3]; exact Fr.push
 have b3:Blk A3 A1.size 30 [.slice (some ⟨vb,vo,none⟩) l.length vc,iv 0,nilS,nilS,nilS,nilS,.bool false]:=by rw [hA3]; exact Blk.new rfl
 have z3:A3.size=A1.size + 1:=by rw [hA3]; simp
 have gA:Fr [] H A3:=((g0.trans f1).trans g1).trans g3
 have hA1':Fr [] A0 A3:=(f1.trans g1).trans g3
 obtain ⟨mb,hmb⟩:∃ mb,mb=A1.size:=⟨_,rfl⟩
 rw [← hmb] at b3
 have hkA:=gA.cell' k03 (by simp)
 refine ⟨?_⟩
 simp (disch:=omega) only [go_sem,↓cB,dB,fltV]
 try rw [← hA1]
 try (simp (disch:=omega) only [go_sem,↓cB,dB,kf])
 try rw [← hA3]
 try rw [← hmb]
 obtain ⟨S',hS'⟩:∃ S':Nat→Prop,S'=fun y=>y < A3.size∧y ≠ mb:=⟨_,rfl⟩
 have hsl:∀ y,S' y→y < A3.size:=fun y hy=>by rw [hS'] at hy; exact hy.1
 have hsm:¬ S' mb:=by rw [hS']; exact fun h=>h.2 rfl
 have hsH:∀ y,y < A1.size→S' y:=fun y hy=>by rw [hS']; exact ⟨by omega,by omega⟩
 have x0:=rm_new0 b3
 have hlA:NL A3 S' (.slice (some ⟨vb,vo,none⟩) l.length vc) l:=(h.grow gA).mono (fun y hy _=>hsH y (by omega))
 have hin:∀ {i:Nat},i < K.length→∃ n:Nat,K.getD i 0=n∧n < l.length:=by
  intro i hi
  have e:(nodeAt l 0).kids=K.take i ++ K.getD i 0 :: K.drop (i + 1):=by
   rw [← hK,List.getD_eq_getElem?_getD,List.getElem?_eq_getElem hi]
   simp
  obtain ⟨item,e1,h1,h2,h3,h4⟩:=item_walk hr e
  exact ⟨item,h1,h2⟩
 clear hkid hkR ekv k03 hkA ar
 refine loop_by (fun k ρ H2=>∃ (i:Nat) (w:MV),k=K.length - i∧i≤K.length∧FS S' A3 H2∧MB H2 [rmB mb w ((K.take i).foldl (fun m k=>dclM m (nodeAt l k.toNat)) mo0)] (mkF w ((K.take i).foldl (fun m k=>dclM m (nodeAt l k.toNat)) mo0) [] []) ∧
   Apart S' H2 [rmB mb w ((K.take i).foldl (fun m k=>dclM m (nodeAt l k.toNat)) mo0)] (mkF w ((K.take i).foldl (fun m k=>dclM m (nodeAt l k.toNat)) mo0) [] [])∧w.tv=.slice (some ⟨vb,vo,none⟩) l.length vc ∧
   (ρ.get 0=.slice (some ⟨vb,vo,none⟩) l.length vc∧ρ.get 2=hp H.size∧ρ.get 5=hp mb∧ρ.get 6=iv i∧ρ.ds = [])) (k:=K.length) ?_ ?_
 ·refine ⟨0,⟨.slice (some ⟨vb,vo,none⟩) l.length vc,nilS,nilS,nilS,nilS⟩,rfl,by omega,FS.refl,x0,⟨hsl,?_⟩,rfl,by (simp (disch:=omega) only [go_sem,↓cB,dB,hmb])⟩
  intro y hy
  simp [wrM,mkF,own,rmB] at hy
  rw [hy]; exact hsm
 ·clear x0 b3
  rintro k ρ H2 ⟨i,w,rfl,hi,sF,x,ap,htv,r0,r2,r5,r6,rd⟩
  have hxi:(i:Int) + 1=((i + 1:Nat):Int):=by omega
  have nlH:=hlA.frame (fun y hy hl=>sF.same y hl hy)
  obtain ⟨ax,cx,k03,hkk⟩:=nl_top hK hl0 nlH
  by_cases hik:i < K.length
  ·obtain ⟨b,o,rfl,hc⟩:=hkk hik
   obtain ⟨n,hn,hnl⟩:=hin hik
   rw [hn] at hc
   obtain ⟨x1,c1,x2,c2,x3,c3,arn,ldn,-,-⟩:=nl_row nlH hnl
   obtain ⟨d1,d2,d3⟩:=dcl_facts (l:=l) (K.take i) mo0
   have d4:=dcl_safe (l:=l) (K.take i) mo0
   obtain ⟨M,hM⟩:∃ M,M=(K.take i).foldl (fun m k=>dclM m (nodeAt l k.toNat)) mo0:=⟨_,rfl⟩
   rw [← hM] at x ap d1 d2 d3 d4
   have hMn:(K.take (i + 1)).foldl (fun m k=>dclM m (nodeAt l k.toNat)) mo0=dclM M (nodeAt l n):=by
    rw [List.take_succ_eq_append_getElem hik,List.foldl_append,← hM,List.foldl_cons,List.foldl_nil]
    have:K[i]=(n:Int):=by rw [← hn,List.getD_eq_getElem?_getD,List.getElem?_eq_getElem hik]; rfl
    rw [this,Int.toNat_natCast]
   have hti:(K.take i).length≤800:=by rw [List.length_take]; omega
   have hf1:=List.length_filter_le (isVar l) (K.take i)
   have hf2:=List.length_filter_le (isCh l) (K.take i)
   have hlen:M.vars.length≤1000000∧M.chans.length≤1000000∧M.safe.length≤1000000:=by
    rw [d1,d2]
    simp only [mo0,List.length_append,List.length_nil,List.length_map] at d4 ⊢
    omega
   have hwk:=wok_of hr hnl
   have hnk:=(numsOk_of hr hnl).1
   have hsk:=safe_kid hr hnl
   have hcb:=ch_bits hr hnl
   have hfin:∀ {X:Heap} {ρ':En},RmQ S' H2 mb w.tv (dclM M (nodeAt l n)) X→(ρ'.get 0=.slice (some ⟨vb,vo,none⟩) l.length vc∧ρ'.get 2=hp H.size∧ρ'.get 5=hp mb∧ρ'.get 6=iv ((i + 1:Nat):Int)∧ρ'.ds = []) →
     ∃ k',k' < K.length - i∧∃ (i:Nat) (w:MV),k'=K.length - i∧i≤K.length∧FS S' A3 X∧MB X [rmB mb w ((K.take i).foldl (fun m k=>dclM m (nodeAt l k.toNat)) mo0)] (mkF w ((K.take i).foldl (fun m k=>dclM m (nodeAt l k.toNat)) mo0) [] []) ∧
      Apart S' X [rmB mb w ((K.take i).foldl (fun m k=>dclM m (nodeAt l k.toNat)) mo0)] (mkF w ((K.take i).foldl (fun m k=>dclM m (nodeAt l k.toNat)) mo0) [] [])∧w.tv=.slice (some ⟨vb,vo,none⟩) l.length vc ∧
      (ρ'.get 0=.slice (some ⟨vb,vo,none⟩) l.length vc∧ρ'.get 2=hp H.size∧ρ'.get 5=hp mb∧ρ'.get 6=iv i∧ρ'.ds = []):=by
    rintro X ρ' ⟨s6,w6,x6,ap6,htv6⟩ hρ
    exact ⟨K.length - (i + 1),by omega,i + 1,w6,rfl,by omega,sF.trans s6,by rw [hMn]; exact x6,by rw [hMn]; exact ap6,by rw [htv6,htv],hρ⟩
   clear hMn hM hti hf1 hf2 d1 d2 d3 d4
   unfold dclM at hfin
   obtain ⟨N,hN⟩:∃ N,N=nodeAt l n:=⟨_,rfl⟩
   rw [← hN] at arn ldn hwk hnk hsk hcb hfin
   obtain ⟨G,hG⟩:∃ A,A=H2.push (.cells #[iv N.kind,.slice x1 N.words.length c1,.slice x2 N.nums.length c2,.slice x3 N.kids.length c3,iv N.pos] 47):=⟨_,rfl⟩
   have gN:Fr [] H2 G:=by rw [hG]; exact Fr.push
   have bN:Blk G H2.size 47 [iv N.kind,.slice x1 N.words.length c1,.slice x2 N.nums.length c2,.slice x3 N.kids.length c3,iv N.pos]:=by rw [hG]; exact Blk.new rfl
   have xG:=x.grow gN
   have apG:=ap.grow gN.size
   have sG:FS S' H2 G:=FS.of gN (by simp)
   have hfin2:∀ {m:Mo} {X:Heap},RmQ S' G mb w.tv m X→RmQ S' H2 mb w.tv m X:=fun ⟨a,b⟩=>⟨sG.trans a,b⟩
   have c0:=bN.cell 0
   have n1':=bN.cell 1
   have n2':=bN.cell 2
   have n3':=bN.cell 3
   simp only [gS,gZ] at c0 n1' n2' n3'
   have aw:=arn.w.frame (Keeps.of_fr gN (by simp))
   have au:=arn.u.frame (Keeps.of_fr gN (by simp))
   have ak':=arn.k.frame (Keeps.of_fr gN (by simp))
   simp only at aw au ak'
   obtain ⟨a1,c1',a2,c2',a3,n3x,c3',a4,c4',f1',f2',f3',f4'⟩:=rm_lens xG
   have bm:=xG.blk 0 _ rfl
   have m2:=bm.cell 2
   have m3:=bm.cell 3
   have m5:=bm.cell 5
   simp only [rmB,gS,gZ] at m2 m3 m5
   rw [f1'] at m2
   rw [f2'] at m3
   rw [f4'] at m5
   have vcv:=xG.vec 0 _ rfl
   have vva:=xG.vec 1 _ rfl
   have vsa:=xG.vec 3 _ rfl
   simp only [mkF,gS,gZ] at vcv vva vsa
   rw [f1'] at vcv
   rw [f2'] at vva
   rw [f4'] at vsa
   have nbc:=xG.nb 0 0 _ _ rfl rfl
   have nbv:=xG.nb 1 0 _ _ rfl rfl
   have nbs:=xG.nb 3 0 _ _ rfl rfl
   simp only [mkF,rmB,gS,gZ] at nbc nbv nbs
   rw [f1'] at nbc
   rw [f2'] at nbv
   rw [f4'] at nbs
   have hll':(n:Int) < l.length:=by omega
   have hik':(i:Int) < K.length:=by omega
   obtain ⟨hl',hhl⟩:∃ hl',hl'=hldL G [⟨mb,2,none⟩,⟨mb,3,none⟩,⟨mb,5,none⟩]:=⟨_,rfl⟩
   have hok:heldOK hl' G:=by rw [hhl]; exact hld_ok
   have l2:lookA hl' ⟨mb,2,none⟩=some (.slice a1 M.chans.length c1'):=by rw [hhl]; exact hld_at m2 (by simp)
   have l3:lookA hl' ⟨mb,3,none⟩=some (.slice a2 M.vars.length c2'):=by rw [hhl]; exact hld_at m3 (by simp)
   have l5:lookA hl' ⟨mb,5,none⟩=some (.slice a4 M.safe.length c4'):=by rw [hhl]; exact hld_at m5 (by simp)
   have hmem:∀ ad v,lookA hl' ad=some v→ad.block=mb:=by
    intro ad v hv
    rw [hhl] at hv
    have:=hld_mem hv
    simp only [List.mem_cons,List.not_mem_nil,or_false] at this
    rcases this with h | h | h <;> rw [h]
   clear hhl bm m2 m3 m5 hkk hin arn nlH
   simp (disch:=omega) only [go_sem,↓cB,dB,r0,r2,r5,r6,rd,k03,hll,hik']
   try (simp (disch:=omega) only [go_sem,↓cB,dB,r0,r2,r5,r6,rd,k03,hll,hik',hc,ldn,hll'])
   try rw [← hG]
   by_cases e:N.kind=1
   ·rw [if_pos e] at hfin
    obtain ⟨hb2,hb3⟩:=hcb e
    have hwl:N.words.length=1:=by rw [hwk,e]; rfl
    have hnl4:N.nums.length=4:=by rw [hnk,e]; rfl
    obtain ⟨wb,wo,rfl,-,ec⟩:=rd_firstS aw (i:=0) (by omega)
    obtain ⟨ub,uo,rfl,-,uq0⟩:=rd_first au (i:=0) (by omega)
    obtain ⟨_,_,ue,-,uq1⟩:=rd_first au (i:=1) (by omega)
    simp only [Option.some.injEq,Addr.mk.injEq,and_true] at ue
    obtain ⟨rfl,rfl⟩:=ue
    obtain ⟨_,_,ue,-,uq2⟩:=rd_first au (i:=2) (by omega)
    simp only [Option.some.injEq,Addr.mk.injEq,and_true] at ue
    obtain ⟨rfl,rfl⟩:=ue
    obtain ⟨_,_,ue,-,uq3⟩:=rd_first au (i:=3) (by omega)
    simp only [Option.some.injEq,Addr.mk.injEq,and_true] at ue
    obtain ⟨rfl,rfl⟩:=ue
    have ew0:N.words.getD 0 []=w0 N:=rfl
    have e0:N.nums.getD 0 0=n0 N:=rfl
    have e1':N.nums.getD 1 0=n1 N:=rfl
    have e2':N.nums.getD 2 0=n2 N:=rfl
    have e3':N.nums.getD 3 0=n3 N:=rfl
    rw [Nat.add_zero,ew0] at ec
    rw [Nat.add_zero,e0] at uq0
    rw [e1'] at uq1
    rw [e2'] at uq2
    rw [e3'] at uq3
    simp (disch:=omega) only [go_sem,↓cB,dB,r0,r2,r5,r6,rd,c0,e]
    refine draw1 (lk [(0,false),(1,false),(2,true),(3,true),(4,true),(5,true),(6,true),(7,true),(8,true),(9,true),(10,true),(11,true),(12,true),(13,true),(14,true),(15,true),(16,true),(17,true),(18,true),(19,true),(20,true),(21,true),(22,true),(23,true),(24,true)] (.act 25 (.actd 26 (lk [(27,true)] (.actd 28 .fin))) .non)) T.mixed hl' hok ?_
    try (simp (disch:=omega) only [go_sem,↓cB,dB,r0,r2,r5,r6,rd,l2,n1',n2',n3',ec,uq0,uq1,uq2,uq3,hb2,hb3])
    try refine held_by hok ?_
    try (simp (disch:=omega) only [go_sem,↓cB,dB,r0,r2,r5,r6,rd,l2,n1',n2',n3',ec,uq0,uq1,uq2,uq3,hb2,hb3])
    try refine held_by (hld_fr hok (Fr.push (F:=[])) (by simp)) ?_
    try (simp (disch:=omega) only [go_sem,↓cB,dB,r0,r2,r5,r6,rd,l2,n1',n2',n3',ec,uq0,uq1,uq2,uq3,hb2,hb3])
    refine app_lit (n:=1) (new:=chC (chO N)) T.el25 rfl vcv (one_all rfl) rfl (by intro a' l c e; simp only [Value.slice.injEq] at e; obtain ⟨_,rfl,_⟩:=e; omega) ?_
    intro v' H4 g1 g2 g3 g4
    refine Hush.out ?_
    obtain ⟨aa,cc,rfl⟩:=g4 _ _ _ rfl
    have hok2:=hld_fr hok g2 (fun ad v hv=>by rw [hmem ad v hv]; exact nbc)
    obtain ⟨w1,q1⟩:=rm_chan xG apG (c:=chO N) g1 (by rw [f1']; exact g2) (by rw [f1']; exact g3)
    obtain ⟨X,hX⟩:∃ X,X=setH H4 ⟨mb,2,none⟩ (.slice aa (M.chans.length + 1) cc):=⟨_,rfl⟩
    rw [← hX] at w1 q1
    refine ⟨?_⟩
    try refine held_by hok2 ?_
    try (simp (disch:=omega) only [go_sem,↓cB,dB,r0,r2,r5,r6,rd,l2,w1])
    try refine held_by hok2 ?_
    try (simp (disch:=omega) only [go_sem,↓cB,dB,r0,r2,r5,r6,rd,l2,w1])
    exact fin (hfin (hfin2 q1) (by (simp (disch:=omega) only [go_sem,↓cB,dB,r0,r2,r5,r6,rd,hxi])))
   rw [if_neg e] at hfin
   have e1:=e
   clear e
   by_cases e:N.kind=2
   ·rw [if_pos e] at hfin
    have hwl:N.words.length=1:=by rw [hwk,e]; rfl
    have hnl4:N.nums.length=2:=by rw [hnk,e]; rfl
    obtain ⟨wb,wo,rfl,-,ec⟩:=rd_firstS aw (i:=0) (by omega)
    obtain ⟨ub,uo,rfl,-,uq0⟩:=rd_first au (i:=0) (by omega)
    obtain ⟨_,_,ue,-,uq1⟩:=rd_first au (i:=1) (by omega)
    simp only [Option.some.injEq,Addr.mk.injEq,and_true] at ue
    obtain ⟨rfl,rfl⟩:=ue
    have ew0:N.words.getD 0 []=w0 N:=rfl
    have e0:N.nums.getD 0 0=n0 N:=rfl
    have e1':N.nums.getD 1 0=n1 N:=rfl
    rw [Nat.add_zero,ew0] at ec
    rw [Nat.add_zero,e0] at uq0
    rw [e1'] at uq1
    simp (disch:=omega) only [go_sem,↓cB,dB,r0,r2,r5,r6,rd,c0,e1,e]
    refine draw1 (lk [(0,false),(1,false),(2,true),(3,true),(4,true),(5,true),(6,true),(7,true),(8,true),(9,true),(10,true),(11,true),(12,true),(13,true),(14,true)] (.act 15 (.actd 16 (lk [(17,true)] (.actd 18 .fin))) .non)) T.mixed hl' hok ?_
    try (simp (disch:=omega) only [go_sem,↓cB,dB,r0,r2,r5,r6,rd,l3,n1',n2',n3',ec,uq0,uq1])
    try refine held_by hok ?_
    try (simp (disch:=omega) only [go_sem,↓cB,dB,r0,r2,r5,r6,rd,l3,n1',n2',n3',ec,uq0,uq1])
    try refine held_by (hld_fr hok (Fr.push (F:=[])) (by simp)) ?_
    try (simp (disch:=omega) only [go_sem,↓cB,dB,r0,r2,r5,r6,rd,l3,n1',n2',n3',ec,uq0,uq1])
    refine app_lit (n:=1) (new:=vrC (vrO N)) T.el26 rfl vva (one_all rfl) rfl (by intro a' l c e; simp only [Value.slice.injEq] at e; obtain ⟨_,rfl,_⟩:=e; omega) ?_
    intro v' H4 g1 g2 g3 g4
    refine Hush.out ?_
    obtain ⟨aa,cc,rfl⟩:=g4 _ _ _ rfl
    have hok2:=hld_fr hok g2 (fun ad v hv=>by rw [hmem ad v hv]; exact nbv)
    obtain ⟨w1,q1⟩:=rm_var xG apG (c:=vrO N) g1 (by rw [f2']; exact g2) (by rw [f2']; exact g3)
    obtain ⟨X,hX⟩:∃ X,X=setH H4 ⟨mb,3,none⟩ (.slice aa (M.vars.length + 1) cc):=⟨_,rfl⟩
    rw [← hX] at w1 q1
    refine ⟨?_⟩
    try refine held_by hok2 ?_
    try (simp (disch:=omega) only [go_sem,↓cB,dB,r0,r2,r5,r6,rd,l3,w1])
    try refine held_by hok2 ?_
    try (simp (disch:=omega) only [go_sem,↓cB,dB,r0,r2,r5,r6,rd,l3,w1])
    exact fin (hfin (hfin2 q1) (by (simp (disch:=omega) only [go_sem,↓cB,dB,r0,r2,r5,r6,rd,hxi])))
   rw [if_neg e] at hfin
   have e2:=e
   clear e
   by_cases e:N.kind=4
   ·rw [if_pos e] at hfin
    have hkl:=hsk e
    obtain ⟨kb,ko,rfl,-,kq⟩:=rd_first ak' (i:=0) hkl
    have e0:N.kids.getD 0 0=k0 N:=rfl
    rw [Nat.add_zero,e0] at kq
    simp (disch:=omega) only [go_sem,↓cB,dB,r0,r2,r5,r6,rd,c0,e1,e2,e]
    refine draw1 (lk [(0,false),(1,false),(2,true),(3,true),(4,true),(5,true)] (.act 6 (.actd 7 (lk [(8,true)] (.actd 9 .fin))) .non)) T.mixed hl' hok ?_
    try (simp (disch:=omega) only [go_sem,↓cB,dB,r0,r2,r5,r6,rd,l5,n1',n2',n3',kq])
    try refine held_by hok ?_
    try (simp (disch:=omega) only [go_sem,↓cB,dB,r0,r2,r5,r6,rd,l5,n1',n2',n3',kq])
    try refine held_by (hld_fr hok (Fr.push (F:=[])) (by simp)) ?_
    try (simp (disch:=omega) only [go_sem,↓cB,dB,r0,r2,r5,r6,rd,l5,n1',n2',n3',kq])
    refine app_lit1 T.el28 rfl vsa rfl (by simp; omega) ?_
    intro v' H4 g1 g2 g3 g4
    refine Hush.out ?_
    rw [List.length_map] at g4
    obtain ⟨aa,cc,rfl⟩:=g4
    have hok2:=hld_fr hok g2 (fun ad v hv=>by rw [hmem ad v hv]; exact nbs)
    obtain ⟨w1,q1⟩:=rm_safe xG apG (c:=k0 N) g1 (by rw [f4']; exact g2) (by rw [f4']; exact g3)
    obtain ⟨X,hX⟩:∃ X,X=setH H4 ⟨mb,5,none⟩ (.slice aa (M.safe.length + 1) cc):=⟨_,rfl⟩
    rw [← hX] at w1 q1
    refine ⟨?_⟩
    try refine held_by hok2 ?_
    try (simp (disch:=omega) only [go_sem,↓cB,dB,r0,r2,r5,r6,rd,l5,w1])
    try refine held_by hok2 ?_
    try (simp (disch:=omega) only [go_sem,↓cB,dB,r0,r2,r5,r6,rd,l5,w1])
    exact fin (hfin (hfin2 q1) (by (simp (disch:=omega) only [go_sem,↓cB,dB,r0,r2,r5,r6,rd,hxi])))
   rw [if_neg e] at hfin
   have e4:=e
   clear e
   by_cases e:N.kind=5
   ·rw [if_pos e] at hfin
    obtain ⟨w1,q1⟩:=rm_dead xG apG
    simp (disch:=omega) only [go_sem,↓cB,dB,r0,r2,r5,r6,rd,c0,e1,e2,e4,e,w1]
    exact fin (hfin (hfin2 q1) (by (simp (disch:=omega) only [go_sem,↓cB,dB,r0,r2,r5,r6,rd,hxi])))
   rw [if_neg e] at hfin
   simp (disch:=omega) only [go_sem,↓cB,dB,r0,r2,r5,r6,rd,c0,e1,e2,e4,e]
   exact fin (hfin (hfin2 ⟨FS.refl,w,xG,apG,rfl⟩) (by (simp (disch:=omega) only [go_sem,↓cB,dB,r0,r2,r5,r6,rd,hxi])))
  obtain rfl:i=K.length:=by omega
  rw [List.take_length] at x ap
  have hdm:K.foldl (fun m k=>dclM m (nodeAt l k.toNat)) mo0=dclsM l K:=rfl
  rw [hdm] at x ap
  obtain ⟨M,hM⟩:∃ M,M=dclsM l K:=⟨_,rfl⟩
  rw [← hM] at x ap
  obtain ⟨a1,c1',a2,c2',a3,n3x,c3',a4,c4',f1',f2',f3',f4'⟩:=rm_lens x
  have k3:=(x.blk 0 _ rfl).cell 3
  simp only [rmB,gS,gZ] at k3
  rw [f2'] at k3
  obtain ⟨w1,x1,q1⟩:=x.put (k:=0) (i:=1) rfl (by simp [rmB]) (fun j f hf h1=>by
   match j,hf with
   | 0,hf | 1,hf | 2,hf | 3,hf =>
    simp only [mkF,gS,gZ,Option.some.injEq] at hf
    subst hf
    simp
   | j + 4,hf=>simp [mkF] at hf) (iv M.vars.length)
  obtain ⟨X,hX⟩:∃ X,X=setH H2 ⟨mb,1,none⟩ (iv M.vars.length):=⟨_,rfl⟩
  have eb:(rmB mb w M).b=mb:=rfl
  rw [eb] at w1 x1 q1
  rw [← hX] at w1 x1 q1
  have sX:FS S' A3 X:=sF.trans (FS.of q1 (by simp only [List.mem_singleton]; rintro b rfl; exact hsm))
  obtain ⟨m0,hm0⟩:∃ m0:Mo,m0 = { M with globals:=M.vars.length }:=⟨_,rfl⟩
  have x2:MB X [rmB mb w m0] (mkF w m0 [] []):=by rw [hm0]; exact x1
  have xk:MB X [rmB mb w m0] (mk2 w m0 []):=x2.sub (fun i=>i + 1) (by intro i j h; omega) (by
   intro i f hf
   match i,hf with
   | 0,hf | 1,hf=>exact hf
   | i + 2,hf=>simp [mk2] at hf)
  obtain ⟨S2,hS2⟩:∃ S2:Nat→Prop,S2=fun y=>y < X.size∧y ∉ wrM [rmB mb w m0] (mk2 w m0 []):=⟨_,rfl⟩
  have xK:RkS H.size X S2 mb w m0 []:=by
   refine ⟨xk,by rw [hS2]; exact Apart.top,?_,by simp⟩
   show []=m0.procs
   rw [hm0,hM]; unfold dclsM; rw [(dcl_facts K mo0).2.2]; rfl
  have own2:∀ (i:Nat) (f:FV),(mkF w m0 [] [])[i]?=some f→i ≠ 1→i ≠ 2→∀ y ∈ own f.v,S2 y∧y ≠ H.size:=by
   intro i f hf h1 h2 y hy
   have hF:mkF w m0 [] []=mkF w M [] []:=by rw [hm0]; rfl
   refine ⟨?_,?_⟩
   ·rw [hS2]
    refine ⟨(x2.vec i _ hf).lt y hy,?_⟩
    rw [wr_k2]
    rintro (rfl | h | h)
    ·exact x2.nb i 0 _ _ hf rfl hy
    ·exact x2.dis i 1 _ _ h1 hf rfl y hy h
    ·exact x2.dis i 2 _ _ h2 hf rfl y hy h
   ·rintro rfl
    rw [hF] at hf
    exact ap.2 _ (mem_wr_own hf hy) (hsH _ (by omega))
  have chR:Rd X (fun y=>S2 y∧y ≠ H.size) 5 w.cv (m0.chans.flatMap chC):=Rd.of_vec (x2.vec 0 _ rfl) (own2 0 _ rfl (by omega) (by omega))
  have saR:Rd X (fun y=>S2 y∧y ≠ H.size) 1 w.sa (m0.safe.map iv):=Rd.of_vec (x2.vec 3 _ rfl) (own2 3 _ rfl (by omega) (by omega))
  have hS'2:∀ y,S' y→S2 y:=by
   intro y hy
   rw [hS2]
   refine ⟨by have:=hsl y hy; have:=sX.size; omega,?_⟩
   rw [wr_k2]
   intro h
   have hm:y ∈ wrM [rmB mb w M] (mkF w M [] []):=by
    rcases h with rfl | h | h
    ·exact mem_wr_box (i:=0) (b:=rmB y w M) rfl
    ·exact mem_wr_own (i:=1) (f:=⟨0,3,61,3,w.va,M.vars.flatMap vrC⟩) rfl h
    ·exact mem_wr_own (i:=2) (f:=⟨0,4,43,8,w.pv,([]:List AP).flatMap apC⟩) rfl h
   exact ap.2 y hm hy
  have hmo:itemsM l K 0 m0=modM l:=by rw [hm0,hM,hK]; rfl
  have hmi:MoI l [] 0 0 m0:=by rw [hm0,hM,hK]; exact moi_0 hr
  have hrs:S2 H.size:=hS'2 _ (hsH _ (by omega))
  have hSl:∀ y,S2 y→y < X.size:=fun y hy=>by rw [hS2] at hy; exact hy.1
  have gX:FS (fun y=>y < H.size) H X:=⟨by have:=gA.size; have:=sX.size; omega,fun y h1 h2=>by rw [sX.same y (by have:=gA.size; omega) (hsH y (by omega)),gA.same y h1 (by simp)]⟩
  have hH2:∀ y,y < H.size→S2 y:=fun y hy=>hS'2 _ (hsH _ (by omega))
  have bRX:Blk X H.size 30 [nilS,iv 0,nilS,nilS,nilS,nilS,.bool false]:=sX.blk (hA1'.blk b0 (by simp)) (hsH _ (by omega))
  have nl2:NL X (fun y=>S2 y∧y ≠ H.size) (.slice (some ⟨vb,vo,none⟩) l.length vc) l:=(h.frame (fun y hy hl=>gX.same y hl hy)).mono (fun y hy _=>⟨hH2 y hy,by omega⟩)
  have htv0:=htv
  simp (disch:=omega) only [go_sem,↓cB,dB,r0,r2,r5,r6,rd,k03,hll,k3,w1]
  clear x x1 w1 x2 xk own2 q1 hS2 hS'2 hX hM hdm ap sF sX nlH k03 hkk k3 f1' f2' f3' f4' hm0
  refine loop_by (fun k ρ H4=>∃ (j before:Nat) (m:Mo) (w':MV) (aps:List AP),k=K.length - j∧j≤K.length∧FS S2 X H4∧RkS H.size H4 S2 mb w' m aps∧(w'.tv=.slice (some ⟨vb,vo,none⟩) l.length vc∧w'.cv=w.cv∧w'.sa=w.sa)∧(m.safe=m0.safe∧m.chans=m0.chans)∧MoI l (K.take j) before 0 m∧itemsM l (K.drop j) before m=modM l ∧
    (ρ.get 0=.slice (some ⟨vb,vo,none⟩) l.length vc∧ρ.get 2=hp H.size∧ρ.get 5=hp mb∧ρ.get 8=iv before∧ρ.get 9=iv j∧ρ.ds = [])) (k:=K.length) ?_ ?_
  ·exact ⟨0,0,m0,w,[],rfl,by omega,FS.refl,xK,⟨htv0,rfl,rfl⟩,⟨rfl,rfl⟩,hmi,hmo,by (simp (disch:=omega) only [go_sem,↓cB,dB,r0,r2,r5,r6,rd])⟩
  ·clear xK hmo hmi r0 r2 r5 r6 rd htv htv0
   rintro k ρ H4 ⟨j,before,m,w',aps,rfl,hj,sF,x,⟨htv,hcv,hsa⟩,⟨hsf,hch⟩,hmi,hmo,r0,r2,r5,r8,r9,rd⟩
   have hxj:(j:Int) + 1=((j + 1:Nat):Int):=by omega
   have hxb:(before:Int) + 1=((before + 1:Nat):Int):=by omega
   have nl4:=nl2.frame (fun y hy hl=>sF.same y hl hy.1)
   obtain ⟨ax,cx,k03,hkk⟩:=nl_top hK hl0 nl4
   by_cases hjk:j < K.length
   rotate_left
   ·obtain rfl:j=K.length:=by omega
    rw [List.drop_length] at hmo
    have hmo:m=modM l:=hmo
    subst hmo
    have bR:Blk H4 H.size 30 [nilS,iv 0,nilS,nilS,nilS,nilS,.bool false]:=sF.blk bRX hrs
    have chR4:=chR.frame (fun y hy hl=>sF.same y hl hy.1)
    have saR4:=saR.frame (fun y hy hl=>sF.same y hl hy.1)
    rw [← hcv,← hch] at chR4
    rw [← hsa,← hsf] at saR4
    obtain ⟨b1',d1',e1'⟩:=chR4.len chL (by decide)
    obtain ⟨b2',n2',d2',e2',-⟩:=(x.mb'.vec 0 _ rfl).len
    obtain ⟨b3',n3',d3',e3',-⟩:=(x.mb'.vec 1 _ rfl).len
    obtain ⟨b4',d4',e4'⟩:=saR4.len1
    simp only [mk2,gS,gZ] at e2' e3'
    have hone:∀ u ∈ moC w' (modM l),oneC u=true:=by
     unfold moC
     rw [htv,e1',e2',e3',e4']
     exact one_all rfl
    obtain ⟨X9,e9,b9,f9⟩:=store_blk (P:=Tryz.prog) (ty:=30) (new:=moC w' (modM l)) bR rfl T.size30 hone
    have hmbz:∀ y,S2 y→y ∉ wrM [rmB mb w' (modM l)] (mk2 w' (modM l) aps):=fun y hy h=>x.ap.2 y h hy
    have x9:=x.mb'.frame f9 (fun y hy e=>by simp only [List.mem_singleton] at e; subst e; exact hmbz _ hrs hy)
    have kz:Keeps (fun y=>S2 y∧y ≠ H.size) H4 X9:=fun y hy hl=>f9.same y hl (by simpa using hy.2)
    have hmr:MR X9 (fun y=>y < X9.size) w' l (modM l) aps:=by
     refine ⟨?_,(chR4.frame kz).mono (fun y _ h=>h),Rd.of_vec (x9.vec 0 _ rfl) (fun y hy=>(x9.vec 0 _ rfl).lt y hy),Rd.of_vec (x9.vec 1 _ rfl) (fun y hy=>(x9.vec 1 _ rfl).lt y hy),(saR4.frame kz).mono (fun y _ h=>h),x.ps,fun a ha=>((x.pr a ha).frame (fun y hy hl=>f9.same y hl (by simpa using hy.2))).mono (fun y _ h=>h)⟩
     rw [htv]
     exact (nl4.frame kz).mono (fun y _ h=>h)
    have ldm:cellsH (cellH H4) ⟨mb,0,none⟩ 0 7=some [w'.tv,iv (modM l).globals,w'.cv,w'.va,w'.pv,w'.sa,.bool (modM l).dead]:=(x.mb'.blk 0 _ rfl).cells0
    have ld9:cellsH (cellH X9) ⟨H.size,0,none⟩ 0 7=some [w'.tv,iv (modM l).globals,w'.cv,w'.va,w'.pv,w'.sa,.bool (modM l).dead]:=b9.cells0
    have e9':storeA Tryz.prog H4 30 ⟨H.size,0,none⟩ (.agg #[w'.tv,iv (modM l).globals,w'.cv,w'.va,w'.pv,w'.sa,.bool (modM l).dead])=some X9:=e9
    have hF:Fr [] H X9:=by
     refine ⟨by have:=gX.size; have:=sF.size; have:=f9.size; omega,fun y h1 _=>?_⟩
     have:=gX.size
     have:=sF.size
     rw [f9.same y (by omega) (by simp; omega),sF.same y (by omega) (hH2 y h1),gX.same y h1 h1]
    simp (disch:=omega) only [go_sem,↓cB,dB,r0,r2,r5,r8,r9,rd,k03,hll]
    try (simp (disch:=omega) only [go_sem,↓cB,dB,r0,r2,r5,r8,r9,rd,k03,hll,ldm,e9',ld9])
    exact fin ⟨hF,w',aps,rfl,hmr⟩
   obtain ⟨b,o,rfl,hc⟩:=hkk hjk
   have hKe:(nodeAt l 0).kids=K.take j ++ K.getD j 0 :: K.drop (j + 1):=by
    rw [← hK,List.getD_eq_getElem?_getD,List.getElem?_eq_getElem hjk]
    simp
   obtain ⟨n,e,hn,hnl,hwn,hpost⟩:=item_walk hr hKe
   rw [hn] at hc hKe
   have hKd:K.drop j=(n:Int) :: K.drop (j + 1):=by
    rw [List.drop_eq_getElem_cons hjk,← hn,List.getD_eq_getElem?_getD,List.getElem?_eq_getElem hjk]; rfl
   have hKt:K.take (j + 1)=K.take j ++ [(n:Int)]:=by
    rw [List.take_succ_eq_append_getElem hjk,← hn,List.getD_eq_getElem?_getD,List.getElem?_eq_getElem hjk]; rfl
   rw [hKd] at hmo
   obtain ⟨x1,c1,x2,c2,x3,c3,arn,ldn,-,-⟩:=nl_row nl4 hnl
   obtain ⟨A5,hA5⟩:∃ A,A=H4.push (.cells #[iv (nodeAt l n).kind,.slice x1 (nodeAt l n).words.length c1,.slice x2 (nodeAt l n).nums.length c2,.slice x3 (nodeAt l n).kids.length c3,iv (nodeAt l n).pos] 47):=⟨_,rfl⟩
   have g5:Fr [] H4 A5:=by rw [hA5]; exact Fr.push
   have z5:A5.size=H4.size + 1:=by rw [hA5]; simp
   have b5:Blk A5 H4.size 47 [iv (nodeAt l n).kind,.slice x1 (nodeAt l n).words.length c1,.slice x2 (nodeAt l n).nums.length c2,.slice x3 (nodeAt l n).kids.length c3,iv (nodeAt l n).pos]:=by rw [hA5]; exact Blk.new rfl
   have x5:=x.grow g5
   have s5:FS S2 X A5:=sF.trans (FS.of g5 (by simp))
   have c50:=b5.cell 0
   simp only [gZ] at c50
   have hnx:=fun {c:Nat} {M:Mo} (x:MoI l (K.take j) before c M) (hc:c≤4)=>moi_next (k:=(n:Int)) x hc
   rw [← hKt] at hnx
   have hvK:isVar l (n:Int)=decide ((nodeAt l n).kind=2):=by simp [isVar]
   unfold itemsM at hmo
   simp only [Int.toNat_natCast] at hmo
   have hjk':(j:Int) < K.length:=by omega
   have hnl':(n:Int) < l.length:=by omega
   simp (disch:=omega) only [go_sem,↓cB,dB,r0,r2,r5,r8,r9,rd,k03,hll,hjk']
   try (simp (disch:=omega) only [go_sem,↓cB,dB,r0,r2,r5,r8,r9,rd,k03,hll,hjk',hc,ldn,hnl'])
   try rw [← hA5]
   by_cases hk2:(nodeAt l n).kind=2
   ·rw [if_pos hk2] at hmo
    have hm2:=hnx hmi (by omega)
    rw [hvK,decide_eq_true hk2,if_pos rfl] at hm2
    have hb0:=(moi_bef hmi hr hKe).2
    try (simp (disch:=omega) only [go_sem,↓cB,dB,r0,r2,r5,r8,r9,rd,c50,hk2,hxb])
    refine loop_by (fun k ρ H6=>A5=H6∧(ρ.get 0=.slice (some ⟨vb,vo,none⟩) l.length vc∧ρ.get 2=hp H.size∧ρ.get 5=hp mb∧ρ.get 8=iv ((before + 1:Nat):Int)∧ρ.get 9=iv j∧ρ.get 10=hp H4.size∧ρ.ds = [])) (k:=0) ?_ ?_
    ·exact ⟨rfl,by (simp (disch:=omega) only [go_sem,↓cB,dB,r0,r2,r5,r8,r9,rd,hxb])⟩
    ·rintro k ρ2 _ ⟨rfl,r0,r2,r5,r8,r9,r10,rd⟩
     simp (disch:=omega) only [go_sem,↓cB,dB,r0,r2,r5,r8,r9,r10,rd,c50,hk2]
     exact fin ⟨K.length - (j + 1),by omega,j + 1,before + 1,m,w',aps,rfl,by omega,s5,x5,⟨htv,hcv,hsa⟩,⟨hsf,hch⟩,hm2,hmo,by (simp (disch:=omega) only [go_sem,↓cB,dB,r0,r2,r5,r8,r9,r10,rd,hxj])⟩
   rw [if_neg hk2] at hmo
   by_cases hk3:(nodeAt l n).kind=3
   rotate_left
   ·rw [if_neg hk3] at hmo
    have hm2:=hnx hmi (by omega)
    rw [hvK,decide_eq_false hk2,if_neg (by simp)] at hm2
    try (simp (disch:=omega) only [go_sem,↓cB,dB,r0,r2,r5,r8,r9,rd,c50,hk2,hk3])
    refine loop_by (fun k ρ H6=>A5=H6∧(ρ.get 0=.slice (some ⟨vb,vo,none⟩) l.length vc∧ρ.get 2=hp H.size∧ρ.get 5=hp mb∧ρ.get 8=iv (before:Int)∧ρ.get 9=iv j∧ρ.get 10=hp H4.size∧ρ.ds = [])) (k:=0) ?_ ?_
    ·exact ⟨rfl,by (simp (disch:=omega) only [go_sem,↓cB,dB,r0,r2,r5,r8,r9,rd])⟩
    ·rintro k ρ2 _ ⟨rfl,r0,r2,r5,r8,r9,r10,rd⟩
     simp (disch:=omega) only [go_sem,↓cB,dB,r0,r2,r5,r8,r9,r10,rd,c50,hk3]
     exact fin ⟨K.length - (j + 1),by omega,j + 1,before,m,w',aps,rfl,by omega,s5,x5,⟨htv,hcv,hsa⟩,⟨hsf,hch⟩,hm2,hmo,by (simp (disch:=omega) only [go_sem,↓cB,dB,r0,r2,r5,r8,r9,r10,rd,hxj])⟩
   rw [if_pos hk3] at hmo
   have h4:=hn4 n hnl hk3
   have hnn:(nodeAt l n).nums.length=1:=by rw [(numsOk_of hr hnl).1,hk3]; rfl
   have hwl:(nodeAt l n).words.length=1:=by rw [wok_of hr hnl,hk3]; rfl
   obtain ⟨N,hN⟩:∃ N:Nat,N=(n0 (nodeAt l n)).toNat:=⟨_,rfl⟩
   have hNi:n0 (nodeAt l n)=(N:Int):=by omega
   rw [← hN] at hmo
   have h8:=kids_le8 hr hnl hwn
   obtain ⟨S3,hS3⟩:∃ S3:Nat→Prop,S3=fun y=>y < A5.size∧y ∉ wrM [rmB mb w' m] (mk2 w' m aps):=⟨_,rfl⟩
   have h23:∀ y,S2 y→S3 y:=fun y hy=>by rw [hS3]; exact ⟨x5.ap.1 y hy,fun h=>x5.ap.2 y h hy⟩
   have x5t:RkS H.size A5 S3 mb w' m aps:=by rw [hS3]; exact ⟨x5.mb',.top,x5.ps,x5.pr⟩
   have hnb:S3 H4.size:=by rw [hS3]; exact ⟨by omega,fun h=>by have:=x.mb'.lt _ h; omega⟩
   have aw:=(arn.w.frame (Keeps.of_fr g5 (by simp))).mono (S':=S3) (fun y hy _=>h23 y hy.1)
   have au:=(arn.u.frame (Keeps.of_fr g5 (by simp))).mono (S':=S3) (fun y hy _=>h23 y hy.1)
   have akd:=(arn.k.frame (Keeps.of_fr g5 (by simp))).mono (S':=S3) (fun y hy _=>h23 y hy.1)
   have akz:=(arn.k.frame (Keeps.of_fr g5 (by simp))).mono (S':=fun y=>S3 y∧y ≠ H.size) (fun y hy _=>⟨h23 y hy.1,hy.2⟩)
   have hkc:=arn.kc _ _ _ rfl
   simp only at aw au akd akz
   obtain ⟨wb,wo,rfl,hwS,ec⟩:=rd_firstS aw (i:=0) (by omega)
   obtain ⟨ub,uo,rfl,huS,uq⟩:=rd_first au (i:=0) (by omega)
   have ew0:(nodeAt l n).words.getD 0 []=w0 (nodeAt l n):=rfl
   have en0:(nodeAt l n).nums.getD 0 0=n0 (nodeAt l n):=rfl
   rw [Nat.add_zero,ew0] at ec
   rw [Nat.add_zero,en0,hNi] at uq
   have nl5:NL A5 S3 (.slice (some ⟨vb,vo,none⟩) l.length vc) l:=(nl4.grow g5).mono (fun y hy _=>h23 y hy.1)
   have chR5:=((chR.frame (fun y hy hl=>sF.same y hl hy.1)).frame (Keeps.of_fr g5 (by simp))).mono (S':=fun y=>S3 y∧y ≠ H.size) (fun y hy _=>⟨h23 y hy.1,hy.2⟩)
   rw [← hcv,← hch] at chR5
   have nl5z:NL A5 (fun y=>S3 y∧y ≠ H.size) (.slice (some ⟨vb,vo,none⟩) l.length vc) l:=(nl4.grow g5).mono (fun y hy _=>⟨h23 y hy.1,hy.2⟩)
   try (simp (disch:=omega) only [go_sem,↓cB,dB,r0,r2,r5,r8,r9,rd,c50,hk2,hk3])
   refine loop_by (fun k ρ H6=>∃ (c:Nat) (w2:MV) (aps2:List AP),k=N - c∧c≤N∧FS S3 A5 H6∧RkS H.size H6 S3 mb w2 (prcsM l n before c m) aps2∧(w2.tv=w'.tv∧w2.cv=w'.cv∧w2.sa=w'.sa)∧MoI l (K.take j) before c (prcsM l n before c m) ∧
     (ρ.get 0=.slice (some ⟨vb,vo,none⟩) l.length vc∧ρ.get 2=hp H.size∧ρ.get 5=hp mb∧ρ.get 8=iv before∧ρ.get 9=iv j∧ρ.get 10=hp H4.size∧ρ.get 11=iv c∧ρ.ds = [])) (k:=N) ?_ ?_
   ·exact ⟨0,w',aps,rfl,by omega,FS.refl,x5t,⟨rfl,rfl,rfl⟩,hmi,by (simp (disch:=omega) only [go_sem,↓cB,dB,r0,r2,r5,r8,r9,rd])⟩
   ·clear x5t x5 x k03 hkk hc ldn arn nl4 c50 r0 r2 r5 r8 r9 rd
    rintro k ρ3 H6 ⟨c,w2,aps2,rfl,hcN,sF6,x6,⟨htv2,hcv2,hsa2⟩,hm6,r0,r2,r5,r8,r9,r10,r11,rd⟩
    have hxc:(c:Int) + 1=((c + 1:Nat):Int):=by omega
    have k6:Keeps S3 A5 H6:=fun y hy hl=>sF6.same y hl hy
    have bn6:=sF6.blk b5 hnb
    have c60:=bn6.cell 0
    have c61:=bn6.cell 1
    have c62:=bn6.cell 2
    simp only [gS,gZ] at c60 c61 c62
    have ec6:=k6.cell hwS ec
    have uq6:=k6.cell huS uq
    by_cases hcl:c < N
    rotate_left
    ·obtain rfl:c=N:=by omega
     have hm3:=hnx hm6 (by omega)
     rw [hvK,decide_eq_false hk2,if_neg (by simp)] at hm3
     obtain ⟨hps,hpc⟩:=prcs_keep (l:=l) (n:=n) (before:=before) (m:=m) c
     simp (disch:=omega) only [go_sem,↓cB,dB,r0,r2,r5,r8,r9,r10,r11,rd,c60,c62,hk3,uq6]
     exact fin ⟨K.length - (j + 1),by omega,j + 1,before,_,w2,aps2,rfl,by omega,s5.trans (sF6.sub h23),x6.sub h23,⟨htv2.trans htv,hcv2.trans hcv,hsa2.trans hsa⟩,⟨hps.trans hsf,hpc.trans hch⟩,hm3,hmo,by (simp (disch:=omega) only [go_sem,↓cB,dB,r0,r2,r5,r8,r9,r10,r11,rd,hxj])⟩
    obtain ⟨m',hm'⟩:∃ m',m'=prcsM l n before c m:=⟨_,rfl⟩
    have hmn:prcsM l n before (c + 1) m=prcM l m' n c before:=by rw [hm']; rfl
    have hpk:=(prcs_keep (l:=l) (n:=n) (before:=before) (m:=m) c).2
    rw [← hm'] at x6 hm6 hpk
    have hb6:=moi_bef hm6 hr hKe
    have hjl:(K.take j).length≤800:=by rw [List.length_take]; omega
    have hv6:=hm6.vl
    have hp6:=hm6.pl
    have hnm6:=fun X=>moi_names hm6 hr hs hKe hnl hk3 hwn hpost X
    obtain ⟨Ar,hAr⟩:∃ A,A=H6.push (.cells #[.bool false,.bool true] 4):=⟨_,rfl⟩
    have gR:Fr [] H6 Ar:=by rw [hAr]; exact Fr.push
    have zR:Ar.size=H6.size + 1:=by rw [hAr]; simp
    have bRr:Blk Ar H6.size 4 [.bool false,.bool true]:=by rw [hAr]; exact Blk.new rfl
    obtain ⟨Ap,hAp⟩:∃ A,A=Ar.push (.cells #[sv (w0 (nodeAt l n)),iv c,nilS,iv 2,.slice (some ⟨H6.size,0,none⟩) 2 2,nilS,nilS,nilS] 43):=⟨_,rfl⟩
    have gP:Fr [] Ar Ap:=by rw [hAp]; exact Fr.push
    have zP':Ap.size=Ar.size + 1:=by rw [hAp]; simp
    have bP:Blk Ap Ar.size 43 [sv (w0 (nodeAt l n)),iv c,nilS,iv 2,.slice (some ⟨H6.size,0,none⟩) 2 2,nilS,nilS,nilS]:=by rw [hAp]; exact Blk.new rfl
    have gRP:=gR.trans gP
    have hWlt:∀ y ∈ wrM [rmB mb w2 m'] (mk2 w2 m' aps2),y < H6.size:=x6.mb'.lt
    have pb0:=RB.new (x6.grow gRP) bP (fun h=>by have:=hWlt _ h; omega) (fun h=>by have:=x6.ap.1 _ h; omega)
    obtain ⟨bb,hbb⟩:∃ bb,bb=Ar.size:=⟨_,rfl⟩
    obtain ⟨rv,hrv⟩:∃ rv,rv=Value.slice (some ⟨H6.size,0,none⟩) 2 2:=⟨_,rfl⟩
    rw [← hbb,← hrv] at pb0
    obtain ⟨S4,hS4⟩:∃ S4:Nat→Prop,S4=fun y=>y < Ap.size∧y ∉ wrM [rmB mb w2 { m' with vars:=m'.vars },rpB bb (w0 (nodeAt l n)) (c:Int) nilS rv nilS nilS] (mk2 w2 { m' with vars:=m'.vars } aps2 ++ bdF nilS nilS nilS ⟨m'.vars,[],[],[]⟩):=⟨_,rfl⟩
    have h34:∀ y,S3 y→S4 y:=fun y hy=>by rw [hS4]; exact ⟨pb0.ap.1 y hy,fun h=>pb0.ap.2 y h hy⟩
    have h4r:S4 H6.size:=by
     rw [hS4]
     refine ⟨by omega,fun h=>?_⟩
     rcases wr_new h with h | h
     ·have:=hWlt _ h; omega
     ·omega
    have h4o:∀ y,y < H6.size→y ∉ wrM [rmB mb w2 m'] (mk2 w2 m' aps2)→S4 y:=by
     intro y hy hn
     rw [hS4]
     refine ⟨by omega,fun h=>?_⟩
     rcases wr_new h with h | h
     ·exact hn h
     ·omega
    have h4b:¬ S4 bb:=by rw [hS4]; exact fun h=>h.2 (mem_wr_box (i:=1) (b:=rpB bb (w0 (nodeAt l n)) (c:Int) nilS rv nilS nilS) rfl)
    have pb1:RB Ap S4 mb bb w2 m' aps2 (w0 (nodeAt l n)) c rv nilS nilS nilS ⟨m'.vars,[],[],[]⟩:=by rw [hS4]; exact pb0.top
    clear pb0
    have hgl:=fun i=>gloM_len (V:=m'.vars) i
    simp (disch:=omega) only [go_sem,↓cB,dB,r0,r2,r5,r8,r9,r10,r11,rd,c60,c62,hk3,uq6]
    try (simp (disch:=omega) only [go_sem,↓cB,dB,r0,r2,r5,r8,r9,r10,r11,rd,c60,c61,c62,hk3,uq6,ec6])
    try rw [← hAr]
    try rw [← hAp]
    refine loop_by (fun k ρ H7=>∃ (i:Nat) (nv xv:Value),k=before - i∧i≤before∧FS S4 Ap H7∧RB H7 S4 mb bb w2 m' aps2 (w0 (nodeAt l n)) c rv nilS nv xv ⟨m'.vars,[],(gloM m'.vars i).1,(gloM m'.vars i).2⟩ ∧
      (ρ.get 0=.slice (some ⟨vb,vo,none⟩) l.length vc∧ρ.get 2=hp H.size∧ρ.get 5=hp mb∧ρ.get 8=iv before∧ρ.get 9=iv j∧ρ.get 10=hp H4.size∧ρ.get 11=iv c∧ρ.get 12=hp bb∧ρ.get 13=iv i∧ρ.ds = [])) (k:=before) ?_ ?_
    ·exact ⟨0,nilS,nilS,rfl,by omega,FS.refl,pb1,by (simp (disch:=omega) only [go_sem,↓cB,dB,r0,r2,r5,r8,r9,r10,r11,rd,hbb])⟩
    ·clear pb1 r0 r2 r5 r8 r9 r10 r11 rd c60 c61 c62 ec6 uq6
     rintro k ρ4 H7 ⟨i,nv,xv,rfl,hi,sF7,pb,r0,r2,r5,r8,r9,r10,r11,r12,r13,rd⟩
     have hxi:(i:Int) + 1=((i + 1:Nat):Int):=by omega
     by_cases hib:i < before
     ·obtain ⟨va,vo',vc',v1,v2,v3⟩:=pb.var (i:=i) (by simp only; omega)
      simp only at v1 v2 v3
      obtain ⟨a0',c0',a1',c1',a2',c2',a3',c3',f0,f1,f2,f3⟩:=pb.forms
      simp only at f0 f1 f2 f3
      subst f2 f3
      have k6':=(pb.mb'.blk 1 _ rfl).cell 6
      simp only [rpB,gS,gZ] at k6'
      have vN:=pb.mb'.vec 3 _ rfl
      simp only [mk2,bdF,List.cons_append,List.nil_append,gS,gZ] at vN
      have nbN:=pb.mb'.nb 3 1 _ _ rfl rfl
      simp only [mk2,bdF,rpB,List.cons_append,List.nil_append,gS,gZ] at nbN
      obtain ⟨hl2,hhl2⟩:∃ hl2,hl2=hldL H7 [⟨bb,6,none⟩]:=⟨_,rfl⟩
      have hok2:heldOK hl2 H7:=by rw [hhl2]; exact hld_ok
      have l6:lookA hl2 ⟨bb,6,none⟩=some (.slice a2' (gloM m'.vars i).1.length c2'):=by rw [hhl2]; exact hld_at k6' (by simp)
      have hmem:∀ ad v,lookA hl2 ad=some v→ad.block=bb:=by
       intro ad v hv
       rw [hhl2] at hv
       have:=hld_mem hv
       simp only [List.mem_singleton] at this
       rw [this]
      have hil2:i < m'.vars.length:=by omega
      simp (disch:=omega) only [go_sem,↓cB,dB,r0,r2,r5,r8,r9,r10,r11,r12,rd,r13]
      refine draw1 (lk [(0,false),(1,false),(2,true),(3,true),(4,true),(5,true),(6,true),(7,true)] (.act 8 (.actd 9 (lk [(10,true)] (.actd 11 .fin))) .non)) T.mixed hl2 hok2 ?_
      try (simp (disch:=omega) only [go_sem,↓cB,dB,r0,r2,r5,r8,r9,r10,r11,r12,rd,r13,l6,v2,v3])
      try refine held_by hok2 ?_
      try (simp (disch:=omega) only [go_sem,↓cB,dB,r0,r2,r5,r8,r9,r10,r11,r12,rd,r13,l6,v2,v3])
      try refine held_by (hld_fr hok2 (Fr.push (F:=[])) (by simp)) ?_
      try (simp (disch:=omega) only [go_sem,↓cB,dB,r0,r2,r5,r8,r9,r10,r11,r12,rd,r13,l6,v2,v3])
      refine app_lit1 T.el41 rfl vN rfl (by have:=(hgl i).1; simp; omega) ?_
      intro v' H8 g1' g2' g3' g4'
      refine Hush.out ?_
      rw [List.length_map] at g4'
      obtain ⟨aa,cc',rfl⟩:=g4'
      have hok3:=hld_fr hok2 g2' (fun ad v hv=>by rw [hmem ad v hv]; exact nbN)
      obtain ⟨wN,pbN,sN⟩:=pb.appN (t:=(m'.vars.getD i ⟨[],0,0⟩).name) g1' g2' g3'
      obtain ⟨X8,hX8⟩:∃ X,X=setH H8 ⟨bb,6,none⟩ (.slice aa ((gloM m'.vars i).1.length + 1) cc'):=⟨_,rfl⟩
      rw [← hX8] at wN pbN sN
      have k7:=(pbN.mb'.blk 1 _ rfl).cell 7
      simp only [rpB,gS,gZ] at k7
      have vX:=pbN.mb'.vec 4 _ rfl
      simp only [mk2,bdF,List.cons_append,List.nil_append,gS,gZ] at vX
      refine ⟨?_⟩
      try refine held_by hok3 ?_
      try (simp (disch:=omega) only [go_sem,↓cB,dB,r0,r2,r5,r8,r9,r10,r11,r12,rd,r13,l6,wN])
      try refine held_by hok3 ?_
      try (simp (disch:=omega) only [go_sem,↓cB,dB,r0,r2,r5,r8,r9,r10,r11,r12,rd,r13,l6,wN])
      try (simp (disch:=omega) only [go_sem,↓cB,dB,r0,r2,r5,r8,r9,r10,r11,r12,rd,r13,k7])
      refine app_lit1 T.el28 rfl vX rfl (by have:=(hgl i).2; simp; omega) ?_
      intro v'' H9 g1'' g2'' g3'' g4''
      refine Hush.out ?_
      rw [List.length_map] at g4''
      obtain ⟨ab,cb,rfl⟩:=g4''
      obtain ⟨wX,pbX,sX9⟩:=pbN.appX (t:=(i:Int)) g1'' g2'' g3''
      refine ⟨?_⟩
      try (simp (disch:=omega) only [go_sem,↓cB,dB,r0,r2,r5,r8,r9,r10,r11,r12,rd,r13,wX])
      exact fin ⟨before - (i + 1),by omega,i + 1,_,_,rfl,by omega,(sF7.trans sN).trans sX9,pbX,by (simp (disch:=omega) only [go_sem,↓cB,dB,r0,r2,r5,r8,r9,r10,r11,r12,rd,r13,hxi])⟩
     obtain rfl:i=before:=by omega
     obtain ⟨KK,hKK⟩:∃ KK,KK=(nodeAt l n).kids:=⟨_,rfl⟩
     obtain ⟨RL,hRL0⟩:∃ RL,RL=locM l KK (lo0 m' i):=⟨_,rfl⟩
     simp (disch:=omega) only [go_sem,dB,r0,r2,r5,r8,r9,r10,r11,r12,rd,r13]
     have hw':=hwn
     unfold walkM at hw'
     have hw2:walkK l (walkM l 18) KK (n + 1)=(e,true):=by rw [hKK]; exact hw'
     have hKn:∀ k ∈ KK,(n:Int) < k∧k < l.length:=fun k hk=>by rw [hKK] at hk; exact kid_rng hr hnl hk
     rw [← hKK] at akd akz h8 hkc
     have hkeep:∀ {H8:Heap},FS S4 Ap H8→Keeps S3 A5 H8:=by
      intro H8 q y hy hl
      rw [q.same y (by have:=sF6.size; omega) (h34 y hy),gRP.same y (by have:=sF6.size; omega) (by simp),sF6.same y hl hy]
     refine cut_at (fun ρ H8=>∃ (d:Nat) (w3:MV) (lv nv xv:Value) (s:Lo),RL=(KK.drop d,s)∧d≤KK.length∧FS S4 Ap H8∧RB H8 S4 mb bb w3 m' aps2 (w0 (nodeAt l n)) c rv lv nv xv s∧(w3.tv=w2.tv∧w3.cv=w2.cv∧w3.sa=w2.sa) ∧
       (ρ.get 0=.slice (some ⟨vb,vo,none⟩) l.length vc∧ρ.get 2=hp H.size∧ρ.get 5=hp mb∧ρ.get 8=iv i∧ρ.get 9=iv j∧ρ.get 10=hp H4.size∧ρ.get 11=iv c∧ρ.get 12=hp bb∧ρ.get 14=iv d∧ρ.ds = [])) ?_ ?_
     ·try (simp (disch:=omega) only [go_sem,↓cB,dB,r0,r2,r5,r8,r9,r10,r11,r12,rd,r13])
      refine loop_by (fun k ρ H8=>∃ (d:Nat) (w3:MV) (lv nv xv:Value) (s:Lo),k=KK.length - d∧d≤KK.length∧locM l (KK.drop d) s=RL∧FS S4 Ap H8∧RB H8 S4 mb bb w3 m' aps2 (w0 (nodeAt l n)) c rv lv nv xv s∧(w3.tv=w2.tv∧w3.cv=w2.cv∧w3.sa=w2.sa) ∧
       (s.V.length≤m'.vars.length + d∧s.N.length≤i + d∧s.X.length≤i + d∧s.L.length≤d)∧(ρ.get 0=.slice (some ⟨vb,vo,none⟩) l.length vc∧ρ.get 2=hp H.size∧ρ.get 5=hp mb∧ρ.get 8=iv i∧ρ.get 9=iv j∧ρ.get 10=hp H4.size∧ρ.get 11=iv c∧ρ.get 12=hp bb∧ρ.get 14=iv d∧ρ.ds = [])) (k:=KK.length) ?_ ?_
      ·exact ⟨0,w2,nilS,nv,xv,lo0 m' i,rfl,by omega,hRL0.symm,sF7,pb,⟨rfl,rfl,rfl⟩,⟨by simp [lo0],by have:=(hgl i).1; simp only [lo0]; omega,by have:=(hgl i).2; simp only [lo0]; omega,by simp [lo0]⟩,by (simp (disch:=omega) only [go_sem,↓cB,dB,r0,r2,r5,r8,r9,r10,r11,r12,rd,r13])⟩
      ·clear pb r0 r2 r5 r8 r9 r10 r11 r12 r13 rd sF7
       rintro k ρ5 H8 ⟨d,w3,lv,nv,xv,s,rfl,hd,hRL,sF8,pb,hw3,⟨b1,b2,b3,b4⟩,r0,r2,r5,r8,r9,r10,r11,r12,r14,rd⟩
       have hxd:(d:Int) + 1=((d + 1:Nat):Int):=by omega
       have kp:=hkeep sF8
       have c63:=(sF8.blk ((gRP.blk (sF6.blk b5 hnb) (by simp))) (h34 _ hnb)).cell 3
       simp only [gS,gZ] at c63
       rw [← hKK] at c63
       by_cases hdk:d < KK.length
       rotate_left
       ·obtain rfl:d=KK.length:=by omega
        simp (disch:=omega) only [go_sem,↓cB,dB,r0,r2,r5,r8,r9,r10,r11,r12,rd,r14,c63]
        exact fin ⟨KK.length,w3,lv,nv,xv,s,by rw [← hRL,List.drop_length]; rfl,by omega,sF8,pb,hw3,by (simp (disch:=omega) only [go_sem,↓cB,dB,r0,r2,r5,r8,r9,r10,r11,r12,rd,r14])⟩
       have hgk:=getD_some (d:=(0:Int)) (l:=KK) (i:=d) hdk
       have hkr:=hKn _ (List.mem_of_getElem? hgk)
       have hd1:KK.drop d=KK.getD d 0 :: KK.drop (d + 1):=by
        rw [List.drop_eq_getElem_cons hdk]; congr 1; simp [List.getD_eq_getElem?_getD,List.getElem?_eq_getElem hdk]
       obtain ⟨kb,ko,rfl,hkS,kq⟩:=rd_first (akd.frame kp) (i:=d) hdk
       obtain ⟨kn,hkn⟩:∃ kn:Nat,KK.getD d 0=kn:=⟨(KK.getD d 0).toNat,by omega⟩
       rw [hkn] at kq hd1 hkr
       rw [hd1] at hRL
       have hkl:kn < l.length:=by omega
       obtain ⟨y1,e1,y2,e2,y3,e3,ark,ldk,-,kd⟩:=nl_row (nl5.frame kp) hkl
       have hkl':(kn:Int) < l.length:=by omega
       have hdk':(d:Int) < KK.length:=by omega
       by_cases hv:(nodeAt l kn).kind=2
       rotate_left
       ·have hiv:isVar l (kn:Int)=false:=by unfold isVar; simp [hv]
        simp (disch:=omega) only [go_sem,↓cB,dB,r0,r2,r5,r8,r9,r10,r11,r12,rd,r14,c63,hdk']
        simp (disch:=omega) only [go_sem,↓cB,dB,r0,r2,r5,r8,r9,r10,r11,r12,rd,r14,c63,hdk',kq,hkl',kd,hv]
        exact fin ⟨d,w3,lv,nv,xv,s,by rw [← hRL,hd1]; unfold locM; rw [if_neg (by simp [hiv])],hd,sF8,pb,hw3,by (simp (disch:=omega) only [go_sem,↓cB,dB,r0,r2,r5,r8,r9,r10,r11,r12,rd,r14])⟩
       have hiv:isVar l (kn:Int)=true:=by unfold isVar; simp [hv]
       have hwk:(nodeAt l kn).words.length=1:=by rw [wok_of hr hkl,hv]; rfl
       have hnk:(nodeAt l kn).nums.length=2:=by rw [(numsOk_of hr hkl).1,hv]; rfl
       rw [hv] at ldk kd
       obtain ⟨A8,hA8⟩:∃ A,A=H8.push (.cells #[iv 2,.slice y1 (nodeAt l kn).words.length e1,.slice y2 (nodeAt l kn).nums.length e2,.slice y3 (nodeAt l kn).kids.length e3,iv (nodeAt l kn).pos] 47):=⟨_,rfl⟩
       have g8:Fr [] H8 A8:=by rw [hA8]; exact Fr.push
       have z8:A8.size=H8.size + 1:=by rw [hA8]; simp
       have b8:Blk A8 H8.size 47 [iv 2,.slice y1 (nodeAt l kn).words.length e1,.slice y2 (nodeAt l kn).nums.length e2,.slice y3 (nodeAt l kn).kids.length e3,iv (nodeAt l kn).pos]:=by rw [hA8]; exact Blk.new rfl
       have hnw:=pb.mb'.lt
       have pbt:=(pb.grow g8).top
       obtain ⟨S5,hS5⟩:∃ S5:Nat→Prop,S5=fun y=>y < A8.size∧y ∉ wrM [rmB mb w3 { m' with vars:=s.V },rpB bb (w0 (nodeAt l n)) (c:Int) lv rv nv xv] (mk2 w3 { m' with vars:=s.V } aps2 ++ bdF lv nv xv s):=⟨_,rfl⟩
       rw [← hS5] at pbt
       have h45:∀ y,S4 y→S5 y:=fun y hy=>by rw [hS5]; exact ⟨by have:=pb.ap.1 y hy; omega,fun h=>pb.ap.2 y h hy⟩
       have h5n:S5 H8.size:=by rw [hS5]; exact ⟨by omega,fun h=>by have:=hnw _ h; omega⟩
       have aw8:=(ark.w.frame (Keeps.of_fr g8 (by simp))).mono (S':=S5) (fun y hy _=>h45 y (h34 y hy))
       have au8:=(ark.u.frame (Keeps.of_fr g8 (by simp))).mono (S':=S5) (fun y hy _=>h45 y (h34 y hy))
       simp only at aw8 au8
       obtain ⟨wb',wo',rfl,hwS8,ec8⟩:=rd_firstS aw8 (i:=0) (by omega)
       obtain ⟨ub',uo',rfl,huS8,uq0⟩:=rd_first au8 (i:=0) (by omega)
       obtain ⟨_,_,ue,-,uq1⟩:=rd_first au8 (i:=1) (by omega)
       simp only [Option.some.injEq,Addr.mk.injEq,and_true] at ue
       obtain ⟨rfl,rfl⟩:=ue
       have ew8:(nodeAt l kn).words.getD 0 []=w0 (nodeAt l kn):=rfl
       have en8:(nodeAt l kn).nums.getD 0 0=n0 (nodeAt l kn):=rfl
       have en9:(nodeAt l kn).nums.getD 1 0=n1 (nodeAt l kn):=rfl
       rw [Nat.add_zero,ew8] at ec8
       rw [Nat.add_zero,en8] at uq0
       rw [en9] at uq1
       obtain ⟨a0',c0',a1',c1',a2',c2',a3',c3',f0,f1,f2,f3⟩:=pbt.forms
       subst f1 f2 f3
       have kL:=(pbt.mb'.blk 1 _ rfl).cell 2
       have kV:=(pbt.mb'.blk 0 _ rfl).cell 3
       simp only [rpB,rmB,gS,gZ] at kL kV
       rw [f0] at kV
       have vL:=pbt.mb'.vec 2 _ rfl
       simp only [mk2,bdF,List.cons_append,List.nil_append,gS,gZ] at vL
       simp (disch:=omega) only [go_sem,↓cB,dB,r0,r2,r5,r8,r9,r10,r11,r12,rd,r14,c63,hdk']
       simp (disch:=omega) only [go_sem,↓cB,dB,r0,r2,r5,r8,r9,r10,r11,r12,rd,r14,c63,hdk',kq,hkl',kd]
       try (simp (disch:=omega) only [go_sem,↓cB,dB,r0,r2,r5,r8,r9,r10,r11,r12,rd,r14,c63,hdk',kq,hkl',kd,ldk])
       try rw [← hA8]
       try (simp (disch:=omega) only [go_sem,↓cB,dB,r0,r2,r5,r8,r9,r10,r11,r12,rd,r14,kL,kV])
       refine app_lit1 T.el28 rfl vL rfl (by simp only [List.length_map]; omega) ?_
       intro v6 H9 g1' g2' g3' g4'
       refine Hush.out ?_
       rw [List.length_map] at g4'
       obtain ⟨a6,c6,rfl⟩:=g4'
       obtain ⟨w6,pb6,s6⟩:=pbt.appL (t:=(s.V.length:Int)) g1' g2' g3'
       obtain ⟨X6,hX6⟩:∃ X,X=setH H9 ⟨bb,2,none⟩ (.slice a6 (s.L.length + 1) c6):=⟨_,rfl⟩
       rw [← hX6] at w6 pb6 s6
       have k6':=(pb6.mb'.blk 1 _ rfl).cell 6
       simp only [rpB,gS,gZ] at k6'
       have vN:=pb6.mb'.vec 3 _ rfl
       have nbN:=pb6.mb'.nb 3 1 _ _ rfl rfl
       simp only [mk2,bdF,List.cons_append,List.nil_append,gS,gZ] at vN
       simp only [mk2,bdF,rpB,List.cons_append,List.nil_append,gS,gZ] at nbN
       have x1c:=(s6.blk b8 h5n).cell 1
       simp only [gS,gZ] at x1c
       have ec9:=Keeps.cell (S:=S5) (fun y hy hl=>s6.same y hl hy) hwS8 ec8
       obtain ⟨hl2,hhl2⟩:∃ hl2,hl2=hldL X6 [⟨bb,6,none⟩]:=⟨_,rfl⟩
       have hok2:heldOK hl2 X6:=by rw [hhl2]; exact hld_ok
       have l6:lookA hl2 ⟨bb,6,none⟩=some (.slice a2' s.N.length c2'):=by rw [hhl2]; exact hld_at k6' (by simp)
       have hmem:∀ ad v,lookA hl2 ad=some v→ad.block=bb:=by
        intro ad v hv
        rw [hhl2] at hv
        have:=hld_mem hv
        simp only [List.mem_singleton] at this
        rw [this]
       refine ⟨?_⟩
       simp (disch:=omega) only [go_sem,↓cB,dB,r0,r2,r5,r8,r9,r10,r11,r12,rd,r14,w6]
       refine draw1 (lk [(0,false),(1,false),(2,true),(3,true),(4,true),(5,true)] (.act 6 (.actd 7 (lk [(8,true)] (.actd 9 .fin))) .non)) T.mixed hl2 hok2 ?_
       try (simp (disch:=omega) only [go_sem,↓cB,dB,r0,r2,r5,r8,r9,r10,r11,r12,rd,r14,l6,x1c,ec9])
       try refine held_by hok2 ?_
       try (simp (disch:=omega) only [go_sem,↓cB,dB,r0,r2,r5,r8,r9,r10,r11,r12,rd,r14,l6,x1c,ec9])
       try refine held_by (hld_fr hok2 (Fr.push (F:=[])) (by simp)) ?_
       try (simp (disch:=omega) only [go_sem,↓cB,dB,r0,r2,r5,r8,r9,r10,r11,r12,rd,r14,l6,x1c,ec9])
       refine app_lit1 T.el41 rfl vN rfl (by simp only [List.length_map]; omega) ?_
       intro v7 H10 g1'' g2'' g3'' g4''
       refine Hush.out ?_
       rw [List.length_map] at g4''
       obtain ⟨a7,c7,rfl⟩:=g4''
       have hok3:=hld_fr hok2 g2'' (fun ad v hv=>by rw [hmem ad v hv]; exact nbN)
       obtain ⟨w7,pb7,s7⟩:=pb6.appN (t:=w0 (nodeAt l kn)) g1'' g2'' g3''
       obtain ⟨X7,hX7⟩:∃ X,X=setH H10 ⟨bb,6,none⟩ (.slice a7 (s.N.length + 1) c7):=⟨_,rfl⟩
       rw [← hX7] at w7 pb7 s7
       have k7:=(pb7.mb'.blk 1 _ rfl).cell 7
       have kV7:=(pb7.mb'.blk 0 _ rfl).cell 3
       simp only [rpB,rmB,gS,gZ] at k7 kV7
       rw [f0] at kV7
       have vX:=pb7.mb'.vec 4 _ rfl
       simp only [mk2,bdF,List.cons_append,List.nil_append,gS,gZ] at vX
       refine ⟨?_⟩
       try refine held_by hok3 ?_
       try (simp (disch:=omega) only [go_sem,↓cB,dB,r0,r2,r5,r8,r9,r10,r11,r12,rd,r14,l6,w7])
       try refine held_by hok3 ?_
       try (simp (disch:=omega) only [go_sem,↓cB,dB,r0,r2,r5,r8,r9,r10,r11,r12,rd,r14,l6,w7])
       try (simp (disch:=omega) only [go_sem,↓cB,dB,r0,r2,r5,r8,r9,r10,r11,r12,rd,r14,k7,kV7])
       refine app_lit1 T.el28 rfl vX rfl (by simp only [List.length_map]; omega) ?_
       intro v8 H11 g1' g2' g3' g4'
       refine Hush.out ?_
       rw [List.length_map] at g4'
       obtain ⟨a8,c8,rfl⟩:=g4'
       obtain ⟨w8,pb8,s8⟩:=pb7.appX (t:=(s.V.length:Int)) g1' g2' g3'
       obtain ⟨X8,hX8⟩:∃ X,X=setH H11 ⟨bb,7,none⟩ (.slice a8 (s.X.length + 1) c8):=⟨_,rfl⟩
       rw [← hX8] at w8 pb8 s8
       have s68:=(s6.trans s7).trans s8
       have kV8:=(pb8.mb'.blk 0 _ rfl).cell 3
       simp only [rmB,gS,gZ] at kV8
       rw [f0] at kV8
       have vV:=pb8.mb'.vec 0 _ rfl
       have nbV:=pb8.mb'.nb 0 0 _ _ rfl rfl
       simp only [mk2,bdF,List.cons_append,List.nil_append,gS,gZ] at vV
       simp only [mk2,bdF,rmB,List.cons_append,List.nil_append,gS,gZ] at nbV
       rw [f0] at vV nbV
       have b88:=s68.blk b8 h5n
       have x1d:=b88.cell 1
       have x2d:=b88.cell 2
       simp only [gS,gZ] at x1d x2d
       have k68:Keeps S5 A8 X8:=fun y hy hl=>s68.same y hl hy
       have ec10:=k68.cell hwS8 ec8
       have uq00:=k68.cell huS8 uq0
       have uq11:=k68.cell huS8 uq1
       obtain ⟨hl4,hhl4⟩:∃ hl4,hl4=hldL X8 [⟨mb,3,none⟩]:=⟨_,rfl⟩
       have hok4:heldOK hl4 X8:=by rw [hhl4]; exact hld_ok
       have l3:lookA hl4 ⟨mb,3,none⟩=some (.slice a0' s.V.length c0'):=by rw [hhl4]; exact hld_at kV8 (by simp)
       have hmem4:∀ ad v,lookA hl4 ad=some v→ad.block=mb:=by
        intro ad v hv
        rw [hhl4] at hv
        have:=hld_mem hv
        simp only [List.mem_singleton] at this
        rw [this]
       refine ⟨?_⟩
       try (simp (disch:=omega) only [go_sem,↓cB,dB,r0,r2,r5,r8,r9,r10,r11,r12,rd,r14,w8])
       refine draw1 (lk [(0,false),(1,false),(2,true),(3,true),(4,true),(5,true),(6,true),(7,true),(8,true),(9,true),(10,true),(11,true),(12,true),(13,true),(14,true)] (.act 15 (.actd 16 (lk [(17,true)] (.actd 18 .fin))) .non)) T.mixed hl4 hok4 ?_
       try (simp (disch:=omega) only [go_sem,↓cB,dB,r0,r2,r5,r8,r9,r10,r11,r12,rd,r14,l3,x1d,x2d,ec10,uq00,uq11])
       try refine held_by hok4 ?_
       try (simp (disch:=omega) only [go_sem,↓cB,dB,r0,r2,r5,r8,r9,r10,r11,r12,rd,r14,l3,x1d,x2d,ec10,uq00,uq11])
       try refine held_by (hld_fr hok4 (Fr.push (F:=[])) (by simp)) ?_
       try (simp (disch:=omega) only [go_sem,↓cB,dB,r0,r2,r5,r8,r9,r10,r11,r12,rd,r14,l3,x1d,x2d,ec10,uq00,uq11])
       refine app_lit (n:=1) (new:=vrC (vrO (nodeAt l kn))) T.el26 rfl vV (one_all rfl) rfl (by intro a' l c e; simp only [Value.slice.injEq] at e; obtain ⟨_,rfl,_⟩:=e; omega) ?_
       intro v9 H12 ga gb gc gd
       refine Hush.out ?_
       obtain ⟨a9,c9,rfl⟩:=gd _ _ _ rfl
       have hok5:=hld_fr hok4 gb (fun ad v hv=>by rw [hmem4 ad v hv]; exact nbV)
       obtain ⟨w9,pb9,s9⟩:=pb8.appV (t:=vrO (nodeAt l kn)) ga (by rw [f0]; exact gb) (by rw [f0]; exact gc)
       obtain ⟨X9,hX9⟩:∃ X,X=setH H12 ⟨mb,3,none⟩ (.slice a9 (s.V.length + 1) c9):=⟨_,rfl⟩
       rw [← hX9] at w9 pb9 s9
       refine ⟨?_⟩
       try refine held_by hok5 ?_
       try (simp (disch:=omega) only [go_sem,↓cB,dB,r0,r2,r5,r8,r9,r10,r11,r12,rd,r14,l3,w9])
       try refine held_by hok5 ?_
       try (simp (disch:=omega) only [go_sem,↓cB,dB,r0,r2,r5,r8,r9,r10,r11,r12,rd,r14,l3,w9])
       have s49:FS S4 H8 X9:=(FS.of g8 (by simp)).trans ((s68.trans s9).sub h45)
       refine fin ⟨KK.length - (d + 1),by omega,d + 1,_,_,_,_,_,rfl,by omega,?_,sF8.trans s49,pb9.sub h45,hw3,⟨by simp; omega,by simp; omega,by simp; omega,by simp; omega⟩,by (simp (disch:=omega) only [go_sem,↓cB,dB,r0,r2,r5,r8,r9,r10,r11,r12,rd,r14,hxd])⟩
       rw [← hRL]
       conv=>rhs; unfold locM
       rw [if_pos hiv]
       rfl
     ·clear pb r0 r2 r5 r8 r9 r10 r11 r12 r13 rd sF7
      rintro ρ5 H8 ⟨d,w3,lv,nv,xv,s,hRL,hd,sF8,pb,hw3,r0,r2,r5,r8,r9,r10,r11,r12,r14,rd⟩
      obtain ⟨htv3,hcv3,hsa3⟩:=hw3
      have kp:=hkeep sF8
      have c63:=(sF8.blk ((gRP.blk (sF6.blk b5 hnb) (by simp))) (h34 _ hnb)).cell 3
      simp only [gS,gZ] at c63
      rw [← hKK] at c63
      have nl8:=nl5.frame kp
      obtain ⟨ax8,cx8,k038,hkk8⟩:=nl_top hK hl0 nl8
      obtain ⟨b8',o8',rfl,hc8⟩:=hkk8 hjk
      rw [hn] at hc8
      have hL:=locM_eq (l:=l) KK (lo0 m' i)
      have hsh:=(shp_of hr hnl).prc hk3
      rw [← hKK] at hsh
      have hnm:=hnm6 s.X
      rw [← hKK,← hRL0,hRL] at hnm
      rw [← hRL0,hRL] at hL
      simp only [lo0] at hL hnm
      obtain ⟨hL1,hL2,hL3,hL4,hL5⟩:=hL
      have htw:(KK.takeWhile (isVar l)).length≤KK.length:=(List.takeWhile_prefix _).length_le
      have hNl:s.N.length≤1000000:=by rw [hL3,List.length_append,List.length_map,(hgl i).1]; omega
      have hX:s.X.length=s.N.length:=hL5 (by rw [(hgl i).1,(hgl i).2])
      have hwn1:=(walkM_ok 19 n e hnl hwn).1
      have hel:=(walkM_ok 19 n e hnl hwn).2.1
      obtain ⟨s',hs1,hs2,hs3⟩:=walk_drop (l:=l) (w:=walkM l 18) (fun i e h1 h2=>by have:=walkM_ok 18 i e h1 h2; exact ⟨this.1,this.2.1⟩) (isVar l) KK (n + 1) e (by omega) hw2
      rw [← hL1] at hs3
      obtain ⟨q,hq⟩:∃ q:Pr,q=⟨w0 (nodeAt l n),c,s.L,[],[],s.N,s.X⟩:=⟨_,rfl⟩
      obtain ⟨a0,ha0⟩:∃ a:AP,a=⟨withB q ⟨[false,true],[]⟩,lv,rv,nilS,nv,xv⟩:=⟨_,rfl⟩
      obtain ⟨mV,hmV⟩:∃ m2:Mo,m2 = { m' with vars:=s.V }:=⟨_,rfl⟩
      have xm:MB H8 [rmB mb w3 mV] (mk2 w3 mV aps2):=by
       rw [hmV]
       refine MB.one (b1:=rpB bb (w0 (nodeAt l n)) (c:Int) lv rv nv xv) (pb.mb'.sub (fun i=>i) (fun i j h=>h) (fun i f hf=>?_)) ?_
       ·rw [List.getElem?_append_left (List.getElem?_eq_some_iff.1 hf).1]; exact hf
       ·intro f hf
        simp only [mk2,List.mem_cons,List.not_mem_nil,or_false] at hf
        rcases hf with rfl | rfl <;> rfl
      have hsub:∀ y ∈ wrM [rmB mb w3 mV] (mk2 w3 mV aps2),y ∈ wrM [rmB mb w3 { m' with vars:=s.V },rpB bb (w0 (nodeAt l n)) (c:Int) lv rv nv xv] (mk2 w3 { m' with vars:=s.V } aps2 ++ bdF lv nv xv s):=by
       intro y hy
       rw [hmV,wr_k2] at hy
       rcases hy with rfl | h | h
       ·exact mem_wr_box (i:=0) (b:=rmB y w3 { m' with vars:=s.V }) rfl
       ·exact mem_wr_own (i:=0) (f:=⟨0,3,61,3,w3.va,s.V.flatMap vrC⟩) rfl h
       ·exact mem_wr_own (i:=1) (f:=⟨0,4,43,8,w3.pv,aps2.flatMap apC⟩) rfl h
      have hbw:bb ∈ wrM [rmB mb w3 { m' with vars:=s.V },rpB bb (w0 (nodeAt l n)) (c:Int) lv rv nv xv] (mk2 w3 { m' with vars:=s.V } aps2 ++ bdF lv nv xv s):=mem_wr_box (i:=1) (b:=rpB bb (w0 (nodeAt l n)) (c:Int) lv rv nv xv) rfl
      have h4z:S4 H.size:=h34 _ (h23 _ hrs)
      have hbbl:=(pb.mb'.blk 1 _ rfl).lt
      simp only [rpB] at hbbl
      obtain ⟨S8,hS8⟩:∃ S8:Nat→Prop,S8=fun y=>y < H8.size∧y ∉ wrM [rmB mb w3 mV] (mk2 w3 mV aps2)∧y ≠ bb∧y ≠ H.size:=⟨_,rfl⟩
      have h48:∀ y,S4 y→y ≠ H.size→S8 y:=by
       intro y hy hne
       rw [hS8]
       exact ⟨pb.ap.1 y hy,fun h=>pb.ap.2 y (hsub y h) hy,fun h=>h4b (h ▸ hy),hne⟩
      have hmbb:mb ≠ bb:=pb.mb'.bne 0 1 _ _ (by omega) rfl rfl
      have own8:∀ (i:Nat) (f:FV),2≤i→(mk2 w3 { m' with vars:=s.V } aps2 ++ bdF lv nv xv s)[i]?=some f→∀ y ∈ own f.v,S8 y:=by
       intro i f h2 hf y hy
       rw [hS8,hmV]
       refine ⟨(pb.mb'.vec i _ hf).lt y hy,?_,?_,?_⟩
       ·rw [wr_k2]
        rintro (rfl | h | h)
        ·exact pb.mb'.nb i 0 _ _ hf rfl hy
        ·exact pb.mb'.dis i 0 _ _ (by omega) hf rfl y hy h
        ·exact pb.mb'.dis i 1 _ _ (by omega) hf rfl y hy h
       ·rintro rfl; exact pb.mb'.nb i 1 _ _ hf rfl hy
       ·rintro rfl; exact pb.ap.2 _ (mem_wr_own hf hy) h4z
      have nl8z:NL H8 S8 w3.tv l:=by
       rw [htv3,htv2,htv]
       exact (nl5z.frame (fun y hy hl=>kp y hy.1 hl)).mono (fun y hy _=>h48 y (h34 y hy.1) hy.2)
      have ch8:Rd H8 S8 5 w3.cv (m'.chans.flatMap chC):=by
       rw [hcv3,hcv2,hpk]
       exact (chR5.frame (fun y hy hl=>kp y hy.1 hl)).mono (fun y hy _=>h48 y (h34 y hy.1) hy.2)
      obtain ⟨p1,d1,p2,d2,p3,d3,p4,d4,f0,f1,f2,f3⟩:=pb.forms
      obtain ⟨p5,n5,d5,f5,-⟩:=(pb.mb'.vec 1 _ rfl).len
      simp only [mk2,bdF,List.cons_append,List.nil_append,gS,gZ] at f5
      obtain ⟨p6,d6,f6⟩:=saR.len1
      have mt:MT H8 S8 w3 l m'.chans m'.globals m'.dead:=⟨nl8z,ch8,⟨_,_,_,f0⟩,⟨_,_,_,f5⟩,⟨_,_,_,by rw [hsa3,hsa2,hsa]; exact f6⟩⟩
      have bR8:=sF8.blk (gP.blk bRr (by simp)) h4r
      have vR8:Vec H8 4 1 rv ([false,true].map Value.bool):=by
       rw [hrv]; exact ⟨.inr ⟨H6.size,2,2,[],[],rfl,bR8,rfl,rfl,Nat.le_refl _⟩⟩
      have pv:PV H8 S8 q ⟨[false,true],[]⟩ a0:=by
       rw [ha0]
       refine ⟨⟨?_,?_,?_,?_,?_⟩,rfl⟩
       ·rw [hq]; exact Rd.of_vec (pb.mb'.vec 2 _ rfl) (own8 2 _ (by omega) rfl)
       ·rw [hq]
        refine Rd.of_vec vR8 (fun y hy=>?_)
        rw [hrv] at hy
        simp only [own,List.mem_singleton] at hy
        subst hy
        exact h48 _ h4r (by have:=gX.size; have:=sF.size; have:=sF6.size; omega)
       ·rw [hq]; exact Rd.of_vec (e:=45) Vec.nil (by simp [own])
       ·rw [hq]; exact Rd.of_vec (pb.mb'.vec 3 _ rfl) (own8 3 _ (by omega) rfl)
       ·rw [hq]; exact Rd.of_vec (pb.mb'.vec 4 _ rfl) (own8 4 _ (by omega) rfl)
      have hcl8:m'.chans.length≤1000000:=by
       rw [hm6.ch,List.length_map]
       have:=List.length_filter_le (isCh l) (nodeAt l 0).kids
       rw [← hK] at this
       rw [← hK]; omega
      have hrd:Rd H8 S8 1 (.slice (if c3=d then x3 else x3.map (·.add d)) (KK.length - d) (c3 - d)) ((KK.drop d).map iv):=by
       have h1:=akz.frame (fun y hy hl=>kp y hy.1 hl)
       have hlm:(KK.map iv).length=KK.length:=List.length_map ..
       have h2:=Rd.dropk (d:=d) (cap:=c3) (ad:=x3) (xs:=KK.map iv) (by rw [hlm]; exact h1) (by rw [hlm]; exact hd) (by rw [hlm]; exact hkc)
       rw [hlm,← List.map_drop] at h2
       exact h2.mono (fun y hy _=>h48 y (h34 y hy.1) hy.2)
      have sq:=sqR_of (r13_all (l:=l) (cs:=m'.chans) (q:=q) (g:=m'.globals) (d:=m'.dead) (by rw [hq]; exact hX) (by rw [hq]; exact hNl) hcl8 hz hr 18) (stat_up hr 18) (KK.drop d) (node:=(n:Int)) (t:=1) (f:=0) (s:=s') (e:=e) mt pv (fun y hy=>by rw [hS8] at hy; exact hy.1) hs2 hs3
       (by rw [hq]; exact hnm.sub hs1 (Nat.le_refl _)) (fun k hk=>by rw [hL1] at hk; exact hsh k hk) hrd (by intro a n c e; simp only [Value.slice.injEq] at e; obtain ⟨-,rfl,rfl⟩:=e; omega) (by rw [List.length_drop]; omega) (by simp) (by unfold Room; simp only [List.length_cons,List.length_nil]; omega)
      have ldm:cellsH (cellH H8) ⟨mb,0,none⟩ 0 7=some (mtC w3 m'.globals m'.dead):=(pb.mb'.blk 0 _ rfl).cells0
      have ldp:cellsH (cellH H8) ⟨bb,0,none⟩ 0 8=some (apC a0):=by rw [ha0,hq]; exact (pb.mb'.blk 1 _ rfl).cells0
      have hd':(d:Int)≤KK.length:=by omega
      simp (disch:=omega) only [go_sem,↓cB,dB,r0,r2,r5,r8,r9,r10,r11,r12,rd,r14]
      refine draw0 (lk [(0,true),(1,true),(2,true),(3,true),(4,true),(5,true),(6,true),(7,true),(8,true),(9,true),(10,true),(11,true),(12,true)] (.act 13 (.act 14 .fin .non) .non)) T.mixed ?_
      simp (disch:=omega) only [go_sem,↓cB,dB,r0,r2,r5,r8,r9,r10,r11,r12,rd,r14,ldm,ldp,c63,k038,hll,hjk',hc8,hd']
      refine call_to sq ?_
      clear sq hrd
      intro r9' H9 hv
      refine Hush.out ?_
      obtain ⟨f9,a9,rfl,pw9⟩:=hv
      obtain ⟨B,hB⟩:∃ B,B=seqM (statM l (rNm q m'.chans) 18) (n:Int) (KK.drop d) ((0:Nat):Int) 1 ⟨[false,true],[]⟩:=⟨_,rfl⟩
      rw [← hB] at pw9
      have bB9:=f9.blk (pb.mb'.blk 1 _ rfl) (by simp)
      obtain ⟨X9,e9,b9,g9⟩:=store_blk (P:=Tryz.prog) (ty:=43) (new:=apC a9) bB9 rfl T.size43 (apC_one pw9.v)
      have hbbm:bb ∉ wrM [rmB mb w3 mV] (mk2 w3 mV aps2):=by
       rw [wr_k2]
       rintro (h | h | h)
       ·exact hmbb h.symm
       ·exact pb.mb'.nb 0 1 _ _ rfl rfl h
       ·exact pb.mb'.nb 1 1 _ _ rfl rfl h
      have xm9:=(xm.grow f9).frame g9 (fun y hy e=>by simp only [rpB,List.mem_singleton] at e; subst e; exact hbbm hy)
      have ldp9:cellsH (cellH X9) ⟨bb,0,none⟩ 0 8=some (apC a9):=b9.cells0
      have hone9:=apC_one pw9.v
      obtain ⟨z1,t1,z2,t2,z3,t3,z4,t4,z5,t5,-,-,-,-,-,hac⟩:=pw9.v.cells
      have k4:=(xm9.blk 0 _ rfl).cell 4
      have v4:=xm9.vec 1 _ rfl
      simp only [rmB,mk2,gS,gZ] at k4 v4
      have hpl:aps2.length=m'.procs.length:=by rw [← x6.ps,List.length_map]
      obtain ⟨a8,c8,hpv⟩:∃ a8 c8,w3.pv=.slice a8 aps2.length c8:=by
       obtain ⟨a1,n1,c1,e1,h1⟩:=v4.len
       rw [flat_len apL] at h1
       have:n1=aps2.length:=by omega
       subst this
       exact ⟨a1,c1,e1⟩
      rw [hpv] at k4 v4
      have e9':storeA Tryz.prog H9 43 ⟨bb,0,none⟩ (.agg (apC a9).toArray)=some X9:=e9
      rw [hac] at ldp9 hone9
      refine ⟨?_⟩
      simp (disch:=omega) only [go_sem,↓cB,dB,r0,r2,r5,r8,r9,r10,r11,r12,rd,r14,e9']
      try (simp (disch:=omega) only [go_sem,↓cB,dB,r0,r2,r5,r8,r9,r10,r11,r12,rd,r14,k4,ldp9])
      refine app_lit (n:=1) (new:=[sv q.name,iv q.copy,.slice z1 q.locals.length t1,iv B.rest.length,.slice z2 B.rest.length t2,.slice z3 B.edges.length t3,.slice z4 q.names.length t4,.slice z5 q.vars.length t5]) T.el27 rfl v4 hone9 rfl (by intro a' l c e; simp only [Value.slice.injEq] at e; obtain ⟨_,rfl,_⟩:=e; omega) ?_
      intro v10 H10 ga gb gc gd
      refine Hush.out ?_
      obtain ⟨a10,c10,rfl⟩:=gd _ _ _ rfl
      rw [← hac] at ga
      obtain ⟨S9,hS9⟩:∃ S9:Nat→Prop,S9=fun y=>y < X9.size∧y ∉ wrM [rmB mb w3 mV] (mk2 w3 mV aps2):=⟨_,rfl⟩
      have ap9:Apart S9 X9 [rmB mb w3 mV] (mk2 w3 mV aps2):=by rw [hS9]; exact Apart.top
      obtain ⟨w10,x10,s10,ap10⟩:=xm9.appS ap9 (i:=1) rfl rfl ga (by simp only [mk2]; rw [hpv]; exact gb) (by simp only [mk2]; rw [hpv]; exact gc)
      obtain ⟨X10,hX10⟩:∃ X,X=setH H10 ⟨mb,4,none⟩ (.slice a10 (aps2.length + 1) c10):=⟨_,rfl⟩
      have w10':wr H10 ⟨mb,4,none⟩ (.slice a10 (aps2.length + 1) c10)=some X10:=by rw [hX10]; exact w10
      obtain ⟨m4,hm4⟩:∃ m4:Mo,m4 = { m' with vars:=s.V,procs:=m'.procs ++ [withB q B] }:=⟨_,rfl⟩
      have hpm:prcM l m' n (c:Int) i=m4:=by
       unfold prcM
       rw [← hKK,← hRL0,hRL,hm4,hB,hq]
       rfl
      have he4:mk2 { w3 with pv:=.slice a10 (aps2.length + 1) c10 } m4 (aps2 ++ [a9])=(mk2 w3 mV aps2).set 1 { (⟨0,4,43,8,w3.pv,aps2.flatMap apC⟩:FV) with v:=.slice a10 (aps2.length + 1) c10,vs:=aps2.flatMap apC ++ apC a9 }:=by
       rw [hm4,hmV]; simp [mk2]
      have hb4:[rmB mb { w3 with pv:=.slice a10 (aps2.length + 1) c10 } m4] = [rmB mb w3 mV].set 0 { rmB mb w3 mV with cs:=(rmB mb w3 mV).cs.set 4 (.slice a10 (aps2.length + 1) c10) }:=by
       rw [hm4,hmV]; rfl
      have xf:MB X10 [rmB mb { w3 with pv:=.slice a10 (aps2.length + 1) c10 } m4] (mk2 { w3 with pv:=.slice a10 (aps2.length + 1) c10 } m4 (aps2 ++ [a9])):=by rw [he4,hb4,hX10]; exact x10
      have apf:Apart S9 X10 [rmB mb { w3 with pv:=.slice a10 (aps2.length + 1) c10 } m4] (mk2 { w3 with pv:=.slice a10 (aps2.length + 1) c10 } m4 (aps2 ++ [a9])):=by rw [he4,hb4,hX10]; exact ap10
      have sf10:FS S9 X9 X10:=by rw [hX10]; exact s10
      have hz9:=f9.size
      have hz10:=g9.size
      have h49:∀ y,S4 y→S9 y:=fun y hy=>by
       rw [hS9]
       exact ⟨by have:=pb.ap.1 y hy; omega,fun h=>pb.ap.2 y (hsub y h) hy⟩
      have k4X:Keeps S4 H8 X10:=by
       intro y hy hl
       rw [sf10.same y (by omega) (h49 y hy),g9.same y (by omega) (by simp only [rpB,List.mem_singleton]; rintro rfl; exact h4b hy),f9.same y hl (by simp)]
      refine ⟨?_⟩
      try (simp (disch:=omega) only [go_sem,↓cB,dB,r0,r2,r5,r8,r9,r10,r11,r12,rd,r14,w10'])
      refine fin ⟨N - (c + 1),by omega,c + 1,{ w3 with pv:=.slice a10 (aps2.length + 1) c10 },aps2 ++ [a9],rfl,by omega,?_,?_,⟨htv3.trans htv2,hcv3.trans hcv2,hsa3.trans hsa2⟩,?_,by (simp (disch:=omega) only [go_sem,↓cB,dB,r0,r2,r5,r8,r9,r10,r11,r12,rd,r14,hxc])⟩
      ·refine ⟨by have:=sF6.size; have:=sF8.size; have:=sf10.size; omega,fun y hl hy=>?_⟩
       rw [k4X y (h34 y hy) (by have:=sF6.size; have:=sF8.size; omega),kp y hy hl]
      ·rw [hmn,hpm]
       refine ⟨xf,apf.sub (fun y hy=>h49 y (h34 y hy)),?_,?_⟩
       ·rw [List.map_append,x6.ps,hm4]
        simp [pw9.v.e]
       ·intro a ha
        rw [List.mem_append,List.mem_singleton] at ha
        rcases ha with ha | rfl
        ·have h1:=(x6.pr a ha).mono (S':=fun y=>S4 y∧y ≠ H.size) (fun y hy hl=>⟨h4o y hl hy.1,hy.2⟩)
         have h2:=(h1.frame (Keeps.of_fr gRP (by simp))).frame (fun y hy hl=>sF8.same y hl hy.1)
         exact (h2.frame (fun y hy hl=>k4X y hy.1 hl)).mono (fun y hy _=>⟨fun h=>apf.2 y h (h49 y hy.1),hy.2⟩)
        ·have h1:=pw9.v.r.mono (S':=fun y=>y < H9.size∧y ∉ wrM [rmB mb w3 mV] (mk2 w3 mV aps2)∧y ≠ bb∧y ≠ H.size) (fun y hy hl=>by
          rcases hy with hy | hy
          ·rw [hS8] at hy; exact ⟨hl,hy.2⟩
          ·refine ⟨hl,fun h=>?_,?_,?_⟩
           ·have:=xm.lt _ h; omega
           ·omega
           ·have:=pb.ap.1 _ h4z; omega)
         have h2:=h1.frame (H':=X9) (fun y hy hl=>g9.same y hl (by simp only [rpB,List.mem_singleton]; exact hy.2.2.1))
         have h3:=h2.mono (S':=fun y=>S9 y∧y ≠ H.size) (fun y hy hl=>⟨by rw [hS9]; exact ⟨hl,hy.2.1⟩,hy.2.2.2⟩)
         exact (h3.frame (fun y hy hl=>sf10.same y hl hy.1)).mono (fun y hy _=>⟨fun h=>apf.2 y h hy.1,hy.2⟩)
      ·rw [hmn]
       exact moi_prc hm6 (by rw [← hKK]; exact h8)
end
end Go.Proofs.YtmihefbdghjeoaaGreat
namespace Go.Proofs.YtmihefbdghjeoaaGreat
open Go.HL
set_option maxRecDepth 10000
section
variable {H:Heap} {S S':Nat→Prop} {v v':Value}
theorem r13Ints_same {xs:List Int} (ha:Rd H S 1 v (xs.map iv)) (hb:Rd H S' 1 v' (xs.map iv)) (hl:xs.length≤9000000000000000000) :
  CallF Tryz.prog 17 [v,v'] H (fun r H'=>H=H'∧r=.bool true) NoP:=by
 obtain ⟨a,c,rfl⟩:=ha.len1
 obtain ⟨a',c',rfl⟩:=hb.len1
 refine callF_of Tryz.func17 rfl Tryz.ntmps17 Tryz.results17 (by decide) rfl ?_
 simp (disch:=omega) only [go_sem,↓cB,dB]
 refine loop_by (fun k ρ H2=>∃ i:Nat,k=xs.length - i∧i≤xs.length∧H=H2∧(ρ.get 0=.slice a xs.length c∧ρ.get 1=.slice a' xs.length c'∧ρ.get 5=iv i∧ρ.ds = [])) (k:=xs.length) ?_ ?_
 ·exact ⟨0,rfl,by omega,rfl,by simp (disch:=omega) only [go_sem,↓cB,dB]⟩
 ·rintro k ρ _ ⟨i,rfl,hi,rfl,r0,r1,r5,rd⟩
  have hxi:(i:Int) + 1=((i + 1:Nat):Int):=by omega
  by_cases hin:i < xs.length
  ·obtain ⟨b,o,cap,q1,-,q2⟩:=ha.at1 (getD_some (d:=(0:Int)) hin)
   simp only [Value.slice.injEq,true_and] at q1
   obtain ⟨rfl,rfl⟩:=q1
   obtain ⟨b',o',cap',p1,-,p2⟩:=hb.at1 (getD_some (d:=(0:Int)) hin)
   simp only [Value.slice.injEq,true_and] at p1
   obtain ⟨rfl,rfl⟩:=p1
   simp (disch:=omega) only [go_sem,↓cB,dB,r0,r1,r5,rd]
   refine draw0 (lk [(0,true),(1,true),(2,true),(3,true),(4,true),(5,true),(6,true),(7,true),(8,true)] .fin) T.mixed ?_
   simp (disch:=omega) only [go_sem,↓cB,dB,r0,r1,r5,rd,q2,p2]
   exact fin ⟨xs.length - (i + 1),by omega,i + 1,rfl,by omega,rfl,by simp (disch:=omega) only [go_sem,↓cB,dB,r0,r1,r5,rd,hxi]⟩
  ·obtain rfl:i=xs.length:=by omega
   simp (disch:=omega) only [go_sem,↓cB,dB,r0,r1,r5,rd]
   exact fin ⟨rfl,rfl⟩
theorem r13texts_same {xs:List Str} (ha:Rd H S 1 v (xs.map sv)) (hb:Rd H S' 1 v' (xs.map sv)) (hl:xs.length≤9000000000000000000) :
  CallF Tryz.prog 36 [v,v'] H (fun r H'=>H=H'∧r=.bool true) NoP:=by
 obtain ⟨a,c,rfl⟩:=ha.len1
 obtain ⟨a',c',rfl⟩:=hb.len1
 refine callF_of Tryz.func36 rfl Tryz.ntmps36 Tryz.results36 (by decide) rfl ?_
 simp (disch:=omega) only [go_sem,↓cB,dB]
 refine loop_by (fun k ρ H2=>∃ i:Nat,k=xs.length - i∧i≤xs.length∧H=H2∧(ρ.get 0=.slice a xs.length c∧ρ.get 1=.slice a' xs.length c'∧ρ.get 5=iv i∧ρ.ds = [])) (k:=xs.length) ?_ ?_
 ·exact ⟨0,rfl,by omega,rfl,by simp (disch:=omega) only [go_sem,↓cB,dB]⟩
 ·rintro k ρ _ ⟨i,rfl,hi,rfl,r0,r1,r5,rd⟩
  have hxi:(i:Int) + 1=((i + 1:Nat):Int):=by omega
  by_cases hin:i < xs.length
  ·obtain ⟨b,o,cap,q1,-,q2⟩:=ha.at1 (getD_some (d:=([]:Str)) hin)
   simp only [Value.slice.injEq,true_and] at q1
   obtain ⟨rfl,rfl⟩:=q1
   obtain ⟨b',o',cap',p1,-,p2⟩:=hb.at1 (getD_some (d:=([]:Str)) hin)
   simp only [Value.slice.injEq,true_and] at p1
   obtain ⟨rfl,rfl⟩:=p1
   have hd:decide (xs.getD i []=xs.getD i [])=true:=by simp
   simp (disch:=omega) only [go_sem,↓cB,dB,r0,r1,r5,rd]
   refine draw0 (lk [(0,true),(1,true),(2,true),(3,true),(4,true),(5,true),(6,true),(7,true),(8,true)] .fin) T.mixed ?_
   simp (disch:=omega) only [go_sem,↓cB,dB,r0,r1,r5,rd,q2,p2,not_true_eq_false,decide_false]
   exact fin ⟨xs.length - (i + 1),by omega,i + 1,rfl,by omega,rfl,by simp (disch:=omega) only [go_sem,↓cB,dB,r0,r1,r5,rd,hxi]⟩
  ·obtain rfl:i=xs.length:=by omega
   simp (disch:=omega) only [go_sem,↓cB,dB,r0,r1,r5,rd]
   exact fin ⟨rfl,rfl⟩
theorem ch_ne {xo yo:Operand} (x:Ch):binV Tryz.prog (full H) .neq 59 xo yo (.agg (chC x).toArray) (.agg (chC x).toArray)=some (.bool false):=by
 have:=(bin_struct (P:=Tryz.prog) (H:=H) (t:=59) (xs:=chC x) (ys:=chC x) (xo:=xo) (yo:=yo) rfl (by decide +kernel) (by decide +kernel) (eqF_str (by decide) rfl rfl rfl (eqF_int (by decide) rfl rfl rfl (eqF_int (by decide) rfl rfl rfl (eqF_bool (by decide) rfl rfl rfl (eqF_bool (by decide) rfl rfl rfl eqF_nil)))))).2
 simpa using this
theorem vr_ne {xo yo:Operand} (x:Vr):binV Tryz.prog (full H) .neq 61 xo yo (.agg (vrC x).toArray) (.agg (vrC x).toArray)=some (.bool false):=by
 have:=(bin_struct (P:=Tryz.prog) (H:=H) (t:=61) (xs:=vrC x) (ys:=vrC x) (xo:=xo) (yo:=yo) rfl (by decide +kernel) (by decide +kernel) (eqF_str (by decide) rfl rfl rfl (eqF_int (by decide) rfl rfl rfl (eqF_int (by decide) rfl rfl rfl eqF_nil)))).2
 simpa using this
theorem ed_ne {xo yo:Operand} (x:Ed):binV Tryz.prog (full H) .neq 45 xo yo (.agg (edC x).toArray) (.agg (edC x).toArray)=some (.bool false):=by
 have:=(bin_struct (P:=Tryz.prog) (H:=H) (t:=45) (xs:=edC x) (ys:=edC x) (xo:=xo) (yo:=yo) rfl (by decide +kernel) (by decide +kernel) (eqF_int (by decide) rfl rfl rfl (eqF_int (by decide) rfl rfl rfl (eqF_int (by decide) rfl rfl rfl (eqF_int (by decide) rfl rfl rfl (eqF_int (by decide) rfl rfl rfl (eqF_int (by decide) rfl rfl rfl (eqF_bool (by decide) rfl rfl rfl (eqF_int (by decide) rfl rfl rfl eqF_nil))))))))).2
 simpa using this
def prLen (p:Pr):Prop:=p.locals.length≤9000000000000000000∧p.rest.length≤9000000000000000000∧p.edges.length≤9000000000000000000∧p.names.length≤9000000000000000000∧p.vars.length≤9000000000000000000
theorem two_boxes {H:Heap} {t:Nat} {xs ys:List Value}:∃ G,G=(H.push (.cells xs.toArray t)).push (.cells ys.toArray t)∧Fr [] H G∧Blk G H.size t xs∧Blk G (H.size + 1) t ys∧G.size=H.size + 2:=by
 have h1:=(Blk.new (H:=H) (t:=t) (vs:=xs) rfl)
 have h2:=(Blk.new (H:=H.push (.cells xs.toArray t)) (t:=t) (vs:=ys) rfl)
 rw [Array.size_push] at h2
 exact ⟨_,rfl,Fr.push.trans Fr.push,Blk.push h1 _,h2,by simp⟩
set_option maxHeartbeats 2000000 in
theorem r13Proc_same {a b:AP} (ha:APR H S a) (hb:APR H S' b) (e:a.p=b.p) (hl:prLen a.p):CallF Tryz.prog 18 [.agg (apC a).toArray,.agg (apC b).toArray] H (fun r H'=>Fr [] H H'∧r=.bool true) NoP:=by
 obtain ⟨l1,l2,l3,l4,l5⟩:=hl
 obtain ⟨x1,c1,x2,c2,x3,c3,x4,c4,x5,c5,e1,e2,e3,e4,e5⟩:=ha.forms
 obtain ⟨y1,d1,y2,d2,y3,d3,y4,d4,y5,d5,f1,f2,f3,f4,f5⟩:=hb.forms
 rw [← e] at f1 f2 f3 f4 f5
 have hac:apC a = [sv a.p.name,iv a.p.copy,.slice x1 a.p.locals.length c1,iv a.p.rest.length,.slice x2 a.p.rest.length c2,.slice x3 a.p.edges.length c3,.slice x4 a.p.names.length c4,.slice x5 a.p.vars.length c5]:=by
  unfold apC; rw [e1,e2,e3,e4,e5]
 have hbc:apC b = [sv a.p.name,iv a.p.copy,.slice y1 a.p.locals.length d1,iv a.p.rest.length,.slice y2 a.p.rest.length d2,.slice y3 a.p.edges.length d3,.slice y4 a.p.names.length d4,.slice y5 a.p.vars.length d5]:=by
  unfold apC; rw [f1,f2,f3,f4,f5,← e]
 obtain ⟨G,hG,g0,b1,b2,zG⟩:=two_boxes (H:=H) (t:=43) (xs:=apC a) (ys:=apC b)
 have lo1:=ha.lo.frame (Keeps.of_fr g0 (by simp))
 have lo2:=hb.lo.frame (Keeps.of_fr g0 (by simp))
 have re1:=ha.re.frame (Keeps.of_fr g0 (by simp))
 have re2:=hb.re.frame (Keeps.of_fr g0 (by simp))
 have ed1:=ha.ed.frame (Keeps.of_fr g0 (by simp))
 have ed2:=hb.ed.frame (Keeps.of_fr g0 (by simp))
 have nm1:=ha.nm.frame (Keeps.of_fr g0 (by simp))
 have nm2:=hb.nm.frame (Keeps.of_fr g0 (by simp))
 have xs1:=ha.xs.frame (Keeps.of_fr g0 (by simp))
 have xs2:=hb.xs.frame (Keeps.of_fr g0 (by simp))
 rw [← e] at lo2 re2 ed2 nm2 xs2
 rw [e1] at lo1
 rw [f1] at lo2
 rw [e2] at re1
 rw [f2] at re2
 rw [e3] at ed1
 rw [f3] at ed2
 rw [e4] at nm1
 rw [f4] at nm2
 rw [e5] at xs1
 rw [f5] at xs2
 rw [hac,hbc] at hG
 rw [hac] at b1
 rw [hbc] at b2
 rw [hac,hbc]
 have p0:=b1.cell 0
 have p1:=b1.cell 1
 have p2:=b1.cell 2
 have p3:=b1.cell 3
 have p4:=b1.cell 4
 have p5:=b1.cell 5
 have p6:=b1.cell 6
 have p7:=b1.cell 7
 have q0:=b2.cell 0
 have q1:=b2.cell 1
 have q2:=b2.cell 2
 have q3:=b2.cell 3
 have q4:=b2.cell 4
 have q5:=b2.cell 5
 have q6:=b2.cell 6
 have q7:=b2.cell 7
 simp only [gS,gZ] at p0 p1 p2 p3 p4 p5 p6 p7 q0 q1 q2 q3 q4 q5 q6 q7
 clear b1 b2 hac hbc e1 e2 e3 e4 e5 f1 f2 f3 f4 f5
 have hzp:∀ (b c:Bool),(!decide (b=b))=false:=by simp
 refine callF_of Tryz.func18 rfl Tryz.ntmps18 Tryz.results18 (by decide) rfl ?_
 simp (disch:=omega) only [go_sem,↓cB,dB]
 try rw [← hG]
 try (simp (disch:=omega) only [go_sem,↓cB,dB,p0,q0,p1,q1,p2,q2,Array.size_push,not_true_eq_false,decide_false])
 refine call_to (r13Ints_same lo1 lo2 l1) ?_
 rintro _ _ ⟨rfl,rfl⟩
 try (simp (disch:=omega) only [go_sem,↓cB,dB,p3,q3,p4,q4,p5,q5,p6,q6,Array.size_push,not_true_eq_false,decide_false])
 refine call_to (r13texts_same nm1 nm2 l4) ?_
 rintro _ _ ⟨rfl,rfl⟩
 try (simp (disch:=omega) only [go_sem,↓cB,dB,p7,q7,Array.size_push,not_true_eq_false,decide_false])
 refine call_to (r13Ints_same xs1 xs2 l5) ?_
 rintro _ _ ⟨rfl,rfl⟩
 try (simp (disch:=omega) only [go_sem,↓cB,dB,Array.size_push,not_true_eq_false,decide_false])
 refine loop_by (fun k ρ H2=>∃ i:Nat,k=a.p.rest.length - i∧i≤a.p.rest.length∧G=H2∧(ρ.get 2=hp H.size∧ρ.get 3=hp (H.size + 1)∧ρ.get 5=iv i∧ρ.ds = [])) (k:=a.p.rest.length) ?_ ?_
 ·exact ⟨0,rfl,by omega,rfl,by (simp (disch:=omega) only [go_sem,↓cB,dB,Array.size_push])⟩
 ·rintro k ρ _ ⟨i,rfl,hi,rfl,r2,r3,r5,rd⟩
  have hxi:(i:Int) + 1=((i + 1:Nat):Int):=by omega
  by_cases hin:i < a.p.rest.length
  ·obtain ⟨u,hu⟩:∃ u,a.p.rest[i]?=some u:=⟨_,List.getElem?_eq_getElem hin⟩
   obtain ⟨_,_,_,k1,-,k2⟩:=re1.at1 hu
   simp only [Value.slice.injEq,true_and] at k1
   obtain ⟨rfl,rfl⟩:=k1
   obtain ⟨_,_,_,k1,-,k3⟩:=re2.at1 hu
   simp only [Value.slice.injEq,true_and] at k1
   obtain ⟨rfl,rfl⟩:=k1
   simp (disch:=omega) only [go_sem,↓cB,dB,r2,r3,r5,rd,p4]
   refine draw0 (lk [(0,true),(1,true),(2,true),(3,true),(4,true),(5,true),(6,true),(7,true),(8,true),(9,true),(10,true)] .fin) T.mixed ?_
   have hun:(!(u == u))=false:=by simp
   simp (disch:=omega) only [go_sem,↓cB,dB,r2,r3,r5,rd,p4,q4,k2,k3,hun]
   exact fin ⟨a.p.rest.length - (i + 1),by omega,i + 1,rfl,by omega,rfl,by (simp (disch:=omega) only [go_sem,↓cB,dB,r2,r3,r5,rd,hxi])⟩
  obtain rfl:i=a.p.rest.length:=by omega
  simp (disch:=omega) only [go_sem,↓cB,dB,r2,r3,r5,rd,p4]
  refine loop_by (fun k ρ H2=>∃ i:Nat,k=a.p.edges.length - i∧i≤a.p.edges.length∧G=H2∧(ρ.get 2=hp H.size∧ρ.get 3=hp (H.size + 1)∧ρ.get 6=iv i∧ρ.ds = [])) (k:=a.p.edges.length) ?_ ?_
  ·exact ⟨0,rfl,by omega,rfl,by (simp (disch:=omega) only [go_sem,↓cB,dB,r2,r3,rd])⟩
  ·clear r2 r3 r5 rd
   rintro k ρ _ ⟨i,rfl,hi,rfl,r2,r3,r6,rd⟩
   have hxi:(i:Int) + 1=((i + 1:Nat):Int):=by omega
   by_cases hin:i < a.p.edges.length
   ·obtain ⟨u,hu⟩:∃ u,a.p.edges[i]?=some u:=⟨_,List.getElem?_eq_getElem hin⟩
    obtain ⟨_,_,_,k1,-,k2,-⟩:=ed1.row edL (by decide) hu
    simp only [Value.slice.injEq,true_and] at k1
    obtain ⟨rfl,rfl⟩:=k1
    obtain ⟨_,_,_,k1,-,k3,-⟩:=ed2.row edL (by decide) hu
    simp only [Value.slice.injEq,true_and] at k1
    obtain ⟨rfl,rfl⟩:=k1
    have hne:=fun {xo yo:Operand}=>ed_ne (H:=G) (xo:=xo) (yo:=yo) u
    simp (disch:=omega) only [go_sem,↓cB,dB,r2,r3,r6,rd,p5]
    refine draw0 (lk [(0,true),(1,true),(2,true),(3,true),(4,true),(5,true),(6,true),(7,true),(8,true),(9,true),(10,true)] .fin) T.mixed ?_
    simp (disch:=omega) only [go_sem,↓cB,dB,r2,r3,r6,rd,p5,q5,k2,k3,hne]
    exact fin ⟨a.p.edges.length - (i + 1),by omega,i + 1,rfl,by omega,rfl,by (simp (disch:=omega) only [go_sem,↓cB,dB,r2,r3,r6,rd,hxi])⟩
   obtain rfl:i=a.p.edges.length:=by omega
   simp (disch:=omega) only [go_sem,↓cB,dB,r2,r3,r6,rd,p5]
   exact fin ⟨g0,rfl⟩
set_option maxHeartbeats 2000000 in
theorem r13Same_same {l:List Nd} {w w':MV} {m:Mo} {aps aps':List AP} (ha:MR H S w l m aps) (hb:MR H S' w' l m aps') (hp:∀ p ∈ m.procs,prLen p) (hl:m.chans.length≤9000000000000000000∧m.vars.length≤9000000000000000000∧m.procs.length≤9000000000000000000∧m.safe.length≤9000000000000000000∧l.length≤9000000000000000000) :
  CallF Tryz.prog 8 [.agg (moC w m).toArray,.agg (moC w' m).toArray] H (fun r H'=>Fr [] H H'∧r=.bool true) NoP:=by
 obtain ⟨l1,l2,l3,l4,l5⟩:=hl
 obtain ⟨x0,c0,x1,c1,x2,c2,x3,c3,x4,c4,e0,e1,e2,e3,e4⟩:=ha.cells
 obtain ⟨y0,d0,y1,d1,y2,d2,y3,d3,y4,d4,f0,f1,f2,f3,f4⟩:=hb.cells
 have hac:moC w m = [.slice x0 l.length c0,iv m.globals,.slice x1 m.chans.length c1,.slice x2 m.vars.length c2,.slice x3 m.procs.length c3,.slice x4 m.safe.length c4,.bool m.dead]:=by
  unfold moC; rw [e0,e1,e2,e3,e4]
 have hbc:moC w' m = [.slice y0 l.length d0,iv m.globals,.slice y1 m.chans.length d1,.slice y2 m.vars.length d2,.slice y3 m.procs.length d3,.slice y4 m.safe.length d4,.bool m.dead]:=by
  unfold moC; rw [f0,f1,f2,f3,f4]
 obtain ⟨G,hG,g0,b1,b2,zG⟩:=two_boxes (H:=H) (t:=30) (xs:=moC w m) (ys:=moC w' m)
 have aG:=ha.frame (Keeps.of_fr g0 (by simp))
 have bG:=hb.frame (Keeps.of_fr g0 (by simp))
 rw [hac,hbc] at hG
 rw [hac] at b1
 rw [hbc] at b2
 rw [hac,hbc]
 have p0:=b1.cell 0
 have p1:=b1.cell 1
 have p2:=b1.cell 2
 have p3:=b1.cell 3
 have p4:=b1.cell 4
 have p5:=b1.cell 5
 have p6:=b1.cell 6
 have q0:=b2.cell 0
 have q1:=b2.cell 1
 have q2:=b2.cell 2
 have q3:=b2.cell 3
 have q4:=b2.cell 4
 have q5:=b2.cell 5
 have q6:=b2.cell 6
 simp only [gS,gZ] at p0 p1 p2 p3 p4 p5 p6 q0 q1 q2 q3 q4 q5 q6
 have sa1:=aG.sa
 have sa2:=bG.sa
 have ch1:=aG.ch
 have ch2:=bG.ch
 have va1:=aG.va
 have va2:=bG.va
 have pc1:=aG.pc
 have pc2:=bG.pc
 rw [e4] at sa1
 rw [f4] at sa2
 rw [e1] at ch1
 rw [f1] at ch2
 rw [e2] at va1
 rw [f2] at va2
 rw [e3] at pc1
 rw [f3] at pc2
 refine callF_of Tryz.func8 rfl Tryz.ntmps8 Tryz.results8 (by decide) rfl ?_
 simp (disch:=omega) only [go_sem,↓cB,dB]
 try rw [← hG]
 try (simp (disch:=omega) only [go_sem,↓cB,dB,p0,q0,p1,q1,p2,q2,p3,q3,p4,q4,p5,q5,Array.size_push,not_true_eq_false,decide_false])
 refine call_to (r13Ints_same sa1 sa2 l4) ?_
 rintro _ _ ⟨rfl,rfl⟩
 have hud:(!(m.dead == m.dead))=false:=by simp
 try (simp (disch:=omega) only [go_sem,↓cB,dB,p6,q6,Array.size_push,not_true_eq_false,decide_false,hud])
 refine loop_by (fun k ρ H2=>∃ i:Nat,k=m.chans.length - i∧i≤m.chans.length∧G=H2∧(ρ.get 2=Go.Proofs.YtmihefbdghjeoaaGreat.hp H.size∧ρ.get 3=Go.Proofs.YtmihefbdghjeoaaGreat.hp (H.size + 1)∧ρ.get 5=iv i∧ρ.ds = [])) (k:=m.chans.length) ?_ ?_
 ·exact ⟨0,rfl,by omega,rfl,by (simp (disch:=omega) only [go_sem,↓cB,dB,Array.size_push])⟩
 ·rintro k ρ _ ⟨i,rfl,hi,rfl,r2,r3,r5,rd⟩
  have hxi:(i:Int) + 1=((i + 1:Nat):Int):=by omega
  by_cases hin:i < m.chans.length
  ·obtain ⟨u,hu⟩:∃ u,m.chans[i]?=some u:=⟨_,List.getElem?_eq_getElem hin⟩
   obtain ⟨_,_,_,k1,-,k2,-⟩:=ch1.row chL (by decide) hu
   simp only [Value.slice.injEq,true_and] at k1
   obtain ⟨rfl,rfl⟩:=k1
   obtain ⟨_,_,_,k1,-,k3,-⟩:=ch2.row chL (by decide) hu
   simp only [Value.slice.injEq,true_and] at k1
   obtain ⟨rfl,rfl⟩:=k1
   have hne:=fun {xo yo:Operand}=>ch_ne (H:=G) (xo:=xo) (yo:=yo) u
   simp (disch:=omega) only [go_sem,↓cB,dB,r2,r3,r5,rd,p2]
   refine draw0 (lk [(0,true),(1,true),(2,true),(3,true),(4,true),(5,true),(6,true),(7,true),(8,true),(9,true),(10,true)] .fin) T.mixed ?_
   simp (disch:=omega) only [go_sem,↓cB,dB,r2,r3,r5,rd,p2,q2,k2,k3,hne]
   exact fin ⟨m.chans.length - (i + 1),by omega,i + 1,rfl,by omega,rfl,by (simp (disch:=omega) only [go_sem,↓cB,dB,r2,r3,r5,rd,hxi])⟩
  obtain rfl:i=m.chans.length:=by omega
  simp (disch:=omega) only [go_sem,↓cB,dB,r2,r3,r5,rd,p2]
  refine loop_by (fun k ρ H2=>∃ i:Nat,k=m.vars.length - i∧i≤m.vars.length∧G=H2∧(ρ.get 2=Go.Proofs.YtmihefbdghjeoaaGreat.hp H.size∧ρ.get 3=Go.Proofs.YtmihefbdghjeoaaGreat.hp (H.size + 1)∧ρ.get 6=iv i∧ρ.ds = [])) (k:=m.vars.length) ?_ ?_
  ·exact ⟨0,rfl,by omega,rfl,by (simp (disch:=omega) only [go_sem,↓cB,dB,r2,r3,rd])⟩
  ·clear r2 r3 r5 rd
   rintro k ρ _ ⟨i,rfl,hi,rfl,r2,r3,r6,rd⟩
   have hxi:(i:Int) + 1=((i + 1:Nat):Int):=by omega
   by_cases hin:i < m.vars.length
   ·obtain ⟨u,hu⟩:∃ u,m.vars[i]?=some u:=⟨_,List.getElem?_eq_getElem hin⟩
    obtain ⟨_,_,_,k1,-,k2,-⟩:=va1.row vrL (by decide) hu
    simp only [Value.slice.injEq,true_and] at k1
    obtain ⟨rfl,rfl⟩:=k1
    obtain ⟨_,_,_,k1,-,k3,-⟩:=va2.row vrL (by decide) hu
    simp only [Value.slice.injEq,true_and] at k1
    obtain ⟨rfl,rfl⟩:=k1
    have hne:=fun {xo yo:Operand}=>vr_ne (H:=G) (xo:=xo) (yo:=yo) u
    simp (disch:=omega) only [go_sem,↓cB,dB,r2,r3,r6,rd,p3]
    refine draw0 (lk [(0,true),(1,true),(2,true),(3,true),(4,true),(5,true),(6,true),(7,true),(8,true),(9,true),(10,true)] .fin) T.mixed ?_
    simp (disch:=omega) only [go_sem,↓cB,dB,r2,r3,r6,rd,p3,q3,k2,k3,hne]
    exact fin ⟨m.vars.length - (i + 1),by omega,i + 1,rfl,by omega,rfl,by (simp (disch:=omega) only [go_sem,↓cB,dB,r2,r3,r6,rd,hxi])⟩
   obtain rfl:i=m.vars.length:=by omega
   simp (disch:=omega) only [go_sem,↓cB,dB,r2,r3,r6,rd,p3]
   refine loop_by (fun k ρ H2=>∃ i:Nat,k=m.procs.length - i∧i≤m.procs.length∧Fr [] G H2∧(ρ.get 2=Go.Proofs.YtmihefbdghjeoaaGreat.hp H.size∧ρ.get 3=Go.Proofs.YtmihefbdghjeoaaGreat.hp (H.size + 1)∧ρ.get 7=iv i∧ρ.ds = [])) (k:=m.procs.length) ?_ ?_
   ·exact ⟨0,rfl,by omega,Fr.refl _ _,by (simp (disch:=omega) only [go_sem,↓cB,dB,r2,r3,rd])⟩
   ·clear r2 r3 r6 rd
    rintro k ρ H2 ⟨i,rfl,hi,fr,r2,r3,r7,rd⟩
    have hxi:(i:Int) + 1=((i + 1:Nat):Int):=by omega
    have p4':=fr.cell' p4 (by simp)
    have q4':=fr.cell' q4 (by simp)
    by_cases hin:i < m.procs.length
    ·have hla:aps.length=m.procs.length:=by rw [← ha.ps,List.length_map]
     have hlb:aps'.length=m.procs.length:=by rw [← hb.ps,List.length_map]
     obtain ⟨u,hu⟩:∃ u,aps[i]?=some u:=⟨_,List.getElem?_eq_getElem (by omega)⟩
     obtain ⟨u',hu'⟩:∃ u,aps'[i]?=some u:=⟨_,List.getElem?_eq_getElem (by omega)⟩
     have hpu:m.procs[i]?=some u.p:=by rw [← ha.ps,List.getElem?_map,hu]; rfl
     have hpu':m.procs[i]?=some u'.p:=by rw [← hb.ps,List.getElem?_map,hu']; rfl
     have hpe:u.p=u'.p:=by rw [hpu] at hpu'; simpa using hpu'
     obtain ⟨_,_,_,k1,-,k2,-⟩:=(pc1.frame (Keeps.of_fr fr (by simp))).row apL (by decide) hu
     simp only [Value.slice.injEq] at k1
     obtain ⟨rfl,-,rfl⟩:=k1
     obtain ⟨_,_,_,k1,-,k3,-⟩:=(pc2.frame (Keeps.of_fr fr (by simp))).row apL (by decide) hu'
     simp only [Value.slice.injEq] at k1
     obtain ⟨rfl,-,rfl⟩:=k1
     have sp:=r13Proc_same ((aG.pr u (List.mem_of_getElem? hu)).frame (Keeps.of_fr fr (by simp))) ((bG.pr u' (List.mem_of_getElem? hu')).frame (Keeps.of_fr fr (by simp))) hpe (hp _ (List.mem_of_getElem? hpu))
     simp (disch:=omega) only [go_sem,↓cB,dB,r2,r3,r7,rd,p4']
     refine draw0 (lk [(0,true),(1,true),(2,true),(3,true),(4,true),(5,true),(6,true),(7,true),(8,true),(9,true)] (.act 10 (lk [(11,true)] .fin) .non)) T.mixed ?_
     simp (disch:=omega) only [go_sem,↓cB,dB,r2,r3,r7,rd,p4',q4',k2,k3]
     refine call_to sp ?_
     intro r5 H5 hv
     refine Hush.out ?_
     obtain ⟨f5,rfl⟩:=hv
     refine ⟨?_⟩
     simp (disch:=omega) only [go_sem,↓cB,dB,r2,r3,r7,rd]
     exact fin ⟨m.procs.length - (i + 1),by omega,i + 1,rfl,by omega,fr.trans f5,by (simp (disch:=omega) only [go_sem,↓cB,dB,r2,r3,r7,rd,hxi])⟩
    obtain rfl:i=m.procs.length:=by omega
    simp (disch:=omega) only [go_sem,↓cB,dB,r2,r3,r7,rd,p4']
    exact fin ⟨g0.trans fr,rfl⟩
end
end Go.Proofs.YtmihefbdghjeoaaGreat
