/- Texts of this proof, put together: ShwO, ShwT, ShwU, ShwLz, ShwLa. The conditions of each theorem stand in it. -/
import Derived.Test.YtcffdpmmadipeaaGreatDoorMXB
import Derived.Test.YtcffdpmmadipeaaGreatDoorMXA
import Derived.Test.YtcffdpmmadipeaaGreatDoorMX6
import Derived.Test.YtcffdpmmadipeaaGreatDoorRows
import Derived.Test.YtcffdpmmadipeaaGreatDoorMX3
import Derived.LaidMore
import Derived.OpenShut
import Derived.MakeChecks
set_option linter.unusedSimpArgs false
set_option linter.unusedVariables false
namespace Go.Proofs.YtcffdpmmadipeaaGreatDoor
open Go.HL
set_option maxRecDepth 10000
theorem lay_inj {l:List Nd}:∀ (f f':Fo) (a:Nat),Lies l a f→Lies l a f'→f.roots a=f'.roots a→f.bare=true→f'.bare=true→f=f'
 | .nil,.nil,_,_,_,_,_,_=>rfl
 | .nil,.cons _ _ _,_,_,_,e,_,_=>by simp [Fo.roots] at e
 | .cons _ _ _,.nil,_,_,_,e,_,_=>by simp [Fo.roots] at e
 | .cons n k r,.cons n' k' r',a,h,h',e,hb,hb'=>by
  simp only [Fo.bare,Bool.and_eq_true,decide_eq_true_eq] at hb hb'
  have e1:=h.get hb.1
  have e2:=h'.get hb'.1
  rw [e1] at e2
  simp only [Option.some.injEq] at e2
  obtain ⟨kd,w,u,ks,ps⟩:=n
  obtain ⟨kd',w',u',ks',ps'⟩:=n'
  simp only [Nd.mk.injEq] at e2 hb hb'
  obtain ⟨rfl,rfl,rfl,e3,rfl⟩:=e2
  have hk:k=k':=lay_inj k k' (a + 1) h.kids h'.kids e3 hb.2.1 hb'.2.1
  subst hk
  simp only [Fo.roots,List.cons.injEq,true_and] at e
  have hr:=lay_inj r r' (a + 1 + k.cnt) h.rest h'.rest e hb.2.2 hb'.2.2
  rw [hr,hb.1,hb'.1]
theorem layT_inj {n n':Nd} {k k':Fo} (h:RT n k) (h':RT n' k') (e:layT n k=layT n' k'):n=n'∧k=k':=by
 have:=lay_inj (l:=layT n k) (.cons n k .nil) (.cons n' k' .nil) 0 layT_lies (e ▸ layT_lies) rfl h.bare h'.bare
 simp only [Fo.cons.injEq,and_true] at this
 exact this
open Classical in
noncomputable def showM (l:List Nd):Str:=if h:∃ n k,RT n k∧l=layT n k then showT h.choose_spec.choose else []
theorem showM_lay {n:Nd} {k:Fo} (h:RT n k):showM (layT n k)=showT k:=by
 have hx:∃ n' k',RT n' k'∧layT n k=layT n' k':=⟨n,k,h,rfl⟩
 unfold showM
 rw [dif_pos hx]
 have:=hx.choose_spec.choose_spec
 rw [← (layT_inj h this.1 this.2).2]
theorem showM_no {l:List Nd} (h:prRightM l=false):showM l = []:=by
 unfold showM
 rw [dif_neg]
 rintro ⟨n,k,h1,rfl⟩
 rw [h1.right] at h; cases h
theorem RT.kok {n:Nd} {k:Fo} (h:RT n k):k.ok=true∧k.bare=true∧(∀ x ∈ k.kinds,1≤x∧x≤5):=⟨h.parts.2.2.1,h.parts.2.1,h.parts.2.2.2⟩
theorem showT_len {n:Nd} {k:Fo} (h:RT n k):(showT k).length≤239700:=by
 have h1:=(short_of k h.kok.1).lin 0 (by have:=h.dep; omega)
 have h2:=h.cnt
 unfold showT
 omega
theorem showM_len (l:List Nd):(showM l).length≤239700:=by
 cases h:prRightM l with
 | false=>rw [showM_no h]; simp
 | true=>obtain ⟨n,k,h1,rfl⟩:=right_rt h; rw [showM_lay h1]; exact showT_len h1
section
variable {H H':Heap} {S:Nat→Prop} {v:Value} {l:List Nd}
set_option maxHeartbeats 1000000 in
theorem wShow_spec (h:NL H S v l) (hz:Sz l) (gt:GT H):CallF Tryz.prog 10 [v] H (fun r H'=>Fr [] H H'∧r=sv (showM l)) NoP:=by
 refine callF_of Tryz.func10 rfl Tryz.ntmps10 Tryz.results10 (by decide) rfl ?_
 simp (disch:=omega) only [go_sem,↓cB,dB]
 refine call_to (pgRight_spec h hz) ?_
 intro v1 H1 hv
 refine Hush.out ?_
 obtain ⟨f1,rfl⟩:=hv
 refine ⟨?_⟩
 cases hr:prRightM l with
 | false =>
  simp (disch:=omega) only [go_sem,↓cB,dB,hr]
  exact fin ⟨f1,by rw [showM_no hr]⟩
 | true =>
  obtain ⟨n,k,hrt,rfl⟩:=right_rt hr
  rw [showM_lay hrt]
  have hkok:=hrt.kok
  have hb:n.kids = []:=by have:=hrt.bare; simp only [Fo.bare,Bool.and_eq_true,decide_eq_true_eq] at this; exact this.1
  have hlies:Lies (layT n k) 0 (.cons n k .nil):=layT_lies
  generalize layT n k=l at *
  have h1:=h.grow f1
  have gt1:=gt.grow f1
  have hs:NL H1 (· < H1.size) v l:=h1.mono (fun b _ hb=>hb)
  obtain ⟨A1,hA1⟩:∃ A,A=H1.push (.cells #[v,.pointer none,.slice none 0 0] 49):=⟨_,rfl⟩
  have g1:Fr [] H1 A1:=by rw [hA1]; exact Fr.push
  have z1:A1.size=H1.size + 1:=by rw [hA1]; simp
  have bw:Blk A1 H1.size 49 [v,.pointer none,.slice none 0 0]:=by rw [hA1]; exact Blk.new rfl
  have c0:=cell_lt (gt1.lv 0 (by omega))
  have c1:=cell_lt (gt1.sg 0 (by omega))
  have c2:=cell_lt (gt1.pw 0 (by omega))
  have x1:WE A1 H1.size v l [] []:=⟨⟨⟨_,_,bw,.inl rfl,.inl ⟨rfl,rfl⟩,by simp [own]⟩,by simp,by simp⟩,hs.grow g1,gt1.grow g1,c0,c1,c2⟩
  obtain ⟨b,o,cap,xw,cw,xn,cn,xk,ck,rfl,ld,kd,k3,nx,hck⟩:=node_at (x1.nl) hlies hb
  have hlt:=hlies.lt
  have hnx:=SlL.of_nx (Z:=[]) nx
  have hlen:=showT_len hrt
  have hcnt:=hrt.cnt
  have hlc:=Fo.len_cnt k
  have hdep:=hrt.dep
  have hall:=allLn (wAll l H1.size (.slice (some ⟨b,o,none⟩) l.length cap) (k.cnt + 1) k (by omega) (by omega) hkok.1 hkok.2.1) (fun x hx=>by have:=hkok.2.2 x hx; omega)
  rw [Nat.zero_mul,Nat.add_zero] at k3
  simp (disch:=omega) only [go_sem,↓cB,dB,hr]
  rw [← hA1]
  clear hA1
  simp (disch:=omega) only [go_sem,↓cB,dB,k3]
  refine loop_by (fun kk ρ H3=>∃ (i:Nat) (f:Fo) (a':Nat) (t:Str),kk=f.len∧i + f.len=k.len∧Lies l a' f∧f.roots a'=(k.roots 1).drop i∧f.All (LnS l H1.size (.slice (some ⟨b,o,none⟩) l.length cap))∧f.dep≤k.dep∧t ++ linesS 0 f.vs=showT k∧WE H3 H1.size (.slice (some ⟨b,o,none⟩) l.length cap) l t []∧WQ A1 H1.size [] H3 ∧
   (ρ.get 3=hp H1.size∧ρ.get 14=.slice xk k.len ck∧ρ.get 15=iv k.len∧ρ.get 16=iv i∧ρ.ds = [])) (k:=k.len) ?_ ?_
  ·exact ⟨0,k,1,[],rfl,by omega,hlies.kids,rfl,hall,Nat.le_refl _,rfl,x1,WQ.refl,by simp (disch:=omega) only [go_sem,↓cB,dB]⟩
  ·rintro kk ρ H3 ⟨i,f,a',t,rfl,hi,hl3,hr3,ha3,hd3,ht3,x3,wq3,r3,r14,r15,r16,rd⟩
   have hxi:(i:Int) + 1=((i + 1:Nat):Int):=by omega
   have htl:=congrArg List.length ht3
   simp only [List.length_append] at htl
   cases f with
   | nil =>
    have:i=k.len:=by simpa [Fo.len] using hi
    subst this
    simp only [Fo.vs,linesS,List.append_nil] at ht3
    simp (disch:=omega) only [go_sem,↓cB,dB,r3,r14,r15,r16,rd]
    refine call_to (bString_spec x3.w (by omega)) ?_
    intro v H5 hv
    refine Hush.out ?_
    obtain ⟨rfl,q1,q2⟩:=hv
    refine ⟨?_⟩
    simp (disch:=omega) only [go_sem,↓cB,dB]
    refine fin ⟨⟨?_,?_⟩,by rw [ht3]⟩
    ·have:=wq3.size; have:=f1.size; omega
    ·intro b hb _
     have:=f1.size
     rw [q2 b (by omega),wq3.low b (by omega),g1.same b (by omega) (by simp),f1.same b hb (by simp)]
   | cons n1 k1 r1' =>
    simp only [Fo.len] at hi
    simp only [Fo.roots] at hr3
    obtain ⟨hg,hr4⟩:=drop_hd hr3
    obtain ⟨b',o',rfl,hb',hc⟩:=(hnx.step wq3 (by simp)) i _ hg
    simp only [Fo.vs,linesS,stepV] at ht3
    simp only [Fo.vs,linesS,stepV,List.length_append,List.length_cons,List.length_nil] at htl
    simp only [Fo.dep] at hd3
    simp (disch:=omega) only [go_sem,↓cB,dB,r3,r14,r15,r16,rd,hc]
    refine call_to (ha3.1 x3 hl3.one (d:=0) (by omega) (by simp only [List.length_append,List.length_cons,List.length_nil]; omega)) ?_
    intro v H4 hv
    refine Hush.out ?_
    obtain ⟨w4,wq4⟩:=hv
    refine ⟨?_⟩
    simp (disch:=omega) only [go_sem,↓cB,dB,r3,r14,r15,r16,rd]
    exact fin ⟨r1'.len,by simp only [Fo.len]; omega,i + 1,r1',a' + 1 + k1.cnt,t ++ (inS 0 ++ thN n1 k1.vs 0 ++ [10]),rfl,by omega,hl3.rest,hr4,ha3.2,by omega,by rw [← ht3]; simp,x3.step w4 wq4,wq3.trans wq4,by simp (disch:=omega) only [go_sem,↓cB,dB,r3,r14,r15,r16,rd,hxi]⟩
end
end Go.Proofs.YtcffdpmmadipeaaGreatDoor
namespace Go.HL
section
variable {n:Nat} {P:Program}
theorem cut_draw {id:Nat} {ops:Array Oper} {K:En→Heap→Prop} {Q:Exit→En→Heap→Prop} {ρ:En} {H:Heap} (R:En→Heap→Prop)
  (h:@stop ⟨CW n P (.region id ops true) (seqQ (fun ρ H=>@stop ⟨R ρ H⟩) Q) ρ H⟩) (h2:∀ ρ H,R ρ H→K ρ H):@stop ⟨CW n P (.region id ops true) (seqQ K Q) ρ H⟩:=by
 refine CW.mono ?_ h
 intro e ρ H hx
 cases e <;> first | exact h2 _ _ hx | exact hx
theorem hv_cells {H:Heap} {L:List Addr} {a:Addr}:∀ (n i:Nat) (vs:List Value),cellsH (cellH H) a i n=some vs→(∀ j,i≤j→j < i + n→a.add j ∈ L)→cellsH (lookA (hvL H L)) a i n=some vs
 | 0,i,vs,h,_=>h
 | n + 1,i,vs,h,hm=>by
  simp only [cellsH] at h ⊢
  cases hc:cellH H (a.add i) with
  | none=>simp [hc] at h
  | some v =>
   cases hl:cellsH (cellH H) a (i + 1) n with
   | none=>simp [hc,hl] at h
   | some l' =>
    rw [hv_at hc (hm i (by omega) (by omega)),hv_cells n (i + 1) l' hl (fun j h1 h2=>hm j (by omega) (by omega))]
    simpa [hc,hl] using h
def rowV (b o:Nat):Nat→List Addr
 | 0=>[]
 | n + 1=>rowV b o n ++ [⟨b,o + n,none⟩]
theorem mem_rowV {b o j:Nat}:∀ {n:Nat},j < n→(⟨b,o,none⟩:Addr).add j ∈ rowV b o n
 | 0,h=>by omega
 | n + 1,h=>by
  rw [rowV,List.mem_append]
  by_cases e:j=n
  ·subst e
   refine .inr ?_
   unfold Addr.add
   split
   ·rename_i h0; simp [h0]
   ·simp
  ·exact .inl (mem_rowV (by omega))
end
end Go.HL
namespace Go.Proofs.YtcffdpmmadipeaaGreatDoor
open Go.HL
set_option maxRecDepth 10000
section
variable {H H':Heap} {S S':Nat→Prop} {v v':Value} {l l':List Nd}
theorem two_new {q1 q2:Nat} {n1 n2:List Value} (h1:H.size≤q1∧q1≤H.size + 1) (h2:H.size≤q2∧q2≤H.size + 1) (hne:q1 ≠ q2) (l1:n1.length=5) (l2:n2.length=5) (o1:n1.all oneC=true) (o2:n2.all oneC=true) :
  ∃ X1 X2,storeA Tryz.prog ((H.push (.cells #[iv 0,.slice none 0 0,.slice none 0 0,.slice none 0 0,iv 0] 28)).push (.cells #[iv 0,.slice none 0 0,.slice none 0 0,.slice none 0 0,iv 0] 28)) 28 ⟨q1,0,none⟩ (.agg n1.toArray)=some X1 ∧
   storeA Tryz.prog X1 28 ⟨q2,0,none⟩ (.agg n2.toArray)=some X2∧Fr [] H X1∧Fr [] H X2∧Blk X2 q1 28 n1∧Blk X2 q2 28 n2:=by
 obtain ⟨B,hB⟩:∃ B,B=H.push (.cells #[iv 0,.slice none 0 0,.slice none 0 0,.slice none 0 0,iv 0] 28):=⟨_,rfl⟩
 have fB:Fr [] H B:=by rw [hB]; exact Fr.push
 have zB:B.size=H.size + 1:=by rw [hB]; simp
 have b0:Blk B H.size 28 [iv 0,.slice none 0 0,.slice none 0 0,.slice none 0 0,iv 0]:=by rw [hB]; exact Blk.new rfl
 rw [← hB]
 obtain ⟨A,hA⟩:∃ A,A=B.push (.cells #[iv 0,.slice none 0 0,.slice none 0 0,.slice none 0 0,iv 0] 28):=⟨_,rfl⟩
 have fA:Fr [] B A:=by rw [hA]; exact Fr.push
 have b1:Blk A B.size 28 [iv 0,.slice none 0 0,.slice none 0 0,.slice none 0 0,iv 0]:=by rw [hA]; exact Blk.new rfl
 have b0':=fA.blk b0 (by simp)
 rw [← hA]
 have bb:∀ q,H.size≤q∧q≤H.size + 1→Blk A q 28 [iv 0,.slice none 0 0,.slice none 0 0,.slice none 0 0,iv 0]:=by
  intro q hq
  by_cases e:q=H.size
  ·rw [e]; exact b0'
  ·have:q=B.size:=by omega
   rw [this]; exact b1
 have fHA:=fB.trans fA
 obtain ⟨X1,s1,c1,f1⟩:=store_blk (P:=Tryz.prog) (ty:=28) (new:=n1) (bb q1 h1) (by rw [l1]; rfl) (by rw [l1]; exact T.size28) (one_all o1)
 obtain ⟨X2,s2,c2,f2⟩:=store_blk (P:=Tryz.prog) (ty:=28) (new:=n2) (f1.blk (bb q2 h2) (by simp; omega)) (by rw [l2]; rfl) (by rw [l2]; exact T.size28) (one_all o2)
 have g1:=Fr.more fHA f1 (by simp; omega)
 exact ⟨X1,X2,s1,s2,g1,Fr.more g1 f2 (by simp; omega),f2.blk c1 (by simp; omega),c2⟩
end
end Go.Proofs.YtcffdpmmadipeaaGreatDoor
namespace Go.Proofs.YtcffdpmmadipeaaGreatDoor
open Go.HL
set_option maxRecDepth 10000
def szN0 (n:Nd):Bool:=decide (n.words.length≤1000) && (decide (n.nums.length≤1000) && (decide (n.kids.length≤1000) && n.words.all fun w=>decide (w.length≤1000)))
def szB0 (l:List Nd):Bool:=decide (l.length≤1000) && l.all szN0
theorem sz_of0 {l:List Nd} (h:szB0 l=true):Sz l:=by
 unfold szB0 at h
 simp only [Bool.and_eq_true,decide_eq_true_eq,List.all_eq_true] at h
 have key':∀ (i:Nat) n,l[i]?=some n→n.words.length≤1000∧n.nums.length≤1000∧n.kids.length≤1000∧∀ w ∈ n.words,w.length≤1000:=by
  intro i n hi
  have:=h.2 n (List.mem_of_getElem? hi)
  unfold szN0 at this
  simpa only [Bool.and_eq_true,decide_eq_true_eq,List.all_eq_true] using this
 exact ⟨by omega,fun i n hi=>by have:=key' i n hi; omega,fun i n hi=>by have:=key' i n hi; omega,fun i n hi=>by have:=key' i n hi; omega,fun i n hi w hw=>by have:=(key' i n hi).2.2.2 w hw; omega⟩
def awT:Fo:=.cons ⟨3,[[112]],[1],[],0⟩ (.cons ⟨14,[],[],[],7⟩ .nil .nil) .nil
theorem aw_parse:parseM 60 [112,114,111,99,32,112,123,115,107,105,112,59,125]=some (layT ⟨0,[],[],[],0⟩ awT,⟨0,0⟩):=by decide +kernel
theorem aw_rt:RT ⟨0,[],[],[],0⟩ awT:=⟨rfl,by decide +kernel,by decide +kernel,by decide +kernel,by decide +kernel⟩
theorem aw_show:showT awT = [112,114,111,99,32,112,32,42,32,49,32,123,10,32,32,115,107,105,112,59,10,125,10]:=by decide +kernel
theorem aw_sz:Sz (layT ⟨0,[],[],[],0⟩ awT):=sz_of0 (by decide +kernel)
theorem show_nil:showM [] = []:=showM_no (by decide +kernel)
section
variable {H:Heap}
theorem w10awake_spec (gt:GT H):CallF Tryz.prog 5 [] H (fun r H'=>r=.bool true∧Fr [] H H') NoP:=by
 refine callF_of Tryz.func5 rfl Tryz.ntmps5 Tryz.results5 (by decide) rfl ?_
 simp (disch:=omega) only [go_sem,↓cB,dB]
 refine call_to (parse_spec aw_parse) ?_
 intro v H1 hv
 refine Hush.out ?_
 obtain ⟨v1,rfl,f1,nl1⟩:=hv
 refine ⟨?_⟩
 simp (disch:=omega) only [go_sem,↓cB,dB,fltV]
 refine call_to (wShow_spec (nl1.grow Fr.push) aw_sz ((gt.grow f1).grow Fr.push)) ?_
 intro v H2 hv
 refine Hush.out ?_
 obtain ⟨f2,rfl⟩:=hv
 refine ⟨?_⟩
 rw [showM_lay aw_rt,aw_show]
 simp (disch:=omega) only [go_sem,↓cB,dB]
 refine call_to (wShow_spec (S:=fun _=>True) NL.nil (sz_of0 rfl) (((gt.grow f1).grow Fr.push).grow f2)) ?_
 intro v H3 hv
 refine Hush.out ?_
 obtain ⟨f3,rfl⟩:=hv
 refine ⟨?_⟩
 rw [show_nil]
 simp (disch:=omega) only [go_sem,↓cB,dB]
 exact fin ⟨rfl,((f1.trans Fr.push).trans f2).trans f3⟩
end
end Go.Proofs.YtcffdpmmadipeaaGreatDoor
namespace Go.HL
open Go Go.ChangeShapes Go.WideShapes Go.ChangeAt Go.RowKit
section
variable {H:Type} {enc:TypeId × Value→H} {P:Program} {W:World} {spare:Nat→Bool} {held:Bool} {base fuel n:Nat} {t e:TypeId} {cs:List Value} {ps:List MemPlace}
theorem take1 {L:List Value} {i:Nat} {v:Value} (h:(L.drop i).take 1 = [v]):L[i]?=some v:=by
 have:=congrArg (fun m=>m[0]?) h
 simpa using this
theorem tab_ints {k:IntKind} {zs:List Int} (ht:P.underlying t=some (.array n e)) (he:P.underlying e=some (.int k)) (hc:P.cellsOf e=1)
  (h:DataW.trod enc P W base spare held fuel t cs=some (.agg (zs.map fun z=>.lit (.int k z)),ps)):∀ (i:Nat) z,zs[i]?=some z→cs[i]?=some (.int k z):=by
 intro i z hz
 obtain ⟨xs,m,rfl,hx,_,hn,hel⟩:=DataW.trod_array ht h
 simp only [Prod.mk.injEq,DataW.agg.injEq] at hx
 have h1:=congrArg (fun m=>m[i]?) hx.1
 simp only [List.getElem?_map,hz,Option.map_some] at h1
 cases hxi:xs[i]? with
 | none=>rw [hxi] at h1; simp at h1
 | some x =>
  rw [hxi] at h1
  simp only [Option.map_some,Option.some.injEq] at h1
  have hi:i < n:=by rw [← hn]; exact (List.getElem?_eq_some_iff.1 hxi).1
  have h2:=hel i hi
  rw [hc,Nat.mul_one,hxi] at h2
  obtain ⟨n',e1,e2,_⟩:=DataW.trod_int he h2
  rw [e2] at h1
  simp only [DataW.lit.injEq,Lit.int.injEq,true_and] at h1
  rw [h1]
  exact take1 e1
theorem tab_strs {zs:List Str} (ht:P.underlying t=some (.array n e)) (he:P.underlying e=some .string) (hc:P.cellsOf e=1)
  (h:DataW.trod enc P W base spare held fuel t cs=some (.agg (zs.map fun z=>.lit (.string z)),ps)):∀ (i:Nat) z,zs[i]?=some z→cs[i]?=some (sv z):=by
 intro i z hz
 obtain ⟨xs,m,rfl,hx,_,hn,hel⟩:=DataW.trod_array ht h
 simp only [Prod.mk.injEq,DataW.agg.injEq] at hx
 have h1:=congrArg (fun m=>m[i]?) hx.1
 simp only [List.getElem?_map,hz,Option.map_some] at h1
 cases hxi:xs[i]? with
 | none=>rw [hxi] at h1; simp at h1
 | some x =>
  rw [hxi] at h1
  simp only [Option.map_some,Option.some.injEq] at h1
  have hi:i < n:=by rw [← hn]; exact (List.getElem?_eq_some_iff.1 hxi).1
  have h2:=hel i hi
  rw [hc,Nat.mul_one,hxi] at h2
  obtain ⟨s,e1,e2,_⟩:=DataW.trod_string he h2
  rw [e2] at h1
  simp only [DataW.lit.injEq,Lit.string.injEq] at h1
  have:s=bs z:=by
   rw [h1]
   rfl
  have e9:sv z=.string s:=by rw [this]
  rw [e9]
  exact take1 e1
end
end Go.HL
namespace Go.Proofs.YtcffdpmmadipeaaGreatDoor
open Go Go.ChangeShapes Go.WideShapes Go.ChangeAt Go.RowKit Go.HL
set_option maxRecDepth 10000
theorem gLv:Tryz.prog.globalNamed "weirgate/show.levels" = some 0:=by kernel_rfl
theorem gSg:Tryz.prog.globalNamed "weirgate/show.signs" = some 1:=by kernel_rfl
theorem gPw:Tryz.prog.globalNamed "internal/strconv.uint64pow10" = some 2:=by kernel_rfl
theorem tLv:(Tryz.prog.globals[0]?).map (·.type)=some 72:=by kernel_rfl
theorem tSg:(Tryz.prog.globals[1]?).map (·.type)=some 73:=by kernel_rfl
theorem tPw:(Tryz.prog.globals[2]?).map (·.type)=some 125:=by kernel_rfl
theorem door_met (os:Os) (args:Array Value):laidMetH Tryz.prog Rows.showTreesRow.laid ((World.doorLaid Tryz.prog 400 os).forCall (fun _ _=>0) ⟨#[],args,[]⟩).memory :=
 laidMetH_of_parts3 (fuel:=8) (laidMet_of_run' 8 (by kernel_rfl) (by kernel_rfl)) (by kernel_rfl) (by kernel_rfl)
theorem gt_of {W:World} (h:laidMetH Tryz.prog Rows.showTreesRow.laid W):GT W.heap:=by
 rw [MakeChecks.laidMetH_plain _ _ _ (by kernel_rfl)] at h
 obtain ⟨ps,⟨g0,t0,cs0,f0,p0,q0,hg0,ht0,hv0,hd0,⟨g1,t1,cs1,f1,p1,q1,hg1,ht1,hv1,hd1,⟨g2,t2,cs2,f2,p2,q2,hg2,ht2,hv2,hd2,⟨g3,t3,cs3,f3,p3,q3,hg3,ht3,hv3,hd3,⟨g4,t4,cs4,f4,p4,q4,hg4,ht4,hv4,hd4,_,_⟩,_⟩,_⟩,_⟩,_⟩,_,_⟩:=h
 obtain rfl:=Option.some.inj (gPw.symm.trans hg2)
 obtain rfl:=Option.some.inj (gSg.symm.trans hg3)
 obtain rfl:=Option.some.inj (gLv.symm.trans hg4)
 obtain rfl:=Option.some.inj (tPw.symm.trans ht2)
 obtain rfl:=Option.some.inj (tSg.symm.trans ht3)
 obtain rfl:=Option.some.inj (tLv.symm.trans ht4)
 have c1:Tryz.prog.cellsOf 3=1:=by kernel_rfl
 have c2:Tryz.prog.cellsOf 9=1:=by kernel_rfl
 have c3:Tryz.prog.cellsOf 116=1:=by kernel_rfl
 have a1:=tab_ints (zs:=[0,1,2,3,4,4,5,5,5]) Tryz.underlying72 Tryz.underlying3 c1 hd4
 have a2:=tab_strs (zs:=[[124,124],[38,38],[61,61],[60],[43],[45],[42],[47],[37]]) Tryz.underlying73 Tryz.underlying9 c2 hd3
 have a3:=tab_ints (zs:=(List.range 20).map fun i=>((10 ^ i:Nat):Int)) Tryz.underlying125 Tryz.underlying116 c3 hd2
 refine ⟨fun i hi=>?_,fun i hi=>?_,fun i hi=>?_⟩
 ·have:=a1 i (levS i) (by match i,hi with | 0,_ | 1,_ | 2,_ | 3,_ | 4,_ | 5,_ | 6,_ | 7,_ | 8,_=>rfl)
  show W.cell? ⟨_,i,none⟩=_
  rw [World.var?_cell gLv hv4 i]
  simpa using this
 ·have:=a2 i (signM i) (by match i,hi with | 0,_ | 1,_ | 2,_ | 3,_ | 4,_ | 5,_ | 6,_ | 7,_ | 8,_=>rfl)
  show W.cell? ⟨_,i,none⟩=_
  rw [World.var?_cell gSg hv3 i]
  simpa using this
 ·have:=a3 i ((10 ^ i:Nat):Int) (by rw [List.getElem?_map,List.getElem?_range hi]; rfl)
  show W.cell? ⟨_,i,none⟩=_
  rw [World.var?_cell gPw hv2 i]
  simpa using this
end Go.Proofs.YtcffdpmmadipeaaGreatDoor
namespace Go.Proofs.YtcffdpmmadipeaaGreatDoor
open Go.HL
set_option maxRecDepth 10000
theorem parse_long {s:Str} (h:4000 < s.length):parseM 1 s=some ([],⟨12,0⟩):=by
 unfold parseM tokensM
 rw [if_pos h]
 rfl
theorem lay_few:∀ (f:Fo) (a:Nat),f.ok=true→f.bare=true→∀ x ∈ f.lay a,x.words.length≤10∧x.nums.length≤10∧x.kids.length≤f.cnt∧∀ w ∈ x.words,w.length≤12
 | .nil,_,_,_,x,hx=>by simp [Fo.lay] at hx
 | .cons n k r,a,ho,hb,x,hx=>by
  simp only [Fo.ok,Bool.and_eq_true] at ho
  simp only [Fo.bare,Bool.and_eq_true,decide_eq_true_eq] at hb
  simp only [Fo.lay,List.mem_cons,List.mem_append] at hx
  simp only [Fo.cnt]
  rcases hx with rfl | hx | hx
  ·have h1:=okN_wl ho.1
   have h2:=okN_ul ho.1
   have h3:wcount n.kind≤10:=by unfold wcount; (repeat' split) <;> omega
   have h4:(bnds n.kind).length≤10:=by unfold bnds; (repeat' split) <;> simp
   have h5:=Fo.len_cnt k
   refine ⟨by show n.words.length≤10; omega,by show n.nums.length≤10; omega,?_,okN_words ho.1⟩
   simp only [hb.1,List.nil_append,Fo.roots_len]
   omega
  ·obtain ⟨a1,a2,a3,a4⟩:=lay_few k _ ho.2.1 hb.2.1 x hx
   exact ⟨a1,a2,by omega,a4⟩
  ·obtain ⟨a1,a2,a3,a4⟩:=lay_few r _ ho.2.2 hb.2.2 x hx
   exact ⟨a1,a2,by omega,a4⟩
theorem RT.sz {n:Nd} {k:Fo} (h:RT n k):Sz (layT n k):=by
 have hc:=h.cnt
 have key:∀ (i:Nat) x,(layT n k)[i]?=some x→x.words.length≤10∧x.nums.length≤10∧x.kids.length≤800∧∀ w ∈ x.words,w.length≤12:=by
  intro i x hx
  have:=lay_few (.cons n k .nil) 0 h.ok h.bare x (List.mem_of_getElem? hx)
  simp only [Fo.cnt] at this
  exact ⟨this.1,this.2.1,by omega,this.2.2.2⟩
 exact ⟨by rw [layT_len]; omega,fun i x hx=>by have:=key i x hx; omega,fun i x hx=>by have:=key i x hx; omega,fun i x hx=>by have:=key i x hx; omega,fun i x hx w hw=>by have:=(key i x hx).2.2.2 w hw; omega⟩
section
variable {H:Heap} {S S':Nat→Prop} {v v':Value} {l l':List Nd}
theorem flt_same {xo yo:Operand} {a b:Int}:binV Tryz.prog (full H) .eql 33 xo yo (.agg #[iv a,iv b]) (.agg #[iv 0,iv 0])=some (.bool (decide (a=0) && decide (b=0))):=by
 have:=(bin_struct (P:=Tryz.prog) (H:=H) (t:=33) (xs:=[iv a,iv b]) (ys:=[iv 0,iv 0]) (xo:=xo) (yo:=yo) rfl (by decide +kernel) (by decide +kernel) (eqF_int (by decide) rfl rfl rfl (eqF_int (by decide) rfl rfl rfl eqF_nil))).1
 simpa [Bool.decide_and] using this
end
end Go.Proofs.YtcffdpmmadipeaaGreatDoor
