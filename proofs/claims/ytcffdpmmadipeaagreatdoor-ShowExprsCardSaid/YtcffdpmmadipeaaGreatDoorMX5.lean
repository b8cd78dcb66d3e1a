/- Texts of this proof, put together: ParP, ParQ. The conditions of each theorem stand in it. -/
import Derived.Test.YtcffdpmmadipeaaGreatDoorMX4
set_option linter.unusedSimpArgs false
set_option linter.unusedVariables false
namespace Go.Proofs.YtcffdpmmadipeaaGreatDoor
open Go.HL
set_option maxRecDepth 10000
section
variable {H H1 H2 G G1:Heap} {p N b3:Nat} {tv:Value} {L:List Tok} {wv nv kv lv:Value} {ds:List Value} {t:TT} {s s2:PS}
theorem XN.new2 {n:Nd} (h:PM H p tv L s) (hG:G=H.push (.cells #[iv 0,noS,noS,noS,iv 0,noS] 61)) (f1:Fr [] G H1) (hG1:G1=H1.push (.cells #[iv n.kind,noS,noS,noS,iv n.pos,noS] 61)) (hn:n.words = []∧n.nums = []∧n.kids = []) :
  XN G G1 p tv L H.size H1.size noS noS noS noS [] (n,.nil) s:=by
 obtain ⟨x,_⟩:=XN.new h hG f1 hG1 hn
 have f2:Fr [] H1 G1:=by rw [hG1]; exact Fr.push
 exact ⟨FrN.of (f1.trans f2) (by simp),x.pm,x.low,x.tm⟩
theorem XN.fin2 (x:XN G H2 p tv L H.size b3 wv nv kv lv ds t s) (hG:G=H.push (.cells #[iv 0,noS,noS,noS,iv 0,noS] 61)):cellsH (cellH H2) ⟨b3,0,none⟩ 0 6=some [iv t.1.kind,wv,nv,kv,iv t.1.pos,lv]∧∃ H5,storeA Tryz.prog H2 61 ⟨H.size,0,none⟩ (.agg #[iv t.1.kind,wv,nv,kv,iv t.1.pos,lv])=some H5 ∧
  cellsH (cellH H5) ⟨H.size,0,none⟩ 0 6=some [iv t.1.kind,wv,nv,kv,iv t.1.pos,lv]∧ExpQ H p tv L (t,s) (.agg #[iv t.1.kind,wv,nv,kv,iv t.1.pos,lv]) H5:=by
 have f0:Fr [] H G:=by rw [hG]; exact Fr.push
 have zG:G.size=H.size + 1:=by rw [hG]; simp
 have b0:Blk G H.size 61 z6:=by rw [hG]; exact Blk.new rfl
 have hl:=x.low
 have res:=x.fr.blk b0 (Nat.le_refl _) (by omega)
 have x':XN H H2 p tv L H.size b3 wv nv kv lv ds t s:=⟨(FrN.of f0 (by simp)).trans x.fr,x.pm,x.low,x.tm⟩
 exact ⟨x'.ld,x'.fin res⟩
theorem XN.lits (x:XN H H2 p tv L N b3 wv nv kv lv ds t s) (us:List Int) (len:Nat) (hl:us.length=len):wr (H2.push (.cells (us.map iv).toArray 3)) ⟨b3,2,none⟩ (.slice (some ⟨H2.size,0,none⟩) len len)=some (setH (H2.push (.cells (us.map iv).toArray 3)) ⟨b3,2,none⟩ (.slice (some ⟨H2.size,0,none⟩) len len)) ∧
  XN H (setH (H2.push (.cells (us.map iv).toArray 3)) ⟨b3,2,none⟩ (.slice (some ⟨H2.size,0,none⟩) len len)) p tv L N b3 wv (.slice (some ⟨H2.size,0,none⟩) len len) kv lv ds ({ t.1 with nums:=us },t.2) s:=by
 subst hl
 have x1:=x.grow (Fr.push (o:=.cells (us.map iv).toArray 3))
 have hb:Blk (H2.push (.cells (us.map iv).toArray 3)) H2.size 3 (us.map iv):=Blk.new rfl
 have a1:=x.tm.box.lt
 have a2:=x.tm.gt
 obtain ⟨h1,h2⟩:=x1.tm.nums (v':=.slice (some ⟨H2.size,0,none⟩) us.length us.length) (us:=us) ⟨_,_,_,rfl,by simp,fun i y hy=>⟨H2.size,0,rfl,⟨by omega,by omega,fun e=>by have:=x.tm.vec.lt _ e; omega⟩,by rw [Nat.zero_add,hb.cell]; exact hy⟩⟩
 exact ⟨h1,x1.over (t':=({ t.1 with nums:=us },t.2)) (F:=[b3]) (Fr.set (by simp)) (by simpa using x.tm.gt) h2⟩
end
set_option maxHeartbeats 4000000 in
theorem pStat_step {L:List Tok} {n:Nat} (hW:TW L) (IH:∀ m,m < n + 1→SpecS L (runS L m)):FnE L 93 (runS L (n + 1) .stat):=by
 intro H p tv s r h hm
 have hE:=specE hW n
 change stepS L (runE L n .expr) (runS L n) .stat s=some r at hm
 simp only [stepS] at hm
 obtain ⟨G,hG⟩:∃ G,G=H.push (.cells #[iv 0,noS,noS,noS,iv 0,noS] 61):=⟨_,rfl⟩
 have f0:Fr [] H G:=by rw [hG]; exact Fr.push
 have h0:=h.grow f0
 refine callF_of Tryz.func93 rfl Tryz.ntmps93 Tryz.results93 (by decide) rfl ?_
 simp (disch:=omega) only [go_sem,↓cB,dB]
 rw [← hG]
 refine call_to (pBegin_spec h0) ?_
 intro v H1 hv
 refine Hush.out ?_
 obtain ⟨f1,rfl⟩:=hv
 obtain ⟨G1,hG1⟩:∃ G,G=H1.push (.cells #[iv 6,noS,noS,noS,iv (tkM L s).pos,noS] 61):=⟨_,rfl⟩
 have x:=XN.new2 (n:=beginM L 6 s) h hG f1 hG1 ⟨rfl,rfl,rfl⟩
 have hlow:=h.lt
 refine ⟨?_⟩
 simp (disch:=omega) only [go_sem,↓cB,dB,nd0,beginM]
 rw [← hG1]
 refine call_to (pFlag_spec hW x.pm) ?_
 intro v HF hv
 refine Hush.out ?_
 obtain ⟨qf,rfl⟩:=hv
 cases q0:seesM L [105,100,108,101] s
 rotate_left
 ·have hfl:flagM L [105,100,108,101] s=(1,upM s):=by simp [flagM,q0]
  rw [hfl] at qf
  simp only [q0,hfl,Bool.true_or,if_true] at hm
  have x:=x.step qf
  obtain ⟨w1,x⟩:=x.lits [1] 1 rfl
  refine ⟨?_⟩
  simp (disch:=omega) only [go_sem,↓cB,dB,hfl,List.map_cons,List.map_nil]
  have w1':=w1
  simp only [List.map_cons,List.map_nil] at w1'
  simp (disch:=omega) only [go_sem,↓cB,dB,w1']
  refine call_to ((IH n (by omega)).waits (t:=({ beginM L 6 s with nums:=[1] },.nil)) x.low x.pm x.tm rfl rfl hm) ?_
  intro v H4 hv
  refine Hush.out ?_
  obtain ⟨fr4,pm4,wv,nv,kv,lv,ds,tm4⟩:=hv
  have x:XN G H4 p tv L H.size H1.size wv nv kv lv ds r.1 r.2:=⟨x.fr.trans fr4,pm4,x.low,tm4⟩
  obtain ⟨ld,H6,e1,e2,e3⟩:=x.fin2 hG
  refine ⟨?_⟩
  simp (disch:=omega) only [go_sem,↓cB,dB,id_eq,ld,e1,e2]
  exact fin e3
 have hfl:flagM L [105,100,108,101] s=(0,s):=by simp [flagM,q0]
 rw [hfl] at qf
 simp only [q0,hfl,Bool.false_or] at hm
 have x:=x.step qf
 refine ⟨?_⟩
 simp (disch:=omega) only [go_sem,↓cB,dB,hfl]
 refine call_to (pSees_spec x.pm) ?_
 intro v HS hv
 refine Hush.out ?_
 obtain ⟨fs,rfl⟩:=hv
 have x:=x.grow fs
 cases q1:seesM L [114,101,99,118] s
 rotate_left
 ·simp only [q1,Bool.true_or,Bool.or_true,if_true] at hm
  obtain ⟨w1,x⟩:=x.lits [0] 1 rfl
  refine ⟨?_⟩
  simp (disch:=omega) only [go_sem,↓cB,dB,id_eq,List.map_cons,List.map_nil]
  have w1':=w1
  simp only [List.map_cons,List.map_nil] at w1'
  simp (disch:=omega) only [go_sem,↓cB,dB,w1']
  refine call_to ((IH n (by omega)).waits (t:=({ beginM L 6 s with nums:=[0] },.nil)) x.low x.pm x.tm rfl rfl hm) ?_
  intro v H4 hv
  refine Hush.out ?_
  obtain ⟨fr4,pm4,wv,nv,kv,lv,ds,tm4⟩:=hv
  have x:XN G H4 p tv L H.size H1.size wv nv kv lv ds r.1 r.2:=⟨x.fr.trans fr4,pm4,x.low,tm4⟩
  obtain ⟨ld,H6,e1,e2,e3⟩:=x.fin2 hG
  refine ⟨?_⟩
  simp (disch:=omega) only [go_sem,↓cB,dB,id_eq,ld,e1,e2]
  exact fin e3
 simp only [q1,Bool.false_or,Bool.or_false] at hm
 refine ⟨?_⟩
 simp (disch:=omega) only [go_sem,↓cB,dB]
 refine call_to (pSees_spec x.pm) ?_
 intro v HS hv
 refine Hush.out ?_
 obtain ⟨fs,rfl⟩:=hv
 have x:=x.grow fs
 cases q2:seesM L [119,104,101,110] s
 rotate_left
 ·simp only [q2,Bool.true_or,Bool.or_true,if_true] at hm
  obtain ⟨w1,x⟩:=x.lits [0] 1 rfl
  refine ⟨?_⟩
  simp (disch:=omega) only [go_sem,↓cB,dB,id_eq,List.map_cons,List.map_nil]
  have w1':=w1
  simp only [List.map_cons,List.map_nil] at w1'
  simp (disch:=omega) only [go_sem,↓cB,dB,w1']
  refine call_to ((IH n (by omega)).waits (t:=({ beginM L 6 s with nums:=[0] },.nil)) x.low x.pm x.tm rfl rfl hm) ?_
  intro v H4 hv
  refine Hush.out ?_
  obtain ⟨fr4,pm4,wv,nv,kv,lv,ds,tm4⟩:=hv
  have x:XN G H4 p tv L H.size H1.size wv nv kv lv ds r.1 r.2:=⟨x.fr.trans fr4,pm4,x.low,tm4⟩
  obtain ⟨ld,H6,e1,e2,e3⟩:=x.fin2 hG
  refine ⟨?_⟩
  simp (disch:=omega) only [go_sem,↓cB,dB,id_eq,ld,e1,e2]
  exact fin e3
 simp only [q2,Bool.false_or,Bool.or_false] at hm
 refine ⟨?_⟩
 simp (disch:=omega) only [go_sem,↓cB,dB]
 refine call_to (pSees_spec x.pm) ?_
 intro v HS hv
 refine Hush.out ?_
 obtain ⟨fs,rfl⟩:=hv
 have x:=x.grow fs
 cases q3:seesM L [99,104,111,111,115,101] s
 rotate_left
 ·simp only [q3,Bool.true_or,Bool.or_true,if_true] at hm
  obtain ⟨w1,x⟩:=x.lits [0] 1 rfl
  refine ⟨?_⟩
  simp (disch:=omega) only [go_sem,↓cB,dB,id_eq,List.map_cons,List.map_nil]
  have w1':=w1
  simp only [List.map_cons,List.map_nil] at w1'
  simp (disch:=omega) only [go_sem,↓cB,dB,w1']
  refine call_to ((IH n (by omega)).waits (t:=({ beginM L 6 s with nums:=[0] },.nil)) x.low x.pm x.tm rfl rfl hm) ?_
  intro v H4 hv
  refine Hush.out ?_
  obtain ⟨fr4,pm4,wv,nv,kv,lv,ds,tm4⟩:=hv
  have x:XN G H4 p tv L H.size H1.size wv nv kv lv ds r.1 r.2:=⟨x.fr.trans fr4,pm4,x.low,tm4⟩
  obtain ⟨ld,H6,e1,e2,e3⟩:=x.fin2 hG
  refine ⟨?_⟩
  simp (disch:=omega) only [go_sem,↓cB,dB,id_eq,ld,e1,e2]
  exact fin e3
 simp only [q3,Bool.false_or,Bool.or_false] at hm
 refine ⟨?_⟩
 simp (disch:=omega) only [go_sem,↓cB,dB]
 simp only [Bool.false_eq_true,if_false] at hm
 refine call_to (pTake_spec hW x.pm) ?_
 intro v HT hv
 refine Hush.out ?_
 obtain ⟨qq,rfl⟩:=hv
 cases k1:seesM L [115,101,110,100] s
 rotate_left
 ·have ht:takeM L [115,101,110,100] s=(true,upM s):=by simp [takeM,k1]
  rw [ht] at qq
  simp only [k1,if_true] at hm
  have x:=x.step qq
  obtain ⟨r2,hr2,hm⟩:=Option.bind_eq_some_iff.1 hm
  simp only [Option.some.injEq] at hm
  subst hm
  obtain ⟨w0,x⟩:=x.kind 7
  refine ⟨?_⟩
  simp (disch:=omega) only [go_sem,↓cB,dB,ht,w0]
  have g:=GX.start 9 x
  refine draw1 (lk [(0,false),(1,false),(2,false),(3,true)] (.act 4 (.act 5 (.actd 6 (lk [(7,true),(8,true)] (.actd 9 .fin))) .non) .non)) T.mixed (hlist H1.size 0 _) (heldOK_blk g.box) ?_
  simp (disch:=omega) only [go_sem,↓cB,dB,id_eq]
  refine call_to (pName_spec hW g.pm) ?_
  intro v HN hv
  refine Hush.out ?_
  obtain ⟨qq,rfl⟩:=hv
  have g:=g.step qq
  refine ⟨?_⟩
  refine held_by (heldOK_blk g.box) ?_
  simp (disch:=omega) only [go_sem,↓cB,dB,id_eq]
  refine held_by (heldOK_blk (g.grow Fr.push).box) ?_
  simp (disch:=omega) only [go_sem,↓cB,dB,id_eq]
  refine app_lit1 T.el25 rfl g.vec rfl (by simp) ?_
  intro v' HZ g1 g2 g3 g4
  refine Hush.out ?_
  obtain ⟨a1,c1,hv'⟩:=g4
  have hv':v'=.slice a1 1 c1:=hv'
  subst hv'
  have g:=g.app g1 g2 g3
  refine ⟨?_⟩
  first | refine held_by (heldOK_blk g.box) ?_ | skip
  refine Hush.out ?_
  obtain ⟨w5,g⟩:=g.set 1 (.slice a1 1 c1) (by simp)
  have g:GX _ _ p tv L _ H1.size _ [iv 7,.slice a1 1 c1,noS,noS,iv (tkM L s).pos,noS] _ _ _:=g
  refine ⟨?_⟩
  simp (disch:=omega) only [go_sem,↓cB,dB,id_eq,w5]
  have x:=g.words (k:=7) (us:=[_]) x rfl rfl
  obtain ⟨wv,nv,kv,lv,ds,x⟩:∃ wv nv kv lv ds,XN G _ p tv L H.size H1.size wv nv kv lv ds ((({ beginM L 6 s with kind:=7,words:=[(pnameM L (upM s)).1] },Fo.nil)):TT) _:=⟨_,_,_,_,_,x⟩
  refine draw_cut (fun ρ' H'=>∃ lv' ds',XN G H' p tv L H.size H1.size wv nv kv lv' ds' (addT (({ beginM L 6 s with kind:=7,words:=[(pnameM L (upM s)).1] },Fo.nil)) r2.1) r2.2∧ρ'.get 0=hp p∧ρ'.get 2=hp H.size∧ρ'.get 3=hp H1.size∧ρ'.ds = []) ?_ ?_
  ·obtain ⟨al,cl,elv,hdl⟩:=x.tm.len
   obtain ⟨f1,f2,f3,f4,f5,f6,f7,f8,f9,ew,en,ek⟩:=x.tm.forms
   have hfew:((({ beginM L 6 s with kind:=7,words:=[(pnameM L (upM s)).1] },Fo.nil))).2.len < 1000000:=by simp [addT,kindT,Fo.len_snoc,Fo.len]
   subst ew en ek elv
   refine draw1 (lk [(0,false),(1,false),(2,false),(4,false)] (.act 3 (.act 5 (.actd 6 (lk [(7,false),(9,false)] (.act 8 (.act 10 .fin .non) (.act 10 (.act 8 .fin .non) .non)))) .non) (.act 5 (.act 3 (.actd 6 (lk [(7,false),(9,false)] (.act 8 (.act 10 .fin .non) (.act 10 (.act 8 .fin .non) .non)))) .non) .non))) T.mixed (hlist H1.size 0 _) (heldOK_blk x.tm.box) ?_
   simp (disch:=omega) only [go_sem,↓cB,dB,id_eq]
   refine both_of ?_ ?_
   ·simp (disch:=omega) only [go_sem,↓cB,dB,id_eq]
    refine call_to (hE.expr x.pm hr2) ?_
    intro v H4 hv
    refine Hush.out ?_
    obtain ⟨q4,cp,rfl,t4⟩:=hv
    have x4:=x.step q4
    have t4':=t4.mono (S':=fun b=>H.size < b∧b ≠ H1.size∧b ∉ own (Value.slice al ((({ beginM L 6 s with kind:=7,words:=[(pnameM L (upM s)).1] },Fo.nil))).2.len cl)) (by intro b hb _; have:=x.tm.box.lt; have:=x.tm.gt; (try simp only [Array.size_push] at hb); exact ⟨by omega,by omega,fun e=>by have:=x.tm.vec.lt b e; omega⟩)
    refine ⟨?_⟩
    refine held_by (heldOK_blk x4.tm.box) ?_
    simp (disch:=omega) only [go_sem,↓cB,dB,id_eq]
    refine held_by (heldOK_blk (x4.grow Fr.push).tm.box) ?_
    simp (disch:=omega) only [go_sem,↓cB,dB,id_eq]
    refine app_lit (n:=1) (new:=z6) T.el59 rfl x4.tm.vec (one_all rfl) rfl (by intro a' l c e; simp only [Value.slice.injEq] at e; obtain ⟨_,rfl,_⟩:=e; first | omega | simp [addT,kindT,Fo.len_snoc,Fo.len]) ?_
    intro v' K1 g1 g2 g3 g4
    obtain ⟨b,o,c,e1,⟨K2,h1,h2,h3,h4⟩,w1,K3,h5,h6,h7⟩:=TM.app1 x4.tm t4' g1 g2 g3
    subst e1
    have ow':∀ y ∈ own (Value.slice (some ⟨b,o,none⟩) (((({ beginM L 6 s with kind:=7,words:=[(pnameM L (upM s)).1] },Fo.nil))).2.len + 1) c),H.size < y:=fun y hy=>(g3 y hy).elim (fun h=>(x4.tm.ow y h).1) (fun h=>by have:=x4.tm.box.lt; have:=x4.tm.gt; omega)
    simp (disch:=omega) only [go_sem,↓cB,dB,id_eq]
    refine both_of ?_ ?_
    ·simp (disch:=omega) only [go_sem,↓cB,dB,id_eq,h1,h2]
     exact fin ⟨_,_,x4.over (t':=addT (({ beginM L 6 s with kind:=7,words:=[(pnameM L (upM s)).1] },Fo.nil)) r2.1) ((g2.cat h4).cat (Fr.set (a:=⟨H1.size,5,none⟩) (F:=[H1.size]) (by simp))) (by intro y hy; simp only [List.mem_append,List.mem_singleton] at hy; rcases hy with (hy | hy) | hy; exact (x4.tm.ow y hy).1; exact ow' y hy; rw [hy]; exact x4.tm.gt) h3,by simp (disch:=omega) only [go_sem,↓cB,dB,id_eq]⟩
    ·simp (disch:=omega) only [go_sem,↓cB,dB,id_eq,w1,h5]
     exact fin ⟨_,_,x4.over (t':=addT (({ beginM L 6 s with kind:=7,words:=[(pnameM L (upM s)).1] },Fo.nil)) r2.1) ((g2.cat (Fr.set (a:=⟨H1.size,5,none⟩) (F:=[H1.size]) (by simp))).cat h7) (by intro y hy; simp only [List.mem_append,List.mem_singleton] at hy; rcases hy with (hy | hy) | hy; exact (x4.tm.ow y hy).1; rw [hy]; exact x4.tm.gt; exact ow' y hy) h6,by simp (disch:=omega) only [go_sem,↓cB,dB,id_eq]⟩
   ·have x3:=x.grow (Fr.push (o:=.cells #[iv 0,noS,noS,noS,iv 0,noS] 61))
    simp (disch:=omega) only [go_sem,↓cB,dB,id_eq]
    refine held_by (heldOK_blk x3.tm.box) ?_
    simp (disch:=omega) only [go_sem,↓cB,dB,id_eq]
    refine call_to (hE.expr x3.pm hr2) ?_
    intro v H4 hv
    refine Hush.out ?_
    obtain ⟨q4,cp,rfl,t4⟩:=hv
    have x4:=x3.step q4
    have hxb:Blk H4 _ 61 z6:=q4.1.blk (Blk.new rfl) (by have:=x.pm.lt; simp; omega)
    have t4':=t4.mono (S':=fun b=>H.size < b∧b ≠ H1.size∧b ∉ own (Value.slice al ((({ beginM L 6 s with kind:=7,words:=[(pnameM L (upM s)).1] },Fo.nil))).2.len cl)) (by intro b hb _; have:=x.tm.box.lt; have:=x.tm.gt; (try simp only [Array.size_push] at hb); exact ⟨by omega,by omega,fun e=>by have:=x.tm.vec.lt b e; omega⟩)
    refine ⟨?_⟩
    refine held_by (heldOK_blk x4.tm.box) ?_
    simp (disch:=omega) only [go_sem,↓cB,dB,id_eq]
    refine app_src (new:=z6) T.el59 rfl x4.tm.vec hxb (one_all rfl) rfl (by intro a' l c e; simp only [Value.slice.injEq] at e; obtain ⟨_,rfl,_⟩:=e; first | omega | simp [addT,kindT,Fo.len_snoc,Fo.len]) ?_
    intro v' K1 g1 g2 g3 g4
    obtain ⟨b,o,c,e1,⟨K2,h1,h2,h3,h4⟩,w1,K3,h5,h6,h7⟩:=TM.app1 x4.tm t4' g1 g2 g3
    subst e1
    have ow':∀ y ∈ own (Value.slice (some ⟨b,o,none⟩) (((({ beginM L 6 s with kind:=7,words:=[(pnameM L (upM s)).1] },Fo.nil))).2.len + 1) c),H.size < y:=fun y hy=>(g3 y hy).elim (fun h=>(x4.tm.ow y h).1) (fun h=>by have:=x4.tm.box.lt; have:=x4.tm.gt; omega)
    simp (disch:=omega) only [go_sem,↓cB,dB,id_eq]
    refine both_of ?_ ?_
    ·simp (disch:=omega) only [go_sem,↓cB,dB,id_eq,h1,h2]
     exact fin ⟨_,_,x4.over (t':=addT (({ beginM L 6 s with kind:=7,words:=[(pnameM L (upM s)).1] },Fo.nil)) r2.1) ((g2.cat h4).cat (Fr.set (a:=⟨H1.size,5,none⟩) (F:=[H1.size]) (by simp))) (by intro y hy; simp only [List.mem_append,List.mem_singleton] at hy; rcases hy with (hy | hy) | hy; exact (x4.tm.ow y hy).1; exact ow' y hy; rw [hy]; exact x4.tm.gt) h3,by simp (disch:=omega) only [go_sem,↓cB,dB,id_eq]⟩
    ·simp (disch:=omega) only [go_sem,↓cB,dB,id_eq,w1,h5]
     exact fin ⟨_,_,x4.over (t':=addT (({ beginM L 6 s with kind:=7,words:=[(pnameM L (upM s)).1] },Fo.nil)) r2.1) ((g2.cat (Fr.set (a:=⟨H1.size,5,none⟩) (F:=[H1.size]) (by simp))).cat h7) (by intro y hy; simp only [List.mem_append,List.mem_singleton] at hy; rcases hy with (hy | hy) | hy; exact (x4.tm.ow y hy).1; rw [hy]; exact x4.tm.gt; exact ow' y hy) h6,by simp (disch:=omega) only [go_sem,↓cB,dB,id_eq]⟩
  ·rintro ρ H5 ⟨lv',ds',x,r0,r2,r3,rd⟩
   simp (disch:=omega) only [go_sem,↓cB,dB,r0,r2,r3,rd]
   refine call_to (pMust_spec hW x.pm) ?_
   intro v HM hv
   refine Hush.out ?_
   have x:=x.step hv
   refine ⟨?_⟩
   simp (disch:=omega) only [go_sem,↓cB,dB,r0,r2,r3,rd]
   refine Hush.out ?_
   obtain ⟨ld,H6,e1,e2,e3⟩:=x.fin2 hG
   refine ⟨?_⟩
   simp (disch:=omega) only [go_sem,↓cB,dB,r0,r2,r3,rd,ld,e1,e2]
   exact fin e3
 have ht:takeM L [115,101,110,100] s=(false,s):=by simp [takeM,k1]
 rw [ht] at qq
 simp only [k1,Bool.false_eq_true,if_false] at hm
 have x:=x.step qq
 refine ⟨?_⟩
 simp (disch:=omega) only [go_sem,↓cB,dB,ht]
 refine call_to (pTake_spec hW x.pm) ?_
 intro v HT hv
 refine Hush.out ?_
 obtain ⟨qq,rfl⟩:=hv
 cases k2:seesM L [105,102] s
 rotate_left
 ·have ht:takeM L [105,102] s=(true,upM s):=by simp [takeM,k2]
  rw [ht] at qq
  simp only [k2,if_true] at hm
  have x:=x.step qq
  obtain ⟨e2,he2,hm⟩:=Option.bind_eq_some_iff.1 hm
  obtain ⟨e3,he3,hm⟩:=Option.bind_eq_some_iff.1 hm
  obtain ⟨w0,x⟩:=x.kind 11
  refine ⟨?_⟩
  simp (disch:=omega) only [go_sem,↓cB,dB,ht,w0]
  obtain ⟨wv,nv,kv,lv,ds,x⟩:∃ wv nv kv lv ds,XN G _ p tv L H.size H1.size wv nv kv lv ds ((({ beginM L 6 s with kind:=11 },Fo.nil)):TT) _:=⟨_,_,_,_,_,x⟩
  refine draw_cut (fun ρ' H'=>∃ lv' ds',XN G H' p tv L H.size H1.size wv nv kv lv' ds' (addT (({ beginM L 6 s with kind:=11 },Fo.nil)) e2.1) e2.2∧ρ'.get 0=hp p∧ρ'.get 2=hp H.size∧ρ'.get 3=hp H1.size∧ρ'.ds = []) ?_ ?_
  ·obtain ⟨al,cl,elv,hdl⟩:=x.tm.len
   obtain ⟨f1,f2,f3,f4,f5,f6,f7,f8,f9,ew,en,ek⟩:=x.tm.forms
   have hfew:((({ beginM L 6 s with kind:=11 },Fo.nil))).2.len < 1000000:=by simp [addT,kindT,Fo.len_snoc,Fo.len]
   subst ew en ek elv
   refine draw1 (lk [(0,false),(1,false),(2,false),(4,false)] (.act 3 (.act 5 (.actd 6 (lk [(7,false),(9,false)] (.act 8 (.act 10 .fin .non) (.act 10 (.act 8 .fin .non) .non)))) .non) (.act 5 (.act 3 (.actd 6 (lk [(7,false),(9,false)] (.act 8 (.act 10 .fin .non) (.act 10 (.act 8 .fin .non) .non)))) .non) .non))) T.mixed (hlist H1.size 0 _) (heldOK_blk x.tm.box) ?_
   simp (disch:=omega) only [go_sem,↓cB,dB,id_eq]
   refine both_of ?_ ?_
   ·simp (disch:=omega) only [go_sem,↓cB,dB,id_eq]
    refine call_to (hE.expr x.pm he2) ?_
    intro v H4 hv
    refine Hush.out ?_
    obtain ⟨q4,cp,rfl,t4⟩:=hv
    have x4:=x.step q4
    have t4':=t4.mono (S':=fun b=>H.size < b∧b ≠ H1.size∧b ∉ own (Value.slice al ((({ beginM L 6 s with kind:=11 },Fo.nil))).2.len cl)) (by intro b hb _; have:=x.tm.box.lt; have:=x.tm.gt; (try simp only [Array.size_push] at hb); exact ⟨by omega,by omega,fun e=>by have:=x.tm.vec.lt b e; omega⟩)
    refine ⟨?_⟩
    refine held_by (heldOK_blk x4.tm.box) ?_
    simp (disch:=omega) only [go_sem,↓cB,dB,id_eq]
    refine held_by (heldOK_blk (x4.grow Fr.push).tm.box) ?_
    simp (disch:=omega) only [go_sem,↓cB,dB,id_eq]
    refine app_lit (n:=1) (new:=z6) T.el59 rfl x4.tm.vec (one_all rfl) rfl (by intro a' l c e; simp only [Value.slice.injEq] at e; obtain ⟨_,rfl,_⟩:=e; first | omega | simp [addT,kindT,Fo.len_snoc,Fo.len]) ?_
    intro v' K1 g1 g2 g3 g4
    obtain ⟨b,o,c,e1,⟨K2,h1,h2,h3,h4⟩,w1,K3,h5,h6,h7⟩:=TM.app1 x4.tm t4' g1 g2 g3
    subst e1
    have ow':∀ y ∈ own (Value.slice (some ⟨b,o,none⟩) (((({ beginM L 6 s with kind:=11 },Fo.nil))).2.len + 1) c),H.size < y:=fun y hy=>(g3 y hy).elim (fun h=>(x4.tm.ow y h).1) (fun h=>by have:=x4.tm.box.lt; have:=x4.tm.gt; omega)
    simp (disch:=omega) only [go_sem,↓cB,dB,id_eq]
    refine both_of ?_ ?_
    ·simp (disch:=omega) only [go_sem,↓cB,dB,id_eq,h1,h2]
     exact fin ⟨_,_,x4.over (t':=addT (({ beginM L 6 s with kind:=11 },Fo.nil)) e2.1) ((g2.cat h4).cat (Fr.set (a:=⟨H1.size,5,none⟩) (F:=[H1.size]) (by simp))) (by intro y hy; simp only [List.mem_append,List.mem_singleton] at hy; rcases hy with (hy | hy) | hy; exact (x4.tm.ow y hy).1; exact ow' y hy; rw [hy]; exact x4.tm.gt) h3,by simp (disch:=omega) only [go_sem,↓cB,dB,id_eq]⟩
    ·simp (disch:=omega) only [go_sem,↓cB,dB,id_eq,w1,h5]
     exact fin ⟨_,_,x4.over (t':=addT (({ beginM L 6 s with kind:=11 },Fo.nil)) e2.1) ((g2.cat (Fr.set (a:=⟨H1.size,5,none⟩) (F:=[H1.size]) (by simp))).cat h7) (by intro y hy; simp only [List.mem_append,List.mem_singleton] at hy; rcases hy with (hy | hy) | hy; exact (x4.tm.ow y hy).1; rw [hy]; exact x4.tm.gt; exact ow' y hy) h6,by simp (disch:=omega) only [go_sem,↓cB,dB,id_eq]⟩
   ·have x3:=x.grow (Fr.push (o:=.cells #[iv 0,noS,noS,noS,iv 0,noS] 61))
    simp (disch:=omega) only [go_sem,↓cB,dB,id_eq]
    refine held_by (heldOK_blk x3.tm.box) ?_
    simp (disch:=omega) only [go_sem,↓cB,dB,id_eq]
    refine call_to (hE.expr x3.pm he2) ?_
    intro v H4 hv
    refine Hush.out ?_
    obtain ⟨q4,cp,rfl,t4⟩:=hv
    have x4:=x3.step q4
    have hxb:Blk H4 _ 61 z6:=q4.1.blk (Blk.new rfl) (by have:=x.pm.lt; simp; omega)
    have t4':=t4.mono (S':=fun b=>H.size < b∧b ≠ H1.size∧b ∉ own (Value.slice al ((({ beginM L 6 s with kind:=11 },Fo.nil))).2.len cl)) (by intro b hb _; have:=x.tm.box.lt; have:=x.tm.gt; (try simp only [Array.size_push] at hb); exact ⟨by omega,by omega,fun e=>by have:=x.tm.vec.lt b e; omega⟩)
    refine ⟨?_⟩
    refine held_by (heldOK_blk x4.tm.box) ?_
    simp (disch:=omega) only [go_sem,↓cB,dB,id_eq]
    refine app_src (new:=z6) T.el59 rfl x4.tm.vec hxb (one_all rfl) rfl (by intro a' l c e; simp only [Value.slice.injEq] at e; obtain ⟨_,rfl,_⟩:=e; first | omega | simp [addT,kindT,Fo.len_snoc,Fo.len]) ?_
    intro v' K1 g1 g2 g3 g4
    obtain ⟨b,o,c,e1,⟨K2,h1,h2,h3,h4⟩,w1,K3,h5,h6,h7⟩:=TM.app1 x4.tm t4' g1 g2 g3
    subst e1
    have ow':∀ y ∈ own (Value.slice (some ⟨b,o,none⟩) (((({ beginM L 6 s with kind:=11 },Fo.nil))).2.len + 1) c),H.size < y:=fun y hy=>(g3 y hy).elim (fun h=>(x4.tm.ow y h).1) (fun h=>by have:=x4.tm.box.lt; have:=x4.tm.gt; omega)
    simp (disch:=omega) only [go_sem,↓cB,dB,id_eq]
    refine both_of ?_ ?_
    ·simp (disch:=omega) only [go_sem,↓cB,dB,id_eq,h1,h2]
     exact fin ⟨_,_,x4.over (t':=addT (({ beginM L 6 s with kind:=11 },Fo.nil)) e2.1) ((g2.cat h4).cat (Fr.set (a:=⟨H1.size,5,none⟩) (F:=[H1.size]) (by simp))) (by intro y hy; simp only [List.mem_append,List.mem_singleton] at hy; rcases hy with (hy | hy) | hy; exact (x4.tm.ow y hy).1; exact ow' y hy; rw [hy]; exact x4.tm.gt) h3,by simp (disch:=omega) only [go_sem,↓cB,dB,id_eq]⟩
    ·simp (disch:=omega) only [go_sem,↓cB,dB,id_eq,w1,h5]
     exact fin ⟨_,_,x4.over (t':=addT (({ beginM L 6 s with kind:=11 },Fo.nil)) e2.1) ((g2.cat (Fr.set (a:=⟨H1.size,5,none⟩) (F:=[H1.size]) (by simp))).cat h7) (by intro y hy; simp only [List.mem_append,List.mem_singleton] at hy; rcases hy with (hy | hy) | hy; exact (x4.tm.ow y hy).1; rw [hy]; exact x4.tm.gt; exact ow' y hy) h6,by simp (disch:=omega) only [go_sem,↓cB,dB,id_eq]⟩
  ·rintro ρ H5 ⟨lv',ds',x,r0,r2,r3,rd⟩
   simp (disch:=omega) only [go_sem,↓cB,dB,r0,r2,r3,rd]
   obtain ⟨wv,nv,kv,lv,ds,x⟩:∃ wv nv kv lv ds,XN G _ p tv L H.size H1.size wv nv kv lv ds ((addT (({ beginM L 6 s with kind:=11 },Fo.nil)) e2.1):TT) _:=⟨_,_,_,_,_,x⟩
   refine draw_cut (fun ρ' H'=>∃ lv' ds',XN G H' p tv L H.size H1.size wv nv kv lv' ds' (addT (addT (({ beginM L 6 s with kind:=11 },Fo.nil)) e2.1) e3.1) e3.2∧ρ'.get 0=hp p∧ρ'.get 2=hp H.size∧ρ'.get 3=hp H1.size∧ρ'.ds = []) ?_ ?_
   ·obtain ⟨al,cl,elv,hdl⟩:=x.tm.len
    obtain ⟨f1,f2,f3,f4,f5,f6,f7,f8,f9,ew,en,ek⟩:=x.tm.forms
    have hfew:((addT (({ beginM L 6 s with kind:=11 },Fo.nil)) e2.1)).2.len < 1000000:=by simp [addT,kindT,Fo.len_snoc,Fo.len]
    subst ew en ek elv
    refine draw1 (lk [(0,false),(1,false),(2,false),(4,false)] (.act 3 (.act 5 (.actd 6 (lk [(7,false),(9,false)] (.act 8 (.act 10 .fin .non) (.act 10 (.act 8 .fin .non) .non)))) .non) (.act 5 (.act 3 (.actd 6 (lk [(7,false),(9,false)] (.act 8 (.act 10 .fin .non) (.act 10 (.act 8 .fin .non) .non)))) .non) .non))) T.mixed (hlist H1.size 0 _) (heldOK_blk x.tm.box) ?_
    simp (disch:=omega) only [go_sem,↓cB,dB,r0,r2,r3,rd]
    refine both_of ?_ ?_
    ·simp (disch:=omega) only [go_sem,↓cB,dB,r0,r2,r3,rd]
     refine call_to ((IH n (by omega)).block x.pm he3) ?_
     intro v H4 hv
     refine Hush.out ?_
     obtain ⟨q4,cp,rfl,t4⟩:=hv
     have x4:=x.step q4
     have t4':=t4.mono (S':=fun b=>H.size < b∧b ≠ H1.size∧b ∉ own (Value.slice al ((addT (({ beginM L 6 s with kind:=11 },Fo.nil)) e2.1)).2.len cl)) (by intro b hb _; have:=x.tm.box.lt; have:=x.tm.gt; (try simp only [Array.size_push] at hb); exact ⟨by omega,by omega,fun e=>by have:=x.tm.vec.lt b e; omega⟩)
     refine ⟨?_⟩
     refine held_by (heldOK_blk x4.tm.box) ?_
     simp (disch:=omega) only [go_sem,↓cB,dB,r0,r2,r3,rd]
     refine held_by (heldOK_blk (x4.grow Fr.push).tm.box) ?_
     simp (disch:=omega) only [go_sem,↓cB,dB,r0,r2,r3,rd]
     refine app_lit (n:=1) (new:=z6) T.el59 rfl x4.tm.vec (one_all rfl) rfl (by intro a' l c e; simp only [Value.slice.injEq] at e; obtain ⟨_,rfl,_⟩:=e; first | omega | simp [addT,kindT,Fo.len_snoc,Fo.len]) ?_
     intro v' K1 g1 g2 g3 g4
     obtain ⟨b,o,c,e1,⟨K2,h1,h2,h3,h4⟩,w1,K3,h5,h6,h7⟩:=TM.app1 x4.tm t4' g1 g2 g3
     subst e1
     have ow':∀ y ∈ own (Value.slice (some ⟨b,o,none⟩) (((addT (({ beginM L 6 s with kind:=11 },Fo.nil)) e2.1)).2.len + 1) c),H.size < y:=fun y hy=>(g3 y hy).elim (fun h=>(x4.tm.ow y h).1) (fun h=>by have:=x4.tm.box.lt; have:=x4.tm.gt; omega)
     simp (disch:=omega) only [go_sem,↓cB,dB,r0,r2,r3,rd]
     refine both_of ?_ ?_
     ·simp (disch:=omega) only [go_sem,↓cB,dB,r0,r2,r3,rd,h1,h2]
      exact fin ⟨_,_,x4.over (t':=addT (addT (({ beginM L 6 s with kind:=11 },Fo.nil)) e2.1) e3.1) ((g2.cat h4).cat (Fr.set (a:=⟨H1.size,5,none⟩) (F:=[H1.size]) (by simp))) (by intro y hy; simp only [List.mem_append,List.mem_singleton] at hy; rcases hy with (hy | hy) | hy; exact (x4.tm.ow y hy).1; exact ow' y hy; rw [hy]; exact x4.tm.gt) h3,by simp (disch:=omega) only [go_sem,↓cB,dB,r0,r2,r3,rd]⟩
     ·simp (disch:=omega) only [go_sem,↓cB,dB,r0,r2,r3,rd,w1,h5]
      exact fin ⟨_,_,x4.over (t':=addT (addT (({ beginM L 6 s with kind:=11 },Fo.nil)) e2.1) e3.1) ((g2.cat (Fr.set (a:=⟨H1.size,5,none⟩) (F:=[H1.size]) (by simp))).cat h7) (by intro y hy; simp only [List.mem_append,List.mem_singleton] at hy; rcases hy with (hy | hy) | hy; exact (x4.tm.ow y hy).1; rw [hy]; exact x4.tm.gt; exact ow' y hy) h6,by simp (disch:=omega) only [go_sem,↓cB,dB,r0,r2,r3,rd]⟩
    ·have x3:=x.grow (Fr.push (o:=.cells #[iv 0,noS,noS,noS,iv 0,noS] 61))
     simp (disch:=omega) only [go_sem,↓cB,dB,r0,r2,r3,rd]
     refine held_by (heldOK_blk x3.tm.box) ?_
     simp (disch:=omega) only [go_sem,↓cB,dB,r0,r2,r3,rd]
     refine call_to ((IH n (by omega)).block x3.pm he3) ?_
     intro v H4 hv
     refine Hush.out ?_
     obtain ⟨q4,cp,rfl,t4⟩:=hv
     have x4:=x3.step q4
     have hxb:Blk H4 _ 61 z6:=q4.1.blk (Blk.new rfl) (by have:=x.pm.lt; simp; omega)
     have t4':=t4.mono (S':=fun b=>H.size < b∧b ≠ H1.size∧b ∉ own (Value.slice al ((addT (({ beginM L 6 s with kind:=11 },Fo.nil)) e2.1)).2.len cl)) (by intro b hb _; have:=x.tm.box.lt; have:=x.tm.gt; (try simp only [Array.size_push] at hb); exact ⟨by omega,by omega,fun e=>by have:=x.tm.vec.lt b e; omega⟩)
     refine ⟨?_⟩
     refine held_by (heldOK_blk x4.tm.box) ?_
     simp (disch:=omega) only [go_sem,↓cB,dB,r0,r2,r3,rd]
     refine app_src (new:=z6) T.el59 rfl x4.tm.vec hxb (one_all rfl) rfl (by intro a' l c e; simp only [Value.slice.injEq] at e; obtain ⟨_,rfl,_⟩:=e; first | omega | simp [addT,kindT,Fo.len_snoc,Fo.len]) ?_
     intro v' K1 g1 g2 g3 g4
     obtain ⟨b,o,c,e1,⟨K2,h1,h2,h3,h4⟩,w1,K3,h5,h6,h7⟩:=TM.app1 x4.tm t4' g1 g2 g3
     subst e1
     have ow':∀ y ∈ own (Value.slice (some ⟨b,o,none⟩) (((addT (({ beginM L 6 s with kind:=11 },Fo.nil)) e2.1)).2.len + 1) c),H.size < y:=fun y hy=>(g3 y hy).elim (fun h=>(x4.tm.ow y h).1) (fun h=>by have:=x4.tm.box.lt; have:=x4.tm.gt; omega)
     simp (disch:=omega) only [go_sem,↓cB,dB,r0,r2,r3,rd]
     refine both_of ?_ ?_
     ·simp (disch:=omega) only [go_sem,↓cB,dB,r0,r2,r3,rd,h1,h2]
      exact fin ⟨_,_,x4.over (t':=addT (addT (({ beginM L 6 s with kind:=11 },Fo.nil)) e2.1) e3.1) ((g2.cat h4).cat (Fr.set (a:=⟨H1.size,5,none⟩) (F:=[H1.size]) (by simp))) (by intro y hy; simp only [List.mem_append,List.mem_singleton] at hy; rcases hy with (hy | hy) | hy; exact (x4.tm.ow y hy).1; exact ow' y hy; rw [hy]; exact x4.tm.gt) h3,by simp (disch:=omega) only [go_sem,↓cB,dB,r0,r2,r3,rd]⟩
     ·simp (disch:=omega) only [go_sem,↓cB,dB,r0,r2,r3,rd,w1,h5]
      exact fin ⟨_,_,x4.over (t':=addT (addT (({ beginM L 6 s with kind:=11 },Fo.nil)) e2.1) e3.1) ((g2.cat (Fr.set (a:=⟨H1.size,5,none⟩) (F:=[H1.size]) (by simp))).cat h7) (by intro y hy; simp only [List.mem_append,List.mem_singleton] at hy; rcases hy with (hy | hy) | hy; exact (x4.tm.ow y hy).1; rw [hy]; exact x4.tm.gt; exact ow' y hy) h6,by simp (disch:=omega) only [go_sem,↓cB,dB,r0,r2,r3,rd]⟩
   ·rintro ρ H5 ⟨lv',ds',x,r0,r2,r3,rd⟩
    simp (disch:=omega) only [go_sem,↓cB,dB,r0,r2,r3,rd]
    refine call_to (pTake_spec hW x.pm) ?_
    intro v HE hv
    refine Hush.out ?_
    obtain ⟨qq,rfl⟩:=hv
    cases qe:seesM L [101,108,115,101] e3.2
    rotate_left
    ·have ht:takeM L [101,108,115,101] e3.2=(true,upM e3.2):=by simp [takeM,qe]
     rw [ht] at qq
     simp only [qe,if_true] at hm
     have x:=x.step qq
     obtain ⟨e4,he4,hm⟩:=Option.bind_eq_some_iff.1 hm
     simp only [Option.some.injEq] at hm
     subst hm
     refine ⟨?_⟩
     simp (disch:=omega) only [go_sem,↓cB,dB,ht,r0,r2,r3,rd]
     obtain ⟨wv,nv,kv,lv,ds,x⟩:∃ wv nv kv lv ds,XN G _ p tv L H.size H1.size wv nv kv lv ds ((addT (addT (({ beginM L 6 s with kind:=11 },Fo.nil)) e2.1) e3.1):TT) _:=⟨_,_,_,_,_,x⟩
     refine draw_last (fun ρ' H'=>∃ lv' ds',XN G H' p tv L H.size H1.size wv nv kv lv' ds' (addT (addT (addT (({ beginM L 6 s with kind:=11 },Fo.nil)) e2.1) e3.1) e4.1) e4.2∧ρ'.get 0=hp p∧ρ'.get 2=hp H.size∧ρ'.get 3=hp H1.size∧ρ'.ds = []) ?_ ?_
     ·obtain ⟨al,cl,elv,hdl⟩:=x.tm.len
      obtain ⟨f1,f2,f3,f4,f5,f6,f7,f8,f9,ew,en,ek⟩:=x.tm.forms
      have hfew:((addT (addT (({ beginM L 6 s with kind:=11 },Fo.nil)) e2.1) e3.1)).2.len < 1000000:=by simp [addT,kindT,Fo.len_snoc,Fo.len]
      subst ew en ek elv
      refine draw1 (lk [(0,false),(1,false),(2,false),(4,false)] (.act 3 (.act 5 (.actd 6 (lk [(7,false),(9,false)] (.act 8 (.act 10 .fin .non) (.act 10 (.act 8 .fin .non) .non)))) .non) (.act 5 (.act 3 (.actd 6 (lk [(7,false),(9,false)] (.act 8 (.act 10 .fin .non) (.act 10 (.act 8 .fin .non) .non)))) .non) .non))) T.mixed (hlist H1.size 0 _) (heldOK_blk x.tm.box) ?_
      simp (disch:=omega) only [go_sem,↓cB,dB,r0,r2,r3,rd]
      refine both_of ?_ ?_
      ·simp (disch:=omega) only [go_sem,↓cB,dB,r0,r2,r3,rd]
       refine call_to ((IH n (by omega)).block x.pm he4) ?_
       intro v H4 hv
       refine Hush.out ?_
       obtain ⟨q4,cp,rfl,t4⟩:=hv
       have x4:=x.step q4
       have t4':=t4.mono (S':=fun b=>H.size < b∧b ≠ H1.size∧b ∉ own (Value.slice al ((addT (addT (({ beginM L 6 s with kind:=11 },Fo.nil)) e2.1) e3.1)).2.len cl)) (by intro b hb _; have:=x.tm.box.lt; have:=x.tm.gt; (try simp only [Array.size_push] at hb); exact ⟨by omega,by omega,fun e=>by have:=x.tm.vec.lt b e; omega⟩)
       refine ⟨?_⟩
       refine held_by (heldOK_blk x4.tm.box) ?_
       simp (disch:=omega) only [go_sem,↓cB,dB,r0,r2,r3,rd]
       refine held_by (heldOK_blk (x4.grow Fr.push).tm.box) ?_
       simp (disch:=omega) only [go_sem,↓cB,dB,r0,r2,r3,rd]
       refine app_lit (n:=1) (new:=z6) T.el59 rfl x4.tm.vec (one_all rfl) rfl (by intro a' l c e; simp only [Value.slice.injEq] at e; obtain ⟨_,rfl,_⟩:=e; first | omega | simp [addT,kindT,Fo.len_snoc,Fo.len]) ?_
       intro v' K1 g1 g2 g3 g4
       obtain ⟨b,o,c,e1,⟨K2,h1,h2,h3,h4⟩,w1,K3,h5,h6,h7⟩:=TM.app1 x4.tm t4' g1 g2 g3
       subst e1
       have ow':∀ y ∈ own (Value.slice (some ⟨b,o,none⟩) (((addT (addT (({ beginM L 6 s with kind:=11 },Fo.nil)) e2.1) e3.1)).2.len + 1) c),H.size < y:=fun y hy=>(g3 y hy).elim (fun h=>(x4.tm.ow y h).1) (fun h=>by have:=x4.tm.box.lt; have:=x4.tm.gt; omega)
       simp (disch:=omega) only [go_sem,↓cB,dB,r0,r2,r3,rd]
       refine both_of ?_ ?_
       ·simp (disch:=omega) only [go_sem,↓cB,dB,r0,r2,r3,rd,h1,h2]
        exact fin ⟨_,_,x4.over (t':=addT (addT (addT (({ beginM L 6 s with kind:=11 },Fo.nil)) e2.1) e3.1) e4.1) ((g2.cat h4).cat (Fr.set (a:=⟨H1.size,5,none⟩) (F:=[H1.size]) (by simp))) (by intro y hy; simp only [List.mem_append,List.mem_singleton] at hy; rcases hy with (hy | hy) | hy; exact (x4.tm.ow y hy).1; exact ow' y hy; rw [hy]; exact x4.tm.gt) h3,by simp (disch:=omega) only [go_sem,↓cB,dB,r0,r2,r3,rd]⟩
       ·simp (disch:=omega) only [go_sem,↓cB,dB,r0,r2,r3,rd,w1,h5]
        exact fin ⟨_,_,x4.over (t':=addT (addT (addT (({ beginM L 6 s with kind:=11 },Fo.nil)) e2.1) e3.1) e4.1) ((g2.cat (Fr.set (a:=⟨H1.size,5,none⟩) (F:=[H1.size]) (by simp))).cat h7) (by intro y hy; simp only [List.mem_append,List.mem_singleton] at hy; rcases hy with (hy | hy) | hy; exact (x4.tm.ow y hy).1; rw [hy]; exact x4.tm.gt; exact ow' y hy) h6,by simp (disch:=omega) only [go_sem,↓cB,dB,r0,r2,r3,rd]⟩
      ·have x3:=x.grow (Fr.push (o:=.cells #[iv 0,noS,noS,noS,iv 0,noS] 61))
       simp (disch:=omega) only [go_sem,↓cB,dB,r0,r2,r3,rd]
       refine held_by (heldOK_blk x3.tm.box) ?_
       simp (disch:=omega) only [go_sem,↓cB,dB,r0,r2,r3,rd]
       refine call_to ((IH n (by omega)).block x3.pm he4) ?_
       intro v H4 hv
       refine Hush.out ?_
       obtain ⟨q4,cp,rfl,t4⟩:=hv
       have x4:=x3.step q4
       have hxb:Blk H4 _ 61 z6:=q4.1.blk (Blk.new rfl) (by have:=x.pm.lt; simp; omega)
       have t4':=t4.mono (S':=fun b=>H.size < b∧b ≠ H1.size∧b ∉ own (Value.slice al ((addT (addT (({ beginM L 6 s with kind:=11 },Fo.nil)) e2.1) e3.1)).2.len cl)) (by intro b hb _; have:=x.tm.box.lt; have:=x.tm.gt; (try simp only [Array.size_push] at hb); exact ⟨by omega,by omega,fun e=>by have:=x.tm.vec.lt b e; omega⟩)
       refine ⟨?_⟩
       refine held_by (heldOK_blk x4.tm.box) ?_
       simp (disch:=omega) only [go_sem,↓cB,dB,r0,r2,r3,rd]
       refine app_src (new:=z6) T.el59 rfl x4.tm.vec hxb (one_all rfl) rfl (by intro a' l c e; simp only [Value.slice.injEq] at e; obtain ⟨_,rfl,_⟩:=e; first | omega | simp [addT,kindT,Fo.len_snoc,Fo.len]) ?_
       intro v' K1 g1 g2 g3 g4
       obtain ⟨b,o,c,e1,⟨K2,h1,h2,h3,h4⟩,w1,K3,h5,h6,h7⟩:=TM.app1 x4.tm t4' g1 g2 g3
       subst e1
       have ow':∀ y ∈ own (Value.slice (some ⟨b,o,none⟩) (((addT (addT (({ beginM L 6 s with kind:=11 },Fo.nil)) e2.1) e3.1)).2.len + 1) c),H.size < y:=fun y hy=>(g3 y hy).elim (fun h=>(x4.tm.ow y h).1) (fun h=>by have:=x4.tm.box.lt; have:=x4.tm.gt; omega)
       simp (disch:=omega) only [go_sem,↓cB,dB,r0,r2,r3,rd]
       refine both_of ?_ ?_
       ·simp (disch:=omega) only [go_sem,↓cB,dB,r0,r2,r3,rd,h1,h2]
        exact fin ⟨_,_,x4.over (t':=addT (addT (addT (({ beginM L 6 s with kind:=11 },Fo.nil)) e2.1) e3.1) e4.1) ((g2.cat h4).cat (Fr.set (a:=⟨H1.size,5,none⟩) (F:=[H1.size]) (by simp))) (by intro y hy; simp only [List.mem_append,List.mem_singleton] at hy; rcases hy with (hy | hy) | hy; exact (x4.tm.ow y hy).1; exact ow' y hy; rw [hy]; exact x4.tm.gt) h3,by simp (disch:=omega) only [go_sem,↓cB,dB,r0,r2,r3,rd]⟩
       ·simp (disch:=omega) only [go_sem,↓cB,dB,r0,r2,r3,rd,w1,h5]
        exact fin ⟨_,_,x4.over (t':=addT (addT (addT (({ beginM L 6 s with kind:=11 },Fo.nil)) e2.1) e3.1) e4.1) ((g2.cat (Fr.set (a:=⟨H1.size,5,none⟩) (F:=[H1.size]) (by simp))).cat h7) (by intro y hy; simp only [List.mem_append,List.mem_singleton] at hy; rcases hy with (hy | hy) | hy; exact (x4.tm.ow y hy).1; rw [hy]; exact x4.tm.gt; exact ow' y hy) h6,by simp (disch:=omega) only [go_sem,↓cB,dB,r0,r2,r3,rd]⟩
     ·rintro ρ H5 ⟨lv',ds',x,r0,r2,r3,rd⟩
      simp (disch:=omega) only [go_sem,↓cB,dB,r0,r2,r3,rd]
      refine Hush.out ?_
      obtain ⟨ld,H6,e1,e2,e3⟩:=x.fin2 hG
      refine ⟨?_⟩
      simp (disch:=omega) only [go_sem,↓cB,dB,r0,r2,r3,rd,ld,e1,e2]
      exact fin e3
    have ht:takeM L [101,108,115,101] e3.2=(false,e3.2):=by simp [takeM,qe]
    rw [ht] at qq
    simp only [qe,Bool.false_eq_true,if_false] at hm
    have x:=x.step qq
    simp only [Option.some.injEq] at hm
    subst hm
    refine ⟨?_⟩
    simp (disch:=omega) only [go_sem,↓cB,dB,ht,r0,r2,r3,rd]
    refine Hush.out ?_
    obtain ⟨ld,H6,e1,e2,e3⟩:=x.fin2 hG
    refine ⟨?_⟩
    simp (disch:=omega) only [go_sem,↓cB,dB,r0,r2,r3,rd,ld,e1,e2]
    exact fin e3
 have ht:takeM L [105,102] s=(false,s):=by simp [takeM,k2]
 rw [ht] at qq
 simp only [k2,Bool.false_eq_true,if_false] at hm
 have x:=x.step qq
 refine ⟨?_⟩
 simp (disch:=omega) only [go_sem,↓cB,dB,ht]
 refine call_to (pTake_spec hW x.pm) ?_
 intro v HT hv
 refine Hush.out ?_
 obtain ⟨qq,rfl⟩:=hv
 cases k3:seesM L [119,104,105,108,101] s
 rotate_left
 ·have ht:takeM L [119,104,105,108,101] s=(true,upM s):=by simp [takeM,k3]
  rw [ht] at qq
  simp only [k3,if_true] at hm
  have x:=x.step qq
  obtain ⟨e2,he2,hm⟩:=Option.bind_eq_some_iff.1 hm
  obtain ⟨e3,he3,hm⟩:=Option.bind_eq_some_iff.1 hm
  simp only [Option.some.injEq] at hm
  subst hm
  obtain ⟨w0,x⟩:=x.kind 12
  refine ⟨?_⟩
  simp (disch:=omega) only [go_sem,↓cB,dB,ht,w0]
  obtain ⟨wv,nv,kv,lv,ds,x⟩:∃ wv nv kv lv ds,XN G _ p tv L H.size H1.size wv nv kv lv ds ((({ beginM L 6 s with kind:=12 },Fo.nil)):TT) _:=⟨_,_,_,_,_,x⟩
  refine draw_cut (fun ρ' H'=>∃ lv' ds',XN G H' p tv L H.size H1.size wv nv kv lv' ds' (addT (({ beginM L 6 s with kind:=12 },Fo.nil)) e2.1) e2.2∧ρ'.get 0=hp p∧ρ'.get 2=hp H.size∧ρ'.get 3=hp H1.size∧ρ'.ds = []) ?_ ?_
  ·obtain ⟨al,cl,elv,hdl⟩:=x.tm.len
   obtain ⟨f1,f2,f3,f4,f5,f6,f7,f8,f9,ew,en,ek⟩:=x.tm.forms
   have hfew:((({ beginM L 6 s with kind:=12 },Fo.nil))).2.len < 1000000:=by simp [addT,kindT,Fo.len_snoc,Fo.len]
   subst ew en ek elv
   refine draw1 (lk [(0,false),(1,false),(2,false),(4,false)] (.act 3 (.act 5 (.actd 6 (lk [(7,false),(9,false)] (.act 8 (.act 10 .fin .non) (.act 10 (.act 8 .fin .non) .non)))) .non) (.act 5 (.act 3 (.actd 6 (lk [(7,false),(9,false)] (.act 8 (.act 10 .fin .non) (.act 10 (.act 8 .fin .non) .non)))) .non) .non))) T.mixed (hlist H1.size 0 _) (heldOK_blk x.tm.box) ?_
   simp (disch:=omega) only [go_sem,↓cB,dB,id_eq]
   refine both_of ?_ ?_
   ·simp (disch:=omega) only [go_sem,↓cB,dB,id_eq]
    refine call_to (hE.expr x.pm he2) ?_
    intro v H4 hv
    refine Hush.out ?_
    obtain ⟨q4,cp,rfl,t4⟩:=hv
    have x4:=x.step q4
    have t4':=t4.mono (S':=fun b=>H.size < b∧b ≠ H1.size∧b ∉ own (Value.slice al ((({ beginM L 6 s with kind:=12 },Fo.nil))).2.len cl)) (by intro b hb _; have:=x.tm.box.lt; have:=x.tm.gt; (try simp only [Array.size_push] at hb); exact ⟨by omega,by omega,fun e=>by have:=x.tm.vec.lt b e; omega⟩)
    refine ⟨?_⟩
    refine held_by (heldOK_blk x4.tm.box) ?_
    simp (disch:=omega) only [go_sem,↓cB,dB,id_eq]
    refine held_by (heldOK_blk (x4.grow Fr.push).tm.box) ?_
    simp (disch:=omega) only [go_sem,↓cB,dB,id_eq]
    refine app_lit (n:=1) (new:=z6) T.el59 rfl x4.tm.vec (one_all rfl) rfl (by intro a' l c e; simp only [Value.slice.injEq] at e; obtain ⟨_,rfl,_⟩:=e; first | omega | simp [addT,kindT,Fo.len_snoc,Fo.len]) ?_
    intro v' K1 g1 g2 g3 g4
    obtain ⟨b,o,c,e1,⟨K2,h1,h2,h3,h4⟩,w1,K3,h5,h6,h7⟩:=TM.app1 x4.tm t4' g1 g2 g3
    subst e1
    have ow':∀ y ∈ own (Value.slice (some ⟨b,o,none⟩) (((({ beginM L 6 s with kind:=12 },Fo.nil))).2.len + 1) c),H.size < y:=fun y hy=>(g3 y hy).elim (fun h=>(x4.tm.ow y h).1) (fun h=>by have:=x4.tm.box.lt; have:=x4.tm.gt; omega)
    simp (disch:=omega) only [go_sem,↓cB,dB,id_eq]
    refine both_of ?_ ?_
    ·simp (disch:=omega) only [go_sem,↓cB,dB,id_eq,h1,h2]
     exact fin ⟨_,_,x4.over (t':=addT (({ beginM L 6 s with kind:=12 },Fo.nil)) e2.1) ((g2.cat h4).cat (Fr.set (a:=⟨H1.size,5,none⟩) (F:=[H1.size]) (by simp))) (by intro y hy; simp only [List.mem_append,List.mem_singleton] at hy; rcases hy with (hy | hy) | hy; exact (x4.tm.ow y hy).1; exact ow' y hy; rw [hy]; exact x4.tm.gt) h3,by simp (disch:=omega) only [go_sem,↓cB,dB,id_eq]⟩
    ·simp (disch:=omega) only [go_sem,↓cB,dB,id_eq,w1,h5]
     exact fin ⟨_,_,x4.over (t':=addT (({ beginM L 6 s with kind:=12 },Fo.nil)) e2.1) ((g2.cat (Fr.set (a:=⟨H1.size,5,none⟩) (F:=[H1.size]) (by simp))).cat h7) (by intro y hy; simp only [List.mem_append,List.mem_singleton] at hy; rcases hy with (hy | hy) | hy; exact (x4.tm.ow y hy).1; rw [hy]; exact x4.tm.gt; exact ow' y hy) h6,by simp (disch:=omega) only [go_sem,↓cB,dB,id_eq]⟩
   ·have x3:=x.grow (Fr.push (o:=.cells #[iv 0,noS,noS,noS,iv 0,noS] 61))
    simp (disch:=omega) only [go_sem,↓cB,dB,id_eq]
    refine held_by (heldOK_blk x3.tm.box) ?_
    simp (disch:=omega) only [go_sem,↓cB,dB,id_eq]
    refine call_to (hE.expr x3.pm he2) ?_
    intro v H4 hv
    refine Hush.out ?_
    obtain ⟨q4,cp,rfl,t4⟩:=hv
    have x4:=x3.step q4
    have hxb:Blk H4 _ 61 z6:=q4.1.blk (Blk.new rfl) (by have:=x.pm.lt; simp; omega)
    have t4':=t4.mono (S':=fun b=>H.size < b∧b ≠ H1.size∧b ∉ own (Value.slice al ((({ beginM L 6 s with kind:=12 },Fo.nil))).2.len cl)) (by intro b hb _; have:=x.tm.box.lt; have:=x.tm.gt; (try simp only [Array.size_push] at hb); exact ⟨by omega,by omega,fun e=>by have:=x.tm.vec.lt b e; omega⟩)
    refine ⟨?_⟩
    refine held_by (heldOK_blk x4.tm.box) ?_
    simp (disch:=omega) only [go_sem,↓cB,dB,id_eq]
    refine app_src (new:=z6) T.el59 rfl x4.tm.vec hxb (one_all rfl) rfl (by intro a' l c e; simp only [Value.slice.injEq] at e; obtain ⟨_,rfl,_⟩:=e; first | omega | simp [addT,kindT,Fo.len_snoc,Fo.len]) ?_
    intro v' K1 g1 g2 g3 g4
    obtain ⟨b,o,c,e1,⟨K2,h1,h2,h3,h4⟩,w1,K3,h5,h6,h7⟩:=TM.app1 x4.tm t4' g1 g2 g3
    subst e1
    have ow':∀ y ∈ own (Value.slice (some ⟨b,o,none⟩) (((({ beginM L 6 s with kind:=12 },Fo.nil))).2.len + 1) c),H.size < y:=fun y hy=>(g3 y hy).elim (fun h=>(x4.tm.ow y h).1) (fun h=>by have:=x4.tm.box.lt; have:=x4.tm.gt; omega)
    simp (disch:=omega) only [go_sem,↓cB,dB,id_eq]
    refine both_of ?_ ?_
    ·simp (disch:=omega) only [go_sem,↓cB,dB,id_eq,h1,h2]
     exact fin ⟨_,_,x4.over (t':=addT (({ beginM L 6 s with kind:=12 },Fo.nil)) e2.1) ((g2.cat h4).cat (Fr.set (a:=⟨H1.size,5,none⟩) (F:=[H1.size]) (by simp))) (by intro y hy; simp only [List.mem_append,List.mem_singleton] at hy; rcases hy with (hy | hy) | hy; exact (x4.tm.ow y hy).1; exact ow' y hy; rw [hy]; exact x4.tm.gt) h3,by simp (disch:=omega) only [go_sem,↓cB,dB,id_eq]⟩
    ·simp (disch:=omega) only [go_sem,↓cB,dB,id_eq,w1,h5]
     exact fin ⟨_,_,x4.over (t':=addT (({ beginM L 6 s with kind:=12 },Fo.nil)) e2.1) ((g2.cat (Fr.set (a:=⟨H1.size,5,none⟩) (F:=[H1.size]) (by simp))).cat h7) (by intro y hy; simp only [List.mem_append,List.mem_singleton] at hy; rcases hy with (hy | hy) | hy; exact (x4.tm.ow y hy).1; rw [hy]; exact x4.tm.gt; exact ow' y hy) h6,by simp (disch:=omega) only [go_sem,↓cB,dB,id_eq]⟩
  ·rintro ρ H5 ⟨lv',ds',x,r0,r2,r3,rd⟩
   simp (disch:=omega) only [go_sem,↓cB,dB,r0,r2,r3,rd]
   obtain ⟨wv,nv,kv,lv,ds,x⟩:∃ wv nv kv lv ds,XN G _ p tv L H.size H1.size wv nv kv lv ds ((addT (({ beginM L 6 s with kind:=12 },Fo.nil)) e2.1):TT) _:=⟨_,_,_,_,_,x⟩
   refine draw_last (fun ρ' H'=>∃ lv' ds',XN G H' p tv L H.size H1.size wv nv kv lv' ds' (addT (addT (({ beginM L 6 s with kind:=12 },Fo.nil)) e2.1) e3.1) e3.2∧ρ'.get 0=hp p∧ρ'.get 2=hp H.size∧ρ'.get 3=hp H1.size∧ρ'.ds = []) ?_ ?_
   ·obtain ⟨al,cl,elv,hdl⟩:=x.tm.len
    obtain ⟨f1,f2,f3,f4,f5,f6,f7,f8,f9,ew,en,ek⟩:=x.tm.forms
    have hfew:((addT (({ beginM L 6 s with kind:=12 },Fo.nil)) e2.1)).2.len < 1000000:=by simp [addT,kindT,Fo.len_snoc,Fo.len]
    subst ew en ek elv
    refine draw1 (lk [(0,false),(1,false),(2,false),(4,false)] (.act 3 (.act 5 (.actd 6 (lk [(7,false),(9,false)] (.act 8 (.act 10 .fin .non) (.act 10 (.act 8 .fin .non) .non)))) .non) (.act 5 (.act 3 (.actd 6 (lk [(7,false),(9,false)] (.act 8 (.act 10 .fin .non) (.act 10 (.act 8 .fin .non) .non)))) .non) .non))) T.mixed (hlist H1.size 0 _) (heldOK_blk x.tm.box) ?_
    simp (disch:=omega) only [go_sem,↓cB,dB,r0,r2,r3,rd]
    refine both_of ?_ ?_
    ·simp (disch:=omega) only [go_sem,↓cB,dB,r0,r2,r3,rd]
     refine call_to ((IH n (by omega)).block x.pm he3) ?_
     intro v H4 hv
     refine Hush.out ?_
     obtain ⟨q4,cp,rfl,t4⟩:=hv
     have x4:=x.step q4
     have t4':=t4.mono (S':=fun b=>H.size < b∧b ≠ H1.size∧b ∉ own (Value.slice al ((addT (({ beginM L 6 s with kind:=12 },Fo.nil)) e2.1)).2.len cl)) (by intro b hb _; have:=x.tm.box.lt; have:=x.tm.gt; (try simp only [Array.size_push] at hb); exact ⟨by omega,by omega,fun e=>by have:=x.tm.vec.lt b e; omega⟩)
     refine ⟨?_⟩
     refine held_by (heldOK_blk x4.tm.box) ?_
     simp (disch:=omega) only [go_sem,↓cB,dB,r0,r2,r3,rd]
     refine held_by (heldOK_blk (x4.grow Fr.push).tm.box) ?_
     simp (disch:=omega) only [go_sem,↓cB,dB,r0,r2,r3,rd]
     refine app_lit (n:=1) (new:=z6) T.el59 rfl x4.tm.vec (one_all rfl) rfl (by intro a' l c e; simp only [Value.slice.injEq] at e; obtain ⟨_,rfl,_⟩:=e; first | omega | simp [addT,kindT,Fo.len_snoc,Fo.len]) ?_
     intro v' K1 g1 g2 g3 g4
     obtain ⟨b,o,c,e1,⟨K2,h1,h2,h3,h4⟩,w1,K3,h5,h6,h7⟩:=TM.app1 x4.tm t4' g1 g2 g3
     subst e1
     have ow':∀ y ∈ own (Value.slice (some ⟨b,o,none⟩) (((addT (({ beginM L 6 s with kind:=12 },Fo.nil)) e2.1)).2.len + 1) c),H.size < y:=fun y hy=>(g3 y hy).elim (fun h=>(x4.tm.ow y h).1) (fun h=>by have:=x4.tm.box.lt; have:=x4.tm.gt; omega)
     simp (disch:=omega) only [go_sem,↓cB,dB,r0,r2,r3,rd]
     refine both_of ?_ ?_
     ·simp (disch:=omega) only [go_sem,↓cB,dB,r0,r2,r3,rd,h1,h2]
      exact fin ⟨_,_,x4.over (t':=addT (addT (({ beginM L 6 s with kind:=12 },Fo.nil)) e2.1) e3.1) ((g2.cat h4).cat (Fr.set (a:=⟨H1.size,5,none⟩) (F:=[H1.size]) (by simp))) (by intro y hy; simp only [List.mem_append,List.mem_singleton] at hy; rcases hy with (hy | hy) | hy; exact (x4.tm.ow y hy).1; exact ow' y hy; rw [hy]; exact x4.tm.gt) h3,by simp (disch:=omega) only [go_sem,↓cB,dB,r0,r2,r3,rd]⟩
     ·simp (disch:=omega) only [go_sem,↓cB,dB,r0,r2,r3,rd,w1,h5]
      exact fin ⟨_,_,x4.over (t':=addT (addT (({ beginM L 6 s with kind:=12 },Fo.nil)) e2.1) e3.1) ((g2.cat (Fr.set (a:=⟨H1.size,5,none⟩) (F:=[H1.size]) (by simp))).cat h7) (by intro y hy; simp only [List.mem_append,List.mem_singleton] at hy; rcases hy with (hy | hy) | hy; exact (x4.tm.ow y hy).1; rw [hy]; exact x4.tm.gt; exact ow' y hy) h6,by simp (disch:=omega) only [go_sem,↓cB,dB,r0,r2,r3,rd]⟩
    ·have x3:=x.grow (Fr.push (o:=.cells #[iv 0,noS,noS,noS,iv 0,noS] 61))
     simp (disch:=omega) only [go_sem,↓cB,dB,r0,r2,r3,rd]
     refine held_by (heldOK_blk x3.tm.box) ?_
     simp (disch:=omega) only [go_sem,↓cB,dB,r0,r2,r3,rd]
     refine call_to ((IH n (by omega)).block x3.pm he3) ?_
     intro v H4 hv
     refine Hush.out ?_
     obtain ⟨q4,cp,rfl,t4⟩:=hv
     have x4:=x3.step q4
     have hxb:Blk H4 _ 61 z6:=q4.1.blk (Blk.new rfl) (by have:=x.pm.lt; simp; omega)
     have t4':=t4.mono (S':=fun b=>H.size < b∧b ≠ H1.size∧b ∉ own (Value.slice al ((addT (({ beginM L 6 s with kind:=12 },Fo.nil)) e2.1)).2.len cl)) (by intro b hb _; have:=x.tm.box.lt; have:=x.tm.gt; (try simp only [Array.size_push] at hb); exact ⟨by omega,by omega,fun e=>by have:=x.tm.vec.lt b e; omega⟩)
     refine ⟨?_⟩
     refine held_by (heldOK_blk x4.tm.box) ?_
     simp (disch:=omega) only [go_sem,↓cB,dB,r0,r2,r3,rd]
     refine app_src (new:=z6) T.el59 rfl x4.tm.vec hxb (one_all rfl) rfl (by intro a' l c e; simp only [Value.slice.injEq] at e; obtain ⟨_,rfl,_⟩:=e; first | omega | simp [addT,kindT,Fo.len_snoc,Fo.len]) ?_
     intro v' K1 g1 g2 g3 g4
     obtain ⟨b,o,c,e1,⟨K2,h1,h2,h3,h4⟩,w1,K3,h5,h6,h7⟩:=TM.app1 x4.tm t4' g1 g2 g3
     subst e1
     have ow':∀ y ∈ own (Value.slice (some ⟨b,o,none⟩) (((addT (({ beginM L 6 s with kind:=12 },Fo.nil)) e2.1)).2.len + 1) c),H.size < y:=fun y hy=>(g3 y hy).elim (fun h=>(x4.tm.ow y h).1) (fun h=>by have:=x4.tm.box.lt; have:=x4.tm.gt; omega)
     simp (disch:=omega) only [go_sem,↓cB,dB,r0,r2,r3,rd]
     refine both_of ?_ ?_
     ·simp (disch:=omega) only [go_sem,↓cB,dB,r0,r2,r3,rd,h1,h2]
      exact fin ⟨_,_,x4.over (t':=addT (addT (({ beginM L 6 s with kind:=12 },Fo.nil)) e2.1) e3.1) ((g2.cat h4).cat (Fr.set (a:=⟨H1.size,5,none⟩) (F:=[H1.size]) (by simp))) (by intro y hy; simp only [List.mem_append,List.mem_singleton] at hy; rcases hy with (hy | hy) | hy; exact (x4.tm.ow y hy).1; exact ow' y hy; rw [hy]; exact x4.tm.gt) h3,by simp (disch:=omega) only [go_sem,↓cB,dB,r0,r2,r3,rd]⟩
     ·simp (disch:=omega) only [go_sem,↓cB,dB,r0,r2,r3,rd,w1,h5]
      exact fin ⟨_,_,x4.over (t':=addT (addT (({ beginM L 6 s with kind:=12 },Fo.nil)) e2.1) e3.1) ((g2.cat (Fr.set (a:=⟨H1.size,5,none⟩) (F:=[H1.size]) (by simp))).cat h7) (by intro y hy; simp only [List.mem_append,List.mem_singleton] at hy; rcases hy with (hy | hy) | hy; exact (x4.tm.ow y hy).1; rw [hy]; exact x4.tm.gt; exact ow' y hy) h6,by simp (disch:=omega) only [go_sem,↓cB,dB,r0,r2,r3,rd]⟩
   ·rintro ρ H5 ⟨lv',ds',x,r0,r2,r3,rd⟩
    simp (disch:=omega) only [go_sem,↓cB,dB,r0,r2,r3,rd]
    refine Hush.out ?_
    obtain ⟨ld,H6,e1,e2,e3⟩:=x.fin2 hG
    refine ⟨?_⟩
    simp (disch:=omega) only [go_sem,↓cB,dB,r0,r2,r3,rd,ld,e1,e2]
    exact fin e3
 have ht:takeM L [119,104,105,108,101] s=(false,s):=by simp [takeM,k3]
 rw [ht] at qq
 simp only [k3,Bool.false_eq_true,if_false] at hm
 have x:=x.step qq
 refine ⟨?_⟩
 simp (disch:=omega) only [go_sem,↓cB,dB,ht]
 refine call_to (pTake_spec hW x.pm) ?_
 intro v HT hv
 refine Hush.out ?_
 obtain ⟨qq,rfl⟩:=hv
 cases k4:seesM L [97,116,111,109,105,99] s
 rotate_left
 ·have ht:takeM L [97,116,111,109,105,99] s=(true,upM s):=by simp [takeM,k4]
  rw [ht] at qq
  simp only [k4,if_true] at hm
  have x:=x.step qq
  obtain ⟨r2,hr2,hm⟩:=Option.bind_eq_some_iff.1 hm
  simp only [Option.some.injEq] at hm
  subst hm
  obtain ⟨w0,x⟩:=x.kind 13
  refine ⟨?_⟩
  simp (disch:=omega) only [go_sem,↓cB,dB,ht,w0]
  obtain ⟨wv,nv,kv,lv,ds,x⟩:∃ wv nv kv lv ds,XN G _ p tv L H.size H1.size wv nv kv lv ds ((({ beginM L 6 s with kind:=13 },Fo.nil)):TT) _:=⟨_,_,_,_,_,x⟩
  refine draw_last (fun ρ' H'=>∃ lv' ds',XN G H' p tv L H.size H1.size wv nv kv lv' ds' (addT (({ beginM L 6 s with kind:=13 },Fo.nil)) r2.1) r2.2∧ρ'.get 0=hp p∧ρ'.get 2=hp H.size∧ρ'.get 3=hp H1.size∧ρ'.ds = []) ?_ ?_
  ·obtain ⟨al,cl,elv,hdl⟩:=x.tm.len
   obtain ⟨f1,f2,f3,f4,f5,f6,f7,f8,f9,ew,en,ek⟩:=x.tm.forms
   have hfew:((({ beginM L 6 s with kind:=13 },Fo.nil))).2.len < 1000000:=by simp [addT,kindT,Fo.len_snoc,Fo.len]
   subst ew en ek elv
   refine draw1 (lk [(0,false),(1,false),(2,false),(4,false)] (.act 3 (.act 5 (.actd 6 (lk [(7,false),(9,false)] (.act 8 (.act 10 .fin .non) (.act 10 (.act 8 .fin .non) .non)))) .non) (.act 5 (.act 3 (.actd 6 (lk [(7,false),(9,false)] (.act 8 (.act 10 .fin .non) (.act 10 (.act 8 .fin .non) .non)))) .non) .non))) T.mixed (hlist H1.size 0 _) (heldOK_blk x.tm.box) ?_
   simp (disch:=omega) only [go_sem,↓cB,dB,id_eq]
   refine both_of ?_ ?_
   ·simp (disch:=omega) only [go_sem,↓cB,dB,id_eq]
    refine call_to ((IH n (by omega)).block x.pm hr2) ?_
    intro v H4 hv
    refine Hush.out ?_
    obtain ⟨q4,cp,rfl,t4⟩:=hv
    have x4:=x.step q4
    have t4':=t4.mono (S':=fun b=>H.size < b∧b ≠ H1.size∧b ∉ own (Value.slice al ((({ beginM L 6 s with kind:=13 },Fo.nil))).2.len cl)) (by intro b hb _; have:=x.tm.box.lt; have:=x.tm.gt; (try simp only [Array.size_push] at hb); exact ⟨by omega,by omega,fun e=>by have:=x.tm.vec.lt b e; omega⟩)
    refine ⟨?_⟩
    refine held_by (heldOK_blk x4.tm.box) ?_
    simp (disch:=omega) only [go_sem,↓cB,dB,id_eq]
    refine held_by (heldOK_blk (x4.grow Fr.push).tm.box) ?_
    simp (disch:=omega) only [go_sem,↓cB,dB,id_eq]
    refine app_lit (n:=1) (new:=z6) T.el59 rfl x4.tm.vec (one_all rfl) rfl (by intro a' l c e; simp only [Value.slice.injEq] at e; obtain ⟨_,rfl,_⟩:=e; first | omega | simp [addT,kindT,Fo.len_snoc,Fo.len]) ?_
    intro v' K1 g1 g2 g3 g4
    obtain ⟨b,o,c,e1,⟨K2,h1,h2,h3,h4⟩,w1,K3,h5,h6,h7⟩:=TM.app1 x4.tm t4' g1 g2 g3
    subst e1
    have ow':∀ y ∈ own (Value.slice (some ⟨b,o,none⟩) (((({ beginM L 6 s with kind:=13 },Fo.nil))).2.len + 1) c),H.size < y:=fun y hy=>(g3 y hy).elim (fun h=>(x4.tm.ow y h).1) (fun h=>by have:=x4.tm.box.lt; have:=x4.tm.gt; omega)
    simp (disch:=omega) only [go_sem,↓cB,dB,id_eq]
    refine both_of ?_ ?_
    ·simp (disch:=omega) only [go_sem,↓cB,dB,id_eq,h1,h2]
     exact fin ⟨_,_,x4.over (t':=addT (({ beginM L 6 s with kind:=13 },Fo.nil)) r2.1) ((g2.cat h4).cat (Fr.set (a:=⟨H1.size,5,none⟩) (F:=[H1.size]) (by simp))) (by intro y hy; simp only [List.mem_append,List.mem_singleton] at hy; rcases hy with (hy | hy) | hy; exact (x4.tm.ow y hy).1; exact ow' y hy; rw [hy]; exact x4.tm.gt) h3,by simp (disch:=omega) only [go_sem,↓cB,dB,id_eq]⟩
    ·simp (disch:=omega) only [go_sem,↓cB,dB,id_eq,w1,h5]
     exact fin ⟨_,_,x4.over (t':=addT (({ beginM L 6 s with kind:=13 },Fo.nil)) r2.1) ((g2.cat (Fr.set (a:=⟨H1.size,5,none⟩) (F:=[H1.size]) (by simp))).cat h7) (by intro y hy; simp only [List.mem_append,List.mem_singleton] at hy; rcases hy with (hy | hy) | hy; exact (x4.tm.ow y hy).1; rw [hy]; exact x4.tm.gt; exact ow' y hy) h6,by simp (disch:=omega) only [go_sem,↓cB,dB,id_eq]⟩
   ·have x3:=x.grow (Fr.push (o:=.cells #[iv 0,noS,noS,noS,iv 0,noS] 61))
    simp (disch:=omega) only [go_sem,↓cB,dB,id_eq]
    refine held_by (heldOK_blk x3.tm.box) ?_
    simp (disch:=omega) only [go_sem,↓cB,dB,id_eq]
    refine call_to ((IH n (by omega)).block x3.pm hr2) ?_
    intro v H4 hv
    refine Hush.out ?_
    obtain ⟨q4,cp,rfl,t4⟩:=hv
    have x4:=x3.step q4
    have hxb:Blk H4 _ 61 z6:=q4.1.blk (Blk.new rfl) (by have:=x.pm.lt; simp; omega)
    have t4':=t4.mono (S':=fun b=>H.size < b∧b ≠ H1.size∧b ∉ own (Value.slice al ((({ beginM L 6 s with kind:=13 },Fo.nil))).2.len cl)) (by intro b hb _; have:=x.tm.box.lt; have:=x.tm.gt; (try simp only [Array.size_push] at hb); exact ⟨by omega,by omega,fun e=>by have:=x.tm.vec.lt b e; omega⟩)
    refine ⟨?_⟩
    refine held_by (heldOK_blk x4.tm.box) ?_
    simp (disch:=omega) only [go_sem,↓cB,dB,id_eq]
    refine app_src (new:=z6) T.el59 rfl x4.tm.vec hxb (one_all rfl) rfl (by intro a' l c e; simp only [Value.slice.injEq] at e; obtain ⟨_,rfl,_⟩:=e; first | omega | simp [addT,kindT,Fo.len_snoc,Fo.len]) ?_
    intro v' K1 g1 g2 g3 g4
    obtain ⟨b,o,c,e1,⟨K2,h1,h2,h3,h4⟩,w1,K3,h5,h6,h7⟩:=TM.app1 x4.tm t4' g1 g2 g3
    subst e1
    have ow':∀ y ∈ own (Value.slice (some ⟨b,o,none⟩) (((({ beginM L 6 s with kind:=13 },Fo.nil))).2.len + 1) c),H.size < y:=fun y hy=>(g3 y hy).elim (fun h=>(x4.tm.ow y h).1) (fun h=>by have:=x4.tm.box.lt; have:=x4.tm.gt; omega)
    simp (disch:=omega) only [go_sem,↓cB,dB,id_eq]
    refine both_of ?_ ?_
    ·simp (disch:=omega) only [go_sem,↓cB,dB,id_eq,h1,h2]
     exact fin ⟨_,_,x4.over (t':=addT (({ beginM L 6 s with kind:=13 },Fo.nil)) r2.1) ((g2.cat h4).cat (Fr.set (a:=⟨H1.size,5,none⟩) (F:=[H1.size]) (by simp))) (by intro y hy; simp only [List.mem_append,List.mem_singleton] at hy; rcases hy with (hy | hy) | hy; exact (x4.tm.ow y hy).1; exact ow' y hy; rw [hy]; exact x4.tm.gt) h3,by simp (disch:=omega) only [go_sem,↓cB,dB,id_eq]⟩
    ·simp (disch:=omega) only [go_sem,↓cB,dB,id_eq,w1,h5]
     exact fin ⟨_,_,x4.over (t':=addT (({ beginM L 6 s with kind:=13 },Fo.nil)) r2.1) ((g2.cat (Fr.set (a:=⟨H1.size,5,none⟩) (F:=[H1.size]) (by simp))).cat h7) (by intro y hy; simp only [List.mem_append,List.mem_singleton] at hy; rcases hy with (hy | hy) | hy; exact (x4.tm.ow y hy).1; rw [hy]; exact x4.tm.gt; exact ow' y hy) h6,by simp (disch:=omega) only [go_sem,↓cB,dB,id_eq]⟩
  ·rintro ρ H5 ⟨lv',ds',x,r0,r2,r3,rd⟩
   simp (disch:=omega) only [go_sem,↓cB,dB,r0,r2,r3,rd]
   refine Hush.out ?_
   obtain ⟨ld,H6,e1,e2,e3⟩:=x.fin2 hG
   refine ⟨?_⟩
   simp (disch:=omega) only [go_sem,↓cB,dB,r0,r2,r3,rd,ld,e1,e2]
   exact fin e3
 have ht:takeM L [97,116,111,109,105,99] s=(false,s):=by simp [takeM,k4]
 rw [ht] at qq
 simp only [k4,Bool.false_eq_true,if_false] at hm
 have x:=x.step qq
 refine ⟨?_⟩
 simp (disch:=omega) only [go_sem,↓cB,dB,ht]
 refine call_to (pTake_spec hW x.pm) ?_
 intro v HT hv
 refine Hush.out ?_
 obtain ⟨qq,rfl⟩:=hv
 cases k5:seesM L [115,107,105,112] s
 rotate_left
 ·have ht:takeM L [115,107,105,112] s=(true,upM s):=by simp [takeM,k5]
  rw [ht] at qq
  simp only [k5,if_true] at hm
  have x:=x.step qq
  simp only [Option.some.injEq] at hm
  subst hm
  obtain ⟨w0,x⟩:=x.kind 14
  refine ⟨?_⟩
  simp (disch:=omega) only [go_sem,↓cB,dB,ht,w0]
  refine call_to (pMust_spec hW x.pm) ?_
  intro v HM hv
  refine Hush.out ?_
  have x:=x.step hv
  refine ⟨?_⟩
  simp (disch:=omega) only [go_sem,↓cB,dB]
  refine Hush.out ?_
  obtain ⟨ld,H6,e1,e2,e3⟩:=x.fin2 hG
  refine ⟨?_⟩
  simp (disch:=omega) only [go_sem,↓cB,dB,id_eq,ld,e1,e2]
  exact fin e3
 have ht:takeM L [115,107,105,112] s=(false,s):=by simp [takeM,k5]
 rw [ht] at qq
 simp only [k5,Bool.false_eq_true,if_false] at hm
 have x:=x.step qq
 refine ⟨?_⟩
 simp (disch:=omega) only [go_sem,↓cB,dB,ht]
 refine call_to (pTake_spec hW x.pm) ?_
 intro v HT hv
 refine Hush.out ?_
 obtain ⟨qq,rfl⟩:=hv
 cases k6:seesM L [115,116,111,112] s
 rotate_left
 ·have ht:takeM L [115,116,111,112] s=(true,upM s):=by simp [takeM,k6]
  rw [ht] at qq
  simp only [k6,if_true] at hm
  have x:=x.step qq
  simp only [Option.some.injEq] at hm
  subst hm
  obtain ⟨w0,x⟩:=x.kind 15
  refine ⟨?_⟩
  simp (disch:=omega) only [go_sem,↓cB,dB,ht,w0]
  refine call_to (pMust_spec hW x.pm) ?_
  intro v HM hv
  refine Hush.out ?_
  have x:=x.step hv
  refine ⟨?_⟩
  simp (disch:=omega) only [go_sem,↓cB,dB]
  refine Hush.out ?_
  obtain ⟨ld,H6,e1,e2,e3⟩:=x.fin2 hG
  refine ⟨?_⟩
  simp (disch:=omega) only [go_sem,↓cB,dB,id_eq,ld,e1,e2]
  exact fin e3
 have ht:takeM L [115,116,111,112] s=(false,s):=by simp [takeM,k6]
 rw [ht] at qq
 simp only [k6,Bool.false_eq_true,if_false] at hm
 have x:=x.step qq
 obtain ⟨r2,hr2,hm⟩:=Option.bind_eq_some_iff.1 hm
 simp only [Option.some.injEq] at hm
 subst hm
 have g:=GX.start 9 x
 refine ⟨?_⟩
 simp (disch:=omega) only [go_sem,↓cB,dB,ht]
 refine draw1 (lk [(0,false),(1,false),(2,false),(3,true)] (.act 4 (.act 5 (.actd 6 (lk [(7,true),(8,true)] (.actd 9 .fin))) .non) .non)) T.mixed (hlist H1.size 0 _) (heldOK_blk g.box) ?_
 simp (disch:=omega) only [go_sem,↓cB,dB,id_eq]
 refine call_to (pName_spec hW g.pm) ?_
 intro v HN hv
 refine Hush.out ?_
 obtain ⟨qq,rfl⟩:=hv
 have g:=g.step qq
 refine ⟨?_⟩
 refine held_by (heldOK_blk g.box) ?_
 simp (disch:=omega) only [go_sem,↓cB,dB,id_eq]
 refine held_by (heldOK_blk (g.grow Fr.push).box) ?_
 simp (disch:=omega) only [go_sem,↓cB,dB,id_eq]
 refine app_lit1 T.el25 rfl g.vec rfl (by simp) ?_
 intro v' HZ g1 g2 g3 g4
 refine Hush.out ?_
 obtain ⟨a1,c1,hv'⟩:=g4
 have hv':v'=.slice a1 1 c1:=hv'
 subst hv'
 have g:=g.app g1 g2 g3
 refine ⟨?_⟩
 first | refine held_by (heldOK_blk g.box) ?_ | skip
 refine Hush.out ?_
 obtain ⟨w5,g⟩:=g.set 1 (.slice a1 1 c1) (by simp)
 have g:GX _ _ p tv L _ H1.size _ [iv 6,.slice a1 1 c1,noS,noS,iv (tkM L s).pos,noS] _ _ _:=g
 refine ⟨?_⟩
 simp (disch:=omega) only [go_sem,↓cB,dB,id_eq,w5]
 have x:=g.words (k:=6) (us:=[_]) x rfl rfl
 refine call_to (pMust_spec hW x.pm) ?_
 intro v HM hv
 refine Hush.out ?_
 have x:=x.step hv
 refine ⟨?_⟩
 simp (disch:=omega) only [go_sem,↓cB,dB]
 obtain ⟨wv,nv,kv,lv,ds,x⟩:∃ wv nv kv lv ds,XN G _ p tv L H.size H1.size wv nv kv lv ds ((({ beginM L 6 s with words:=[(pnameM L s).1] },Fo.nil)):TT) _:=⟨_,_,_,_,_,x⟩
 refine draw_cut (fun ρ' H'=>∃ lv' ds',XN G H' p tv L H.size H1.size wv nv kv lv' ds' (addT (({ beginM L 6 s with words:=[(pnameM L s).1] },Fo.nil)) r2.1) r2.2∧ρ'.get 0=hp p∧ρ'.get 2=hp H.size∧ρ'.get 3=hp H1.size∧ρ'.ds = []) ?_ ?_
 ·obtain ⟨al,cl,elv,hdl⟩:=x.tm.len
  obtain ⟨f1,f2,f3,f4,f5,f6,f7,f8,f9,ew,en,ek⟩:=x.tm.forms
  have hfew:((({ beginM L 6 s with words:=[(pnameM L s).1] },Fo.nil))).2.len < 1000000:=by simp [addT,kindT,Fo.len_snoc,Fo.len]
  subst ew en ek elv
  refine draw1 (lk [(0,false),(1,false),(2,false),(4,false)] (.act 3 (.act 5 (.actd 6 (lk [(7,false),(9,false)] (.act 8 (.act 10 .fin .non) (.act 10 (.act 8 .fin .non) .non)))) .non) (.act 5 (.act 3 (.actd 6 (lk [(7,false),(9,false)] (.act 8 (.act 10 .fin .non) (.act 10 (.act 8 .fin .non) .non)))) .non) .non))) T.mixed (hlist H1.size 0 _) (heldOK_blk x.tm.box) ?_
  simp (disch:=omega) only [go_sem,↓cB,dB,id_eq]
  refine both_of ?_ ?_
  ·simp (disch:=omega) only [go_sem,↓cB,dB,id_eq]
   refine call_to (hE.expr x.pm hr2) ?_
   intro v H4 hv
   refine Hush.out ?_
   obtain ⟨q4,cp,rfl,t4⟩:=hv
   have x4:=x.step q4
   have t4':=t4.mono (S':=fun b=>H.size < b∧b ≠ H1.size∧b ∉ own (Value.slice al ((({ beginM L 6 s with words:=[(pnameM L s).1] },Fo.nil))).2.len cl)) (by intro b hb _; have:=x.tm.box.lt; have:=x.tm.gt; (try simp only [Array.size_push] at hb); exact ⟨by omega,by omega,fun e=>by have:=x.tm.vec.lt b e; omega⟩)
   refine ⟨?_⟩
   refine held_by (heldOK_blk x4.tm.box) ?_
   simp (disch:=omega) only [go_sem,↓cB,dB,id_eq]
   refine held_by (heldOK_blk (x4.grow Fr.push).tm.box) ?_
   simp (disch:=omega) only [go_sem,↓cB,dB,id_eq]
   refine app_lit (n:=1) (new:=z6) T.el59 rfl x4.tm.vec (one_all rfl) rfl (by intro a' l c e; simp only [Value.slice.injEq] at e; obtain ⟨_,rfl,_⟩:=e; first | omega | simp [addT,kindT,Fo.len_snoc,Fo.len]) ?_
   intro v' K1 g1 g2 g3 g4
   obtain ⟨b,o,c,e1,⟨K2,h1,h2,h3,h4⟩,w1,K3,h5,h6,h7⟩:=TM.app1 x4.tm t4' g1 g2 g3
   subst e1
   have ow':∀ y ∈ own (Value.slice (some ⟨b,o,none⟩) (((({ beginM L 6 s with words:=[(pnameM L s).1] },Fo.nil))).2.len + 1) c),H.size < y:=fun y hy=>(g3 y hy).elim (fun h=>(x4.tm.ow y h).1) (fun h=>by have:=x4.tm.box.lt; have:=x4.tm.gt; omega)
   simp (disch:=omega) only [go_sem,↓cB,dB,id_eq]
   refine both_of ?_ ?_
   ·simp (disch:=omega) only [go_sem,↓cB,dB,id_eq,h1,h2]
    exact fin ⟨_,_,x4.over (t':=addT (({ beginM L 6 s with words:=[(pnameM L s).1] },Fo.nil)) r2.1) ((g2.cat h4).cat (Fr.set (a:=⟨H1.size,5,none⟩) (F:=[H1.size]) (by simp))) (by intro y hy; simp only [List.mem_append,List.mem_singleton] at hy; rcases hy with (hy | hy) | hy; exact (x4.tm.ow y hy).1; exact ow' y hy; rw [hy]; exact x4.tm.gt) h3,by simp (disch:=omega) only [go_sem,↓cB,dB,id_eq]⟩
   ·simp (disch:=omega) only [go_sem,↓cB,dB,id_eq,w1,h5]
    exact fin ⟨_,_,x4.over (t':=addT (({ beginM L 6 s with words:=[(pnameM L s).1] },Fo.nil)) r2.1) ((g2.cat (Fr.set (a:=⟨H1.size,5,none⟩) (F:=[H1.size]) (by simp))).cat h7) (by intro y hy; simp only [List.mem_append,List.mem_singleton] at hy; rcases hy with (hy | hy) | hy; exact (x4.tm.ow y hy).1; rw [hy]; exact x4.tm.gt; exact ow' y hy) h6,by simp (disch:=omega) only [go_sem,↓cB,dB,id_eq]⟩
  ·have x3:=x.grow (Fr.push (o:=.cells #[iv 0,noS,noS,noS,iv 0,noS] 61))
   simp (disch:=omega) only [go_sem,↓cB,dB,id_eq]
   refine held_by (heldOK_blk x3.tm.box) ?_
   simp (disch:=omega) only [go_sem,↓cB,dB,id_eq]
   refine call_to (hE.expr x3.pm hr2) ?_
   intro v H4 hv
   refine Hush.out ?_
   obtain ⟨q4,cp,rfl,t4⟩:=hv
   have x4:=x3.step q4
   have hxb:Blk H4 _ 61 z6:=q4.1.blk (Blk.new rfl) (by have:=x.pm.lt; simp; omega)
   have t4':=t4.mono (S':=fun b=>H.size < b∧b ≠ H1.size∧b ∉ own (Value.slice al ((({ beginM L 6 s with words:=[(pnameM L s).1] },Fo.nil))).2.len cl)) (by intro b hb _; have:=x.tm.box.lt; have:=x.tm.gt; (try simp only [Array.size_push] at hb); exact ⟨by omega,by omega,fun e=>by have:=x.tm.vec.lt b e; omega⟩)
   refine ⟨?_⟩
   refine held_by (heldOK_blk x4.tm.box) ?_
   simp (disch:=omega) only [go_sem,↓cB,dB,id_eq]
   refine app_src (new:=z6) T.el59 rfl x4.tm.vec hxb (one_all rfl) rfl (by intro a' l c e; simp only [Value.slice.injEq] at e; obtain ⟨_,rfl,_⟩:=e; first | omega | simp [addT,kindT,Fo.len_snoc,Fo.len]) ?_
   intro v' K1 g1 g2 g3 g4
   obtain ⟨b,o,c,e1,⟨K2,h1,h2,h3,h4⟩,w1,K3,h5,h6,h7⟩:=TM.app1 x4.tm t4' g1 g2 g3
   subst e1
   have ow':∀ y ∈ own (Value.slice (some ⟨b,o,none⟩) (((({ beginM L 6 s with words:=[(pnameM L s).1] },Fo.nil))).2.len + 1) c),H.size < y:=fun y hy=>(g3 y hy).elim (fun h=>(x4.tm.ow y h).1) (fun h=>by have:=x4.tm.box.lt; have:=x4.tm.gt; omega)
   simp (disch:=omega) only [go_sem,↓cB,dB,id_eq]
   refine both_of ?_ ?_
   ·simp (disch:=omega) only [go_sem,↓cB,dB,id_eq,h1,h2]
    exact fin ⟨_,_,x4.over (t':=addT (({ beginM L 6 s with words:=[(pnameM L s).1] },Fo.nil)) r2.1) ((g2.cat h4).cat (Fr.set (a:=⟨H1.size,5,none⟩) (F:=[H1.size]) (by simp))) (by intro y hy; simp only [List.mem_append,List.mem_singleton] at hy; rcases hy with (hy | hy) | hy; exact (x4.tm.ow y hy).1; exact ow' y hy; rw [hy]; exact x4.tm.gt) h3,by simp (disch:=omega) only [go_sem,↓cB,dB,id_eq]⟩
   ·simp (disch:=omega) only [go_sem,↓cB,dB,id_eq,w1,h5]
    exact fin ⟨_,_,x4.over (t':=addT (({ beginM L 6 s with words:=[(pnameM L s).1] },Fo.nil)) r2.1) ((g2.cat (Fr.set (a:=⟨H1.size,5,none⟩) (F:=[H1.size]) (by simp))).cat h7) (by intro y hy; simp only [List.mem_append,List.mem_singleton] at hy; rcases hy with (hy | hy) | hy; exact (x4.tm.ow y hy).1; rw [hy]; exact x4.tm.gt; exact ow' y hy) h6,by simp (disch:=omega) only [go_sem,↓cB,dB,id_eq]⟩
 ·rintro ρ H5 ⟨lv',ds',x,r0,r2,r3,rd⟩
  simp (disch:=omega) only [go_sem,↓cB,dB,r0,r2,r3,rd]
  refine call_to (pMust_spec hW x.pm) ?_
  intro v HM hv
  refine Hush.out ?_
  have x:=x.step hv
  refine ⟨?_⟩
  simp (disch:=omega) only [go_sem,↓cB,dB,r0,r2,r3,rd]
  refine Hush.out ?_
  obtain ⟨ld,H6,e1,e2,e3⟩:=x.fin2 hG
  refine ⟨?_⟩
  simp (disch:=omega) only [go_sem,↓cB,dB,r0,r2,r3,rd,ld,e1,e2]
  exact fin e3
end Go.Proofs.YtcffdpmmadipeaaGreatDoor
namespace Go.Proofs.YtcffdpmmadipeaaGreatDoor
open Go.HL
set_option maxRecDepth 10000
theorem specS {L:List Tok} (hW:TW L):∀ n,SpecS L (runS L n):=by
 intro n
 induction n using Nat.strongRecOn with
 | _ n IH =>
  cases n with
  | zero =>
   refine ⟨?_,?_,?_,?_⟩
   ·intro H p tv s r _ h; simp [runS] at h
   ·intro H p tv s r _ h; simp [runS] at h
   ·intro H p tv s t r N b _ _ _ h; simp [runS] at h
   ·intro H p tv s t r N b nv kv _ _ _ _ _ h; simp [runS] at h
  | succ n=>exact ⟨pStat_step hW IH,pBlock_step hW IH,pStats_step hW IH,pWaits_step hW IH⟩
theorem valM_fold:∀ (l:Str) (a:Int) (n:Nat),l.all digitM=true→0≤a→a + 1≤10 ^ n→0≤l.foldl (fun n c=>10 * n + ((c.toNat:Int) - 48)) a∧l.foldl (fun n c=>10 * n + ((c.toNat:Int) - 48)) a + 1≤10 ^ (n + l.length)
 | [],a,n,_,h1,h2=>by simpa using ⟨h1,h2⟩
 | c :: l,a,n,h,h1,h2=>by
  simp only [List.all_cons,Bool.and_eq_true] at h
  have hd:=h.1
  unfold digitM at hd
  simp only [decide_eq_true_eq] at hd
  have:=valM_fold l (10 * a + ((c.toNat:Int) - 48)) (n + 1) h.2 (by omega) (by rw [Int.pow_succ]; generalize (10:Int) ^ n=z at *; omega)
  rw [List.foldl_cons,List.length_cons]
  have e:n + (l.length + 1)=n + 1 + l.length:=by omega
  rw [e]; exact this
theorem pnum_range {L:List Tok} {s:PS} {H:Heap} {p:Nat} {tv:Value} (hW:TW L) (h:PM H p tv L s):0≤(pnumM L s).1∧(pnumM L s).1≤999999:=by
 unfold pnumM
 cases q:isNum L s
 ·simp
 ·simp only [if_true]
  unfold isNum at q
  simp only [Bool.and_eq_true,decide_eq_true_eq] at q
  obtain ⟨h1,h2⟩:=hW.num s.pos _ h.tk q.1
  have:=valM_fold (tkM L s).s 0 0 h2 (by omega) (by simp)
  have e:(10:Int) ^ (0 + (tkM L s).s.length)≤10 ^ 6:=by
   have:∀ i:Nat,i≤6→(10:Int) ^ (0 + i)≤10 ^ 6:=by decide
   exact this _ h1
  have e6:(10:Int) ^ 6=1000000:=by decide
  unfold valM
  omega
def varM (L:List Tok) (s:PS):TT × PS :=
 let s1:=mustM L [118,97,114] s
 let s3:=mustM L [111,102] (pnameM L s1).2
 let s4:=(pnumM L s3).2
 let v:Int × PS:=if seesM L [61] s4 then (if seesM L [45] (upM s4) then (-(pnumM L (upM (upM s4))).1,(pnumM L (upM (upM s4))).2) else pnumM L (upM s4)) else (0,s4)
 (({ beginM L 2 s with words:=[(pnameM L s1).1],nums:=[(pnumM L s3).1,v.1] },.nil),mustM L [59] v.2)
set_option maxHeartbeats 4000000 in
theorem pVariable_spec {L:List Tok} {H:Heap} {p:Nat} {tv:Value} {s:PS} (hW:TW L) (h:PM H p tv L s):CallF Tryz.prog 64 [hp p] H (ExpQ H p tv L (varM L s)) NoP:=by
 obtain ⟨G,hG⟩:∃ G,G=H.push (.cells #[iv 0,noS,noS,noS,iv 0,noS] 61):=⟨_,rfl⟩
 have f0:Fr [] H G:=by rw [hG]; exact Fr.push
 have h0:=h.grow f0
 refine callF_of Tryz.func64 rfl Tryz.ntmps64 Tryz.results64 (by decide) rfl ?_
 simp (disch:=omega) only [go_sem,↓cB,dB]
 rw [← hG]
 refine call_to (pBegin_spec h0) ?_
 intro v H1 hv
 refine Hush.out ?_
 obtain ⟨f1,rfl⟩:=hv
 obtain ⟨G1,hG1⟩:∃ G,G=H1.push (.cells #[iv 2,noS,noS,noS,iv (tkM L s).pos,noS] 61):=⟨_,rfl⟩
 have x:=XN.new2 (n:=beginM L 2 s) h hG f1 hG1 ⟨rfl,rfl,rfl⟩
 have hlow:=h.lt
 refine ⟨?_⟩
 simp (disch:=omega) only [go_sem,↓cB,dB,nd0,beginM]
 rw [← hG1]
 refine call_to (pMust_spec hW x.pm) ?_
 intro v HM hv
 refine Hush.out ?_
 have x:=x.step hv
 refine ⟨?_⟩
 simp (disch:=omega) only [go_sem,↓cB,dB]
 refine Hush.out ?_
 have g:=GX.start 9 x
 refine ⟨?_⟩
 refine draw1 (lk [(0,false),(1,false),(2,false),(3,true)] (.act 4 (.act 5 (.actd 6 (lk [(7,true),(8,true)] (.actd 9 .fin))) .non) .non)) T.mixed (hlist H1.size 0 _) (heldOK_blk g.box) ?_
 simp (disch:=omega) only [go_sem,↓cB,dB,id_eq]
 refine call_to (pName_spec hW g.pm) ?_
 intro v HN hv
 refine Hush.out ?_
 obtain ⟨qq,rfl⟩:=hv
 have g:=g.step qq
 refine ⟨?_⟩
 refine held_by (heldOK_blk g.box) ?_
 simp (disch:=omega) only [go_sem,↓cB,dB,id_eq]
 refine held_by (heldOK_blk (g.grow Fr.push).box) ?_
 simp (disch:=omega) only [go_sem,↓cB,dB,id_eq]
 refine app_lit1 T.el25 rfl g.vec rfl (by simp) ?_
 intro v' HZ g1 g2 g3 g4
 refine Hush.out ?_
 obtain ⟨a1,c1,hv'⟩:=g4
 have hv':v'=.slice a1 1 c1:=hv'
 subst hv'
 have g:=g.app g1 g2 g3
 refine ⟨?_⟩
 first | refine held_by (heldOK_blk g.box) ?_ | skip
 refine Hush.out ?_
 obtain ⟨w5,g⟩:=g.set 1 (.slice a1 1 c1) (by simp)
 have g:GX _ _ p tv L _ H1.size _ [iv 2,.slice a1 1 c1,noS,noS,iv (tkM L s).pos,noS] _ _ _:=g
 refine ⟨?_⟩
 simp (disch:=omega) only [go_sem,↓cB,dB,id_eq,w5]
 have x:=g.words (k:=2) (us:=[_]) x rfl rfl
 refine call_to (pMust_spec hW x.pm) ?_
 intro v HM hv
 refine Hush.out ?_
 have x:=x.step hv
 refine ⟨?_⟩
 simp (disch:=omega) only [go_sem,↓cB,dB]
 have hrg:=pnum_range hW x.pm
 refine call_to (pNum_spec hW x.pm) ?_
 intro v HU hv
 refine Hush.out ?_
 obtain ⟨qq,rfl⟩:=hv
 have x:=x.step qq
 refine ⟨?_⟩
 simp (disch:=omega) only [go_sem,↓cB,dB]
 refine call_to (pTake_spec hW x.pm) ?_
 intro v HT hv
 refine Hush.out ?_
 obtain ⟨qq,rfl⟩:=hv
 cases q4:seesM L [61] (pnumM L (mustM L [111,102] (pnameM L (mustM L [118,97,114] s)).2)).2
 rotate_left
 ·have ht:takeM L [61] (pnumM L (mustM L [111,102] (pnameM L (mustM L [118,97,114] s)).2)).2=(true,upM (pnumM L (mustM L [111,102] (pnameM L (mustM L [118,97,114] s)).2)).2):=by simp [takeM,q4]
  rw [ht] at qq
  change PP _ p tv L (upM (pnumM L (mustM L [111,102] (pnameM L (mustM L [118,97,114] s)).2)).2) _ at qq
  have x:=x.step qq
  refine ⟨?_⟩
  simp (disch:=omega) only [go_sem,↓cB,dB,ht]
  refine call_to (pTake_spec hW x.pm) ?_
  intro v HY hv
  refine Hush.out ?_
  obtain ⟨qq,rfl⟩:=hv
  cases q5:seesM L [45] (upM (pnumM L (mustM L [111,102] (pnameM L (mustM L [118,97,114] s)).2)).2)
  rotate_left
  ·have ht:takeM L [45] (upM (pnumM L (mustM L [111,102] (pnameM L (mustM L [118,97,114] s)).2)).2)=(true,upM (upM (pnumM L (mustM L [111,102] (pnameM L (mustM L [118,97,114] s)).2)).2)):=by simp [takeM,q5]
   rw [ht] at qq
   change PP _ p tv L (upM (upM (pnumM L (mustM L [111,102] (pnameM L (mustM L [118,97,114] s)).2)).2)) _ at qq
   have x:=x.step qq
   refine ⟨?_⟩
   simp (disch:=omega) only [go_sem,↓cB,dB,ht]
   have hrg:=pnum_range hW x.pm
   refine call_to (pNum_spec hW x.pm) ?_
   intro v HU hv
   refine Hush.out ?_
   obtain ⟨qq,rfl⟩:=hv
   have x:=x.step qq
   have hng:IntKind.i64.wrap (-(pnumM L (upM (upM (pnumM L (mustM L [111,102] (pnameM L (mustM L [118,97,114] s)).2)).2))).1) = -(pnumM L (upM (upM (pnumM L (mustM L [111,102] (pnameM L (mustM L [118,97,114] s)).2)).2))).1:=IntWalk.i64_in _ (by omega)
   have hun:unV .neg (iv (pnumM L (upM (upM (pnumM L (mustM L [111,102] (pnameM L (mustM L [118,97,114] s)).2)).2))).1)=some (iv (-(pnumM L (upM (upM (pnumM L (mustM L [111,102] (pnameM L (mustM L [118,97,114] s)).2)).2))).1)):=by simp [unV,hng]
   obtain ⟨w1,x⟩:=x.lits [(pnumM L (mustM L [111,102] (pnameM L (mustM L [118,97,114] s)).2)).1,-(pnumM L (upM (upM (pnumM L (mustM L [111,102] (pnameM L (mustM L [118,97,114] s)).2)).2))).1] 2 rfl
   simp only [List.map_cons,List.map_nil] at w1
   refine ⟨?_⟩
   simp (disch:=omega) only [go_sem,↓cB,dB,ht,hun]
   simp (disch:=omega) only [go_sem,↓cB,dB,w1]
   refine call_to (pMust_spec hW x.pm) ?_
   intro v HM hv
   refine Hush.out ?_
   have x:=x.step hv
   have hr:varM L s=((({ beginM L 2 s with words:=[(pnameM L (mustM L [118,97,114] s)).1],nums:=[(pnumM L (mustM L [111,102] (pnameM L (mustM L [118,97,114] s)).2)).1,-(pnumM L (upM (upM (pnumM L (mustM L [111,102] (pnameM L (mustM L [118,97,114] s)).2)).2))).1] },Fo.nil):TT),mustM L [59] (pnumM L (upM (upM (pnumM L (mustM L [111,102] (pnameM L (mustM L [118,97,114] s)).2)).2))).2):=by unfold varM; simp only [q4,q5,Bool.false_eq_true,if_true,if_false]
   obtain ⟨ld,H6,e1,e2,e3⟩:=x.fin2 hG
   refine ⟨?_⟩
   simp (disch:=omega) only [go_sem,↓cB,dB,id_eq,ld,e1,e2]
   exact fin (by rw [hr]; exact e3)
  have ht:takeM L [45] (upM (pnumM L (mustM L [111,102] (pnameM L (mustM L [118,97,114] s)).2)).2)=(false,(upM (pnumM L (mustM L [111,102] (pnameM L (mustM L [118,97,114] s)).2)).2)):=by simp [takeM,q5]
  rw [ht] at qq
  change PP _ p tv L (upM (pnumM L (mustM L [111,102] (pnameM L (mustM L [118,97,114] s)).2)).2) _ at qq
  have x:=x.step qq
  refine ⟨?_⟩
  simp (disch:=omega) only [go_sem,↓cB,dB,ht]
  have hrg:=pnum_range hW x.pm
  refine call_to (pNum_spec hW x.pm) ?_
  intro v HU hv
  refine Hush.out ?_
  obtain ⟨qq,rfl⟩:=hv
  have x:=x.step qq
  obtain ⟨w1,x⟩:=x.lits [(pnumM L (mustM L [111,102] (pnameM L (mustM L [118,97,114] s)).2)).1,(pnumM L (upM (pnumM L (mustM L [111,102] (pnameM L (mustM L [118,97,114] s)).2)).2)).1] 2 rfl
  simp only [List.map_cons,List.map_nil] at w1
  refine ⟨?_⟩
  simp (disch:=omega) only [go_sem,↓cB,dB,ht,id_eq]
  simp (disch:=omega) only [go_sem,↓cB,dB,w1]
  refine call_to (pMust_spec hW x.pm) ?_
  intro v HM hv
  refine Hush.out ?_
  have x:=x.step hv
  have hr:varM L s=((({ beginM L 2 s with words:=[(pnameM L (mustM L [118,97,114] s)).1],nums:=[(pnumM L (mustM L [111,102] (pnameM L (mustM L [118,97,114] s)).2)).1,(pnumM L (upM (pnumM L (mustM L [111,102] (pnameM L (mustM L [118,97,114] s)).2)).2)).1] },Fo.nil):TT),mustM L [59] (pnumM L (upM (pnumM L (mustM L [111,102] (pnameM L (mustM L [118,97,114] s)).2)).2)).2):=by unfold varM; simp only [q4,q5,Bool.false_eq_true,if_true,if_false]
  obtain ⟨ld,H6,e1,e2,e3⟩:=x.fin2 hG
  refine ⟨?_⟩
  simp (disch:=omega) only [go_sem,↓cB,dB,id_eq,ld,e1,e2]
  exact fin (by rw [hr]; exact e3)
 have ht:takeM L [61] (pnumM L (mustM L [111,102] (pnameM L (mustM L [118,97,114] s)).2)).2=(false,(pnumM L (mustM L [111,102] (pnameM L (mustM L [118,97,114] s)).2)).2):=by simp [takeM,q4]
 rw [ht] at qq
 change PP _ p tv L (pnumM L (mustM L [111,102] (pnameM L (mustM L [118,97,114] s)).2)).2 _ at qq
 have x:=x.step qq
 obtain ⟨w1,x⟩:=x.lits [(pnumM L (mustM L [111,102] (pnameM L (mustM L [118,97,114] s)).2)).1,0] 2 rfl
 simp only [List.map_cons,List.map_nil] at w1
 refine ⟨?_⟩
 simp (disch:=omega) only [go_sem,↓cB,dB,ht,ht]
 simp (disch:=omega) only [go_sem,↓cB,dB,w1]
 refine call_to (pMust_spec hW x.pm) ?_
 intro v HM hv
 refine Hush.out ?_
 have x:=x.step hv
 have hr:varM L s=((({ beginM L 2 s with words:=[(pnameM L (mustM L [118,97,114] s)).1],nums:=[(pnumM L (mustM L [111,102] (pnameM L (mustM L [118,97,114] s)).2)).1,0] },Fo.nil):TT),mustM L [59] (pnumM L (mustM L [111,102] (pnameM L (mustM L [118,97,114] s)).2)).2):=by unfold varM; simp only [q4,Bool.false_eq_true,if_true,if_false]
 obtain ⟨ld,H6,e1,e2,e3⟩:=x.fin2 hG
 refine ⟨?_⟩
 simp (disch:=omega) only [go_sem,↓cB,dB,id_eq,ld,e1,e2]
 exact fin (by rw [hr]; exact e3)
end Go.Proofs.YtcffdpmmadipeaaGreatDoor
