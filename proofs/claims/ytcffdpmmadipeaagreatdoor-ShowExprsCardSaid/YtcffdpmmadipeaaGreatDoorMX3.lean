/- Texts of this proof, put together: Lift, Arg, LexA, LexB, ParA, ParB, ParC, ParD, ParE, ParF, ParG. The conditions of each theorem stand in it. -/
import Derived.Test.YtcffdpmmadipeaaGreatDoorRows
import Derived.Test.YtcffdpmmadipeaaGreatDoorMX2
import Derived.WalkKit
import Derived.ProofKit
import Derived.OpenShut
import Derived.Test.YtcffdpmmadipeaaGreatDoorTX
set_option linter.unusedSimpArgs false
set_option linter.unusedVariables false
namespace Go.HL
open Go.ChangeShapes Go.WideShapes Go.ChangeAt Go.RowKit
theorem hcalls_of_callF {P:Program} {f:FuncId} {fn:Func} {args:List Value} {H:Heap} {R:Value→Heap→Prop} {E:List PanicEntry→Heap→Prop} (hf:P.funcs[f]?=some fn) (hb:fn.body.isNone=false)
  (hm:(fn.name == "runtime.NumGoroutine")=false) (h:CallF P f args H R E):HCalls P f args.toArray H R E:=by
 unfold CallF callFunc at h
 rw [hwp_bind'] at h
 have h':hwp P (match P.funcs[f]? with
  | none=>stuck "call: no such function"
  | some fn =>
   if fn.name == "runtime.NumGoroutine" then pure .numGoroutine
   else if fn.body.isNone then do
    mark (.extern f)
    if let some e:=Extern.findNext fn then return ← e args.toArray
    match Extern.find fn with
    | some e=>pure (.value (← e args.toArray))
    | none =>
     if fn.name.endsWith ".init" && !fn.name.startsWith "(" && !fn.name.startsWith "gosem." then pure (.value (.tuple #[]))
     else unsupported (.extern fn.name)
   else pure (.enter f args.toArray)) H (fun nx H'=>match nx with
  | .value v=>R v H'
  | .enter f xs=>HCalls P f xs H' R E
  | _=>False) (fun v H'=>E [{ v,recovered:=false }] H'):=h
 rw [hf] at h'
 simp only [hm,hb,Bool.false_eq_true,if_false] at h'
 exact h'
section
variable {H:Type} {enc:TypeId × Value→H} {P:Program}
theorem trodAll_stays (hl:laidOutB P=true) {W W':World} {sp:Nat→Bool}:∀ (ts:List TypeId) (vs:List Value) (ds:List (DataW H)) (ps:List MemPlace),(∀ t ∈ ts,P.readableRec t=true∧t < P.types.size) →
  DataW.TrodAll enc P W 0 (fun _=>true) true ts vs ds ps→(∀ p ∈ ps,W.sameAt W' p)→(∀ p ∈ ps,sp p.block=true)→DataW.TrodAll enc P W' 0 sp true ts vs ds ps:=by
 intro ts
 induction ts with
 | nil=>intro vs ds ps _ h _ _; cases vs <;> cases ds <;> first | exact h | exact h.elim
 | cons t ts ih =>
  intro vs ds ps hr h hs hsp
  cases vs with
  | nil=>exact h.elim
  | cons v vs =>
   cases ds with
   | nil=>exact h.elim
   | cons d ds =>
    obtain ⟨p,q,h1,h2,rfl⟩:=h
    exact ⟨p,q,WideElems.Trod_stays hl (hr t (by simp)).1 (hr t (by simp)).2 h1 (fun x hx=>hs x (by simp [hx])) (fun x hx=>hsp x (by simp [hx])),
     ih vs ds q (fun u hu=>hr u (by simp [hu])) h2 (fun x hx=>hs x (by simp [hx])) (fun x hx=>hsp x (by simp [hx])),rfl⟩
theorem law_post {f:Func} {s:ChangeSpec} {W W':World} {args:Array Value} {ds gs:List (DataW H)} {before:List MemPlace} {tb:TypeId} (hl:laidOutB P=true) (hr:∀ t ∈ f.params.toList,P.readableRec t=true∧t < P.types.size)
  (hres:f.resultTypes = #[tb]) (htb:P.underlying tb=some .bool) (hsv:s.vars = []) (hsr:(s.fn H (ds ++ gs)).results = [.lit (.bool true)]) (hsa:(s.fn H (ds ++ gs)).args=ds) (hsg:(s.fn H (ds ++ gs)).vars = [])
  (hW:DataW.Whole enc P f.params.toList s.vars false W args.toList ds gs before) (hb:Below W.heap.size W W'):s.post enc P f false true false false W args (.bool true) W':=by
 have hW':=hW
 obtain ⟨p,q,hA,hV,rfl,hfz,hnd⟩:=hW
 have hlt:∀ x ∈ p,x.block < W.heap.size:=fun x hx=>hW'.lt x (by simp [hx])
 refine ⟨ds,gs,p ++ q,[],p,[],hW',?_,?_,?_,hb.frame _,fun h=>by cases h⟩
 ·rw [hres,hsr]
  exact trodAll_cons_mk (shut_bool htb true) trodAll_mk0
 ·rw [hsa]
  exact trodAll_stays hl _ _ _ _ hr hA (fun x hx=>hb.same (hlt x hx)) (fun x hx=>by simpa using hlt x hx)
 ·rw [hsv,hsg]; rfl
theorem calls_of_hcalls {f:FuncId} {args:Array Value} {W:World} {R:World→Prop} (h:HCalls P f args W.heap (fun r H'=>r=.bool true∧Fr [] W.heap H') NoP)
  (hR:∀ W',Below W.heap.size W W'→R W'):Calls P f args W fun e W'=>∃ v,e=.returned v∧v=.bool true∧R W':=by
 refine (h W rfl).mono ?_
 rintro e W' ⟨hr,hx⟩
 cases e with
 | returned v =>
  obtain ⟨rfl,hf⟩:=hx
  exact ⟨_,rfl,rfl,hR W' ⟨hr.os,hr.tape,hr.output,hf.size,fun k hk=>hf.same k hk (by simp)⟩⟩
 | panicked c=>exact hx.elim
 | outgrown=>exact hx.elim
structure ArgInts (Hp:Heap) (k:IntKind) (v:Value) (zs:List Int):Prop where
 ex:∃ b o c,(v=.slice none 0 0∧zs = [])∨(∃ a,v=.slice (some a) zs.length c∧(zs ≠ []→a=⟨b,o,none⟩)∧∀ i,i < zs.length→cellH Hp ⟨b,o + i,none⟩=some (.int k (nt zs i)))
 rng:∀ n ∈ zs,(Lit.int k n).wf=true
theorem arg_ints {W:World} {r:Reach} {b0:Nat} {t e:TypeId} {k:IntKind} {v:Value} {d:DataW H} {ps:List MemPlace} (ht:P.underlying t=some (.slice e)) (he:P.underlying e=some (.int k)) (hc:P.cellsOf e=1)
  (hval:Value.okWide P W r b0 t v) (hd:DataW.Trod enc P W 0 (fun _=>true) true t v d ps):∃ zs,ArgInts W.heap k v zs:=by
 obtain ⟨a0,len,cap,rfl⟩:=okWide_slice ht hval
 obtain ⟨fuel,hf⟩:=hd
 rcases open_ints ht he hc hf with ⟨hcs,_⟩ | ⟨a,len',cap',zs,hcs,_,hl,hm,hz,_,hcell,hwz⟩
 ·simp [Value.cells] at hcs
  obtain ⟨rfl,rfl,rfl⟩:=hcs
  exact ⟨[],⟨⟨0,0,0,.inl ⟨rfl,rfl⟩⟩,by simp⟩⟩
 ·simp [Value.cells] at hcs
  obtain ⟨rfl,rfl,rfl⟩:=hcs
  simp only [if_true] at hz
  have hlen:(zs.take len).length=len:=by simp; omega
  refine ⟨zs.take len,⟨⟨a.block,a.off,cap,.inr ⟨a,by rw [hlen],?_,?_⟩⟩,fun n hn=>hwz n (List.mem_of_mem_take hn)⟩⟩
  ·intro hne
   have h0:0 < len:=by
    rcases Nat.eq_zero_or_pos len with h | h
    ·subst h; simp at hne
    ·exact h
   have:=hcell 0 (by omega)
   cases a with
   | mk b o s =>
    cases s with
    | none=>rfl
    | some x =>
     exfalso
     simp [Addr.add,World.cell?] at this
     split at this <;> simp at this
  ·intro i hi
   have hne:zs.take len ≠ []:=by intro e; rw [e] at hi; simp at hi
   rw [hlen] at hi
   have hc1:=hcell i (by omega)
   have h0:=hcell 0 (by omega)
   have ha:a=⟨a.block,a.off,none⟩:=by
    cases a with
    | mk b o s =>
     cases s with
     | none=>rfl
     | some x =>
      exfalso
      simp [Addr.add,World.cell?] at h0
      split at h0 <;> simp at h0
   rw [ha,addr_add] at hc1
   have e1:cellH W.heap ⟨a.block,a.off + i,none⟩=W.cell? ⟨a.block,a.off + i,none⟩:=rfl
   rw [e1,hc1]
   unfold nt
   rw [List.getD_eq_getElem?_getD,List.getD_eq_getElem?_getD,List.getElem?_take_of_lt hi]
end
theorem ArgInts.form {H:Heap} {k:IntKind} {v:Value} {zs:List Int} (h:ArgInts H k v zs):∃ a c,v=.slice a zs.length c:=by
 obtain ⟨b,o,c,⟨rfl,rfl⟩ | ⟨a,rfl,_⟩⟩:=h.ex
 ·exact ⟨_,_,rfl⟩
 ·exact ⟨_,_,rfl⟩
theorem ArgInts.some {H:Heap} {k:IntKind} {v:Value} {zs:List Int} (h:ArgInts H k v zs) (hne:0 < zs.length):∃ b o c,v=.slice (some ⟨b,o,none⟩) zs.length c∧∀ i,i < zs.length→cellH H ⟨b,o + i,none⟩=some (.int k (nt zs i)):=by
 obtain ⟨b,o,c,⟨rfl,rfl⟩ | ⟨a,rfl,ha,hc⟩⟩:=h.ex
 ·simp at hne
 ·have:=ha (by intro e; rw [e] at hne; simp at hne)
  subst this
  exact ⟨b,o,c,rfl,hc⟩
theorem ArgInts.bnd {H:Heap} {v:Value} {zs:List Int} (h:ArgInts H .i64 v zs) {i:Nat} (hi:i < zs.length):-9223372036854775808≤nt zs i∧nt zs i≤9223372036854775807:=by
 have hm:nt zs i ∈ zs:=by
  have:=nt_lt hi
  exact List.mem_of_getElem? this
 have:=h.rng _ hm
 simpa [Lit.wf,IntKind.min,IntKind.max,IntKind.signed,IntKind.bits] using this
theorem argCells {H:Heap} {k:IntKind} {v:Value} {zs:List Int} (h:ArgInts H k v zs):∃ a c,v=.slice a zs.length c∧∀ i,i < zs.length→∃ b o,a=some ⟨b,o,none⟩∧cellH H ⟨b,o + i,none⟩=some (.int k (nt zs i)):=by
 by_cases hz:0 < zs.length
 ·obtain ⟨b,o,c,rfl,hc⟩:=h.some hz
  exact ⟨_,_,rfl,fun i hi=>⟨b,o,rfl,hc i hi⟩⟩
 ·obtain ⟨a,c,rfl⟩:=h.form
  exact ⟨a,c,rfl,fun i hi=>by omega⟩
end Go.HL
namespace Go.HL
open Go.ChangeShapes Go.WideShapes Go.ChangeAt Go.RowKit
theorem omapM_some {α β:Type} {f:α→Option β}:∀ {l:List α} {r:List β},l.mapM f=some r→r.length=l.length∧∀ (j:Nat) x,l[j]?=some x→∃ y,f x=some y∧r[j]?=some y:=by
 intro l
 induction l with
 | nil=>intro r h; simp at h; subst h; simp
 | cons a l ih =>
  intro r h
  rw [List.mapM_cons] at h
  simp only [bind,Option.bind_eq_some_iff,pure,Option.some.injEq] at h
  obtain ⟨y,hy,r',hr,rfl⟩:=h
  obtain ⟨h1,h2⟩:=ih hr
  refine ⟨by simp [h1],fun j x hx=>?_⟩
  cases j with
  | zero=>simp at hx; subst hx; exact ⟨y,hy,rfl⟩
  | succ j=>simp at hx; simpa using h2 j x hx
theorem list_of {α:Type} {p:Nat→α→Prop}:∀ {n:Nat},(∀ i,i < n→∃ x,p i x)→∃ xs:List α,xs.length=n∧∀ i x,xs[i]?=some x→p i x:=by
 intro n
 induction n with
 | zero=>intro _; exact ⟨[],rfl,by simp⟩
 | succ n ih =>
  intro h
  obtain ⟨xs,h1,h2⟩:=ih fun i hi=>h i (by omega)
  obtain ⟨x,hx⟩:=h n (by omega)
  refine ⟨xs ++ [x],by simp [h1],fun i y hy=>?_⟩
  rw [List.getElem?_append] at hy
  split at hy
  ·exact h2 i y hy
  ·rename_i hi
   have:i=n:=by
    have:=(List.getElem?_eq_some_iff.1 hy).1
    simp at this; omega
   subst this
   simp [h1] at hy
   exact hy ▸ hx
section
variable {H:Type} {enc:TypeId × Value→H} {P:Program} {W:World}
abbrev TR (enc:TypeId × Value→H) (P:Program) (W:World) (t:TypeId) (cs:List Value):Prop:=∃ fuel x,DataW.trod enc P W 0 (fun _=>true) true fuel t cs=some x
theorem TR.int {t:TypeId} {k:IntKind} {cs:List Value} (ht:P.underlying t=some (.int k)) (h:TR enc P W t cs):∃ n,cs = [.int k n]∧(Lit.int k n).wf=true:=by
 obtain ⟨fuel,x,h⟩:=h
 cases fuel with
 | zero=>simp [DataW.trod] at h
 | succ fuel =>
  unfold DataW.trod at h
  rw [ht] at h
  split at h <;> simp_all
theorem TR.bool {t:TypeId} {cs:List Value} (ht:P.underlying t=some .bool) (h:TR enc P W t cs):∃ b,cs = [.bool b]:=by
 obtain ⟨fuel,x,h⟩:=h
 cases fuel with
 | zero=>simp [DataW.trod] at h
 | succ fuel =>
  unfold DataW.trod at h
  rw [ht] at h
  split at h <;> simp_all
theorem TR.string {t:TypeId} {cs:List Value} (ht:P.underlying t=some .string) (h:TR enc P W t cs):∃ s,cs = [.string s]∧s.size≤maxLen:=by
 obtain ⟨fuel,x,h⟩:=h
 cases fuel with
 | zero=>simp [DataW.trod] at h
 | succ fuel =>
  unfold DataW.trod at h
  rw [ht] at h
  split at h <;> simp_all
theorem TR.struct {t:TypeId} {fs:Array Field} {cs:List Value} (ht:P.underlying t=some (.struct fs)) (h:TR enc P W t cs) :
  cs.length=P.cellsOf t∧∀ f ∈ fs.toList,TR enc P W f.type ((cs.drop f.offset).take (P.cellsOf f.type)):=by
 obtain ⟨fuel,x,h⟩:=h
 cases fuel with
 | zero=>simp [DataW.trod] at h
 | succ fuel =>
  unfold DataW.trod at h
  rw [ht] at h
  split at h <;> first | (simp at *; done) | skip
  rename_i fs' hfs
  simp only [Option.some.injEq,TypeDesc.struct.injEq] at hfs
  subst hfs
  split at h
  ·rename_i h1
   simp only [Option.map_eq_some_iff] at h
   obtain ⟨y,hy,_⟩:=h
   refine ⟨h1,fun f hf=>?_⟩
   obtain ⟨j,hj⟩:=List.getElem?_of_mem hf
   obtain ⟨z,hz,_⟩:=(omapM_some hy).2 j f hj
   exact ⟨fuel,z,hz⟩
  ·simp at h
theorem TR.slice {t e:TypeId} {z:Nat} {cs:List Value} (ht:P.underlying t=some (.slice e)) (hz:P.cellsOf e=z) (hz0:0 < z) (h:TR enc P W t cs) :
  ∃ a len cap,cs = [.slice a len cap]∧len≤maxLen∧(0 < len→∃ b o,a=some ⟨b,o,none⟩∧∀ i,i < len→∃ es,es.length=z∧(∀ j,j < z→cellH W.heap ⟨b,o + i * z + j,none⟩=es[j]?)∧TR enc P W e es):=by
 obtain ⟨fuel,x,h⟩:=h
 cases fuel with
 | zero=>simp [DataW.trod] at h
 | succ fuel =>
  unfold DataW.trod at h
  rw [ht] at h
  split at h <;> first | (simp at *; done) | skip
  ·exact ⟨none,0,0,rfl,by simp,by omega⟩
  ·rename_i e' a len cap he
   simp only [Option.some.injEq,TypeDesc.slice.injEq] at he
   subst he
   simp only at h
   split at h
   ·rename_i hb
    simp only [Option.bind_eq_some_iff] at h
    obtain ⟨elems,hel,_⟩:=h
    refine ⟨some a,len,cap,rfl,by omega,fun hl=>?_⟩
    have hrow:∀ i,i < len→∃ es,es.length=z∧(∀ j,j < z→W.cell? ((a.add (i * z)).add j)=es[j]?)∧TR enc P W e es:=by
     intro i hi
     obtain ⟨y,hy,_⟩:=(omapM_some hel).2 i i (by simp [hi])
     simp only [Option.bind_eq_some_iff] at hy
     obtain ⟨es,hes,hy⟩:=hy
     rw [hz] at hes
     unfold World.cells? at hes
     split at hes
     ·obtain ⟨g1,g2⟩:=omapM_some hes
      simp at g1
      refine ⟨es,g1,fun j hj=>?_,fuel,y,hy⟩
      obtain ⟨u,hu,hr⟩:=g2 j j (by simp [hj])
      rw [hu,hr]
     ·simp at hes
    have ha:a=⟨a.block,a.off,none⟩:=by
     obtain ⟨es,g1,g2,_⟩:=hrow 0 hl
     have:=g2 0 hz0
     cases a with
     | mk b o s =>
      cases s with
      | none=>rfl
      | some q =>
       exfalso
       have h0:es[0]?=some es[0]:=by simp
       rw [h0] at this
       simp [Addr.add,World.cell?] at this
       split at this <;> simp at this
    refine ⟨a.block,a.off,by rw [← ha],fun i hi=>?_⟩
    obtain ⟨es,g1,g2,g3⟩:=hrow i hi
    refine ⟨es,g1,fun j hj=>?_,g3⟩
    rw [← g2 j hj,ha,addr_add,addr_add]
    rfl
   ·simp at h
theorem TR.of {t:TypeId} {v:Value} {d:DataW H} {ps:List MemPlace} (h:DataW.Trod enc P W 0 (fun _=>true) true t v d ps):TR enc P W t v.cells.toList:=by
 obtain ⟨fuel,h⟩:=h
 exact ⟨fuel,_,h⟩
end
end Go.HL
namespace Go.Proofs.YtcffdpmmadipeaaGreatDoor
open Go.HL
set_option maxRecDepth 10000
abbrev hp (p:Nat):Value:=.pointer (some ⟨p,0,none⟩)
abbrev iv (n:Int):Value:=.int .i64 n
section
variable {α:Type} {p:α→Bool} {l:List α} {i:Nat} {x:α}
theorem any_hit (h:l[i]?=some x) (hp:p x=true):l.any p=true:=List.any_eq_true.2 ⟨x,List.mem_of_getElem? h,hp⟩
theorem any_step (h:l[i]?=some x) (h0:(l.take i).any p=false) (hp:p x=false):(l.take (i + 1)).any p=false:=by
 rw [List.take_add_one,h]; simp [h0,hp]
theorem any_end (h0:(l.take i).any p=false) (hi:l.length≤i):l.any p=false:=by rwa [List.take_of_length_le hi] at h0
theorem all_hit (h:l[i]?=some x) (hp:p x=false):l.all p=false:=by
 rw [← Bool.not_eq_true,List.all_eq_true]; intro hh; have:=hh x (List.mem_of_getElem? h); simp [hp] at this
theorem all_step (h:l[i]?=some x) (h0:(l.take i).all p=true) (hp:p x=true):(l.take (i + 1)).all p=true:=by
 rw [List.take_add_one,h]; simp [h0,hp]
theorem all_end (h0:(l.take i).all p=true) (hi:l.length≤i):l.all p=true:=by rwa [List.take_of_length_le hi] at h0
end
def letterM (c:UInt8):Bool:=decide (65≤c.toNat∧c.toNat≤90∨97≤c.toNat∧c.toNat≤122)
def digitM (c:UInt8):Bool:=decide (48≤c.toNat∧c.toNat≤57)
def wordM (c:UInt8):Bool:=letterM c || digitM c || decide (c.toNat=95)
def twoM (s:Str) (i:Nat):Str:=if i + 2≤s.length then (s.take (i + 2)).drop i else []
section
variable {H:Heap} {s:Str} {c:UInt8}
theorem r8letter_spec:CallF Tryz.prog 48 [u8v c] H (fun r H'=>H=H'∧r=.bool (letterM c)) NoP:=by
 refine callF_of Tryz.func48 rfl Tryz.ntmps48 Tryz.results48 (by decide) rfl ?_
 by_cases h1:65≤c.toNat <;> by_cases h2:c.toNat≤90 <;> by_cases h3:97≤c.toNat <;> by_cases h4:c.toNat≤122 <;> first | omega | skip
 all_goals
  simp (disch:=omega) only [go_sem,↓cB,dB]
  exact fin ⟨rfl,by unfold letterM; simp [h1,h2,h3,h4] <;> omega⟩
theorem r8digit_spec:CallF Tryz.prog 50 [u8v c] H (fun r H'=>H=H'∧r=.bool (digitM c)) NoP:=by
 refine callF_of Tryz.func50 rfl Tryz.ntmps50 Tryz.results50 (by decide) rfl ?_
 by_cases h1:48≤c.toNat <;> by_cases h2:c.toNat≤57 <;> first | omega | skip
 all_goals
  simp (disch:=omega) only [go_sem,↓cB,dB]
  exact fin ⟨rfl,by unfold digitM; simp [h1,h2] <;> omega⟩
theorem r8word_spec:CallF Tryz.prog 49 [u8v c] H (fun r H'=>H=H'∧r=.bool (wordM c)) NoP:=by
 refine callF_of Tryz.func49 rfl Tryz.ntmps49 Tryz.results49 (by decide) rfl ?_
 simp (disch:=omega) only [go_sem,↓cB,dB]
 refine call_to r8letter_spec ?_
 rintro _ _ ⟨rfl,rfl⟩
 cases h1:letterM c
 ·simp (disch:=omega) only [go_sem,↓cB,dB]
  refine call_to r8digit_spec ?_
  rintro _ _ ⟨rfl,rfl⟩
  cases h2:digitM c
  ·by_cases h3:c.toNat=95
   ·simp (disch:=omega) only [go_sem,↓cB,dB]
    exact fin ⟨rfl,by unfold wordM; simp [h1,h2,h3] <;> omega⟩
   ·simp (disch:=omega) only [go_sem,↓cB,dB]
    exact fin ⟨rfl,by unfold wordM; simp [h1,h2,h3] <;> omega⟩
  ·simp (disch:=omega) only [go_sem,↓cB,dB]
   exact fin ⟨rfl,by unfold wordM; simp [h1,h2]⟩
 ·simp (disch:=omega) only [go_sem,↓cB,dB]
  exact fin ⟨rfl,by unfold wordM; simp [h1]⟩
theorem r8has_spec (hl:s.length≤100000000):CallF Tryz.prog 46 [sv s,u8v c] H (fun r H'=>H=H'∧r=.bool (s.any (· == c))) NoP:=by
 refine callF_of Tryz.func46 rfl Tryz.ntmps46 Tryz.results46 (by decide) rfl ?_
 simp (disch:=omega) only [go_sem,↓cB,dB]
 refine loop_by (fun k ρ H1=>∃ (i:Nat),k=s.length - i∧i≤s.length∧H1=H∧(ρ.get 0=sv s∧ρ.get 1=u8v c∧ρ.get 5=iv i∧ρ.ds = [])∧(s.take i).any (· == c)=false) (k:=s.length) ?_ ?_
 ·exact ⟨0,rfl,by omega,rfl,by simp (disch:=omega) only [go_sem,↓cB,dB],by simp⟩
 ·rintro k ρ _ ⟨i,rfl,hi,rfl,⟨r0,r1,r5,rd⟩,h0⟩
  have hi1:(i:Int) + 1=((i + 1:Nat):Int):=by omega
  by_cases hin:i < s.length
  ·have hb:=bt8_lt hin
   by_cases he:(bt8 s i).toNat=c.toNat
   ·simp (disch:=omega) only [go_sem,↓cB,dB,r0,r1,r5,rd]
    exact fin ⟨rfl,by rw [any_hit hb (by simp; exact UInt8.toNat_inj.1 he)]⟩
   ·simp (disch:=omega) only [go_sem,↓cB,dB,r0,r1,r5,rd]
    exact fin ⟨s.length - (i + 1),by omega,i + 1,rfl,by omega,rfl,by simp (disch:=omega) only [go_sem,↓cB,dB,r0,r1,r5,rd,hi1],any_step hb h0 (by simp; intro h; exact he (by rw [h]))⟩
  ·simp (disch:=omega) only [go_sem,↓cB,dB,r0,r1,r5,rd]
   exact fin ⟨rfl,by rw [any_end h0 (by omega)]⟩
theorem r8two_spec {i:Nat} (hi:i≤100000000):CallF Tryz.prog 47 [sv s,iv i] H (fun r H'=>H=H'∧r=sv (twoM s i)) NoP:=by
 refine callF_of Tryz.func47 rfl Tryz.ntmps47 Tryz.results47 (by decide) rfl ?_
 have e:(i:Int) + 2=((i + 2:Nat):Int):=by omega
 by_cases h:i + 2≤s.length
 ·simp (disch:=omega) only [go_sem,↓cB,dB,e]
  exact fin ⟨rfl,by unfold twoM; rw [if_pos h]⟩
 ·simp (disch:=omega) only [go_sem,↓cB,dB,e]
  exact fin ⟨rfl,by unfold twoM; rw [if_neg h]⟩
def keysM:List Str:=[[99,104,97,110],[111,102],[108,111,115,115,121],[99,111,112,121,105,110,103],[118,97,114],[112,114,111,99],[115,97,102,101],[100,101,97,100,108,111,99,107],[115,101,110,100],[114,101,99,118],[105,100,108,101],[119,104,101,110],[99,104,111,111,115,101],[111,114],[105,102],[101,108,115,101],[119,104,105,108,101],[97,116,111,109,105,99],[115,107,105,112],[115,116,111,112],[108,101,110]]
def keyM (s:Str):Bool:=keysM.any (· == s)
theorem keys_build:buildSliceV Tryz.prog H 25 21 (enumV (keysM.map sv))=some (.slice (some ⟨H.size,0,none⟩) 21 21,H.push (.cells (keysM.map sv).toArray 9)):=by
 have:=bsl_sound (P:=Tryz.prog) (H:=H) (t:=25) (vs:=keysM.map sv) (r:=(.slice (some ⟨H.size,0,none⟩) 21 21,H.push (.cells (keysM.map sv).toArray 9))) (by unfold bsl; simp only [T.elem25,T.size9]; rfl)
 exact this
theorem r8Key_spec:CallF Tryz.prog 72 [sv s] H (fun r H'=>Fr [] H H'∧r=.bool (keyM s)) NoP:=by
 have hb:=keys_build (H:=H)
 simp only [keysM,List.map,enumV,List.zipIdx,Nat.reduceAdd] at hb
 refine callF_of Tryz.func72 rfl Tryz.ntmps72 Tryz.results72 (by decide) rfl ?_
 simp (disch:=omega) only [go_sem,↓cB,dB,hb]
 have hblk:Blk (H.push (.cells (keysM.map sv).toArray 9)) H.size 9 (keysM.map sv):=Blk.new rfl
 refine loop_by (fun k ρ H1=>∃ (i:Nat),k=keysM.length - i∧i≤keysM.length∧H1=H.push (.cells (keysM.map sv).toArray 9)∧(ρ.get 0=sv s∧ρ.get 3=.slice (some ⟨H.size,0,none⟩) 21 21∧ρ.get 4=iv i∧ρ.ds = [])∧(keysM.take i).any (· == s)=false) (k:=keysM.length) ?_ ?_
 ·exact ⟨0,rfl,by omega,rfl,by simp (disch:=omega) only [go_sem,↓cB,dB],by simp⟩
 ·rintro k ρ _ ⟨i,rfl,hi,rfl,⟨r0,r3,r4,rd⟩,h0⟩
  have hk:keysM.length=21:=rfl
  have hi1:(i:Int) + 1=((i + 1:Nat):Int):=by omega
  by_cases hin:i < keysM.length
  ·have hx:keysM[i]?=some keysM[i]:=List.getElem?_eq_getElem hin
   generalize keysM[i]=x at hx
   have hc:cellH (H.push (.cells (keysM.map sv).toArray 9)) ⟨H.size,i,none⟩=some (sv x):=by rw [hblk.cell,List.getElem?_map,hx]; rfl
   by_cases he:x=s
   ·simp (disch:=omega) only [go_sem,↓cB,dB,r0,r3,r4,rd,hc]
    exact fin ⟨Fr.push,by unfold keyM; rw [any_hit hx (by simpa using he)]⟩
   ·simp (disch:=omega) only [go_sem,↓cB,dB,r0,r3,r4,rd,hc]
    exact fin ⟨keysM.length - (i + 1),by omega,i + 1,rfl,by omega,rfl,by simp (disch:=omega) only [go_sem,↓cB,dB,r0,r3,r4,rd,hi1],any_step hx h0 (by simpa using he)⟩
  ·simp (disch:=omega) only [go_sem,↓cB,dB,r0,r3,r4,rd]
   exact fin ⟨Fr.push,by unfold keyM; rw [any_end h0 (by omega)]⟩
def nameM (s:Str):Bool:=decide (s.length ≠ 0∧s.length≤12) && letterM (bt8 s 0) && !keyM s && s.all wordM
theorem r8Name_spec:CallF Tryz.prog 55 [sv s] H (fun r H'=>Fr [] H H'∧r=.bool (nameM s)) NoP:=by
 refine callF_of Tryz.func55 rfl Tryz.ntmps55 Tryz.results55 (by decide) rfl ?_
 by_cases h1:s.length=0
 ·simp (disch:=omega) only [go_sem,↓cB,dB]
  exact fin ⟨Fr.refl _ _,by unfold nameM; simp [h1]⟩
 by_cases h2:s.length≤12
 ·simp (disch:=omega) only [go_sem,↓cB,dB]
  refine call_to r8letter_spec ?_
  rintro _ _ ⟨rfl,rfl⟩
  cases h3:letterM (bt8 s 0)
  ·simp (disch:=omega) only [go_sem,↓cB,dB]
   exact fin ⟨Fr.refl _ _,by unfold nameM; simp [h3]⟩
  ·simp (disch:=omega) only [go_sem,↓cB,dB]
   refine call_to r8Key_spec ?_
   rintro _ H1 ⟨f1,rfl⟩
   cases h4:keyM s
   ·simp (disch:=omega) only [go_sem,↓cB,dB]
    refine loop_by (fun k ρ H2=>∃ (i:Nat),k=s.length - i∧i≤s.length∧H2=H1∧(ρ.get 0=sv s∧ρ.get 3=iv i∧ρ.ds = [])∧(s.take i).all wordM=true) (k:=s.length) ?_ ?_
    ·exact ⟨0,rfl,by omega,rfl,by simp (disch:=omega) only [go_sem,↓cB,dB],by simp⟩
    ·rintro k ρ _ ⟨i,rfl,hi,rfl,⟨r0,r3,rd⟩,h0⟩
     have hi1:(i:Int) + 1=((i + 1:Nat):Int):=by omega
     by_cases hin:i < s.length
     ·have hb:=bt8_lt hin
      simp (disch:=omega) only [go_sem,↓cB,dB,r0,r3,rd]
      refine call_to r8word_spec ?_
      rintro _ _ ⟨rfl,rfl⟩
      cases h5:wordM (bt8 s i)
      ·simp (disch:=omega) only [go_sem,↓cB,dB,r0,r3,rd]
       exact fin ⟨f1,by unfold nameM; rw [all_hit hb h5]; simp⟩
      ·simp (disch:=omega) only [go_sem,↓cB,dB,r0,r3,rd]
       exact fin ⟨s.length - (i + 1),by omega,i + 1,rfl,by omega,rfl,by simp (disch:=omega) only [go_sem,↓cB,dB,r0,r3,rd,hi1],all_step hb h0 h5⟩
     ·simp (disch:=omega) only [go_sem,↓cB,dB,r0,r3,rd]
      exact fin ⟨f1,by unfold nameM; rw [all_end h0 (by omega)]; simp [h1,h2,h3,h4]⟩
   ·simp (disch:=omega) only [go_sem,↓cB,dB]
    exact fin ⟨f1,by unfold nameM; simp [h4]⟩
 ·simp (disch:=omega) only [go_sem,↓cB,dB]
  exact fin ⟨Fr.refl _ _,by unfold nameM; simp [h2]⟩
end
end Go.Proofs.YtcffdpmmadipeaaGreatDoor
namespace Go.Proofs.YtcffdpmmadipeaaGreatDoor
open Go.HL
set_option maxRecDepth 10000
structure Tok where
 kind:Int
 s:Str
 pos:Nat
 deriving DecidableEq
def tokC (t:Tok):List Value:=[iv t.kind,sv t.s,iv t.pos]
structure Flt where
 err:Int
 pos:Int
 deriving DecidableEq
def fltV (f:Flt):Value:=.agg #[iv f.err,iv f.pos]
def spanM (p:UInt8→Bool) (s:Str) (k:Nat):Nat:=k + ((s.drop k).takeWhile p).length
theorem span_yes {p:UInt8→Bool} {s:Str} {k:Nat} (h:k < s.length) (hp:p (bt8 s k)=true):spanM p s k=spanM p s (k + 1):=by
 unfold spanM
 have e:s.drop k=bt8 s k :: s.drop (k + 1):=by
  rw [List.drop_eq_getElem_cons h]; congr 1; unfold bt8; simp [h]
 rw [e,List.takeWhile_cons_of_pos hp]; simp; omega
theorem span_no {p:UInt8→Bool} {s:Str} {k:Nat} (h:k < s.length) (hp:p (bt8 s k)=false):spanM p s k=k:=by
 unfold spanM
 have e:s.drop k=bt8 s k :: s.drop (k + 1):=by
  rw [List.drop_eq_getElem_cons h]; congr 1; unfold bt8; simp [h]
 rw [e,List.takeWhile_cons_of_neg (by simp [hp])]; simp
theorem span_end {p:UInt8→Bool} {s:Str} {k:Nat} (h:s.length≤k):spanM p s k=k:=by
 unfold spanM; rw [List.drop_eq_nil_of_le h]; simp
theorem span_le {p:UInt8→Bool} {s:Str} {k:Nat} (h:k≤s.length):spanM p s k≤s.length:=by
 unfold spanM; have:=(List.takeWhile_sublist p (l:=s.drop k)).length_le; simp at this; omega
theorem span_ge {p:UInt8→Bool} {s:Str} {k:Nat}:k≤spanM p s k:=by unfold spanM; omega
def blankS:Str:=[32,9,13,10]
def signS:Str:=[123,125,91,93,40,41,59,61,60,43,45,42,47,37,33]
def tokEnd (s:Str) (i:Nat):Nat × Int :=
 if twoM s i = [61,61]∨twoM s i = [38,38]∨twoM s i = [124,124] then (i + 2,2)
 else if letterM (bt8 s i) then (spanM wordM s i,0)
 else if digitM (bt8 s i) then (spanM digitM s i,1)
 else if signS.any (· == bt8 s i) then (i + 1,2)
 else (i,2)
def notNl (c:UInt8):Bool:=!(c == 10)
def tokM (s:Str):Nat→Nat→List Tok→Option (List Tok × Flt)
 | 0,_,_=>none
 | n + 1,i,out =>
  if i < s.length then
   if blankS.any (· == bt8 s i) then tokM s n (i + 1) out
   else if twoM s i = [47,47] then tokM s n (spanM notNl s i) out
   else if (tokEnd s i).1=i∨(tokEnd s i).2=1∧6 < (tokEnd s i).1 - i then some ([],⟨10,i⟩)
   else tokM s n (tokEnd s i).1 (out ++ [⟨(tokEnd s i).2,(s.take (tokEnd s i).1).drop i,i⟩])
  else some (out ++ [⟨3,[],s.length⟩],⟨0,0⟩)
def tokensM (n:Nat) (s:Str):Option (List Tok × Flt):=if 4000 < s.length then some ([],⟨12,0⟩) else tokM s n 0 []
theorem two_len {s:Str} {i:Nat} {l:Str} (h:twoM s i=l) (hl:l ≠ []):i + 2≤s.length:=by
 unfold twoM at h; split at h
 ·assumption
 ·exact absurd h.symm hl
theorem tokEnd_le {s:Str} {i:Nat} (h:i < s.length):i≤(tokEnd s i).1∧(tokEnd s i).1≤s.length:=by
 unfold tokEnd
 split
 ·rename_i h'; rcases h' with h' | h' | h' <;> have:=two_len h' (by simp) <;> simp <;> omega
 ·split
  ·exact ⟨span_ge,span_le (by omega)⟩
  ·split
   ·exact ⟨span_ge,span_le (by omega)⟩
   ·split <;> simp <;> omega
theorem tokC_len (l:List Tok):(l.flatMap tokC).length=l.length * 3:=by
 induction l with
 | nil=>rfl
 | cons a l ih=>simp [tokC,ih]; omega
structure TL (H H1:Heap) (s:Str) (v:Value) (out:List Tok):Prop where
 fr:Fr [] H H1
 vec:Vec H1 87 3 v (out.flatMap tokC)
 box:Blk H1 H.size 33 [iv 0,iv 0]
 ow:∀ b ∈ own v,H.size < b
def TokPost (H:Heap) (res:List Tok × Flt) (r:Value) (H':Heap):Prop:=∃ v,r=.tuple #[v,fltV res.2]∧Fr [] H H'∧Vec H' 87 3 v (res.1.flatMap tokC)∧∀ b ∈ own v,H.size≤b
theorem fr_new {F:List Nat} {H H1 H2:Heap} (h:Fr [] H H1) (h2:Fr F H1 H2) (hF:∀ b ∈ F,H.size≤b):Fr [] H H2 :=
 ⟨Nat.le_trans h.size h2.size,fun b hb _=>by rw [h2.same b (Nat.lt_of_lt_of_le hb h.size) (fun e=>by have:=hF b e; omega)]; exact h.same b hb (by simp)⟩
section
variable {H:Heap} {s:Str}
set_option maxHeartbeats 1000000 in
theorem r8Tokens_spec {n:Nat} {res:List Tok × Flt} (hm:tokensM n s=some res):CallF Tryz.prog 24 [sv s] H (fun r H'=>TokPost H res r H') NoP:=by
 unfold tokensM at hm
 refine callF_of Tryz.func24 rfl Tryz.ntmps24 Tryz.results24 (by decide) rfl ?_
 have hb0:Blk (H.push (.cells #[iv 0,iv 0] 33)) H.size 33 [iv 0,iv 0]:=Blk.new rfl
 by_cases hl:4000 < s.length
 ·rw [if_pos hl] at hm
  simp only [Option.some.injEq] at hm; subst hm
  obtain ⟨H2,e1,e2,e3⟩:=store_blk (P:=Tryz.prog) (ty:=33) (new:=[iv 12,iv 0]) hb0 rfl T.size33 (by simp [oneC])
  have e4:cellsH (cellH H2) ⟨H.size,0,none⟩ 0 2=some [iv 12,iv 0]:=e2.cells0
  simp (disch:=omega) only [go_sem,↓cB,dB,newPtr,e1,e4]
  exact fin ⟨_,rfl,fr_new Fr.push e3 (by simp),Vec.nil,by simp [own]⟩
 ·rw [if_neg hl] at hm
  simp (disch:=omega) only [go_sem,↓cB,dB,newPtr]
  refine loop_by (fun k ρ H1=>∃ (i:Nat) (v:Value) (out:List Tok),tokM s k i out=some res∧i≤s.length∧out.length≤i∧TL H H1 s v out∧(ρ.get 0=sv s∧ρ.get 3=hp H.size∧ρ.get 4=v∧ρ.get 5=iv i∧ρ.ds = [])) (k:=n) ?_ ?_
  ·exact ⟨0,_,[],hm,by omega,by simp,⟨Fr.push,Vec.nil,hb0,by simp [own]⟩,by simp (disch:=omega) only [go_sem,↓cB,dB,newPtr]⟩
  ·rintro k ρ H1 ⟨i,v,out,hk,hi,ho,tl,⟨r0,r3,r4,r5,rd⟩⟩
   obtain ⟨a,len,cap,rfl,hvl⟩:=tl.vec.len
   rw [tokC_len] at hvl
   have hlen:len=out.length:=by omega
   subst hlen
   have hi1:(i:Int) + 1=((i + 1:Nat):Int):=by omega
   cases k with
   | zero=>simp [tokM] at hk
   | succ k =>
   unfold tokM at hk
   by_cases hin:i < s.length
   ·rw [if_pos hin] at hk
    have hb:=bt8_lt hin
    simp (disch:=omega) only [go_sem,↓cB,dB,r0,r3,r4,r5,rd]
    refine call_to (r8has_spec (s:=[32,9,13,10]) (by simp)) ?_
    rintro _ _ ⟨rfl,rfl⟩
    change (if blankS.any (· == bt8 s i) then _ else _)=_ at hk
    have ec:List.any [32,9,13,10] (fun x=>x == bt8 s i)=blankS.any (· == bt8 s i):=rfl
    rw [ec]
    cases h1:blankS.any (· == bt8 s i)
    ·rw [h1] at hk
     simp only [Bool.false_eq_true,if_false] at hk
     simp (disch:=omega) only [go_sem,↓cB,dB,r0,r3,r4,r5,rd]
     refine call_to (r8two_spec (by omega)) ?_
     rintro _ _ ⟨rfl,rfl⟩
     by_cases h2:twoM s i = [47,47]
     ·rw [if_pos h2] at hk
      simp (disch:=omega) only [go_sem,↓cB,dB,r0,r3,r4,r5,rd]
      refine loop_by (fun k1 ρ H2=>∃ j:Nat,k1=s.length - j∧i≤j∧j≤s.length∧spanM notNl s i=spanM notNl s j∧H2=H1∧(ρ.get 0=sv s∧ρ.get 3=hp H.size∧ρ.get 4=.slice a out.length cap∧ρ.get 5=iv j∧ρ.ds = [])) (k:=s.length - i) ?_ ?_
      ·exact ⟨i,rfl,by omega,by omega,rfl,rfl,by simp (disch:=omega) only [go_sem,↓cB,dB,r0,r3,r4,r5,rd]⟩
      ·rintro k1 ρ _ ⟨j,rfl,hj,hjl,hsp,rfl,⟨r0,r3,r4,r5,rd⟩⟩
       have hj1:(j:Int) + 1=((j + 1:Nat):Int):=by omega
       by_cases hjn:j < s.length
       ·by_cases hc:(bt8 s j).toNat=10
        ·simp (disch:=omega) only [go_sem,↓cB,dB,r0,r3,r4,r5,rd]
         have e:spanM notNl s i=j:=by rw [hsp,span_no hjn (by unfold notNl; simp; exact UInt8.toNat_inj.1 hc)]
         rw [e] at hk
         exact fin ⟨k,by omega,j,.slice a out.length cap,out,hk,by omega,by omega,tl,by simp (disch:=omega) only [go_sem,↓cB,dB,r0,r3,r4,r5,rd,hi1]⟩
        ·simp (disch:=omega) only [go_sem,↓cB,dB,r0,r3,r4,r5,rd]
         exact fin ⟨s.length - (j + 1),by omega,j + 1,rfl,by omega,by omega,by rw [hsp,span_yes hjn (by unfold notNl; simp; intro h; exact hc (by rw [h]; rfl))],rfl,by simp (disch:=omega) only [go_sem,↓cB,dB,r0,r3,r4,r5,rd,hj1]⟩
       ·simp (disch:=omega) only [go_sem,↓cB,dB,r0,r3,r4,r5,rd]
        have e:spanM notNl s i=j:=by rw [hsp,span_end (by omega)]
        rw [e] at hk
        exact fin ⟨k,by omega,j,.slice a out.length cap,out,hk,by omega,by omega,tl,by simp (disch:=omega) only [go_sem,↓cB,dB,r0,r3,r4,r5,rd,hi1]⟩
     ·rw [if_neg h2] at hk
      have hte:=tokEnd_le hin
      simp (disch:=omega) only [go_sem,dB,r0,r3,r4,r5,rd]
      refine cut_at (fun ρ H2=>H2=H1∧ρ.get 0=sv s∧ρ.get 3=hp H.size∧ρ.get 4=.slice a out.length cap∧ρ.get 5=iv i∧ρ.get 6=iv (tokEnd s i).1∧ρ.get 7=iv (tokEnd s i).2∧ρ.ds = []) ?_ ?_
      ·simp (disch:=omega) only [go_sem,↓cB,dB,r0,r3,r4,r5,rd]
       refine call_to (r8two_spec (by omega)) ?_
       rintro _ _ ⟨rfl,rfl⟩
       by_cases q1:twoM s i = [61,61]
       ·simp (disch:=omega) only [go_sem,↓cB,dB,r0,r3,r4,r5,rd]
        exact fin ⟨rfl,by simp (disch:=omega) only [go_sem,↓cB,dB,r0,r3,r4,r5,rd]; simp [tokEnd,q1]⟩
       simp (disch:=omega) only [go_sem,↓cB,dB,r0,r3,r4,r5,rd]
       refine call_to (r8two_spec (by omega)) ?_
       rintro _ _ ⟨rfl,rfl⟩
       by_cases q2:twoM s i = [38,38]
       ·simp (disch:=omega) only [go_sem,↓cB,dB,r0,r3,r4,r5,rd]
        exact fin ⟨rfl,by simp (disch:=omega) only [go_sem,↓cB,dB,r0,r3,r4,r5,rd]; simp [tokEnd,q2]⟩
       simp (disch:=omega) only [go_sem,↓cB,dB,r0,r3,r4,r5,rd]
       refine call_to (r8two_spec (by omega)) ?_
       rintro _ _ ⟨rfl,rfl⟩
       by_cases q3:twoM s i = [124,124]
       ·simp (disch:=omega) only [go_sem,↓cB,dB,r0,r3,r4,r5,rd]
        exact fin ⟨rfl,by simp (disch:=omega) only [go_sem,↓cB,dB,r0,r3,r4,r5,rd]; simp [tokEnd,q3]⟩
       simp (disch:=omega) only [go_sem,↓cB,dB,r0,r3,r4,r5,rd]
       refine call_to r8letter_spec ?_
       rintro _ _ ⟨rfl,rfl⟩
       cases q4:letterM (bt8 s i)
       rotate_left
       ·simp (disch:=omega) only [go_sem,↓cB,dB,r0,r3,r4,r5,rd]
        refine loop_by (fun k1 ρ H2=>∃ j:Nat,k1=s.length - j∧i≤j∧j≤s.length∧spanM wordM s i=spanM wordM s j∧H2=H1∧(ρ.get 0=sv s∧ρ.get 3=hp H.size∧ρ.get 4=.slice a out.length cap∧ρ.get 5=iv i∧ρ.get 6=iv j∧ρ.get 7=iv 0∧ρ.ds = [])) (k:=s.length - i) ?_ ?_
        ·exact ⟨i,rfl,by omega,by omega,rfl,rfl,by simp (disch:=omega) only [go_sem,↓cB,dB,r0,r3,r4,r5,rd]⟩
        ·rintro k1 ρ _ ⟨j,rfl,hj,hjl,hsp,rfl,⟨r0,r3,r4,r5,r6,r7,rd⟩⟩
         have hj1:(j:Int) + 1=((j + 1:Nat):Int):=by omega
         by_cases hjn:j < s.length
         ·simp (disch:=omega) only [go_sem,↓cB,dB,r0,r3,r4,r5,r6,r7,rd]
          refine call_to r8word_spec ?_
          rintro _ _ ⟨rfl,rfl⟩
          cases hc:wordM (bt8 s j)
          ·simp (disch:=omega) only [go_sem,↓cB,dB,r0,r3,r4,r5,r6,r7,rd]
           have e:spanM wordM s i=j:=by rw [hsp,span_no hjn hc]
           exact fin ⟨rfl,by simp (disch:=omega) only [go_sem,↓cB,dB,r0,r3,r4,r5,r6,r7,rd]; simp [tokEnd,q1,q2,q3,q4,e]⟩
          ·simp (disch:=omega) only [go_sem,↓cB,dB,r0,r3,r4,r5,r6,r7,rd]
           exact fin ⟨s.length - (j + 1),by omega,j + 1,rfl,by omega,by omega,by rw [hsp,span_yes hjn hc],rfl,by simp (disch:=omega) only [go_sem,↓cB,dB,r0,r3,r4,r5,r6,r7,rd,hj1]⟩
         ·simp (disch:=omega) only [go_sem,↓cB,dB,r0,r3,r4,r5,r6,r7,rd]
          have e:spanM wordM s i=j:=by rw [hsp,span_end (by omega)]
          exact fin ⟨rfl,by simp (disch:=omega) only [go_sem,↓cB,dB,r0,r3,r4,r5,r6,r7,rd]; simp [tokEnd,q1,q2,q3,q4,e]⟩
       simp (disch:=omega) only [go_sem,↓cB,dB,r0,r3,r4,r5,rd]
       refine call_to r8digit_spec ?_
       rintro _ _ ⟨rfl,rfl⟩
       cases q5:digitM (bt8 s i)
       rotate_left
       ·simp (disch:=omega) only [go_sem,↓cB,dB,r0,r3,r4,r5,rd]
        refine loop_by (fun k1 ρ H2=>∃ j:Nat,k1=s.length - j∧i≤j∧j≤s.length∧spanM digitM s i=spanM digitM s j∧H2=H1∧(ρ.get 0=sv s∧ρ.get 3=hp H.size∧ρ.get 4=.slice a out.length cap∧ρ.get 5=iv i∧ρ.get 6=iv j∧ρ.get 7=iv 1∧ρ.ds = [])) (k:=s.length - i) ?_ ?_
        ·exact ⟨i,rfl,by omega,by omega,rfl,rfl,by simp (disch:=omega) only [go_sem,↓cB,dB,r0,r3,r4,r5,rd]⟩
        ·rintro k1 ρ _ ⟨j,rfl,hj,hjl,hsp,rfl,⟨r0,r3,r4,r5,r6,r7,rd⟩⟩
         have hj1:(j:Int) + 1=((j + 1:Nat):Int):=by omega
         by_cases hjn:j < s.length
         ·simp (disch:=omega) only [go_sem,↓cB,dB,r0,r3,r4,r5,r6,r7,rd]
          refine call_to r8digit_spec ?_
          rintro _ _ ⟨rfl,rfl⟩
          cases hc:digitM (bt8 s j)
          ·simp (disch:=omega) only [go_sem,↓cB,dB,r0,r3,r4,r5,r6,r7,rd]
           have e:spanM digitM s i=j:=by rw [hsp,span_no hjn hc]
           exact fin ⟨rfl,by simp (disch:=omega) only [go_sem,↓cB,dB,r0,r3,r4,r5,r6,r7,rd]; simp [tokEnd,q1,q2,q3,q4,q5,e]⟩
          ·simp (disch:=omega) only [go_sem,↓cB,dB,r0,r3,r4,r5,r6,r7,rd]
           exact fin ⟨s.length - (j + 1),by omega,j + 1,rfl,by omega,by omega,by rw [hsp,span_yes hjn hc],rfl,by simp (disch:=omega) only [go_sem,↓cB,dB,r0,r3,r4,r5,r6,r7,rd,hj1]⟩
         ·simp (disch:=omega) only [go_sem,↓cB,dB,r0,r3,r4,r5,r6,r7,rd]
          have e:spanM digitM s i=j:=by rw [hsp,span_end (by omega)]
          exact fin ⟨rfl,by simp (disch:=omega) only [go_sem,↓cB,dB,r0,r3,r4,r5,r6,r7,rd]; simp [tokEnd,q1,q2,q3,q4,q5,e]⟩
       simp (disch:=omega) only [go_sem,↓cB,dB,r0,r3,r4,r5,rd]
       refine call_to (r8has_spec (s:=[123,125,91,93,40,41,59,61,60,43,45,42,47,37,33]) (by simp)) ?_
       rintro _ _ ⟨rfl,rfl⟩
       have ec:List.any [123,125,91,93,40,41,59,61,60,43,45,42,47,37,33] (fun x=>x == bt8 s i)=signS.any (· == bt8 s i):=rfl
       rw [ec]
       cases q6:signS.any (· == bt8 s i)
       ·simp (disch:=omega) only [go_sem,↓cB,dB,r0,r3,r4,r5,rd]
        exact fin ⟨rfl,by simp (disch:=omega) only [go_sem,↓cB,dB,r0,r3,r4,r5,rd]; simp [tokEnd,q1,q2,q3,q4,q5,q6]⟩
       ·simp (disch:=omega) only [go_sem,↓cB,dB,r0,r3,r4,r5,rd]
        exact fin ⟨rfl,by simp (disch:=omega) only [go_sem,↓cB,dB,r0,r3,r4,r5,rd]; simp [tokEnd,q1,q2,q3,q4,q5,q6]⟩
      ·rintro ρ2 _ ⟨rfl,r0,r3,r4,r5,r6,r7,rd⟩
       generalize (tokEnd s i).1=te at *
       generalize (tokEnd s i).2=tk at *
       by_cases z1:te=i
       ·rw [if_pos (.inl z1)] at hk
        simp only [Option.some.injEq] at hk; subst hk
        obtain ⟨H2,e1,e2,e3⟩:=store_blk (P:=Tryz.prog) (ty:=33) (new:=[iv 10,iv i]) tl.box rfl T.size33 (by simp [oneC])
        have e4:cellsH (cellH H2) ⟨H.size,0,none⟩ 0 2=some [iv 10,iv i]:=e2.cells0
        simp (disch:=omega) only [go_sem,↓cB,dB,r0,r3,r4,r5,r6,r7,rd,z1,e1,e4]
        exact fin ⟨_,rfl,fr_new tl.fr e3 (by simp),Vec.nil,by simp [own]⟩
       by_cases z2:tk=1
       ·by_cases z3:6 < te - i
        ·rw [if_pos (.inr ⟨z2,z3⟩)] at hk
         simp only [Option.some.injEq] at hk; subst hk
         obtain ⟨H2,e1,e2,e3⟩:=store_blk (P:=Tryz.prog) (ty:=33) (new:=[iv 10,iv i]) tl.box rfl T.size33 (by simp [oneC])
         have e4:cellsH (cellH H2) ⟨H.size,0,none⟩ 0 2=some [iv 10,iv i]:=e2.cells0
         simp (disch:=omega) only [go_sem,↓cB,dB,r0,r3,r4,r5,r6,r7,rd,e1,e4]
         exact fin ⟨_,rfl,fr_new tl.fr e3 (by simp),Vec.nil,by simp [own]⟩
        ·rw [if_neg (by omega)] at hk
         simp (disch:=omega) only [go_sem,↓cB,dB,r0,r3,r4,r5,r6,r7,rd]
         refine app_lit (n:=1) (new:=tokC ⟨tk,(s.take te).drop i,i⟩) T.el53 rfl tl.vec (by simp [tokC,oneC]) rfl (by intro a' l c e; simp only [Value.slice.injEq] at e; obtain ⟨_,rfl,_⟩:=e; omega) ?_
         intro v' H2 g1 g2 g3 g4
         obtain ⟨a2,c2,rfl⟩:=g4 _ _ _ rfl
         have hns:H.size ∉ own (Value.slice a out.length cap):=fun e=>by have:=tl.ow _ e; omega
         have b2:=g2.blk tl.box hns
         have hs1:=tl.fr.size
         have hbx:=tl.box.lt
         have ow2:∀ b ∈ own (Value.slice a2 (out.length + 1) c2),H.size < b:=fun b hb=>(g3 b hb).elim (tl.ow b) (fun h=>by omega)
         simp (disch:=omega) only [go_sem,↓cB,dB,r0,r3,r4,r5,r6,r7,rd]
         exact fin ⟨k,by omega,te,.slice a2 (out.length + 1) c2,_,hk,by omega,by simp; omega,⟨fr_new tl.fr g2 (fun b hb=>by have:=tl.ow b hb; omega),by simpa using g1,b2,ow2⟩,by simp (disch:=omega) only [go_sem,↓cB,dB,r0,r3,r4,r5,r6,r7,rd]⟩
       ·rw [if_neg (by omega)] at hk
        simp (disch:=omega) only [go_sem,↓cB,dB,r0,r3,r4,r5,r6,r7,rd]
        refine app_lit (n:=1) (new:=tokC ⟨tk,(s.take te).drop i,i⟩) T.el53 rfl tl.vec (by simp [tokC,oneC]) rfl (by intro a' l c e; simp only [Value.slice.injEq] at e; obtain ⟨_,rfl,_⟩:=e; omega) ?_
        intro v' H2 g1 g2 g3 g4
        obtain ⟨a2,c2,rfl⟩:=g4 _ _ _ rfl
        have hns:H.size ∉ own (Value.slice a out.length cap):=fun e=>by have:=tl.ow _ e; omega
        have b2:=g2.blk tl.box hns
        have hs1:=tl.fr.size
        have hbx:=tl.box.lt
        have ow2:∀ b ∈ own (Value.slice a2 (out.length + 1) c2),H.size < b:=fun b hb=>(g3 b hb).elim (tl.ow b) (fun h=>by omega)
        simp (disch:=omega) only [go_sem,↓cB,dB,r0,r3,r4,r5,r6,r7,rd]
        exact fin ⟨k,by omega,te,.slice a2 (out.length + 1) c2,_,hk,by omega,by simp; omega,⟨fr_new tl.fr g2 (fun b hb=>by have:=tl.ow b hb; omega),by simpa using g1,b2,ow2⟩,by simp (disch:=omega) only [go_sem,↓cB,dB,r0,r3,r4,r5,r6,r7,rd]⟩
    ·rw [h1] at hk
     simp only [if_true] at hk
     simp (disch:=omega) only [go_sem,↓cB,dB,r0,r3,r4,r5,rd]
     exact fin ⟨k,by omega,i + 1,.slice a out.length cap,out,hk,by omega,by omega,tl,by simp (disch:=omega) only [go_sem,↓cB,dB,r0,r3,r4,r5,rd,hi1]⟩
   ·rw [if_neg hin] at hk
    simp only [Option.some.injEq] at hk; subst hk
    simp (disch:=omega) only [go_sem,↓cB,dB,r0,r3,r4,r5,rd]
    refine app_lit (n:=1) (new:=tokC ⟨3,[],s.length⟩) T.el53 rfl tl.vec (by simp [tokC,oneC]) rfl (by intro a' l c e; simp only [Value.slice.injEq] at e; obtain ⟨_,rfl,_⟩:=e; omega) ?_
    intro v' H2 g1 g2 g3 g4
    obtain ⟨a2,c2,rfl⟩:=g4 _ _ _ rfl
    have hns:H.size ∉ own (Value.slice a out.length cap):=fun e=>by have:=tl.ow _ e; omega
    have b2:=g2.blk tl.box hns
    obtain ⟨H3,e1,e2,e3⟩:=store_blk (P:=Tryz.prog) (ty:=33) (new:=[iv 0,iv 0]) b2 rfl T.size33 (by simp [oneC])
    have e4:cellsH (cellH H3) ⟨H.size,0,none⟩ 0 2=some [iv 0,iv 0]:=e2.cells0
    simp (disch:=omega) only [go_sem,↓cB,dB,r0,r3,r4,r5,rd,e1,e4]
    have hs1:=tl.fr.size
    have hbx:=tl.box.lt
    have ow2:∀ b ∈ own (Value.slice a2 (out.length + 1) c2),H.size < b:=fun b hb=>(g3 b hb).elim (tl.ow b) (fun h=>by omega)
    exact fin ⟨_,rfl,fr_new (fr_new tl.fr g2 (fun b hb=>by have:=tl.ow b hb; omega)) e3 (by simp),by
     have:=g1.frame e3 (fun b hb h=>by have:=ow2 b hb; simp at h; omega)
     simpa using this,fun b hb=>by have:=ow2 b hb; omega⟩
end
end Go.Proofs.YtcffdpmmadipeaaGreatDoor
namespace Go.Proofs.YtcffdpmmadipeaaGreatDoor
open Go.HL
set_option maxRecDepth 10000
structure PS where
 pos:Nat
 deep:Int
 flt:Flt
 deriving DecidableEq
structure TW (L:List Tok):Prop where
 len:L.length≤4001
 fin:∀ (i:Nat) t,L[i]?=some t→t.kind ≠ 3→i + 1 < L.length
 num:∀ (i:Nat) t,L[i]?=some t→t.kind=1→t.s.length≤6∧t.s.all digitM=true
def psC (tv:Value) (s:PS):List Value:=[tv,iv s.pos,iv s.deep,iv s.flt.err,iv s.flt.pos]
structure PM (H:Heap) (p:Nat) (tv:Value) (L:List Tok) (s:PS):Prop where
 self:Blk H p 58 (psC tv s)
 toks:Rd H (· < p) 3 tv (L.flatMap tokC)
 pos:s.pos < L.length
theorem tokL (t:Tok):(tokC t).length=3:=rfl
def tkM (L:List Tok) (s:PS):Tok:=L.getD s.pos ⟨0,[],0⟩
def okM (s:PS):Bool:=decide (s.flt.err=0)
def badM (L:List Tok) (e:Int) (s:PS):PS:=if s.flt.err=0 then { s with flt:=⟨e,(tkM L s).pos⟩ } else s
def seesM (L:List Tok) (w:Str) (s:PS):Bool:=okM s && decide ((tkM L s).s=w) && (decide ((tkM L s).kind=2) || decide ((tkM L s).kind=0) && keyM w)
def upM (s:PS):PS:={ s with pos:=s.pos + 1 }
def takeM (L:List Tok) (w:Str) (s:PS):Bool × PS:=if seesM L w s then (true,upM s) else (false,s)
def mustM (L:List Tok) (w:Str) (s:PS):PS:=if seesM L w s then upM s else badM L 11 s
def isName (L:List Tok) (s:PS):Bool:=decide ((tkM L s).kind=0) && nameM (tkM L s).s && okM s
def pnameM (L:List Tok) (s:PS):Str × PS:=if isName L s then ((tkM L s).s,upM s) else ([],badM L 11 s)
def valM (l:Str):Int:=l.foldl (fun n c=>10 * n + ((c.toNat:Int) - 48)) 0
def isNum (L:List Tok) (s:PS):Bool:=decide ((tkM L s).kind=1) && okM s
def pnumM (L:List Tok) (s:PS):Int × PS:=if isNum L s then (valM (tkM L s).s,upM s) else (0,badM L 11 s)
def flagM (L:List Tok) (w:Str) (s:PS):Int × PS:=if seesM L w s then (1,upM s) else (0,s)
def inM (L:List Tok) (s:PS):PS:=if 200 < s.deep + 1 then badM L 12 { s with deep:=s.deep + 1 } else { s with deep:=s.deep + 1 }
def outM (s:PS):PS:={ s with deep:=s.deep - 1 }
section
variable {H H':Heap} {p:Nat} {tv:Value} {L:List Tok} {s s':PS}
theorem PM.tk (h:PM H p tv L s):L[s.pos]?=some (tkM L s):=by
 unfold tkM; rw [List.getD_eq_getElem?_getD,List.getElem?_eq_getElem h.pos]; rfl
theorem PM.grow (h:PM H p tv L s) (hf:Fr [] H H'):PM H' p tv L s :=
 ⟨hf.blk h.self (by simp),h.toks.frame (Keeps.of_fr hf (by simp)),h.pos⟩
theorem PM.re (h:PM H p tv L s) (hb:Blk H' p 58 (psC tv s')) (hf:Fr [p] H H') (hp:s'.pos < L.length):PM H' p tv L s' :=
 ⟨hb,h.toks.frame (Keeps.of_fr hf (by intro b hb; simp; omega)),hp⟩
theorem PM.over (h:PM H p tv L s) {F:List Nat} (hf:Fr F H H') (hF:∀ b ∈ F,p < b):PM H' p tv L s :=
 ⟨hf.blk h.self (fun e=>by have:=hF p e; omega),h.toks.frame (Keeps.of_fr hf (by intro b hb e; have:=hF b e; omega)),h.pos⟩
theorem Fr.more {F G:List Nat} {H H1 H2:Heap} (h:Fr F H H1) (h2:Fr G H1 H2) (hG:∀ b ∈ G,b ∈ F∨H.size≤b):Fr F H H2 :=
 ⟨Nat.le_trans h.size h2.size,fun b hb hF=>by rw [h2.same b (Nat.lt_of_lt_of_le hb h.size) (fun e=>(hG b e).elim hF (fun h=>by omega))]; exact h.same b hb hF⟩
theorem PM.lt (h:PM H p tv L s):p < H.size:=h.self.lt
theorem PM.c0 (h:PM H p tv L s):cellH H ⟨p,0,none⟩=some tv:=h.self.cell 0
theorem PM.c1 (h:PM H p tv L s):cellH H ⟨p,1,none⟩=some (iv s.pos):=h.self.cell 1
theorem PM.c2 (h:PM H p tv L s):cellH H ⟨p,2,none⟩=some (iv s.deep):=h.self.cell 2
theorem PM.c3 (h:PM H p tv L s):cellH H ⟨p,3,none⟩=some (iv s.flt.err):=h.self.cell 3
theorem PM.c4 (h:PM H p tv L s):cellH H ⟨p,4,none⟩=some (iv s.flt.pos):=h.self.cell 4
theorem PM.w1 (h:PM H p tv L s) (v:Value):wr H ⟨p,1,none⟩ v=some (setH H ⟨p,1,none⟩ v):=h.self.wr (by simp [psC]) v
theorem PM.w2 (h:PM H p tv L s) (v:Value):wr H ⟨p,2,none⟩ v=some (setH H ⟨p,2,none⟩ v):=h.self.wr (by simp [psC]) v
theorem PM.set1 (h:PM H p tv L s) {n:Nat} (hn:n < L.length):PM (setH H ⟨p,1,none⟩ (iv n)) p tv L { s with pos:=n } :=
 h.re (by have:=h.self.set 1 (iv n); exact this) (Fr.set (by simp)) hn
theorem PM.set2 (h:PM H p tv L s) (n:Int):PM (setH H ⟨p,2,none⟩ (iv n)) p tv L { s with deep:=n } :=
 h.re (by have:=h.self.set 2 (iv n); exact this) (Fr.set (by simp)) h.pos
def PP (H:Heap) (p:Nat) (tv:Value) (L:List Tok) (s:PS) (H':Heap):Prop:=Fr [p] H H'∧PM H' p tv L s
theorem PP.over {H1 H2:Heap} (h:PP H p tv L s H1) (hl:p < H.size) {F:List Nat} (hf:Fr F H1 H2) (hF:∀ b ∈ F,H.size≤b):PP H p tv L s H2 :=
 ⟨Fr.more h.1 hf (fun b hb=>.inr (hF b hb)),h.2.over hf (fun b hb=>by have:=hF b hb; omega)⟩
theorem PP.trans {H1 H2:Heap} (h:PP H p tv L s H1) (h':PP H1 p tv L s' H2):PP H p tv L s' H2:=⟨h.1.trans h'.1,h'.2⟩
theorem PP.grow {H1 H2:Heap} (h:PP H p tv L s H1) (h':Fr [] H1 H2):PP H p tv L s H2:=⟨h.1.trans h'.nil,h.2.grow h'⟩
theorem pOk_spec (h:PM H p tv L s):CallF Tryz.prog 52 [hp p] H (fun r H'=>H=H'∧r=.bool (okM s)) NoP:=by
 have c3:=h.c3
 refine callF_of Tryz.func52 rfl Tryz.ntmps52 Tryz.results52 (by decide) rfl ?_
 simp (disch:=omega) only [go_sem,↓cB,dB,c3]
 exact fin ⟨rfl,rfl⟩
theorem pNow_spec (h:PM H p tv L s):CallF Tryz.prog 53 [hp p] H (fun r H'=>Fr [] H H'∧r=.agg (tokC (tkM L s)).toArray) NoP:=by
 have h1:=h.grow (H':=H.push (.cells #[iv 0,sv [],iv 0] 87)) Fr.push
 have c0:=h1.c0
 have c1:=h1.c1
 have hl:=h.lt
 have hps:=h.pos
 obtain ⟨b,o,cap,rfl,hb,hr,hr2⟩:=h1.toks.row tokL (by omega) h1.tk
 refine callF_of Tryz.func53 rfl Tryz.ntmps53 Tryz.results53 (by decide) rfl ?_
 simp (disch:=omega) only [go_sem,↓cB,dB,newPtr]
 refine draw0 (lk [(0,true),(1,true),(2,true),(3,true),(4,true),(5,true),(6,true),(7,true),(8,true),(9,true)] (.act 10 .fin .non)) T.mixed ?_
 simp (disch:=omega) only [go_sem,↓cB,dB,c0,c1,hr,hps,newPtr,tokC]
 exact fin ⟨Fr.push,rfl⟩
theorem pBad_spec (h:PM H p tv L s) {e:Int}:CallF Tryz.prog 81 [hp p,iv e] H (fun r H'=>PP H p tv L (badM L e s) H') NoP:=by
 refine callF_of Tryz.func81 rfl Tryz.ntmps81 Tryz.results81 (by decide) rfl ?_
 simp (disch:=omega) only [go_sem,↓cB,dB]
 refine call_to (pOk_spec h) ?_
 rintro _ _ ⟨rfl,rfl⟩
 unfold okM badM
 by_cases h0:s.flt.err=0
 ·simp (disch:=omega) only [go_sem,↓cB,dB]
  refine call_to (pNow_spec h) ?_
  rintro _ H1 ⟨f1,rfl⟩
  have h1:=h.grow f1
  obtain ⟨H2,e1,e2,e3⟩:=store_at (P:=Tryz.prog) (ty:=33) (pre:=[tv,iv s.pos,iv s.deep]) (old:=[iv s.flt.err,iv s.flt.pos]) (rest:=[]) (new:=[iv e,iv (tkM L s).pos]) h1.self rfl T.size33 (by simp [oneC])
  simp only [List.length_cons,List.length_nil,Nat.reduceAdd] at e1
  simp (disch:=omega) only [go_sem,↓cB,dB,tokC,e1]
  rw [if_pos h0]
  exact fin ⟨f1.nil.trans e3,h1.re (s':={ s with flt:=⟨e,(tkM L s).pos⟩ }) e2 e3 h.pos⟩
 ·simp (disch:=omega) only [go_sem,↓cB,dB]
  rw [if_neg h0]
  exact fin ⟨Fr.refl _ _,h⟩
theorem pSees_spec (h:PM H p tv L s) {w:Str}:CallF Tryz.prog 63 [hp p,sv w] H (fun r H'=>Fr [] H H'∧r=.bool (seesM L w s)) NoP:=by
 refine callF_of Tryz.func63 rfl Tryz.ntmps63 Tryz.results63 (by decide) rfl ?_
 simp (disch:=omega) only [go_sem,↓cB,dB]
 refine call_to (pNow_spec h) ?_
 rintro _ H1 ⟨f1,rfl⟩
 have h1:=h.grow f1
 simp (disch:=omega) only [go_sem,↓cB,dB,tokC,newPtr]
 have f2:Fr [] H1 (H1.push (.cells (tokC (tkM L s)).toArray 87)):=Fr.push
 have hb:Blk (H1.push (.cells (tokC (tkM L s)).toArray 87)) H1.size 87 (tokC (tkM L s)):=Blk.new rfl
 have h2:=h1.grow f2
 refine call_to (pOk_spec h2) ?_
 rintro _ _ ⟨rfl,rfl⟩
 have k0:cellH (H1.push (.cells #[iv (tkM L s).kind,sv (tkM L s).s,iv (tkM L s).pos] 87)) ⟨H1.size,0,none⟩=some (iv (tkM L s).kind):=hb.cell 0
 have k1:cellH (H1.push (.cells #[iv (tkM L s).kind,sv (tkM L s).s,iv (tkM L s).pos] 87)) ⟨H1.size,1,none⟩=some (sv (tkM L s).s):=hb.cell 1
 cases q1:okM s
 ·simp (disch:=omega) only [go_sem,↓cB,dB,k0,k1]
  exact fin ⟨f1.trans f2,by simp [seesM,q1]⟩
 by_cases q2:(tkM L s).s=w
 ·by_cases q3:(tkM L s).kind=2
  ·simp (disch:=omega) only [go_sem,↓cB,dB,k0,k1,q3]
   exact fin ⟨f1.trans f2,by simp [seesM,q1,q2,q3]⟩
  ·by_cases q4:(tkM L s).kind=0
   ·simp (disch:=omega) only [go_sem,↓cB,dB,k0,k1]
    refine call_to r8Key_spec ?_
    rintro _ H3 ⟨f3,rfl⟩
    cases q5:keyM w
    ·simp (disch:=omega) only [go_sem,↓cB,dB,k0,k1]
     exact fin ⟨(f1.trans f2).trans f3,by simp [seesM,q1,q2,q3,q4,q5]⟩
    ·simp (disch:=omega) only [go_sem,↓cB,dB,k0,k1]
     exact fin ⟨(f1.trans f2).trans f3,by simp [seesM,q1,q2,q3,q4,q5]⟩
   ·simp (disch:=omega) only [go_sem,↓cB,dB,k0,k1]
    exact fin ⟨f1.trans f2,by simp [seesM,q1,q2,q3,q4]⟩
 ·simp (disch:=omega) only [go_sem,↓cB,dB,k0,k1]
  exact fin ⟨f1.trans f2,by simp [seesM,q1,q2]⟩
theorem sees_up (hW:TW L) (h:PM H p tv L s) {w:Str} (hs:seesM L w s=true):s.pos + 1 < L.length:=by
 refine hW.fin s.pos _ h.tk ?_
 unfold seesM at hs
 intro e
 simp [e] at hs
theorem pUp (h:PM H p tv L s) (hn:s.pos + 1 < L.length):PP H p tv L (upM s) (setH H ⟨p,1,none⟩ (iv ((s.pos + 1:Nat):Int))):=⟨Fr.set (by simp),h.set1 hn⟩
theorem pTake_spec (hW:TW L) (h:PM H p tv L s) {w:Str}:CallF Tryz.prog 66 [hp p,sv w] H (fun r H'=>PP H p tv L (takeM L w s).2 H'∧r=.bool (takeM L w s).1) NoP:=by
 refine callF_of Tryz.func66 rfl Tryz.ntmps66 Tryz.results66 (by decide) rfl ?_
 simp (disch:=omega) only [go_sem,↓cB,dB]
 refine call_to (pSees_spec h) ?_
 rintro _ H1 ⟨f1,rfl⟩
 have h1:=h.grow f1
 have c1:=h1.c1
 have w1:=h1.w1
 have hln:=hW.len
 have hps:=h.pos
 have e1:(s.pos:Int) + 1=((s.pos + 1:Nat):Int):=by omega
 unfold takeM
 cases q:seesM L w s
 ·simp (disch:=omega) only [go_sem,↓cB,dB]
  exact fin ⟨⟨f1.nil,h1⟩,rfl⟩
 ·simp (disch:=omega) only [go_sem,↓cB,dB,c1,w1,e1]
  exact fin ⟨PP.trans ⟨f1.nil,h1⟩ (pUp h1 (sees_up hW h q)),rfl⟩
theorem pMust_spec (hW:TW L) (h:PM H p tv L s) {w:Str}:CallF Tryz.prog 68 [hp p,sv w] H (fun r H'=>PP H p tv L (mustM L w s) H') NoP:=by
 refine callF_of Tryz.func68 rfl Tryz.ntmps68 Tryz.results68 (by decide) rfl ?_
 simp (disch:=omega) only [go_sem,↓cB,dB]
 refine call_to (pTake_spec hW h) ?_
 unfold mustM
 rintro _ H1 ⟨h1,rfl⟩
 cases q:seesM L w s
 ·have e:takeM L w s=(false,s):=by simp [takeM,q]
  rw [e] at h1
  simp (disch:=omega) only [go_sem,↓cB,dB,e]
  refine call_to (pBad_spec h1.2) ?_
  rintro _ H2 h2
  simp (disch:=omega) only [go_sem,↓cB,dB]
  exact fin (h1.trans h2)
 ·have e:takeM L w s=(true,upM s):=by simp [takeM,q]
  rw [e] at h1
  simp (disch:=omega) only [go_sem,↓cB,dB,e]
  exact fin h1
theorem pFlag_spec (hW:TW L) (h:PM H p tv L s) {w:Str}:CallF Tryz.prog 70 [hp p,sv w] H (fun r H'=>PP H p tv L (flagM L w s).2 H'∧r=iv (flagM L w s).1) NoP:=by
 refine callF_of Tryz.func70 rfl Tryz.ntmps70 Tryz.results70 (by decide) rfl ?_
 simp (disch:=omega) only [go_sem,↓cB,dB]
 refine call_to (pTake_spec hW h) ?_
 unfold flagM
 rintro _ H1 ⟨h1,rfl⟩
 cases q:seesM L w s
 ·have e:takeM L w s=(false,s):=by simp [takeM,q]
  rw [e] at h1
  simp (disch:=omega) only [go_sem,↓cB,dB,e]
  exact fin ⟨h1,rfl⟩
 ·have e:takeM L w s=(true,upM s):=by simp [takeM,q]
  rw [e] at h1
  simp (disch:=omega) only [go_sem,↓cB,dB,e]
  exact fin ⟨h1,rfl⟩
theorem pIn_spec (h:PM H p tv L s) (hd:-1000000000≤s.deep∧s.deep≤1000000000):CallF Tryz.prog 79 [hp p] H (fun r H'=>PP H p tv L (inM L s) H') NoP:=by
 have c2:=h.c2
 have w2:=h.w2
 have h1:=h.set2 (s.deep + 1)
 have f1:Fr [p] H (setH H ⟨p,2,none⟩ (iv (s.deep + 1))):=Fr.set (by simp)
 have c2':=h1.c2
 simp only at c2'
 refine callF_of Tryz.func79 rfl Tryz.ntmps79 Tryz.results79 (by decide) rfl ?_
 unfold inM
 by_cases q:200 < s.deep + 1
 ·simp (disch:=omega) only [go_sem,↓cB,dB,c2,w2,c2']
  refine call_to (pBad_spec h1) ?_
  rintro _ H2 h2
  simp (disch:=omega) only [go_sem,↓cB,dB]
  rw [if_pos q]
  exact fin (PP.trans ⟨f1,h1⟩ h2)
 ·simp (disch:=omega) only [go_sem,↓cB,dB,c2,w2,c2']
  rw [if_neg q]
  exact fin ⟨f1,h1⟩
theorem pName_spec (hW:TW L) (h:PM H p tv L s):CallF Tryz.prog 67 [hp p] H (fun r H'=>PP H p tv L (pnameM L s).2 H'∧r=sv (pnameM L s).1) NoP:=by
 refine callF_of Tryz.func67 rfl Tryz.ntmps67 Tryz.results67 (by decide) rfl ?_
 simp (disch:=omega) only [go_sem,↓cB,dB]
 refine call_to (pNow_spec h) ?_
 rintro _ H1 ⟨f1,rfl⟩
 have h1:=h.grow f1
 simp (disch:=omega) only [go_sem,↓cB,dB,tokC,newPtr]
 have f2:Fr [] H1 (H1.push (.cells (tokC (tkM L s)).toArray 87)):=Fr.push
 have hb:Blk (H1.push (.cells (tokC (tkM L s)).toArray 87)) H1.size 87 (tokC (tkM L s)):=Blk.new rfl
 have h2:=h1.grow f2
 have hln:=hW.len
 have hps:=h.pos
 have hpl:=h1.lt
 have e1:(s.pos:Int) + 1=((s.pos + 1:Nat):Int):=by omega
 by_cases q1:(tkM L s).kind=0
 ·simp (disch:=omega) only [go_sem,↓cB,dB,q1]
  refine call_to r8Name_spec ?_
  rintro _ H3 ⟨f3,rfl⟩
  have f13:Fr [] H H3:=(f1.trans f2).trans f3
  have h3:=h.grow f13
  have hb3:=f3.blk hb (by simp)
  cases q2:nameM (tkM L s).s
  ·simp (disch:=omega) only [go_sem,↓cB,dB]
   refine call_to (pBad_spec h3) ?_
   rintro _ H4 h4
   simp (disch:=omega) only [go_sem,↓cB,dB]
   exact fin ⟨by unfold pnameM isName; simp only [q2,Bool.and_false,Bool.false_and,Bool.false_eq_true,if_false]; exact PP.trans ⟨f13.nil,h3⟩ h4,by unfold pnameM isName; simp [q2]⟩
  ·simp (disch:=omega) only [go_sem,↓cB,dB]
   refine call_to (pOk_spec h3) ?_
   rintro _ _ ⟨rfl,rfl⟩
   cases q3:okM s
   ·simp (disch:=omega) only [go_sem,↓cB,dB]
    refine call_to (pBad_spec h3) ?_
    rintro _ H4 h4
    simp (disch:=omega) only [go_sem,↓cB,dB]
    exact fin ⟨by unfold pnameM isName; simp only [q3,Bool.and_false,Bool.false_and,Bool.false_eq_true,if_false]; exact PP.trans ⟨f13.nil,h3⟩ h4,by unfold pnameM isName; simp [q3]⟩
   ·have c1:=h3.c1
    have w1:=h3.w1
    have hn:s.pos + 1 < L.length:=hW.fin s.pos _ h.tk (by rw [q1]; decide)
    have h4:=pUp h3 hn
    have hb4:=h4.1.blk hb3 (by simp; omega)
    have k1:=hb4.cell 1
    simp only [tokC,gS,gZ] at k1
    simp (disch:=omega) only [go_sem,↓cB,dB,c1,w1,e1,k1]
    have q:isName L s=true:=by unfold isName; simp [q1,q2,q3]
    exact fin ⟨by unfold pnameM; rw [if_pos q]; exact PP.trans ⟨f13.nil,h3⟩ h4,by unfold pnameM; rw [if_pos q]⟩
 ·simp (disch:=omega) only [go_sem,↓cB,dB]
  refine call_to (pBad_spec h2) ?_
  rintro _ H4 h4
  simp (disch:=omega) only [go_sem,↓cB,dB]
  exact fin ⟨by unfold pnameM isName; simp only [q1,decide_false,Bool.false_and,Bool.false_eq_true,if_false]; exact PP.trans ⟨(f1.trans f2).nil,h2⟩ h4,by unfold pnameM isName; simp [q1]⟩
end
end Go.Proofs.YtcffdpmmadipeaaGreatDoor
namespace Go.HL
def hlist (b:Nat):Nat→List Value→List (Addr × Value)
 | _,[]=>[]
 | i,v :: vs=>(⟨b,i,none⟩,v) :: hlist b (i + 1) vs
theorem look_hlist {b:Nat}:∀ (vs:List Value) (k j:Nat),k≤j→lookA (hlist b k vs) ⟨b,j,none⟩=vs[j - k]?
 | [],k,j,_=>by simp [hlist,lookA]
 | v :: vs,k,j,h=>by
  unfold hlist lookA
  by_cases e:k=j
  ·subst e; simp
  ·rw [if_neg (by simp; omega),look_hlist vs (k + 1) j (by omega)]
   have:j - k=(j - (k + 1)) + 1:=by omega
   rw [this]; simp
theorem look_other {b b':Nat} (h:b' ≠ b):∀ (vs:List Value) (k j:Nat),lookA (hlist b k vs) ⟨b',j,none⟩=none
 | [],k,j=>by simp [hlist,lookA]
 | v :: vs,k,j=>by
  unfold hlist lookA
  rw [if_neg (by simp; intro e; exact absurd e.symm h),look_other h vs (k + 1) j]
theorem look_low {b:Nat}:∀ (vs:List Value) (k j:Nat) (b':Nat) v,lookA (hlist b k vs) ⟨b',j,none⟩=some v→b'=b∧k≤j
 | [],k,j,b',v,h=>by simp [hlist,lookA] at h
 | u :: vs,k,j,b',v,h=>by
  unfold hlist lookA at h
  split at h
  ·rename_i e; simp at e; exact ⟨e.1.symm,by omega⟩
  ·have:=look_low vs (k + 1) j b' v h; exact ⟨this.1,by omega⟩
theorem look_spot {b:Nat} {a:Addr} {v:Value}:∀ (vs:List Value) (k:Nat),lookA (hlist b k vs) a=some v→a.spot=none
 | [],k,h=>by simp [hlist,lookA] at h
 | u :: vs,k,h=>by
  unfold hlist lookA at h
  split at h
  ·rename_i e; rw [← e]
  ·exact look_spot vs (k + 1) h
theorem heldOK_blk {H:Heap} {b t:Nat} {vs:List Value} (hb:Blk H b t vs):heldOK (hlist b 0 vs) H:=by
 intro a v h
 have hs:=look_spot vs 0 h
 obtain ⟨b',j,sp⟩:=a
 simp only at hs
 subst hs
 obtain ⟨rfl,_⟩:=look_low vs 0 j b' v h
 rw [look_hlist vs 0 j (by omega)] at h
 rw [hb.cell]; exact h
@[go_sem] theorem look_blk {b i:Nat} {vs:List Value}:lookA (hlist b 0 vs) ⟨b,i,none⟩=vs[i]?:=look_hlist vs 0 i (by omega)
@[go_sem] theorem held_fn {l:List (Addr × Value)}:(held l).cells=lookA l:=(rfl)
theorem held_all {b:Nat} {vs:List Value}:cellsH (lookA (hlist b 0 vs)) ⟨b,0,none⟩ 0 vs.length=some vs:=by
 refine cellsH_at vs 0 0 ?_
 intro j hj
 rw [look_hlist vs 0 _ (by omega)]; simp [hj]
end Go.HL
namespace Go.Proofs.YtcffdpmmadipeaaGreatDoor
open Go.HL
set_option maxRecDepth 10000
structure Nd where
 kind:Int
 words:List Str
 nums:List Int
 kids:List Int
 pos:Int
 deriving DecidableEq
inductive Fo where
 | nil
 | cons (n:Nd) (kids rest:Fo)
 deriving DecidableEq
def Fo.snoc:Fo→Nd→Fo→Fo
 | .nil,n,k=>.cons n k .nil
 | .cons m l r,n,k=>.cons m l (r.snoc n k)
def Fo.len:Fo→Nat
 | .nil=>0
 | .cons _ _ r=>r.len + 1
theorem Fo.len_snoc (f:Fo) (n:Nd) (k:Fo):(f.snoc n k).len=f.len + 1:=by
 induction f with
 | nil=>rfl
 | cons m l r _ ih=>simp [Fo.snoc,Fo.len,ih]
structure NR (H:Heap) (S:Nat→Prop) (wv nv kv:Value) (n:Nd):Prop where
 w:Rd H S 1 wv (n.words.map sv)
 u:Rd H S 1 nv (n.nums.map iv)
 k:kv=.slice none 0 0∧n.kids = []
def FL (H:Heap) (S:Nat→Prop):List Value→Fo→Prop
 | cs,.nil=>cs = []
 | cs,.cons n k r=>∃ wv nv kv lv rest,cs=iv n.kind :: wv :: nv :: kv :: iv n.pos :: lv :: rest∧NR H S wv nv kv n∧(∃ ds,Rd H S 6 lv ds∧FL H S ds k)∧FL H S rest r
def TR (H:Heap) (S:Nat→Prop) (cs:List Value) (n:Nd) (f:Fo):Prop:=∃ wv nv kv lv,cs = [iv n.kind,wv,nv,kv,iv n.pos,lv]∧NR H S wv nv kv n∧∃ ds,Rd H S 6 lv ds∧FL H S ds f
section
variable {H H':Heap} {S S':Nat→Prop} {wv nv kv lv:Value} {n:Nd} {cs:List Value} {f:Fo}
theorem NR.frame (h:NR H S wv nv kv n) (hk:Keeps S H H'):NR H' S wv nv kv n:=⟨h.w.frame hk,h.u.frame hk,h.k⟩
theorem NR.mono (h:NR H S wv nv kv n) (hs:∀ b,S b→b < H.size→S' b):NR H S' wv nv kv n:=⟨h.w.mono hs,h.u.mono hs,h.k⟩
theorem FL.frame (hk:Keeps S H H'):∀ {cs:List Value} {f:Fo},FL H S cs f→FL H' S cs f:=by
 intro cs f
 induction f generalizing cs with
 | nil=>exact id
 | cons n k r ih1 ih2 =>
  rintro ⟨wv,nv,kv,lv,rest,rfl,h1,⟨ds,h2,h3⟩,h4⟩
  exact ⟨wv,nv,kv,lv,rest,rfl,h1.frame hk,⟨ds,h2.frame hk,ih1 h3⟩,ih2 h4⟩
theorem FL.mono (hs:∀ b,S b→b < H.size→S' b):∀ {cs:List Value} {f:Fo},FL H S cs f→FL H S' cs f:=by
 intro cs f
 induction f generalizing cs with
 | nil=>exact id
 | cons n k r ih1 ih2 =>
  rintro ⟨wv,nv,kv,lv,rest,rfl,h1,⟨ds,h2,h3⟩,h4⟩
  exact ⟨wv,nv,kv,lv,rest,rfl,h1.mono hs,⟨ds,h2.mono hs,ih1 h3⟩,ih2 h4⟩
theorem FL.len:∀ {cs:List Value} {f:Fo},FL H S cs f→cs.length=f.len * 6:=by
 intro cs f
 induction f generalizing cs with
 | nil=>rintro rfl; rfl
 | cons n k r ih1 ih2 =>
  rintro ⟨wv,nv,kv,lv,rest,rfl,h1,⟨ds,h2,h3⟩,h4⟩
  simp [Fo.len,ih2 h4]; omega
theorem FL.snoc {k:Fo} {ds:List Value} (ht:TR H S ds n k):∀ {cs:List Value} {f:Fo},FL H S cs f→FL H S (cs ++ ds) (f.snoc n k):=by
 obtain ⟨wv,nv,kv,lv,rfl,h1,es,h2,h3⟩:=ht
 intro cs f
 induction f generalizing cs with
 | nil=>rintro rfl; exact ⟨wv,nv,kv,lv,[],rfl,h1,⟨es,h2,h3⟩,rfl⟩
 | cons n' k' r ih1 ih2 =>
  rintro ⟨wv,nv,kv,lv,rest,rfl,g1,⟨ds,g2,g3⟩,g4⟩
  exact ⟨wv,nv,kv,lv,_,rfl,g1,⟨ds,g2,g3⟩,ih2 g4⟩
theorem TR.frame (hk:Keeps S H H') (h:TR H S cs n f):TR H' S cs n f:=by
 obtain ⟨wv,nv,kv,lv,rfl,h1,es,h2,h3⟩:=h
 exact ⟨wv,nv,kv,lv,rfl,h1.frame hk,es,h2.frame hk,h3.frame hk⟩
theorem TR.mono (hs:∀ b,S b→b < H.size→S' b) (h:TR H S cs n f):TR H S' cs n f:=by
 obtain ⟨wv,nv,kv,lv,rfl,h1,es,h2,h3⟩:=h
 exact ⟨wv,nv,kv,lv,rfl,h1.mono hs,es,h2.mono hs,h3.mono hs⟩
theorem Rd.slice {z:Nat} {v:Value} {vs:List Value} (h:Rd H S z v vs):∃ a l c,v=.slice a l c:=by
 obtain ⟨a,l,c,e,_⟩:=h; exact ⟨a,l,c,e⟩
end
section
variable {H H':Heap} {p:Nat} {tv:Value} {L:List Tok} {s s':PS}
theorem valM_step {l:Str} {i:Nat} {c:UInt8} (h:l[i]?=some c):valM (l.take (i + 1))=10 * valM (l.take i) + ((c.toNat:Int) - 48):=by
 unfold valM; rw [List.take_add_one,h]; simp
theorem pNum_spec (hW:TW L) (h:PM H p tv L s):CallF Tryz.prog 69 [hp p] H (fun r H'=>PP H p tv L (pnumM L s).2 H'∧r=iv (pnumM L s).1) NoP:=by
 refine callF_of Tryz.func69 rfl Tryz.ntmps69 Tryz.results69 (by decide) rfl ?_
 simp (disch:=omega) only [go_sem,↓cB,dB]
 refine call_to (pNow_spec h) ?_
 rintro _ H1 ⟨f1,rfl⟩
 have h1:=h.grow f1
 simp (disch:=omega) only [go_sem,↓cB,dB,tokC]
 have f2:Fr [] H1 (H1.push (.cells (tokC (tkM L s)).toArray 87)):=Fr.push
 have hb:Blk (H1.push (.cells (tokC (tkM L s)).toArray 87)) H1.size 87 (tokC (tkM L s)):=Blk.new rfl
 have h2:=h1.grow f2
 have hln:=hW.len
 have hps:=h.pos
 have hpl:=h1.lt
 have e1:(s.pos:Int) + 1=((s.pos + 1:Nat):Int):=by omega
 by_cases q1:(tkM L s).kind=1
 ·simp (disch:=omega) only [go_sem,↓cB,dB,q1]
  refine call_to (pOk_spec h2) ?_
  rintro _ _ ⟨rfl,rfl⟩
  cases q3:okM s
  ·simp (disch:=omega) only [go_sem,↓cB,dB]
   refine call_to (pBad_spec h2) ?_
   rintro _ H4 h4
   simp (disch:=omega) only [go_sem,↓cB,dB]
   exact fin ⟨by unfold pnumM isNum; simp only [q3,Bool.and_false,Bool.false_and,Bool.false_eq_true,if_false]; exact PP.trans ⟨(f1.trans f2).nil,h2⟩ h4,by unfold pnumM isNum; simp [q3]⟩
  ·have c1:=h2.c1
   have w1:=h2.w1
   have hn:s.pos + 1 < L.length:=hW.fin s.pos _ h.tk (by rw [q1]; decide)
   have h4:=pUp h2 hn
   have hb4:=h4.1.blk hb (by simp; omega)
   have k1:=hb4.cell 1
   obtain ⟨hl6,hdig⟩:=hW.num s.pos _ h.tk q1
   have q:isNum L s=true:=by unfold isNum; simp [q1,q3]
   have hres:pnumM L s=(valM (tkM L s).s,upM s):=by unfold pnumM; rw [if_pos q]
   rw [hres]
   generalize hH4:setH (H1.push (.cells (tokC (tkM L s)).toArray 87)) ⟨p,1,none⟩ (iv ((s.pos + 1:Nat):Int))=H4 at h4 hb4 k1
   generalize hts:(tkM L s).s=ts at *
   simp only [tokC,gS,gZ,hts] at k1 hH4 c1 w1
   simp (disch:=omega) only [go_sem,↓cB,dB,c1,w1,e1,hH4]
   refine loop_by (fun k ρ H5=>∃ (i:Nat) (n:Int),k=ts.length - i∧i≤ts.length∧n=valM (ts.take i)∧0≤n∧n + 1≤10 ^ i∧H5=H4∧(ρ.get 3=hp H1.size∧ρ.get 4=iv n∧ρ.get 5=iv i∧ρ.ds = [])) (k:=ts.length) ?_ ?_
   ·exact ⟨0,0,rfl,by omega,rfl,by omega,by simp,rfl,by simp (disch:=omega) only [go_sem,↓cB,dB]⟩
   ·rintro k ρ _ ⟨i,n,rfl,hi,hn2,hn3,hn4,rfl,⟨r3,r4,r5,rd⟩⟩
    have hi1:(i:Int) + 1=((i + 1:Nat):Int):=by omega
    by_cases hin:i < ts.length
    ·have hb8:=bt8_lt hin
     have hd:digitM (bt8 ts i)=true:=List.all_eq_true.1 hdig _ (List.mem_of_getElem? hb8)
     unfold digitM at hd
     simp only [decide_eq_true_eq] at hd
     have hp6:(10:Int) ^ i≤100000:=by
      have hi5:i≤5:=by omega
      have:∀ i:Nat,i≤5→(10:Int) ^ i≤100000:=by decide
      exact this i hi5
     have hwr:IntKind.u8.wrap ((bt8 ts i).toNat - 48:Int)=(bt8 ts i).toNat - 48:=by
      simp [IntKind.wrap,IntKind.bits,IntKind.signed]; omega
     simp (disch:=omega) only [go_sem,↓cB,dB,r3,r4,r5,rd,k1,hwr]
     refine fin ⟨ts.length - (i + 1),by omega,i + 1,10 * n + (((bt8 ts i).toNat:Int) - 48),rfl,by omega,by rw [valM_step hb8,hn2],by omega,?_,rfl,by simp (disch:=omega) only [go_sem,↓cB,dB,r3,r4,r5,rd,hi1]⟩
     rw [Int.pow_succ]
     generalize (10:Int) ^ i=z at *
     omega
    ·simp (disch:=omega) only [go_sem,↓cB,dB,r3,r4,r5,rd,k1]
     have:ts.take i=ts:=List.take_of_length_le (by omega)
     exact fin ⟨PP.trans ⟨(f1.trans f2).nil,h2⟩ h4,by rw [hn2,this]⟩
 ·simp (disch:=omega) only [go_sem,↓cB,dB]
  refine call_to (pBad_spec h2) ?_
  rintro _ H4 h4
  simp (disch:=omega) only [go_sem,↓cB,dB]
  exact fin ⟨by unfold pnumM isNum; simp only [q1,decide_false,Bool.false_and,Bool.false_eq_true,if_false]; exact PP.trans ⟨(f1.trans f2).nil,h2⟩ h4,by unfold pnumM isNum; simp [q1]⟩
def beginM (L:List Tok) (k:Int) (s:PS):Nd:=⟨k,[],[],[],(tkM L s).pos⟩
abbrev noS:Value:=.slice none 0 0
def nd0 (n:Nd):List Value:=[iv n.kind,noS,noS,noS,iv n.pos,noS]
end
end Go.Proofs.YtcffdpmmadipeaaGreatDoor
namespace Go.Proofs.YtcffdpmmadipeaaGreatDoor
open Go.HL
set_option maxRecDepth 10000
section
variable {H H':Heap} {p:Nat} {tv:Value} {L:List Tok} {s s':PS}
theorem pBegin_spec (h:PM H p tv L s) {k:Int}:CallF Tryz.prog 51 [hp p,iv k] H (fun r H'=>Fr [] H H'∧r=.agg (nd0 (beginM L k s)).toArray) NoP:=by
 obtain ⟨G,hG⟩:∃ G,G=H.push (.cells #[iv 0,noS,noS,noS,iv 0,noS] 61):=⟨_,rfl⟩
 have f0:Fr [] H G:=by rw [hG]; exact Fr.push
 have h0:=h.grow f0
 have b0:Blk G H.size 61 [iv 0,noS,noS,noS,iv 0,noS]:=by rw [hG]; exact Blk.new rfl
 refine callF_of Tryz.func51 rfl Tryz.ntmps51 Tryz.results51 (by decide) rfl ?_
 simp (disch:=omega) only [go_sem,↓cB,dB]
 rw [← hG]
 refine call_to (pNow_spec h0) ?_
 intro v H1 hv
 refine Hush.out ?_
 have f1:=hv.1
 have b1:=f1.blk b0 (by simp)
 obtain rfl:=hv.2
 obtain ⟨H2,e1,e2,e3⟩:=store_blk (P:=Tryz.prog) (ty:=61) (new:=[iv k,noS,noS,noS,iv (tkM L s).pos,noS]) b1 rfl T.size61 (one_all rfl)
 have e4:cellsH (cellH H2) ⟨H.size,0,none⟩ 0 6=some [iv k,noS,noS,noS,iv (tkM L s).pos,noS]:=e2.cells0
 refine ⟨?_⟩
 simp (disch:=omega) only [go_sem,↓cB,dB,tokC,e1,e4]
 exact fin ⟨fr_new (f0.trans f1) e3 (by simp),rfl⟩
end
end Go.Proofs.YtcffdpmmadipeaaGreatDoor
namespace Go.Proofs.YtcffdpmmadipeaaGreatDoor
open Go.HL
set_option maxRecDepth 10000
abbrev TT:=Nd × Fo
def binM (sg:Int) (a b:TT):TT:=(⟨22,[],[sg],[],a.1.pos⟩,.cons a.1 a.2 (.cons b.1 b.2 .nil))
section
variable {H H':Heap} {S:Nat→Prop} {cs:List Value} {n:Nd} {f:Fo}
theorem TR.form (h:TR H S cs n f):∃ a1 l1 c1 a2 l2 c2 a3 l3 c3 a4 l4 c4,cs = [iv n.kind,.slice a1 l1 c1,.slice a2 l2 c2,.slice a3 l3 c3,iv n.pos,.slice a4 l4 c4]:=by
 obtain ⟨wv,nv,kv,lv,rfl,h1,es,h2,h3⟩:=h
 obtain ⟨a1,l1,c1,rfl⟩:=Rd.slice h1.w
 obtain ⟨a2,l2,c2,rfl⟩:=Rd.slice h1.u
 have h3k:=h1.k.1
 subst h3k
 obtain ⟨a4,l4,c4,rfl⟩:=Rd.slice h2
 exact ⟨a1,l1,c1,a2,l2,c2,none,0,0,a4,l4,c4,rfl⟩
theorem TR.grow (h:TR H S cs n f) (hf:Fr [] H H'):TR H' S cs n f:=h.frame (Keeps.of_fr hf (by simp))
theorem Rd.of_blk {b t z len:Nat} {vs:List Value} (hb:Blk H b t vs) (hl:vs.length=len * z) (hs:S b) {c:Nat}:Rd H S z (.slice (some ⟨b,0,none⟩) len c) vs :=
 ⟨_,len,c,rfl,hl,fun i x hx=>⟨b,0,rfl,hs,by rw [Nat.zero_add,hb.cell]; exact hx⟩⟩
theorem Rd.none' {z c:Nat}:Rd H S z noS []:=Rd.nil
theorem TR.two {na nb:Nd} {fa fb:Fo} {ca cb:List Value} (ha:TR H S ca na fa) (hb:TR H S cb nb fb):FL H S (ca ++ cb) (.cons na fa (.cons nb fb .nil)):=by
 have h1:FL H S [] .nil:=rfl
 exact (h1.snoc ha).snoc hb
theorem r9bin_spec {sg:Int} {a b:TT} {ca cb:List Value} (ha:TR H S ca a.1 a.2) (hb:TR H S cb b.1 b.2) (hS:∀ x,H.size≤x→S x) :
  CallF Tryz.prog 83 [iv sg,.agg ca.toArray,.agg cb.toArray] H (fun r H'=>Fr [] H H'∧∃ cs,r=.agg cs.toArray∧TR H' S cs (binM sg a b).1 (binM sg a b).2) NoP:=by
 obtain ⟨a1,l1,c1,a2,l2,c2,a3,l3,c3,a4,l4,c4,ea⟩:=ha.form
 obtain ⟨b1,m1,d1,b2,m2,d2,b3,m3,d3,b4,m4,d4,eb⟩:=hb.form
 obtain ⟨G1,hG1⟩:∃ G,G=H.push (.cells ca.toArray 61):=⟨_,rfl⟩
 obtain ⟨G2,hG2⟩:∃ G,G=G1.push (.cells cb.toArray 61):=⟨_,rfl⟩
 obtain ⟨G3,hG3⟩:∃ G,G=G2.push (.cells #[iv 0,noS,noS,noS,iv 0,noS] 61):=⟨_,rfl⟩
 obtain ⟨G4,hG4⟩:∃ G,G=G3.push (.cells #[iv sg] 3):=⟨_,rfl⟩
 obtain ⟨G5,hG5⟩:∃ G,G=G4.push (.cells (ca ++ cb).toArray 61):=⟨_,rfl⟩
 have k1:Blk G1 H.size 61 ca:=by rw [hG1]; exact Blk.new rfl
 have k2:Blk G2 G1.size 61 cb:=by rw [hG2]; exact Blk.new rfl
 have k3:Blk G3 G2.size 61 [iv 0,noS,noS,noS,iv 0,noS]:=by rw [hG3]; exact Blk.new rfl
 have k4:Blk G4 G3.size 3 [iv sg]:=by rw [hG4]; exact Blk.new rfl
 have k5:Blk G5 G4.size 61 (ca ++ cb):=by rw [hG5]; exact Blk.new rfl
 have p1:Fr [] H G1:=by rw [hG1]; exact Fr.push
 have p2:Fr [] G1 G2:=by rw [hG2]; exact Fr.push
 have p3:Fr [] G2 G3:=by rw [hG3]; exact Fr.push
 have p4:Fr [] G3 G4:=by rw [hG4]; exact Fr.push
 have p5:Fr [] G4 G5:=by rw [hG5]; exact Fr.push
 have z1:G1.size=H.size + 1:=by rw [hG1]; simp
 have z2:G2.size=H.size + 2:=by rw [hG2]; simp [z1]
 have z3:G3.size=H.size + 3:=by rw [hG3]; simp [z2]
 have z4:G4.size=H.size + 4:=by rw [hG4]; simp [z3]
 have ka:=(((p2.trans p3).trans p4).blk k1 (by simp))
 have kb:=((p3.trans p4).blk k2 (by simp))
 have xa:cellsH (cellH G4) ⟨H.size,0,none⟩ 0 6=some ca:=by have:=ka.cells0; rw [ea] at this ⊢; exact this
 have xb:cellsH (cellH G4) ⟨G1.size,0,none⟩ 0 6=some cb:=by have:=kb.cells0; rw [eb] at this ⊢; exact this
 have xp:cellH G4 ⟨H.size,4,none⟩=some (iv a.1.pos):=by rw [ka.cell,ea]; rfl
 have k3':=(p4.trans p5).blk k3 (by simp)
 obtain ⟨G6,e1,e2,e3⟩:=store_blk (P:=Tryz.prog) (ty:=61) (new:=[iv 22,noS,.slice (some ⟨G3.size,0,none⟩) 1 1,noS,iv a.1.pos,.slice (some ⟨G4.size,0,none⟩) 2 2]) k3' rfl T.size61 (one_all rfl)
 have e4:cellsH (cellH G6) ⟨G2.size,0,none⟩ 0 6=some [iv 22,noS,.slice (some ⟨G3.size,0,none⟩) 1 1,noS,iv a.1.pos,.slice (some ⟨G4.size,0,none⟩) 2 2]:=e2.cells0
 have hall:Fr [] H G6:=fr_new ((((p1.trans p2).trans p3).trans p4).trans p5) e3 (by simp; omega)
 have h6a:=ha.grow hall
 have h6b:=hb.grow hall
 have q4:Blk G6 G3.size 3 [iv sg]:=e3.blk (p5.blk k4 (by simp)) (by simp; omega)
 have q5:Blk G6 G4.size 61 (ca ++ cb):=e3.blk k5 (by simp; omega)
 have hres:TR G6 S [iv 22,noS,.slice (some ⟨G3.size,0,none⟩) 1 1,noS,iv a.1.pos,.slice (some ⟨G4.size,0,none⟩) 2 2] (binM sg a b).1 (binM sg a b).2 :=
  ⟨_,_,_,_,rfl,⟨Rd.nil,Rd.of_blk q4 rfl (hS _ (by omega)),rfl,rfl⟩,_,Rd.of_blk q5 (by rw [ea,eb]; rfl) (hS _ (by omega)),h6a.two h6b⟩
 have bsx:buildSliceV Tryz.prog G4 59 2 [(0,.agg ca.toArray),(1,.agg cb.toArray)]=some (.slice (some ⟨G4.size,0,none⟩) 2 2,G5):=by
  rw [hG5,ea,eb]; exact T.bs59_2
 refine Hush.out ?_
 refine ⟨?_⟩
 refine callF_of Tryz.func83 rfl Tryz.ntmps83 Tryz.results83 (by decide) rfl ?_
 simp (disch:=omega) only [go_sem,↓cB,dB,← hG1,← hG2,← hG3,← hG4,xa,xb,xp,bsx,e1,e4]
 exact fin ⟨hall,_,rfl,hres⟩
end
end Go.Proofs.YtcffdpmmadipeaaGreatDoor
namespace Go.Proofs.YtcffdpmmadipeaaGreatDoor
open Go.HL
set_option maxRecDepth 10000
inductive Cm where
 | expr | and | same | less | sum | product | part
 | orL (a:TT) | andL (a:TT) | sumL (a:TT) | prodL (a:TT)
def nameT (L:List Tok) (k:Int) (s0 s:PS):TT × PS:=((⟨k,[(pnameM L s).1],[],[],(tkM L s0).pos⟩,.nil),(pnameM L s).2)
def stepE (L:List Tok) (ih:Cm→PS→Option (TT × PS)):Cm→PS→Option (TT × PS)
 | .expr,s=>(ih .and s).bind fun r=>ih (.orL r.1) r.2
 | .orL a,s=>if seesM L [124,124] s then (ih .and (upM s)).bind fun r=>ih (.orL (binM 0 a r.1)) r.2 else some (a,s)
 | .and,s=>(ih .same s).bind fun r=>ih (.andL r.1) r.2
 | .andL a,s=>if seesM L [38,38] s then (ih .same (upM s)).bind fun r=>ih (.andL (binM 1 a r.1)) r.2 else some (a,s)
 | .same,s=>(ih .less s).bind fun r=>if seesM L [61,61] r.2 then (ih .less (upM r.2)).map fun q=>(binM 2 r.1 q.1,q.2) else some r
 | .less,s=>(ih .sum s).bind fun r=>if seesM L [60] r.2 then (ih .sum (upM r.2)).map fun q=>(binM 3 r.1 q.1,q.2) else some r
 | .sum,s=>(ih .product s).bind fun r=>ih (.sumL r.1) r.2
 | .sumL a,s=>if seesM L [43] s then (ih .product (upM s)).bind fun r=>ih (.sumL (binM 4 a r.1)) r.2
  else if seesM L [45] s then (ih .product (upM s)).bind fun r=>ih (.sumL (binM 5 a r.1)) r.2 else some (a,s)
 | .product,s=>(ih .part s).bind fun r=>ih (.prodL r.1) r.2
 | .prodL a,s=>if seesM L [42] s then (ih .part (upM s)).bind fun r=>ih (.prodL (binM 6 a r.1)) r.2
  else if seesM L [47] s then (ih .part (upM s)).bind fun r=>ih (.prodL (binM 7 a r.1)) r.2
  else if seesM L [37] s then (ih .part (upM s)).bind fun r=>ih (.prodL (binM 8 a r.1)) r.2 else some (a,s)
 | .part,s =>
  if isNum L s then some ((⟨17,[],[(pnumM L s).1],[],(tkM L s).pos⟩,.nil),(pnumM L s).2)
  else if seesM L [108,101,110] s then some (nameT L 19 s (upM s))
  else if seesM L [45] s || seesM L [33] s then
   if s.deep < -1000000000∨1000000000 < s.deep then none
   else if okM (inM L (upM s)) then (ih .part (inM L (upM s))).bind fun r=>if r.2.deep < -1000000000∨1000000000 < r.2.deep then none else some ((⟨if seesM L [45] s then 20 else 21,[],[],[],(tkM L s).pos⟩,.cons r.1.1 r.1.2 .nil),outM r.2)
   else some ((⟨if seesM L [45] s then 20 else 21,[],[],[],(tkM L s).pos⟩,.nil),outM (inM L (upM s)))
  else if seesM L [40] s then
   if s.deep < -1000000000∨1000000000 < s.deep then none
   else if okM (inM L (upM s)) then (ih .expr (inM L (upM s))).bind fun r=>if r.2.deep < -1000000000∨1000000000 < r.2.deep then none else some (r.1,mustM L [41] (outM r.2))
   else some ((beginM L 17 s,.nil),mustM L [41] (outM (inM L (upM s))))
  else some (nameT L 18 s s)
def runE (L:List Tok):Nat→Cm→PS→Option (TT × PS)
 | 0=>fun _ _=>none
 | n + 1=>stepE L (runE L n)
def ExpQ (H:Heap) (p:Nat) (tv:Value) (L:List Tok) (r:TT × PS) (v:Value) (H':Heap):Prop :=
 PP H p tv L r.2 H'∧∃ cs,v=.agg cs.toArray∧TR H' (fun b=>H.size≤b) cs r.1.1 r.1.2
def FnE (L:List Tok) (f:Nat) (g:PS→Option (TT × PS)):Prop:=∀ {H p tv s r},PM H p tv L s→g s=some r→CallF Tryz.prog f [hp p] H (ExpQ H p tv L r) NoP
structure SpecE (L:List Tok) (ih:Cm→PS→Option (TT × PS)):Prop where
 expr:FnE L 71 (ih .expr)
 and:FnE L 82 (ih .and)
 same:FnE L 94 (ih .same)
 less:FnE L 103 (ih .less)
 sum:FnE L 107 (ih .sum)
 product:FnE L 109 (ih .product)
 part:FnE L 110 (ih .part)
def z6:List Value:=[iv 0,noS,noS,noS,iv 0,noS]
structure XI (H H2:Heap) (p:Nat) (tv:Value) (L:List Tok) (b3:Nat) (cs:List Value) (a:TT) (s:PS):Prop where
 pp:PP H p tv L s H2
 low:p < H.size
 res:Blk H2 H.size 61 z6
 box:Blk H2 b3 61 cs
 gt:H.size < b3
 tr:TR H2 (fun b=>H.size < b∧b ≠ b3) cs a.1 a.2
section
variable {H H2 H3 H4:Heap} {p:Nat} {tv:Value} {L:List Tok} {b3:Nat} {cs cs2:List Value} {a t:TT} {s s2:PS}
theorem XI.step (x:XI H H2 p tv L b3 cs a s) (q:PP H2 p tv L s2 H3):XI H H3 p tv L b3 cs a s2 :=
 ⟨x.pp.trans q,x.low,q.1.blk x.res (by have:=x.low; simp; omega),q.1.blk x.box (by have:=x.low; have:=x.gt; simp; omega),x.gt,
  x.tr.frame (Keeps.of_fr q.1 (by have:=x.low; rintro b ⟨h1,h2⟩; simp; omega))⟩
theorem XI.grow (x:XI H H2 p tv L b3 cs a s) (q:Fr [] H2 H3):XI H H3 p tv L b3 cs a s:=x.step ⟨q.nil,x.pp.2.grow q⟩
theorem XI.put (x:XI H H4 p tv L b3 cs a s) (ht:TR H4 (fun b=>H.size < b∧b ≠ b3) cs2 t.1 t.2):∃ H5,storeA Tryz.prog H4 61 ⟨b3,0,none⟩ (.agg cs2.toArray)=some H5∧XI H H5 p tv L b3 cs2 t s:=by
 have hl:cs.length=cs2.length:=by
  obtain ⟨a1,l1,c1,a2,l2,c2,a3,l3,c3,a4,l4,c4,e⟩:=x.tr.form
  obtain ⟨b1,m1,d1,b2,m2,d2,b3,m3,d3,b4,m4,d4,e'⟩:=ht.form
  rw [e,e']; rfl
 have hs:sizeT Tryz.prog 61=some cs2.length:=by
  obtain ⟨b1,m1,d1,b2,m2,d2,b3,m3,d3,b4,m4,d4,e'⟩:=ht.form
  rw [e']; exact T.size61
 have ho:∀ v ∈ cs2,oneC v=true:=by
  obtain ⟨b1,m1,d1,b2,m2,d2,b3,m3,d3,b4,m4,d4,e'⟩:=ht.form
  rw [e']; exact one_all rfl
 obtain ⟨H5,e1,e2,e3⟩:=store_blk (P:=Tryz.prog) (ty:=61) (new:=cs2) x.box hl hs ho
 have hlow:=x.low
 have hgt:=x.gt
 exact ⟨H5,e1,x.pp.over x.low e3 (by simp; omega),x.low,e3.blk x.res (by simp; omega),e2,x.gt,ht.frame (Keeps.of_fr e3 (by rintro b ⟨h1,h2⟩; simpa using h2))⟩
theorem XI.ld (x:XI H H2 p tv L b3 cs a s):cellsH (cellH H2) ⟨b3,0,none⟩ 0 6=some cs:=by
 obtain ⟨a1,l1,c1,a2,l2,c2,a3,l3,c3,a4,l4,c4,e⟩:=x.tr.form
 have:=x.box.cells0; rw [e] at this ⊢; exact this
theorem XI.hld (x:XI H H2 p tv L b3 cs a s):cellsH (lookA (hlist b3 0 cs)) ⟨b3,0,none⟩ 0 6=some cs:=by
 obtain ⟨a1,l1,c1,a2,l2,c2,a3,l3,c3,a4,l4,c4,e⟩:=x.tr.form
 have:=held_all (b:=b3) (vs:=cs); rw [e] at this ⊢; exact this
theorem XI.fin (x:XI H H2 p tv L b3 cs a s):∃ H5,storeA Tryz.prog H2 61 ⟨H.size,0,none⟩ (.agg cs.toArray)=some H5∧cellsH (cellH H5) ⟨H.size,0,none⟩ 0 6=some cs∧ExpQ H p tv L (a,s) (.agg cs.toArray) H5:=by
 obtain ⟨a1,l1,c1,a2,l2,c2,a3,l3,c3,a4,l4,c4,e⟩:=x.tr.form
 obtain ⟨H5,e1,e2,e3⟩:=store_blk (P:=Tryz.prog) (ty:=61) (new:=cs) x.res (by rw [e]; rfl) (by rw [e]; exact T.size61) (by rw [e]; exact one_all rfl)
 have e4:=e2.cells0
 have hl:cs.length=6:=by rw [e]; rfl
 rw [hl] at e4
 exact ⟨H5,e1,e4,x.pp.over x.low e3 (by simp),cs,rfl,(x.tr.frame (Keeps.of_fr e3 (by rintro b ⟨h1,h2⟩; simp; omega))).mono (by rintro b ⟨h1,h2⟩ _; omega)⟩
theorem XI.new {H1 G G1:Heap} {r1:TT × PS} (hlow:p < H.size) (f0:Fr [] H G) (zG:G.size=H.size + 1) (b0:Blk G H.size 61 z6) (q:PP G p tv L r1.2 H1) (t1:TR H1 (fun b=>G.size≤b) cs r1.1.1 r1.1.2)
  (hG1:G1=H1.push (.cells cs.toArray 61)):XI H G1 p tv L H1.size cs r1.1 r1.2:=by
 have f1:Fr [] H1 G1:=by rw [hG1]; exact Fr.push
 have hz:=q.1.size
 have b1:=f1.blk (q.1.blk b0 (by simp; omega)) (by simp)
 refine ⟨⟨(f0.nil.trans q.1).trans f1.nil,q.2.grow f1⟩,hlow,b1,by rw [hG1]; exact Blk.new rfl,by omega,?_⟩
 exact (t1.mono (by intro b h1 h2; constructor <;> omega)).grow f1
end
end Go.Proofs.YtcffdpmmadipeaaGreatDoor
namespace Go.Proofs.YtcffdpmmadipeaaGreatDoor
open Go.HL
set_option maxRecDepth 10000
theorem pExpr_step {L:List Tok} {n:Nat} (hW:TW L) (IH:∀ m,m < n + 1→SpecE L (runE L m)):FnE L 71 (runE L (n + 1) .expr):=by
 intro H p tv s r h hm
 have hlow:=h.lt
 change ((runE L n .and s).bind fun r=>runE L n (.orL r.1) r.2)=some r at hm
 obtain ⟨r1,hr1,hm⟩:=Option.bind_eq_some_iff.1 hm
 obtain ⟨G,hG⟩:∃ G,G=H.push (.cells #[iv 0,noS,noS,noS,iv 0,noS] 61):=⟨_,rfl⟩
 have f0:Fr [] H G:=by rw [hG]; exact Fr.push
 have zG:G.size=H.size + 1:=by rw [hG]; simp
 have h0:=h.grow f0
 have b0:Blk G H.size 61 z6:=by rw [hG]; exact Blk.new rfl
 refine callF_of Tryz.func71 rfl Tryz.ntmps71 Tryz.results71 (by decide) rfl ?_
 simp (disch:=omega) only [go_sem,↓cB,dB]
 rw [← hG]
 refine call_to ((IH n (by omega)).and h0 hr1) ?_
 intro v H1 hv
 refine Hush.out ?_
 obtain ⟨q1,cs,rfl,t1⟩:=hv
 obtain ⟨G1,hG1⟩:∃ G,G=H1.push (.cells cs.toArray 61):=⟨_,rfl⟩
 have x:=XI.new hlow f0 zG b0 q1 t1 hG1
 obtain ⟨a1,l1,c1,a2,l2,c2,a3,l3,c3,a4,l4,c4,e⟩:=t1.form
 subst e
 refine ⟨?_⟩
 simp (disch:=omega) only [go_sem,↓cB,dB]
 rw [← hG1]
 refine loop_by (fun k ρ H2=>∃ a s1 cs,runE L k (.orL a) s1=some r∧k≤n∧XI H H2 p tv L H1.size cs a s1∧(ρ.get 0=hp p∧ρ.get 2=hp H.size∧ρ.get 3=hp H1.size∧ρ.ds = [])) (k:=n) ?_ ?_
 ·exact ⟨r1.1,r1.2,_,hm,Nat.le_refl _,x,by simp (disch:=omega) only [go_sem,↓cB,dB]⟩
 ·rintro k ρ H2 ⟨a,s1,cs,hk,hkn,x,r0,r2,r3,rd⟩
  cases k with
  | zero=>simp [runE] at hk
  | succ k =>
  change (if seesM L [124,124] s1 then (runE L k .and (upM s1)).bind fun r=>runE L k (.orL (binM 0 a r.1)) r.2 else some (a,s1))=some r at hk
  simp (disch:=omega) only [go_sem,↓cB,dB,r0,r2,r3,rd]
  refine call_to (pTake_spec hW x.pp.2) ?_
  intro v H3 hv
  refine Hush.out ?_
  obtain ⟨q3,rfl⟩:=hv
  cases hse:seesM L [124,124] s1
  ·rw [hse] at hk
   simp only [Bool.false_eq_true,if_false,Option.some.injEq] at hk
   subst hk
   have ht:takeM L [124,124] s1=(false,s1):=by simp [takeM,hse]
   rw [ht] at q3
   have x3:=x.step q3
   have ld:=x3.ld
   obtain ⟨H5,e1,e2,e3⟩:=x3.fin
   refine ⟨?_⟩
   simp (disch:=omega) only [go_sem,↓cB,dB,ht,r0,r2,r3,rd,ld,e1,e2]
   exact fin e3
  ·rw [hse] at hk
   simp only [if_true] at hk
   obtain ⟨r2',hr2,hk⟩:=Option.bind_eq_some_iff.1 hk
   have ht:takeM L [124,124] s1=(true,upM s1):=by simp [takeM,hse]
   rw [ht] at q3
   have x3:=x.step q3
   have hl3:=x3.hld
   refine ⟨?_⟩
   simp (disch:=omega) only [go_sem,↓cB,dB,ht,r0,r2,r3,rd]
   refine draw1 (lk [(0,false),(1,true)] (.act 2 (.actd 3 (.actd 4 .fin)) .non)) T.mixed (hlist H1.size 0 cs) (heldOK_blk x3.box) ?_
   simp (disch:=omega) only [go_sem,↓cB,dB,r0,r2,r3,rd,hl3]
   refine call_to ((IH k (by omega)).and x3.pp.2 hr2) ?_
   intro v H4 hv
   refine Hush.out ?_
   obtain ⟨q4,cs4,rfl,t4⟩:=hv
   have x4:=x3.step q4
   have hs3:=x3.box.lt
   have hz:=x3.gt
   refine ⟨?_⟩
   refine held_by (heldOK_blk x4.box) ?_
   simp (disch:=omega) only [go_sem,↓cB,dB,r0,r2,r3,rd]
   refine call_to (r9bin_spec (sg:=0) (a:=a) (b:=r2'.1) (S:=fun b=>H.size < b∧b ≠ H1.size) x4.tr (t4.mono (by intro b hb _; constructor <;> omega)) (by intro b hb; have:=x4.box.lt; constructor <;> omega)) ?_
   intro v H5 hv
   refine Hush.out ?_
   obtain ⟨f5,cs5,rfl,t5⟩:=hv
   have x5:=x4.grow f5
   obtain ⟨H6,e6,x6⟩:=x5.put t5
   refine ⟨?_⟩
   simp (disch:=omega) only [go_sem,↓cB,dB,r0,r2,r3,rd,e6]
   exact fin ⟨k,by omega,_,_,_,hk,by omega,x6,by simp (disch:=omega) only [go_sem,↓cB,dB,r0,r2,r3,rd]⟩
theorem pAnd_step {L:List Tok} {n:Nat} (hW:TW L) (IH:∀ m,m < n + 1→SpecE L (runE L m)):FnE L 82 (runE L (n + 1) .and):=by
 intro H p tv s r h hm
 have hlow:=h.lt
 change ((runE L n .same s).bind fun r=>runE L n (.andL r.1) r.2)=some r at hm
 obtain ⟨r1,hr1,hm⟩:=Option.bind_eq_some_iff.1 hm
 obtain ⟨G,hG⟩:∃ G,G=H.push (.cells #[iv 0,noS,noS,noS,iv 0,noS] 61):=⟨_,rfl⟩
 have f0:Fr [] H G:=by rw [hG]; exact Fr.push
 have zG:G.size=H.size + 1:=by rw [hG]; simp
 have h0:=h.grow f0
 have b0:Blk G H.size 61 z6:=by rw [hG]; exact Blk.new rfl
 refine callF_of Tryz.func82 rfl Tryz.ntmps82 Tryz.results82 (by decide) rfl ?_
 simp (disch:=omega) only [go_sem,↓cB,dB]
 rw [← hG]
 refine call_to ((IH n (by omega)).same h0 hr1) ?_
 intro v H1 hv
 refine Hush.out ?_
 obtain ⟨q1,cs,rfl,t1⟩:=hv
 obtain ⟨G1,hG1⟩:∃ G,G=H1.push (.cells cs.toArray 61):=⟨_,rfl⟩
 have x:=XI.new hlow f0 zG b0 q1 t1 hG1
 obtain ⟨a1,l1,c1,a2,l2,c2,a3,l3,c3,a4,l4,c4,e⟩:=t1.form
 subst e
 refine ⟨?_⟩
 simp (disch:=omega) only [go_sem,↓cB,dB]
 rw [← hG1]
 refine loop_by (fun k ρ H2=>∃ a s1 cs,runE L k (.andL a) s1=some r∧k≤n∧XI H H2 p tv L H1.size cs a s1∧(ρ.get 0=hp p∧ρ.get 2=hp H.size∧ρ.get 3=hp H1.size∧ρ.ds = [])) (k:=n) ?_ ?_
 ·exact ⟨r1.1,r1.2,_,hm,Nat.le_refl _,x,by simp (disch:=omega) only [go_sem,↓cB,dB]⟩
 ·rintro k ρ H2 ⟨a,s1,cs,hk,hkn,x,r0,r2,r3,rd⟩
  cases k with
  | zero=>simp [runE] at hk
  | succ k =>
  change (if seesM L [38,38] s1 then (runE L k .same (upM s1)).bind fun r=>runE L k (.andL (binM 1 a r.1)) r.2 else some (a,s1))=some r at hk
  simp (disch:=omega) only [go_sem,↓cB,dB,r0,r2,r3,rd]
  refine call_to (pTake_spec hW x.pp.2) ?_
  intro v H3 hv
  refine Hush.out ?_
  obtain ⟨q3,rfl⟩:=hv
  cases hse:seesM L [38,38] s1
  ·rw [hse] at hk
   simp only [Bool.false_eq_true,if_false,Option.some.injEq] at hk
   subst hk
   have ht:takeM L [38,38] s1=(false,s1):=by simp [takeM,hse]
   rw [ht] at q3
   have x3:=x.step q3
   have ld:=x3.ld
   obtain ⟨H5,e1,e2,e3⟩:=x3.fin
   refine ⟨?_⟩
   simp (disch:=omega) only [go_sem,↓cB,dB,ht,r0,r2,r3,rd,ld,e1,e2]
   exact fin e3
  ·rw [hse] at hk
   simp only [if_true] at hk
   obtain ⟨r2',hr2,hk⟩:=Option.bind_eq_some_iff.1 hk
   have ht:takeM L [38,38] s1=(true,upM s1):=by simp [takeM,hse]
   rw [ht] at q3
   have x3:=x.step q3
   have hl3:=x3.hld
   refine ⟨?_⟩
   simp (disch:=omega) only [go_sem,↓cB,dB,ht,r0,r2,r3,rd]
   refine draw1 (lk [(0,false),(1,true)] (.act 2 (.actd 3 (.actd 4 .fin)) .non)) T.mixed (hlist H1.size 0 cs) (heldOK_blk x3.box) ?_
   simp (disch:=omega) only [go_sem,↓cB,dB,r0,r2,r3,rd,hl3]
   refine call_to ((IH k (by omega)).same x3.pp.2 hr2) ?_
   intro v H4 hv
   refine Hush.out ?_
   obtain ⟨q4,cs4,rfl,t4⟩:=hv
   have x4:=x3.step q4
   have hs3:=x3.box.lt
   have hz:=x3.gt
   refine ⟨?_⟩
   refine held_by (heldOK_blk x4.box) ?_
   simp (disch:=omega) only [go_sem,↓cB,dB,r0,r2,r3,rd]
   refine call_to (r9bin_spec (sg:=1) (a:=a) (b:=r2'.1) (S:=fun b=>H.size < b∧b ≠ H1.size) x4.tr (t4.mono (by intro b hb _; constructor <;> omega)) (by intro b hb; have:=x4.box.lt; constructor <;> omega)) ?_
   intro v H5 hv
   refine Hush.out ?_
   obtain ⟨f5,cs5,rfl,t5⟩:=hv
   have x5:=x4.grow f5
   obtain ⟨H6,e6,x6⟩:=x5.put t5
   refine ⟨?_⟩
   simp (disch:=omega) only [go_sem,↓cB,dB,r0,r2,r3,rd,e6]
   exact fin ⟨k,by omega,_,_,_,hk,by omega,x6,by simp (disch:=omega) only [go_sem,↓cB,dB,r0,r2,r3,rd]⟩
theorem pSame_step {L:List Tok} {n:Nat} (hW:TW L) (IH:∀ m,m < n + 1→SpecE L (runE L m)):FnE L 94 (runE L (n + 1) .same):=by
 intro H p tv s r h hm
 have hlow:=h.lt
 change ((runE L n .less s).bind fun r=>if seesM L [61,61] r.2 then (runE L n .less (upM r.2)).map fun q=>(binM 2 r.1 q.1,q.2) else some r)=some r at hm
 obtain ⟨r1,hr1,hm⟩:=Option.bind_eq_some_iff.1 hm
 obtain ⟨G,hG⟩:∃ G,G=H.push (.cells #[iv 0,noS,noS,noS,iv 0,noS] 61):=⟨_,rfl⟩
 have f0:Fr [] H G:=by rw [hG]; exact Fr.push
 have zG:G.size=H.size + 1:=by rw [hG]; simp
 have h0:=h.grow f0
 have b0:Blk G H.size 61 z6:=by rw [hG]; exact Blk.new rfl
 refine callF_of Tryz.func94 rfl Tryz.ntmps94 Tryz.results94 (by decide) rfl ?_
 simp (disch:=omega) only [go_sem,↓cB,dB]
 rw [← hG]
 refine call_to ((IH n (by omega)).less h0 hr1) ?_
 intro v H1 hv
 refine Hush.out ?_
 obtain ⟨q1,cs,rfl,t1⟩:=hv
 obtain ⟨G1,hG1⟩:∃ G,G=H1.push (.cells cs.toArray 61):=⟨_,rfl⟩
 have x:=XI.new hlow f0 zG b0 q1 t1 hG1
 obtain ⟨a1,l1,c1,a2,l2,c2,a3,l3,c3,a4,l4,c4,e⟩:=t1.form
 subst e
 refine ⟨?_⟩
 simp (disch:=omega) only [go_sem,↓cB,dB]
 rw [← hG1]
 refine call_to (pTake_spec hW x.pp.2) ?_
 intro v H3 hv
 refine Hush.out ?_
 obtain ⟨q3,rfl⟩:=hv
 cases hse:seesM L [61,61] r1.2
 ·rw [hse] at hm
  simp only [Bool.false_eq_true,if_false,Option.some.injEq] at hm
  subst hm
  have ht:takeM L [61,61] r1.2=(false,r1.2):=by simp [takeM,hse]
  rw [ht] at q3
  have x3:=x.step q3
  have ld:=x3.ld
  obtain ⟨H5,e1,e2,e3⟩:=x3.fin
  refine ⟨?_⟩
  simp (disch:=omega) only [go_sem,↓cB,dB,ht,ld,e1,e2]
  exact fin e3
 ·rw [hse] at hm
  simp only [if_true] at hm
  obtain ⟨r2',hr2,hm⟩:=Option.map_eq_some_iff.1 hm
  subst hm
  have ht:takeM L [61,61] r1.2=(true,upM r1.2):=by simp [takeM,hse]
  rw [ht] at q3
  have x3:=x.step q3
  have hl3:=x3.hld
  refine ⟨?_⟩
  simp (disch:=omega) only [go_sem,↓cB,dB,ht]
  refine draw1 (lk [(0,false),(1,true)] (.act 2 (.actd 3 (.actd 4 .fin)) .non)) T.mixed (hlist H1.size 0 _) (heldOK_blk x3.box) ?_
  simp (disch:=omega) only [go_sem,↓cB,dB,hG1,hl3]
  refine call_to ((IH n (by omega)).less x3.pp.2 hr2) ?_
  intro v H4 hv
  refine Hush.out ?_
  obtain ⟨q4,cs4,rfl,t4⟩:=hv
  have x4:=x3.step q4
  have hs3:=x3.box.lt
  have hz:=x3.gt
  refine ⟨?_⟩
  refine held_by (heldOK_blk x4.box) ?_
  simp (disch:=omega) only [go_sem,↓cB,dB,hG1]
  refine call_to (r9bin_spec (sg:=2) (a:=r1.1) (b:=r2'.1) (S:=fun b=>H.size < b∧b ≠ H1.size) x4.tr (t4.mono (by intro b hb _; (try simp only [size_setH] at hb hs3); constructor <;> omega)) (by intro b hb; have:=x4.box.lt; constructor <;> omega)) ?_
  intro v H5 hv
  refine Hush.out ?_
  obtain ⟨f5,cs5,rfl,t5⟩:=hv
  have x5:=x4.grow f5
  obtain ⟨H6,e6,x6⟩:=x5.put t5
  have ld:=x6.ld
  obtain ⟨H7,e7,e8,e9⟩:=x6.fin
  refine ⟨?_⟩
  simp (disch:=omega) only [go_sem,↓cB,dB,e6,ld,e7,e8]
  exact fin e9
theorem pLess_step {L:List Tok} {n:Nat} (hW:TW L) (IH:∀ m,m < n + 1→SpecE L (runE L m)):FnE L 103 (runE L (n + 1) .less):=by
 intro H p tv s r h hm
 have hlow:=h.lt
 change ((runE L n .sum s).bind fun r=>if seesM L [60] r.2 then (runE L n .sum (upM r.2)).map fun q=>(binM 3 r.1 q.1,q.2) else some r)=some r at hm
 obtain ⟨r1,hr1,hm⟩:=Option.bind_eq_some_iff.1 hm
 obtain ⟨G,hG⟩:∃ G,G=H.push (.cells #[iv 0,noS,noS,noS,iv 0,noS] 61):=⟨_,rfl⟩
 have f0:Fr [] H G:=by rw [hG]; exact Fr.push
 have zG:G.size=H.size + 1:=by rw [hG]; simp
 have h0:=h.grow f0
 have b0:Blk G H.size 61 z6:=by rw [hG]; exact Blk.new rfl
 refine callF_of Tryz.func103 rfl Tryz.ntmps103 Tryz.results103 (by decide) rfl ?_
 simp (disch:=omega) only [go_sem,↓cB,dB]
 rw [← hG]
 refine call_to ((IH n (by omega)).sum h0 hr1) ?_
 intro v H1 hv
 refine Hush.out ?_
 obtain ⟨q1,cs,rfl,t1⟩:=hv
 obtain ⟨G1,hG1⟩:∃ G,G=H1.push (.cells cs.toArray 61):=⟨_,rfl⟩
 have x:=XI.new hlow f0 zG b0 q1 t1 hG1
 obtain ⟨a1,l1,c1,a2,l2,c2,a3,l3,c3,a4,l4,c4,e⟩:=t1.form
 subst e
 refine ⟨?_⟩
 simp (disch:=omega) only [go_sem,↓cB,dB]
 rw [← hG1]
 refine call_to (pTake_spec hW x.pp.2) ?_
 intro v H3 hv
 refine Hush.out ?_
 obtain ⟨q3,rfl⟩:=hv
 cases hse:seesM L [60] r1.2
 ·rw [hse] at hm
  simp only [Bool.false_eq_true,if_false,Option.some.injEq] at hm
  subst hm
  have ht:takeM L [60] r1.2=(false,r1.2):=by simp [takeM,hse]
  rw [ht] at q3
  have x3:=x.step q3
  have ld:=x3.ld
  obtain ⟨H5,e1,e2,e3⟩:=x3.fin
  refine ⟨?_⟩
  simp (disch:=omega) only [go_sem,↓cB,dB,ht,ld,e1,e2]
  exact fin e3
 ·rw [hse] at hm
  simp only [if_true] at hm
  obtain ⟨r2',hr2,hm⟩:=Option.map_eq_some_iff.1 hm
  subst hm
  have ht:takeM L [60] r1.2=(true,upM r1.2):=by simp [takeM,hse]
  rw [ht] at q3
  have x3:=x.step q3
  have hl3:=x3.hld
  refine ⟨?_⟩
  simp (disch:=omega) only [go_sem,↓cB,dB,ht]
  refine draw1 (lk [(0,false),(1,true)] (.act 2 (.actd 3 (.actd 4 .fin)) .non)) T.mixed (hlist H1.size 0 _) (heldOK_blk x3.box) ?_
  simp (disch:=omega) only [go_sem,↓cB,dB,hG1,hl3]
  refine call_to ((IH n (by omega)).sum x3.pp.2 hr2) ?_
  intro v H4 hv
  refine Hush.out ?_
  obtain ⟨q4,cs4,rfl,t4⟩:=hv
  have x4:=x3.step q4
  have hs3:=x3.box.lt
  have hz:=x3.gt
  refine ⟨?_⟩
  refine held_by (heldOK_blk x4.box) ?_
  simp (disch:=omega) only [go_sem,↓cB,dB,hG1]
  refine call_to (r9bin_spec (sg:=3) (a:=r1.1) (b:=r2'.1) (S:=fun b=>H.size < b∧b ≠ H1.size) x4.tr (t4.mono (by intro b hb _; (try simp only [size_setH] at hb hs3); constructor <;> omega)) (by intro b hb; have:=x4.box.lt; constructor <;> omega)) ?_
  intro v H5 hv
  refine Hush.out ?_
  obtain ⟨f5,cs5,rfl,t5⟩:=hv
  have x5:=x4.grow f5
  obtain ⟨H6,e6,x6⟩:=x5.put t5
  have ld:=x6.ld
  obtain ⟨H7,e7,e8,e9⟩:=x6.fin
  refine ⟨?_⟩
  simp (disch:=omega) only [go_sem,↓cB,dB,e6,ld,e7,e8]
  exact fin e9
end Go.Proofs.YtcffdpmmadipeaaGreatDoor
namespace Go.Proofs.YtcffdpmmadipeaaGreatDoor
open Go.HL
set_option maxRecDepth 10000
theorem pSum_step {L:List Tok} {n:Nat} (hW:TW L) (IH:∀ m,m < n + 1→SpecE L (runE L m)):FnE L 107 (runE L (n + 1) .sum):=by
 intro H p tv s r h hm
 have hlow:=h.lt
 change ((runE L n .product s).bind fun r=>runE L n (.sumL r.1) r.2)=some r at hm
 obtain ⟨r1,hr1,hm⟩:=Option.bind_eq_some_iff.1 hm
 obtain ⟨G,hG⟩:∃ G,G=H.push (.cells #[iv 0,noS,noS,noS,iv 0,noS] 61):=⟨_,rfl⟩
 have f0:Fr [] H G:=by rw [hG]; exact Fr.push
 have zG:G.size=H.size + 1:=by rw [hG]; simp
 have h0:=h.grow f0
 have b0:Blk G H.size 61 z6:=by rw [hG]; exact Blk.new rfl
 refine callF_of Tryz.func107 rfl Tryz.ntmps107 Tryz.results107 (by decide) rfl ?_
 simp (disch:=omega) only [go_sem,↓cB,dB]
 rw [← hG]
 refine call_to ((IH n (by omega)).product h0 hr1) ?_
 intro v H1 hv
 refine Hush.out ?_
 obtain ⟨q1,cs,rfl,t1⟩:=hv
 obtain ⟨G1,hG1⟩:∃ G,G=H1.push (.cells cs.toArray 61):=⟨_,rfl⟩
 have x:=XI.new hlow f0 zG b0 q1 t1 hG1
 obtain ⟨a1,l1,c1,a2,l2,c2,a3,l3,c3,a4,l4,c4,e⟩:=t1.form
 subst e
 refine ⟨?_⟩
 simp (disch:=omega) only [go_sem,↓cB,dB]
 rw [← hG1]
 refine loop_by (fun k ρ H2=>∃ a s1 cs,runE L k (.sumL a) s1=some r∧k≤n∧XI H H2 p tv L H1.size cs a s1∧(ρ.get 0=hp p∧ρ.get 2=hp H.size∧ρ.get 3=hp H1.size∧ρ.ds = [])) (k:=n) ?_ ?_
 ·exact ⟨r1.1,r1.2,_,hm,Nat.le_refl _,x,by simp (disch:=omega) only [go_sem,↓cB,dB]⟩
 ·rintro k ρ H2 ⟨a,s1,cs,hk,hkn,x,r0,r2,r3,rd⟩
  cases k with
  | zero=>simp [runE] at hk
  | succ k =>
  change (if seesM L [43] s1 then (runE L k .product (upM s1)).bind fun r=>runE L k (.sumL (binM 4 a r.1)) r.2 else if seesM L [45] s1 then (runE L k .product (upM s1)).bind fun r=>runE L k (.sumL (binM 5 a r.1)) r.2 else some (a,s1))=some r at hk
  have c1:=x.pp.2.c1
  have hln:=hW.len
  have hps:=x.pp.2.pos
  have e1:(s1.pos:Int) + 1=((s1.pos + 1:Nat):Int):=by omega
  simp (disch:=omega) only [go_sem,↓cB,dB,r0,r2,r3,rd]
  refine call_to (pSees_spec x.pp.2) ?_
  intro v HA0 hv
  refine Hush.out ?_
  obtain ⟨fa0,rfl⟩:=hv
  have xa0:=x.grow fa0
  cases hs0:seesM L [43] s1
  rotate_left
  ·rw [hs0] at hk
   simp only [if_true] at hk
   obtain ⟨r2',hr2,hk⟩:=Option.bind_eq_some_iff.1 hk
   refine ⟨?_⟩
   simp (disch:=omega) only [go_sem,↓cB,dB,r0,r2,r3,rd]
   refine call_to (pSees_spec xa0.pp.2) ?_
   intro v HB0 hv
   refine Hush.out ?_
   obtain ⟨fb0,rfl⟩:=hv
   have xb0:=xa0.grow fb0
   rw [hs0]
   refine ⟨?_⟩
   have c1:=xb0.pp.2.c1
   have w1:=xb0.pp.2.w1
   have x3:=xb0.step (pUp xb0.pp.2 (sees_up hW xb0.pp.2 hs0))
   have hl3:=x3.hld
   simp (disch:=omega) only [go_sem,↓cB,dB,r0,r2,r3,rd,c1,w1,e1]
   refine draw1 (lk [(0,false),(1,false),(2,true)] (.act 3 (.actd 4 (.actd 5 .fin)) .non)) T.mixed (hlist H1.size 0 cs) (heldOK_blk x3.box) ?_
   simp (disch:=omega) only [go_sem,↓cB,dB,r0,r2,r3,rd,hl3]
   refine call_to ((IH k (by omega)).product x3.pp.2 hr2) ?_
   intro v H4 hv
   refine Hush.out ?_
   obtain ⟨q4,cs4,rfl,t4⟩:=hv
   have x4:=x3.step q4
   have hs3:=x3.box.lt
   have hz:=x3.gt
   refine ⟨?_⟩
   refine held_by (heldOK_blk x4.box) ?_
   simp (disch:=omega) only [go_sem,↓cB,dB,r0,r2,r3,rd]
   refine call_to (r9bin_spec (sg:=4) (a:=a) (b:=r2'.1) (S:=fun b=>H.size < b∧b ≠ H1.size) x4.tr (t4.mono (by intro b hb _; (try simp only [size_setH] at hb hs3); constructor <;> omega)) (by intro b hb; have:=x4.box.lt; constructor <;> omega)) ?_
   intro v H5 hv
   refine Hush.out ?_
   obtain ⟨f5,cs5,rfl,t5⟩:=hv
   have x5:=x4.grow f5
   obtain ⟨H6,e6,x6⟩:=x5.put t5
   refine ⟨?_⟩
   simp (disch:=omega) only [go_sem,↓cB,dB,r0,r2,r3,rd,e6]
   exact fin ⟨k,by omega,_,_,_,hk,by omega,x6,by simp (disch:=omega) only [go_sem,↓cB,dB,r0,r2,r3,rd]⟩
  rw [hs0] at hk
  simp only [Bool.false_eq_true,if_false] at hk
  refine ⟨?_⟩
  simp (disch:=omega) only [go_sem,↓cB,dB,r0,r2,r3,rd]
  refine call_to (pSees_spec xa0.pp.2) ?_
  intro v HA1 hv
  refine Hush.out ?_
  obtain ⟨fa1,rfl⟩:=hv
  have xa1:=xa0.grow fa1
  cases hs1:seesM L [45] s1
  rotate_left
  ·rw [hs1] at hk
   simp only [if_true] at hk
   obtain ⟨r2',hr2,hk⟩:=Option.bind_eq_some_iff.1 hk
   refine ⟨?_⟩
   simp (disch:=omega) only [go_sem,↓cB,dB,r0,r2,r3,rd]
   refine call_to (pSees_spec xa1.pp.2) ?_
   intro v HB0 hv
   refine Hush.out ?_
   obtain ⟨fb0,rfl⟩:=hv
   have xb0:=xa1.grow fb0
   rw [hs0]
   refine ⟨?_⟩
   have c1:=xb0.pp.2.c1
   have w1:=xb0.pp.2.w1
   have x3:=xb0.step (pUp xb0.pp.2 (sees_up hW xb0.pp.2 hs1))
   have hl3:=x3.hld
   simp (disch:=omega) only [go_sem,↓cB,dB,r0,r2,r3,rd,c1,w1,e1]
   refine draw1 (lk [(0,false),(1,false),(2,true)] (.act 3 (.actd 4 (.actd 5 .fin)) .non)) T.mixed (hlist H1.size 0 cs) (heldOK_blk x3.box) ?_
   simp (disch:=omega) only [go_sem,↓cB,dB,r0,r2,r3,rd,hl3]
   refine call_to ((IH k (by omega)).product x3.pp.2 hr2) ?_
   intro v H4 hv
   refine Hush.out ?_
   obtain ⟨q4,cs4,rfl,t4⟩:=hv
   have x4:=x3.step q4
   have hs3:=x3.box.lt
   have hz:=x3.gt
   refine ⟨?_⟩
   refine held_by (heldOK_blk x4.box) ?_
   simp (disch:=omega) only [go_sem,↓cB,dB,r0,r2,r3,rd]
   refine call_to (r9bin_spec (sg:=5) (a:=a) (b:=r2'.1) (S:=fun b=>H.size < b∧b ≠ H1.size) x4.tr (t4.mono (by intro b hb _; (try simp only [size_setH] at hb hs3); constructor <;> omega)) (by intro b hb; have:=x4.box.lt; constructor <;> omega)) ?_
   intro v H5 hv
   refine Hush.out ?_
   obtain ⟨f5,cs5,rfl,t5⟩:=hv
   have x5:=x4.grow f5
   obtain ⟨H6,e6,x6⟩:=x5.put t5
   refine ⟨?_⟩
   simp (disch:=omega) only [go_sem,↓cB,dB,r0,r2,r3,rd,e6]
   exact fin ⟨k,by omega,_,_,_,hk,by omega,x6,by simp (disch:=omega) only [go_sem,↓cB,dB,r0,r2,r3,rd]⟩
  rw [hs1] at hk
  simp only [Bool.false_eq_true,if_false,Option.some.injEq] at hk
  subst hk
  have ld:=xa1.ld
  obtain ⟨H5,e4,e2,e3⟩:=xa1.fin
  refine ⟨?_⟩
  simp (disch:=omega) only [go_sem,↓cB,dB,r0,r2,r3,rd,ld,e4,e2]
  exact fin e3
theorem pProduct_step {L:List Tok} {n:Nat} (hW:TW L) (IH:∀ m,m < n + 1→SpecE L (runE L m)):FnE L 109 (runE L (n + 1) .product):=by
 intro H p tv s r h hm
 have hlow:=h.lt
 change ((runE L n .part s).bind fun r=>runE L n (.prodL r.1) r.2)=some r at hm
 obtain ⟨r1,hr1,hm⟩:=Option.bind_eq_some_iff.1 hm
 obtain ⟨G,hG⟩:∃ G,G=H.push (.cells #[iv 0,noS,noS,noS,iv 0,noS] 61):=⟨_,rfl⟩
 have f0:Fr [] H G:=by rw [hG]; exact Fr.push
 have zG:G.size=H.size + 1:=by rw [hG]; simp
 have h0:=h.grow f0
 have b0:Blk G H.size 61 z6:=by rw [hG]; exact Blk.new rfl
 refine callF_of Tryz.func109 rfl Tryz.ntmps109 Tryz.results109 (by decide) rfl ?_
 simp (disch:=omega) only [go_sem,↓cB,dB]
 rw [← hG]
 refine call_to ((IH n (by omega)).part h0 hr1) ?_
 intro v H1 hv
 refine Hush.out ?_
 obtain ⟨q1,cs,rfl,t1⟩:=hv
 obtain ⟨G1,hG1⟩:∃ G,G=H1.push (.cells cs.toArray 61):=⟨_,rfl⟩
 have x:=XI.new hlow f0 zG b0 q1 t1 hG1
 obtain ⟨a1,l1,c1,a2,l2,c2,a3,l3,c3,a4,l4,c4,e⟩:=t1.form
 subst e
 refine ⟨?_⟩
 simp (disch:=omega) only [go_sem,↓cB,dB]
 rw [← hG1]
 refine loop_by (fun k ρ H2=>∃ a s1 cs,runE L k (.prodL a) s1=some r∧k≤n∧XI H H2 p tv L H1.size cs a s1∧(ρ.get 0=hp p∧ρ.get 2=hp H.size∧ρ.get 3=hp H1.size∧ρ.ds = [])) (k:=n) ?_ ?_
 ·exact ⟨r1.1,r1.2,_,hm,Nat.le_refl _,x,by simp (disch:=omega) only [go_sem,↓cB,dB]⟩
 ·rintro k ρ H2 ⟨a,s1,cs,hk,hkn,x,r0,r2,r3,rd⟩
  cases k with
  | zero=>simp [runE] at hk
  | succ k =>
  change (if seesM L [42] s1 then (runE L k .part (upM s1)).bind fun r=>runE L k (.prodL (binM 6 a r.1)) r.2 else if seesM L [47] s1 then (runE L k .part (upM s1)).bind fun r=>runE L k (.prodL (binM 7 a r.1)) r.2 else if seesM L [37] s1 then (runE L k .part (upM s1)).bind fun r=>runE L k (.prodL (binM 8 a r.1)) r.2 else some (a,s1))=some r at hk
  have c1:=x.pp.2.c1
  have hln:=hW.len
  have hps:=x.pp.2.pos
  have e1:(s1.pos:Int) + 1=((s1.pos + 1:Nat):Int):=by omega
  simp (disch:=omega) only [go_sem,↓cB,dB,r0,r2,r3,rd]
  refine call_to (pSees_spec x.pp.2) ?_
  intro v HA0 hv
  refine Hush.out ?_
  obtain ⟨fa0,rfl⟩:=hv
  have xa0:=x.grow fa0
  cases hs0:seesM L [42] s1
  rotate_left
  ·rw [hs0] at hk
   simp only [if_true] at hk
   obtain ⟨r2',hr2,hk⟩:=Option.bind_eq_some_iff.1 hk
   refine ⟨?_⟩
   simp (disch:=omega) only [go_sem,↓cB,dB,r0,r2,r3,rd]
   refine call_to (pSees_spec xa0.pp.2) ?_
   intro v HB0 hv
   refine Hush.out ?_
   obtain ⟨fb0,rfl⟩:=hv
   have xb0:=xa0.grow fb0
   rw [hs0]
   refine ⟨?_⟩
   have c1:=xb0.pp.2.c1
   have w1:=xb0.pp.2.w1
   have x3:=xb0.step (pUp xb0.pp.2 (sees_up hW xb0.pp.2 hs0))
   have hl3:=x3.hld
   simp (disch:=omega) only [go_sem,↓cB,dB,r0,r2,r3,rd,c1,w1,e1]
   refine draw1 (lk [(0,false),(1,false),(2,true)] (.act 3 (.actd 4 (.actd 5 .fin)) .non)) T.mixed (hlist H1.size 0 cs) (heldOK_blk x3.box) ?_
   simp (disch:=omega) only [go_sem,↓cB,dB,r0,r2,r3,rd,hl3]
   refine call_to ((IH k (by omega)).part x3.pp.2 hr2) ?_
   intro v H4 hv
   refine Hush.out ?_
   obtain ⟨q4,cs4,rfl,t4⟩:=hv
   have x4:=x3.step q4
   have hs3:=x3.box.lt
   have hz:=x3.gt
   refine ⟨?_⟩
   refine held_by (heldOK_blk x4.box) ?_
   simp (disch:=omega) only [go_sem,↓cB,dB,r0,r2,r3,rd]
   refine call_to (r9bin_spec (sg:=6) (a:=a) (b:=r2'.1) (S:=fun b=>H.size < b∧b ≠ H1.size) x4.tr (t4.mono (by intro b hb _; (try simp only [size_setH] at hb hs3); constructor <;> omega)) (by intro b hb; have:=x4.box.lt; constructor <;> omega)) ?_
   intro v H5 hv
   refine Hush.out ?_
   obtain ⟨f5,cs5,rfl,t5⟩:=hv
   have x5:=x4.grow f5
   obtain ⟨H6,e6,x6⟩:=x5.put t5
   refine ⟨?_⟩
   simp (disch:=omega) only [go_sem,↓cB,dB,r0,r2,r3,rd,e6]
   exact fin ⟨k,by omega,_,_,_,hk,by omega,x6,by simp (disch:=omega) only [go_sem,↓cB,dB,r0,r2,r3,rd]⟩
  rw [hs0] at hk
  simp only [Bool.false_eq_true,if_false] at hk
  refine ⟨?_⟩
  simp (disch:=omega) only [go_sem,↓cB,dB,r0,r2,r3,rd]
  refine call_to (pSees_spec xa0.pp.2) ?_
  intro v HA1 hv
  refine Hush.out ?_
  obtain ⟨fa1,rfl⟩:=hv
  have xa1:=xa0.grow fa1
  cases hs1:seesM L [47] s1
  rotate_left
  ·rw [hs1] at hk
   simp only [if_true] at hk
   obtain ⟨r2',hr2,hk⟩:=Option.bind_eq_some_iff.1 hk
   refine ⟨?_⟩
   simp (disch:=omega) only [go_sem,↓cB,dB,r0,r2,r3,rd]
   refine call_to (pSees_spec xa1.pp.2) ?_
   intro v HB0 hv
   refine Hush.out ?_
   obtain ⟨fb0,rfl⟩:=hv
   have xb0:=xa1.grow fb0
   rw [hs0]
   refine ⟨?_⟩
   simp (disch:=omega) only [go_sem,↓cB,dB,r0,r2,r3,rd]
   refine call_to (pSees_spec xb0.pp.2) ?_
   intro v HB1 hv
   refine Hush.out ?_
   obtain ⟨fb1,rfl⟩:=hv
   have xb1:=xb0.grow fb1
   rw [hs1]
   refine ⟨?_⟩
   have c1:=xb1.pp.2.c1
   have w1:=xb1.pp.2.w1
   have x3:=xb1.step (pUp xb1.pp.2 (sees_up hW xb1.pp.2 hs1))
   have hl3:=x3.hld
   simp (disch:=omega) only [go_sem,↓cB,dB,r0,r2,r3,rd,c1,w1,e1]
   refine draw1 (lk [(0,false),(1,false),(2,true)] (.act 3 (.actd 4 (.actd 5 .fin)) .non)) T.mixed (hlist H1.size 0 cs) (heldOK_blk x3.box) ?_
   simp (disch:=omega) only [go_sem,↓cB,dB,r0,r2,r3,rd,hl3]
   refine call_to ((IH k (by omega)).part x3.pp.2 hr2) ?_
   intro v H4 hv
   refine Hush.out ?_
   obtain ⟨q4,cs4,rfl,t4⟩:=hv
   have x4:=x3.step q4
   have hs3:=x3.box.lt
   have hz:=x3.gt
   refine ⟨?_⟩
   refine held_by (heldOK_blk x4.box) ?_
   simp (disch:=omega) only [go_sem,↓cB,dB,r0,r2,r3,rd]
   refine call_to (r9bin_spec (sg:=7) (a:=a) (b:=r2'.1) (S:=fun b=>H.size < b∧b ≠ H1.size) x4.tr (t4.mono (by intro b hb _; (try simp only [size_setH] at hb hs3); constructor <;> omega)) (by intro b hb; have:=x4.box.lt; constructor <;> omega)) ?_
   intro v H5 hv
   refine Hush.out ?_
   obtain ⟨f5,cs5,rfl,t5⟩:=hv
   have x5:=x4.grow f5
   obtain ⟨H6,e6,x6⟩:=x5.put t5
   refine ⟨?_⟩
   simp (disch:=omega) only [go_sem,↓cB,dB,r0,r2,r3,rd,e6]
   exact fin ⟨k,by omega,_,_,_,hk,by omega,x6,by simp (disch:=omega) only [go_sem,↓cB,dB,r0,r2,r3,rd]⟩
  rw [hs1] at hk
  simp only [Bool.false_eq_true,if_false] at hk
  refine ⟨?_⟩
  simp (disch:=omega) only [go_sem,↓cB,dB,r0,r2,r3,rd]
  refine call_to (pSees_spec xa1.pp.2) ?_
  intro v HA2 hv
  refine Hush.out ?_
  obtain ⟨fa2,rfl⟩:=hv
  have xa2:=xa1.grow fa2
  cases hs2:seesM L [37] s1
  rotate_left
  ·rw [hs2] at hk
   simp only [if_true] at hk
   obtain ⟨r2',hr2,hk⟩:=Option.bind_eq_some_iff.1 hk
   refine ⟨?_⟩
   simp (disch:=omega) only [go_sem,↓cB,dB,r0,r2,r3,rd]
   refine call_to (pSees_spec xa2.pp.2) ?_
   intro v HB0 hv
   refine Hush.out ?_
   obtain ⟨fb0,rfl⟩:=hv
   have xb0:=xa2.grow fb0
   rw [hs0]
   refine ⟨?_⟩
   simp (disch:=omega) only [go_sem,↓cB,dB,r0,r2,r3,rd]
   refine call_to (pSees_spec xb0.pp.2) ?_
   intro v HB1 hv
   refine Hush.out ?_
   obtain ⟨fb1,rfl⟩:=hv
   have xb1:=xb0.grow fb1
   rw [hs1]
   refine ⟨?_⟩
   have c1:=xb1.pp.2.c1
   have w1:=xb1.pp.2.w1
   have x3:=xb1.step (pUp xb1.pp.2 (sees_up hW xb1.pp.2 hs2))
   have hl3:=x3.hld
   simp (disch:=omega) only [go_sem,↓cB,dB,r0,r2,r3,rd,c1,w1,e1]
   refine draw1 (lk [(0,false),(1,false),(2,true)] (.act 3 (.actd 4 (.actd 5 .fin)) .non)) T.mixed (hlist H1.size 0 cs) (heldOK_blk x3.box) ?_
   simp (disch:=omega) only [go_sem,↓cB,dB,r0,r2,r3,rd,hl3]
   refine call_to ((IH k (by omega)).part x3.pp.2 hr2) ?_
   intro v H4 hv
   refine Hush.out ?_
   obtain ⟨q4,cs4,rfl,t4⟩:=hv
   have x4:=x3.step q4
   have hs3:=x3.box.lt
   have hz:=x3.gt
   refine ⟨?_⟩
   refine held_by (heldOK_blk x4.box) ?_
   simp (disch:=omega) only [go_sem,↓cB,dB,r0,r2,r3,rd]
   refine call_to (r9bin_spec (sg:=8) (a:=a) (b:=r2'.1) (S:=fun b=>H.size < b∧b ≠ H1.size) x4.tr (t4.mono (by intro b hb _; (try simp only [size_setH] at hb hs3); constructor <;> omega)) (by intro b hb; have:=x4.box.lt; constructor <;> omega)) ?_
   intro v H5 hv
   refine Hush.out ?_
   obtain ⟨f5,cs5,rfl,t5⟩:=hv
   have x5:=x4.grow f5
   obtain ⟨H6,e6,x6⟩:=x5.put t5
   refine ⟨?_⟩
   simp (disch:=omega) only [go_sem,↓cB,dB,r0,r2,r3,rd,e6]
   exact fin ⟨k,by omega,_,_,_,hk,by omega,x6,by simp (disch:=omega) only [go_sem,↓cB,dB,r0,r2,r3,rd]⟩
  rw [hs2] at hk
  simp only [Bool.false_eq_true,if_false,Option.some.injEq] at hk
  subst hk
  have ld:=xa2.ld
  obtain ⟨H5,e4,e2,e3⟩:=xa2.fin
  refine ⟨?_⟩
  simp (disch:=omega) only [go_sem,↓cB,dB,r0,r2,r3,rd,ld,e4,e2]
  exact fin e3
end Go.Proofs.YtcffdpmmadipeaaGreatDoor
