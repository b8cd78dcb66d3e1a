/- Texts of this proof, put together: ShwP, ShwQ, ShwR, ShwS, ShwV, ShwW, ShwX, ShwY, ShwZ, ShwD. The conditions of each theorem stand in it. -/
import Derived.Test.YtcffdpmmadipeaaGreatDoorMXA
import Derived.Test.YtcffdpmmadipeaaGreatDoorMX8
set_option linter.unusedSimpArgs false
set_option linter.unusedVariables false
namespace Go.HL
section
variable {P:Program} {H:Heap} {t t' ty e:TypeId} {a:Addr} {k:Value→Heap→Prop}
theorem usd_some {n c:Nat} (hc:c ≠ 0) (hk:k (.pointer (some a)) H):@usdB P t ty (.slice (some a) n c) ⟨H⟩ ⟨k⟩:=by
 obtain ⟨c,rfl⟩:∃ j,c=j + 1:=⟨c - 1,by omega⟩
 exact hk
theorem usd_none {n c:Nat} (hk:k (.pointer none) H):@usdB P t ty (.slice none n c) ⟨H⟩ ⟨k⟩:=hk
theorem ust_none (hk:k (.string (bs [])) H):@ustB P t t' ty (.pointer none) (.int .i64 0) ⟨H⟩ ⟨k⟩:=hk
theorem lies_bytes (hc:P.cellsOf e=1) (count off n:Nat) (hn:off + n≤count):liesAt P P.depth e count off e n=true:=by
 have hd:P.depth=(2 * (P.types.size + Made.depth) + 1) + 1:=rfl
 rw [hd]
 simp only [liesAt,Bool.or_eq_true]
 left
 rw [hd]
 simp [rowAt,hc,hn,sameLayout,Nat.mod_one]
theorem qrun_loadBytes:∀ (l:List UInt8) (a:Addr) (acc:ByteArray),(∀ j x,l[j]?=some x→cellH H (a.add j)=some (.int .u8 x.toNat)) →
  qrun P (loadBytes a acc l.length) H=some ⟨acc.data ++ l.toArray⟩
 | [],a,acc,_=>by simp [loadBytes,pure,qrun]
 | x :: l,a,acc,h=>by
  have h0:cellH H a=some (.int .u8 x.toNat):=by
   have:=h 0 x rfl
   simpa [Addr.add] using this
  have ih:=qrun_loadBytes l (a.add 1) (acc.push x) (fun j y hy=>by
   have:=h (j + 1) y (by simpa using hy)
   have e:(a.add 1).add j=a.add (j + 1):=by
    unfold Addr.add
    by_cases hj:j=0
    ·subst hj; simp
    ·simp [hj]; omega
   rw [e]; exact this)
  have hx:((x.toNat:Int).toNat).toUInt8=x:=by simp
  simp only [List.length_cons,loadBytes]
  rw [qrun_bind',qrun_load h0,Option.bind_some]
  simp only [hx]
  rw [ih]
  congr 1
  apply ByteArray.ext
  simp [ByteArray.push]
theorem freeze_fr {n:Nat}:Fr [a.block] H (freezeH H a n):=by
 unfold freezeH
 split
 ·exact Fr.refl _ _
 ·refine ⟨by simp,fun b hb hF=>?_⟩
  rw [Array.getElem?_modify,if_neg (by simp at hF; omega)]
theorem ust_some {l:List UInt8} {pre rest:List Value} {b:Nat} (hp:P.underlying t=some (.pointer e)) (hc:P.cellsOf e=1) (hb:Blk H b e (pre ++ l.map u8v ++ rest)) (hl:l ≠ []) (hn:l.length≤9223372036854775807)
  (hk:k (.string (bs l)) (freezeH H ⟨b,pre.length,none⟩ l.length)):@ustB P t t' ty (.pointer (some ⟨b,pre.length,none⟩)) (.int .i64 l.length) ⟨H⟩ ⟨k⟩:=by
 have hl0:0 < l.length:=List.length_pos_iff.2 hl
 have hmax:IntKind.i64.max=9223372036854775807:=rfl
 show hwp P (Builtin.unsafeString_ #[t,t'] ty #[.pointer (some ⟨b,pre.length,none⟩),.int .i64 l.length]) H k _
 have hdef:Builtin.unsafeString_ #[t,t'] ty #[.pointer (some ⟨b,pre.length,none⟩),.int .i64 l.length] =
   (do
    let n ← asInt (.int .i64 l.length)
    if n < 0 then runtimePanic (.error "unsafe.String: len out of range")
    if n > IntKind.i64.max then unsupported (.unsafePointer "String: a length above the largest int")
    if n=0 then pure (.string .empty)
    else if ← variablesAt ⟨b,pre.length,none⟩ (← elemOf t) n.toNat then do
     let s ← loadBytes ⟨b,pre.length,none⟩ .empty n.toNat
     freeze ⟨b,pre.length,none⟩ n.toNat
     pure (.string s)
    else unsupported (.unsafePointer "String: not so many bytes at ptr")):=rfl
 rw [hdef]
 refine hwp_qbind (a:=(l.length:Int)) rfl ?_
 have n1:¬ ((l.length:Int) < 0):=by omega
 have n2:¬ ((l.length:Int) > IntKind.i64.max):=by rw [hmax]; omega
 have n3:¬ ((l.length:Int)=0):=by omega
 simp only [if_neg n1,if_neg n2,if_neg n3]
 refine hwp_qbind (a:=e) (by unfold elemOf; rw [qrun_bind',qrun_underlying hp,Option.bind_some]; rfl) ?_
 simp only [Int.toNat_natCast]
 have hsh:shapeH H b=some (e,(pre ++ l.map u8v ++ rest).length):=by
  unfold shapeH
  have:H[b]?=some (.cells (pre ++ l.map u8v ++ rest).toArray e (0,0)):=hb
  rw [this]; simp
 have hva:qrun P (variablesAt ⟨b,pre.length,none⟩ e l.length) H=some true:=by
  unfold variablesAt
  rw [qrun_bind']
  simp only [program,qrun,Option.bind_some]
  rw [qrun_bind']
  simp only [shape,qrun,hsh,Option.bind_some]
  show some (liesAt P P.depth e _ _ e _)=some true
  rw [hc,lies_bytes hc _ _ _ (by simp)]
 refine hwp_qbind hva ?_
 simp only [if_true]
 have hlb:=qrun_loadBytes (P:=P) (H:=H) l ⟨b,pre.length,none⟩ .empty (by
  intro j x hx
  rw [addr_add,hb.cell,List.append_assoc,List.getElem?_append_right (by omega),Nat.add_sub_cancel_left,List.getElem?_append_left (by
   have:=(List.getElem?_eq_some_iff.1 hx).1
   simpa using this),List.getElem?_map,hx]
  rfl)
 refine hwp_qbind hlb ?_
 rw [hwp_bind']
 have:(⟨ByteArray.empty.data ++ l.toArray⟩:ByteArray)=bs l:=by
  apply ByteArray.ext
  simp [bs]
 rw [this]
 exact hk
theorem ptr_same_neq {n:Nat} {xo yo:Operand} (hu:P.underlying t=some (.pointer e)) (hs:sizeT P e=some (n + 1)):binV P (full H) .neq t xo yo (.pointer (some a)) (.pointer (some a))=some (.bool false):=by
 show qrun P (do eqGuard .neq t xo yo (.pointer (some a)) (.pointer (some a)); binOp .neq t (.pointer (some a)) (.pointer (some a))) H=_
 rw [qrun_bind']
 show qrun P (do pure (Value.bool (!(← Op.equal t (.pointer (some a)) (.pointer (some a)))))) H=_
 have e1:qrun P (Op.equal t (.pointer (some a)) (.pointer (some a))) H=some true:=by
  unfold Op.equal Op.maxDepth Op.equalIn
  rw [qrun_bind',qrun_underlying hu,Option.bind_some]
  simp only
  rw [qrun_bind',qrun_sizeOf hs,Option.bind_some,if_pos (by simp)]
  unfold sameAddr
  simp [qrun,pure]
 rw [qrun_bind',e1]
 rfl
end
end Go.HL
namespace Go.Proofs.YtcffdpmmadipeaaGreatDoor
open Go.HL
set_option maxRecDepth 10000
def BT (H:Heap) (bv:Value) (s:Str):Prop:=(s = []∧bv=noS)∨(s ≠ []∧Vec H 5 1 bv (s.map u8v))
abbrev bp1 (p:Nat):Value:=.pointer (some ⟨p,1,none⟩)
structure WB (H:Heap) (p:Nat) (tv:Value) (s:Str) (Z:List Nat):Prop where
 ex:∃ ad bv,Blk H p 49 [tv,ad,bv]∧(ad=.pointer none∨ad=bp1 p)∧BT H bv s∧∀ b ∈ own bv,p < b∧b ∉ Z
 out:p ∉ Z
 zlt:∀ b ∈ Z,b < H.size
structure WQ (H:Heap) (p:Nat) (Z:List Nat) (H':Heap):Prop where
 size:H.size≤H'.size
 low:∀ b,b < p→H'[b]?=H[b]?
 zs:∀ b,b ∈ Z→b < H.size→H'[b]?=H[b]?
section
variable {H H' H'':Heap} {p:Nat} {tv ad bv:Value} {s x:Str} {Z Z':List Nat}
theorem WB.lt (w:WB H p tv s Z):p < H.size:=by obtain ⟨ad,bv,h,_⟩:=w.ex; exact h.lt
theorem WB.tc (w:WB H p tv s Z):cellH H ⟨p,0,none⟩=some tv:=by obtain ⟨ad,bv,h,_⟩:=w.ex; exact h.cell 0
theorem WQ.refl:WQ H p Z H:=⟨Nat.le_refl _,fun _ _=>rfl,fun _ _ _=>rfl⟩
theorem WQ.trans (h:WQ H p Z H') (h':WQ H' p Z H''):WQ H p Z H'' :=
 ⟨Nat.le_trans h.size h'.size,fun b hb=>(h'.low b hb).trans (h.low b hb),fun b hz hb=>(h'.zs b hz (Nat.lt_of_lt_of_le hb h.size)).trans (h.zs b hz hb)⟩
theorem WQ.of_fr (hf:Fr [] H H') (hp:p≤H.size):WQ H p Z H':=⟨hf.size,fun b hb=>hf.same b (by omega) (by simp),fun b _ hb=>hf.same b hb (by simp)⟩
theorem WQ.sub (h:WQ H p Z H') (hs:∀ b ∈ Z',b ∈ Z):WQ H p Z' H':=⟨h.size,h.low,fun b hb=>h.zs b (hs b hb)⟩
theorem WQ.blk {b t:Nat} {vs:List Value} (h:WQ H p Z H') (hb:Blk H b t vs) (hz:b ∈ Z∨b < p):Blk H' b t vs:=by
 have hl:=hb.lt
 unfold Blk at hb ⊢
 rcases hz with hz | hz
 ·rw [h.zs b hz hl]; exact hb
 ·rw [h.low b hz]; exact hb
theorem WB.fr (w:WB H p tv s Z) (hf:Fr [] H H'):WB H' p tv s Z:=by
 obtain ⟨ad,bv,h1,h2,h3,h4⟩:=w.ex
 refine ⟨⟨ad,bv,hf.blk h1 (by simp),h2,?_,h4⟩,w.out,fun b hb=>Nat.lt_of_lt_of_le (w.zlt b hb) hf.size⟩
 rcases h3 with h3 | ⟨h3,h5⟩
 ·exact .inl h3
 ·exact .inr ⟨h3,h5.frame hf (by simp)⟩
theorem WB.sub (w:WB H p tv s Z) (hs:∀ b ∈ Z',b ∈ Z):WB H p tv s Z':=by
 obtain ⟨ad,bv,h1,h2,h3,h4⟩:=w.ex
 exact ⟨⟨ad,bv,h1,h2,h3,fun b hb=>⟨(h4 b hb).1,fun e=>(h4 b hb).2 (hs b e)⟩⟩,fun e=>w.out (hs p e),fun b hb=>w.zlt b (hs b hb)⟩
theorem WB.more (w:WB H p tv s Z) (hf:Fr [] H H') {q:Nat} (hq:H.size≤q) (hq2:q < H'.size):WB H' p tv s (q :: Z):=by
 obtain ⟨ad,bv,h1,h2,h3,h4⟩:=w.ex
 have hbl:∀ b ∈ own bv,b < H.size:=by
  rcases h3 with ⟨_,h3⟩ | ⟨_,h3⟩
  ·subst h3; simp [own]
  ·exact h3.lt
 refine ⟨⟨ad,bv,hf.blk h1 (by simp),h2,?_,fun b hb=>⟨(h4 b hb).1,?_⟩⟩,?_,?_⟩
 ·rcases h3 with h3 | ⟨h3,h5⟩
  ·exact .inl h3
  ·exact .inr ⟨h3,h5.frame hf (by simp)⟩
 ·have:=hbl b hb
  simp only [List.mem_cons,not_or]
  exact ⟨by omega,(h4 b hb).2⟩
 ·have:=h1.lt
  simp only [List.mem_cons,not_or]
  exact ⟨by omega,w.out⟩
 ·intro b hb
  rcases List.mem_cons.1 hb with rfl | hb
  ·exact hq2
  ·exact Nat.lt_of_lt_of_le (w.zlt b hb) hf.size
theorem shape_w (hb:Blk H p 49 [tv,ad,bv]):shapeH H p=some (49,3):=by
 unfold shapeH
 have:H[p]?=some (.cells [tv,ad,bv].toArray 49 (0,0)):=hb
 rw [this]; rfl
theorem seen_w (hb:Blk H p 49 [tv,ad,bv]):qrun Tryz.prog (Conv.seenAt ⟨p,1,none⟩) H=some ⟨p,1,none⟩:=by
 unfold Conv.seenAt viewAt
 simp only [qrun_bind',shape,qrun,shape_w hb,Option.bind_some,Option.isSome_some,if_true,pure]
theorem conv_up (hb:Blk H p 49 [tv,ad,bv]):convV Tryz.prog (full H) 44 121 (bp1 p)=some (bp1 p):=by
 show qrun Tryz.prog (convert 44 121 (bp1 p)) H=_
 unfold convert
 rw [qrun_bind',qrun_underlying (d:=.pointer 47) rfl,Option.bind_some,qrun_bind',qrun_underlying (d:=.unsafePointer) rfl,Option.bind_some]
 show qrun Tryz.prog (Conv.unsafePointer 44 121 (bp1 p)) H=_
 unfold Conv.unsafePointer
 rw [qrun_bind',qrun_underlying (d:=.pointer 47) rfl,Option.bind_some,qrun_bind',qrun_underlying (d:=.unsafePointer) rfl,Option.bind_some]
 dsimp only
 rw [qrun_bind',seen_w hb,Option.bind_some,qrun_bind']
 have e1:qrun Tryz.prog (cellsIn p) H=some (some 3):=by
  unfold cellsIn
  simp only [qrun_bind',shape,qrun,shape_w hb,Option.bind_some,pure]
 rw [e1,Option.bind_some]
 dsimp only
 rw [qrun_bind',qrun_sizeOf T.size47,Option.bind_some]
 rfl
theorem conv_down (hb:Blk H p 49 [tv,ad,bv]):convV Tryz.prog (full H) 121 44 (bp1 p)=some (bp1 p):=by
 show qrun Tryz.prog (convert 121 44 (bp1 p)) H=_
 unfold convert
 rw [qrun_bind',qrun_underlying (d:=.unsafePointer) rfl,Option.bind_some,qrun_bind',qrun_underlying (d:=.pointer 47) rfl,Option.bind_some]
 show qrun Tryz.prog (Conv.unsafePointer 121 44 (bp1 p)) H=_
 unfold Conv.unsafePointer
 rw [qrun_bind',qrun_underlying (d:=.unsafePointer) rfl,Option.bind_some,qrun_bind',qrun_underlying (d:=.pointer 47) rfl,Option.bind_some]
 dsimp only
 rw [qrun_bind',seen_w hb,Option.bind_some,qrun_bind',qrun_sizeOf T.size47,Option.bind_some,qrun_bind']
 have e1:qrun Tryz.prog (variablesAt ⟨p,1,none⟩ 47 1) H=some true:=by
  unfold variablesAt
  rw [qrun_bind']
  simp only [program,qrun,Option.bind_some]
  rw [qrun_bind']
  simp only [shape,qrun,shape_w hb,Option.bind_some]
  show some (liesAt Tryz.prog Tryz.prog.depth 49 (3 / Tryz.prog.cellsOf 49) 1 47 1)=some true
  have:liesAt Tryz.prog Tryz.prog.depth 49 (3 / Tryz.prog.cellsOf 49) 1 47 1=true:=by kernel_rfl
  rw [this]
 rw [e1,Option.bind_some]
 rfl
theorem noEsc_spec {v:Value}:CallF Tryz.prog 92 [v] H (fun r H'=>H=H'∧r=v) NoP :=
 callF_ext (e:=Extern.AbiNoEscape.same) Tryz.func92 rfl rfl rfl rfl (v:=v) rfl ⟨rfl,rfl⟩
theorem bCheck_spec (hb:Blk H p 49 [tv,ad,bv]) (ha:ad=.pointer none∨ad=bp1 p):CallF Tryz.prog 78 [bp1 p] H (fun _ H'=>Blk H' p 49 [tv,bp1 p,bv]∧Fr [p] H H') NoP:=by
 have c1:=hb.cell 1
 simp only [gS,gZ] at c1
 refine callF_of Tryz.func78 rfl Tryz.ntmps78 Tryz.results78 (by decide) rfl ?_
 rcases ha with rfl | rfl
 ·have e1:=bin_nil_eql (P:=Tryz.prog) (H:=H) (t:=44) (e:=47) (xo:=.tmp 5) (yo:=.const (.pointer none)) rfl
  simp (disch:=omega) only [go_sem,↓cB,dB,c1,e1]
  rw [conv_up hb]
  simp (disch:=omega) only [go_sem,↓cB,dB]
  refine call_to noEsc_spec ?_
  rintro _ _ ⟨rfl,rfl⟩
  simp (disch:=omega) only [go_sem,↓cB,dB]
  rw [conv_down hb]
  have w1:=hb.wr (i:=1) (by simp) (bp1 p)
  simp (disch:=omega) only [go_sem,↓cB,dB,w1]
  exact fin ⟨hb.set 1 (bp1 p),Fr.set (by simp)⟩
 ·have e1:=bin_ptr_eql (P:=Tryz.prog) (H:=H) (a:=⟨p,1,none⟩) (t:=44) (e:=47) (xo:=.tmp 5) (yo:=.const (.pointer none)) rfl
  have e2:=ptr_same_neq (P:=Tryz.prog) (H:=H) (a:=⟨p,1,none⟩) (t:=44) (e:=47) (n:=1) (xo:=.tmp 17) (yo:=.tmp 18) rfl T.size47
  simp (disch:=omega) only [go_sem,↓cB,dB,c1,e1,e2]
  exact fin ⟨hb,Fr.refl _ _⟩
theorem app_none {P:Program} {t xt e z bytes:Nat} {zero:Value} {d:TypeDesc} {k:Value→Heap→Prop} (hT:ElT P t e z bytes zero) (hu:P.underlying xt=some d) (hnk:∀ kk,d ≠ .int kk) (hk:k noS H) :
  @appB P t xt noS (sv []) ⟨H⟩ ⟨k⟩:=by
 show appW P H t xt _ _ k
 unfold appW
 simp only [someW_iff]
 refine ⟨e,hT.elem,z,hT.size,bytes,hT.bytes,zero,hT.zero,0,rfl,[],rfl,d,hu,hnk,?_⟩
 rw [if_pos (by omega)]
 exact hk
theorem bs_src (x:Str):srcCells H 1 x.length (sv x)=some (x.map u8v):=by
 show some (((bs x).extract 0 x.length).data.toList.map fun b=>Value.int .u8 b.toNat)=_
 have:((bs x).extract 0 x.length).data.toList=x:=by simp [bs]
 rw [this]
theorem bWrite_spec (w:WB H p tv s Z) (hl:s.length + x.length≤100000000):CallF Tryz.prog 60 [bp1 p,sv x] H (fun _ H'=>WB H' p tv (s ++ x) Z∧WQ H p Z H') NoP:=by
 obtain ⟨ad,bv,h1,h2,h3,h4⟩:=w.ex
 refine callF_of Tryz.func60 rfl Tryz.ntmps60 Tryz.results60 (by decide) rfl ?_
 simp (disch:=omega) only [go_sem,↓cB,dB]
 refine call_to (bCheck_spec h1 h2) ?_
 intro v H1 hv
 refine Hush.out ?_
 obtain ⟨g1,g2⟩:=hv
 have c2:=g1.cell 2
 simp only [gS,gZ] at c2
 have hpb:p ∉ own bv:=fun e=>by have:=h4 p e; omega
 have q3:BT H1 bv s:=by
  rcases h3 with h3 | ⟨h3,h5⟩
  ·exact .inl h3
  ·exact .inr ⟨h3,h5.frame g2 (fun b hb=>by simp; rintro rfl; exact hpb hb)⟩
 have hsz:=g2.size
 have hlt:=h1.lt
 have key:∀ (k:Value→Heap→Prop),(∀ bv' H2,BT H2 bv' (s ++ x)→Fr (own bv) H1 H2→(∀ b ∈ own bv',b ∈ own bv∨H1.size≤b)→k bv' H2)→@appB Tryz.prog 45 9 bv (sv x) ⟨H1⟩ ⟨k⟩:=by
  intro k hk
  have gen:Vec H1 5 1 bv (s.map u8v)→s ++ x ≠ []→@appB Tryz.prog 45 9 bv (sv x) ⟨H1⟩ ⟨k⟩:=by
   intro hvec hne
   refine app_vec (n:=x.length) (new:=x.map u8v) T.el45 rfl hvec (by simp [lenS,bs,ByteArray.size]) (bs_src x) (d:=.string) rfl (by simp) (by intro u hu; obtain ⟨c,_,rfl⟩:=List.mem_map.1 hu; rfl) (by simp) ?_ ?_
   ·intro a l c e
    obtain ⟨a',l',c',e',hl'⟩:=hvec.len
    rw [e'] at e
    simp only [Value.slice.injEq] at e
    obtain ⟨_,rfl,_⟩:=e
    simp at hl'
    omega
   ·intro v' H' a1 a2 a3 a4
    exact hk v' H' (.inr ⟨hne,by rw [List.map_append]; exact a1⟩) a2 a3
  rcases q3 with ⟨rfl,rfl⟩ | ⟨hs,hvec⟩
  ·cases x with
   | nil=>exact app_none T.el45 (d:=.string) rfl (by simp) (hk _ _ (.inl ⟨rfl,rfl⟩) (Fr.refl _ _) (by simp [own]))
   | cons c r=>exact gen Vec.nil (by simp)
  ·exact gen hvec (by simp [hs])
 refine ⟨?_⟩
 simp (disch:=omega) only [go_sem,↓cB,dB,c2]
 refine key _ ?_
 intro bv' H2 a1 a2 a3
 refine Hush.out ?_
 have b2:=a2.blk g1 hpb
 have w2:=b2.wr (i:=2) (by simp) bv'
 have hz2:=a2.size
 have hap:p ∉ own bv':=fun e=>(a3 p e).elim hpb (fun h=>by omega)
 have f3:Fr [p] H2 (setH H2 ⟨p,2,none⟩ bv'):=Fr.set (by simp)
 have hsl:∃ a l c,bv'=.slice a l c:=by
  rcases a1 with ⟨_,rfl⟩ | ⟨_,a1⟩
  ·exact ⟨_,_,_,rfl⟩
  ·obtain ⟨a,l,c,e,_⟩:=a1.len; exact ⟨a,l,c,e⟩
 have hgt:∀ b ∈ own bv,p < b:=fun b hb=>(h4 b hb).1
 refine ⟨?_⟩
 obtain ⟨a,l,c,rfl⟩:=hsl
 simp (disch:=omega) only [go_sem,↓cB,dB,w2]
 have hz3:=f3.size
 refine fin ⟨⟨⟨bp1 p,_,b2.set 2 _,.inr rfl,?_,?_⟩,w.out,fun b hb=>by have:=w.zlt b hb; omega⟩,⟨?_,?_,?_⟩⟩
 ·rcases a1 with a1 | ⟨hne,a1⟩
  ·exact .inl a1
  ·exact .inr ⟨hne,a1.frame f3 (fun b hb=>by simp; rintro rfl; exact hap hb)⟩
 ·intro b hb
  rcases a3 b hb with h | h
  ·exact h4 b h
  ·exact ⟨by omega,fun e=>by have:=w.zlt b e; omega⟩
 ·have:=f3.size; omega
 ·intro b hb
  rw [f3.same b (by omega) (by simp; omega),a2.same b (by omega) (fun e=>by have:=hgt b e; omega),g2.same b (by omega) (by simp; omega)]
 ·intro b hb hbl
  have n1:b ≠ p:=by rintro rfl; exact w.out hb
  rw [f3.same b (by omega) (by simpa using n1),a2.same b (by omega) (fun e=>(h4 b e).2 hb),g2.same b hbl (by simpa using n1)]
end
end Go.Proofs.YtcffdpmmadipeaaGreatDoor
namespace Go.Proofs.YtcffdpmmadipeaaGreatDoor
open Go.HL
set_option maxRecDepth 10000
section
variable {H H' H'':Heap} {p q:Nat} {tv ad bv:Value} {s x:Str} {Z Z':List Nat} {xs:List Str}
theorem wPut_spec (w:WB H p tv s Z) (hq:Blk H q 9 (xs.map sv)) (hz:q ∈ Z) (hl:s.length + xs.flatten.length≤100000000) (hn:xs.length≤100) {c:Nat} :
  CallF Tryz.prog 40 [hp p,.slice (some ⟨q,0,none⟩) xs.length c] H (fun _ H'=>WB H' p tv (s ++ xs.flatten) Z∧WQ H p Z H') NoP:=by
 refine callF_of Tryz.func40 rfl Tryz.ntmps40 Tryz.results40 (by decide) rfl ?_
 simp (disch:=omega) only [go_sem,↓cB,dB]
 refine loop_by (fun k ρ H2=>∃ i:Nat,k=xs.length - i∧i≤xs.length∧WB H2 p tv (s ++ (xs.take i).flatten) Z∧WQ H p Z H2∧(ρ.get 0=hp p∧ρ.get 6=.slice (some ⟨q,0,none⟩) xs.length c∧ρ.get 7=iv xs.length∧ρ.get 8=iv i∧ρ.ds = [])) (k:=xs.length) ?_ ?_
 ·exact ⟨0,rfl,by omega,by simpa using w,WQ.refl,by simp (disch:=omega) only [go_sem,↓cB,dB]⟩
 ·rintro k ρ H2 ⟨i,rfl,hi,w2,wq,r0,r6,r7,r8,rd⟩
  have hxi:(i:Int) + 1=((i + 1:Nat):Int):=by omega
  by_cases hin:i < xs.length
  ·have hx:xs[i]?=some xs[i]:=List.getElem?_eq_getElem hin
   generalize xs[i]=x at hx
   have hc:cellH H2 ⟨q,i,none⟩=some (sv x):=by
    rw [(wq.blk hq (.inl hz)).cell,List.getElem?_map,hx]; rfl
   have e1:(xs.take (i + 1)).flatten=(xs.take i).flatten ++ x:=by rw [List.take_add_one,hx]; simp
   have hle:((xs.take i).flatten ++ x).length≤xs.flatten.length:=by
    rw [← e1]
    have:=congrArg (fun l=>l.flatten.length) (List.take_append_drop (i + 1) xs)
    simp only [List.flatten_append,List.length_append] at this
    omega
   rw [List.length_append] at hle
   simp (disch:=omega) only [go_sem,↓cB,dB,r0,r6,r7,r8,rd,hc]
   refine call_to (bWrite_spec w2 (by rw [List.length_append]; omega)) ?_
   intro v H3 hv
   refine Hush.out ?_
   obtain ⟨g1,g2⟩:=hv
   refine ⟨?_⟩
   simp (disch:=omega) only [go_sem,↓cB,dB,r0,r6,r7,r8,rd]
   exact fin ⟨xs.length - (i + 1),by omega,i + 1,rfl,by omega,by rw [e1,← List.append_assoc]; exact g1,wq.trans g2,by simp (disch:=omega) only [go_sem,↓cB,dB,r0,r6,r7,r8,rd,hxi]⟩
  ·have:i=xs.length:=by omega
   subst this
   rw [List.take_length] at w2
   simp (disch:=omega) only [go_sem,↓cB,dB,r0,r6,r7,r8,rd]
   exact fin ⟨w2,wq⟩
theorem put_lit {n:Nat} (w:WB H p tv s Z) (hn:n=xs.length) (hl:s.length + xs.flatten.length≤100000000) (h1:xs.length≤100) :
  CallF Tryz.prog 40 [hp p,.slice (some ⟨H.size,0,none⟩) n n] (H.push (.cells (xs.map sv).toArray 9)) (fun _ H'=>WB H' p tv (s ++ xs.flatten) Z∧WQ H p Z H') NoP:=by
 subst hn
 have f:Fr [] H (H.push (.cells (xs.map sv).toArray 9)):=Fr.push
 have hlt:=w.lt
 refine CallF.mono (wPut_spec (w.more f (Nat.le_refl _) (by simp)) (Blk.new rfl) (by simp) hl h1) ?_ (fun c H' h=>h)
 rintro v H' ⟨g1,g2⟩
 exact ⟨g1.sub (by intro b hb; simp [hb]),(WQ.of_fr f (by omega)).trans (g2.sub (by intro b hb; simp [hb]))⟩
theorem wIndent_spec (w:WB H p tv s Z) {d:Nat} (hd:d≤100) (hl:s.length≤1000000):CallF Tryz.prog 38 [hp p,iv d] H (fun _ H'=>WB H' p tv (s ++ inS d) Z∧WQ H p Z H') NoP:=by
 refine callF_of Tryz.func38 rfl Tryz.ntmps38 Tryz.results38 (by decide) rfl ?_
 simp (disch:=omega) only [go_sem,↓cB,dB]
 refine loop_by (fun k ρ H2=>∃ i:Nat,k=d - i∧i≤d∧WB H2 p tv (s ++ inS i) Z∧WQ H p Z H2∧(ρ.get 0=hp p∧ρ.get 4=iv d∧ρ.get 5=iv i∧ρ.ds = [])) (k:=d) ?_ ?_
 ·exact ⟨0,rfl,by omega,by simpa [inS] using w,WQ.refl,by simp (disch:=omega) only [go_sem,↓cB,dB]⟩
 ·rintro k ρ H2 ⟨i,rfl,hi,w2,wq,r0,r4,r5,rd⟩
  have hxi:(i:Int) + 1=((i + 1:Nat):Int):=by omega
  by_cases hin:i < d
  ·have bs1:=bs_one (P:=Tryz.prog) (H:=H2) (t:=25) (a:=sv [32,32]) T.elem25 T.size9 rfl rfl
   simp (disch:=omega) only [go_sem,↓cB,dB,r0,r4,r5,rd,bs1]
   refine call_to (put_lit (xs:=[[32,32]]) w2 rfl (by rw [List.length_append,in_len]; simp; omega) (by simp)) ?_
   intro v H3 hv
   refine Hush.out ?_
   obtain ⟨g1,g2⟩:=hv
   refine ⟨?_⟩
   simp (disch:=omega) only [go_sem,↓cB,dB,r0,r4,r5,rd]
   exact fin ⟨d - (i + 1),by omega,i + 1,rfl,by omega,by rw [inS_succ]; simpa using g1,wq.trans g2,by simp (disch:=omega) only [go_sem,↓cB,dB,r0,r4,r5,rd,hxi]⟩
  ·have:i=d:=by omega
   subst this
   simp (disch:=omega) only [go_sem,↓cB,dB,r0,r4,r5,rd]
   exact fin ⟨w2,wq⟩
theorem bString_spec (w:WB H p tv s Z) (hl:s.length≤1000000):CallF Tryz.prog 22 [bp1 p] H (fun r H'=>r=sv s∧H.size≤H'.size∧∀ b,b < p→H'[b]?=H[b]?) NoP:=by
 obtain ⟨ad,bv,h1,h2,h3,h4⟩:=w.ex
 have c2:=h1.cell 2
 simp only [gS,gZ] at c2
 refine callF_of Tryz.func22 rfl Tryz.ntmps22 Tryz.results22 (by decide) rfl ?_
 simp (disch:=omega) only [go_sem,↓cB,dB]
 rcases h3 with ⟨rfl,rfl⟩ | ⟨hs,hvec⟩
 ·refine draw1 (lk [(0,true),(1,true),(2,true),(3,true),(5,false),(6,false),(7,false),(8,false),(9,false)] (.act 4 (.actd 10 (lk [(11,true)] .fin)) .non)) T.mixed (hlist p 0 _) (heldOK_blk h1) ?_
  simp (disch:=omega) only [go_sem,↓cB,dB,c2]
  refine usd_none ?_
  refine held_by (heldOK_blk h1) ?_
  simp (disch:=omega) only [go_sem,↓cB,dB,c2]
  refine ust_none ?_
  simp (disch:=omega) only [go_sem,↓cB,dB]
  exact fin ⟨rfl,Nat.le_refl _,fun _ _=>rfl⟩
 ·rcases hvec.ex with ⟨_,h⟩ | ⟨b,len,cap,pre,rest,rfl,hb,hl1,hl2,hle⟩
  ·simp [hs] at h
  ·simp only [List.length_map,Nat.mul_one] at hl1
   subst hl1
   have hs0:0 < s.length:=List.length_pos_iff.2 hs
   have hgt:=(h4 b (by simp [own])).1
   refine draw1 (lk [(0,true),(1,true),(2,true),(3,true),(5,false),(6,false),(7,false),(8,false),(9,false)] (.act 4 (.actd 10 (lk [(11,true)] .fin)) .non)) T.mixed (hlist p 0 _) (heldOK_blk h1) ?_
   simp (disch:=omega) only [go_sem,↓cB,dB,c2]
   refine usd_some (by omega) ?_
   refine held_by (heldOK_blk h1) ?_
   simp (disch:=omega) only [go_sem,↓cB,dB,c2]
   refine ust_some (e:=5) rfl (by kernel_rfl) hb hs (by omega) ?_
   simp (disch:=omega) only [go_sem,↓cB,dB]
   have fz:=freeze_fr (H:=H) (a:=⟨b,pre.length,none⟩) (n:=s.length)
   exact fin ⟨rfl,fz.size,fun b' hb'=>fz.same b' (by have:=h1.lt; omega) (by simp; omega)⟩
end
end Go.Proofs.YtcffdpmmadipeaaGreatDoor
namespace Go.Proofs.YtcffdpmmadipeaaGreatDoor
open Go.HL
set_option maxRecDepth 10000
structure GT (H:Heap):Prop where
 lv:∀ i:Nat,i < 9→cellH H ⟨0,i,none⟩=some (iv (levS i))
 sg:∀ i:Nat,i < 9→cellH H ⟨1,i,none⟩=some (sv (signM i))
 pw:∀ i:Nat,i < 20→cellH H ⟨2,i,none⟩=some (.int .u64 ((10 ^ i:Nat):Int))
def smL:Str:=(List.append (List.append [48,48,48,49,48,50,48,51,48,52,48,53,48,54,48,55,48,56,48,57,49,48,49,49,49,50,49,51,49,52,49,53,49,54,49,55,49,56,49,57,50,48,50,49,50,50,50,51,50,52] [50,53,50,54,50,55,50,56,50,57,51,48,51,49,51,50,51,51,51,52,51,53,51,54,51,55,51,56,51,57,52,48,52,49,52,50,52,51,52,52,52,53,52,54,52,55,52,56,52,57]) (List.append [53,48,53,49,53,50,53,51,53,52,53,53,53,54,53,55,53,56,53,57,54,48,54,49,54,50,54,51,54,52,54,53,54,54,54,55,54,56,54,57,55,48,55,49,55,50,55,51,55,52] [55,53,55,54,55,55,55,56,55,57,56,48,56,49,56,50,56,51,56,52,56,53,56,54,56,55,56,56,56,57,57,48,57,49,57,50,57,51,57,52,57,53,57,54,57,55,57,56,57,57]):List UInt8)
def l8L:Str:=(List.append (List.append [0,1,2,2,3,3,3,3,4,4,4,4,4,4,4,4,5,5,5,5,5,5,5,5,5,5,5,5,5,5,5,5,6,6,6,6,6,6,6,6,6,6,6,6,6,6,6,6,6,6,6,6,6,6,6,6,6,6,6,6,6,6,6,6] [7,7,7,7,7,7,7,7,7,7,7,7,7,7,7,7,7,7,7,7,7,7,7,7,7,7,7,7,7,7,7,7,7,7,7,7,7,7,7,7,7,7,7,7,7,7,7,7,7,7,7,7,7,7,7,7,7,7,7,7,7,7,7,7]) (List.append [8,8,8,8,8,8,8,8,8,8,8,8,8,8,8,8,8,8,8,8,8,8,8,8,8,8,8,8,8,8,8,8,8,8,8,8,8,8,8,8,8,8,8,8,8,8,8,8,8,8,8,8,8,8,8,8,8,8,8,8,8,8,8,8] [8,8,8,8,8,8,8,8,8,8,8,8,8,8,8,8,8,8,8,8,8,8,8,8,8,8,8,8,8,8,8,8,8,8,8,8,8,8,8,8,8,8,8,8,8,8,8,8,8,8,8,8,8,8,8,8,8,8,8,8,8,8,8,8]):List UInt8)
theorem smL_hi:∀ k,k < 100→bt8 smL (k * 2)=dig1 (k / 10):=by decide +kernel
theorem smL_lo:∀ k,k < 100→bt8 smL (k * 2 + 1)=dig1 (k % 10):=by decide +kernel
theorem smL_len:smL.length=200:=by decide +kernel
theorem l8L_len:l8L.length=256:=by decide +kernel
theorem l8L_at:∀ k,k < 256→1≤k→1≤(bt8 l8L k).toNat∧(bt8 l8L k).toNat≤8∧2 ^ ((bt8 l8L k).toNat - 1)≤k∧k < 2 ^ (bt8 l8L k).toNat:=by decide +kernel
theorem small_two:∀ k,k < 100→10≤k→(smL.take (k * 2 + 2)).drop (k * 2)=digF 7 k:=by decide +kernel
theorem small_one:∀ k,k < 10→(([48,49,50,51,52,53,54,55,56,57,97,98,99,100,101,102,103,104,105,106,107,108,109,110,111,112,113,114,115,116,117,118,119,120,121,122]:Str).take (k + 1)).drop k=digF 7 k:=by decide +kernel
section
variable {H:Heap}
theorem isSmall_spec {n:Nat} (h:n < 100):CallF Tryz.prog 88 [iv n] H (fun r H'=>H=H'∧r=sv (digF 7 n)) NoP:=by
 have e1:(n:Int) + 1=((n + 1:Nat):Int):=by omega
 have e2:(n:Int) * 2=((n * 2:Nat):Int):=by omega
 have e3:((n * 2:Nat):Int) + 2=((n * 2 + 2:Nat):Int):=by omega
 have hs:((List.append (List.append [48,48,48,49,48,50,48,51,48,52,48,53,48,54,48,55,48,56,48,57,49,48,49,49,49,50,49,51,49,52,49,53,49,54,49,55,49,56,49,57,50,48,50,49,50,50,50,51,50,52] [50,53,50,54,50,55,50,56,50,57,51,48,51,49,51,50,51,51,51,52,51,53,51,54,51,55,51,56,51,57,52,48,52,49,52,50,52,51,52,52,52,53,52,54,52,55,52,56,52,57]) (List.append [53,48,53,49,53,50,53,51,53,52,53,53,53,54,53,55,53,56,53,57,54,48,54,49,54,50,54,51,54,52,54,53,54,54,54,55,54,56,54,57,55,48,55,49,55,50,55,51,55,52] [55,53,55,54,55,55,55,56,55,57,56,48,56,49,56,50,56,51,56,52,56,53,56,54,56,55,56,56,56,57,57,48,57,49,57,50,57,51,57,52,57,53,57,54,57,55,57,56,57,57]):List UInt8)).length=200:=smL_len
 refine callF_of Tryz.func88 rfl Tryz.ntmps88 Tryz.results88 (by decide) rfl ?_
 by_cases h1:n < 10
 ·have hd:([48,49,50,51,52,53,54,55,56,57,97,98,99,100,101,102,103,104,105,106,107,108,109,110,111,112,113,114,115,116,117,118,119,120,121,122]:Str).length=36:=rfl
  simp (disch:=omega) only [go_sem,↓cB,dB,e1,hd]
  exact fin ⟨rfl,congrArg (fun l=>sv l) (small_one n h1)⟩
 ·simp (disch:=omega) only [go_sem,↓cB,dB,e2,e3,hs]
  exact fin ⟨rfl,congrArg (fun l=>sv l) (small_two n h (by omega))⟩
theorem mbLen_spec {u:Nat} (h1:1≤u) (h2:u≤16777215):CallF Tryz.prog 97 [.int .u64 u] H (fun r H'=>H=H'∧∃ L:Nat,r=iv L∧1≤L∧L≤24∧2 ^ (L - 1)≤u∧u < 2 ^ L) NoP:=by
 have hs:((List.append (List.append [0,1,2,2,3,3,3,3,4,4,4,4,4,4,4,4,5,5,5,5,5,5,5,5,5,5,5,5,5,5,5,5,6,6,6,6,6,6,6,6,6,6,6,6,6,6,6,6,6,6,6,6,6,6,6,6,6,6,6,6,6,6,6,6] [7,7,7,7,7,7,7,7,7,7,7,7,7,7,7,7,7,7,7,7,7,7,7,7,7,7,7,7,7,7,7,7,7,7,7,7,7,7,7,7,7,7,7,7,7,7,7,7,7,7,7,7,7,7,7,7,7,7,7,7,7,7,7,7]) (List.append [8,8,8,8,8,8,8,8,8,8,8,8,8,8,8,8,8,8,8,8,8,8,8,8,8,8,8,8,8,8,8,8,8,8,8,8,8,8,8,8,8,8,8,8,8,8,8,8,8,8,8,8,8,8,8,8,8,8,8,8,8,8,8,8] [8,8,8,8,8,8,8,8,8,8,8,8,8,8,8,8,8,8,8,8,8,8,8,8,8,8,8,8,8,8,8,8,8,8,8,8,8,8,8,8,8,8,8,8,8,8,8,8,8,8,8,8,8,8,8,8,8,8,8,8,8,8,8,8]):List UInt8)).length=256:=l8L_len
 have fin':∀ (v k:Nat),u / 2 ^ k=v→v < 256→1≤v→k≤16→1≤k + (bt8 l8L v).toNat∧k + (bt8 l8L v).toNat≤24∧2 ^ (k + (bt8 l8L v).toNat - 1)≤u∧u < 2 ^ (k + (bt8 l8L v).toNat):=by
  intro v k hv h3 h4 h5
  obtain ⟨a1,a2,a3,a4⟩:=l8L_at v h3 h4
  have hp:0 < 2 ^ k:=Nat.two_pow_pos k
  refine ⟨by omega,by omega,?_,?_⟩
  ·have e:k + (bt8 l8L v).toNat - 1=((bt8 l8L v).toNat - 1) + k:=by omega
   rw [e,Nat.pow_add]
   have:=Nat.mul_le_mul_right (2 ^ k) a3
   have h6:=Nat.div_mul_le_self u (2 ^ k)
   rw [hv] at h6
   omega
  ·rw [Nat.add_comm,Nat.pow_add]
   have h6:u < (v + 1) * 2 ^ k:=by
    have:=Nat.lt_mul_div_succ u hp
    rw [hv,Nat.mul_comm] at this
    exact this
   have:=Nat.mul_le_mul_right (2 ^ k) (show v + 1≤2 ^ (bt8 l8L v).toNat by omega)
   omega
 have done:∀ (v k:Nat),u / 2 ^ k=v→v < 256→1≤v→k≤16→∃ L:Nat,Value.int .i64 (IntKind.i64.wrap ((k:Int) + IntKind.i64.wrap ((bt8 l8L v).toNat:Int)))=iv L∧1≤L∧L≤24∧2 ^ (L - 1)≤u∧u < 2 ^ L:=by
  intro v k hv h3 h4 h5
  obtain ⟨a1,a2,a3,a4⟩:=l8L_at v h3 h4
  refine ⟨k + (bt8 l8L v).toNat,?_,fin' v k hv h3 h4 h5⟩
  rw [wrap64 (n:=((bt8 l8L v).toNat:Int)) (by omega),wrap64 (by omega)]
  congr 1
 have e8:((u:Int)).fdiv (2 ^ min 8 64)=((u / 256:Nat):Int):=by
  rw [Int.fdiv_eq_ediv_of_nonneg _ (by decide)]
  have:((2:Int) ^ min 8 64)=256:=by decide
  rw [this]; omega
 have e16:((u:Int)).fdiv (2 ^ min 16 64)=((u / 65536:Nat):Int):=by
  rw [Int.fdiv_eq_ediv_of_nonneg _ (by decide)]
  have:((2:Int) ^ min 16 64)=65536:=by decide
  rw [this]; omega
 refine callF_of Tryz.func97 rfl Tryz.ntmps97 Tryz.results97 (by decide) rfl ?_
 by_cases c1:u < 256
 ·simp (disch:=omega) only [go_sem,↓cB,dB,IntWalk.u8_in,hs]
  exact fin ⟨rfl,done u 0 (by simp) c1 h1 (by omega)⟩
 ·by_cases c2:u < 65536
  ·simp (disch:=omega) only [go_sem,↓cB,dB,IntWalk.u8_in,hs,e8]
   exact fin ⟨rfl,done (u / 256) 8 rfl (by omega) (by omega) (by omega)⟩
  ·simp (disch:=omega) only [go_sem,↓cB,dB,IntWalk.u8_in,hs,e16]
   exact fin ⟨rfl,done (u / 65536) 16 rfl (by omega) (by omega) (by omega)⟩
theorem isLog_spec {L:Nat} (h:L≤1000):CallF Tryz.prog 96 [iv L] H (fun r H'=>H=H'∧r=iv ((L * 78913 / 262144:Nat):Int)) NoP:=by
 have e18:((L:Int) * 78913).fdiv (2 ^ min 18 64)=((L * 78913 / 262144:Nat):Int):=by
  rw [Int.fdiv_eq_ediv_of_nonneg _ (by decide)]
  have:((2:Int) ^ min 18 64)=262144:=by decide
  rw [this]; omega
 refine callF_of Tryz.func96 rfl Tryz.ntmps96 Tryz.results96 (by decide) rfl ?_
 simp (disch:=omega) only [go_sem,↓cB,dB,e18]
 exact fin ⟨rfl,rfl⟩
theorem isBool_spec {b:Bool}:CallF Tryz.prog 98 [.bool b] H (fun r H'=>H=H'∧r=iv (if b then 1 else 0)) NoP:=by
 refine callF_of Tryz.func98 rfl Tryz.ntmps98 Tryz.results98 (by decide) rfl ?_
 cases b
 ·simp (disch:=omega) only [go_sem,↓cB,dB]
  exact fin ⟨rfl,rfl⟩
 ·simp (disch:=omega) only [go_sem,↓cB,dB]
  exact fin ⟨rfl,rfl⟩
def nDig (u:Nat):Nat:=if u < 10 then 1 else if u < 100 then 2 else if u < 1000 then 3 else if u < 10000 then 4 else if u < 100000 then 5 else 6
theorem isNumDigits_spec (g:GT H) {u:Nat} (h1:1≤u) (h2:u≤999999):CallF Tryz.prog 89 [.int .u64 u] H (fun r H'=>H=H'∧r=iv (nDig u)) NoP:=by
 refine callF_of Tryz.func89 rfl Tryz.ntmps89 Tryz.results89 (by decide) rfl ?_
 simp (disch:=omega) only [go_sem,↓cB,dB]
 refine call_to (mbLen_spec h1 (by omega)) ?_
 rintro _ _ ⟨rfl,L,rfl,l1,l2,l3,l4⟩
 simp (disch:=omega) only [go_sem,↓cB,dB]
 refine call_to (isLog_spec (by omega)) ?_
 rintro _ _ ⟨rfl,rfl⟩
 have hL:L≤20:=by
  rcases Nat.lt_or_ge 20 L with h | h
  ·have:2 ^ 20≤2 ^ (L - 1):=Nat.pow_le_pow_right (by omega) (by omega)
   omega
  ·exact h
 obtain ⟨t,ht⟩:∃ t,t=L * 78913 / 262144:=⟨_,rfl⟩
 rw [← ht]
 have ht6:t≤6:=by omega
 have hp:=g.pw t (by omega)
 have key:(t + (if 10 ^ t≤u then 1 else 0):Nat)=nDig u:=by
  have:L=1∨L=2∨L=3∨L=4∨L=5∨L=6∨L=7∨L=8∨L=9∨L=10∨L=11∨L=12∨L=13∨L=14∨L=15∨L=16∨L=17∨L=18∨L=19∨L=20:=by omega
  unfold nDig
  rcases this with rfl | rfl | rfl | rfl | rfl | rfl | rfl | rfl | rfl | rfl | rfl | rfl | rfl | rfl | rfl | rfl | rfl | rfl | rfl | rfl
  all_goals
   simp only [Nat.reduceMul,Nat.reduceDiv] at ht
   subst ht
   simp only [Nat.reduceSub,Nat.reducePow] at l3 l4 ⊢
   repeat' split
   all_goals omega
 by_cases hc:10 ^ t≤u
 ·rw [if_pos hc] at key
  have hci:(((10 ^ t:Nat):Int))≤(u:Int):=by exact_mod_cast hc
  simp (disch:=omega) only [go_sem,↓cB,dB,hp,hci]
  refine call_to isBool_spec ?_
  rintro _ _ ⟨rfl,rfl⟩
  have:(t:Int) + 1=(nDig u:Int):=by omega
  simp (disch:=omega) only [go_sem,↓cB,dB,this]
  exact fin ⟨rfl,rfl⟩
 ·rw [if_neg hc] at key
  have hci:¬ ((((10 ^ t:Nat):Int))≤(u:Int)):=by exact_mod_cast hc
  simp (disch:=omega) only [go_sem,↓cB,dB,hp,hci]
  refine call_to isBool_spec ?_
  rintro _ _ ⟨rfl,rfl⟩
  have:(t:Int) + 0=(nDig u:Int):=by omega
  simp (disch:=omega) only [go_sem,↓cB,dB,this]
  exact fin ⟨rfl,congrArg iv (by simpa using this)⟩
end
end Go.Proofs.YtcffdpmmadipeaaGreatDoor
namespace Go.HL
theorem qrun_forIn {P:Program} {H:Heap} {f:Value→ByteArray→Sem (ForInStep ByteArray)} (hf:∀ (c:UInt8) acc,f (u8v c) acc=pure (ForInStep.yield (acc.push c))):∀ (l:List UInt8) (acc:ByteArray),
  qrun P (forIn (l.map u8v) acc f) H=some ⟨acc.data ++ l.toArray⟩
 | [],acc=>by simp [pure,qrun]
 | c :: l,acc=>by
  rw [List.map_cons,List.forIn_cons,hf]
  show qrun P (forIn (l.map u8v) (acc.push c) f) H=_
  rw [qrun_forIn hf l (acc.push c)]
  congr 1
  apply ByteArray.ext
  simp [ByteArray.push]
theorem conv_bytes {P:Program} {H:Heap} {s d e b c t:Nat} {l:List UInt8} {pre rest:List Value} (hs:P.underlying s=some (.slice e)) (he:P.underlying e=some (.int .u8)) (hd:P.underlying d=some .string) (hb:Blk H b t (pre ++ l.map u8v ++ rest)) :
  convV P (full H) s d (.slice (some ⟨b,pre.length,none⟩) l.length c)=some (.string (bs l)):=by
 show qrun P (convert s d (.slice (some ⟨b,pre.length,none⟩) l.length c)) H=_
 unfold convert
 rw [qrun_bind',qrun_underlying hs,Option.bind_some,qrun_bind',qrun_underlying hd,Option.bind_some]
 show qrun P (do match ← underlying e with
  | .int .u8=>Conv.bytesToString (.slice (some ⟨b,pre.length,none⟩) l.length c)
  | .int .i32=>Conv.runesToString (.slice (some ⟨b,pre.length,none⟩) l.length c)
  | _=>stuck "Convert: a slice of what to string?") H=_
 rw [qrun_bind',qrun_underlying he,Option.bind_some]
 show qrun P (Conv.bytesToString (.slice (some ⟨b,pre.length,none⟩) l.length c)) H=_
 unfold Conv.bytesToString
 dsimp only
 have hl:qrun P (loadCells ⟨b,pre.length,none⟩ l.length) H=some (l.map u8v).toArray:=by
  unfold loadCells
  have h1:=Blk.cells hb
  rw [List.length_map] at h1
  have:=qrun_loadCellsFrom (P:=P) (H:=H) (a:=⟨b,pre.length,none⟩) l.length 0 #[] _ h1
  simpa using this
 rw [qrun_bind',hl,Option.bind_some,qrun_bind',← Array.forIn_toList]
 rw [qrun_forIn (by intro c acc; simp [u8v]) l ByteArray.empty]
 have e1:(⟨ByteArray.empty.data ++ l.toArray⟩:ByteArray)=bs l:=by
  apply ByteArray.ext
  simp [bs]
 rw [e1]
 rfl
end Go.HL
namespace Go.Proofs.YtcffdpmmadipeaaGreatDoor
open Go.HL
set_option maxRecDepth 10000
abbrev z8:Value:=.int .u8 0
section
variable {H:Heap} {b:Nat} {c0:Value}
theorem digF_c:∀ {m:Nat},m≤999999→digF 7 m=(if m < 10 then [dig1 m] else if m < 100 then [dig1 (m / 10),dig1 (m % 10)] else if m < 1000 then [dig1 (m / 100),dig1 (m / 10 % 10),dig1 (m % 10)]
  else if m < 10000 then [dig1 (m / 1000),dig1 (m / 100 % 10),dig1 (m / 10 % 10),dig1 (m % 10)] else if m < 100000 then [dig1 (m / 10000),dig1 (m / 1000 % 10),dig1 (m / 100 % 10),dig1 (m / 10 % 10),dig1 (m % 10)]
  else [dig1 (m / 100000),dig1 (m / 10000 % 10),dig1 (m / 1000 % 10),dig1 (m / 100 % 10),dig1 (m / 10 % 10),dig1 (m % 10)]):=by
 intro m hm
 have d1:m / 10 / 10=m / 100:=by omega
 have d2:m / 100 / 10=m / 1000:=by omega
 have d3:m / 1000 / 10=m / 10000:=by omega
 have d4:m / 10000 / 10=m / 100000:=by omega
 have d5:m / 100000 < 10:=by omega
 simp only [digF,d1,d2,d3,d4,if_pos d5]
 by_cases c1:m < 10
 ·rw [if_pos c1,if_pos c1]
 rw [if_neg c1,if_neg c1]
 by_cases c2:m < 100
 ·rw [if_pos (show m / 10 < 10 by omega),if_pos c2]; rfl
 rw [if_neg (show ¬ m / 10 < 10 by omega),if_neg c2]
 by_cases c3:m < 1000
 ·rw [if_pos (show m / 100 < 10 by omega),if_pos c3]; rfl
 rw [if_neg (show ¬ m / 100 < 10 by omega),if_neg c3]
 by_cases c4:m < 10000
 ·rw [if_pos (show m / 1000 < 10 by omega),if_pos c4]; rfl
 rw [if_neg (show ¬ m / 1000 < 10 by omega),if_neg c4]
 by_cases c5:m < 100000
 ·rw [if_pos (show m / 10000 < 10 by omega),if_pos c5]; rfl
 rw [if_neg (show ¬ m / 10000 < 10 by omega),if_neg c5]
 rfl
theorem v_lo {x:Int} {k t:Nat} (h:x=((k * 2 + 1:Nat):Int)) (hk:k < 100) (ht:k % 10=t):u8v (bt8 (List.append (List.append [48,48,48,49,48,50,48,51,48,52,48,53,48,54,48,55,48,56,48,57,49,48,49,49,49,50,49,51,49,52,49,53,49,54,49,55,49,56,49,57,50,48,50,49,50,50,50,51,50,52] [50,53,50,54,50,55,50,56,50,57,51,48,51,49,51,50,51,51,51,52,51,53,51,54,51,55,51,56,51,57,52,48,52,49,52,50,52,51,52,52,52,53,52,54,52,55,52,56,52,57]) (List.append [53,48,53,49,53,50,53,51,53,52,53,53,53,54,53,55,53,56,53,57,54,48,54,49,54,50,54,51,54,52,54,53,54,54,54,55,54,56,54,57,55,48,55,49,55,50,55,51,55,52] [55,53,55,54,55,55,55,56,55,57,56,48,56,49,56,50,56,51,56,52,56,53,56,54,56,55,56,56,56,57,57,48,57,49,57,50,57,51,57,52,57,53,57,54,57,55,57,56,57,57]):List UInt8) x.toNat)=u8v (dig1 t):=by
 subst h ht
 rw [Int.toNat_natCast]
 exact congrArg u8v (smL_lo k hk)
theorem v_hi {x:Int} {k t:Nat} (h:x=((k * 2:Nat):Int)) (hk:k < 100) (ht:k / 10=t):u8v (bt8 (List.append (List.append [48,48,48,49,48,50,48,51,48,52,48,53,48,54,48,55,48,56,48,57,49,48,49,49,49,50,49,51,49,52,49,53,49,54,49,55,49,56,49,57,50,48,50,49,50,50,50,51,50,52] [50,53,50,54,50,55,50,56,50,57,51,48,51,49,51,50,51,51,51,52,51,53,51,54,51,55,51,56,51,57,52,48,52,49,52,50,52,51,52,52,52,53,52,54,52,55,52,56,52,57]) (List.append [53,48,53,49,53,50,53,51,53,52,53,53,53,54,53,55,53,56,53,57,54,48,54,49,54,50,54,51,54,52,54,53,54,54,54,55,54,56,54,57,55,48,55,49,55,50,55,51,55,52] [55,53,55,54,55,55,55,56,55,57,56,48,56,49,56,50,56,51,56,52,56,53,56,54,56,55,56,56,56,57,57,48,57,49,57,50,57,51,57,52,57,53,57,54,57,55,57,56,57,57]):List UInt8) x.toNat)=u8v (dig1 t):=by
 subst h ht
 rw [Int.toNat_natCast]
 exact congrArg u8v (smL_hi k hk)
theorem d_one {x:Int} {t:Nat} (h:x=((t + 48:Nat):Int)) (ht:t < 10):Value.int .u8 x=u8v (dig1 t):=by
 subst h
 have:∀ t,t < 10→(dig1 t).toNat=t + 48:=by decide
 rw [← this t ht]
set_option maxHeartbeats 2000000 in
theorem isBase10_spec {m:Nat} (h1:1≤m) (h2:m≤999999) (hb:Blk H b 115 (c0 :: List.replicate 23 z8)) :
  CallF Tryz.prog 90 [.slice (some ⟨b,1,none⟩) (nDig m) 23,.int .u64 m] H (fun _ H'=>Blk H' b 115 ([c0] ++ (digF 7 m).map u8v ++ List.replicate (23 - nDig m) z8)∧Fr [b] H H') NoP:=by
 have hs:((List.append (List.append [48,48,48,49,48,50,48,51,48,52,48,53,48,54,48,55,48,56,48,57,49,48,49,49,49,50,49,51,49,52,49,53,49,54,49,55,49,56,49,57,50,48,50,49,50,50,50,51,50,52] [50,53,50,54,50,55,50,56,50,57,51,48,51,49,51,50,51,51,51,52,51,53,51,54,51,55,51,56,51,57,52,48,52,49,52,50,52,51,52,52,52,53,52,54,52,55,52,56,52,57]) (List.append [53,48,53,49,53,50,53,51,53,52,53,53,53,54,53,55,53,56,53,57,54,48,54,49,54,50,54,51,54,52,54,53,54,54,54,55,54,56,54,57,55,48,55,49,55,50,55,51,55,52] [55,53,55,54,55,55,55,56,55,57,56,48,56,49,56,50,56,51,56,52,56,53,56,54,56,55,56,56,56,57,57,48,57,49,57,50,57,51,57,52,57,53,57,54,57,55,57,56,57,57]):List UInt8)).length=200:=smL_len
 have hd6:nDig m≤6:=by unfold nDig; (repeat' split) <;> omega
 refine callF_of Tryz.func90 rfl Tryz.ntmps90 Tryz.results90 (by decide) rfl ?_
 simp (disch:=omega) only [go_sem,↓cB,dB]
 refine loop_by (fun k ρ H2=>H=H2∧(ρ.get 0=.slice (some ⟨b,1,none⟩) (nDig m) 23∧ρ.get 1=.int .u64 m∧ρ.get 4=iv (nDig m)∧ρ.ds = [])) (k:=0) ?_ ?_
 ·exact ⟨rfl,by simp (disch:=omega) only [go_sem,↓cB,dB]⟩
 rintro k ρ _ ⟨rfl,r0,r1,r4,rd⟩
 rw [digF_c h2]
 unfold nDig at *
 by_cases c1:m < 10
 ·simp only [if_pos c1] at *
  have cc:((1:Nat):Int)=1:=rfl
  rw [cc] at r4
  have w0:∀ v0,wr H ⟨b,1,none⟩ v0=some (setH H ⟨b,1,none⟩ v0):=fun v0=>hb.wr (by simp) v0
  have e:∀ v0,v0=u8v (dig1 (m))→Blk (setH H ⟨b,1,none⟩ v0) b 115 ([c0] ++ ([dig1 (m)]).map u8v ++ List.replicate (23 - 1) z8)∧Fr [b] H (setH H ⟨b,1,none⟩ v0):=by
   rintro _ rfl
   exact ⟨(hb.set 1 _),Fr.set (by simp)⟩
  simp (disch:=omega) only [go_sem,↓cB,dB,r0,r1,r4,rd,IntWalk.u32_in,IntWalk.u32_quo,IntWalk.u8_in,IntWalk.rem_in,hs,Int.reduceSub,Int.reduceToNat,Nat.reduceAdd,Int.reduceLE,Int.reduceLT,decide_true,decide_false,w0]
  exact fin (e _ (d_one (by omega) (by omega)))
 by_cases c2:m < 100
 ·have k1:¬ m < 10:=by omega
  simp only [if_neg k1,if_pos c2] at *
  have cc:((2:Nat):Int)=2:=rfl
  rw [cc] at r4
  have w0:∀ v0,wr H ⟨b,2,none⟩ v0=some (setH H ⟨b,2,none⟩ v0):=fun v0=>hb.wr (by simp) v0
  have w1:∀ v0 v1,wr (setH H ⟨b,2,none⟩ v0) ⟨b,1,none⟩ v1=some (setH (setH H ⟨b,2,none⟩ v0) ⟨b,1,none⟩ v1):=fun v0 v1=>(hb.set 2 v0).wr (by simp) v1
  have e:∀ v0 v1,v0=u8v (dig1 (m % 10))→v1=u8v (dig1 (m / 10))→Blk (setH (setH H ⟨b,2,none⟩ v0) ⟨b,1,none⟩ v1) b 115 ([c0] ++ ([dig1 (m / 10),dig1 (m % 10)]).map u8v ++ List.replicate (23 - 2) z8)∧Fr [b] H (setH (setH H ⟨b,2,none⟩ v0) ⟨b,1,none⟩ v1):=by
   rintro _ _ rfl rfl
   exact ⟨((hb.set 2 _).set 1 _),(Fr.set (by simp)).trans (Fr.set (by simp))⟩
  simp (disch:=omega) only [go_sem,↓cB,dB,r0,r1,r4,rd,IntWalk.u32_in,IntWalk.u32_quo,IntWalk.u8_in,IntWalk.rem_in,hs,Int.reduceSub,Int.reduceToNat,Nat.reduceAdd,Int.reduceLE,Int.reduceLT,decide_true,decide_false,w0,w1]
  refine draw0 (lk [(0,true),(1,true),(2,true),(3,false),(4,false),(5,false),(6,true),(7,true),(8,true),(9,false),(10,false),(11,true)] (.act 12 (lk [(13,true)] (.actd 14 .fin)) .non)) T.mixed ?_
  simp (disch:=omega) only [go_sem,↓cB,dB,r0,r1,r4,rd,IntWalk.u32_in,IntWalk.u32_quo,IntWalk.u8_in,IntWalk.rem_in,hs,Int.reduceSub,Int.reduceToNat,Nat.reduceAdd,Int.reduceLE,Int.reduceLT,decide_true,decide_false,w0,w1]
  exact fin (e _ _ (by first | exact v_lo (k:=m % 100) (by omega) (by omega) (by omega)) (by first | exact v_hi (k:=m % 100) (by omega) (by omega) (by omega)))
 by_cases c3:m < 1000
 ·have k1:¬ m < 10:=by omega
  have k2:¬ m < 100:=by omega
  simp only [if_neg k1,if_neg k2,if_pos c3] at *
  have cc:((3:Nat):Int)=3:=rfl
  rw [cc] at r4
  have w0:∀ v0,wr H ⟨b,3,none⟩ v0=some (setH H ⟨b,3,none⟩ v0):=fun v0=>hb.wr (by simp) v0
  have w1:∀ v0 v1,wr (setH H ⟨b,3,none⟩ v0) ⟨b,2,none⟩ v1=some (setH (setH H ⟨b,3,none⟩ v0) ⟨b,2,none⟩ v1):=fun v0 v1=>(hb.set 3 v0).wr (by simp) v1
  have w2:∀ v0 v1 v2,wr (setH (setH H ⟨b,3,none⟩ v0) ⟨b,2,none⟩ v1) ⟨b,1,none⟩ v2=some (setH (setH (setH H ⟨b,3,none⟩ v0) ⟨b,2,none⟩ v1) ⟨b,1,none⟩ v2):=fun v0 v1 v2=>((hb.set 3 v0).set 2 v1).wr (by simp) v2
  have e:∀ v0 v1 v2,v0=u8v (dig1 (m % 10))→v1=u8v (dig1 (m / 10 % 10))→v2=u8v (dig1 (m / 100))→Blk (setH (setH (setH H ⟨b,3,none⟩ v0) ⟨b,2,none⟩ v1) ⟨b,1,none⟩ v2) b 115 ([c0] ++ ([dig1 (m / 100),dig1 (m / 10 % 10),dig1 (m % 10)]).map u8v ++ List.replicate (23 - 3) z8)∧Fr [b] H (setH (setH (setH H ⟨b,3,none⟩ v0) ⟨b,2,none⟩ v1) ⟨b,1,none⟩ v2):=by
   rintro _ _ _ rfl rfl rfl
   exact ⟨(((hb.set 3 _).set 2 _).set 1 _),((Fr.set (by simp)).trans (Fr.set (by simp))).trans (Fr.set (by simp))⟩
  simp (disch:=omega) only [go_sem,↓cB,dB,r0,r1,r4,rd,IntWalk.u32_in,IntWalk.u32_quo,IntWalk.u8_in,IntWalk.rem_in,hs,Int.reduceSub,Int.reduceToNat,Nat.reduceAdd,Int.reduceLE,Int.reduceLT,decide_true,decide_false,w0,w1,w2]
  refine draw0 (lk [(0,true),(1,true),(2,true),(3,false),(4,false),(5,false),(6,true),(7,true),(8,true),(9,false),(10,false),(11,true)] (.act 12 (lk [(13,true)] (.actd 14 .fin)) .non)) T.mixed ?_
  simp (disch:=omega) only [go_sem,↓cB,dB,r0,r1,r4,rd,IntWalk.u32_in,IntWalk.u32_quo,IntWalk.u8_in,IntWalk.rem_in,hs,Int.reduceSub,Int.reduceToNat,Nat.reduceAdd,Int.reduceLE,Int.reduceLT,decide_true,decide_false,w0,w1,w2]
  exact fin (e _ _ _ (by first | exact v_lo (k:=m % 100) (by omega) (by omega) (by omega)) (by first | exact v_hi (k:=m % 100) (by omega) (by omega) (by omega)) (d_one (by omega) (by omega)))
 by_cases c4:m < 10000
 ·have k1:¬ m < 10:=by omega
  have k2:¬ m < 100:=by omega
  have k3:¬ m < 1000:=by omega
  simp only [if_neg k1,if_neg k2,if_neg k3,if_pos c4] at *
  have cc:((4:Nat):Int)=4:=rfl
  rw [cc] at r4
  have w0:∀ v0,wr H ⟨b,4,none⟩ v0=some (setH H ⟨b,4,none⟩ v0):=fun v0=>hb.wr (by simp) v0
  have w1:∀ v0 v1,wr (setH H ⟨b,4,none⟩ v0) ⟨b,3,none⟩ v1=some (setH (setH H ⟨b,4,none⟩ v0) ⟨b,3,none⟩ v1):=fun v0 v1=>(hb.set 4 v0).wr (by simp) v1
  have w2:∀ v0 v1 v2,wr (setH (setH H ⟨b,4,none⟩ v0) ⟨b,3,none⟩ v1) ⟨b,2,none⟩ v2=some (setH (setH (setH H ⟨b,4,none⟩ v0) ⟨b,3,none⟩ v1) ⟨b,2,none⟩ v2):=fun v0 v1 v2=>((hb.set 4 v0).set 3 v1).wr (by simp) v2
  have w3:∀ v0 v1 v2 v3,wr (setH (setH (setH H ⟨b,4,none⟩ v0) ⟨b,3,none⟩ v1) ⟨b,2,none⟩ v2) ⟨b,1,none⟩ v3=some (setH (setH (setH (setH H ⟨b,4,none⟩ v0) ⟨b,3,none⟩ v1) ⟨b,2,none⟩ v2) ⟨b,1,none⟩ v3):=fun v0 v1 v2 v3=>(((hb.set 4 v0).set 3 v1).set 2 v2).wr (by simp) v3
  have e:∀ v0 v1 v2 v3,v0=u8v (dig1 (m % 10))→v1=u8v (dig1 (m / 10 % 10))→v2=u8v (dig1 (m / 100 % 10))→v3=u8v (dig1 (m / 1000))→Blk (setH (setH (setH (setH H ⟨b,4,none⟩ v0) ⟨b,3,none⟩ v1) ⟨b,2,none⟩ v2) ⟨b,1,none⟩ v3) b 115 ([c0] ++ ([dig1 (m / 1000),dig1 (m / 100 % 10),dig1 (m / 10 % 10),dig1 (m % 10)]).map u8v ++ List.replicate (23 - 4) z8)∧Fr [b] H (setH (setH (setH (setH H ⟨b,4,none⟩ v0) ⟨b,3,none⟩ v1) ⟨b,2,none⟩ v2) ⟨b,1,none⟩ v3):=by
   rintro _ _ _ _ rfl rfl rfl rfl
   exact ⟨((((hb.set 4 _).set 3 _).set 2 _).set 1 _),(((Fr.set (by simp)).trans (Fr.set (by simp))).trans (Fr.set (by simp))).trans (Fr.set (by simp))⟩
  simp (disch:=omega) only [go_sem,↓cB,dB,r0,r1,r4,rd,IntWalk.u32_in,IntWalk.u32_quo,IntWalk.u8_in,IntWalk.rem_in,hs,Int.reduceSub,Int.reduceToNat,Nat.reduceAdd,Int.reduceLE,Int.reduceLT,decide_true,decide_false,w0,w1,w2,w3]
  refine draw0 (lk [(0,true),(1,true),(2,true),(3,false),(4,false),(5,false),(6,true),(7,true),(8,true),(9,false),(10,false),(11,true)] (.act 12 (lk [(13,true)] (.actd 14 .fin)) .non)) T.mixed ?_
  simp (disch:=omega) only [go_sem,↓cB,dB,r0,r1,r4,rd,IntWalk.u32_in,IntWalk.u32_quo,IntWalk.u8_in,IntWalk.rem_in,hs,Int.reduceSub,Int.reduceToNat,Nat.reduceAdd,Int.reduceLE,Int.reduceLT,decide_true,decide_false,w0,w1,w2,w3]
  refine draw0 (lk [(0,true),(1,true),(2,true),(3,false),(4,false),(5,false),(6,true),(7,true),(8,true),(9,false),(10,false),(11,true)] (.act 12 (lk [(13,true)] (.actd 14 .fin)) .non)) T.mixed ?_
  simp (disch:=omega) only [go_sem,↓cB,dB,r0,r1,r4,rd,IntWalk.u32_in,IntWalk.u32_quo,IntWalk.u8_in,IntWalk.rem_in,hs,Int.reduceSub,Int.reduceToNat,Nat.reduceAdd,Int.reduceLE,Int.reduceLT,decide_true,decide_false,w0,w1,w2,w3]
  exact fin (e _ _ _ _ (by first | exact v_lo (k:=m % 100) (by omega) (by omega) (by omega)) (by first | exact v_hi (k:=m % 100) (by omega) (by omega) (by omega)) (by first | exact v_lo (k:=m / 100 % 100) (by omega) (by omega) (by omega)) (by first | exact v_hi (k:=m / 100 % 100) (by omega) (by omega) (by omega)))
 by_cases c5:m < 100000
 ·have k1:¬ m < 10:=by omega
  have k2:¬ m < 100:=by omega
  have k3:¬ m < 1000:=by omega
  have k4:¬ m < 10000:=by omega
  simp only [if_neg k1,if_neg k2,if_neg k3,if_neg k4,if_pos c5] at *
  have cc:((5:Nat):Int)=5:=rfl
  rw [cc] at r4
  have w0:∀ v0,wr H ⟨b,5,none⟩ v0=some (setH H ⟨b,5,none⟩ v0):=fun v0=>hb.wr (by simp) v0
  have w1:∀ v0 v1,wr (setH H ⟨b,5,none⟩ v0) ⟨b,4,none⟩ v1=some (setH (setH H ⟨b,5,none⟩ v0) ⟨b,4,none⟩ v1):=fun v0 v1=>(hb.set 5 v0).wr (by simp) v1
  have w2:∀ v0 v1 v2,wr (setH (setH H ⟨b,5,none⟩ v0) ⟨b,4,none⟩ v1) ⟨b,3,none⟩ v2=some (setH (setH (setH H ⟨b,5,none⟩ v0) ⟨b,4,none⟩ v1) ⟨b,3,none⟩ v2):=fun v0 v1 v2=>((hb.set 5 v0).set 4 v1).wr (by simp) v2
  have w3:∀ v0 v1 v2 v3,wr (setH (setH (setH H ⟨b,5,none⟩ v0) ⟨b,4,none⟩ v1) ⟨b,3,none⟩ v2) ⟨b,2,none⟩ v3=some (setH (setH (setH (setH H ⟨b,5,none⟩ v0) ⟨b,4,none⟩ v1) ⟨b,3,none⟩ v2) ⟨b,2,none⟩ v3):=fun v0 v1 v2 v3=>(((hb.set 5 v0).set 4 v1).set 3 v2).wr (by simp) v3
  have w4:∀ v0 v1 v2 v3 v4,wr (setH (setH (setH (setH H ⟨b,5,none⟩ v0) ⟨b,4,none⟩ v1) ⟨b,3,none⟩ v2) ⟨b,2,none⟩ v3) ⟨b,1,none⟩ v4=some (setH (setH (setH (setH (setH H ⟨b,5,none⟩ v0) ⟨b,4,none⟩ v1) ⟨b,3,none⟩ v2) ⟨b,2,none⟩ v3) ⟨b,1,none⟩ v4):=fun v0 v1 v2 v3 v4=>((((hb.set 5 v0).set 4 v1).set 3 v2).set 2 v3).wr (by simp) v4
  have e:∀ v0 v1 v2 v3 v4,v0=u8v (dig1 (m % 10))→v1=u8v (dig1 (m / 10 % 10))→v2=u8v (dig1 (m / 100 % 10))→v3=u8v (dig1 (m / 1000 % 10))→v4=u8v (dig1 (m / 10000))→Blk (setH (setH (setH (setH (setH H ⟨b,5,none⟩ v0) ⟨b,4,none⟩ v1) ⟨b,3,none⟩ v2) ⟨b,2,none⟩ v3) ⟨b,1,none⟩ v4) b 115 ([c0] ++ ([dig1 (m / 10000),dig1 (m / 1000 % 10),dig1 (m / 100 % 10),dig1 (m / 10 % 10),dig1 (m % 10)]).map u8v ++ List.replicate (23 - 5) z8)∧Fr [b] H (setH (setH (setH (setH (setH H ⟨b,5,none⟩ v0) ⟨b,4,none⟩ v1) ⟨b,3,none⟩ v2) ⟨b,2,none⟩ v3) ⟨b,1,none⟩ v4):=by
   rintro _ _ _ _ _ rfl rfl rfl rfl rfl
   exact ⟨(((((hb.set 5 _).set 4 _).set 3 _).set 2 _).set 1 _),((((Fr.set (by simp)).trans (Fr.set (by simp))).trans (Fr.set (by simp))).trans (Fr.set (by simp))).trans (Fr.set (by simp))⟩
  simp (disch:=omega) only [go_sem,↓cB,dB,r0,r1,r4,rd,IntWalk.u32_in,IntWalk.u32_quo,IntWalk.u8_in,IntWalk.rem_in,hs,Int.reduceSub,Int.reduceToNat,Nat.reduceAdd,Int.reduceLE,Int.reduceLT,decide_true,decide_false,w0,w1,w2,w3,w4]
  refine draw0 (lk [(0,true),(1,true),(2,true),(3,false),(4,false),(5,false),(6,true),(7,true),(8,true),(9,false),(10,false),(11,true)] (.act 12 (lk [(13,true)] (.actd 14 .fin)) .non)) T.mixed ?_
  simp (disch:=omega) only [go_sem,↓cB,dB,r0,r1,r4,rd,IntWalk.u32_in,IntWalk.u32_quo,IntWalk.u8_in,IntWalk.rem_in,hs,Int.reduceSub,Int.reduceToNat,Nat.reduceAdd,Int.reduceLE,Int.reduceLT,decide_true,decide_false,w0,w1,w2,w3,w4]
  refine draw0 (lk [(0,true),(1,true),(2,true),(3,false),(4,false),(5,false),(6,true),(7,true),(8,true),(9,false),(10,false),(11,true)] (.act 12 (lk [(13,true)] (.actd 14 .fin)) .non)) T.mixed ?_
  simp (disch:=omega) only [go_sem,↓cB,dB,r0,r1,r4,rd,IntWalk.u32_in,IntWalk.u32_quo,IntWalk.u8_in,IntWalk.rem_in,hs,Int.reduceSub,Int.reduceToNat,Nat.reduceAdd,Int.reduceLE,Int.reduceLT,decide_true,decide_false,w0,w1,w2,w3,w4]
  exact fin (e _ _ _ _ _ (by first | exact v_lo (k:=m % 100) (by omega) (by omega) (by omega)) (by first | exact v_hi (k:=m % 100) (by omega) (by omega) (by omega)) (by first | exact v_lo (k:=m / 100 % 100) (by omega) (by omega) (by omega)) (by first | exact v_hi (k:=m / 100 % 100) (by omega) (by omega) (by omega)) (d_one (by omega) (by omega)))
 have c6:m < 1000000:=by omega
 have k1:¬ m < 10:=by omega
 have k2:¬ m < 100:=by omega
 have k3:¬ m < 1000:=by omega
 have k4:¬ m < 10000:=by omega
 have k5:¬ m < 100000:=by omega
 simp only [if_neg k1,if_neg k2,if_neg k3,if_neg k4,if_neg k5] at *
 have cc:((6:Nat):Int)=6:=rfl
 rw [cc] at r4
 have w0:∀ v0,wr H ⟨b,6,none⟩ v0=some (setH H ⟨b,6,none⟩ v0):=fun v0=>hb.wr (by simp) v0
 have w1:∀ v0 v1,wr (setH H ⟨b,6,none⟩ v0) ⟨b,5,none⟩ v1=some (setH (setH H ⟨b,6,none⟩ v0) ⟨b,5,none⟩ v1):=fun v0 v1=>(hb.set 6 v0).wr (by simp) v1
 have w2:∀ v0 v1 v2,wr (setH (setH H ⟨b,6,none⟩ v0) ⟨b,5,none⟩ v1) ⟨b,4,none⟩ v2=some (setH (setH (setH H ⟨b,6,none⟩ v0) ⟨b,5,none⟩ v1) ⟨b,4,none⟩ v2):=fun v0 v1 v2=>((hb.set 6 v0).set 5 v1).wr (by simp) v2
 have w3:∀ v0 v1 v2 v3,wr (setH (setH (setH H ⟨b,6,none⟩ v0) ⟨b,5,none⟩ v1) ⟨b,4,none⟩ v2) ⟨b,3,none⟩ v3=some (setH (setH (setH (setH H ⟨b,6,none⟩ v0) ⟨b,5,none⟩ v1) ⟨b,4,none⟩ v2) ⟨b,3,none⟩ v3):=fun v0 v1 v2 v3=>(((hb.set 6 v0).set 5 v1).set 4 v2).wr (by simp) v3
 have w4:∀ v0 v1 v2 v3 v4,wr (setH (setH (setH (setH H ⟨b,6,none⟩ v0) ⟨b,5,none⟩ v1) ⟨b,4,none⟩ v2) ⟨b,3,none⟩ v3) ⟨b,2,none⟩ v4=some (setH (setH (setH (setH (setH H ⟨b,6,none⟩ v0) ⟨b,5,none⟩ v1) ⟨b,4,none⟩ v2) ⟨b,3,none⟩ v3) ⟨b,2,none⟩ v4):=fun v0 v1 v2 v3 v4=>((((hb.set 6 v0).set 5 v1).set 4 v2).set 3 v3).wr (by simp) v4
 have w5:∀ v0 v1 v2 v3 v4 v5,wr (setH (setH (setH (setH (setH H ⟨b,6,none⟩ v0) ⟨b,5,none⟩ v1) ⟨b,4,none⟩ v2) ⟨b,3,none⟩ v3) ⟨b,2,none⟩ v4) ⟨b,1,none⟩ v5=some (setH (setH (setH (setH (setH (setH H ⟨b,6,none⟩ v0) ⟨b,5,none⟩ v1) ⟨b,4,none⟩ v2) ⟨b,3,none⟩ v3) ⟨b,2,none⟩ v4) ⟨b,1,none⟩ v5):=fun v0 v1 v2 v3 v4 v5=>(((((hb.set 6 v0).set 5 v1).set 4 v2).set 3 v3).set 2 v4).wr (by simp) v5
 have e:∀ v0 v1 v2 v3 v4 v5,v0=u8v (dig1 (m % 10))→v1=u8v (dig1 (m / 10 % 10))→v2=u8v (dig1 (m / 100 % 10))→v3=u8v (dig1 (m / 1000 % 10))→v4=u8v (dig1 (m / 10000 % 10))→v5=u8v (dig1 (m / 100000))→Blk (setH (setH (setH (setH (setH (setH H ⟨b,6,none⟩ v0) ⟨b,5,none⟩ v1) ⟨b,4,none⟩ v2) ⟨b,3,none⟩ v3) ⟨b,2,none⟩ v4) ⟨b,1,none⟩ v5) b 115 ([c0] ++ ([dig1 (m / 100000),dig1 (m / 10000 % 10),dig1 (m / 1000 % 10),dig1 (m / 100 % 10),dig1 (m / 10 % 10),dig1 (m % 10)]).map u8v ++ List.replicate (23 - 6) z8)∧Fr [b] H (setH (setH (setH (setH (setH (setH H ⟨b,6,none⟩ v0) ⟨b,5,none⟩ v1) ⟨b,4,none⟩ v2) ⟨b,3,none⟩ v3) ⟨b,2,none⟩ v4) ⟨b,1,none⟩ v5):=by
  rintro _ _ _ _ _ _ rfl rfl rfl rfl rfl rfl
  exact ⟨((((((hb.set 6 _).set 5 _).set 4 _).set 3 _).set 2 _).set 1 _),(((((Fr.set (by simp)).trans (Fr.set (by simp))).trans (Fr.set (by simp))).trans (Fr.set (by simp))).trans (Fr.set (by simp))).trans (Fr.set (by simp))⟩
 simp (disch:=omega) only [go_sem,↓cB,dB,r0,r1,r4,rd,IntWalk.u32_in,IntWalk.u32_quo,IntWalk.u8_in,IntWalk.rem_in,hs,Int.reduceSub,Int.reduceToNat,Nat.reduceAdd,Int.reduceLE,Int.reduceLT,decide_true,decide_false,w0,w1,w2,w3,w4,w5]
 refine draw0 (lk [(0,true),(1,true),(2,true),(3,false),(4,false),(5,false),(6,true),(7,true),(8,true),(9,false),(10,false),(11,true)] (.act 12 (lk [(13,true)] (.actd 14 .fin)) .non)) T.mixed ?_
 simp (disch:=omega) only [go_sem,↓cB,dB,r0,r1,r4,rd,IntWalk.u32_in,IntWalk.u32_quo,IntWalk.u8_in,IntWalk.rem_in,hs,Int.reduceSub,Int.reduceToNat,Nat.reduceAdd,Int.reduceLE,Int.reduceLT,decide_true,decide_false,w0,w1,w2,w3,w4,w5]
 refine draw0 (lk [(0,true),(1,true),(2,true),(3,false),(4,false),(5,false),(6,true),(7,true),(8,true),(9,false),(10,false),(11,true)] (.act 12 (lk [(13,true)] (.actd 14 .fin)) .non)) T.mixed ?_
 simp (disch:=omega) only [go_sem,↓cB,dB,r0,r1,r4,rd,IntWalk.u32_in,IntWalk.u32_quo,IntWalk.u8_in,IntWalk.rem_in,hs,Int.reduceSub,Int.reduceToNat,Nat.reduceAdd,Int.reduceLE,Int.reduceLT,decide_true,decide_false,w0,w1,w2,w3,w4,w5]
 refine draw0 (lk [(0,true),(1,true),(2,true),(3,false),(4,false),(5,false),(6,true),(7,true),(8,true),(9,false),(10,false),(11,true)] (.act 12 (lk [(13,true)] (.actd 14 .fin)) .non)) T.mixed ?_
 simp (disch:=omega) only [go_sem,↓cB,dB,r0,r1,r4,rd,IntWalk.u32_in,IntWalk.u32_quo,IntWalk.u8_in,IntWalk.rem_in,hs,Int.reduceSub,Int.reduceToNat,Nat.reduceAdd,Int.reduceLE,Int.reduceLT,decide_true,decide_false,w0,w1,w2,w3,w4,w5]
 exact fin (e _ _ _ _ _ _ (by first | exact v_lo (k:=m % 100) (by omega) (by omega) (by omega)) (by first | exact v_hi (k:=m % 100) (by omega) (by omega) (by omega)) (by first | exact v_lo (k:=m / 100 % 100) (by omega) (by omega) (by omega)) (by first | exact v_hi (k:=m / 100 % 100) (by omega) (by omega) (by omega)) (by first | exact v_lo (k:=m / 10000 % 100) (by omega) (by omega) (by omega)) (by first | exact v_hi (k:=m / 10000 % 100) (by omega) (by omega) (by omega)))
end
end Go.Proofs.YtcffdpmmadipeaaGreatDoor
namespace Go.Proofs.YtcffdpmmadipeaaGreatDoor
open Go.HL
set_option maxRecDepth 10000
section
variable {H H':Heap}
theorem GT.grow (g:GT H) (hf:Fr [] H H'):GT H' :=
 ⟨fun i hi=>hf.cell' (g.lv i hi) (by simp),fun i hi=>hf.cell' (g.sg i hi) (by simp),fun i hi=>hf.cell' (g.pw i hi) (by simp)⟩
theorem nDig_len {m:Nat} (h:m≤999999):(digF 7 m).length=nDig m:=by
 rw [digF_c h]
 unfold nDig
 (repeat' split) <;> rfl
theorem sl_a {b d:Nat} (h:d≤22):sliceV Tryz.prog 115 (.pointer (some ⟨b,0,none⟩)) (some (iv 1)) (some (iv ((1 + d:Nat):Int))) none=some (.slice (some ⟨b,1,none⟩) d 23):=by
 have e:arrS Tryz.prog 115=some (24,1):=by kernel_rfl
 simp only [sliceV,e,Option.bind_some,boundsV,chk]
 rw [if_pos (by omega),Option.bind_some,if_pos (by omega)]
 simp only [Option.map_some]
 have e1:((1 + d:Nat):Int).toNat - (1:Int).toNat=d:=by omega
 rw [e1]
 rfl
theorem sl_b {b d:Nat} (h:d≤22):sliceV Tryz.prog 115 (.pointer (some ⟨b,0,none⟩)) none (some (iv ((1 + d:Nat):Int))) none=some (.slice (some ⟨b,0,none⟩) (1 + d) 24):=by
 have e:arrS Tryz.prog 115=some (24,1):=by kernel_rfl
 simp only [sliceV,e,Option.bind_some,boundsV,chk]
 rw [if_pos (by omega),Option.bind_some]
 simp only [Option.map_some]
 have e1:((1 + d:Nat):Int).toNat - 0=1 + d:=by omega
 rw [e1]
 rfl
theorem isFormatInt_spec (g:GT H) {n:Int} (hn:-999999≤n∧n≤999999):CallF Tryz.prog 77 [iv n,iv 10] H (fun r H'=>Fr [] H H'∧r=sv (digI n)) NoP:=by
 by_cases h0:0≤n
 ·obtain ⟨m,rfl⟩:∃ m:Nat,n=m:=⟨n.toNat,by omega⟩
  have e0:digI (m:Int)=digF 7 m:=by unfold digI; rw [if_neg (by omega)]; rfl
  rw [e0]
  by_cases h1:m < 100
  ·refine callF_of Tryz.func77 rfl Tryz.ntmps77 Tryz.results77 (by decide) rfl ?_
   simp (disch:=omega) only [go_sem,↓cB,dB]
   refine call_to (isSmall_spec h1) ?_
   rintro _ _ ⟨rfl,rfl⟩
   simp (disch:=omega) only [go_sem,↓cB,dB]
   exact fin ⟨Fr.refl _ _,rfl⟩
  ·obtain ⟨G,hG⟩:∃ G,G=H.push (.cells #[.int .u8 0,.int .u8 0,.int .u8 0,.int .u8 0,.int .u8 0,.int .u8 0,.int .u8 0,.int .u8 0,.int .u8 0,.int .u8 0,.int .u8 0,.int .u8 0,.int .u8 0,.int .u8 0,.int .u8 0,.int .u8 0,.int .u8 0,.int .u8 0,.int .u8 0,.int .u8 0,.int .u8 0,.int .u8 0,.int .u8 0,.int .u8 0] 115):=⟨_,rfl⟩
   have f1:Fr [] H G:=by rw [hG]; exact Fr.push
   have hb:Blk G H.size 115 (z8 :: List.replicate 23 z8):=by rw [hG]; exact Blk.new rfl
   have hd:=nDig_len (m:=m) (by omega)
   have hd6:1≤nDig m∧nDig m≤6:=by unfold nDig; (repeat' split) <;> omega
   have ed:(1:Int) + nDig m=((1 + nDig m:Nat):Int):=by omega
   have es:1 + nDig m - 1=nDig m:=by omega
   refine callF_of Tryz.func77 rfl Tryz.ntmps77 Tryz.results77 (by decide) rfl ?_
   simp (disch:=omega) only [go_sem,↓cB,dB,IntWalk.u64_in]
   rw [← hG]
   refine call_to (isNumDigits_spec (g.grow f1) (by omega) (by omega)) ?_
   rintro _ _ ⟨rfl,rfl⟩
   have sa:=sl_a (b:=H.size) (d:=nDig m) (by omega)
   simp (disch:=omega) only [go_sem,↓cB,dB,ed,es,sa]
   refine call_to (isBase10_spec (m:=m) (by omega) (by omega) hb) ?_
   intro v H2 hv
   refine Hush.out ?_
   obtain ⟨g1,g2⟩:=hv
   have cb:=conv_bytes (P:=Tryz.prog) (s:=45) (d:=9) (e:=5) (c:=23) rfl rfl rfl g1
   rw [hd] at cb
   refine ⟨?_⟩
   have cb':convV Tryz.prog (full H2) 45 9 (.slice (some ⟨H.size,1,none⟩) (nDig m) 23)=some (sv (digF 7 m)):=cb
   simp (disch:=omega) only [go_sem,↓cB,dB,ed,es,sa,cb']
   exact fin ⟨fr_new f1 g2 (by simp),rfl⟩
 ·obtain ⟨m,rfl⟩:∃ m:Nat,n = -(m:Int):=⟨(-n).toNat,by omega⟩
  have e0:digI (-(m:Int))=45 :: digF 7 m:=by
   unfold digI
   rw [if_pos (by omega)]
   congr 2
   omega
  rw [e0]
  obtain ⟨G,hG⟩:∃ G,G=H.push (.cells #[.int .u8 0,.int .u8 0,.int .u8 0,.int .u8 0,.int .u8 0,.int .u8 0,.int .u8 0,.int .u8 0,.int .u8 0,.int .u8 0,.int .u8 0,.int .u8 0,.int .u8 0,.int .u8 0,.int .u8 0,.int .u8 0,.int .u8 0,.int .u8 0,.int .u8 0,.int .u8 0,.int .u8 0,.int .u8 0,.int .u8 0,.int .u8 0] 115):=⟨_,rfl⟩
  have f1:Fr [] H G:=by rw [hG]; exact Fr.push
  have hb:Blk G H.size 115 (z8 :: List.replicate 23 z8):=by rw [hG]; exact Blk.new rfl
  have hd:=nDig_len (m:=m) (by omega)
  have hd6:1≤nDig m∧nDig m≤6:=by unfold nDig; (repeat' split) <;> omega
  have ed:(1:Int) + nDig m=((1 + nDig m:Nat):Int):=by omega
  have es:1 + nDig m - 1=nDig m:=by omega
  have ew:IntKind.u64.wrap (-(IntKind.u64.wrap (-(m:Int))))=m:=by
   unfold IntKind.wrap IntKind.bits IntKind.signed
   simp
   omega
  refine callF_of Tryz.func77 rfl Tryz.ntmps77 Tryz.results77 (by decide) rfl ?_
  simp (disch:=omega) only [go_sem,↓cB,dB,ew]
  rw [← hG]
  refine call_to (isNumDigits_spec (g.grow f1) (by omega) (by omega)) ?_
  rintro _ _ ⟨rfl,rfl⟩
  have sa:=sl_a (b:=H.size) (d:=nDig m) (by omega)
  have sb:=sl_b (b:=H.size) (d:=nDig m) (by omega)
  simp (disch:=omega) only [go_sem,↓cB,dB,ed,es,sa]
  refine call_to (isBase10_spec (m:=m) (by omega) (by omega) hb) ?_
  intro v H2 hv
  refine Hush.out ?_
  obtain ⟨g1,g2⟩:=hv
  have w0:=g1.wr (i:=0) (by simp) (.int .u8 45)
  have g3:=g1.set 0 (.int .u8 45)
  have g4:Blk (setH H2 ⟨H.size,0,none⟩ (.int .u8 45)) H.size 115 ([] ++ (45 :: digF 7 m).map u8v ++ List.replicate (23 - nDig m) z8):=g3
  have cb:=conv_bytes (P:=Tryz.prog) (s:=45) (d:=9) (e:=5) (c:=24) rfl rfl rfl g4
  rw [List.length_cons,hd] at cb
  have e1:nDig m + 1=1 + nDig m:=by omega
  rw [e1] at cb
  refine ⟨?_⟩
  have cb':convV Tryz.prog (full (setH H2 ⟨H.size,0,none⟩ (.int .u8 45))) 45 9 (.slice (some ⟨H.size,0,none⟩) (1 + nDig m) 24)=some (sv (45 :: digF 7 m)):=cb
  simp (disch:=omega) only [go_sem,↓cB,dB,ed,es,w0,sb,cb']
  exact fin ⟨fr_new f1 (g2.trans (Fr.set (by simp))) (by simp),rfl⟩
theorem isItoa_spec (g:GT H) {n:Int} (hn:-999999≤n∧n≤999999):CallF Tryz.prog 59 [iv n] H (fun r H'=>Fr [] H H'∧r=sv (digI n)) NoP:=by
 refine callF_of Tryz.func59 rfl Tryz.ntmps59 Tryz.results59 (by decide) rfl ?_
 simp (disch:=omega) only [go_sem,↓cB,dB]
 refine call_to (isFormatInt_spec g hn) ?_
 rintro _ H1 ⟨f1,rfl⟩
 simp (disch:=omega) only [go_sem,↓cB,dB]
 exact fin ⟨f1,rfl⟩
theorem scItoa_spec (g:GT H) {n:Int} (hn:-999999≤n∧n≤999999):CallF Tryz.prog 36 [iv n] H (fun r H'=>Fr [] H H'∧r=sv (digI n)) NoP:=by
 refine callF_of Tryz.func36 rfl Tryz.ntmps36 Tryz.results36 (by decide) rfl ?_
 simp (disch:=omega) only [go_sem,↓cB,dB]
 refine call_to (isItoa_spec g hn) ?_
 rintro _ H1 ⟨f1,rfl⟩
 simp (disch:=omega) only [go_sem,↓cB,dB]
 exact fin ⟨f1,rfl⟩
end
end Go.Proofs.YtcffdpmmadipeaaGreatDoor
namespace Go.Proofs.YtcffdpmmadipeaaGreatDoor
open Go.HL
set_option maxRecDepth 10000
theorem held_of {H:Heap}:∀ {hl:List (Addr × Value)},(∀ x ∈ hl,cellH H x.1=some x.2)→heldOK hl H:=by
 intro hl h a v hv
 induction hl with
 | nil=>simp [lookA] at hv
 | cons x l ih =>
  unfold lookA at hv
  split at hv
  ·rename_i e; cases hv; rw [← e]; exact h x (by simp)
  ·exact ih (fun y hy=>h y (by simp [hy])) hv
theorem held_fr {H H':Heap} {hl:List (Addr × Value)} (h:∀ x ∈ hl,cellH H x.1=some x.2) (hf:Fr [] H H'):∀ x ∈ hl,cellH H' x.1=some x.2:=fun x hx=>hf.cell' (h x hx) (by simp)
structure NX (H:Heap) (N:Nat) (n:Nd) (ks:List Int) (xw xn xk:Option Addr):Prop where
 w:∀ (i:Nat) x,n.words[i]?=some x→∃ b o,xw=some ⟨b,o,none⟩∧b < N∧cellH H ⟨b,o + i,none⟩=some (sv x)
 u:∀ (i:Nat) x,n.nums[i]?=some x→∃ b o,xn=some ⟨b,o,none⟩∧b < N∧cellH H ⟨b,o + i,none⟩=some (iv x)
 k:∀ (i:Nat) x,ks[i]?=some x→∃ b o,xk=some ⟨b,o,none⟩∧b < N∧cellH H ⟨b,o + i,none⟩=some (iv x)
section
variable {H H':Heap} {p N a:Nat} {tv:Value} {l:List Nd} {n:Nd} {k r:Fo} {ks:List Int} {xw xn xk:Option Addr}
theorem NX.keep (h:NX H N n ks xw xn xk) (hk:∀ b,b < N→H'[b]?=H[b]?):NX H' N n ks xw xn xk:=by
 have key:∀ {b o:Nat} {v:Value},b < N→cellH H ⟨b,o,none⟩=some v→cellH H' ⟨b,o,none⟩=some v:=by
  intro b o v hb hc
  unfold cellH at hc ⊢
  simp only at hc ⊢
  rw [hk b hb]; exact hc
 refine ⟨fun i x hx=>?_,fun i x hx=>?_,fun i x hx=>?_⟩
 ·obtain ⟨b,o,e,hb,hc⟩:=h.w i x hx; exact ⟨b,o,e,hb,key hb hc⟩
 ·obtain ⟨b,o,e,hb,hc⟩:=h.u i x hx; exact ⟨b,o,e,hb,key hb hc⟩
 ·obtain ⟨b,o,e,hb,hc⟩:=h.k i x hx; exact ⟨b,o,e,hb,key hb hc⟩
theorem node_at (h:NL H (· < N) tv l) (hl:Lies l a (.cons n k r)) (hn:n.kids = []):∃ b o cap xw cw xn cn xk ck,tv=.slice (some ⟨b,o,none⟩) l.length cap ∧
  cellsH (cellH H) ⟨b,o + a * 5,none⟩ 0 5=some [iv n.kind,.slice xw n.words.length cw,.slice xn n.nums.length cn,.slice xk k.len ck,iv n.pos]∧cellH H ⟨b,o + a * 5,none⟩=some (iv n.kind)∧cellH H ⟨b,o + a * 5 + 3,none⟩=some (.slice xk k.len ck)∧NX H N n (k.roots (a + 1)) xw xn xk∧k.len≤ck:=by
 obtain ⟨b,o,cap,an,e1,e2,ar,ld,k0,-,-,k3,-⟩:=h.row (hl.get hn)
 obtain ⟨nn,x1,c1,x2,c2,x3,c3,rfl⟩:=ar.open
 simp only at e2
 subst e2
 have hrl:(k.roots (a + 1)).length=k.len:=Fo.roots_len k _
 have hkc:k.len≤c3:=by have:=ar.kc x3 (k.roots (a + 1)).length c3 rfl; omega
 simp only [hrl] at ld k3
 refine ⟨b,o,cap,x1,c1,x2,c2,x3,c3,e1,ld,k0,k3,⟨fun i x hx=>?_,fun i x hx=>?_,fun i x hx=>?_⟩,hkc⟩
 ·obtain ⟨b',o',cap',q1,q2,q3⟩:=ar.w.at1 hx
  simp only [Value.slice.injEq] at q1
  exact ⟨b',o',q1.1,q2,q3⟩
 ·obtain ⟨b',o',cap',q1,q2,q3⟩:=ar.u.at1 hx
  simp only [Value.slice.injEq] at q1
  exact ⟨b',o',q1.1,q2,q3⟩
 ·obtain ⟨b',o',cap',q1,q2,q3⟩:=ar.k.at1 hx
  simp only [Value.slice.injEq] at q1
  exact ⟨b',o',q1.1,q2,q3⟩
structure EP (H:Heap) (p:Nat) (tv:Value) (l:List Nd):Prop where
 tc:cellH H ⟨p,0,none⟩=some tv
 nl:NL H (· < p) tv l
 gt:GT H
theorem EP.grow (x:EP H p tv l) (hf:Fr [] H H'):EP H' p tv l:=⟨hf.cell' x.tc (by simp),x.nl.grow hf,x.gt.grow hf⟩
theorem EP.lt (x:EP H p tv l):p < H.size:=cell_lt x.tc
def EXs (l:List Nd) (p:Nat) (tv:Value) (n:Nd) (k:Fo):Prop:=∀ {H a},EP H p tv l→Lies l a (.cons n k .nil)→CallF Tryz.prog 20 [hp p,iv a] H (fun r H'=>Fr [] H H'∧r=sv (exN n k.vs)) NoP
theorem n0_get (h:okN n ks=true) {i:Nat} (hi:i < (bnds n.kind).length):n.nums[i]?=some (n.nums.getD i 0):=getD_some (by rw [okN_ul h]; exact hi)
theorem w0_get (h:okN n ks=true) {i:Nat} (hi:i < wcount n.kind):n.words[i]?=some (n.words.getD i []):=getD_some (by rw [okN_wl h]; exact hi)
theorem wOperand_spec (hok:okN n k.kinds=true) (hb:n.kids = []) (hko:k.ok=true) (hc:k.cnt≤10000) (ih:EXs l p tv n k) (x:EP H p tv l) (hl:Lies l a (.cons n k .nil)) {w:Nat} (hw:w≤6) :
  CallF Tryz.prog 37 [hp p,iv a,iv w] H (fun r H'=>Fr [] H H'∧r=sv (parS (decide (levN n < (w:Int))) (exN n k.vs))) NoP:=by
 have hlen:=ex_len (okN_words hok) (short_of k hko)
 refine callF_of Tryz.func37 rfl Tryz.ntmps37 Tryz.results37 (by decide) rfl ?_
 simp (disch:=omega) only [go_sem,↓cB,dB]
 refine call_to (ih x hl) ?_
 intro v H1 hv
 refine Hush.out ?_
 obtain ⟨f1,rfl⟩:=hv
 have x1:=x.grow f1
 have c0:=x1.tc
 obtain ⟨b,o,cap,xw,cw,xn,cn,xk,ck,rfl,ld,kd,-,nx,-⟩:=node_at x1.nl hl hb
 have hlt:=hl.lt
 have hcap:l.length≤9223372036854775807∨True:=.inr trivial
 obtain ⟨A1,hA1⟩:∃ A,A=H1.push (.cells #[iv n.kind,.slice xw n.words.length cw,.slice xn n.nums.length cn,.slice xk k.len ck,iv n.pos] 28):=⟨_,rfl⟩
 have g1:Fr [] H1 A1:=by rw [hA1]; exact Fr.push
 have bn:Blk A1 H1.size 28 [iv n.kind,.slice xw n.words.length cw,.slice xn n.nums.length cn,.slice xk k.len ck,iv n.pos]:=by rw [hA1]; exact Blk.new rfl
 have k0:=bn.cell 0
 have k2:=bn.cell 2
 simp only [gS,gZ] at k0 k2
 refine ⟨?_⟩
 simp (disch:=omega) only [go_sem,↓cB,dB,c0,ld]
 rw [← hA1]
 by_cases h22:n.kind=22
 ·have hn0:=okN_num hok (i:=0) (by rw [h22]; decide)
  have hg0:=n0_get hok (i:=0) (by rw [h22]; decide)
  rw [h22] at hn0
  have hr:0≤n.nums.getD 0 0∧n.nums.getD 0 0≤8:=hn0
  obtain ⟨nb,no,rfl,hnb,hnc⟩:=nx.u 0 _ hg0
  have hnc1:=g1.cell' hnc (by simp)
  have hul:n.nums.length=1:=by rw [okN_ul hok,h22]; rfl
  obtain ⟨j,hj⟩:∃ j:Nat,n.nums.getD 0 0=j:=⟨(n.nums.getD 0 0).toNat,by omega⟩
  rw [hj] at hnc1 hr
  have hlv:=(x1.grow g1).gt.lv j (by omega)
  have hlev:levN n=levS (j:Int):=by unfold levN; rw [if_pos h22,hj]
  rw [hlev]
  rw [Nat.add_zero] at hnc1
  by_cases hlw:levS (j:Int) < (w:Int)
  ·try (simp (disch:=omega) only [go_sem,↓cB,dB,k0,h22,k2,hnc1,hul,hlv,hlw,List.length_cons,List.length_nil,List.length_append])
   exact fin ⟨f1.trans g1,by rw [decide_yes hlw]; simp [parS]⟩
  ·try (simp (disch:=omega) only [go_sem,↓cB,dB,k0,h22,k2,hnc1,hul,hlv,hlw])
   exact fin ⟨f1.trans g1,by rw [decide_no hlw]; rfl⟩
 ·have hlev:levN n=9:=by unfold levN; rw [if_neg h22]
  rw [hlev]
  try (simp (disch:=omega) only [go_sem,↓cB,dB,k0,h22,k2])
  exact fin ⟨f1.trans g1,by rw [decide_no (by omega)]; rfl⟩
set_option maxHeartbeats 4000000 in
theorem wExpr_all (l:List Nd) (p:Nat) (tv:Value):∀ (c:Nat) (n:Nd) (k:Fo),k.cnt < c→k.cnt≤10000→okN n k.kinds=true→n.kids = []→k.ok=true→k.bare=true→17≤n.kind→n.kind≤22→EXs l p tv n k:=by
 intro c
 induction c with
 | zero=>intro n k h; omega
 | succ c IH =>
 intro n k hcc hc hok hb hko hkb k17 k22 H a x hl
 have hs:=short_of k hko
 have hlen:=ex_len (okN_words hok) hs
 have c0:=x.tc
 obtain ⟨b,o,cap,xw,cw,xn,cn,xk,ck,rfl,ld,kd,-,nx,hck⟩:=node_at x.nl hl hb
 have hlt:=hl.lt
 obtain ⟨A1,hA1⟩:∃ A,A=H.push (.cells #[iv n.kind,.slice xw n.words.length cw,.slice xn n.nums.length cn,.slice xk k.len ck,iv n.pos] 28):=⟨_,rfl⟩
 have g1:Fr [] H A1:=by rw [hA1]; exact Fr.push
 have bn:Blk A1 H.size 28 [iv n.kind,.slice xw n.words.length cw,.slice xn n.nums.length cn,.slice xk k.len ck,iv n.pos]:=by rw [hA1]; exact Blk.new rfl
 have x1:=x.grow g1
 have nx1:NX A1 p n (k.roots (a + 1)) xw xn xk:=nx.keep (fun b hb=>g1.same b (by have:=x.lt; omega) (by simp))
 have k0:=bn.cell 0
 have k1:=bn.cell 1
 have k2:=bn.cell 2
 have k3:=bn.cell 3
 simp only [gS,gZ] at k0 k1 k2 k3
 have hwl:=okN_wl hok
 have hul:=okN_ul hok
 have hkids:=hl.kids
 refine callF_of Tryz.func20 rfl Tryz.ntmps20 Tryz.results20 (by decide) rfl ?_
 simp (disch:=omega) only [go_sem,↓cB,dB,c0,ld]
 rw [← hA1]
 have hk:n.kind=17∨n.kind=18∨n.kind=19∨n.kind=20∨n.kind=21∨n.kind=22:=by omega
 rcases hk with e | e | e | e | e | e
 ·have hn0:=okN_num hok (i:=0) (by rw [e]; decide)
  have hg0:=n0_get hok (i:=0) (by rw [e]; decide)
  rw [e] at hn0
  have hr:0≤n.nums.getD 0 0∧n.nums.getD 0 0≤999999:=hn0
  obtain ⟨nb,no,rfl,hnb,hnc⟩:=nx1.u 0 _ hg0
  rw [Nat.add_zero] at hnc
  rw [e] at hul
  have hul1:n.nums.length=1:=hul
  try (simp (disch:=omega) only [go_sem,↓cB,dB,k0,e,k2,hnc,hul1])
  refine call_to (scItoa_spec x1.gt ⟨by omega,hr.2⟩) ?_
  rintro _ H2 ⟨f2,rfl⟩
  simp (disch:=omega) only [go_sem,↓cB,dB]
  exact fin ⟨g1.trans f2,by simp only [exN,e,Int.reduceEq,↓reduceIte]; rfl⟩
 ·have hg0:=w0_get hok (i:=0) (by rw [e]; decide)
  obtain ⟨nb,no,rfl,hnb,hnc⟩:=nx1.w 0 _ hg0
  rw [Nat.add_zero] at hnc
  rw [e] at hwl
  have hwl1:n.words.length=1:=hwl
  try (simp (disch:=omega) only [go_sem,↓cB,dB,k0,e,k1,hnc,hwl1])
  exact fin ⟨g1,by simp only [exN,e,Int.reduceEq,↓reduceIte]; rfl⟩
 ·have hg0:=w0_get hok (i:=0) (by rw [e]; decide)
  obtain ⟨nb,no,rfl,hnb,hnc⟩:=nx1.w 0 _ hg0
  rw [Nat.add_zero] at hnc
  rw [e] at hwl
  have hwl1:n.words.length=1:=hwl
  have hw12:=wOk_getD (okN_words hok) 0
  try (simp (disch:=omega) only [go_sem,↓cB,dB,k0,e,k1,hnc,hwl1,List.length_cons,List.length_nil])
  exact fin ⟨g1,by simp only [exN,e,Int.reduceEq,↓reduceIte]; rfl⟩
 ·obtain ⟨n1,q1,rfl,h17,h22⟩:=kidsE hok (by omega)
  simp only [Fo.ok,Bool.and_true,Bool.and_eq_true] at hko
  simp only [Fo.bare,Bool.and_true,Bool.and_eq_true,decide_eq_true_eq] at hkb
  simp only [Fo.cnt] at hcc hc
  obtain ⟨kb,ko,rfl,hkb2,hkc⟩:=nx1.k 0 _ rfl
  rw [Nat.add_zero] at hkc
  have hkl:(Fo.cons n1 q1 .nil).len=1:=rfl
  have hex:=ex_len (okN_words hko.1) (short_of q1 hko.2)
  have hpl:=@par_len (decide (levN n1 < ((6:Nat):Int))) (exN n1 q1.vs)
  have hx:=wOperand_spec (w:=6) hko.1 hkb.1 hko.2 (by omega) (IH n1 q1 (by omega) (by omega) hko.1 hkb.1 hko.2 hkb.2 h17 h22) x1 hkids (by omega)
  rw [hkl] at k3
  try (simp (disch:=omega) only [go_sem,↓cB,dB,k0,e,k3,hkc])
  refine call_to hx ?_
  intro v H2 hv
  refine Hush.out ?_
  obtain ⟨f2,rfl⟩:=hv
  refine ⟨?_⟩
  simp (disch:=omega) only [go_sem,↓cB,dB,List.length_cons,List.length_nil]
  exact fin ⟨g1.trans f2,by simp only [exN,e,Int.reduceEq,↓reduceIte]; rfl⟩
 ·obtain ⟨n1,q1,rfl,h17,h22⟩:=kidsE hok (by omega)
  simp only [Fo.ok,Bool.and_true,Bool.and_eq_true] at hko
  simp only [Fo.bare,Bool.and_true,Bool.and_eq_true,decide_eq_true_eq] at hkb
  simp only [Fo.cnt] at hcc hc
  obtain ⟨kb,ko,rfl,hkb2,hkc⟩:=nx1.k 0 _ rfl
  rw [Nat.add_zero] at hkc
  have hkl:(Fo.cons n1 q1 .nil).len=1:=rfl
  have hex:=ex_len (okN_words hko.1) (short_of q1 hko.2)
  have hpl:=@par_len (decide (levN n1 < ((6:Nat):Int))) (exN n1 q1.vs)
  have hx:=wOperand_spec (w:=6) hko.1 hkb.1 hko.2 (by omega) (IH n1 q1 (by omega) (by omega) hko.1 hkb.1 hko.2 hkb.2 h17 h22) x1 hkids (by omega)
  rw [hkl] at k3
  try (simp (disch:=omega) only [go_sem,↓cB,dB,k0,e,k3,hkc])
  refine call_to hx ?_
  intro v H2 hv
  refine Hush.out ?_
  obtain ⟨f2,rfl⟩:=hv
  refine ⟨?_⟩
  simp (disch:=omega) only [go_sem,↓cB,dB,List.length_cons,List.length_nil]
  exact fin ⟨g1.trans f2,by simp only [exN,e,Int.reduceEq,↓reduceIte]; rfl⟩
 ·obtain ⟨n1,q1,n2,q2,rfl,h17,h17'⟩:=kids22 hok e
  simp only [Fo.ok,Bool.and_true,Bool.and_eq_true] at hko
  simp only [Fo.bare,Bool.and_true,Bool.and_eq_true,decide_eq_true_eq] at hkb
  simp only [Fo.cnt] at hcc hc
  have hn0:=okN_num hok (i:=0) (by rw [e]; decide)
  have hg0:=n0_get hok (i:=0) (by rw [e]; decide)
  rw [e] at hn0
  have hr:0≤n.nums.getD 0 0∧n.nums.getD 0 0≤8:=hn0
  obtain ⟨nb,no,rfl,hnb,hnc⟩:=nx1.u 0 _ hg0
  rw [Nat.add_zero] at hnc
  rw [e] at hul
  have hul1:n.nums.length=1:=hul
  obtain ⟨j,hj⟩:∃ j:Nat,n.nums.getD 0 0=j:=⟨(n.nums.getD 0 0).toNat,by omega⟩
  rw [hj] at hnc hr
  have hlv:=x1.gt.lv j (by omega)
  have hsg:=x1.gt.sg j (by omega)
  obtain ⟨kb,ko,hxk,hkb2,hkc⟩:=nx1.k 0 _ rfl
  obtain ⟨kb',ko',hxk',-,hkc'⟩:=nx1.k 1 _ rfl
  rw [hxk] at hxk'
  simp only [Option.some.injEq,Addr.mk.injEq,and_true] at hxk'
  obtain ⟨rfl,rfl⟩:=hxk'
  subst hxk
  rw [Nat.add_zero] at hkc
  have hkl:(Fo.cons n1 q1 (.cons n2 q2 .nil)).len=2:=rfl
  rw [hkl] at k3
  have hex1:=ex_len (okN_words hko.1) (short_of q1 hko.2.1)
  have hex2:=ex_len (okN_words hko.2.2.1) (short_of q2 hko.2.2.2)
  have hplt:=x.lt
  have hlr:=levS_rng (j:Int)
  obtain ⟨lv,hlve⟩:∃ lv:Nat,levS (j:Int)=lv:=⟨(levS (j:Int)).toNat,by omega⟩
  rw [hlve] at hlv hlr
  have e1:(lv:Int) + 1=((lv + 1:Nat):Int):=by omega
  have hsl:=@sign_len (j:Int)
  have hne:1 ≠ kb∨j ≠ ko + 1:=by
   by_cases q:1=kb∧j=ko + 1
   ·obtain ⟨qa,qb⟩:=q
    rw [← qa,← qb] at hkc'
    rw [hkc'] at hsg
    simp at hsg
   ·omega
  have hgl:=cell_lt hsg
  have hg0l:1 < H.size:=by
   have:=cell_lt (x.gt.sg j (by omega)); exact this
  have hh:∀ y ∈ [((⟨1,j,none⟩:Addr),sv (signM (j:Int))),(⟨H.size,3,none⟩,.slice (some ⟨kb,ko,none⟩) 2 ck),(⟨kb,ko + 1,none⟩,iv ((a + 1 + 1 + q1.cnt:Nat):Int))],cellH A1 y.1=some y.2:=by
   intro y hy
   simp only [List.mem_cons,List.not_mem_nil,or_false] at hy
   rcases hy with rfl | rfl | rfl
   ·exact hsg
   ·exact k3
   ·exact hkc'
  have hl2:Lies l (a + 1 + 1 + q1.cnt) (.cons n2 q2 .nil):=hkids.rest
  have i1:EXs l p (.slice (some ⟨b,o,none⟩) l.length cap) n1 q1:=IH n1 q1 (by omega) (by omega) hko.1 hkb.1 hko.2.1 hkb.2.1 h17.1 h17.2
  have i2:EXs l p (.slice (some ⟨b,o,none⟩) l.length cap) n2 q2:=IH n2 q2 (by omega) (by omega) hko.2.2.1 hkb.2.2.1 hko.2.2.2 hkb.2.2.2 h17'.1 h17'.2
  have main:∀ (lw:Nat),lw≤6→((lw:Nat):Int)=leftM (j:Int)→CallF Tryz.prog 37 [hp p,iv ((a + 1:Nat):Int),iv lw] A1 (fun r H'=>Fr [] A1 H'∧r=sv (parS (decide (levN n1 < (lw:Int))) (exN n1 q1.vs))) NoP :=
   fun lw h _=>wOperand_spec hko.1 hkb.1 hko.2.1 (by omega) i1 x1 hkids.one h
  have fin':∀ (lw:Nat),((lw:Nat):Int)=leftM (j:Int)→sv (parS (decide (levN n1 < (lw:Int))) (exN n1 q1.vs) ++ [32] ++ signM (j:Int) ++ [32] ++ parS (decide (levN n2 < ((lv + 1:Nat):Int))) (exN n2 q2.vs))=sv (exN n (Fo.cons n1 q1 (.cons n2 q2 .nil)).vs):=by
   intro lw h
   simp only [exN,e,Int.reduceEq,↓reduceIte]
   have e3:n0' n=(j:Int):=hj
   rw [e3,← h,hlve,e1]
   rfl
  by_cases h23:j=2∨j=3
  ·have hlm:((lv + 1:Nat):Int)=leftM (j:Int):=by unfold leftM; rw [if_pos (by omega),hlve]; omega
   have hp1:=@par_len (decide (levN n1 < ((lv + 1:Nat):Int))) (exN n1 q1.vs)
   have hp2:=@par_len (decide (levN n2 < ((lv + 1:Nat):Int))) (exN n2 q2.vs)
   have w1:=main (lv + 1) (by omega) hlm
   rcases h23 with rfl | rfl
   all_goals
    try (simp (disch:=omega) only [go_sem,↓cB,dB,k0,e,k2,k3,hkc,hnc,hul1,hlv,e1])
    refine draw1 (lk [(0,true),(1,true),(2,true),(3,true),(4,true),(5,true),(8,false),(9,false),(10,false),(13,false),(14,false),(15,false),(16,false),(17,false),(18,false)] (.act 6 (lk [(7,false),(11,false),(12,false)] (.act 19 (lk [(20,true),(21,true)] .fin) .non)) .non)) T.mixed _ (held_of hh) ?_
    simp (disch:=omega) only [go_sem,↓cB,dB,k3,hkc,id_eq]
    refine call_to w1 ?_
    intro v H2 hv
    refine Hush.out ?_
    obtain ⟨f2,rfl⟩:=hv
    have hh2:=held_fr hh f2
    have hx2:=wOperand_spec (w:=lv + 1) hko.2.2.1 hkb.2.2.1 hko.2.2.2 (by omega) i2 (x1.grow f2) hl2 (by omega)
    refine ⟨?_⟩
    refine held_by (held_of hh2) ?_
    simp (disch:=omega) only [go_sem,↓cB,dB,List.length_cons,List.length_nil,List.length_append,id_eq,e1]
    refine call_to hx2 ?_
    intro v H3 hv
    refine Hush.out ?_
    obtain ⟨f3,rfl⟩:=hv
    have hh3:=held_fr hh2 f3
    refine ⟨?_⟩
    refine held_by (held_of hh3) ?_
    simp (disch:=omega) only [go_sem,↓cB,dB,List.length_cons,List.length_nil,List.length_append,id_eq]
    exact fin ⟨(g1.trans f2).trans f3,fin' _ hlm⟩
  ·have hlm:((lv:Nat):Int)=leftM (j:Int):=by unfold leftM; rw [if_neg (by omega),hlve]
   have hp1:=@par_len (decide (levN n1 < ((lv:Nat):Int))) (exN n1 q1.vs)
   have hp2:=@par_len (decide (levN n2 < ((lv + 1:Nat):Int))) (exN n2 q2.vs)
   have w1:=main lv (by omega) hlm
   have j2:¬ j=2:=by omega
   have j3:¬ j=3:=by omega
   have j2':¬ (j:Int)=2:=by omega
   have j3':¬ (j:Int)=3:=by omega
   try (simp (disch:=omega) only [go_sem,↓cB,dB,k0,e,k2,k3,hkc,hnc,hul1,hlv,e1,j2',j3'])
   refine draw1 (lk [(0,true),(1,true),(2,true),(3,true),(4,true),(5,true),(8,false),(9,false),(10,false),(13,false),(14,false),(15,false),(16,false),(17,false),(18,false)] (.act 6 (lk [(7,false),(11,false),(12,false)] (.act 19 (lk [(20,true),(21,true)] .fin) .non)) .non)) T.mixed _ (held_of hh) ?_
   simp (disch:=omega) only [go_sem,↓cB,dB,k3,hkc,id_eq]
   refine call_to w1 ?_
   intro v H2 hv
   refine Hush.out ?_
   obtain ⟨f2,rfl⟩:=hv
   have hh2:=held_fr hh f2
   have hx2:=wOperand_spec (w:=lv + 1) hko.2.2.1 hkb.2.2.1 hko.2.2.2 (by omega) i2 (x1.grow f2) hl2 (by omega)
   refine ⟨?_⟩
   refine held_by (held_of hh2) ?_
   simp (disch:=omega) only [go_sem,↓cB,dB,List.length_cons,List.length_nil,List.length_append,id_eq,e1]
   refine call_to hx2 ?_
   intro v H3 hv
   refine Hush.out ?_
   obtain ⟨f3,rfl⟩:=hv
   have hh3:=held_fr hh2 f3
   refine ⟨?_⟩
   refine held_by (held_of hh3) ?_
   simp (disch:=omega) only [go_sem,↓cB,dB,List.length_cons,List.length_nil,List.length_append,id_eq]
   exact fin ⟨(g1.trans f2).trans f3,fin' _ hlm⟩
end
end Go.Proofs.YtcffdpmmadipeaaGreatDoor
namespace Go.HL
def hvL (H:Heap):List Addr→List (Addr × Value)
 | []=>[]
 | a :: r=>match cellH H a with
  | some v=>(a,v) :: hvL H r
  | none=>hvL H r
theorem hv_ok {H:Heap}:∀ {L:List Addr},heldOK (hvL H L) H
 | [],a,v,h=>by simp [hvL,lookA] at h
 | b :: r,a,v,h=>by
  unfold hvL at h
  split at h
  ·rename_i w hw
   unfold lookA at h
   split at h
   ·rename_i e
    simp only at e h
    subst e
    rw [hw]; exact h
   ·exact hv_ok a v h
  ·exact hv_ok a v h
theorem hv_at {H:Heap} {a:Addr} {v:Value} (hc:cellH H a=some v):∀ {L:List Addr},a ∈ L→lookA (hvL H L) a=some v
 | [],h=>by simp at h
 | b :: r,h=>by
  unfold hvL
  by_cases e:b=a
  ·subst e
   rw [hc]
   simp [lookA]
  ·have hr:a ∈ r:=by
    rw [List.mem_cons] at h
    exact h.resolve_left (fun x=>e x.symm)
   split
   ·unfold lookA
    rw [if_neg (by simpa using e)]
    exact hv_at hc hr
   ·exact hv_at hc hr
theorem hv_fr {hl:List (Addr × Value)} {H H':Heap} (h:heldOK hl H) (f:Fr [] H H'):heldOK hl H':=fun a v e=>f.cell' (h a v e) (by simp)
end Go.HL
namespace Go.Proofs.YtcffdpmmadipeaaGreatDoor
open Go.HL
set_option maxRecDepth 10000
structure WE (H:Heap) (p:Nat) (tv:Value) (l:List Nd) (s:Str) (Z:List Nat):Prop where
 w:WB H p tv s Z
 nl:NL H (· < p) tv l
 gt:GT H
 g1:0 < p
 g2:1 < p
 g3:2 < p
section
variable {H H':Heap} {p a q:Nat} {tv:Value} {l:List Nd} {n:Nd} {k r:Fo} {ks:List Int} {xw xn xk:Option Addr} {s s':Str} {Z:List Nat}
theorem WE.ep (x:WE H p tv l s Z):EP H p tv l:=⟨x.w.tc,x.nl,x.gt⟩
theorem keep_cell (hk:∀ b,b < p→H'[b]?=H[b]?) {b o:Nat} {v:Value} (hb:b < p) (hc:cellH H ⟨b,o,none⟩=some v):cellH H' ⟨b,o,none⟩=some v:=by
 unfold cellH at hc ⊢
 simp only at hc ⊢
 rw [hk b hb]; exact hc
theorem WE.step (x:WE H p tv l s Z) (hw:WB H' p tv s' Z) (hq:WQ H p Z H'):WE H' p tv l s' Z :=
 ⟨hw,x.nl.frame (fun b hb _=>hq.low b hb),⟨fun i hi=>keep_cell hq.low x.g1 (x.gt.lv i hi),fun i hi=>keep_cell hq.low x.g2 (x.gt.sg i hi),fun i hi=>keep_cell hq.low x.g3 (x.gt.pw i hi)⟩,x.g1,x.g2,x.g3⟩
theorem WE.fr (x:WE H p tv l s Z) (hf:Fr [] H H'):WE H' p tv l s Z:=⟨x.w.fr hf,x.nl.grow hf,x.gt.grow hf,x.g1,x.g2,x.g3⟩
theorem WE.more (x:WE H p tv l s Z) (hf:Fr [] H H') (hq:H.size≤q) (hq2:q < H'.size):WE H' p tv l s (q :: Z):=⟨x.w.more hf hq hq2,x.nl.grow hf,x.gt.grow hf,x.g1,x.g2,x.g3⟩
theorem WE.le (x:WE H p tv l s Z):p≤H.size:=Nat.le_of_lt x.w.lt
theorem WB.eq (h:WB H p tv s Z) (e:s=s'):WB H p tv s' Z:=e ▸ h
section
variable {x1 x2 x3 x4 x5 x6 x7:Str}
theorem bsS1:buildSliceV Tryz.prog H 25 1 [(0,sv x1)]=some (.slice (some ⟨H.size,0,none⟩) 1 1,H.push (.cells ([x1].map sv).toArray 9)) :=
 bsl_sound (vs:=[sv x1]) (by unfold bsl; simp only [T.elem25,T.size9]; rfl)
theorem bsS2:buildSliceV Tryz.prog H 25 2 [(0,sv x1),(1,sv x2)]=some (.slice (some ⟨H.size,0,none⟩) 2 2,H.push (.cells ([x1,x2].map sv).toArray 9)) :=
 bsl_sound (vs:=[sv x1,sv x2]) (by unfold bsl; simp only [T.elem25,T.size9]; rfl)
theorem bsS3:buildSliceV Tryz.prog H 25 3 [(0,sv x1),(1,sv x2),(2,sv x3)]=some (.slice (some ⟨H.size,0,none⟩) 3 3,H.push (.cells ([x1,x2,x3].map sv).toArray 9)) :=
 bsl_sound (vs:=[sv x1,sv x2,sv x3]) (by unfold bsl; simp only [T.elem25,T.size9]; rfl)
theorem bsS4:buildSliceV Tryz.prog H 25 4 [(0,sv x1),(1,sv x2),(2,sv x3),(3,sv x4)]=some (.slice (some ⟨H.size,0,none⟩) 4 4,H.push (.cells ([x1,x2,x3,x4].map sv).toArray 9)) :=
 bsl_sound (vs:=[sv x1,sv x2,sv x3,sv x4]) (by unfold bsl; simp only [T.elem25,T.size9]; rfl)
theorem bsS5:buildSliceV Tryz.prog H 25 5 [(0,sv x1),(1,sv x2),(2,sv x3),(3,sv x4),(4,sv x5)]=some (.slice (some ⟨H.size,0,none⟩) 5 5,H.push (.cells ([x1,x2,x3,x4,x5].map sv).toArray 9)) :=
 bsl_sound (vs:=[sv x1,sv x2,sv x3,sv x4,sv x5]) (by unfold bsl; simp only [T.elem25,T.size9]; rfl)
theorem bsS6:buildSliceV Tryz.prog H 25 6 [(0,sv x1),(1,sv x2),(2,sv x3),(3,sv x4),(4,sv x5),(5,sv x6)]=some (.slice (some ⟨H.size,0,none⟩) 6 6,H.push (.cells ([x1,x2,x3,x4,x5,x6].map sv).toArray 9)) :=
 bsl_sound (vs:=[sv x1,sv x2,sv x3,sv x4,sv x5,sv x6]) (by unfold bsl; simp only [T.elem25,T.size9]; rfl)
theorem bsS7:buildSliceV Tryz.prog H 25 7 [(0,sv x1),(1,sv x2),(2,sv x3),(3,sv x4),(4,sv x5),(5,sv x6),(6,sv x7)]=some (.slice (some ⟨H.size,0,none⟩) 7 7,H.push (.cells ([x1,x2,x3,x4,x5,x6,x7].map sv).toArray 9)) :=
 bsl_sound (vs:=[sv x1,sv x2,sv x3,sv x4,sv x5,sv x6,sv x7]) (by unfold bsl; simp only [T.elem25,T.size9]; rfl)
end
def ndV (n:Nd) (m:Nat) (xw xn xk:Option Addr) (cw cn ck:Nat):List Value:=[iv n.kind,.slice xw n.words.length cw,.slice xn n.nums.length cn,.slice xk m ck,iv n.pos]
theorem wIdle_spec {m cw cn ck:Nat} (nx:NX H p n ks xw xn xk) (hp:p≤H.size) (hn:n.nums.length=1):CallF Tryz.prog 61 [.agg (ndV n m xw xn xk cw cn ck).toArray] H (fun r H'=>Fr [] H H'∧r=sv (optS (n0' n) [105,100,108,101,32])) NoP:=by
 obtain ⟨A1,hA1⟩:∃ A,A=H.push (.cells (ndV n m xw xn xk cw cn ck).toArray 28):=⟨_,rfl⟩
 have g1:Fr [] H A1:=by rw [hA1]; exact Fr.push
 have bn:Blk A1 H.size 28 (ndV n m xw xn xk cw cn ck):=by rw [hA1]; exact Blk.new rfl
 have k2:=bn.cell 2
 simp only [ndV,gS,gZ] at k2
 have hg0:n.nums[0]?=some (n.nums.getD 0 0):=getD_some (by omega)
 obtain ⟨nb,no,rfl,hnb,hnc⟩:=nx.u 0 _ hg0
 rw [Nat.add_zero] at hnc
 have hnc1:=g1.cell' hnc (by simp)
 unfold ndV at hA1 ⊢
 refine callF_of Tryz.func61 rfl Tryz.ntmps61 Tryz.results61 (by decide) rfl ?_
 simp (disch:=omega) only [go_sem,↓cB,dB]
 rw [← hA1]
 by_cases h0:n.nums.getD 0 0=0
 ·try (simp (disch:=omega) only [go_sem,↓cB,dB,k2,hnc1,hn,h0])
  exact fin ⟨g1,by unfold optS n0'; rw [if_pos h0]⟩
 ·try (simp (disch:=omega) only [go_sem,↓cB,dB,k2,hnc1,hn,h0])
  exact fin ⟨g1,by unfold optS n0'; rw [if_neg h0]⟩
set_option maxHeartbeats 2000000 in
theorem wChannel_spec {m cw cn ck:Nat} (hok:okN n ks=true) (e:n.kind=1) (x:WE H p tv l s Z) (nx:NX H p n ks xw xn xk) (hl:s.length≤20000000) :
  CallF Tryz.prog 39 [hp p,.agg (ndV n m xw xn xk cw cn ck).toArray] H (fun _ H'=>WB H' p tv (s ++ thN n [] 0) Z∧WQ H p Z H') NoP:=by
 have hple:=x.le
 have hul:=okN_ul hok
 have hwl:=okN_wl hok
 have q0:=okN_num hok (i:=0) (by rw [e]; decide)
 have q1:=okN_num hok (i:=1) (by rw [e]; decide)
 have h0:=n0_get hok (i:=0) (by rw [e]; decide)
 have h1:=n0_get hok (i:=1) (by rw [e]; decide)
 have h2:=n0_get hok (i:=2) (by rw [e]; decide)
 have h3:=n0_get hok (i:=3) (by rw [e]; decide)
 have hw0:=w0_get hok (i:=0) (by rw [e]; decide)
 rw [e] at q0 q1 hul hwl
 have hul4:n.nums.length=4:=hul
 have hwl1:n.words.length=1:=hwl
 have r0:0≤n.nums.getD 0 0∧n.nums.getD 0 0≤999999:=q0
 have r1:0≤n.nums.getD 1 0∧n.nums.getD 1 0≤999999:=q1
 have l0:=dig_len (n.nums.getD 0 0)
 have l1:=dig_len (n.nums.getD 1 0)
 have lw:=wOk_getD (okN_words hok) 0
 obtain ⟨wb,wo,rfl,hwb,hwc⟩:=nx.w 0 _ hw0
 obtain ⟨ub,uo,hxn,hub,u0⟩:=nx.u 0 _ h0
 obtain ⟨ub1,uo1,hxn1,-,u1⟩:=nx.u 1 _ h1
 obtain ⟨ub2,uo2,hxn2,-,u2⟩:=nx.u 2 _ h2
 obtain ⟨ub3,uo3,hxn3,-,u3⟩:=nx.u 3 _ h3
 subst hxn
 simp only [Option.some.injEq,Addr.mk.injEq,and_true] at hxn1 hxn2 hxn3
 obtain ⟨rfl,rfl⟩:=hxn1
 obtain ⟨rfl,rfl⟩:=hxn2
 obtain ⟨rfl,rfl⟩:=hxn3
 rw [Nat.add_zero] at hwc u0
 obtain ⟨A1,hA1⟩:∃ A,A=H.push (.cells (ndV n m (some ⟨wb,wo,none⟩) (some ⟨ub,uo,none⟩) xk cw cn ck).toArray 28):=⟨_,rfl⟩
 have g1:Fr [] H A1:=by rw [hA1]; exact Fr.push
 have z1:A1.size=H.size + 1:=by rw [hA1]; simp
 have bn:Blk A1 H.size 28 (ndV n m (some ⟨wb,wo,none⟩) (some ⟨ub,uo,none⟩) xk cw cn ck):=by rw [hA1]; exact Blk.new rfl
 have x1:=x.more g1 (q:=H.size) (Nat.le_refl _) (by omega)
 have k1:=bn.cell 1
 have k2:=bn.cell 2
 simp only [ndV,gS,gZ] at k1 k2
 have wA:=g1.cell' hwc (by simp)
 have uA0:=g1.cell' u0 (by simp)
 have uA1:=g1.cell' u1 (by simp)
 have uA2:=g1.cell' u2 (by simp)
 have uA3:=g1.cell' u3 (by simp)
 have hv0:=hv_ok (H:=A1) (L:=[⟨H.size,1,none⟩,⟨wb,wo,none⟩,⟨H.size,2,none⟩,⟨ub,uo + 1,none⟩])
 have a1:=hv_at k1 (L:=[⟨H.size,1,none⟩,⟨wb,wo,none⟩,⟨H.size,2,none⟩,⟨ub,uo + 1,none⟩]) (by simp)
 have a2:=hv_at wA (L:=[⟨H.size,1,none⟩,⟨wb,wo,none⟩,⟨H.size,2,none⟩,⟨ub,uo + 1,none⟩]) (by simp)
 have a3:=hv_at k2 (L:=[⟨H.size,1,none⟩,⟨wb,wo,none⟩,⟨H.size,2,none⟩,⟨ub,uo + 1,none⟩]) (by simp)
 have a4:=hv_at uA1 (L:=[⟨H.size,1,none⟩,⟨wb,wo,none⟩,⟨H.size,2,none⟩,⟨ub,uo + 1,none⟩]) (by simp)
 generalize hvL A1 [⟨H.size,1,none⟩,⟨wb,wo,none⟩,⟨H.size,2,none⟩,⟨ub,uo + 1,none⟩]=hld at hv0 a1 a2 a3 a4
 unfold ndV at hA1 ⊢
 refine callF_of Tryz.func39 rfl Tryz.ntmps39 Tryz.results39 (by decide) rfl ?_
 simp (disch:=omega) only [go_sem,↓cB,dB]
 rw [← hA1]
 refine draw1 (lk [(0,false),(1,false),(2,false),(3,false),(4,false),(5,true),(6,true),(7,true),(8,true),(10,false),(11,false),(12,false),(13,false)] (.act 9 (.act 14 (.act 15 (.actd 16 .fin) .non) .non) .non)) T.mixed hld hv0 ?_
 simp (disch:=omega) only [go_sem,↓cB,dB,a1,a2,a3,a4,k1,k2,uA0,hwl1,hul4,id_eq]
 refine call_to (scItoa_spec x1.gt ⟨by omega,r0.2⟩) ?_
 intro v H2 hv
 refine Hush.out ?_
 obtain ⟨f2,rfl⟩:=hv
 have x2:=x1.fr f2
 have hv2:=hv_fr hv0 f2
 refine ⟨?_⟩
 refine held_by hv2 ?_
 simp (disch:=omega) only [go_sem,↓cB,dB,id_eq]
 refine call_to (scItoa_spec x2.gt ⟨by omega,r1.2⟩) ?_
 intro v H3 hv
 refine Hush.out ?_
 obtain ⟨f3,rfl⟩:=hv
 have x3:=x2.fr f3
 have hv3:=hv_fr hv2 f3
 refine ⟨?_⟩
 refine held_by hv3 ?_
 simp (disch:=omega) only [go_sem,↓cB,dB,id_eq,bsS6]
 refine held_by (hv_fr hv3 Fr.push) ?_
 simp (disch:=omega) only [go_sem,↓cB,dB,id_eq]
 refine call_to (put_lit (xs:=[[99,104,97,110,32],n.words.getD 0 [],[91],digI (n.nums.getD 0 0),[93,32,111,102,32],digI (n.nums.getD 1 0)]) x3.w rfl (by simp only [List.flatten_cons,List.flatten_nil,List.length_append,List.length_cons,List.length_nil] at *; omega) (by simp)) ?_
 intro v H4 hv
 refine Hush.out ?_
 obtain ⟨w4,wq4⟩:=hv
 have bn3:=(f2.trans f3).blk bn (by simp)
 have ub3:∀ {o:Nat} {v:Value},cellH A1 ⟨ub,o,none⟩=some v→cellH H3 ⟨ub,o,none⟩=some v:=fun hc=>(f2.trans f3).cell' hc (by simp)
 have x4:=x3.step w4 wq4
 have bn4:=wq4.blk bn3 (.inl (by simp))
 have ub4:∀ {o:Nat} {v:Value},cellH A1 ⟨ub,o,none⟩=some v→cellH H4 ⟨ub,o,none⟩=some v:=fun hc=>keep_cell wq4.low hub (ub3 hc)
 have kk4:=bn4.cell 2
 simp only [ndV,gS,gZ] at kk4
 have n24:=ub4 uA2
 have n34:=ub4 uA3
 refine ⟨?_⟩
 by_cases h20:n.nums.getD 2 0=0
 ·simp (disch:=omega) only [go_sem,↓cB,dB,kk4,n24,hul4,h20,id_eq,bsS1]
  by_cases h30:n.nums.getD 3 0=0
  ·simp (disch:=omega) only [go_sem,↓cB,dB,kk4,n34,hul4,h30,id_eq,bsS1]
   refine call_to (put_lit (xs:=[[59]]) x4.w rfl (by simp only [List.flatten_cons,List.flatten_nil,List.length_append,List.length_cons,List.length_nil] at *; omega) (by simp)) ?_
   intro v H5 hv
   refine Hush.out ?_
   obtain ⟨w5,wq5⟩:=hv
   have x5:=x4.step w5 wq5
   have bn5:=wq5.blk bn4 (.inl (by simp))
   have ub5:∀ {o:Nat} {v:Value},cellH A1 ⟨ub,o,none⟩=some v→cellH H5 ⟨ub,o,none⟩=some v:=fun hc=>keep_cell wq5.low hub (ub4 hc)
   have kk5:=bn5.cell 2
   simp only [ndV,gS,gZ] at kk5
   have n25:=ub5 uA2
   have n35:=ub5 uA3
   refine ⟨?_⟩
   simp (disch:=omega) only [go_sem,↓cB,dB]
   exact fin ⟨(w5.sub (fun b hb=>by simp [hb])).eq (by simp only [thN,e,Int.reduceEq,↓reduceIte,optS,w0',n0',h20,h30]; simp),(((WQ.of_fr (g1.trans (f2.trans f3)) hple).trans (wq4.sub (fun b hb=>by simp [hb]))).trans (wq5.sub (fun b hb=>by simp [hb])))⟩
  ·simp (disch:=omega) only [go_sem,↓cB,dB,kk4,n34,hul4,h30,id_eq,bsS1]
   refine call_to (put_lit (xs:=[[32,99,111,112,121,105,110,103]]) x4.w rfl (by simp only [List.flatten_cons,List.flatten_nil,List.length_append,List.length_cons,List.length_nil] at *; omega) (by simp)) ?_
   intro v H5 hv
   refine Hush.out ?_
   obtain ⟨w5,wq5⟩:=hv
   have x5:=x4.step w5 wq5
   have bn5:=wq5.blk bn4 (.inl (by simp))
   have ub5:∀ {o:Nat} {v:Value},cellH A1 ⟨ub,o,none⟩=some v→cellH H5 ⟨ub,o,none⟩=some v:=fun hc=>keep_cell wq5.low hub (ub4 hc)
   have kk5:=bn5.cell 2
   simp only [ndV,gS,gZ] at kk5
   have n25:=ub5 uA2
   have n35:=ub5 uA3
   refine ⟨?_⟩
   simp (disch:=omega) only [go_sem,↓cB,dB,bsS1]
   refine call_to (put_lit (xs:=[[59]]) x5.w rfl (by simp only [List.flatten_cons,List.flatten_nil,List.length_append,List.length_cons,List.length_nil] at *; omega) (by simp)) ?_
   intro v H6 hv
   refine Hush.out ?_
   obtain ⟨w6,wq6⟩:=hv
   have x6:=x5.step w6 wq6
   have bn6:=wq6.blk bn5 (.inl (by simp))
   have ub6:∀ {o:Nat} {v:Value},cellH A1 ⟨ub,o,none⟩=some v→cellH H6 ⟨ub,o,none⟩=some v:=fun hc=>keep_cell wq6.low hub (ub5 hc)
   have kk6:=bn6.cell 2
   simp only [ndV,gS,gZ] at kk6
   have n26:=ub6 uA2
   have n36:=ub6 uA3
   refine ⟨?_⟩
   simp (disch:=omega) only [go_sem,↓cB,dB]
   exact fin ⟨(w6.sub (fun b hb=>by simp [hb])).eq (by simp only [thN,e,Int.reduceEq,↓reduceIte,optS,w0',n0',h20,h30]; simp),((((WQ.of_fr (g1.trans (f2.trans f3)) hple).trans (wq4.sub (fun b hb=>by simp [hb]))).trans (wq5.sub (fun b hb=>by simp [hb]))).trans (wq6.sub (fun b hb=>by simp [hb])))⟩
 ·simp (disch:=omega) only [go_sem,↓cB,dB,kk4,n24,hul4,h20,id_eq,bsS1]
  refine call_to (put_lit (xs:=[[32,108,111,115,115,121]]) x4.w rfl (by simp only [List.flatten_cons,List.flatten_nil,List.length_append,List.length_cons,List.length_nil] at *; omega) (by simp)) ?_
  intro v H5 hv
  refine Hush.out ?_
  obtain ⟨w5,wq5⟩:=hv
  have x5:=x4.step w5 wq5
  have bn5:=wq5.blk bn4 (.inl (by simp))
  have ub5:∀ {o:Nat} {v:Value},cellH A1 ⟨ub,o,none⟩=some v→cellH H5 ⟨ub,o,none⟩=some v:=fun hc=>keep_cell wq5.low hub (ub4 hc)
  have kk5:=bn5.cell 2
  simp only [ndV,gS,gZ] at kk5
  have n25:=ub5 uA2
  have n35:=ub5 uA3
  refine ⟨?_⟩
  by_cases h30:n.nums.getD 3 0=0
  ·simp (disch:=omega) only [go_sem,↓cB,dB,kk5,n35,hul4,h30,id_eq,bsS1]
   refine call_to (put_lit (xs:=[[59]]) x5.w rfl (by simp only [List.flatten_cons,List.flatten_nil,List.length_append,List.length_cons,List.length_nil] at *; omega) (by simp)) ?_
   intro v H6 hv
   refine Hush.out ?_
   obtain ⟨w6,wq6⟩:=hv
   have x6:=x5.step w6 wq6
   have bn6:=wq6.blk bn5 (.inl (by simp))
   have ub6:∀ {o:Nat} {v:Value},cellH A1 ⟨ub,o,none⟩=some v→cellH H6 ⟨ub,o,none⟩=some v:=fun hc=>keep_cell wq6.low hub (ub5 hc)
   have kk6:=bn6.cell 2
   simp only [ndV,gS,gZ] at kk6
   have n26:=ub6 uA2
   have n36:=ub6 uA3
   refine ⟨?_⟩
   simp (disch:=omega) only [go_sem,↓cB,dB]
   exact fin ⟨(w6.sub (fun b hb=>by simp [hb])).eq (by simp only [thN,e,Int.reduceEq,↓reduceIte,optS,w0',n0',h20,h30]; simp),((((WQ.of_fr (g1.trans (f2.trans f3)) hple).trans (wq4.sub (fun b hb=>by simp [hb]))).trans (wq5.sub (fun b hb=>by simp [hb]))).trans (wq6.sub (fun b hb=>by simp [hb])))⟩
  ·simp (disch:=omega) only [go_sem,↓cB,dB,kk5,n35,hul4,h30,id_eq,bsS1]
   refine call_to (put_lit (xs:=[[32,99,111,112,121,105,110,103]]) x5.w rfl (by simp only [List.flatten_cons,List.flatten_nil,List.length_append,List.length_cons,List.length_nil] at *; omega) (by simp)) ?_
   intro v H6 hv
   refine Hush.out ?_
   obtain ⟨w6,wq6⟩:=hv
   have x6:=x5.step w6 wq6
   have bn6:=wq6.blk bn5 (.inl (by simp))
   have ub6:∀ {o:Nat} {v:Value},cellH A1 ⟨ub,o,none⟩=some v→cellH H6 ⟨ub,o,none⟩=some v:=fun hc=>keep_cell wq6.low hub (ub5 hc)
   have kk6:=bn6.cell 2
   simp only [ndV,gS,gZ] at kk6
   have n26:=ub6 uA2
   have n36:=ub6 uA3
   refine ⟨?_⟩
   simp (disch:=omega) only [go_sem,↓cB,dB,bsS1]
   refine call_to (put_lit (xs:=[[59]]) x6.w rfl (by simp only [List.flatten_cons,List.flatten_nil,List.length_append,List.length_cons,List.length_nil] at *; omega) (by simp)) ?_
   intro v H7 hv
   refine Hush.out ?_
   obtain ⟨w7,wq7⟩:=hv
   have x7:=x6.step w7 wq7
   have bn7:=wq7.blk bn6 (.inl (by simp))
   have ub7:∀ {o:Nat} {v:Value},cellH A1 ⟨ub,o,none⟩=some v→cellH H7 ⟨ub,o,none⟩=some v:=fun hc=>keep_cell wq7.low hub (ub6 hc)
   have kk7:=bn7.cell 2
   simp only [ndV,gS,gZ] at kk7
   have n27:=ub7 uA2
   have n37:=ub7 uA3
   refine ⟨?_⟩
   simp (disch:=omega) only [go_sem,↓cB,dB]
   exact fin ⟨(w7.sub (fun b hb=>by simp [hb])).eq (by simp only [thN,e,Int.reduceEq,↓reduceIte,optS,w0',n0',h20,h30]; simp),(((((WQ.of_fr (g1.trans (f2.trans f3)) hple).trans (wq4.sub (fun b hb=>by simp [hb]))).trans (wq5.sub (fun b hb=>by simp [hb]))).trans (wq6.sub (fun b hb=>by simp [hb]))).trans (wq7.sub (fun b hb=>by simp [hb])))⟩
end
end Go.Proofs.YtcffdpmmadipeaaGreatDoor
namespace Go.Proofs.YtcffdpmmadipeaaGreatDoor
open Go.HL
set_option maxRecDepth 10000
def Fo.All (P:Nd→Fo→Prop):Fo→Prop
 | .nil=>True
 | .cons n k r=>P n k∧r.All P
def SlL (H:Heap) (p:Nat) (Z:List Nat) (ks:List Int) (xk:Option Addr):Prop:=∀ (i:Nat) x,ks[i]?=some x→∃ b o,xk=some ⟨b,o,none⟩∧(b < p∨b ∈ Z)∧cellH H ⟨b,o + i,none⟩=some (iv x)
def LnS (l:List Nd) (p:Nat) (tv:Value) (n:Nd) (k:Fo):Prop:=∀ {H s Z a d},WE H p tv l s Z→Lies l a (.cons n k .nil)→d + k.dep + 1≤50→s.length + (inS d ++ thN n k.vs d ++ [10]).length≤900000 →
 CallF Tryz.prog 21 [hp p,iv ((d:Nat):Int),iv ((a:Nat):Int)] H (fun _ H'=>WB H' p tv (s ++ (inS d ++ thN n k.vs d ++ [10])) Z∧WQ H p Z H') NoP
def BdS (l:List Nd) (p:Nat) (tv:Value) (k:Fo):Prop:=∀ {H s Z a d xk ck},WE H p tv l s Z→Lies l a k→SlL H p Z (k.roots a) xk→d + k.dep + 1≤50→s.length + (braS k.vs d).length≤900000 →
 CallF Tryz.prog 41 [hp p,iv ((d:Nat):Int),.slice xk k.len ck] H (fun _ H'=>WB H' p tv (s ++ braS k.vs d) Z∧WQ H p Z H') NoP
section
variable {H H':Heap} {p a q d:Nat} {tv:Value} {l:List Nd} {n:Nd} {k r:Fo} {ks:List Int} {xw xn xk:Option Addr} {s s' w:Str} {Z:List Nat}
theorem SlL.step (h:SlL H p Z ks xk) (hq:WQ H p Z H') (hz:∀ b ∈ Z,b < H.size):SlL H' p Z ks xk:=by
 intro i x hx
 obtain ⟨b,o,e,hb,hc⟩:=h i x hx
 refine ⟨b,o,e,hb,?_⟩
 unfold cellH at hc ⊢
 simp only at hc ⊢
 rcases hb with hb | hb
 ·rw [hq.low b hb]; exact hc
 ·rw [hq.zs b hb (hz b hb)]; exact hc
theorem SlL.of_nx (h:NX H p n ks xw xn xk):SlL H p Z ks xk:=fun i x hx=>by
 obtain ⟨b,o,e,hb,hc⟩:=h.k i x hx
 exact ⟨b,o,e,.inl hb,hc⟩
theorem drop_hd {α:Type} {L:List α} {i:Nat} {x:α} {r:List α} (h:x :: r=L.drop i):L[i]?=some x∧r=L.drop (i + 1):=by
 constructor
 ·have:=congrArg (fun m=>m[0]?) h
  simp only [gZ,List.getElem?_drop,Nat.add_zero] at this
  exact this.symm
 ·have:=congrArg List.tail h
  simpa using this
set_option maxHeartbeats 1000000 in
theorem wBody_spec (hall:k.All (LnS l p tv)) (hc:k.cnt≤10000):BdS l p tv k:=by
 intro H s Z a d xk ck x hl sl hd hX
 have hlc:=Nat.le_trans (Fo.len_cnt k) hc
 cases k with
 | nil =>
  rw [show Fo.nil.len=0 from rfl]
  refine callF_of Tryz.func41 rfl Tryz.ntmps41 Tryz.results41 (by decide) rfl ?_
  simp (disch:=omega) only [go_sem,↓cB,dB,bsS1]
  refine call_to (put_lit (xs:=[[123,32,125]]) x.w rfl (by simp [Fo.vs,braS] at hX ⊢; omega) (by simp)) ?_
  intro v H2 hv
  refine Hush.out ?_
  obtain ⟨w2,wq2⟩:=hv
  refine ⟨?_⟩
  simp (disch:=omega) only [go_sem,↓cB,dB]
  exact fin ⟨w2.eq (by simp [Fo.vs,braS]),wq2⟩
 | cons n0 k0 r0 =>
  have hbra:braS (Fo.cons n0 k0 r0).vs d = [123,10] ++ linesS (d + 1) (Fo.cons n0 k0 r0).vs ++ inS d ++ [125]:=rfl
  have hpos:0 < (Fo.cons n0 k0 r0).len:=by simp [Fo.len]
  generalize Fo.cons n0 k0 r0=k at *
  rw [hbra] at hX
  rw [hbra]
  have hX1:=hX
  simp only [List.length_append,in_len,List.length_cons,List.length_nil] at hX
  refine callF_of Tryz.func41 rfl Tryz.ntmps41 Tryz.results41 (by decide) rfl ?_
  simp (disch:=omega) only [go_sem,↓cB,dB,bsS1]
  refine call_to (put_lit (xs:=[[123,10]]) x.w rfl (by simp; omega) (by simp)) ?_
  intro v H2 hv
  refine Hush.out ?_
  obtain ⟨w2,wq2⟩:=hv
  refine ⟨?_⟩
  have x2:=x.step w2 wq2
  simp (disch:=omega) only [go_sem,↓cB,dB]
  refine loop_by (fun kk ρ H3=>∃ (i:Nat) (f:Fo) (a':Nat) (t:Str),kk=f.len∧i + f.len=k.len∧Lies l a' f∧f.roots a'=(k.roots a).drop i∧f.All (LnS l p tv)∧f.dep≤k.dep∧t ++ linesS (d + 1) f.vs = [123,10] ++ linesS (d + 1) k.vs∧WE H3 p tv l (s ++ t) Z∧WQ H p Z H3 ∧
   (ρ.get 0=hp p∧ρ.get 1=iv d∧ρ.get 17=.slice xk k.len ck∧ρ.get 18=iv k.len∧ρ.get 19=iv i∧ρ.ds = [])) (k:=k.len) ?_ ?_
  ·exact ⟨0,k,a,[123,10],rfl,by omega,hl,rfl,hall,Nat.le_refl _,rfl,by simpa using x2,wq2,by simp (disch:=omega) only [go_sem,↓cB,dB]⟩
  ·rintro kk ρ H3 ⟨i,f,a',t,rfl,hi,hl3,hr3,ha3,hd3,ht3,x3,wq3,r0,r1,r17,r18,r19,rd⟩
   have hxi:(i:Int) + 1=((i + 1:Nat):Int):=by omega
   have hxd:(d:Int) + 1=((d + 1:Nat):Int):=by omega
   have htl:=congrArg List.length ht3
   simp only [List.length_append,List.length_cons,List.length_nil] at htl
   cases f with
   | nil =>
    have:i=k.len:=by simpa [Fo.len] using hi
    subst this
    simp only [Fo.vs,linesS,List.append_nil] at ht3
    simp (disch:=omega) only [go_sem,↓cB,dB,r0,r1,r17,r18,r19,rd]
    refine call_to (wIndent_spec x3.w (d:=d) (by omega) (by simp only [List.length_append]; omega)) ?_
    intro v H4 hv
    refine Hush.out ?_
    obtain ⟨w4,wq4⟩:=hv
    refine ⟨?_⟩
    have x4:=x3.step w4 wq4
    simp (disch:=omega) only [go_sem,↓cB,dB,r0,r1,bsS1]
    refine call_to (put_lit (xs:=[[125]]) x4.w rfl (by simp [in_len]; omega) (by simp)) ?_
    intro v H5 hv
    refine Hush.out ?_
    obtain ⟨w5,wq5⟩:=hv
    refine ⟨?_⟩
    simp (disch:=omega) only [go_sem,↓cB,dB]
    exact fin ⟨w5.eq (by rw [ht3]; simp),(wq3.trans wq4).trans wq5⟩
   | cons n1 k1 r1' =>
    simp only [Fo.len] at hi
    simp only [Fo.roots] at hr3
    obtain ⟨hg,hr4⟩:=drop_hd hr3
    obtain ⟨b,o,rfl,hb,hc⟩:=(sl.step wq3 x.w.zlt) i _ hg
    simp only [Fo.vs,linesS,stepV] at ht3
    simp only [Fo.vs,linesS,stepV,List.length_append,List.length_cons,List.length_nil] at htl
    simp only [Fo.dep] at hd3
    simp (disch:=omega) only [go_sem,↓cB,dB,r0,r1,r17,r18,r19,rd,hc,hxd]
    refine call_to (ha3.1 x3 hl3.one (by omega) (by simp only [List.length_append,List.length_cons,List.length_nil]; omega)) ?_
    intro v H4 hv
    refine Hush.out ?_
    obtain ⟨w4,wq4⟩:=hv
    refine ⟨?_⟩
    simp (disch:=omega) only [go_sem,↓cB,dB,r0,r1,r17,r18,r19,rd]
    exact fin ⟨r1'.len,by simp only [Fo.len]; omega,i + 1,r1',a' + 1 + k1.cnt,t ++ (inS (d + 1) ++ thN n1 k1.vs (d + 1) ++ [10]),rfl,by omega,hl3.rest,hr4,ha3.2,by omega,by rw [← ht3]; simp,by have:=x3.step w4 wq4; simpa using this,wq3.trans wq4,by simp (disch:=omega) only [go_sem,↓cB,dB,r0,r1,r17,r18,r19,rd,hxi]⟩
set_option maxHeartbeats 1000000 in
theorem wBlocks_spec {ck:Nat} (hcc:r.cnt≤10000) (hall:r.All (fun _ q=>BdS l p tv q)) (hbr:r.bare=true) (x:WE H p tv l s Z) (hl:Lies l a r) (sl:SlL H p Z (r.roots a) xk) (hd:d + r.dep≤50) (hX:s.length + (joinS w d r.vs).length≤900000) :
  CallF Tryz.prog 62 [hp p,iv d,sv w,.slice xk r.len ck] H (fun _ H'=>WB H' p tv (s ++ joinS w d r.vs) Z∧WQ H p Z H') NoP:=by
 have hlc:=Nat.le_trans (Fo.len_cnt r) hcc
 obtain ⟨J,hJ⟩:∃ J,J=joinS w d r.vs:=⟨_,rfl⟩
 rw [← hJ] at hX ⊢
 refine callF_of Tryz.func62 rfl Tryz.ntmps62 Tryz.results62 (by decide) rfl ?_
 simp (disch:=omega) only [go_sem,↓cB,dB]
 refine loop_by (fun kk ρ H3=>∃ (i:Nat) (f:Fo) (a':Nat) (t:Str),kk=f.len∧i + f.len=r.len∧Lies l a' f∧f.roots a'=(r.roots a).drop i∧f.All (fun _ q=>BdS l p tv q)∧f.bare=true∧f.dep≤r.dep∧t ++ (if i=0 then joinS w d f.vs else restS w d f.vs)=J∧WE H3 p tv l (s ++ t) Z∧WQ H p Z H3 ∧
  (ρ.get 0=hp p∧ρ.get 1=iv d∧ρ.get 2=sv w∧ρ.get 10=.slice xk r.len ck∧ρ.get 11=iv r.len∧ρ.get 12=iv i∧ρ.ds = [])) (k:=r.len) ?_ ?_
 ·exact ⟨0,r,a,[],rfl,by omega,hl,rfl,hall,hbr,Nat.le_refl _,by rw [if_pos rfl]; exact hJ.symm,by simpa using x,WQ.refl,by simp (disch:=omega) only [go_sem,↓cB,dB]⟩
 ·rintro kk ρ H3 ⟨i,f,a',t,rfl,hi,hl3,hr3,ha3,hb3,hd3,ht3,x3,wq3,r0,r1,r2,r10,r11,r12,rd⟩
  have hxi:(i:Int) + 1=((i + 1:Nat):Int):=by omega
  have htl:=congrArg List.length ht3
  cases f with
  | nil =>
   have:i=r.len:=by simpa [Fo.len] using hi
   subst this
   have ht4:t=J:=by
    rw [← ht3]
    split <;> simp [Fo.vs,joinS,restS]
   simp (disch:=omega) only [go_sem,↓cB,dB,r0,r1,r10,r11,r12,rd]
   exact fin ⟨x3.w.eq (by rw [ht4]),wq3⟩
  | cons n1 k1 r1' =>
   simp only [Fo.len] at hi
   simp only [Fo.roots] at hr3
   obtain ⟨hg,hr4⟩:=drop_hd hr3
   obtain ⟨b,o,rfl,hb,hc⟩:=(sl.step wq3 x.w.zlt) i _ hg
   simp only [Fo.dep] at hd3
   simp only [Fo.bare,Bool.and_eq_true,decide_eq_true_eq] at hb3
   simp only [Fo.vs,joinS,restS,stepV] at ht3 htl
   by_cases h0:i=0
   ·subst h0
    rw [Nat.add_zero] at hc
    simp only [if_true,List.length_append] at ht3 htl
    obtain ⟨tb,to,cap,xw,cw,xn,cn,xk',ck',htv,-,-,k3,nx,hck⟩:=node_at x3.nl hl3.one hb3.1
    have tc:=x3.w.tc
    have hlt:=hl3.lt
    subst htv
    simp (disch:=omega) only [go_sem,↓cB,dB,r0,r1,r2,r10,r11,r12,rd,hc,tc,k3]
    refine call_to (ha3.1 x3 hl3.kids (SlL.of_nx nx) (by omega) (by simp only [List.length_append]; omega)) ?_
    intro v H4 hv
    refine Hush.out ?_
    obtain ⟨w4,wq4⟩:=hv
    refine ⟨?_⟩
    simp (disch:=omega) only [go_sem,↓cB,dB,r0,r1,r2,r10,r11,r12,rd]
    exact fin ⟨r1'.len,by simp only [Fo.len]; omega,1,r1',a' + 1 + k1.cnt,t ++ braS k1.vs d,rfl,by omega,hl3.rest,hr4,ha3.2,hb3.2.2,by omega,by rw [← ht3]; simp,by have:=x3.step w4 wq4; simpa using this,wq3.trans wq4,by (simp (disch:=omega) only [go_sem,↓cB,dB,r0,r1,r2,r10,r11,r12,rd]); rfl⟩
   ·rw [if_neg h0] at ht3 htl
    simp only [List.length_append] at htl
    simp (disch:=omega) only [go_sem,↓cB,dB,r0,r1,r2,r10,r11,r12,rd,hc,bsS1]
    refine call_to (put_lit (xs:=[w]) x3.w rfl (by simp; omega) (by simp)) ?_
    intro v H4 hv
    refine Hush.out ?_
    obtain ⟨w4,wq4⟩:=hv
    refine ⟨?_⟩
    have x4:=x3.step w4 wq4
    obtain ⟨tb,to,cap,xw,cw,xn,cn,xk',ck',htv,-,-,k3,nx,hck⟩:=node_at x4.nl hl3.one hb3.1
    have tc:=x4.w.tc
    have hlt:=hl3.lt
    subst htv
    simp (disch:=omega) only [go_sem,↓cB,dB,r0,r1,r2,r10,r11,r12,rd,tc,k3]
    refine call_to (ha3.1 x4 hl3.kids (SlL.of_nx nx) (by omega) (by simp only [List.length_append,List.flatten_cons,List.flatten_nil,List.length_nil]; omega)) ?_
    intro v H5 hv
    refine Hush.out ?_
    obtain ⟨w5,wq5⟩:=hv
    refine ⟨?_⟩
    simp (disch:=omega) only [go_sem,↓cB,dB,r0,r1,r2,r10,r11,r12,rd]
    exact fin ⟨r1'.len,by simp only [Fo.len]; omega,i + 1,r1',a' + 1 + k1.cnt,t ++ w ++ braS k1.vs d,rfl,by omega,hl3.rest,hr4,ha3.2,hb3.2.2,by omega,by rw [← ht3]; simp,by have:=x4.step w5 wq5; simpa using this,(wq3.trans wq4).trans wq5,by simp (disch:=omega) only [go_sem,↓cB,dB,r0,r1,r2,r10,r11,r12,rd,hxi]⟩
end
end Go.Proofs.YtcffdpmmadipeaaGreatDoor
namespace Go.Proofs.YtcffdpmmadipeaaGreatDoor
open Go.HL
set_option maxRecDepth 10000
section
variable {H H':Heap} {p a q d:Nat} {tv:Value} {l:List Nd} {n:Nd} {k:Fo} {ks:List Int} {xw xn xk:Option Addr} {s s':Str} {Z:List Nat}
theorem all16 {P:Fo→Prop}:∀ {r:Fo},r.All (fun m q=>m.kind=16→P q)→(∀ x ∈ r.kinds,x=16)→r.All (fun _ q=>P q)
 | .nil,_,_=>trivial
 | .cons m q r,h,hk=>⟨h.1 (hk _ (by simp [Fo.kinds])),all16 h.2 (fun x hx=>hk x (by simp [Fo.kinds,hx]))⟩
set_option maxHeartbeats 4000000 in
theorem wStatement_spec {cw cn ck:Nat} (hok:okN n k.kinds=true) (hko:k.ok=true) (hkb:k.bare=true) (hc:k.cnt≤10000) (h6:6≤n.kind) (h15:n.kind≤15) (ib:k.All (fun m q=>m.kind=16→BdS l p tv q)) (x:WE H p tv l s Z)
  (hl:Lies l (a + 1) k) (nx:NX H p n (k.roots (a + 1)) xw xn xk) (hck:k.len≤ck) (hd:d + k.dep + 1≤50) (hX:s.length + (thN n k.vs d).length≤900000) :
  CallF Tryz.prog 42 [hp p,iv ((d:Nat):Int),.agg (ndV n k.len xw xn xk cw cn ck).toArray] H (fun _ H'=>WB H' p tv (s ++ thN n k.vs d) Z∧WQ H p Z H') NoP:=by
 have hple:=x.le
 have hplt:=x.w.lt
 have hul:=okN_ul hok
 have hwl:=okN_wl hok
 obtain ⟨A1,hA1⟩:∃ A,A=H.push (.cells (ndV n k.len xw xn xk cw cn ck).toArray 28):=⟨_,rfl⟩
 have g1:Fr [] H A1:=by rw [hA1]; exact Fr.push
 have z1:A1.size=H.size + 1:=by rw [hA1]; simp
 have bn1:Blk A1 H.size 28 (ndV n k.len xw xn xk cw cn ck):=by rw [hA1]; exact Blk.new rfl
 have x1:=x.more g1 (q:=H.size) (Nat.le_refl _) (by omega)
 have nx1:NX A1 p n (k.roots (a + 1)) xw xn xk:=nx.keep (fun b hb=>g1.same b (by omega) (by simp))
 have ldn:=bn1.cells0
 have k0c:=bn1.cell 0
 have k1c:=bn1.cell 1
 have k2c:=bn1.cell 2
 have k3c:=bn1.cell 3
 simp only [ndV,gS,gZ,List.length_cons,List.length_nil,Nat.zero_add,Nat.reduceAdd] at k0c k1c k2c k3c ldn
 have hq1:WQ H p Z A1:=WQ.of_fr g1 hple
 unfold ndV at hA1 ⊢
 refine callF_of Tryz.func42 rfl Tryz.ntmps42 Tryz.results42 (by decide) rfl ?_
 simp (disch:=omega) only [go_sem,↓cB,dB]
 rw [← hA1]
 clear hA1
 have hk:n.kind=6∨n.kind=7∨n.kind=8∨n.kind=9∨n.kind=10∨n.kind=11∨n.kind=12∨n.kind=13∨n.kind=14∨n.kind=15:=by omega
 rcases hk with e | e | e | e | e | e | e | e | e | e
 ·have hw0:=w0_get hok (i:=0) (by rw [e]; decide)
  obtain ⟨wb,wo,rfl,hwb,hwc⟩:=nx1.w 0 _ hw0
  rw [Nat.add_zero] at hwc
  rw [e] at hwl
  have lw:=wOk_getD (okN_words hok) 0
  have hwl1:n.words.length=1:=hwl
  obtain ⟨n1,k1,rfl,h17,h22⟩:=kidsE hok (by omega)
  simp only [Fo.ok,Bool.and_true,Bool.and_eq_true] at hko
  simp only [Fo.bare,Bool.and_true,Bool.and_eq_true,decide_eq_true_eq] at hkb
  simp only [Fo.cnt] at hc
  have i1:EXs l p tv n1 k1:=wExpr_all l p tv (k1.cnt + 1) n1 k1 (by omega) (by omega) hko.1 hkb.1 hko.2 hkb.2 h17 h22
  rw [show (Fo.cons n1 k1 .nil).len=1 from rfl] at *
  obtain ⟨kb,ko,rfl,hkb2,hkc⟩:=nx1.k 0 _ rfl
  rw [Nat.add_zero] at hkc
  have hT:thN n (Fo.cons n1 k1 .nil).vs d=n.words.getD 0 [] ++ [32,61,32] ++ exN n1 k1.vs ++ [59]:=by simp only [thN,e,Int.reduceEq,↓reduceIte] <;> rfl
  rw [hT] at hX ⊢
  simp only [List.length_append,List.length_cons,List.length_nil] at hX
  have hv0:=hv_ok (H:=A1) (L:=[⟨H.size,1,none⟩,⟨wb,wo,none⟩,⟨H.size,3,none⟩,⟨kb,ko,none⟩])
  have a1:=hv_at k1c (L:=[⟨H.size,1,none⟩,⟨wb,wo,none⟩,⟨H.size,3,none⟩,⟨kb,ko,none⟩]) (by simp)
  have a2:=hv_at hwc (L:=[⟨H.size,1,none⟩,⟨wb,wo,none⟩,⟨H.size,3,none⟩,⟨kb,ko,none⟩]) (by simp)
  have a3:=hv_at k3c (L:=[⟨H.size,1,none⟩,⟨wb,wo,none⟩,⟨H.size,3,none⟩,⟨kb,ko,none⟩]) (by simp)
  have a4:=hv_at hkc (L:=[⟨H.size,1,none⟩,⟨wb,wo,none⟩,⟨H.size,3,none⟩,⟨kb,ko,none⟩]) (by simp)
  generalize hvL A1 [⟨H.size,1,none⟩,⟨wb,wo,none⟩,⟨H.size,3,none⟩,⟨kb,ko,none⟩]=hld at hv0 a1 a2 a3 a4
  have hv1:=hv0
  simp (disch:=omega) only [go_sem,↓cB,dB,k0c,e]
  refine draw1 (lk [(0,false),(1,false),(2,false),(3,false),(4,false),(5,true),(6,true),(7,true),(8,true),(9,true)] (.act 10 (.act 11 (.actd 12 .fin) .non) .non)) T.mixed hld hv0 ?_
  simp (disch:=omega) only [go_sem,↓cB,dB,a1,a2,a3,a4,k1c,k3c,hkc,hwl1,id_eq]
  refine call_to (i1 x1.ep hl) ?_
  intro v H2 hv
  refine Hush.out ?_
  obtain ⟨f2,rfl⟩:=hv
  have x2:=x1.fr f2
  have bn2:=f2.blk bn1 (by simp)
  have nx2:NX H2 p n _ _ _ _:=nx1.keep (fun b hb=>f2.same b (by have:=x1.w.lt; omega) (by simp))
  have hv2:=hv_fr hv1 f2
  refine ⟨?_⟩
  refine held_by hv2 ?_
  try (simp (disch:=omega) only [go_sem,↓cB,dB,id_eq,bsS4])
  refine held_by (hv_fr hv2 Fr.push) ?_
  simp (disch:=omega) only [go_sem,↓cB,dB,id_eq]
  refine call_to (put_lit (xs:=[n.words.getD 0 [],[32,61,32],exN n1 k1.vs,[59]]) x2.w rfl (by simp only [List.flatten_cons,List.flatten_nil,List.length_append,List.length_cons,List.length_nil] at *; omega) (by simp)) ?_
  intro v H3 hv
  refine Hush.out ?_
  obtain ⟨w3,wq3⟩:=hv
  have x3:=x2.step w3 wq3
  have bn3:=wq3.blk bn2 (.inl (by simp))
  have nx3:NX H3 p n _ _ _ _:=nx2.keep wq3.low
  refine ⟨?_⟩
  simp (disch:=omega) only [go_sem,↓cB,dB]
  exact fin ⟨(w3.sub (fun b hb=>by simp [hb])).eq (by simp),(((WQ.of_fr g1 hple).trans (WQ.of_fr f2 (by have:=x1.le; omega))).trans (wq3.sub (fun b hb=>by simp [hb])))⟩
 ·have hw0:=w0_get hok (i:=0) (by rw [e]; decide)
  obtain ⟨wb,wo,rfl,hwb,hwc⟩:=nx1.w 0 _ hw0
  rw [Nat.add_zero] at hwc
  rw [e] at hwl
  have lw:=wOk_getD (okN_words hok) 0
  have hwl1:n.words.length=1:=hwl
  obtain ⟨n1,k1,rfl,h17,h22⟩:=kidsE hok (by omega)
  simp only [Fo.ok,Bool.and_true,Bool.and_eq_true] at hko
  simp only [Fo.bare,Bool.and_true,Bool.and_eq_true,decide_eq_true_eq] at hkb
  simp only [Fo.cnt] at hc
  have i1:EXs l p tv n1 k1:=wExpr_all l p tv (k1.cnt + 1) n1 k1 (by omega) (by omega) hko.1 hkb.1 hko.2 hkb.2 h17 h22
  rw [show (Fo.cons n1 k1 .nil).len=1 from rfl] at *
  obtain ⟨kb,ko,rfl,hkb2,hkc⟩:=nx1.k 0 _ rfl
  rw [Nat.add_zero] at hkc
  have hT:thN n (Fo.cons n1 k1 .nil).vs d = [115,101,110,100,32] ++ n.words.getD 0 [] ++ [32] ++ exN n1 k1.vs ++ [59]:=by simp only [thN,e,Int.reduceEq,↓reduceIte] <;> rfl
  rw [hT] at hX ⊢
  simp only [List.length_append,List.length_cons,List.length_nil] at hX
  have hv0:=hv_ok (H:=A1) (L:=[⟨H.size,1,none⟩,⟨wb,wo,none⟩,⟨H.size,3,none⟩,⟨kb,ko,none⟩])
  have a1:=hv_at k1c (L:=[⟨H.size,1,none⟩,⟨wb,wo,none⟩,⟨H.size,3,none⟩,⟨kb,ko,none⟩]) (by simp)
  have a2:=hv_at hwc (L:=[⟨H.size,1,none⟩,⟨wb,wo,none⟩,⟨H.size,3,none⟩,⟨kb,ko,none⟩]) (by simp)
  have a3:=hv_at k3c (L:=[⟨H.size,1,none⟩,⟨wb,wo,none⟩,⟨H.size,3,none⟩,⟨kb,ko,none⟩]) (by simp)
  have a4:=hv_at hkc (L:=[⟨H.size,1,none⟩,⟨wb,wo,none⟩,⟨H.size,3,none⟩,⟨kb,ko,none⟩]) (by simp)
  generalize hvL A1 [⟨H.size,1,none⟩,⟨wb,wo,none⟩,⟨H.size,3,none⟩,⟨kb,ko,none⟩]=hld at hv0 a1 a2 a3 a4
  have hv1:=hv0
  simp (disch:=omega) only [go_sem,↓cB,dB,k0c,e]
  refine draw1 (lk [(0,false),(1,false),(2,false),(3,false),(4,false),(5,true),(6,true),(7,true),(8,true),(9,true)] (.act 10 (.act 11 (.actd 12 .fin) .non) .non)) T.mixed hld hv0 ?_
  simp (disch:=omega) only [go_sem,↓cB,dB,a1,a2,a3,a4,k1c,k3c,hkc,hwl1,id_eq]
  refine call_to (i1 x1.ep hl) ?_
  intro v H2 hv
  refine Hush.out ?_
  obtain ⟨f2,rfl⟩:=hv
  have x2:=x1.fr f2
  have bn2:=f2.blk bn1 (by simp)
  have nx2:NX H2 p n _ _ _ _:=nx1.keep (fun b hb=>f2.same b (by have:=x1.w.lt; omega) (by simp))
  have hv2:=hv_fr hv1 f2
  refine ⟨?_⟩
  refine held_by hv2 ?_
  try (simp (disch:=omega) only [go_sem,↓cB,dB,id_eq,bsS5])
  refine held_by (hv_fr hv2 Fr.push) ?_
  simp (disch:=omega) only [go_sem,↓cB,dB,id_eq]
  refine call_to (put_lit (xs:=[[115,101,110,100,32],n.words.getD 0 [],[32],exN n1 k1.vs,[59]]) x2.w rfl (by simp only [List.flatten_cons,List.flatten_nil,List.length_append,List.length_cons,List.length_nil] at *; omega) (by simp)) ?_
  intro v H3 hv
  refine Hush.out ?_
  obtain ⟨w3,wq3⟩:=hv
  have x3:=x2.step w3 wq3
  have bn3:=wq3.blk bn2 (.inl (by simp))
  have nx3:NX H3 p n _ _ _ _:=nx2.keep wq3.low
  refine ⟨?_⟩
  simp (disch:=omega) only [go_sem,↓cB,dB]
  exact fin ⟨(w3.sub (fun b hb=>by simp [hb])).eq (by simp),(((WQ.of_fr g1 hple).trans (WQ.of_fr f2 (by have:=x1.le; omega))).trans (wq3.sub (fun b hb=>by simp [hb])))⟩
 ·have hw0:=w0_get hok (i:=0) (by rw [e]; decide)
  obtain ⟨wb,wo,rfl,hwb,hwc⟩:=nx1.w 0 _ hw0
  rw [Nat.add_zero] at hwc
  rw [e] at hwl
  have lw:=wOk_getD (okN_words hok) 0
  have hwl1:n.words.length=2:=hwl
  have hw1:=w0_get hok (i:=1) (by rw [e]; decide)
  obtain ⟨wb1,wo1,hxw,-,hwc1⟩:=nx1.w 1 _ hw1
  simp only [Option.some.injEq,Addr.mk.injEq,and_true] at hxw
  obtain ⟨rfl,rfl⟩:=hxw
  have lw1:=wOk_getD (okN_words hok) 1
  have hul1:n.nums.length=1:=by rw [okN_ul hok,e]; rfl
  obtain rfl:=kidsN hok (by omega)
  have lo:=@opt_len (n0' n) [105,100,108,101,32]
  have hT:thN n Fo.nil.vs d=optS (n0' n) [105,100,108,101,32] ++ [114,101,99,118,32] ++ n.words.getD 0 [] ++ [32] ++ n.words.getD 1 [] ++ [59]:=by simp only [thN,e,Int.reduceEq,↓reduceIte] <;> rfl
  rw [hT] at hX ⊢
  simp only [List.length_append,List.length_cons,List.length_nil] at hX
  have hv0:=hv_ok (H:=A1) (L:=[⟨H.size,1,none⟩,⟨wb,wo,none⟩,⟨wb,wo + 1,none⟩])
  have a1:=hv_at k1c (L:=[⟨H.size,1,none⟩,⟨wb,wo,none⟩,⟨wb,wo + 1,none⟩]) (by simp)
  have a2:=hv_at hwc (L:=[⟨H.size,1,none⟩,⟨wb,wo,none⟩,⟨wb,wo + 1,none⟩]) (by simp)
  have a3:=hv_at hwc1 (L:=[⟨H.size,1,none⟩,⟨wb,wo,none⟩,⟨wb,wo + 1,none⟩]) (by simp)
  generalize hvL A1 [⟨H.size,1,none⟩,⟨wb,wo,none⟩,⟨wb,wo + 1,none⟩]=hld at hv0 a1 a2 a3
  have hv1:=hv0
  simp (disch:=omega) only [go_sem,↓cB,dB,k0c,e]
  refine draw1 (lk [(0,false),(1,true),(3,false),(4,false),(5,false),(6,false),(7,false),(8,false),(9,false),(10,false)] (.act 2 (.act 11 (.actd 12 .fin) .non) .non)) T.mixed hld hv0 ?_
  simp (disch:=omega) only [go_sem,↓cB,dB,a1,a2,a3,ldn,k1c,id_eq]
  refine call_to (wIdle_spec nx1 (by omega) hul1) ?_
  intro v H2 hv
  refine Hush.out ?_
  obtain ⟨f2,rfl⟩:=hv
  have x2:=x1.fr f2
  have bn2:=f2.blk bn1 (by simp)
  have nx2:NX H2 p n _ _ _ _:=nx1.keep (fun b hb=>f2.same b (by have:=x1.w.lt; omega) (by simp))
  have hv2:=hv_fr hv1 f2
  refine ⟨?_⟩
  refine held_by hv2 ?_
  try (simp (disch:=omega) only [go_sem,↓cB,dB,id_eq,bsS6])
  refine held_by (hv_fr hv2 Fr.push) ?_
  simp (disch:=omega) only [go_sem,↓cB,dB,id_eq]
  refine call_to (put_lit (xs:=[optS (n0' n) [105,100,108,101,32],[114,101,99,118,32],n.words.getD 0 [],[32],n.words.getD 1 [],[59]]) x2.w rfl (by simp only [List.flatten_cons,List.flatten_nil,List.length_append,List.length_cons,List.length_nil] at *; omega) (by simp)) ?_
  intro v H3 hv
  refine Hush.out ?_
  obtain ⟨w3,wq3⟩:=hv
  have x3:=x2.step w3 wq3
  have bn3:=wq3.blk bn2 (.inl (by simp))
  have nx3:NX H3 p n _ _ _ _:=nx2.keep wq3.low
  refine ⟨?_⟩
  simp (disch:=omega) only [go_sem,↓cB,dB]
  exact fin ⟨(w3.sub (fun b hb=>by simp [hb])).eq (by simp),(((WQ.of_fr g1 hple).trans (WQ.of_fr f2 (by have:=x1.le; omega))).trans (wq3.sub (fun b hb=>by simp [hb])))⟩
 ·have hul1:n.nums.length=1:=by rw [okN_ul hok,e]; rfl
  have lo:=@opt_len (n0' n) [105,100,108,101,32]
  obtain ⟨n1,k1,rfl,h17,h22⟩:=kidsE hok (by omega)
  simp only [Fo.ok,Bool.and_true,Bool.and_eq_true] at hko
  simp only [Fo.bare,Bool.and_true,Bool.and_eq_true,decide_eq_true_eq] at hkb
  simp only [Fo.cnt] at hc
  have i1:EXs l p tv n1 k1:=wExpr_all l p tv (k1.cnt + 1) n1 k1 (by omega) (by omega) hko.1 hkb.1 hko.2 hkb.2 h17 h22
  rw [show (Fo.cons n1 k1 .nil).len=1 from rfl] at *
  obtain ⟨kb,ko,rfl,hkb2,hkc⟩:=nx1.k 0 _ rfl
  rw [Nat.add_zero] at hkc
  have hT:thN n (Fo.cons n1 k1 .nil).vs d=optS (n0' n) [105,100,108,101,32] ++ [119,104,101,110,32] ++ exN n1 k1.vs ++ [59]:=by simp only [thN,e,Int.reduceEq,↓reduceIte] <;> rfl
  rw [hT] at hX ⊢
  simp only [List.length_append,List.length_cons,List.length_nil] at hX
  have hv0:=hv_ok (H:=A1) (L:=[⟨H.size,3,none⟩,⟨kb,ko,none⟩])
  have a1:=hv_at k3c (L:=[⟨H.size,3,none⟩,⟨kb,ko,none⟩]) (by simp)
  have a2:=hv_at hkc (L:=[⟨H.size,3,none⟩,⟨kb,ko,none⟩]) (by simp)
  generalize hvL A1 [⟨H.size,3,none⟩,⟨kb,ko,none⟩]=hld at hv0 a1 a2
  have hv1:=hv0
  simp (disch:=omega) only [go_sem,↓cB,dB,k0c,e]
  refine draw1 (lk [(0,false),(1,true),(3,false),(4,false),(5,false),(6,false),(7,false)] (.act 2 (.act 8 (.act 9 (.actd 10 .fin) .non) .non) .non)) T.mixed hld hv0 ?_
  simp (disch:=omega) only [go_sem,↓cB,dB,a1,a2,k3c,hkc,ldn,id_eq]
  refine call_to (wIdle_spec nx1 (by omega) hul1) ?_
  intro v H2 hv
  refine Hush.out ?_
  obtain ⟨f2,rfl⟩:=hv
  have x2:=x1.fr f2
  have bn2:=f2.blk bn1 (by simp)
  have nx2:NX H2 p n _ _ _ _:=nx1.keep (fun b hb=>f2.same b (by have:=x1.w.lt; omega) (by simp))
  have hv2:=hv_fr hv1 f2
  refine ⟨?_⟩
  refine held_by hv2 ?_
  simp (disch:=omega) only [go_sem,↓cB,dB,id_eq]
  refine call_to (i1 x2.ep hl) ?_
  intro v H3 hv
  refine Hush.out ?_
  obtain ⟨f3,rfl⟩:=hv
  have x3:=x2.fr f3
  have bn3:=f3.blk bn2 (by simp)
  have nx3:NX H3 p n _ _ _ _:=nx2.keep (fun b hb=>f3.same b (by have:=x2.w.lt; omega) (by simp))
  have hv3:=hv_fr hv2 f3
  refine ⟨?_⟩
  refine held_by hv3 ?_
  try (simp (disch:=omega) only [go_sem,↓cB,dB,id_eq,bsS4])
  refine held_by (hv_fr hv3 Fr.push) ?_
  simp (disch:=omega) only [go_sem,↓cB,dB,id_eq]
  refine call_to (put_lit (xs:=[optS (n0' n) [105,100,108,101,32],[119,104,101,110,32],exN n1 k1.vs,[59]]) x3.w rfl (by simp only [List.flatten_cons,List.flatten_nil,List.length_append,List.length_cons,List.length_nil] at *; omega) (by simp)) ?_
  intro v H4 hv
  refine Hush.out ?_
  obtain ⟨w4,wq4⟩:=hv
  have x4:=x3.step w4 wq4
  have bn4:=wq4.blk bn3 (.inl (by simp))
  have nx4:NX H4 p n _ _ _ _:=nx3.keep wq4.low
  refine ⟨?_⟩
  simp (disch:=omega) only [go_sem,↓cB,dB]
  exact fin ⟨(w4.sub (fun b hb=>by simp [hb])).eq (by simp),((((WQ.of_fr g1 hple).trans (WQ.of_fr f2 (by have:=x1.le; omega))).trans (WQ.of_fr f3 (by have:=x2.le; omega))).trans (wq4.sub (fun b hb=>by simp [hb])))⟩
 ·have hul1:n.nums.length=1:=by rw [okN_ul hok,e]; rfl
  have lo:=@opt_len (n0' n) [105,100,108,101,32]
  have hT:thN n k.vs d=optS (n0' n) [105,100,108,101,32] ++ [99,104,111,111,115,101,32] ++ joinS [32,111,114,32] d k.vs:=by simp only [thN,e,Int.reduceEq,↓reduceIte] <;> rfl
  rw [hT] at hX ⊢
  simp only [List.length_append,List.length_cons,List.length_nil] at hX
  simp (disch:=omega) only [go_sem,↓cB,dB,k0c,e]
  simp (disch:=omega) only [go_sem,↓cB,dB,ldn]
  refine call_to (wIdle_spec nx1 (by omega) hul1) ?_
  intro v H2 hv
  refine Hush.out ?_
  obtain ⟨f2,rfl⟩:=hv
  have x2:=x1.fr f2
  have bn2:=f2.blk bn1 (by simp)
  have nx2:NX H2 p n _ _ _ _:=nx1.keep (fun b hb=>f2.same b (by have:=x1.w.lt; omega) (by simp))
  refine ⟨?_⟩
  try (simp (disch:=omega) only [go_sem,↓cB,dB,bsS2])
  refine call_to (put_lit (xs:=[optS (n0' n) [105,100,108,101,32],[99,104,111,111,115,101,32]]) x2.w rfl (by simp only [List.flatten_cons,List.flatten_nil,List.length_append,List.length_cons,List.length_nil] at *; omega) (by simp)) ?_
  intro v H3 hv
  refine Hush.out ?_
  obtain ⟨w3,wq3⟩:=hv
  have x3:=x2.step w3 wq3
  have bn3:=wq3.blk bn2 (.inl (by simp))
  have nx3:NX H3 p n _ _ _ _:=nx2.keep wq3.low
  refine ⟨?_⟩
  have c3:=bn3.cell 3
  simp only [ndV,gS,gZ] at c3
  simp (disch:=omega) only [go_sem,↓cB,dB,c3]
  refine call_to (wBlocks_spec hc (all16 ib (kids10 hok e).2) hkb x3 hl (SlL.of_nx nx3) (by omega) (by simp only [List.flatten_cons,List.flatten_nil,List.length_append,List.length_cons,List.length_nil] at *; omega)) ?_
  intro v H4 hv
  refine Hush.out ?_
  obtain ⟨w4,wq4⟩:=hv
  refine ⟨?_⟩
  simp (disch:=omega) only [go_sem,↓cB,dB]
  exact fin ⟨(w4.sub (fun b hb=>by simp [hb])).eq (by simp),((((WQ.of_fr g1 hple).trans (WQ.of_fr f2 (by have:=x1.le; omega))).trans (wq3.sub (fun b hb=>by simp [hb]))).trans (wq4.sub (fun b hb=>by simp [hb])))⟩
 ·obtain ⟨n1,k1,r,rfl,g1',g2',g3'⟩:=kids11 hok e
  simp only [Fo.ok,Bool.and_eq_true] at hko
  simp only [Fo.bare,Bool.and_eq_true,decide_eq_true_eq] at hkb
  simp only [Fo.cnt] at hc
  simp only [Fo.dep] at hd
  have i1:EXs l p tv n1 k1:=wExpr_all l p tv (k1.cnt + 1) n1 k1 (by omega) (by omega) hko.1 hkb.1 hko.2.1 hkb.2.1 g1'.1 g1'.2
  obtain ⟨kb,ko,rfl,hkb2,hkc⟩:=nx1.k 0 _ rfl
  rw [Nat.add_zero] at hkc
  have hT:thN n (Fo.cons n1 k1 r).vs d = [105,102,32] ++ exN n1 k1.vs ++ [32] ++ joinS [32,101,108,115,101,32] d r.vs:=by simp only [thN,e,Int.reduceEq,↓reduceIte] <;> rfl
  rw [hT] at hX ⊢
  simp only [List.length_append,List.length_cons,List.length_nil] at hX
  simp only [Fo.len] at hck
  have hck1:¬ ck=1:=by omega
  rw [show (Fo.cons n1 k1 r).len=1 + r.len from by simp [Fo.len]; omega] at *
  have hlr2:1 + r.len - 1=r.len:=by omega
  have hcp:0 < 1 + r.len:=by omega
  simp (disch:=omega) only [go_sem,↓cB,dB,k0c,e,k3c,hkc]
  refine call_to (i1 x1.ep hl.one) ?_
  intro v H2 hv
  refine Hush.out ?_
  obtain ⟨f2,rfl⟩:=hv
  have x2:=x1.fr f2
  have bn2:=f2.blk bn1 (by simp)
  have nx2:NX H2 p n _ _ _ _:=nx1.keep (fun b hb=>f2.same b (by have:=x1.w.lt; omega) (by simp))
  refine ⟨?_⟩
  try (simp (disch:=omega) only [go_sem,↓cB,dB,bsS3])
  refine call_to (put_lit (xs:=[[105,102,32],exN n1 k1.vs,[32]]) x2.w rfl (by simp only [List.flatten_cons,List.flatten_nil,List.length_append,List.length_cons,List.length_nil] at *; omega) (by simp)) ?_
  intro v H3 hv
  refine Hush.out ?_
  obtain ⟨w3,wq3⟩:=hv
  have x3:=x2.step w3 wq3
  have bn3:=wq3.blk bn2 (.inl (by simp))
  have nx3:NX H3 p n _ _ _ _:=nx2.keep wq3.low
  refine ⟨?_⟩
  have c3:=bn3.cell 3
  simp only [ndV,gS,gZ] at c3
  simp (disch:=omega) only [go_sem,↓cB,dB,c3,hck1,hlr2,if_false,Int.toNat_one,Nat.mul_one,Option.map_some,Addr.add]
  have sl3:SlL H3 p (H.size :: Z) (r.roots (a + 1 + 1 + k1.cnt)) (some ⟨kb,ko + 1,none⟩):=by
   intro i x hx
   obtain ⟨b,o,e1,hb1,hc1⟩:=nx3.k (i + 1) x (by simpa [Fo.roots] using hx)
   simp only [Option.some.injEq,Addr.mk.injEq,and_true] at e1
   obtain ⟨rfl,rfl⟩:=e1
   exact ⟨_,_,rfl,.inl hb1,by rw [show ko + 1 + i=ko + (i + 1) from by omega]; exact hc1⟩
  refine call_to (wBlocks_spec (by omega) (all16 ib.2 g3') hkb.2.2 x3 hl.rest sl3 (by omega) (by simp only [List.flatten_cons,List.flatten_nil,List.length_append,List.length_cons,List.length_nil] at *; omega)) ?_
  intro v H4 hv
  refine Hush.out ?_
  obtain ⟨w4,wq4⟩:=hv
  refine ⟨?_⟩
  simp (disch:=omega) only [go_sem,↓cB,dB]
  exact fin ⟨(w4.sub (fun b hb=>by simp [hb])).eq (by simp),((((WQ.of_fr g1 hple).trans (WQ.of_fr f2 (by have:=x1.le; omega))).trans (wq3.sub (fun b hb=>by simp [hb]))).trans (wq4.sub (fun b hb=>by simp [hb])))⟩
 ·obtain ⟨n1,k1,r,rfl,g1',g2',g3'⟩:=kids12 hok e
  match r,g2',g3' with
  | .nil,g2',_=>simp [Fo.len] at g2'
  | .cons n2 k2 (.cons _ _ _),g2',_=>simp [Fo.len] at g2'
  | .cons n2 k2 .nil,_,g3' =>
   simp only [Fo.ok,Bool.and_eq_true] at hko
   simp only [Fo.bare,Bool.and_eq_true,decide_eq_true_eq] at hkb
   simp only [Fo.cnt] at hc
   simp only [Fo.dep] at hd
   have i1:EXs l p tv n1 k1:=wExpr_all l p tv (k1.cnt + 1) n1 k1 (by omega) (by omega) hko.1 hkb.1 hko.2.1 hkb.2.1 g1'.1 g1'.2
   obtain ⟨kb,ko,rfl,hkb2,hkc⟩:=nx1.k 0 _ rfl
   rw [Nat.add_zero] at hkc
   have hT:thN n (Fo.cons n1 k1 (.cons n2 k2 .nil)).vs d = [119,104,105,108,101,32] ++ exN n1 k1.vs ++ [32] ++ joinS [] d (Fo.cons n2 k2 .nil).vs:=by simp only [thN,e,Int.reduceEq,↓reduceIte] <;> rfl
   rw [hT] at hX ⊢
   simp only [List.length_append,List.length_cons,List.length_nil] at hX
   rw [show (Fo.cons n1 k1 (.cons n2 k2 .nil)).len=2 from rfl] at *
   simp (disch:=omega) only [go_sem,↓cB,dB,k0c,e,k3c,hkc]
   refine call_to (i1 x1.ep hl.one) ?_
   intro v H2 hv
   refine Hush.out ?_
   obtain ⟨f2,rfl⟩:=hv
   have x2:=x1.fr f2
   have bn2:=f2.blk bn1 (by simp)
   have nx2:NX H2 p n _ _ _ _:=nx1.keep (fun b hb=>f2.same b (by have:=x1.w.lt; omega) (by simp))
   refine ⟨?_⟩
   try (simp (disch:=omega) only [go_sem,↓cB,dB,bsS3])
   refine call_to (put_lit (xs:=[[119,104,105,108,101,32],exN n1 k1.vs,[32]]) x2.w rfl (by simp only [List.flatten_cons,List.flatten_nil,List.length_append,List.length_cons,List.length_nil] at *; omega) (by simp)) ?_
   intro v H3 hv
   refine Hush.out ?_
   obtain ⟨w3,wq3⟩:=hv
   have x3:=x2.step w3 wq3
   have bn3:=wq3.blk bn2 (.inl (by simp))
   have nx3:NX H3 p n _ _ _ _:=nx2.keep wq3.low
   refine ⟨?_⟩
   have c3:=bn3.cell 3
   simp only [ndV,gS,gZ] at c3
   obtain ⟨kb2,ko2,e1,hb1,hc1⟩:=nx3.k 1 _ rfl
   simp only [Option.some.injEq,Addr.mk.injEq,and_true] at e1
   obtain ⟨rfl,rfl⟩:=e1
   have bs1:=bs_one (P:=Tryz.prog) (H:=H3) (t:=26) (a:=iv ((a + 1 + 1 + k1.cnt:Nat):Int)) T.elem26 T.size3 rfl rfl
   have hlt4:H3.size < (H3.push (.cells #[iv ((a + 1 + 1 + k1.cnt:Nat):Int)] 3)).size:=by simp
   have x4:=x3.more (Fr.push (o:=.cells #[iv ((a + 1 + 1 + k1.cnt:Nat):Int)] 3)) (q:=H3.size) (Nat.le_refl _) hlt4
   have sl4:SlL (H3.push (.cells #[iv ((a + 1 + 1 + k1.cnt:Nat):Int)] 3)) p (H3.size :: H.size :: Z) [((a + 1 + 1 + k1.cnt:Nat):Int)] (some ⟨H3.size,0,none⟩):=by
    intro i x hx
    match i,hx with
    | 0,hx =>
     simp only [gZ,Option.some.injEq] at hx
     subst hx
     exact ⟨_,_,rfl,.inr (by simp),(Blk.new rfl:Blk _ H3.size 3 [iv ((a + 1 + 1 + k1.cnt:Nat):Int)]).cell 0⟩
    | i + 1,hx=>simp at hx
   simp (disch:=omega) only [go_sem,↓cB,dB,c3,hc1,bs1]
   refine call_to (wBlocks_spec (by simp only [Fo.cnt] at hc ⊢; omega) (all16 ib.2 g3') (by simpa [Fo.bare] using hkb.2.2) x4 hl.rest sl4 (by simp only [Fo.dep] at hd ⊢; omega) (by simp only [List.flatten_cons,List.flatten_nil,List.length_append,List.length_cons,List.length_nil] at *; omega)) ?_
   intro v H5 hv
   refine Hush.out ?_
   obtain ⟨w5,wq5⟩:=hv
   refine ⟨?_⟩
   simp (disch:=omega) only [go_sem,↓cB,dB]
   exact fin ⟨(w5.sub (fun b hb=>by simp [hb])).eq (by simp),(((((WQ.of_fr g1 hple).trans (WQ.of_fr f2 (by have:=x1.le; omega))).trans (wq3.sub (fun b hb=>by simp [hb]))).trans ((WQ.of_fr (Z:=H3.size :: H.size :: Z) (Fr.push (o:=.cells #[iv ((a + 1 + 1 + k1.cnt:Nat):Int)] 3)) (by have:=x3.le; omega)).sub (fun b hb=>by simp [hb]))).trans (wq5.sub (fun b hb=>by simp [hb])))⟩
 ·obtain ⟨g2',g3'⟩:=kids13 hok e
  match k,g2',g3' with
  | .nil,g2',_=>simp [Fo.len] at g2'
  | .cons n2 k2 (.cons _ _ _),g2',_=>simp [Fo.len] at g2'
  | .cons n2 k2 .nil,_,g3' =>
   obtain ⟨kb,ko,rfl,hkb2,hkc⟩:=nx1.k 0 _ rfl
   rw [Nat.add_zero] at hkc
   have hT:thN n (Fo.cons n2 k2 .nil).vs d = [97,116,111,109,105,99,32] ++ joinS [] d (Fo.cons n2 k2 .nil).vs:=by simp only [thN,e,Int.reduceEq,↓reduceIte] <;> rfl
   rw [hT] at hX ⊢
   simp only [List.length_append,List.length_cons,List.length_nil] at hX
   rw [show (Fo.cons n2 k2 .nil).len=1 from rfl] at *
   simp (disch:=omega) only [go_sem,↓cB,dB,k0c,e]
   try (simp (disch:=omega) only [go_sem,↓cB,dB,bsS1])
   refine call_to (put_lit (xs:=[[97,116,111,109,105,99,32]]) x1.w rfl (by simp only [List.flatten_cons,List.flatten_nil,List.length_append,List.length_cons,List.length_nil] at *; omega) (by simp)) ?_
   intro v H2 hv
   refine Hush.out ?_
   obtain ⟨w2,wq2⟩:=hv
   have x2:=x1.step w2 wq2
   have bn2:=wq2.blk bn1 (.inl (by simp))
   have nx2:NX H2 p n _ _ _ _:=nx1.keep wq2.low
   refine ⟨?_⟩
   have c3:=bn2.cell 3
   simp only [ndV,gS,gZ] at c3
   obtain ⟨kb2,ko2,e1,hb1,hc1⟩:=nx2.k 0 _ rfl
   rw [Nat.add_zero] at hc1
   simp only [Option.some.injEq,Addr.mk.injEq,and_true] at e1
   obtain ⟨rfl,rfl⟩:=e1
   have bs1:=bs_one (P:=Tryz.prog) (H:=H2) (t:=26) (a:=iv ((a + 1:Nat):Int)) T.elem26 T.size3 rfl rfl
   have hlt4:H2.size < (H2.push (.cells #[iv ((a + 1:Nat):Int)] 3)).size:=by simp
   have x4:=x2.more (Fr.push (o:=.cells #[iv ((a + 1:Nat):Int)] 3)) (q:=H2.size) (Nat.le_refl _) hlt4
   have sl4:SlL (H2.push (.cells #[iv ((a + 1:Nat):Int)] 3)) p (H2.size :: H.size :: Z) [((a + 1:Nat):Int)] (some ⟨H2.size,0,none⟩):=by
    intro i x hx
    match i,hx with
    | 0,hx =>
     simp only [gZ,Option.some.injEq] at hx
     subst hx
     exact ⟨_,_,rfl,.inr (by simp),(Blk.new rfl:Blk _ H2.size 3 [iv ((a + 1:Nat):Int)]).cell 0⟩
    | i + 1,hx=>simp at hx
   simp (disch:=omega) only [go_sem,↓cB,dB,c3,hc1,bs1]
   refine call_to (wBlocks_spec hc (all16 ib g3') hkb x4 hl sl4 (by omega) (by simp only [List.flatten_cons,List.flatten_nil,List.length_append,List.length_cons,List.length_nil] at *; omega)) ?_
   intro v H5 hv
   refine Hush.out ?_
   obtain ⟨w5,wq5⟩:=hv
   refine ⟨?_⟩
   simp (disch:=omega) only [go_sem,↓cB,dB]
   exact fin ⟨(w5.sub (fun b hb=>by simp [hb])).eq (by simp),((((WQ.of_fr g1 hple).trans (wq2.sub (fun b hb=>by simp [hb]))).trans ((WQ.of_fr (Z:=H2.size :: H.size :: Z) (Fr.push (o:=.cells #[iv ((a + 1:Nat):Int)] 3)) (by have:=x2.le; omega)).sub (fun b hb=>by simp [hb]))).trans (wq5.sub (fun b hb=>by simp [hb])))⟩
 ·obtain rfl:=kidsN hok (by omega)
  have hT:thN n Fo.nil.vs d = [115,107,105,112,59]:=by simp only [thN,e,Int.reduceEq,↓reduceIte] <;> rfl
  rw [hT] at hX ⊢
  simp only [List.length_append,List.length_cons,List.length_nil] at hX
  simp (disch:=omega) only [go_sem,↓cB,dB,k0c,e]
  try (simp (disch:=omega) only [go_sem,↓cB,dB,bsS1])
  refine call_to (put_lit (xs:=[[115,107,105,112,59]]) x1.w rfl (by simp only [List.flatten_cons,List.flatten_nil,List.length_append,List.length_cons,List.length_nil] at *; omega) (by simp)) ?_
  intro v H2 hv
  refine Hush.out ?_
  obtain ⟨w2,wq2⟩:=hv
  have x2:=x1.step w2 wq2
  have bn2:=wq2.blk bn1 (.inl (by simp))
  have nx2:NX H2 p n _ _ _ _:=nx1.keep wq2.low
  refine ⟨?_⟩
  simp (disch:=omega) only [go_sem,↓cB,dB]
  exact fin ⟨(w2.sub (fun b hb=>by simp [hb])).eq (by simp),((WQ.of_fr g1 hple).trans (wq2.sub (fun b hb=>by simp [hb])))⟩
 ·obtain rfl:=kidsN hok (by omega)
  have hT:thN n Fo.nil.vs d = [115,116,111,112,59]:=by simp only [thN,e,Int.reduceEq,↓reduceIte] <;> rfl
  rw [hT] at hX ⊢
  simp only [List.length_append,List.length_cons,List.length_nil] at hX
  simp (disch:=omega) only [go_sem,↓cB,dB,k0c,e]
  try (simp (disch:=omega) only [go_sem,↓cB,dB,bsS1])
  refine call_to (put_lit (xs:=[[115,116,111,112,59]]) x1.w rfl (by simp only [List.flatten_cons,List.flatten_nil,List.length_append,List.length_cons,List.length_nil] at *; omega) (by simp)) ?_
  intro v H2 hv
  refine Hush.out ?_
  obtain ⟨w2,wq2⟩:=hv
  have x2:=x1.step w2 wq2
  have bn2:=wq2.blk bn1 (.inl (by simp))
  have nx2:NX H2 p n _ _ _ _:=nx1.keep wq2.low
  refine ⟨?_⟩
  simp (disch:=omega) only [go_sem,↓cB,dB]
  exact fin ⟨(w2.sub (fun b hb=>by simp [hb])).eq (by simp),((WQ.of_fr g1 hple).trans (wq2.sub (fun b hb=>by simp [hb])))⟩
end
end Go.Proofs.YtcffdpmmadipeaaGreatDoor
namespace Go.Proofs.YtcffdpmmadipeaaGreatDoor
open Go.HL
set_option maxRecDepth 10000
section
variable {H H':Heap} {p a q d:Nat} {tv:Value} {l:List Nd} {n:Nd} {k:Fo} {ks:List Int} {xw xn xk:Option Addr} {s s':Str} {Z:List Nat}
set_option maxHeartbeats 4000000 in
theorem wLine_spec (hok:okN n k.kinds=true) (hb:n.kids = []) (hko:k.ok=true) (hkb:k.bare=true) (hc:k.cnt≤10000) (h1:1≤n.kind) (h15:n.kind≤15) (bd:n.kind=3→BdS l p tv k) (ib:k.All (fun m q=>m.kind=16→BdS l p tv q)):LnS l p tv n k:=by
 intro H s Z a d x hl hd hX
 have hul:=okN_ul hok
 have hwl:=okN_wl hok
 have hlt:=hl.lt
 have hX0:=hX
 simp only [List.length_append] at hX0
 refine callF_of Tryz.func21 rfl Tryz.ntmps21 Tryz.results21 (by decide) rfl ?_
 simp (disch:=omega) only [go_sem,↓cB,dB]
 refine call_to (wIndent_spec x.w (d:=d) (by omega) (by omega)) ?_
 intro v H0 hv
 refine Hush.out ?_
 obtain ⟨w0,wq0⟩:=hv
 refine ⟨?_⟩
 have x0:=x.step w0 wq0
 obtain ⟨b,o,cap,xw,cw,xn,cn,xk,ck,rfl,ld,kd,-,nx,hck⟩:=node_at x0.nl hl hb
 have c0:=x0.w.tc
 have hple0:=x0.le
 have hplt:=x0.w.lt
 obtain ⟨A1,hA1⟩:∃ A,A=H0.push (.cells (ndV n k.len xw xn xk cw cn ck).toArray 28):=⟨_,rfl⟩
 have g1:Fr [] H0 A1:=by rw [hA1]; exact Fr.push
 have z1:A1.size=H0.size + 1:=by rw [hA1]; simp
 have bn1:Blk A1 H0.size 28 (ndV n k.len xw xn xk cw cn ck):=by rw [hA1]; exact Blk.new rfl
 have x1:=x0.more g1 (q:=H0.size) (Nat.le_refl _) (by omega)
 have nx1:NX A1 p n (k.roots (a + 1)) xw xn xk:=nx.keep (fun b hb=>g1.same b (by omega) (by simp))
 have ldn:=bn1.cells0
 have k0c:=bn1.cell 0
 have k1c:=bn1.cell 1
 have k2c:=bn1.cell 2
 have k3c:=bn1.cell 3
 simp only [ndV,gS,gZ,List.length_cons,List.length_nil,Nat.zero_add,Nat.reduceAdd] at k0c k1c k2c k3c ldn
 unfold ndV at hA1
 simp (disch:=omega) only [go_sem,↓cB,dB,c0,ld]
 rw [← hA1]
 clear hA1
 have hk:n.kind=1∨n.kind=2∨n.kind=3∨n.kind=4∨n.kind=5∨6≤n.kind:=by omega
 rcases hk with e | e | e | e | e | e
 ·obtain rfl:=kidsN hok (by omega)
  have hT:thN n Fo.nil.vs d=thN n [] 0:=by simp only [thN,e,Int.reduceEq,↓reduceIte]
  rw [hT] at hX ⊢
  simp only [List.length_append,List.length_cons,List.length_nil] at hX
  simp (disch:=omega) only [go_sem,↓cB,dB,k0c,e]
  simp (disch:=omega) only [go_sem,↓cB,dB,ldn]
  refine call_to (wChannel_spec hok e x1 nx1 (by simp only [List.length_append]; omega)) ?_
  intro v H2 hv
  refine Hush.out ?_
  obtain ⟨w2,wq2⟩:=hv
  refine ⟨?_⟩
  have x2:=x1.step w2 wq2
  have bn2:=wq2.blk bn1 (.inl (by simp))
  have nx2:NX H2 p n _ _ _ _:=nx1.keep wq2.low
  try (simp (disch:=omega) only [go_sem,↓cB,dB,bsS1])
  refine call_to (put_lit (xs:=[[10]]) x2.w rfl (by simp only [List.flatten_cons,List.flatten_nil,List.length_append,List.length_cons,List.length_nil] at *; omega) (by simp)) ?_
  intro v H3 hv
  refine Hush.out ?_
  obtain ⟨w3,wq3⟩:=hv
  have x3:=x2.step w3 wq3
  have bn3:=wq3.blk bn2 (.inl (by simp))
  have nx3:NX H3 p n _ _ _ _:=nx2.keep wq3.low
  refine ⟨?_⟩
  simp (disch:=omega) only [go_sem,↓cB,dB]
  exact fin ⟨(w3.sub (fun b hb=>by simp [hb])).eq (by simp),(((wq0.trans (WQ.of_fr g1 hple0)).trans (wq2.sub (fun b hb=>by simp [hb]))).trans (wq3.sub (fun b hb=>by simp [hb])))⟩
 ·obtain rfl:=kidsN hok (by omega)
  have hw0:=w0_get hok (i:=0) (by rw [e]; decide)
  obtain ⟨wb,wo,rfl,hwb,hwc⟩:=nx1.w 0 _ hw0
  rw [Nat.add_zero] at hwc
  rw [e] at hwl
  have lw:=wOk_getD (okN_words hok) 0
  have hwl1:n.words.length=1:=hwl
  have q0:=okN_num hok (i:=0) (by rw [e]; decide)
  have h0:=n0_get hok (i:=0) (by rw [e]; decide)
  obtain ⟨ub,uo,rfl,hub,u0c⟩:=nx1.u 0 _ h0
  rw [Nat.add_zero] at u0c
  rw [e] at q0 hul
  have l0:=dig_len (n.nums.getD 0 0)
  have hul2:n.nums.length=2:=hul
  have r0:-999999≤n.nums.getD 0 0∧n.nums.getD 0 0≤999999:=by have a1:0≤n.nums.getD 0 0:=q0.1; have a2:n.nums.getD 0 0≤999999:=q0.2; omega
  have h1':=n0_get hok (i:=1) (by rw [e]; decide)
  obtain ⟨ub1,uo1,hxn,-,u1c⟩:=nx1.u 1 _ h1'
  simp only [Option.some.injEq,Addr.mk.injEq,and_true] at hxn
  obtain ⟨rfl,rfl⟩:=hxn
  have q1:=okN_num hok (i:=1) (by rw [e]; decide)
  rw [e] at q1
  have r1:-999999≤n.nums.getD 1 0∧n.nums.getD 1 0≤999999:=q1
  have l1:=dig_len (n.nums.getD 1 0)
  have hT:thN n Fo.nil.vs d = [118,97,114,32] ++ n.words.getD 0 [] ++ [32,111,102,32] ++ digI (n.nums.getD 0 0) ++ [32,61,32] ++ digI (n.nums.getD 1 0) ++ [59]:=by simp only [thN,e,Int.reduceEq,↓reduceIte] <;> rfl
  rw [hT] at hX ⊢
  simp only [List.length_append,List.length_cons,List.length_nil] at hX
  have hv0:=hv_ok (H:=A1) (L:=[⟨H0.size,1,none⟩,⟨wb,wo,none⟩,⟨H0.size,2,none⟩,⟨ub,uo + 1,none⟩])
  have a1:=hv_at k1c (L:=[⟨H0.size,1,none⟩,⟨wb,wo,none⟩,⟨H0.size,2,none⟩,⟨ub,uo + 1,none⟩]) (by simp)
  have a2:=hv_at hwc (L:=[⟨H0.size,1,none⟩,⟨wb,wo,none⟩,⟨H0.size,2,none⟩,⟨ub,uo + 1,none⟩]) (by simp)
  have a3:=hv_at k2c (L:=[⟨H0.size,1,none⟩,⟨wb,wo,none⟩,⟨H0.size,2,none⟩,⟨ub,uo + 1,none⟩]) (by simp)
  have a4:=hv_at u1c (L:=[⟨H0.size,1,none⟩,⟨wb,wo,none⟩,⟨H0.size,2,none⟩,⟨ub,uo + 1,none⟩]) (by simp)
  generalize hvL A1 [⟨H0.size,1,none⟩,⟨wb,wo,none⟩,⟨H0.size,2,none⟩,⟨ub,uo + 1,none⟩]=hld at hv0 a1 a2 a3 a4
  have hv1:=hv0
  simp (disch:=omega) only [go_sem,↓cB,dB,k0c,e]
  refine draw1 (lk [(0,false),(1,false),(2,false),(3,false),(4,false),(5,true),(6,true),(7,true),(8,true),(10,false),(11,false),(12,false),(13,false)] (.act 9 (.act 14 (.act 15 (.actd 16 .fin) .non) .non) .non)) T.mixed hld hv0 ?_
  simp (disch:=omega) only [go_sem,↓cB,dB,a1,a2,a3,a4,k1c,k2c,u0c,hwl1,hul2,id_eq]
  refine call_to (scItoa_spec x1.gt r0) ?_
  intro v H2 hv
  refine Hush.out ?_
  obtain ⟨f2,rfl⟩:=hv
  have x2:=x1.fr f2
  have bn2:=f2.blk bn1 (by simp)
  have nx2:NX H2 p n _ _ _ _:=nx1.keep (fun b hb=>f2.same b (by have:=x1.w.lt; omega) (by simp))
  have hv2:=hv_fr hv1 f2
  refine ⟨?_⟩
  refine held_by hv2 ?_
  simp (disch:=omega) only [go_sem,↓cB,dB,id_eq]
  refine call_to (scItoa_spec x2.gt r1) ?_
  intro v H3 hv
  refine Hush.out ?_
  obtain ⟨f3,rfl⟩:=hv
  have x3:=x2.fr f3
  have bn3:=f3.blk bn2 (by simp)
  have nx3:NX H3 p n _ _ _ _:=nx2.keep (fun b hb=>f3.same b (by have:=x2.w.lt; omega) (by simp))
  have hv3:=hv_fr hv2 f3
  refine ⟨?_⟩
  refine held_by hv3 ?_
  try (simp (disch:=omega) only [go_sem,↓cB,dB,id_eq,bsS7])
  refine held_by (hv_fr hv3 Fr.push) ?_
  simp (disch:=omega) only [go_sem,↓cB,dB,id_eq]
  refine call_to (put_lit (xs:=[[118,97,114,32],n.words.getD 0 [],[32,111,102,32],digI (n.nums.getD 0 0),[32,61,32],digI (n.nums.getD 1 0),[59]]) x3.w rfl (by simp only [List.flatten_cons,List.flatten_nil,List.length_append,List.length_cons,List.length_nil] at *; omega) (by simp)) ?_
  intro v H4 hv
  refine Hush.out ?_
  obtain ⟨w4,wq4⟩:=hv
  have x4:=x3.step w4 wq4
  have bn4:=wq4.blk bn3 (.inl (by simp))
  have nx4:NX H4 p n _ _ _ _:=nx3.keep wq4.low
  refine ⟨?_⟩
  try (simp (disch:=omega) only [go_sem,↓cB,dB,bsS1])
  refine call_to (put_lit (xs:=[[10]]) x4.w rfl (by simp only [List.flatten_cons,List.flatten_nil,List.length_append,List.length_cons,List.length_nil] at *; omega) (by simp)) ?_
  intro v H5 hv
  refine Hush.out ?_
  obtain ⟨w5,wq5⟩:=hv
  have x5:=x4.step w5 wq5
  have bn5:=wq5.blk bn4 (.inl (by simp))
  have nx5:NX H5 p n _ _ _ _:=nx4.keep wq5.low
  refine ⟨?_⟩
  simp (disch:=omega) only [go_sem,↓cB,dB]
  exact fin ⟨(w5.sub (fun b hb=>by simp [hb])).eq (by simp),(((((wq0.trans (WQ.of_fr g1 hple0)).trans (WQ.of_fr f2 (by have:=x1.le; omega))).trans (WQ.of_fr f3 (by have:=x2.le; omega))).trans (wq4.sub (fun b hb=>by simp [hb]))).trans (wq5.sub (fun b hb=>by simp [hb])))⟩
 ·have hw0:=w0_get hok (i:=0) (by rw [e]; decide)
  obtain ⟨wb,wo,rfl,hwb,hwc⟩:=nx1.w 0 _ hw0
  rw [Nat.add_zero] at hwc
  rw [e] at hwl
  have lw:=wOk_getD (okN_words hok) 0
  have hwl1:n.words.length=1:=hwl
  have q0:=okN_num hok (i:=0) (by rw [e]; decide)
  have h0:=n0_get hok (i:=0) (by rw [e]; decide)
  obtain ⟨ub,uo,rfl,hub,u0c⟩:=nx1.u 0 _ h0
  rw [Nat.add_zero] at u0c
  rw [e] at q0 hul
  have l0:=dig_len (n.nums.getD 0 0)
  have hul1:n.nums.length=1:=hul
  have r0:-999999≤n.nums.getD 0 0∧n.nums.getD 0 0≤999999:=by have a1:0≤n.nums.getD 0 0:=q0.1; have a2:n.nums.getD 0 0≤999999:=q0.2; omega
  have hT:thN n k.vs d = [112,114,111,99,32] ++ n.words.getD 0 [] ++ [32,42,32] ++ digI (n.nums.getD 0 0) ++ [32] ++ braS k.vs d:=by simp only [thN,e,Int.reduceEq,↓reduceIte] <;> rfl
  rw [hT] at hX ⊢
  simp only [List.length_append,List.length_cons,List.length_nil] at hX
  have hv0:=hv_ok (H:=A1) (L:=[⟨H0.size,1,none⟩,⟨wb,wo,none⟩])
  have a1:=hv_at k1c (L:=[⟨H0.size,1,none⟩,⟨wb,wo,none⟩]) (by simp)
  have a2:=hv_at hwc (L:=[⟨H0.size,1,none⟩,⟨wb,wo,none⟩]) (by simp)
  generalize hvL A1 [⟨H0.size,1,none⟩,⟨wb,wo,none⟩]=hld at hv0 a1 a2
  have hv1:=hv0
  simp (disch:=omega) only [go_sem,↓cB,dB,k0c,e]
  refine draw1 (lk [(0,false),(1,false),(2,false),(3,false),(4,false),(5,true),(6,true),(7,true),(8,true)] (.act 9 (.act 10 (.actd 11 .fin) .non) .non)) T.mixed hld hv0 ?_
  simp (disch:=omega) only [go_sem,↓cB,dB,a1,a2,k1c,k2c,u0c,hwl1,hul1,id_eq]
  refine call_to (scItoa_spec x1.gt r0) ?_
  intro v H2 hv
  refine Hush.out ?_
  obtain ⟨f2,rfl⟩:=hv
  have x2:=x1.fr f2
  have bn2:=f2.blk bn1 (by simp)
  have nx2:NX H2 p n _ _ _ _:=nx1.keep (fun b hb=>f2.same b (by have:=x1.w.lt; omega) (by simp))
  have hv2:=hv_fr hv1 f2
  refine ⟨?_⟩
  refine held_by hv2 ?_
  try (simp (disch:=omega) only [go_sem,↓cB,dB,id_eq,bsS5])
  refine held_by (hv_fr hv2 Fr.push) ?_
  simp (disch:=omega) only [go_sem,↓cB,dB,id_eq]
  refine call_to (put_lit (xs:=[[112,114,111,99,32],n.words.getD 0 [],[32,42,32],digI (n.nums.getD 0 0),[32]]) x2.w rfl (by simp only [List.flatten_cons,List.flatten_nil,List.length_append,List.length_cons,List.length_nil] at *; omega) (by simp)) ?_
  intro v H3 hv
  refine Hush.out ?_
  obtain ⟨w3,wq3⟩:=hv
  have x3:=x2.step w3 wq3
  have bn3:=wq3.blk bn2 (.inl (by simp))
  have nx3:NX H3 p n _ _ _ _:=nx2.keep wq3.low
  refine ⟨?_⟩
  have c3:=bn3.cell 3
  simp only [ndV,gS,gZ] at c3
  simp (disch:=omega) only [go_sem,↓cB,dB,c3]
  refine call_to (bd e x3 hl.kids (SlL.of_nx nx3) (by omega) (by simp only [List.flatten_cons,List.flatten_nil,List.length_append,List.length_cons,List.length_nil] at *; omega)) ?_
  intro v H4 hv
  refine Hush.out ?_
  obtain ⟨w4,wq4⟩:=hv
  refine ⟨?_⟩
  have x4:=x3.step w4 wq4
  have bn4:=wq4.blk bn3 (.inl (by simp))
  have nx4:NX H4 p n _ _ _ _:=nx3.keep wq4.low
  try (simp (disch:=omega) only [go_sem,↓cB,dB,bsS1])
  refine call_to (put_lit (xs:=[[10]]) x4.w rfl (by simp only [List.flatten_cons,List.flatten_nil,List.length_append,List.length_cons,List.length_nil] at *; omega) (by simp)) ?_
  intro v H5 hv
  refine Hush.out ?_
  obtain ⟨w5,wq5⟩:=hv
  have x5:=x4.step w5 wq5
  have bn5:=wq5.blk bn4 (.inl (by simp))
  have nx5:NX H5 p n _ _ _ _:=nx4.keep wq5.low
  refine ⟨?_⟩
  simp (disch:=omega) only [go_sem,↓cB,dB]
  exact fin ⟨(w5.sub (fun b hb=>by simp [hb])).eq (by simp),(((((wq0.trans (WQ.of_fr g1 hple0)).trans (WQ.of_fr f2 (by have:=x1.le; omega))).trans (wq3.sub (fun b hb=>by simp [hb]))).trans (wq4.sub (fun b hb=>by simp [hb]))).trans (wq5.sub (fun b hb=>by simp [hb])))⟩
 ·obtain ⟨n1,k1,rfl,h17,h22⟩:=kidsE hok (by omega)
  simp only [Fo.ok,Bool.and_true,Bool.and_eq_true] at hko
  simp only [Fo.bare,Bool.and_true,Bool.and_eq_true,decide_eq_true_eq] at hkb
  simp only [Fo.cnt] at hc
  have i1:EXs l p (.slice (some ⟨b,o,none⟩) l.length cap) n1 k1:=wExpr_all l p (.slice (some ⟨b,o,none⟩) l.length cap) (k1.cnt + 1) n1 k1 (by omega) (by omega) hko.1 hkb.1 hko.2 hkb.2 h17 h22
  rw [show (Fo.cons n1 k1 .nil).len=1 from rfl] at *
  obtain ⟨kb,ko,rfl,hkb2,hkc⟩:=nx1.k 0 _ rfl
  rw [Nat.add_zero] at hkc
  have hT:thN n (Fo.cons n1 k1 .nil).vs d = [115,97,102,101,32] ++ exN n1 k1.vs ++ [59]:=by simp only [thN,e,Int.reduceEq,↓reduceIte] <;> rfl
  rw [hT] at hX ⊢
  simp only [List.length_append,List.length_cons,List.length_nil] at hX
  simp (disch:=omega) only [go_sem,↓cB,dB,k0c,e,k3c,hkc]
  refine call_to (i1 x1.ep hl.kids) ?_
  intro v H2 hv
  refine Hush.out ?_
  obtain ⟨f2,rfl⟩:=hv
  have x2:=x1.fr f2
  have bn2:=f2.blk bn1 (by simp)
  have nx2:NX H2 p n _ _ _ _:=nx1.keep (fun b hb=>f2.same b (by have:=x1.w.lt; omega) (by simp))
  refine ⟨?_⟩
  try (simp (disch:=omega) only [go_sem,↓cB,dB,bsS3])
  refine call_to (put_lit (xs:=[[115,97,102,101,32],exN n1 k1.vs,[59]]) x2.w rfl (by simp only [List.flatten_cons,List.flatten_nil,List.length_append,List.length_cons,List.length_nil] at *; omega) (by simp)) ?_
  intro v H3 hv
  refine Hush.out ?_
  obtain ⟨w3,wq3⟩:=hv
  have x3:=x2.step w3 wq3
  have bn3:=wq3.blk bn2 (.inl (by simp))
  have nx3:NX H3 p n _ _ _ _:=nx2.keep wq3.low
  refine ⟨?_⟩
  try (simp (disch:=omega) only [go_sem,↓cB,dB,bsS1])
  refine call_to (put_lit (xs:=[[10]]) x3.w rfl (by simp only [List.flatten_cons,List.flatten_nil,List.length_append,List.length_cons,List.length_nil] at *; omega) (by simp)) ?_
  intro v H4 hv
  refine Hush.out ?_
  obtain ⟨w4,wq4⟩:=hv
  have x4:=x3.step w4 wq4
  have bn4:=wq4.blk bn3 (.inl (by simp))
  have nx4:NX H4 p n _ _ _ _:=nx3.keep wq4.low
  refine ⟨?_⟩
  simp (disch:=omega) only [go_sem,↓cB,dB]
  exact fin ⟨(w4.sub (fun b hb=>by simp [hb])).eq (by simp),((((wq0.trans (WQ.of_fr g1 hple0)).trans (WQ.of_fr f2 (by have:=x1.le; omega))).trans (wq3.sub (fun b hb=>by simp [hb]))).trans (wq4.sub (fun b hb=>by simp [hb])))⟩
 ·obtain rfl:=kidsN hok (by omega)
  have hT:thN n Fo.nil.vs d = [100,101,97,100,108,111,99,107,59]:=by simp only [thN,e,Int.reduceEq,↓reduceIte] <;> rfl
  rw [hT] at hX ⊢
  simp only [List.length_append,List.length_cons,List.length_nil] at hX
  simp (disch:=omega) only [go_sem,↓cB,dB,k0c,e]
  try (simp (disch:=omega) only [go_sem,↓cB,dB,bsS1])
  refine call_to (put_lit (xs:=[[100,101,97,100,108,111,99,107,59]]) x1.w rfl (by simp only [List.flatten_cons,List.flatten_nil,List.length_append,List.length_cons,List.length_nil] at *; omega) (by simp)) ?_
  intro v H2 hv
  refine Hush.out ?_
  obtain ⟨w2,wq2⟩:=hv
  have x2:=x1.step w2 wq2
  have bn2:=wq2.blk bn1 (.inl (by simp))
  have nx2:NX H2 p n _ _ _ _:=nx1.keep wq2.low
  refine ⟨?_⟩
  try (simp (disch:=omega) only [go_sem,↓cB,dB,bsS1])
  refine call_to (put_lit (xs:=[[10]]) x2.w rfl (by simp only [List.flatten_cons,List.flatten_nil,List.length_append,List.length_cons,List.length_nil] at *; omega) (by simp)) ?_
  intro v H3 hv
  refine Hush.out ?_
  obtain ⟨w3,wq3⟩:=hv
  have x3:=x2.step w3 wq3
  have bn3:=wq3.blk bn2 (.inl (by simp))
  have nx3:NX H3 p n _ _ _ _:=nx2.keep wq3.low
  refine ⟨?_⟩
  simp (disch:=omega) only [go_sem,↓cB,dB]
  exact fin ⟨(w3.sub (fun b hb=>by simp [hb])).eq (by simp),(((wq0.trans (WQ.of_fr g1 hple0)).trans (wq2.sub (fun b hb=>by simp [hb]))).trans (wq3.sub (fun b hb=>by simp [hb])))⟩
 ·simp only [List.length_append,List.length_cons,List.length_nil] at hX
  have e1:¬ n.kind=1:=by omega
  have e2:¬ n.kind=2:=by omega
  have e3:¬ n.kind=3:=by omega
  have e4:¬ n.kind=4:=by omega
  have e5:¬ n.kind=5:=by omega
  simp (disch:=omega) only [go_sem,↓cB,dB,k0c,e1,e2,e3,e4,e5,decide_false]
  simp (disch:=omega) only [go_sem,↓cB,dB,ldn]
  refine call_to (wStatement_spec hok hko hkb hc e h15 ib x1 hl.kids nx1 hck hd (by simp only [List.length_append]; omega)) ?_
  intro v H2 hv
  refine Hush.out ?_
  obtain ⟨w2,wq2⟩:=hv
  refine ⟨?_⟩
  have x2:=x1.step w2 wq2
  have bn2:=wq2.blk bn1 (.inl (by simp))
  have nx2:NX H2 p n _ _ _ _:=nx1.keep wq2.low
  try (simp (disch:=omega) only [go_sem,↓cB,dB,bsS1])
  refine call_to (put_lit (xs:=[[10]]) x2.w rfl (by simp only [List.flatten_cons,List.flatten_nil,List.length_append,List.length_cons,List.length_nil] at *; omega) (by simp)) ?_
  intro v H3 hv
  refine Hush.out ?_
  obtain ⟨w3,wq3⟩:=hv
  have x3:=x2.step w3 wq3
  have bn3:=wq3.blk bn2 (.inl (by simp))
  have nx3:NX H3 p n _ _ _ _:=nx2.keep wq3.low
  refine ⟨?_⟩
  simp (disch:=omega) only [go_sem,↓cB,dB]
  exact fin ⟨(w3.sub (fun b hb=>by simp [hb])).eq (by simp),(((wq0.trans (WQ.of_fr g1 hple0)).trans (wq2.sub (fun b hb=>by simp [hb]))).trans (wq3.sub (fun b hb=>by simp [hb])))⟩
theorem allLn:∀ {k:Fo},k.All (fun n q=>(1≤n.kind∧n.kind≤15→LnS l p tv n q)∧(n.kind=16→BdS l p tv q))→(∀ x ∈ k.kinds,1≤x∧x≤15)→k.All (LnS l p tv)
 | .nil,_,_=>trivial
 | .cons m q r,h,hk=>⟨h.1.1 (hk _ (by simp [Fo.kinds])),allLn h.2 (fun x hx=>hk x (by simp [Fo.kinds,hx]))⟩
theorem allBd:∀ {k:Fo},k.All (fun n q=>(1≤n.kind∧n.kind≤15→LnS l p tv n q)∧(n.kind=16→BdS l p tv q))→k.All (fun m q=>m.kind=16→BdS l p tv q)
 | .nil,_=>trivial
 | .cons m q r,h=>⟨h.1.2,allBd h.2⟩
theorem wAll (l:List Nd) (p:Nat) (tv:Value):∀ (c:Nat) (k:Fo),k.cnt < c→k.cnt≤10000→k.ok=true→k.bare=true→k.All (fun n q=>(1≤n.kind∧n.kind≤15→LnS l p tv n q)∧(n.kind=16→BdS l p tv q)):=by
 intro c
 induction c with
 | zero=>intro k h; omega
 | succ c IH =>
  intro k hc hcc ho hb
  cases k with
  | nil=>trivial
  | cons n q r =>
   simp only [Fo.cnt] at hc hcc
   simp only [Fo.ok,Bool.and_eq_true] at ho
   simp only [Fo.bare,Bool.and_eq_true,decide_eq_true_eq] at hb
   have hq:=IH q (by omega) (by omega) ho.2.1 hb.2.1
   refine ⟨⟨fun h=>?_,fun h=>?_⟩,IH r (by omega) (by omega) ho.2.2 hb.2.2⟩
   ·refine wLine_spec ho.1 hb.1 ho.2.1 hb.2.1 (by omega) h.1 h.2 (fun e=>?_) (allBd hq)
    exact wBody_spec (allLn hq (fun x hx=>by have:=kids3 ho.1 e x hx; omega)) (by omega)
   ·exact wBody_spec (allLn hq (fun x hx=>by have:=kids16 ho.1 h x hx; omega)) (by omega)
end
end Go.Proofs.YtcffdpmmadipeaaGreatDoor
