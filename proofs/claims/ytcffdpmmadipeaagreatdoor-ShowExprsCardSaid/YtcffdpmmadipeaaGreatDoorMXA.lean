/- Texts of this proof, put together: ShwA, DigA, ShwB, LexP, ShwL, ShwN, ShwE, ShwF, ShwG, ShwH, ShwI, ShwJ. The conditions of each theorem stand in it. -/
import Derived.Test.YtcffdpmmadipeaaGreatDoorMX8
import Derived.Test.YtcffdpmmadipeaaGreatDoorMX6
import Derived.Test.YtcffdpmmadipeaaGreatDoorMX3
set_option linter.unusedSimpArgs false
set_option linter.unusedVariables false
namespace Go.Proofs.YtcffdpmmadipeaaGreatDoor
open Go.HL
set_option maxRecDepth 10000
def Fo.roots:Fo→Nat→List Int
 | .nil,_=>[]
 | .cons _ k r,a=>(a:Int) :: r.roots (a + 1 + k.cnt)
def Fo.lay:Fo→Nat→List Nd
 | .nil,_=>[]
 | .cons n k r,a=>{ n with kids:=n.kids ++ k.roots (a + 1) } :: (k.lay (a + 1) ++ r.lay (a + 1 + k.cnt))
def Fo.kinds:Fo→List Int
 | .nil=>[]
 | .cons n _ r=>n.kind :: r.kinds
def okN (n:Nd) (ks:List Int):Bool:=wordsM n (wcount n.kind) && (withinM n.nums (bnds n.kind) && kidsM n.kind ks)
def Fo.ok:Fo→Bool
 | .nil=>true
 | .cons n k r=>okN n k.kinds && (k.ok && r.ok)
def Fo.dep:Fo→Nat
 | .nil=>0
 | .cons _ k r=>max (k.dep + 1) r.dep
def Fo.bare:Fo→Bool
 | .nil=>true
 | .cons n k r=>decide (n.kids = []) && (k.bare && r.bare)
theorem Fo.lay_len:∀ (f:Fo) (a:Nat),(f.lay a).length=f.cnt
 | .nil,_=>rfl
 | .cons n k r,a=>by simp [Fo.lay,Fo.cnt,Fo.lay_len k,Fo.lay_len r]; omega
theorem Fo.roots_len:∀ (f:Fo) (a:Nat),(f.roots a).length=f.len
 | .nil,_=>rfl
 | .cons n k r,a=>by simp [Fo.roots,Fo.len,Fo.roots_len r]
theorem Fo.kinds_len:∀ (f:Fo),f.kinds.length=f.len
 | .nil=>rfl
 | .cons n k r=>by simp [Fo.kinds,Fo.len,Fo.kinds_len r]
def Lies (l:List Nd) (a:Nat) (f:Fo):Prop:=∃ post,l.drop a=f.lay a ++ post
section
variable {l:List Nd} {a:Nat} {n:Nd} {k r f:Fo}
theorem Lies.rest (h:Lies l a (.cons n k r)):Lies l (a + 1 + k.cnt) r:=by
 obtain ⟨post,h⟩:=h
 refine ⟨post,?_⟩
 have e:l.drop (a + 1 + k.cnt)=(l.drop a).drop (1 + k.cnt):=by rw [List.drop_drop]; congr 1; omega
 rw [e,h]
 simp only [Fo.lay,List.cons_append]
 rw [Nat.add_comm 1,List.drop_succ_cons,List.append_assoc,List.drop_append_of_le_length (by rw [Fo.lay_len]; exact Nat.le_refl _),List.drop_of_length_le (by rw [Fo.lay_len]; exact Nat.le_refl _)]
 simp
theorem Lies.kids (h:Lies l a (.cons n k r)):Lies l (a + 1) k:=by
 obtain ⟨post,h⟩:=h
 refine ⟨r.lay (a + 1 + k.cnt) ++ post,?_⟩
 rw [← List.drop_drop,h]
 simp [Fo.lay]
theorem Lies.one (h:Lies l a (.cons n k r)):Lies l a (.cons n k .nil):=by
 obtain ⟨post,h⟩:=h
 exact ⟨r.lay (a + 1 + k.cnt) ++ post,by rw [h]; simp [Fo.lay]⟩
theorem Lies.lt (h:Lies l a (.cons n k r)):a < l.length:=by
 obtain ⟨post,h⟩:=h
 rcases Nat.lt_or_ge a l.length with q | q
 ·exact q
 ·rw [List.drop_of_length_le q] at h; simp [Fo.lay] at h
theorem Lies.get (h:Lies l a (.cons n k r)) (hn:n.kids = []):l[a]?=some { n with kids:=k.roots (a + 1) }:=by
 obtain ⟨post,h⟩:=h
 have:(l.drop a)[0]?=some { n with kids:=n.kids ++ k.roots (a + 1) }:=by rw [h]; rfl
 rw [List.getElem?_drop] at this
 simpa [hn] using this
theorem Lies.end_le (h:Lies l a f):a≤l.length→a + f.cnt≤l.length:=by
 obtain ⟨post,h⟩:=h
 intro ha
 have:=congrArg List.length h
 simp [Fo.lay_len] at this
 omega
theorem Lies.node (h:Lies l a (.cons n k r)) (hn:n.kids = []):l.getD a nd0' = { n with kids:=k.roots (a + 1) }:=by
 rw [List.getD_eq_getElem?_getD,h.get hn]; rfl
theorem lies_end {post:List Nd} (h:l.drop a=f.lay a ++ post):l.drop (a + f.cnt)=post:=by
 rw [← List.drop_drop,h]
 exact List.drop_left' (Fo.lay_len f a)
end
theorem lies_kinds {l:List Nd}:∀ (f:Fo) (a:Nat),Lies l a f→(f.roots a).map (knd l)=f.kinds
 | .nil,_,_=>rfl
 | .cons n k r,a,h=>by
  simp only [Fo.roots,Fo.kinds,List.map_cons,lies_kinds r _ h.rest,List.cons.injEq,and_true]
  unfold knd
  obtain ⟨post,h⟩:=h
  have:(l.drop a)[0]?=some { n with kids:=n.kids ++ k.roots (a + 1) }:=by rw [h]; rfl
  rw [List.getElem?_drop] at this
  rw [List.getD_eq_getElem?_getD]
  simp only [Int.toNat_natCast]
  simp only [Nat.add_zero] at this
  rw [this]; rfl
theorem lies_tree {l:List Nd}:∀ (f:Fo) (a d:Nat),Lies l a f→f.bare=true→f.ok=true→f.dep≤d→treeK (treeM l d) (f.roots a) a=(a + f.cnt,true)
 | .nil,a,d,_,_,_,_=>by simp [Fo.roots,treeK,Fo.cnt]
 | .cons n k r,a,d,h,hb,ho,hd=>by
  simp only [Fo.bare,Bool.and_eq_true,decide_eq_true_eq] at hb
  simp only [Fo.ok,Bool.and_eq_true] at ho
  simp only [Fo.dep] at hd
  obtain ⟨d,rfl⟩:∃ m,d=m + 1:=⟨d - 1,by omega⟩
  have hg:=h.get hb.1
  have hl:=h.lt
  have ek:=lies_tree k (a + 1) d h.kids hb.2.1 ho.2.1 (by omega)
  have er:=lies_tree r (a + 1 + k.cnt) (d + 1) h.rest hb.2.2 ho.2.2 (by omega)
  have eg:l.getD a nd0' = { n with kids:=k.roots (a + 1) }:=by rw [List.getD_eq_getElem?_getD,hg]; rfl
  have en:nodeP l { n with kids:=k.roots (a + 1) } = true:=by
   unfold nodeP
   simp only [lies_kinds k _ h.kids]
   exact ho.1
  have e1:treeM l (d + 1) a=(a + 1 + k.cnt,true):=by
   unfold treeM
   rw [if_pos hl,eg]
   simp only [ek,en,if_true]
  simp only [Fo.roots]
  unfold treeK
  rw [if_pos rfl,e1]
  simp only [if_true,er,Fo.cnt,Prod.mk.injEq,and_true]
  omega
theorem tree_lies {l:List Nd}:∀ (d:Nat),(∀ (a e:Nat),treeM l d a=(e,true)→∃ n k,Lies l a (.cons n k .nil)∧e=a + 1 + k.cnt∧(Fo.cons n k .nil).bare=true∧(Fo.cons n k .nil).ok=true∧k.dep + 1≤d) ∧
  (∀ (ks:List Int) (a e:Nat),treeK (treeM l d) ks a=(e,true)→∃ f:Fo,Lies l a f∧ks=f.roots a∧e=a + f.cnt∧f.bare=true∧f.ok=true∧f.dep≤d):=by
 have step:∀ (d:Nat),(∀ (a e:Nat),treeM l d a=(e,true)→∃ n k,Lies l a (.cons n k .nil)∧e=a + 1 + k.cnt∧(Fo.cons n k .nil).bare=true∧(Fo.cons n k .nil).ok=true∧k.dep + 1≤d) →
   ∀ (ks:List Int) (a e:Nat),treeK (treeM l d) ks a=(e,true)→∃ f:Fo,Lies l a f∧ks=f.roots a∧e=a + f.cnt∧f.bare=true∧f.ok=true∧f.dep≤d:=by
  intro d ih ks
  induction ks with
  | nil =>
   intro a e h
   simp only [treeK,Prod.mk.injEq,and_true] at h
   exact ⟨.nil,⟨l.drop a,by simp [Fo.lay]⟩,rfl,by simp [Fo.cnt,h],rfl,rfl,by simp [Fo.dep]⟩
  | cons x ks IH =>
   intro a e h
   unfold treeK at h
   split at h
   ·rename_i hx
    subst hx
    cases q:treeM l d a with
    | mk e1 b1 =>
    rw [q] at h
    cases b1
    ·simp at h
    simp only [if_true] at h
    obtain ⟨n,k,h1,rfl,h3,h4,h5⟩:=ih a e1 q
    obtain ⟨f,g1,g2,rfl,g4,g5,g6⟩:=IH _ _ h
    refine ⟨.cons n k f,?_,?_,?_,?_,?_,?_⟩
    ·obtain ⟨p1,h1⟩:=h1
     obtain ⟨p2,g1⟩:=g1
     refine ⟨p2,?_⟩
     have e2:=lies_end h1
     have e3:a + (Fo.cons n k .nil).cnt=a + 1 + k.cnt:=by simp [Fo.cnt]; omega
     rw [e3,g1] at e2
     rw [h1,← e2]
     simp [Fo.lay]
    ·simp [Fo.roots,g2]
    ·simp [Fo.cnt]; omega
    ·simp only [Fo.bare,Bool.and_true,Bool.and_eq_true,decide_eq_true_eq] at h3 ⊢
     exact ⟨h3.1,h3.2,g4⟩
    ·simp only [Fo.ok,Bool.and_true,Bool.and_eq_true] at h4 ⊢
     exact ⟨h4.1,h4.2,g5⟩
    ·simp only [Fo.dep]; omega
   ·simp at h
 intro d
 induction d with
 | zero =>
  have h0:∀ (a e:Nat),treeM l 0 a=(e,true)→∃ n k,Lies l a (.cons n k .nil)∧e=a + 1 + k.cnt∧(Fo.cons n k .nil).bare=true∧(Fo.cons n k .nil).ok=true∧k.dep + 1≤0:=by
   intro a e h; simp [treeM] at h
  exact ⟨h0,step 0 h0⟩
 | succ d IH =>
  have h1:∀ (a e:Nat),treeM l (d + 1) a=(e,true)→∃ n k,Lies l a (.cons n k .nil)∧e=a + 1 + k.cnt∧(Fo.cons n k .nil).bare=true∧(Fo.cons n k .nil).ok=true∧k.dep + 1≤d + 1:=by
   intro a e h
   unfold treeM at h
   split at h
   ·rename_i hl
    cases q:treeK (treeM l d) (l.getD a nd0').kids (a + 1) with
    | mk e1 b1 =>
    rw [q] at h
    cases b1
    ·simp at h
    simp only [if_true,Prod.mk.injEq] at h
    obtain ⟨rfl,hn⟩:=h
    obtain ⟨f,g1,g2,rfl,g4,g5,g6⟩:=IH.2 _ _ _ q
    have hk:=lies_kinds f (a + 1) g1
    refine ⟨{ l.getD a nd0' with kids:=[] },f,?_,rfl,?_,?_,by omega⟩
    ·obtain ⟨post,g1⟩:=g1
     refine ⟨post,?_⟩
     rw [List.drop_eq_getElem_cons hl,g1]
     simp only [Fo.lay,List.nil_append,List.append_nil,List.cons_append,List.cons.injEq,and_true]
     have:l[a]=l.getD a nd0':=by rw [List.getD_eq_getElem?_getD,List.getElem?_eq_getElem hl]; rfl
     rw [this,← g2]
    ·simp [Fo.bare,g4]
    ·simp only [Fo.ok,Bool.and_true,Bool.and_eq_true]
     refine ⟨?_,g5⟩
     rw [← hk,← g2]
     exact hn
   ·simp at h
  exact ⟨h1,step (d + 1) h1⟩
def layT (n:Nd) (k:Fo):List Nd:=(Fo.cons n k .nil).lay 0
structure RT (n:Nd) (k:Fo):Prop where
 kind:n.kind=0
 bare:(Fo.cons n k .nil).bare=true
 ok:(Fo.cons n k .nil).ok=true
 dep:k.dep≤19
 cnt:k.cnt≤799
theorem layT_lies {n:Nd} {k:Fo}:Lies (layT n k) 0 (.cons n k .nil):=⟨[],by simp [layT]⟩
theorem layT_len {n:Nd} {k:Fo}:(layT n k).length=k.cnt + 1:=by unfold layT; rw [Fo.lay_len]; simp [Fo.cnt]; omega
theorem RT.right {n:Nd} {k:Fo} (h:RT n k):prRightM (layT n k)=true:=by
 have h1:=lies_tree (Fo.cons n k .nil) 0 20 layT_lies h.bare h.ok (by have:=h.dep; simp [Fo.dep]; omega)
 have hb:=h.bare
 simp only [Fo.bare,Bool.and_eq_true,decide_eq_true_eq] at hb
 have hk:=h.kind
 have h2:treeM (layT n k) 20 0=((layT n k).length,true):=by
  simp only [Fo.roots] at h1
  unfold treeK at h1
  rw [if_pos rfl] at h1
  rw [layT_len]
  cases q:treeM (layT n k) 20 0 with
  | mk e b =>
  rw [q] at h1
  cases b
  ·simp at h1
  ·simp only [if_true,treeK,Fo.cnt,Prod.mk.injEq,and_true] at h1 ⊢
   omega
 have h3:=layT_lies.get (l:=layT n k) hb.1
 unfold prRightM
 rw [h2,layT_len]
 have hc:=h.cnt
 have e0:(layT n k).getD 0 nd0' = { n with kids:=k.roots 1 }:=by rw [List.getD_eq_getElem?_getD,h3]; rfl
 rw [e0]
 simp [hk]
 omega
theorem right_rt {l:List Nd} (h:prRightM l=true):∃ n k,RT n k∧l=layT n k:=by
 unfold prRightM at h
 simp only [Bool.and_eq_true,decide_eq_true_eq] at h
 obtain ⟨h1,h2,h3,h4,h5⟩:=h
 have h6:treeM l 20 0=(l.length,true):=by rw [← h4,← h5]
 obtain ⟨n,k,g1,g2,g3,g4,g5⟩:=(tree_lies (l:=l) 20).1 0 _ h6
 have hb:=g3
 simp only [Fo.bare,Bool.and_eq_true,decide_eq_true_eq] at hb
 have hg:=g1.get hb.1
 have e0:l.getD 0 nd0' = { n with kids:=k.roots 1 }:=by rw [List.getD_eq_getElem?_getD,hg]; rfl
 rw [e0] at h3
 refine ⟨n,k,⟨h3,g3,g4,by omega,by omega⟩,?_⟩
 obtain ⟨post,hp⟩:=g1
 have hl:=congrArg List.length hp
 simp [Fo.lay_len,Fo.cnt] at hl
 have:post = []:=List.length_eq_zero_iff.1 (by omega)
 subst this
 simpa [layT] using hp
theorem mod_app {α:Type} {g:α→α}:∀ (A B:List α) (j:Nat),j < A.length→(A ++ B).modify j g=A.modify j g ++ B
 | [],B,j,h=>by simp at h
 | a :: A,B,0,_=>rfl
 | a :: A,B,j + 1,h=>by
  simp only [List.cons_append,List.modify_succ_cons,List.cons.injEq,true_and]
  exact mod_app A B j (by simpa using h)
theorem mod_at {α:Type} {g:α→α} {x:α}:∀ (A B:List α),(A ++ x :: B).modify A.length g=A ++ g x :: B
 | [],B=>rfl
 | a :: A,B=>by
  simp only [List.cons_append,List.length_cons,List.modify_succ_cons,List.cons.injEq,true_and]
  exact mod_at A B
theorem mod_mod {α:Type} {g g':α→α}:∀ (A:List α) (j:Nat),(A.modify j g).modify j g'=A.modify j (fun x=>g' (g x))
 | [],j=>by simp
 | a :: A,0=>rfl
 | a :: A,j + 1=>by
  simp only [List.modify_succ_cons,List.cons.injEq,true_and]
  exact mod_mod A j
theorem layF_eq:∀ (f:Fo) (j:Nat) (out:List Nd),j < out.length→layF f j out=out.modify j (fun n=>{ n with kids:=n.kids ++ f.roots out.length }) ++ f.lay out.length
 | .nil,j,out,h=>by
  simp only [layF,Fo.roots,Fo.lay,List.append_nil]
  exact (List.modify_id j out).symm
 | .cons n k r,j,out,h=>by
  unfold layF
  rw [layF_eq k out.length _ (by simp)]
  have e2:(out.modify j (kidM out.length) ++ [n]).length=out.length + 1:=by simp
  have e0:out.length=(out.modify j (kidM out.length)).length:=by simp
  rw [e2]
  have e3:(out.modify j (kidM out.length) ++ [n]).modify out.length (fun m=>{ m with kids:=m.kids ++ k.roots (out.length + 1) })=out.modify j (kidM out.length) ++ [{ n with kids:=n.kids ++ k.roots (out.length + 1) }]:=by
   have:=mod_at (g:=fun m:Nd=>{ m with kids:=m.kids ++ k.roots (out.length + 1) }) (x:=n) (out.modify j (kidM out.length)) []
   rw [← e0] at this
   exact this
  rw [e3,List.append_assoc,layF_eq r j _ (by simp; omega),mod_app _ _ _ (by simpa using h),mod_mod]
  have e4:(out.modify j (kidM out.length) ++ ([{ n with kids:=n.kids ++ k.roots (out.length + 1) }] ++ k.lay (out.length + 1))).length=out.length + 1 + k.cnt:=by simp [Fo.lay_len]; omega
  rw [e4]
  simp [Fo.lay,Fo.roots,kidM]
theorem layF_layT {n:Nd} {k:Fo}:layF k 0 [n]=layT n k:=by
 rw [layF_eq k 0 [n] (by simp)]
 simp [layT,Fo.lay]
end Go.Proofs.YtcffdpmmadipeaaGreatDoor
namespace Go.HL
theorem conv_byte {P:Program} {H:Heap} {s d e b o c:Nat} {n:Int} (hs:P.underlying s=some (.slice e)) (he:P.underlying e=some (.int .u8)) (hd:P.underlying d=some .string) (hc:cellH H ⟨b,o,none⟩=some (.int .u8 n)) :
  convV P (full H) s d (.slice (some ⟨b,o,none⟩) 1 c)=some (.string (bs [UInt8.ofNat n.toNat])):=by
 show qrun P (convert s d (.slice (some ⟨b,o,none⟩) 1 c)) H=_
 unfold convert
 rw [qrun_bind',qrun_underlying hs,Option.bind_some,qrun_bind',qrun_underlying hd,Option.bind_some]
 show qrun P (do match ← underlying e with
  | .int .u8=>Conv.bytesToString (.slice (some ⟨b,o,none⟩) 1 c)
  | .int .i32=>Conv.runesToString (.slice (some ⟨b,o,none⟩) 1 c)
  | _=>stuck "Convert: a slice of what to string?") H=_
 rw [qrun_bind',qrun_underlying he,Option.bind_some]
 show qrun P (Conv.bytesToString (.slice (some ⟨b,o,none⟩) 1 c)) H=_
 unfold Conv.bytesToString
 simp only [qrun_bind']
 have hl:qrun P (loadCells ⟨b,o,none⟩ 1) H=some #[.int .u8 n]:=by
  unfold loadCells
  have:=qrun_loadCellsFrom (P:=P) (H:=H) (a:=⟨b,o,none⟩) 1 0 #[] [.int .u8 n] (by simp [cellsH,Addr.add,hc])
  simpa using this
 rw [hl,Option.bind_some]
 rfl
end Go.HL
namespace Go.Proofs.YtcffdpmmadipeaaGreatDoor
open Go.HL
set_option maxRecDepth 10000
def dig1 (n:Nat):UInt8:=UInt8.ofNat (48 + n)
def digF:Nat→Nat→Str
 | 0,_=>[]
 | f + 1,n=>if n < 10 then [dig1 n] else digF f (n / 10) ++ [dig1 (n % 10)]
def digI (n:Int):Str:=if n < 0 then 45 :: digF 7 (-n).toNat else digF 7 n.toNat
theorem digF_len:∀ (f n:Nat),(digF f n).length≤f
 | 0,n=>by simp [digF]
 | f + 1,n=>by
  unfold digF
  split
  ·simp
  ·have:=digF_len f (n / 10); simp; omega
theorem digF_len2:∀ (f n k:Nat),n < 10 ^ k→1≤k→(digF f n).length≤k
 | 0,n,k,_,_=>by simp [digF]
 | f + 1,n,k,h,hk=>by
  unfold digF
  split
  ·simp; omega
  ·rename_i h10
   have h2:2≤k:=by
    rcases Nat.lt_or_ge 1 k with h | h
    ·omega
    ·have:k=1:=by omega
     subst this; omega
   have hp:10 ^ k=10 ^ (k - 1) * 10:=by
    rw [← Nat.pow_succ]; congr 1; omega
   have:=digF_len2 f (n / 10) (k - 1) (by omega) (by omega)
   simp; omega
theorem digF_pos {f n:Nat}:0 < (digF (f + 1) n).length:=by
 unfold digF
 split <;> simp
theorem dig1_toNat {n:Nat} (h:n < 10):(dig1 n).toNat=48 + n:=by
 unfold dig1
 rw [UInt8.toNat_ofNat']
 omega
theorem digF_all:∀ (f n:Nat),(digF f n).all digitM=true
 | 0,n=>by simp [digF]
 | f + 1,n=>by
  unfold digF
  split
  ·rename_i h
   simp [digitM,dig1_toNat h]; omega
  ·rw [List.all_append,digF_all f]
   have:=dig1_toNat (n:=n % 10) (by omega)
   simp [digitM,this]; omega
theorem digF_val:∀ (f n:Nat),n < 10 ^ f→valM (digF f n)=n
 | 0,n,h=>by
  have:n=0:=by simpa using h
  subst this; rfl
 | f + 1,n,h=>by
  unfold digF
  split
  ·rename_i h10
   simp [valM,dig1_toNat h10]; omega
  ·have ih:=digF_val f (n / 10) (by rw [Nat.pow_succ] at h; omega)
   unfold valM at ih ⊢
   rw [List.foldl_append,ih]
   simp [dig1_toNat (n:=n % 10) (by omega)]
   omega
section
variable {H:Heap}
theorem r1Digits_pos:∀ (f:Nat) {H:Heap} {n:Nat},n < 10 ^ (f + 1)→f≤10→CallF Tryz.prog 34 [iv n] H (fun r H'=>r=sv (digF (f + 1) n)∧Fr [] H H') NoP:=by
 have one:∀ {H:Heap} {n:Nat},n < 10→CallF Tryz.prog 34 [iv n] H (fun r H'=>r=sv [dig1 n]∧Fr [] H H') NoP:=by
  intro H n hn
  have hwr:IntKind.u8.wrap (48 + (n:Int))=48 + (n:Int):=by simp [IntKind.wrap,IntKind.bits,IntKind.signed]; omega
  have hbt:(48 + (n:Int)).toNat=48 + n:=by omega
  have hcv:convV Tryz.prog (full (H.push (.cells #[.int .u8 (48 + (n:Int))] 5))) 45 9 (.slice (some ⟨H.size,0,none⟩) 1 1)=some (.string (bs [dig1 n])):=by
   have:=conv_byte (P:=Tryz.prog) (H:=H.push (.cells #[.int .u8 (48 + (n:Int))] 5)) (b:=H.size) (o:=0) (c:=1) Tryz.underlying45 Tryz.underlying5 Tryz.underlying9 ((Blk.new rfl).cell 0)
   rw [hbt] at this
   exact this
  refine callF_of Tryz.func34 rfl Tryz.ntmps34 Tryz.results34 (by decide) rfl ?_
  simp (disch:=omega) only [go_sem,↓cB,dB,hwr,hcv]
  exact fin ⟨rfl,Fr.push⟩
 intro f
 induction f with
 | zero =>
  intro H n hn _
  have h10:n < 10:=by simpa using hn
  have e:digF (0 + 1) n = [dig1 n]:=by unfold digF; rw [if_pos h10]
  rw [e]
  exact one h10
 | succ f IH =>
  intro H n hn hf
  by_cases h10:n < 10
  ·have e:digF (f + 1 + 1) n = [dig1 n]:=by unfold digF; rw [if_pos h10]
   rw [e]
   exact one h10
  have e:digF (f + 1 + 1) n=digF (f + 1) (n / 10) ++ [dig1 (n % 10)]:=by
   have:∀ g,digF (g + 1) n=if n < 10 then [dig1 n] else digF g (n / 10) ++ [dig1 (n % 10)]:=fun _=>rfl
   rw [this,if_neg h10]
  rw [e]
  have hp:(10:Nat) ^ (f + 1 + 1)≤10 ^ 11:=Nat.pow_le_pow_right (by omega) (by omega)
  have hd:(n:Int).tdiv 10=((n / 10:Nat):Int):=by
   rw [Int.tdiv_eq_ediv_of_nonneg (by omega)]; omega
  have hm:(n:Int).tmod 10=((n % 10:Nat):Int):=by
   rw [Int.tmod_eq_emod_of_nonneg (by omega)]; omega
  have hle:=digF_len (f + 1) (n / 10)
  have hn1:n / 10 < 10 ^ (f + 1):=by rw [Nat.pow_succ] at hn; omega
  refine callF_of Tryz.func34 rfl Tryz.ntmps34 Tryz.results34 (by decide) rfl ?_
  simp (disch:=omega) only [go_sem,↓cB,dB,hd]
  refine call_to (IH hn1 (by omega)) ?_
  intro r1 H1 hv
  refine Hush.out ?_
  obtain ⟨rfl,f1⟩:=hv
  refine ⟨?_⟩
  simp (disch:=omega) only [go_sem,↓cB,dB,hm]
  refine call_to (one (by omega)) ?_
  intro r2 H2 hv
  refine Hush.out ?_
  obtain ⟨rfl,f2⟩:=hv
  have hl1:([dig1 (n % 10)]:Str).length=1:=rfl
  refine ⟨?_⟩
  simp (disch:=omega) only [go_sem,↓cB,dB,hl1]
  exact fin ⟨rfl,f1.trans f2⟩
theorem r1Digits_spec {n:Int} (h:-999999≤n∧n≤999999):CallF Tryz.prog 34 [iv n] H (fun r H'=>r=sv (digI n)∧Fr [] H H') NoP:=by
 unfold digI
 by_cases h0:n < 0
 ·rw [if_pos h0]
  obtain ⟨m,hm⟩:∃ m:Nat,-n=m:=⟨(-n).toNat,by omega⟩
  have hmt:(-n).toNat=m:=by omega
  rw [hmt]
  have hle:=digF_len 7 m
  have hl1:([45]:Str).length=1:=rfl
  refine callF_of Tryz.func34 rfl Tryz.ntmps34 Tryz.results34 (by decide) rfl ?_
  simp (disch:=omega) only [go_sem,↓cB,dB,hm]
  refine call_to (r1Digits_pos 6 (by omega) (by omega)) ?_
  intro r1 H1 hv
  refine Hush.out ?_
  obtain ⟨rfl,f1⟩:=hv
  refine ⟨?_⟩
  simp (disch:=omega) only [go_sem,↓cB,dB,hl1]
  exact fin ⟨rfl,f1⟩
 ·rw [if_neg h0]
  obtain ⟨m,rfl⟩:∃ m:Nat,n=m:=⟨n.toNat,by omega⟩
  simp only [Int.toNat_natCast]
  exact r1Digits_pos 6 (by omega) (by omega)
end
end Go.Proofs.YtcffdpmmadipeaaGreatDoor
namespace Go.Proofs.YtcffdpmmadipeaaGreatDoor
open Go.HL
set_option maxRecDepth 10000
structure KV where
 lev:Int
 ex:Str
 th:Nat→Str
 bd:Nat→Str
def kv0:KV:=⟨9,[],fun _=>[],fun _=>[]⟩
def levS (s:Int):Int:=if s=0 then 0 else if s=1 then 1 else if s=2 then 2 else if s=3 then 3 else if s=4 then 4 else if s=5 then 4 else 5
def levN (n:Nd):Int:=if n.kind=22 then levS (n.nums.getD 0 0) else 9
def signM (s:Int):Str:=if s=0 then [124,124] else if s=1 then [38,38] else if s=2 then [61,61] else if s=3 then [60] else if s=4 then [43] else if s=5 then [45] else if s=6 then [42] else if s=7 then [47] else [37]
def parS (b:Bool) (s:Str):Str:=if b then [40] ++ s ++ [41] else s
def leftM (s:Int):Int:=if s=2∨s=3 then levS s + 1 else levS s
def n0' (n:Nd):Int:=n.nums.getD 0 0
def w0' (n:Nd):Str:=n.words.getD 0 []
def exN (n:Nd) (ks:List KV):Str :=
 if n.kind=17 then digI (n0' n)
 else if n.kind=18 then w0' n
 else if n.kind=19 then [108,101,110,32] ++ w0' n
 else if n.kind=20 then [45] ++ parS (decide ((ks.getD 0 kv0).lev < 6)) (ks.getD 0 kv0).ex
 else if n.kind=21 then [33] ++ parS (decide ((ks.getD 0 kv0).lev < 6)) (ks.getD 0 kv0).ex
 else if n.kind=22 then parS (decide ((ks.getD 0 kv0).lev < leftM (n0' n))) (ks.getD 0 kv0).ex ++ [32] ++ signM (n0' n) ++ [32] ++ parS (decide ((ks.getD 1 kv0).lev < levS (n0' n) + 1)) (ks.getD 1 kv0).ex
 else []
def inS (d:Nat):Str:=List.replicate (2 * d) 32
theorem inS_succ (d:Nat):inS (d + 1)=inS d ++ [32] ++ [32]:=by
 unfold inS
 have:2 * (d + 1)=2 * d + 2:=by omega
 rw [this,← List.replicate_append_replicate]
 simp [List.replicate]
def linesS (d:Nat):List KV→Str
 | []=>[]
 | k :: r=>inS d ++ k.th d ++ [10] ++ linesS d r
def braS (ks:List KV) (d:Nat):Str:=match ks with
 | []=>[123,32,125]
 | k :: r=>[123,10] ++ linesS (d + 1) (k :: r) ++ inS d ++ [125]
def restS (w:Str) (d:Nat):List KV→Str
 | []=>[]
 | k :: r=>w ++ k.bd d ++ restS w d r
def joinS (w:Str) (d:Nat):List KV→Str
 | []=>[]
 | k :: r=>k.bd d ++ restS w d r
def optS (n:Int) (s:Str):Str:=if n=0 then [] else s
def thN (n:Nd) (ks:List KV) (d:Nat):Str :=
 if n.kind=1 then [99,104,97,110,32] ++ w0' n ++ [91] ++ digI (n0' n) ++ [93,32,111,102,32] ++ digI (n.nums.getD 1 0) ++ optS (n.nums.getD 2 0) [32,108,111,115,115,121] ++ optS (n.nums.getD 3 0) [32,99,111,112,121,105,110,103] ++ [59]
 else if n.kind=2 then [118,97,114,32] ++ w0' n ++ [32,111,102,32] ++ digI (n0' n) ++ [32,61,32] ++ digI (n.nums.getD 1 0) ++ [59]
 else if n.kind=3 then [112,114,111,99,32] ++ w0' n ++ [32,42,32] ++ digI (n0' n) ++ [32] ++ braS ks d
 else if n.kind=4 then [115,97,102,101,32] ++ (ks.getD 0 kv0).ex ++ [59]
 else if n.kind=5 then [100,101,97,100,108,111,99,107,59]
 else if n.kind=6 then w0' n ++ [32,61,32] ++ (ks.getD 0 kv0).ex ++ [59]
 else if n.kind=7 then [115,101,110,100,32] ++ w0' n ++ [32] ++ (ks.getD 0 kv0).ex ++ [59]
 else if n.kind=8 then optS (n0' n) [105,100,108,101,32] ++ [114,101,99,118,32] ++ w0' n ++ [32] ++ n.words.getD 1 [] ++ [59]
 else if n.kind=9 then optS (n0' n) [105,100,108,101,32] ++ [119,104,101,110,32] ++ (ks.getD 0 kv0).ex ++ [59]
 else if n.kind=10 then optS (n0' n) [105,100,108,101,32] ++ [99,104,111,111,115,101,32] ++ joinS [32,111,114,32] d ks
 else if n.kind=11 then [105,102,32] ++ (ks.getD 0 kv0).ex ++ [32] ++ joinS [32,101,108,115,101,32] d ks.tail
 else if n.kind=12 then [119,104,105,108,101,32] ++ (ks.getD 0 kv0).ex ++ [32] ++ joinS [] d ks.tail
 else if n.kind=13 then [97,116,111,109,105,99,32] ++ joinS [] d ks
 else if n.kind=14 then [115,107,105,112,59]
 else if n.kind=15 then [115,116,111,112,59]
 else []
def stepV (n:Nd) (ks:List KV):KV:=⟨levN n,exN n ks,thN n ks,braS ks⟩
def Fo.vs:Fo→List KV
 | .nil=>[]
 | .cons n k r=>stepV n k.vs :: r.vs
def showT (k:Fo):Str:=linesS 0 k.vs
theorem Fo.vs_len:∀ (f:Fo),f.vs.length=f.len
 | .nil=>rfl
 | .cons n k r=>by simp [Fo.vs,Fo.len,Fo.vs_len r]
theorem levS_rng (s:Int):0≤levS s∧levS s≤5:=by unfold levS; (repeat' split) <;> omega
theorem par_len {b:Bool} {s:Str}:(parS b s).length≤s.length + 2:=by unfold parS; split <;> simp <;> omega
theorem sign_len {s:Int}:(signM s).length≤2:=by unfold signM; (repeat' split) <;> simp
theorem dig_len (n:Int):(digI n).length≤8:=by
 unfold digI
 split
 ·have:=digF_len 7 (-n).toNat; simp; omega
 ·have:=digF_len 7 n.toNat; omega
theorem opt_len {n:Int} {s:Str}:(optS n s).length≤s.length:=by unfold optS; split <;> simp
def wOk (n:Nd):Prop:=∀ w ∈ n.words,w.length≤12
theorem wOk_getD {n:Nd} (h:wOk n) (i:Nat):(n.words.getD i []).length≤12:=by
 by_cases hi:i < n.words.length
 ·have:=getD_some (d:=([]:Str)) hi
  exact h _ (List.mem_of_getElem? this)
 ·rw [List.getD_eq_getElem?_getD,List.getElem?_eq_none (by omega)]; simp
theorem okN_words {n:Nd} {ks:List Int} (h:okN n ks=true):wOk n:=by
 unfold okN wordsM at h
 simp only [Bool.and_eq_true,allR_iff,decide_eq_true_eq] at h
 intro w hw
 obtain ⟨i,hi,rfl⟩:=List.mem_iff_getElem.1 hw
 have:=h.1.1 i hi
 unfold nameM at this
 simp only [Bool.and_eq_true,decide_eq_true_eq] at this
 have e:n.words.getD i []=n.words[i]:=by rw [List.getD_eq_getElem?_getD,List.getElem?_eq_getElem hi]; rfl
 rw [e] at this
 exact this.1.1.1.2
structure Short (ks:List KV) (c m:Nat):Prop where
 ex0:(ks.getD 0 kv0).ex.length≤300 * c
 ex1:(ks.getD 0 kv0).ex.length + (ks.getD 1 kv0).ex.length≤300 * c
 lin:∀ d,d + m≤50→(linesS d ks).length≤300 * c
 rst:∀ d w,d + m≤50→w.length≤6→(restS w d ks).length≤300 * c
 joi:∀ d w,d + m≤50→w.length≤6→(joinS w d ks).length≤300 * c
 tal:∀ d w,d + m≤50→w.length≤6→(ks.getD 0 kv0).ex.length + (joinS w d ks.tail).length≤300 * c
theorem in_len (d:Nat):(inS d).length=2 * d:=by simp [inS]
theorem bra_len {ks:List KV} {c m d:Nat} (hs:Short ks c m) (hd:d + 1 + m≤50):(braS ks d).length≤110 + 300 * c:=by
 unfold braS
 split
 ·simp; omega
 ·rename_i k r
  have:=hs.lin (d + 1) hd
  simp only [List.length_append,in_len,List.length_cons,List.length_nil] at this ⊢
  omega
theorem ex_len {n:Nd} {ks:List KV} {c m:Nat} (hw:wOk n) (hs:Short ks c m):(exN n ks).length≤40 + 300 * c:=by
 have h0:=wOk_getD hw 0
 have h1:=dig_len (n0' n)
 have h2:=hs.ex0
 have h3:=hs.ex1
 have p0:=@par_len (decide ((ks.getD 0 kv0).lev < 6)) (ks.getD 0 kv0).ex
 have p1:=@par_len (decide ((ks.getD 0 kv0).lev < leftM (n0' n))) (ks.getD 0 kv0).ex
 have p2:=@par_len (decide ((ks.getD 1 kv0).lev < levS (n0' n) + 1)) (ks.getD 1 kv0).ex
 have p3:=@sign_len (n0' n)
 unfold exN w0'
 repeat' split
 all_goals try simp only [List.length_append,List.length_cons,List.length_nil]
 all_goals omega
theorem ite_le {c:Prop} [Decidable c] {x y:Str} {b:Nat} (h:c→x.length≤b) (h':¬ c→y.length≤b):(if c then x else y).length≤b:=by
 by_cases hc:c
 ·rw [if_pos hc]; exact h hc
 ·rw [if_neg hc]; exact h' hc
theorem th_len {n:Nd} {ks:List KV} {c m d:Nat} (hw:wOk n) (hs:Short ks c m) (hd:d + 1 + m≤50):(thN n ks d).length≤170 + 300 * c:=by
 have h0:=wOk_getD hw 0
 have h00:=wOk_getD hw 1
 have h1:=dig_len (n0' n)
 have h2:=dig_len (n.nums.getD 1 0)
 have h3:=hs.ex0
 have h4:=bra_len hs hd
 have h5:=hs.joi d [111,114] (by omega) (by simp)
 have h6:=hs.joi d [32,111,114,32] (by omega) (by simp)
 have h7:=hs.joi d [] (by omega) (by simp)
 have h8:=hs.tal d [32,101,108,115,101,32] (by omega) (by simp)
 have h9:=hs.tal d [] (by omega) (by simp)
 have o1:=@opt_len (n.nums.getD 2 0) [32,108,111,115,115,121]
 have o2:=@opt_len (n.nums.getD 3 0) [32,99,111,112,121,105,110,103]
 have o3:=@opt_len (n0' n) [105,100,108,101,32]
 simp only [List.length_cons,List.length_nil] at o1 o2 o3
 unfold thN w0'
 repeat' refine ite_le (fun _=>?_) (fun _=>?_)
 all_goals try simp only [List.length_append,List.length_cons,List.length_nil]
 all_goals omega
theorem short_of:∀ (f:Fo),f.ok=true→Short f.vs f.cnt f.dep
 | .nil,_=>by
  refine ⟨?_,?_,?_,?_,?_,?_⟩ <;> simp [Fo.vs,kv0,linesS,restS,joinS]
 | .cons n k r,h=>by
  simp only [Fo.ok,Bool.and_eq_true] at h
  have hw:=okN_words h.1
  have hk:=short_of k h.2.1
  have hr:=short_of r h.2.2
  have e0:=ex_len hw hk
  have dk:∀ d,d + max (k.dep + 1) r.dep≤50→d + 1 + k.dep≤50∧d + r.dep≤50:=by intro d hd; omega
  have c1:(Fo.cons n k r).cnt=1 + k.cnt + r.cnt:=rfl
  have g0:((stepV n k.vs :: r.vs).getD 0 kv0).ex=exN n k.vs:=rfl
  have g1:((stepV n k.vs :: r.vs).getD 1 kv0)=r.vs.getD 0 kv0:=rfl
  have ir:=hr.ex0
  refine ⟨?_,?_,?_,?_,?_,?_⟩ <;> simp only [Fo.vs,Fo.dep,c1,g0,g1]
  ·omega
  ·omega
  ·intro d hd
   have:=dk d hd
   have a1:=th_len hw hk this.1
   have a2:=hr.lin d this.2
   simp only [linesS,stepV,List.length_append,in_len,List.length_cons,List.length_nil]
   omega
  ·intro d w hd hl
   have:=dk d hd
   have a1:=bra_len hk this.1
   have a2:=hr.rst d w this.2 hl
   simp only [restS,stepV,List.length_append]
   omega
  ·intro d w hd hl
   have:=dk d hd
   have a1:=bra_len hk this.1
   have a2:=hr.rst d w this.2 hl
   simp only [joinS,stepV,List.length_append]
   omega
  ·intro d w hd hl
   have:=dk d hd
   have a2:=hr.joi d w this.2 hl
   simp only [List.tail_cons]
   omega
end Go.Proofs.YtcffdpmmadipeaaGreatDoor
namespace Go.Proofs.YtcffdpmmadipeaaGreatDoor
open Go.HL
set_option maxRecDepth 10000
inductive Pc where
 | sp (c:UInt8) | wd (w:Str) | nm (w:Str) | sg (w:Str)
def Pc.txt:Pc→Str
 | .sp c=>[c]
 | .wd w=>w
 | .nm w=>w
 | .sg w=>w
def Pc.ok:Pc→Bool
 | .sp c=>blankS.any (· == c)
 | .wd w=>decide (w.length ≠ 0) && (letterM (bt8 w 0) && w.all wordM)
 | .nm w=>decide (w.length ≠ 0) && (decide (w.length≤6) && w.all digitM)
 | .sg w=>decide (w = [61,61]∨w = [38,38]∨w = [124,124]) || (decide (w.length=1) && signS.any (· == bt8 w 0))
def Pc.sep (p:Pc) (x:Str):Bool:=match p with
 | .sp _=>true
 | .wd _=>decide (x.length=0) || !wordM (bt8 x 0)
 | .nm _=>decide (x.length=0) || !digitM (bt8 x 0)
 | .sg w=>decide (w.length=2) || (decide (x.length=0) || !(bt8 w 0 == bt8 x 0 && (bt8 w 0 == 61 || bt8 w 0 == 47)))
def pcS:List Pc→Str
 | []=>[]
 | p :: r=>p.txt ++ pcS r
def pcOk:List Pc→Bool
 | []=>true
 | p :: r=>p.ok && (p.sep (pcS r) && pcOk r)
def pcT:Nat→List Pc→List Tok
 | i,[]=>[⟨3,[],i⟩]
 | i,.sp c :: r=>pcT (i + 1) r
 | i,.wd w :: r=>⟨0,w,i⟩ :: pcT (i + w.length) r
 | i,.nm w :: r=>⟨1,w,i⟩ :: pcT (i + w.length) r
 | i,.sg w :: r=>⟨2,w,i⟩ :: pcT (i + w.length) r
section
variable {pre x:Str}
theorem bt8_pre (h:0 < x.length):bt8 (pre ++ x) pre.length=bt8 x 0:=by
 unfold bt8
 rw [List.getD_eq_getElem?_getD,List.getD_eq_getElem?_getD,List.getElem?_append_right (by omega),Nat.sub_self]
theorem take_pre {k:Nat}:((pre ++ x).take (pre.length + k)).drop pre.length=x.take k:=by
 rw [List.take_append]
 simp
theorem two_pre:twoM (pre ++ x) pre.length=twoM x 0:=by
 unfold twoM
 rw [take_pre]
 simp
theorem span_pre {p:UInt8→Bool}:spanM p (pre ++ x) pre.length=pre.length + spanM p x 0:=by
 unfold spanM
 simp
theorem tokEnd_pre (h:0 < x.length):tokEnd (pre ++ x) pre.length=(pre.length + (tokEnd x 0).1,(tokEnd x 0).2):=by
 unfold tokEnd
 rw [two_pre,bt8_pre h,span_pre,span_pre]
 repeat' split
 all_goals simp
theorem tok_step {n:Nat} {out:List Tok} {k:Nat} {kind:Int} (h:0 < x.length) (hb:(blankS.any (· == bt8 x 0))=false) (h2:twoM x 0 ≠ [47,47]) (he:tokEnd x 0=(k,kind)) (hk:0 < k) (h6:kind=1→k≤6) :
  tokM (pre ++ x) (n + 1) pre.length out=tokM (pre ++ x) n (pre.length + k) (out ++ [⟨kind,x.take k,pre.length⟩]):=by
 have hl:pre.length < (pre ++ x).length:=by rw [List.length_append]; omega
 conv=>lhs; unfold tokM
 rw [if_pos hl,bt8_pre h,hb,two_pre,if_neg (by simp),if_neg h2,tokEnd_pre h,he]
 simp only
 rw [if_neg (by omega),take_pre]
end
theorem take_while_all {p:UInt8→Bool} {w post:Str} (hw:w.all p=true) (hp:post.length=0∨p (bt8 post 0)=false):(w ++ post).takeWhile p=w:=by
 rw [List.takeWhile_append_of_pos (by simpa using hw)]
 cases post with
 | nil=>simp
 | cons c r =>
  rcases hp with h | h
  ·simp at h
  ·have:p c=false:=h
   rw [List.takeWhile_cons_of_neg (by simp [this])]; simp
theorem two_head {x l:Str} (h:twoM x 0=l) (hl:l ≠ []):bt8 l 0=bt8 x 0:=by
 unfold twoM at h
 split at h
 ·subst h
  match x with
  | []=>simp at *
  | [a]=>simp at *
  | a :: b :: r=>rfl
 ·exact absurd h.symm hl
theorem letter_not {c:UInt8} (h:letterM c=true):(blankS.any (· == c))=false∧c ≠ 61∧c ≠ 38∧c ≠ 124∧c ≠ 47∧digitM c=false:=by
 unfold letterM at h
 rw [decide_eq_true_eq] at h
 have hn:∀ k:UInt8,¬ (65≤k.toNat∧k.toNat≤90∨97≤k.toNat∧k.toNat≤122)→c ≠ k:=by
  rintro k hk rfl; exact hk h
 refine ⟨?_,hn 61 (by decide),hn 38 (by decide),hn 124 (by decide),hn 47 (by decide),?_⟩
 ·rw [List.any_eq_false]
  intro k hk
  have:c ≠ k:=by
   simp [blankS] at hk
   rcases hk with rfl | rfl | rfl | rfl
   ·exact hn 32 (by decide)
   ·exact hn 9 (by decide)
   ·exact hn 13 (by decide)
   ·exact hn 10 (by decide)
  simp [Ne.symm this]
 ·unfold digitM
  rw [decide_eq_false_iff_not]
  omega
theorem digit_not {c:UInt8} (h:digitM c=true):(blankS.any (· == c))=false∧c ≠ 61∧c ≠ 38∧c ≠ 124∧c ≠ 47∧letterM c=false:=by
 unfold digitM at h
 rw [decide_eq_true_eq] at h
 have hn:∀ k:UInt8,¬ (48≤k.toNat∧k.toNat≤57)→c ≠ k:=by
  rintro k hk rfl; exact hk h
 refine ⟨?_,hn 61 (by decide),hn 38 (by decide),hn 124 (by decide),hn 47 (by decide),?_⟩
 ·rw [List.any_eq_false]
  intro k hk
  have:c ≠ k:=by
   simp [blankS] at hk
   rcases hk with rfl | rfl | rfl | rfl
   ·exact hn 32 (by decide)
   ·exact hn 9 (by decide)
   ·exact hn 13 (by decide)
   ·exact hn 10 (by decide)
  simp [Ne.symm this]
 ·unfold letterM
  rw [decide_eq_false_iff_not]
  omega
theorem bt8_app {w x:Str} (h:0 < w.length):bt8 (w ++ x) 0=bt8 w 0:=by
 unfold bt8
 rw [List.getD_eq_getElem?_getD,List.getD_eq_getElem?_getD,List.getElem?_append_left h]
theorem head_two {x:Str} (h61:bt8 x 0 ≠ 61) (h38:bt8 x 0 ≠ 38) (h124:bt8 x 0 ≠ 124):¬ (twoM x 0 = [61,61]∨twoM x 0 = [38,38]∨twoM x 0 = [124,124]):=by
 rintro (h | h | h)
 ·exact h61 (two_head h (by simp)).symm
 ·exact h38 (two_head h (by simp)).symm
 ·exact h124 (two_head h (by simp)).symm
theorem head_47 {x:Str} (h:bt8 x 0 ≠ 47):twoM x 0 ≠ [47,47]:=fun e=>h (two_head e (by simp)).symm
theorem tok_pc {pre post:Str} {n:Nat} {out:List Tok} {p:Pc} (hok:p.ok=true) (hsep:p.sep post=true) :
  tokM (pre ++ (p.txt ++ post)) (n + 1) pre.length out=tokM (pre ++ (p.txt ++ post)) n (pre ++ p.txt).length (out ++ (match p with
   | .sp _=>[]
   | .wd w=>[⟨0,w,pre.length⟩]
   | .nm w=>[⟨1,w,pre.length⟩]
   | .sg w=>[⟨2,w,pre.length⟩])):=by
 cases p with
 | sp c =>
  simp only [Pc.ok] at hok
  simp only [Pc.txt]
  have hl:pre.length < (pre ++ ([c] ++ post)).length:=by simp
  conv=>lhs; unfold tokM
  rw [if_pos hl,bt8_pre (by simp)]
  have:bt8 ([c] ++ post) 0=c:=rfl
  rw [this,if_pos hok]
  simp
 | wd w =>
  simp only [Pc.ok,Bool.and_eq_true,decide_eq_true_eq] at hok
  simp only [Pc.txt]
  simp only [Pc.sep,Bool.or_eq_true,decide_eq_true_eq,Bool.not_eq_true'] at hsep
  obtain ⟨h0,h1,h2⟩:=hok
  have hw0:0 < w.length:=by omega
  have hb:bt8 (w ++ post) 0=bt8 w 0:=bt8_app hw0
  obtain ⟨l1,l2,l3,l4,l5,l6⟩:=letter_not h1
  rw [← hb] at l1 l2 l3 l4 l5 l6
  have he:tokEnd (w ++ post) 0=(w.length,0):=by
   unfold tokEnd
   rw [if_neg (head_two l2 l3 l4),hb,if_pos h1]
   unfold spanM
   rw [List.drop_zero,take_while_all h2 hsep]; simp
  rw [tok_step (by simp; omega) l1 (head_47 l5) he hw0 (by simp)]
  simp
 | nm w =>
  simp only [Pc.ok,Bool.and_eq_true,decide_eq_true_eq] at hok
  simp only [Pc.txt]
  simp only [Pc.sep,Bool.or_eq_true,decide_eq_true_eq,Bool.not_eq_true'] at hsep
  obtain ⟨h0,h6,h2⟩:=hok
  have hw0:0 < w.length:=by omega
  have h1:digitM (bt8 w 0)=true:=by
   have:=List.all_eq_true.1 h2 (bt8 w 0) (List.mem_of_getElem? (bt8_lt hw0))
   exact this
  have hb:bt8 (w ++ post) 0=bt8 w 0:=bt8_app hw0
  obtain ⟨l1,l2,l3,l4,l5,l6⟩:=digit_not h1
  rw [← hb] at l1 l2 l3 l4 l5
  have he:tokEnd (w ++ post) 0=(w.length,1):=by
   unfold tokEnd
   rw [if_neg (head_two l2 l3 l4),hb,if_neg (by simp [l6]),if_pos h1]
   unfold spanM
   rw [List.drop_zero,take_while_all h2 hsep]; simp
  rw [tok_step (by simp; omega) l1 (head_47 l5) he hw0 (fun _=>h6)]
  simp
 | sg w =>
  simp only [Pc.ok,Bool.or_eq_true,Bool.and_eq_true,decide_eq_true_eq] at hok
  simp only [Pc.txt]
  rcases hok with h | ⟨h1,hs⟩
  ·have two:∀ a:UInt8,twoM ([a,a] ++ post) 0 = [a,a]:=by intro a; unfold twoM; rw [if_pos (by simp)]; rfl
   rcases h with rfl | rfl | rfl
   ·rw [tok_step (x:=[61,61] ++ post) (k:=2) (kind:=2) (by simp) (by rfl) (by rw [two]; decide) (by unfold tokEnd; rw [if_pos (.inl (two 61))]) (by omega) (by simp)]
    simp
   ·rw [tok_step (x:=[38,38] ++ post) (k:=2) (kind:=2) (by simp) (by rfl) (by rw [two]; decide) (by unfold tokEnd; rw [if_pos (.inr (.inl (two 38)))]) (by omega) (by simp)]
    simp
   ·rw [tok_step (x:=[124,124] ++ post) (k:=2) (kind:=2) (by simp) (by rfl) (by rw [two]; decide) (by unfold tokEnd; rw [if_pos (.inr (.inr (two 124)))]) (by omega) (by simp)]
    simp
  ·match w,h1 with
   | [c],_ =>
    have hb:bt8 ([c] ++ post) 0=c:=rfl
    have hc:bt8 [c] 0=c:=rfl
    rw [hc] at hs
    simp only [Pc.sep,hc,Bool.or_eq_true,decide_eq_true_eq,Bool.not_eq_true',List.length_cons,List.length_nil] at hsep
    have hsg:∀ k:UInt8,(signS.any (· == k))=false→c ≠ k:=by
     rintro k hk rfl; rw [hk] at hs; cases hs
    have hbl:(blankS.any (· == c))=false:=by
     rw [List.any_eq_false]
     intro k hk
     have:c ≠ k:=by
      simp [blankS] at hk
      rcases hk with rfl | rfl | rfl | rfl
      ·exact hsg 32 (by decide)
      ·exact hsg 9 (by decide)
      ·exact hsg 13 (by decide)
      ·exact hsg 10 (by decide)
     simp [Ne.symm this]
    have hlet:letterM c=false∧digitM c=false:=by
     have hall:∀ k ∈ signS,letterM k=false∧digitM k=false:=by decide
     obtain ⟨k,hk,e⟩:=List.any_eq_true.1 hs
     have:k=c:=by simpa using e
     subst this
     exact hall k hk
    have hsame:∀ a:UInt8,(a=61∨a=47)→twoM ([c] ++ post) 0 ≠ [a,a]:=by
     intro a ha e
     have h1:=two_head e (by simp)
     have ec:c=a:=by rw [hb] at h1; exact h1.symm
     subst ec
     cases post with
     | nil=>unfold twoM at e; simp at e
     | cons d r =>
      have ed:d=c:=by
       unfold twoM at e
       rw [if_pos (by simp)] at e
       simpa using e
      subst ed
      have hd:bt8 (d :: r) 0=d:=rfl
      rw [hd] at hsep
      rcases hsep with h | h | h
      ·omega
      ·simp at h
      ·rcases ha with rfl | rfl <;> simp at h
    have he:tokEnd ([c] ++ post) 0=(1,2):=by
     unfold tokEnd
     rw [if_neg,hb,if_neg (by simp [hlet.1]),if_neg (by simp [hlet.2]),if_pos hs]
     rintro (h | h | h)
     ·exact hsame 61 (.inl rfl) h
     ·have:=two_head h (by simp); rw [hb] at this; exact hsg 38 (by decide) this.symm
     ·have:=two_head h (by simp); rw [hb] at this; exact hsg 124 (by decide) this.symm
    rw [tok_step (x:=[c] ++ post) (k:=1) (kind:=2) (by simp) (by rw [hb]; exact hbl) (hsame 47 (.inr rfl)) he (by omega) (by simp)]
    simp
theorem tok_pcs:∀ (ps:List Pc) (pre:Str) (n:Nat) (out:List Tok),pcOk ps=true→ps.length < n→tokM (pre ++ pcS ps) n pre.length out=some (out ++ pcT pre.length ps,⟨0,0⟩)
 | [],pre,n,out,_,hn=>by
  obtain ⟨m,rfl⟩:∃ m,n=m + 1:=⟨n - 1,by omega⟩
  unfold tokM
  simp [pcS,pcT]
 | p :: r,pre,n,out,hok,hn=>by
  obtain ⟨m,rfl⟩:∃ m,n=m + 1:=⟨n - 1,by omega⟩
  simp only [pcOk,Bool.and_eq_true] at hok
  obtain ⟨h1,h2,h3⟩:=hok
  have e:pcS (p :: r)=p.txt ++ pcS r:=rfl
  rw [e,tok_pc h1 h2,← List.append_assoc]
  simp only [List.length_cons] at hn
  rw [tok_pcs r (pre ++ p.txt) m _ h3 (by omega)]
  congr 2
  cases p <;> simp [pcT,Pc.txt]
theorem tokens_pcs {ps:List Pc} {n:Nat} (h:pcOk ps=true) (hn:ps.length < n) (hl:(pcS ps).length≤4000):tokensM n (pcS ps)=some (pcT 0 ps,⟨0,0⟩):=by
 unfold tokensM
 rw [if_neg (by omega)]
 have:=tok_pcs ps [] n [] h hn
 simpa using this
end Go.Proofs.YtcffdpmmadipeaaGreatDoor
namespace Go.Proofs.YtcffdpmmadipeaaGreatDoor
open Go.HL
set_option maxRecDepth 10000
abbrev Tk:=Int × Str
def tkP:Pc→List Tk
 | .sp _=>[]
 | .wd w=>[(0,w)]
 | .nm w=>[(1,w)]
 | .sg w=>[(2,w)]
def tkS:List Pc→List Tk
 | []=>[]
 | p :: r=>tkP p ++ tkS r
theorem tkS_app (a b:List Pc):tkS (a ++ b)=tkS a ++ tkS b:=by
 induction a with
 | nil=>rfl
 | cons p r ih=>simp [tkS,ih]
theorem pcS_app (a b:List Pc):pcS (a ++ b)=pcS a ++ pcS b:=by
 induction a with
 | nil=>rfl
 | cons p r ih=>simp [pcS,ih]
def tkO (t:Tok):Tk:=(t.kind,t.s)
theorem pcT_tk:∀ (ps:List Pc) (i:Nat),(pcT i ps).map tkO=tkS ps ++ [(3,[])]
 | [],i=>rfl
 | .sp c :: r,i=>by simp only [pcT,tkS,tkP,List.nil_append]; exact pcT_tk r _
 | .wd w :: r,i=>by simp only [pcT,tkS,tkP,List.map_cons,pcT_tk r]; rfl
 | .nm w :: r,i=>by simp only [pcT,tkS,tkP,List.map_cons,pcT_tk r]; rfl
 | .sg w :: r,i=>by simp only [pcT,tkS,tkP,List.map_cons,pcT_tk r]; rfl
def sepE (x:Str):Prop:=x.length=0∨wordM (bt8 x 0)=false
def LxF (s:Str) (T:List Tk):Prop:=∃ ps,pcS ps=s∧tkS ps=T∧∀ q,pcOk q=true→pcOk (ps ++ q)=true
def LxW (s:Str) (T:List Tk):Prop:=∃ ps,pcS ps=s∧tkS ps=T∧∀ q,pcOk q=true→sepE (pcS q)→pcOk (ps ++ q)=true
section
variable {s s1 s2:Str} {T T1 T2:List Tk}
theorem LxF.w (h:LxF s T):LxW s T:=by
 obtain ⟨ps,h1,h2,h3⟩:=h
 exact ⟨ps,h1,h2,fun q hq _=>h3 q hq⟩
theorem LxF.nil:LxF [] []:=⟨[],rfl,rfl,fun q hq=>hq⟩
theorem LxF.app (h:LxF s1 T1) (h':LxF s2 T2):LxF (s1 ++ s2) (T1 ++ T2):=by
 obtain ⟨p1,a1,a2,a3⟩:=h
 obtain ⟨p2,b1,b2,b3⟩:=h'
 exact ⟨p1 ++ p2,by rw [pcS_app,a1,b1],by rw [tkS_app,a2,b2],fun q hq=>by rw [List.append_assoc]; exact a3 _ (b3 q hq)⟩
theorem LxF.appW (h:LxF s1 T1) (h':LxW s2 T2):LxW (s1 ++ s2) (T1 ++ T2):=by
 obtain ⟨p1,a1,a2,a3⟩:=h
 obtain ⟨p2,b1,b2,b3⟩:=h'
 exact ⟨p1 ++ p2,by rw [pcS_app,a1,b1],by rw [tkS_app,a2,b2],fun q hq hs=>by rw [List.append_assoc]; exact a3 _ (b3 q hq hs)⟩
theorem sepE_app (h:0 < s1.length) (h':wordM (bt8 s1 0)=false):sepE (s1 ++ s2):=.inr (by rw [bt8_app h]; exact h')
theorem LxW.app (h:LxW s1 T1) (h':LxF s2 T2) (h0:0 < s2.length) (hw:wordM (bt8 s2 0)=false):LxF (s1 ++ s2) (T1 ++ T2):=by
 obtain ⟨p1,a1,a2,a3⟩:=h
 obtain ⟨p2,b1,b2,b3⟩:=h'
 exact ⟨p1 ++ p2,by rw [pcS_app,a1,b1],by rw [tkS_app,a2,b2],fun q hq=>by rw [List.append_assoc]; exact a3 _ (b3 q hq) (by rw [pcS_app,b1]; exact sepE_app h0 hw)⟩
theorem LxW.appW (h:LxW s1 T1) (h':LxW s2 T2) (h0:0 < s2.length) (hw:wordM (bt8 s2 0)=false):LxW (s1 ++ s2) (T1 ++ T2):=by
 obtain ⟨p1,a1,a2,a3⟩:=h
 obtain ⟨p2,b1,b2,b3⟩:=h'
 exact ⟨p1 ++ p2,by rw [pcS_app,a1,b1],by rw [tkS_app,a2,b2],fun q hq hs=>by rw [List.append_assoc]; exact a3 _ (b3 q hq hs) (by rw [pcS_app,b1]; exact sepE_app h0 hw)⟩
end
def freeL:Pc→Bool
 | .sp _=>true
 | .sg w=>decide (w.length=2) || !(bt8 w 0 == 61 || bt8 w 0 == 47)
 | _=>false
def freeP:List Pc→Bool
 | []=>true
 | [p]=>p.ok && freeL p
 | p :: q :: r=>p.ok && (p.sep q.txt && freeP (q :: r))
theorem sep_head {p:Pc} {y z:Str} (h:0 < y.length):p.sep (y ++ z)=p.sep y:=by
 cases p <;> simp only [Pc.sep,bt8_app h,List.length_append]
 all_goals
  have:decide (y.length + z.length=0)=decide (y.length=0):=by rw [decide_eq_decide]; omega
  rw [this]
theorem pc_pos {p:Pc} (h:p.ok=true):0 < p.txt.length:=by
 cases p with
 | sp c=>simp [Pc.txt]
 | wd w=>simp only [Pc.ok,Bool.and_eq_true,decide_eq_true_eq] at h; simp only [Pc.txt]; omega
 | nm w=>simp only [Pc.ok,Bool.and_eq_true,decide_eq_true_eq] at h; simp only [Pc.txt]; omega
 | sg w =>
  simp only [Pc.ok,Bool.or_eq_true,Bool.and_eq_true,decide_eq_true_eq] at h
  simp only [Pc.txt]
  rcases h with (rfl | rfl | rfl) | h
  ·simp
  ·simp
  ·simp
  ·omega
theorem free_sep {p:Pc} {x:Str} (h:freeL p=true):p.sep x=true:=by
 cases p with
 | sp c=>rfl
 | wd w=>simp [freeL] at h
 | nm w=>simp [freeL] at h
 | sg w =>
  simp only [freeL,Bool.or_eq_true,decide_eq_true_eq,Bool.not_eq_true'] at h
  simp only [Pc.sep,Bool.or_eq_true,decide_eq_true_eq,Bool.not_eq_true']
  rcases h with h | h
  ·exact .inl h
  ·right; right; rw [Bool.or_eq_false_iff] at h; simp [h.1,h.2]
theorem free_ok:∀ (ps:List Pc),freeP ps=true→∀ q,pcOk q=true→pcOk (ps ++ q)=true
 | [],_,q,hq=>hq
 | [p],h,q,hq=>by
  simp only [freeP,Bool.and_eq_true] at h
  simp only [List.cons_append,List.nil_append,pcOk,Bool.and_eq_true]
  exact ⟨h.1,free_sep h.2,hq⟩
 | p :: p2 :: r,h,q,hq=>by
  simp only [freeP,Bool.and_eq_true] at h
  have h3:=free_ok (p2 :: r) h.2.2 q hq
  simp only [List.cons_append,pcOk,Bool.and_eq_true] at h3 ⊢
  refine ⟨h.1,?_,h3⟩
  simp only [pcS]
  rw [sep_head (pc_pos h3.1)]
  exact h.2.1
theorem lx_const (ps:List Pc) (h:freeP ps=true):LxF (pcS ps) (tkS ps):=⟨ps,rfl,rfl,free_ok ps h⟩
theorem lx_word {w:Str} (h:(Pc.wd w).ok=true):LxW w [(0,w)]:=by
 refine ⟨[.wd w],by simp [pcS,Pc.txt],by simp [tkS,tkP],fun q hq hs=>?_⟩
 simp only [List.cons_append,List.nil_append,pcOk,Bool.and_eq_true]
 refine ⟨h,?_,hq⟩
 simp only [Pc.sep,Bool.or_eq_true,decide_eq_true_eq,Bool.not_eq_true']
 exact hs
theorem lx_name {w:Str} (h:nameM w=true):LxW w [(0,w)]:=by
 refine lx_word ?_
 unfold nameM at h
 simp only [Bool.and_eq_true,decide_eq_true_eq] at h
 simp only [Pc.ok,Bool.and_eq_true,decide_eq_true_eq]
 exact ⟨h.1.1.1.1,h.1.1.2,h.2⟩
theorem word_digit {c:UInt8} (h:wordM c=false):digitM c=false:=by
 unfold wordM at h
 simp only [Bool.or_eq_false_iff] at h
 exact h.1.2
theorem lx_num {w:Str} (h:(Pc.nm w).ok=true):LxW w [(1,w)]:=by
 refine ⟨[.nm w],by simp [pcS,Pc.txt],by simp [tkS,tkP],fun q hq hs=>?_⟩
 simp only [List.cons_append,List.nil_append,pcOk,Bool.and_eq_true]
 refine ⟨h,?_,hq⟩
 simp only [Pc.sep,Bool.or_eq_true,decide_eq_true_eq,Bool.not_eq_true']
 rcases hs with hs | hs
 ·exact .inl hs
 ·exact .inr (word_digit hs)
theorem dig_ok {n:Nat} (h:n < 1000000):(Pc.nm (digF 7 n)).ok=true:=by
 simp only [Pc.ok,Bool.and_eq_true,decide_eq_true_eq]
 refine ⟨by have:0 < (digF 7 n).length:=digF_pos; omega,digF_len2 7 n 6 (by simpa using h) (by omega),?_⟩
 have key:∀ (f n:Nat),(digF f n).all digitM=true:=by
  intro f
  induction f with
  | zero=>intro n; rfl
  | succ f ih =>
   intro n
   have d1:∀ m,m < 10→digitM (dig1 m)=true:=by decide
   unfold digF
   split
   ·rename_i h; simp [d1 n h]
   ·simp only [List.all_append,ih,Bool.true_and,List.all_cons,List.all_nil,Bool.and_true]
    exact d1 _ (Nat.mod_lt _ (by omega))
 exact key 7 n
def numT (n:Int):List Tk:=if n < 0 then [(2,[45]),(1,digF 7 (-n).toNat)] else [(1,digF 7 n.toNat)]
theorem lx_dig {n:Int} (h:-999999≤n∧n≤999999):LxW (digI n) (numT n):=by
 unfold digI numT
 split
 ·exact (lx_const [.sg [45]] (by decide)).appW (lx_num (dig_ok (by omega)))
 ·exact lx_num (dig_ok (by omega))
structure KT where
 lev:Int
 ex:List Tk
 th:List Tk
 bd:List Tk
def kt0:KT:=⟨9,[],[],[]⟩
def parT (b:Bool) (T:List Tk):List Tk:=if b then [(2,[40])] ++ T ++ [(2,[41])] else T
def exT (n:Nd) (ks:List KT):List Tk :=
 if n.kind=17 then numT (n0' n)
 else if n.kind=18 then [(0,w0' n)]
 else if n.kind=19 then [(0,[108,101,110])] ++ [(0,w0' n)]
 else if n.kind=20 then [(2,[45])] ++ parT (decide ((ks.getD 0 kt0).lev < 6)) (ks.getD 0 kt0).ex
 else if n.kind=21 then [(2,[33])] ++ parT (decide ((ks.getD 0 kt0).lev < 6)) (ks.getD 0 kt0).ex
 else if n.kind=22 then parT (decide ((ks.getD 0 kt0).lev < leftM (n0' n))) (ks.getD 0 kt0).ex ++ [(2,signM (n0' n))] ++ parT (decide ((ks.getD 1 kt0).lev < levS (n0' n) + 1)) (ks.getD 1 kt0).ex
 else []
def linesT:List KT→List Tk
 | []=>[]
 | k :: r=>k.th ++ linesT r
def braT (ks:List KT):List Tk:=[(2,[123])] ++ linesT ks ++ [(2,[125])]
def restT (w:List Tk):List KT→List Tk
 | []=>[]
 | k :: r=>w ++ k.bd ++ restT w r
def joinT (w:List Tk):List KT→List Tk
 | []=>[]
 | k :: r=>k.bd ++ restT w r
def optT (n:Int) (T:List Tk):List Tk:=if n=0 then [] else T
def thT (n:Nd) (ks:List KT):List Tk :=
 if n.kind=1 then [(0,[99,104,97,110])] ++ [(0,w0' n)] ++ [(2,[91])] ++ numT (n0' n) ++ [(2,[93]),(0,[111,102])] ++ numT (n.nums.getD 1 0) ++ optT (n.nums.getD 2 0) [(0,[108,111,115,115,121])] ++ optT (n.nums.getD 3 0) [(0,[99,111,112,121,105,110,103])] ++ [(2,[59])]
 else if n.kind=2 then [(0,[118,97,114])] ++ [(0,w0' n)] ++ [(0,[111,102])] ++ numT (n0' n) ++ [(2,[61])] ++ numT (n.nums.getD 1 0) ++ [(2,[59])]
 else if n.kind=3 then [(0,[112,114,111,99])] ++ [(0,w0' n)] ++ [(2,[42])] ++ numT (n0' n) ++ [] ++ braT ks
 else if n.kind=4 then [(0,[115,97,102,101])] ++ (ks.getD 0 kt0).ex ++ [(2,[59])]
 else if n.kind=5 then [(0,[100,101,97,100,108,111,99,107]),(2,[59])]
 else if n.kind=6 then [(0,w0' n)] ++ [(2,[61])] ++ (ks.getD 0 kt0).ex ++ [(2,[59])]
 else if n.kind=7 then [(0,[115,101,110,100])] ++ [(0,w0' n)] ++ [] ++ (ks.getD 0 kt0).ex ++ [(2,[59])]
 else if n.kind=8 then optT (n0' n) [(0,[105,100,108,101])] ++ [(0,[114,101,99,118])] ++ [(0,w0' n)] ++ [] ++ [(0,n.words.getD 1 [])] ++ [(2,[59])]
 else if n.kind=9 then optT (n0' n) [(0,[105,100,108,101])] ++ [(0,[119,104,101,110])] ++ (ks.getD 0 kt0).ex ++ [(2,[59])]
 else if n.kind=10 then optT (n0' n) [(0,[105,100,108,101])] ++ [(0,[99,104,111,111,115,101])] ++ joinT [(0,[111,114])] ks
 else if n.kind=11 then [(0,[105,102])] ++ (ks.getD 0 kt0).ex ++ [] ++ joinT [(0,[101,108,115,101])] ks.tail
 else if n.kind=12 then [(0,[119,104,105,108,101])] ++ (ks.getD 0 kt0).ex ++ [] ++ joinT [] ks.tail
 else if n.kind=13 then [(0,[97,116,111,109,105,99])] ++ joinT [] ks
 else if n.kind=14 then [(0,[115,107,105,112]),(2,[59])]
 else if n.kind=15 then [(0,[115,116,111,112]),(2,[59])]
 else []
def stepT (n:Nd) (ks:List KT):KT:=⟨levN n,exT n ks,thT n ks,braT ks⟩
def Fo.ts:Fo→List KT
 | .nil=>[]
 | .cons n k r=>stepT n k.ts :: r.ts
structure LK (kind:Int) (v:KV) (t:KT):Prop where
 lev:v.lev=t.lev
 ex:17≤kind→kind≤22→LxW v.ex t.ex
 th:1≤kind→kind≤15→∀ d,LxF (v.th d) t.th
 bd:kind=16→∀ d,LxF (v.bd d) t.bd
def LkF:Fo→Prop
 | .nil=>True
 | .cons n k r=>LK n.kind (stepV n k.vs) (stepT n k.ts)∧LkF r
theorem shape1 {k:Fo} (h:areM k.kinds [3]=true):∃ n1 k1,k=.cons n1 k1 .nil∧17≤n1.kind∧n1.kind≤22:=by
 unfold areM at h
 simp only [Bool.and_eq_true,decide_eq_true_eq,List.length_cons,List.length_nil,Fo.kinds_len,allR_iff] at h
 obtain ⟨h1,h2⟩:=h
 match k,h1 with
 | .cons n1 k1 .nil,_ =>
  have:=h2 0 (by omega)
  simp only [Fo.kinds,List.getD_cons_zero] at this
  unfold sortM inB at this
  refine ⟨n1,k1,rfl,?_⟩
  repeat' split at this
  all_goals simp_all
 | .cons n1 k1 (.cons _ _ r),h1=>simp [Fo.len] at h1
theorem shape2 {k:Fo} (h:areM k.kinds [3,3]=true):∃ n1 k1 n2 k2,k=.cons n1 k1 (.cons n2 k2 .nil)∧(17≤n1.kind∧n1.kind≤22)∧(17≤n2.kind∧n2.kind≤22):=by
 unfold areM at h
 simp only [Bool.and_eq_true,decide_eq_true_eq,List.length_cons,List.length_nil,Fo.kinds_len,allR_iff] at h
 obtain ⟨h1,h2⟩:=h
 match k,h1 with
 | .cons n1 k1 .nil,h1=>simp [Fo.len] at h1
 | .cons n1 k1 (.cons n2 k2 .nil),_ =>
  have a0:=h2 0 (by omega)
  have a1:=h2 1 (by omega)
  simp only [Fo.kinds,List.getD_cons_zero,List.getD_cons_succ] at a0 a1
  refine ⟨n1,k1,n2,k2,rfl,?_,?_⟩
  ·unfold sortM inB at a0
   repeat' split at a0
   all_goals simp_all
  ·unfold sortM inB at a1
   repeat' split at a1
   all_goals simp_all
 | .cons n1 k1 (.cons n2 k2 (.cons _ _ r)),h1=>simp [Fo.len] at h1
theorem srt4 {k:Int} (h:sortM k=4):k=16:=by
 unfold sortM inB at h
 repeat' split at h
 all_goals simp_all
theorem srt2 {k:Int} (h:sortM k=2):6≤k∧k≤15:=by
 unfold sortM inB at h
 repeat' split at h
 all_goals simp_all
theorem srt1 {k:Int} (h:sortM k=1):1≤k∧k≤5:=by
 unfold sortM inB at h
 repeat' split at h
 all_goals simp_all
theorem shapeB {k:Fo} {m:List Int} (hm:∀ x ∈ m,x=4) (h:areM k.kinds (3 :: m)=true):∃ n1 k1 r,k=.cons n1 k1 r∧(17≤n1.kind∧n1.kind≤22)∧r.len=m.length∧∀ x ∈ r.kinds,x=16:=by
 unfold areM at h
 simp only [Bool.and_eq_true,decide_eq_true_eq,List.length_cons,Fo.kinds_len,allR_iff] at h
 obtain ⟨h1,h2⟩:=h
 match k,h1 with
 | .cons n1 k1 r,h1 =>
  have a0:=h2 0 (by omega)
  simp only [Fo.kinds,List.getD_cons_zero] at a0
  refine ⟨n1,k1,r,rfl,?_,by simpa [Fo.len] using h1,?_⟩
  ·unfold sortM inB at a0
   repeat' split at a0
   all_goals simp_all
  ·intro x hx
   obtain ⟨i,hi,rfl⟩:=List.mem_iff_getElem.1 hx
   have hl:r.len=m.length:=by simpa [Fo.len] using h1
   have hi':=hi
   rw [Fo.kinds_len] at hi'
   have:=h2 (i + 1) (by omega)
   simp only [Fo.kinds,List.getD_cons_succ] at this
   rw [List.getD_eq_getElem?_getD,List.getD_eq_getElem?_getD,List.getElem?_eq_getElem hi,List.getElem?_eq_getElem (by omega)] at this
   simp only [Option.getD_some] at this
   rw [hm _ (List.getElem_mem _)] at this
   exact srt4 this
 | .nil,h1=>simp [Fo.len] at h1
theorem pall_mem {ks:List Int} {s:Int} (h:pAllM ks s=true):∀ x ∈ ks,sortM x=s:=by
 unfold pAllM at h
 simp only [allR_iff,decide_eq_true_eq] at h
 intro x hx
 obtain ⟨i,hi,rfl⟩:=List.mem_iff_getElem.1 hx
 have:=h i hi
 rw [List.getD_eq_getElem?_getD,List.getElem?_eq_getElem hi] at this
 exact this
theorem blocksA {k:Fo} (h:areM k.kinds [4]=true):k.len=1∧∀ x ∈ k.kinds,x=16:=by
 unfold areM at h
 simp only [Bool.and_eq_true,decide_eq_true_eq,List.length_cons,List.length_nil,Fo.kinds_len,allR_iff] at h
 refine ⟨h.1,?_⟩
 intro x hx
 obtain ⟨i,hi,rfl⟩:=List.mem_iff_getElem.1 hx
 have h0:i=0:=by rw [Fo.kinds_len] at hi; omega
 subst h0
 have:=h.2 0 (by omega)
 rw [List.getD_eq_getElem?_getD,List.getElem?_eq_getElem hi] at this
 exact srt4 this
theorem lk_lev:∀ (f:Fo) (i:Nat),(f.vs.getD i kv0).lev=(f.ts.getD i kt0).lev
 | .nil,i=>by simp [Fo.vs,Fo.ts,kv0,kt0]
 | .cons n k r,0=>rfl
 | .cons n k r,i + 1=>by simp only [Fo.vs,Fo.ts,List.getD_cons_succ]; exact lk_lev r i
theorem lk_par {b:Bool} {s:Str} {T:List Tk} (h:LxW s T):LxW (parS b s) (parT b T):=by
 cases b
 ·exact h
 ·have h1:=(lx_const [.sg [40]] (by decide)).appW h
  exact (h1.app (lx_const [.sg [41]] (by decide)) (by decide) (by decide)).w
theorem lk_in:∀ (d:Nat),LxF (inS d) []
 | 0=>LxF.nil
 | d + 1=>by
  rw [inS_succ,List.append_assoc]
  exact (lk_in d).app (lx_const [.sp 32,.sp 32] (by decide))
theorem lk_lines:∀ (f:Fo) (d:Nat),LkF f→(∀ x ∈ f.kinds,1≤x∧x≤15)→LxF (linesS d f.vs) (linesT f.ts)
 | .nil,d,_,_=>LxF.nil
 | .cons n k r,d,h,hk=>by
  simp only [Fo.kinds,List.mem_cons,forall_eq_or_imp] at hk
  simp only [Fo.vs,Fo.ts,linesS,linesT]
  have h1:=((lk_in d).app (h.1.th hk.1.1 hk.1.2 d)).app (lx_const [.sp 10] (by decide))
  have h2:=h1.app (lk_lines r d h.2 hk.2)
  simpa [tkS,tkP,pcS,Pc.txt] using h2
theorem lk_bra {f:Fo} {d:Nat} (h:LkF f) (hk:∀ x ∈ f.kinds,1≤x∧x≤15):LxF (braS f.vs d) (braT f.ts):=by
 match f with
 | .nil=>exact lx_const [.sg [123],.sp 32,.sg [125]] (by decide)
 | .cons n k r =>
  have h1:=(((lx_const [.sg [123],.sp 10] (by decide)).app (lk_lines _ (d + 1) h hk)).app (lk_in d)).app (lx_const [.sg [125]] (by decide))
  simpa [braS,braT,Fo.vs,Fo.ts,tkS,tkP,pcS,Pc.txt] using h1
theorem lk_rest {w:Str} {W:List Tk} (hw:LxF w W):∀ (f:Fo) (d:Nat),LkF f→(∀ x ∈ f.kinds,x=16)→LxF (restS w d f.vs) (restT W f.ts)
 | .nil,d,_,_=>LxF.nil
 | .cons n k r,d,h,hk=>by
  simp only [Fo.kinds,List.mem_cons,forall_eq_or_imp] at hk
  exact (hw.app (h.1.bd hk.1 d)).app (lk_rest hw r d h.2 hk.2)
theorem lk_join {w:Str} {W:List Tk} (hw:LxF w W) {f:Fo} {d:Nat} (h:LkF f) (hk:∀ x ∈ f.kinds,x=16):LxF (joinS w d f.vs) (joinT W f.ts):=by
 match f with
 | .nil=>exact LxF.nil
 | .cons n k r =>
  simp only [Fo.kinds,List.mem_cons,forall_eq_or_imp] at hk
  exact (h.1.bd hk.1 d).app (lk_rest hw r d h.2 hk.2)
theorem lk_opt {n:Int} {w:Str} {W:List Tk} (h:LxF w W):LxF (optS n w) (optT n W):=by
 unfold optS optT
 split
 ·exact LxF.nil
 ·exact h
end Go.Proofs.YtcffdpmmadipeaaGreatDoor
namespace Go.Proofs.YtcffdpmmadipeaaGreatDoor
open Go.HL
set_option maxRecDepth 10000
section
variable {n:Nd} {ks:List Int} {k:Fo} {s w:Str} {T W:List Tk}
theorem okN_name (h:okN n ks=true) {i:Nat} (hi:i < wcount n.kind):nameM (n.words.getD i [])=true:=by
 unfold okN wordsM at h
 simp only [Bool.and_eq_true,allR_iff,decide_eq_true_eq] at h
 exact h.1.1 i (by omega)
theorem okN_num (h:okN n ks=true) {i:Nat} (hi:i < (bnds n.kind).length):((bnds n.kind).getD i (0,0)).1≤n.nums.getD i 0∧n.nums.getD i 0≤((bnds n.kind).getD i (0,0)).2:=by
 unfold okN withinM at h
 simp only [Bool.and_eq_true,allR_iff,decide_eq_true_eq] at h
 exact h.2.1.2 i hi
theorem okN_kids (h:okN n ks=true):kidsM n.kind ks=true:=by
 unfold okN at h
 simp only [Bool.and_eq_true] at h
 exact h.2.2
theorem LxW.opt {m:Int} (h:LxW s T) (h':LxW w W) (h0:0 < w.length) (hw:wordM (bt8 w 0)=false):LxW (s ++ optS m w) (T ++ optT m W):=by
 unfold optS optT
 by_cases hm:m=0
 ·rw [if_pos hm,if_pos hm,List.append_nil,List.append_nil]; exact h
 ·rw [if_neg hm,if_neg hm]; exact h.appW h' h0 hw
theorem mem_drop_two {l:List Int} {s:Int} (h:∀ x ∈ l.dropWhile (fun x=>decide (x=2)),sortM x=s):∀ x ∈ l,x=2∨sortM x=s:=by
 induction l with
 | nil=>simp
 | cons a l ih =>
  intro x hx
  by_cases ha:a=2
  ·rw [List.dropWhile_cons_of_pos (by simp [ha])] at h
   rcases List.mem_cons.1 hx with rfl | hx
   ·exact .inl ha
   ·exact ih h x hx
  ·rw [List.dropWhile_cons_of_neg (by simp [ha])] at h
   exact .inr (h x hx)
theorem kids3 (h:okN n ks=true) (e:n.kind=3):∀ x ∈ ks,x=2∨6≤x∧x≤15:=by
 have h1:=okN_kids h
 rw [e] at h1
 have h2:pAllM (ks.dropWhile fun x=>decide (x=2)) 2=true:=h1
 intro x hx
 rcases mem_drop_two (pall_mem h2) x hx with h | h
 ·exact .inl h
 ·exact .inr (srt2 h)
theorem kids16 (h:okN n ks=true) (e:n.kind=16):∀ x ∈ ks,6≤x∧x≤15:=by
 have h1:=okN_kids h
 rw [e] at h1
 have h2:pAllM ks 2=true:=h1
 exact fun x hx=>srt2 (pall_mem h2 x hx)
theorem kids0 (h:okN n ks=true) (e:n.kind=0):∀ x ∈ ks,1≤x∧x≤5:=by
 have h1:=okN_kids h
 rw [e] at h1
 have h2:pAllM ks 1=true:=h1
 exact fun x hx=>srt1 (pall_mem h2 x hx)
theorem kids10 (h:okN n ks=true) (e:n.kind=10):0 < ks.length∧∀ x ∈ ks,x=16:=by
 have h1:=okN_kids h
 rw [e] at h1
 have h2:(decide (0 < ks.length) && pAllM ks 4)=true:=h1
 simp only [Bool.and_eq_true,decide_eq_true_eq] at h2
 exact ⟨h2.1,fun x hx=>srt4 (pall_mem h2.2 x hx)⟩
theorem kids11 (h:okN n k.kinds=true) (e:n.kind=11):∃ n1 k1 r,k=.cons n1 k1 r∧(17≤n1.kind∧n1.kind≤22)∧(r.len=1∨r.len=2)∧∀ x ∈ r.kinds,x=16:=by
 have h1:=okN_kids h
 rw [e] at h1
 have h2:(areM k.kinds [3,4] || areM k.kinds [3,4,4])=true:=h1
 rw [Bool.or_eq_true] at h2
 rcases h2 with h2 | h2
 ·obtain ⟨n1,k1,r,e1,e2,e3,e4⟩:=shapeB (m:=[4]) (by simp) h2
  exact ⟨n1,k1,r,e1,e2,.inl e3,e4⟩
 ·obtain ⟨n1,k1,r,e1,e2,e3,e4⟩:=shapeB (m:=[4,4]) (by simp) h2
  exact ⟨n1,k1,r,e1,e2,.inr e3,e4⟩
theorem kids12 (h:okN n k.kinds=true) (e:n.kind=12):∃ n1 k1 r,k=.cons n1 k1 r∧(17≤n1.kind∧n1.kind≤22)∧r.len=1∧∀ x ∈ r.kinds,x=16:=by
 have h1:=okN_kids h
 rw [e] at h1
 have h2:areM k.kinds [3,4]=true:=h1
 obtain ⟨n1,k1,r,e1,e2,e3,e4⟩:=shapeB (m:=[4]) (by simp) h2
 exact ⟨n1,k1,r,e1,e2,e3,e4⟩
theorem kids13 (h:okN n k.kinds=true) (e:n.kind=13):k.len=1∧∀ x ∈ k.kinds,x=16:=by
 have h1:=okN_kids h
 rw [e] at h1
 exact blocksA h1
theorem kidsE (h:okN n k.kinds=true) (e:n.kind=4∨n.kind=6∨n.kind=7∨n.kind=9∨n.kind=20∨n.kind=21):∃ n1 k1,k=.cons n1 k1 .nil∧17≤n1.kind∧n1.kind≤22:=by
 have h1:=okN_kids h
 refine shape1 ?_
 rcases e with e | e | e | e | e | e <;> (rw [e] at h1; exact h1)
theorem kids22 (h:okN n k.kinds=true) (e:n.kind=22):∃ n1 k1 n2 k2,k=.cons n1 k1 (.cons n2 k2 .nil)∧(17≤n1.kind∧n1.kind≤22)∧(17≤n2.kind∧n2.kind≤22):=by
 have h1:=okN_kids h
 rw [e] at h1
 exact shape2 h1
theorem kidsN (h:okN n k.kinds=true) (e:n.kind=1∨n.kind=2∨n.kind=5∨n.kind=8∨n.kind=14∨n.kind=15∨n.kind=17∨n.kind=18∨n.kind=19):k=.nil:=by
 have h1:=okN_kids h
 have h2:decide (k.kinds.length=0)=true:=by rcases e with e | e | e | e | e | e | e | e | e <;> (rw [e] at h1; exact h1)
 rw [decide_eq_true_eq,Fo.kinds_len] at h2
 cases k with
 | nil=>rfl
 | cons a b c=>simp [Fo.len] at h2
theorem lk_sign {m:Int} (h:0≤m∧m≤8):LxF ([32] ++ signM m ++ [32]) [(2,signM m)]:=by
 have:m=0∨m=1∨m=2∨m=3∨m=4∨m=5∨m=6∨m=7∨m=8:=by omega
 rcases this with rfl | rfl | rfl | rfl | rfl | rfl | rfl | rfl | rfl
 ·exact lx_const [.sp 32,.sg [124,124],.sp 32] (by decide)
 ·exact lx_const [.sp 32,.sg [38,38],.sp 32] (by decide)
 ·exact lx_const [.sp 32,.sg [61,61],.sp 32] (by decide)
 ·exact lx_const [.sp 32,.sg [60],.sp 32] (by decide)
 ·exact lx_const [.sp 32,.sg [43],.sp 32] (by decide)
 ·exact lx_const [.sp 32,.sg [45],.sp 32] (by decide)
 ·exact lx_const [.sp 32,.sg [42],.sp 32] (by decide)
 ·exact lx_const [.sp 32,.sg [47],.sp 32] (by decide)
 ·exact lx_const [.sp 32,.sg [37],.sp 32] (by decide)
theorem lk_ex (h:okN n k.kinds=true) (hk:LkF k) (h1:17≤n.kind) (h2:n.kind≤22):LxW (exN n k.vs) (exT n k.ts):=by
 have:n.kind=17∨n.kind=18∨n.kind=19∨n.kind=20∨n.kind=21∨n.kind=22:=by omega
 rcases this with e | e | e | e | e | e
 ·simp only [exN,exT,e,Int.reduceEq,↓reduceIte]
  have:=okN_num h (i:=0) (by rw [e]; decide)
  rw [e] at this
  exact lx_dig (by simp [bnds] at this; unfold n0'; rw [List.getD_eq_getElem?_getD]; omega)
 ·simp only [exN,exT,e,Int.reduceEq,↓reduceIte]
  exact lx_name (okN_name h (i:=0) (by rw [e]; decide))
 ·simp only [exN,exT,e,Int.reduceEq,↓reduceIte]
  exact (lx_const [.wd [108,101,110],.sp 32] (by decide)).appW (lx_name (okN_name h (i:=0) (by rw [e]; decide)))
 ·simp only [exN,exT,e,Int.reduceEq,↓reduceIte]
  obtain ⟨n1,k1,rfl,g1,g2⟩:=kidsE h (by omega)
  rw [lk_lev]
  exact (lx_const [.sg [45]] (by decide)).appW (lk_par (hk.1.ex g1 g2))
 ·simp only [exN,exT,e,Int.reduceEq,↓reduceIte]
  obtain ⟨n1,k1,rfl,g1,g2⟩:=kidsE h (by omega)
  rw [lk_lev]
  exact (lx_const [.sg [33]] (by decide)).appW (lk_par (hk.1.ex g1 g2))
 ·simp only [exN,exT,e,Int.reduceEq,↓reduceIte]
  obtain ⟨n1,k1,n2,k2,rfl,g1,g2⟩:=kids22 h e
  have hn:=okN_num h (i:=0) (by rw [e]; decide)
  rw [e] at hn
  have hs:=lk_sign (m:=n0' n) (by simp [bnds] at hn; unfold n0'; rw [List.getD_eq_getElem?_getD]; omega)
  rw [lk_lev,lk_lev,List.append_assoc (parS _ _),List.append_assoc (parS _ _)]
  have a:=lk_par (b:=decide (((Fo.cons n1 k1 (.cons n2 k2 .nil)).ts.getD 0 kt0).lev < leftM (n0' n))) (hk.1.ex g1.1 g1.2)
  have b:=lk_par (b:=decide (((Fo.cons n1 k1 (.cons n2 k2 .nil)).ts.getD 1 kt0).lev < levS (n0' n) + 1)) (hk.2.1.ex g2.1 g2.2)
  exact (a.app hs (by simp) (by rw [List.append_assoc,bt8_app (by simp)]; decide)).appW b
set_option maxHeartbeats 1000000 in
theorem lk_th (h:okN n k.kinds=true) (hk:LkF k) (h1:1≤n.kind) (h2:n.kind≤15) (d:Nat):LxF (thN n k.vs d) (thT n k.ts):=by
 have:n.kind=1∨n.kind=2∨n.kind=3∨n.kind=4∨n.kind=5∨n.kind=6∨n.kind=7∨n.kind=8∨n.kind=9∨n.kind=10∨n.kind=11∨n.kind=12∨n.kind=13∨n.kind=14∨n.kind=15:=by omega
 have semi:LxF [59] [(2,[59])]:=lx_const [.sg [59]] (by decide)
 have sp:LxF [32] []:=lx_const [.sp 32] (by decide)
 have idle:LxF [105,100,108,101,32] [(0,[105,100,108,101])]:=lx_const [.wd [105,100,108,101],.sp 32] (by decide)
 rcases this with e | e | e | e | e | e | e | e | e | e | e | e | e | e | e
 ·simp only [thN,thT,e,Int.reduceEq,↓reduceIte]
  have q0:=okN_num h (i:=0) (by rw [e]; decide)
  have q1:=okN_num h (i:=1) (by rw [e]; decide)
  rw [e] at q0 q1
  have d0:=lx_dig (n:=n0' n) (by simp [bnds] at q0; unfold n0'; rw [List.getD_eq_getElem?_getD]; omega)
  have d1:=lx_dig (n:=n.nums.getD 1 0) (by simp [bnds] at q1; rw [List.getD_eq_getElem?_getD]; omega)
  have x1:=(((((lx_const [.wd [99,104,97,110],.sp 32] (by decide)).appW (lx_name (okN_name h (i:=0) (by rw [e]; decide)))).app (lx_const [.sg [91]] (by decide)) (by decide) (by decide)).appW d0).app (lx_const [.sg [93],.sp 32,.wd [111,102],.sp 32] (by decide)) (by decide) (by decide)).appW d1
  have x2:=(x1.opt (m:=n.nums.getD 2 0) ((lx_const [.sp 32] (by decide)).appW (lx_word (w:=[108,111,115,115,121]) (by decide))) (by decide) (by decide)).opt (m:=n.nums.getD 3 0) ((lx_const [.sp 32] (by decide)).appW (lx_word (w:=[99,111,112,121,105,110,103]) (by decide))) (by decide) (by decide)
  exact x2.app semi (by decide) (by decide)
 ·simp only [thN,thT,e,Int.reduceEq,↓reduceIte]
  have q0:=okN_num h (i:=0) (by rw [e]; decide)
  have q1:=okN_num h (i:=1) (by rw [e]; decide)
  rw [e] at q0 q1
  have d0:=lx_dig (n:=n0' n) (by simp [bnds] at q0; unfold n0'; rw [List.getD_eq_getElem?_getD]; omega)
  have d1:=lx_dig (n:=n.nums.getD 1 0) (by simp [bnds] at q1; rw [List.getD_eq_getElem?_getD]; omega)
  exact ((((((lx_const [.wd [118,97,114],.sp 32] (by decide)).appW (lx_name (okN_name h (i:=0) (by rw [e]; decide)))).app (lx_const [.sp 32,.wd [111,102],.sp 32] (by decide)) (by decide) (by decide)).appW d0).app (lx_const [.sp 32,.sg [61],.sp 32] (by decide)) (by decide) (by decide)).appW d1).app semi (by decide) (by decide)
 ·simp only [thN,thT,e,Int.reduceEq,↓reduceIte]
  have q0:=okN_num h (i:=0) (by rw [e]; decide)
  rw [e] at q0
  have d0:=lx_dig (n:=n0' n) (by simp [bnds] at q0; unfold n0'; rw [List.getD_eq_getElem?_getD]; omega)
  have hb:=lk_bra (d:=d) hk (fun x hx=>by have:=kids3 h e x hx; omega)
  exact (((((lx_const [.wd [112,114,111,99],.sp 32] (by decide)).appW (lx_name (okN_name h (i:=0) (by rw [e]; decide)))).app (lx_const [.sp 32,.sg [42],.sp 32] (by decide)) (by decide) (by decide)).appW d0).app sp (by decide) (by decide)).app hb
 ·simp only [thN,thT,e,Int.reduceEq,↓reduceIte]
  obtain ⟨n1,k1,rfl,g1,g2⟩:=kidsE h (by omega)
  exact ((lx_const [.wd [115,97,102,101],.sp 32] (by decide)).appW (hk.1.ex g1 g2)).app semi (by decide) (by decide)
 ·simp only [thN,thT,e,Int.reduceEq,↓reduceIte]
  exact lx_const [.wd [100,101,97,100,108,111,99,107],.sg [59]] (by decide)
 ·simp only [thN,thT,e,Int.reduceEq,↓reduceIte]
  obtain ⟨n1,k1,rfl,g1,g2⟩:=kidsE h (by omega)
  exact (((lx_name (okN_name h (i:=0) (by rw [e]; decide))).app (lx_const [.sp 32,.sg [61],.sp 32] (by decide)) (by decide) (by decide)).appW (hk.1.ex g1 g2)).app semi (by decide) (by decide)
 ·simp only [thN,thT,e,Int.reduceEq,↓reduceIte]
  obtain ⟨n1,k1,rfl,g1,g2⟩:=kidsE h (by omega)
  exact ((((lx_const [.wd [115,101,110,100],.sp 32] (by decide)).appW (lx_name (okN_name h (i:=0) (by rw [e]; decide)))).app sp (by decide) (by decide)).appW (hk.1.ex g1 g2)).app semi (by decide) (by decide)
 ·simp only [thN,thT,e,Int.reduceEq,↓reduceIte]
  exact ((((((lk_opt idle).app (lx_const [.wd [114,101,99,118],.sp 32] (by decide))).appW (lx_name (okN_name h (i:=0) (by rw [e]; decide)))).app sp (by decide) (by decide)).appW (lx_name (okN_name h (i:=1) (by rw [e]; decide))))).app semi (by decide) (by decide)
 ·simp only [thN,thT,e,Int.reduceEq,↓reduceIte]
  obtain ⟨n1,k1,rfl,g1,g2⟩:=kidsE h (by omega)
  exact (((lk_opt idle).app (lx_const [.wd [119,104,101,110],.sp 32] (by decide))).appW (hk.1.ex g1 g2)).app semi (by decide) (by decide)
 ·simp only [thN,thT,e,Int.reduceEq,↓reduceIte]
  exact ((lk_opt idle).app (lx_const [.wd [99,104,111,111,115,101],.sp 32] (by decide))).app (lk_join (lx_const [.sp 32,.wd [111,114],.sp 32] (by decide)) hk (kids10 h e).2)
 ·simp only [thN,thT,e,Int.reduceEq,↓reduceIte]
  obtain ⟨n1,k1,r,rfl,g1,g2,g3⟩:=kids11 h e
  exact (((lx_const [.wd [105,102],.sp 32] (by decide)).appW (hk.1.ex g1.1 g1.2)).app sp (by decide) (by decide)).app (lk_join (lx_const [.sp 32,.wd [101,108,115,101],.sp 32] (by decide)) hk.2 g3)
 ·simp only [thN,thT,e,Int.reduceEq,↓reduceIte]
  obtain ⟨n1,k1,r,rfl,g1,g2,g3⟩:=kids12 h e
  exact (((lx_const [.wd [119,104,105,108,101],.sp 32] (by decide)).appW (hk.1.ex g1.1 g1.2)).app sp (by decide) (by decide)).app (lk_join LxF.nil hk.2 g3)
 ·simp only [thN,thT,e,Int.reduceEq,↓reduceIte]
  exact (lx_const [.wd [97,116,111,109,105,99],.sp 32] (by decide)).app (lk_join LxF.nil hk (kids13 h e).2)
 ·simp only [thN,thT,e,Int.reduceEq,↓reduceIte]
  exact lx_const [.wd [115,107,105,112],.sg [59]] (by decide)
 ·simp only [thN,thT,e,Int.reduceEq,↓reduceIte]
  exact lx_const [.wd [115,116,111,112],.sg [59]] (by decide)
end
theorem lk_of:∀ (f:Fo),f.ok=true→LkF f
 | .nil,_=>trivial
 | .cons n k r,h=>by
  simp only [Fo.ok,Bool.and_eq_true] at h
  have hk:=lk_of k h.2.1
  exact ⟨⟨rfl,lk_ex h.1 hk,lk_th h.1 hk,fun e d=>lk_bra hk (fun x hx=>by have:=kids16 h.1 e x hx; omega)⟩,lk_of r h.2.2⟩
end Go.Proofs.YtcffdpmmadipeaaGreatDoor
namespace Go.Proofs.YtcffdpmmadipeaaGreatDoor
open Go.HL
set_option maxRecDepth 10000
def Ev (L:List Tok) (c:Cm) (s:PS) (r:TT × PS):Prop:=∃ n0,∀ n,n0≤n→runE L n c s=some r
def Ah (L:List Tok) (p:Nat) (T:List Tk):Prop:=∃ r,(L.drop p).map tkO=T ++ r
def Fine (s:PS) (D:Nat):Prop:=s.flt.err=0∧0≤s.deep∧s.deep + D≤200
def adv (s:PS) (k:Nat):PS:={ s with pos:=s.pos + k }
def Nd.st (n:Nd):Nd:={ n with pos:=0 }
def Fo.st:Fo→Fo
 | .nil=>.nil
 | .cons n k r=>.cons n.st k.st r.st
def stT (t:TT):TT:=(t.1.st,t.2.st)
section
variable {L:List Tok} {s:PS} {x:Tk} {T R:List Tk} {p:Nat} {w u:Str} {D D':Nat}
theorem adv_adv {a b:Nat}:adv (adv s a) b=adv s (a + b):=by simp [adv,Nat.add_assoc]
theorem up_adv:upM s=adv s 1:=rfl
theorem adv_zero:adv s 0=s:=rfl
theorem Fine.adv {a:Nat} (h:Fine s D):Fine (adv s a) D:=h
theorem Fine.le (h:Fine s D) (hd:D'≤D):Fine s D':=⟨h.1,h.2.1,by have:=h.2.2; omega⟩
theorem Fine.ok (h:Fine s D):okM s=true:=by unfold okM; simp [h.1]
theorem Ah.tail (h:Ah L p (x :: T)):Ah L (p + 1) T:=by
 obtain ⟨r,h⟩:=h
 refine ⟨r,?_⟩
 rw [← List.drop_drop,List.map_drop,h]; rfl
theorem Ah.app (h:Ah L p (T ++ R)):Ah L (p + T.length) R:=by
 obtain ⟨r,h⟩:=h
 refine ⟨r,?_⟩
 rw [← List.drop_drop,List.map_drop,h,List.append_assoc,List.drop_left']
 rfl
theorem Ah.left (h:Ah L p (T ++ R)):Ah L p T:=by
 obtain ⟨r,h⟩:=h
 exact ⟨R ++ r,by rw [h,List.append_assoc]⟩
theorem Ah.tk (h:Ah L s.pos (x :: T)):(tkM L s).kind=x.1∧(tkM L s).s=x.2∧s.pos < L.length:=by
 obtain ⟨r,h⟩:=h
 have h0:=congrArg (fun l=>l[0]?) h
 simp only [List.cons_append,gZ,List.getElem?_map,List.getElem?_drop,Nat.add_zero,Option.map_eq_some_iff] at h0
 obtain ⟨t,h1,h2⟩:=h0
 unfold tkM
 rw [List.getD_eq_getElem?_getD,h1]
 subst h2
 exact ⟨rfl,rfl,(List.getElem?_eq_some_iff.1 h1).1⟩
theorem sees_sg (hf:Fine s D) (h:Ah L s.pos ((2,w) :: T)):seesM L w s=true:=by
 obtain ⟨h1,h2,_⟩:=h.tk
 unfold seesM
 rw [hf.ok,h1,h2]; simp
theorem sees_kw (hf:Fine s D) (h:Ah L s.pos ((0,w) :: T)) (hk:keyM w=true):seesM L w s=true:=by
 obtain ⟨h1,h2,_⟩:=h.tk
 unfold seesM
 rw [hf.ok,h1,h2,hk]; simp
theorem sees_ne (h:Ah L s.pos (x :: T)) (hn:x.2 ≠ w):seesM L w s=false:=by
 obtain ⟨h1,h2,_⟩:=h.tk
 unfold seesM
 rw [h2]; simp [hn]
theorem sees_num (h:Ah L s.pos ((1,u) :: T)):seesM L w s=false:=by
 obtain ⟨h1,h2,_⟩:=h.tk
 unfold seesM
 rw [h1]; simp
theorem name_key (h:nameM u=true):keyM u=false:=by
 unfold nameM at h
 simp only [Bool.and_eq_true,Bool.not_eq_true'] at h
 exact h.1.2
theorem sees_name (h:Ah L s.pos ((0,u) :: T)) (hn:nameM u=true):seesM L w s=false:=by
 obtain ⟨h1,h2,_⟩:=h.tk
 unfold seesM
 rw [h1,h2]
 by_cases e:u=w
 ·subst e; simp [name_key hn]
 ·simp [e]
theorem isNum_no (h:Ah L s.pos (x :: T)) (hn:x.1 ≠ 1):isNum L s=false:=by
 obtain ⟨h1,h2,_⟩:=h.tk
 unfold isNum
 rw [h1]; simp [hn]
theorem isName_yes (hf:Fine s D) (h:Ah L s.pos ((0,u) :: T)) (hn:nameM u=true):pnameM L s=(u,adv s 1):=by
 obtain ⟨h1,h2,_⟩:=h.tk
 unfold pnameM isName
 rw [h1,h2,hn,hf.ok]; simp [up_adv]
theorem isNum_yes (hf:Fine s D) (h:Ah L s.pos ((1,u) :: T)):isNum L s=true∧pnumM L s=(valM u,adv s 1):=by
 obtain ⟨h1,h2,_⟩:=h.tk
 unfold pnumM isNum
 rw [h1,h2,hf.ok]; simp [up_adv]
theorem must_yes (h:seesM L w s=true):mustM L w s=adv s 1:=by unfold mustM; rw [if_pos h]; rfl
end
theorem val_dig:∀ (f n:Nat),n < 10 ^ f→valM (digF f n)=n
 | 0,n,h=>by
   have:n=0:=by simpa using h
   subst this; rfl
 | f + 1,n,h=>by
  have d1:∀ m,m < 10→(((dig1 m).toNat:Int) - 48)=m:=by decide
  unfold digF
  split
  ·rename_i h10
   unfold valM
   simp [d1 n h10]
  ·have h2:=val_dig f (n / 10) (by rw [Nat.pow_succ] at h; omega)
   have h3:=d1 (n % 10) (Nat.mod_lt _ (by omega))
   unfold valM at h2 ⊢
   rw [List.foldl_append,h2]
   simp only [List.foldl_cons,List.foldl_nil]
   rw [h3]; omega
def lvl:Nat→Cm
 | 0=>.expr
 | 1=>.and
 | 2=>.same
 | 3=>.less
 | 4=>.sum
 | 5=>.product
 | _=>.part
def loopC (v:Nat) (t:TT):Cm:=match v with
 | 0=>.orL t
 | 1=>.andL t
 | 4=>.sumL t
 | _=>.prodL t
def lvO (w:Str):Int:=if w = [124,124] then 0 else if w = [38,38] then 1 else if w = [61,61] then 2 else if w = [60] then 3 else if w = [43]∨w = [45] then 4 else if w = [42]∨w = [47]∨w = [37] then 5 else -1
def PT (v D:Nat) (T:List Tk) (t:TT):Prop:=∀ L s x R,Fine s D→Ah L s.pos (T ++ x :: R)→lvO x.2 < v→∃ t',stT t'=stT t∧Ev L (lvl v) s (t',adv s T.length)
def QT (v D:Nat) (T:List Tk) (t:TT):Prop:=∀ L s x R,Fine s D→Ah L s.pos (T ++ x :: R)→lvO x.2≤v→∃ t',stT t'=stT t∧∀ r,Ev L (loopC v t') (adv s T.length) r→Ev L (lvl v) s r
section
variable {L:List Tok} {s s1 s2:PS} {a b:TT} {r:TT × PS}
theorem ev_step {c:Cm} (h:∃ n0,∀ n,n0≤n→stepE L (runE L n) c s=some r):Ev L c s r:=by
 obtain ⟨n0,h⟩:=h
 refine ⟨n0 + 1,fun n hn=>?_⟩
 obtain ⟨m,rfl⟩:∃ m,n=m + 1:=⟨n - 1,by omega⟩
 exact h m (by omega)
theorem ev_two {c1 c:Cm} {c2:TT→Cm} (hc:∀ ih s,stepE L ih c s=(ih c1 s).bind fun r=>ih (c2 r.1) r.2) (h:Ev L c1 s (a,s1)) (h2:Ev L (c2 a) s1 r):Ev L c s r:=by
 obtain ⟨n1,h⟩:=h
 obtain ⟨n2,h2⟩:=h2
 refine ev_step ⟨max n1 n2,fun n hn=>?_⟩
 rw [hc,h n (by omega)]
 exact h2 n (by omega)
theorem ev_orL_stop (h:seesM L [124,124] s=false):Ev L (.orL a) s (a,s):=ev_step ⟨0,fun n _=>by simp [stepE,h]⟩
theorem ev_andL_stop (h:seesM L [38,38] s=false):Ev L (.andL a) s (a,s):=ev_step ⟨0,fun n _=>by simp [stepE,h]⟩
theorem ev_sumL_stop (h:seesM L [43] s=false) (h2:seesM L [45] s=false):Ev L (.sumL a) s (a,s):=ev_step ⟨0,fun n _=>by simp [stepE,h,h2]⟩
theorem ev_prodL_stop (h:seesM L [42] s=false) (h2:seesM L [47] s=false) (h3:seesM L [37] s=false):Ev L (.prodL a) s (a,s):=ev_step ⟨0,fun n _=>by simp [stepE,h,h2,h3]⟩
theorem ev_go {c c1:Cm} {c2:TT→Cm} (hc:∀ ih,stepE L ih c s=(ih c1 (upM s)).bind fun r=>ih (c2 r.1) r.2) (h:Ev L c1 (upM s) (b,s1)) (h2:Ev L (c2 b) s1 r):Ev L c s r:=by
 obtain ⟨n1,h⟩:=h
 obtain ⟨n2,h2⟩:=h2
 refine ev_step ⟨max n1 n2,fun n hn=>?_⟩
 rw [hc,h n (by omega)]
 exact h2 n (by omega)
theorem ev_once_stop {c c1:Cm} {w:Str} {m:Int} (hc:∀ ih s,stepE L ih c s=(ih c1 s).bind fun r=>if seesM L w r.2 then (ih c1 (upM r.2)).map fun q=>(binM m r.1 q.1,q.2) else some r)
  (h:Ev L c1 s (a,s1)) (h2:seesM L w s1=false):Ev L c s (a,s1):=by
 obtain ⟨n1,h⟩:=h
 refine ev_step ⟨n1,fun n hn=>?_⟩
 rw [hc,h n hn]
 simp [h2]
theorem ev_once_go {c c1:Cm} {w:Str} {m:Int} (hc:∀ ih s,stepE L ih c s=(ih c1 s).bind fun r=>if seesM L w r.2 then (ih c1 (upM r.2)).map fun q=>(binM m r.1 q.1,q.2) else some r)
  (h:Ev L c1 s (a,s1)) (h2:seesM L w s1=true) (h3:Ev L c1 (upM s1) (b,s2)):Ev L c s (binM m a b,s2):=by
 obtain ⟨n1,h⟩:=h
 obtain ⟨n2,h3⟩:=h3
 refine ev_step ⟨max n1 n2,fun n hn=>?_⟩
 rw [hc,h n (by omega)]
 simp [h2,h3 n (by omega)]
end
section
variable {v D D' Da Db:Nat} {T Ta Tb:List Tk} {t a b:TT}
theorem PT.le (h:PT v D T t) (hd:D≤D'):PT v D' T t:=fun L s x R hf ha hx=>h L s x R (hf.le hd) ha hx
theorem QT.le (h:QT v D T t) (hd:D≤D'):QT v D' T t:=fun L s x R hf ha hx=>h L s x R (hf.le hd) ha hx
theorem lvO_ne {x:Str} {w:Str} (h:lvO x < lvO w):x ≠ w:=by rintro rfl; omega
theorem q5 (h:PT 6 D T t):QT 5 D T t:=by
 intro L s x R hf ha hx
 obtain ⟨t',e,h1⟩:=h L s x R hf ha (by omega)
 exact ⟨t',e,fun r hr=>ev_two (c1:=.part) (c2:=.prodL) (fun _ _=>rfl) h1 hr⟩
theorem p5 (h:QT 5 D T t):PT 5 D T t:=by
 intro L s x R hf ha hx
 obtain ⟨t',e,h1⟩:=h L s x R hf ha (by omega)
 have h2:=ha.app
 exact ⟨t',e,h1 _ (ev_prodL_stop (sees_ne (s:=adv s T.length) h2 (lvO_ne hx)) (sees_ne (s:=adv s T.length) h2 (lvO_ne hx)) (sees_ne (s:=adv s T.length) h2 (lvO_ne hx)))⟩
theorem q4 (h:PT 5 D T t):QT 4 D T t:=by
 intro L s x R hf ha hx
 obtain ⟨t',e,h1⟩:=h L s x R hf ha (by omega)
 exact ⟨t',e,fun r hr=>ev_two (c1:=.product) (c2:=.sumL) (fun _ _=>rfl) h1 hr⟩
theorem p4 (h:QT 4 D T t):PT 4 D T t:=by
 intro L s x R hf ha hx
 obtain ⟨t',e,h1⟩:=h L s x R hf ha (by omega)
 have h2:=ha.app
 exact ⟨t',e,h1 _ (ev_sumL_stop (sees_ne (s:=adv s T.length) h2 (lvO_ne hx)) (sees_ne (s:=adv s T.length) h2 (lvO_ne hx)))⟩
theorem p3 (h:PT 4 D T t):PT 3 D T t:=by
 intro L s x R hf ha hx
 obtain ⟨t',e,h1⟩:=h L s x R hf ha (by omega)
 have h2:=ha.app
 exact ⟨t',e,ev_once_stop (c1:=.sum) (m:=3) (fun _ _=>rfl) h1 (sees_ne (s:=adv s T.length) h2 (lvO_ne hx))⟩
theorem p2 (h:PT 3 D T t):PT 2 D T t:=by
 intro L s x R hf ha hx
 obtain ⟨t',e,h1⟩:=h L s x R hf ha (by omega)
 have h2:=ha.app
 exact ⟨t',e,ev_once_stop (c1:=.less) (m:=2) (fun _ _=>rfl) h1 (sees_ne (s:=adv s T.length) h2 (lvO_ne hx))⟩
theorem q1 (h:PT 2 D T t):QT 1 D T t:=by
 intro L s x R hf ha hx
 obtain ⟨t',e,h1⟩:=h L s x R hf ha (by omega)
 exact ⟨t',e,fun r hr=>ev_two (c1:=.same) (c2:=.andL) (fun _ _=>rfl) h1 hr⟩
theorem p1 (h:QT 1 D T t):PT 1 D T t:=by
 intro L s x R hf ha hx
 obtain ⟨t',e,h1⟩:=h L s x R hf ha (by omega)
 have h2:=ha.app
 exact ⟨t',e,h1 _ (ev_andL_stop (sees_ne (s:=adv s T.length) h2 (lvO_ne hx)))⟩
theorem q0 (h:PT 1 D T t):QT 0 D T t:=by
 intro L s x R hf ha hx
 obtain ⟨t',e,h1⟩:=h L s x R hf ha (by omega)
 exact ⟨t',e,fun r hr=>ev_two (c1:=.and) (c2:=.orL) (fun _ _=>rfl) h1 hr⟩
theorem p0 (h:QT 0 D T t):PT 0 D T t:=by
 intro L s x R hf ha hx
 obtain ⟨t',e,h1⟩:=h L s x R hf ha (by omega)
 have h2:=ha.app
 exact ⟨t',e,h1 _ (ev_orL_stop (sees_ne (s:=adv s T.length) h2 (lvO_ne hx)))⟩
structure All (w D:Nat) (T:List Tk) (t:TT):Prop where
 p:∀ v,v≤w→v≤6→PT v D T t
 q:∀ v,v≤w→v=0∨v=1∨v=4∨v=5→QT v D T t
theorem all0 (h:QT 0 D T t):All 0 D T t:=by
 refine ⟨fun v hv _=>?_,fun v hv _=>?_⟩
 ·have:v=0:=by omega
  subst this; exact p0 h
 ·have:v=0:=by omega
  subst this; exact h
theorem All.up {w:Nat} (h:All w D T t) (hp:w + 1≤6→PT (w + 1) D T t) (hq:w + 1=1∨w + 1=4∨w + 1=5→QT (w + 1) D T t):All (w + 1) D T t :=
 ⟨fun v hv h6=>by
  rcases Nat.lt_or_ge w v with q | q
  ·have:v=w + 1:=by omega
   subst this; exact hp h6
  ·exact h.p v q h6,fun v hv hc=>by
  rcases Nat.lt_or_ge w v with q | q
  ·have:v=w + 1:=by omega
   subst this; exact hq (by omega)
  ·exact h.q v q hc⟩
theorem all1 (h:QT 1 D T t):All 1 D T t:=(all0 (q0 (p1 h))).up (fun _=>p1 h) (fun _=>h)
theorem all2 (h:PT 2 D T t):All 2 D T t:=(all1 (q1 h)).up (fun _=>h) (fun e=>by omega)
theorem all3 (h:PT 3 D T t):All 3 D T t:=(all2 (p2 h)).up (fun _=>h) (fun e=>by omega)
theorem all4 (h:QT 4 D T t):All 4 D T t:=(all3 (p3 (p4 h))).up (fun _=>p4 h) (fun _=>h)
theorem all5 (h:QT 5 D T t):All 5 D T t:=(all4 (q4 (p5 h))).up (fun _=>p5 h) (fun _=>h)
theorem all6 (h:PT 6 D T t):All 9 D T t :=
 ((((all5 (q5 h)).up (fun _=>h) (fun e=>by omega)).up (fun e=>by omega) (fun e=>by omega)).up (fun e=>by omega) (fun e=>by omega)).up (fun e=>by omega) (fun e=>by omega)
theorem deep_ok {s:PS} (hf:Fine s (D + 1)) (k:Nat):¬ ((adv s k).deep < -1000000000∨1000000000 < (adv s k).deep):=by
 have h1:=hf.2.1
 have h2:=hf.2.2
 show ¬ (s.deep < -1000000000∨1000000000 < s.deep)
 omega
theorem in_ok {L:List Tok} {s:PS} (hf:Fine s (D + 1)):inM L s = { s with deep:=s.deep + 1 }∧Fine { s with deep:=s.deep + 1 } D:=by
 have h1:=hf.2.1
 have h2:=hf.2.2
 unfold inM
 rw [if_neg (by omega)]
 exact ⟨rfl,hf.1,by show 0≤s.deep + 1; omega,by show s.deep + 1 + D≤200; omega⟩
theorem par_pt (h:PT 0 D T t):PT 6 (D + 1) ([(2,[40])] ++ T ++ [(2,[41])]) t:=by
 intro L s x R hf ha hx
 simp only [List.append_assoc,List.cons_append,List.nil_append] at ha
 have f1:Fine (upM s) (D + 1):=hf
 obtain ⟨i1,i2⟩:=in_ok (L:=L) f1
 have a1:Ah L (upM s).pos (T ++ (2,[41]) :: x :: R):=ha.tail
 obtain ⟨t',e,n1,h1⟩:=h L { upM s with deep:=(upM s).deep + 1 } (2,[41]) (x :: R) i2 a1 (by decide)
 refine ⟨t',e,ev_step ⟨n1,fun n hn=>?_⟩⟩
 have d0:=deep_ok hf 0
 have s1:=sees_sg hf ha
 have a2:=a1.app
 have f2:Fine (outM (adv { upM s with deep:=(upM s).deep + 1 } T.length)) 0:=⟨hf.1,by have:=hf.2.1; show 0≤s.deep + 1 - 1; omega,by have:=hf.2.2; show s.deep + 1 - 1 + ((0:Nat):Int)≤200; omega⟩
 have s2:seesM L [41] (outM (adv { upM s with deep:=(upM s).deep + 1 } T.length))=true:=sees_sg f2 a2
 show stepE L (runE L n) .part s=_
 simp only [stepE]
 rw [isNum_no ha (by simp),sees_ne ha (w:=[108,101,110]) (by decide),sees_ne ha (w:=[45]) (by decide),sees_ne ha (w:=[33]) (by decide),s1,i1]
 have okd:okM { upM s with deep:=(upM s).deep + 1 } = true:=i2.ok
 rw [okd]
 have h3:=h1 n hn
 simp only [lvl] at h3
 have d1:¬ ((adv { upM s with deep:=(upM s).deep + 1 } T.length).deep < -1000000000∨1000000000 < (adv { upM s with deep:=(upM s).deep + 1 } T.length).deep):=by
  have:=hf.2.1
  have:=hf.2.2
  show ¬ (s.deep + 1 < -1000000000∨1000000000 < s.deep + 1)
  omega
 simp only [Bool.false_eq_true,if_false,Bool.or_self,if_true]
 rw [if_neg (by simpa [adv] using d0),h3]
 simp only [Option.bind_some]
 rw [if_neg d1,must_yes s2]
 simp only [Option.some.injEq,Prod.mk.injEq,true_and]
 unfold adv outM upM
 simp
 omega
theorem una_pt {m:Int} {w:Str} (hw:m=20∧w = [45]∨m=21∧w = [33]) (h:PT 6 D T t):PT 6 (D + 1) ([(2,w)] ++ T) (⟨m,[],[],[],0⟩,.cons t.1 t.2 .nil):=by
 intro L s x R hf ha hx
 simp only [List.append_assoc,List.cons_append,List.nil_append] at ha
 have f1:Fine (upM s) (D + 1):=hf
 obtain ⟨i1,i2⟩:=in_ok (L:=L) f1
 have a1:Ah L (upM s).pos (T ++ x :: R):=ha.tail
 obtain ⟨t',e,n1,h1⟩:=h L { upM s with deep:=(upM s).deep + 1 } x R i2 a1 hx
 refine ⟨(⟨m,[],[],[],(tkM L s).pos⟩,.cons t'.1 t'.2 .nil),?_,ev_step ⟨n1,fun n hn=>?_⟩⟩
 ·unfold stT at e ⊢
  simp only [Prod.mk.injEq] at e
  simp only [Fo.st,e.1,e.2]; rfl
 have d0:=deep_ok hf 0
 have s1:=sees_sg hf ha
 have okd:okM { upM s with deep:=(upM s).deep + 1 } = true:=i2.ok
 have h3:=h1 n hn
 simp only [lvl] at h3
 have d1:¬ ((adv { upM s with deep:=(upM s).deep + 1 } T.length).deep < -1000000000∨1000000000 < (adv { upM s with deep:=(upM s).deep + 1 } T.length).deep):=by
  have:=hf.2.1
  have:=hf.2.2
  show ¬ (s.deep + 1 < -1000000000∨1000000000 < s.deep + 1)
  omega
 have fin':outM (adv { upM s with deep:=(upM s).deep + 1 } T.length)=adv s ([(2,w)] ++ T).length:=by
  unfold adv outM upM
  simp
  omega
 show stepE L (runE L n) .part s=_
 simp only [stepE]
 rw [isNum_no ha (by simp),sees_ne ha (w:=[108,101,110]) (by rcases hw with ⟨_,rfl⟩ | ⟨_,rfl⟩ <;> decide),i1,okd,h3]
 rcases hw with ⟨rfl,rfl⟩ | ⟨rfl,rfl⟩
 ·rw [s1]
  simp only [Bool.false_eq_true,if_false,Bool.true_or,if_true]
  rw [if_neg (by simpa [adv] using d0)]
  simp only [Option.bind_some]
  rw [if_neg d1,fin']
 ·rw [s1,sees_ne ha (w:=[45]) (by decide)]
  simp only [Bool.false_eq_true,if_false,Bool.or_true,if_true]
  rw [if_neg (by simpa [adv] using d0)]
  simp only [Option.bind_some]
  rw [if_neg d1,fin']
theorem num_pt {n:Nat} (h:n < 1000000):PT 6 0 [(1,digF 7 n)] (⟨17,[],[(n:Int)],[],0⟩,.nil):=by
 intro L s x R hf ha hx
 obtain ⟨h1,h2⟩:=isNum_yes hf ha
 refine ⟨(⟨17,[],[(n:Int)],[],(tkM L s).pos⟩,.nil),rfl,ev_step ⟨0,fun k _=>?_⟩⟩
 show stepE L (runE L k) .part s=_
 simp only [stepE]
 rw [h1,h2,val_dig 7 n (by omega)]
 rfl
theorem name_pt {w:Str} (h:nameM w=true):PT 6 0 [(0,w)] (⟨18,[w],[],[],0⟩,.nil):=by
 intro L s x R hf ha hx
 refine ⟨(⟨18,[w],[],[],(tkM L s).pos⟩,.nil),rfl,ev_step ⟨0,fun k _=>?_⟩⟩
 show stepE L (runE L k) .part s=_
 simp only [stepE]
 rw [isNum_no ha (by simp),sees_name ha h,sees_name ha h,sees_name ha h,sees_name ha h]
 simp [nameT,isName_yes hf ha h]
theorem len_pt {w:Str} (h:nameM w=true):PT 6 0 ([(0,[108,101,110])] ++ [(0,w)]) (⟨19,[w],[],[],0⟩,.nil):=by
 intro L s x R hf ha hx
 simp only [List.append_assoc,List.cons_append,List.nil_append] at ha
 refine ⟨(⟨19,[w],[],[],(tkM L s).pos⟩,.nil),rfl,ev_step ⟨0,fun k _=>?_⟩⟩
 have s1:=sees_kw hf ha (by decide)
 show stepE L (runE L k) .part s=_
 simp only [stepE]
 rw [isNum_no ha (by simp),s1]
 have a1:Ah L (upM s).pos ((0,w) :: x :: R):=ha.tail
 have e1:=isName_yes (s:=upM s) hf a1 h
 simp only [nameT,e1,Bool.false_eq_true,if_false,if_true]
 rfl
theorem bin_st {m:Int} {a' b':TT} (h1:stT a'=stT a) (h2:stT b'=stT b):stT (binM m a' b')=stT (binM m a b):=by
 unfold stT binM at *
 simp only [Prod.mk.injEq] at h1 h2
 simp only [Fo.st,h1.1,h1.2,h2.1,h2.2]
 rfl
theorem bin_qt {v:Nat} {m:Int} {w:Str} (hv:v=0∨v=1∨v=4∨v=5) (hw:lvO w=v) (hstep:∀ L s t ih,seesM L w s=true→(∀ u,u ≠ w→seesM L u s=false)→stepE L ih (loopC v t) s=(ih (lvl (v + 1)) (upM s)).bind fun r=>ih (loopC v (binM m t r.1)) r.2)
  (ha:QT v Da Ta a) (hb:PT (v + 1) Db Tb b):QT v (max Da Db) (Ta ++ [(2,w)] ++ Tb) (binM m a b):=by
 intro L s x R hf hh hx
 simp only [List.append_assoc,List.cons_append,List.nil_append] at hh
 obtain ⟨a',e1,h1⟩:=ha L s (2,w) (Tb ++ x :: R) (hf.le (by omega)) hh (by simp [hw])
 have hs:=hh.app
 have f1:Fine (adv s Ta.length) (max Da Db):=hf
 have s1:seesM L w (adv s Ta.length)=true:=sees_sg f1 hs
 have s2:∀ u,u ≠ w→seesM L u (adv s Ta.length)=false:=fun u hu=>sees_ne (s:=adv s Ta.length) hs (by simpa using Ne.symm hu)
 obtain ⟨b',e2,h2⟩:=hb L (upM (adv s Ta.length)) x R (hf.le (by omega)) hs.tail (by omega)
 refine ⟨binM m a' b',bin_st e1 e2,fun r hr=>h1 r ?_⟩
 refine ev_go (c1:=lvl (v + 1)) (c2:=fun q=>loopC v (binM m a' q)) (fun ih=>hstep L _ _ ih s1 s2) h2 ?_
 have e3:adv (upM (adv s Ta.length)) Tb.length=adv s (Ta ++ [(2,w)] ++ Tb).length:=by
  rw [up_adv,adv_adv,adv_adv]; congr 1; simp; omega
 rw [e3]
 exact hr
theorem bin_pt {v:Nat} {m:Int} {w:Str} (hw:lvO w=v) (hc:∀ L ih s,stepE L ih (lvl v) s=(ih (lvl (v + 1)) s).bind fun r=>if seesM L w r.2 then (ih (lvl (v + 1)) (upM r.2)).map fun q=>(binM m r.1 q.1,q.2) else some r)
  (ha:PT (v + 1) Da Ta a) (hb:PT (v + 1) Db Tb b):PT v (max Da Db) (Ta ++ [(2,w)] ++ Tb) (binM m a b):=by
 intro L s x R hf hh hx
 simp only [List.append_assoc,List.cons_append,List.nil_append] at hh
 obtain ⟨a',e1,h1⟩:=ha L s (2,w) (Tb ++ x :: R) (hf.le (by omega)) hh (by simp only [hw]; omega)
 have hs:=hh.app
 have f1:Fine (adv s Ta.length) (max Da Db):=hf
 have s1:seesM L w (adv s Ta.length)=true:=sees_sg f1 hs
 obtain ⟨b',e2,h2⟩:=hb L (upM (adv s Ta.length)) x R (hf.le (by omega)) hs.tail (by omega)
 refine ⟨binM m a' b',bin_st e1 e2,?_⟩
 have e3:adv (upM (adv s Ta.length)) Tb.length=adv s (Ta ++ [(2,w)] ++ Tb).length:=by
  rw [up_adv,adv_adv,adv_adv]; congr 1; simp; omega
 have:=ev_once_go (hc L) h1 s1 h2
 rw [e3] at this
 exact this
end
end Go.Proofs.YtcffdpmmadipeaaGreatDoor
namespace Go.Proofs.YtcffdpmmadipeaaGreatDoor
open Go.HL
set_option maxRecDepth 10000
section
variable {v D D':Nat} {T:List Tk} {t t2:TT} {w:Nat} {n:Nd} {k:Fo} {ks:List Int}
theorem PT.as (h:PT v D T t) (e:stT t=stT t2):PT v D T t2:=by
 intro L s x R hf ha hx
 obtain ⟨t',e1,h1⟩:=h L s x R hf ha hx
 exact ⟨t',e1.trans e,h1⟩
theorem QT.as (h:QT v D T t) (e:stT t=stT t2):QT v D T t2:=by
 intro L s x R hf ha hx
 obtain ⟨t',e1,h1⟩:=h L s x R hf ha hx
 exact ⟨t',e1.trans e,h1⟩
theorem All.as (h:All w D T t) (e:stT t=stT t2):All w D T t2:=⟨fun v h1 h2=>(h.p v h1 h2).as e,fun v h1 h2=>(h.q v h1 h2).as e⟩
theorem All.le (h:All w D T t) (e:D≤D'):All w D' T t:=⟨fun v h1 h2=>(h.p v h1 h2).le e,fun v h1 h2=>(h.q v h1 h2).le e⟩
theorem len_one {α:Type} {l:List α} (d:α) (h:l.length=1):l = [l.getD 0 d]:=by
 match l,h with
 | [a],_=>rfl
theorem len_two {α:Type} {l:List α} (d:α) (h:l.length=2):l = [l.getD 0 d,l.getD 1 d]:=by
 match l,h with
 | [a,b],_=>rfl
theorem len_four {α:Type} {l:List α} (d:α) (h:l.length=4):l = [l.getD 0 d,l.getD 1 d,l.getD 2 d,l.getD 3 d]:=by
 match l,h with
 | [a,b,c,e],_=>rfl
theorem okN_wl (h:okN n ks=true):n.words.length=wcount n.kind:=by
 unfold okN wordsM at h
 simp only [Bool.and_eq_true,decide_eq_true_eq] at h
 exact h.1.2
theorem okN_ul (h:okN n ks=true):n.nums.length=(bnds n.kind).length:=by
 unfold okN withinM at h
 simp only [Bool.and_eq_true,decide_eq_true_eq] at h
 exact h.2.1.1
theorem nd_st {c:Int} {ws:List Str} {us:List Int} (h1:n.kind=c) (h2:n.words=ws) (h3:n.nums=us) (h4:n.kids = []):n.st=⟨c,ws,us,[],0⟩:=by
 unfold Nd.st
 rw [h1,h2,h3,h4]
theorem op_pt {l:Int} (hl:0≤l) (h:All l.toNat D T t) (hw:w≤6):PT w (D + 1) (parT (decide (l < w)) T) t:=by
 by_cases hc:l < w
 ·simp only [hc,decide_true,parT,if_true]
  exact (all6 (par_pt (h.p 0 (by omega) (by omega)))).p w (by omega) hw
 ·simp only [hc,decide_false,parT,Bool.false_eq_true,if_false]
  exact (h.p w (by omega) hw).le (by omega)
theorem op_qt {l:Int} (hl:0≤l) (h:All l.toNat D T t) (hw:w=0∨w=1∨w=4∨w=5):QT w (D + 1) (parT (decide (l < w)) T) t:=by
 by_cases hc:l < w
 ·simp only [hc,decide_true,parT,if_true]
  exact (all6 (par_pt (h.p 0 (by omega) (by omega)))).q w (by omega) hw
 ·simp only [hc,decide_false,parT,Bool.false_eq_true,if_false]
  exact (h.q w (by omega) hw).le (by omega)
theorem levN_rng (n:Nd):0≤levN n∧levN n≤9:=by
 unfold levN
 have:=levS_rng (n.nums.getD 0 0)
 split <;> omega
theorem levN_no (h:n.kind ≠ 22):(levN n).toNat=9:=by unfold levN; rw [if_neg h]; rfl
def ExF:Fo→Prop
 | .nil=>True
 | .cons n k r=>(17≤n.kind→n.kind≤22→All (levN n).toNat (2 * (k.dep + 1)) (exT n k.ts) (n,k))∧ExF r
set_option maxHeartbeats 1000000 in
theorem ex_node (h:okN n k.kinds=true) (hb:n.kids = []) (hk:ExF k) (h1:17≤n.kind) (h2:n.kind≤22):All (levN n).toNat (2 * (k.dep + 1)) (exT n k.ts) (n,k):=by
 have wl:=okN_wl h
 have ul:=okN_ul h
 have:n.kind=17∨n.kind=18∨n.kind=19∨n.kind=20∨n.kind=21∨n.kind=22:=by omega
 rcases this with e | e | e | e | e | e
 ·rw [levN_no (by omega)]
  simp only [exT,e,Int.reduceEq,↓reduceIte]
  have hn:=okN_num h (i:=0) (by rw [e]; decide)
  rw [e] at hn wl ul
  have h0:0≤n0' n∧n0' n≤999999:=hn
  have e1:=kidsN h (by omega)
  subst e1
  have e3:numT (n0' n) = [(1,digF 7 (n0' n).toNat)]:=by unfold numT; rw [if_neg (by omega)]
  rw [e3]
  have e2:=nd_st e (List.length_eq_zero_iff.1 wl) (len_one (0:Int) ul) hb
  refine ((all6 (num_pt (n:=(n0' n).toNat) (by omega))).as ?_).le (by omega)
  unfold stT
  rw [e2]
  have:((n0' n).toNat:Int)=n.nums.getD 0 0:=by unfold n0' at *; omega
  simp only [this]; rfl
 ·rw [levN_no (by omega)]
  simp only [exT,e,Int.reduceEq,↓reduceIte]
  have hn:=okN_name h (i:=0) (by rw [e]; decide)
  rw [e] at wl ul
  have e1:=kidsN h (by omega)
  subst e1
  have e2:=nd_st e (len_one ([]:Str) wl) (List.length_eq_zero_iff.1 ul) hb
  refine ((all6 (name_pt hn)).as ?_).le (by omega)
  unfold stT
  rw [e2]; rfl
 ·rw [levN_no (by omega)]
  simp only [exT,e,Int.reduceEq,↓reduceIte]
  have hn:=okN_name h (i:=0) (by rw [e]; decide)
  rw [e] at wl ul
  have e1:=kidsN h (by omega)
  subst e1
  have e2:=nd_st e (len_one ([]:Str) wl) (List.length_eq_zero_iff.1 ul) hb
  refine ((all6 (len_pt hn)).as ?_).le (by omega)
  unfold stT
  rw [e2]; rfl
 ·rw [levN_no (by omega)]
  simp only [exT,e,Int.reduceEq,↓reduceIte]
  obtain ⟨n1,k1,rfl,g1,g2⟩:=kidsE h (by omega)
  rw [e] at wl ul
  have e2:=nd_st e (List.length_eq_zero_iff.1 wl) (List.length_eq_zero_iff.1 ul) hb
  have hop:=op_pt (w:=6) (levN_rng n1).1 (hk.1 g1 g2) (by omega)
  refine ((all6 (una_pt (.inl ⟨rfl,rfl⟩) hop)).as ?_).le (by simp only [Fo.dep]; omega)
  unfold stT
  simp only [Fo.st,e2]; rfl
 ·rw [levN_no (by omega)]
  simp only [exT,e,Int.reduceEq,↓reduceIte]
  obtain ⟨n1,k1,rfl,g1,g2⟩:=kidsE h (by omega)
  rw [e] at wl ul
  have e2:=nd_st e (List.length_eq_zero_iff.1 wl) (List.length_eq_zero_iff.1 ul) hb
  have hop:=op_pt (w:=6) (levN_rng n1).1 (hk.1 g1 g2) (by omega)
  refine ((all6 (una_pt (.inr ⟨rfl,rfl⟩) hop)).as ?_).le (by simp only [Fo.dep]; omega)
  unfold stT
  simp only [Fo.st,e2]; rfl
 ·simp only [exT,e,Int.reduceEq,↓reduceIte]
  obtain ⟨n1,k1,n2,k2,rfl,g1,g2⟩:=kids22 h e
  have hn:=okN_num h (i:=0) (by rw [e]; decide)
  rw [e] at hn wl ul
  have h0:0≤n0' n∧n0' n≤8:=hn
  have e2:=nd_st e (List.length_eq_zero_iff.1 wl) (len_one (0:Int) ul) hb
  have a:=hk.1 g1.1 g1.2
  have b:=hk.2.1 g2.1 g2.2
  have la:=(levN_rng n1).1
  have lb:=(levN_rng n2).1
  have st:∀ m:Int,m=n0' n→stT (binM m (n1,k1) (n2,k2))=stT (n,.cons n1 k1 (.cons n2 k2 .nil)):=by
   intro m hm
   unfold stT binM
   simp only [Fo.st,e2,hm,n0']
   rfl
  have hD:max (2 * (k1.dep + 1) + 1) (2 * (k2.dep + 1) + 1)≤2 * ((Fo.cons n1 k1 (.cons n2 k2 .nil)).dep + 1):=by simp only [Fo.dep]; omega
  have hlv:levN n=levS (n0' n):=by unfold levN; rw [if_pos e]; rfl
  rw [hlv]
  have:n0' n=0∨n0' n=1∨n0' n=2∨n0' n=3∨n0' n=4∨n0' n=5∨n0' n=6∨n0' n=7∨n0' n=8:=by omega
  rcases this with q | q | q | q | q | q | q | q | q
  all_goals rw [q] at st ⊢
  ·exact ((all0 (bin_qt (v:=0) (m:=0) (w:=[124,124]) (by omega) rfl (by intro L s t ih h _; simp [stepE,loopC,lvl,h]) (op_qt (w:=0) la a (by omega)) (op_pt (w:=1) lb b (by omega)))).as (st 0 rfl)).le hD
  ·exact ((all1 (bin_qt (v:=1) (m:=1) (w:=[38,38]) (by omega) rfl (by intro L s t ih h _; simp [stepE,loopC,lvl,h]) (op_qt (w:=1) la a (by omega)) (op_pt (w:=2) lb b (by omega)))).as (st 1 rfl)).le hD
  ·exact ((all2 (bin_pt (v:=2) (m:=2) (w:=[61,61]) rfl (fun _ _ _=>rfl) (op_pt (w:=3) la a (by omega)) (op_pt (w:=3) lb b (by omega)))).as (st 2 rfl)).le hD
  ·exact ((all3 (bin_pt (v:=3) (m:=3) (w:=[60]) rfl (fun _ _ _=>rfl) (op_pt (w:=4) la a (by omega)) (op_pt (w:=4) lb b (by omega)))).as (st 3 rfl)).le hD
  ·exact ((all4 (bin_qt (v:=4) (m:=4) (w:=[43]) (by omega) rfl (by intro L s t ih h _; simp [stepE,loopC,lvl,h]) (op_qt (w:=4) la a (by omega)) (op_pt (w:=5) lb b (by omega)))).as (st 4 rfl)).le hD
  ·exact ((all4 (bin_qt (v:=4) (m:=5) (w:=[45]) (by omega) rfl (by intro L s t ih h h2; simp [stepE,loopC,lvl,h,h2 [43] (by decide)]) (op_qt (w:=4) la a (by omega)) (op_pt (w:=5) lb b (by omega)))).as (st 5 rfl)).le hD
  ·exact ((all5 (bin_qt (v:=5) (m:=6) (w:=[42]) (by omega) rfl (by intro L s t ih h _; simp [stepE,loopC,lvl,h]) (op_qt (w:=5) la a (by omega)) (op_pt (w:=6) lb b (by omega)))).as (st 6 rfl)).le hD
  ·exact ((all5 (bin_qt (v:=5) (m:=7) (w:=[47]) (by omega) rfl (by intro L s t ih h h2; simp [stepE,loopC,lvl,h,h2 [42] (by decide)]) (op_qt (w:=5) la a (by omega)) (op_pt (w:=6) lb b (by omega)))).as (st 7 rfl)).le hD
  ·exact ((all5 (bin_qt (v:=5) (m:=8) (w:=[37]) (by omega) rfl (by intro L s t ih h h2; simp [stepE,loopC,lvl,h,h2 [42] (by decide),h2 [47] (by decide)]) (op_qt (w:=5) la a (by omega)) (op_pt (w:=6) lb b (by omega)))).as (st 8 rfl)).le hD
end
theorem ex_of:∀ (f:Fo),f.ok=true→f.bare=true→ExF f
 | .nil,_,_=>trivial
 | .cons n k r,h,hb=>by
  simp only [Fo.ok,Bool.and_eq_true] at h
  simp only [Fo.bare,Bool.and_eq_true,decide_eq_true_eq] at hb
  exact ⟨ex_node h.1 hb.1 (ex_of k h.2.1 hb.2.1),ex_of r h.2.2 hb.2.2⟩
end Go.Proofs.YtcffdpmmadipeaaGreatDoor
namespace Go.Proofs.YtcffdpmmadipeaaGreatDoor
open Go.HL
set_option maxRecDepth 10000
def Evs (L:List Tok) (c:Cs) (s:PS) (r:TT × PS):Prop:=∃ n0,∀ n,n0≤n→runS L n c s=some r
def Fo.app:Fo→Fo→Fo
 | .nil,f=>f
 | .cons n k r,f=>.cons n k (r.app f)
theorem Fo.snoc_app:∀ (a:Fo) (n:Nd) (k f:Fo),(a.snoc n k).app f=a.app (.cons n k f)
 | .nil,n,k,f=>rfl
 | .cons m l r,n,k,f=>by simp only [Fo.snoc,Fo.app,Fo.snoc_app r]
theorem Fo.app_nil:∀ (a:Fo),a.app .nil=a
 | .nil=>rfl
 | .cons m l r=>by simp only [Fo.app,Fo.app_nil r]
theorem Fo.app_st:∀ (a f:Fo),(a.app f).st=a.st.app f.st
 | .nil,f=>rfl
 | .cons m l r,f=>by simp only [Fo.app,Fo.st,Fo.app_st r]
theorem Fo.st_len:∀ (f:Fo),f.st.len=f.len
 | .nil=>rfl
 | .cons m l r=>by simp [Fo.st,Fo.len,Fo.st_len r]
section
variable {L:List Tok} {s s1 s2:PS} {c:Cs} {r:TT × PS} {D:Nat} {w:Str} {x y:Tk} {T R:List Tk}
theorem evs_step (h:∃ n0,∀ n,n0≤n→stepS L (runE L n .expr) (runS L n) c s=some r):Evs L c s r:=by
 obtain ⟨n0,h⟩:=h
 refine ⟨n0 + 1,fun n hn=>?_⟩
 obtain ⟨m,rfl⟩:∃ m,n=m + 1:=⟨n - 1,by omega⟩
 exact h m (by omega)
theorem flag_no (h:seesM L w s=false):flagM L w s=(0,s):=by unfold flagM; rw [h]; rfl
theorem flag_yes (h:seesM L w s=true):flagM L w s=(1,adv s 1):=by unfold flagM; rw [h]; rfl
theorem few_of {t:TT} (h:t.2.len < 1000000):few t=true:=by unfold few; simpa using h
theorem deepOk_of (h:Fine s D):deepOk s=true:=by unfold deepOk; have:=h.2.1; have:=h.2.2; simp; omega
end
def ST (n:Nd) (k:Fo):Prop:=∀ L s x R,Fine s (2 * (k.dep + 1))→Ah L s.pos (thT n k.ts ++ x :: R)→x.2 ≠ [101,108,115,101]→x.2 ≠ [111,114]→∃ t',stT t'=stT (n,k)∧Evs L .stat s (t',adv s (thT n k.ts).length)
def BL (n:Nd) (k:Fo):Prop:=∀ L s R,Fine s (2 * (k.dep + 1))→Ah L s.pos (braT k.ts ++ R)→∃ t',stT t'=stT (n,k)∧Evs L .block s (t',adv s (braT k.ts).length)
def StF:Fo→Prop
 | .nil=>True
 | .cons n k r=>(6≤n.kind→n.kind≤15→ST n k)∧(n.kind=16→BL n k)∧StF r
def Hd (x:Tk):Prop:=x.1 ≠ 3∧x.2 ≠ [101,108,115,101]∧x.2 ≠ [111,114]∧x.2 ≠ [125]
theorem name_hd {w:Str} (h:nameM w=true):Hd (0,w)∧w ≠ [118,97,114]:=by
 have hk:=name_key h
 have key:∀ u,keyM u=true→w ≠ u:=by rintro u hu rfl; rw [hk] at hu; cases hu
 refine ⟨⟨by simp,key _ (by decide),key _ (by decide),?_⟩,key _ (by decide)⟩
 rintro rfl
 revert h; decide
theorem th_head {n:Nd} {k:Fo} (h:okN n k.kinds=true) (h1:1≤n.kind) (h2:n.kind≤15):∃ x T,thT n k.ts=x :: T∧Hd x∧(n.kind ≠ 2→x.2 ≠ [118,97,114]):=by
 have:n.kind=1∨n.kind=2∨n.kind=3∨n.kind=4∨n.kind=5∨n.kind=6∨n.kind=7∨n.kind=8∨n.kind=9∨n.kind=10∨n.kind=11∨n.kind=12∨n.kind=13∨n.kind=14∨n.kind=15:=by omega
 have opt:∀ (m:Int) (y:Tk) (T:List Tk),Hd y→y.2 ≠ [118,97,114]→∃ x T',optT m [(0,[105,100,108,101])] ++ (y :: T)=x :: T'∧Hd x∧(n.kind ≠ 2→x.2 ≠ [118,97,114]):=by
  intro m y T hy hv
  unfold optT
  split
  ·exact ⟨y,T,rfl,hy,fun _=>hv⟩
  ·exact ⟨_,_,rfl,⟨by decide,by decide,by decide,by decide⟩,fun _=>by decide⟩
 have hd:∀ w:Str,w ≠ [101,108,115,101]→w ≠ [111,114]→w ≠ [125]→Hd (0,w):=fun w a b c=>⟨by simp,a,b,c⟩
 rcases this with e | e | e | e | e | e | e | e | e | e | e | e | e | e | e
 all_goals simp only [thT,e,Int.reduceEq,↓reduceIte,List.append_assoc,List.cons_append,List.nil_append]
 ·exact ⟨_,_,rfl,hd _ (by decide) (by decide) (by decide),fun _=>by decide⟩
 ·exact ⟨_,_,rfl,hd _ (by decide) (by decide) (by decide),fun h=>absurd rfl h⟩
 ·exact ⟨_,_,rfl,hd _ (by decide) (by decide) (by decide),fun _=>by decide⟩
 ·exact ⟨_,_,rfl,hd _ (by decide) (by decide) (by decide),fun _=>by decide⟩
 ·exact ⟨_,_,rfl,hd _ (by decide) (by decide) (by decide),fun _=>by decide⟩
 ·have hn:=name_hd (okN_name h (i:=0) (by rw [e]; decide))
  exact ⟨_,_,rfl,hn.1,fun _=>hn.2⟩
 ·exact ⟨_,_,rfl,hd _ (by decide) (by decide) (by decide),fun _=>by decide⟩
 ·have:=opt (n0' n) (0,[114,101,99,118]) ((0,w0' n) :: (0,n.words.getD 1 []) :: [(2,[59])]) (hd _ (by decide) (by decide) (by decide)) (by decide)
  simpa only [e] using this
 ·have:=opt (n0' n) (0,[119,104,101,110]) ((k.ts.getD 0 kt0).ex ++ [(2,[59])]) (hd _ (by decide) (by decide) (by decide)) (by decide)
  simpa only [e] using this
 ·have:=opt (n0' n) (0,[99,104,111,111,115,101]) (joinT [(0,[111,114])] k.ts) (hd _ (by decide) (by decide) (by decide)) (by decide)
  simpa only [e] using this
 ·exact ⟨_,_,rfl,hd _ (by decide) (by decide) (by decide),fun _=>by decide⟩
 ·exact ⟨_,_,rfl,hd _ (by decide) (by decide) (by decide),fun _=>by decide⟩
 ·exact ⟨_,_,rfl,hd _ (by decide) (by decide) (by decide),fun _=>by decide⟩
 ·exact ⟨_,_,rfl,hd _ (by decide) (by decide) (by decide),fun _=>by decide⟩
 ·exact ⟨_,_,rfl,hd _ (by decide) (by decide) (by decide),fun _=>by decide⟩
theorem adv_eq {s:PS} {a b:Nat} (h:a=b):adv s a=adv s b:=by rw [h]
theorem stats_read:∀ (f:Fo),f.ok=true→StF f→(∀ x ∈ f.kinds,6≤x∧x≤15)→∀ L s (acc:TT) R,Fine s (2 * f.dep)→Ah L s.pos (linesT f.ts ++ (2,[125]) :: R)→acc.2.len + f.len < 1000000 →
  ∃ f':Fo,f'.st=f.st∧Evs L (.stats acc) s ((acc.1,acc.2.app f'),adv s ((linesT f.ts).length + 1))
 | .nil,_,_,_,L,s,acc,R,hf,ha,hl=>by
  refine ⟨.nil,rfl,evs_step ⟨0,fun n _=>?_⟩⟩
  have h1:seesM L [125] s=true:=sees_sg hf ha
  simp only [stepS,hf.ok,h1,if_true,Fo.app_nil]
  rfl
 | .cons n k r,ho,hs,hk,L,s,acc,R,hf,ha,hl=>by
  simp only [Fo.ok,Bool.and_eq_true] at ho
  simp only [Fo.kinds,List.mem_cons,forall_eq_or_imp] at hk
  simp only [Fo.ts,linesT,List.append_assoc] at ha
  have ha:Ah L s.pos (thT n k.ts ++ (linesT r.ts ++ (2,[125]) :: R)):=ha
  have hd2:2 * (k.dep + 1)≤2 * (Fo.cons n k r).dep∧2 * r.dep≤2 * (Fo.cons n k r).dep:=by simp only [Fo.dep]; omega
  obtain ⟨x,T,e1,e2,_⟩:=th_head ho.1 (by omega) hk.1.2
  have s0:seesM L [125] s=false:=by rw [e1] at ha; exact sees_ne ha e2.2.2.2
  obtain ⟨y,Y,ey,hy1,hy2⟩:∃ y Y,linesT r.ts ++ (2,[125]) :: R=y :: Y∧y.2 ≠ [101,108,115,101]∧y.2 ≠ [111,114]:=by
   match r with
   | .nil=>exact ⟨_,_,rfl,by decide,by decide⟩
   | .cons m l q =>
    simp only [Fo.kinds,List.mem_cons,forall_eq_or_imp] at hk
    simp only [Fo.ok,Bool.and_eq_true] at ho
    obtain ⟨x',T',g1,g2,_⟩:=th_head ho.2.2.1 (by omega) hk.2.1.2
    refine ⟨x',T' ++ (linesT q.ts ++ (2,[125]) :: R),?_,g2.2.1,g2.2.2.1⟩
    simp only [Fo.ts,linesT,List.append_assoc]
    show thT m l.ts ++ _=_
    rw [g1]; rfl
  have ha':=ha
  rw [ey] at ha'
  obtain ⟨t',st',n1,h1⟩:=hs.1 hk.1.1 hk.1.2 L s y Y (hf.le hd2.1) ha' hy1 hy2
  simp only [Fo.len] at hl
  obtain ⟨f',sf',n2,h2⟩:=stats_read r ho.2.2 hs.2.2 hk.2 L (adv s (thT n k.ts).length) (addT acc t') R (hf.le hd2.2) ha.app (by simp only [addT,Fo.len_snoc]; omega)
  refine ⟨.cons t'.1 t'.2 f',?_,evs_step ⟨max n1 n2,fun m hm=>?_⟩⟩
  ·unfold stT at st'
   simp only [Prod.mk.injEq] at st'
   simp only [Fo.st,st'.1,st'.2,sf']
  ·simp only [stepS,hf.ok,s0,if_true,Bool.false_eq_true,if_false]
   rw [few_of (by omega),if_pos rfl,h1 m (by omega)]
   simp only [Option.bind_some]
   rw [h2 m (by omega)]
   simp only [addT,Fo.snoc_app,Option.some.injEq,Prod.mk.injEq,true_and]
   rw [adv_adv]
   refine adv_eq ?_
   simp only [Fo.ts,linesT,List.length_append]
   show (thT n k.ts).length + _=(thT n k.ts).length + _ + 1
   omega
theorem bl_node {n:Nd} {k:Fo} (h:okN n k.kinds=true) (hb:n.kids = []) (ho:k.ok=true) (hk:StF k) (hc:k.len < 100000) (e:n.kind=16):BL n k:=by
 intro L s R hf ha
 simp only [braT,List.append_assoc,List.cons_append,List.nil_append] at ha
 have s1:=sees_sg hf ha
 have f1:Fine (adv s 1) (2 * k.dep + 1):=hf.adv.le (by omega)
 obtain ⟨i1,i2⟩:=in_ok (L:=L) f1
 have ha1:Ah L ({ adv s 1 with deep:=(adv s 1).deep + 1 }:PS).pos (linesT k.ts ++ (2,[125]) :: R):=ha.tail
 obtain ⟨f',e1,n1,h1⟩:=stats_read k ho hk (kids16 h e) L { adv s 1 with deep:=(adv s 1).deep + 1 } (beginM L 16 s,.nil) R i2 ha1 (by simp [Fo.len]; omega)
 refine ⟨(beginM L 16 s,f'),?_,evs_step ⟨n1,fun m hm=>?_⟩⟩
 ·have wl:=okN_wl h
  have ul:=okN_ul h
  rw [e] at wl ul
  unfold stT
  rw [e1,nd_st e (List.length_eq_zero_iff.1 wl) (List.length_eq_zero_iff.1 ul) hb]
  rfl
 ·simp only [stepS]
  rw [must_yes s1,deepOk_of f1,i1,if_pos rfl,h1 m hm]
  simp only [Option.bind_some,Fo.app]
  have f2:Fine (adv ({ adv s 1 with deep:=(adv s 1).deep + 1 }:PS) ((linesT k.ts).length + 1)) 0:=i2.adv.le (by omega)
  rw [deepOk_of f2,if_pos rfl]
  simp only [Option.some.injEq,Prod.mk.injEq,true_and]
  unfold adv outM braT
  simp
  omega
theorem or_read:∀ (f:Fo),StF f→(∀ x ∈ f.kinds,x=16)→∀ L s (acc:TT) x R,Fine s (2 * f.dep)→Ah L s.pos (restT [(0,[111,114])] f.ts ++ x :: R)→x.2 ≠ [111,114]→acc.2.len + f.len < 1000000 →
  ∃ f':Fo,f'.st=f.st∧Evs L (.orB acc) s ((acc.1,acc.2.app f'),adv s (restT [(0,[111,114])] f.ts).length)
 | .nil,_,_,L,s,acc,x,R,hf,ha,hx,hl=>by
  refine ⟨.nil,rfl,evs_step ⟨0,fun n _=>?_⟩⟩
  have h1:seesM L [111,114] s=false:=sees_ne ha hx
  simp only [stepS,h1,Bool.false_eq_true,if_false,Fo.app_nil]
  rfl
 | .cons n k r,hs,hk,L,s,acc,x,R,hf,ha,hx,hl=>by
  simp only [Fo.kinds,List.mem_cons,forall_eq_or_imp] at hk
  simp only [Fo.ts,restT,List.append_assoc,List.cons_append,List.nil_append] at ha
  have ha:Ah L s.pos ((0,[111,114]) :: (braT k.ts ++ (restT [(0,[111,114])] r.ts ++ x :: R))):=ha
  have s0:=sees_kw hf ha (by decide)
  have hd2:2 * (k.dep + 1)≤2 * (Fo.cons n k r).dep∧2 * r.dep≤2 * (Fo.cons n k r).dep:=by simp only [Fo.dep]; omega
  have ha1:Ah L (adv s 1).pos (braT k.ts ++ (restT [(0,[111,114])] r.ts ++ x :: R)):=ha.tail
  obtain ⟨t',st',n1,h1⟩:=hs.2.1 hk.1 L (adv s 1) _ (hf.adv.le hd2.1) ha1
  simp only [Fo.len] at hl
  obtain ⟨f',sf',n2,h2⟩:=or_read r hs.2.2 hk.2 L (adv (adv s 1) (braT k.ts).length) (addT acc t') x R (hf.le hd2.2) ha1.app hx (by simp only [addT,Fo.len_snoc]; omega)
  refine ⟨.cons t'.1 t'.2 f',?_,evs_step ⟨max n1 n2,fun m hm=>?_⟩⟩
  ·unfold stT at st'
   simp only [Prod.mk.injEq] at st'
   simp only [Fo.st,st'.1,st'.2,sf']
  ·simp only [stepS,s0,if_true]
   rw [few_of (by omega),if_pos rfl,up_adv,h1 m (by omega)]
   simp only [Option.bind_some]
   rw [h2 m (by omega)]
   simp only [addT,Fo.snoc_app,Option.some.injEq,Prod.mk.injEq,true_and]
   rw [adv_adv,adv_adv]
   refine adv_eq ?_
   simp only [Fo.ts,restT,List.length_append]
   show 1 + ((braT k.ts).length + _)=1 + (braT k.ts).length + _
   omega
end Go.Proofs.YtcffdpmmadipeaaGreatDoor
namespace Go.Proofs.YtcffdpmmadipeaaGreatDoor
open Go.HL
set_option maxRecDepth 10000
section
variable {L:List Tok} {s s1 s2:PS} {c:Cs} {r:TT × PS} {D:Nat} {w:Str} {x y:Tk} {T R:List Tk} {n n1 m:Nd} {k k1:Fo} {t':TT}
theorem ex_read (h:All (levN n1).toNat D T t') (hf:Fine s D) (ha:Ah L s.pos (T ++ y :: R)) (hy:lvO y.2 < 0):∃ t,stT t=stT t'∧Ev L .expr s (t,adv s T.length) :=
 h.p 0 (by omega) (by omega) L s y R hf ha (by omega)
theorem tree1_st (hn:m.st=n.st) (ht:stT t'=stT (n1,k1)):stT (tree1 m t')=stT (n,.cons n1 k1 .nil):=by
 unfold stT at ht
 simp only [Prod.mk.injEq] at ht
 unfold stT tree1
 simp only [Fo.st,hn,ht.1,ht.2]
theorem wait_read {m:Int} (hm:m=0∨m=1) (hf:Fine s D) (ha:Ah L s.pos (optT m [(0,[105,100,108,101])] ++ ((0,w) :: T))) (hw:w = [114,101,99,118]∨w = [119,104,101,110]∨w = [99,104,111,111,115,101])
  (h:Evs L (.waits ({ beginM L 6 s with nums:=[m] },.nil)) (adv s (optT m [(0,[105,100,108,101])]).length) r):Evs L .stat s r:=by
 obtain ⟨n1,h1⟩:=h
 refine evs_step ⟨n1,fun k hk=>?_⟩
 have h2:=h1 k hk
 rcases hm with rfl | rfl
 ·have ha:Ah L s.pos ((0,w) :: T):=ha
  have i0:seesM L [105,100,108,101] s=false:=sees_ne ha (by rcases hw with rfl | rfl | rfl <;> decide)
  have i1:(seesM L [114,101,99,118] s || seesM L [119,104,101,110] s || seesM L [99,104,111,111,115,101] s)=true:=by
   rcases hw with rfl | rfl | rfl
   ·rw [sees_kw hf ha (by decide)]; rfl
   ·rw [sees_kw hf ha (by decide)]; simp
   ·rw [sees_kw hf ha (by decide)]; simp
  simp only [stepS,flag_no i0,i0,Bool.false_or,i1,if_true]
  exact h2
 ·have ha:Ah L s.pos ((0,[105,100,108,101]) :: (0,w) :: T):=ha
  have i0:=sees_kw hf ha (by decide)
  simp only [stepS,flag_yes i0,i0,Bool.true_or,if_true]
  exact h2
theorem n0_01 (h:okN n k.kinds=true) (e:n.kind=8∨n.kind=9∨n.kind=10):n0' n=0∨n0' n=1:=by
 have:0≤n0' n∧n0' n≤1:=by rcases e with e | e | e <;> (have:=okN_num h (i:=0) (by rw [e]; decide); rw [e] at this; exact this)
 omega
theorem opt_app {m:Int} {A B:List Tk}:optT m A ++ B=optT m A ++ B:=rfl
set_option maxHeartbeats 1000000 in
theorem st_wait (h:okN n k.kinds=true) (hb:n.kids = []) (ho:k.ok=true) (he:ExF k) (hk:StF k) (hc:k.len < 100000) (e:n.kind=8∨n.kind=9∨n.kind=10):ST n k:=by
 intro L s x R hf ha hx1 hx2
 have hm:=n0_01 h e
 have wl:=okN_wl h
 have ul:=okN_ul h
 rcases e with e | e | e
 ·have hlen:(thT n k.ts).length=(optT (n0' n) [(0,[105,100,108,101])]).length + 4:=by simp only [thT,e,Int.reduceEq,↓reduceIte,List.length_append,List.length_cons,List.length_nil]
  rw [hlen]
  simp only [thT,e,Int.reduceEq,↓reduceIte,List.append_assoc,List.cons_append,List.nil_append] at ha
  have e1:=kidsN h (by omega)
  subst e1
  rw [e] at wl ul
  have hn0:=okN_name h (i:=0) (by rw [e]; decide)
  have hn1:=okN_name h (i:=1) (by rw [e]; decide)
  have a0:=ha.app
  generalize hg:(optT (n0' n) [(0,[105,100,108,101])]).length=g at *
  have s0:=sees_kw (s:=adv s g) hf.adv a0 (by decide)
  have e2:=isName_yes (s:=adv (adv s g) 1) hf a0.tail hn0
  have e3:=isName_yes (s:=adv (adv (adv s g) 1) 1) hf a0.tail.tail hn1
  have s3:seesM L [59] (adv (adv (adv (adv s g) 1) 1) 1)=true:=sees_sg (s:=adv (adv (adv (adv s g) 1) 1) 1) hf a0.tail.tail.tail
  refine ⟨(⟨8,[w0' n,n.words.getD 1 []],[n0' n],[],(tkM L s).pos⟩,.nil),?_,?_⟩
  ·unfold stT
   rw [nd_st e (len_two ([]:Str) wl) (len_one (0:Int) ul) hb]
   rfl
  ·refine wait_read hm hf ha (.inl rfl) ?_
   rw [hg]
   refine evs_step ⟨0,fun j _=>?_⟩
   simp only [stepS,s0,if_true,up_adv,e2,e3]
   rw [must_yes s3]
   simp only [adv_adv]
   try simp only [Nat.add_assoc]
   rfl
 ·obtain ⟨n1,k1,rfl,g1,g2⟩:=kidsE h (by omega)
  have hlen:(thT n (Fo.cons n1 k1 .nil).ts).length=(optT (n0' n) [(0,[105,100,108,101])]).length + (1 + (exT n1 k1.ts).length + 1):=by
   simp only [thT,e,Int.reduceEq,↓reduceIte,List.length_append,List.length_cons,List.length_nil]
   show _ + 1 + (exT n1 k1.ts).length + 1=_
   omega
  rw [hlen]
  simp only [thT,e,Int.reduceEq,↓reduceIte,List.append_assoc,List.cons_append,List.nil_append] at ha
  rw [e] at wl ul
  have a0:Ah L (s.pos + (optT (n0' n) [(0,[105,100,108,101])]).length) ((0,[119,104,101,110]) :: (exT n1 k1.ts ++ (2,[59]) :: x :: R)):=ha.app
  generalize hg:(optT (n0' n) [(0,[105,100,108,101])]).length=g at *
  have s0:=sees_kw (s:=adv s g) hf.adv a0 (by decide)
  have s1:seesM L [114,101,99,118] (adv s g)=false:=sees_ne (s:=adv s g) a0 (by decide)
  obtain ⟨t',st,n2,h2⟩:=ex_read (s:=adv (adv s g) 1) (he.1 g1 g2) (hf.le (by simp only [Fo.dep]; omega)) a0.tail (by decide)
  have s3:seesM L [59] (adv (adv (adv s g) 1) (exT n1 k1.ts).length)=true:=sees_sg (s:=adv (adv (adv s g) 1) (exT n1 k1.ts).length) hf a0.tail.app
  refine ⟨tree1 ⟨9,[],[n0' n],[],(tkM L s).pos⟩ t',tree1_st ?_ st,?_⟩
  ·rw [nd_st e (List.length_eq_zero_iff.1 wl) (len_one (0:Int) ul) hb]
   rfl
  ·refine wait_read hm hf ha (.inr (.inl rfl)) ?_
   rw [hg]
   refine evs_step ⟨n2,fun j hj=>?_⟩
   simp only [stepS,s0,s1,Bool.false_eq_true,if_false,if_true,up_adv,h2 j hj,Option.bind_some]
   rw [must_yes s3]
   simp only [adv_adv]
   rw [show g + 1 + (exT n1 k1.ts).length + 1=g + (1 + (exT n1 k1.ts).length + 1) from by omega]
   rfl
 ·obtain ⟨g1,g2⟩:=kids10 h e
  match k,g1 with
  | .nil,g1=>simp [Fo.kinds] at g1
  | .cons n1 k1 q,_ =>
  simp only [Fo.kinds,List.mem_cons,forall_eq_or_imp] at g2
  have hlen:(thT n (Fo.cons n1 k1 q).ts).length=(optT (n0' n) [(0,[105,100,108,101])]).length + (1 + (braT k1.ts).length + (restT [(0,[111,114])] q.ts).length):=by
   simp only [thT,e,Int.reduceEq,↓reduceIte,List.length_append,List.length_cons,List.length_nil,Fo.ts,joinT]
   show _ + 1 + ((braT k1.ts).length + _)=_
   omega
  rw [hlen]
  simp only [thT,e,Int.reduceEq,↓reduceIte,List.append_assoc,List.cons_append,List.nil_append,Fo.ts,joinT] at ha
  rw [e] at wl ul
  have a0:Ah L (s.pos + (optT (n0' n) [(0,[105,100,108,101])]).length) ((0,[99,104,111,111,115,101]) :: (braT k1.ts ++ (restT [(0,[111,114])] q.ts ++ x :: R))):=ha.app
  generalize hg:(optT (n0' n) [(0,[105,100,108,101])]).length=g at *
  have s0:=sees_kw (s:=adv s g) hf.adv a0 (by decide)
  have s1:seesM L [114,101,99,118] (adv s g)=false:=sees_ne (s:=adv s g) a0 (by decide)
  have s2:seesM L [119,104,101,110] (adv s g)=false:=sees_ne (s:=adv s g) a0 (by decide)
  obtain ⟨t',st,n2,h2⟩:=hk.2.1 g2.1 L (adv (adv s g) 1) _ (hf.adv.adv.le (by simp only [Fo.dep]; omega)) a0.tail
  simp only [Fo.len] at hc
  obtain ⟨f',sf,n3,h3⟩:=or_read q hk.2.2 g2.2 L (adv (adv (adv s g) 1) (braT k1.ts).length) (addT (kindT 10 ({ beginM L 6 s with nums:=[n0' n] },.nil)) t') x R (hf.adv.adv.adv.le (by simp only [Fo.dep]; omega)) a0.tail.app hx2 (by simp [addT,kindT,Fo.len_snoc,Fo.len]; omega)
  refine ⟨(⟨10,[],[n0' n],[],(tkM L s).pos⟩,.cons t'.1 t'.2 f'),?_,?_⟩
  ·unfold stT at st ⊢
   simp only [Prod.mk.injEq] at st
   simp only [Fo.st,st.1,st.2,sf]
   rw [nd_st e (List.length_eq_zero_iff.1 wl) (len_one (0:Int) ul) hb]
   rfl
  ·refine wait_read hm hf ha (.inr (.inr rfl)) ?_
   rw [hg]
   refine evs_step ⟨max n2 n3,fun j hj=>?_⟩
   simp only [stepS,s1,s2,Bool.false_eq_true,if_false]
   rw [must_yes s0,h2 j (by omega)]
   simp only [Option.bind_some]
   rw [h3 j (by omega)]
   simp only [adv_adv,addT,kindT,Fo.snoc,Fo.app]
   rw [show g + 1 + (braT k1.ts).length + (restT [(0,[111,114])] q.ts).length=g + (1 + (braT k1.ts).length + (restT [(0,[111,114])] q.ts).length) from by omega]
   rfl
set_option maxHeartbeats 2000000 in
theorem st_plain (h:okN n k.kinds=true) (hb:n.kids = []) (ho:k.ok=true) (he:ExF k) (hk:StF k) (hc:k.len < 100000) (h1:6≤n.kind) (h2:n.kind≤15) (h8:¬ (n.kind=8∨n.kind=9∨n.kind=10)):ST n k:=by
 intro L s x R hf ha hx1 hx2
 have wl:=okN_wl h
 have ul:=okN_ul h
 have:n.kind=6∨n.kind=7∨n.kind=11∨n.kind=12∨n.kind=13∨n.kind=14∨n.kind=15:=by omega
 rcases this with e | e | e | e | e | e | e
 ·obtain ⟨n1,k1,rfl,g1,g2⟩:=kidsE h (by omega)
  have hlen:(thT n (Fo.cons n1 k1 .nil).ts).length=1 + (1 + ((exT n1 k1.ts).length + 1)):=by
   simp only [thT,e,Int.reduceEq,↓reduceIte,List.length_append,List.length_cons,List.length_nil]
   show 1 + 1 + (exT n1 k1.ts).length + 1=_
   omega
  rw [hlen]
  have hn:=okN_name h (i:=0) (by rw [e]; decide)
  simp only [thT,e,Int.reduceEq,↓reduceIte,List.append_assoc,List.cons_append,List.nil_append] at ha
  rw [e] at wl ul
  have a0:Ah L s.pos ((0,w0' n) :: (2,[61]) :: (exT n1 k1.ts ++ (2,[59]) :: x :: R)):=ha
  have e1:=isName_yes hf a0 hn
  have s1:seesM L [61] (adv s 1)=true:=sees_sg (s:=adv s 1) hf a0.tail
  obtain ⟨t',st,n2,h2⟩:=ex_read (s:=adv (adv s 1) 1) (he.1 g1 g2) (hf.le (by simp only [Fo.dep]; omega)) a0.tail.tail (by decide)
  have s3:seesM L [59] (adv (adv (adv s 1) 1) (exT n1 k1.ts).length)=true:=sees_sg (s:=adv (adv (adv s 1) 1) (exT n1 k1.ts).length) hf a0.tail.tail.app
  refine ⟨tree1 ⟨6,[w0' n],[],[],(tkM L s).pos⟩ t',tree1_st ?_ st,evs_step ⟨n2,fun j hj=>?_⟩⟩
  ·rw [nd_st e (len_one ([]:Str) wl) (List.length_eq_zero_iff.1 ul) hb]
   rfl
  ·have no:∀ u,seesM L u s=false:=fun u=>sees_name a0 hn
   simp only [stepS,flag_no (no [105,100,108,101]),no,Bool.or_self,Bool.false_eq_true,if_false,e1]
   rw [must_yes s1,h2 j hj]
   simp only [Option.bind_some]
   rw [must_yes s3]
   simp only [adv_adv]
   try simp only [Nat.add_assoc]
   rfl
 ·obtain ⟨n1,k1,rfl,g1,g2⟩:=kidsE h (by omega)
  have hlen:(thT n (Fo.cons n1 k1 .nil).ts).length=1 + (1 + ((exT n1 k1.ts).length + 1)):=by
   simp only [thT,e,Int.reduceEq,↓reduceIte,List.length_append,List.length_cons,List.length_nil]
   show 1 + 1 + 0 + (exT n1 k1.ts).length + 1=_
   omega
  rw [hlen]
  have hn:=okN_name h (i:=0) (by rw [e]; decide)
  simp only [thT,e,Int.reduceEq,↓reduceIte,List.append_assoc,List.cons_append,List.nil_append] at ha
  rw [e] at wl ul
  have a0:Ah L s.pos ((0,[115,101,110,100]) :: (0,w0' n) :: (exT n1 k1.ts ++ (2,[59]) :: x :: R)):=ha
  have s0:=sees_kw hf a0 (by decide)
  have e1:=isName_yes (s:=adv s 1) hf a0.tail hn
  obtain ⟨t',st,n2,h2⟩:=ex_read (s:=adv (adv s 1) 1) (he.1 g1 g2) (hf.le (by simp only [Fo.dep]; omega)) a0.tail.tail (by decide)
  have s3:seesM L [59] (adv (adv (adv s 1) 1) (exT n1 k1.ts).length)=true:=sees_sg (s:=adv (adv (adv s 1) 1) (exT n1 k1.ts).length) hf a0.tail.tail.app
  refine ⟨tree1 ⟨7,[w0' n],[],[],(tkM L s).pos⟩ t',tree1_st ?_ st,evs_step ⟨n2,fun j hj=>?_⟩⟩
  ·rw [nd_st e (len_one ([]:Str) wl) (List.length_eq_zero_iff.1 ul) hb]
   rfl
  ·have no:∀ u,[115,101,110,100] ≠ u→seesM L u s=false:=fun u hu=>sees_ne a0 hu
   simp only [stepS,flag_no (no [105,100,108,101] (by decide)),no [105,100,108,101] (by decide),no [114,101,99,118] (by decide),no [119,104,101,110] (by decide),no [99,104,111,111,115,101] (by decide),s0,Bool.or_self,Bool.false_eq_true,if_false,if_true,up_adv,e1,h2 j hj,Option.bind_some]
   rw [must_yes s3]
   simp only [adv_adv]
   try simp only [Nat.add_assoc]
   rfl
 ·obtain ⟨n1,k1,r,rfl,g1,g2,g3⟩:=kids11 h e
  rw [e] at wl ul
  have nst:=nd_st e (List.length_eq_zero_iff.1 wl) (List.length_eq_zero_iff.1 ul) hb
  match r,g2 with
  | .nil,g2=>simp [Fo.len] at g2
  | .cons n2 k2 .nil,_ =>
   simp only [Fo.kinds,List.mem_cons,forall_eq_or_imp] at g3
   have hlen:(thT n (Fo.cons n1 k1 (.cons n2 k2 .nil)).ts).length=1 + ((exT n1 k1.ts).length + (braT k2.ts).length):=by
    simp only [thT,e,Int.reduceEq,↓reduceIte,List.length_append,List.length_cons,List.length_nil,Fo.ts,List.tail_cons,joinT,restT]
    show 1 + (exT n1 k1.ts).length + 0 + ((braT k2.ts).length + 0)=_
    omega
   rw [hlen]
   simp only [thT,e,Int.reduceEq,↓reduceIte,List.append_assoc,List.cons_append,List.nil_append,Fo.ts,List.tail_cons,joinT,restT] at ha
   have a0:Ah L s.pos ((0,[105,102]) :: (exT n1 k1.ts ++ (braT k2.ts ++ (x :: R)))):=ha
   have s0:=sees_kw hf a0 (by decide)
   obtain ⟨t',st,m1,q1⟩:=ex_read (s:=adv s 1) (he.1 g1.1 g1.2) (hf.le (by simp only [Fo.dep]; omega)) (y:=(2,[123])) (R:=linesT k2.ts ++ [(2,[125])] ++ (x :: R)) (by have:=a0.tail; show Ah L (s.pos + 1) _; simpa [braT] using this) (by decide)
   have a1:Ah L (adv (adv s 1) (exT n1 k1.ts).length).pos (braT k2.ts ++ (x :: R)):=a0.tail.app
   obtain ⟨t2,st2,m2,q2⟩:=hk.2.2.2.1 g3.1 L (adv (adv s 1) (exT n1 k1.ts).length) _ (hf.adv.adv.le (by simp only [Fo.dep]; omega)) a1
   have a2:Ah L (adv (adv (adv s 1) (exT n1 k1.ts).length) (braT k2.ts).length).pos (x :: R):=a1.app
   have s2:seesM L [101,108,115,101] (adv (adv (adv s 1) (exT n1 k1.ts).length) (braT k2.ts).length)=false:=sees_ne a2 hx1
   refine ⟨(⟨11,[],[],[],(tkM L s).pos⟩,.cons t'.1 t'.2 (.cons t2.1 t2.2 .nil)),?_,evs_step ⟨max m1 m2,fun j hj=>?_⟩⟩
   ·unfold stT at st st2 ⊢
    simp only [Prod.mk.injEq] at st st2
    simp only [Fo.st,st.1,st.2,st2.1,st2.2,nst]
    rfl
   ·have no:∀ u,[105,102] ≠ u→seesM L u s=false:=fun u hu=>sees_ne a0 hu
    simp only [stepS,flag_no (no [105,100,108,101] (by decide)),no [105,100,108,101] (by decide),no [114,101,99,118] (by decide),no [119,104,101,110] (by decide),no [99,104,111,111,115,101] (by decide),no [115,101,110,100] (by decide),s0,Bool.or_self,Bool.false_eq_true,if_false,if_true,up_adv,q1 j (by omega),q2 j (by omega),s2,Option.bind_some]
    simp only [adv_adv,Nat.add_assoc]
    rfl
  | .cons n2 k2 (.cons n3 k3 .nil),_ =>
   simp only [Fo.kinds,List.mem_cons,forall_eq_or_imp] at g3
   have hlen:(thT n (Fo.cons n1 k1 (.cons n2 k2 (.cons n3 k3 .nil))).ts).length=1 + ((exT n1 k1.ts).length + ((braT k2.ts).length + (1 + (braT k3.ts).length))):=by
    simp only [thT,e,Int.reduceEq,↓reduceIte,List.length_append,List.length_cons,List.length_nil,Fo.ts,List.tail_cons,joinT,restT]
    show 1 + (exT n1 k1.ts).length + 0 + ((braT k2.ts).length + (1 + (braT k3.ts).length + 0))=_
    omega
   rw [hlen]
   simp only [thT,e,Int.reduceEq,↓reduceIte,List.append_assoc,List.cons_append,List.nil_append,Fo.ts,List.tail_cons,joinT,restT] at ha
   have a0:Ah L s.pos ((0,[105,102]) :: (exT n1 k1.ts ++ (braT k2.ts ++ ((0,[101,108,115,101]) :: (braT k3.ts ++ (x :: R)))))):=ha
   have s0:=sees_kw hf a0 (by decide)
   obtain ⟨t',st,m1,q1⟩:=ex_read (s:=adv s 1) (he.1 g1.1 g1.2) (hf.le (by simp only [Fo.dep]; omega)) (y:=(2,[123])) (R:=linesT k2.ts ++ [(2,[125])] ++ ((0,[101,108,115,101]) :: (braT k3.ts ++ (x :: R)))) (by have:=a0.tail; show Ah L (s.pos + 1) _; simpa [braT] using this) (by decide)
   have a1:Ah L (adv (adv s 1) (exT n1 k1.ts).length).pos (braT k2.ts ++ ((0,[101,108,115,101]) :: (braT k3.ts ++ (x :: R)))):=a0.tail.app
   obtain ⟨t2,st2,m2,q2⟩:=hk.2.2.2.1 g3.1 L (adv (adv s 1) (exT n1 k1.ts).length) _ (hf.adv.adv.le (by simp only [Fo.dep]; omega)) a1
   have a2:Ah L (adv (adv (adv s 1) (exT n1 k1.ts).length) (braT k2.ts).length).pos ((0,[101,108,115,101]) :: (braT k3.ts ++ (x :: R))):=a1.app
   have s2:seesM L [101,108,115,101] (adv (adv (adv s 1) (exT n1 k1.ts).length) (braT k2.ts).length)=true:=sees_kw hf a2 (by decide)
   obtain ⟨t3,st3,m3,q3⟩:=hk.2.2.2.2.2.1 g3.2.1 L (adv (adv (adv (adv s 1) (exT n1 k1.ts).length) (braT k2.ts).length) 1) _ (hf.adv.adv.adv.adv.le (by simp only [Fo.dep]; omega)) a2.tail
   refine ⟨(⟨11,[],[],[],(tkM L s).pos⟩,.cons t'.1 t'.2 (.cons t2.1 t2.2 (.cons t3.1 t3.2 .nil))),?_,evs_step ⟨max m1 (max m2 m3),fun j hj=>?_⟩⟩
   ·unfold stT at st st2 st3 ⊢
    simp only [Prod.mk.injEq] at st st2 st3
    simp only [Fo.st,st.1,st.2,st2.1,st2.2,st3.1,st3.2,nst]
    rfl
   ·have no:∀ u,[105,102] ≠ u→seesM L u s=false:=fun u hu=>sees_ne a0 hu
    simp only [stepS,flag_no (no [105,100,108,101] (by decide)),no [105,100,108,101] (by decide),no [114,101,99,118] (by decide),no [119,104,101,110] (by decide),no [99,104,111,111,115,101] (by decide),no [115,101,110,100] (by decide),s0,Bool.or_self,Bool.false_eq_true,if_false,if_true,up_adv,q1 j (by omega),q2 j (by omega),s2,q3 j (by omega),Option.bind_some]
    simp only [adv_adv,Nat.add_assoc]
    rfl
  | .cons n2 k2 (.cons n3 k3 (.cons n4 k4 q)),g2=>simp [Fo.len] at g2
 ·obtain ⟨n1,k1,r,rfl,g1,g2,g3⟩:=kids12 h e
  rw [e] at wl ul
  have nst:=nd_st e (List.length_eq_zero_iff.1 wl) (List.length_eq_zero_iff.1 ul) hb
  match r,g2 with
  | .nil,g2=>simp [Fo.len] at g2
  | .cons n2 k2 .nil,_ =>
   simp only [Fo.kinds,List.mem_cons,forall_eq_or_imp] at g3
   have hlen:(thT n (Fo.cons n1 k1 (.cons n2 k2 .nil)).ts).length=1 + ((exT n1 k1.ts).length + (braT k2.ts).length):=by
    simp only [thT,e,Int.reduceEq,↓reduceIte,List.length_append,List.length_cons,List.length_nil,Fo.ts,List.tail_cons,joinT,restT]
    show 1 + (exT n1 k1.ts).length + 0 + ((braT k2.ts).length + 0)=_
    omega
   rw [hlen]
   simp only [thT,e,Int.reduceEq,↓reduceIte,List.append_assoc,List.cons_append,List.nil_append,Fo.ts,List.tail_cons,joinT,restT] at ha
   have a0:Ah L s.pos ((0,[119,104,105,108,101]) :: (exT n1 k1.ts ++ (braT k2.ts ++ (x :: R)))):=ha
   have s0:=sees_kw hf a0 (by decide)
   obtain ⟨t',st,m1,q1⟩:=ex_read (s:=adv s 1) (he.1 g1.1 g1.2) (hf.le (by simp only [Fo.dep]; omega)) (y:=(2,[123])) (R:=linesT k2.ts ++ [(2,[125])] ++ (x :: R)) (by have:=a0.tail; show Ah L (s.pos + 1) _; simpa [braT] using this) (by decide)
   have a1:Ah L (adv (adv s 1) (exT n1 k1.ts).length).pos (braT k2.ts ++ (x :: R)):=a0.tail.app
   obtain ⟨t2,st2,m2,q2⟩:=hk.2.2.2.1 g3.1 L (adv (adv s 1) (exT n1 k1.ts).length) _ (hf.adv.adv.le (by simp only [Fo.dep]; omega)) a1
   refine ⟨(⟨12,[],[],[],(tkM L s).pos⟩,.cons t'.1 t'.2 (.cons t2.1 t2.2 .nil)),?_,evs_step ⟨max m1 m2,fun j hj=>?_⟩⟩
   ·unfold stT at st st2 ⊢
    simp only [Prod.mk.injEq] at st st2
    simp only [Fo.st,st.1,st.2,st2.1,st2.2,nst]
    rfl
   ·have no:∀ u,[119,104,105,108,101] ≠ u→seesM L u s=false:=fun u hu=>sees_ne a0 hu
    simp only [stepS,flag_no (no [105,100,108,101] (by decide)),no [105,100,108,101] (by decide),no [114,101,99,118] (by decide),no [119,104,101,110] (by decide),no [99,104,111,111,115,101] (by decide),no [115,101,110,100] (by decide),no [105,102] (by decide),s0,Bool.or_self,Bool.false_eq_true,if_false,if_true,up_adv,q1 j (by omega),q2 j (by omega),Option.bind_some]
    simp only [adv_adv,Nat.add_assoc]
    rfl
  | .cons n2 k2 (.cons n3 k3 q),g2=>simp [Fo.len] at g2
 ·obtain ⟨g2,g3⟩:=kids13 h e
  rw [e] at wl ul
  have nst:=nd_st e (List.length_eq_zero_iff.1 wl) (List.length_eq_zero_iff.1 ul) hb
  match k,g2 with
  | .nil,g2=>simp [Fo.len] at g2
  | .cons n2 k2 .nil,_ =>
   simp only [Fo.kinds,List.mem_cons,forall_eq_or_imp] at g3
   have hlen:(thT n (Fo.cons n2 k2 .nil).ts).length=1 + (braT k2.ts).length:=by
    simp only [thT,e,Int.reduceEq,↓reduceIte,List.length_append,List.length_cons,List.length_nil,Fo.ts,joinT,restT]
    show 1 + ((braT k2.ts).length + 0)=_
    omega
   rw [hlen]
   simp only [thT,e,Int.reduceEq,↓reduceIte,List.append_assoc,List.cons_append,List.nil_append,Fo.ts,joinT,restT] at ha
   have a0:Ah L s.pos ((0,[97,116,111,109,105,99]) :: (braT k2.ts ++ (x :: R))):=ha
   have s0:=sees_kw hf a0 (by decide)
   obtain ⟨t2,st2,m2,q2⟩:=hk.2.1 g3.1 L (adv s 1) _ (hf.adv.le (by simp only [Fo.dep]; omega)) a0.tail
   refine ⟨tree1 ⟨13,[],[],[],(tkM L s).pos⟩ t2,tree1_st (by rw [nst]; rfl) st2,evs_step ⟨m2,fun j hj=>?_⟩⟩
   have no:∀ u,[97,116,111,109,105,99] ≠ u→seesM L u s=false:=fun u hu=>sees_ne a0 hu
   simp only [stepS,flag_no (no [105,100,108,101] (by decide)),no [105,100,108,101] (by decide),no [114,101,99,118] (by decide),no [119,104,101,110] (by decide),no [99,104,111,111,115,101] (by decide),no [115,101,110,100] (by decide),no [105,102] (by decide),no [119,104,105,108,101] (by decide),s0,Bool.or_self,Bool.false_eq_true,if_false,if_true,up_adv,q2 j (by omega),Option.bind_some]
   simp only [adv_adv]
   try simp only [Nat.add_assoc]
   rfl
  | .cons n2 k2 (.cons n3 k3 q),g2=>simp [Fo.len] at g2
 ·have e1:=kidsN h (by omega)
  subst e1
  rw [e] at wl ul
  have nst:=nd_st e (List.length_eq_zero_iff.1 wl) (List.length_eq_zero_iff.1 ul) hb
  have hlen:(thT n Fo.nil.ts).length=2:=by simp only [thT,e,Int.reduceEq,↓reduceIte,List.length_cons,List.length_nil]
  rw [hlen]
  simp only [thT,e,Int.reduceEq,↓reduceIte,List.cons_append,List.nil_append] at ha
  have s0:=sees_kw hf ha (by decide)
  have s1:seesM L [59] (adv s 1)=true:=sees_sg (s:=adv s 1) hf ha.tail
  refine ⟨(⟨14,[],[],[],(tkM L s).pos⟩,.nil),by unfold stT; rw [nst]; rfl,evs_step ⟨0,fun j _=>?_⟩⟩
  have no:∀ u,[115,107,105,112] ≠ u→seesM L u s=false:=fun u hu=>sees_ne ha hu
  simp only [stepS,flag_no (no [105,100,108,101] (by decide)),no [105,100,108,101] (by decide),no [114,101,99,118] (by decide),no [119,104,101,110] (by decide),no [99,104,111,111,115,101] (by decide),no [115,101,110,100] (by decide),no [105,102] (by decide),no [119,104,105,108,101] (by decide),no [97,116,111,109,105,99] (by decide),s0,Bool.or_self,Bool.false_eq_true,if_false,if_true,up_adv]
  rw [must_yes s1]
  rfl
 ·have e1:=kidsN h (by omega)
  subst e1
  rw [e] at wl ul
  have nst:=nd_st e (List.length_eq_zero_iff.1 wl) (List.length_eq_zero_iff.1 ul) hb
  have hlen:(thT n Fo.nil.ts).length=2:=by simp only [thT,e,Int.reduceEq,↓reduceIte,List.length_cons,List.length_nil]
  rw [hlen]
  simp only [thT,e,Int.reduceEq,↓reduceIte,List.cons_append,List.nil_append] at ha
  have s0:=sees_kw hf ha (by decide)
  have s1:seesM L [59] (adv s 1)=true:=sees_sg (s:=adv s 1) hf ha.tail
  refine ⟨(⟨15,[],[],[],(tkM L s).pos⟩,.nil),by unfold stT; rw [nst]; rfl,evs_step ⟨0,fun j _=>?_⟩⟩
  have no:∀ u,[115,116,111,112] ≠ u→seesM L u s=false:=fun u hu=>sees_ne ha hu
  simp only [stepS,flag_no (no [105,100,108,101] (by decide)),no [105,100,108,101] (by decide),no [114,101,99,118] (by decide),no [119,104,101,110] (by decide),no [99,104,111,111,115,101] (by decide),no [115,101,110,100] (by decide),no [105,102] (by decide),no [119,104,105,108,101] (by decide),no [97,116,111,109,105,99] (by decide),no [115,107,105,112] (by decide),s0,Bool.or_self,Bool.false_eq_true,if_false,if_true,up_adv]
  rw [must_yes s1]
  rfl
theorem st_node (h:okN n k.kinds=true) (hb:n.kids = []) (ho:k.ok=true) (he:ExF k) (hk:StF k) (hc:k.len < 100000) (h1:6≤n.kind) (h2:n.kind≤15):ST n k:=by
 by_cases h8:n.kind=8∨n.kind=9∨n.kind=10
 ·exact st_wait h hb ho he hk hc h8
 ·exact st_plain h hb ho he hk hc h1 h2 h8
end
theorem st_of:∀ (f:Fo),f.ok=true→f.bare=true→f.cnt < 100000→StF f
 | .nil,_,_,_=>trivial
 | .cons n k r,h,hb,hc=>by
  simp only [Fo.ok,Bool.and_eq_true] at h
  simp only [Fo.bare,Bool.and_eq_true,decide_eq_true_eq] at hb
  simp only [Fo.cnt] at hc
  have hl:=Fo.len_cnt k
  have hk:=st_of k h.2.1 hb.2.1 (by omega)
  exact ⟨st_node h.1 hb.1 h.2.1 (ex_of k h.2.1 hb.2.1) hk (by omega),bl_node h.1 hb.1 h.2.1 hk (by omega),st_of r h.2.2 hb.2.2 (by omega)⟩
end Go.Proofs.YtcffdpmmadipeaaGreatDoor
namespace Go.Proofs.YtcffdpmmadipeaaGreatDoor
open Go.HL
set_option maxRecDepth 10000
section
variable {L:List Tok} {s s1 s2:PS} {c:Cs} {r:TT × PS} {D:Nat} {w:Str} {x y:Tk} {T R:List Tk} {n n1 m:Nd} {k k1:Fo} {t':TT}
theorem numT_pos {z:Int} (h:0≤z):numT z = [(1,digF 7 z.toNat)]:=by unfold numT; rw [if_neg (by omega)]
theorem num_read {z:Int} (hz:0≤z∧z≤999999) (hf:Fine s D) (ha:Ah L s.pos (numT z ++ T)):pnumM L s=(z,adv s 1)∧Ah L (adv s 1).pos T:=by
 rw [numT_pos hz.1] at ha
 have:=(isNum_yes hf ha).2
 rw [val_dig 7 z.toNat (by omega)] at this
 exact ⟨by rw [this]; congr 1; omega,ha.tail⟩
theorem var_read (h:okN n k.kinds=true) (hb:n.kids = []) (e:n.kind=2) (hf:Fine s D) (ha:Ah L s.pos (thT n k.ts ++ R)):∃ t',stT t'=stT (n,k)∧varM L s=(t',adv s (thT n k.ts).length):=by
 have wl:=okN_wl h
 have ul:=okN_ul h
 have q0:=okN_num h (i:=0) (by rw [e]; decide)
 have q1:=okN_num h (i:=1) (by rw [e]; decide)
 have hn:=okN_name h (i:=0) (by rw [e]; decide)
 rw [e] at q0 q1 wl ul
 have h0:0≤n0' n∧n0' n≤999999:=q0
 have h1:-999999≤n.nums.getD 1 0∧n.nums.getD 1 0≤999999:=q1
 have e1:=kidsN h (by omega)
 subst e1
 have nst:=nd_st e (len_one ([]:Str) wl) (len_two (0:Int) ul) hb
 simp only [thT,e,Int.reduceEq,↓reduceIte,List.append_assoc,List.cons_append,List.nil_append] at ha
 have hlen:(thT n Fo.nil.ts).length=1 + (1 + (1 + (1 + (1 + ((numT (n.nums.getD 1 0)).length + 1))))):=by
  simp only [thT,e,Int.reduceEq,↓reduceIte,List.length_append,List.length_cons,List.length_nil,numT_pos h0.1]
  omega
 rw [hlen]
 have s0:=sees_kw hf ha (by decide)
 have e2:=isName_yes (s:=adv s 1) hf ha.tail hn
 have s1:seesM L [111,102] (adv (adv s 1) 1)=true:=sees_kw (s:=adv (adv s 1) 1) hf ha.tail.tail (by decide)
 obtain ⟨e3,a3⟩:=num_read (s:=adv (adv (adv s 1) 1) 1) h0 hf ha.tail.tail.tail
 have s4:seesM L [61] (adv (adv (adv (adv s 1) 1) 1) 1)=true:=sees_sg (s:=adv (adv (adv (adv s 1) 1) 1) 1) hf a3
 refine ⟨(⟨2,[w0' n],[n0' n,n.nums.getD 1 0],[],(tkM L s).pos⟩,.nil),by unfold stT; rw [nst]; rfl,?_⟩
 unfold varM
 simp only
 rw [must_yes s0,e2]
 simp only
 rw [must_yes s1,e3]
 simp only
 rw [if_pos s4]
 by_cases hz:n.nums.getD 1 0 < 0
 ·have a4:=a3.tail
  have en:numT (n.nums.getD 1 0)=(2,[45]) :: numT (-(n.nums.getD 1 0)):=by
   rw [numT_pos (z:=-(n.nums.getD 1 0)) (by omega)]; unfold numT; rw [if_pos hz]
  rw [en] at a4
  have s5:seesM L [45] (adv (adv (adv (adv (adv s 1) 1) 1) 1) 1)=true:=sees_sg (s:=adv (adv (adv (adv (adv s 1) 1) 1) 1) 1) hf a4
  obtain ⟨e6,a6⟩:=num_read (s:=adv (adv (adv (adv (adv (adv s 1) 1) 1) 1) 1) 1) (z:=-(n.nums.getD 1 0)) (by omega) hf a4.tail
  have s7:seesM L [59] (adv (adv (adv (adv (adv (adv (adv s 1) 1) 1) 1) 1) 1) 1)=true:=sees_sg (s:=adv (adv (adv (adv (adv (adv (adv s 1) 1) 1) 1) 1) 1) 1) hf a6
  simp only [up_adv,s5,if_true,e6]
  rw [must_yes s7,en,numT_pos (by omega)]
  simp only [adv_adv,Int.neg_neg]
  rfl
 ·have a4:=a3.tail
  obtain ⟨e6,a6⟩:=num_read (s:=adv (adv (adv (adv (adv s 1) 1) 1) 1) 1) (z:=n.nums.getD 1 0) (by omega) hf a4
  have s5:seesM L [45] (adv (adv (adv (adv (adv s 1) 1) 1) 1) 1)=false:=by
   have a5:=a4
   rw [numT_pos (by omega)] at a5
   exact sees_num (s:=adv (adv (adv (adv (adv s 1) 1) 1) 1) 1) a5
  have s7:seesM L [59] (adv (adv (adv (adv (adv (adv s 1) 1) 1) 1) 1) 1)=true:=sees_sg (s:=adv (adv (adv (adv (adv (adv s 1) 1) 1) 1) 1) 1) hf a6
  simp only [up_adv,s5,Bool.false_eq_true,if_false,e6]
  rw [must_yes s7,numT_pos (by omega)]
  simp only [adv_adv]
  rfl
theorem flag_opt {z:Int} (hz:z=0∨z=1) (hf:Fine s D) (ha:Ah L s.pos (optT z [(0,w)] ++ y :: T)) (hy:y.2 ≠ w) (hk:keyM w=true) :
  flagM L w s=(z,adv s (optT z [(0,w)]).length)∧Ah L (adv s (optT z [(0,w)]).length).pos (y :: T):=by
 rcases hz with rfl | rfl
 ·have ha:Ah L s.pos (y :: T):=ha
  exact ⟨flag_no (sees_ne ha hy),ha⟩
 ·have ha:Ah L s.pos ((0,w) :: y :: T):=ha
  exact ⟨flag_yes (sees_kw hf ha hk),ha.tail⟩
end
theorem vars_read:∀ (f:Fo),f.ok=true→f.bare=true→(∀ x ∈ f.kinds,x=2)→∀ L s (acc:TT) y R D,Fine s D→Ah L s.pos (linesT f.ts ++ y :: R)→y.2 ≠ [118,97,114]→acc.2.len + f.len < 1000000 →
  ∃ f':Fo,f'.st=f.st∧∀ j,f.len < j→varsL L j acc s=some ((acc.1,acc.2.app f'),adv s (linesT f.ts).length)
 | .nil,_,_,_,L,s,acc,y,R,D,hf,ha,hy,hl=>by
  refine ⟨.nil,rfl,fun j hj=>?_⟩
  obtain ⟨i,rfl⟩:∃ i,j=i + 1:=⟨j - 1,by simp [Fo.len] at hj; omega⟩
  unfold varsL
  rw [if_neg (by rw [sees_ne ha hy]; simp),Fo.app_nil]
  rfl
 | .cons n k r,ho,hb,hk,L,s,acc,y,R,D,hf,ha,hy,hl=>by
  simp only [Fo.ok,Bool.and_eq_true] at ho
  simp only [Fo.bare,Bool.and_eq_true,decide_eq_true_eq] at hb
  simp only [Fo.kinds,List.mem_cons,forall_eq_or_imp] at hk
  simp only [Fo.ts,linesT,List.append_assoc] at ha
  have ha:Ah L s.pos (thT n k.ts ++ (linesT r.ts ++ y :: R)):=ha
  obtain ⟨t',st',e1⟩:=var_read ho.1 hb.1 hk.1 hf ha
  simp only [Fo.len] at hl
  obtain ⟨f',sf',h2⟩:=vars_read r ho.2.2 hb.2.2 hk.2 L (adv s (thT n k.ts).length) (addT acc t') y R D hf ha.app hy (by simp only [addT,Fo.len_snoc]; omega)
  refine ⟨.cons t'.1 t'.2 f',?_,fun j hj=>?_⟩
  ·unfold stT at st'
   simp only [Prod.mk.injEq] at st'
   simp only [Fo.st,st'.1,st'.2,sf']
  ·obtain ⟨i,rfl⟩:∃ i,j=i + 1:=⟨j - 1,by omega⟩
   simp only [Fo.len] at hj
   have s0:seesM L [118,97,114] s=true:=by
    have ha':=ha
    simp only [thT,hk.1,Int.reduceEq,↓reduceIte,List.append_assoc,List.cons_append,List.nil_append] at ha'
    exact sees_kw hf ha' (by decide)
   unfold varsL
   rw [if_pos s0,few_of (by omega),if_pos rfl,e1]
   simp only
   rw [h2 i (by omega)]
   simp only [addT,Fo.snoc_app,Option.some.injEq,Prod.mk.injEq,true_and]
   rw [adv_adv]
   refine adv_eq ?_
   simp only [Fo.ts,linesT,List.length_append]
   rfl
theorem Fo.app_ts:∀ (a b:Fo),linesT (a.app b).ts=linesT a.ts ++ linesT b.ts
 | .nil,b=>rfl
 | .cons n k r,b=>by simp only [Fo.app,Fo.ts,linesT,Fo.app_ts r b,List.append_assoc]
theorem Fo.app_ok:∀ (a b:Fo),(a.app b).ok=(a.ok && b.ok)
 | .nil,b=>rfl
 | .cons n k r,b=>by simp only [Fo.app,Fo.ok,Fo.app_ok r b,Bool.and_assoc]
theorem Fo.app_bare:∀ (a b:Fo),(a.app b).bare=(a.bare && b.bare)
 | .nil,b=>rfl
 | .cons n k r,b=>by simp only [Fo.app,Fo.bare,Fo.app_bare r b,Bool.and_assoc]
theorem Fo.app_len:∀ (a b:Fo),(a.app b).len=a.len + b.len
 | .nil,b=>by simp [Fo.app,Fo.len]
 | .cons n k r,b=>by simp only [Fo.app,Fo.len,Fo.app_len r b]; omega
theorem Fo.app_cnt:∀ (a b:Fo),(a.app b).cnt=a.cnt + b.cnt
 | .nil,b=>by simp [Fo.app,Fo.cnt]
 | .cons n k r,b=>by simp only [Fo.app,Fo.cnt,Fo.app_cnt r b]; omega
theorem Fo.app_dep:∀ (a b:Fo),(a.app b).dep=max a.dep b.dep
 | .nil,b=>by simp [Fo.app,Fo.dep]
 | .cons n k r,b=>by simp only [Fo.app,Fo.dep,Fo.app_dep r b]; omega
theorem Fo.app_kinds:∀ (a b:Fo),(a.app b).kinds=a.kinds ++ b.kinds
 | .nil,b=>rfl
 | .cons n k r,b=>by simp only [Fo.app,Fo.kinds,Fo.app_kinds r b,List.cons_append]
theorem Fo.app_assoc:∀ (a b c:Fo),(a.app b).app c=a.app (b.app c)
 | .nil,b,c=>rfl
 | .cons n k r,b,c=>by simp only [Fo.app,Fo.app_assoc r b c]
theorem StF.right:∀ {a b:Fo},StF (a.app b)→StF b
 | .nil,b,h=>h
 | .cons n k r,b,h=>StF.right (a:=r) h.2.2
theorem split_vars:∀ (k:Fo),(∀ x ∈ k.kinds.dropWhile (fun x=>decide (x=2)),sortM x=2)→∃ a b:Fo,k=a.app b∧(∀ x ∈ a.kinds,x=2)∧∀ x ∈ b.kinds,6≤x∧x≤15
 | .nil,_=>⟨.nil,.nil,rfl,by simp [Fo.kinds],by simp [Fo.kinds]⟩
 | .cons n k r,h=>by
  by_cases hn:n.kind=2
  ·simp only [Fo.kinds] at h
   rw [List.dropWhile_cons_of_pos (by simp [hn])] at h
   obtain ⟨a,b,rfl,h1,h2⟩:=split_vars r h
   exact ⟨.cons n k a,b,rfl,by simpa [Fo.kinds,hn] using h1,h2⟩
  ·simp only [Fo.kinds] at h
   rw [List.dropWhile_cons_of_neg (by simp [hn])] at h
   exact ⟨.nil,.cons n k r,rfl,by simp [Fo.kinds],fun x hx=>srt2 (h x hx)⟩
def IT (n:Nd) (k:Fo):Prop:=∀ L s R,Fine s (2 * (k.dep + 1))→Ah L s.pos (thT n k.ts ++ R)→∃ t',stT t'=stT (n,k)∧∃ n0,∀ j,n0≤j→itemM L j s=some (t',adv s (thT n k.ts).length)
section
variable {n:Nd} {k:Fo}
theorem proc_read (h:okN n k.kinds=true) (hb:n.kids = []) (ho:k.ok=true) (hbk:k.bare=true) (hk:StF k) (hc:k.len < 100000) (e:n.kind=3) :
  ∀ L s R,Fine s (2 * (k.dep + 1))→Ah L s.pos (thT n k.ts ++ R)→∃ t',stT t'=stT (n,k)∧∃ n0,∀ j,n0≤j→procM L j s=some (t',adv s (thT n k.ts).length):=by
 intro L s R hf ha
 have hkk:=okN_kids h
 have wl:=okN_wl h
 have ul:=okN_ul h
 have q0:=okN_num h (i:=0) (by rw [e]; decide)
 have hn:=okN_name h (i:=0) (by rw [e]; decide)
 rw [e] at q0 wl ul hkk
 have h0:0≤n0' n∧n0' n≤999999:=q0
 have nst:=nd_st e (len_one ([]:Str) wl) (len_one (0:Int) ul) hb
 obtain ⟨a,b,rfl,ka,kb⟩:=split_vars k (pall_mem (show pAllM (k.kinds.dropWhile fun x=>decide (x=2)) 2=true from hkk))
 rw [Fo.app_ok,Bool.and_eq_true] at ho
 rw [Fo.app_bare,Bool.and_eq_true] at hbk
 rw [Fo.app_len] at hc
 rw [Fo.app_dep] at hf
 have hlen:(thT n (a.app b).ts).length=1 + (1 + (1 + (1 + (1 + ((linesT a.ts).length + ((linesT b.ts).length + 1)))))):=by
  simp only [thT,e,Int.reduceEq,↓reduceIte,List.length_append,List.length_cons,List.length_nil,numT_pos h0.1,braT,Fo.app_ts]
  omega
 rw [hlen]
 simp only [thT,e,Int.reduceEq,↓reduceIte,List.append_assoc,List.cons_append,List.nil_append,braT,Fo.app_ts] at ha
 have s0:=sees_kw hf ha (by decide)
 have e2:=isName_yes (s:=adv s 1) hf ha.tail hn
 have s2:seesM L [42] (adv (adv s 1) 1)=true:=sees_sg (s:=adv (adv s 1) 1) hf ha.tail.tail
 obtain ⟨e3,a3⟩:=num_read (s:=adv (adv (adv s 1) 1) 1) h0 hf ha.tail.tail.tail
 have s4:seesM L [123] (adv (adv (adv (adv s 1) 1) 1) 1)=true:=sees_sg (s:=adv (adv (adv (adv s 1) 1) 1) 1) hf a3
 obtain ⟨y,Y,ey,hy⟩:∃ y Y,linesT b.ts ++ (2,[125]) :: R=y :: Y∧y.2 ≠ [118,97,114]:=by
  match b with
  | .nil=>exact ⟨_,_,rfl,by decide⟩
  | .cons m l q =>
   simp only [Fo.kinds,List.mem_cons,forall_eq_or_imp] at kb
   simp only [Fo.ok,Bool.and_eq_true] at ho
   obtain ⟨x',T',g1,g2,g3⟩:=th_head ho.2.1 (by omega) kb.1.2
   refine ⟨x',T' ++ (linesT q.ts ++ (2,[125]) :: R),?_,g3 (by omega)⟩
   simp only [Fo.ts,linesT,List.append_assoc]
   show thT m l.ts ++ _=_
   rw [g1]; rfl
 have a4:Ah L (adv (adv (adv (adv (adv s 1) 1) 1) 1) 1).pos _:=a3.tail
 rw [ey] at a4
 obtain ⟨f1,sf1,h1⟩:=vars_read a ho.1 hbk.1 ka L (adv (adv (adv (adv (adv s 1) 1) 1) 1) 1) ({ beginM L 3 s with words:=[w0' n],nums:=[n0' n] },.nil) y Y _ hf.adv.adv.adv.adv.adv a4 hy (by simp [Fo.len]; omega)
 rw [← ey] at a4
 have a5:=a4.app
 generalize hs5:adv (adv (adv (adv (adv s 1) 1) 1) 1) 1=s5 at *
 have f5:Fine (adv s5 (linesT a.ts).length) (2 * b.dep + 1):=by
  have:Fine s5 (2 * (max a.dep b.dep + 1)):=by rw [← hs5]; exact hf
  exact this.adv.le (by omega)
 obtain ⟨i1,i2⟩:=in_ok (L:=L) f5
 have lf1:f1.len=a.len:=by have:=congrArg Fo.len sf1; simpa [Fo.st_len] using this
 obtain ⟨f2,sf2,m2,h2⟩:=stats_read b ho.2 hk.right kb L { adv s5 (linesT a.ts).length with deep:=(adv s5 (linesT a.ts).length).deep + 1 } ({ beginM L 3 s with words:=[w0' n],nums:=[n0' n] },(Fo.nil.app f1)) R i2 a5 (by simp only [Fo.app]; omega)
 refine ⟨({ beginM L 3 s with words:=[w0' n],nums:=[n0' n] },f1.app f2),?_,max m2 (a.len + 1),fun j hj=>?_⟩
 ·unfold stT
  simp only [Fo.app_st,sf1,sf2,nst]
  rfl
 ·unfold procM copM
  rw [must_yes s0,e2]
  simp only
  rw [if_pos s2,up_adv,e3]
  simp only
  rw [must_yes s4,hs5,h1 j (by omega)]
  simp only [Option.bind_some]
  rw [deepOk_of f5,if_pos rfl,i1,h2 j (by omega)]
  simp only [Option.bind_some]
  have f6:Fine (adv ({ adv s5 (linesT a.ts).length with deep:=(adv s5 (linesT a.ts).length).deep + 1 }:PS) ((linesT b.ts).length + 1)) 0:=i2.adv.le (by omega)
  rw [deepOk_of f6,if_pos rfl]
  simp only [Option.some.injEq,Prod.mk.injEq,true_and,Fo.app]
  rw [← hs5]
  unfold adv outM
  simp
  omega
theorem it_node (h:okN n k.kinds=true) (hb:n.kids = []) (ho:k.ok=true) (hbk:k.bare=true) (hk:StF k) (hc:k.len < 100000) (h1:1≤n.kind) (h2:n.kind≤5):IT n k:=by
 intro L s R hf ha
 have wl:=okN_wl h
 have ul:=okN_ul h
 have:n.kind=1∨n.kind=2∨n.kind=3∨n.kind=4∨n.kind=5:=by omega
 rcases this with e | e | e | e | e
 ·have q0:=okN_num h (i:=0) (by rw [e]; decide)
  have q1:=okN_num h (i:=1) (by rw [e]; decide)
  have q2:=okN_num h (i:=2) (by rw [e]; decide)
  have q3:=okN_num h (i:=3) (by rw [e]; decide)
  have hn:=okN_name h (i:=0) (by rw [e]; decide)
  rw [e] at q0 q1 q2 q3 wl ul
  have h0:0≤n0' n∧n0' n≤999999:=q0
  have h1:0≤n.nums.getD 1 0∧n.nums.getD 1 0≤999999:=q1
  have h2:0≤n.nums.getD 2 0∧n.nums.getD 2 0≤1:=q2
  have h3:0≤n.nums.getD 3 0∧n.nums.getD 3 0≤1:=q3
  have e1:=kidsN h (by omega)
  subst e1
  have nst:=nd_st e (len_one ([]:Str) wl) (len_four (0:Int) ul) hb
  simp only [thT,e,Int.reduceEq,↓reduceIte,List.append_assoc,List.cons_append,List.nil_append] at ha
  have hlen:(thT n Fo.nil.ts).length=1 + (1 + (1 + (1 + (1 + (1 + (1 + ((optT (n.nums.getD 2 0) [(0,[108,111,115,115,121])]).length + ((optT (n.nums.getD 3 0) [(0,[99,111,112,121,105,110,103])]).length + 1)))))))):=by
   simp only [thT,e,Int.reduceEq,↓reduceIte,List.length_append,List.length_cons,List.length_nil,numT_pos h0.1,numT_pos h1.1]
   omega
  rw [hlen]
  have s0:=sees_kw hf ha (by decide)
  have e2:=isName_yes (s:=adv s 1) hf ha.tail hn
  have s2:seesM L [91] (adv (adv s 1) 1)=true:=sees_sg (s:=adv (adv s 1) 1) hf ha.tail.tail
  obtain ⟨e3,a3⟩:=num_read (s:=adv (adv (adv s 1) 1) 1) h0 hf ha.tail.tail.tail
  have s4:seesM L [93] (adv (adv (adv (adv s 1) 1) 1) 1)=true:=sees_sg (s:=adv (adv (adv (adv s 1) 1) 1) 1) hf a3
  have s5:seesM L [111,102] (adv (adv (adv (adv (adv s 1) 1) 1) 1) 1)=true:=sees_kw (s:=adv (adv (adv (adv (adv s 1) 1) 1) 1) 1) hf a3.tail (by decide)
  obtain ⟨e6,a6⟩:=num_read (s:=adv (adv (adv (adv (adv (adv s 1) 1) 1) 1) 1) 1) h1 hf a3.tail.tail
  have a6':∃ y Y,optT (n.nums.getD 3 0) [(0,[99,111,112,121,105,110,103])] ++ ((2,[59]) :: R)=y :: Y∧y.2 ≠ [108,111,115,115,121]:=by
   unfold optT
   split
   ·exact ⟨_,_,rfl,by decide⟩
   ·exact ⟨_,_,rfl,by decide⟩
  obtain ⟨y,Y,ey,hy⟩:=a6'
  rw [ey] at a6
  obtain ⟨e7,a7⟩:=flag_opt (s:=adv (adv (adv (adv (adv (adv (adv s 1) 1) 1) 1) 1) 1) 1) (w:=[108,111,115,115,121]) (by omega) hf a6 hy (by decide)
  rw [← ey] at a7
  obtain ⟨e8,a8⟩:=flag_opt (w:=[99,111,112,121,105,110,103]) (by omega) hf.adv.adv.adv.adv.adv.adv.adv.adv a7 (by decide) (by decide)
  have s9:=sees_sg hf.adv.adv.adv.adv.adv.adv.adv.adv.adv a8
  have no:∀ u,[99,104,97,110] ≠ u→seesM L u s=false:=fun u hu=>sees_ne ha hu
  refine ⟨(⟨1,[w0' n],[n0' n,n.nums.getD 1 0,n.nums.getD 2 0,n.nums.getD 3 0],[],(tkM L s).pos⟩,.nil),by unfold stT; rw [nst]; rfl,0,fun j _=>?_⟩
  unfold itemM
  rw [if_neg (by rw [no [118,97,114] (by decide)]; simp),if_neg (by rw [no [112,114,111,99] (by decide)]; simp),if_pos s0,up_adv]
  simp only [e2,must_yes s2,e3,must_yes s4,must_yes s5,e6,e7,e8,must_yes s9]
  simp only [adv_adv,Nat.add_assoc]
  rfl
 ·obtain ⟨t',st,e1⟩:=var_read h hb e hf ha
  refine ⟨t',st,0,fun j _=>?_⟩
  have s0:seesM L [118,97,114] s=true:=by
   have ha':=ha
   simp only [thT,e,Int.reduceEq,↓reduceIte,List.append_assoc,List.cons_append,List.nil_append] at ha'
   exact sees_kw hf ha' (by decide)
  unfold itemM
  rw [if_pos s0,e1]
 ·obtain ⟨t',st,n0,e1⟩:=proc_read h hb ho hbk hk hc e L s R hf ha
  refine ⟨t',st,n0,fun j hj=>?_⟩
  simp only [thT,e,Int.reduceEq,↓reduceIte,List.append_assoc,List.cons_append,List.nil_append] at ha
  have s0:=sees_kw hf ha (by decide)
  unfold itemM
  rw [if_neg (by rw [sees_ne ha (w:=[118,97,114]) (by decide)]; simp),if_pos s0,e1 j hj]
 ·obtain ⟨n1,k1,rfl,g1,g2⟩:=kidsE h (by omega)
  have he:=ex_of _ ho hbk
  rw [e] at wl ul
  have nst:=nd_st e (List.length_eq_zero_iff.1 wl) (List.length_eq_zero_iff.1 ul) hb
  have hlen:(thT n (Fo.cons n1 k1 .nil).ts).length=1 + ((exT n1 k1.ts).length + 1):=by
   simp only [thT,e,Int.reduceEq,↓reduceIte,List.length_append,List.length_cons,List.length_nil]
   show 1 + (exT n1 k1.ts).length + 1=_
   omega
  rw [hlen]
  simp only [thT,e,Int.reduceEq,↓reduceIte,List.append_assoc,List.cons_append,List.nil_append] at ha
  have a0:Ah L s.pos ((0,[115,97,102,101]) :: (exT n1 k1.ts ++ (2,[59]) :: R)):=ha
  have s0:=sees_kw hf a0 (by decide)
  obtain ⟨t',st,m1,q1⟩:=ex_read (s:=adv s 1) (he.1 g1 g2) (hf.le (by simp only [Fo.dep]; omega)) a0.tail (by decide)
  have s3:seesM L [59] (adv (adv s 1) (exT n1 k1.ts).length)=true:=sees_sg (s:=adv (adv s 1) (exT n1 k1.ts).length) hf a0.tail.app
  refine ⟨tree1 ⟨4,[],[],[],(tkM L s).pos⟩ t',tree1_st (by rw [nst]; rfl) st,m1,fun j hj=>?_⟩
  have no:∀ u,[115,97,102,101] ≠ u→seesM L u s=false:=fun u hu=>sees_ne a0 hu
  unfold itemM
  rw [if_neg (by rw [no [118,97,114] (by decide)]; simp),if_neg (by rw [no [112,114,111,99] (by decide)]; simp),if_neg (by rw [no [99,104,97,110] (by decide)]; simp),if_pos s0,up_adv,q1 j hj]
  simp only [Option.bind_some]
  rw [must_yes s3]
  simp only [adv_adv]
  rfl
 ·have e1:=kidsN h (by omega)
  subst e1
  rw [e] at wl ul
  have nst:=nd_st e (List.length_eq_zero_iff.1 wl) (List.length_eq_zero_iff.1 ul) hb
  have hlen:(thT n Fo.nil.ts).length=2:=by simp only [thT,e,Int.reduceEq,↓reduceIte,List.length_cons,List.length_nil]
  rw [hlen]
  simp only [thT,e,Int.reduceEq,↓reduceIte,List.cons_append,List.nil_append] at ha
  have s0:=sees_kw hf ha (by decide)
  have s1:seesM L [59] (adv s 1)=true:=sees_sg (s:=adv s 1) hf ha.tail
  refine ⟨(⟨5,[],[],[],(tkM L s).pos⟩,.nil),by unfold stT; rw [nst]; rfl,0,fun j _=>?_⟩
  have no:∀ u,[100,101,97,100,108,111,99,107] ≠ u→seesM L u s=false:=fun u hu=>sees_ne ha hu
  unfold itemM
  rw [if_neg (by rw [no [118,97,114] (by decide)]; simp),if_neg (by rw [no [112,114,111,99] (by decide)]; simp),if_neg (by rw [no [99,104,97,110] (by decide)]; simp),if_neg (by rw [no [115,97,102,101] (by decide)]; simp),must_yes s0,must_yes s1]
  rfl
end
theorem prog_read:∀ (f:Fo),f.ok=true→f.bare=true→f.cnt < 100000→(∀ x ∈ f.kinds,1≤x∧x≤5)→∀ L s (acc:TT) R,Fine s (2 * f.dep)→Ah L s.pos (linesT f.ts ++ (3,[]) :: R)→acc.2.len + f.len < 1000000 →
  ∃ f':Fo,f'.st=f.st∧∃ n0,∀ n,n0≤n→∀ j,f.len < j→progL L n j acc s=some ((acc.1,acc.2.app f'),adv s (linesT f.ts).length)
 | .nil,_,_,_,_,L,s,acc,R,hf,ha,hl=>by
  refine ⟨.nil,rfl,0,fun n _ j hj=>?_⟩
  obtain ⟨i,rfl⟩:∃ i,j=i + 1:=⟨j - 1,by simp [Fo.len] at hj; omega⟩
  have ha:Ah L s.pos ((3,[]) :: R):=ha
  unfold progL
  rw [ha.tk.1,if_neg (by simp),Fo.app_nil]
  rfl
 | .cons n k r,ho,hb,hc,hk,L,s,acc,R,hf,ha,hl=>by
  simp only [Fo.ok,Bool.and_eq_true] at ho
  simp only [Fo.bare,Bool.and_eq_true,decide_eq_true_eq] at hb
  simp only [Fo.kinds,List.mem_cons,forall_eq_or_imp] at hk
  simp only [Fo.cnt] at hc
  simp only [Fo.ts,linesT,List.append_assoc] at ha
  have ha:Ah L s.pos (thT n k.ts ++ (linesT r.ts ++ (3,[]) :: R)):=ha
  have hd2:2 * (k.dep + 1)≤2 * (Fo.cons n k r).dep∧2 * r.dep≤2 * (Fo.cons n k r).dep:=by simp only [Fo.dep]; omega
  have hlk:=Fo.len_cnt k
  obtain ⟨t',st',n1,h1⟩:=it_node ho.1 hb.1 ho.2.1 hb.2.1 (st_of k ho.2.1 hb.2.1 (by omega)) (by omega) hk.1.1 hk.1.2 L s _ (hf.le hd2.1) ha
  obtain ⟨x,T,e1,e2,_⟩:=th_head ho.1 hk.1.1 (by omega)
  simp only [Fo.len] at hl
  obtain ⟨f',sf',n2,h2⟩:=prog_read r ho.2.2 hb.2.2 (by omega) hk.2 L (adv s (thT n k.ts).length) (addT acc t') R (hf.le hd2.2) ha.app (by simp only [addT,Fo.len_snoc]; omega)
  refine ⟨.cons t'.1 t'.2 f',?_,max n1 n2,fun m hm j hj=>?_⟩
  ·unfold stT at st'
   simp only [Prod.mk.injEq] at st'
   simp only [Fo.st,st'.1,st'.2,sf']
  ·obtain ⟨i,rfl⟩:∃ i,j=i + 1:=⟨j - 1,by omega⟩
   simp only [Fo.len] at hj
   have hk3:¬ (tkM L s).kind=3:=by rw [e1] at ha; rw [ha.tk.1]; exact e2.1
   unfold progL
   rw [hf.ok,if_pos (by simp [hk3]),few_of (by omega),if_pos rfl,h1 m (by omega)]
   simp only [Option.bind_some]
   rw [h2 m (by omega) i (by omega)]
   simp only [addT,Fo.snoc_app,Option.some.injEq,Prod.mk.injEq,true_and]
   rw [adv_adv]
   refine adv_eq ?_
   simp only [Fo.ts,linesT,List.length_append]
   rfl
end Go.Proofs.YtcffdpmmadipeaaGreatDoor
namespace Go.Proofs.YtcffdpmmadipeaaGreatDoor
open Go.HL
set_option maxRecDepth 10000
theorem Fo.st_kinds:∀ (f:Fo),f.st.kinds=f.kinds
 | .nil=>rfl
 | .cons n k r=>by simp only [Fo.st,Fo.kinds,Fo.st_kinds r]; rfl
theorem Fo.st_cnt:∀ (f:Fo),f.st.cnt=f.cnt
 | .nil=>rfl
 | .cons n k r=>by simp only [Fo.st,Fo.cnt,Fo.st_cnt r,Fo.st_cnt k]
theorem Fo.st_dep:∀ (f:Fo),f.st.dep=f.dep
 | .nil=>rfl
 | .cons n k r=>by simp only [Fo.st,Fo.dep,Fo.st_dep r,Fo.st_dep k]
theorem Fo.st_bare:∀ (f:Fo),f.st.bare=f.bare
 | .nil=>rfl
 | .cons n k r=>by simp only [Fo.st,Fo.bare,Fo.st_bare r,Fo.st_bare k]; rfl
theorem Fo.st_ok:∀ (f:Fo),f.st.ok=f.ok
 | .nil=>rfl
 | .cons n k r=>by simp only [Fo.st,Fo.ok,Fo.st_ok r,Fo.st_ok k,Fo.st_kinds k]; rfl
theorem stepV_st (n:Nd) (ks:List KV):stepV n.st ks=stepV n ks:=rfl
theorem Fo.st_vs:∀ (f:Fo),f.st.vs=f.vs
 | .nil=>rfl
 | .cons n k r=>by simp only [Fo.st,Fo.vs,Fo.st_vs r,Fo.st_vs k,stepV_st]
theorem Fo.st_roots:∀ (f:Fo) (a:Nat),f.st.roots a=f.roots a
 | .nil,a=>rfl
 | .cons n k r,a=>by simp only [Fo.st,Fo.roots,Fo.st_roots r,Fo.st_cnt k]
theorem Fo.st_lay:∀ (f:Fo) (a:Nat),f.st.lay a=(f.lay a).map Nd.st
 | .nil,a=>rfl
 | .cons n k r,a=>by simp only [Fo.st,Fo.lay,List.map_cons,List.map_append,Fo.st_lay r,Fo.st_lay k,Fo.st_cnt k,Fo.st_roots]; rfl
theorem st_same {f f':Fo} (h:f'.st=f.st):f'.kinds=f.kinds∧f'.cnt=f.cnt∧f'.dep=f.dep∧f'.bare=f.bare∧f'.ok=f.ok∧f'.vs=f.vs :=
 ⟨by rw [← Fo.st_kinds,h,Fo.st_kinds],by rw [← Fo.st_cnt,h,Fo.st_cnt],by rw [← Fo.st_dep,h,Fo.st_dep],by rw [← Fo.st_bare,h,Fo.st_bare],by rw [← Fo.st_ok,h,Fo.st_ok],by rw [← Fo.st_vs,h,Fo.st_vs]⟩
theorem deepF_neg:∀ (f:Fo) (d:Int),f.dep + d≤21→deepF f d < 0
 | .nil,d,_=>by simp [deepF]
 | .cons n k r,d,h=>by
  simp only [Fo.dep] at h
  unfold deepF
  have h20:¬ 20 < d:=by omega
  have hk:=deepF_neg k (d + 1) (by omega)
  have hr:=deepF_neg r d (by omega)
  rw [if_neg (by rw [if_neg h20]; omega)]
  exact hr
theorem parse_read {f:Fo} (ho:f.ok=true) (hb:f.bare=true) (hc:f.cnt≤799) (hd:f.dep≤19) (hk:∀ x ∈ f.kinds,1≤x∧x≤5) {s:Str} (hs:LxF s (linesT f.ts)) (hl:s.length≤4000) :
  ∃ n f' p,f'.st=f.st∧parseM n s=some (layT ⟨0,[],[],[],p⟩ f',⟨0,0⟩):=by
 obtain ⟨ps,rfl,e2,e3⟩:=hs
 have e4:pcOk ps=true:=by have:=e3 [] rfl; simpa using this
 obtain ⟨L,hL⟩:∃ L,L=pcT 0 ps:=⟨_,rfl⟩
 have hm:L.map tkO=linesT f.ts ++ [(3,[])]:=by rw [hL,pcT_tk,e2]
 have hlen:=Fo.len_cnt f
 obtain ⟨f',sf,n0,h1⟩:=prog_read f ho hb (by omega) hk L ⟨0,0,⟨0,0⟩⟩ (beginM L 0 ⟨0,0,⟨0,0⟩⟩,.nil) [] ⟨rfl,by simp,by simp; omega⟩ ⟨[],by simpa using hm⟩ (by simp [Fo.len]; omega)
 refine ⟨max (ps.length + 1) (max n0 (f.len + 1)),f',(tkM L ⟨0,0,⟨0,0⟩⟩).pos,sf,?_⟩
 have ss:=st_same sf
 have e5:progM L (max (ps.length + 1) (max n0 (f.len + 1))) ⟨0,0,⟨0,0⟩⟩=some ((beginM L 0 ⟨0,0,⟨0,0⟩⟩,f'),adv ⟨0,0,⟨0,0⟩⟩ (linesT f.ts).length):=h1 _ (by omega) _ (by omega)
 unfold parseM
 rw [tokens_pcs e4 (by omega) hl,← hL]
 simp only [Option.bind_some,if_true,e5]
 have hcc:f'.cnt + 1≤1000000:=by rw [ss.2.1]; omega
 have hll:¬ 800 < (layF f' 0 [beginM L 0 ⟨0,0,⟨0,0⟩⟩]).length:=by rw [layF_len,ss.2.1]; simp; omega
 have hdd:¬ 0≤deepT (beginM L 0 ⟨0,0,⟨0,0⟩⟩) f' 1:=by
  unfold deepT
  rw [if_neg (by omega)]
  have:=deepF_neg f' (1 + 1) (by rw [ss.2.2.1]; omega)
  omega
 rw [if_pos (show (adv (⟨0,0,⟨0,0⟩⟩:PS) (linesT f.ts).length).flt.err=0 from rfl),if_pos hcc,if_neg hll,if_neg hdd,layF_layT]
 rfl
theorem RT.parts {n:Nd} {k:Fo} (h:RT n k):n.st=⟨0,[],[],[],0⟩∧k.bare=true∧k.ok=true∧∀ x ∈ k.kinds,1≤x∧x≤5:=by
 have hb:=h.bare
 have ho:=h.ok
 simp only [Fo.bare,Bool.and_eq_true,decide_eq_true_eq] at hb
 simp only [Fo.ok,Bool.and_eq_true] at ho
 have wl:=okN_wl ho.1
 have ul:=okN_ul ho.1
 rw [h.kind] at wl ul
 exact ⟨nd_st h.kind (List.length_eq_zero_iff.1 wl) (List.length_eq_zero_iff.1 ul) hb.1,hb.2.1,ho.2.1,kids0 ho.1 h.kind⟩
theorem RT.mk' {k:Fo} {p:Int} (hb:k.bare=true) (ho:k.ok=true) (hk:∀ x ∈ k.kinds,1≤x∧x≤5) (hc:k.cnt≤799) (hd:k.dep≤19):RT ⟨0,[],[],[],p⟩ k:=by
 refine ⟨rfl,by simp [Fo.bare,hb],?_,hd,hc⟩
 simp only [Fo.ok,Bool.and_true,Bool.and_eq_true]
 refine ⟨?_,ho⟩
 unfold okN
 simp only [Bool.and_eq_true]
 refine ⟨rfl,rfl,?_⟩
 show pAllM k.kinds 1=true
 unfold pAllM
 rw [allR_iff]
 intro i hi
 rw [decide_eq_true_eq]
 have:=hk (k.kinds.getD i 0) (by rw [List.getD_eq_getElem?_getD,List.getElem?_eq_getElem hi]; exact List.getElem_mem _)
 generalize k.kinds.getD i 0=z at this ⊢
 unfold sortM inB
 simp [this.1,this.2]
theorem lk_show {k:Fo} (ho:k.ok=true) (hk:∀ x ∈ k.kinds,1≤x∧x≤5):LxF (showT k) (linesT k.ts):=lk_lines k 0 (lk_of k ho) (fun x hx=>by have:=hk x hx; omega)
theorem show_back {n:Nd} {k:Fo} (h:RT n k) (hl:(showT k).length≤4000):∃ j k' p,k'.st=k.st∧RT ⟨0,[],[],[],p⟩ k'∧parseM j (showT k)=some (layT ⟨0,[],[],[],p⟩ k',⟨0,0⟩)∧(layT ⟨0,[],[],[],p⟩ k').map Nd.st=(layT n k).map Nd.st:=by
 obtain ⟨h1,h2,h3,h4⟩:=h.parts
 obtain ⟨j,k',p,e,hp⟩:=parse_read h3 h2 h.cnt h.dep h4 (lk_show h3 h4) hl
 have ss:=st_same e
 refine ⟨j,k',p,e,RT.mk' (by rw [ss.2.2.2.1,h2]) (by rw [ss.2.2.2.2.1,h3]) (by rw [ss.1]; exact h4) (by rw [ss.2.1]; exact h.cnt) (by rw [ss.2.2.1]; exact h.dep),hp,?_⟩
 unfold layT
 rw [← Fo.st_lay,← Fo.st_lay]
 simp only [Fo.st,e,h1]
 rfl
theorem show_two {na nb:Nd} {a b:Fo} (ha:RT na a) (hb:RT nb b) (hc:a.cnt + b.cnt≤700) (hl:(showT a ++ showT b).length≤4000) :
  ∃ j k' p,k'.st=(a.app b).st∧RT ⟨0,[],[],[],p⟩ k'∧parseM j (showT a ++ showT b)=some (layT ⟨0,[],[],[],p⟩ k',⟨0,0⟩):=by
 obtain ⟨a1,a2,a3,a4⟩:=ha.parts
 obtain ⟨b1,b2,b3,b4⟩:=hb.parts
 have ho:(a.app b).ok=true:=by rw [Fo.app_ok,a3,b3]; rfl
 have hbb:(a.app b).bare=true:=by rw [Fo.app_bare,a2,b2]; rfl
 have hk:∀ x ∈ (a.app b).kinds,1≤x∧x≤5:=by
  intro x hx
  rw [Fo.app_kinds,List.mem_append] at hx
  exact hx.elim (a4 x) (b4 x)
 have hd:(a.app b).dep≤19:=by rw [Fo.app_dep]; have:=ha.dep; have:=hb.dep; omega
 have hcc:(a.app b).cnt≤799:=by rw [Fo.app_cnt]; omega
 have hlx:LxF (showT a ++ showT b) (linesT (a.app b).ts):=by
  rw [Fo.app_ts]
  exact (lk_show a3 a4).app (lk_show b3 b4)
 obtain ⟨j,k',p,e,hp⟩:=parse_read ho hbb hcc hd hk hlx hl
 have ss:=st_same e
 exact ⟨j,k',p,e,RT.mk' (by rw [ss.2.2.2.1,hbb]) (by rw [ss.2.2.2.2.1,ho]) (by rw [ss.1]; exact hk) (by rw [ss.2.1]; exact hcc) (by rw [ss.2.2.1]; exact hd),hp⟩
theorem lines_app:∀ (a b:Fo) (d:Nat),linesS d (a.app b).vs=linesS d a.vs ++ linesS d b.vs
 | .nil,b,d=>rfl
 | .cons n k r,b,d=>by simp only [Fo.app,Fo.vs,linesS,lines_app r b d,List.append_assoc]
theorem show_app {a b k':Fo} (h:k'.st=(a.app b).st):showT k'=showT a ++ showT b:=by
 unfold showT
 rw [(st_same h).2.2.2.2.2,lines_app]
theorem show_st {k k':Fo} (h:k'.st=k.st):showT k'=showT k:=by
 unfold showT
 rw [(st_same h).2.2.2.2.2]
theorem show_expr {n:Nd} {k:Fo} (h:(Fo.cons n k .nil).ok=true) (hb:(Fo.cons n k .nil).bare=true) (h1:17≤n.kind) (h2:n.kind≤22) (hd:k.dep≤17) (hc:k.cnt≤797)
  (hl:([115,97,102,101,32] ++ exN n k.vs ++ [59]).length≤4000) :
  ∃ j n' k' p q,stT (n',k')=stT (n,k)∧RT ⟨0,[],[],[],p⟩ (.cons ⟨4,[],[],[],q⟩ (.cons n' k' .nil) .nil)∧parseM j ([115,97,102,101,32] ++ exN n k.vs ++ [59])=some (layT ⟨0,[],[],[],p⟩ (.cons ⟨4,[],[],[],q⟩ (.cons n' k' .nil) .nil),⟨0,0⟩):=by
 have f1:(Fo.cons ⟨4,[],[],[],0⟩ (.cons n k .nil) .nil).ok=true:=by
  simp only [Fo.ok,Bool.and_true,Bool.and_eq_true] at h ⊢
  refine ⟨?_,h⟩
  unfold okN
  simp only [Bool.and_eq_true]
  refine ⟨rfl,rfl,?_⟩
  show areM [n.kind] [3]=true
  unfold areM
  simp only [List.length_cons,List.length_nil,decide_true,Bool.true_and,allR_iff]
  intro i hi
  have:i=0:=by omega
  subst this
  rw [decide_eq_true_eq]
  show sortM n.kind=3
  unfold sortM inB
  rw [if_neg (by simp; omega),if_neg (by simp; omega),if_pos (by simp; omega)]
 have f2:(Fo.cons ⟨4,[],[],[],0⟩ (.cons n k .nil) .nil).bare=true:=by
  simp only [Fo.bare,Bool.and_true,Bool.and_eq_true,decide_eq_true_eq] at hb ⊢
  exact ⟨trivial,hb⟩
 have hlx:LxF ([115,97,102,101,32] ++ exN n k.vs ++ [59]) (linesT (Fo.cons ⟨4,[],[],[],0⟩ (.cons n k .nil) .nil).ts):=by
  have hh:=h
  simp only [Fo.ok,Bool.and_true,Bool.and_eq_true] at hh
  have h3:=lk_ex hh.1 (lk_of k hh.2) h1 h2
  have:=((lx_const [.wd [115,97,102,101],.sp 32] (by decide)).appW h3).app (lx_const [.sg [59]] (by decide)) (by decide) (by decide)
  simp only [Fo.ts,linesT,List.append_nil]
  exact this
 have hk:∀ x ∈ (Fo.cons ⟨4,[],[],[],0⟩ (.cons n k .nil) .nil).kinds,1≤x∧x≤5:=by simp [Fo.kinds]
 obtain ⟨j,g,p,e,hp⟩:=parse_read f1 f2 (by simp [Fo.cnt]; omega) (by simp [Fo.dep]; omega) hk hlx hl
 have ss:=st_same e
 match g,e with
 | .cons a (.cons n' k' .nil) .nil,e =>
  simp only [Fo.st,Fo.cons.injEq,and_true] at e
  obtain ⟨ea,en,ek⟩:=e
  obtain ⟨kd,ws,us,kk,q⟩:=a
  simp only [Nd.st,Nd.mk.injEq,and_true] at ea
  obtain ⟨rfl,rfl,rfl,rfl⟩:=ea
  exact ⟨j,n',k',p,q,by unfold stT; rw [en,ek],RT.mk' (by rw [ss.2.2.2.1,f2]) (by rw [ss.2.2.2.2.1,f1]) (by rw [ss.1]; exact hk) (by rw [ss.2.1]; simp [Fo.cnt]; omega) (by rw [ss.2.2.1]; simp [Fo.dep]; omega),hp⟩
 | .nil,e=>simp [Fo.st] at e
 | .cons a .nil r,e=>simp [Fo.st] at e
 | .cons a (.cons n' k' (.cons _ _ _)) r,e=>simp [Fo.st] at e
 | .cons a (.cons n' k' .nil) (.cons _ _ _),e=>simp [Fo.st] at e
end Go.Proofs.YtcffdpmmadipeaaGreatDoor
