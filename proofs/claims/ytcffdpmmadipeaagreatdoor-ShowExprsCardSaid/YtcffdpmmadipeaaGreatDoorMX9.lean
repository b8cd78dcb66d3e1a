/- Texts of this proof, put together: ArgN. The conditions of each theorem stand in it. -/
import Derived.Test.YtcffdpmmadipeaaGreatDoorMX3
import Derived.Test.YtcffdpmmadipeaaGreatDoorMX7
set_option linter.unusedSimpArgs false
set_option linter.unusedVariables false
namespace Go.HL
open Go.ChangeShapes Go.WideShapes Go.ChangeAt Go.RowKit
section
variable {H:Type} {enc:TypeId × Value→H} {P:Program} {W:World}
theorem TR.cap {t e:TypeId} {a:Option Addr} {len cap:Nat} (ht:P.underlying t=some (.slice e)) (h:TR enc P W t [.slice a len cap]):len≤cap:=by
 obtain ⟨fuel,x,h⟩:=h
 cases fuel with
 | zero=>simp [DataW.trod] at h
 | succ fuel =>
  unfold DataW.trod at h
  rw [ht] at h
  split at h <;> first | (simp at *; done) | skip
  ·rename_i hc
   simp only [List.cons.injEq,Value.slice.injEq,and_true] at hc
   omega
  ·rename_i e' a' len' cap' he hc
   simp only [List.cons.injEq,Value.slice.injEq,and_true] at hc
   obtain ⟨rfl,rfl,rfl⟩:=hc
   simp only at h
   split at h
   ·rename_i hb; omega
   ·simp at h
theorem TR.rd {α:Type} {f:α→Value} {p:α→Prop} {t e:TypeId} {cs:List Value} (ht:P.underlying t=some (.slice e)) (hz:P.cellsOf e=1) (hf:∀ x,TR enc P W e [x]→∃ y,x=f y∧p y) (h:TR enc P W t cs) :
  ∃ (v:Value) (l:List α),cs = [v]∧Rd W.heap (fun _=>True) 1 v (l.map f)∧l.length≤maxLen∧(∀ y ∈ l,p y)∧∀ a m c,v=.slice a m c→m≤c:=by
 obtain ⟨a,len,cap,rfl,hl,hr⟩:=h.slice (z:=1) ht hz (by omega)
 have hcap:=TR.cap ht h
 have key:∀ i,i < len→∃ y:α,(∃ b o,a=some ⟨b,o,none⟩∧cellH W.heap ⟨b,o + i,none⟩=some (f y))∧p y:=by
  intro i hi
  obtain ⟨b,o,rfl,hrow⟩:=hr (by omega)
  obtain ⟨es,hes,hc,ht⟩:=hrow i hi
  match es,hes with
  | [x0],_ =>
   obtain ⟨y,rfl,hy⟩:=hf x0 ht
   have c0:=hc 0 (by omega)
   simp at c0
   exact ⟨y,⟨b,o,rfl,c0⟩,hy⟩
 obtain ⟨l,g1,g2⟩:=list_of key
 subst g1
 refine ⟨_,l,rfl,⟨a,l.length,cap,rfl,by simp,?_⟩,hl,?_,?_⟩
 ·intro i x hx
  rw [List.getElem?_map,Option.map_eq_some_iff] at hx
  obtain ⟨y,hy,rfl⟩:=hx
  obtain ⟨⟨b,o,e,hc⟩,_⟩:=g2 i y hy
  exact ⟨b,o,e,trivial,hc⟩
 ·intro y hy
  obtain ⟨i,hi⟩:=List.getElem?_of_mem hy
  exact (g2 i y hi).2
 ·intro a' m c e
  simp only [Value.slice.injEq] at e
  omega
end
end Go.HL
namespace Go.Proofs.YtcffdpmmadipeaaGreatDoor
open Go.ChangeShapes Go.WideShapes Go.ChangeAt Go.RowKit Go.HL
set_option maxRecDepth 100000
theorem maxLen_eq:maxLen=9223372036854775807:=rfl
theorem arg_nodes {H:Type} {enc:TypeId × Value→H} {W:World} {r:Reach} {b0:Nat} {v:Value} {d:DataW H} {ps:List MemPlace}
  (hval:Value.okWide Tryz.prog W r b0 22 v) (hd:DataW.Trod enc Tryz.prog W 0 (fun _=>true) true 22 v d ps):∃ l,NL W.heap (fun _=>True) v l∧Sz l:=by
 obtain ⟨a0,len0,cap0,rfl⟩:=okWide_slice Tryz.underlying22 hval
 obtain ⟨a,len,cap,e,hl,hr⟩:=(Go.HL.TR.of hd).slice (z:=5) Tryz.underlying22 (by kernel_rfl) (by omega)
 simp [Value.cells] at e
 obtain ⟨rfl,rfl,rfl⟩:=e
 have key:∀ i,i < len0→∃ an:AN,(∃ b o,a0=some ⟨b,o,none⟩∧∀ j y,(anC an)[j]?=some y→cellH W.heap ⟨b,o + (i * 5 + j),none⟩=some y)∧AR W.heap (fun _=>True) an ∧
   an.n.words.length≤maxLen∧an.n.nums.length≤maxLen∧an.n.kids.length≤maxLen∧∀ w ∈ an.n.words,w.length≤maxLen:=by
  intro i hi
  obtain ⟨b,o,rfl,hrow⟩:=hr (by omega)
  obtain ⟨es,hes,hc,ht⟩:=hrow i hi
  obtain ⟨h1,h2⟩:=ht.struct Tryz.underlying28
  match es,hes with
  | [x0,x1,x2,x3,x4],_ =>
   have s0:Tryz.prog.cellsOf 3=1:=by kernel_rfl
   have s1:Tryz.prog.cellsOf 25=1:=by kernel_rfl
   have s2:Tryz.prog.cellsOf 26=1:=by kernel_rfl
   have s3:Tryz.prog.cellsOf 9=1:=by kernel_rfl
   have t0:=h2 _ (by simp; exact .inl rfl)
   have t1:=h2 _ (by simp; exact .inr (.inl rfl))
   have t2:=h2 _ (by simp; exact .inr (.inr (.inl rfl)))
   have t3:=h2 _ (by simp; exact .inr (.inr (.inr (.inl rfl))))
   have t4:=h2 _ (by simp; exact .inr (.inr (.inr (.inr rfl))))
   simp only [s0,s1,s2,List.drop_zero,List.drop_succ_cons,List.take_succ_cons,List.take_zero] at t0 t1 t2 t3 t4
   obtain ⟨n0,e0,w0⟩:=Go.HL.TR.int (k:=.i64) Tryz.underlying3 t0
   obtain ⟨n4,e4,w4⟩:=Go.HL.TR.int (k:=.i64) Tryz.underlying3 t4
   have fstr:∀ x,Go.HL.TR enc Tryz.prog W 9 [x]→∃ y:Str,x=sv y∧y.length≤maxLen:=by
    intro x hx
    obtain ⟨s,e,hs⟩:=Go.HL.TR.string Tryz.underlying9 hx
    simp only [List.cons.injEq,and_true] at e
    subst e
    obtain ⟨y,rfl⟩:=bs_of s
    exact ⟨y,rfl,by rwa [bs_size] at hs⟩
   have fint:∀ x,Go.HL.TR enc Tryz.prog W 3 [x]→∃ y:Int,x=iv y∧True:=by
    intro x hx
    obtain ⟨s,e,hs⟩:=Go.HL.TR.int (k:=.i64) Tryz.underlying3 hx
    simp only [List.cons.injEq,and_true] at e
    exact ⟨s,e,trivial⟩
   obtain ⟨v1,l1,e1,r1,z1,p1,_⟩:=Go.HL.TR.rd Tryz.underlying25 s3 fstr t1
   obtain ⟨v2,l2,e2,r2,z2,_,_⟩:=Go.HL.TR.rd Tryz.underlying26 s0 fint t2
   obtain ⟨v3,l3,e3,r3,z3,_,k3⟩:=Go.HL.TR.rd Tryz.underlying26 s0 fint t3
   simp only [List.cons.injEq,and_true] at e0 e1 e2 e3 e4
   subst e0 e1 e2 e3 e4
   refine ⟨⟨⟨n0,l1,l2,l3,n4⟩,x1,x2,x3⟩,⟨b,o,rfl,?_⟩,⟨r1,r2,r3,k3⟩,z1,z2,z3,p1⟩
   intro j y hy
   have hj:j < 5:=(List.getElem?_eq_some_iff.1 hy).1
   have:=hc j hj
   rw [← Nat.add_assoc,this]
   exact hy
 obtain ⟨ans,g1,g2⟩:=list_of key
 subst g1
 have hat:∀ (i:Nat) n,(ans.map AN.n)[i]?=some n→∃ an,ans[i]?=some an∧an.n=n:=by
  intro i n hi
  rw [List.getElem?_map,Option.map_eq_some_iff] at hi
  exact hi
 refine ⟨ans.map AN.n,⟨ans,rfl,⟨a0,ans.length,cap0,rfl,flat_len anL ans,?_⟩,?_⟩,?_⟩
 ·intro i x hx
  have hil:=(List.getElem?_eq_some_iff.1 hx).1
  rw [flat_len anL] at hil
  have hq:i / 5 < ans.length:=by omega
  have hg:ans[i / 5]?=some ans[i / 5]:=by simp
  obtain ⟨⟨b,o,e,hc⟩,_⟩:=g2 (i / 5) _ hg
  refine ⟨b,o,e,trivial,?_⟩
  have h5:i=i / 5 * 5 + i % 5:=by omega
  have hx':=flat_get (f:=anC) anL (j:=i % 5) (by omega) ans (i / 5) _ hg
  rw [← h5,hx] at hx'
  rw [h5]
  exact hc _ _ hx'.symm
 ·intro an han
  obtain ⟨i,hi⟩:=List.getElem?_of_mem han
  exact (g2 i an hi).2.1
 ·refine ⟨by rw [List.length_map]; exact hl,?_,?_,?_,?_⟩
  ·intro i n hi
   obtain ⟨an,h1,rfl⟩:=hat i n hi
   exact (g2 i an h1).2.2.1
  ·intro i n hi
   obtain ⟨an,h1,rfl⟩:=hat i n hi
   exact (g2 i an h1).2.2.2.1
  ·intro i n hi
   obtain ⟨an,h1,rfl⟩:=hat i n hi
   exact (g2 i an h1).2.2.2.2.1
  ·intro i n hi
   obtain ⟨an,h1,rfl⟩:=hat i n hi
   exact (g2 i an h1).2.2.2.2.2
end Go.Proofs.YtcffdpmmadipeaaGreatDoor
