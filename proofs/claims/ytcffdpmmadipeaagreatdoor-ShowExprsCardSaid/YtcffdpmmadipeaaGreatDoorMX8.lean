/- Texts of this proof, put together: PrsA, PrsB, PrsC, PrsD, PrsE, EqR, EqS. The conditions of each theorem stand in it. -/
import Derived.Test.YtcffdpmmadipeaaGreatDoorMX3
import Derived.Test.YtcffdpmmadipeaaGreatDoorMX7
set_option linter.unusedSimpArgs false
set_option linter.unusedVariables false
namespace Go.HL
theorem callF_ext {P:Program} {f:FuncId} {fn:Func} {e:Array Value→Sem Value} {args:List Value} {H:Heap} {v:Value} {R:Value→Heap→Prop} {E:List PanicEntry→Heap→Prop}
  (hf:P.funcs[f]?=some fn) (hn:(fn.name == "runtime.NumGoroutine")=false) (hb:fn.body.isNone=true) (h1:(Extern.findNext fn).isNone=true) (h2:Extern.find fn=some e)
  (hq:qrun P (e args.toArray) H=some v) (hR:R v H):CallF P f args H R E:=by
 unfold CallF callFunc
 have h1':Extern.findNext fn=none:=by simpa using h1
 refine hwp_of_qrun P _ H (.value v) _ _ ?_ hR
 simp only [qrun_bind',program,qrun,hf,hn,hb,if_true,Bool.false_eq_true,if_false,mark,h1',h2,Option.bind_some,hq,pure]
end Go.HL
namespace Go.Proofs.YtcffdpmmadipeaaGreatDoor
open Go.HL
set_option maxRecDepth 10000
section
variable {H:Heap} {s:Str} {c:UInt8}
theorem xIBS_spec:CallF Tryz.prog 108 [sv s,u8v c] H (fun r H'=>H=H'∧∃ n,r=iv n) NoP:=by
 have e:∀ (b:ByteArray) (d:Int),Extern.BytealgIndexByte.indexByte #[.string b,.int .u8 d]=(match (List.range b.size).find? fun i=>b[i]! == d.toNat.toUInt8 with | some i=>pure (goInt i) | none=>pure (goInt (-1))):=fun b d=>rfl
 obtain ⟨v,hv,hn⟩:∃ v,qrun Tryz.prog (Extern.BytealgIndexByte.indexByte #[sv s,u8v c]) H=some v∧∃ n,v=iv n:=by
  rw [e]
  split
  ·exact ⟨_,rfl,_,rfl⟩
  ·exact ⟨_,rfl,_,rfl⟩
 exact callF_ext (e:=Extern.BytealgIndexByte.indexByte) Tryz.func108 rfl rfl rfl rfl hv ⟨rfl,hn⟩
theorem xIBl_spec:CallF Tryz.prog 104 [sv s,u8v c] H (fun r H'=>H=H'∧∃ n,r=iv n) NoP:=by
 refine callF_of Tryz.func104 rfl Tryz.ntmps104 Tryz.results104 (by decide) rfl ?_
 simp (disch:=omega) only [go_sem,↓cB,dB]
 refine call_to xIBS_spec ?_
 rintro _ _ ⟨rfl,n,rfl⟩
 simp (disch:=omega) only [go_sem,↓cB,dB]
 exact fin ⟨rfl,n,rfl⟩
theorem xIB_spec:CallF Tryz.prog 95 [sv s,u8v c] H (fun r H'=>H=H'∧∃ n,r=iv n) NoP:=by
 refine callF_of Tryz.func95 rfl Tryz.ntmps95 Tryz.results95 (by decide) rfl ?_
 simp (disch:=omega) only [go_sem,↓cB,dB]
 refine call_to xIBl_spec ?_
 rintro _ _ ⟨rfl,n,rfl⟩
 simp (disch:=omega) only [go_sem,↓cB,dB]
 exact fin ⟨rfl,n,rfl⟩
def ClsP (c:UInt8) (r:Value):Prop:=∃ n:Int,r=iv n∧(n=2↔letterM c=true)∧(n=3↔digitM c=true)∧(n=4↔c.toNat=95)
theorem cls_of {n:Int} (c:UInt8) (h1:n=2↔(65≤c.toNat∧c.toNat≤90∨97≤c.toNat∧c.toNat≤122)) (h2:n=3↔(48≤c.toNat∧c.toNat≤57)) (h3:n=4↔c.toNat=95):ClsP c (iv n):=by
 refine ⟨n,rfl,?_,?_,h3⟩
 ·unfold letterM; simp only [decide_eq_true_eq]; exact h1
 ·unfold digitM; simp only [decide_eq_true_eq]; exact h2
set_option maxHeartbeats 1000000 in
theorem lClass_spec:CallF Tryz.prog 84 [u8v c] H (fun r H'=>H=H'∧ClsP c r) NoP:=by
 refine callF_of Tryz.func84 rfl Tryz.ntmps84 Tryz.results84 (by decide) rfl ?_
 by_cases h1:65≤c.toNat∧c.toNat≤90
 ·simp (disch:=omega) only [go_sem,↓cB,dB]
  exact fin ⟨rfl,cls_of c (by omega) (by omega) (by omega)⟩
 by_cases h2:97≤c.toNat∧c.toNat≤122
 ·simp (disch:=omega) only [go_sem,↓cB,dB]
  exact fin ⟨rfl,cls_of c (by omega) (by omega) (by omega)⟩
 by_cases g1:65≤c.toNat <;> by_cases g2:97≤c.toNat <;> first | omega | skip
 all_goals
  by_cases h3:48≤c.toNat∧c.toNat≤57
  ·first
   | omega
   | (
     simp (disch:=omega) only [go_sem,↓cB,dB]
     exact fin ⟨rfl,cls_of c (by omega) (by omega) (by omega)⟩)
  by_cases h4:c.toNat=95
  ·first
   | omega
   | (
     by_cases g3:48≤c.toNat
     ·simp (disch:=omega) only [go_sem,↓cB,dB]
      exact fin ⟨rfl,cls_of c (by omega) (by omega) (by omega)⟩
     ·omega)
  by_cases g3:48≤c.toNat <;> first | omega | skip
  all_goals
   by_cases h5:c.toNat=32
   ·first
    | omega
    | (
      simp (disch:=omega) only [go_sem,↓cB,dB]
      exact fin ⟨rfl,cls_of c (by omega) (by omega) (by omega)⟩)
   by_cases h6:c.toNat=9
   ·first
    | omega
    | (
      simp (disch:=omega) only [go_sem,↓cB,dB]
      exact fin ⟨rfl,cls_of c (by omega) (by omega) (by omega)⟩)
   by_cases h7:c.toNat=13
   ·first
    | omega
    | (
      simp (disch:=omega) only [go_sem,↓cB,dB]
      exact fin ⟨rfl,cls_of c (by omega) (by omega) (by omega)⟩)
   by_cases h8:c.toNat=10
   ·first
    | omega
    | (
      simp (disch:=omega) only [go_sem,↓cB,dB]
      exact fin ⟨rfl,cls_of c (by omega) (by omega) (by omega)⟩)
   by_cases h9:c.toNat=38
   ·first
    | omega
    | (
      simp (disch:=omega) only [go_sem,↓cB,dB]
      exact fin ⟨rfl,cls_of c (by omega) (by omega) (by omega)⟩)
   by_cases h10:c.toNat=124
   ·first
    | omega
    | (
      simp (disch:=omega) only [go_sem,↓cB,dB]
      exact fin ⟨rfl,cls_of c (by omega) (by omega) (by omega)⟩)
   simp (disch:=omega) only [go_sem,↓cB,dB]
   refine call_to xIB_spec ?_
   rintro _ _ ⟨rfl,n,rfl⟩
   by_cases hn:0≤n
   ·simp (disch:=omega) only [go_sem,↓cB,dB]
    exact fin ⟨rfl,cls_of c (by omega) (by omega) (by omega)⟩
   ·simp (disch:=omega) only [go_sem,↓cB,dB]
    exact fin ⟨rfl,cls_of c (by omega) (by omega) (by omega)⟩
end
end Go.Proofs.YtcffdpmmadipeaaGreatDoor
namespace Go.Proofs.YtcffdpmmadipeaaGreatDoor
open Go.HL
set_option maxRecDepth 10000
section
variable {H:Heap} {s:Str} {c:UInt8}
set_option maxHeartbeats 4000000 in
theorem lKey_spec:CallF Tryz.prog 86 [sv s] H (fun r H'=>H=H'∧r=.bool (keyM s)) NoP:=by
 unfold keyM
 refine callF_of Tryz.func86 rfl Tryz.ntmps86 Tryz.results86 (by decide) rfl ?_
 by_cases h0:s = [99,104,97,110]
 ·have p0:decide (s = [99,104,97,110])=true:=by simp [h0]
  simp (disch:=omega) only [go_sem,↓cB,dB,p0]
  exact fin ⟨rfl,by rw [h0]; rfl⟩
 have d0:decide (s = [99,104,97,110])=false:=by simp [h0]
 by_cases h1:s = [111,102]
 ·have p1:decide (s = [111,102])=true:=by simp [h1]
  simp (disch:=omega) only [go_sem,↓cB,dB,d0,p1]
  exact fin ⟨rfl,by rw [h1]; rfl⟩
 have d1:decide (s = [111,102])=false:=by simp [h1]
 by_cases h2:s = [108,111,115,115,121]
 ·have p2:decide (s = [108,111,115,115,121])=true:=by simp [h2]
  simp (disch:=omega) only [go_sem,↓cB,dB,d0,d1,p2]
  exact fin ⟨rfl,by rw [h2]; rfl⟩
 have d2:decide (s = [108,111,115,115,121])=false:=by simp [h2]
 by_cases h3:s = [99,111,112,121,105,110,103]
 ·have p3:decide (s = [99,111,112,121,105,110,103])=true:=by simp [h3]
  simp (disch:=omega) only [go_sem,↓cB,dB,d0,d1,d2,p3]
  exact fin ⟨rfl,by rw [h3]; rfl⟩
 have d3:decide (s = [99,111,112,121,105,110,103])=false:=by simp [h3]
 by_cases h4:s = [118,97,114]
 ·have p4:decide (s = [118,97,114])=true:=by simp [h4]
  simp (disch:=omega) only [go_sem,↓cB,dB,d0,d1,d2,d3,p4]
  exact fin ⟨rfl,by rw [h4]; rfl⟩
 have d4:decide (s = [118,97,114])=false:=by simp [h4]
 by_cases h5:s = [112,114,111,99]
 ·have p5:decide (s = [112,114,111,99])=true:=by simp [h5]
  simp (disch:=omega) only [go_sem,↓cB,dB,d0,d1,d2,d3,d4,p5]
  exact fin ⟨rfl,by rw [h5]; rfl⟩
 have d5:decide (s = [112,114,111,99])=false:=by simp [h5]
 by_cases h6:s = [115,97,102,101]
 ·have p6:decide (s = [115,97,102,101])=true:=by simp [h6]
  simp (disch:=omega) only [go_sem,↓cB,dB,d0,d1,d2,d3,d4,d5,p6]
  exact fin ⟨rfl,by rw [h6]; rfl⟩
 have d6:decide (s = [115,97,102,101])=false:=by simp [h6]
 by_cases h7:s = [100,101,97,100,108,111,99,107]
 ·have p7:decide (s = [100,101,97,100,108,111,99,107])=true:=by simp [h7]
  simp (disch:=omega) only [go_sem,↓cB,dB,d0,d1,d2,d3,d4,d5,d6,p7]
  exact fin ⟨rfl,by rw [h7]; rfl⟩
 have d7:decide (s = [100,101,97,100,108,111,99,107])=false:=by simp [h7]
 by_cases h8:s = [115,101,110,100]
 ·have p8:decide (s = [115,101,110,100])=true:=by simp [h8]
  simp (disch:=omega) only [go_sem,↓cB,dB,d0,d1,d2,d3,d4,d5,d6,d7,p8]
  exact fin ⟨rfl,by rw [h8]; rfl⟩
 have d8:decide (s = [115,101,110,100])=false:=by simp [h8]
 by_cases h9:s = [114,101,99,118]
 ·have p9:decide (s = [114,101,99,118])=true:=by simp [h9]
  simp (disch:=omega) only [go_sem,↓cB,dB,d0,d1,d2,d3,d4,d5,d6,d7,d8,p9]
  exact fin ⟨rfl,by rw [h9]; rfl⟩
 have d9:decide (s = [114,101,99,118])=false:=by simp [h9]
 by_cases h10:s = [105,100,108,101]
 ·have p10:decide (s = [105,100,108,101])=true:=by simp [h10]
  simp (disch:=omega) only [go_sem,↓cB,dB,d0,d1,d2,d3,d4,d5,d6,d7,d8,d9,p10]
  exact fin ⟨rfl,by rw [h10]; rfl⟩
 have d10:decide (s = [105,100,108,101])=false:=by simp [h10]
 by_cases h11:s = [119,104,101,110]
 ·have p11:decide (s = [119,104,101,110])=true:=by simp [h11]
  simp (disch:=omega) only [go_sem,↓cB,dB,d0,d1,d2,d3,d4,d5,d6,d7,d8,d9,d10,p11]
  exact fin ⟨rfl,by rw [h11]; rfl⟩
 have d11:decide (s = [119,104,101,110])=false:=by simp [h11]
 by_cases h12:s = [99,104,111,111,115,101]
 ·have p12:decide (s = [99,104,111,111,115,101])=true:=by simp [h12]
  simp (disch:=omega) only [go_sem,↓cB,dB,d0,d1,d2,d3,d4,d5,d6,d7,d8,d9,d10,d11,p12]
  exact fin ⟨rfl,by rw [h12]; rfl⟩
 have d12:decide (s = [99,104,111,111,115,101])=false:=by simp [h12]
 by_cases h13:s = [111,114]
 ·have p13:decide (s = [111,114])=true:=by simp [h13]
  simp (disch:=omega) only [go_sem,↓cB,dB,d0,d1,d2,d3,d4,d5,d6,d7,d8,d9,d10,d11,d12,p13]
  exact fin ⟨rfl,by rw [h13]; rfl⟩
 have d13:decide (s = [111,114])=false:=by simp [h13]
 by_cases h14:s = [105,102]
 ·have p14:decide (s = [105,102])=true:=by simp [h14]
  simp (disch:=omega) only [go_sem,↓cB,dB,d0,d1,d2,d3,d4,d5,d6,d7,d8,d9,d10,d11,d12,d13,p14]
  exact fin ⟨rfl,by rw [h14]; rfl⟩
 have d14:decide (s = [105,102])=false:=by simp [h14]
 by_cases h15:s = [101,108,115,101]
 ·have p15:decide (s = [101,108,115,101])=true:=by simp [h15]
  simp (disch:=omega) only [go_sem,↓cB,dB,d0,d1,d2,d3,d4,d5,d6,d7,d8,d9,d10,d11,d12,d13,d14,p15]
  exact fin ⟨rfl,by rw [h15]; rfl⟩
 have d15:decide (s = [101,108,115,101])=false:=by simp [h15]
 by_cases h16:s = [119,104,105,108,101]
 ·have p16:decide (s = [119,104,105,108,101])=true:=by simp [h16]
  simp (disch:=omega) only [go_sem,↓cB,dB,d0,d1,d2,d3,d4,d5,d6,d7,d8,d9,d10,d11,d12,d13,d14,d15,p16]
  exact fin ⟨rfl,by rw [h16]; rfl⟩
 have d16:decide (s = [119,104,105,108,101])=false:=by simp [h16]
 by_cases h17:s = [97,116,111,109,105,99]
 ·have p17:decide (s = [97,116,111,109,105,99])=true:=by simp [h17]
  simp (disch:=omega) only [go_sem,↓cB,dB,d0,d1,d2,d3,d4,d5,d6,d7,d8,d9,d10,d11,d12,d13,d14,d15,d16,p17]
  exact fin ⟨rfl,by rw [h17]; rfl⟩
 have d17:decide (s = [97,116,111,109,105,99])=false:=by simp [h17]
 by_cases h18:s = [115,107,105,112]
 ·have p18:decide (s = [115,107,105,112])=true:=by simp [h18]
  simp (disch:=omega) only [go_sem,↓cB,dB,d0,d1,d2,d3,d4,d5,d6,d7,d8,d9,d10,d11,d12,d13,d14,d15,d16,d17,p18]
  exact fin ⟨rfl,by rw [h18]; rfl⟩
 have d18:decide (s = [115,107,105,112])=false:=by simp [h18]
 by_cases h19:s = [115,116,111,112]
 ·have p19:decide (s = [115,116,111,112])=true:=by simp [h19]
  simp (disch:=omega) only [go_sem,↓cB,dB,d0,d1,d2,d3,d4,d5,d6,d7,d8,d9,d10,d11,d12,d13,d14,d15,d16,d17,d18,p19]
  exact fin ⟨rfl,by rw [h19]; rfl⟩
 have d19:decide (s = [115,116,111,112])=false:=by simp [h19]
 by_cases h20:s = [108,101,110]
 ·have p20:decide (s = [108,101,110])=true:=by simp [h20]
  simp (disch:=omega) only [go_sem,↓cB,dB,d0,d1,d2,d3,d4,d5,d6,d7,d8,d9,d10,d11,d12,d13,d14,d15,d16,d17,d18,d19,p20]
  exact fin ⟨rfl,by rw [h20]; rfl⟩
 have d20:decide (s = [108,101,110])=false:=by simp [h20]
 simp (disch:=omega) only [go_sem,↓cB,dB,d0,d1,d2,d3,d4,d5,d6,d7,d8,d9,d10,d11,d12,d13,d14,d15,d16,d17,d18,d19,d20]
 refine fin ⟨rfl,?_⟩
 have:keysM.any (· == s)=false:=by
  rw [List.any_eq_false]
  intro x hx
  unfold keysM at hx
  simp only [List.mem_cons,List.not_mem_nil,or_false] at hx
  simp only [beq_iff_eq]
  rintro rfl
  rcases hx with hx | hx | hx | hx | hx | hx | hx | hx | hx | hx | hx | hx | hx | hx | hx | hx | hx | hx | hx | hx | hx <;> simp_all
 rw [this]
def fkM (c:UInt8):Nat→Bool
 | 0=>false
 | 1=>letterM c
 | 2=>letterM c || digitM c
 | _=>wordM c
theorem lSpan_spec {b:Nat} (hb:Blk H b 3 [iv 2,iv 3,iv 4]) (hl:s.length≤9223372036854775807) :
  CallF Tryz.prog 85 [sv s,.slice (some ⟨b,0,none⟩) 3 3] H (fun r H'=>H=H'∧∃ n:Nat,r=iv n∧(n=s.length↔s.all wordM=true)) NoP:=by
 have k0:=hb.cell 0
 have k1:=hb.cell 1
 have k2:=hb.cell 2
 simp only [gS,gZ] at k0 k1 k2
 refine callF_of Tryz.func85 rfl Tryz.ntmps85 Tryz.results85 (by decide) rfl ?_
 simp (disch:=omega) only [go_sem,↓cB,dB]
 refine loop_by (fun k ρ H2=>∃ i:Nat,k=s.length - i∧i≤s.length∧(s.take i).all wordM=true∧H=H2∧(ρ.get 0=sv s∧ρ.get 1=.slice (some ⟨b,0,none⟩) 3 3∧ρ.get 10=iv s.length∧ρ.get 11=iv i∧ρ.ds = [])) (k:=s.length) ?_ ?_
 ·exact ⟨0,rfl,by omega,by simp,rfl,by simp (disch:=omega) only [go_sem,↓cB,dB]⟩
 ·rintro k ρ _ ⟨i,rfl,hi,hall,rfl,r0,r1,r10,r11,rd⟩
  have hxi:(i:Int) + 1=((i + 1:Nat):Int):=by omega
  by_cases hin:i < s.length
  ·have hb8:=bt8_lt hin
   generalize hc:bt8 s i=c at *
   simp (disch:=omega) only [go_sem,↓cB,dB,r0,r1,r10,r11,rd]
   refine loop_by (fun m ρ H2=>∃ j:Nat,m=3 - j∧j≤3∧H=H2∧(ρ.get 0=sv s∧ρ.get 1=.slice (some ⟨b,0,none⟩) 3 3∧ρ.get 5=iv i∧ρ.get 6=.bool (fkM c j)∧ρ.get 10=iv s.length∧ρ.get 11=iv i∧ρ.get 14=.slice (some ⟨b,0,none⟩) 3 3∧ρ.get 15=iv ((3:Nat):Int)∧ρ.get 16=iv j∧ρ.ds = [])) (k:=3) ?_ ?_
   ·exact ⟨0,rfl,by omega,rfl,by simp (disch:=omega) only [go_sem,↓cB,dB,r0,r1,r10,r11,rd,fkM]⟩
   ·rintro m ρ _ ⟨j,rfl,hj,rfl,q0,q1,q5,q6,q10,q11,q14,q15,q16,qd⟩
    have hxj:(j:Int) + 1=((j + 1:Nat):Int):=by omega
    by_cases hj3:j < 3
    ·have hload:cellH H ⟨b,0 + j * 1,none⟩=some (iv ((j:Int) + 2)):=by
      match j,hj3 with
      | 0,_=>exact k0
      | 1,_=>exact k1
      | 2,_=>exact k2
     rw [Nat.mul_one,Nat.zero_add] at hload
     cases hf:fkM c j
     ·rw [hf] at q6
      simp (disch:=omega) only [go_sem,↓cB,dB,q0,q1,q5,q6,q10,q11,q14,q15,q16,qd,hload,hc]
      refine call_to lClass_spec ?_
      rintro _ _ ⟨rfl,n,rfl,n1,n2,n3⟩
      have hnext:decide (n=(j:Int) + 2)=fkM c (j + 1):=by
       match j,hj3,hf with
       | 0,_,_=>simp only [fkM]; rw [Bool.eq_iff_iff]; simp only [decide_eq_true_eq]; exact n1
       | 1,_,hf =>
        simp only [fkM] at hf ⊢
        rw [hf,Bool.false_or,Bool.eq_iff_iff]; simp only [decide_eq_true_eq]; exact n2
       | 2,_,hf =>
        simp only [fkM,Bool.or_eq_false_iff] at hf ⊢
        unfold wordM
        rw [hf.1,hf.2,Bool.false_or,Bool.false_or,Bool.eq_iff_iff]; simp only [decide_eq_true_eq]; exact n3
      simp (disch:=omega) only [go_sem,↓cB,dB,q0,q1,q5,q6,q10,q11,q14,q15,q16,qd,hnext]
      exact fin ⟨3 - (j + 1),by omega,j + 1,rfl,by omega,rfl,by simp (disch:=omega) only [go_sem,↓cB,dB,q0,q1,q5,q6,q10,q11,q14,q15,q16,qd,hxj]⟩
     ·rw [hf] at q6
      have hnext:fkM c (j + 1)=true:=by
       match j,hj3,hf with
       | 0,_,hf=>simp [fkM] at hf
       | 1,_,hf=>simp only [fkM] at hf ⊢; rw [hf]; rfl
       | 2,_,hf=>simp only [fkM] at hf ⊢; unfold wordM; rw [hf]; rfl
      simp (disch:=omega) only [go_sem,↓cB,dB,q0,q1,q5,q6,q10,q11,q14,q15,q16,qd,hload]
      exact fin ⟨3 - (j + 1),by omega,j + 1,rfl,by omega,rfl,by rw [hnext]; simp (disch:=omega) only [go_sem,↓cB,dB,q0,q1,q5,q6,q10,q11,q14,q15,q16,qd,hxj]⟩
    ·obtain rfl:j=3:=by omega
     have hw3:fkM c 3=wordM c:=rfl
     rw [hw3] at q6
     cases hw:wordM c
     ·rw [hw] at q6
      simp (disch:=omega) only [go_sem,↓cB,dB,q0,q1,q5,q6,q10,q11,q14,q15,q16,qd]
      refine fin ⟨rfl,i,rfl,⟨fun e=>by omega,fun e=>?_⟩⟩
      have:=List.all_eq_true.1 e c (List.mem_of_getElem? hb8)
      rw [hw] at this
      exact absurd this (by simp)
     ·rw [hw] at q6
      simp (disch:=omega) only [go_sem,↓cB,dB,q0,q1,q5,q6,q10,q11,q14,q15,q16,qd]
      refine fin ⟨s.length - (i + 1),by omega,i + 1,rfl,by omega,?_,rfl,by simp (disch:=omega) only [go_sem,↓cB,dB,q0,q1,q5,q6,q10,q11,q14,q15,q16,qd,hxi]⟩
      rw [List.take_add_one,hb8,List.all_append,hall]
      simp [hw]
  ·obtain rfl:i=s.length:=by omega
   rw [List.take_length] at hall
   simp (disch:=omega) only [go_sem,↓cB,dB,r0,r1,r10,r11,rd]
   exact fin ⟨rfl,s.length,rfl,by simp [hall]⟩
theorem lName_spec (hl:s.length≤9223372036854775807):CallF Tryz.prog 73 [sv s] H (fun r H'=>Fr [] H H'∧r=.bool (nameM s)) NoP:=by
 unfold nameM
 refine callF_of Tryz.func73 rfl Tryz.ntmps73 Tryz.results73 (by decide) rfl ?_
 by_cases hne:s = []
 ·have d0:decide (¬ s = [])=false:=by simp [hne]
  simp (disch:=omega) only [go_sem,↓cB,dB,d0]
  exact fin ⟨Fr.refl _ _,by simp [hne]⟩
 have d0:decide (¬ s = [])=true:=by simp [hne]
 have hpos:0 < s.length:=List.length_pos_iff.2 hne
 by_cases h1:s.length≤12
 rotate_left
 ·simp (disch:=omega) only [go_sem,↓cB,dB,d0]
  exact fin ⟨Fr.refl _ _,by simp [h1]⟩
 simp (disch:=omega) only [go_sem,↓cB,dB,d0]
 refine call_to lClass_spec ?_
 rintro _ _ ⟨rfl,n,rfl,n1,n2,n3⟩
 cases h2:letterM (bt8 s 0)
 ·have hn:¬ n=2:=fun e=>by rw [n1] at e; rw [h2] at e; simp at e
  simp (disch:=omega) only [go_sem,↓cB,dB]
  exact fin ⟨Fr.refl _ _,by simp⟩
 have hn:n=2:=n1.2 h2
 subst hn
 simp (disch:=omega) only [go_sem,↓cB,dB]
 have hb:Blk (H.push (.cells #[iv 2,iv 3,iv 4] 3)) H.size 3 [iv 2,iv 3,iv 4]:=Blk.new rfl
 refine call_to (lSpan_spec hb hl) ?_
 intro v H5 hv
 refine Hush.out ?_
 obtain ⟨rfl,m,rfl,hm⟩:=hv
 by_cases h3:m=s.length
 rotate_left
 ·have hf:s.all wordM=false:=by
   cases hq:s.all wordM
   ·rfl
   ·exact absurd (hm.2 hq) h3
  have h3':¬ ((m:Int)=(s.length:Int)):=by omega
  refine ⟨?_⟩
  simp (disch:=omega) only [go_sem,↓cB,dB]
  exact fin ⟨Fr.push,by simp only [hf,Bool.and_false]⟩
 have hf:=hm.1 h3
 refine ⟨?_⟩
 simp (disch:=omega) only [go_sem,↓cB,dB,h3]
 refine call_to lKey_spec ?_
 rintro _ _ ⟨rfl,rfl⟩
 simp (disch:=omega) only [go_sem,↓cB,dB]
 refine fin ⟨Fr.push,?_⟩
 have e1:decide (s.length ≠ 0∧s.length≤12)=true:=by simp; exact ⟨hne,h1⟩
 simp only [hf,e1,h2,Bool.true_and,Bool.and_true]
end
end Go.Proofs.YtcffdpmmadipeaaGreatDoor
namespace Go.Proofs.YtcffdpmmadipeaaGreatDoor
open Go.HL
set_option maxRecDepth 10000
def sortM (k:Int):Int:=if inB k 1 5 then 1 else if inB k 6 15 then 2 else if inB k 17 22 then 3 else if k=16 then 4 else 0
def pAllM (ks:List Int) (s:Int):Bool:=allR ks.length (fun i=>decide (sortM (ks.getD i 0)=s))
def areM (ks ss:List Int):Bool:=decide (ks.length=ss.length) && allR ss.length (fun i=>decide (sortM (ks.getD i 0)=ss.getD i 0))
def prC (p:Int × Int):List Value:=[iv p.1,iv p.2]
theorem prL (p:Int × Int):(prC p).length=2:=rfl
def withinM (us:List Int) (bs:List (Int × Int)):Bool:=decide (us.length=bs.length) && allR bs.length (fun i=>decide ((bs.getD i (0,0)).1≤us.getD i 0) && decide (us.getD i 0≤(bs.getD i (0,0)).2))
section
variable {H:Heap} {S:Nat→Prop} {v:Value} {ks:List Int}
set_option maxHeartbeats 2000000 in
theorem pgSort_spec {k:Int}:CallF Tryz.prog 87 [iv k] H (fun r H'=>H=H'∧r=iv (sortM k)) NoP:=by
 refine callF_of Tryz.func87 rfl Tryz.ntmps87 Tryz.results87 (by decide) rfl ?_
 by_cases e1:k=1
 ·subst e1
  simp (disch:=omega) only [go_sem,↓cB,dB]
  exact fin ⟨rfl,rfl⟩
 by_cases e2:k=2
 ·subst e2
  simp (disch:=omega) only [go_sem,↓cB,dB]
  exact fin ⟨rfl,rfl⟩
 by_cases e3:k=3
 ·subst e3
  simp (disch:=omega) only [go_sem,↓cB,dB]
  exact fin ⟨rfl,rfl⟩
 by_cases e4:k=4
 ·subst e4
  simp (disch:=omega) only [go_sem,↓cB,dB]
  exact fin ⟨rfl,rfl⟩
 by_cases e5:k=5
 ·subst e5
  simp (disch:=omega) only [go_sem,↓cB,dB]
  exact fin ⟨rfl,rfl⟩
 by_cases e6:k=6
 ·subst e6
  simp (disch:=omega) only [go_sem,↓cB,dB]
  exact fin ⟨rfl,rfl⟩
 by_cases e7:k=7
 ·subst e7
  simp (disch:=omega) only [go_sem,↓cB,dB]
  exact fin ⟨rfl,rfl⟩
 by_cases e8:k=8
 ·subst e8
  simp (disch:=omega) only [go_sem,↓cB,dB]
  exact fin ⟨rfl,rfl⟩
 by_cases e9:k=9
 ·subst e9
  simp (disch:=omega) only [go_sem,↓cB,dB]
  exact fin ⟨rfl,rfl⟩
 by_cases e10:k=10
 ·subst e10
  simp (disch:=omega) only [go_sem,↓cB,dB]
  exact fin ⟨rfl,rfl⟩
 by_cases e11:k=11
 ·subst e11
  simp (disch:=omega) only [go_sem,↓cB,dB]
  exact fin ⟨rfl,rfl⟩
 by_cases e12:k=12
 ·subst e12
  simp (disch:=omega) only [go_sem,↓cB,dB]
  exact fin ⟨rfl,rfl⟩
 by_cases e13:k=13
 ·subst e13
  simp (disch:=omega) only [go_sem,↓cB,dB]
  exact fin ⟨rfl,rfl⟩
 by_cases e14:k=14
 ·subst e14
  simp (disch:=omega) only [go_sem,↓cB,dB]
  exact fin ⟨rfl,rfl⟩
 by_cases e15:k=15
 ·subst e15
  simp (disch:=omega) only [go_sem,↓cB,dB]
  exact fin ⟨rfl,rfl⟩
 by_cases e16:k=16
 ·subst e16
  simp (disch:=omega) only [go_sem,↓cB,dB]
  exact fin ⟨rfl,rfl⟩
 by_cases e17:k=17
 ·subst e17
  simp (disch:=omega) only [go_sem,↓cB,dB]
  exact fin ⟨rfl,rfl⟩
 by_cases e18:k=18
 ·subst e18
  simp (disch:=omega) only [go_sem,↓cB,dB]
  exact fin ⟨rfl,rfl⟩
 by_cases e19:k=19
 ·subst e19
  simp (disch:=omega) only [go_sem,↓cB,dB]
  exact fin ⟨rfl,rfl⟩
 by_cases e20:k=20
 ·subst e20
  simp (disch:=omega) only [go_sem,↓cB,dB]
  exact fin ⟨rfl,rfl⟩
 by_cases e21:k=21
 ·subst e21
  simp (disch:=omega) only [go_sem,↓cB,dB]
  exact fin ⟨rfl,rfl⟩
 by_cases e22:k=22
 ·subst e22
  simp (disch:=omega) only [go_sem,↓cB,dB]
  exact fin ⟨rfl,rfl⟩
 simp (disch:=omega) only [go_sem,↓cB,dB]
 refine fin ⟨rfl,?_⟩
 unfold sortM inB
 rw [if_neg (by simp; omega),if_neg (by simp; omega),if_neg (by simp; omega),if_neg (by omega)]
theorem pgAll_spec (h:Rd H S 1 v (ks.map iv)) (hl:ks.length≤9223372036854775807) {s:Int}:CallF Tryz.prog 75 [v,iv s] H (fun r H'=>H=H'∧r=.bool (pAllM ks s)) NoP:=by
 obtain ⟨av,cv,rfl⟩:=h.len1
 unfold pAllM
 refine callF_of Tryz.func75 rfl Tryz.ntmps75 Tryz.results75 (by decide) rfl ?_
 simp (disch:=omega) only [go_sem,↓cB,dB]
 refine loop_by (fun k ρ H2=>∃ i:Nat,k=ks.length - i∧i≤ks.length∧(∀ j,j < i→decide (sortM (ks.getD j 0)=s)=true)∧H=H2∧(ρ.get 1=iv s∧ρ.get 7=.slice av ks.length cv∧ρ.get 8=iv ks.length∧ρ.get 9=iv i∧ρ.ds = [])) (k:=ks.length) ?_ ?_
 ·exact ⟨0,rfl,by omega,by omega,rfl,by simp (disch:=omega) only [go_sem,↓cB,dB]⟩
 ·rintro k ρ _ ⟨i,rfl,hi,hall,rfl,r1,r7,r8,r9,rd⟩
  have hxi:(i:Int) + 1=((i + 1:Nat):Int):=by omega
  by_cases hin:i < ks.length
  ·have hg:=getD_some (d:=(0:Int)) hin
   obtain ⟨b,o,cap,q1,-,q2⟩:=h.at1 hg
   simp only [Value.slice.injEq,true_and] at q1
   obtain ⟨rfl,rfl⟩:=q1
   simp (disch:=omega) only [go_sem,↓cB,dB,r1,r7,r8,r9,rd,q2]
   refine call_to pgSort_spec ?_
   rintro _ _ ⟨rfl,rfl⟩
   by_cases hs:sortM (ks.getD i 0)=s
   ·simp (disch:=omega) only [go_sem,↓cB,dB,r1,r7,r8,r9,rd,hs]
    refine fin ⟨ks.length - (i + 1),by omega,i + 1,rfl,by omega,?_,rfl,by simp (disch:=omega) only [go_sem,↓cB,dB,r1,r7,r8,r9,rd,hxi]⟩
    intro j hj
    by_cases e:j=i
    ·subst e; simpa using hs
    ·exact hall j (by omega)
   ·simp (disch:=omega) only [go_sem,↓cB,dB,r1,r7,r8,r9,rd]
    refine fin ⟨rfl,?_⟩
    rw [allR_false hin (by simpa using hs)]
  ·obtain rfl:i=ks.length:=by omega
   simp (disch:=omega) only [go_sem,↓cB,dB,r1,r7,r8,r9,rd]
   refine fin ⟨rfl,?_⟩
   rw [allR_true hall]
theorem pgAre_spec {w:Value} {ss:List Int} {S':Nat→Prop} (h:Rd H S 1 v (ks.map iv)) (hs:Rd H S' 1 w (ss.map iv)) (hl:ks.length≤9223372036854775807) (hl':ss.length≤1000):CallF Tryz.prog 76 [v,w] H (fun r H'=>H=H'∧r=.bool (areM ks ss)) NoP:=by
 obtain ⟨av,cv,rfl⟩:=h.len1
 obtain ⟨aw,cw,rfl⟩:=hs.len1
 unfold areM
 refine callF_of Tryz.func76 rfl Tryz.ntmps76 Tryz.results76 (by decide) rfl ?_
 by_cases hlen:ks.length=ss.length
 rotate_left
 ·have hlen':¬ ((ks.length:Int)=(ss.length:Int)):=by omega
  simp (disch:=omega) only [go_sem,↓cB,dB]
  exact fin ⟨rfl,by simp [hlen]⟩
 simp (disch:=omega) only [go_sem,↓cB,dB,hlen]
 rw [decide_yes hlen,Bool.true_and]
 refine loop_by (fun k ρ H2=>∃ i:Nat,k=ss.length - i∧i≤ss.length∧(∀ j,j < i→decide (sortM (ks.getD j 0)=ss.getD j 0)=true)∧H=H2∧(ρ.get 0=.slice av ss.length cv∧ρ.get 12=.slice aw ss.length cw∧ρ.get 13=iv ss.length∧ρ.get 14=iv i∧ρ.ds = [])) (k:=ss.length) ?_ ?_
 ·exact ⟨0,rfl,by omega,by omega,rfl,by simp (disch:=omega) only [go_sem,↓cB,dB,hlen]⟩
 ·rintro k ρ _ ⟨i,rfl,hi,hall,rfl,r0,r12,r13,r14,rd⟩
  have hxi:(i:Int) + 1=((i + 1:Nat):Int):=by omega
  by_cases hin:i < ss.length
  ·have hg:=getD_some (l:=ks) (i:=i) (d:=(0:Int)) (by omega)
   obtain ⟨b,o,cap,q1,-,q2⟩:=h.at1 hg
   simp only [Value.slice.injEq,true_and] at q1
   obtain ⟨rfl,rfl⟩:=q1
   have hg':=getD_some (d:=(0:Int)) hin
   obtain ⟨b',o',cap',p1,-,p2⟩:=hs.at1 hg'
   simp only [Value.slice.injEq,true_and] at p1
   obtain ⟨rfl,rfl⟩:=p1
   simp (disch:=omega) only [go_sem,↓cB,dB,r0,r12,r13,r14,rd,q2,p2]
   refine call_to pgSort_spec ?_
   rintro _ _ ⟨rfl,rfl⟩
   by_cases hq:sortM (ks.getD i 0)=ss.getD i 0
   ·simp (disch:=omega) only [go_sem,↓cB,dB,r0,r12,r13,r14,rd,hq]
    refine fin ⟨ss.length - (i + 1),by omega,i + 1,rfl,by omega,?_,rfl,by simp (disch:=omega) only [go_sem,↓cB,dB,r0,r12,r13,r14,rd,hxi]⟩
    intro j hj
    by_cases e:j=i
    ·subst e; simpa using hq
    ·exact hall j (by omega)
   ·simp (disch:=omega) only [go_sem,↓cB,dB,r0,r12,r13,r14,rd]
    refine fin ⟨rfl,?_⟩
    rw [allR_false hin (by simpa using hq)]
  ·obtain rfl:i=ss.length:=by omega
   simp (disch:=omega) only [go_sem,↓cB,dB,r0,r12,r13,r14,rd]
   refine fin ⟨rfl,?_⟩
   rw [allR_true hall]
theorem pgWithin_spec {w:Value} {us:List Int} {bs:List (Int × Int)} {S':Nat→Prop} (h:Rd H S 1 v (us.map iv)) (hs:Rd H S' 2 w (bs.flatMap prC)) (hl':bs.length≤1000):CallF Tryz.prog 74 [v,w] H (fun r H'=>Fr [] H H'∧r=.bool (withinM us bs)) NoP:=by
 obtain ⟨av,cv,rfl⟩:=h.len1
 obtain ⟨aw,cw,rfl⟩:=hs.len prL (by decide)
 unfold withinM
 refine callF_of Tryz.func74 rfl Tryz.ntmps74 Tryz.results74 (by decide) rfl ?_
 by_cases hlen:us.length=bs.length
 rotate_left
 ·have hlen':¬ ((us.length:Int)=(bs.length:Int)):=by omega
  simp (disch:=omega) only [go_sem,↓cB,dB]
  exact fin ⟨Fr.refl _ _,by simp [hlen]⟩
 simp (disch:=omega) only [go_sem,↓cB,dB,hlen]
 rw [decide_yes hlen,Bool.true_and]
 refine loop_by (fun k ρ H2=>∃ i:Nat,k=bs.length - i∧i≤bs.length∧(∀ j,j < i→(decide ((bs.getD j (0,0)).1≤us.getD j 0) && decide (us.getD j 0≤(bs.getD j (0,0)).2))=true)∧Fr [] H H2∧(ρ.get 0=.slice av bs.length cv∧ρ.get 12=.slice aw bs.length cw∧ρ.get 13=iv bs.length∧ρ.get 14=iv i∧ρ.ds = [])) (k:=bs.length) ?_ ?_
 ·exact ⟨0,rfl,by omega,by omega,Fr.refl _ _,by simp (disch:=omega) only [go_sem,↓cB,dB,hlen]⟩
 ·rintro k ρ H2 ⟨i,rfl,hi,hall,fr2,r0,r12,r13,r14,rd⟩
  have hxi:(i:Int) + 1=((i + 1:Nat):Int):=by omega
  by_cases hin:i < bs.length
  ·have hg':=getD_some (d:=((0,0):Int × Int)) hin
   generalize hy:bs.getD i (0,0)=y at *
   have hg:=getD_some (l:=us) (i:=i) (d:=(0:Int)) (by omega)
   generalize hx:us.getD i 0=x at *
   obtain ⟨b',o',cap',p1,-,p2,-⟩:=(hs.frame (Keeps.of_fr fr2 (by simp))).row prL (by decide) hg'
   simp only [Value.slice.injEq,true_and] at p1
   obtain ⟨rfl,rfl⟩:=p1
   have f3:Fr [] H2 (H2.push (.cells #[iv y.1,iv y.2] 102)):=Fr.push
   obtain ⟨b,o,cap,q1,-,q2⟩:=(h.frame (Keeps.of_fr (fr2.trans f3) (by simp))).at1 hg
   simp only [Value.slice.injEq,true_and] at q1
   obtain ⟨rfl,rfl⟩:=q1
   simp only [prC] at p2
   by_cases h1:y.1≤x
   ·by_cases h2:x≤y.2
    ·simp (disch:=omega) only [go_sem,↓cB,dB,r0,r12,r13,r14,rd,p2]
     refine draw0 (lk [(0,true),(1,true),(2,true),(3,true),(4,true),(5,true),(6,true),(7,true),(8,true),(9,true),(10,true),(11,true),(12,true),(13,true),(14,true),(15,true)] .fin) T.mixed ?_
     simp (disch:=omega) only [go_sem,↓cB,dB,r0,r12,r13,r14,rd,q2]
     refine fin ⟨bs.length - (i + 1),by omega,i + 1,rfl,by omega,?_,fr2.trans f3,by simp (disch:=omega) only [go_sem,↓cB,dB,r0,r12,r13,r14,rd,hxi]⟩
     intro j hj
     by_cases e:j=i
     ·subst e; rw [hx,hy]; simp [h1,h2]
     ·exact hall j (by omega)
    ·simp (disch:=omega) only [go_sem,↓cB,dB,r0,r12,r13,r14,rd,p2]
     refine draw0 (lk [(0,true),(1,true),(2,true),(3,true),(4,true),(5,true),(6,true),(7,true),(8,true),(9,true),(10,true),(11,true),(12,true),(13,true),(14,true),(15,true)] .fin) T.mixed ?_
     simp (disch:=omega) only [go_sem,↓cB,dB,r0,r12,r13,r14,rd,q2]
     refine fin ⟨fr2.trans f3,?_⟩
     rw [allR_false hin (by rw [hx,hy]; simp [h2])]
   ·simp (disch:=omega) only [go_sem,↓cB,dB,r0,r12,r13,r14,rd,p2]
    refine draw0 (lk [(0,true),(1,true),(2,true),(3,true),(4,true),(5,true),(6,true),(7,true),(8,true),(9,true),(10,true),(11,true),(12,true),(13,true),(14,true),(15,true)] .fin) T.mixed ?_
    simp (disch:=omega) only [go_sem,↓cB,dB,r0,r12,r13,r14,rd,q2]
    refine fin ⟨fr2.trans f3,?_⟩
    rw [allR_false hin (by rw [hx,hy]; simp [h1])]
  ·obtain rfl:i=bs.length:=by omega
   simp (disch:=omega) only [go_sem,↓cB,dB,r0,r12,r13,r14,rd]
   refine fin ⟨fr2,?_⟩
   rw [allR_true hall]
end
end Go.Proofs.YtcffdpmmadipeaaGreatDoor
namespace Go.Proofs.YtcffdpmmadipeaaGreatDoor
open Go.HL
set_option maxRecDepth 10000
def wcount (k:Int):Nat:=if k=1∨k=2∨k=3∨k=6∨k=7∨k=18∨k=19 then 1 else if k=8 then 2 else 0
def bnds (k:Int):List (Int × Int) :=
 if k=1 then [(0,999999),(0,999999),(0,1),(0,1)] else if k=2 then [(0,999999),(-999999,999999)] else if k=3∨k=17 then [(0,999999)]
 else if k=8∨k=9∨k=10 then [(0,1)] else if k=22 then [(0,8)] else []
def kidsM (k:Int) (ks:List Int):Bool :=
 if k=0 then pAllM ks 1 else if k=3 then pAllM (ks.dropWhile fun x=>decide (x=2)) 2 else if k=16 then pAllM ks 2 else if k=10 then decide (0 < ks.length) && pAllM ks 4
 else if k=11 then areM ks [3,4] || areM ks [3,4,4] else if k=12 then areM ks [3,4] else if k=13 then areM ks [4]
 else if k=4∨k=6∨k=7∨k=9∨k=20∨k=21 then areM ks [3] else if k=22 then areM ks [3,3]
 else if k=1∨k=2∨k=5∨k=8∨k=14∨k=15∨k=17∨k=18∨k=19 then decide (ks.length=0) else false
section
variable {H:Heap} {S:Nat→Prop} {v:Value} {a:AN} {ks:List Int}
theorem Rd.blk {b t z len c:Nat} {vs:List Value} (hb:Blk H b t vs) (hl:vs.length=len * z):Rd H (fun _=>True) z (.slice (some ⟨b,0,none⟩) len c) vs :=
 ⟨_,_,_,rfl,hl,fun i x hx=>⟨b,0,rfl,trivial,by rw [Nat.zero_add,hb.cell]; exact hx⟩⟩
set_option maxHeartbeats 2000000 in
theorem pgWords_spec (ha:AR H S a) (hl:a.n.words.length≤9223372036854775807) (hw:∀ w ∈ a.n.words,w.length≤9223372036854775807) :
  CallF Tryz.prog 56 [anV a] H (fun r H'=>Fr [] H H'∧r=.bool (wordsM a.n (wcount a.n.kind))) NoP:=by
 obtain ⟨n,x1,c1,x2,c2,x3,c3,rfl⟩:=ha.open
 obtain ⟨G,hG⟩:∃ G,G=H.push (.cells #[iv n.kind,.slice x1 n.words.length c1,.slice x2 n.nums.length c2,.slice x3 n.kids.length c3,iv n.pos] 28):=⟨_,rfl⟩
 have f0:Fr [] H G:=by rw [hG]; exact Fr.push
 have hb:Blk G H.size 28 [iv n.kind,.slice x1 n.words.length c1,.slice x2 n.nums.length c2,.slice x3 n.kids.length c3,iv n.pos]:=by rw [hG]; exact Blk.new rfl
 have ar0:=ha.frame (Keeps.of_fr f0 (by simp))
 simp only at hl hw
 unfold wordsM
 refine callF_of Tryz.func56 rfl Tryz.ntmps56 Tryz.results56 (by decide) rfl ?_
 simp (disch:=omega) only [go_sem,dB,anV]
 rw [← hG]
 refine cut_at (fun ρ H2=>G=H2∧(ρ.get 1=hp H.size∧ρ.get 3=iv (wcount n.kind)∧ρ.ds = [])) ?_ ?_
 ·unfold wcount
  by_cases e1:n.kind=1
  ·rw [e1]
   simp (disch:=omega) only [go_sem,↓cB,dB]
   exact fin ⟨rfl,by (simp (disch:=omega) only [go_sem,↓cB,dB]) <;> simp⟩
  by_cases e2:n.kind=2
  ·rw [e2]
   simp (disch:=omega) only [go_sem,↓cB,dB]
   exact fin ⟨rfl,by (simp (disch:=omega) only [go_sem,↓cB,dB]) <;> simp⟩
  by_cases e3:n.kind=3
  ·rw [e3]
   simp (disch:=omega) only [go_sem,↓cB,dB]
   exact fin ⟨rfl,by (simp (disch:=omega) only [go_sem,↓cB,dB]) <;> simp⟩
  by_cases e6:n.kind=6
  ·rw [e6]
   simp (disch:=omega) only [go_sem,↓cB,dB]
   exact fin ⟨rfl,by (simp (disch:=omega) only [go_sem,↓cB,dB]) <;> simp⟩
  by_cases e7:n.kind=7
  ·rw [e7]
   simp (disch:=omega) only [go_sem,↓cB,dB]
   exact fin ⟨rfl,by (simp (disch:=omega) only [go_sem,↓cB,dB]) <;> simp⟩
  by_cases e18:n.kind=18
  ·rw [e18]
   simp (disch:=omega) only [go_sem,↓cB,dB]
   exact fin ⟨rfl,by (simp (disch:=omega) only [go_sem,↓cB,dB]) <;> simp⟩
  by_cases e19:n.kind=19
  ·rw [e19]
   simp (disch:=omega) only [go_sem,↓cB,dB]
   exact fin ⟨rfl,by (simp (disch:=omega) only [go_sem,↓cB,dB]) <;> simp⟩
  by_cases e8:n.kind=8
  ·rw [e8]
   simp (disch:=omega) only [go_sem,↓cB,dB]
   exact fin ⟨rfl,by (simp (disch:=omega) only [go_sem,↓cB,dB]) <;> simp⟩
  rw [if_neg (by omega),if_neg (by omega)]
  simp (disch:=omega) only [go_sem,↓cB,dB]
  exact fin ⟨rfl,by (simp (disch:=omega) only [go_sem,↓cB,dB]) <;> simp⟩
 rintro ρ _ ⟨rfl,s1,s3,sd⟩
 have k1':=hb.cell 1
 simp only [gS,gZ] at k1'
 simp (disch:=omega) only [go_sem,↓cB,dB,s1,s3,sd,k1']
 refine loop_by (fun k ρ H2=>∃ i:Nat,k=n.words.length - i∧i≤n.words.length∧(∀ j,j < i→nameM (n.words.getD j [])=true)∧Fr [] G H2∧(ρ.get 1=hp H.size∧ρ.get 3=iv (wcount n.kind)∧ρ.get 19=.slice x1 n.words.length c1∧ρ.get 20=iv n.words.length∧ρ.get 21=iv i∧ρ.ds = [])) (k:=n.words.length) ?_ ?_
 ·exact ⟨0,rfl,by omega,by omega,Fr.refl _ _,by simp (disch:=omega) only [go_sem,↓cB,dB,s1,s3,sd]⟩
 ·rintro k ρ H2 ⟨i,rfl,hi,hall,fr2,r1,r3,r19,r20,r21,rd⟩
  have hb2:=fr2.blk hb (by simp)
  have ld2:=hb2.cells0
  simp only [List.length_cons,List.length_nil] at ld2
  have k0:=hb2.cell 0
  have k1:=hb2.cell 1
  have k2:=hb2.cell 2
  have k3:=hb2.cell 3
  simp only [gS,gZ] at k0 k1 k2 k3
  have hxi:(i:Int) + 1=((i + 1:Nat):Int):=by omega
  by_cases hin:i < n.words.length
  ·have hg:=getD_some (d:=([]:Str)) hin
   have hwi:=hw _ (List.mem_of_getElem? hg)
   obtain ⟨b,o,cap,q1,-,q2⟩:=(ar0.w.frame (Keeps.of_fr fr2 (by simp))).at1 hg
   simp only [Value.slice.injEq,true_and] at q1
   obtain ⟨rfl,rfl⟩:=q1
   simp (disch:=omega) only [go_sem,↓cB,dB,r1,r3,r19,r20,r21,rd,q2]
   refine call_to (lName_spec hwi) ?_
   intro v5 H5 hv
   refine Hush.out ?_
   obtain ⟨fr5,rfl⟩:=hv
   cases hn:nameM (n.words.getD i [])
   ·refine ⟨?_⟩
    simp (disch:=omega) only [go_sem,↓cB,dB,r1,r3,r19,r20,r21,rd]
    refine fin ⟨(f0.trans fr2).trans fr5,?_⟩
    rw [allR_false hin hn]; rfl
   ·refine ⟨?_⟩
    simp (disch:=omega) only [go_sem,↓cB,dB,r1,r3,r19,r20,r21,rd]
    refine fin ⟨n.words.length - (i + 1),by omega,i + 1,rfl,by omega,?_,fr2.trans fr5,by simp (disch:=omega) only [go_sem,↓cB,dB,r1,r3,r19,r20,r21,rd,hxi]⟩
    intro j hj
    by_cases e:j=i
    ·subst e; exact hn
    ·exact hall j (by omega)
  ·obtain rfl:i=n.words.length:=by omega
   simp (disch:=omega) only [go_sem,↓cB,dB,r1,r3,r19,r20,r21,rd,k1]
   refine fin ⟨f0.trans fr2,?_⟩
   rw [allR_true hall]
   have e:((n.words.length:Int)=(wcount n.kind:Int))↔(n.words.length=wcount n.kind):=by omega
   simp [e]
set_option maxHeartbeats 2000000 in
theorem pgNumbers_spec (ha:AR H S a):CallF Tryz.prog 57 [anV a] H (fun r H'=>Fr [] H H'∧r=.bool (withinM a.n.nums (bnds a.n.kind))) NoP:=by
 obtain ⟨⟨kind,words,nums,kids,pos⟩,x1,c1,x2,c2,x3,c3,rfl⟩:=ha.open
 obtain ⟨A0,hA0⟩:∃ A,A=H.push (.cells #[iv kind,.slice x1 words.length c1,.slice x2 nums.length c2,.slice x3 kids.length c3,iv pos] 28):=⟨_,rfl⟩
 obtain ⟨A1,hA1⟩:∃ A,A=A0.push (.cells #[iv 0,iv 0] 102):=⟨_,rfl⟩
 obtain ⟨A2,hA2⟩:∃ A,A=A1.push (.cells #[iv 0,iv 0] 102):=⟨_,rfl⟩
 have z0:A0.size=H.size + 1:=by rw [hA0]; simp
 have z1:A1.size=A0.size + 1:=by rw [hA1]; simp
 have g0:Fr [] H A0:=by rw [hA0]; exact Fr.push
 have g1:Fr [] A0 A1:=by rw [hA1]; exact Fr.push
 have g2:Fr [] A1 A2:=by rw [hA2]; exact Fr.push
 have b0:Blk A2 H.size 28 [iv kind,.slice x1 words.length c1,.slice x2 nums.length c2,.slice x3 kids.length c3,iv pos]:=(g1.trans g2).blk (by rw [hA0]; exact Blk.new rfl) (by simp)
 have b1:Blk A2 A0.size 102 [iv 0,iv 0]:=g2.blk (by rw [hA1]; exact Blk.new rfl) (by simp)
 have b2:Blk A2 A1.size 102 [iv 0,iv 0]:=by rw [hA2]; exact Blk.new rfl
 obtain ⟨A3,s1,b1',f3⟩:=store_blk (P:=Tryz.prog) (ty:=102) (new:=[iv 0,iv 999999]) b1 rfl T.size102 (one_all rfl)
 have b2':=f3.blk b2 (by simp; omega)
 obtain ⟨G,s2,b3',f4⟩:=store_blk (P:=Tryz.prog) (ty:=102) (new:=[iv 0,iv 1]) b2' rfl T.size102 (one_all rfl)
 have l3:=(f4.blk b1' (by simp; omega)).cells0
 have l4:=b3'.cells0
 simp only [List.length_cons,List.length_nil] at l3 l4
 have b0':=f4.blk (f3.blk b0 (by simp; omega)) (by simp; omega)
 have k0:=b0'.cell 0
 have k2:=b0'.cell 2
 simp only [gS,gZ] at k0 k2
 have f0:Fr [] H G:=Fr.more (Fr.more ((g0.trans g1).trans g2) f3 (by simp; omega)) f4 (by simp; omega)
 have ar0:=ha.frame (Keeps.of_fr f0 (by simp))
 refine callF_of Tryz.func57 rfl Tryz.ntmps57 Tryz.results57 (by decide) rfl ?_
 simp (disch:=omega) only [go_sem,dB,anV]
 rw [← hA0,← hA1,← hA2]
 simp (disch:=omega) only [go_sem,dB,s1,s2]
 by_cases e1:kind=1
 ·subst e1
  simp (disch:=omega) only [go_sem,↓cB,dB,k0,k2,l3,l4]
  refine call_to (pgWithin_spec (bs:=[(0,999999),(0,999999),(0,1),(0,1)]) (ar0.u.frame (Keeps.of_fr (F:=[]) Fr.push (by simp))) (Rd.blk (Blk.new rfl) rfl) (by simp)) ?_
  rintro _ H5 ⟨f5,rfl⟩
  simp (disch:=omega) only [go_sem,↓cB,dB]
  exact fin ⟨(f0.trans Fr.push).trans f5,by simp [bnds]⟩
 by_cases e2:kind=2
 ·subst e2
  simp (disch:=omega) only [go_sem,↓cB,dB,k0,k2,l3,l4]
  refine call_to (pgWithin_spec (bs:=[(0,999999),(-999999,999999)]) (ar0.u.frame (Keeps.of_fr (F:=[]) Fr.push (by simp))) (Rd.blk (Blk.new rfl) rfl) (by simp)) ?_
  rintro _ H5 ⟨f5,rfl⟩
  simp (disch:=omega) only [go_sem,↓cB,dB]
  exact fin ⟨(f0.trans Fr.push).trans f5,by simp [bnds]⟩
 by_cases e3:kind=3
 ·subst e3
  simp (disch:=omega) only [go_sem,↓cB,dB,k0,k2,l3,l4]
  refine call_to (pgWithin_spec (bs:=[(0,999999)]) (ar0.u.frame (Keeps.of_fr (F:=[]) Fr.push (by simp))) (Rd.blk (Blk.new rfl) rfl) (by simp)) ?_
  rintro _ H5 ⟨f5,rfl⟩
  simp (disch:=omega) only [go_sem,↓cB,dB]
  exact fin ⟨(f0.trans Fr.push).trans f5,by simp [bnds]⟩
 by_cases e17:kind=17
 ·subst e17
  simp (disch:=omega) only [go_sem,↓cB,dB,k0,k2,l3,l4]
  refine call_to (pgWithin_spec (bs:=[(0,999999)]) (ar0.u.frame (Keeps.of_fr (F:=[]) Fr.push (by simp))) (Rd.blk (Blk.new rfl) rfl) (by simp)) ?_
  rintro _ H5 ⟨f5,rfl⟩
  simp (disch:=omega) only [go_sem,↓cB,dB]
  exact fin ⟨(f0.trans Fr.push).trans f5,by simp [bnds]⟩
 by_cases e8:kind=8
 ·subst e8
  simp (disch:=omega) only [go_sem,↓cB,dB,k0,k2,l3,l4]
  refine call_to (pgWithin_spec (bs:=[(0,1)]) (ar0.u.frame (Keeps.of_fr (F:=[]) Fr.push (by simp))) (Rd.blk (Blk.new rfl) rfl) (by simp)) ?_
  rintro _ H5 ⟨f5,rfl⟩
  simp (disch:=omega) only [go_sem,↓cB,dB]
  exact fin ⟨(f0.trans Fr.push).trans f5,by simp [bnds]⟩
 by_cases e9:kind=9
 ·subst e9
  simp (disch:=omega) only [go_sem,↓cB,dB,k0,k2,l3,l4]
  refine call_to (pgWithin_spec (bs:=[(0,1)]) (ar0.u.frame (Keeps.of_fr (F:=[]) Fr.push (by simp))) (Rd.blk (Blk.new rfl) rfl) (by simp)) ?_
  rintro _ H5 ⟨f5,rfl⟩
  simp (disch:=omega) only [go_sem,↓cB,dB]
  exact fin ⟨(f0.trans Fr.push).trans f5,by simp [bnds]⟩
 by_cases e10:kind=10
 ·subst e10
  simp (disch:=omega) only [go_sem,↓cB,dB,k0,k2,l3,l4]
  refine call_to (pgWithin_spec (bs:=[(0,1)]) (ar0.u.frame (Keeps.of_fr (F:=[]) Fr.push (by simp))) (Rd.blk (Blk.new rfl) rfl) (by simp)) ?_
  rintro _ H5 ⟨f5,rfl⟩
  simp (disch:=omega) only [go_sem,↓cB,dB]
  exact fin ⟨(f0.trans Fr.push).trans f5,by simp [bnds]⟩
 by_cases e22:kind=22
 ·subst e22
  simp (disch:=omega) only [go_sem,↓cB,dB,k0,k2,l3,l4]
  refine call_to (pgWithin_spec (bs:=[(0,8)]) (ar0.u.frame (Keeps.of_fr (F:=[]) Fr.push (by simp))) (Rd.blk (Blk.new rfl) rfl) (by simp)) ?_
  rintro _ H5 ⟨f5,rfl⟩
  simp (disch:=omega) only [go_sem,↓cB,dB]
  exact fin ⟨(f0.trans Fr.push).trans f5,by simp [bnds]⟩
 simp (disch:=omega) only [go_sem,↓cB,dB,k0,k2]
 refine call_to (pgWithin_spec (bs:=[]) (S':=fun _=>True) ar0.u Rd.nil (by simp)) ?_
 rintro _ H5 ⟨f5,rfl⟩
 simp (disch:=omega) only [go_sem,↓cB,dB]
 exact fin ⟨f0.trans f5,by simp [bnds,e1,e2,e3,e17,e8,e9,e10,e22]⟩
theorem Rd.tail1 {x:Value} {xs:List Value} {ad:Option Addr} {m cap:Nat} (h:Rd H S 1 (.slice ad (m + 1) cap) (x :: xs)) (hc:m + 1≤cap):Rd H S 1 (.slice (if cap=1 then ad else ad.map (·.add 1)) m (cap - 1)) xs:=by
 obtain ⟨a0,l0,c0,e,hl,hcell⟩:=h
 simp only [Value.slice.injEq] at e
 obtain ⟨rfl,rfl,rfl⟩:=e
 simp only [List.length_cons,Nat.mul_one] at hl
 refine ⟨_,_,_,rfl,by omega,fun i y hy=>?_⟩
 obtain ⟨b,o,rfl,hs,h3⟩:=hcell (i + 1) y (by simpa using hy)
 have hil:=(List.getElem?_eq_some_iff.1 hy).1
 rw [if_neg (by omega)]
 refine ⟨b,o + 1,by simp [Addr.add],hs,?_⟩
 rw [Nat.add_assoc,Nat.add_comm 1 i]; exact h3
set_option maxHeartbeats 2000000 in
theorem pgKids_spec {kind:Int} {av:Option Addr} {cv:Nat} (h:Rd H S 1 (.slice av ks.length cv) (ks.map iv)) (hc:ks.length≤cv) (hl:ks.length≤1000000) :
  CallF Tryz.prog 58 [iv kind,.slice av ks.length cv] H (fun r H'=>Fr [] H H'∧r=.bool (kidsM kind ks)) NoP:=by
 have hall:∀ s:Int,CallF Tryz.prog 75 [.slice av ks.length cv,iv s] H (fun r H'=>H=H'∧r=.bool (pAllM ks s)) NoP:=fun s=>pgAll_spec h (by omega)
 have hare:∀ {X:Heap} {w:Value} (ss:List Int),Fr [] H X→Rd X (fun _=>True) 1 w (ss.map iv)→ss.length≤1000→CallF Tryz.prog 76 [.slice av ks.length cv,w] X (fun r H'=>X=H'∧r=.bool (areM ks ss)) NoP:=fun ss f hw hs=>pgAre_spec (h.frame (Keeps.of_fr f (by simp))) hw (by omega) hs
 refine callF_of Tryz.func58 rfl Tryz.ntmps58 Tryz.results58 (by decide) rfl ?_
 by_cases e0:kind=0
 ·subst e0
  simp (disch:=omega) only [go_sem,↓cB,dB]
  refine call_to (hall 1) ?_
  rintro _ _ ⟨rfl,rfl⟩
  simp (disch:=omega) only [go_sem,↓cB,dB]
  exact fin ⟨Fr.refl _ _,rfl⟩
 by_cases e3:kind=3
 ·subst e3
  have hk3:kidsM 3 ks=pAllM (ks.dropWhile fun x=>decide (x=2)) 2:=rfl
  rw [hk3]
  simp (disch:=omega) only [go_sem,↓cB,dB]
  refine loop_by (fun k ρ H2=>∃ (ls:List Int) (aw:Option Addr) (cw:Nat),k=ls.length∧ls.length≤ks.length∧ls.length≤cw∧Rd H S 1 (.slice aw ls.length cw) (ls.map iv)∧(ls.dropWhile fun x=>decide (x=2))=(ks.dropWhile fun x=>decide (x=2))∧H=H2∧(ρ.get 1=.slice aw ls.length cw∧ρ.ds = [])) (k:=ks.length) ?_ ?_
  ·exact ⟨ks,av,cv,rfl,by omega,hc,h,rfl,rfl,by simp (disch:=omega) only [go_sem,↓cB,dB]⟩
  ·rintro k ρ _ ⟨ls,aw,cw,rfl,hls,hcw,hr,hdw,rfl,r1,rd⟩
   cases ls with
   | nil =>
    rw [← hdw]
    simp only [List.length_nil] at r1 hr
    simp (disch:=omega) only [go_sem,↓cB,dB,r1,rd]
    refine call_to (pgAll_spec (ks:=[]) hr (by simp)) ?_
    rintro _ _ ⟨rfl,rfl⟩
    simp (disch:=omega) only [go_sem,↓cB,dB]
    exact fin ⟨Fr.refl _ _,rfl⟩
   | cons x ls =>
    obtain ⟨b,o,cap,q1,-,q2⟩:=hr.at1 (i:=0) (x:=x) rfl
    simp only [Value.slice.injEq,true_and] at q1
    obtain ⟨rfl,rfl⟩:=q1
    rw [Nat.add_zero] at q2
    have hln:(0:Int) < ((x :: ls).length:Int):=by rw [List.length_cons]; omega
    simp only [List.length_cons] at r1 hls hcw hr hln
    by_cases hx:x=2
    ·subst hx
     have hr':=Rd.tail1 (x:=iv 2) (xs:=ls.map iv) hr hcw
     simp (disch:=omega) only [go_sem,↓cB,dB,r1,rd,q2]
     refine fin ⟨ls.length,by simp,ls,_,_,rfl,by omega,?_,hr',by simpa using hdw,rfl,by (simp (disch:=omega) only [go_sem,↓cB,dB,r1,rd]) <;> simp⟩
     omega
    ·simp (disch:=omega) only [go_sem,↓cB,dB,r1,rd,q2]
     rw [← hdw]
     have hd:((x :: ls).dropWhile fun x=>decide (x=2))=x :: ls:=by rw [List.dropWhile_cons_of_neg (by simpa using hx)]
     rw [hd]
     refine call_to (pgAll_spec (ks:=x :: ls) hr (by simp; omega)) ?_
     rintro _ _ ⟨rfl,rfl⟩
     simp (disch:=omega) only [go_sem,↓cB,dB]
     exact fin ⟨Fr.refl _ _,rfl⟩
 by_cases e16:kind=16
 ·subst e16
  simp (disch:=omega) only [go_sem,↓cB,dB]
  refine call_to (hall 2) ?_
  rintro _ _ ⟨rfl,rfl⟩
  simp (disch:=omega) only [go_sem,↓cB,dB]
  exact fin ⟨Fr.refl _ _,rfl⟩
 by_cases e10:kind=10
 ·subst e10
  have hk:kidsM 10 ks=(decide (0 < ks.length) && pAllM ks 4):=rfl
  rw [hk]
  by_cases hz:0 < ks.length
  ·simp (disch:=omega) only [go_sem,↓cB,dB]
   refine call_to (hall 4) ?_
   rintro _ _ ⟨rfl,rfl⟩
   simp (disch:=omega) only [go_sem,↓cB,dB]
   exact fin ⟨Fr.refl _ _,by simp [hz]⟩
  ·simp (disch:=omega) only [go_sem,↓cB,dB]
   exact fin ⟨Fr.refl _ _,by simp [hz]⟩
 by_cases e11:kind=11
 ·subst e11
  have hk:kidsM 11 ks=(areM ks [3,4] || areM ks [3,4,4]):=rfl
  rw [hk]
  simp (disch:=omega) only [go_sem,↓cB,dB]
  refine call_to (hare [3,4] Fr.push (Rd.blk (Blk.new rfl) rfl) (by simp)) ?_
  rintro _ _ ⟨rfl,rfl⟩
  cases q1:areM ks [3,4]
  ·simp (disch:=omega) only [go_sem,↓cB,dB]
   refine call_to (hare [3,4,4] (Fr.push.trans Fr.push) (Rd.blk (Blk.new rfl) rfl) (by simp)) ?_
   rintro _ _ ⟨rfl,rfl⟩
   simp (disch:=omega) only [go_sem,↓cB,dB]
   exact fin ⟨Fr.push.trans Fr.push,by simp⟩
  ·simp (disch:=omega) only [go_sem,↓cB,dB]
   exact fin ⟨Fr.push,by simp⟩
 by_cases e12:kind=12
 ·subst e12
  simp (disch:=omega) only [go_sem,↓cB,dB]
  refine call_to (hare [3,4] Fr.push (Rd.blk (Blk.new rfl) rfl) (by simp)) ?_
  rintro _ _ ⟨rfl,rfl⟩
  simp (disch:=omega) only [go_sem,↓cB,dB]
  exact fin ⟨Fr.push,rfl⟩
 by_cases e13:kind=13
 ·subst e13
  simp (disch:=omega) only [go_sem,↓cB,dB]
  refine call_to (hare [4] Fr.push (Rd.blk (Blk.new rfl) rfl) (by simp)) ?_
  rintro _ _ ⟨rfl,rfl⟩
  simp (disch:=omega) only [go_sem,↓cB,dB]
  exact fin ⟨Fr.push,rfl⟩
 by_cases e4:kind=4
 ·subst e4
  simp (disch:=omega) only [go_sem,↓cB,dB]
  refine call_to (hare [3] Fr.push (Rd.blk (Blk.new rfl) rfl) (by simp)) ?_
  rintro _ _ ⟨rfl,rfl⟩
  simp (disch:=omega) only [go_sem,↓cB,dB]
  exact fin ⟨Fr.push,rfl⟩
 by_cases e6:kind=6
 ·subst e6
  simp (disch:=omega) only [go_sem,↓cB,dB]
  refine call_to (hare [3] Fr.push (Rd.blk (Blk.new rfl) rfl) (by simp)) ?_
  rintro _ _ ⟨rfl,rfl⟩
  simp (disch:=omega) only [go_sem,↓cB,dB]
  exact fin ⟨Fr.push,rfl⟩
 by_cases e7:kind=7
 ·subst e7
  simp (disch:=omega) only [go_sem,↓cB,dB]
  refine call_to (hare [3] Fr.push (Rd.blk (Blk.new rfl) rfl) (by simp)) ?_
  rintro _ _ ⟨rfl,rfl⟩
  simp (disch:=omega) only [go_sem,↓cB,dB]
  exact fin ⟨Fr.push,rfl⟩
 by_cases e9:kind=9
 ·subst e9
  simp (disch:=omega) only [go_sem,↓cB,dB]
  refine call_to (hare [3] Fr.push (Rd.blk (Blk.new rfl) rfl) (by simp)) ?_
  rintro _ _ ⟨rfl,rfl⟩
  simp (disch:=omega) only [go_sem,↓cB,dB]
  exact fin ⟨Fr.push,rfl⟩
 by_cases e20:kind=20
 ·subst e20
  simp (disch:=omega) only [go_sem,↓cB,dB]
  refine call_to (hare [3] Fr.push (Rd.blk (Blk.new rfl) rfl) (by simp)) ?_
  rintro _ _ ⟨rfl,rfl⟩
  simp (disch:=omega) only [go_sem,↓cB,dB]
  exact fin ⟨Fr.push,rfl⟩
 by_cases e21:kind=21
 ·subst e21
  simp (disch:=omega) only [go_sem,↓cB,dB]
  refine call_to (hare [3] Fr.push (Rd.blk (Blk.new rfl) rfl) (by simp)) ?_
  rintro _ _ ⟨rfl,rfl⟩
  simp (disch:=omega) only [go_sem,↓cB,dB]
  exact fin ⟨Fr.push,rfl⟩
 by_cases e22:kind=22
 ·subst e22
  simp (disch:=omega) only [go_sem,↓cB,dB]
  refine call_to (hare [3,3] Fr.push (Rd.blk (Blk.new rfl) rfl) (by simp)) ?_
  rintro _ _ ⟨rfl,rfl⟩
  simp (disch:=omega) only [go_sem,↓cB,dB]
  exact fin ⟨Fr.push,rfl⟩
 by_cases e1:kind=1
 ·subst e1
  have hk:kidsM 1 ks=decide (ks.length=0):=rfl
  rw [hk]
  simp (disch:=omega) only [go_sem,↓cB,dB]
  have e:((ks.length:Int)=0)↔(ks.length=0):=by omega
  exact fin ⟨Fr.refl _ _,by simp [e]⟩
 by_cases e2:kind=2
 ·subst e2
  have hk:kidsM 2 ks=decide (ks.length=0):=rfl
  rw [hk]
  simp (disch:=omega) only [go_sem,↓cB,dB]
  have e:((ks.length:Int)=0)↔(ks.length=0):=by omega
  exact fin ⟨Fr.refl _ _,by simp [e]⟩
 by_cases e5:kind=5
 ·subst e5
  have hk:kidsM 5 ks=decide (ks.length=0):=rfl
  rw [hk]
  simp (disch:=omega) only [go_sem,↓cB,dB]
  have e:((ks.length:Int)=0)↔(ks.length=0):=by omega
  exact fin ⟨Fr.refl _ _,by simp [e]⟩
 by_cases e8:kind=8
 ·subst e8
  have hk:kidsM 8 ks=decide (ks.length=0):=rfl
  rw [hk]
  simp (disch:=omega) only [go_sem,↓cB,dB]
  have e:((ks.length:Int)=0)↔(ks.length=0):=by omega
  exact fin ⟨Fr.refl _ _,by simp [e]⟩
 by_cases e14:kind=14
 ·subst e14
  have hk:kidsM 14 ks=decide (ks.length=0):=rfl
  rw [hk]
  simp (disch:=omega) only [go_sem,↓cB,dB]
  have e:((ks.length:Int)=0)↔(ks.length=0):=by omega
  exact fin ⟨Fr.refl _ _,by simp [e]⟩
 by_cases e15:kind=15
 ·subst e15
  have hk:kidsM 15 ks=decide (ks.length=0):=rfl
  rw [hk]
  simp (disch:=omega) only [go_sem,↓cB,dB]
  have e:((ks.length:Int)=0)↔(ks.length=0):=by omega
  exact fin ⟨Fr.refl _ _,by simp [e]⟩
 by_cases e17:kind=17
 ·subst e17
  have hk:kidsM 17 ks=decide (ks.length=0):=rfl
  rw [hk]
  simp (disch:=omega) only [go_sem,↓cB,dB]
  have e:((ks.length:Int)=0)↔(ks.length=0):=by omega
  exact fin ⟨Fr.refl _ _,by simp [e]⟩
 by_cases e18:kind=18
 ·subst e18
  have hk:kidsM 18 ks=decide (ks.length=0):=rfl
  rw [hk]
  simp (disch:=omega) only [go_sem,↓cB,dB]
  have e:((ks.length:Int)=0)↔(ks.length=0):=by omega
  exact fin ⟨Fr.refl _ _,by simp [e]⟩
 by_cases e19:kind=19
 ·subst e19
  have hk:kidsM 19 ks=decide (ks.length=0):=rfl
  rw [hk]
  simp (disch:=omega) only [go_sem,↓cB,dB]
  have e:((ks.length:Int)=0)↔(ks.length=0):=by omega
  exact fin ⟨Fr.refl _ _,by simp [e]⟩
 simp (disch:=omega) only [go_sem,↓cB,dB]
 refine fin ⟨Fr.refl _ _,?_⟩
 have:kidsM kind ks=false:=by
  unfold kidsM
  rw [if_neg e0,if_neg e3,if_neg e16,if_neg e10,if_neg e11,if_neg e12,if_neg e13,if_neg (by omega),if_neg e22,if_neg (by omega)]
 rw [this]
end
end Go.Proofs.YtcffdpmmadipeaaGreatDoor
namespace Go.Proofs.YtcffdpmmadipeaaGreatDoor
open Go.HL
set_option maxRecDepth 10000
def nodeP (l:List Nd) (n:Nd):Bool:=wordsM n (wcount n.kind) && (withinM n.nums (bnds n.kind) && kidsM n.kind (n.kids.map (knd l)))
def treeK (ih:Nat→Nat × Bool):List Int→Nat→Nat × Bool
 | [],next=>(next,true)
 | k :: ks,next=>if k=next then (if (ih next).2 then treeK ih ks (ih next).1 else (0,false)) else (0,false)
def treeM (l:List Nd):Nat→Nat→Nat × Bool
 | 0,_=>(0,false)
 | d + 1,i=>if i < l.length then (if (treeK (treeM l d) (l.getD i nd0').kids (i + 1)).2 then ((treeK (treeM l d) (l.getD i nd0').kids (i + 1)).1,nodeP l (l.getD i nd0')) else (0,false)) else (0,false)
theorem treeK_ge {L:Nat} {ih:Nat→Nat × Bool} (h:∀ i,(ih i).2=true→i < (ih i).1∧(ih i).1≤L):∀ (ks:List Int) (i:Nat),i≤L→(treeK ih ks i).2=true→i≤(treeK ih ks i).1∧(treeK ih ks i).1≤L
 | [],i,hi,_=>by simp [treeK,hi]
 | k :: ks,i,hi,ht=>by
  unfold treeK at ht ⊢
  split at ht
  ·rename_i hk
   split at ht
   ·rename_i hok
    rw [if_pos hk,if_pos hok]
    have h1:=h i hok
    have:=treeK_ge h ks (ih i).1 h1.2 ht
    omega
   ·simp at ht
  ·simp at ht
theorem treeM_ge {l:List Nd}:∀ (d i:Nat),(treeM l d i).2=true→i < (treeM l d i).1∧(treeM l d i).1≤l.length
 | 0,i,h=>by simp [treeM] at h
 | d + 1,i,h=>by
  unfold treeM at h ⊢
  split at h
  ·rename_i hi
   split at h
   ·rename_i hok
    rw [if_pos hi,if_pos hok]
    have:=treeK_ge (L:=l.length) (ih:=treeM l d) (fun j hj=>treeM_ge d j hj) (l.getD i nd0').kids (i + 1) (by omega) hok
    exact ⟨by omega,this.2⟩
   ·simp at h
  ·simp at h
def prRightM (l:List Nd):Bool:=decide (0 < l.length) && (decide (l.length≤800) && (decide ((l.getD 0 nd0').kind=0) && ((treeM l 20 0).2 && decide ((treeM l 20 0).1=l.length))))
section
variable {H:Heap} {S:Nat→Prop} {v:Value} {l:List Nd}
set_option maxHeartbeats 2000000 in
theorem pgTree_spec (hz:Sz l) (h8:l.length≤800):∀ (d:Nat) {H:Heap} {i:Nat} {deep:Int},NL H S v l→i≤l.length→d≤20→deep=21 - d →
  CallF Tryz.prog 35 [v,iv i,iv deep] H (fun r H'=>Fr [] H H'∧r=.tuple #[iv (treeM l d i).1,.bool (treeM l d i).2]) NoP:=by
 intro d
 induction d with
 | zero =>
  intro H i deep h hi _ hd
  obtain ⟨av,cv,rfl⟩:=h.len
  subst hd
  refine callF_of Tryz.func35 rfl Tryz.ntmps35 Tryz.results35 (by decide) rfl ?_
  by_cases hil:i < l.length
  ·simp (disch:=omega) only [go_sem,↓cB,dB]
   exact fin ⟨Fr.refl _ _,rfl⟩
  ·simp (disch:=omega) only [go_sem,↓cB,dB]
   exact fin ⟨Fr.refl _ _,rfl⟩
 | succ d IH =>
  intro H i deep h hi hd20 hd
  by_cases hil:i < l.length
  rotate_left
  ·obtain ⟨av,cv,rfl⟩:=h.len
   unfold treeM
   rw [if_neg hil]
   refine callF_of Tryz.func35 rfl Tryz.ntmps35 Tryz.results35 (by decide) rfl ?_
   simp (disch:=omega) only [go_sem,↓cB,dB]
   exact fin ⟨Fr.refl _ _,rfl⟩
  have hgi:=getD_some (d:=nd0') hil
  obtain ⟨b,o,cap,a,q1,q2,ar,-,k0,-,-,k3,-⟩:=h.row hgi
  obtain ⟨nn,x1,c1,x2,c2,x3,c3,rfl⟩:=ar.open
  simp only at q2
  have hkl:=hz.k i _ hgi
  unfold treeM
  rw [if_pos hil]
  subst q2
  subst q1
  simp only at k3
  generalize hn:l.getD i nd0'=n at *
  obtain ⟨G,hG⟩:∃ G,G=H.push (.cells #[] 3):=⟨_,rfl⟩
  have f0:Fr [] H G:=by rw [hG]; exact Fr.push
  have zG:G.size=H.size + 1:=by rw [hG]; simp
  have kG:=f0.cell' k3 (by simp)
  have v0:Vec G 3 1 (.slice (some ⟨H.size,0,none⟩) 0 0) (([]:List Int).map iv):=⟨.inr ⟨H.size,0,0,[],[],rfl,by rw [hG]; exact Blk.new rfl,rfl,rfl,by omega⟩⟩
  obtain ⟨R,hR⟩:∃ R,R=treeK (treeM l d) n.kids (i + 1):=⟨_,rfl⟩
  rw [← hR]
  refine callF_of Tryz.func35 rfl Tryz.ntmps35 Tryz.results35 (by decide) rfl ?_
  simp (disch:=omega) only [go_sem,↓cB,dB]
  rw [← hG]
  simp (disch:=omega) only [go_sem,↓cB,dB,kG]
  refine loop_by (fun k ρ H2=>∃ (j next:Nat) (kv:Value),k=n.kids.length - j∧j≤n.kids.length∧i + 1 + j≤next∧next≤l.length∧treeK (treeM l d) (n.kids.drop j) next=R∧Fr [] H H2∧Vec H2 3 1 kv (((n.kids.take j).map (knd l)).map iv)∧(∀ b ∈ own kv,H.size≤b) ∧
    (ρ.get 0=.slice (some ⟨b,o,none⟩) l.length cap∧ρ.get 1=iv i∧ρ.get 2=iv deep∧ρ.get 8=iv next∧ρ.get 9=kv∧ρ.get 29=.slice x3 n.kids.length c3∧ρ.get 30=iv n.kids.length∧ρ.get 31=iv j∧ρ.ds = [])) (k:=n.kids.length) ?_ ?_
  ·exact ⟨0,i + 1,_,rfl,by omega,by omega,by omega,hR.symm,f0,v0,by simp [own],by (simp (disch:=omega) only [go_sem,↓cB,dB]) <;> simp⟩
  ·rintro k ρ H2 ⟨j,next,kv,rfl,hj,hjn,hnl,hw,fr2,vec,hown,r0,r1,r2,r8,r9,r29,r30,r31,rd⟩
   have hxj:(j:Int) + 1=((j + 1:Nat):Int):=by omega
   have nl2:=h.grow fr2
   have ar2:=ar.frame (Keeps.of_fr fr2 (by simp))
   by_cases hjk:j < n.kids.length
   ·have hgj:=getD_some (d:=(0:Int)) hjk
    obtain ⟨b',o',cap',p1,-,p2⟩:=ar2.k.at1 hgj
    simp only [Value.slice.injEq,true_and] at p1
    obtain ⟨rfl,rfl⟩:=p1
    have hd':n.kids.drop j=n.kids.getD j 0 :: n.kids.drop (j + 1):=by
     rw [List.drop_eq_getElem_cons hjk]; congr 1; simp [hjk]
    rw [hd'] at hw
    unfold treeK at hw
    have htk:n.kids.take (j + 1)=n.kids.take j ++ [n.kids.getD j 0]:=by rw [List.take_add_one,hgj]; rfl
    generalize hy:n.kids.getD j 0=y at *
    by_cases hyn:y=next
    rotate_left
    ·rw [if_neg hyn] at hw
     rw [← hw]
     simp (disch:=omega) only [go_sem,↓cB,dB,r0,r1,r2,r8,r9,r29,r30,r31,rd,p2]
     exact fin ⟨fr2,rfl⟩
    rw [if_pos hyn] at hw
    subst hyn
    simp (disch:=omega) only [go_sem,↓cB,dB,r0,r1,r2,r8,r9,r29,r30,r31,rd,p2]
    refine call_to (IH nl2 hnl (by omega) (by omega)) ?_
    intro v5 H5 hv
    refine Hush.out ?_
    obtain ⟨fr5,rfl⟩:=hv
    cases hok:(treeM l d next).2
    ·rw [hok] at hw
     simp only [Bool.false_eq_true,if_false] at hw
     rw [← hw]
     refine ⟨?_⟩
     simp (disch:=omega) only [go_sem,↓cB,dB,r0,r1,r2,r8,r9,r29,r30,r31,rd]
     exact fin ⟨fr2.trans fr5,rfl⟩
    ·rw [hok] at hw
     simp only [if_true] at hw
     have hge:=treeM_ge d next hok
     have hnx:next < l.length:=by omega
     have nl5:=nl2.grow fr5
     obtain ⟨b6,o6,cap6,a6,s1,s2,-,-,s3,-⟩:=nl5.row (getD_some (d:=nd0') hnx)
     simp only [Value.slice.injEq,Option.some.injEq,Addr.mk.injEq,and_true,true_and] at s1
     obtain ⟨⟨rfl,rfl⟩,rfl⟩:=s1
     have vec5:=vec.frame fr5 (by simp)
     obtain ⟨ak,lk,ck,ekv,hlk⟩:=vec5.len
     simp only [List.length_map,List.length_take,Nat.mul_one] at hlk
     have:lk=j:=by omega
     subst this
     subst ekv
     refine ⟨?_⟩
     simp (disch:=omega) only [go_sem,↓cB,dB,r0,r1,r2,r8,r9,r29,r30,r31,rd,s3]
     refine app_lit1 T.el26 rfl vec5 rfl (by simp; omega) ?_
     intro v' H6 g1 g2 g3 g4
     refine Hush.out ?_
     have fr6:Fr [] H H6:=Fr.more (fr2.trans fr5) g2 (fun b hb=>.inr (hown b hb))
     have hz5:=(fr2.trans fr5).size
     refine ⟨?_⟩
     simp (disch:=omega) only [go_sem,↓cB,dB,r0,r1,r2,r8,r9,r29,r30,r31,rd]
     refine fin ⟨n.kids.length - (lk + 1),by omega,lk + 1,(treeM l d next).1,v',rfl,by omega,by omega,hge.2,hw,fr6,?_,?_,by simp (disch:=omega) only [go_sem,↓cB,dB,r0,r1,r2,r8,r9,r29,r30,r31,rd,hxj]⟩
     ·rw [htk,List.map_append,List.map_append]
      have hkk:knd l (next:Int)=(l.getD next nd0').kind:=rfl
      simp only [List.map_cons,List.map_nil]
      rw [hkk]
      exact g1
     ·intro b hb
      exact (g3 b hb).elim (hown b) (fun h=>by omega)
   ·obtain rfl:j=n.kids.length:=by omega
    rw [List.drop_eq_nil_of_le (by omega)] at hw
    unfold treeK at hw
    rw [← hw]
    simp only [if_true]
    rw [List.take_length] at vec
    obtain ⟨b6,o6,cap6,a6,s1,s2,ar6,ld,k06,-⟩:=nl2.row hgi
    simp only [Value.slice.injEq,Option.some.injEq,Addr.mk.injEq,and_true,true_and] at s1
    obtain ⟨⟨rfl,rfl⟩,rfl⟩:=s1
    rw [← s2] at ld
    simp (disch:=omega) only [go_sem,↓cB,dB,r0,r1,r2,r8,r9,r29,r30,r31,rd,ld]
    refine call_to (pgWords_spec ar6 (by rw [s2]; exact hz.w i _ hgi) (by rw [s2]; exact hz.s i _ hgi)) ?_
    intro v7 H7 hv
    refine Hush.out ?_
    obtain ⟨fr7,rfl⟩:=hv
    rw [s2]
    unfold nodeP
    cases q7:wordsM n (wcount n.kind)
    ·refine ⟨?_⟩
     simp (disch:=omega) only [go_sem,↓cB,dB,r0,r1,r2,r8,r9,r29,r30,r31,rd]
     exact fin ⟨fr2.trans fr7,rfl⟩
    have nl7:=nl2.grow fr7
    obtain ⟨b8,o8,cap8,a8,t1,t2,ar8,ld8,k08,-⟩:=nl7.row hgi
    simp only [Value.slice.injEq,Option.some.injEq,Addr.mk.injEq,and_true,true_and] at t1
    obtain ⟨⟨rfl,rfl⟩,rfl⟩:=t1
    rw [← t2] at ld8
    refine ⟨?_⟩
    simp (disch:=omega) only [go_sem,↓cB,dB,r0,r1,r2,r8,r9,r29,r30,r31,rd,ld8]
    refine call_to (pgNumbers_spec ar8) ?_
    intro v9 H9 hv
    refine Hush.out ?_
    obtain ⟨fr9,rfl⟩:=hv
    rw [t2]
    cases q9:withinM n.nums (bnds n.kind)
    ·refine ⟨?_⟩
     simp (disch:=omega) only [go_sem,↓cB,dB,r0,r1,r2,r8,r9,r29,r30,r31,rd]
     exact fin ⟨(fr2.trans fr7).trans fr9,rfl⟩
    have nl9:=nl7.grow fr9
    obtain ⟨b10,o10,cap10,a10,u1,u2,-,-,k010,-⟩:=nl9.row hgi
    simp only [Value.slice.injEq,Option.some.injEq,Addr.mk.injEq,and_true,true_and] at u1
    obtain ⟨⟨rfl,rfl⟩,rfl⟩:=u1
    have vec9:=vec.frame (fr7.trans fr9) (by simp)
    have hrd:Rd H9 (fun _=>True) 1 kv (((n.kids).map (knd l)).map iv):=Rd.of_vec vec9 (fun _ _=>trivial)
    obtain ⟨ak,lk,ck,ekv,hlk,hck⟩:∃ a len cap,kv=.slice a len cap∧len=(n.kids.map (knd l)).length∧len≤cap:=by
     rcases vec9.ex with ⟨e1,e2⟩ | ⟨b,len,cap,pre,rest,e1,_,e3,_,e5⟩
     ·exact ⟨_,_,_,e1,by have:=congrArg List.length e2; simpa using this.symm,by omega⟩
     ·exact ⟨_,_,_,e1,by simp at e3 ⊢; omega,e5⟩
    subst hlk
    subst ekv
    refine ⟨?_⟩
    simp (disch:=omega) only [go_sem,↓cB,dB,r0,r1,r2,r8,r9,r29,r30,r31,rd,k010]
    refine call_to (pgKids_spec hrd hck (by simp; omega)) ?_
    intro v11 H11 hv
    refine Hush.out ?_
    obtain ⟨fr11,rfl⟩:=hv
    refine ⟨?_⟩
    simp (disch:=omega) only [go_sem,↓cB,dB,r0,r1,r2,r8,r9,r29,r30,r31,rd]
    exact fin ⟨((fr2.trans fr7).trans fr9).trans fr11,rfl⟩
theorem pgRight_spec (h:NL H S v l) (hz:Sz l):CallF Tryz.prog 19 [v] H (fun r H'=>Fr [] H H'∧r=.bool (prRightM l)) NoP:=by
 obtain ⟨av,cv,rfl⟩:=h.len
 have hzl:=hz.len
 unfold prRightM
 refine callF_of Tryz.func19 rfl Tryz.ntmps19 Tryz.results19 (by decide) rfl ?_
 by_cases h1:0 < l.length
 rotate_left
 ·simp (disch:=omega) only [go_sem,↓cB,dB]
  exact fin ⟨Fr.refl _ _,by simp [h1]⟩
 have hg0:=getD_some (d:=nd0') h1
 obtain ⟨b,o,cap,a,q1,q2,ar,-,k0,-⟩:=h.row hg0
 simp only [Value.slice.injEq,true_and] at q1
 obtain ⟨rfl,rfl⟩:=q1
 rw [Nat.zero_mul,Nat.add_zero] at k0
 by_cases h2:l.length≤800
 rotate_left
 ·simp (disch:=omega) only [go_sem,↓cB,dB]
  exact fin ⟨Fr.refl _ _,by simp [h2]⟩
 by_cases h3:(l.getD 0 nd0').kind=0
 rotate_left
 ·simp (disch:=omega) only [go_sem,↓cB,dB,k0]
  exact fin ⟨Fr.refl _ _,by simp [-List.getD_eq_getElem?_getD,h3]⟩
 simp (disch:=omega) only [go_sem,↓cB,dB,k0,h3]
 refine call_to (pgTree_spec hz h2 20 (i:=0) h (by omega) (by omega) (by omega)) ?_
 intro v5 H5 hv
 refine Hush.out ?_
 obtain ⟨f5,rfl⟩:=hv
 cases h4:(treeM l 20 0).2
 ·refine ⟨?_⟩
  simp (disch:=omega) only [go_sem,↓cB,dB]
  exact fin ⟨f5,by simp⟩
 refine ⟨?_⟩
 simp (disch:=omega) only [go_sem,↓cB,dB]
 refine fin ⟨f5,?_⟩
 have e5:(((treeM l 20 0).1:Int)=(l.length:Int))↔((treeM l 20 0).1=l.length):=by omega
 simp [-List.getD_eq_getElem?_getD,h1,h2,h3,e5]
end
end Go.Proofs.YtcffdpmmadipeaaGreatDoor
namespace Go.Proofs.YtcffdpmmadipeaaGreatDoor
open Go.HL
set_option maxRecDepth 10000
theorem allR_congr {n:Nat} {g g':Nat→Bool} (h:∀ j,j < n→g j=g' j):allR n g=allR n g':=by
 unfold allR
 rw [Bool.eq_iff_iff,List.all_eq_true,List.all_eq_true]
 constructor
 ·intro H j hj; rw [← h j (List.mem_range.1 hj)]; exact H j hj
 ·intro H j hj; rw [h j (List.mem_range.1 hj)]; exact H j hj
theorem allR_zero {g:Nat→Bool}:allR 0 g=true:=rfl
theorem allR_one {g:Nat→Bool}:allR 1 g=g 0:=by simp [allR,List.range,List.range.loop]
theorem allR_two {g:Nat→Bool}:allR 2 g=(g 0 && g 1):=by simp [allR,List.range,List.range.loop]
theorem allR_three {g:Nat→Bool}:allR 3 g=(g 0 && (g 1 && g 2)):=by simp [allR,List.range,List.range.loop]
theorem allR_four {g:Nat→Bool}:allR 4 g=(g 0 && (g 1 && (g 2 && g 3))):=by simp [allR,List.range,List.range.loop]
theorem sort1 (k:Int):decide (sortM k=1)=inB k 1 5:=by
 unfold sortM
 cases h:inB k 1 5
 ·unfold inB at h ⊢
  simp only [Bool.false_eq_true,if_false]
  split
  ·simp
  ·split
   ·simp
   ·split <;> simp
 ·simp
theorem sort2 (k:Int):decide (sortM k=2)=inB k 6 15:=by
 unfold sortM
 cases h:inB k 6 15
 ·simp only [Bool.false_eq_true,if_false]
  split
  ·simp
  ·split
   ·simp
   ·split <;> simp
 ·have:inB k 1 5=false:=by unfold inB at h ⊢; simp at h ⊢; omega
  simp [this]
theorem sort3 (k:Int):decide (sortM k=3)=inB k 17 22:=by
 unfold sortM
 cases h:inB k 17 22
 ·simp only [Bool.false_eq_true,if_false]
  split
  ·simp
  ·split
   ·simp
   ·split <;> simp
 ·have h1:inB k 1 5=false:=by unfold inB at h ⊢; simp at h ⊢; omega
  have h2:inB k 6 15=false:=by unfold inB at h ⊢; simp at h ⊢; omega
  simp [h1,h2]
theorem sort4 (k:Int):decide (sortM k=4)=decide (k=16):=by
 unfold sortM inB
 by_cases h:k=16
 ·subst h; decide
 ·simp only [h,if_false]
  split
  ·simp
  ·split
   ·simp
   ·split <;> simp
def exK (ks:List Int) (f e m:Nat):Bool:=allR ks.length (fun i=>if i < f then inB (ks.getD i 0) 17 22 else decide (ks.getD i 0=16)) && (decide (f + e≤ks.length) && decide (ks.length≤f + m))
section
variable {l:List Nd} {n:Nd}
theorem kid_map {i:Nat} (h:i < n.kids.length):(n.kids.map (knd l)).getD i 0=knd l (kidA n i):=by
 unfold kidA
 simp [List.getD_eq_getElem?_getD,h]
theorem exprs_eq {f e m:Nat}:exprsM l n f e m=exK (n.kids.map (knd l)) f e m:=by
 unfold exprsM exK
 rw [List.length_map]
 congr 1
 exact allR_congr (fun j hj=>by rw [kid_map hj])
theorem all_eq {a b s:Int} (h:∀ k,decide (sortM k=s)=inB k a b):allM l n 0 a b=pAllM (n.kids.map (knd l)) s:=by
 unfold allM pAllM
 rw [List.length_map]
 refine allR_congr (fun j hj=>?_)
 rw [kid_map hj,h]
 simp
end
theorem ex_100 (ks:List Int):exK ks 1 0 0=areM ks [3]:=by
 match ks with
 | []=>rfl
 | [a]=>simp [exK,areM,allR_one,sort3]
 | a :: b :: t=>simp [exK,areM]
theorem ex_200 (ks:List Int):exK ks 2 0 0=areM ks [3,3]:=by
 match ks with
 | []=>rfl
 | [a]=>simp [exK,areM]
 | [a,b]=>simp [exK,areM,allR_two,sort3]
 | a :: b :: c :: t=>simp [exK,areM]
theorem ex_011 (ks:List Int):exK ks 0 1 1=areM ks [4]:=by
 match ks with
 | []=>rfl
 | [a]=>simp [exK,areM,allR_one,sort4]
 | a :: b :: t=>simp [exK,areM]
theorem ex_111 (ks:List Int):exK ks 1 1 1=areM ks [3,4]:=by
 match ks with
 | []=>rfl
 | [a]=>simp [exK,areM]
 | [a,b]=>simp [exK,areM,allR_two,sort3,sort4]
 | a :: b :: c :: t=>simp [exK,areM]
theorem ex_112 (ks:List Int):exK ks 1 1 2=(areM ks [3,4] || areM ks [3,4,4]):=by
 match ks with
 | []=>rfl
 | [a]=>simp [exK,areM]
 | [a,b]=>simp [exK,areM,allR_two,sort3,sort4]
 | [a,b,c]=>simp [exK,areM,allR_three,sort3,sort4]
 | a :: b :: c :: d :: t=>simp [exK,areM]
theorem ex_018 (ks:List Int) (h:ks.length≤800):exK ks 0 1 800=(decide (0 < ks.length) && pAllM ks 4):=by
 unfold exK pAllM
 have e:allR ks.length (fun i=>if i < 0 then inB (ks.getD i 0) 17 22 else decide (ks.getD i 0=16))=allR ks.length (fun i=>decide (sortM (ks.getD i 0)=4)):=allR_congr (fun j hj=>by rw [sort4]; simp)
 rw [e,Bool.and_comm]
 congr 1
 have h1:decide (ks.length≤0 + 800)=true:=by simp; omega
 rw [h1,Bool.and_true]
 congr 1
end Go.Proofs.YtcffdpmmadipeaaGreatDoor
namespace Go.Proofs.YtcffdpmmadipeaaGreatDoor
open Go.HL
set_option maxRecDepth 10000
section
variable {l:List Nd} {n:Nd}
theorem nums_0:numsM n 0 0=withinM n.nums []:=by
 unfold numsM withinM
 cases h:n.nums with
 | nil=>simp [allR_zero]
 | cons a t=>simp
theorem nums_1 {m:Int}:numsM n 1 m=withinM n.nums [(0,m)]:=by
 unfold numsM withinM
 match h:n.nums with
 | []=>simp
 | [a]=>simp [allR_one]
 | a :: b :: t=>simp
theorem nums_4:(numsM n 4 999999 && (decide (n.nums.getD 2 0≤1) && decide (n.nums.getD 3 0≤1)))=withinM n.nums [(0,999999),(0,999999),(0,1),(0,1)]:=by
 unfold numsM withinM
 match h:n.nums with
 | []=>simp
 | [a]=>simp
 | [a,b]=>simp
 | [a,b,c]=>simp
 | [a,b,c,d] =>
  rw [Bool.eq_iff_iff]
  simp [allR_four]
  omega
 | a :: b :: c :: d :: e :: t=>simp
theorem nums_2:(decide (n.nums.length=2) && (inB (n.nums.getD 0 0) 0 999999 && inB (n.nums.getD 1 0) (-999999) 999999))=withinM n.nums [(0,999999),(-999999,999999)]:=by
 unfold inB withinM
 match h:n.nums with
 | []=>simp
 | [a]=>simp
 | [a,b]=>simp [allR_two]
 | a :: b :: c :: t=>simp
theorem vars_eq:allM l n (varsN l n) 6 15=pAllM ((n.kids.map (knd l)).dropWhile fun x=>decide (x=2)) 2:=by
 have key:∀ ks:List Int,allR ks.length (fun i=>decide (i < (ks.takeWhile fun x=>decide (x=2)).length) || inB (ks.getD i 0) 6 15)=pAllM (ks.dropWhile fun x=>decide (x=2)) 2:=by
  intro ks
  induction ks with
  | nil=>rfl
  | cons a t ih =>
   by_cases ha:a=2
   ·rw [List.dropWhile_cons_of_pos (by simpa using ha),← ih,List.takeWhile_cons_of_pos (by simpa using ha)]
    rw [Bool.eq_iff_iff,allR_iff,allR_iff]
    constructor
    ·intro h j hj
     have:=h (j + 1) (by simp; omega)
     simpa using this
    ·intro h j hj
     cases j with
     | zero=>simp
     | succ j =>
      have:=h j (by simp at hj; omega)
      simpa using this
   ·rw [List.dropWhile_cons_of_neg (by simpa using ha),List.takeWhile_cons_of_neg (by simpa using ha)]
    unfold pAllM
    exact allR_congr (fun j hj=>by rw [sort2]; simp)
 rw [← key]
 unfold allM varsN
 rw [List.length_map]
 refine allR_congr (fun j hj=>?_)
 rw [kid_map hj]
 have:((n.kids.map (knd l)).takeWhile fun x=>decide (x=2))=(n.kids.takeWhile fun k=>decide (knd l k=2)).map (knd l):=by
  rw [List.takeWhile_map]; rfl
 rw [this,List.length_map]
theorem zero_eq:decide (n.kids.length=0)=decide ((n.kids.map (knd l)).length=0):=by rw [List.length_map]
set_option maxHeartbeats 2000000 in
theorem node_eq (hk:n.kids.length≤800):nodeM l n=nodeP l n:=by
 unfold nodeM nodeP
 by_cases e0:n.kind=0
 ·rw [e0]
  have hw:wcount 0=0:=rfl
  simp only [reduceIte,Int.reduceEq,hw]
  rw [nums_0,all_eq sort1]
  rfl
 by_cases e1:n.kind=1
 ·rw [e1]
  have hw:wcount 1=1:=rfl
  simp only [reduceIte,Int.reduceEq,hw]
  rw [zero_eq (l:=l),← Bool.and_assoc (decide _) (decide _) (decide _),← Bool.and_assoc (numsM _ _ _),nums_4]
  rfl
 by_cases e2:n.kind=2
 ·rw [e2]
  have hw:wcount 2=1:=rfl
  simp only [reduceIte,Int.reduceEq,hw]
  rw [zero_eq (l:=l),← Bool.and_assoc (inB _ _ _) (inB _ _ _),← Bool.and_assoc (decide (n.nums.length=2)),nums_2]
  rfl
 by_cases e3:n.kind=3
 ·rw [e3]
  have hw:wcount 3=1:=rfl
  simp only [reduceIte,Int.reduceEq,hw]
  rw [nums_1,vars_eq]
  rfl
 by_cases e4:n.kind=4
 ·rw [e4]
  have hw:wcount 4=0:=rfl
  simp only [reduceIte,Int.reduceEq,hw]
  rw [nums_0,exprs_eq,ex_100]
  rfl
 by_cases e5:n.kind=5
 ·rw [e5]
  have hw:wcount 5=0:=rfl
  simp only [reduceIte,Int.reduceEq,hw]
  rw [nums_0,zero_eq (l:=l)]
  rfl
 by_cases e6:n.kind=6
 ·rw [e6]
  have hw:wcount 6=1:=rfl
  simp only [reduceIte,Int.reduceEq,hw]
  rw [nums_0,exprs_eq,ex_100]
  rfl
 by_cases e7:n.kind=7
 ·rw [e7]
  have hw:wcount 7=1:=rfl
  simp only [reduceIte,Int.reduceEq,hw]
  rw [nums_0,exprs_eq,ex_100]
  rfl
 by_cases e8:n.kind=8
 ·rw [e8]
  have hw:wcount 8=2:=rfl
  simp only [reduceIte,Int.reduceEq,hw]
  rw [nums_1,zero_eq (l:=l)]
  rfl
 by_cases e9:n.kind=9
 ·rw [e9]
  have hw:wcount 9=0:=rfl
  simp only [reduceIte,Int.reduceEq,hw]
  rw [nums_1,exprs_eq,ex_100]
  rfl
 by_cases e10:n.kind=10
 ·rw [e10]
  have hw:wcount 10=0:=rfl
  simp only [reduceIte,Int.reduceEq,hw]
  rw [nums_1,exprs_eq,ex_018 _ (by rw [List.length_map]; exact hk)]
  rfl
 by_cases e11:n.kind=11
 ·rw [e11]
  have hw:wcount 11=0:=rfl
  simp only [reduceIte,Int.reduceEq,hw]
  rw [nums_0,exprs_eq,ex_112]
  rfl
 by_cases e12:n.kind=12
 ·rw [e12]
  have hw:wcount 12=0:=rfl
  simp only [reduceIte,Int.reduceEq,hw]
  rw [nums_0,exprs_eq,ex_111]
  rfl
 by_cases e13:n.kind=13
 ·rw [e13]
  have hw:wcount 13=0:=rfl
  simp only [reduceIte,Int.reduceEq,hw]
  rw [nums_0,exprs_eq,ex_011]
  rfl
 by_cases e14:n.kind=14
 ·rw [e14]
  have hw:wcount 14=0:=rfl
  simp only [reduceIte,Int.reduceEq,hw]
  rw [nums_0,zero_eq (l:=l)]
  rfl
 by_cases e15:n.kind=15
 ·rw [e15]
  have hw:wcount 15=0:=rfl
  simp only [reduceIte,Int.reduceEq,hw]
  rw [nums_0,zero_eq (l:=l)]
  rfl
 by_cases e16:n.kind=16
 ·rw [e16]
  have hw:wcount 16=0:=rfl
  simp only [reduceIte,Int.reduceEq,hw]
  rw [nums_0,all_eq sort2]
  rfl
 by_cases e17:n.kind=17
 ·rw [e17]
  have hw:wcount 17=0:=rfl
  simp only [reduceIte,Int.reduceEq,hw]
  rw [nums_1,zero_eq (l:=l)]
  rfl
 by_cases e18:n.kind=18
 ·rw [e18]
  have hw:wcount 18=1:=rfl
  simp only [reduceIte,Int.reduceEq,hw]
  rw [nums_0,zero_eq (l:=l)]
  rfl
 by_cases e19:n.kind=19
 ·rw [e19]
  have hw:wcount 19=1:=rfl
  simp only [reduceIte,Int.reduceEq,hw]
  rw [nums_0,zero_eq (l:=l)]
  rfl
 by_cases e20:n.kind=20
 ·rw [e20]
  have hw:wcount 20=0:=rfl
  simp only [reduceIte,Int.reduceEq,hw]
  rw [nums_0,exprs_eq,ex_100]
  rfl
 by_cases e21:n.kind=21
 ·rw [e21]
  have hw:wcount 21=0:=rfl
  simp only [reduceIte,Int.reduceEq,hw]
  rw [nums_0,exprs_eq,ex_100]
  rfl
 by_cases e22:n.kind=22
 ·rw [e22]
  have hw:wcount 22=0:=rfl
  simp only [reduceIte,Int.reduceEq,hw]
  rw [nums_1,exprs_eq,ex_200]
  rfl
 have hf:kidsM n.kind (n.kids.map (knd l))=false:=by
  unfold kidsM
  rw [if_neg e0,if_neg e3,if_neg e16,if_neg e10,if_neg e11,if_neg e12,if_neg e13,if_neg (by omega),if_neg e22,if_neg (by omega)]
 rw [hf]
 simp [e0,e1,e2,e3,e4,e5,e6,e7,e8,e9,e10,e11,e12,e13,e14,e15,e16,e17,e18,e19,e20,e21,e22]
end
theorem walkK_cnt {l:List Nd} {ih:Nat→Nat × Bool} (h:∀ i e,i < l.length→ih i=(e,true)→i < e∧e≤l.length):∀ (ks:List Int) (i e:Nat),i≤l.length→walkK l ih ks i=(e,true)→i + ks.length≤e∧e≤l.length
 | [],i,e,hi,hw=>by simp [walkK] at hw; subst hw; simp [hi]
 | k :: ks,i,e,hi,hw=>by
  unfold walkK at hw
  split at hw
  ·rename_i hc
   split at hw
   ·rename_i hok
    have h1:=h i (ih i).1 hc.2 (by rw [← hok])
    have:=walkK_cnt h ks (ih i).1 e h1.2 hw
    simp; omega
   ·simp at hw
  ·simp at hw
theorem treeK_iff {l:List Nd} {w t:Nat→Nat × Bool} {Q:Nat→Prop} (h1:∀ i e,i < l.length→w i=(e,true)→i < e∧e≤l.length) (h2:∀ i,l.length≤i→(t i).2=false)
  (h:∀ i e,i < l.length→(t i=(e,true)↔w i=(e,true)∧∀ j,i≤j→j < e→Q j)) :
  ∀ (ks:List Int) (i e:Nat),i≤l.length→(treeK t ks i=(e,true)↔walkK l w ks i=(e,true)∧∀ j,i≤j→j < e→Q j)
 | [],i,e,hi=>by
  simp only [treeK,walkK]
  constructor
  ·intro h; simp at h; subst h; exact ⟨rfl,fun j h1 h2=>by omega⟩
  ·exact fun h=>h.1
 | k :: ks,i,e,hi=>by
  unfold treeK walkK
  by_cases hk:k=i
  ·by_cases hi':i < l.length
   ·rw [if_pos hk,if_pos (show k=(i:Int)∧i < l.length from ⟨hk,hi'⟩)]
    have hx:=fun e=>h i e hi'
    constructor
    ·intro ht
     split at ht
     ·rename_i hok
      have e1:=(hx (t i).1).1 (by rw [← hok])
      have g:=h1 i _ hi' e1.1
      have e2:=(treeK_iff h1 h2 h ks (t i).1 e g.2).1 ht
      rw [if_pos (by rw [e1.1])]
      have e3:(w i).1=(t i).1:=by rw [e1.1]
      rw [e3]
      exact ⟨e2.1,fun j a b=>if hj:j < (t i).1 then e1.2 j a hj else e2.2 j (by omega) b⟩
     ·simp at ht
    ·rintro ⟨hw,hQ⟩
     split at hw
     ·rename_i hok
      have g:=h1 i (w i).1 hi' (by rw [← hok])
      have cnt:=walkK_cnt h1 ks (w i).1 e g.2 hw
      have e1:=(hx (w i).1).2 ⟨by rw [← hok],fun j a b=>hQ j a (by omega)⟩
      rw [if_pos (by rw [e1])]
      have e3:(t i).1=(w i).1:=by rw [e1]
      rw [e3]
      exact (treeK_iff h1 h2 h ks (w i).1 e g.2).2 ⟨hw,fun j a b=>hQ j (by omega) b⟩
     ·simp at hw
   ·rw [if_pos hk,if_neg (show ¬ (k=(i:Int)∧i < l.length) from fun e=>hi' e.2),h2 i (by omega)]
    simp
  ·rw [if_neg hk,if_neg (show ¬ (k=(i:Int)∧i < l.length) from fun e=>hk e.1)]
   simp
theorem tree_iff {l:List Nd}:∀ (d i e:Nat),i < l.length→(treeM l d i=(e,true)↔walkM l d i=(e,true)∧∀ j,i≤j→j < e→nodeP l (l.getD j nd0')=true)
 | 0,i,e,hi=>by simp [treeM,walkM]
 | d + 1,i,e,hi=>by
  have hw1:∀ i e,i < l.length→walkM l d i=(e,true)→i < e∧e≤l.length:=fun i e h1 h2=>by have:=walkM_ok d i e h1 h2; exact ⟨this.1,this.2.1⟩
  have key:=treeK_iff (l:=l) (w:=walkM l d) (t:=treeM l d) (Q:=fun j=>nodeP l (l.getD j nd0')=true) hw1
   (fun i hi=>by cases d with
    | zero=>rfl
    | succ d=>unfold treeM; rw [if_neg (by omega)])
   (fun i e hi=>tree_iff d i e hi) (l.getD i nd0').kids (i + 1)
  unfold treeM walkM
  rw [if_pos hi]
  constructor
  ·intro ht
   split at ht
   ·rename_i hok
    simp only [Prod.mk.injEq] at ht
    have k1:=(key e (by omega)).1 (by rw [← ht.1,← hok])
    exact ⟨k1.1,fun j a b=>if hj:j=i then by rw [hj]; exact ht.2 else k1.2 j (by omega) b⟩
   ·simp at ht
  ·rintro ⟨hw,hQ⟩
   have cnt:=walkK_cnt hw1 (l.getD i nd0').kids (i + 1) e (by omega) hw
   have k1:=(key e (by omega)).2 ⟨hw,fun j a b=>hQ j (by omega) b⟩
   rw [k1]
   simp only [if_true]
   rw [hQ i (by omega) (by omega)]
theorem kids_len {l:List Nd} (d:Nat):∀ (i e:Nat),i < l.length→walkM l d i=(e,true)→∀ j,i≤j→j < e→(l.getD j nd0').kids.length≤l.length:=by
 induction d with
 | zero=>intro i e hi hw; simp [walkM] at hw
 | succ d IH =>
  intro i e hi hw j h1 h2
  unfold walkM at hw
  by_cases hj:j=i
  ·subst hj
   have:=walkK_cnt (l:=l) (ih:=walkM l d) (fun i e h1 h2=>by have:=walkM_ok d i e h1 h2; exact ⟨this.1,this.2.1⟩) _ (j + 1) e (by omega) hw
   omega
  ·have:=walkK_ok (l:=l) (ih:=walkM l d) (Q:=fun j=>(l.getD j nd0').kids.length≤l.length) (fun i' e' hi' hw'=>by
    have h:=walkM_ok d i' e' hi' hw'
    exact ⟨h.1,h.2.1,IH i' e' hi' hw'⟩) _ (i + 1) e (by omega) hw
   exact this.2.2.2 j (by omega) h2
theorem right_eq (l:List Nd):prRightM l=rightM l:=by
 unfold prRightM rightM
 by_cases h1:0 < l.length
 rotate_left
 ·simp [h1]
 by_cases h2:l.length≤800
 rotate_left
 ·simp [h2]
 congr 1
 congr 1
 congr 1
 rw [Bool.eq_iff_iff]
 simp only [Bool.and_eq_true,decide_eq_true_eq,allR_iff]
 have key:=tree_iff (l:=l) 20 0 l.length h1
 constructor
 ·rintro ⟨a,b⟩
  have e:treeM l 20 0=(l.length,true):=by rw [← a,← b]
  obtain ⟨w,hn⟩:=key.1 e
  refine ⟨by rw [w],by rw [w],fun j hj=>?_⟩
  rw [node_eq (by have:=kids_len 20 0 _ h1 w j (by omega) hj; omega)]
  exact hn j (by omega) hj
 ·rintro ⟨a,b,c⟩
  have w:walkM l 20 0=(l.length,true):=by rw [← a,← b]
  have:=key.2 ⟨w,fun j _ hj=>by
   rw [← node_eq (by have:=kids_len 20 0 _ h1 w j (by omega) hj; omega)]
   exact c j hj⟩
  rw [this]
  exact ⟨rfl,rfl⟩
end Go.Proofs.YtcffdpmmadipeaaGreatDoor
