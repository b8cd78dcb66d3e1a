/- Closed runs: rep, a call that looks at nothing and changes nothing. -/
import Derived.Test.YtgpogemdoopdjaaGreatRunX
import Derived.Test.YtgpogemdoopdjaaGreatHLStr
import Derived.Test.YtgpogemdoopdjaaGreatProg
namespace Go.Run
open Go.HL
set_option linter.unusedVariables false
set_option linter.unusedSimpArgs false
noncomputable section
set_option maxRecDepth 100000
def repU (l:List UInt8):Nat→List UInt8
 | 0=>[]
 | n + 1=>repU l n ++ l
def repN (l:List Nat) (n:Nat):List Nat:=@Nat.rec (fun _=>List Nat) [] (fun _ r=>r ++ l) n
def rep_p:List AV→(AV→Bool)→Bool:=fun args k=>match args with
 | [.s l,.n n]=>ifB (Nat.ble n 100) (ifB (Nat.ble (lenL l) 100) (k (.s (repN l n))) false) false
 | _=>false
theorem repN_len (l:List Nat) (n:Nat):(repN l n).length=n * l.length:=by
 induction n with
 | zero=>simp; rfl
 | succ n ih=>show (repN l n ++ l).length=_; rw [List.length_append,ih,Nat.succ_mul]
theorem repN_lt {l:List Nat} (h:∀ x ∈ l,x < 256) (n:Nat):∀ x ∈ repN l n,x < 256:=by
 induction n with
 | zero=>intro x hx; cases hx
 | succ n ih =>
  intro x hx
  have hx:x ∈ repN l n ++ l:=hx
  rcases List.mem_append.1 hx with hx | hx
  ·exact ih x hx
  ·exact h x hx
section
variable {H:Heap}
theorem rep_spec {l:List UInt8} {n:Nat} (hn:n≤100) (hl:l.length≤100) :
  CallF Go.Proofs.Tryz.prog 19 [.string (bs l),.int .i64 n] H (fun r H'=>r=.string (bs (repU l n))∧H'=H) NoP:=by
 refine callF_of Go.Proofs.Tryz.func19 rfl Go.Proofs.Tryz.ntmps19 Go.Proofs.Tryz.results19 (by decide) rfl ?_
 simp (disch:=omega) only [go_sem,↓cw_block,dsB_of]
 refine loop_by (fun k ρ H1=>∃ (j:Nat) (m:List UInt8),k=n - j∧j≤n∧m=repU l j∧m.length=j * l.length∧(ρ.get 0=.string (bs l)∧ρ.get 1=.int .i64 n∧ρ.get 5=.string (bs m)∧ρ.get 6=.int .i64 j∧ρ.ds = [])∧H1=H) (k:=n) ?_ ?_
 ·exact ⟨0,[],by simp,by omega,rfl,by simp,by simp (disch:=omega) only [go_sem,↓cw_block,dsB_of],rfl⟩
 ·rintro _ ρ H1 ⟨j,m,rfl,hj,hm,hlen,⟨r0,r1,r5,r6,rd⟩,rfl⟩
  have hjl:j * l.length≤100 * 100:=Nat.mul_le_mul (by omega) hl
  simp (disch:=omega) only [go_sem,↓cw_block,dsB_of,r0,r1,r5,r6,rd]
  refine cond_dec (fun h=>?_) (fun h=>?_)
  ·simp (disch:=omega) only [go_sem,↓cw_block,dsB_of,r0,r1,r5,r6,rd,hlen]
   have hjn:j < n:=by omega
   refine fin ⟨n - (j + 1),by omega,j + 1,m ++ l,rfl,by omega,by rw [hm]; rfl,by rw [List.length_append,hlen,Nat.succ_mul],⟨by simp (disch:=omega) only [go_sem,↓cw_block,dsB_of,r0],by simp (disch:=omega) only [go_sem,↓cw_block,dsB_of,r1],by simp (disch:=omega) only [go_sem,↓cw_block,dsB_of],by simp (disch:=omega) only [go_sem,↓cw_block,dsB_of]; simp,by simp (disch:=omega) only [go_sem,↓cw_block,dsB_of,rd]⟩,rfl⟩
  ·simp (disch:=omega) only [go_sem,↓cw_block,dsB_of,r0,r1,r5,r6,rd]
   have:j=n:=by omega
   subst this
   exact fin ⟨by rw [hm],rfl⟩
end
theorem repN_map (a:List Nat) (n:Nat):(repN a n).map UInt8.ofNat=repU (a.map UInt8.ofNat) n:=by
 induction n with
 | zero=>rfl
 | succ n ih =>
  show (repN a n ++ a).map UInt8.ofNat=repU (a.map UInt8.ofNat) n ++ a.map UInt8.ofNat
  rw [List.map_append,ih]
theorem rep_p_pur:PUR Go.Proofs.Tryz.prog 19 rep_p:=by
 intro σ φ args ws k hv h
 unfold rep_p at h
 split at h
 ·rename_i a n
  obtain ⟨h1,h⟩:=ifB_and h
  obtain ⟨h2,h⟩:=ifB_and h
  have h1:=Nat.le_of_ble_eq_true h1
  have h2:=Nat.le_of_ble_eq_true h2
  rw [lenL_eq] at h2
  simp only [VRl] at hv
  obtain ⟨w0,_,rfl,v0,w1,_,rfl,v1,rfl⟩:=hv
  obtain ⟨l,e,rfl,ha,_⟩:=on_s_sound (k:=fun _=>true) v0 rfl
  cases e
  simp only [VR] at v1
  obtain ⟨rfl,_⟩:=v1
  refine ⟨.s (repN a n),.string (strOf (repN a n)),VR_str (repN_lt ha n),h,fun H=>?_⟩
  have:=rep_spec (H:=H) (l:=a.map UInt8.ofNat) (n:=n) h1 (by simpa using h2)
  rw [← repN_map] at this
  exact this
 ·cases h
end
end Go.Run
