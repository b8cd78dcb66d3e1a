/- Closed runs: functions as they are run. -/
import Derived.Test.YtndbdehpkiimjaaGreatRunX
import Derived.Test.YtndbdehpkiimjaaGreatRunTy
import Derived.Test.YtndbdehpkiimjaaGreatProg
import Derived.Test.YtndbdehpkiimjaaGreatVxE
import Derived.Test.YtndbdehpkiimjaaGreatFnA
import Derived.Test.YtndbdehpkiimjaaGreatFnB
import Derived.Test.YtndbdehpkiimjaaGreatFnC
import Derived.Test.YtndbdehpkiimjaaGreatFnD
import Derived.Test.YtndbdehpkiimjaaGreatFnE
import Derived.Test.YtndbdehpkiimjaaGreatRunZ
namespace Go.Run
open Go.HL
set_option maxRecDepth 1000000
set_option linter.unusedVariables false
noncomputable section
def f5T : FT := [⟨6, 1, F6, noP⟩, ⟨8, 2, F8x, noP⟩]
def f5A (K : AV → AH → Bool) : An := (.s .z (.s .z (.s (.d ((Plan.lookx 0 (lk [(2, false)] (Plan.act 1 (Plan.act 3 (Plan.act 4 (Plan.act 5 (Plan.acth 6 (Plan.acth 7 Plan.fin)) Plan.non) (Plan.act 5 (Plan.act 4 (Plan.acth 6 (Plan.acth 7 Plan.fin)) Plan.non) Plan.non)) (Plan.act 4 (Plan.act 3 (Plan.act 5 (Plan.acth 6 (Plan.acth 7 Plan.fin)) Plan.non) (Plan.act 5 (Plan.act 3 (Plan.acth 6 (Plan.acth 7 Plan.fin)) Plan.non) Plan.non)) (Plan.act 5 (Plan.act 3 (Plan.act 4 (Plan.acth 6 (Plan.acth 7 Plan.fin)) Plan.non) (Plan.act 4 (Plan.act 3 (Plan.acth 6 (Plan.acth 7 Plan.fin)) Plan.non) Plan.non)) Plan.non))) (Plan.act 4 (Plan.act 1 (Plan.act 3 (Plan.act 5 (Plan.acth 6 (Plan.acth 7 Plan.fin)) Plan.non) (Plan.act 5 (Plan.act 3 (Plan.acth 6 (Plan.acth 7 Plan.fin)) Plan.non) Plan.non)) (Plan.act 5 (Plan.act 1 (Plan.act 3 (Plan.acth 6 (Plan.acth 7 Plan.fin)) Plan.non) Plan.non) Plan.non)) (Plan.act 5 (Plan.act 1 (Plan.act 3 (Plan.act 4 (Plan.acth 6 (Plan.acth 7 Plan.fin)) Plan.non) (Plan.act 4 (Plan.act 3 (Plan.acth 6 (Plan.acth 7 Plan.fin)) Plan.non) Plan.non)) (Plan.act 4 (Plan.act 1 (Plan.act 3 (Plan.acth 6 (Plan.acth 7 Plan.fin)) Plan.non) Plan.non) Plan.non)) Plan.non))))))) (.s .z .z))))
def F5 (A : AH) (K : AV → AH → Bool) : Bool := bldA [AV.n (nat_lit 0), AV.n (nat_lit 0), AV.b false, AV.b false] [(nat_lit 0, nat_lit 1, AV.n (nat_lit 2)), (nat_lit 1, nat_lit 1, AV.z IntKind.i64 (Int.negSucc (nat_lit 0)))] fun v1 => allA A [AV.n (nat_lit 0), AV.n (nat_lit 0), AV.b false, AV.b false] fun v2 A3 => stA A3 v2 v1 (nat_lit 4) fun A4 => ldN A4 v2 (nat_lit 4) fun y5 => hldS A4 v2 (nat_lit 4) [] fun y6 y7 => allA A4 [AV.n (nat_lit 0), AV.n (nat_lit 0), AV.n (nat_lit 0), AV.nil (nat_lit 1), AV.n (nat_lit 0)] fun v8 A9 => allA A4 [AV.n (nat_lit 0), AV.n (nat_lit 0), AV.n (nat_lit 0), AV.nil (nat_lit 1), AV.n (nat_lit 0)] fun v10 A11 => F8x (AV.s [nat_lit 112, nat_lit 114, nat_lit 111, nat_lit 99, nat_lit 32, nat_lit 112, nat_lit 32, nat_lit 123, nat_lit 32, nat_lit 115, nat_lit 107, nat_lit 105, nat_lit 112, nat_lit 59, nat_lit 32, nat_lit 125]) (AV.a y5) A4 fun v12 A13 => chkH y6 A13 (allA A13 [AV.n (nat_lit 0), AV.n (nat_lit 0), AV.n (nat_lit 0), AV.nil (nat_lit 1), AV.n (nat_lit 0)] fun v14 A15 => allA A13 [AV.n (nat_lit 0), AV.n (nat_lit 0), AV.n (nat_lit 0), AV.nil (nat_lit 1), AV.n (nat_lit 0)] fun v16 A17 => F8x (AV.s [nat_lit 120]) (AV.a y7) A13 fun v18 A19 => chkH y6 A19 (allA A19 [AV.n (nat_lit 0), AV.n (nat_lit 0), AV.n (nat_lit 0), AV.nil (nat_lit 1), AV.n (nat_lit 0)] fun v20 A21 => allA A19 [AV.n (nat_lit 0), AV.n (nat_lit 0), AV.n (nat_lit 0), AV.nil (nat_lit 1), AV.n (nat_lit 0)] fun v22 A23 => allA A23 [AV.n (nat_lit 0), AV.n (nat_lit 0), AV.n (nat_lit 0), AV.nil (nat_lit 1), AV.n (nat_lit 0)] fun v24 A25 => stA A25 v22 v12 (nat_lit 5) fun A26 => stA A26 v24 v18 (nat_lit 5) fun A27 => fldP v22 (nat_lit 0) fun v28 => ld A27 v28 fun v29 => eqlA v29 (AV.n (nat_lit 0)) fun v30 => gdK v30 true (fun k31 => fldP v24 (nat_lit 0) fun v32 => k31 v32 A27) A27 fun v33 A34 => gdK v30 true (fun k35 => ld A34 v33 fun v36 => k35 v36 A34) A34 fun v37 A38 => gdK v30 true (fun k39 => eqlA v37 (AV.n (nat_lit 3)) fun v40 => k39 v40 A38) A38 fun v41 A42 => pickA v30 v41 (AV.b false) fun v43 => gdK v43 true (fun k44 => fldP v24 (nat_lit 1) fun v45 => k44 v45 A42) A42 fun v46 A47 => gdK v43 true (fun k48 => ldN A47 v46 (nat_lit 2) fun y49 => k48 (AV.a y49) A47) A47 fun v50 A51 => gdK v43 true (fun k52 => bldA [AV.n (nat_lit 0), AV.n (nat_lit 0)] [(nat_lit 0, nat_lit 1, AV.n (nat_lit 11))] fun v53 => k52 v53 A51) A51 fun v54 A55 => gdK v43 true (fun k56 => strE [(nat_lit 0, nat_lit 0), (nat_lit 1, nat_lit 0)] false v50 v54 fun v57 => k56 v57 A55) A55 fun v58 A59 => pickA v43 v58 (AV.b false) fun v60 => gdK v60 true (F6 (AV.n (nat_lit 0)) A59) A59 fun v64 A65 => gdK v60 true (fun k66 => seqA v64 (AV.s [nat_lit 115, nat_lit 97, nat_lit 102, nat_lit 101]) fun v67 => k66 v67 A65) A65 fun v68 A69 => pickA v60 v68 (AV.b false) fun v70 => K v70 A69))
theorem F5_ok : FOK Go.Proofs.Tryz.prog 5 0 F5 := fok_col (an := f5A) (T := Ty) (Tb := f5T) (rs := [.tmp 0]) rfl Ty_ok (TOK.cons F6_ok (TOK.cons F8x_ok TOK.nil)) rfl rfl rfl rfl rfl rfl (by kernel_rfl) (by kernel_rfl)
def f3T : FT := [⟨5, 0, F5, noP⟩, ⟨6, 1, F6, noP⟩, ⟨7, 1, F7, noP⟩]
def f3A (K : AV → AH → Bool) : An := (.s .z (.s .z .z))
def F3 (x0 : AV) (A : AH) (K : AV → AH → Bool) : Bool := F5 A fun v1 A2 => gdK v1 true (fun k3 => k3 x0 A2) A2 fun v4 A5 => gdK v1 true (F6 v4 A5) A5 fun v9 A10 => gdK v1 true (fun k11 => k11 x0 A10) A10 fun v12 A13 => gdK v1 true (F7 v12 A13) A13 fun v17 A18 => gdK v1 true (fun k19 => seqA v9 v17 fun v20 => k19 v20 A18) A18 fun v21 A22 => pickA v1 v21 (AV.b false) fun v23 => K v23 A22
theorem F3_ok : FOK Go.Proofs.Tryz.prog 3 1 F3 := fok_col (an := f3A) (T := Ty) (Tb := f3T) (rs := [.tmp 2]) rfl Ty_ok (TOK.cons F5_ok (TOK.cons F6_ok (TOK.cons F7_ok TOK.nil))) rfl rfl rfl rfl rfl rfl (by kernel_rfl) (by kernel_rfl)
def f4T : FT := [⟨5, 0, F5, noP⟩, ⟨8, 2, F8x, noP⟩]
def f4A (K : AV → AH → Bool) : An := (.s .z (.s (.s .z (.c (.s .z .z) .z)) (.s .z (.s .z (.s (.s .z (.c (.s .z .z) .z)) (.s .z .z))))))
def F4 (x0 x1 : AV) (A : AH) (K : AV → AH → Bool) : Bool := F5 A fun v1 A2 => notA v1 fun v3 => cnd v3 (K (AV.b false) A2) (convA IntKind.i64 x0 fun v4 => remA v4 (AV.n (nat_lit 3)) fun v5 => addA (AV.n (nat_lit 1)) v5 fun v6 => convA IntKind.i64 x1 fun v7 => remA v7 (AV.n (nat_lit 5)) fun v8 => addA (AV.n (nat_lit 48)) v6 fun v9 => convA IntKind.u8 v9 fun v10 => bslA A2 Ty5 (nat_lit 1) [(nat_lit 0, nat_lit 1, v10)] fun v11 A12 => strC A12 v11 fun v13 => scatA (AV.s [nat_lit 99, nat_lit 104, nat_lit 97, nat_lit 110, nat_lit 32, nat_lit 99, nat_lit 91]) v13 fun v14 => scatA v14 (AV.s [nat_lit 93, nat_lit 32, nat_lit 111, nat_lit 102, nat_lit 32, nat_lit 49, nat_lit 59, nat_lit 32, nat_lit 112, nat_lit 114, nat_lit 111, nat_lit 99, nat_lit 32, nat_lit 112, nat_lit 32, nat_lit 123, nat_lit 32, nat_lit 119, nat_lit 104, nat_lit 105, nat_lit 108, nat_lit 101, nat_lit 32, nat_lit 49, nat_lit 32, nat_lit 123, nat_lit 32, nat_lit 115, nat_lit 101, nat_lit 110, nat_lit 100, nat_lit 32, nat_lit 99, nat_lit 32, nat_lit 48, nat_lit 59, nat_lit 32, nat_lit 125, nat_lit 32, nat_lit 125, nat_lit 32, nat_lit 115, nat_lit 97, nat_lit 102, nat_lit 101, nat_lit 32, nat_lit 108, nat_lit 101, nat_lit 110, nat_lit 32, nat_lit 99, nat_lit 32, nat_lit 60, nat_lit 32]) fun v15 => addA (AV.n (nat_lit 48)) v8 fun v16 => convA IntKind.u8 v16 fun v17 => bslA A12 Ty5 (nat_lit 1) [(nat_lit 0, nat_lit 1, v17)] fun v18 A19 => strC A19 v18 fun v20 => scatA v15 v20 fun v21 => scatA v21 (AV.s [nat_lit 59]) fun v22 => bldA [AV.n (nat_lit 0), AV.n (nat_lit 0), AV.b false, AV.b false] [(nat_lit 0, nat_lit 1, AV.n (nat_lit 8)), (nat_lit 1, nat_lit 1, AV.z IntKind.i64 (Int.negSucc (nat_lit 0)))] fun v23 => F8x v22 v23 A19 fun v24 A25 => allA A25 [AV.n (nat_lit 0), AV.n (nat_lit 0), AV.n (nat_lit 0), AV.nil (nat_lit 1), AV.n (nat_lit 0)] fun v26 A27 => stA A27 v26 v24 (nat_lit 5) fun A28 => gtrA v8 v6 fun v29 => cnd v29 (fldP v26 (nat_lit 0) fun v30 => ld A28 v30 fun v31 => eqlA v31 (AV.n (nat_lit 0)) fun v32 => K v32 A28) (fldP v26 (nat_lit 0) fun v33 => ld A28 v33 fun v34 => eqlA v34 (AV.n (nat_lit 1)) fun v35 => gdK v35 true (fun k36 => fldP v26 (nat_lit 3) fun v37 => k36 v37 A28) A28 fun v38 A39 => gdK v35 true (fun k40 => ld A39 v38 fun v41 => k40 v41 A39) A39 fun v42 A43 => gdK v35 true (fun k44 => lenA v42 fun v45 => k44 v45 A43) A43 fun v46 A47 => gdK v35 true (fun k48 => k48 v8 A47) A47 fun v49 A50 => gdK v35 true (fun k51 => mulA (AV.n (nat_lit 2)) v49 fun v52 => k51 v52 A50) A50 fun v53 A54 => gdK v35 true (fun k55 => eqlA v46 v53 fun v56 => k55 v56 A54) A54 fun v57 A58 => pickA v35 v57 (AV.b false) fun v59 => K v59 A58))
theorem F4_ok : FOK Go.Proofs.Tryz.prog 4 2 F4 := fok_col (an := f4A) (T := Ty) (Tb := f4T) (rs := [.tmp 4]) rfl Ty_ok (TOK.cons F5_ok (TOK.cons F8x_ok TOK.nil)) rfl rfl rfl rfl rfl rfl (by kernel_rfl) (by kernel_rfl)
end
end Go.Run

namespace Go.Run
open Go.HL
set_option maxRecDepth 1000000
set_option linter.unusedVariables false
theorem vn0 : F3 (.n 0) A0 yes = true := by kernel_rfl
theorem vn1 : F3 (.n 1) A0 yes = true := by kernel_rfl
theorem vn2 : F3 (.n 2) A0 yes = true := by kernel_rfl
theorem vn3 : F3 (.n 3) A0 yes = true := by kernel_rfl
theorem vnN (n : Nat) : F3 (.n (n + 4)) A0 yes = true := by kernel_rfl
theorem vnZ (y : Nat) : F3 (.z .i64 (Int.negSucc y)) A0 yes = true := by kernel_rfl
theorem vn_pos : ∀ n : Nat, F3 (.n n) A0 yes = true
  | 0 => vn0
  | 1 => vn1
  | 2 => vn2
  | 3 => vn3
  | n + 4 => vnN n
theorem verdictNames_spec {H : Heap} {m0 : Int} (h0 : -9223372036854775808 ≤ m0 ∧ m0 ≤ 9223372036854775807) : CallF Go.Proofs.Tryz.prog 3 [.int .i64 m0] H (fun r H' => r = .bool true ∧ Fr [] H H') NoP := by
  cases m0 with
  | ofNat n => exact spec_of F3_ok (args := [.n n]) (by simp only [VRl, VR]; exact ⟨_, _, rfl, ⟨rfl, by have := h0.2; simp only [Int.ofNat_eq_natCast] at this; omega⟩, rfl⟩) (vn_pos n)
  | negSucc y => exact spec_of F3_ok (args := [.z .i64 (Int.negSucc y)]) (by simp only [VRl, VR]; exact ⟨_, _, rfl, rfl, rfl⟩) (vnZ y)
end Go.Run

