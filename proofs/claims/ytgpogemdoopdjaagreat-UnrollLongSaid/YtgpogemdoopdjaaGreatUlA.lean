
/- UnrollLong: what stands ahead of its run, and the run. -/
import Derived.Test.YtgpogemdoopdjaaGreatRunUl
import Derived.Test.YtgpogemdoopdjaaGreatHLStr
import Derived.Test.YtgpogemdoopdjaaGreatArg
namespace Go.Proofs.YtgpogemdoopdjaaGreat
open Go.HL
set_option maxRecDepth 100000
set_option linter.unusedSimpArgs false
set_option linter.unusedVariables false
theorem f7_true : Go.Run.F7 Go.Run.A0 Go.Run.yes = true := by kernel_rfl
theorem elT : elemT Tryz.prog 22 = some 4 := by kernel_rfl
theorem f3_tok : Go.Run.TOK Tryz.prog Go.Run.f3T := (Go.Run.TOK.cons Go.Run.F7_ok (Go.Run.TOK.cons Go.Run.F8_ok (Go.Run.TOK.cons Go.Run.F9_ok (Go.Run.TOK.cons Go.Run.F10_ok (Go.Run.TOK.cons Go.Run.F11_ok (Go.Run.TOK.cons Go.Run.F12_ok (Go.Run.TOK.cons Go.Run.F13_ok (Go.Run.TOK.cons Go.Run.F14_ok (Go.Run.TOK.cons Go.Run.F15_ok (Go.Run.TOK.cons Go.Run.F16_ok (Go.Run.TOK.cons Go.Run.F17_ok Go.Run.TOK.nil)))))))))))
section
variable {H : Heap}
set_option maxHeartbeats 1000000 in
theorem unrollLong_pre {m0 : Int} {a0 : Option Addr} {n c : Nat} (h0 : 0 ≤ m0 ∧ m0 ≤ 255)
    (tail : n ≤ 40 → ∀ H1, Fr [] H H1 → ∃ σ φ A x1, Go.Run.Rel σ (fun r => H1[r]?) φ A H1 ∧ Go.Run.VR σ φ x1 (.slice a0 n c) ∧ Go.Run.f3J1 Go.Run.yes (.z .u8 m0) x1 A = true) :
    CallF Tryz.prog 3 [.int .u8 m0, .slice a0 n c] H (fun r H' => r = .bool true ∧ Fr [] H H') NoP := by
  refine Go.Run.callF_of2 Tryz.func3 rfl Tryz.ntmps3 Tryz.results3 rfl rfl ?_
  refine Go.Run.CW.seq2 (cw_sound _ _ _ _ ?_)
  simp (disch := omega) only [go_sem, ↓cw_block, dsB_of]
  refine Go.Run.CW.seq3 fun K hK => cw_sound _ _ _ _ ?_
  simp (disch := omega) only [go_sem, ↓cw_block, dsB_of]
  refine call_to (Go.Run.spec_of Go.Run.F7_ok (args := []) (by simp only [Go.Run.VRl]) f7_true) ?_
  rintro _ H1 ⟨rfl, hf⟩
  simp (disch := omega) only [go_sem, ↓cw_block, dsB_of, elT]
  by_cases hl : 40 < n
  · have hd : decide (40 < (n : Int)) = true := decide_eq_true (by omega)
    rw [hd]
    simp (disch := omega) only [go_sem, ↓cw_block, dsB_of]
    refine call_to (Go.Run.spec_of Go.Run.F7_ok (args := []) (by simp only [Go.Run.VRl]) f7_true) ?_
    rintro _ H2 ⟨rfl, hf2⟩
    simp (disch := omega) only [go_sem, ↓cw_block, dsB_of]
    exact fin ⟨rfl, hf.trans hf2⟩
  · have hd : decide (40 < (n : Int)) = false := decide_eq_false (by omega)
    rw [hd]
    simp (disch := omega) only [go_sem, ↓cw_block, dsB_of]
    obtain ⟨σ, φ, A, x1, g1, g2, g3⟩ := tail (by omega) H1 hf
    refine hK _ _ ?_
    exact Go.Run.tail_yes (l := [0, 1]) (g := Go.Run.f3J1 Go.Run.yes) (P := Tryz.prog) rfl Go.Run.Ty_ok f3_tok Go.Run.f3_good.2.1 Go.Run.f3_good.2.2.2 hf g1 (Go.Run.env2 (x0 := .z .u8 m0) (x1 := x1) (by simp only [Go.Run.VR]; rfl) g2 rfl) g3
end
theorem unrollLong_spec {H : Heap} {m0 : Int} {v1 : Value} (h0 : 0 ≤ m0 ∧ m0 ≤ 255)
    (hv : v1 = .slice none 0 0 ∨ ∃ (xs : List Bool) (b o cap : Nat), v1 = .slice (some ⟨b, o, none⟩) xs.length cap ∧ xs.length ≤ cap ∧ ∃ c el fr, H[b]? = some (.cells c el fr) ∧ ∀ (i : Nat) (x : Bool), xs[i]? = some x → c[o + i]? = some (.bool x)) :
    CallF Tryz.prog 3 [.int .u8 m0, v1] H (fun r H' => r = .bool true ∧ Fr [] H H') NoP := by
  obtain ⟨a, rfl⟩ := Int.eq_ofNat_of_zero_le h0.1
  rcases hv with rfl | ⟨xs, b, o, cap, rfl, hcap, c, el, fr, hb, hc⟩
  · refine unrollLong_pre h0 fun _ H1 hf => ⟨_, _, _, .nil 1, Go.Run.A0_rel, by simp only [Go.Run.VR, Go.Run.nilOf], ?_⟩
    exact Go.Run.uln_all (by omega)
  · refine unrollLong_pre h0 fun hn H1 hf => ?_
    obtain ⟨m, hm, hk⟩ := Go.Run.ul_all (a := a) (by omega) xs
    obtain ⟨j, hj, hk⟩ := Go.Run.newB_sound hk
    have hb1 : H1[b]? = some (.cells c el fr) := by
      have hlt := (Array.getElem?_eq_some_iff.1 hb).1
      rw [hf.2 b hlt (by simp)]; exact hb
    obtain ⟨σ, φ, g1, g2⟩ := Go.Run.bits_rel (H := H1) (xs := xs) (bs := xs.take m) (b := b) (o := o) (cap := cap) hcap (by simp; omega) (by omega) (fun i x hx => by
      rw [List.getElem?_take] at hx
      split at hx
      · exact hx
      · cases hx) ⟨c, el, fr, hb1, hc⟩ hj
    exact ⟨σ, φ, _, _, g1, g2, hk⟩
open Go.ChangeShapes Go.WideShapes Go.ChangeAt Go.RowKit in
theorem arg_bits {H : Type} {enc : TypeId × Value → H} {W : World} {r : Reach} {b0 : Nat} {v : Value} {d : DataW H} {ps : List MemPlace}
    (hval : Value.okWide Tryz.prog W r b0 22 v) (hd : DataW.Trod enc Tryz.prog W 0 (fun _ => true) true 22 v d ps) :
    v = .slice none 0 0 ∨ ∃ (xs : List Bool) (b o cap : Nat), v = .slice (some ⟨b, o, none⟩) xs.length cap ∧ xs.length ≤ cap ∧ ∃ c el fr, W.heap[b]? = some (.cells c el fr) ∧ ∀ (i : Nat) (x : Bool), xs[i]? = some x → c[o + i]? = some (.bool x) := by
  obtain ⟨a0, len0, cap0, rfl⟩ := okWide_slice Tryz.underlying22 hval
  obtain ⟨a, len, cap, e, hl, hr⟩ := (TR.of hd).slice (z := 1) Tryz.underlying22 (by kernel_rfl) (by omega)
  simp [Value.cells] at e
  obtain ⟨rfl, rfl, rfl⟩ := e
  have hok := hval
  simp only [Value.okWide, Tryz.underlying22, Cell.okWide, Cell.ok] at hok
  cases a0 with
  | none =>
    left
    split at hok <;> simp_all
  | some a =>
    right
    obtain ⟨hlc, _, _, hspot, row, cells, hsh, _⟩ : len0 ≤ cap0 ∧ _ := by simpa using hok
    unfold World.shape? at hsh
    split at hsh
    · rename_i c el fr hb
      obtain ⟨b, o, sp⟩ := a
      simp only at hspot hb
      subst hspot
      have key : ∀ i, i < len0 → ∃ x : Bool, c[o + i]? = some (.bool x) := by
        intro i hi
        obtain ⟨b', o', e', hrow⟩ := hr (by omega)
        simp only [Option.some.injEq, Addr.mk.injEq, and_true] at e'
        obtain ⟨rfl, rfl⟩ := e'
        obtain ⟨es, hes, hc, ht⟩ := hrow i hi
        match es, hes with
        | [x0], _ =>
          obtain ⟨x, e0⟩ := TR.bool Tryz.underlying4 ht
          simp only [List.cons.injEq, and_true] at e0
          subst e0
          have c0 := hc 0 (by omega)
          simp [cellH, hb] at c0
          exact ⟨x, c0⟩
      obtain ⟨xs, g1, g2⟩ := list_of key
      exact ⟨xs, b, o, cap0, by rw [g1], by omega, c, el, fr, hb, fun i x hx => g2 i x hx⟩
    · cases hsh
end Go.Proofs.YtgpogemdoopdjaaGreat
