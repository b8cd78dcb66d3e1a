
/- verdict.Check as it is run: at the text x by hand, at any other one by a closed run. -/
import Derived.Test.YtndbdehpkiimjaaGreatVxD
import Derived.Test.YtndbdehpkiimjaaGreatFnE
namespace Go.Run
open Go.HL
set_option linter.unusedVariables false
noncomputable section
variable {σ : Nat → Value} {F : Nat → Option Obj} {φ : Phi} {A : AH} {H : Heap}
theorem Rel.grown {H' : Heap} (h : Rel σ F φ A H) (hf : Fr [] H H') : Rel σ F φ A H' :=
  ⟨h.dom, fun i => (h.liv i).keep fun e _ hl => hf.same e.r hl (by simp), h.inj, fun r o hr => by
    have h1 := h.frm r o hr
    rw [hf.same r (Array.getElem?_eq_some_iff.1 h1).1 (by simp)]; exact h1, fun r hs => Nat.lt_of_lt_of_le (h.st r hs) hf.size⟩
def len4 (l : List AV) (k : Bool) : Bool := @List.rec AV (fun _ => Bool) false (fun _ r _ => @List.rec AV (fun _ => Bool) false (fun _ r _ => @List.rec AV (fun _ => Bool) false (fun _ r _ => @List.rec AV (fun _ => Bool) false (fun _ r _ => @List.rec AV (fun _ => Bool) k (fun _ _ _ => false) r) r) r) r) l
def altX (G : FF 2) (s o : AV) (A : AH) (K : AV → AH → Bool) : Bool := s.on_s (fun l => ifB (eqL l [120]) (o.on_a (fun l4 => len4 l4 (K (.a [.n 3, .n 11, .n 0, .nil 1, .n 0]) A)) false) (G (.s l) o A K)) false
theorem appF2 (g : FF 2) (s o : AV) (A : AH) (K : AV → AH → Bool) : appF 2 g [s, o] A K = g s o A K := rfl
theorem ifB_f (t e : Bool) : ifB false t e = e := rfl
theorem ifB_t (t e : Bool) : ifB true t e = t := rfl
theorem altX_ok {P : Program} {f : Nat} {G : FF 2} (hG : FOK P f 2 G) (hx : ∀ (H : Heap) (o1 o2 o3 o4 : Value), CallF P f [sv [120], .agg #[o1, o2, o3, o4]] H (fun r H' => r = .agg #[.int .i64 3, .int .i64 11, .int .i64 0, .slice none 0 0, .int .i64 0] ∧ Fr [] H H') NoP) : FOK P f 2 (altX G) := by
  intro σ F φ A H args ws K hr hv hk
  have hlen := appF_len 2 _ args hk
  match args, hlen with
  | [s, o], _ =>
    have hv' := hv
    simp only [VRl] at hv
    obtain ⟨w1, _, rfl, h1, w2, _, rfl, h2, rfl⟩ := hv
    rw [appF2] at hk
    unfold altX at hk
    obtain ⟨l, rfl, rfl, _, hk⟩ := on_s_sound h1 hk
    cases he : eqL l [120] with
    | false =>
      rw [he, ifB_f] at hk
      exact hG σ F φ A H [.s l, o] _ K hr hv' hk
    | true =>
      rw [he, ifB_t] at hk
      rw [eqL_eq] at he
      have := of_decide_eq_true he
      subst this
      obtain ⟨l4, c, rfl, rfl, hl, hk⟩ := on_a_sound h2 hk
      match l4, hl, hk with
      | [], _, hk => cases hk
      | [_], _, hk => cases hk
      | [_, _], _, hk => cases hk
      | [_, _, _], _, hk => cases hk
      | _ :: _ :: _ :: _ :: _ :: _, _, hk => cases hk
      | [a1, a2, a3, a4], hl, hk =>
        simp only [VRl] at hl
        obtain ⟨u1, _, e1, _, u2, _, rfl, _, u3, _, rfl, _, u4, _, rfl, _, rfl⟩ := hl
        obtain ⟨c⟩ := c
        have e1 : c = [u1, u2, u3, u4] := e1
        subst e1
        refine (hx H u1 u2 u3 u4).mono ?_ (fun _ _ x => x)
        rintro v H' ⟨rfl, hf⟩
        refine ⟨φ, .a [.n 3, .n 11, .n 0, .nil 1, .n 0], A, φ.le_refl, ?_, hr.grown hf, hk⟩
        simp only [VR]
        refine ⟨_, rfl, ?_⟩
        simp only [VRl, VR, nilOf]
        exact ⟨_, _, rfl, ⟨rfl, by omega⟩, _, _, rfl, ⟨rfl, by omega⟩, _, _, rfl, ⟨rfl, by omega⟩, _, _, rfl, rfl, _, _, rfl, ⟨rfl, by omega⟩, rfl⟩
def F8x : FF 2 := altX F8
set_option maxRecDepth 1000000 in
theorem F8x_ok : FOK Go.Proofs.Tryz.prog 8 2 F8x := by
  unfold F8x
  refine altX_ok ?_ ?_
  · exact F8_ok
  · intro H o1 o2 o3 o4
    exact Go.Proofs.YtndbdehpkiimjaaGreat.check_x
end
end Go.Run
