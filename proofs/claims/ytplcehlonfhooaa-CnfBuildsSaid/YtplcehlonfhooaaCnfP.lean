/- Lit, New; the law's own helpers. -/
import Derived.Test.YtplcehlonfhooaaCnfO
namespace Go.Proofs.Ytplcehlonfhooaa
open Go.HL
set_option maxRecDepth 10000
set_option linter.unusedSimpArgs false

/-- A graph and its maker. -/
structure GMk (H : Heap) (g m : Nat) (Bg B : List Nat) (ns : List Pr) (ins : List Nat) (s : MS) : Prop where
  gr : Gr H g Bg ns ins
  mkr : Mk H m g B s
  dis : ∀ b ∈ Bg, b ∉ B
  nd : s.1.Nodup
  rg : ∀ x ∈ s.1, x < ns.length
  cs : s.2.length ≤ 1 + 3 * s.1.length
section
variable {H : Heap} {g m : Nat} {Bg B : List Nat} {ns : List Pr} {ins : List Nat} {s : MS}
theorem GMk.dn (h : GMk H g m Bg B ns ins s) : Dn ns := h.gr.w.2.2.1
theorem GMk.big (h : GMk H g m Bg B ns ins s) : ns.length ≤ 200000 := h.gr.w.2.1
theorem GMk.len (h : GMk H g m Bg B ns ins s) : s.1.length ≤ ns.length := nodup_len _ _ h.nd h.rg
theorem GMk.frame {H' : Heap} {F : List Nat} (h : GMk H g m Bg B ns ins s) (hf : Fr F H H') (h1 : ∀ b ∈ Bg, b ∉ F) (h2 : ∀ b ∈ B, b ∉ F) : GMk H' g m Bg B ns ins s :=
  ⟨h.gr.frame hf h1, h.mkr.frame hf h2, h.dis, h.nd, h.rg, h.cs⟩
theorem Lit_spec (h : GMk H g m Bg B ns ins s) {e : Int} (he : e ≤ 9223372036854775807) :
    CallF Try.prog 9 [hp m, iv e] H (fun r H' => r = iv (litM (needM ns (ownM ns e / 2) s).1 (ownM ns e)) ∧ Fr B H H' ∧ ∃ B', GMk H' g m Bg B' ns ins (needM ns (ownM ns e / 2) s) ∧ Grow B B' H) NoP := by
  have hpos := h.gr.w.1
  have hbig := h.big
  have hlen := h.len
  have hcs := h.cs
  have ho := ownM_lt hpos e
  obtain ⟨r, cv, C, hm, hB⟩ := h.mkr
  have c0 := hm.c0
  have e2 : ((ownM ns e : Nat) : Int) / 2 = ((ownM ns e / 2 : Nat) : Int) := by omega
  have fin' : ∀ H', (Fr B H H' ∧ ∃ B', Mk H' m g B' (needM ns (ownM ns e / 2) s) ∧ Grow B B' H) → ∃ B', GMk H' g m Bg B' ns ins (needM ns (ownM ns e / 2) s) ∧ Grow B B' H := by
    rintro H' ⟨f, B', hk, hg⟩
    obtain ⟨t, t1, t2, t3, t4, k, t5, t6⟩ := needM_list h.dn (ownM ns e / 2) s
    have hlt := h.gr.lt
    refine ⟨B', ⟨h.gr.frame f (fun b hb e => h.dis b hb e), hk, fun b hb e => (hg b e).elim (h.dis b hb) (fun e => by have := hlt b hb; omega), t4 h.nd, fun x hx => ?_, ?_⟩, hg⟩
    · exact (needM_mem h.dn hx).elim (h.rg x) (fun e => by omega)
    · rw [t6, t1, List.length_append]; omega
  refine callF_of Try.func9 rfl Try.ntmps9 Try.results9 (by decide) rfl ?_
  by_cases hv : 0 ≤ e ∧ e < 2 * ns.length
  · have eo : e = ((ownM ns e : Nat) : Int) := by unfold ownM; rw [if_pos hv]; omega
    generalize hq : ownM ns e = q at *
    subst eo
    have : ¬ ((ns.length : Int) ≤ (q : Int) / 2) := by omega
    simp (disch := omega) only [go_sem, ↓cw_block, c0]
    refine call_to (nodes_spec h.gr) ?_
    rintro _ _ ⟨rfl, rfl⟩
    simp (disch := omega) only [go_sem, ↓cw_block, e2]
    refine call_to (need_spec h.gr h.mkr h.dis h.nd h.rg (by omega) (by omega)) ?_
    rintro _ H2 ⟨rfl, f2, hx⟩
    obtain ⟨B2, hk2, g2⟩ := hx
    obtain ⟨B3, hk3, g3⟩ := fin' H2 ⟨f2, B2, hk2, g2⟩
    have hl3 := hk3.len
    simp (disch := omega) only [go_sem, ↓cw_block]
    refine call_to (lit_spec hk2 (by omega) (by omega)) ?_
    rintro _ _ ⟨rfl, rfl⟩
    simp (disch := omega) only [go_sem, ↓cw_block]
    exact fin ⟨rfl, f2, B3, hk3, g3⟩
  · have eo : ownM ns e = 0 := by unfold ownM; rw [if_neg hv]
    rw [eo] at fin' ⊢
    simp only [Nat.zero_div] at fin' ⊢
    have last : CallF Try.prog 31 [hp m, iv 0] H (fun v H' => v = .tuple #[] ∧ Fr B H H' ∧ ∃ B', Mk H' m g B' (needM ns 0 s) ∧ Grow B B' H) NoP := need_spec h.gr h.mkr h.dis h.nd h.rg (by omega) hpos
    by_cases hneg : e < 0
    · simp (disch := omega) only [go_sem, ↓cw_block, c0]
      refine call_to last ?_
      rintro _ H2 ⟨rfl, f2, B2, hk2, g2⟩
      obtain ⟨B3, hk3, g3⟩ := fin' H2 ⟨f2, B2, hk2, g2⟩
      have hl3 := hk3.len
      simp (disch := omega) only [go_sem, ↓cw_block]
      refine call_to (lit_spec (e := 0) hk2 (by omega) (by omega)) ?_
      rintro _ _ ⟨rfl, rfl⟩
      simp (disch := omega) only [go_sem, ↓cw_block]
      exact fin ⟨rfl, f2, B3, hk3, g3⟩
    · have h2 : (ns.length : Int) ≤ e / 2 := by omega
      simp (disch := omega) only [go_sem, ↓cw_block, c0]
      refine call_to (nodes_spec h.gr) ?_
      rintro _ _ ⟨rfl, rfl⟩
      simp (disch := omega) only [go_sem, ↓cw_block, c0]
      refine call_to last ?_
      rintro _ H2 ⟨rfl, f2, B2, hk2, g2⟩
      obtain ⟨B3, hk3, g3⟩ := fin' H2 ⟨f2, B2, hk2, g2⟩
      have hl3 := hk3.len
      simp (disch := omega) only [go_sem, ↓cw_block]
      refine call_to (lit_spec (e := 0) hk2 (by omega) (by omega)) ?_
      rintro _ _ ⟨rfl, rfl⟩
      simp (disch := omega) only [go_sem, ↓cw_block]
      exact fin ⟨rfl, f2, B3, hk3, g3⟩

theorem cnew_nil : CallF Try.prog 8 [.pointer none] H (fun r H' => H = H' ∧ r = .pointer none) NoP := by
  refine callF_of Try.func8 rfl Try.ntmps8 Try.results8 (by decide) rfl ?_
  simp (disch := omega) only [go_sem, ↓cw_block]
  exact fin ⟨rfl, rfl⟩
theorem cnew_spec : CallF Try.prog 8 [hp g] H (fun r H' => Fr [] H H' ∧ ∃ m B, r = hp m ∧ Mk H' m g B ([0], [[-1]]) ∧ ∀ b ∈ B, H.size ≤ b) NoP := by
  refine callF_of Try.func8 rfl Try.ntmps8 Try.results8 (by decide) rfl ?_
  simp (disch := omega) only [go_sem, ↓cw_block]
  refine put_ints (kvs := []) Try.underlying58 Try.underlying3 MapR.new (by simp [mget]) ?_
  intro H1 m1 f1
  have hs1 : H.size + 1 ≤ H1.size := by have := f1.size; simpa using this
  have F1 : Fr [] H H1 := fr_new' Fr.push f1 (by simp)
  simp (disch := omega) only [go_sem, ↓cw_block]
  refine fin ?_
  have e1 : (H1.push (.cells #[iv (-1)] 3)).size = H1.size + 1 := by simp
  have e2 : ((H1.push (.cells #[iv (-1)] 3)).push (.cells #[.slice (some ⟨H1.size, 0, none⟩) 1 1] 26)).size = H1.size + 2 := by simp
  have k1 : Blk (H1.push (.cells #[iv (-1)] 3)) H1.size 3 [iv (-1)] := Blk.new rfl
  have k2 : Blk ((H1.push (.cells #[iv (-1)] 3)).push (.cells #[.slice (some ⟨H1.size, 0, none⟩) 1 1] 26)) (H1.size + 1) 26 [.slice (some ⟨H1.size, 0, none⟩) 1 1] := by
    rw [← e1]; exact Blk.new rfl
  refine ⟨((F1.push').push').push', H1.size + 2, mB (H1.size + 2) H.size (.slice (some ⟨H1.size + 1, 0, none⟩) 1 1) [H1.size], ?_, ⟨H.size, _, _, ⟨?_, ?_, ⟨[.slice (some ⟨H1.size, 0, none⟩) 1 1], ⟨.inr ⟨H1.size + 1, 1, 1, [], [], rfl, ?_, rfl, rfl, by omega⟩⟩, rfl, ?_⟩, ?_, ?_, ?_, ?_⟩, rfl⟩, ?_⟩
  · unfold newPtr; rw [e2]
  · have := Blk.new (H := (H1.push (.cells #[iv (-1)] 3)).push (.cells #[.slice (some ⟨H1.size, 0, none⟩) 1 1] 26)) (t := 60) (vs := [hp g, .map (some H.size), .slice (some ⟨(H1.push (.cells #[iv (-1)] 3)).size, 0, none⟩) 1 1]) rfl
    rw [e2] at this
    show Blk _ (H1.size + 2) _ [hp g, .map (some H.size), .slice (some ⟨H1.size + 1, 0, none⟩) 1 1]
    rw [← e1]
    exact this
  · exact m1.frame (F := []) ((Fr.push.push').push') (by simp)
  · exact k2.push _
  · intro i c hc
    have := (List.getElem?_eq_some_iff.1 hc).1
    have hi : i = 0 := by simp at this; omega
    subst hi
    simp at hc; subst hc
    exact ⟨H1.size, by simp, rfl, (k1.push _).push _⟩
  · simp [own]
  · simp [own]; omega
  · simp [own]; omega
  · simp; omega
  · intro b hb
    simp [mB, own] at hb
    omega
end
end Go.Proofs.Ytplcehlonfhooaa
