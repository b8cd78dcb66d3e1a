/- The law's own reading of clauses: all of them; a solver is made. -/
import Derived.Test.YthghkhpclemmlaaL17
namespace Go.Proofs.Ythghkhpclemmlaa
open Go.HL HM Go.Sat
set_option maxRecDepth 10000
set_option linter.unusedSimpArgs false
set_option linter.unusedVariables false

section
variable {H : Heap} {N n : Nat}
theorem lRightAll_spec {a : Option Addr} {css : List (List Int)} {c : Nat} (hx : RL N H a css) (hlen : css.length ≤ 1000000) (hcl : ∀ r ∈ css, r.length ≤ 1000000) : CallF Try.prog 7 [.slice a css.length c] H (fun v H' => v = .bool (css.all fun r => r.all litB) ∧ H' = H) NoP := by
  refine callF_of Try.func7 rfl Try.ntmps7 Try.results7 (by decide) rfl ?_
  simp (disch := omega) only [go_sem, ↓cw_block, dsB_of]
  refine loop_by (fun j ρ H1 => ∃ i : Nat, j = css.length - i ∧ i ≤ css.length ∧ (ρ.get 0 = .slice a css.length c ∧ ρ.get 3 = iv i ∧ ρ.ds = []) ∧ H1 = H ∧ ((css.take i).all fun r => r.all litB) = true) (k := css.length) ?_ ?_
  · exact ⟨0, rfl, by omega, by simp (disch := omega) only [go_sem, ↓cw_block, dsB_of], rfl, by simp⟩
  · rintro _ ρ H1 ⟨i, rfl, hi, ⟨r0, r3, rd⟩, e, hall⟩
    subst H1
    by_cases hie : i = css.length
    · subst hie
      rw [List.take_length] at hall
      simp (disch := omega) only [go_sem, ↓cw_block, dsB_of, r0, r3, rd, dsB_of]
      exact fin ⟨by rw [hall], rfl⟩
    · obtain ⟨x, hxi⟩ : ∃ x, css[i]? = some x := ⟨_, List.getElem?_eq_getElem (by omega)⟩
      obtain ⟨b', o', ra, rc, e, -, kx, hr, -⟩ := hx.ex i x hxi
      subst e
      have hi1 : (i : Int) + 1 = ((i + 1 : Nat) : Int) := by omega
      have htk : css.take (i + 1) = css.take i ++ [x] := by rw [List.take_add_one, hxi]; rfl
      simp (disch := omega) only [go_sem, ↓cw_block, dsB_of, r0, r3, rd, kx]
      refine call_to (rRight_spec hr (hcl x (List.mem_of_getElem? hxi))) ?_
      rintro v H2 ⟨rfl, e⟩
      subst H2
      cases hl : x.all litB with
      | true =>
        simp (disch := omega) only [go_sem, ↓cw_block, dsB_of, r3]
        exact fin ⟨css.length - (i + 1), by omega, i + 1, rfl, by omega, by simp (disch := omega) only [go_sem, ↓cw_block, dsB_of, r0, r3, rd, hi1], rfl, by rw [htk, List.all_append, hall]; simpa using hl⟩
      | false =>
        simp (disch := omega) only [go_sem, ↓cw_block, dsB_of, r3, rd, dsB_of]
        refine fin ⟨?_, rfl⟩
        have : (css.all fun r => r.all litB) = false := by
          rw [List.all_eq_false]
          exact ⟨x, List.mem_of_getElem? hxi, by simp [hl]⟩
        rw [this]
def smallB (css : List (List Int)) (most vars : Nat) : Bool := decide (css.length ≤ most) && css.all fun r => decide (r.length ≤ 30) && decide (grt r ≤ vars)
theorem rSmall_spec {a : Option Addr} {css : List (List Int)} {c most vars : Nat} (hx : RL N H a css) (hcap : css.length ≤ c) (hm : most ≤ 1000) (hv : vars ≤ 100000) (hbig : css.length ≤ 9223372036854775807) (hrb : ∀ r ∈ css, r.length ≤ 9223372036854775807) :
    CallF Try.prog 6 [.slice a css.length c, iv most, iv vars] H (fun v H' => v = .bool (smallB css most vars) ∧ H' = H) NoP := by
  refine callF_of Try.func6 rfl Try.ntmps6 Try.results6 (by decide) rfl ?_
  by_cases hlen : css.length ≤ most
  · simp (disch := omega) only [go_sem, ↓cw_block, dsB_of]
    refine loop_by (fun j ρ H1 => ∃ i : Nat, j = css.length - i ∧ i ≤ css.length ∧ (ρ.get 0 = .slice a css.length c ∧ ρ.get 2 = iv vars ∧ ρ.get 7 = iv i ∧ ρ.ds = []) ∧ H1 = H ∧ ((css.take i).all fun r => decide (r.length ≤ 30) && decide (grt r ≤ vars)) = true) (k := css.length) ?_ ?_
    · exact ⟨0, rfl, by omega, by simp (disch := omega) only [go_sem, ↓cw_block, dsB_of], rfl, by simp⟩
    · rintro _ ρ H1 ⟨i, rfl, hi, ⟨r0, r2, r7, rd⟩, e, hall⟩
      subst H1
      by_cases hie : i = css.length
      · subst hie
        rw [List.take_length] at hall
        simp (disch := omega) only [go_sem, ↓cw_block, dsB_of, r0, r2, r7, rd, dsB_of]
        exact fin ⟨by unfold smallB; rw [hall]; simp [hlen], rfl⟩
      · obtain ⟨x, hxi⟩ : ∃ x, css[i]? = some x := ⟨_, List.getElem?_eq_getElem (by omega)⟩
        obtain ⟨b', o', ra, rc, e, -, kx, hr, -⟩ := hx.ex i x hxi
        subst e
        have hi1 : (i : Int) + 1 = ((i + 1 : Nat) : Int) := by omega
        have htk : css.take (i + 1) = css.take i ++ [x] := by rw [List.take_add_one, hxi]; rfl
        have hci : ¬ c = i := by omega
        have hsub : i + 1 - i = 1 := by omega
        have hrl := hrb x (List.mem_of_getElem? hxi)
        by_cases hx30 : x.length ≤ 30
        · simp (disch := omega) only [go_sem, ↓cw_block, dsB_of, r0, r2, r7, rd, kx, hi1]
          rw [if_neg hci, hsub]
          refine call_to (rGreatest_spec kx hr (by omega)) ?_
          rintro v H2 ⟨rfl, e⟩
          subst H2
          by_cases hg : grt x ≤ vars
          · simp (disch := omega) only [go_sem, ↓cw_block, dsB_of, r0, r2, r7, rd, hi1]
            exact fin ⟨css.length - (i + 1), by omega, i + 1, rfl, by omega, by simp (disch := omega) only [go_sem, ↓cw_block, dsB_of, r0, r2, r7, rd, hi1], rfl, by rw [htk, List.all_append, hall]; simp [hx30, hg]⟩
          · simp (disch := omega) only [go_sem, ↓cw_block, dsB_of, r0, r2, r7, rd, hi1, dsB_of]
            refine fin ⟨?_, rfl⟩
            have : smallB css most vars = false := by
              unfold smallB
              rw [Bool.and_eq_false_iff]
              right
              rw [List.all_eq_false]
              exact ⟨x, List.mem_of_getElem? hxi, by simp [hg]⟩
            rw [this]
        · simp (disch := omega) only [go_sem, ↓cw_block, dsB_of, r0, r2, r7, rd, kx, dsB_of]
          refine fin ⟨?_, rfl⟩
          have : smallB css most vars = false := by
            unfold smallB
            rw [Bool.and_eq_false_iff]
            right
            rw [List.all_eq_false]
            exact ⟨x, List.mem_of_getElem? hxi, by simp [hx30]⟩
          rw [this]
  · simp (disch := omega) only [go_sem, ↓cw_block, dsB_of, dsB_of]
    exact fin ⟨by unfold smallB; simp [hlen], rfl⟩
/-- Clauses in their normal forms, one by one. -/
structure NFs (css : List (List Int)) (gl : List (List Int)) : Prop where
  len : gl.length = css.length
  nf : ∀ (i : Nat) (c g : List Int), css[i]? = some c → gl[i]? = some g → ∃ idle, NF c g idle
theorem NFs.nil : NFs [] [] := ⟨rfl, fun i c g h => by simp at h⟩
theorem NFs.add {css gl : List (List Int)} (h : NFs css gl) {c g : List Int} {idle : Bool} (hn : NF c g idle) : NFs (css ++ [c]) (gl ++ [g]) := by
  refine ⟨by simp [h.len], fun i c' g' h1 h2 => ?_⟩
  rcases Nat.lt_trichotomy i css.length with hlt | he | hgt
  · rw [List.getElem?_append_left hlt] at h1
    rw [List.getElem?_append_left (by rw [h.len]; exact hlt)] at h2
    exact h.nf i c' g' h1 h2
  · subst he
    rw [List.getElem?_append_right (Nat.le_refl _), Nat.sub_self] at h1
    rw [← h.len, List.getElem?_append_right (Nat.le_refl _), Nat.sub_self] at h2
    have e1 := Option.some.inj h1
    have e2 := Option.some.inj h2
    subst e1; subst e2
    exact ⟨idle, hn⟩
  · rw [List.getElem?_eq_none (by simp; omega)] at h1; cases h1
/-- What a model makes of clauses. -/
def Sats (m : Nat → Bool) (css : List (List Int)) : Prop := ∀ c ∈ css, ∃ x ∈ c, m (codeN x) = true
theorem NFs.sat {css gl : List (List Int)} (h : NFs css gl) {m : Nat → Bool} : AllB m (gcode gl) ↔ Sats m css := by
  unfold AllB Sats gcode
  constructor
  · intro ha c hc
    obtain ⟨i, hi⟩ := List.getElem?_of_mem hc
    have hl := (List.getElem?_eq_some_iff.1 hi).1
    obtain ⟨g, hg⟩ : ∃ g, gl[i]? = some g := ⟨_, List.getElem?_eq_getElem (by rw [h.len]; exact hl)⟩
    obtain ⟨idle, hn⟩ := h.nf i c g hi hg
    obtain ⟨y, hy, hm⟩ := ha (g.map codeN) (by rw [List.mem_reverse]; exact List.mem_map.2 ⟨g, List.mem_of_getElem? hg, rfl⟩)
    obtain ⟨x, hx, rfl⟩ := List.mem_map.1 hy
    exact ⟨x, (hn.mem x).1 hx, hm⟩
  · intro hs g' hg'
    rw [List.mem_reverse] at hg'
    obtain ⟨g, hg, rfl⟩ := List.mem_map.1 hg'
    obtain ⟨i, hi⟩ := List.getElem?_of_mem hg
    have hl := (List.getElem?_eq_some_iff.1 hi).1
    obtain ⟨c, hc⟩ : ∃ c, css[i]? = some c := ⟨_, List.getElem?_eq_getElem (by rw [← h.len]; exact hl)⟩
    obtain ⟨idle, hn⟩ := h.nf i c g hc hi
    obtain ⟨x, hx, hm⟩ := hs c (List.mem_of_getElem? hc)
    exact ⟨codeN x, List.mem_map.2 ⟨x, (hn.mem x).2 hx, rfl⟩, hm⟩
set_option maxHeartbeats 1000000 in
theorem lMade_spec {a : Option Addr} {css : List (List Int)} {c : Nat} (hN : N ≤ H.size) (hx : RL N H a css) (hlen : css.length ≤ 1000) (hok : ∀ r ∈ css, r.length ≤ 1000 ∧ r.all litB = true ∧ grt r ≤ n) (hn : n ≤ 1000) :
    CallF Try.prog 8 [.slice a css.length c, iv n] H (fun v H' => ∃ p ow k f, v = hp p ∧ SV H' ow p n k f ∧ (∀ b, b < H.size → ow b = 0) ∧ Fr [] H H' ∧ NFs css f.gl ∧ f.loaded = 0 ∧ f.dead = false ∧ f.rounds = 0 ∧ Bd f 0 ∧ f.ls = []) NoP := by
  refine callF_of Try.func8 rfl Try.ntmps8 Try.results8 (by decide) rfl ?_
  simp (disch := omega) only [go_sem, ↓cw_block, dsB_of]
  refine call_to (sNew_spec hn) ?_
  rintro v H1 ⟨f1, ow1, p, k, g1, rfl, o1, s1, gl1, ro1, bd1, dd1, ls1⟩
  simp (disch := omega) only [go_sem, ↓cw_block, dsB_of]
  refine loop_by (fun j ρ H2 => ∃ (i : Nat) (ow2 : Nat → Nat) (g2 : Cf), j = css.length - i ∧ i ≤ css.length ∧ (ρ.get 0 = .slice a css.length c ∧ ρ.get 5 = hp p ∧ ρ.get 7 = iv i ∧ ρ.ds = []) ∧ SV H2 ow2 p n k g2 ∧ (∀ b, b < H.size → ow2 b = 0) ∧ Fr [] H H2 ∧ NFs (css.take i) g2.gl ∧ g2.loaded = 0 ∧ g2.dead = false ∧ g2.rounds = 0 ∧ Bd g2 0 ∧ g2.ls = []) (k := css.length) ?_ ?_
  · exact ⟨0, ow1, g1, rfl, by omega, by simp (disch := omega) only [go_sem, ↓cw_block, dsB_of], s1, o1, f1, by rw [gl1]; exact NFs.nil, by have := s1.ld; rw [gl1] at this; simpa using this, dd1, ro1, bd1, ls1⟩
  · rintro _ ρ H2 ⟨i, ow2, g2, rfl, hi, ⟨r0, r5, r7, rd⟩, s2, o2, f2, nf2, ld2, dd2, ro2, bd2, ls2⟩
    by_cases hie : i = css.length
    · subst hie
      rw [List.take_length] at nf2
      simp (disch := omega) only [go_sem, ↓cw_block, dsB_of, r0, r5, r7, rd, dsB_of]
      exact fin ⟨p, ow2, k, g2, rfl, s2, o2, f2, nf2, ld2, dd2, ro2, bd2, ls2⟩
    · obtain ⟨x, hxi⟩ : ∃ x, css[i]? = some x := ⟨_, List.getElem?_eq_getElem (by omega)⟩
      have hx2 := hx.same (H' := H2) (fun b hb => f2.same b (by omega) (by simp))
      obtain ⟨b', o', ra, rc, e, -, kx, hr, -⟩ := hx2.ex i x hxi
      subst e
      have hi1 : (i : Int) + 1 = ((i + 1 : Nat) : Int) := by omega
      have htk : css.take (i + 1) = css.take i ++ [x] := by rw [List.take_add_one, hxi]; rfl
      obtain ⟨hxl, hxr, hxg⟩ := hok x (List.mem_of_getElem? hxi)
      have hgl2 : g2.gl.length ≤ 1000 := by have := nf2.len; simp at this; omega
      simp (disch := omega) only [go_sem, ↓cw_block, dsB_of, r0, r5, r7, rd, kx]
      refine call_to (sAdd_spec s2 hr hxl (by omega)) ?_
      rintro v H3 (⟨hbad, -⟩ | ⟨-, -, rfl, ow3, g3, ys, idle, s3, e3, hnf, gl3, ld3, dd3, ro3, ls3, bd3⟩)
      · exact absurd ⟨hxr, hxg⟩ hbad
      · simp (disch := omega) only [go_sem, ↓cw_block, dsB_of, r0, r5, r7, rd]
        refine fin ⟨css.length - (i + 1), by omega, i + 1, ow3, g3, rfl, by omega, by simp (disch := omega) only [go_sem, ↓cw_block, dsB_of, r0, r5, r7, rd, hi1], s3, fun b hb => ?_, ⟨Nat.le_trans f2.size e3.sm.size, fun b hb _ => ?_⟩, by rw [htk, gl3]; exact nf2.add hnf, ld3.trans ld2, dd3.trans dd2, ro3.trans ro2, bd3 0 bd2, ls3.trans ls2⟩
        · have := f2.size
          rw [e3.ow b (by omega)]; exact o2 b hb
        · have := f2.size
          rw [e3.fr (by omega) (o2 b hb)]; exact f2.same b hb (by simp)
end
end Go.Proofs.Ythghkhpclemmlaa

namespace Go.Proofs.Ythghkhpclemmlaa
open Go.HL HM Go.Sat
set_option maxRecDepth 10000
set_option linter.unusedSimpArgs false
set_option linter.unusedVariables false

section
variable {H : Heap} {ow : Nat → Nat} {p n : Nat} {k : Bk} {f : Cf}
theorem sCore_spec (h : RM H ow p n k f) {ys : List Int} (hv : Vec H 3 1 f.core (ys.map iv)) (hl : ys.length ≤ 1000000) : CallF Try.prog 18 [hp p] H (fun v H' => Fr [] H H' ∧ Vec H' 3 1 v (ys.map iv) ∧ ∀ b ∈ own v, H.size ≤ b) NoP := by
  have c6 : cellH H ⟨p, 6, none⟩ = some f.core := h.c 6
  obtain ⟨a, len, c, e, -⟩ := hv.len
  rw [e] at c6
  refine callF_of Try.func18 rfl Try.ntmps18 Try.results18 (by decide) rfl ?_
  simp (disch := omega) only [go_sem, ↓cw_block, dsB_of, c6]
  rw [← e]
  refine call_to (cloneI_spec hv (by simp [oneC]) (by rw [List.length_map]; exact hl)) ?_
  rintro v H1 ⟨f1, v1, o1⟩
  simp (disch := omega) only [go_sem, ↓cw_block, dsB_of, dsB_of]
  exact fin ⟨f1, v1, o1⟩
theorem sModel_spec (h : RM H ow p n k f) {md : List Bool} (hv : Vec H 4 1 f.model (md.map Value.bool)) (hl : md.length ≤ 1000000) : CallF Try.prog 16 [hp p] H (fun v H' => Fr [] H H' ∧ Vec H' 4 1 v (md.map Value.bool) ∧ ∀ b ∈ own v, H.size ≤ b) NoP := by
  have c5 : cellH H ⟨p, 5, none⟩ = some f.model := h.c 5
  obtain ⟨a, len, c, e, -⟩ := hv.len
  rw [e] at c5
  refine callF_of Try.func16 rfl Try.ntmps16 Try.results16 (by decide) rfl ?_
  simp (disch := omega) only [go_sem, ↓cw_block, dsB_of, c5]
  rw [← e]
  refine call_to (cloneB_spec hv (fun u hu => by obtain ⟨b, -, rfl⟩ := List.mem_map.1 hu; rfl) (by rw [List.length_map]; exact hl)) ?_
  rintro v H1 ⟨f1, v1, o1⟩
  simp (disch := omega) only [go_sem, ↓cw_block, dsB_of, dsB_of]
  exact fin ⟨f1, v1, o1⟩
set_option maxHeartbeats 1000000 in
theorem sClauses_spec (h : RM H ow p n k f) (hl : f.gl.length ≤ 100000) (hr : ∀ g ∈ f.gl, g.length ≤ 1000000) : CallF Try.prog 14 [hp p] H (fun v H' => Fr [] H H' ∧ ∃ a c, v = .slice a f.gl.length c) NoP := by
  have hng := h.ng
  obtain ⟨a, c, ef⟩ := h.given.form
  have c1 : cellH H ⟨p, 1, none⟩ = some (.slice a f.gs.length c) := by rw [← ef]; exact h.c 1
  have b1 : ∀ (Hx : Heap) (a' : Option Addr) (l' c' : Nat), buildSliceV Try.prog Hx 22 1 [(0, .slice a' l' c')] = some (.slice (some ⟨Hx.size, 0, none⟩) 1 1, Hx.push (.cells #[.slice a' l' c'] 26)) := fun Hx a' l' c' => bs_one T.elem22 T.size26 T.zero26 rfl
  obtain ⟨G, hG⟩ : ∃ G, H.push (.cells (List.replicate f.gs.length (.slice none 0 0)).toArray 26) = G := ⟨_, rfl⟩
  have f0 : Fr [] H G := by rw [← hG]; exact Fr.push
  have vG : Vec G 26 1 (.slice (some ⟨H.size, 0, none⟩) 0 f.gs.length) [] := ⟨.inr ⟨H.size, 0, f.gs.length, [], List.replicate f.gs.length (.slice none 0 0), rfl, by rw [← hG]; exact Blk.new rfl, rfl, by simp, by omega⟩⟩
  have c1G : cellH G ⟨p, 1, none⟩ = some (.slice a f.gs.length c) := by rw [← ef]; exact (h.out f0 (by simp)).c 1
  refine callF_of Try.func14 rfl Try.ntmps14 Try.results14 (by decide) rfl ?_
  simp (disch := omega) only [go_sem, ↓cw_block, dsB_of, c1]
  rw [hG]
  simp (disch := omega) only [go_sem, ↓cw_block, dsB_of, c1G]
  refine loop_by (fun j ρ H1 => ∃ (i : Nat) (wv : Value) (l : List Value), j = f.gs.length - i ∧ i ≤ f.gs.length ∧ (ρ.get 3 = wv ∧ ρ.get 15 = .slice a f.gs.length c ∧ ρ.get 16 = iv f.gs.length ∧ ρ.get 17 = iv i ∧ ρ.ds = []) ∧ Fr [] H H1 ∧ Vec H1 26 1 wv l ∧ l.length = i ∧ ∀ b ∈ own wv, H.size ≤ b) (k := f.gs.length) ?_ ?_
  · exact ⟨0, _, [], rfl, by omega, by simp (disch := omega) only [go_sem, ↓cw_block, dsB_of], f0, vG, rfl, by simp [own]⟩
  · rintro _ ρ H1 ⟨i, wv, l, rfl, hi, ⟨r3, r15, r16, r17, rd⟩, f1, v1, hl1, o1⟩
    by_cases hie : i = f.gs.length
    · subst hie
      obtain ⟨wa, wc, ew⟩ : ∃ a c, wv = .slice a l.length c := by
        obtain ⟨a, len, c, rfl, e⟩ := v1.len
        rw [Nat.mul_one] at e; subst e
        exact ⟨a, c, rfl⟩
      simp (disch := omega) only [go_sem, ↓cw_block, dsB_of, r3, r15, r16, r17, rd, dsB_of]
      exact fin ⟨f1, wa, wc, by rw [ew, hl1, hng]⟩
    · obtain ⟨v, hv⟩ : ∃ v, f.gs[i]? = some v := ⟨_, List.getElem?_eq_getElem (by omega)⟩
      obtain ⟨z, hz⟩ : ∃ z, f.gl[i]? = some z := ⟨_, List.getElem?_eq_getElem (by omega)⟩
      have m1 := h.out f1 (by simp)
      obtain ⟨b, o, cap, e, kv⟩ := vec_cell m1.given.vec hv
      rw [ef] at e
      simp only [Value.slice.injEq] at e
      obtain ⟨rfl, -, rfl⟩ := e
      have hzv := (m1.gcl i v z hv hz).vec
      obtain ⟨va, vl, vc, ev, -⟩ := hzv.len
      have hi1 : (i : Int) + 1 = ((i + 1 : Nat) : Int) := by omega
      rw [ev] at kv
      simp (disch := omega) only [go_sem, ↓cw_block, dsB_of, r3, r15, r16, r17, rd, kv]
      rw [← ev]
      refine call_to (cloneI_spec hzv (fun u hu => by obtain ⟨b, -, rfl⟩ := List.mem_map.1 hu; rfl) (by rw [List.length_map]; exact hr z (List.mem_of_getElem? hz))) ?_
      rintro r H2 ⟨f2, v2, o2⟩
      obtain ⟨ra, rl, rc, er, -⟩ := v2.len
      subst er
      simp (disch := omega) only [go_sem, ↓cw_block, dsB_of, r3, b1]
      refine app_lit1 T.el22 rfl (v1.frame f2 (by simp)) rfl (by omega) ?_
      intro v' H4 g1 g2 g3 g4
      simp (disch := omega) only [go_sem, ↓cw_block, dsB_of, r3, r15, r16, r17, rd]
      refine fin ⟨f.gs.length - (i + 1), by omega, i + 1, v', _, rfl, by omega, by simp (disch := omega) only [go_sem, ↓cw_block, dsB_of, r3, r15, r16, r17, rd, hi1], ⟨Nat.le_trans (Nat.le_trans f1.size f2.size) g2.size, fun q hq _ => ?_⟩, g1, by simp [hl1], fun q hq => ?_⟩
      · rw [g2.same q (by have := f1.size; have := f2.size; omega) (fun e => by have := o1 q e; omega), f2.same q (by have := f1.size; omega) (by simp), f1.same q hq (by simp)]
      · rcases g3 q hq with h | h
        · exact o1 q h
        · have := f1.size; have := f2.size; omega
end
end Go.Proofs.Ythghkhpclemmlaa

namespace Go.Proofs.Ythghkhpclemmlaa
open Go.HL HM Go.Sat
set_option maxRecDepth 10000
set_option linter.unusedSimpArgs false
set_option linter.unusedVariables false

section
variable {H : Heap} {ow : Nat → Nat} {p n : Nat} {k : Bk} {f : Cf}
set_option maxHeartbeats 1000000 in
theorem sProof1_spec (h : RM H ow p n k f) {w : Value} {ys : List Int} (hls : f.ls = [.bool false, w]) (hw : Vec H 3 1 w (ys.map iv)) (hl : ys.length ≤ 1000000) :
    CallF Try.prog 17 [hp p] H (fun v H' => Fr [] H H' ∧ ∃ b o c w', v = .slice (some ⟨b, o, none⟩) 1 c ∧ cellH H' ⟨b, o, none⟩ = some (.bool false) ∧ cellH H' ⟨b, o + 1, none⟩ = some w' ∧ Vec H' 3 1 w' (ys.map iv)) NoP := by
  have hv := h.lines.vec
  rw [hls] at hv
  obtain ⟨lb, lo, ll, lc, el, hll, hce⟩ := hv.cell (by simp)
  have hl1 : ll = 1 := by simp at hll; omega
  subst hl1
  have k0 : cellH H ⟨lb, lo, none⟩ = some (.bool false) := by have := hce 0 (by simp); simpa using this
  have k1 : cellH H ⟨lb, lo + 1, none⟩ = some w := by have := hce 1 (by simp); simpa using this
  have hlt : lb < H.size := hv.lt lb (by rw [el]; simp [own])
  have c3 : cellH H ⟨p, 3, none⟩ = some (.slice (some ⟨lb, lo, none⟩) 1 lc) := by rw [← el]; exact h.c 3
  obtain ⟨G, hG⟩ : ∃ G, H.push (.cells #[.bool false, .slice none 0 0] 45) = G := ⟨_, rfl⟩
  have f0 : Fr [] H G := by rw [← hG]; exact Fr.push
  have c3G : cellH G ⟨p, 3, none⟩ = some (.slice (some ⟨lb, lo, none⟩) 1 lc) := by rw [← el]; exact (h.out f0 (by simp)).c 3
  obtain ⟨wa, wl, wc, ew, -⟩ := hw.len
  subst ew
  refine callF_of Try.func17 rfl Try.ntmps17 Try.results17 (by decide) rfl ?_
  simp (disch := omega) only [go_sem, ↓cw_block, dsB_of, c3]
  have hmk : mkCells #[.bool false, .slice none 0 0] 2 = #[.bool false, .slice none 0 0] := by apply Array.ext'; simp [mkCells, List.range_succ]
  rw [hmk, hG]
  have vG : Vec G 45 2 (.slice (some ⟨H.size, 0, none⟩) 0 1) [] := ⟨.inr ⟨H.size, 0, 1, [], [.bool false, .slice none 0 0], rfl, by rw [← hG]; exact Blk.new rfl, rfl, by simp, by omega⟩⟩
  simp (disch := omega) only [go_sem, ↓cw_block, dsB_of, c3G]
  refine loop_by (fun j ρ H1 => ∃ (i : Nat) (wv : Value) (l : List Value), j = 1 - i ∧ i ≤ 1 ∧ (ρ.get 3 = wv ∧ ρ.get 15 = .slice (some ⟨lb, lo, none⟩) 1 lc ∧ ρ.get 16 = iv 1 ∧ ρ.get 17 = iv i ∧ ρ.ds = []) ∧ Fr [] H H1 ∧ Vec H1 45 2 wv l ∧ (∀ b ∈ own wv, H.size ≤ b) ∧ (i = 0 ∧ l = [] ∨ i = 1 ∧ ∃ w', l = [.bool false, w'] ∧ Vec H1 3 1 w' (ys.map iv))) (k := 1) ?_ ?_
  · exact ⟨0, _, [], rfl, by omega, by simp (disch := omega) only [go_sem, ↓cw_block, dsB_of]; rfl, f0, vG, by simp [own], .inl ⟨rfl, rfl⟩⟩
  · rintro _ ρ H1 ⟨i, wv, l, rfl, hi, ⟨r3, r15, r16, r17, rd⟩, f1, v1, o1, hor⟩
    rcases hor with ⟨rfl, rfl⟩ | ⟨rfl, w', rfl, vw⟩
    · have r17' : ρ.get 17 = iv 0 := r17
      have k0' : cellH H1 ⟨lb, lo, none⟩ = some (.bool false) := f1.cell' k0 (by simp)
      have k1' : cellH H1 ⟨lb, lo + 1, none⟩ = some (.slice wa wl wc) := f1.cell' k1 (by simp)
      obtain ⟨H2, hH2⟩ : ∃ H2, H1.push (.cells #[.bool false, .slice wa wl wc] 45) = H2 := ⟨_, rfl⟩
      have f2 : Fr [] H1 H2 := by rw [← hH2]; exact Fr.push
      have kb : Blk H2 H1.size 45 [.bool false, .slice wa wl wc] := by rw [← hH2]; exact Blk.new rfl
      have kb0 : cellH H2 ⟨H1.size, 0, none⟩ = some (.bool false) := by rw [kb.cell]; rfl
      have kb1 : cellH H2 ⟨H1.size, 1, none⟩ = some (.slice wa wl wc) := by rw [kb.cell]; rfl
      obtain ⟨hl, hhl⟩ : ∃ hl : List (Addr × Value), hl = [(⟨H1.size, 0, none⟩, .bool false)] := ⟨_, rfl⟩
      have hok : heldOK hl H2 := by rw [hhl]; exact heldOK_one kb0
      have l0 : lookA hl ⟨H1.size, 0, none⟩ = some (.bool false) := by rw [hhl]; exact lookA_eq
      simp (disch := omega) only [go_sem, ↓cw_block, dsB_of, r3, r15, r16, r17', rd, k0', k1', cellsH]
      rw [hH2]
      refine draw1 (lk [(0, false), (1, false), (2, false), (3, true), (4, true)] (.act 5 (lk [(6, true)] (.act 7 (.actd 8 (lk [(9, true)] .fin)) .non)) .non)) T.mixed hl hok ?_
      simp (disch := omega) only [go_sem, ↓cw_block, dsB_of, r3, l0, kb0, kb1]
      have f12 := f1.trans f2
      refine call_to (cloneI_spec (hw.frame f12 (by simp)) (fun u hu => by obtain ⟨b, -, rfl⟩ := List.mem_map.1 hu; rfl) (by rw [List.length_map]; assumption)) ?_
      rintro r H3 ⟨f3, v3, o3⟩
      have f13 := f12.trans f3
      obtain ⟨ra, rl, rc, er, -⟩ := v3.len
      subst er
      have hok3 : heldOK hl H3 := by rw [hhl]; exact heldOK_one (f3.cell' kb0 (by simp))
      have bl := build_of (P := Try.prog) (t := 45) (parts := [(0, .bool false), (1, .slice ra rl rc)]) (v := .agg #[.bool false, .slice ra rl rc])
        (by simp [buildL, T.places45, T.zero45, fillL, setR, chk, Value.cells])
      refine held_by hok3 ?_
      simp (disch := omega) only [go_sem, ↓cw_block, dsB_of, r3, l0, bl]
      refine held_by (by rw [hhl]; exact heldOK_one ((Fr.push (F := [])).cell' (f3.cell' kb0 (by simp)) (by simp))) ?_
      simp (disch := omega) only [go_sem, ↓cw_block, dsB_of, r3, l0]
      refine app_lit (n := 1) (new := [.bool false, .slice ra rl rc]) T.el42 rfl (v1.frame (f2.trans f3) (by simp)) (by simp [oneC]) rfl (by
        intro a' l c' e
        obtain ⟨a2, l2, c2, e2, hl2⟩ := v1.len
        rw [e2] at e
        simp only [Value.slice.injEq] at e
        simp at hl2
        omega) ?_
      intro v' H4 g1 g2 g3 g4
      simp (disch := omega) only [go_sem, ↓cw_block, dsB_of, r3, r15, r16, r17', rd]
      refine fin ⟨0, by omega, 1, v', _, rfl, by omega, by simp (disch := omega) only [go_sem, ↓cw_block, dsB_of, r3, r15, r16, r17', rd]; try rfl, ⟨Nat.le_trans f13.size g2.size, fun q hq _ => ?_⟩, g1, fun q hq => ?_, .inr ⟨rfl, _, rfl, v3.frame g2 (fun b hb hb2 => ?_)⟩⟩
      · rw [g2.same q (by have := f13.size; omega) (fun e => by have := o1 q e; omega), f13.same q hq (by simp)]
      · rcases g3 q hq with h | h
        · exact o1 q h
        · have := f13.size; omega
      · have h1 := o3 b hb
        have h2 := v1.lt b hb2
        have := f2.size
        omega
    · have r17' : ρ.get 17 = iv 1 := r17
      simp (disch := omega) only [go_sem, ↓cw_block, dsB_of, r3, r15, r16, r17', rd, dsB_of]
      obtain ⟨b, o, len, cap, e, h2, hc⟩ := v1.cell (by simp)
      have hl1 : len = 1 := by simp at h2; omega
      subst hl1
      exact fin ⟨f1, b, o, cap, w', e, by have := hc 0 (by simp); simpa using this, by have := hc 1 (by simp); simpa using this, vw⟩
end
end Go.Proofs.Ythghkhpclemmlaa

namespace Go.Sat
set_option linter.unusedVariables false
section
variable {n : Nat} {s : St} {C : List Nat} {w : Nat → List Nat} {G : List (List Nat)} {head : Nat}
/-- What is left of a clause follows. -/
theorem SI.force (h : SI n s C w G head) (hh : head = s.tr.length) {g : List Nat} (hg : g ∈ G) {x : Nat} (ht : ¬ ∃ y ∈ g, neg y ∈ g) (hx : ∀ y ∈ g, y = x ∨ neg y ∈ s.tr) : x ∈ s.tr := by
  rcases h.gi.cmp g hg with h1 | ⟨y, hy, i, hi, -⟩ | ⟨c, hc, hs⟩
  · exact absurd h1 ht
  · have hm := List.mem_of_getElem? hi
    rcases hx y hy with rfl | h2
    · exact hm
    · exact (h.inv.ok.clash hm h2).elim
  · obtain ⟨hl, hcd, hnd⟩ := h.wi.cl c hc
    have hw := (h.pi c hc).2 (by simp)
    match he : s.lits c, hl with
    | a :: b :: r, _ =>
      rw [he] at hs hnd
      obtain ⟨w1, w2⟩ := hw a b r he
      have hab : a ≠ b := by
        intro e
        subst e
        simp at hnd
      rcases hx a (hs a (by simp)) with e | ha
      · subst e
        rcases hx b (hs b (by simp)) with e | hb
        · exact absurd e.symm hab
        · obtain ⟨q, hq⟩ := List.getElem?_of_mem hb
          obtain ⟨j, hj, -⟩ := w2 q (by rw [hh]; exact (List.getElem?_eq_some_iff.1 hq).1) hq
          exact List.mem_of_getElem? hj
      · obtain ⟨q, hq⟩ := List.getElem?_of_mem ha
        obtain ⟨j, hj, -⟩ := w1 q (by rw [hh]; exact (List.getElem?_eq_some_iff.1 hq).1) hq
        have hm := List.mem_of_getElem? hj
        rcases hx b (hs b (by simp)) with e | hb
        · rw [← e]; exact hm
        · exact (h.inv.ok.clash hm hb).elim
end
end Go.Sat
namespace Go.Proofs.Ythghkhpclemmlaa
open Go.HL HM Go.Sat
set_option maxRecDepth 10000
set_option linter.unusedSimpArgs false
set_option linter.unusedVariables false

theorem rn_nil {H : Heap} : Rn H none [] := fun i x h => by simp at h
/-- A made slice of numbers. -/
theorem Rn.new {H : Heap} {xs : List Int} {t : Nat} : Rn (H.push (.cells (xs.map iv).toArray t)) (some ⟨H.size, 0, none⟩) xs := fun i x h => by
  have hb : Blk (H.push (.cells (xs.map iv).toArray t)) H.size t (xs.map iv) := Blk.new rfl
  refine ⟨H.size, 0, rfl, ?_⟩
  rw [hb.cell, Nat.zero_add, List.getElem?_map, h]; rfl
/-- The clauses of the example: their models, and what follows. -/
def mAw (x : Nat) : Bool := if x / 2 = 1 then x % 2 == 1 else x % 2 == 0
theorem mAw_mdl : Mdl mAw := ⟨fun x => by
  unfold mAw
  rw [neg_var]
  have h1 : (neg x) % 2 = 1 - x % 2 := by unfold neg; split <;> omega
  rw [h1]
  have : x % 2 = 0 ∨ x % 2 = 1 := by omega
  rcases this with e | e <;> rw [e] <;> split <;> rfl⟩
section
variable {s : St} {C : List Nat} {w : Nat → List Nat} {head : Nat} {css gl : List (List Int)}
theorem nfs_force {n : Nat} (h : SI n s C w (gcode gl) head) (hh : head = s.tr.length) (hn : NFs css gl) {c : List Int} (hc : c ∈ css) {x : Int} (hl : ∀ y ∈ c, y ≠ 0) (ht : ¬ ∃ y ∈ c, -y ∈ c) (hx : ∀ y ∈ c, y = x ∨ codeN (-y) ∈ s.tr) : codeN x ∈ s.tr := by
  obtain ⟨i, hi⟩ := List.getElem?_of_mem hc
  have hil := (List.getElem?_eq_some_iff.1 hi).1
  obtain ⟨g, hg⟩ : ∃ g, gl[i]? = some g := ⟨_, List.getElem?_eq_getElem (by rw [hn.len]; exact hil)⟩
  obtain ⟨idle, hnf⟩ := hn.nf i c g hi hg
  refine h.force hh (g := g.map codeN) (List.mem_reverse.2 (List.mem_map.2 ⟨g, List.mem_of_getElem? hg, rfl⟩)) ?_ ?_
  · rintro ⟨y, hy, hny⟩
    obtain ⟨z, hz, rfl⟩ := List.mem_map.1 hy
    obtain ⟨u, hu, e⟩ := List.mem_map.1 hny
    have hz0 := hl z ((hnf.mem z).1 hz)
    have hu0 := hl u ((hnf.mem u).1 hu)
    rw [codeN_neg hz0] at e
    have : u = -z := by
      unfold codeN at e
      split at e <;> split at e <;> omega
    exact ht ⟨z, (hnf.mem z).1 hz, by rw [← this]; exact (hnf.mem u).1 hu⟩
  · intro y hy
    obtain ⟨z, hz, rfl⟩ := List.mem_map.1 hy
    have hzc := (hnf.mem z).1 hz
    rcases hx z hzc with e | e
    · exact .inl (by rw [e])
    · exact .inr (by rw [codeN_neg (hl z hzc)]; exact e)
theorem aw_force {n : Nat} (h : SI n s C w (gcode gl) head) (hh : head = s.tr.length) (hn : NFs css gl) (h1 : [1, 2] ∈ css) (h2 : [-1] ∈ css) : 3 ∈ s.tr ∧ 4 ∈ s.tr := by
  have g3 : codeN (-1) ∈ s.tr := nfs_force h hh hn h2 (by simp) (by simp) (by simp)
  refine ⟨g3, nfs_force (x := 2) h hh hn h1 (by simp) (by simp) ?_⟩
  intro y hy
  simp only [List.mem_cons, List.not_mem_nil, or_false] at hy
  rcases hy with rfl | rfl
  · exact .inr g3
  · exact .inl rfl
theorem aw_full (h : SI 2 s C w (gcode gl) head) (hh : head = s.tr.length) (hn : NFs css gl) (h1 : [1, 2] ∈ css) (h2 : [-1] ∈ css) : s.tr.length = 2 := by
  obtain ⟨g3, g4⟩ := aw_force h hh hn h1 h2
  have hl := h.inv.ok.len
  match ht : s.tr with
  | [] => rw [ht] at g3; cases g3
  | [a] => rw [ht] at g3 g4; simp at g3 g4; omega
  | [a, b] => rfl
  | a :: b :: c :: r => rw [ht] at hl; simp at hl
end
end Go.Proofs.Ythghkhpclemmlaa

namespace Go.Proofs.Ythghkhpclemmlaa
open Go.HL HM Go.Sat
set_option maxRecDepth 10000
set_option linter.unusedSimpArgs false
set_option linter.unusedVariables false

section
variable {H : Heap}
theorem aw_m1 : Sats mAw [[1, 2], [-1]] := by
  intro c hc
  simp only [List.mem_cons, List.not_mem_nil, or_false] at hc
  rcases hc with rfl | rfl
  · exact ⟨2, by simp, rfl⟩
  · exact ⟨-1, by simp, rfl⟩
theorem aw_sat {m : Nat → Bool} (hm : Mdl m) {css : List (List Int)} (h : Sats m css) (h1 : [1, 2] ∈ css) (h2 : [-1] ∈ css) : m 2 = false ∧ m 4 = true := by
  obtain ⟨x, hx, hmx⟩ := h _ h2
  simp only [List.mem_cons, List.not_mem_nil, or_false] at hx
  subst hx
  have e3 : m 3 = true := hmx
  have e2 : m 3 = !m 2 := hm.neg 2
  have e2' : m 2 = false := by cases h : m 2 <;> simp [h] at e2 <;> simp_all
  refine ⟨e2', ?_⟩
  obtain ⟨y, hy, hmy⟩ := h _ h1
  simp only [List.mem_cons, List.not_mem_nil, or_false] at hy
  rcases hy with rfl | rfl
  · have : m 2 = true := hmy
    rw [e2'] at this; cases this
  · exact hmy
theorem b26 {Hx : Heap} {x : Int} : buildSliceV Try.prog Hx 26 1 [(0, iv x)] = some (.slice (some ⟨Hx.size, 0, none⟩) 1 1, Hx.push (.cells #[iv x] 3)) := bs_one T.elem26 T.size3 T.zero3 rfl
theorem b26_2 {Hx : Heap} {x y : Int} : buildSliceV Try.prog Hx 26 2 [(0, iv x), (1, iv y)] = some (.slice (some ⟨Hx.size, 0, none⟩) 2 2, Hx.push (.cells #[iv x, iv y] 3)) := bs_two T.elem26 T.size3 T.zero3 rfl rfl
/-- New memory beside a solver. -/
theorem SV.out {ow : Nat → Nat} {p n : Nat} {k : Bk} {f : Cf} {H' : Heap} (h : SV H ow p n k f) (hf : Fr [] H H') : SV H' ow p n k f :=
  ⟨⟨⟨h.sd.sb.m.out hf (by simp), h.sd.sb.r, h.sd.sb.inv, h.sd.sb.wi, h.sd.sb.le, h.sd.sb.hin, h.sd.sb.sn, h.sd.sb.stp, h.sd.sb.n⟩, h.sd.st, h.sd.ok, h.sd.no⟩, h.cn, h.ld⟩
theorem frOf {H1 H2 : Heap} {ow : Nat → Nat} {ow' : Nat → Nat} (h1 : Fr [] H H1) (ho : ∀ b, b < H.size → ow b = 0) (e : Ex H1 ow H2 ow') : Fr [] H H2 ∧ ∀ b, b < H.size → ow' b = 0 := by
  have := h1.size
  exact ⟨⟨Nat.le_trans h1.size e.sm.size, fun b hb _ => by rw [e.fr (by omega) (ho b hb)]; exact h1.same b hb (by simp)⟩, fun b hb => by rw [e.ow b (by omega)]; exact ho b hb⟩
set_option maxHeartbeats 4000000 in
theorem lAwake_spec : CallF Try.prog 5 [] H (fun v H' => v = .bool true ∧ Fr [] H H') NoP := by
  refine callF_of Try.func5 rfl Try.ntmps5 Try.results5 (by decide) rfl ?_
  simp (disch := omega) only [go_sem, ↓cw_block, dsB_of]
  refine call_to (sNew_spec (n := 2) (by omega)) ?_
  rintro v H1 ⟨f1, ow1, p, k, g1, rfl, o1, s1, gl1, ro1, bd1, dd1, ls1⟩
  obtain ⟨H2, hH2⟩ : ∃ H2, H1.push (.cells #[iv 1, iv 2] 3) = H2 := ⟨_, rfl⟩
  have f2 : Fr [] H1 H2 := by rw [← hH2]; exact Fr.push
  have x2 : Rn H2 (some ⟨H1.size, 0, none⟩) [1, 2] := by rw [← hH2]; exact Rn.new (xs := [1, 2])
  have s2 := s1.out f2
  simp (disch := omega) only [go_sem, ↓cw_block, dsB_of, b26_2]
  try rw [hH2]
  refine call_to (sAdd_spec s2 x2 (by simp) (by rw [gl1]; simp)) ?_
  rintro v H3 (⟨hbad, -⟩ | ⟨-, -, rfl, ow3, g3, ys, idle, s3, e3, nf3, gl3, ld3, dd3, ro3, ls3, bd3⟩)
  · exact absurd ⟨by decide, by decide⟩ hbad
  have fr2 := f1.trans f2
  obtain ⟨fr3, o3⟩ := frOf fr2 o1 e3
  have n3 : NFs [[1, 2]] g3.gl := by rw [gl3, gl1]; exact NFs.nil.add nf3
  obtain ⟨H4, hH4⟩ : ∃ H4, H3.push (.cells #[iv (-1)] 3) = H4 := ⟨_, rfl⟩
  have f4 : Fr [] H3 H4 := by rw [← hH4]; exact Fr.push
  have x4 : Rn H4 (some ⟨H3.size, 0, none⟩) [-1] := by rw [← hH4]; exact Rn.new (xs := [-1])
  have s4 := s3.out f4
  simp (disch := omega) only [go_sem, ↓cw_block, dsB_of, b26]
  try rw [hH4]
  refine call_to (sAdd_spec s4 x4 (by simp) (by rw [n3.len]; simp)) ?_
  rintro v H5 (⟨hbad, -⟩ | ⟨-, -, rfl, ow5, g5, ys5, idle5, s5, e5, nf5, gl5, ld5, dd5, ro5, ls5, bd5⟩)
  · exact absurd ⟨by decide, by decide⟩ hbad
  obtain ⟨fr5, o5⟩ := frOf (fr3.trans f4) o3 e5
  have n5 : NFs [[1, 2], [-1]] g5.gl := by rw [gl5]; exact n3.add nf5
  have hrd5 : g5.rounds = 0 := by rw [ro5, ro3, ro1]
  simp (disch := omega) only [go_sem, ↓cw_block, dsB_of]
  refine call_to (sSolve_spec s5 (by decide) (by omega) (u := 0) (bd5 0 (bd3 0 bd1)) (by omega) (by rw [n5.len]; simp) (b := -1) (by omega) (a := none) (xs := []) (c := 0) rn_nil (fun b o h => by cases h) (by simp)) ?_
  rintro v H6 ⟨ow6, g6, s6, e6, gv6, gs6, gl6, bd6, rd6, dm6, lo6, ans⟩
  obtain ⟨fr6, o6⟩ := frOf fr5 o5 e6
  have hq5 : Quiet 2 (gcode g5.gl) [] := .inl ⟨mAw, fun ds hds _ => by
    have hd0 : ds = [] := by
      cases ds with
      | nil => rfl
      | cons x t => have := (hds x).1 (by simp); simp at this
    subst hd0
    exact ⟨mAw_mdl, n5.sat.2 aw_m1, fun x h => by simp at h, fun s C w head hs hh _ => aw_full hs hh n5 (by simp) (by simp)⟩⟩
  cases ans with
  | bad hb => simp at hb
  | unsat cs ys idle hb hcs hi hu hn hv ho hl =>
    exfalso
    rcases hcs with ⟨rfl, -⟩ | ⟨-, -, x, hx, -⟩
    · exact hu mAw mAw_mdl (n5.sat.2 aw_m1) (by simp)
    · simp at hx
  | sat md m hb hd hm hG ha hl hv ho hc hq =>
    obtain ⟨m2, m4⟩ := aw_sat hm (n5.sat.1 hG) (by simp) (by simp)
    have hmd : md = [false, true] := by
      rw [hl]
      show [m (2 * 0 + 2), m (2 * 1 + 2)] = _
      rw [show 2 * 0 + 2 = 2 from rfl, show 2 * 1 + 2 = 4 from rfl, m2, m4]
    subst hmd
    have ls6 : g6.ls = [] := by rw [hq hq5, ls5, ls3, ls1]
    have n6 : NFs [[1, 2], [-1]] g6.gl := by rw [gl6]; exact n5
    simp (disch := omega) only [go_sem, ↓cw_block, dsB_of]
    refine call_to (sModel_spec s6.sd.sb.m hv (by simp)) ?_
    rintro v H7 ⟨f7, v7, o7⟩
    obtain ⟨b7, w7, l7, c7, ev7, hl7, hc7⟩ := v7.cell (by simp)
    have hl72 : l7 = 2 := by simp at hl7; omega
    subst hl72
    subst ev7
    have k70 : cellH H7 ⟨b7, w7 + 0, none⟩ = some (.bool false) := by have := hc7 0 (by simp); simpa using this
    have k71 : cellH H7 ⟨b7, w7 + 1, none⟩ = some (.bool true) := by have := hc7 1 (by simp); simpa using this
    have k70' : cellH H7 ⟨b7, w7, none⟩ = some (.bool false) := k70
    obtain ⟨H8, hH8⟩ : ∃ H8, H7.push (.cells #[iv (-2)] 3) = H8 := ⟨_, rfl⟩
    have f8 : Fr [] H7 H8 := by rw [← hH8]; exact Fr.push
    have x8 : Rn H8 (some ⟨H7.size, 0, none⟩) [-2] := by rw [← hH8]; exact Rn.new (xs := [-2])
    have s8 := s6.out (f7.trans f8)
    simp (disch := omega) only [go_sem, ↓cw_block, dsB_of, k70, k70', k71, b26]
    try rw [hH8]
    refine call_to (sAdd_spec s8 x8 (by simp) (by rw [n6.len]; simp)) ?_
    rintro v H9 (⟨hbad, -⟩ | ⟨-, -, rfl, ow9, g9, ys9, idle9, s9, e9, nf9, gl9, ld9, dd9, ro9, ls9, bd9⟩)
    · exact absurd ⟨by decide, by decide⟩ hbad
    obtain ⟨fr9, o9⟩ := frOf (fr6.trans (f7.trans f8)) o6 e9
    have n9 : NFs [[1, 2], [-1], [-2]] g9.gl := by rw [gl9]; exact n6.add nf9
    have hrd9 : g9.rounds = 0 := by rw [ro9, rd6 (by decide), hrd5]
    simp (disch := omega) only [go_sem, ↓cw_block, dsB_of]
    refine call_to (sSolve_spec s9 (by decide) (by omega) (u := 400) (bd9 _ bd6) (by omega) (by rw [n9.len]; simp) (b := -1) (by omega) (a := none) (xs := []) (c := 0) rn_nil (fun b o h => by cases h) (by simp)) ?_
    rintro v H10 ⟨ow10, g10, s10, e10, gv10, gs10, gl10, bd10, rd10, dm10, lo10, ans⟩
    obtain ⟨fr10, o10⟩ := frOf fr9 o9 e10
    have hq9 : Quiet 2 (gcode g9.gl) [] := .inr fun s C w head hs hh => by
      obtain ⟨g3, g4⟩ := aw_force hs hh n9 (by simp) (by simp)
      have g5 : codeN (-2) ∈ s.tr := nfs_force hs hh n9 (c := [-2]) (by simp) (by simp) (by simp) (by simp)
      exact hs.inv.ok.clash g4 g5
    cases ans with
    | bad hb => simp at hb
    | sat md m hb hd hm hG ha hl hv ho hc hq =>
      exfalso
      have hs9 := n9.sat.1 hG
      obtain ⟨m2, m4⟩ := aw_sat hm hs9 (by simp) (by simp)
      obtain ⟨x, hx, hmx⟩ := hs9 [-2] (by simp)
      simp only [List.mem_cons, List.not_mem_nil, or_false] at hx
      subst hx
      have e5 : m 5 = true := hmx
      have e4 : m 5 = !m 4 := hm.neg 4
      rw [m4, e5] at e4
      cases e4
    | unsat cs ys idle hb hcs hi hu hn hv' ho' hl' =>
      have hcs0 : cs = [] := by
        rcases hcs with ⟨h, -⟩ | ⟨-, -, x, hx, -⟩
        · exact h
        · simp at hx
      subst hcs0
      have hys : ys = [] := by
        cases ys with
        | nil => rfl
        | cons y t => have := (hn.mem y).1 (by simp); simp at this
      subst hys
      obtain ⟨L0, hL0, hor⟩ := hl'
      have hL := hL0 hq9
      rw [ls9, ls6] at hL
      subst hL
      rcases hor with ⟨hid, -⟩ | ⟨-, w, lsw, vw, -⟩
      · have := hn.idle.1 hid
        simp at this
      simp (disch := omega) only [go_sem, ↓cw_block, dsB_of]
      refine call_to (sProof1_spec (ys := []) s10.sd.sb.m lsw vw (by simp)) ?_
      rintro v H11 ⟨f11, b11, q11, c11, w11, rfl, k11, k11', v11⟩
      obtain ⟨wa, wl, wc, ew, hwl⟩ := v11.len
      have hwl0 : wl = 0 := by simp at hwl; omega
      subst hwl0
      subst ew
      have k11a : cellH H11 ⟨b11, q11 + 0, none⟩ = some (.bool false) := k11
      have s11 := s10.out f11
      have v11c : Vec H11 3 1 g10.core (([] : List Int).map iv) := hv'.frame f11 (by simp)
      simp (disch := omega) only [go_sem, ↓cw_block, dsB_of, k11, k11a, k11']
      refine call_to (sCore_spec s11.sd.sb.m v11c (by simp)) ?_
      rintro v H12 ⟨f12, v12, o12⟩
      obtain ⟨ca, cl, cc, ec, hcl⟩ := v12.len
      have hcl0 : cl = 0 := by simp at hcl; omega
      subst hcl0
      subst ec
      simp (disch := omega) only [go_sem, ↓cw_block, dsB_of, dsB_of]
      exact fin ⟨rfl, fr10.trans (f11.trans f12)⟩
end
end Go.Proofs.Ythghkhpclemmlaa

namespace Go.Proofs.Ythghkhpclemmlaa
open Go.HL HM Go.Sat
set_option maxRecDepth 10000
set_option linter.unusedSimpArgs false
set_option linter.unusedVariables false

section
variable {H : Heap}
theorem b22 {Hx : Heap} {a' : Option Addr} {l' c' : Nat} : buildSliceV Try.prog Hx 22 1 [(0, .slice a' l' c')] = some (.slice (some ⟨Hx.size, 0, none⟩) 1 1, Hx.push (.cells #[.slice a' l' c'] 26)) := bs_one T.elem22 T.size26 T.zero26 rfl
theorem small_row {css : List (List Int)} {most vars : Nat} (h : smallB css most vars = true) (hr : (css.all fun r => r.all litB) = true) : css.length ≤ most ∧ ∀ r ∈ css, r.length ≤ 30 ∧ r.all litB = true ∧ grt r ≤ vars := by
  unfold smallB at h
  rw [Bool.and_eq_true, decide_eq_true_eq, List.all_eq_true] at h
  rw [List.all_eq_true] at hr
  refine ⟨h.1, fun r hm => ?_⟩
  have := h.2 r hm
  rw [Bool.and_eq_true, decide_eq_true_eq, decide_eq_true_eq] at this
  exact ⟨this.1, hr r hm, this.2⟩
theorem RL.one {Hx : Heap} {N : Nat} {a : Option Addr} {xs : List Int} {c : Nat} (hx : Rn Hx a xs) (hN : xs ≠ [] → ∀ b o, a = some ⟨b, o, none⟩ → b < N) (hs : Hx.size < N) : RL N (Hx.push (.cells #[.slice a xs.length c] 26)) (some ⟨Hx.size, 0, none⟩) [xs] := ⟨fun i d hi => by
  have hb : Blk (Hx.push (.cells #[.slice a xs.length c] 26)) Hx.size 26 [.slice a xs.length c] := Blk.new rfl
  have h0 : i = 0 := by
    have := (List.getElem?_eq_some_iff.1 hi).1
    simp at this; omega
  subst h0
  have e := Option.some.inj hi
  subst e
  refine ⟨Hx.size, 0, a, c, rfl, hs, by rw [hb.cell]; rfl, hx.frame (F := []) Fr.push (by simp), hN⟩⟩
theorem SolA.dead2 {n : Nat} {G : List (List Nat)} {xs : List Int} {Hx : Heap} {ow : Nat → Nat} {f f' : Cf} {v : Value} (h : SolA n G xs Hx ow f f' v) (hd : f'.dead = true) (hb : xs.all (okA n) = true) : v = iv 2 := by
  cases h with
  | bad h1 => rw [hb] at h1; cases h1
  | sat md m h1 h2 => rw [hd] at h2; cases h2
  | unsat => rfl
theorem SolA.dead_of {n : Nat} {G : List (List Nat)} {Hx : Heap} {ow : Nat → Nat} {f f' : Cf} {v : Value} (h : SolA n G [] Hx ow f f' v) (hv : v = iv 2) : f'.dead = true := by
  cases h with
  | bad h1 => simp at h1
  | sat md m h1 h2 => simp at hv
  | unsat cs ys idle h1 h2 =>
    rcases h2 with ⟨_, h⟩ | ⟨_, _, x, hx, _⟩
    · exact h
    · simp at hx
theorem SolA.vals {n : Nat} {G : List (List Nat)} {xs : List Int} {Hx : Heap} {ow : Nat → Nat} {f f' : Cf} {v : Value} (h : SolA n G xs Hx ow f f' v) : (v = iv 0 ∧ xs.all (okA n) = false) ∨ (v = iv 1 ∧ xs.all (okA n) = true) ∨ (v = iv 2 ∧ xs.all (okA n) = true) := by
  cases h with
  | bad h1 => exact .inl ⟨rfl, h1⟩
  | sat md m h1 => exact .inr (.inl ⟨rfl, h1⟩)
  | unsat cs ys idle h1 => exact .inr (.inr ⟨rfl, h1⟩)
theorem okA_lit {l : Int} : okA 6 l = (litB l && decide (l.natAbs ≤ 6)) := by
  unfold okA litB
  rw [Bool.eq_iff_iff, Bool.and_eq_true, decide_eq_true_eq, decide_eq_true_eq, decide_eq_true_eq]
  omega
set_option maxHeartbeats 8000000 in
theorem satMore_spec {a ma : Option Addr} {css : List (List Int)} {more : List Int} {c mc : Nat} {l : Int} (hx : RL H.size H a css) (hm : Rn H ma more) (hmN : more ≠ [] → ∀ b o, ma = some ⟨b, o, none⟩ → b < H.size) (hcap : css.length ≤ c) (hbig : css.length ≤ 9223372036854775807) (hrb : ∀ r ∈ css, r.length ≤ 9223372036854775807) (hmb : more.length ≤ 9223372036854775807) :
    CallF Try.prog 4 [.slice a css.length c, .slice ma more.length mc, iv l] H (fun v H' => v = .bool true ∧ Fr [] H H') NoP := by
  have again : ∀ H1, Fr [] H H1 → CallF Try.prog 5 [] H1 (fun v H' => v = .bool true ∧ Fr [] H H') NoP := fun H1 f1 => lAwake_spec.to fun v H' ⟨h1, h2⟩ => ⟨h1, f1.trans h2⟩
  refine callF_of Try.func4 rfl Try.ntmps4 Try.results4 (by decide) rfl ?_
  simp (disch := omega) only [go_sem, ↓cw_block, dsB_of]
  refine call_to lAwake_spec ?_
  rintro v H1 ⟨rfl, f1⟩
  have x1 := hx.same (H' := H1) (fun b hb => f1.same b hb (by simp))
  simp (disch := omega) only [go_sem, ↓cw_block, dsB_of]
  refine call_to (rSmall_spec (most := 30) (vars := 6) x1 hcap (by omega) (by omega) hbig hrb) ?_
  rintro v H2 ⟨rfl, e⟩
  subst H2
  cases hsm : smallB css 30 6 with
  | false =>
    simp (disch := omega) only [go_sem, ↓cw_block, dsB_of]
    refine call_to (again H1 f1) ?_
    rintro v H2 ⟨rfl, f2⟩
    simp (disch := omega) only [go_sem, ↓cw_block, dsB_of, dsB_of]
    exact fin ⟨rfl, f2⟩
  | true =>
    have hsm' := hsm
    unfold smallB at hsm'
    rw [Bool.and_eq_true, decide_eq_true_eq, List.all_eq_true] at hsm'
    obtain ⟨hc30, hrows⟩ := hsm'
    have hrl : ∀ r ∈ css, r.length ≤ 1000000 := fun r hr => by
      have := hrows r hr
      rw [Bool.and_eq_true, decide_eq_true_eq] at this
      have := this.1; omega
    simp (disch := omega) only [go_sem, ↓cw_block, dsB_of]
    refine call_to (lRightAll_spec x1 (by omega) hrl) ?_
    rintro v H2 ⟨rfl, e⟩
    subst H2
    cases hra : (css.all fun r => r.all litB) with
    | false =>
      simp (disch := omega) only [go_sem, ↓cw_block, dsB_of]
      refine call_to (again H1 f1) ?_
      rintro v H2 ⟨rfl, f2⟩
      simp (disch := omega) only [go_sem, ↓cw_block, dsB_of, dsB_of]
      exact fin ⟨rfl, f2⟩
    | true =>
      obtain ⟨H3, hH3⟩ : ∃ H3, H1.push (.cells #[.slice ma more.length mc] 26) = H3 := ⟨_, rfl⟩
      have f3 : Fr [] H1 H3 := by rw [← hH3]; exact Fr.push
      have m1 : Rn H1 ma more := hm.frame f1 (by simp)
      have hz1 := f1.size
      have x3 : RL (H1.size + 1) H3 (some ⟨H1.size, 0, none⟩) [more] := by rw [← hH3]; exact RL.one m1 (fun e0 b o e => by have := hmN e0 b o e; omega) (by omega)
      have f13 := f1.trans f3
      simp (disch := omega) only [go_sem, ↓cw_block, dsB_of, b22]
      try rw [hH3]
      refine call_to (rSmall_spec (css := [more]) (c := 1) (most := 1) (vars := 6) x3 (by simp) (by omega) (by omega) (by simp) (by simpa using hmb)) ?_
      rintro v H2 ⟨rfl, e⟩
      subst H2
      cases hsm2 : smallB [more] 1 6 with
      | false =>
        simp (disch := omega) only [go_sem, ↓cw_block, dsB_of]
        refine call_to (again H3 f13) ?_
        rintro v H2 ⟨rfl, f2⟩
        simp (disch := omega) only [go_sem, ↓cw_block, dsB_of, dsB_of]
        exact fin ⟨rfl, f2⟩
      | true =>
        have hsm2' := hsm2
        unfold smallB at hsm2'
        simp only [List.length_singleton, Nat.le_refl, decide_true, Bool.true_and, List.all_cons, List.all_nil, Bool.and_true, Bool.and_eq_true, decide_eq_true_eq] at hsm2'
        obtain ⟨hm30, hmg⟩ := hsm2'
        have m3 : Rn H3 ma more := m1.frame f3 (by simp)
        simp (disch := omega) only [go_sem, ↓cw_block, dsB_of]
        refine call_to (rRight_spec m3 (by omega)) ?_
        rintro v H2 ⟨rfl, e⟩
        subst H2
        cases hmr : more.all litB with
        | false =>
          simp (disch := omega) only [go_sem, ↓cw_block, dsB_of]
          refine call_to (again H3 f13) ?_
          rintro v H2 ⟨rfl, f2⟩
          simp (disch := omega) only [go_sem, ↓cw_block, dsB_of, dsB_of]
          exact fin ⟨rfl, f2⟩
        | true =>
          have xs3 := hx.same (H' := H3) (fun b hb => f13.same b hb (by simp))
          obtain ⟨-, hrow⟩ := small_row hsm hra
          have hz3 := f13.size
          simp (disch := omega) only [go_sem, ↓cw_block, dsB_of]
          refine call_to (lMade_spec (n := 6) (N := H.size) hz3 xs3 (by omega) (fun r hr => by obtain ⟨h1, h2, h3⟩ := hrow r hr; exact ⟨by omega, h2, h3⟩) (by omega)) ?_
          rintro v H4 ⟨p, ow4, k, g4, rfl, s4, o4, f4, n4, ld4, dd4, ro4, bd4, ls4⟩
          have f04 := f13.trans f4
          have o4' : ∀ b, b < H.size → ow4 b = 0 := fun b hb => o4 b (Nat.lt_of_lt_of_le hb f13.size)
          have ng4 : g4.gl.length ≤ 30 := by rw [n4.len]; exact hc30
          simp (disch := omega) only [go_sem, ↓cw_block, dsB_of]
          refine call_to (sSolve_spec s4 (by decide) (by omega) (u := 0) bd4 (by omega) (by omega) (b := -1) (by omega) (a := none) (xs := []) (c := 0) rn_nil (fun b o h => by cases h) (by simp)) ?_
          rintro va H5 ⟨ow5, g5, s5, e5, gv5, gs5, gl5, bd5, rd5, dm5, lo5, ans5⟩
          obtain ⟨f05, o5⟩ := frOf f04 o4' e5
          simp (disch := omega) only [go_sem, ↓cw_block, dsB_of]
          refine call_to rLiteral_spec ?_
          rintro v H6 ⟨rfl, e⟩
          subst H6
          obtain ⟨H6, hH6⟩ : ∃ H6, H5.push (.cells #[iv l] 3) = H6 := ⟨_, rfl⟩
          have f6 : Fr [] H5 H6 := by rw [← hH6]; exact Fr.push
          have x6 : Rn H6 (some ⟨H5.size, 0, none⟩) [l] := by rw [← hH6]; exact Rn.new (xs := [l])
          have s6 := s5.out f6
          have z6 : H6.size = H5.size + 1 := by rw [← hH6]; simp
          have how6 : ∀ b o, (some ⟨H5.size, 0, none⟩ : Option Addr) = some ⟨b, o, none⟩ → b < H6.size ∧ ow5 b = 0 := by
            intro b o h
            simp only [Option.some.injEq, Addr.mk.injEq, and_true] at h
            obtain ⟨rfl, -⟩ := h
            exact ⟨by omega, s5.sd.sb.m.free (Nat.le_refl _)⟩
          have hr5 : g5.rounds = 0 := by rw [rd5 (by decide), ro4]
          have ng5 : g5.gl.length ≤ 30 := by rw [gl5]; exact ng4
          have solveB := sSolve_spec s6 (by decide) (by omega) (u := 400) bd5 (by omega) (by omega) (b := -1) (by omega) (a := some ⟨H5.size, 0, none⟩) (xs := [l]) (c := 1) x6 how6 (by simp)
          have hal := okA_lit (l := l)
          have hva := ans5.vals
          simp only [List.all_nil, Bool.true_eq_false, and_false, and_true, false_or] at hva
          -- behind the second solving
          have addS : ∀ (H7 : Heap) (ow7 : Nat → Nat) (g7 : Cf), SV H7 ow7 p 6 k g7 → Ex H6 ow5 H7 ow7 → g7.gl = g5.gl → CallF Try.prog 13 [hp p, .slice ma more.length mc] H7 (fun v H' => v = iv 0 ∧ ∃ ow' f' ys, SV H' ow' p 6 k f' ∧ Fr [] H H' ∧ (∀ b, b < H.size → ow' b = 0) ∧ f'.gl = g5.gl ++ [ys] ∧ f'.dead = g7.dead ∧ f'.rounds = g7.rounds ∧ ∀ u, Bd g7 u → Bd f' u) NoP := by
            intro H7 ow7 g7 s7 e7 gl7
            obtain ⟨f07, o7⟩ := frOf (f05.trans f6) o5 e7
            have m7 : Rn H7 ma more := hm.frame f07 (by simp)
            refine (sAdd_spec s7 m7 (by omega) (by rw [gl7]; omega)).to ?_
            rintro v H8 (⟨hbad, -⟩ | ⟨-, -, rfl, ow8, g8, ys8, idle8, s8, e8, nf8, gl8, ld8, dd8, ro8, ls8, bd8⟩)
            · exact absurd ⟨hmr, hmg⟩ hbad
            · obtain ⟨f08, o8⟩ := frOf f07 o7 e8
              exact ⟨rfl, ow8, g8, ys8, s8, f08, o8, by rw [gl8, gl7], dd8, ro8, bd8⟩
          have tailC : ∀ (H8 : Heap) (ow8 : Nat → Nat) (g8 : Cf) (ys : List Int), SV H8 ow8 p 6 k g8 → Fr [] H H8 → (∀ b, b < H.size → ow8 b = 0) → g8.gl = g5.gl ++ [ys] → g8.rounds = 0 → Bd g8 800 → (va = iv 2 → g8.dead = true) →
              CallF Try.prog 9 [hp p, iv (-1), .slice none 0 0] H8 (fun vc H' => (vc = iv 1 ∨ vc = iv 2) ∧ (va = iv 2 → vc = iv 2) ∧ ∃ ow' f', RM H' ow' p 6 k f' ∧ Fr [] H H' ∧ f'.gl.length = css.length + 1 ∧ ∀ g ∈ f'.gl, g.length ≤ 1000000) NoP := by
            intro H8 ow8 g8 ys s8 f08 o8 gl8 hr8 bd8 hd8
            have ng8 : g8.gl.length = css.length + 1 := by rw [gl8, List.length_append, List.length_singleton, gl5, n4.len]
            refine (sSolve_spec s8 (by decide) (by omega) (u := 800) bd8 (by omega) (by omega) (b := -1) (by omega) (a := none) (xs := []) (c := 0) rn_nil (fun b o h => by cases h) (by simp)).to ?_
            rintro vc H9 ⟨ow9, g9, s9, e9, gv9, gs9, gl9, bd9, rd9, dm9, lo9, ans9⟩
            obtain ⟨f09, o9⟩ := frOf f08 o8 e9
            refine ⟨?_, fun h => ans9.dead2 (dm9 (hd8 h)) (by simp), ow9, g9, s9.sd.sb.m, f09, by rw [gl9]; exact ng8, fun g hg => by have := ltN_len (s9.cn g hg); omega⟩
            rcases ans9.vals with ⟨_, h⟩ | ⟨h, _⟩ | ⟨h, _⟩
            · simp at h
            · exact .inl h
            · exact .inr h
          have three : (litB l = false ∧ okA 6 l = false) ∨ (litB l = true ∧ l.natAbs ≤ 6 ∧ okA 6 l = true) ∨ (litB l = true ∧ ¬ l.natAbs ≤ 6 ∧ okA 6 l = false) := by
            cases h : litB l with
            | false => exact .inl ⟨rfl, by rw [hal, h]; rfl⟩
            | true =>
              by_cases h6 : l.natAbs ≤ 6
              · exact .inr (.inl ⟨rfl, h6, by rw [hal, h]; simp [h6]⟩)
              · exact .inr (.inr ⟨rfl, h6, by rw [hal, h]; simp [h6]⟩)
          rcases three with ⟨hl, ho⟩ | ⟨hl, hn6, ho⟩ | ⟨hl, hn6, ho⟩
          · rw [hl]
            simp (disch := omega) only [go_sem, ↓cw_block, dsB_of, b26]
            rw [hH6]
            refine call_to solveB ?_
            rintro vb H7 ⟨ow7, g7, s7, e7, gv7, gs7, gl7, bd7, rd7, dm7, lo7, ans7⟩
            have hr7 : g7.rounds = 0 := by rw [rd7 (by decide), hr5]
            have hvb : vb = iv 0 := by
              rcases ans7.vals with ⟨h, _⟩ | ⟨_, h⟩ | ⟨_, h⟩
              · exact h
              · simp [ho] at h
              · simp [ho] at h
            subst hvb
            rcases hva with rfl | rfl
            all_goals
              simp (disch := omega) only [go_sem, ↓cw_block, dsB_of]
              refine call_to (addS H7 ow7 g7 s7 e7 gl7) ?_
              rintro v H8 ⟨rfl, ow8, g8, ys8, s8, f08, o8, gl8, dd8, ro8, bd8⟩
              simp (disch := omega) only [go_sem, ↓cw_block, dsB_of]
              refine call_to (tailC H8 ow8 g8 ys8 s8 f08 o8 gl8 (by rw [ro8]; exact hr7) (bd8 _ bd7) (fun h => by rw [dd8]; exact dm7 (ans5.dead_of h))) ?_
              rintro vc H9 ⟨hvc, hvc2, ow9, g9, m9, f9, ng9, gr9⟩
              have hnn : ((g9.gl.length : Nat) : Int) = (css.length : Int) + 1 := by omega
              rcases hvc with rfl | rfl
              all_goals first
                | (exfalso; have := hvc2 rfl; simp at this; done)
                | (simp (disch := omega) only [go_sem, ↓cw_block, dsB_of]
                   refine call_to (sClauses_spec m9 (by omega) gr9) ?_
                   rintro v H10 ⟨f10, ca, cc, rfl⟩
                   simp (disch := omega) only [go_sem, ↓cw_block, dsB_of, hnn, dsB_of]
                   exact fin ⟨rfl, f9.trans f10⟩)
          · rw [hl]
            simp (disch := omega) only [go_sem, ↓cw_block, dsB_of]
            refine call_to (rAbs_spec (litB_le hl)) ?_
            rintro v H7 ⟨rfl, e⟩
            subst H7
            simp (disch := omega) only [go_sem, ↓cw_block, dsB_of, b26]
            rw [hH6]
            refine call_to solveB ?_
            rintro vb H7 ⟨ow7, g7, s7, e7, gv7, gs7, gl7, bd7, rd7, dm7, lo7, ans7⟩
            have hr7 : g7.rounds = 0 := by rw [rd7 (by decide), hr5]
            have hvb : vb = iv 1 ∨ vb = iv 2 := by
              rcases ans7.vals with ⟨_, h⟩ | ⟨h, _⟩ | ⟨h, _⟩
              · simp [ho] at h
              · exact .inl h
              · exact .inr h
            have hvb2 : va = iv 2 → vb = iv 2 := fun h => ans7.dead2 (dm7 (ans5.dead_of h)) (by simp [ho])
            have hab : (va = iv 1 ∧ vb = iv 1) ∨ (va = iv 1 ∧ vb = iv 2) ∨ (va = iv 2 ∧ vb = iv 2) := by
              rcases hva with h | h
              · rcases hvb with h2 | h2
                · exact .inl ⟨h, h2⟩
                · exact .inr (.inl ⟨h, h2⟩)
              · exact .inr (.inr ⟨h, hvb2 h⟩)
            clear hvb hvb2 hva
            rcases hab with ⟨rfl, rfl⟩ | ⟨rfl, rfl⟩ | ⟨rfl, rfl⟩
            all_goals
              simp (disch := omega) only [go_sem, ↓cw_block, dsB_of]
              refine call_to (addS H7 ow7 g7 s7 e7 gl7) ?_
              rintro v H8 ⟨rfl, ow8, g8, ys8, s8, f08, o8, gl8, dd8, ro8, bd8⟩
              simp (disch := omega) only [go_sem, ↓cw_block, dsB_of]
              refine call_to (tailC H8 ow8 g8 ys8 s8 f08 o8 gl8 (by rw [ro8]; exact hr7) (bd8 _ bd7) (fun h => by rw [dd8]; exact dm7 (ans5.dead_of h))) ?_
              rintro vc H9 ⟨hvc, hvc2, ow9, g9, m9, f9, ng9, gr9⟩
              have hnn : ((g9.gl.length : Nat) : Int) = (css.length : Int) + 1 := by omega
              rcases hvc with rfl | rfl
              all_goals first
                | (exfalso; have := hvc2 rfl; simp at this; done)
                | (simp (disch := omega) only [go_sem, ↓cw_block, dsB_of]
                   refine call_to (sClauses_spec m9 (by omega) gr9) ?_
                   rintro v H10 ⟨f10, ca, cc, rfl⟩
                   simp (disch := omega) only [go_sem, ↓cw_block, dsB_of, hnn, dsB_of]
                   exact fin ⟨rfl, f9.trans f10⟩)
          · rw [hl]
            simp (disch := omega) only [go_sem, ↓cw_block, dsB_of]
            refine call_to (rAbs_spec (litB_le hl)) ?_
            rintro v H7 ⟨rfl, e⟩
            subst H7
            simp (disch := omega) only [go_sem, ↓cw_block, dsB_of, b26]
            rw [hH6]
            refine call_to solveB ?_
            rintro vb H7 ⟨ow7, g7, s7, e7, gv7, gs7, gl7, bd7, rd7, dm7, lo7, ans7⟩
            have hr7 : g7.rounds = 0 := by rw [rd7 (by decide), hr5]
            have hvb : vb = iv 0 := by
              rcases ans7.vals with ⟨h, _⟩ | ⟨_, h⟩ | ⟨_, h⟩
              · exact h
              · simp [ho] at h
              · simp [ho] at h
            subst hvb
            rcases hva with rfl | rfl
            all_goals
              simp (disch := omega) only [go_sem, ↓cw_block, dsB_of]
              refine call_to (addS H7 ow7 g7 s7 e7 gl7) ?_
              rintro v H8 ⟨rfl, ow8, g8, ys8, s8, f08, o8, gl8, dd8, ro8, bd8⟩
              simp (disch := omega) only [go_sem, ↓cw_block, dsB_of]
              refine call_to (tailC H8 ow8 g8 ys8 s8 f08 o8 gl8 (by rw [ro8]; exact hr7) (bd8 _ bd7) (fun h => by rw [dd8]; exact dm7 (ans5.dead_of h))) ?_
              rintro vc H9 ⟨hvc, hvc2, ow9, g9, m9, f9, ng9, gr9⟩
              have hnn : ((g9.gl.length : Nat) : Int) = (css.length : Int) + 1 := by omega
              rcases hvc with rfl | rfl
              all_goals first
                | (exfalso; have := hvc2 rfl; simp at this; done)
                | (simp (disch := omega) only [go_sem, ↓cw_block, dsB_of]
                   refine call_to (sClauses_spec m9 (by omega) gr9) ?_
                   rintro v H10 ⟨f10, ca, cc, rfl⟩
                   simp (disch := omega) only [go_sem, ↓cw_block, dsB_of, hnn, dsB_of]
                   exact fin ⟨rfl, f9.trans f10⟩)
end
end Go.Proofs.Ythghkhpclemmlaa

namespace Go.Proofs.Ythghkhpclemmlaa
open Go.HL HM Go.Sat
set_option maxRecDepth 10000
set_option linter.unusedSimpArgs false
set_option linter.unusedVariables false

section
variable {H : Heap}
/-- The clauses from some place on, each turned round. -/
def turn (css : List (List Int)) (k i : Nat) : List (List Int) := (List.range i).map fun j => ((css[(j + k) % css.length]?).getD []).reverse
theorem turn_add {css : List (List Int)} {k i : Nat} {x : List Int} (h : css[(i + k) % css.length]? = some x) : turn css k (i + 1) = turn css k i ++ [x.reverse] := by
  unfold turn
  rw [List.range_succ, List.map_append]
  simp [h]
theorem turn_len {css : List (List Int)} {k i : Nat} : (turn css k i).length = i := by simp [turn]
theorem turn_mem {css : List (List Int)} {k : Nat} (hk : k < css.length) {c : List Int} : c ∈ turn css k css.length ↔ ∃ x ∈ css, c = x.reverse := by
  unfold turn
  rw [List.mem_map]
  constructor
  · rintro ⟨j, hj, rfl⟩
    have hm : (j + k) % css.length < css.length := Nat.mod_lt _ (by omega)
    exact ⟨css[(j + k) % css.length], List.getElem_mem hm, by simp [List.getElem?_eq_getElem hm]⟩
  · rintro ⟨x, hx, rfl⟩
    obtain ⟨q, hq⟩ := List.getElem?_of_mem hx
    have hql := (List.getElem?_eq_some_iff.1 hq).1
    refine ⟨(q + (css.length - k)) % css.length, List.mem_range.2 (Nat.mod_lt _ (by omega)), ?_⟩
    have : ((q + (css.length - k)) % css.length + k) % css.length = q := by
      rw [Nat.mod_add_mod, show q + (css.length - k) + k = q + css.length by omega, Nat.add_mod_right, Nat.mod_eq_of_lt hql]
    rw [this, hq]; rfl
theorem turn_sat {css : List (List Int)} {k : Nat} (hk : k < css.length) {m : Nat → Bool} : Sats m (turn css k css.length) ↔ Sats m css := by
  constructor
  · intro h c hc
    obtain ⟨x, hx, hm⟩ := h c.reverse ((turn_mem hk).2 ⟨c, hc, rfl⟩)
    exact ⟨x, List.mem_reverse.1 hx, hm⟩
  · intro h c hc
    obtain ⟨x, hx, rfl⟩ := (turn_mem hk).1 hc
    obtain ⟨y, hy, hm⟩ := h x hx
    exact ⟨y, List.mem_reverse.2 hy, hm⟩
theorem SolA.answer {n : Nat} {css gl : List (List Int)} (hn : NFs css gl) {Hx : Heap} {ow : Nat → Nat} {f f' : Cf} {v : Value} (h : SolA n (gcode gl) [] Hx ow f f' v) : (v = iv 1 ∧ ∃ m, Mdl m ∧ Sats m css) ∨ (v = iv 2 ∧ ∀ m, Mdl m → ¬ Sats m css) := by
  cases h with
  | bad h1 => simp at h1
  | sat md m h1 h2 h3 h4 => exact .inl ⟨rfl, m, h3, hn.sat.1 h4⟩
  | unsat cs ys idle h1 h2 h3 h4 =>
    refine .inr ⟨rfl, fun m hm hs => ?_⟩
    rcases h2 with ⟨rfl, _⟩ | ⟨_, _, x, hx, _⟩
    · exact h4 m hm (hn.sat.2 hs) (by simp)
    · simp at hx
/-- Rows that are laid anew. -/
structure TW (N : Nat) (H : Heap) (tv : Value) (ts : List (List Int)) : Prop where
  ex : ∃ rvs, Vec H 26 1 tv rvs ∧ rvs.length = ts.length ∧ (∀ b ∈ own tv, N ≤ b) ∧ ∀ (j : Nat) rv t, rvs[j]? = some rv → ts[j]? = some t → Vec H 3 1 rv (t.map iv) ∧ (∀ b ∈ own rv, N ≤ b ∧ b ∉ own tv)
theorem TW.nil {N : Nat} : TW N H (.slice none 0 0) [] := ⟨[], Vec.nil, rfl, by simp [own], fun j rv t h => by simp at h⟩
theorem TW.frame {N : Nat} {H' : Heap} {tv : Value} {ts : List (List Int)} {F : List Nat} (h : TW N H tv ts) (hf : Fr F H H') (hF : ∀ b ∈ F, H.size ≤ b) : TW N H' tv ts := by
  obtain ⟨rvs, h1, h2, h3, h4⟩ := h.ex
  refine ⟨rvs, h1.frame hf (fun b hb hb2 => by have := h1.lt b hb; have := hF b hb2; omega), h2, h3, fun j rv t hj ht => ?_⟩
  obtain ⟨g1, g2⟩ := h4 j rv t hj ht
  exact ⟨g1.frame hf (fun b hb hb2 => by have := g1.lt b hb; have := hF b hb2; omega), g2⟩
theorem TW.form {N : Nat} {tv : Value} {ts : List (List Int)} (h : TW N H tv ts) : ∃ a c, tv = .slice a ts.length c := by
  obtain ⟨rvs, h1, h2, h3, h4⟩ := h.ex
  obtain ⟨a, len, c, rfl, e⟩ := h1.len
  rw [Nat.mul_one] at e
  exact ⟨a, c, by rw [← h2, e]⟩
theorem TW.rl {N : Nat} {tv : Value} {ts : List (List Int)} (h : TW N H tv ts) : ∃ a c, tv = .slice a ts.length c ∧ RL H.size H a ts := by
  obtain ⟨a, c, rfl⟩ := h.form
  obtain ⟨rvs, h1, h2, h3, h4⟩ := h.ex
  refine ⟨a, c, rfl, ⟨fun i t hi => ?_⟩⟩
  have hl := (List.getElem?_eq_some_iff.1 hi).1
  obtain ⟨rv, hrv⟩ : ∃ rv, rvs[i]? = some rv := ⟨_, List.getElem?_eq_getElem (by omega)⟩
  obtain ⟨g1, g2⟩ := h4 i rv t hrv hi
  obtain ⟨b, o, cap, e, hc⟩ := vec_cell h1 hrv
  simp only [Value.slice.injEq] at e
  obtain ⟨rfl, -, rfl⟩ := e
  obtain ⟨ra, rc, rfl, hrn⟩ := (IL.of_vec g1).ex
  refine ⟨b, o, ra, rc, rfl, cell_lt hc, hc, hrn, fun _ b' o' e => g1.lt b' (by rw [e]; simp [own])⟩
end
end Go.Proofs.Ythghkhpclemmlaa

