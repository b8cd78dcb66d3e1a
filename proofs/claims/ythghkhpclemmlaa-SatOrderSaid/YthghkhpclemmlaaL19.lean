/- SatOrder: the walk. -/
import Derived.Test.YthghkhpclemmlaaL18
import Derived.Test.YthghkhpclemmlaaL13
namespace Go.Proofs.Ythghkhpclemmlaa
open Go.HL HM Go.Sat
set_option maxRecDepth 10000
set_option linter.unusedSimpArgs false
set_option linter.unusedVariables false

section
variable {H : Heap}
theorem SV.outF {ow : Nat → Nat} {p n : Nat} {k : Bk} {f : Cf} {H' : Heap} {F : List Nat} (h : SV H ow p n k f) (hf : Fr F H H') (hF : ∀ b ∈ F, ow b = 0) : SV H' ow p n k f :=
  ⟨⟨⟨h.sd.sb.m.out hf hF, h.sd.sb.r, h.sd.sb.inv, h.sd.sb.wi, h.sd.sb.le, h.sd.sb.hin, h.sd.sb.sn, h.sd.sb.stp, h.sd.sb.n⟩, h.sd.st, h.sd.ok, h.sd.no⟩, h.cn, h.ld⟩
set_option maxHeartbeats 8000000 in
theorem satOrder_spec {a : Option Addr} {css : List (List Int)} {c : Nat} {at' : Int} (hat : 0 ≤ at' ∧ at' ≤ 255) (hx : RL H.size H a css) (hcap : css.length ≤ c) (hbig : css.length ≤ 9223372036854775807) (hrb : ∀ r ∈ css, r.length ≤ 9223372036854775807) :
    CallF Try.prog 3 [.slice a css.length c, .int .u8 at'] H (fun v H' => v = .bool true ∧ Fr [] H H') NoP := by
  have again : ∀ H1, Fr [] H H1 → CallF Try.prog 5 [] H1 (fun v H' => v = .bool true ∧ Fr [] H H') NoP := fun H1 f1 => lAwake_spec.to fun v H' ⟨h1, h2⟩ => ⟨h1, f1.trans h2⟩
  refine callF_of Try.func3 rfl Try.ntmps3 Try.results3 (by decide) rfl ?_
  simp (disch := omega) only [go_sem, ↓cw_block, dsB_of]
  refine call_to lAwake_spec ?_
  rintro v H1 ⟨rfl, f1⟩
  have x1 := hx.same (H' := H1) (fun b hb => f1.same b hb (by simp))
  simp (disch := omega) only [go_sem, ↓cw_block, dsB_of]
  refine call_to (rSmall_spec (most := 40) (vars := 7) x1 hcap (by omega) (by omega) hbig hrb) ?_
  rintro v H2 ⟨rfl, e⟩
  subst H2
  cases hsm : smallB css 40 7 with
  | false =>
    simp (disch := omega) only [go_sem, ↓cw_block, dsB_of]
    refine call_to (again H1 f1) ?_
    rintro v H2 ⟨rfl, f2⟩
    simp (disch := omega) only [go_sem, ↓cw_block, dsB_of, dsB_of]
    exact fin ⟨rfl, f2⟩
  | true =>
    have hsm' := hsm
    unfold smallB at hsm'
    rw [Bool.and_eq_true, decide_eq_true_eq, List.all_eq_true] at hsm'
    obtain ⟨hc30, hrows⟩ := hsm'
    have hrl : ∀ r ∈ css, r.length ≤ 1000000 := fun r hr => by
      have := hrows r hr
      rw [Bool.and_eq_true, decide_eq_true_eq] at this
      have := this.1; omega
    simp (disch := omega) only [go_sem, ↓cw_block, dsB_of]
    refine call_to (lRightAll_spec x1 (by omega) hrl) ?_
    rintro v H2 ⟨rfl, e⟩
    subst H2
    cases hra : (css.all fun r => r.all litB) with
    | false =>
      simp (disch := omega) only [go_sem, ↓cw_block, dsB_of]
      refine call_to (again H1 f1) ?_
      rintro v H2 ⟨rfl, f2⟩
      simp (disch := omega) only [go_sem, ↓cw_block, dsB_of, dsB_of]
      exact fin ⟨rfl, f2⟩
    | true =>
      by_cases h0 : css.length = 0
      · rw [h0]
        simp (disch := omega) only [go_sem, ↓cw_block, dsB_of]
        refine call_to (again H1 f1) ?_
        rintro v H2 ⟨rfl, f2⟩
        simp (disch := omega) only [go_sem, ↓cw_block, dsB_of, dsB_of]
        exact fin ⟨rfl, f2⟩
      · obtain ⟨-, hrow⟩ := small_row hsm hra
        obtain ⟨A, rfl⟩ := Int.eq_ofNat_of_zero_le hat.1
        obtain ⟨k, hk⟩ : ∃ k, k = A % css.length := ⟨_, rfl⟩
        have hkc : (A : Int) % (css.length : Int) = ((k : Nat) : Int) := by rw [hk]; exact (Int.natCast_emod A css.length).symm
        have hkl : k < css.length := by rw [hk]; exact Nat.mod_lt _ (by omega)
        simp (disch := omega) only [go_sem, dsB_of]
        refine cut_at (fun ρ H2 => ∃ tv, (ρ.get 0 = .slice a css.length c ∧ ρ.get 6 = tv ∧ ρ.ds = []) ∧ Fr [] H H2 ∧ TW H.size H2 tv (turn css k css.length)) ?_ ?_
        · simp (disch := omega) only [go_sem, ↓cw_block, dsB_of]
          refine loop_by (fun j ρ H2 => ∃ (i : Nat) (tv : Value), j = css.length - i ∧ i ≤ css.length ∧ (ρ.get 0 = .slice a css.length c ∧ ρ.get 5 = iv k ∧ ρ.get 6 = tv ∧ ρ.get 7 = iv i ∧ ρ.ds = []) ∧ Fr [] H H2 ∧ TW H.size H2 tv (turn css k i)) (k := css.length) ?_ ?_
          · refine ⟨0, _, rfl, by omega, by simp (disch := omega) only [go_sem, ↓cw_block, dsB_of, hkc], f1, TW.nil⟩
          · rintro _ ρ H2 ⟨i, tv, rfl, hi, ⟨r0, r5, r6, r7, rd⟩, f2, tw⟩
            by_cases hie : i = css.length
            · subst hie
              simp (disch := omega) only [go_sem, ↓cw_block, dsB_of, r0, r5, r6, r7, rd]
              exact fin ⟨tv, by simp (disch := omega) only [go_sem, ↓cw_block, dsB_of, r0, r6, rd], f2, tw⟩
            · have hm : (i + k) % css.length < css.length := Nat.mod_lt _ (by omega)
              obtain ⟨x, hxi⟩ : ∃ x, css[(i + k) % css.length]? = some x := ⟨_, List.getElem?_eq_getElem hm⟩
              have x2 := hx.same (H' := H2) (fun b hb => f2.same b hb (by simp))
              obtain ⟨b', o', ra, rc, e, -, kx, hr, hrN⟩ := x2.ex _ x hxi
              have hi1 : (i : Int) + 1 = ((i + 1 : Nat) : Int) := by omega
              have hik : (i : Int) + (k : Int) = ((i + k : Nat) : Int) := by omega
              have hxl := (hrow x (List.mem_of_getElem? hxi)).1
              subst e
              have hmc : ((i + k : Nat) : Int) % (css.length : Int) = (((i + k) % css.length : Nat) : Int) := (Int.natCast_emod (i + k) css.length).symm
              simp (disch := omega) only [go_sem, dsB_of, r0, r5, r6, r7, rd]
              simp only [↓cw_block]
              simp (disch := omega) only [go_sem, dsB_of, r0, r5, r6, r7, rd, hik, hmc, kx]
              refine cut_at (fun ρ H3 => ∃ dv, (ρ.get 0 = .slice (some ⟨b', o', none⟩) css.length c ∧ ρ.get 5 = iv k ∧ ρ.get 6 = tv ∧ ρ.get 7 = iv i ∧ ρ.get 9 = dv ∧ ρ.ds = []) ∧ Fr [] H2 H3 ∧ Vec H3 3 1 dv (x.reverse.map iv) ∧ ∀ b ∈ own dv, H2.size ≤ b) ?_ ?_
              · simp (disch := omega) only [go_sem, ↓cw_block, dsB_of]
                refine loop_by (fun j ρ H3 => ∃ (q : Nat) (dv : Value), j = x.length - q ∧ q ≤ x.length ∧ (ρ.get 0 = .slice (some ⟨b', o', none⟩) css.length c ∧ ρ.get 5 = iv k ∧ ρ.get 6 = tv ∧ ρ.get 7 = iv i ∧ ρ.get 8 = .slice ra x.length rc ∧ ρ.get 9 = dv ∧ ρ.get 10 = iv ((x.length : Int) - 1 - q) ∧ ρ.ds = []) ∧ Fr [] H2 H3 ∧ Vec H3 3 1 dv ((x.reverse.take q).map iv) ∧ ∀ b ∈ own dv, H2.size ≤ b) (k := x.length) ?_ ?_
                · exact ⟨0, .slice none 0 0, rfl, by omega, by simp (disch := omega) only [go_sem, ↓cw_block, dsB_of, r0, r5, r6, r7, rd]; simp, Fr.refl _ _, by simpa using (Vec.nil : Vec H2 3 1 (.slice none 0 0) []), by simp [own]⟩
                · rintro _ ρ H3 ⟨q, dv, rfl, hq, ⟨r0, r5, r6, r7, r8, r9, r10, rd⟩, f3, dvv, od⟩
                  by_cases hqe : q = x.length
                  · subst hqe
                    rw [← List.length_reverse, List.take_length] at dvv
                    simp (disch := omega) only [go_sem, ↓cw_block, dsB_of, r0, r5, r6, r7, r8, r9, r10, rd]
                    exact fin ⟨dv, by simp (disch := omega) only [go_sem, ↓cw_block, dsB_of, r0, r5, r6, r7, r9, rd], f3, dvv, od⟩
                  · obtain ⟨y, hy⟩ : ∃ y, x[x.length - 1 - q]? = some y := ⟨_, List.getElem?_eq_getElem (by omega)⟩
                    have hr3 := hr.frame f3 (by simp)
                    obtain ⟨yb, yo, ye, ky⟩ := hr3 _ y hy
                    subst ye
                    have hq1 : (x.length : Int) - 1 - q = ((x.length - 1 - q : Nat) : Int) := by omega
                    have hq2 : (x.length : Int) - 1 - q - 1 = (x.length : Int) - 1 - ((q + 1 : Nat) : Int) := by omega
                    have htk : x.reverse.take (q + 1) = x.reverse.take q ++ [y] := by
                      rw [List.take_add_one, List.getElem?_reverse (by omega), hy]; rfl
                    rw [hq1] at r10
                    simp (disch := omega) only [go_sem, ↓cw_block, dsB_of, r0, r5, r6, r7, r8, r9, r10, rd, ky, b26]
                    refine app_lit1 T.el26 rfl dvv rfl (by simp; omega) ?_
                    intro v' H4 g1 g2 g3 g4
                    simp (disch := omega) only [go_sem, ↓cw_block, dsB_of, r0, r5, r6, r7, r8, r9, r10, rd]
                    refine fin ⟨x.length - (q + 1), by omega, q + 1, v', rfl, by omega, by simp (disch := omega) only [go_sem, ↓cw_block, dsB_of, r0, r5, r6, r7, r8, r10, rd, ← hq1, hq2], ⟨Nat.le_trans f3.size g2.size, fun b hb _ => ?_⟩, by rw [htk]; simpa using g1, fun b hb => ?_⟩
                    · rw [g2.same b (by have := f3.size; omega) (fun e => by have := od b e; omega), f3.same b hb (by simp)]
                    · rcases g3 b hb with h | h
                      · exact od b h
                      · have := f3.size; omega
              · rintro ρ H3 ⟨dv, ⟨r0, r5, r6, r7, r9, rd⟩, f3, dvv, od⟩
                obtain ⟨rvs, h1, h2, h3, h4⟩ := (tw.frame f3 (by simp)).ex
                obtain ⟨da, dn, dc, ed, -⟩ := dvv.len
                subst ed
                have htv : ∀ b ∈ own tv, b < H2.size := by
                  obtain ⟨rvs2, g1, -⟩ := tw.ex
                  exact g1.lt
                have hz2 := f2.size
                have hz3 := f3.size
                simp (disch := omega) only [go_sem, ↓cw_block, dsB_of, r0, r5, r6, r7, r9, rd, b22]
                refine app_lit1 T.el22 rfl h1 rfl (by rw [h2, turn_len]; omega) ?_
                intro v' H4 g1 g2 g3 g4
                simp (disch := omega) only [go_sem, ↓cw_block, dsB_of, r0, r5, r6, r7, r9, rd]
                have hn' : ∀ b, b < H3.size → b ∉ own tv → b ∉ own v' := fun b hb hb2 hb3 => by
                  rcases g3 b hb3 with h | h
                  · exact hb2 h
                  · omega
                refine fin ⟨css.length - (i + 1), by omega, i + 1, v', rfl, by omega, by simp (disch := omega) only [go_sem, ↓cw_block, dsB_of, r0, r5, r6, r7, r9, rd, hi1], ⟨Nat.le_trans (Nat.le_trans f2.size f3.size) g2.size, fun b hb _ => ?_⟩, ?_⟩
                · rw [g2.same b (by omega) (fun e => by have := h3 b e; omega), f3.same b (by omega) (by simp), f2.same b hb (by simp)]
                · rw [turn_add hxi]
                  refine ⟨rvs ++ [_], g1, by simp [h2], fun b hb => ?_, fun j rv t hj ht => ?_⟩
                  · rcases g3 b hb with h | h
                    · exact h3 b h
                    · omega
                  · rcases Nat.lt_trichotomy j rvs.length with hlt | he | hgt
                    · rw [List.getElem?_append_left hlt] at hj
                      rw [List.getElem?_append_left (by omega)] at ht
                      obtain ⟨q1, q2⟩ := h4 j rv t hj ht
                      exact ⟨q1.frame g2 (fun b hb => (q2 b hb).2), fun b hb => ⟨(q2 b hb).1, hn' b (q1.lt b hb) (q2 b hb).2⟩⟩
                    · subst he
                      rw [List.getElem?_append_right (Nat.le_refl _), Nat.sub_self] at hj
                      rw [h2, List.getElem?_append_right (Nat.le_refl _), Nat.sub_self] at ht
                      have e1 := Option.some.inj hj
                      have e2 := Option.some.inj ht
                      subst e1; subst e2
                      have hnt : ∀ b ∈ own (Value.slice da dn dc), b ∉ own tv := fun b hb hb2 => by have := od b hb; have := htv b hb2; omega
                      exact ⟨dvv.frame g2 hnt, fun b hb => ⟨by have := od b hb; omega, hn' b (dvv.lt b hb) (hnt b hb)⟩⟩
                    · rw [List.getElem?_eq_none (by simp; omega)] at hj; cases hj
        · rintro ρ H2 ⟨tv, ⟨r0, r6, rd⟩, f2, tw⟩
          have x2 := hx.same (H' := H2) (fun b hb => f2.same b hb (by simp))
          obtain ⟨ta, tc, rfl, tl⟩ := tw.rl
          have htr : ∀ r ∈ turn css k css.length, r.length ≤ 1000 ∧ r.all litB = true ∧ grt r ≤ 7 := fun r hr => by
            obtain ⟨x, hx, rfl⟩ := (turn_mem hkl).1 hr
            obtain ⟨q1, q2, q3⟩ := hrow x hx
            refine ⟨by simp; omega, by rw [List.all_reverse]; exact q2, grt_le.2 fun y hy hl => grt_le.1 q3 y (List.mem_reverse.1 hy) hl⟩
          simp (disch := omega) only [go_sem, ↓cw_block, dsB_of, r0, r6]
          refine call_to (lMade_spec (n := 7) (N := H.size) f2.size x2 (by omega) (fun r hr => by obtain ⟨h1, h2, h3⟩ := hrow r hr; exact ⟨by omega, h2, h3⟩) (by omega)) ?_
          rintro v H3 ⟨pa, owa, ka, fa, rfl, sa, oa, f3, na, lda, dda, roa, bda, lsa⟩
          have t3 := tl.same (H' := H3) (fun b hb => f3.same b hb (by simp))
          simp (disch := omega) only [go_sem, ↓cw_block, dsB_of, r6]
          refine call_to (lMade_spec (n := 7) (N := H2.size) f3.size t3 (by rw [turn_len]; omega) htr (by omega)) ?_
          rintro v H4 ⟨pb, owb, kb, fb, rfl, sb, ob, f4, nb, ldb, ddb, rob, bdb, lsb⟩
          simp (disch := omega) only [go_sem, ↓cw_block, dsB_of]
          refine call_to (sSolve_spec (sa.out f4) (by decide) (by omega) (u := 0) bda (by omega) (by rw [na.len]; omega) (b := -1) (by omega) (a := none) (xs := []) (c := 0) rn_nil (fun b o h => by cases h) (by simp)) ?_
          rintro va H5 ⟨ow5, g5, s5, e5, -, -, -, -, -, -, -, ansA⟩
          have f5 : Fr ((List.range H4.size).filter fun b => decide (owa b ≠ 0)) H4 H5 := ⟨e5.sm.size, fun b hb hn => e5.fr hb (by
            by_cases h : owa b = 0
            · exact h
            · exact absurd (List.mem_filter.2 ⟨List.mem_range.2 hb, by simpa using h⟩) hn)⟩
          have sb5 := sb.outF f5 (fun b hb => by
            have := (List.mem_filter.1 hb).2
            rw [decide_eq_true_eq] at this
            exact ob b (sa.sd.sb.m.lo b this))
          have hA := ansA.answer na
          have fr05 : Fr [] H H5 := by
            have h1 := f2.size
            have h2 := f3.size
            have h3 := f4.size
            exact ⟨by have := e5.sm.size; omega, fun b hb _ => by rw [e5.fr (by omega) (oa b (by omega)), f4.same b (by omega) (by simp), f3.same b (by omega) (by simp), f2.same b hb (by simp)]⟩
          simp (disch := omega) only [go_sem, ↓cw_block, dsB_of]
          refine call_to (sSolve_spec sb5 (by decide) (by omega) (u := 0) bdb (by omega) (by rw [nb.len, turn_len]; omega) (b := -1) (by omega) (a := none) (xs := []) (c := 0) rn_nil (fun b o h => by cases h) (by simp)) ?_
          rintro vb H6 ⟨ow6, g6, s6, e6, -, -, -, -, -, -, -, ansB⟩
          have hB := ansB.answer nb
          have fr06 : Fr [] H H6 := by
            have h1 := f2.size
            have h2 := f3.size
            have h3 := f4.size
            have h4 := e5.sm.size
            exact ⟨by have := e6.sm.size; omega, fun b hb _ => by rw [e6.fr (by omega) (ob b (by omega))]; exact fr05.same b hb (by simp)⟩
          rcases hA with ⟨rfl, m, hm, hs⟩ | ⟨rfl, hs⟩
          · rcases hB with ⟨rfl, -⟩ | ⟨rfl, hsB⟩
            · simp (disch := omega) only [go_sem, ↓cw_block, dsB_of, dsB_of]
              exact fin ⟨rfl, fr06⟩
            · exact absurd ((turn_sat hkl).2 hs) (hsB m hm)
          · rcases hB with ⟨rfl, m, hm, hsB⟩ | ⟨rfl, hsB⟩
            · exact absurd ((turn_sat hkl).1 hsB) (hs m hm)
            · simp (disch := omega) only [go_sem, ↓cw_block, dsB_of, dsB_of]
              exact fin ⟨rfl, fr06⟩
end
end Go.Proofs.Ythghkhpclemmlaa

namespace Go.HL
open Go.ChangeShapes Go.WideShapes Go.ChangeAt Go.RowKit

theorem omapM_some {α β : Type} {f : α → Option β} : ∀ {l : List α} {r : List β}, l.mapM f = some r → r.length = l.length ∧ ∀ (j : Nat) x, l[j]? = some x → ∃ y, f x = some y ∧ r[j]? = some y := by
  intro l
  induction l with
  | nil => intro r h; simp at h; subst h; simp
  | cons a l ih =>
    intro r h
    rw [List.mapM_cons] at h
    simp only [bind, Option.bind_eq_some_iff, pure, Option.some.injEq] at h
    obtain ⟨y, hy, r', hr, rfl⟩ := h
    obtain ⟨h1, h2⟩ := ih hr
    refine ⟨by simp [h1], fun j x hx => ?_⟩
    cases j with
    | zero => simp at hx; subst hx; exact ⟨y, hy, rfl⟩
    | succ j => simp at hx; simpa using h2 j x hx
theorem list_of {α : Type} {p : Nat → α → Prop} : ∀ {n : Nat}, (∀ i, i < n → ∃ x, p i x) → ∃ xs : List α, xs.length = n ∧ ∀ i x, xs[i]? = some x → p i x := by
  intro n
  induction n with
  | zero => intro _; exact ⟨[], rfl, by simp⟩
  | succ n ih =>
    intro h
    obtain ⟨xs, h1, h2⟩ := ih fun i hi => h i (by omega)
    obtain ⟨x, hx⟩ := h n (by omega)
    refine ⟨xs ++ [x], by simp [h1], fun i y hy => ?_⟩
    rw [List.getElem?_append] at hy
    split at hy
    · exact h2 i y hy
    · rename_i hi
      have : i = n := by
        have := (List.getElem?_eq_some_iff.1 hy).1
        simp at this; omega
      subst this
      simp [h1] at hy
      exact hy ▸ hx

section
variable {H : Type} {enc : TypeId × Value → H} {P : Program} {W : World}
abbrev TR (enc : TypeId × Value → H) (P : Program) (W : World) (t : TypeId) (cs : List Value) : Prop := ∃ fuel x, DataW.trod enc P W 0 (fun _ => true) true fuel t cs = some x
theorem TR.int {t : TypeId} {k : IntKind} {cs : List Value} (ht : P.underlying t = some (.int k)) (h : TR enc P W t cs) : ∃ n, cs = [.int k n] ∧ (Lit.int k n).wf = true := by
  obtain ⟨fuel, x, h⟩ := h
  cases fuel with
  | zero => simp [DataW.trod] at h
  | succ fuel =>
    unfold DataW.trod at h
    rw [ht] at h
    split at h <;> simp_all
theorem TR.bool {t : TypeId} {cs : List Value} (ht : P.underlying t = some .bool) (h : TR enc P W t cs) : ∃ b, cs = [.bool b] := by
  obtain ⟨fuel, x, h⟩ := h
  cases fuel with
  | zero => simp [DataW.trod] at h
  | succ fuel =>
    unfold DataW.trod at h
    rw [ht] at h
    split at h <;> simp_all
theorem TR.string {t : TypeId} {cs : List Value} (ht : P.underlying t = some .string) (h : TR enc P W t cs) : ∃ s, cs = [.string s] ∧ s.size ≤ maxLen := by
  obtain ⟨fuel, x, h⟩ := h
  cases fuel with
  | zero => simp [DataW.trod] at h
  | succ fuel =>
    unfold DataW.trod at h
    rw [ht] at h
    split at h <;> simp_all
theorem TR.struct {t : TypeId} {fs : Array Field} {cs : List Value} (ht : P.underlying t = some (.struct fs)) (h : TR enc P W t cs) :
    cs.length = P.cellsOf t ∧ ∀ f ∈ fs.toList, TR enc P W f.type ((cs.drop f.offset).take (P.cellsOf f.type)) := by
  obtain ⟨fuel, x, h⟩ := h
  cases fuel with
  | zero => simp [DataW.trod] at h
  | succ fuel =>
    unfold DataW.trod at h
    rw [ht] at h
    split at h <;> first | (simp at *; done) | skip
    rename_i fs' hfs
    simp only [Option.some.injEq, TypeDesc.struct.injEq] at hfs
    subst hfs
    split at h
    · rename_i h1
      simp only [Option.map_eq_some_iff] at h
      obtain ⟨y, hy, _⟩ := h
      refine ⟨h1, fun f hf => ?_⟩
      obtain ⟨j, hj⟩ := List.getElem?_of_mem hf
      obtain ⟨z, hz, _⟩ := (omapM_some hy).2 j f hj
      exact ⟨fuel, z, hz⟩
    · simp at h
/-- A slice: it is nil, or its elements are laid one behind the other. -/
theorem TR.slice {t e : TypeId} {z : Nat} {cs : List Value} (ht : P.underlying t = some (.slice e)) (hz : P.cellsOf e = z) (hz0 : 0 < z) (h : TR enc P W t cs) :
    ∃ a len cap, cs = [.slice a len cap] ∧ len ≤ maxLen ∧ (0 < len → ∃ b o, a = some ⟨b, o, none⟩ ∧ ∀ i, i < len → ∃ es, es.length = z ∧ (∀ j, j < z → cellH W.heap ⟨b, o + i * z + j, none⟩ = es[j]?) ∧ TR enc P W e es) := by
  obtain ⟨fuel, x, h⟩ := h
  cases fuel with
  | zero => simp [DataW.trod] at h
  | succ fuel =>
    unfold DataW.trod at h
    rw [ht] at h
    split at h <;> first | (simp at *; done) | skip
    · exact ⟨none, 0, 0, rfl, by simp, by omega⟩
    · rename_i e' a len cap he
      simp only [Option.some.injEq, TypeDesc.slice.injEq] at he
      subst he
      simp only at h
      split at h
      · rename_i hb
        simp only [Option.bind_eq_some_iff] at h
        obtain ⟨elems, hel, _⟩ := h
        refine ⟨some a, len, cap, rfl, by omega, fun hl => ?_⟩
        have hrow : ∀ i, i < len → ∃ es, es.length = z ∧ (∀ j, j < z → W.cell? ((a.add (i * z)).add j) = es[j]?) ∧ TR enc P W e es := by
          intro i hi
          obtain ⟨y, hy, _⟩ := (omapM_some hel).2 i i (by simp [hi])
          simp only [Option.bind_eq_some_iff] at hy
          obtain ⟨es, hes, hy⟩ := hy
          rw [hz] at hes
          unfold World.cells? at hes
          split at hes
          · obtain ⟨g1, g2⟩ := omapM_some hes
            simp at g1
            refine ⟨es, g1, fun j hj => ?_, fuel, y, hy⟩
            obtain ⟨u, hu, hr⟩ := g2 j j (by simp [hj])
            rw [hu, hr]
          · simp at hes
        have ha : a = ⟨a.block, a.off, none⟩ := by
          obtain ⟨es, g1, g2, _⟩ := hrow 0 hl
          have := g2 0 hz0
          cases a with
          | mk b o s =>
            cases s with
            | none => rfl
            | some q =>
              exfalso
              have h0 : es[0]? = some es[0] := by simp
              rw [h0] at this
              simp [Addr.add, World.cell?] at this
              split at this <;> simp at this
        refine ⟨a.block, a.off, by rw [← ha], fun i hi => ?_⟩
        obtain ⟨es, g1, g2, g3⟩ := hrow i hi
        refine ⟨es, g1, fun j hj => ?_, g3⟩
        rw [← g2 j hj, ha, addr_add, addr_add]
        rfl
      · simp at h
theorem TR.of {t : TypeId} {v : Value} {d : DataW H} {ps : List MemPlace} (h : DataW.Trod enc P W 0 (fun _ => true) true t v d ps) : TR enc P W t v.cells.toList := by
  obtain ⟨fuel, h⟩ := h
  exact ⟨fuel, _, h⟩
end
end Go.HL

namespace Go.HL
open Go.ChangeShapes Go.WideShapes Go.ChangeAt Go.RowKit
section
variable {H : Type} {enc : TypeId × Value → H} {P : Program} {W : World}
theorem TR.capL {t e : TypeId} {a : Option Addr} {len cap : Nat} (ht : P.underlying t = some (.slice e)) (h : TR enc P W t [.slice a len cap]) : len ≤ cap := by
  obtain ⟨fuel, x, h⟩ := h
  cases fuel with
  | zero => simp [DataW.trod] at h
  | succ fuel =>
    unfold DataW.trod at h
    rw [ht] at h
    split at h <;> first | (simp at *; done) | skip
    · rename_i hc
      simp only [List.cons.injEq, Value.slice.injEq, and_true] at hc
      omega
    · rename_i e' a' len' cap' he hc
      simp only [List.cons.injEq, Value.slice.injEq, and_true] at hc
      obtain ⟨rfl, rfl, rfl⟩ := hc
      simp only at h
      split at h
      · rename_i hb; omega
      · simp at h
end
end Go.HL
namespace Go.Proofs.Ythghkhpclemmlaa
open Go.ChangeShapes Go.WideShapes Go.ChangeAt Go.RowKit Go.HL
set_option maxRecDepth 100000
section
variable {H : Type} {enc : TypeId × Value → H} {W : World}
theorem tr_row {cs : List Value} (h : TR enc Try.prog W 26 cs) : ∃ a xs cap, cs = [.slice a xs.length cap] ∧ Rn W.heap a xs ∧ xs.length ≤ maxLen ∧ xs.length ≤ cap ∧ (xs ≠ [] → ∀ b o, a = some ⟨b, o, none⟩ → b < W.heap.size) := by
  obtain ⟨a, len, cap, rfl, hl, hr⟩ := h.slice (z := 1) Try.underlying26 (by kernel_rfl) (by omega)
  have hcap := TR.capL Try.underlying26 h
  have key : ∀ i, i < len → ∃ x : Int, ∃ b o, a = some ⟨b, o, none⟩ ∧ cellH W.heap ⟨b, o + i, none⟩ = some (iv x) := by
    intro i hi
    obtain ⟨b, o, rfl, hrow⟩ := hr (by omega)
    obtain ⟨es, hes, hc, ht⟩ := hrow i hi
    match es, hes with
    | [x0], _ =>
      obtain ⟨m, e, -⟩ := ht.int Try.underlying3
      simp only [List.cons.injEq, and_true] at e
      subst e
      have c0 := hc 0 (by omega)
      simp at c0
      exact ⟨m, b, o, rfl, c0⟩
  obtain ⟨xs, g1, g2⟩ := list_of key
  subst g1
  refine ⟨a, xs, cap, rfl, fun i x hx => ?_, hl, hcap, fun hne b o e => ?_⟩
  · obtain ⟨b, o, e, hc⟩ := g2 i x hx
    exact ⟨b, o, e, hc⟩
  · obtain ⟨x, hx⟩ : ∃ x, xs[0]? = some x := ⟨_, List.getElem?_eq_getElem (List.length_pos_iff.2 hne)⟩
    obtain ⟨b', o', e', hc⟩ := g2 0 x hx
    rw [e] at e'
    simp only [Option.some.injEq, Addr.mk.injEq, and_true] at e'
    obtain ⟨rfl, rfl⟩ := e'
    exact cell_lt hc
theorem arg_nums {r : Reach} {b0 : Nat} {v : Value} {d : DataW H} {ps : List MemPlace}
    (hval : Value.okWide Try.prog W r b0 26 v) (hd : DataW.Trod enc Try.prog W 0 (fun _ => true) true 26 v d ps) : ∃ a xs cap, v = .slice a xs.length cap ∧ Rn W.heap a xs ∧ xs.length ≤ maxLen ∧ xs.length ≤ cap ∧ (xs ≠ [] → ∀ b o, a = some ⟨b, o, none⟩ → b < W.heap.size) := by
  obtain ⟨a0, len0, cap0, rfl⟩ := okWide_slice Try.underlying26 hval
  obtain ⟨a, xs, cap, e, h⟩ := tr_row (Go.HL.TR.of hd)
  simp [Value.cells] at e
  obtain ⟨rfl, rfl, rfl⟩ := e
  exact ⟨_, xs, _, rfl, h⟩
theorem arg_mat {r : Reach} {b0 : Nat} {v : Value} {d : DataW H} {ps : List MemPlace}
    (hval : Value.okWide Try.prog W r b0 22 v) (hd : DataW.Trod enc Try.prog W 0 (fun _ => true) true 22 v d ps) : ∃ a css cap, v = .slice a css.length cap ∧ RL W.heap.size W.heap a css ∧ css.length ≤ maxLen ∧ css.length ≤ cap ∧ ∀ c ∈ css, c.length ≤ maxLen := by
  obtain ⟨a0, len0, cap0, rfl⟩ := okWide_slice Try.underlying22 hval
  have h := Go.HL.TR.of hd
  obtain ⟨a, len, cap, e, hl, hr⟩ := h.slice (z := 1) Try.underlying22 (by kernel_rfl) (by omega)
  rw [e] at h
  have hcap := TR.capL Try.underlying22 h
  simp [Value.cells] at e
  obtain ⟨rfl, rfl, rfl⟩ := e
  have key : ∀ i, i < len0 → ∃ c : List Int, (∃ b o ra rc, a0 = some ⟨b, o, none⟩ ∧ cellH W.heap ⟨b, o + i, none⟩ = some (.slice ra c.length rc) ∧ Rn W.heap ra c ∧ (c ≠ [] → ∀ b' o', ra = some ⟨b', o', none⟩ → b' < W.heap.size)) ∧ c.length ≤ maxLen := by
    intro i hi
    obtain ⟨b, o, rfl, hrow⟩ := hr (by omega)
    obtain ⟨es, hes, hc, ht⟩ := hrow i hi
    obtain ⟨ra, c, rc, rfl, h1, h2, h3, h4⟩ := tr_row ht
    have c0 := hc 0 (by omega)
    simp at c0
    exact ⟨c, ⟨b, o, ra, rc, rfl, c0, h1, h4⟩, h2⟩
  obtain ⟨css, g1, g2⟩ := list_of key
  subst g1
  refine ⟨a0, css, cap0, rfl, ⟨fun i c hi => ?_⟩, hl, hcap, fun c hc => ?_⟩
  · obtain ⟨⟨b, o, ra, rc, e, h1, h2, h3⟩, -⟩ := g2 i c hi
    exact ⟨b, o, ra, rc, e, cell_lt h1, h1, h2, h3⟩
  · obtain ⟨i, hi⟩ := List.getElem?_of_mem hc
    exact (g2 i c hi).2
end
end Go.Proofs.Ythghkhpclemmlaa

