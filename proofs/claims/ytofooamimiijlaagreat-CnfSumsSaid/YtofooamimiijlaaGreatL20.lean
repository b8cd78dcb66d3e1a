/- The solver: a clause is added. -/
import Derived.Test.YtofooamimiijlaaGreatL19
import Derived.Test.YtofooamimiijlaaGreatL10
namespace Go.Proofs.YtofooamimiijlaaGreat
open Go.HL HM Go.Sat
set_option maxRecDepth 10000
set_option linter.unusedSimpArgs false
set_option linter.unusedVariables false

section
variable {H : Heap} {ow : Nat → Nat} {p n : Nat} {k : Bk} {f : Cf} {G : List (List Nat)}
theorem cVar_spec {x : Int} (hx : -100000 ≤ x ∧ x ≤ 100000) : CallF Tryz.prog 53 [iv x] H (fun v H' => v = iv (x.natAbs : Nat) ∧ H' = H) NoP := by
  refine callF_of Tryz.func53 rfl Tryz.ntmps53 Tryz.results53 (by decide) rfl ?_
  by_cases h : x < 0
  · simp (disch := omega) only [go_sem, ↓cw_block, dsB_of]
    exact fin ⟨by rw [show ((x.natAbs : Nat) : Int) = -x by omega], rfl⟩
  · simp (disch := omega) only [go_sem, ↓cw_block, dsB_of]
    exact fin ⟨by rw [show ((x.natAbs : Nat) : Int) = x by omega], rfl⟩
/-- The greatest variable of a clause. -/
def grt (l : List Int) : Nat := l.foldl (fun m x => if litB x then max m x.natAbs else m) 0
theorem grt_add {l : List Int} {x : Int} : grt (l ++ [x]) = if litB x then max (grt l) x.natAbs else grt l := by
  unfold grt; rw [List.foldl_append]; rfl
theorem litB_le {x : Int} (h : litB x = true) : -100000 ≤ x ∧ x ≤ 100000 := by
  unfold litB at h; rw [decide_eq_true_eq] at h; omega
theorem litB_ne {x : Int} (h : litB x = true) : x ≠ 0 := by
  unfold litB at h; rw [decide_eq_true_eq] at h; omega
theorem grt_le : ∀ {l : List Int} {m : Nat}, grt l ≤ m ↔ ∀ x ∈ l, litB x = true → x.natAbs ≤ m := by
  intro l m
  have key : ∀ (l : List Int) (a : Nat), l.foldl (fun m x => if litB x then max m x.natAbs else m) a ≤ m ↔ a ≤ m ∧ ∀ x ∈ l, litB x = true → x.natAbs ≤ m := by
    intro l
    induction l with
    | nil => intro a; simp
    | cons x l ih =>
      intro a
      rw [List.foldl_cons, ih]
      by_cases h : litB x = true
      · rw [if_pos h]
        simp only [List.mem_cons, forall_eq_or_imp]
        constructor
        · rintro ⟨h1, h2⟩; exact ⟨by omega, fun _ => by omega, h2⟩
        · rintro ⟨h1, h2, h3⟩; have := h2 h; exact ⟨by omega, h3⟩
      · rw [if_neg h]
        simp only [List.mem_cons, forall_eq_or_imp]
        exact ⟨fun ⟨h1, h2⟩ => ⟨h1, fun e => absurd e h, h2⟩, fun ⟨h1, _, h2⟩ => ⟨h1, h2⟩⟩
  unfold grt
  rw [key]
  simp
theorem grt_big {l : List Int} : grt l ≤ 100000 := grt_le.2 fun x _ h => by have := litB_le h; omega
theorem cGreatest_spec {b o c : Nat} {ra : Option Addr} {xs : List Int} {rc : Nat} (hb : cellH H ⟨b, o, none⟩ = some (.slice ra xs.length rc)) (hx : Rn H ra xs) (hlen : xs.length ≤ 1000000) :
    CallF Tryz.prog 34 [.slice (some ⟨b, o, none⟩) 1 c] H (fun v H' => v = iv (grt xs : Nat) ∧ H' = H) NoP := by
  refine callF_of Tryz.func34 rfl Tryz.ntmps34 Tryz.results34 (by decide) rfl ?_
  simp (disch := omega) only [go_sem, ↓cw_block, dsB_of]
  refine loop_by (fun j ρ H1 => ∃ i : Nat, j = 1 - i ∧ i ≤ 1 ∧ (ρ.get 8 = .slice (some ⟨b, o, none⟩) 1 c ∧ ρ.get 9 = iv 1 ∧ ρ.get 10 = iv i ∧ ρ.get 3 = iv ((if i = 0 then 0 else grt xs : Nat) : Int) ∧ ρ.ds = []) ∧ H1 = H) (k := 1) ?_ ?_
  · exact ⟨0, rfl, by omega, by simp (disch := omega) only [go_sem, ↓cw_block, dsB_of]; rfl, rfl⟩
  · rintro _ ρ H1 ⟨i, rfl, hi, ⟨r8, r9, r10, r3, rd⟩, e⟩
    subst H1
    by_cases h1 : i = 1
    · subst h1
      simp (disch := omega) only [go_sem, ↓cw_block, dsB_of, r8, r9, r10, r3, rd, dsB_of]
      exact fin ⟨rfl, rfl⟩
    · have h0 : i = 0 := by omega
      subst h0
      rw [if_pos rfl] at r3
      have r10' : ρ.get 10 = iv 0 := r10
      have r3' : ρ.get 3 = iv 0 := r3
      have hb' : cellH H ⟨b, o + 0, none⟩ = some (.slice ra xs.length rc) := hb
      simp (disch := omega) only [go_sem, dsB_of, r8, r9, r10', r3', hb, hb']
      refine cut_at (fun ρ H1 => (ρ.get 8 = .slice (some ⟨b, o, none⟩) 1 c ∧ ρ.get 9 = iv 1 ∧ ρ.get 10 = iv 0 ∧ ρ.get 3 = iv (grt xs : Nat) ∧ ρ.ds = []) ∧ H1 = H) ?_ ?_
      · simp (disch := omega) only [go_sem, ↓cw_block, dsB_of, r8, r9, r10', r3', hb, hb']
        refine loop_by (fun j ρ H1 => ∃ i : Nat, j = xs.length - i ∧ i ≤ xs.length ∧ (ρ.get 8 = .slice (some ⟨b, o, none⟩) 1 c ∧ ρ.get 9 = iv 1 ∧ ρ.get 10 = iv 0 ∧ ρ.get 14 = .slice ra xs.length rc ∧ ρ.get 15 = iv xs.length ∧ ρ.get 16 = iv i ∧ ρ.get 3 = iv (grt (xs.take i) : Nat) ∧ ρ.ds = []) ∧ H1 = H) (k := xs.length) ?_ ?_
        · exact ⟨0, rfl, by omega, by simp (disch := omega) only [go_sem, ↓cw_block, dsB_of, r8, r9, r10', r3', rd]; rfl, rfl⟩
        · rintro _ ρ H1 ⟨i, rfl, hi, ⟨r8, r9, r10, r14, r15, r16, r3, rd⟩, e⟩
          subst H1
          by_cases hie : i = xs.length
          · subst hie
            rw [List.take_length] at r3
            simp (disch := omega) only [go_sem, ↓cw_block, dsB_of, r8, r9, r10, r14, r15, r16, r3, rd]
            exact fin ⟨by simp (disch := omega) only [go_sem, ↓cw_block, dsB_of, r8, r9, r10, r14, r15, r16, r3, rd], rfl⟩
          · obtain ⟨x, hxi⟩ : ∃ x, xs[i]? = some x := ⟨_, List.getElem?_eq_getElem (by omega)⟩
            obtain ⟨b', o', e, kx⟩ := hx i x hxi
            subst e
            have hi1 : (i : Int) + 1 = ((i + 1 : Nat) : Int) := by omega
            have htk : xs.take (i + 1) = xs.take i ++ [x] := by rw [List.take_add_one, hxi]; rfl
            have hgt := grt_add (l := xs.take i) (x := x)
            rw [← htk] at hgt
            simp (disch := omega) only [go_sem, ↓cw_block, dsB_of, r8, r9, r10, r14, r15, r16, r3, rd, kx]
            refine call_to cLit_spec ?_
            rintro v H2 ⟨rfl, e⟩
            subst H2
            cases hl : litB x with
            | true =>
              rw [hl, if_pos rfl] at hgt
              simp (disch := omega) only [go_sem, ↓cw_block, dsB_of, r3]
              refine call_to (cVar_spec (litB_le hl)) ?_
              rintro v H2 ⟨rfl, e⟩
              subst H2
              have hmx : max ((grt (xs.take i) : Nat) : Int) ((x.natAbs : Nat) : Int) = ((grt (xs.take (i + 1)) : Nat) : Int) := by rw [hgt]; omega
              simp (disch := omega) only [go_sem, ↓cw_block, dsB_of, r3, hmx, r16]
              exact fin ⟨xs.length - (i + 1), by omega, i + 1, rfl, by omega, by simp (disch := omega) only [go_sem, ↓cw_block, dsB_of, r8, r9, r10, r14, r15, r16, r3, rd, hi1], rfl⟩
            | false =>
              rw [hl, if_neg (by simp)] at hgt
              rw [← hgt] at r3
              simp (disch := omega) only [go_sem, ↓cw_block, dsB_of, r3, r16]
              exact fin ⟨xs.length - (i + 1), by omega, i + 1, rfl, by omega, by simp (disch := omega) only [go_sem, ↓cw_block, dsB_of, r8, r9, r10, r14, r15, r16, r3, rd, hi1], rfl⟩
      · rintro ρ H1 ⟨⟨r8, r9, r10, r3, rd⟩, e⟩
        subst H1
        simp (disch := omega) only [go_sem, ↓cw_block, dsB_of, r8, r9, r10, r3, rd]
        exact fin ⟨0, by omega, 1, rfl, by omega, by simp (disch := omega) only [go_sem, ↓cw_block, dsB_of, r8, r9, r10, r3, rd]; rfl, rfl⟩
theorem NF.cn {xs ys : List Int} {idle : Bool} (h : NF xs ys idle) (hl : xs.all litB = true) (hg : grt xs ≤ n) : CN n ys := by
  rw [List.all_eq_true] at hl
  refine ⟨fun x hx => ?_, h.str⟩
  have hm := (h.mem x).1 hx
  exact ⟨litB_ne (hl x hm), grt_le.1 hg x hm (hl x hm)⟩
set_option maxHeartbeats 4000000 in
theorem sAdd_spec (h : SV H ow p n k f) {a : Option Addr} {xs : List Int} {c : Nat} (hx : Rn H a xs) (hlen : xs.length ≤ 1000) (hgl : f.gl.length ≤ 30000) :
    CallF Tryz.prog 17 [hp p, .slice a xs.length c] H (fun v H' => (¬ (xs.all litB = true ∧ grt xs ≤ n) ∧ v = iv 2 ∧ Fr [] H H') ∨ (xs.all litB = true ∧ grt xs ≤ n ∧ v = iv 0 ∧ ∃ ow' f' ys idle, SV H' ow' p n k f' ∧ Ex H ow H' ow' ∧ NF xs ys idle ∧ f'.gl = f.gl ++ [ys] ∧ f'.loaded = f.loaded ∧ f'.dead = f.dead ∧ f'.rounds = f.rounds ∧ f'.ls = f.ls ∧ ∀ u, Bd f u → Bd f' u)) NoP := by
  have hm := h.sd.sb.m
  have hn := h.sd.sb.n
  have c0 : cellH H ⟨p, 0, none⟩ = some (iv n) := hm.c 0
  have b1 : ∀ (Hx : Heap) (a' : Option Addr) (l' c' : Nat), buildSliceV Tryz.prog Hx 39 1 [(0, .slice a' l' c')] = some (.slice (some ⟨Hx.size, 0, none⟩) 1 1, Hx.push (.cells #[.slice a' l' c'] 26)) := fun Hx a' l' c' => bs_one T.elem39 T.size26 T.zero26 rfl
  obtain ⟨hl, hhl⟩ : ∃ hl : List (Addr × Value), hl = [(⟨p, 0, none⟩, iv n)] := ⟨_, rfl⟩
  have hok : heldOK hl H := by rw [hhl]; exact heldOK_one c0
  have l0 : lookA hl ⟨p, 0, none⟩ = some (iv n) := by rw [hhl]; exact lookA_eq
  obtain ⟨ga, gc, eg⟩ := hm.given.form
  have hng := hm.ng
  have c1 : cellH H ⟨p, 1, none⟩ = some (.slice ga f.gs.length gc) := by rw [← eg]; exact hm.c 1
  refine callF_of Tryz.func17 rfl Tryz.ntmps17 Tryz.results17 (by decide) rfl ?_
  simp (disch := omega) only [go_sem, ↓cw_block, dsB_of]
  refine draw1 (lk [(0, true)] (.act 1 (lk [(2, true), (3, true), (4, true), (7, false), (8, false), (9, false), (10, false)] (.act 5 (.act 6 (lk [(11, true), (12, true)] .fin) .non) .non)) .non)) T.mixed hl hok ?_
  simp (disch := omega) only [go_sem, ↓cw_block, dsB_of, l0]
  refine call_to (cRight_spec hx (by omega)) ?_
  rintro v H1 ⟨rfl, e⟩
  subst H1
  refine held_by hok ?_
  cases hall : xs.all litB with
  | false =>
    simp (disch := omega) only [go_sem, ↓cw_block, dsB_of, l0]
    refine held_by hok ?_
    simp (disch := omega) only [go_sem, ↓cw_block, dsB_of, l0]
    refine held_by hok ?_
    simp (disch := omega) only [go_sem, ↓cw_block, dsB_of, l0, dsB_of]
    exact fin (.inl ⟨by simp, rfl, Fr.refl _ _⟩)
  | true =>
    obtain ⟨H1, hH1⟩ : ∃ H1, H.push (.cells #[.slice a xs.length c] 26) = H1 := ⟨_, rfl⟩
    have f1 : Fr [] H H1 := by rw [← hH1]; exact Fr.push
    have k1 : cellH H1 ⟨H.size, 0, none⟩ = some (.slice a xs.length c) := by
      have : Blk H1 H.size 26 [.slice a xs.length c] := by rw [← hH1]; exact Blk.new rfl
      rw [this.cell]; rfl
    have m1 := hm.out f1 (by simp)
    have x1 := hx.frame f1 (by simp)
    have hok1 : heldOK hl H1 := by rw [hhl]; exact heldOK_one (m1.c 0)
    simp (disch := omega) only [go_sem, ↓cw_block, dsB_of, l0, b1]
    rw [hH1]
    refine held_by hok1 ?_
    simp (disch := omega) only [go_sem, ↓cw_block, dsB_of, l0]
    refine call_to (cGreatest_spec (c := 1) k1 x1 (by omega)) ?_
    rintro v H2 ⟨rfl, e⟩
    subst H2
    refine held_by hok1 ?_
    by_cases hg : grt xs ≤ n
    · have c1' : cellH H1 ⟨p, 1, none⟩ = some (.slice ga f.gs.length gc) := by rw [← eg]; exact m1.c 1
      simp (disch := omega) only [go_sem, ↓cw_block, dsB_of, l0, c1']
      refine call_to (cNorm_spec x1 (List.all_eq_true.1 hall) (by omega)) ?_
      rintro v H2 ⟨f2, w, ys, idle, rfl, v2, o2, hnf⟩
      have m2 := m1.out f2 (by simp)
      have e02 : Ex H ow H2 ow := (Ex.of (Sm.of (R := fun _ => False) f1 (by simp)) (by simp) : Ex H ow H1 ow).trans (Ex.of (Sm.of (R := fun _ => False) f2 (by simp)) (by simp))
      have c1'' : cellH H2 ⟨p, 1, none⟩ = some (.slice ga f.gs.length gc) := by rw [← eg]; exact m2.c 1
      obtain ⟨wa, wc, ew⟩ : ∃ a c, w = .slice a ys.length c := by
        obtain ⟨a, len, c, rfl, e⟩ := v2.len
        rw [List.length_map, Nat.mul_one] at e; subst e
        exact ⟨a, c, rfl⟩
      subst ew
      obtain ⟨ow3, how3⟩ : ∃ ow3 : Nat → Nat, ∀ b, ow3 b = if b ∈ own (Value.slice wa ys.length wc) then 17 else ow b := ⟨_, fun _ => rfl⟩
      have hz : ∀ b ∈ own (Value.slice wa ys.length wc), ow b = 0 := fun b hb => m1.free (o2 b hb)
      have m3 := m2.adopt (ow' := ow3) (fun b hb => by
        rw [how3, if_neg (fun e => hb (hz b e))]) (fun b hb => by
        rw [how3] at hb
        split at hb
        · exact v2.lt b ‹_›
        · exact m2.lo b hb)
      have e03 : Ex H ow H2 ow3 := e02.reow (fun b hb => by
        have hb' : b ∉ own (Value.slice wa ys.length wc) := fun e => by have h2 : H1.size ≤ b := o2 b e; have := f1.size; omega
        rw [how3, if_neg hb'])
      have v3 : VR H2 ow3 17 3 1 (.slice wa ys.length wc) (ys.map iv) := ⟨v2, fun b hb => by rw [how3, if_pos hb]⟩
      simp (disch := omega) only [go_sem, ↓cw_block, dsB_of, c1'', b1]
      refine app_lit1 T.el39 rfl (by rw [← eg]; exact m3.given.vec) rfl (by omega) ?_
      intro v' H4 g1 g2 g3 g4
      obtain ⟨a', c', rfl⟩ := g4
      rw [← eg] at g2 g3
      have hgg : ∀ (i : Nat) (v : Value) (q : List Int), (f.gs ++ [.slice wa ys.length wc])[i]? = some v → (f.gl ++ [ys])[i]? = some q → VR H2 ow3 17 3 1 v (q.map iv) := by
        intro i v q h1 h2
        rcases Nat.lt_trichotomy i f.gs.length with hlt | he | hgt
        · rw [List.getElem?_append_left hlt] at h1
          rw [List.getElem?_append_left (by omega)] at h2
          exact m3.gcl i v q h1 h2
        · subst he
          rw [List.getElem?_append_right (Nat.le_refl _), Nat.sub_self] at h1
          rw [hng, List.getElem?_append_right (Nat.le_refl _), Nat.sub_self] at h2
          have e1 := Option.some.inj h1
          have e2 := Option.some.inj h2
          subst e1; subst e2
          exact v3
        · rw [List.getElem?_eq_none (by simp; omega)] at h1; cases h1
      obtain ⟨m4, e4, b4⟩ := m3.appGiven (l := f.gs ++ [.slice wa ys.length wc]) (gg := f.gl ++ [ys]) hgg (by simp [hng]) g1 g2 g3
      have w4 := b4.wr (i := 1) (by simp [scells]) (.slice a' (f.gs.length + 1) c')
      obtain ⟨H5, w5, (m5 : RM _ _ _ _ _ _), e5⟩ := m4.putModel (.slice none 0 0)
      obtain ⟨H6, w6, (m6 : RM _ _ _ _ _ _), e6⟩ := m5.putCore (.slice none 0 0)
      simp (disch := omega) only [go_sem, ↓cw_block, dsB_of, w4, w5, w6, dsB_of]
      refine fin (.inr ⟨rfl, hg, rfl, _, _, ys, idle, ⟨⟨⟨m6, ⟨h.sd.sb.r.vals, h.sd.sb.r.lv⟩, h.sd.sb.inv, h.sd.sb.wi, h.sd.sb.le, h.sd.sb.hin, h.sd.sb.sn, h.sd.sb.stp, h.sd.sb.n⟩, h.sd.st, fun hd => ?_, fun hd => ?_⟩, ?_, ?_⟩, ((e03.trans e4).trans e5).trans e6, hnf, rfl, rfl, rfl, rfl, rfl, fun u hb => ⟨hb.conf, hb.lrn, hb.ls, hb.C, hb.room, hb.rd⟩⟩)
      · show SI n f.s f.C f.w (gcode ((f.gl ++ [ys]).take f.loaded)) f.head
        rw [List.take_append_of_le_length h.ld]; exact h.sd.ok hd
      · show ∀ m, Mdl m → ¬ AllB m (gcode ((f.gl ++ [ys]).take f.loaded))
        rw [List.take_append_of_le_length h.ld]; exact h.sd.no hd
      · intro z hz
        rcases List.mem_append.1 (show z ∈ f.gl ++ [ys] from hz) with hz | hz
        · exact h.cn z hz
        · have := List.mem_singleton.1 hz; subst this
          exact hnf.cn hall hg
      · show f.loaded ≤ (f.gl ++ [ys]).length
        have := h.ld
        simp; omega
    · simp (disch := omega) only [go_sem, ↓cw_block, dsB_of, l0, dsB_of]
      exact fin (.inl ⟨fun e => hg e.2, rfl, f1⟩)
end
end Go.Proofs.YtofooamimiijlaaGreat

namespace Go.Proofs.YtofooamimiijlaaGreat
open Go.HL
set_option maxRecDepth 10000
set_option linter.unusedSimpArgs false
set_option linter.unusedVariables false

/-- A graph that grew since some moment. -/
structure GS (H0 : Heap) (B0 : List Nat) (H : Heap) (g : Nat) (B : List Nat) (ns : List Pr) (ins : List Nat) : Prop where
  gr : Gr H g B ns ins
  fr : Fr B0 H0 H
  gw : Grow B0 B H0
section
variable {H0 H : Heap} {g : Nat} {B0 B : List Nat} {ns : List Pr} {ins : List Nat}
theorem GS.refl (h : Gr H g B ns ins) : GS H B H g B ns ins := ⟨h, Fr.refl _ _, Grow.refl⟩
theorem GS.op {H' : Heap} {ns' : List Pr} {ins' : List Nat} (h : GS H0 B0 H g B ns ins) (h' : GP H H' g B ns' ins') : ∃ B', GS H0 B0 H' g B' ns' ins' ∧ Fr B H H' ∧ Grow B B' H := by
  obtain ⟨B', h1, f1, g1⟩ := h'
  exact ⟨B', ⟨h1, Fr.grow h.fr f1 h.gw, h.gw.trans g1 h.fr.size⟩, f1, g1⟩
theorem GS.aside {H' : Heap} {F : List Nat} (h : GS H0 B0 H g B ns ins) (hf : Fr F H H') (hF : ∀ b ∈ F, H0.size ≤ b ∧ b ∉ B) : GS H0 B0 H' g B ns ins :=
  ⟨h.gr.frame hf (fun b hb e => (hF b e).2 hb), ⟨Nat.le_trans h.fr.size hf.size, fun b hb hn => by rw [hf.same b (Nat.lt_of_lt_of_le hb h.fr.size) (fun e => by have := (hF b e).1; omega), h.fr.same b hb hn]⟩, h.gw⟩
theorem GS.gp (h : GS H0 B0 H g B ns ins) : GP H0 H g B0 ns ins := ⟨B, h.gr, h.fr, h.gw⟩
theorem grow_not {B' : List Nat} {rb : Nat} (h : Grow B B' H) (h1 : rb < H.size) (h2 : rb ∉ B) : rb ∉ B' := fun e => by
  rcases h rb e with h | h
  · exact h2 h
  · omega

/-! ### One edge -/
def GOE (H : Heap) (g : Nat) (B : List Nat) (ns : List Pr) (ins : List Nat) (k : Nat) (R : List Pr → Nat → Prop) (r : Value) (H' : Heap) : Prop := ∃ (e : Nat) (ns' : List Pr), r = iv e ∧ e < 2 * ns'.length ∧ PreA ns ns' k ∧ R ns' e ∧ GP H H' g B ns' ins
theorem and_specE (h : Gr H g B ns ins) (hl : ns.length < 100000) {a b : Nat} (ha : a < 2 * ns.length) (hb : b < 2 * ns.length) :
    CallF Tryz.prog 22 [hp g, iv a, iv b] H (GOE H g B ns ins 1 fun ns' e => AndE ns' a b e) NoP := by
  refine (and_spec h (by omega) (a := a) (b := b) (by omega) (by omega)).to ?_
  rintro _ H' ⟨e, ns', rfl, hR, hg⟩
  rw [ownM_of ha, ownM_of hb] at hR
  obtain ⟨he, -⟩ := hR.lt (by omega) h.w.1
  obtain ⟨h1, h2⟩ := AndE.of hR h.w.1
  exact ⟨e, ns', rfl, he, h2, h1, hg⟩
theorem and_specI (h : Gr H g B ns ins) (hl : ns.length < 100000) {a : Nat} (ha : a < 2 * ns.length) :
    CallF Tryz.prog 22 [hp g, iv a, iv 1] H (fun r H' => r = iv a ∧ GP H H' g B ns ins) NoP := by
  have hpos := h.w.1
  refine (and_spec h (by omega) (a := a) (b := ((1 : Nat) : Int)) (by omega) (by omega)).to ?_
  rintro _ H' ⟨e, ns', rfl, hR, hg⟩
  rw [ownM_of ha, ownM_of (show 1 < 2 * ns.length by omega)] at hR
  obtain ⟨h1, -⟩ := AndE.of hR hpos
  have hns : ns' = ns := by
    rcases hR with ⟨h, -⟩ | ⟨-, -, h2, -⟩
    · exact h
    · omega
  subst hns
  exact ⟨by rw [and_one h1], hg⟩
theorem or_specE (h : Gr H g B ns ins) (hl : ns.length < 100000) {a b : Nat} (ha : a < 2 * ns.length) (hb : b < 2 * ns.length) :
    CallF Tryz.prog 47 [hp g, iv a, iv b] H (GOE H g B ns ins 1 fun ns' e => OrE ns' a b e) NoP := by
  have na := nx_lt ha
  have nb := nx_lt hb
  refine callF_of Tryz.func47 rfl Tryz.ntmps47 Tryz.results47 (by decide) rfl ?_
  simp (disch := omega) only [go_sem, ↓cw_block, dsB_of]
  refine call_to (own_spec h (e := a) (by omega)) ?_
  rintro _ _ ⟨rfl, rfl⟩
  rw [ownM_of ha]
  simp (disch := omega) only [go_sem, ↓cw_block, dsB_of]
  refine call_to (not_spec (by omega)) ?_
  rintro _ _ ⟨rfl, rfl⟩
  simp (disch := omega) only [go_sem, ↓cw_block, dsB_of]
  refine call_to (own_spec h (e := b) (by omega)) ?_
  rintro _ _ ⟨rfl, rfl⟩
  rw [ownM_of hb]
  simp (disch := omega) only [go_sem, ↓cw_block, dsB_of]
  refine call_to (not_spec (by omega)) ?_
  rintro _ _ ⟨rfl, rfl⟩
  simp (disch := omega) only [go_sem, ↓cw_block, dsB_of]
  refine call_to (and_specE h hl na nb) ?_
  rintro _ H1 ⟨e, ns1, rfl, he, hpre, hE, hg⟩
  have := hpre.len
  simp (disch := omega) only [go_sem, ↓cw_block, dsB_of]
  refine call_to (not_spec (by omega)) ?_
  rintro _ _ ⟨rfl, rfl⟩
  simp (disch := omega) only [go_sem, ↓cw_block, dsB_of]
  exact fin ⟨nx e, ns1, rfl, nx_lt he, hpre, ⟨e, hE, rfl⟩, hg⟩
theorem xor_specE (h : Gr H g B ns ins) (hl : ns.length + 3 < 100000) {a b : Nat} (ha : a < 2 * ns.length) (hb : b < 2 * ns.length) :
    CallF Tryz.prog 27 [hp g, iv a, iv b] H (GOE H g B ns ins 3 fun ns' e => XorE ns' a b e) NoP := by
  have na := nx_lt ha
  have nb := nx_lt hb
  refine callF_of Tryz.func27 rfl Tryz.ntmps27 Tryz.results27 (by decide) rfl ?_
  simp (disch := omega) only [go_sem, ↓cw_block, dsB_of]
  refine call_to (own_spec h (e := a) (by omega)) ?_
  rintro _ _ ⟨rfl, rfl⟩
  rw [ownM_of ha]
  simp (disch := omega) only [go_sem, ↓cw_block, dsB_of]
  refine call_to (own_spec h (e := b) (by omega)) ?_
  rintro _ _ ⟨rfl, rfl⟩
  rw [ownM_of hb]
  simp (disch := omega) only [go_sem, ↓cw_block, dsB_of]
  refine call_to (not_spec (by omega)) ?_
  rintro _ _ ⟨rfl, rfl⟩
  simp (disch := omega) only [go_sem, ↓cw_block, dsB_of]
  refine call_to (and_specE h (by omega) ha nb) ?_
  rintro _ H1 ⟨e1, ns1, rfl, he1, hp1, hE1, hg1⟩
  obtain ⟨B1, s1, -, -⟩ := (GS.refl h).op hg1
  have l1 := hp1.len
  simp (disch := omega) only [go_sem, ↓cw_block, dsB_of]
  refine call_to (not_spec (by omega)) ?_
  rintro _ _ ⟨rfl, rfl⟩
  simp (disch := omega) only [go_sem, ↓cw_block, dsB_of]
  refine call_to (and_specE s1.gr (by omega) (a := nx a) (b := b) (by omega) (by omega)) ?_
  rintro _ H2 ⟨e2, ns2, rfl, he2, hp2, hE2, hg2⟩
  obtain ⟨B2, s2, -, -⟩ := s1.op hg2
  have l2 := hp2.len
  simp (disch := omega) only [go_sem, ↓cw_block, dsB_of]
  refine call_to (or_specE s2.gr (by omega) (a := e1) (b := e2) (by omega) (by omega)) ?_
  rintro _ H3 ⟨e3, ns3, rfl, he3, hp3, hE3, hg3⟩
  obtain ⟨B3, s3, -, -⟩ := s2.op hg3
  simp (disch := omega) only [go_sem, ↓cw_block, dsB_of]
  exact fin ⟨e3, ns3, rfl, he3, (hp1.trans hp2 (Nat.le_refl _)).trans hp3 (by omega), ⟨e1, e2, hE1.mono (hp2.trans hp3 (Nat.le_refl _)), hE2.mono hp3, hE3⟩, s3.gp⟩

/-! ### Vectors -/
abbrev evec (rb w : Nat) : Value := .slice (some ⟨rb, 0, none⟩) w w
/-- A vector of edges in a block of its own. -/
def EB (H : Heap) (rb w : Nat) (X : Nat → Nat) : Prop := Blk H rb 3 ((List.range w).map fun i => iv ((X i : Nat) : Int))
theorem EB.at {rb w i : Nat} {X : Nat → Nat} (h : EB H rb w X) (hi : i < w) : cellH H ⟨rb, i, none⟩ = some (iv ((X i : Nat) : Int)) := by
  rw [Blk.cell h, List.getElem?_map, List.getElem?_range hi]; rfl
theorem EB.lt {rb w : Nat} {X : Nat → Nat} (h : EB H rb w X) : rb < H.size := Blk.lt h
theorem EB.fr {H' : Heap} {F : List Nat} {rb w : Nat} {X : Nat → Nat} (h : EB H rb w X) (hf : Fr F H H') (hd : rb ∉ F) : EB H' rb w X := hf.blk h hd
theorem EB.congr {rb w : Nat} {X Y : Nat → Nat} (h : EB H rb w X) (he : ∀ i, i < w → X i = Y i) : EB H rb w Y := by
  unfold EB
  have : ((List.range w).map fun i => iv ((Y i : Nat) : Int)) = (List.range w).map fun i => iv ((X i : Nat) : Int) := by
    apply List.map_congr_left
    intro i hi
    rw [he i (List.mem_range.1 hi)]
  rw [this]; exact h
/-- A vector under way. -/
def upto (i : Nat) (X : Nat → Nat) (j : Nat) : Nat := if j < i then X j else 0
def upd (X : Nat → Nat) (i e j : Nat) : Nat := if j = i then e else X j
theorem EB.zero {w : Nat} {X : Nat → Nat} : EB (H.push (.cells (List.replicate w (iv 0)).toArray 3)) H.size w (upto 0 X) := by
  have : ((List.range w).map fun i => iv ((upto 0 X i : Nat) : Int)) = List.replicate w (iv 0) := by
    apply List.ext_getElem (by simp)
    intro i h1 h2
    simp [upto]
  unfold EB
  rw [this]; exact Blk.new rfl
theorem EB.put {rb w i e : Nat} {X : Nat → Nat} (h : EB H rb w (upto i X)) (hi : i < w) : wr H ⟨rb, i, none⟩ (iv e) = some (setH H ⟨rb, i, none⟩ (iv e)) ∧ EB (setH H ⟨rb, i, none⟩ (iv e)) rb w (upto (i + 1) (upd X i e)) ∧ Fr [rb] H (setH H ⟨rb, i, none⟩ (iv e)) := by
  have h1 := Blk.wr h (i := i) (by simp; omega) (iv e)
  have h2 := Blk.set h i (iv e)
  refine ⟨h1, ?_, Fr.set (by simp)⟩
  have : ((List.range w).map fun j => iv ((upto (i + 1) (upd X i e) j : Nat) : Int)) = ((List.range w).map fun j => iv ((upto i X j : Nat) : Int)).set i (iv e) := by
    apply List.ext_getElem (by simp)
    intro j h1 h2
    rw [List.getElem_set]
    simp only [List.getElem_map, List.getElem_range, upto, upd]
    by_cases hj : i = j
    · subst hj; simp
    · rw [if_neg hj]
      by_cases h3 : j < i
      · rw [if_pos (by omega), if_neg (by omega), if_pos h3]
      · rw [if_neg (by omega), if_neg h3]
  unfold EB
  rw [this]; exact h2
theorem EB.done {rb w : Nat} {X : Nat → Nat} (h : EB H rb w (upto w X)) : EB H rb w X := h.congr fun i hi => by unfold upto; rw [if_pos hi]
theorem width_spec {w : Nat} (hw : 1 ≤ w ∧ w ≤ 16) : CallF Tryz.prog 25 [iv w] H (fun r H' => r = iv w ∧ H' = H) NoP := by
  have e1 : max (w : Int) 1 = (w : Int) := by omega
  have e2 : min (w : Int) 16 = (w : Int) := by omega
  refine callF_of Tryz.func25 rfl Tryz.ntmps25 Tryz.results25 (by decide) rfl ?_
  simp (disch := omega) only [go_sem, ↓cw_block, dsB_of, e1, e2]
  exact fin ⟨rfl, rfl⟩
set_option maxHeartbeats 1000000 in
theorem inputs_spec (h : Gr H g B ns ins) {w : Nat} (hw : 1 ≤ w ∧ w ≤ 16) (hl : ns.length + 16 < 100000) :
    CallF Tryz.prog 7 [hp g, iv w] H (fun r H' => ∃ B' rb, r = evec rb w ∧ GS H B H' g B' (ns ++ List.replicate w (0, 0)) (ins ++ (List.range w).map (ns.length + ·)) ∧ EB H' rb w (fun i => 2 * (ns.length + i)) ∧ H.size ≤ rb ∧ rb ∉ B') NoP := by
  obtain ⟨G, hG⟩ : ∃ G, H.push (.cells (List.replicate w (iv 0)).toArray 3) = G := ⟨_, rfl⟩
  have f0 : Fr [] H G := by rw [← hG]; exact Fr.push
  have x0 : EB G H.size w (upto 0 fun i => 2 * (ns.length + i)) := by rw [← hG]; exact EB.zero
  have hlt := h.lt
  have s0 : GS H B G g B ns ins := (GS.refl h).aside f0 (by simp)
  refine callF_of Tryz.func7 rfl Tryz.ntmps7 Tryz.results7 (by decide) rfl ?_
  simp (disch := omega) only [go_sem, ↓cw_block, dsB_of]
  refine call_to (width_spec hw) ?_
  rintro _ H1 ⟨rfl, e⟩
  subst H1
  simp (disch := omega) only [go_sem, ↓cw_block, dsB_of]
  rw [hG]
  refine loop_by (fun j ρ K => ∃ (i : Nat) (B' : List Nat), j = w - i ∧ i ≤ w ∧ (ρ.get 0 = hp g ∧ ρ.get 5 = evec H.size w ∧ ρ.get 11 = iv w ∧ ρ.get 12 = iv i ∧ ρ.ds = []) ∧ GS H B K g B' (ns ++ List.replicate i (0, 0)) (ins ++ (List.range i).map (ns.length + ·)) ∧ EB K H.size w (upto i fun i => 2 * (ns.length + i)) ∧ H.size ∉ B') (k := w) ?_ ?_
  · exact ⟨0, B, rfl, by omega, by simp (disch := omega) only [go_sem, ↓cw_block, dsB_of], by simpa using s0, x0, fun e => by have := hlt _ e; omega⟩
  · rintro _ ρ K ⟨i, B', rfl, hi, ⟨r0, r5, r11, r12, rd⟩, s1, x1, nb⟩
    by_cases hie : i = w
    · subst hie
      simp (disch := omega) only [go_sem, ↓cw_block, dsB_of, r0, r5, r11, r12, rd, dsB_of]
      exact fin ⟨B', H.size, rfl, s1, x1.done, Nat.le_refl _, nb⟩
    · have hi1 : (i : Int) + 1 = ((i + 1 : Nat) : Int) := by omega
      simp (disch := omega) only [go_sem, ↓cw_block, dsB_of, r0, r5, r11, r12, rd]
      refine call_to (input_spec s1.gr (by simp; omega)) ?_
      rintro _ K2 ⟨rfl, hg⟩
      obtain ⟨B2, s2, f2, g2⟩ := s1.op hg
      have nb2 := grow_not g2 x1.lt nb
      obtain ⟨w3, x3, f3⟩ := (x1.fr f2 nb).put (e := 2 * (ns ++ List.replicate i (0, 0)).length) (by omega)
      have s3 := s2.aside f3 (by simpa using nb2)
      simp (disch := omega) only [go_sem, ↓cw_block, dsB_of, r0, r5, r11, r12, rd, w3]
      refine fin ⟨w - (i + 1), by omega, i + 1, B2, rfl, by omega, by simp (disch := omega) only [go_sem, ↓cw_block, dsB_of, r0, r5, r11, r12, rd, hi1], ?_, x3.congr fun j hj => ?_, nb2⟩
      · have e1 : ns ++ List.replicate (i + 1) ((0, 0) : Pr) = ns ++ List.replicate i (0, 0) ++ [(0, 0)] := by rw [List.replicate_succ']; simp
        have e2 : ins ++ (List.range (i + 1)).map (ns.length + ·) = ins ++ (List.range i).map (ns.length + ·) ++ [(ns ++ List.replicate i ((0, 0) : Pr)).length] := by rw [List.range_succ]; simp
        rw [e1, e2]; exact s3
      · unfold upto upd
        by_cases hj1 : j = i
        · subst hj1; simp
        · rw [if_neg hj1]
theorem fdiv_pow {n : Int} {i : Nat} (hi : i < 64) : n.fdiv (2 ^ min ((i : Int)).toNat 64) = n / (2 ^ i : Int) := by
  have : min ((i : Int)).toNat 64 = i := by omega
  rw [this, Int.fdiv_eq_ediv_of_nonneg _ (Int.le_of_lt (Int.pow_pos (by omega)))]
theorem bin_and1 {V : HV} {t : TypeId} {xo yo : Operand} {n : Int} (h1 : -9223372036854775808 ≤ n) (h2 : n ≤ 9223372036854775807) : binV Tryz.prog V .and t xo yo (iv n) (iv 1) = some (iv (n % 2)) := by
  have e : (BitVec.ofInt 64 n &&& BitVec.ofInt 64 1).toNat = (n % 2).toNat := by
    rw [BitVec.toNat_and]
    have a1 : (BitVec.ofInt 64 1).toNat = 1 := rfl
    rw [a1, Nat.and_one_is_mod, BitVec.toNat_ofInt]
    omega
  show some (Value.int .i64 (IntKind.i64.wrap ((BitVec.ofInt 64 n &&& BitVec.ofInt 64 1).toNat : Nat))) = _
  rw [e, wrap64 (by omega)]
  congr 2
  omega
end
end Go.Proofs.YtofooamimiijlaaGreat

namespace Go.Proofs.YtofooamimiijlaaGreat
open Go.HL
set_option maxRecDepth 10000
set_option linter.unusedSimpArgs false
set_option linter.unusedVariables false

section
variable {H0 H : Heap} {g : Nat} {B0 B : List Nat} {ns : List Pr} {ins : List Nat}
set_option maxHeartbeats 1000000 in
theorem const_spec {n : Int} {w : Nat} (hw : 1 ≤ w ∧ w ≤ 16) (hn : -1000000 ≤ n ∧ n ≤ 1000000) :
    CallF Tryz.prog 10 [iv n, iv w] H (fun r H' => ∃ rb, r = evec rb w ∧ Fr [] H H' ∧ EB H' rb w (fun i => b01 (bI n i)) ∧ H.size ≤ rb) NoP := by
  obtain ⟨G, hG⟩ : ∃ G, H.push (.cells (List.replicate w (iv 0)).toArray 3) = G := ⟨_, rfl⟩
  have f0 : Fr [] H G := by rw [← hG]; exact Fr.push
  have x0 : EB G H.size w (upto 0 fun i => b01 (bI n i)) := by rw [← hG]; exact EB.zero
  refine callF_of Tryz.func10 rfl Tryz.ntmps10 Tryz.results10 (by decide) rfl ?_
  simp (disch := omega) only [go_sem, ↓cw_block, dsB_of]
  refine call_to (width_spec hw) ?_
  rintro _ H1 ⟨rfl, e⟩
  subst H1
  simp (disch := omega) only [go_sem, ↓cw_block, dsB_of]
  rw [hG]
  refine loop_by (fun j ρ K => ∃ (i : Nat), j = w - i ∧ i ≤ w ∧ (ρ.get 0 = iv n ∧ ρ.get 5 = evec H.size w ∧ ρ.get 11 = iv w ∧ ρ.get 12 = iv i ∧ ρ.ds = []) ∧ Fr [] H K ∧ EB K H.size w (upto i fun i => b01 (bI n i))) (k := w) ?_ ?_
  · exact ⟨0, rfl, by omega, by simp (disch := omega) only [go_sem, ↓cw_block, dsB_of], f0, x0⟩
  · rintro _ ρ K ⟨i, rfl, hi, ⟨r0, r5, r11, r12, rd⟩, f1, x1⟩
    by_cases hie : i = w
    · subst hie
      simp (disch := omega) only [go_sem, ↓cw_block, dsB_of, r0, r5, r11, r12, rd, dsB_of]
      exact fin ⟨H.size, rfl, f1, x1.done, Nat.le_refl _⟩
    · have hi1 : (i : Int) + 1 = ((i + 1 : Nat) : Int) := by omega
      have hfd := fdiv_pow (n := n) (i := i) (by omega)
      have hp1 : (0 : Int) < 2 ^ i := Int.pow_pos (by omega)
      have hq : -9223372036854775808 ≤ n / 2 ^ i ∧ n / 2 ^ i ≤ 9223372036854775807 := by
        have h1 : -1000000 ≤ n / 2 ^ i := by
          rw [Int.le_ediv_iff_mul_le hp1]
          have : (1 : Int) ≤ 2 ^ i := by omega
          have : -1000000 * (2 : Int) ^ i ≤ -1000000 := by omega
          omega
        have h2 : n / 2 ^ i ≤ 1000000 := by
          have := Int.ediv_lt_of_lt_mul (a := n) (b := 1000001) hp1 (by omega)
          omega
        omega
      have hb : n / 2 ^ i % 2 = ((b01 (bI n i) : Nat) : Int) := by
        rw [← bz_bI]; unfold bz b01; cases bI n i <;> rfl
      have hand : ∀ V t xo yo, binV Tryz.prog V .and t xo yo (iv (n.fdiv (2 ^ min i 64))) (iv 1) = some (iv ((b01 (bI n i) : Nat) : Int)) := fun V t xo yo => by
        have e1 : n.fdiv (2 ^ min i 64) = n / 2 ^ i := by rw [← hfd]; rfl
        rw [e1, bin_and1 hq.1 hq.2, hb]
      obtain ⟨w3, x3, f3⟩ := x1.put (e := b01 (bI n i)) (by omega)
      simp (disch := omega) only [go_sem, ↓cw_block, dsB_of, r0, r5, r11, r12, rd, hand, w3]
      refine fin ⟨w - (i + 1), by omega, i + 1, rfl, by omega, by simp (disch := omega) only [go_sem, ↓cw_block, dsB_of, r0, r5, r11, r12, rd, hi1], ⟨Nat.le_trans f1.size f3.size, fun b hb2 _ => ?_⟩, x3.congr fun j hj => ?_⟩
      · rw [f3.same b (by have := f1.size; omega) (by simp; omega), f1.same b hb2 (by simp)]
      · unfold upto upd
        by_cases hj1 : j = i
        · subst hj1; simp
        · rw [if_neg hj1]
set_option maxHeartbeats 1000000 in
theorem bown_spec (h : Gr H g B ns ins) {vb w : Nat} {X : Nat → Nat} (hv : EB H vb w X) (hvn : vb ∉ B) (hw : 1 ≤ w ∧ w ≤ 16) (hl : ns.length < 100000) (hX : ∀ i, i < w → X i < 2 * ns.length) :
    CallF Tryz.prog 45 [hp g, evec vb w] H (fun r H' => ∃ B' rb, r = evec rb w ∧ GS H B H' g B' ns ins ∧ EB H' rb w X ∧ H.size ≤ rb ∧ rb ∉ B') NoP := by
  obtain ⟨G, hG⟩ : ∃ G, H.push (.cells (List.replicate w (iv 0)).toArray 3) = G := ⟨_, rfl⟩
  have f0 : Fr [] H G := by rw [← hG]; exact Fr.push
  have x0 : EB G H.size w (upto 0 X) := by rw [← hG]; exact EB.zero
  have hlt := h.lt
  have hvl := hv.lt
  have s0 : GS H B G g B ns ins := (GS.refl h).aside f0 (by simp)
  refine callF_of Tryz.func45 rfl Tryz.ntmps45 Tryz.results45 (by decide) rfl ?_
  simp (disch := omega) only [go_sem, ↓cw_block, dsB_of]
  rw [hG]
  refine loop_by (fun j ρ K => ∃ (i : Nat) (B' : List Nat), j = w - i ∧ i ≤ w ∧ (ρ.get 0 = hp g ∧ ρ.get 5 = evec H.size w ∧ ρ.get 20 = evec vb w ∧ ρ.get 21 = iv w ∧ ρ.get 22 = iv i ∧ ρ.ds = []) ∧ GS H B K g B' ns ins ∧ EB K vb w X ∧ vb ∉ B' ∧ EB K H.size w (upto i X) ∧ H.size ∉ B') (k := w) ?_ ?_
  · exact ⟨0, B, rfl, by omega, by simp (disch := omega) only [go_sem, ↓cw_block, dsB_of], s0, hv.fr f0 (by simp), hvn, x0, fun e => by have := hlt _ e; omega⟩
  · rintro _ ρ K ⟨i, B', rfl, hi, ⟨r0, r5, r20, r21, r22, rd⟩, s1, y1, vn, x1, nb⟩
    by_cases hie : i = w
    · subst hie
      simp (disch := omega) only [go_sem, ↓cw_block, dsB_of, r0, r5, r20, r21, r22, rd, dsB_of]
      exact fin ⟨B', H.size, rfl, s1, x1.done, Nat.le_refl _, nb⟩
    · have hi1 : (i : Int) + 1 = ((i + 1 : Nat) : Int) := by omega
      have ky := y1.at (i := i) (by omega)
      simp (disch := omega) only [go_sem, ↓cw_block, dsB_of, r0, r5, r20, r21, r22, rd, ky]
      refine call_to (and_specI s1.gr hl (hX i (by omega))) ?_
      rintro _ K2 ⟨rfl, hg⟩
      obtain ⟨B2, s2, f2, g2⟩ := s1.op hg
      have nb2 := grow_not g2 x1.lt nb
      have vn2 := grow_not g2 y1.lt vn
      obtain ⟨w3, x3, f3⟩ := (x1.fr f2 nb).put (e := X i) (by omega)
      have s3 := s2.aside f3 (by simpa using nb2)
      simp (disch := omega) only [go_sem, ↓cw_block, dsB_of, r0, r5, r20, r21, r22, rd, w3]
      refine fin ⟨w - (i + 1), by omega, i + 1, B2, rfl, by omega, by simp (disch := omega) only [go_sem, ↓cw_block, dsB_of, r0, r5, r20, r21, r22, rd, hi1], s3, (y1.fr f2 vn).fr f3 (by simp; omega), vn2, x3.congr fun j hj => ?_, nb2⟩
      unfold upto upd
      by_cases hj1 : j = i
      · subst hj1; simp
      · rw [if_neg hj1]
set_option maxHeartbeats 1000000 in
theorem wide_spec {vb w : Nat} {X : Nat → Nat} (hv : EB H vb w X) (hw : 1 ≤ w ∧ w ≤ 16) :
    CallF Tryz.prog 46 [evec vb w, iv w] H (fun r H' => ∃ rb, r = evec rb w ∧ Fr [] H H' ∧ EB H' rb w X ∧ H.size ≤ rb) NoP := by
  obtain ⟨G, hG⟩ : ∃ G, H.push (.cells (List.replicate w (iv 0)).toArray 3) = G := ⟨_, rfl⟩
  have f0 : Fr [] H G := by rw [← hG]; exact Fr.push
  have x0 : EB G H.size w (upto 0 X) := by rw [← hG]; exact EB.zero
  have hvl := hv.lt
  refine callF_of Tryz.func46 rfl Tryz.ntmps46 Tryz.results46 (by decide) rfl ?_
  simp (disch := omega) only [go_sem, ↓cw_block, dsB_of]
  refine call_to (width_spec hw) ?_
  rintro _ H1 ⟨rfl, e⟩
  subst H1
  simp (disch := omega) only [go_sem, ↓cw_block, dsB_of]
  rw [hG]
  refine loop_by (fun j ρ K => ∃ (i : Nat), j = w - i ∧ i ≤ w ∧ (ρ.get 0 = evec vb w ∧ ρ.get 5 = evec H.size w ∧ ρ.get 20 = iv w ∧ ρ.get 21 = iv i ∧ ρ.ds = []) ∧ Fr [] H K ∧ EB K H.size w (upto i X)) (k := w) ?_ ?_
  · exact ⟨0, rfl, by omega, by simp (disch := omega) only [go_sem, ↓cw_block, dsB_of], f0, x0⟩
  · rintro _ ρ K ⟨i, rfl, hi, ⟨r0, r5, r20, r21, rd⟩, f1, x1⟩
    by_cases hie : i = w
    · subst hie
      simp (disch := omega) only [go_sem, ↓cw_block, dsB_of, r0, r5, r20, r21, rd, dsB_of]
      exact fin ⟨H.size, rfl, f1, x1.done, Nat.le_refl _⟩
    · have hi1 : (i : Int) + 1 = ((i + 1 : Nat) : Int) := by omega
      have hm : min (i : Int) ((w : Int) - 1) = (i : Int) := by omega
      have ky := (hv.fr f1 (by simp)).at (i := i) (by omega)
      obtain ⟨w3, x3, f3⟩ := x1.put (e := X i) (by omega)
      simp (disch := omega) only [go_sem, ↓cw_block, dsB_of, r0, r5, r20, r21, rd, hm, ky, w3]
      refine fin ⟨w - (i + 1), by omega, i + 1, rfl, by omega, by simp (disch := omega) only [go_sem, ↓cw_block, dsB_of, r0, r5, r20, r21, rd, hi1], ⟨Nat.le_trans f1.size f3.size, fun b hb2 _ => ?_⟩, x3.congr fun j hj => ?_⟩
      · rw [f3.same b (by have := f1.size; omega) (by simp; omega), f1.same b hb2 (by simp)]
      · unfold upto upd
        by_cases hj1 : j = i
        · subst hj1; simp
        · rw [if_neg hj1]
theorem both_spec (h : Gr H g B ns ins) {va vb w : Nat} {X Y : Nat → Nat} (hx : EB H va w X) (hxn : va ∉ B) (hy : EB H vb w Y) (hyn : vb ∉ B) (hw : 1 ≤ w ∧ w ≤ 16) (hl : ns.length < 100000) (hX : ∀ i, i < w → X i < 2 * ns.length) (hY : ∀ i, i < w → Y i < 2 * ns.length) :
    CallF Tryz.prog 26 [hp g, evec va w, evec vb w] H (fun r H' => ∃ B' ra rb, r = .tuple #[evec ra w, evec rb w] ∧ GS H B H' g B' ns ins ∧ EB H' ra w X ∧ EB H' rb w Y ∧ H.size ≤ ra ∧ ra < rb ∧ ra ∉ B' ∧ rb ∉ B') NoP := by
  have hlt := h.lt
  have hxl := hx.lt
  have hyl := hy.lt
  have hmax : max (w : Int) (w : Int) = (w : Int) := by omega
  refine callF_of Tryz.func26 rfl Tryz.ntmps26 Tryz.results26 (by decide) rfl ?_
  simp (disch := omega) only [go_sem, ↓cw_block, dsB_of]
  refine call_to (bown_spec h hx hxn hw hl hX) ?_
  rintro _ H1 ⟨B1, r1, rfl, s1, x1, n1, nb1⟩
  have hyn1 : vb ∉ B1 := grow_not s1.gw hyl hyn
  have y1 := hy.fr s1.fr hyn
  simp (disch := omega) only [go_sem, ↓cw_block, dsB_of]
  refine call_to (bown_spec s1.gr y1 hyn1 hw hl hY) ?_
  rintro _ H2 ⟨B2, r2, rfl, s2, x2, n2, nb2⟩
  have nb1' : r1 ∉ B2 := grow_not s2.gw x1.lt nb1
  have x1' := x1.fr s2.fr nb1
  have hlt2 := s2.gr.lt
  simp (disch := omega) only [go_sem, ↓cw_block, dsB_of, hmax]
  refine call_to (wide_spec x1' hw) ?_
  rintro _ H3 ⟨r3, rfl, f3, x3, n3⟩
  simp (disch := omega) only [go_sem, ↓cw_block, dsB_of]
  refine call_to (wide_spec (x2.fr f3 (by simp)) hw) ?_
  rintro _ H4 ⟨r4, rfl, f4, x4, n4⟩
  have z1 := s1.fr.size
  have z2 := s2.fr.size
  have z3 := f3.size
  have h3l := x3.lt
  have s12 : GS H B H2 g B2 ns ins := ⟨s2.gr, Fr.grow s1.fr s2.fr s1.gw, s1.gw.trans s2.gw s1.fr.size⟩
  simp (disch := omega) only [go_sem, ↓cw_block, dsB_of, dsB_of]
  exact fin ⟨B2, r3, r4, rfl, (s12.aside f3 (by simp)).aside f4 (by simp), x3.fr f4 (by simp), x4, by omega, by omega, fun e => by have := hlt2 _ e; omega, fun e => by have := hlt2 _ e; omega⟩
end
end Go.Proofs.YtofooamimiijlaaGreat

namespace Go.Proofs.YtofooamimiijlaaGreat
open Go.HL
set_option maxRecDepth 10000
set_option linter.unusedSimpArgs false
set_option linter.unusedVariables false

def StepE (ns : List Pr) (X C R car : Nat → Nat) (i : Nat) : Prop := ∃ one u v, XorE ns (X i) (C i) one ∧ XorE ns one (car i) (R i) ∧ AndE ns (X i) (C i) u ∧ AndE ns one (car i) v ∧ OrE ns u v (car (i + 1))
theorem StepE.mono {ns ns' : List Pr} {X C R car : Nat → Nat} {i k : Nat} (h : StepE ns X C R car i) (hp : PreA ns ns' k) : StepE ns' X C R car i := by
  obtain ⟨one, u, v, h1, h2, h3, h4, h5⟩ := h
  exact ⟨one, u, v, h1.mono hp, h2.mono hp, h3.mono hp, h4.mono hp, h5.mono hp⟩
theorem upd_ne {X : Nat → Nat} {i e j : Nat} (h : j ≠ i) : upd X i e j = X j := if_neg h
theorem upd_eq {X : Nat → Nat} {i e : Nat} : upd X i e i = e := if_pos rfl
section
variable {H0 H : Heap} {g : Nat} {B0 B : List Nat} {ns : List Pr} {ins : List Nat}
set_option maxHeartbeats 4000000 in
theorem sum_spec (h : Gr H g B ns ins) {va vb w : Nat} {X C : Nat → Nat} (hx : EB H va w X) (hxn : va ∉ B) (hy : EB H vb w C) (hyn : vb ∉ B) (hab : va ≠ vb) (hw : 1 ≤ w ∧ w ≤ 16) (hl : ns.length < 1000) (hX : ∀ i, i < w → X i < 2 * ns.length) (hC : ∀ i, i < w → C i < 2 * ns.length) :
    CallF Tryz.prog 28 [hp g, evec va w, evec vb w, iv 0] H (fun r H' => ∃ B' rb ns' R, r = evec rb w ∧ GS H B H' g B' ns' ins ∧ PreA ns ns' (9 * w) ∧ SumE ns' w X C R ∧ EB H' rb w R ∧ H.size ≤ rb ∧ rb ∉ B' ∧ ∀ i, i < w → R i < 2 * ns'.length) NoP := by
  obtain ⟨G, hG⟩ : ∃ G, H.push (.cells (List.replicate w (iv 0)).toArray 3) = G := ⟨_, rfl⟩
  have f0 : Fr [] H G := by rw [← hG]; exact Fr.push
  have x0 : EB G H.size w (upto 0 fun _ => 0) := by rw [← hG]; exact EB.zero
  have hlt := h.lt
  have hpos := h.w.1
  have s0 : GS H B G g B ns ins := (GS.refl h).aside f0 (by simp)
  refine callF_of Tryz.func28 rfl Tryz.ntmps28 Tryz.results28 (by decide) rfl ?_
  simp (disch := omega) only [go_sem, ↓cw_block, dsB_of]
  rw [hG]
  refine loop_by (fun j ρ K => ∃ (i : Nat) (B' : List Nat) (ns1 : List Pr) (R car : Nat → Nat), j = w - i ∧ i ≤ w ∧ (ρ.get 0 = hp g ∧ ρ.get 1 = evec va w ∧ ρ.get 2 = evec vb w ∧ ρ.get 3 = iv (car i : Nat) ∧ ρ.get 9 = evec H.size w ∧ ρ.get 16 = iv w ∧ ρ.get 17 = iv i ∧ ρ.ds = []) ∧ GS H B K g B' ns1 ins ∧ EB K va w X ∧ va ∉ B' ∧ EB K vb w C ∧ vb ∉ B' ∧ EB K H.size w (upto i R) ∧ H.size ∉ B' ∧ PreA ns ns1 (9 * i) ∧
    car 0 = 0 ∧ car i < 2 * ns1.length ∧ (∀ j, j < i → R j < 2 * ns1.length) ∧ ∀ j, j < i → StepE ns1 X C R car j) (k := w) ?_ ?_
  · exact ⟨0, B, ns, fun _ => 0, fun _ => 0, rfl, by omega, by simp (disch := omega) only [go_sem, ↓cw_block, dsB_of]; try rfl, s0, hx.fr f0 (by simp), hxn, hy.fr f0 (by simp), hyn, x0, fun e => by have := hlt _ e; omega, PreA.refl, rfl, (by show 0 < _; omega), by omega, by omega⟩
  · rintro _ ρ K ⟨i, B', ns1, R, car, rfl, hi, ⟨r0, r1, r2, r3, r9, r16, r17, rd⟩, s1, y1, yn, z1, zn, x1, nb, pre, car0, carl, Rl, steps⟩
    by_cases hie : i = w
    · subst hie
      simp (disch := omega) only [go_sem, ↓cw_block, dsB_of, r0, r1, r2, r3, r9, r16, r17, rd, dsB_of]
      exact fin ⟨B', H.size, ns1, R, rfl, s1, pre, ⟨car, car0, fun j hj => steps j hj⟩, x1.done, Nat.le_refl _, nb, Rl⟩
    · have hi1 : (i : Int) + 1 = ((i + 1 : Nat) : Int) := by omega
      have ky := y1.at (i := i) (by omega)
      have kz := z1.at (i := i) (by omega)
      have hpl := pre.len
      have hXi := hX i (by omega)
      have hCi := hC i (by omega)
      simp (disch := omega) only [go_sem, ↓cw_block, dsB_of, r0, r1, r2, r3, r9, r16, r17, rd]
      refine draw0 (lk [(0, true), (1, true), (2, true), (3, true), (4, true), (5, true), (6, true), (7, true), (8, true)] (.act 9 (lk [(10, true)] .fin) .non)) T.mixed ?_
      simp (disch := omega) only [go_sem, ↓cw_block, dsB_of, r0, r1, r2, r3, r9, r16, r17, rd, ky, kz]
      refine call_to (xor_specE s1.gr (by omega) (a := X i) (b := C i) (by omega) (by omega)) ?_
      rintro _ K2 ⟨one, ns2, rfl, he2, p2, E2, hg2⟩
      obtain ⟨B2, s2, f2, g2⟩ := s1.op hg2
      have q2 := p2.len
      have nb2 := grow_not g2 x1.lt nb
      have yn2 := grow_not g2 y1.lt yn
      have zn2 := grow_not g2 z1.lt zn
      have x2 := x1.fr f2 nb
      have y2 := y1.fr f2 yn
      have z2 := z1.fr f2 zn
      simp (disch := omega) only [go_sem, ↓cw_block, dsB_of, r0, r1, r2, r3, r9, r16, r17, rd]
      refine call_to (xor_specE s2.gr (by omega) (a := one) (b := car i) (by omega) (by omega)) ?_
      rintro _ K3 ⟨er, ns3, rfl, he3, p3, E3, hg3⟩
      obtain ⟨B3, s3, f3, g3⟩ := s2.op hg3
      have q3 := p3.len
      have nb3 := grow_not g3 x2.lt nb2
      have yn3 := grow_not g3 y2.lt yn2
      have zn3 := grow_not g3 z2.lt zn2
      have y3 := y2.fr f3 yn2
      have z3 := z2.fr f3 zn2
      obtain ⟨w4, x4, f4⟩ := (x2.fr f3 nb2).put (e := er) (by omega)
      have s4 := s3.aside f4 (by simpa using nb3)
      have hs0 := hx.lt
      have hs1 := hy.lt
      have y4 := y3.fr f4 (by simp; omega)
      have z4 := z3.fr f4 (by simp; omega)
      have ky4 := y4.at (i := i) (by omega)
      have kz4 := z4.at (i := i) (by omega)
      simp (disch := omega) only [go_sem, ↓cw_block, dsB_of, r0, r1, r2, r3, r9, r16, r17, rd, w4]
      refine draw0 (lk [(0, false), (1, true), (2, true), (3, true), (4, true), (5, true), (6, true), (7, true), (8, true), (9, true), (11, false), (12, false), (13, false)] (.act 10 (.act 14 (.actd 15 (lk [(16, true)] .fin)) .non) .non)) T.mixed ?_
      simp (disch := omega) only [go_sem, ↓cw_block, dsB_of, r0, r1, r2, r3, r9, r16, r17, rd, ky4, kz4]
      refine call_to (and_specE s4.gr (by omega) (a := X i) (b := C i) (by omega) (by omega)) ?_
      rintro _ K5 ⟨u, ns5, rfl, he5, p5, E5, hg5⟩
      obtain ⟨B5, s5, f5, g5⟩ := s4.op hg5
      have q5 := p5.len
      simp (disch := omega) only [go_sem, ↓cw_block, dsB_of, r0, r1, r2, r3, r9, r16, r17, rd]
      refine call_to (and_specE s5.gr (by omega) (a := one) (b := car i) (by omega) (by omega)) ?_
      rintro _ K6 ⟨v, ns6, rfl, he6, p6, E6, hg6⟩
      obtain ⟨B6, s6, f6, g6⟩ := s5.op hg6
      have q6 := p6.len
      simp (disch := omega) only [go_sem, ↓cw_block, dsB_of, r0, r1, r2, r3, r9, r16, r17, rd]
      refine call_to (or_specE s6.gr (by omega) (a := u) (b := v) (by omega) (by omega)) ?_
      rintro _ K7 ⟨ec, ns7, rfl, he7, p7, E7, hg7⟩
      obtain ⟨B7, s7, f7, g7⟩ := s6.op hg7
      have q7 := p7.len
      have nb5 := grow_not g5 x4.lt nb3
      have x5 := x4.fr f5 nb3
      have nb6 := grow_not g6 x5.lt nb5
      have x6 := x5.fr f6 nb5
      have nb7 := grow_not g7 x6.lt nb6
      have x7 := x6.fr f7 nb6
      have yn5 := grow_not g5 y4.lt yn3
      have y5 := y4.fr f5 yn3
      have yn6 := grow_not g6 y5.lt yn5
      have y6 := y5.fr f6 yn5
      have yn7 := grow_not g7 y6.lt yn6
      have y7 := y6.fr f7 yn6
      have zn5 := grow_not g5 z4.lt zn3
      have z5 := z4.fr f5 zn3
      have zn6 := grow_not g6 z5.lt zn5
      have z6 := z5.fr f6 zn5
      have zn7 := grow_not g7 z6.lt zn6
      have z7 := z6.fr f7 zn6
      have P27 := ((p3.trans p5 (Nat.le_refl _)).trans p6 (Nat.le_refl _)).trans p7 (Nat.le_refl _)
      simp (disch := omega) only [go_sem, ↓cw_block, dsB_of, r0, r1, r2, r3, r9, r16, r17, rd]
      refine fin ⟨w - (i + 1), by omega, i + 1, B7, ns7, upd R i er, upd car (i + 1) ec, rfl, by omega, by simp (disch := omega) only [go_sem, ↓cw_block, dsB_of, r0, r1, r2, r3, r9, r16, r17, rd, hi1, upd_eq], s7, y7, yn7, z7, zn7, x7, nb7, pre.trans (p2.trans P27 (Nat.le_refl _)) (by omega), by rw [upd_ne (by omega)]; exact car0, by rw [upd_eq]; exact he7, fun j hj => ?_, fun j hj => ?_⟩
      · by_cases hji : j = i
        · subst hji; rw [upd_eq]; omega
        · rw [upd_ne hji]; have := Rl j (by omega); omega
      · by_cases hji : j = i
        · subst hji
          refine ⟨one, u, v, E2.mono P27, ?_, E5.mono (p6.trans p7 (Nat.le_refl _)), ?_, ?_⟩
          · rw [upd_ne (by omega), upd_eq]; exact E3.mono ((p5.trans p6 (Nat.le_refl _)).trans p7 (Nat.le_refl _))
          · rw [upd_ne (by omega)]; exact E6.mono p7
          · rw [upd_eq]; exact E7
        · obtain ⟨one', u', v', h1, h2, h3, h4, h5⟩ := (steps j (by omega)).mono (p2.trans P27 (Nat.le_refl _))
          refine ⟨one', u', v', h1, ?_, h3, ?_, ?_⟩
          · rw [upd_ne (by omega), upd_ne hji]; exact h2
          · rw [upd_ne (by omega)]; exact h4
          · rw [upd_ne (by omega)]; exact h5
theorem add_spec' (h : Gr H g B ns ins) {va vb w : Nat} {X C : Nat → Nat} (hx : EB H va w X) (hxn : va ∉ B) (hy : EB H vb w C) (hyn : vb ∉ B) (hw : 1 ≤ w ∧ w ≤ 16) (hl : ns.length < 1000) (hX : ∀ i, i < w → X i < 2 * ns.length) (hC : ∀ i, i < w → C i < 2 * ns.length) :
    CallF Tryz.prog 9 [hp g, evec va w, evec vb w] H (fun r H' => ∃ B' rb ns' R, r = evec rb w ∧ GS H B H' g B' ns' ins ∧ PreA ns ns' (9 * w) ∧ SumE ns' w X C R ∧ EB H' rb w R ∧ H.size ≤ rb ∧ rb ∉ B' ∧ ∀ i, i < w → R i < 2 * ns'.length) NoP := by
  refine callF_of Tryz.func9 rfl Tryz.ntmps9 Tryz.results9 (by decide) rfl ?_
  simp (disch := omega) only [go_sem, ↓cw_block, dsB_of]
  refine call_to (both_spec h hx hxn hy hyn hw (by omega) hX hC) ?_
  rintro _ H1 ⟨B1, ra, rb, rfl, s1, x1, y1, n1, n2, nb1, nb2⟩
  simp (disch := omega) only [go_sem, ↓cw_block, dsB_of]
  refine call_to (sum_spec s1.gr x1 nb1 y1 nb2 (by omega) hw hl hX hC) ?_
  rintro _ H2 ⟨B2, rr, ns2, R, rfl, s2, p2, E2, x2, n3, nb3, Rl⟩
  have := s1.fr.size
  simp (disch := omega) only [go_sem, ↓cw_block, dsB_of, dsB_of]
  exact fin ⟨B2, rr, ns2, R, rfl, ⟨s2.gr, Fr.grow s1.fr s2.fr s1.gw, s1.gw.trans s2.gw s1.fr.size⟩, p2, E2, x2, by omega, nb3, Rl⟩
set_option maxHeartbeats 4000000 in
theorem same_spec' (h : Gr H g B ns ins) {va vb w : Nat} {X C : Nat → Nat} (hx : EB H va w X) (hxn : va ∉ B) (hy : EB H vb w C) (hyn : vb ∉ B) (hw : 1 ≤ w ∧ w ≤ 16) (hl : ns.length < 1000) (hX : ∀ i, i < w → X i < 2 * ns.length) (hC : ∀ i, i < w → C i < 2 * ns.length) :
    CallF Tryz.prog 8 [hp g, evec va w, evec vb w] H (fun r H' => ∃ B' ns' e, r = iv (e : Nat) ∧ e < 2 * ns'.length ∧ GS H B H' g B' ns' ins ∧ PreA ns ns' (4 * w) ∧ SameE ns' w X C e) NoP := by
  have hpos := h.w.1
  refine callF_of Tryz.func8 rfl Tryz.ntmps8 Tryz.results8 (by decide) rfl ?_
  simp (disch := omega) only [go_sem, ↓cw_block, dsB_of]
  refine call_to (both_spec h hx hxn hy hyn hw (by omega) hX hC) ?_
  rintro _ H1 ⟨B1, ra, rb, rfl, s1, x1, y1, n1, n2, nb1, nb2⟩
  simp (disch := omega) only [go_sem, ↓cw_block, dsB_of]
  refine loop_by (fun j ρ K => ∃ (i : Nat) (B' : List Nat) (ns1 : List Pr) (ch : Nat → Nat), j = w - i ∧ i ≤ w ∧ (ρ.get 0 = hp g ∧ ρ.get 1 = evec ra w ∧ ρ.get 2 = evec rb w ∧ ρ.get 7 = iv (ch i : Nat) ∧ ρ.get 17 = iv w ∧ ρ.get 18 = iv i ∧ ρ.ds = []) ∧ GS H B K g B' ns1 ins ∧ EB K ra w X ∧ ra ∉ B' ∧ EB K rb w C ∧ rb ∉ B' ∧ PreA ns ns1 (4 * i) ∧
    ch 0 = 1 ∧ ch i < 2 * ns1.length ∧ ∀ j, j < i → ∃ z, XorE ns1 (X j) (C j) z ∧ AndE ns1 (ch j) (nx z) (ch (j + 1))) (k := w) ?_ ?_
  · exact ⟨0, B1, ns, fun _ => 1, rfl, by omega, by simp (disch := omega) only [go_sem, ↓cw_block, dsB_of]; try rfl, s1, x1, nb1, y1, nb2, PreA.refl, rfl, (by show 1 < _; omega), by omega⟩
  · rintro _ ρ K ⟨i, B', ns1, ch, rfl, hi, ⟨r0, r1, r2, r7, r17, r18, rd⟩, s1, y1, yn, z1, zn, pre, ch0, chl, steps⟩
    by_cases hie : i = w
    · subst hie
      simp (disch := omega) only [go_sem, ↓cw_block, dsB_of, r0, r1, r2, r7, r17, r18, rd, dsB_of]
      exact fin ⟨B', ns1, ch i, rfl, chl, s1, pre, ch, ch0, rfl, steps⟩
    · have hi1 : (i : Int) + 1 = ((i + 1 : Nat) : Int) := by omega
      have ky := y1.at (i := i) (by omega)
      have kz := z1.at (i := i) (by omega)
      have hpl := pre.len
      have hXi := hX i (by omega)
      have hCi := hC i (by omega)
      simp (disch := omega) only [go_sem, ↓cw_block, dsB_of, r0, r1, r2, r7, r17, r18, rd]
      refine draw0 (lk [(0, false), (1, false), (2, true), (3, true), (4, true), (5, true), (6, true), (7, true), (8, true), (9, true), (10, true)] (.act 11 (.act 12 (.actd 13 (lk [(14, true)] .fin)) .non) .non)) T.mixed ?_
      simp (disch := omega) only [go_sem, ↓cw_block, dsB_of, r0, r1, r2, r7, r17, r18, rd, ky, kz]
      refine call_to (xor_specE s1.gr (by omega) (a := X i) (b := C i) (by omega) (by omega)) ?_
      rintro _ K2 ⟨z, ns2, rfl, he2, p2, E2, hg2⟩
      obtain ⟨B2, s2, f2, g2⟩ := s1.op hg2
      have q2 := p2.len
      have nz := nx_lt he2
      simp (disch := omega) only [go_sem, ↓cw_block, dsB_of, r0, r1, r2, r7, r17, r18, rd]
      refine call_to (not_spec (by omega)) ?_
      rintro _ _ ⟨rfl, rfl⟩
      simp (disch := omega) only [go_sem, ↓cw_block, dsB_of, r0, r1, r2, r7, r17, r18, rd]
      refine call_to (and_specE s2.gr (by omega) (a := ch i) (b := nx z) (by omega) (by omega)) ?_
      rintro _ K3 ⟨ec, ns3, rfl, he3, p3, E3, hg3⟩
      obtain ⟨B3, s3, f3, g3⟩ := s2.op hg3
      have yn2 := grow_not g2 y1.lt yn
      have zn2 := grow_not g2 z1.lt zn
      have y2 := y1.fr f2 yn
      have z2 := z1.fr f2 zn
      have yn3 := grow_not g3 y2.lt yn2
      have zn3 := grow_not g3 z2.lt zn2
      simp (disch := omega) only [go_sem, ↓cw_block, dsB_of, r0, r1, r2, r7, r17, r18, rd]
      refine fin ⟨w - (i + 1), by omega, i + 1, B3, ns3, upd ch (i + 1) ec, rfl, by omega, by simp (disch := omega) only [go_sem, ↓cw_block, dsB_of, r0, r1, r2, r7, r17, r18, rd, hi1, upd_eq], s3, y2.fr f3 yn2, yn3, z2.fr f3 zn2, zn3, pre.trans (p2.trans p3 (Nat.le_refl _)) (by omega), by rw [upd_ne (by omega)]; exact ch0, by rw [upd_eq]; exact he3, fun j hj => ?_⟩
      by_cases hji : j = i
      · subst hji
        exact ⟨z, E2.mono p3, by rw [upd_ne (by omega), upd_eq]; exact E3⟩
      · obtain ⟨z', h1, h2⟩ := steps j (by omega)
        have pp := p2.trans p3 (Nat.le_refl _)
        exact ⟨z', h1.mono pp, by rw [upd_ne (by omega), upd_ne (by omega)]; exact h2.mono pp⟩
end
end Go.Proofs.YtofooamimiijlaaGreat

namespace Go.Proofs.YtofooamimiijlaaGreat
open Go.HL
set_option maxRecDepth 10000
set_option linter.unusedSimpArgs false
set_option linter.unusedVariables false

theorem bt_range {w i : Nat} {x : Nat → Bool} (hi : i < w) : bt ((List.range w).map x) i = x i := by unfold bt; simp [hi]
theorem pow_le16 {i : Nat} (hi : i ≤ 16) : (2 : Int) ^ i ≤ 65536 ∧ 1 ≤ (2 : Int) ^ i := by
  have h1 : (2 : Int) ^ i > 0 := Int.pow_pos (by omega)
  have h2 : (2 : Nat) ^ i ≤ 2 ^ 16 := Nat.pow_le_pow_right (by omega) hi
  have h3 : ((2 ^ i : Nat) : Int) = (2 : Int) ^ i := by rw [Int.natCast_pow]; rfl
  omega
/-- A number of so many bits. -/
def trI (n : Int) (w : Nat) : Int := if 2 ^ (w - 1) ≤ n % (2 ^ w : Int) then n % (2 ^ w : Int) - 2 ^ w else n % (2 ^ w : Int)
theorem nB_top {x : Nat → Bool} {w : Nat} (hw : 1 ≤ w) : x (w - 1) = true ↔ 2 ^ (w - 1) ≤ nB x w := by
  obtain ⟨k, rfl⟩ : ∃ k, w = k + 1 := ⟨w - 1, by omega⟩
  rw [Nat.add_sub_cancel]
  have hr := nB_rng x k
  rw [nB_succ]
  unfold bz
  cases x k <;> simp <;> omega
theorem value_tr (a b : Int) {w : Nat} (hw : 1 ≤ w) : (nB (xv (bI b) (bI a)) w - if xv (bI b) (bI a) (w - 1) then 2 ^ w else 0) = trI (b - a) w := by
  have h1 := nB_top (x := xv (bI b) (bI a)) hw
  unfold trI
  rw [← nB_diff]
  by_cases h : xv (bI b) (bI a) (w - 1) = true
  · rw [if_pos h, if_pos (h1.1 h)]
  · rw [if_neg h, if_neg (fun e => h (h1.2 e))]; omega
section
variable {H : Heap}
set_option maxHeartbeats 1000000 in
theorem value_spec {v : Value} {w : Nat} {x : Nat → Bool} (hv : BV H 4 v ((List.range w).map x)) (hw : 1 ≤ w ∧ w ≤ 16) :
    CallF Tryz.prog 19 [v] H (fun r H' => r = iv (nB x w - if x (w - 1) then 2 ^ w else 0) ∧ H' = H) NoP := by
  obtain ⟨a, c, e⟩ := hv.form
  have hl : ((List.range w).map x).length = w := by simp
  rw [hl] at e
  subst e
  have cell : ∀ i, i < w → ∃ b o, a = some ⟨b, o, none⟩ ∧ cellH H ⟨b, o + i, none⟩ = some (.bool (x i)) := fun i hi => by
    obtain ⟨b, o, cap, e, hc⟩ := hv.at (i := i) (by rw [hl]; exact hi)
    simp only [Value.slice.injEq] at e
    exact ⟨b, o, e.1, by rw [hc, bt_range hi]⟩
  obtain ⟨b, o, ea, -⟩ := cell 0 (by omega)
  subst ea
  have cell' : ∀ i, i < w → cellH H ⟨b, o + i, none⟩ = some (.bool (x i)) := fun i hi => by
    obtain ⟨b', o', e, h⟩ := cell i hi
    simp only [Option.some.injEq, Addr.mk.injEq, and_true] at e
    obtain ⟨rfl, rfl⟩ := e
    exact h
  have hm : min (w : Int) 16 = (w : Int) := by omega
  have hsh : ∀ i, i ≤ 16 → ∀ V t xo yo, binV Tryz.prog V .shl t xo yo (iv 1) (iv (i : Nat)) = some (iv (2 ^ i)) := fun i hi V t xo yo => by
    have h1 := pow_le16 hi
    show (if (i : Int) < 0 then none else some (Value.int .i64 (IntKind.i64.wrap (1 * 2 ^ min (i : Int).toNat 64)))) = _
    have : min (i : Int).toNat 64 = i := by omega
    rw [if_neg (by omega), this, Int.one_mul, wrap64 (by omega)]
  refine callF_of Tryz.func19 rfl Tryz.ntmps19 Tryz.results19 (by decide) rfl ?_
  simp (disch := omega) only [go_sem, dsB_of, hm]
  refine cut_at (fun ρ K => (ρ.get 0 = .slice (some ⟨b, o, none⟩) w c ∧ ρ.get 3 = iv w ∧ ρ.get 4 = iv (nB x w) ∧ ρ.ds = []) ∧ K = H) ?_ ?_
  · simp (disch := omega) only [go_sem, ↓cw_block, dsB_of, hm]
    refine loop_by (fun j ρ K => ∃ (i : Nat), j = w - i ∧ i ≤ w ∧ (ρ.get 0 = .slice (some ⟨b, o, none⟩) w c ∧ ρ.get 3 = iv w ∧ ρ.get 4 = iv (nB x i) ∧ ρ.get 9 = iv w ∧ ρ.get 10 = iv i ∧ ρ.ds = []) ∧ K = H) (k := w) ?_ ?_
    · exact ⟨0, rfl, by omega, by simp (disch := omega) only [go_sem, ↓cw_block, dsB_of]; try rfl, rfl⟩
    · rintro _ ρ K ⟨i, rfl, hi, ⟨r0, r3, r4, r9, r10, rd⟩, e⟩
      subst K
      by_cases hie : i = w
      · subst hie
        simp (disch := omega) only [go_sem, ↓cw_block, dsB_of, r0, r3, r4, r9, r10, rd]
        exact fin ⟨by simp (disch := omega) only [go_sem, ↓cw_block, dsB_of, r0, r3, r4, rd], rfl⟩
      · have hi1 : (i : Int) + 1 = ((i + 1 : Nat) : Int) := by omega
        have kc := cell' i (by omega)
        have hs := hsh i (by omega)
        have hr := nB_rng x i
        have hp := pow_le16 (i := i) (by omega)
        cases hxi : x i with
        | true =>
          rw [hxi] at kc
          have e1 : nB x (i + 1) = nB x i + 2 ^ i := by show nB x i + (if x i then 2 ^ i else 0) = _; rw [hxi]; simp
          simp (disch := omega) only [go_sem, ↓cw_block, dsB_of, r0, r3, r4, r9, r10, rd, kc, hs]
          exact fin ⟨w - (i + 1), by omega, i + 1, rfl, by omega, by simp (disch := omega) only [go_sem, ↓cw_block, dsB_of, r0, r3, r4, r9, r10, rd, hi1, e1], rfl⟩
        | false =>
          rw [hxi] at kc
          have e1 : nB x (i + 1) = nB x i := by show nB x i + (if x i then 2 ^ i else 0) = _; rw [hxi]; simp
          simp (disch := omega) only [go_sem, ↓cw_block, dsB_of, r0, r3, r4, r9, r10, rd, kc]
          exact fin ⟨w - (i + 1), by omega, i + 1, rfl, by omega, by simp (disch := omega) only [go_sem, ↓cw_block, dsB_of, r0, r3, r4, r9, r10, rd, hi1, e1], rfl⟩
  · rintro ρ K ⟨⟨r0, r3, r4, rd⟩, e⟩
    subst K
    have hw1 : (w : Int) - 1 = ((w - 1 : Nat) : Int) := by omega
    have kc := cell' (w - 1) (by omega)
    have hs := hsh w (by omega)
    have hr := nB_rng x w
    have hp := pow_le16 (i := w) (by omega)
    cases hxw : x (w - 1) with
    | true =>
      rw [hxw] at kc
      simp (disch := omega) only [go_sem, ↓cw_block, dsB_of, r0, r3, r4, rd, hw1, kc, hs, dsB_of]
      exact fin ⟨by rw [if_pos rfl], rfl⟩
    | false =>
      rw [hxw] at kc
      simp (disch := omega) only [go_sem, ↓cw_block, dsB_of, r0, r3, r4, rd, hw1, kc, hs, dsB_of]
      exact fin ⟨by rw [if_neg (by simp)]; simp, rfl⟩
set_option maxHeartbeats 1000000 in
theorem trim_spec {n : Int} {w : Nat} (hw : 1 ≤ w ∧ w ≤ 16) (hn : -9223372036854775808 ≤ n ∧ n ≤ 9223372036854775807) :
    CallF Tryz.prog 5 [iv n, iv w] H (fun r H' => r = iv (trI n w) ∧ H' = H) NoP := by
  have hp := pow_le16 (i := w) (by omega)
  refine callF_of Tryz.func5 rfl Tryz.ntmps5 Tryz.results5 (by decide) rfl ?_
  simp (disch := omega) only [go_sem, dsB_of]
  refine cut_at (fun ρ K => (ρ.get 0 = iv n ∧ ρ.get 5 = iv (2 ^ w) ∧ ρ.ds = []) ∧ K = H) ?_ ?_
  · simp (disch := omega) only [go_sem, ↓cw_block, dsB_of]
    refine loop_by (fun j ρ K => ∃ (i : Nat), j = w - i ∧ i ≤ w ∧ (ρ.get 0 = iv n ∧ ρ.get 1 = iv w ∧ ρ.get 5 = iv (2 ^ i) ∧ ρ.get 6 = iv i ∧ ρ.ds = []) ∧ K = H) (k := w) ?_ ?_
    · exact ⟨0, rfl, by omega, by simp (disch := omega) only [go_sem, ↓cw_block, dsB_of]; try rfl, rfl⟩
    · rintro _ ρ K ⟨i, rfl, hi, ⟨r0, r1, r5, r6, rd⟩, e⟩
      subst K
      by_cases hie : i = w
      · subst hie
        simp (disch := omega) only [go_sem, ↓cw_block, dsB_of, r0, r1, r5, r6, rd]
        exact fin ⟨by simp (disch := omega) only [go_sem, ↓cw_block, dsB_of, r0, r5, rd], rfl⟩
      · have hi1 : (i : Int) + 1 = ((i + 1 : Nat) : Int) := by omega
        have hpi := pow_le16 (i := i) (by omega)
        have hps : (2 : Int) ^ i * 2 = 2 ^ (i + 1) := (Int.pow_succ 2 i).symm
        simp (disch := omega) only [go_sem, ↓cw_block, dsB_of, r0, r1, r5, r6, rd, hps]
        exact fin ⟨w - (i + 1), by omega, i + 1, rfl, by omega, by simp (disch := omega) only [go_sem, ↓cw_block, dsB_of, r0, r1, r5, r6, rd, hi1, hps], rfl⟩
  · rintro ρ K ⟨⟨r0, r5, rd⟩, e⟩
    subst K
    obtain ⟨M, hM⟩ : ∃ M : Int, M = 2 ^ (w - 1) := ⟨_, rfl⟩
    have hMw : (2 : Int) ^ w = M * 2 := by
      rw [hM, ← Int.pow_succ]; congr 1; omega
    have hMp : 1 ≤ M := by rw [hM]; exact (pow_le16 (by omega)).2
    have hm0 := Int.emod_nonneg n (show (2 : Int) ^ w ≠ 0 by omega)
    have hm1 := Int.emod_lt_of_pos n (show (0 : Int) < 2 ^ w by omega)
    have ht := Int.tmod_eq_emod (a := n) (b := 2 ^ w)
    have hq : (2 : Int) ^ w / 2 = M := by omega
    have hq2 : ((2 : Int) ^ w).tdiv 2 = M := by rw [Int.tdiv_eq_ediv_of_nonneg (by omega)]; exact hq
    have hfin : trI n w = if M ≤ n % (2 ^ w : Int) then n % (2 ^ w : Int) - 2 ^ w else n % (2 ^ w : Int) := by unfold trI; rw [← hM]
    have hab : ((2 : Int) ^ w).natAbs = 2 ^ w := by
      rw [Int.natAbs_pow]; rfl
    by_cases hneg : n.tmod (2 ^ w) < 0
    · have e1 : n.tmod (2 ^ w) + 2 ^ w = n % (2 ^ w : Int) := by
        rw [ht] at hneg ⊢
        split at hneg
        · omega
        · rename_i h
          rw [if_neg h]; omega
      by_cases hge : M ≤ n % (2 ^ w : Int)
      · rw [if_pos hge] at hfin
        simp (disch := omega) only [go_sem, ↓cw_block, dsB_of, r0, r5, rd, e1, hq2, dsB_of]
        exact fin ⟨by rw [hfin], rfl⟩
      · rw [if_neg hge] at hfin
        simp (disch := omega) only [go_sem, ↓cw_block, dsB_of, r0, r5, rd, e1, hq2, dsB_of]
        exact fin ⟨by rw [hfin], rfl⟩
    · have e1 : n.tmod (2 ^ w) = n % (2 ^ w : Int) := by
        rw [ht] at hneg ⊢
        split at hneg
        · rename_i h
          rw [if_pos h]; omega
        · omega
      rw [e1] at hneg
      by_cases hge : M ≤ n % (2 ^ w : Int)
      · rw [if_pos hge] at hfin
        simp (disch := omega) only [go_sem, ↓cw_block, dsB_of, r0, r5, rd, e1, hq2, dsB_of]
        exact fin ⟨by rw [hfin], rfl⟩
      · rw [if_neg hge] at hfin
        simp (disch := omega) only [go_sem, ↓cw_block, dsB_of, r0, r5, rd, e1, hq2, dsB_of]
        exact fin ⟨by rw [hfin], rfl⟩
end
end Go.Proofs.YtofooamimiijlaaGreat

namespace Go.Proofs.YtofooamimiijlaaGreat
open Go.HL HM Go.Sat
set_option maxRecDepth 10000
set_option linter.unusedSimpArgs false
set_option linter.unusedVariables false

section
variable {H : Heap}
/-- A matrix of numbers that can be read, below some block. -/
structure RL (N : Nat) (H : Heap) (a : Option Addr) (css : List (List Int)) : Prop where
  ex : ∀ (i : Nat) (c : List Int), css[i]? = some c → ∃ b o ra rc, a = some ⟨b, o, none⟩ ∧ b < N ∧ cellH H ⟨b, o + i, none⟩ = some (.slice ra c.length rc) ∧ Rn H ra c ∧ (c ≠ [] → ∀ b' o', ra = some ⟨b', o', none⟩ → b' < N)
theorem cell_same {H' : Heap} {b o : Nat} {v : Value} (hs : H'[b]? = H[b]?) (h : cellH H ⟨b, o, none⟩ = some v) : cellH H' ⟨b, o, none⟩ = some v := by
  unfold cellH at h ⊢
  rw [hs]; exact h
theorem Rn.same {H' : Heap} {N : Nat} {a : Option Addr} {xs : List Int} (h : Rn H a xs) (hN : xs ≠ [] → ∀ b o, a = some ⟨b, o, none⟩ → b < N) (hs : ∀ b, b < N → H'[b]? = H[b]?) : Rn H' a xs := fun i x hi => by
  obtain ⟨b, o, e, hc⟩ := h i x hi
  exact ⟨b, o, e, cell_same (hs b (hN (fun e0 => by rw [e0] at hi; simp at hi) b o e)) hc⟩
theorem RL.same {H' : Heap} {N : Nat} {a : Option Addr} {css : List (List Int)} (h : RL N H a css) (hs : ∀ b, b < N → H'[b]? = H[b]?) : RL N H' a css := ⟨fun i c hi => by
  obtain ⟨b, o, ra, rc, e, hb, hc, hr, hn⟩ := h.ex i c hi
  exact ⟨b, o, ra, rc, e, hb, cell_same (hs b hb) hc, hr.same hn hs, hn⟩⟩
end
end Go.Proofs.YtofooamimiijlaaGreat

namespace Go.Proofs.YtofooamimiijlaaGreat
open Go.HL HM Go.Sat
set_option maxRecDepth 10000
set_option linter.unusedSimpArgs false
set_option linter.unusedVariables false

section
variable {H : Heap} {N n : Nat}
def smallB (css : List (List Int)) (most vars : Nat) : Bool := decide (css.length ≤ most) && css.all fun r => decide (r.length ≤ 30) && decide (grt r ≤ vars)
/-- Clauses in their normal forms, one by one. -/
structure NFs (css : List (List Int)) (gl : List (List Int)) : Prop where
  len : gl.length = css.length
  nf : ∀ (i : Nat) (c g : List Int), css[i]? = some c → gl[i]? = some g → ∃ idle, NF c g idle
theorem NFs.nil : NFs [] [] := ⟨rfl, fun i c g h => by simp at h⟩
theorem NFs.add {css gl : List (List Int)} (h : NFs css gl) {c g : List Int} {idle : Bool} (hn : NF c g idle) : NFs (css ++ [c]) (gl ++ [g]) := by
  refine ⟨by simp [h.len], fun i c' g' h1 h2 => ?_⟩
  rcases Nat.lt_trichotomy i css.length with hlt | he | hgt
  · rw [List.getElem?_append_left hlt] at h1
    rw [List.getElem?_append_left (by rw [h.len]; exact hlt)] at h2
    exact h.nf i c' g' h1 h2
  · subst he
    rw [List.getElem?_append_right (Nat.le_refl _), Nat.sub_self] at h1
    rw [← h.len, List.getElem?_append_right (Nat.le_refl _), Nat.sub_self] at h2
    have e1 := Option.some.inj h1
    have e2 := Option.some.inj h2
    subst e1; subst e2
    exact ⟨idle, hn⟩
  · rw [List.getElem?_eq_none (by simp; omega)] at h1; cases h1
/-- What a model makes of clauses. -/
def Sats (m : Nat → Bool) (css : List (List Int)) : Prop := ∀ c ∈ css, ∃ x ∈ c, m (codeN x) = true
theorem NFs.sat {css gl : List (List Int)} (h : NFs css gl) {m : Nat → Bool} : AllB m (gcode gl) ↔ Sats m css := by
  unfold AllB Sats gcode
  constructor
  · intro ha c hc
    obtain ⟨i, hi⟩ := List.getElem?_of_mem hc
    have hl := (List.getElem?_eq_some_iff.1 hi).1
    obtain ⟨g, hg⟩ : ∃ g, gl[i]? = some g := ⟨_, List.getElem?_eq_getElem (by rw [h.len]; exact hl)⟩
    obtain ⟨idle, hn⟩ := h.nf i c g hi hg
    obtain ⟨y, hy, hm⟩ := ha (g.map codeN) (by rw [List.mem_reverse]; exact List.mem_map.2 ⟨g, List.mem_of_getElem? hg, rfl⟩)
    obtain ⟨x, hx, rfl⟩ := List.mem_map.1 hy
    exact ⟨x, (hn.mem x).1 hx, hm⟩
  · intro hs g' hg'
    rw [List.mem_reverse] at hg'
    obtain ⟨g, hg, rfl⟩ := List.mem_map.1 hg'
    obtain ⟨i, hi⟩ := List.getElem?_of_mem hg
    have hl := (List.getElem?_eq_some_iff.1 hi).1
    obtain ⟨c, hc⟩ : ∃ c, css[i]? = some c := ⟨_, List.getElem?_eq_getElem (by rw [← h.len]; exact hl)⟩
    obtain ⟨idle, hn⟩ := h.nf i c g hc hi
    obtain ⟨x, hx, hm⟩ := hs c (List.mem_of_getElem? hc)
    exact ⟨codeN x, List.mem_map.2 ⟨x, (hn.mem x).2 hx, rfl⟩, hm⟩
end
end Go.Proofs.YtofooamimiijlaaGreat

namespace Go.Proofs.YtofooamimiijlaaGreat
open Go.HL HM Go.Sat
set_option maxRecDepth 10000
set_option linter.unusedSimpArgs false
set_option linter.unusedVariables false

section
variable {H : Heap} {ow : Nat → Nat} {p n : Nat} {k : Bk} {f : Cf}
theorem sModel_spec (h : RM H ow p n k f) {md : List Bool} (hv : Vec H 4 1 f.model (md.map Value.bool)) (hl : md.length ≤ 1000000) : CallF Tryz.prog 21 [hp p] H (fun v H' => Fr [] H H' ∧ Vec H' 4 1 v (md.map Value.bool) ∧ ∀ b ∈ own v, H.size ≤ b) NoP := by
  have c5 : cellH H ⟨p, 5, none⟩ = some f.model := h.c 5
  obtain ⟨a, len, c, e, -⟩ := hv.len
  rw [e] at c5
  refine callF_of Tryz.func21 rfl Tryz.ntmps21 Tryz.results21 (by decide) rfl ?_
  simp (disch := omega) only [go_sem, ↓cw_block, dsB_of, c5]
  rw [← e]
  refine call_to (cloneB_spec hv (fun u hu => by obtain ⟨b, -, rfl⟩ := List.mem_map.1 hu; rfl) (by rw [List.length_map]; exact hl)) ?_
  rintro v H1 ⟨f1, v1, o1⟩
  simp (disch := omega) only [go_sem, ↓cw_block, dsB_of, dsB_of]
  exact fin ⟨f1, v1, o1⟩
end
end Go.Proofs.YtofooamimiijlaaGreat

namespace Go.Proofs.YtofooamimiijlaaGreat
open Go.HL HM Go.Sat
set_option maxRecDepth 10000
set_option linter.unusedSimpArgs false
set_option linter.unusedVariables false

section
variable {H : Heap} {ow : Nat → Nat} {p n : Nat} {k : Bk} {f : Cf}
end
end Go.Proofs.YtofooamimiijlaaGreat

