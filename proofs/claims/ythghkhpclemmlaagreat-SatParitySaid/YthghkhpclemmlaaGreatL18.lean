/- The solver: a clause is added. -/
import Derived.Test.YthghkhpclemmlaaGreatL17
namespace Go.Proofs.YthghkhpclemmlaaGreat
open Go.HL HM Go.Sat
set_option maxRecDepth 10000
set_option linter.unusedSimpArgs false
set_option linter.unusedVariables false

section
variable {H : Heap} {ow : Nat → Nat} {p n : Nat} {k : Bk} {f : Cf} {G : List (List Nat)}
theorem cVar_spec {x : Int} (hx : -100000 ≤ x ∧ x ≤ 100000) : CallF Tryz.prog 33 [iv x] H (fun v H' => v = iv (x.natAbs : Nat) ∧ H' = H) NoP := by
  refine callF_of Tryz.func33 rfl Tryz.ntmps33 Tryz.results33 (by decide) rfl ?_
  by_cases h : x < 0
  · simp (disch := omega) only [go_sem, ↓cw_block, dsB_of]
    exact fin ⟨by rw [show ((x.natAbs : Nat) : Int) = -x by omega], rfl⟩
  · simp (disch := omega) only [go_sem, ↓cw_block, dsB_of]
    exact fin ⟨by rw [show ((x.natAbs : Nat) : Int) = x by omega], rfl⟩
/-- The greatest variable of a clause. -/
def grt (l : List Int) : Nat := l.foldl (fun m x => if litB x then max m x.natAbs else m) 0
theorem grt_add {l : List Int} {x : Int} : grt (l ++ [x]) = if litB x then max (grt l) x.natAbs else grt l := by
  unfold grt; rw [List.foldl_append]; rfl
theorem litB_le {x : Int} (h : litB x = true) : -100000 ≤ x ∧ x ≤ 100000 := by
  unfold litB at h; rw [decide_eq_true_eq] at h; omega
theorem litB_ne {x : Int} (h : litB x = true) : x ≠ 0 := by
  unfold litB at h; rw [decide_eq_true_eq] at h; omega
theorem grt_le : ∀ {l : List Int} {m : Nat}, grt l ≤ m ↔ ∀ x ∈ l, litB x = true → x.natAbs ≤ m := by
  intro l m
  have key : ∀ (l : List Int) (a : Nat), l.foldl (fun m x => if litB x then max m x.natAbs else m) a ≤ m ↔ a ≤ m ∧ ∀ x ∈ l, litB x = true → x.natAbs ≤ m := by
    intro l
    induction l with
    | nil => intro a; simp
    | cons x l ih =>
      intro a
      rw [List.foldl_cons, ih]
      by_cases h : litB x = true
      · rw [if_pos h]
        simp only [List.mem_cons, forall_eq_or_imp]
        constructor
        · rintro ⟨h1, h2⟩; exact ⟨by omega, fun _ => by omega, h2⟩
        · rintro ⟨h1, h2, h3⟩; have := h2 h; exact ⟨by omega, h3⟩
      · rw [if_neg h]
        simp only [List.mem_cons, forall_eq_or_imp]
        exact ⟨fun ⟨h1, h2⟩ => ⟨h1, fun e => absurd e h, h2⟩, fun ⟨h1, _, h2⟩ => ⟨h1, h2⟩⟩
  unfold grt
  rw [key]
  simp
theorem grt_big {l : List Int} : grt l ≤ 100000 := grt_le.2 fun x _ h => by have := litB_le h; omega
theorem cGreatest_spec {b o c : Nat} {ra : Option Addr} {xs : List Int} {rc : Nat} (hb : cellH H ⟨b, o, none⟩ = some (.slice ra xs.length rc)) (hx : Rn H ra xs) (hlen : xs.length ≤ 1000000) :
    CallF Tryz.prog 16 [.slice (some ⟨b, o, none⟩) 1 c] H (fun v H' => v = iv (grt xs : Nat) ∧ H' = H) NoP := by
  refine callF_of Tryz.func16 rfl Tryz.ntmps16 Tryz.results16 (by decide) rfl ?_
  simp (disch := omega) only [go_sem, ↓cw_block, dsB_of]
  refine loop_by (fun j ρ H1 => ∃ i : Nat, j = 1 - i ∧ i ≤ 1 ∧ (ρ.get 8 = .slice (some ⟨b, o, none⟩) 1 c ∧ ρ.get 9 = iv 1 ∧ ρ.get 10 = iv i ∧ ρ.get 3 = iv ((if i = 0 then 0 else grt xs : Nat) : Int) ∧ ρ.ds = []) ∧ H1 = H) (k := 1) ?_ ?_
  · exact ⟨0, rfl, by omega, by simp (disch := omega) only [go_sem, ↓cw_block, dsB_of]; rfl, rfl⟩
  · rintro _ ρ H1 ⟨i, rfl, hi, ⟨r8, r9, r10, r3, rd⟩, e⟩
    subst H1
    by_cases h1 : i = 1
    · subst h1
      simp (disch := omega) only [go_sem, ↓cw_block, dsB_of, r8, r9, r10, r3, rd, dsB_of]
      exact fin ⟨rfl, rfl⟩
    · have h0 : i = 0 := by omega
      subst h0
      rw [if_pos rfl] at r3
      have r10' : ρ.get 10 = iv 0 := r10
      have r3' : ρ.get 3 = iv 0 := r3
      have hb' : cellH H ⟨b, o + 0, none⟩ = some (.slice ra xs.length rc) := hb
      simp (disch := omega) only [go_sem, dsB_of, r8, r9, r10', r3', hb, hb']
      refine cut_at (fun ρ H1 => (ρ.get 8 = .slice (some ⟨b, o, none⟩) 1 c ∧ ρ.get 9 = iv 1 ∧ ρ.get 10 = iv 0 ∧ ρ.get 3 = iv (grt xs : Nat) ∧ ρ.ds = []) ∧ H1 = H) ?_ ?_
      · simp (disch := omega) only [go_sem, ↓cw_block, dsB_of, r8, r9, r10', r3', hb, hb']
        refine loop_by (fun j ρ H1 => ∃ i : Nat, j = xs.length - i ∧ i ≤ xs.length ∧ (ρ.get 8 = .slice (some ⟨b, o, none⟩) 1 c ∧ ρ.get 9 = iv 1 ∧ ρ.get 10 = iv 0 ∧ ρ.get 14 = .slice ra xs.length rc ∧ ρ.get 15 = iv xs.length ∧ ρ.get 16 = iv i ∧ ρ.get 3 = iv (grt (xs.take i) : Nat) ∧ ρ.ds = []) ∧ H1 = H) (k := xs.length) ?_ ?_
        · exact ⟨0, rfl, by omega, by simp (disch := omega) only [go_sem, ↓cw_block, dsB_of, r8, r9, r10', r3', rd]; rfl, rfl⟩
        · rintro _ ρ H1 ⟨i, rfl, hi, ⟨r8, r9, r10, r14, r15, r16, r3, rd⟩, e⟩
          subst H1
          by_cases hie : i = xs.length
          · subst hie
            rw [List.take_length] at r3
            simp (disch := omega) only [go_sem, ↓cw_block, dsB_of, r8, r9, r10, r14, r15, r16, r3, rd]
            exact fin ⟨by simp (disch := omega) only [go_sem, ↓cw_block, dsB_of, r8, r9, r10, r14, r15, r16, r3, rd], rfl⟩
          · obtain ⟨x, hxi⟩ : ∃ x, xs[i]? = some x := ⟨_, List.getElem?_eq_getElem (by omega)⟩
            obtain ⟨b', o', e, kx⟩ := hx i x hxi
            subst e
            have hi1 : (i : Int) + 1 = ((i + 1 : Nat) : Int) := by omega
            have htk : xs.take (i + 1) = xs.take i ++ [x] := by rw [List.take_add_one, hxi]; rfl
            have hgt := grt_add (l := xs.take i) (x := x)
            rw [← htk] at hgt
            simp (disch := omega) only [go_sem, ↓cw_block, dsB_of, r8, r9, r10, r14, r15, r16, r3, rd, kx]
            refine call_to cLit_spec ?_
            rintro v H2 ⟨rfl, e⟩
            subst H2
            cases hl : litB x with
            | true =>
              rw [hl, if_pos rfl] at hgt
              simp (disch := omega) only [go_sem, ↓cw_block, dsB_of, r3]
              refine call_to (cVar_spec (litB_le hl)) ?_
              rintro v H2 ⟨rfl, e⟩
              subst H2
              have hmx : max ((grt (xs.take i) : Nat) : Int) ((x.natAbs : Nat) : Int) = ((grt (xs.take (i + 1)) : Nat) : Int) := by rw [hgt]; omega
              simp (disch := omega) only [go_sem, ↓cw_block, dsB_of, r3, hmx, r16]
              exact fin ⟨xs.length - (i + 1), by omega, i + 1, rfl, by omega, by simp (disch := omega) only [go_sem, ↓cw_block, dsB_of, r8, r9, r10, r14, r15, r16, r3, rd, hi1], rfl⟩
            | false =>
              rw [hl, if_neg (by simp)] at hgt
              rw [← hgt] at r3
              simp (disch := omega) only [go_sem, ↓cw_block, dsB_of, r3, r16]
              exact fin ⟨xs.length - (i + 1), by omega, i + 1, rfl, by omega, by simp (disch := omega) only [go_sem, ↓cw_block, dsB_of, r8, r9, r10, r14, r15, r16, r3, rd, hi1], rfl⟩
      · rintro ρ H1 ⟨⟨r8, r9, r10, r3, rd⟩, e⟩
        subst H1
        simp (disch := omega) only [go_sem, ↓cw_block, dsB_of, r8, r9, r10, r3, rd]
        exact fin ⟨0, by omega, 1, rfl, by omega, by simp (disch := omega) only [go_sem, ↓cw_block, dsB_of, r8, r9, r10, r3, rd]; rfl, rfl⟩
theorem NF.cn {xs ys : List Int} {idle : Bool} (h : NF xs ys idle) (hl : xs.all litB = true) (hg : grt xs ≤ n) : CN n ys := by
  rw [List.all_eq_true] at hl
  refine ⟨fun x hx => ?_, h.str⟩
  have hm := (h.mem x).1 hx
  exact ⟨litB_ne (hl x hm), grt_le.1 hg x hm (hl x hm)⟩
set_option maxHeartbeats 4000000 in
theorem sAdd_spec (h : SV H ow p n k f) {a : Option Addr} {xs : List Int} {c : Nat} (hx : Rn H a xs) (hlen : xs.length ≤ 1000) (hgl : f.gl.length ≤ 30000) :
    CallF Tryz.prog 6 [hp p, .slice a xs.length c] H (fun v H' => (¬ (xs.all litB = true ∧ grt xs ≤ n) ∧ v = iv 2 ∧ Fr [] H H') ∨ (xs.all litB = true ∧ grt xs ≤ n ∧ v = iv 0 ∧ ∃ ow' f' ys idle, SV H' ow' p n k f' ∧ Ex H ow H' ow' ∧ NF xs ys idle ∧ f'.gl = f.gl ++ [ys] ∧ f'.loaded = f.loaded ∧ f'.dead = f.dead ∧ f'.rounds = f.rounds ∧ f'.ls = f.ls ∧ ∀ u, Bd f u → Bd f' u)) NoP := by
  have hm := h.sd.sb.m
  have hn := h.sd.sb.n
  have c0 : cellH H ⟨p, 0, none⟩ = some (iv n) := hm.c 0
  have b1 : ∀ (Hx : Heap) (a' : Option Addr) (l' c' : Nat), buildSliceV Tryz.prog Hx 33 1 [(0, .slice a' l' c')] = some (.slice (some ⟨Hx.size, 0, none⟩) 1 1, Hx.push (.cells #[.slice a' l' c'] 30)) := fun Hx a' l' c' => bs_one T.elem33 T.size30 T.zero30 rfl
  obtain ⟨hl, hhl⟩ : ∃ hl : List (Addr × Value), hl = [(⟨p, 0, none⟩, iv n)] := ⟨_, rfl⟩
  have hok : heldOK hl H := by rw [hhl]; exact heldOK_one c0
  have l0 : lookA hl ⟨p, 0, none⟩ = some (iv n) := by rw [hhl]; exact lookA_eq
  obtain ⟨ga, gc, eg⟩ := hm.given.form
  have hng := hm.ng
  have c1 : cellH H ⟨p, 1, none⟩ = some (.slice ga f.gs.length gc) := by rw [← eg]; exact hm.c 1
  refine callF_of Tryz.func6 rfl Tryz.ntmps6 Tryz.results6 (by decide) rfl ?_
  simp (disch := omega) only [go_sem, ↓cw_block, dsB_of]
  refine draw1 (lk [(0, true)] (.act 1 (lk [(2, true), (3, true), (4, true), (7, false), (8, false), (9, false), (10, false)] (.act 5 (.act 6 (lk [(11, true), (12, true)] .fin) .non) .non)) .non)) T.mixed hl hok ?_
  simp (disch := omega) only [go_sem, ↓cw_block, dsB_of, l0]
  refine call_to (cRight_spec hx (by omega)) ?_
  rintro v H1 ⟨rfl, e⟩
  subst H1
  refine held_by hok ?_
  cases hall : xs.all litB with
  | false =>
    simp (disch := omega) only [go_sem, ↓cw_block, dsB_of, l0]
    refine held_by hok ?_
    simp (disch := omega) only [go_sem, ↓cw_block, dsB_of, l0]
    refine held_by hok ?_
    simp (disch := omega) only [go_sem, ↓cw_block, dsB_of, l0, dsB_of]
    exact fin (.inl ⟨by simp, rfl, Fr.refl _ _⟩)
  | true =>
    obtain ⟨H1, hH1⟩ : ∃ H1, H.push (.cells #[.slice a xs.length c] 30) = H1 := ⟨_, rfl⟩
    have f1 : Fr [] H H1 := by rw [← hH1]; exact Fr.push
    have k1 : cellH H1 ⟨H.size, 0, none⟩ = some (.slice a xs.length c) := by
      have : Blk H1 H.size 30 [.slice a xs.length c] := by rw [← hH1]; exact Blk.new rfl
      rw [this.cell]; rfl
    have m1 := hm.out f1 (by simp)
    have x1 := hx.frame f1 (by simp)
    have hok1 : heldOK hl H1 := by rw [hhl]; exact heldOK_one (m1.c 0)
    simp (disch := omega) only [go_sem, ↓cw_block, dsB_of, l0, b1]
    rw [hH1]
    refine held_by hok1 ?_
    simp (disch := omega) only [go_sem, ↓cw_block, dsB_of, l0]
    refine call_to (cGreatest_spec (c := 1) k1 x1 (by omega)) ?_
    rintro v H2 ⟨rfl, e⟩
    subst H2
    refine held_by hok1 ?_
    by_cases hg : grt xs ≤ n
    · have c1' : cellH H1 ⟨p, 1, none⟩ = some (.slice ga f.gs.length gc) := by rw [← eg]; exact m1.c 1
      simp (disch := omega) only [go_sem, ↓cw_block, dsB_of, l0, c1']
      refine call_to (cNorm_spec x1 (List.all_eq_true.1 hall) (by omega)) ?_
      rintro v H2 ⟨f2, w, ys, idle, rfl, v2, o2, hnf⟩
      have m2 := m1.out f2 (by simp)
      have e02 : Ex H ow H2 ow := (Ex.of (Sm.of (R := fun _ => False) f1 (by simp)) (by simp) : Ex H ow H1 ow).trans (Ex.of (Sm.of (R := fun _ => False) f2 (by simp)) (by simp))
      have c1'' : cellH H2 ⟨p, 1, none⟩ = some (.slice ga f.gs.length gc) := by rw [← eg]; exact m2.c 1
      obtain ⟨wa, wc, ew⟩ : ∃ a c, w = .slice a ys.length c := by
        obtain ⟨a, len, c, rfl, e⟩ := v2.len
        rw [List.length_map, Nat.mul_one] at e; subst e
        exact ⟨a, c, rfl⟩
      subst ew
      obtain ⟨ow3, how3⟩ : ∃ ow3 : Nat → Nat, ∀ b, ow3 b = if b ∈ own (Value.slice wa ys.length wc) then 17 else ow b := ⟨_, fun _ => rfl⟩
      have hz : ∀ b ∈ own (Value.slice wa ys.length wc), ow b = 0 := fun b hb => m1.free (o2 b hb)
      have m3 := m2.adopt (ow' := ow3) (fun b hb => by
        rw [how3, if_neg (fun e => hb (hz b e))]) (fun b hb => by
        rw [how3] at hb
        split at hb
        · exact v2.lt b ‹_›
        · exact m2.lo b hb)
      have e03 : Ex H ow H2 ow3 := e02.reow (fun b hb => by
        have hb' : b ∉ own (Value.slice wa ys.length wc) := fun e => by have h2 : H1.size ≤ b := o2 b e; have := f1.size; omega
        rw [how3, if_neg hb'])
      have v3 : VR H2 ow3 17 3 1 (.slice wa ys.length wc) (ys.map iv) := ⟨v2, fun b hb => by rw [how3, if_pos hb]⟩
      simp (disch := omega) only [go_sem, ↓cw_block, dsB_of, c1'', b1]
      refine app_lit1 T.el33 rfl (by rw [← eg]; exact m3.given.vec) rfl (by omega) ?_
      intro v' H4 g1 g2 g3 g4
      obtain ⟨a', c', rfl⟩ := g4
      rw [← eg] at g2 g3
      have hgg : ∀ (i : Nat) (v : Value) (q : List Int), (f.gs ++ [.slice wa ys.length wc])[i]? = some v → (f.gl ++ [ys])[i]? = some q → VR H2 ow3 17 3 1 v (q.map iv) := by
        intro i v q h1 h2
        rcases Nat.lt_trichotomy i f.gs.length with hlt | he | hgt
        · rw [List.getElem?_append_left hlt] at h1
          rw [List.getElem?_append_left (by omega)] at h2
          exact m3.gcl i v q h1 h2
        · subst he
          rw [List.getElem?_append_right (Nat.le_refl _), Nat.sub_self] at h1
          rw [hng, List.getElem?_append_right (Nat.le_refl _), Nat.sub_self] at h2
          have e1 := Option.some.inj h1
          have e2 := Option.some.inj h2
          subst e1; subst e2
          exact v3
        · rw [List.getElem?_eq_none (by simp; omega)] at h1; cases h1
      obtain ⟨m4, e4, b4⟩ := m3.appGiven (l := f.gs ++ [.slice wa ys.length wc]) (gg := f.gl ++ [ys]) hgg (by simp [hng]) g1 g2 g3
      have w4 := b4.wr (i := 1) (by simp [scells]) (.slice a' (f.gs.length + 1) c')
      obtain ⟨H5, w5, (m5 : RM _ _ _ _ _ _), e5⟩ := m4.putModel (.slice none 0 0)
      obtain ⟨H6, w6, (m6 : RM _ _ _ _ _ _), e6⟩ := m5.putCore (.slice none 0 0)
      simp (disch := omega) only [go_sem, ↓cw_block, dsB_of, w4, w5, w6, dsB_of]
      refine fin (.inr ⟨rfl, hg, rfl, _, _, ys, idle, ⟨⟨⟨m6, ⟨h.sd.sb.r.vals, h.sd.sb.r.lv⟩, h.sd.sb.inv, h.sd.sb.wi, h.sd.sb.le, h.sd.sb.hin, h.sd.sb.sn, h.sd.sb.stp, h.sd.sb.n⟩, h.sd.st, fun hd => ?_, fun hd => ?_⟩, ?_, ?_⟩, ((e03.trans e4).trans e5).trans e6, hnf, rfl, rfl, rfl, rfl, rfl, fun u hb => ⟨hb.conf, hb.lrn, hb.ls, hb.C, hb.room⟩⟩)
      · show SI n f.s f.C f.w (gcode ((f.gl ++ [ys]).take f.loaded)) f.head
        rw [List.take_append_of_le_length h.ld]; exact h.sd.ok hd
      · show ∀ m, Mdl m → ¬ AllB m (gcode ((f.gl ++ [ys]).take f.loaded))
        rw [List.take_append_of_le_length h.ld]; exact h.sd.no hd
      · intro z hz
        rcases List.mem_append.1 (show z ∈ f.gl ++ [ys] from hz) with hz | hz
        · exact h.cn z hz
        · have := List.mem_singleton.1 hz; subst this
          exact hnf.cn hall hg
      · show f.loaded ≤ (f.gl ++ [ys]).length
        have := h.ld
        simp; omega
    · simp (disch := omega) only [go_sem, ↓cw_block, dsB_of, l0, dsB_of]
      exact fin (.inl ⟨fun e => hg e.2, rfl, f1⟩)
end
end Go.Proofs.YthghkhpclemmlaaGreat

namespace Go.Proofs.YthghkhpclemmlaaGreat
open Go.HL HM Go.Sat
set_option maxRecDepth 10000
set_option linter.unusedSimpArgs false
set_option linter.unusedVariables false

section
variable {H : Heap}
theorem rLiteral_spec {x : Int} : CallF Tryz.prog 47 [iv x] H (fun v H' => v = .bool (litB x) ∧ H' = H) NoP := by
  unfold litB
  refine callF_of Tryz.func47 rfl Tryz.ntmps47 Tryz.results47 (by decide) rfl ?_
  by_cases h0 : x = 0
  · subst h0
    simp (disch := omega) only [go_sem, ↓cw_block, dsB_of]
    exact fin ⟨by simp, rfl⟩
  · by_cases h1 : -100000 ≤ x
    · by_cases h2 : x ≤ 100000
      · simp (disch := omega) only [go_sem, ↓cw_block, dsB_of]
        exact fin ⟨by simp [h0, h1, h2], rfl⟩
      · simp (disch := omega) only [go_sem, ↓cw_block, dsB_of]
        exact fin ⟨by simp [h0, h1, h2], rfl⟩
    · simp (disch := omega) only [go_sem, ↓cw_block, dsB_of]
      exact fin ⟨by simp [h0, h1], rfl⟩
theorem rAbs_spec {x : Int} (hx : -100000 ≤ x ∧ x ≤ 100000) : CallF Tryz.prog 48 [iv x] H (fun v H' => v = iv (x.natAbs : Nat) ∧ H' = H) NoP := by
  refine callF_of Tryz.func48 rfl Tryz.ntmps48 Tryz.results48 (by decide) rfl ?_
  by_cases h : x < 0
  · simp (disch := omega) only [go_sem, ↓cw_block, dsB_of]
    exact fin ⟨by rw [show ((x.natAbs : Nat) : Int) = -x by omega], rfl⟩
  · simp (disch := omega) only [go_sem, ↓cw_block, dsB_of]
    exact fin ⟨by rw [show ((x.natAbs : Nat) : Int) = x by omega], rfl⟩
theorem rRight_spec {a : Option Addr} {xs : List Int} {c : Nat} (hx : Rn H a xs) (hlen : xs.length ≤ 1000000) : CallF Tryz.prog 49 [.slice a xs.length c] H (fun v H' => v = .bool (xs.all litB) ∧ H' = H) NoP := by
  refine callF_of Tryz.func49 rfl Tryz.ntmps49 Tryz.results49 (by decide) rfl ?_
  simp (disch := omega) only [go_sem, ↓cw_block, dsB_of]
  refine loop_by (fun j ρ H1 => ∃ i : Nat, j = xs.length - i ∧ i ≤ xs.length ∧ (ρ.get 0 = .slice a xs.length c ∧ ρ.get 3 = iv i ∧ ρ.ds = []) ∧ H1 = H ∧ (xs.take i).all litB = true) (k := xs.length) ?_ ?_
  · exact ⟨0, rfl, by omega, by simp (disch := omega) only [go_sem, ↓cw_block, dsB_of], rfl, by simp⟩
  · rintro _ ρ H1 ⟨i, rfl, hi, ⟨r0, r3, rd⟩, e, hall⟩
    subst H1
    by_cases hie : i = xs.length
    · subst hie
      rw [List.take_length] at hall
      simp (disch := omega) only [go_sem, ↓cw_block, dsB_of, r0, r3, rd, dsB_of]
      exact fin ⟨by rw [hall], rfl⟩
    · obtain ⟨x, hxi⟩ : ∃ x, xs[i]? = some x := ⟨_, List.getElem?_eq_getElem (by omega)⟩
      obtain ⟨b', o', e, kx⟩ := hx i x hxi
      subst e
      have hi1 : (i : Int) + 1 = ((i + 1 : Nat) : Int) := by omega
      have htk : xs.take (i + 1) = xs.take i ++ [x] := by rw [List.take_add_one, hxi]; rfl
      simp (disch := omega) only [go_sem, ↓cw_block, dsB_of, r0, r3, rd, kx]
      refine call_to rLiteral_spec ?_
      rintro v H2 ⟨rfl, e⟩
      subst H2
      cases hl : litB x with
      | true =>
        simp (disch := omega) only [go_sem, ↓cw_block, dsB_of, r3]
        exact fin ⟨xs.length - (i + 1), by omega, i + 1, rfl, by omega, by simp (disch := omega) only [go_sem, ↓cw_block, dsB_of, r0, r3, rd, hi1], rfl, by rw [htk, List.all_append, hall]; simp [hl]⟩
      | false =>
        simp (disch := omega) only [go_sem, ↓cw_block, dsB_of, r3, rd, dsB_of]
        refine fin ⟨?_, rfl⟩
        have : xs.all litB = false := by
          rw [List.all_eq_false]
          exact ⟨x, List.mem_of_getElem? hxi, by simp [hl]⟩
        rw [this]
/-- A matrix of numbers that can be read, below some block. -/
structure RL (N : Nat) (H : Heap) (a : Option Addr) (css : List (List Int)) : Prop where
  ex : ∀ (i : Nat) (c : List Int), css[i]? = some c → ∃ b o ra rc, a = some ⟨b, o, none⟩ ∧ b < N ∧ cellH H ⟨b, o + i, none⟩ = some (.slice ra c.length rc) ∧ Rn H ra c ∧ (c ≠ [] → ∀ b' o', ra = some ⟨b', o', none⟩ → b' < N)
theorem cell_same {H' : Heap} {b o : Nat} {v : Value} (hs : H'[b]? = H[b]?) (h : cellH H ⟨b, o, none⟩ = some v) : cellH H' ⟨b, o, none⟩ = some v := by
  unfold cellH at h ⊢
  rw [hs]; exact h
theorem Rn.same {H' : Heap} {N : Nat} {a : Option Addr} {xs : List Int} (h : Rn H a xs) (hN : xs ≠ [] → ∀ b o, a = some ⟨b, o, none⟩ → b < N) (hs : ∀ b, b < N → H'[b]? = H[b]?) : Rn H' a xs := fun i x hi => by
  obtain ⟨b, o, e, hc⟩ := h i x hi
  exact ⟨b, o, e, cell_same (hs b (hN (fun e0 => by rw [e0] at hi; simp at hi) b o e)) hc⟩
theorem RL.same {H' : Heap} {N : Nat} {a : Option Addr} {css : List (List Int)} (h : RL N H a css) (hs : ∀ b, b < N → H'[b]? = H[b]?) : RL N H' a css := ⟨fun i c hi => by
  obtain ⟨b, o, ra, rc, e, hb, hc, hr, hn⟩ := h.ex i c hi
  exact ⟨b, o, ra, rc, e, hb, cell_same (hs b hb) hc, hr.same hn hs, hn⟩⟩
end
end Go.Proofs.YthghkhpclemmlaaGreat

namespace Go.Proofs.YthghkhpclemmlaaGreat
open Go.HL HM Go.Sat
set_option maxRecDepth 10000
set_option linter.unusedSimpArgs false
set_option linter.unusedVariables false

section
variable {H : Heap} {N n : Nat}
def smallB (css : List (List Int)) (most vars : Nat) : Bool := decide (css.length ≤ most) && css.all fun r => decide (r.length ≤ 30) && decide (grt r ≤ vars)
/-- Clauses in their normal forms, one by one. -/
structure NFs (css : List (List Int)) (gl : List (List Int)) : Prop where
  len : gl.length = css.length
  nf : ∀ (i : Nat) (c g : List Int), css[i]? = some c → gl[i]? = some g → ∃ idle, NF c g idle
theorem NFs.nil : NFs [] [] := ⟨rfl, fun i c g h => by simp at h⟩
theorem NFs.add {css gl : List (List Int)} (h : NFs css gl) {c g : List Int} {idle : Bool} (hn : NF c g idle) : NFs (css ++ [c]) (gl ++ [g]) := by
  refine ⟨by simp [h.len], fun i c' g' h1 h2 => ?_⟩
  rcases Nat.lt_trichotomy i css.length with hlt | he | hgt
  · rw [List.getElem?_append_left hlt] at h1
    rw [List.getElem?_append_left (by rw [h.len]; exact hlt)] at h2
    exact h.nf i c' g' h1 h2
  · subst he
    rw [List.getElem?_append_right (Nat.le_refl _), Nat.sub_self] at h1
    rw [← h.len, List.getElem?_append_right (Nat.le_refl _), Nat.sub_self] at h2
    have e1 := Option.some.inj h1
    have e2 := Option.some.inj h2
    subst e1; subst e2
    exact ⟨idle, hn⟩
  · rw [List.getElem?_eq_none (by simp; omega)] at h1; cases h1
/-- What a model makes of clauses. -/
def Sats (m : Nat → Bool) (css : List (List Int)) : Prop := ∀ c ∈ css, ∃ x ∈ c, m (codeN x) = true
theorem NFs.sat {css gl : List (List Int)} (h : NFs css gl) {m : Nat → Bool} : AllB m (gcode gl) ↔ Sats m css := by
  unfold AllB Sats gcode
  constructor
  · intro ha c hc
    obtain ⟨i, hi⟩ := List.getElem?_of_mem hc
    have hl := (List.getElem?_eq_some_iff.1 hi).1
    obtain ⟨g, hg⟩ : ∃ g, gl[i]? = some g := ⟨_, List.getElem?_eq_getElem (by rw [h.len]; exact hl)⟩
    obtain ⟨idle, hn⟩ := h.nf i c g hi hg
    obtain ⟨y, hy, hm⟩ := ha (g.map codeN) (by rw [List.mem_reverse]; exact List.mem_map.2 ⟨g, List.mem_of_getElem? hg, rfl⟩)
    obtain ⟨x, hx, rfl⟩ := List.mem_map.1 hy
    exact ⟨x, (hn.mem x).1 hx, hm⟩
  · intro hs g' hg'
    rw [List.mem_reverse] at hg'
    obtain ⟨g, hg, rfl⟩ := List.mem_map.1 hg'
    obtain ⟨i, hi⟩ := List.getElem?_of_mem hg
    have hl := (List.getElem?_eq_some_iff.1 hi).1
    obtain ⟨c, hc⟩ : ∃ c, css[i]? = some c := ⟨_, List.getElem?_eq_getElem (by rw [← h.len]; exact hl)⟩
    obtain ⟨idle, hn⟩ := h.nf i c g hc hi
    obtain ⟨x, hx, hm⟩ := hs c (List.mem_of_getElem? hc)
    exact ⟨codeN x, List.mem_map.2 ⟨x, (hn.mem x).2 hx, rfl⟩, hm⟩
end
end Go.Proofs.YthghkhpclemmlaaGreat

namespace Go.Proofs.YthghkhpclemmlaaGreat
open Go.HL HM Go.Sat
set_option maxRecDepth 10000
set_option linter.unusedSimpArgs false
set_option linter.unusedVariables false

section
variable {H : Heap} {ow : Nat → Nat} {p n : Nat} {k : Bk} {f : Cf}
theorem sCore_spec (h : RM H ow p n k f) {ys : List Int} (hv : Vec H 3 1 f.core (ys.map iv)) (hl : ys.length ≤ 1000000) : CallF Tryz.prog 12 [hp p] H (fun v H' => Fr [] H H' ∧ Vec H' 3 1 v (ys.map iv) ∧ ∀ b ∈ own v, H.size ≤ b) NoP := by
  have c6 : cellH H ⟨p, 6, none⟩ = some f.core := h.c 6
  obtain ⟨a, len, c, e, -⟩ := hv.len
  rw [e] at c6
  refine callF_of Tryz.func12 rfl Tryz.ntmps12 Tryz.results12 (by decide) rfl ?_
  simp (disch := omega) only [go_sem, ↓cw_block, dsB_of, c6]
  rw [← e]
  refine call_to (cloneI_spec hv (by simp [oneC]) (by rw [List.length_map]; exact hl)) ?_
  rintro v H1 ⟨f1, v1, o1⟩
  simp (disch := omega) only [go_sem, ↓cw_block, dsB_of, dsB_of]
  exact fin ⟨f1, v1, o1⟩
theorem sModel_spec (h : RM H ow p n k f) {md : List Bool} (hv : Vec H 4 1 f.model (md.map Value.bool)) (hl : md.length ≤ 1000000) : CallF Tryz.prog 10 [hp p] H (fun v H' => Fr [] H H' ∧ Vec H' 4 1 v (md.map Value.bool) ∧ ∀ b ∈ own v, H.size ≤ b) NoP := by
  have c5 : cellH H ⟨p, 5, none⟩ = some f.model := h.c 5
  obtain ⟨a, len, c, e, -⟩ := hv.len
  rw [e] at c5
  refine callF_of Tryz.func10 rfl Tryz.ntmps10 Tryz.results10 (by decide) rfl ?_
  simp (disch := omega) only [go_sem, ↓cw_block, dsB_of, c5]
  rw [← e]
  refine call_to (cloneB_spec hv (fun u hu => by obtain ⟨b, -, rfl⟩ := List.mem_map.1 hu; rfl) (by rw [List.length_map]; exact hl)) ?_
  rintro v H1 ⟨f1, v1, o1⟩
  simp (disch := omega) only [go_sem, ↓cw_block, dsB_of, dsB_of]
  exact fin ⟨f1, v1, o1⟩
set_option maxHeartbeats 1000000 in
theorem sClauses_spec (h : RM H ow p n k f) (hl : f.gl.length ≤ 100000) (hr : ∀ g ∈ f.gl, g.length ≤ 1000000) : CallF Tryz.prog 9 [hp p] H (fun v H' => Fr [] H H' ∧ ∃ a c, v = .slice a f.gl.length c) NoP := by
  have hng := h.ng
  obtain ⟨a, c, ef⟩ := h.given.form
  have c1 : cellH H ⟨p, 1, none⟩ = some (.slice a f.gs.length c) := by rw [← ef]; exact h.c 1
  have b1 : ∀ (Hx : Heap) (a' : Option Addr) (l' c' : Nat), buildSliceV Tryz.prog Hx 33 1 [(0, .slice a' l' c')] = some (.slice (some ⟨Hx.size, 0, none⟩) 1 1, Hx.push (.cells #[.slice a' l' c'] 30)) := fun Hx a' l' c' => bs_one T.elem33 T.size30 T.zero30 rfl
  obtain ⟨G, hG⟩ : ∃ G, H.push (.cells (List.replicate f.gs.length (.slice none 0 0)).toArray 30) = G := ⟨_, rfl⟩
  have f0 : Fr [] H G := by rw [← hG]; exact Fr.push
  have vG : Vec G 30 1 (.slice (some ⟨H.size, 0, none⟩) 0 f.gs.length) [] := ⟨.inr ⟨H.size, 0, f.gs.length, [], List.replicate f.gs.length (.slice none 0 0), rfl, by rw [← hG]; exact Blk.new rfl, rfl, by simp, by omega⟩⟩
  have c1G : cellH G ⟨p, 1, none⟩ = some (.slice a f.gs.length c) := by rw [← ef]; exact (h.out f0 (by simp)).c 1
  refine callF_of Tryz.func9 rfl Tryz.ntmps9 Tryz.results9 (by decide) rfl ?_
  simp (disch := omega) only [go_sem, ↓cw_block, dsB_of, c1]
  rw [hG]
  simp (disch := omega) only [go_sem, ↓cw_block, dsB_of, c1G]
  refine loop_by (fun j ρ H1 => ∃ (i : Nat) (wv : Value) (l : List Value), j = f.gs.length - i ∧ i ≤ f.gs.length ∧ (ρ.get 3 = wv ∧ ρ.get 15 = .slice a f.gs.length c ∧ ρ.get 16 = iv f.gs.length ∧ ρ.get 17 = iv i ∧ ρ.ds = []) ∧ Fr [] H H1 ∧ Vec H1 30 1 wv l ∧ l.length = i ∧ ∀ b ∈ own wv, H.size ≤ b) (k := f.gs.length) ?_ ?_
  · exact ⟨0, _, [], rfl, by omega, by simp (disch := omega) only [go_sem, ↓cw_block, dsB_of], f0, vG, rfl, by simp [own]⟩
  · rintro _ ρ H1 ⟨i, wv, l, rfl, hi, ⟨r3, r15, r16, r17, rd⟩, f1, v1, hl1, o1⟩
    by_cases hie : i = f.gs.length
    · subst hie
      obtain ⟨wa, wc, ew⟩ : ∃ a c, wv = .slice a l.length c := by
        obtain ⟨a, len, c, rfl, e⟩ := v1.len
        rw [Nat.mul_one] at e; subst e
        exact ⟨a, c, rfl⟩
      simp (disch := omega) only [go_sem, ↓cw_block, dsB_of, r3, r15, r16, r17, rd, dsB_of]
      exact fin ⟨f1, wa, wc, by rw [ew, hl1, hng]⟩
    · obtain ⟨v, hv⟩ : ∃ v, f.gs[i]? = some v := ⟨_, List.getElem?_eq_getElem (by omega)⟩
      obtain ⟨z, hz⟩ : ∃ z, f.gl[i]? = some z := ⟨_, List.getElem?_eq_getElem (by omega)⟩
      have m1 := h.out f1 (by simp)
      obtain ⟨b, o, cap, e, kv⟩ := vec_cell m1.given.vec hv
      rw [ef] at e
      simp only [Value.slice.injEq] at e
      obtain ⟨rfl, -, rfl⟩ := e
      have hzv := (m1.gcl i v z hv hz).vec
      obtain ⟨va, vl, vc, ev, -⟩ := hzv.len
      have hi1 : (i : Int) + 1 = ((i + 1 : Nat) : Int) := by omega
      rw [ev] at kv
      simp (disch := omega) only [go_sem, ↓cw_block, dsB_of, r3, r15, r16, r17, rd, kv]
      rw [← ev]
      refine call_to (cloneI_spec hzv (fun u hu => by obtain ⟨b, -, rfl⟩ := List.mem_map.1 hu; rfl) (by rw [List.length_map]; exact hr z (List.mem_of_getElem? hz))) ?_
      rintro r H2 ⟨f2, v2, o2⟩
      obtain ⟨ra, rl, rc, er, -⟩ := v2.len
      subst er
      simp (disch := omega) only [go_sem, ↓cw_block, dsB_of, r3, b1]
      refine app_lit1 T.el33 rfl (v1.frame f2 (by simp)) rfl (by omega) ?_
      intro v' H4 g1 g2 g3 g4
      simp (disch := omega) only [go_sem, ↓cw_block, dsB_of, r3, r15, r16, r17, rd]
      refine fin ⟨f.gs.length - (i + 1), by omega, i + 1, v', _, rfl, by omega, by simp (disch := omega) only [go_sem, ↓cw_block, dsB_of, r3, r15, r16, r17, rd, hi1], ⟨Nat.le_trans (Nat.le_trans f1.size f2.size) g2.size, fun q hq _ => ?_⟩, g1, by simp [hl1], fun q hq => ?_⟩
      · rw [g2.same q (by have := f1.size; have := f2.size; omega) (fun e => by have := o1 q e; omega), f2.same q (by have := f1.size; omega) (by simp), f1.same q hq (by simp)]
      · rcases g3 q hq with h | h
        · exact o1 q h
        · have := f1.size; have := f2.size; omega
end
end Go.Proofs.YthghkhpclemmlaaGreat

namespace Go.Proofs.YthghkhpclemmlaaGreat
open Go.HL HM Go.Sat
set_option maxRecDepth 10000
set_option linter.unusedSimpArgs false
set_option linter.unusedVariables false

section
variable {H : Heap} {ow : Nat → Nat} {p n : Nat} {k : Bk} {f : Cf}
set_option maxHeartbeats 1000000 in
theorem sProof1_spec (h : RM H ow p n k f) {w : Value} {ys : List Int} (hls : f.ls = [.bool false, w]) (hw : Vec H 3 1 w (ys.map iv)) (hl : ys.length ≤ 1000000) :
    CallF Tryz.prog 13 [hp p] H (fun v H' => Fr [] H H' ∧ ∃ b o c w', v = .slice (some ⟨b, o, none⟩) 1 c ∧ cellH H' ⟨b, o, none⟩ = some (.bool false) ∧ cellH H' ⟨b, o + 1, none⟩ = some w' ∧ Vec H' 3 1 w' (ys.map iv)) NoP := by
  have hv := h.lines.vec
  rw [hls] at hv
  obtain ⟨lb, lo, ll, lc, el, hll, hce⟩ := hv.cell (by simp)
  have hl1 : ll = 1 := by simp at hll; omega
  subst hl1
  have k0 : cellH H ⟨lb, lo, none⟩ = some (.bool false) := by have := hce 0 (by simp); simpa using this
  have k1 : cellH H ⟨lb, lo + 1, none⟩ = some w := by have := hce 1 (by simp); simpa using this
  have hlt : lb < H.size := hv.lt lb (by rw [el]; simp [own])
  have c3 : cellH H ⟨p, 3, none⟩ = some (.slice (some ⟨lb, lo, none⟩) 1 lc) := by rw [← el]; exact h.c 3
  obtain ⟨G, hG⟩ : ∃ G, H.push (.cells #[.bool false, .slice none 0 0] 42) = G := ⟨_, rfl⟩
  have f0 : Fr [] H G := by rw [← hG]; exact Fr.push
  have c3G : cellH G ⟨p, 3, none⟩ = some (.slice (some ⟨lb, lo, none⟩) 1 lc) := by rw [← el]; exact (h.out f0 (by simp)).c 3
  obtain ⟨wa, wl, wc, ew, -⟩ := hw.len
  subst ew
  refine callF_of Tryz.func13 rfl Tryz.ntmps13 Tryz.results13 (by decide) rfl ?_
  simp (disch := omega) only [go_sem, ↓cw_block, dsB_of, c3]
  have hmk : mkCells #[.bool false, .slice none 0 0] 2 = #[.bool false, .slice none 0 0] := by apply Array.ext'; simp [mkCells, List.range_succ]
  rw [hmk, hG]
  have vG : Vec G 42 2 (.slice (some ⟨H.size, 0, none⟩) 0 1) [] := ⟨.inr ⟨H.size, 0, 1, [], [.bool false, .slice none 0 0], rfl, by rw [← hG]; exact Blk.new rfl, rfl, by simp, by omega⟩⟩
  simp (disch := omega) only [go_sem, ↓cw_block, dsB_of, c3G]
  refine loop_by (fun j ρ H1 => ∃ (i : Nat) (wv : Value) (l : List Value), j = 1 - i ∧ i ≤ 1 ∧ (ρ.get 3 = wv ∧ ρ.get 15 = .slice (some ⟨lb, lo, none⟩) 1 lc ∧ ρ.get 16 = iv 1 ∧ ρ.get 17 = iv i ∧ ρ.ds = []) ∧ Fr [] H H1 ∧ Vec H1 42 2 wv l ∧ (∀ b ∈ own wv, H.size ≤ b) ∧ (i = 0 ∧ l = [] ∨ i = 1 ∧ ∃ w', l = [.bool false, w'] ∧ Vec H1 3 1 w' (ys.map iv))) (k := 1) ?_ ?_
  · exact ⟨0, _, [], rfl, by omega, by simp (disch := omega) only [go_sem, ↓cw_block, dsB_of]; rfl, f0, vG, by simp [own], .inl ⟨rfl, rfl⟩⟩
  · rintro _ ρ H1 ⟨i, wv, l, rfl, hi, ⟨r3, r15, r16, r17, rd⟩, f1, v1, o1, hor⟩
    rcases hor with ⟨rfl, rfl⟩ | ⟨rfl, w', rfl, vw⟩
    · have r17' : ρ.get 17 = iv 0 := r17
      have k0' : cellH H1 ⟨lb, lo, none⟩ = some (.bool false) := f1.cell' k0 (by simp)
      have k1' : cellH H1 ⟨lb, lo + 1, none⟩ = some (.slice wa wl wc) := f1.cell' k1 (by simp)
      obtain ⟨H2, hH2⟩ : ∃ H2, H1.push (.cells #[.bool false, .slice wa wl wc] 42) = H2 := ⟨_, rfl⟩
      have f2 : Fr [] H1 H2 := by rw [← hH2]; exact Fr.push
      have kb : Blk H2 H1.size 42 [.bool false, .slice wa wl wc] := by rw [← hH2]; exact Blk.new rfl
      have kb0 : cellH H2 ⟨H1.size, 0, none⟩ = some (.bool false) := by rw [kb.cell]; rfl
      have kb1 : cellH H2 ⟨H1.size, 1, none⟩ = some (.slice wa wl wc) := by rw [kb.cell]; rfl
      obtain ⟨hl, hhl⟩ : ∃ hl : List (Addr × Value), hl = [(⟨H1.size, 0, none⟩, .bool false)] := ⟨_, rfl⟩
      have hok : heldOK hl H2 := by rw [hhl]; exact heldOK_one kb0
      have l0 : lookA hl ⟨H1.size, 0, none⟩ = some (.bool false) := by rw [hhl]; exact lookA_eq
      simp (disch := omega) only [go_sem, ↓cw_block, dsB_of, r3, r15, r16, r17', rd, k0', k1', cellsH]
      rw [hH2]
      refine draw1 (lk [(0, false), (1, false), (2, false), (3, true), (4, true)] (.act 5 (lk [(6, true)] (.act 7 (.actd 8 (lk [(9, true)] .fin)) .non)) .non)) T.mixed hl hok ?_
      simp (disch := omega) only [go_sem, ↓cw_block, dsB_of, r3, l0, kb0, kb1]
      have f12 := f1.trans f2
      refine call_to (cloneI_spec (hw.frame f12 (by simp)) (fun u hu => by obtain ⟨b, -, rfl⟩ := List.mem_map.1 hu; rfl) (by rw [List.length_map]; assumption)) ?_
      rintro r H3 ⟨f3, v3, o3⟩
      have f13 := f12.trans f3
      obtain ⟨ra, rl, rc, er, -⟩ := v3.len
      subst er
      have hok3 : heldOK hl H3 := by rw [hhl]; exact heldOK_one (f3.cell' kb0 (by simp))
      have bl := build_of (P := Tryz.prog) (t := 42) (parts := [(0, .bool false), (1, .slice ra rl rc)]) (v := .agg #[.bool false, .slice ra rl rc])
        (by simp [buildL, T.places42, T.zero42, fillL, setR, chk, Value.cells])
      refine held_by hok3 ?_
      simp (disch := omega) only [go_sem, ↓cw_block, dsB_of, r3, l0, bl]
      refine held_by (by rw [hhl]; exact heldOK_one ((Fr.push (F := [])).cell' (f3.cell' kb0 (by simp)) (by simp))) ?_
      simp (disch := omega) only [go_sem, ↓cw_block, dsB_of, r3, l0]
      refine app_lit (n := 1) (new := [.bool false, .slice ra rl rc]) T.el39 rfl (v1.frame (f2.trans f3) (by simp)) (by simp [oneC]) rfl (by
        intro a' l c' e
        obtain ⟨a2, l2, c2, e2, hl2⟩ := v1.len
        rw [e2] at e
        simp only [Value.slice.injEq] at e
        simp at hl2
        omega) ?_
      intro v' H4 g1 g2 g3 g4
      simp (disch := omega) only [go_sem, ↓cw_block, dsB_of, r3, r15, r16, r17', rd]
      refine fin ⟨0, by omega, 1, v', _, rfl, by omega, by simp (disch := omega) only [go_sem, ↓cw_block, dsB_of, r3, r15, r16, r17', rd]; try rfl, ⟨Nat.le_trans f13.size g2.size, fun q hq _ => ?_⟩, g1, fun q hq => ?_, .inr ⟨rfl, _, rfl, v3.frame g2 (fun b hb hb2 => ?_)⟩⟩
      · rw [g2.same q (by have := f13.size; omega) (fun e => by have := o1 q e; omega), f13.same q hq (by simp)]
      · rcases g3 q hq with h | h
        · exact o1 q h
        · have := f13.size; omega
      · have h1 := o3 b hb
        have h2 := v1.lt b hb2
        have := f2.size
        omega
    · have r17' : ρ.get 17 = iv 1 := r17
      simp (disch := omega) only [go_sem, ↓cw_block, dsB_of, r3, r15, r16, r17', rd, dsB_of]
      obtain ⟨b, o, len, cap, e, h2, hc⟩ := v1.cell (by simp)
      have hl1 : len = 1 := by simp at h2; omega
      subst hl1
      exact fin ⟨f1, b, o, cap, w', e, by have := hc 0 (by simp); simpa using this, by have := hc 1 (by simp); simpa using this, vw⟩
end
end Go.Proofs.YthghkhpclemmlaaGreat

namespace Go.Sat
set_option linter.unusedVariables false
section
variable {n : Nat} {s : St} {C : List Nat} {w : Nat → List Nat} {G : List (List Nat)} {head : Nat}
/-- What is left of a clause follows. -/
theorem SI.force (h : SI n s C w G head) (hh : head = s.tr.length) {g : List Nat} (hg : g ∈ G) {x : Nat} (ht : ¬ ∃ y ∈ g, neg y ∈ g) (hx : ∀ y ∈ g, y = x ∨ neg y ∈ s.tr) : x ∈ s.tr := by
  rcases h.gi.cmp g hg with h1 | ⟨y, hy, i, hi, -⟩ | ⟨c, hc, hs⟩
  · exact absurd h1 ht
  · have hm := List.mem_of_getElem? hi
    rcases hx y hy with rfl | h2
    · exact hm
    · exact (h.inv.ok.clash hm h2).elim
  · obtain ⟨hl, hcd, hnd⟩ := h.wi.cl c hc
    have hw := (h.pi c hc).2 (by simp)
    match he : s.lits c, hl with
    | a :: b :: r, _ =>
      rw [he] at hs hnd
      obtain ⟨w1, w2⟩ := hw a b r he
      have hab : a ≠ b := by
        intro e
        subst e
        simp at hnd
      rcases hx a (hs a (by simp)) with e | ha
      · subst e
        rcases hx b (hs b (by simp)) with e | hb
        · exact absurd e.symm hab
        · obtain ⟨q, hq⟩ := List.getElem?_of_mem hb
          obtain ⟨j, hj, -⟩ := w2 q (by rw [hh]; exact (List.getElem?_eq_some_iff.1 hq).1) hq
          exact List.mem_of_getElem? hj
      · obtain ⟨q, hq⟩ := List.getElem?_of_mem ha
        obtain ⟨j, hj, -⟩ := w1 q (by rw [hh]; exact (List.getElem?_eq_some_iff.1 hq).1) hq
        have hm := List.mem_of_getElem? hj
        rcases hx b (hs b (by simp)) with e | hb
        · rw [← e]; exact hm
        · exact (h.inv.ok.clash hm hb).elim
end
end Go.Sat
namespace Go.Proofs.YthghkhpclemmlaaGreat
open Go.HL HM Go.Sat
set_option maxRecDepth 10000
set_option linter.unusedSimpArgs false
set_option linter.unusedVariables false

theorem rn_nil {H : Heap} : Rn H none [] := fun i x h => by simp at h
/-- A made slice of numbers. -/
theorem Rn.new {H : Heap} {xs : List Int} {t : Nat} : Rn (H.push (.cells (xs.map iv).toArray t)) (some ⟨H.size, 0, none⟩) xs := fun i x h => by
  have hb : Blk (H.push (.cells (xs.map iv).toArray t)) H.size t (xs.map iv) := Blk.new rfl
  refine ⟨H.size, 0, rfl, ?_⟩
  rw [hb.cell, Nat.zero_add, List.getElem?_map, h]; rfl
/-- The clauses of the example: their models, and what follows. -/
def mAw (x : Nat) : Bool := if x / 2 = 1 then x % 2 == 1 else x % 2 == 0
theorem mAw_mdl : Mdl mAw := ⟨fun x => by
  unfold mAw
  rw [neg_var]
  have h1 : (neg x) % 2 = 1 - x % 2 := by unfold neg; split <;> omega
  rw [h1]
  have : x % 2 = 0 ∨ x % 2 = 1 := by omega
  rcases this with e | e <;> rw [e] <;> split <;> rfl⟩
section
variable {s : St} {C : List Nat} {w : Nat → List Nat} {head : Nat} {css gl : List (List Int)}
theorem nfs_force {n : Nat} (h : SI n s C w (gcode gl) head) (hh : head = s.tr.length) (hn : NFs css gl) {c : List Int} (hc : c ∈ css) {x : Int} (hl : ∀ y ∈ c, y ≠ 0) (ht : ¬ ∃ y ∈ c, -y ∈ c) (hx : ∀ y ∈ c, y = x ∨ codeN (-y) ∈ s.tr) : codeN x ∈ s.tr := by
  obtain ⟨i, hi⟩ := List.getElem?_of_mem hc
  have hil := (List.getElem?_eq_some_iff.1 hi).1
  obtain ⟨g, hg⟩ : ∃ g, gl[i]? = some g := ⟨_, List.getElem?_eq_getElem (by rw [hn.len]; exact hil)⟩
  obtain ⟨idle, hnf⟩ := hn.nf i c g hi hg
  refine h.force hh (g := g.map codeN) (List.mem_reverse.2 (List.mem_map.2 ⟨g, List.mem_of_getElem? hg, rfl⟩)) ?_ ?_
  · rintro ⟨y, hy, hny⟩
    obtain ⟨z, hz, rfl⟩ := List.mem_map.1 hy
    obtain ⟨u, hu, e⟩ := List.mem_map.1 hny
    have hz0 := hl z ((hnf.mem z).1 hz)
    have hu0 := hl u ((hnf.mem u).1 hu)
    rw [codeN_neg hz0] at e
    have : u = -z := by
      unfold codeN at e
      split at e <;> split at e <;> omega
    exact ht ⟨z, (hnf.mem z).1 hz, by rw [← this]; exact (hnf.mem u).1 hu⟩
  · intro y hy
    obtain ⟨z, hz, rfl⟩ := List.mem_map.1 hy
    have hzc := (hnf.mem z).1 hz
    rcases hx z hzc with e | e
    · exact .inl (by rw [e])
    · exact .inr (by rw [codeN_neg (hl z hzc)]; exact e)
theorem aw_force {n : Nat} (h : SI n s C w (gcode gl) head) (hh : head = s.tr.length) (hn : NFs css gl) (h1 : [1, 2] ∈ css) (h2 : [-1] ∈ css) : 3 ∈ s.tr ∧ 4 ∈ s.tr := by
  have g3 : codeN (-1) ∈ s.tr := nfs_force h hh hn h2 (by simp) (by simp) (by simp)
  refine ⟨g3, nfs_force (x := 2) h hh hn h1 (by simp) (by simp) ?_⟩
  intro y hy
  simp only [List.mem_cons, List.not_mem_nil, or_false] at hy
  rcases hy with rfl | rfl
  · exact .inr g3
  · exact .inl rfl
theorem aw_full (h : SI 2 s C w (gcode gl) head) (hh : head = s.tr.length) (hn : NFs css gl) (h1 : [1, 2] ∈ css) (h2 : [-1] ∈ css) : s.tr.length = 2 := by
  obtain ⟨g3, g4⟩ := aw_force h hh hn h1 h2
  have hl := h.inv.ok.len
  match ht : s.tr with
  | [] => rw [ht] at g3; cases g3
  | [a] => rw [ht] at g3 g4; simp at g3 g4; omega
  | [a, b] => rfl
  | a :: b :: c :: r => rw [ht] at hl; simp at hl
end
end Go.Proofs.YthghkhpclemmlaaGreat

namespace Go.Proofs.YthghkhpclemmlaaGreat
open Go.HL HM Go.Sat
set_option maxRecDepth 10000
set_option linter.unusedSimpArgs false
set_option linter.unusedVariables false

section
variable {H : Heap}
theorem aw_m1 : Sats mAw [[1, 2], [-1]] := by
  intro c hc
  simp only [List.mem_cons, List.not_mem_nil, or_false] at hc
  rcases hc with rfl | rfl
  · exact ⟨2, by simp, rfl⟩
  · exact ⟨-1, by simp, rfl⟩
theorem aw_sat {m : Nat → Bool} (hm : Mdl m) {css : List (List Int)} (h : Sats m css) (h1 : [1, 2] ∈ css) (h2 : [-1] ∈ css) : m 2 = false ∧ m 4 = true := by
  obtain ⟨x, hx, hmx⟩ := h _ h2
  simp only [List.mem_cons, List.not_mem_nil, or_false] at hx
  subst hx
  have e3 : m 3 = true := hmx
  have e2 : m 3 = !m 2 := hm.neg 2
  have e2' : m 2 = false := by cases h : m 2 <;> simp [h] at e2 <;> simp_all
  refine ⟨e2', ?_⟩
  obtain ⟨y, hy, hmy⟩ := h _ h1
  simp only [List.mem_cons, List.not_mem_nil, or_false] at hy
  rcases hy with rfl | rfl
  · have : m 2 = true := hmy
    rw [e2'] at this; cases this
  · exact hmy
theorem b26 {Hx : Heap} {x : Int} : buildSliceV Tryz.prog Hx 30 1 [(0, iv x)] = some (.slice (some ⟨Hx.size, 0, none⟩) 1 1, Hx.push (.cells #[iv x] 3)) := bs_one T.elem30 T.size3 T.zero3 rfl
theorem b26_2 {Hx : Heap} {x y : Int} : buildSliceV Tryz.prog Hx 30 2 [(0, iv x), (1, iv y)] = some (.slice (some ⟨Hx.size, 0, none⟩) 2 2, Hx.push (.cells #[iv x, iv y] 3)) := bs_two T.elem30 T.size3 T.zero3 rfl rfl
/-- New memory beside a solver. -/
theorem SV.out {ow : Nat → Nat} {p n : Nat} {k : Bk} {f : Cf} {H' : Heap} (h : SV H ow p n k f) (hf : Fr [] H H') : SV H' ow p n k f :=
  ⟨⟨⟨h.sd.sb.m.out hf (by simp), h.sd.sb.r, h.sd.sb.inv, h.sd.sb.wi, h.sd.sb.le, h.sd.sb.hin, h.sd.sb.sn, h.sd.sb.stp, h.sd.sb.n⟩, h.sd.st, h.sd.ok, h.sd.no⟩, h.cn, h.ld⟩
theorem frOf {H1 H2 : Heap} {ow : Nat → Nat} {ow' : Nat → Nat} (h1 : Fr [] H H1) (ho : ∀ b, b < H.size → ow b = 0) (e : Ex H1 ow H2 ow') : Fr [] H H2 ∧ ∀ b, b < H.size → ow' b = 0 := by
  have := h1.size
  exact ⟨⟨Nat.le_trans h1.size e.sm.size, fun b hb _ => by rw [e.fr (by omega) (ho b hb)]; exact h1.same b hb (by simp)⟩, fun b hb => by rw [e.ow b (by omega)]; exact ho b hb⟩
set_option maxHeartbeats 4000000 in
theorem lAwake_spec : CallF Tryz.prog 4 [] H (fun v H' => v = .bool true ∧ Fr [] H H') NoP := by
  refine callF_of Tryz.func4 rfl Tryz.ntmps4 Tryz.results4 (by decide) rfl ?_
  simp (disch := omega) only [go_sem, ↓cw_block, dsB_of]
  refine call_to (sNew_spec (n := 2) (by omega)) ?_
  rintro v H1 ⟨f1, ow1, p, k, g1, rfl, o1, s1, gl1, ro1, bd1, dd1, ls1⟩
  obtain ⟨H2, hH2⟩ : ∃ H2, H1.push (.cells #[iv 1, iv 2] 3) = H2 := ⟨_, rfl⟩
  have f2 : Fr [] H1 H2 := by rw [← hH2]; exact Fr.push
  have x2 : Rn H2 (some ⟨H1.size, 0, none⟩) [1, 2] := by rw [← hH2]; exact Rn.new (xs := [1, 2])
  have s2 := s1.out f2
  simp (disch := omega) only [go_sem, ↓cw_block, dsB_of, b26_2]
  try rw [hH2]
  refine call_to (sAdd_spec s2 x2 (by simp) (by rw [gl1]; simp)) ?_
  rintro v H3 (⟨hbad, -⟩ | ⟨-, -, rfl, ow3, g3, ys, idle, s3, e3, nf3, gl3, ld3, dd3, ro3, ls3, bd3⟩)
  · exact absurd ⟨by decide, by decide⟩ hbad
  have fr2 := f1.trans f2
  obtain ⟨fr3, o3⟩ := frOf fr2 o1 e3
  have n3 : NFs [[1, 2]] g3.gl := by rw [gl3, gl1]; exact NFs.nil.add nf3
  obtain ⟨H4, hH4⟩ : ∃ H4, H3.push (.cells #[iv (-1)] 3) = H4 := ⟨_, rfl⟩
  have f4 : Fr [] H3 H4 := by rw [← hH4]; exact Fr.push
  have x4 : Rn H4 (some ⟨H3.size, 0, none⟩) [-1] := by rw [← hH4]; exact Rn.new (xs := [-1])
  have s4 := s3.out f4
  simp (disch := omega) only [go_sem, ↓cw_block, dsB_of, b26]
  try rw [hH4]
  refine call_to (sAdd_spec s4 x4 (by simp) (by rw [n3.len]; simp)) ?_
  rintro v H5 (⟨hbad, -⟩ | ⟨-, -, rfl, ow5, g5, ys5, idle5, s5, e5, nf5, gl5, ld5, dd5, ro5, ls5, bd5⟩)
  · exact absurd ⟨by decide, by decide⟩ hbad
  obtain ⟨fr5, o5⟩ := frOf (fr3.trans f4) o3 e5
  have n5 : NFs [[1, 2], [-1]] g5.gl := by rw [gl5]; exact n3.add nf5
  have hrd5 : g5.rounds = 0 := by rw [ro5, ro3, ro1]
  simp (disch := omega) only [go_sem, ↓cw_block, dsB_of]
  refine call_to (sSolve_spec s5 (.inl (by decide)) (by omega) (u := 0) (bd5 0 (bd3 0 bd1)) (by omega) (by rw [n5.len]; simp) (b := -1) (by omega) (a := none) (xs := []) (c := 0) rn_nil (fun b o h => by cases h) (by simp)) ?_
  rintro v H6 ⟨ow6, g6, s6, e6, gv6, gs6, gl6, bd6, rd6, dm6, lo6, ans⟩
  obtain ⟨fr6, o6⟩ := frOf fr5 o5 e6
  have hq5 : Quiet 2 (gcode g5.gl) [] := .inl ⟨mAw, fun ds hds _ _ => by
    have hd0 : ds = [] := by
      cases ds with
      | nil => rfl
      | cons x t => have := (hds x).1 (by simp); simp at this
    subst hd0
    exact ⟨mAw_mdl, n5.sat.2 aw_m1, fun x h => by simp at h, fun s C w head hs hh _ => aw_full hs hh n5 (by simp) (by simp)⟩⟩
  cases ans with
  | bad hb => simp at hb
  | unsat cs ys idle hb hcs hi hu hqc hn hv ho hl =>
    exfalso
    rcases hcs with ⟨rfl, -⟩ | ⟨-, -, x, hx, -⟩
    · exact hu mAw mAw_mdl (n5.sat.2 aw_m1) (by simp)
    · simp at hx
  | sat md m hb hd hm hG ha hl hv ho hc hq =>
    obtain ⟨m2, m4⟩ := aw_sat hm (n5.sat.1 hG) (by simp) (by simp)
    have hmd : md = [false, true] := by
      rw [hl]
      show [m (2 * 0 + 2), m (2 * 1 + 2)] = _
      rw [show 2 * 0 + 2 = 2 from rfl, show 2 * 1 + 2 = 4 from rfl, m2, m4]
    subst hmd
    have ls6 : g6.ls = [] := by rw [hq hq5, ls5, ls3, ls1]
    have n6 : NFs [[1, 2], [-1]] g6.gl := by rw [gl6]; exact n5
    simp (disch := omega) only [go_sem, ↓cw_block, dsB_of]
    refine call_to (sModel_spec s6.sd.sb.m hv (by simp)) ?_
    rintro v H7 ⟨f7, v7, o7⟩
    obtain ⟨b7, w7, l7, c7, ev7, hl7, hc7⟩ := v7.cell (by simp)
    have hl72 : l7 = 2 := by simp at hl7; omega
    subst hl72
    subst ev7
    have k70 : cellH H7 ⟨b7, w7 + 0, none⟩ = some (.bool false) := by have := hc7 0 (by simp); simpa using this
    have k71 : cellH H7 ⟨b7, w7 + 1, none⟩ = some (.bool true) := by have := hc7 1 (by simp); simpa using this
    have k70' : cellH H7 ⟨b7, w7, none⟩ = some (.bool false) := k70
    obtain ⟨H8, hH8⟩ : ∃ H8, H7.push (.cells #[iv (-2)] 3) = H8 := ⟨_, rfl⟩
    have f8 : Fr [] H7 H8 := by rw [← hH8]; exact Fr.push
    have x8 : Rn H8 (some ⟨H7.size, 0, none⟩) [-2] := by rw [← hH8]; exact Rn.new (xs := [-2])
    have s8 := s6.out (f7.trans f8)
    simp (disch := omega) only [go_sem, ↓cw_block, dsB_of, k70, k70', k71, b26]
    try rw [hH8]
    refine call_to (sAdd_spec s8 x8 (by simp) (by rw [n6.len]; simp)) ?_
    rintro v H9 (⟨hbad, -⟩ | ⟨-, -, rfl, ow9, g9, ys9, idle9, s9, e9, nf9, gl9, ld9, dd9, ro9, ls9, bd9⟩)
    · exact absurd ⟨by decide, by decide⟩ hbad
    obtain ⟨fr9, o9⟩ := frOf (fr6.trans (f7.trans f8)) o6 e9
    have n9 : NFs [[1, 2], [-1], [-2]] g9.gl := by rw [gl9]; exact n6.add nf9
    have hrd9 : g9.rounds = 0 := by rw [ro9, rd6 (by decide), hrd5]
    simp (disch := omega) only [go_sem, ↓cw_block, dsB_of]
    refine call_to (sSolve_spec s9 (.inl (by decide)) (by omega) (u := 400) (bd9 _ bd6) (by omega) (by rw [n9.len]; simp) (b := -1) (by omega) (a := none) (xs := []) (c := 0) rn_nil (fun b o h => by cases h) (by simp)) ?_
    rintro v H10 ⟨ow10, g10, s10, e10, gv10, gs10, gl10, bd10, rd10, dm10, lo10, ans⟩
    obtain ⟨fr10, o10⟩ := frOf fr9 o9 e10
    have hq9 : Quiet 2 (gcode g9.gl) [] := .inr fun s C w head hs hh => by
      obtain ⟨g3, g4⟩ := aw_force hs hh n9 (by simp) (by simp)
      have g5 : codeN (-2) ∈ s.tr := nfs_force hs hh n9 (c := [-2]) (by simp) (by simp) (by simp) (by simp)
      exact hs.inv.ok.clash g4 g5
    cases ans with
    | bad hb => simp at hb
    | sat md m hb hd hm hG ha hl hv ho hc hq =>
      exfalso
      have hs9 := n9.sat.1 hG
      obtain ⟨m2, m4⟩ := aw_sat hm hs9 (by simp) (by simp)
      obtain ⟨x, hx, hmx⟩ := hs9 [-2] (by simp)
      simp only [List.mem_cons, List.not_mem_nil, or_false] at hx
      subst hx
      have e5 : m 5 = true := hmx
      have e4 : m 5 = !m 4 := hm.neg 4
      rw [m4, e5] at e4
      cases e4
    | unsat cs ys idle hb hcs hi hu hqc hn hv' ho' hl' =>
      have hcs0 : cs = [] := by
        rcases hcs with ⟨h, -⟩ | ⟨-, -, x, hx, -⟩
        · exact h
        · simp at hx
      subst hcs0
      have hys : ys = [] := by
        cases ys with
        | nil => rfl
        | cons y t => have := (hn.mem y).1 (by simp); simp at this
      subst hys
      obtain ⟨L0, hL0, hor⟩ := hl'
      have hL := hL0 hq9
      rw [ls9, ls6] at hL
      subst hL
      rcases hor with ⟨hid, -⟩ | ⟨-, w, lsw, vw, -⟩
      · have := hn.idle.1 hid
        simp at this
      simp (disch := omega) only [go_sem, ↓cw_block, dsB_of]
      refine call_to (sProof1_spec (ys := []) s10.sd.sb.m lsw vw (by simp)) ?_
      rintro v H11 ⟨f11, b11, q11, c11, w11, rfl, k11, k11', v11⟩
      obtain ⟨wa, wl, wc, ew, hwl⟩ := v11.len
      have hwl0 : wl = 0 := by simp at hwl; omega
      subst hwl0
      subst ew
      have k11a : cellH H11 ⟨b11, q11 + 0, none⟩ = some (.bool false) := k11
      have s11 := s10.out f11
      have v11c : Vec H11 3 1 g10.core (([] : List Int).map iv) := hv'.frame f11 (by simp)
      simp (disch := omega) only [go_sem, ↓cw_block, dsB_of, k11, k11a, k11']
      refine call_to (sCore_spec s11.sd.sb.m v11c (by simp)) ?_
      rintro v H12 ⟨f12, v12, o12⟩
      obtain ⟨ca, cl, cc, ec, hcl⟩ := v12.len
      have hcl0 : cl = 0 := by simp at hcl; omega
      subst hcl0
      subst ec
      simp (disch := omega) only [go_sem, ↓cw_block, dsB_of, dsB_of]
      exact fin ⟨rfl, fr10.trans (f11.trans f12)⟩
end
end Go.Proofs.YthghkhpclemmlaaGreat

namespace Go.Proofs.YthghkhpclemmlaaGreat
open Go.HL HM Go.Sat
set_option maxRecDepth 10000
set_option linter.unusedSimpArgs false
set_option linter.unusedVariables false

section
variable {H : Heap}
theorem rIn_spec {x : Int} {a : Option Addr} {xs : List Int} {c : Nat} (hx : Rn H a xs) (hlen : xs.length ≤ 1000000) : CallF Tryz.prog 52 [iv x, .slice a xs.length c] H (fun v H' => v = .bool (decide (x ∈ xs)) ∧ H' = H) NoP := by
  refine callF_of Tryz.func52 rfl Tryz.ntmps52 Tryz.results52 (by decide) rfl ?_
  simp (disch := omega) only [go_sem, ↓cw_block, dsB_of]
  refine loop_by (fun j ρ H1 => ∃ i : Nat, j = xs.length - i ∧ i ≤ xs.length ∧ (ρ.get 0 = iv x ∧ ρ.get 1 = .slice a xs.length c ∧ ρ.get 5 = iv i ∧ ρ.ds = []) ∧ H1 = H ∧ x ∉ xs.take i) (k := xs.length) ?_ ?_
  · exact ⟨0, rfl, by omega, by simp (disch := omega) only [go_sem, ↓cw_block, dsB_of], rfl, by simp⟩
  · rintro _ ρ H1 ⟨i, rfl, hi, ⟨r0, r1, r5, rd⟩, e, hno⟩
    subst H1
    by_cases hie : i = xs.length
    · subst hie
      rw [List.take_length] at hno
      simp (disch := omega) only [go_sem, ↓cw_block, dsB_of, r0, r1, r5, rd, dsB_of]
      exact fin ⟨by simp [hno], rfl⟩
    · obtain ⟨y, hyi⟩ : ∃ y, xs[i]? = some y := ⟨_, List.getElem?_eq_getElem (by omega)⟩
      obtain ⟨b', o', e, ky⟩ := hx i y hyi
      subst e
      have hi1 : (i : Int) + 1 = ((i + 1 : Nat) : Int) := by omega
      have htk : xs.take (i + 1) = xs.take i ++ [y] := by rw [List.take_add_one, hyi]; rfl
      by_cases he : y = x
      · subst he
        simp (disch := omega) only [go_sem, ↓cw_block, dsB_of, r0, r1, r5, rd, ky, dsB_of]
        exact fin ⟨by simp [List.mem_of_getElem? hyi], rfl⟩
      · simp (disch := omega) only [go_sem, ↓cw_block, dsB_of, r0, r1, r5, rd, ky]
        exact fin ⟨xs.length - (i + 1), by omega, i + 1, rfl, by omega, by simp (disch := omega) only [go_sem, ↓cw_block, dsB_of, r0, r1, r5, rd, hi1], rfl, by rw [htk]; simp [hno, Ne.symm he]⟩
theorem b26z {Hx : Heap} {x : Int} : buildSliceV Tryz.prog Hx 30 1 [(0, iv x)] = some (.slice (some ⟨Hx.size, 0, none⟩) 1 1, Hx.push (.cells #[iv x] 3)) := bs_one T.elem30 T.size3 T.zero3 rfl
theorem lNeg_spec {a : Option Addr} {xs : List Int} {c : Nat} (hx : Rn H a xs) (hb : ∀ x ∈ xs, litB x = true) (hlen : xs.length ≤ 100000) : CallF Tryz.prog 26 [.slice a xs.length c] H (fun v H' => Fr [] H H' ∧ Vec H' 3 1 v ((xs.map (- ·)).map iv) ∧ ∀ b ∈ own v, H.size ≤ b) NoP := by
  refine callF_of Tryz.func26 rfl Tryz.ntmps26 Tryz.results26 (by decide) rfl ?_
  simp (disch := omega) only [go_sem, ↓cw_block, dsB_of]
  refine loop_by (fun j ρ H1 => ∃ (i : Nat) (wv : Value), j = xs.length - i ∧ i ≤ xs.length ∧ (ρ.get 0 = .slice a xs.length c ∧ ρ.get 3 = wv ∧ ρ.get 4 = iv i ∧ ρ.ds = []) ∧ Fr [] H H1 ∧ Vec H1 3 1 wv (((xs.take i).map (- ·)).map iv) ∧ ∀ b ∈ own wv, H.size ≤ b) (k := xs.length) ?_ ?_
  · exact ⟨0, .slice none 0 0, rfl, by omega, by simp (disch := omega) only [go_sem, ↓cw_block, dsB_of], Fr.refl _ _, by simpa using (Vec.nil : Vec H 3 1 (.slice none 0 0) []), by simp [own]⟩
  · rintro _ ρ H1 ⟨i, wv, rfl, hi, ⟨r0, r3, r4, rd⟩, f1, v1, o1⟩
    by_cases hie : i = xs.length
    · subst hie
      rw [List.take_length] at v1
      simp (disch := omega) only [go_sem, ↓cw_block, dsB_of, r0, r3, r4, rd, dsB_of]
      exact fin ⟨f1, v1, o1⟩
    · obtain ⟨y, hyi⟩ : ∃ y, xs[i]? = some y := ⟨_, List.getElem?_eq_getElem (by omega)⟩
      obtain ⟨b', o', e, ky⟩ := (hx.frame f1 (by simp)) i y hyi
      subst e
      have hyb := litB_le (hb y (List.mem_of_getElem? hyi))
      have hi1 : (i : Int) + 1 = ((i + 1 : Nat) : Int) := by omega
      simp (disch := omega) only [go_sem, ↓cw_block, dsB_of, r0, r3, r4, rd, ky, b26z]
      refine app_lit1 T.el30 rfl v1 rfl (by simp; omega) ?_
      intro v' H4 g1 g2 g3 g4
      simp (disch := omega) only [go_sem, ↓cw_block, dsB_of, r0, r3, r4, rd]
      refine fin ⟨xs.length - (i + 1), by omega, i + 1, v', rfl, by omega, by simp (disch := omega) only [go_sem, ↓cw_block, dsB_of, r0, r3, r4, rd, hi1], ⟨Nat.le_trans f1.size g2.size, fun q hq _ => ?_⟩, ?_, fun q hq => ?_⟩
      · rw [g2.same q (by have := f1.size; omega) (fun e => by have := o1 q e; omega), f1.same q hq (by simp)]
      · have : ((xs.take (i + 1)).map (- ·)).map iv = ((xs.take i).map (- ·)).map iv ++ [iv (-y)] := by
          rw [List.take_add_one, hyi]; simp
        rw [this]; exact g1
      · rcases g3 q hq with h | h
        · exact o1 q h
        · have := f1.size; omega
theorem rInts_spec {a a' : Option Addr} {xs ys : List Int} {c c' : Nat} (hx : Rn H a xs) (hy : Rn H a' ys) (hlen : xs.length ≤ 1000000) (hlen2 : ys.length ≤ 1000000) : CallF Tryz.prog 29 [.slice a xs.length c, .slice a' ys.length c'] H (fun v H' => v = .bool (decide (xs = ys)) ∧ H' = H) NoP := by
  refine callF_of Tryz.func29 rfl Tryz.ntmps29 Tryz.results29 (by decide) rfl ?_
  by_cases hl : xs.length = ys.length
  · rw [← hl]
    simp (disch := omega) only [go_sem, ↓cw_block, dsB_of]
    refine loop_by (fun j ρ H1 => ∃ i : Nat, j = xs.length - i ∧ i ≤ xs.length ∧ (ρ.get 0 = .slice a xs.length c ∧ ρ.get 1 = .slice a' xs.length c' ∧ ρ.get 5 = iv i ∧ ρ.ds = []) ∧ H1 = H ∧ xs.take i = ys.take i) (k := xs.length) ?_ ?_
    · exact ⟨0, rfl, by omega, by simp (disch := omega) only [go_sem, ↓cw_block, dsB_of], rfl, by simp⟩
    · rintro _ ρ H1 ⟨i, rfl, hi, ⟨r0, r1, r5, rd⟩, e, heq⟩
      subst H1
      by_cases hie : i = xs.length
      · subst hie
        rw [List.take_length, hl, List.take_length] at heq
        simp (disch := omega) only [go_sem, ↓cw_block, dsB_of, r0, r1, r5, rd, dsB_of]
        exact fin ⟨by simp [heq], rfl⟩
      · obtain ⟨x, hxi⟩ : ∃ x, xs[i]? = some x := ⟨_, List.getElem?_eq_getElem (by omega)⟩
        obtain ⟨y, hyi⟩ : ∃ y, ys[i]? = some y := ⟨_, List.getElem?_eq_getElem (by omega)⟩
        obtain ⟨b, o, e, kx⟩ := hx i x hxi
        subst e
        obtain ⟨b', o', e, ky⟩ := hy i y hyi
        subst e
        have hi1 : (i : Int) + 1 = ((i + 1 : Nat) : Int) := by omega
        by_cases he : x = y
        · subst he
          simp (disch := omega) only [go_sem, ↓cw_block, dsB_of, r0, r1, r5, rd]
          refine draw0 (lk [(0, true), (1, true), (2, true), (3, true), (4, true), (5, true), (6, true), (7, true), (8, true)] .fin) T.mixed ?_
          simp (disch := omega) only [go_sem, ↓cw_block, dsB_of, r0, r1, r5, rd, kx, ky]
          exact fin ⟨xs.length - (i + 1), by omega, i + 1, rfl, by omega, by simp (disch := omega) only [go_sem, ↓cw_block, dsB_of, r0, r1, r5, rd, hi1], rfl, by rw [List.take_add_one, List.take_add_one, heq, hxi, hyi]⟩
        · have hne : xs ≠ ys := fun e => by rw [e, hyi] at hxi; exact he (Option.some.inj hxi).symm
          simp (disch := omega) only [go_sem, ↓cw_block, dsB_of, r0, r1, r5, rd]
          refine draw0 (lk [(0, true), (1, true), (2, true), (3, true), (4, true), (5, true), (6, true), (7, true), (8, true)] .fin) T.mixed ?_
          simp (disch := omega) only [go_sem, ↓cw_block, dsB_of, r0, r1, r5, rd, kx, ky, dsB_of]
          exact fin ⟨by simp [hne], rfl⟩
  · have hne : xs ≠ ys := fun e => hl (by rw [e])
    simp (disch := omega) only [go_sem, ↓cw_block, dsB_of, dsB_of]
    exact fin ⟨by simp [hne], rfl⟩
end
end Go.Proofs.YthghkhpclemmlaaGreat

namespace Go.Proofs.YthghkhpclemmlaaGreat
open Go.HL HM Go.Sat
set_option maxRecDepth 10000
set_option linter.unusedSimpArgs false
set_option linter.unusedVariables false

/-- The least variable above another one, or 0. -/
def LV (xs : List Int) (last v : Nat) : Prop := (v = 0 ∧ ∀ x ∈ xs, x.natAbs ≤ last) ∨ (last < v ∧ (∃ x ∈ xs, x.natAbs = v) ∧ ∀ x ∈ xs, last < x.natAbs → v ≤ x.natAbs)
theorem LV.nil {last : Nat} : LV [] last 0 := .inl ⟨rfl, by simp⟩
theorem LV.low {xs : List Int} {last v : Nat} {x : Int} (h : LV xs last v) (hx : x.natAbs ≤ last) : LV (xs ++ [x]) last v := by
  rcases h with ⟨h1, h2⟩ | ⟨h1, ⟨y, hy, h2⟩, h3⟩
  · exact .inl ⟨h1, fun y hy => (List.mem_append.1 hy).elim (h2 y) (fun e => by rw [List.mem_singleton.1 e]; exact hx)⟩
  · exact .inr ⟨h1, ⟨y, by simp [hy], h2⟩, fun z hz hl => (List.mem_append.1 hz).elim (fun e => h3 z e hl) (fun e => by rw [List.mem_singleton.1 e] at hl; omega)⟩
theorem LV.new {xs : List Int} {last v : Nat} {x : Int} (h : LV xs last v) (hx : last < x.natAbs) (hv : v = 0 ∨ x.natAbs < v) : LV (xs ++ [x]) last x.natAbs := by
  refine .inr ⟨hx, ⟨x, by simp, rfl⟩, fun z hz hl => ?_⟩
  rcases List.mem_append.1 hz with hz | hz
  · rcases h with ⟨h1, h2⟩ | ⟨h1, -, h3⟩
    · have := h2 z hz; omega
    · have := h3 z hz hl; omega
  · rw [List.mem_singleton.1 hz]; exact Nat.le_refl _
theorem LV.keep {xs : List Int} {last v : Nat} {x : Int} (h : LV xs last v) (hv0 : v ≠ 0) (hx : v ≤ x.natAbs) : LV (xs ++ [x]) last v := by
  rcases h with ⟨h1, h2⟩ | ⟨h1, ⟨y, hy, h2⟩, h3⟩
  · exact absurd h1 hv0
  · exact .inr ⟨h1, ⟨y, by simp [hy], h2⟩, fun z hz hl => (List.mem_append.1 hz).elim (fun e => h3 z e hl) (fun e => by rw [List.mem_singleton.1 e]; exact hx)⟩
/-- The normal form so far. -/
structure NR (xs : List Int) (last : Nat) (zs : List Int) (idle : Bool) : Prop where
  str : zs.Pairwise ltN
  mem : ∀ x, x ∈ zs ↔ x ∈ xs ∧ x.natAbs ≤ last
  idle : idle = true ↔ ∃ x ∈ zs, -x ∈ zs
  len : zs.length ≤ 2 * last
theorem NR.zero {xs : List Int} (h0 : ∀ x ∈ xs, x ≠ 0) : NR xs 0 [] false :=
  ⟨by simp, fun x => ⟨fun h => by simp at h, fun ⟨h1, h2⟩ => by have := h0 x h1; omega⟩, by simp, by simp⟩
/-- One variable more. -/
theorem NR.step {xs : List Int} {last v : Nat} {zs : List Int} {idle : Bool} (h : NR xs last zs idle) (hv : LV xs last v) (hv0 : v ≠ 0) :
    NR xs v (zs ++ (if (v : Int) ∈ xs then [(v : Int)] else []) ++ (if -(v : Int) ∈ xs then [-(v : Int)] else [])) (idle || (decide ((v : Int) ∈ xs) && decide (-(v : Int) ∈ xs))) := by
  obtain ⟨h1, ⟨y, hy, hyv⟩, h3⟩ := hv.resolve_left fun e => hv0 e.1
  have hlow : ∀ x ∈ zs, x.natAbs ≤ last := fun x hx => ((h.mem x).1 hx).2
  have hmem : ∀ x, x ∈ (zs ++ (if (v : Int) ∈ xs then [(v : Int)] else []) ++ (if -(v : Int) ∈ xs then [-(v : Int)] else [])) ↔ x ∈ xs ∧ x.natAbs ≤ v := by
    intro x
    rw [List.mem_append, List.mem_append, h.mem]
    constructor
    · rintro ((⟨g1, g2⟩ | g) | g)
      · exact ⟨g1, by omega⟩
      · split at g
        · rw [List.mem_singleton.1 g]; exact ⟨‹_›, by omega⟩
        · simp at g
      · split at g
        · rw [List.mem_singleton.1 g]; exact ⟨‹_›, by omega⟩
        · simp at g
    · rintro ⟨g1, g2⟩
      by_cases gl : x.natAbs ≤ last
      · exact .inl (.inl ⟨g1, gl⟩)
      · have := h3 x g1 (by omega)
        have : x = v ∨ x = -(v : Int) := by omega
        rcases this with rfl | rfl
        · exact .inl (.inr (by rw [if_pos g1]; simp))
        · exact .inr (by rw [if_pos g1]; simp)
  refine ⟨?_, hmem, ?_, ?_⟩
  · rw [List.pairwise_append, List.pairwise_append]
    refine ⟨⟨h.str, by split <;> simp, fun a ha b hb => ?_⟩, by split <;> simp, fun a ha b hb => ?_⟩
    · have := hlow a ha
      split at hb
      · rw [List.mem_singleton.1 hb]; unfold ltN; omega
      · simp at hb
    · split at hb
      · rw [List.mem_singleton.1 hb]
        rcases List.mem_append.1 ha with ha | ha
        · have := hlow a ha; unfold ltN; omega
        · split at ha
          · rw [List.mem_singleton.1 ha]; unfold ltN; omega
          · simp at ha
      · simp at hb
  · rw [Bool.or_eq_true, h.idle, Bool.and_eq_true, decide_eq_true_eq, decide_eq_true_eq]
    constructor
    · rintro (⟨x, g1, g2⟩ | ⟨g1, g2⟩)
      · exact ⟨x, (hmem x).2 ⟨((h.mem x).1 g1).1, by have := hlow x g1; omega⟩, (hmem _).2 ⟨((h.mem _).1 g2).1, by have := hlow _ g2; omega⟩⟩
      · exact ⟨v, (hmem _).2 ⟨g1, by omega⟩, (hmem _).2 ⟨g2, by omega⟩⟩
    · rintro ⟨x, g1, g2⟩
      obtain ⟨a1, a2⟩ := (hmem x).1 g1
      obtain ⟨b1, b2⟩ := (hmem _).1 g2
      by_cases gl : x.natAbs ≤ last
      · exact .inl ⟨x, (h.mem x).2 ⟨a1, gl⟩, (h.mem _).2 ⟨b1, by omega⟩⟩
      · have := h3 x a1 (by omega)
        have : x = v ∨ x = -(v : Int) := by omega
        rcases this with rfl | rfl
        · exact .inr ⟨a1, b1⟩
        · exact .inr ⟨by simpa using b1, a1⟩
  · have := h.len
    simp only [List.length_append]
    split <;> split <;> simp <;> omega
end Go.Proofs.YthghkhpclemmlaaGreat

