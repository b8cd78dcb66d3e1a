/- The program's answer to which lists are trees: sorts of kinds, bounds. -/
import Derived.Test.YtpkfgoemhcgpdaaGreatDoorL09
namespace Go.Proofs.YtpkfgoemhcgpdaaGreatDoor
open Go.HL
set_option maxRecDepth 10000
set_option linter.unusedSimpArgs false
set_option linter.unusedVariables false

def sortM (k : Int) : Int := if inB k 1 5 then 1 else if inB k 6 15 then 2 else if inB k 17 22 then 3 else if k = 16 then 4 else 0
def pAllM (ks : List Int) (s : Int) : Bool := allR ks.length (fun i => decide (sortM (ks.getD i 0) = s))
def areM (ks ss : List Int) : Bool := decide (ks.length = ss.length) && allR ss.length (fun i => decide (sortM (ks.getD i 0) = ss.getD i 0))
def prC (p : Int × Int) : List Value := [iv p.1, iv p.2]
theorem prL (p : Int × Int) : (prC p).length = 2 := rfl
def withinM (us : List Int) (bs : List (Int × Int)) : Bool := decide (us.length = bs.length) && allR bs.length (fun i => decide ((bs.getD i (0, 0)).1 ≤ us.getD i 0) && decide (us.getD i 0 ≤ (bs.getD i (0, 0)).2))
section
variable {H : Heap} {S : Nat → Prop} {v : Value} {ks : List Int}
set_option maxHeartbeats 2000000 in
theorem pgSort_spec {k : Int} : CallF Tryz.prog 111 [iv k] H (fun r H' => H = H' ∧ r = iv (sortM k)) NoP := by
  refine callF_of Tryz.func111 rfl Tryz.ntmps111 Tryz.results111 (by decide) rfl ?_
  by_cases e1 : k = 1
  · subst e1
    simp (disch := omega) only [go_sem, ↓cw_block, dsB_of]
    exact fin ⟨rfl, rfl⟩
  by_cases e2 : k = 2
  · subst e2
    simp (disch := omega) only [go_sem, ↓cw_block, dsB_of]
    exact fin ⟨rfl, rfl⟩
  by_cases e3 : k = 3
  · subst e3
    simp (disch := omega) only [go_sem, ↓cw_block, dsB_of]
    exact fin ⟨rfl, rfl⟩
  by_cases e4 : k = 4
  · subst e4
    simp (disch := omega) only [go_sem, ↓cw_block, dsB_of]
    exact fin ⟨rfl, rfl⟩
  by_cases e5 : k = 5
  · subst e5
    simp (disch := omega) only [go_sem, ↓cw_block, dsB_of]
    exact fin ⟨rfl, rfl⟩
  by_cases e6 : k = 6
  · subst e6
    simp (disch := omega) only [go_sem, ↓cw_block, dsB_of]
    exact fin ⟨rfl, rfl⟩
  by_cases e7 : k = 7
  · subst e7
    simp (disch := omega) only [go_sem, ↓cw_block, dsB_of]
    exact fin ⟨rfl, rfl⟩
  by_cases e8 : k = 8
  · subst e8
    simp (disch := omega) only [go_sem, ↓cw_block, dsB_of]
    exact fin ⟨rfl, rfl⟩
  by_cases e9 : k = 9
  · subst e9
    simp (disch := omega) only [go_sem, ↓cw_block, dsB_of]
    exact fin ⟨rfl, rfl⟩
  by_cases e10 : k = 10
  · subst e10
    simp (disch := omega) only [go_sem, ↓cw_block, dsB_of]
    exact fin ⟨rfl, rfl⟩
  by_cases e11 : k = 11
  · subst e11
    simp (disch := omega) only [go_sem, ↓cw_block, dsB_of]
    exact fin ⟨rfl, rfl⟩
  by_cases e12 : k = 12
  · subst e12
    simp (disch := omega) only [go_sem, ↓cw_block, dsB_of]
    exact fin ⟨rfl, rfl⟩
  by_cases e13 : k = 13
  · subst e13
    simp (disch := omega) only [go_sem, ↓cw_block, dsB_of]
    exact fin ⟨rfl, rfl⟩
  by_cases e14 : k = 14
  · subst e14
    simp (disch := omega) only [go_sem, ↓cw_block, dsB_of]
    exact fin ⟨rfl, rfl⟩
  by_cases e15 : k = 15
  · subst e15
    simp (disch := omega) only [go_sem, ↓cw_block, dsB_of]
    exact fin ⟨rfl, rfl⟩
  by_cases e16 : k = 16
  · subst e16
    simp (disch := omega) only [go_sem, ↓cw_block, dsB_of]
    exact fin ⟨rfl, rfl⟩
  by_cases e17 : k = 17
  · subst e17
    simp (disch := omega) only [go_sem, ↓cw_block, dsB_of]
    exact fin ⟨rfl, rfl⟩
  by_cases e18 : k = 18
  · subst e18
    simp (disch := omega) only [go_sem, ↓cw_block, dsB_of]
    exact fin ⟨rfl, rfl⟩
  by_cases e19 : k = 19
  · subst e19
    simp (disch := omega) only [go_sem, ↓cw_block, dsB_of]
    exact fin ⟨rfl, rfl⟩
  by_cases e20 : k = 20
  · subst e20
    simp (disch := omega) only [go_sem, ↓cw_block, dsB_of]
    exact fin ⟨rfl, rfl⟩
  by_cases e21 : k = 21
  · subst e21
    simp (disch := omega) only [go_sem, ↓cw_block, dsB_of]
    exact fin ⟨rfl, rfl⟩
  by_cases e22 : k = 22
  · subst e22
    simp (disch := omega) only [go_sem, ↓cw_block, dsB_of]
    exact fin ⟨rfl, rfl⟩
  simp (disch := omega) only [go_sem, ↓cw_block, dsB_of]
  refine fin ⟨rfl, ?_⟩
  unfold sortM inB
  rw [if_neg (by simp; omega), if_neg (by simp; omega), if_neg (by simp; omega), if_neg (by omega)]
theorem pgAll_spec (h : Rd H S 1 v (ks.map iv)) (hl : ks.length ≤ 9223372036854775807) {s : Int} : CallF Tryz.prog 99 [v, iv s] H (fun r H' => H = H' ∧ r = .bool (pAllM ks s)) NoP := by
  obtain ⟨av, cv, rfl⟩ := h.len1
  unfold pAllM
  refine callF_of Tryz.func99 rfl Tryz.ntmps99 Tryz.results99 (by decide) rfl ?_
  simp (disch := omega) only [go_sem, ↓cw_block, dsB_of]
  refine loop_by (fun k ρ H2 => ∃ i : Nat, k = ks.length - i ∧ i ≤ ks.length ∧ (∀ j, j < i → decide (sortM (ks.getD j 0) = s) = true) ∧ H = H2 ∧ (ρ.get 1 = iv s ∧ ρ.get 7 = .slice av ks.length cv ∧ ρ.get 8 = iv ks.length ∧ ρ.get 9 = iv i ∧ ρ.ds = [])) (k := ks.length) ?_ ?_
  · exact ⟨0, rfl, by omega, by omega, rfl, by simp (disch := omega) only [go_sem, ↓cw_block, dsB_of]⟩
  · rintro k ρ _ ⟨i, rfl, hi, hall, rfl, r1, r7, r8, r9, rd⟩
    have hxi : (i : Int) + 1 = ((i + 1 : Nat) : Int) := by omega
    by_cases hin : i < ks.length
    · have hg := getD_some (d := (0 : Int)) hin
      obtain ⟨b, o, cap, q1, -, q2⟩ := h.at1 hg
      simp only [Value.slice.injEq, true_and] at q1
      obtain ⟨rfl, rfl⟩ := q1
      simp (disch := omega) only [go_sem, ↓cw_block, dsB_of, r1, r7, r8, r9, rd, q2]
      refine call_to pgSort_spec ?_
      rintro _ _ ⟨rfl, rfl⟩
      by_cases hs : sortM (ks.getD i 0) = s
      · simp (disch := omega) only [go_sem, ↓cw_block, dsB_of, r1, r7, r8, r9, rd, hs]
        refine fin ⟨ks.length - (i + 1), by omega, i + 1, rfl, by omega, ?_, rfl, by simp (disch := omega) only [go_sem, ↓cw_block, dsB_of, r1, r7, r8, r9, rd, hxi]⟩
        intro j hj
        by_cases e : j = i
        · subst e; simpa using hs
        · exact hall j (by omega)
      · simp (disch := omega) only [go_sem, ↓cw_block, dsB_of, r1, r7, r8, r9, rd]
        refine fin ⟨rfl, ?_⟩
        rw [allR_false hin (by simpa using hs)]
    · obtain rfl : i = ks.length := by omega
      simp (disch := omega) only [go_sem, ↓cw_block, dsB_of, r1, r7, r8, r9, rd]
      refine fin ⟨rfl, ?_⟩
      rw [allR_true hall]
theorem pgAre_spec {w : Value} {ss : List Int} {S' : Nat → Prop} (h : Rd H S 1 v (ks.map iv)) (hs : Rd H S' 1 w (ss.map iv)) (hl : ks.length ≤ 9223372036854775807) (hl' : ss.length ≤ 1000) : CallF Tryz.prog 100 [v, w] H (fun r H' => H = H' ∧ r = .bool (areM ks ss)) NoP := by
  obtain ⟨av, cv, rfl⟩ := h.len1
  obtain ⟨aw, cw, rfl⟩ := hs.len1
  unfold areM
  refine callF_of Tryz.func100 rfl Tryz.ntmps100 Tryz.results100 (by decide) rfl ?_
  by_cases hlen : ks.length = ss.length
  rotate_left
  · have hlen' : ¬ ((ks.length : Int) = (ss.length : Int)) := by omega
    simp (disch := omega) only [go_sem, ↓cw_block, dsB_of]
    exact fin ⟨rfl, by simp [hlen]⟩
  simp (disch := omega) only [go_sem, ↓cw_block, dsB_of, hlen]
  rw [decide_yes hlen, Bool.true_and]
  refine loop_by (fun k ρ H2 => ∃ i : Nat, k = ss.length - i ∧ i ≤ ss.length ∧ (∀ j, j < i → decide (sortM (ks.getD j 0) = ss.getD j 0) = true) ∧ H = H2 ∧ (ρ.get 0 = .slice av ss.length cv ∧ ρ.get 12 = .slice aw ss.length cw ∧ ρ.get 13 = iv ss.length ∧ ρ.get 14 = iv i ∧ ρ.ds = [])) (k := ss.length) ?_ ?_
  · exact ⟨0, rfl, by omega, by omega, rfl, by simp (disch := omega) only [go_sem, ↓cw_block, dsB_of, hlen]⟩
  · rintro k ρ _ ⟨i, rfl, hi, hall, rfl, r0, r12, r13, r14, rd⟩
    have hxi : (i : Int) + 1 = ((i + 1 : Nat) : Int) := by omega
    by_cases hin : i < ss.length
    · have hg := getD_some (l := ks) (i := i) (d := (0 : Int)) (by omega)
      obtain ⟨b, o, cap, q1, -, q2⟩ := h.at1 hg
      simp only [Value.slice.injEq, true_and] at q1
      obtain ⟨rfl, rfl⟩ := q1
      have hg' := getD_some (d := (0 : Int)) hin
      obtain ⟨b', o', cap', p1, -, p2⟩ := hs.at1 hg'
      simp only [Value.slice.injEq, true_and] at p1
      obtain ⟨rfl, rfl⟩ := p1
      simp (disch := omega) only [go_sem, ↓cw_block, dsB_of, r0, r12, r13, r14, rd, q2, p2]
      refine call_to pgSort_spec ?_
      rintro _ _ ⟨rfl, rfl⟩
      by_cases hq : sortM (ks.getD i 0) = ss.getD i 0
      · simp (disch := omega) only [go_sem, ↓cw_block, dsB_of, r0, r12, r13, r14, rd, hq]
        refine fin ⟨ss.length - (i + 1), by omega, i + 1, rfl, by omega, ?_, rfl, by simp (disch := omega) only [go_sem, ↓cw_block, dsB_of, r0, r12, r13, r14, rd, hxi]⟩
        intro j hj
        by_cases e : j = i
        · subst e; simpa using hq
        · exact hall j (by omega)
      · simp (disch := omega) only [go_sem, ↓cw_block, dsB_of, r0, r12, r13, r14, rd]
        refine fin ⟨rfl, ?_⟩
        rw [allR_false hin (by simpa using hq)]
    · obtain rfl : i = ss.length := by omega
      simp (disch := omega) only [go_sem, ↓cw_block, dsB_of, r0, r12, r13, r14, rd]
      refine fin ⟨rfl, ?_⟩
      rw [allR_true hall]
theorem pgWithin_spec {w : Value} {us : List Int} {bs : List (Int × Int)} {S' : Nat → Prop} (h : Rd H S 1 v (us.map iv)) (hs : Rd H S' 2 w (bs.flatMap prC)) (hl' : bs.length ≤ 1000) : CallF Tryz.prog 98 [v, w] H (fun r H' => Fr [] H H' ∧ r = .bool (withinM us bs)) NoP := by
  obtain ⟨av, cv, rfl⟩ := h.len1
  obtain ⟨aw, cw, rfl⟩ := hs.len prL (by decide)
  unfold withinM
  refine callF_of Tryz.func98 rfl Tryz.ntmps98 Tryz.results98 (by decide) rfl ?_
  by_cases hlen : us.length = bs.length
  rotate_left
  · have hlen' : ¬ ((us.length : Int) = (bs.length : Int)) := by omega
    simp (disch := omega) only [go_sem, ↓cw_block, dsB_of]
    exact fin ⟨Fr.refl _ _, by simp [hlen]⟩
  simp (disch := omega) only [go_sem, ↓cw_block, dsB_of, hlen]
  rw [decide_yes hlen, Bool.true_and]
  refine loop_by (fun k ρ H2 => ∃ i : Nat, k = bs.length - i ∧ i ≤ bs.length ∧ (∀ j, j < i → (decide ((bs.getD j (0, 0)).1 ≤ us.getD j 0) && decide (us.getD j 0 ≤ (bs.getD j (0, 0)).2)) = true) ∧ Fr [] H H2 ∧ (ρ.get 0 = .slice av bs.length cv ∧ ρ.get 12 = .slice aw bs.length cw ∧ ρ.get 13 = iv bs.length ∧ ρ.get 14 = iv i ∧ ρ.ds = [])) (k := bs.length) ?_ ?_
  · exact ⟨0, rfl, by omega, by omega, Fr.refl _ _, by simp (disch := omega) only [go_sem, ↓cw_block, dsB_of, hlen]⟩
  · rintro k ρ H2 ⟨i, rfl, hi, hall, fr2, r0, r12, r13, r14, rd⟩
    have hxi : (i : Int) + 1 = ((i + 1 : Nat) : Int) := by omega
    by_cases hin : i < bs.length
    · have hg' := getD_some (d := ((0, 0) : Int × Int)) hin
      generalize hy : bs.getD i (0, 0) = y at *
      have hg := getD_some (l := us) (i := i) (d := (0 : Int)) (by omega)
      generalize hx : us.getD i 0 = x at *
      obtain ⟨b', o', cap', p1, -, p2, -⟩ := (hs.frame (Keeps.of_fr fr2 (by simp))).row prL (by decide) hg'
      simp only [Value.slice.injEq, true_and] at p1
      obtain ⟨rfl, rfl⟩ := p1
      have f3 : Fr [] H2 (H2.push (.cells #[iv y.1, iv y.2] 145)) := Fr.push
      obtain ⟨b, o, cap, q1, -, q2⟩ := (h.frame (Keeps.of_fr (fr2.trans f3) (by simp))).at1 hg
      simp only [Value.slice.injEq, true_and] at q1
      obtain ⟨rfl, rfl⟩ := q1
      simp only [prC] at p2
      by_cases h1 : y.1 ≤ x
      · by_cases h2 : x ≤ y.2
        · simp (disch := omega) only [go_sem, ↓cw_block, dsB_of, r0, r12, r13, r14, rd, p2]
          refine draw0 (lk [(0, true), (1, true), (2, true), (3, true), (4, true), (5, true), (6, true), (7, true), (8, true), (9, true), (10, true), (11, true), (12, true), (13, true), (14, true), (15, true)] .fin) T.mixed ?_
          simp (disch := omega) only [go_sem, ↓cw_block, dsB_of, r0, r12, r13, r14, rd, q2]
          refine fin ⟨bs.length - (i + 1), by omega, i + 1, rfl, by omega, ?_, fr2.trans f3, by simp (disch := omega) only [go_sem, ↓cw_block, dsB_of, r0, r12, r13, r14, rd, hxi]⟩
          intro j hj
          by_cases e : j = i
          · subst e; rw [hx, hy]; simp [h1, h2]
          · exact hall j (by omega)
        · simp (disch := omega) only [go_sem, ↓cw_block, dsB_of, r0, r12, r13, r14, rd, p2]
          refine draw0 (lk [(0, true), (1, true), (2, true), (3, true), (4, true), (5, true), (6, true), (7, true), (8, true), (9, true), (10, true), (11, true), (12, true), (13, true), (14, true), (15, true)] .fin) T.mixed ?_
          simp (disch := omega) only [go_sem, ↓cw_block, dsB_of, r0, r12, r13, r14, rd, q2]
          refine fin ⟨fr2.trans f3, ?_⟩
          rw [allR_false hin (by rw [hx, hy]; simp [h2])]
      · simp (disch := omega) only [go_sem, ↓cw_block, dsB_of, r0, r12, r13, r14, rd, p2]
        refine draw0 (lk [(0, true), (1, true), (2, true), (3, true), (4, true), (5, true), (6, true), (7, true), (8, true), (9, true), (10, true), (11, true), (12, true), (13, true), (14, true), (15, true)] .fin) T.mixed ?_
        simp (disch := omega) only [go_sem, ↓cw_block, dsB_of, r0, r12, r13, r14, rd, q2]
        refine fin ⟨fr2.trans f3, ?_⟩
        rw [allR_false hin (by rw [hx, hy]; simp [h1])]
    · obtain rfl : i = bs.length := by omega
      simp (disch := omega) only [go_sem, ↓cw_block, dsB_of, r0, r12, r13, r14, rd]
      refine fin ⟨fr2, ?_⟩
      rw [allR_true hall]
end
end Go.Proofs.YtpkfgoemhcgpdaaGreatDoor

namespace Go.Proofs.YtpkfgoemhcgpdaaGreatDoor
open Go.HL
set_option maxRecDepth 10000
set_option linter.unusedSimpArgs false
set_option linter.unusedVariables false

/-- How many kids at first are variables? -/
def varsN (l : List Nd) (n : Nd) : Nat := (n.kids.takeWhile fun k => decide (knd l k = 2)).length
theorem tw_all {α : Type} {p : α → Bool} : ∀ {l : List α}, (∀ x ∈ l, p x = true) → l.takeWhile p = l
  | [], _ => rfl
  | a :: l, h => by rw [List.takeWhile_cons_of_pos (h a (by simp)), tw_all (fun x hx => h x (by simp [hx]))]
def nodeM (l : List Nd) (n : Nd) : Bool :=
  if n.kind = 0 then (wordsM n 0 && (numsM n 0 0 && allM l n 0 1 5))
  else if n.kind = 1 then (wordsM n 1 && (numsM n 4 999999 && (decide (n.nums.getD 2 0 ≤ 1) && (decide (n.nums.getD 3 0 ≤ 1) && decide (n.kids.length = 0)))))
  else if n.kind = 2 then (wordsM n 1 && (decide (n.nums.length = 2) && (inB (n.nums.getD 0 0) 0 999999 && (inB (n.nums.getD 1 0) (-999999) 999999 && decide (n.kids.length = 0)))))
  else if n.kind = 3 then (wordsM n 1 && (numsM n 1 999999 && allM l n (varsN l n) 6 15))
  else if n.kind = 4 then (wordsM n 0 && (numsM n 0 0 && exprsM l n 1 0 0))
  else if n.kind = 5 then (wordsM n 0 && (numsM n 0 0 && decide (n.kids.length = 0)))
  else if n.kind = 6 then (wordsM n 1 && (numsM n 0 0 && exprsM l n 1 0 0))
  else if n.kind = 7 then (wordsM n 1 && (numsM n 0 0 && exprsM l n 1 0 0))
  else if n.kind = 8 then (wordsM n 2 && (numsM n 1 1 && decide (n.kids.length = 0)))
  else if n.kind = 9 then (wordsM n 0 && (numsM n 1 1 && exprsM l n 1 0 0))
  else if n.kind = 10 then (wordsM n 0 && (numsM n 1 1 && exprsM l n 0 1 800))
  else if n.kind = 11 then (wordsM n 0 && (numsM n 0 0 && exprsM l n 1 1 2))
  else if n.kind = 12 then (wordsM n 0 && (numsM n 0 0 && exprsM l n 1 1 1))
  else if n.kind = 13 then (wordsM n 0 && (numsM n 0 0 && exprsM l n 0 1 1))
  else if n.kind = 14 then (wordsM n 0 && (numsM n 0 0 && decide (n.kids.length = 0)))
  else if n.kind = 15 then (wordsM n 0 && (numsM n 0 0 && decide (n.kids.length = 0)))
  else if n.kind = 16 then (wordsM n 0 && (numsM n 0 0 && allM l n 0 6 15))
  else if n.kind = 17 then (wordsM n 0 && (numsM n 1 999999 && decide (n.kids.length = 0)))
  else if n.kind = 18 then (wordsM n 1 && (numsM n 0 0 && decide (n.kids.length = 0)))
  else if n.kind = 19 then (wordsM n 1 && (numsM n 0 0 && decide (n.kids.length = 0)))
  else if n.kind = 20 then (wordsM n 0 && (numsM n 0 0 && exprsM l n 1 0 0))
  else if n.kind = 21 then (wordsM n 0 && (numsM n 0 0 && exprsM l n 1 0 0))
  else if n.kind = 22 then (wordsM n 0 && (numsM n 1 8 && exprsM l n 2 0 0))
  else false

section
variable {H : Heap} {S : Nat → Prop} {v : Value} {l : List Nd} {a : AN}

end
end Go.Proofs.YtpkfgoemhcgpdaaGreatDoor

namespace Go.Proofs.YtpkfgoemhcgpdaaGreatDoor
open Go.HL
set_option maxRecDepth 10000
set_option linter.unusedSimpArgs false
set_option linter.unusedVariables false


def wcount (k : Int) : Nat := if k = 1 ∨ k = 2 ∨ k = 3 ∨ k = 6 ∨ k = 7 ∨ k = 18 ∨ k = 19 then 1 else if k = 8 then 2 else 0
def bnds (k : Int) : List (Int × Int) :=
  if k = 1 then [(0, 999999), (0, 999999), (0, 1), (0, 1)] else if k = 2 then [(0, 999999), (-999999, 999999)] else if k = 3 ∨ k = 17 then [(0, 999999)]
  else if k = 8 ∨ k = 9 ∨ k = 10 then [(0, 1)] else if k = 22 then [(0, 8)] else []
def kidsM (k : Int) (ks : List Int) : Bool :=
  if k = 0 then pAllM ks 1 else if k = 3 then pAllM (ks.dropWhile fun x => decide (x = 2)) 2 else if k = 16 then pAllM ks 2 else if k = 10 then decide (0 < ks.length) && pAllM ks 4
  else if k = 11 then areM ks [3, 4] || areM ks [3, 4, 4] else if k = 12 then areM ks [3, 4] else if k = 13 then areM ks [4]
  else if k = 4 ∨ k = 6 ∨ k = 7 ∨ k = 9 ∨ k = 20 ∨ k = 21 then areM ks [3] else if k = 22 then areM ks [3, 3]
  else if k = 1 ∨ k = 2 ∨ k = 5 ∨ k = 8 ∨ k = 14 ∨ k = 15 ∨ k = 17 ∨ k = 18 ∨ k = 19 then decide (ks.length = 0) else false
section
variable {H : Heap} {S : Nat → Prop} {v : Value} {a : AN} {ks : List Int}
theorem Rd.blk {b t z len c : Nat} {vs : List Value} (hb : Blk H b t vs) (hl : vs.length = len * z) : Rd H (fun _ => True) z (.slice (some ⟨b, 0, none⟩) len c) vs :=
  ⟨_, _, _, rfl, hl, fun i x hx => ⟨b, 0, rfl, trivial, by rw [Nat.zero_add, hb.cell]; exact hx⟩⟩
set_option maxHeartbeats 2000000 in
theorem pgWords_spec (ha : AR H S a) (hl : a.n.words.length ≤ 9223372036854775807) (hw : ∀ w ∈ a.n.words, w.length ≤ 9223372036854775807) :
    CallF Tryz.prog 81 [anV a] H (fun r H' => Fr [] H H' ∧ r = .bool (wordsM a.n (wcount a.n.kind))) NoP := by
  obtain ⟨n, x1, c1, x2, c2, x3, c3, rfl⟩ := ha.open
  obtain ⟨G, hG⟩ : ∃ G, G = H.push (.cells #[iv n.kind, .slice x1 n.words.length c1, .slice x2 n.nums.length c2, .slice x3 n.kids.length c3, iv n.pos] 69) := ⟨_, rfl⟩
  have f0 : Fr [] H G := by rw [hG]; exact Fr.push
  have hb : Blk G H.size 69 [iv n.kind, .slice x1 n.words.length c1, .slice x2 n.nums.length c2, .slice x3 n.kids.length c3, iv n.pos] := by rw [hG]; exact Blk.new rfl
  have ar0 := ha.frame (Keeps.of_fr f0 (by simp))
  simp only at hl hw
  unfold wordsM
  refine callF_of Tryz.func81 rfl Tryz.ntmps81 Tryz.results81 (by decide) rfl ?_
  simp (disch := omega) only [go_sem, dsB_of, anV]
  rw [← hG]
  refine cut_at (fun ρ H2 => G = H2 ∧ (ρ.get 1 = hp H.size ∧ ρ.get 3 = iv (wcount n.kind) ∧ ρ.ds = [])) ?_ ?_
  · unfold wcount
    by_cases e1 : n.kind = 1
    · rw [e1]
      simp (disch := omega) only [go_sem, ↓cw_block, dsB_of]
      exact fin ⟨rfl, by (simp (disch := omega) only [go_sem, ↓cw_block, dsB_of]) <;> simp⟩
    by_cases e2 : n.kind = 2
    · rw [e2]
      simp (disch := omega) only [go_sem, ↓cw_block, dsB_of]
      exact fin ⟨rfl, by (simp (disch := omega) only [go_sem, ↓cw_block, dsB_of]) <;> simp⟩
    by_cases e3 : n.kind = 3
    · rw [e3]
      simp (disch := omega) only [go_sem, ↓cw_block, dsB_of]
      exact fin ⟨rfl, by (simp (disch := omega) only [go_sem, ↓cw_block, dsB_of]) <;> simp⟩
    by_cases e6 : n.kind = 6
    · rw [e6]
      simp (disch := omega) only [go_sem, ↓cw_block, dsB_of]
      exact fin ⟨rfl, by (simp (disch := omega) only [go_sem, ↓cw_block, dsB_of]) <;> simp⟩
    by_cases e7 : n.kind = 7
    · rw [e7]
      simp (disch := omega) only [go_sem, ↓cw_block, dsB_of]
      exact fin ⟨rfl, by (simp (disch := omega) only [go_sem, ↓cw_block, dsB_of]) <;> simp⟩
    by_cases e18 : n.kind = 18
    · rw [e18]
      simp (disch := omega) only [go_sem, ↓cw_block, dsB_of]
      exact fin ⟨rfl, by (simp (disch := omega) only [go_sem, ↓cw_block, dsB_of]) <;> simp⟩
    by_cases e19 : n.kind = 19
    · rw [e19]
      simp (disch := omega) only [go_sem, ↓cw_block, dsB_of]
      exact fin ⟨rfl, by (simp (disch := omega) only [go_sem, ↓cw_block, dsB_of]) <;> simp⟩
    by_cases e8 : n.kind = 8
    · rw [e8]
      simp (disch := omega) only [go_sem, ↓cw_block, dsB_of]
      exact fin ⟨rfl, by (simp (disch := omega) only [go_sem, ↓cw_block, dsB_of]) <;> simp⟩
    rw [if_neg (by omega), if_neg (by omega)]
    simp (disch := omega) only [go_sem, ↓cw_block, dsB_of]
    exact fin ⟨rfl, by (simp (disch := omega) only [go_sem, ↓cw_block, dsB_of]) <;> simp⟩
  rintro ρ _ ⟨rfl, s1, s3, sd⟩
  have k1' := hb.cell 1
  simp only [List.getElem?_cons_succ, List.getElem?_cons_zero] at k1'
  simp (disch := omega) only [go_sem, ↓cw_block, dsB_of, s1, s3, sd, k1']
  refine loop_by (fun k ρ H2 => ∃ i : Nat, k = n.words.length - i ∧ i ≤ n.words.length ∧ (∀ j, j < i → nameM (n.words.getD j []) = true) ∧ Fr [] G H2 ∧ (ρ.get 1 = hp H.size ∧ ρ.get 3 = iv (wcount n.kind) ∧ ρ.get 19 = .slice x1 n.words.length c1 ∧ ρ.get 20 = iv n.words.length ∧ ρ.get 21 = iv i ∧ ρ.ds = [])) (k := n.words.length) ?_ ?_
  · exact ⟨0, rfl, by omega, by omega, Fr.refl _ _, by simp (disch := omega) only [go_sem, ↓cw_block, dsB_of, s1, s3, sd]⟩
  · rintro k ρ H2 ⟨i, rfl, hi, hall, fr2, r1, r3, r19, r20, r21, rd⟩
    have hb2 := fr2.blk hb (by simp)
    have ld2 := hb2.cells0
    simp only [List.length_cons, List.length_nil] at ld2
    have k0 := hb2.cell 0
    have k1 := hb2.cell 1
    have k2 := hb2.cell 2
    have k3 := hb2.cell 3
    simp only [List.getElem?_cons_succ, List.getElem?_cons_zero] at k0 k1 k2 k3
    have hxi : (i : Int) + 1 = ((i + 1 : Nat) : Int) := by omega
    by_cases hin : i < n.words.length
    · have hg := getD_some (d := ([] : Str)) hin
      have hwi := hw _ (List.mem_of_getElem? hg)
      obtain ⟨b, o, cap, q1, -, q2⟩ := (ar0.w.frame (Keeps.of_fr fr2 (by simp))).at1 hg
      simp only [Value.slice.injEq, true_and] at q1
      obtain ⟨rfl, rfl⟩ := q1
      simp (disch := omega) only [go_sem, ↓cw_block, dsB_of, r1, r3, r19, r20, r21, rd, q2]
      refine call_to (lName_spec hwi) ?_
      intro v5 H5 hv
      refine Hush.out ?_
      obtain ⟨fr5, rfl⟩ := hv
      cases hn : nameM (n.words.getD i [])
      · refine ⟨?_⟩
        simp (disch := omega) only [go_sem, ↓cw_block, dsB_of, r1, r3, r19, r20, r21, rd]
        refine fin ⟨(f0.trans fr2).trans fr5, ?_⟩
        rw [allR_false hin hn]; rfl
      · refine ⟨?_⟩
        simp (disch := omega) only [go_sem, ↓cw_block, dsB_of, r1, r3, r19, r20, r21, rd]
        refine fin ⟨n.words.length - (i + 1), by omega, i + 1, rfl, by omega, ?_, fr2.trans fr5, by simp (disch := omega) only [go_sem, ↓cw_block, dsB_of, r1, r3, r19, r20, r21, rd, hxi]⟩
        intro j hj
        by_cases e : j = i
        · subst e; exact hn
        · exact hall j (by omega)
    · obtain rfl : i = n.words.length := by omega
      simp (disch := omega) only [go_sem, ↓cw_block, dsB_of, r1, r3, r19, r20, r21, rd, k1]
      refine fin ⟨f0.trans fr2, ?_⟩
      rw [allR_true hall]
      have e : ((n.words.length : Int) = (wcount n.kind : Int)) ↔ (n.words.length = wcount n.kind) := by omega
      simp [e]
set_option maxHeartbeats 2000000 in
theorem pgNumbers_spec (ha : AR H S a) : CallF Tryz.prog 82 [anV a] H (fun r H' => Fr [] H H' ∧ r = .bool (withinM a.n.nums (bnds a.n.kind))) NoP := by
  obtain ⟨⟨kind, words, nums, kids, pos⟩, x1, c1, x2, c2, x3, c3, rfl⟩ := ha.open
  obtain ⟨A0, hA0⟩ : ∃ A, A = H.push (.cells #[iv kind, .slice x1 words.length c1, .slice x2 nums.length c2, .slice x3 kids.length c3, iv pos] 69) := ⟨_, rfl⟩
  obtain ⟨A1, hA1⟩ : ∃ A, A = A0.push (.cells #[iv 0, iv 0] 145) := ⟨_, rfl⟩
  obtain ⟨A2, hA2⟩ : ∃ A, A = A1.push (.cells #[iv 0, iv 0] 145) := ⟨_, rfl⟩
  have z0 : A0.size = H.size + 1 := by rw [hA0]; simp
  have z1 : A1.size = A0.size + 1 := by rw [hA1]; simp
  have g0 : Fr [] H A0 := by rw [hA0]; exact Fr.push
  have g1 : Fr [] A0 A1 := by rw [hA1]; exact Fr.push
  have g2 : Fr [] A1 A2 := by rw [hA2]; exact Fr.push
  have b0 : Blk A2 H.size 69 [iv kind, .slice x1 words.length c1, .slice x2 nums.length c2, .slice x3 kids.length c3, iv pos] := (g1.trans g2).blk (by rw [hA0]; exact Blk.new rfl) (by simp)
  have b1 : Blk A2 A0.size 145 [iv 0, iv 0] := g2.blk (by rw [hA1]; exact Blk.new rfl) (by simp)
  have b2 : Blk A2 A1.size 145 [iv 0, iv 0] := by rw [hA2]; exact Blk.new rfl
  obtain ⟨A3, s1, b1', f3⟩ := store_blk (P := Tryz.prog) (ty := 145) (new := [iv 0, iv 999999]) b1 rfl T.size145 (one_all rfl)
  have b2' := f3.blk b2 (by simp; omega)
  obtain ⟨G, s2, b3', f4⟩ := store_blk (P := Tryz.prog) (ty := 145) (new := [iv 0, iv 1]) b2' rfl T.size145 (one_all rfl)
  have l3 := (f4.blk b1' (by simp; omega)).cells0
  have l4 := b3'.cells0
  simp only [List.length_cons, List.length_nil] at l3 l4
  have b0' := f4.blk (f3.blk b0 (by simp; omega)) (by simp; omega)
  have k0 := b0'.cell 0
  have k2 := b0'.cell 2
  simp only [List.getElem?_cons_succ, List.getElem?_cons_zero] at k0 k2
  have f0 : Fr [] H G := Fr.more (Fr.more ((g0.trans g1).trans g2) f3 (by simp; omega)) f4 (by simp; omega)
  have ar0 := ha.frame (Keeps.of_fr f0 (by simp))
  refine callF_of Tryz.func82 rfl Tryz.ntmps82 Tryz.results82 (by decide) rfl ?_
  simp (disch := omega) only [go_sem, dsB_of, anV]
  rw [← hA0, ← hA1, ← hA2]
  simp (disch := omega) only [go_sem, dsB_of, s1, s2]
  by_cases e1 : kind = 1
  · subst e1
    simp (disch := omega) only [go_sem, ↓cw_block, dsB_of, k0, k2, l3, l4]
    refine call_to (pgWithin_spec (bs := [(0, 999999), (0, 999999), (0, 1), (0, 1)]) (ar0.u.frame (Keeps.of_fr (F := []) Fr.push (by simp))) (Rd.blk (Blk.new rfl) rfl) (by simp)) ?_
    rintro _ H5 ⟨f5, rfl⟩
    simp (disch := omega) only [go_sem, ↓cw_block, dsB_of]
    exact fin ⟨(f0.trans Fr.push).trans f5, by simp [bnds]⟩
  by_cases e2 : kind = 2
  · subst e2
    simp (disch := omega) only [go_sem, ↓cw_block, dsB_of, k0, k2, l3, l4]
    refine call_to (pgWithin_spec (bs := [(0, 999999), (-999999, 999999)]) (ar0.u.frame (Keeps.of_fr (F := []) Fr.push (by simp))) (Rd.blk (Blk.new rfl) rfl) (by simp)) ?_
    rintro _ H5 ⟨f5, rfl⟩
    simp (disch := omega) only [go_sem, ↓cw_block, dsB_of]
    exact fin ⟨(f0.trans Fr.push).trans f5, by simp [bnds]⟩
  by_cases e3 : kind = 3
  · subst e3
    simp (disch := omega) only [go_sem, ↓cw_block, dsB_of, k0, k2, l3, l4]
    refine call_to (pgWithin_spec (bs := [(0, 999999)]) (ar0.u.frame (Keeps.of_fr (F := []) Fr.push (by simp))) (Rd.blk (Blk.new rfl) rfl) (by simp)) ?_
    rintro _ H5 ⟨f5, rfl⟩
    simp (disch := omega) only [go_sem, ↓cw_block, dsB_of]
    exact fin ⟨(f0.trans Fr.push).trans f5, by simp [bnds]⟩
  by_cases e17 : kind = 17
  · subst e17
    simp (disch := omega) only [go_sem, ↓cw_block, dsB_of, k0, k2, l3, l4]
    refine call_to (pgWithin_spec (bs := [(0, 999999)]) (ar0.u.frame (Keeps.of_fr (F := []) Fr.push (by simp))) (Rd.blk (Blk.new rfl) rfl) (by simp)) ?_
    rintro _ H5 ⟨f5, rfl⟩
    simp (disch := omega) only [go_sem, ↓cw_block, dsB_of]
    exact fin ⟨(f0.trans Fr.push).trans f5, by simp [bnds]⟩
  by_cases e8 : kind = 8
  · subst e8
    simp (disch := omega) only [go_sem, ↓cw_block, dsB_of, k0, k2, l3, l4]
    refine call_to (pgWithin_spec (bs := [(0, 1)]) (ar0.u.frame (Keeps.of_fr (F := []) Fr.push (by simp))) (Rd.blk (Blk.new rfl) rfl) (by simp)) ?_
    rintro _ H5 ⟨f5, rfl⟩
    simp (disch := omega) only [go_sem, ↓cw_block, dsB_of]
    exact fin ⟨(f0.trans Fr.push).trans f5, by simp [bnds]⟩
  by_cases e9 : kind = 9
  · subst e9
    simp (disch := omega) only [go_sem, ↓cw_block, dsB_of, k0, k2, l3, l4]
    refine call_to (pgWithin_spec (bs := [(0, 1)]) (ar0.u.frame (Keeps.of_fr (F := []) Fr.push (by simp))) (Rd.blk (Blk.new rfl) rfl) (by simp)) ?_
    rintro _ H5 ⟨f5, rfl⟩
    simp (disch := omega) only [go_sem, ↓cw_block, dsB_of]
    exact fin ⟨(f0.trans Fr.push).trans f5, by simp [bnds]⟩
  by_cases e10 : kind = 10
  · subst e10
    simp (disch := omega) only [go_sem, ↓cw_block, dsB_of, k0, k2, l3, l4]
    refine call_to (pgWithin_spec (bs := [(0, 1)]) (ar0.u.frame (Keeps.of_fr (F := []) Fr.push (by simp))) (Rd.blk (Blk.new rfl) rfl) (by simp)) ?_
    rintro _ H5 ⟨f5, rfl⟩
    simp (disch := omega) only [go_sem, ↓cw_block, dsB_of]
    exact fin ⟨(f0.trans Fr.push).trans f5, by simp [bnds]⟩
  by_cases e22 : kind = 22
  · subst e22
    simp (disch := omega) only [go_sem, ↓cw_block, dsB_of, k0, k2, l3, l4]
    refine call_to (pgWithin_spec (bs := [(0, 8)]) (ar0.u.frame (Keeps.of_fr (F := []) Fr.push (by simp))) (Rd.blk (Blk.new rfl) rfl) (by simp)) ?_
    rintro _ H5 ⟨f5, rfl⟩
    simp (disch := omega) only [go_sem, ↓cw_block, dsB_of]
    exact fin ⟨(f0.trans Fr.push).trans f5, by simp [bnds]⟩
  simp (disch := omega) only [go_sem, ↓cw_block, dsB_of, k0, k2]
  refine call_to (pgWithin_spec (bs := []) (S' := fun _ => True) ar0.u Rd.nil (by simp)) ?_
  rintro _ H5 ⟨f5, rfl⟩
  simp (disch := omega) only [go_sem, ↓cw_block, dsB_of]
  exact fin ⟨f0.trans f5, by simp [bnds, e1, e2, e3, e17, e8, e9, e10, e22]⟩
theorem Rd.tail1 {x : Value} {xs : List Value} {ad : Option Addr} {m cap : Nat} (h : Rd H S 1 (.slice ad (m + 1) cap) (x :: xs)) (hc : m + 1 ≤ cap) : Rd H S 1 (.slice (if cap = 1 then ad else ad.map (·.add 1)) m (cap - 1)) xs := by
  obtain ⟨a0, l0, c0, e, hl, hcell⟩ := h
  simp only [Value.slice.injEq] at e
  obtain ⟨rfl, rfl, rfl⟩ := e
  simp only [List.length_cons, Nat.mul_one] at hl
  refine ⟨_, _, _, rfl, by omega, fun i y hy => ?_⟩
  obtain ⟨b, o, rfl, hs, h3⟩ := hcell (i + 1) y (by simpa using hy)
  have hil := (List.getElem?_eq_some_iff.1 hy).1
  rw [if_neg (by omega)]
  refine ⟨b, o + 1, by simp [Addr.add], hs, ?_⟩
  rw [Nat.add_assoc, Nat.add_comm 1 i]; exact h3
set_option maxHeartbeats 2000000 in
theorem pgKids_spec {kind : Int} {av : Option Addr} {cv : Nat} (h : Rd H S 1 (.slice av ks.length cv) (ks.map iv)) (hc : ks.length ≤ cv) (hl : ks.length ≤ 1000000) :
    CallF Tryz.prog 83 [iv kind, .slice av ks.length cv] H (fun r H' => Fr [] H H' ∧ r = .bool (kidsM kind ks)) NoP := by
  have hall : ∀ s : Int, CallF Tryz.prog 99 [.slice av ks.length cv, iv s] H (fun r H' => H = H' ∧ r = .bool (pAllM ks s)) NoP := fun s => pgAll_spec h (by omega)
  have hare : ∀ {X : Heap} {w : Value} (ss : List Int), Fr [] H X → Rd X (fun _ => True) 1 w (ss.map iv) → ss.length ≤ 1000 → CallF Tryz.prog 100 [.slice av ks.length cv, w] X (fun r H' => X = H' ∧ r = .bool (areM ks ss)) NoP := fun ss f hw hs => pgAre_spec (h.frame (Keeps.of_fr f (by simp))) hw (by omega) hs
  refine callF_of Tryz.func83 rfl Tryz.ntmps83 Tryz.results83 (by decide) rfl ?_
  by_cases e0 : kind = 0
  · subst e0
    simp (disch := omega) only [go_sem, ↓cw_block, dsB_of]
    refine call_to (hall 1) ?_
    rintro _ _ ⟨rfl, rfl⟩
    simp (disch := omega) only [go_sem, ↓cw_block, dsB_of]
    exact fin ⟨Fr.refl _ _, rfl⟩
  by_cases e3 : kind = 3
  · subst e3
    have hk3 : kidsM 3 ks = pAllM (ks.dropWhile fun x => decide (x = 2)) 2 := rfl
    rw [hk3]
    simp (disch := omega) only [go_sem, ↓cw_block, dsB_of]
    refine loop_by (fun k ρ H2 => ∃ (ls : List Int) (aw : Option Addr) (cw : Nat), k = ls.length ∧ ls.length ≤ ks.length ∧ ls.length ≤ cw ∧ Rd H S 1 (.slice aw ls.length cw) (ls.map iv) ∧ (ls.dropWhile fun x => decide (x = 2)) = (ks.dropWhile fun x => decide (x = 2)) ∧ H = H2 ∧ (ρ.get 1 = .slice aw ls.length cw ∧ ρ.ds = [])) (k := ks.length) ?_ ?_
    · exact ⟨ks, av, cv, rfl, by omega, hc, h, rfl, rfl, by simp (disch := omega) only [go_sem, ↓cw_block, dsB_of]⟩
    · rintro k ρ _ ⟨ls, aw, cw, rfl, hls, hcw, hr, hdw, rfl, r1, rd⟩
      cases ls with
      | nil =>
        rw [← hdw]
        simp only [List.length_nil] at r1 hr
        simp (disch := omega) only [go_sem, ↓cw_block, dsB_of, r1, rd]
        refine call_to (pgAll_spec (ks := []) hr (by simp)) ?_
        rintro _ _ ⟨rfl, rfl⟩
        simp (disch := omega) only [go_sem, ↓cw_block, dsB_of]
        exact fin ⟨Fr.refl _ _, rfl⟩
      | cons x ls =>
        obtain ⟨b, o, cap, q1, -, q2⟩ := hr.at1 (i := 0) (x := x) rfl
        simp only [Value.slice.injEq, true_and] at q1
        obtain ⟨rfl, rfl⟩ := q1
        rw [Nat.add_zero] at q2
        have hln : (0 : Int) < ((x :: ls).length : Int) := by rw [List.length_cons]; omega
        simp only [List.length_cons] at r1 hls hcw hr hln
        by_cases hx : x = 2
        · subst hx
          have hr' := Rd.tail1 (x := iv 2) (xs := ls.map iv) hr hcw
          simp (disch := omega) only [go_sem, ↓cw_block, dsB_of, r1, rd, q2]
          refine fin ⟨ls.length, by simp, ls, _, _, rfl, by omega, ?_, hr', by simpa using hdw, rfl, by (simp (disch := omega) only [go_sem, ↓cw_block, dsB_of, r1, rd]) <;> simp⟩
          omega
        · simp (disch := omega) only [go_sem, ↓cw_block, dsB_of, r1, rd, q2]
          rw [← hdw]
          have hd : ((x :: ls).dropWhile fun x => decide (x = 2)) = x :: ls := by rw [List.dropWhile_cons_of_neg (by simpa using hx)]
          rw [hd]
          refine call_to (pgAll_spec (ks := x :: ls) hr (by simp; omega)) ?_
          rintro _ _ ⟨rfl, rfl⟩
          simp (disch := omega) only [go_sem, ↓cw_block, dsB_of]
          exact fin ⟨Fr.refl _ _, rfl⟩
  by_cases e16 : kind = 16
  · subst e16
    simp (disch := omega) only [go_sem, ↓cw_block, dsB_of]
    refine call_to (hall 2) ?_
    rintro _ _ ⟨rfl, rfl⟩
    simp (disch := omega) only [go_sem, ↓cw_block, dsB_of]
    exact fin ⟨Fr.refl _ _, rfl⟩
  by_cases e10 : kind = 10
  · subst e10
    have hk : kidsM 10 ks = (decide (0 < ks.length) && pAllM ks 4) := rfl
    rw [hk]
    by_cases hz : 0 < ks.length
    · simp (disch := omega) only [go_sem, ↓cw_block, dsB_of]
      refine call_to (hall 4) ?_
      rintro _ _ ⟨rfl, rfl⟩
      simp (disch := omega) only [go_sem, ↓cw_block, dsB_of]
      exact fin ⟨Fr.refl _ _, by simp [hz]⟩
    · simp (disch := omega) only [go_sem, ↓cw_block, dsB_of]
      exact fin ⟨Fr.refl _ _, by simp [hz]⟩
  by_cases e11 : kind = 11
  · subst e11
    have hk : kidsM 11 ks = (areM ks [3, 4] || areM ks [3, 4, 4]) := rfl
    rw [hk]
    simp (disch := omega) only [go_sem, ↓cw_block, dsB_of]
    refine call_to (hare [3, 4] Fr.push (Rd.blk (Blk.new rfl) rfl) (by simp)) ?_
    rintro _ _ ⟨rfl, rfl⟩
    cases q1 : areM ks [3, 4]
    · simp (disch := omega) only [go_sem, ↓cw_block, dsB_of]
      refine call_to (hare [3, 4, 4] (Fr.push.trans Fr.push) (Rd.blk (Blk.new rfl) rfl) (by simp)) ?_
      rintro _ _ ⟨rfl, rfl⟩
      simp (disch := omega) only [go_sem, ↓cw_block, dsB_of]
      exact fin ⟨Fr.push.trans Fr.push, by simp⟩
    · simp (disch := omega) only [go_sem, ↓cw_block, dsB_of]
      exact fin ⟨Fr.push, by simp⟩
  by_cases e12 : kind = 12
  · subst e12
    simp (disch := omega) only [go_sem, ↓cw_block, dsB_of]
    refine call_to (hare [3, 4] Fr.push (Rd.blk (Blk.new rfl) rfl) (by simp)) ?_
    rintro _ _ ⟨rfl, rfl⟩
    simp (disch := omega) only [go_sem, ↓cw_block, dsB_of]
    exact fin ⟨Fr.push, rfl⟩
  by_cases e13 : kind = 13
  · subst e13
    simp (disch := omega) only [go_sem, ↓cw_block, dsB_of]
    refine call_to (hare [4] Fr.push (Rd.blk (Blk.new rfl) rfl) (by simp)) ?_
    rintro _ _ ⟨rfl, rfl⟩
    simp (disch := omega) only [go_sem, ↓cw_block, dsB_of]
    exact fin ⟨Fr.push, rfl⟩
  by_cases e4 : kind = 4
  · subst e4
    simp (disch := omega) only [go_sem, ↓cw_block, dsB_of]
    refine call_to (hare [3] Fr.push (Rd.blk (Blk.new rfl) rfl) (by simp)) ?_
    rintro _ _ ⟨rfl, rfl⟩
    simp (disch := omega) only [go_sem, ↓cw_block, dsB_of]
    exact fin ⟨Fr.push, rfl⟩
  by_cases e6 : kind = 6
  · subst e6
    simp (disch := omega) only [go_sem, ↓cw_block, dsB_of]
    refine call_to (hare [3] Fr.push (Rd.blk (Blk.new rfl) rfl) (by simp)) ?_
    rintro _ _ ⟨rfl, rfl⟩
    simp (disch := omega) only [go_sem, ↓cw_block, dsB_of]
    exact fin ⟨Fr.push, rfl⟩
  by_cases e7 : kind = 7
  · subst e7
    simp (disch := omega) only [go_sem, ↓cw_block, dsB_of]
    refine call_to (hare [3] Fr.push (Rd.blk (Blk.new rfl) rfl) (by simp)) ?_
    rintro _ _ ⟨rfl, rfl⟩
    simp (disch := omega) only [go_sem, ↓cw_block, dsB_of]
    exact fin ⟨Fr.push, rfl⟩
  by_cases e9 : kind = 9
  · subst e9
    simp (disch := omega) only [go_sem, ↓cw_block, dsB_of]
    refine call_to (hare [3] Fr.push (Rd.blk (Blk.new rfl) rfl) (by simp)) ?_
    rintro _ _ ⟨rfl, rfl⟩
    simp (disch := omega) only [go_sem, ↓cw_block, dsB_of]
    exact fin ⟨Fr.push, rfl⟩
  by_cases e20 : kind = 20
  · subst e20
    simp (disch := omega) only [go_sem, ↓cw_block, dsB_of]
    refine call_to (hare [3] Fr.push (Rd.blk (Blk.new rfl) rfl) (by simp)) ?_
    rintro _ _ ⟨rfl, rfl⟩
    simp (disch := omega) only [go_sem, ↓cw_block, dsB_of]
    exact fin ⟨Fr.push, rfl⟩
  by_cases e21 : kind = 21
  · subst e21
    simp (disch := omega) only [go_sem, ↓cw_block, dsB_of]
    refine call_to (hare [3] Fr.push (Rd.blk (Blk.new rfl) rfl) (by simp)) ?_
    rintro _ _ ⟨rfl, rfl⟩
    simp (disch := omega) only [go_sem, ↓cw_block, dsB_of]
    exact fin ⟨Fr.push, rfl⟩
  by_cases e22 : kind = 22
  · subst e22
    simp (disch := omega) only [go_sem, ↓cw_block, dsB_of]
    refine call_to (hare [3, 3] Fr.push (Rd.blk (Blk.new rfl) rfl) (by simp)) ?_
    rintro _ _ ⟨rfl, rfl⟩
    simp (disch := omega) only [go_sem, ↓cw_block, dsB_of]
    exact fin ⟨Fr.push, rfl⟩
  by_cases e1 : kind = 1
  · subst e1
    have hk : kidsM 1 ks = decide (ks.length = 0) := rfl
    rw [hk]
    simp (disch := omega) only [go_sem, ↓cw_block, dsB_of]
    have e : ((ks.length : Int) = 0) ↔ (ks.length = 0) := by omega
    exact fin ⟨Fr.refl _ _, by simp [e]⟩
  by_cases e2 : kind = 2
  · subst e2
    have hk : kidsM 2 ks = decide (ks.length = 0) := rfl
    rw [hk]
    simp (disch := omega) only [go_sem, ↓cw_block, dsB_of]
    have e : ((ks.length : Int) = 0) ↔ (ks.length = 0) := by omega
    exact fin ⟨Fr.refl _ _, by simp [e]⟩
  by_cases e5 : kind = 5
  · subst e5
    have hk : kidsM 5 ks = decide (ks.length = 0) := rfl
    rw [hk]
    simp (disch := omega) only [go_sem, ↓cw_block, dsB_of]
    have e : ((ks.length : Int) = 0) ↔ (ks.length = 0) := by omega
    exact fin ⟨Fr.refl _ _, by simp [e]⟩
  by_cases e8 : kind = 8
  · subst e8
    have hk : kidsM 8 ks = decide (ks.length = 0) := rfl
    rw [hk]
    simp (disch := omega) only [go_sem, ↓cw_block, dsB_of]
    have e : ((ks.length : Int) = 0) ↔ (ks.length = 0) := by omega
    exact fin ⟨Fr.refl _ _, by simp [e]⟩
  by_cases e14 : kind = 14
  · subst e14
    have hk : kidsM 14 ks = decide (ks.length = 0) := rfl
    rw [hk]
    simp (disch := omega) only [go_sem, ↓cw_block, dsB_of]
    have e : ((ks.length : Int) = 0) ↔ (ks.length = 0) := by omega
    exact fin ⟨Fr.refl _ _, by simp [e]⟩
  by_cases e15 : kind = 15
  · subst e15
    have hk : kidsM 15 ks = decide (ks.length = 0) := rfl
    rw [hk]
    simp (disch := omega) only [go_sem, ↓cw_block, dsB_of]
    have e : ((ks.length : Int) = 0) ↔ (ks.length = 0) := by omega
    exact fin ⟨Fr.refl _ _, by simp [e]⟩
  by_cases e17 : kind = 17
  · subst e17
    have hk : kidsM 17 ks = decide (ks.length = 0) := rfl
    rw [hk]
    simp (disch := omega) only [go_sem, ↓cw_block, dsB_of]
    have e : ((ks.length : Int) = 0) ↔ (ks.length = 0) := by omega
    exact fin ⟨Fr.refl _ _, by simp [e]⟩
  by_cases e18 : kind = 18
  · subst e18
    have hk : kidsM 18 ks = decide (ks.length = 0) := rfl
    rw [hk]
    simp (disch := omega) only [go_sem, ↓cw_block, dsB_of]
    have e : ((ks.length : Int) = 0) ↔ (ks.length = 0) := by omega
    exact fin ⟨Fr.refl _ _, by simp [e]⟩
  by_cases e19 : kind = 19
  · subst e19
    have hk : kidsM 19 ks = decide (ks.length = 0) := rfl
    rw [hk]
    simp (disch := omega) only [go_sem, ↓cw_block, dsB_of]
    have e : ((ks.length : Int) = 0) ↔ (ks.length = 0) := by omega
    exact fin ⟨Fr.refl _ _, by simp [e]⟩
  simp (disch := omega) only [go_sem, ↓cw_block, dsB_of]
  refine fin ⟨Fr.refl _ _, ?_⟩
  have : kidsM kind ks = false := by
    unfold kidsM
    rw [if_neg e0, if_neg e3, if_neg e16, if_neg e10, if_neg e11, if_neg e12, if_neg e13, if_neg (by omega), if_neg e22, if_neg (by omega)]
  rw [this]
end
end Go.Proofs.YtpkfgoemhcgpdaaGreatDoor

namespace Go.Proofs.YtpkfgoemhcgpdaaGreatDoor
open Go.HL
set_option maxRecDepth 10000
set_option linter.unusedSimpArgs false
set_option linter.unusedVariables false

/-- No list is longer than a number can tell. -/
structure Sz (l : List Nd) : Prop where
  len : l.length ≤ 9223372036854775807
  w : ∀ (i : Nat) n, l[i]? = some n → n.words.length ≤ 9223372036854775807
  u : ∀ (i : Nat) n, l[i]? = some n → n.nums.length ≤ 9223372036854775807
  k : ∀ (i : Nat) n, l[i]? = some n → n.kids.length ≤ 9223372036854775807
  s : ∀ (i : Nat) n, l[i]? = some n → ∀ w ∈ n.words, w.length ≤ 9223372036854775807
def i64w (n : Int) : Int := IntKind.i64.wrap n
def smallL : List Nd → Int → Int
  | [], n => n
  | x :: l, n => if n ≤ 1500 then smallL l (i64w (i64w (i64w (n + x.words.length) + x.nums.length) + x.kids.length)) else n
def smallM (l : List Nd) : Bool := decide (smallL l l.length ≤ 1500)
theorem small_len {l : List Nd} (h : smallM l = true) : l.length ≤ 1500 := by
  unfold smallM at h
  simp only [decide_eq_true_eq] at h
  cases l with
  | nil => simp
  | cons x l =>
    unfold smallL at h
    split at h <;> omega
/-- From a node on, as long as the order is right; so many levels may follow. -/
def walkK (l : List Nd) (ih : Nat → Nat × Bool) : List Int → Nat → Nat × Bool
  | [], next => (next, true)
  | k :: ks, next => if k = next ∧ next < l.length then (if (ih next).2 then walkK l ih ks (ih next).1 else ((ih next).1, false)) else (next, false)
def walkM (l : List Nd) : Nat → Nat → Nat × Bool
  | 0, i => (i, false)
  | d + 1, i => walkK l (walkM l d) (l.getD i nd0').kids (i + 1)
theorem walkK_ge {l : List Nd} {ih : Nat → Nat × Bool} (h : ∀ i, i < l.length → i ≤ (ih i).1 ∧ (ih i).1 ≤ l.length) : ∀ (ks : List Int) (i : Nat), i ≤ l.length → i ≤ (walkK l ih ks i).1 ∧ (walkK l ih ks i).1 ≤ l.length
  | [], i, hi => by simp [walkK, hi]
  | k :: ks, i, hi => by
    unfold walkK
    split
    · rename_i hc
      have h1 := h i hc.2
      split
      · have := walkK_ge h ks (ih i).1 h1.2
        omega
      · simp; omega
    · simp; omega
theorem walkM_ge {l : List Nd} : ∀ (d i : Nat), i < l.length → i ≤ (walkM l d i).1 ∧ (walkM l d i).1 ≤ l.length
  | 0, i, h => by simp [walkM]; omega
  | d + 1, i, h => by
    have := walkK_ge (l := l) (ih := walkM l d) (fun j hj => walkM_ge d j hj) (l.getD i nd0').kids (i + 1) (by omega)
    unfold walkM
    omega
def rightM (l : List Nd) : Bool :=
  decide (0 < l.length) && (decide (l.length ≤ 800) && (decide ((l.getD 0 nd0').kind = 0) && ((walkM l 20 0).2 && (decide ((walkM l 20 0).1 = l.length) && allR l.length (fun i => nodeM l (l.getD i nd0'))))))
section
variable {H : Heap} {S : Nat → Prop} {v : Value} {l : List Nd}
end
end Go.Proofs.YtpkfgoemhcgpdaaGreatDoor

namespace Go.Proofs.YtpkfgoemhcgpdaaGreatDoor
open Go.HL
set_option maxRecDepth 10000
set_option linter.unusedSimpArgs false
set_option linter.unusedVariables false

/-- The kids of nodes that were walked over. -/
theorem walkK_ok {l : List Nd} {ih : Nat → Nat × Bool} {Q : Nat → Prop} (h : ∀ i e, i < l.length → ih i = (e, true) → i < e ∧ e ≤ l.length ∧ ∀ j, i ≤ j → j < e → Q j) :
    ∀ (ks : List Int) (i e : Nat), i ≤ l.length → walkK l ih ks i = (e, true) → i ≤ e ∧ e ≤ l.length ∧ (∀ k ∈ ks, (i : Int) ≤ k ∧ k < e) ∧ ∀ j, i ≤ j → j < e → Q j
  | [], i, e, hi, hw => by
    simp [walkK] at hw
    subst hw
    exact ⟨by omega, hi, by simp, by intro j h1 h2; omega⟩
  | k :: ks, i, e, hi, hw => by
    unfold walkK at hw
    split at hw
    · rename_i hc
      split at hw
      · rename_i hok
        obtain ⟨a1, a2, a3⟩ := h i (ih i).1 hc.2 (by rw [← hok])
        obtain ⟨b1, b2, b3, b4⟩ := walkK_ok h ks (ih i).1 e a2 hw
        refine ⟨by omega, b2, ?_, ?_⟩
        · intro k' hk'
          rw [List.mem_cons] at hk'
          rcases hk' with rfl | hk'
          · omega
          · have := b3 k' hk'; omega
        · intro j h1 h2
          by_cases hj : j < (ih i).1
          · exact a3 j h1 hj
          · exact b4 j (by omega) h2
      · simp at hw
    · simp at hw
theorem walkM_ok {l : List Nd} : ∀ (d i e : Nat), i < l.length → walkM l d i = (e, true) → i < e ∧ e ≤ l.length ∧ ∀ j, i ≤ j → j < e → ∀ k ∈ (l.getD j nd0').kids, (j : Int) < k ∧ k < l.length
  | 0, i, e, hi, hw => by simp [walkM] at hw
  | d + 1, i, e, hi, hw => by
    unfold walkM at hw
    obtain ⟨b1, b2, b3, b4⟩ := walkK_ok (l := l) (ih := walkM l d) (Q := fun j => ∀ k ∈ (l.getD j nd0').kids, (j : Int) < k ∧ k < l.length) (fun i' e' hi' hw' => walkM_ok d i' e' hi' hw') (l.getD i nd0').kids (i + 1) e (by omega) hw
    refine ⟨by omega, b2, ?_⟩
    intro j h1 h2 k hk
    by_cases hj : j = i
    · subst hj
      have := b3 k hk
      omega
    · exact b4 j (by omega) h2 k hk
theorem kok_of {l : List Nd} (h : walkM l 20 0 = (l.length, true)) (hl : 0 < l.length) {i : Nat} {n : Nd} (hi : l[i]? = some n) : KOk l n := by
  obtain ⟨_, _, h3⟩ := walkM_ok 20 0 l.length hl h
  have hil := (List.getElem?_eq_some_iff.1 hi).1
  have hn : l.getD i nd0' = n := by rw [List.getD_eq_getElem?_getD, hi]; rfl
  intro j k hk
  have := h3 i (by omega) hil k (by rw [hn]; exact List.mem_of_getElem? hk)
  omega
section
variable {H : Heap} {S : Nat → Prop} {v : Value} {l : List Nd}
end
end Go.Proofs.YtpkfgoemhcgpdaaGreatDoor

namespace Go.Proofs.YtpkfgoemhcgpdaaGreatDoor
open Go.HL
set_option maxRecDepth 10000
set_option linter.unusedSimpArgs false
set_option linter.unusedVariables false

def nodeP (l : List Nd) (n : Nd) : Bool := wordsM n (wcount n.kind) && (withinM n.nums (bnds n.kind) && kidsM n.kind (n.kids.map (knd l)))
def treeK (ih : Nat → Nat × Bool) : List Int → Nat → Nat × Bool
  | [], next => (next, true)
  | k :: ks, next => if k = next then (if (ih next).2 then treeK ih ks (ih next).1 else (0, false)) else (0, false)
def treeM (l : List Nd) : Nat → Nat → Nat × Bool
  | 0, _ => (0, false)
  | d + 1, i => if i < l.length then (if (treeK (treeM l d) (l.getD i nd0').kids (i + 1)).2 then ((treeK (treeM l d) (l.getD i nd0').kids (i + 1)).1, nodeP l (l.getD i nd0')) else (0, false)) else (0, false)
theorem treeK_ge {L : Nat} {ih : Nat → Nat × Bool} (h : ∀ i, (ih i).2 = true → i < (ih i).1 ∧ (ih i).1 ≤ L) : ∀ (ks : List Int) (i : Nat), i ≤ L → (treeK ih ks i).2 = true → i ≤ (treeK ih ks i).1 ∧ (treeK ih ks i).1 ≤ L
  | [], i, hi, _ => by simp [treeK, hi]
  | k :: ks, i, hi, ht => by
    unfold treeK at ht ⊢
    split at ht
    · rename_i hk
      split at ht
      · rename_i hok
        rw [if_pos hk, if_pos hok]
        have h1 := h i hok
        have := treeK_ge h ks (ih i).1 h1.2 ht
        omega
      · simp at ht
    · simp at ht
theorem treeM_ge {l : List Nd} : ∀ (d i : Nat), (treeM l d i).2 = true → i < (treeM l d i).1 ∧ (treeM l d i).1 ≤ l.length
  | 0, i, h => by simp [treeM] at h
  | d + 1, i, h => by
    unfold treeM at h ⊢
    split at h
    · rename_i hi
      split at h
      · rename_i hok
        rw [if_pos hi, if_pos hok]
        have := treeK_ge (L := l.length) (ih := treeM l d) (fun j hj => treeM_ge d j hj) (l.getD i nd0').kids (i + 1) (by omega) hok
        exact ⟨by omega, this.2⟩
      · simp at h
    · simp at h
def prRightM (l : List Nd) : Bool := decide (0 < l.length) && (decide (l.length ≤ 800) && (decide ((l.getD 0 nd0').kind = 0) && ((treeM l 20 0).2 && decide ((treeM l 20 0).1 = l.length))))
section
variable {H : Heap} {S : Nat → Prop} {v : Value} {l : List Nd}
set_option maxHeartbeats 2000000 in
theorem pgTree_spec (hz : Sz l) (h8 : l.length ≤ 800) : ∀ (d : Nat) {H : Heap} {i : Nat} {deep : Int}, NL H S v l → i ≤ l.length → d ≤ 20 → deep = 21 - d →
    CallF Tryz.prog 62 [v, iv i, iv deep] H (fun r H' => Fr [] H H' ∧ r = .tuple #[iv (treeM l d i).1, .bool (treeM l d i).2]) NoP := by
  intro d
  induction d with
  | zero =>
    intro H i deep h hi _ hd
    obtain ⟨av, cv, rfl⟩ := h.len
    subst hd
    refine callF_of Tryz.func62 rfl Tryz.ntmps62 Tryz.results62 (by decide) rfl ?_
    by_cases hil : i < l.length
    · simp (disch := omega) only [go_sem, ↓cw_block, dsB_of]
      exact fin ⟨Fr.refl _ _, rfl⟩
    · simp (disch := omega) only [go_sem, ↓cw_block, dsB_of]
      exact fin ⟨Fr.refl _ _, rfl⟩
  | succ d IH =>
    intro H i deep h hi hd20 hd
    by_cases hil : i < l.length
    rotate_left
    · obtain ⟨av, cv, rfl⟩ := h.len
      unfold treeM
      rw [if_neg hil]
      refine callF_of Tryz.func62 rfl Tryz.ntmps62 Tryz.results62 (by decide) rfl ?_
      simp (disch := omega) only [go_sem, ↓cw_block, dsB_of]
      exact fin ⟨Fr.refl _ _, rfl⟩
    have hgi := getD_some (d := nd0') hil
    obtain ⟨b, o, cap, a, q1, q2, ar, -, k0, -, -, k3, -⟩ := h.row hgi
    obtain ⟨nn, x1, c1, x2, c2, x3, c3, rfl⟩ := ar.open
    simp only at q2
    have hkl := hz.k i _ hgi
    unfold treeM
    rw [if_pos hil]
    subst q2
    subst q1
    simp only at k3
    generalize hn : l.getD i nd0' = n at *
    obtain ⟨G, hG⟩ : ∃ G, G = H.push (.cells #[] 3) := ⟨_, rfl⟩
    have f0 : Fr [] H G := by rw [hG]; exact Fr.push
    have zG : G.size = H.size + 1 := by rw [hG]; simp
    have kG := f0.cell' k3 (by simp)
    have v0 : Vec G 3 1 (.slice (some ⟨H.size, 0, none⟩) 0 0) (([] : List Int).map iv) := ⟨.inr ⟨H.size, 0, 0, [], [], rfl, by rw [hG]; exact Blk.new rfl, rfl, rfl, by omega⟩⟩
    obtain ⟨R, hR⟩ : ∃ R, R = treeK (treeM l d) n.kids (i + 1) := ⟨_, rfl⟩
    rw [← hR]
    refine callF_of Tryz.func62 rfl Tryz.ntmps62 Tryz.results62 (by decide) rfl ?_
    simp (disch := omega) only [go_sem, ↓cw_block, dsB_of]
    rw [← hG]
    simp (disch := omega) only [go_sem, ↓cw_block, dsB_of, kG]
    refine loop_by (fun k ρ H2 => ∃ (j next : Nat) (kv : Value), k = n.kids.length - j ∧ j ≤ n.kids.length ∧ i + 1 + j ≤ next ∧ next ≤ l.length ∧ treeK (treeM l d) (n.kids.drop j) next = R ∧ Fr [] H H2 ∧ Vec H2 3 1 kv (((n.kids.take j).map (knd l)).map iv) ∧ (∀ b ∈ own kv, H.size ≤ b) ∧
        (ρ.get 0 = .slice (some ⟨b, o, none⟩) l.length cap ∧ ρ.get 1 = iv i ∧ ρ.get 2 = iv deep ∧ ρ.get 8 = iv next ∧ ρ.get 9 = kv ∧ ρ.get 29 = .slice x3 n.kids.length c3 ∧ ρ.get 30 = iv n.kids.length ∧ ρ.get 31 = iv j ∧ ρ.ds = [])) (k := n.kids.length) ?_ ?_
    · exact ⟨0, i + 1, _, rfl, by omega, by omega, by omega, hR.symm, f0, v0, by simp [own], by (simp (disch := omega) only [go_sem, ↓cw_block, dsB_of]) <;> simp⟩
    · rintro k ρ H2 ⟨j, next, kv, rfl, hj, hjn, hnl, hw, fr2, vec, hown, r0, r1, r2, r8, r9, r29, r30, r31, rd⟩
      have hxj : (j : Int) + 1 = ((j + 1 : Nat) : Int) := by omega
      have nl2 := h.grow fr2
      have ar2 := ar.frame (Keeps.of_fr fr2 (by simp))
      by_cases hjk : j < n.kids.length
      · have hgj := getD_some (d := (0 : Int)) hjk
        obtain ⟨b', o', cap', p1, -, p2⟩ := ar2.k.at1 hgj
        simp only [Value.slice.injEq, true_and] at p1
        obtain ⟨rfl, rfl⟩ := p1
        have hd' : n.kids.drop j = n.kids.getD j 0 :: n.kids.drop (j + 1) := by
          rw [List.drop_eq_getElem_cons hjk]; congr 1; simp [hjk]
        rw [hd'] at hw
        unfold treeK at hw
        have htk : n.kids.take (j + 1) = n.kids.take j ++ [n.kids.getD j 0] := by rw [List.take_add_one, hgj]; rfl
        generalize hy : n.kids.getD j 0 = y at *
        by_cases hyn : y = next
        rotate_left
        · rw [if_neg hyn] at hw
          rw [← hw]
          simp (disch := omega) only [go_sem, ↓cw_block, dsB_of, r0, r1, r2, r8, r9, r29, r30, r31, rd, p2]
          exact fin ⟨fr2, rfl⟩
        rw [if_pos hyn] at hw
        subst hyn
        simp (disch := omega) only [go_sem, ↓cw_block, dsB_of, r0, r1, r2, r8, r9, r29, r30, r31, rd, p2]
        refine call_to (IH nl2 hnl (by omega) (by omega)) ?_
        intro v5 H5 hv
        refine Hush.out ?_
        obtain ⟨fr5, rfl⟩ := hv
        cases hok : (treeM l d next).2
        · rw [hok] at hw
          simp only [Bool.false_eq_true, if_false] at hw
          rw [← hw]
          refine ⟨?_⟩
          simp (disch := omega) only [go_sem, ↓cw_block, dsB_of, r0, r1, r2, r8, r9, r29, r30, r31, rd]
          exact fin ⟨fr2.trans fr5, rfl⟩
        · rw [hok] at hw
          simp only [if_true] at hw
          have hge := treeM_ge d next hok
          have hnx : next < l.length := by omega
          have nl5 := nl2.grow fr5
          obtain ⟨b6, o6, cap6, a6, s1, s2, -, -, s3, -⟩ := nl5.row (getD_some (d := nd0') hnx)
          simp only [Value.slice.injEq, Option.some.injEq, Addr.mk.injEq, and_true, true_and] at s1
          obtain ⟨⟨rfl, rfl⟩, rfl⟩ := s1
          have vec5 := vec.frame fr5 (by simp)
          obtain ⟨ak, lk, ck, ekv, hlk⟩ := vec5.len
          simp only [List.length_map, List.length_take, Nat.mul_one] at hlk
          have : lk = j := by omega
          subst this
          subst ekv
          refine ⟨?_⟩
          simp (disch := omega) only [go_sem, ↓cw_block, dsB_of, r0, r1, r2, r8, r9, r29, r30, r31, rd, s3]
          refine app_lit1 T.el67 rfl vec5 rfl (by simp; omega) ?_
          intro v' H6 g1 g2 g3 g4
          refine Hush.out ?_
          have fr6 : Fr [] H H6 := Fr.more (fr2.trans fr5) g2 (fun b hb => .inr (hown b hb))
          have hz5 := (fr2.trans fr5).size
          refine ⟨?_⟩
          simp (disch := omega) only [go_sem, ↓cw_block, dsB_of, r0, r1, r2, r8, r9, r29, r30, r31, rd]
          refine fin ⟨n.kids.length - (lk + 1), by omega, lk + 1, (treeM l d next).1, v', rfl, by omega, by omega, hge.2, hw, fr6, ?_, ?_, by simp (disch := omega) only [go_sem, ↓cw_block, dsB_of, r0, r1, r2, r8, r9, r29, r30, r31, rd, hxj]⟩
          · rw [htk, List.map_append, List.map_append]
            have hkk : knd l (next : Int) = (l.getD next nd0').kind := rfl
            simp only [List.map_cons, List.map_nil]
            rw [hkk]
            exact g1
          · intro b hb
            exact (g3 b hb).elim (hown b) (fun h => by omega)
      · obtain rfl : j = n.kids.length := by omega
        rw [List.drop_eq_nil_of_le (by omega)] at hw
        unfold treeK at hw
        rw [← hw]
        simp only [if_true]
        rw [List.take_length] at vec
        obtain ⟨b6, o6, cap6, a6, s1, s2, ar6, ld, k06, -⟩ := nl2.row hgi
        simp only [Value.slice.injEq, Option.some.injEq, Addr.mk.injEq, and_true, true_and] at s1
        obtain ⟨⟨rfl, rfl⟩, rfl⟩ := s1
        rw [← s2] at ld
        simp (disch := omega) only [go_sem, ↓cw_block, dsB_of, r0, r1, r2, r8, r9, r29, r30, r31, rd, ld]
        refine call_to (pgWords_spec ar6 (by rw [s2]; exact hz.w i _ hgi) (by rw [s2]; exact hz.s i _ hgi)) ?_
        intro v7 H7 hv
        refine Hush.out ?_
        obtain ⟨fr7, rfl⟩ := hv
        rw [s2]
        unfold nodeP
        cases q7 : wordsM n (wcount n.kind)
        · refine ⟨?_⟩
          simp (disch := omega) only [go_sem, ↓cw_block, dsB_of, r0, r1, r2, r8, r9, r29, r30, r31, rd]
          exact fin ⟨fr2.trans fr7, rfl⟩
        have nl7 := nl2.grow fr7
        obtain ⟨b8, o8, cap8, a8, t1, t2, ar8, ld8, k08, -⟩ := nl7.row hgi
        simp only [Value.slice.injEq, Option.some.injEq, Addr.mk.injEq, and_true, true_and] at t1
        obtain ⟨⟨rfl, rfl⟩, rfl⟩ := t1
        rw [← t2] at ld8
        refine ⟨?_⟩
        simp (disch := omega) only [go_sem, ↓cw_block, dsB_of, r0, r1, r2, r8, r9, r29, r30, r31, rd, ld8]
        refine call_to (pgNumbers_spec ar8) ?_
        intro v9 H9 hv
        refine Hush.out ?_
        obtain ⟨fr9, rfl⟩ := hv
        rw [t2]
        cases q9 : withinM n.nums (bnds n.kind)
        · refine ⟨?_⟩
          simp (disch := omega) only [go_sem, ↓cw_block, dsB_of, r0, r1, r2, r8, r9, r29, r30, r31, rd]
          exact fin ⟨(fr2.trans fr7).trans fr9, rfl⟩
        have nl9 := nl7.grow fr9
        obtain ⟨b10, o10, cap10, a10, u1, u2, -, -, k010, -⟩ := nl9.row hgi
        simp only [Value.slice.injEq, Option.some.injEq, Addr.mk.injEq, and_true, true_and] at u1
        obtain ⟨⟨rfl, rfl⟩, rfl⟩ := u1
        have vec9 := vec.frame (fr7.trans fr9) (by simp)
        have hrd : Rd H9 (fun _ => True) 1 kv (((n.kids).map (knd l)).map iv) := Rd.of_vec vec9 (fun _ _ => trivial)
        obtain ⟨ak, lk, ck, ekv, hlk, hck⟩ : ∃ a len cap, kv = .slice a len cap ∧ len = (n.kids.map (knd l)).length ∧ len ≤ cap := by
          rcases vec9.ex with ⟨e1, e2⟩ | ⟨b, len, cap, pre, rest, e1, _, e3, _, e5⟩
          · exact ⟨_, _, _, e1, by have := congrArg List.length e2; simpa using this.symm, by omega⟩
          · exact ⟨_, _, _, e1, by simp at e3 ⊢; omega, e5⟩
        subst hlk
        subst ekv
        refine ⟨?_⟩
        simp (disch := omega) only [go_sem, ↓cw_block, dsB_of, r0, r1, r2, r8, r9, r29, r30, r31, rd, k010]
        refine call_to (pgKids_spec hrd hck (by simp; omega)) ?_
        intro v11 H11 hv
        refine Hush.out ?_
        obtain ⟨fr11, rfl⟩ := hv
        refine ⟨?_⟩
        simp (disch := omega) only [go_sem, ↓cw_block, dsB_of, r0, r1, r2, r8, r9, r29, r30, r31, rd]
        exact fin ⟨((fr2.trans fr7).trans fr9).trans fr11, rfl⟩
theorem pgRight_spec (h : NL H S v l) (hz : Sz l) : CallF Tryz.prog 43 [v] H (fun r H' => Fr [] H H' ∧ r = .bool (prRightM l)) NoP := by
  obtain ⟨av, cv, rfl⟩ := h.len
  have hzl := hz.len
  unfold prRightM
  refine callF_of Tryz.func43 rfl Tryz.ntmps43 Tryz.results43 (by decide) rfl ?_
  by_cases h1 : 0 < l.length
  rotate_left
  · simp (disch := omega) only [go_sem, ↓cw_block, dsB_of]
    exact fin ⟨Fr.refl _ _, by simp [h1]⟩
  have hg0 := getD_some (d := nd0') h1
  obtain ⟨b, o, cap, a, q1, q2, ar, -, k0, -⟩ := h.row hg0
  simp only [Value.slice.injEq, true_and] at q1
  obtain ⟨rfl, rfl⟩ := q1
  rw [Nat.zero_mul, Nat.add_zero] at k0
  by_cases h2 : l.length ≤ 800
  rotate_left
  · simp (disch := omega) only [go_sem, ↓cw_block, dsB_of]
    exact fin ⟨Fr.refl _ _, by simp [h2]⟩
  by_cases h3 : (l.getD 0 nd0').kind = 0
  rotate_left
  · simp (disch := omega) only [go_sem, ↓cw_block, dsB_of, k0]
    exact fin ⟨Fr.refl _ _, by simp [-List.getD_eq_getElem?_getD, h3]⟩
  simp (disch := omega) only [go_sem, ↓cw_block, dsB_of, k0, h3]
  refine call_to (pgTree_spec hz h2 20 (i := 0) h (by omega) (by omega) (by omega)) ?_
  intro v5 H5 hv
  refine Hush.out ?_
  obtain ⟨f5, rfl⟩ := hv
  cases h4 : (treeM l 20 0).2
  · refine ⟨?_⟩
    simp (disch := omega) only [go_sem, ↓cw_block, dsB_of]
    exact fin ⟨f5, by simp⟩
  refine ⟨?_⟩
  simp (disch := omega) only [go_sem, ↓cw_block, dsB_of]
  refine fin ⟨f5, ?_⟩
  have e5 : (((treeM l 20 0).1 : Int) = (l.length : Int)) ↔ ((treeM l 20 0).1 = l.length) := by omega
  simp [-List.getD_eq_getElem?_getD, h1, h2, h3, e5]
end
end Go.Proofs.YtpkfgoemhcgpdaaGreatDoor

namespace Go.Proofs.YtpkfgoemhcgpdaaGreatDoor
open Go.HL
set_option maxRecDepth 10000
set_option linter.unusedSimpArgs false
set_option linter.unusedVariables false

theorem allR_congr {n : Nat} {g g' : Nat → Bool} (h : ∀ j, j < n → g j = g' j) : allR n g = allR n g' := by
  unfold allR
  rw [Bool.eq_iff_iff, List.all_eq_true, List.all_eq_true]
  constructor
  · intro H j hj; rw [← h j (List.mem_range.1 hj)]; exact H j hj
  · intro H j hj; rw [h j (List.mem_range.1 hj)]; exact H j hj
theorem allR_zero {g : Nat → Bool} : allR 0 g = true := rfl
theorem allR_one {g : Nat → Bool} : allR 1 g = g 0 := by simp [allR, List.range, List.range.loop]
theorem allR_two {g : Nat → Bool} : allR 2 g = (g 0 && g 1) := by simp [allR, List.range, List.range.loop]
theorem allR_three {g : Nat → Bool} : allR 3 g = (g 0 && (g 1 && g 2)) := by simp [allR, List.range, List.range.loop]
theorem allR_four {g : Nat → Bool} : allR 4 g = (g 0 && (g 1 && (g 2 && g 3))) := by simp [allR, List.range, List.range.loop]
theorem sort1 (k : Int) : decide (sortM k = 1) = inB k 1 5 := by
  unfold sortM
  cases h : inB k 1 5
  · unfold inB at h ⊢
    simp only [Bool.false_eq_true, if_false]
    split
    · simp
    · split
      · simp
      · split <;> simp
  · simp
theorem sort2 (k : Int) : decide (sortM k = 2) = inB k 6 15 := by
  unfold sortM
  cases h : inB k 6 15
  · simp only [Bool.false_eq_true, if_false]
    split
    · simp
    · split
      · simp
      · split <;> simp
  · have : inB k 1 5 = false := by unfold inB at h ⊢; simp at h ⊢; omega
    simp [this]
theorem sort3 (k : Int) : decide (sortM k = 3) = inB k 17 22 := by
  unfold sortM
  cases h : inB k 17 22
  · simp only [Bool.false_eq_true, if_false]
    split
    · simp
    · split
      · simp
      · split <;> simp
  · have h1 : inB k 1 5 = false := by unfold inB at h ⊢; simp at h ⊢; omega
    have h2 : inB k 6 15 = false := by unfold inB at h ⊢; simp at h ⊢; omega
    simp [h1, h2]
theorem sort4 (k : Int) : decide (sortM k = 4) = decide (k = 16) := by
  unfold sortM inB
  by_cases h : k = 16
  · subst h; decide
  · simp only [h, if_false]
    split
    · simp
    · split
      · simp
      · split <;> simp
def exK (ks : List Int) (f e m : Nat) : Bool := allR ks.length (fun i => if i < f then inB (ks.getD i 0) 17 22 else decide (ks.getD i 0 = 16)) && (decide (f + e ≤ ks.length) && decide (ks.length ≤ f + m))
section
variable {l : List Nd} {n : Nd}
theorem kid_map {i : Nat} (h : i < n.kids.length) : (n.kids.map (knd l)).getD i 0 = knd l (kidA n i) := by
  unfold kidA
  simp [List.getD_eq_getElem?_getD, h]
theorem exprs_eq {f e m : Nat} : exprsM l n f e m = exK (n.kids.map (knd l)) f e m := by
  unfold exprsM exK
  rw [List.length_map]
  congr 1
  exact allR_congr (fun j hj => by rw [kid_map hj])
theorem all_eq {a b s : Int} (h : ∀ k, decide (sortM k = s) = inB k a b) : allM l n 0 a b = pAllM (n.kids.map (knd l)) s := by
  unfold allM pAllM
  rw [List.length_map]
  refine allR_congr (fun j hj => ?_)
  rw [kid_map hj, h]
  simp
end
theorem ex_100 (ks : List Int) : exK ks 1 0 0 = areM ks [3] := by
  match ks with
  | [] => rfl
  | [a] => simp [exK, areM, allR_one, sort3]
  | a :: b :: t => simp [exK, areM]
theorem ex_200 (ks : List Int) : exK ks 2 0 0 = areM ks [3, 3] := by
  match ks with
  | [] => rfl
  | [a] => simp [exK, areM]
  | [a, b] => simp [exK, areM, allR_two, sort3]
  | a :: b :: c :: t => simp [exK, areM]
theorem ex_011 (ks : List Int) : exK ks 0 1 1 = areM ks [4] := by
  match ks with
  | [] => rfl
  | [a] => simp [exK, areM, allR_one, sort4]
  | a :: b :: t => simp [exK, areM]
theorem ex_111 (ks : List Int) : exK ks 1 1 1 = areM ks [3, 4] := by
  match ks with
  | [] => rfl
  | [a] => simp [exK, areM]
  | [a, b] => simp [exK, areM, allR_two, sort3, sort4]
  | a :: b :: c :: t => simp [exK, areM]
theorem ex_112 (ks : List Int) : exK ks 1 1 2 = (areM ks [3, 4] || areM ks [3, 4, 4]) := by
  match ks with
  | [] => rfl
  | [a] => simp [exK, areM]
  | [a, b] => simp [exK, areM, allR_two, sort3, sort4]
  | [a, b, c] => simp [exK, areM, allR_three, sort3, sort4]
  | a :: b :: c :: d :: t => simp [exK, areM]
theorem ex_018 (ks : List Int) (h : ks.length ≤ 800) : exK ks 0 1 800 = (decide (0 < ks.length) && pAllM ks 4) := by
  unfold exK pAllM
  have e : allR ks.length (fun i => if i < 0 then inB (ks.getD i 0) 17 22 else decide (ks.getD i 0 = 16)) = allR ks.length (fun i => decide (sortM (ks.getD i 0) = 4)) := allR_congr (fun j hj => by rw [sort4]; simp)
  rw [e, Bool.and_comm]
  congr 1
  have h1 : decide (ks.length ≤ 0 + 800) = true := by simp; omega
  rw [h1, Bool.and_true]
  congr 1
end Go.Proofs.YtpkfgoemhcgpdaaGreatDoor

