/- The document's clauses: which hold. -/
import Derived.Test.YtplcehlonfhooaaCnfS
namespace Go.Proofs.Ytplcehlonfhooaa
open Go.HL
set_option maxRecDepth 10000
set_option linter.unusedSimpArgs false

def litOk (l : Int) : Bool := decide (l ≠ 0 ∧ -100000 ≤ l ∧ l ≤ 100000)
def holds1 (val : List Bool) (l : Int) : Bool := litOk l && ((decide (l.natAbs ≤ val.length) && bt val (l.natAbs - 1)) == decide (0 < l))
def holdsM (val : List Bool) (c : List Int) : Bool := c.any (holds1 val)
def allM (val : List Bool) (cs : List (List Int)) : Bool := cs.all (holdsM val)
/-- A slice of bools, of lists of numbers, that is read. -/
def BR (H : Heap) (v : Value) (xs : List Bool) : Prop := ∃ a c, v = .slice a xs.length c ∧ ∀ i, i < xs.length → ∃ b o, a = some ⟨b, o, none⟩ ∧ cellH H ⟨b, o + i, none⟩ = some (.bool (bt xs i))
def CR (H : Heap) (v : Value) (cs : List (List Int)) : Prop := ∃ a c, v = .slice a cs.length c ∧ ∀ (i : Nat) x, cs[i]? = some x → ∃ b o u, a = some ⟨b, o, none⟩ ∧ cellH H ⟨b, o + i, none⟩ = some u ∧ IR H u x
theorem BR.of_BV {H : Heap} {e : Nat} {v : Value} {xs : List Bool} (h : BV H e v xs) : BR H v xs := by
  obtain ⟨a, c, rfl⟩ := h.form
  refine ⟨a, c, rfl, fun i hi => ?_⟩
  obtain ⟨b, o, cap, e1, hc⟩ := h.at hi
  simp only [Value.slice.injEq] at e1
  exact ⟨b, o, e1.1, hc⟩
theorem CR.of_CVec {H : Heap} {v : Value} {cs : List (List Int)} {C : List Nat} (h : CVec H v cs C) : CR H v cs := by
  obtain ⟨a, c, rfl⟩ := h.form
  obtain ⟨cvs, v1, v2, v3⟩ := h
  refine ⟨a, c, rfl, fun i x hx => ?_⟩
  obtain ⟨b, q1, q2, q3⟩ := v3 i x hx
  have hi := (List.getElem?_eq_some_iff.1 q2).1
  obtain ⟨b8, o8, l8, p8, e8, _, hc8⟩ := v1.cell (by intro e; rw [e] at hi; simp at hi)
  simp only [Value.slice.injEq] at e8
  exact ⟨b8, o8, _, e8.1, by rw [hc8 i hi]; exact q2, IR.of_blk q3⟩
section
variable {H : Heap}
theorem literal_spec {l : Int} : CallF Try.prog 40 [iv l] H (fun r H' => H = H' ∧ r = .bool (litOk l)) NoP := by
  unfold litOk
  refine callF_of Try.func40 rfl Try.ntmps40 Try.results40 (by decide) rfl ?_
  by_cases h0 : l = 0
  · simp (disch := omega) only [go_sem, ↓cw_block, h0]
    exact fin ⟨rfl, by simp [h0]⟩
  · by_cases h1 : -100000 ≤ l
    · simp (disch := omega) only [go_sem, ↓cw_block]
      exact fin ⟨rfl, by simp [h0, h1]⟩
    · simp (disch := omega) only [go_sem, ↓cw_block]
      exact fin ⟨rfl, by simp [h0, h1]⟩
theorem abs_spec {l : Int} (h : -100000 ≤ l ∧ l ≤ 100000) : CallF Try.prog 41 [iv l] H (fun r H' => H = H' ∧ r = iv l.natAbs) NoP := by
  refine callF_of Try.func41 rfl Try.ntmps41 Try.results41 (by decide) rfl ?_
  by_cases h0 : l < 0
  · simp (disch := omega) only [go_sem, ↓cw_block]
    exact fin ⟨rfl, by congr 1; omega⟩
  · simp (disch := omega) only [go_sem, ↓cw_block]
    exact fin ⟨rfl, by congr 1; omega⟩
theorem holds_spec {v w : Value} {c : List Int} {val : List Bool} (h1 : IR H v c) (h2 : BR H w val) (hl : c.length ≤ 1000000) (hl2 : val.length ≤ 1000000) : CallF Try.prog 38 [v, w] H (fun r H' => H = H' ∧ r = .bool (holdsM val c)) NoP := by
  obtain ⟨a, k1, rfl, ha⟩ := h1
  obtain ⟨a', k2, rfl, ha'⟩ := h2
  refine callF_of Try.func38 rfl Try.ntmps38 Try.results38 (by decide) rfl ?_
  simp (disch := omega) only [go_sem, ↓cw_block]
  refine loop_by (fun k ρ H1 => ∃ (i : Nat), k = c.length - i ∧ i ≤ c.length ∧ H = H1 ∧ (ρ.get 0 = .slice a c.length k1 ∧ ρ.get 1 = .slice a' val.length k2 ∧ ρ.get 5 = iv i ∧ ρ.ds = []) ∧ ∀ j, j < i → holds1 val (nt c j) = false) (k := c.length) ?_ ?_
  · exact ⟨0, rfl, by omega, rfl, by simp (disch := omega) only [go_sem, ↓cw_block], by omega⟩
  · rintro k ρ _ ⟨i, rfl, hi, rfl, ⟨r0, r1, r5, rd⟩, heq⟩
    have hi1 : (i : Int) + 1 = ((i + 1 : Nat) : Int) := by omega
    have next : i < c.length → holds1 val (nt c i) = false → ∀ j, j < i + 1 → holds1 val (nt c j) = false := by
      intro _ hn j hj
      rcases Nat.lt_or_ge j i with h | h
      · exact heq j h
      · have : j = i := by omega
        subst this; exact hn
    by_cases hin : i < c.length
    · obtain ⟨b, o, rfl, hc⟩ := ha i hin
      have hyes : holds1 val (nt c i) = true → holdsM val c = true := fun h => List.any_eq_true.2 ⟨nt c i, List.mem_of_getElem? (nt_lt hin), h⟩
      simp (disch := omega) only [go_sem, ↓cw_block, r0, r1, r5, rd, hc]
      refine call_to literal_spec ?_
      rintro _ _ ⟨rfl, rfl⟩
      cases hlk : litOk (nt c i) with
      | false =>
        simp (disch := omega) only [go_sem, ↓cw_block, r0, r1, r5, rd, hc]
        exact fin ⟨c.length - (i + 1), by omega, i + 1, rfl, by omega, rfl, by simp (disch := omega) only [go_sem, ↓cw_block, r0, r1, r5, rd, hi1], next hin (by unfold holds1; rw [hlk]; rfl)⟩
      | true =>
        have hr := hlk
        unfold litOk at hr
        simp only [decide_eq_true_eq] at hr
        simp (disch := omega) only [go_sem, ↓cw_block, r0, r1, r5, rd, hc]
        refine call_to (abs_spec hr.2) ?_
        rintro _ _ ⟨rfl, rfl⟩
        by_cases hn : (nt c i).natAbs ≤ val.length
        · obtain ⟨b', o', rfl, hc'⟩ := ha' ((nt c i).natAbs - 1) (by omega)
          have e1 : ((nt c i).natAbs : Int) - 1 = (((nt c i).natAbs - 1 : Nat) : Int) := by omega
          have hh : holds1 val (nt c i) = (bt val ((nt c i).natAbs - 1) == decide (0 < nt c i)) := by unfold holds1; rw [hlk, decide_eq_true hn]; simp
          cases hz : (bt val ((nt c i).natAbs - 1) == decide (0 < nt c i)) with
          | true =>
            simp (disch := omega) only [go_sem, ↓cw_block, r0, r1, r5, rd, hc, e1, hc', hz, dsB_of]
            exact fin ⟨rfl, by rw [hyes (hh.trans hz)]⟩
          | false =>
            simp (disch := omega) only [go_sem, ↓cw_block, r0, r1, r5, rd, hc, e1, hc', hz]
            exact fin ⟨c.length - (i + 1), by omega, i + 1, rfl, by omega, rfl, by simp (disch := omega) only [go_sem, ↓cw_block, r0, r1, r5, rd, hi1], next hin (hh.trans hz)⟩
        · have hh : holds1 val (nt c i) = (!decide (0 < nt c i)) := by unfold holds1; rw [hlk, decide_eq_false hn]; simp
          by_cases hz : 0 < nt c i
          · simp (disch := omega) only [go_sem, ↓cw_block, r0, r1, r5, rd, hc]
            exact fin ⟨c.length - (i + 1), by omega, i + 1, rfl, by omega, rfl, by simp (disch := omega) only [go_sem, ↓cw_block, r0, r1, r5, rd, hi1], next hin (by rw [hh]; simp [hz])⟩
          · simp (disch := omega) only [go_sem, ↓cw_block, r0, r1, r5, rd, hc, dsB_of]
            exact fin ⟨rfl, by rw [hyes (by rw [hh]; simp [hz])]⟩
    · have : holdsM val c = false := by
        unfold holdsM
        rw [List.any_eq_false]
        intro x hx
        obtain ⟨j, hj⟩ := List.getElem?_of_mem hx
        have hjl := (List.getElem?_eq_some_iff.1 hj).1
        have := heq j (by omega)
        rw [nt_lt hjl] at hj
        simp only [Option.some.injEq] at hj
        rw [← hj, this]; simp
      simp (disch := omega) only [go_sem, ↓cw_block, r0, r1, r5, rd, dsB_of]
      exact fin ⟨rfl, by rw [this]⟩
theorem all_spec {v w : Value} {cs : List (List Int)} {val : List Bool} (h1 : CR H v cs) (h2 : BR H w val) (hl : cs.length ≤ 1000000) (hl2 : val.length ≤ 1000000) (hcl : ∀ c ∈ cs, c.length ≤ 1000000) : CallF Try.prog 20 [v, w] H (fun r H' => H = H' ∧ r = .bool (allM val cs)) NoP := by
  obtain ⟨a, k1, rfl, ha⟩ := h1
  refine callF_of Try.func20 rfl Try.ntmps20 Try.results20 (by decide) rfl ?_
  simp (disch := omega) only [go_sem, ↓cw_block]
  refine loop_by (fun k ρ H1 => ∃ (i : Nat), k = cs.length - i ∧ i ≤ cs.length ∧ H = H1 ∧ (ρ.get 0 = .slice a cs.length k1 ∧ ρ.get 1 = w ∧ ρ.get 5 = iv i ∧ ρ.ds = []) ∧ ∀ (j : Nat) c, j < i → cs[j]? = some c → holdsM val c = true) (k := cs.length) ?_ ?_
  · exact ⟨0, rfl, by omega, rfl, by simp (disch := omega) only [go_sem, ↓cw_block], by intro j c h; omega⟩
  · rintro k ρ _ ⟨i, rfl, hi, rfl, ⟨r0, r1, r5, rd⟩, heq⟩
    have hi1 : (i : Int) + 1 = ((i + 1 : Nat) : Int) := by omega
    by_cases hin : i < cs.length
    · have hg : cs[i]? = some cs[i] := by simp [hin]
      obtain ⟨b, o, u, rfl, hc, hu⟩ := ha i _ hg
      simp (disch := omega) only [go_sem, ↓cw_block, r0, r1, r5, rd, hc]
      refine call_to (holds_spec hu h2 (hcl _ (List.getElem_mem hin)) hl2) ?_
      rintro _ _ ⟨rfl, rfl⟩
      cases hh : holdsM val cs[i] with
      | true =>
        simp (disch := omega) only [go_sem, ↓cw_block, r0, r1, r5, rd]
        refine fin ⟨cs.length - (i + 1), by omega, i + 1, rfl, by omega, rfl, by simp (disch := omega) only [go_sem, ↓cw_block, r0, r1, r5, rd, hi1], fun j c hj hc' => ?_⟩
        rcases Nat.lt_or_ge j i with h | h
        · exact heq j c h hc'
        · have : j = i := by omega
          subst this
          rw [hg] at hc'; simp only [Option.some.injEq] at hc'; subst hc'; exact hh
      | false =>
        simp (disch := omega) only [go_sem, ↓cw_block, r0, r1, r5, rd, dsB_of]
        refine fin ⟨rfl, congrArg Value.bool ?_⟩
        unfold allM
        symm
        rw [List.all_eq_false]
        exact ⟨cs[i], List.getElem_mem hin, by simp [hh]⟩
    · simp (disch := omega) only [go_sem, ↓cw_block, r0, r1, r5, rd, dsB_of]
      refine fin ⟨rfl, congrArg Value.bool ?_⟩
      unfold allM
      symm
      rw [List.all_eq_true]
      intro c hc
      obtain ⟨j, hj⟩ := List.getElem?_of_mem hc
      have := (List.getElem?_eq_some_iff.1 hj).1
      exact heq j c (by omega) hj
theorem lists_spec {v w : Value} {xs ys : List (List Int)} (h1 : CR H v xs) (h2 : CR H w ys) (hl : xs.length ≤ 1000000) (hcl : ∀ c ∈ xs, c.length ≤ 1000000) : CallF Try.prog 18 [v, w] H (fun r H' => H = H' ∧ r = .bool (decide (xs = ys))) NoP := by
  obtain ⟨a, c, rfl, ha⟩ := h1
  obtain ⟨a', c', rfl, ha'⟩ := h2
  refine callF_of Try.func18 rfl Try.ntmps18 Try.results18 (by decide) rfl ?_
  by_cases hlen : xs.length = ys.length
  · simp (disch := omega) only [go_sem, ↓cw_block]
    refine loop_by (fun k ρ H1 => ∃ (i : Nat), k = xs.length - i ∧ i ≤ xs.length ∧ H = H1 ∧ (ρ.get 0 = .slice a xs.length c ∧ ρ.get 1 = .slice a' ys.length c' ∧ ρ.get 5 = iv i ∧ ρ.ds = []) ∧ ∀ j : Nat, j < i → xs[j]? = ys[j]?) (k := xs.length) ?_ ?_
    · exact ⟨0, rfl, by omega, rfl, by simp (disch := omega) only [go_sem, ↓cw_block], by omega⟩
    · rintro k ρ _ ⟨i, rfl, hi, rfl, ⟨r0, r1, r5, rd⟩, heq⟩
      have hi1 : (i : Int) + 1 = ((i + 1 : Nat) : Int) := by omega
      by_cases hin : i < xs.length
      · have hg : xs[i]? = some xs[i] := by simp [hin]
        have hin' : i < ys.length := by omega
        have hg' : ys[i]? = some ys[i] := by simp [hin']
        obtain ⟨b, o, u, rfl, hc, hu⟩ := ha i _ hg
        obtain ⟨b', o', u', rfl, hc', hu'⟩ := ha' i _ hg'
        simp (disch := omega) only [go_sem, ↓cw_block, r0, r1, r5, rd]
        refine draw0 (lk [(0, true), (1, true), (2, true), (3, true), (4, true), (5, true), (6, true), (7, true)] (.act 8 (lk [(9, true)] .fin) .non)) T.mixed ?_
        simp (disch := omega) only [go_sem, ↓cw_block, r0, r1, r5, rd, hc, hc']
        refine call_to (ints_spec hu hu' (hcl _ (List.getElem_mem hin))) ?_
        rintro _ _ ⟨rfl, rfl⟩
        by_cases hne : xs[i] = ys[i]
        · simp (disch := omega) only [go_sem, ↓cw_block, r0, r1, r5, rd, decide_eq_true hne]
          refine fin ⟨xs.length - (i + 1), by omega, i + 1, rfl, by omega, rfl, by simp (disch := omega) only [go_sem, ↓cw_block, r0, r1, r5, rd, hi1], fun j hj => ?_⟩
          rcases Nat.lt_or_ge j i with h | h
          · exact heq j h
          · have : j = i := by omega
            subst this; rw [hg, hg', hne]
        · simp (disch := omega) only [go_sem, ↓cw_block, r0, r1, r5, rd, decide_eq_false hne, dsB_of]
          exact fin ⟨rfl, by rw [decide_eq_false (fun e => hne (by simp [e]))]⟩
      · have e : xs = ys := by
          apply List.ext_getElem?
          intro j
          rcases Nat.lt_or_ge j xs.length with h | h
          · exact heq j (by omega)
          · rw [List.getElem?_eq_none h, List.getElem?_eq_none (by omega)]
        simp (disch := omega) only [go_sem, ↓cw_block, r0, r1, r5, rd, dsB_of]
        exact fin ⟨rfl, by rw [decide_eq_true e]⟩
  · simp (disch := omega) only [go_sem, ↓cw_block]
    exact fin ⟨rfl, by rw [decide_eq_false (fun e => hlen (by rw [e]))]⟩
end
end Go.Proofs.Ytplcehlonfhooaa
