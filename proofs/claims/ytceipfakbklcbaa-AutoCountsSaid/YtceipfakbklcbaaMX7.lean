/- Texts of this proof, put together: RgtA, RgtB, RgtC, RgtD, RgtE. The conditions of each theorem stand in it. -/
import Derived.Test.YtceipfakbklcbaaMX6

/- The document's answer to which lists are trees: parts of a node. -/
namespace Go.Proofs.Ytceipfakbklcbaa
open Go.HL
set_option maxRecDepth 10000
set_option linter.unusedSimpArgs false
set_option linter.unusedVariables false

/-- Does it hold of all numbers below one? -/
def allR (n : Nat) (g : Nat → Bool) : Bool := (List.range n).all g
theorem allR_true {n : Nat} {g : Nat → Bool} (h : ∀ j, j < n → g j = true) : allR n g = true := by
  unfold allR; rw [List.all_eq_true]; intro j hj; exact h j (List.mem_range.1 hj)
theorem allR_false {n j : Nat} {g : Nat → Bool} (hj : j < n) (h : g j = false) : allR n g = false := by
  unfold allR; rw [List.all_eq_false]; exact ⟨j, List.mem_range.2 hj, by simp [h]⟩
theorem allR_iff {n : Nat} {g : Nat → Bool} : allR n g = true ↔ ∀ j, j < n → g j = true := by
  unfold allR; rw [List.all_eq_true]; simp
abbrev anV (a : AN) : Value := .agg #[iv a.n.kind, a.wv, a.nv, a.kv, iv a.n.pos]
def nd0' : Nd := ⟨0, [], [], [], 0⟩
/-- The kind of the node with a number. -/
def knd (l : List Nd) (k : Int) : Int := (l.getD k.toNat nd0').kind
def kidA (n : Nd) (i : Nat) : Int := n.kids.getD i 0
def KOk (l : List Nd) (n : Nd) : Prop := ∀ (i : Nat) k, n.kids[i]? = some k → 0 ≤ k ∧ k < l.length
def inB (k a b : Int) : Bool := decide (a ≤ k) && decide (k ≤ b)
def exprsM (l : List Nd) (n : Nd) (first least most : Nat) : Bool :=
  allR n.kids.length (fun i => if i < first then inB (knd l (kidA n i)) 17 22 else decide (knd l (kidA n i) = 16)) && (decide (first + least ≤ n.kids.length) && decide (n.kids.length ≤ first + most))
def allM (l : List Nd) (n : Nd) (from' : Nat) (a b : Int) : Bool := allR n.kids.length (fun i => decide (i < from') || inB (knd l (kidA n i)) a b)
def numsM (n : Nd) (count : Nat) (most : Int) : Bool := allR n.nums.length (fun i => decide (0 ≤ n.nums.getD i 0) && decide (n.nums.getD i 0 ≤ most)) && decide (n.nums.length = count)
def wordsM (n : Nd) (count : Nat) : Bool := allR n.words.length (fun i => nameM (n.words.getD i [])) && decide (n.words.length = count)
theorem getD_some {α : Type} {l : List α} {i : Nat} {d : α} (h : i < l.length) : l[i]? = some (l.getD i d) := by
  rw [List.getD_eq_getElem?_getD, List.getElem?_eq_getElem h]; rfl
section
variable {H : Heap} {S : Nat → Prop} {v : Value} {l : List Nd} {a : AN}
theorem AR.open (h : AR H S a) : ∃ n x1 c1 x2 c2 x3 c3, a = ⟨n, .slice x1 n.words.length c1, .slice x2 n.nums.length c2, .slice x3 n.kids.length c3⟩ := by
  obtain ⟨n, wv, nv, kv⟩ := a
  obtain ⟨x1, c1, x2, c2, x3, c3, e1, e2, e3⟩ := h.forms
  simp only at e1 e2 e3
  subst e1 e2 e3
  exact ⟨n, x1, c1, x2, c2, x3, c3, rfl⟩
end
end Go.Proofs.Ytceipfakbklcbaa


/- The document's answer to which lists are trees: the parts of a node. -/
namespace Go.Proofs.Ytceipfakbklcbaa
open Go.HL
set_option maxRecDepth 10000
set_option linter.unusedSimpArgs false
set_option linter.unusedVariables false

section
variable {H : Heap} {S : Nat → Prop} {v : Value} {l : List Nd} {a : AN}

end
end Go.Proofs.Ytceipfakbklcbaa


/- The document's answer to which lists are trees: a node. -/
namespace Go.Proofs.Ytceipfakbklcbaa
open Go.HL
set_option maxRecDepth 10000
set_option linter.unusedSimpArgs false
set_option linter.unusedVariables false

/-- How many kids at first are variables? -/
def varsN (l : List Nd) (n : Nd) : Nat := (n.kids.takeWhile fun k => decide (knd l k = 2)).length
theorem tw_all {α : Type} {p : α → Bool} : ∀ {l : List α}, (∀ x ∈ l, p x = true) → l.takeWhile p = l
  | [], _ => rfl
  | a :: l, h => by rw [List.takeWhile_cons_of_pos (h a (by simp)), tw_all (fun x hx => h x (by simp [hx]))]
def nodeM (l : List Nd) (n : Nd) : Bool :=
  if n.kind = 0 then (wordsM n 0 && (numsM n 0 0 && allM l n 0 1 5))
  else if n.kind = 1 then (wordsM n 1 && (numsM n 4 999999 && (decide (n.nums.getD 2 0 ≤ 1) && (decide (n.nums.getD 3 0 ≤ 1) && decide (n.kids.length = 0)))))
  else if n.kind = 2 then (wordsM n 1 && (decide (n.nums.length = 2) && (inB (n.nums.getD 0 0) 0 999999 && (inB (n.nums.getD 1 0) (-999999) 999999 && decide (n.kids.length = 0)))))
  else if n.kind = 3 then (wordsM n 1 && (numsM n 1 999999 && allM l n (varsN l n) 6 15))
  else if n.kind = 4 then (wordsM n 0 && (numsM n 0 0 && exprsM l n 1 0 0))
  else if n.kind = 5 then (wordsM n 0 && (numsM n 0 0 && decide (n.kids.length = 0)))
  else if n.kind = 6 then (wordsM n 1 && (numsM n 0 0 && exprsM l n 1 0 0))
  else if n.kind = 7 then (wordsM n 1 && (numsM n 0 0 && exprsM l n 1 0 0))
  else if n.kind = 8 then (wordsM n 2 && (numsM n 1 1 && decide (n.kids.length = 0)))
  else if n.kind = 9 then (wordsM n 0 && (numsM n 1 1 && exprsM l n 1 0 0))
  else if n.kind = 10 then (wordsM n 0 && (numsM n 1 1 && exprsM l n 0 1 800))
  else if n.kind = 11 then (wordsM n 0 && (numsM n 0 0 && exprsM l n 1 1 2))
  else if n.kind = 12 then (wordsM n 0 && (numsM n 0 0 && exprsM l n 1 1 1))
  else if n.kind = 13 then (wordsM n 0 && (numsM n 0 0 && exprsM l n 0 1 1))
  else if n.kind = 14 then (wordsM n 0 && (numsM n 0 0 && decide (n.kids.length = 0)))
  else if n.kind = 15 then (wordsM n 0 && (numsM n 0 0 && decide (n.kids.length = 0)))
  else if n.kind = 16 then (wordsM n 0 && (numsM n 0 0 && allM l n 0 6 15))
  else if n.kind = 17 then (wordsM n 0 && (numsM n 1 999999 && decide (n.kids.length = 0)))
  else if n.kind = 18 then (wordsM n 1 && (numsM n 0 0 && decide (n.kids.length = 0)))
  else if n.kind = 19 then (wordsM n 1 && (numsM n 0 0 && decide (n.kids.length = 0)))
  else if n.kind = 20 then (wordsM n 0 && (numsM n 0 0 && exprsM l n 1 0 0))
  else if n.kind = 21 then (wordsM n 0 && (numsM n 0 0 && exprsM l n 1 0 0))
  else if n.kind = 22 then (wordsM n 0 && (numsM n 1 8 && exprsM l n 2 0 0))
  else false

section
variable {H : Heap} {S : Nat → Prop} {v : Value} {l : List Nd} {a : AN}

end
end Go.Proofs.Ytceipfakbklcbaa


/- The document's answer to which lists are trees: Small, walk, Right. -/
namespace Go.Proofs.Ytceipfakbklcbaa
open Go.HL
set_option maxRecDepth 10000
set_option linter.unusedSimpArgs false
set_option linter.unusedVariables false

/-- No list is longer than a number can tell. -/
structure Sz (l : List Nd) : Prop where
  len : l.length ≤ 9223372036854775807
  w : ∀ (i : Nat) n, l[i]? = some n → n.words.length ≤ 9223372036854775807
  u : ∀ (i : Nat) n, l[i]? = some n → n.nums.length ≤ 9223372036854775807
  k : ∀ (i : Nat) n, l[i]? = some n → n.kids.length ≤ 9223372036854775807
  s : ∀ (i : Nat) n, l[i]? = some n → ∀ w ∈ n.words, w.length ≤ 9223372036854775807
def i64w (n : Int) : Int := IntKind.i64.wrap n
def smallL : List Nd → Int → Int
  | [], n => n
  | x :: l, n => if n ≤ 1500 then smallL l (i64w (i64w (i64w (n + x.words.length) + x.nums.length) + x.kids.length)) else n
def smallM (l : List Nd) : Bool := decide (smallL l l.length ≤ 1500)
theorem small_len {l : List Nd} (h : smallM l = true) : l.length ≤ 1500 := by
  unfold smallM at h
  simp only [decide_eq_true_eq] at h
  cases l with
  | nil => simp
  | cons x l =>
    unfold smallL at h
    split at h <;> omega
/-- From a node on, as long as the order is right; so many levels may follow. -/
def walkK (l : List Nd) (ih : Nat → Nat × Bool) : List Int → Nat → Nat × Bool
  | [], next => (next, true)
  | k :: ks, next => if k = next ∧ next < l.length then (if (ih next).2 then walkK l ih ks (ih next).1 else ((ih next).1, false)) else (next, false)
def walkM (l : List Nd) : Nat → Nat → Nat × Bool
  | 0, i => (i, false)
  | d + 1, i => walkK l (walkM l d) (l.getD i nd0').kids (i + 1)
theorem walkK_ge {l : List Nd} {ih : Nat → Nat × Bool} (h : ∀ i, i < l.length → i ≤ (ih i).1 ∧ (ih i).1 ≤ l.length) : ∀ (ks : List Int) (i : Nat), i ≤ l.length → i ≤ (walkK l ih ks i).1 ∧ (walkK l ih ks i).1 ≤ l.length
  | [], i, hi => by simp [walkK, hi]
  | k :: ks, i, hi => by
    unfold walkK
    split
    · rename_i hc
      have h1 := h i hc.2
      split
      · have := walkK_ge h ks (ih i).1 h1.2
        omega
      · simp; omega
    · simp; omega
theorem walkM_ge {l : List Nd} : ∀ (d i : Nat), i < l.length → i ≤ (walkM l d i).1 ∧ (walkM l d i).1 ≤ l.length
  | 0, i, h => by simp [walkM]; omega
  | d + 1, i, h => by
    have := walkK_ge (l := l) (ih := walkM l d) (fun j hj => walkM_ge d j hj) (l.getD i nd0').kids (i + 1) (by omega)
    unfold walkM
    omega
def rightM (l : List Nd) : Bool :=
  decide (0 < l.length) && (decide (l.length ≤ 800) && (decide ((l.getD 0 nd0').kind = 0) && ((walkM l 20 0).2 && (decide ((walkM l 20 0).1 = l.length) && allR l.length (fun i => nodeM l (l.getD i nd0'))))))
section
variable {H : Heap} {S : Nat → Prop} {v : Value} {l : List Nd}
theorem r9Small_spec (h : NL H S v l) (hz : Sz l) : CallF Try.prog 7 [v] H (fun r H' => H = H' ∧ r = .bool (smallM l)) NoP := by
  obtain ⟨av, cv, rfl⟩ := h.len
  have hzl := hz.len
  unfold smallM
  obtain ⟨R, hR⟩ : ∃ R, R = smallL l l.length := ⟨_, rfl⟩
  rw [← hR]
  refine callF_of Try.func7 rfl Try.ntmps7 Try.results7 (by decide) rfl ?_
  simp (disch := omega) only [go_sem, ↓cw_block, dsB_of]
  refine loop_by (fun k ρ H2 => ∃ (i : Nat) (n : Int), k = l.length - i ∧ i ≤ l.length ∧ smallL (l.drop i) n = R ∧ H2 = H ∧ (ρ.get 0 = .slice av l.length cv ∧ ρ.get 3 = iv n ∧ ρ.get 4 = iv i ∧ ρ.ds = [])) (k := l.length) ?_ ?_
  · exact ⟨0, l.length, rfl, by omega, hR.symm, rfl, by simp (disch := omega) only [go_sem, ↓cw_block, dsB_of]⟩
  · rintro k ρ _ ⟨i, n, rfl, hi, hs, rfl, r0, r3, r4, rd⟩
    have hxi : (i : Int) + 1 = ((i + 1 : Nat) : Int) := by omega
    by_cases hin : i < l.length
    · have hgi := getD_some (d := nd0') hin
      have hd : l.drop i = l.getD i nd0' :: l.drop (i + 1) := by
        rw [List.drop_eq_getElem_cons hin]; congr 1; simp [hin]
      rw [hd] at hs
      unfold smallL at hs
      by_cases hn : n ≤ 1500
      · rw [if_pos hn] at hs
        obtain ⟨b, o, cap, a, q1, q2, ar, -, -, k1, k2, k3, -⟩ := h.row hgi
        obtain ⟨nn, x1, c1, x2, c2, x3, c3, rfl⟩ := ar.open
        simp only at q2
        subst q2
        simp only [Value.slice.injEq, true_and] at q1
        obtain ⟨rfl, rfl⟩ := q1
        simp only at k1 k2 k3
        simp (disch := omega) only [go_sem, ↓cw_block, dsB_of, r0, r3, r4, rd]
        refine draw0 (lk [(0, true), (1, true), (2, true), (3, true), (4, true), (5, true), (6, true), (7, true), (8, true), (9, true), (10, true), (11, true), (12, true), (13, true), (14, true), (15, true), (16, true), (17, true), (18, true), (19, true), (20, true), (21, true), (22, true)] .fin) T.mixed ?_
        simp (disch := omega) only [go_sem, ↓cw_block, dsB_of, r0, r3, r4, rd, k1, k2, k3]
        exact fin ⟨l.length - (i + 1), by omega, i + 1, _, rfl, by omega, hs, rfl, by simp (disch := omega) only [go_sem, ↓cw_block, dsB_of, r0, r3, r4, rd, hxi]; simp [i64w]⟩
      · rw [if_neg hn] at hs
        subst hs
        simp (disch := omega) only [go_sem, ↓cw_block, dsB_of, r0, r3, r4, rd]
        exact fin ⟨rfl, rfl⟩
    · rw [List.drop_eq_nil_of_le (by omega)] at hs
      unfold smallL at hs
      subst hs
      simp (disch := omega) only [go_sem, ↓cw_block, dsB_of, r0, r3, r4, rd]
      exact fin ⟨rfl, rfl⟩
end
end Go.Proofs.Ytceipfakbklcbaa


/- The document's answer to which lists are trees: Right. -/
namespace Go.Proofs.Ytceipfakbklcbaa
open Go.HL
set_option maxRecDepth 10000
set_option linter.unusedSimpArgs false
set_option linter.unusedVariables false

/-- The kids of nodes that were walked over. -/
theorem walkK_ok {l : List Nd} {ih : Nat → Nat × Bool} {Q : Nat → Prop} (h : ∀ i e, i < l.length → ih i = (e, true) → i < e ∧ e ≤ l.length ∧ ∀ j, i ≤ j → j < e → Q j) :
    ∀ (ks : List Int) (i e : Nat), i ≤ l.length → walkK l ih ks i = (e, true) → i ≤ e ∧ e ≤ l.length ∧ (∀ k ∈ ks, (i : Int) ≤ k ∧ k < e) ∧ ∀ j, i ≤ j → j < e → Q j
  | [], i, e, hi, hw => by
    simp [walkK] at hw
    subst hw
    exact ⟨by omega, hi, by simp, by intro j h1 h2; omega⟩
  | k :: ks, i, e, hi, hw => by
    unfold walkK at hw
    split at hw
    · rename_i hc
      split at hw
      · rename_i hok
        obtain ⟨a1, a2, a3⟩ := h i (ih i).1 hc.2 (by rw [← hok])
        obtain ⟨b1, b2, b3, b4⟩ := walkK_ok h ks (ih i).1 e a2 hw
        refine ⟨by omega, b2, ?_, ?_⟩
        · intro k' hk'
          rw [List.mem_cons] at hk'
          rcases hk' with rfl | hk'
          · omega
          · have := b3 k' hk'; omega
        · intro j h1 h2
          by_cases hj : j < (ih i).1
          · exact a3 j h1 hj
          · exact b4 j (by omega) h2
      · simp at hw
    · simp at hw
theorem walkM_ok {l : List Nd} : ∀ (d i e : Nat), i < l.length → walkM l d i = (e, true) → i < e ∧ e ≤ l.length ∧ ∀ j, i ≤ j → j < e → ∀ k ∈ (l.getD j nd0').kids, (j : Int) < k ∧ k < l.length
  | 0, i, e, hi, hw => by simp [walkM] at hw
  | d + 1, i, e, hi, hw => by
    unfold walkM at hw
    obtain ⟨b1, b2, b3, b4⟩ := walkK_ok (l := l) (ih := walkM l d) (Q := fun j => ∀ k ∈ (l.getD j nd0').kids, (j : Int) < k ∧ k < l.length) (fun i' e' hi' hw' => walkM_ok d i' e' hi' hw') (l.getD i nd0').kids (i + 1) e (by omega) hw
    refine ⟨by omega, b2, ?_⟩
    intro j h1 h2 k hk
    by_cases hj : j = i
    · subst hj
      have := b3 k hk
      omega
    · exact b4 j (by omega) h2 k hk
theorem kok_of {l : List Nd} (h : walkM l 20 0 = (l.length, true)) (hl : 0 < l.length) {i : Nat} {n : Nd} (hi : l[i]? = some n) : KOk l n := by
  obtain ⟨_, _, h3⟩ := walkM_ok 20 0 l.length hl h
  have hil := (List.getElem?_eq_some_iff.1 hi).1
  have hn : l.getD i nd0' = n := by rw [List.getD_eq_getElem?_getD, hi]; rfl
  intro j k hk
  have := h3 i (by omega) hil k (by rw [hn]; exact List.mem_of_getElem? hk)
  omega
section
variable {H : Heap} {S : Nat → Prop} {v : Value} {l : List Nd}
end
end Go.Proofs.Ytceipfakbklcbaa
