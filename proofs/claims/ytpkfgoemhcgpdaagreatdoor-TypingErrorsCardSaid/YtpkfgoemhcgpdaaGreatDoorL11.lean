/- The two answers to which lists are trees are the same: nodes, the whole. -/
import Derived.Test.YtpkfgoemhcgpdaaGreatDoorL10
import Derived.Test.YtpkfgoemhcgpdaaGreatDoorL07
namespace Go.Proofs.YtpkfgoemhcgpdaaGreatDoor
open Go.HL
set_option maxRecDepth 10000
set_option linter.unusedSimpArgs false
set_option linter.unusedVariables false

section
variable {l : List Nd} {n : Nd}
theorem nums_0 : numsM n 0 0 = withinM n.nums [] := by
  unfold numsM withinM
  cases h : n.nums with
  | nil => simp [allR_zero]
  | cons a t => simp
theorem nums_1 {m : Int} : numsM n 1 m = withinM n.nums [(0, m)] := by
  unfold numsM withinM
  match h : n.nums with
  | [] => simp
  | [a] => simp [allR_one]
  | a :: b :: t => simp
theorem nums_4 : (numsM n 4 999999 && (decide (n.nums.getD 2 0 ≤ 1) && decide (n.nums.getD 3 0 ≤ 1))) = withinM n.nums [(0, 999999), (0, 999999), (0, 1), (0, 1)] := by
  unfold numsM withinM
  match h : n.nums with
  | [] => simp
  | [a] => simp
  | [a, b] => simp
  | [a, b, c] => simp
  | [a, b, c, d] =>
    rw [Bool.eq_iff_iff]
    simp [allR_four]
    omega
  | a :: b :: c :: d :: e :: t => simp
theorem nums_2 : (decide (n.nums.length = 2) && (inB (n.nums.getD 0 0) 0 999999 && inB (n.nums.getD 1 0) (-999999) 999999)) = withinM n.nums [(0, 999999), (-999999, 999999)] := by
  unfold inB withinM
  match h : n.nums with
  | [] => simp
  | [a] => simp
  | [a, b] => simp [allR_two]
  | a :: b :: c :: t => simp
theorem vars_eq : allM l n (varsN l n) 6 15 = pAllM ((n.kids.map (knd l)).dropWhile fun x => decide (x = 2)) 2 := by
  have key : ∀ ks : List Int, allR ks.length (fun i => decide (i < (ks.takeWhile fun x => decide (x = 2)).length) || inB (ks.getD i 0) 6 15) = pAllM (ks.dropWhile fun x => decide (x = 2)) 2 := by
    intro ks
    induction ks with
    | nil => rfl
    | cons a t ih =>
      by_cases ha : a = 2
      · rw [List.dropWhile_cons_of_pos (by simpa using ha), ← ih, List.takeWhile_cons_of_pos (by simpa using ha)]
        rw [Bool.eq_iff_iff, allR_iff, allR_iff]
        constructor
        · intro h j hj
          have := h (j + 1) (by simp; omega)
          simpa using this
        · intro h j hj
          cases j with
          | zero => simp
          | succ j =>
            have := h j (by simp at hj; omega)
            simpa using this
      · rw [List.dropWhile_cons_of_neg (by simpa using ha), List.takeWhile_cons_of_neg (by simpa using ha)]
        unfold pAllM
        exact allR_congr (fun j hj => by rw [sort2]; simp)
  rw [← key]
  unfold allM varsN
  rw [List.length_map]
  refine allR_congr (fun j hj => ?_)
  rw [kid_map hj]
  have : ((n.kids.map (knd l)).takeWhile fun x => decide (x = 2)) = (n.kids.takeWhile fun k => decide (knd l k = 2)).map (knd l) := by
    rw [List.takeWhile_map]; rfl
  rw [this, List.length_map]
theorem zero_eq : decide (n.kids.length = 0) = decide ((n.kids.map (knd l)).length = 0) := by rw [List.length_map]
set_option maxHeartbeats 2000000 in
theorem node_eq (hk : n.kids.length ≤ 800) : nodeM l n = nodeP l n := by
  unfold nodeM nodeP
  by_cases e0 : n.kind = 0
  · rw [e0]
    have hw : wcount 0 = 0 := rfl
    simp only [reduceIte, Int.reduceEq, hw]
    rw [nums_0, all_eq sort1]
    rfl
  by_cases e1 : n.kind = 1
  · rw [e1]
    have hw : wcount 1 = 1 := rfl
    simp only [reduceIte, Int.reduceEq, hw]
    rw [zero_eq (l := l), ← Bool.and_assoc (decide _) (decide _) (decide _), ← Bool.and_assoc (numsM _ _ _), nums_4]
    rfl
  by_cases e2 : n.kind = 2
  · rw [e2]
    have hw : wcount 2 = 1 := rfl
    simp only [reduceIte, Int.reduceEq, hw]
    rw [zero_eq (l := l), ← Bool.and_assoc (inB _ _ _) (inB _ _ _), ← Bool.and_assoc (decide (n.nums.length = 2)), nums_2]
    rfl
  by_cases e3 : n.kind = 3
  · rw [e3]
    have hw : wcount 3 = 1 := rfl
    simp only [reduceIte, Int.reduceEq, hw]
    rw [nums_1, vars_eq]
    rfl
  by_cases e4 : n.kind = 4
  · rw [e4]
    have hw : wcount 4 = 0 := rfl
    simp only [reduceIte, Int.reduceEq, hw]
    rw [nums_0, exprs_eq, ex_100]
    rfl
  by_cases e5 : n.kind = 5
  · rw [e5]
    have hw : wcount 5 = 0 := rfl
    simp only [reduceIte, Int.reduceEq, hw]
    rw [nums_0, zero_eq (l := l)]
    rfl
  by_cases e6 : n.kind = 6
  · rw [e6]
    have hw : wcount 6 = 1 := rfl
    simp only [reduceIte, Int.reduceEq, hw]
    rw [nums_0, exprs_eq, ex_100]
    rfl
  by_cases e7 : n.kind = 7
  · rw [e7]
    have hw : wcount 7 = 1 := rfl
    simp only [reduceIte, Int.reduceEq, hw]
    rw [nums_0, exprs_eq, ex_100]
    rfl
  by_cases e8 : n.kind = 8
  · rw [e8]
    have hw : wcount 8 = 2 := rfl
    simp only [reduceIte, Int.reduceEq, hw]
    rw [nums_1, zero_eq (l := l)]
    rfl
  by_cases e9 : n.kind = 9
  · rw [e9]
    have hw : wcount 9 = 0 := rfl
    simp only [reduceIte, Int.reduceEq, hw]
    rw [nums_1, exprs_eq, ex_100]
    rfl
  by_cases e10 : n.kind = 10
  · rw [e10]
    have hw : wcount 10 = 0 := rfl
    simp only [reduceIte, Int.reduceEq, hw]
    rw [nums_1, exprs_eq, ex_018 _ (by rw [List.length_map]; exact hk)]
    rfl
  by_cases e11 : n.kind = 11
  · rw [e11]
    have hw : wcount 11 = 0 := rfl
    simp only [reduceIte, Int.reduceEq, hw]
    rw [nums_0, exprs_eq, ex_112]
    rfl
  by_cases e12 : n.kind = 12
  · rw [e12]
    have hw : wcount 12 = 0 := rfl
    simp only [reduceIte, Int.reduceEq, hw]
    rw [nums_0, exprs_eq, ex_111]
    rfl
  by_cases e13 : n.kind = 13
  · rw [e13]
    have hw : wcount 13 = 0 := rfl
    simp only [reduceIte, Int.reduceEq, hw]
    rw [nums_0, exprs_eq, ex_011]
    rfl
  by_cases e14 : n.kind = 14
  · rw [e14]
    have hw : wcount 14 = 0 := rfl
    simp only [reduceIte, Int.reduceEq, hw]
    rw [nums_0, zero_eq (l := l)]
    rfl
  by_cases e15 : n.kind = 15
  · rw [e15]
    have hw : wcount 15 = 0 := rfl
    simp only [reduceIte, Int.reduceEq, hw]
    rw [nums_0, zero_eq (l := l)]
    rfl
  by_cases e16 : n.kind = 16
  · rw [e16]
    have hw : wcount 16 = 0 := rfl
    simp only [reduceIte, Int.reduceEq, hw]
    rw [nums_0, all_eq sort2]
    rfl
  by_cases e17 : n.kind = 17
  · rw [e17]
    have hw : wcount 17 = 0 := rfl
    simp only [reduceIte, Int.reduceEq, hw]
    rw [nums_1, zero_eq (l := l)]
    rfl
  by_cases e18 : n.kind = 18
  · rw [e18]
    have hw : wcount 18 = 1 := rfl
    simp only [reduceIte, Int.reduceEq, hw]
    rw [nums_0, zero_eq (l := l)]
    rfl
  by_cases e19 : n.kind = 19
  · rw [e19]
    have hw : wcount 19 = 1 := rfl
    simp only [reduceIte, Int.reduceEq, hw]
    rw [nums_0, zero_eq (l := l)]
    rfl
  by_cases e20 : n.kind = 20
  · rw [e20]
    have hw : wcount 20 = 0 := rfl
    simp only [reduceIte, Int.reduceEq, hw]
    rw [nums_0, exprs_eq, ex_100]
    rfl
  by_cases e21 : n.kind = 21
  · rw [e21]
    have hw : wcount 21 = 0 := rfl
    simp only [reduceIte, Int.reduceEq, hw]
    rw [nums_0, exprs_eq, ex_100]
    rfl
  by_cases e22 : n.kind = 22
  · rw [e22]
    have hw : wcount 22 = 0 := rfl
    simp only [reduceIte, Int.reduceEq, hw]
    rw [nums_1, exprs_eq, ex_200]
    rfl
  have hf : kidsM n.kind (n.kids.map (knd l)) = false := by
    unfold kidsM
    rw [if_neg e0, if_neg e3, if_neg e16, if_neg e10, if_neg e11, if_neg e12, if_neg e13, if_neg (by omega), if_neg e22, if_neg (by omega)]
  rw [hf]
  simp [e0, e1, e2, e3, e4, e5, e6, e7, e8, e9, e10, e11, e12, e13, e14, e15, e16, e17, e18, e19, e20, e21, e22]
end
/-- How many kids were walked over? -/
theorem walkK_cnt {l : List Nd} {ih : Nat → Nat × Bool} (h : ∀ i e, i < l.length → ih i = (e, true) → i < e ∧ e ≤ l.length) : ∀ (ks : List Int) (i e : Nat), i ≤ l.length → walkK l ih ks i = (e, true) → i + ks.length ≤ e ∧ e ≤ l.length
  | [], i, e, hi, hw => by simp [walkK] at hw; subst hw; simp [hi]
  | k :: ks, i, e, hi, hw => by
    unfold walkK at hw
    split at hw
    · rename_i hc
      split at hw
      · rename_i hok
        have h1 := h i (ih i).1 hc.2 (by rw [← hok])
        have := walkK_cnt h ks (ih i).1 e h1.2 hw
        simp; omega
      · simp at hw
    · simp at hw
/-- The walks agree. -/
theorem treeK_iff {l : List Nd} {w t : Nat → Nat × Bool} {Q : Nat → Prop} (h1 : ∀ i e, i < l.length → w i = (e, true) → i < e ∧ e ≤ l.length) (h2 : ∀ i, l.length ≤ i → (t i).2 = false)
    (h : ∀ i e, i < l.length → (t i = (e, true) ↔ w i = (e, true) ∧ ∀ j, i ≤ j → j < e → Q j)) :
    ∀ (ks : List Int) (i e : Nat), i ≤ l.length → (treeK t ks i = (e, true) ↔ walkK l w ks i = (e, true) ∧ ∀ j, i ≤ j → j < e → Q j)
  | [], i, e, hi => by
    simp only [treeK, walkK]
    constructor
    · intro h; simp at h; subst h; exact ⟨rfl, fun j h1 h2 => by omega⟩
    · exact fun h => h.1
  | k :: ks, i, e, hi => by
    unfold treeK walkK
    by_cases hk : k = i
    · by_cases hi' : i < l.length
      · rw [if_pos hk, if_pos (show k = (i : Int) ∧ i < l.length from ⟨hk, hi'⟩)]
        have hx := fun e => h i e hi'
        constructor
        · intro ht
          split at ht
          · rename_i hok
            have e1 := (hx (t i).1).1 (by rw [← hok])
            have g := h1 i _ hi' e1.1
            have e2 := (treeK_iff h1 h2 h ks (t i).1 e g.2).1 ht
            rw [if_pos (by rw [e1.1])]
            have e3 : (w i).1 = (t i).1 := by rw [e1.1]
            rw [e3]
            exact ⟨e2.1, fun j a b => if hj : j < (t i).1 then e1.2 j a hj else e2.2 j (by omega) b⟩
          · simp at ht
        · rintro ⟨hw, hQ⟩
          split at hw
          · rename_i hok
            have g := h1 i (w i).1 hi' (by rw [← hok])
            have cnt := walkK_cnt h1 ks (w i).1 e g.2 hw
            have e1 := (hx (w i).1).2 ⟨by rw [← hok], fun j a b => hQ j a (by omega)⟩
            rw [if_pos (by rw [e1])]
            have e3 : (t i).1 = (w i).1 := by rw [e1]
            rw [e3]
            exact (treeK_iff h1 h2 h ks (w i).1 e g.2).2 ⟨hw, fun j a b => hQ j (by omega) b⟩
          · simp at hw
      · rw [if_pos hk, if_neg (show ¬ (k = (i : Int) ∧ i < l.length) from fun e => hi' e.2), h2 i (by omega)]
        simp
    · rw [if_neg hk, if_neg (show ¬ (k = (i : Int) ∧ i < l.length) from fun e => hk e.1)]
      simp
theorem tree_iff {l : List Nd} : ∀ (d i e : Nat), i < l.length → (treeM l d i = (e, true) ↔ walkM l d i = (e, true) ∧ ∀ j, i ≤ j → j < e → nodeP l (l.getD j nd0') = true)
  | 0, i, e, hi => by simp [treeM, walkM]
  | d + 1, i, e, hi => by
    have hw1 : ∀ i e, i < l.length → walkM l d i = (e, true) → i < e ∧ e ≤ l.length := fun i e h1 h2 => by have := walkM_ok d i e h1 h2; exact ⟨this.1, this.2.1⟩
    have key := treeK_iff (l := l) (w := walkM l d) (t := treeM l d) (Q := fun j => nodeP l (l.getD j nd0') = true) hw1
      (fun i hi => by cases d with
        | zero => rfl
        | succ d => unfold treeM; rw [if_neg (by omega)])
      (fun i e hi => tree_iff d i e hi) (l.getD i nd0').kids (i + 1)
    unfold treeM walkM
    rw [if_pos hi]
    constructor
    · intro ht
      split at ht
      · rename_i hok
        simp only [Prod.mk.injEq] at ht
        have k1 := (key e (by omega)).1 (by rw [← ht.1, ← hok])
        exact ⟨k1.1, fun j a b => if hj : j = i then by rw [hj]; exact ht.2 else k1.2 j (by omega) b⟩
      · simp at ht
    · rintro ⟨hw, hQ⟩
      have cnt := walkK_cnt hw1 (l.getD i nd0').kids (i + 1) e (by omega) hw
      have k1 := (key e (by omega)).2 ⟨hw, fun j a b => hQ j (by omega) b⟩
      rw [k1]
      simp only [if_true]
      rw [hQ i (by omega) (by omega)]
theorem kids_len {l : List Nd} (d : Nat) : ∀ (i e : Nat), i < l.length → walkM l d i = (e, true) → ∀ j, i ≤ j → j < e → (l.getD j nd0').kids.length ≤ l.length := by
  induction d with
  | zero => intro i e hi hw; simp [walkM] at hw
  | succ d IH =>
    intro i e hi hw j h1 h2
    unfold walkM at hw
    by_cases hj : j = i
    · subst hj
      have := walkK_cnt (l := l) (ih := walkM l d) (fun i e h1 h2 => by have := walkM_ok d i e h1 h2; exact ⟨this.1, this.2.1⟩) _ (j + 1) e (by omega) hw
      omega
    · have := walkK_ok (l := l) (ih := walkM l d) (Q := fun j => (l.getD j nd0').kids.length ≤ l.length) (fun i' e' hi' hw' => by
        have h := walkM_ok d i' e' hi' hw'
        exact ⟨h.1, h.2.1, IH i' e' hi' hw'⟩) _ (i + 1) e (by omega) hw
      exact this.2.2.2 j (by omega) h2
theorem right_eq (l : List Nd) : prRightM l = rightM l := by
  unfold prRightM rightM
  by_cases h1 : 0 < l.length
  rotate_left
  · simp [h1]
  by_cases h2 : l.length ≤ 800
  rotate_left
  · simp [h2]
  congr 1
  congr 1
  congr 1
  rw [Bool.eq_iff_iff]
  simp only [Bool.and_eq_true, decide_eq_true_eq, allR_iff]
  have key := tree_iff (l := l) 20 0 l.length h1
  constructor
  · rintro ⟨a, b⟩
    have e : treeM l 20 0 = (l.length, true) := by rw [← a, ← b]
    obtain ⟨w, hn⟩ := key.1 e
    refine ⟨by rw [w], by rw [w], fun j hj => ?_⟩
    rw [node_eq (by have := kids_len 20 0 _ h1 w j (by omega) hj; omega)]
    exact hn j (by omega) hj
  · rintro ⟨a, b, c⟩
    have w : walkM l 20 0 = (l.length, true) := by rw [← a, ← b]
    have := key.2 ⟨w, fun j _ hj => by
      rw [← node_eq (by have := kids_len 20 0 _ h1 w j (by omega) hj; omega)]
      exact c j hj⟩
    rw [this]
    exact ⟨rfl, rfl⟩
end Go.Proofs.YtpkfgoemhcgpdaaGreatDoor

namespace Go.Proofs.YtpkfgoemhcgpdaaGreatDoor
open Go.HL
set_option maxRecDepth 10000
set_option linter.unusedSimpArgs false
set_option linter.unusedVariables false

def inL (l : List Str) (s : Str) : Bool := l.any (· == s)
theorem inL_true {l : List Str} {s : Str} {i : Nat} (h : l[i]? = some s) : inL l s = true := by
  unfold inL; rw [List.any_eq_true]; exact ⟨s, List.mem_of_getElem? h, by simp⟩
theorem inL_false {l : List Str} {s : Str} (h : ∀ j, j < l.length → ¬ l.getD j [] = s) : inL l s = false := by
  unfold inL; rw [List.any_eq_false]
  intro x hx
  obtain ⟨i, hi⟩ := List.getElem?_of_mem hx
  have hil := (List.getElem?_eq_some_iff.1 hi).1
  have := h i hil
  rw [List.getD_eq_getElem?_getD, hi] at this
  simpa using this
section
variable {H : Heap} {S : Nat → Prop} {v : Value} {ws : List Str} {s : Str}
theorem sIndex_spec (h : Rd H S 1 v (ws.map sv)) (hl : ws.length ≤ 9223372036854775807) : CallF Tryz.prog 84 [v, sv s] H (fun r H' => H = H' ∧ ∃ n : Int, r = iv n ∧ (0 ≤ n ↔ inL ws s = true) ∧ (∀ i : Nat, n = i → i < ws.length ∧ ws[i]? = some s ∧ ∀ j, j < i → ¬ ws.getD j [] = s)) NoP := by
  obtain ⟨av, cv, rfl⟩ := h.len1
  refine callF_of Tryz.func84 rfl Tryz.ntmps84 Tryz.results84 (by decide) rfl ?_
  simp (disch := omega) only [go_sem, ↓cw_block, dsB_of]
  refine loop_by (fun k ρ H2 => ∃ i : Nat, k = ws.length - i ∧ i ≤ ws.length ∧ (∀ j, j < i → ¬ ws.getD j [] = s) ∧ H = H2 ∧ (ρ.get 0 = .slice av ws.length cv ∧ ρ.get 1 = sv s ∧ ρ.get 7 = iv ws.length ∧ ρ.get 8 = iv i ∧ ρ.ds = [])) (k := ws.length) ?_ ?_
  · exact ⟨0, rfl, by omega, by omega, rfl, by simp (disch := omega) only [go_sem, ↓cw_block, dsB_of]⟩
  · rintro k ρ _ ⟨i, rfl, hi, hall, rfl, r0, r1, r7, r8, rd⟩
    have hxi : (i : Int) + 1 = ((i + 1 : Nat) : Int) := by omega
    by_cases hin : i < ws.length
    · have hg := getD_some (d := ([] : Str)) hin
      obtain ⟨b, o, cap, q1, -, q2⟩ := h.at1 hg
      simp only [Value.slice.injEq, true_and] at q1
      obtain ⟨rfl, rfl⟩ := q1
      by_cases hs : s = ws.getD i []
      · have hd : decide (s = ws.getD i []) = true := by simpa using hs
        simp (disch := omega) only [go_sem, ↓cw_block, dsB_of, r0, r1, r7, r8, rd, q2, hd]
        refine fin ⟨rfl, i, rfl, ⟨fun _ => inL_true (i := i) (by rw [hg, hs]), fun _ => by omega⟩, ?_⟩
        intro i' e
        have : i' = i := by omega
        subst this
        exact ⟨hin, by rw [hg, ← hs], hall⟩
      · have hd : decide (s = ws.getD i []) = false := by simpa using hs
        simp (disch := omega) only [go_sem, ↓cw_block, dsB_of, r0, r1, r7, r8, rd, q2, hd]
        refine fin ⟨ws.length - (i + 1), by omega, i + 1, rfl, by omega, ?_, rfl, by simp (disch := omega) only [go_sem, ↓cw_block, dsB_of, r0, r1, r7, r8, rd, hxi]⟩
        intro j hj
        by_cases e : j = i
        · subst e; exact fun h => hs h.symm
        · exact hall j (by omega)
    · obtain rfl : i = ws.length := by omega
      simp (disch := omega) only [go_sem, ↓cw_block, dsB_of, r0, r1, r7, r8, rd]
      refine fin ⟨rfl, -1, rfl, ?_, fun i e => by omega⟩
      rw [inL_false hall]
      simp
theorem sContains_spec (h : Rd H S 1 v (ws.map sv)) (hl : ws.length ≤ 9223372036854775807) : CallF Tryz.prog 65 [v, sv s] H (fun r H' => H = H' ∧ r = .bool (inL ws s)) NoP := by
  refine callF_of Tryz.func65 rfl Tryz.ntmps65 Tryz.results65 (by decide) rfl ?_
  simp (disch := omega) only [go_sem, ↓cw_block, dsB_of]
  refine call_to (sIndex_spec h hl) ?_
  rintro _ _ ⟨rfl, n, rfl, hn, -⟩
  simp (disch := omega) only [go_sem, ↓cw_block, dsB_of]
  refine fin ⟨rfl, ?_⟩
  rw [Bool.eq_iff_iff.2 (show decide (0 ≤ n) = true ↔ inL ws s = true by simpa using hn)]
end
/-- The item of a list in which a node stands. -/
def itemL (ks : List Int) (i : Int) : Int := ks.foldl (fun out k => if k ≤ i then k else out) 0
def itemM' (l : List Nd) (i : Int) : Int := itemL (l.getD 0 nd0').kids i
theorem itemL_step {ks : List Int} {j : Nat} {k i : Int} (h : ks[j]? = some k) : itemL (ks.take (j + 1)) i = if k ≤ i then k else itemL (ks.take j) i := by
  unfold itemL; rw [List.take_add_one, h]; simp
section
variable {H : Heap} {S : Nat → Prop} {v : Value} {l : List Nd}
end
end Go.Proofs.YtpkfgoemhcgpdaaGreatDoor

namespace Go.Proofs.YtpkfgoemhcgpdaaGreatDoor
open Go.HL
set_option maxRecDepth 10000
set_option linter.unusedSimpArgs false
set_option linter.unusedVariables false

def w0 (n : Nd) : Str := n.words.getD 0 []
def w1 (n : Nd) : Str := n.words.getD 1 []
def nodeAt (l : List Nd) (i : Nat) : Nd := l.getD i nd0'
def namesU (l : List Nd) (it kind : Int) : Nat → List Str
  | 0 => []
  | i + 1 => if (nodeAt l i).kind = kind ∧ (itemM' l i = i ∨ itemM' l i = it) then (if inL (namesU l it kind i) (w0 (nodeAt l i)) then namesU l it kind i else namesU l it kind i ++ [w0 (nodeAt l i)]) else namesU l it kind i
def namesM (l : List Nd) (i : Nat) (kind : Int) : List Str := namesU l (itemM' l i) kind i
theorem namesU_len {l : List Nd} {it kind : Int} : ∀ i, (namesU l it kind i).length ≤ i
  | 0 => by simp [namesU]
  | i + 1 => by
    have := namesU_len (l := l) (it := it) (kind := kind) i
    unfold namesU
    split
    · split
      · omega
      · simp; omega
    · omega
/-- Words are there where they are asked for. -/
def WOk (l : List Nd) : Prop := ∀ (i : Nat) n, l[i]? = some n → n.words.length = wcount n.kind
def bad11 (l : List Nd) (i : Nat) : Bool :=
  let n := nodeAt l i
  let C := namesM l i 1
  let V := namesM l i 2
  let P := namesM l i 3
  if n.kind = 1 ∨ n.kind = 2 ∨ n.kind = 3 then inL C (w0 n) || (inL V (w0 n) || inL P (w0 n))
  else if n.kind = 6 ∨ n.kind = 18 then !inL V (w0 n)
  else if n.kind = 7 ∨ n.kind = 19 then !inL C (w0 n)
  else if n.kind = 8 then (!inL C (w0 n) || !inL V (w1 n))
  else false
/-- The first number of some from one on of which something holds. -/
def firstT (g : Nat → Bool) : Nat → Nat → Option Nat
  | 0, _ => none
  | m + 1, i => if g i then some i else firstT g m (i + 1)
def fltOf (l : List Nd) : Option Nat → Flt
  | none => ⟨0, 0⟩
  | some i => ⟨20, (nodeAt l i).pos⟩
def check11 (l : List Nd) : Flt := fltOf l (firstT (bad11 l) l.length 0)
section
variable {H : Heap} {S : Nat → Prop} {v : Value} {l : List Nd}
end
end Go.Proofs.YtpkfgoemhcgpdaaGreatDoor

namespace Go.Proofs.YtpkfgoemhcgpdaaGreatDoor
open Go.HL
set_option maxRecDepth 10000
set_option linter.unusedSimpArgs false
set_option linter.unusedVariables false
section
variable {H H' : Heap} {p : Nat} {tv : Value} {L : List Tok} {s s' : PS}
theorem pBegin_spec (h : PM H p tv L s) {k : Int} : CallF Tryz.prog 39 [hp p, iv k] H (fun r H' => Fr [] H H' ∧ r = .agg (nd0 (beginM L k s)).toArray) NoP := by
  obtain ⟨G, hG⟩ : ∃ G, G = H.push (.cells #[iv 0, noS, noS, noS, iv 0, noS] 72) := ⟨_, rfl⟩
  have f0 : Fr [] H G := by rw [hG]; exact Fr.push
  have h0 := h.grow f0
  have b0 : Blk G H.size 72 [iv 0, noS, noS, noS, iv 0, noS] := by rw [hG]; exact Blk.new rfl
  refine callF_of Tryz.func39 rfl Tryz.ntmps39 Tryz.results39 (by decide) rfl ?_
  simp (disch := omega) only [go_sem, ↓cw_block, dsB_of]
  rw [← hG]
  refine call_to (pNow_spec h0) ?_
  intro v H1 hv
  refine Hush.out ?_
  have f1 := hv.1
  have b1 := f1.blk b0 (by simp)
  obtain rfl := hv.2
  obtain ⟨H2, e1, e2, e3⟩ := store_blk (P := Tryz.prog) (ty := 72) (new := [iv k, noS, noS, noS, iv (tkM L s).pos, noS]) b1 rfl T.size72 (one_all rfl)
  have e4 : cellsH (cellH H2) ⟨H.size, 0, none⟩ 0 6 = some [iv k, noS, noS, noS, iv (tkM L s).pos, noS] := e2.cells0
  refine ⟨?_⟩
  simp (disch := omega) only [go_sem, ↓cw_block, dsB_of, tokC, e1, e4]
  exact fin ⟨fr_new (f0.trans f1) e3 (by simp), rfl⟩
end
end Go.Proofs.YtpkfgoemhcgpdaaGreatDoor

namespace Go.Proofs.YtpkfgoemhcgpdaaGreatDoor
open Go.HL
set_option maxRecDepth 10000
set_option linter.unusedSimpArgs false
set_option linter.unusedVariables false

abbrev TT := Nd × Fo
def binM (sg : Int) (a b : TT) : TT := (⟨22, [], [sg], [], a.1.pos⟩, .cons a.1 a.2 (.cons b.1 b.2 .nil))
section
variable {H H' : Heap} {S : Nat → Prop} {cs : List Value} {n : Nd} {f : Fo}
theorem TR.form (h : TR H S cs n f) : ∃ a1 l1 c1 a2 l2 c2 a3 l3 c3 a4 l4 c4, cs = [iv n.kind, .slice a1 l1 c1, .slice a2 l2 c2, .slice a3 l3 c3, iv n.pos, .slice a4 l4 c4] := by
  obtain ⟨wv, nv, kv, lv, rfl, h1, es, h2, h3⟩ := h
  obtain ⟨a1, l1, c1, rfl⟩ := Rd.slice h1.w
  obtain ⟨a2, l2, c2, rfl⟩ := Rd.slice h1.u
  have h3k := h1.k.1
  subst h3k
  obtain ⟨a4, l4, c4, rfl⟩ := Rd.slice h2
  exact ⟨a1, l1, c1, a2, l2, c2, none, 0, 0, a4, l4, c4, rfl⟩
theorem TR.grow (h : TR H S cs n f) (hf : Fr [] H H') : TR H' S cs n f := h.frame (Keeps.of_fr hf (by simp))
theorem Rd.of_blk {b t z len : Nat} {vs : List Value} (hb : Blk H b t vs) (hl : vs.length = len * z) (hs : S b) {c : Nat} : Rd H S z (.slice (some ⟨b, 0, none⟩) len c) vs :=
  ⟨_, len, c, rfl, hl, fun i x hx => ⟨b, 0, rfl, hs, by rw [Nat.zero_add, hb.cell]; exact hx⟩⟩
theorem Rd.none' {z c : Nat} : Rd H S z noS [] := Rd.nil
theorem TR.two {na nb : Nd} {fa fb : Fo} {ca cb : List Value} (ha : TR H S ca na fa) (hb : TR H S cb nb fb) : FL H S (ca ++ cb) (.cons na fa (.cons nb fb .nil)) := by
  have h1 : FL H S [] .nil := rfl
  exact (h1.snoc ha).snoc hb
theorem r9bin_spec {sg : Int} {a b : TT} {ca cb : List Value} (ha : TR H S ca a.1 a.2) (hb : TR H S cb b.1 b.2) (hS : ∀ x, H.size ≤ x → S x) :
    CallF Tryz.prog 80 [iv sg, .agg ca.toArray, .agg cb.toArray] H (fun r H' => Fr [] H H' ∧ ∃ cs, r = .agg cs.toArray ∧ TR H' S cs (binM sg a b).1 (binM sg a b).2) NoP := by
  obtain ⟨a1, l1, c1, a2, l2, c2, a3, l3, c3, a4, l4, c4, ea⟩ := ha.form
  obtain ⟨b1, m1, d1, b2, m2, d2, b3, m3, d3, b4, m4, d4, eb⟩ := hb.form
  obtain ⟨G1, hG1⟩ : ∃ G, G = H.push (.cells ca.toArray 72) := ⟨_, rfl⟩
  obtain ⟨G2, hG2⟩ : ∃ G, G = G1.push (.cells cb.toArray 72) := ⟨_, rfl⟩
  obtain ⟨G3, hG3⟩ : ∃ G, G = G2.push (.cells #[iv 0, noS, noS, noS, iv 0, noS] 72) := ⟨_, rfl⟩
  obtain ⟨G4, hG4⟩ : ∃ G, G = G3.push (.cells #[iv sg] 3) := ⟨_, rfl⟩
  obtain ⟨G5, hG5⟩ : ∃ G, G = G4.push (.cells (ca ++ cb).toArray 72) := ⟨_, rfl⟩
  have k1 : Blk G1 H.size 72 ca := by rw [hG1]; exact Blk.new rfl
  have k2 : Blk G2 G1.size 72 cb := by rw [hG2]; exact Blk.new rfl
  have k3 : Blk G3 G2.size 72 [iv 0, noS, noS, noS, iv 0, noS] := by rw [hG3]; exact Blk.new rfl
  have k4 : Blk G4 G3.size 3 [iv sg] := by rw [hG4]; exact Blk.new rfl
  have k5 : Blk G5 G4.size 72 (ca ++ cb) := by rw [hG5]; exact Blk.new rfl
  have p1 : Fr [] H G1 := by rw [hG1]; exact Fr.push
  have p2 : Fr [] G1 G2 := by rw [hG2]; exact Fr.push
  have p3 : Fr [] G2 G3 := by rw [hG3]; exact Fr.push
  have p4 : Fr [] G3 G4 := by rw [hG4]; exact Fr.push
  have p5 : Fr [] G4 G5 := by rw [hG5]; exact Fr.push
  have z1 : G1.size = H.size + 1 := by rw [hG1]; simp
  have z2 : G2.size = H.size + 2 := by rw [hG2]; simp [z1]
  have z3 : G3.size = H.size + 3 := by rw [hG3]; simp [z2]
  have z4 : G4.size = H.size + 4 := by rw [hG4]; simp [z3]
  have ka := (((p2.trans p3).trans p4).blk k1 (by simp))
  have kb := ((p3.trans p4).blk k2 (by simp))
  have xa : cellsH (cellH G4) ⟨H.size, 0, none⟩ 0 6 = some ca := by have := ka.cells0; rw [ea] at this ⊢; exact this
  have xb : cellsH (cellH G4) ⟨G1.size, 0, none⟩ 0 6 = some cb := by have := kb.cells0; rw [eb] at this ⊢; exact this
  have xp : cellH G4 ⟨H.size, 4, none⟩ = some (iv a.1.pos) := by rw [ka.cell, ea]; rfl
  have k3' := (p4.trans p5).blk k3 (by simp)
  obtain ⟨G6, e1, e2, e3⟩ := store_blk (P := Tryz.prog) (ty := 72) (new := [iv 22, noS, .slice (some ⟨G3.size, 0, none⟩) 1 1, noS, iv a.1.pos, .slice (some ⟨G4.size, 0, none⟩) 2 2]) k3' rfl T.size72 (one_all rfl)
  have e4 : cellsH (cellH G6) ⟨G2.size, 0, none⟩ 0 6 = some [iv 22, noS, .slice (some ⟨G3.size, 0, none⟩) 1 1, noS, iv a.1.pos, .slice (some ⟨G4.size, 0, none⟩) 2 2] := e2.cells0
  have hall : Fr [] H G6 := fr_new ((((p1.trans p2).trans p3).trans p4).trans p5) e3 (by simp; omega)
  have h6a := ha.grow hall
  have h6b := hb.grow hall
  have q4 : Blk G6 G3.size 3 [iv sg] := e3.blk (p5.blk k4 (by simp)) (by simp; omega)
  have q5 : Blk G6 G4.size 72 (ca ++ cb) := e3.blk k5 (by simp; omega)
  have hres : TR G6 S [iv 22, noS, .slice (some ⟨G3.size, 0, none⟩) 1 1, noS, iv a.1.pos, .slice (some ⟨G4.size, 0, none⟩) 2 2] (binM sg a b).1 (binM sg a b).2 :=
    ⟨_, _, _, _, rfl, ⟨Rd.nil, Rd.of_blk q4 rfl (hS _ (by omega)), rfl, rfl⟩, _, Rd.of_blk q5 (by rw [ea, eb]; rfl) (hS _ (by omega)), h6a.two h6b⟩
  have bsx : buildSliceV Tryz.prog G4 70 2 [(0, .agg ca.toArray), (1, .agg cb.toArray)] = some (.slice (some ⟨G4.size, 0, none⟩) 2 2, G5) := by
    rw [hG5, ea, eb]; exact T.bs70_2
  refine Hush.out ?_
  refine ⟨?_⟩
  refine callF_of Tryz.func80 rfl Tryz.ntmps80 Tryz.results80 (by decide) rfl ?_
  simp (disch := omega) only [go_sem, ↓cw_block, dsB_of, ← hG1, ← hG2, ← hG3, ← hG4, xa, xb, xp, bsx, e1, e4]
  exact fin ⟨hall, _, rfl, hres⟩
end
end Go.Proofs.YtpkfgoemhcgpdaaGreatDoor

namespace Go.Proofs.YtpkfgoemhcgpdaaGreatDoor
open Go.HL
set_option maxRecDepth 10000
set_option linter.unusedSimpArgs false
set_option linter.unusedVariables false

inductive Cm where
  | expr | and | same | less | sum | product | part
  | orL (a : TT) | andL (a : TT) | sumL (a : TT) | prodL (a : TT)
def nameT (L : List Tok) (k : Int) (s0 s : PS) : TT × PS := ((⟨k, [(pnameM L s).1], [], [], (tkM L s0).pos⟩, .nil), (pnameM L s).2)
def stepE (L : List Tok) (ih : Cm → PS → Option (TT × PS)) : Cm → PS → Option (TT × PS)
  | .expr, s => (ih .and s).bind fun r => ih (.orL r.1) r.2
  | .orL a, s => if seesM L [124, 124] s then (ih .and (upM s)).bind fun r => ih (.orL (binM 0 a r.1)) r.2 else some (a, s)
  | .and, s => (ih .same s).bind fun r => ih (.andL r.1) r.2
  | .andL a, s => if seesM L [38, 38] s then (ih .same (upM s)).bind fun r => ih (.andL (binM 1 a r.1)) r.2 else some (a, s)
  | .same, s => (ih .less s).bind fun r => if seesM L [61, 61] r.2 then (ih .less (upM r.2)).map fun q => (binM 2 r.1 q.1, q.2) else some r
  | .less, s => (ih .sum s).bind fun r => if seesM L [60] r.2 then (ih .sum (upM r.2)).map fun q => (binM 3 r.1 q.1, q.2) else some r
  | .sum, s => (ih .product s).bind fun r => ih (.sumL r.1) r.2
  | .sumL a, s => if seesM L [43] s then (ih .product (upM s)).bind fun r => ih (.sumL (binM 4 a r.1)) r.2
    else if seesM L [45] s then (ih .product (upM s)).bind fun r => ih (.sumL (binM 5 a r.1)) r.2 else some (a, s)
  | .product, s => (ih .part s).bind fun r => ih (.prodL r.1) r.2
  | .prodL a, s => if seesM L [42] s then (ih .part (upM s)).bind fun r => ih (.prodL (binM 6 a r.1)) r.2
    else if seesM L [47] s then (ih .part (upM s)).bind fun r => ih (.prodL (binM 7 a r.1)) r.2
    else if seesM L [37] s then (ih .part (upM s)).bind fun r => ih (.prodL (binM 8 a r.1)) r.2 else some (a, s)
  | .part, s =>
    if isNum L s then some ((⟨17, [], [(pnumM L s).1], [], (tkM L s).pos⟩, .nil), (pnumM L s).2)
    else if seesM L [108, 101, 110] s then some (nameT L 19 s (upM s))
    else if seesM L [45] s || seesM L [33] s then
      if s.deep < -1000000000 ∨ 1000000000 < s.deep then none
      else if okM (inM L (upM s)) then (ih .part (inM L (upM s))).bind fun r => if r.2.deep < -1000000000 ∨ 1000000000 < r.2.deep then none else some ((⟨if seesM L [45] s then 20 else 21, [], [], [], (tkM L s).pos⟩, .cons r.1.1 r.1.2 .nil), outM r.2)
      else some ((⟨if seesM L [45] s then 20 else 21, [], [], [], (tkM L s).pos⟩, .nil), outM (inM L (upM s)))
    else if seesM L [40] s then
      if s.deep < -1000000000 ∨ 1000000000 < s.deep then none
      else if okM (inM L (upM s)) then (ih .expr (inM L (upM s))).bind fun r => if r.2.deep < -1000000000 ∨ 1000000000 < r.2.deep then none else some (r.1, mustM L [41] (outM r.2))
      else some ((beginM L 17 s, .nil), mustM L [41] (outM (inM L (upM s))))
    else some (nameT L 18 s s)
def runE (L : List Tok) : Nat → Cm → PS → Option (TT × PS)
  | 0 => fun _ _ => none
  | n + 1 => stepE L (runE L n)
/-- What a function that reads a tree answers. -/
def ExpQ (H : Heap) (p : Nat) (tv : Value) (L : List Tok) (r : TT × PS) (v : Value) (H' : Heap) : Prop :=
  PP H p tv L r.2 H' ∧ ∃ cs, v = .agg cs.toArray ∧ TR H' (fun b => H.size ≤ b) cs r.1.1 r.1.2
def FnE (L : List Tok) (f : Nat) (g : PS → Option (TT × PS)) : Prop := ∀ {H p tv s r}, PM H p tv L s → g s = some r → CallF Tryz.prog f [hp p] H (ExpQ H p tv L r) NoP
structure SpecE (L : List Tok) (ih : Cm → PS → Option (TT × PS)) : Prop where
  expr : FnE L 61 (ih .expr)
  and : FnE L 79 (ih .and)
  same : FnE L 96 (ih .same)
  less : FnE L 107 (ih .less)
  sum : FnE L 112 (ih .sum)
  product : FnE L 114 (ih .product)
  part : FnE L 115 (ih .part)
def z6 : List Value := [iv 0, noS, noS, noS, iv 0, noS]
/-- A tree in a box, and the box of the result. -/
structure XI (H H2 : Heap) (p : Nat) (tv : Value) (L : List Tok) (b3 : Nat) (cs : List Value) (a : TT) (s : PS) : Prop where
  pp : PP H p tv L s H2
  low : p < H.size
  res : Blk H2 H.size 72 z6
  box : Blk H2 b3 72 cs
  gt : H.size < b3
  tr : TR H2 (fun b => H.size < b ∧ b ≠ b3) cs a.1 a.2
section
variable {H H2 H3 H4 : Heap} {p : Nat} {tv : Value} {L : List Tok} {b3 : Nat} {cs cs2 : List Value} {a t : TT} {s s2 : PS}
theorem XI.step (x : XI H H2 p tv L b3 cs a s) (q : PP H2 p tv L s2 H3) : XI H H3 p tv L b3 cs a s2 :=
  ⟨x.pp.trans q, x.low, q.1.blk x.res (by have := x.low; simp; omega), q.1.blk x.box (by have := x.low; have := x.gt; simp; omega), x.gt,
   x.tr.frame (Keeps.of_fr q.1 (by have := x.low; rintro b ⟨h1, h2⟩; simp; omega))⟩
theorem XI.grow (x : XI H H2 p tv L b3 cs a s) (q : Fr [] H2 H3) : XI H H3 p tv L b3 cs a s := x.step ⟨q.nil, x.pp.2.grow q⟩
theorem XI.put (x : XI H H4 p tv L b3 cs a s) (ht : TR H4 (fun b => H.size < b ∧ b ≠ b3) cs2 t.1 t.2) : ∃ H5, storeA Tryz.prog H4 72 ⟨b3, 0, none⟩ (.agg cs2.toArray) = some H5 ∧ XI H H5 p tv L b3 cs2 t s := by
  have hl : cs.length = cs2.length := by
    obtain ⟨a1, l1, c1, a2, l2, c2, a3, l3, c3, a4, l4, c4, e⟩ := x.tr.form
    obtain ⟨b1, m1, d1, b2, m2, d2, b3, m3, d3, b4, m4, d4, e'⟩ := ht.form
    rw [e, e']; rfl
  have hs : sizeT Tryz.prog 72 = some cs2.length := by
    obtain ⟨b1, m1, d1, b2, m2, d2, b3, m3, d3, b4, m4, d4, e'⟩ := ht.form
    rw [e']; exact T.size72
  have ho : ∀ v ∈ cs2, oneC v = true := by
    obtain ⟨b1, m1, d1, b2, m2, d2, b3, m3, d3, b4, m4, d4, e'⟩ := ht.form
    rw [e']; exact one_all rfl
  obtain ⟨H5, e1, e2, e3⟩ := store_blk (P := Tryz.prog) (ty := 72) (new := cs2) x.box hl hs ho
  have hlow := x.low
  have hgt := x.gt
  exact ⟨H5, e1, x.pp.over x.low e3 (by simp; omega), x.low, e3.blk x.res (by simp; omega), e2, x.gt, ht.frame (Keeps.of_fr e3 (by rintro b ⟨h1, h2⟩; simpa using h2))⟩
theorem XI.ld (x : XI H H2 p tv L b3 cs a s) : cellsH (cellH H2) ⟨b3, 0, none⟩ 0 6 = some cs := by
  obtain ⟨a1, l1, c1, a2, l2, c2, a3, l3, c3, a4, l4, c4, e⟩ := x.tr.form
  have := x.box.cells0; rw [e] at this ⊢; exact this
theorem XI.hld (x : XI H H2 p tv L b3 cs a s) : cellsH (lookA (hlist b3 0 cs)) ⟨b3, 0, none⟩ 0 6 = some cs := by
  obtain ⟨a1, l1, c1, a2, l2, c2, a3, l3, c3, a4, l4, c4, e⟩ := x.tr.form
  have := held_all (b := b3) (vs := cs); rw [e] at this ⊢; exact this
theorem XI.fin (x : XI H H2 p tv L b3 cs a s) : ∃ H5, storeA Tryz.prog H2 72 ⟨H.size, 0, none⟩ (.agg cs.toArray) = some H5 ∧ cellsH (cellH H5) ⟨H.size, 0, none⟩ 0 6 = some cs ∧ ExpQ H p tv L (a, s) (.agg cs.toArray) H5 := by
  obtain ⟨a1, l1, c1, a2, l2, c2, a3, l3, c3, a4, l4, c4, e⟩ := x.tr.form
  obtain ⟨H5, e1, e2, e3⟩ := store_blk (P := Tryz.prog) (ty := 72) (new := cs) x.res (by rw [e]; rfl) (by rw [e]; exact T.size72) (by rw [e]; exact one_all rfl)
  have e4 := e2.cells0
  have hl : cs.length = 6 := by rw [e]; rfl
  rw [hl] at e4
  exact ⟨H5, e1, e4, x.pp.over x.low e3 (by simp), cs, rfl, (x.tr.frame (Keeps.of_fr e3 (by rintro b ⟨h1, h2⟩; simp; omega))).mono (by rintro b ⟨h1, h2⟩ _; omega)⟩
theorem XI.new {H1 G G1 : Heap} {r1 : TT × PS} (hlow : p < H.size) (f0 : Fr [] H G) (zG : G.size = H.size + 1) (b0 : Blk G H.size 72 z6) (q : PP G p tv L r1.2 H1) (t1 : TR H1 (fun b => G.size ≤ b) cs r1.1.1 r1.1.2)
    (hG1 : G1 = H1.push (.cells cs.toArray 72)) : XI H G1 p tv L H1.size cs r1.1 r1.2 := by
  have f1 : Fr [] H1 G1 := by rw [hG1]; exact Fr.push
  have hz := q.1.size
  have b1 := f1.blk (q.1.blk b0 (by simp; omega)) (by simp)
  refine ⟨⟨(f0.nil.trans q.1).trans f1.nil, q.2.grow f1⟩, hlow, b1, by rw [hG1]; exact Blk.new rfl, by omega, ?_⟩
  exact (t1.mono (by intro b h1 h2; constructor <;> omega)).grow f1
end
end Go.Proofs.YtpkfgoemhcgpdaaGreatDoor

namespace Go.Proofs.YtpkfgoemhcgpdaaGreatDoor
open Go.HL
set_option maxRecDepth 10000
set_option linter.unusedSimpArgs false
set_option linter.unusedVariables false

theorem pExpr_step {L : List Tok} {n : Nat} (hW : TW L) (IH : ∀ m, m < n + 1 → SpecE L (runE L m)) : FnE L 61 (runE L (n + 1) .expr) := by
  intro H p tv s r h hm
  have hlow := h.lt
  change ((runE L n .and s).bind fun r => runE L n (.orL r.1) r.2) = some r at hm
  obtain ⟨r1, hr1, hm⟩ := Option.bind_eq_some_iff.1 hm
  obtain ⟨G, hG⟩ : ∃ G, G = H.push (.cells #[iv 0, noS, noS, noS, iv 0, noS] 72) := ⟨_, rfl⟩
  have f0 : Fr [] H G := by rw [hG]; exact Fr.push
  have zG : G.size = H.size + 1 := by rw [hG]; simp
  have h0 := h.grow f0
  have b0 : Blk G H.size 72 z6 := by rw [hG]; exact Blk.new rfl
  refine callF_of Tryz.func61 rfl Tryz.ntmps61 Tryz.results61 (by decide) rfl ?_
  simp (disch := omega) only [go_sem, ↓cw_block, dsB_of]
  rw [← hG]
  refine call_to ((IH n (by omega)).and h0 hr1) ?_
  intro v H1 hv
  refine Hush.out ?_
  obtain ⟨q1, cs, rfl, t1⟩ := hv
  obtain ⟨G1, hG1⟩ : ∃ G, G = H1.push (.cells cs.toArray 72) := ⟨_, rfl⟩
  have x := XI.new hlow f0 zG b0 q1 t1 hG1
  obtain ⟨a1, l1, c1, a2, l2, c2, a3, l3, c3, a4, l4, c4, e⟩ := t1.form
  subst e
  refine ⟨?_⟩
  simp (disch := omega) only [go_sem, ↓cw_block, dsB_of]
  rw [← hG1]
  refine loop_by (fun k ρ H2 => ∃ a s1 cs, runE L k (.orL a) s1 = some r ∧ k ≤ n ∧ XI H H2 p tv L H1.size cs a s1 ∧ (ρ.get 0 = hp p ∧ ρ.get 2 = hp H.size ∧ ρ.get 3 = hp H1.size ∧ ρ.ds = [])) (k := n) ?_ ?_
  · exact ⟨r1.1, r1.2, _, hm, Nat.le_refl _, x, by simp (disch := omega) only [go_sem, ↓cw_block, dsB_of]⟩
  · rintro k ρ H2 ⟨a, s1, cs, hk, hkn, x, r0, r2, r3, rd⟩
    cases k with
    | zero => simp [runE] at hk
    | succ k =>
    change (if seesM L [124, 124] s1 then (runE L k .and (upM s1)).bind fun r => runE L k (.orL (binM 0 a r.1)) r.2 else some (a, s1)) = some r at hk
    simp (disch := omega) only [go_sem, ↓cw_block, dsB_of, r0, r2, r3, rd]
    refine call_to (pTake_spec hW x.pp.2) ?_
    intro v H3 hv
    refine Hush.out ?_
    obtain ⟨q3, rfl⟩ := hv
    cases hse : seesM L [124, 124] s1
    · rw [hse] at hk
      simp only [Bool.false_eq_true, if_false, Option.some.injEq] at hk
      subst hk
      have ht : takeM L [124, 124] s1 = (false, s1) := by simp [takeM, hse]
      rw [ht] at q3
      have x3 := x.step q3
      have ld := x3.ld
      obtain ⟨H5, e1, e2, e3⟩ := x3.fin
      refine ⟨?_⟩
      simp (disch := omega) only [go_sem, ↓cw_block, dsB_of, ht, r0, r2, r3, rd, ld, e1, e2]
      exact fin e3
    · rw [hse] at hk
      simp only [if_true] at hk
      obtain ⟨r2', hr2, hk⟩ := Option.bind_eq_some_iff.1 hk
      have ht : takeM L [124, 124] s1 = (true, upM s1) := by simp [takeM, hse]
      rw [ht] at q3
      have x3 := x.step q3
      have hl3 := x3.hld
      refine ⟨?_⟩
      simp (disch := omega) only [go_sem, ↓cw_block, dsB_of, ht, r0, r2, r3, rd]
      refine draw1 (lk [(0, false), (1, true)] (.act 2 (.actd 3 (.actd 4 .fin)) .non)) T.mixed (hlist H1.size 0 cs) (heldOK_blk x3.box) ?_
      simp (disch := omega) only [go_sem, ↓cw_block, dsB_of, r0, r2, r3, rd, hl3]
      refine call_to ((IH k (by omega)).and x3.pp.2 hr2) ?_
      intro v H4 hv
      refine Hush.out ?_
      obtain ⟨q4, cs4, rfl, t4⟩ := hv
      have x4 := x3.step q4
      have hs3 := x3.box.lt
      have hz := x3.gt
      refine ⟨?_⟩
      refine held_by (heldOK_blk x4.box) ?_
      simp (disch := omega) only [go_sem, ↓cw_block, dsB_of, r0, r2, r3, rd]
      refine call_to (r9bin_spec (sg := 0) (a := a) (b := r2'.1) (S := fun b => H.size < b ∧ b ≠ H1.size) x4.tr (t4.mono (by intro b hb _; constructor <;> omega)) (by intro b hb; have := x4.box.lt; constructor <;> omega)) ?_
      intro v H5 hv
      refine Hush.out ?_
      obtain ⟨f5, cs5, rfl, t5⟩ := hv
      have x5 := x4.grow f5
      obtain ⟨H6, e6, x6⟩ := x5.put t5
      refine ⟨?_⟩
      simp (disch := omega) only [go_sem, ↓cw_block, dsB_of, r0, r2, r3, rd, e6]
      exact fin ⟨k, by omega, _, _, _, hk, by omega, x6, by simp (disch := omega) only [go_sem, ↓cw_block, dsB_of, r0, r2, r3, rd]⟩
theorem pAnd_step {L : List Tok} {n : Nat} (hW : TW L) (IH : ∀ m, m < n + 1 → SpecE L (runE L m)) : FnE L 79 (runE L (n + 1) .and) := by
  intro H p tv s r h hm
  have hlow := h.lt
  change ((runE L n .same s).bind fun r => runE L n (.andL r.1) r.2) = some r at hm
  obtain ⟨r1, hr1, hm⟩ := Option.bind_eq_some_iff.1 hm
  obtain ⟨G, hG⟩ : ∃ G, G = H.push (.cells #[iv 0, noS, noS, noS, iv 0, noS] 72) := ⟨_, rfl⟩
  have f0 : Fr [] H G := by rw [hG]; exact Fr.push
  have zG : G.size = H.size + 1 := by rw [hG]; simp
  have h0 := h.grow f0
  have b0 : Blk G H.size 72 z6 := by rw [hG]; exact Blk.new rfl
  refine callF_of Tryz.func79 rfl Tryz.ntmps79 Tryz.results79 (by decide) rfl ?_
  simp (disch := omega) only [go_sem, ↓cw_block, dsB_of]
  rw [← hG]
  refine call_to ((IH n (by omega)).same h0 hr1) ?_
  intro v H1 hv
  refine Hush.out ?_
  obtain ⟨q1, cs, rfl, t1⟩ := hv
  obtain ⟨G1, hG1⟩ : ∃ G, G = H1.push (.cells cs.toArray 72) := ⟨_, rfl⟩
  have x := XI.new hlow f0 zG b0 q1 t1 hG1
  obtain ⟨a1, l1, c1, a2, l2, c2, a3, l3, c3, a4, l4, c4, e⟩ := t1.form
  subst e
  refine ⟨?_⟩
  simp (disch := omega) only [go_sem, ↓cw_block, dsB_of]
  rw [← hG1]
  refine loop_by (fun k ρ H2 => ∃ a s1 cs, runE L k (.andL a) s1 = some r ∧ k ≤ n ∧ XI H H2 p tv L H1.size cs a s1 ∧ (ρ.get 0 = hp p ∧ ρ.get 2 = hp H.size ∧ ρ.get 3 = hp H1.size ∧ ρ.ds = [])) (k := n) ?_ ?_
  · exact ⟨r1.1, r1.2, _, hm, Nat.le_refl _, x, by simp (disch := omega) only [go_sem, ↓cw_block, dsB_of]⟩
  · rintro k ρ H2 ⟨a, s1, cs, hk, hkn, x, r0, r2, r3, rd⟩
    cases k with
    | zero => simp [runE] at hk
    | succ k =>
    change (if seesM L [38, 38] s1 then (runE L k .same (upM s1)).bind fun r => runE L k (.andL (binM 1 a r.1)) r.2 else some (a, s1)) = some r at hk
    simp (disch := omega) only [go_sem, ↓cw_block, dsB_of, r0, r2, r3, rd]
    refine call_to (pTake_spec hW x.pp.2) ?_
    intro v H3 hv
    refine Hush.out ?_
    obtain ⟨q3, rfl⟩ := hv
    cases hse : seesM L [38, 38] s1
    · rw [hse] at hk
      simp only [Bool.false_eq_true, if_false, Option.some.injEq] at hk
      subst hk
      have ht : takeM L [38, 38] s1 = (false, s1) := by simp [takeM, hse]
      rw [ht] at q3
      have x3 := x.step q3
      have ld := x3.ld
      obtain ⟨H5, e1, e2, e3⟩ := x3.fin
      refine ⟨?_⟩
      simp (disch := omega) only [go_sem, ↓cw_block, dsB_of, ht, r0, r2, r3, rd, ld, e1, e2]
      exact fin e3
    · rw [hse] at hk
      simp only [if_true] at hk
      obtain ⟨r2', hr2, hk⟩ := Option.bind_eq_some_iff.1 hk
      have ht : takeM L [38, 38] s1 = (true, upM s1) := by simp [takeM, hse]
      rw [ht] at q3
      have x3 := x.step q3
      have hl3 := x3.hld
      refine ⟨?_⟩
      simp (disch := omega) only [go_sem, ↓cw_block, dsB_of, ht, r0, r2, r3, rd]
      refine draw1 (lk [(0, false), (1, true)] (.act 2 (.actd 3 (.actd 4 .fin)) .non)) T.mixed (hlist H1.size 0 cs) (heldOK_blk x3.box) ?_
      simp (disch := omega) only [go_sem, ↓cw_block, dsB_of, r0, r2, r3, rd, hl3]
      refine call_to ((IH k (by omega)).same x3.pp.2 hr2) ?_
      intro v H4 hv
      refine Hush.out ?_
      obtain ⟨q4, cs4, rfl, t4⟩ := hv
      have x4 := x3.step q4
      have hs3 := x3.box.lt
      have hz := x3.gt
      refine ⟨?_⟩
      refine held_by (heldOK_blk x4.box) ?_
      simp (disch := omega) only [go_sem, ↓cw_block, dsB_of, r0, r2, r3, rd]
      refine call_to (r9bin_spec (sg := 1) (a := a) (b := r2'.1) (S := fun b => H.size < b ∧ b ≠ H1.size) x4.tr (t4.mono (by intro b hb _; constructor <;> omega)) (by intro b hb; have := x4.box.lt; constructor <;> omega)) ?_
      intro v H5 hv
      refine Hush.out ?_
      obtain ⟨f5, cs5, rfl, t5⟩ := hv
      have x5 := x4.grow f5
      obtain ⟨H6, e6, x6⟩ := x5.put t5
      refine ⟨?_⟩
      simp (disch := omega) only [go_sem, ↓cw_block, dsB_of, r0, r2, r3, rd, e6]
      exact fin ⟨k, by omega, _, _, _, hk, by omega, x6, by simp (disch := omega) only [go_sem, ↓cw_block, dsB_of, r0, r2, r3, rd]⟩
theorem pSame_step {L : List Tok} {n : Nat} (hW : TW L) (IH : ∀ m, m < n + 1 → SpecE L (runE L m)) : FnE L 96 (runE L (n + 1) .same) := by
  intro H p tv s r h hm
  have hlow := h.lt
  change ((runE L n .less s).bind fun r => if seesM L [61, 61] r.2 then (runE L n .less (upM r.2)).map fun q => (binM 2 r.1 q.1, q.2) else some r) = some r at hm
  obtain ⟨r1, hr1, hm⟩ := Option.bind_eq_some_iff.1 hm
  obtain ⟨G, hG⟩ : ∃ G, G = H.push (.cells #[iv 0, noS, noS, noS, iv 0, noS] 72) := ⟨_, rfl⟩
  have f0 : Fr [] H G := by rw [hG]; exact Fr.push
  have zG : G.size = H.size + 1 := by rw [hG]; simp
  have h0 := h.grow f0
  have b0 : Blk G H.size 72 z6 := by rw [hG]; exact Blk.new rfl
  refine callF_of Tryz.func96 rfl Tryz.ntmps96 Tryz.results96 (by decide) rfl ?_
  simp (disch := omega) only [go_sem, ↓cw_block, dsB_of]
  rw [← hG]
  refine call_to ((IH n (by omega)).less h0 hr1) ?_
  intro v H1 hv
  refine Hush.out ?_
  obtain ⟨q1, cs, rfl, t1⟩ := hv
  obtain ⟨G1, hG1⟩ : ∃ G, G = H1.push (.cells cs.toArray 72) := ⟨_, rfl⟩
  have x := XI.new hlow f0 zG b0 q1 t1 hG1
  obtain ⟨a1, l1, c1, a2, l2, c2, a3, l3, c3, a4, l4, c4, e⟩ := t1.form
  subst e
  refine ⟨?_⟩
  simp (disch := omega) only [go_sem, ↓cw_block, dsB_of]
  rw [← hG1]
  refine call_to (pTake_spec hW x.pp.2) ?_
  intro v H3 hv
  refine Hush.out ?_
  obtain ⟨q3, rfl⟩ := hv
  cases hse : seesM L [61, 61] r1.2
  · rw [hse] at hm
    simp only [Bool.false_eq_true, if_false, Option.some.injEq] at hm
    subst hm
    have ht : takeM L [61, 61] r1.2 = (false, r1.2) := by simp [takeM, hse]
    rw [ht] at q3
    have x3 := x.step q3
    have ld := x3.ld
    obtain ⟨H5, e1, e2, e3⟩ := x3.fin
    refine ⟨?_⟩
    simp (disch := omega) only [go_sem, ↓cw_block, dsB_of, ht, ld, e1, e2]
    exact fin e3
  · rw [hse] at hm
    simp only [if_true] at hm
    obtain ⟨r2', hr2, hm⟩ := Option.map_eq_some_iff.1 hm
    subst hm
    have ht : takeM L [61, 61] r1.2 = (true, upM r1.2) := by simp [takeM, hse]
    rw [ht] at q3
    have x3 := x.step q3
    have hl3 := x3.hld
    refine ⟨?_⟩
    simp (disch := omega) only [go_sem, ↓cw_block, dsB_of, ht]
    refine draw1 (lk [(0, false), (1, true)] (.act 2 (.actd 3 (.actd 4 .fin)) .non)) T.mixed (hlist H1.size 0 _) (heldOK_blk x3.box) ?_
    simp (disch := omega) only [go_sem, ↓cw_block, dsB_of, hG1, hl3]
    refine call_to ((IH n (by omega)).less x3.pp.2 hr2) ?_
    intro v H4 hv
    refine Hush.out ?_
    obtain ⟨q4, cs4, rfl, t4⟩ := hv
    have x4 := x3.step q4
    have hs3 := x3.box.lt
    have hz := x3.gt
    refine ⟨?_⟩
    refine held_by (heldOK_blk x4.box) ?_
    simp (disch := omega) only [go_sem, ↓cw_block, dsB_of, hG1]
    refine call_to (r9bin_spec (sg := 2) (a := r1.1) (b := r2'.1) (S := fun b => H.size < b ∧ b ≠ H1.size) x4.tr (t4.mono (by intro b hb _; (try simp only [size_setH] at hb hs3); constructor <;> omega)) (by intro b hb; have := x4.box.lt; constructor <;> omega)) ?_
    intro v H5 hv
    refine Hush.out ?_
    obtain ⟨f5, cs5, rfl, t5⟩ := hv
    have x5 := x4.grow f5
    obtain ⟨H6, e6, x6⟩ := x5.put t5
    have ld := x6.ld
    obtain ⟨H7, e7, e8, e9⟩ := x6.fin
    refine ⟨?_⟩
    simp (disch := omega) only [go_sem, ↓cw_block, dsB_of, e6, ld, e7, e8]
    exact fin e9
theorem pLess_step {L : List Tok} {n : Nat} (hW : TW L) (IH : ∀ m, m < n + 1 → SpecE L (runE L m)) : FnE L 107 (runE L (n + 1) .less) := by
  intro H p tv s r h hm
  have hlow := h.lt
  change ((runE L n .sum s).bind fun r => if seesM L [60] r.2 then (runE L n .sum (upM r.2)).map fun q => (binM 3 r.1 q.1, q.2) else some r) = some r at hm
  obtain ⟨r1, hr1, hm⟩ := Option.bind_eq_some_iff.1 hm
  obtain ⟨G, hG⟩ : ∃ G, G = H.push (.cells #[iv 0, noS, noS, noS, iv 0, noS] 72) := ⟨_, rfl⟩
  have f0 : Fr [] H G := by rw [hG]; exact Fr.push
  have zG : G.size = H.size + 1 := by rw [hG]; simp
  have h0 := h.grow f0
  have b0 : Blk G H.size 72 z6 := by rw [hG]; exact Blk.new rfl
  refine callF_of Tryz.func107 rfl Tryz.ntmps107 Tryz.results107 (by decide) rfl ?_
  simp (disch := omega) only [go_sem, ↓cw_block, dsB_of]
  rw [← hG]
  refine call_to ((IH n (by omega)).sum h0 hr1) ?_
  intro v H1 hv
  refine Hush.out ?_
  obtain ⟨q1, cs, rfl, t1⟩ := hv
  obtain ⟨G1, hG1⟩ : ∃ G, G = H1.push (.cells cs.toArray 72) := ⟨_, rfl⟩
  have x := XI.new hlow f0 zG b0 q1 t1 hG1
  obtain ⟨a1, l1, c1, a2, l2, c2, a3, l3, c3, a4, l4, c4, e⟩ := t1.form
  subst e
  refine ⟨?_⟩
  simp (disch := omega) only [go_sem, ↓cw_block, dsB_of]
  rw [← hG1]
  refine call_to (pTake_spec hW x.pp.2) ?_
  intro v H3 hv
  refine Hush.out ?_
  obtain ⟨q3, rfl⟩ := hv
  cases hse : seesM L [60] r1.2
  · rw [hse] at hm
    simp only [Bool.false_eq_true, if_false, Option.some.injEq] at hm
    subst hm
    have ht : takeM L [60] r1.2 = (false, r1.2) := by simp [takeM, hse]
    rw [ht] at q3
    have x3 := x.step q3
    have ld := x3.ld
    obtain ⟨H5, e1, e2, e3⟩ := x3.fin
    refine ⟨?_⟩
    simp (disch := omega) only [go_sem, ↓cw_block, dsB_of, ht, ld, e1, e2]
    exact fin e3
  · rw [hse] at hm
    simp only [if_true] at hm
    obtain ⟨r2', hr2, hm⟩ := Option.map_eq_some_iff.1 hm
    subst hm
    have ht : takeM L [60] r1.2 = (true, upM r1.2) := by simp [takeM, hse]
    rw [ht] at q3
    have x3 := x.step q3
    have hl3 := x3.hld
    refine ⟨?_⟩
    simp (disch := omega) only [go_sem, ↓cw_block, dsB_of, ht]
    refine draw1 (lk [(0, false), (1, true)] (.act 2 (.actd 3 (.actd 4 .fin)) .non)) T.mixed (hlist H1.size 0 _) (heldOK_blk x3.box) ?_
    simp (disch := omega) only [go_sem, ↓cw_block, dsB_of, hG1, hl3]
    refine call_to ((IH n (by omega)).sum x3.pp.2 hr2) ?_
    intro v H4 hv
    refine Hush.out ?_
    obtain ⟨q4, cs4, rfl, t4⟩ := hv
    have x4 := x3.step q4
    have hs3 := x3.box.lt
    have hz := x3.gt
    refine ⟨?_⟩
    refine held_by (heldOK_blk x4.box) ?_
    simp (disch := omega) only [go_sem, ↓cw_block, dsB_of, hG1]
    refine call_to (r9bin_spec (sg := 3) (a := r1.1) (b := r2'.1) (S := fun b => H.size < b ∧ b ≠ H1.size) x4.tr (t4.mono (by intro b hb _; (try simp only [size_setH] at hb hs3); constructor <;> omega)) (by intro b hb; have := x4.box.lt; constructor <;> omega)) ?_
    intro v H5 hv
    refine Hush.out ?_
    obtain ⟨f5, cs5, rfl, t5⟩ := hv
    have x5 := x4.grow f5
    obtain ⟨H6, e6, x6⟩ := x5.put t5
    have ld := x6.ld
    obtain ⟨H7, e7, e8, e9⟩ := x6.fin
    refine ⟨?_⟩
    simp (disch := omega) only [go_sem, ↓cw_block, dsB_of, e6, ld, e7, e8]
    exact fin e9
end Go.Proofs.YtpkfgoemhcgpdaaGreatDoor

namespace Go.Proofs.YtpkfgoemhcgpdaaGreatDoor
open Go.HL
set_option maxRecDepth 10000
set_option linter.unusedSimpArgs false
set_option linter.unusedVariables false

theorem pSum_step {L : List Tok} {n : Nat} (hW : TW L) (IH : ∀ m, m < n + 1 → SpecE L (runE L m)) : FnE L 112 (runE L (n + 1) .sum) := by
  intro H p tv s r h hm
  have hlow := h.lt
  change ((runE L n .product s).bind fun r => runE L n (.sumL r.1) r.2) = some r at hm
  obtain ⟨r1, hr1, hm⟩ := Option.bind_eq_some_iff.1 hm
  obtain ⟨G, hG⟩ : ∃ G, G = H.push (.cells #[iv 0, noS, noS, noS, iv 0, noS] 72) := ⟨_, rfl⟩
  have f0 : Fr [] H G := by rw [hG]; exact Fr.push
  have zG : G.size = H.size + 1 := by rw [hG]; simp
  have h0 := h.grow f0
  have b0 : Blk G H.size 72 z6 := by rw [hG]; exact Blk.new rfl
  refine callF_of Tryz.func112 rfl Tryz.ntmps112 Tryz.results112 (by decide) rfl ?_
  simp (disch := omega) only [go_sem, ↓cw_block, dsB_of]
  rw [← hG]
  refine call_to ((IH n (by omega)).product h0 hr1) ?_
  intro v H1 hv
  refine Hush.out ?_
  obtain ⟨q1, cs, rfl, t1⟩ := hv
  obtain ⟨G1, hG1⟩ : ∃ G, G = H1.push (.cells cs.toArray 72) := ⟨_, rfl⟩
  have x := XI.new hlow f0 zG b0 q1 t1 hG1
  obtain ⟨a1, l1, c1, a2, l2, c2, a3, l3, c3, a4, l4, c4, e⟩ := t1.form
  subst e
  refine ⟨?_⟩
  simp (disch := omega) only [go_sem, ↓cw_block, dsB_of]
  rw [← hG1]
  refine loop_by (fun k ρ H2 => ∃ a s1 cs, runE L k (.sumL a) s1 = some r ∧ k ≤ n ∧ XI H H2 p tv L H1.size cs a s1 ∧ (ρ.get 0 = hp p ∧ ρ.get 2 = hp H.size ∧ ρ.get 3 = hp H1.size ∧ ρ.ds = [])) (k := n) ?_ ?_
  · exact ⟨r1.1, r1.2, _, hm, Nat.le_refl _, x, by simp (disch := omega) only [go_sem, ↓cw_block, dsB_of]⟩
  · rintro k ρ H2 ⟨a, s1, cs, hk, hkn, x, r0, r2, r3, rd⟩
    cases k with
    | zero => simp [runE] at hk
    | succ k =>
    change (if seesM L [43] s1 then (runE L k .product (upM s1)).bind fun r => runE L k (.sumL (binM 4 a r.1)) r.2 else if seesM L [45] s1 then (runE L k .product (upM s1)).bind fun r => runE L k (.sumL (binM 5 a r.1)) r.2 else some (a, s1)) = some r at hk
    have c1 := x.pp.2.c1
    have hln := hW.len
    have hps := x.pp.2.pos
    have e1 : (s1.pos : Int) + 1 = ((s1.pos + 1 : Nat) : Int) := by omega
    simp (disch := omega) only [go_sem, ↓cw_block, dsB_of, r0, r2, r3, rd]
    refine call_to (pSees_spec x.pp.2) ?_
    intro v HA0 hv
    refine Hush.out ?_
    obtain ⟨fa0, rfl⟩ := hv
    have xa0 := x.grow fa0
    cases hs0 : seesM L [43] s1
    rotate_left
    · rw [hs0] at hk
      simp only [if_true] at hk
      obtain ⟨r2', hr2, hk⟩ := Option.bind_eq_some_iff.1 hk
      refine ⟨?_⟩
      simp (disch := omega) only [go_sem, ↓cw_block, dsB_of, r0, r2, r3, rd]
      refine call_to (pSees_spec xa0.pp.2) ?_
      intro v HB0 hv
      refine Hush.out ?_
      obtain ⟨fb0, rfl⟩ := hv
      have xb0 := xa0.grow fb0
      rw [hs0]
      refine ⟨?_⟩
      have c1 := xb0.pp.2.c1
      have w1 := xb0.pp.2.w1
      have x3 := xb0.step (pUp xb0.pp.2 (sees_up hW xb0.pp.2 hs0))
      have hl3 := x3.hld
      simp (disch := omega) only [go_sem, ↓cw_block, dsB_of, r0, r2, r3, rd, c1, w1, e1]
      refine draw1 (lk [(0, false), (1, false), (2, true)] (.act 3 (.actd 4 (.actd 5 .fin)) .non)) T.mixed (hlist H1.size 0 cs) (heldOK_blk x3.box) ?_
      simp (disch := omega) only [go_sem, ↓cw_block, dsB_of, r0, r2, r3, rd, hl3]
      refine call_to ((IH k (by omega)).product x3.pp.2 hr2) ?_
      intro v H4 hv
      refine Hush.out ?_
      obtain ⟨q4, cs4, rfl, t4⟩ := hv
      have x4 := x3.step q4
      have hs3 := x3.box.lt
      have hz := x3.gt
      refine ⟨?_⟩
      refine held_by (heldOK_blk x4.box) ?_
      simp (disch := omega) only [go_sem, ↓cw_block, dsB_of, r0, r2, r3, rd]
      refine call_to (r9bin_spec (sg := 4) (a := a) (b := r2'.1) (S := fun b => H.size < b ∧ b ≠ H1.size) x4.tr (t4.mono (by intro b hb _; (try simp only [size_setH] at hb hs3); constructor <;> omega)) (by intro b hb; have := x4.box.lt; constructor <;> omega)) ?_
      intro v H5 hv
      refine Hush.out ?_
      obtain ⟨f5, cs5, rfl, t5⟩ := hv
      have x5 := x4.grow f5
      obtain ⟨H6, e6, x6⟩ := x5.put t5
      refine ⟨?_⟩
      simp (disch := omega) only [go_sem, ↓cw_block, dsB_of, r0, r2, r3, rd, e6]
      exact fin ⟨k, by omega, _, _, _, hk, by omega, x6, by simp (disch := omega) only [go_sem, ↓cw_block, dsB_of, r0, r2, r3, rd]⟩
    rw [hs0] at hk
    simp only [Bool.false_eq_true, if_false] at hk
    refine ⟨?_⟩
    simp (disch := omega) only [go_sem, ↓cw_block, dsB_of, r0, r2, r3, rd]
    refine call_to (pSees_spec xa0.pp.2) ?_
    intro v HA1 hv
    refine Hush.out ?_
    obtain ⟨fa1, rfl⟩ := hv
    have xa1 := xa0.grow fa1
    cases hs1 : seesM L [45] s1
    rotate_left
    · rw [hs1] at hk
      simp only [if_true] at hk
      obtain ⟨r2', hr2, hk⟩ := Option.bind_eq_some_iff.1 hk
      refine ⟨?_⟩
      simp (disch := omega) only [go_sem, ↓cw_block, dsB_of, r0, r2, r3, rd]
      refine call_to (pSees_spec xa1.pp.2) ?_
      intro v HB0 hv
      refine Hush.out ?_
      obtain ⟨fb0, rfl⟩ := hv
      have xb0 := xa1.grow fb0
      rw [hs0]
      refine ⟨?_⟩
      have c1 := xb0.pp.2.c1
      have w1 := xb0.pp.2.w1
      have x3 := xb0.step (pUp xb0.pp.2 (sees_up hW xb0.pp.2 hs1))
      have hl3 := x3.hld
      simp (disch := omega) only [go_sem, ↓cw_block, dsB_of, r0, r2, r3, rd, c1, w1, e1]
      refine draw1 (lk [(0, false), (1, false), (2, true)] (.act 3 (.actd 4 (.actd 5 .fin)) .non)) T.mixed (hlist H1.size 0 cs) (heldOK_blk x3.box) ?_
      simp (disch := omega) only [go_sem, ↓cw_block, dsB_of, r0, r2, r3, rd, hl3]
      refine call_to ((IH k (by omega)).product x3.pp.2 hr2) ?_
      intro v H4 hv
      refine Hush.out ?_
      obtain ⟨q4, cs4, rfl, t4⟩ := hv
      have x4 := x3.step q4
      have hs3 := x3.box.lt
      have hz := x3.gt
      refine ⟨?_⟩
      refine held_by (heldOK_blk x4.box) ?_
      simp (disch := omega) only [go_sem, ↓cw_block, dsB_of, r0, r2, r3, rd]
      refine call_to (r9bin_spec (sg := 5) (a := a) (b := r2'.1) (S := fun b => H.size < b ∧ b ≠ H1.size) x4.tr (t4.mono (by intro b hb _; (try simp only [size_setH] at hb hs3); constructor <;> omega)) (by intro b hb; have := x4.box.lt; constructor <;> omega)) ?_
      intro v H5 hv
      refine Hush.out ?_
      obtain ⟨f5, cs5, rfl, t5⟩ := hv
      have x5 := x4.grow f5
      obtain ⟨H6, e6, x6⟩ := x5.put t5
      refine ⟨?_⟩
      simp (disch := omega) only [go_sem, ↓cw_block, dsB_of, r0, r2, r3, rd, e6]
      exact fin ⟨k, by omega, _, _, _, hk, by omega, x6, by simp (disch := omega) only [go_sem, ↓cw_block, dsB_of, r0, r2, r3, rd]⟩
    rw [hs1] at hk
    simp only [Bool.false_eq_true, if_false, Option.some.injEq] at hk
    subst hk
    have ld := xa1.ld
    obtain ⟨H5, e4, e2, e3⟩ := xa1.fin
    refine ⟨?_⟩
    simp (disch := omega) only [go_sem, ↓cw_block, dsB_of, r0, r2, r3, rd, ld, e4, e2]
    exact fin e3
theorem pProduct_step {L : List Tok} {n : Nat} (hW : TW L) (IH : ∀ m, m < n + 1 → SpecE L (runE L m)) : FnE L 114 (runE L (n + 1) .product) := by
  intro H p tv s r h hm
  have hlow := h.lt
  change ((runE L n .part s).bind fun r => runE L n (.prodL r.1) r.2) = some r at hm
  obtain ⟨r1, hr1, hm⟩ := Option.bind_eq_some_iff.1 hm
  obtain ⟨G, hG⟩ : ∃ G, G = H.push (.cells #[iv 0, noS, noS, noS, iv 0, noS] 72) := ⟨_, rfl⟩
  have f0 : Fr [] H G := by rw [hG]; exact Fr.push
  have zG : G.size = H.size + 1 := by rw [hG]; simp
  have h0 := h.grow f0
  have b0 : Blk G H.size 72 z6 := by rw [hG]; exact Blk.new rfl
  refine callF_of Tryz.func114 rfl Tryz.ntmps114 Tryz.results114 (by decide) rfl ?_
  simp (disch := omega) only [go_sem, ↓cw_block, dsB_of]
  rw [← hG]
  refine call_to ((IH n (by omega)).part h0 hr1) ?_
  intro v H1 hv
  refine Hush.out ?_
  obtain ⟨q1, cs, rfl, t1⟩ := hv
  obtain ⟨G1, hG1⟩ : ∃ G, G = H1.push (.cells cs.toArray 72) := ⟨_, rfl⟩
  have x := XI.new hlow f0 zG b0 q1 t1 hG1
  obtain ⟨a1, l1, c1, a2, l2, c2, a3, l3, c3, a4, l4, c4, e⟩ := t1.form
  subst e
  refine ⟨?_⟩
  simp (disch := omega) only [go_sem, ↓cw_block, dsB_of]
  rw [← hG1]
  refine loop_by (fun k ρ H2 => ∃ a s1 cs, runE L k (.prodL a) s1 = some r ∧ k ≤ n ∧ XI H H2 p tv L H1.size cs a s1 ∧ (ρ.get 0 = hp p ∧ ρ.get 2 = hp H.size ∧ ρ.get 3 = hp H1.size ∧ ρ.ds = [])) (k := n) ?_ ?_
  · exact ⟨r1.1, r1.2, _, hm, Nat.le_refl _, x, by simp (disch := omega) only [go_sem, ↓cw_block, dsB_of]⟩
  · rintro k ρ H2 ⟨a, s1, cs, hk, hkn, x, r0, r2, r3, rd⟩
    cases k with
    | zero => simp [runE] at hk
    | succ k =>
    change (if seesM L [42] s1 then (runE L k .part (upM s1)).bind fun r => runE L k (.prodL (binM 6 a r.1)) r.2 else if seesM L [47] s1 then (runE L k .part (upM s1)).bind fun r => runE L k (.prodL (binM 7 a r.1)) r.2 else if seesM L [37] s1 then (runE L k .part (upM s1)).bind fun r => runE L k (.prodL (binM 8 a r.1)) r.2 else some (a, s1)) = some r at hk
    have c1 := x.pp.2.c1
    have hln := hW.len
    have hps := x.pp.2.pos
    have e1 : (s1.pos : Int) + 1 = ((s1.pos + 1 : Nat) : Int) := by omega
    simp (disch := omega) only [go_sem, ↓cw_block, dsB_of, r0, r2, r3, rd]
    refine call_to (pSees_spec x.pp.2) ?_
    intro v HA0 hv
    refine Hush.out ?_
    obtain ⟨fa0, rfl⟩ := hv
    have xa0 := x.grow fa0
    cases hs0 : seesM L [42] s1
    rotate_left
    · rw [hs0] at hk
      simp only [if_true] at hk
      obtain ⟨r2', hr2, hk⟩ := Option.bind_eq_some_iff.1 hk
      refine ⟨?_⟩
      simp (disch := omega) only [go_sem, ↓cw_block, dsB_of, r0, r2, r3, rd]
      refine call_to (pSees_spec xa0.pp.2) ?_
      intro v HB0 hv
      refine Hush.out ?_
      obtain ⟨fb0, rfl⟩ := hv
      have xb0 := xa0.grow fb0
      rw [hs0]
      refine ⟨?_⟩
      have c1 := xb0.pp.2.c1
      have w1 := xb0.pp.2.w1
      have x3 := xb0.step (pUp xb0.pp.2 (sees_up hW xb0.pp.2 hs0))
      have hl3 := x3.hld
      simp (disch := omega) only [go_sem, ↓cw_block, dsB_of, r0, r2, r3, rd, c1, w1, e1]
      refine draw1 (lk [(0, false), (1, false), (2, true)] (.act 3 (.actd 4 (.actd 5 .fin)) .non)) T.mixed (hlist H1.size 0 cs) (heldOK_blk x3.box) ?_
      simp (disch := omega) only [go_sem, ↓cw_block, dsB_of, r0, r2, r3, rd, hl3]
      refine call_to ((IH k (by omega)).part x3.pp.2 hr2) ?_
      intro v H4 hv
      refine Hush.out ?_
      obtain ⟨q4, cs4, rfl, t4⟩ := hv
      have x4 := x3.step q4
      have hs3 := x3.box.lt
      have hz := x3.gt
      refine ⟨?_⟩
      refine held_by (heldOK_blk x4.box) ?_
      simp (disch := omega) only [go_sem, ↓cw_block, dsB_of, r0, r2, r3, rd]
      refine call_to (r9bin_spec (sg := 6) (a := a) (b := r2'.1) (S := fun b => H.size < b ∧ b ≠ H1.size) x4.tr (t4.mono (by intro b hb _; (try simp only [size_setH] at hb hs3); constructor <;> omega)) (by intro b hb; have := x4.box.lt; constructor <;> omega)) ?_
      intro v H5 hv
      refine Hush.out ?_
      obtain ⟨f5, cs5, rfl, t5⟩ := hv
      have x5 := x4.grow f5
      obtain ⟨H6, e6, x6⟩ := x5.put t5
      refine ⟨?_⟩
      simp (disch := omega) only [go_sem, ↓cw_block, dsB_of, r0, r2, r3, rd, e6]
      exact fin ⟨k, by omega, _, _, _, hk, by omega, x6, by simp (disch := omega) only [go_sem, ↓cw_block, dsB_of, r0, r2, r3, rd]⟩
    rw [hs0] at hk
    simp only [Bool.false_eq_true, if_false] at hk
    refine ⟨?_⟩
    simp (disch := omega) only [go_sem, ↓cw_block, dsB_of, r0, r2, r3, rd]
    refine call_to (pSees_spec xa0.pp.2) ?_
    intro v HA1 hv
    refine Hush.out ?_
    obtain ⟨fa1, rfl⟩ := hv
    have xa1 := xa0.grow fa1
    cases hs1 : seesM L [47] s1
    rotate_left
    · rw [hs1] at hk
      simp only [if_true] at hk
      obtain ⟨r2', hr2, hk⟩ := Option.bind_eq_some_iff.1 hk
      refine ⟨?_⟩
      simp (disch := omega) only [go_sem, ↓cw_block, dsB_of, r0, r2, r3, rd]
      refine call_to (pSees_spec xa1.pp.2) ?_
      intro v HB0 hv
      refine Hush.out ?_
      obtain ⟨fb0, rfl⟩ := hv
      have xb0 := xa1.grow fb0
      rw [hs0]
      refine ⟨?_⟩
      simp (disch := omega) only [go_sem, ↓cw_block, dsB_of, r0, r2, r3, rd]
      refine call_to (pSees_spec xb0.pp.2) ?_
      intro v HB1 hv
      refine Hush.out ?_
      obtain ⟨fb1, rfl⟩ := hv
      have xb1 := xb0.grow fb1
      rw [hs1]
      refine ⟨?_⟩
      have c1 := xb1.pp.2.c1
      have w1 := xb1.pp.2.w1
      have x3 := xb1.step (pUp xb1.pp.2 (sees_up hW xb1.pp.2 hs1))
      have hl3 := x3.hld
      simp (disch := omega) only [go_sem, ↓cw_block, dsB_of, r0, r2, r3, rd, c1, w1, e1]
      refine draw1 (lk [(0, false), (1, false), (2, true)] (.act 3 (.actd 4 (.actd 5 .fin)) .non)) T.mixed (hlist H1.size 0 cs) (heldOK_blk x3.box) ?_
      simp (disch := omega) only [go_sem, ↓cw_block, dsB_of, r0, r2, r3, rd, hl3]
      refine call_to ((IH k (by omega)).part x3.pp.2 hr2) ?_
      intro v H4 hv
      refine Hush.out ?_
      obtain ⟨q4, cs4, rfl, t4⟩ := hv
      have x4 := x3.step q4
      have hs3 := x3.box.lt
      have hz := x3.gt
      refine ⟨?_⟩
      refine held_by (heldOK_blk x4.box) ?_
      simp (disch := omega) only [go_sem, ↓cw_block, dsB_of, r0, r2, r3, rd]
      refine call_to (r9bin_spec (sg := 7) (a := a) (b := r2'.1) (S := fun b => H.size < b ∧ b ≠ H1.size) x4.tr (t4.mono (by intro b hb _; (try simp only [size_setH] at hb hs3); constructor <;> omega)) (by intro b hb; have := x4.box.lt; constructor <;> omega)) ?_
      intro v H5 hv
      refine Hush.out ?_
      obtain ⟨f5, cs5, rfl, t5⟩ := hv
      have x5 := x4.grow f5
      obtain ⟨H6, e6, x6⟩ := x5.put t5
      refine ⟨?_⟩
      simp (disch := omega) only [go_sem, ↓cw_block, dsB_of, r0, r2, r3, rd, e6]
      exact fin ⟨k, by omega, _, _, _, hk, by omega, x6, by simp (disch := omega) only [go_sem, ↓cw_block, dsB_of, r0, r2, r3, rd]⟩
    rw [hs1] at hk
    simp only [Bool.false_eq_true, if_false] at hk
    refine ⟨?_⟩
    simp (disch := omega) only [go_sem, ↓cw_block, dsB_of, r0, r2, r3, rd]
    refine call_to (pSees_spec xa1.pp.2) ?_
    intro v HA2 hv
    refine Hush.out ?_
    obtain ⟨fa2, rfl⟩ := hv
    have xa2 := xa1.grow fa2
    cases hs2 : seesM L [37] s1
    rotate_left
    · rw [hs2] at hk
      simp only [if_true] at hk
      obtain ⟨r2', hr2, hk⟩ := Option.bind_eq_some_iff.1 hk
      refine ⟨?_⟩
      simp (disch := omega) only [go_sem, ↓cw_block, dsB_of, r0, r2, r3, rd]
      refine call_to (pSees_spec xa2.pp.2) ?_
      intro v HB0 hv
      refine Hush.out ?_
      obtain ⟨fb0, rfl⟩ := hv
      have xb0 := xa2.grow fb0
      rw [hs0]
      refine ⟨?_⟩
      simp (disch := omega) only [go_sem, ↓cw_block, dsB_of, r0, r2, r3, rd]
      refine call_to (pSees_spec xb0.pp.2) ?_
      intro v HB1 hv
      refine Hush.out ?_
      obtain ⟨fb1, rfl⟩ := hv
      have xb1 := xb0.grow fb1
      rw [hs1]
      refine ⟨?_⟩
      have c1 := xb1.pp.2.c1
      have w1 := xb1.pp.2.w1
      have x3 := xb1.step (pUp xb1.pp.2 (sees_up hW xb1.pp.2 hs2))
      have hl3 := x3.hld
      simp (disch := omega) only [go_sem, ↓cw_block, dsB_of, r0, r2, r3, rd, c1, w1, e1]
      refine draw1 (lk [(0, false), (1, false), (2, true)] (.act 3 (.actd 4 (.actd 5 .fin)) .non)) T.mixed (hlist H1.size 0 cs) (heldOK_blk x3.box) ?_
      simp (disch := omega) only [go_sem, ↓cw_block, dsB_of, r0, r2, r3, rd, hl3]
      refine call_to ((IH k (by omega)).part x3.pp.2 hr2) ?_
      intro v H4 hv
      refine Hush.out ?_
      obtain ⟨q4, cs4, rfl, t4⟩ := hv
      have x4 := x3.step q4
      have hs3 := x3.box.lt
      have hz := x3.gt
      refine ⟨?_⟩
      refine held_by (heldOK_blk x4.box) ?_
      simp (disch := omega) only [go_sem, ↓cw_block, dsB_of, r0, r2, r3, rd]
      refine call_to (r9bin_spec (sg := 8) (a := a) (b := r2'.1) (S := fun b => H.size < b ∧ b ≠ H1.size) x4.tr (t4.mono (by intro b hb _; (try simp only [size_setH] at hb hs3); constructor <;> omega)) (by intro b hb; have := x4.box.lt; constructor <;> omega)) ?_
      intro v H5 hv
      refine Hush.out ?_
      obtain ⟨f5, cs5, rfl, t5⟩ := hv
      have x5 := x4.grow f5
      obtain ⟨H6, e6, x6⟩ := x5.put t5
      refine ⟨?_⟩
      simp (disch := omega) only [go_sem, ↓cw_block, dsB_of, r0, r2, r3, rd, e6]
      exact fin ⟨k, by omega, _, _, _, hk, by omega, x6, by simp (disch := omega) only [go_sem, ↓cw_block, dsB_of, r0, r2, r3, rd]⟩
    rw [hs2] at hk
    simp only [Bool.false_eq_true, if_false, Option.some.injEq] at hk
    subst hk
    have ld := xa2.ld
    obtain ⟨H5, e4, e2, e3⟩ := xa2.fin
    refine ⟨?_⟩
    simp (disch := omega) only [go_sem, ↓cw_block, dsB_of, r0, r2, r3, rd, ld, e4, e2]
    exact fin e3
end Go.Proofs.YtpkfgoemhcgpdaaGreatDoor

