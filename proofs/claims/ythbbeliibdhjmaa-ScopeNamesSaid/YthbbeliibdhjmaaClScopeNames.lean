/- Proved: for every input the law ScopeNames returns true, and its arguments read as they did. No condition. -/
import Derived.Test.YthbbeliibdhjmaaMX9
import Derived.Test.YthbbeliibdhjmaaMX3
/- The laws on names: what is read and checked, worked out. -/
namespace Go.Proofs.Ythbbeliibdhjmaa
open Go.HL
set_option maxRecDepth 10000
set_option linter.unusedSimpArgs false
set_option linter.unusedVariables false

def szN (n : Nd) : Bool := decide (n.words.length ≤ 1000) && (decide (n.nums.length ≤ 1000) && (decide (n.kids.length ≤ 1000) && n.words.all fun w => decide (w.length ≤ 1000)))
def szB (l : List Nd) : Bool := decide (l.length ≤ 1000) && l.all szN
theorem sz_of {l : List Nd} (h : szB l = true) : Sz l := by
  unfold szB at h
  simp only [Bool.and_eq_true, decide_eq_true_eq, List.all_eq_true] at h
  have key : ∀ (i : Nat) n, l[i]? = some n → szN n = true := fun i n hi => h.2 n (List.mem_of_getElem? hi)
  have key' : ∀ (i : Nat) n, l[i]? = some n → n.words.length ≤ 1000 ∧ n.nums.length ≤ 1000 ∧ n.kids.length ≤ 1000 ∧ ∀ w ∈ n.words, w.length ≤ 1000 := by
    intro i n hi
    have := key i n hi
    unfold szN at this
    simpa only [Bool.and_eq_true, decide_eq_true_eq, List.all_eq_true] using this
  exact ⟨by omega, fun i n hi => by have := key' i n hi; omega, fun i n hi => by have := key' i n hi; omega, fun i n hi => by have := key' i n hi; omega, fun i n hi w hw => by have := (key' i n hi).2.2.2 w hw; omega⟩
/-- A text read: its fault, and what is wrong with its names. -/
def psM (n : Nat) (s : Str) : Option (Flt × Flt × Bool) := (parseM n s).map fun r => (r.2, scopeM r.1, szB r.1)
theorem ps_open {n : Nat} {s : Str} {f g : Flt} (h : psM n s = some (f, g, true)) : ∃ l, parseM n s = some (l, f) ∧ scopeM l = g ∧ Sz l := by
  unfold psM at h
  rw [Option.map_eq_some_iff] at h
  obtain ⟨⟨l, f'⟩, h1, h2⟩ := h
  simp only [Prod.mk.injEq] at h2
  obtain ⟨rfl, h3, h4⟩ := h2
  exact ⟨l, h1, h3, sz_of h4⟩
theorem aw1 : psM 40 [115, 97, 102, 101, 32, 120, 59] = some (⟨0, 0⟩, ⟨20, 5⟩, true) := by decide +kernel
theorem aw2 : psM 60 [118, 97, 114, 32, 120, 32, 111, 102, 32, 49, 59, 32, 115, 97, 102, 101, 32, 120, 59] = some (⟨0, 0⟩, ⟨0, 0⟩, true) := by decide +kernel
section
variable {H : Heap}
theorem w11awake_spec : CallF Try.prog 11 [] H (fun r H' => r = .bool true ∧ Fr [] H H') NoP := by
  obtain ⟨l1, p1, s1, z1⟩ := ps_open aw1
  obtain ⟨l2, p2, s2, z2⟩ := ps_open aw2
  refine callF_of Try.func11 rfl Try.ntmps11 Try.results11 (by decide) rfl ?_
  simp (disch := omega) only [go_sem, ↓cw_block, dsB_of]
  refine call_to (parse_spec p1) ?_
  intro r1 H1 hv
  refine Hush.out ?_
  obtain ⟨v1, rfl, f1, nl1⟩ := hv
  refine ⟨?_⟩
  simp (disch := omega) only [go_sem, ↓cw_block, dsB_of, fltV]
  refine call_to (parse_spec p2) ?_
  intro r2 H2 hv
  refine Hush.out ?_
  obtain ⟨v2, rfl, f2, nl2⟩ := hv
  have nl1' := nl1.grow ((Fr.push (F := [])).trans f2)
  refine ⟨?_⟩
  simp (disch := omega) only [go_sem, ↓cw_block, dsB_of, fltV]
  refine call_to (scCheck_spec (nl1'.grow Fr.push) z1) ?_
  intro r3 H3 hv
  refine Hush.out ?_
  obtain ⟨f3, rfl⟩ := hv
  rw [s1]
  refine ⟨?_⟩
  simp (disch := omega) only [go_sem, ↓cw_block, dsB_of, fltV]
  refine call_to (scCheck_spec (nl2.grow ((Fr.push (F := [])).trans f3)) z2) ?_
  intro r4 H4 hv
  refine Hush.out ?_
  obtain ⟨f4, rfl⟩ := hv
  rw [s2]
  refine ⟨?_⟩
  simp (disch := omega) only [go_sem, ↓cw_block, dsB_of, fltV]
  exact fin ⟨rfl, (((((f1.trans Fr.push).trans f2).trans Fr.push).trans f3).trans f4)⟩
end
end Go.Proofs.Ythbbeliibdhjmaa

/- Names: the names that are there at a node: both answers are the same (plain). -/
namespace Go.Proofs.Ythbbeliibdhjmaa
open Go.HL
set_option maxRecDepth 10000
set_option linter.unusedSimpArgs false
set_option linter.unusedVariables false

def dedL (acc : List Str) : List Str → List Str
  | [] => acc
  | s :: r => dedL (if inL acc s then acc else acc ++ [s]) r
theorem dedL_app : ∀ (xs ys acc : List Str), dedL acc (xs ++ ys) = dedL (dedL acc xs) ys
  | [], ys, acc => rfl
  | x :: xs, ys, acc => dedL_app xs ys _
theorem dedL_end {xs : List Str} {s : Str} : dedL [] (xs ++ [s]) = if inL (dedL [] xs) s then dedL [] xs else dedL [] xs ++ [s] := by
  rw [dedL_app]; rfl
theorem dedL_len : ∀ (xs acc : List Str), (dedL acc xs).length ≤ acc.length + xs.length
  | [], acc => by simp [dedL]
  | x :: xs, acc => by
    unfold dedL
    have := dedL_len xs (if inL acc x then acc else acc ++ [x])
    split at this <;> simp at * <;> split <;> simp_all <;> omega
theorem namesU_ded {l : List Nd} {it kind : Int} : ∀ i, namesU l it kind i = dedL [] (selU l (fun j => decide ((nodeAt l j).kind = kind ∧ (itemM' l j = j ∨ itemM' l j = it))) i)
  | 0 => rfl
  | i + 1 => by
    unfold namesU selU
    have ih := namesU_ded (l := l) (it := it) (kind := kind) i
    by_cases c : (nodeAt l i).kind = kind ∧ (itemM' l i = i ∨ itemM' l i = it)
    · rw [if_pos c, if_pos (decide_eq_true c), dedL_end, ← ih]
    · rw [if_neg c, if_neg (by rw [decide_eq_false c]; simp), ih]
theorem selU_or {l : List Nd} {q a b : Nat → Bool} : ∀ {i : Nat}, (∀ j, j < i → q j = (a j || b j)) → (∀ j, j < i → a j = true → b j = false) → (∀ j j', j < j' → j' < i → b j = true → a j' = false) → selU l q i = selU l a i ++ selU l b i
  | 0, _, _, _ => rfl
  | i + 1, h1, h2, h3 => by
    have ih := selU_or (l := l) (q := q) (a := a) (b := b) (i := i) (fun j hj => h1 j (by omega)) (fun j hj => h2 j (by omega)) (fun j j' hj hj' => h3 j j' hj (by omega))
    unfold selU
    rw [h1 i (by omega), ih]
    cases ha : a i
    · cases hb : b i
      · simp
      · simp
    · have hb : b i = false := h2 i (by omega) ha
      have hn : selU l b i = [] := selU_none (fun j hj => by
        cases hbj : b j
        · rfl
        · have := h3 j i hj (by omega) hbj; rw [ha] at this; simp at this)
      simp [hb, hn]
theorem names_C {l : List Nd} (h : prRightM l = true) {i : Nat} (hi : i < l.length) : namesM l i 1 = dedL [] (sgA l i).C := by
  unfold namesM
  rw [namesU_ded]
  unfold sgA
  simp only
  congr 1
  refine selU_congr fun j hj => ?_
  unfold qC
  by_cases c : (nodeAt l j).kind = 1
  · have : itemM' l j = j := by
      rcases (item_of h (by omega) (.inl c)).2 with e | ⟨e, _⟩
      · exact itm_self (tre_of h) e
      · omega
    simp [c, this]
  · simp [c]
theorem names_V {l : List Nd} (h : prRightM l = true) {i : Nat} (hi : i < l.length) : namesM l i 2 = dedL [] ((sgA l i).V ++ (sgA l i).O) := by
  unfold namesM
  rw [namesU_ded]
  unfold sgA
  simp only
  congr 1
  have t := tre_of h
  refine selU_or ?_ ?_ ?_
  · intro j hj
    unfold qV qO
    by_cases c : (nodeAt l j).kind = 2
    · by_cases e : itemM' l j = j
      · simp [c, e]
      · simp [c, e]
    · simp [c]
  · intro j hj ha
    unfold qV at ha
    unfold qO
    simp only [Bool.and_eq_true, decide_eq_true_eq] at ha
    simp [ha.2]
  · intro j j' h1 h2 hb
    unfold qO at hb
    unfold qV
    simp only [Bool.and_eq_true, decide_eq_true_eq, Bool.not_eq_true', decide_eq_false_iff_not] at hb
    obtain ⟨_, hb1, hb2⟩ := hb
    have hj := (itm t j).le
    have hne : ¬ itemM' l j' = j' := by
      intro e
      have hm := itm_mem t (by omega) e
      have := (itm t i).max _ hm (by omega)
      omega
    simp [hne]
end Go.Proofs.Ythbbeliibdhjmaa

/- Names: first, Names (the program's), texts (the law's). -/
namespace Go.Proofs.Ythbbeliibdhjmaa
open Go.HL
set_option maxRecDepth 10000
set_option linter.unusedSimpArgs false
set_option linter.unusedVariables false

theorem dedL_take {acc xs : List Str} {j : Nat} (hj : j < xs.length) : dedL acc (xs.take (j + 1)) = if inL (dedL acc (xs.take j)) (xs.getD j []) then dedL acc (xs.take j) else dedL acc (xs.take j) ++ [xs.getD j []] := by
  rw [List.take_add_one, getD_some (d := ([] : Str)) hj]
  simp only [Option.toList_some]
  rw [dedL_app]; rfl
theorem flat_take {α : Type} {ps : List (α × List Str)} {i : Nat} {p : α × List Str} (hp : ps[i]? = some p) : (ps.take (i + 1)).flatMap Prod.snd = (ps.take i).flatMap Prod.snd ++ p.2 := by
  rw [List.take_add_one, hp]; simp
section
variable {H : Heap}
set_option maxHeartbeats 1000000 in
theorem scFirst_spec {b t c : Nat} {ps : List (Value × List Str)} (hb : Blk H b t (ps.map Prod.fst)) (hr : ∀ p ∈ ps, Rd H (fun _ => True) 1 p.1 (p.2.map sv)) (hl : (ps.flatMap Prod.snd).length ≤ 10000000) (hn : ps.length ≤ 1000) :
    CallF Try.prog 34 [.slice (some ⟨b, 0, none⟩) ps.length c] H (fun r H' => Fr [] H H' ∧ Vec H' 9 1 r ((dedL [] (ps.flatMap Prod.snd)).map sv) ∧ ∀ b ∈ own r, H.size ≤ b) NoP := by
  have hsub : ∀ i, i ≤ ps.length → ((ps.take i).flatMap Prod.snd).length ≤ 10000000 := by
    intro i hi
    have e : ps.flatMap Prod.snd = (ps.take i).flatMap Prod.snd ++ (ps.drop i).flatMap Prod.snd := by
      rw [← List.flatMap_append, List.take_append_drop]
    rw [e, List.length_append] at hl
    omega
  refine callF_of Try.func34 rfl Try.ntmps34 Try.results34 (by decide) rfl ?_
  simp (disch := omega) only [go_sem, ↓cw_block, dsB_of]
  refine loop_by (fun k ρ H2 => ∃ (i : Nat) (ov : Value), k = ps.length - i ∧ i ≤ ps.length ∧ Fr [] H H2 ∧ Vec H2 9 1 ov ((dedL [] ((ps.take i).flatMap Prod.snd)).map sv) ∧ (∀ b ∈ own ov, H.size ≤ b) ∧
      (ρ.get 3 = ov ∧ ρ.get 8 = .slice (some ⟨b, 0, none⟩) ps.length c ∧ ρ.get 9 = iv ps.length ∧ ρ.get 10 = iv i ∧ ρ.ds = [])) (k := ps.length) ?_ ?_
  · exact ⟨0, _, rfl, by omega, Fr.refl _ _, Vec.nil, by simp [own], by simp (disch := omega) only [go_sem, ↓cw_block, dsB_of]⟩
  · rintro k ρ H2 ⟨i, ov, rfl, hi, fr2, vec, hown, r3, r8, r9, r10, rd⟩
    have hxi : (i : Int) + 1 = ((i + 1 : Nat) : Int) := by omega
    by_cases hin : i < ps.length
    rotate_left
    · obtain rfl : i = ps.length := by omega
      rw [List.take_length] at vec
      simp (disch := omega) only [go_sem, ↓cw_block, dsB_of, r3, r8, r9, r10, rd]
      exact fin ⟨fr2, vec, hown⟩
    obtain ⟨p, hp⟩ : ∃ p, ps[i]? = some p := ⟨_, List.getElem?_eq_getElem hin⟩
    have hpm := List.mem_of_getElem? hp
    have cb := (fr2.blk hb (by simp)).cell i
    rw [List.getElem?_map, hp, Option.map_some] at cb
    have hft := flat_take hp
    have hlen1 := hsub (i + 1) (by omega)
    rw [hft] at hlen1
    generalize hacc : (ps.take i).flatMap Prod.snd = ac at *
    obtain ⟨pv, xs⟩ := p
    simp only at cb hft hlen1
    have hrd := hr _ hpm
    simp only at hrd
    obtain ⟨ax, cx, rfl⟩ := hrd.len1
    rw [List.length_append] at hlen1
    simp (disch := omega) only [go_sem, ↓cw_block, dsB_of, r3, r8, r9, r10, rd, cb]
    refine loop_by (fun k ρ H3 => ∃ (j : Nat) (ov : Value), k = xs.length - j ∧ j ≤ xs.length ∧ Fr [] H H3 ∧ Vec H3 9 1 ov ((dedL (dedL [] ac) (xs.take j)).map sv) ∧ (∀ b ∈ own ov, H.size ≤ b) ∧
        (ρ.get 3 = ov ∧ ρ.get 8 = .slice (some ⟨b, 0, none⟩) ps.length c ∧ ρ.get 9 = iv ps.length ∧ ρ.get 10 = iv i ∧ ρ.get 14 = .slice ax xs.length cx ∧ ρ.get 15 = iv xs.length ∧ ρ.get 16 = iv j ∧ ρ.ds = [])) (k := xs.length) ?_ ?_
    · exact ⟨0, ov, rfl, by omega, fr2, vec, hown, by simp (disch := omega) only [go_sem, ↓cw_block, dsB_of, r3, r8, r9, r10, rd]⟩
    · clear vec hown r3 r8 r9 r10 rd
      rintro k ρ H3 ⟨j, ov, rfl, hj, fr3, vec, hown, r3, r8, r9, r10, r14, r15, r16, rd⟩
      have hxj : (j : Int) + 1 = ((j + 1 : Nat) : Int) := by omega
      by_cases hjn : j < xs.length
      rotate_left
      · obtain rfl : j = xs.length := by omega
        rw [List.take_length, ← dedL_app, ← hft] at vec
        simp (disch := omega) only [go_sem, ↓cw_block, dsB_of, r3, r8, r9, r10, r14, r15, r16, rd]
        exact fin ⟨ps.length - (i + 1), by omega, i + 1, ov, rfl, by omega, fr3, vec, hown, by simp (disch := omega) only [go_sem, ↓cw_block, dsB_of, r3, r8, r9, r10, rd, hxi]⟩
      have hg := getD_some (d := ([] : Str)) hjn
      obtain ⟨wb, wo, wc, q1, -, q2⟩ := (hrd.frame (Keeps.of_fr fr3 (by simp))).at1 hg
      simp only [Value.slice.injEq, true_and] at q1
      obtain ⟨rfl, rfl⟩ := q1
      have hdt := dedL_take (acc := dedL [] ac) hjn
      have hdl : (dedL (dedL [] ac) (xs.take j)).length ≤ 10000000 := by
        have h1 := dedL_len (xs.take j) (dedL [] ac)
        have h2 := dedL_len ac []
        simp at h1 h2
        omega
      have hIn := sContains_spec (H := H3) (s := xs.getD j []) (Rd.of_vec vec hown) (by omega)
      obtain ⟨ak, lk, ck, ekv, hlk⟩ := vec.len
      simp only [List.length_map, Nat.mul_one] at hlk
      subst hlk
      subst ekv
      generalize hw : xs.getD j [] = w at *
      simp (disch := omega) only [go_sem, ↓cw_block, dsB_of, r3, r8, r9, r10, r14, r15, r16, rd, q2]
      refine call_to hIn ?_
      rintro _ _ ⟨rfl, rfl⟩
      cases hq : inL (dedL (dedL [] ac) (xs.take j)) w
      · rw [hq] at hdt
        simp only [Bool.false_eq_true, if_false] at hdt
        simp (disch := omega) only [go_sem, ↓cw_block, dsB_of, r3, r8, r9, r10, r14, r15, r16, rd, q2]
        refine app_lit1 T.el29 rfl vec rfl (by simp; omega) ?_
        intro v' H6 g1 g2 g3 g4
        refine Hush.out ?_
        have fr6 : Fr [] H H6 := Fr.more fr3 g2 (fun b hb => .inr (hown b hb))
        have hz2 := fr3.size
        refine ⟨?_⟩
        simp (disch := omega) only [go_sem, ↓cw_block, dsB_of, r3, r8, r9, r10, r14, r15, r16, rd]
        exact fin ⟨xs.length - (j + 1), by omega, j + 1, v', rfl, by omega, fr6, by rw [hdt, List.map_append]; exact g1, fun b hb => (g3 b hb).elim (hown b) (fun h => by omega), by simp (disch := omega) only [go_sem, ↓cw_block, dsB_of, r3, r8, r9, r10, r14, r15, r16, rd, hxj]⟩
      · rw [hq] at hdt
        simp only [if_true] at hdt
        simp (disch := omega) only [go_sem, ↓cw_block, dsB_of, r3, r8, r9, r10, r14, r15, r16, rd]
        exact fin ⟨xs.length - (j + 1), by omega, j + 1, _, rfl, by omega, fr3, by rw [hdt]; exact vec, hown, by simp (disch := omega) only [go_sem, ↓cw_block, dsB_of, r3, r8, r9, r10, r14, r15, r16, rd, hxj]⟩
theorem w11texts_spec {u v : Value} {xs ys : List Str} (h1 : Rd H (fun _ => True) 1 u (xs.map sv)) (h2 : Rd H (fun _ => True) 1 v (ys.map sv)) (l1 : xs.length ≤ 9223372036854775807) (l2 : ys.length ≤ 9223372036854775807) :
    CallF Try.prog 17 [u, v] H (fun r H' => H = H' ∧ (xs = ys → r = .bool true)) NoP := by
  obtain ⟨a1, c1, rfl⟩ := h1.len1
  obtain ⟨a2, c2, rfl⟩ := h2.len1
  refine callF_of Try.func17 rfl Try.ntmps17 Try.results17 (by decide) rfl ?_
  by_cases hl : xs.length = ys.length
  rotate_left
  · simp (disch := omega) only [go_sem, ↓cw_block, dsB_of]
    exact fin ⟨rfl, fun e => by rw [e] at hl; exact absurd rfl hl⟩
  rw [hl]
  simp (disch := omega) only [go_sem, ↓cw_block, dsB_of]
  refine loop_by (fun k ρ H2 => ∃ i : Nat, k = ys.length - i ∧ i ≤ ys.length ∧ H = H2 ∧ (ρ.get 0 = .slice a1 ys.length c1 ∧ ρ.get 1 = .slice a2 ys.length c2 ∧ ρ.get 5 = iv i ∧ ρ.ds = [])) (k := ys.length) ?_ ?_
  · exact ⟨0, rfl, by omega, rfl, by simp (disch := omega) only [go_sem, ↓cw_block, dsB_of]⟩
  · rintro k ρ _ ⟨i, rfl, hi, rfl, r0, r1, r5, rd⟩
    have hxi : (i : Int) + 1 = ((i + 1 : Nat) : Int) := by omega
    by_cases hin : i < ys.length
    rotate_left
    · obtain rfl : i = ys.length := by omega
      simp (disch := omega) only [go_sem, ↓cw_block, dsB_of, r0, r1, r5, rd]
      exact fin ⟨rfl, fun _ => rfl⟩
    have hg1 := getD_some (l := xs) (d := ([] : Str)) (i := i) (by omega)
    have hg2 := getD_some (l := ys) (d := ([] : Str)) hin
    obtain ⟨b1, o1, k1, p1, -, p2⟩ := h1.at1 hg1
    obtain ⟨b2, o2, k2, q1, -, q2⟩ := h2.at1 hg2
    simp only [Value.slice.injEq, true_and] at p1 q1
    obtain ⟨rfl, -, rfl⟩ := p1
    obtain ⟨rfl, rfl⟩ := q1
    simp (disch := omega) only [go_sem, ↓cw_block, dsB_of, r0, r1, r5, rd]
    refine draw0 (lk [(0, true), (1, true), (2, true), (3, true), (4, true), (5, true), (6, true), (7, true), (8, true)] .fin) T.mixed ?_
    by_cases hs : xs.getD i [] = ys.getD i []
    · have hd : (decide ¬ xs.getD i [] = ys.getD i []) = false := by simpa using hs
      simp (disch := omega) only [go_sem, ↓cw_block, dsB_of, r0, r1, r5, rd, p2, q2, hd]
      exact fin ⟨ys.length - (i + 1), by omega, i + 1, rfl, by omega, rfl, by simp (disch := omega) only [go_sem, ↓cw_block, dsB_of, r0, r1, r5, rd, hxi]⟩
    · have hd : (decide ¬ xs.getD i [] = ys.getD i []) = true := by simpa using hs
      simp (disch := omega) only [go_sem, ↓cw_block, dsB_of, r0, r1, r5, rd, p2, q2, hd]
      exact fin ⟨rfl, fun e => absurd (by rw [e]) hs⟩
end
end Go.Proofs.Ythbbeliibdhjmaa

/- Names: the program's Names. -/
namespace Go.Proofs.Ythbbeliibdhjmaa
open Go.HL
set_option maxRecDepth 10000
set_option linter.unusedSimpArgs false
set_option linter.unusedVariables false

def stopN (k : Nat) (i : Nat) (_ : Sg) : Bool := decide (k ≤ i)
theorem firstT_at {k : Nat} : ∀ (m i : Nat), i ≤ k → k < i + m → firstT (fun i => decide (k ≤ i)) m i = some k
  | 0, i, h1, h2 => by omega
  | m + 1, i, h1, h2 => by
    unfold firstT
    by_cases e : k ≤ i
    · rw [if_pos (by simpa using e)]; congr 1; omega
    · rw [if_neg (by simpa using e)]
      exact firstT_at m (i + 1) (by omega) (by omega)
section
variable {H : Heap} {S : Nat → Prop} {tv : Value} {l : List Nd}
/-- The lists that Names leaves. -/
def NmQ (H' : Heap) (b6 b7 : Nat) (g : Sg) : Prop := ∃ cv vv, Blk H' b6 29 [cv] ∧ Blk H' b7 29 [vv] ∧ Rd H' (fun _ => True) 1 cv ((dedL [] g.C).map sv) ∧ Rd H' (fun _ => True) 1 vv ((dedL [] (g.V ++ g.O)).map sv)
set_option maxHeartbeats 1000000 in
theorem scNames1_spec {M sb bA b6 b7 : Nat} {c v p o c6 c7 : Value} {g : Sg} {i k : Nat} (x : SM H M sb c v p o g) (hs : g.small 1000000) (hA : Blk H bA 3 [iv k]) (hb6 : Blk H b6 29 [c6]) (hb7 : Blk H b7 29 [c7])
    (h67 : b6 ≠ b7) (l6 : b6 < M) (l7 : b7 < M) :
    CallF Try.prog 33 [iv i, hp sb, hp bA, hp b6, hp b7] H (fun r H' => r = .bool (!stopN k i g) ∧ (stopN k i g = false → Fr [] H H') ∧ (stopN k i g = true → Fr [b6, b7] H H' ∧ NmQ H' b6 b7 g)) NoP := by
  have kA := hA.cell 0
  simp only [List.getElem?_cons_zero] at kA
  unfold stopN
  refine callF_of Try.func33 rfl Try.ntmps33 Try.results33 (by decide) rfl ?_
  by_cases hk : k ≤ i
  rotate_left
  · have hik : (i : Int) < (k : Int) := by omega
    rw [decide_eq_false hk]
    simp (disch := omega) only [go_sem, ↓cw_block, dsB_of, kA]
    exact fin ⟨rfl, fun _ => Fr.refl _ _, by simp⟩
  have hik : ¬ (i : Int) < (k : Int) := by omega
  rw [decide_eq_true hk]
  obtain ⟨a1, k1, a2, k2, a3, k3, a4, k4, e1, e2, e3, e4⟩ := x.forms
  subst e1 e2 e3 e4
  have x0 := x.box.cell 0
  simp only [List.getElem?_cons_zero] at x0
  unfold Sg.small at hs
  obtain ⟨A1, hA1⟩ : ∃ A, A = H.push (.cells #[.slice a1 g.C.length k1] 29) := ⟨_, rfl⟩
  have f1 : Fr [] H A1 := by rw [hA1]; exact Fr.push
  have z1 : A1.size = H.size + 1 := by rw [hA1]; simp
  have b1 : Blk A1 H.size 29 [.slice a1 g.C.length k1] := by rw [hA1]; exact Blk.new rfl
  have rc : Rd A1 (fun _ => True) 1 (.slice a1 g.C.length k1) (g.C.map sv) := (Rd.of_vec x.vc (fun _ _ => trivial)).frame (Keeps.of_fr f1 (by simp))
  simp (disch := omega) only [go_sem, ↓cw_block, dsB_of, kA, x0]
  rw [← hA1]
  refine call_to (scFirst_spec (ps := [(.slice a1 g.C.length k1, g.C)]) b1 (by intro p hp; simp at hp; subst hp; exact rc) (by simp; omega) (by simp)) ?_
  intro r1 H1 hv
  refine Hush.out ?_
  obtain ⟨f2, vec1, own1'⟩ := hv
  have own1 : ∀ b ∈ own r1, A1.size ≤ b := own1'
  replace f2 : Fr [] A1 H1 := f2
  simp only [List.flatMap_cons, List.flatMap_nil, List.append_nil] at vec1
  have f12 := f1.trans f2
  have b6' := f12.blk hb6 (by simp)
  have w6 := b6'.wr (i := 0) (by simp) r1
  have b6n : Blk (setH H1 ⟨b6, 0, none⟩ r1) b6 29 [r1] := b6'.set 0 r1
  have z2 := f2.size
  have lb6 := hb6.lt
  have lb7 := hb7.lt
  obtain ⟨A2, hA2⟩ : ∃ A, A = setH H1 ⟨b6, 0, none⟩ r1 := ⟨_, rfl⟩
  have f3 : Fr [b6] H1 A2 := by rw [hA2]; exact Fr.set (by simp)
  rw [← hA2] at b6n
  have f03 : Fr [b6] H A2 := f12.nil.trans f3
  have x' : SM A2 M sb (.slice a1 g.C.length k1) (.slice a2 g.V.length k2) (.slice a3 g.P.length k3) (.slice a4 g.O.length k4) g := by
    have xb := x.low
    have key : ∀ (y : Value) (ys : List Value), Vec H 9 1 y ys → (∀ b ∈ own y, M ≤ b ∧ b ≠ sb) → Vec A2 9 1 y ys := fun y ys hy ho => hy.frame f03 (fun b hb => by have := ho b hb; simp; omega)
    exact ⟨f03.blk x.box (by simp; omega), x.low, key _ _ x.vc x.oc, x.oc, key _ _ x.vv x.ov, x.ov, key _ _ x.vp x.op, x.op, key _ _ x.vo x.oo, x.oo, x.dcv, x.dcp, x.dco, x.dvp, x.dvo, x.dpo⟩
  have x1 := x'.box.cell 1
  have x3 := x'.box.cell 3
  simp only [List.getElem?_cons_zero, List.getElem?_cons_succ] at x1 x3
  obtain ⟨al, kl, er1⟩ : ∃ a k, r1 = .slice a (dedL [] g.C).length k := by
    obtain ⟨a, n, k, e, hl⟩ := vec1.len
    simp at hl
    exact ⟨a, k, by rw [e, hl]⟩
  subst er1
  obtain ⟨A3, hA3⟩ : ∃ A, A = A2.push (.cells #[.slice a2 g.V.length k2, .slice a4 g.O.length k4] 29) := ⟨_, rfl⟩
  have f4 : Fr [] A2 A3 := by rw [hA3]; exact Fr.push
  have z3 : A3.size = A2.size + 1 := by rw [hA3]; simp
  have z23 := f3.size
  have b3 : Blk A3 A2.size 29 [.slice a2 g.V.length k2, .slice a4 g.O.length k4] := by rw [hA3]; exact Blk.new rfl
  have rv : Rd A3 (fun _ => True) 1 (.slice a2 g.V.length k2) (g.V.map sv) := (Rd.of_vec x'.vv (fun _ _ => trivial)).frame (Keeps.of_fr f4 (by simp))
  have ro : Rd A3 (fun _ => True) 1 (.slice a4 g.O.length k4) (g.O.map sv) := (Rd.of_vec x'.vo (fun _ _ => trivial)).frame (Keeps.of_fr f4 (by simp))
  refine ⟨?_⟩
  simp (disch := omega) only [go_sem, ↓cw_block, dsB_of, w6]
  rw [← hA2]
  refine draw0 (lk [(0, true), (1, true), (2, true), (3, true), (4, true), (5, true), (6, true), (7, true)] (.act 8 (.act 9 (.act 10 .fin .non) .non) .non)) T.mixed ?_
  simp (disch := omega) only [go_sem, ↓cw_block, dsB_of, x1, x3]
  rw [← hA3]
  refine call_to (scFirst_spec (ps := [(.slice a2 g.V.length k2, g.V), (.slice a4 g.O.length k4, g.O)]) b3 (by intro p hp; simp at hp; rcases hp with rfl | rfl; exact rv; exact ro) (by simp; omega) (by simp)) ?_
  intro r2 H2 hv
  refine Hush.out ?_
  obtain ⟨f5, vec2, own2'⟩ := hv
  have own2 : ∀ b ∈ own r2, A3.size ≤ b := own2'
  replace f5 : Fr [] A3 H2 := f5
  simp only [List.flatMap_cons, List.flatMap_nil, List.append_nil] at vec2
  have f45 := f4.trans f5
  have b7' := f45.blk (f03.blk hb7 (by simp; omega)) (by simp)
  have w7 := b7'.wr (i := 0) (by simp) r2
  have b7n : Blk (setH H2 ⟨b7, 0, none⟩ r2) b7 29 [r2] := b7'.set 0 r2
  have z5 := f5.size
  obtain ⟨A4, hA4⟩ : ∃ A, A = setH H2 ⟨b7, 0, none⟩ r2 := ⟨_, rfl⟩
  have f6 : Fr [b7] H2 A4 := by rw [hA4]; exact Fr.set (by simp)
  rw [← hA4] at b7n
  obtain ⟨al2, kl2, er2⟩ : ∃ a k, r2 = .slice a (dedL [] (g.V ++ g.O)).length k := by
    obtain ⟨a, n, k, e, hl⟩ := vec2.len
    simp at hl
    exact ⟨a, k, by rw [e, hl]⟩
  subst er2
  refine ⟨?_⟩
  simp (disch := omega) only [go_sem, ↓cw_block, dsB_of, w7]
  rw [← hA4]
  try (simp (disch := omega) only [go_sem, ↓cw_block, dsB_of])
  have F1 : Fr [b6, b7] A2 A4 := (f45.mono (by simp)).trans (f6.mono (by intro b _ hb; simp at hb ⊢; omega))
  refine fin ⟨rfl, by simp, fun _ => ⟨(f03.mono (by intro b _ hb; simp at hb ⊢; omega)).trans F1, .slice al (dedL [] g.C).length kl, _, ?_, b7n, ?_, ?_⟩⟩
  · exact f6.blk (f45.blk b6n (by simp)) (by simp; omega)
  · refine Rd.of_vec (((vec1.frame f3 ?_).frame f45 (by simp)).frame f6 ?_) (fun _ _ => trivial)
    · intro b hb; have := own1 b hb; simp; omega
    · intro b hb; have := own1 b hb; simp; omega
  · have hd : ∀ b ∈ own (.slice al2 (dedL [] (g.V ++ g.O)).length kl2), b ∉ [b7] := by
      intro b hb; have := own2 b hb; have := f1.size; have := f4.size; simp; omega
    exact Rd.of_vec (vec2.frame f6 hd) (fun _ _ => trivial)
set_option maxHeartbeats 1000000 in
theorem scNames_spec (h : NL H S tv l) (hz : Sz l) {k : Int} : CallF Try.prog 16 [tv, iv k] H (fun r H' => Fr [] H H' ∧ ∃ cv vv, r = .tuple #[cv, vv] ∧
    ((k < 0 ∨ (l.length : Int) ≤ k ∨ prRightM l = false) → cv = .slice none 0 0 ∧ vv = .slice none 0 0) ∧
    (0 ≤ k → k < l.length → prRightM l = true → Rd H' (fun _ => True) 1 cv ((namesM l k.toNat 1).map sv) ∧ Rd H' (fun _ => True) 1 vv ((namesM l k.toNat 2).map sv))) NoP := by
  obtain ⟨av, cv, rfl⟩ := h.len
  obtain ⟨A0, hA0⟩ : ∃ A, A = H.push (.cells #[iv k] 3) := ⟨_, rfl⟩
  have z0 : A0.size = H.size + 1 := by rw [hA0]; simp
  have g0 : Fr [] H A0 := by rw [hA0]; exact Fr.push
  have b1 : Blk A0 H.size 3 [iv k] := by rw [hA0]; exact Blk.new rfl
  have k1 := b1.cell 0
  simp only [List.getElem?_cons_zero] at k1
  refine callF_of Try.func16 rfl Try.ntmps16 Try.results16 (by decide) rfl ?_
  simp (disch := omega) only [go_sem, ↓cw_block, dsB_of]
  rw [← hA0]
  by_cases c1 : k < 0
  · simp (disch := omega) only [go_sem, ↓cw_block, dsB_of, k1]
    exact fin ⟨g0, _, _, rfl, fun _ => ⟨rfl, rfl⟩, fun h => by omega⟩
  by_cases c2 : (l.length : Int) ≤ k
  · simp (disch := omega) only [go_sem, ↓cw_block, dsB_of, k1]
    exact fin ⟨g0, _, _, rfl, fun _ => ⟨rfl, rfl⟩, fun _ h => by omega⟩
  simp (disch := omega) only [go_sem, ↓cw_block, dsB_of, k1]
  refine call_to (pgRight_spec (h.grow g0) hz) ?_
  intro v5 H5 hv
  refine Hush.out ?_
  obtain ⟨f5, rfl⟩ := hv
  cases hr : prRightM l
  · refine ⟨?_⟩
    simp (disch := omega) only [go_sem, ↓cw_block, dsB_of]
    exact fin ⟨g0.trans f5, _, _, rfl, fun _ => ⟨rfl, rfl⟩, fun _ _ h => by simp at h⟩
  obtain ⟨hl0, hl8, hW, -⟩ := right_facts hr
  obtain ⟨n, rfl⟩ : ∃ n : Nat, k = n := ⟨k.toNat, by omega⟩
  obtain ⟨A1, hA1⟩ : ∃ A, A = H5.push (.cells #[.slice none 0 0] 29) := ⟨_, rfl⟩
  obtain ⟨A2, hA2⟩ : ∃ A, A = A1.push (.cells #[.slice none 0 0] 29) := ⟨_, rfl⟩
  have z1 : A1.size = H5.size + 1 := by rw [hA1]; simp
  have z2 : A2.size = A1.size + 1 := by rw [hA2]; simp
  have g1 : Fr [] H5 A1 := by rw [hA1]; exact Fr.push
  have g2 : Fr [] A1 A2 := by rw [hA2]; exact Fr.push
  have b6 : Blk A2 H5.size 29 [.slice none 0 0] := g2.blk (by rw [hA1]; exact Blk.new rfl) (by simp)
  have b7 : Blk A2 A1.size 29 [.slice none 0 0] := by rw [hA2]; exact Blk.new rfl
  obtain ⟨A2p, hA2p⟩ : ∃ A, A = A2.push (.cells #[.slice none 0 0, .nilFunc] 66) := ⟨_, rfl⟩
  have g2p : Fr [] A2 A2p := by rw [hA2p]; exact Fr.push
  have b4z : Blk A2p A2.size 66 [.slice none 0 0, .nilFunc] := by rw [hA2p]; exact Blk.new rfl
  obtain ⟨A3, e4, b4, f4⟩ := store_blk (P := Try.prog) (ty := 66) (new := [.slice av l.length cv, .func (.func 33) #[] #[hp H.size, hp H5.size, hp A1.size]]) b4z rfl T.size66 (one_all rfl)
  have g3 : Fr [] A2 A3 := Fr.more g2p f4 (by simp)
  have ld4 := b4.cells0
  simp only [List.length_cons, List.length_nil] at ld4
  have fall : Fr [] A0 A3 := ((f5.trans g1).trans g2).trans g3
  have hz5 := f5.size
  have hz3 := g3.size
  have nl3 := h.grow (g0.trans fall)
  have b1' := fall.blk b1 (by simp)
  have b6' := g3.blk b6 (by simp)
  have b7' := g3.blk b7 (by simp)
  have hrun := scRun_spec (caps := [hp H.size, hp H5.size, hp A1.size]) (gf := 33) (stop := stopN n) (Post := fun i g H' => Fr [H5.size, A1.size] A3 H' ∧ NmQ H' H5.size A1.size g) nl3 hW (by omega) hl0
    (by
      intro i g H' M sb c v p o hi hfr sm hM hs
      have := b6.lt
      have := b7.lt
      refine (scNames1_spec sm hs (hfr.blk b1' (by simp)) (hfr.blk b6' (by simp)) (hfr.blk b7' (by simp)) (by omega) (by omega) (by omega)).mono ?_ (fun _ _ x => x)
      rintro r H'' ⟨e1, e2, e3⟩
      refine ⟨e1, e2, fun hq => ⟨?_, (e3 hq).2⟩⟩
      exact hfr.nil.trans (e3 hq).1)
  have hfirst := runL_first hr (stopN n)
  have hat : firstT (fun i => stopN n i (sgA l i)) l.length 0 = some n := firstT_at l.length 0 (by omega) (by omega)
  rw [hat] at hfirst
  rw [hfirst] at hrun
  refine ⟨?_⟩
  simp (disch := omega) only [go_sem, ↓cw_block, dsB_of]
  rw [← hA1, ← hA2]
  try (simp (disch := omega) only [go_sem, ↓cw_block, dsB_of])
  rw [← hA2p]
  simp (disch := omega) only [go_sem, ↓cw_block, dsB_of, e4, ld4]
  refine call_to hrun ?_
  intro v6 H6 hv
  refine Hush.out ?_
  obtain ⟨hfr, cv', vv', q1, q2, q3, q4⟩ := hv
  have c1 := q1.cell 0
  have c2 := q2.cell 0
  simp only [List.getElem?_cons_zero] at c1 c2
  refine ⟨?_⟩
  refine draw0 (lk [(0, true), (1, true), (2, true), (3, true)] .fin) T.mixed ?_
  simp (disch := omega) only [go_sem, ↓cw_block, dsB_of, c1, c2]
  have hfin : Fr [] H H6 := g0.trans (Fr.more fall hfr (by simp; omega))
  rw [← names_C hr (by omega)] at q3
  rw [← names_V hr (by omega)] at q4
  refine fin ⟨hfin, cv', vv', rfl, ?_, fun _ _ _ => ⟨q3, q4⟩⟩
  rintro (h | h | h)
  · omega
  · omega
  · simp at h
end
end Go.Proofs.Ythbbeliibdhjmaa

/- The law ScopeNames, over heaps. -/
namespace Go.Proofs.Ythbbeliibdhjmaa
open Go.HL
set_option maxRecDepth 10000
set_option linter.unusedSimpArgs false
set_option linter.unusedVariables false

section
variable {H : Heap} {S : Nat → Prop} {v : Value} {l : List Nd}
set_option maxHeartbeats 1000000 in
theorem scopeNames_spec (h : NL H S v l) (hz : Sz l) {k : Int} : CallF Try.prog 4 [v, iv k] H (fun r H' => r = .bool true ∧ Fr [] H H') NoP := by
  obtain ⟨av, cv, rfl⟩ := h.len
  refine callF_of Try.func4 rfl Try.ntmps4 Try.results4 (by decide) rfl ?_
  simp (disch := omega) only [go_sem, ↓cw_block, dsB_of]
  refine call_to w11awake_spec ?_
  intro r1 H1 hv
  refine Hush.out ?_
  obtain ⟨rfl, f1⟩ := hv
  have h1 := h.grow f1
  refine ⟨?_⟩
  simp (disch := omega) only [go_sem, ↓cw_block, dsB_of]
  refine call_to (r9Small_spec h1 hz) ?_
  rintro _ _ ⟨rfl, rfl⟩
  cases hs : smallM l
  · simp (disch := omega) only [go_sem, ↓cw_block, dsB_of]
    refine call_to w11awake_spec ?_
    intro r2 H2 hv
    refine Hush.out ?_
    obtain ⟨rfl, f2⟩ := hv
    refine ⟨?_⟩
    simp (disch := omega) only [go_sem, ↓cw_block, dsB_of]
    exact fin ⟨rfl, f1.trans f2⟩
  have hlen := small_len hs
  simp (disch := omega) only [go_sem, ↓cw_block, dsB_of]
  refine call_to (scNames_spec h1 hz) ?_
  intro r2 H2 hv
  refine Hush.out ?_
  obtain ⟨f2, c, w, rfl, q1, q2⟩ := hv
  have h2 := h1.grow f2
  refine ⟨?_⟩
  simp (disch := omega) only [go_sem, ↓cw_block, dsB_of]
  refine call_to (r9Right_spec h2 hz) ?_
  intro r3 H3 hv
  refine Hush.out ?_
  obtain ⟨f3, rfl⟩ := hv
  have h3 := h2.grow f3
  rw [← right_eq]
  have f13 := (f1.trans f2).trans f3
  cases hr : prRightM l
  · obtain ⟨rfl, rfl⟩ := q1 (.inr (.inr hr))
    refine ⟨?_⟩
    simp (disch := omega) only [go_sem, ↓cw_block, dsB_of]
    exact fin ⟨rfl, f13⟩
  by_cases c1 : k < 0
  · obtain ⟨rfl, rfl⟩ := q1 (.inl c1)
    refine ⟨?_⟩
    simp (disch := omega) only [go_sem, ↓cw_block, dsB_of]
    exact fin ⟨rfl, f13⟩
  by_cases c2 : (l.length : Int) ≤ k
  · obtain ⟨rfl, rfl⟩ := q1 (.inr (.inl c2))
    refine ⟨?_⟩
    simp (disch := omega) only [go_sem, ↓cw_block, dsB_of]
    exact fin ⟨rfl, f13⟩
  obtain ⟨hl0, hl8, hW, -⟩ := right_facts hr
  obtain ⟨n, rfl⟩ : ∃ n : Nat, k = n := ⟨k.toNat, by omega⟩
  obtain ⟨rc, rw'⟩ := q2 (by omega) (by omega) hr
  simp only [Int.toNat_natCast] at rc rw'
  have hn : n < l.length := by omega
  have len1 : (namesM l n 1).length ≤ 9223372036854775807 := by unfold namesM; have := namesU_len (l := l) (it := itemM' l n) (kind := 1) n; omega
  have len2 : (namesM l n 2).length ≤ 9223372036854775807 := by unfold namesM; have := namesU_len (l := l) (it := itemM' l n) (kind := 2) n; omega
  obtain ⟨a5, c5, rfl⟩ := rc.len1
  obtain ⟨a6, c6, rfl⟩ := rw'.len1
  refine ⟨?_⟩
  simp (disch := omega) only [go_sem, ↓cw_block, dsB_of]
  refine call_to (r11Names_spec h3 hz hW (by omega) hn (kind := 1) (.inl rfl)) ?_
  intro r4 H4 hv
  refine Hush.out ?_
  obtain ⟨f4, n4⟩ := hv
  have h4 := h3.grow f4
  have rc4 := (rc.frame (Keeps.of_fr (f3.trans f4) (by simp)))
  have rw4 := (rw'.frame (Keeps.of_fr (f3.trans f4) (by simp)))
  refine ⟨?_⟩
  simp (disch := omega) only [go_sem, ↓cw_block, dsB_of]
  refine call_to (w11texts_spec rc4 (n4.mono (fun _ _ _ => trivial)) len1 len1) ?_
  rintro _ _ ⟨rfl, e⟩
  obtain rfl := e rfl
  simp (disch := omega) only [go_sem, ↓cw_block, dsB_of]
  refine call_to (r11Names_spec h4 hz hW (by omega) hn (kind := 2) (.inr (.inl rfl))) ?_
  intro r5 H5 hv
  refine Hush.out ?_
  obtain ⟨f5, n5⟩ := hv
  have rw5 := (rw4.frame (Keeps.of_fr f5 (by simp)))
  refine ⟨?_⟩
  simp (disch := omega) only [go_sem, ↓cw_block, dsB_of]
  refine call_to (w11texts_spec rw5 (n5.mono (fun _ _ _ => trivial)) len2 len2) ?_
  rintro _ _ ⟨rfl, e⟩
  obtain rfl := e rfl
  simp (disch := omega) only [go_sem, ↓cw_block, dsB_of]
  exact fin ⟨rfl, (f13.trans f4).trans f5⟩
end
end Go.Proofs.Ythbbeliibdhjmaa

/- Proved: for every input the law ScopeNames returns true, and its arguments read as they did. No condition. -/
namespace Go.Proofs.Ythbbeliibdhjmaa.scopeNames
open Go.ChangeShapes Go.WideShapes Go.ChangeAt Go.RowKit Go.HL
set_option linter.unusedVariables false

theorem own : ownKnob Try.prog.godebug = none := by kernel_rfl
theorem laidOut : laidOutB Try.prog = true := by kernel_rfl

set_option maxRecDepth 100000 in
theorem lifted (os : Os) (started : os.Started) (H : Type) (enc : TypeId × Value → H) :
    ReturnsInHanded {} Try.checked os 4 .any (Rows.scopeNamesSpec.pre6 enc Try.prog Try.f4 Rows.scopeNamesRow.domain false) (Rows.scopeNamesSpec.post enc Try.prog Try.f4 false true false false) := by
  refine returnsInHanded_of_change (C := Try.checked) own started (by kernel_rfl) Try.func4
    (ChangeSpec.witness6 (enc := enc) (C := Try.checked) false ⟨#[], #[.slice none 0 0, .int .i64 0], []⟩ 8 (by kernel_rfl) (by kernel_rfl) (by kernel_rfl) (by kernel_rfl)) ?_
  intro W base args ds gs before hval0 hW _ _
  have hval : ∀ (j : Nat) t v, Try.f4.params[j]? = some t → args[j]? = some v → Value.okWide Try.prog W .any base t v := hval0
  have hW' := hW
  obtain ⟨p, q, hA0, hV, rfl, hfz, hnd⟩ := hW
  have hA : DataW.TrodAll enc Try.prog W 0 (fun _ => true) true Try.f4.params.toList args.toList ds p := hA0
  rw [Try.params4] at hA hval
  obtain ⟨v0, v1, d0, d1, p0, p1, rfl, rfl, rfl, t0, t1⟩ := trodAll_two hA
  obtain ⟨rfl, rfl⟩ := trodVars_none hV
  obtain ⟨l0, h0, z0⟩ := arg_nodes (hval 0 22 v0 rfl rfl) t0
  obtain ⟨m1, rfl, rfl, rfl, wm1⟩ := open_int Try.underlying3 (hval 1 3 v1 rfl rfl) t1
  have h1 : -9223372036854775808 ≤ m1 ∧ m1 ≤ 9223372036854775807 := by simpa [Lit.wf, IntKind.min, IntKind.max, IntKind.signed, IntKind.bits] using wm1
  have hcall := hcalls_of_callF Try.func4 rfl (by decide) (scopeNames_spec h0 z0 (k := m1))
  refine (calls_of_hcalls hcall (R := fun W' => Below W.heap.size W W') (fun W' hb => hb)).mono ?_
  rintro e W' ⟨v, rfl, rfl, hb⟩
  exact ⟨_, rfl, law_post laidOut (by rw [Try.params4]; intro t ht; simp at ht; rcases ht with rfl | rfl <;> exact ⟨by kernel_rfl, of_decide_eq_true (by kernel_rfl)⟩) (tb := 4) (by kernel_rfl) Try.underlying4 rfl rfl rfl rfl hW' hb⟩

theorem proved : Rows.ScopeNamesSaid :=
  OpenClaim.holds_of_wide 4 Try.f4 rfl rfl rfl rfl rfl rfl rfl ⟨rfl, rfl, rfl, rfl, rfl⟩ rfl rfl rfl rfl rfl (by kernel_rfl) Try.func4 (by kernel_rfl)
    (of_decide_eq_true (by kernel_rfl)) (by unfold Func.isWrapper; first | (rw [if_pos (by decide +kernel)]; kernel_rfl) | (rw [if_neg (by decide +kernel)]; exact ⟨rfl, rfl⟩))
    (fun os started H enc _ => lifted os started H enc)
#print axioms proved
end Go.Proofs.Ythbbeliibdhjmaa.scopeNames
