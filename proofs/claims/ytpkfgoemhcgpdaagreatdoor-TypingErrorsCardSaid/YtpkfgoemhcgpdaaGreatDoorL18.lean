/- Names: what is in sight at a node of a tree; the two answers to what is wrong with the names are the same. -/
import Derived.Test.YtpkfgoemhcgpdaaGreatDoorL17
import Derived.Test.YtpkfgoemhcgpdaaGreatDoorL07
namespace Go.Proofs.YtpkfgoemhcgpdaaGreatDoor
open Go.HL
set_option maxRecDepth 10000
set_option linter.unusedSimpArgs false
set_option linter.unusedVariables false

theorem foldl_congr_item {i j : Int} : ∀ (ks : List Int) (o : Int), (∀ k ∈ ks, (k ≤ i ↔ k ≤ j)) → ks.foldl (fun out k => if k ≤ i then k else out) o = ks.foldl (fun out k => if k ≤ j then k else out) o
  | [], o, _ => rfl
  | k :: ks, o, h => by
    simp only [List.foldl_cons]
    have hk := h k (by simp)
    have : (if k ≤ i then k else o) = (if k ≤ j then k else o) := by
      by_cases c : k ≤ i
      · rw [if_pos c, if_pos (hk.1 c)]
      · rw [if_neg c, if_neg (fun e => c (hk.2 e))]
    rw [this]
    exact foldl_congr_item ks _ (fun k' h' => h k' (by simp [h']))
theorem foldl_item {i : Int} : ∀ (ks : List Int) (o : Int), ks.Pairwise (· < ·) → (∀ k ∈ ks, o ≤ k) →
    (ks.foldl (fun out k => if k ≤ i then k else out) o = o ∨ (ks.foldl (fun out k => if k ≤ i then k else out) o ∈ ks ∧ ks.foldl (fun out k => if k ≤ i then k else out) o ≤ i)) ∧
    o ≤ ks.foldl (fun out k => if k ≤ i then k else out) o ∧ ∀ k ∈ ks, k ≤ i → k ≤ ks.foldl (fun out k => if k ≤ i then k else out) o
  | [], o, _, _ => by simp
  | k :: ks, o, hp, hk => by
    rw [List.pairwise_cons] at hp
    simp only [List.foldl_cons]
    have hok := hk k (by simp)
    by_cases c : k ≤ i
    · rw [if_pos c]
      obtain ⟨a1, a2, a3⟩ := foldl_item ks k hp.2 (fun k' h' => by have := hp.1 k' h'; omega)
      refine ⟨.inr ?_, Int.le_trans hok a2, ?_⟩
      · rcases a1 with e | ⟨e1, e2⟩
        · rw [e]; exact ⟨by simp, c⟩
        · exact ⟨by simp [e1], e2⟩
      · intro k' h' hi
        rw [List.mem_cons] at h'
        rcases h' with rfl | h'
        · exact a2
        · exact a3 k' h' hi
    · rw [if_neg c]
      obtain ⟨a1, a2, a3⟩ := foldl_item ks o hp.2 (fun k' h' => hk k' (by simp [h']))
      refine ⟨?_, a2, ?_⟩
      · rcases a1 with e | ⟨e1, e2⟩
        · exact .inl e
        · exact .inr ⟨by simp [e1], e2⟩
      · intro k' h' hi
        rw [List.mem_cons] at h'
        rcases h' with rfl | h'
        · exact absurd hi c
        · exact a3 k' h' hi
/-- Below a kid of the first node nothing reaches behind the next one. -/
theorem walkK_span {l : List Nd} {ih : Nat → Nat × Bool} (h : ∀ i e, i < l.length → ih i = (e, true) → i < e ∧ e ≤ l.length ∧ ∀ j, i ≤ j → j < e → ∀ c ∈ (nodeAt l j).kids, (j : Int) < c ∧ c < e) :
    ∀ (ks : List Int) (i e : Nat), i ≤ l.length → walkK l ih ks i = (e, true) → ∀ p, i ≤ p → p < e → ∀ c ∈ (nodeAt l p).kids, c < e ∧ ∀ k ∈ ks, (k ≤ (p : Int) ↔ k ≤ c)
  | [], i, e, hi, hw => by
    simp [walkK] at hw
    intro j h1 h2; omega
  | k :: ks, i, e, hi, hw => by
    intro p h1 h2 c hc
    unfold walkK at hw
    split at hw
    · rename_i hcd
      split at hw
      · rename_i hok
        obtain ⟨a1, a2, a3⟩ := h i (ih i).1 hcd.2 (by rw [← hok])
        obtain ⟨b1, b2⟩ := walkK_inc (l := l) (ih := ih) (fun i e h1 h2 => by have := h i e h1 h2; exact ⟨this.1, this.2.1⟩) ks (ih i).1 e a2 hw
        have hge : (ih i).1 ≤ e := by
          have hge : ∀ (ks : List Int) (i : Nat), i ≤ l.length → walkK l ih ks i = (e, true) → i ≤ e := by
            intro ks
            induction ks with
            | nil => intro i _ hw; simp [walkK] at hw; omega
            | cons k ks IH =>
              intro i hi hw
              unfold walkK at hw
              split at hw
              · rename_i hc
                split at hw
                · rename_i hok
                  have := h i (ih i).1 hc.2 (by rw [← hok])
                  have := IH (ih i).1 this.2.1 hw
                  omega
                · simp at hw
              · simp at hw
          exact hge ks (ih i).1 a2 hw
        by_cases hp : p < (ih i).1
        · obtain ⟨c1, c2⟩ := a3 p h1 hp c hc
          refine ⟨by omega, fun k' hk' => ?_⟩
          rw [List.mem_cons] at hk'
          rcases hk' with rfl | hk'
          · omega
          · have := b2 k' hk'
            omega
        · obtain ⟨c1, c2⟩ := walkK_span h ks (ih i).1 e a2 hw p (by omega) h2 c hc
          refine ⟨c1, fun k' hk' => ?_⟩
          rw [List.mem_cons] at hk'
          rcases hk' with rfl | hk'
          · have hpc : (p : Int) < c := by
              have := walkK_low h ks (ih i).1 e a2 hw p (by omega) h2 c hc
              exact this
            omega
          · exact c2 k' hk'
      · simp at hw
    · simp at hw
where
  walkK_low {l : List Nd} {ih : Nat → Nat × Bool} (h : ∀ i e, i < l.length → ih i = (e, true) → i < e ∧ e ≤ l.length ∧ ∀ j, i ≤ j → j < e → ∀ c ∈ (nodeAt l j).kids, (j : Int) < c ∧ c < e) :
    ∀ (ks : List Int) (i e : Nat), i ≤ l.length → walkK l ih ks i = (e, true) → ∀ p, i ≤ p → p < e → ∀ c ∈ (nodeAt l p).kids, (p : Int) < c
  | [], i, e, hi, hw => by
    simp [walkK] at hw
    intro j h1 h2; omega
  | k :: ks, i, e, hi, hw => by
    intro p h1 h2 c hc
    unfold walkK at hw
    split at hw
    · rename_i hcd
      split at hw
      · rename_i hok
        obtain ⟨a1, a2, a3⟩ := h i (ih i).1 hcd.2 (by rw [← hok])
        by_cases hp : p < (ih i).1
        · exact (a3 p h1 hp c hc).1
        · exact walkK_low h ks (ih i).1 e a2 hw p (by omega) h2 c hc
      · simp at hw
    · simp at hw
theorem walkM_end {l : List Nd} : ∀ (d i e : Nat), i < l.length → walkM l d i = (e, true) → ∀ j, i ≤ j → j < e → ∀ c ∈ (nodeAt l j).kids, (j : Int) < c ∧ c < e
  | 0, i, e, hi, hw => by simp [walkM] at hw
  | d + 1, i, e, hi, hw => by
    intro j h1 h2 c hc
    obtain ⟨o1, o2, o3⟩ := walkM_ok (d + 1) i e hi hw
    refine ⟨(o3 j h1 h2 c hc).1, ?_⟩
    unfold walkM at hw
    have H : ∀ i e, i < l.length → walkM l d i = (e, true) → i < e ∧ e ≤ l.length ∧ ∀ j, i ≤ j → j < e → ∀ c ∈ (nodeAt l j).kids, (j : Int) < c ∧ c < e := by
      intro i' e' hi' hw'
      have := walkM_ok d i' e' hi' hw'
      exact ⟨this.1, this.2.1, walkM_end d i' e' hi' hw'⟩
    by_cases hj : j = i
    · subst hj
      have K : ∀ (ks : List Int) (s : Nat), s ≤ l.length → walkK l (walkM l d) ks s = (e, true) → ∀ k ∈ ks, k < e := by
        intro ks
        induction ks with
        | nil => intro s _ _; simp
        | cons k ks IH =>
          intro s hs hw
          have hinc := walkK_inc (l := l) (ih := walkM l d) (fun i e h1 h2 => by have := H i e h1 h2; exact ⟨this.1, this.2.1⟩) (k :: ks) s e hs hw
          unfold walkK at hw
          split at hw
          · rename_i hcd
            split at hw
            · rename_i hok
              have a := H s (walkM l d s).1 hcd.2 (by rw [← hok])
              have hge : (walkM l d s).1 ≤ e := by
                cases ks with
                | nil => simp [walkK] at hw; omega
                | cons k' ks' =>
                  have h1 := IH _ a.2.1 hw k' (by simp)
                  have h2 := (walkK_inc (l := l) (ih := walkM l d) (fun i e h1 h2 => by have := H i e h1 h2; exact ⟨this.1, this.2.1⟩) (k' :: ks') _ e a.2.1 hw).2 k' (by simp)
                  omega
              intro k' hk'
              rw [List.mem_cons] at hk'
              rcases hk' with rfl | hk'
              · omega
              · exact IH _ a.2.1 hw k' hk'
            · simp at hw
          · simp at hw
      exact K _ (j + 1) (by omega) hw c hc
    · exact (walkK_span H (l.getD i nd0').kids (i + 1) e (by omega) hw j (by omega) h2 c hc).1
/-- Below a node that is not the first one the item stays. -/
theorem span_of {l : List Nd} (h : prRightM l = true) {p : Nat} (h1 : 1 ≤ p) (hp : p < l.length) {c : Int} (hc : c ∈ (nodeAt l p).kids) : itemM' l c = itemM' l p := by
  have h' := h
  unfold prRightM at h'
  simp only [Bool.and_eq_true, decide_eq_true_eq] at h'
  obtain ⟨k1, k2, k3, k4, k5⟩ := h'
  have ht : treeM l 20 0 = (l.length, true) := by rw [← k4, ← k5]
  obtain ⟨hw, hn⟩ := (tree_iff 20 0 l.length k1).1 ht
  unfold walkM at hw
  have H : ∀ i e, i < l.length → walkM l 19 i = (e, true) → i < e ∧ e ≤ l.length ∧ ∀ j, i ≤ j → j < e → ∀ c ∈ (nodeAt l j).kids, (j : Int) < c ∧ c < e := by
    intro i' e' hi' hw'
    have := walkM_ok 19 i' e' hi' hw'
    exact ⟨this.1, this.2.1, walkM_end 19 i' e' hi' hw'⟩
  obtain ⟨_, hs⟩ := walkK_span H (l.getD 0 nd0').kids 1 l.length (by omega) hw p h1 hp c hc
  unfold itemM' itemL
  exact (foldl_congr_item _ _ hs).symm
/-- The item at which a node stands. -/
structure Itm (l : List Nd) (i : Nat) (m : Int) : Prop where
  le : m ≤ i
  nn : 0 ≤ m
  mem : m = 0 ∨ m ∈ (nodeAt l 0).kids
  max : ∀ k ∈ (nodeAt l 0).kids, k ≤ (i : Int) → k ≤ m
theorem itm {l : List Nd} (h : Tre l) (i : Nat) : Itm l i (itemM' l i) := by
  have hk := h.kpos
  obtain ⟨a1, a2, a3⟩ := foldl_item (i := (i : Int)) (nodeAt l 0).kids 0 h.inc (fun k hk' => by have := hk k hk'; omega)
  have e : itemM' l i = (nodeAt l 0).kids.foldl (fun out k => if k ≤ (i : Int) then k else out) 0 := rfl
  rw [← e] at a1 a2 a3
  refine ⟨?_, a2, ?_, a3⟩
  · rcases a1 with e | e <;> omega
  · rcases a1 with e | e
    · exact .inl e
    · exact .inr e.1
theorem itm_self {l : List Nd} (h : Tre l) {i : Nat} (hi : (i : Int) ∈ (nodeAt l 0).kids) : itemM' l i = i := by
  have a := itm h i
  have := a.max _ hi (Int.le_refl _)
  have := a.le
  omega
theorem itm_mem {l : List Nd} (h : Tre l) {i : Nat} (h0 : 0 < i) (hi : itemM' l i = i) : (i : Int) ∈ (nodeAt l 0).kids := by
  rcases (itm h i).mem with e | e
  · omega
  · rwa [hi] at e
theorem kind_pos {l : List Nd} (h : Tre l) {i : Nat} (h0 : 0 < i) (hi : i < l.length) : (nodeAt l i).kind ≠ 0 := by
  obtain ⟨p, hp, hm⟩ := h.par i h0 hi
  exact (kid_kind h (by omega) hm).2
/-- Channels and processes are items; a variable is one, or it stands in a process. -/
theorem item_of {l : List Nd} (h : prRightM l = true) {i : Nat} (hi : i < l.length) (hk : (nodeAt l i).kind = 1 ∨ (nodeAt l i).kind = 2 ∨ (nodeAt l i).kind = 3 ∨ (nodeAt l i).kind = 4 ∨ (nodeAt l i).kind = 5) :
    0 < i ∧ ((i : Int) ∈ (nodeAt l 0).kids ∨ ((nodeAt l i).kind = 2 ∧ ∃ p : Nat, p < i ∧ (p : Int) ∈ (nodeAt l 0).kids ∧ (nodeAt l p).kind = 3 ∧ itemM' l i = p)) := by
  have t := tre_of h
  have h0 : 0 < i := by
    rcases Nat.eq_zero_or_pos i with rfl | h
    · have := t.kind0; omega
    · exact h
  refine ⟨h0, ?_⟩
  obtain ⟨p, hp, hm⟩ := t.par i h0 hi
  have hkd := kid_kind t (by omega) hm
  have ek : knd l i = (nodeAt l i).kind := rfl
  have hb : inB (knd l i) 1 5 = true := by
    rw [ek]; unfold inB; simp; omega
  rcases hkd.1 hb with e | ⟨e1, e2⟩
  · left
    rcases Nat.eq_zero_or_pos p with rfl | hpp
    · exact hm
    · exact absurd e (kind_pos t hpp (by omega))
  · right
    refine ⟨by rw [← ek]; exact e2, p, hp, ?_, e1, ?_⟩
    · have hpp : 0 < p := by
        rcases Nat.eq_zero_or_pos p with rfl | h
        · have := t.kind0; omega
        · exact h
      obtain ⟨p', hp', hm'⟩ := t.par p hpp (by omega)
      have hkd' := kid_kind t (by omega) hm'
      have ek' : knd l p = (nodeAt l p).kind := rfl
      have hb' : inB (knd l p) 1 5 = true := by
        rw [ek', e1]; rfl
      rcases hkd'.1 hb' with e | ⟨e3, e4⟩
      · rcases Nat.eq_zero_or_pos p' with rfl | hpp'
        · exact hm'
        · exact absurd e (kind_pos t hpp' (by omega))
      · omega
    · have hpp : 0 < p := by
        rcases Nat.eq_zero_or_pos p with rfl | h
        · have := t.kind0; omega
        · exact h
      rw [span_of h hpp (by omega) hm]
      obtain ⟨p', hp', hm'⟩ := t.par p hpp (by omega)
      have hkd' := kid_kind t (by omega) hm'
      have ek' : knd l p = (nodeAt l p).kind := rfl
      have hb' : inB (knd l p) 1 5 = true := by
        rw [ek', e1]; rfl
      rcases hkd'.1 hb' with e | ⟨e3, e4⟩
      · rcases Nat.eq_zero_or_pos p' with rfl | hpp'
        · exact itm_self t hm'
        · exact absurd e (kind_pos t hpp' (by omega))
      · omega
/-- The names of the nodes ahead of one that are chosen. -/
def selU (l : List Nd) (q : Nat → Bool) : Nat → List Str
  | 0 => []
  | i + 1 => if q i then selU l q i ++ [w0 (nodeAt l i)] else selU l q i
theorem selU_mem {l : List Nd} {q : Nat → Bool} {s : Str} : ∀ {i : Nat}, inL (selU l q i) s = true ↔ ∃ j, j < i ∧ q j = true ∧ w0 (nodeAt l j) = s
  | 0 => by simp [selU, inL]
  | i + 1 => by
    unfold selU
    have ih := selU_mem (l := l) (q := q) (s := s) (i := i)
    by_cases hq : q i = true
    · rw [if_pos hq]
      have e : inL (selU l q i ++ [w0 (nodeAt l i)]) s = true ↔ inL (selU l q i) s = true ∨ w0 (nodeAt l i) = s := by
        unfold inL; simp [List.any_append]
      rw [e, ih]
      constructor
      · rintro (⟨j, h1, h2, h3⟩ | h)
        · exact ⟨j, by omega, h2, h3⟩
        · exact ⟨i, by omega, hq, h⟩
      · rintro ⟨j, h1, h2, h3⟩
        by_cases hj : j = i
        · subst hj; exact .inr h3
        · exact .inl ⟨j, by omega, h2, h3⟩
    · rw [if_neg hq, ih]
      constructor
      · rintro ⟨j, h1, h2, h3⟩
        exact ⟨j, by omega, h2, h3⟩
      · rintro ⟨j, h1, h2, h3⟩
        have hj : j ≠ i := by rintro rfl; exact hq h2
        exact ⟨j, by omega, h2, h3⟩
theorem selU_congr {l : List Nd} {q q' : Nat → Bool} : ∀ {i : Nat}, (∀ j, j < i → q j = q' j) → selU l q i = selU l q' i
  | 0, _ => rfl
  | i + 1, h => by
    unfold selU
    rw [selU_congr (i := i) (fun j hj => h j (by omega)), h i (by omega)]
theorem selU_none {l : List Nd} {q : Nat → Bool} : ∀ {i : Nat}, (∀ j, j < i → q j = false) → selU l q i = []
  | 0, _ => rfl
  | i + 1, h => by
    unfold selU
    rw [selU_none (i := i) (fun j hj => h j (by omega)), h i (by omega)]; rfl
def qC (l : List Nd) (j : Nat) : Bool := decide ((nodeAt l j).kind = 1)
def qP (l : List Nd) (j : Nat) : Bool := decide ((nodeAt l j).kind = 3)
def qV (l : List Nd) (j : Nat) : Bool := decide ((nodeAt l j).kind = 2) && decide (itemM' l j = j)
def qO (l : List Nd) (it : Int) (j : Nat) : Bool := decide ((nodeAt l j).kind = 2) && (!decide (itemM' l j = j) && decide (itemM' l j = it))
/-- What is in sight at a node. -/
def sgA (l : List Nd) (i : Nat) : Sg :=
  ⟨selU l (qC l) i, selU l (qV l) i, selU l (qP l) i, selU l (qO l (itemM' l i)) i, decide (itemM' l i < i) && decide ((nodeAt l (itemM' l i).toNat).kind = 3)⟩
theorem var_ins {l : List Nd} (h : prRightM l = true) {i : Nat} (hi : i < l.length) (hk : (nodeAt l i).kind = 2) : (sgA l i).ins = !decide (itemM' l i = i) := by
  have t := tre_of h
  have a := itm t i
  unfold sgA
  simp only
  rcases (item_of h hi (.inr (.inl hk))).2 with e | ⟨_, p, hp, e1, e2, e3⟩
  · rw [itm_self t e]; simp
  · rw [e3]
    simp only [Int.toNat_natCast, e2, decide_true, Bool.and_true]
    rw [decide_eq_true (by omega), decide_eq_false (by omega)]; rfl
theorem sgA_step {l : List Nd} (h : prRightM l = true) {i : Nat} (hi : i < l.length) :
    (if (((i + 1 : Nat) : Int) ∈ (nodeAt l 0).kids) then resetM (declM (sgA l i) (nodeAt l i)) else declM (sgA l i) (nodeAt l i)) = sgA l (i + 1) := by
  have t := tre_of h
  have a := itm t i
  have a1 := itm t (i + 1)
  have hC : (declM (sgA l i) (nodeAt l i)).C = selU l (qC l) (i + 1) := by
    unfold declM selU qC
    by_cases e1 : (nodeAt l i).kind = 1
    · simp [e1, sgA]; rfl
    · rw [if_neg e1]
      simp only [e1, decide_false, Bool.false_eq_true, if_false]
      split
      · rfl
      · split
        · split <;> rfl
        · rfl
  have hP : (declM (sgA l i) (nodeAt l i)).P = selU l (qP l) (i + 1) := by
    unfold declM selU qP
    by_cases e1 : (nodeAt l i).kind = 1
    · simp [e1, sgA]; rfl
    · rw [if_neg e1]
      by_cases e3 : (nodeAt l i).kind = 3
      · simp [e3, sgA]; rfl
      · rw [if_neg e3]
        simp only [e3, decide_false, Bool.false_eq_true, if_false]
        split
        · split <;> rfl
        · rfl
  have hV : (declM (sgA l i) (nodeAt l i)).V = selU l (qV l) (i + 1) := by
    unfold declM
    have eu : selU l (qV l) (i + 1) = if qV l i then selU l (qV l) i ++ [w0 (nodeAt l i)] else selU l (qV l) i := rfl
    rw [eu]
    by_cases e2 : (nodeAt l i).kind = 2
    · have hv := var_ins h hi e2
      rw [if_neg (by omega), if_neg (by omega), if_pos e2, hv]
      unfold qV
      rw [e2]
      by_cases c : itemM' l i = i
      · simp [c, sgA]; rfl
      · simp [c, sgA]; rfl
    · have hq : qV l i = false := by unfold qV; simp [e2]
      rw [hq]
      simp only [Bool.false_eq_true, if_false]
      split
      · rfl
      · split
        · rfl
        · rfl
  by_cases hm : ((i + 1 : Nat) : Int) ∈ (nodeAt l 0).kids
  · rw [if_pos hm]
    have hs := itm_self t hm
    have hO : selU l (qO l (itemM' l ((i + 1 : Nat) : Int))) (i + 1) = [] := by
      rw [hs]
      apply selU_none
      intro j hj
      have := (itm t j).le
      unfold qO
      rw [show decide (itemM' l j = ((i + 1 : Nat) : Int)) = false from by simp; omega]
      simp
    have e : sgA l (i + 1) = ⟨selU l (qC l) (i + 1), selU l (qV l) (i + 1), selU l (qP l) (i + 1), [], false⟩ := by
      unfold sgA
      rw [hO, hs]
      simp
    rw [e, ← hC, ← hP, ← hV]
    rfl
  · rw [if_neg hm]
    have hit : itemM' l ((i + 1 : Nat) : Int) = itemM' l i := by
      have m1 := a1.mem
      have m2 := a1.max
      have m3 := a1.le
      have m4 := a.mem
      have n4 := a.le
      have n1 := a1.nn
      have n2 := a.nn
      have u1 : itemM' l ((i + 1 : Nat) : Int) ≤ itemM' l i := by
        rcases m1 with e | e
        · rw [e]; exact a.nn
        · refine a.max _ e ?_
          have : itemM' l ((i + 1 : Nat) : Int) ≠ ((i + 1 : Nat) : Int) := by
            intro e'; rw [e'] at e; exact hm e
          omega
      have u2 : itemM' l i ≤ itemM' l ((i + 1 : Nat) : Int) := by
        rcases m4 with e | e
        · rw [e]; exact a1.nn
        · exact a1.max _ e (by omega)
      omega
    have hO : (declM (sgA l i) (nodeAt l i)).O = selU l (qO l (itemM' l ((i + 1 : Nat) : Int))) (i + 1) := by
      rw [hit]
      have eu : selU l (qO l (itemM' l i)) (i + 1) = if qO l (itemM' l i) i then selU l (qO l (itemM' l i)) i ++ [w0 (nodeAt l i)] else selU l (qO l (itemM' l i)) i := rfl
      rw [eu]
      unfold declM
      by_cases e2 : (nodeAt l i).kind = 2
      · have hv := var_ins h hi e2
        rw [if_neg (by omega), if_neg (by omega), if_pos e2, hv]
        unfold qO
        rw [e2]
        by_cases c : itemM' l i = i
        · simp [c, sgA]; rfl
        · simp [c, sgA]; rfl
      · have hq : qO l (itemM' l i) i = false := by unfold qO; simp [e2]
        rw [hq]
        simp only [Bool.false_eq_true, if_false]
        split
        · rfl
        · split
          · rfl
          · rfl
    have hI : (declM (sgA l i) (nodeAt l i)).ins = (sgA l (i + 1)).ins := by
      have e1' : (sgA l (i + 1)).ins = (decide (itemM' l i < ((i + 1 : Nat) : Int)) && decide ((nodeAt l (itemM' l i).toNat).kind = 3)) := by
        unfold sgA; simp only; rw [hit]
      have e2' : (sgA l i).ins = (decide (itemM' l i < i) && decide ((nodeAt l (itemM' l i).toNat).kind = 3)) := rfl
      rw [e1']
      have hle := a.le
      rw [decide_eq_true (show itemM' l i < ((i + 1 : Nat) : Int) by omega), Bool.true_and]
      unfold declM
      by_cases k3 : (nodeAt l i).kind = 3
      · rw [if_neg (by omega), if_pos k3]
        simp only
        have hself : itemM' l i = i := by
          rcases (item_of h hi (.inr (.inr (.inl k3)))).2 with e | ⟨e, _⟩
          · exact itm_self t e
          · omega
        rw [hself]; simp [k3]
      · have hins : (sgA l i).ins = decide ((nodeAt l (itemM' l i).toNat).kind = 3) := by
          rw [e2']
          by_cases c : itemM' l i < i
          · rw [decide_eq_true c, Bool.true_and]
          · have : itemM' l i = i := by omega
            rw [this]; simp [k3]
        rw [if_neg k3]
        split
        · exact hins
        · split
          · split <;> exact hins
          · exact hins
    have e : sgA l (i + 1) = ⟨selU l (qC l) (i + 1), selU l (qV l) (i + 1), selU l (qP l) (i + 1), selU l (qO l (itemM' l ((i + 1 : Nat) : Int))) (i + 1), (sgA l (i + 1)).ins⟩ := rfl
    rw [e, ← hC, ← hP, ← hV, ← hO, ← hI]
/-- The walk stops at the first node at which what is in sight there tells it to. -/
theorem runL_first {l : List Nd} (h : prRightM l = true) (stop : Nat → Sg → Bool) :
    runL stop l 0 (nodeAt l 0).kids sg0 = (firstT (fun i => stop i (sgA l i)) l.length 0).map fun i => (i, sgA l i) := by
  have t := tre_of h
  have key : ∀ (m i : Nat) (pre ks : List Int) (g : Sg), m + i = l.length → (nodeAt l 0).kids = pre ++ ks → (∀ k ∈ pre, k < i) → (∀ k ∈ ks, (i : Int) ≤ k) →
      (if ((i : Int) ∈ (nodeAt l 0).kids) then resetM g else g) = sgA l i → runL stop (l.drop i) i ks g = (firstT (fun i => stop i (sgA l i)) m i).map fun i => (i, sgA l i) := by
    intro m
    induction m with
    | zero =>
      intro i pre ks g hm _ _ _ _
      rw [List.drop_eq_nil_of_le (by omega)]
      rfl
    | succ m IH =>
      intro i pre ks g hm hk hpre hks hg
      have hin : i < l.length := by omega
      have hd : l.drop i = nodeAt l i :: l.drop (i + 1) := by
        rw [List.drop_eq_getElem_cons hin]; congr 1; simp [nodeAt, hin]
      have hinc := t.inc
      rw [hk] at hinc
      have hhit : hitM ks i = decide ((i : Int) ∈ (nodeAt l 0).kids) := by
        rw [hk]
        cases ks with
        | nil =>
          unfold hitM
          symm
          simp only [List.append_nil, decide_eq_false_iff_not]
          intro hc; have := hpre _ hc; omega
        | cons k ks' =>
          unfold hitM
          by_cases c : k = i
          · subst c; simp
          · simp only [c, decide_false]
            symm
            simp only [List.mem_append, decide_eq_false_iff_not, List.mem_cons]
            rintro (hc | hc | hc)
            · have := hpre _ hc; omega
            · exact c hc.symm
            · have h1 := hks k (by simp)
              have h2 := (List.pairwise_append.1 hinc).2.1
              have := (List.pairwise_cons.1 h2).1 _ hc
              omega
      have hg' : (if hitM ks i then resetM g else g) = sgA l i := by
        rw [hhit, ← hg]
        by_cases c : (i : Int) ∈ (nodeAt l 0).kids
        · simp [c]
        · simp [c]
      rw [hd]
      unfold runL firstT
      rw [hg']
      cases hst : stop i (sgA l i)
      · simp only [Bool.false_eq_true, if_false]
        have hstep := sgA_step h hin
        have hlast : ∀ k ∈ (if hitM ks i then ks.tail else ks), ((i + 1 : Nat) : Int) ≤ k := by
          intro k hk'
          have h2 := (List.pairwise_append.1 hinc).2.1
          cases ks with
          | nil => simp at hk'
          | cons k0 ks' =>
            unfold hitM at hk'
            by_cases c : k0 = i
            · subst c
              simp only [decide_true, if_true, List.tail_cons] at hk'
              have := (List.pairwise_cons.1 h2).1 _ hk'
              omega
            · simp only [c, decide_false, Bool.false_eq_true, if_false] at hk'
              have h0 := hks k0 (by simp)
              rw [List.mem_cons] at hk'
              rcases hk' with rfl | hk'
              · omega
              · have := (List.pairwise_cons.1 h2).1 _ hk'
                omega
        refine IH (i + 1) (if hitM ks i then pre ++ [(i : Int)] else pre) _ _ (by omega) ?_ ?_ hlast ?_
        · rw [hk]
          cases ks with
          | nil => rfl
          | cons k0 ks' =>
            unfold hitM
            by_cases c : k0 = i
            · subst c; simp
            · simp [c]
        · intro k hk'
          split at hk'
          · rw [List.mem_append, List.mem_singleton] at hk'
            rcases hk' with hk' | rfl
            · have := hpre k hk'; omega
            · omega
          · have := hpre k hk'; omega
        · exact hstep
      · simp
  have h0 : (if ((0 : Nat) : Int) ∈ (nodeAt l 0).kids then resetM sg0 else sg0) = sgA l 0 := by
    have hn : ¬ ((0 : Nat) : Int) ∈ (nodeAt l 0).kids := fun e => by have := t.kpos _ e; omega
    rw [if_neg hn]
    have : itemM' l ((0 : Nat) : Int) = 0 := by
      have := itm t 0
      have := this.le; have := (itm t 0).nn; omega
    unfold sgA
    rw [this]
    rfl
  have := key l.length 0 [] (nodeAt l 0).kids sg0 (by omega) rfl (by simp) (fun k hk => by have := t.kpos k hk; omega) h0
  simpa using this
theorem namesU_mem {l : List Nd} {it kind : Int} {s : Str} : ∀ {i : Nat}, inL (namesU l it kind i) s = true ↔ ∃ j, j < i ∧ ((nodeAt l j).kind = kind ∧ (itemM' l j = j ∨ itemM' l j = it)) ∧ w0 (nodeAt l j) = s
  | 0 => by simp [namesU, inL]
  | i + 1 => by
    unfold namesU
    have ih := namesU_mem (l := l) (it := it) (kind := kind) (s := s) (i := i)
    by_cases hq : (nodeAt l i).kind = kind ∧ (itemM' l i = i ∨ itemM' l i = it)
    · rw [if_pos hq]
      have e : inL (if inL (namesU l it kind i) (w0 (nodeAt l i)) = true then namesU l it kind i else namesU l it kind i ++ [w0 (nodeAt l i)]) s = true ↔ inL (namesU l it kind i) s = true ∨ w0 (nodeAt l i) = s := by
        by_cases c : inL (namesU l it kind i) (w0 (nodeAt l i)) = true
        · rw [if_pos c]
          constructor
          · exact .inl
          · rintro (h | rfl)
            · exact h
            · exact c
        · rw [if_neg c]
          unfold inL; simp [List.any_append]
      rw [e, ih]
      constructor
      · rintro (⟨j, h1, h2, h3⟩ | h)
        · exact ⟨j, by omega, h2, h3⟩
        · exact ⟨i, by omega, hq, h⟩
      · rintro ⟨j, h1, h2, h3⟩
        by_cases hj : j = i
        · subst hj; exact .inr h3
        · exact .inl ⟨j, by omega, h2, h3⟩
    · rw [if_neg hq, ih]
      constructor
      · rintro ⟨j, h1, h2, h3⟩
        exact ⟨j, by omega, h2, h3⟩
      · rintro ⟨j, h1, h2, h3⟩
        have hj : j ≠ i := by rintro rfl; exact hq h2
        exact ⟨j, by omega, h2, h3⟩
theorem see_C {l : List Nd} (h : prRightM l = true) {i : Nat} (hi : i < l.length) (s : Str) : inL (namesM l i 1) s = inL (sgA l i).C s := by
  rw [Bool.eq_iff_iff]
  unfold namesM sgA
  simp only
  rw [namesU_mem, selU_mem]
  constructor
  · rintro ⟨j, h1, h2, h3⟩
    exact ⟨j, h1, by unfold qC; simp [h2.1], h3⟩
  · rintro ⟨j, h1, h2, h3⟩
    unfold qC at h2
    rw [decide_eq_true_eq] at h2
    refine ⟨j, h1, ⟨h2, .inl ?_⟩, h3⟩
    rcases (item_of h (by omega) (.inl h2)).2 with e | ⟨e, _⟩
    · exact itm_self (tre_of h) e
    · omega
theorem see_P {l : List Nd} (h : prRightM l = true) {i : Nat} (hi : i < l.length) (s : Str) : inL (namesM l i 3) s = inL (sgA l i).P s := by
  rw [Bool.eq_iff_iff]
  unfold namesM sgA
  simp only
  rw [namesU_mem, selU_mem]
  constructor
  · rintro ⟨j, h1, h2, h3⟩
    exact ⟨j, h1, by unfold qP; simp [h2.1], h3⟩
  · rintro ⟨j, h1, h2, h3⟩
    unfold qP at h2
    rw [decide_eq_true_eq] at h2
    refine ⟨j, h1, ⟨h2, .inl ?_⟩, h3⟩
    rcases (item_of h (by omega) (.inr (.inr (.inl h2)))).2 with e | ⟨e, _⟩
    · exact itm_self (tre_of h) e
    · omega
theorem see_V {l : List Nd} (h : prRightM l = true) {i : Nat} (hi : i < l.length) (s : Str) : inL (namesM l i 2) s = (inL (sgA l i).V s || inL (sgA l i).O s) := by
  rw [Bool.eq_iff_iff, Bool.or_eq_true]
  unfold namesM sgA
  simp only
  rw [namesU_mem, selU_mem, selU_mem]
  constructor
  · rintro ⟨j, h1, ⟨h2, h4⟩, h3⟩
    by_cases c : itemM' l j = j
    · exact .inl ⟨j, h1, by unfold qV; simp [h2, c], h3⟩
    · exact .inr ⟨j, h1, by unfold qO; rw [decide_eq_true h2, decide_eq_false c, decide_eq_true (h4.resolve_left c)]; rfl, h3⟩
  · rintro (⟨j, h1, h2, h3⟩ | ⟨j, h1, h2, h3⟩)
    · unfold qV at h2
      simp only [Bool.and_eq_true, decide_eq_true_eq] at h2
      exact ⟨j, h1, ⟨h2.1, .inl h2.2⟩, h3⟩
    · unfold qO at h2
      simp only [Bool.and_eq_true, decide_eq_true_eq] at h2
      exact ⟨j, h1, ⟨h2.1, .inr h2.2.2⟩, h3⟩
theorem bad_eq {l : List Nd} (h : prRightM l = true) {i : Nat} (hi : i < l.length) : stopC l i (sgA l i) = bad11 l i := by
  unfold stopC bad11 wrongM
  simp only [see_C h hi, see_V h hi, see_P h hi, Bool.or_assoc]
theorem firstT_congr {g g' : Nat → Bool} : ∀ (m i : Nat), (∀ j, i ≤ j → j < i + m → g j = g' j) → firstT g m i = firstT g' m i
  | 0, _, _ => rfl
  | m + 1, i, h => by
    unfold firstT
    rw [h i (by omega) (by omega), firstT_congr m (i + 1) (fun j h1 h2 => h j (by omega) (by omega))]
/-- What is wrong with the names first: both answers are the same. -/
theorem scope_eq {l : List Nd} (h : prRightM l = true) : scopeM l = check11 l := by
  unfold scopeM check11
  rw [if_pos h, runL_first h, Option.map_map]
  rw [firstT_congr (g := fun i => stopC l i (sgA l i)) (g' := bad11 l) l.length 0 (fun j h1 h2 => bad_eq h (by omega))]
  congr 1
  cases firstT (bad11 l) l.length 0 <;> rfl
end Go.Proofs.YtpkfgoemhcgpdaaGreatDoor

namespace Go.Proofs.YtpkfgoemhcgpdaaGreatDoor
open Go.HL
set_option maxRecDepth 10000
set_option linter.unusedSimpArgs false
set_option linter.unusedVariables false

def trimI (n w : Int) : Int :=
  let m : Int := 2 ^ (max (min w 16) 1).toNat
  if n % m ≥ m / 2 then n % m - m else n % m
theorem and_mask {x : Int} {w : Nat} (hw : w ≤ 62) : (BitVec.ofInt 64 x &&& BitVec.ofInt 64 (2 ^ w - 1)).toNat = (x % 2 ^ w).toNat := by
  have hp : (2 : Int) ^ w ≤ 2 ^ 62 := by
    have : (2 : Nat) ^ w ≤ 2 ^ 62 := Nat.pow_le_pow_right (by omega) hw
    exact_mod_cast this
  have h1 : (1 : Int) ≤ 2 ^ w := by
    have : (1 : Nat) ≤ 2 ^ w := Nat.one_le_two_pow
    exact_mod_cast this
  rw [BitVec.toNat_and, BitVec.toNat_ofInt, BitVec.toNat_ofInt]
  have e2 : ((2 ^ w - 1 : Int) % ((2 ^ 64 : Nat) : Int)).toNat = 2 ^ w - 1 := by
    rw [Int.emod_eq_of_lt (by omega) (by omega)]
    have : (2 : Int) ^ w = ((2 ^ w : Nat) : Int) := by push_cast; rfl
    omega
  rw [e2, Nat.and_two_pow_sub_one_eq_mod]
  have hd : ((2 ^ w : Nat) : Int) ∣ ((2 ^ 64 : Nat) : Int) := by
    have : (2 : Nat) ^ w ∣ 2 ^ 64 := Nat.pow_dvd_pow 2 (by omega)
    exact_mod_cast this
  have h2 : ((x % ((2 ^ 64 : Nat) : Int)).toNat : Int) = x % ((2 ^ 64 : Nat) : Int) := Int.toNat_of_nonneg (Int.emod_nonneg _ (by omega))
  have h3 : (((x % ((2 ^ 64 : Nat) : Int)).toNat % 2 ^ w : Nat) : Int) = x % ((2 ^ w : Nat) : Int) := by
    rw [Int.natCast_emod, h2, Int.emod_emod_of_dvd _ hd]
  have : (2 : Int) ^ w = ((2 ^ w : Nat) : Int) := by push_cast; rfl
  rw [this, ← h3, Int.toNat_natCast]
theorem tmod_fix {n m : Int} (hm : 0 < m) : (if n.tmod m < 0 then n.tmod m + m else n.tmod m) = n % m := by
  have h1 := Int.emod_nonneg n (by omega : m ≠ 0)
  have h2 := Int.emod_lt_of_pos n hm
  have hm' : ((m.natAbs : Nat) : Int) = m := by omega
  rw [Int.tmod_eq_emod]
  by_cases c : 0 ≤ n ∨ m ∣ n
  · rw [if_pos c, show ((0 : Nat) : Int) = 0 from rfl, Int.sub_zero, if_neg (by omega)]
  · rw [if_neg c, hm', if_pos (by omega)]; omega
section
variable {H : Heap}
theorem tyWithin_spec {n m : Int} : CallF Tryz.prog 67 [iv n, iv m] H (fun r H' => H = H' ∧ r = .bool (decide (1 ≤ n ∧ n ≤ m))) NoP := by
  refine callF_of Tryz.func67 rfl Tryz.ntmps67 Tryz.results67 (by decide) rfl ?_
  by_cases h1 : 1 ≤ n
  · by_cases h2 : n ≤ m
    · simp (disch := omega) only [go_sem, ↓cw_block, dsB_of]
      exact fin ⟨rfl, by simp [h1, h2]⟩
    · simp (disch := omega) only [go_sem, ↓cw_block, dsB_of]
      exact fin ⟨rfl, by simp [h1, h2]⟩
  · simp (disch := omega) only [go_sem, ↓cw_block, dsB_of]
    exact fin ⟨rfl, by simp [h1]⟩
theorem bWidth_spec {w : Int} (h1 : 1 ≤ w) (h8 : w ≤ 8) : CallF Tryz.prog 85 [iv w] H (fun r H' => H = H' ∧ r = iv w) NoP := by
  refine callF_of Tryz.func85 rfl Tryz.ntmps85 Tryz.results85 (by decide) rfl ?_
  simp (disch := omega) only [go_sem, ↓cw_block, dsB_of]
  exact fin ⟨rfl, by congr 1; omega⟩
theorem trim_k {n : Int} {k : Nat} (h1 : 1 ≤ k) (h8 : k ≤ 8) : trimI n k = if n % 2 ^ k ≥ 2 ^ (k - 1) then n % 2 ^ k - 2 ^ k else n % 2 ^ k := by
  unfold trimI
  have e : (max (min (k : Int) 16) 1).toNat = k := by omega
  have e2 : (2 : Int) ^ k / 2 = 2 ^ (k - 1) := by
    have hk : k = 1 ∨ k = 2 ∨ k = 3 ∨ k = 4 ∨ k = 5 ∨ k = 6 ∨ k = 7 ∨ k = 8 := by omega
    rcases hk with rfl | rfl | rfl | rfl | rfl | rfl | rfl | rfl <;> decide
  simp only [e, e2]
theorem pow_facts {k : Nat} (h1 : 1 ≤ k) (h8 : k ≤ 8) : IntKind.i64.wrap (1 * 2 ^ min k 64) = 2 ^ k ∧ IntKind.i64.wrap (1 * 2 ^ min ((k : Int) - 1).toNat 64) = 2 ^ (k - 1) ∧ IntKind.i64.wrap (2 ^ k - 1) = 2 ^ k - 1 ∧ (2 : Int) ^ k ≤ 256 ∧ (2 : Int) ^ k = 2 ^ (k - 1) * 2 ∧ (1 : Int) ≤ 2 ^ (k - 1) := by
  have hk : k = 1 ∨ k = 2 ∨ k = 3 ∨ k = 4 ∨ k = 5 ∨ k = 6 ∨ k = 7 ∨ k = 8 := by omega
  rcases hk with rfl | rfl | rfl | rfl | rfl | rfl | rfl | rfl <;> decide +kernel
theorem bTrim_spec {n w : Int} (h1 : 1 ≤ w) (h8 : w ≤ 8) : CallF Tryz.prog 68 [iv n, iv w] H (fun r H' => H = H' ∧ r = iv (trimI n w)) NoP := by
  refine callF_of Tryz.func68 rfl Tryz.ntmps68 Tryz.results68 (by decide) rfl ?_
  simp (disch := omega) only [go_sem, ↓cw_block, dsB_of]
  refine call_to (bWidth_spec h1 h8) ?_
  rintro _ _ ⟨rfl, rfl⟩
  obtain ⟨k, rfl⟩ : ∃ k : Nat, w = k := ⟨w.toNat, by omega⟩
  obtain ⟨e1, e2, e3, e4, e5, e6⟩ := pow_facts (k := k) (by omega) (by omega)
  have hm : (@BitVec.toNat 64 (@HAnd.hAnd (BitVec 64) (BitVec 64) (BitVec 64) (@instHAndOfAndOp (BitVec IntKind.i64.bits) (@BitVec.instAndOp IntKind.i64.bits)) (BitVec.ofInt 64 n) (BitVec.ofInt 64 (2 ^ k - 1)))) = (n % 2 ^ k).toNat := and_mask (x := n) (w := k) (by omega)
  rw [trim_k (by omega) (by omega)]
  have r1 := Int.emod_nonneg n (show (2 : Int) ^ k ≠ 0 by omega)
  have r2 := Int.emod_lt_of_pos n (show (0 : Int) < 2 ^ k by omega)
  have e7 : IntKind.i64.wrap (((n % 2 ^ k).toNat : Nat) : Int) = n % 2 ^ k := by
    rw [Int.toNat_of_nonneg r1]
    exact wrap64 (by omega)
  have ek : ((k : Int)).toNat = k := Int.toNat_natCast k
  generalize n % 2 ^ k = y at *
  by_cases c : 2 ^ (k - 1) ≤ y
  · rw [if_pos c]
    simp (disch := omega) only [go_sem, ↓cw_block, dsB_of, ek, e1, e2, e3, hm, e7]
    have e8 : IntKind.i64.wrap (y - 2 ^ k) = y - 2 ^ k := wrap64 (by omega)
    first | exact fin ⟨rfl, rfl⟩ | (rw [e8]; exact fin ⟨rfl, rfl⟩) | trace_state
  · rw [if_neg c]
    simp (disch := omega) only [go_sem, ↓cw_block, dsB_of, ek, e1, e2, e3, hm, e7]
    exact fin ⟨rfl, rfl⟩
theorem tmod_rng {n m : Int} (hm : 0 < m) : -m ≤ n.tmod m ∧ n.tmod m < m := by
  have h1 := Int.emod_nonneg n (by omega : m ≠ 0)
  have h2 := Int.emod_lt_of_pos n hm
  have h3 := tmod_fix (n := n) hm
  generalize n % m = y at *
  generalize n.tmod m = z at *
  split at h3 <;> omega
theorem pow_le8 {i : Nat} (h : i ≤ 8) : (1 : Int) ≤ 2 ^ i ∧ (2 : Int) ^ i ≤ 256 := by
  have hk : i = 0 ∨ i = 1 ∨ i = 2 ∨ i = 3 ∨ i = 4 ∨ i = 5 ∨ i = 6 ∨ i = 7 ∨ i = 8 := by omega
  rcases hk with rfl | rfl | rfl | rfl | rfl | rfl | rfl | rfl | rfl <;> decide
end
end Go.Proofs.YtpkfgoemhcgpdaaGreatDoor

namespace Go.Proofs.YtpkfgoemhcgpdaaGreatDoor
open Go.HL
set_option maxRecDepth 10000
set_option linter.unusedSimpArgs false
set_option linter.unusedVariables false

theorem walk20 {l : List Nd} (h : prRightM l = true) : walkM l 20 0 = (l.length, true) ∧ 0 < l.length := by
  unfold prRightM at h
  simp only [Bool.and_eq_true, decide_eq_true_eq] at h
  obtain ⟨h1, h2, h3, h4, h5⟩ := h
  have ht : treeM l 20 0 = (l.length, true) := by rw [← h4, ← h5]
  exact ⟨((tree_iff 20 0 l.length h1).1 ht).1, h1⟩
theorem kid_rng {l : List Nd} (h : prRightM l = true) {p : Nat} (hp : p < l.length) {k : Int} (hk : k ∈ (nodeAt l p).kids) : (p : Int) < k ∧ k < l.length := by
  obtain ⟨hw, h0⟩ := walk20 h
  exact (walkM_ok 20 0 l.length h0 hw).2.2 p (by omega) hp k hk
/-- A node stands below one node only. -/
theorem walkK_uni {l : List Nd} {ih : Nat → Nat × Bool} (h : ∀ i e, i < l.length → ih i = (e, true) → i < e ∧ e ≤ l.length ∧ (∀ j, i ≤ j → j < e → ∀ c ∈ (nodeAt l j).kids, (j : Int) < c ∧ c < e) ∧
      ∀ p q, i ≤ p → p < e → i ≤ q → q < e → ∀ c, c ∈ (nodeAt l p).kids → c ∈ (nodeAt l q).kids → p = q) :
    ∀ (ks : List Int) (i e : Nat), i ≤ l.length → walkK l ih ks i = (e, true) →
      (∀ p, i ≤ p → p < e → ∀ c ∈ (nodeAt l p).kids, (p : Int) < c ∧ c < e ∧ c ∉ ks) ∧ ∀ p q, i ≤ p → p < e → i ≤ q → q < e → ∀ c, c ∈ (nodeAt l p).kids → c ∈ (nodeAt l q).kids → p = q
  | [], i, e, hi, hw => by
    simp [walkK] at hw
    exact ⟨fun j h1 h2 => by omega, fun p q h1 h2 => by omega⟩
  | k :: ks, i, e, hi, hw => by
    have hinc := walkK_inc (l := l) (ih := ih) (fun i e h1 h2 => by have := h i e h1 h2; exact ⟨this.1, this.2.1⟩) (k :: ks) i e hi hw
    unfold walkK at hw
    split at hw
    · rename_i hcd
      split at hw
      · rename_i hok
        obtain ⟨a1, a2, a3, a4⟩ := h i (ih i).1 hcd.2 (by rw [← hok])
        obtain ⟨b1, b2⟩ := walkK_uni h ks (ih i).1 e a2 hw
        have hinc2 := walkK_inc (l := l) (ih := ih) (fun i e h1 h2 => by have := h i e h1 h2; exact ⟨this.1, this.2.1⟩) ks (ih i).1 e a2 hw
        have hge := (walkK_ok (l := l) (ih := ih) (Q := fun _ => True) (fun i e h1 h2 => by have := h i e h1 h2; exact ⟨this.1, this.2.1, fun _ _ _ => trivial⟩) ks (ih i).1 e a2 hw).1
        have hin : ∀ p, i ≤ p → p < (ih i).1 → ∀ c ∈ (nodeAt l p).kids, (p : Int) < c ∧ c < (ih i).1 := a3
        refine ⟨?_, ?_⟩
        · intro p h1 h2 c hc
          by_cases hp : p < (ih i).1
          · obtain ⟨c1, c2⟩ := a3 p h1 hp c hc
            refine ⟨c1, by omega, ?_⟩
            rw [List.mem_cons]
            rintro (rfl | hm)
            · omega
            · have := hinc2.2 c hm; omega
          · obtain ⟨c1, c2, c3⟩ := b1 p (by omega) h2 c hc
            refine ⟨c1, c2, ?_⟩
            rw [List.mem_cons]
            rintro (rfl | hm)
            · omega
            · exact c3 hm
        · intro p q h1 h2 h3 h4 c hc hc'
          by_cases hp : p < (ih i).1
          · by_cases hq : q < (ih i).1
            · exact a4 p q h1 hp h3 hq c hc hc'
            · have := a3 p h1 hp c hc
              have := b1 q (by omega) h4 c hc'
              omega
          · by_cases hq : q < (ih i).1
            · have := a3 q h3 hq c hc'
              have := b1 p (by omega) h2 c hc
              omega
            · exact b2 p q (by omega) h2 (by omega) h4 c hc hc'
      · simp at hw
    · simp at hw
theorem walkM_uni {l : List Nd} : ∀ (d i e : Nat), i < l.length → walkM l d i = (e, true) → ∀ p q, i ≤ p → p < e → i ≤ q → q < e → ∀ c, c ∈ (nodeAt l p).kids → c ∈ (nodeAt l q).kids → p = q
  | 0, i, e, hi, hw => by simp [walkM] at hw
  | d + 1, i, e, hi, hw => by
    intro p q h1 h2 h3 h4 c hc hc'
    unfold walkM at hw
    have H := walkK_uni (l := l) (ih := walkM l d) (fun i' e' hi' hw' => by
      have := walkM_ok d i' e' hi' hw'
      exact ⟨this.1, this.2.1, walkM_end d i' e' hi' hw', walkM_uni d i' e' hi' hw'⟩) (l.getD i nd0').kids (i + 1) e (by omega) hw
    by_cases hp : p = i
    · by_cases hq : q = i
      · omega
      · subst hp
        exact absurd hc (H.1 q (by omega) h4 c hc').2.2
    · by_cases hq : q = i
      · subst hq
        exact absurd hc' (H.1 p (by omega) h2 c hc).2.2
      · exact H.2 p q (by omega) h2 (by omega) h4 c hc hc'
theorem kid_uni {l : List Nd} (h : prRightM l = true) {p q : Nat} (hp : p < l.length) (hq : q < l.length) {c : Int} (hc : c ∈ (nodeAt l p).kids) (hc' : c ∈ (nodeAt l q).kids) : p = q := by
  obtain ⟨hw, h0⟩ := walk20 h
  exact walkM_uni 20 0 l.length h0 hw p q (by omega) hp (by omega) hq c hc hc'
/-- A node stands below another one, however deep. -/
inductive Bel (l : List Nd) : Nat → Nat → Prop
  | kid {a k : Nat} : (k : Int) ∈ (nodeAt l a).kids → Bel l a k
  | step {a c k : Nat} : (c : Int) ∈ (nodeAt l a).kids → Bel l c k → Bel l a k
theorem nodeAt_out {l : List Nd} {a : Nat} (h : ¬ a < l.length) : (nodeAt l a).kids = [] := by
  unfold nodeAt
  rw [List.getD_eq_getElem?_getD, List.getElem?_eq_none (by omega)]; rfl
theorem bel_lt {l : List Nd} (h : prRightM l = true) {a k : Nat} (hb : Bel l a k) : a < k ∧ k < l.length := by
  induction hb with
  | @kid a k hk =>
    by_cases ha : a < l.length
    · have := kid_rng h ha hk; omega
    · rw [nodeAt_out ha] at hk; simp at hk
  | @step a c k hc hb ih =>
    by_cases ha : a < l.length
    · have := kid_rng h ha hc; omega
    · rw [nodeAt_out ha] at hc; simp at hc
theorem bel_kid {l : List Nd} (h : prRightM l = true) {a p k : Nat} (hp : p < l.length) (hk : (k : Int) ∈ (nodeAt l p).kids) : Bel l a k ↔ a = p ∨ Bel l a p := by
  constructor
  · intro hb
    induction hb with
    | @kid a k' hk' =>
      by_cases ha : a < l.length
      · exact .inl (kid_uni h ha hp hk' hk)
      · rw [nodeAt_out ha] at hk'; simp at hk'
    | @step a c k' hc hb ih =>
      rcases ih hk with rfl | hb'
      · exact .inr (.kid hc)
      · exact .inr (.step hc hb')
  · rintro (rfl | hb)
    · exact .kid hk
    · induction hb with
      | @kid a p' hc => exact .step hc (.kid hk)
      | @step a c p' hc hb ih => exact .step hc (ih hp hk)
/-! ### The walk that counts -/
structure TS where
  c : Int
  p : Int
  v : Int
def n0 (n : Nd) : Int := n.nums.getD 0 0
def n1 (n : Nd) : Int := n.nums.getD 1 0
def oneT (s : TS) (n : Nd) (cp : Int) (am : Bool) : TS × Int :=
  if n.kind = 1 then (⟨s.c + 1, s.p, s.v⟩, if s.c + 1 ≤ 3 ∧ (1 ≤ n0 n ∧ n0 n ≤ 3) ∧ (1 ≤ n1 n ∧ n1 n ≤ 8) then 0 else 22)
  else if n.kind = 2 then (⟨s.c, s.p, s.v + cp⟩, if s.v + cp ≤ 8 ∧ (1 ≤ n0 n ∧ n0 n ≤ 8) ∧ trimI (n1 n) (n0 n) = n1 n then 0 else 22)
  else if n.kind = 3 then (⟨s.c, s.p + n0 n, s.v⟩, if s.p + n0 n ≤ 4 ∧ 1 ≤ n0 n ∧ n0 n ≤ 4 then 0 else 22)
  else if n.kind = 17 then (s, if 0 ≤ n0 n ∧ n0 n ≤ 127 then 0 else 22)
  else if n.kind = 13 then (s, if am then 21 else 0)
  else (s, 0)
def kidsT (ih : Nat → Int → Bool → TS → TS × Option (Int × Nat)) : List Int → Int → Bool → TS → TS × Option (Int × Nat)
  | [], _, _, s => (s, none)
  | k :: ks, cp, am, s => match (ih k.toNat cp am s).2 with
    | none => kidsT ih ks cp am (ih k.toNat cp am s).1
    | some x => ((ih k.toNat cp am s).1, some x)
def nodeT (l : List Nd) : Nat → Nat → Int → Bool → TS → TS × Option (Int × Nat)
  | 0, _, _, _, s => (s, none)
  | d + 1, i, cp, am, s =>
    if (oneT s (nodeAt l i) cp am).2 = 0 then kidsT (nodeT l d) (nodeAt l i).kids (if (nodeAt l i).kind = 3 then n0 (nodeAt l i) else cp) (if (nodeAt l i).kind = 13 then true else am) (oneT s (nodeAt l i) cp am).1
    else ((oneT s (nodeAt l i) cp am).1, some ((oneT s (nodeAt l i) cp am).2, i))
def seqT (l : List Nd) (cx : Nat → Int × Bool) : Nat → Nat → TS → TS × Option (Int × Nat)
  | 0, _, s => (s, none)
  | m + 1, i, s => if (oneT s (nodeAt l i) (cx i).1 (cx i).2).2 = 0 then seqT l cx m (i + 1) (oneT s (nodeAt l i) (cx i).1 (cx i).2).1
    else ((oneT s (nodeAt l i) (cx i).1 (cx i).2).1, some ((oneT s (nodeAt l i) (cx i).1 (cx i).2).2, i))
theorem seqT_add {l : List Nd} {cx : Nat → Int × Bool} : ∀ (m m' i : Nat) (s : TS), seqT l cx (m + m') i s = match (seqT l cx m i s).2 with
    | none => seqT l cx m' (i + m) (seqT l cx m i s).1
    | some x => ((seqT l cx m i s).1, some x)
  | 0, m', i, s => by simp [seqT]
  | m + 1, m', i, s => by
    have e : m + 1 + m' = (m + m') + 1 := by omega
    have eq : ∀ k, seqT l cx (k + 1) i s = if (oneT s (nodeAt l i) (cx i).1 (cx i).2).2 = 0 then seqT l cx k (i + 1) (oneT s (nodeAt l i) (cx i).1 (cx i).2).1
      else ((oneT s (nodeAt l i) (cx i).1 (cx i).2).1, some ((oneT s (nodeAt l i) (cx i).1 (cx i).2).2, i)) := fun _ => rfl
    rw [e, eq, eq]
    by_cases c : (oneT s (nodeAt l i) (cx i).1 (cx i).2).2 = 0
    · rw [if_pos c, if_pos c]
      rw [seqT_add m m' (i + 1), show i + 1 + m = i + (m + 1) by omega]
    · rw [if_neg c, if_neg c]
/-- What a node is told by those above it. -/
def CxOk (l : List Nd) (cx : Nat → Int × Bool) : Prop :=
  ∀ p, p < l.length → ∀ k ∈ (nodeAt l p).kids, cx k.toNat = (if (nodeAt l p).kind = 3 then n0 (nodeAt l p) else (cx p).1, if (nodeAt l p).kind = 13 then true else (cx p).2)
theorem kidsT_seq {l : List Nd} {cx : Nat → Int × Bool} {ih : Nat → Nat × Bool} {f : Nat → Int → Bool → TS → TS × Option (Int × Nat)}
    (h : ∀ i e s, i < l.length → ih i = (e, true) → i < e ∧ e ≤ l.length ∧ f i (cx i).1 (cx i).2 s = seqT l cx (e - i) i s) {cp : Int} {am : Bool} :
    ∀ (ks : List Int) (i e : Nat) (s : TS), i ≤ l.length → walkK l ih ks i = (e, true) → (∀ k ∈ ks, cx k.toNat = (cp, am)) → kidsT f ks cp am s = seqT l cx (e - i) i s ∧ i ≤ e
  | [], i, e, s, hi, hw, hc => by
    simp [walkK] at hw
    subst hw
    simp [kidsT, seqT]
  | k :: ks, i, e, s, hi, hw, hc => by
    unfold walkK at hw
    split at hw
    · rename_i hcd
      split at hw
      · rename_i hok
        obtain ⟨a1, a2, a3⟩ := h i (ih i).1 s hcd.2 (by rw [← hok])
        have hk0 := hc k (by simp)
        have hki : k.toNat = i := by rw [hcd.1]; simp
        rw [hki] at hk0
        rw [hk0] at a3
        have rest := fun s' => kidsT_seq h (cp := cp) (am := am) ks (ih i).1 e s' a2 hw (fun k' hk' => hc k' (by simp [hk']))
        have hge := (rest s).2
        refine ⟨?_, by omega⟩
        unfold kidsT
        rw [hki]
        simp only at a3
        rw [a3]
        have e1 : e - i = ((ih i).1 - i) + (e - (ih i).1) := by omega
        rw [e1, seqT_add, show i + ((ih i).1 - i) = (ih i).1 by omega]
        cases (seqT l cx ((ih i).1 - i) i s).2 with
        | none => simp only; rw [(rest _).1]
        | some x => rfl
      · simp at hw
    · simp at hw
theorem nodeT_seq {l : List Nd} {cx : Nat → Int × Bool} (hcx : CxOk l cx) : ∀ (d i e : Nat) (s : TS), i < l.length → walkM l d i = (e, true) → nodeT l d i (cx i).1 (cx i).2 s = seqT l cx (e - i) i s
  | 0, i, e, s, hi, hw => by simp [walkM] at hw
  | d + 1, i, e, s, hi, hw => by
    unfold walkM at hw
    have H := fun s' => kidsT_seq (l := l) (cx := cx) (ih := walkM l d) (f := nodeT l d) (fun i' e' s' hi' hw' => by
      have := walkM_ok d i' e' hi' hw'
      exact ⟨this.1, this.2.1, nodeT_seq hcx d i' e' s' hi' hw'⟩) (l.getD i nd0').kids (i + 1) e s' (by omega) hw (fun k hk => hcx i hi k hk)
    have hge := (H s).2
    unfold nodeT
    rw [show e - i = (e - (i + 1)) + 1 by omega]
    unfold seqT
    by_cases c : (oneT s (nodeAt l i) (cx i).1 (cx i).2).2 = 0
    · rw [if_pos c, if_pos c]
      exact (H _).1
    · rw [if_neg c, if_neg c]
/-! ### Node by node -/
def cpR (l : List Nd) (j : Nat) : Int := if (nodeAt l (itemM' l j).toNat).kind = 3 then n0 (nodeAt l (itemM' l j).toNat) else 1
def sumL (l : List Nd) (kind : Int) : Nat → Nat → Int → Int
  | 0, _, n => n
  | m + 1, i, n => if n < 100 then sumL l kind m (i + 1) (if (nodeAt l i).kind = kind then (if kind = 1 then n + 1 else n + min (cpR l i) 100) else n) else n
def sumR (l : List Nd) (i : Nat) (kind : Int) : Int := sumL l kind (i + 1) 0 0
def amR (l : List Nd) (i : Nat) : Prop := ∃ a, a < i ∧ (nodeAt l a).kind = 13 ∧ Bel l a i
open Classical in
noncomputable def wrongR (l : List Nd) (i : Nat) : Int :=
  let n := nodeAt l i
  if n.kind = 1 then (if n0 n < 1 ∨ n0 n > 3 ∨ n1 n < 1 ∨ n1 n > 8 ∨ sumR l i 1 > 3 then 22 else 0)
  else if n.kind = 2 then (if n0 n < 1 ∨ n0 n > 8 ∨ trimI (n1 n) (n0 n) ≠ n1 n ∨ sumR l i 2 > 8 then 22 else 0)
  else if n.kind = 3 then (if n0 n < 1 ∨ sumR l i 3 > 4 then 22 else 0)
  else if n.kind = 13 then (if amR l i then 21 else 0)
  else if n.kind = 17 then (if n0 n > 127 then 22 else 0)
  else 0
/-- The first number of some from one on at which a number is not 0. -/
def firstE (g : Nat → Int) : Nat → Nat → Option (Int × Nat)
  | 0, _ => none
  | m + 1, i => if g i = 0 then firstE g m (i + 1) else some (g i, i)
theorem firstE_congr {g g' : Nat → Int} : ∀ (m i : Nat), (∀ j, i ≤ j → j < i + m → g j = g' j) → firstE g m i = firstE g' m i
  | 0, _, _ => rfl
  | m + 1, i, h => by
    unfold firstE
    rw [h i (by omega) (by omega), firstE_congr m (i + 1) (fun j h1 h2 => h j (by omega) (by omega))]
def fltE (l : List Nd) : Option (Int × Nat) → Flt
  | none => ⟨0, 0⟩
  | some (e, i) => ⟨e, (nodeAt l i).pos⟩
def stA (l : List Nd) (cx : Nat → Int × Bool) : Nat → TS
  | 0 => ⟨0, 0, 0⟩
  | i + 1 => (oneT (stA l cx i) (nodeAt l i) (cx i).1 (cx i).2).1
theorem seqT_first {l : List Nd} {cx : Nat → Int × Bool} : ∀ (m i : Nat), (seqT l cx m i (stA l cx i)).2 = firstE (fun i => (oneT (stA l cx i) (nodeAt l i) (cx i).1 (cx i).2).2) m i
  | 0, i => rfl
  | m + 1, i => by
    unfold seqT firstE
    by_cases c : (oneT (stA l cx i) (nodeAt l i) (cx i).1 (cx i).2).2 = 0
    · rw [if_pos c, if_pos c]
      exact seqT_first m (i + 1)
    · rw [if_neg c, if_neg c]
/-- What a node adds to a count. -/
def ctb (l : List Nd) (kind : Int) (j : Nat) : Int := if (nodeAt l j).kind = kind then (if kind = 1 then 1 else cpR l j) else 0
def totL (l : List Nd) (kind : Int) : Nat → Nat → Int
  | 0, _ => 0
  | m + 1, i => ctb l kind i + totL l kind m (i + 1)
theorem totL_end {l : List Nd} {kind : Int} : ∀ (m i : Nat), totL l kind (m + 1) i = totL l kind m i + ctb l kind (i + m)
  | 0, i => by simp [totL]
  | m + 1, i => by
    have h1 : totL l kind (m + 1 + 1) i = ctb l kind i + totL l kind (m + 1) (i + 1) := rfl
    have h2 : totL l kind (m + 1) i = ctb l kind i + totL l kind m (i + 1) := rfl
    have := totL_end (l := l) (kind := kind) m (i + 1)
    rw [h1, h2, this, show i + 1 + m = i + (m + 1) by omega]; omega
theorem totL_nn {l : List Nd} {kind : Int} (h : ∀ j, 0 ≤ ctb l kind j) : ∀ (m i : Nat), 0 ≤ totL l kind m i
  | 0, i => by simp [totL]
  | m + 1, i => by have := totL_nn h m (i + 1); have := h i; unfold totL; omega
theorem sumL_le {l : List Nd} {kind B : Int} (hB : B < 100) (h : ∀ j, 0 ≤ ctb l kind j) : ∀ (m i : Nat) (n : Int), 0 ≤ n → (sumL l kind m i n ≤ B ↔ n + totL l kind m i ≤ B)
  | 0, i, n, hn => by simp [sumL, totL]
  | m + 1, i, n, hn => by
    have hj := h i
    have ht := totL_nn h m (i + 1)
    unfold sumL totL
    by_cases hc : n < 100
    · rw [if_pos hc]
      unfold ctb at hj ⊢
      by_cases hk : (nodeAt l i).kind = kind
      · rw [if_pos hk] at hj ⊢
        rw [if_pos hk]
        by_cases h1 : kind = 1
        · rw [if_pos h1] at hj ⊢
          rw [if_pos h1, sumL_le hB h m (i + 1) _ (by omega)]
          constructor <;> intro <;> omega
        · rw [if_neg h1] at hj ⊢
          rw [if_neg h1, sumL_le hB h m (i + 1) _ (by omega)]
          constructor <;> intro <;> omega
      · rw [if_neg hk] at hj ⊢
        rw [if_neg hk, sumL_le hB h m (i + 1) _ hn]
        constructor <;> intro <;> omega
    · rw [if_neg hc]
      constructor <;> intro <;> omega
open Classical in
noncomputable def cxR (l : List Nd) (j : Nat) : Int × Bool := (if itemM' l j = j then 1 else cpR l j, decide (amR l j))
theorem num_rng {l : List Nd} (h : prRightM l = true) {j : Nat} (hj : j < l.length) : ∀ i, i < (bnds (nodeAt l j).kind).length → ((bnds (nodeAt l j).kind).getD i (0, 0)).1 ≤ (nodeAt l j).nums.getD i 0 ∧ (nodeAt l j).nums.getD i 0 ≤ ((bnds (nodeAt l j).kind).getD i (0, 0)).2 := by
  have hn := (tre_of h).node j hj
  unfold nodeP at hn
  simp only [Bool.and_eq_true] at hn
  have h2 := hn.2.1
  unfold withinM at h2
  rw [Bool.and_eq_true, allR_iff] at h2
  intro i hi
  have := h2.2 i hi
  simpa only [Bool.and_eq_true, decide_eq_true_eq] using this
theorem n0_rng {l : List Nd} (h : prRightM l = true) {j : Nat} (hj : j < l.length) (hk : (nodeAt l j).kind = 1 ∨ (nodeAt l j).kind = 2 ∨ (nodeAt l j).kind = 3 ∨ (nodeAt l j).kind = 17) : 0 ≤ n0 (nodeAt l j) ∧ n0 (nodeAt l j) ≤ 999999 := by
  have := num_rng h hj
  unfold n0
  rcases hk with e | e | e | e <;> rw [e] at this <;> simpa [bnds] using this 0 (by simp [bnds])
theorem cp_nn {l : List Nd} (h : prRightM l = true) {j : Nat} (hj : j < l.length) : 0 ≤ cpR l j ∧ cpR l j ≤ 999999 := by
  unfold cpR
  have a := itm (tre_of h) j
  have ale := a.le
  have ann := a.nn
  split
  · rename_i hk
    exact n0_rng h (by omega) (.inr (.inr (.inl hk)))
  · omega
theorem item_zero {l : List Nd} (h : Tre l) : itemM' l ((0 : Nat) : Int) = 0 := by
  have a := itm h 0
  have := a.le; have := a.nn
  omega
theorem item_lt {l : List Nd} (h : prRightM l = true) {p : Nat} (h1 : 1 ≤ p) (hp : p < l.length) {k : Nat} (hk : (k : Int) ∈ (nodeAt l p).kids) : itemM' l k ≠ k := by
  have := span_of h h1 hp hk
  have := (itm (tre_of h) p).le
  have := kid_rng h hp hk
  omega
open Classical in
theorem cx_ok {l : List Nd} (h : prRightM l = true) : CxOk l (cxR l) := by
  have t := tre_of h
  intro p hp k hk
  have hr := kid_rng h hp hk
  obtain ⟨m, rfl⟩ : ∃ m : Nat, k = m := ⟨k.toNat, by omega⟩
  simp only [Int.toNat_natCast]
  unfold cxR
  simp only [Prod.mk.injEq]
  refine ⟨?_, ?_⟩
  · rcases Nat.eq_zero_or_pos p with rfl | h1
    · rw [if_pos (itm_self t hk), t.kind0]
      rw [if_neg (by omega), item_zero t]
      simp
    · rw [if_neg (item_lt h h1 hp hk)]
      unfold cpR
      rw [span_of h h1 hp hk]
      by_cases k3 : (nodeAt l p).kind = 3
      · have hself : itemM' l p = p := by
          rcases (item_of h hp (.inr (.inr (.inl k3)))).2 with e | ⟨e, _⟩
          · exact itm_self t e
          · omega
        rw [hself, if_pos k3]
        simp only [Int.toNat_natCast]
        rw [if_pos k3]
      · rw [if_neg k3]
        by_cases hs : itemM' l p = p
        · rw [hs, if_pos rfl]
          simp only [Int.toNat_natCast]
          rw [if_neg k3]
        · rw [if_neg hs]
  · have hb : amR l m ↔ ((nodeAt l p).kind = 13 ∨ amR l p) := by
      unfold amR
      constructor
      · rintro ⟨a, h1, h2, h3⟩
        rcases (bel_kid h hp hk).1 h3 with rfl | h4
        · exact .inl h2
        · exact .inr ⟨a, (bel_lt h h4).1, h2, h4⟩
      · rintro (h2 | ⟨a, h1, h2, h3⟩)
        · exact ⟨p, by omega, h2, .kid hk⟩
        · exact ⟨a, by omega, h2, (bel_kid h hp hk).2 (.inr h3)⟩
    by_cases k13 : (nodeAt l p).kind = 13
    · rw [if_pos k13, decide_eq_true (hb.2 (.inl k13))]
    · rw [if_neg k13]
      congr 1
      rw [eq_iff_iff, hb]
      exact ⟨fun e => e.resolve_left k13, .inr⟩
theorem stA_tot {l : List Nd} (h : prRightM l = true) : ∀ i, i ≤ l.length → stA l (cxR l) i = ⟨totL l 1 i 0, totL l 3 i 0, totL l 2 i 0⟩
  | 0, _ => rfl
  | i + 1, hi => by
    have ih := stA_tot h i (by omega)
    have t := tre_of h
    unfold stA
    rw [ih, totL_end, totL_end, totL_end, Nat.zero_add]
    unfold oneT ctb
    by_cases k1 : (nodeAt l i).kind = 1
    · simp [k1]
    · by_cases k2 : (nodeAt l i).kind = 2
      · have hcp : (cxR l i).1 = cpR l i := by
          unfold cxR
          simp only
          by_cases c : itemM' l i = i
          · rw [if_pos c]; unfold cpR; rw [c]; simp [k2]
          · rw [if_neg c]
        simp [k2, hcp]
      · by_cases k3 : (nodeAt l i).kind = 3
        · have hself : itemM' l i = i := by
            rcases (item_of h (by omega) (.inr (.inr (.inl k3)))).2 with e | ⟨e, _⟩
            · exact itm_self t e
            · omega
          have : cpR l i = n0 (nodeAt l i) := by unfold cpR; rw [hself]; simp [k3]
          simp [k3, this]
        · rw [if_neg k1, if_neg k2, if_neg k3]
          have : ∀ (a b : Int), (if (nodeAt l i).kind = 17 then ((⟨totL l 1 i 0, totL l 3 i 0, totL l 2 i 0⟩ : TS), a) else if (nodeAt l i).kind = 13 then (⟨totL l 1 i 0, totL l 3 i 0, totL l 2 i 0⟩, b) else (⟨totL l 1 i 0, totL l 3 i 0, totL l 2 i 0⟩, 0)).1 = ⟨totL l 1 i 0, totL l 3 i 0, totL l 2 i 0⟩ := by
            intro a b; split
            · rfl
            · split <;> rfl
          rw [this]
          simp [k1, k2, k3]
theorem ctb_nn {l : List Nd} (h : prRightM l = true) {kind : Int} (hk : kind = 1 ∨ kind = 2 ∨ kind = 3) (j : Nat) : 0 ≤ ctb l kind j := by
  unfold ctb
  split
  · rename_i e
    split
    · omega
    · by_cases hj : j < l.length
      · exact (cp_nn h hj).1
      · have : (nodeAt l j).kind = 0 := by
          unfold nodeAt
          rw [List.getD_eq_getElem?_getD, List.getElem?_eq_none (by omega)]; rfl
        omega
  · omega
open Classical in
theorem wrong_eq {l : List Nd} (h : prRightM l = true) {i : Nat} (hi : i < l.length) : (oneT (stA l (cxR l) i) (nodeAt l i) (cxR l i).1 (cxR l i).2).2 = wrongR l i := by
  have t := tre_of h
  rw [stA_tot h i (by omega)]
  have s1 := sumL_le (l := l) (kind := 1) (B := 3) (by omega) (ctb_nn h (.inl rfl)) (i + 1) 0 0 (by omega)
  have s2 := sumL_le (l := l) (kind := 2) (B := 8) (by omega) (ctb_nn h (.inr (.inl rfl))) (i + 1) 0 0 (by omega)
  have s3 := sumL_le (l := l) (kind := 3) (B := 4) (by omega) (ctb_nn h (.inr (.inr rfl))) (i + 1) 0 0 (by omega)
  rw [totL_end, Nat.zero_add, Int.zero_add] at s1 s2 s3
  have p3 := totL_nn (ctb_nn h (kind := 3) (.inr (.inr rfl))) i 0
  unfold oneT wrongR sumR
  simp only
  by_cases k1 : (nodeAt l i).kind = 1
  · simp only [k1, if_true]
    have e : ctb l 1 i = 1 := by unfold ctb; simp [k1]
    rw [e] at s1
    by_cases c : totL l 1 i 0 + 1 ≤ 3 ∧ (1 ≤ n0 (nodeAt l i) ∧ n0 (nodeAt l i) ≤ 3) ∧ (1 ≤ n1 (nodeAt l i) ∧ n1 (nodeAt l i) ≤ 8)
    · rw [if_pos c, if_neg (by have := s1.2 c.1; omega)]
    · rw [if_neg c, if_pos]
      by_cases c1 : totL l 1 i 0 + 1 ≤ 3
      · omega
      · have : ¬ sumL l 1 (i + 1) 0 0 ≤ 3 := fun e => c1 (s1.1 e)
        omega
  rw [if_neg k1, if_neg k1]
  by_cases k2 : (nodeAt l i).kind = 2
  · rw [if_pos k2, if_pos k2]
    have e : ctb l 2 i = cpR l i := by unfold ctb; simp [k2]
    rw [e] at s2
    have hcp : (cxR l i).1 = cpR l i := by
      unfold cxR
      simp only
      by_cases c : itemM' l i = i
      · rw [if_pos c]; unfold cpR; rw [c]; simp [k2]
      · rw [if_neg c]
    rw [hcp]
    simp only
    by_cases c : totL l 2 i 0 + cpR l i ≤ 8 ∧ (1 ≤ n0 (nodeAt l i) ∧ n0 (nodeAt l i) ≤ 8) ∧ trimI (n1 (nodeAt l i)) (n0 (nodeAt l i)) = n1 (nodeAt l i)
    · rw [if_pos c, if_neg]
      have := s2.2 c.1
      have := c.2.2
      omega
    · rw [if_neg c, if_pos]
      by_cases c1 : totL l 2 i 0 + cpR l i ≤ 8
      · by_cases c3 : trimI (n1 (nodeAt l i)) (n0 (nodeAt l i)) = n1 (nodeAt l i)
        · omega
        · exact .inr (.inr (.inl c3))
      · have : ¬ sumL l 2 (i + 1) 0 0 ≤ 8 := fun e => c1 (s2.1 e)
        omega
  rw [if_neg k2, if_neg k2]
  by_cases k3 : (nodeAt l i).kind = 3
  · rw [if_pos k3, if_pos k3]
    have hself : itemM' l i = i := by
      rcases (item_of h hi (.inr (.inr (.inl k3)))).2 with e | ⟨e, _⟩
      · exact itm_self t e
      · omega
    have hcp : cpR l i = n0 (nodeAt l i) := by unfold cpR; rw [hself]; simp [k3]
    have e : ctb l 3 i = n0 (nodeAt l i) := by unfold ctb; simp [k3, hcp]
    rw [e] at s3
    simp only
    by_cases c : totL l 3 i 0 + n0 (nodeAt l i) ≤ 4 ∧ 1 ≤ n0 (nodeAt l i) ∧ n0 (nodeAt l i) ≤ 4
    · rw [if_pos c, if_neg]
      have := s3.2 c.1
      omega
    · rw [if_neg c, if_pos]
      by_cases c1 : totL l 3 i 0 + n0 (nodeAt l i) ≤ 4
      · omega
      · have : ¬ sumL l 3 (i + 1) 0 0 ≤ 4 := fun e => c1 (s3.1 e)
        omega
  rw [if_neg k3, if_neg k3]
  by_cases k17 : (nodeAt l i).kind = 17
  · rw [if_pos k17, if_neg (show ¬ (nodeAt l i).kind = 13 by omega), if_pos k17]
    have := n0_rng h hi (.inr (.inr (.inr k17)))
    simp only
    by_cases c : 0 ≤ n0 (nodeAt l i) ∧ n0 (nodeAt l i) ≤ 127
    · rw [if_pos c, if_neg (by omega)]
    · rw [if_neg c, if_pos (by omega)]
  rw [if_neg k17]
  by_cases k13 : (nodeAt l i).kind = 13
  · rw [if_pos k13, if_pos k13]
    unfold cxR
    simp only
    by_cases c : amR l i
    · rw [if_pos c, decide_eq_true c]; rfl
    · rw [if_neg c, decide_eq_false c]; rfl
  rw [if_neg k13, if_neg k13, if_neg k17]
noncomputable def check12 (l : List Nd) : Flt := if check11 l = ⟨0, 0⟩ then fltE l (firstE (wrongR l) l.length 0) else check11 l
def typM (l : List Nd) : Flt := if scopeM l = ⟨0, 0⟩ then fltE l (nodeT l 20 0 1 false ⟨0, 0, 0⟩).2 else scopeM l
open Classical in
/-- What is wrong with the numbers first: both answers are the same. -/
theorem typ_eq {l : List Nd} (h : prRightM l = true) : typM l = check12 l := by
  unfold typM check12
  rw [scope_eq h]
  congr 2
  obtain ⟨hw, h0⟩ := walk20 h
  have hc : cxR l 0 = (1, false) := by
    unfold cxR
    have e0 : itemM' l ((0 : Nat) : Int) = ((0 : Nat) : Int) := by rw [item_zero (tre_of h)]; rfl
    rw [if_pos e0, decide_eq_false]
    rintro ⟨a, ha, _⟩
    omega
  have := nodeT_seq (cx_ok h) 20 0 l.length ⟨0, 0, 0⟩ h0 hw
  rw [hc] at this
  rw [this, Nat.sub_zero]
  have h2 := seqT_first (l := l) (cx := cxR l) l.length 0
  have e0 : stA l (cxR l) 0 = ⟨0, 0, 0⟩ := rfl
  rw [e0] at h2
  rw [h2]
  exact firstE_congr l.length 0 (fun j h1 h2 => wrong_eq h (by omega))
end Go.Proofs.YtpkfgoemhcgpdaaGreatDoor

