
/- Closed runs: maps looked into, written; cells copied and cleared. -/
import Derived.Test.YtndbdehpkiimjaaGreatRunM
namespace Go.Run
open Go.HL
variable {σ : Nat → Value} {F : Nat → Option Obj} {φ : Phi} {A : AH} {H : Heap} {P : Program} {V : HV}
noncomputable section
set_option linter.unusedVariables false

/-! ### Buckets changed -/
def updB (h : Nat) (f : List (AV × AV) → List (AV × AV)) (m : MT) : MT := upd (dig (lo4 (hi4 h))) (upd (dig (lo4 h)) f) m
theorem updB_same (h : Nat) (f : List (AV × AV) → List (AV × AV)) (m : MT) : bktH h (updB h f m) = f (bktH h m) := by
  simp only [bktH, updB, selN_eq, sel_upd]
theorem updB_other (h h' : Nat) (f : List (AV × AV) → List (AV × AV)) (m : MT) : bktH h' (updB h f m) = bktH h' m ∨ (bktH h' m = bktH h m ∧ bktH h' (updB h f m) = f (bktH h m)) := by
  simp only [bktH, updB, selN_eq]
  by_cases h1 : dig (lo4 (hi4 h')) = dig (lo4 (hi4 h))
  · by_cases h2 : dig (lo4 h') = dig (lo4 h)
    · right; rw [h1, h2]; simp only [sel_upd, and_self]
    · left; rw [h1, sel_upd, sel_upd' h2]
  · left; rw [sel_upd' h1]
def setK (k x : AV) (l : List (AV × AV)) : List (AV × AV) := @List.rec (AV × AV) (fun _ => List (AV × AV)) [] (fun e _ ih => @Bool.rec (fun _ => List (AV × AV)) (e :: ih) ((k, x) :: ih) (eqKey e.1 k)) l
theorem setK_mem {k x : AV} {w : Value} (hk : keyV k = some w) : ∀ (l : List (AV × AV)), (∀ e ∈ l, ∃ w', keyV e.1 = some w') →
    (∀ e, e ∈ setK k x l → e = (k, x) ∨ (e ∈ l ∧ e.1 ≠ k)) ∧ (∀ e, e ∈ l → e.1 ≠ k → e ∈ setK k x l) ∧ (∀ y, (k, y) ∈ l → (k, x) ∈ setK k x l)
  | [], _ => ⟨by simp [setK], by simp, by simp⟩
  | a :: l, hl => by
    obtain ⟨w', hw'⟩ := hl a (by simp)
    have hq := eqKey_ok hw' hk
    obtain ⟨i1, i2, i3⟩ := setK_mem (x := x) hk l fun e he => hl e (by simp [he])
    have e0 : setK k x (a :: l) = @Bool.rec (fun _ => List (AV × AV)) (a :: setK k x l) ((k, x) :: setK k x l) (eqKey a.1 k) := rfl
    cases hb : eqKey a.1 k with
    | true =>
      rw [hb] at e0
      have ha := hq.1 hb
      rw [e0]
      refine ⟨fun e he => ?_, fun e he hn => ?_, fun y hy => by simp⟩
      · rcases List.mem_cons.1 he with rfl | he
        · exact .inl rfl
        · rcases i1 e he with h | ⟨h1, h2⟩
          · exact .inl h
          · exact .inr ⟨by simp [h1], h2⟩
      · rcases List.mem_cons.1 he with rfl | he
        · exact absurd ha hn
        · exact List.mem_cons_of_mem _ (i2 e he hn)
    | false =>
      rw [hb] at e0
      have ha : a.1 ≠ k := fun x => by have := hq.2 x; rw [hb] at this; cases this
      rw [e0]
      refine ⟨fun e he => ?_, fun e he hn => ?_, fun y hy => ?_⟩
      · rcases List.mem_cons.1 he with rfl | he
        · exact .inr ⟨by simp, ha⟩
        · rcases i1 e he with h | ⟨h1, h2⟩
          · exact .inl h
          · exact .inr ⟨by simp [h1], h2⟩
      · rcases List.mem_cons.1 he with rfl | he
        · simp
        · exact List.mem_cons_of_mem _ (i2 e he hn)
      · rcases List.mem_cons.1 hy with rfl | hy
        · exact absurd rfl ha
        · exact List.mem_cons_of_mem _ (i3 y hy)
def delK (k : AV) (l : List (AV × AV)) : List (AV × AV) := @List.rec (AV × AV) (fun _ => List (AV × AV)) [] (fun e _ ih => @Bool.rec (fun _ => List (AV × AV)) (e :: ih) ih (eqKey e.1 k)) l
theorem delK_mem {k : AV} {w : Value} (hk : keyV k = some w) : ∀ (l : List (AV × AV)), (∀ e ∈ l, ∃ w', keyV e.1 = some w') → ∀ e, e ∈ delK k l ↔ e ∈ l ∧ e.1 ≠ k
  | [], _ => by simp [delK]
  | a :: l, hl => by
    obtain ⟨w', hw'⟩ := hl a (by simp)
    have hq := eqKey_ok hw' hk
    have ih := delK_mem hk l fun e he => hl e (by simp [he])
    have e0 : delK k (a :: l) = @Bool.rec (fun _ => List (AV × AV)) (a :: delK k l) (delK k l) (eqKey a.1 k) := rfl
    intro e
    cases hb : eqKey a.1 k with
    | true =>
      rw [hb] at e0
      have ha := hq.1 hb
      rw [e0]
      constructor
      · intro h; obtain ⟨h1, h2⟩ := (ih e).1 h; exact ⟨by simp [h1], h2⟩
      · rintro ⟨h1, h2⟩
        rcases List.mem_cons.1 h1 with rfl | h1
        · exact absurd ha h2
        · exact (ih e).2 ⟨h1, h2⟩
    | false =>
      rw [hb] at e0
      have ha : a.1 ≠ k := fun x => by have := hq.2 x; rw [hb] at this; cases this
      rw [e0]
      constructor
      · intro h
        rcases List.mem_cons.1 h with rfl | h
        · exact ⟨by simp, ha⟩
        · obtain ⟨h1, h2⟩ := (ih e).1 h; exact ⟨by simp [h1], h2⟩
      · rintro ⟨h1, h2⟩
        rcases List.mem_cons.1 h1 with rfl | h1
        · simp
        · exact List.mem_cons_of_mem _ ((ih e).2 ⟨h1, h2⟩)

/-! ### Real maps changed -/
section
variable {g n : Nat} {m : MT} {es : List MapEntry} {k x : AV} {w v : Value} {j : Nat} {e : MapEntry}
theorem keys_modify {f : MapEntry → MapEntry} : ∀ (es : List MapEntry) (j : Nat), (∀ e, es[j]? = some e → (f e).key = e.key) → (es.modify j f).map (·.key) = es.map (·.key)
  | [], j, _ => by cases j <;> simp
  | a :: es, 0, h => by simp [h a rfl]
  | a :: es, j + 1, h => by simp [keys_modify es j fun e he => h e (by simpa using he)]
theorem nodup_at (h : (es.map (·.key)).Nodup) {i j : Nat} {a b : MapEntry} (ha : es[i]? = some a) (hb : es[j]? = some b) (hk : a.key = b.key) : i = j := by
  have hi := (List.getElem?_eq_some_iff.1 ha).1
  have hj := (List.getElem?_eq_some_iff.1 hb).1
  have hp := List.pairwise_iff_getElem.1 h
  have ea : (es.map (·.key))[i]'(by simpa using hi) = a.key := by simp [(List.getElem?_eq_some_iff.1 ha).2]
  have eb : (es.map (·.key))[j]'(by simpa using hj) = b.key := by simp [(List.getElem?_eq_some_iff.1 hb).2]
  rcases Nat.lt_trichotomy i j with hlt | rfl | hlt
  · exact absurd (ea.trans (hk.trans eb.symm)) (hp i j (by simpa using hi) (by simpa using hj) hlt)
  · rfl
  · exact absurd (eb.trans (hk.symm.trans ea.symm)) (hp j i (by simpa using hj) (by simpa using hi) hlt)
theorem MR.put_old (h : MR σ φ g n m es) (hk : keyV k = some w) (hg : clsA k = g) (hj : es[j]? = some e) (he : e.key = w) (hx : VR σ φ x v) :
    MR σ φ g n (updB (hashA k) (setK k x) m) (es.modify j fun e => { e with key := w, val := v }) := by
  have hkeys := keys_modify (f := fun e => { e with key := w, val := v }) es j fun e' he' => by rw [hj] at he'; simp only [Option.some.injEq] at he'; subst he'; exact he.symm
  obtain ⟨s1, s2, s3⟩ := setK_mem (x := x) hk (bucket k m) fun e he => h.vk k e he
  have hjl := (List.getElem?_eq_some_iff.1 hj).1
  have hnew : ({ e with key := w, val := v } : MapEntry) ∈ es.modify j fun e => { e with key := w, val := v } := by
    refine List.mem_of_getElem? (i := j) ?_
    rw [List.getElem?_modify, hj]
    simp
  have keep : ∀ a ∈ es, a.key ≠ w → a ∈ es.modify j fun e => { e with key := w, val := v } := by
    intro a ha hne
    obtain ⟨i, hi⟩ := List.getElem?_of_mem ha
    refine List.mem_of_getElem? (i := i) ?_
    have hij : j ≠ i := by
      intro x
      subst x
      rw [hj] at hi
      simp only [Option.some.injEq] at hi
      subst hi
      exact hne he
    rw [List.getElem?_modify, hi]
    simp [hij]
  refine ⟨by rw [List.length_modify]; exact h.size, by rw [hkeys]; exact h.nodup, ?_, ?_, ?_⟩
  · intro k' w' x' hk' hm
    have old : (k', x') ∈ bucket k' m → k' ≠ k → ∃ e ∈ es.modify j fun e => { e with key := w, val := v }, e.key = w' ∧ VR σ φ x' e.val := by
      intro hm hne
      obtain ⟨a, h1, h2, h3⟩ := h.real k' w' x' hk' hm
      exact ⟨a, keep a h1 (by rw [h2]; rintro rfl; exact hne (keyV_inj hk' hk)), h2, h3⟩
    by_cases hne : k' = k
    · subst hne
      rw [hk] at hk'
      cases hk'
      unfold bucket at hm
      rw [updB_same] at hm
      rcases s1 _ hm with h1 | ⟨_, h1⟩
      · cases h1; exact ⟨_, hnew, rfl, hx⟩
      · exact absurd rfl h1
    · rcases updB_other (hashA k) (hashA k') (setK k x) m with h1 | ⟨h1, h2⟩
      · exact old (by unfold bucket at hm ⊢; rw [h1] at hm; exact hm) hne
      · unfold bucket at hm
        rw [h2] at hm
        rcases s1 _ hm with h3 | ⟨h3, _⟩
        · cases h3; exact absurd rfl hne
        · exact old (by unfold bucket at h3 ⊢; rw [h1]; exact h3) hne
  · intro a ha
    have hka : a.key ∈ es.map (·.key) := by rw [← hkeys]; exact List.mem_map_of_mem ha
    obtain ⟨b, hb, hbk⟩ := List.mem_map.1 hka
    obtain ⟨k', x', h1, h2, h3⟩ := h.all b hb
    rw [← hbk]
    by_cases hne : k' = k
    · subst hne
      exact ⟨k', x, h1, h2, by unfold bucket; rw [updB_same]; exact s3 _ h3⟩
    · refine ⟨k', x', h1, h2, ?_⟩
      rcases updB_other (hashA k) (hashA k') (setK k x) m with h4 | ⟨h4, h5⟩
      · unfold bucket at h3 ⊢; rw [h4]; exact h3
      · unfold bucket at h3 ⊢
        rw [h5]
        exact s2 _ (by unfold bucket; rw [← h4]; exact h3) hne
  · intro k' a ha
    rcases updB_other (hashA k) (hashA k') (setK k x) m with h4 | ⟨h4, h5⟩
    · unfold bucket at ha; rw [h4] at ha; exact h.vk k' a ha
    · unfold bucket at ha
      rw [h5] at ha
      rcases s1 _ ha with h6 | ⟨h6, _⟩
      · rw [h6]; exact ⟨w, hk⟩
      · exact h.vk k a h6
theorem MR.put_new (h : MR σ φ g n m es) (hk : keyV k = some w) (hg : clsA k = g) (hno : ∀ e ∈ es, e.key ≠ w) (hx : VR σ φ x v) {c : Nat} :
    MR σ φ g (n + 1) (updB (hashA k) (fun l => (k, x) :: l) m) (es ++ [{ key := w, val := v, born := c }]) := by
  have nok : ∀ y, (k, y) ∉ bucket k m := by
    intro y hy
    obtain ⟨e, h1, h2, _⟩ := h.real k w y hk hy
    exact hno e h1 h2
  refine ⟨by simp [h.size], ?_, ?_, ?_, ?_⟩
  · rw [List.map_append, List.nodup_append]
    refine ⟨h.nodup, by simp, ?_⟩
    intro a ha b hb hab
    obtain ⟨e, he, rfl⟩ := List.mem_map.1 ha
    simp at hb
    exact hno e he (by rw [hab, hb])
  · intro k' w' x' hk' hm
    have old : (k', x') ∈ bucket k' m → ∃ e ∈ es ++ [{ key := w, val := v, born := c }], e.key = w' ∧ VR σ φ x' e.val := by
      intro hm
      obtain ⟨a, h1, h2, h3⟩ := h.real k' w' x' hk' hm
      exact ⟨a, by simp [h1], h2, h3⟩
    rcases updB_other (hashA k) (hashA k') (fun l => (k, x) :: l) m with h1 | ⟨h1, h2⟩
    · exact old (by unfold bucket at hm ⊢; rw [h1] at hm; exact hm)
    · unfold bucket at hm
      rw [h2] at hm
      rcases List.mem_cons.1 hm with h3 | h3
      · cases h3
        rw [hk] at hk'
        cases hk'
        exact ⟨{ key := w, val := v, born := c }, by simp, rfl, hx⟩
      · exact old (by unfold bucket; rw [h1]; exact h3)
  · intro a ha
    rcases List.mem_append.1 ha with ha | ha
    · obtain ⟨k', x', h1, h2, h3⟩ := h.all a ha
      refine ⟨k', x', h1, h2, ?_⟩
      rcases updB_other (hashA k) (hashA k') (fun l => (k, x) :: l) m with h4 | ⟨h4, h5⟩
      · unfold bucket at h3 ⊢; rw [h4]; exact h3
      · unfold bucket at h3 ⊢; rw [h5, ← h4]; simp [h3]
    · simp at ha
      subst ha
      exact ⟨k, x, hk, hg, by unfold bucket; rw [updB_same]; simp⟩
  · intro k' a ha
    rcases updB_other (hashA k) (hashA k') (fun l => (k, x) :: l) m with h4 | ⟨h4, h5⟩
    · unfold bucket at ha; rw [h4] at ha; exact h.vk k' a ha
    · unfold bucket at ha
      rw [h5] at ha
      rcases List.mem_cons.1 ha with h6 | h6
      · rw [h6]; exact ⟨w, hk⟩
      · exact h.vk k a h6
theorem MR.del (h : MR σ φ g n m es) (hk : keyV k = some w) (hg : clsA k = g) (hj : es[j]? = some e) (he : e.key = w) :
    MR σ φ g (n - 1) (updB (hashA k) (delK k) m) (es.eraseIdx j) := by
  have hjl := (List.getElem?_eq_some_iff.1 hj).1
  have s := delK_mem hk (bucket k m) fun e he => h.vk k e he
  have keep : ∀ a ∈ es, a.key ≠ w → a ∈ es.eraseIdx j := by
    intro a ha hne
    obtain ⟨i, hi⟩ := List.getElem?_of_mem ha
    have : i ≠ j := by rintro rfl; rw [hj] at hi; simp only [Option.some.injEq] at hi; subst hi; exact hne he
    exact List.mem_eraseIdx_iff_getElem?.2 ⟨i, this, hi⟩
  have gone : ∀ a ∈ es.eraseIdx j, a ∈ es ∧ a.key ≠ w := by
    intro a ha
    obtain ⟨i, h1, h2⟩ := List.mem_eraseIdx_iff_getElem?.1 ha
    exact ⟨List.mem_of_getElem? h2, fun hw => h1 (nodup_at h.nodup h2 hj (by rw [hw, he]))⟩
  refine ⟨by rw [List.length_eraseIdx, if_pos hjl, h.size], ?_, ?_, ?_, ?_⟩
  · exact h.nodup.sublist ((List.eraseIdx_sublist es j).map _)
  · intro k' w' x' hk' hm
    have old : (k', x') ∈ bucket k' m → k' ≠ k → ∃ e ∈ es.eraseIdx j, e.key = w' ∧ VR σ φ x' e.val := by
      intro hm hne
      obtain ⟨a, h1, h2, h3⟩ := h.real k' w' x' hk' hm
      exact ⟨a, keep a h1 (by rw [h2]; rintro rfl; exact hne (keyV_inj hk' hk)), h2, h3⟩
    by_cases hne : k' = k
    · subst hne
      exfalso
      unfold bucket at hm
      rw [updB_same] at hm
      exact ((s _).1 hm).2 rfl
    · rcases updB_other (hashA k) (hashA k') (delK k) m with h1 | ⟨h1, h2⟩
      · exact old (by unfold bucket at hm ⊢; rw [h1] at hm; exact hm) hne
      · unfold bucket at hm
        rw [h2] at hm
        exact old (by unfold bucket; rw [h1]; exact ((s _).1 hm).1) hne
  · intro a ha
    obtain ⟨h1, h2⟩ := gone a ha
    obtain ⟨k', x', h3, h4, h5⟩ := h.all a h1
    refine ⟨k', x', h3, h4, ?_⟩
    have hne : k' ≠ k := by rintro rfl; rw [hk] at h3; exact h2 (Option.some.inj h3).symm
    rcases updB_other (hashA k) (hashA k') (delK k) m with h6 | ⟨h6, h7⟩
    · unfold bucket at h5 ⊢; rw [h6]; exact h5
    · unfold bucket at h5 ⊢
      rw [h7]
      exact (s _).2 ⟨by unfold bucket; rw [← h6]; exact h5, hne⟩
  · intro k' a ha
    rcases updB_other (hashA k) (hashA k') (delK k) m with h4 | ⟨h4, h5⟩
    · unfold bucket at ha; rw [h4] at ha; exact h.vk k' a ha
    · unfold bucket at ha
      rw [h5] at ha
      exact h.vk k a ((s _).1 ha).1
end
/-- A real map in the place of another. -/
theorem Rel.setMap (h : Rel σ F φ A H) {i : Id} {g n n' : Nat} {m m' : MT} (hg : A.get i = .mp g n m) {e : Ent} (he : φ i = some e) {es : Array MapEntry} {c : Nat} (hm : MR σ φ g n' m' es.toList) :
    Rel σ F φ (A.set i (.mp g n' m')) (H.setIfInBounds e.r (.map es c)) := by
  have hl := h.liv i
  rw [hg] at hl
  obtain ⟨e', h1, h2, es0, c0, h3, h4⟩ := hl
  rw [he] at h1
  simp only [Option.some.injEq] at h1
  subst h1
  have hlt := (Array.getElem?_eq_some_iff.1 h3).1
  refine ⟨?_, ?_, ?_, ?_, fun r hr => by have := h.st r hr; simpa using this⟩
  · intro i' x hx; rw [AH.nx_set]; exact h.dom i' x hx
  · intro i'
    by_cases hi : i' = i
    · subst hi
      rw [AH.get_set]
      exact ⟨e, he, h2, es, c, by rw [Array.getElem?_setIfInBounds]; simp [hlt], hm⟩
    · rw [AH.get_set' _ hi]
      have hl := h.liv i'
      cases hb : A.get i' with
      | no => trivial
      | _ =>
        rw [hb] at hl
        refine hl.keep fun x hx _ => ?_
        rw [Array.getElem?_setIfInBounds, if_neg]
        intro hr
        exact hi (h.inj i' i x e (by rw [hb]; simp) (by rw [hg]; simp) hx he hr.symm)
  · intro i1 i2 x1 x2 hi1 hi2 hx1 hx2 hr
    have key : ∀ i', (A.set i (.mp g n' m')).get i' ≠ .no → A.get i' ≠ .no := by
      intro i' hn
      by_cases hi : i' = i
      · subst hi; rw [hg]; simp
      · rwa [AH.get_set' _ hi] at hn
    exact h.inj i1 i2 x1 x2 (key _ hi1) (key _ hi2) hx1 hx2 hr
  · intro r o hr
    rw [Array.getElem?_setIfInBounds, if_neg (by rintro rfl; rw [h2] at hr; cases hr)]
    exact h.frm r o hr
end
end Go.Run
