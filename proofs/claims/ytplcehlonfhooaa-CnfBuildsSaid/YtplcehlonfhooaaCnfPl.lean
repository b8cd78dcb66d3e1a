/- Clauses and values: the plain law. -/
import Derived.Test.YtplcehlonfhooaaCnfE
namespace Go.Proofs.Ytplcehlonfhooaa
open Go.HL
set_option maxRecDepth 10000
set_option linter.unusedSimpArgs false

theorem giveM_split {p : Pr} {n : Nat} {L : List Nat} {cs ds : List (List Int)} : giveM p n (L, cs ++ ds) = ((giveM p n (L, ds)).1, cs ++ (giveM p n (L, ds)).2) := by
  simp only [giveM]
  split <;> simp
theorem needM_split {ns : List Pr} (hd : Dn ns) : ∀ (n : Nat) (L : List Nat) (cs ds : List (List Int)), needM ns n (L, cs ++ ds) = ((needM ns n (L, ds)).1, cs ++ (needM ns n (L, ds)).2) := by
  intro n
  induction n using Nat.strongRecOn with
  | _ n ih =>
    intro L cs ds
    by_cases h : n ∈ L
    · rw [needM_named (s := (L, cs ++ ds)) h, needM_named (s := (L, ds)) h]
    · by_cases hp : ns.getD n (0, 0) = (0, 0)
      · rw [needM_leaf (s := (L, cs ++ ds)) h hp, needM_leaf (s := (L, ds)) h hp, giveM_split]
      · have hk := hd.kid n hp
        rw [needM_and hd (s := (L, cs ++ ds)) h hp, needM_and hd (s := (L, ds)) h hp, ih _ hk.1, ih _ hk.2, giveM_split]

def cl1 (L : List Nat) (p : Pr) (n : Nat) : List Int := [-varOf L n, litM L p.1]
def cl2 (L : List Nat) (p : Pr) (n : Nat) : List Int := [-varOf L n, litM L p.2]
def cl3 (L : List Nat) (p : Pr) (n : Nat) : List Int := [varOf L n, -litM L p.1, -litM L p.2]
/-- The clauses are just those of the named nodes. -/
structure Ok (ns : List Pr) (s : MS) : Prop where
  z : 0 ∈ s.1
  v0 : varOf s.1 0 = 1
  nd : s.1.Nodup
  one : [-1] ∈ s.2
  kid : ∀ n ∈ s.1, ns.getD n (0, 0) ≠ (0, 0) → (ns.getD n (0, 0)).1 / 2 ∈ s.1 ∧ (ns.getD n (0, 0)).2 / 2 ∈ s.1
  tri : ∀ n ∈ s.1, ns.getD n (0, 0) ≠ (0, 0) → cl1 s.1 (ns.getD n (0, 0)) n ∈ s.2 ∧ cl2 s.1 (ns.getD n (0, 0)) n ∈ s.2 ∧ cl3 s.1 (ns.getD n (0, 0)) n ∈ s.2
  only : ∀ c ∈ s.2, c = [-1] ∨ ∃ n ∈ s.1, ns.getD n (0, 0) ≠ (0, 0) ∧ (c = cl1 s.1 (ns.getD n (0, 0)) n ∨ c = cl2 s.1 (ns.getD n (0, 0)) n ∨ c = cl3 s.1 (ns.getD n (0, 0)) n)
theorem Ok.start {ns : List Pr} (h0 : ns.getD 0 (0, 0) = (0, 0)) : Ok ns ([0], [[-1]]) := by
  refine ⟨by simp, by simp [varOf], by simp, by simp, ?_, ?_, ?_⟩
  · intro n hn hp; simp at hn; subst hn; exact absurd h0 hp
  · intro n hn hp; simp at hn; subst hn; exact absurd h0 hp
  · intro c hc; simp at hc; exact .inl hc
theorem cl_app {L t : List Nat} {p : Pr} {n : Nat} (h : n ∈ L) (h1 : p.1 / 2 ∈ L) (h2 : p.2 / 2 ∈ L) : cl1 (L ++ t) p n = cl1 L p n ∧ cl2 (L ++ t) p n = cl2 L p n ∧ cl3 (L ++ t) p n = cl3 L p n := by
  unfold cl1 cl2 cl3
  rw [varOf_append h, litM_append h1, litM_append h2]
  exact ⟨rfl, rfl, rfl⟩
theorem Ok.give {ns : List Pr} {s : MS} {n : Nat} (h : Ok ns s) (hn : n ∉ s.1) (hk : ns.getD n (0, 0) ≠ (0, 0) → (ns.getD n (0, 0)).1 / 2 ∈ s.1 ∧ (ns.getD n (0, 0)).2 / 2 ∈ s.1) : Ok ns (giveM (ns.getD n (0, 0)) n s) := by
  have e1 : (giveM (ns.getD n (0, 0)) n s).1 = s.1 ++ [n] := rfl
  have e2 : (giveM (ns.getD n (0, 0)) n s).2 = if ns.getD n (0, 0) = (0, 0) then s.2 else s.2 ++ [cl1 (s.1 ++ [n]) (ns.getD n (0, 0)) n, cl2 (s.1 ++ [n]) (ns.getD n (0, 0)) n, cl3 (s.1 ++ [n]) (ns.getD n (0, 0)) n] := by
    simp only [giveM, cl1, cl2, cl3, varOf_last hn, List.length_append, List.length_singleton, Int.natCast_add, Int.natCast_one]
  have sub : ∀ c ∈ s.2, c ∈ (giveM (ns.getD n (0, 0)) n s).2 := by
    intro c hc; rw [e2]; split
    · exact hc
    · simp [hc]
  refine ⟨by rw [e1]; simp [h.z], by rw [e1, varOf_append h.z, h.v0], ?_, sub _ h.one, ?_, ?_, ?_⟩
  · rw [e1, List.nodup_append]
    exact ⟨h.nd, by simp, by intro a ha b hb e; simp at hb; subst hb; subst e; exact hn ha⟩
  · intro m hm hp
    rw [e1, List.mem_append, List.mem_singleton] at hm
    rw [e1]
    rcases hm with hm | rfl
    · have := h.kid m hm hp; exact ⟨List.mem_append_left _ this.1, List.mem_append_left _ this.2⟩
    · have := hk hp; exact ⟨List.mem_append_left _ this.1, List.mem_append_left _ this.2⟩
  · intro m hm hp
    rw [e1, List.mem_append, List.mem_singleton] at hm
    rw [e1]
    rcases hm with hm | rfl
    · have k := h.kid m hm hp
      obtain ⟨c1, c2, c3⟩ := cl_app (t := [n]) hm k.1 k.2
      have := h.tri m hm hp
      rw [c1, c2, c3]
      exact ⟨sub _ this.1, sub _ this.2.1, sub _ this.2.2⟩
    · rw [e2, if_neg hp]
      simp
  · intro c hc
    rw [e1]
    have old : c ∈ s.2 → c = [-1] ∨ ∃ m ∈ s.1 ++ [n], ns.getD m (0, 0) ≠ (0, 0) ∧ (c = cl1 (s.1 ++ [n]) (ns.getD m (0, 0)) m ∨ c = cl2 (s.1 ++ [n]) (ns.getD m (0, 0)) m ∨ c = cl3 (s.1 ++ [n]) (ns.getD m (0, 0)) m) := by
      intro hc
      rcases h.only c hc with h' | ⟨m, hm, hp, h'⟩
      · exact .inl h'
      · have k := h.kid m hm hp
        obtain ⟨c1, c2, c3⟩ := cl_app (t := [n]) hm k.1 k.2
        exact .inr ⟨m, by simp [hm], hp, by rw [c1, c2, c3]; exact h'⟩
    rw [e2] at hc
    split at hc
    · exact old hc
    · rename_i hp
      rw [List.mem_append] at hc
      rcases hc with hc | hc
      · exact old hc
      · exact .inr ⟨n, by simp, hp, by simpa using hc⟩
theorem Ok.need {ns : List Pr} (hd : Dn ns) : ∀ (n : Nat) (s : MS), Ok ns s → Ok ns (needM ns n s) := by
  intro n
  induction n using Nat.strongRecOn with
  | _ n ih =>
    intro s h
    by_cases hn : n ∈ s.1
    · rw [needM_named hn]; exact h
    · by_cases hp : ns.getD n (0, 0) = (0, 0)
      · rw [needM_leaf hn hp]
        have := h.give hn (fun e => absurd hp e)
        rwa [hp] at this
      · have hk := hd.kid n hp
        rw [needM_and hd hn hp]
        refine (ih _ hk.2 _ (ih _ hk.1 _ h)).give ?_ (fun _ => ⟨needM_keep hd (needM_self hd), needM_self hd⟩)
        intro e
        rcases needM_mem hd e with e | e
        · rcases needM_mem hd e with e | e
          · exact hn e
          · omega
        · omega

/-- Values of the variables, by those of the nodes. -/
structure RepV (L : List Nat) (f : Nat → Bool) (val : List Bool) : Prop where
  len : val.length = L.length
  at' : ∀ (i : Nat) (h : i < L.length), bt val i = f L[i]
section
variable {L : List Nat} {f : Nat → Bool} {val : List Bool}
theorem RepV.var (h : RepV L f val) (hL : L.length ≤ 100000) {n : Nat} (hn : n ∈ L) : holds1 val (varOf L n) = f n ∧ holds1 val (-varOf L n) = !f n := by
  have hi := List.idxOf_lt_length_of_mem hn
  have hv : varOf L n = (L.idxOf n : Int) + 1 := if_pos hn
  have hb : bt val (L.idxOf n) = f n := by rw [h.at' _ hi, List.getElem_idxOf]
  have hlen := h.len
  have a1 : ((L.idxOf n : Int) + 1).natAbs = L.idxOf n + 1 := by omega
  have a2 : (-((L.idxOf n : Int) + 1)).natAbs = L.idxOf n + 1 := by omega
  have l1 : litOk ((L.idxOf n : Int) + 1) = true := by unfold litOk; rw [decide_eq_true_eq]; omega
  have l2 : litOk (-((L.idxOf n : Int) + 1)) = true := by unfold litOk; rw [decide_eq_true_eq]; omega
  have p1 : decide (0 < (L.idxOf n : Int) + 1) = true := by rw [decide_eq_true_eq]; omega
  have p2 : decide (0 < -((L.idxOf n : Int) + 1)) = false := by rw [decide_eq_false_iff_not]; omega
  have p3 : decide (L.idxOf n + 1 ≤ val.length) = true := by rw [decide_eq_true_eq]; omega
  rw [hv]
  unfold holds1
  rw [a1, a2, l1, l2, p1, p2, p3, Nat.add_sub_cancel, hb]
  cases f n <;> simp
theorem RepV.lit (h : RepV L f val) (hL : L.length ≤ 100000) {e : Nat} (he : e / 2 ∈ L) : holds1 val (litM L e) = eV f e ∧ holds1 val (-litM L e) = !eV f e := by
  have hv := h.var hL he
  unfold litM eV
  by_cases ho : e % 2 = 1
  · rw [if_pos ho, decide_eq_true ho, Int.neg_neg, hv.1, hv.2]
    cases f (e / 2) <;> simp
  · rw [if_neg ho, decide_eq_false ho, hv.1, hv.2]
    cases f (e / 2) <;> simp
theorem RepV.flip (h : RepV L f val) (hd : L.Nodup) {i : Nat} (hi : i < L.length) : RepV L (fun m => if m = L[i] then !f m else f m) (val.set i (!bt val i)) := by
  refine ⟨by rw [List.length_set, h.len], fun j hj => ?_⟩
  by_cases hij : j = i
  · subst hij
    rw [bt_set_eq (by rw [h.len]; exact hj), h.at' j hj]; simp
  · rw [bt_set_ne (Ne.symm hij), h.at' j hj]
    have : ¬ L[j] = L[i] := fun e => hij ((List.getElem_inj hd).1 e)
    simp [this]
end
section
variable {ns : List Pr} {s : MS} {f : Nat → Bool} {val : List Bool}
theorem all_hold (h : Ok ns s) (hL : s.1.length ≤ 100000) (hr : RepV s.1 f val) (h0 : f 0 = false) (hf : ∀ n ∈ s.1, ns.getD n (0, 0) ≠ (0, 0) → f n = (eV f (ns.getD n (0, 0)).1 && eV f (ns.getD n (0, 0)).2)) : allM val s.2 = true := by
  unfold allM
  rw [List.all_eq_true]
  intro c hc
  unfold holdsM
  rcases h.only c hc with rfl | ⟨n, hn, hp, hc⟩
  · have := (hr.var hL h.z).2
    rw [h.v0, h0] at this
    simp [this]
  · have k := h.kid n hn hp
    have v := hr.var hL hn
    have a := hr.lit hL k.1
    have b := hr.lit hL k.2
    have e := hf n hn hp
    rcases hc with rfl | rfl | rfl
    · simp only [cl1, List.any_cons, List.any_nil, v.2, a.1, e]
      cases eV f (ns.getD n (0, 0)).1 <;> simp
    · simp only [cl2, List.any_cons, List.any_nil, v.2, b.1, e]
      cases eV f (ns.getD n (0, 0)).2 <;> simp
    · simp only [cl3, List.any_cons, List.any_nil, v.1, a.2, b.2, e]
      cases eV f (ns.getD n (0, 0)).1 <;> cases eV f (ns.getD n (0, 0)).2 <;> simp
theorem one_fails (hd : Dn ns) (h : Ok ns s) (hL : s.1.length ≤ 100000) (hr : RepV s.1 f val) {i : Nat} (hi : i < s.1.length) (hw : ns.getD s.1[i] (0, 0) ≠ (0, 0) ∨ (s.1[i] = 0 ∧ f 0 = false))
    (hf : ∀ n ∈ s.1, ns.getD n (0, 0) ≠ (0, 0) → f n = (eV f (ns.getD n (0, 0)).1 && eV f (ns.getD n (0, 0)).2)) : allM (val.set i (!bt val i)) s.2 = false := by
  have hr' := hr.flip h.nd hi
  have hm : s.1[i] ∈ s.1 := List.getElem_mem hi
  generalize s.1[i] = n at hr' hw hm
  rcases hw with hp | ⟨rfl, h0⟩
  · have k := h.kid n hm hp
    have t := h.tri n hm hp
    have v := hr'.var hL hm
    have a := hr'.lit hL k.1
    have b := hr'.lit hL k.2
    have e := hf n hm hp
    have kd := hd.kid n hp
    have ea : ∀ x, x / 2 < n → eV (fun m => if m = n then !f m else f m) x = eV f x := by
      intro x hx
      unfold eV
      simp only
      rw [if_neg (by omega)]
    rw [ea _ kd.1] at a
    rw [ea _ kd.2] at b
    simp only [if_true] at v
    unfold allM
    rw [List.all_eq_false]
    cases h1 : eV f (ns.getD n (0, 0)).1
    · refine ⟨_, t.1, ?_⟩
      rw [h1] at e a
      simp only [Bool.false_and] at e
      simp only [holdsM, cl1, List.any_cons, List.any_nil, v.2, a.1, e]
      simp
    · cases h2 : eV f (ns.getD n (0, 0)).2
      · refine ⟨_, t.2.1, ?_⟩
        rw [h2] at e b
        simp only [Bool.and_false] at e
        simp only [holdsM, cl2, List.any_cons, List.any_nil, v.2, b.1, e]
        simp
      · refine ⟨_, t.2.2, ?_⟩
        rw [h1, h2] at e
        rw [h1] at a
        rw [h2] at b
        simp only [Bool.and_true] at e
        simp only [holdsM, cl3, List.any_cons, List.any_nil, v.1, a.2, b.2, e]
        simp
  · have v := hr'.var hL hm
    simp only [if_true, h0] at v
    unfold allM
    rw [List.all_eq_false]
    refine ⟨_, h.one, ?_⟩
    have := v.2
    rw [h.v0] at this
    simp [holdsM, this]
end
end Go.Proofs.Ytplcehlonfhooaa
