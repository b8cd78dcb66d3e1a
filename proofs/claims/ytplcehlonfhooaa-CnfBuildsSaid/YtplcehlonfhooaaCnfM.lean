/- Which nodes have variables, and the clauses: the plain model. -/
import Derived.Test.YtplcehlonfhooaaCnfI
namespace Go.Proofs.Ytplcehlonfhooaa
open Go.HL
set_option linter.unusedSimpArgs false

/-- The entries of the map of variables. -/
def kvs (L : List Nat) : List (Int × Int) := L.zipIdx.map fun x => ((x.1 : Int), (x.2 : Int) + 1)
/-- A node's variable; 0: it has none. -/
def varOf (L : List Nat) (n : Nat) : Int := if n ∈ L then (L.idxOf n : Int) + 1 else 0
theorem find_kvs {n : Nat} : ∀ (L : List Nat) (k : Nat), ((L.zipIdx k).map fun x => ((x.1 : Int), (x.2 : Int) + 1)).find? (fun x => x.1 == (n : Int)) = if n ∈ L then some ((n : Int), ((k + L.idxOf n : Nat) : Int) + 1) else none := by
  intro L
  induction L with
  | nil => intro k; simp
  | cons a L ih =>
    intro k
    rw [List.zipIdx_cons, List.map_cons, List.find?_cons]
    by_cases h : a = n
    · subst h; simp
    · have h1 : (((a : Int)) == (n : Int)) = false := by simp; omega
      simp only [h1]
      rw [ih (k + 1)]
      have h2 : ¬ n = a := fun e => h e.symm
      by_cases hm : n ∈ L
      · rw [if_pos hm, if_pos (by simp [hm]), List.idxOf_cons]
        have h3 : (a == n) = false := by simp [h]
        simp only [h3, cond_false]
        congr 2
        omega
      · rw [if_neg hm, if_neg (by simp [hm, h2])]
theorem mget_kvs {L : List Nat} {n : Nat} : mget (kvs L) (n : Int) = if n ∈ L then some (varOf L n) else none := by
  unfold mget kvs
  rw [find_kvs L 0]
  by_cases h : n ∈ L
  · rw [if_pos h, if_pos h]; simp [varOf, h]
  · rw [if_neg h, if_neg h]; rfl
theorem kvs_append {L : List Nat} {n : Nat} : kvs (L ++ [n]) = kvs L ++ [((n : Int), (L.length : Int) + 1)] := by
  simp [kvs, List.zipIdx_append]
theorem kvs_len {L : List Nat} : (kvs L).length = L.length := by simp [kvs]
theorem varOf_none {L : List Nat} {n : Nat} (h : n ∉ L) : varOf L n = 0 := if_neg h
theorem varOf_pos {L : List Nat} {n : Nat} (h : n ∈ L) : 1 ≤ varOf L n ∧ varOf L n ≤ L.length := by
  unfold varOf
  rw [if_pos h]
  have := List.idxOf_lt_length_of_mem h
  omega
theorem varOf_append {L t : List Nat} {n : Nat} (h : n ∈ L) : varOf (L ++ t) n = varOf L n := by
  unfold varOf
  rw [if_pos h, if_pos (by simp [h]), List.idxOf_append, if_pos h]
theorem varOf_last {L : List Nat} {n : Nat} (h : n ∉ L) : varOf (L ++ [n]) n = L.length + 1 := by
  unfold varOf
  rw [if_pos (by simp), List.idxOf_append, if_neg h]
  simp
/-- An edge's literal. -/
def litM (L : List Nat) (e : Nat) : Int := if e % 2 = 1 then - varOf L (e / 2) else varOf L (e / 2)

abbrev MS := List Nat × List (List Int)
/-- A node gets a variable, and its clauses. -/
def giveM (p : Pr) (n : Nat) (s : MS) : MS :=
  let L := s.1 ++ [n]
  (L, if p = (0, 0) then s.2 else s.2 ++ [[-((L.length : Nat) : Int), litM L p.1], [-((L.length : Nat) : Int), litM L p.2], [((L.length : Nat) : Int), - litM L p.1, - litM L p.2]])
def needF (ns : List Pr) : Nat → Nat → MS → MS
  | 0, _, s => s
  | f + 1, n, s => if n ∈ s.1 then s else
      let p := ns.getD n (0, 0)
      if p = (0, 0) then giveM p n s else giveM p n (needF ns f (p.2 / 2) (needF ns f (p.1 / 2) s))
def needM (ns : List Pr) (n : Nat) (s : MS) : MS := needF ns (n + 1) n s
/-- All nodes' ands are of lesser ones. -/
def Dn (ns : List Pr) : Prop := ∀ (i : Nat) p, ns[i]? = some p → p = (0, 0) ∨ (p ≠ (0, 0) ∧ p.1 < 2 * i ∧ p.2 < 2 * i)
theorem Dn.kid {ns : List Pr} (h : Dn ns) (n : Nat) : ns.getD n (0, 0) ≠ (0, 0) → (ns.getD n (0, 0)).1 / 2 < n ∧ (ns.getD n (0, 0)).2 / 2 < n := by
  intro hne
  rw [List.getD_eq_getElem?_getD] at hne ⊢
  cases hp : ns[n]? with
  | none => rw [hp] at hne; simp at hne
  | some p =>
    rw [hp] at hne
    rcases h n p hp with rfl | ⟨_, h1, h2⟩
    · simp at hne
    · simp; omega
theorem needF_fuel {ns : List Pr} (h : Dn ns) : ∀ (f f' n : Nat) (s : MS), n < f → n < f' → needF ns f n s = needF ns f' n s := by
  intro f
  induction f with
  | zero => intro f' n s h1; omega
  | succ f ih =>
    intro f' n s h1 h2
    cases f' with
    | zero => omega
    | succ f' =>
      simp only [needF]
      split
      · rfl
      · split
        · rfl
        · rename_i hne
          have hk := h.kid n hne
          rw [ih f' _ s (by omega) (by omega), ih f' _ _ (by omega) (by omega)]
theorem needM_named {ns : List Pr} {n : Nat} {s : MS} (h : n ∈ s.1) : needM ns n s = s := by
  unfold needM needF; rw [if_pos h]
theorem needM_leaf {ns : List Pr} {n : Nat} {s : MS} (h : n ∉ s.1) (hp : ns.getD n (0, 0) = (0, 0)) : needM ns n s = giveM (0, 0) n s := by
  unfold needM needF; rw [if_neg h]; simp only [hp, if_true]
theorem needM_and {ns : List Pr} (hd : Dn ns) {n : Nat} {s : MS} (h : n ∉ s.1) (hp : ns.getD n (0, 0) ≠ (0, 0)) :
    needM ns n s = giveM (ns.getD n (0, 0)) n (needM ns ((ns.getD n (0, 0)).2 / 2) (needM ns ((ns.getD n (0, 0)).1 / 2) s)) := by
  have hk := hd.kid n hp
  conv => lhs; unfold needM needF
  rw [if_neg h]
  simp only [if_neg hp]
  unfold needM
  rw [needF_fuel hd n ((ns.getD n (0, 0)).1 / 2 + 1) _ s (by omega) (by omega), needF_fuel hd n ((ns.getD n (0, 0)).2 / 2 + 1) _ _ (by omega) (by omega)]
/-- What it does to the list of nodes. -/
theorem needM_list {ns : List Pr} (hd : Dn ns) : ∀ (n : Nat) (s : MS), ∃ t, (needM ns n s).1 = s.1 ++ t ∧ n ∈ (needM ns n s).1 ∧ (∀ x ∈ t, x ≤ n) ∧ (s.1.Nodup → (needM ns n s).1.Nodup) ∧ ∃ k, k ≤ t.length ∧ (needM ns n s).2.length = s.2.length + 3 * k := by
  intro n
  induction n using Nat.strongRecOn with
  | _ n ih =>
    intro s
    by_cases h : n ∈ s.1
    · rw [needM_named h]; exact ⟨[], by simp, h, by simp, id, 0, by simp, by simp⟩
    · by_cases hp : ns.getD n (0, 0) = (0, 0)
      · rw [needM_leaf h hp]
        refine ⟨[n], rfl, by simp [giveM], by simp, fun hn => ?_, 0, by simp, by simp [giveM]⟩
        simp only [giveM]
        rw [List.nodup_append]
        exact ⟨hn, by simp, by intro a ha b hb e; simp at hb; subst hb; subst e; exact h ha⟩
      · rw [needM_and hd h hp]
        have hk := hd.kid n hp
        obtain ⟨t1, a1, b1, c1, d1, k1, j1, e1⟩ := ih _ hk.1 s
        obtain ⟨t2, a2, b2, c2, d2, k2, j2, e2⟩ := ih _ hk.2 (needM ns ((ns.getD n (0, 0)).1 / 2) s)
        have hl : (needM ns ((ns.getD n (0, 0)).2 / 2) (needM ns ((ns.getD n (0, 0)).1 / 2) s)).1 = s.1 ++ (t1 ++ t2) := by rw [a2, a1, List.append_assoc]
        refine ⟨t1 ++ t2 ++ [n], by simp only [giveM]; rw [hl]; simp, by simp [giveM], ?_, fun hn => ?_, k1 + k2 + 1, by simp; omega, ?_⟩
        · intro x hx
          simp only [List.mem_append, List.mem_singleton] at hx
          rcases hx with (hx | hx) | hx
          · have := c1 x hx; omega
          · have := c2 x hx; omega
          · omega
        · simp only [giveM]
          rw [List.nodup_append]
          refine ⟨d2 (d1 hn), by simp, ?_⟩
          intro a ha b hb e
          simp at hb; subst hb; subst e
          rw [hl] at ha
          simp only [List.mem_append] at ha
          rcases ha with ha | ha | ha
          · exact h ha
          · have := c1 a ha; omega
          · have := c2 a ha; omega
        · simp only [giveM, if_neg hp, List.length_append, e2, e1]
          simp; omega
theorem needM_mem {ns : List Pr} (hd : Dn ns) {n x : Nat} {s : MS} (h : x ∈ (needM ns n s).1) : x ∈ s.1 ∨ x ≤ n := by
  obtain ⟨t, a, b, c, d⟩ := needM_list hd n s
  rw [a, List.mem_append] at h
  exact h.imp id (c x)
theorem needM_keep {ns : List Pr} (hd : Dn ns) {n x : Nat} {s : MS} (h : x ∈ s.1) : x ∈ (needM ns n s).1 := by
  obtain ⟨t, a, b, c, d⟩ := needM_list hd n s
  rw [a]; simp [h]
theorem needM_self {ns : List Pr} (hd : Dn ns) {n : Nat} {s : MS} : n ∈ (needM ns n s).1 := by
  obtain ⟨t, a, b, c, d⟩ := needM_list hd n s
  exact b
theorem needM_idem {ns : List Pr} (hd : Dn ns) {n : Nat} {s : MS} : needM ns n (needM ns n s) = needM ns n s := needM_named (needM_self hd)
/-- A kid first. -/
theorem needM_kid1 {ns : List Pr} (hd : Dn ns) {n : Nat} {s : MS} (h : n ∉ s.1) (hp : ns.getD n (0, 0) ≠ (0, 0)) : needM ns n (needM ns ((ns.getD n (0, 0)).1 / 2) s) = needM ns n s := by
  have hk := hd.kid n hp
  have h' : n ∉ (needM ns ((ns.getD n (0, 0)).1 / 2) s).1 := fun e => (needM_mem hd e).elim h (fun e => by omega)
  rw [needM_and hd h' hp, needM_and hd h hp, needM_idem hd]
theorem needM_kid2 {ns : List Pr} (hd : Dn ns) {n : Nat} {s : MS} (h : n ∉ s.1) (hp : ns.getD n (0, 0) ≠ (0, 0)) (h1 : (ns.getD n (0, 0)).1 / 2 ∈ s.1) : needM ns n (needM ns ((ns.getD n (0, 0)).2 / 2) s) = needM ns n s := by
  have hk := hd.kid n hp
  have h' : n ∉ (needM ns ((ns.getD n (0, 0)).2 / 2) s).1 := fun e => (needM_mem hd e).elim h (fun e => by omega)
  rw [needM_and hd h' hp, needM_and hd h hp, needM_named (n := (ns.getD n (0, 0)).1 / 2) (needM_keep hd h1), needM_named h1, needM_idem hd]

/-- A stack, the top first: what is left to be done. -/
def finM (ns : List Pr) : List Nat → MS → MS
  | [], s => s
  | n :: r, s => finM ns r (needM ns n s)
def Stk (N : Nat) : List Nat → Prop
  | [] => True
  | [x] => x < N
  | x :: y :: r => x < y ∧ Stk N (y :: r)
theorem Stk.len {N : Nat} : ∀ {st : List Nat} {x : Nat}, Stk N (x :: st) → (x :: st).length + x ≤ N := by
  intro st
  induction st with
  | nil => intro x h; simp only [Stk] at h; simp; omega
  | cons y st ih =>
    intro x h
    obtain ⟨h1, h2⟩ := h
    have := ih h2
    simp at this ⊢; omega
theorem Stk.tail {N x : Nat} {st : List Nat} (h : Stk N (x :: st)) : Stk N st := by
  cases st with
  | nil => trivial
  | cons y st => exact h.2
theorem Stk.gt {N : Nat} : ∀ {st : List Nat} {x : Nat}, Stk N (x :: st) → ∀ y ∈ st, x < y := by
  intro st
  induction st with
  | nil => intro x _ y hy; simp at hy
  | cons z st ih =>
    intro x h y hy
    obtain ⟨h1, h2⟩ := h
    rcases List.mem_cons.1 hy with rfl | hy
    · exact h1
    · have := ih h2 y hy; omega
def unn (N : Nat) (L : List Nat) : Nat := (List.range N).countP (fun k => decide (k ∉ L))
theorem unn_lt {N n : Nat} {L : List Nat} (hn : n < N) (h : n ∉ L) : unn N (L ++ [n]) < unn N L :=
  countP_lt (i := n) (by simpa using h) (by simp) (fun k hk => by simp at hk ⊢; exact hk.1) (by simpa using hn)
def meas (N : Nat) (st L : List Nat) : Nat := if st = [] then 0 else unn N L * (N + 2) + (N + 1 - st.length)
theorem meas_push {N a t : Nat} {st L : List Nat} (h : Stk N (a :: t :: st)) : meas N (a :: t :: st) L < meas N (t :: st) L := by
  have := h.len
  unfold meas
  simp at this ⊢
  omega
theorem meas_pop {N t : Nat} {st L : List Nat} (h : Stk N (t :: st)) (ht : t < N) (hn : t ∉ L) : meas N st (L ++ [t]) < meas N (t :: st) L := by
  have h1 := unn_lt ht hn
  have h2 := h.len
  have h3 : (unn N (L ++ [t]) + 1) * (N + 2) ≤ unn N L * (N + 2) := Nat.mul_le_mul_right _ h1
  rw [Nat.add_mul] at h3
  unfold meas
  simp at h2 ⊢
  split <;> omega
end Go.Proofs.Ytplcehlonfhooaa
