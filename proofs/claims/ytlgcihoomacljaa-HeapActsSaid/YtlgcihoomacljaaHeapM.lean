/- Plain facts on a heap that is kept in two lists of numbers. -/
import Derived.Test.YtlgcihoomacljaaHLMem
namespace Go.Proofs.Ytlgcihoomacljaa.HM
open Go.HL

def up1 (f : Nat → Int) (i : Nat) (v : Int) : Nat → Int := fun j => if j = i then v else f j
theorem nt_set {xs : List Int} {i : Nat} {v : Int} (h : i < xs.length) : nt (xs.set i v) = up1 (nt xs) i v := by
  funext j
  unfold up1
  split
  · rename_i e; subst e; exact nt_set_eq h
  · rename_i e; exact nt_set_ne (Ne.symm e)
def par (i : Nat) : Nat := (i - 1) / 2
/-- a is taken before b. -/
def bf (A : Nat → Int) (a b : Int) : Prop := A b.toNat < A a.toNat ∨ A a.toNat = A b.toNat ∧ a < b
instance {A : Nat → Int} {a b : Int} : Decidable (bf A a b) := by unfold bf; infer_instance
theorem bf_trans {A : Nat → Int} {a b c : Int} (h : ¬ bf A a b) (h' : ¬ bf A b c) : ¬ bf A a c := by unfold bf at *; omega
theorem bf_asym {A : Nat → Int} {a b : Int} (h : bf A a b) : ¬ bf A b a := by unfold bf at *; omega
theorem bf_lt {A : Nat → Int} {a b c : Int} (h : bf A a b) (h' : ¬ bf A c b) : ¬ bf A c a := by unfold bf at *; omega
theorem bf_irr {A : Nat → Int} {a : Int} : ¬ bf A a a := by unfold bf; omega

/-- The two lists fit: O has m variables out of 1 .. n, and L tells where they are. -/
structure Ok (n m : Nat) (O L : Nat → Int) : Prop where
  le : m ≤ n
  rng : ∀ i, i < m → 1 ≤ O i ∧ O i ≤ n ∧ L (O i).toNat = i
  pos : ∀ v : Nat, 1 ≤ v → v ≤ n → L v = -1 ∨ (0 ≤ L v ∧ L v < m ∧ O (L v).toNat = v)
  zero : L 0 = -1

def swp (O : Nat → Int) (i p : Nat) : Nat → Int := fun j => if j = p then O i else if j = i then O p else O j
theorem Ok.swap {n m : Nat} {O L : Nat → Int} (h : Ok n m O L) {i p : Nat} (hi : i < m) (hp : p < m) (hne : i ≠ p) :
    Ok n m (swp O i p) (up1 (up1 L (O p).toNat i) (O i).toNat p) := by
  have ri := h.rng i hi
  have rp := h.rng p hp
  have hd : (O i).toNat ≠ (O p).toNat := by
    intro e
    have : ((i : Int)) = p := by rw [← ri.2.2, ← rp.2.2, e]
    omega
  refine ⟨h.le, ?_, ?_, ?_⟩
  · intro j hj
    unfold swp up1
    by_cases e1 : j = p
    · subst e1; simp; omega
    · by_cases e2 : j = i
      · subst e2
        simp only [e1, if_false, if_true]
        refine ⟨rp.1, rp.2.1, ?_⟩
        rw [if_neg (Ne.symm hd)]
      · have rj := h.rng j hj
        simp only [e1, e2, if_false]
        have d1 : (O j).toNat ≠ (O i).toNat := by
          intro e; have : ((j : Int)) = i := by rw [← rj.2.2, ← ri.2.2, e]
          omega
        have d2 : (O j).toNat ≠ (O p).toNat := by
          intro e; have : ((j : Int)) = p := by rw [← rj.2.2, ← rp.2.2, e]
          omega
        rw [if_neg d1, if_neg d2]
        exact rj
  · intro v h1 h2
    unfold up1
    by_cases e1 : v = (O i).toNat
    · subst e1
      right
      simp only [if_true]
      refine ⟨by omega, by omega, ?_⟩
      unfold swp
      simp
      omega
    · by_cases e2 : v = (O p).toNat
      · subst e2
        right
        rw [if_neg e1, if_pos rfl]
        refine ⟨by omega, by omega, ?_⟩
        unfold swp
        have : ¬ ((i : Int)).toNat = p := by omega
        rw [if_neg this]
        simp
        omega
      · rw [if_neg e1, if_neg e2]
        rcases h.pos v h1 h2 with h3 | ⟨h3, h4, h5⟩
        · exact .inl h3
        · right
          refine ⟨h3, h4, ?_⟩
          unfold swp
          have d1 : (L v).toNat ≠ p := by rintro e; rw [e] at h5; omega
          have d2 : (L v).toNat ≠ i := by rintro e; rw [e] at h5; omega
          rw [if_neg d1, if_neg d2]
          exact h5
  · unfold up1
    rw [if_neg (by omega), if_neg (by omega)]
    exact h.zero

def OrdAll (A : Nat → Int) (m : Nat) (O : Nat → Int) : Prop := ∀ j, 0 < j → j < m → ¬ bf A (O j) (O (par j))
structure UpInv (A : Nat → Int) (m : Nat) (O : Nat → Int) (i : Nat) : Prop where
  ord : ∀ j, 0 < j → j < m → j ≠ i → ¬ bf A (O j) (O (par j))
  kid : 0 < i → ∀ c, 0 < c → c < m → par c = i → ¬ bf A (O c) (O (par i))
theorem UpInv.step {A : Nat → Int} {m : Nat} {O : Nat → Int} {i : Nat} (h : UpInv A m O i) (h0 : 0 < i) (hm : i < m) (hb : bf A (O i) (O (par i))) : UpInv A m (swp O i (par i)) (par i) := by
  have hpi : par i < i := by unfold par; omega
  constructor
  · intro j hj hjm hne
    unfold swp
    rw [if_neg hne]
    by_cases hji : j = i
    · subst hji
      simp only [if_true]
      exact bf_asym hb
    · rw [if_neg hji]
      by_cases e1 : par j = par i
      · rw [if_pos e1]
        have := h.ord j hj hjm hji
        rw [e1] at this
        exact bf_lt hb this
      · rw [if_neg e1]
        by_cases e2 : par j = i
        · rw [if_pos e2]
          exact h.kid h0 j hj hjm e2
        · rw [if_neg e2]
          exact h.ord j hj hjm hji
  · intro hp c hc hcm hpc
    unfold swp
    have hpp : par (par i) < par i := by unfold par at hp ⊢; omega
    have d1 : ¬ par (par i) = par i := by omega
    have d2 : ¬ par (par i) = i := by omega
    rw [if_neg d1, if_neg d2]
    have d3 : ¬ c = par i := by intro e; rw [e] at hpc; omega
    rw [if_neg d3]
    have hpi' := h.ord (par i) hp (by omega) (by omega)
    by_cases hci : c = i
    · rw [if_pos hci]; exact hpi'
    · rw [if_neg hci]
      have := h.ord c hc hcm hci
      rw [hpc] at this
      exact bf_trans this hpi'
theorem UpInv.done {A : Nat → Int} {m : Nat} {O : Nat → Int} {i : Nat} (h : UpInv A m O i) (he : i = 0 ∨ ¬ bf A (O i) (O (par i))) : OrdAll A m O := by
  intro j hj hjm
  by_cases hji : j = i
  · subst hji
    rcases he with he | he
    · omega
    · exact he
  · exact h.ord j hj hjm hji

structure DnInv (A : Nat → Int) (m : Nat) (O : Nat → Int) (lo k : Nat) : Prop where
  ord : ∀ j, 0 < j → j < m → lo ≤ par j → par j ≠ k → ¬ bf A (O j) (O (par j))
  kid : lo ≠ k → 0 < k ∧ lo ≤ par k ∧ ∀ c, 0 < c → c < m → par c = k → ¬ bf A (O c) (O (par k))
theorem DnInv.step {A : Nat → Int} {m : Nat} {O : Nat → Int} {lo k c : Nat} (h : DnInv A m O lo k) (hlk : lo ≤ k) (hk : k < m) (hc : c < m) (hc0 : 0 < c) (hpc : par c = k)
    (hbest : ∀ c', 0 < c' → c' < m → par c' = k → ¬ bf A (O c') (O c)) (hb : bf A (O c) (O k)) : DnInv A m (swp O k c) lo c := by
  have hkc : k < c := by unfold par at hpc; omega
  constructor
  · intro j hj hjm hlo hne
    unfold swp
    rw [if_neg hne]
    by_cases hjc : j = c
    · subst hjc
      rw [if_pos rfl, if_pos hpc]
      exact bf_asym hb
    · rw [if_neg hjc]
      by_cases hjk : j = k
      · subst hjk
        rw [if_pos rfl]
        have hpk : par j ≠ j := by unfold par; omega
        rw [if_neg hpk]
        have hlk' : lo ≠ j := by
          intro e; subst e
          unfold par at hlo; omega
        obtain ⟨_, _, h3⟩ := h.kid hlk'
        exact h3 c hc0 hc hpc
      · rw [if_neg hjk]
        by_cases e : par j = k
        · rw [if_pos e]
          exact hbest j hj hjm e
        · rw [if_neg e]
          exact h.ord j hj hjm hlo e
  · intro _
    refine ⟨hc0, by omega, ?_⟩
    intro g hg hgm hpg
    unfold swp
    have d1 : g ≠ c := by intro e; subst e; unfold par at hpg; omega
    have d2 : g ≠ k := by intro e; subst e; unfold par at hpg hpc; omega
    rw [if_neg d1, if_neg d2]
    have d3 : ¬ par c = c := by omega
    rw [if_neg d3, if_pos hpc]
    have := h.ord g hg hgm (by omega) (by omega)
    rwa [hpg] at this
theorem DnInv.done {A : Nat → Int} {m : Nat} {O : Nat → Int} {lo k : Nat} (h : DnInv A m O lo k) (he : ∀ c, 0 < c → c < m → par c = k → ¬ bf A (O c) (O k)) :
    ∀ j, 0 < j → j < m → lo ≤ par j → ¬ bf A (O j) (O (par j)) := by
  intro j hj hjm hlo
  by_cases e : par j = k
  · rw [e]; exact he j hj hjm e
  · exact h.ord j hj hjm hlo e
/-- The first one is before all others. -/
theorem OrdAll.top {A : Nat → Int} {m : Nat} {O : Nat → Int} (h : OrdAll A m O) : ∀ j, j < m → ¬ bf A (O j) (O 0) := by
  intro j
  induction j using Nat.strongRecOn with
  | _ j ih =>
    intro hj
    by_cases h0 : j = 0
    · subst h0; exact bf_irr
    · have hp : par j < j := by unfold par; omega
      exact bf_trans (h j (by omega) hj) (ih (par j) hp (by omega))

/-- The first one is taken out, the last one laid in its place. -/
theorem Ok.pop {n m : Nat} {O L : Nat → Int} (h : Ok n m O L) (h1 : 1 < m) : Ok n (m - 1) (up1 O 0 (O (m - 1))) (up1 (up1 L (O 0).toNat (-1)) (O (m - 1)).toNat 0) := by
  have r0 := h.rng 0 (by omega)
  have rl := h.rng (m - 1) (by omega)
  have hd : (O 0).toNat ≠ (O (m - 1)).toNat := by
    intro e
    have : ((0 : Nat) : Int) = ((m - 1 : Nat) : Int) := by rw [← r0.2.2, ← rl.2.2, e]
    omega
  refine ⟨by have := h.le; omega, ?_, ?_, ?_⟩
  · intro j hj
    unfold up1
    by_cases e : j = 0
    · subst e; simp; omega
    · have rj := h.rng j (by omega)
      rw [if_neg e]
      have d1 : (O j).toNat ≠ (O (m - 1)).toNat := by
        intro e; have : ((j : Nat) : Int) = ((m - 1 : Nat) : Int) := by rw [← rj.2.2, ← rl.2.2, e]
        omega
      have d2 : (O j).toNat ≠ (O 0).toNat := by
        intro e; have : ((j : Nat) : Int) = ((0 : Nat) : Int) := by rw [← rj.2.2, ← r0.2.2, e]
        omega
      rw [if_neg d1, if_neg d2]
      exact rj
  · intro v h1' h2'
    unfold up1
    by_cases e1 : v = (O (m - 1)).toNat
    · subst e1
      right
      simp
      omega
    · rw [if_neg e1]
      by_cases e2 : v = (O 0).toNat
      · rw [if_pos e2]; exact .inl rfl
      · rw [if_neg e2]
        rcases h.pos v h1' h2' with h3 | ⟨h3, h4, h5⟩
        · exact .inl h3
        · right
          have d0 : (L v).toNat ≠ 0 := by intro e; rw [e] at h5; omega
          have dl : (L v).toNat ≠ m - 1 := by intro e; rw [e] at h5; omega
          refine ⟨h3, by omega, ?_⟩
          rw [if_neg d0]; exact h5
  · unfold up1
    rw [if_neg (by omega), if_neg (by omega)]; exact h.zero
theorem Ok.pop1 {n : Nat} {O L : Nat → Int} (h : Ok n 1 O L) : Ok n 0 O (up1 L (O 0).toNat (-1)) := by
  have r0 := h.rng 0 (by omega)
  refine ⟨by omega, fun i hi => by omega, ?_, ?_⟩
  · intro v h1 h2
    left
    unfold up1
    split
    · rfl
    · rename_i e
      rcases h.pos v h1 h2 with h3 | ⟨h3, h4, h5⟩
      · exact h3
      · exfalso
        have : (L v).toNat = 0 := by omega
        rw [this] at h5
        omega
  · unfold up1; rw [if_neg (by omega)]; exact h.zero
theorem php : ∀ (n m : Nat) (f : Nat → Nat), (∀ i, i < m → f i < n) → (∀ i j, i < m → j < m → f i = f j → i = j) → m ≤ n := by
  intro n
  induction n with
  | zero => intro m f h _; cases m with | zero => omega | succ m => have := h 0 (by omega); omega
  | succ n ih =>
    intro m f h hi
    by_cases hx : ∃ i, i < m ∧ f i = n
    · obtain ⟨i0, hi0, hf0⟩ := hx
      have := ih (m - 1) (fun i => if i = i0 then f (m - 1) else f i) ?_ ?_
      · omega
      · intro i him
        show (if i = i0 then f (m - 1) else f i) < n
        split
        · rename_i e
          have h1 := h (m - 1) (by omega)
          have h2 : f (m - 1) ≠ n := fun e' => by have := hi (m - 1) i0 (by omega) hi0 (by omega); omega
          omega
        · rename_i e
          have h1 := h i (by omega)
          have h2 : f i ≠ n := fun e' => e (hi i i0 (by omega) hi0 (by omega))
          omega
      · intro i j him hjm e
        by_cases e1 : i = i0 <;> by_cases e2 : j = i0
        · omega
        · rw [if_pos e1, if_neg e2] at e; have := hi (m - 1) j (by omega) (by omega) e; omega
        · rw [if_neg e1, if_pos e2] at e; have := hi i (m - 1) (by omega) (by omega) e; omega
        · rw [if_neg e1, if_neg e2] at e; exact hi i j (by omega) (by omega) e
    · have := ih m f (fun i him => by have := h i him; have : f i ≠ n := fun e => hx ⟨i, him, e⟩; omega) hi
      omega
/-- There is room for one that is not there. -/
theorem Ok.room {n m : Nat} {O L : Nat → Int} (h : Ok n m O L) {v : Nat} (h1 : 1 ≤ v) (h2 : v ≤ n) (hv : L v = -1) : m < n := by
  have inj : ∀ i j, i < m → j < m → (O i).toNat = (O j).toNat → i = j := by
    intro i j hi hj e
    have : ((i : Nat) : Int) = j := by rw [← (h.rng i hi).2.2, ← (h.rng j hj).2.2, e]
    omega
  have := php (n - 1) m (fun i => if (O i).toNat = n then v - 1 else (O i).toNat - 1) ?_ ?_
  · omega
  · intro i hi
    have r := h.rng i hi
    have hne : (O i).toNat ≠ v := by intro e; rw [e] at r; omega
    show (if (O i).toNat = n then v - 1 else (O i).toNat - 1) < n - 1
    split <;> omega
  · intro i j hi hj e
    have ri := h.rng i hi
    have rj := h.rng j hj
    have hni : (O i).toNat ≠ v := by intro e; rw [e] at ri; omega
    have hnj : (O j).toNat ≠ v := by intro e; rw [e] at rj; omega
    apply inj i j hi hj
    split at e <;> split at e <;> omega
/-- One more at the end. -/
theorem Ok.add {n m : Nat} {O L : Nat → Int} (h : Ok n m O L) {v : Nat} (h1 : 1 ≤ v) (h2 : v ≤ n) (hv : L v = -1) : Ok n (m + 1) (up1 O m v) (up1 L v m) := by
  have hroom := h.room h1 h2 hv
  refine ⟨by omega, ?_, ?_, ?_⟩
  · intro j hj
    unfold up1
    by_cases e : j = m
    · subst e; simp; omega
    · have rj := h.rng j (by omega)
      rw [if_neg e]
      have d : (O j).toNat ≠ v := by intro e; rw [e] at rj; omega
      rw [if_neg d]
      exact rj
  · intro u h1' h2'
    unfold up1
    by_cases e : u = v
    · subst e; right; simp; omega
    · rw [if_neg e]
      rcases h.pos u h1' h2' with h3 | ⟨h3, h4, h5⟩
      · exact .inl h3
      · right
        have d : (L u).toNat ≠ m := by omega
        rw [if_neg d]
        exact ⟨h3, by omega, h5⟩
  · unfold up1; rw [if_neg (by omega)]; exact h.zero
theorem UpInv.last {A : Nat → Int} {m : Nat} {O : Nat → Int} {v : Int} (h : OrdAll A m O) : UpInv A (m + 1) (up1 O m v) m := by
  constructor
  · intro j hj hjm hne
    have hp : par j < j := by unfold par; omega
    unfold up1
    rw [if_neg hne, if_neg (by omega)]
    exact h j hj (by omega)
  · intro _ c hc hcm hpc
    unfold par at hpc; omega
/-- The activity of one grows: it may only have to go up. -/
theorem UpInv.bump {A A' : Nat → Int} {n m : Nat} {O L : Nat → Int} (hok : Ok n m O L) (h : OrdAll A m O) {i : Nat} (hi : i < m) (hs : ∀ u, u ≠ (O i).toNat → A' u = A u) (hg : A (O i).toNat ≤ A' (O i).toNat) : UpInv A' m O i := by
  have ne : ∀ j, j < m → j ≠ i → (O j).toNat ≠ (O i).toNat := by
    intro j hj hne e
    have : ((j : Nat) : Int) = i := by rw [← (hok.rng j hj).2.2, ← (hok.rng i hi).2.2, e]
    omega
  constructor
  · intro j hj hjm hji
    have hp : par j < j := by unfold par; omega
    have := h j hj hjm
    have e1 := hs _ (ne j hjm hji)
    by_cases hpi : par j = i
    · rw [hpi] at this ⊢
      unfold bf at this ⊢
      rw [e1]; omega
    · have e2 := hs _ (ne (par j) (by omega) hpi)
      unfold bf at this ⊢
      rw [e1, e2]; exact this
  · intro h0 c hc hcm hpc
    have hpc' : par i < i := by unfold par; omega
    have hci : i < c := by unfold par at hpc; omega
    have t1 := h c hc hcm
    rw [hpc] at t1
    have t2 := h i h0 hi
    have t := bf_trans t1 t2
    have e1 := hs _ (ne c hcm (by omega))
    have e2 := hs _ (ne (par i) (by omega) (by omega))
    unfold bf at t ⊢
    rw [e1, e2]; exact t
theorem OrdAll.bump_out {A A' : Nat → Int} {n m : Nat} {O L : Nat → Int} (hok : Ok n m O L) (h : OrdAll A m O) {v : Nat} (hv : L v = -1) (hs : ∀ u, u ≠ v → A' u = A u) : OrdAll A' m O := by
  have ne : ∀ j, j < m → (O j).toNat ≠ v := by
    intro j hj e
    have := (hok.rng j hj).2.2
    rw [e, hv] at this; omega
  intro j hj hjm
  have hp : par j < j := by unfold par; omega
  have := h j hj hjm
  unfold bf at this ⊢
  rw [hs _ (ne j hjm), hs _ (ne (par j) (by omega))]; exact this
end Go.Proofs.Ytlgcihoomacljaa.HM
