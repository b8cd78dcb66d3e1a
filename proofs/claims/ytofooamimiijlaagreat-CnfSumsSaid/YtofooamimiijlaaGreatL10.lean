/- Sums and comparisons of numbers of bits in a graph: plain facts. -/
import Derived.Test.YtofooamimiijlaaGreatL09
import Derived.Test.YtofooamimiijlaaGreatL07
namespace Go.Proofs.YtofooamimiijlaaGreat
open Go.HL
set_option maxRecDepth 10000
set_option linter.unusedSimpArgs false
set_option linter.unusedVariables false

/-- The graph's inputs are the nodes 1 .. k. -/
structure Base (ns : List Pr) (k : Nat) : Prop where
  z : ns[0]? = some (0, 0)
  inp : ∀ i, i < k → ns[i + 1]? = some (0, 0)
  only : ∀ n, ns[n]? = some (0, 0) → n ≤ k
theorem Base.pre {ns ns' : List Pr} {k j : Nat} (h : Base ns k) (hp : PreA ns ns' j) : Base ns' k := by
  refine ⟨hp.get h.z, fun i hi => hp.get (h.inp i hi), fun n hn => ?_⟩
  obtain ⟨t, rfl, ht, hq⟩ := hp
  rcases Nat.lt_or_ge n ns.length with hl | hl
  · rw [List.getElem?_append_left hl] at hn; exact h.only n hn
  · rw [List.getElem?_append_right hl] at hn
    have := hq _ (List.mem_of_getElem? hn)
    simp at this
def xI (i : Nat) : Nat := 2 * (i + 1)
def b01 (b : Bool) : Nat := if b then 1 else 0
def SumE (ns : List Pr) (k : Nat) (X C R : Nat → Nat) : Prop := ∃ car : Nat → Nat, car 0 = 0 ∧ ∀ i, i < k → ∃ one u v, XorE ns (X i) (C i) one ∧ XorE ns one (car i) (R i) ∧ AndE ns (X i) (C i) u ∧ AndE ns one (car i) v ∧ OrE ns u v (car (i + 1))
def SameE (ns : List Pr) (k : Nat) (P Q : Nat → Nat) (e : Nat) : Prop := ∃ ch : Nat → Nat, ch 0 = 1 ∧ ch k = e ∧ ∀ i, i < k → ∃ z, XorE ns (P i) (Q i) z ∧ AndE ns (ch i) (nx z) (ch (i + 1))
/-- The carries, and the number that is asked for. -/
def sv (b c : Nat → Bool) : Nat → Bool
  | 0 => false
  | i + 1 => (Bool.xor (Bool.xor (b i) (sv b c i)) (c i) && c i) || (Bool.xor (b i) (sv b c i) && sv b c i)
def xv (b c : Nat → Bool) (i : Nat) : Bool := Bool.xor (Bool.xor (b i) (sv b c i)) (c i)
section
variable {ns : List Pr} {k : Nat} {L : List Nat} {K : Nat → Prop} {b c : Nat → Bool} {R : Nat → Nat}
theorem Base.not_in (B : Base ns k) {n j a e : Nat} (h : ns[n]? = some (a, e) ∨ ns[n]? = some (e, a)) (ha : 2 ≤ a) (hj : j < k) : n ≠ j + 1 := fun e' => by
  rw [e', B.inp j hj] at h
  rcases h with h | h <;> simp only [Option.some.injEq, Prod.mk.injEq] at h <;> omega
/-- One place of a sum, with a known digit. -/
theorem sum_step {X : Nat → Nat} {C : Nat → Nat} {car : Nat → Nat} {i : Nat} (hC : C i = b01 (c i)) (h : ∃ one u v, XorE ns (X i) (C i) one ∧ XorE ns one (car i) (R i) ∧ AndE ns (X i) (C i) u ∧ AndE ns one (car i) v ∧ OrE ns u v (car (i + 1))) :
    (c i = false ∧ XorE ns (X i) (car i) (R i) ∧ AndE ns (X i) (car i) (car (i + 1))) ∨ (c i = true ∧ XorE ns (nx (X i)) (car i) (R i) ∧ ∃ v, AndE ns (nx (X i)) (car i) v ∧ OrE ns (X i) v (car (i + 1))) := by
  obtain ⟨one, u, v, h1, h2, h3, h4, h5⟩ := h
  unfold b01 at hC
  cases hc : c i with
  | false =>
    rw [hc, if_neg (by simp)] at hC
    rw [hC] at h1 h3
    rw [xor_zero h1] at h2 h4
    rw [and_zero h3] at h5
    exact .inl ⟨rfl, h2, by rw [zero_or h5]; exact h4⟩
  | true =>
    rw [hc, if_pos rfl] at hC
    rw [hC] at h1 h3
    rw [xor_one' h1] at h2 h4
    rw [and_one h3] at h5
    exact .inr ⟨rfl, h2, v, h4, h5⟩
theorem xI_two {i : Nat} : 2 ≤ xI i := by unfold xI; omega
theorem xI_div {i : Nat} : xI i / 2 = i + 1 := by unfold xI; omega
/-- The carries are nothing, or no inputs of later places. -/
theorem car_shape (B : Base ns k) {car C : Nat → Nat} (h0 : car 0 = 0) (hC : ∀ i, i < k → C i = b01 (c i)) (hs : ∀ i, i < k → ∃ one u v, XorE ns (xI i) (C i) one ∧ XorE ns one (car i) (R i) ∧ AndE ns (xI i) (C i) u ∧ AndE ns one (car i) v ∧ OrE ns u v (car (i + 1))) :
    ∀ i, i ≤ k → car i = 0 ∨ (2 ≤ car i ∧ ∀ j, i ≤ j → j < k → car i / 2 ≠ j + 1)
  | 0, _ => .inl h0
  | i + 1, hi => by
    have ih := car_shape B h0 hC hs i (by omega)
    rcases sum_step (hC i (by omega)) (hs i (by omega)) with ⟨hc, h1, h2⟩ | ⟨hc, h1, v, h2, h3⟩
    · rcases ih with e | ⟨g1, g2⟩
      · rw [e] at h2; exact .inl (and_zero h2)
      · obtain ⟨n, hn, hne, hd, he⟩ := and_node h2 xI_two g1 (by rw [xI_div]; exact (g2 i (Nat.le_refl _) (by omega)).symm)
        refine .inr ⟨by omega, fun j hj hjk => ?_⟩
        have := B.not_in hd xI_two hjk
        omega
    · rcases ih with e | ⟨g1, g2⟩
      · rw [e] at h2
        rw [and_zero h2] at h3
        rw [or_zero h3]
        exact .inr ⟨xI_two, fun j hj hjk => by rw [xI_div]; omega⟩
      · obtain ⟨n, hn, hne, hd, he⟩ := and_node h2 (nx_two xI_two) g1 (by rw [nx_div, xI_div]; exact (g2 i (Nat.le_refl _) (by omega)).symm)
        have hni := B.not_in (j := i) hd (nx_two xI_two) (by omega)
        obtain ⟨t, h4, h5⟩ := h3
        obtain ⟨n2, hn2, hne2, hd2, he2⟩ := and_node h4 (nx_two xI_two) (nx_two (by omega)) (by rw [nx_div, nx_div, xI_div]; omega)
        refine .inr ⟨by rw [h5, he2, nx_even]; omega, fun j hj hjk => ?_⟩
        have := B.not_in hd2 (nx_two xI_two) hjk
        rw [h5, nx_div]; omega
theorem kv0 (U : UPC ns L K) : kv K 0 false := U.one
theorem kv_xor_nx {e : Nat} {v : Bool} (h : kv K (nx e) v) : kv K e (Bool.xor v true) := by rw [kv_nx] at h; cases v <;> exact h
/-- What a sum is to be, and the other number, tell the first one. -/
theorem sum_forced (U : UPC ns L K) (B : Base ns k) {C : Nat → Nat} (hC : ∀ i, i < k → C i = b01 (c i)) (h : SumE ns k xI C R) (hR : ∀ i, i < k → kv K (R i) (b i)) : ∀ i, i < k → kv K (xI i) (xv b c i) := by
  obtain ⟨car, h0, hs⟩ := h
  have shp := car_shape B h0 hC hs
  have digit : ∀ i, i < k → (car i / 2 ∈ L → kv K (car i) (sv b c i)) → kv K (xI i) (xv b c i) := by
    intro i hi ih
    have one : ∀ e, 2 ≤ e → e / 2 = i + 1 → XorE ns e (car i) (R i) → kv K e (Bool.xor (b i) (sv b c i)) := by
      intro e he hed hx
      rcases shp i (by omega) with e0 | ⟨g1, g2⟩
      · have hs0 : sv b c i = false := U.kv_one (ih (by rw [e0]; exact U.kv_nm (kv0 U))) (by rw [e0]; exact kv0 U)
        rw [e0] at hx
        rw [hs0, Bool.xor_false, ← xor_zero hx]
        exact hR i hi
      · have hne : e / 2 ≠ car i / 2 := by rw [hed]; exact (g2 i (Nat.le_refl _) hi).symm
        obtain ⟨-, -, -, -, -, -, -, -, -, -, hq⟩ := U.xor_nm he g1 hne hx (U.kv_nm (hR i hi))
        exact U.xor_back he g1 hne hx (hR i hi) (ih hq)
    rcases sum_step (hC i hi) (hs i hi) with ⟨hc, h1, h2⟩ | ⟨hc, h1, v, h2, h3⟩
    · unfold xv
      rw [hc, Bool.xor_false]
      exact one _ xI_two xI_div h1
    · unfold xv
      rw [hc]
      exact kv_xor_nx (one _ (nx_two xI_two) (by rw [nx_div, xI_div]) h1)
  have key : ∀ i, i ≤ k → (car i / 2 ∈ L → kv K (car i) (sv b c i)) := by
    intro i
    induction i with
    | zero => intro _ _; rw [h0]; exact kv0 U
    | succ i ih =>
      intro hi hL
      have ih := ih (by omega)
      have hx := digit i (by omega) ih
      have hs0 : car i = 0 → sv b c i = false := fun e0 => U.kv_one (ih (by rw [e0]; exact U.kv_nm (kv0 U))) (by rw [e0]; exact kv0 U)
      rcases sum_step (hC i (by omega)) (hs i (by omega)) with ⟨hc, h1, h2⟩ | ⟨hc, h1, v, h2, h3⟩
      · have e : sv b c (i + 1) = (xv b c i && sv b c i) := by
          show ((Bool.xor (Bool.xor (b i) (sv b c i)) (c i) && c i) || (Bool.xor (b i) (sv b c i) && sv b c i)) = (Bool.xor (Bool.xor (b i) (sv b c i)) (c i) && sv b c i)
          rw [hc]; cases b i <;> cases sv b c i <;> rfl
        rw [e]
        rcases shp i (by omega) with e0 | ⟨g1, g2⟩
        · rw [hs0 e0, Bool.and_false]
          rw [e0] at h2
          rw [and_zero h2]; exact kv0 U
        · obtain ⟨n, hn, hne, hd, he⟩ := and_node h2 xI_two g1 (by rw [xI_div]; exact (g2 i (Nat.le_refl _) (by omega)).symm)
          have hk := U.kids (n := n) (by rwa [he, show 2 * n / 2 = n by omega] at hL) ⟨xI_two, g1⟩ hd
          exact U.and_v h2 hL hx (ih hk.2)
      · rcases shp i (by omega) with e0 | ⟨g1, g2⟩
        · rw [e0] at h2
          rw [and_zero h2] at h3
          have e : sv b c (i + 1) = xv b c i := by
            show ((Bool.xor (Bool.xor (b i) (sv b c i)) (c i) && c i) || (Bool.xor (b i) (sv b c i) && sv b c i)) = Bool.xor (Bool.xor (b i) (sv b c i)) (c i)
            rw [hc, hs0 e0]; cases b i <;> rfl
          rw [e, or_zero h3]; exact hx
        · obtain ⟨n, hn, hne, hd, he⟩ := and_node h2 (nx_two xI_two) g1 (by rw [nx_div, xI_div]; exact (g2 i (Nat.le_refl _) (by omega)).symm)
          have hni := B.not_in (j := i) hd (nx_two xI_two) (by omega)
          obtain ⟨t, h4, h5⟩ := h3
          obtain ⟨n2, hn2, hne2, hd2, he2⟩ := and_node h4 (nx_two xI_two) (nx_two (by omega)) (by rw [nx_div, nx_div, xI_div]; omega)
          rw [h5, nx_div] at hL
          have hk2 := U.kids (n := n2) (by rwa [he2, show 2 * n2 / 2 = n2 by omega] at hL) ⟨nx_two xI_two, nx_two (by omega)⟩ hd2
          have hvL : v / 2 ∈ L := by have := hk2.2; rwa [nx_div] at this
          have hk := U.kids (n := n) (by have := hvL; rwa [he, show 2 * n / 2 = n by omega] at this) ⟨nx_two xI_two, g1⟩ hd
          have hxn : kv K (nx (xI i)) (!xv b c i) := by rw [kv_nx, Bool.not_not]; exact hx
          have hv := U.and_v h2 hvL hxn (ih hk.2)
          have hvn : kv K (nx v) (!(!xv b c i && sv b c i)) := by rw [kv_nx, Bool.not_not]; exact hv
          have ht := U.and_v h4 hL hxn hvn
          have hcar : kv K (car (i + 1)) (!(!xv b c i && !(!xv b c i && sv b c i))) := by rw [h5, kv_nx, Bool.not_not]; exact ht
          have e : sv b c (i + 1) = !(!xv b c i && !(!xv b c i && sv b c i)) := by
            show ((Bool.xor (Bool.xor (b i) (sv b c i)) (c i) && c i) || (Bool.xor (b i) (sv b c i) && sv b c i)) = !(!Bool.xor (Bool.xor (b i) (sv b c i)) (c i) && !(!Bool.xor (Bool.xor (b i) (sv b c i)) (c i) && sv b c i))
            rw [hc]; cases b i <;> cases sv b c i <;> rfl
          rw [e]; exact hcar
  exact fun i hi => digit i hi (key i (by omega))
/-- A comparison that holds tells the digits. -/
theorem same_forced (U : UPC ns L K) {P Q : Nat → Nat} {e : Nat} {q : Nat → Bool} (hQ : ∀ i, i < k → Q i = b01 (q i)) (h : SameE ns k P Q e) (he : K e) : ∀ i, i < k → kv K (P i) (q i) := by
  obtain ⟨ch, h0, hk, hs⟩ := h
  have down : ∀ d, d ≤ k → K (ch (k - d)) := by
    intro d
    induction d with
    | zero => intro _; rw [Nat.sub_zero, hk]; exact he
    | succ d ih =>
      intro hd
      obtain ⟨z, h1, h2⟩ := hs (k - (d + 1)) (by omega)
      rw [show k - (d + 1) + 1 = k - d by omega] at h2
      exact (U.and_t h2 (ih (by omega))).1
  intro i hi
  obtain ⟨z, h1, h2⟩ := hs i hi
  have hz := (U.and_t h2 (by have := down (k - (i + 1)) (by omega); rwa [show k - (k - (i + 1)) = i + 1 by omega] at this)).2
  rw [hQ i hi] at h1
  unfold b01 at h1
  cases hq : q i with
  | false =>
    rw [hq, if_neg (by simp)] at h1
    rw [xor_zero h1] at hz
    exact hz
  | true =>
    rw [hq, if_pos rfl] at h1
    rw [xor_one' h1, nx_nx] at hz
    exact hz
/-- A comparison of what is known to be the same isn't false. -/
theorem same_not (U : UPC ns L K) {P Q : Nat → Nat} {e : Nat} {q : Nat → Bool} (hQ : ∀ i, i < k → Q i = b01 (q i)) (h : SameE ns k P Q e) (hP : ∀ i, i < k → kv K (P i) (q i)) (he : K (nx e)) : False := by
  obtain ⟨ch, h0, hk, hs⟩ := h
  have down : ∀ d, d ≤ k → K (nx (ch (k - d))) := by
    intro d
    induction d with
    | zero => intro _; rw [Nat.sub_zero, hk]; exact he
    | succ d ih =>
      intro hd
      obtain ⟨z, h1, h2⟩ := hs (k - (d + 1)) (by omega)
      rw [show k - (d + 1) + 1 = k - d by omega] at h2
      refine (U.and_f h2 (ih (by omega))).2 ?_
      have hp := hP (k - (d + 1)) (by omega)
      rw [hQ _ (by omega)] at h1
      unfold b01 at h1
      cases hq : q (k - (d + 1)) with
      | false =>
        rw [hq, if_neg (by simp)] at h1
        rw [hq] at hp
        rw [xor_zero h1]; exact hp
      | true =>
        rw [hq, if_pos rfl] at h1
        rw [hq] at hp
        rw [xor_one' h1, nx_nx]; exact hp
  have := down k (Nat.le_refl _)
  rw [Nat.sub_self, h0] at this
  exact U.no0 this
/-- All that is named is known, if the inputs are. -/
theorem all_known (U : UPC ns L K) (B : Base ns k) (hd : Dn ns) (hx : ∀ i, i < k → i + 1 ∈ L → ∃ v, kv K (xI i) v) : ∀ n, n ∈ L → n < ns.length → ∃ v, kv K (2 * n) v := by
  intro n
  induction n using Nat.strongRecOn with
  | _ n ih =>
    intro hn hl
    obtain ⟨p, hp⟩ : ∃ p, ns[n]? = some p := ⟨_, List.getElem?_eq_getElem hl⟩
    rcases hd n p hp with rfl | ⟨hne, h1, h2⟩
    · have := B.only n hp
      cases n with
      | zero => exact ⟨false, kv0 U⟩
      | succ i => exact hx i (by omega) hn
    · obtain ⟨k1, k2⟩ := U.dn n hn p hp hne
      have lift : ∀ e, e < 2 * n → e / 2 ∈ L → ∃ v, kv K e v := by
        intro e he hL
        obtain ⟨v, hv⟩ := ih (e / 2) (by omega) hL (by omega)
        have : e = 2 * (e / 2) ∨ e = nx (2 * (e / 2)) := by rw [nx_even]; omega
        rcases this with h | h
        · exact ⟨v, by rw [h]; exact hv⟩
        · exact ⟨!v, by rw [h, kv_nx, Bool.not_not]; exact hv⟩
      obtain ⟨v, hv⟩ := lift p.1 h1 k1
      obtain ⟨w, hw⟩ := lift p.2 h2 k2
      cases v with
      | false => exact ⟨false, by unfold kv; rw [if_neg (by simp), nx_even]; exact U.a2 n hn p hp hne (.inl hv)⟩
      | true =>
        cases w with
        | false => exact ⟨false, by unfold kv; rw [if_neg (by simp), nx_even]; exact U.a2 n hn p hp hne (.inr hw)⟩
        | true => exact ⟨true, U.a1 n hn p hp hne hv hw⟩
/-- The values of a sum. -/
theorem sum_val {f : Nat → Bool} (V : Val ns f) {C : Nat → Nat} (hC : ∀ i, i < k → C i = b01 (c i)) (h : SumE ns k xI C R) (hx : ∀ i, i < k → eV f (xI i) = xv b c i) : ∀ i, i < k → eV f (R i) = b i := by
  obtain ⟨car, h0, hs⟩ := h
  have eC : ∀ i, i < k → eV f (C i) = c i := fun i hi => by
    rw [hC i hi]; unfold b01
    cases c i
    · rw [if_neg (by simp), V.e0]
    · rw [if_pos rfl, V.e1]
  have key : ∀ i, i ≤ k → eV f (car i) = sv b c i := by
    intro i
    induction i with
    | zero => intro _; rw [h0, V.e0]; rfl
    | succ i ih =>
      intro hi
      obtain ⟨one, u, v, h1, h2, h3, h4, h5⟩ := hs i (by omega)
      rw [V.or h5, V.and h3, V.and h4, V.xor h1, eC i (by omega), ih (by omega), hx i (by omega)]
      show ((xv b c i && c i) || (Bool.xor (xv b c i) (c i) && sv b c i)) = ((Bool.xor (Bool.xor (b i) (sv b c i)) (c i) && c i) || (Bool.xor (b i) (sv b c i) && sv b c i))
      unfold xv
      cases b i <;> cases sv b c i <;> cases c i <;> rfl
  intro i hi
  obtain ⟨one, u, v, h1, h2, h3, h4, h5⟩ := hs i hi
  rw [V.xor h2, V.xor h1, eC i hi, key i (by omega), hx i hi]
  unfold xv
  cases b i <;> cases sv b c i <;> cases c i <;> rfl
theorem same_val {f : Nat → Bool} (V : Val ns f) {P Q : Nat → Nat} {e : Nat} (h : SameE ns k P Q e) (hp : ∀ i, i < k → eV f (P i) = eV f (Q i)) : eV f e = true := by
  obtain ⟨ch, h0, hk, hs⟩ := h
  have key : ∀ i, i ≤ k → eV f (ch i) = true := by
    intro i
    induction i with
    | zero => intro _; rw [h0, V.e1]
    | succ i ih =>
      intro hi
      obtain ⟨z, h1, h2⟩ := hs i (by omega)
      rw [V.and h2, ih (by omega), eV_nx, V.xor h1, hp i (by omega)]
      cases eV f (Q i) <;> rfl
  rw [← hk]; exact key k (Nat.le_refl _)
end

/-! ### Numbers -/
/-- A digit of a number. -/
def bI (a : Int) (i : Nat) : Bool := decide (a / (2 ^ i : Int) % 2 = 1)
/-- A number of digits. -/
def nB (x : Nat → Bool) : Nat → Int
  | 0 => 0
  | i + 1 => nB x i + if x i then 2 ^ i else 0
def bz (b : Bool) : Int := if b then 1 else 0
theorem bz_bI {a : Int} {i : Nat} : bz (bI a i) = a / (2 ^ i : Int) % 2 := by
  unfold bz bI
  by_cases h : a / (2 ^ i : Int) % 2 = 1
  · rw [decide_eq_true h, if_pos rfl, h]
  · rw [decide_eq_false h, if_neg (by simp)]
    omega
theorem bz_step (b s c : Bool) : bz (Bool.xor (Bool.xor b s) c) + bz c + bz s = bz b + 2 * bz ((Bool.xor (Bool.xor b s) c && c) || (Bool.xor b s && s)) := by
  cases b <;> cases s <;> cases c <;> rfl
theorem nB_succ {x : Nat → Bool} {i : Nat} : nB x (i + 1) = nB x i + 2 ^ i * bz (x i) := by
  show nB x i + (if x i then 2 ^ i else 0) = _
  unfold bz
  cases x i <;> simp
theorem mod_succ (a : Int) (i : Nat) : a % (2 ^ (i + 1) : Int) = a % (2 ^ i : Int) + 2 ^ i * (a / (2 ^ i : Int) % 2) := by
  have hp : (0 : Int) < 2 ^ i := Int.pow_pos (by omega)
  obtain ⟨t, ht⟩ : ∃ t : Int, t = 2 ^ i := ⟨_, rfl⟩
  rw [Int.pow_succ, ← ht]
  rw [← ht] at hp
  have h1 := Int.mul_ediv_add_emod a t
  have h2 := Int.mul_ediv_add_emod (a / t) 2
  have h3 := Int.emod_nonneg a (show t ≠ 0 by omega)
  have h4 := Int.emod_lt_of_pos a hp
  have h5 : a / t % 2 = 0 ∨ a / t % 2 = 1 := by omega
  have e : a = a % t + t * (a / t % 2) + (t * 2) * (a / t / 2) := by
    conv => lhs; rw [← h1, ← h2]
    rw [Int.mul_add, Int.mul_assoc]; omega
  generalize a / t / 2 = q at e
  conv => lhs; rw [e]
  rw [Int.add_mul_emod_self_left]
  refine Int.emod_eq_of_lt ?_ ?_
  · rcases h5 with h | h <;> rw [h] <;> simp <;> omega
  · rcases h5 with h | h <;> rw [h] <;> simp <;> omega
/-- The digits that are asked for make up the difference. -/
theorem nB_sum (a b : Int) : ∀ i, nB (xv (bI b) (bI a)) i + a % (2 ^ i : Int) = b % (2 ^ i : Int) + 2 ^ i * bz (sv (bI b) (bI a) i)
  | 0 => by simp [nB, sv, bz]
  | i + 1 => by
    have ih := nB_sum a b i
    have hs := bz_step (bI b i) (sv (bI b) (bI a) i) (bI a i)
    rw [nB_succ, mod_succ a, mod_succ b, ← bz_bI, ← bz_bI]
    show nB _ i + 2 ^ i * bz (Bool.xor (Bool.xor (bI b i) (sv (bI b) (bI a) i)) (bI a i)) + _ = _ + _ + 2 ^ (i + 1) * bz ((Bool.xor (Bool.xor (bI b i) (sv (bI b) (bI a) i)) (bI a i) && bI a i) || (Bool.xor (bI b i) (sv (bI b) (bI a) i) && sv (bI b) (bI a) i))
    generalize bz ((Bool.xor (Bool.xor (bI b i) (sv (bI b) (bI a) i)) (bI a i) && bI a i) || (Bool.xor (bI b i) (sv (bI b) (bI a) i) && sv (bI b) (bI a) i)) = s2 at hs
    generalize bz (Bool.xor (Bool.xor (bI b i) (sv (bI b) (bI a) i)) (bI a i)) = x at hs
    generalize bz (sv (bI b) (bI a) i) = s at hs ih
    generalize bz (bI a i) = u at hs
    generalize bz (bI b i) = w at hs
    have e : x = w + 2 * s2 - u - s := by omega
    rw [Int.pow_succ, e]
    generalize (2 : Int) ^ i = t at ih
    have d1 : t * (w + 2 * s2 - u - s) = t * w + t * 2 * s2 - t * u - t * s := by
      rw [Int.mul_sub, Int.mul_sub, Int.mul_add, Int.mul_assoc]
    rw [d1]
    omega
theorem nB_rng (x : Nat → Bool) : ∀ i, 0 ≤ nB x i ∧ nB x i < 2 ^ i
  | 0 => by simp [nB]
  | i + 1 => by
    have ih := nB_rng x i
    have hp : (0 : Int) < 2 ^ i := Int.pow_pos (by omega)
    rw [nB_succ, Int.pow_succ]
    unfold bz
    cases x i <;> simp <;> omega
/-- The difference, as a number of k digits without a sign. -/
theorem nB_diff (a b : Int) (k : Nat) : nB (xv (bI b) (bI a)) k = (b - a) % (2 ^ k : Int) := by
  have h := nB_sum a b k
  have hr := nB_rng (xv (bI b) (bI a)) k
  have hp : (0 : Int) < 2 ^ k := Int.pow_pos (by omega)
  generalize (2 : Int) ^ k = t at *
  have e : nB (xv (bI b) (bI a)) k = b % t - a % t + t * bz (sv (bI b) (bI a) k) := by omega
  have h1 := Int.mul_ediv_add_emod a t
  have h2 := Int.mul_ediv_add_emod b t
  have : (b - a) = nB (xv (bI b) (bI a)) k + t * (b / t - a / t - bz (sv (bI b) (bI a) k)) := by
    rw [e, Int.mul_sub, Int.mul_sub]; omega
  rw [this, Int.add_mul_emod_self_left, Int.emod_eq_of_lt hr.1 hr.2]
/-- A number's digits. -/
theorem nB_dig (x : Nat → Bool) : ∀ (k i : Nat), i < k → nB x k / (2 ^ i : Int) % 2 = bz (x i)
  | 0, i, h => by omega
  | k + 1, i, h => by
    have hp : (0 : Int) < 2 ^ i := Int.pow_pos (by omega)
    rw [nB_succ]
    by_cases hik : i = k
    · subst hik
      have hr := nB_rng x i
      have hb : bz (x i) = 0 ∨ bz (x i) = 1 := by unfold bz; cases x i <;> simp
      rw [Int.add_mul_ediv_left _ _ (by omega), Int.ediv_eq_zero_of_lt hr.1 hr.2]
      omega
    · have ih := nB_dig x k i (by omega)
      obtain ⟨d, hd⟩ : ∃ d, k = i + (d + 1) := ⟨k - i - 1, by omega⟩
      have e : (2 : Int) ^ k * bz (x k) = 2 ^ i * (2 * (2 ^ d * bz (x k))) := by
        rw [hd, Int.pow_add, Int.pow_succ, Int.mul_assoc, Int.mul_assoc, Int.mul_comm (2 ^ d) (2 * _), Int.mul_assoc, Int.mul_comm (bz _)]
      rw [e, Int.add_mul_ediv_left _ _ (by omega)]
      omega
/-- The digits that are asked for are those of the difference. -/
theorem xv_diff (a b : Int) {k i : Nat} (h : i < k) : bI (b - a) i = xv (bI b) (bI a) i := by
  have h1 := nB_dig (xv (bI b) (bI a)) k i h
  rw [nB_diff] at h1
  have hp : (0 : Int) < 2 ^ i := Int.pow_pos (by omega)
  obtain ⟨d, hd⟩ : ∃ d, k = i + (d + 1) := ⟨k - i - 1, by omega⟩
  have h2 := Int.mul_ediv_add_emod (b - a) (2 ^ k)
  have e : (2 : Int) ^ k * ((b - a) / 2 ^ k) = 2 ^ i * (2 * (2 ^ d * ((b - a) / 2 ^ k))) := by
    generalize (b - a) / 2 ^ k = q
    rw [hd, Int.pow_add, Int.pow_succ, Int.mul_assoc, Int.mul_assoc, Int.mul_comm (2 ^ d) (2 * _), Int.mul_assoc, Int.mul_comm q]
  have e2 : (b - a) / 2 ^ i % 2 = (b - a) % 2 ^ k / 2 ^ i % 2 := by
    conv => lhs; rw [← h2, e, Int.add_comm, Int.add_mul_ediv_left _ _ (by omega)]
    omega
  show decide ((b - a) / 2 ^ i % 2 = 1) = _
  rw [e2, h1]
  unfold bz
  cases xv (bI b) (bI a) i <;> rfl
end Go.Proofs.YtofooamimiijlaaGreat

namespace Go.Proofs.YtofooamimiijlaaGreat
open Go.HL HM
set_option maxRecDepth 10000
set_option linter.unusedSimpArgs false

/-- A heap in memory that is in order. -/
structure HG (H : Heap) (p bo bp ba n m : Nat) (os pl ac : List Int) : Prop where
  ha : HA H p bo bp ba n m os pl ac
  ok : Ok n m (nt os) (nt pl)
  ord : OrdAll (nt ac) m (nt os)
  act : ∀ v, v ≤ n → 0 ≤ nt ac v ∧ nt ac v ≤ 1152921504606846976
theorem HG.frame {H H' : Heap} {F : List Nat} {p bo bp ba n m : Nat} {os pl ac : List Int} (h : HG H p bo bp ba n m os pl ac) (hf : Fr F H H') (h1 : p ∉ F) (h2 : bo ∉ F) (h3 : bp ∉ F) (h4 : ba ∉ F) : HG H' p bo bp ba n m os pl ac :=
  ⟨h.ha.frame hf h1 h2 h3 h4, h.ok, h.ord, h.act⟩
section
variable {H : Heap} {p bo bp ba n m : Nat} {os pl ac : List Int}

theorem HG.place (h : HG H p bo bp ba n m os pl ac) {v : Nat} (hv : v ≤ n) : -1 ≤ nt pl v ∧ nt pl v < m ∧ (nt pl v ≠ -1 → 0 ≤ nt pl v) := by
  by_cases h0 : v = 0
  · subst h0; rw [h.ok.zero]; omega
  · rcases h.ok.pos v (by omega) hv with h1 | h1
    · rw [h1]; omega
    · omega

theorem next_none (h : HG H p bo bp ba n 0 os pl ac) :
    CallF Tryz.prog 83 [hp p] H (fun r H' => H = H' ∧ r = .tuple #[iv 0, .bool false]) NoP := by
  have c0 := h.ha.c0
  refine callF_of Tryz.func83 rfl Tryz.ntmps83 Tryz.results83 (by decide) rfl ?_
  simp (disch := omega) only [go_sem, ↓cw_block, dsB_of, c0]
  exact fin ⟨rfl, rfl⟩

theorem next_some (h : HG H p bo bp ba n m os pl ac) (hm : 0 < m) :
    CallF Tryz.prog 83 [hp p] H (fun r H' => r = .tuple #[iv (nt os 0), .bool true] ∧ Fr [p, bo, bp] H H' ∧
      ∃ os' pl', HG H' p bo bp ba n (m - 1) os' pl' ac ∧ ∀ v, (nt pl' v = -1 ↔ nt pl v = -1 ∨ v = (nt os 0).toNat)) NoP := by
  have c0 := h.ha.c0
  have hlo := h.ha.lo
  have hlp := h.ha.lp
  have hmn := h.ok.le
  have hbig := h.ha.big
  have hn := h.ha.ne
  have d0 := h.ha.io.cell (i := 0) (by omega)
  have dl := h.ha.io.cell (i := m - 1) (by omega)
  have hml : (m : Int) - 1 = ((m - 1 : Nat) : Int) := by omega
  have r0 := h.ok.rng 0 hm
  have rl := h.ok.rng (m - 1) (by omega)
  have w0 := h.ha.self.wr (i := 0) (by simp)
  have b1 := h.ha.self.set 0 (.slice (some ⟨bo, 0, none⟩) (m - 1) n)
  have c1 : cellH (setH H ⟨p, 0, none⟩ (.slice (some ⟨bo, 0, none⟩) (m - 1) n)) ⟨p, 1, none⟩ = some (.slice (some ⟨bp, 0, none⟩) (n + 1) (n + 1)) := b1.cell 1
  have p1 := h.ha.ip.set_other (a := ⟨p, 0, none⟩) (v := .slice (some ⟨bo, 0, none⟩) (m - 1) n) hn.2.1.symm
  have w1 := p1.wr (i := (nt os 0).toNat) (by omega)
  have p2 := p1.set (nt os 0).toNat (-1)
  have ha2 : HA (setH (setH H ⟨p, 0, none⟩ (.slice (some ⟨bo, 0, none⟩) (m - 1) n)) ⟨bp, (nt os 0).toNat, none⟩ (.int .i64 (-1))) p bo bp ba n (m - 1) os (pl.set (nt os 0).toNat (-1)) ac :=
    ⟨b1.set_other hn.2.1, (h.ha.io.set_other hn.1.symm).set_other hn.2.2.2.1, p2, (h.ha.ia.set_other hn.2.2.1.symm).set_other hn.2.2.2.2.2.symm, hlo, by simp [hlp], h.ha.la, hn, hbig⟩
  have f2 : Fr [p, bo, bp] H (setH (setH H ⟨p, 0, none⟩ (.slice (some ⟨bo, 0, none⟩) (m - 1) n)) ⟨bp, (nt os 0).toNat, none⟩ (.int .i64 (-1))) := (Fr.set (by simp)).trans (Fr.set (by simp))
  refine callF_of Tryz.func83 rfl Tryz.ntmps83 Tryz.results83 (by decide) rfl ?_
  simp (disch := omega) only [go_sem, ↓cw_block, dsB_of, c0, d0, hml, dl, w0, c1, w1]

  by_cases h1 : 1 < m
  · simp (disch := omega) only [go_sem, ↓cw_block, dsB_of, c0, d0, hml, dl, w0, c1, w1]
    refine call_to (set_spec ha2 (i := 0) (v := nt os (m - 1)) (by omega) (by omega) (by omega)) ?_
    rintro v H3 ⟨rfl, ha3, f3⟩
    simp (disch := omega) only [go_sem, ↓cw_block, dsB_of]
    have hpop := h.ok.pop h1
    have eO : nt (os.set (0 : Int).toNat (nt os (m - 1))) = up1 (nt os) 0 (nt os (m - 1)) := nt_set (by simp; omega)
    have eL : nt ((pl.set (nt os 0).toNat (-1)).set (nt os (m - 1)).toNat 0) = up1 (up1 (nt pl) (nt os 0).toNat (-1)) (nt os (m - 1)).toNat 0 := by
      rw [nt_set (by simp; omega), nt_set (by omega)]
    refine call_to (down_spec (i := 0) ha3 (by rw [eO, eL]; exact hpop) (by omega) ?_) ?_
    · intro j hj hjm hpj
      rw [eO]
      have hpj' : par j < j := by unfold par; omega
      unfold up1
      rw [if_neg (by omega), if_neg (by omega)]
      exact h.ord j hj (by omega)
    · rintro v H4 ⟨rfl, f4, os', pl', ha4, ok4, ord4, same4⟩
      simp (disch := omega) only [go_sem, ↓cw_block, dsB_of]
      refine fin ⟨rfl, f2.trans ((f3.trans f4).mono (by intro b _ hb; simp only [List.mem_cons, List.not_mem_nil, or_false] at hb ⊢; omega)), os', pl', ⟨ha4, ok4, fun j hj hjm => ord4 j hj hjm (by omega), h.act⟩, ?_⟩
      intro v
      rw [same4 v, eL]
      unfold up1
      by_cases e1 : v = (nt os (m - 1)).toNat
      · subst e1
        have : ((nt os (m - 1)).toNat) ≠ (nt os 0).toNat := by
          intro e
          have : ((0 : Nat) : Int) = ((m - 1 : Nat) : Int) := by rw [← r0.2.2, ← rl.2.2, e]
          omega
        simp [this]; omega
      · rw [if_neg e1]
        by_cases e2 : v = (nt os 0).toNat
        · simp [e2]
        · simp [e2]
  · have hm1 : m = 1 := by omega
    subst hm1
    simp (disch := omega) only [go_sem, ↓cw_block, dsB_of, c0, d0, hml, dl, w0, c1, w1]
    refine fin ⟨rfl, f2, os, _, ⟨ha2, ?_, fun j hj hjm => by omega, h.act⟩, ?_⟩
    · rw [nt_set (by omega)]; exact h.ok.pop1
    · intro v
      rw [nt_set (by omega)]
      unfold up1
      by_cases e2 : v = (nt os 0).toNat
      · simp [e2]
      · simp [e2]

theorem put_no (h : HG H p bo bp ba n m os pl ac) {v : Int} (hv : ¬ (1 ≤ v ∧ v ≤ n ∧ nt pl v.toNat = -1)) :
    CallF Tryz.prog 74 [hp p, iv v] H (fun r H' => H = H' ∧ r = .bool false) NoP := by
  have c1 := h.ha.c1
  have hlp := h.ha.lp
  refine callF_of Tryz.func74 rfl Tryz.ntmps74 Tryz.results74 (by decide) rfl ?_
  simp (disch := omega) only [go_sem, ↓cw_block, dsB_of]
  refine call_to (known_spec c1) ?_
  rintro _ _ ⟨rfl, rfl⟩
  by_cases hk : 1 ≤ v ∧ v < (n + 1 : Nat)
  · have cv := h.ha.ip.cell (i := v.toNat) (by omega)
    have hpl := h.place (v := v.toNat) (by omega)
    simp (disch := omega) only [go_sem, ↓cw_block, dsB_of, c1, cv]
    exact fin ⟨rfl, rfl⟩
  · simp (disch := omega) only [go_sem, ↓cw_block, dsB_of, c1]
    exact fin ⟨rfl, rfl⟩

theorem put_yes (h : HG H p bo bp ba n m os pl ac) {v : Nat} (hv1 : 1 ≤ v) (hv2 : v ≤ n) (hv3 : nt pl v = -1) :
    CallF Tryz.prog 74 [hp p, iv v] H (fun r H' => r = .bool true ∧ Fr [p, bo, bp] H H' ∧
      ∃ os' pl', HG H' p bo bp ba n (m + 1) os' pl' ac ∧ ∀ u, (nt pl' u = -1 ↔ nt pl u = -1 ∧ u ≠ v)) NoP := by
  have c0 := h.ha.c0
  have c1 := h.ha.c1
  have hlo := h.ha.lo
  have hlp := h.ha.lp
  have hmn := h.ok.room hv1 hv2 hv3
  have hbig := h.ha.big
  have hn := h.ha.ne
  have cv := h.ha.ip.cell (i := v) (by omega)
  refine callF_of Tryz.func74 rfl Tryz.ntmps74 Tryz.results74 (by decide) rfl ?_
  simp (disch := omega) only [go_sem, ↓cw_block, dsB_of]
  refine call_to (known_spec c1) ?_
  rintro _ _ ⟨rfl, rfl⟩
  have bs := fun (v : Value) (hv : v.cells = #[v]) => bs_one (P := Tryz.prog) (H := H) (a := v) T.elem26 T.size3 T.zero3 hv
  have bs1 := bs (iv v) rfl
  simp (disch := omega) only [go_sem, ↓cw_block, dsB_of, c0, c1, cv, hv3, bs1]
  -- the list of the call's own, and the heap behind it
  obtain ⟨H1, hH1⟩ : ∃ H1, H1 = H.push (.cells #[iv v] 3) := ⟨_, rfl⟩
  have f1 : Fr [p, bo, bp] H H1 := by rw [hH1]; exact Fr.push
  have g1 : Fr [] H H1 := by rw [hH1]; exact Fr.push
  have h1 : HG H1 p bo bp ba n m os pl ac := h.frame g1 (by simp) (by simp) (by simp) (by simp)
  have x1 : cellH H1 ⟨H.size, 0, none⟩ = some (iv v) := by rw [hH1]; exact (Blk.new (vs := [iv v]) rfl).cell 0
  have nb : H.size ≠ bo := by have := h.ha.io.lt; omega
  rw [← hH1]
  clear hH1
  have w1 := h1.ha.io.wr (i := m) (by omega) (iv v)
  refine app_fit1 T.el26 hmn x1 rfl (by rw [Nat.zero_add]; exact w1) ?_
  have b2 := h1.ha.self.set_other (a := ⟨bo, m, none⟩) (v := iv v) hn.1
  have w2 := b2.wr (i := 0) (by simp)
  have ha3 : HA (setH (setH H1 ⟨bo, m, none⟩ (iv v)) ⟨p, 0, none⟩ (.slice (some ⟨bo, 0, none⟩) (m + 1) n)) p bo bp ba n (m + 1) (os.set m v) pl ac :=
    ⟨b2.set 0 _, (h1.ha.io.set m v).set_other hn.1.symm, (h1.ha.ip.set_other hn.2.2.2.1.symm).set_other hn.2.1.symm, (h1.ha.ia.set_other hn.2.2.2.2.1.symm).set_other hn.2.2.1.symm, by simp [hlo], hlp, h.ha.la, hn, hbig⟩
  have f3 : Fr [p, bo, bp] H (setH (setH H1 ⟨bo, m, none⟩ (iv v)) ⟨p, 0, none⟩ (.slice (some ⟨bo, 0, none⟩) (m + 1) n)) := (f1.set' (by simp)).set' (by simp)
  generalize hH3 : setH (setH H1 ⟨bo, m, none⟩ (iv v)) ⟨p, 0, none⟩ (.slice (some ⟨bo, 0, none⟩) (m + 1) n) = H3 at ha3 f3
  have d0 := ha3.c0
  have hml : ((m + 1 : Nat) : Int) - 1 = (m : Int) := by omega
  simp (disch := omega) only [go_sem, ↓cw_block, dsB_of, w2, hH3, d0, hml]
  have hadd := h.ok.add hv1 hv2 hv3
  have eO : nt (os.set m v) = up1 (nt os) m v := nt_set (by omega)
  have em : nt (os.set m v) m = v := nt_set_eq (by omega)
  refine call_to (up_spec (i := m) ha3 (by rw [em, eO, Int.toNat_natCast]; exact hadd) (by omega) (by rw [eO]; exact UpInv.last h.ord)) ?_
  rintro r H4 ⟨rfl, f4, os', pl', ha4, ok4, ord4, same4⟩
  simp (disch := omega) only [go_sem, ↓cw_block, dsB_of]
  refine fin ⟨rfl, f3.trans (f4.mono (by intro b _ hb; simp only [List.mem_cons, List.not_mem_nil, or_false] at hb ⊢; omega)), os', pl', ⟨ha4, ok4, ord4, h.act⟩, ?_⟩
  intro u
  rw [same4 u, em]
  unfold up1
  rw [Int.toNat_natCast]
  by_cases e : u = v
  · simp [e]
  · simp [e]

theorem bump_no (h : HG H p bo bp ba n m os pl ac) {v d : Int} (hv : ¬ (1 ≤ v ∧ v ≤ n ∧ 0 ≤ d)) :
    CallF Tryz.prog 99 [hp p, iv v, iv d] H (fun r H' => H = H' ∧ r = .bool false) NoP := by
  have c1 := h.ha.c1
  refine callF_of Tryz.func99 rfl Tryz.ntmps99 Tryz.results99 (by decide) rfl ?_
  by_cases hd : d < 0
  · simp (disch := omega) only [go_sem, ↓cw_block, dsB_of]
    exact fin ⟨rfl, rfl⟩
  · simp (disch := omega) only [go_sem, ↓cw_block, dsB_of]
    refine call_to (known_spec c1) ?_
    rintro _ _ ⟨rfl, rfl⟩
    simp (disch := omega) only [go_sem, ↓cw_block, dsB_of]
    exact fin ⟨rfl, rfl⟩

theorem bump_yes (h : HG H p bo bp ba n m os pl ac) {v : Nat} {d : Int} (hv1 : 1 ≤ v) (hv2 : v ≤ n) (hd : 0 ≤ d) (hd2 : d ≤ 9223372036854775807) :
    CallF Tryz.prog 99 [hp p, iv v, iv d] H (fun r H' => r = .bool true ∧ Fr [bo, bp, ba] H H' ∧
      ∃ os' pl', HG H' p bo bp ba n m os' pl' (ac.set v (min (nt ac v + d) 1152921504606846976)) ∧ ∀ u, (nt pl' u = -1 ↔ nt pl u = -1)) NoP := by
  have c1 := h.ha.c1
  have c2 := h.ha.c2
  have hlp := h.ha.lp
  have hla := h.ha.la
  have hn := h.ha.ne
  have hav := h.act v hv2
  have hpv := h.place hv2
  have cv := h.ha.ia.cell (i := v) (by omega)
  have pv := h.ha.ip.cell (i := v) (by omega)
  have wv := h.ha.ia.wr (i := v) (by omega)
  -- the rest, when the activity is laid
  have fin2 : ∀ x : Int, x = min (nt ac v + d) 1152921504606846976 → (0 ≤ x ∧ x ≤ 1152921504606846976 ∧ nt ac v ≤ x) ∧ HA (setH H ⟨ba, v, none⟩ (iv x)) p bo bp ba n m os pl (ac.set v x) ∧ Fr [bo, bp, ba] H (setH H ⟨ba, v, none⟩ (iv x)) ∧
      (∀ u, u ≤ n → 0 ≤ nt (ac.set v x) u ∧ nt (ac.set v x) u ≤ 1152921504606846976) ∧
      (nt pl v = -1 → OrdAll (nt (ac.set v x)) m (nt os)) ∧ (∀ i : Nat, nt pl v = i → i < m → UpInv (nt (ac.set v x)) m (nt os) i) := by
    intro x hx
    have hx' : 0 ≤ x ∧ x ≤ 1152921504606846976 ∧ nt ac v ≤ x := by omega
    have eA : nt (ac.set v x) = up1 (nt ac) v x := nt_set (by omega)
    refine ⟨hx', ⟨h.ha.self.set_other hn.2.2.1, h.ha.io.set_other hn.2.2.2.2.1, h.ha.ip.set_other hn.2.2.2.2.2, h.ha.ia.set v x, h.ha.lo, hlp, by simp [hla], hn, h.ha.big⟩, Fr.set (by simp), ?_, ?_, ?_⟩
    · intro u hu
      rw [eA]; unfold up1
      split
      · omega
      · exact h.act u hu
    · intro hp1
      refine OrdAll.bump_out h.ok h.ord hp1 ?_
      intro u hu; rw [eA]; exact if_neg hu
    · intro i hi him
      have hoi : (nt os i).toNat = v := by
        rcases h.ok.pos v hv1 hv2 with h3 | ⟨_, _, h5⟩
        · omega
        · rw [hi, Int.toNat_natCast] at h5; omega
      refine UpInv.bump h.ok h.ord him ?_ ?_
      · intro u hu; rw [eA]; exact if_neg (by rw [← hoi]; exact hu)
      · rw [hoi, eA]; unfold up1; rw [if_pos rfl]; exact hx'.2.2
  refine callF_of Tryz.func99 rfl Tryz.ntmps99 Tryz.results99 (by decide) rfl ?_
  simp (disch := omega) only [go_sem, ↓cw_block, dsB_of]
  refine call_to (known_spec c1) ?_
  rintro _ _ ⟨rfl, rfl⟩
  simp (disch := omega) only [go_sem, ↓cw_block, dsB_of, c2, cv]
  refine cond_dec (fun hb => ?_) (fun hb => ?_)
  · obtain ⟨hx, ha1, f1, act1, out1, in1⟩ := fin2 (1152921504606846976) (by omega)
    have d1 := ha1.c1
    have pv1 := ha1.ip.cell (i := v) (by omega)
    have emin : min (nt ac v + d) 1152921504606846976 = 1152921504606846976 := by omega
    rw [emin]
    by_cases hp1 : nt pl v = -1
    · simp (disch := omega) only [go_sem, ↓cw_block, dsB_of, c2, cv, wv, d1, pv1]
      exact fin ⟨rfl, f1, os, pl, ⟨ha1, h.ok, out1 hp1, act1⟩, fun _ => Iff.rfl⟩
    · obtain ⟨i, hi⟩ : ∃ i : Nat, nt pl v = i := ⟨(nt pl v).toNat, by omega⟩
      rw [hi] at pv1
      simp (disch := omega) only [go_sem, ↓cw_block, dsB_of, c2, cv, wv, d1, pv1]
      have him : i < m := by omega
      have hoi : (nt os i).toNat = v := by
        rcases h.ok.pos v hv1 hv2 with h3 | ⟨_, _, h5⟩
        · omega
        · rw [hi, Int.toNat_natCast] at h5; omega
      have eL : up1 (nt pl) (nt os i).toNat i = nt pl := by rw [hoi]; funext j; unfold up1; split <;> simp_all
      refine call_to (up_spec (i := i) ha1 (by rw [eL]; exact h.ok) him (in1 i hi him)) ?_
      rintro r H4 ⟨rfl, f4, os', pl', ha4, ok4, ord4, same4⟩
      simp (disch := omega) only [go_sem, ↓cw_block, dsB_of]
      refine fin ⟨rfl, f1.trans (f4.mono (by intro b _ hb; simp only [List.mem_cons, List.not_mem_nil, or_false] at hb ⊢; omega)), os', pl', ⟨ha4, ok4, ord4, act1⟩, ?_⟩
      intro u
      rw [same4 u, eL]
  · obtain ⟨hx, ha1, f1, act1, out1, in1⟩ := fin2 (nt ac v + d) (by omega)
    have d1 := ha1.c1
    have pv1 := ha1.ip.cell (i := v) (by omega)
    have emin : min (nt ac v + d) 1152921504606846976 = nt ac v + d := by omega
    rw [emin]
    by_cases hp1 : nt pl v = -1
    · simp (disch := omega) only [go_sem, ↓cw_block, dsB_of, c2, cv, wv, d1, pv1]
      exact fin ⟨rfl, f1, os, pl, ⟨ha1, h.ok, out1 hp1, act1⟩, fun _ => Iff.rfl⟩
    · obtain ⟨i, hi⟩ : ∃ i : Nat, nt pl v = i := ⟨(nt pl v).toNat, by omega⟩
      rw [hi] at pv1
      simp (disch := omega) only [go_sem, ↓cw_block, dsB_of, c2, cv, wv, d1, pv1]
      have him : i < m := by omega
      have hoi : (nt os i).toNat = v := by
        rcases h.ok.pos v hv1 hv2 with h3 | ⟨_, _, h5⟩
        · omega
        · rw [hi, Int.toNat_natCast] at h5; omega
      have eL : up1 (nt pl) (nt os i).toNat i = nt pl := by rw [hoi]; funext j; unfold up1; split <;> simp_all
      refine call_to (up_spec (i := i) ha1 (by rw [eL]; exact h.ok) him (in1 i hi him)) ?_
      rintro r H4 ⟨rfl, f4, os', pl', ha4, ok4, ord4, same4⟩
      simp (disch := omega) only [go_sem, ↓cw_block, dsB_of]
      refine fin ⟨rfl, f1.trans (f4.mono (by intro b _ hb; simp only [List.mem_cons, List.not_mem_nil, or_false] at hb ⊢; omega)), os', pl', ⟨ha4, ok4, ord4, act1⟩, ?_⟩
      intro u
      rw [same4 u, eL]

theorem halve_spec (h : HG H p bo bp ba n m os pl ac) :
    CallF Tryz.prog 103 [hp p] H (fun r H' => r = .tuple #[] ∧ Fr [bo, bp, ba] H H' ∧
      ∃ os' pl', HG H' p bo bp ba n m os' pl' (ac.map (· / 2)) ∧ ∀ u, (nt pl' u = -1 ↔ nt pl u = -1)) NoP := by
  have c0 := h.ha.c0
  have c2 := h.ha.c2
  have hla := h.ha.la
  have hbig := h.ha.big
  have hn := h.ha.ne
  refine callF_of Tryz.func103 rfl Tryz.ntmps103 Tryz.results103 (by decide) rfl ?_
  simp (disch := omega) only [go_sem, ↓cw_block, dsB_of, c2]
  refine loop_by (fun k ρ H1 => ∃ (j : Nat) (ac1 : List Int), k = n + 1 - j ∧ j ≤ n + 1 ∧ (ρ.get 0 = hp p ∧ ρ.get 8 = iv (n + 1 : Nat) ∧ ρ.get 9 = iv j ∧ ρ.ds = []) ∧ HA H1 p bo bp ba n m os pl ac1 ∧ Fr [bo, bp, ba] H H1 ∧
    ∀ u, nt ac1 u = if u < j then nt ac u / 2 else nt ac u) (k := n + 1) ?_ ?_
  · exact ⟨0, ac, rfl, by omega, by simp (disch := omega) only [go_sem, ↓cw_block, dsB_of, Int.natCast_zero], h.ha, Fr.refl _ _, fun u => by simp⟩
  rintro k ρ H1 ⟨j, ac1, rfl, hj, ⟨r0, r8, r9, rd⟩, h1, f1, hac⟩
  have d2 := h1.c2
  have hla1 := h1.la
  by_cases hjn : j < n + 1
  · have cj := h1.ia.cell (i := j) (by omega)
    have wj := h1.ia.wr (i := j) (by omega)
    have haj := h.act j (by omega)
    have ej : nt ac1 j = nt ac j := by rw [hac, if_neg (by omega)]
    rw [ej] at cj
    simp (disch := omega) only [go_sem, ↓cw_block, dsB_of, r0, r8, r9, rd, d2, cj, wj]
    refine fin ⟨n + 1 - (j + 1), by omega, j + 1, ac1.set j (nt ac j / 2), rfl, by omega, by simp (disch := omega) only [go_sem, ↓cw_block, dsB_of, r0, r8, r9, rd, Int.natCast_add, Int.natCast_one], ?_, f1.set' (by simp), ?_⟩
    · exact ⟨h1.self.set_other hn.2.2.1, h1.io.set_other hn.2.2.2.2.1, h1.ip.set_other hn.2.2.2.2.2, h1.ia.set j _, h1.lo, h1.lp, by simp [hla1], hn, hbig⟩
    · intro u
      rw [nt_set (by omega)]
      unfold up1
      by_cases e : u = j
      · subst e; simp
      · rw [if_neg e, hac u]
        by_cases hu : u < j
        · rw [if_pos hu, if_pos (by omega)]
        · rw [if_neg hu, if_neg (by omega)]
  · have hall : ac1 = ac.map (· / 2) := by
      apply List.ext_getElem (by simp [hla1, hla])
      intro u hu1 hu2
      have e1 := nt_lt hu1
      have e2 : u < ac.length := by simpa using hu2
      have e3 := nt_lt e2
      rw [List.getElem?_eq_getElem hu1] at e1
      rw [List.getElem?_eq_getElem e2] at e3
      simp only [Option.some.injEq] at e1 e3
      rw [List.getElem_map, e1, e3, hac u, if_pos (by omega)]
    subst hall
    have d0 := h1.c0
    have hmn := h.ok.le
    have act1 : ∀ u, u ≤ n → 0 ≤ nt (ac.map (· / 2)) u ∧ nt (ac.map (· / 2)) u ≤ 1152921504606846976 := by
      intro u hu
      have := h.act u hu
      rw [hac u]
      split <;> omega
    simp (disch := omega) only [go_sem, ↓cw_block, dsB_of, r0, r8, r9, rd, d0]
    refine loop_by (fun k ρ H2 => ∃ (q : Int) (os2 pl2 : List Int), k = (q + 1).toNat ∧ -1 ≤ q ∧ q < m ∧ (ρ.get 0 = hp p ∧ ρ.get 3 = iv q ∧ ρ.ds = []) ∧ HA H2 p bo bp ba n m os2 pl2 (ac.map (· / 2)) ∧ Fr [bo, bp, ba] H H2 ∧
      Ok n m (nt os2) (nt pl2) ∧ (∀ j, 0 < j → j < m → q < par j → ¬ bf (nt (ac.map (· / 2))) (nt os2 j) (nt os2 (par j))) ∧ ∀ u, (nt pl2 u = -1 ↔ nt pl u = -1)) (k := ((m : Int) / 2 - 1 + 1).toNat) ?_ ?_
    · refine ⟨(m : Int) / 2 - 1, os, pl, rfl, by omega, by omega, by simp (disch := omega) only [go_sem, ↓cw_block, dsB_of, r0, r8, r9, rd], h1, f1, h.ok, ?_, fun _ => Iff.rfl⟩
      intro j hj hjm hpj
      unfold par at hpj; omega
    · rintro k ρ2 H2 ⟨q, os2, pl2, rfl, hq1, hq2, ⟨s0, s3, sd⟩, h2, f2, ok2, ord2, same2⟩
      by_cases hq0 : 0 ≤ q
      · obtain ⟨i, rfl⟩ : ∃ i : Nat, q = i := ⟨q.toNat, by omega⟩
        simp (disch := omega) only [go_sem, ↓cw_block, dsB_of, s0, s3, sd]
        refine call_to (down_spec (i := i) h2 ok2 (by omega) (fun j hj hjm hpj => ord2 j hj hjm (by omega))) ?_
        rintro r H3 ⟨rfl, f3, os3, pl3, h3, ok3, ord3, same3⟩
        simp (disch := omega) only [go_sem, ↓cw_block, dsB_of, s0, s3, sd]
        exact fin ⟨i, by omega, (i : Int) - 1, os3, pl3, by omega, by omega, by omega, by simp (disch := omega) only [go_sem, ↓cw_block, dsB_of, s0, s3, sd], h3, f2.trans (f3.mono (by intro b _ hb; simp only [List.mem_cons, List.not_mem_nil, or_false] at hb ⊢; omega)), ok3, fun j hj hjm hpj => ord3 j hj hjm (by omega), fun u => (same3 u).trans (same2 u)⟩
      · simp (disch := omega) only [go_sem, ↓cw_block, dsB_of, s0, s3, sd, dsB_of]
        exact fin ⟨rfl, f2, os2, pl2, ⟨h2, ok2, fun j hj hjm => ord2 j hj hjm (by omega), act1⟩, same2⟩

theorem blk_p1 {H : Heap} {vs : List Value} {t : TypeId} {x y : Obj} : Blk (((H.push (.cells vs.toArray t)).push x).push y) H.size t vs := ((Blk.new rfl).push _).push _
theorem blk_p2 {H : Heap} {vs : List Value} {t : TypeId} {x y : Obj} : Blk (((H.push x).push (.cells vs.toArray t)).push y) (H.size + 1) t vs := by
  have := (Blk.new (H := H.push x) (t := t) (vs := vs) rfl).push y
  rwa [Array.size_push] at this
theorem blk_p3 {H : Heap} {vs : List Value} {t : TypeId} {x y : Obj} : Blk (((H.push x).push y).push (.cells vs.toArray t)) (H.size + 1 + 1) t vs := by
  have := Blk.new (H := (H.push x).push y) (t := t) (vs := vs) rfl
  rwa [Array.size_push, Array.size_push] at this
theorem newHA {n : Nat} {H3 : Heap} {bo bp ba : Nat} (hn : n ≤ 100000) (h1 : Blk H3 bo 3 (List.replicate n (iv 0))) (h2 : Blk H3 bp 3 (List.replicate (n + 1) (iv 0))) (h3 : Blk H3 ba 2 (List.replicate (n + 1) (iv 0)))
    (hne : bo ≠ bp ∧ bo ≠ ba ∧ bp ≠ ba) : HA (H3.push (.cells #[.slice (some ⟨bo, 0, none⟩) n n, .slice (some ⟨bp, 0, none⟩) (n + 1) (n + 1), .slice (some ⟨ba, 0, none⟩) (n + 1) (n + 1)] 91)) H3.size bo bp ba n n (List.replicate n 0) (List.replicate (n + 1) 0) (List.replicate (n + 1) 0) := by
  have l1 := h1.lt
  have l2 := h2.lt
  have l3 := h3.lt
  refine ⟨Blk.new rfl, ?_, ?_, ?_, by simp, by simp, by simp, ⟨by omega, by omega, by omega, hne.1, hne.2.1, hne.2.2⟩, hn⟩
  · unfold IB; rw [List.map_replicate]; exact h1.push _
  · unfold IB; rw [List.map_replicate]; exact h2.push _
  · unfold IB; rw [List.map_replicate]; exact h3.push _
theorem new_no {n : Int} (hn : ¬ (0 ≤ n ∧ n ≤ 100000)) : CallF Tryz.prog 32 [iv n] H (fun r H' => H = H' ∧ r = .tuple #[.pointer none, iv 2]) NoP := by
  refine callF_of Tryz.func32 rfl Tryz.ntmps32 Tryz.results32 (by decide) rfl ?_
  by_cases h0 : n < 0
  · simp (disch := omega) only [go_sem, ↓cw_block, dsB_of]
    exact fin ⟨rfl, rfl⟩
  · simp (disch := omega) only [go_sem, ↓cw_block, dsB_of]
    exact fin ⟨rfl, rfl⟩

theorem new_yes {n : Nat} (hn : n ≤ 100000) : CallF Tryz.prog 32 [iv n] H (fun r H' => Fr [] H H' ∧ ∃ p bo bp ba os pl, r = .tuple #[hp p, iv 0] ∧ (H.size ≤ p ∧ H.size ≤ bo ∧ H.size ≤ bp ∧ H.size ≤ ba) ∧
    HG H' p bo bp ba n n os pl (List.replicate (n + 1) 0) ∧ (∀ v, 1 ≤ v → v ≤ n → nt pl v ≠ -1)) NoP := by
  have bl := fun (x y z : Option Addr) (a b c d e f : Nat) => build_of (P := Tryz.prog) (t := 91) (parts := [(0, .slice x a b), (1, .slice y c d), (2, .slice z e f)]) (v := .agg #[.slice x a b, .slice y c d, .slice z e f])
    (by simp [buildL, T.places91, T.zero91, fillL, setR, chk, Value.cells])
  have en : ((n : Int) + 1).toNat = n + 1 := by omega
  refine callF_of Tryz.func32 rfl Tryz.ntmps32 Tryz.results32 (by decide) rfl ?_
  simp (disch := omega) only [go_sem, ↓cw_block, dsB_of]
  refine cut_by (fun ρ H1 => ∃ p bo bp ba, (ρ.get 0 = iv n ∧ ρ.get 4 = hp p ∧ ρ.ds = []) ∧ (H.size ≤ p ∧ H.size ≤ bo ∧ H.size ≤ bp ∧ H.size ≤ ba) ∧ Fr [] H H1 ∧
    HA H1 p bo bp ba n n (List.replicate n 0) (List.replicate (n + 1) 0) (List.replicate (n + 1) 0)) ?_ ?_
  · refine draw0 (lk [(0, false), (2, false), (3, false), (5, false), (6, false)] (.act 1 (.act 4 (.act 7 (lk [(8, true)] (.actd 9 (lk [(10, true)] .fin))) .non) (.act 7 (.act 4 (lk [(8, true)] (.actd 9 (lk [(10, true)] .fin))) .non) .non)) (.act 4 (.act 1 (.act 7 (lk [(8, true)] (.actd 9 (lk [(10, true)] .fin))) .non) (.act 7 (.act 1 (lk [(8, true)] (.actd 9 (lk [(10, true)] .fin))) .non) .non)) (.act 7 (.act 1 (.act 4 (lk [(8, true)] (.actd 9 (lk [(10, true)] .fin))) .non) (.act 4 (.act 1 (lk [(8, true)] (.actd 9 (lk [(10, true)] .fin))) .non) .non)) .non)))) T.mixed ?_
    repeat' (first | simp (disch := omega) only [go_sem, ↓cw_block, dsB_of, bl, en] | refine both_of ?_ ?_)
    · refine fin ⟨H.size + 1 + 1 + 1, H.size, H.size + 1, H.size + 1 + 1, by simp (disch := omega) only [go_sem, ↓cw_block, dsB_of, newPtr, Array.size_push], by omega, by repeat (first | exact Fr.refl _ _ | refine Fr.push' ?_), ?_⟩
      have hh := newHA (H3 := ((H.push (.cells (List.replicate n (Value.int .i64 0)).toArray 3)).push (.cells (List.replicate (n + 1) (Value.int .i64 0)).toArray 3)).push (.cells (List.replicate (n + 1) (Value.int .i64 0)).toArray 2)) (bo := H.size) (bp := H.size + 1) (ba := H.size + 1 + 1) hn ?_ ?_ ?_ (by omega)
      · simp only [Array.size_push] at hh ⊢; exact hh
      all_goals first | exact blk_p1 | exact blk_p2 | exact blk_p3
    · refine fin ⟨H.size + 1 + 1 + 1, H.size, H.size + 1 + 1, H.size + 1, by simp (disch := omega) only [go_sem, ↓cw_block, dsB_of, newPtr, Array.size_push], by omega, by repeat (first | exact Fr.refl _ _ | refine Fr.push' ?_), ?_⟩
      have hh := newHA (H3 := ((H.push (.cells (List.replicate n (Value.int .i64 0)).toArray 3)).push (.cells (List.replicate (n + 1) (Value.int .i64 0)).toArray 2)).push (.cells (List.replicate (n + 1) (Value.int .i64 0)).toArray 3)) (bo := H.size) (bp := H.size + 1 + 1) (ba := H.size + 1) hn ?_ ?_ ?_ (by omega)
      · simp only [Array.size_push] at hh ⊢; exact hh
      all_goals first | exact blk_p1 | exact blk_p2 | exact blk_p3
    · refine fin ⟨H.size + 1 + 1 + 1, H.size + 1, H.size, H.size + 1 + 1, by simp (disch := omega) only [go_sem, ↓cw_block, dsB_of, newPtr, Array.size_push], by omega, by repeat (first | exact Fr.refl _ _ | refine Fr.push' ?_), ?_⟩
      have hh := newHA (H3 := ((H.push (.cells (List.replicate (n + 1) (Value.int .i64 0)).toArray 3)).push (.cells (List.replicate n (Value.int .i64 0)).toArray 3)).push (.cells (List.replicate (n + 1) (Value.int .i64 0)).toArray 2)) (bo := H.size + 1) (bp := H.size) (ba := H.size + 1 + 1) hn ?_ ?_ ?_ (by omega)
      · simp only [Array.size_push] at hh ⊢; exact hh
      all_goals first | exact blk_p1 | exact blk_p2 | exact blk_p3
    · refine fin ⟨H.size + 1 + 1 + 1, H.size + 1 + 1, H.size, H.size + 1, by simp (disch := omega) only [go_sem, ↓cw_block, dsB_of, newPtr, Array.size_push], by omega, by repeat (first | exact Fr.refl _ _ | refine Fr.push' ?_), ?_⟩
      have hh := newHA (H3 := ((H.push (.cells (List.replicate (n + 1) (Value.int .i64 0)).toArray 3)).push (.cells (List.replicate (n + 1) (Value.int .i64 0)).toArray 2)).push (.cells (List.replicate n (Value.int .i64 0)).toArray 3)) (bo := H.size + 1 + 1) (bp := H.size) (ba := H.size + 1) hn ?_ ?_ ?_ (by omega)
      · simp only [Array.size_push] at hh ⊢; exact hh
      all_goals first | exact blk_p1 | exact blk_p2 | exact blk_p3
    · refine fin ⟨H.size + 1 + 1 + 1, H.size + 1, H.size + 1 + 1, H.size, by simp (disch := omega) only [go_sem, ↓cw_block, dsB_of, newPtr, Array.size_push], by omega, by repeat (first | exact Fr.refl _ _ | refine Fr.push' ?_), ?_⟩
      have hh := newHA (H3 := ((H.push (.cells (List.replicate (n + 1) (Value.int .i64 0)).toArray 2)).push (.cells (List.replicate n (Value.int .i64 0)).toArray 3)).push (.cells (List.replicate (n + 1) (Value.int .i64 0)).toArray 3)) (bo := H.size + 1) (bp := H.size + 1 + 1) (ba := H.size) hn ?_ ?_ ?_ (by omega)
      · simp only [Array.size_push] at hh ⊢; exact hh
      all_goals first | exact blk_p1 | exact blk_p2 | exact blk_p3
    · refine fin ⟨H.size + 1 + 1 + 1, H.size + 1 + 1, H.size + 1, H.size, by simp (disch := omega) only [go_sem, ↓cw_block, dsB_of, newPtr, Array.size_push], by omega, by repeat (first | exact Fr.refl _ _ | refine Fr.push' ?_), ?_⟩
      have hh := newHA (H3 := ((H.push (.cells (List.replicate (n + 1) (Value.int .i64 0)).toArray 2)).push (.cells (List.replicate (n + 1) (Value.int .i64 0)).toArray 3)).push (.cells (List.replicate n (Value.int .i64 0)).toArray 3)) (bo := H.size + 1 + 1) (bp := H.size + 1) (ba := H.size) hn ?_ ?_ ?_ (by omega)
      · simp only [Array.size_push] at hh ⊢; exact hh
      all_goals first | exact blk_p1 | exact blk_p2 | exact blk_p3
  · rintro ρ H1 ⟨p, bo, bp, ba, ⟨r0, r4, rd⟩, hsz, f1, h1⟩
    have hne := h1.ne
    have d1 := h1.c1
    have w0 := h1.ip.wr (i := 0) (by simp)
    simp (disch := omega) only [go_sem, ↓cw_block, dsB_of, r0, r4, rd, d1, w0]
    refine loop_by (fun k ρ H2 => ∃ (j : Nat) (os pl : List Int), k = n - j ∧ j ≤ n ∧ (ρ.get 4 = hp p ∧ ρ.get 27 = iv n ∧ ρ.get 28 = iv j ∧ ρ.ds = []) ∧ HA H2 p bo bp ba n n os pl (List.replicate (n + 1) 0) ∧ Fr [] H H2 ∧
      (∀ u, u < j → nt os u = u + 1) ∧ nt pl 0 = -1 ∧ (∀ u, 1 ≤ u → u ≤ j → nt pl u = u - 1)) (k := n) ?_ ?_
    · refine ⟨0, _, (List.replicate (n + 1) 0).set 0 (-1), rfl, by omega, by simp (disch := omega) only [go_sem, ↓cw_block, dsB_of, r0, r4, rd], ⟨h1.self.set_other hne.2.1, h1.io.set_other hne.2.2.2.1, h1.ip.set 0 (-1), h1.ia.set_other hne.2.2.2.2.2.symm, h1.lo, by simp, h1.la, hne, hn⟩, f1.set' (.inr (by simp; omega)), ?_, ?_, ?_⟩
      · intro u hu; omega
      · exact nt_set_eq (by simp)
      · intro u hu1 hu2; omega
    · rintro k ρ2 H2 ⟨j, os, pl, rfl, hj, ⟨s4, s27, s28, sd⟩, h2, f2, ho, hp0, hpl⟩
      have hlo := h2.lo
      have hlp := h2.lp
      by_cases hjn : j < n
      · have e0 := h2.c0
        have wj := h2.io.wr (i := j) (by omega)
        have h3 : HA (setH H2 ⟨bo, j, none⟩ (iv ((j : Int) + 1))) p bo bp ba n n (os.set j ((j : Int) + 1)) pl (List.replicate (n + 1) 0) :=
          ⟨h2.self.set_other hne.1, h2.io.set j _, h2.ip.set_other hne.2.2.2.1.symm, h2.ia.set_other hne.2.2.2.2.1.symm, by simp [hlo], hlp, h2.la, hne, hn⟩
        have e1 := h3.c1
        have ej : ((j : Int) + 1).toNat = j + 1 := by omega
        have wj' := h3.ip.wr (i := j + 1) (by omega)
        simp (disch := omega) only [go_sem, ↓cw_block, dsB_of, s4, s27, s28, sd, e0, wj, e1, ej, wj']
        refine fin ⟨n - (j + 1), by omega, j + 1, os.set j ((j : Int) + 1), pl.set (j + 1) j, rfl, by omega, by simp (disch := omega) only [go_sem, ↓cw_block, dsB_of, s4, s27, s28, sd, Int.natCast_add, Int.natCast_one],
          ⟨h3.self.set_other hne.2.1, h3.io.set_other hne.2.2.2.1, h3.ip.set _ _, h3.ia.set_other hne.2.2.2.2.2.symm, h3.lo, by simp [hlp], h3.la, hne, hn⟩, (f2.set' (.inr (by simp; omega))).set' (.inr (by simp; omega)), ?_, ?_, ?_⟩
        · intro u hu
          rw [nt_set (by omega)]; unfold up1
          split
          · rename_i e; rw [e]
          · exact ho u (by omega)
        · rw [nt_set_ne (by omega)]; exact hp0
        · intro u hu1 hu2
          rw [nt_set (by omega)]; unfold up1
          split
          · rename_i e; rw [e]; omega
          · exact hpl u hu1 (by omega)
      · simp (disch := omega) only [go_sem, ↓cw_block, dsB_of, s4, s27, s28, sd, dsB_of]
        have hjn' : j = n := by omega
        subst hjn'
        have z : ∀ v, nt (List.replicate (j + 1) 0) v = 0 := by
          intro v; unfold nt; rw [List.getD_eq_getElem?_getD, List.getElem?_replicate]; split <;> rfl
        refine fin ⟨f2, p, bo, bp, ba, os, pl, rfl, hsz, ⟨h2, ⟨Nat.le_refl _, ?_, ?_, hp0⟩, ?_, ?_⟩, ?_⟩
        · intro i hi
          rw [ho i hi]
          have e : ((i : Int) + 1).toNat = i + 1 := by omega
          rw [e, hpl (i + 1) (by omega) (by omega)]
          omega
        · intro v hv1 hv2
          right
          rw [hpl v hv1 hv2]
          have e : ((v : Int) - 1).toNat = v - 1 := by omega
          rw [e, ho (v - 1) (by omega)]
          omega
        · intro u hu hum
          unfold bf
          rw [z, z, ho u hum, ho (par u) (by unfold par; omega)]
          unfold par; omega
        · intro v _; rw [z]; omega
        · intro v hv1 hv2; rw [hpl v hv1 hv2]; omega
end
end Go.Proofs.YtofooamimiijlaaGreat

