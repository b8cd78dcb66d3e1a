/- The law's example. -/
import Derived.Test.YtofooamimiijlaaGreatL20
import Derived.Test.YtofooamimiijlaaGreatL15
namespace Go.Sat
set_option linter.unusedVariables false
section
variable {n : Nat} {s : St} {C : List Nat} {w : Nat → List Nat} {G : List (List Nat)} {head : Nat}
/-- What is left of a clause follows. -/
theorem SI.force (h : SI n s C w G head) (hh : head = s.tr.length) {g : List Nat} (hg : g ∈ G) {x : Nat} (ht : ¬ ∃ y ∈ g, neg y ∈ g) (hx : ∀ y ∈ g, y = x ∨ neg y ∈ s.tr) : x ∈ s.tr := by
  rcases h.gi.cmp g hg with h1 | ⟨y, hy, i, hi, -⟩ | ⟨c, hc, hs⟩
  · exact absurd h1 ht
  · have hm := List.mem_of_getElem? hi
    rcases hx y hy with rfl | h2
    · exact hm
    · exact (h.inv.ok.clash hm h2).elim
  · obtain ⟨hl, hcd, hnd⟩ := h.wi.cl c hc
    have hw := (h.pi c hc).2 (by simp)
    match he : s.lits c, hl with
    | a :: b :: r, _ =>
      rw [he] at hs hnd
      obtain ⟨w1, w2⟩ := hw a b r he
      have hab : a ≠ b := by
        intro e
        subst e
        simp at hnd
      rcases hx a (hs a (by simp)) with e | ha
      · subst e
        rcases hx b (hs b (by simp)) with e | hb
        · exact absurd e.symm hab
        · obtain ⟨q, hq⟩ := List.getElem?_of_mem hb
          obtain ⟨j, hj, -⟩ := w2 q (by rw [hh]; exact (List.getElem?_eq_some_iff.1 hq).1) hq
          exact List.mem_of_getElem? hj
      · obtain ⟨q, hq⟩ := List.getElem?_of_mem ha
        obtain ⟨j, hj, -⟩ := w1 q (by rw [hh]; exact (List.getElem?_eq_some_iff.1 hq).1) hq
        have hm := List.mem_of_getElem? hj
        rcases hx b (hs b (by simp)) with e | hb
        · rw [← e]; exact hm
        · exact (h.inv.ok.clash hm hb).elim
end
end Go.Sat
namespace Go.Proofs.YtofooamimiijlaaGreat
open Go.HL HM Go.Sat
set_option maxRecDepth 10000
set_option linter.unusedSimpArgs false
set_option linter.unusedVariables false

theorem rn_nil {H : Heap} : Rn H none [] := fun i x h => by simp at h
/-- A made slice of numbers. -/
theorem Rn.new {H : Heap} {xs : List Int} {t : Nat} : Rn (H.push (.cells (xs.map iv).toArray t)) (some ⟨H.size, 0, none⟩) xs := fun i x h => by
  have hb : Blk (H.push (.cells (xs.map iv).toArray t)) H.size t (xs.map iv) := Blk.new rfl
  refine ⟨H.size, 0, rfl, ?_⟩
  rw [hb.cell, Nat.zero_add, List.getElem?_map, h]; rfl
/-- The clauses of the example: their models, and what follows. -/
def mAw (x : Nat) : Bool := if x / 2 = 1 then x % 2 == 1 else x % 2 == 0
theorem mAw_mdl : Mdl mAw := ⟨fun x => by
  unfold mAw
  rw [neg_var]
  have h1 : (neg x) % 2 = 1 - x % 2 := by unfold neg; split <;> omega
  rw [h1]
  have : x % 2 = 0 ∨ x % 2 = 1 := by omega
  rcases this with e | e <;> rw [e] <;> split <;> rfl⟩
section
variable {s : St} {C : List Nat} {w : Nat → List Nat} {head : Nat} {css gl : List (List Int)}
theorem nfs_force {n : Nat} (h : SI n s C w (gcode gl) head) (hh : head = s.tr.length) (hn : NFs css gl) {c : List Int} (hc : c ∈ css) {x : Int} (hl : ∀ y ∈ c, y ≠ 0) (ht : ¬ ∃ y ∈ c, -y ∈ c) (hx : ∀ y ∈ c, y = x ∨ codeN (-y) ∈ s.tr) : codeN x ∈ s.tr := by
  obtain ⟨i, hi⟩ := List.getElem?_of_mem hc
  have hil := (List.getElem?_eq_some_iff.1 hi).1
  obtain ⟨g, hg⟩ : ∃ g, gl[i]? = some g := ⟨_, List.getElem?_eq_getElem (by rw [hn.len]; exact hil)⟩
  obtain ⟨idle, hnf⟩ := hn.nf i c g hi hg
  refine h.force hh (g := g.map codeN) (List.mem_reverse.2 (List.mem_map.2 ⟨g, List.mem_of_getElem? hg, rfl⟩)) ?_ ?_
  · rintro ⟨y, hy, hny⟩
    obtain ⟨z, hz, rfl⟩ := List.mem_map.1 hy
    obtain ⟨u, hu, e⟩ := List.mem_map.1 hny
    have hz0 := hl z ((hnf.mem z).1 hz)
    have hu0 := hl u ((hnf.mem u).1 hu)
    rw [codeN_neg hz0] at e
    have : u = -z := by
      unfold codeN at e
      split at e <;> split at e <;> omega
    exact ht ⟨z, (hnf.mem z).1 hz, by rw [← this]; exact (hnf.mem u).1 hu⟩
  · intro y hy
    obtain ⟨z, hz, rfl⟩ := List.mem_map.1 hy
    have hzc := (hnf.mem z).1 hz
    rcases hx z hzc with e | e
    · exact .inl (by rw [e])
    · exact .inr (by rw [codeN_neg (hl z hzc)]; exact e)
theorem aw_force {n : Nat} (h : SI n s C w (gcode gl) head) (hh : head = s.tr.length) (hn : NFs css gl) (h1 : [1, 2] ∈ css) (h2 : [-1] ∈ css) : 3 ∈ s.tr ∧ 4 ∈ s.tr := by
  have g3 : codeN (-1) ∈ s.tr := nfs_force h hh hn h2 (by simp) (by simp) (by simp)
  refine ⟨g3, nfs_force (x := 2) h hh hn h1 (by simp) (by simp) ?_⟩
  intro y hy
  simp only [List.mem_cons, List.not_mem_nil, or_false] at hy
  rcases hy with rfl | rfl
  · exact .inr g3
  · exact .inl rfl
theorem aw_full (h : SI 2 s C w (gcode gl) head) (hh : head = s.tr.length) (hn : NFs css gl) (h1 : [1, 2] ∈ css) (h2 : [-1] ∈ css) : s.tr.length = 2 := by
  obtain ⟨g3, g4⟩ := aw_force h hh hn h1 h2
  have hl := h.inv.ok.len
  match ht : s.tr with
  | [] => rw [ht] at g3; cases g3
  | [a] => rw [ht] at g3 g4; simp at g3 g4; omega
  | [a, b] => rfl
  | a :: b :: c :: r => rw [ht] at hl; simp at hl
end
end Go.Proofs.YtofooamimiijlaaGreat

namespace Go.Proofs.YtofooamimiijlaaGreat
open Go.HL HM Go.Sat
set_option maxRecDepth 10000
set_option linter.unusedSimpArgs false
set_option linter.unusedVariables false

section
variable {L : List Nat}
theorem litM_even {n : Nat} : litM L (2 * n) = varOf L n := by
  unfold litM
  rw [if_neg (by omega), show 2 * n / 2 = n by omega]
theorem litM_odd {n : Nat} : litM L (2 * n + 1) = -varOf L n := by
  unfold litM
  rw [if_pos (by omega), show (2 * n + 1) / 2 = n by omega]
theorem varOf_inj {n m : Nat} (hn : n ∈ L) (hm : m ∈ L) (h : varOf L n = varOf L m) : n = m := by
  unfold varOf at h
  rw [if_pos hn, if_pos hm] at h
  have e : L.idxOf n = L.idxOf m := by omega
  have h1 := List.getElem_idxOf (List.idxOf_lt_length_of_mem hn)
  have h2 := List.getElem_idxOf (List.idxOf_lt_length_of_mem hm)
  rw [← h1, ← h2]
  congr 1
theorem litM_abs {e : Nat} (h : e / 2 ∈ L) : ((litM L e).natAbs : Int) = varOf L (e / 2) := by
  have := varOf_pos h
  unfold litM
  split <;> omega
theorem litM_inj {a b : Nat} (ha : a / 2 ∈ L) (hb : b / 2 ∈ L) (h : litM L a = litM L b) : a = b := by
  have h1 := litM_abs ha
  have h2 := litM_abs hb
  rw [h] at h1
  have e := varOf_inj ha hb (h1.symm.trans h2)
  have hp := varOf_pos hb
  unfold litM at h
  rw [e] at h
  split at h <;> split at h <;> omega
end
/-- Truths that clauses force. -/
structure Forc (css : List (List Int)) (T : Int → Prop) : Prop where
  clash : ∀ l, l ≠ 0 → T l → ¬ T (-l)
  force : ∀ c ∈ css, ∀ x, (∀ y ∈ c, y ≠ 0) → (¬ ∃ y ∈ c, -y ∈ c) → (∀ y ∈ c, y = x ∨ T (-y)) → T x
def KL (L : List Nat) (T : Int → Prop) (e : Nat) : Prop := e / 2 ∈ L ∧ T (litM L e)
/-- A graph whose ands are proper. -/
def Fine (ns : List Pr) : Prop := ∀ (n : Nat) (p : Pr), ns[n]? = some p → p ≠ (0, 0) → p.1 ≠ nx p.2 ∧ p.1 / 2 < n ∧ p.2 / 2 < n
theorem Fine.of {ns ns' : List Pr} {k : Nat} (h : ∀ p ∈ ns, p = (0, 0)) (hp : PreA ns ns' k) (hd : Dn ns') : Fine ns' := fun n p hn hne => by
  obtain ⟨t, rfl, -, hq⟩ := hp
  have h1 : p.1 ≠ nx p.2 := by
    rcases List.mem_append.1 (List.mem_of_getElem? hn) with hm | hm
    · exact absurd (h p hm) hne
    · exact (hq p hm).2.2
  rcases hd n p hn with h2 | ⟨-, h2, h3⟩
  · exact absurd h2 hne
  · exact ⟨h1, by omega, by omega⟩
theorem upc_of {ns : List Pr} {s : MS} {T : Int → Prop} (hok : OkM ns s) (hf : Fine ns) (F : Forc s.2 T) : UPC ns s.1 (KL s.1 T) := by
  have gd : ∀ {n : Nat} {p : Pr}, ns[n]? = some p → ns.getD n (0, 0) = p := fun h => by rw [List.getD_eq_getElem?_getD, h]; rfl
  have node : ∀ n ∈ s.1, ∀ p, ns[n]? = some p → p ≠ (0, 0) → (p.1 / 2 ∈ s.1 ∧ p.2 / 2 ∈ s.1) ∧ (cl1 s.1 p n ∈ s.2 ∧ cl2 s.1 p n ∈ s.2 ∧ cl3 s.1 p n ∈ s.2) := fun n hn p h hne => by
    have h1 := hok.kid n hn (by rw [gd h]; exact hne)
    have h2 := hok.tri n hn (by rw [gd h]; exact hne)
    rw [gd h] at h1 h2
    exact ⟨h1, h2⟩
  -- what is different
  have diff : ∀ n ∈ s.1, ∀ p, ns[n]? = some p → p ≠ (0, 0) → 1 ≤ varOf s.1 n ∧ litM s.1 p.1 ≠ 0 ∧ litM s.1 p.2 ≠ 0 ∧ (litM s.1 p.1).natAbs ≠ (varOf s.1 n).natAbs ∧ (litM s.1 p.2).natAbs ≠ (varOf s.1 n).natAbs ∧ litM s.1 p.1 ≠ -litM s.1 p.2 := fun n hn p h hne => by
    obtain ⟨⟨k1, k2⟩, -⟩ := node n hn p h hne
    obtain ⟨f1, f2, f3⟩ := hf n p h hne
    have v := varOf_pos hn
    have a1 := litM_abs k1
    have a2 := litM_abs k2
    refine ⟨v.1, (litM_in k1).1, (litM_in k2).1, fun e => ?_, fun e => ?_, fun e => ?_⟩
    · have := varOf_inj k1 hn (by omega); omega
    · have := varOf_inj k2 hn (by omega); omega
    · rw [← litM_nx] at e
      exact f1 (litM_inj k1 (by rw [nx_div]; exact k2) e)
  refine ⟨fun e h1 h2 => ?_, ⟨hok.z, ?_⟩, fun e h => h.1, fun n hn p h hne => (node n hn p h hne).1, ?_, ?_, ?_, ?_⟩
  · have := h2.2
    rw [litM_nx] at this
    exact F.clash _ (litM_in h1.1).1 h1.2 this
  · have e : litM s.1 1 = -1 := by
      have := litM_odd (L := s.1) (n := 0)
      rw [hok.v0] at this; exact this
    rw [e]
    exact F.force _ hok.one (-1) (by simp) (by simp) (by simp)
  · intro n hn p h hne h1 h2
    obtain ⟨-, -, -, c3⟩ := node n hn p h hne
    obtain ⟨d1, d2, d3, d4, d5, d6⟩ := diff n hn p h hne
    refine ⟨by rw [show 2 * n / 2 = n by omega]; exact hn, ?_⟩
    rw [litM_even]
    refine F.force _ c3 _ (fun y hy => ?_) ?_ (fun y hy => ?_)
    · simp only [cl3, List.mem_cons, List.not_mem_nil, or_false] at hy
      rcases hy with rfl | rfl | rfl <;> omega
    · rintro ⟨y, hy, hny⟩
      simp only [cl3, List.mem_cons, List.not_mem_nil, or_false] at hy hny
      rcases hy with rfl | rfl | rfl <;> rcases hny with e | e | e <;> omega
    · simp only [cl3, List.mem_cons, List.not_mem_nil, or_false] at hy
      rcases hy with rfl | rfl | rfl
      · exact .inl rfl
      · exact .inr (by rw [Int.neg_neg]; exact h1.2)
      · exact .inr (by rw [Int.neg_neg]; exact h2.2)
  · intro n hn p h hne hor
    obtain ⟨-, c1, c2, -⟩ := node n hn p h hne
    obtain ⟨d1, d2, d3, d4, d5, d6⟩ := diff n hn p h hne
    refine ⟨by rw [show (2 * n + 1) / 2 = n by omega]; exact hn, ?_⟩
    rw [litM_odd]
    rcases hor with h1 | h1
    · have h1 := h1.2
      rw [litM_nx] at h1
      refine F.force _ c1 _ (fun y hy => ?_) ?_ (fun y hy => ?_)
      · simp only [cl1, List.mem_cons, List.not_mem_nil, or_false] at hy
        rcases hy with rfl | rfl <;> omega
      · rintro ⟨y, hy, hny⟩
        simp only [cl1, List.mem_cons, List.not_mem_nil, or_false] at hy hny
        rcases hy with rfl | rfl <;> rcases hny with e | e <;> omega
      · simp only [cl1, List.mem_cons, List.not_mem_nil, or_false] at hy
        rcases hy with rfl | rfl
        · exact .inl rfl
        · exact .inr h1
    · have h1 := h1.2
      rw [litM_nx] at h1
      refine F.force _ c2 _ (fun y hy => ?_) ?_ (fun y hy => ?_)
      · simp only [cl2, List.mem_cons, List.not_mem_nil, or_false] at hy
        rcases hy with rfl | rfl <;> omega
      · rintro ⟨y, hy, hny⟩
        simp only [cl2, List.mem_cons, List.not_mem_nil, or_false] at hy hny
        rcases hy with rfl | rfl <;> rcases hny with e | e <;> omega
      · simp only [cl2, List.mem_cons, List.not_mem_nil, or_false] at hy
        rcases hy with rfl | rfl
        · exact .inl rfl
        · exact .inr h1
  · intro n hn p h hne hk
    obtain ⟨⟨k1, k2⟩, c1, c2, -⟩ := node n hn p h hne
    obtain ⟨d1, d2, d3, d4, d5, d6⟩ := diff n hn p h hne
    have hk := hk.2
    rw [litM_even] at hk
    refine ⟨⟨k1, F.force _ c1 _ (fun y hy => ?_) ?_ (fun y hy => ?_)⟩, ⟨k2, F.force _ c2 _ (fun y hy => ?_) ?_ (fun y hy => ?_)⟩⟩
    · simp only [cl1, List.mem_cons, List.not_mem_nil, or_false] at hy
      rcases hy with rfl | rfl <;> omega
    · rintro ⟨y, hy, hny⟩
      simp only [cl1, List.mem_cons, List.not_mem_nil, or_false] at hy hny
      rcases hy with rfl | rfl <;> rcases hny with e | e <;> omega
    · simp only [cl1, List.mem_cons, List.not_mem_nil, or_false] at hy
      rcases hy with rfl | rfl
      · exact .inr (by rw [Int.neg_neg]; exact hk)
      · exact .inl rfl
    · simp only [cl2, List.mem_cons, List.not_mem_nil, or_false] at hy
      rcases hy with rfl | rfl <;> omega
    · rintro ⟨y, hy, hny⟩
      simp only [cl2, List.mem_cons, List.not_mem_nil, or_false] at hy hny
      rcases hy with rfl | rfl <;> rcases hny with e | e <;> omega
    · simp only [cl2, List.mem_cons, List.not_mem_nil, or_false] at hy
      rcases hy with rfl | rfl
      · exact .inr (by rw [Int.neg_neg]; exact hk)
      · exact .inl rfl
  · intro n hn p h hne hk
    obtain ⟨⟨k1, k2⟩, -, -, c3⟩ := node n hn p h hne
    obtain ⟨d1, d2, d3, d4, d5, d6⟩ := diff n hn p h hne
    have hk := hk.2
    rw [litM_odd] at hk
    have hz : ∀ y ∈ cl3 s.1 p n, y ≠ 0 := fun y hy => by
      simp only [cl3, List.mem_cons, List.not_mem_nil, or_false] at hy
      rcases hy with rfl | rfl | rfl <;> omega
    have ht : ¬ ∃ y ∈ cl3 s.1 p n, -y ∈ cl3 s.1 p n := by
      rintro ⟨y, hy, hny⟩
      simp only [cl3, List.mem_cons, List.not_mem_nil, or_false] at hy hny
      rcases hy with rfl | rfl | rfl <;> rcases hny with e | e | e <;> omega
    refine ⟨fun h1 => ⟨by rw [nx_div]; exact k2, ?_⟩, fun h1 => ⟨by rw [nx_div]; exact k1, ?_⟩⟩
    · rw [litM_nx]
      refine F.force _ c3 _ hz ht fun y hy => ?_
      simp only [cl3, List.mem_cons, List.not_mem_nil, or_false] at hy
      rcases hy with rfl | rfl | rfl
      · exact .inr hk
      · exact .inr (by rw [Int.neg_neg]; exact h1.2)
      · exact .inl rfl
    · rw [litM_nx]
      refine F.force _ c3 _ hz ht fun y hy => ?_
      simp only [cl3, List.mem_cons, List.not_mem_nil, or_false] at hy
      rcases hy with rfl | rfl | rfl
      · exact .inr hk
      · exact .inl rfl
      · exact .inr (by rw [Int.neg_neg]; exact h1.2)
/-- A trail that is closed. -/
theorem forc_tr {n : Nat} {st : St} {C : List Nat} {w : Nat → List Nat} {head : Nat} {css gl : List (List Int)} (h : SI n st C w (gcode gl) head) (hh : head = st.tr.length) (hn : NFs css gl) : Forc css (fun l => codeN l ∈ st.tr) :=
  ⟨fun l hl h1 h2 => h.inv.ok.clash h1 (by rw [codeN_neg hl]; exact h2), fun c hc x h1 h2 h3 => nfs_force h hh hn hc h1 h2 h3⟩
/-- A model. -/
theorem forc_m {m : Nat → Bool} (hm : Mdl m) {css : List (List Int)} (hs : Sats m css) : Forc css (fun l => m (codeN l) = true) :=
  ⟨fun l hl h1 h2 => (by rw [← codeN_neg hl, hm.neg, h1] at h2; cases h2), fun c hc x h1 h2 h3 => by
    obtain ⟨y, hy, hmy⟩ := hs c hc
    rcases h3 y hy with rfl | h4
    · exact hmy
    · rw [← codeN_neg (h1 y hy), hm.neg, hmy] at h4; cases h4⟩
/-- The model that values of the nodes make. -/
def mV (L : List Nat) (f : Nat → Bool) (x : Nat) : Bool := if x % 2 = 0 then f (L.getD (x / 2 - 1) 0) else !f (L.getD (x / 2 - 1) 0)
theorem mV_mdl {L : List Nat} {f : Nat → Bool} : Mdl (mV L f) := ⟨fun x => by
  unfold mV
  rw [neg_var]
  have h1 : (neg x) % 2 = 1 - x % 2 := by unfold neg; split <;> omega
  rw [h1]
  have : x % 2 = 0 ∨ x % 2 = 1 := by omega
  rcases this with e | e <;> rw [e] <;> simp⟩
theorem mV_var {L : List Nat} {f : Nat → Bool} {n : Nat} (hn : n ∈ L) : mV L f (codeN (varOf L n)) = f n ∧ mV L f (codeN (-varOf L n)) = !f n := by
  have hv := varOf_pos hn
  have e : varOf L n = (L.idxOf n : Int) + 1 := if_pos hn
  have hg : L.getD (L.idxOf n) 0 = n := by
    rw [List.getD_eq_getElem?_getD, List.getElem?_eq_getElem (List.idxOf_lt_length_of_mem hn), List.getElem_idxOf]; rfl
  have c1 : codeN (varOf L n) = 2 * (L.idxOf n + 1) := by rw [e]; unfold codeN; rw [if_neg (by omega)]; omega
  have c2 : codeN (-varOf L n) = 2 * (L.idxOf n + 1) + 1 := by rw [e]; unfold codeN; rw [if_pos (by omega)]; omega
  constructor
  · rw [c1]; unfold mV
    rw [if_pos (by omega), show 2 * (L.idxOf n + 1) / 2 - 1 = L.idxOf n by omega, hg]
  · rw [c2]; unfold mV
    rw [if_neg (by omega), show (2 * (L.idxOf n + 1) + 1) / 2 - 1 = L.idxOf n by omega, hg]
theorem mV_lit {L : List Nat} {f : Nat → Bool} {e : Nat} (he : e / 2 ∈ L) : mV L f (codeN (litM L e)) = eV f e ∧ mV L f (codeN (-litM L e)) = !eV f e := by
  obtain ⟨h1, h2⟩ := mV_var (f := f) he
  unfold litM eV
  by_cases h : e % 2 = 1
  · rw [if_pos h, Int.neg_neg, h1, h2, decide_eq_true h]; cases f (e / 2) <;> simp
  · rw [if_neg h, h1, h2, decide_eq_false h]; cases f (e / 2) <;> simp
theorem mV_sats {ns : List Pr} {s : MS} {f : Nat → Bool} (hok : OkM ns s) (V : Val ns f) : Sats (mV s.1 f) s.2 := fun c hc => by
  rcases hok.only c hc with rfl | ⟨n, hn, hne, hor⟩
  · refine ⟨-1, by simp, ?_⟩
    have := (mV_var (f := f) hok.z).2
    rw [hok.v0, V.z] at this; exact this
  · obtain ⟨k1, k2⟩ := hok.kid n hn hne
    have hp : ns[n]? = some (ns.getD n (0, 0)) := by
      rw [List.getD_eq_getElem?_getD] at hne ⊢
      cases h : ns[n]? with
      | none => rw [h] at hne; exact absurd rfl hne
      | some q => rfl
    have hv := V.nd n _ hp hne
    generalize ns.getD n (0, 0) = p at *
    obtain ⟨m1, m2⟩ := mV_var (f := f) hn
    obtain ⟨a1, a2⟩ := mV_lit (f := f) k1
    obtain ⟨b1, b2⟩ := mV_lit (f := f) k2
    cases e1 : eV f p.1 <;> cases e2 : eV f p.2 <;> rw [e1, e2] at hv <;> rw [e1] at a1 a2 <;> rw [e2] at b1 b2 <;> rw [hv] at m1 m2 <;> rcases hor with rfl | rfl | rfl
    all_goals first
      | exact ⟨_, by simp [cl1], m2⟩
      | exact ⟨_, by simp [cl1], a1⟩
      | exact ⟨_, by simp [cl2], m2⟩
      | exact ⟨_, by simp [cl2], b1⟩
      | exact ⟨varOf s.1 n, by simp [cl3], m1⟩
      | exact ⟨-litM s.1 p.1, by simp [cl3], a2⟩
      | exact ⟨-litM s.1 p.2, by simp [cl3], b2⟩
/-- Values out of those of the inputs. -/
def fvF (ns : List Pr) (inp : Nat → Bool) : Nat → Nat → Bool
  | 0, _ => false
  | f + 1, n => if ns.getD n (0, 0) = (0, 0) then inp n else eV (fvF ns inp f) (ns.getD n (0, 0)).1 && eV (fvF ns inp f) (ns.getD n (0, 0)).2
def fv (ns : List Pr) (inp : Nat → Bool) (n : Nat) : Bool := fvF ns inp (n + 1) n
theorem fvF_fuel {ns : List Pr} {inp : Nat → Bool} (h : Dn ns) : ∀ (f f' n : Nat), n < f → n < f' → fvF ns inp f n = fvF ns inp f' n := by
  intro f
  induction f with
  | zero => intro f' n h1; omega
  | succ f ih =>
    intro f' n h1 h2
    cases f' with
    | zero => omega
    | succ f' =>
      simp only [fvF]
      split
      · rfl
      · rename_i hne
        have hk := h.kid n hne
        unfold eV
        rw [ih f' _ (by omega) (by omega), ih f' _ (by omega) (by omega)]
theorem fv_leaf {ns : List Pr} {inp : Nat → Bool} {n : Nat} (hp : ns[n]? = some (0, 0)) : fv ns inp n = inp n := by
  have : ns.getD n (0, 0) = (0, 0) := by rw [List.getD_eq_getElem?_getD, hp]; rfl
  unfold fv fvF; rw [if_pos this]
theorem fv_val {ns : List Pr} {inp : Nat → Bool} (h : Dn ns) (h0 : ns[0]? = some (0, 0)) (hi : inp 0 = false) : Val ns (fv ns inp) := ⟨by rw [fv_leaf h0, hi], fun n p hp hne => by
  have hg : ns.getD n (0, 0) = p := by rw [List.getD_eq_getElem?_getD, hp]; rfl
  have hk := h.kid n (by rw [hg]; exact hne)
  have e : fv ns inp n = (eV (fvF ns inp n) (ns.getD n (0, 0)).1 && eV (fvF ns inp n) (ns.getD n (0, 0)).2) := by
    unfold fv; rw [fvF, if_neg (by rw [hg]; exact hne)]
  rw [e, ← hg]
  unfold eV fv
  rw [fvF_fuel h n ((ns.getD n (0, 0)).1 / 2 + 1) _ (by omega) (by omega), fvF_fuel h n ((ns.getD n (0, 0)).2 / 2 + 1) _ (by omega) (by omega)]⟩
theorem nodup_le' : ∀ {l1 l2 : List Nat}, l1.Nodup → (∀ x ∈ l1, x ∈ l2) → l1.length ≤ l2.length
  | [], _, _, _ => by simp
  | x :: l1, l2, hn, hs => by
    have hx := hs x (by simp)
    have hn' := List.nodup_cons.1 hn
    have h := nodup_le' (l1 := l1) (l2 := l2.erase x) hn'.2 (fun y hy => (List.mem_erase_of_ne (fun (e : y = x) => hn'.1 (by rw [← e]; exact hy))).2 (hs y (by simp [hy])))
    rw [List.length_erase_of_mem hx] at h
    have := List.length_pos_of_mem hx
    simp only [List.length_cons]; omega
/-- A trail in which each node is known is full. -/
theorem full_of {L tr : List Nat} (hnd : L.Nodup) (h : ∀ n ∈ L, ∃ v, kv (KL L fun l => codeN l ∈ tr) (2 * n) v) : L.length ≤ tr.length := by
  have key : ∀ n ∈ L, ∃ c, c ∈ tr ∧ (c / 2 : Int) = varOf L n := fun n hn => by
    have hv := varOf_pos hn
    obtain ⟨v, hk⟩ := h n hn
    cases v with
    | true =>
      have := hk.2
      simp only [if_true, litM_even] at this
      exact ⟨_, this, by unfold codeN; rw [if_neg (by omega)]; omega⟩
    | false =>
      have := hk.2
      simp only [Bool.false_eq_true, if_false, nx_even, litM_odd] at this
      exact ⟨_, this, by unfold codeN; rw [if_pos (by omega)]; omega⟩
  let cd : Nat → Nat := fun n => if hn : n ∈ L then (key n hn).choose else 0
  have hcd : ∀ n, n ∈ L → cd n ∈ tr ∧ ((cd n : Nat) / 2 : Int) = varOf L n := fun n hn => by
    show (if hn : n ∈ L then (key n hn).choose else 0) ∈ tr ∧ _
    have : cd n = (key n hn).choose := dif_pos hn
    rw [this, dif_pos hn]
    exact (key n hn).choose_spec
  have := nodup_le' (l1 := L.map cd) (l2 := tr) ?_ (fun x hx => by
    obtain ⟨n, hn, rfl⟩ := List.mem_map.1 hx
    exact (hcd n hn).1)
  · simpa using this
  · refine List.Pairwise.map _ (fun a b hab => ?_) (List.Pairwise.and_mem.1 hnd)
    obtain ⟨ha, hb, hne⟩ := hab
    intro e
    have h1 := (hcd a ha).2
    have h2 := (hcd b hb).2
    rw [e] at h1
    exact hne (varOf_inj ha hb (h1.symm.trans h2))
end Go.Proofs.YtofooamimiijlaaGreat

namespace Go.Proofs.YtofooamimiijlaaGreat
open Go.HL HM Go.Sat
set_option maxRecDepth 10000
set_option linter.unusedSimpArgs false
set_option linter.unusedVariables false

/-- A sum that is compared, and its first number that is compared. -/
structure Sit (ns : List Pr) (k : Nat) (s : MS) (a b : Int) (R : Nat → Nat) (e e2 : Nat) : Prop where
  B : Base ns k
  hd : Dn ns
  hf : Fine ns
  ok : OkM ns s
  rg : ∀ n ∈ s.1, n < ns.length
  S : SumE ns k xI (fun i => b01 (bI a i)) R
  E : SameE ns k R (fun i => b01 (bI b i)) e
  E2 : SameE ns k xI (fun i => b01 (bI (b - a) i)) e2
  heL : e / 2 ∈ s.1
  he2 : e2 / 2 ∈ s.1
section
variable {ns : List Pr} {k : Nat} {s : MS} {a b : Int} {R : Nat → Nat} {e e2 : Nat}
theorem Sit.forced {K : Nat → Prop} (h : Sit ns k s a b R e e2) (U : UPC ns s.1 K) (he : K e) : ∀ i, i < k → kv K (xI i) (xv (bI b) (bI a) i) :=
  sum_forced U h.B (fun _ _ => rfl) h.S (same_forced U (fun _ _ => rfl) h.E he)
theorem Sit.other {K : Nat → Prop} (h : Sit ns k s a b R e e2) (U : UPC ns s.1 K) (he : K e) : ¬ K (nx e2) := fun hn =>
  same_not U (fun _ _ => rfl) h.E2 (fun i hi => by rw [xv_diff a b hi]; exact h.forced U he i hi) hn
theorem Sit.full {n : Nat} {st : St} {C : List Nat} {w : Nat → List Nat} {head : Nat} {gl : List (List Int)} (h : Sit ns k s a b R e e2) (hs : SI n st C w (gcode gl) head) (hh : head = st.tr.length) (hn : NFs s.2 gl) (hl : codeN (litM s.1 e) ∈ st.tr) (hnl : n = s.1.length) : st.tr.length = n := by
  have U := upc_of h.ok h.hf (forc_tr hs hh hn)
  have hf := h.forced U ⟨h.heL, hl⟩
  have hk := all_known U h.B h.hd fun i hi _ => ⟨_, hf i hi⟩
  have h1 := full_of h.ok.nd fun n hn => hk n hn (h.rg n hn)
  have h2 := hs.inv.ok.len
  omega
def inpX (a b : Int) (n : Nat) : Bool := decide (0 < n) && xv (bI b) (bI a) (n - 1)
theorem Sit.val (h : Sit ns k s a b R e e2) : Val ns (fv ns (inpX a b)) := fv_val h.hd h.B.z rfl
theorem Sit.ex (h : Sit ns k s a b R e e2) : eV (fv ns (inpX a b)) e = true := by
  have V := h.val
  have hx : ∀ i, i < k → eV (fv ns (inpX a b)) (xI i) = xv (bI b) (bI a) i := fun i hi => by
    unfold eV
    rw [xI_div, fv_leaf (h.B.inp i hi), show xI i % 2 = 0 by unfold xI; omega]
    simp [inpX]
  have hR := sum_val V (fun _ _ => rfl) h.S hx
  refine same_val V h.E fun i hi => ?_
  rw [hR i hi]
  unfold b01
  cases bI b i
  · rw [if_neg (by simp), V.e0]
  · rw [if_pos rfl, V.e1]
/-- The model. -/
def sitM (ns : List Pr) (L : List Nat) (a b : Int) : Nat → Bool := mV L (fv ns (inpX a b))
theorem Sit.sats (h : Sit ns k s a b R e e2) : Sats (sitM ns s.1 a b) s.2 := mV_sats h.ok h.val
theorem Sit.lit (h : Sit ns k s a b R e e2) : sitM ns s.1 a b (codeN (litM s.1 e)) = true := by
  unfold sitM
  rw [(mV_lit h.heL).1]; exact h.ex
/-- A search for it meets no conflict. -/
theorem Sit.quiet {gl : List (List Int)} (h : Sit ns k s a b R e e2) (hn : NFs s.2 gl) {r : List Int} : QHs s.1.length (gcode gl) (litM s.1 e :: r) (sitM ns s.1 a b) := fun ds hds hdl hd0 => by
  have hne : ds ≠ [] := fun e' => by
    have := (hds (litM s.1 e)).2 (by simp)
    rw [e'] at this; simp at this
  obtain ⟨d, hd⟩ : ∃ d, ds[0]? = some d := ⟨_, List.getElem?_eq_getElem (List.length_pos_iff.2 hne)⟩
  have hdx : d = litM s.1 e := by
    have := hd0 d hd
    simp at this
    exact this.symm
  subst hdx
  refine ⟨mV_mdl, hn.sat.2 h.sats, fun z hz => ?_, fun st C w head hs hh hor => ?_⟩
  · rw [List.getElem?_map, hd] at hz
    simp only [Option.map_some, Option.some.injEq] at hz
    rw [← hz]; exact h.lit
  · rcases hor with e' | ⟨z, hz, hzt⟩
    · exact absurd (List.map_eq_nil_iff.1 e') hne
    · rw [List.getElem?_map, hd] at hz
      simp only [Option.map_some, Option.some.injEq] at hz
      exact h.full hs hh hn (by rw [← hz] at hzt; exact hzt) rfl
/-- The inputs' values in any model. -/
theorem Sit.ins (h : Sit ns k s a b R e e2) {m : Nat → Bool} (hm : Mdl m) (hs : Sats m s.2) (hl : m (codeN (litM s.1 e)) = true) : ∀ i, i < k → i + 1 ∈ s.1 ∧ m (codeN (varOf s.1 (i + 1))) = xv (bI b) (bI a) i := fun i hi => by
  have U := upc_of h.ok h.hf (forc_m hm hs)
  have hv := h.forced U ⟨h.heL, hl⟩ i hi
  have hL := U.kv_nm hv
  rw [xI_div] at hL
  refine ⟨hL, ?_⟩
  have e1 : xI i = 2 * (i + 1) := rfl
  cases hx : xv (bI b) (bI a) i with
  | true =>
    rw [hx] at hv
    have := hv.2
    simp only [if_true, e1, litM_even] at this
    exact this
  | false =>
    rw [hx] at hv
    have := hv.2
    simp only [Bool.false_eq_true, if_false, e1, nx_even, litM_odd] at this
    have hp := varOf_pos hL
    rw [← codeN_neg (show varOf s.1 (i + 1) ≠ 0 by omega), hm.neg] at this
    cases h2 : m (codeN (varOf s.1 (i + 1))) with
    | false => rfl
    | true => rw [h2] at this; cases this
theorem Sit.not_other (h : Sit ns k s a b R e e2) {m : Nat → Bool} (hm : Mdl m) (hs : Sats m s.2) (hl : m (codeN (litM s.1 e)) = true) (ho : m (codeN (litM s.1 (nx e2))) = true) : False :=
  h.other (upc_of h.ok h.hf (forc_m hm hs)) ⟨h.heL, hl⟩ ⟨by rw [nx_div]; exact h.he2, ho⟩
end
theorem base_new (k : Nat) : Base ([(0, 0)] ++ List.replicate k (0, 0)) k := by
  have e : ([(0, 0)] ++ List.replicate k ((0, 0) : Pr)) = List.replicate (k + 1) (0, 0) := by rw [List.replicate_succ]; rfl
  rw [e]
  refine ⟨?_, fun i hi => ?_, fun n hn => ?_⟩
  · rw [List.getElem?_replicate, if_pos (by omega)]
  · rw [List.getElem?_replicate, if_pos (by omega)]
  · rw [List.getElem?_replicate] at hn
    split at hn
    · omega
    · cases hn
theorem SumE.mono {ns ns' : List Pr} {k j : Nat} {X C R : Nat → Nat} (h : SumE ns k X C R) (hp : PreA ns ns' j) : SumE ns' k X C R := by
  obtain ⟨car, h0, hs⟩ := h
  exact ⟨car, h0, fun i hi => (show StepE ns X C R car i from hs i hi).mono hp⟩
theorem SameE.mono {ns ns' : List Pr} {k j : Nat} {P Q : Nat → Nat} {e : Nat} (h : SameE ns k P Q e) (hp : PreA ns ns' j) : SameE ns' k P Q e := by
  obtain ⟨ch, h0, h1, hs⟩ := h
  refine ⟨ch, h0, h1, fun i hi => ?_⟩
  obtain ⟨z, h2, h3⟩ := hs i hi
  exact ⟨z, h2.mono hp, h3.mono hp⟩
theorem SumE.congr {ns : List Pr} {k : Nat} {X X' C C' R : Nat → Nat} (h : SumE ns k X C R) (hX : ∀ i, i < k → X i = X' i) : SumE ns k X' C R := by
  obtain ⟨car, h0, hs⟩ := h
  refine ⟨car, h0, fun i hi => ?_⟩
  rw [← hX i hi]; exact hs i hi
theorem SameE.congr {ns : List Pr} {k : Nat} {P P' Q : Nat → Nat} {e : Nat} (h : SameE ns k P Q e) (hX : ∀ i, i < k → P i = P' i) : SameE ns k P' Q e := by
  obtain ⟨ch, h0, h1, hs⟩ := h
  refine ⟨ch, h0, h1, fun i hi => ?_⟩
  rw [← hX i hi]; exact hs i hi
theorem trI_rng {n : Int} {w : Nat} (hw : 1 ≤ w ∧ w ≤ 16) : -65536 ≤ trI n w ∧ trI n w ≤ 65536 := by
  have hp := pow_le16 (i := w) (by omega)
  have h1 := Int.emod_nonneg n (show (2 : Int) ^ w ≠ 0 by omega)
  have h2 := Int.emod_lt_of_pos n (show (0 : Int) < 2 ^ w by omega)
  unfold trI
  split <;> omega
end Go.Proofs.YtofooamimiijlaaGreat

namespace Go.Proofs.YtofooamimiijlaaGreat
open Go.HL HM Go.Sat
set_option maxRecDepth 10000
set_option linter.unusedSimpArgs false
set_option linter.unusedVariables false

theorem OkM.rows {ns : List Pr} {s : MS} (h : OkM ns s) : ∀ c ∈ s.2, c.length ≤ 3 ∧ ∀ y ∈ c, y ≠ 0 ∧ y.natAbs ≤ s.1.length := fun c hc => by
  have h0 := varOf_pos h.z
  rw [h.v0] at h0
  rcases h.only c hc with rfl | ⟨n, hn, hne, hor⟩
  · refine ⟨by simp, fun y hy => ?_⟩
    simp only [List.mem_cons, List.not_mem_nil, or_false] at hy
    subst hy; omega
  · obtain ⟨k1, k2⟩ := h.kid n hn hne
    have v := varOf_pos hn
    have l1 := litM_in k1
    have l2 := litM_in k2
    rcases hor with rfl | rfl | rfl
    · refine ⟨by simp [cl1], fun y hy => ?_⟩
      simp only [cl1, List.mem_cons, List.not_mem_nil, or_false] at hy
      rcases hy with rfl | rfl <;> omega
    · refine ⟨by simp [cl2], fun y hy => ?_⟩
      simp only [cl2, List.mem_cons, List.not_mem_nil, or_false] at hy
      rcases hy with rfl | rfl <;> omega
    · refine ⟨by simp [cl3], fun y hy => ?_⟩
      simp only [cl3, List.mem_cons, List.not_mem_nil, or_false] at hy
      rcases hy with rfl | rfl | rfl <;> omega
/-- Blocks from some one on. -/
def asd (N M : Nat) : List Nat := (List.range M).filter fun b => decide (N ≤ b)
theorem mem_asd {N M b : Nat} (h : b ∈ asd N M) : N ≤ b := by
  have := (List.mem_filter.1 h).2
  simpa using this
theorem fr_asd {H H' : Heap} {N : Nat} (hz : H.size ≤ H'.size) (h : ∀ b, b < N → b < H.size → H'[b]? = H[b]?) : Fr (asd N H.size) H H' := ⟨hz, fun b hb hn => h b (Classical.byContradiction fun e => hn (List.mem_filter.2 ⟨List.mem_range.2 hb, by simp; omega⟩)) hb⟩
theorem SV.outF' {H H' : Heap} {ow : Nat → Nat} {p n : Nat} {k : Bk} {f : Cf} {F : List Nat} (h : SV H ow p n k f) (hf : Fr F H H') (hF : ∀ b ∈ F, ow b = 0) : SV H' ow p n k f :=
  ⟨⟨⟨h.sd.sb.m.out hf hF, h.sd.sb.r, h.sd.sb.inv, h.sd.sb.wi, h.sd.sb.le, h.sd.sb.hin, h.sd.sb.sn, h.sd.sb.stp, h.sd.sb.n⟩, h.sd.st, h.sd.ok, h.sd.no⟩, h.cn, h.ld⟩
theorem b26s {Hx : Heap} {x : Int} : buildSliceV Tryz.prog Hx 26 1 [(0, iv x)] = some (.slice (some ⟨Hx.size, 0, none⟩) 1 1, Hx.push (.cells #[iv x] 3)) := bs_one T.elem26 T.size3 T.zero3 rfl
theorem b26t {Hx : Heap} {x y : Int} : buildSliceV Tryz.prog Hx 26 2 [(0, iv x), (1, iv y)] = some (.slice (some ⟨Hx.size, 0, none⟩) 2 2, Hx.push (.cells #[iv x, iv y] 3)) := bs_two T.elem26 T.size3 T.zero3 rfl rfl
theorem lit_ok {x : Int} (h : x ≠ 0) (hx : x.natAbs ≤ 100000) : litB x = true := by
  unfold litB
  simp only [decide_eq_true_eq]
  omega
set_option maxHeartbeats 16000000 in
theorem cnfSums_spec {H : Heap} {a b w : Int} (ha : -9223372036854775808 ≤ a ∧ a ≤ 9223372036854775807) (hb : -9223372036854775808 ≤ b ∧ b ≤ 9223372036854775807) (hw : 0 ≤ w ∧ w ≤ 255) :
    CallF Tryz.prog 3 [iv a, iv b, .int .u8 w] H (fun r H' => r = .bool true ∧ Fr [] H H') NoP := by
  obtain ⟨W, rfl⟩ := Int.eq_ofNat_of_zero_le hw.1
  obtain ⟨k, hk⟩ : ∃ k, k = 2 + W % 6 := ⟨_, rfl⟩
  have hkw : 1 ≤ k ∧ k ≤ 16 := by omega
  have hk7 : k ≤ 7 := by omega
  have hk1 : (W : Int) % 6 = ((W % 6 : Nat) : Int) := by omega
  have hk2 : 2 + ((W % 6 : Nat) : Int) = (k : Int) := by omega
  refine callF_of Tryz.func3 rfl Tryz.ntmps3 Tryz.results3 (by decide) rfl ?_
  simp (disch := omega) only [go_sem, ↓cw_block, dsB_of]
  refine call_to awake_spec ?_
  rintro _ H1 ⟨rfl, F1⟩
  simp (disch := omega) only [go_sem, ↓cw_block, dsB_of, hk1, hk2]
  refine call_to (trim_spec hkw ha) ?_
  rintro _ H2 ⟨rfl, e⟩
  subst H2
  simp (disch := omega) only [go_sem, ↓cw_block, dsB_of]
  refine call_to (trim_spec hkw hb) ?_
  rintro _ H2 ⟨rfl, e⟩
  subst H2
  have rA := trI_rng (n := a) hkw
  have rB := trI_rng (n := b) hkw
  generalize trI a k = A at rA
  generalize trI b k = Bn at rB
  simp (disch := omega) only [go_sem, ↓cw_block, dsB_of]
  refine call_to gnew_spec ?_
  rintro _ H2 ⟨f2, g, B0, rfl, h2, ge0⟩
  simp (disch := omega) only [go_sem, ↓cw_block, dsB_of]
  refine call_to (inputs_spec h2 hkw (by simp)) ?_
  rintro _ H3 ⟨B3, x, rfl, s3, x3, gx, nx3⟩
  have z1 := f2.size
  have z2 := s3.fr.size
  have F3 := fr_new' f2 s3.fr ge0
  have ge3 : ∀ b ∈ B3, H1.size ≤ b := fun b hb => (s3.gw b hb).elim (ge0 b) (fun e => by omega)
  have lns3 : ([(0, 0)] ++ List.replicate k ((0, 0) : Pr)).length = k + 1 := by simp
  have base3 := base_new k
  have s3g := s3.gr
  generalize ([(0, 0)] ++ List.replicate k ((0, 0) : Pr)) = ns3 at s3g lns3 base3
  have x3' : EB H3 x k xI := x3.congr fun i _ => by unfold xI; show 2 * (0 + 1 + i) = 2 * (i + 1); omega
  simp (disch := omega) only [go_sem, ↓cw_block, dsB_of]
  refine call_to (const_spec (n := A) hkw (by omega)) ?_
  rintro _ H4 ⟨ca, rfl, f4, ca4, gca⟩
  have hlt3 := s3g.lt
  have h4 := s3g.frame f4 (by simp)
  have x4 := x3'.fr f4 (by simp)
  have xl3 := x3'.lt
  simp (disch := omega) only [go_sem, ↓cw_block, dsB_of]
  refine call_to (add_spec' h4 x4 nx3 ca4 (fun e => by have := hlt3 _ e; omega) hkw (by omega) (fun i hi => by unfold xI; omega) (fun i hi => by unfold b01; split <;> omega)) ?_
  rintro _ H5 ⟨B5, rs, ns5, R, rfl, s5, p5, S5, r5, grs, nr5, Rl5⟩
  have l5 := p5.len
  have z3 := f4.size
  have z4 := s5.fr.size
  have F4 := F3.trans f4
  have F5 := fr_new' F4 s5.fr ge3
  have ge5 : ∀ b ∈ B5, H1.size ≤ b := fun b hb => (s5.gw b hb).elim (ge3 b) (fun e => by omega)
  have nx5 := grow_not s5.gw x4.lt nx3
  have x5 := x4.fr s5.fr nx3
  simp (disch := omega) only [go_sem, ↓cw_block, dsB_of]
  refine call_to (const_spec (n := Bn) hkw (by omega)) ?_
  rintro _ H6 ⟨cb, rfl, f6, cb6, gcb⟩
  have hlt5 := s5.gr.lt
  have h6 := s5.gr.frame f6 (by simp)
  have x6 := x5.fr f6 (by simp)
  have r6 := r5.fr f6 (by simp)
  simp (disch := omega) only [go_sem, ↓cw_block, dsB_of]
  refine call_to (same_spec' h6 r6 nr5 cb6 (fun e => by have := hlt5 _ e; omega) hkw (by omega) Rl5 (fun i hi => by unfold b01; split <;> omega)) ?_
  rintro _ H7 ⟨B7, ns7, e, rfl, he7, s7, p7, E7⟩
  have l7 := p7.len
  have z5 := f6.size
  have z6 := s7.fr.size
  have F6 := F5.trans f6
  have F7 := fr_new' F6 s7.fr ge5
  have ge7 : ∀ b ∈ B7, H1.size ≤ b := fun b hb => (s7.gw b hb).elim (ge5 b) (fun e => by omega)
  have nx7 := grow_not s7.gw x6.lt nx5
  have x7 := x6.fr s7.fr nx5
  simp (disch := omega) only [go_sem, ↓cw_block, dsB_of]
  refine call_to (const_spec (n := Bn - A) hkw (by omega)) ?_
  rintro _ H8 ⟨cd, rfl, f8, cd8, gcd⟩
  have hlt7 := s7.gr.lt
  have h8 := s7.gr.frame f8 (by simp)
  have x8 := x7.fr f8 (by simp)
  simp (disch := omega) only [go_sem, ↓cw_block, dsB_of]
  refine call_to (same_spec' h8 x8 nx7 cd8 (fun e => by have := hlt7 _ e; omega) hkw (by omega) (fun i hi => by unfold xI; omega) (fun i hi => by unfold b01; split <;> omega)) ?_
  rintro _ H9 ⟨B9, ns9, e2, rfl, he9, s9, p9, E9⟩
  have l9 := p9.len
  have z7 := f8.size
  have z8 := s9.fr.size
  have F8 := F7.trans f8
  have F9 := fr_new' F8 s9.fr ge7
  have ge9 : ∀ b ∈ B9, H1.size ≤ b := fun b hb => (s9.gw b hb).elim (ge7 b) (fun e => by omega)
  have hlt9 := s9.gr.lt
  simp (disch := omega) only [go_sem, ↓cw_block, dsB_of]
  refine call_to (not_spec (by omega)) ?_
  rintro _ _ ⟨rfl, rfl⟩
  simp (disch := omega) only [go_sem, ↓cw_block, dsB_of]
  refine call_to cnew_spec ?_
  rintro _ H10 ⟨f10, m, Bm, rfl, k10, gm10⟩
  have z9 := f10.size
  have hM10 : GMk H10 g m B9 Bm ns9 _ ([0], [[-1]]) := ⟨s9.gr.frame f10 (by simp), k10, fun b hb e => by have := hlt9 b hb; have := gm10 b e; omega, by simp, by simp; omega, by simp⟩
  have hd9 := hM10.dn
  have ne2 : nx e2 < 2 * ns9.length := nx_lt he9
  have he : e < 2 * ns9.length := by omega
  simp (disch := omega) only [go_sem, ↓cw_block, dsB_of]
  refine call_to (Lit_spec hM10 (e := e) (by omega)) ?_
  rintro _ H11 ⟨rfl, f11, Bm11, hM11, gr11⟩
  rw [ownM_of he] at hM11 ⊢
  simp (disch := omega) only [go_sem, ↓cw_block, dsB_of]
  refine call_to (Lit_spec hM11 (e := nx e2) (by omega)) ?_
  rintro _ H12 ⟨rfl, f12, Bm12, hM12, gr12⟩
  rw [ownM_of ne2] at hM12 ⊢
  obtain ⟨s1, hs1⟩ : ∃ s1, s1 = needM ns9 (e / 2) ([0], [[-1]]) := ⟨_, rfl⟩
  obtain ⟨s, hs⟩ : ∃ s, s = needM ns9 (nx e2 / 2) s1 := ⟨_, rfl⟩
  rw [← hs1] at hM11 hM12 ⊢
  rw [← hs] at hM12 ⊢
  have e1L : e / 2 ∈ s1.1 := by rw [hs1]; exact needM_self hd9
  have heL : e / 2 ∈ s.1 := by rw [hs]; exact needM_keep hd9 e1L
  have hoL : nx e2 / 2 ∈ s.1 := by rw [hs]; exact needM_self hd9
  have hlit : litM s1.1 e = litM s.1 e := by
    obtain ⟨t, ht, -⟩ := needM_list hd9 (nx e2 / 2) s1
    rw [hs, ht, litM_append e1L]
  rw [hlit]
  have z10 := f11.size
  have z11 := f12.size
  have gem11 : ∀ b ∈ Bm11, H9.size ≤ b := fun b hb => (gr11 b hb).elim (gm10 b) (fun e => by omega)
  have gem12 : ∀ b ∈ Bm12, H9.size ≤ b := fun b hb => (gr12 b hb).elim (gem11 b) (fun e => by omega)
  have F12 : Fr [] H1 H12 := fr_new' (fr_new' (F9.trans f10) f11 (fun b hb => by have := gm10 b hb; have := F9.size; omega)) f12 (fun b hb => by have := gem11 b hb; have := F9.size; omega)
  have sit : Sit ns9 k s A Bn R e e2 := by
    have p79 := p7.trans p9 (Nat.le_refl _)
    have p59 := p5.trans p79 (Nat.le_refl _)
    have B9' := base3.pre p59
    refine ⟨B9', hd9, Fine.of (fun p hp => ?_) p59 hd9, ?_, hM12.rg, S5.mono p79, E7.mono p9, E9, heL, by rw [nx_div] at hoL; exact hoL⟩
    · obtain ⟨i, hi⟩ := List.getElem?_of_mem hp
      have hil := (List.getElem?_eq_some_iff.1 hi).1
      cases i with
      | zero => rw [base3.z] at hi; exact (Option.some.inj hi).symm
      | succ i => rw [base3.inp i (by omega)] at hi; exact (Option.some.inj hi).symm
    · rw [hs, hs1]
      refine OkM.need hd9 _ _ (OkM.need hd9 _ _ (OkM.start ?_))
      rw [List.getD_eq_getElem?_getD, B9'.z]; rfl
  have hrows := sit.ok.rows
  have hL : s.1.length ≤ 200 := by have := hM12.len; omega
  have hcl : s.2.length ≤ 601 := by have := hM12.cs; omega
  have l1n := litM_in heL
  have l2n := litM_in hoL
  simp (disch := omega) only [go_sem, ↓cw_block, dsB_of]
  refine call_to (vars_spec hM12.mkr) ?_
  rintro _ _ ⟨rfl, rfl⟩
  simp (disch := omega) only [go_sem, ↓cw_block, dsB_of]
  refine call_to (sNew_spec (n := s.1.length) (by omega)) ?_
  rintro v H13 ⟨f13, ow, p, kk, f, rfl, o13, s13, gl13, ro13, bd13, dd13, ls13⟩
  have k13 := hM12.mkr.frame f13 (by simp)
  have lt12 := hM12.mkr.lt
  simp (disch := omega) only [go_sem, ↓cw_block, dsB_of]
  refine call_to (take_spec k13) ?_
  rintro cv H14 ⟨C, cv14, cB, f14, Bm14, k14, bB, -⟩
  have z12 := f13.size
  have z13 := f14.size
  have s14 := s13.outF' f14 fun b hb => o13 b (lt12 b hb)
  obtain ⟨cva, cvc, e⟩ := cv14.form
  subst e
  have F14 : Fr [] H1 H14 := fr_new' (F12.trans f13) f14 (fun b hb => by have := gem12 b hb; have := F9.size; omega)
  have gr14 : Gr H14 g B9 ns9 _ := (hM12.gr.frame f13 (by simp)).frame f14 (fun b hb e => hM12.dis b hb e)
  have fin0 : ∀ K, H14.size ≤ K.size → (∀ b, b < H12.size → K[b]? = H14[b]?) → Fr (asd H12.size H14.size) H14 K ∧ Fr [] H K := fun K hz hs => by
    have hf := fr_asd (N := H12.size) hz fun b hb _ => hs b hb
    exact ⟨hf, F1.trans (fr_new' F14 hf fun b hb => by have := mem_asd hb; have := F12.size; omega)⟩
  -- one step of the solver's keeps what is older
  have keep : ∀ {K K' : Heap} {ow1 ow2 : Nat → Nat}, H14.size ≤ K.size → (∀ b, b < H12.size → ow1 b = 0) → (∀ b, b < H12.size → K[b]? = H14[b]?) → Ex K ow1 K' ow2 → H14.size ≤ K'.size ∧ (∀ b, b < H12.size → ow2 b = 0) ∧ ∀ b, b < H12.size → K'[b]? = H14[b]? := fun {K K' ow1 ow2} hz ho hs ex => by
    exact ⟨Nat.le_trans hz ex.sm.size, fun b hb => by rw [ex.ow b (by omega)]; exact ho b hb, fun b hb => by rw [ex.fr (by omega) (ho b hb)]; exact hs b hb⟩
  have keepF : ∀ {K K' : Heap}, H14.size ≤ K.size → (∀ b, b < H12.size → K[b]? = H14[b]?) → Fr [] K K' → H14.size ≤ K'.size ∧ ∀ b, b < H12.size → K'[b]? = H14[b]? := fun {K K'} hz hs hf =>
    ⟨Nat.le_trans hz hf.size, fun b hb => by rw [hf.same b (by omega) (by simp)]; exact hs b hb⟩
  simp (disch := omega) only [go_sem, dsB_of]
  refine cut_at (fun ρ K => ∃ ow1 f1, (ρ.get 0 = iv A ∧ ρ.get 1 = iv Bn ∧ ρ.get 7 = iv k ∧ ρ.get 12 = hp m ∧ ρ.get 13 = iv (litM s.1 e) ∧ ρ.get 14 = iv (litM s.1 (nx e2)) ∧ ρ.get 15 = hp p ∧ ρ.ds = []) ∧ SV K ow1 p s.1.length kk f1 ∧ (H14.size ≤ K.size ∧ (∀ b, b < H12.size → ow1 b = 0) ∧ ∀ b, b < H12.size → K[b]? = H14[b]?) ∧ NFs s.2 f1.gl ∧ Bd f1 0) ?_ ?_
  · simp (disch := omega) only [go_sem, ↓cw_block, dsB_of]
    refine loop_by (fun j ρ K => ∃ (i : Nat) (ow1 : Nat → Nat) (f1 : Cf), j = s.2.length - i ∧ i ≤ s.2.length ∧ (ρ.get 0 = iv A ∧ ρ.get 1 = iv Bn ∧ ρ.get 7 = iv k ∧ ρ.get 12 = hp m ∧ ρ.get 13 = iv (litM s.1 e) ∧ ρ.get 14 = iv (litM s.1 (nx e2)) ∧ ρ.get 15 = hp p ∧ ρ.get 17 = .slice cva s.2.length cvc ∧ ρ.get 18 = iv i ∧ ρ.ds = []) ∧ SV K ow1 p s.1.length kk f1 ∧ (H14.size ≤ K.size ∧ (∀ b, b < H12.size → ow1 b = 0) ∧ ∀ b, b < H12.size → K[b]? = H14[b]?) ∧ NFs (s.2.take i) f1.gl ∧ Bd f1 0) (k := s.2.length) ?_ ?_
    · refine ⟨0, ow, f, rfl, by omega, by simp (disch := omega) only [go_sem, ↓cw_block, dsB_of], s14, ⟨Nat.le_refl _, o13, fun _ _ => rfl⟩, by rw [gl13, List.take_zero]; exact NFs.nil, bd13⟩
    · rintro _ ρ K ⟨i, ow1, f1, rfl, hi, ⟨r0, r1, r7, r12, r13, r14, r15, r17, r18, rd⟩, sK, ⟨zK, oK, hK⟩, nK, bdK⟩
      by_cases hie : i = s.2.length
      · subst hie
        rw [List.take_length] at nK
        simp (disch := omega) only [go_sem, ↓cw_block, dsB_of, r0, r1, r7, r12, r13, r14, r15, r17, r18, rd]
        exact fin ⟨ow1, f1, by simp (disch := omega) only [go_sem, ↓cw_block, dsB_of, r0, r1, r7, r12, r13, r14, r15, rd], sK, ⟨zK, oK, hK⟩, nK, bdK⟩
      · obtain ⟨c, hc⟩ : ∃ c, s.2[i]? = some c := ⟨_, List.getElem?_eq_getElem (by omega)⟩
        obtain ⟨hcl3, hcy⟩ := hrows c (List.mem_of_getElem? hc)
        have fK := (fin0 K zK hK).1
        have cvK := cv14.frame fK (fun b hb e => by have := mem_asd e; have := lt12 b (cB b (by simp [hb])); omega) (fun b hb e => by have := mem_asd e; have := lt12 b (cB b (by simp [hb])); omega)
        obtain ⟨cvs, v1, v2, v3⟩ := cvK
        obtain ⟨bb, q1, q2, q3⟩ := v3 i c hc
        obtain ⟨vb, vo, vcap, e, kc⟩ := vec_cell v1 q2
        simp only [Value.slice.injEq] at e
        obtain ⟨rfl, -, -⟩ := e
        have hrn : Rn K (some ⟨bb, 0, none⟩) c := fun j y hj => ⟨bb, 0, rfl, by rw [Nat.zero_add, q3.cell, List.getElem?_map, hj]; rfl⟩
        have hi1 : (i : Int) + 1 = ((i + 1 : Nat) : Int) := by omega
        have hgl : f1.gl.length ≤ 601 := by rw [nK.len, List.length_take]; omega
        simp (disch := omega) only [go_sem, ↓cw_block, dsB_of, r0, r1, r7, r12, r13, r14, r15, r17, r18, rd, kc]
        refine call_to (sAdd_spec sK hrn (by omega) (by omega)) ?_
        rintro v K2 (⟨hbad, -⟩ | ⟨-, -, rfl, ow2, f2', ys, idle, s2', ex2, nf2, gl2, ld2, dd2, ro2, ls2, bd2⟩)
        · exfalso
          refine hbad ⟨List.all_eq_true.2 fun y hy => lit_ok (hcy y hy).1 (by have := (hcy y hy).2; omega), grt_le.2 fun y hy _ => (hcy y hy).2⟩
        have kp := keep zK oK hK ex2
        have htk : s.2.take (i + 1) = s.2.take i ++ [c] := by rw [List.take_add_one, hc]; rfl
        simp (disch := omega) only [go_sem, ↓cw_block, dsB_of, r0, r1, r7, r12, r13, r14, r15, r17, r18, rd]
        exact fin ⟨s.2.length - (i + 1), by omega, i + 1, ow2, f2', rfl, by omega, by simp (disch := omega) only [go_sem, ↓cw_block, dsB_of, r0, r1, r7, r12, r13, r14, r15, r17, r18, rd, hi1], s2', kp, by rw [htk, gl2]; exact nK.add nf2, bd2 _ bdK⟩
  · rintro ρ K ⟨ow1, f1, ⟨r0, r1, r7, r12, r13, r14, r15, rd⟩, sK, ⟨zK, oK, hK⟩, nK, bdK⟩
    -- the first question
    obtain ⟨G1, hG1⟩ : ∃ G1, K.push (.cells #[iv (litM s.1 e)] 3) = G1 := ⟨_, rfl⟩
    have fG1 : Fr [] K G1 := by rw [← hG1]; exact Fr.push
    have xG1 : Rn G1 (some ⟨K.size, 0, none⟩) [litM s.1 e] := by rw [← hG1]; exact Rn.new (xs := [litM s.1 e])
    have zG1 : G1.size = K.size + 1 := by rw [← hG1]; simp
    have sG1 := sK.outF' fG1 (by simp)
    obtain ⟨zG1', hG1'⟩ := keepF zK hK fG1
    have how1 : ∀ b o, (some ⟨K.size, 0, none⟩ : Option Addr) = some ⟨b, o, none⟩ → b < G1.size ∧ ow1 b = 0 := by
      intro b o h
      simp only [Option.some.injEq, Addr.mk.injEq, and_true] at h
      obtain ⟨rfl, -⟩ := h
      exact ⟨by omega, sK.sd.sb.m.free (Nat.le_refl _)⟩
    have hgl1 : f1.gl.length ≤ 601 := by rw [nK.len]; exact hcl
    have okA1 : okA s.1.length (litM s.1 e) = true := by unfold okA; rw [decide_eq_true_eq]; exact ⟨l1n.1, l1n.2.1, l1n.2.2⟩
    have okA2 : okA s.1.length (litM s.1 (nx e2)) = true := by unfold okA; rw [decide_eq_true_eq]; exact ⟨l2n.1, l2n.2.1, l2n.2.2⟩
    simp (disch := omega) only [go_sem, ↓cw_block, dsB_of, r0, r1, r7, r12, r13, r14, r15, rd, b26s]
    rw [hG1]
    refine call_to (sSolve_spec sG1 (.inr ⟨_, sit.quiet nK (r := [])⟩) bdK.rd (u := 0) bdK (by omega) (by omega) (b := -1) (by omega) (a := some ⟨K.size, 0, none⟩) (xs := [litM s.1 e]) (c := 1) xG1 how1 (by simp)) ?_
    rintro va K2 ⟨ow2, f2', s2', ex2, gv2, gs2, gl2, bd2, rd2, dm2, lo2, ans⟩
    obtain ⟨zK2, oK2, hK2⟩ := keep zG1' oK hG1' ex2
    have n2 : NFs s.2 f2'.gl := by rw [gl2]; exact nK
    cases ans with
    | bad hbad => simp [okA1] at hbad
    | unsat cs ys idle hb' hcs hi hu hqc hn hv ho hl =>
      exfalso
      refine hu (sitM ns9 s.1 A Bn) mV_mdl (nK.sat.2 sit.sats) fun y hy => ?_
      obtain ⟨z, hz, rfl⟩ := hqc (.inl ⟨_, sit.quiet nK⟩) y hy
      rw [List.mem_singleton.1 hz]; exact sit.lit
    | sat md mm hb' hdd hm hG haa hl hv ho hc hq =>
      have hsm := nK.sat.1 hG
      have hmlit := haa _ (List.mem_singleton.2 rfl)
      have hins := sit.ins hm hsm hmlit
      have hmdl : md.length = s.1.length := by rw [hl]; simp
      simp (disch := omega) only [go_sem, ↓cw_block, dsB_of, r0, r1, r7, r12, r13, r14, r15, rd]
      refine call_to (sModel_spec s2'.sd.sb.m hv (by omega)) ?_
      rintro mv K3 ⟨f3, v3, o3⟩
      obtain ⟨zK3, hK3⟩ := keepF zK2 hK2 f3
      have fK3 := (fin0 K3 zK3 hK3).1
      have gr3 := gr14.frame fK3 (fun b hb e => by have := mem_asd e; have := hlt9 b hb; omega)
      have mk3 := k14.frame fK3 (fun b hb e => by have := mem_asd e; have := lt12 b (bB b hb); omega)
      have hM3 : GMk K3 g m B9 Bm14 ns9 _ (s.1, []) := ⟨gr3, mk3, fun b hb e => hM12.dis b hb (bB b e), hM12.nd, hM12.rg, by simp⟩
      obtain ⟨ma, mlen, mc, e, -⟩ := v3.len
      subst e
      simp (disch := omega) only [go_sem, ↓cw_block, dsB_of, r0, r1, r7, r12, r13, r14, r15, rd]
      refine call_to (cinputs_spec hM3 (BRm.of_BV v3) (by omega)) ?_
      rintro iv4 K4 ⟨f4', v4, o4⟩
      obtain ⟨zK4, hK4⟩ := keepF zK3 hK3 f4'
      have hvals : (([] ++ (List.range k).map ([((0 : Nat), (0 : Nat))].length + ·)).map (inO s.1 md)) = (List.range k).map (xv (bI Bn) (bI A)) := by
        rw [List.nil_append, List.map_map]
        apply List.map_congr_left
        intro i hi
        have hi := List.mem_range.1 hi
        obtain ⟨hiL, hix⟩ := hins i hi
        show inO s.1 md (1 + i) = _
        rw [Nat.add_comm 1 i]
        unfold inO
        rw [decide_eq_true hiL, Bool.true_and, ← hix]
        have hidx := List.idxOf_lt_length_of_mem hiL
        have ev : varOf s.1 (i + 1) = (s.1.idxOf (i + 1) : Int) + 1 := if_pos hiL
        rw [ev]
        have : codeN ((s.1.idxOf (i + 1) : Int) + 1) = 2 * s.1.idxOf (i + 1) + 2 := by unfold codeN; rw [if_neg (by omega)]; omega
        rw [this, hl]
        exact bt_range hidx
      have v4' : BV K4 4 iv4 ((List.range k).map (xv (bI Bn) (bI A))) := by rw [← hvals]; exact v4
      obtain ⟨ia, ilen, ic, e, -⟩ := v4'.len
      subst e
      simp (disch := omega) only [go_sem, ↓cw_block, dsB_of, r0, r1, r7, r12, r13, r14, r15, rd]
      refine call_to (value_spec v4' hkw) ?_
      rintro _ K5 ⟨rfl, e⟩
      subst K5
      rw [value_tr A Bn hkw.1]
      simp (disch := omega) only [go_sem, ↓cw_block, dsB_of, r0, r1, r7, r12, r13, r14, r15, rd]
      refine call_to (trim_spec (n := Bn - A) hkw (by omega)) ?_
      rintro _ K5 ⟨rfl, e⟩
      subst K5
      -- the second question
      obtain ⟨G2, hG2⟩ : ∃ G2, K4.push (.cells #[iv (litM s.1 e), iv (litM s.1 (nx e2))] 3) = G2 := ⟨_, rfl⟩
      have fG2 : Fr [] K4 G2 := by rw [← hG2]; exact Fr.push
      have xG2 : Rn G2 (some ⟨K4.size, 0, none⟩) [litM s.1 e, litM s.1 (nx e2)] := by rw [← hG2]; exact Rn.new (xs := [litM s.1 e, litM s.1 (nx e2)])
      have zG2 : G2.size = K4.size + 1 := by rw [← hG2]; simp
      have s4' := (s2'.outF' f3 (by simp)).outF' f4' (by simp)
      have sG2 := s4'.outF' fG2 (by simp)
      obtain ⟨zG2', hG2'⟩ := keepF zK4 hK4 fG2
      have how2 : ∀ b o, (some ⟨K4.size, 0, none⟩ : Option Addr) = some ⟨b, o, none⟩ → b < G2.size ∧ ow2 b = 0 := by
        intro b o h
        simp only [Option.some.injEq, Addr.mk.injEq, and_true] at h
        obtain ⟨rfl, -⟩ := h
        exact ⟨by omega, s4'.sd.sb.m.free (Nat.le_refl _)⟩
      simp (disch := omega) only [go_sem, ↓cw_block, dsB_of, r0, r1, r7, r12, r13, r14, r15, rd, b26t]
      rw [hG2]
      refine call_to (sSolve_spec sG2 (.inr ⟨_, sit.quiet n2 (r := [litM s.1 (nx e2)])⟩) bd2.rd (u := 0 + 400) bd2 (by omega) (by rw [gl2]; omega) (b := -1) (by omega) (a := some ⟨K4.size, 0, none⟩) (xs := [litM s.1 e, litM s.1 (nx e2)]) (c := 2) xG2 how2 (by simp)) ?_
      rintro vb K6 ⟨ow6, f6', s6', ex6, gv6, gs6, gl6, bd6, rd6, dm6, lo6, ans2⟩
      obtain ⟨zK6, oK6, hK6⟩ := keep zG2' oK2 hG2' ex6
      have Ffin := (fin0 K6 zK6 hK6).2
      cases ans2 with
      | bad hbad => simp [okA1, okA2] at hbad
      | sat md2 mm2 hb2 hdd2 hm2 hG2x haa2 hl2 hv2 ho2 hc2 hq2 =>
        exact (sit.not_other hm2 (n2.sat.1 hG2x) (haa2 _ (by simp)) (haa2 (litM s.1 (nx e2)) (by simp))).elim
      | unsat cs ys idle hb2 hcs hi hu hqc hn hv2 ho2 hl2 =>
        simp (disch := omega) only [go_sem, ↓cw_block, dsB_of, dsB_of]
        exact fin ⟨rfl, Ffin⟩
end Go.Proofs.YtofooamimiijlaaGreat

namespace Go.HL
open Go.ChangeShapes Go.WideShapes Go.ChangeAt Go.RowKit

theorem omapM_some {α β : Type} {f : α → Option β} : ∀ {l : List α} {r : List β}, l.mapM f = some r → r.length = l.length ∧ ∀ (j : Nat) x, l[j]? = some x → ∃ y, f x = some y ∧ r[j]? = some y := by
  intro l
  induction l with
  | nil => intro r h; simp at h; subst h; simp
  | cons a l ih =>
    intro r h
    rw [List.mapM_cons] at h
    simp only [bind, Option.bind_eq_some_iff, pure, Option.some.injEq] at h
    obtain ⟨y, hy, r', hr, rfl⟩ := h
    obtain ⟨h1, h2⟩ := ih hr
    refine ⟨by simp [h1], fun j x hx => ?_⟩
    cases j with
    | zero => simp at hx; subst hx; exact ⟨y, hy, rfl⟩
    | succ j => simp at hx; simpa using h2 j x hx
theorem list_of {α : Type} {p : Nat → α → Prop} : ∀ {n : Nat}, (∀ i, i < n → ∃ x, p i x) → ∃ xs : List α, xs.length = n ∧ ∀ i x, xs[i]? = some x → p i x := by
  intro n
  induction n with
  | zero => intro _; exact ⟨[], rfl, by simp⟩
  | succ n ih =>
    intro h
    obtain ⟨xs, h1, h2⟩ := ih fun i hi => h i (by omega)
    obtain ⟨x, hx⟩ := h n (by omega)
    refine ⟨xs ++ [x], by simp [h1], fun i y hy => ?_⟩
    rw [List.getElem?_append] at hy
    split at hy
    · exact h2 i y hy
    · rename_i hi
      have : i = n := by
        have := (List.getElem?_eq_some_iff.1 hy).1
        simp at this; omega
      subst this
      simp [h1] at hy
      exact hy ▸ hx

section
variable {H : Type} {enc : TypeId × Value → H} {P : Program} {W : World}
abbrev TR (enc : TypeId × Value → H) (P : Program) (W : World) (t : TypeId) (cs : List Value) : Prop := ∃ fuel x, DataW.trod enc P W 0 (fun _ => true) true fuel t cs = some x
theorem TR.int {t : TypeId} {k : IntKind} {cs : List Value} (ht : P.underlying t = some (.int k)) (h : TR enc P W t cs) : ∃ n, cs = [.int k n] ∧ (Lit.int k n).wf = true := by
  obtain ⟨fuel, x, h⟩ := h
  cases fuel with
  | zero => simp [DataW.trod] at h
  | succ fuel =>
    unfold DataW.trod at h
    rw [ht] at h
    split at h <;> simp_all
theorem TR.bool {t : TypeId} {cs : List Value} (ht : P.underlying t = some .bool) (h : TR enc P W t cs) : ∃ b, cs = [.bool b] := by
  obtain ⟨fuel, x, h⟩ := h
  cases fuel with
  | zero => simp [DataW.trod] at h
  | succ fuel =>
    unfold DataW.trod at h
    rw [ht] at h
    split at h <;> simp_all
theorem TR.string {t : TypeId} {cs : List Value} (ht : P.underlying t = some .string) (h : TR enc P W t cs) : ∃ s, cs = [.string s] ∧ s.size ≤ maxLen := by
  obtain ⟨fuel, x, h⟩ := h
  cases fuel with
  | zero => simp [DataW.trod] at h
  | succ fuel =>
    unfold DataW.trod at h
    rw [ht] at h
    split at h <;> simp_all
theorem TR.struct {t : TypeId} {fs : Array Field} {cs : List Value} (ht : P.underlying t = some (.struct fs)) (h : TR enc P W t cs) :
    cs.length = P.cellsOf t ∧ ∀ f ∈ fs.toList, TR enc P W f.type ((cs.drop f.offset).take (P.cellsOf f.type)) := by
  obtain ⟨fuel, x, h⟩ := h
  cases fuel with
  | zero => simp [DataW.trod] at h
  | succ fuel =>
    unfold DataW.trod at h
    rw [ht] at h
    split at h <;> first | (simp at *; done) | skip
    rename_i fs' hfs
    simp only [Option.some.injEq, TypeDesc.struct.injEq] at hfs
    subst hfs
    split at h
    · rename_i h1
      simp only [Option.map_eq_some_iff] at h
      obtain ⟨y, hy, _⟩ := h
      refine ⟨h1, fun f hf => ?_⟩
      obtain ⟨j, hj⟩ := List.getElem?_of_mem hf
      obtain ⟨z, hz, _⟩ := (omapM_some hy).2 j f hj
      exact ⟨fuel, z, hz⟩
    · simp at h
/-- A slice: it is nil, or its elements are laid one behind the other. -/
theorem TR.slice {t e : TypeId} {z : Nat} {cs : List Value} (ht : P.underlying t = some (.slice e)) (hz : P.cellsOf e = z) (hz0 : 0 < z) (h : TR enc P W t cs) :
    ∃ a len cap, cs = [.slice a len cap] ∧ len ≤ maxLen ∧ (0 < len → ∃ b o, a = some ⟨b, o, none⟩ ∧ ∀ i, i < len → ∃ es, es.length = z ∧ (∀ j, j < z → cellH W.heap ⟨b, o + i * z + j, none⟩ = es[j]?) ∧ TR enc P W e es) := by
  obtain ⟨fuel, x, h⟩ := h
  cases fuel with
  | zero => simp [DataW.trod] at h
  | succ fuel =>
    unfold DataW.trod at h
    rw [ht] at h
    split at h <;> first | (simp at *; done) | skip
    · exact ⟨none, 0, 0, rfl, by simp, by omega⟩
    · rename_i e' a len cap he
      simp only [Option.some.injEq, TypeDesc.slice.injEq] at he
      subst he
      simp only at h
      split at h
      · rename_i hb
        simp only [Option.bind_eq_some_iff] at h
        obtain ⟨elems, hel, _⟩ := h
        refine ⟨some a, len, cap, rfl, by omega, fun hl => ?_⟩
        have hrow : ∀ i, i < len → ∃ es, es.length = z ∧ (∀ j, j < z → W.cell? ((a.add (i * z)).add j) = es[j]?) ∧ TR enc P W e es := by
          intro i hi
          obtain ⟨y, hy, _⟩ := (omapM_some hel).2 i i (by simp [hi])
          simp only [Option.bind_eq_some_iff] at hy
          obtain ⟨es, hes, hy⟩ := hy
          rw [hz] at hes
          unfold World.cells? at hes
          split at hes
          · obtain ⟨g1, g2⟩ := omapM_some hes
            simp at g1
            refine ⟨es, g1, fun j hj => ?_, fuel, y, hy⟩
            obtain ⟨u, hu, hr⟩ := g2 j j (by simp [hj])
            rw [hu, hr]
          · simp at hes
        have ha : a = ⟨a.block, a.off, none⟩ := by
          obtain ⟨es, g1, g2, _⟩ := hrow 0 hl
          have := g2 0 hz0
          cases a with
          | mk b o s =>
            cases s with
            | none => rfl
            | some q =>
              exfalso
              have h0 : es[0]? = some es[0] := by simp
              rw [h0] at this
              simp [Addr.add, World.cell?] at this
              split at this <;> simp at this
        refine ⟨a.block, a.off, by rw [← ha], fun i hi => ?_⟩
        obtain ⟨es, g1, g2, g3⟩ := hrow i hi
        refine ⟨es, g1, fun j hj => ?_, g3⟩
        rw [← g2 j hj, ha, addr_add, addr_add]
        rfl
      · simp at h
theorem TR.of {t : TypeId} {v : Value} {d : DataW H} {ps : List MemPlace} (h : DataW.Trod enc P W 0 (fun _ => true) true t v d ps) : TR enc P W t v.cells.toList := by
  obtain ⟨fuel, h⟩ := h
  exact ⟨fuel, _, h⟩
end
end Go.HL

