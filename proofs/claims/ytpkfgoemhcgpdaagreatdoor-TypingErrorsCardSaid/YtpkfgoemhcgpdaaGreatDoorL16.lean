/- The document's parser: a tree laid out as a list of nodes (memory). -/
import Derived.Test.YtpkfgoemhcgpdaaGreatDoorL15
import Derived.Test.YtpkfgoemhcgpdaaGreatDoorL07
import Derived.Test.YtpkfgoemhcgpdaaGreatDoorL11
namespace Go.Proofs.YtpkfgoemhcgpdaaGreatDoor
open Go.HL
set_option maxRecDepth 10000
set_option linter.unusedSimpArgs false
set_option linter.unusedVariables false

def Fo.cnt : Fo → Nat
  | .nil => 0
  | .cons _ k r => 1 + k.cnt + r.cnt
def kidM (x : Int) (n : Nd) : Nd := { n with kids := n.kids ++ [x] }
/-- The trees of a forest, laid behind a list, below the node at a place. -/
def layF : Fo → Nat → List Nd → List Nd
  | .nil, _, out => out
  | .cons n k r, j, out => layF r j (layF k out.length (out.modify j (kidM out.length) ++ [n]))
theorem layF_len : ∀ (f : Fo) (j : Nat) (out : List Nd), (layF f j out).length = out.length + f.cnt
  | .nil, _, out => by simp [layF, Fo.cnt]
  | .cons n k r, j, out => by simp [layF, Fo.cnt, layF_len r, layF_len k]; omega
def Fo.drop : Nat → Fo → Fo
  | 0, f => f
  | _ + 1, .nil => .nil
  | i + 1, .cons _ _ r => r.drop i
theorem Fo.drop_lt : ∀ (f : Fo) (i : Nat), i < f.len → ∃ n k r, f.drop i = .cons n k r ∧ f.drop (i + 1) = r ∧ k.cnt < f.cnt
  | .nil, i, h => by simp [Fo.len] at h
  | .cons n k r, 0, _ => ⟨n, k, r, rfl, by cases r <;> rfl, by simp [Fo.cnt]; omega⟩
  | .cons n k r, i + 1, h => by
    obtain ⟨n', k', r', h1, h2, h3⟩ := Fo.drop_lt r i (by simp [Fo.len] at h; omega)
    exact ⟨n', k', r', h1, h2, by simp [Fo.cnt]; omega⟩
theorem Fo.drop_ge : ∀ (f : Fo) (i : Nat), f.len ≤ i → f.drop i = .nil
  | .nil, 0, _ => rfl
  | .nil, _ + 1, _ => rfl
  | .cons n k r, 0, h => by simp [Fo.len] at h
  | .cons n k r, i + 1, h => Fo.drop_ge r i (by simp [Fo.len] at h; omega)
theorem FL.nth {H : Heap} {S : Nat → Prop} : ∀ {cs : List Value} {f : Fo} {i : Nat} {n : Nd} {k r : Fo}, FL H S cs f → f.drop i = .cons n k r → ∃ row, TR H S row n k ∧ ∀ j y, row[j]? = some y → cs[i * 6 + j]? = some y := by
  intro cs f
  induction f generalizing cs with
  | nil => intro i n k r _ h; cases i <;> simp [Fo.drop] at h
  | cons n' k' r' _ ih =>
    rintro i n k r ⟨wv, nv, kv, lv, rest, rfl, h1, ⟨ds, h2, h3⟩, h4⟩ h
    cases i with
    | zero =>
      simp only [Fo.drop, Fo.cons.injEq] at h
      obtain ⟨rfl, rfl, rfl⟩ := h
      refine ⟨[iv n'.kind, wv, nv, kv, iv n'.pos, lv], ⟨wv, nv, kv, lv, rfl, h1, ds, h2, h3⟩, fun j y hy => ?_⟩
      have hj : j < 6 := by have := (List.getElem?_eq_some_iff.1 hy).1; simpa using this
      have : iv n'.kind :: wv :: nv :: kv :: iv n'.pos :: lv :: rest = [iv n'.kind, wv, nv, kv, iv n'.pos, lv] ++ rest := rfl
      rw [this, Nat.zero_mul, Nat.zero_add, List.getElem?_append_left (by simpa using hj)]
      exact hy
    | succ i =>
      obtain ⟨row, g1, g2⟩ := ih h4 h
      refine ⟨row, g1, fun j y hy => ?_⟩
      have : iv n'.kind :: wv :: nv :: kv :: iv n'.pos :: lv :: rest = [iv n'.kind, wv, nv, kv, iv n'.pos, lv] ++ rest := rfl
      rw [this, List.getElem?_append_right (by simp; omega)]
      have e : (i + 1) * 6 + j - [iv n'.kind, wv, nv, kv, iv n'.pos, lv].length = i * 6 + j := by simp; omega
      rw [e]; exact g2 j y hy
/-- The row of a tree in a forest that is read. -/
theorem FL.row {H : Heap} {S : Nat → Prop} {lv : Value} {ds : List Value} {f : Fo} {i : Nat} {n : Nd} {k r : Fo} (hr : Rd H S 6 lv ds) (hf : FL H S ds f) (hd : f.drop i = .cons n k r) :
    ∃ b o c row, lv = .slice (some ⟨b, o, none⟩) f.len c ∧ TR H S row n k ∧ cellsH (cellH H) ⟨b, o + i * 6, none⟩ 0 6 = some row := by
  obtain ⟨row, h1, h2⟩ := hf.nth hd
  have hlen := hf.len
  obtain ⟨a, len, c, rfl, hl, hc⟩ := hr
  have : len = f.len := by omega
  subst this
  obtain ⟨a1, l1, c1, a2, l2, c2, a3, l3, c3, a4, l4, c4, ecp⟩ := h1.form
  have hrl : row.length = 6 := by rw [ecp]; rfl
  have h0 := h2 0 (row[0]'(by omega)) (by simp)
  obtain ⟨b, o, rfl, hs, _⟩ := hc _ _ h0
  refine ⟨b, o, c, row, rfl, h1, ?_⟩
  have := cellsH_at (c := cellH H) (b := b) row (o + i * 6) 0 (by
    intro j hj
    obtain ⟨b', o', e, _, h3⟩ := hc (i * 6 + j) row[j] (h2 j _ (by simp))
    simp only [Option.some.injEq, Addr.mk.injEq, and_true] at e
    obtain ⟨rfl, rfl⟩ := e
    rw [Nat.add_zero, Nat.add_assoc]; exact h3)
  rwa [hrl] at this
/-- A list of nodes that is being made: everything that may be written lies from M on. -/
structure LM (H : Heap) (M : Nat) (S0 : Nat → Prop) (v : Value) (ps : List AN) : Prop where
  vec : Vec H 69 5 v (ps.flatMap anC)
  ow : ∀ b ∈ own v, M ≤ b
  w : ∀ (i : Nat) a, ps[i]? = some a → Rd H S0 1 a.wv (a.n.words.map sv) ∧ Rd H S0 1 a.nv (a.n.nums.map iv)
  k : ∀ (i : Nat) a, ps[i]? = some a → Vec H 3 1 a.kv (a.n.kids.map iv) ∧ ∀ b ∈ own a.kv, M ≤ b ∧ b ∉ own v
  d : ∀ (i j : Nat) a c, i ≠ j → ps[i]? = some a → ps[j]? = some c → ∀ b ∈ own a.kv, b ∉ own c.kv
  s0 : ∀ b, S0 b → b < M
  mm : M ≤ H.size
def LO (v : Value) (ps : List AN) : List Nat := own v ++ ps.flatMap fun a => own a.kv
section
variable {H H' H1 H2 : Heap} {M : Nat} {S0 : Nat → Prop} {v v' kv' : Value} {ps : List AN} {a : AN} {F : List Nat}
theorem LO_own {b : Nat} (h : b ∈ own v) : b ∈ LO v ps := List.mem_append_left _ h
theorem LO_kid {b i : Nat} (hi : ps[i]? = some a) (h : b ∈ own a.kv) : b ∈ LO v ps := List.mem_append_right _ (List.mem_flatMap.2 ⟨a, List.mem_of_getElem? hi, h⟩)
theorem LO_elim {b : Nat} (h : b ∈ LO v ps) : b ∈ own v ∨ ∃ (i : Nat) (a : AN), ps[i]? = some a ∧ b ∈ own a.kv := by
  unfold LO at h
  rw [List.mem_append, List.mem_flatMap] at h
  rcases h with h | ⟨a, ha, h⟩
  · exact .inl h
  · obtain ⟨i, hi⟩ := List.getElem?_of_mem ha
    exact .inr ⟨i, a, hi, h⟩
theorem LM.ge (x : LM H M S0 v ps) {b : Nat} (h : b ∈ LO v ps) : M ≤ b := by
  rcases LO_elim h with h | ⟨i, a, hi, h⟩
  · exact x.ow b h
  · exact ((x.k i a hi).2 b h).1
theorem LM.nil (hs : ∀ b, S0 b → b < M) (hm : M ≤ H.size) : LM H M S0 (.slice none 0 0) [] :=
  ⟨Vec.nil, by simp [own], by simp, by simp, by simp, hs, hm⟩
theorem LM.frame (x : LM H M S0 v ps) (q : Fr F H H') (hF : ∀ b ∈ F, M ≤ b ∧ b ∉ LO v ps) : LM H' M S0 v ps := by
  have kp : Keeps S0 H H' := Keeps.of_fr q (by intro b hb e; have := x.s0 b hb; have := (hF b e).1; omega)
  refine ⟨x.vec.frame q (fun b hb e => (hF b e).2 (LO_own hb)), x.ow, fun i a hi => ⟨(x.w i a hi).1.frame kp, (x.w i a hi).2.frame kp⟩, fun i a hi => ⟨(x.k i a hi).1.frame q (fun b hb e => (hF b e).2 (LO_kid hi hb)), (x.k i a hi).2⟩, x.d, x.s0, by have := x.mm; have := q.size; omega⟩
theorem LM.grow (x : LM H M S0 v ps) (q : Fr [] H H') : LM H' M S0 v ps := x.frame q (by simp)
/-- One node more. -/
theorem LM.add (x : LM H M S0 v ps) (hk : a.kv = .slice none 0 0) (hn : a.n.kids = []) (hw : Rd H S0 1 a.wv (a.n.words.map sv)) (hu : Rd H S0 1 a.nv (a.n.nums.map iv))
    (g1 : Vec H' 69 5 v' (ps.flatMap anC ++ anC a)) (g2 : Fr (own v) H H') (g3 : ∀ b ∈ own v', b ∈ own v ∨ H.size ≤ b) :
    LM H' M S0 v' (ps ++ [a]) ∧ (∀ b ∈ LO v' (ps ++ [a]), b ∈ LO v ps ∨ H.size ≤ b) := by
  have kp : Keeps S0 H H' := Keeps.of_fr g2 (by intro b hb e; have := x.s0 b hb; have := x.ow b e; omega)
  have hown : own a.kv = [] := by rw [hk]; rfl
  have hmm := x.mm
  have split : ∀ (i : Nat) c, (ps ++ [a])[i]? = some c → ps[i]? = some c ∨ (i = ps.length ∧ c = a) := by
    intro i c hc
    by_cases hi : i < ps.length
    · rw [List.getElem?_append_left hi] at hc; exact .inl hc
    · rw [List.getElem?_append_right (by omega)] at hc
      have : i - ps.length = 0 := by
        have := (List.getElem?_eq_some_iff.1 hc).1; simp at this; omega
      rw [this] at hc
      exact .inr ⟨by omega, by simpa using hc.symm⟩
  refine ⟨⟨by simpa using g1, fun b hb => (g3 b hb).elim (x.ow b) (fun h => by omega), ?_, ?_, ?_, x.s0, by have := g2.size; omega⟩, ?_⟩
  · intro i c hc
    rcases split i c hc with h | ⟨_, rfl⟩
    · exact ⟨(x.w i c h).1.frame kp, (x.w i c h).2.frame kp⟩
    · exact ⟨hw.frame kp, hu.frame kp⟩
  · intro i c hc
    rcases split i c hc with h | ⟨_, rfl⟩
    · have hx := x.k i c h
      refine ⟨hx.1.frame g2 (fun b hb e => (hx.2 b hb).2 e), fun b hb => ⟨(hx.2 b hb).1, fun e => (g3 b e).elim (hx.2 b hb).2 (fun h' => by have := hx.1.lt b hb; omega)⟩⟩
    · rw [hn, hk]; exact ⟨Vec.nil, by simp [own]⟩
  · intro i j c e hij hc he b hb
    rcases split i c hc with h | ⟨_, rfl⟩
    · rcases split j e he with h' | ⟨_, rfl⟩
      · exact x.d i j c e hij h h' b hb
      · rw [hown]; simp
    · rw [hown] at hb; simp at hb
  · intro b hb
    rcases LO_elim hb with h | ⟨i, c, hc, h⟩
    · exact (g3 b h).imp LO_own id
    · rcases split i c hc with h' | ⟨_, rfl⟩
      · exact .inl (LO_kid h' h)
      · rw [hown] at h; simp at h
/-- A cell of a vector is written. -/
theorem Vec.setc {e z : Nat} {vs : List Value} (h : Vec H e z v vs) {i : Nat} (hi : i < vs.length) (u : Value) :
    ∃ b o len cap, v = .slice (some ⟨b, o, none⟩) len cap ∧ vs.length = len * z ∧ wr H ⟨b, o + i, none⟩ u = some (setH H ⟨b, o + i, none⟩ u) ∧ Vec (setH H ⟨b, o + i, none⟩ u) e z v (vs.set i u) ∧ Fr (own v) H (setH H ⟨b, o + i, none⟩ u) := by
  rcases h.ex with ⟨rfl, rfl⟩ | ⟨b, len, cap, pre, rest, rfl, hb, h2, h3, h4⟩
  · simp at hi
  · refine ⟨b, pre.length, len, cap, rfl, h2, hb.wr (by simp; omega) u, ⟨.inr ⟨b, len, cap, pre, rest, rfl, ?_, by simpa using h2, h3, h4⟩⟩, Fr.set (by simp [own])⟩
    have := hb.set (pre.length + i) u
    rwa [List.append_assoc, List.set_append_right _ _ (by omega), Nat.add_sub_cancel_left, List.set_append_left _ _ hi, ← List.append_assoc] at this
theorem anC_set : ∀ (ps : List AN) (i : Nat) (a c : AN), ps[i]? = some a → c = { a with kv := kv', n := c.n } → c.n.kind = a.n.kind → c.n.pos = a.n.pos → (ps.flatMap anC).set (i * 5 + 3) kv' = (ps.set i c).flatMap anC
  | [], i, a, c, h, _, _, _ => by simp at h
  | p :: ps, 0, a, c, h, hc, h1, h2 => by
    simp only [List.getElem?_cons_zero, Option.some.injEq] at h
    subst h
    simp only [List.flatMap_cons, List.set_cons_zero, Nat.zero_mul, Nat.zero_add]
    rw [hc]
    simp only [anC, h1, h2, List.cons_append, List.nil_append, List.set_cons_succ, List.set_cons_zero]
  | p :: ps, i + 1, a, c, h, hc, h1, h2 => by
    simp only [List.flatMap_cons, List.set_cons_succ]
    rw [List.set_append_right _ _ (by rw [anL]; omega)]
    have : (i + 1) * 5 + 3 - (anC p).length = i * 5 + 3 := by rw [anL]; omega
    rw [this, anC_set ps i a c (by simpa using h) hc h1 h2]
/-- One kid more at a node. -/
theorem LM.kid (x : LM H M S0 v ps) {i : Nat} (hi : ps[i]? = some a) (y : Int) (g1 : Vec H1 3 1 kv' (a.n.kids.map iv ++ [iv y])) (g2 : Fr (own a.kv) H H1) (g3 : ∀ b ∈ own kv', b ∈ own a.kv ∨ H.size ≤ b) :
    ∃ b o cap, v = .slice (some ⟨b, o, none⟩) ps.length cap ∧ wr H1 ⟨b, o + i * 5 + 3, none⟩ kv' = some (setH H1 ⟨b, o + i * 5 + 3, none⟩ kv') ∧
      LM (setH H1 ⟨b, o + i * 5 + 3, none⟩ kv') M S0 v (ps.set i { a with kv := kv', n := kidM y a.n }) ∧ Fr (LO v ps) H (setH H1 ⟨b, o + i * 5 + 3, none⟩ kv') ∧ (∀ b ∈ LO v (ps.set i { a with kv := kv', n := kidM y a.n }), b ∈ LO v ps ∨ H.size ≤ b) := by
  have hil := (List.getElem?_eq_some_iff.1 hi).1
  have hk := x.k i a hi
  have hmm := x.mm
  have hz1 := g2.size
  have v1 := x.vec.frame g2 (fun b hb e => (hk.2 b e).2 hb)
  have hfl : (ps.flatMap anC).length = ps.length * 5 := flat_len anL ps
  obtain ⟨b, o, len, cap, e1, e2, e3, e4, e5⟩ := Vec.setc v1 (i := i * 5 + 3) (by rw [hfl]; omega) kv'
  have : len = ps.length := by omega
  subst this
  rw [anC_set ps i a { a with kv := kv', n := kidM y a.n } hi rfl rfl rfl] at e4
  rw [← Nat.add_assoc] at e3 e4 e5
  have kp1 : Keeps S0 H H1 := Keeps.of_fr g2 (by intro b hb e; have := x.s0 b hb; have := (hk.2 b e).1; omega)
  have kp2 : Keeps S0 H1 (setH H1 ⟨b, o + i * 5 + 3, none⟩ kv') := Keeps.of_fr e5 (by intro b hb e; have := x.s0 b hb; have := x.ow b e; omega)
  have split : ∀ (j : Nat) c, (ps.set i { a with kv := kv', n := kidM y a.n })[j]? = some c → (i ≠ j ∧ ps[j]? = some c) ∨ (i = j ∧ c = { a with kv := kv', n := kidM y a.n }) := by
    intro j c hc
    by_cases hij : i = j
    · subst hij
      rw [List.getElem?_set_self hil] at hc
      exact .inr ⟨rfl, by simpa using hc.symm⟩
    · rw [List.getElem?_set_ne hij] at hc
      exact .inl ⟨hij, hc⟩
  have nw : ∀ b ∈ own kv', M ≤ b ∧ b ∉ own v := fun b hb => (g3 b hb).elim (hk.2 b) (fun h => ⟨by omega, fun e => by have := x.vec.lt b e; omega⟩)
  refine ⟨b, o, cap, e1, e3, ⟨e4, x.ow, ?_, ?_, ?_, x.s0, by rw [size_setH]; omega⟩, ?_, ?_⟩
  · intro j c hc
    rcases split j c hc with ⟨_, h⟩ | ⟨_, rfl⟩
    · exact ⟨((x.w j c h).1.frame kp1).frame kp2, ((x.w j c h).2.frame kp1).frame kp2⟩
    · exact ⟨((x.w i a hi).1.frame kp1).frame kp2, ((x.w i a hi).2.frame kp1).frame kp2⟩
  · intro j c hc
    rcases split j c hc with ⟨hij, h⟩ | ⟨_, rfl⟩
    · have hx := x.k j c h
      exact ⟨(hx.1.frame g2 (fun b hb e => x.d j i c a (fun h => hij h.symm) h hi b hb e)).frame e5 (fun b hb e => (hx.2 b hb).2 e), hx.2⟩
    · refine ⟨?_, nw⟩
      have : ((kidM y a.n).kids.map iv) = a.n.kids.map iv ++ [iv y] := by simp [kidM]
      rw [this]
      exact g1.frame e5 (fun b hb e => (nw b hb).2 e)
  · intro j m c e hjm hc he b hb
    rcases split j c hc with ⟨hij, h⟩ | ⟨rfl, rfl⟩
    · rcases split m e he with ⟨him, h'⟩ | ⟨rfl, rfl⟩
      · exact x.d j m c e hjm h h' b hb
      · exact fun q => (g3 b q).elim (x.d j i c a (fun h => hij h.symm) h hi b hb) (fun q' => by have := (x.k j c h).1.lt b hb; omega)
    · rcases split m e he with ⟨him, h'⟩ | ⟨rfl, rfl⟩
      · exact (g3 b hb).elim (x.d i m a e him hi h' b) (fun q' q => by have := (x.k m e h').1.lt b q; omega)
      · exact absurd rfl hjm
  · exact (g2.mono (fun b _ hb => LO_kid hi hb)).trans (e5.mono (fun b _ hb => LO_own hb))
  · intro b hb
    rcases LO_elim hb with h | ⟨j, c, hc, h⟩
    · exact .inl (LO_own h)
    · rcases split j c hc with ⟨_, h'⟩ | ⟨_, rfl⟩
      · exact .inl (LO_kid h' h)
      · exact (g3 b h).imp (LO_kid hi) id
/-- What has been made is read. -/
theorem LM.nl (x : LM H M S0 v ps) {S : Nat → Prop} (hS : ∀ b, S0 b ∨ M ≤ b → S b) : NL H S v (ps.map AN.n) :=
  ⟨ps, rfl, Rd.of_vec x.vec (fun b hb => hS b (.inr (x.ow b hb))), fun a ha => by
    obtain ⟨i, hi⟩ := List.getElem?_of_mem ha
    exact ⟨(x.w i a hi).1.mono (fun b hb _ => hS b (.inl hb)), (x.w i a hi).2.mono (fun b hb _ => hS b (.inl hb)), Rd.of_vec (x.k i a hi).1 (fun b hb => hS b (.inr ((x.k i a hi).2 b hb).1)), fun x' m c e => by
      rcases (x.k i a hi).1.ex with ⟨e1, _⟩ | ⟨b, len, cap, pre, rest, e1, _, _, _, e5⟩
      · rw [e1] at e; simp at e; omega
      · rw [e1] at e; simp at e; omega⟩⟩
end
end Go.Proofs.YtpkfgoemhcgpdaaGreatDoor

namespace Go.Proofs.YtpkfgoemhcgpdaaGreatDoor
open Go.HL
set_option maxRecDepth 10000
set_option linter.unusedSimpArgs false
set_option linter.unusedVariables false

theorem layF_low : ∀ (f : Fo) (j : Nat) (out : List Nd) (i : Nat), i < j → j ≤ out.length → (layF f j out)[i]? = out[i]?
  | .nil, _, _, _, _, _ => rfl
  | .cons n k r, j, out, i, h, hj => by
    unfold layF
    rw [layF_low r j _ i h (by rw [layF_len]; simp; omega), layF_low k out.length _ i (by omega) (by simp), List.getElem?_append_left (by simp; omega), List.getElem?_modify]
    have : ¬ j = i := by omega
    simp [this]
theorem modify_of {α : Type} {l : List α} {i : Nat} {a : α} (h : l[i]? = some a) (g : α → α) : l.modify i g = l.set i (g a) := by
  apply List.ext_getElem?
  intro j
  rw [List.getElem?_modify, List.getElem?_set]
  by_cases e : i = j
  · subst e
    obtain ⟨h1, h2⟩ := List.getElem?_eq_some_iff.1 h
    simp [h1, h2]
  · simp [e]
set_option maxHeartbeats 2000000 in
theorem lay_spec : ∀ (c : Nat) {f : Fo} {n : Nd} {H : Heap} {M : Nat} {S0 : Nat → Prop} {v : Value} {ps : List AN} {row : List Value}, f.cnt < c → TR H S0 row n f → LM H M S0 v ps → ps.length + f.cnt + 1 ≤ 1000000 →
    CallF Tryz.prog 25 [.agg row.toArray, v] H (fun r H' => ∃ ps', LM H' M S0 r ps' ∧ ps'.map AN.n = layF f ps.length (ps.map AN.n ++ [n]) ∧ Fr (LO v ps) H H' ∧ ∀ b ∈ LO r ps', b ∈ LO v ps ∨ H.size ≤ b) NoP := by
  intro c
  induction c with
  | zero => intro f n H M S0 v ps row h; omega
  | succ c IH =>
  intro f n H M S0 v ps row hc ht x hcnt
  obtain ⟨wv, nv, kv, lv, rfl, nr, ds, rd, fl⟩ := ht
  obtain ⟨a1, l1, c1, rfl⟩ := Rd.slice nr.w
  obtain ⟨a2, l2, c2, rfl⟩ := Rd.slice nr.u
  have hkv := nr.k.1
  subst hkv
  have hflen := fl.len
  obtain ⟨a4, c4, elv⟩ : ∃ a c, lv = .slice a f.len c := by
    obtain ⟨a, l, c, rfl, hl, _⟩ := rd
    exact ⟨a, c, by congr 1; omega⟩
  subst elv
  obtain ⟨av, lnv, cv, ev, hlv⟩ := x.vec.len
  have : lnv = ps.length := by rw [flat_len anL] at hlv; omega
  subst this
  subst ev
  obtain ⟨G, hG⟩ : ∃ G, G = H.push (.cells #[iv n.kind, .slice a1 l1 c1, .slice a2 l2 c2, .slice none 0 0, iv n.pos, .slice a4 f.len c4] 72) := ⟨_, rfl⟩
  have f0 : Fr [] H G := by rw [hG]; exact Fr.push
  have hb : Blk G H.size 72 [iv n.kind, .slice a1 l1 c1, .slice a2 l2 c2, .slice none 0 0, iv n.pos, .slice a4 f.len c4] := by rw [hG]; exact Blk.new rfl
  have ld : cellsH (cellH G) ⟨H.size, 0, none⟩ 0 5 = some [iv n.kind, .slice a1 l1 c1, .slice a2 l2 c2, .slice none 0 0, iv n.pos] := Blk.cells (pre := []) (new := [iv n.kind, .slice a1 l1 c1, .slice a2 l2 c2, .slice none 0 0, iv n.pos]) (rest := [.slice a4 f.len c4]) (by simpa using hb)
  have hmm := x.mm
  have x0 := x.grow f0
  have zG : G.size = H.size + 1 := by rw [hG]; simp
  refine callF_of Tryz.func25 rfl Tryz.ntmps25 Tryz.results25 (by decide) rfl ?_
  simp (disch := omega) only [go_sem, ↓cw_block, dsB_of]
  rw [← hG]
  simp (disch := omega) only [go_sem, ↓cw_block, dsB_of, ld]
  refine app_lit (n := 1) (new := [iv n.kind, .slice a1 l1 c1, .slice a2 l2 c2, .slice none 0 0, iv n.pos]) T.el39 rfl x0.vec (one_all rfl) rfl (by intro a' l c e; simp only [Value.slice.injEq] at e; obtain ⟨_, rfl, _⟩ := e; omega) ?_
  intro v1 H1 g1 g2 g3 g4
  refine Hush.out ?_
  obtain ⟨a5, c5, e5⟩ := g4 _ _ _ rfl
  have kpS : ∀ {X Y : Heap} {F : List Nat}, Fr F X Y → (∀ b ∈ F, M ≤ b) → Keeps S0 X Y := fun q hF => Keeps.of_fr q (by intro b hb e; have := x.s0 b hb; have := hF b e; omega)
  obtain ⟨x1, lo1⟩ := x0.add (a := ⟨n, .slice a1 l1 c1, .slice a2 l2 c2, .slice none 0 0⟩) rfl nr.k.2 (nr.w.frame (kpS f0 (by simp))) (nr.u.frame (kpS f0 (by simp))) g1 g2 g3
  have hz1 := g2.size
  have hb1 : Blk H1 H.size 72 _ := g2.blk hb (fun e => by have := x.vec.lt _ e; omega)
  have fr1 : Fr (LO (.slice av ps.length cv) ps) H H1 := (f0.nil).trans (g2.mono (fun b _ hb => LO_own hb))
  have lo1' : ∀ b ∈ LO v1 (ps ++ [⟨n, .slice a1 l1 c1, .slice a2 l2 c2, .slice none 0 0⟩]), b ≠ H.size ∧ (b ∈ LO (.slice av ps.length cv) ps ∨ H.size ≤ b) := by
    intro b hb
    rcases lo1 b hb with h | h
    · refine ⟨?_, .inl h⟩
      rcases LO_elim h with h | ⟨i, a, hi, h⟩
      · have := x.vec.lt b h; omega
      · have := (x.k i a hi).1.lt b h; omega
    · exact ⟨by omega, .inr (by omega)⟩
  subst e5
  refine ⟨?_⟩
  simp (disch := omega) only [go_sem, ↓cw_block, dsB_of]
  refine loop_by (fun k ρ H2 => ∃ (i : Nat) (v2 : Value) (ps2 : List AN) (a : AN), k = f.len - i ∧ i ≤ f.len ∧ LM H2 M S0 v2 ps2 ∧ layF (f.drop i) ps.length (ps2.map AN.n) = layF f ps.length (ps.map AN.n ++ [n]) ∧
      ps2[ps.length]? = some a ∧ a.n.kids.length = i ∧ Blk H2 H.size 72 [iv n.kind, .slice a1 l1 c1, .slice a2 l2 c2, .slice none 0 0, iv n.pos, .slice a4 f.len c4] ∧ Fr (LO (.slice av ps.length cv) ps) H H2 ∧ (∀ b ∈ LO v2 ps2, b ≠ H.size ∧ (b ∈ LO (.slice av ps.length cv) ps ∨ H.size ≤ b)) ∧
      (ρ.get 1 = v2 ∧ ρ.get 2 = hp H.size ∧ ρ.get 5 = iv ps.length ∧ ρ.get 6 = iv i ∧ ρ.ds = [])) (k := f.len) ?_ ?_
  · exact ⟨0, _, _, ⟨n, .slice a1 l1 c1, .slice a2 l2 c2, .slice none 0 0⟩, rfl, by omega, x1, by simp [Fo.drop], by simp, by simp [nr.k.2], hb1, fr1, lo1', by simp (disch := omega) only [go_sem, ↓cw_block, dsB_of]⟩
  · rintro k ρ H2 ⟨i, v2, ps2, a, rfl, hi, x2, hlay, hat, hkl, hb2, fr2, lo2, r1, r2, r5, r6, rd'⟩
    have hfc : f.len ≤ f.cnt := by
      have : ∀ f : Fo, f.len ≤ f.cnt := by
        intro f; induction f with
        | nil => simp [Fo.len]
        | cons n k r _ ih => simp [Fo.len, Fo.cnt]; omega
      exact this f
    have k1 := hb2.cell 5
    simp only [List.getElem?_cons_succ, List.getElem?_cons_zero] at k1
    obtain ⟨av2, lnv2, cv2, ev2, hlv2⟩ := x2.vec.len
    have : lnv2 = ps2.length := by rw [flat_len anL] at hlv2; omega
    subst this
    subst ev2
    have hpl := (List.getElem?_eq_some_iff.1 hat).1
    have htot : ps2.length + (f.drop i).cnt = ps.length + 1 + f.cnt := by
      have := congrArg List.length hlay
      rw [layF_len, layF_len] at this
      simp at this; omega
    by_cases hin : i < f.len
    · obtain ⟨n', k', r', hd1, hd2, hd3⟩ := Fo.drop_lt f i hin
      have hcn : k'.cnt + r'.cnt + 1 = (f.drop i).cnt := by rw [hd1]; simp [Fo.cnt]; omega
      have hka := x2.k _ _ hat
      obtain ⟨ka, kl, kc, ek, hkl'⟩ := hka.1.len
      have : kl = i := by rw [List.length_map] at hkl'; omega
      subst this
      obtain ⟨b0, o0, cap0, q1, q2⟩ : ∃ b o cap, Value.slice av2 ps2.length cv2 = .slice (some ⟨b, o, none⟩) ps2.length cap ∧ cellH H2 ⟨b, o + ps.length * 5 + 3, none⟩ = some a.kv := by
        obtain ⟨b, o, len, cap, q1, q2, q3⟩ := x2.vec.cell (by intro e; rw [e] at hlv2; simp at hlv2; omega)
        refine ⟨b, o, cap, by rw [q1]; congr 1; omega, ?_⟩
        rw [Nat.add_assoc, q3 _ (by rw [flat_len anL]; omega), flat_get anL (by decide) _ _ _ hat]
        rfl
      simp only [Value.slice.injEq, true_and] at q1
      obtain ⟨rfl, rfl⟩ := q1
      rw [ek] at q2
      have hxi : (kl : Int) + 1 = ((kl + 1 : Nat) : Int) := by omega
      simp (disch := omega) only [go_sem, ↓cw_block, dsB_of, r1, r2, r5, r6, rd', k1, q2]
      have hvec := hka.1
      rw [ek] at hvec
      refine app_lit1 T.el67 rfl hvec rfl (by rw [List.length_map]; omega) ?_
      intro kv' H3 g1 g2 g3 g4
      refine Hush.out ?_
      rw [← ek] at g2 g3
      obtain ⟨b3, o3, cap3, w1, w2, x3, fr3, lo3⟩ := x2.kid hat _ g1 g2 g3
      simp only [Value.slice.injEq, Option.some.injEq, Addr.mk.injEq, and_true, true_and] at w1
      obtain ⟨⟨rfl, rfl⟩, rfl⟩ := w1
      obtain ⟨ka', kc', ek'⟩ := g4
      subst ek'
      generalize hH4 : setH H3 ⟨b0, o0 + ps.length * 5 + 3, none⟩ _ = H4 at w2 x3 fr3
      have hb4 := fr3.blk hb2 (fun e => (lo2 _ e).1 rfl)
      have k4 := hb4.cell 5
      simp only [List.getElem?_cons_succ, List.getElem?_cons_zero] at k4
      have fr24 : Fr (LO (.slice av ps.length cv) ps) H H4 := Fr.more fr2 fr3 (fun b hb => (lo2 b hb).2)
      have hz2 := fr2.size
      have hz4 := fr3.size
      have rd4 := rd.frame (kpS fr24 (fun b hb => x.ge hb))
      have fl4 := fl.frame (kpS fr24 (fun b hb => x.ge hb))
      obtain ⟨b6, o6, c6, row6, e6, t6, ld6⟩ := FL.row rd4 fl4 hd1
      simp only [Value.slice.injEq, true_and] at e6
      obtain ⟨rfl, rfl⟩ := e6
      refine ⟨?_⟩
      simp (disch := omega) only [go_sem, ↓cw_block, dsB_of, r1, r2, r5, r6, rd', w2, k4, ld6]
      refine call_to (IH (f := k') (n := n') (by omega) t6 x3 (by rw [List.length_set]; omega)) ?_
      intro v5 H5 hv
      refine Hush.out ?_
      obtain ⟨ps5, x5, hl5, fr5, lo5⟩ := hv
      have hb5 := fr5.blk hb4 (fun e => by
        rcases lo3 _ e with h | h
        · exact (lo2 _ h).1 rfl
        · have := hb2.lt; omega)
      have fr25 : Fr (LO (.slice av ps.length cv) ps) H H5 := Fr.more fr24 fr5 (fun b hb => (lo3 b hb).elim (fun h => (lo2 b h).2) (fun h => .inr (by omega)))
      have hlen5 : ps5.length = ps2.length + 1 + k'.cnt := by
        have := congrArg List.length hl5
        rw [layF_len] at this
        simpa using this
      have hset : (ps2.set ps.length { a with kv := .slice ka' ((a.n.kids.map iv).length + 1) kc', n := kidM ps2.length a.n }).map AN.n = (ps2.map AN.n).modify ps.length (kidM (ps2.map AN.n).length) := by
        rw [List.map_set, modify_of (a := a.n) (by rw [List.getElem?_map, hat]; rfl)]
        simp only [List.length_map]
      rw [hset, List.length_set] at hl5
      have hget : (ps5.map AN.n)[ps.length]? = some (kidM ps2.length a.n) := by
        rw [hl5, layF_low _ _ _ _ (by omega) (by simp), List.getElem?_append_left (by simp; omega), List.getElem?_modify, List.getElem?_map, hat]
        simp
      rw [List.getElem?_map, Option.map_eq_some_iff] at hget
      obtain ⟨a5', ha5, hn5⟩ := hget
      refine ⟨?_⟩
      simp (disch := omega) only [go_sem, ↓cw_block, dsB_of, r1, r2, r5, r6, rd']
      refine fin ⟨f.len - (kl + 1), by omega, kl + 1, v5, ps5, a5', rfl, by omega, x5, ?_, ha5, by rw [hn5]; simp [kidM, hkl], hb5, fr25, ?_, by simp (disch := omega) only [go_sem, ↓cw_block, dsB_of, r1, r2, r5, r6, rd', hxi]⟩
      · rw [hd2, hl5, ← hlay, hd1]
        simp only [layF, List.length_map]
      · intro b hb
        rcases lo5 b hb with h | h
        · rcases lo3 b h with h | h
          · exact lo2 b h
          · exact ⟨by have := hb2.lt; omega, .inr (by omega)⟩
        · exact ⟨by have := hb2.lt; omega, .inr (by omega)⟩
    · have : f.drop i = .nil := Fo.drop_ge f i (by omega)
      rw [this] at hlay
      simp (disch := omega) only [go_sem, ↓cw_block, dsB_of, r1, r2, r5, r6, rd', k1]
      exact fin ⟨ps2, x2, hlay, fr2, fun b hb => (lo2 b hb).2⟩
end Go.Proofs.YtpkfgoemhcgpdaaGreatDoor

namespace Go.Proofs.YtpkfgoemhcgpdaaGreatDoor
open Go.HL
set_option maxRecDepth 10000
set_option linter.unusedSimpArgs false
set_option linter.unusedVariables false

def deepF : Fo → Int → Int
  | .nil, _ => -1
  | .cons n k r, d => if 0 ≤ (if 20 < d then n.pos else deepF k (d + 1)) then (if 20 < d then n.pos else deepF k (d + 1)) else deepF r d
def deepT (n : Nd) (f : Fo) (d : Int) : Int := if 20 < d then n.pos else deepF f (d + 1)
theorem Fo.len_cnt : ∀ f : Fo, f.len ≤ f.cnt := by
  intro f
  induction f with
  | nil => simp [Fo.len]
  | cons n k r _ ih => simp [Fo.len, Fo.cnt]; omega
set_option maxHeartbeats 2000000 in
theorem deep_spec : ∀ (c : Nat) {f : Fo} {n : Nd} {H : Heap} {S0 : Nat → Prop} {row : List Value} {d : Int}, f.cnt < c → f.cnt ≤ 1000000 → TR H S0 row n f → 0 ≤ d → d ≤ 1000 →
    CallF Tryz.prog 26 [.agg row.toArray, iv d] H (fun r H' => Fr [] H H' ∧ r = iv (deepT n f d)) NoP := by
  intro c
  induction c with
  | zero => intro f n H S0 row d h; omega
  | succ c IH =>
  intro f n H S0 row d hc hcm ht hd1 hd2
  have hfc : f.len ≤ f.cnt := Fo.len_cnt f
  have ht' := ht
  obtain ⟨wv, nv, kv, lv, rfl, nr, ds, rd, fl⟩ := ht
  obtain ⟨a1, l1, c1, rfl⟩ := Rd.slice nr.w
  obtain ⟨a2, l2, c2, rfl⟩ := Rd.slice nr.u
  have hkv := nr.k.1
  subst hkv
  have hflen := fl.len
  obtain ⟨a4, c4, elv⟩ : ∃ a c, lv = .slice a f.len c := by
    obtain ⟨a, l, c, rfl, hl, _⟩ := rd
    exact ⟨a, c, by congr 1; omega⟩
  subst elv
  obtain ⟨G, hG⟩ : ∃ G, G = H.push (.cells #[iv n.kind, .slice a1 l1 c1, .slice a2 l2 c2, .slice none 0 0, iv n.pos, .slice a4 f.len c4] 72) := ⟨_, rfl⟩
  have f0 : Fr [] H G := by rw [hG]; exact Fr.push
  have hb : Blk G H.size 72 [iv n.kind, .slice a1 l1 c1, .slice a2 l2 c2, .slice none 0 0, iv n.pos, .slice a4 f.len c4] := by rw [hG]; exact Blk.new rfl
  have k4 := hb.cell 4
  simp only [List.getElem?_cons_succ, List.getElem?_cons_zero] at k4
  unfold deepT
  refine callF_of Tryz.func26 rfl Tryz.ntmps26 Tryz.results26 (by decide) rfl ?_
  by_cases hd : 20 < d
  · simp (disch := omega) only [go_sem, ↓cw_block, dsB_of]
    rw [if_pos hd]
    exact fin ⟨Fr.push, rfl⟩
  · rw [if_neg hd]
    simp (disch := omega) only [go_sem, ↓cw_block, dsB_of]
    rw [← hG]
    refine loop_by (fun k ρ H2 => ∃ i : Nat, k = f.len - i ∧ i ≤ f.len ∧ deepF (f.drop i) (d + 1) = deepF f (d + 1) ∧ Fr [] G H2 ∧ (ρ.get 1 = iv d ∧ ρ.get 2 = hp H.size ∧ ρ.get 5 = iv i ∧ ρ.ds = [])) (k := f.len) ?_ ?_
    · exact ⟨0, rfl, by omega, rfl, Fr.refl _ _, by simp (disch := omega) only [go_sem, ↓cw_block, dsB_of]⟩
    · rintro k ρ H2 ⟨i, rfl, hi, hdp, fr2, r1, r2, r5, rd'⟩
      have hb2 := fr2.blk hb (by simp)
      have k1 := hb2.cell 5
      simp only [List.getElem?_cons_succ, List.getElem?_cons_zero] at k1
      by_cases hin : i < f.len
      · obtain ⟨n', k', r', hd1', hd2', hd3'⟩ := Fo.drop_lt f i hin
        have hk : Keeps S0 H H2 := Keeps.of_fr (f0.trans fr2) (by simp)
        obtain ⟨b6, o6, c6, row6, e6, t6, ld6⟩ := FL.row (rd.frame hk) (fl.frame hk) hd1'
        simp only [Value.slice.injEq, true_and] at e6
        obtain ⟨rfl, rfl⟩ := e6
        have hxi : (i : Int) + 1 = ((i + 1 : Nat) : Int) := by omega
        simp (disch := omega) only [go_sem, ↓cw_block, dsB_of, r1, r2, r5, rd', k1, ld6]
        refine call_to (IH (f := k') (n := n') (by omega) (by omega) t6 (by omega) (by omega)) ?_
        intro v5 H5 hv
        refine Hush.out ?_
        obtain ⟨fr5, rfl⟩ := hv
        rw [hd1'] at hdp
        simp only [deepF] at hdp
        by_cases hq : 0 ≤ deepT n' k' (d + 1)
        · refine ⟨?_⟩
          simp (disch := omega) only [go_sem, ↓cw_block, dsB_of, r1, r2, r5, rd']
          refine fin ⟨(f0.trans fr2).trans fr5, ?_⟩
          unfold deepT at hq ⊢
          rw [if_pos hq] at hdp
          rw [hdp]
        · refine ⟨?_⟩
          simp (disch := omega) only [go_sem, ↓cw_block, dsB_of, r1, r2, r5, rd']
          refine fin ⟨f.len - (i + 1), by omega, i + 1, rfl, by omega, ?_, fr2.trans fr5, by simp (disch := omega) only [go_sem, ↓cw_block, dsB_of, r1, r2, r5, rd', hxi]⟩
          unfold deepT at hq
          rw [if_neg hq] at hdp
          rw [hd2', hdp]
      · rw [Fo.drop_ge f i (by omega)] at hdp
        simp (disch := omega) only [go_sem, ↓cw_block, dsB_of, r1, r2, r5, rd', k1]
        exact fin ⟨f0.trans fr2, by rw [← hdp]; rfl⟩

/-! ### Tokens -/
theorem span_all {p : UInt8 → Bool} {s : Str} {i : Nat} : ((s.take (spanM p s i)).drop i).all p = true := by
  unfold spanM
  have e : (s.take (i + ((s.drop i).takeWhile p).length)).drop i = (s.drop i).takeWhile p := by
    rw [List.drop_take]
    have : i + ((s.drop i).takeWhile p).length - i = ((s.drop i).takeWhile p).length := by omega
    rw [this]
    have := List.takeWhile_prefix (p := p) (l := s.drop i)
    exact (List.prefix_iff_eq_take.1 this).symm
  rw [e]
  exact List.all_takeWhile
theorem tok_num {s : Str} {i : Nat} (hk : (tokEnd s i).2 = 1) : ((s.take (tokEnd s i).1).drop i).all digitM = true := by
  unfold tokEnd at hk ⊢
  split at hk
  · simp at hk
  · split at hk
    · simp at hk
    · split at hk
      · rename_i h1 h2 h3
        rw [if_neg h1, if_neg h2, if_pos h3]
        exact span_all
      · split at hk <;> simp at hk
def TokI (out : List Tok) : Prop := ∀ t ∈ out, t.kind = 1 → t.s.length ≤ 6 ∧ t.s.all digitM = true
theorem tokM_tw : ∀ (n : Nat) (s : Str) (i : Nat) (out : List Tok) (res : List Tok × Flt), tokM s n i out = some res → res.2.err = 0 → s.length ≤ 4000 → i ≤ s.length → out.length ≤ i → TokI out → TW res.1
  | 0, s, i, out, res, h, _, _, _, _, _ => by simp [tokM] at h
  | n + 1, s, i, out, res, h, he, hs, hi, ho, hI => by
    unfold tokM at h
    split at h
    · rename_i hlt
      split at h
      · exact tokM_tw n s (i + 1) out res h he hs (by omega) (by omega) hI
      · split at h
        · have := span_ge (p := notNl) (s := s) (k := i)
          exact tokM_tw n s _ out res h he hs (span_le hi) (by omega) hI
        · split at h
          · simp only [Option.some.injEq] at h
            subst h
            simp at he
          · rename_i hc
            have hle := tokEnd_le hlt
            refine tokM_tw n s _ _ res h he hs hle.2 (by simp; omega) ?_
            intro t ht hk
            rw [List.mem_append, List.mem_singleton] at ht
            rcases ht with ht | rfl
            · exact hI t ht hk
            · refine ⟨?_, tok_num hk⟩
              simp only [List.length_drop, List.length_take]
              have hk' : (tokEnd s i).2 = 1 := hk
              omega
    · simp only [Option.some.injEq] at h
      subst h
      refine ⟨by simp; omega, ?_, ?_⟩
      · intro j t hj hk
        simp only [List.length_append, List.length_singleton]
        by_cases hjl : j < out.length
        · omega
        · exfalso
          rw [List.getElem?_append_right (by omega)] at hj
          have : j - out.length = 0 := by have := (List.getElem?_eq_some_iff.1 hj).1; simp at this; omega
          rw [this] at hj
          simp at hj
          subst hj
          exact hk rfl
      · intro j t hj hk
        have := List.mem_of_getElem? hj
        rw [List.mem_append, List.mem_singleton] at this
        rcases this with ht | rfl
        · exact hI t ht hk
        · simp at hk
theorem tokM_pos : ∀ (n : Nat) (s : Str) (i : Nat) (out : List Tok) (res : List Tok × Flt), tokM s n i out = some res → res.2.err = 0 → 0 < res.1.length
  | 0, s, i, out, res, h, _ => by simp [tokM] at h
  | n + 1, s, i, out, res, h, he => by
    unfold tokM at h
    split at h
    · split at h
      · exact tokM_pos n s _ _ res h he
      · split at h
        · exact tokM_pos n s _ _ res h he
        · split at h
          · simp only [Option.some.injEq] at h
            subst h
            simp at he
          · exact tokM_pos n s _ _ res h he
    · simp only [Option.some.injEq] at h
      subst h
      simp
theorem tokens_tw {n : Nat} {s : Str} {res : List Tok × Flt} (h : tokensM n s = some res) (he : res.2.err = 0) : TW res.1 ∧ 0 < res.1.length := by
  unfold tokensM at h
  split at h
  · simp only [Option.some.injEq] at h
    subst h
    simp at he
  · exact ⟨tokM_tw n s 0 [] res h he (by omega) (by omega) (by simp) (by intro t ht; simp at ht), tokM_pos n s 0 [] res h he⟩
def parseM (n : Nat) (s : Str) : Option (List Nd × Flt) :=
  (tokensM n s).bind fun q => if q.2.err = 0 then
    (progM q.1 n ⟨0, 0, ⟨0, 0⟩⟩).bind fun r => if r.2.flt.err = 0 then
      (if r.1.2.cnt + 1 ≤ 1000000 then
        (if 800 < (layF r.1.2 0 [r.1.1]).length then some ([], ⟨12, 0⟩) else if 0 ≤ deepT r.1.1 r.1.2 1 then some ([], ⟨12, deepT r.1.1 r.1.2 1⟩) else some (layF r.1.2 0 [r.1.1], ⟨0, 0⟩))
      else none) else some ([], r.2.flt) else some ([], q.2)
def ParP (H : Heap) (res : List Nd × Flt) (r : Value) (H' : Heap) : Prop := ∃ v, r = .tuple #[v, fltV res.2] ∧ Fr [] H H' ∧ NL H' (fun b => H.size ≤ b) v res.1
end Go.Proofs.YtpkfgoemhcgpdaaGreatDoor

namespace Go.Proofs.YtpkfgoemhcgpdaaGreatDoor
open Go.HL
set_option maxRecDepth 10000
set_option linter.unusedSimpArgs false
set_option linter.unusedVariables false

section
variable {H X : Heap} {v : Value} {l : List Nd} {e p : Int}
/-- A fault is put into the box of the result. -/
theorem flt_res (f : Fr [] (H.push (.cells #[iv 0, iv 0] 25)) X) (e p : Int) : ∃ X', storeA Tryz.prog X 25 ⟨H.size, 0, none⟩ (.agg #[iv e, iv p]) = some X' ∧ cellsH (cellH X') ⟨H.size, 0, none⟩ 0 2 = some [iv e, iv p] ∧ Fr [] H X' ∧ Fr [H.size] X X' := by
  have hb : Blk X H.size 25 [iv 0, iv 0] := f.blk (Blk.new rfl) (by simp)
  obtain ⟨X', e1, e2, e3⟩ := store_blk (P := Tryz.prog) (ty := 25) (new := [iv e, iv p]) hb rfl T.size25 (one_all rfl)
  have f0 : Fr [] H X := (Fr.push (o := .cells #[iv 0, iv 0] 25)).trans f
  exact ⟨X', e1, e2.cells0, Fr.more f0 e3 (by simp), e3⟩
end
set_option maxHeartbeats 2000000 in
theorem parse_spec {n : Nat} {s : Str} {res : List Nd × Flt} {H : Heap} (hm : parseM n s = some res) : CallF Tryz.prog 11 [sv s] H (fun r H' => ParP H res r H') NoP := by
  unfold parseM at hm
  obtain ⟨q, hq, hm⟩ := Option.bind_eq_some_iff.1 hm
  obtain ⟨G, hG⟩ : ∃ G, G = H.push (.cells #[iv 0, iv 0] 25) := ⟨_, rfl⟩
  have f0 : Fr [] H G := by rw [hG]; exact Fr.push
  have zG : G.size = H.size + 1 := by rw [hG]; simp
  refine callF_of Tryz.func11 rfl Tryz.ntmps11 Tryz.results11 (by decide) rfl ?_
  simp (disch := omega) only [go_sem, ↓cw_block, dsB_of]
  rw [← hG]
  refine call_to (r8Tokens_spec hq) ?_
  intro r1 H1 hv
  refine Hush.out ?_
  obtain ⟨tv, rfl, f1, hvec, hown⟩ := hv
  obtain ⟨ta, tl, tc, etv, htl⟩ := hvec.len
  have hz1 := f1.size
  obtain ⟨G1, hG1⟩ : ∃ G, G = H1.push (.cells #[iv q.2.err, iv q.2.pos] 25) := ⟨_, rfl⟩
  have f2 : Fr [] H1 G1 := by rw [hG1]; exact Fr.push
  have zG1 : G1.size = H1.size + 1 := by rw [hG1]; simp
  have fG1 : Fr [] G G1 := f1.trans f2
  have hbq : Blk G1 H1.size 25 [iv q.2.err, iv q.2.pos] := by rw [hG1]; exact Blk.new rfl
  have ldq := hbq.cells0
  simp only [List.length_cons, List.length_nil] at ldq
  by_cases he : q.2.err = 0
  rotate_left
  · rw [if_neg he] at hm
    simp only [Option.some.injEq] at hm
    subst hm
    obtain ⟨X', e1, e2, e3, _⟩ := flt_res (X := G1) (H := H) (by rw [← hG]; exact fG1) q.2.err q.2.pos
    refine ⟨?_⟩
    simp (disch := omega) only [go_sem, ↓cw_block, dsB_of, fltV]
    rw [← hG1]
    refine draw0 (lk [(0, true), (1, true)] (.act 2 .fin .non)) T.mixed ?_
    simp (disch := omega) only [go_sem, ↓cw_block, dsB_of, ldq, e1, e2]
    exact fin ⟨_, rfl, e3, NL.nil⟩
  rw [if_pos he] at hm
  obtain ⟨r, hr, hm⟩ := Option.bind_eq_some_iff.1 hm
  obtain ⟨hW, hpos⟩ := tokens_tw hq he
  obtain ⟨G2, hG2⟩ : ∃ G, G = G1.push (.cells #[tv, iv 0, iv 0, iv 0, iv 0] 65) := ⟨_, rfl⟩
  have f3 : Fr [] G1 G2 := by rw [hG2]; exact Fr.push
  have zG2 : G2.size = G1.size + 1 := by rw [hG2]; simp
  have pm : PM G2 G1.size tv q.1 ⟨0, 0, ⟨0, 0⟩⟩ := ⟨by rw [hG2]; exact Blk.new rfl, (Rd.of_vec (hvec.frame (f2.trans f3) (by simp)) (fun b hb => by have := hvec.lt b hb; omega)), hpos⟩
  have hk5 := etv
  subst etv
  refine ⟨?_⟩
  simp (disch := omega) only [go_sem, ↓cw_block, dsB_of, fltV, he]
  rw [he] at hG1
  rw [← hG1, ← hG2]
  refine call_to (pProgram_spec hW pm hr) ?_
  intro r4 H4 hv
  refine Hush.out ?_
  obtain ⟨pp4, cp, rfl, t4⟩ := hv
  obtain ⟨a1, l1, c1, a2, l2, c2, a3, l3, c3, a4, l4, c4, ecp⟩ := t4.form
  obtain ⟨G4, hG4⟩ : ∃ G, G = H4.push (.cells cp.toArray 72) := ⟨_, rfl⟩
  have f4 : Fr [] H4 G4 := by rw [hG4]; exact Fr.push
  have zG4 : G4.size = H4.size + 1 := by rw [hG4]; simp
  have hz4 := pp4.1.size
  have pm4 := pp4.2.grow f4
  have fG4 : Fr [] G G4 := by
    have : Fr [G1.size] G1 H4 := f3.nil.trans pp4.1
    have h2 : Fr [] G H4 := Fr.more fG1 this (by intro b hb; simp at hb; omega)
    exact h2.trans f4
  have c3 := pm4.self.cell 3
  have hbp := pm4.self
  have hbt : Blk G4 H4.size 72 cp := by rw [hG4]; exact Blk.new rfl
  have hcl : cp.length = 6 := by rw [ecp]; rfl
  have ldt := hbt.cells0
  rw [hcl] at ldt
  simp only [psC, List.getElem?_cons_succ, List.getElem?_cons_zero] at c3
  have ldp : cellsH (cellH G4) ⟨G1.size, 3, none⟩ 0 2 = some [iv r.2.flt.err, iv r.2.flt.pos] := Blk.cells (pre := [.slice ta tl tc, iv r.2.pos, iv r.2.deep]) (new := [iv r.2.flt.err, iv r.2.flt.pos]) (rest := []) (by simpa [psC] using hbp)
  have hcp1 : ∀ u ∈ cp, oneC u = true := by rw [ecp]; exact one_all rfl
  by_cases hf : r.2.flt.err = 0
  rotate_left
  · rw [if_neg hf] at hm
    simp only [Option.some.injEq] at hm
    subst hm
    obtain ⟨X', e1, e2, e3, _⟩ := flt_res (X := G4) (H := H) (by rw [← hG]; exact fG4) r.2.flt.err r.2.flt.pos
    subst ecp
    refine ⟨?_⟩
    simp (disch := omega) only [go_sem, ↓cw_block, dsB_of]
    rw [← hG4]
    simp (disch := omega) only [go_sem, ↓cw_block, dsB_of, c3]
    refine draw0 (lk [(0, true), (1, true), (2, true), (3, true), (4, true)] (.act 5 .fin .non)) T.mixed ?_
    simp (disch := omega) only [go_sem, ↓cw_block, dsB_of, ldp, e1, e2]
    exact fin ⟨_, rfl, e3, NL.nil⟩
  rw [if_pos hf] at hm
  by_cases hcn : r.1.2.cnt + 1 ≤ 1000000
  rotate_left
  · rw [if_neg hcn] at hm; simp at hm
  rw [if_pos hcn] at hm
  have t5 : TR G4 (fun b => G2.size ≤ b ∧ b < H4.size) cp r.1.1 r.1.2 := (t4.mono (fun b hb hl => ⟨hb, hl⟩)).grow f4
  have lm0 : LM G4 H4.size (fun b => G2.size ≤ b ∧ b < H4.size) (.slice none 0 0) [] := LM.nil (fun b hb => hb.2) (by omega)
  have hlay := lay_spec (r.1.2.cnt + 1) (Nat.lt_succ_self _) t5 lm0 (by simp; omega)
  subst ecp
  refine ⟨?_⟩
  simp (disch := omega) only [go_sem, ↓cw_block, dsB_of]
  rw [← hG4]
  simp (disch := omega) only [go_sem, ↓cw_block, dsB_of, c3, hf, ldt]
  refine call_to hlay ?_
  intro v5 H5 hv
  refine Hush.out ?_
  obtain ⟨ps, lm, hps, fr5, _⟩ := hv
  have fr5' : Fr [] G4 H5 := fr5
  have hz5 := fr5'.size
  obtain ⟨av, lnv, cv, ev, hlv⟩ := lm.vec.len
  have : lnv = ps.length := by rw [flat_len anL] at hlv; omega
  subst this
  have hpl : ps.length = (layF r.1.2 0 [r.1.1]).length := by have := congrArg List.length hps; simpa using this
  have hll : (layF r.1.2 0 [r.1.1]).length = 1 + r.1.2.cnt := by rw [layF_len]; rfl
  have hbt5 := fr5'.blk hbt (by simp)
  have ldt5 := hbt5.cells0
  rw [hcl] at ldt5
  have hdeep := deep_spec (r.1.2.cnt + 1) (d := 1) (Nat.lt_succ_self _) (by omega) (t5.grow fr5') (by omega) (by omega)
  have nl5 := lm.nl (S := fun b => H.size ≤ b) (by intro b hb; rcases hb with hb | hb <;> omega)
  rw [hps] at nl5
  subst ev
  by_cases h800 : 800 < (layF r.1.2 0 [r.1.1]).length
  · rw [if_pos h800] at hm
    simp only [Option.some.injEq] at hm
    subst hm
    obtain ⟨X', e1, e2, e3, _⟩ := flt_res (X := H5) (H := H) (by rw [← hG]; exact fG4.trans fr5') 12 0
    refine ⟨?_⟩
    simp (disch := omega) only [go_sem, ↓cw_block, dsB_of, e1, e2]
    exact fin ⟨_, rfl, e3, NL.nil⟩
  rw [if_neg h800] at hm
  refine ⟨?_⟩
  simp (disch := omega) only [go_sem, ↓cw_block, dsB_of, ldt5]
  refine call_to hdeep ?_
  intro v6 H6 hv
  refine Hush.out ?_
  obtain ⟨f6, rfl⟩ := hv
  by_cases hdp : 0 ≤ deepT r.1.1 r.1.2 1
  · rw [if_pos hdp] at hm
    simp only [Option.some.injEq] at hm
    subst hm
    obtain ⟨X', e1, e2, e3, _⟩ := flt_res (X := H6) (H := H) (by rw [← hG]; exact (fG4.trans fr5').trans f6) 12 (deepT r.1.1 r.1.2 1)
    refine ⟨?_⟩
    simp (disch := omega) only [go_sem, ↓cw_block, dsB_of, e1, e2]
    exact fin ⟨_, rfl, e3, NL.nil⟩
  · rw [if_neg hdp] at hm
    simp only [Option.some.injEq] at hm
    subst hm
    obtain ⟨X', e1, e2, e3, e4⟩ := flt_res (X := H6) (H := H) (by rw [← hG]; exact (fG4.trans fr5').trans f6) 0 0
    have nl6 : NL H5 (fun b => H.size < b) _ _ := lm.nl (S := fun b => H.size < b) (by intro b hb; rcases hb with hb | hb <;> omega)
    rw [hps] at nl6
    refine ⟨?_⟩
    simp (disch := omega) only [go_sem, ↓cw_block, dsB_of, e1, e2]
    exact fin ⟨_, rfl, e3, ((nl6.grow f6).frame (Keeps.of_fr e4 (by intro b hb; simp; omega))).mono (by intro b hb _; show H.size ≤ b; omega)⟩
end Go.Proofs.YtpkfgoemhcgpdaaGreatDoor

namespace Go.Proofs.YtpkfgoemhcgpdaaGreatDoor
open Go.HL
set_option maxRecDepth 10000
set_option linter.unusedSimpArgs false
set_option linter.unusedVariables false

section
variable {H : Heap} {S : Nat → Prop} {v : Value} {l : List Nd}
end
end Go.Proofs.YtpkfgoemhcgpdaaGreatDoor

