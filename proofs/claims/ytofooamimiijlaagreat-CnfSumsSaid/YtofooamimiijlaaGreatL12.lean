/- append into a slice that has room: what its block holds afterwards, to the last cell. -/
import Derived.Test.YtofooamimiijlaaGreatL05
import Derived.Test.YtofooamimiijlaaGreatL10
import Derived.Test.YtofooamimiijlaaGreatL11
namespace Go.HL

theorem app_fit {P : Program} {H : Heap} {t xt e z bytes n b len cap : Nat} {zero x : Value} {pre vs rest new : List Value} {d : TypeDesc} {k : Value → Heap → Prop} (hT : ElT P t e z bytes zero)
    (hb : Blk H b e (pre ++ vs ++ rest)) (hl : vs.length = len * z) (hr : n * z ≤ rest.length) (hfit : len + n ≤ cap)
    (hx : lenS x = some n) (hsrc : srcCells H z n x = some new) (hu : P.underlying xt = some d) (hnk : ∀ kk, d ≠ .int kk) (hone : ∀ u ∈ new, oneC u = true) (hnew : new.length = n * z)
    (hk : ∀ H', Blk H' b e (pre ++ (vs ++ new) ++ rest.drop (n * z)) → Fr [b] H H' → k (.slice (some ⟨b, pre.length, none⟩) (len + n) cap) H') :
    @appB P t xt (.slice (some ⟨b, pre.length, none⟩) len cap) x ⟨H⟩ ⟨k⟩ := by
  show appW P H t xt _ _ k
  unfold appW
  simp only [someW_iff]
  refine ⟨e, hT.elem, z, hT.size, bytes, hT.bytes, zero, hT.zero, n, hx, new, hsrc, d, hu, hnk, ?_⟩
  rw [if_pos hfit]
  have hb' : Blk H b e ((pre ++ vs) ++ rest.take (n * z) ++ rest.drop (n * z)) := by
    rw [List.append_assoc, List.take_append_drop]; exact hb
  obtain ⟨H', hw, hb2, hf⟩ := wrs_blk new (pre ++ vs) _ _ H hb' (by simp [hnew, hr])
  refine ⟨H', ?_, ?_⟩
  · rw [storeCells_wrs _ _ _ hone, addr_add, ← hl]
    rw [List.length_append] at hw
    exact hw
  · refine hk _ ?_ hf
    simpa [List.append_assoc] using hb2
/-- clear, at a slice whose elements have one cell. -/
theorem clr_slice {P : Program} {H H' : Heap} {t e ty : TypeId} {a : Addr} {n c : Nat} {z : Value} {k : Value → Heap → Prop} (hu : P.underlying t = some (.slice e)) (hz : zeroT P e = some z) (hc : z.cells = #[z]) (h1 : oneC z = true)
    (hw : wrs H a (List.replicate n z) 0 = some H') (hk : k (.tuple #[]) H') : @clrB P t ty (.slice (some a) n c) ⟨H⟩ ⟨k⟩ := by
  show hwp P (Builtin.clear_ #[t] ty #[.slice (some a) n c]) H k _
  unfold Builtin.clear_
  simp only [List.getElem?_toArray, List.getElem?_cons_zero]
  refine hwp_qbind (qrun_underlying hu H) ?_
  cases n with
  | zero =>
    simp only [List.replicate, wrs, Option.some.injEq] at hw
    subst hw
    exact hk
  | succ n =>
    simp only
    refine hwp_qbind (qrun_zeroValue hz H) ?_
    rw [hwp_bind']
    have e1 : (Builtin.zeroCells z.cells (n + 1)).toList = List.replicate (n + 1) z := by
      rw [hc]
      apply List.ext_getElem
      · simp [Builtin.zeroCells]
      · intro i h1 h2
        simp [Builtin.zeroCells, Nat.mod_one]
    refine hwp_storeCells (Builtin.zeroCells z.cells (n + 1)).toList 0 H H' ?_ hk
    rw [e1, storeCells_wrs _ _ _ (by intro v hv; rw [List.mem_replicate] at hv; rw [hv.2]; exact h1)]
    exact hw
theorem clr_none {P : Program} {H : Heap} {t e ty : TypeId} {b : Option Addr} {c : Nat} {k : Value → Heap → Prop} (hu : P.underlying t = some (.slice e)) (hk : k (.tuple #[]) H) : @clrB P t ty (.slice b 0 c) ⟨H⟩ ⟨k⟩ := by
  show hwp P (Builtin.clear_ #[t] ty #[.slice b 0 c]) H k _
  unfold Builtin.clear_
  simp only [List.getElem?_toArray, List.getElem?_cons_zero]
  refine hwp_qbind (qrun_underlying hu H) ?_
  cases b <;> exact hk
end Go.HL

namespace Go.HL
/-- What a draw may hold: the cells at some places. -/
def hldL (H : Heap) : List Addr → List (Addr × Value)
  | [] => []
  | a :: r => match cellH H a with
    | some v => (a, v) :: hldL H r
    | none => hldL H r
theorem hld_to {H H' : Heap} : ∀ {L : List Addr}, (∀ a ∈ L, ∀ v, cellH H a = some v → cellH H' a = some v) → heldOK (hldL H L) H'
  | [], _, a, v, h => by simp [hldL, lookA] at h
  | b :: r, hL, a, v, h => by
    unfold hldL at h
    split at h
    · rename_i w hw
      unfold lookA at h
      split at h
      · rename_i e
        simp only at e h
        subst e
        exact hL b (by simp) v (by rw [hw]; exact h)
      · exact hld_to (fun a ha v hv => hL a (by simp [ha]) v hv) a v h
    · exact hld_to (fun a ha v hv => hL a (by simp [ha]) v hv) a v h
theorem hld_ok {H : Heap} {L : List Addr} : heldOK (hldL H L) H := hld_to fun _ _ _ h => h
theorem hld_at {H : Heap} {a : Addr} {v : Value} (hc : cellH H a = some v) : ∀ {L : List Addr}, a ∈ L → lookA (hldL H L) a = some v
  | [], h => by simp at h
  | b :: r, h => by
    unfold hldL
    by_cases e : b = a
    · subst e
      rw [hc]
      simp [lookA]
    · have hr : a ∈ r := by
        rw [List.mem_cons] at h
        exact h.resolve_left (fun x => e x.symm)
      split
      · unfold lookA
        rw [if_neg (by simpa using e)]
        exact hld_at hc hr
      · exact hld_at hc hr
end Go.HL
namespace Go.Proofs.YtofooamimiijlaaGreat
open Go.HL HM Go.Sat
set_option maxRecDepth 10000
set_option linter.unusedSimpArgs false
set_option linter.unusedVariables false

abbrev pv (b : Nat) : Value := .pointer (some ⟨b, 0, none⟩)
abbrev pn (w : Option Nat) : Value := .pointer (w.map fun b => ⟨b, 0, none⟩)
def nv (l : List Nat) : List Value := l.map fun x : Nat => iv (x : Int)
abbrev sl (b n : Nat) : Value := .slice (some ⟨b, 0, none⟩) n n
/-- Blocks by role (0: not the solver's): H' has grown out of H, blocks whose role is not among R are as they were. -/
structure Sm (ow : Nat → Nat) (R : Nat → Prop) (H H' : Heap) : Prop where
  size : H.size ≤ H'.size
  same : ∀ b, b < H.size → ¬ R (ow b) → H'[b]? = H[b]?
theorem Sm.refl {ow : Nat → Nat} {R : Nat → Prop} {H : Heap} : Sm ow R H H := ⟨Nat.le_refl _, fun _ _ _ => rfl⟩
theorem Sm.set {ow : Nat → Nat} {H : Heap} {b i r : Nat} {v : Value} (h : ow b = r) : Sm ow (· = r) H (setH H ⟨b, i, none⟩ v) :=
  ⟨by rw [size_setH]; exact Nat.le_refl _, fun x _ hx => setH_other (fun e => hx (e ▸ h))⟩
theorem Sm.of {ow : Nat → Nat} {R : Nat → Prop} {F : List Nat} {H H' : Heap} (h : Fr F H H') (hF : ∀ b ∈ F, R (ow b)) : Sm ow R H H' := ⟨h.size, fun b hb hr => h.same b hb fun e => hr (hF b e)⟩
theorem Sm.mono {ow : Nat → Nat} {R R' : Nat → Prop} {H H' : Heap} (h : Sm ow R H H') (hr : ∀ r, R r → R' r) : Sm ow R' H H' := ⟨h.size, fun b hb hn => h.same b hb fun e => hn (hr _ e)⟩
theorem Sm.blk {ow : Nat → Nat} {R : Nat → Prop} {H H' : Heap} {b t : Nat} {vs : List Value} (h : Sm ow R H H') (hb : Blk H b t vs) (hr : ¬ R (ow b)) : Blk H' b t vs := by
  unfold Blk; rw [h.same b hb.lt hr]; exact hb
/-- New roles for new blocks only. -/
def Ow (H : Heap) (ow ow' : Nat → Nat) : Prop := ∀ b, b < H.size → ow' b = ow b
theorem Ow.refl {H : Heap} {ow : Nat → Nat} : Ow H ow ow := fun _ _ => rfl
/-- A block of some role. -/
structure BR (H : Heap) (ow : Nat → Nat) (r b t : Nat) (vs : List Value) : Prop where
  blk : Blk H b t vs
  ow : ow b = r
theorem BR.fr {H H' : Heap} {ow ow' : Nat → Nat} {R : Nat → Prop} {r b t : Nat} {vs : List Value} (h : BR H ow r b t vs) (hs : Sm ow R H H') (ho : Ow H ow ow') (hr : ¬ R r) : BR H' ow' r b t vs :=
  ⟨hs.blk h.blk (by rw [h.ow]; exact hr), by rw [ho b h.blk.lt]; exact h.ow⟩
theorem BR.set {H : Heap} {ow : Nat → Nat} {r b t : Nat} {vs vs' : List Value} (h : BR H ow r b t vs) (i : Nat) (v : Value) (e : vs.set i v = vs') : BR (setH H ⟨b, i, none⟩ v) ow r b t vs' := ⟨e ▸ h.blk.set i v, h.ow⟩
/-- A slice that grows, its blocks of some role. -/
structure VR (H : Heap) (ow : Nat → Nat) (r e z : Nat) (v : Value) (vs : List Value) : Prop where
  vec : Vec H e z v vs
  ow : ∀ b ∈ own v, ow b = r
theorem VR.fr {H H' : Heap} {ow ow' : Nat → Nat} {R : Nat → Prop} {r e z : Nat} {v : Value} {vs : List Value} (h : VR H ow r e z v vs) (hs : Sm ow R H H') (ho : Ow H ow ow') (hr : ¬ R r) : VR H' ow' r e z v vs := by
  refine ⟨?_, fun b hb => by rw [ho b (h.vec.lt b hb)]; exact h.ow b hb⟩
  rcases h.vec.ex with h1 | ⟨b, len, cap, pre, rest, rfl, hb, h2⟩
  · exact ⟨.inl h1⟩
  · exact ⟨.inr ⟨b, len, cap, pre, rest, rfl, hs.blk hb (by rw [h.ow b (by simp [own])]; exact hr), h2⟩⟩
theorem BR.ad {H : Heap} {ow ow' : Nat → Nat} {r b t : Nat} {vs : List Value} (h : BR H ow r b t vs) (ho : ∀ b, ow b ≠ 0 → ow' b = ow b) (hr : r ≠ 0) : BR H ow' r b t vs := ⟨h.blk, by rw [ho b (by rw [h.ow]; exact hr)]; exact h.ow⟩
theorem VR.ad {H : Heap} {ow ow' : Nat → Nat} {r e z : Nat} {v : Value} {vs : List Value} (h : VR H ow r e z v vs) (ho : ∀ b, ow b ≠ 0 → ow' b = ow b) (hr : r ≠ 0) : VR H ow' r e z v vs := ⟨h.vec, fun b hb => by rw [ho b (by rw [h.ow b hb]; exact hr)]; exact h.ow b hb⟩
theorem VR.nil {H : Heap} {ow : Nat → Nat} {r e z : Nat} : VR H ow r e z (.slice none 0 0) [] := ⟨Vec.nil, by simp [own]⟩
/-- Its form and its cells, if each element has one. -/
theorem VR.form {H : Heap} {ow : Nat → Nat} {r e : Nat} {v : Value} {vs : List Value} (h : VR H ow r e 1 v vs) : ∃ a cap, v = .slice a vs.length cap := by
  obtain ⟨a, len, cap, rfl, hl⟩ := h.vec.len
  rw [Nat.mul_one] at hl; subst hl
  exact ⟨a, cap, rfl⟩
theorem VR.at {H : Heap} {ow : Nat → Nat} {r e : Nat} {v : Value} {vs : List Value} (h : VR H ow r e 1 v vs) {i : Nat} {u : Value} (hi : vs[i]? = some u) : ∃ b o cap, v = .slice (some ⟨b, o, none⟩) vs.length cap ∧ ow b = r ∧ ∀ j, cellH H ⟨b, o + j, none⟩ = vs[j]? ∨ vs.length ≤ j := by
  obtain ⟨b, o, len, cap, rfl, hl, hc⟩ := h.vec.cell (by intro e; subst e; simp at hi)
  rw [Nat.mul_one] at hl; subst hl
  refine ⟨b, o, cap, rfl, h.ow b (by simp [own]), fun j => ?_⟩
  by_cases hj : j < vs.length
  · exact .inl (hc j hj)
  · exact .inr (by omega)
theorem VR.cell {H : Heap} {ow : Nat → Nat} {r e : Nat} {v : Value} {vs : List Value} (h : VR H ow r e 1 v vs) {i : Nat} {u : Value} (hi : vs[i]? = some u) : ∃ b o cap, v = .slice (some ⟨b, o, none⟩) vs.length cap ∧ ow b = r ∧ cellH H ⟨b, o + i, none⟩ = some u := by
  obtain ⟨b, o, cap, rfl, ho, hc⟩ := h.at hi
  refine ⟨b, o, cap, rfl, ho, ?_⟩
  rcases hc i with h1 | h1
  · rw [h1, hi]
  · have := (List.getElem?_eq_some_iff.1 hi).1; omega
theorem nv_get {l : List Nat} {i x : Nat} (h : l[i]? = some x) : (nv l)[i]? = some (iv (x : Int)) := by simp [nv, h]
theorem nv_len {l : List Nat} : (nv l).length = l.length := by simp [nv]
theorem nv_app {l m : List Nat} : nv (l ++ m) = nv l ++ nv m := by simp [nv]
theorem pv_get {l : List Nat} {i x : Nat} (h : l[i]? = some x) : (l.map pv)[i]? = some (pv x) := by simp [h]

/-- Where the solver's blocks lie. -/
structure Bk where
  bv : Nat
  bl : Nat
  br : Nat
  bs : Nat
  ba : Nat
  bw : Nat
  ho : Nat
  hb : Nat
  hp : Nat
  ha : Nat
/-- What the solver's fields hold. -/
structure Cf where
  given : Value
  lines : Value
  model : Value
  core : Value
  trail : Value
  starts : Value
  learned : Value
  gs : List Value
  gl : List (List Int)
  ls : List Value
  loaded : Nat
  conf : Nat
  head : Nat
  step : Int
  room : Int
  rounds : Nat
  dead : Bool
  lrn : List Nat
  vals : List Int
  lvls : List Nat
  seen : List Bool
  last : List Bool
  rea : Nat → Option Nat
  tr : List Nat
  st : List Nat
  m : Nat
  os : List Int
  pl : List Int
  ac : List Int
  ws : Nat → Value
  w : Nat → List Nat
  C : List Nat
  lits : Nat → List Nat
  lb : Nat → Value
  l2 : Nat → Nat
abbrev Cf.uVals (f : Cf) (q0 : List Int) : Cf := { f with vals := q0 }
abbrev Cf.uLvls (f : Cf) (q0 : List Nat) : Cf := { f with lvls := q0 }
abbrev Cf.uSeen (f : Cf) (q0 : List Bool) : Cf := { f with seen := q0 }
abbrev Cf.uLast (f : Cf) (q0 : List Bool) : Cf := { f with last := q0 }
abbrev Cf.uRea (f : Cf) (q0 : Nat → Option Nat) : Cf := { f with rea := q0 }
abbrev Cf.uWat (f : Cf) (q0 : Nat → Value) (q1 : Nat → List Nat) : Cf := { f with ws := q0, w := q1 }
abbrev Cf.uLoaded (f : Cf) (q0 : Nat) : Cf := { f with loaded := q0 }
abbrev Cf.uConf (f : Cf) (q0 : Nat) : Cf := { f with conf := q0 }
abbrev Cf.uModel (f : Cf) (q0 : Value) : Cf := { f with model := q0 }
abbrev Cf.uCore (f : Cf) (q0 : Value) : Cf := { f with core := q0 }
abbrev Cf.uHead (f : Cf) (q0 : Nat) : Cf := { f with head := q0 }
abbrev Cf.uStep (f : Cf) (q0 : Int) : Cf := { f with step := q0 }
abbrev Cf.uRounds (f : Cf) (q0 : Nat) : Cf := { f with rounds := q0 }
abbrev Cf.uDead (f : Cf) (q0 : Bool) : Cf := { f with dead := q0 }
abbrev Cf.uTrail (f : Cf) (q0 : Value) (q1 : List Nat) : Cf := { f with trail := q0, tr := q1 }
abbrev Cf.uStarts (f : Cf) (q0 : Value) (q1 : List Nat) : Cf := { f with starts := q0, st := q1 }
abbrev Cf.uLearned (f : Cf) (q0 : Value) (q1 : List Nat) : Cf := { f with learned := q0, lrn := q1 }
abbrev Cf.uLines (f : Cf) (q0 : Value) (q1 : List Value) : Cf := { f with lines := q0, ls := q1 }
abbrev Cf.uGiven (f : Cf) (q0 : Value) (q1 : List Value) (q2 : List (List Int)) : Cf := { f with given := q0, gs := q1, gl := q2 }
abbrev Cf.uLit (f : Cf) (q0 : Nat → List Nat) : Cf := { f with lits := q0 }
abbrev Cf.uOrder (f : Cf) (q0 : Nat) (q1 : List Int) (q2 : List Int) (q3 : List Int) : Cf := { f with m := q0, os := q1, pl := q2, ac := q3 }
abbrev Cf.uCon (f : Cf) (q0 : List Nat) (q1 : Nat → List Nat) (q2 : Nat → Value) (q3 : Nat → Nat) : Cf := { f with C := q0, lits := q1, lb := q2, l2 := q3 }
def Cf.s (f : Cf) : St := ⟨f.tr, f.st, f.rea, f.lits⟩
def scells (n : Nat) (k : Bk) (f : Cf) : List Value :=
  [iv n, f.given, iv f.loaded, f.lines, iv f.conf, f.model, f.core, pv k.ho, sl k.bw (2 * n + 2), sl k.bv (2 * n + 2), sl k.bl (n + 1), sl k.br (n + 1), sl k.bs (n + 1), sl k.ba (n + 1),
    f.trail, f.starts, iv f.head, .int .i64 f.step, f.learned, iv f.room, iv f.rounds, .bool f.dead]
/-- A heap of variables among the solver's blocks. -/
structure HR (H : Heap) (ow : Nat → Nat) (ho hb hp ha n m : Nat) (os pl ac : List Int) : Prop where
  hg : HG H ho hb hp ha n m os pl ac
  o1 : ow ho = 11
  o2 : ow hb = 12
  o3 : ow hp = 13
  o4 : ow ha = 14
theorem HR.fr {H H' : Heap} {ow ow' : Nat → Nat} {R : Nat → Prop} {ho hb hp ha n m : Nat} {os pl ac : List Int} (h : HR H ow ho hb hp ha n m os pl ac) (hs : Sm ow R H H') (hO : Ow H ow ow') (h1 : ¬ R 11) (h2 : ¬ R 12) (h3 : ¬ R 13) (h4 : ¬ R 14) : HR H' ow' ho hb hp ha n m os pl ac :=
  ⟨⟨⟨hs.blk h.hg.ha.self (by rw [h.o1]; exact h1), hs.blk h.hg.ha.io (by rw [h.o2]; exact h2), hs.blk h.hg.ha.ip (by rw [h.o3]; exact h3), hs.blk h.hg.ha.ia (by rw [h.o4]; exact h4), h.hg.ha.lo, h.hg.ha.lp, h.hg.ha.la, h.hg.ha.ne, h.hg.ha.big⟩, h.hg.ok, h.hg.ord, h.hg.act⟩,
    by rw [hO _ h.hg.ha.self.lt]; exact h.o1, by rw [hO _ h.hg.ha.io.lt]; exact h.o2, by rw [hO _ h.hg.ha.ip.lt]; exact h.o3, by rw [hO _ h.hg.ha.ia.lt]; exact h.o4⟩
/-- A constraint in memory. -/
structure CR (H : Heap) (ow : Nat → Nat) (c : Nat) (v : Value) (l : List Nat) (k : Nat) : Prop where
  blk : BR H ow 18 c 106 [v, iv (k : Int), .bool false]
  lits : VR H ow (101 + 2 * c) 3 1 v (nv l)
theorem CR.fr {H H' : Heap} {ow ow' : Nat → Nat} {R : Nat → Prop} {c k : Nat} {v : Value} {l : List Nat} (h : CR H ow c v l k) (hs : Sm ow R H H') (ho : Ow H ow ow') (h1 : ¬ R 18) (h2 : ¬ R (101 + 2 * c)) : CR H' ow' c v l k :=
  ⟨h.blk.fr hs ho h1, h.lits.fr hs ho h2⟩
/-- The solver in memory. -/
structure RM (H : Heap) (ow : Nat → Nat) (p n : Nat) (k : Bk) (f : Cf) : Prop where
  self : BR H ow 1 p 70 (scells n k f)
  vals : BR H ow 2 k.bv 103 (f.vals.map (Value.int .i8))
  lvls : BR H ow 3 k.bl 3 (nv f.lvls)
  reas : BR H ow 4 k.br 95 ((List.range (n + 1)).map fun v => pn (f.rea v))
  seen : BR H ow 5 k.bs 4 (f.seen.map Value.bool)
  last : BR H ow 6 k.ba 4 (f.last.map Value.bool)
  wat : BR H ow 7 k.bw 66 ((List.range (2 * n + 2)).map f.ws)
  wl : ∀ x, x < 2 * n + 2 → VR H ow (100 + 2 * x) 95 1 (f.ws x) ((f.w x).map pv)
  trail : VR H ow 8 3 1 f.trail (nv f.tr)
  starts : VR H ow 9 3 1 f.starts (nv f.st)
  learned : VR H ow 10 95 1 f.learned (f.lrn.map pv)
  order : HR H ow k.ho k.hb k.hp k.ha n f.m f.os f.pl f.ac
  lines : VR H ow 15 115 2 f.lines f.ls
  given : VR H ow 16 26 1 f.given f.gs
  gcl : ∀ (i : Nat) (v : Value) (g : List Int), f.gs[i]? = some v → f.gl[i]? = some g → VR H ow 17 3 1 v (g.map iv)
  con : ∀ c ∈ f.C, CR H ow c (f.lb c) (f.lits c) (f.l2 c)
  lo : ∀ b, ow b ≠ 0 → b < H.size
  nv : f.vals.length = 2 * n + 2
  nl : f.lvls.length = n + 1
  ns : f.seen.length = n + 1
  na : f.last.length = n + 1
  ng : f.gs.length = f.gl.length
section
variable {H H' : Heap} {ow ow' : Nat → Nat} {R : Nat → Prop} {p n : Nat} {k : Bk} {f : Cf}
/-- New roles are of blocks that are there. -/
theorem RM.lo' (h : RM H ow p n k f) (hs : H.size ≤ H'.size) (hO : Ow H ow ow') (hn : ∀ b, H.size ≤ b → ow' b ≠ 0 → b < H'.size) : ∀ b, ow' b ≠ 0 → b < H'.size := by
  intro b hb
  by_cases hl : b < H.size
  · omega
  · exact hn b (by omega) hb
theorem RM.free (h : RM H ow p n k f) {b : Nat} (hb : H.size ≤ b) : ow b = 0 := by
  by_cases e : ow b = 0
  · exact e
  · have := h.lo b e; omega
/-- All is as it was, where only blocks that are not the solver's are written. -/
theorem RM.fr (h : RM H ow p n k f) (hs : Sm ow R H H') (hO : Ow H ow ow') (hn : ∀ b, H.size ≤ b → ow' b ≠ 0 → b < H'.size) (hR : ∀ r, R r → r = 0) :
    RM H' ow' p n k f := by
  exact ⟨h.self.fr hs hO (by intro e; have := hR _ e; omega),
    h.vals.fr hs hO (by intro e; have := hR _ e; omega),
    h.lvls.fr hs hO (by intro e; have := hR _ e; omega),
    h.reas.fr hs hO (by intro e; have := hR _ e; omega),
    h.seen.fr hs hO (by intro e; have := hR _ e; omega),
    h.last.fr hs hO (by intro e; have := hR _ e; omega),
    h.wat.fr hs hO (by intro e; have := hR _ e; omega),
    fun x hx => (h.wl x hx).fr hs hO (by intro e; have := hR _ e; omega),
    h.trail.fr hs hO (by intro e; have := hR _ e; omega),
    h.starts.fr hs hO (by intro e; have := hR _ e; omega),
    h.learned.fr hs hO (by intro e; have := hR _ e; omega),
    h.order.fr hs hO (by intro e; have := hR _ e; omega) (by intro e; have := hR _ e; omega) (by intro e; have := hR _ e; omega) (by intro e; have := hR _ e; omega),
    h.lines.fr hs hO (by intro e; have := hR _ e; omega),
    h.given.fr hs hO (by intro e; have := hR _ e; omega),
    fun i v g h1 h2 => (h.gcl i v g h1 h2).fr hs hO (by intro e; have := hR _ e; omega),
    fun c hc => (h.con c hc).fr hs hO (by intro e; have := hR _ e; omega) (by intro e; have := hR _ e; omega),
    h.lo' hs.size hO hn,
    h.nv,
    h.nl,
    h.ns,
    h.na,
    h.ng⟩
theorem range_upd {α β : Type} (g : Nat → α) (k : α → β) (N : Nat) {x : Nat} {v : α} : ((List.range N).map fun i => k (g i)).set x (k v) = (List.range N).map fun i => k (upd g x v i) := by
  apply List.ext_getElem (by simp)
  intro i h1 h2
  rw [List.getElem_set]
  simp only [List.getElem_map, List.getElem_range]
  split
  · rename_i e; subst e; rw [upd_same]
  · rename_i e; rw [upd_ne (Ne.symm e)]
theorem RM.setVal (h : RM H ow p n k f) {x : Nat} (v : Int) :
    RM (setH H ⟨k.bv, x, none⟩ (.int .i8 v)) ow p n k (f.uVals (f.vals.set x v)) := by
  have hO : Ow H ow ow := Ow.refl
  have hs := Sm.set (H := H) (i := x) (v := (.int .i8 v)) h.vals.ow
  exact ⟨h.self.fr hs hO (by omega),
    h.vals.set x _ (by rw [List.map_set]),
    h.lvls.fr hs hO (by omega),
    h.reas.fr hs hO (by omega),
    h.seen.fr hs hO (by omega),
    h.last.fr hs hO (by omega),
    h.wat.fr hs hO (by omega),
    fun x hx => (h.wl x hx).fr hs hO (by omega),
    h.trail.fr hs hO (by omega),
    h.starts.fr hs hO (by omega),
    h.learned.fr hs hO (by omega),
    h.order.fr hs hO (by omega) (by omega) (by omega) (by omega),
    h.lines.fr hs hO (by omega),
    h.given.fr hs hO (by omega),
    fun i v g h1 h2 => (h.gcl i v g h1 h2).fr hs hO (by omega),
    fun c hc => (h.con c hc).fr hs hO (by omega) (by omega),
    h.lo' hs.size hO (fun b hb he => by have := h.free hb; rw [this] at he; exact absurd rfl he),
    (by simpa using h.nv),
    h.nl,
    h.ns,
    h.na,
    h.ng⟩
theorem RM.setLvl (h : RM H ow p n k f) {x : Nat} (v : Nat) :
    RM (setH H ⟨k.bl, x, none⟩ (iv (v : Int))) ow p n k (f.uLvls (f.lvls.set x v)) := by
  have hO : Ow H ow ow := Ow.refl
  have hs := Sm.set (H := H) (i := x) (v := (iv (v : Int))) h.lvls.ow
  exact ⟨h.self.fr hs hO (by omega),
    h.vals.fr hs hO (by omega),
    h.lvls.set x _ (by simp only [Go.Proofs.YtofooamimiijlaaGreat.nv, List.map_set]),
    h.reas.fr hs hO (by omega),
    h.seen.fr hs hO (by omega),
    h.last.fr hs hO (by omega),
    h.wat.fr hs hO (by omega),
    fun x hx => (h.wl x hx).fr hs hO (by omega),
    h.trail.fr hs hO (by omega),
    h.starts.fr hs hO (by omega),
    h.learned.fr hs hO (by omega),
    h.order.fr hs hO (by omega) (by omega) (by omega) (by omega),
    h.lines.fr hs hO (by omega),
    h.given.fr hs hO (by omega),
    fun i v g h1 h2 => (h.gcl i v g h1 h2).fr hs hO (by omega),
    fun c hc => (h.con c hc).fr hs hO (by omega) (by omega),
    h.lo' hs.size hO (fun b hb he => by have := h.free hb; rw [this] at he; exact absurd rfl he),
    h.nv,
    (by simpa using h.nl),
    h.ns,
    h.na,
    h.ng⟩
theorem RM.setSeen (h : RM H ow p n k f) {x : Nat} (v : Bool) :
    RM (setH H ⟨k.bs, x, none⟩ (.bool v)) ow p n k (f.uSeen (f.seen.set x v)) := by
  have hO : Ow H ow ow := Ow.refl
  have hs := Sm.set (H := H) (i := x) (v := (.bool v)) h.seen.ow
  exact ⟨h.self.fr hs hO (by omega),
    h.vals.fr hs hO (by omega),
    h.lvls.fr hs hO (by omega),
    h.reas.fr hs hO (by omega),
    h.seen.set x _ (by rw [List.map_set]),
    h.last.fr hs hO (by omega),
    h.wat.fr hs hO (by omega),
    fun x hx => (h.wl x hx).fr hs hO (by omega),
    h.trail.fr hs hO (by omega),
    h.starts.fr hs hO (by omega),
    h.learned.fr hs hO (by omega),
    h.order.fr hs hO (by omega) (by omega) (by omega) (by omega),
    h.lines.fr hs hO (by omega),
    h.given.fr hs hO (by omega),
    fun i v g h1 h2 => (h.gcl i v g h1 h2).fr hs hO (by omega),
    fun c hc => (h.con c hc).fr hs hO (by omega) (by omega),
    h.lo' hs.size hO (fun b hb he => by have := h.free hb; rw [this] at he; exact absurd rfl he),
    h.nv,
    h.nl,
    (by simpa using h.ns),
    h.na,
    h.ng⟩
theorem RM.setLast (h : RM H ow p n k f) {x : Nat} (v : Bool) :
    RM (setH H ⟨k.ba, x, none⟩ (.bool v)) ow p n k (f.uLast (f.last.set x v)) := by
  have hO : Ow H ow ow := Ow.refl
  have hs := Sm.set (H := H) (i := x) (v := (.bool v)) h.last.ow
  exact ⟨h.self.fr hs hO (by omega),
    h.vals.fr hs hO (by omega),
    h.lvls.fr hs hO (by omega),
    h.reas.fr hs hO (by omega),
    h.seen.fr hs hO (by omega),
    h.last.set x _ (by rw [List.map_set]),
    h.wat.fr hs hO (by omega),
    fun x hx => (h.wl x hx).fr hs hO (by omega),
    h.trail.fr hs hO (by omega),
    h.starts.fr hs hO (by omega),
    h.learned.fr hs hO (by omega),
    h.order.fr hs hO (by omega) (by omega) (by omega) (by omega),
    h.lines.fr hs hO (by omega),
    h.given.fr hs hO (by omega),
    fun i v g h1 h2 => (h.gcl i v g h1 h2).fr hs hO (by omega),
    fun c hc => (h.con c hc).fr hs hO (by omega) (by omega),
    h.lo' hs.size hO (fun b hb he => by have := h.free hb; rw [this] at he; exact absurd rfl he),
    h.nv,
    h.nl,
    h.ns,
    (by simpa using h.na),
    h.ng⟩
theorem RM.setRea (h : RM H ow p n k f) {x : Nat} (v : Option Nat) :
    RM (setH H ⟨k.br, x, none⟩ (pn v)) ow p n k (f.uRea (upd f.rea x v)) := by
  have hO : Ow H ow ow := Ow.refl
  have hs := Sm.set (H := H) (i := x) (v := (pn v)) h.reas.ow
  exact ⟨h.self.fr hs hO (by omega),
    h.vals.fr hs hO (by omega),
    h.lvls.fr hs hO (by omega),
    h.reas.set x _ (range_upd _ _ _),
    h.seen.fr hs hO (by omega),
    h.last.fr hs hO (by omega),
    h.wat.fr hs hO (by omega),
    fun x hx => (h.wl x hx).fr hs hO (by omega),
    h.trail.fr hs hO (by omega),
    h.starts.fr hs hO (by omega),
    h.learned.fr hs hO (by omega),
    h.order.fr hs hO (by omega) (by omega) (by omega) (by omega),
    h.lines.fr hs hO (by omega),
    h.given.fr hs hO (by omega),
    fun i v g h1 h2 => (h.gcl i v g h1 h2).fr hs hO (by omega),
    fun c hc => (h.con c hc).fr hs hO (by omega) (by omega),
    h.lo' hs.size hO (fun b hb he => by have := h.free hb; rw [this] at he; exact absurd rfl he),
    h.nv,
    h.nl,
    h.ns,
    h.na,
    h.ng⟩
/-- A watch list is stored. -/
theorem RM.setWat (h : RM H ow p n k f) {x : Nat} {v : Value} {l : List Nat} (hv : VR H ow (100 + 2 * x) 95 1 v (l.map pv)) :
    RM (setH H ⟨k.bw, x, none⟩ v) ow p n k (f.uWat (upd f.ws x v) (upd f.w x l)) := by
  have hO : Ow H ow ow := Ow.refl
  have hs := Sm.set (H := H) (i := x) (v := v) h.wat.ow
  exact ⟨h.self.fr hs hO (by omega),
    h.vals.fr hs hO (by omega),
    h.lvls.fr hs hO (by omega),
    h.reas.fr hs hO (by omega),
    h.seen.fr hs hO (by omega),
    h.last.fr hs hO (by omega),
    h.wat.set x _ (range_upd _ (fun v => v) _),
    fun y hy => by
      by_cases e : y = x
      · subst e; simp only [upd_same]; exact hv.fr hs hO (by omega)
      · simp only [upd_ne e]; exact (h.wl y hy).fr hs hO (by omega),
    h.trail.fr hs hO (by omega),
    h.starts.fr hs hO (by omega),
    h.learned.fr hs hO (by omega),
    h.order.fr hs hO (by omega) (by omega) (by omega) (by omega),
    h.lines.fr hs hO (by omega),
    h.given.fr hs hO (by omega),
    fun i v g h1 h2 => (h.gcl i v g h1 h2).fr hs hO (by omega),
    fun c hc => (h.con c hc).fr hs hO (by omega) (by omega),
    h.lo' hs.size hO (fun b hb he => by have := h.free hb; rw [this] at he; exact absurd rfl he),
    h.nv,
    h.nl,
    h.ns,
    h.na,
    h.ng⟩
theorem RM.setLoaded (h : RM H ow p n k f) (v : Nat) :
    RM (setH H ⟨p, 2, none⟩ (iv (v : Int))) ow p n k (f.uLoaded v) := by
  have hO : Ow H ow ow := Ow.refl
  have hs := Sm.set (H := H) (i := 2) (v := (iv (v : Int))) h.self.ow
  exact ⟨h.self.set 2 _ rfl,
    h.vals.fr hs hO (by omega),
    h.lvls.fr hs hO (by omega),
    h.reas.fr hs hO (by omega),
    h.seen.fr hs hO (by omega),
    h.last.fr hs hO (by omega),
    h.wat.fr hs hO (by omega),
    fun x hx => (h.wl x hx).fr hs hO (by omega),
    h.trail.fr hs hO (by omega),
    h.starts.fr hs hO (by omega),
    h.learned.fr hs hO (by omega),
    h.order.fr hs hO (by omega) (by omega) (by omega) (by omega),
    h.lines.fr hs hO (by omega),
    h.given.fr hs hO (by omega),
    fun i v g h1 h2 => (h.gcl i v g h1 h2).fr hs hO (by omega),
    fun c hc => (h.con c hc).fr hs hO (by omega) (by omega),
    h.lo' hs.size hO (fun b hb he => by have := h.free hb; rw [this] at he; exact absurd rfl he),
    h.nv,
    h.nl,
    h.ns,
    h.na,
    h.ng⟩
theorem RM.setConf (h : RM H ow p n k f) (v : Nat) :
    RM (setH H ⟨p, 4, none⟩ (iv (v : Int))) ow p n k (f.uConf v) := by
  have hO : Ow H ow ow := Ow.refl
  have hs := Sm.set (H := H) (i := 4) (v := (iv (v : Int))) h.self.ow
  exact ⟨h.self.set 4 _ rfl,
    h.vals.fr hs hO (by omega),
    h.lvls.fr hs hO (by omega),
    h.reas.fr hs hO (by omega),
    h.seen.fr hs hO (by omega),
    h.last.fr hs hO (by omega),
    h.wat.fr hs hO (by omega),
    fun x hx => (h.wl x hx).fr hs hO (by omega),
    h.trail.fr hs hO (by omega),
    h.starts.fr hs hO (by omega),
    h.learned.fr hs hO (by omega),
    h.order.fr hs hO (by omega) (by omega) (by omega) (by omega),
    h.lines.fr hs hO (by omega),
    h.given.fr hs hO (by omega),
    fun i v g h1 h2 => (h.gcl i v g h1 h2).fr hs hO (by omega),
    fun c hc => (h.con c hc).fr hs hO (by omega) (by omega),
    h.lo' hs.size hO (fun b hb he => by have := h.free hb; rw [this] at he; exact absurd rfl he),
    h.nv,
    h.nl,
    h.ns,
    h.na,
    h.ng⟩
theorem RM.setModel (h : RM H ow p n k f) (v : Value) :
    RM (setH H ⟨p, 5, none⟩ v) ow p n k (f.uModel v) := by
  have hO : Ow H ow ow := Ow.refl
  have hs := Sm.set (H := H) (i := 5) (v := v) h.self.ow
  exact ⟨h.self.set 5 _ rfl,
    h.vals.fr hs hO (by omega),
    h.lvls.fr hs hO (by omega),
    h.reas.fr hs hO (by omega),
    h.seen.fr hs hO (by omega),
    h.last.fr hs hO (by omega),
    h.wat.fr hs hO (by omega),
    fun x hx => (h.wl x hx).fr hs hO (by omega),
    h.trail.fr hs hO (by omega),
    h.starts.fr hs hO (by omega),
    h.learned.fr hs hO (by omega),
    h.order.fr hs hO (by omega) (by omega) (by omega) (by omega),
    h.lines.fr hs hO (by omega),
    h.given.fr hs hO (by omega),
    fun i v g h1 h2 => (h.gcl i v g h1 h2).fr hs hO (by omega),
    fun c hc => (h.con c hc).fr hs hO (by omega) (by omega),
    h.lo' hs.size hO (fun b hb he => by have := h.free hb; rw [this] at he; exact absurd rfl he),
    h.nv,
    h.nl,
    h.ns,
    h.na,
    h.ng⟩
theorem RM.setCore (h : RM H ow p n k f) (v : Value) :
    RM (setH H ⟨p, 6, none⟩ v) ow p n k (f.uCore v) := by
  have hO : Ow H ow ow := Ow.refl
  have hs := Sm.set (H := H) (i := 6) (v := v) h.self.ow
  exact ⟨h.self.set 6 _ rfl,
    h.vals.fr hs hO (by omega),
    h.lvls.fr hs hO (by omega),
    h.reas.fr hs hO (by omega),
    h.seen.fr hs hO (by omega),
    h.last.fr hs hO (by omega),
    h.wat.fr hs hO (by omega),
    fun x hx => (h.wl x hx).fr hs hO (by omega),
    h.trail.fr hs hO (by omega),
    h.starts.fr hs hO (by omega),
    h.learned.fr hs hO (by omega),
    h.order.fr hs hO (by omega) (by omega) (by omega) (by omega),
    h.lines.fr hs hO (by omega),
    h.given.fr hs hO (by omega),
    fun i v g h1 h2 => (h.gcl i v g h1 h2).fr hs hO (by omega),
    fun c hc => (h.con c hc).fr hs hO (by omega) (by omega),
    h.lo' hs.size hO (fun b hb he => by have := h.free hb; rw [this] at he; exact absurd rfl he),
    h.nv,
    h.nl,
    h.ns,
    h.na,
    h.ng⟩
theorem RM.setHead (h : RM H ow p n k f) (v : Nat) :
    RM (setH H ⟨p, 16, none⟩ (iv (v : Int))) ow p n k (f.uHead v) := by
  have hO : Ow H ow ow := Ow.refl
  have hs := Sm.set (H := H) (i := 16) (v := (iv (v : Int))) h.self.ow
  exact ⟨h.self.set 16 _ rfl,
    h.vals.fr hs hO (by omega),
    h.lvls.fr hs hO (by omega),
    h.reas.fr hs hO (by omega),
    h.seen.fr hs hO (by omega),
    h.last.fr hs hO (by omega),
    h.wat.fr hs hO (by omega),
    fun x hx => (h.wl x hx).fr hs hO (by omega),
    h.trail.fr hs hO (by omega),
    h.starts.fr hs hO (by omega),
    h.learned.fr hs hO (by omega),
    h.order.fr hs hO (by omega) (by omega) (by omega) (by omega),
    h.lines.fr hs hO (by omega),
    h.given.fr hs hO (by omega),
    fun i v g h1 h2 => (h.gcl i v g h1 h2).fr hs hO (by omega),
    fun c hc => (h.con c hc).fr hs hO (by omega) (by omega),
    h.lo' hs.size hO (fun b hb he => by have := h.free hb; rw [this] at he; exact absurd rfl he),
    h.nv,
    h.nl,
    h.ns,
    h.na,
    h.ng⟩
theorem RM.setStep (h : RM H ow p n k f) (v : Int) :
    RM (setH H ⟨p, 17, none⟩ (.int .i64 v)) ow p n k (f.uStep v) := by
  have hO : Ow H ow ow := Ow.refl
  have hs := Sm.set (H := H) (i := 17) (v := (.int .i64 v)) h.self.ow
  exact ⟨h.self.set 17 _ rfl,
    h.vals.fr hs hO (by omega),
    h.lvls.fr hs hO (by omega),
    h.reas.fr hs hO (by omega),
    h.seen.fr hs hO (by omega),
    h.last.fr hs hO (by omega),
    h.wat.fr hs hO (by omega),
    fun x hx => (h.wl x hx).fr hs hO (by omega),
    h.trail.fr hs hO (by omega),
    h.starts.fr hs hO (by omega),
    h.learned.fr hs hO (by omega),
    h.order.fr hs hO (by omega) (by omega) (by omega) (by omega),
    h.lines.fr hs hO (by omega),
    h.given.fr hs hO (by omega),
    fun i v g h1 h2 => (h.gcl i v g h1 h2).fr hs hO (by omega),
    fun c hc => (h.con c hc).fr hs hO (by omega) (by omega),
    h.lo' hs.size hO (fun b hb he => by have := h.free hb; rw [this] at he; exact absurd rfl he),
    h.nv,
    h.nl,
    h.ns,
    h.na,
    h.ng⟩
theorem RM.setRounds (h : RM H ow p n k f) (v : Nat) :
    RM (setH H ⟨p, 20, none⟩ (iv (v : Int))) ow p n k (f.uRounds v) := by
  have hO : Ow H ow ow := Ow.refl
  have hs := Sm.set (H := H) (i := 20) (v := (iv (v : Int))) h.self.ow
  exact ⟨h.self.set 20 _ rfl,
    h.vals.fr hs hO (by omega),
    h.lvls.fr hs hO (by omega),
    h.reas.fr hs hO (by omega),
    h.seen.fr hs hO (by omega),
    h.last.fr hs hO (by omega),
    h.wat.fr hs hO (by omega),
    fun x hx => (h.wl x hx).fr hs hO (by omega),
    h.trail.fr hs hO (by omega),
    h.starts.fr hs hO (by omega),
    h.learned.fr hs hO (by omega),
    h.order.fr hs hO (by omega) (by omega) (by omega) (by omega),
    h.lines.fr hs hO (by omega),
    h.given.fr hs hO (by omega),
    fun i v g h1 h2 => (h.gcl i v g h1 h2).fr hs hO (by omega),
    fun c hc => (h.con c hc).fr hs hO (by omega) (by omega),
    h.lo' hs.size hO (fun b hb he => by have := h.free hb; rw [this] at he; exact absurd rfl he),
    h.nv,
    h.nl,
    h.ns,
    h.na,
    h.ng⟩
theorem RM.setDead (h : RM H ow p n k f) (v : Bool) :
    RM (setH H ⟨p, 21, none⟩ (.bool v)) ow p n k (f.uDead v) := by
  have hO : Ow H ow ow := Ow.refl
  have hs := Sm.set (H := H) (i := 21) (v := (.bool v)) h.self.ow
  exact ⟨h.self.set 21 _ rfl,
    h.vals.fr hs hO (by omega),
    h.lvls.fr hs hO (by omega),
    h.reas.fr hs hO (by omega),
    h.seen.fr hs hO (by omega),
    h.last.fr hs hO (by omega),
    h.wat.fr hs hO (by omega),
    fun x hx => (h.wl x hx).fr hs hO (by omega),
    h.trail.fr hs hO (by omega),
    h.starts.fr hs hO (by omega),
    h.learned.fr hs hO (by omega),
    h.order.fr hs hO (by omega) (by omega) (by omega) (by omega),
    h.lines.fr hs hO (by omega),
    h.given.fr hs hO (by omega),
    fun i v g h1 h2 => (h.gcl i v g h1 h2).fr hs hO (by omega),
    fun c hc => (h.con c hc).fr hs hO (by omega) (by omega),
    h.lo' hs.size hO (fun b hb he => by have := h.free hb; rw [this] at he; exact absurd rfl he),
    h.nv,
    h.nl,
    h.ns,
    h.na,
    h.ng⟩
theorem RM.setTrail (h : RM H ow p n k f) {v : Value} {l : List Nat} (hv : VR H ow 8 3 1 v (Go.Proofs.YtofooamimiijlaaGreat.nv l)) :
    RM (setH H ⟨p, 14, none⟩ v) ow p n k (f.uTrail v l) := by
  have hO : Ow H ow ow := Ow.refl
  have hs := Sm.set (H := H) (i := 14) (v := v) h.self.ow
  exact ⟨h.self.set 14 _ rfl,
    h.vals.fr hs hO (by omega),
    h.lvls.fr hs hO (by omega),
    h.reas.fr hs hO (by omega),
    h.seen.fr hs hO (by omega),
    h.last.fr hs hO (by omega),
    h.wat.fr hs hO (by omega),
    fun x hx => (h.wl x hx).fr hs hO (by omega),
    hv.fr hs hO (by omega),
    h.starts.fr hs hO (by omega),
    h.learned.fr hs hO (by omega),
    h.order.fr hs hO (by omega) (by omega) (by omega) (by omega),
    h.lines.fr hs hO (by omega),
    h.given.fr hs hO (by omega),
    fun i v g h1 h2 => (h.gcl i v g h1 h2).fr hs hO (by omega),
    fun c hc => (h.con c hc).fr hs hO (by omega) (by omega),
    h.lo' hs.size hO (fun b hb he => by have := h.free hb; rw [this] at he; exact absurd rfl he),
    h.nv,
    h.nl,
    h.ns,
    h.na,
    h.ng⟩
theorem RM.setStarts (h : RM H ow p n k f) {v : Value} {l : List Nat} (hv : VR H ow 9 3 1 v (Go.Proofs.YtofooamimiijlaaGreat.nv l)) :
    RM (setH H ⟨p, 15, none⟩ v) ow p n k (f.uStarts v l) := by
  have hO : Ow H ow ow := Ow.refl
  have hs := Sm.set (H := H) (i := 15) (v := v) h.self.ow
  exact ⟨h.self.set 15 _ rfl,
    h.vals.fr hs hO (by omega),
    h.lvls.fr hs hO (by omega),
    h.reas.fr hs hO (by omega),
    h.seen.fr hs hO (by omega),
    h.last.fr hs hO (by omega),
    h.wat.fr hs hO (by omega),
    fun x hx => (h.wl x hx).fr hs hO (by omega),
    h.trail.fr hs hO (by omega),
    hv.fr hs hO (by omega),
    h.learned.fr hs hO (by omega),
    h.order.fr hs hO (by omega) (by omega) (by omega) (by omega),
    h.lines.fr hs hO (by omega),
    h.given.fr hs hO (by omega),
    fun i v g h1 h2 => (h.gcl i v g h1 h2).fr hs hO (by omega),
    fun c hc => (h.con c hc).fr hs hO (by omega) (by omega),
    h.lo' hs.size hO (fun b hb he => by have := h.free hb; rw [this] at he; exact absurd rfl he),
    h.nv,
    h.nl,
    h.ns,
    h.na,
    h.ng⟩
theorem RM.setLearned (h : RM H ow p n k f) {v : Value} {l : List Nat} (hv : VR H ow 10 95 1 v (l.map pv)) :
    RM (setH H ⟨p, 18, none⟩ v) ow p n k (f.uLearned v l) := by
  have hO : Ow H ow ow := Ow.refl
  have hs := Sm.set (H := H) (i := 18) (v := v) h.self.ow
  exact ⟨h.self.set 18 _ rfl,
    h.vals.fr hs hO (by omega),
    h.lvls.fr hs hO (by omega),
    h.reas.fr hs hO (by omega),
    h.seen.fr hs hO (by omega),
    h.last.fr hs hO (by omega),
    h.wat.fr hs hO (by omega),
    fun x hx => (h.wl x hx).fr hs hO (by omega),
    h.trail.fr hs hO (by omega),
    h.starts.fr hs hO (by omega),
    hv.fr hs hO (by omega),
    h.order.fr hs hO (by omega) (by omega) (by omega) (by omega),
    h.lines.fr hs hO (by omega),
    h.given.fr hs hO (by omega),
    fun i v g h1 h2 => (h.gcl i v g h1 h2).fr hs hO (by omega),
    fun c hc => (h.con c hc).fr hs hO (by omega) (by omega),
    h.lo' hs.size hO (fun b hb he => by have := h.free hb; rw [this] at he; exact absurd rfl he),
    h.nv,
    h.nl,
    h.ns,
    h.na,
    h.ng⟩
theorem RM.setLines (h : RM H ow p n k f) {v : Value} {l : List Value} (hv : VR H ow 15 115 2 v l) :
    RM (setH H ⟨p, 3, none⟩ v) ow p n k (f.uLines v l) := by
  have hO : Ow H ow ow := Ow.refl
  have hs := Sm.set (H := H) (i := 3) (v := v) h.self.ow
  exact ⟨h.self.set 3 _ rfl,
    h.vals.fr hs hO (by omega),
    h.lvls.fr hs hO (by omega),
    h.reas.fr hs hO (by omega),
    h.seen.fr hs hO (by omega),
    h.last.fr hs hO (by omega),
    h.wat.fr hs hO (by omega),
    fun x hx => (h.wl x hx).fr hs hO (by omega),
    h.trail.fr hs hO (by omega),
    h.starts.fr hs hO (by omega),
    h.learned.fr hs hO (by omega),
    h.order.fr hs hO (by omega) (by omega) (by omega) (by omega),
    hv.fr hs hO (by omega),
    h.given.fr hs hO (by omega),
    fun i v g h1 h2 => (h.gcl i v g h1 h2).fr hs hO (by omega),
    fun c hc => (h.con c hc).fr hs hO (by omega) (by omega),
    h.lo' hs.size hO (fun b hb he => by have := h.free hb; rw [this] at he; exact absurd rfl he),
    h.nv,
    h.nl,
    h.ns,
    h.na,
    h.ng⟩
theorem RM.setGiven (h : RM H ow p n k f) {v : Value} {l : List Value} {g : List (List Int)} (hv : VR H ow 16 26 1 v l) (hg : ∀ (i : Nat) (v : Value) (q : List Int), l[i]? = some v → g[i]? = some q → VR H ow 17 3 1 v (q.map iv)) (hl : l.length = g.length) :
    RM (setH H ⟨p, 1, none⟩ v) ow p n k (f.uGiven v l g) := by
  have hO : Ow H ow ow := Ow.refl
  have hs := Sm.set (H := H) (i := 1) (v := v) h.self.ow
  exact ⟨h.self.set 1 _ rfl,
    h.vals.fr hs hO (by omega),
    h.lvls.fr hs hO (by omega),
    h.reas.fr hs hO (by omega),
    h.seen.fr hs hO (by omega),
    h.last.fr hs hO (by omega),
    h.wat.fr hs hO (by omega),
    fun x hx => (h.wl x hx).fr hs hO (by omega),
    h.trail.fr hs hO (by omega),
    h.starts.fr hs hO (by omega),
    h.learned.fr hs hO (by omega),
    h.order.fr hs hO (by omega) (by omega) (by omega) (by omega),
    h.lines.fr hs hO (by omega),
    hv.fr hs hO (by omega),
    fun i v g h1 h2 => (hg i v g h1 h2).fr hs hO (by omega),
    fun c hc => (h.con c hc).fr hs hO (by omega) (by omega),
    h.lo' hs.size hO (fun b hb he => by have := h.free hb; rw [this] at he; exact absurd rfl he),
    h.nv,
    h.nl,
    h.ns,
    h.na,
    hl⟩
/-- A literal of a clause is stored. -/
theorem RM.setLit (h : RM H ow p n k f) {c j x b o cap : Nat} (hc : c ∈ f.C) (hv : f.lb c = .slice (some ⟨b, o, none⟩) (f.lits c).length cap) (hj : j < (f.lits c).length) :
    wr H ⟨b, o + j, none⟩ (iv (x : Int)) = some (setH H ⟨b, o + j, none⟩ (iv (x : Int))) ∧ RM (setH H ⟨b, o + j, none⟩ (iv (x : Int))) ow p n k (f.uLit (upd f.lits c ((f.lits c).set j x))) := by
  have hO : Ow H ow ow := Ow.refl
  have hcr := h.con c hc
  have hbr : ow b = 101 + 2 * c := hcr.lits.ow b (by rw [hv]; simp [own])
  have hs := Sm.set (H := H) (i := o + j) (v := iv (x : Int)) hbr
  obtain ⟨b', o', cap', e1, e2, e3, e4⟩ := Vec.put1 hcr.lits.vec (i := j) (by rw [nv_len]; exact hj) (iv (x : Int))
  rw [hv] at e1
  simp only [Value.slice.injEq, Option.some.injEq, Addr.mk.injEq, and_true, true_and] at e1
  obtain ⟨⟨rfl, rfl⟩, -, -⟩ := e1
  refine ⟨e2, ?_⟩
  exact ⟨h.self.fr hs hO (by omega),
    h.vals.fr hs hO (by omega),
    h.lvls.fr hs hO (by omega),
    h.reas.fr hs hO (by omega),
    h.seen.fr hs hO (by omega),
    h.last.fr hs hO (by omega),
    h.wat.fr hs hO (by omega),
    fun x hx => (h.wl x hx).fr hs hO (by omega),
    h.trail.fr hs hO (by omega),
    h.starts.fr hs hO (by omega),
    h.learned.fr hs hO (by omega),
    h.order.fr hs hO (by omega) (by omega) (by omega) (by omega),
    h.lines.fr hs hO (by omega),
    h.given.fr hs hO (by omega),
    fun i v g h1 h2 => (h.gcl i v g h1 h2).fr hs hO (by omega),
    fun d hd => by
      by_cases e : d = c
      · subst e
        simp only [upd_same]
        refine ⟨hcr.blk.fr hs hO (by omega), ?_, hcr.lits.ow⟩
        have : Go.Proofs.YtofooamimiijlaaGreat.nv ((f.lits d).set j x) = (Go.Proofs.YtofooamimiijlaaGreat.nv (f.lits d)).set j (iv (x : Int)) := by simp [Go.Proofs.YtofooamimiijlaaGreat.nv, List.map_set]
        rw [this]; exact e3
      · simp only [upd_ne e]
        exact (h.con d hd).fr hs hO (by omega) (by omega),
    h.lo' hs.size hO (fun b hb he => by have := h.free hb; rw [this] at he; exact absurd rfl he),
    h.nv, h.nl, h.ns, h.na, h.ng⟩
/-- The heap of variables has been at work. -/
theorem RM.setOrder (h : RM H ow p n k f) {m : Nat} {os pl ac : List Int} (hg : HG H' k.ho k.hb k.hp k.ha n m os pl ac) (hf : Fr [k.ho, k.hb, k.hp, k.ha] H H') :
    RM H' ow p n k (f.uOrder m os pl ac) := by
  have hO : Ow H ow ow := Ow.refl
  have hs : Sm ow (fun r => 11 ≤ r ∧ r ≤ 14) H H' := by
    refine Sm.of hf fun b hb => ?_
    have h1 := h.order.o1; have h2 := h.order.o2; have h3 := h.order.o3; have h4 := h.order.o4
    simp only [List.mem_cons, List.not_mem_nil, or_false] at hb
    rcases hb with rfl | rfl | rfl | rfl <;> omega
  exact ⟨h.self.fr hs hO (by omega),
    h.vals.fr hs hO (by omega),
    h.lvls.fr hs hO (by omega),
    h.reas.fr hs hO (by omega),
    h.seen.fr hs hO (by omega),
    h.last.fr hs hO (by omega),
    h.wat.fr hs hO (by omega),
    fun x hx => (h.wl x hx).fr hs hO (by omega),
    h.trail.fr hs hO (by omega),
    h.starts.fr hs hO (by omega),
    h.learned.fr hs hO (by omega),
    ⟨hg, h.order.o1, h.order.o2, h.order.o3, h.order.o4⟩,
    h.lines.fr hs hO (by omega),
    h.given.fr hs hO (by omega),
    fun i v g h1 h2 => (h.gcl i v g h1 h2).fr hs hO (by omega),
    fun c hc => (h.con c hc).fr hs hO (by omega) (by omega),
    h.lo' hs.size hO (fun b hb he => by have := h.free hb; rw [this] at he; exact absurd rfl he),
    h.nv,
    h.nl,
    h.ns,
    h.na,
    h.ng⟩
/-- A constraint more. -/
theorem RM.addCon (h : RM H ow p n k f) {c kl : Nat} {v : Value} {l : List Nat} (hc : c ∉ f.C) (hn : CR H ow c v l kl) :
    RM H ow p n k (f.uCon (c :: f.C) (upd f.lits c l) (upd f.lb c v) (upd f.l2 c kl)) := by
  have hO : Ow H ow ow := Ow.refl
  have hs : Sm ow (fun _ => False) H H := Sm.refl
  exact ⟨h.self.fr hs hO (by simp),
    h.vals.fr hs hO (by simp),
    h.lvls.fr hs hO (by simp),
    h.reas.fr hs hO (by simp),
    h.seen.fr hs hO (by simp),
    h.last.fr hs hO (by simp),
    h.wat.fr hs hO (by simp),
    fun x hx => (h.wl x hx).fr hs hO (by simp),
    h.trail.fr hs hO (by simp),
    h.starts.fr hs hO (by simp),
    h.learned.fr hs hO (by simp),
    h.order.fr hs hO (by simp) (by simp) (by simp) (by simp),
    h.lines.fr hs hO (by simp),
    h.given.fr hs hO (by simp),
    fun i v g h1 h2 => (h.gcl i v g h1 h2).fr hs hO (by simp),
    fun d hd => by
      by_cases e : d = c
      · subst e; simp only [upd_same]; exact hn
      · simp only [upd_ne e]; exact h.con d ((List.mem_cons.1 hd).resolve_left e),
    h.lo' hs.size hO (fun b hb he => by have := h.free hb; rw [this] at he; exact absurd rfl he),
    h.nv,
    h.nl,
    h.ns,
    h.na,
    h.ng⟩
/-- The roles behind an append. -/
def grw (ow : Nat → Nat) (r : Nat) (v : Value) : Nat → Nat := fun b => if b ∈ own v then r else ow b
/-- What a step may do to memory that is not the solver's: nothing. -/
structure Ex (H : Heap) (ow : Nat → Nat) (H' : Heap) (ow' : Nat → Nat) : Prop where
  sm : Sm ow (fun r => r ≠ 0) H H'
  ow : Ow H ow ow'
theorem Ex.refl : Ex H ow H ow := ⟨Sm.refl, Ow.refl⟩
theorem Ex.trans {H'' : Heap} {ow'' : Nat → Nat} (h : Ex H ow H' ow') (h' : Ex H' ow' H'' ow'') : Ex H ow H'' ow'' := by
  have hz := h.sm.size
  refine ⟨⟨Nat.le_trans h.sm.size h'.sm.size, fun b hb hr => ?_⟩, fun b hb => ?_⟩
  · rw [h'.sm.same b (by omega) (by rw [h.ow b hb]; exact hr), h.sm.same b hb hr]
  · rw [h'.ow b (by omega), h.ow b hb]
theorem Ex.of {R : Nat → Prop} (h : Sm ow R H H') (hR : ¬ R 0) : Ex H ow H' ow := ⟨h.mono fun r hr e => hR (e ▸ hr), Ow.refl⟩
theorem Ex.push {o : Obj} : Ex H ow (H.push o) ow := ⟨Sm.of (F := []) Fr.push (by simp), Ow.refl⟩
theorem Ex.blk (h : Ex H ow H' ow') {b t : Nat} {vs : List Value} (hb : Blk H b t vs) (ho : ow b = 0) : Blk H' b t vs := h.sm.blk hb (by rw [ho]; simp)
theorem Ex.fr (h : Ex H ow H' ow') {b : Nat} (hb : b < H.size) (ho : ow b = 0) : H'[b]? = H[b]? := h.sm.same b hb (by rw [ho]; simp)
theorem grw_ow {r : Nat} {v v' : Value} (ho : ∀ b ∈ own v, ow b = r) (g : ∀ b ∈ own v', b ∈ own v ∨ H.size ≤ b) : Ow H ow (grw ow r v') := by
  intro b hb
  unfold grw
  split
  · rename_i e
    rcases g b e with h1 | h1
    · exact (ho b h1).symm
    · omega
  · rfl
theorem grw_self {r : Nat} {v : Value} : ∀ b ∈ own v, grw ow r v b = r := fun b hb => by unfold grw; rw [if_pos hb]

theorem RM.appTrail (h : RM H ow p n k f) {v' : Value} {l : List Nat} (g1 : Vec H' 3 1 v' (Go.Proofs.YtofooamimiijlaaGreat.nv l)) (g2 : Fr (own f.trail) H H') (g3 : ∀ b ∈ own v', b ∈ own f.trail ∨ H.size ≤ b) :
    RM (setH H' ⟨p, 14, none⟩ v') (grw ow 8 v') p n k (f.uTrail v' l) ∧ Ex H ow (setH H' ⟨p, 14, none⟩ v') (grw ow 8 v') ∧ Blk H' p 70 (scells n k f) := by
  have hO : Ow H ow (grw ow 8 v') := grw_ow h.trail.ow g3
  have hs1 : Sm ow (fun r => r = 8) H H' := Sm.of g2 fun b hb => h.trail.ow b hb
  have hself := h.self.fr hs1 hO (by omega)
  have hs2 := Sm.set (H := H') (i := 14) (v := v') hself.ow
  have hs : Sm ow (fun r => r = 1 ∨ r = 8) H (setH H' ⟨p, 14, none⟩ v') := by
    have hz := hs1.size
    refine ⟨by rw [size_setH]; exact hz, fun b hb hr => ?_⟩
    rw [hs2.same b (by omega) (by rw [hO b hb]; omega), hs1.same b hb (by omega)]
  have hv' : VR H' (grw ow 8 v') 8 3 1 v' (Go.Proofs.YtofooamimiijlaaGreat.nv l) := ⟨g1, grw_self⟩
  have hlt := g1.lt
  have hsz := hs.size
  refine ⟨?_, ⟨hs.mono (by intro r hr; omega), hO⟩, hself.blk⟩
  exact ⟨hself.set 14 _ rfl,
    h.vals.fr hs hO (by omega),
    h.lvls.fr hs hO (by omega),
    h.reas.fr hs hO (by omega),
    h.seen.fr hs hO (by omega),
    h.last.fr hs hO (by omega),
    h.wat.fr hs hO (by omega),
    fun x hx => (h.wl x hx).fr hs hO (by omega),
    hv'.fr hs2 Ow.refl (by omega),
    h.starts.fr hs hO (by omega),
    h.learned.fr hs hO (by omega),
    h.order.fr hs hO (by omega) (by omega) (by omega) (by omega),
    h.lines.fr hs hO (by omega),
    h.given.fr hs hO (by omega),
    fun i v g h1 h2 => (h.gcl i v g h1 h2).fr hs hO (by omega),
    fun c hc => (h.con c hc).fr hs hO (by omega) (by omega),
    fun b hb => by
      rw [size_setH]
      unfold grw at hb
      split at hb
      · rename_i e; exact hlt b e
      · have := h.lo b hb; rw [size_setH] at hsz; omega,
    h.nv,
    h.nl,
    h.ns,
    h.na,
    h.ng⟩
theorem RM.appStarts (h : RM H ow p n k f) {v' : Value} {l : List Nat} (g1 : Vec H' 3 1 v' (Go.Proofs.YtofooamimiijlaaGreat.nv l)) (g2 : Fr (own f.starts) H H') (g3 : ∀ b ∈ own v', b ∈ own f.starts ∨ H.size ≤ b) :
    RM (setH H' ⟨p, 15, none⟩ v') (grw ow 9 v') p n k (f.uStarts v' l) ∧ Ex H ow (setH H' ⟨p, 15, none⟩ v') (grw ow 9 v') ∧ Blk H' p 70 (scells n k f) := by
  have hO : Ow H ow (grw ow 9 v') := grw_ow h.starts.ow g3
  have hs1 : Sm ow (fun r => r = 9) H H' := Sm.of g2 fun b hb => h.starts.ow b hb
  have hself := h.self.fr hs1 hO (by omega)
  have hs2 := Sm.set (H := H') (i := 15) (v := v') hself.ow
  have hs : Sm ow (fun r => r = 1 ∨ r = 9) H (setH H' ⟨p, 15, none⟩ v') := by
    have hz := hs1.size
    refine ⟨by rw [size_setH]; exact hz, fun b hb hr => ?_⟩
    rw [hs2.same b (by omega) (by rw [hO b hb]; omega), hs1.same b hb (by omega)]
  have hv' : VR H' (grw ow 9 v') 9 3 1 v' (Go.Proofs.YtofooamimiijlaaGreat.nv l) := ⟨g1, grw_self⟩
  have hlt := g1.lt
  have hsz := hs.size
  refine ⟨?_, ⟨hs.mono (by intro r hr; omega), hO⟩, hself.blk⟩
  exact ⟨hself.set 15 _ rfl,
    h.vals.fr hs hO (by omega),
    h.lvls.fr hs hO (by omega),
    h.reas.fr hs hO (by omega),
    h.seen.fr hs hO (by omega),
    h.last.fr hs hO (by omega),
    h.wat.fr hs hO (by omega),
    fun x hx => (h.wl x hx).fr hs hO (by omega),
    h.trail.fr hs hO (by omega),
    hv'.fr hs2 Ow.refl (by omega),
    h.learned.fr hs hO (by omega),
    h.order.fr hs hO (by omega) (by omega) (by omega) (by omega),
    h.lines.fr hs hO (by omega),
    h.given.fr hs hO (by omega),
    fun i v g h1 h2 => (h.gcl i v g h1 h2).fr hs hO (by omega),
    fun c hc => (h.con c hc).fr hs hO (by omega) (by omega),
    fun b hb => by
      rw [size_setH]
      unfold grw at hb
      split at hb
      · rename_i e; exact hlt b e
      · have := h.lo b hb; rw [size_setH] at hsz; omega,
    h.nv,
    h.nl,
    h.ns,
    h.na,
    h.ng⟩
theorem RM.appLearned (h : RM H ow p n k f) {v' : Value} {l : List Nat} (g1 : Vec H' 95 1 v' (l.map pv)) (g2 : Fr (own f.learned) H H') (g3 : ∀ b ∈ own v', b ∈ own f.learned ∨ H.size ≤ b) :
    RM (setH H' ⟨p, 18, none⟩ v') (grw ow 10 v') p n k (f.uLearned v' l) ∧ Ex H ow (setH H' ⟨p, 18, none⟩ v') (grw ow 10 v') ∧ Blk H' p 70 (scells n k f) := by
  have hO : Ow H ow (grw ow 10 v') := grw_ow h.learned.ow g3
  have hs1 : Sm ow (fun r => r = 10) H H' := Sm.of g2 fun b hb => h.learned.ow b hb
  have hself := h.self.fr hs1 hO (by omega)
  have hs2 := Sm.set (H := H') (i := 18) (v := v') hself.ow
  have hs : Sm ow (fun r => r = 1 ∨ r = 10) H (setH H' ⟨p, 18, none⟩ v') := by
    have hz := hs1.size
    refine ⟨by rw [size_setH]; exact hz, fun b hb hr => ?_⟩
    rw [hs2.same b (by omega) (by rw [hO b hb]; omega), hs1.same b hb (by omega)]
  have hv' : VR H' (grw ow 10 v') 10 95 1 v' (l.map pv) := ⟨g1, grw_self⟩
  have hlt := g1.lt
  have hsz := hs.size
  refine ⟨?_, ⟨hs.mono (by intro r hr; omega), hO⟩, hself.blk⟩
  exact ⟨hself.set 18 _ rfl,
    h.vals.fr hs hO (by omega),
    h.lvls.fr hs hO (by omega),
    h.reas.fr hs hO (by omega),
    h.seen.fr hs hO (by omega),
    h.last.fr hs hO (by omega),
    h.wat.fr hs hO (by omega),
    fun x hx => (h.wl x hx).fr hs hO (by omega),
    h.trail.fr hs hO (by omega),
    h.starts.fr hs hO (by omega),
    hv'.fr hs2 Ow.refl (by omega),
    h.order.fr hs hO (by omega) (by omega) (by omega) (by omega),
    h.lines.fr hs hO (by omega),
    h.given.fr hs hO (by omega),
    fun i v g h1 h2 => (h.gcl i v g h1 h2).fr hs hO (by omega),
    fun c hc => (h.con c hc).fr hs hO (by omega) (by omega),
    fun b hb => by
      rw [size_setH]
      unfold grw at hb
      split at hb
      · rename_i e; exact hlt b e
      · have := h.lo b hb; rw [size_setH] at hsz; omega,
    h.nv,
    h.nl,
    h.ns,
    h.na,
    h.ng⟩
theorem RM.appLines (h : RM H ow p n k f) {v' : Value} {l : List Value} (g1 : Vec H' 115 2 v' l) (g2 : Fr (own f.lines) H H') (g3 : ∀ b ∈ own v', b ∈ own f.lines ∨ H.size ≤ b) :
    RM (setH H' ⟨p, 3, none⟩ v') (grw ow 15 v') p n k (f.uLines v' l) ∧ Ex H ow (setH H' ⟨p, 3, none⟩ v') (grw ow 15 v') ∧ Blk H' p 70 (scells n k f) := by
  have hO : Ow H ow (grw ow 15 v') := grw_ow h.lines.ow g3
  have hs1 : Sm ow (fun r => r = 15) H H' := Sm.of g2 fun b hb => h.lines.ow b hb
  have hself := h.self.fr hs1 hO (by omega)
  have hs2 := Sm.set (H := H') (i := 3) (v := v') hself.ow
  have hs : Sm ow (fun r => r = 1 ∨ r = 15) H (setH H' ⟨p, 3, none⟩ v') := by
    have hz := hs1.size
    refine ⟨by rw [size_setH]; exact hz, fun b hb hr => ?_⟩
    rw [hs2.same b (by omega) (by rw [hO b hb]; omega), hs1.same b hb (by omega)]
  have hv' : VR H' (grw ow 15 v') 15 115 2 v' l := ⟨g1, grw_self⟩
  have hlt := g1.lt
  have hsz := hs.size
  refine ⟨?_, ⟨hs.mono (by intro r hr; omega), hO⟩, hself.blk⟩
  exact ⟨hself.set 3 _ rfl,
    h.vals.fr hs hO (by omega),
    h.lvls.fr hs hO (by omega),
    h.reas.fr hs hO (by omega),
    h.seen.fr hs hO (by omega),
    h.last.fr hs hO (by omega),
    h.wat.fr hs hO (by omega),
    fun x hx => (h.wl x hx).fr hs hO (by omega),
    h.trail.fr hs hO (by omega),
    h.starts.fr hs hO (by omega),
    h.learned.fr hs hO (by omega),
    h.order.fr hs hO (by omega) (by omega) (by omega) (by omega),
    hv'.fr hs2 Ow.refl (by omega),
    h.given.fr hs hO (by omega),
    fun i v g h1 h2 => (h.gcl i v g h1 h2).fr hs hO (by omega),
    fun c hc => (h.con c hc).fr hs hO (by omega) (by omega),
    fun b hb => by
      rw [size_setH]
      unfold grw at hb
      split at hb
      · rename_i e; exact hlt b e
      · have := h.lo b hb; rw [size_setH] at hsz; omega,
    h.nv,
    h.nl,
    h.ns,
    h.na,
    h.ng⟩
theorem RM.appGiven (h : RM H ow p n k f) {v' : Value} {l : List Value} {gg : List (List Int)} (hg : ∀ (i : Nat) (v : Value) (q : List Int), l[i]? = some v → gg[i]? = some q → VR H ow 17 3 1 v (q.map iv)) (hl : l.length = gg.length) (g1 : Vec H' 26 1 v' l) (g2 : Fr (own f.given) H H') (g3 : ∀ b ∈ own v', b ∈ own f.given ∨ H.size ≤ b) :
    RM (setH H' ⟨p, 1, none⟩ v') (grw ow 16 v') p n k (f.uGiven v' l gg) ∧ Ex H ow (setH H' ⟨p, 1, none⟩ v') (grw ow 16 v') ∧ Blk H' p 70 (scells n k f) := by
  have hO : Ow H ow (grw ow 16 v') := grw_ow h.given.ow g3
  have hs1 : Sm ow (fun r => r = 16) H H' := Sm.of g2 fun b hb => h.given.ow b hb
  have hself := h.self.fr hs1 hO (by omega)
  have hs2 := Sm.set (H := H') (i := 1) (v := v') hself.ow
  have hs : Sm ow (fun r => r = 1 ∨ r = 16) H (setH H' ⟨p, 1, none⟩ v') := by
    have hz := hs1.size
    refine ⟨by rw [size_setH]; exact hz, fun b hb hr => ?_⟩
    rw [hs2.same b (by omega) (by rw [hO b hb]; omega), hs1.same b hb (by omega)]
  have hv' : VR H' (grw ow 16 v') 16 26 1 v' l := ⟨g1, grw_self⟩
  have hlt := g1.lt
  have hsz := hs.size
  refine ⟨?_, ⟨hs.mono (by intro r hr; omega), hO⟩, hself.blk⟩
  exact ⟨hself.set 1 _ rfl,
    h.vals.fr hs hO (by omega),
    h.lvls.fr hs hO (by omega),
    h.reas.fr hs hO (by omega),
    h.seen.fr hs hO (by omega),
    h.last.fr hs hO (by omega),
    h.wat.fr hs hO (by omega),
    fun x hx => (h.wl x hx).fr hs hO (by omega),
    h.trail.fr hs hO (by omega),
    h.starts.fr hs hO (by omega),
    h.learned.fr hs hO (by omega),
    h.order.fr hs hO (by omega) (by omega) (by omega) (by omega),
    h.lines.fr hs hO (by omega),
    hv'.fr hs2 Ow.refl (by omega),
    fun i v g h1 h2 => (hg i v g h1 h2).fr hs hO (by omega),
    fun c hc => (h.con c hc).fr hs hO (by omega) (by omega),
    fun b hb => by
      rw [size_setH]
      unfold grw at hb
      split at hb
      · rename_i e; exact hlt b e
      · have := h.lo b hb; rw [size_setH] at hsz; omega,
    h.nv,
    h.nl,
    h.ns,
    h.na,
    hl⟩
theorem RM.appWat (h : RM H ow p n k f) {x : Nat} {v' : Value} {l : List Nat} (hx : x < 2 * n + 2) (g1 : Vec H' 95 1 v' (l.map pv)) (g2 : Fr (own (f.ws x)) H H') (g3 : ∀ b ∈ own v', b ∈ own (f.ws x) ∨ H.size ≤ b) :
    RM (setH H' ⟨k.bw, x, none⟩ v') (grw ow (100 + 2 * x) v') p n k (f.uWat (upd f.ws x v') (upd f.w x l)) ∧ Ex H ow (setH H' ⟨k.bw, x, none⟩ v') (grw ow (100 + 2 * x) v') ∧ Blk H' k.bw 66 ((List.range (2 * n + 2)).map f.ws) := by
  have hO : Ow H ow (grw ow (100 + 2 * x) v') := grw_ow (h.wl x hx).ow g3
  have hs1 : Sm ow (fun r => r = 100 + 2 * x) H H' := Sm.of g2 fun b hb => (h.wl x hx).ow b hb
  have hwat := h.wat.fr hs1 hO (by omega)
  have hs2 := Sm.set (H := H') (i := x) (v := v') hwat.ow
  have hs : Sm ow (fun r => r = 7 ∨ r = 100 + 2 * x) H (setH H' ⟨k.bw, x, none⟩ v') := by
    have hz := hs1.size
    refine ⟨by rw [size_setH]; exact hz, fun b hb hr => ?_⟩
    rw [hs2.same b (by omega) (by rw [hO b hb]; omega), hs1.same b hb (by omega)]
  have hv' : VR H' (grw ow (100 + 2 * x) v') (100 + 2 * x) 95 1 v' (l.map pv) := ⟨g1, grw_self⟩
  have hlt := g1.lt
  have hsz := hs.size
  refine ⟨?_, ⟨hs.mono (by intro r hr; omega), hO⟩, hwat.blk⟩
  exact ⟨h.self.fr hs hO (by omega),
    h.vals.fr hs hO (by omega),
    h.lvls.fr hs hO (by omega),
    h.reas.fr hs hO (by omega),
    h.seen.fr hs hO (by omega),
    h.last.fr hs hO (by omega),
    hwat.set x _ (range_upd _ (fun v => v) _),
    fun y hy => by
      by_cases e : y = x
      · subst e; simp only [upd_same]; exact hv'.fr hs2 Ow.refl (by omega)
      · simp only [upd_ne e]; exact (h.wl y hy).fr hs hO (by omega),
    h.trail.fr hs hO (by omega),
    h.starts.fr hs hO (by omega),
    h.learned.fr hs hO (by omega),
    h.order.fr hs hO (by omega) (by omega) (by omega) (by omega),
    h.lines.fr hs hO (by omega),
    h.given.fr hs hO (by omega),
    fun i v g h1 h2 => (h.gcl i v g h1 h2).fr hs hO (by omega),
    fun c hc => (h.con c hc).fr hs hO (by omega) (by omega),
    fun b hb => by
      rw [size_setH]
      unfold grw at hb
      split at hb
      · rename_i e; exact hlt b e
      · have := h.lo b hb; rw [size_setH] at hsz; omega,
    h.nv,
    h.nl,
    h.ns,
    h.na,
    h.ng⟩
theorem RM.chgWat (h : RM H ow p n k f) {x : Nat} {l : List Nat} (hs : Sm ow (fun r => r = 100 + 2 * x) H H') (g : Vec H' 95 1 (f.ws x) (l.map pv)) :
    RM H' ow p n k (f.uWat f.ws (upd f.w x l)) := by
  have hO : Ow H ow ow := Ow.refl
  exact ⟨h.self.fr hs hO (by omega),
    h.vals.fr hs hO (by omega),
    h.lvls.fr hs hO (by omega),
    h.reas.fr hs hO (by omega),
    h.seen.fr hs hO (by omega),
    h.last.fr hs hO (by omega),
    h.wat.fr hs hO (by omega),
    fun y hy => by
      by_cases e : y = x
      · subst e; simp only [upd_same]; exact ⟨g, (h.wl y hy).ow⟩
      · simp only [upd_ne e]; exact (h.wl y hy).fr hs hO (by omega),
    h.trail.fr hs hO (by omega),
    h.starts.fr hs hO (by omega),
    h.learned.fr hs hO (by omega),
    h.order.fr hs hO (by omega) (by omega) (by omega) (by omega),
    h.lines.fr hs hO (by omega),
    h.given.fr hs hO (by omega),
    fun i v g h1 h2 => (h.gcl i v g h1 h2).fr hs hO (by omega),
    fun c hc => (h.con c hc).fr hs hO (by omega) (by omega),
    h.lo' hs.size hO (fun b hb he => by have := h.free hb; rw [this] at he; exact absurd rfl he),
    h.nv,
    h.nl,
    h.ns,
    h.na,
    h.ng⟩
/-- Memory that was nobody's becomes the solver's. -/
theorem RM.adopt (h : RM H ow p n k f) (ho : ∀ b, ow b ≠ 0 → ow' b = ow b) (hlo : ∀ b, ow' b ≠ 0 → b < H.size) : RM H ow' p n k f := by
  exact ⟨h.self.ad ho (by omega),
    h.vals.ad ho (by omega),
    h.lvls.ad ho (by omega),
    h.reas.ad ho (by omega),
    h.seen.ad ho (by omega),
    h.last.ad ho (by omega),
    h.wat.ad ho (by omega),
    fun x hx => (h.wl x hx).ad ho (by omega),
    h.trail.ad ho (by omega),
    h.starts.ad ho (by omega),
    h.learned.ad ho (by omega),
    ⟨h.order.hg, by rw [ho _ (by rw [h.order.o1]; omega)]; exact h.order.o1, by rw [ho _ (by rw [h.order.o2]; omega)]; exact h.order.o2, by rw [ho _ (by rw [h.order.o3]; omega)]; exact h.order.o3, by rw [ho _ (by rw [h.order.o4]; omega)]; exact h.order.o4⟩,
    h.lines.ad ho (by omega),
    h.given.ad ho (by omega),
    fun i v g h1 h2 => (h.gcl i v g h1 h2).ad ho (by omega),
    fun c hc => ⟨(h.con c hc).blk.ad ho (by omega), (h.con c hc).lits.ad ho (by omega)⟩,
    hlo,
    h.nv, h.nl, h.ns, h.na, h.ng⟩
/-- A cell of the solver's own block. -/
theorem RM.c (h : RM H ow p n k f) (i : Nat) : cellH H ⟨p, i, none⟩ = (scells n k f)[i]? := h.self.blk.cell i
theorem RM.wrc (h : RM H ow p n k f) {i : Nat} (hi : i < 22) (v : Value) : wr H ⟨p, i, none⟩ v = some (setH H ⟨p, i, none⟩ v) := h.self.blk.wr (by simpa [scells] using hi) v
theorem RM.putVal (h : RM H ow p n k f) {x : Nat} (hx : x < 2 * n + 2) (v : Int) :
    ∃ H1, wr H ⟨k.bv, x, none⟩ (.int .i8 v) = some H1 ∧ RM H1 ow p n k (f.uVals (f.vals.set x v)) ∧ Ex H ow H1 ow :=
  ⟨_, h.vals.blk.wr (by rw [List.length_map, h.nv]; exact hx) _, h.setVal v, Ex.of (Sm.set h.vals.ow) (by omega)⟩
theorem RM.putLvl (h : RM H ow p n k f) {x : Nat} (hx : x < n + 1) (v : Nat) :
    ∃ H1, wr H ⟨k.bl, x, none⟩ (iv (v : Int)) = some H1 ∧ RM H1 ow p n k (f.uLvls (f.lvls.set x v)) ∧ Ex H ow H1 ow :=
  ⟨_, h.lvls.blk.wr (by rw [nv_len, h.nl]; exact hx) _, h.setLvl v, Ex.of (Sm.set h.lvls.ow) (by omega)⟩
theorem RM.putSeen (h : RM H ow p n k f) {x : Nat} (hx : x < n + 1) (v : Bool) :
    ∃ H1, wr H ⟨k.bs, x, none⟩ (.bool v) = some H1 ∧ RM H1 ow p n k (f.uSeen (f.seen.set x v)) ∧ Ex H ow H1 ow :=
  ⟨_, h.seen.blk.wr (by rw [List.length_map, h.ns]; exact hx) _, h.setSeen v, Ex.of (Sm.set h.seen.ow) (by omega)⟩
theorem RM.putLast (h : RM H ow p n k f) {x : Nat} (hx : x < n + 1) (v : Bool) :
    ∃ H1, wr H ⟨k.ba, x, none⟩ (.bool v) = some H1 ∧ RM H1 ow p n k (f.uLast (f.last.set x v)) ∧ Ex H ow H1 ow :=
  ⟨_, h.last.blk.wr (by rw [List.length_map, h.na]; exact hx) _, h.setLast v, Ex.of (Sm.set h.last.ow) (by omega)⟩
theorem RM.putRea (h : RM H ow p n k f) {x : Nat} (hx : x < n + 1) (v : Option Nat) :
    ∃ H1, wr H ⟨k.br, x, none⟩ (pn v) = some H1 ∧ RM H1 ow p n k (f.uRea (upd f.rea x v)) ∧ Ex H ow H1 ow :=
  ⟨_, h.reas.blk.wr (by simpa using hx) _, h.setRea v, Ex.of (Sm.set h.reas.ow) (by omega)⟩
theorem RM.putWat (h : RM H ow p n k f) {x : Nat} (hx : x < 2 * n + 2) {v : Value} {l : List Nat} (hv : VR H ow (100 + 2 * x) 95 1 v (l.map pv)) :
    ∃ H1, wr H ⟨k.bw, x, none⟩ v = some H1 ∧ RM H1 ow p n k (f.uWat (upd f.ws x v) (upd f.w x l)) ∧ Ex H ow H1 ow :=
  ⟨_, h.wat.blk.wr (by simpa using hx) _, h.setWat hv, Ex.of (Sm.set h.wat.ow) (by omega)⟩
theorem RM.putLoaded (h : RM H ow p n k f) (v : Nat) :
    ∃ H1, wr H ⟨p, 2, none⟩ (iv (v : Int)) = some H1 ∧ RM H1 ow p n k (f.uLoaded v) ∧ Ex H ow H1 ow :=
  ⟨_, h.wrc (by omega) _, h.setLoaded v, Ex.of (Sm.set h.self.ow) (by omega)⟩
theorem RM.putConf (h : RM H ow p n k f) (v : Nat) :
    ∃ H1, wr H ⟨p, 4, none⟩ (iv (v : Int)) = some H1 ∧ RM H1 ow p n k (f.uConf v) ∧ Ex H ow H1 ow :=
  ⟨_, h.wrc (by omega) _, h.setConf v, Ex.of (Sm.set h.self.ow) (by omega)⟩
theorem RM.putModel (h : RM H ow p n k f) (v : Value) :
    ∃ H1, wr H ⟨p, 5, none⟩ v = some H1 ∧ RM H1 ow p n k (f.uModel v) ∧ Ex H ow H1 ow :=
  ⟨_, h.wrc (by omega) _, h.setModel v, Ex.of (Sm.set h.self.ow) (by omega)⟩
theorem RM.putCore (h : RM H ow p n k f) (v : Value) :
    ∃ H1, wr H ⟨p, 6, none⟩ v = some H1 ∧ RM H1 ow p n k (f.uCore v) ∧ Ex H ow H1 ow :=
  ⟨_, h.wrc (by omega) _, h.setCore v, Ex.of (Sm.set h.self.ow) (by omega)⟩
theorem RM.putHead (h : RM H ow p n k f) (v : Nat) :
    ∃ H1, wr H ⟨p, 16, none⟩ (iv (v : Int)) = some H1 ∧ RM H1 ow p n k (f.uHead v) ∧ Ex H ow H1 ow :=
  ⟨_, h.wrc (by omega) _, h.setHead v, Ex.of (Sm.set h.self.ow) (by omega)⟩
theorem RM.putStep (h : RM H ow p n k f) (v : Int) :
    ∃ H1, wr H ⟨p, 17, none⟩ (.int .i64 v) = some H1 ∧ RM H1 ow p n k (f.uStep v) ∧ Ex H ow H1 ow :=
  ⟨_, h.wrc (by omega) _, h.setStep v, Ex.of (Sm.set h.self.ow) (by omega)⟩
theorem RM.putRounds (h : RM H ow p n k f) (v : Nat) :
    ∃ H1, wr H ⟨p, 20, none⟩ (iv (v : Int)) = some H1 ∧ RM H1 ow p n k (f.uRounds v) ∧ Ex H ow H1 ow :=
  ⟨_, h.wrc (by omega) _, h.setRounds v, Ex.of (Sm.set h.self.ow) (by omega)⟩
theorem RM.putDead (h : RM H ow p n k f) (v : Bool) :
    ∃ H1, wr H ⟨p, 21, none⟩ (.bool v) = some H1 ∧ RM H1 ow p n k (f.uDead v) ∧ Ex H ow H1 ow :=
  ⟨_, h.wrc (by omega) _, h.setDead v, Ex.of (Sm.set h.self.ow) (by omega)⟩
theorem RM.putTrail (h : RM H ow p n k f) {v : Value} {l : List Nat} (hv : VR H ow 8 3 1 v (Go.Proofs.YtofooamimiijlaaGreat.nv l)) :
    ∃ H1, wr H ⟨p, 14, none⟩ v = some H1 ∧ RM H1 ow p n k (f.uTrail v l) ∧ Ex H ow H1 ow :=
  ⟨_, h.wrc (by omega) _, h.setTrail hv, Ex.of (Sm.set h.self.ow) (by omega)⟩
theorem RM.putStarts (h : RM H ow p n k f) {v : Value} {l : List Nat} (hv : VR H ow 9 3 1 v (Go.Proofs.YtofooamimiijlaaGreat.nv l)) :
    ∃ H1, wr H ⟨p, 15, none⟩ v = some H1 ∧ RM H1 ow p n k (f.uStarts v l) ∧ Ex H ow H1 ow :=
  ⟨_, h.wrc (by omega) _, h.setStarts hv, Ex.of (Sm.set h.self.ow) (by omega)⟩
theorem RM.putLearned (h : RM H ow p n k f) {v : Value} {l : List Nat} (hv : VR H ow 10 95 1 v (l.map pv)) :
    ∃ H1, wr H ⟨p, 18, none⟩ v = some H1 ∧ RM H1 ow p n k (f.uLearned v l) ∧ Ex H ow H1 ow :=
  ⟨_, h.wrc (by omega) _, h.setLearned hv, Ex.of (Sm.set h.self.ow) (by omega)⟩
theorem RM.putLines (h : RM H ow p n k f) {v : Value} {l : List Value} (hv : VR H ow 15 115 2 v l) :
    ∃ H1, wr H ⟨p, 3, none⟩ v = some H1 ∧ RM H1 ow p n k (f.uLines v l) ∧ Ex H ow H1 ow :=
  ⟨_, h.wrc (by omega) _, h.setLines hv, Ex.of (Sm.set h.self.ow) (by omega)⟩
theorem RM.putLit (h : RM H ow p n k f) {c j x b o cap : Nat} (hc : c ∈ f.C) (hv : f.lb c = .slice (some ⟨b, o, none⟩) (f.lits c).length cap) (hj : j < (f.lits c).length) :
    ∃ H1, wr H ⟨b, o + j, none⟩ (iv (x : Int)) = some H1 ∧ RM H1 ow p n k (f.uLit (upd f.lits c ((f.lits c).set j x))) ∧ Ex H ow H1 ow := by
  have hbr : ow b = 101 + 2 * c := (h.con c hc).lits.ow b (by rw [hv]; simp [own])
  exact ⟨_, (h.setLit hc hv hj).1, (h.setLit hc hv hj).2, Ex.of (Sm.set hbr) (by omega)⟩
end
end Go.Proofs.YtofooamimiijlaaGreat

