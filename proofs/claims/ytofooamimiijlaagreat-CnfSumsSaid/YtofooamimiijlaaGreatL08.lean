/- Graphs that grow. -/
import Derived.Test.YtofooamimiijlaaGreatL07
namespace Go.Proofs.YtofooamimiijlaaGreat
open Go.HL
set_option maxRecDepth 10000
set_option linter.unusedSimpArgs false

def Grow (B B' : List Nat) (H : Heap) : Prop := ∀ b ∈ B', b ∈ B ∨ H.size ≤ b
theorem Grow.refl {B : List Nat} {H : Heap} : Grow B B H := fun _ h => .inl h
theorem Grow.trans {B B' B'' : List Nat} {H H' : Heap} (h : Grow B B' H) (h' : Grow B' B'' H') (hs : H.size ≤ H'.size) : Grow B B'' H :=
  fun b hb => (h' b hb).elim (fun h1 => h b h1) (fun h1 => .inr (by omega))
/-- What grew out of a block's own blocks differs in these alone. -/
theorem Fr.grow {B B' : List Nat} {H H' H'' : Heap} (h : Fr B H H') (h' : Fr B' H' H'') (hg : Grow B B' H) : Fr B H H'' := by
  refine ⟨Nat.le_trans h.size h'.size, fun b hb hF => ?_⟩
  rw [h'.same b (Nat.lt_of_lt_of_le hb h.size) (fun e => (hg b e).elim hF (fun e => by omega))]
  exact h.same b hb hF
/-- A graph, grown. -/
def GP (H H' : Heap) (g : Nat) (B : List Nat) (ns : List Pr) (ins : List Nat) : Prop := ∃ B', Gr H' g B' ns ins ∧ Fr B H H' ∧ Grow B B' H
theorem GP.refl {H : Heap} {g : Nat} {B : List Nat} {ns : List Pr} {ins : List Nat} (h : Gr H g B ns ins) : GP H H g B ns ins := ⟨B, h, Fr.refl _ _, Grow.refl⟩

theorem pairT : PairT Tryz.prog 82 := ⟨⟨_, _, _, _, Tryz.underlying82, by decide, by decide, rfl, rfl, rfl, rfl, Tryz.underlying3, Tryz.underlying3⟩, by kernel_rfl⟩

section
variable {H : Heap} {g : Nat} {ns : List Pr} {ins : List Nat} {B : List Nat}
theorem GW.add {kn : List (Pr × Nat)} (h : GW ns ins kn) (hl : ns.length < 200000) {p : Pr} (hp : p = (0, 0) ∨ (p ≠ (0, 0) ∧ p.1 < 2 * ns.length ∧ p.2 < 2 * ns.length)) : GW (ns ++ [p]) ins kn := by
  refine ⟨by simp, by simp; omega, fun i q hq => ?_, fun n hn => ?_, h.nod, fun x hx => ?_, by have := h.il; simp; omega⟩
  · rcases Nat.lt_or_ge i ns.length with hi | hi
    · rw [List.getElem?_append_left hi] at hq; exact h.nd i q hq
    · have hlt := (List.getElem?_eq_some_iff.1 hq).1
      have : i = ns.length := by simp at hlt; omega
      subst this
      simp at hq; subst hq
      exact hp
  · obtain ⟨h1, h2⟩ := h.inp n hn
    refine ⟨h1, ?_⟩
    rw [List.getElem?_append_left (List.getElem?_eq_some_iff.1 h2).1]; exact h2
  · have := h.kn x hx
    exact ⟨this.1, by rw [List.getElem?_append_left (List.getElem?_eq_some_iff.1 this.2).1]; exact this.2⟩

theorem input_spec (h : Gr H g B ns ins) (hl : ns.length < 200000) : CallF Tryz.prog 23 [hp g] H (fun r H' => r = iv ((2 * ns.length : Nat) : Int) ∧ GP H H' g B (ns ++ [(0, 0)]) (ins ++ [ns.length])) NoP := by
  obtain ⟨mr, nv, nw, kn, h, hw, rfl⟩ := h
  have hpos := hw.pos
  have hil := hw.il
  refine callF_of Tryz.func23 rfl Tryz.ntmps23 Tryz.results23 (by decide) rfl ?_
  simp (disch := omega) only [go_sem, ↓cw_block, dsB_of]
  refine call_to (add_spec h hl (a := 0) (b := 0)) ?_
  rintro _ H1 ⟨rfl, nv1, h1, f1, g1⟩
  obtain ⟨aw, cw, ew⟩ := h1.vi.form
  subst ew
  have c1 := h1.c1
  have e2 : 2 * (ns.length : Int) = ((2 * ns.length : Nat) : Int) := by omega
  simp (disch := omega) only [go_sem, ↓cw_block, dsB_of, c1]
  refine app_lit1 T.el26 rfl h1.vi rfl (by simp; omega) ?_
  rintro v2 H2 k1 k2 k3 ⟨a2, c2, rfl⟩
  have b2 := k2.blk h1.self h1.s2
  have w2 := b2.wr (i := 1) (by simp) (.slice a2 ((ins.map Int.ofNat).map (Value.int .i64)).length.succ c2)
  have b3 := b2.set 1 (.slice a2 ((ins.map Int.ofNat).map (Value.int .i64)).length.succ c2)
  have F3 : Fr [g] H2 (setH H2 ⟨g, 1, none⟩ (.slice a2 ((ins.map Int.ofNat).map (Value.int .i64)).length.succ c2)) := Fr.set (by simp)
  have hg1 := h1.self.lt
  have hm1 := h1.mp.lt
  have q1 : g ∉ own (Value.slice a2 ((ins.map Int.ofNat).map (Value.int .i64)).length.succ c2) := fun e => (k3 _ e).elim h1.s2 (fun e => by omega)
  have q2 : mr ∉ own (Value.slice a2 ((ins.map Int.ofNat).map (Value.int .i64)).length.succ c2) := fun e => (k3 _ e).elim h1.s4.2.1 (fun e => by omega)
  have q3 : ∀ b ∈ own nv1, b ∉ own (Value.slice a2 ((ins.map Int.ofNat).map (Value.int .i64)).length.succ c2) := fun b hb e => (k3 _ e).elim (h1.s3 b hb) (fun e => by have := h1.vn.lt b hb; omega)
  simp (disch := omega) only [go_sem, ↓cw_block, dsB_of, w2, e2]
  refine fin ⟨rfl, gB g mr nv1 _, ⟨mr, nv1, _, kn, ⟨b3, ?_, ?_, ?_, h1.s1, q1, q3, h1.s4.1, q2, h1.s4.2.2⟩, ?_, rfl⟩, ?_, ?_⟩
  · exact (h1.vn.frame k2 h1.s3).frame F3 (by intro x hx e; simp at e; subst e; exact h1.s1 hx)
  · unfold IV
    rw [List.map_append, List.map_append]
    exact k1.frame F3 (by intro x hx e; simp at e; subst e; exact q1 hx)
  · exact (h1.mp.frame k2 h1.s4.2.1).frame F3 (by simp; exact h1.s4.2.2)
  · have hw1 := hw.add hl (p := (0, 0)) (.inl rfl)
    refine ⟨hw1.pos, hw1.big, hw1.nd, fun n hn => ?_, ?_, hw1.kn, by simp; omega⟩
    · rw [List.mem_append] at hn
      rcases hn with hn | hn
      · exact hw1.inp n hn
      · simp at hn; subst hn; exact ⟨hpos, by simp⟩
    · rw [List.nodup_append]
      refine ⟨hw.nod, by simp, ?_⟩
      intro x hx y hy e
      simp at hy; subst hy
      have := (List.getElem?_eq_some_iff.1 (hw.inp x hx).2).1
      omega
  · refine (f1.trans ((k2.mono (G := gB g mr nv (.slice aw (ins.map Int.ofNat).length cw)) ?_).trans (F3.mono (fun b _ hb => by simp at hb; simp [gB, hb]))))
    intro b _ hb
    simp only [gB, List.mem_cons, List.mem_append]
    exact .inr (.inr (.inr hb))
  · intro b hb
    simp only [gB, List.mem_cons, List.mem_append] at hb ⊢
    have hs := f1.size
    rcases hb with hb | hb | hb | hb
    · exact .inl (.inl hb)
    · exact .inl (.inr (.inl hb))
    · exact (g1 b hb).elim (fun h => .inl (.inr (.inr (.inl h)))) .inr
    · exact (k3 b hb).elim (fun h => .inl (.inr (.inr (.inr h)))) (fun h => .inr (by omega))

/-- What an and answers: an edge that is there already, or a new node. -/
def AndR (ns ns' : List Pr) (x y e : Nat) : Prop := (ns' = ns ∧ ((x = 0 ∨ x = nx y) ∧ e = 0 ∨ (x = 1 ∨ x = y) ∧ e = y ∨ ∃ n, (0 < n ∧ 2 ≤ x ∧ x < y) ∧ ns[n]? = some (x, y) ∧ e = 2 * n)) ∨ (ns' = ns ++ [(x, y)] ∧ e = 2 * ns.length ∧ 2 ≤ x ∧ x < y ∧ x ≠ nx y)
theorem AndR.lt {ns ns' : List Pr} {x y e : Nat} (h : AndR ns ns' x y e) (hy : y < 2 * ns.length) (hp : 0 < ns.length) : e < 2 * ns'.length ∧ (ns' = ns ∨ ∃ p, ns' = ns ++ [p]) := by
  rcases h with ⟨rfl, ⟨_, rfl⟩ | ⟨_, rfl⟩ | ⟨n, _, hn, rfl⟩⟩ | ⟨rfl, rfl, _⟩
  · exact ⟨by omega, .inl rfl⟩
  · exact ⟨hy, .inl rfl⟩
  · have := (List.getElem?_eq_some_iff.1 hn).1
    exact ⟨by omega, .inl rfl⟩
  · exact ⟨by simp <;> omega, .inr ⟨_, rfl⟩⟩
theorem and_spec (h : Gr H g B ns ins) (hl : ns.length < 200000) {a b : Int} (ha : a ≤ 9223372036854775807) (hb : b ≤ 9223372036854775807) :
    CallF Tryz.prog 22 [hp g, iv a, iv b] H (fun r H' => ∃ (e : Nat) (ns' : List Pr), r = iv e ∧ AndR ns ns' (min (ownM ns a) (ownM ns b)) (max (ownM ns a) (ownM ns b)) e ∧ GP H H' g B ns' ins) NoP := by
  have hG := h
  obtain ⟨mr, nv, nw, kn, h, hw, rfl⟩ := h
  have hpos := hw.pos
  have oa := ownM_lt (ns := ns) hpos a
  have ob := ownM_lt (ns := ns) hpos b
  obtain ⟨x, hx⟩ : ∃ x, x = min (ownM ns a) (ownM ns b) := ⟨_, rfl⟩
  obtain ⟨y, hy⟩ : ∃ y, y = max (ownM ns a) (ownM ns b) := ⟨_, rfl⟩
  have e1 : min ((ownM ns a : Nat) : Int) ((ownM ns b : Nat) : Int) = (x : Int) := by omega
  have e2 : max ((ownM ns a : Nat) : Int) ((ownM ns b : Nat) : Int) = (y : Int) := by omega
  have hxl : x < 2 * ns.length := by omega
  have hyl : y < 2 * ns.length := by omega
  have hst := store_new (P := Tryz.prog) (H := H) (t := 82) (z := [iv 0, iv 0]) (vs := [iv x, iv y]) T.size82 rfl (by simp [oneC])
  obtain ⟨H1, hH1⟩ : ∃ H1, H1 = H.push (.cells [iv x, iv y].toArray 82) := ⟨_, rfl⟩
  rw [← hH1] at hst
  have f1 : Fr [] H H1 := by rw [hH1]; exact Fr.push
  have x1 : Blk H1 H.size 82 [iv x, iv y] := by rw [hH1]; exact Blk.new rfl
  have y0 : cellH H1 ⟨H.size, 0, none⟩ = some (iv x) := x1.cell 0
  have y1 : cellH H1 ⟨H.size, 1, none⟩ = some (iv y) := x1.cell 1
  have h1 := h.frame f1 (by simp)
  have hlt := h.lt
  rw [← hx, ← hy]
  have stay : ∀ e : Nat, ((x = 0 ∨ x = nx y) ∧ e = 0 ∨ (x = 1 ∨ x = y) ∧ e = y ∨ ∃ n, (0 < n ∧ 2 ≤ x ∧ x < y) ∧ ns[n]? = some (x, y) ∧ e = 2 * n) → ∃ (e' : Nat) (ns' : List Pr), iv e = iv e' ∧ AndR ns ns' x y e' ∧ GP H H1 g (gB g mr nv nw) ns' ins :=
    fun e he => ⟨e, ns, rfl, .inl ⟨rfl, he⟩, _, ⟨mr, nv, nw, kn, h1, hw, rfl⟩, f1.mono (by simp), Grow.refl⟩
  refine callF_of Tryz.func22 rfl Tryz.ntmps22 Tryz.results22 (by decide) rfl ?_
  simp (disch := omega) only [go_sem, dsB_of]
  refine call_to (own_spec hG ha) ?_
  rintro _ _ ⟨rfl, rfl⟩
  simp (disch := omega) only [go_sem, dsB_of]
  refine call_to (own_spec hG hb) ?_
  rintro _ _ ⟨rfl, rfl⟩
  simp (disch := omega) only [go_sem, dsB_of]
  refine call_to (own_spec hG ha) ?_
  rintro _ _ ⟨rfl, rfl⟩
  simp (disch := omega) only [go_sem, dsB_of]
  refine call_to (own_spec hG hb) ?_
  rintro _ _ ⟨rfl, rfl⟩
  simp (disch := omega) only [go_sem, ↓cw_block, dsB_of, e1, e2, hst, newPtr]
  refine draw1 (lk [(0, true), (1, true), (2, true), (3, true), (4, false), (5, false), (6, true), (7, true)] (.act 8 (lk [(9, true), (10, true), (11, true)] .fin) .non)) T.mixed [(⟨H.size, 0, none⟩, iv x)] (heldOK_one y0) ?_
  by_cases q0 : x = 0
  · simp (disch := omega) only [go_sem, ↓cw_block, dsB_of, newPtr, y0, y1]
    refine held_by (heldOK_one y0) ?_
    simp (disch := omega) only [go_sem, ↓cw_block, dsB_of, newPtr, y0, y1]
    exact fin (stay 0 (.inl ⟨.inl q0, rfl⟩))
  · simp (disch := omega) only [go_sem, ↓cw_block, dsB_of, newPtr, y0, y1]
    refine call_to (not_spec (by omega)) ?_
    rintro _ _ ⟨rfl, rfl⟩
    refine held_by (heldOK_one y0) ?_
    by_cases q1 : x = nx y
    · simp (disch := omega) only [go_sem, ↓cw_block, dsB_of, newPtr, y0, y1]
      exact fin (stay 0 (.inl ⟨.inr q1, rfl⟩))
    · by_cases q2 : x = 1
      · simp (disch := omega) only [go_sem, ↓cw_block, dsB_of, newPtr, y0, y1]
        exact fin (stay y (.inr (.inl ⟨.inl q2, rfl⟩)))
      · by_cases q3 : x = y
        · simp (disch := omega) only [go_sem, ↓cw_block, dsB_of, newPtr, y0, y1]
          exact fin (stay y (.inr (.inl ⟨.inr q3, rfl⟩)))
        · simp (disch := omega) only [go_sem, ↓cw_block, dsB_of, newPtr, y0, y1]
          have c2 := h1.c2
          have lq := look_pairs (P := Tryz.prog) Tryz.underlying50 pairT T.zero3 h1.mp ((x : Int), (y : Int))
          simp only at lq
          refine draw0 (lk [(0, true), (1, true), (2, true), (3, true), (4, true), (5, true), (6, true), (7, true), (8, true), (9, true), (10, true)] .fin) T.mixed ?_
          cases hp : pget (kn.map prk) ((x : Int), (y : Int)) with
          | some n =>
            rw [hp] at lq
            obtain ⟨m, hm1, hm0, hm2⟩ : ∃ m : Nat, n = m ∧ 0 < m ∧ ns[m]? = some (x, y) := by
              unfold pget at hp
              simp only [Option.map_eq_some_iff] at hp
              obtain ⟨q, hq, rfl⟩ := hp
              have := List.mem_of_find?_eq_some hq
              have hqe := List.find?_some hq
              rw [List.mem_map] at this
              obtain ⟨q', hq', rfl⟩ := this
              have hk := hw.kn q' hq'
              refine ⟨q'.2, rfl, hk.1, ?_⟩
              simp only [beq_iff_eq, Prod.mk.injEq] at hqe
              rw [hk.2]
              congr 1
              exact Prod.ext (by omega) (by omega)
            have hml := (List.getElem?_eq_some_iff.1 hm2).1
            subst hm1
            have hbig := hw.big
            have em : 2 * (m : Int) = ((2 * m : Nat) : Int) := by omega
            simp (disch := omega) only [go_sem, ↓cw_block, dsB_of, newPtr, y0, y1, c2, cellsH, lq, Option.map_some, Option.getD_some, Option.isSome_some, em]
            exact fin (stay (2 * m) (.inr (.inr ⟨m, ⟨hm0, by omega, by omega⟩, hm2, rfl⟩)))
          | none =>
            rw [hp] at lq
            simp (disch := omega) only [go_sem, ↓cw_block, dsB_of, newPtr, y0, y1, c2, cellsH, lq, Option.map_none, Option.getD_none, Option.isSome_none]
            refine call_to (add_spec h1 hl (a := x) (b := y)) ?_
            rintro _ H2 ⟨rfl, nv2, h2, f2, g2⟩
            have hs1 : H.size ∉ gB g mr nv nw := fun e => by have := hlt _ e; omega
            have z0 := f2.cell' y0 hs1
            have z1 := f2.cell' y1 hs1
            have c2' := h2.c2
            have em : 2 * (ns.length : Int) = ((2 * ns.length : Nat) : Int) := by omega
            simp (disch := omega) only [go_sem, ↓cw_block, dsB_of, newPtr]
            refine draw0 (lk [(0, true), (1, true), (2, true), (3, true), (4, true), (5, true)] (.act 6 .fin .non)) T.mixed ?_
            simp (disch := omega) only [go_sem, ↓cw_block, dsB_of, newPtr, z0, z1, c2', cellsH]
            refine put_pairs (n := ((x : Int), (y : Int))) Tryz.underlying50 pairT h2.mp hp ?_
            intro H3 m3 f3
            simp (disch := omega) only [go_sem, ↓cw_block, dsB_of, em]
            have hne := h2.s4
            refine fin ⟨2 * ns.length, ns ++ [(x, y)], rfl, .inr ⟨rfl, rfl, by omega, by omega, q1⟩, gB g mr nv2 nw, ⟨mr, nv2, nw, kn ++ [((x, y), ns.length)], ⟨f3.blk h2.self (by simp; exact hne.2.2.symm), h2.vn.frame f3 ?_, h2.vi.frame f3 ?_, ?_, h2.s1, h2.s2, h2.s3, h2.s4⟩, ?_, rfl⟩, ?_, ?_⟩
            · intro b hb e; simp at e; subst e; exact hne.1 hb
            · intro b hb e; simp at e; subst e; exact hne.2.1 hb
            · simpa using m3
            · have hw2 := hw.add hl (p := (x, y)) (.inr ⟨fun e => q0 (congrArg Prod.fst e), hxl, hyl⟩)
              refine ⟨hw2.pos, hw2.big, hw2.nd, hw2.inp, hw2.nod, fun z hz => ?_, hw2.il⟩
              rw [List.mem_append] at hz
              rcases hz with hz | hz
              · exact hw2.kn z hz
              · simp at hz; subst hz; exact ⟨hpos, by simp⟩
            · exact ((f1.mono (by simp)).trans f2).trans (f3.mono (fun b _ hb => by simp at hb; simp [gB, hb]))
            · intro b hb
              have hs := f1.size
              simp only [gB, List.mem_cons, List.mem_append] at hb ⊢
              rcases hb with hb | hb | hb | hb
              · exact .inl (.inl hb)
              · exact .inl (.inr (.inl hb))
              · exact (g2 b hb).elim (fun h => .inl (.inr (.inr (.inl h)))) (fun h => .inr (by omega))
              · exact .inl (.inr (.inr (.inr hb)))
end
end Go.Proofs.YtofooamimiijlaaGreat

namespace Go.Proofs.YtofooamimiijlaaGreat
open Go.HL
set_option maxRecDepth 10000
set_option linter.unusedSimpArgs false

/-- At most k nodes more. -/
def Pre (ns ns' : List Pr) (k : Nat) : Prop := ∃ t, ns' = ns ++ t ∧ t.length ≤ k
theorem Pre.refl {ns : List Pr} {k : Nat} : Pre ns ns k := ⟨[], by simp, by simp⟩
theorem Pre.trans {ns ns' ns'' : List Pr} {j k m : Nat} (h : Pre ns ns' j) (h' : Pre ns' ns'' k) (hm : j + k ≤ m) : Pre ns ns'' m := by
  obtain ⟨t, rfl, ht⟩ := h
  obtain ⟨u, rfl, hu⟩ := h'
  exact ⟨t ++ u, by simp, by simp; omega⟩
theorem Pre.len {ns ns' : List Pr} {k : Nat} (h : Pre ns ns' k) : ns.length ≤ ns'.length ∧ ns'.length ≤ ns.length + k := by
  obtain ⟨t, rfl, ht⟩ := h
  simp; omega
theorem GP.trans {H H1 H2 : Heap} {g : Nat} {B : List Nat} {ns ns' : List Pr} {ins ins' : List Nat} (h : ∃ B1, Gr H1 g B1 ns ins ∧ Fr B H H1 ∧ Grow B B1 H) (h' : ∀ B1, Gr H1 g B1 ns ins → GP H1 H2 g B1 ns' ins') : GP H H2 g B ns' ins' := by
  obtain ⟨B1, h1, f1, g1⟩ := h
  obtain ⟨B2, h2, f2, g2⟩ := h' B1 h1
  exact ⟨B2, h2, Fr.grow f1 f2 g1, g1.trans g2 f1.size⟩
theorem nx_lt {e n : Nat} (h : e < 2 * n) : nx e < 2 * n := by unfold nx; split <;> omega
theorem fr_new' {F : List Nat} {H Ha Hb : Heap} (g1 : Fr [] H Ha) (g2 : Fr F Ha Hb) (hF : ∀ b ∈ F, H.size ≤ b) : Fr [] H Hb := by
  refine ⟨Nat.le_trans g1.size g2.size, fun b hb _ => ?_⟩
  rw [g2.same b (Nat.lt_of_lt_of_le hb g1.size) (fun h => by have := hF b h; omega)]
  exact g1.same b hb (by simp)
section
variable {H : Heap} {g : Nat} {ns : List Pr} {ins : List Nat} {B : List Nat}
theorem Gr.w (h : Gr H g B ns ins) : 0 < ns.length ∧ ns.length ≤ 200000 ∧ (∀ (i : Nat) p, ns[i]? = some p → p = (0, 0) ∨ (p ≠ (0, 0) ∧ p.1 < 2 * i ∧ p.2 < 2 * i)) ∧ (∀ n ∈ ins, 0 < n ∧ ns[n]? = some (0, 0)) ∧ ins.Nodup ∧ ins.length ≤ ns.length := by
  obtain ⟨mr, nv, nw, kn, h, hw, rfl⟩ := h
  exact ⟨hw.pos, hw.big, hw.nd, hw.inp, hw.nod, hw.il⟩
/-- What an operation on a graph answers. -/
def GO (H : Heap) (g : Nat) (B : List Nat) (ns : List Pr) (ins : List Nat) (k : Nat) (r : Value) (H' : Heap) : Prop := ∃ (e : Nat) (ns' : List Pr), r = iv e ∧ e < 2 * ns'.length ∧ Pre ns ns' k ∧ GP H H' g B ns' ins
theorem and_spec' (h : Gr H g B ns ins) (hl : ns.length < 200000) {a b : Int} (ha : a ≤ 9223372036854775807) (hb : b ≤ 9223372036854775807) :
    CallF Tryz.prog 22 [hp g, iv a, iv b] H (GO H g B ns ins 1) NoP := by
  refine (and_spec h hl ha hb).to ?_
  rintro _ H' ⟨e, ns', rfl, hR, hg⟩
  have oa := ownM_lt h.w.1 a
  have ob := ownM_lt h.w.1 b
  obtain ⟨he, hp⟩ := hR.lt (by omega) h.w.1
  refine ⟨e, ns', rfl, he, ?_, hg⟩
  rcases hp with rfl | ⟨p, rfl⟩
  · exact Pre.refl
  · exact ⟨[p], rfl, by simp⟩
theorem or_spec (h : Gr H g B ns ins) (hl : ns.length < 200000) {a b : Int} (ha : a ≤ 9223372036854775807) (hb : b ≤ 9223372036854775807) :
    CallF Tryz.prog 47 [hp g, iv a, iv b] H (GO H g B ns ins 1) NoP := by
  have oa := ownM_lt h.w.1 a
  have ob := ownM_lt h.w.1 b
  have na := nx_lt oa
  have nb := nx_lt ob
  refine callF_of Tryz.func47 rfl Tryz.ntmps47 Tryz.results47 (by decide) rfl ?_
  simp (disch := omega) only [go_sem, ↓cw_block, dsB_of]
  refine call_to (own_spec h ha) ?_
  rintro _ _ ⟨rfl, rfl⟩
  simp (disch := omega) only [go_sem, ↓cw_block, dsB_of]
  refine call_to (not_spec (by omega)) ?_
  rintro _ _ ⟨rfl, rfl⟩
  simp (disch := omega) only [go_sem, ↓cw_block, dsB_of]
  refine call_to (own_spec h hb) ?_
  rintro _ _ ⟨rfl, rfl⟩
  simp (disch := omega) only [go_sem, ↓cw_block, dsB_of]
  refine call_to (not_spec (by omega)) ?_
  rintro _ _ ⟨rfl, rfl⟩
  simp (disch := omega) only [go_sem, ↓cw_block, dsB_of]
  refine call_to (and_spec' h hl (by omega) (by omega)) ?_
  rintro _ H1 ⟨e, ns1, rfl, he, hpre, hg⟩
  have := hpre.len
  simp (disch := omega) only [go_sem, ↓cw_block, dsB_of]
  refine call_to (not_spec (by omega)) ?_
  rintro _ _ ⟨rfl, rfl⟩
  simp (disch := omega) only [go_sem, ↓cw_block, dsB_of]
  exact fin ⟨nx e, ns1, rfl, nx_lt he, hpre, hg⟩
theorem xor_spec (h : Gr H g B ns ins) (hl : ns.length + 3 ≤ 200000) {a b : Int} (ha : a ≤ 9223372036854775807) (hb : b ≤ 9223372036854775807) :
    CallF Tryz.prog 27 [hp g, iv a, iv b] H (GO H g B ns ins 3) NoP := by
  have oa := ownM_lt h.w.1 a
  have ob := ownM_lt h.w.1 b
  have na := nx_lt oa
  have nb := nx_lt ob
  refine callF_of Tryz.func27 rfl Tryz.ntmps27 Tryz.results27 (by decide) rfl ?_
  simp (disch := omega) only [go_sem, ↓cw_block, dsB_of]
  refine call_to (own_spec h ha) ?_
  rintro _ _ ⟨rfl, rfl⟩
  simp (disch := omega) only [go_sem, ↓cw_block, dsB_of]
  refine call_to (own_spec h hb) ?_
  rintro _ _ ⟨rfl, rfl⟩
  simp (disch := omega) only [go_sem, ↓cw_block, dsB_of]
  refine call_to (not_spec (by omega)) ?_
  rintro _ _ ⟨rfl, rfl⟩
  simp (disch := omega) only [go_sem, ↓cw_block, dsB_of]
  refine call_to (and_spec' h (by omega) (by omega) (by omega)) ?_
  rintro _ H1 ⟨e1, ns1, rfl, he1, hp1, B1, h1, f1, g1⟩
  have l1 := hp1.len
  simp (disch := omega) only [go_sem, ↓cw_block, dsB_of]
  refine call_to (not_spec (by omega)) ?_
  rintro _ _ ⟨rfl, rfl⟩
  simp (disch := omega) only [go_sem, ↓cw_block, dsB_of]
  refine call_to (and_spec' h1 (by omega) (by omega) (by omega)) ?_
  rintro _ H2 ⟨e2, ns2, rfl, he2, hp2, B2, h2, f2, g2⟩
  have l2 := hp2.len
  simp (disch := omega) only [go_sem, ↓cw_block, dsB_of]
  refine call_to (or_spec h2 (by omega) (by omega) (by omega)) ?_
  rintro _ H3 ⟨e3, ns3, rfl, he3, hp3, hg3⟩
  simp (disch := omega) only [go_sem, ↓cw_block, dsB_of]
  exact fin ⟨e3, ns3, rfl, he3, (hp1.trans hp2 (Nat.le_refl _)).trans hp3 (by omega), GP.trans ⟨B2, h2, Fr.grow f1 f2 g1, g1.trans g2 f1.size⟩ (fun B' hB => by
    obtain ⟨B3, h3, f3, g3⟩ := hg3
    obtain ⟨mr, nv, nw, kn, q1, q2, rfl⟩ := h2
    obtain ⟨mr', nv', nw', kn', q1', q2', rfl⟩ := hB
    have e := q1.self.inj q1'.self
    simp only [List.cons.injEq, Value.map.injEq, Option.some.injEq, and_true] at e
    obtain ⟨rfl, rfl, rfl⟩ := e
    exact ⟨B3, h3, f3, g3⟩)⟩

theorem gnew_spec : CallF Tryz.prog 6 [] H (fun r H' => Fr [] H H' ∧ ∃ g B, r = hp g ∧ Gr H' g B [(0, 0)] [] ∧ ∀ b ∈ B, H.size ≤ b) NoP := by
  have em : mkCells #[iv 0, iv 0] 2 = [iv 0, iv 0].toArray := by apply Array.ext'; simp [mkCells, List.range_succ]
  refine callF_of Tryz.func6 rfl Tryz.ntmps6 Tryz.results6 (by decide) rfl ?_
  simp (disch := omega) only [go_sem, ↓cw_block, dsB_of, em, Array.size_push]
  refine fin ?_
  have hb : Blk (H.push (.cells [iv 0, iv 0].toArray 82)) H.size 82 [iv 0, iv 0] := Blk.new rfl
  have hm := MapR.new (H := H.push (.cells [iv 0, iv 0].toArray 82))
  have e1 : (H.push (.cells [iv 0, iv 0].toArray 82)).size = H.size + 1 := by simp
  have e2 : ((H.push (.cells [iv 0, iv 0].toArray 82)).push (.map #[] 0)).size = H.size + 2 := by simp
  refine ⟨(Fr.push.push').push', H.size + 2, gB (H.size + 2) (H.size + 1) (.slice (some ⟨H.size, 0, none⟩) 1 1) (.slice none 0 0), ?_, ⟨H.size + 1, _, _, [], ⟨?_, ⟨.inr ⟨H.size, 1, 1, [], [], rfl, ?_, rfl, rfl, by omega⟩⟩, Vec.nil, ?_, ?_, ?_, ?_, ?_⟩, ?_, rfl⟩, ?_⟩
  · rfl
  · have := Blk.new (H := (H.push (.cells [iv 0, iv 0].toArray 82)).push (.map #[] 0)) (t := 52) (vs := [.slice (some ⟨H.size, 0, none⟩) 1 1, .slice none 0 0, .map (some (H.push (.cells [iv 0, iv 0].toArray 82)).size)]) rfl
    rw [e2, e1] at this
    exact this
  · exact (hb.push _).push _
  · have := hm.frame (F := []) (Fr.push (o := .cells [.slice (some ⟨H.size, 0, none⟩) 1 1, .slice none 0 0, .map (some (H.push (.cells [iv 0, iv 0].toArray 82)).size)].toArray 52)) (by simp)
    rw [e1] at this
    exact this
  · simp [own]
  · simp [own]
  · simp [own]
  · simp [own]
  · refine ⟨by simp, by simp, fun i p hp => ?_, by simp, by simp, by simp, by simp⟩
    have := (List.getElem?_eq_some_iff.1 hp).1
    have hi : i = 0 := by simp at this; omega
    subst hi
    simp at hp
    exact .inl hp.symm
  · intro b hb
    simp [gB, own] at hb
    omega

theorem ginputs_spec (h : Gr H g B ns ins) : CallF Tryz.prog 41 [hp g] H (fun r H' => Fr [] H H' ∧ IV H' 3 r (ins.map fun n => ((2 * n : Nat) : Int)) ∧ ∀ b ∈ own r, H.size ≤ b) NoP := by
  obtain ⟨mr, nv, nw, kn, h, hw, rfl⟩ := h
  have hil := hw.il
  have hbig := hw.big
  obtain ⟨aw, cw, ew⟩ := h.vi.form
  rw [List.length_map] at ew
  subst ew
  obtain ⟨H1, hH1⟩ : ∃ H1, H1 = H.push (.cells (List.replicate ins.length (iv 0)).toArray 3) := ⟨_, rfl⟩
  have f1 : Fr [] H H1 := by rw [hH1]; exact Fr.push
  have b1 : Blk H1 H.size 3 (List.replicate ins.length (iv 0)) := by rw [hH1]; exact Blk.new rfl
  have c1 := h.c1
  have h1 := h.frame f1 (by simp)
  have d1 := h1.c1
  have hrng : ∀ j, j < ins.length → 0 ≤ nt (ins.map Int.ofNat) j ∧ nt (ins.map Int.ofNat) j < 200000 ∧ 2 * nt (ins.map Int.ofNat) j = nt (ins.map fun n => ((2 * n : Nat) : Int)) j := by
    intro j hj
    have hm := hw.inp ins[j] (List.getElem_mem hj)
    have := (List.getElem?_eq_some_iff.1 hm.2).1
    have e1 : nt (ins.map Int.ofNat) j = (ins[j] : Int) := by unfold nt; simp [hj]
    have e2 : nt (ins.map fun n => ((2 * n : Nat) : Int)) j = ((2 * ins[j] : Nat) : Int) := by unfold nt; simp [hj]
    rw [e1, e2]
    omega
  refine callF_of Tryz.func41 rfl Tryz.ntmps41 Tryz.results41 (by decide) rfl ?_
  simp (disch := omega) only [go_sem, ↓cw_block, dsB_of, c1]
  rw [← hH1]
  simp (disch := omega) only [go_sem, ↓cw_block, dsB_of, d1]
  refine loop_by (fun k ρ H2 => ∃ (i : Nat) (w : Value), k = ins.length - i ∧ i ≤ ins.length ∧ (ρ.get 3 = w ∧ ρ.get 15 = .slice aw ins.length cw ∧ ρ.get 16 = iv ins.length ∧ ρ.get 17 = iv i ∧ ρ.ds = []) ∧ Fr [] H H2 ∧
    IV H2 3 w ((ins.map fun n => ((2 * n : Nat) : Int)).take i) ∧ ∀ b ∈ own w, H.size ≤ b) (k := ins.length) ?_ ?_
  · refine ⟨0, _, rfl, by omega, by simp (disch := omega) only [go_sem, ↓cw_block, dsB_of], f1, ⟨.inr ⟨H.size, 0, ins.length, [], List.replicate ins.length (iv 0), rfl, by simpa using b1, by simp, by simp, by omega⟩⟩, by simp [own]⟩
  · rintro k ρ H2 ⟨i, w, rfl, hi, ⟨r3, r15, r16, r17, rd⟩, f2, hv, ho⟩
    by_cases hin : i < ins.length
    · have hi1 : (i : Int) + 1 = ((i + 1 : Nat) : Int) := by omega
      obtain ⟨bb, oo, cc, ee, hc⟩ := h.vi.at (i := i) (by simpa using hin)
      simp only [Value.slice.injEq] at ee
      obtain ⟨rfl, _, rfl⟩ := ee
      have hc2 := f2.cell' hc (by simp)
      have hr := hrng i hin
      simp (disch := omega) only [go_sem, ↓cw_block, dsB_of, r3, r15, r16, r17, rd, hc2]
      refine app_lit1 T.el26 rfl hv rfl (by simp; omega) ?_
      rintro w3 H3 k1 k2 k3 ⟨a3, c3, e3⟩
      simp (disch := omega) only [go_sem, ↓cw_block, dsB_of, r3, r15, r16, r17, rd]
      refine fin ⟨ins.length - (i + 1), by omega, i + 1, w3, rfl, by omega, by simp (disch := omega) only [go_sem, ↓cw_block, dsB_of, r3, r15, r16, r17, rd, hi1], fr_new' f2 k2 ho, ?_, fun b hb => (k3 b hb).elim (ho b) (fun h => by have := f2.size; omega)⟩
      have : (ins.map fun n => ((2 * n : Nat) : Int)).take (i + 1) = (ins.map fun n => ((2 * n : Nat) : Int)).take i ++ [2 * nt (ins.map Int.ofNat) i] := by
        rw [List.take_add_one, hr.2.2, nt_lt (by simpa using hin)]; rfl
      unfold IV
      rw [this, List.map_append]
      exact k1
    · have : i = ins.length := by omega
      subst this
      rw [List.take_of_length_le (by simp)] at hv
      simp (disch := omega) only [go_sem, ↓cw_block, dsB_of, r3, r15, r16, r17, rd, dsB_of]
      exact fin ⟨f2, hv, ho⟩
end
end Go.Proofs.YtofooamimiijlaaGreat

namespace Go.Proofs.YtofooamimiijlaaGreat
open Go.HL
set_option linter.unusedSimpArgs false

/-- The entries of the map of variables. -/
def kvs (L : List Nat) : List (Int × Int) := L.zipIdx.map fun x => ((x.1 : Int), (x.2 : Int) + 1)
/-- A node's variable; 0: it has none. -/
def varOf (L : List Nat) (n : Nat) : Int := if n ∈ L then (L.idxOf n : Int) + 1 else 0
theorem find_kvs {n : Nat} : ∀ (L : List Nat) (k : Nat), ((L.zipIdx k).map fun x => ((x.1 : Int), (x.2 : Int) + 1)).find? (fun x => x.1 == (n : Int)) = if n ∈ L then some ((n : Int), ((k + L.idxOf n : Nat) : Int) + 1) else none := by
  intro L
  induction L with
  | nil => intro k; simp
  | cons a L ih =>
    intro k
    rw [List.zipIdx_cons, List.map_cons, List.find?_cons]
    by_cases h : a = n
    · subst h; simp
    · have h1 : (((a : Int)) == (n : Int)) = false := by simp; omega
      simp only [h1]
      rw [ih (k + 1)]
      have h2 : ¬ n = a := fun e => h e.symm
      by_cases hm : n ∈ L
      · rw [if_pos hm, if_pos (by simp [hm]), List.idxOf_cons]
        have h3 : (a == n) = false := by simp [h]
        simp only [h3, cond_false]
        congr 2
        omega
      · rw [if_neg hm, if_neg (by simp [hm, h2])]
theorem mget_kvs {L : List Nat} {n : Nat} : mget (kvs L) (n : Int) = if n ∈ L then some (varOf L n) else none := by
  unfold mget kvs
  rw [find_kvs L 0]
  by_cases h : n ∈ L
  · rw [if_pos h, if_pos h]; simp [varOf, h]
  · rw [if_neg h, if_neg h]; rfl
theorem kvs_append {L : List Nat} {n : Nat} : kvs (L ++ [n]) = kvs L ++ [((n : Int), (L.length : Int) + 1)] := by
  simp [kvs, List.zipIdx_append]
theorem kvs_len {L : List Nat} : (kvs L).length = L.length := by simp [kvs]
theorem varOf_none {L : List Nat} {n : Nat} (h : n ∉ L) : varOf L n = 0 := if_neg h
theorem varOf_pos {L : List Nat} {n : Nat} (h : n ∈ L) : 1 ≤ varOf L n ∧ varOf L n ≤ L.length := by
  unfold varOf
  rw [if_pos h]
  have := List.idxOf_lt_length_of_mem h
  omega
theorem varOf_append {L t : List Nat} {n : Nat} (h : n ∈ L) : varOf (L ++ t) n = varOf L n := by
  unfold varOf
  rw [if_pos h, if_pos (by simp [h]), List.idxOf_append, if_pos h]
theorem varOf_last {L : List Nat} {n : Nat} (h : n ∉ L) : varOf (L ++ [n]) n = L.length + 1 := by
  unfold varOf
  rw [if_pos (by simp), List.idxOf_append, if_neg h]
  simp
/-- An edge's literal. -/
def litM (L : List Nat) (e : Nat) : Int := if e % 2 = 1 then - varOf L (e / 2) else varOf L (e / 2)

abbrev MS := List Nat × List (List Int)
/-- A node gets a variable, and its clauses. -/
def giveM (p : Pr) (n : Nat) (s : MS) : MS :=
  let L := s.1 ++ [n]
  (L, if p = (0, 0) then s.2 else s.2 ++ [[-((L.length : Nat) : Int), litM L p.1], [-((L.length : Nat) : Int), litM L p.2], [((L.length : Nat) : Int), - litM L p.1, - litM L p.2]])
def needF (ns : List Pr) : Nat → Nat → MS → MS
  | 0, _, s => s
  | f + 1, n, s => if n ∈ s.1 then s else
      let p := ns.getD n (0, 0)
      if p = (0, 0) then giveM p n s else giveM p n (needF ns f (p.2 / 2) (needF ns f (p.1 / 2) s))
def needM (ns : List Pr) (n : Nat) (s : MS) : MS := needF ns (n + 1) n s
/-- All nodes' ands are of lesser ones. -/
def Dn (ns : List Pr) : Prop := ∀ (i : Nat) p, ns[i]? = some p → p = (0, 0) ∨ (p ≠ (0, 0) ∧ p.1 < 2 * i ∧ p.2 < 2 * i)
theorem Dn.kid {ns : List Pr} (h : Dn ns) (n : Nat) : ns.getD n (0, 0) ≠ (0, 0) → (ns.getD n (0, 0)).1 / 2 < n ∧ (ns.getD n (0, 0)).2 / 2 < n := by
  intro hne
  rw [List.getD_eq_getElem?_getD] at hne ⊢
  cases hp : ns[n]? with
  | none => rw [hp] at hne; simp at hne
  | some p =>
    rw [hp] at hne
    rcases h n p hp with rfl | ⟨_, h1, h2⟩
    · simp at hne
    · simp; omega
theorem needF_fuel {ns : List Pr} (h : Dn ns) : ∀ (f f' n : Nat) (s : MS), n < f → n < f' → needF ns f n s = needF ns f' n s := by
  intro f
  induction f with
  | zero => intro f' n s h1; omega
  | succ f ih =>
    intro f' n s h1 h2
    cases f' with
    | zero => omega
    | succ f' =>
      simp only [needF]
      split
      · rfl
      · split
        · rfl
        · rename_i hne
          have hk := h.kid n hne
          rw [ih f' _ s (by omega) (by omega), ih f' _ _ (by omega) (by omega)]
theorem needM_named {ns : List Pr} {n : Nat} {s : MS} (h : n ∈ s.1) : needM ns n s = s := by
  unfold needM needF; rw [if_pos h]
theorem needM_leaf {ns : List Pr} {n : Nat} {s : MS} (h : n ∉ s.1) (hp : ns.getD n (0, 0) = (0, 0)) : needM ns n s = giveM (0, 0) n s := by
  unfold needM needF; rw [if_neg h]; simp only [hp, if_true]
theorem needM_and {ns : List Pr} (hd : Dn ns) {n : Nat} {s : MS} (h : n ∉ s.1) (hp : ns.getD n (0, 0) ≠ (0, 0)) :
    needM ns n s = giveM (ns.getD n (0, 0)) n (needM ns ((ns.getD n (0, 0)).2 / 2) (needM ns ((ns.getD n (0, 0)).1 / 2) s)) := by
  have hk := hd.kid n hp
  conv => lhs; unfold needM needF
  rw [if_neg h]
  simp only [if_neg hp]
  unfold needM
  rw [needF_fuel hd n ((ns.getD n (0, 0)).1 / 2 + 1) _ s (by omega) (by omega), needF_fuel hd n ((ns.getD n (0, 0)).2 / 2 + 1) _ _ (by omega) (by omega)]
/-- What it does to the list of nodes. -/
theorem needM_list {ns : List Pr} (hd : Dn ns) : ∀ (n : Nat) (s : MS), ∃ t, (needM ns n s).1 = s.1 ++ t ∧ n ∈ (needM ns n s).1 ∧ (∀ x ∈ t, x ≤ n) ∧ (s.1.Nodup → (needM ns n s).1.Nodup) ∧ ∃ k, k ≤ t.length ∧ (needM ns n s).2.length = s.2.length + 3 * k := by
  intro n
  induction n using Nat.strongRecOn with
  | _ n ih =>
    intro s
    by_cases h : n ∈ s.1
    · rw [needM_named h]; exact ⟨[], by simp, h, by simp, id, 0, by simp, by simp⟩
    · by_cases hp : ns.getD n (0, 0) = (0, 0)
      · rw [needM_leaf h hp]
        refine ⟨[n], rfl, by simp [giveM], by simp, fun hn => ?_, 0, by simp, by simp [giveM]⟩
        simp only [giveM]
        rw [List.nodup_append]
        exact ⟨hn, by simp, by intro a ha b hb e; simp at hb; subst hb; subst e; exact h ha⟩
      · rw [needM_and hd h hp]
        have hk := hd.kid n hp
        obtain ⟨t1, a1, b1, c1, d1, k1, j1, e1⟩ := ih _ hk.1 s
        obtain ⟨t2, a2, b2, c2, d2, k2, j2, e2⟩ := ih _ hk.2 (needM ns ((ns.getD n (0, 0)).1 / 2) s)
        have hl : (needM ns ((ns.getD n (0, 0)).2 / 2) (needM ns ((ns.getD n (0, 0)).1 / 2) s)).1 = s.1 ++ (t1 ++ t2) := by rw [a2, a1, List.append_assoc]
        refine ⟨t1 ++ t2 ++ [n], by simp only [giveM]; rw [hl]; simp, by simp [giveM], ?_, fun hn => ?_, k1 + k2 + 1, by simp; omega, ?_⟩
        · intro x hx
          simp only [List.mem_append, List.mem_singleton] at hx
          rcases hx with (hx | hx) | hx
          · have := c1 x hx; omega
          · have := c2 x hx; omega
          · omega
        · simp only [giveM]
          rw [List.nodup_append]
          refine ⟨d2 (d1 hn), by simp, ?_⟩
          intro a ha b hb e
          simp at hb; subst hb; subst e
          rw [hl] at ha
          simp only [List.mem_append] at ha
          rcases ha with ha | ha | ha
          · exact h ha
          · have := c1 a ha; omega
          · have := c2 a ha; omega
        · simp only [giveM, if_neg hp, List.length_append, e2, e1]
          simp; omega
theorem needM_mem {ns : List Pr} (hd : Dn ns) {n x : Nat} {s : MS} (h : x ∈ (needM ns n s).1) : x ∈ s.1 ∨ x ≤ n := by
  obtain ⟨t, a, b, c, d⟩ := needM_list hd n s
  rw [a, List.mem_append] at h
  exact h.imp id (c x)
theorem needM_keep {ns : List Pr} (hd : Dn ns) {n x : Nat} {s : MS} (h : x ∈ s.1) : x ∈ (needM ns n s).1 := by
  obtain ⟨t, a, b, c, d⟩ := needM_list hd n s
  rw [a]; simp [h]
theorem needM_self {ns : List Pr} (hd : Dn ns) {n : Nat} {s : MS} : n ∈ (needM ns n s).1 := by
  obtain ⟨t, a, b, c, d⟩ := needM_list hd n s
  exact b
theorem needM_idem {ns : List Pr} (hd : Dn ns) {n : Nat} {s : MS} : needM ns n (needM ns n s) = needM ns n s := needM_named (needM_self hd)
/-- A kid first. -/
theorem needM_kid1 {ns : List Pr} (hd : Dn ns) {n : Nat} {s : MS} (h : n ∉ s.1) (hp : ns.getD n (0, 0) ≠ (0, 0)) : needM ns n (needM ns ((ns.getD n (0, 0)).1 / 2) s) = needM ns n s := by
  have hk := hd.kid n hp
  have h' : n ∉ (needM ns ((ns.getD n (0, 0)).1 / 2) s).1 := fun e => (needM_mem hd e).elim h (fun e => by omega)
  rw [needM_and hd h' hp, needM_and hd h hp, needM_idem hd]
theorem needM_kid2 {ns : List Pr} (hd : Dn ns) {n : Nat} {s : MS} (h : n ∉ s.1) (hp : ns.getD n (0, 0) ≠ (0, 0)) (h1 : (ns.getD n (0, 0)).1 / 2 ∈ s.1) : needM ns n (needM ns ((ns.getD n (0, 0)).2 / 2) s) = needM ns n s := by
  have hk := hd.kid n hp
  have h' : n ∉ (needM ns ((ns.getD n (0, 0)).2 / 2) s).1 := fun e => (needM_mem hd e).elim h (fun e => by omega)
  rw [needM_and hd h' hp, needM_and hd h hp, needM_named (n := (ns.getD n (0, 0)).1 / 2) (needM_keep hd h1), needM_named h1, needM_idem hd]

/-- A stack, the top first: what is left to be done. -/
def finM (ns : List Pr) : List Nat → MS → MS
  | [], s => s
  | n :: r, s => finM ns r (needM ns n s)
def Stk (N : Nat) : List Nat → Prop
  | [] => True
  | [x] => x < N
  | x :: y :: r => x < y ∧ Stk N (y :: r)
theorem Stk.len {N : Nat} : ∀ {st : List Nat} {x : Nat}, Stk N (x :: st) → (x :: st).length + x ≤ N := by
  intro st
  induction st with
  | nil => intro x h; simp only [Stk] at h; simp; omega
  | cons y st ih =>
    intro x h
    obtain ⟨h1, h2⟩ := h
    have := ih h2
    simp at this ⊢; omega
theorem Stk.tail {N x : Nat} {st : List Nat} (h : Stk N (x :: st)) : Stk N st := by
  cases st with
  | nil => trivial
  | cons y st => exact h.2
theorem Stk.gt {N : Nat} : ∀ {st : List Nat} {x : Nat}, Stk N (x :: st) → ∀ y ∈ st, x < y := by
  intro st
  induction st with
  | nil => intro x _ y hy; simp at hy
  | cons z st ih =>
    intro x h y hy
    obtain ⟨h1, h2⟩ := h
    rcases List.mem_cons.1 hy with rfl | hy
    · exact h1
    · have := ih h2 y hy; omega
def unn (N : Nat) (L : List Nat) : Nat := (List.range N).countP (fun k => decide (k ∉ L))
theorem unn_lt {N n : Nat} {L : List Nat} (hn : n < N) (h : n ∉ L) : unn N (L ++ [n]) < unn N L :=
  countP_lt (i := n) (by simpa using h) (by simp) (fun k hk => by simp at hk ⊢; exact hk.1) (by simpa using hn)
def meas (N : Nat) (st L : List Nat) : Nat := if st = [] then 0 else unn N L * (N + 2) + (N + 1 - st.length)
theorem meas_push {N a t : Nat} {st L : List Nat} (h : Stk N (a :: t :: st)) : meas N (a :: t :: st) L < meas N (t :: st) L := by
  have := h.len
  unfold meas
  simp at this ⊢
  omega
theorem meas_pop {N t : Nat} {st L : List Nat} (h : Stk N (t :: st)) (ht : t < N) (hn : t ∉ L) : meas N st (L ++ [t]) < meas N (t :: st) L := by
  have h1 := unn_lt ht hn
  have h2 := h.len
  have h3 : (unn N (L ++ [t]) + 1) * (N + 2) ≤ unn N L * (N + 2) := Nat.mul_le_mul_right _ h1
  rw [Nat.add_mul] at h3
  unfold meas
  simp at h2 ⊢
  split <;> omega
end Go.Proofs.YtofooamimiijlaaGreat

namespace Go.Proofs.YtofooamimiijlaaGreat
open Go.HL
set_option maxRecDepth 10000
set_option linter.unusedSimpArgs false

theorem nodup_len : ∀ (N : Nat) (L : List Nat), L.Nodup → (∀ x ∈ L, x < N) → L.length ≤ N := by
  intro N
  induction N with
  | zero => intro L _ h; cases L with
    | nil => simp
    | cons a L => exact absurd (h a (by simp)) (by omega)
  | succ N ih =>
    intro L hn h
    have := ih (L.erase N) (hn.erase N) (fun x hx => by
      rw [hn.mem_erase_iff] at hx
      have := h x hx.2
      omega)
    rw [List.length_erase] at this
    split at this <;> omega

/-- A list of clauses in memory; the clauses lie in the blocks C. -/
def CVec (H : Heap) (v : Value) (cs : List (List Int)) (C : List Nat) : Prop := ∃ cvs : List Value, Vec H 26 1 v cvs ∧ cvs.length = cs.length ∧
  ∀ (i : Nat) c, cs[i]? = some c → ∃ b, b ∈ C ∧ cvs[i]? = some (.slice (some ⟨b, 0, none⟩) c.length c.length) ∧ Blk H b 3 (c.map (Value.int .i64))
theorem CVec.frame {H H' : Heap} {v : Value} {cs : List (List Int)} {C F : List Nat} (h : CVec H v cs C) (hf : Fr F H H') (h1 : ∀ b ∈ own v, b ∉ F) (h2 : ∀ b ∈ C, b ∉ F) : CVec H' v cs C := by
  obtain ⟨cvs, a, b, c⟩ := h
  refine ⟨cvs, a.frame hf h1, b, fun i x hx => ?_⟩
  obtain ⟨bb, q1, q2, q3⟩ := c i x hx
  exact ⟨bb, q1, q2, hf.blk q3 (h2 bb q1)⟩
theorem CVec.form {H : Heap} {v : Value} {cs : List (List Int)} {C : List Nat} (h : CVec H v cs C) : ∃ a c, v = .slice a cs.length c := by
  obtain ⟨cvs, a, b, c⟩ := h
  obtain ⟨x, l, y, rfl, hl⟩ := a.len
  exact ⟨x, y, by rw [← b, hl, Nat.mul_one]⟩
structure MM (H : Heap) (m r : Nat) (cv : Value) (g : Nat) (s : MS) (C : List Nat) : Prop where
  self : Blk H m 58 [hp g, .map (some r), cv]
  mp : MapR H r ((kvs s.1).map ivp)
  vc : CVec H cv s.2 C
  s1 : m ∉ own cv
  s2 : r ∉ own cv ∧ r ≠ m
  s3 : ∀ b ∈ C, b ∉ own cv ∧ b ≠ m ∧ b ≠ r
  cl : ∀ b ∈ C, b < H.size
def mB (m r : Nat) (cv : Value) (C : List Nat) : List Nat := m :: r :: (own cv ++ C)
def Mk (H : Heap) (m g : Nat) (B : List Nat) (s : MS) : Prop := ∃ r cv C, MM H m r cv g s C ∧ B = mB m r cv C
section
variable {H : Heap} {m r g : Nat} {cv : Value} {s : MS} {C B : List Nat}
theorem MM.c0 (h : MM H m r cv g s C) : cellH H ⟨m, 0, none⟩ = some (hp g) := h.self.cell 0
theorem MM.c1 (h : MM H m r cv g s C) : cellH H ⟨m, 1, none⟩ = some (.map (some r)) := h.self.cell 1
theorem MM.c2 (h : MM H m r cv g s C) : cellH H ⟨m, 2, none⟩ = some cv := h.self.cell 2
theorem MM.lt (h : MM H m r cv g s C) : ∀ b ∈ mB m r cv C, b < H.size := by
  intro b hb
  simp only [mB, List.mem_cons, List.mem_append] at hb
  rcases hb with rfl | rfl | hb | hb
  · exact h.self.lt
  · exact h.mp.lt
  · obtain ⟨cvs, a, _⟩ := h.vc; exact a.lt b hb
  · exact h.cl b hb
theorem MM.frame {H' : Heap} {F : List Nat} (h : MM H m r cv g s C) (hf : Fr F H H') (hd : ∀ b ∈ mB m r cv C, b ∉ F) : MM H' m r cv g s C :=
  ⟨hf.blk h.self (hd m (by simp [mB])), h.mp.frame hf (hd r (by simp [mB])), h.vc.frame hf (fun b hb => hd b (by simp [mB, hb])) (fun b hb => hd b (by simp [mB, hb])), h.s1, h.s2, h.s3, fun b hb => Nat.lt_of_lt_of_le (h.cl b hb) hf.size⟩
theorem Mk.frame {H' : Heap} {F : List Nat} (h : Mk H m g B s) (hf : Fr F H H') (hd : ∀ b ∈ B, b ∉ F) : Mk H' m g B s := by
  obtain ⟨r, cv, C, h1, rfl⟩ := h
  exact ⟨r, cv, C, h1.frame hf hd, rfl⟩
theorem Mk.lt (h : Mk H m g B s) : ∀ b ∈ B, b < H.size := by
  obtain ⟨r, cv, C, h1, rfl⟩ := h
  exact h1.lt
theorem MM.look (h : MM H m r cv g s C) (n : Nat) : qrun Tryz.prog (Instr.lookup 56 (.map (some r)) (iv n) false) H = some (iv (varOf s.1 n)) := by
  rw [look_ints Tryz.underlying56 Tryz.underlying3 T.zero3 h.mp n false, mget_kvs]
  by_cases hn : n ∈ s.1
  · rw [if_pos hn]; rfl
  · rw [if_neg hn, varOf_none hn]; rfl

theorem varOf_rng {L : List Nat} {n : Nat} : 0 ≤ varOf L n ∧ varOf L n ≤ L.length := by
  by_cases h : n ∈ L
  · have := varOf_pos h; omega
  · rw [varOf_none h]; omega
theorem lit_spec (h : Mk H m g B s) (hL : s.1.length ≤ 1000000) {e : Nat} (he : (e : Int) ≤ 9223372036854775807) : CallF Tryz.prog 31 [hp m, iv e] H (fun v H' => H = H' ∧ v = iv (litM s.1 e)) NoP := by
  obtain ⟨r, cv, C, h, rfl⟩ := h
  have c1 := h.c1
  have lq := h.look (e / 2)
  have e2 : (e : Int) / 2 = ((e / 2 : Nat) : Int) := by omega
  have hv := varOf_rng (L := s.1) (n := e / 2)
  unfold litM
  refine callF_of Tryz.func31 rfl Tryz.ntmps31 Tryz.results31 (by decide) rfl ?_
  by_cases ho : e % 2 = 1
  · rw [if_pos ho]
    simp (disch := omega) only [go_sem, ↓cw_block, dsB_of, c1, e2, lq]
    exact fin ⟨rfl, rfl⟩
  · rw [if_neg ho]
    simp (disch := omega) only [go_sem, ↓cw_block, dsB_of, c1, e2, lq]
    exact fin ⟨rfl, rfl⟩
theorem vars_spec (h : Mk H m g B s) : CallF Tryz.prog 15 [hp m] H (fun v H' => H = H' ∧ v = iv s.1.length) NoP := by
  obtain ⟨r, cv, C, h, rfl⟩ := h
  have c1 := h.c1
  have hl := len_map (P := Tryz.prog) Tryz.underlying56 h.mp
  rw [List.length_map, kvs_len] at hl
  refine callF_of Tryz.func15 rfl Tryz.ntmps15 Tryz.results15 (by decide) rfl ?_
  simp (disch := omega) only [go_sem, ↓cw_block, dsB_of, c1, hl]
  exact fin ⟨rfl, rfl⟩
theorem take_spec (h : Mk H m g B s) : CallF Tryz.prog 16 [hp m] H (fun v H' => ∃ C, CVec H' v s.2 C ∧ (∀ b ∈ own v ++ C, b ∈ B) ∧ Fr B H H' ∧ ∃ B', Mk H' m g B' (s.1, []) ∧ (∀ b ∈ B', b ∈ B) ∧ (∀ b ∈ own v ++ C, b ∉ B')) NoP := by
  obtain ⟨r, cv, C, h, rfl⟩ := h
  have c2 := h.c2
  obtain ⟨a, c, ev⟩ := h.vc.form
  subst ev
  have w := h.self.wr (i := 2) (by simp) (.slice none 0 0)
  have b3 := h.self.set 2 (.slice none 0 0)
  have F : Fr [m] H (setH H ⟨m, 2, none⟩ (.slice none 0 0)) := Fr.set (by simp)
  refine callF_of Tryz.func16 rfl Tryz.ntmps16 Tryz.results16 (by decide) rfl ?_
  simp (disch := omega) only [go_sem, ↓cw_block, dsB_of, c2, w]
  refine fin ⟨C, h.vc.frame F ?_ ?_, ?_, F.mono (fun b _ hb => by simp at hb; simp [mB, hb]), [m, r], ⟨r, .slice none 0 0, [], ⟨b3, h.mp.frame F (by simp; exact h.s2.2), ⟨[], Vec.nil, rfl, by simp⟩, by simp [own], ⟨by simp [own], h.s2.2⟩, by simp, by simp⟩, by simp [mB, own]⟩, by simp [mB], ?_⟩
  · intro b hb e; simp at e; subst e; exact h.s1 hb
  · intro b hb e; simp at e; exact (h.s3 b hb).2.1 e
  · intro b hb; simp only [mB, List.mem_cons]; exact .inr (.inr hb)
  · intro b hb e
    simp only [List.mem_append] at hb
    simp only [List.mem_cons, List.not_mem_nil, or_false] at e
    rcases hb with hb | hb
    · rcases e with rfl | rfl
      · exact h.s1 hb
      · exact h.s2.1 hb
    · have := h.s3 b hb
      omega
theorem name_spec (h : MM H m r cv g s C) (hL : s.1.length ≤ 1000000) {n : Nat} (hn : n ∉ s.1) : CallF Tryz.prog 49 [hp m, iv n] H (fun v H' => v = iv (s.1.length + 1 : Nat) ∧ MM H' m r cv g (s.1 ++ [n], s.2) C ∧ Fr [r] H H') NoP := by
  have c1 := h.c1
  have hl := len_map (P := Tryz.prog) Tryz.underlying56 h.mp
  rw [List.length_map, kvs_len] at hl
  have e1 : (s.1.length : Int) + 1 = ((s.1.length + 1 : Nat) : Int) := by omega
  refine callF_of Tryz.func49 rfl Tryz.ntmps49 Tryz.results49 (by decide) rfl ?_
  simp (disch := omega) only [go_sem, ↓cw_block, dsB_of, c1, hl, e1]
  refine put_ints Tryz.underlying56 Tryz.underlying3 h.mp (by rw [mget_kvs, if_neg hn]) ?_
  intro H2 m2 f2
  simp (disch := omega) only [go_sem, ↓cw_block, dsB_of]
  refine fin ⟨rfl, ⟨f2.blk h.self (by simp; exact h.s2.2.symm), ?_, h.vc.frame f2 ?_ ?_, h.s1, h.s2, h.s3, fun b hb => Nat.lt_of_lt_of_le (h.cl b hb) f2.size⟩, f2⟩
  · rw [kvs_append, List.map_append]
    rw [← e1] at m2
    exact m2
  · intro b hb e; simp at e; subst e; exact h.s2.1 hb
  · intro b hb e; simp at e; exact (h.s3 b hb).2.2 e
end
end Go.Proofs.YtofooamimiijlaaGreat

namespace Go.Proofs.YtofooamimiijlaaGreat
open Go.HL
set_option maxRecDepth 10000
set_option linter.unusedSimpArgs false

theorem Vec.pop1 {H : Heap} {e : Nat} {a : Option Addr} {l c : Nat} {vs : List Value} {u : Value} (h : Vec H e 1 (.slice a l c) (vs ++ [u])) : Vec H e 1 (.slice a vs.length c) vs := by
  rcases h.ex with ⟨e1, e2⟩ | ⟨b, len, cap, pre, rest, e1, hb, hl, hr, hle⟩
  · simp at e2
  · simp only [Value.slice.injEq] at e1
    obtain ⟨rfl, rfl, rfl⟩ := e1
    simp at hl
    refine ⟨.inr ⟨b, vs.length, c, pre, u :: rest, rfl, by simpa using hb, by simp, ?_, by omega⟩⟩
    simp at hr ⊢
    omega
theorem CVec.push3 {H H' : Heap} {v v' : Value} {cs : List (List Int)} {C : List Nat} {b1 b2 b3 : Nat} {x y z : List Int} (h : CVec H v cs C) (hf : Fr (own v) H H') (hC : ∀ b ∈ C, b ∉ own v)
    (hv : ∀ cvs, Vec H 26 1 v cvs → Vec H' 26 1 v' (cvs ++ [.slice (some ⟨b1, 0, none⟩) x.length x.length, .slice (some ⟨b2, 0, none⟩) y.length y.length, .slice (some ⟨b3, 0, none⟩) z.length z.length]))
    (h1 : Blk H' b1 3 (x.map (Value.int .i64))) (h2 : Blk H' b2 3 (y.map (Value.int .i64))) (h3 : Blk H' b3 3 (z.map (Value.int .i64))) : CVec H' v' (cs ++ [x, y, z]) (C ++ [b1, b2, b3]) := by
  obtain ⟨cvs, a, b, c⟩ := h
  refine ⟨_, hv cvs a, by simp [b], fun i q hq => ?_⟩
  rcases Nat.lt_or_ge i cs.length with hi | hi
  · rw [List.getElem?_append_left hi] at hq
    obtain ⟨bb, q1, q2, q3⟩ := c i q hq
    exact ⟨bb, by simp [q1], by rw [List.getElem?_append_left (by omega)]; exact q2, hf.blk q3 (hC bb q1)⟩
  · rw [List.getElem?_append_right hi] at hq
    rw [List.getElem?_append_right (by omega), b]
    obtain ⟨j, hj⟩ : ∃ j, i - cs.length = j := ⟨_, rfl⟩
    rw [hj] at hq ⊢
    match j, hq with
    | 0, hq => simp at hq; subst hq; exact ⟨b1, by simp, rfl, h1⟩
    | 1, hq => simp at hq; subst hq; exact ⟨b2, by simp, rfl, h2⟩
    | 2, hq => simp at hq; subst hq; exact ⟨b3, by simp, rfl, h3⟩
    | j + 3, hq => simp at hq

/-- The clauses of an and are put behind the others. -/
theorem clauses3 {P : Program} {H : Heap} {t e bytes : Nat} {zero cv : Value} {cs : List (List Int)} {C : List Nat} {x y z : List Int} {k : Value → Heap → Prop} (hT : ElT P t 26 1 bytes zero) (hz : zero.cells.size = 1) (he : e = 3) (hv : CVec H cv cs C)
    (hC : ∀ b ∈ C, b ∉ own cv) (hb : bytes ≤ 64) (hlen : cs.length ≤ 1000000000)
    (hk : ∀ v' H', CVec H' v' (cs ++ [x, y, z]) (C ++ [H.size, H.size + 1, H.size + 2]) → Fr (own cv) H H' → (∀ b ∈ own v', b ∈ own cv ∨ H.size + 3 ≤ b) → H.size + 3 ≤ H'.size → (∃ a c, v' = .slice a (cs.length + 3) c) → k v' H') :
    @appB P t t cv (.slice (some ⟨(((H.push (.cells (x.map (Value.int .i64)).toArray e)).push (.cells (y.map (Value.int .i64)).toArray e)).push (.cells (z.map (Value.int .i64)).toArray e)).size, 0, none⟩) 3 3)
      ⟨(((H.push (.cells (x.map (Value.int .i64)).toArray e)).push (.cells (y.map (Value.int .i64)).toArray e)).push (.cells (z.map (Value.int .i64)).toArray e)).push (.cells #[.slice (some ⟨H.size, 0, none⟩) x.length x.length, .slice (some ⟨(H.push (.cells (x.map (Value.int .i64)).toArray e)).size, 0, none⟩) y.length y.length, .slice (some ⟨((H.push (.cells (x.map (Value.int .i64)).toArray e)).push (.cells (y.map (Value.int .i64)).toArray e)).size, 0, none⟩) z.length z.length] 26)⟩ ⟨k⟩ := by
  subst he
  have e1 : (H.push (.cells (x.map (Value.int .i64)).toArray 3)).size = H.size + 1 := by simp
  have e2 : ((H.push (.cells (x.map (Value.int .i64)).toArray 3)).push (.cells (y.map (Value.int .i64)).toArray 3)).size = H.size + 2 := by simp
  have k1 : Blk (((H.push (.cells (x.map (Value.int .i64)).toArray 3)).push (.cells (y.map (Value.int .i64)).toArray 3)).push (.cells (z.map (Value.int .i64)).toArray 3)) H.size 3 (x.map (Value.int .i64)) := ((Blk.new rfl).push _).push _
  have k2 : Blk (((H.push (.cells (x.map (Value.int .i64)).toArray 3)).push (.cells (y.map (Value.int .i64)).toArray 3)).push (.cells (z.map (Value.int .i64)).toArray 3)) (H.size + 1) 3 (y.map (Value.int .i64)) := by
    rw [← e1]; exact (Blk.new rfl).push _
  have k3 : Blk (((H.push (.cells (x.map (Value.int .i64)).toArray 3)).push (.cells (y.map (Value.int .i64)).toArray 3)).push (.cells (z.map (Value.int .i64)).toArray 3)) (H.size + 2) 3 (z.map (Value.int .i64)) := by
    rw [← e2]; exact Blk.new rfl
  rw [e1, e2]
  have f1 : Fr [] H (((H.push (.cells (x.map (Value.int .i64)).toArray 3)).push (.cells (y.map (Value.int .i64)).toArray 3)).push (.cells (z.map (Value.int .i64)).toArray 3)) := (Fr.push.push').push'
  have e3 : (((H.push (.cells (x.map (Value.int .i64)).toArray 3)).push (.cells (y.map (Value.int .i64)).toArray 3)).push (.cells (z.map (Value.int .i64)).toArray 3)).size = H.size + 3 := by simp
  generalize ((H.push (.cells (x.map (Value.int .i64)).toArray 3)).push (.cells (y.map (Value.int .i64)).toArray 3)).push (.cells (z.map (Value.int .i64)).toArray 3) = H1 at k1 k2 k3 f1 e3 ⊢
  obtain ⟨cvs, a, b, c⟩ := hv
  have a1 := a.frame f1 (by simp)
  obtain ⟨xa, xl, xc, ex, hl⟩ := a.len
  refine app_lit (n := 3) (new := [.slice (some ⟨H.size, 0, none⟩) x.length x.length, .slice (some ⟨H.size + 1, 0, none⟩) y.length y.length, .slice (some ⟨H.size + 2, 0, none⟩) z.length z.length]) hT hz a1 (by simp [oneC]) rfl ?_ ?_
  · intro a' l' c' e'
    rw [ex] at e'
    simp only [Value.slice.injEq] at e'
    obtain ⟨_, rfl, _⟩ := e'
    have h1 : xl ≤ 1000000000 := by omega
    have h2 : (2 * (xl + 3) + 200) * (bytes + 1) ≤ (2 * (xl + 3) + 200) * 65 := Nat.mul_le_mul_left _ (by omega)
    omega
  · intro v' H' g1 g2 g3 g4
    have lt1 := a.lt
    have ne1 : ∀ j, j < 3 → H.size + j ∉ own cv := fun j _ e => by have := lt1 _ e; omega
    have s2 := g2.size
    refine hk v' H' ?_ ((f1.mono (by simp)).trans g2) ?_ (by omega) ?_
    · refine CVec.push3 (H := H) (v := cv) ⟨cvs, a, b, c⟩ ((f1.mono (by simp)).trans g2) hC ?_ (g2.blk k1 (ne1 0 (by omega))) (g2.blk k2 (ne1 1 (by omega))) (g2.blk k3 (ne1 2 (by omega)))
      intro cvs' a'
      have : cvs' = cvs := by
        rcases a.ex with ⟨p1, p2⟩ | ⟨b1, l1, q1, pr1, re1, p1, p2, p3, p4, p5⟩
        · rcases a'.ex with ⟨p1', p2'⟩ | ⟨b1', l1', q1', pr1', re1', p1', _⟩
          · rw [p2, p2']
          · rw [p1] at p1'; simp at p1'
        · rcases a'.ex with ⟨p1', p2'⟩ | ⟨b1', l1', q1', pr1', re1', p1', p2', p3', p4', p5'⟩
          · rw [p1'] at p1; simp at p1
          · rw [p1] at p1'
            simp only [Value.slice.injEq, Option.some.injEq, Addr.mk.injEq] at p1'
            obtain ⟨⟨rfl, e4, _⟩, rfl, rfl⟩ := p1'
            have := (p2.inj p2').1
            rw [List.append_assoc, List.append_assoc] at this
            have h5 := List.append_inj this e4
            exact (List.append_inj h5.2 (by omega)).1.symm
      subst this
      exact g1
    · intro b hb
      exact (g3 b hb).imp id (fun h => by omega)
    · obtain ⟨a', c', e'⟩ := g4 _ _ _ ex
      exact ⟨a', c', by rw [e', ← b, hl, Nat.mul_one]⟩
end Go.Proofs.YtofooamimiijlaaGreat

