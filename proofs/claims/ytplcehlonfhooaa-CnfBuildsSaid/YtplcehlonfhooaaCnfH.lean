/- Graphs that grow. -/
import Derived.Test.YtplcehlonfhooaaCnfG
namespace Go.Proofs.Ytplcehlonfhooaa
open Go.HL
set_option maxRecDepth 10000
set_option linter.unusedSimpArgs false

def Grow (B B' : List Nat) (H : Heap) : Prop := ∀ b ∈ B', b ∈ B ∨ H.size ≤ b
theorem Grow.refl {B : List Nat} {H : Heap} : Grow B B H := fun _ h => .inl h
theorem Grow.trans {B B' B'' : List Nat} {H H' : Heap} (h : Grow B B' H) (h' : Grow B' B'' H') (hs : H.size ≤ H'.size) : Grow B B'' H :=
  fun b hb => (h' b hb).elim (fun h1 => h b h1) (fun h1 => .inr (by omega))
/-- What grew out of a block's own blocks differs in these alone. -/
theorem Fr.grow {B B' : List Nat} {H H' H'' : Heap} (h : Fr B H H') (h' : Fr B' H' H'') (hg : Grow B B' H) : Fr B H H'' := by
  refine ⟨Nat.le_trans h.size h'.size, fun b hb hF => ?_⟩
  rw [h'.same b (Nat.lt_of_lt_of_le hb h.size) (fun e => (hg b e).elim hF (fun e => by omega))]
  exact h.same b hb hF
/-- A graph, grown. -/
def GP (H H' : Heap) (g : Nat) (B : List Nat) (ns : List Pr) (ins : List Nat) : Prop := ∃ B', Gr H' g B' ns ins ∧ Fr B H H' ∧ Grow B B' H
theorem GP.refl {H : Heap} {g : Nat} {B : List Nat} {ns : List Pr} {ins : List Nat} (h : Gr H g B ns ins) : GP H H g B ns ins := ⟨B, h, Fr.refl _ _, Grow.refl⟩

theorem pairT : PairT Try.prog 63 := ⟨⟨_, _, _, _, Try.underlying63, by decide, by decide, rfl, rfl, rfl, rfl, Try.underlying3, Try.underlying3⟩, by kernel_rfl⟩

section
variable {H : Heap} {g : Nat} {ns : List Pr} {ins : List Nat} {B : List Nat}
theorem GW.add {kn : List (Pr × Nat)} (h : GW ns ins kn) (hl : ns.length < 200000) {p : Pr} (hp : p = (0, 0) ∨ (p ≠ (0, 0) ∧ p.1 < 2 * ns.length ∧ p.2 < 2 * ns.length)) : GW (ns ++ [p]) ins kn := by
  refine ⟨by simp, by simp; omega, fun i q hq => ?_, fun n hn => ?_, h.nod, fun x hx => ?_, by have := h.il; simp; omega⟩
  · rcases Nat.lt_or_ge i ns.length with hi | hi
    · rw [List.getElem?_append_left hi] at hq; exact h.nd i q hq
    · have hlt := (List.getElem?_eq_some_iff.1 hq).1
      have : i = ns.length := by simp at hlt; omega
      subst this
      simp at hq; subst hq
      exact hp
  · obtain ⟨h1, h2⟩ := h.inp n hn
    refine ⟨h1, ?_⟩
    rw [List.getElem?_append_left (List.getElem?_eq_some_iff.1 h2).1]; exact h2
  · have := h.kn x hx
    exact ⟨this.1, by rw [List.getElem?_append_left (List.getElem?_eq_some_iff.1 this.2).1]; exact this.2⟩

theorem input_spec (h : Gr H g B ns ins) (hl : ns.length < 200000) : CallF Try.prog 26 [hp g] H (fun r H' => r = iv ((2 * ns.length : Nat) : Int) ∧ GP H H' g B (ns ++ [(0, 0)]) (ins ++ [ns.length])) NoP := by
  obtain ⟨mr, nv, nw, kn, h, hw, rfl⟩ := h
  have hpos := hw.pos
  have hil := hw.il
  refine callF_of Try.func26 rfl Try.ntmps26 Try.results26 (by decide) rfl ?_
  simp (disch := omega) only [go_sem, ↓cw_block]
  refine call_to (add_spec h hl (a := 0) (b := 0)) ?_
  rintro _ H1 ⟨rfl, nv1, h1, f1, g1⟩
  obtain ⟨aw, cw, ew⟩ := h1.vi.form
  subst ew
  have c1 := h1.c1
  have e2 : 2 * (ns.length : Int) = ((2 * ns.length : Nat) : Int) := by omega
  simp (disch := omega) only [go_sem, ↓cw_block, c1]
  refine app_lit1 T.el26 rfl h1.vi rfl (by simp; omega) ?_
  rintro v2 H2 k1 k2 k3 ⟨a2, c2, rfl⟩
  have b2 := k2.blk h1.self h1.s2
  have w2 := b2.wr (i := 1) (by simp) (.slice a2 ((ins.map Int.ofNat).map (Value.int .i64)).length.succ c2)
  have b3 := b2.set 1 (.slice a2 ((ins.map Int.ofNat).map (Value.int .i64)).length.succ c2)
  have F3 : Fr [g] H2 (setH H2 ⟨g, 1, none⟩ (.slice a2 ((ins.map Int.ofNat).map (Value.int .i64)).length.succ c2)) := Fr.set (by simp)
  have hg1 := h1.self.lt
  have hm1 := h1.mp.lt
  have q1 : g ∉ own (Value.slice a2 ((ins.map Int.ofNat).map (Value.int .i64)).length.succ c2) := fun e => (k3 _ e).elim h1.s2 (fun e => by omega)
  have q2 : mr ∉ own (Value.slice a2 ((ins.map Int.ofNat).map (Value.int .i64)).length.succ c2) := fun e => (k3 _ e).elim h1.s4.2.1 (fun e => by omega)
  have q3 : ∀ b ∈ own nv1, b ∉ own (Value.slice a2 ((ins.map Int.ofNat).map (Value.int .i64)).length.succ c2) := fun b hb e => (k3 _ e).elim (h1.s3 b hb) (fun e => by have := h1.vn.lt b hb; omega)
  simp (disch := omega) only [go_sem, ↓cw_block, w2, e2]
  refine fin ⟨rfl, gB g mr nv1 _, ⟨mr, nv1, _, kn, ⟨b3, ?_, ?_, ?_, h1.s1, q1, q3, h1.s4.1, q2, h1.s4.2.2⟩, ?_, rfl⟩, ?_, ?_⟩
  · exact (h1.vn.frame k2 h1.s3).frame F3 (by intro x hx e; simp at e; subst e; exact h1.s1 hx)
  · unfold IV
    rw [List.map_append, List.map_append]
    exact k1.frame F3 (by intro x hx e; simp at e; subst e; exact q1 hx)
  · exact (h1.mp.frame k2 h1.s4.2.1).frame F3 (by simp; exact h1.s4.2.2)
  · have hw1 := hw.add hl (p := (0, 0)) (.inl rfl)
    refine ⟨hw1.pos, hw1.big, hw1.nd, fun n hn => ?_, ?_, hw1.kn, by simp; omega⟩
    · rw [List.mem_append] at hn
      rcases hn with hn | hn
      · exact hw1.inp n hn
      · simp at hn; subst hn; exact ⟨hpos, by simp⟩
    · rw [List.nodup_append]
      refine ⟨hw.nod, by simp, ?_⟩
      intro x hx y hy e
      simp at hy; subst hy
      have := (List.getElem?_eq_some_iff.1 (hw.inp x hx).2).1
      omega
  · refine (f1.trans ((k2.mono (G := gB g mr nv (.slice aw (ins.map Int.ofNat).length cw)) ?_).trans (F3.mono (fun b _ hb => by simp at hb; simp [gB, hb]))))
    intro b _ hb
    simp only [gB, List.mem_cons, List.mem_append]
    exact .inr (.inr (.inr hb))
  · intro b hb
    simp only [gB, List.mem_cons, List.mem_append] at hb ⊢
    have hs := f1.size
    rcases hb with hb | hb | hb | hb
    · exact .inl (.inl hb)
    · exact .inl (.inr (.inl hb))
    · exact (g1 b hb).elim (fun h => .inl (.inr (.inr (.inl h)))) .inr
    · exact (k3 b hb).elim (fun h => .inl (.inr (.inr (.inr h)))) (fun h => .inr (by omega))

/-- What an and answers: an edge that is there already, or a new node. -/
def AndR (ns ns' : List Pr) (x y e : Nat) : Prop := (ns' = ns ∧ ((x = 0 ∨ x = nx y) ∧ e = 0 ∨ (x = 1 ∨ x = y) ∧ e = y ∨ ∃ n, 0 < n ∧ ns[n]? = some (x, y) ∧ e = 2 * n)) ∨ (ns' = ns ++ [(x, y)] ∧ e = 2 * ns.length ∧ 2 ≤ x ∧ x < y)
theorem AndR.lt {ns ns' : List Pr} {x y e : Nat} (h : AndR ns ns' x y e) (hy : y < 2 * ns.length) (hp : 0 < ns.length) : e < 2 * ns'.length ∧ (ns' = ns ∨ ∃ p, ns' = ns ++ [p]) := by
  rcases h with ⟨rfl, ⟨_, rfl⟩ | ⟨_, rfl⟩ | ⟨n, _, hn, rfl⟩⟩ | ⟨rfl, rfl, _⟩
  · exact ⟨by omega, .inl rfl⟩
  · exact ⟨hy, .inl rfl⟩
  · have := (List.getElem?_eq_some_iff.1 hn).1
    exact ⟨by omega, .inl rfl⟩
  · exact ⟨by simp <;> omega, .inr ⟨_, rfl⟩⟩
theorem and_spec (h : Gr H g B ns ins) (hl : ns.length < 200000) {a b : Int} (ha : a ≤ 9223372036854775807) (hb : b ≤ 9223372036854775807) :
    CallF Try.prog 13 [hp g, iv a, iv b] H (fun r H' => ∃ (e : Nat) (ns' : List Pr), r = iv e ∧ AndR ns ns' (min (ownM ns a) (ownM ns b)) (max (ownM ns a) (ownM ns b)) e ∧ GP H H' g B ns' ins) NoP := by
  have hG := h
  obtain ⟨mr, nv, nw, kn, h, hw, rfl⟩ := h
  have hpos := hw.pos
  have oa := ownM_lt (ns := ns) hpos a
  have ob := ownM_lt (ns := ns) hpos b
  obtain ⟨x, hx⟩ : ∃ x, x = min (ownM ns a) (ownM ns b) := ⟨_, rfl⟩
  obtain ⟨y, hy⟩ : ∃ y, y = max (ownM ns a) (ownM ns b) := ⟨_, rfl⟩
  have e1 : min ((ownM ns a : Nat) : Int) ((ownM ns b : Nat) : Int) = (x : Int) := by omega
  have e2 : max ((ownM ns a : Nat) : Int) ((ownM ns b : Nat) : Int) = (y : Int) := by omega
  have hxl : x < 2 * ns.length := by omega
  have hyl : y < 2 * ns.length := by omega
  have hst := store_new (P := Try.prog) (H := H) (t := 63) (z := [iv 0, iv 0]) (vs := [iv x, iv y]) T.size63 rfl (by simp [oneC])
  obtain ⟨H1, hH1⟩ : ∃ H1, H1 = H.push (.cells [iv x, iv y].toArray 63) := ⟨_, rfl⟩
  rw [← hH1] at hst
  have f1 : Fr [] H H1 := by rw [hH1]; exact Fr.push
  have x1 : Blk H1 H.size 63 [iv x, iv y] := by rw [hH1]; exact Blk.new rfl
  have y0 : cellH H1 ⟨H.size, 0, none⟩ = some (iv x) := x1.cell 0
  have y1 : cellH H1 ⟨H.size, 1, none⟩ = some (iv y) := x1.cell 1
  have h1 := h.frame f1 (by simp)
  have hlt := h.lt
  rw [← hx, ← hy]
  have stay : ∀ e : Nat, ((x = 0 ∨ x = nx y) ∧ e = 0 ∨ (x = 1 ∨ x = y) ∧ e = y ∨ ∃ n, 0 < n ∧ ns[n]? = some (x, y) ∧ e = 2 * n) → ∃ (e' : Nat) (ns' : List Pr), iv e = iv e' ∧ AndR ns ns' x y e' ∧ GP H H1 g (gB g mr nv nw) ns' ins :=
    fun e he => ⟨e, ns, rfl, .inl ⟨rfl, he⟩, _, ⟨mr, nv, nw, kn, h1, hw, rfl⟩, f1.mono (by simp), Grow.refl⟩
  refine callF_of Try.func13 rfl Try.ntmps13 Try.results13 (by decide) rfl ?_
  simp (disch := omega) only [go_sem]
  refine call_to (own_spec hG ha) ?_
  rintro _ _ ⟨rfl, rfl⟩
  simp (disch := omega) only [go_sem]
  refine call_to (own_spec hG hb) ?_
  rintro _ _ ⟨rfl, rfl⟩
  simp (disch := omega) only [go_sem]
  refine call_to (own_spec hG ha) ?_
  rintro _ _ ⟨rfl, rfl⟩
  simp (disch := omega) only [go_sem]
  refine call_to (own_spec hG hb) ?_
  rintro _ _ ⟨rfl, rfl⟩
  simp (disch := omega) only [go_sem, ↓cw_block, e1, e2, hst, newPtr]
  refine draw1 (lk [(0, true), (1, true), (2, true), (3, true), (4, false), (5, false), (6, true), (7, true)] (.act 8 (lk [(9, true), (10, true), (11, true)] .fin) .non)) T.mixed [(⟨H.size, 0, none⟩, iv x)] (heldOK_one y0) ?_
  by_cases q0 : x = 0
  · simp (disch := omega) only [go_sem, ↓cw_block, newPtr, y0, y1]
    refine held_by (heldOK_one y0) ?_
    simp (disch := omega) only [go_sem, ↓cw_block, newPtr, y0, y1]
    exact fin (stay 0 (.inl ⟨.inl q0, rfl⟩))
  · simp (disch := omega) only [go_sem, ↓cw_block, newPtr, y0, y1]
    refine call_to (not_spec (by omega)) ?_
    rintro _ _ ⟨rfl, rfl⟩
    refine held_by (heldOK_one y0) ?_
    by_cases q1 : x = nx y
    · simp (disch := omega) only [go_sem, ↓cw_block, newPtr, y0, y1]
      exact fin (stay 0 (.inl ⟨.inr q1, rfl⟩))
    · by_cases q2 : x = 1
      · simp (disch := omega) only [go_sem, ↓cw_block, newPtr, y0, y1]
        exact fin (stay y (.inr (.inl ⟨.inl q2, rfl⟩)))
      · by_cases q3 : x = y
        · simp (disch := omega) only [go_sem, ↓cw_block, newPtr, y0, y1]
          exact fin (stay y (.inr (.inl ⟨.inr q3, rfl⟩)))
        · simp (disch := omega) only [go_sem, ↓cw_block, newPtr, y0, y1]
          have c2 := h1.c2
          have lq := look_pairs (P := Try.prog) Try.underlying66 pairT T.zero3 h1.mp ((x : Int), (y : Int))
          simp only at lq
          refine draw0 (lk [(0, true), (1, true), (2, true), (3, true), (4, true), (5, true), (6, true), (7, true), (8, true), (9, true), (10, true)] .fin) T.mixed ?_
          cases hp : pget (kn.map prk) ((x : Int), (y : Int)) with
          | some n =>
            rw [hp] at lq
            obtain ⟨m, hm1, hm0, hm2⟩ : ∃ m : Nat, n = m ∧ 0 < m ∧ ns[m]? = some (x, y) := by
              unfold pget at hp
              simp only [Option.map_eq_some_iff] at hp
              obtain ⟨q, hq, rfl⟩ := hp
              have := List.mem_of_find?_eq_some hq
              have hqe := List.find?_some hq
              rw [List.mem_map] at this
              obtain ⟨q', hq', rfl⟩ := this
              have hk := hw.kn q' hq'
              refine ⟨q'.2, rfl, hk.1, ?_⟩
              simp only [beq_iff_eq, Prod.mk.injEq] at hqe
              rw [hk.2]
              congr 1
              exact Prod.ext (by omega) (by omega)
            have hml := (List.getElem?_eq_some_iff.1 hm2).1
            subst hm1
            have hbig := hw.big
            have em : 2 * (m : Int) = ((2 * m : Nat) : Int) := by omega
            simp (disch := omega) only [go_sem, ↓cw_block, newPtr, y0, y1, c2, cellsH, lq, Option.map_some, Option.getD_some, Option.isSome_some, em]
            exact fin (stay (2 * m) (.inr (.inr ⟨m, hm0, hm2, rfl⟩)))
          | none =>
            rw [hp] at lq
            simp (disch := omega) only [go_sem, ↓cw_block, newPtr, y0, y1, c2, cellsH, lq, Option.map_none, Option.getD_none, Option.isSome_none]
            refine call_to (add_spec h1 hl (a := x) (b := y)) ?_
            rintro _ H2 ⟨rfl, nv2, h2, f2, g2⟩
            have hs1 : H.size ∉ gB g mr nv nw := fun e => by have := hlt _ e; omega
            have z0 := f2.cell' y0 hs1
            have z1 := f2.cell' y1 hs1
            have c2' := h2.c2
            have em : 2 * (ns.length : Int) = ((2 * ns.length : Nat) : Int) := by omega
            simp (disch := omega) only [go_sem, ↓cw_block, newPtr]
            refine draw0 (lk [(0, true), (1, true), (2, true), (3, true), (4, true), (5, true)] (.act 6 .fin .non)) T.mixed ?_
            simp (disch := omega) only [go_sem, ↓cw_block, newPtr, z0, z1, c2', cellsH]
            refine put_pairs (n := ((x : Int), (y : Int))) Try.underlying66 pairT h2.mp hp ?_
            intro H3 m3 f3
            simp (disch := omega) only [go_sem, ↓cw_block, em]
            have hne := h2.s4
            refine fin ⟨2 * ns.length, ns ++ [(x, y)], rfl, .inr ⟨rfl, rfl, by omega, by omega⟩, gB g mr nv2 nw, ⟨mr, nv2, nw, kn ++ [((x, y), ns.length)], ⟨f3.blk h2.self (by simp; exact hne.2.2.symm), h2.vn.frame f3 ?_, h2.vi.frame f3 ?_, ?_, h2.s1, h2.s2, h2.s3, h2.s4⟩, ?_, rfl⟩, ?_, ?_⟩
            · intro b hb e; simp at e; subst e; exact hne.1 hb
            · intro b hb e; simp at e; subst e; exact hne.2.1 hb
            · simpa using m3
            · have hw2 := hw.add hl (p := (x, y)) (.inr ⟨fun e => q0 (congrArg Prod.fst e), hxl, hyl⟩)
              refine ⟨hw2.pos, hw2.big, hw2.nd, hw2.inp, hw2.nod, fun z hz => ?_, hw2.il⟩
              rw [List.mem_append] at hz
              rcases hz with hz | hz
              · exact hw2.kn z hz
              · simp at hz; subst hz; exact ⟨hpos, by simp⟩
            · exact ((f1.mono (by simp)).trans f2).trans (f3.mono (fun b _ hb => by simp at hb; simp [gB, hb]))
            · intro b hb
              have hs := f1.size
              simp only [gB, List.mem_cons, List.mem_append] at hb ⊢
              rcases hb with hb | hb | hb | hb
              · exact .inl (.inl hb)
              · exact .inl (.inr (.inl hb))
              · exact (g2 b hb).elim (fun h => .inl (.inr (.inr (.inl h)))) (fun h => .inr (by omega))
              · exact .inl (.inr (.inr (.inr hb)))
end
end Go.Proofs.Ytplcehlonfhooaa
