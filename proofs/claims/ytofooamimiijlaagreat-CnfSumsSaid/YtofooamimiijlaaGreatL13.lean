/- The solver's small steps: a literal made true, a level begun, a clause watched. -/
import Derived.Test.YtofooamimiijlaaGreatL12
namespace Go.Proofs.YtofooamimiijlaaGreat
open Go.HL HM Go.Sat
set_option maxRecDepth 10000
set_option linter.unusedSimpArgs false
set_option linter.unusedVariables false

abbrev sp (p : Nat) : Value := .pointer (some ⟨p, 7, none⟩)
theorem bin_xor1 {V : HV} {t : TypeId} {xo yo : Operand} {n : Nat} (h : n < 9223372036854775807) : binV Tryz.prog V .xor t xo yo (iv n) (iv 1) = some (iv (neg n)) := by
  have e : (BitVec.ofInt 64 (n : Int) ^^^ BitVec.ofInt 64 1).toNat = neg n := by
    rw [← neg_xor, BitVec.toNat_xor]
    have a1 : (BitVec.ofInt 64 (n : Int)).toNat = n := by
      rw [BitVec.toNat_ofInt]; omega
    rw [a1]
    rfl
  show some (Value.int .i64 (IntKind.i64.wrap ((BitVec.ofInt 64 (n : Int) ^^^ BitVec.ofInt 64 1).toNat : Nat))) = _
  rw [e, wrap64 (by unfold neg; split <;> omega)]
theorem half (x : Nat) : (x : Int) / 2 = ((x / 2 : Nat) : Int) := by omega
/-- What memory holds fits the search's state. -/
structure Rl (n : Nat) (f : Cf) : Prop where
  vals : f.vals = f.s.vals n
  lv : ∀ (i x : Nat), f.tr[i]? = some x → f.lvls[x / 2]? = some (lev f.st i)
theorem isC_lt {n x : Nat} (h : isC n x) : x < 2 * n + 2 ∧ neg x < 2 * n + 2 ∧ x / 2 < n + 1 ∧ 1 ≤ x / 2 := by
  have h2 := isC_neg h
  unfold isC at h h2; omega
section
variable {H : Heap} {ow : Nat → Nat} {p n : Nat} {k : Bk} {f : Cf}
theorem Rl.val (h : Rl n f) {x : Nat} (hx : x < 2 * n + 2) : f.vals[x]? = some (f.s.val x) := by rw [h.vals]; exact vals_get hx
theorem RM.cval (h : RM H ow p n k f) (hr : Rl n f) {x : Nat} (hx : x < 2 * n + 2) : cellH H ⟨k.bv, x, none⟩ = some (.int .i8 (f.s.val x)) := by
  rw [h.vals.blk.cell, List.getElem?_map, hr.val hx]; rfl
theorem RM.clvl (h : RM H ow p n k f) (hr : Rl n f) {i x : Nat} (hx : f.tr[i]? = some x) : cellH H ⟨k.bl, x / 2, none⟩ = some (iv (lev f.st i : Nat)) := by
  rw [h.lvls.blk.cell]; exact nv_get (hr.lv i x hx)
theorem RM.crea (h : RM H ow p n k f) {v : Nat} (hv : v < n + 1) : cellH H ⟨k.br, v, none⟩ = some (pn (f.rea v)) := by
  rw [h.reas.blk.cell]; simp [hv]
theorem RM.cseen (h : RM H ow p n k f) {v : Nat} (hv : v < n + 1) : cellH H ⟨k.bs, v, none⟩ = some (.bool (bt f.seen v)) := by
  rw [h.seen.blk.cell, List.getElem?_map, bt_lt (by rw [h.ns]; exact hv)]; rfl
theorem RM.clast (h : RM H ow p n k f) {v : Nat} (hv : v < n + 1) : cellH H ⟨k.ba, v, none⟩ = some (.bool (bt f.last v)) := by
  rw [h.last.blk.cell, List.getElem?_map, bt_lt (by rw [h.na]; exact hv)]; rfl
theorem RM.cwat (h : RM H ow p n k f) {x : Nat} (hx : x < 2 * n + 2) : cellH H ⟨k.bw, x, none⟩ = some (f.ws x) := by
  rw [h.wat.blk.cell]; simp [hx]

/-- The solver behind a literal made true. -/
abbrev Cf.push (f : Cf) (x : Nat) (w : Option Nat) (vs : List Int) (lv : List Nat) (la : List Bool) (v : Value) : Cf := ((((f.uVals vs).uLvls lv).uRea (upd f.rea (x / 2) w)).uLast la).uTrail v (f.tr ++ [x])
theorem Rl.push (hr : Rl n f) (hi : Inv n f.s) (hl : f.lvls.length = n + 1) {x : Nat} (hx : isC n x) (h1 : x ∉ f.tr) (h2 : neg x ∉ f.tr) {w : Option Nat} {la : List Bool} {v : Value} :
    Rl n (f.push x w ((f.vals.set x 1).set (neg x) (-1)) (f.lvls.set (x / 2) f.st.length) la v) := by
  refine ⟨?_, fun i y hy => ?_⟩
  · show (f.vals.set x 1).set (neg x) (-1) = (f.s.push x w).vals n
    rw [hr.vals, vals_push hx h1 h2]
  · show (f.lvls.set (x / 2) f.st.length)[y / 2]? = some (lev f.st i)
    have hy' : (f.tr ++ [x])[i]? = some y := hy
    rcases push_at hy' with ⟨ho, _⟩ | ⟨rfl, rfl⟩
    · rw [List.getElem?_set_ne (TrOK.new_var (n := n) h1 h2 ho).symm]
      exact hr.lv i y ho
    · rw [List.getElem?_set_self (by rw [hl]; exact (isC_lt hx).2.2.1)]
      exact congrArg some (lev_end hi).symm
/-- A literal is made true. -/
theorem sSet_spec (h : RM H ow p n k f) (hr : Rl n f) (hi : Inv n f.s) (hn : n ≤ 1000) {x : Nat} (hx : isC n x) (h1 : x ∉ f.tr) (h2 : neg x ∉ f.tr) (hst : f.st.length ≤ 1000000) (w : Option Nat) :
    CallF Tryz.prog 71 [sp p, iv x, pn w] H (fun r H' => r = .tuple #[] ∧ ∃ ow' vs lv la v, RM H' ow' p n k (f.push x w vs lv la v) ∧ Rl n (f.push x w vs lv la v) ∧ Ex H ow H' ow') NoP := by
  obtain ⟨x1, x2, x3, x4⟩ := isC_lt hx
  have hlt : f.tr.length ≤ n := hi.ok.len
  obtain ⟨H1, w1, m1, e1⟩ := h.putVal (x := x) x1 1
  obtain ⟨H2, w2, (m2 : RM H2 ow p n k (f.uVals ((f.vals.set x 1).set (neg x) (-1)))), e2⟩ := m1.putVal (x := neg x) x2 (-1)
  obtain ⟨H3, w3, (m3 : RM H3 ow p n k ((f.uVals ((f.vals.set x 1).set (neg x) (-1))).uLvls (f.lvls.set (x / 2) f.st.length))), e3⟩ := m2.putLvl (x := x / 2) x3 f.st.length
  obtain ⟨H4, w4, (m4 : RM H4 ow p n k (((f.uVals ((f.vals.set x 1).set (neg x) (-1))).uLvls (f.lvls.set (x / 2) f.st.length)).uRea (upd f.rea (x / 2) w))), e4⟩ := m3.putRea (x := x / 2) x3 w
  obtain ⟨H5, w5, (m5 : RM H5 ow p n k ((((f.uVals ((f.vals.set x 1).set (neg x) (-1))).uLvls (f.lvls.set (x / 2) f.st.length)).uRea (upd f.rea (x / 2) w)).uLast (f.last.set (x / 2) (decide ((x : Int) % 2 = 0))))), e5⟩ := m4.putLast (x := x / 2) x3 (decide ((x : Int) % 2 = 0))
  have hl := (e1.trans e2).trans ((e3.trans e4).trans e5)
  obtain ⟨a, cap, es⟩ := h.starts.form
  rw [nv_len] at es
  have c9 : cellH H ⟨p, 9, none⟩ = some (sl k.bv (2 * n + 2)) := h.c 9
  have c10 : cellH H2 ⟨p, 10, none⟩ = some (sl k.bl (n + 1)) := m2.c 10
  have c11 : cellH H2 ⟨p, 11, none⟩ = some (sl k.br (n + 1)) := m2.c 11
  have c15 : cellH H2 ⟨p, 15, none⟩ = some (.slice a f.st.length cap) := by rw [← es]; exact m2.c 15
  have c13 : cellH H4 ⟨p, 13, none⟩ = some (sl k.ba (n + 1)) := m4.c 13
  have c14 : cellH H5 ⟨p, 14, none⟩ = some f.trail := m5.c 14
  have ex := fun V t xo yo => bin_xor1 (V := V) (t := t) (xo := xo) (yo := yo) (n := x) (by omega)
  have hh := half x
  refine callF_of Tryz.func71 rfl Tryz.ntmps71 Tryz.results71 (by decide) rfl ?_
  simp (disch := omega) only [go_sem, ↓cw_block, dsB_of, hh]
  refine draw0 (lk [(0, true), (1, true), (2, true), (3, true), (4, true), (5, true), (6, true), (7, true), (8, true), (9, false), (10, false), (11, true)] (.act 12 (lk [(13, true)] (.actd 14 .fin)) .non)) T.mixed ?_
  simp (disch := omega) only [go_sem, ↓cw_block, dsB_of, c9, ex, w1, w2]
  refine draw0 (lk [(0, true), (1, true), (2, true), (3, true), (4, true), (5, true), (6, true), (7, true), (8, true), (9, false), (10, true), (11, true), (12, true), (13, true), (14, true), (15, false), (16, true)] (.act 17 (lk [(18, true)] (.actd 19 .fin)) .non)) T.mixed ?_
  simp (disch := omega) only [go_sem, ↓cw_block, dsB_of, c10, c11, c15, hh, w3, w4]
  simp (disch := omega) only [go_sem, ↓cw_block, dsB_of, c13, w5, c14]
  refine app_lit1 T.el26 rfl m5.trail.vec rfl (by rw [nv_len]; show (2 * (f.tr.length + 1) + 200) * _ ≤ _; omega) ?_
  intro v' H6 g1 g2 g3 g4
  obtain ⟨a', c', rfl⟩ := g4
  obtain ⟨m6, e6, b6⟩ := m5.appTrail (l := f.tr ++ [x]) (by rw [nv_app]; exact g1) g2 g3
  have w6 := b6.wr (i := 14) (by simp [scells]) (.slice a' ((Go.Proofs.YtofooamimiijlaaGreat.nv f.tr).length + 1) c')
  simp (disch := omega) only [go_sem, ↓cw_block, dsB_of, w6]
  exact fin ⟨rfl, _, _, _, _, _, m6, hr.push hi h.nl hx h1 h2, hl.trans e6⟩

/-- A level begins. -/
theorem sOpen_spec (h : RM H ow p n k f) (ht : f.tr.length ≤ 1000000) (hst : f.st.length ≤ 1000000) :
    CallF Tryz.prog 82 [sp p] H (fun r H' => r = .tuple #[] ∧ ∃ ow' v, RM H' ow' p n k (f.uStarts v (f.st ++ [f.tr.length])) ∧ Ex H ow H' ow') NoP := by
  obtain ⟨a, cap, es⟩ := h.starts.form
  obtain ⟨a2, cap2, es2⟩ := h.trail.form
  rw [nv_len] at es es2
  have c14 : cellH H ⟨p, 14, none⟩ = some (.slice a2 f.tr.length cap2) := by rw [← es2]; exact h.c 14
  have c15 : cellH H ⟨p, 15, none⟩ = some f.starts := h.c 15
  refine callF_of Tryz.func82 rfl Tryz.ntmps82 Tryz.results82 (by decide) rfl ?_
  refine draw1 (lk [(0, false), (1, false), (2, false), (3, false), (4, false), (5, true), (6, true), (7, true), (8, true), (9, true)] (.act 10 (.act 11 (lk [(12, true), (13, true)] (.actd 14 .fin)) .non) .non)) T.mixed [(⟨p, 15, none⟩, f.starts)] (heldOK_one c15) ?_
  simp (disch := omega) only [go_sem, ↓cw_block, dsB_of, c14, c15]
  refine held_by (heldOK_one ((Fr.push (F := [])).cell' c15 (by simp))) ?_
  simp (disch := omega) only [go_sem, ↓cw_block, dsB_of]
  refine app_lit1 T.el26 rfl h.starts.vec rfl (by rw [nv_len]; omega) ?_
  intro v' H6 g1 g2 g3 g4
  obtain ⟨a', c', rfl⟩ := g4
  obtain ⟨m6, e6, b6⟩ := h.appStarts (l := f.st ++ [f.tr.length]) (by rw [nv_app]; exact g1) g2 g3
  have w6 := b6.wr (i := 15) (by simp [scells]) (.slice a' ((Go.Proofs.YtofooamimiijlaaGreat.nv f.st).length + 1) c')
  have d15 : cellH H6 ⟨p, 15, none⟩ = some f.starts := b6.cell 15
  refine held_by (heldOK_one d15) ?_
  simp (disch := omega) only [go_sem, ↓cw_block, dsB_of, w6]
  exact fin ⟨rfl, _, _, m6, e6⟩
end
end Go.Proofs.YtofooamimiijlaaGreat

namespace Go.Proofs.YtofooamimiijlaaGreat
open Go.HL HM Go.Sat
set_option maxRecDepth 10000
set_option linter.unusedSimpArgs false
set_option linter.unusedVariables false

section
variable {H : Heap} {ow : Nat → Nat} {p n : Nat} {k : Bk} {f : Cf}
/-- A literal of a clause in memory. -/
theorem RM.litc (h : RM H ow p n k f) {c lb lo m lc i x : Nat} (hc : c ∈ f.C) (el : f.lb c = .slice (some ⟨lb, lo, none⟩) m lc) (hi : (f.lits c)[i]? = some x) : cellH H ⟨lb, lo + i, none⟩ = some (iv (x : Int)) := by
  obtain ⟨b, o, cap, e, -, hx⟩ := (h.con c hc).lits.cell (nv_get hi)
  rw [el] at e
  simp only [Value.slice.injEq, Option.some.injEq, Addr.mk.injEq, and_true] at e
  obtain ⟨⟨rfl, rfl⟩, -⟩ := e
  exact hx
/-- The form of a clause in memory. -/
theorem RM.litf (h : RM H ow p n k f) {c : Nat} (hc : c ∈ f.C) (hl : 2 ≤ (f.lits c).length) : ∃ lb lo lc, f.lb c = .slice (some ⟨lb, lo, none⟩) (f.lits c).length lc ∧ (f.lits c).length ≤ lc ∧ cellH H ⟨c, 0, none⟩ = some (.slice (some ⟨lb, lo, none⟩) (f.lits c).length lc) := by
  obtain ⟨x, hx⟩ : ∃ x, (f.lits c)[0]? = some x := ⟨_, List.getElem?_eq_getElem (by omega)⟩
  obtain ⟨lb, lo, lc, el, -, -⟩ := (h.con c hc).lits.cell (nv_get hx)
  rw [nv_len] at el
  refine ⟨lb, lo, lc, el, ?_, by rw [← el]; exact (h.con c hc).blk.blk.cell 0⟩
  rcases (h.con c hc).lits.vec.ex with ⟨e, _⟩ | ⟨b', len, cap, pre, rest, e, _, _, _, hle⟩
  · rw [el] at e; cases e
  · rw [el] at e; simp only [Value.slice.injEq] at e; omega
/-- A clause is watched by its first two literals. -/
theorem sAttach_spec (h : RM H ow p n k f) {c a b : Nat} {r : List Nat} (hc : c ∈ f.C) (hl : f.lits c = a :: b :: r) (ha : a < 2 * n + 2) (hb : b < 2 * n + 2) (hab : a ≠ b) (hw : ∀ x, (f.w x).length ≤ 1000000) :
    CallF Tryz.prog 72 [sp p, pv c] H (fun r H' => r = .tuple #[] ∧ ∃ ow' ws, RM H' ow' p n k (f.uWat ws (att f.w c a b)) ∧ Ex H ow H' ow') NoP := by
  have hlen : (f.lits c).length = r.length + 2 := by rw [hl]; rfl
  obtain ⟨lb, lo, lc, el, hcap, d0⟩ := h.litf hc (by omega)
  refine callF_of Tryz.func72 rfl Tryz.ntmps72 Tryz.results72 (by decide) rfl ?_
  simp (disch := omega) only [go_sem, ↓cw_block, dsB_of, d0]
  refine loop_by (fun j ρ H1 => ∃ (i : Nat) (ow1 : Nat → Nat) (ws1 : Nat → Value) (w1 : Nat → List Nat), j = 2 - i ∧ i ≤ 2 ∧
    (ρ.get 0 = sp p ∧ ρ.get 1 = pv c ∧ ρ.get 10 = .slice (some ⟨lb, lo, none⟩) 2 lc ∧ ρ.get 11 = iv ((2 : Nat) : Int) ∧ ρ.get 12 = iv i ∧ ρ.ds = []) ∧
    RM H1 ow1 p n k (f.uWat ws1 w1) ∧ Ex H ow H1 ow1 ∧ w1 = (if i = 0 then f.w else if i = 1 then upd f.w a (f.w a ++ [c]) else att f.w c a b)) (k := 2) ?_ ?_
  · exact ⟨0, ow, f.ws, f.w, rfl, by omega, by simp (disch := omega) only [go_sem, ↓cw_block, dsB_of], h, Ex.refl, rfl⟩
  · rintro _ ρ H1 ⟨i, ow1, ws1, w1, rfl, hi, ⟨r0, r1, r10, r11, r12, rd⟩, m1, e1, hw1⟩
    by_cases h2 : i = 2
    · subst h2
      rw [if_neg (by omega), if_neg (by omega)] at hw1
      subst hw1
      simp (disch := omega) only [go_sem, ↓cw_block, dsB_of, r0, r1, r10, r11, r12, rd, dsB_of]
      exact fin ⟨rfl, _, _, m1, e1⟩
    · obtain ⟨x, hx⟩ : ∃ x, x = if i = 0 then a else b := ⟨_, rfl⟩
      have hxi : (f.lits c)[i]? = some x := by
        rw [hl, hx]
        have : i = 0 ∨ i = 1 := by omega
        rcases this with rfl | rfl <;> rfl
      have hx2 : x < 2 * n + 2 := by rw [hx]; split <;> omega
      have kx := m1.litc (c := c) hc el hxi
      have hi1 : (i : Int) + 1 = ((i + 1 : Nat) : Int) := by omega
      have c8 : cellH H1 ⟨p, 8, none⟩ = some (sl k.bw (2 * n + 2)) := m1.c 8
      have cw : cellH H1 ⟨k.bw, x, none⟩ = some (ws1 x) := m1.cwat hx2
      have hwl : (w1 x).length ≤ 1000000 := by
        rw [hw1]
        have : i = 0 ∨ i = 1 := by omega
        rcases this with rfl | rfl
        · exact hw x
        · rw [if_neg (by omega), if_pos rfl, hx, if_neg (by omega), upd_ne (Ne.symm hab)]; exact hw b
      obtain ⟨hl', hhl⟩ : ∃ hl', hl' = hldL H1 [⟨p, 8, none⟩, ⟨k.bw, x, none⟩] := ⟨_, rfl⟩
      have hok : heldOK hl' H1 := by rw [hhl]; exact hld_ok
      have l0 : lookA hl' ⟨p, 8, none⟩ = some (sl k.bw (2 * n + 2)) := by rw [hhl]; exact hld_at c8 (by simp)
      have l1 : lookA hl' ⟨k.bw, x, none⟩ = some (ws1 x) := by rw [hhl]; exact hld_at cw (by simp)
      have keep : ∀ H2, cellH H2 ⟨p, 8, none⟩ = some (sl k.bw (2 * n + 2)) → cellH H2 ⟨k.bw, x, none⟩ = some (ws1 x) → heldOK hl' H2 := by
        intro H2 q1 q2
        rw [hhl]
        refine hld_to fun ad had v hv => ?_
        simp only [List.mem_cons, List.not_mem_nil, or_false] at had
        rcases had with rfl | rfl
        · rw [q1, ← c8]; exact hv
        · rw [q2, ← cw]; exact hv
      simp (disch := omega) only [go_sem, ↓cw_block, dsB_of, r0, r1, r10, r11, r12, rd, kx]
      refine draw1 (lk [(0, false), (1, false), (2, false), (3, false), (4, false), (5, false), (6, false), (7, false), (8, false), (9, false), (10, false), (11, false), (12, true)] (.act 13 (.act 14 (lk [(15, true)] (.actd 16 .fin)) .non) .non)) T.mixed hl' hok ?_
      simp (disch := omega) only [go_sem, ↓cw_block, dsB_of, r0, r1, r10, r11, r12, rd, l0, l1]
      refine held_by (keep _ ((Fr.push (F := [])).cell' c8 (by simp)) ((Fr.push (F := [])).cell' cw (by simp))) ?_
      simp (disch := omega) only [go_sem, ↓cw_block, dsB_of, r0, r1, r10, r11, r12, rd, l0, l1]
      refine app_lit1 T.el66 rfl (m1.wl x hx2).vec rfl (by rw [List.length_map]; show (2 * ((w1 x).length + 1) + 200) * _ ≤ _; omega) ?_
      intro v' H6 g1 g2 g3 g4
      obtain ⟨a', c', rfl⟩ := g4
      obtain ⟨m6, e6, b6⟩ := m1.appWat (x := x) (l := w1 x ++ [c]) hx2 (by rw [List.map_append]; exact g1) g2 g3
      have hr1 : ow1 p = 1 := m1.self.ow
      have w6 := b6.wr (i := x) (by simpa using hx2) (.slice a' (((w1 x).map pv).length + 1) c')
      have q8 : cellH H6 ⟨p, 8, none⟩ = some (sl k.bw (2 * n + 2)) := g2.cell' c8 (by intro hh; have := (m1.wl x hx2).ow _ hh; simp only at this; omega)
      have qw : cellH H6 ⟨k.bw, x, none⟩ = some (ws1 x) := by rw [b6.cell]; simp [hx2]
      refine held_by (keep _ q8 qw) ?_
      simp (disch := omega) only [go_sem, ↓cw_block, dsB_of, r0, r1, r10, r11, r12, rd, l0, l1, w6]
      refine fin ⟨2 - (i + 1), by omega, i + 1, _, _, _, rfl, by omega, by simp (disch := omega) only [go_sem, ↓cw_block, dsB_of, r0, r1, r10, r11, r12, rd, hi1], m6, e1.trans e6, ?_⟩
      have : i = 0 ∨ i = 1 := by omega
      rcases this with rfl | rfl
      · rw [hw1]; simp only [hx, if_true]; rfl
      · rw [hw1]
        simp only [hx, if_true]
        rw [if_neg (by omega), if_neg (by omega), if_neg (by omega)]
        simp only [upd_ne (Ne.symm hab)]
        rfl
end
end Go.Proofs.YtofooamimiijlaaGreat

namespace Go.Proofs.YtofooamimiijlaaGreat
open Go.HL HM Go.Sat
set_option maxRecDepth 10000
set_option linter.unusedSimpArgs false
set_option linter.unusedVariables false

section
variable {H : Heap} {ow : Nat → Nat} {p n : Nat} {k : Bk} {f : Cf}
/-- A clause watches another literal in place of its second one, if one is not false. -/
theorem sOther_spec (h : RM H ow p n k f) (hr : Rl n f) {c a x : Nat} {r : List Nat} (hc : c ∈ f.C) (hl : f.lits c = a :: x :: r) (hC : ∀ y ∈ f.lits c, y < 2 * n + 2) (hlen : r.length ≤ 1000000) (hw : ∀ y, (f.w y).length ≤ 1000000) :
    CallF Tryz.prog 95 [sp p, pv c] H (fun v H' => (v = .bool false ∧ H' = H ∧ ∀ y ∈ r, f.s.val y < 0) ∨
      (v = .bool true ∧ ∃ (j y : Nat) (ow' : Nat → Nat) (wv : Value), r[j]? = some y ∧ 0 ≤ f.s.val y ∧ RM H' ow' p n k ((f.uLit (upd f.lits c (a :: y :: r.set j x))).uWat (upd f.ws y wv) (upd f.w y (f.w y ++ [c]))) ∧ Ex H ow H' ow')) NoP := by
  have hln : (f.lits c).length = r.length + 2 := by rw [hl]; rfl
  obtain ⟨lb, lo, lc, el, hcap, d0⟩ := h.litf hc (by omega)
  have c9 : cellH H ⟨p, 9, none⟩ = some (sl k.bv (2 * n + 2)) := h.c 9
  have c8 : cellH H ⟨p, 8, none⟩ = some (sl k.bw (2 * n + 2)) := h.c 8
  refine callF_of Tryz.func95 rfl Tryz.ntmps95 Tryz.results95 (by decide) rfl ?_
  simp (disch := omega) only [go_sem, ↓cw_block, dsB_of]
  refine loop_by (fun j ρ H1 => ∃ i : Nat, j = r.length - i ∧ i ≤ r.length ∧ (ρ.get 0 = sp p ∧ ρ.get 1 = pv c ∧ ρ.get 5 = iv ((2 + i : Nat) : Int) ∧ ρ.ds = []) ∧ H1 = H ∧ ∀ j y, j < i → r[j]? = some y → f.s.val y < 0) (k := r.length) ?_ ?_
  · exact ⟨0, rfl, by omega, by simp (disch := omega) only [go_sem, ↓cw_block, dsB_of]; rfl, rfl, fun j y hj => by omega⟩
  · rintro _ ρ H1 ⟨i, rfl, hi, ⟨r0, r1, r5, rd⟩, rfl, hall⟩
    by_cases hi2 : i = r.length
    · simp (disch := omega) only [go_sem, ↓cw_block, dsB_of, r0, r1, r5, rd, d0, dsB_of]
      refine fin (.inl ⟨rfl, rfl, fun y hy => ?_⟩)
      obtain ⟨j, hj⟩ := List.getElem?_of_mem hy
      exact hall j y (by have := (List.getElem?_eq_some_iff.1 hj).1; omega) hj
    · obtain ⟨y, hy⟩ : ∃ y, r[i]? = some y := ⟨_, List.getElem?_eq_getElem (by omega)⟩
      have hyl : (f.lits c)[2 + i]? = some y := by rw [hl, Nat.add_comm]; exact hy
      have hy2 : y < 2 * n + 2 := hC y (List.mem_of_getElem? hyl)
      have ky := h.litc hc el hyl
      have k1 := h.litc hc el (i := 1) (x := x) (by rw [hl]; rfl)
      have cv := h.cval hr hy2
      have hi1 : ((2 + i : Nat) : Int) + 1 = ((2 + (i + 1) : Nat) : Int) := by omega
      by_cases hv : 0 ≤ f.s.val y
      · simp (disch := omega) only [go_sem, ↓cw_block, dsB_of, r0, r1, r5, rd, d0, ky, c9, cv]
        obtain ⟨H1, w1, m1, e1⟩ := h.putLit (x := y) hc el (j := 1) (by omega)
        obtain ⟨H2, w2, m2, e2⟩ := m1.putLit (x := x) (c := c) (b := lb) (o := lo) (cap := lc) (j := 2 + i) hc (by simp only [upd_same]; rw [List.length_set]; exact el) (by simp only [upd_same]; rw [List.length_set]; omega)
        have m2' : RM H2 ow p n k (f.uLit (upd f.lits c (a :: y :: r.set i x))) := by
          have : upd (upd f.lits c ((f.lits c).set 1 y)) c ((upd f.lits c ((f.lits c).set 1 y) c).set (2 + i) x) = upd f.lits c (a :: y :: r.set i x) := by
            funext q
            by_cases hq : q = c
            · subst hq; simp only [upd_same, hl, Nat.add_comm 2 i]; rfl
            · simp only [upd_ne hq]
          rw [← this]; exact m2
        clear m2
        have d8 : cellH H2 ⟨p, 8, none⟩ = some (sl k.bw (2 * n + 2)) := m2'.c 8
        have dw : cellH H2 ⟨k.bw, y, none⟩ = some (f.ws y) := m2'.cwat hy2
        have hwl := hw y
        obtain ⟨hl', hhl⟩ : ∃ hl', hl' = hldL H2 [⟨p, 8, none⟩, ⟨k.bw, y, none⟩] := ⟨_, rfl⟩
        have hok : heldOK hl' H2 := by rw [hhl]; exact hld_ok
        have l0 : lookA hl' ⟨p, 8, none⟩ = some (sl k.bw (2 * n + 2)) := by rw [hhl]; exact hld_at d8 (by simp)
        have l1 : lookA hl' ⟨k.bw, y, none⟩ = some (f.ws y) := by rw [hhl]; exact hld_at dw (by simp)
        have keep : ∀ H3, cellH H3 ⟨p, 8, none⟩ = some (sl k.bw (2 * n + 2)) → cellH H3 ⟨k.bw, y, none⟩ = some (f.ws y) → heldOK hl' H3 := by
          intro H3 q1 q2
          rw [hhl]
          refine hld_to fun ad had v hv => ?_
          simp only [List.mem_cons, List.not_mem_nil, or_false] at had
          rcases had with rfl | rfl
          · rw [q1, ← d8]; exact hv
          · rw [q2, ← dw]; exact hv
        refine draw0 (lk [(0, true), (1, true), (2, true), (3, true), (4, true), (5, true), (6, true), (7, true), (8, false), (9, true), (10, true), (11, true), (12, true), (13, true), (14, true), (15, true), (16, true)] (.act 17 (lk [(18, true)] (.actd 19 .fin)) .non)) T.mixed ?_
        simp (disch := omega) only [go_sem, ↓cw_block, dsB_of, r0, r1, r5, rd, d0, k1, w1, w2]
        refine draw1 (lk [(0, false), (1, false), (2, false), (3, false), (4, false), (5, false), (6, false), (7, false), (8, false), (9, false), (10, false), (11, false), (12, true)] (.act 13 (.act 14 (lk [(15, true)] (.actd 16 .fin)) .non) .non)) T.mixed hl' hok ?_
        simp (disch := omega) only [go_sem, ↓cw_block, dsB_of, r0, r1, r5, rd, l0, l1]
        refine held_by (keep _ ((Fr.push (F := [])).cell' d8 (by simp)) ((Fr.push (F := [])).cell' dw (by simp))) ?_
        simp (disch := omega) only [go_sem, ↓cw_block, dsB_of, r0, r1, r5, rd, l0, l1]
        refine app_lit1 T.el66 rfl (m2'.wl y hy2).vec rfl (by rw [List.length_map]; show (2 * ((f.w y).length + 1) + 200) * _ ≤ _; omega) ?_
        intro v' H6 g1 g2 g3 g4
        obtain ⟨a', c', rfl⟩ := g4
        obtain ⟨m6, e6, b6⟩ := m2'.appWat (x := y) (l := f.w y ++ [c]) hy2 (by rw [List.map_append]; exact g1) g2 g3
        have hr1 : ow p = 1 := h.self.ow
        have w6 := b6.wr (i := y) (by simpa using hy2) (.slice a' (((f.w y).map pv).length + 1) c')
        have q8 : cellH H6 ⟨p, 8, none⟩ = some (sl k.bw (2 * n + 2)) := g2.cell' d8 (by intro hh; have := (m2'.wl y hy2).ow _ hh; simp only at this; omega)
        have qw : cellH H6 ⟨k.bw, y, none⟩ = some (f.ws y) := by rw [b6.cell]; simp [hy2]
        refine held_by (keep _ q8 qw) ?_
        simp (disch := omega) only [go_sem, ↓cw_block, dsB_of, r0, r1, r5, rd, l0, l1, w6, dsB_of]
        exact fin (.inr ⟨rfl, i, y, _, _, hy, hv, m6, (e1.trans e2).trans e6⟩)
      · simp (disch := omega) only [go_sem, ↓cw_block, dsB_of, r0, r1, r5, rd, d0, ky, c9, cv]
        refine fin ⟨r.length - (i + 1), by omega, i + 1, rfl, by omega, by simp (disch := omega) only [go_sem, ↓cw_block, dsB_of, r0, r1, r5, rd, hi1], rfl, fun j z hj hz => ?_⟩
        by_cases hji : j = i
        · subst hji; rw [hy] at hz; have := Option.some.inj hz; subst this; omega
        · exact hall j z (by omega) hz
end
end Go.Proofs.YtofooamimiijlaaGreat

namespace Go.HL
section
variable {n : Nat} {P : Program}
/-- What holds behind a choice, whichever way it went. -/
theorem cond_at {v : Value} {x y : Code} {K : En → Heap → Prop} {Q : Exit → En → Heap → Prop} {ρ : En} {H : Heap} (R : En → Heap → Prop)
    (h : @condB v ⟨cw n P x (seqQ (fun ρ H => @stop ⟨R ρ H⟩) Q) ρ H⟩ ⟨cw n P y (seqQ (fun ρ H => @stop ⟨R ρ H⟩) Q) ρ H⟩) (h2 : ∀ ρ H, R ρ H → K ρ H) :
    @condB v ⟨cw n P x (seqQ K Q) ρ H⟩ ⟨cw n P y (seqQ K Q) ρ H⟩ := by
  unfold condB condW at h ⊢
  split at h
  · exact ⟨fun e => cut_at R (h.1 e) h2, fun e => cut_at R (h.2 e) h2⟩
  · exact h
end
end Go.HL
namespace Go.Sat
theorem sub_len : ∀ {l m : List Nat}, l.Nodup → (∀ x ∈ l, x ∈ m) → l.length ≤ m.length
  | [], m, _, _ => by simp
  | a :: l, m, hd, hs => by
    have hd' := List.nodup_cons.1 hd
    have := sub_len (l := l) (m := m.erase a) hd'.2 (fun x hx => by
      have hne : x ≠ a := fun e => hd'.1 (e ▸ hx)
      exact (List.mem_erase_of_ne hne).2 (hs x (by simp [hx])))
    have ha := hs a (by simp)
    rw [List.length_erase_of_mem ha] at this
    have : 0 < m.length := List.length_pos_of_mem ha
    simp only [List.length_cons]
    omega
theorem WI.len {n : Nat} {s : St} {C : List Nat} {w : Nat → List Nat} (h : WI n s C w) (y : Nat) : (w y).length ≤ C.length := sub_len (h.nd y) fun c hc => (h.w1 y c hc).1
theorem codes_len {n : Nat} {l : List Nat} (h : ∀ y ∈ l, isC n y) (hd : (l.map (· / 2)).Nodup) : l.length ≤ n := TrOK.len ⟨h, hd⟩
end Go.Sat
namespace Go.Proofs.YtofooamimiijlaaGreat
open Go.HL HM Go.Sat
set_option maxRecDepth 10000
set_option linter.unusedSimpArgs false
set_option linter.unusedVariables false

def Cf.key (f : Cf) := (f.C, f.conf, f.lrn, f.ls, f.room, f.rounds, f.loaded, (f.given, f.gs, f.gl), f.seen, f.model, f.core, f.dead, f.step)
def Cf.key2 (f : Cf) := (f.st, f.head, f.m, f.os, f.pl, f.ac)
/-- What a search step leaves as it was. -/
structure Vk (n : Nat) (f f' : Cf) : Prop where
  key : f'.key = f.key
  key2 : f'.key2 = f.key2
  pre : f.tr <+: f'.tr
  num : f.s.N n ≤ f'.s.N n
theorem Vk.refl {n : Nat} {f : Cf} : Vk n f f := ⟨rfl, rfl, List.prefix_refl _, Nat.le_refl _⟩
theorem Vk.trans {n : Nat} {f f' f'' : Cf} (h : Vk n f f') (h' : Vk n f' f'') : Vk n f f'' := ⟨h'.key.trans h.key, h'.key2.trans h.key2, h.pre.trans h'.pre, Nat.le_trans h.num h'.num⟩
theorem Vk.C {n : Nat} {f f' : Cf} (h : Vk n f f') : f'.C = f.C := congrArg (·.1) h.key
theorem Vk.st {n : Nat} {f f' : Cf} (h : Vk n f f') : f'.st = f.st := congrArg (·.1) h.key2
theorem Vk.head {n : Nat} {f f' : Cf} (h : Vk n f f') : f'.head = f.head := congrArg (·.2.1) h.key2
theorem Vk.push {n : Nat} {f : Cf} {x : Nat} {w : Option Nat} {vs : List Int} {lv : List Nat} {la : List Bool} {v : Value} : Vk n f (f.push x w vs lv la v) := ⟨rfl, rfl, List.prefix_append _ _, N_push (s := f.s) (x := x) (w := w)⟩
section
variable {H : Heap} {ow : Nat → Nat} {p n : Nat} {k : Bk} {f : Cf}
/-- The memory of a watch list that is being gone through. -/
theorem RM.wblk (h : RM H ow p n k f) {x : Nat} (hx : x < 2 * n + 2) {b o m cap : Nat} (e : f.ws x = .slice (some ⟨b, o, none⟩) m cap) :
    ∃ pre rest, o = pre.length ∧ Blk H b 95 (pre ++ (f.w x).map pv ++ rest) ∧ m = (f.w x).length ∧ rest.length = cap - m ∧ m ≤ cap ∧ ow b = 100 + 2 * x := by
  have hv := h.wl x hx
  rcases hv.vec.ex with ⟨e', _⟩ | ⟨b', len, cap', pre, rest, e', h1, h2, h3, h4⟩
  · rw [e] at e'; cases e'
  · rw [e] at e'
    simp only [Value.slice.injEq, Option.some.injEq, Addr.mk.injEq, and_true] at e'
    obtain ⟨⟨rfl, rfl⟩, rfl, rfl⟩ := e'
    simp only [List.length_map, Nat.mul_one] at h2 h3
    exact ⟨pre, rest, rfl, h1, h2.symm, h3, h4, hv.ow _ (by rw [e]; simp [own])⟩
/-- A clause is kept: it is laid into the list itself. -/
theorem keep_app (h : RM H ow p n k f) {x : Nat} (hx : x < 2 * n + 2) {b o cap c : Nat} {K L : List Nat} {t bytes : Nat} {z : Value} (hT : ElT Tryz.prog t 95 1 bytes z) (e : f.ws x = .slice (some ⟨b, o, none⟩) L.length cap) (hw : f.w x = K ++ L.drop K.length) (hK : K.length < L.length)
    {Q : Value → Heap → Prop} (hQ : ∀ H', RM H' ow p n k (f.uWat f.ws (upd f.w x (K ++ [c] ++ L.drop (K.length + 1)))) → Ex H ow H' ow → Q (.slice (some ⟨b, o, none⟩) (K.length + 1) cap) H') :
    @appB Tryz.prog t t (.slice (some ⟨b, o, none⟩) K.length cap) (.slice (some ⟨H.size, 0, none⟩) 1 1) ⟨H.push (.cells #[pv c] 95)⟩ ⟨Q⟩ := by
  obtain ⟨pre, rest, rfl, hb, hm, hr, hle, hob⟩ := h.wblk hx e
  have hb1 := hb.push (.cells #[pv c] 95)
  rw [hw, List.map_append, ← List.append_assoc, List.append_assoc] at hb1
  have hx1 : Blk (H.push (.cells #[pv c] 95)) H.size 95 [pv c] := Blk.new rfl
  have hdl : (L.drop K.length).length = L.length - K.length := by simp
  refine app_fit (n := 1) (new := [pv c]) hT hb1 (by simp) (by simp; omega) (by omega) rfl ?_ hT.under (by simp) (by simp [oneC]) rfl ?_
  · show cellsH (cellH _) ⟨H.size, 0, none⟩ 0 1 = some [pv c]
    exact cellsH_at [pv c] 0 0 (fun j hj => by
      have : j = 0 := by simpa using hj
      subst this; exact hx1.cell 0)
  · intro H' hb2 hf
    have hd : ((L.drop K.length).map pv ++ rest).drop (1 * 1) = (L.drop (K.length + 1)).map pv ++ rest := by
      obtain ⟨y, hy⟩ : ∃ y, L.drop K.length = y :: L.drop (K.length + 1) := ⟨_, List.drop_eq_getElem_cons hK⟩
      rw [hy]; rfl
    rw [hd] at hb2
    have e1 : Ex H ow (H.push (.cells #[pv c] 95)) ow := Ex.push
    have hs : Sm ow (fun r => r = 100 + 2 * x) H H' := by
      refine ⟨Nat.le_trans e1.sm.size hf.size, fun q hq hr => ?_⟩
      have hq' : q < (H.push (.cells #[pv c] 95)).size := by simp; omega
      rw [hf.same q hq' (by simp only [List.mem_singleton]; rintro rfl; exact hr hob)]
      exact Fr.push (F := []) |>.same q hq (by simp)
    refine hQ H' (h.chgWat hs ?_) (Ex.of hs (by omega))
    rw [e]
    refine ⟨.inr ⟨b, L.length, cap, pre, rest, rfl, ?_, by simp; omega, by omega, hle⟩⟩
    simpa [List.append_assoc] using hb2
/-- The rest of the list is laid behind what is kept. -/
theorem keep_rest (h : RM H ow p n k f) {x : Nat} (hx : x < 2 * n + 2) {b o cap i : Nat} {K L : List Nat} {t bytes : Nat} {z : Value} {sa : Option Addr} (hT : ElT Tryz.prog t 95 1 bytes z) (e : f.ws x = .slice (some ⟨b, o, none⟩) L.length cap) (hw : f.w x = K ++ L.drop K.length) (hK : K.length ≤ i) (hi : i ≤ L.length)
    (hsa : i < L.length → sa = some ⟨b, o + i, none⟩) (hsz : L.length ≤ 1000000) {Q : Value → Heap → Prop}
    (hQ : ∀ H' l', RM H' ow p n k (f.uWat f.ws (upd f.w x l')) → VR H' ow (100 + 2 * x) 95 1 (.slice (some ⟨b, o, none⟩) (K.length + (L.length - i)) cap) ((K ++ L.drop i).map pv) → Ex H ow H' ow → Q (.slice (some ⟨b, o, none⟩) (K.length + (L.length - i)) cap) H') :
    @appB Tryz.prog t t (.slice (some ⟨b, o, none⟩) K.length cap) (.slice sa (L.length - i) (cap - i)) ⟨H⟩ ⟨Q⟩ := by
  obtain ⟨pre, rest, rfl, hb, hm, hr, hle, hob⟩ := h.wblk hx e
  have hb0 := hb
  rw [hw, List.map_append, ← List.append_assoc, List.append_assoc] at hb
  have hdl : (L.drop K.length).length = L.length - K.length := by simp
  refine app_fit (n := L.length - i) (new := (L.drop i).map pv) hT hb (by simp) (by simp; omega) (by omega) rfl ?_ hT.under (by simp) ?_ (by simp) ?_
  · by_cases hi2 : i < L.length
    · rw [hsa hi2]
      show cellsH (cellH H) ⟨b, pre.length + i, none⟩ 0 ((L.length - i) * 1) = some ((L.drop i).map pv)
      have hln : (L.length - i) * 1 = ((L.drop i).map pv).length := by simp
      rw [hln]
      refine cellsH_at _ _ 0 fun j hj => ?_
      simp only [List.length_map, List.length_drop] at hj
      rw [hb0.cell, Nat.add_zero, Nat.add_assoc, List.append_assoc, List.getElem?_append_right (by omega), List.getElem?_append_left (by rw [List.length_map, hw]; simp; omega)]
      rw [List.getElem?_map, hw, List.getElem?_append_right (by omega), List.getElem?_drop]
      rw [show K.length + (pre.length + (i + j) - pre.length - K.length) = i + j by omega]
      rw [List.getElem?_eq_getElem (by omega)]
      simp
    · have h0 : L.length - i = 0 := by omega
      rw [h0]
      have : (L.drop i).map pv = [] := by
        rw [List.map_eq_nil_iff, List.drop_eq_nil_iff]; omega
      rw [this]
      cases sa <;> rfl
  · intro u hu
    obtain ⟨y, _, rfl⟩ := List.mem_map.1 hu
    rfl
  · intro H' hb2 hf
    have hs : Sm ow (fun r => r = 100 + 2 * x) H H' := Sm.of hf (by intro q hq; simp only [List.mem_singleton] at hq; subst hq; exact hob)
    have hd : ((L.drop K.length).map pv ++ rest).drop ((L.length - i) * 1) = ((L.drop K.length).drop (L.length - i)).map pv ++ rest := by
      rw [Nat.mul_one, List.drop_append_of_le_length (by simp; omega), ← List.map_drop]
    rw [hd] at hb2
    refine hQ H' (K ++ L.drop i ++ (L.drop K.length).drop (L.length - i)) (h.chgWat hs ?_) ⟨?_, ?_⟩ (Ex.of hs (by omega))
    · rw [e]
      refine ⟨.inr ⟨b, L.length, cap, pre, rest, rfl, ?_, by simp; omega, by omega, hle⟩⟩
      simpa [List.append_assoc] using hb2
    · refine ⟨.inr ⟨b, K.length + (L.length - i), cap, pre, ((L.drop K.length).drop (L.length - i)).map pv ++ rest, rfl, ?_, by simp, by simp; omega, by omega⟩⟩
      simpa [List.append_assoc] using hb2
    · intro q hq
      simp only [own, List.mem_singleton] at hq
      subst hq; exact hob
/-- What is no longer watched is cleared behind what is kept. -/
theorem keep_end (h : RM H ow p n k f) {x : Nat} (hx : x < 2 * n + 2) {b o cap : Nat} {K L : List Nat} (e : f.ws x = .slice (some ⟨b, o, none⟩) L.length cap) (hw : f.w x = K ++ L.drop K.length) (hK : K.length ≤ L.length) :
    ∃ H', wrs H ⟨b, o + K.length, none⟩ (List.replicate (L.length - K.length) (.pointer none)) 0 = some H' ∧ Fr (own (f.ws x)) H H' ∧ Vec H' 95 1 (.slice (some ⟨b, o, none⟩) K.length cap) (K.map pv) := by
  obtain ⟨pre, rest, rfl, hb, hm, hr, hle, hob⟩ := h.wblk hx e
  rw [hw, List.map_append, ← List.append_assoc] at hb
  obtain ⟨H', hw', hb2, hf⟩ := wrs_blk (List.replicate (L.length - K.length) (.pointer none)) (pre ++ K.map pv) _ _ H hb (by simp)
  rw [List.length_append, List.length_map] at hw'
  refine ⟨H', hw', by rw [e]; exact hf, ⟨.inr ⟨b, K.length, cap, pre, List.replicate (L.length - K.length) (.pointer none) ++ rest, rfl, ?_, by simp, by simp; omega, by omega⟩⟩⟩
  simpa [List.append_assoc] using hb2
end
end Go.Proofs.YtofooamimiijlaaGreat

namespace Go.Proofs.YtofooamimiijlaaGreat
open Go.HL HM Go.Sat
set_option maxRecDepth 10000
set_option linter.unusedSimpArgs false
set_option linter.unusedVariables false

section
variable {H : Heap} {ow : Nat → Nat} {p n : Nat} {k : Bk} {f : Cf} {G : List (List Nat)}
/-- Within a visit. -/
structure Vs (H0 : Heap) (ow0 : Nat → Nat) (f0 : Cf) (G : List (List Nat)) (x : Nat) (L : List Nat) (H : Heap) (ow : Nat → Nat) (p n : Nat) (k : Bk) (f : Cf) (K D : List Nat) : Prop where
  m : RM H ow p n k f
  r : Rl n f
  e : Ex H0 ow0 H ow
  v : VI n f.s f.C (upd f.w x (K ++ D)) G f.head x K D
  ws : f.ws x = f0.ws x
  w : f.w x = K ++ L.drop K.length
  kl : K.length + D.length ≤ L.length
  vk : Vk n f0 f
variable {H0 : Heap} {ow0 : Nat → Nat} {f0 : Cf} {x c : Nat} {L K D : List Nat}
theorem Vs.lens (h : Vs H0 ow0 f0 G x L H ow p n k f K D) (hL : L.length ≤ f0.C.length) (y : Nat) : (f.w y).length ≤ f0.C.length := by
  have := h.v.wi.len y
  by_cases e : y = x
  · subst e; rw [h.w]; have := h.kl; simp; omega
  · rw [upd_ne e, h.vk.C] at this; exact this
theorem Vs.swap (h : Vs H0 ow0 f0 G x L H ow p n k f K (c :: D)) {H' : Heap} {b : Nat} {r : List Nat} (hl : f.lits c = x :: b :: r) (m' : RM H' ow p n k (f.uLit (upd f.lits c (b :: x :: r)))) (e' : Ex H ow H' ow) :
    Vs H0 ow0 f0 G x L H' ow p n k (f.uLit (upd f.lits c (b :: x :: r))) K (c :: D) :=
  ⟨m', ⟨h.r.vals, h.r.lv⟩, h.e.trans e', h.v.swap hl, h.ws, h.w, h.kl, ⟨h.vk.key, h.vk.key2, h.vk.pre, h.vk.num⟩⟩
theorem upd_upd {α : Type} {g : Nat → α} {x : Nat} {a b : α} : upd (upd g x a) x b = upd g x b := by
  funext q
  by_cases hq : q = x
  · subst hq; rw [upd_same, upd_same]
  · rw [upd_ne hq, upd_ne hq, upd_ne hq]
theorem Vs.other (h : Vs H0 ow0 f0 G x L H ow p n k f K (c :: D)) {H' : Heap} {ow' : Nat → Nat} {a y j : Nat} {r : List Nat} {wv : Value} (hl : f.lits c = a :: x :: r) (ha : a ∉ f.tr) (hy : r[j]? = some y) (hny : neg y ∉ f.tr)
    (m' : RM H' ow' p n k ((f.uLit (upd f.lits c (a :: y :: r.set j x))).uWat (upd f.ws y wv) (upd f.w y (f.w y ++ [c])))) (e' : Ex H ow H' ow') :
    Vs H0 ow0 f0 G x L H' ow' p n k ((f.uLit (upd f.lits c (a :: y :: r.set j x))).uWat (upd f.ws y wv) (upd f.w y (f.w y ++ [c]))) K D := by
  have hv := h.v.other hl ha hy hny
  have hyx : y ≠ x := by
    rintro rfl
    exact hny h.v.neg_mem
  have hw2 : upd (upd (upd f.w x (K ++ c :: D)) x (K ++ D)) y (upd f.w x (K ++ c :: D) y ++ [c]) = upd (upd f.w y (f.w y ++ [c])) x (K ++ D) := by
    rw [upd_upd]
    funext q
    by_cases hq : q = y
    · subst hq; rw [upd_same, upd_ne hyx, upd_ne hyx, upd_same]
    · by_cases hq2 : q = x
      · subst hq2; rw [upd_ne hq, upd_same, upd_same]
      · rw [upd_ne hq, upd_ne hq2, upd_ne hq2, upd_ne hq]
  rw [hw2] at hv
  refine ⟨m', ⟨h.r.vals, h.r.lv⟩, h.e.trans e', hv, ?_, ?_, ?_, ⟨h.vk.key, h.vk.key2, h.vk.pre, h.vk.num⟩⟩
  · show upd f.ws y wv x = f0.ws x
    rw [upd_ne (Ne.symm hyx)]; exact h.ws
  · show upd f.w y (f.w y ++ [c]) x = _
    rw [upd_ne (Ne.symm hyx)]; exact h.w
  · have := h.kl; simp only [List.length_cons] at this; omega
/-- Behind the append to what is kept. -/
theorem Vs.kept (h : Vs H0 ow0 f0 G x L H ow p n k f K (c :: D)) {H' : Heap} {ow' : Nat → Nat} {f' : Cf}
    (m' : RM H' ow' p n k f') (r' : Rl n f') (e' : Ex H ow H' ow') (hv : VI n f'.s f'.C (upd f.w x (K ++ c :: D)) G f'.head x (K ++ [c]) D) (hws : f'.ws = f.ws) (hw : f'.w = upd f.w x (K ++ [c] ++ L.drop (K.length + 1))) (hk : Vk n f f') :
    Vs H0 ow0 f0 G x L H' ow' p n k f' (K ++ [c]) D := by
  refine ⟨m', r', h.e.trans e', ?_, by rw [hws]; exact h.ws, by rw [hw, upd_same]; simp, ?_, h.vk.trans hk⟩
  · rw [hw, upd_upd]
    have : K ++ [c] ++ D = K ++ c :: D := by simp
    rw [this]; exact hv
  · have := h.kl; simp only [List.length_cons] at this; simp only [List.length_append, List.length_singleton]; omega
set_option maxHeartbeats 1000000 in
theorem sVisit_spec (h : RM H ow p n k f) (hr : Rl n f) {x : Nat} (hV : VI n f.s f.C f.w G f.head x [] (f.w x)) (hn : n ≤ 1000) (hC : f.C.length ≤ 100000) (hst : f.st.length ≤ 1000000) (hx : isC n x) :
    CallF Tryz.prog 73 [sp p, iv x] H (fun v H' => ∃ ow' f', RM H' ow' p n k f' ∧ Rl n f' ∧ Ex H ow H' ow' ∧ Vk n f f' ∧
      ((v = pn none ∧ SI n f'.s f'.C f'.w G f'.head) ∨ ∃ c K D, v = pv c ∧ VI n f'.s f'.C f'.w G f'.head x K (c :: D) ∧ ∀ y ∈ f'.lits c, neg y ∈ f'.tr)) NoP := by
  obtain ⟨x1, x2, x3, x4⟩ := isC_lt hx
  have hL : (f.w x).length ≤ f.C.length := hV.wi.len x
  obtain ⟨L, hLe⟩ : ∃ L, L = f.w x := ⟨_, rfl⟩
  rw [← hLe] at hV hL
  obtain ⟨a, cap, ew⟩ := (h.wl x x1).form
  rw [List.length_map, ← hLe] at ew
  have c8 : cellH H ⟨p, 8, none⟩ = some (sl k.bw (2 * n + 2)) := h.c 8
  have cw : cellH H ⟨k.bw, x, none⟩ = some (.slice a L.length cap) := by rw [← ew]; exact h.cwat x1
  have hcap : L.length ≤ cap := by
    rcases (h.wl x x1).vec.ex with ⟨e, e2⟩ | ⟨b', len, cap', pre, rest, e, _, _, _, hle⟩
    · rw [ew] at e; simp only [Value.slice.injEq] at e; omega
    · rw [ew] at e; simp only [Value.slice.injEq] at e; omega
  have hV0 : VI n f.s f.C (upd f.w x ([] ++ L)) G f.head x [] L := by
    have : upd f.w x ([] ++ L) = f.w := by
      funext y
      by_cases e : y = x
      · subst e; rw [upd_same, hLe]; rfl
      · rw [upd_ne e]
    rw [this]; exact hV
  refine callF_of Tryz.func73 rfl Tryz.ntmps73 Tryz.results73 (by decide) rfl ?_
  simp (disch := omega) only [go_sem, ↓cw_block, dsB_of, c8, cw]
  refine loop_by (fun j ρ H1 => ∃ (i : Nat) (ow1 : Nat → Nat) (f1 : Cf) (K : List Nat), j = L.length - i ∧ i ≤ L.length ∧
    (ρ.get 0 = sp p ∧ ρ.get 1 = iv x ∧ ρ.get 5 = .slice a L.length cap ∧ ρ.get 6 = .slice a K.length cap ∧ ρ.get 18 = .slice a L.length cap ∧ ρ.get 19 = iv L.length ∧ ρ.get 20 = iv i ∧ ρ.ds = []) ∧
    K.length ≤ i ∧ Vs H ow f G x L H1 ow1 p n k f1 K (L.drop i)) (k := L.length) ?_ ?_
  · exact ⟨0, ow, f, [], rfl, by omega, by simp (disch := omega) only [go_sem, ↓cw_block, dsB_of]; rfl, by simp, h, hr, Ex.refl, hV0, rfl, by rw [hLe]; rfl, by simp, Vk.refl⟩
  · rintro _ ρ H1 ⟨i, ow1, f1, K, rfl, hi, ⟨r0, r1, r5, r6, r18, r19, r20, rd⟩, hKi, vs⟩
    by_cases hi2 : i = L.length
    · subst hi2
      rw [List.drop_length] at vs
      have d8 : cellH H1 ⟨p, 8, none⟩ = some (sl k.bw (2 * n + 2)) := vs.m.c 8
      have hK : K.length ≤ L.length := hKi
      have fine : ∀ (H2 : Heap) (v' : Value), Vec H2 95 1 v' (K.map pv) → Fr (own (f1.ws x)) H1 H2 → (∀ b ∈ own v', b ∈ own (f1.ws x) ∨ H1.size ≤ b) →
          ∃ H3, wr H2 ⟨k.bw, x, none⟩ v' = some H3 ∧ ∃ ow' f', RM H3 ow' p n k f' ∧ Rl n f' ∧ Ex H ow H3 ow' ∧ Vk n f f' ∧ SI n f'.s f'.C f'.w G f'.head := by
        intro H2 v' g1 g2 g3
        obtain ⟨m3, e3, b3⟩ := vs.m.appWat (x := x) (l := K) x1 g1 g2 g3
        refine ⟨_, b3.wr (i := x) (by simpa using x1) v', _, _, m3, ⟨vs.r.vals, vs.r.lv⟩, vs.e.trans e3, vs.vk.trans ⟨rfl, rfl, List.prefix_refl _, Nat.le_refl _⟩, ?_⟩
        have hv := vs.v
        rw [List.append_nil] at hv
        exact hv.done
      have hp1 : ow1 p = 1 := vs.m.self.ow
      cases a with
      | none =>
        have hL0 : L.length = 0 ∧ cap = 0 := by
          rcases (h.wl x x1).vec.ex with ⟨e, _⟩ | ⟨b', len, cap', pre, rest, e, _⟩
          · rw [ew] at e; simp only [Value.slice.injEq] at e; exact ⟨e.2.1, e.2.2⟩
          · rw [ew] at e; simp only [Value.slice.injEq] at e; cases e.1
        have hL : L = [] := List.length_eq_zero_iff.1 hL0.1
        have hK0 : K = [] := List.length_eq_zero_iff.1 (by omega)
        obtain ⟨rfl⟩ := hL0.2
        subst hL hK0
        obtain ⟨H3, w3, ow', f', z1, z2, z3, z4, z5⟩ := fine H1 (.slice none 0 0) Vec.nil (Fr.refl _ _) (by simp [own])
        simp only [List.length_nil] at r5 r6 r18 r19
        simp (disch := omega) only [go_sem, ↓cw_block, dsB_of, r0, r1, r5, r6, r18, r19, r20, rd]
        refine clr_none T.el66.under ?_
        simp (disch := omega) only [go_sem, ↓cw_block, dsB_of, r0, r1, r5, r6, r18, r19, r20, rd, d8, w3, dsB_of]
        exact fin ⟨ow', f', z1, z2, z3, z4, .inl ⟨rfl, z5⟩⟩
      | some ad =>
        obtain ⟨b, o, rfl⟩ : ∃ b o, ad = ⟨b, o, none⟩ := by
          rcases (h.wl x x1).vec.ex with ⟨e, _⟩ | ⟨b', len, cap', pre, rest, e, _⟩
          · rw [ew] at e; simp only [Value.slice.injEq] at e; cases e.1
          · rw [ew] at e; simp only [Value.slice.injEq] at e; exact ⟨b', _, Option.some.inj e.1⟩
        obtain ⟨H2, w2, f2, g2⟩ := keep_end vs.m x1 (vs.ws.trans ew) vs.w hK
        obtain ⟨H3, w3, ow', f', z1, z2, z3, z4, z5⟩ := fine H2 _ g2 f2 (by rw [vs.ws, ew]; simp [own])
        have d8' : cellH H2 ⟨p, 8, none⟩ = some (sl k.bw (2 * n + 2)) := f2.cell' d8 (by
          intro hh
          have := (vs.m.wl x x1).ow _ hh
          simp only at this; omega)
        simp (disch := omega) only [go_sem, ↓cw_block, dsB_of, r0, r1, r5, r6, r18, r19, r20, rd]
        by_cases hc0 : cap = K.length
        · have hz : L.length - K.length = 0 := by omega
          rw [hz] at w2 ⊢
          simp only [List.replicate, wrs, Option.some.injEq] at w2
          subst w2
          refine clr_none T.el66.under ?_
          simp (disch := omega) only [go_sem, ↓cw_block, dsB_of, r0, r1, r5, r6, r18, r19, r20, rd, d8, w3, dsB_of]
          exact fin ⟨ow', f', z1, z2, z3, z4, .inl ⟨rfl, z5⟩⟩
        · rw [if_neg hc0]
          refine clr_slice T.el66.under T.el66.zero rfl rfl w2 ?_
          simp (disch := omega) only [go_sem, ↓cw_block, dsB_of, r0, r1, r5, r6, r18, r19, r20, rd, d8', w3, dsB_of]
          exact fin ⟨ow', f', z1, z2, z3, z4, .inl ⟨rfl, z5⟩⟩
    · have hil : i < L.length := by omega
      obtain ⟨b, o, ea⟩ : ∃ b o, a = some ⟨b, o, none⟩ := by
        obtain ⟨b, o, cap', e, -, -⟩ := (h.wl x x1).cell (i := i) (u := pv L[i]) (by rw [← hLe]; simp [hil])
        rw [ew] at e
        simp only [Value.slice.injEq] at e
        exact ⟨b, o, e.1⟩
      subst ea
      obtain ⟨c, hc⟩ : ∃ c, L[i]? = some c := ⟨_, List.getElem?_eq_getElem hil⟩
      have hD : L.drop i = c :: L.drop (i + 1) := by
        rw [List.drop_eq_getElem_cons hil]
        rw [List.getElem?_eq_getElem hil] at hc
        rw [Option.some.inj hc]
      rw [hD] at vs
      have hwi : (f1.w x)[i]? = some c := by
        rw [vs.w, List.getElem?_append_right hKi, List.getElem?_drop]
        rw [show K.length + (i - K.length) = i by omega]; exact hc
      have kc : cellH H1 ⟨b, o + i, none⟩ = some (pv c) := by
        obtain ⟨b', o', cap', e, -, hx'⟩ := (vs.m.wl x x1).cell (pv_get hwi)
        rw [vs.ws, ew] at e
        simp only [Value.slice.injEq, Option.some.injEq, Addr.mk.injEq, and_true] at e
        obtain ⟨⟨rfl, rfl⟩, -⟩ := e
        exact hx'
      obtain ⟨hcC, a0, b0, r, hl, hab⟩ := vs.v.mem
      have hl' : f1.lits c = a0 :: b0 :: r := hl
      have hln : (f1.lits c).length = r.length + 2 := by rw [hl']; rfl
      obtain ⟨lb, lo, lc, el, hlc, d0⟩ := vs.m.litf hcC (by omega)
      have d2 : cellH H1 ⟨c, 2, none⟩ = some (.bool false) := (vs.m.con c hcC).blk.blk.cell 2
      have k0 := vs.m.litc hcC el (i := 0) (x := a0) (by rw [hl']; rfl)
      have k1 := vs.m.litc hcC el (i := 1) (x := b0) (by rw [hl']; rfl)
      rw [Nat.add_zero] at k0
      simp (disch := omega) only [go_sem, ↓cw_block, dsB_of, r0, r1, r5, r6, r18, r19, r20, rd, kc, d2, d0, k0]
      refine cond_at (fun ρ H2 => ∃ (f2 : Cf) (a2 : Nat) (r2 : List Nat), (ρ.get 0 = sp p ∧ ρ.get 1 = iv x ∧ ρ.get 5 = .slice (some ⟨b, o, none⟩) L.length cap ∧ ρ.get 6 = .slice (some ⟨b, o, none⟩) K.length cap ∧ ρ.get 7 = iv i ∧ ρ.get 8 = pv c ∧ ρ.get 18 = .slice (some ⟨b, o, none⟩) L.length cap ∧ ρ.get 19 = iv L.length ∧ ρ.get 20 = iv i ∧ ρ.ds = []) ∧
        f2.lits c = a2 :: x :: r2 ∧ f2.lb c = f1.lb c ∧ r2.length = r.length ∧ Vs H ow f G x L H2 ow1 p n k f2 K (c :: L.drop (i + 1))) ?_ ?_
      · refine cond_dec (fun hb => ?_) (fun hb => ?_)
        · have hax : a0 = x := by omega
          subst hax
          obtain ⟨H2, w1, m1, e1⟩ := vs.m.putLit (x := b0) hcC el (j := 0) (by omega)
          obtain ⟨H3, w2, m2, e2⟩ := m1.putLit (x := a0) (c := c) (b := lb) (o := lo) (cap := lc) (j := 1) hcC (by simp only [upd_same]; rw [List.length_set]; exact el) (by simp only [upd_same]; rw [List.length_set]; omega)
          have m2' : RM H3 ow1 p n k (f1.uLit (upd f1.lits c (b0 :: a0 :: r))) := by
            have : upd (upd f1.lits c ((f1.lits c).set 0 b0)) c ((upd f1.lits c ((f1.lits c).set 0 b0) c).set 1 a0) = upd f1.lits c (b0 :: a0 :: r) := by
              funext q
              by_cases hq : q = c
              · subst hq; simp only [upd_same, hl']; rfl
              · simp only [upd_ne hq]
            rw [← this]; exact m2
          clear m2
          rw [Nat.add_zero] at w1
          refine draw0 (lk [(0, true), (1, true), (2, true), (3, true), (4, true), (5, true), (6, true), (7, true), (8, true), (9, true), (10, true), (11, true), (12, true), (13, true), (14, true), (15, true), (16, true), (17, true), (18, true), (19, true), (20, true)] (.act 21 (lk [(22, true)] (.act 23 .fin .non)) .non)) T.mixed ?_
          simp (disch := omega) only [go_sem, ↓cw_block, dsB_of, r0, r1, r5, r6, r18, r19, r20, rd, d0, k0, k1, w1, w2]
          exact fin ⟨f1.uLit (upd f1.lits c (b0 :: a0 :: r)), b0, r, by simp (disch := omega) only [go_sem, ↓cw_block, dsB_of, r0, r1, r5, r6, r18, r19, r20, rd], by show upd f1.lits c _ c = _; rw [upd_same], rfl, rfl, vs.swap hl' m2' (e1.trans e2)⟩
        · have hax : b0 = x := by
            rcases hab with e | e
            · exact absurd (by rw [e]) hb
            · exact e
          subst hax
          simp (disch := omega) only [go_sem, ↓cw_block, dsB_of, r0, r1, r5, r6, r18, r19, r20, rd]
          exact fin ⟨f1, a0, r, by simp (disch := omega) only [go_sem, ↓cw_block, dsB_of, r0, r1, r5, r6, r18, r19, r20, rd], hl', rfl, rfl, vs⟩
      · clear k0 k1 d0 d2 kc el hlc
        rintro ρ2 H2 ⟨f2, a2, r2, ⟨q0, q1, q5, q6, q7, q8, q18, q19, q20, qd⟩, hl2, hlb, hrl, vs2⟩
        have hcC2 : c ∈ f2.C := vs2.v.mem.1
        have hcl := vs2.v.wi.cl c hcC2
        have hln2 : (f2.lits c).length = r2.length + 2 := by rw [hl2]; rfl
        have hlen2 : (f2.lits c).length ≤ n := codes_len hcl.2.1 hcl.2.2
        obtain ⟨lb, lo, lc, el, hlc, d0⟩ := vs2.m.litf hcC2 (by omega)
        have k0 := vs2.m.litc hcC2 el (i := 0) (x := a2) (by rw [hl2]; rfl)
        rw [Nat.add_zero] at k0
        have ha2 : isC n a2 := hcl.2.1 a2 (by show a2 ∈ f2.lits c; rw [hl2]; simp)
        have ha22 := (isC_lt ha2).1
        have c9 : cellH H2 ⟨p, 9, none⟩ = some (sl k.bv (2 * n + 2)) := vs2.m.c 9
        have cv := vs2.m.cval vs2.r ha22
        have hla : f2.s.lits c = a2 :: x :: r2 := hl2
        have hkl := vs2.kl
        simp only [List.length_cons, List.length_drop] at hkl
        have hi1 : (i : Int) + 1 = ((i + 1 : Nat) : Int) := by omega
        have hKl : (K ++ [c]).length = K.length + 1 := by simp
        -- the part behind the append
        by_cases hpos : 0 < f2.s.val a2
        · refine draw0 (lk [(0, true), (1, true), (2, true), (3, true), (4, true), (5, true), (6, true), (7, true), (8, true), (9, true), (10, true), (11, true), (12, true), (13, true), (14, true), (15, true)] (.act 16 (lk [(17, true)] .fin) .non)) T.mixed ?_
          simp (disch := omega) only [go_sem, ↓cw_block, dsB_of, q0, q1, q5, q6, q7, q8, q18, q19, q20, qd, c9, d0, k0, cv]
          refine keep_app vs2.m x1 T.el66 (vs2.ws.trans ew) vs2.w (by omega) ?_
          intro H3 m3 e3
          have d0' : cellH H3 ⟨c, 0, none⟩ = some (.slice (some ⟨lb, lo, none⟩) (f2.lits c).length lc) := by rw [← el]; exact (m3.con c hcC2).blk.blk.cell 0
          have k0' := m3.litc (c := c) hcC2 el (i := 0) (x := a2) (by show (f2.lits c)[0]? = _; rw [hl2]; rfl)
          rw [Nat.add_zero] at k0'
          have c9' : cellH H3 ⟨p, 9, none⟩ = some (sl k.bv (2 * n + 2)) := m3.c 9
          have r3 : Rl n (f2.uWat f2.ws (upd f2.w x (K ++ [c] ++ L.drop (K.length + 1)))) := ⟨vs2.r.vals, vs2.r.lv⟩
          have cv' : cellH H3 ⟨k.bv, a2, none⟩ = some (.int .i8 (f2.s.val a2)) := m3.cval r3 ha22
          simp (disch := omega) only [go_sem, ↓cw_block, dsB_of, q0, q1, q5, q6, q7, q8, q18, q19, q20, qd]
          refine draw0 (lk [(0, true), (1, true), (2, true), (3, true), (4, true), (5, true), (6, true), (7, true), (8, true), (9, true), (10, true), (11, true), (12, true)] .fin) T.mixed ?_
          simp (disch := omega) only [go_sem, ↓cw_block, dsB_of, q0, q1, q5, q6, q7, q8, q18, q19, q20, qd, c9', d0', k0', cv']
          refine draw0 (lk [(0, true), (1, true), (2, true), (3, true), (4, true), (5, true), (6, true), (7, true), (8, true), (9, true), (10, true), (11, true), (12, true)] .fin) T.mixed ?_
          simp (disch := omega) only [go_sem, ↓cw_block, dsB_of, q0, q1, q5, q6, q7, q8, q18, q19, q20, qd, c9', d0', k0', cv']
          have hv := vs2.v.keep hla (val_pos.1 hpos) (fun q _ => vs2.v.top q)
          exact fin ⟨L.length - (i + 1), by omega, i + 1, ow1, _, K ++ [c], rfl, by omega, by simp (disch := omega) only [go_sem, ↓cw_block, dsB_of, q0, q1, q5, q6, q7, q8, q18, q19, q20, qd, hi1, hKl], by rw [hKl]; omega, vs2.kept m3 r3 e3 hv rfl rfl ⟨rfl, rfl, List.prefix_refl _, Nat.le_refl _⟩⟩
        · have hat : a2 ∉ f2.tr := fun e => hpos (val_pos.2 e)
          refine draw0 (lk [(0, true), (1, true), (2, true), (3, true), (4, true), (5, true), (6, true), (7, true), (8, true), (9, true), (10, true), (11, true), (12, true), (13, true), (14, true), (15, true)] (.act 16 (lk [(17, true)] .fin) .non)) T.mixed ?_
          simp (disch := omega) only [go_sem, ↓cw_block, dsB_of, q0, q1, q5, q6, q7, q8, q18, q19, q20, qd, c9, d0, k0, cv]
          refine call_to (sOther_spec vs2.m vs2.r hcC2 hl2 (fun y hy => (isC_lt (hcl.2.1 y hy)).1) (by omega) (fun y => by have := vs2.lens hL y; omega)) ?_
          rintro v H3 (⟨rfl, rfl, hall⟩ | ⟨rfl, j, y, ow3, wv, hj, hy, m3, e3⟩)
          · have hfr : ∀ y ∈ r2, neg y ∈ f2.tr := fun y hy => (val_neg vs2.v.inv).1 (hall y hy)
            simp (disch := omega) only [go_sem, ↓cw_block, dsB_of, q0, q1, q5, q6, q7, q8, q18, q19, q20, qd]
            refine keep_app vs2.m x1 T.el66 (vs2.ws.trans ew) vs2.w (by omega) ?_
            intro H3 m3 e3
            have d0' : cellH H3 ⟨c, 0, none⟩ = some (.slice (some ⟨lb, lo, none⟩) (f2.lits c).length lc) := by rw [← el]; exact (m3.con c hcC2).blk.blk.cell 0
            have k0' := m3.litc (c := c) hcC2 el (i := 0) (x := a2) (by show (f2.lits c)[0]? = _; rw [hl2]; rfl)
            rw [Nat.add_zero] at k0'
            have c9' : cellH H3 ⟨p, 9, none⟩ = some (sl k.bv (2 * n + 2)) := m3.c 9
            have r3 : Rl n (f2.uWat f2.ws (upd f2.w x (K ++ [c] ++ L.drop (K.length + 1)))) := ⟨vs2.r.vals, vs2.r.lv⟩
            have cv' : cellH H3 ⟨k.bv, a2, none⟩ = some (.int .i8 (f2.s.val a2)) := m3.cval r3 ha22
            by_cases hneg : f2.s.val a2 < 0
            · have c8' : cellH H3 ⟨p, 8, none⟩ = some (sl k.bw (2 * n + 2)) := m3.c 8
              simp (disch := omega) only [go_sem, ↓cw_block, dsB_of, q0, q1, q5, q6, q7, q8, q18, q19, q20, qd]
              refine draw0 (lk [(0, true), (1, true), (2, true), (3, true), (4, true), (5, true), (6, true), (7, true), (8, true), (9, true), (10, true), (11, true), (12, true)] .fin) T.mixed ?_
              simp (disch := omega) only [go_sem, ↓cw_block, dsB_of, q0, q1, q5, q6, q7, q8, q18, q19, q20, qd, c9', d0', k0', cv']
              refine draw1 (lk [(0, false), (1, false), (2, false), (3, false), (4, false), (5, true), (6, true), (7, true), (8, true), (9, true)] (.act 10 (lk [(11, true)] (.actd 12 .fin)) .non)) T.mixed [(⟨p, 8, none⟩, sl k.bw (2 * n + 2))] (heldOK_one c8') ?_
              simp (disch := omega) only [go_sem, ↓cw_block, dsB_of, q0, q1, q5, q6, q7, q8, q18, q19, q20, qd, hi1]
              have hw3 : (f2.uWat f2.ws (upd f2.w x (K ++ [c] ++ L.drop (K.length + 1)))).w x = (K ++ [c]) ++ L.drop (K ++ [c]).length := by
                show upd f2.w x _ x = _
                rw [upd_same, hKl]
              rw [← hKl]
              refine keep_rest m3 x1 T.el66 (vs2.ws.trans ew) hw3 (by rw [hKl]; omega) (by omega) (fun hlt => by rw [if_neg (by omega)]) (by omega) ?_
              intro H4 l' m4 v4 e4
              have c8'' : cellH H4 ⟨p, 8, none⟩ = some (sl k.bw (2 * n + 2)) := m4.c 8
              refine held_by (heldOK_one c8'') ?_
              obtain ⟨H5, w5, m5, e5⟩ := m4.putWat (x := x) x1 v4
              simp (disch := omega) only [go_sem, ↓cw_block, dsB_of, q0, q1, q5, q6, q7, q8, q18, q19, q20, qd, w5, dsB_of]
              refine fin ⟨ow1, _, m5, ⟨vs2.r.vals, vs2.r.lv⟩, vs2.e.trans (e3.trans (e4.trans e5)), vs2.vk.trans ⟨rfl, rfl, List.prefix_refl _, Nat.le_refl _⟩, .inr ⟨c, K, L.drop (i + 1), rfl, ?_, ?_⟩⟩
              · have hwe : upd (upd (upd f2.w x (K ++ [c] ++ L.drop (K.length + 1))) x l') x (K ++ [c] ++ L.drop (i + 1)) = upd f2.w x (K ++ c :: L.drop (i + 1)) := by
                  rw [upd_upd, upd_upd]
                  congr 1
                  simp
                show VI n f2.s f2.C (upd (upd (upd f2.w x (K ++ [c] ++ L.drop (K.length + 1))) x l') x (K ++ [c] ++ L.drop (i + 1))) G f2.head x K (c :: L.drop (i + 1))
                rw [hwe]; exact vs2.v
              · show ∀ y ∈ f2.lits c, neg y ∈ f2.tr
                rw [hl2]
                intro y hy
                rcases List.mem_cons.1 hy with rfl | hy
                · exact (val_neg vs2.v.inv).1 hneg
                · rcases List.mem_cons.1 hy with rfl | hy
                  · exact vs2.v.neg_mem
                  · exact hfr y hy
            · simp (disch := omega) only [go_sem, ↓cw_block, dsB_of, q0, q1, q5, q6, q7, q8, q18, q19, q20, qd]
              refine draw0 (lk [(0, true), (1, true), (2, true), (3, true), (4, true), (5, true), (6, true), (7, true), (8, true), (9, true), (10, true), (11, true), (12, true)] .fin) T.mixed ?_
              simp (disch := omega) only [go_sem, ↓cw_block, dsB_of, q0, q1, q5, q6, q7, q8, q18, q19, q20, qd, c9', d0', k0', cv']
              refine draw0 (lk [(0, true), (1, true), (2, true), (3, true), (4, true), (5, true), (6, true), (7, true), (8, true), (9, true), (10, true), (11, true), (12, true)] .fin) T.mixed ?_
              simp (disch := omega) only [go_sem, ↓cw_block, dsB_of, q0, q1, q5, q6, q7, q8, q18, q19, q20, qd, c9', d0', k0', cv']
              have hna : neg a2 ∉ f2.tr := fun e => hneg ((val_neg vs2.v.inv).2 e)
              refine call_to (sSet_spec m3 r3 vs2.v.inv hn ha2 hat hna (by have := vs2.vk.st; show f2.st.length ≤ _; rw [this]; exact hst) (some c)) ?_
              rintro v H4 ⟨rfl, ow4, vs4, lv4, la4, v4, m4, r4, e4⟩
              simp (disch := omega) only [go_sem, ↓cw_block, dsB_of, q0, q1, q5, q6, q7, q8, q18, q19, q20, qd]
              have hv := vs2.v.set hla hat hna hfr
              have hk4 : Vk n f2 ((f2.uWat f2.ws (upd f2.w x (K ++ [c] ++ L.drop (K.length + 1)))).push a2 (some c) vs4 lv4 la4 v4) := ⟨rfl, rfl, List.prefix_append _ _, N_push (s := f2.s) (x := a2) (w := some c)⟩
              have hv4 : VI n ((f2.uWat f2.ws (upd f2.w x (K ++ [c] ++ L.drop (K.length + 1)))).push a2 (some c) vs4 lv4 la4 v4).s f2.C (upd f2.w x (K ++ c :: L.drop (i + 1))) G f2.head x (K ++ [c]) (L.drop (i + 1)) := hv
              have vs5 := vs2.kept m4 r4 (e3.trans e4) hv4 rfl rfl hk4
              exact fin ⟨L.length - (i + 1), by omega, i + 1, ow4, _, K ++ [c], rfl, by omega, by simp (disch := omega) only [go_sem, ↓cw_block, dsB_of, q0, q1, q5, q6, q7, q8, q18, q19, q20, qd, hi1, hKl], by rw [hKl]; omega, vs5⟩
          · simp (disch := omega) only [go_sem, ↓cw_block, dsB_of, q0, q1, q5, q6, q7, q8, q18, q19, q20, qd]
            have hny : neg y ∉ f2.tr := fun e => by have := (val_neg vs2.v.inv).2 e; omega
            exact fin ⟨L.length - (i + 1), by omega, i + 1, ow3, _, K, rfl, by omega, by simp (disch := omega) only [go_sem, ↓cw_block, dsB_of, q0, q1, q5, q6, q7, q8, q18, q19, q20, qd, hi1], by omega, vs2.other hl2 hat hj hny m3 e3⟩
end
end Go.Proofs.YtofooamimiijlaaGreat

namespace Go.Proofs.YtofooamimiijlaaGreat
open Go.HL HM Go.Sat
set_option maxRecDepth 10000
set_option linter.unusedSimpArgs false
set_option linter.unusedVariables false

def Cf.key3 (f : Cf) := (f.st, f.m, f.os, f.pl, f.ac)
/-- What propagation leaves as it was. -/
structure Vp (n : Nat) (f f' : Cf) : Prop where
  key : f'.key = f.key
  key3 : f'.key3 = f.key3
  pre : f.tr <+: f'.tr
  num : f.s.N n ≤ f'.s.N n
theorem Vp.refl {n : Nat} {f : Cf} : Vp n f f := ⟨rfl, rfl, List.prefix_refl _, Nat.le_refl _⟩
theorem Vp.trans {n : Nat} {f f' f'' : Cf} (h : Vp n f f') (h' : Vp n f' f'') : Vp n f f'' := ⟨h'.key.trans h.key, h'.key3.trans h.key3, h.pre.trans h'.pre, Nat.le_trans h.num h'.num⟩
theorem Vk.vp {n : Nat} {f f' : Cf} (h : Vk n f f') : Vp n f f' := by
  refine ⟨h.key, ?_, h.pre, h.num⟩
  have e := h.key2
  simp only [Cf.key2, Prod.mk.injEq] at e
  simp only [Cf.key3, Prod.mk.injEq]
  exact ⟨e.1, e.2.2⟩
theorem Vp.C {n : Nat} {f f' : Cf} (h : Vp n f f') : f'.C = f.C := congrArg (·.1) h.key
theorem Vp.st {n : Nat} {f f' : Cf} (h : Vp n f f') : f'.st = f.st := congrArg (·.1) h.key3
section
variable {H : Heap} {ow : Nat → Nat} {p n : Nat} {k : Bk} {f : Cf} {G : List (List Nat)}
set_option maxHeartbeats 1000000 in
/-- Propagation: to the end, or to a clause that is false. -/
theorem sPropagate_spec (h : RM H ow p n k f) (hr : Rl n f) (hS : SI n f.s f.C f.w G f.head) (hn : n ≤ 1000) (hC : f.C.length ≤ 100000) (hst : f.st.length ≤ 1000000) :
    CallF Tryz.prog 60 [sp p] H (fun v H' => ∃ ow' f', RM H' ow' p n k f' ∧ Rl n f' ∧ Ex H ow H' ow' ∧ Vp n f f' ∧
      ((v = pn none ∧ SI n f'.s f'.C f'.w G f'.head ∧ f'.head = f'.tr.length) ∨ ∃ c x K D, v = pv c ∧ VI n f'.s f'.C f'.w G f'.head x K (c :: D) ∧ ∀ y ∈ f'.lits c, neg y ∈ f'.tr)) NoP := by
  refine callF_of Tryz.func60 rfl Tryz.ntmps60 Tryz.results60 (by decide) rfl ?_
  simp (disch := omega) only [go_sem, ↓cw_block, dsB_of]
  refine loop_by (fun j ρ H1 => ∃ (ow1 : Nat → Nat) (f1 : Cf), j = n - f1.head ∧ (ρ.get 0 = sp p ∧ ρ.ds = []) ∧ RM H1 ow1 p n k f1 ∧ Rl n f1 ∧ Ex H ow H1 ow1 ∧ Vp n f f1 ∧ SI n f1.s f1.C f1.w G f1.head) (k := n - f.head) ?_ ?_
  · exact ⟨ow, f, rfl, by simp (disch := omega) only [go_sem, ↓cw_block, dsB_of], h, hr, Ex.refl, Vp.refl, hS⟩
  · rintro _ ρ H1 ⟨ow1, f1, rfl, ⟨r0, rd⟩, m1, q1, e1, v1, s1⟩
    obtain ⟨a, cap, et⟩ := m1.trail.form
    rw [nv_len] at et
    have c14 : cellH H1 ⟨p, 14, none⟩ = some (.slice a f1.tr.length cap) := by rw [← et]; exact m1.c 14
    have c16 : cellH H1 ⟨p, 16, none⟩ = some (iv f1.head) := m1.c 16
    have hle : f1.head ≤ f1.tr.length := s1.le
    have htn : f1.tr.length ≤ n := s1.inv.ok.len
    by_cases hh : f1.head < f1.tr.length
    · obtain ⟨y, hy⟩ : ∃ y, f1.tr[f1.head]? = some y := ⟨_, List.getElem?_eq_getElem hh⟩
      have hyc : isC n y := s1.inv.ok.code y (List.mem_of_getElem? hy)
      obtain ⟨y1, y2, y3, y4⟩ := isC_lt hyc
      obtain ⟨b, o, cap', e, -, ky⟩ := m1.trail.cell (nv_get hy)
      rw [nv_len] at e
      rw [et] at e
      simp only [Value.slice.injEq, true_and] at e
      obtain ⟨rfl, rfl⟩ := e
      obtain ⟨H2, w2, m2, e2⟩ := m1.putHead (f1.head + 1)
      have ex := fun V t xo yo => bin_xor1 (V := V) (t := t) (xo := xo) (yo := yo) (n := y) (by omega)
      have hi1 : (f1.head : Int) + 1 = ((f1.head + 1 : Nat) : Int) := by omega
      simp (disch := omega) only [go_sem, ↓cw_block, dsB_of, r0, rd]
      refine draw0 (lk [(0, true), (1, true), (2, true), (3, true), (4, true), (5, true), (6, true), (7, true), (8, true), (9, true)] .fin) T.mixed ?_
      simp (disch := omega) only [go_sem, ↓cw_block, dsB_of, r0, rd, c14, c16]
      refine draw0 (lk [(0, true), (1, true), (2, true), (3, true), (4, true), (5, true), (6, true), (7, true), (8, true), (9, true), (10, true), (11, true)] .fin) T.mixed ?_
      simp (disch := omega) only [go_sem, ↓cw_block, dsB_of, r0, rd, c14, c16, ky, ex, hi1, w2]
      have hV := s1.start (x := neg y) (by rw [neg_neg]; exact hy)
      refine call_to (sVisit_spec (G := G) m2 ⟨q1.vals, q1.lv⟩ (x := neg y) hV hn (by show f1.C.length ≤ _; rw [v1.C]; exact hC) (by show f1.st.length ≤ _; rw [v1.st]; exact hst) (isC_neg hyc)) ?_
      rintro v H3 ⟨ow3, f3, m3, q3, e3, v3, hcase⟩
      have hv3 : Vp n f f3 := v1.trans (Vp.trans (f' := f1.uHead (f1.head + 1)) ⟨rfl, rfl, List.prefix_refl _, Nat.le_refl _⟩ v3.vp)
      have hh3 : f3.head = f1.head + 1 := v3.head
      have ex3 := e1.trans (e2.trans e3)
      rcases hcase with ⟨rfl, hs3⟩ | ⟨c, K, D, rfl, hv, hall⟩
      · simp (disch := omega) only [go_sem, ↓cw_block, dsB_of, r0, rd]
        refine cond_b (fun e => by simp at e) (fun _ => ?_)
        simp (disch := omega) only [go_sem, ↓cw_block, dsB_of, r0, rd]
        have hle3 := hs3.le
        refine fin ⟨n - f3.head, by omega, ow3, f3, rfl, m3, q3, ex3, hv3, hs3⟩
      · simp (disch := omega) only [go_sem, ↓cw_block, dsB_of, r0, rd, dsB_of]
        exact fin ⟨ow3, f3, m3, q3, ex3, hv3, .inr ⟨c, _, K, D, rfl, hv, hall⟩⟩
    · simp (disch := omega) only [go_sem, ↓cw_block, dsB_of, r0, rd]
      refine draw0 (lk [(0, true), (1, true), (2, true), (3, true), (4, true), (5, true), (6, true), (7, true), (8, true), (9, true)] .fin) T.mixed ?_
      simp (disch := omega) only [go_sem, ↓cw_block, dsB_of, r0, rd, c14, c16, dsB_of]
      exact fin ⟨ow1, f1, m1, q1, e1, v1, .inl ⟨rfl, s1, by omega⟩⟩
end
end Go.Proofs.YtofooamimiijlaaGreat

