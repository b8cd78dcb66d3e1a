/- The solver: what a conflict's analysis marks. -/
import Derived.Test.YtofooamimiijlaaGreatL13
import Derived.Test.YtofooamimiijlaaGreatL05
import Derived.Defers
namespace Go.Proofs.YtofooamimiijlaaGreat
open Go.HL HM Go.Sat
set_option maxRecDepth 10000
set_option linter.unusedSimpArgs false
set_option linter.unusedVariables false

section
variable {H H0 : Heap} {ow : Nat → Nat} {p n : Nat} {k : Bk} {f f1 : Cf}
theorem Ex.vec {H' : Heap} {ow' : Nat → Nat} (h : Ex H ow H' ow') {e z : Nat} {v : Value} {vs : List Value} (hv : Vec H e z v vs) (ho : ∀ b ∈ own v, ow b = 0) : Vec H' e z v vs := by
  rcases hv.ex with h1 | ⟨b, len, cap, pre, rest, rfl, hb, h2⟩
  · exact ⟨.inl h1⟩
  · exact ⟨.inr ⟨b, len, cap, pre, rest, rfl, h.blk hb (ho b (by simp [own])), h2⟩⟩
/-- Writing where nothing is the solver's. -/
theorem RM.out (h : RM H ow p n k f) {F : List Nat} {H' : Heap} (hf : Fr F H H') (hF : ∀ b ∈ F, ow b = 0) : RM H' ow p n k f :=
  h.fr (Sm.of (R := fun r => r = 0) hf hF) Ow.refl (fun b hb e => by have := h.free hb; rw [this] at e; exact absurd rfl e) (fun r hr => hr)
/-- New blocks are written. -/
theorem Ex.fresh {H' : Heap} {F : List Nat} (h : Ex H0 ow H ow) (hf : Fr F H H') (hF : ∀ b ∈ F, H0.size ≤ b) : Ex H0 ow H' ow := by
  have hz := h.sm.size
  refine ⟨⟨Nat.le_trans hz hf.size, fun b hb hr => ?_⟩, Ow.refl⟩
  rw [hf.same b (by omega) (fun e => by have := hF b e; omega), h.sm.same b hb hr]
/-- The memory of an analysis: the solver, and four boxes: it, its level, how many are open, what has been learned. -/
structure AM (H0 : Heap) (ow : Nat → Nat) (H : Heap) (p n : Nat) (k : Bk) (f f1 : Cf) (xs xh xo xr : Nat) (rv : Value) (r0 : Nat) (a : An) : Prop where
  m : RM H ow p n k f1
  e : Ex H0 ow H ow
  z : ∀ b, H0.size ≤ b → ow b = 0
  fe : ∃ sn m os pl ac, f1 = (f.uSeen sn).uOrder m os pl ac ∧ ∀ v, (nt pl v = -1 ↔ nt f.pl v = -1)
  seen : ∀ v, v ≤ n → bt f1.seen v = a.seen v
  bs : Blk H xs 107 [sp p]
  bh : Blk H xh 3 [iv f.st.length]
  bo : Blk H xo 3 [iv a.opn]
  br : Blk H xr 26 [rv]
  vr : Vec H 3 1 rv (nv (r0 :: a.r))
  ls : H0.size ≤ xs
  lh : H0.size ≤ xh
  lo : H0.size ≤ xo
  lr : H0.size ≤ xr
  lv : ∀ b ∈ own rv, H0.size ≤ b ∧ b ≠ xs ∧ b ≠ xh ∧ b ≠ xo ∧ b ≠ xr
  ne : xs ≠ xh ∧ xs ≠ xo ∧ xs ≠ xr ∧ xh ≠ xo ∧ xh ≠ xr ∧ xo ≠ xr
variable {xs xh xo xr r0 : Nat} {rv : Value} {a : An}
/-- The solver's own memory changes. -/
theorem AM.step (h : AM H0 ow H p n k f f1 xs xh xo xr rv r0 a) {H' : Heap} {f1' : Cf} {sv : Nat → Bool} (m' : RM H' ow p n k f1') (e' : Ex H ow H' ow)
    (fe : ∃ sn m os pl ac, f1' = (f.uSeen sn).uOrder m os pl ac ∧ ∀ v, (nt pl v = -1 ↔ nt f.pl v = -1)) (hs : ∀ v, v ≤ n → bt f1'.seen v = sv v) :
    AM H0 ow H' p n k f f1' xs xh xo xr rv r0 { a with seen := sv } :=
  ⟨m', h.e.trans e', h.z, fe, hs, e'.blk h.bs (h.z _ h.ls), e'.blk h.bh (h.z _ h.lh), e'.blk h.bo (h.z _ h.lo), e'.blk h.br (h.z _ h.lr), e'.vec h.vr (fun b hb => h.z b (h.lv b hb).1),
    h.ls, h.lh, h.lo, h.lr, h.lv, h.ne⟩
/-- The number of those that are open changes. -/
theorem AM.opn (h : AM H0 ow H p n k f f1 xs xh xo xr rv r0 a) (o : Nat) :
    ∃ H', wr H ⟨xo, 0, none⟩ (iv (o : Int)) = some H' ∧ AM H0 ow H' p n k f f1 xs xh xo xr rv r0 { a with opn := o } := by
  have hw := h.bo.wr (i := 0) (by simp) (iv (o : Int))
  have hn := h.ne
  refine ⟨_, hw, h.m.out (Fr.set (F := [xo]) (by simp)) (by simpa using h.z _ h.lo), h.e.fresh (Fr.set (F := [xo]) (by simp)) (by simpa using h.lo), h.z, h.fe, h.seen, h.bs.set_other hn.2.1, h.bh.set_other hn.2.2.2.1, h.bo.set 0 _, h.br.set_other hn.2.2.2.2.2.symm, h.vr.frame (Fr.set (F := [xo]) (by simp)) (fun b hb => by simp; exact (h.lv b hb).2.2.2.1),
    h.ls, h.lh, h.lo, h.lr, h.lv, hn⟩
/-- What has been learned is written. -/
theorem AM.inr (h : AM H0 ow H p n k f f1 xs xh xo xr rv r0 a) {H1 : Heap} {r0' : Nat} {r' : List Nat} (g1 : Vec H1 3 1 rv (nv (r0' :: r'))) (g2 : Fr (own rv) H H1) : AM H0 ow H1 p n k f f1 xs xh xo xr rv r0' { a with r := r' } := by
  have k1 : ∀ q, q ∈ own rv → q ≠ xs ∧ q ≠ xh ∧ q ≠ xo ∧ q ≠ xr := fun q hq => (h.lv q hq).2
  have s1 : xs ∉ own rv := fun e => (k1 _ e).1 rfl
  have s2 : xh ∉ own rv := fun e => (k1 _ e).2.1 rfl
  have s3 : xo ∉ own rv := fun e => (k1 _ e).2.2.1 rfl
  have s4 : xr ∉ own rv := fun e => (k1 _ e).2.2.2 rfl
  exact ⟨h.m.out g2 (fun b hb => h.z b (h.lv b hb).1), h.e.fresh g2 (fun b hb => (h.lv b hb).1), h.z, h.fe, h.seen, g2.blk h.bs s1, g2.blk h.bh s2, g2.blk h.bo s3, g2.blk h.br s4, g1, h.ls, h.lh, h.lo, h.lr, h.lv, h.ne⟩
/-- New memory that is nobody's. -/
theorem AM.out (h : AM H0 ow H p n k f f1 xs xh xo xr rv r0 a) {H1 : Heap} (g2 : Fr [] H H1) : AM H0 ow H1 p n k f f1 xs xh xo xr rv r0 a :=
  ⟨h.m.out g2 (by simp), h.e.fresh g2 (by simp), h.z, h.fe, h.seen, g2.blk h.bs (by simp), g2.blk h.bh (by simp), g2.blk h.bo (by simp), g2.blk h.br (by simp), h.vr.frame g2 (by simp), h.ls, h.lh, h.lo, h.lr, h.lv, h.ne⟩
/-- What has been learned is another list. -/
theorem AM.app' (h : AM H0 ow H p n k f f1 xs xh xo xr rv r0 a) {H1 : Heap} {v' : Value} {r0' : Nat} {r' : List Nat} (g1 : Vec H1 3 1 v' (nv (r0' :: r'))) (g2 : Fr (own rv) H H1) (g3 : ∀ b ∈ own v', b ∈ own rv ∨ H.size ≤ b) :
    ∃ H', wr H1 ⟨xr, 0, none⟩ v' = some H' ∧ AM H0 ow H' p n k f f1 xs xh xo xr v' r0' { a with r := r' } := by
  have hn := h.ne
  have k1 : ∀ q, q ∈ own rv → q ≠ xs ∧ q ≠ xh ∧ q ≠ xo ∧ q ≠ xr := fun q hq => (h.lv q hq).2
  have s1 : xs ∉ own rv := fun e => (k1 _ e).1 rfl
  have s2 : xh ∉ own rv := fun e => (k1 _ e).2.1 rfl
  have s3 : xo ∉ own rv := fun e => (k1 _ e).2.2.1 rfl
  have s4 : xr ∉ own rv := fun e => (k1 _ e).2.2.2 rfl
  have b4 := g2.blk h.br s4
  have l1 := h.bs.lt
  have l2 := h.bh.lt
  have l3 := h.bo.lt
  have l4 := h.br.lt
  have hlv : ∀ b ∈ own v', H0.size ≤ b ∧ b ≠ xs ∧ b ≠ xh ∧ b ≠ xo ∧ b ≠ xr := by
    intro b hb
    rcases g3 b hb with hb | hb
    · exact h.lv b hb
    · have := h.e.sm.size; exact ⟨by omega, by omega, by omega, by omega, by omega⟩
  have hf2 : Fr [xr] H1 (setH H1 ⟨xr, 0, none⟩ v') := Fr.set (by simp)
  refine ⟨_, b4.wr (i := 0) (by simp) v', ?_, ?_, h.z, h.fe, h.seen, (g2.blk h.bs s1).set_other hn.2.2.1, (g2.blk h.bh s2).set_other hn.2.2.2.2.1, (g2.blk h.bo s3).set_other hn.2.2.2.2.2, b4.set 0 _, ?_, h.ls, h.lh, h.lo, h.lr, hlv, hn⟩
  · exact (h.m.out g2 (fun b hb => h.z b (h.lv b hb).1)).out hf2 (by simpa using h.z _ h.lr)
  · exact (h.e.fresh g2 (fun b hb => (h.lv b hb).1)).fresh hf2 (by simpa using h.lr)
  · exact g1.frame hf2 (fun b hb => by simp; exact (hlv b hb).2.2.2.2)
/-- What has been learned grows. -/
theorem AM.app (h : AM H0 ow H p n k f f1 xs xh xo xr rv r0 a) {H1 : Heap} {v' : Value} {x : Nat} (g1 : Vec H1 3 1 v' (nv (r0 :: a.r) ++ [iv (x : Int)])) (g2 : Fr (own rv) H H1) (g3 : ∀ b ∈ own v', b ∈ own rv ∨ H.size ≤ b) :
    ∃ H', wr H1 ⟨xr, 0, none⟩ v' = some H' ∧ AM H0 ow H' p n k f f1 xs xh xo xr v' r0 { a with r := a.r ++ [x] } := by
  have : nv (r0 :: (a.r ++ [x])) = nv (r0 :: a.r) ++ [iv (x : Int)] := by simp [nv]
  exact h.app' (by rw [this]; exact g1) g2 g3
/-- Marking. -/
theorem sMark_spec (h : AM H0 ow H p n k f f1 xs xh xo xr rv r0 a) (hr : Rl n f) (hi : Inv n f.s) (hn : n ≤ 1000) (hst : 0 ≤ f.step ∧ f.step ≤ 4611686018427387904) {l : List Nat} {lb lo cap : Nat} 
    (hcell : ∀ H1 f', RM H1 ow p n k f' → f'.lits = f.lits → f'.lb = f.lb → f'.C = f.C → ∀ (i x : Nat), l[i]? = some x → cellH H1 ⟨lb, lo + i, none⟩ = some (iv (x : Int)))
    (hl : ∀ y ∈ l, isC n y ∧ neg y ∈ f.tr) (hlen : l.length ≤ 1000) (hopn : a.opn + l.length ≤ 1000000) (har : a.r.length + l.length ≤ 1000000) :
    CallF Tryz.prog 98 [.slice (some ⟨lb, lo, none⟩) l.length cap, hp xs, hp xh, hp xo, hp xr] H (fun v H' => v = .tuple #[] ∧ ∃ f1' rv', AM H0 ow H' p n k f f1' xs xh xo xr rv' r0 (markL f.s f.st.length a l)) NoP := by
  refine callF_of Tryz.func98 rfl Tryz.ntmps98 Tryz.results98 (by decide) rfl ?_
  simp (disch := omega) only [go_sem, ↓cw_block, dsB_of]
  refine loop_by (fun j ρ H1 => ∃ (i : Nat) (f1' : Cf) (rv' : Value), j = l.length - i ∧ i ≤ l.length ∧
    (ρ.get 1 = hp xs ∧ ρ.get 2 = hp xh ∧ ρ.get 3 = hp xo ∧ ρ.get 4 = hp xr ∧ ρ.get 9 = .slice (some ⟨lb, lo, none⟩) l.length cap ∧ ρ.get 10 = iv l.length ∧ ρ.get 11 = iv i ∧ ρ.ds = []) ∧
    AM H0 ow H1 p n k f f1' xs xh xo xr rv' r0 (markL f.s f.st.length a (l.take i)) ∧ (markL f.s f.st.length a (l.take i)).opn ≤ a.opn + i ∧ (markL f.s f.st.length a (l.take i)).r.length ≤ a.r.length + i) (k := l.length) ?_ ?_
  · exact ⟨0, f1, rv, rfl, by omega, by simp (disch := omega) only [go_sem, ↓cw_block, dsB_of], h, Nat.le_refl _, Nat.le_refl _⟩
  · rintro _ ρ H1 ⟨i, f1', rv', rfl, hil, ⟨s1, s2, s3, s4, s9, s10, s11, sd⟩, am, hop, hrl⟩
    by_cases hie : i = l.length
    · subst hie
      rw [List.take_length] at am
      simp (disch := omega) only [go_sem, ↓cw_block, dsB_of, s1, s2, s3, s4, s9, s10, s11, sd, dsB_of]
      exact fin ⟨rfl, _, _, am⟩
    · obtain ⟨y, hy⟩ : ∃ y, l[i]? = some y := ⟨_, List.getElem?_eq_getElem (by omega)⟩
      have hyl := List.mem_of_getElem? hy
      obtain ⟨hyc, hyt⟩ := hl y hyl
      obtain ⟨y1, y2, y3, y4⟩ := isC_lt hyc
      obtain ⟨j, hj⟩ := List.getElem?_of_mem hyt
      have hstep : markL f.s f.st.length a (l.take (i + 1)) = mark1 f.s f.st.length (markL f.s f.st.length a (l.take i)) y := by
        rw [List.take_add_one, hy]
        simp [markL]
      generalize hA : markL f.s f.st.length a (l.take i) = A at am hop hrl hstep
      obtain ⟨sn, m, os, pl, ac, rfl, hpl⟩ := am.fe
      have kc := hcell H1 _ am.m rfl rfl rfl i y hy
      have hrl1 : Rl n ((f.uSeen sn).uOrder m os pl ac) := ⟨hr.vals, hr.lv⟩
      have clv := am.m.clvl hrl1 hj
      rw [neg_var] at clv
      have csn := am.m.cseen y3
      rw [am.seen _ (by omega)] at csn
      have hlv : f.s.lv (y / 2) = lev f.st j := lv_of hi hj
      have c0 : cellH H1 ⟨xs, 0, none⟩ = some (sp p) := am.bs.cell 0
      have c12 : cellH H1 ⟨p, 12, none⟩ = some (sl k.bs (n + 1)) := am.m.c 12
      have c10 : cellH H1 ⟨p, 10, none⟩ = some (sl k.bl (n + 1)) := am.m.c 10
      have hh := half y
      have hi1 : (i : Int) + 1 = ((i + 1 : Nat) : Int) := by omega
      by_cases hseen : A.seen (y / 2) = true
      · rw [hseen] at csn
        have hm : mark1 f.s f.st.length A y = A := by unfold mark1; rw [if_pos (.inl hseen)]
        simp (disch := omega) only [go_sem, ↓cw_block, dsB_of, s1, s2, s3, s4, s9, s10, s11, sd, kc, c0, c12, hh, csn]
        exact fin ⟨l.length - (i + 1), by omega, i + 1, _, rv', rfl, by omega, by simp (disch := omega) only [go_sem, ↓cw_block, dsB_of, s1, s2, s3, s4, s9, s10, s11, sd, hi1], by rw [hstep, hm]; exact am, by rw [hstep, hm]; omega, by rw [hstep, hm]; omega⟩
      · simp only [Bool.not_eq_true] at hseen
        rw [hseen] at csn
        by_cases h0 : lev f.st j = 0
        · have hm : mark1 f.s f.st.length A y = A := by unfold mark1; rw [if_pos (.inr (by rw [hlv]; exact h0))]
          have clv' : cellH H1 ⟨k.bl, y / 2, none⟩ = some (iv ((0 : Nat) : Int)) := by rw [← h0]; exact clv
          simp (disch := omega) only [go_sem, ↓cw_block, dsB_of, s1, s2, s3, s4, s9, s10, s11, sd, kc, c0, c12, c10, hh, csn, clv']
          exact fin ⟨l.length - (i + 1), by omega, i + 1, _, rv', rfl, by omega, by simp (disch := omega) only [go_sem, ↓cw_block, dsB_of, s1, s2, s3, s4, s9, s10, s11, sd, hi1], by rw [hstep, hm]; exact am, by rw [hstep, hm]; omega, by rw [hstep, hm]; omega⟩
        · have hc : ¬ (A.seen (y / 2) = true ∨ f.s.lv (y / 2) = 0) := by rw [hseen, hlv]; simp [h0]
          obtain ⟨H2, w2, m2, e2⟩ := am.m.putSeen (x := y / 2) y3 true
          have am2 : AM H0 ow H2 p n k f ((f.uSeen (sn.set (y / 2) true)).uOrder m os pl ac) xs xh xo xr rv' r0 { A with seen := up1 A.seen (y / 2) true } := by
            refine am.step m2 e2 ⟨_, m, os, pl, ac, rfl, hpl⟩ fun v hv => ?_
            have hsl : sn.length = n + 1 := am.m.ns
            show bt (sn.set (y / 2) true) v = _
            unfold Go.Sat.up1
            by_cases e : v = y / 2
            · subst e; rw [if_pos rfl, bt_set_eq (by rw [hsl]; exact y3)]
            · rw [if_neg e, bt_set_ne (Ne.symm e)]; exact am.seen v hv
          have d0 : cellH H2 ⟨xs, 0, none⟩ = some (sp p) := am2.bs.cell 0
          have d7 : cellH H2 ⟨p, 7, none⟩ = some (pv k.ho) := am2.m.c 7
          have d17 : cellH H2 ⟨p, 17, none⟩ = some (iv f.step) := am2.m.c 17
          simp (disch := omega) only [go_sem, ↓cw_block, dsB_of, s1, s2, s3, s4, s9, s10, s11, sd, kc, c0, c12, c10, hh, csn, clv, w2]
          refine draw0 (lk [(0, true), (1, true), (2, true), (3, true), (4, true), (5, true), (6, true), (7, true), (8, true)] (.act 9 .fin .non)) T.mixed ?_
          simp (disch := omega) only [go_sem, ↓cw_block, dsB_of, s1, s2, s3, s4, s9, s10, s11, sd, d0, d7, d17]
          refine call_to (bump_yes am2.m.order.hg (by omega) (by omega) hst.1 (by omega)) ?_
          rintro v H3 ⟨rfl, f3, os3, pl3, g3, hp3⟩
          have hf3 : Fr [k.ho, k.hb, k.hp, k.ha] H2 H3 := f3.mono (fun b _ hb => by simp only [List.mem_cons] at hb ⊢; exact .inr hb)
          have m3 := am2.m.setOrder g3 hf3
          have e3 : Ex H2 ow H3 ow := Ex.of (R := fun r => 11 ≤ r ∧ r ≤ 14) (Sm.of hf3 (by
            intro b hb
            have q1 := am2.m.order.o1; have q2 := am2.m.order.o2; have q3 := am2.m.order.o3; have q4 := am2.m.order.o4
            simp only [List.mem_cons, List.not_mem_nil, or_false] at hb
            rcases hb with rfl | rfl | rfl | rfl <;> omega)) (by omega)
          have am3 := am2.step (sv := up1 A.seen (y / 2) true) m3 e3 ⟨sn.set (y / 2) true, m, os3, pl3, _, rfl, fun v => (hp3 v).trans (hpl v)⟩ am2.seen
          have q0 : cellH H3 ⟨xs, 0, none⟩ = some (sp p) := am3.bs.cell 0
          have qh : cellH H3 ⟨xh, 0, none⟩ = some (iv f.st.length) := am3.bh.cell 0
          have q10 : cellH H3 ⟨p, 10, none⟩ = some (sl k.bl (n + 1)) := am3.m.c 10
          have qlv := am3.m.clvl ⟨hr.vals, hr.lv⟩ hj
          rw [neg_var] at qlv
          simp (disch := omega) only [go_sem, ↓cw_block, dsB_of, s1, s2, s3, s4, s9, s10, s11, sd]
          refine draw0 (lk [(0, true), (1, true), (2, true), (3, true), (4, true), (5, true), (6, true), (7, true), (8, true)] .fin) T.mixed ?_
          simp (disch := omega) only [go_sem, ↓cw_block, dsB_of, s1, s2, s3, s4, s9, s10, s11, sd, q0, qh, q10, qlv]
          refine cond_dec (fun hb => ?_) (fun hb => ?_)
          · have hlh : lev f.st j = f.st.length := by exact_mod_cast hb
            have hm : mark1 f.s f.st.length A y = ⟨up1 A.seen (y / 2) true, A.opn + 1, A.r⟩ := by unfold mark1; rw [if_neg hc, if_pos (by rw [hlv]; exact hlh)]
            have qo : cellH H3 ⟨xo, 0, none⟩ = some (iv A.opn) := am3.bo.cell 0
            obtain ⟨H4, w4, am4⟩ := am3.opn (A.opn + 1)
            have hio : (A.opn : Int) + 1 = ((A.opn + 1 : Nat) : Int) := by omega
            simp (disch := omega) only [go_sem, ↓cw_block, dsB_of, s1, s2, s3, s4, s9, s10, s11, sd, qo, hio, w4]
            exact fin ⟨l.length - (i + 1), by omega, i + 1, _, rv', rfl, by omega, by simp (disch := omega) only [go_sem, ↓cw_block, dsB_of, s1, s2, s3, s4, s9, s10, s11, sd, hi1], by rw [hstep, hm]; exact am4, by rw [hstep, hm]; show A.opn + 1 ≤ _; omega, by rw [hstep, hm]; show A.r.length ≤ _; omega⟩
          · have hlh : lev f.st j ≠ f.st.length := fun e => hb (by exact_mod_cast e)
            have hm : mark1 f.s f.st.length A y = ⟨up1 A.seen (y / 2) true, A.opn, A.r ++ [y]⟩ := by unfold mark1; rw [if_neg hc, if_neg (by rw [hlv]; exact hlh)]
            have qr : cellH H3 ⟨xr, 0, none⟩ = some rv' := am3.br.cell 0
            simp (disch := omega) only [go_sem, ↓cw_block, dsB_of, s1, s2, s3, s4, s9, s10, s11, sd, qr]
            refine app_lit1 T.el26 rfl am3.vr rfl (by rw [nv_len]; show (2 * (A.r.length + 1 + 1) + 200) * _ ≤ _; omega) ?_
            intro v' H4 g1 g2 g3 g4
            obtain ⟨a', c', rfl⟩ := g4
            obtain ⟨H5, w5, am5⟩ := am3.app (x := y) g1 g2 g3
            simp (disch := omega) only [go_sem, ↓cw_block, dsB_of, s1, s2, s3, s4, s9, s10, s11, sd, w5]
            exact fin ⟨l.length - (i + 1), by omega, i + 1, _, _, rfl, by omega, by simp (disch := omega) only [go_sem, ↓cw_block, dsB_of, s1, s2, s3, s4, s9, s10, s11, sd, hi1], by rw [hstep, hm]; exact am5, by rw [hstep, hm]; show A.opn ≤ _; omega, by rw [hstep, hm]; show (A.r ++ [y]).length ≤ _; simp; omega⟩
end
end Go.Proofs.YtofooamimiijlaaGreat

namespace Go.Dfr
open Go.HL
set_option linter.unusedSimpArgs false
set_option linter.unusedVariables false
variable {H : Heap} {P : Program}

/-- A call at the normal end of another one. -/
def DCall (P : Program) (g : FuncId) (args : Array Value) (H : Heap) (R : Heap → Prop) : Prop :=
  ∀ (w : World), w.heap = H → CallsD P g args .returning w fun e u' w' => u' = .returning ∧ HL.Rest w w' ∧ (∃ v, e = .returned v) ∧ R w'.heap
theorem dcall_of {g : FuncId} {fn : Func} {c : Code} {args : Array Value} {R : Heap → Prop}
    (hf : P.funcs[g]? = some fn) (hb : fn.body = some c) (hs : args.size ≤ fn.ntmps)
    (h : CW fn.ntmps P c (bodyQ P fn (fun _ H => R H) (fun _ _ => False)) (enArgs args) H) : DCall P g args H R := by
  intro w hw
  refine CallsD.mono (callsD_of_wp (R := fun e w' => HL.Rest w w' ∧ (∃ v, e = .returned v) ∧ R w'.heap) hf hb ?_) fun e u' w' ⟨h1, h2⟩ => ⟨h1, h2⟩
  refine wp_mono (h w w _ (Rest.refl w) hw ⟨?_, fun t => ?_, rfl⟩) ?_
  · simp; omega
  · simp only [enArgs]
    rw [Array.getD_eq_getD_getElem?, Array.getD_eq_getD_getElem?, Array.getElem?_append]
    split
    · rfl
    · rename_i ht
      rw [Array.getElem?_eq_none (xs := args) (by omega), Array.getElem?_replicate]
      split <;> rfl
  · rintro e a' w' ⟨hr, ρ', ha', hx⟩
    cases e with
    | normal =>
      obtain ⟨hd, v, hv, hR⟩ := hx
      exact ⟨ha'.2.2.trans hd, v, by rw [resE_eq ha']; exact qrun_sound P _ w' v hv, hr, ⟨v, rfl⟩, hR⟩
    | ret =>
      obtain ⟨hd, v, hv, hR⟩ := hx
      exact ⟨ha'.2.2.trans hd, v, by rw [resE_eq ha']; exact qrun_sound P _ w' v hv, hr, ⟨v, rfl⟩, hR⟩
    | panic ch => exact hx.2.elim
    | _ => exact hx.elim
/-! ### The function itself -/
def dfrQ (P : Program) (rs : List ResultVar) (R : Value → Heap → Prop) : Exit → En → Heap → Prop
  | .normal, ρ, H | .ret, ρ, H => ∃ g cap xs fng, ρ.ds = [⟨.fn (.func g) cap, xs⟩] ∧ P.funcs[g]? = some fng ∧ fng.body.isSome = true ∧ (fng.name == "runtime.NumGoroutine") = false ∧
      DCall P g (xs ++ cap) H fun H' => resL P ρ H' rs fun vs => R (tupV vs) H'
  | _, _, _ => False
theorem resV {fn : Func} {rs : List ResultVar} {R : Value → Heap → Prop} {ρ : En} (hr : fn.results = rs.toArray) (h : resL P ρ H rs fun vs => R (tupV vs) H) : ∃ v, qrun P (resE fn ρ) H = some v ∧ R v H := by
  have := retQ_sound (P := P) (R := R) (E := fun _ _ => False) hr .normal { ρ with ds := [] } H ⟨rfl, by
    have key : ∀ (rs : List ResultVar) (k : List Value → Prop), resL P ρ H rs k → resL P { ρ with ds := [] } H rs k := by
      intro rs
      induction rs with
      | nil => intro k h; exact h
      | cons r rs ih =>
        intro k h
        cases r with
        | tmp t => exact ih _ h
        | cell a t =>
          unfold resL at h ⊢
          unfold ptrW at h ⊢
          show (match ρ.get a with | .pointer (some ad) => _ | _ => _)
          split at h
          · rename_i ad ha
            simp only [ha]
            rw [someW_iff] at h ⊢
            obtain ⟨v, h1, h2⟩ := h
            exact ⟨v, h1, ih _ h2⟩
          · exact h.elim
    exact key rs _ h⟩
  obtain ⟨_, v, h1, h2⟩ := this
  exact ⟨v, h1, h2⟩
theorem callF_dfr {f : FuncId} {fn : Func} {c : Code} {args : List Value} {rs : List ResultVar} {n : Nat} {R : Value → Heap → Prop}
    (hf : P.funcs[f]? = some fn) (hb : fn.body = some c) (hn : fn.ntmps = n) (hr : fn.results = rs.toArray) (hm : (fn.name == "runtime.NumGoroutine") = false)
    (hs : decide (args.length ≤ n) = true)
    (h : CW n P c (dfrQ P rs R) (enArgs args.toArray) H) : CallF P f args H R NoP := by
  unfold CallF callFunc
  rw [hwp_bind']
  show hwp P (match P.funcs[f]? with | none => _ | some fn => _) H _ _
  rw [hf]
  simp only [hm, Bool.false_eq_true, if_false, hb, Option.isNone_some]
  show HCalls P f args.toArray H R NoP
  subst hn
  intro w hw
  refine calls_of_wp_defers hf hb ?_
  refine wp_mono (h w w _ (Rest.refl w) hw ⟨?_, fun t => ?_, rfl⟩) ?_
  · have := of_decide_eq_true hs; simp; omega
  · simp only [enArgs]
    rw [Array.getD_eq_getD_getElem?, Array.getD_eq_getD_getElem?, Array.getElem?_append]
    split
    · rfl
    · rename_i ht
      rw [Array.getElem?_eq_none (xs := args.toArray) (by omega), Array.getElem?_replicate]
      split <;> rfl
  · have key : ∀ (a' : Act) (w' : World) (ρ' : En), HL.Rest w w' → Ag fn.ntmps a' ρ' → dfrQ P rs R .ret ρ' w'.heap → Leaves P fn a'.tmps (fun e w' => HL.Rest w w' ∧ match e with
        | .returned v => R v w'.heap
        | .panicked c => NoP c w'.heap
        | .outgrown => False) a'.defers .returning w' := by
      rintro a' w' ρ' hrest ha' ⟨g, cap, xs, fng, hd, hfg, hbg, hng, hcall⟩
      rw [ha'.2.2, hd]
      refine ⟨by simp, .func g, cap, g, xs ++ cap, rfl, ?_, (hcall w' rfl).mono ?_⟩
      · have : qrun P (invoke (.fn (.func g) cap) xs) w'.heap = some (.enter g (xs ++ cap)) := by
          show qrun P (callFunc g (xs ++ cap)) w'.heap = _
          unfold callFunc
          rw [qrun_bind']
          show qrun P (match P.funcs[g]? with | none => _ | some fn => _) _ = _
          rw [hfg]
          cases hb' : fng.body with
          | none => rw [hb'] at hbg; cases hbg
          | some c' => simp only [hng, Bool.false_eq_true, if_false, hb', Option.isNone_some]; rfl
        exact qrun_sound P _ w' _ this
      · rintro e u' w'' ⟨rfl, hr1, ⟨v, rfl⟩, hR⟩
        obtain ⟨v', hv', hR'⟩ := resV hr hR
        exact ⟨v', by rw [resE_eq ha']; exact qrun_sound P _ w'' v' hv', hrest.trans hr1, hR'⟩
    rintro e a' w' ⟨hrest, ρ', ha', hx⟩
    cases e with
    | normal => exact key a' w' ρ' hrest ha' hx
    | ret => exact key a' w' ρ' hrest ha' hx
    | _ => exact hx.elim

/-- The last operation of a region puts a call off. -/
def dfrK (f : Operand) (args : Array Operand) (Q : Exit → En → Heap → Prop) (ρ : En) (H : Heap) : Prop :=
  ∃ g, ρ.ev f = .func (.func g) #[] #[] ∧ Q .normal { ρ with ds := ⟨.fn (.func g) #[], args.map ρ.ev⟩ :: ρ.ds } H
def opsWpD (n : Nat) (P : Program) (ops : Array Oper) (f : Operand) (args : Array Operand) (Q : Exit → En → Heap → Prop) : List Oper → En → Heap → Prop
  | [], ρ, H => dfrK f args Q ρ H
  | o :: rest, ρ, H => opG n P ops o ρ H (opsWpD n P ops f args Q rest) Q
theorem opsWpD_sound {n : Nat} {ops : Array Oper} {f : Operand} {args : Array Operand} {Q : Exit → En → Heap → Prop} {w0 : World} {ats : Array TypeId} {ty : TypeId} {pos : String} {aft : Array Edge} :
    ∀ (l : List Nat) (ol : List Oper), l.map (ops[·]?) = (ol ++ [(⟨none, .defer ⟨.value f, args, ats⟩, ty, pos, aft, none⟩ : Oper)]).map some → ∀ (ρ : En) (w : World) (a : Act), HL.Rest w0 w → Ag n a ρ → opsWpD n P ops f args Q ol ρ w.heap →
      wpOps P ops (upQ n w0 Q) l a w := by
  intro l
  induction l with
  | nil => intro ol hol; simp at hol
  | cons i l ih =>
    intro ol hol ρ w a h0 ha h
    cases ol with
    | nil =>
      simp only [List.nil_append, List.map_cons, List.map_nil, List.cons.injEq, List.map_eq_nil_iff] at hol
      obtain ⟨ho, hl⟩ := hol
      subst hl
      rw [wpOps_cons]
      unfold wpOp
      rw [ho]
      simp only
      have hw : Region.wanted (⟨none, .defer ⟨.value f, args, ats⟩, ty, pos, aft, none⟩ : Oper) (yielded ops a.tmps) = true := rfl
      rw [if_pos hw]
      left
      obtain ⟨g, hg, hQ⟩ := h
      have hx : qrun P (execOp ρ.ev ⟨none, .defer ⟨.value f, args, ats⟩, ty, pos, aft, none⟩) w.heap = some (.defer ⟨.fn (.func g) #[], args.map ρ.ev⟩) := by
        show qrun P (do pure (Next.defer (← Deferred.ofValue (ρ.ev f) (args.map ρ.ev)))) w.heap = _
        rw [hg, qrun_bind']
        have : qrun P (Deferred.ofValue (.func (.func g) #[] #[]) (args.map ρ.ev)) w.heap = some ⟨.fn (.func g) #[], args.map ρ.ev⟩ := by
          show qrun P (pure (Deferred.mk (.fn (.func g) #[]) (#[] ++ args.map ρ.ev))) w.heap = _
          rw [Array.empty_append]
          rfl
        rw [this]
        rfl
      have hop : opWp n P ⟨none, .defer ⟨.value f, args, ats⟩, ty, pos, aft, none⟩ ρ w.heap (fun ρ H => Q .normal ρ H) Q := hwp_of_qrun P _ _ _ _ _ hx hQ
      exact opWp_sound h0 ha hop
    | cons o ol =>
      simp only [List.cons_append, List.map_cons, List.cons.injEq] at hol
      obtain ⟨ho, hol⟩ := hol
      rw [wpOps_cons]
      unfold wpOp
      rw [ho]
      have h' := opG_sound h0 ha h
      simp only
      split
      · rename_i hw
        rw [if_pos hw] at h'
        exact h'.imp (Oper.wp_mono (fun a' w' ⟨hr, ρ', ha', hk⟩ => ih ol hol ρ' w' a' hr ha' hk)) id
      · rename_i hw
        rw [if_neg hw] at h'
        obtain ⟨hr, ρ', ha', hk⟩ := h'
        exact ih ol hol ρ' w _ hr ha' hk
theorem region_dfr {n id : Nat} {ops : Array Oper} {f : Operand} {args : Array Operand} {Q : Exit → En → Heap → Prop} {ρ : En} {ats : Array TypeId} {ty : TypeId} {pos : String} {aft : Array Edge} (l0 : List Oper)
    (hops : ops.toList = l0 ++ [(⟨none, .defer ⟨.value f, args, ats⟩, ty, pos, aft, none⟩ : Oper)]) (h : opsWpD n P ops f args Q l0 ρ H) : CW n P (.region id ops false) Q ρ H := by
  intro w0 w a h0 hw ha
  subst hw
  refine wp_region (opsWpD_sound (ats := ats) (ty := ty) (pos := pos) (aft := aft) _ l0 ?_ ρ w a h0 ha h)
  rw [← hops]
  apply List.ext_getElem?
  intro i
  simp only [List.getElem?_map]
  by_cases hi : i < ops.size
  · simp [hi]
  · simp [hi]
theorem CW.seq2 {n : Nat} {x y : Code} {Q : Exit → En → Heap → Prop} {ρ : En} (h : CW n P x (seqQ (CW n P y Q) Q) ρ H) : CW n P (.seq x y) Q ρ H := by
  intro w0 w a h0 hw ha
  refine wp_seq (wp_mono (h w0 w a h0 hw ha) ?_)
  rintro e a' w' ⟨hr, ρ', ha', hx⟩
  cases e with
  | normal => exact hx w0 w' a' hr rfl ha'
  | _ => exact ⟨hr, ρ', ha', hx⟩
/-- A function's own code meets a contract. -/
structure CallC (P : Program) (f : FuncId) (args : List Value) (H : Heap) (R : Value → Heap → Prop) : Prop where
  ex : ∃ fn c rs n, P.funcs[f]? = some fn ∧ fn.body = some c ∧ fn.ntmps = n ∧ fn.results = rs.toArray ∧ (fn.name == "runtime.NumGoroutine") = false ∧ decide (args.length ≤ n) = true ∧ cw n P c (retQ P rs R NoP) (enArgs args.toArray) H
theorem callC_of {f : FuncId} {fn : Func} {c : Code} {args : List Value} {rs : List ResultVar} {n : Nat} {R : Value → Heap → Prop}
    (hf : P.funcs[f]? = some fn) (hb : fn.body = some c) (hn : fn.ntmps = n) (hr : fn.results = rs.toArray) (hm : (fn.name == "runtime.NumGoroutine") = false)
    (hs : decide (args.length ≤ n) = true)
    (h : cw n P c (retQ P rs R NoP) (enArgs args.toArray) H) : CallC P f args H R := ⟨fn, c, rs, n, hf, hb, hn, hr, hm, hs, h⟩
theorem CallC.callF {f : FuncId} {args : List Value} {R : Value → Heap → Prop} (h : CallC P f args H R) : CallF P f args H R NoP := by
  obtain ⟨fn, c, rs, n, hf, hb, hn, hr, hm, hs, h⟩ := h.ex
  exact callF_of hf hb hn hr hm hs h
theorem CallC.dcall {f : FuncId} {args : List Value} {R : Value → Heap → Prop} (h : CallC P f args H R) : DCall P f args.toArray H fun H' => ∃ v, R v H' := by
  obtain ⟨fn, c, rs, n, hf, hb, hn, hr, hm, hs, h⟩ := h.ex
  subst hn
  refine dcall_of hf hb (by simpa using hs) (CW.mono (fun e ρ H hx => ?_) (CW.mono (retQ_sound hr) (cw_sound c _ _ _ h)))
  cases e with
  | normal => obtain ⟨h1, v, h2, h3⟩ := hx; exact ⟨h1, v, h2, v, h3⟩
  | ret => obtain ⟨h1, v, h2, h3⟩ := hx; exact ⟨h1, v, h2, v, h3⟩
  | panic ch => exact hx.2.elim
  | _ => exact hx.elim
theorem resL_mono {ρ : En} : ∀ (rs : List ResultVar) (k k' : List Value → Prop), (∀ vs, k vs → k' vs) → resL P ρ H rs k → resL P ρ H rs k'
  | [], k, k', hk, h => hk _ h
  | .tmp t :: rs, k, k', hk, h => resL_mono rs _ _ (fun vs => hk _) h
  | .cell a t :: rs, k, k', hk, h => by
    unfold resL at h ⊢
    unfold ptrW at h ⊢
    split at h
    · rename_i ad ha
      simp only [someW_iff] at h ⊢
      obtain ⟨v, h1, h2⟩ := h
      exact ⟨v, h1, resL_mono rs _ _ (fun vs => hk _) h2⟩
    · exact h.elim
theorem CallC.mono {f : FuncId} {args : List Value} {R R' : Value → Heap → Prop} (h : CallC P f args H R) (hR : ∀ v H', R v H' → R' v H') : CallC P f args H R' := by
  obtain ⟨fn, c, rs, n, hf, hb, hn, hr, hm, hs, h⟩ := h.ex
  refine ⟨fn, c, rs, n, hf, hb, hn, hr, hm, hs, cw_mono c (fun e ρ H' hx => ?_) h⟩
  cases e with
  | normal => exact ⟨hx.1, resL_mono rs _ _ (fun vs => hR _ _) hx.2⟩
  | ret => exact ⟨hx.1, resL_mono rs _ _ (fun vs => hR _ _) hx.2⟩
  | panic ch => exact hx
  | _ => exact hx
end Go.Dfr

namespace Go.Proofs.YtofooamimiijlaaGreat
open Go.HL HM Go.Sat
set_option maxRecDepth 10000
set_option linter.unusedSimpArgs false
set_option linter.unusedVariables false

def zrea (rea : Nat → Option Nat) (l : List Nat) : Nat → Option Nat := fun v => if v ∈ l.map (· / 2) then none else rea v
theorem zrea_nil {rea : Nat → Option Nat} : zrea rea [] = rea := by funext v; simp [zrea]
theorem zrea_app {rea : Nat → Option Nat} {l : List Nat} {x : Nat} : zrea rea (l ++ [x]) = upd (zrea rea l) (x / 2) none := by
  funext v
  unfold zrea upd
  by_cases h : v = x / 2
  · subst h; simp
  · simp [h]
theorem zap_app {vs : List Int} {l : List Nat} {x : Nat} : zap vs (l ++ [x]) = ((zap vs l).set x 0).set (neg x) 0 := by simp [zap]
section
variable {H : Heap} {ow : Nat → Nat} {p n : Nat} {k : Bk} {f : Cf}
theorem VR.take {r e : Nat} {a : Option Addr} {m cap : Nat} {vs : List Value} (h : VR H ow r e 1 (.slice a m cap) vs) {j : Nat} (hj : j ≤ m) : VR H ow r e 1 (.slice a j cap) (vs.take j) := by
  rcases h.vec.ex with ⟨e1, e2⟩ | ⟨b, len, cap', pre, rest, e1, hb, h2, h3, h4⟩
  · simp only [Value.slice.injEq] at e1
    obtain ⟨rfl, rfl, rfl⟩ := e1
    have : j = 0 := by omega
    subst this e2
    exact VR.nil
  · simp only [Value.slice.injEq] at e1
    obtain ⟨rfl, rfl, rfl⟩ := e1
    rw [Nat.mul_one] at h2 h3
    refine ⟨⟨.inr ⟨b, j, cap, pre, vs.drop j ++ rest, rfl, ?_, by simp; omega, by simp; omega, by omega⟩⟩, h.ow⟩
    have : pre ++ vs.take j ++ (vs.drop j ++ rest) = pre ++ vs ++ rest := by
      rw [List.append_assoc, ← List.append_assoc (vs.take j), List.take_append_drop, List.append_assoc]
    rw [this]; exact hb
theorem nv_take {l : List Nat} {j : Nat} : nv (l.take j) = (nv l).take j := by simp [nv, List.map_take]
def Cf.keyB (f : Cf) := (f.key, f.w, f.ws, f.lits, f.lb, f.l2)
set_option maxHeartbeats 1000000 in
/-- Going back to a level. -/
theorem sBack_c (h : RM H ow p n k f) (hr : Rl n f) (hi : Inv n f.s) (hn : n ≤ 1000) {L : Nat} (hL : L < f.st.length) :
    Go.Dfr.CallC Tryz.prog 61 [sp p, iv L] H (fun v H' => v = .tuple #[] ∧ ∃ f', RM H' ow p n k f' ∧ Rl n f' ∧ Ex H ow H' ow ∧ f'.s = f.s.cut L f.st[L] ∧ f'.head = f.st[L] ∧ f'.keyB = f.keyB ∧
      ∀ v, (nt f'.pl v = -1 ↔ nt f.pl v = -1 ∧ v ∉ (f.tr.drop f.st[L]).map (· / 2))) := by
  obtain ⟨from', hfr⟩ : ∃ q, q = f.st[L] := ⟨_, rfl⟩
  rw [← hfr]
  have hfl : from' ≤ f.tr.length := by rw [hfr]; exact hi.bound _ (List.getElem_mem hL)
  have htn : f.tr.length ≤ n := hi.ok.len
  have hstL : f.st[L]? = some from' := by rw [List.getElem?_eq_getElem hL, hfr]
  obtain ⟨sb, so, sc, es, -, ks⟩ := h.starts.cell (nv_get hstL)
  rw [nv_len] at es
  obtain ⟨ta, tc, et⟩ := h.trail.form
  rw [nv_len] at et
  have htc : f.tr.length ≤ tc := by
    rcases h.trail.vec.ex with ⟨e, e2⟩ | ⟨b', len, cap', pre, rest, e, _, _, _, hle⟩
    · rw [et] at e; simp only [Value.slice.injEq] at e; omega
    · rw [et] at e; simp only [Value.slice.injEq] at e; omega
  have hsc : f.st.length ≤ sc := by
    rcases h.starts.vec.ex with ⟨e, e2⟩ | ⟨b', len, cap', pre, rest, e, _, _, _, hle⟩
    · rw [es] at e; simp only [Value.slice.injEq] at e; omega
    · rw [es] at e; simp only [Value.slice.injEq] at e; omega
  have c15 : cellH H ⟨p, 15, none⟩ = some (.slice (some ⟨sb, so, none⟩) f.st.length sc) := by rw [← es]; exact h.c 15
  have c14 : cellH H ⟨p, 14, none⟩ = some (.slice ta f.tr.length tc) := by rw [← et]; exact h.c 14
  refine Go.Dfr.callC_of Tryz.func61 rfl Tryz.ntmps61 Tryz.results61 (by decide) rfl ?_
  simp (disch := omega) only [go_sem, ↓cw_block, dsB_of, c15, ks, c14]
  refine loop_by (fun j ρ H1 => ∃ (i m : Nat) (os pl ac : List Int), j = f.tr.length - from' - i ∧ i ≤ f.tr.length - from' ∧
    (ρ.get 0 = sp p ∧ ρ.get 1 = iv L ∧ ρ.get 4 = iv from' ∧ ρ.get 26 = .slice (if tc = from' then ta else ta.map (·.add from')) (f.tr.length - from') (tc - from') ∧ ρ.get 27 = iv ((f.tr.length - from' : Nat) : Int) ∧ ρ.get 28 = iv i ∧ ρ.ds = []) ∧
    RM H1 ow p n k (((f.uVals (zap f.vals ((f.tr.drop from').take i))).uRea (zrea f.rea ((f.tr.drop from').take i))).uOrder m os pl ac) ∧ Ex H ow H1 ow ∧
    ∀ v, (nt pl v = -1 ↔ nt f.pl v = -1 ∧ v ∉ ((f.tr.drop from').take i).map (· / 2))) (k := f.tr.length - from') ?_ ?_
  · refine ⟨0, f.m, f.os, f.pl, f.ac, rfl, by omega, by simp (disch := omega) only [go_sem, ↓cw_block, dsB_of], ?_, Ex.refl, fun v => by simp⟩
    have : zrea f.rea ((f.tr.drop from').take 0) = f.rea := zrea_nil
    rw [this]
    exact h
  · rintro _ ρ H1 ⟨i, m, os, pl, ac, rfl, hil, ⟨r0, r1, r4, r26, r27, r28, rd⟩, m1, e1, hpl⟩
    by_cases hie : i = f.tr.length - from'
    · subst hie
      have htk : (f.tr.drop from').take (f.tr.length - from') = f.tr.drop from' := List.take_of_length_le (by simp)
      rw [htk] at m1 hpl
      have d14 : cellH H1 ⟨p, 14, none⟩ = some (.slice ta f.tr.length tc) := by rw [← et]; exact m1.c 14
      have hv := m1.trail
      have hv' : VR H1 ow 8 3 1 (.slice ta from' tc) (nv (f.tr.take from')) := by
        rw [nv_take]
        have hv2 : VR H1 ow 8 3 1 (.slice ta f.tr.length tc) (nv f.tr) := by rw [← et]; exact hv
        exact hv2.take hfl
      obtain ⟨H2, w2, m2, e2⟩ := m1.putTrail hv'
      have d15 : cellH H2 ⟨p, 15, none⟩ = some (.slice (some ⟨sb, so, none⟩) f.st.length sc) := by rw [← es]; exact m2.c 15
      have hu : VR H2 ow 9 3 1 (.slice (some ⟨sb, so, none⟩) L sc) (nv (f.st.take L)) := by
        rw [nv_take]
        have hv2 : VR H2 ow 9 3 1 (.slice (some ⟨sb, so, none⟩) f.st.length sc) (nv f.st) := by rw [← es]; exact m2.starts
        exact hv2.take (by omega)
      obtain ⟨H3, w3, m3, e3⟩ := m2.putStarts hu
      obtain ⟨H4, w4, m4, e4⟩ := m3.putHead from'
      simp (disch := omega) only [go_sem, ↓cw_block, dsB_of, r0, r1, r4, r26, r27, r28, rd, d14, w2, d15, w3, w4, dsB_of]
      refine fin ⟨rfl, _, m4, ⟨?_, ?_⟩, e1.trans ((e2.trans e3).trans e4), ?_, rfl, rfl, hpl⟩
      · show zap f.vals (f.tr.drop from') = (f.s.cut L from').vals n
        rw [hr.vals, vals_cut hi]; rfl
      · intro j y hy
        have hy' : (f.tr.take from')[j]? = some y := hy
        obtain ⟨hy2, hj⟩ := take_at hy'
        show f.lvls[y / 2]? = some (lev (f.st.take L) j)
        have hlt : lev (f.st.take L) j = lev f.st j := lev_take hi.sorted hL (by show j < f.st[L]; rw [← hfr]; exact hj)
        rw [hlt]
        exact hr.lv j y hy2
      · rfl
    · obtain ⟨x, hx⟩ : ∃ x, f.tr[from' + i]? = some x := ⟨_, List.getElem?_eq_getElem (by omega)⟩
      have hxc : isC n x := hi.ok.code x (List.mem_of_getElem? hx)
      obtain ⟨x1, x2, x3, x4⟩ := isC_lt hxc
      have hxd : (f.tr.drop from').take (i + 1) = (f.tr.drop from').take i ++ [x] := by
        rw [List.take_add_one, List.getElem?_drop, hx]; rfl
      obtain ⟨tb, to, tc', e, -, kx⟩ := m1.trail.cell (nv_get hx)
      rw [nv_len] at e
      have e' : f.trail = _ := e
      rw [et] at e'
      simp only [Value.slice.injEq, true_and] at e'
      obtain ⟨rfl, rfl⟩ := e'
      have hne : ¬ tc = from' := by omega
      rw [if_neg hne] at r26
      have c9 : cellH H1 ⟨p, 9, none⟩ = some (sl k.bv (2 * n + 2)) := m1.c 9
      have ex := fun V t xo yo => bin_xor1 (V := V) (t := t) (xo := xo) (yo := yo) (n := x) (by omega)
      have hh := half x
      have hi1 : (i : Int) + 1 = ((i + 1 : Nat) : Int) := by omega
      obtain ⟨H2, w2, m2, e2⟩ := m1.putVal (x := x) x1 0
      obtain ⟨H3, w3, m3, e3⟩ := m2.putVal (x := neg x) x2 0
      have c11 : cellH H3 ⟨p, 11, none⟩ = some (sl k.br (n + 1)) := m3.c 11
      obtain ⟨H4, w4, m4, e4⟩ := m3.putRea (x := x / 2) x3 none
      have c7 : cellH H4 ⟨p, 7, none⟩ = some (pv k.ho) := m4.c 7
      have m4' : RM H4 ow p n k (((f.uVals (zap f.vals ((f.tr.drop from').take (i + 1)))).uRea (zrea f.rea ((f.tr.drop from').take (i + 1)))).uOrder m os pl ac) := by
        rw [hxd, zap_app, zrea_app]; exact m4
      have w4' : wr H3 ⟨k.br, x / 2, none⟩ (.pointer none) = some H4 := w4
      have r26' : ρ.get 26 = .slice (some ⟨tb, to + from', none⟩) (f.tr.length - from') (tc - from') := by rw [r26]; simp only [Option.map_some, addr_add]
      rw [← Nat.add_assoc] at kx
      have fine : ∀ (H5 : Heap) (m' : Nat) (os' pl' ac' : List Int), HG H5 k.ho k.hb k.hp k.ha n m' os' pl' ac' → Fr [k.ho, k.hb, k.hp, k.ha] H4 H5 → (∀ v, (nt pl' v = -1 ↔ nt pl v = -1 ∧ v ≠ x / 2)) →
          RM H5 ow p n k (((f.uVals (zap f.vals ((f.tr.drop from').take (i + 1)))).uRea (zrea f.rea ((f.tr.drop from').take (i + 1)))).uOrder m' os' pl' ac') ∧ Ex H ow H5 ow ∧ ∀ v, (nt pl' v = -1 ↔ nt f.pl v = -1 ∧ v ∉ ((f.tr.drop from').take (i + 1)).map (· / 2)) := by
        intro H5 m' os' pl' ac' hg hf hp5
        have m5 := m4'.setOrder hg hf
        have e5 : Ex H4 ow H5 ow := Ex.of (R := fun r => 11 ≤ r ∧ r ≤ 14) (Sm.of hf (by
          intro b hb
          have q1 := m4'.order.o1; have q2 := m4'.order.o2; have q3 := m4'.order.o3; have q4 := m4'.order.o4
          simp only [List.mem_cons, List.not_mem_nil, or_false] at hb
          rcases hb with rfl | rfl | rfl | rfl <;> omega)) (by omega)
        refine ⟨m5, e1.trans ((e2.trans e3).trans (e4.trans e5)), fun v => ?_⟩
        rw [hp5, hpl, hxd]
        simp only [List.map_append, List.map_cons, List.map_nil, List.mem_append, List.mem_singleton, not_or, and_assoc]
      simp (disch := omega) only [go_sem, ↓cw_block, dsB_of, r0, r1, r4, r26', r27, r28, rd, kx]
      refine draw0 (lk [(0, true), (1, true), (2, true), (3, true), (4, true), (5, true), (6, true), (7, true), (8, true), (9, false), (10, false), (11, true)] (.act 12 (lk [(13, true)] (.actd 14 .fin)) .non)) T.mixed ?_
      simp (disch := omega) only [go_sem, ↓cw_block, dsB_of, r0, r1, r4, r26', r27, r28, rd, c9, ex, w2, w3, hh, c11, w4', c7]
      by_cases hin : nt pl (x / 2) = -1
      · refine call_to (put_yes m4'.order.hg (by omega) (by omega) hin) ?_
        rintro v H5 ⟨rfl, hf5, os5, pl5, hg5, hp5⟩
        obtain ⟨q1, q2, q3⟩ := fine H5 _ os5 pl5 ac hg5 (hf5.mono (fun b _ hb => by simp only [List.mem_cons, List.not_mem_nil, or_false] at hb ⊢; rcases hb with h1 | h1 | h1 <;> simp [h1])) hp5
        simp (disch := omega) only [go_sem, ↓cw_block, dsB_of, r0, r1, r4, r26', r27, r28, rd]
        exact fin ⟨f.tr.length - from' - (i + 1), by omega, i + 1, _, _, _, _, rfl, by omega, by simp (disch := omega) only [go_sem, ↓cw_block, dsB_of, r0, r1, r4, r26', r27, r28, rd, hi1, Option.map_some, addr_add, hne, if_false], q1, q2, q3⟩
      · refine call_to (put_no m4'.order.hg (v := ((x / 2 : Nat) : Int)) (by rintro ⟨_, _, h3⟩; exact hin h3)) ?_
        rintro v H5 ⟨rfl, rfl⟩
        obtain ⟨q1, q2, q3⟩ := fine H4 _ os pl ac m4'.order.hg (Fr.refl _ _) (fun v => ⟨fun h1 => ⟨h1, fun e => hin (e ▸ h1)⟩, fun h1 => h1.1⟩)
        simp (disch := omega) only [go_sem, ↓cw_block, dsB_of, r0, r1, r4, r26', r27, r28, rd]
        exact fin ⟨f.tr.length - from' - (i + 1), by omega, i + 1, _, _, _, _, rfl, by omega, by simp (disch := omega) only [go_sem, ↓cw_block, dsB_of, r0, r1, r4, r26', r27, r28, rd, hi1, Option.map_some, addr_add, hne, if_false], q1, q2, q3⟩
theorem sBack_noc (h : RM H ow p n k f) {L : Nat} (hL : f.st.length ≤ L) : Go.Dfr.CallC Tryz.prog 61 [sp p, iv L] H (fun v H' => v = .tuple #[] ∧ H' = H) := by
  obtain ⟨sa, sc, es⟩ := h.starts.form
  rw [nv_len] at es
  have c15 : cellH H ⟨p, 15, none⟩ = some (.slice sa f.st.length sc) := by rw [← es]; exact h.c 15
  refine Go.Dfr.callC_of Tryz.func61 rfl Tryz.ntmps61 Tryz.results61 (by decide) rfl ?_
  simp (disch := omega) only [go_sem, ↓cw_block, dsB_of, c15]
  exact fin ⟨rfl, rfl⟩
theorem sBack_spec (h : RM H ow p n k f) (hr : Rl n f) (hi : Inv n f.s) (hn : n ≤ 1000) {L : Nat} (hL : L < f.st.length) :
    CallF Tryz.prog 61 [sp p, iv L] H (fun v H' => v = .tuple #[] ∧ ∃ f', RM H' ow p n k f' ∧ Rl n f' ∧ Ex H ow H' ow ∧ f'.s = f.s.cut L f.st[L] ∧ f'.head = f.st[L] ∧ f'.keyB = f.keyB ∧
      ∀ v, (nt f'.pl v = -1 ↔ nt f.pl v = -1 ∧ v ∉ (f.tr.drop f.st[L]).map (· / 2))) NoP := (sBack_c h hr hi hn hL).callF
theorem sBack_no (h : RM H ow p n k f) {L : Nat} (hL : f.st.length ≤ L) : CallF Tryz.prog 61 [sp p, iv L] H (fun v H' => v = .tuple #[] ∧ H' = H) NoP := (sBack_noc h hL).callF
/-- How the activity grows. -/
theorem sGrow_spec (h : RM H ow p n k f) (hs : 1024 ≤ f.step ∧ f.step ≤ 1099511627776) :
    CallF Tryz.prog 78 [sp p] H (fun v H' => v = .tuple #[] ∧ ∃ st' m os pl ac, RM H' ow p n k ((f.uStep st').uOrder m os pl ac) ∧ Ex H ow H' ow ∧ (1024 ≤ st' ∧ st' ≤ 1099511627776) ∧ ∀ v, (nt pl v = -1 ↔ nt f.pl v = -1)) NoP := by
  have c17 : cellH H ⟨p, 17, none⟩ = some (iv f.step) := h.c 17
  obtain ⟨s2, hs2⟩ : ∃ s2, s2 = f.step + f.step / 16 := ⟨_, rfl⟩
  obtain ⟨H2, w2, m2, e2⟩ := h.putStep s2
  have d17 : cellH H2 ⟨p, 17, none⟩ = some (iv s2) := m2.c 17
  refine callF_of Tryz.func78 rfl Tryz.ntmps78 Tryz.results78 (by decide) rfl ?_
  refine draw0 (lk [(0, true), (1, true), (2, true), (3, true), (4, true), (5, true), (6, true), (7, true), (8, true), (9, true), (10, true), (11, true)] (.act 12 .fin .non)) T.mixed ?_
  have hq : f.step.fdiv (2 ^ min 4 64) = f.step / 16 := Int.fdiv_eq_ediv_of_nonneg _ (by decide)
  simp (disch := omega) only [go_sem, ↓cw_block, dsB_of, c17, hq, ← hs2]
  simp (disch := omega) only [go_sem, ↓cw_block, dsB_of, w2, d17]
  refine cond_dec (fun hb => ?_) (fun hb => ?_)
  · have d7 : cellH H2 ⟨p, 7, none⟩ = some (pv k.ho) := m2.c 7
    simp (disch := omega) only [go_sem, ↓cw_block, dsB_of, d7]
    refine call_to (halve_spec m2.order.hg) ?_
    rintro v H3 ⟨rfl, hf3, os3, pl3, hg3, hp3⟩
    have hf : Fr [k.ho, k.hb, k.hp, k.ha] H2 H3 := hf3.mono (fun b _ hb => by simp only [List.mem_cons] at hb ⊢; exact .inr hb)
    have m3 := m2.setOrder hg3 hf
    have e3 : Ex H2 ow H3 ow := Ex.of (R := fun r => 11 ≤ r ∧ r ≤ 14) (Sm.of hf (by
      intro b hb
      have q1 := m2.order.o1; have q2 := m2.order.o2; have q3 := m2.order.o3; have q4 := m2.order.o4
      simp only [List.mem_cons, List.not_mem_nil, or_false] at hb
      rcases hb with rfl | rfl | rfl | rfl <;> omega)) (by omega)
    have q17 : cellH H3 ⟨p, 17, none⟩ = some (iv s2) := m3.c 17
    have hq2 : s2.fdiv (2 ^ min 1 64) = s2 / 2 := Int.fdiv_eq_ediv_of_nonneg _ (by decide)
    obtain ⟨H4, w4, m4, e4⟩ := m3.putStep (s2 / 2)
    simp (disch := omega) only [go_sem, ↓cw_block, dsB_of, q17, hq2, w4]
    exact fin ⟨rfl, s2 / 2, _, _, _, _, m4, e2.trans (e3.trans e4), by omega, hp3⟩
  · simp (disch := omega) only [go_sem, ↓cw_block, dsB_of]
    exact fin ⟨rfl, s2, f.m, f.os, f.pl, f.ac, m2, e2, by omega, fun v => Iff.rfl⟩
end
end Go.Proofs.YtofooamimiijlaaGreat

namespace Go.Proofs.YtofooamimiijlaaGreat
open Go.HL HM Go.Sat
set_option maxRecDepth 10000
set_option linter.unusedSimpArgs false
set_option linter.unusedVariables false

section
variable {H : Heap}
/-- Numbers that can be read. -/
def Rn (H : Heap) (a : Option Addr) (xs : List Int) : Prop := ∀ (i : Nat) (x : Int), xs[i]? = some x → ∃ b o, a = some ⟨b, o, none⟩ ∧ cellH H ⟨b, o + i, none⟩ = some (iv x)
theorem index_spec {g c : Nat} {cap : List Value} {a : Option Addr} {xs : List Int} {P : Int → Bool} (hc : Rn H a xs) (hlen : xs.length ≤ 4611686018427387904)
    (hf : ∀ x ∈ xs, CallF Tryz.prog g (iv x :: cap) H (fun v H' => v = .bool (P x) ∧ H' = H) NoP) :
    CallF Tryz.prog 67 [.slice a xs.length c, .func (.func g) #[] cap.toArray] H (fun v H' => H' = H ∧ ∃ j : Int, v = iv j ∧ (0 ≤ j ↔ xs.any P = true)) NoP := by
  refine callF_of Tryz.func67 rfl Tryz.ntmps67 Tryz.results67 (by decide) rfl ?_
  simp (disch := omega) only [go_sem, ↓cw_block, dsB_of]
  refine loop_by (fun k ρ H1 => ∃ i : Nat, k = xs.length - i ∧ i ≤ xs.length ∧ (ρ.get 0 = .slice a xs.length c ∧ ρ.get 1 = .func (.func g) #[] cap.toArray ∧ ρ.get 7 = iv xs.length ∧ ρ.get 8 = iv i ∧ ρ.ds = []) ∧ H1 = H ∧ ∀ j x, j < i → xs[j]? = some x → P x = false) (k := xs.length) ?_ ?_
  · exact ⟨0, rfl, by omega, by simp (disch := omega) only [go_sem, ↓cw_block, dsB_of], rfl, fun j x hj => by omega⟩
  · rintro _ ρ H1 ⟨i, rfl, hi, ⟨r0, r1, r7, r8, rd⟩, rfl, hall⟩
    by_cases hie : i = xs.length
    · simp (disch := omega) only [go_sem, ↓cw_block, dsB_of, r0, r1, r7, r8, rd, dsB_of]
      refine fin ⟨rfl, -1, rfl, by omega, fun h => ?_⟩
      rw [List.any_eq_true] at h
      obtain ⟨x, hx, hp⟩ := h
      obtain ⟨j, hj⟩ := List.getElem?_of_mem hx
      have := hall j x (by have := (List.getElem?_eq_some_iff.1 hj).1; omega) hj
      rw [this] at hp; cases hp
    · obtain ⟨x, hx⟩ : ∃ x, xs[i]? = some x := ⟨_, List.getElem?_eq_getElem (by omega)⟩
      obtain ⟨b, o, rfl, kx⟩ := hc i x hx
      have hxm := List.mem_of_getElem? hx
      have hi1 : (i : Int) + 1 = ((i + 1 : Nat) : Int) := by omega
      have cb : ∀ {l : List Value} {H : Heap} {R : Value → Heap → Prop} {E : List PanicEntry → Heap → Prop}, @callB Tryz.prog (.func (.func g) #[] cap.toArray) l ⟨H⟩ ⟨R⟩ ⟨E⟩ = @CallB Tryz.prog g (l ++ cap) ⟨H⟩ ⟨R⟩ ⟨E⟩ := (rfl)
      simp (disch := omega) only [go_sem, ↓cw_block, dsB_of, r0, r1, r7, r8, rd, kx, cb]
      refine call_to (hf x hxm) ?_
      rintro v H2 ⟨rfl, rfl⟩
      simp (disch := omega) only [go_sem, ↓cw_block, dsB_of, r0, r1, r7, r8, rd]
      refine cond_b (fun hp => ?_) (fun hp => ?_)
      · simp (disch := omega) only [go_sem, ↓cw_block, dsB_of, r0, r1, r7, r8, rd, dsB_of]
        exact fin ⟨rfl, i, rfl, fun _ => by rw [List.any_eq_true]; exact ⟨x, hxm, hp⟩, fun _ => by omega⟩
      · simp (disch := omega) only [go_sem, ↓cw_block, dsB_of, r0, r1, r7, r8, rd]
        refine fin ⟨xs.length - (i + 1), by omega, i + 1, rfl, by omega, by simp (disch := omega) only [go_sem, ↓cw_block, dsB_of, r0, r1, r7, r8, rd, hi1], rfl, fun j y hj hy => ?_⟩
        by_cases hji : j = i
        · subst hji; rw [hx] at hy; have := Option.some.inj hy; subst this; exact hp
        · exact hall j y (by omega) hy
theorem contains_spec {g c : Nat} {cap : List Value} {a : Option Addr} {xs : List Int} {P : Int → Bool} (hc : Rn H a xs) (hlen : xs.length ≤ 4611686018427387904)
    (hf : ∀ x ∈ xs, CallF Tryz.prog g (iv x :: cap) H (fun v H' => v = .bool (P x) ∧ H' = H) NoP) :
    CallF Tryz.prog 50 [.slice a xs.length c, .func (.func g) #[] cap.toArray] H (fun v H' => H' = H ∧ v = .bool (xs.any P)) NoP := by
  refine callF_of Tryz.func50 rfl Tryz.ntmps50 Tryz.results50 (by decide) rfl ?_
  simp (disch := omega) only [go_sem, ↓cw_block, dsB_of]
  refine call_to (index_spec hc hlen hf) ?_
  rintro v H2 ⟨rfl, j, rfl, hj⟩
  simp (disch := omega) only [go_sem, ↓cw_block, dsB_of]
  refine fin ⟨rfl, ?_⟩
  congr 1
  by_cases h : 0 ≤ j
  · rw [hj.1 h]; simp [h]
  · have : xs.any P = false := by
      cases h2 : xs.any P
      · rfl
      · exact absurd (hj.2 h2) h
    rw [this]; simp [h]
theorem bin_sl_some {P : Program} {t e : TypeId} {xo yo : Operand} {a : Addr} {n c : Nat} (hu : P.underlying t = some (.slice e)) : binV P (full H) .eql t xo yo (.slice (some a) n c) (.slice none 0 0) = some (.bool false) := by
  show qrun P (do eqGuard .eql t xo yo (.slice (some a) n c) (.slice none 0 0); binOp .eql t (.slice (some a) n c) (.slice none 0 0)) H = _
  rw [qrun_bind']
  show qrun P (do pure (Value.bool (← Op.equal t (.slice (some a) n c) (.slice none 0 0)))) H = _
  have e : qrun P (Op.equal t (.slice (some a) n c) (.slice none 0 0)) H = some false := by
    unfold Op.equal Op.maxDepth Op.equalIn
    rw [qrun_bind', qrun_underlying hu, Option.bind_some]
    rfl
  rw [qrun_bind', e]
  rfl
theorem bin_sl_none {P : Program} {t e : TypeId} {xo yo : Operand} {n c : Nat} (hu : P.underlying t = some (.slice e)) : binV P (full H) .eql t xo yo (.slice none n c) (.slice none 0 0) = some (.bool true) := by
  show qrun P (do eqGuard .eql t xo yo (.slice none n c) (.slice none 0 0); binOp .eql t (.slice none n c) (.slice none 0 0)) H = _
  rw [qrun_bind']
  show qrun P (do pure (Value.bool (← Op.equal t (.slice none n c) (.slice none 0 0)))) H = _
  have e : qrun P (Op.equal t (.slice none n c) (.slice none 0 0)) H = some true := by
    unfold Op.equal Op.maxDepth Op.equalIn
    rw [qrun_bind', qrun_underlying hu, Option.bind_some]
    rfl
  rw [qrun_bind', e]
  rfl
theorem vec_src {e : Nat} {v : Value} {vs : List Value} {n : Nat} (h : Vec H e 1 v vs) (hn : vs.length = n) : srcCells H 1 n v = some vs ∧ lenS v = some n := by
  rcases h.ex with ⟨rfl, rfl⟩ | ⟨b, len, cap, pre, rest, rfl, hb, h2, h3, h4⟩
  · simp at hn; subst hn; exact ⟨rfl, rfl⟩
  · rw [Nat.mul_one] at h2
    have : n = len := by omega
    subst this
    refine ⟨?_, rfl⟩
    show cellsH (cellH H) ⟨b, pre.length, none⟩ 0 (n * 1) = some vs
    rw [Nat.mul_one, ← h2]
    refine cellsH_at _ _ 0 fun j hj => ?_
    rw [hb.cell, Nat.add_zero, List.append_assoc, List.getElem?_append_right (by omega), List.getElem?_append_left (by omega)]
    rw [show pre.length + j - pre.length = j by omega, List.getElem?_eq_getElem hj]
theorem cloneI_spec {v : Value} {vs : List Value} (hv : Vec H 3 1 v vs) (h1 : ∀ u ∈ vs, oneC u = true) (hlen : vs.length ≤ 1000000) :
    CallF Tryz.prog 100 [v] H (fun r H' => Fr [] H H' ∧ Vec H' 3 1 r vs ∧ ∀ b ∈ own r, H.size ≤ b) NoP := by
  have hu := T.el26.under
  rcases hv.ex with ⟨rfl, rfl⟩ | ⟨b, len, cap, pre, rest, rfl, hb, h2, h3, h4⟩
  · have hb0 := fun {xo yo : Operand} => bin_sl_none (H := H) (xo := xo) (yo := yo) (n := 0) (c := 0) hu
    refine callF_of Tryz.func100 rfl Tryz.ntmps100 Tryz.results100 (by decide) rfl ?_
    simp (disch := omega) only [go_sem, ↓cw_block, dsB_of, hb0]
    exact fin ⟨Fr.refl _ _, Vec.nil, by simp [own]⟩
  · have hb0 := fun {xo yo : Operand} => bin_sl_some (H := H) (xo := xo) (yo := yo) (a := ⟨b, pre.length, none⟩) (n := len) (c := cap) hu
    rw [Nat.mul_one] at h2
    refine callF_of Tryz.func100 rfl Tryz.ntmps100 Tryz.results100 (by decide) rfl ?_
    simp (disch := omega) only [go_sem, ↓cw_block, dsB_of, hb0]
    obtain ⟨G, hG⟩ : ∃ G, G = H.push (.cells #[] 3) := ⟨_, rfl⟩
    have f0 : Fr [] H G := by rw [hG]; exact Fr.push
    have vG : Vec G 3 1 (.slice (some ⟨H.size, 0, none⟩) 0 0) [] := ⟨.inr ⟨H.size, 0, 0, [], [], rfl, by rw [hG]; exact Blk.new rfl, rfl, rfl, Nat.le_refl _⟩⟩
    have hsrc := vec_src (hv.frame f0 (by simp)) (n := len) h2
    try rw [← hG]
    refine app_vec (n := len) (new := vs) T.el26 rfl vG hsrc.2 hsrc.1 hu (by simp) h1 (by omega) (by intro a' l c e; simp only [Value.slice.injEq] at e; obtain ⟨_, rfl, _⟩ := e; omega) ?_
    intro v' H2 g1 (g2 : Fr _ G H2) (g3 : ∀ b ∈ own v', b ∈ own (.slice (some ⟨H.size, 0, none⟩) 0 0) ∨ G.size ≤ b) g4
    simp (disch := omega) only [go_sem, ↓cw_block, dsB_of]
    refine fin ⟨⟨Nat.le_trans f0.size g2.size, fun q hq _ => ?_⟩, by simpa using g1, fun q hq => ?_⟩
    · rw [g2.same q (by have := f0.size; omega) (by simp [own]; omega), f0.same q hq (by simp)]
    · rcases g3 q hq with h | h
      · simp [own] at h; omega
      · have := f0.size; omega
theorem cloneB_spec {v : Value} {vs : List Value} (hv : Vec H 4 1 v vs) (h1 : ∀ u ∈ vs, oneC u = true) (hlen : vs.length ≤ 1000000) :
    CallF Tryz.prog 42 [v] H (fun r H' => Fr [] H H' ∧ Vec H' 4 1 r vs ∧ ∀ b ∈ own r, H.size ≤ b) NoP := by
  have hu := T.el44.under
  rcases hv.ex with ⟨rfl, rfl⟩ | ⟨b, len, cap, pre, rest, rfl, hb, h2, h3, h4⟩
  · have hb0 := fun {xo yo : Operand} => bin_sl_none (H := H) (xo := xo) (yo := yo) (n := 0) (c := 0) hu
    refine callF_of Tryz.func42 rfl Tryz.ntmps42 Tryz.results42 (by decide) rfl ?_
    simp (disch := omega) only [go_sem, ↓cw_block, dsB_of, hb0]
    exact fin ⟨Fr.refl _ _, Vec.nil, by simp [own]⟩
  · have hb0 := fun {xo yo : Operand} => bin_sl_some (H := H) (xo := xo) (yo := yo) (a := ⟨b, pre.length, none⟩) (n := len) (c := cap) hu
    rw [Nat.mul_one] at h2
    refine callF_of Tryz.func42 rfl Tryz.ntmps42 Tryz.results42 (by decide) rfl ?_
    simp (disch := omega) only [go_sem, ↓cw_block, dsB_of, hb0]
    obtain ⟨G, hG⟩ : ∃ G, G = H.push (.cells #[] 4) := ⟨_, rfl⟩
    have f0 : Fr [] H G := by rw [hG]; exact Fr.push
    have vG : Vec G 4 1 (.slice (some ⟨H.size, 0, none⟩) 0 0) [] := ⟨.inr ⟨H.size, 0, 0, [], [], rfl, by rw [hG]; exact Blk.new rfl, rfl, rfl, Nat.le_refl _⟩⟩
    have hsrc := vec_src (hv.frame f0 (by simp)) (n := len) h2
    try rw [← hG]
    refine app_vec (n := len) (new := vs) T.el44 rfl vG hsrc.2 hsrc.1 hu (by simp) h1 (by omega) (by intro a' l c e; simp only [Value.slice.injEq] at e; obtain ⟨_, rfl, _⟩ := e; omega) ?_
    intro v' H2 g1 (g2 : Fr _ G H2) (g3 : ∀ b ∈ own v', b ∈ own (.slice (some ⟨H.size, 0, none⟩) 0 0) ∨ G.size ≤ b) g4
    simp (disch := omega) only [go_sem, ↓cw_block, dsB_of]
    refine fin ⟨⟨Nat.le_trans f0.size g2.size, fun q hq _ => ?_⟩, by simpa using g1, fun q hq => ?_⟩
    · rw [g2.same q (by have := f0.size; omega) (by simp [own]; omega), f0.same q hq (by simp)]
    · rcases g3 q hq with h | h
      · simp [own] at h; omega
      · have := f0.size; omega
end
end Go.Proofs.YtofooamimiijlaaGreat

namespace Go.Proofs.YtofooamimiijlaaGreat
open Go.HL HM Go.Sat
set_option maxRecDepth 10000
set_option linter.unusedSimpArgs false
set_option linter.unusedVariables false

section
variable {H : Heap} {ow : Nat → Nat} {p n : Nat} {k : Bk} {f : Cf}
def Pz (f : Cf) (z : Int) : Bool := !(bt f.seen (z.toNat / 2)) && decide (0 < f.s.lv (z.toNat / 2))
theorem sShort1_spec (h : RM H ow p n k f) (hr : Rl n f) (hi : Inv n f.s) (hn : n ≤ 1000) {xb y : Nat} (hb : Blk H xb 107 [sp p]) (hy : isC n y) (hyt : neg y ∈ f.tr) :
    CallF Tryz.prog 113 [iv y, hp xb] H (fun v H' => v = .bool (Pz f y) ∧ H' = H) NoP := by
  obtain ⟨y1, y2, y3, y4⟩ := isC_lt hy
  obtain ⟨j, hj⟩ := List.getElem?_of_mem hyt
  have clv := h.clvl hr hj
  rw [neg_var] at clv
  have hlv : f.s.lv (y / 2) = lev f.st j := lv_of hi hj
  have csn := h.cseen y3
  have c0 : cellH H ⟨xb, 0, none⟩ = some (sp p) := hb.cell 0
  have c12 : cellH H ⟨p, 12, none⟩ = some (sl k.bs (n + 1)) := h.c 12
  have c10 : cellH H ⟨p, 10, none⟩ = some (sl k.bl (n + 1)) := h.c 10
  have hh := half y
  have hP : Pz f y = (!(bt f.seen (y / 2)) && decide (0 < lev f.st j)) := by
    unfold Pz
    rw [Int.toNat_natCast, hlv]
  rw [hP]
  refine callF_of Tryz.func113 rfl Tryz.ntmps113 Tryz.results113 (by decide) rfl ?_
  cases hs : bt f.seen (y / 2)
  · rw [hs] at csn
    simp (disch := omega) only [go_sem, ↓cw_block, dsB_of, c0, c12, c10, hh, csn, clv]
    exact fin ⟨by simp, rfl⟩
  · rw [hs] at csn
    simp (disch := omega) only [go_sem, ↓cw_block, dsB_of, c0, c12, c10, hh, csn, clv]
    exact fin ⟨by simp, rfl⟩
/-- May a literal be left out? -/
def Imp (f : Cf) (z : Nat) : Prop := ∃ c, f.rea (z / 2) = some c ∧ ∀ y ∈ (f.lits c).tail, bt f.seen (y / 2) = true ∨ f.s.lv (y / 2) = 0
set_option maxHeartbeats 1000000 in
theorem sShorten_spec (h : RM H ow p n k f) (hr : Rl n f) (hi : Inv n f.s) {w : Nat → List Nat} (hw : WI n f.s f.C w) (hn : n ≤ 1000) {b cap r0 : Nat} {r : List Nat} {pre rest : List Value} (hb : Blk H b 3 (pre ++ nv (r0 :: r) ++ rest)) (hcap : r.length + 1 ≤ cap) (hob : ow b = 0) (hre : rest.length = cap - (r.length + 1))
    (hl : ∀ y ∈ r, isC n y ∧ neg y ∈ f.tr) (hrl : r.length ≤ 1000) :
    CallF Tryz.prog 101 [sp p, .slice (some ⟨b, pre.length, none⟩) (r.length + 1) cap] H (fun v H' => RM H' ow p n k f ∧ Fr [b] H H' ∧ ∃ r', v = .slice (some ⟨b, pre.length, none⟩) (r'.length + 1) cap ∧ Vec H' 3 1 v (nv (r0 :: r')) ∧ r'.Sublist r ∧ ∀ z ∈ r, z ∈ r' ∨ Imp f z) NoP := by
  obtain ⟨G, hG⟩ : ∃ G, G = H.push (.cells #[sp p] 107) := ⟨_, rfl⟩
  have f0 : Fr [] H G := by rw [hG]; exact Fr.push
  have hxb : Blk G H.size 107 [sp p] := by rw [hG]; exact Blk.new rfl
  have hbl := hb.lt
  have hbG := f0.blk hb (by simp)
  have hmG := h.out f0 (by simp)
  refine callF_of Tryz.func101 rfl Tryz.ntmps101 Tryz.results101 (by decide) rfl ?_
  simp (disch := omega) only [go_sem, ↓cw_block, dsB_of]
  rw [← hG]
  refine loop_by (fun j ρ H1 => ∃ (i : Nat) (K : List Nat), j = r.length - i ∧ i ≤ r.length ∧
    (ρ.get 0 = sp p ∧ ρ.get 2 = hp H.size ∧ ρ.get 5 = .slice (some ⟨b, pre.length, none⟩) (K.length + 1) cap ∧ ρ.get 12 = .slice (if cap = 1 then some ⟨b, pre.length, none⟩ else some ⟨b, pre.length + 1, none⟩) r.length (cap - 1) ∧ ρ.get 13 = iv r.length ∧ ρ.get 14 = iv i ∧ ρ.ds = []) ∧
    K.length ≤ i ∧ K.Sublist (r.take i) ∧ (∀ z ∈ r.take i, z ∈ K ∨ Imp f z) ∧ RM H1 ow p n k f ∧ Fr [b] G H1 ∧ Blk H1 b 3 (pre ++ nv (r0 :: K ++ r.drop K.length) ++ rest)) (k := r.length) ?_ ?_
  · refine ⟨0, [], rfl, by omega, by simp (disch := omega) only [go_sem, ↓cw_block, dsB_of, Nat.add_sub_cancel, List.length_nil, Nat.zero_add], by simp, by simp, by simp, hmG, Fr.refl _ _, by simpa using hbG⟩
  · rintro _ ρ H1 ⟨i, K, rfl, hil, ⟨s0, s2, s5, s12, s13, s14, sd⟩, hKi, hKs, hKr, m1, e1, b1⟩
    have hdl : (r.drop K.length).length = r.length - K.length := by simp
    by_cases hie : i = r.length
    · subst hie
      rw [List.take_length] at hKs hKr
      simp (disch := omega) only [go_sem, ↓cw_block, dsB_of, s0, s2, s5, s12, s13, s14, sd, dsB_of]
      refine fin ⟨m1, (f0.mono (by simp)).trans e1, K, rfl, ⟨.inr ⟨b, K.length + 1, cap, pre, nv (r.drop K.length) ++ rest, rfl, ?_, by simp [nv], by simp [nv]; omega, by omega⟩⟩, hKs, hKr⟩
      have : pre ++ nv (r0 :: K) ++ (nv (r.drop K.length) ++ rest) = pre ++ nv (r0 :: K ++ r.drop K.length) ++ rest := by simp [nv]
      rw [this]; exact b1
    · obtain ⟨x, hx⟩ : ∃ x, r[i]? = some x := ⟨_, List.getElem?_eq_getElem (by omega)⟩
      have hxr := List.mem_of_getElem? hx
      obtain ⟨hxc, hxt⟩ := hl x hxr
      obtain ⟨x1, x2, x3, x4⟩ := isC_lt hxc
      have hne : ¬ cap = 1 := by omega
      rw [if_neg hne] at s12
      have kx : cellH H1 ⟨b, pre.length + 1 + i, none⟩ = some (iv x) := by
        rw [b1.cell, List.append_assoc, List.getElem?_append_right (by omega), List.getElem?_append_left (by simp [nv]; omega)]
        rw [show pre.length + 1 + i - pre.length = i + 1 by omega]
        have : (r0 :: K ++ r.drop K.length)[i + 1]? = some x := by
          rw [List.cons_append, List.getElem?_cons_succ, List.getElem?_append_right hKi, List.getElem?_drop, show K.length + (i - K.length) = i by omega]
          exact hx
        exact nv_get this
      have hhx := half x
      have hi1 : (i : Int) + 1 = ((i + 1 : Nat) : Int) := by omega
      have cr := m1.crea x3
      have c11 : cellH H1 ⟨p, 11, none⟩ = some (sl k.br (n + 1)) := m1.c 11
      have hxb1 := e1.blk hxb (by simp; omega)
      have c0 : cellH H1 ⟨H.size, 0, none⟩ = some (sp p) := hxb1.cell 0
      have htk : r.take (i + 1) = r.take i ++ [x] := by rw [List.take_add_one, hx]; rfl
      -- it is kept
      have keep : ∀ {t bytes : Nat} {z : Value} {Q : Value → Heap → Prop}, ElT Tryz.prog t 3 1 bytes z → (∀ H2, RM H2 ow p n k f → Fr [b] G H2 → Blk H2 b 3 (pre ++ nv (r0 :: (K ++ [x]) ++ r.drop (K ++ [x]).length) ++ rest) → Q (.slice (some ⟨b, pre.length, none⟩) (K.length + 1 + 1) cap) H2) →
          @appB Tryz.prog t t (.slice (some ⟨b, pre.length, none⟩) (K.length + 1) cap) (.slice (some ⟨H1.size, 0, none⟩) 1 1) ⟨H1.push (.cells #[iv x] 3)⟩ ⟨Q⟩ := by
        intro t bytes z Q hT hQ
        have hb1 := b1.push (.cells #[iv x] 3)
        have hb2 : Blk (H1.push (.cells #[iv x] 3)) b 3 (pre ++ nv (r0 :: K) ++ (nv (r.drop K.length) ++ rest)) := by
          have : pre ++ nv (r0 :: K) ++ (nv (r.drop K.length) ++ rest) = pre ++ nv (r0 :: K ++ r.drop K.length) ++ rest := by simp [nv]
          rw [this]; exact hb1
        have hx1 : Blk (H1.push (.cells #[iv x] 3)) H1.size 3 [iv x] := Blk.new rfl
        refine app_fit (n := 1) (new := [iv x]) hT hb2 (by simp [nv]) (by simp [nv]; omega) (by omega) rfl ?_ hT.under (by simp) (by simp [oneC]) rfl ?_
        · show cellsH (cellH _) ⟨H1.size, 0, none⟩ 0 1 = some [iv x]
          exact cellsH_at [iv x] 0 0 (fun j hj => by
            have : j = 0 := by simpa using hj
            subst this; exact hx1.cell 0)
        · intro H2 hb3 hf3
          have hf4 : Fr [b] H1 H2 := (Fr.push (F := [b])).trans hf3
          refine hQ H2 (m1.out hf4 (by simpa using hob)) (e1.trans hf4) ?_
          have hd : (nv (r.drop K.length) ++ rest).drop (1 * 1) = nv (r.drop (K.length + 1)) ++ rest := by
            obtain ⟨y, hy⟩ : ∃ y, r.drop K.length = y :: r.drop (K.length + 1) := ⟨_, List.drop_eq_getElem_cons (by omega)⟩
            rw [hy]; rfl
          rw [hd] at hb3
          have : pre ++ nv (r0 :: (K ++ [x]) ++ r.drop (K ++ [x]).length) ++ rest = pre ++ (nv (r0 :: K) ++ [iv x]) ++ (nv (r.drop (K.length + 1)) ++ rest) := by simp [nv]
          rw [this]; exact hb3
      have hKl : (K ++ [x]).length = K.length + 1 := by simp
      have hsub : (K ++ [x]).Sublist (r.take (i + 1)) := by rw [htk]; exact hKs.append (List.Sublist.refl _)
      have hkr : ∀ z ∈ r.take (i + 1), z ∈ K ++ [x] ∨ Imp f z := by
        rw [htk]
        intro z hz
        rcases List.mem_append.1 hz with hz | hz
        · exact (hKr z hz).imp (fun h => by simp [h]) id
        · exact .inl (by simp [List.mem_singleton.1 hz])
      obtain ⟨j, hj⟩ := List.getElem?_of_mem hxt
      cases hre : f.rea (x / 2) with
      | none =>
        rw [hre] at cr
        have cr' : cellH H1 ⟨k.br, x / 2, none⟩ = some (.pointer none) := cr
        simp (disch := omega) only [go_sem, ↓cw_block, dsB_of, s0, s2, s5, s12, s13, s14, sd, kx, hhx, c11, cr', c0]
        refine keep T.el26 ?_
        intro H2 m2 e2 b2
        simp (disch := omega) only [go_sem, ↓cw_block, dsB_of, s0, s2, s5, s12, s13, s14, sd]
        exact fin ⟨r.length - (i + 1), by omega, i + 1, K ++ [x], rfl, by omega, by simp (disch := omega) only [go_sem, ↓cw_block, dsB_of, s0, s2, s5, s12, s13, s14, sd, hi1, hKl, hne, if_false], by omega, hsub, hkr, m2, e2, b2⟩
      | some c =>
        rw [hre] at cr
        have cr' : cellH H1 ⟨k.br, x / 2, none⟩ = some (pv c) := cr
        have hcC : c ∈ f.C := hw.rs j (neg x) c hj (by rw [neg_var]; exact hre)
        obtain ⟨t, hlt, hft⟩ := hi.why j (neg x) c hj (by rw [neg_var]; exact hre)
        have hlt' : f.lits c = neg x :: t := hlt
        have hcl := hw.cl c hcC
        have hl2 : 2 ≤ (f.lits c).length := hcl.1
        obtain ⟨lb, lo, lc, el, hlc, d0⟩ := m1.litf hcC hl2
        have htl : (f.lits c).length - 1 = t.length := by rw [hlt']; rfl
        have hrn : Rn H1 (some ⟨lb, lo + 1, none⟩) (t.map Int.ofNat) := by
          intro q z hz
          rw [List.getElem?_map, Option.map_eq_some_iff] at hz
          obtain ⟨y, hy, rfl⟩ := hz
          refine ⟨lb, lo + 1, rfl, ?_⟩
          have := m1.litc hcC el (i := q + 1) (x := y) (by rw [hlt']; exact hy)
          rw [show lo + 1 + q = lo + (q + 1) by omega]; exact this
        have hlen : (f.lits c).length ≤ n := codes_len hcl.2.1 hcl.2.2
        have hca := contains_spec (H := H1) (g := 113) (cap := [hp H.size]) (c := lc - 1) (P := Pz f) hrn (by rw [List.length_map]; omega) (by
          intro z hz
          obtain ⟨y, hy, rfl⟩ := List.mem_map.1 hz
          obtain ⟨q, hq, hq2⟩ := hft y hy
          exact sShort1_spec m1 hr hi hn hxb1 (hcl.2.1 y (by rw [hlt]; simp [hy])) (List.mem_of_getElem? hq2))
        rw [List.length_map] at hca
        have hne2 : ¬ lc = 1 := by omega
        simp (disch := omega) only [go_sem, ↓cw_block, dsB_of, s0, s2, s5, s12, s13, s14, sd, kx, hhx, c11, cr', c0, d0, hne2, if_false, htl]
        refine call_to hca ?_
        rintro v H2 ⟨rfl, rfl⟩
        simp (disch := omega) only [go_sem, ↓cw_block, dsB_of, s0, s2, s5, s12, s13, s14, sd]
        refine cond_b (fun hp => ?_) (fun hp => ?_)
        · simp (disch := omega) only [go_sem, ↓cw_block, dsB_of, s0, s2, s5, s12, s13, s14, sd]
          refine keep T.el26 ?_
          intro H2 m2 e2 b2
          simp (disch := omega) only [go_sem, ↓cw_block, dsB_of, s0, s2, s5, s12, s13, s14, sd]
          exact fin ⟨r.length - (i + 1), by omega, i + 1, K ++ [x], rfl, by omega, by simp (disch := omega) only [go_sem, ↓cw_block, dsB_of, s0, s2, s5, s12, s13, s14, sd, hi1, hKl, hne, if_false], by omega, hsub, hkr, m2, e2, b2⟩
        · simp (disch := omega) only [go_sem, ↓cw_block, dsB_of, s0, s2, s5, s12, s13, s14, sd]
          refine fin ⟨r.length - (i + 1), by omega, i + 1, K, rfl, by omega, by simp (disch := omega) only [go_sem, ↓cw_block, dsB_of, s0, s2, s5, s12, s13, s14, sd, hi1, hne, if_false], by omega, ?_, ?_, m1, e1, b1⟩
          · rw [htk]; exact hKs.trans (List.sublist_append_left _ _)
          · rw [htk]
            intro z hz
            rcases List.mem_append.1 hz with hz | hz
            · exact hKr z hz
            · have := List.mem_singleton.1 hz
              subst this
              refine .inr ⟨c, hre, fun y hy => ?_⟩
              rw [hlt'] at hy
              have hy' : y ∈ t := hy
              rw [List.any_eq_false] at hp
              have h1 := hp (Int.ofNat y) (List.mem_map.2 ⟨y, hy', rfl⟩)
              unfold Pz at h1
              rw [show (Int.ofNat y).toNat = y from rfl] at h1
              simp only [Bool.and_eq_true, Bool.not_eq_true', decide_eq_true_eq, not_and, Nat.not_lt, Nat.le_zero] at h1
              cases hs : bt f.seen (y / 2)
              · exact .inr (h1 hs)
              · exact .inl rfl
end
end Go.Proofs.YtofooamimiijlaaGreat

