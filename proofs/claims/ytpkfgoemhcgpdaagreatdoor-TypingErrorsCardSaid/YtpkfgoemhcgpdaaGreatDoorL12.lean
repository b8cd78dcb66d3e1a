/- The document's parser: the tightest level of expressions. -/
import Derived.Test.YtpkfgoemhcgpdaaGreatDoorL11
namespace Go.Proofs.YtpkfgoemhcgpdaaGreatDoor
open Go.HL
set_option maxRecDepth 10000
set_option linter.unusedSimpArgs false
set_option linter.unusedVariables false

/-- A node that is being made, in a box. -/
structure XB (H H2 : Heap) (p : Nat) (tv : Value) (L : List Tok) (b3 : Nat) (cs : List Value) (s : PS) : Prop where
  pp : PP H p tv L s H2
  low : p < H.size
  res : Blk H2 H.size 72 z6
  box : Blk H2 b3 72 cs
  gt : H.size < b3
abbrev SX (H : Heap) (b3 : Nat) : Nat → Prop := fun b => H.size < b ∧ b ≠ b3
section
variable {H H2 H3 H4 H5 : Heap} {p : Nat} {tv : Value} {L : List Tok} {b3 : Nat} {cs cs2 : List Value} {a t : TT} {s s2 : PS}
theorem XI.xb (x : XI H H2 p tv L b3 cs a s) : XB H H2 p tv L b3 cs s := ⟨x.pp, x.low, x.res, x.box, x.gt⟩
theorem XB.xi (x : XB H H2 p tv L b3 cs s) (ht : TR H2 (SX H b3) cs a.1 a.2) : XI H H2 p tv L b3 cs a s := ⟨x.pp, x.low, x.res, x.box, x.gt, ht⟩
theorem XB.step (x : XB H H2 p tv L b3 cs s) (q : PP H2 p tv L s2 H3) : XB H H3 p tv L b3 cs s2 :=
  ⟨x.pp.trans q, x.low, q.1.blk x.res (by have := x.low; simp; omega), q.1.blk x.box (by have := x.low; have := x.gt; simp; omega), x.gt⟩
theorem XB.grow (x : XB H H2 p tv L b3 cs s) (q : Fr [] H2 H3) : XB H H3 p tv L b3 cs s := x.step ⟨q.nil, x.pp.2.grow q⟩
theorem XB.set (x : XB H H2 p tv L b3 cs s) (i : Nat) (v : Value) : XB H (setH H2 ⟨b3, i, none⟩ v) p tv L b3 (cs.set i v) s := by
  have f : Fr [b3] H2 (setH H2 ⟨b3, i, none⟩ v) := Fr.set (by simp)
  have := x.gt
  exact ⟨x.pp.over x.low f (by simp; omega), x.low, f.blk x.res (by simp; omega), x.box.set i v, x.gt⟩
theorem XB.wr (x : XB H H2 p tv L b3 cs s) {i : Nat} (hi : i < cs.length) (v : Value) : wr H2 ⟨b3, i, none⟩ v = some (setH H2 ⟨b3, i, none⟩ v) := x.box.wr hi v
theorem XB.own {e z : Nat} {v' : Value} {vs : List Value} (x : XB H H4 p tv L b3 cs s) (g1 : Vec H5 e z v' vs) (g2 : Fr [] H4 H5) (g3 : ∀ b ∈ own v', b ∈ own noS ∨ H4.size ≤ b) {i : Nat} (hi : i < cs.length) :
    HL.wr H5 ⟨b3, i, none⟩ v' = some (setH H5 ⟨b3, i, none⟩ v') ∧ XB H (setH H5 ⟨b3, i, none⟩ v') p tv L b3 (cs.set i v') s ∧ Rd (setH H5 ⟨b3, i, none⟩ v') (SX H b3) z v' vs := by
  have x5 := x.grow g2
  have hb := x.box.lt
  have hg := x.gt
  have f : Fr [b3] H5 (setH H5 ⟨b3, i, none⟩ v') := Fr.set (by simp)
  have ho : ∀ b ∈ HL.own v', SX H b3 b := fun b hb => (g3 b hb).elim (by simp [HL.own]) (fun h => ⟨by omega, by omega⟩)
  exact ⟨x5.wr hi v', x5.set i v', Rd.of_vec (g1.frame f (fun b hb => by have := ho b hb; simp; exact this.2)) ho⟩
theorem TR.keep {b i : Nat} {v : Value} (h : TR H2 (SX H b3) cs t.1 t.2) : TR (setH H2 ⟨b3, i, none⟩ v) (SX H b3) cs t.1 t.2 := h.frame (Keeps.of_fr (F := [b3]) (Fr.set (by simp)) (by rintro b ⟨h1, h2⟩; simpa using h2))
end
section
variable {H : Heap} {S : Nat → Prop}
theorem TR.plain {n : Nd} {wv nv : Value} (hw : Rd H S 1 wv (n.words.map sv)) (hn : Rd H S 1 nv (n.nums.map iv)) (hk : n.kids = []) : TR H S [iv n.kind, wv, nv, noS, iv n.pos, noS] n .nil :=
  ⟨_, _, _, _, rfl, ⟨hw, hn, rfl, hk⟩, [], Rd.nil, rfl⟩
end
set_option maxHeartbeats 1000000 in
theorem pPart_step {L : List Tok} {n : Nat} (hW : TW L) (IH : ∀ m, m < n + 1 → SpecE L (runE L m)) : FnE L 115 (runE L (n + 1) .part) := by
  intro H p tv s r h hm
  have hlow := h.lt
  change (if isNum L s then some ((⟨17, [], [(pnumM L s).1], [], (tkM L s).pos⟩, .nil), (pnumM L s).2)
    else if seesM L [108, 101, 110] s then some (nameT L 19 s (upM s))
    else if seesM L [45] s || seesM L [33] s then
      if s.deep < -1000000000 ∨ 1000000000 < s.deep then none
      else if okM (inM L (upM s)) then (runE L n .part (inM L (upM s))).bind fun r => if r.2.deep < -1000000000 ∨ 1000000000 < r.2.deep then none else some ((⟨if seesM L [45] s then 20 else 21, [], [], [], (tkM L s).pos⟩, .cons r.1.1 r.1.2 .nil), outM r.2)
      else some ((⟨if seesM L [45] s then 20 else 21, [], [], [], (tkM L s).pos⟩, .nil), outM (inM L (upM s)))
    else if seesM L [40] s then
      if s.deep < -1000000000 ∨ 1000000000 < s.deep then none
      else if okM (inM L (upM s)) then (runE L n .expr (inM L (upM s))).bind fun r => if r.2.deep < -1000000000 ∨ 1000000000 < r.2.deep then none else some (r.1, mustM L [41] (outM r.2))
      else some ((beginM L 17 s, .nil), mustM L [41] (outM (inM L (upM s))))
    else some (nameT L 18 s s)) = some r at hm
  obtain ⟨G, hG⟩ : ∃ G, G = H.push (.cells #[iv 0, noS, noS, noS, iv 0, noS] 72) := ⟨_, rfl⟩
  have f0 : Fr [] H G := by rw [hG]; exact Fr.push
  have zG : G.size = H.size + 1 := by rw [hG]; simp
  have h0 := h.grow f0
  have b0 : Blk G H.size 72 z6 := by rw [hG]; exact Blk.new rfl
  refine callF_of Tryz.func115 rfl Tryz.ntmps115 Tryz.results115 (by decide) rfl ?_
  simp (disch := omega) only [go_sem, dsB_of]
  rw [← hG]
  refine call_to (pBegin_spec h0) ?_
  intro v H1 hv
  refine Hush.out ?_
  obtain ⟨f1, rfl⟩ := hv
  obtain ⟨G1, hG1⟩ : ∃ G, G = H1.push (.cells #[iv 17, noS, noS, noS, iv (tkM L s).pos, noS] 72) := ⟨_, rfl⟩
  have f2 : Fr [] H1 G1 := by rw [hG1]; exact Fr.push
  have z1 := f1.size
  have x : XB H G1 p tv L H1.size [iv 17, noS, noS, noS, iv (tkM L s).pos, noS] s := by
    refine ⟨⟨((f0.trans f1).trans f2).nil, h.grow ((f0.trans f1).trans f2)⟩, hlow, (f1.trans f2).blk b0 (by simp), by rw [hG1]; exact Blk.new rfl, by omega⟩
  refine ⟨?_⟩
  simp (disch := omega) only [go_sem, dsB_of, nd0, beginM]
  rw [← hG1]
  refine cut_at (fun ρ H2 => ∃ cs, XI H H2 p tv L H1.size cs r.1 r.2 ∧ ρ.get 2 = hp H.size ∧ ρ.get 3 = hp H1.size ∧ ρ.ds = []) ?_ ?_
  · simp only [↓cw_block, ↓cw_seq]
    refine cut_at (fun ρ H2 => XB H H2 p tv L H1.size [iv 17, noS, noS, noS, iv (tkM L s).pos, noS] s ∧ ρ.get 0 = hp p ∧ ρ.get 2 = hp H.size ∧ ρ.get 3 = hp H1.size ∧ ρ.get 17 = .bool (isNum L s) ∧ ρ.ds = []) ?_ ?_
    · simp (disch := omega) only [go_sem, ↓cw_block, dsB_of]
      refine call_to (pOk_spec x.pp.2) ?_
      rintro _ _ ⟨rfl, rfl⟩
      cases q1 : okM s
      · simp (disch := omega) only [go_sem, ↓cw_block, dsB_of]
        exact fin ⟨x, by simp (disch := omega) only [go_sem, ↓cw_block, dsB_of]; simp [isNum, q1]⟩
      · simp (disch := omega) only [go_sem, ↓cw_block, dsB_of]
        refine call_to (pNow_spec x.pp.2) ?_
        intro v H3 hv
        refine Hush.out ?_
        obtain ⟨f3, rfl⟩ := hv
        refine ⟨?_⟩
        by_cases q2 : (tkM L s).kind = 1
        · simp (disch := omega) only [go_sem, ↓cw_block, dsB_of, tokC]
          exact fin ⟨x.grow f3, by simp (disch := omega) only [go_sem, ↓cw_block, dsB_of]; simp [isNum, q1, q2]⟩
        · simp (disch := omega) only [go_sem, ↓cw_block, dsB_of, tokC]
          exact fin ⟨x.grow f3, by simp (disch := omega) only [go_sem, ↓cw_block, dsB_of]; simp [isNum, q1, q2]⟩
    · clear x
      rintro ρ H2 ⟨x, r0, r2, r3, r17, rd⟩
      cases qn : isNum L s
      rotate_left
      · rw [qn] at hm r17
        simp only [if_true, Option.some.injEq] at hm
        subst hm
        simp (disch := omega) only [go_sem, ↓cw_block, dsB_of, r0, r2, r3, r17, rd]
        refine draw1 (lk [(0, false), (1, false), (2, false), (3, true)] (.act 4 (.act 5 (.actd 6 (lk [(7, true), (8, true)] (.actd 9 .fin))) .non) .non)) T.mixed (hlist H1.size 0 _) (heldOK_blk x.box) ?_
        simp (disch := omega) only [go_sem, ↓cw_block, dsB_of, r0, r2, r3, rd]
        refine call_to (pNum_spec hW x.pp.2) ?_
        intro v HN hv
        refine Hush.out ?_
        obtain ⟨qq, rfl⟩ := hv
        have xq := x.step qq
        refine ⟨?_⟩
        refine held_by (heldOK_blk xq.box) ?_
        simp (disch := omega) only [go_sem, ↓cw_block, dsB_of, r0, r2, r3, rd]
        refine held_by (heldOK_blk (xq.grow Fr.push).box) ?_
        simp (disch := omega) only [go_sem, ↓cw_block, dsB_of, r0, r2, r3, rd]
        refine app_lit1 T.el67 rfl Vec.nil rfl (by simp) ?_
        intro v' HZ g1 g2 g3 g4
        obtain ⟨a2, c2, hv'⟩ := g4
        have hv' : v' = .slice a2 1 c2 := hv'
        subst hv'
        obtain ⟨w5, x5, rd5⟩ := xq.own g1 g2 g3 (i := 2) (by simp)
        simp (disch := omega) only [go_sem, ↓cw_block, dsB_of, r0, r2, r3, rd, w5]
        exact fin ⟨_, x5.xi (TR.plain (n := ⟨17, [], [(pnumM L s).1], [], (tkM L s).pos⟩) Rd.nil rd5 rfl), by simp (disch := omega) only [go_sem, ↓cw_block, dsB_of, r0, r2, r3, rd]⟩
      · rw [qn] at hm r17
        simp only [Bool.false_eq_true, if_false] at hm
        simp (disch := omega) only [go_sem, ↓cw_block, dsB_of, r0, r2, r3, r17, rd]
        refine call_to (pTake_spec hW x.pp.2) ?_
        intro v H3 hv
        refine Hush.out ?_
        obtain ⟨q3, rfl⟩ := hv
        cases ql : seesM L [108, 101, 110] s
        rotate_left
        · have ht : takeM L [108, 101, 110] s = (true, upM s) := by simp [takeM, ql]
          rw [ht] at q3
          rw [ql] at hm
          simp only [if_true, Option.some.injEq] at hm
          subst hm
          have x3 := x.step q3
          have w0 := x3.wr (i := 0) (by simp) (iv 19)
          have x4 := x3.set 0 (iv 19)
          refine ⟨?_⟩
          simp (disch := omega) only [go_sem, ↓cw_block, dsB_of, ht, r0, r2, r3, rd, w0]
          refine draw1 (lk [(0, false), (1, false), (2, false), (3, true)] (.act 4 (.act 5 (.actd 6 (lk [(7, true), (8, true)] (.actd 9 .fin))) .non) .non)) T.mixed (hlist H1.size 0 _) (heldOK_blk x4.box) ?_
          simp (disch := omega) only [go_sem, ↓cw_block, dsB_of, r0, r2, r3, rd]
          refine call_to (pName_spec hW x4.pp.2) ?_
          intro v HN hv
          refine Hush.out ?_
          obtain ⟨qq, rfl⟩ := hv
          have xq := x4.step qq
          refine ⟨?_⟩
          refine held_by (heldOK_blk xq.box) ?_
          simp (disch := omega) only [go_sem, ↓cw_block, dsB_of, r0, r2, r3, rd]
          refine held_by (heldOK_blk (xq.grow Fr.push).box) ?_
          simp (disch := omega) only [go_sem, ↓cw_block, dsB_of, r0, r2, r3, rd]
          refine app_lit1 T.el66 rfl Vec.nil rfl (by simp) ?_
          intro v' HZ g1 g2 g3 g4
          obtain ⟨a2, c2, hv'⟩ := g4
          have hv' : v' = .slice a2 1 c2 := hv'
          subst hv'
          obtain ⟨w5, x5, rd5⟩ := xq.own g1 g2 g3 (i := 1) (by simp)
          simp (disch := omega) only [go_sem, ↓cw_block, dsB_of, r0, r2, r3, rd, w5]
          exact fin ⟨_, x5.xi (TR.plain (n := ⟨19, [(pnameM L (upM s)).1], [], [], (tkM L s).pos⟩) rd5 Rd.nil rfl), by simp (disch := omega) only [go_sem, ↓cw_block, dsB_of, r0, r2, r3, rd]⟩
        · have ht : takeM L [108, 101, 110] s = (false, s) := by simp [takeM, ql]
          rw [ht] at q3
          rw [ql] at hm
          simp only [Bool.false_eq_true, if_false] at hm
          have x3 := x.step q3
          refine ⟨?_⟩
          simp (disch := omega) only [go_sem, ↓cw_block, dsB_of, ht, r0, r2, r3, rd]
          refine call_to (pSees_spec x3.pp.2) ?_
          intro v H4 hv
          refine Hush.out ?_
          obtain ⟨f4, rfl⟩ := hv
          have x4 := x3.grow f4
          cases qm : seesM L [45] s
          · refine ⟨?_⟩
            simp (disch := omega) only [go_sem, ↓cw_block, dsB_of, r0, r2, r3, rd]
            refine call_to (pSees_spec x4.pp.2) ?_
            intro v H5 hv
            refine Hush.out ?_
            obtain ⟨f5, rfl⟩ := hv
            have x5 := x4.grow f5
            cases qx : seesM L [33] s
            · rw [if_neg (by simp [qm, qx])] at hm
              refine ⟨?_⟩
              simp (disch := omega) only [go_sem, ↓cw_block, dsB_of, r0, r2, r3, rd]
              refine call_to (pTake_spec hW x5.pp.2) ?_
              intro v H7 hv
              refine Hush.out ?_
              obtain ⟨q7, rfl⟩ := hv
              cases qp : seesM L [40] s
              rotate_left
              · have ht : takeM L [40] s = (true, upM s) := by simp [takeM, qp]
                rw [ht] at q7
                rw [qp] at hm
                simp only [if_true] at hm
                by_cases hdp : s.deep < -1000000000 ∨ 1000000000 < s.deep
                · rw [if_pos hdp] at hm; simp at hm
                rw [if_neg hdp] at hm
                have x7 := x5.step q7
                have hdu : -1000000000 ≤ (upM s).deep ∧ (upM s).deep ≤ 1000000000 := by show -1000000000 ≤ s.deep ∧ s.deep ≤ 1000000000; omega
                refine ⟨?_⟩
                simp (disch := omega) only [go_sem, ↓cw_block, dsB_of, ht, r0, r2, r3, rd]
                refine call_to (pIn_spec x7.pp.2 hdu) ?_
                intro v HI hv
                refine Hush.out ?_
                have qi := hv
                have xi := x7.step qi
                refine ⟨?_⟩
                simp (disch := omega) only [go_sem, ↓cw_block, dsB_of, r0, r2, r3, rd]
                refine call_to (pOk_spec xi.pp.2) ?_
                rintro _ _ ⟨rfl, rfl⟩
                cases qo : okM (inM L (upM s))
                · rw [qo] at hm
                  simp only [Bool.false_eq_true, if_false, Option.some.injEq] at hm
                  subst hm
                  have hdi : -1000000001 ≤ (inM L (upM s)).deep ∧ (inM L (upM s)).deep ≤ 1000000001 := by unfold inM badM upM; split <;> (try split) <;> simp <;> omega
                  have c2 := xi.pp.2.c2
                  have w2 := xi.pp.2.w2
                  simp (disch := omega) only [go_sem, ↓cw_block, dsB_of, r0, r2, r3, rd, c2, w2]
                  have xo := xi.step (s2 := outM (inM L (upM s))) ⟨Fr.set (by simp), xi.pp.2.set2 (((inM L (upM s))).deep - 1)⟩
                  refine call_to (pMust_spec hW xo.pp.2) ?_
                  intro v HM hv
                  refine Hush.out ?_
                  have xm := xo.step hv
                  refine ⟨?_⟩
                  simp (disch := omega) only [go_sem, ↓cw_block, dsB_of, r0, r2, r3, rd]
                  exact fin ⟨_, xm.xi (TR.plain (n := beginM L 17 s) Rd.nil Rd.nil rfl), by simp (disch := omega) only [go_sem, ↓cw_block, dsB_of, r0, r2, r3, rd]⟩
                · rw [qo] at hm
                  simp only [if_true] at hm
                  obtain ⟨r8, hr8, hm⟩ := Option.bind_eq_some_iff.1 hm
                  by_cases hdr : r8.2.deep < -1000000000 ∨ 1000000000 < r8.2.deep
                  · rw [if_pos hdr] at hm; simp at hm
                  rw [if_neg hdr] at hm
                  simp only [Option.some.injEq] at hm
                  subst hm
                  have xii := xi.xi (a := (beginM L 17 s, .nil)) (TR.plain (n := beginM L 17 s) Rd.nil Rd.nil rfl)
                  simp (disch := omega) only [go_sem, ↓cw_block, dsB_of, r0, r2, r3, rd]
                  refine call_to ((IH n (by omega)).expr xi.pp.2 hr8) ?_
                  intro v HP hv
                  refine Hush.out ?_
                  obtain ⟨qe, cp, rfl, tp⟩ := hv
                  have xp := xii.step qe
                  have hbx := xi.box.lt
                  have hgx := xi.gt
                  obtain ⟨H6, e6, x6⟩ := xp.put (t := r8.1) (tp.mono (by intro b hb _; constructor <;> omega))
                  refine ⟨?_⟩
                  simp (disch := omega) only [go_sem, ↓cw_block, dsB_of, r0, r2, r3, rd, e6]
                  have c2 := x6.pp.2.c2
                  have w2 := x6.pp.2.w2
                  simp (disch := omega) only [go_sem, ↓cw_block, dsB_of, r0, r2, r3, rd, e6, c2, w2]
                  have xo := x6.step (s2 := outM r8.2) ⟨Fr.set (by simp), x6.pp.2.set2 ((r8.2).deep - 1)⟩
                  refine call_to (pMust_spec hW xo.pp.2) ?_
                  intro v HM hv
                  refine Hush.out ?_
                  have xm := xo.step hv
                  refine ⟨?_⟩
                  simp (disch := omega) only [go_sem, ↓cw_block, dsB_of, r0, r2, r3, rd]
                  exact fin ⟨_, xm, by simp (disch := omega) only [go_sem, ↓cw_block, dsB_of, r0, r2, r3, rd]⟩
              · have ht : takeM L [40] s = (false, s) := by simp [takeM, qp]
                rw [ht] at q7
                rw [qp] at hm
                simp only [Bool.false_eq_true, if_false, Option.some.injEq] at hm
                subst hm
                have x7 := x5.step q7
                have w0 := x7.wr (i := 0) (by simp) (iv 18)
                have x8 := x7.set 0 (iv 18)
                refine ⟨?_⟩
                simp (disch := omega) only [go_sem, ↓cw_block, dsB_of, ht, r0, r2, r3, rd, w0]
                refine draw1 (lk [(0, false), (1, false), (2, false), (3, true)] (.act 4 (.act 5 (.actd 6 (lk [(7, true), (8, true)] (.actd 9 .fin))) .non) .non)) T.mixed (hlist H1.size 0 _) (heldOK_blk x8.box) ?_
                simp (disch := omega) only [go_sem, ↓cw_block, dsB_of, r0, r2, r3, rd]
                refine call_to (pName_spec hW x8.pp.2) ?_
                intro v HN hv
                refine Hush.out ?_
                obtain ⟨qq, rfl⟩ := hv
                have xq := x8.step qq
                refine ⟨?_⟩
                refine held_by (heldOK_blk xq.box) ?_
                simp (disch := omega) only [go_sem, ↓cw_block, dsB_of, r0, r2, r3, rd]
                refine held_by (heldOK_blk (xq.grow Fr.push).box) ?_
                simp (disch := omega) only [go_sem, ↓cw_block, dsB_of, r0, r2, r3, rd]
                refine app_lit1 T.el66 rfl Vec.nil rfl (by simp) ?_
                intro v' HZ g1 g2 g3 g4
                obtain ⟨a2, c2, hv'⟩ := g4
                have hv' : v' = .slice a2 1 c2 := hv'
                subst hv'
                obtain ⟨w5, x5, rd5⟩ := xq.own g1 g2 g3 (i := 1) (by simp)
                simp (disch := omega) only [go_sem, ↓cw_block, dsB_of, r0, r2, r3, rd, w5]
                exact fin ⟨_, x5.xi (TR.plain (n := ⟨18, [(pnameM L s).1], [], [], (tkM L s).pos⟩) rd5 Rd.nil rfl), by simp (disch := omega) only [go_sem, ↓cw_block, dsB_of, r0, r2, r3, rd]⟩
            · rw [if_pos (by simp [qm, qx])] at hm
              by_cases hdp : s.deep < -1000000000 ∨ 1000000000 < s.deep
              · rw [if_pos hdp] at hm; simp at hm
              rw [if_neg hdp] at hm
              have w0 := x5.wr (i := 0) (by simp) (iv 21)
              have xk := x5.set 0 (iv 21)
              refine ⟨?_⟩
              simp (disch := omega) only [go_sem, ↓cw_block, dsB_of, r0, r2, r3, rd, w0]
              refine call_to (pSees_spec xk.pp.2) ?_
              intro v HK hv
              refine Hush.out ?_
              obtain ⟨fk, rfl⟩ := hv
              rw [qm]
              have xk2 := xk.grow fk
              have wk : True := trivial
              have xu0 := xk2
              have c1 := xu0.pp.2.c1
              have w1 := xu0.pp.2.w1
              have hln := hW.len
              have hps := h.pos
              have e1 : (s.pos : Int) + 1 = ((s.pos + 1 : Nat) : Int) := by omega
              have xu := xu0.step (pUp xu0.pp.2 (sees_up hW xu0.pp.2 qx))
              refine ⟨?_⟩
              simp (disch := omega) only [go_sem, ↓cw_block, dsB_of, r0, r2, r3, rd, c1, w1, e1]
              have hdu : -1000000000 ≤ (upM s).deep ∧ (upM s).deep ≤ 1000000000 := by show -1000000000 ≤ s.deep ∧ s.deep ≤ 1000000000; omega
              refine call_to (pIn_spec xu.pp.2 hdu) ?_
              intro v HI hv
              refine Hush.out ?_
              have qi := hv
              have xi := xu.step qi
              refine ⟨?_⟩
              simp (disch := omega) only [go_sem, ↓cw_block, dsB_of, r0, r2, r3, rd]
              refine call_to (pOk_spec xi.pp.2) ?_
              rintro _ _ ⟨rfl, rfl⟩
              cases qo : okM (inM L (upM s))
              · rw [qo] at hm
                simp only [Bool.false_eq_true, if_false, Option.some.injEq, qm, if_true] at hm
                subst hm
                have hdi : -1000000001 ≤ (inM L (upM s)).deep ∧ (inM L (upM s)).deep ≤ 1000000001 := by unfold inM badM upM; split <;> (try split) <;> simp <;> omega
                have c2 := xi.pp.2.c2
                have w2 := xi.pp.2.w2
                simp (disch := omega) only [go_sem, ↓cw_block, dsB_of, r0, r2, r3, rd, c2, w2]
                have xo := xi.step (s2 := outM (inM L (upM s))) ⟨Fr.set (by simp), xi.pp.2.set2 ((inM L (upM s)).deep - 1)⟩
                exact fin ⟨_, xo.xi (TR.plain (n := ⟨21, [], [], [], (tkM L s).pos⟩) Rd.nil Rd.nil rfl), by simp (disch := omega) only [go_sem, ↓cw_block, dsB_of, r0, r2, r3, rd]⟩
              · rw [qo] at hm
                simp only [if_true, qm, Bool.false_eq_true, if_false] at hm
                obtain ⟨r8, hr8, hm⟩ := Option.bind_eq_some_iff.1 hm
                by_cases hdr : r8.2.deep < -1000000000 ∨ 1000000000 < r8.2.deep
                · rw [if_pos hdr] at hm; simp at hm
                rw [if_neg hdr] at hm
                simp only [Option.some.injEq] at hm
                subst hm
                simp (disch := omega) only [go_sem, ↓cw_block, dsB_of, r0, r2, r3, rd]
                refine draw1 (lk [(0, false), (1, false), (2, true)] (.act 3 (.act 4 (.actd 5 (lk [(6, true)] (.actd 7 .fin))) .non) .non)) T.mixed (hlist H1.size 0 _) (heldOK_blk xi.box) ?_
                simp (disch := omega) only [go_sem, ↓cw_block, dsB_of, r0, r2, r3, rd]
                refine call_to ((IH n (by omega)).part xi.pp.2 hr8) ?_
                intro v HP hv
                refine Hush.out ?_
                obtain ⟨qp, cp, rfl, tp⟩ := hv
                have xp := xi.step qp
                have hbx := xi.box.lt
                have hgx := xi.gt
                obtain ⟨a1, l1, c1', a2, l2, c2', a3, l3, c3, a4, l4, c4, ecp⟩ := tp.form
                subst ecp
                refine ⟨?_⟩
                refine held_by (heldOK_blk xp.box) ?_
                simp (disch := omega) only [go_sem, ↓cw_block, dsB_of, r0, r2, r3, rd]
                refine held_by (heldOK_blk (xp.grow Fr.push).box) ?_
                simp (disch := omega) only [go_sem, ↓cw_block, dsB_of, r0, r2, r3, rd]
                refine app_lit (n := 1) (new := [iv r8.1.1.kind, .slice a1 l1 c1', .slice a2 l2 c2', .slice a3 l3 c3, iv r8.1.1.pos, .slice a4 l4 c4]) T.el70 rfl Vec.nil (one_all rfl) rfl (by intro a' l c e; simp only [Value.slice.injEq] at e; obtain ⟨_, rfl, _⟩ := e; omega) ?_
                intro v' HZ g1 g2 g3 g4
                obtain ⟨a6, c6, hv'⟩ := g4 _ _ _ rfl
                have hv' : v' = .slice a6 1 c6 := hv'
                subst hv'
                obtain ⟨w5, x5, rd5⟩ := xp.own g1 g2 g3 (i := 5) (by simp)
                have tp2 := ((tp.mono (S' := SX H H1.size) (by intro b hb _; constructor <;> omega)).grow g2).keep (b := 0) (i := 5) (v := .slice a6 1 c6) (t := r8.1)
                have tz : TR (setH HZ ⟨H1.size, 5, none⟩ (.slice a6 1 c6)) (SX H H1.size) [iv 21, noS, noS, noS, iv (tkM L s).pos, .slice a6 1 c6] ⟨21, [], [], [], (tkM L s).pos⟩ (.cons r8.1.1 r8.1.2 .nil) :=
                  ⟨_, _, _, _, rfl, ⟨Rd.nil, Rd.nil, rfl, rfl⟩, _, rd5, FL.snoc tp2 (cs := []) (f := .nil) rfl⟩
                have xz := x5.xi (a := (⟨21, [], [], [], (tkM L s).pos⟩, .cons r8.1.1 r8.1.2 .nil)) tz
                have c2 := xz.pp.2.c2
                have w2 := xz.pp.2.w2
                simp (disch := omega) only [go_sem, ↓cw_block, dsB_of, r0, r2, r3, rd, w5, c2, w2]
                have xo := xz.step (s2 := outM r8.2) ⟨Fr.set (by simp), xz.pp.2.set2 (r8.2.deep - 1)⟩
                exact fin ⟨_, xo, by simp (disch := omega) only [go_sem, ↓cw_block, dsB_of, r0, r2, r3, rd]⟩
          · rw [if_pos (by simp [qm])] at hm
            by_cases hdp : s.deep < -1000000000 ∨ 1000000000 < s.deep
            · rw [if_pos hdp] at hm; simp at hm
            rw [if_neg hdp] at hm
            have w0 := x4.wr (i := 0) (by simp) (iv 21)
            have xk := x4.set 0 (iv 21)
            refine ⟨?_⟩
            simp (disch := omega) only [go_sem, ↓cw_block, dsB_of, r0, r2, r3, rd, w0]
            refine call_to (pSees_spec xk.pp.2) ?_
            intro v HK hv
            refine Hush.out ?_
            obtain ⟨fk, rfl⟩ := hv
            rw [qm]
            have xk2 := xk.grow fk
            have wk := xk2.wr (i := 0) (by simp) (iv 20)
            have xu0 := xk2.set 0 (iv 20)
            have c1 := xu0.pp.2.c1
            have w1 := xu0.pp.2.w1
            have hln := hW.len
            have hps := h.pos
            have e1 : (s.pos : Int) + 1 = ((s.pos + 1 : Nat) : Int) := by omega
            have xu := xu0.step (pUp xu0.pp.2 (sees_up hW xu0.pp.2 qm))
            refine ⟨?_⟩
            simp (disch := omega) only [go_sem, ↓cw_block, dsB_of, r0, r2, r3, rd, wk, c1, w1, e1]
            have hdu : -1000000000 ≤ (upM s).deep ∧ (upM s).deep ≤ 1000000000 := by show -1000000000 ≤ s.deep ∧ s.deep ≤ 1000000000; omega
            refine call_to (pIn_spec xu.pp.2 hdu) ?_
            intro v HI hv
            refine Hush.out ?_
            have qi := hv
            have xi := xu.step qi
            refine ⟨?_⟩
            simp (disch := omega) only [go_sem, ↓cw_block, dsB_of, r0, r2, r3, rd]
            refine call_to (pOk_spec xi.pp.2) ?_
            rintro _ _ ⟨rfl, rfl⟩
            cases qo : okM (inM L (upM s))
            · rw [qo] at hm
              simp only [Bool.false_eq_true, if_false, Option.some.injEq, qm, if_true] at hm
              subst hm
              have hdi : -1000000001 ≤ (inM L (upM s)).deep ∧ (inM L (upM s)).deep ≤ 1000000001 := by unfold inM badM upM; split <;> (try split) <;> simp <;> omega
              have c2 := xi.pp.2.c2
              have w2 := xi.pp.2.w2
              simp (disch := omega) only [go_sem, ↓cw_block, dsB_of, r0, r2, r3, rd, c2, w2]
              have xo := xi.step (s2 := outM (inM L (upM s))) ⟨Fr.set (by simp), xi.pp.2.set2 ((inM L (upM s)).deep - 1)⟩
              exact fin ⟨_, xo.xi (TR.plain (n := ⟨20, [], [], [], (tkM L s).pos⟩) Rd.nil Rd.nil rfl), by simp (disch := omega) only [go_sem, ↓cw_block, dsB_of, r0, r2, r3, rd]⟩
            · rw [qo] at hm
              simp only [if_true, qm, Bool.false_eq_true, if_false] at hm
              obtain ⟨r8, hr8, hm⟩ := Option.bind_eq_some_iff.1 hm
              by_cases hdr : r8.2.deep < -1000000000 ∨ 1000000000 < r8.2.deep
              · rw [if_pos hdr] at hm; simp at hm
              rw [if_neg hdr] at hm
              simp only [Option.some.injEq] at hm
              subst hm
              simp (disch := omega) only [go_sem, ↓cw_block, dsB_of, r0, r2, r3, rd]
              refine draw1 (lk [(0, false), (1, false), (2, true)] (.act 3 (.act 4 (.actd 5 (lk [(6, true)] (.actd 7 .fin))) .non) .non)) T.mixed (hlist H1.size 0 _) (heldOK_blk xi.box) ?_
              simp (disch := omega) only [go_sem, ↓cw_block, dsB_of, r0, r2, r3, rd]
              refine call_to ((IH n (by omega)).part xi.pp.2 hr8) ?_
              intro v HP hv
              refine Hush.out ?_
              obtain ⟨qp, cp, rfl, tp⟩ := hv
              have xp := xi.step qp
              have hbx := xi.box.lt
              have hgx := xi.gt
              obtain ⟨a1, l1, c1', a2, l2, c2', a3, l3, c3, a4, l4, c4, ecp⟩ := tp.form
              subst ecp
              refine ⟨?_⟩
              refine held_by (heldOK_blk xp.box) ?_
              simp (disch := omega) only [go_sem, ↓cw_block, dsB_of, r0, r2, r3, rd]
              refine held_by (heldOK_blk (xp.grow Fr.push).box) ?_
              simp (disch := omega) only [go_sem, ↓cw_block, dsB_of, r0, r2, r3, rd]
              refine app_lit (n := 1) (new := [iv r8.1.1.kind, .slice a1 l1 c1', .slice a2 l2 c2', .slice a3 l3 c3, iv r8.1.1.pos, .slice a4 l4 c4]) T.el70 rfl Vec.nil (one_all rfl) rfl (by intro a' l c e; simp only [Value.slice.injEq] at e; obtain ⟨_, rfl, _⟩ := e; omega) ?_
              intro v' HZ g1 g2 g3 g4
              obtain ⟨a6, c6, hv'⟩ := g4 _ _ _ rfl
              have hv' : v' = .slice a6 1 c6 := hv'
              subst hv'
              obtain ⟨w5, x5, rd5⟩ := xp.own g1 g2 g3 (i := 5) (by simp)
              have tp2 := ((tp.mono (S' := SX H H1.size) (by intro b hb _; constructor <;> omega)).grow g2).keep (b := 0) (i := 5) (v := .slice a6 1 c6) (t := r8.1)
              have tz : TR (setH HZ ⟨H1.size, 5, none⟩ (.slice a6 1 c6)) (SX H H1.size) [iv 20, noS, noS, noS, iv (tkM L s).pos, .slice a6 1 c6] ⟨20, [], [], [], (tkM L s).pos⟩ (.cons r8.1.1 r8.1.2 .nil) :=
                ⟨_, _, _, _, rfl, ⟨Rd.nil, Rd.nil, rfl, rfl⟩, _, rd5, FL.snoc tp2 (cs := []) (f := .nil) rfl⟩
              have xz := x5.xi (a := (⟨20, [], [], [], (tkM L s).pos⟩, .cons r8.1.1 r8.1.2 .nil)) tz
              have c2 := xz.pp.2.c2
              have w2 := xz.pp.2.w2
              simp (disch := omega) only [go_sem, ↓cw_block, dsB_of, r0, r2, r3, rd, w5, c2, w2]
              have xo := xz.step (s2 := outM r8.2) ⟨Fr.set (by simp), xz.pp.2.set2 (r8.2.deep - 1)⟩
              exact fin ⟨_, xo, by simp (disch := omega) only [go_sem, ↓cw_block, dsB_of, r0, r2, r3, rd]⟩
  · rintro ρ H2 ⟨cs, x, r2, r3, rd⟩
    have ld := x.ld
    obtain ⟨H5, e1, e2, e3⟩ := x.fin
    simp (disch := omega) only [go_sem, ↓cw_block, dsB_of, r2, r3, rd, ld, e1, e2]
    exact fin e3
end Go.Proofs.YtpkfgoemhcgpdaaGreatDoor

namespace Go.Proofs.YtpkfgoemhcgpdaaGreatDoor
open Go.HL
set_option maxRecDepth 10000
theorem specE {L : List Tok} (hW : TW L) : ∀ n, SpecE L (runE L n) := by
  intro n
  induction n using Nat.strongRecOn with
  | ind n IH =>
    cases n with
    | zero => constructor <;> (intro H p tv s r h hm; simp [runE] at hm)
    | succ n => exact ⟨pExpr_step hW IH, pAnd_step hW IH, pSame_step hW IH, pLess_step hW IH, pSum_step hW IH, pProduct_step hW IH, pPart_step hW IH⟩
end Go.Proofs.YtpkfgoemhcgpdaaGreatDoor

namespace Go.Proofs.YtpkfgoemhcgpdaaGreatDoor
open Go.HL
set_option maxRecDepth 10000
set_option linter.unusedSimpArgs false
set_option linter.unusedVariables false

/-- Up to N only block p has been written. -/
structure FrN (N p : Nat) (H H' : Heap) : Prop where
  size : H.size ≤ H'.size
  same : ∀ b, b < H.size → b ≤ N → b ≠ p → H'[b]? = H[b]?
section
variable {N p b3 : Nat} {H H' H2 H3 : Heap}
theorem FrN.refl : FrN N p H H := ⟨Nat.le_refl _, fun _ _ _ _ => rfl⟩
theorem FrN.trans (h : FrN N p H H2) (h' : FrN N p H2 H3) : FrN N p H H3 :=
  ⟨Nat.le_trans h.size h'.size, fun b h1 h2 h3 => (h'.same b (Nat.lt_of_lt_of_le h1 h.size) h2 h3).trans (h.same b h1 h2 h3)⟩
theorem FrN.of {F : List Nat} (h : Fr F H H') (hF : ∀ b ∈ F, b = p ∨ N < b) : FrN N p H H' :=
  ⟨h.size, fun b h1 h2 h3 => h.same b h1 (fun e => (hF b e).elim h3 (fun h => by omega))⟩
theorem FrN.fr (h : FrN N p H H') (hN : H.size ≤ N + 1) : Fr [p] H H' := ⟨h.size, fun b h1 h2 => h.same b h1 (by omega) (by simpa using h2)⟩
theorem FrN.blk (h : FrN N p H H') {b t : Nat} {vs : List Value} (hb : Blk H b t vs) (h1 : b ≤ N) (h2 : b ≠ p) : Blk H' b t vs := by
  unfold Blk; rw [h.same b hb.lt h1 h2]; exact hb
end
/-- A tree that is being made in box b3: everything of it lies above N. -/
structure TM (H : Heap) (N b3 : Nat) (wv nv kv lv : Value) (ds : List Value) (n : Nd) (f : Fo) : Prop where
  box : Blk H b3 72 [iv n.kind, wv, nv, kv, iv n.pos, lv]
  gt : N < b3
  vec : Vec H 72 6 lv ds
  ow : ∀ b ∈ own lv, N < b ∧ b ≠ b3
  nr : NR H (fun b => N < b ∧ b ≠ b3 ∧ b ∉ own lv) wv nv kv n
  fl : FL H (fun b => N < b ∧ b ≠ b3 ∧ b ∉ own lv) ds f
def TV (H : Heap) (N b3 : Nat) (n : Nd) (f : Fo) : Prop := ∃ wv nv kv lv ds, TM H N b3 wv nv kv lv ds n f
section
variable {H H' H2 H3 K K1 : Heap} {N b3 p : Nat} {wv nv kv lv : Value} {ds : List Value} {n : Nd} {f : Fo}
theorem TM.step {F : List Nat} (x : TM H N b3 wv nv kv lv ds n f) (q : Fr F H H') (hF : ∀ b ∈ F, b ≤ N) : TM H' N b3 wv nv kv lv ds n f := by
  have hg := x.gt
  have k : Keeps (fun b => N < b ∧ b ≠ b3 ∧ b ∉ own lv) H H' := Keeps.of_fr q (by rintro b ⟨h1, _⟩ e; have := hF b e; omega)
  exact ⟨q.blk x.box (fun e => by have := hF _ e; omega), x.gt, x.vec.frame q (fun b hb e => by have := hF b e; have := x.ow b hb; omega), x.ow, x.nr.frame k, x.fl.frame k⟩
theorem TM.len (x : TM H N b3 wv nv kv lv ds n f) : ∃ a c, lv = .slice a f.len c ∧ ds.length = f.len * 6 := by
  have h1 := x.fl.len
  obtain ⟨a, l, c, e, hl⟩ := x.vec.len
  have : l = f.len := by omega
  subst this
  exact ⟨a, c, e, h1⟩
theorem TM.forms (x : TM H N b3 wv nv kv lv ds n f) : ∃ a1 l1 c1 a2 l2 c2 a3 l3 c3, wv = .slice a1 l1 c1 ∧ nv = .slice a2 l2 c2 ∧ kv = .slice a3 l3 c3 := by
  obtain ⟨a1, l1, c1, rfl⟩ := Rd.slice x.nr.w
  obtain ⟨a2, l2, c2, rfl⟩ := Rd.slice x.nr.u
  exact ⟨a1, l1, c1, a2, l2, c2, none, 0, 0, rfl, rfl, x.nr.k.1⟩
/-- What is in the box is a tree. -/
theorem TM.tr (x : TM H N b3 wv nv kv lv ds n f) : TR H (fun b => N < b ∧ b ≠ b3) [iv n.kind, wv, nv, kv, iv n.pos, lv] n f :=
  ⟨wv, nv, kv, lv, rfl, x.nr.mono (by rintro b ⟨h1, h2, _⟩ _; exact ⟨h1, h2⟩), ds, Rd.of_vec x.vec x.ow, x.fl.mono (by rintro b ⟨h1, h2, _⟩ _; exact ⟨h1, h2⟩)⟩
theorem TM.kind (x : TM H N b3 wv nv kv lv ds n f) (k : Int) : wr H ⟨b3, 0, none⟩ (iv k) = some (setH H ⟨b3, 0, none⟩ (iv k)) ∧ TM (setH H ⟨b3, 0, none⟩ (iv k)) N b3 wv nv kv lv ds { n with kind := k } f := by
  have f1 : Fr [b3] H (setH H ⟨b3, 0, none⟩ (iv k)) := Fr.set (by simp)
  have kp : Keeps (fun b => N < b ∧ b ≠ b3 ∧ b ∉ own lv) H (setH H ⟨b3, 0, none⟩ (iv k)) := Keeps.of_fr f1 (by rintro b ⟨_, h2, _⟩; simpa using h2)
  have nr' := x.nr.frame kp
  exact ⟨x.box.wr (by simp) _, x.box.set 0 (iv k), x.gt, x.vec.frame f1 (fun b hb => by have := x.ow b hb; simpa using this.2), x.ow, ⟨nr'.w, nr'.u, nr'.k⟩, x.fl.frame kp⟩
/-- A slice of numbers, or of words, is put into the box. -/
theorem TM.nums {v' : Value} {us : List Int} (x : TM H N b3 wv nv kv lv ds n f) (hv : Rd H (fun b => N < b ∧ b ≠ b3 ∧ b ∉ own lv) 1 v' (us.map iv)) : wr H ⟨b3, 2, none⟩ v' = some (setH H ⟨b3, 2, none⟩ v') ∧ TM (setH H ⟨b3, 2, none⟩ v') N b3 wv v' kv lv ds { n with nums := us } f := by
  have f1 : Fr [b3] H (setH H ⟨b3, 2, none⟩ v') := Fr.set (by simp)
  have kp : Keeps (fun b => N < b ∧ b ≠ b3 ∧ b ∉ own lv) H (setH H ⟨b3, 2, none⟩ v') := Keeps.of_fr f1 (by rintro b ⟨_, h2, _⟩; simpa using h2)
  have nr' := x.nr.frame kp
  exact ⟨x.box.wr (by simp) _, x.box.set 2 v', x.gt, x.vec.frame f1 (fun b hb => by have := x.ow b hb; simpa using this.2), x.ow, ⟨nr'.w, hv.frame kp, nr'.k⟩, x.fl.frame kp⟩
theorem TM.words {v' : Value} {us : List Str} (x : TM H N b3 wv nv kv lv ds n f) (hv : Rd H (fun b => N < b ∧ b ≠ b3 ∧ b ∉ own lv) 1 v' (us.map sv)) : wr H ⟨b3, 1, none⟩ v' = some (setH H ⟨b3, 1, none⟩ v') ∧ TM (setH H ⟨b3, 1, none⟩ v') N b3 v' nv kv lv ds { n with words := us } f := by
  have f1 : Fr [b3] H (setH H ⟨b3, 1, none⟩ v') := Fr.set (by simp)
  have kp : Keeps (fun b => N < b ∧ b ≠ b3 ∧ b ∉ own lv) H (setH H ⟨b3, 1, none⟩ v') := Keeps.of_fr f1 (by rintro b ⟨_, h2, _⟩; simpa using h2)
  have nr' := x.nr.frame kp
  exact ⟨x.box.wr (by simp) _, x.box.set 1 v', x.gt, x.vec.frame f1 (fun b hb => by have := x.ow b hb; simpa using this.2), x.ow, ⟨hv.frame kp, nr'.u, nr'.k⟩, x.fl.frame kp⟩
/-- The last row of a vector is written. -/
theorem Vec.row {len : Nat} {v : Value} {old new : List Value} (h : Vec H 72 6 v (ds ++ old)) (hl : ds.length = len * 6) (ho : old.length = 6) (hn : new.length = 6) (h1 : ∀ u ∈ new, oneC u = true) :
    ∃ b o c K, v = .slice (some ⟨b, o, none⟩) (len + 1) c ∧ storeA Tryz.prog H 72 ⟨b, o + len * 6, none⟩ (.agg new.toArray) = some K ∧ Vec K 72 6 v (ds ++ new) ∧ Fr (own v) H K := by
  rcases h.ex with ⟨rfl, e⟩ | ⟨b, ln, cap, pre, rest, rfl, hb, e1, e2, e3⟩
  · exfalso; have := congrArg List.length e; rw [List.length_append, List.length_nil] at this; omega
  · have hln : ln = len + 1 := by simp at e1; omega
    subst hln
    have hb' : Blk H b 72 ((pre ++ ds) ++ old ++ rest) := by simpa [List.append_assoc] using hb
    obtain ⟨K, k1, k2, k3⟩ := store_at (P := Tryz.prog) (ty := 72) (new := new) hb' (by omega) (by rw [hn]; exact T.size72) h1
    refine ⟨b, pre.length, cap, K, rfl, ?_, ⟨.inr ⟨b, len + 1, cap, pre, rest, rfl, by simpa [List.append_assoc] using k2, by simp; omega, e2, e3⟩⟩, by simpa [own] using k3⟩
    simp only [List.length_append, hl] at k1
    exact k1
/-- A tree is put behind the others: the row first, then the slice. -/
theorem TM.app1 {m : Nd} {k : Fo} {cp : List Value} {v' : Value} (x : TM K N b3 wv nv kv lv ds n f) (ht : TR K (fun b => N < b ∧ b ≠ b3 ∧ b ∉ own lv) cp m k)
    (g1 : Vec K1 72 6 v' (ds ++ z6)) (g2 : Fr (own lv) K K1) (g3 : ∀ b ∈ own v', b ∈ own lv ∨ K.size ≤ b) :
    ∃ b o c, v' = .slice (some ⟨b, o, none⟩) (f.len + 1) c ∧
      (∃ K2, storeA Tryz.prog K1 72 ⟨b, o + f.len * 6, none⟩ (.agg cp.toArray) = some K2 ∧ wr K2 ⟨b3, 5, none⟩ v' = some (setH K2 ⟨b3, 5, none⟩ v') ∧ TM (setH K2 ⟨b3, 5, none⟩ v') N b3 wv nv kv v' (ds ++ cp) n (f.snoc m k) ∧ Fr (own v') K1 K2) ∧
      (wr K1 ⟨b3, 5, none⟩ v' = some (setH K1 ⟨b3, 5, none⟩ v') ∧ ∃ K2, storeA Tryz.prog (setH K1 ⟨b3, 5, none⟩ v') 72 ⟨b, o + f.len * 6, none⟩ (.agg cp.toArray) = some K2 ∧ TM K2 N b3 wv nv kv v' (ds ++ cp) n (f.snoc m k) ∧ Fr (own v') (setH K1 ⟨b3, 5, none⟩ v') K2) := by
  obtain ⟨a1, l1, c1, a2, l2, c2, a3, l3, c3, a4, l4, c4, ecp⟩ := ht.form
  obtain ⟨al, cl, elv, hds⟩ := x.len
  have hcl : cp.length = 6 := by rw [ecp]; rfl
  have hc1 : ∀ u ∈ cp, oneC u = true := by rw [ecp]; exact one_all rfl
  have hbs := x.box.lt
  have hgt := x.gt
  have ow' : ∀ b ∈ own v', N < b ∧ b ≠ b3 := fun b hb => (g3 b hb).elim (x.ow b) (fun h => ⟨by omega, by omega⟩)
  have box1 : Blk K1 b3 72 [iv n.kind, wv, nv, kv, iv n.pos, lv] := g2.blk x.box (fun e => (x.ow _ e).2 rfl)
  have sub : ∀ b, (N < b ∧ b ≠ b3 ∧ b ∉ own lv) → b < K.size → (N < b ∧ b ≠ b3 ∧ b ∉ own v') := by
    rintro b ⟨h1, h2, h3⟩ h4
    exact ⟨h1, h2, fun e => (g3 b e).elim h3 (fun h => by omega)⟩
  have hk0 : Keeps (fun b => N < b ∧ b ≠ b3 ∧ b ∉ own lv) K K1 := Keeps.of_fr g2 (by rintro b ⟨_, _, h⟩; exact h)
  have hsz := g2.size
  have nr1 := (x.nr.frame hk0)
  have fl1 := (x.fl.frame hk0)
  have tr1 := (ht.frame hk0)
  -- the sets: what lies in K is kept apart from the new slice
  have nr2 : NR K (fun b => N < b ∧ b ≠ b3 ∧ b ∉ own v') wv nv kv n := x.nr.mono sub
  have fl2 : FL K (fun b => N < b ∧ b ≠ b3 ∧ b ∉ own v') ds f := x.fl.mono sub
  have tr2 : TR K (fun b => N < b ∧ b ≠ b3 ∧ b ∉ own v') cp m k := ht.mono sub
  have key : ∀ {X : Heap}, (∀ b, N < b → b ≠ b3 → b ∉ own lv → b ∉ own v' → b < K.size → X[b]? = K[b]?) → NR X (fun b => N < b ∧ b ≠ b3 ∧ b ∉ own v') wv nv kv n ∧ FL X (fun b => N < b ∧ b ≠ b3 ∧ b ∉ own v') (ds ++ cp) (f.snoc m k) := by
    intro X hX
    have kp : Keeps (fun b => (N < b ∧ b ≠ b3 ∧ b ∉ own lv) ∧ b ∉ own v') K X := fun b h1 h2 => hX b h1.1.1 h1.1.2.1 h1.1.2.2 h1.2 h2
    have sub2 : ∀ b, (N < b ∧ b ≠ b3 ∧ b ∉ own lv) → b < K.size → ((N < b ∧ b ≠ b3 ∧ b ∉ own lv) ∧ b ∉ own v') := fun b h1 h2 => ⟨h1, (sub b h1 h2).2.2⟩
    have back : ∀ b, ((N < b ∧ b ≠ b3 ∧ b ∉ own lv) ∧ b ∉ own v') → b < X.size → (N < b ∧ b ≠ b3 ∧ b ∉ own v') := fun b h _ => ⟨h.1.1, h.1.2.1, h.2⟩
    have a1 := ((x.nr.mono sub2).frame kp).mono back
    have a2 := FL.mono back (FL.frame kp (FL.mono sub2 x.fl))
    have a3 := TR.mono back (TR.frame kp (TR.mono sub2 ht))
    exact ⟨a1, FL.snoc a3 a2⟩
  obtain ⟨b, o, c, K2, e1, e2, e3, e4⟩ := Vec.row g1 hds rfl hcl hc1
  refine ⟨b, o, c, e1, ⟨K2, e2, ?_, ?_, e4⟩, ?_, ?_⟩
  · exact (e4.blk box1 (fun e => (ow' _ e).2 rfl)).wr (by simp) _
  · have box2 := e4.blk box1 (fun e => (ow' _ e).2 rfl)
    have f3 : Fr [b3] K2 (setH K2 ⟨b3, 5, none⟩ v') := Fr.set (by simp)
    obtain ⟨q1, q2⟩ := key (X := setH K2 ⟨b3, 5, none⟩ v') (by
      intro b h1 h2 h3 h4 h5
      rw [f3.same b (by have := e4.size; omega) (by simpa using h2), e4.same b (by omega) h4, g2.same b h5 h3])
    exact ⟨box2.set 5 v', x.gt, e3.frame f3 (fun b hb => by have := ow' b hb; simpa using this.2), ow', q1, q2⟩
  · exact box1.wr (by simp) _
  · have f3 : Fr [b3] K1 (setH K1 ⟨b3, 5, none⟩ v') := Fr.set (by simp)
    have g1' := g1.frame f3 (fun b hb => by have := ow' b hb; simpa using this.2)
    obtain ⟨b', o', c', K3, d1, d2, d3, d4⟩ := Vec.row g1' hds rfl hcl hc1
    have : b' = b ∧ o' = o := by rw [e1] at d1; simp at d1; exact ⟨d1.1.1.symm, d1.1.2.symm⟩
    obtain ⟨rfl, rfl⟩ := this
    obtain ⟨q1, q2⟩ := key (X := K3) (by
      intro b h1 h2 h3 h4 h5
      rw [d4.same b (by rw [size_setH]; omega) h4, f3.same b (by omega) (by simpa using h2), g2.same b h5 h3])
    exact ⟨K3, d2, ⟨d4.blk (box1.set 5 v') (fun e => (ow' _ e).2 rfl), x.gt, d3, ow', q1, q2⟩, d4⟩
end
end Go.Proofs.YtpkfgoemhcgpdaaGreatDoor

namespace Go.HL
section
variable {n : Nat} {P : Program}
theorem draw_cut {c : Code} {K : En → Heap → Prop} {Q : Exit → En → Heap → Prop} {ρ : En} {H : Heap} (R : En → Heap → Prop)
    (h : @stop ⟨CW n P c (seqQ (fun ρ H => @stop ⟨R ρ H⟩) Q) ρ H⟩) (h2 : ∀ ρ H, R ρ H → K ρ H) : @stop ⟨CW n P c (seqQ K Q) ρ H⟩ := by
  refine CW.mono ?_ h
  intro e ρ H hx
  cases e <;> first | exact h2 _ _ hx | exact hx
theorem draw_last {c : Code} {Q : Exit → En → Heap → Prop} {ρ : En} {H : Heap} (R : En → Heap → Prop)
    (h : @stop ⟨CW n P c (seqQ (fun ρ H => @stop ⟨R ρ H⟩) Q) ρ H⟩) (h2 : ∀ ρ H, R ρ H → Q .normal ρ H) : @stop ⟨CW n P c Q ρ H⟩ := by
  refine CW.mono ?_ h
  intro e ρ H hx
  cases e <;> first | exact h2 _ _ hx | exact hx
theorem app_src {H : Heap} {t e z bytes xb : Nat} {zero s : Value} {vs new : List Value} {k : Value → Heap → Prop} (hT : ElT P t e z bytes zero) (hz : zero.cells.size = z) (hv : Vec H e z s vs)
    (hb : Blk H xb e new) (hone : ∀ u ∈ new, oneC u = true) (hnew : new.length = 1 * z) (hlen : ∀ a l c, s = .slice a l c → (2 * (l + 1) + 200) * (bytes + 1) ≤ 281474976710656)
    (hk : ∀ v' H', Vec H' e z v' (vs ++ new) → Fr (own s) H H' → (∀ b ∈ own v', b ∈ own s ∨ H.size ≤ b) → (∀ a l c, s = .slice a l c → ∃ a' c', v' = .slice a' (l + 1) c') → k v' H') :
    @appB P t t s (.slice (some ⟨xb, 0, none⟩) 1 1) ⟨H⟩ ⟨k⟩ := by
  refine app_vec (n := 1) (new := new) hT hz hv rfl ?_ hT.under (by simp) hone hnew hlen hk
  show cellsH (cellH _) ⟨xb, 0, none⟩ 0 (1 * z) = some new
  rw [← hnew]
  exact hb.cells0
end
end Go.HL
namespace Go.Proofs.YtpkfgoemhcgpdaaGreatDoor
open Go.HL
set_option maxRecDepth 10000
set_option linter.unusedSimpArgs false
set_option linter.unusedVariables false
def addT (t r : TT) : TT := (t.1, t.2.snoc r.1 r.2)
end Go.Proofs.YtpkfgoemhcgpdaaGreatDoor

namespace Go.Proofs.YtpkfgoemhcgpdaaGreatDoor
open Go.HL
set_option maxRecDepth 10000
set_option linter.unusedSimpArgs false
set_option linter.unusedVariables false

inductive Cs where
  | stat | block
  | stats (t : TT) | waits (t : TT) | orB (t : TT)
def kindT (k : Int) (t : TT) : TT := ({ t.1 with kind := k }, t.2)
def deepOk (s : PS) : Bool := decide (-1000000000 ≤ s.deep ∧ s.deep ≤ 1000000000)
def few (t : TT) : Bool := decide (t.2.len < 1000000)
def tree1 (n : Nd) (a : TT) : TT := (n, .cons a.1 a.2 .nil)
def stepS (L : List Tok) (E : PS → Option (TT × PS)) (ih : Cs → PS → Option (TT × PS)) : Cs → PS → Option (TT × PS)
  | .stats t, s => if okM s then (if seesM L [125] s then some (t, upM s) else if few t then (ih .stat s).bind fun r => ih (.stats (addT t r.1)) r.2 else none) else some (t, s)
  | .block, s => if deepOk (mustM L [123] s) then (ih (.stats (beginM L 16 s, .nil)) (inM L (mustM L [123] s))).bind fun r => if deepOk r.2 then some (r.1, outM r.2) else none else none
  | .waits t, s =>
    if seesM L [114, 101, 99, 118] s then
      some (({ t.1 with kind := 8, words := [(pnameM L (upM s)).1, (pnameM L (pnameM L (upM s)).2).1] }, t.2), mustM L [59] (pnameM L (pnameM L (upM s)).2).2)
    else if seesM L [119, 104, 101, 110] s then (E (upM s)).bind fun r => some (addT (kindT 9 t) r.1, mustM L [59] r.2)
    else (ih .block (mustM L [99, 104, 111, 111, 115, 101] s)).bind fun r => ih (.orB (addT (kindT 10 t) r.1)) r.2
  | .orB t, s => if seesM L [111, 114] s then (if few t then (ih .block (upM s)).bind fun r => ih (.orB (addT t r.1)) r.2 else none) else some (t, s)
  | .stat, s =>
    let n0 := beginM L 6 s
    let s1 := (flagM L [105, 100, 108, 101] s).2
    if seesM L [105, 100, 108, 101] s || seesM L [114, 101, 99, 118] s1 || seesM L [119, 104, 101, 110] s1 || seesM L [99, 104, 111, 111, 115, 101] s1 then
      ih (.waits ({ n0 with nums := [(flagM L [105, 100, 108, 101] s).1] }, .nil)) s1
    else if seesM L [115, 101, 110, 100] s1 then
      (E (pnameM L (upM s1)).2).bind fun r => some (tree1 { n0 with kind := 7, words := [(pnameM L (upM s1)).1] } r.1, mustM L [59] r.2)
    else if seesM L [105, 102] s1 then
      (E (upM s1)).bind fun r => (ih .block r.2).bind fun q =>
        if seesM L [101, 108, 115, 101] q.2 then (ih .block (upM q.2)).bind fun u => some (addT (addT (tree1 { n0 with kind := 11 } r.1) q.1) u.1, u.2)
        else some (addT (tree1 { n0 with kind := 11 } r.1) q.1, q.2)
    else if seesM L [119, 104, 105, 108, 101] s1 then
      (E (upM s1)).bind fun r => (ih .block r.2).bind fun q => some (addT (tree1 { n0 with kind := 12 } r.1) q.1, q.2)
    else if seesM L [97, 116, 111, 109, 105, 99] s1 then (ih .block (upM s1)).bind fun q => some (tree1 { n0 with kind := 13 } q.1, q.2)
    else if seesM L [115, 107, 105, 112] s1 then some (({ n0 with kind := 14 }, .nil), mustM L [59] (upM s1))
    else if seesM L [115, 116, 111, 112] s1 then some (({ n0 with kind := 15 }, .nil), mustM L [59] (upM s1))
    else (E (mustM L [61] (pnameM L s1).2)).bind fun r => some (tree1 { n0 with words := [(pnameM L s1).1] } r.1, mustM L [59] r.2)
def runS (L : List Tok) : Nat → Cs → PS → Option (TT × PS)
  | 0 => fun _ _ => none
  | n + 1 => stepS L (runE L n .expr) (runS L n)
/-- What a function leaves that works on a tree in a box. -/
def BoxQ (H : Heap) (N p b : Nat) (tv : Value) (L : List Tok) (r : TT × PS) (H' : Heap) : Prop := FrN N p H H' ∧ PM H' p tv L r.2 ∧ TV H' N b r.1.1 r.1.2
structure SpecS (L : List Tok) (ih : Cs → PS → Option (TT × PS)) : Prop where
  stat : FnE L 95 (ih .stat)
  block : FnE L 106 (ih .block)
  stats : ∀ {H p tv s t r N b}, p < N → PM H p tv L s → TV H N b t.1 t.2 → ih (.stats t) s = some r → CallF Tryz.prog 76 [hp p, hp b] H (fun _ H' => BoxQ H N p b tv L r H') NoP
  waits : ∀ {H p tv s t r N b nv kv}, p < N → PM H p tv L s → TM H N b noS nv kv noS [] t.1 t.2 → t.1.words = [] → t.2 = .nil → ih (.waits t) s = some r → CallF Tryz.prog 105 [hp p, hp b] H (fun _ H' => BoxQ H N p b tv L r H') NoP
/-- The state of a function that makes a tree in box b3. -/
structure XN (H H2 : Heap) (p : Nat) (tv : Value) (L : List Tok) (N b3 : Nat) (wv nv kv lv : Value) (ds : List Value) (t : TT) (s : PS) : Prop where
  fr : FrN N p H H2
  pm : PM H2 p tv L s
  low : p < N
  tm : TM H2 N b3 wv nv kv lv ds t.1 t.2
section
variable {H H2 H3 : Heap} {p N b3 : Nat} {tv : Value} {L : List Tok} {wv nv kv lv : Value} {ds : List Value} {t : TT} {s s2 : PS}
theorem XN.step (x : XN H H2 p tv L N b3 wv nv kv lv ds t s) (q : PP H2 p tv L s2 H3) : XN H H3 p tv L N b3 wv nv kv lv ds t s2 :=
  ⟨x.fr.trans (FrN.of q.1 (by simp)), q.2, x.low, x.tm.step q.1 (by have := x.low; simp; omega)⟩
theorem XN.grow (x : XN H H2 p tv L N b3 wv nv kv lv ds t s) (q : Fr [] H2 H3) : XN H H3 p tv L N b3 wv nv kv lv ds t s := x.step ⟨q.nil, x.pm.grow q⟩
theorem XN.over {F : List Nat} {wv' nv' kv' lv' : Value} {ds' : List Value} {t' : TT} (x : XN H H2 p tv L N b3 wv nv kv lv ds t s) (q : Fr F H2 H3) (hF : ∀ b ∈ F, N < b) (ht : TM H3 N b3 wv' nv' kv' lv' ds' t'.1 t'.2) : XN H H3 p tv L N b3 wv' nv' kv' lv' ds' t' s :=
  ⟨x.fr.trans (FrN.of q (fun b hb => .inr (hF b hb))), x.pm.over q (fun b hb => by have := hF b hb; have := x.low; omega), x.low, ht⟩
end
end Go.Proofs.YtpkfgoemhcgpdaaGreatDoor

namespace Go.HL
set_option linter.unusedVariables false in
theorem Fr.cat {F G : List Nat} {H H1 H2 : Heap} (h : Fr F H H1) (h' : Fr G H1 H2) : Fr (F ++ G) H H2 :=
  (h.mono (fun b _ hb => List.mem_append_left _ hb)).trans (h'.mono (fun b _ hb => List.mem_append_right _ hb))
end Go.HL
namespace Go.Proofs.YtpkfgoemhcgpdaaGreatDoor
open Go.HL
set_option maxRecDepth 10000
set_option linter.unusedSimpArgs false
set_option linter.unusedVariables false

set_option maxHeartbeats 1000000 in
theorem pStats_step {L : List Tok} {n : Nat} (hW : TW L) (IH : ∀ m, m < n + 1 → SpecS L (runS L m)) : ∀ {H p tv s t r N b}, p < N → PM H p tv L s → TV H N b t.1 t.2 → runS L (n + 1) (.stats t) s = some r → CallF Tryz.prog 76 [hp p, hp b] H (fun _ H' => BoxQ H N p b tv L r H') NoP := by
  intro H p tv s t0 r N b3 hlow h ht hm
  obtain ⟨wv, nv, kv, lv, ds, tm⟩ := ht
  refine callF_of Tryz.func76 rfl Tryz.ntmps76 Tryz.results76 (by decide) rfl ?_
  simp (disch := omega) only [go_sem, ↓cw_block, dsB_of]
  refine loop_by (fun k ρ H2 => ∃ t s1 lv ds, runS L k (.stats t) s1 = some r ∧ k ≤ n + 1 ∧ XN H H2 p tv L N b3 wv nv kv lv ds t s1 ∧ (ρ.get 0 = hp p ∧ ρ.get 1 = hp b3 ∧ ρ.ds = [])) (k := n + 1) ?_ ?_
  · exact ⟨t0, s, lv, ds, hm, Nat.le_refl _, ⟨FrN.refl, h, hlow, tm⟩, by simp (disch := omega) only [go_sem, ↓cw_block, dsB_of]⟩
  · clear tm lv ds
    rintro k ρ H2 ⟨t, s1, lv, ds, hk, hkn, x, r0, r1, rd⟩
    cases k with
    | zero => simp [runS] at hk
    | succ k =>
    change (if okM s1 then (if seesM L [125] s1 then some (t, upM s1) else if few t then (runS L k .stat s1).bind fun r => runS L k (.stats (addT t r.1)) r.2 else none) else some (t, s1)) = some r at hk
    simp (disch := omega) only [go_sem, ↓cw_block, dsB_of, r0, r1, rd]
    refine call_to (pOk_spec x.pm) ?_
    rintro _ _ ⟨rfl, rfl⟩
    cases qo : okM s1
    · rw [qo] at hk
      simp only [Bool.false_eq_true, if_false, Option.some.injEq] at hk
      subst hk
      simp (disch := omega) only [go_sem, ↓cw_block, dsB_of, r0, r1, rd]
      exact fin ⟨x.fr, x.pm, _, _, _, _, _, x.tm⟩
    · rw [qo] at hk
      simp only [if_true] at hk
      simp (disch := omega) only [go_sem, ↓cw_block, dsB_of, r0, r1, rd]
      refine call_to (pTake_spec hW x.pm) ?_
      intro v H3 hv
      refine Hush.out ?_
      obtain ⟨q3, rfl⟩ := hv
      cases qs : seesM L [125] s1
      · have ht : takeM L [125] s1 = (false, s1) := by simp [takeM, qs]
        rw [ht] at q3
        rw [qs] at hk
        simp only [Bool.false_eq_true, if_false] at hk
        cases qf : few t
        · rw [qf] at hk; simp at hk
        rw [qf] at hk
        simp only [if_true] at hk
        obtain ⟨r2, hr2, hk⟩ := Option.bind_eq_some_iff.1 hk
        have x := x.step q3
        refine ⟨?_⟩
        simp (disch := omega) only [go_sem, ↓cw_block, dsB_of, ht, r0, r1, rd]
        refine draw_last (fun ρ' H' => ∃ lv' ds', XN H H' p tv L N b3 wv nv kv lv' ds' (addT t r2.1) r2.2 ∧ ρ'.get 0 = hp p ∧ ρ'.get 1 = hp b3 ∧ ρ'.ds = []) ?_ ?_
        · obtain ⟨al, cl, elv, hdl⟩ := x.tm.len
          obtain ⟨f1, f2, f3, f4, f5, f6, f7, f8, f9, ew, en, ek⟩ := x.tm.forms
          have hfew : t.2.len < 1000000 := by simpa [few] using qf
          subst ew en ek elv
          refine draw1 (lk [(0, false), (1, false), (2, false), (3, false), (4, false), (6, false)] (.act 5 (.act 7 (.actd 8 (lk [(9, false), (11, false), (12, false)] (.act 10 (.act 13 .fin .non) (.act 13 (.act 10 .fin .non) .non)))) .non) (.act 7 (.act 5 (.actd 8 (lk [(9, false), (11, false), (12, false)] (.act 10 (.act 13 .fin .non) (.act 13 (.act 10 .fin .non) .non)))) .non) .non))) T.mixed (hlist b3 0 _) (heldOK_blk x.tm.box) ?_
          simp (disch := omega) only [go_sem, ↓cw_block, dsB_of, r0, r1, rd]
          refine both_of ?_ ?_
          · simp (disch := omega) only [go_sem, ↓cw_block, dsB_of, r0, r1, rd]
            refine call_to ((IH k (by omega)).stat x.pm hr2) ?_
            intro v H4 hv
            refine Hush.out ?_
            obtain ⟨q4, cp, rfl, t4⟩ := hv
            have x4 := x.step q4
            have t4' := t4.mono (S' := fun b => N < b ∧ b ≠ b3 ∧ b ∉ own (Value.slice al (t).2.len cl)) (by intro b hb _; have := x.tm.box.lt; have := x.tm.gt; (try simp only [Array.size_push] at hb); exact ⟨by omega, by omega, fun e => by have := x.tm.vec.lt b e; omega⟩)
            refine ⟨?_⟩
            refine held_by (heldOK_blk x4.tm.box) ?_
            simp (disch := omega) only [go_sem, ↓cw_block, dsB_of, r0, r1, rd]
            refine held_by (heldOK_blk (x4.grow Fr.push).tm.box) ?_
            simp (disch := omega) only [go_sem, ↓cw_block, dsB_of, r0, r1, rd]
            refine app_lit (n := 1) (new := z6) T.el70 rfl x4.tm.vec (one_all rfl) rfl (by intro a' l c e; simp only [Value.slice.injEq] at e; obtain ⟨_, rfl, _⟩ := e; omega) ?_
            intro v' K1 g1 g2 g3 g4
            obtain ⟨b, o, c, e1, ⟨K2, h1, h2, h3, h4⟩, w1, K3, h5, h6, h7⟩ := TM.app1 x4.tm t4' g1 g2 g3
            subst e1
            have ow' : ∀ y ∈ own (Value.slice (some ⟨b, o, none⟩) ((t).2.len + 1) c), N < y := fun y hy => (g3 y hy).elim (fun h => (x4.tm.ow y h).1) (fun h => by have := x4.tm.box.lt; have := x4.tm.gt; omega)
            simp (disch := omega) only [go_sem, ↓cw_block, dsB_of, r0, r1, rd]
            refine both_of ?_ ?_
            · simp (disch := omega) only [go_sem, ↓cw_block, dsB_of, r0, r1, rd, h1, h2]
              exact fin ⟨_, _, x4.over (t' := addT t r2.1) ((g2.cat h4).cat (Fr.set (a := ⟨b3, 5, none⟩) (F := [b3]) (by simp))) (by intro y hy; simp only [List.mem_append, List.mem_singleton] at hy; rcases hy with (hy | hy) | hy; exact (x4.tm.ow y hy).1; exact ow' y hy; rw [hy]; exact x4.tm.gt) h3, by simp (disch := omega) only [go_sem, ↓cw_block, dsB_of, r0, r1, rd]⟩
            · simp (disch := omega) only [go_sem, ↓cw_block, dsB_of, r0, r1, rd, w1, h5]
              exact fin ⟨_, _, x4.over (t' := addT t r2.1) ((g2.cat (Fr.set (a := ⟨b3, 5, none⟩) (F := [b3]) (by simp))).cat h7) (by intro y hy; simp only [List.mem_append, List.mem_singleton] at hy; rcases hy with (hy | hy) | hy; exact (x4.tm.ow y hy).1; rw [hy]; exact x4.tm.gt; exact ow' y hy) h6, by simp (disch := omega) only [go_sem, ↓cw_block, dsB_of, r0, r1, rd]⟩
          · have x3 := x.grow (Fr.push (o := .cells #[iv 0, noS, noS, noS, iv 0, noS] 72))
            simp (disch := omega) only [go_sem, ↓cw_block, dsB_of, r0, r1, rd]
            refine held_by (heldOK_blk x3.tm.box) ?_
            simp (disch := omega) only [go_sem, ↓cw_block, dsB_of, r0, r1, rd]
            refine call_to ((IH k (by omega)).stat x3.pm hr2) ?_
            intro v H4 hv
            refine Hush.out ?_
            obtain ⟨q4, cp, rfl, t4⟩ := hv
            have x4 := x3.step q4
            have hxb : Blk H4 _ 72 z6 := q4.1.blk (Blk.new rfl) (by have := x.pm.lt; simp; omega)
            have t4' := t4.mono (S' := fun b => N < b ∧ b ≠ b3 ∧ b ∉ own (Value.slice al (t).2.len cl)) (by intro b hb _; have := x.tm.box.lt; have := x.tm.gt; (try simp only [Array.size_push] at hb); exact ⟨by omega, by omega, fun e => by have := x.tm.vec.lt b e; omega⟩)
            refine ⟨?_⟩
            refine held_by (heldOK_blk x4.tm.box) ?_
            simp (disch := omega) only [go_sem, ↓cw_block, dsB_of, r0, r1, rd]
            refine app_src (new := z6) T.el70 rfl x4.tm.vec hxb (one_all rfl) rfl (by intro a' l c e; simp only [Value.slice.injEq] at e; obtain ⟨_, rfl, _⟩ := e; omega) ?_
            intro v' K1 g1 g2 g3 g4
            obtain ⟨b, o, c, e1, ⟨K2, h1, h2, h3, h4⟩, w1, K3, h5, h6, h7⟩ := TM.app1 x4.tm t4' g1 g2 g3
            subst e1
            have ow' : ∀ y ∈ own (Value.slice (some ⟨b, o, none⟩) ((t).2.len + 1) c), N < y := fun y hy => (g3 y hy).elim (fun h => (x4.tm.ow y h).1) (fun h => by have := x4.tm.box.lt; have := x4.tm.gt; omega)
            simp (disch := omega) only [go_sem, ↓cw_block, dsB_of, r0, r1, rd]
            refine both_of ?_ ?_
            · simp (disch := omega) only [go_sem, ↓cw_block, dsB_of, r0, r1, rd, h1, h2]
              exact fin ⟨_, _, x4.over (t' := addT t r2.1) ((g2.cat h4).cat (Fr.set (a := ⟨b3, 5, none⟩) (F := [b3]) (by simp))) (by intro y hy; simp only [List.mem_append, List.mem_singleton] at hy; rcases hy with (hy | hy) | hy; exact (x4.tm.ow y hy).1; exact ow' y hy; rw [hy]; exact x4.tm.gt) h3, by simp (disch := omega) only [go_sem, ↓cw_block, dsB_of, r0, r1, rd]⟩
            · simp (disch := omega) only [go_sem, ↓cw_block, dsB_of, r0, r1, rd, w1, h5]
              exact fin ⟨_, _, x4.over (t' := addT t r2.1) ((g2.cat (Fr.set (a := ⟨b3, 5, none⟩) (F := [b3]) (by simp))).cat h7) (by intro y hy; simp only [List.mem_append, List.mem_singleton] at hy; rcases hy with (hy | hy) | hy; exact (x4.tm.ow y hy).1; rw [hy]; exact x4.tm.gt; exact ow' y hy) h6, by simp (disch := omega) only [go_sem, ↓cw_block, dsB_of, r0, r1, rd]⟩
        · rintro ρ' H5 ⟨lv', ds', x5, r0, r1, rd⟩
          simp (disch := omega) only [go_sem, ↓cw_block, dsB_of]
          exact fin ⟨k, by omega, _, _, _, _, hk, by omega, x5, r0, r1, rd⟩
      · have ht : takeM L [125] s1 = (true, upM s1) := by simp [takeM, qs]
        rw [ht] at q3
        rw [qs] at hk
        simp only [if_true, Option.some.injEq] at hk
        subst hk
        have x := x.step q3
        refine ⟨?_⟩
        simp (disch := omega) only [go_sem, ↓cw_block, dsB_of, ht, r0, r1, rd]
        exact fin ⟨x.fr, x.pm, _, _, _, _, _, x.tm⟩
end Go.Proofs.YtpkfgoemhcgpdaaGreatDoor

namespace Go.Proofs.YtpkfgoemhcgpdaaGreatDoor
open Go.HL
set_option maxRecDepth 10000
set_option linter.unusedSimpArgs false
set_option linter.unusedVariables false

section
variable {H H1 H2 H3 G G1 : Heap} {p b3 : Nat} {tv : Value} {L : List Tok} {wv nv kv lv : Value} {ds : List Value} {t : TT} {s s2 : PS}
theorem XN.ld (x : XN H H2 p tv L H.size b3 wv nv kv lv ds t s) : cellsH (cellH H2) ⟨b3, 0, none⟩ 0 6 = some [iv t.1.kind, wv, nv, kv, iv t.1.pos, lv] := x.tm.box.cells0
theorem XN.fin (x : XN H H2 p tv L H.size b3 wv nv kv lv ds t s) (res : Blk H2 H.size 72 z6) : ∃ H5, storeA Tryz.prog H2 72 ⟨H.size, 0, none⟩ (.agg #[iv t.1.kind, wv, nv, kv, iv t.1.pos, lv]) = some H5 ∧
    cellsH (cellH H5) ⟨H.size, 0, none⟩ 0 6 = some [iv t.1.kind, wv, nv, kv, iv t.1.pos, lv] ∧ ExpQ H p tv L (t, s) (.agg #[iv t.1.kind, wv, nv, kv, iv t.1.pos, lv]) H5 := by
  obtain ⟨f1, f2, f3, f4, f5, f6, f7, f8, f9, ew, en, ek⟩ := x.tm.forms
  obtain ⟨al, cl, elv, hdl⟩ := x.tm.len
  have hg := x.tm.gt
  obtain ⟨H5, e1, e2, e3⟩ := store_blk (P := Tryz.prog) (ty := 72) (new := [iv t.1.kind, wv, nv, kv, iv t.1.pos, lv]) res rfl T.size72 (by rw [ew, en, ek, elv]; exact one_all rfl)
  refine ⟨H5, e1, e2.cells0, ⟨?_, x.pm.over e3 (by have := x.low; simpa using this)⟩, _, rfl, ?_⟩
  · have f1 := x.fr.fr (by omega)
    exact Fr.more f1 e3 (by simp)
  · exact (x.tm.tr.mono (S' := fun b => H.size < b) (by rintro b ⟨h1, _⟩ _; exact h1)).frame (Keeps.of_fr e3 (by intro b hb; simp; omega)) |>.mono (by intro b hb _; show H.size ≤ b; omega)
/-- A function that makes a tree has begun. -/
theorem XN.new {n : Nd} (h : PM H p tv L s) (hG : G = H.push (.cells #[iv 0, noS, noS, noS, iv 0, noS] 72)) (f1 : Fr [] G H1) (hG1 : G1 = H1.push (.cells #[iv n.kind, noS, noS, noS, iv n.pos, noS] 72)) (hn : n.words = [] ∧ n.nums = [] ∧ n.kids = []) :
    XN H G1 p tv L H.size H1.size noS noS noS noS [] (n, .nil) s ∧ Blk G1 H.size 72 z6 := by
  have f0 : Fr [] H G := by rw [hG]; exact Fr.push
  have zG : G.size = H.size + 1 := by rw [hG]; simp
  have b0 : Blk G H.size 72 z6 := by rw [hG]; exact Blk.new rfl
  have f2 : Fr [] H1 G1 := by rw [hG1]; exact Fr.push
  have hz := f1.size
  have fa := (f0.trans f1).trans f2
  refine ⟨⟨FrN.of fa (by simp), h.grow fa, h.lt, ⟨by rw [hG1]; exact Blk.new rfl, by omega, Vec.nil, by simp [own], ⟨?_, ?_, ?_⟩, rfl⟩⟩, (f1.trans f2).blk b0 (by simp)⟩
  · rw [hn.1]; exact Rd.nil
  · rw [hn.2.1]; exact Rd.nil
  · exact ⟨rfl, hn.2.2⟩
end
theorem pBlock_step {L : List Tok} {n : Nat} (hW : TW L) (IH : ∀ m, m < n + 1 → SpecS L (runS L m)) : FnE L 106 (runS L (n + 1) .block) := by
  intro H p tv s r h hm
  change (if deepOk (mustM L [123] s) then (runS L n (.stats (beginM L 16 s, .nil)) (inM L (mustM L [123] s))).bind fun r => if deepOk r.2 then some (r.1, outM r.2) else none else none) = some r at hm
  cases qd : deepOk (mustM L [123] s)
  · rw [qd] at hm; simp at hm
  rw [qd] at hm
  simp only [if_true] at hm
  obtain ⟨r1, hr1, hm⟩ := Option.bind_eq_some_iff.1 hm
  cases qe : deepOk r1.2
  · rw [qe] at hm; simp at hm
  rw [qe] at hm
  simp only [if_true, Option.some.injEq] at hm
  subst hm
  have qd' : -1000000000 ≤ (mustM L [123] s).deep ∧ (mustM L [123] s).deep ≤ 1000000000 := by simpa [deepOk] using qd
  have qe' : -1000000000 ≤ r1.2.deep ∧ r1.2.deep ≤ 1000000000 := by simpa [deepOk] using qe
  obtain ⟨G, hG⟩ : ∃ G, G = H.push (.cells #[iv 0, noS, noS, noS, iv 0, noS] 72) := ⟨_, rfl⟩
  have f0 : Fr [] H G := by rw [hG]; exact Fr.push
  have h0 := h.grow f0
  refine callF_of Tryz.func106 rfl Tryz.ntmps106 Tryz.results106 (by decide) rfl ?_
  simp (disch := omega) only [go_sem, ↓cw_block, dsB_of]
  rw [← hG]
  refine call_to (pBegin_spec h0) ?_
  intro v H1 hv
  refine Hush.out ?_
  obtain ⟨f1, rfl⟩ := hv
  obtain ⟨G1, hG1⟩ : ∃ G, G = H1.push (.cells #[iv 16, noS, noS, noS, iv (tkM L s).pos, noS] 72) := ⟨_, rfl⟩
  obtain ⟨x, hres⟩ := XN.new (n := beginM L 16 s) h hG f1 hG1 ⟨rfl, rfl, rfl⟩
  have hlow := h.lt
  refine ⟨?_⟩
  simp (disch := omega) only [go_sem, ↓cw_block, dsB_of, nd0, beginM]
  rw [← hG1]
  refine call_to (pMust_spec hW x.pm) ?_
  intro v H2 hv
  refine Hush.out ?_
  have x2 := x.step hv
  have hres2 := hv.1.blk hres (by simp; omega)
  refine ⟨?_⟩
  simp (disch := omega) only [go_sem, ↓cw_block, dsB_of]
  refine call_to (pIn_spec x2.pm qd') ?_
  intro v H3 hv
  refine Hush.out ?_
  have x3 := x2.step hv
  have hres3 := hv.1.blk hres2 (by simp; omega)
  refine ⟨?_⟩
  simp (disch := omega) only [go_sem, ↓cw_block, dsB_of]
  refine call_to ((IH n (by omega)).stats (t := (beginM L 16 s, .nil)) x3.low x3.pm ⟨_, _, _, _, _, x3.tm⟩ hr1) ?_
  intro v H4 hv
  refine Hush.out ?_
  obtain ⟨fr4, pm4, wv, nv, kv, lv, ds, tm4⟩ := hv
  have hres4 := fr4.blk hres3 (Nat.le_refl _) (by omega)
  have c2 := pm4.c2
  have w2 := pm4.w2
  have x4 : XN H H4 p tv L H.size H1.size wv nv kv lv ds r1.1 r1.2 := ⟨x3.fr.trans fr4, pm4, x3.low, tm4⟩
  have pp5 : PP H4 p tv L (outM r1.2) (setH H4 ⟨p, 2, none⟩ (iv (r1.2.deep - 1))) := ⟨Fr.set (by simp), pm4.set2 (r1.2.deep - 1)⟩
  have x5 := x4.step pp5
  have hres5 := pp5.1.blk hres4 (by simp; omega)
  have ld := x5.ld
  obtain ⟨H6, e1, e2, e3⟩ := x5.fin hres5
  refine ⟨?_⟩
  simp (disch := omega) only [go_sem, ↓cw_block, dsB_of, c2, w2, ld, e1, e2]
  exact fin e3
end Go.Proofs.YtpkfgoemhcgpdaaGreatDoor

