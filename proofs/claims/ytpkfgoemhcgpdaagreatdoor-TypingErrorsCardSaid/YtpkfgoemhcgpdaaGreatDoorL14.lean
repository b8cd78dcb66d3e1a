/- The document's parser: a statement. -/
import Derived.Test.YtpkfgoemhcgpdaaGreatDoorL13
namespace Go.Proofs.YtpkfgoemhcgpdaaGreatDoor
open Go.HL
set_option maxRecDepth 10000
set_option linter.unusedSimpArgs false
set_option linter.unusedVariables false

section
variable {H H1 H2 G G1 : Heap} {p N b3 : Nat} {tv : Value} {L : List Tok} {wv nv kv lv : Value} {ds : List Value} {t : TT} {s s2 : PS}
theorem XN.new2 {n : Nd} (h : PM H p tv L s) (hG : G = H.push (.cells #[iv 0, noS, noS, noS, iv 0, noS] 72)) (f1 : Fr [] G H1) (hG1 : G1 = H1.push (.cells #[iv n.kind, noS, noS, noS, iv n.pos, noS] 72)) (hn : n.words = [] ∧ n.nums = [] ∧ n.kids = []) :
    XN G G1 p tv L H.size H1.size noS noS noS noS [] (n, .nil) s := by
  obtain ⟨x, _⟩ := XN.new h hG f1 hG1 hn
  have f2 : Fr [] H1 G1 := by rw [hG1]; exact Fr.push
  exact ⟨FrN.of (f1.trans f2) (by simp), x.pm, x.low, x.tm⟩
theorem XN.fin2 (x : XN G H2 p tv L H.size b3 wv nv kv lv ds t s) (hG : G = H.push (.cells #[iv 0, noS, noS, noS, iv 0, noS] 72)) : cellsH (cellH H2) ⟨b3, 0, none⟩ 0 6 = some [iv t.1.kind, wv, nv, kv, iv t.1.pos, lv] ∧ ∃ H5, storeA Tryz.prog H2 72 ⟨H.size, 0, none⟩ (.agg #[iv t.1.kind, wv, nv, kv, iv t.1.pos, lv]) = some H5 ∧
    cellsH (cellH H5) ⟨H.size, 0, none⟩ 0 6 = some [iv t.1.kind, wv, nv, kv, iv t.1.pos, lv] ∧ ExpQ H p tv L (t, s) (.agg #[iv t.1.kind, wv, nv, kv, iv t.1.pos, lv]) H5 := by
  have f0 : Fr [] H G := by rw [hG]; exact Fr.push
  have zG : G.size = H.size + 1 := by rw [hG]; simp
  have b0 : Blk G H.size 72 z6 := by rw [hG]; exact Blk.new rfl
  have hl := x.low
  have res := x.fr.blk b0 (Nat.le_refl _) (by omega)
  have x' : XN H H2 p tv L H.size b3 wv nv kv lv ds t s := ⟨(FrN.of f0 (by simp)).trans x.fr, x.pm, x.low, x.tm⟩
  exact ⟨x'.ld, x'.fin res⟩
theorem XN.lits (x : XN H H2 p tv L N b3 wv nv kv lv ds t s) (us : List Int) (len : Nat) (hl : us.length = len) : wr (H2.push (.cells (us.map iv).toArray 3)) ⟨b3, 2, none⟩ (.slice (some ⟨H2.size, 0, none⟩) len len) = some (setH (H2.push (.cells (us.map iv).toArray 3)) ⟨b3, 2, none⟩ (.slice (some ⟨H2.size, 0, none⟩) len len)) ∧
    XN H (setH (H2.push (.cells (us.map iv).toArray 3)) ⟨b3, 2, none⟩ (.slice (some ⟨H2.size, 0, none⟩) len len)) p tv L N b3 wv (.slice (some ⟨H2.size, 0, none⟩) len len) kv lv ds ({ t.1 with nums := us }, t.2) s := by
  subst hl
  have x1 := x.grow (Fr.push (o := .cells (us.map iv).toArray 3))
  have hb : Blk (H2.push (.cells (us.map iv).toArray 3)) H2.size 3 (us.map iv) := Blk.new rfl
  have a1 := x.tm.box.lt
  have a2 := x.tm.gt
  obtain ⟨h1, h2⟩ := x1.tm.nums (v' := .slice (some ⟨H2.size, 0, none⟩) us.length us.length) (us := us) ⟨_, _, _, rfl, by simp, fun i y hy => ⟨H2.size, 0, rfl, ⟨by omega, by omega, fun e => by have := x.tm.vec.lt _ e; omega⟩, by rw [Nat.zero_add, hb.cell]; exact hy⟩⟩
  exact ⟨h1, x1.over (t' := ({ t.1 with nums := us }, t.2)) (F := [b3]) (Fr.set (by simp)) (by simpa using x.tm.gt) h2⟩
end
set_option maxHeartbeats 4000000 in
theorem pStat_step {L : List Tok} {n : Nat} (hW : TW L) (IH : ∀ m, m < n + 1 → SpecS L (runS L m)) : FnE L 95 (runS L (n + 1) .stat) := by
  intro H p tv s r h hm
  have hE := specE hW n
  change stepS L (runE L n .expr) (runS L n) .stat s = some r at hm
  simp only [stepS] at hm
  obtain ⟨G, hG⟩ : ∃ G, G = H.push (.cells #[iv 0, noS, noS, noS, iv 0, noS] 72) := ⟨_, rfl⟩
  have f0 : Fr [] H G := by rw [hG]; exact Fr.push
  have h0 := h.grow f0
  refine callF_of Tryz.func95 rfl Tryz.ntmps95 Tryz.results95 (by decide) rfl ?_
  simp (disch := omega) only [go_sem, ↓cw_block, dsB_of]
  rw [← hG]
  refine call_to (pBegin_spec h0) ?_
  intro v H1 hv
  refine Hush.out ?_
  obtain ⟨f1, rfl⟩ := hv
  obtain ⟨G1, hG1⟩ : ∃ G, G = H1.push (.cells #[iv 6, noS, noS, noS, iv (tkM L s).pos, noS] 72) := ⟨_, rfl⟩
  have x := XN.new2 (n := beginM L 6 s) h hG f1 hG1 ⟨rfl, rfl, rfl⟩
  have hlow := h.lt
  refine ⟨?_⟩
  simp (disch := omega) only [go_sem, ↓cw_block, dsB_of, nd0, beginM]
  rw [← hG1]
  refine call_to (pFlag_spec hW x.pm) ?_
  intro v HF hv
  refine Hush.out ?_
  obtain ⟨qf, rfl⟩ := hv
  cases q0 : seesM L [105, 100, 108, 101] s
  rotate_left
  · have hfl : flagM L [105, 100, 108, 101] s = (1, upM s) := by simp [flagM, q0]
    rw [hfl] at qf
    simp only [q0, hfl, Bool.true_or, if_true] at hm
    have x := x.step qf
    obtain ⟨w1, x⟩ := x.lits [1] 1 rfl
    refine ⟨?_⟩
    simp (disch := omega) only [go_sem, ↓cw_block, dsB_of, hfl, List.map_cons, List.map_nil]
    have w1' := w1
    simp only [List.map_cons, List.map_nil] at w1'
    simp (disch := omega) only [go_sem, ↓cw_block, dsB_of, w1']
    refine call_to ((IH n (by omega)).waits (t := ({ beginM L 6 s with nums := [1] }, .nil)) x.low x.pm x.tm rfl rfl hm) ?_
    intro v H4 hv
    refine Hush.out ?_
    obtain ⟨fr4, pm4, wv, nv, kv, lv, ds, tm4⟩ := hv
    have x : XN G H4 p tv L H.size H1.size wv nv kv lv ds r.1 r.2 := ⟨x.fr.trans fr4, pm4, x.low, tm4⟩
    obtain ⟨ld, H6, e1, e2, e3⟩ := x.fin2 hG
    refine ⟨?_⟩
    simp (disch := omega) only [go_sem, ↓cw_block, dsB_of, id_eq, ld, e1, e2]
    exact fin e3
  have hfl : flagM L [105, 100, 108, 101] s = (0, s) := by simp [flagM, q0]
  rw [hfl] at qf
  simp only [q0, hfl, Bool.false_or] at hm
  have x := x.step qf
  refine ⟨?_⟩
  simp (disch := omega) only [go_sem, ↓cw_block, dsB_of, hfl]
  refine call_to (pSees_spec x.pm) ?_
  intro v HS hv
  refine Hush.out ?_
  obtain ⟨fs, rfl⟩ := hv
  have x := x.grow fs
  cases q1 : seesM L [114, 101, 99, 118] s
  rotate_left
  · simp only [q1, Bool.true_or, Bool.or_true, if_true] at hm
    obtain ⟨w1, x⟩ := x.lits [0] 1 rfl
    refine ⟨?_⟩
    simp (disch := omega) only [go_sem, ↓cw_block, dsB_of, id_eq, List.map_cons, List.map_nil]
    have w1' := w1
    simp only [List.map_cons, List.map_nil] at w1'
    simp (disch := omega) only [go_sem, ↓cw_block, dsB_of, w1']
    refine call_to ((IH n (by omega)).waits (t := ({ beginM L 6 s with nums := [0] }, .nil)) x.low x.pm x.tm rfl rfl hm) ?_
    intro v H4 hv
    refine Hush.out ?_
    obtain ⟨fr4, pm4, wv, nv, kv, lv, ds, tm4⟩ := hv
    have x : XN G H4 p tv L H.size H1.size wv nv kv lv ds r.1 r.2 := ⟨x.fr.trans fr4, pm4, x.low, tm4⟩
    obtain ⟨ld, H6, e1, e2, e3⟩ := x.fin2 hG
    refine ⟨?_⟩
    simp (disch := omega) only [go_sem, ↓cw_block, dsB_of, id_eq, ld, e1, e2]
    exact fin e3
  simp only [q1, Bool.false_or, Bool.or_false] at hm
  refine ⟨?_⟩
  simp (disch := omega) only [go_sem, ↓cw_block, dsB_of]
  refine call_to (pSees_spec x.pm) ?_
  intro v HS hv
  refine Hush.out ?_
  obtain ⟨fs, rfl⟩ := hv
  have x := x.grow fs
  cases q2 : seesM L [119, 104, 101, 110] s
  rotate_left
  · simp only [q2, Bool.true_or, Bool.or_true, if_true] at hm
    obtain ⟨w1, x⟩ := x.lits [0] 1 rfl
    refine ⟨?_⟩
    simp (disch := omega) only [go_sem, ↓cw_block, dsB_of, id_eq, List.map_cons, List.map_nil]
    have w1' := w1
    simp only [List.map_cons, List.map_nil] at w1'
    simp (disch := omega) only [go_sem, ↓cw_block, dsB_of, w1']
    refine call_to ((IH n (by omega)).waits (t := ({ beginM L 6 s with nums := [0] }, .nil)) x.low x.pm x.tm rfl rfl hm) ?_
    intro v H4 hv
    refine Hush.out ?_
    obtain ⟨fr4, pm4, wv, nv, kv, lv, ds, tm4⟩ := hv
    have x : XN G H4 p tv L H.size H1.size wv nv kv lv ds r.1 r.2 := ⟨x.fr.trans fr4, pm4, x.low, tm4⟩
    obtain ⟨ld, H6, e1, e2, e3⟩ := x.fin2 hG
    refine ⟨?_⟩
    simp (disch := omega) only [go_sem, ↓cw_block, dsB_of, id_eq, ld, e1, e2]
    exact fin e3
  simp only [q2, Bool.false_or, Bool.or_false] at hm
  refine ⟨?_⟩
  simp (disch := omega) only [go_sem, ↓cw_block, dsB_of]
  refine call_to (pSees_spec x.pm) ?_
  intro v HS hv
  refine Hush.out ?_
  obtain ⟨fs, rfl⟩ := hv
  have x := x.grow fs
  cases q3 : seesM L [99, 104, 111, 111, 115, 101] s
  rotate_left
  · simp only [q3, Bool.true_or, Bool.or_true, if_true] at hm
    obtain ⟨w1, x⟩ := x.lits [0] 1 rfl
    refine ⟨?_⟩
    simp (disch := omega) only [go_sem, ↓cw_block, dsB_of, id_eq, List.map_cons, List.map_nil]
    have w1' := w1
    simp only [List.map_cons, List.map_nil] at w1'
    simp (disch := omega) only [go_sem, ↓cw_block, dsB_of, w1']
    refine call_to ((IH n (by omega)).waits (t := ({ beginM L 6 s with nums := [0] }, .nil)) x.low x.pm x.tm rfl rfl hm) ?_
    intro v H4 hv
    refine Hush.out ?_
    obtain ⟨fr4, pm4, wv, nv, kv, lv, ds, tm4⟩ := hv
    have x : XN G H4 p tv L H.size H1.size wv nv kv lv ds r.1 r.2 := ⟨x.fr.trans fr4, pm4, x.low, tm4⟩
    obtain ⟨ld, H6, e1, e2, e3⟩ := x.fin2 hG
    refine ⟨?_⟩
    simp (disch := omega) only [go_sem, ↓cw_block, dsB_of, id_eq, ld, e1, e2]
    exact fin e3
  simp only [q3, Bool.false_or, Bool.or_false] at hm
  refine ⟨?_⟩
  simp (disch := omega) only [go_sem, ↓cw_block, dsB_of]
  simp only [Bool.false_eq_true, if_false] at hm
  refine call_to (pTake_spec hW x.pm) ?_
  intro v HT hv
  refine Hush.out ?_
  obtain ⟨qq, rfl⟩ := hv
  cases k1 : seesM L [115, 101, 110, 100] s
  rotate_left
  · have ht : takeM L [115, 101, 110, 100] s = (true, upM s) := by simp [takeM, k1]
    rw [ht] at qq
    simp only [k1, if_true] at hm
    have x := x.step qq
    obtain ⟨r2, hr2, hm⟩ := Option.bind_eq_some_iff.1 hm
    simp only [Option.some.injEq] at hm
    subst hm
    obtain ⟨w0, x⟩ := x.kind 7
    refine ⟨?_⟩
    simp (disch := omega) only [go_sem, ↓cw_block, dsB_of, ht, w0]
    have g := GX.start 9 x
    refine draw1 (lk [(0, false), (1, false), (2, false), (3, true)] (.act 4 (.act 5 (.actd 6 (lk [(7, true), (8, true)] (.actd 9 .fin))) .non) .non)) T.mixed (hlist H1.size 0 _) (heldOK_blk g.box) ?_
    simp (disch := omega) only [go_sem, ↓cw_block, dsB_of, id_eq]
    refine call_to (pName_spec hW g.pm) ?_
    intro v HN hv
    refine Hush.out ?_
    obtain ⟨qq, rfl⟩ := hv
    have g := g.step qq
    refine ⟨?_⟩
    refine held_by (heldOK_blk g.box) ?_
    simp (disch := omega) only [go_sem, ↓cw_block, dsB_of, id_eq]
    refine held_by (heldOK_blk (g.grow Fr.push).box) ?_
    simp (disch := omega) only [go_sem, ↓cw_block, dsB_of, id_eq]
    refine app_lit1 T.el66 rfl g.vec rfl (by simp) ?_
    intro v' HZ g1 g2 g3 g4
    refine Hush.out ?_
    obtain ⟨a1, c1, hv'⟩ := g4
    have hv' : v' = .slice a1 1 c1 := hv'
    subst hv'
    have g := g.app g1 g2 g3
    refine ⟨?_⟩
    first | refine held_by (heldOK_blk g.box) ?_ | skip
    refine Hush.out ?_
    obtain ⟨w5, g⟩ := g.set 1 (.slice a1 1 c1) (by simp)
    have g : GX _ _ p tv L _ H1.size _ [iv 7, .slice a1 1 c1, noS, noS, iv (tkM L s).pos, noS] _ _ _ := g
    refine ⟨?_⟩
    simp (disch := omega) only [go_sem, ↓cw_block, dsB_of, id_eq, w5]
    have x := g.words (k := 7) (us := [_]) x rfl rfl
    obtain ⟨wv, nv, kv, lv, ds, x⟩ : ∃ wv nv kv lv ds, XN G _ p tv L H.size H1.size wv nv kv lv ds ((({ beginM L 6 s with kind := 7, words := [(pnameM L (upM s)).1] }, Fo.nil)) : TT) _ := ⟨_, _, _, _, _, x⟩
    refine draw_cut (fun ρ' H' => ∃ lv' ds', XN G H' p tv L H.size H1.size wv nv kv lv' ds' (addT (({ beginM L 6 s with kind := 7, words := [(pnameM L (upM s)).1] }, Fo.nil)) r2.1) r2.2 ∧ ρ'.get 0 = hp p ∧ ρ'.get 2 = hp H.size ∧ ρ'.get 3 = hp H1.size ∧ ρ'.ds = []) ?_ ?_
    · obtain ⟨al, cl, elv, hdl⟩ := x.tm.len
      obtain ⟨f1, f2, f3, f4, f5, f6, f7, f8, f9, ew, en, ek⟩ := x.tm.forms
      have hfew : ((({ beginM L 6 s with kind := 7, words := [(pnameM L (upM s)).1] }, Fo.nil))).2.len < 1000000 := by simp [addT, kindT, Fo.len_snoc, Fo.len]
      subst ew en ek elv
      refine draw1 (lk [(0, false), (1, false), (2, false), (4, false)] (.act 3 (.act 5 (.actd 6 (lk [(7, false), (9, false)] (.act 8 (.act 10 .fin .non) (.act 10 (.act 8 .fin .non) .non)))) .non) (.act 5 (.act 3 (.actd 6 (lk [(7, false), (9, false)] (.act 8 (.act 10 .fin .non) (.act 10 (.act 8 .fin .non) .non)))) .non) .non))) T.mixed (hlist H1.size 0 _) (heldOK_blk x.tm.box) ?_
      simp (disch := omega) only [go_sem, ↓cw_block, dsB_of, id_eq]
      refine both_of ?_ ?_
      · simp (disch := omega) only [go_sem, ↓cw_block, dsB_of, id_eq]
        refine call_to (hE.expr x.pm hr2) ?_
        intro v H4 hv
        refine Hush.out ?_
        obtain ⟨q4, cp, rfl, t4⟩ := hv
        have x4 := x.step q4
        have t4' := t4.mono (S' := fun b => H.size < b ∧ b ≠ H1.size ∧ b ∉ own (Value.slice al ((({ beginM L 6 s with kind := 7, words := [(pnameM L (upM s)).1] }, Fo.nil))).2.len cl)) (by intro b hb _; have := x.tm.box.lt; have := x.tm.gt; (try simp only [Array.size_push] at hb); exact ⟨by omega, by omega, fun e => by have := x.tm.vec.lt b e; omega⟩)
        refine ⟨?_⟩
        refine held_by (heldOK_blk x4.tm.box) ?_
        simp (disch := omega) only [go_sem, ↓cw_block, dsB_of, id_eq]
        refine held_by (heldOK_blk (x4.grow Fr.push).tm.box) ?_
        simp (disch := omega) only [go_sem, ↓cw_block, dsB_of, id_eq]
        refine app_lit (n := 1) (new := z6) T.el70 rfl x4.tm.vec (one_all rfl) rfl (by intro a' l c e; simp only [Value.slice.injEq] at e; obtain ⟨_, rfl, _⟩ := e; first | omega | simp [addT, kindT, Fo.len_snoc, Fo.len]) ?_
        intro v' K1 g1 g2 g3 g4
        obtain ⟨b, o, c, e1, ⟨K2, h1, h2, h3, h4⟩, w1, K3, h5, h6, h7⟩ := TM.app1 x4.tm t4' g1 g2 g3
        subst e1
        have ow' : ∀ y ∈ own (Value.slice (some ⟨b, o, none⟩) (((({ beginM L 6 s with kind := 7, words := [(pnameM L (upM s)).1] }, Fo.nil))).2.len + 1) c), H.size < y := fun y hy => (g3 y hy).elim (fun h => (x4.tm.ow y h).1) (fun h => by have := x4.tm.box.lt; have := x4.tm.gt; omega)
        simp (disch := omega) only [go_sem, ↓cw_block, dsB_of, id_eq]
        refine both_of ?_ ?_
        · simp (disch := omega) only [go_sem, ↓cw_block, dsB_of, id_eq, h1, h2]
          exact fin ⟨_, _, x4.over (t' := addT (({ beginM L 6 s with kind := 7, words := [(pnameM L (upM s)).1] }, Fo.nil)) r2.1) ((g2.cat h4).cat (Fr.set (a := ⟨H1.size, 5, none⟩) (F := [H1.size]) (by simp))) (by intro y hy; simp only [List.mem_append, List.mem_singleton] at hy; rcases hy with (hy | hy) | hy; exact (x4.tm.ow y hy).1; exact ow' y hy; rw [hy]; exact x4.tm.gt) h3, by simp (disch := omega) only [go_sem, ↓cw_block, dsB_of, id_eq]⟩
        · simp (disch := omega) only [go_sem, ↓cw_block, dsB_of, id_eq, w1, h5]
          exact fin ⟨_, _, x4.over (t' := addT (({ beginM L 6 s with kind := 7, words := [(pnameM L (upM s)).1] }, Fo.nil)) r2.1) ((g2.cat (Fr.set (a := ⟨H1.size, 5, none⟩) (F := [H1.size]) (by simp))).cat h7) (by intro y hy; simp only [List.mem_append, List.mem_singleton] at hy; rcases hy with (hy | hy) | hy; exact (x4.tm.ow y hy).1; rw [hy]; exact x4.tm.gt; exact ow' y hy) h6, by simp (disch := omega) only [go_sem, ↓cw_block, dsB_of, id_eq]⟩
      · have x3 := x.grow (Fr.push (o := .cells #[iv 0, noS, noS, noS, iv 0, noS] 72))
        simp (disch := omega) only [go_sem, ↓cw_block, dsB_of, id_eq]
        refine held_by (heldOK_blk x3.tm.box) ?_
        simp (disch := omega) only [go_sem, ↓cw_block, dsB_of, id_eq]
        refine call_to (hE.expr x3.pm hr2) ?_
        intro v H4 hv
        refine Hush.out ?_
        obtain ⟨q4, cp, rfl, t4⟩ := hv
        have x4 := x3.step q4
        have hxb : Blk H4 _ 72 z6 := q4.1.blk (Blk.new rfl) (by have := x.pm.lt; simp; omega)
        have t4' := t4.mono (S' := fun b => H.size < b ∧ b ≠ H1.size ∧ b ∉ own (Value.slice al ((({ beginM L 6 s with kind := 7, words := [(pnameM L (upM s)).1] }, Fo.nil))).2.len cl)) (by intro b hb _; have := x.tm.box.lt; have := x.tm.gt; (try simp only [Array.size_push] at hb); exact ⟨by omega, by omega, fun e => by have := x.tm.vec.lt b e; omega⟩)
        refine ⟨?_⟩
        refine held_by (heldOK_blk x4.tm.box) ?_
        simp (disch := omega) only [go_sem, ↓cw_block, dsB_of, id_eq]
        refine app_src (new := z6) T.el70 rfl x4.tm.vec hxb (one_all rfl) rfl (by intro a' l c e; simp only [Value.slice.injEq] at e; obtain ⟨_, rfl, _⟩ := e; first | omega | simp [addT, kindT, Fo.len_snoc, Fo.len]) ?_
        intro v' K1 g1 g2 g3 g4
        obtain ⟨b, o, c, e1, ⟨K2, h1, h2, h3, h4⟩, w1, K3, h5, h6, h7⟩ := TM.app1 x4.tm t4' g1 g2 g3
        subst e1
        have ow' : ∀ y ∈ own (Value.slice (some ⟨b, o, none⟩) (((({ beginM L 6 s with kind := 7, words := [(pnameM L (upM s)).1] }, Fo.nil))).2.len + 1) c), H.size < y := fun y hy => (g3 y hy).elim (fun h => (x4.tm.ow y h).1) (fun h => by have := x4.tm.box.lt; have := x4.tm.gt; omega)
        simp (disch := omega) only [go_sem, ↓cw_block, dsB_of, id_eq]
        refine both_of ?_ ?_
        · simp (disch := omega) only [go_sem, ↓cw_block, dsB_of, id_eq, h1, h2]
          exact fin ⟨_, _, x4.over (t' := addT (({ beginM L 6 s with kind := 7, words := [(pnameM L (upM s)).1] }, Fo.nil)) r2.1) ((g2.cat h4).cat (Fr.set (a := ⟨H1.size, 5, none⟩) (F := [H1.size]) (by simp))) (by intro y hy; simp only [List.mem_append, List.mem_singleton] at hy; rcases hy with (hy | hy) | hy; exact (x4.tm.ow y hy).1; exact ow' y hy; rw [hy]; exact x4.tm.gt) h3, by simp (disch := omega) only [go_sem, ↓cw_block, dsB_of, id_eq]⟩
        · simp (disch := omega) only [go_sem, ↓cw_block, dsB_of, id_eq, w1, h5]
          exact fin ⟨_, _, x4.over (t' := addT (({ beginM L 6 s with kind := 7, words := [(pnameM L (upM s)).1] }, Fo.nil)) r2.1) ((g2.cat (Fr.set (a := ⟨H1.size, 5, none⟩) (F := [H1.size]) (by simp))).cat h7) (by intro y hy; simp only [List.mem_append, List.mem_singleton] at hy; rcases hy with (hy | hy) | hy; exact (x4.tm.ow y hy).1; rw [hy]; exact x4.tm.gt; exact ow' y hy) h6, by simp (disch := omega) only [go_sem, ↓cw_block, dsB_of, id_eq]⟩
    · rintro ρ H5 ⟨lv', ds', x, r0, r2, r3, rd⟩
      simp (disch := omega) only [go_sem, ↓cw_block, dsB_of, r0, r2, r3, rd]
      refine call_to (pMust_spec hW x.pm) ?_
      intro v HM hv
      refine Hush.out ?_
      have x := x.step hv
      refine ⟨?_⟩
      simp (disch := omega) only [go_sem, ↓cw_block, dsB_of, r0, r2, r3, rd]
      refine Hush.out ?_
      obtain ⟨ld, H6, e1, e2, e3⟩ := x.fin2 hG
      refine ⟨?_⟩
      simp (disch := omega) only [go_sem, ↓cw_block, dsB_of, r0, r2, r3, rd, ld, e1, e2]
      exact fin e3
  have ht : takeM L [115, 101, 110, 100] s = (false, s) := by simp [takeM, k1]
  rw [ht] at qq
  simp only [k1, Bool.false_eq_true, if_false] at hm
  have x := x.step qq
  refine ⟨?_⟩
  simp (disch := omega) only [go_sem, ↓cw_block, dsB_of, ht]
  refine call_to (pTake_spec hW x.pm) ?_
  intro v HT hv
  refine Hush.out ?_
  obtain ⟨qq, rfl⟩ := hv
  cases k2 : seesM L [105, 102] s
  rotate_left
  · have ht : takeM L [105, 102] s = (true, upM s) := by simp [takeM, k2]
    rw [ht] at qq
    simp only [k2, if_true] at hm
    have x := x.step qq
    obtain ⟨e2, he2, hm⟩ := Option.bind_eq_some_iff.1 hm
    obtain ⟨e3, he3, hm⟩ := Option.bind_eq_some_iff.1 hm
    obtain ⟨w0, x⟩ := x.kind 11
    refine ⟨?_⟩
    simp (disch := omega) only [go_sem, ↓cw_block, dsB_of, ht, w0]
    obtain ⟨wv, nv, kv, lv, ds, x⟩ : ∃ wv nv kv lv ds, XN G _ p tv L H.size H1.size wv nv kv lv ds ((({ beginM L 6 s with kind := 11 }, Fo.nil)) : TT) _ := ⟨_, _, _, _, _, x⟩
    refine draw_cut (fun ρ' H' => ∃ lv' ds', XN G H' p tv L H.size H1.size wv nv kv lv' ds' (addT (({ beginM L 6 s with kind := 11 }, Fo.nil)) e2.1) e2.2 ∧ ρ'.get 0 = hp p ∧ ρ'.get 2 = hp H.size ∧ ρ'.get 3 = hp H1.size ∧ ρ'.ds = []) ?_ ?_
    · obtain ⟨al, cl, elv, hdl⟩ := x.tm.len
      obtain ⟨f1, f2, f3, f4, f5, f6, f7, f8, f9, ew, en, ek⟩ := x.tm.forms
      have hfew : ((({ beginM L 6 s with kind := 11 }, Fo.nil))).2.len < 1000000 := by simp [addT, kindT, Fo.len_snoc, Fo.len]
      subst ew en ek elv
      refine draw1 (lk [(0, false), (1, false), (2, false), (4, false)] (.act 3 (.act 5 (.actd 6 (lk [(7, false), (9, false)] (.act 8 (.act 10 .fin .non) (.act 10 (.act 8 .fin .non) .non)))) .non) (.act 5 (.act 3 (.actd 6 (lk [(7, false), (9, false)] (.act 8 (.act 10 .fin .non) (.act 10 (.act 8 .fin .non) .non)))) .non) .non))) T.mixed (hlist H1.size 0 _) (heldOK_blk x.tm.box) ?_
      simp (disch := omega) only [go_sem, ↓cw_block, dsB_of, id_eq]
      refine both_of ?_ ?_
      · simp (disch := omega) only [go_sem, ↓cw_block, dsB_of, id_eq]
        refine call_to (hE.expr x.pm he2) ?_
        intro v H4 hv
        refine Hush.out ?_
        obtain ⟨q4, cp, rfl, t4⟩ := hv
        have x4 := x.step q4
        have t4' := t4.mono (S' := fun b => H.size < b ∧ b ≠ H1.size ∧ b ∉ own (Value.slice al ((({ beginM L 6 s with kind := 11 }, Fo.nil))).2.len cl)) (by intro b hb _; have := x.tm.box.lt; have := x.tm.gt; (try simp only [Array.size_push] at hb); exact ⟨by omega, by omega, fun e => by have := x.tm.vec.lt b e; omega⟩)
        refine ⟨?_⟩
        refine held_by (heldOK_blk x4.tm.box) ?_
        simp (disch := omega) only [go_sem, ↓cw_block, dsB_of, id_eq]
        refine held_by (heldOK_blk (x4.grow Fr.push).tm.box) ?_
        simp (disch := omega) only [go_sem, ↓cw_block, dsB_of, id_eq]
        refine app_lit (n := 1) (new := z6) T.el70 rfl x4.tm.vec (one_all rfl) rfl (by intro a' l c e; simp only [Value.slice.injEq] at e; obtain ⟨_, rfl, _⟩ := e; first | omega | simp [addT, kindT, Fo.len_snoc, Fo.len]) ?_
        intro v' K1 g1 g2 g3 g4
        obtain ⟨b, o, c, e1, ⟨K2, h1, h2, h3, h4⟩, w1, K3, h5, h6, h7⟩ := TM.app1 x4.tm t4' g1 g2 g3
        subst e1
        have ow' : ∀ y ∈ own (Value.slice (some ⟨b, o, none⟩) (((({ beginM L 6 s with kind := 11 }, Fo.nil))).2.len + 1) c), H.size < y := fun y hy => (g3 y hy).elim (fun h => (x4.tm.ow y h).1) (fun h => by have := x4.tm.box.lt; have := x4.tm.gt; omega)
        simp (disch := omega) only [go_sem, ↓cw_block, dsB_of, id_eq]
        refine both_of ?_ ?_
        · simp (disch := omega) only [go_sem, ↓cw_block, dsB_of, id_eq, h1, h2]
          exact fin ⟨_, _, x4.over (t' := addT (({ beginM L 6 s with kind := 11 }, Fo.nil)) e2.1) ((g2.cat h4).cat (Fr.set (a := ⟨H1.size, 5, none⟩) (F := [H1.size]) (by simp))) (by intro y hy; simp only [List.mem_append, List.mem_singleton] at hy; rcases hy with (hy | hy) | hy; exact (x4.tm.ow y hy).1; exact ow' y hy; rw [hy]; exact x4.tm.gt) h3, by simp (disch := omega) only [go_sem, ↓cw_block, dsB_of, id_eq]⟩
        · simp (disch := omega) only [go_sem, ↓cw_block, dsB_of, id_eq, w1, h5]
          exact fin ⟨_, _, x4.over (t' := addT (({ beginM L 6 s with kind := 11 }, Fo.nil)) e2.1) ((g2.cat (Fr.set (a := ⟨H1.size, 5, none⟩) (F := [H1.size]) (by simp))).cat h7) (by intro y hy; simp only [List.mem_append, List.mem_singleton] at hy; rcases hy with (hy | hy) | hy; exact (x4.tm.ow y hy).1; rw [hy]; exact x4.tm.gt; exact ow' y hy) h6, by simp (disch := omega) only [go_sem, ↓cw_block, dsB_of, id_eq]⟩
      · have x3 := x.grow (Fr.push (o := .cells #[iv 0, noS, noS, noS, iv 0, noS] 72))
        simp (disch := omega) only [go_sem, ↓cw_block, dsB_of, id_eq]
        refine held_by (heldOK_blk x3.tm.box) ?_
        simp (disch := omega) only [go_sem, ↓cw_block, dsB_of, id_eq]
        refine call_to (hE.expr x3.pm he2) ?_
        intro v H4 hv
        refine Hush.out ?_
        obtain ⟨q4, cp, rfl, t4⟩ := hv
        have x4 := x3.step q4
        have hxb : Blk H4 _ 72 z6 := q4.1.blk (Blk.new rfl) (by have := x.pm.lt; simp; omega)
        have t4' := t4.mono (S' := fun b => H.size < b ∧ b ≠ H1.size ∧ b ∉ own (Value.slice al ((({ beginM L 6 s with kind := 11 }, Fo.nil))).2.len cl)) (by intro b hb _; have := x.tm.box.lt; have := x.tm.gt; (try simp only [Array.size_push] at hb); exact ⟨by omega, by omega, fun e => by have := x.tm.vec.lt b e; omega⟩)
        refine ⟨?_⟩
        refine held_by (heldOK_blk x4.tm.box) ?_
        simp (disch := omega) only [go_sem, ↓cw_block, dsB_of, id_eq]
        refine app_src (new := z6) T.el70 rfl x4.tm.vec hxb (one_all rfl) rfl (by intro a' l c e; simp only [Value.slice.injEq] at e; obtain ⟨_, rfl, _⟩ := e; first | omega | simp [addT, kindT, Fo.len_snoc, Fo.len]) ?_
        intro v' K1 g1 g2 g3 g4
        obtain ⟨b, o, c, e1, ⟨K2, h1, h2, h3, h4⟩, w1, K3, h5, h6, h7⟩ := TM.app1 x4.tm t4' g1 g2 g3
        subst e1
        have ow' : ∀ y ∈ own (Value.slice (some ⟨b, o, none⟩) (((({ beginM L 6 s with kind := 11 }, Fo.nil))).2.len + 1) c), H.size < y := fun y hy => (g3 y hy).elim (fun h => (x4.tm.ow y h).1) (fun h => by have := x4.tm.box.lt; have := x4.tm.gt; omega)
        simp (disch := omega) only [go_sem, ↓cw_block, dsB_of, id_eq]
        refine both_of ?_ ?_
        · simp (disch := omega) only [go_sem, ↓cw_block, dsB_of, id_eq, h1, h2]
          exact fin ⟨_, _, x4.over (t' := addT (({ beginM L 6 s with kind := 11 }, Fo.nil)) e2.1) ((g2.cat h4).cat (Fr.set (a := ⟨H1.size, 5, none⟩) (F := [H1.size]) (by simp))) (by intro y hy; simp only [List.mem_append, List.mem_singleton] at hy; rcases hy with (hy | hy) | hy; exact (x4.tm.ow y hy).1; exact ow' y hy; rw [hy]; exact x4.tm.gt) h3, by simp (disch := omega) only [go_sem, ↓cw_block, dsB_of, id_eq]⟩
        · simp (disch := omega) only [go_sem, ↓cw_block, dsB_of, id_eq, w1, h5]
          exact fin ⟨_, _, x4.over (t' := addT (({ beginM L 6 s with kind := 11 }, Fo.nil)) e2.1) ((g2.cat (Fr.set (a := ⟨H1.size, 5, none⟩) (F := [H1.size]) (by simp))).cat h7) (by intro y hy; simp only [List.mem_append, List.mem_singleton] at hy; rcases hy with (hy | hy) | hy; exact (x4.tm.ow y hy).1; rw [hy]; exact x4.tm.gt; exact ow' y hy) h6, by simp (disch := omega) only [go_sem, ↓cw_block, dsB_of, id_eq]⟩
    · rintro ρ H5 ⟨lv', ds', x, r0, r2, r3, rd⟩
      simp (disch := omega) only [go_sem, ↓cw_block, dsB_of, r0, r2, r3, rd]
      obtain ⟨wv, nv, kv, lv, ds, x⟩ : ∃ wv nv kv lv ds, XN G _ p tv L H.size H1.size wv nv kv lv ds ((addT (({ beginM L 6 s with kind := 11 }, Fo.nil)) e2.1) : TT) _ := ⟨_, _, _, _, _, x⟩
      refine draw_cut (fun ρ' H' => ∃ lv' ds', XN G H' p tv L H.size H1.size wv nv kv lv' ds' (addT (addT (({ beginM L 6 s with kind := 11 }, Fo.nil)) e2.1) e3.1) e3.2 ∧ ρ'.get 0 = hp p ∧ ρ'.get 2 = hp H.size ∧ ρ'.get 3 = hp H1.size ∧ ρ'.ds = []) ?_ ?_
      · obtain ⟨al, cl, elv, hdl⟩ := x.tm.len
        obtain ⟨f1, f2, f3, f4, f5, f6, f7, f8, f9, ew, en, ek⟩ := x.tm.forms
        have hfew : ((addT (({ beginM L 6 s with kind := 11 }, Fo.nil)) e2.1)).2.len < 1000000 := by simp [addT, kindT, Fo.len_snoc, Fo.len]
        subst ew en ek elv
        refine draw1 (lk [(0, false), (1, false), (2, false), (4, false)] (.act 3 (.act 5 (.actd 6 (lk [(7, false), (9, false)] (.act 8 (.act 10 .fin .non) (.act 10 (.act 8 .fin .non) .non)))) .non) (.act 5 (.act 3 (.actd 6 (lk [(7, false), (9, false)] (.act 8 (.act 10 .fin .non) (.act 10 (.act 8 .fin .non) .non)))) .non) .non))) T.mixed (hlist H1.size 0 _) (heldOK_blk x.tm.box) ?_
        simp (disch := omega) only [go_sem, ↓cw_block, dsB_of, r0, r2, r3, rd]
        refine both_of ?_ ?_
        · simp (disch := omega) only [go_sem, ↓cw_block, dsB_of, r0, r2, r3, rd]
          refine call_to ((IH n (by omega)).block x.pm he3) ?_
          intro v H4 hv
          refine Hush.out ?_
          obtain ⟨q4, cp, rfl, t4⟩ := hv
          have x4 := x.step q4
          have t4' := t4.mono (S' := fun b => H.size < b ∧ b ≠ H1.size ∧ b ∉ own (Value.slice al ((addT (({ beginM L 6 s with kind := 11 }, Fo.nil)) e2.1)).2.len cl)) (by intro b hb _; have := x.tm.box.lt; have := x.tm.gt; (try simp only [Array.size_push] at hb); exact ⟨by omega, by omega, fun e => by have := x.tm.vec.lt b e; omega⟩)
          refine ⟨?_⟩
          refine held_by (heldOK_blk x4.tm.box) ?_
          simp (disch := omega) only [go_sem, ↓cw_block, dsB_of, r0, r2, r3, rd]
          refine held_by (heldOK_blk (x4.grow Fr.push).tm.box) ?_
          simp (disch := omega) only [go_sem, ↓cw_block, dsB_of, r0, r2, r3, rd]
          refine app_lit (n := 1) (new := z6) T.el70 rfl x4.tm.vec (one_all rfl) rfl (by intro a' l c e; simp only [Value.slice.injEq] at e; obtain ⟨_, rfl, _⟩ := e; first | omega | simp [addT, kindT, Fo.len_snoc, Fo.len]) ?_
          intro v' K1 g1 g2 g3 g4
          obtain ⟨b, o, c, e1, ⟨K2, h1, h2, h3, h4⟩, w1, K3, h5, h6, h7⟩ := TM.app1 x4.tm t4' g1 g2 g3
          subst e1
          have ow' : ∀ y ∈ own (Value.slice (some ⟨b, o, none⟩) (((addT (({ beginM L 6 s with kind := 11 }, Fo.nil)) e2.1)).2.len + 1) c), H.size < y := fun y hy => (g3 y hy).elim (fun h => (x4.tm.ow y h).1) (fun h => by have := x4.tm.box.lt; have := x4.tm.gt; omega)
          simp (disch := omega) only [go_sem, ↓cw_block, dsB_of, r0, r2, r3, rd]
          refine both_of ?_ ?_
          · simp (disch := omega) only [go_sem, ↓cw_block, dsB_of, r0, r2, r3, rd, h1, h2]
            exact fin ⟨_, _, x4.over (t' := addT (addT (({ beginM L 6 s with kind := 11 }, Fo.nil)) e2.1) e3.1) ((g2.cat h4).cat (Fr.set (a := ⟨H1.size, 5, none⟩) (F := [H1.size]) (by simp))) (by intro y hy; simp only [List.mem_append, List.mem_singleton] at hy; rcases hy with (hy | hy) | hy; exact (x4.tm.ow y hy).1; exact ow' y hy; rw [hy]; exact x4.tm.gt) h3, by simp (disch := omega) only [go_sem, ↓cw_block, dsB_of, r0, r2, r3, rd]⟩
          · simp (disch := omega) only [go_sem, ↓cw_block, dsB_of, r0, r2, r3, rd, w1, h5]
            exact fin ⟨_, _, x4.over (t' := addT (addT (({ beginM L 6 s with kind := 11 }, Fo.nil)) e2.1) e3.1) ((g2.cat (Fr.set (a := ⟨H1.size, 5, none⟩) (F := [H1.size]) (by simp))).cat h7) (by intro y hy; simp only [List.mem_append, List.mem_singleton] at hy; rcases hy with (hy | hy) | hy; exact (x4.tm.ow y hy).1; rw [hy]; exact x4.tm.gt; exact ow' y hy) h6, by simp (disch := omega) only [go_sem, ↓cw_block, dsB_of, r0, r2, r3, rd]⟩
        · have x3 := x.grow (Fr.push (o := .cells #[iv 0, noS, noS, noS, iv 0, noS] 72))
          simp (disch := omega) only [go_sem, ↓cw_block, dsB_of, r0, r2, r3, rd]
          refine held_by (heldOK_blk x3.tm.box) ?_
          simp (disch := omega) only [go_sem, ↓cw_block, dsB_of, r0, r2, r3, rd]
          refine call_to ((IH n (by omega)).block x3.pm he3) ?_
          intro v H4 hv
          refine Hush.out ?_
          obtain ⟨q4, cp, rfl, t4⟩ := hv
          have x4 := x3.step q4
          have hxb : Blk H4 _ 72 z6 := q4.1.blk (Blk.new rfl) (by have := x.pm.lt; simp; omega)
          have t4' := t4.mono (S' := fun b => H.size < b ∧ b ≠ H1.size ∧ b ∉ own (Value.slice al ((addT (({ beginM L 6 s with kind := 11 }, Fo.nil)) e2.1)).2.len cl)) (by intro b hb _; have := x.tm.box.lt; have := x.tm.gt; (try simp only [Array.size_push] at hb); exact ⟨by omega, by omega, fun e => by have := x.tm.vec.lt b e; omega⟩)
          refine ⟨?_⟩
          refine held_by (heldOK_blk x4.tm.box) ?_
          simp (disch := omega) only [go_sem, ↓cw_block, dsB_of, r0, r2, r3, rd]
          refine app_src (new := z6) T.el70 rfl x4.tm.vec hxb (one_all rfl) rfl (by intro a' l c e; simp only [Value.slice.injEq] at e; obtain ⟨_, rfl, _⟩ := e; first | omega | simp [addT, kindT, Fo.len_snoc, Fo.len]) ?_
          intro v' K1 g1 g2 g3 g4
          obtain ⟨b, o, c, e1, ⟨K2, h1, h2, h3, h4⟩, w1, K3, h5, h6, h7⟩ := TM.app1 x4.tm t4' g1 g2 g3
          subst e1
          have ow' : ∀ y ∈ own (Value.slice (some ⟨b, o, none⟩) (((addT (({ beginM L 6 s with kind := 11 }, Fo.nil)) e2.1)).2.len + 1) c), H.size < y := fun y hy => (g3 y hy).elim (fun h => (x4.tm.ow y h).1) (fun h => by have := x4.tm.box.lt; have := x4.tm.gt; omega)
          simp (disch := omega) only [go_sem, ↓cw_block, dsB_of, r0, r2, r3, rd]
          refine both_of ?_ ?_
          · simp (disch := omega) only [go_sem, ↓cw_block, dsB_of, r0, r2, r3, rd, h1, h2]
            exact fin ⟨_, _, x4.over (t' := addT (addT (({ beginM L 6 s with kind := 11 }, Fo.nil)) e2.1) e3.1) ((g2.cat h4).cat (Fr.set (a := ⟨H1.size, 5, none⟩) (F := [H1.size]) (by simp))) (by intro y hy; simp only [List.mem_append, List.mem_singleton] at hy; rcases hy with (hy | hy) | hy; exact (x4.tm.ow y hy).1; exact ow' y hy; rw [hy]; exact x4.tm.gt) h3, by simp (disch := omega) only [go_sem, ↓cw_block, dsB_of, r0, r2, r3, rd]⟩
          · simp (disch := omega) only [go_sem, ↓cw_block, dsB_of, r0, r2, r3, rd, w1, h5]
            exact fin ⟨_, _, x4.over (t' := addT (addT (({ beginM L 6 s with kind := 11 }, Fo.nil)) e2.1) e3.1) ((g2.cat (Fr.set (a := ⟨H1.size, 5, none⟩) (F := [H1.size]) (by simp))).cat h7) (by intro y hy; simp only [List.mem_append, List.mem_singleton] at hy; rcases hy with (hy | hy) | hy; exact (x4.tm.ow y hy).1; rw [hy]; exact x4.tm.gt; exact ow' y hy) h6, by simp (disch := omega) only [go_sem, ↓cw_block, dsB_of, r0, r2, r3, rd]⟩
      · rintro ρ H5 ⟨lv', ds', x, r0, r2, r3, rd⟩
        simp (disch := omega) only [go_sem, ↓cw_block, dsB_of, r0, r2, r3, rd]
        refine call_to (pTake_spec hW x.pm) ?_
        intro v HE hv
        refine Hush.out ?_
        obtain ⟨qq, rfl⟩ := hv
        cases qe : seesM L [101, 108, 115, 101] e3.2
        rotate_left
        · have ht : takeM L [101, 108, 115, 101] e3.2 = (true, upM e3.2) := by simp [takeM, qe]
          rw [ht] at qq
          simp only [qe, if_true] at hm
          have x := x.step qq
          obtain ⟨e4, he4, hm⟩ := Option.bind_eq_some_iff.1 hm
          simp only [Option.some.injEq] at hm
          subst hm
          refine ⟨?_⟩
          simp (disch := omega) only [go_sem, ↓cw_block, dsB_of, ht, r0, r2, r3, rd]
          obtain ⟨wv, nv, kv, lv, ds, x⟩ : ∃ wv nv kv lv ds, XN G _ p tv L H.size H1.size wv nv kv lv ds ((addT (addT (({ beginM L 6 s with kind := 11 }, Fo.nil)) e2.1) e3.1) : TT) _ := ⟨_, _, _, _, _, x⟩
          refine draw_last (fun ρ' H' => ∃ lv' ds', XN G H' p tv L H.size H1.size wv nv kv lv' ds' (addT (addT (addT (({ beginM L 6 s with kind := 11 }, Fo.nil)) e2.1) e3.1) e4.1) e4.2 ∧ ρ'.get 0 = hp p ∧ ρ'.get 2 = hp H.size ∧ ρ'.get 3 = hp H1.size ∧ ρ'.ds = []) ?_ ?_
          · obtain ⟨al, cl, elv, hdl⟩ := x.tm.len
            obtain ⟨f1, f2, f3, f4, f5, f6, f7, f8, f9, ew, en, ek⟩ := x.tm.forms
            have hfew : ((addT (addT (({ beginM L 6 s with kind := 11 }, Fo.nil)) e2.1) e3.1)).2.len < 1000000 := by simp [addT, kindT, Fo.len_snoc, Fo.len]
            subst ew en ek elv
            refine draw1 (lk [(0, false), (1, false), (2, false), (4, false)] (.act 3 (.act 5 (.actd 6 (lk [(7, false), (9, false)] (.act 8 (.act 10 .fin .non) (.act 10 (.act 8 .fin .non) .non)))) .non) (.act 5 (.act 3 (.actd 6 (lk [(7, false), (9, false)] (.act 8 (.act 10 .fin .non) (.act 10 (.act 8 .fin .non) .non)))) .non) .non))) T.mixed (hlist H1.size 0 _) (heldOK_blk x.tm.box) ?_
            simp (disch := omega) only [go_sem, ↓cw_block, dsB_of, r0, r2, r3, rd]
            refine both_of ?_ ?_
            · simp (disch := omega) only [go_sem, ↓cw_block, dsB_of, r0, r2, r3, rd]
              refine call_to ((IH n (by omega)).block x.pm he4) ?_
              intro v H4 hv
              refine Hush.out ?_
              obtain ⟨q4, cp, rfl, t4⟩ := hv
              have x4 := x.step q4
              have t4' := t4.mono (S' := fun b => H.size < b ∧ b ≠ H1.size ∧ b ∉ own (Value.slice al ((addT (addT (({ beginM L 6 s with kind := 11 }, Fo.nil)) e2.1) e3.1)).2.len cl)) (by intro b hb _; have := x.tm.box.lt; have := x.tm.gt; (try simp only [Array.size_push] at hb); exact ⟨by omega, by omega, fun e => by have := x.tm.vec.lt b e; omega⟩)
              refine ⟨?_⟩
              refine held_by (heldOK_blk x4.tm.box) ?_
              simp (disch := omega) only [go_sem, ↓cw_block, dsB_of, r0, r2, r3, rd]
              refine held_by (heldOK_blk (x4.grow Fr.push).tm.box) ?_
              simp (disch := omega) only [go_sem, ↓cw_block, dsB_of, r0, r2, r3, rd]
              refine app_lit (n := 1) (new := z6) T.el70 rfl x4.tm.vec (one_all rfl) rfl (by intro a' l c e; simp only [Value.slice.injEq] at e; obtain ⟨_, rfl, _⟩ := e; first | omega | simp [addT, kindT, Fo.len_snoc, Fo.len]) ?_
              intro v' K1 g1 g2 g3 g4
              obtain ⟨b, o, c, e1, ⟨K2, h1, h2, h3, h4⟩, w1, K3, h5, h6, h7⟩ := TM.app1 x4.tm t4' g1 g2 g3
              subst e1
              have ow' : ∀ y ∈ own (Value.slice (some ⟨b, o, none⟩) (((addT (addT (({ beginM L 6 s with kind := 11 }, Fo.nil)) e2.1) e3.1)).2.len + 1) c), H.size < y := fun y hy => (g3 y hy).elim (fun h => (x4.tm.ow y h).1) (fun h => by have := x4.tm.box.lt; have := x4.tm.gt; omega)
              simp (disch := omega) only [go_sem, ↓cw_block, dsB_of, r0, r2, r3, rd]
              refine both_of ?_ ?_
              · simp (disch := omega) only [go_sem, ↓cw_block, dsB_of, r0, r2, r3, rd, h1, h2]
                exact fin ⟨_, _, x4.over (t' := addT (addT (addT (({ beginM L 6 s with kind := 11 }, Fo.nil)) e2.1) e3.1) e4.1) ((g2.cat h4).cat (Fr.set (a := ⟨H1.size, 5, none⟩) (F := [H1.size]) (by simp))) (by intro y hy; simp only [List.mem_append, List.mem_singleton] at hy; rcases hy with (hy | hy) | hy; exact (x4.tm.ow y hy).1; exact ow' y hy; rw [hy]; exact x4.tm.gt) h3, by simp (disch := omega) only [go_sem, ↓cw_block, dsB_of, r0, r2, r3, rd]⟩
              · simp (disch := omega) only [go_sem, ↓cw_block, dsB_of, r0, r2, r3, rd, w1, h5]
                exact fin ⟨_, _, x4.over (t' := addT (addT (addT (({ beginM L 6 s with kind := 11 }, Fo.nil)) e2.1) e3.1) e4.1) ((g2.cat (Fr.set (a := ⟨H1.size, 5, none⟩) (F := [H1.size]) (by simp))).cat h7) (by intro y hy; simp only [List.mem_append, List.mem_singleton] at hy; rcases hy with (hy | hy) | hy; exact (x4.tm.ow y hy).1; rw [hy]; exact x4.tm.gt; exact ow' y hy) h6, by simp (disch := omega) only [go_sem, ↓cw_block, dsB_of, r0, r2, r3, rd]⟩
            · have x3 := x.grow (Fr.push (o := .cells #[iv 0, noS, noS, noS, iv 0, noS] 72))
              simp (disch := omega) only [go_sem, ↓cw_block, dsB_of, r0, r2, r3, rd]
              refine held_by (heldOK_blk x3.tm.box) ?_
              simp (disch := omega) only [go_sem, ↓cw_block, dsB_of, r0, r2, r3, rd]
              refine call_to ((IH n (by omega)).block x3.pm he4) ?_
              intro v H4 hv
              refine Hush.out ?_
              obtain ⟨q4, cp, rfl, t4⟩ := hv
              have x4 := x3.step q4
              have hxb : Blk H4 _ 72 z6 := q4.1.blk (Blk.new rfl) (by have := x.pm.lt; simp; omega)
              have t4' := t4.mono (S' := fun b => H.size < b ∧ b ≠ H1.size ∧ b ∉ own (Value.slice al ((addT (addT (({ beginM L 6 s with kind := 11 }, Fo.nil)) e2.1) e3.1)).2.len cl)) (by intro b hb _; have := x.tm.box.lt; have := x.tm.gt; (try simp only [Array.size_push] at hb); exact ⟨by omega, by omega, fun e => by have := x.tm.vec.lt b e; omega⟩)
              refine ⟨?_⟩
              refine held_by (heldOK_blk x4.tm.box) ?_
              simp (disch := omega) only [go_sem, ↓cw_block, dsB_of, r0, r2, r3, rd]
              refine app_src (new := z6) T.el70 rfl x4.tm.vec hxb (one_all rfl) rfl (by intro a' l c e; simp only [Value.slice.injEq] at e; obtain ⟨_, rfl, _⟩ := e; first | omega | simp [addT, kindT, Fo.len_snoc, Fo.len]) ?_
              intro v' K1 g1 g2 g3 g4
              obtain ⟨b, o, c, e1, ⟨K2, h1, h2, h3, h4⟩, w1, K3, h5, h6, h7⟩ := TM.app1 x4.tm t4' g1 g2 g3
              subst e1
              have ow' : ∀ y ∈ own (Value.slice (some ⟨b, o, none⟩) (((addT (addT (({ beginM L 6 s with kind := 11 }, Fo.nil)) e2.1) e3.1)).2.len + 1) c), H.size < y := fun y hy => (g3 y hy).elim (fun h => (x4.tm.ow y h).1) (fun h => by have := x4.tm.box.lt; have := x4.tm.gt; omega)
              simp (disch := omega) only [go_sem, ↓cw_block, dsB_of, r0, r2, r3, rd]
              refine both_of ?_ ?_
              · simp (disch := omega) only [go_sem, ↓cw_block, dsB_of, r0, r2, r3, rd, h1, h2]
                exact fin ⟨_, _, x4.over (t' := addT (addT (addT (({ beginM L 6 s with kind := 11 }, Fo.nil)) e2.1) e3.1) e4.1) ((g2.cat h4).cat (Fr.set (a := ⟨H1.size, 5, none⟩) (F := [H1.size]) (by simp))) (by intro y hy; simp only [List.mem_append, List.mem_singleton] at hy; rcases hy with (hy | hy) | hy; exact (x4.tm.ow y hy).1; exact ow' y hy; rw [hy]; exact x4.tm.gt) h3, by simp (disch := omega) only [go_sem, ↓cw_block, dsB_of, r0, r2, r3, rd]⟩
              · simp (disch := omega) only [go_sem, ↓cw_block, dsB_of, r0, r2, r3, rd, w1, h5]
                exact fin ⟨_, _, x4.over (t' := addT (addT (addT (({ beginM L 6 s with kind := 11 }, Fo.nil)) e2.1) e3.1) e4.1) ((g2.cat (Fr.set (a := ⟨H1.size, 5, none⟩) (F := [H1.size]) (by simp))).cat h7) (by intro y hy; simp only [List.mem_append, List.mem_singleton] at hy; rcases hy with (hy | hy) | hy; exact (x4.tm.ow y hy).1; rw [hy]; exact x4.tm.gt; exact ow' y hy) h6, by simp (disch := omega) only [go_sem, ↓cw_block, dsB_of, r0, r2, r3, rd]⟩
          · rintro ρ H5 ⟨lv', ds', x, r0, r2, r3, rd⟩
            simp (disch := omega) only [go_sem, ↓cw_block, dsB_of, r0, r2, r3, rd]
            refine Hush.out ?_
            obtain ⟨ld, H6, e1, e2, e3⟩ := x.fin2 hG
            refine ⟨?_⟩
            simp (disch := omega) only [go_sem, ↓cw_block, dsB_of, r0, r2, r3, rd, ld, e1, e2]
            exact fin e3
        have ht : takeM L [101, 108, 115, 101] e3.2 = (false, e3.2) := by simp [takeM, qe]
        rw [ht] at qq
        simp only [qe, Bool.false_eq_true, if_false] at hm
        have x := x.step qq
        simp only [Option.some.injEq] at hm
        subst hm
        refine ⟨?_⟩
        simp (disch := omega) only [go_sem, ↓cw_block, dsB_of, ht, r0, r2, r3, rd]
        refine Hush.out ?_
        obtain ⟨ld, H6, e1, e2, e3⟩ := x.fin2 hG
        refine ⟨?_⟩
        simp (disch := omega) only [go_sem, ↓cw_block, dsB_of, r0, r2, r3, rd, ld, e1, e2]
        exact fin e3
  have ht : takeM L [105, 102] s = (false, s) := by simp [takeM, k2]
  rw [ht] at qq
  simp only [k2, Bool.false_eq_true, if_false] at hm
  have x := x.step qq
  refine ⟨?_⟩
  simp (disch := omega) only [go_sem, ↓cw_block, dsB_of, ht]
  refine call_to (pTake_spec hW x.pm) ?_
  intro v HT hv
  refine Hush.out ?_
  obtain ⟨qq, rfl⟩ := hv
  cases k3 : seesM L [119, 104, 105, 108, 101] s
  rotate_left
  · have ht : takeM L [119, 104, 105, 108, 101] s = (true, upM s) := by simp [takeM, k3]
    rw [ht] at qq
    simp only [k3, if_true] at hm
    have x := x.step qq
    obtain ⟨e2, he2, hm⟩ := Option.bind_eq_some_iff.1 hm
    obtain ⟨e3, he3, hm⟩ := Option.bind_eq_some_iff.1 hm
    simp only [Option.some.injEq] at hm
    subst hm
    obtain ⟨w0, x⟩ := x.kind 12
    refine ⟨?_⟩
    simp (disch := omega) only [go_sem, ↓cw_block, dsB_of, ht, w0]
    obtain ⟨wv, nv, kv, lv, ds, x⟩ : ∃ wv nv kv lv ds, XN G _ p tv L H.size H1.size wv nv kv lv ds ((({ beginM L 6 s with kind := 12 }, Fo.nil)) : TT) _ := ⟨_, _, _, _, _, x⟩
    refine draw_cut (fun ρ' H' => ∃ lv' ds', XN G H' p tv L H.size H1.size wv nv kv lv' ds' (addT (({ beginM L 6 s with kind := 12 }, Fo.nil)) e2.1) e2.2 ∧ ρ'.get 0 = hp p ∧ ρ'.get 2 = hp H.size ∧ ρ'.get 3 = hp H1.size ∧ ρ'.ds = []) ?_ ?_
    · obtain ⟨al, cl, elv, hdl⟩ := x.tm.len
      obtain ⟨f1, f2, f3, f4, f5, f6, f7, f8, f9, ew, en, ek⟩ := x.tm.forms
      have hfew : ((({ beginM L 6 s with kind := 12 }, Fo.nil))).2.len < 1000000 := by simp [addT, kindT, Fo.len_snoc, Fo.len]
      subst ew en ek elv
      refine draw1 (lk [(0, false), (1, false), (2, false), (4, false)] (.act 3 (.act 5 (.actd 6 (lk [(7, false), (9, false)] (.act 8 (.act 10 .fin .non) (.act 10 (.act 8 .fin .non) .non)))) .non) (.act 5 (.act 3 (.actd 6 (lk [(7, false), (9, false)] (.act 8 (.act 10 .fin .non) (.act 10 (.act 8 .fin .non) .non)))) .non) .non))) T.mixed (hlist H1.size 0 _) (heldOK_blk x.tm.box) ?_
      simp (disch := omega) only [go_sem, ↓cw_block, dsB_of, id_eq]
      refine both_of ?_ ?_
      · simp (disch := omega) only [go_sem, ↓cw_block, dsB_of, id_eq]
        refine call_to (hE.expr x.pm he2) ?_
        intro v H4 hv
        refine Hush.out ?_
        obtain ⟨q4, cp, rfl, t4⟩ := hv
        have x4 := x.step q4
        have t4' := t4.mono (S' := fun b => H.size < b ∧ b ≠ H1.size ∧ b ∉ own (Value.slice al ((({ beginM L 6 s with kind := 12 }, Fo.nil))).2.len cl)) (by intro b hb _; have := x.tm.box.lt; have := x.tm.gt; (try simp only [Array.size_push] at hb); exact ⟨by omega, by omega, fun e => by have := x.tm.vec.lt b e; omega⟩)
        refine ⟨?_⟩
        refine held_by (heldOK_blk x4.tm.box) ?_
        simp (disch := omega) only [go_sem, ↓cw_block, dsB_of, id_eq]
        refine held_by (heldOK_blk (x4.grow Fr.push).tm.box) ?_
        simp (disch := omega) only [go_sem, ↓cw_block, dsB_of, id_eq]
        refine app_lit (n := 1) (new := z6) T.el70 rfl x4.tm.vec (one_all rfl) rfl (by intro a' l c e; simp only [Value.slice.injEq] at e; obtain ⟨_, rfl, _⟩ := e; first | omega | simp [addT, kindT, Fo.len_snoc, Fo.len]) ?_
        intro v' K1 g1 g2 g3 g4
        obtain ⟨b, o, c, e1, ⟨K2, h1, h2, h3, h4⟩, w1, K3, h5, h6, h7⟩ := TM.app1 x4.tm t4' g1 g2 g3
        subst e1
        have ow' : ∀ y ∈ own (Value.slice (some ⟨b, o, none⟩) (((({ beginM L 6 s with kind := 12 }, Fo.nil))).2.len + 1) c), H.size < y := fun y hy => (g3 y hy).elim (fun h => (x4.tm.ow y h).1) (fun h => by have := x4.tm.box.lt; have := x4.tm.gt; omega)
        simp (disch := omega) only [go_sem, ↓cw_block, dsB_of, id_eq]
        refine both_of ?_ ?_
        · simp (disch := omega) only [go_sem, ↓cw_block, dsB_of, id_eq, h1, h2]
          exact fin ⟨_, _, x4.over (t' := addT (({ beginM L 6 s with kind := 12 }, Fo.nil)) e2.1) ((g2.cat h4).cat (Fr.set (a := ⟨H1.size, 5, none⟩) (F := [H1.size]) (by simp))) (by intro y hy; simp only [List.mem_append, List.mem_singleton] at hy; rcases hy with (hy | hy) | hy; exact (x4.tm.ow y hy).1; exact ow' y hy; rw [hy]; exact x4.tm.gt) h3, by simp (disch := omega) only [go_sem, ↓cw_block, dsB_of, id_eq]⟩
        · simp (disch := omega) only [go_sem, ↓cw_block, dsB_of, id_eq, w1, h5]
          exact fin ⟨_, _, x4.over (t' := addT (({ beginM L 6 s with kind := 12 }, Fo.nil)) e2.1) ((g2.cat (Fr.set (a := ⟨H1.size, 5, none⟩) (F := [H1.size]) (by simp))).cat h7) (by intro y hy; simp only [List.mem_append, List.mem_singleton] at hy; rcases hy with (hy | hy) | hy; exact (x4.tm.ow y hy).1; rw [hy]; exact x4.tm.gt; exact ow' y hy) h6, by simp (disch := omega) only [go_sem, ↓cw_block, dsB_of, id_eq]⟩
      · have x3 := x.grow (Fr.push (o := .cells #[iv 0, noS, noS, noS, iv 0, noS] 72))
        simp (disch := omega) only [go_sem, ↓cw_block, dsB_of, id_eq]
        refine held_by (heldOK_blk x3.tm.box) ?_
        simp (disch := omega) only [go_sem, ↓cw_block, dsB_of, id_eq]
        refine call_to (hE.expr x3.pm he2) ?_
        intro v H4 hv
        refine Hush.out ?_
        obtain ⟨q4, cp, rfl, t4⟩ := hv
        have x4 := x3.step q4
        have hxb : Blk H4 _ 72 z6 := q4.1.blk (Blk.new rfl) (by have := x.pm.lt; simp; omega)
        have t4' := t4.mono (S' := fun b => H.size < b ∧ b ≠ H1.size ∧ b ∉ own (Value.slice al ((({ beginM L 6 s with kind := 12 }, Fo.nil))).2.len cl)) (by intro b hb _; have := x.tm.box.lt; have := x.tm.gt; (try simp only [Array.size_push] at hb); exact ⟨by omega, by omega, fun e => by have := x.tm.vec.lt b e; omega⟩)
        refine ⟨?_⟩
        refine held_by (heldOK_blk x4.tm.box) ?_
        simp (disch := omega) only [go_sem, ↓cw_block, dsB_of, id_eq]
        refine app_src (new := z6) T.el70 rfl x4.tm.vec hxb (one_all rfl) rfl (by intro a' l c e; simp only [Value.slice.injEq] at e; obtain ⟨_, rfl, _⟩ := e; first | omega | simp [addT, kindT, Fo.len_snoc, Fo.len]) ?_
        intro v' K1 g1 g2 g3 g4
        obtain ⟨b, o, c, e1, ⟨K2, h1, h2, h3, h4⟩, w1, K3, h5, h6, h7⟩ := TM.app1 x4.tm t4' g1 g2 g3
        subst e1
        have ow' : ∀ y ∈ own (Value.slice (some ⟨b, o, none⟩) (((({ beginM L 6 s with kind := 12 }, Fo.nil))).2.len + 1) c), H.size < y := fun y hy => (g3 y hy).elim (fun h => (x4.tm.ow y h).1) (fun h => by have := x4.tm.box.lt; have := x4.tm.gt; omega)
        simp (disch := omega) only [go_sem, ↓cw_block, dsB_of, id_eq]
        refine both_of ?_ ?_
        · simp (disch := omega) only [go_sem, ↓cw_block, dsB_of, id_eq, h1, h2]
          exact fin ⟨_, _, x4.over (t' := addT (({ beginM L 6 s with kind := 12 }, Fo.nil)) e2.1) ((g2.cat h4).cat (Fr.set (a := ⟨H1.size, 5, none⟩) (F := [H1.size]) (by simp))) (by intro y hy; simp only [List.mem_append, List.mem_singleton] at hy; rcases hy with (hy | hy) | hy; exact (x4.tm.ow y hy).1; exact ow' y hy; rw [hy]; exact x4.tm.gt) h3, by simp (disch := omega) only [go_sem, ↓cw_block, dsB_of, id_eq]⟩
        · simp (disch := omega) only [go_sem, ↓cw_block, dsB_of, id_eq, w1, h5]
          exact fin ⟨_, _, x4.over (t' := addT (({ beginM L 6 s with kind := 12 }, Fo.nil)) e2.1) ((g2.cat (Fr.set (a := ⟨H1.size, 5, none⟩) (F := [H1.size]) (by simp))).cat h7) (by intro y hy; simp only [List.mem_append, List.mem_singleton] at hy; rcases hy with (hy | hy) | hy; exact (x4.tm.ow y hy).1; rw [hy]; exact x4.tm.gt; exact ow' y hy) h6, by simp (disch := omega) only [go_sem, ↓cw_block, dsB_of, id_eq]⟩
    · rintro ρ H5 ⟨lv', ds', x, r0, r2, r3, rd⟩
      simp (disch := omega) only [go_sem, ↓cw_block, dsB_of, r0, r2, r3, rd]
      obtain ⟨wv, nv, kv, lv, ds, x⟩ : ∃ wv nv kv lv ds, XN G _ p tv L H.size H1.size wv nv kv lv ds ((addT (({ beginM L 6 s with kind := 12 }, Fo.nil)) e2.1) : TT) _ := ⟨_, _, _, _, _, x⟩
      refine draw_last (fun ρ' H' => ∃ lv' ds', XN G H' p tv L H.size H1.size wv nv kv lv' ds' (addT (addT (({ beginM L 6 s with kind := 12 }, Fo.nil)) e2.1) e3.1) e3.2 ∧ ρ'.get 0 = hp p ∧ ρ'.get 2 = hp H.size ∧ ρ'.get 3 = hp H1.size ∧ ρ'.ds = []) ?_ ?_
      · obtain ⟨al, cl, elv, hdl⟩ := x.tm.len
        obtain ⟨f1, f2, f3, f4, f5, f6, f7, f8, f9, ew, en, ek⟩ := x.tm.forms
        have hfew : ((addT (({ beginM L 6 s with kind := 12 }, Fo.nil)) e2.1)).2.len < 1000000 := by simp [addT, kindT, Fo.len_snoc, Fo.len]
        subst ew en ek elv
        refine draw1 (lk [(0, false), (1, false), (2, false), (4, false)] (.act 3 (.act 5 (.actd 6 (lk [(7, false), (9, false)] (.act 8 (.act 10 .fin .non) (.act 10 (.act 8 .fin .non) .non)))) .non) (.act 5 (.act 3 (.actd 6 (lk [(7, false), (9, false)] (.act 8 (.act 10 .fin .non) (.act 10 (.act 8 .fin .non) .non)))) .non) .non))) T.mixed (hlist H1.size 0 _) (heldOK_blk x.tm.box) ?_
        simp (disch := omega) only [go_sem, ↓cw_block, dsB_of, r0, r2, r3, rd]
        refine both_of ?_ ?_
        · simp (disch := omega) only [go_sem, ↓cw_block, dsB_of, r0, r2, r3, rd]
          refine call_to ((IH n (by omega)).block x.pm he3) ?_
          intro v H4 hv
          refine Hush.out ?_
          obtain ⟨q4, cp, rfl, t4⟩ := hv
          have x4 := x.step q4
          have t4' := t4.mono (S' := fun b => H.size < b ∧ b ≠ H1.size ∧ b ∉ own (Value.slice al ((addT (({ beginM L 6 s with kind := 12 }, Fo.nil)) e2.1)).2.len cl)) (by intro b hb _; have := x.tm.box.lt; have := x.tm.gt; (try simp only [Array.size_push] at hb); exact ⟨by omega, by omega, fun e => by have := x.tm.vec.lt b e; omega⟩)
          refine ⟨?_⟩
          refine held_by (heldOK_blk x4.tm.box) ?_
          simp (disch := omega) only [go_sem, ↓cw_block, dsB_of, r0, r2, r3, rd]
          refine held_by (heldOK_blk (x4.grow Fr.push).tm.box) ?_
          simp (disch := omega) only [go_sem, ↓cw_block, dsB_of, r0, r2, r3, rd]
          refine app_lit (n := 1) (new := z6) T.el70 rfl x4.tm.vec (one_all rfl) rfl (by intro a' l c e; simp only [Value.slice.injEq] at e; obtain ⟨_, rfl, _⟩ := e; first | omega | simp [addT, kindT, Fo.len_snoc, Fo.len]) ?_
          intro v' K1 g1 g2 g3 g4
          obtain ⟨b, o, c, e1, ⟨K2, h1, h2, h3, h4⟩, w1, K3, h5, h6, h7⟩ := TM.app1 x4.tm t4' g1 g2 g3
          subst e1
          have ow' : ∀ y ∈ own (Value.slice (some ⟨b, o, none⟩) (((addT (({ beginM L 6 s with kind := 12 }, Fo.nil)) e2.1)).2.len + 1) c), H.size < y := fun y hy => (g3 y hy).elim (fun h => (x4.tm.ow y h).1) (fun h => by have := x4.tm.box.lt; have := x4.tm.gt; omega)
          simp (disch := omega) only [go_sem, ↓cw_block, dsB_of, r0, r2, r3, rd]
          refine both_of ?_ ?_
          · simp (disch := omega) only [go_sem, ↓cw_block, dsB_of, r0, r2, r3, rd, h1, h2]
            exact fin ⟨_, _, x4.over (t' := addT (addT (({ beginM L 6 s with kind := 12 }, Fo.nil)) e2.1) e3.1) ((g2.cat h4).cat (Fr.set (a := ⟨H1.size, 5, none⟩) (F := [H1.size]) (by simp))) (by intro y hy; simp only [List.mem_append, List.mem_singleton] at hy; rcases hy with (hy | hy) | hy; exact (x4.tm.ow y hy).1; exact ow' y hy; rw [hy]; exact x4.tm.gt) h3, by simp (disch := omega) only [go_sem, ↓cw_block, dsB_of, r0, r2, r3, rd]⟩
          · simp (disch := omega) only [go_sem, ↓cw_block, dsB_of, r0, r2, r3, rd, w1, h5]
            exact fin ⟨_, _, x4.over (t' := addT (addT (({ beginM L 6 s with kind := 12 }, Fo.nil)) e2.1) e3.1) ((g2.cat (Fr.set (a := ⟨H1.size, 5, none⟩) (F := [H1.size]) (by simp))).cat h7) (by intro y hy; simp only [List.mem_append, List.mem_singleton] at hy; rcases hy with (hy | hy) | hy; exact (x4.tm.ow y hy).1; rw [hy]; exact x4.tm.gt; exact ow' y hy) h6, by simp (disch := omega) only [go_sem, ↓cw_block, dsB_of, r0, r2, r3, rd]⟩
        · have x3 := x.grow (Fr.push (o := .cells #[iv 0, noS, noS, noS, iv 0, noS] 72))
          simp (disch := omega) only [go_sem, ↓cw_block, dsB_of, r0, r2, r3, rd]
          refine held_by (heldOK_blk x3.tm.box) ?_
          simp (disch := omega) only [go_sem, ↓cw_block, dsB_of, r0, r2, r3, rd]
          refine call_to ((IH n (by omega)).block x3.pm he3) ?_
          intro v H4 hv
          refine Hush.out ?_
          obtain ⟨q4, cp, rfl, t4⟩ := hv
          have x4 := x3.step q4
          have hxb : Blk H4 _ 72 z6 := q4.1.blk (Blk.new rfl) (by have := x.pm.lt; simp; omega)
          have t4' := t4.mono (S' := fun b => H.size < b ∧ b ≠ H1.size ∧ b ∉ own (Value.slice al ((addT (({ beginM L 6 s with kind := 12 }, Fo.nil)) e2.1)).2.len cl)) (by intro b hb _; have := x.tm.box.lt; have := x.tm.gt; (try simp only [Array.size_push] at hb); exact ⟨by omega, by omega, fun e => by have := x.tm.vec.lt b e; omega⟩)
          refine ⟨?_⟩
          refine held_by (heldOK_blk x4.tm.box) ?_
          simp (disch := omega) only [go_sem, ↓cw_block, dsB_of, r0, r2, r3, rd]
          refine app_src (new := z6) T.el70 rfl x4.tm.vec hxb (one_all rfl) rfl (by intro a' l c e; simp only [Value.slice.injEq] at e; obtain ⟨_, rfl, _⟩ := e; first | omega | simp [addT, kindT, Fo.len_snoc, Fo.len]) ?_
          intro v' K1 g1 g2 g3 g4
          obtain ⟨b, o, c, e1, ⟨K2, h1, h2, h3, h4⟩, w1, K3, h5, h6, h7⟩ := TM.app1 x4.tm t4' g1 g2 g3
          subst e1
          have ow' : ∀ y ∈ own (Value.slice (some ⟨b, o, none⟩) (((addT (({ beginM L 6 s with kind := 12 }, Fo.nil)) e2.1)).2.len + 1) c), H.size < y := fun y hy => (g3 y hy).elim (fun h => (x4.tm.ow y h).1) (fun h => by have := x4.tm.box.lt; have := x4.tm.gt; omega)
          simp (disch := omega) only [go_sem, ↓cw_block, dsB_of, r0, r2, r3, rd]
          refine both_of ?_ ?_
          · simp (disch := omega) only [go_sem, ↓cw_block, dsB_of, r0, r2, r3, rd, h1, h2]
            exact fin ⟨_, _, x4.over (t' := addT (addT (({ beginM L 6 s with kind := 12 }, Fo.nil)) e2.1) e3.1) ((g2.cat h4).cat (Fr.set (a := ⟨H1.size, 5, none⟩) (F := [H1.size]) (by simp))) (by intro y hy; simp only [List.mem_append, List.mem_singleton] at hy; rcases hy with (hy | hy) | hy; exact (x4.tm.ow y hy).1; exact ow' y hy; rw [hy]; exact x4.tm.gt) h3, by simp (disch := omega) only [go_sem, ↓cw_block, dsB_of, r0, r2, r3, rd]⟩
          · simp (disch := omega) only [go_sem, ↓cw_block, dsB_of, r0, r2, r3, rd, w1, h5]
            exact fin ⟨_, _, x4.over (t' := addT (addT (({ beginM L 6 s with kind := 12 }, Fo.nil)) e2.1) e3.1) ((g2.cat (Fr.set (a := ⟨H1.size, 5, none⟩) (F := [H1.size]) (by simp))).cat h7) (by intro y hy; simp only [List.mem_append, List.mem_singleton] at hy; rcases hy with (hy | hy) | hy; exact (x4.tm.ow y hy).1; rw [hy]; exact x4.tm.gt; exact ow' y hy) h6, by simp (disch := omega) only [go_sem, ↓cw_block, dsB_of, r0, r2, r3, rd]⟩
      · rintro ρ H5 ⟨lv', ds', x, r0, r2, r3, rd⟩
        simp (disch := omega) only [go_sem, ↓cw_block, dsB_of, r0, r2, r3, rd]
        refine Hush.out ?_
        obtain ⟨ld, H6, e1, e2, e3⟩ := x.fin2 hG
        refine ⟨?_⟩
        simp (disch := omega) only [go_sem, ↓cw_block, dsB_of, r0, r2, r3, rd, ld, e1, e2]
        exact fin e3
  have ht : takeM L [119, 104, 105, 108, 101] s = (false, s) := by simp [takeM, k3]
  rw [ht] at qq
  simp only [k3, Bool.false_eq_true, if_false] at hm
  have x := x.step qq
  refine ⟨?_⟩
  simp (disch := omega) only [go_sem, ↓cw_block, dsB_of, ht]
  refine call_to (pTake_spec hW x.pm) ?_
  intro v HT hv
  refine Hush.out ?_
  obtain ⟨qq, rfl⟩ := hv
  cases k4 : seesM L [97, 116, 111, 109, 105, 99] s
  rotate_left
  · have ht : takeM L [97, 116, 111, 109, 105, 99] s = (true, upM s) := by simp [takeM, k4]
    rw [ht] at qq
    simp only [k4, if_true] at hm
    have x := x.step qq
    obtain ⟨r2, hr2, hm⟩ := Option.bind_eq_some_iff.1 hm
    simp only [Option.some.injEq] at hm
    subst hm
    obtain ⟨w0, x⟩ := x.kind 13
    refine ⟨?_⟩
    simp (disch := omega) only [go_sem, ↓cw_block, dsB_of, ht, w0]
    obtain ⟨wv, nv, kv, lv, ds, x⟩ : ∃ wv nv kv lv ds, XN G _ p tv L H.size H1.size wv nv kv lv ds ((({ beginM L 6 s with kind := 13 }, Fo.nil)) : TT) _ := ⟨_, _, _, _, _, x⟩
    refine draw_last (fun ρ' H' => ∃ lv' ds', XN G H' p tv L H.size H1.size wv nv kv lv' ds' (addT (({ beginM L 6 s with kind := 13 }, Fo.nil)) r2.1) r2.2 ∧ ρ'.get 0 = hp p ∧ ρ'.get 2 = hp H.size ∧ ρ'.get 3 = hp H1.size ∧ ρ'.ds = []) ?_ ?_
    · obtain ⟨al, cl, elv, hdl⟩ := x.tm.len
      obtain ⟨f1, f2, f3, f4, f5, f6, f7, f8, f9, ew, en, ek⟩ := x.tm.forms
      have hfew : ((({ beginM L 6 s with kind := 13 }, Fo.nil))).2.len < 1000000 := by simp [addT, kindT, Fo.len_snoc, Fo.len]
      subst ew en ek elv
      refine draw1 (lk [(0, false), (1, false), (2, false), (4, false)] (.act 3 (.act 5 (.actd 6 (lk [(7, false), (9, false)] (.act 8 (.act 10 .fin .non) (.act 10 (.act 8 .fin .non) .non)))) .non) (.act 5 (.act 3 (.actd 6 (lk [(7, false), (9, false)] (.act 8 (.act 10 .fin .non) (.act 10 (.act 8 .fin .non) .non)))) .non) .non))) T.mixed (hlist H1.size 0 _) (heldOK_blk x.tm.box) ?_
      simp (disch := omega) only [go_sem, ↓cw_block, dsB_of, id_eq]
      refine both_of ?_ ?_
      · simp (disch := omega) only [go_sem, ↓cw_block, dsB_of, id_eq]
        refine call_to ((IH n (by omega)).block x.pm hr2) ?_
        intro v H4 hv
        refine Hush.out ?_
        obtain ⟨q4, cp, rfl, t4⟩ := hv
        have x4 := x.step q4
        have t4' := t4.mono (S' := fun b => H.size < b ∧ b ≠ H1.size ∧ b ∉ own (Value.slice al ((({ beginM L 6 s with kind := 13 }, Fo.nil))).2.len cl)) (by intro b hb _; have := x.tm.box.lt; have := x.tm.gt; (try simp only [Array.size_push] at hb); exact ⟨by omega, by omega, fun e => by have := x.tm.vec.lt b e; omega⟩)
        refine ⟨?_⟩
        refine held_by (heldOK_blk x4.tm.box) ?_
        simp (disch := omega) only [go_sem, ↓cw_block, dsB_of, id_eq]
        refine held_by (heldOK_blk (x4.grow Fr.push).tm.box) ?_
        simp (disch := omega) only [go_sem, ↓cw_block, dsB_of, id_eq]
        refine app_lit (n := 1) (new := z6) T.el70 rfl x4.tm.vec (one_all rfl) rfl (by intro a' l c e; simp only [Value.slice.injEq] at e; obtain ⟨_, rfl, _⟩ := e; first | omega | simp [addT, kindT, Fo.len_snoc, Fo.len]) ?_
        intro v' K1 g1 g2 g3 g4
        obtain ⟨b, o, c, e1, ⟨K2, h1, h2, h3, h4⟩, w1, K3, h5, h6, h7⟩ := TM.app1 x4.tm t4' g1 g2 g3
        subst e1
        have ow' : ∀ y ∈ own (Value.slice (some ⟨b, o, none⟩) (((({ beginM L 6 s with kind := 13 }, Fo.nil))).2.len + 1) c), H.size < y := fun y hy => (g3 y hy).elim (fun h => (x4.tm.ow y h).1) (fun h => by have := x4.tm.box.lt; have := x4.tm.gt; omega)
        simp (disch := omega) only [go_sem, ↓cw_block, dsB_of, id_eq]
        refine both_of ?_ ?_
        · simp (disch := omega) only [go_sem, ↓cw_block, dsB_of, id_eq, h1, h2]
          exact fin ⟨_, _, x4.over (t' := addT (({ beginM L 6 s with kind := 13 }, Fo.nil)) r2.1) ((g2.cat h4).cat (Fr.set (a := ⟨H1.size, 5, none⟩) (F := [H1.size]) (by simp))) (by intro y hy; simp only [List.mem_append, List.mem_singleton] at hy; rcases hy with (hy | hy) | hy; exact (x4.tm.ow y hy).1; exact ow' y hy; rw [hy]; exact x4.tm.gt) h3, by simp (disch := omega) only [go_sem, ↓cw_block, dsB_of, id_eq]⟩
        · simp (disch := omega) only [go_sem, ↓cw_block, dsB_of, id_eq, w1, h5]
          exact fin ⟨_, _, x4.over (t' := addT (({ beginM L 6 s with kind := 13 }, Fo.nil)) r2.1) ((g2.cat (Fr.set (a := ⟨H1.size, 5, none⟩) (F := [H1.size]) (by simp))).cat h7) (by intro y hy; simp only [List.mem_append, List.mem_singleton] at hy; rcases hy with (hy | hy) | hy; exact (x4.tm.ow y hy).1; rw [hy]; exact x4.tm.gt; exact ow' y hy) h6, by simp (disch := omega) only [go_sem, ↓cw_block, dsB_of, id_eq]⟩
      · have x3 := x.grow (Fr.push (o := .cells #[iv 0, noS, noS, noS, iv 0, noS] 72))
        simp (disch := omega) only [go_sem, ↓cw_block, dsB_of, id_eq]
        refine held_by (heldOK_blk x3.tm.box) ?_
        simp (disch := omega) only [go_sem, ↓cw_block, dsB_of, id_eq]
        refine call_to ((IH n (by omega)).block x3.pm hr2) ?_
        intro v H4 hv
        refine Hush.out ?_
        obtain ⟨q4, cp, rfl, t4⟩ := hv
        have x4 := x3.step q4
        have hxb : Blk H4 _ 72 z6 := q4.1.blk (Blk.new rfl) (by have := x.pm.lt; simp; omega)
        have t4' := t4.mono (S' := fun b => H.size < b ∧ b ≠ H1.size ∧ b ∉ own (Value.slice al ((({ beginM L 6 s with kind := 13 }, Fo.nil))).2.len cl)) (by intro b hb _; have := x.tm.box.lt; have := x.tm.gt; (try simp only [Array.size_push] at hb); exact ⟨by omega, by omega, fun e => by have := x.tm.vec.lt b e; omega⟩)
        refine ⟨?_⟩
        refine held_by (heldOK_blk x4.tm.box) ?_
        simp (disch := omega) only [go_sem, ↓cw_block, dsB_of, id_eq]
        refine app_src (new := z6) T.el70 rfl x4.tm.vec hxb (one_all rfl) rfl (by intro a' l c e; simp only [Value.slice.injEq] at e; obtain ⟨_, rfl, _⟩ := e; first | omega | simp [addT, kindT, Fo.len_snoc, Fo.len]) ?_
        intro v' K1 g1 g2 g3 g4
        obtain ⟨b, o, c, e1, ⟨K2, h1, h2, h3, h4⟩, w1, K3, h5, h6, h7⟩ := TM.app1 x4.tm t4' g1 g2 g3
        subst e1
        have ow' : ∀ y ∈ own (Value.slice (some ⟨b, o, none⟩) (((({ beginM L 6 s with kind := 13 }, Fo.nil))).2.len + 1) c), H.size < y := fun y hy => (g3 y hy).elim (fun h => (x4.tm.ow y h).1) (fun h => by have := x4.tm.box.lt; have := x4.tm.gt; omega)
        simp (disch := omega) only [go_sem, ↓cw_block, dsB_of, id_eq]
        refine both_of ?_ ?_
        · simp (disch := omega) only [go_sem, ↓cw_block, dsB_of, id_eq, h1, h2]
          exact fin ⟨_, _, x4.over (t' := addT (({ beginM L 6 s with kind := 13 }, Fo.nil)) r2.1) ((g2.cat h4).cat (Fr.set (a := ⟨H1.size, 5, none⟩) (F := [H1.size]) (by simp))) (by intro y hy; simp only [List.mem_append, List.mem_singleton] at hy; rcases hy with (hy | hy) | hy; exact (x4.tm.ow y hy).1; exact ow' y hy; rw [hy]; exact x4.tm.gt) h3, by simp (disch := omega) only [go_sem, ↓cw_block, dsB_of, id_eq]⟩
        · simp (disch := omega) only [go_sem, ↓cw_block, dsB_of, id_eq, w1, h5]
          exact fin ⟨_, _, x4.over (t' := addT (({ beginM L 6 s with kind := 13 }, Fo.nil)) r2.1) ((g2.cat (Fr.set (a := ⟨H1.size, 5, none⟩) (F := [H1.size]) (by simp))).cat h7) (by intro y hy; simp only [List.mem_append, List.mem_singleton] at hy; rcases hy with (hy | hy) | hy; exact (x4.tm.ow y hy).1; rw [hy]; exact x4.tm.gt; exact ow' y hy) h6, by simp (disch := omega) only [go_sem, ↓cw_block, dsB_of, id_eq]⟩
    · rintro ρ H5 ⟨lv', ds', x, r0, r2, r3, rd⟩
      simp (disch := omega) only [go_sem, ↓cw_block, dsB_of, r0, r2, r3, rd]
      refine Hush.out ?_
      obtain ⟨ld, H6, e1, e2, e3⟩ := x.fin2 hG
      refine ⟨?_⟩
      simp (disch := omega) only [go_sem, ↓cw_block, dsB_of, r0, r2, r3, rd, ld, e1, e2]
      exact fin e3
  have ht : takeM L [97, 116, 111, 109, 105, 99] s = (false, s) := by simp [takeM, k4]
  rw [ht] at qq
  simp only [k4, Bool.false_eq_true, if_false] at hm
  have x := x.step qq
  refine ⟨?_⟩
  simp (disch := omega) only [go_sem, ↓cw_block, dsB_of, ht]
  refine call_to (pTake_spec hW x.pm) ?_
  intro v HT hv
  refine Hush.out ?_
  obtain ⟨qq, rfl⟩ := hv
  cases k5 : seesM L [115, 107, 105, 112] s
  rotate_left
  · have ht : takeM L [115, 107, 105, 112] s = (true, upM s) := by simp [takeM, k5]
    rw [ht] at qq
    simp only [k5, if_true] at hm
    have x := x.step qq
    simp only [Option.some.injEq] at hm
    subst hm
    obtain ⟨w0, x⟩ := x.kind 14
    refine ⟨?_⟩
    simp (disch := omega) only [go_sem, ↓cw_block, dsB_of, ht, w0]
    refine call_to (pMust_spec hW x.pm) ?_
    intro v HM hv
    refine Hush.out ?_
    have x := x.step hv
    refine ⟨?_⟩
    simp (disch := omega) only [go_sem, ↓cw_block, dsB_of]
    refine Hush.out ?_
    obtain ⟨ld, H6, e1, e2, e3⟩ := x.fin2 hG
    refine ⟨?_⟩
    simp (disch := omega) only [go_sem, ↓cw_block, dsB_of, id_eq, ld, e1, e2]
    exact fin e3
  have ht : takeM L [115, 107, 105, 112] s = (false, s) := by simp [takeM, k5]
  rw [ht] at qq
  simp only [k5, Bool.false_eq_true, if_false] at hm
  have x := x.step qq
  refine ⟨?_⟩
  simp (disch := omega) only [go_sem, ↓cw_block, dsB_of, ht]
  refine call_to (pTake_spec hW x.pm) ?_
  intro v HT hv
  refine Hush.out ?_
  obtain ⟨qq, rfl⟩ := hv
  cases k6 : seesM L [115, 116, 111, 112] s
  rotate_left
  · have ht : takeM L [115, 116, 111, 112] s = (true, upM s) := by simp [takeM, k6]
    rw [ht] at qq
    simp only [k6, if_true] at hm
    have x := x.step qq
    simp only [Option.some.injEq] at hm
    subst hm
    obtain ⟨w0, x⟩ := x.kind 15
    refine ⟨?_⟩
    simp (disch := omega) only [go_sem, ↓cw_block, dsB_of, ht, w0]
    refine call_to (pMust_spec hW x.pm) ?_
    intro v HM hv
    refine Hush.out ?_
    have x := x.step hv
    refine ⟨?_⟩
    simp (disch := omega) only [go_sem, ↓cw_block, dsB_of]
    refine Hush.out ?_
    obtain ⟨ld, H6, e1, e2, e3⟩ := x.fin2 hG
    refine ⟨?_⟩
    simp (disch := omega) only [go_sem, ↓cw_block, dsB_of, id_eq, ld, e1, e2]
    exact fin e3
  have ht : takeM L [115, 116, 111, 112] s = (false, s) := by simp [takeM, k6]
  rw [ht] at qq
  simp only [k6, Bool.false_eq_true, if_false] at hm
  have x := x.step qq
  obtain ⟨r2, hr2, hm⟩ := Option.bind_eq_some_iff.1 hm
  simp only [Option.some.injEq] at hm
  subst hm
  have g := GX.start 9 x
  refine ⟨?_⟩
  simp (disch := omega) only [go_sem, ↓cw_block, dsB_of, ht]
  refine draw1 (lk [(0, false), (1, false), (2, false), (3, true)] (.act 4 (.act 5 (.actd 6 (lk [(7, true), (8, true)] (.actd 9 .fin))) .non) .non)) T.mixed (hlist H1.size 0 _) (heldOK_blk g.box) ?_
  simp (disch := omega) only [go_sem, ↓cw_block, dsB_of, id_eq]
  refine call_to (pName_spec hW g.pm) ?_
  intro v HN hv
  refine Hush.out ?_
  obtain ⟨qq, rfl⟩ := hv
  have g := g.step qq
  refine ⟨?_⟩
  refine held_by (heldOK_blk g.box) ?_
  simp (disch := omega) only [go_sem, ↓cw_block, dsB_of, id_eq]
  refine held_by (heldOK_blk (g.grow Fr.push).box) ?_
  simp (disch := omega) only [go_sem, ↓cw_block, dsB_of, id_eq]
  refine app_lit1 T.el66 rfl g.vec rfl (by simp) ?_
  intro v' HZ g1 g2 g3 g4
  refine Hush.out ?_
  obtain ⟨a1, c1, hv'⟩ := g4
  have hv' : v' = .slice a1 1 c1 := hv'
  subst hv'
  have g := g.app g1 g2 g3
  refine ⟨?_⟩
  first | refine held_by (heldOK_blk g.box) ?_ | skip
  refine Hush.out ?_
  obtain ⟨w5, g⟩ := g.set 1 (.slice a1 1 c1) (by simp)
  have g : GX _ _ p tv L _ H1.size _ [iv 6, .slice a1 1 c1, noS, noS, iv (tkM L s).pos, noS] _ _ _ := g
  refine ⟨?_⟩
  simp (disch := omega) only [go_sem, ↓cw_block, dsB_of, id_eq, w5]
  have x := g.words (k := 6) (us := [_]) x rfl rfl
  refine call_to (pMust_spec hW x.pm) ?_
  intro v HM hv
  refine Hush.out ?_
  have x := x.step hv
  refine ⟨?_⟩
  simp (disch := omega) only [go_sem, ↓cw_block, dsB_of]
  obtain ⟨wv, nv, kv, lv, ds, x⟩ : ∃ wv nv kv lv ds, XN G _ p tv L H.size H1.size wv nv kv lv ds ((({ beginM L 6 s with words := [(pnameM L s).1] }, Fo.nil)) : TT) _ := ⟨_, _, _, _, _, x⟩
  refine draw_cut (fun ρ' H' => ∃ lv' ds', XN G H' p tv L H.size H1.size wv nv kv lv' ds' (addT (({ beginM L 6 s with words := [(pnameM L s).1] }, Fo.nil)) r2.1) r2.2 ∧ ρ'.get 0 = hp p ∧ ρ'.get 2 = hp H.size ∧ ρ'.get 3 = hp H1.size ∧ ρ'.ds = []) ?_ ?_
  · obtain ⟨al, cl, elv, hdl⟩ := x.tm.len
    obtain ⟨f1, f2, f3, f4, f5, f6, f7, f8, f9, ew, en, ek⟩ := x.tm.forms
    have hfew : ((({ beginM L 6 s with words := [(pnameM L s).1] }, Fo.nil))).2.len < 1000000 := by simp [addT, kindT, Fo.len_snoc, Fo.len]
    subst ew en ek elv
    refine draw1 (lk [(0, false), (1, false), (2, false), (4, false)] (.act 3 (.act 5 (.actd 6 (lk [(7, false), (9, false)] (.act 8 (.act 10 .fin .non) (.act 10 (.act 8 .fin .non) .non)))) .non) (.act 5 (.act 3 (.actd 6 (lk [(7, false), (9, false)] (.act 8 (.act 10 .fin .non) (.act 10 (.act 8 .fin .non) .non)))) .non) .non))) T.mixed (hlist H1.size 0 _) (heldOK_blk x.tm.box) ?_
    simp (disch := omega) only [go_sem, ↓cw_block, dsB_of, id_eq]
    refine both_of ?_ ?_
    · simp (disch := omega) only [go_sem, ↓cw_block, dsB_of, id_eq]
      refine call_to (hE.expr x.pm hr2) ?_
      intro v H4 hv
      refine Hush.out ?_
      obtain ⟨q4, cp, rfl, t4⟩ := hv
      have x4 := x.step q4
      have t4' := t4.mono (S' := fun b => H.size < b ∧ b ≠ H1.size ∧ b ∉ own (Value.slice al ((({ beginM L 6 s with words := [(pnameM L s).1] }, Fo.nil))).2.len cl)) (by intro b hb _; have := x.tm.box.lt; have := x.tm.gt; (try simp only [Array.size_push] at hb); exact ⟨by omega, by omega, fun e => by have := x.tm.vec.lt b e; omega⟩)
      refine ⟨?_⟩
      refine held_by (heldOK_blk x4.tm.box) ?_
      simp (disch := omega) only [go_sem, ↓cw_block, dsB_of, id_eq]
      refine held_by (heldOK_blk (x4.grow Fr.push).tm.box) ?_
      simp (disch := omega) only [go_sem, ↓cw_block, dsB_of, id_eq]
      refine app_lit (n := 1) (new := z6) T.el70 rfl x4.tm.vec (one_all rfl) rfl (by intro a' l c e; simp only [Value.slice.injEq] at e; obtain ⟨_, rfl, _⟩ := e; first | omega | simp [addT, kindT, Fo.len_snoc, Fo.len]) ?_
      intro v' K1 g1 g2 g3 g4
      obtain ⟨b, o, c, e1, ⟨K2, h1, h2, h3, h4⟩, w1, K3, h5, h6, h7⟩ := TM.app1 x4.tm t4' g1 g2 g3
      subst e1
      have ow' : ∀ y ∈ own (Value.slice (some ⟨b, o, none⟩) (((({ beginM L 6 s with words := [(pnameM L s).1] }, Fo.nil))).2.len + 1) c), H.size < y := fun y hy => (g3 y hy).elim (fun h => (x4.tm.ow y h).1) (fun h => by have := x4.tm.box.lt; have := x4.tm.gt; omega)
      simp (disch := omega) only [go_sem, ↓cw_block, dsB_of, id_eq]
      refine both_of ?_ ?_
      · simp (disch := omega) only [go_sem, ↓cw_block, dsB_of, id_eq, h1, h2]
        exact fin ⟨_, _, x4.over (t' := addT (({ beginM L 6 s with words := [(pnameM L s).1] }, Fo.nil)) r2.1) ((g2.cat h4).cat (Fr.set (a := ⟨H1.size, 5, none⟩) (F := [H1.size]) (by simp))) (by intro y hy; simp only [List.mem_append, List.mem_singleton] at hy; rcases hy with (hy | hy) | hy; exact (x4.tm.ow y hy).1; exact ow' y hy; rw [hy]; exact x4.tm.gt) h3, by simp (disch := omega) only [go_sem, ↓cw_block, dsB_of, id_eq]⟩
      · simp (disch := omega) only [go_sem, ↓cw_block, dsB_of, id_eq, w1, h5]
        exact fin ⟨_, _, x4.over (t' := addT (({ beginM L 6 s with words := [(pnameM L s).1] }, Fo.nil)) r2.1) ((g2.cat (Fr.set (a := ⟨H1.size, 5, none⟩) (F := [H1.size]) (by simp))).cat h7) (by intro y hy; simp only [List.mem_append, List.mem_singleton] at hy; rcases hy with (hy | hy) | hy; exact (x4.tm.ow y hy).1; rw [hy]; exact x4.tm.gt; exact ow' y hy) h6, by simp (disch := omega) only [go_sem, ↓cw_block, dsB_of, id_eq]⟩
    · have x3 := x.grow (Fr.push (o := .cells #[iv 0, noS, noS, noS, iv 0, noS] 72))
      simp (disch := omega) only [go_sem, ↓cw_block, dsB_of, id_eq]
      refine held_by (heldOK_blk x3.tm.box) ?_
      simp (disch := omega) only [go_sem, ↓cw_block, dsB_of, id_eq]
      refine call_to (hE.expr x3.pm hr2) ?_
      intro v H4 hv
      refine Hush.out ?_
      obtain ⟨q4, cp, rfl, t4⟩ := hv
      have x4 := x3.step q4
      have hxb : Blk H4 _ 72 z6 := q4.1.blk (Blk.new rfl) (by have := x.pm.lt; simp; omega)
      have t4' := t4.mono (S' := fun b => H.size < b ∧ b ≠ H1.size ∧ b ∉ own (Value.slice al ((({ beginM L 6 s with words := [(pnameM L s).1] }, Fo.nil))).2.len cl)) (by intro b hb _; have := x.tm.box.lt; have := x.tm.gt; (try simp only [Array.size_push] at hb); exact ⟨by omega, by omega, fun e => by have := x.tm.vec.lt b e; omega⟩)
      refine ⟨?_⟩
      refine held_by (heldOK_blk x4.tm.box) ?_
      simp (disch := omega) only [go_sem, ↓cw_block, dsB_of, id_eq]
      refine app_src (new := z6) T.el70 rfl x4.tm.vec hxb (one_all rfl) rfl (by intro a' l c e; simp only [Value.slice.injEq] at e; obtain ⟨_, rfl, _⟩ := e; first | omega | simp [addT, kindT, Fo.len_snoc, Fo.len]) ?_
      intro v' K1 g1 g2 g3 g4
      obtain ⟨b, o, c, e1, ⟨K2, h1, h2, h3, h4⟩, w1, K3, h5, h6, h7⟩ := TM.app1 x4.tm t4' g1 g2 g3
      subst e1
      have ow' : ∀ y ∈ own (Value.slice (some ⟨b, o, none⟩) (((({ beginM L 6 s with words := [(pnameM L s).1] }, Fo.nil))).2.len + 1) c), H.size < y := fun y hy => (g3 y hy).elim (fun h => (x4.tm.ow y h).1) (fun h => by have := x4.tm.box.lt; have := x4.tm.gt; omega)
      simp (disch := omega) only [go_sem, ↓cw_block, dsB_of, id_eq]
      refine both_of ?_ ?_
      · simp (disch := omega) only [go_sem, ↓cw_block, dsB_of, id_eq, h1, h2]
        exact fin ⟨_, _, x4.over (t' := addT (({ beginM L 6 s with words := [(pnameM L s).1] }, Fo.nil)) r2.1) ((g2.cat h4).cat (Fr.set (a := ⟨H1.size, 5, none⟩) (F := [H1.size]) (by simp))) (by intro y hy; simp only [List.mem_append, List.mem_singleton] at hy; rcases hy with (hy | hy) | hy; exact (x4.tm.ow y hy).1; exact ow' y hy; rw [hy]; exact x4.tm.gt) h3, by simp (disch := omega) only [go_sem, ↓cw_block, dsB_of, id_eq]⟩
      · simp (disch := omega) only [go_sem, ↓cw_block, dsB_of, id_eq, w1, h5]
        exact fin ⟨_, _, x4.over (t' := addT (({ beginM L 6 s with words := [(pnameM L s).1] }, Fo.nil)) r2.1) ((g2.cat (Fr.set (a := ⟨H1.size, 5, none⟩) (F := [H1.size]) (by simp))).cat h7) (by intro y hy; simp only [List.mem_append, List.mem_singleton] at hy; rcases hy with (hy | hy) | hy; exact (x4.tm.ow y hy).1; rw [hy]; exact x4.tm.gt; exact ow' y hy) h6, by simp (disch := omega) only [go_sem, ↓cw_block, dsB_of, id_eq]⟩
  · rintro ρ H5 ⟨lv', ds', x, r0, r2, r3, rd⟩
    simp (disch := omega) only [go_sem, ↓cw_block, dsB_of, r0, r2, r3, rd]
    refine call_to (pMust_spec hW x.pm) ?_
    intro v HM hv
    refine Hush.out ?_
    have x := x.step hv
    refine ⟨?_⟩
    simp (disch := omega) only [go_sem, ↓cw_block, dsB_of, r0, r2, r3, rd]
    refine Hush.out ?_
    obtain ⟨ld, H6, e1, e2, e3⟩ := x.fin2 hG
    refine ⟨?_⟩
    simp (disch := omega) only [go_sem, ↓cw_block, dsB_of, r0, r2, r3, rd, ld, e1, e2]
    exact fin e3
end Go.Proofs.YtpkfgoemhcgpdaaGreatDoor

