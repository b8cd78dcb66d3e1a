/- The document's parser: fields that grow; statements that wait. -/
import Derived.Test.YtpkfgoemhcgpdaaGreatDoorL12
namespace Go.Proofs.YtpkfgoemhcgpdaaGreatDoor
open Go.HL
set_option maxRecDepth 10000
set_option linter.unusedSimpArgs false
set_option linter.unusedVariables false

section
variable {H H2 H3 K0 K K' : Heap} {p N b3 e : Nat} {tv : Value} {L : List Tok} {wv nv kv lv wv' nv' v v' : Value} {ds cells vals vals' : List Value} {n : Nd} {f : Fo} {t : TT} {s s2 : PS}
theorem TM.keeps {F : List Nat} (x : TM K0 N b3 wv nv kv lv ds n f) (q : Fr F K0 K) (hF : ∀ b ∈ F, b ≤ N ∨ b = b3 ∨ K0.size ≤ b) : Keeps (fun b => N < b ∧ b ≠ b3 ∧ b ∉ own lv) K0 K := by
  intro b hb hl
  refine q.same b hl (fun e => ?_)
  have h1 := hb.1
  rcases hF b e with h | h | h
  · omega
  · exact hb.2.1 h
  · omega
theorem TM.redo {F : List Nat} {k : Int} {us : List Str} {is : List Int} (x : TM K0 N b3 wv nv kv lv ds n f) (q : Fr F K0 K) (hF : ∀ b ∈ F, b ≤ N ∨ b = b3 ∨ K0.size ≤ b) (box : Blk K b3 72 [iv k, wv', nv', kv, iv n.pos, lv])
    (hw : Rd K (fun b => N < b ∧ b ≠ b3 ∧ b ∉ own lv) 1 wv' (us.map sv)) (hu : Rd K (fun b => N < b ∧ b ≠ b3 ∧ b ∉ own lv) 1 nv' (is.map iv)) : TM K N b3 wv' nv' kv lv ds { n with kind := k, words := us, nums := is } f := by
  have kp := x.keeps q hF
  have nr' := x.nr.frame kp
  refine ⟨box, x.gt, x.vec.frame q ?_, x.ow, ⟨hw, hu, nr'.k⟩, x.fl.frame kp⟩
  intro b hb e
  have h1 := x.ow b hb
  have h2 := x.vec.lt b hb
  rcases hF b e with h | h | h
  · omega
  · exact h1.2 h
  · omega
theorem XN.kind (x : XN H H2 p tv L N b3 wv nv kv lv ds t s) (k : Int) : wr H2 ⟨b3, 0, none⟩ (iv k) = some (setH H2 ⟨b3, 0, none⟩ (iv k)) ∧ XN H (setH H2 ⟨b3, 0, none⟩ (iv k)) p tv L N b3 wv nv kv lv ds (kindT k t) s := by
  obtain ⟨h1, h2⟩ := x.tm.kind k
  exact ⟨h1, x.over (t' := kindT k t) (F := [b3]) (Fr.set (by simp)) (by simpa using x.tm.gt) h2⟩
/-- One field of the box grows: since K0 only p, the box and new blocks have been written. -/
structure GX (K0 K : Heap) (p : Nat) (tv : Value) (L : List Tok) (N b3 e : Nat) (cells : List Value) (v : Value) (vals : List Value) (s : PS) : Prop where
  fr : ∃ F, Fr F K0 K ∧ ∀ b ∈ F, b = p ∨ b = b3 ∨ K0.size ≤ b
  pm : PM K p tv L s
  box : Blk K b3 72 cells
  vec : Vec K e 1 v vals
  ow : ∀ b ∈ own v, K0.size ≤ b
  low : p < N
  gt : N < b3
  old : b3 < K0.size
theorem GX.start (e : Nat) (x : XN H K0 p tv L N b3 wv nv kv lv ds t s) : GX K0 K0 p tv L N b3 e [iv t.1.kind, wv, nv, kv, iv t.1.pos, lv] noS [] s :=
  ⟨⟨[], Fr.refl _ _, by simp⟩, x.pm, x.tm.box, Vec.nil, by simp [own], x.low, x.tm.gt, x.tm.box.lt⟩
theorem GX.step (g : GX K0 K p tv L N b3 e cells v vals s) (q : PP K p tv L s2 K') : GX K0 K' p tv L N b3 e cells v vals s2 := by
  obtain ⟨F, h1, h2⟩ := g.fr
  have a1 := g.low
  have a2 := g.gt
  have a3 := g.old
  refine ⟨⟨F ++ [p], h1.cat q.1, ?_⟩, q.2, q.1.blk g.box (by simp; omega), g.vec.frame q.1 ?_, g.ow, a1, a2, a3⟩
  · intro b hb
    simp only [List.mem_append, List.mem_singleton] at hb
    exact hb.elim (h2 b) .inl
  · intro b hb; have := g.ow b hb; simp; omega
theorem GX.grow (g : GX K0 K p tv L N b3 e cells v vals s) (q : Fr [] K K') : GX K0 K' p tv L N b3 e cells v vals s := g.step ⟨q.nil, g.pm.grow q⟩
theorem GX.set (g : GX K0 K p tv L N b3 e cells v vals s) (j : Nat) (u : Value) (hj : j < cells.length) : wr K ⟨b3, j, none⟩ u = some (setH K ⟨b3, j, none⟩ u) ∧ GX K0 (setH K ⟨b3, j, none⟩ u) p tv L N b3 e (cells.set j u) v vals s := by
  obtain ⟨F, h1, h2⟩ := g.fr
  have a1 := g.low
  have a2 := g.gt
  have a3 := g.old
  have f1 : Fr [b3] K (setH K ⟨b3, j, none⟩ u) := Fr.set (by simp)
  refine ⟨g.box.wr hj _, ⟨F ++ [b3], h1.cat f1, ?_⟩, g.pm.over f1 (by simp; omega), g.box.set j u, g.vec.frame f1 ?_, g.ow, a1, a2, a3⟩
  · intro b hb
    simp only [List.mem_append, List.mem_singleton] at hb
    exact hb.elim (h2 b) (fun h => .inr (.inl h))
  · intro b hb; have := g.ow b hb; simp; omega
theorem GX.app (g : GX K0 K p tv L N b3 e cells v vals s) (g1 : Vec K' e 1 v' vals') (g2 : Fr (own v) K K') (g3 : ∀ b ∈ own v', b ∈ own v ∨ K.size ≤ b) : GX K0 K' p tv L N b3 e cells v' vals' s := by
  obtain ⟨F, h1, h2⟩ := g.fr
  have a1 := g.low
  have a2 := g.gt
  have a3 := g.old
  have a4 := h1.size
  refine ⟨⟨F ++ own v, h1.cat g2, ?_⟩, g.pm.over g2 (fun b hb => by have := g.ow b hb; omega), g2.blk g.box (fun e => by have := g.ow _ e; omega), g1, fun b hb => (g3 b hb).elim (g.ow b) (fun h => by omega), a1, a2, a3⟩
  intro b hb
  simp only [List.mem_append] at hb
  exact hb.elim (h2 b) (fun h => .inr (.inr (g.ow b h)))
theorem GX.to {H0 : Heap} {k : Int} {us : List Str} {is : List Int} (g : GX K0 K p tv L N b3 e cells v vals s2) (x : XN H0 K0 p tv L N b3 wv nv kv lv ds t s) (hc : cells = [iv k, wv', nv', kv, iv t.1.pos, lv])
    (hw : Rd K (fun b => N < b ∧ b ≠ b3 ∧ b ∉ own lv) 1 wv' (us.map sv)) (hu : Rd K (fun b => N < b ∧ b ≠ b3 ∧ b ∉ own lv) 1 nv' (is.map iv)) : XN H0 K p tv L N b3 wv' nv' kv lv ds ({ t.1 with kind := k, words := us, nums := is }, t.2) s2 := by
  subst hc
  obtain ⟨F, h1, h2⟩ := g.fr
  have a1 := g.low
  have a2 := g.gt
  have a3 := g.old
  refine ⟨x.fr.trans (FrN.of h1 ?_), g.pm, a1, x.tm.redo h1 ?_ g.box hw hu⟩
  · intro b hb; rcases h2 b hb with h | h | h <;> omega
  · intro b hb; rcases h2 b hb with h | h | h <;> omega
theorem GX.rd {H0 : Heap} {t' : TT} (g : GX K0 K p tv L N b3 e cells v vals s2) (x : XN H0 K0 p tv L N b3 wv nv kv lv ds t s) : Rd K (fun b => N < b ∧ b ≠ b3 ∧ b ∉ own lv) 1 v vals := by
  have a1 := g.low
  have a2 := g.gt
  have a3 := g.old
  refine Rd.of_vec g.vec (fun b hb => ?_)
  have := g.ow b hb
  exact ⟨by omega, by omega, fun e => by have := x.tm.vec.lt b e; omega⟩
theorem GX.keeps {H0 : Heap} (g : GX K0 K p tv L N b3 e cells v vals s2) (x : XN H0 K0 p tv L N b3 wv nv kv lv ds t s) : Keeps (fun b => N < b ∧ b ≠ b3 ∧ b ∉ own lv) K0 K := by
  obtain ⟨F, h1, h2⟩ := g.fr
  have a1 := g.low
  refine x.tm.keeps h1 ?_
  intro b hb; rcases h2 b hb with h | h | h <;> omega
theorem GX.words {H0 : Heap} {k : Int} {us : List Str} (g : GX K0 K p tv L N b3 e cells v vals s2) (x : XN H0 K0 p tv L N b3 wv nv kv lv ds t s) (hc : cells = [iv k, v, nv, kv, iv t.1.pos, lv]) (hv : vals = us.map sv) :
    XN H0 K p tv L N b3 v nv kv lv ds ({ t.1 with kind := k, words := us }, t.2) s2 := by
  have h1 := g.rd (t' := t) x
  rw [hv] at h1
  exact g.to (us := us) (is := t.1.nums) x hc h1 (x.tm.nr.u.frame (g.keeps x))
theorem GX.nums {H0 : Heap} {k : Int} {us : List Int} (g : GX K0 K p tv L N b3 e cells v vals s2) (x : XN H0 K0 p tv L N b3 wv nv kv lv ds t s) (hc : cells = [iv k, wv, v, kv, iv t.1.pos, lv]) (hv : vals = us.map iv) :
    XN H0 K p tv L N b3 wv v kv lv ds ({ t.1 with kind := k, nums := us }, t.2) s2 := by
  have h1 := g.rd (t' := t) x
  rw [hv] at h1
  exact g.to (us := t.1.words) (is := us) x hc (x.tm.nr.w.frame (g.keeps x)) h1
end
set_option maxHeartbeats 2000000 in
theorem pWaits_step {L : List Tok} {n : Nat} (hW : TW L) (IH : ∀ m, m < n + 1 → SpecS L (runS L m)) : ∀ {H p tv s t r N b nv kv}, p < N → PM H p tv L s → TM H N b noS nv kv noS [] t.1 t.2 → t.1.words = [] → t.2 = .nil → runS L (n + 1) (.waits t) s = some r → CallF Tryz.prog 105 [hp p, hp b] H (fun _ H' => BoxQ H N p b tv L r H') NoP := by
  intro H p tv s t r N b3 nv kv hlow h tm hwords hnil hm
  have x : XN H H p tv L N b3 noS nv kv noS [] t s := ⟨FrN.refl, h, hlow, tm⟩
  have hE := specE hW n
  change (if seesM L [114, 101, 99, 118] s then
      some (({ t.1 with kind := 8, words := [(pnameM L (upM s)).1, (pnameM L (pnameM L (upM s)).2).1] }, t.2), mustM L [59] (pnameM L (pnameM L (upM s)).2).2)
    else if seesM L [119, 104, 101, 110] s then (runE L n .expr (upM s)).bind fun r => some (addT (kindT 9 t) r.1, mustM L [59] r.2)
    else (runS L n .block (mustM L [99, 104, 111, 111, 115, 101] s)).bind fun r => runS L n (.orB (addT (kindT 10 t) r.1)) r.2) = some r at hm
  refine callF_of Tryz.func105 rfl Tryz.ntmps105 Tryz.results105 (by decide) rfl ?_
  simp (disch := omega) only [go_sem, ↓cw_block, dsB_of]
  refine call_to (pTake_spec hW x.pm) ?_
  intro v H2 hv
  refine Hush.out ?_
  obtain ⟨q2, rfl⟩ := hv
  cases qs : seesM L [114, 101, 99, 118] s
  rotate_left
  · have ht : takeM L [114, 101, 99, 118] s = (true, upM s) := by simp [takeM, qs]
    rw [ht] at q2
    rw [qs] at hm
    simp only [if_true, Option.some.injEq] at hm
    subst hm
    have x := x.step q2
    obtain ⟨w0, x⟩ := x.kind 8
    obtain ⟨f1, f2, f3, f4, f5, f6, f7, f8, f9, ew, en, ek⟩ := x.tm.forms
    subst en ek
    have g := GX.start 9 x
    refine ⟨?_⟩
    simp (disch := omega) only [go_sem, ↓cw_block, dsB_of, ht, w0]
    refine draw1 (lk [(0, false), (1, false), (2, false), (3, false), (4, false), (5, false), (6, true)] (.act 7 (.act 8 (.act 9 (lk [(10, true), (11, true), (12, true)] (.actd 13 .fin)) .non) .non) .non)) T.mixed (hlist b3 0 _) (heldOK_blk g.box) ?_
    simp (disch := omega) only [go_sem, ↓cw_block, dsB_of, id_eq]
    refine call_to (pName_spec hW g.pm) ?_
    intro v HN hv
    refine Hush.out ?_
    obtain ⟨qq, rfl⟩ := hv
    have g := g.step qq
    refine ⟨?_⟩
    refine held_by (heldOK_blk g.box) ?_
    simp (disch := omega) only [go_sem, ↓cw_block, dsB_of, id_eq]
    refine held_by (heldOK_blk (g.grow Fr.push).box) ?_
    simp (disch := omega) only [go_sem, ↓cw_block, dsB_of, id_eq]
    refine app_lit1 T.el66 rfl g.vec rfl (by simp) ?_
    intro v' HZ g1 g2 g3 g4
    refine Hush.out ?_
    obtain ⟨a1, c1, hv'⟩ := g4
    have hv' : v' = .slice a1 1 c1 := hv'
    subst hv'
    have g := g.app g1 g2 g3
    refine ⟨?_⟩
    first | refine held_by (heldOK_blk g.box) ?_ | skip
    refine Hush.out ?_
    obtain ⟨w5, g⟩ := g.set 1 (.slice a1 1 c1) (by simp)
    have g : GX _ _ p tv L _ b3 _ [iv 8, .slice a1 1 c1, .slice f4 f5 f6, .slice f7 f8 f9, iv t.1.pos, noS] _ _ _ := g
    refine ⟨?_⟩
    simp (disch := omega) only [go_sem, ↓cw_block, dsB_of, id_eq, w5]
    refine draw1 (lk [(0, false), (1, false), (2, false), (3, false), (4, false), (5, false), (6, true)] (.act 7 (.act 8 (.act 9 (lk [(10, true), (11, true), (12, true)] (.actd 13 .fin)) .non) .non) .non)) T.mixed (hlist b3 0 _) (heldOK_blk g.box) ?_
    simp (disch := omega) only [go_sem, ↓cw_block, dsB_of, id_eq]
    refine call_to (pName_spec hW g.pm) ?_
    intro v HN hv
    refine Hush.out ?_
    obtain ⟨qq, rfl⟩ := hv
    have g := g.step qq
    refine ⟨?_⟩
    refine held_by (heldOK_blk g.box) ?_
    simp (disch := omega) only [go_sem, ↓cw_block, dsB_of, id_eq]
    refine held_by (heldOK_blk (g.grow Fr.push).box) ?_
    simp (disch := omega) only [go_sem, ↓cw_block, dsB_of, id_eq]
    refine app_lit1 T.el66 rfl g.vec rfl (by simp) ?_
    intro v' HZ g1 g2 g3 g4
    refine Hush.out ?_
    obtain ⟨a2, c2, hv'⟩ := g4
    have hv' : v' = .slice a2 2 c2 := hv'
    subst hv'
    have g := g.app g1 g2 g3
    refine ⟨?_⟩
    first | refine held_by (heldOK_blk g.box) ?_ | skip
    refine Hush.out ?_
    obtain ⟨w5, g⟩ := g.set 1 (.slice a2 2 c2) (by simp)
    have g : GX _ _ p tv L _ b3 _ [iv 8, .slice a2 2 c2, .slice f4 f5 f6, .slice f7 f8 f9, iv t.1.pos, noS] _ _ _ := g
    refine ⟨?_⟩
    simp (disch := omega) only [go_sem, ↓cw_block, dsB_of, id_eq, w5]
    have x := g.words (k := 8) (us := [_, _]) x rfl rfl
    refine call_to (pMust_spec hW x.pm) ?_
    intro v H6 hv
    refine Hush.out ?_
    have x6 := x.step hv
    refine ⟨?_⟩
    simp (disch := omega) only [go_sem, ↓cw_block, dsB_of]
    exact fin ⟨x6.fr, x6.pm, _, _, _, _, _, x6.tm⟩
  have ht : takeM L [114, 101, 99, 118] s = (false, s) := by simp [takeM, qs]
  rw [ht] at q2
  rw [qs] at hm
  simp only [Bool.false_eq_true, if_false] at hm
  have x := x.step q2
  refine ⟨?_⟩
  simp (disch := omega) only [go_sem, ↓cw_block, dsB_of, ht]
  refine call_to (pTake_spec hW x.pm) ?_
  intro v H3 hv
  refine Hush.out ?_
  obtain ⟨q3, rfl⟩ := hv
  cases qw : seesM L [119, 104, 101, 110] s
  rotate_left
  · have ht : takeM L [119, 104, 101, 110] s = (true, upM s) := by simp [takeM, qw]
    rw [ht] at q3
    rw [qw] at hm
    simp only [if_true] at hm
    obtain ⟨r2, hr2, hm⟩ := Option.bind_eq_some_iff.1 hm
    simp only [Option.some.injEq] at hm
    subst hm
    have x := x.step q3
    obtain ⟨w0, x⟩ := x.kind 9
    refine ⟨?_⟩
    simp (disch := omega) only [go_sem, ↓cw_block, dsB_of, ht, w0]
    have hlen0 : (kindT 9 t).2.len = 0 := by show t.2.len = 0; rw [hnil]; rfl
    obtain ⟨wv, lv, ds, x⟩ : ∃ wv lv ds, XN H _ p tv L N b3 wv nv kv lv ds _ _ := ⟨_, _, _, x⟩
    refine draw_cut (fun ρ' H' => ∃ lv' ds', XN H H' p tv L N b3 wv nv kv lv' ds' (addT (kindT 9 t) r2.1) r2.2 ∧ ρ'.get 0 = hp p ∧ ρ'.get 1 = hp b3 ∧ ρ'.ds = []) ?_ ?_
    · obtain ⟨al, cl, elv, hdl⟩ := x.tm.len
      obtain ⟨f1, f2, f3, f4, f5, f6, f7, f8, f9, ew, en, ek⟩ := x.tm.forms
      have hfew := hlen0
      subst ew en ek elv
      refine draw1 (lk [(0, false), (1, false), (2, false), (3, false), (4, false), (6, false)] (.act 5 (.act 7 (.actd 8 (lk [(9, false), (11, false), (12, false)] (.act 10 (.act 13 .fin .non) (.act 13 (.act 10 .fin .non) .non)))) .non) (.act 7 (.act 5 (.actd 8 (lk [(9, false), (11, false), (12, false)] (.act 10 (.act 13 .fin .non) (.act 13 (.act 10 .fin .non) .non)))) .non) .non))) T.mixed (hlist b3 0 _) (heldOK_blk x.tm.box) ?_
      simp (disch := omega) only [go_sem, ↓cw_block, dsB_of, id_eq]
      refine both_of ?_ ?_
      · simp (disch := omega) only [go_sem, ↓cw_block, dsB_of, id_eq]
        refine call_to (hE.expr x.pm hr2) ?_
        intro v H4 hv
        refine Hush.out ?_
        obtain ⟨q4, cp, rfl, t4⟩ := hv
        have x4 := x.step q4
        have t4' := t4.mono (S' := fun b => N < b ∧ b ≠ b3 ∧ b ∉ own (Value.slice al ((kindT 9 t)).2.len cl)) (by intro b hb _; have := x.tm.box.lt; have := x.tm.gt; (try simp only [Array.size_push] at hb); exact ⟨by omega, by omega, fun e => by have := x.tm.vec.lt b e; omega⟩)
        refine ⟨?_⟩
        refine held_by (heldOK_blk x4.tm.box) ?_
        simp (disch := omega) only [go_sem, ↓cw_block, dsB_of, id_eq]
        refine held_by (heldOK_blk (x4.grow Fr.push).tm.box) ?_
        simp (disch := omega) only [go_sem, ↓cw_block, dsB_of, id_eq]
        refine app_lit (n := 1) (new := z6) T.el70 rfl x4.tm.vec (one_all rfl) rfl (by intro a' l c e; simp only [Value.slice.injEq] at e; obtain ⟨_, rfl, _⟩ := e; omega) ?_
        intro v' K1 g1 g2 g3 g4
        obtain ⟨b, o, c, e1, ⟨K2, h1, h2, h3, h4⟩, w1, K3, h5, h6, h7⟩ := TM.app1 x4.tm t4' g1 g2 g3
        subst e1
        have ow' : ∀ y ∈ own (Value.slice (some ⟨b, o, none⟩) (((kindT 9 t)).2.len + 1) c), N < y := fun y hy => (g3 y hy).elim (fun h => (x4.tm.ow y h).1) (fun h => by have := x4.tm.box.lt; have := x4.tm.gt; omega)
        simp (disch := omega) only [go_sem, ↓cw_block, dsB_of, id_eq]
        refine both_of ?_ ?_
        · simp (disch := omega) only [go_sem, ↓cw_block, dsB_of, id_eq, h1, h2]
          exact fin ⟨_, _, x4.over (t' := addT (kindT 9 t) r2.1) ((g2.cat h4).cat (Fr.set (a := ⟨b3, 5, none⟩) (F := [b3]) (by simp))) (by intro y hy; simp only [List.mem_append, List.mem_singleton] at hy; rcases hy with (hy | hy) | hy; exact (x4.tm.ow y hy).1; exact ow' y hy; rw [hy]; exact x4.tm.gt) h3, by simp (disch := omega) only [go_sem, ↓cw_block, dsB_of, id_eq]⟩
        · simp (disch := omega) only [go_sem, ↓cw_block, dsB_of, id_eq, w1, h5]
          exact fin ⟨_, _, x4.over (t' := addT (kindT 9 t) r2.1) ((g2.cat (Fr.set (a := ⟨b3, 5, none⟩) (F := [b3]) (by simp))).cat h7) (by intro y hy; simp only [List.mem_append, List.mem_singleton] at hy; rcases hy with (hy | hy) | hy; exact (x4.tm.ow y hy).1; rw [hy]; exact x4.tm.gt; exact ow' y hy) h6, by simp (disch := omega) only [go_sem, ↓cw_block, dsB_of, id_eq]⟩
      · have x3 := x.grow (Fr.push (o := .cells #[iv 0, noS, noS, noS, iv 0, noS] 72))
        simp (disch := omega) only [go_sem, ↓cw_block, dsB_of, id_eq]
        refine held_by (heldOK_blk x3.tm.box) ?_
        simp (disch := omega) only [go_sem, ↓cw_block, dsB_of, id_eq]
        refine call_to (hE.expr x3.pm hr2) ?_
        intro v H4 hv
        refine Hush.out ?_
        obtain ⟨q4, cp, rfl, t4⟩ := hv
        have x4 := x3.step q4
        have hxb : Blk H4 _ 72 z6 := q4.1.blk (Blk.new rfl) (by have := x.pm.lt; simp; omega)
        have t4' := t4.mono (S' := fun b => N < b ∧ b ≠ b3 ∧ b ∉ own (Value.slice al ((kindT 9 t)).2.len cl)) (by intro b hb _; have := x.tm.box.lt; have := x.tm.gt; (try simp only [Array.size_push] at hb); exact ⟨by omega, by omega, fun e => by have := x.tm.vec.lt b e; omega⟩)
        refine ⟨?_⟩
        refine held_by (heldOK_blk x4.tm.box) ?_
        simp (disch := omega) only [go_sem, ↓cw_block, dsB_of, id_eq]
        refine app_src (new := z6) T.el70 rfl x4.tm.vec hxb (one_all rfl) rfl (by intro a' l c e; simp only [Value.slice.injEq] at e; obtain ⟨_, rfl, _⟩ := e; omega) ?_
        intro v' K1 g1 g2 g3 g4
        obtain ⟨b, o, c, e1, ⟨K2, h1, h2, h3, h4⟩, w1, K3, h5, h6, h7⟩ := TM.app1 x4.tm t4' g1 g2 g3
        subst e1
        have ow' : ∀ y ∈ own (Value.slice (some ⟨b, o, none⟩) (((kindT 9 t)).2.len + 1) c), N < y := fun y hy => (g3 y hy).elim (fun h => (x4.tm.ow y h).1) (fun h => by have := x4.tm.box.lt; have := x4.tm.gt; omega)
        simp (disch := omega) only [go_sem, ↓cw_block, dsB_of, id_eq]
        refine both_of ?_ ?_
        · simp (disch := omega) only [go_sem, ↓cw_block, dsB_of, id_eq, h1, h2]
          exact fin ⟨_, _, x4.over (t' := addT (kindT 9 t) r2.1) ((g2.cat h4).cat (Fr.set (a := ⟨b3, 5, none⟩) (F := [b3]) (by simp))) (by intro y hy; simp only [List.mem_append, List.mem_singleton] at hy; rcases hy with (hy | hy) | hy; exact (x4.tm.ow y hy).1; exact ow' y hy; rw [hy]; exact x4.tm.gt) h3, by simp (disch := omega) only [go_sem, ↓cw_block, dsB_of, id_eq]⟩
        · simp (disch := omega) only [go_sem, ↓cw_block, dsB_of, id_eq, w1, h5]
          exact fin ⟨_, _, x4.over (t' := addT (kindT 9 t) r2.1) ((g2.cat (Fr.set (a := ⟨b3, 5, none⟩) (F := [b3]) (by simp))).cat h7) (by intro y hy; simp only [List.mem_append, List.mem_singleton] at hy; rcases hy with (hy | hy) | hy; exact (x4.tm.ow y hy).1; rw [hy]; exact x4.tm.gt; exact ow' y hy) h6, by simp (disch := omega) only [go_sem, ↓cw_block, dsB_of, id_eq]⟩
    · rintro ρ H5 ⟨lv', ds', x5, r0, r1, rd⟩
      simp (disch := omega) only [go_sem, ↓cw_block, dsB_of, r0, r1, rd]
      refine call_to (pMust_spec hW x5.pm) ?_
      intro v H6 hv
      refine Hush.out ?_
      have x6 := x5.step hv
      refine ⟨?_⟩
      simp (disch := omega) only [go_sem, ↓cw_block, dsB_of, r0, r1, rd]
      exact fin ⟨x6.fr, x6.pm, _, _, _, _, _, x6.tm⟩
  have ht : takeM L [119, 104, 101, 110] s = (false, s) := by simp [takeM, qw]
  rw [ht] at q3
  rw [qw] at hm
  simp only [Bool.false_eq_true, if_false] at hm
  obtain ⟨r2, hr2, hm⟩ := Option.bind_eq_some_iff.1 hm
  have x := x.step q3
  refine ⟨?_⟩
  simp (disch := omega) only [go_sem, ↓cw_block, dsB_of, ht]
  refine call_to (pMust_spec hW x.pm) ?_
  intro v H4 hv
  refine Hush.out ?_
  have x := x.step hv
  obtain ⟨w0, x⟩ := x.kind 10
  have hlen0 : (kindT 10 t).2.len = 0 := by show t.2.len = 0; rw [hnil]; rfl
  refine ⟨?_⟩
  simp (disch := omega) only [go_sem, ↓cw_block, dsB_of, w0]
  obtain ⟨wv, lv, ds, x⟩ : ∃ wv lv ds, XN H _ p tv L N b3 wv nv kv lv ds _ _ := ⟨_, _, _, x⟩
  refine draw_cut (fun ρ' H' => ∃ lv' ds', XN H H' p tv L N b3 wv nv kv lv' ds' (addT (kindT 10 t) r2.1) r2.2 ∧ ρ'.get 0 = hp p ∧ ρ'.get 1 = hp b3 ∧ ρ'.ds = []) ?_ ?_
  · obtain ⟨al, cl, elv, hdl⟩ := x.tm.len
    obtain ⟨f1, f2, f3, f4, f5, f6, f7, f8, f9, ew, en, ek⟩ := x.tm.forms
    have hfew := hlen0
    subst ew en ek elv
    refine draw1 (lk [(0, false), (1, false), (2, false), (3, false), (4, false), (6, false)] (.act 5 (.act 7 (.actd 8 (lk [(9, false), (11, false), (12, false)] (.act 10 (.act 13 .fin .non) (.act 13 (.act 10 .fin .non) .non)))) .non) (.act 7 (.act 5 (.actd 8 (lk [(9, false), (11, false), (12, false)] (.act 10 (.act 13 .fin .non) (.act 13 (.act 10 .fin .non) .non)))) .non) .non))) T.mixed (hlist b3 0 _) (heldOK_blk x.tm.box) ?_
    simp (disch := omega) only [go_sem, ↓cw_block, dsB_of, id_eq]
    refine both_of ?_ ?_
    · simp (disch := omega) only [go_sem, ↓cw_block, dsB_of, id_eq]
      refine call_to ((IH n (by omega)).block x.pm hr2) ?_
      intro v H4 hv
      refine Hush.out ?_
      obtain ⟨q4, cp, rfl, t4⟩ := hv
      have x4 := x.step q4
      have t4' := t4.mono (S' := fun b => N < b ∧ b ≠ b3 ∧ b ∉ own (Value.slice al ((kindT 10 t)).2.len cl)) (by intro b hb _; have := x.tm.box.lt; have := x.tm.gt; (try simp only [Array.size_push] at hb); exact ⟨by omega, by omega, fun e => by have := x.tm.vec.lt b e; omega⟩)
      refine ⟨?_⟩
      refine held_by (heldOK_blk x4.tm.box) ?_
      simp (disch := omega) only [go_sem, ↓cw_block, dsB_of, id_eq]
      refine held_by (heldOK_blk (x4.grow Fr.push).tm.box) ?_
      simp (disch := omega) only [go_sem, ↓cw_block, dsB_of, id_eq]
      refine app_lit (n := 1) (new := z6) T.el70 rfl x4.tm.vec (one_all rfl) rfl (by intro a' l c e; simp only [Value.slice.injEq] at e; obtain ⟨_, rfl, _⟩ := e; omega) ?_
      intro v' K1 g1 g2 g3 g4
      obtain ⟨b, o, c, e1, ⟨K2, h1, h2, h3, h4⟩, w1, K3, h5, h6, h7⟩ := TM.app1 x4.tm t4' g1 g2 g3
      subst e1
      have ow' : ∀ y ∈ own (Value.slice (some ⟨b, o, none⟩) (((kindT 10 t)).2.len + 1) c), N < y := fun y hy => (g3 y hy).elim (fun h => (x4.tm.ow y h).1) (fun h => by have := x4.tm.box.lt; have := x4.tm.gt; omega)
      simp (disch := omega) only [go_sem, ↓cw_block, dsB_of, id_eq]
      refine both_of ?_ ?_
      · simp (disch := omega) only [go_sem, ↓cw_block, dsB_of, id_eq, h1, h2]
        exact fin ⟨_, _, x4.over (t' := addT (kindT 10 t) r2.1) ((g2.cat h4).cat (Fr.set (a := ⟨b3, 5, none⟩) (F := [b3]) (by simp))) (by intro y hy; simp only [List.mem_append, List.mem_singleton] at hy; rcases hy with (hy | hy) | hy; exact (x4.tm.ow y hy).1; exact ow' y hy; rw [hy]; exact x4.tm.gt) h3, by simp (disch := omega) only [go_sem, ↓cw_block, dsB_of, id_eq]⟩
      · simp (disch := omega) only [go_sem, ↓cw_block, dsB_of, id_eq, w1, h5]
        exact fin ⟨_, _, x4.over (t' := addT (kindT 10 t) r2.1) ((g2.cat (Fr.set (a := ⟨b3, 5, none⟩) (F := [b3]) (by simp))).cat h7) (by intro y hy; simp only [List.mem_append, List.mem_singleton] at hy; rcases hy with (hy | hy) | hy; exact (x4.tm.ow y hy).1; rw [hy]; exact x4.tm.gt; exact ow' y hy) h6, by simp (disch := omega) only [go_sem, ↓cw_block, dsB_of, id_eq]⟩
    · have x3 := x.grow (Fr.push (o := .cells #[iv 0, noS, noS, noS, iv 0, noS] 72))
      simp (disch := omega) only [go_sem, ↓cw_block, dsB_of, id_eq]
      refine held_by (heldOK_blk x3.tm.box) ?_
      simp (disch := omega) only [go_sem, ↓cw_block, dsB_of, id_eq]
      refine call_to ((IH n (by omega)).block x3.pm hr2) ?_
      intro v H4 hv
      refine Hush.out ?_
      obtain ⟨q4, cp, rfl, t4⟩ := hv
      have x4 := x3.step q4
      have hxb : Blk H4 _ 72 z6 := q4.1.blk (Blk.new rfl) (by have := x.pm.lt; simp; omega)
      have t4' := t4.mono (S' := fun b => N < b ∧ b ≠ b3 ∧ b ∉ own (Value.slice al ((kindT 10 t)).2.len cl)) (by intro b hb _; have := x.tm.box.lt; have := x.tm.gt; (try simp only [Array.size_push] at hb); exact ⟨by omega, by omega, fun e => by have := x.tm.vec.lt b e; omega⟩)
      refine ⟨?_⟩
      refine held_by (heldOK_blk x4.tm.box) ?_
      simp (disch := omega) only [go_sem, ↓cw_block, dsB_of, id_eq]
      refine app_src (new := z6) T.el70 rfl x4.tm.vec hxb (one_all rfl) rfl (by intro a' l c e; simp only [Value.slice.injEq] at e; obtain ⟨_, rfl, _⟩ := e; omega) ?_
      intro v' K1 g1 g2 g3 g4
      obtain ⟨b, o, c, e1, ⟨K2, h1, h2, h3, h4⟩, w1, K3, h5, h6, h7⟩ := TM.app1 x4.tm t4' g1 g2 g3
      subst e1
      have ow' : ∀ y ∈ own (Value.slice (some ⟨b, o, none⟩) (((kindT 10 t)).2.len + 1) c), N < y := fun y hy => (g3 y hy).elim (fun h => (x4.tm.ow y h).1) (fun h => by have := x4.tm.box.lt; have := x4.tm.gt; omega)
      simp (disch := omega) only [go_sem, ↓cw_block, dsB_of, id_eq]
      refine both_of ?_ ?_
      · simp (disch := omega) only [go_sem, ↓cw_block, dsB_of, id_eq, h1, h2]
        exact fin ⟨_, _, x4.over (t' := addT (kindT 10 t) r2.1) ((g2.cat h4).cat (Fr.set (a := ⟨b3, 5, none⟩) (F := [b3]) (by simp))) (by intro y hy; simp only [List.mem_append, List.mem_singleton] at hy; rcases hy with (hy | hy) | hy; exact (x4.tm.ow y hy).1; exact ow' y hy; rw [hy]; exact x4.tm.gt) h3, by simp (disch := omega) only [go_sem, ↓cw_block, dsB_of, id_eq]⟩
      · simp (disch := omega) only [go_sem, ↓cw_block, dsB_of, id_eq, w1, h5]
        exact fin ⟨_, _, x4.over (t' := addT (kindT 10 t) r2.1) ((g2.cat (Fr.set (a := ⟨b3, 5, none⟩) (F := [b3]) (by simp))).cat h7) (by intro y hy; simp only [List.mem_append, List.mem_singleton] at hy; rcases hy with (hy | hy) | hy; exact (x4.tm.ow y hy).1; rw [hy]; exact x4.tm.gt; exact ow' y hy) h6, by simp (disch := omega) only [go_sem, ↓cw_block, dsB_of, id_eq]⟩
  · rintro ρ H5 ⟨lv', ds', x5, r0, r1, rd⟩
    simp (disch := omega) only [go_sem, ↓cw_block, dsB_of, r0, r1, rd]
    refine loop_by (fun k ρ H2 => ∃ t s1 lv ds, runS L k (.orB t) s1 = some r ∧ k ≤ n ∧ XN H H2 p tv L N b3 wv nv kv lv ds t s1 ∧ (ρ.get 0 = hp p ∧ ρ.get 1 = hp b3 ∧ ρ.ds = [])) (k := n) ?_ ?_
    · exact ⟨_, _, _, _, hm, Nat.le_refl _, x5, r0, r1, rd⟩
    · clear x5 hm hlen0 x w0 hv r0 r1 rd
      rintro k ρ H2 ⟨t, s1, lv, ds, hk, hkn, x, r0, r1, rd⟩
      cases k with
      | zero => simp [runS] at hk
      | succ k =>
      change (if seesM L [111, 114] s1 then (if few t then (runS L k .block (upM s1)).bind fun r => runS L k (.orB (addT t r.1)) r.2 else none) else some (t, s1)) = some r at hk
      simp (disch := omega) only [go_sem, ↓cw_block, dsB_of, r0, r1, rd]
      refine call_to (pTake_spec hW x.pm) ?_
      intro v H3 hv
      refine Hush.out ?_
      obtain ⟨q3, rfl⟩ := hv
      cases qs : seesM L [111, 114] s1
      · have ht : takeM L [111, 114] s1 = (false, s1) := by simp [takeM, qs]
        rw [ht] at q3
        rw [qs] at hk
        simp only [Bool.false_eq_true, if_false, Option.some.injEq] at hk
        subst hk
        have x := x.step q3
        refine ⟨?_⟩
        simp (disch := omega) only [go_sem, ↓cw_block, dsB_of, ht, r0, r1, rd]
        exact fin ⟨x.fr, x.pm, _, _, _, _, _, x.tm⟩
      · have ht : takeM L [111, 114] s1 = (true, upM s1) := by simp [takeM, qs]
        rw [ht] at q3
        rw [qs] at hk
        simp only [if_true] at hk
        cases qf : few t
        · rw [qf] at hk; simp at hk
        rw [qf] at hk
        simp only [if_true] at hk
        obtain ⟨r2, hr2, hk⟩ := Option.bind_eq_some_iff.1 hk
        have x := x.step q3
        refine ⟨?_⟩
        simp (disch := omega) only [go_sem, ↓cw_block, dsB_of, ht, r0, r1, rd]
        refine draw_last (fun ρ' H' => ∃ lv' ds', XN H H' p tv L N b3 wv nv kv lv' ds' (addT t r2.1) r2.2 ∧ ρ'.get 0 = hp p ∧ ρ'.get 1 = hp b3 ∧ ρ'.ds = []) ?_ ?_
        · obtain ⟨al, cl, elv, hdl⟩ := x.tm.len
          obtain ⟨f1, f2, f3, f4, f5, f6, f7, f8, f9, ew, en, ek⟩ := x.tm.forms
          have hfew : t.2.len < 1000000 := by simpa [few] using qf
          subst ew en ek elv
          refine draw1 (lk [(0, false), (1, false), (2, false), (3, false), (4, false), (6, false)] (.act 5 (.act 7 (.actd 8 (lk [(9, false), (11, false), (12, false)] (.act 10 (.act 13 .fin .non) (.act 13 (.act 10 .fin .non) .non)))) .non) (.act 7 (.act 5 (.actd 8 (lk [(9, false), (11, false), (12, false)] (.act 10 (.act 13 .fin .non) (.act 13 (.act 10 .fin .non) .non)))) .non) .non))) T.mixed (hlist b3 0 _) (heldOK_blk x.tm.box) ?_
          simp (disch := omega) only [go_sem, ↓cw_block, dsB_of, r0, r1, rd]
          refine both_of ?_ ?_
          · simp (disch := omega) only [go_sem, ↓cw_block, dsB_of, r0, r1, rd]
            refine call_to ((IH k (by omega)).block x.pm hr2) ?_
            intro v H4 hv
            refine Hush.out ?_
            obtain ⟨q4, cp, rfl, t4⟩ := hv
            have x4 := x.step q4
            have t4' := t4.mono (S' := fun b => N < b ∧ b ≠ b3 ∧ b ∉ own (Value.slice al (t).2.len cl)) (by intro b hb _; have := x.tm.box.lt; have := x.tm.gt; (try simp only [Array.size_push] at hb); exact ⟨by omega, by omega, fun e => by have := x.tm.vec.lt b e; omega⟩)
            refine ⟨?_⟩
            refine held_by (heldOK_blk x4.tm.box) ?_
            simp (disch := omega) only [go_sem, ↓cw_block, dsB_of, r0, r1, rd]
            refine held_by (heldOK_blk (x4.grow Fr.push).tm.box) ?_
            simp (disch := omega) only [go_sem, ↓cw_block, dsB_of, r0, r1, rd]
            refine app_lit (n := 1) (new := z6) T.el70 rfl x4.tm.vec (one_all rfl) rfl (by intro a' l c e; simp only [Value.slice.injEq] at e; obtain ⟨_, rfl, _⟩ := e; omega) ?_
            intro v' K1 g1 g2 g3 g4
            obtain ⟨b, o, c, e1, ⟨K2, h1, h2, h3, h4⟩, w1, K3, h5, h6, h7⟩ := TM.app1 x4.tm t4' g1 g2 g3
            subst e1
            have ow' : ∀ y ∈ own (Value.slice (some ⟨b, o, none⟩) ((t).2.len + 1) c), N < y := fun y hy => (g3 y hy).elim (fun h => (x4.tm.ow y h).1) (fun h => by have := x4.tm.box.lt; have := x4.tm.gt; omega)
            simp (disch := omega) only [go_sem, ↓cw_block, dsB_of, r0, r1, rd]
            refine both_of ?_ ?_
            · simp (disch := omega) only [go_sem, ↓cw_block, dsB_of, r0, r1, rd, h1, h2]
              exact fin ⟨_, _, x4.over (t' := addT t r2.1) ((g2.cat h4).cat (Fr.set (a := ⟨b3, 5, none⟩) (F := [b3]) (by simp))) (by intro y hy; simp only [List.mem_append, List.mem_singleton] at hy; rcases hy with (hy | hy) | hy; exact (x4.tm.ow y hy).1; exact ow' y hy; rw [hy]; exact x4.tm.gt) h3, by simp (disch := omega) only [go_sem, ↓cw_block, dsB_of, r0, r1, rd]⟩
            · simp (disch := omega) only [go_sem, ↓cw_block, dsB_of, r0, r1, rd, w1, h5]
              exact fin ⟨_, _, x4.over (t' := addT t r2.1) ((g2.cat (Fr.set (a := ⟨b3, 5, none⟩) (F := [b3]) (by simp))).cat h7) (by intro y hy; simp only [List.mem_append, List.mem_singleton] at hy; rcases hy with (hy | hy) | hy; exact (x4.tm.ow y hy).1; rw [hy]; exact x4.tm.gt; exact ow' y hy) h6, by simp (disch := omega) only [go_sem, ↓cw_block, dsB_of, r0, r1, rd]⟩
          · have x3 := x.grow (Fr.push (o := .cells #[iv 0, noS, noS, noS, iv 0, noS] 72))
            simp (disch := omega) only [go_sem, ↓cw_block, dsB_of, r0, r1, rd]
            refine held_by (heldOK_blk x3.tm.box) ?_
            simp (disch := omega) only [go_sem, ↓cw_block, dsB_of, r0, r1, rd]
            refine call_to ((IH k (by omega)).block x3.pm hr2) ?_
            intro v H4 hv
            refine Hush.out ?_
            obtain ⟨q4, cp, rfl, t4⟩ := hv
            have x4 := x3.step q4
            have hxb : Blk H4 _ 72 z6 := q4.1.blk (Blk.new rfl) (by have := x.pm.lt; simp; omega)
            have t4' := t4.mono (S' := fun b => N < b ∧ b ≠ b3 ∧ b ∉ own (Value.slice al (t).2.len cl)) (by intro b hb _; have := x.tm.box.lt; have := x.tm.gt; (try simp only [Array.size_push] at hb); exact ⟨by omega, by omega, fun e => by have := x.tm.vec.lt b e; omega⟩)
            refine ⟨?_⟩
            refine held_by (heldOK_blk x4.tm.box) ?_
            simp (disch := omega) only [go_sem, ↓cw_block, dsB_of, r0, r1, rd]
            refine app_src (new := z6) T.el70 rfl x4.tm.vec hxb (one_all rfl) rfl (by intro a' l c e; simp only [Value.slice.injEq] at e; obtain ⟨_, rfl, _⟩ := e; omega) ?_
            intro v' K1 g1 g2 g3 g4
            obtain ⟨b, o, c, e1, ⟨K2, h1, h2, h3, h4⟩, w1, K3, h5, h6, h7⟩ := TM.app1 x4.tm t4' g1 g2 g3
            subst e1
            have ow' : ∀ y ∈ own (Value.slice (some ⟨b, o, none⟩) ((t).2.len + 1) c), N < y := fun y hy => (g3 y hy).elim (fun h => (x4.tm.ow y h).1) (fun h => by have := x4.tm.box.lt; have := x4.tm.gt; omega)
            simp (disch := omega) only [go_sem, ↓cw_block, dsB_of, r0, r1, rd]
            refine both_of ?_ ?_
            · simp (disch := omega) only [go_sem, ↓cw_block, dsB_of, r0, r1, rd, h1, h2]
              exact fin ⟨_, _, x4.over (t' := addT t r2.1) ((g2.cat h4).cat (Fr.set (a := ⟨b3, 5, none⟩) (F := [b3]) (by simp))) (by intro y hy; simp only [List.mem_append, List.mem_singleton] at hy; rcases hy with (hy | hy) | hy; exact (x4.tm.ow y hy).1; exact ow' y hy; rw [hy]; exact x4.tm.gt) h3, by simp (disch := omega) only [go_sem, ↓cw_block, dsB_of, r0, r1, rd]⟩
            · simp (disch := omega) only [go_sem, ↓cw_block, dsB_of, r0, r1, rd, w1, h5]
              exact fin ⟨_, _, x4.over (t' := addT t r2.1) ((g2.cat (Fr.set (a := ⟨b3, 5, none⟩) (F := [b3]) (by simp))).cat h7) (by intro y hy; simp only [List.mem_append, List.mem_singleton] at hy; rcases hy with (hy | hy) | hy; exact (x4.tm.ow y hy).1; rw [hy]; exact x4.tm.gt; exact ow' y hy) h6, by simp (disch := omega) only [go_sem, ↓cw_block, dsB_of, r0, r1, rd]⟩
        · rintro ρ' H5 ⟨lv', ds', x5, r0, r1, rd⟩
          simp (disch := omega) only [go_sem, ↓cw_block, dsB_of]
          exact fin ⟨k, by omega, _, _, _, _, hk, by omega, x5, r0, r1, rd⟩
end Go.Proofs.YtpkfgoemhcgpdaaGreatDoor

