/- The document's parser: every statement; a variable. -/
import Derived.Test.YtpkfgoemhcgpdaaGreatDoorL14
namespace Go.Proofs.YtpkfgoemhcgpdaaGreatDoor
open Go.HL
set_option maxRecDepth 10000
set_option linter.unusedSimpArgs false
set_option linter.unusedVariables false

theorem specS {L : List Tok} (hW : TW L) : ∀ n, SpecS L (runS L n) := by
  intro n
  induction n using Nat.strongRecOn with
  | _ n IH =>
    cases n with
    | zero =>
      refine ⟨?_, ?_, ?_, ?_⟩
      · intro H p tv s r _ h; simp [runS] at h
      · intro H p tv s r _ h; simp [runS] at h
      · intro H p tv s t r N b _ _ _ h; simp [runS] at h
      · intro H p tv s t r N b nv kv _ _ _ _ _ h; simp [runS] at h
    | succ n => exact ⟨pStat_step hW IH, pBlock_step hW IH, pStats_step hW IH, pWaits_step hW IH⟩
theorem valM_fold : ∀ (l : Str) (a : Int) (n : Nat), l.all digitM = true → 0 ≤ a → a + 1 ≤ 10 ^ n → 0 ≤ l.foldl (fun n c => 10 * n + ((c.toNat : Int) - 48)) a ∧ l.foldl (fun n c => 10 * n + ((c.toNat : Int) - 48)) a + 1 ≤ 10 ^ (n + l.length)
  | [], a, n, _, h1, h2 => by simpa using ⟨h1, h2⟩
  | c :: l, a, n, h, h1, h2 => by
    simp only [List.all_cons, Bool.and_eq_true] at h
    have hd := h.1
    unfold digitM at hd
    simp only [decide_eq_true_eq] at hd
    have := valM_fold l (10 * a + ((c.toNat : Int) - 48)) (n + 1) h.2 (by omega) (by rw [Int.pow_succ]; generalize (10 : Int) ^ n = z at *; omega)
    rw [List.foldl_cons, List.length_cons]
    have e : n + (l.length + 1) = n + 1 + l.length := by omega
    rw [e]; exact this
theorem pnum_range {L : List Tok} {s : PS} {H : Heap} {p : Nat} {tv : Value} (hW : TW L) (h : PM H p tv L s) : 0 ≤ (pnumM L s).1 ∧ (pnumM L s).1 ≤ 999999 := by
  unfold pnumM
  cases q : isNum L s
  · simp
  · simp only [if_true]
    unfold isNum at q
    simp only [Bool.and_eq_true, decide_eq_true_eq] at q
    obtain ⟨h1, h2⟩ := hW.num s.pos _ h.tk q.1
    have := valM_fold (tkM L s).s 0 0 h2 (by omega) (by simp)
    have e : (10 : Int) ^ (0 + (tkM L s).s.length) ≤ 10 ^ 6 := by
      have : ∀ i : Nat, i ≤ 6 → (10 : Int) ^ (0 + i) ≤ 10 ^ 6 := by decide
      exact this _ h1
    have e6 : (10 : Int) ^ 6 = 1000000 := by decide
    unfold valM
    omega
def varM (L : List Tok) (s : PS) : TT × PS :=
  let s1 := mustM L [118, 97, 114] s
  let s3 := mustM L [111, 102] (pnameM L s1).2
  let s4 := (pnumM L s3).2
  let v : Int × PS := if seesM L [61] s4 then (if seesM L [45] (upM s4) then (-(pnumM L (upM (upM s4))).1, (pnumM L (upM (upM s4))).2) else pnumM L (upM s4)) else (0, s4)
  (({ beginM L 2 s with words := [(pnameM L s1).1], nums := [(pnumM L s3).1, v.1] }, .nil), mustM L [59] v.2)
set_option maxHeartbeats 4000000 in
theorem pVariable_spec {L : List Tok} {H : Heap} {p : Nat} {tv : Value} {s : PS} (hW : TW L) (h : PM H p tv L s) : CallF Tryz.prog 54 [hp p] H (ExpQ H p tv L (varM L s)) NoP := by
  obtain ⟨G, hG⟩ : ∃ G, G = H.push (.cells #[iv 0, noS, noS, noS, iv 0, noS] 72) := ⟨_, rfl⟩
  have f0 : Fr [] H G := by rw [hG]; exact Fr.push
  have h0 := h.grow f0
  refine callF_of Tryz.func54 rfl Tryz.ntmps54 Tryz.results54 (by decide) rfl ?_
  simp (disch := omega) only [go_sem, ↓cw_block, dsB_of]
  rw [← hG]
  refine call_to (pBegin_spec h0) ?_
  intro v H1 hv
  refine Hush.out ?_
  obtain ⟨f1, rfl⟩ := hv
  obtain ⟨G1, hG1⟩ : ∃ G, G = H1.push (.cells #[iv 2, noS, noS, noS, iv (tkM L s).pos, noS] 72) := ⟨_, rfl⟩
  have x := XN.new2 (n := beginM L 2 s) h hG f1 hG1 ⟨rfl, rfl, rfl⟩
  have hlow := h.lt
  refine ⟨?_⟩
  simp (disch := omega) only [go_sem, ↓cw_block, dsB_of, nd0, beginM]
  rw [← hG1]
  refine call_to (pMust_spec hW x.pm) ?_
  intro v HM hv
  refine Hush.out ?_
  have x := x.step hv
  refine ⟨?_⟩
  simp (disch := omega) only [go_sem, ↓cw_block, dsB_of]
  refine Hush.out ?_
  have g := GX.start 9 x
  refine ⟨?_⟩
  refine draw1 (lk [(0, false), (1, false), (2, false), (3, true)] (.act 4 (.act 5 (.actd 6 (lk [(7, true), (8, true)] (.actd 9 .fin))) .non) .non)) T.mixed (hlist H1.size 0 _) (heldOK_blk g.box) ?_
  simp (disch := omega) only [go_sem, ↓cw_block, dsB_of, id_eq]
  refine call_to (pName_spec hW g.pm) ?_
  intro v HN hv
  refine Hush.out ?_
  obtain ⟨qq, rfl⟩ := hv
  have g := g.step qq
  refine ⟨?_⟩
  refine held_by (heldOK_blk g.box) ?_
  simp (disch := omega) only [go_sem, ↓cw_block, dsB_of, id_eq]
  refine held_by (heldOK_blk (g.grow Fr.push).box) ?_
  simp (disch := omega) only [go_sem, ↓cw_block, dsB_of, id_eq]
  refine app_lit1 T.el66 rfl g.vec rfl (by simp) ?_
  intro v' HZ g1 g2 g3 g4
  refine Hush.out ?_
  obtain ⟨a1, c1, hv'⟩ := g4
  have hv' : v' = .slice a1 1 c1 := hv'
  subst hv'
  have g := g.app g1 g2 g3
  refine ⟨?_⟩
  first | refine held_by (heldOK_blk g.box) ?_ | skip
  refine Hush.out ?_
  obtain ⟨w5, g⟩ := g.set 1 (.slice a1 1 c1) (by simp)
  have g : GX _ _ p tv L _ H1.size _ [iv 2, .slice a1 1 c1, noS, noS, iv (tkM L s).pos, noS] _ _ _ := g
  refine ⟨?_⟩
  simp (disch := omega) only [go_sem, ↓cw_block, dsB_of, id_eq, w5]
  have x := g.words (k := 2) (us := [_]) x rfl rfl
  refine call_to (pMust_spec hW x.pm) ?_
  intro v HM hv
  refine Hush.out ?_
  have x := x.step hv
  refine ⟨?_⟩
  simp (disch := omega) only [go_sem, ↓cw_block, dsB_of]
  have hrg := pnum_range hW x.pm
  refine call_to (pNum_spec hW x.pm) ?_
  intro v HU hv
  refine Hush.out ?_
  obtain ⟨qq, rfl⟩ := hv
  have x := x.step qq
  refine ⟨?_⟩
  simp (disch := omega) only [go_sem, ↓cw_block, dsB_of]
  refine call_to (pTake_spec hW x.pm) ?_
  intro v HT hv
  refine Hush.out ?_
  obtain ⟨qq, rfl⟩ := hv
  cases q4 : seesM L [61] (pnumM L (mustM L [111, 102] (pnameM L (mustM L [118, 97, 114] s)).2)).2
  rotate_left
  · have ht : takeM L [61] (pnumM L (mustM L [111, 102] (pnameM L (mustM L [118, 97, 114] s)).2)).2 = (true, upM (pnumM L (mustM L [111, 102] (pnameM L (mustM L [118, 97, 114] s)).2)).2) := by simp [takeM, q4]
    rw [ht] at qq
    change PP _ p tv L (upM (pnumM L (mustM L [111, 102] (pnameM L (mustM L [118, 97, 114] s)).2)).2) _ at qq
    have x := x.step qq
    refine ⟨?_⟩
    simp (disch := omega) only [go_sem, ↓cw_block, dsB_of, ht]
    refine call_to (pTake_spec hW x.pm) ?_
    intro v HY hv
    refine Hush.out ?_
    obtain ⟨qq, rfl⟩ := hv
    cases q5 : seesM L [45] (upM (pnumM L (mustM L [111, 102] (pnameM L (mustM L [118, 97, 114] s)).2)).2)
    rotate_left
    · have ht : takeM L [45] (upM (pnumM L (mustM L [111, 102] (pnameM L (mustM L [118, 97, 114] s)).2)).2) = (true, upM (upM (pnumM L (mustM L [111, 102] (pnameM L (mustM L [118, 97, 114] s)).2)).2)) := by simp [takeM, q5]
      rw [ht] at qq
      change PP _ p tv L (upM (upM (pnumM L (mustM L [111, 102] (pnameM L (mustM L [118, 97, 114] s)).2)).2)) _ at qq
      have x := x.step qq
      refine ⟨?_⟩
      simp (disch := omega) only [go_sem, ↓cw_block, dsB_of, ht]
      have hrg := pnum_range hW x.pm
      refine call_to (pNum_spec hW x.pm) ?_
      intro v HU hv
      refine Hush.out ?_
      obtain ⟨qq, rfl⟩ := hv
      have x := x.step qq
      have hng : IntKind.i64.wrap (-(pnumM L (upM (upM (pnumM L (mustM L [111, 102] (pnameM L (mustM L [118, 97, 114] s)).2)).2))).1) = -(pnumM L (upM (upM (pnumM L (mustM L [111, 102] (pnameM L (mustM L [118, 97, 114] s)).2)).2))).1 := IntWalk.i64_in _ (by omega)
      have hun : unV .neg (iv (pnumM L (upM (upM (pnumM L (mustM L [111, 102] (pnameM L (mustM L [118, 97, 114] s)).2)).2))).1) = some (iv (-(pnumM L (upM (upM (pnumM L (mustM L [111, 102] (pnameM L (mustM L [118, 97, 114] s)).2)).2))).1)) := by simp [unV, hng]
      obtain ⟨w1, x⟩ := x.lits [(pnumM L (mustM L [111, 102] (pnameM L (mustM L [118, 97, 114] s)).2)).1, -(pnumM L (upM (upM (pnumM L (mustM L [111, 102] (pnameM L (mustM L [118, 97, 114] s)).2)).2))).1] 2 rfl
      simp only [List.map_cons, List.map_nil] at w1
      refine ⟨?_⟩
      simp (disch := omega) only [go_sem, ↓cw_block, dsB_of, ht, hun]
      simp (disch := omega) only [go_sem, ↓cw_block, dsB_of, w1]
      refine call_to (pMust_spec hW x.pm) ?_
      intro v HM hv
      refine Hush.out ?_
      have x := x.step hv
      have hr : varM L s = ((({ beginM L 2 s with words := [(pnameM L (mustM L [118, 97, 114] s)).1], nums := [(pnumM L (mustM L [111, 102] (pnameM L (mustM L [118, 97, 114] s)).2)).1, -(pnumM L (upM (upM (pnumM L (mustM L [111, 102] (pnameM L (mustM L [118, 97, 114] s)).2)).2))).1] }, Fo.nil) : TT), mustM L [59] (pnumM L (upM (upM (pnumM L (mustM L [111, 102] (pnameM L (mustM L [118, 97, 114] s)).2)).2))).2) := by unfold varM; simp only [q4, q5, Bool.false_eq_true, if_true, if_false]
      obtain ⟨ld, H6, e1, e2, e3⟩ := x.fin2 hG
      refine ⟨?_⟩
      simp (disch := omega) only [go_sem, ↓cw_block, dsB_of, id_eq, ld, e1, e2]
      exact fin (by rw [hr]; exact e3)
    have ht : takeM L [45] (upM (pnumM L (mustM L [111, 102] (pnameM L (mustM L [118, 97, 114] s)).2)).2) = (false, (upM (pnumM L (mustM L [111, 102] (pnameM L (mustM L [118, 97, 114] s)).2)).2)) := by simp [takeM, q5]
    rw [ht] at qq
    change PP _ p tv L (upM (pnumM L (mustM L [111, 102] (pnameM L (mustM L [118, 97, 114] s)).2)).2) _ at qq
    have x := x.step qq
    refine ⟨?_⟩
    simp (disch := omega) only [go_sem, ↓cw_block, dsB_of, ht]
    have hrg := pnum_range hW x.pm
    refine call_to (pNum_spec hW x.pm) ?_
    intro v HU hv
    refine Hush.out ?_
    obtain ⟨qq, rfl⟩ := hv
    have x := x.step qq
    obtain ⟨w1, x⟩ := x.lits [(pnumM L (mustM L [111, 102] (pnameM L (mustM L [118, 97, 114] s)).2)).1, (pnumM L (upM (pnumM L (mustM L [111, 102] (pnameM L (mustM L [118, 97, 114] s)).2)).2)).1] 2 rfl
    simp only [List.map_cons, List.map_nil] at w1
    refine ⟨?_⟩
    simp (disch := omega) only [go_sem, ↓cw_block, dsB_of, ht, id_eq]
    simp (disch := omega) only [go_sem, ↓cw_block, dsB_of, w1]
    refine call_to (pMust_spec hW x.pm) ?_
    intro v HM hv
    refine Hush.out ?_
    have x := x.step hv
    have hr : varM L s = ((({ beginM L 2 s with words := [(pnameM L (mustM L [118, 97, 114] s)).1], nums := [(pnumM L (mustM L [111, 102] (pnameM L (mustM L [118, 97, 114] s)).2)).1, (pnumM L (upM (pnumM L (mustM L [111, 102] (pnameM L (mustM L [118, 97, 114] s)).2)).2)).1] }, Fo.nil) : TT), mustM L [59] (pnumM L (upM (pnumM L (mustM L [111, 102] (pnameM L (mustM L [118, 97, 114] s)).2)).2)).2) := by unfold varM; simp only [q4, q5, Bool.false_eq_true, if_true, if_false]
    obtain ⟨ld, H6, e1, e2, e3⟩ := x.fin2 hG
    refine ⟨?_⟩
    simp (disch := omega) only [go_sem, ↓cw_block, dsB_of, id_eq, ld, e1, e2]
    exact fin (by rw [hr]; exact e3)
  have ht : takeM L [61] (pnumM L (mustM L [111, 102] (pnameM L (mustM L [118, 97, 114] s)).2)).2 = (false, (pnumM L (mustM L [111, 102] (pnameM L (mustM L [118, 97, 114] s)).2)).2) := by simp [takeM, q4]
  rw [ht] at qq
  change PP _ p tv L (pnumM L (mustM L [111, 102] (pnameM L (mustM L [118, 97, 114] s)).2)).2 _ at qq
  have x := x.step qq
  obtain ⟨w1, x⟩ := x.lits [(pnumM L (mustM L [111, 102] (pnameM L (mustM L [118, 97, 114] s)).2)).1, 0] 2 rfl
  simp only [List.map_cons, List.map_nil] at w1
  refine ⟨?_⟩
  simp (disch := omega) only [go_sem, ↓cw_block, dsB_of, ht, ht]
  simp (disch := omega) only [go_sem, ↓cw_block, dsB_of, w1]
  refine call_to (pMust_spec hW x.pm) ?_
  intro v HM hv
  refine Hush.out ?_
  have x := x.step hv
  have hr : varM L s = ((({ beginM L 2 s with words := [(pnameM L (mustM L [118, 97, 114] s)).1], nums := [(pnumM L (mustM L [111, 102] (pnameM L (mustM L [118, 97, 114] s)).2)).1, 0] }, Fo.nil) : TT), mustM L [59] (pnumM L (mustM L [111, 102] (pnameM L (mustM L [118, 97, 114] s)).2)).2) := by unfold varM; simp only [q4, Bool.false_eq_true, if_true, if_false]
  obtain ⟨ld, H6, e1, e2, e3⟩ := x.fin2 hG
  refine ⟨?_⟩
  simp (disch := omega) only [go_sem, ↓cw_block, dsB_of, id_eq, ld, e1, e2]
  exact fin (by rw [hr]; exact e3)
end Go.Proofs.YtpkfgoemhcgpdaaGreatDoor

namespace Go.Proofs.YtpkfgoemhcgpdaaGreatDoor
open Go.HL
set_option maxRecDepth 10000
set_option linter.unusedSimpArgs false
set_option linter.unusedVariables false

def varsL (L : List Tok) : Nat → TT → PS → Option (TT × PS)
  | 0, _, _ => none
  | k + 1, t, s => if seesM L [118, 97, 114] s then (if few t then varsL L k (addT t (varM L s).1) (varM L s).2 else none) else some (t, s)
def copM (L : List Tok) (s : PS) : Int × PS := if seesM L [42] s then pnumM L (upM s) else (1, s)
def procM (L : List Tok) (n : Nat) (s : PS) : Option (TT × PS) :=
  (varsL L n ({ beginM L 3 s with words := [(pnameM L (mustM L [112, 114, 111, 99] s)).1], nums := [(copM L (pnameM L (mustM L [112, 114, 111, 99] s)).2).1] }, .nil) (mustM L [123] (copM L (pnameM L (mustM L [112, 114, 111, 99] s)).2).2)).bind fun r =>
    if deepOk r.2 then (runS L n (.stats r.1) (inM L r.2)).bind fun q => if deepOk q.2 then some (q.1, outM q.2) else none else none
set_option maxHeartbeats 4000000 in
theorem pProcess_spec {L : List Tok} {n : Nat} (hW : TW L) : FnE L 55 (procM L n) := by
  intro H p tv s r h hm
  unfold procM at hm
  obtain ⟨e1, he1, hma⟩ := Option.bind_eq_some_iff.1 hm
  clear hm
  cases qd : deepOk e1.2
  · rw [qd] at hma; simp at hma
  rw [qd] at hma
  simp only [if_true] at hma
  obtain ⟨e2, he2, hmb⟩ := Option.bind_eq_some_iff.1 hma
  clear hma
  cases qe : deepOk e2.2
  · rw [qe] at hmb; simp at hmb
  rw [qe] at hmb
  simp only [if_true, Option.some.injEq] at hmb
  obtain ⟨G, hG⟩ : ∃ G, G = H.push (.cells #[iv 0, noS, noS, noS, iv 0, noS] 72) := ⟨_, rfl⟩
  have f0 : Fr [] H G := by rw [hG]; exact Fr.push
  have h0 := h.grow f0
  refine callF_of Tryz.func55 rfl Tryz.ntmps55 Tryz.results55 (by decide) rfl ?_
  simp (disch := omega) only [go_sem, ↓cw_block, dsB_of]
  rw [← hG]
  refine call_to (pBegin_spec h0) ?_
  intro v H1 hv
  refine Hush.out ?_
  obtain ⟨f1, rfl⟩ := hv
  obtain ⟨G1, hG1⟩ : ∃ G, G = H1.push (.cells #[iv 3, noS, noS, noS, iv (tkM L s).pos, noS] 72) := ⟨_, rfl⟩
  have x := XN.new2 (n := beginM L 3 s) h hG f1 hG1 ⟨rfl, rfl, rfl⟩
  have hlow := h.lt
  refine ⟨?_⟩
  simp (disch := omega) only [go_sem, ↓cw_block, dsB_of, nd0, beginM]
  rw [← hG1]
  refine call_to (pMust_spec hW x.pm) ?_
  intro v HM hv
  refine Hush.out ?_
  have x := x.step hv
  refine ⟨?_⟩
  simp (disch := omega) only [go_sem, ↓cw_block, dsB_of]
  refine Hush.out ?_
  have g := GX.start 9 x
  refine ⟨?_⟩
  refine draw1 (lk [(0, false), (1, false), (2, false), (3, true)] (.act 4 (.act 5 (.actd 6 (lk [(7, true), (8, true)] (.actd 9 .fin))) .non) .non)) T.mixed (hlist H1.size 0 _) (heldOK_blk g.box) ?_
  simp (disch := omega) only [go_sem, ↓cw_block, dsB_of, id_eq]
  refine call_to (pName_spec hW g.pm) ?_
  intro v HN hv
  refine Hush.out ?_
  obtain ⟨qq, rfl⟩ := hv
  have g := g.step qq
  refine ⟨?_⟩
  refine held_by (heldOK_blk g.box) ?_
  simp (disch := omega) only [go_sem, ↓cw_block, dsB_of, id_eq]
  refine held_by (heldOK_blk (g.grow Fr.push).box) ?_
  simp (disch := omega) only [go_sem, ↓cw_block, dsB_of, id_eq]
  refine app_lit1 T.el66 rfl g.vec rfl (by simp) ?_
  intro v' HZ g1 g2 g3 g4
  refine Hush.out ?_
  obtain ⟨a1, c1, hv'⟩ := g4
  have hv' : v' = .slice a1 1 c1 := hv'
  subst hv'
  have g := g.app g1 g2 g3
  refine ⟨?_⟩
  first | refine held_by (heldOK_blk g.box) ?_ | skip
  refine Hush.out ?_
  obtain ⟨w5, g⟩ := g.set 1 (.slice a1 1 c1) (by simp)
  have g : GX _ _ p tv L _ H1.size _ [iv 3, .slice a1 1 c1, noS, noS, iv (tkM L s).pos, noS] _ _ _ := g
  refine ⟨?_⟩
  simp (disch := omega) only [go_sem, ↓cw_block, dsB_of, id_eq, w5]
  have x := g.words (k := 3) (us := [_]) x rfl rfl
  refine call_to (pTake_spec hW x.pm) ?_
  intro v HT hv
  refine Hush.out ?_
  obtain ⟨qq, rfl⟩ := hv
  cases q4 : seesM L [42] (pnameM L (mustM L [112, 114, 111, 99] s)).2
  rotate_left
  · have ht : takeM L [42] (pnameM L (mustM L [112, 114, 111, 99] s)).2 = (true, upM (pnameM L (mustM L [112, 114, 111, 99] s)).2) := by simp [takeM, q4]
    rw [ht] at qq
    change PP _ p tv L (upM (pnameM L (mustM L [112, 114, 111, 99] s)).2) _ at qq
    have x := x.step qq
    have hcp : copM L (pnameM L (mustM L [112, 114, 111, 99] s)).2 = pnumM L (upM (pnameM L (mustM L [112, 114, 111, 99] s)).2) := by simp [copM, q4]
    refine ⟨?_⟩
    simp (disch := omega) only [go_sem, ↓cw_block, dsB_of, ht]
    have hrg := pnum_range hW x.pm
    refine call_to (pNum_spec hW x.pm) ?_
    intro v HU hv
    refine Hush.out ?_
    obtain ⟨qq, rfl⟩ := hv
    have x := x.step qq
    obtain ⟨w1, x⟩ := x.lits [(copM L (pnameM L (mustM L [112, 114, 111, 99] s)).2).1] 1 rfl
    simp only [List.map_cons, List.map_nil, hcp] at w1 x
    refine ⟨?_⟩
    simp (disch := omega) only [go_sem, ↓cw_block, dsB_of, ht, id_eq]
    simp (disch := omega) only [go_sem, ↓cw_block, dsB_of, w1]
    refine call_to (pMust_spec hW x.pm) ?_
    intro v HM hv
    refine Hush.out ?_
    have x := x.step hv
    refine ⟨?_⟩
    simp (disch := omega) only [go_sem, ↓cw_block, dsB_of]
    obtain ⟨wv, nv, kv, lv, ds, x⟩ : ∃ wv nv kv lv ds, XN G _ p tv L H.size H1.size wv nv kv lv ds ((({ beginM L 3 s with words := [(pnameM L (mustM L [112, 114, 111, 99] s)).1], nums := [(copM L (pnameM L (mustM L [112, 114, 111, 99] s)).2).1] }, Fo.nil)) : TT) (mustM L [123] (copM L (pnameM L (mustM L [112, 114, 111, 99] s)).2).2) := ⟨_, _, _, _, _, by rw [hcp]; exact x⟩
    refine loop_by (fun k ρ H2 => ∃ t s1 lv ds, varsL L k t s1 = some e1 ∧ XN G H2 p tv L H.size H1.size wv nv kv lv ds t s1 ∧ (ρ.get 0 = hp p ∧ ρ.get 2 = hp H.size ∧ ρ.get 3 = hp H1.size ∧ ρ.ds = [])) (k := n) ?_ ?_
    · exact ⟨_, _, _, _, he1, x, by simp (disch := omega) only [go_sem, ↓cw_block, dsB_of]⟩
    · clear x w1
      rintro k ρ H2 ⟨t, s1, lv, ds, hk, x, r0, r2, r3, rd⟩
      cases k with
      | zero => simp [varsL] at hk
      | succ k =>
      unfold varsL at hk
      simp (disch := omega) only [go_sem, ↓cw_block, dsB_of, r0, r2, r3, rd]
      refine call_to (pSees_spec x.pm) ?_
      intro v H3 hv
      refine Hush.out ?_
      obtain ⟨fs, rfl⟩ := hv
      have x := x.grow fs
      cases qv : seesM L [118, 97, 114] s1
      rotate_left
      · simp only [qv, if_true] at hk
        cases qf : few t
        · rw [qf] at hk; simp at hk
        rw [qf] at hk
        simp only [if_true] at hk
        refine ⟨?_⟩
        simp (disch := omega) only [go_sem, ↓cw_block, dsB_of, r0, r2, r3, rd]
        refine draw_last (fun ρ' H' => ∃ lv' ds', XN G H' p tv L H.size H1.size wv nv kv lv' ds' (addT t (varM L s1).1) (varM L s1).2 ∧ ρ'.get 0 = hp p ∧ ρ'.get 2 = hp H.size ∧ ρ'.get 3 = hp H1.size ∧ ρ'.ds = []) ?_ ?_
        · obtain ⟨al, cl, elv, hdl⟩ := x.tm.len
          obtain ⟨f1, f2, f3, f4, f5, f6, f7, f8, f9, ew, en, ek⟩ := x.tm.forms
          have hfew : t.2.len < 1000000 := by simpa [few] using qf
          subst ew en ek elv
          refine draw1 (lk [(0, false), (1, false), (2, false), (4, false)] (.act 3 (.act 5 (.actd 6 (lk [(7, false), (9, false)] (.act 8 (.act 10 .fin .non) (.act 10 (.act 8 .fin .non) .non)))) .non) (.act 5 (.act 3 (.actd 6 (lk [(7, false), (9, false)] (.act 8 (.act 10 .fin .non) (.act 10 (.act 8 .fin .non) .non)))) .non) .non))) T.mixed (hlist H1.size 0 _) (heldOK_blk x.tm.box) ?_
          simp (disch := omega) only [go_sem, ↓cw_block, dsB_of, r0, r2, r3, rd]
          refine both_of ?_ ?_
          · simp (disch := omega) only [go_sem, ↓cw_block, dsB_of, r0, r2, r3, rd]
            refine call_to (pVariable_spec hW x.pm) ?_
            intro v H4 hv
            refine Hush.out ?_
            obtain ⟨q4, cp, rfl, t4⟩ := hv
            have x4 := x.step q4
            have t4' := t4.mono (S' := fun b => H.size < b ∧ b ≠ H1.size ∧ b ∉ own (Value.slice al (t).2.len cl)) (by intro b hb _; have := x.tm.box.lt; have := x.tm.gt; (try simp only [Array.size_push] at hb); exact ⟨by omega, by omega, fun e => by have := x.tm.vec.lt b e; omega⟩)
            refine ⟨?_⟩
            refine held_by (heldOK_blk x4.tm.box) ?_
            simp (disch := omega) only [go_sem, ↓cw_block, dsB_of, r0, r2, r3, rd]
            refine held_by (heldOK_blk (x4.grow Fr.push).tm.box) ?_
            simp (disch := omega) only [go_sem, ↓cw_block, dsB_of, r0, r2, r3, rd]
            refine app_lit (n := 1) (new := z6) T.el70 rfl x4.tm.vec (one_all rfl) rfl (by intro a' l c e; simp only [Value.slice.injEq] at e; obtain ⟨_, rfl, _⟩ := e; first | omega | simp [addT, kindT, Fo.len_snoc, Fo.len]) ?_
            intro v' K1 g1 g2 g3 g4
            obtain ⟨b, o, c, e1, ⟨K2, h1, h2, h3, h4⟩, w1, K3, h5, h6, h7⟩ := TM.app1 x4.tm t4' g1 g2 g3
            subst e1
            have ow' : ∀ y ∈ own (Value.slice (some ⟨b, o, none⟩) ((t).2.len + 1) c), H.size < y := fun y hy => (g3 y hy).elim (fun h => (x4.tm.ow y h).1) (fun h => by have := x4.tm.box.lt; have := x4.tm.gt; omega)
            simp (disch := omega) only [go_sem, ↓cw_block, dsB_of, r0, r2, r3, rd]
            refine both_of ?_ ?_
            · simp (disch := omega) only [go_sem, ↓cw_block, dsB_of, r0, r2, r3, rd, h1, h2]
              exact fin ⟨_, _, x4.over (t' := addT t (varM L s1).1) ((g2.cat h4).cat (Fr.set (a := ⟨H1.size, 5, none⟩) (F := [H1.size]) (by simp))) (by intro y hy; simp only [List.mem_append, List.mem_singleton] at hy; rcases hy with (hy | hy) | hy; exact (x4.tm.ow y hy).1; exact ow' y hy; rw [hy]; exact x4.tm.gt) h3, by simp (disch := omega) only [go_sem, ↓cw_block, dsB_of, r0, r2, r3, rd]⟩
            · simp (disch := omega) only [go_sem, ↓cw_block, dsB_of, r0, r2, r3, rd, w1, h5]
              exact fin ⟨_, _, x4.over (t' := addT t (varM L s1).1) ((g2.cat (Fr.set (a := ⟨H1.size, 5, none⟩) (F := [H1.size]) (by simp))).cat h7) (by intro y hy; simp only [List.mem_append, List.mem_singleton] at hy; rcases hy with (hy | hy) | hy; exact (x4.tm.ow y hy).1; rw [hy]; exact x4.tm.gt; exact ow' y hy) h6, by simp (disch := omega) only [go_sem, ↓cw_block, dsB_of, r0, r2, r3, rd]⟩
          · have x3 := x.grow (Fr.push (o := .cells #[iv 0, noS, noS, noS, iv 0, noS] 72))
            simp (disch := omega) only [go_sem, ↓cw_block, dsB_of, r0, r2, r3, rd]
            refine held_by (heldOK_blk x3.tm.box) ?_
            simp (disch := omega) only [go_sem, ↓cw_block, dsB_of, r0, r2, r3, rd]
            refine call_to (pVariable_spec hW x3.pm) ?_
            intro v H4 hv
            refine Hush.out ?_
            obtain ⟨q4, cp, rfl, t4⟩ := hv
            have x4 := x3.step q4
            have hxb : Blk H4 _ 72 z6 := q4.1.blk (Blk.new rfl) (by have := x.pm.lt; simp; omega)
            have t4' := t4.mono (S' := fun b => H.size < b ∧ b ≠ H1.size ∧ b ∉ own (Value.slice al (t).2.len cl)) (by intro b hb _; have := x.tm.box.lt; have := x.tm.gt; (try simp only [Array.size_push] at hb); exact ⟨by omega, by omega, fun e => by have := x.tm.vec.lt b e; omega⟩)
            refine ⟨?_⟩
            refine held_by (heldOK_blk x4.tm.box) ?_
            simp (disch := omega) only [go_sem, ↓cw_block, dsB_of, r0, r2, r3, rd]
            refine app_src (new := z6) T.el70 rfl x4.tm.vec hxb (one_all rfl) rfl (by intro a' l c e; simp only [Value.slice.injEq] at e; obtain ⟨_, rfl, _⟩ := e; first | omega | simp [addT, kindT, Fo.len_snoc, Fo.len]) ?_
            intro v' K1 g1 g2 g3 g4
            obtain ⟨b, o, c, e1, ⟨K2, h1, h2, h3, h4⟩, w1, K3, h5, h6, h7⟩ := TM.app1 x4.tm t4' g1 g2 g3
            subst e1
            have ow' : ∀ y ∈ own (Value.slice (some ⟨b, o, none⟩) ((t).2.len + 1) c), H.size < y := fun y hy => (g3 y hy).elim (fun h => (x4.tm.ow y h).1) (fun h => by have := x4.tm.box.lt; have := x4.tm.gt; omega)
            simp (disch := omega) only [go_sem, ↓cw_block, dsB_of, r0, r2, r3, rd]
            refine both_of ?_ ?_
            · simp (disch := omega) only [go_sem, ↓cw_block, dsB_of, r0, r2, r3, rd, h1, h2]
              exact fin ⟨_, _, x4.over (t' := addT t (varM L s1).1) ((g2.cat h4).cat (Fr.set (a := ⟨H1.size, 5, none⟩) (F := [H1.size]) (by simp))) (by intro y hy; simp only [List.mem_append, List.mem_singleton] at hy; rcases hy with (hy | hy) | hy; exact (x4.tm.ow y hy).1; exact ow' y hy; rw [hy]; exact x4.tm.gt) h3, by simp (disch := omega) only [go_sem, ↓cw_block, dsB_of, r0, r2, r3, rd]⟩
            · simp (disch := omega) only [go_sem, ↓cw_block, dsB_of, r0, r2, r3, rd, w1, h5]
              exact fin ⟨_, _, x4.over (t' := addT t (varM L s1).1) ((g2.cat (Fr.set (a := ⟨H1.size, 5, none⟩) (F := [H1.size]) (by simp))).cat h7) (by intro y hy; simp only [List.mem_append, List.mem_singleton] at hy; rcases hy with (hy | hy) | hy; exact (x4.tm.ow y hy).1; rw [hy]; exact x4.tm.gt; exact ow' y hy) h6, by simp (disch := omega) only [go_sem, ↓cw_block, dsB_of, r0, r2, r3, rd]⟩
        · rintro ρ H5 ⟨lv', ds', x, r0, r2, r3, rd⟩
          simp (disch := omega) only [go_sem, ↓cw_block, dsB_of]
          exact fin ⟨k, by omega, _, _, _, _, hk, x, r0, r2, r3, rd⟩
      · simp only [qv, Bool.false_eq_true, if_false, Option.some.injEq] at hk
        subst hk
        simp only at qd
        refine ⟨?_⟩
        simp (disch := omega) only [go_sem, ↓cw_block, dsB_of, r0, r2, r3, rd]
        have qd' : -1000000000 ≤ s1.deep ∧ s1.deep ≤ 1000000000 := by simpa [deepOk] using qd
        refine call_to (pIn_spec x.pm qd') ?_
        intro v H3 hv
        refine Hush.out ?_
        have x := x.step hv
        refine ⟨?_⟩
        simp (disch := omega) only [go_sem, ↓cw_block, dsB_of, r0, r2, r3, rd]
        refine call_to ((specS hW n).stats x.low x.pm ⟨_, _, _, _, _, x.tm⟩ he2) ?_
        intro v H4 hv
        refine Hush.out ?_
        obtain ⟨fr4, pm4, wv, nv, kv, lv, ds, tm4⟩ := hv
        have x : XN G H4 p tv L H.size H1.size wv nv kv lv ds e2.1 e2.2 := ⟨x.fr.trans fr4, pm4, x.low, tm4⟩
        have c2 := x.pm.c2
        have w2 := x.pm.w2
        have x := x.step (s2 := outM e2.2) ⟨Fr.set (by simp), x.pm.set2 (e2.2.deep - 1)⟩
        have qe' : -1000000000 ≤ e2.2.deep ∧ e2.2.deep ≤ 1000000000 := by simpa [deepOk] using qe
        refine ⟨?_⟩
        simp (disch := omega) only [go_sem, ↓cw_block, dsB_of, r0, r2, r3, rd, c2, w2]
        refine Hush.out ?_
        subst hmb
        obtain ⟨ld, H6, e1, e2, e3⟩ := x.fin2 hG
        refine ⟨?_⟩
        simp (disch := omega) only [go_sem, ↓cw_block, dsB_of, r0, r2, r3, rd, ld, e1, e2]
        exact fin e3
  have ht : takeM L [42] (pnameM L (mustM L [112, 114, 111, 99] s)).2 = (false, (pnameM L (mustM L [112, 114, 111, 99] s)).2) := by simp [takeM, q4]
  rw [ht] at qq
  change PP _ p tv L (pnameM L (mustM L [112, 114, 111, 99] s)).2 _ at qq
  have x := x.step qq
  have hcp : copM L (pnameM L (mustM L [112, 114, 111, 99] s)).2 = (1, (pnameM L (mustM L [112, 114, 111, 99] s)).2) := by simp [copM, q4]
  obtain ⟨w1, x⟩ := x.lits [(copM L (pnameM L (mustM L [112, 114, 111, 99] s)).2).1] 1 rfl
  simp only [List.map_cons, List.map_nil, hcp] at w1 x
  refine ⟨?_⟩
  simp (disch := omega) only [go_sem, ↓cw_block, dsB_of, ht, id_eq]
  simp (disch := omega) only [go_sem, ↓cw_block, dsB_of, w1]
  refine call_to (pMust_spec hW x.pm) ?_
  intro v HM hv
  refine Hush.out ?_
  have x := x.step hv
  refine ⟨?_⟩
  simp (disch := omega) only [go_sem, ↓cw_block, dsB_of]
  obtain ⟨wv, nv, kv, lv, ds, x⟩ : ∃ wv nv kv lv ds, XN G _ p tv L H.size H1.size wv nv kv lv ds ((({ beginM L 3 s with words := [(pnameM L (mustM L [112, 114, 111, 99] s)).1], nums := [(copM L (pnameM L (mustM L [112, 114, 111, 99] s)).2).1] }, Fo.nil)) : TT) (mustM L [123] (copM L (pnameM L (mustM L [112, 114, 111, 99] s)).2).2) := ⟨_, _, _, _, _, by rw [hcp]; exact x⟩
  refine loop_by (fun k ρ H2 => ∃ t s1 lv ds, varsL L k t s1 = some e1 ∧ XN G H2 p tv L H.size H1.size wv nv kv lv ds t s1 ∧ (ρ.get 0 = hp p ∧ ρ.get 2 = hp H.size ∧ ρ.get 3 = hp H1.size ∧ ρ.ds = [])) (k := n) ?_ ?_
  · exact ⟨_, _, _, _, he1, x, by simp (disch := omega) only [go_sem, ↓cw_block, dsB_of]⟩
  · clear x w1
    rintro k ρ H2 ⟨t, s1, lv, ds, hk, x, r0, r2, r3, rd⟩
    cases k with
    | zero => simp [varsL] at hk
    | succ k =>
    unfold varsL at hk
    simp (disch := omega) only [go_sem, ↓cw_block, dsB_of, r0, r2, r3, rd]
    refine call_to (pSees_spec x.pm) ?_
    intro v H3 hv
    refine Hush.out ?_
    obtain ⟨fs, rfl⟩ := hv
    have x := x.grow fs
    cases qv : seesM L [118, 97, 114] s1
    rotate_left
    · simp only [qv, if_true] at hk
      cases qf : few t
      · rw [qf] at hk; simp at hk
      rw [qf] at hk
      simp only [if_true] at hk
      refine ⟨?_⟩
      simp (disch := omega) only [go_sem, ↓cw_block, dsB_of, r0, r2, r3, rd]
      refine draw_last (fun ρ' H' => ∃ lv' ds', XN G H' p tv L H.size H1.size wv nv kv lv' ds' (addT t (varM L s1).1) (varM L s1).2 ∧ ρ'.get 0 = hp p ∧ ρ'.get 2 = hp H.size ∧ ρ'.get 3 = hp H1.size ∧ ρ'.ds = []) ?_ ?_
      · obtain ⟨al, cl, elv, hdl⟩ := x.tm.len
        obtain ⟨f1, f2, f3, f4, f5, f6, f7, f8, f9, ew, en, ek⟩ := x.tm.forms
        have hfew : t.2.len < 1000000 := by simpa [few] using qf
        subst ew en ek elv
        refine draw1 (lk [(0, false), (1, false), (2, false), (4, false)] (.act 3 (.act 5 (.actd 6 (lk [(7, false), (9, false)] (.act 8 (.act 10 .fin .non) (.act 10 (.act 8 .fin .non) .non)))) .non) (.act 5 (.act 3 (.actd 6 (lk [(7, false), (9, false)] (.act 8 (.act 10 .fin .non) (.act 10 (.act 8 .fin .non) .non)))) .non) .non))) T.mixed (hlist H1.size 0 _) (heldOK_blk x.tm.box) ?_
        simp (disch := omega) only [go_sem, ↓cw_block, dsB_of, r0, r2, r3, rd]
        refine both_of ?_ ?_
        · simp (disch := omega) only [go_sem, ↓cw_block, dsB_of, r0, r2, r3, rd]
          refine call_to (pVariable_spec hW x.pm) ?_
          intro v H4 hv
          refine Hush.out ?_
          obtain ⟨q4, cp, rfl, t4⟩ := hv
          have x4 := x.step q4
          have t4' := t4.mono (S' := fun b => H.size < b ∧ b ≠ H1.size ∧ b ∉ own (Value.slice al (t).2.len cl)) (by intro b hb _; have := x.tm.box.lt; have := x.tm.gt; (try simp only [Array.size_push] at hb); exact ⟨by omega, by omega, fun e => by have := x.tm.vec.lt b e; omega⟩)
          refine ⟨?_⟩
          refine held_by (heldOK_blk x4.tm.box) ?_
          simp (disch := omega) only [go_sem, ↓cw_block, dsB_of, r0, r2, r3, rd]
          refine held_by (heldOK_blk (x4.grow Fr.push).tm.box) ?_
          simp (disch := omega) only [go_sem, ↓cw_block, dsB_of, r0, r2, r3, rd]
          refine app_lit (n := 1) (new := z6) T.el70 rfl x4.tm.vec (one_all rfl) rfl (by intro a' l c e; simp only [Value.slice.injEq] at e; obtain ⟨_, rfl, _⟩ := e; first | omega | simp [addT, kindT, Fo.len_snoc, Fo.len]) ?_
          intro v' K1 g1 g2 g3 g4
          obtain ⟨b, o, c, e1, ⟨K2, h1, h2, h3, h4⟩, w1, K3, h5, h6, h7⟩ := TM.app1 x4.tm t4' g1 g2 g3
          subst e1
          have ow' : ∀ y ∈ own (Value.slice (some ⟨b, o, none⟩) ((t).2.len + 1) c), H.size < y := fun y hy => (g3 y hy).elim (fun h => (x4.tm.ow y h).1) (fun h => by have := x4.tm.box.lt; have := x4.tm.gt; omega)
          simp (disch := omega) only [go_sem, ↓cw_block, dsB_of, r0, r2, r3, rd]
          refine both_of ?_ ?_
          · simp (disch := omega) only [go_sem, ↓cw_block, dsB_of, r0, r2, r3, rd, h1, h2]
            exact fin ⟨_, _, x4.over (t' := addT t (varM L s1).1) ((g2.cat h4).cat (Fr.set (a := ⟨H1.size, 5, none⟩) (F := [H1.size]) (by simp))) (by intro y hy; simp only [List.mem_append, List.mem_singleton] at hy; rcases hy with (hy | hy) | hy; exact (x4.tm.ow y hy).1; exact ow' y hy; rw [hy]; exact x4.tm.gt) h3, by simp (disch := omega) only [go_sem, ↓cw_block, dsB_of, r0, r2, r3, rd]⟩
          · simp (disch := omega) only [go_sem, ↓cw_block, dsB_of, r0, r2, r3, rd, w1, h5]
            exact fin ⟨_, _, x4.over (t' := addT t (varM L s1).1) ((g2.cat (Fr.set (a := ⟨H1.size, 5, none⟩) (F := [H1.size]) (by simp))).cat h7) (by intro y hy; simp only [List.mem_append, List.mem_singleton] at hy; rcases hy with (hy | hy) | hy; exact (x4.tm.ow y hy).1; rw [hy]; exact x4.tm.gt; exact ow' y hy) h6, by simp (disch := omega) only [go_sem, ↓cw_block, dsB_of, r0, r2, r3, rd]⟩
        · have x3 := x.grow (Fr.push (o := .cells #[iv 0, noS, noS, noS, iv 0, noS] 72))
          simp (disch := omega) only [go_sem, ↓cw_block, dsB_of, r0, r2, r3, rd]
          refine held_by (heldOK_blk x3.tm.box) ?_
          simp (disch := omega) only [go_sem, ↓cw_block, dsB_of, r0, r2, r3, rd]
          refine call_to (pVariable_spec hW x3.pm) ?_
          intro v H4 hv
          refine Hush.out ?_
          obtain ⟨q4, cp, rfl, t4⟩ := hv
          have x4 := x3.step q4
          have hxb : Blk H4 _ 72 z6 := q4.1.blk (Blk.new rfl) (by have := x.pm.lt; simp; omega)
          have t4' := t4.mono (S' := fun b => H.size < b ∧ b ≠ H1.size ∧ b ∉ own (Value.slice al (t).2.len cl)) (by intro b hb _; have := x.tm.box.lt; have := x.tm.gt; (try simp only [Array.size_push] at hb); exact ⟨by omega, by omega, fun e => by have := x.tm.vec.lt b e; omega⟩)
          refine ⟨?_⟩
          refine held_by (heldOK_blk x4.tm.box) ?_
          simp (disch := omega) only [go_sem, ↓cw_block, dsB_of, r0, r2, r3, rd]
          refine app_src (new := z6) T.el70 rfl x4.tm.vec hxb (one_all rfl) rfl (by intro a' l c e; simp only [Value.slice.injEq] at e; obtain ⟨_, rfl, _⟩ := e; first | omega | simp [addT, kindT, Fo.len_snoc, Fo.len]) ?_
          intro v' K1 g1 g2 g3 g4
          obtain ⟨b, o, c, e1, ⟨K2, h1, h2, h3, h4⟩, w1, K3, h5, h6, h7⟩ := TM.app1 x4.tm t4' g1 g2 g3
          subst e1
          have ow' : ∀ y ∈ own (Value.slice (some ⟨b, o, none⟩) ((t).2.len + 1) c), H.size < y := fun y hy => (g3 y hy).elim (fun h => (x4.tm.ow y h).1) (fun h => by have := x4.tm.box.lt; have := x4.tm.gt; omega)
          simp (disch := omega) only [go_sem, ↓cw_block, dsB_of, r0, r2, r3, rd]
          refine both_of ?_ ?_
          · simp (disch := omega) only [go_sem, ↓cw_block, dsB_of, r0, r2, r3, rd, h1, h2]
            exact fin ⟨_, _, x4.over (t' := addT t (varM L s1).1) ((g2.cat h4).cat (Fr.set (a := ⟨H1.size, 5, none⟩) (F := [H1.size]) (by simp))) (by intro y hy; simp only [List.mem_append, List.mem_singleton] at hy; rcases hy with (hy | hy) | hy; exact (x4.tm.ow y hy).1; exact ow' y hy; rw [hy]; exact x4.tm.gt) h3, by simp (disch := omega) only [go_sem, ↓cw_block, dsB_of, r0, r2, r3, rd]⟩
          · simp (disch := omega) only [go_sem, ↓cw_block, dsB_of, r0, r2, r3, rd, w1, h5]
            exact fin ⟨_, _, x4.over (t' := addT t (varM L s1).1) ((g2.cat (Fr.set (a := ⟨H1.size, 5, none⟩) (F := [H1.size]) (by simp))).cat h7) (by intro y hy; simp only [List.mem_append, List.mem_singleton] at hy; rcases hy with (hy | hy) | hy; exact (x4.tm.ow y hy).1; rw [hy]; exact x4.tm.gt; exact ow' y hy) h6, by simp (disch := omega) only [go_sem, ↓cw_block, dsB_of, r0, r2, r3, rd]⟩
      · rintro ρ H5 ⟨lv', ds', x, r0, r2, r3, rd⟩
        simp (disch := omega) only [go_sem, ↓cw_block, dsB_of]
        exact fin ⟨k, by omega, _, _, _, _, hk, x, r0, r2, r3, rd⟩
    · simp only [qv, Bool.false_eq_true, if_false, Option.some.injEq] at hk
      subst hk
      simp only at qd
      refine ⟨?_⟩
      simp (disch := omega) only [go_sem, ↓cw_block, dsB_of, r0, r2, r3, rd]
      have qd' : -1000000000 ≤ s1.deep ∧ s1.deep ≤ 1000000000 := by simpa [deepOk] using qd
      refine call_to (pIn_spec x.pm qd') ?_
      intro v H3 hv
      refine Hush.out ?_
      have x := x.step hv
      refine ⟨?_⟩
      simp (disch := omega) only [go_sem, ↓cw_block, dsB_of, r0, r2, r3, rd]
      refine call_to ((specS hW n).stats x.low x.pm ⟨_, _, _, _, _, x.tm⟩ he2) ?_
      intro v H4 hv
      refine Hush.out ?_
      obtain ⟨fr4, pm4, wv, nv, kv, lv, ds, tm4⟩ := hv
      have x : XN G H4 p tv L H.size H1.size wv nv kv lv ds e2.1 e2.2 := ⟨x.fr.trans fr4, pm4, x.low, tm4⟩
      have c2 := x.pm.c2
      have w2 := x.pm.w2
      have x := x.step (s2 := outM e2.2) ⟨Fr.set (by simp), x.pm.set2 (e2.2.deep - 1)⟩
      have qe' : -1000000000 ≤ e2.2.deep ∧ e2.2.deep ≤ 1000000000 := by simpa [deepOk] using qe
      refine ⟨?_⟩
      simp (disch := omega) only [go_sem, ↓cw_block, dsB_of, r0, r2, r3, rd, c2, w2]
      refine Hush.out ?_
      subst hmb
      obtain ⟨ld, H6, e1, e2, e3⟩ := x.fin2 hG
      refine ⟨?_⟩
      simp (disch := omega) only [go_sem, ↓cw_block, dsB_of, r0, r2, r3, rd, ld, e1, e2]
      exact fin e3
end Go.Proofs.YtpkfgoemhcgpdaaGreatDoor

namespace Go.Proofs.YtpkfgoemhcgpdaaGreatDoor
open Go.HL
set_option maxRecDepth 10000
set_option linter.unusedSimpArgs false
set_option linter.unusedVariables false

def itemM (L : List Tok) (n : Nat) (s : PS) : Option (TT × PS) :=
  if seesM L [118, 97, 114] s then some (varM L s) else if seesM L [112, 114, 111, 99] s then procM L n s
  else if seesM L [99, 104, 97, 110] s then some (({ beginM L 5 s with kind := 1, words := [(pnameM L (upM s)).1], nums := [(pnumM L (mustM L [91] (pnameM L (upM s)).2)).1, (pnumM L (mustM L [111, 102] (mustM L [93] (pnumM L (mustM L [91] (pnameM L (upM s)).2)).2))).1, (flagM L [108, 111, 115, 115, 121] (pnumM L (mustM L [111, 102] (mustM L [93] (pnumM L (mustM L [91] (pnameM L (upM s)).2)).2))).2).1, (flagM L [99, 111, 112, 121, 105, 110, 103] (flagM L [108, 111, 115, 115, 121] (pnumM L (mustM L [111, 102] (mustM L [93] (pnumM L (mustM L [91] (pnameM L (upM s)).2)).2))).2).2).1] }, .nil), mustM L [59] (flagM L [99, 111, 112, 121, 105, 110, 103] (flagM L [108, 111, 115, 115, 121] (pnumM L (mustM L [111, 102] (mustM L [93] (pnumM L (mustM L [91] (pnameM L (upM s)).2)).2))).2).2).2)
  else if seesM L [115, 97, 102, 101] s then (runE L n .expr (upM s)).bind fun r => some (tree1 { beginM L 5 s with kind := 4 } r.1, mustM L [59] r.2)
  else some ((beginM L 5 s, .nil), mustM L [59] (mustM L [100, 101, 97, 100, 108, 111, 99, 107] s))
section
variable {K K1 : Heap} {N b3 : Nat} {wv nv kv lv v' : Value} {ds cp : List Value} {n m : Nd} {f k : Fo}
/-- A tree is put behind the others with its row. -/
theorem TM.app0 (x : TM K N b3 wv nv kv lv ds n f) (ht : TR K (fun b => N < b ∧ b ≠ b3 ∧ b ∉ own lv) cp m k)
    (g1 : Vec K1 72 6 v' (ds ++ cp)) (g2 : Fr (own lv) K K1) (g3 : ∀ b ∈ own v', b ∈ own lv ∨ K.size ≤ b) :
    wr K1 ⟨b3, 5, none⟩ v' = some (setH K1 ⟨b3, 5, none⟩ v') ∧ TM (setH K1 ⟨b3, 5, none⟩ v') N b3 wv nv kv v' (ds ++ cp) n (f.snoc m k) ∧ ∀ b ∈ own v', N < b := by
  have hbs := x.box.lt
  have hgt := x.gt
  have ow' : ∀ b ∈ own v', N < b ∧ b ≠ b3 := fun b hb => (g3 b hb).elim (x.ow b) (fun h => ⟨by omega, by omega⟩)
  have box1 : Blk K1 b3 72 [iv n.kind, wv, nv, kv, iv n.pos, lv] := g2.blk x.box (fun e => (x.ow _ e).2 rfl)
  have hsz := g2.size
  have f3 : Fr [b3] K1 (setH K1 ⟨b3, 5, none⟩ v') := Fr.set (by simp)
  have hX : ∀ b, N < b → b ≠ b3 → b ∉ own lv → b < K.size → (setH K1 ⟨b3, 5, none⟩ v')[b]? = K[b]? := by
    intro b h1 h2 h3 h5
    rw [f3.same b (by omega) (by simpa using h2), g2.same b h5 h3]
  have kp : Keeps (fun b => (N < b ∧ b ≠ b3 ∧ b ∉ own lv) ∧ b ∉ own v') K (setH K1 ⟨b3, 5, none⟩ v') := fun b h1 h2 => hX b h1.1.1 h1.1.2.1 h1.1.2.2 h2
  have sub2 : ∀ b, (N < b ∧ b ≠ b3 ∧ b ∉ own lv) → b < K.size → ((N < b ∧ b ≠ b3 ∧ b ∉ own lv) ∧ b ∉ own v') := fun b h1 h2 => ⟨h1, fun e => (g3 b e).elim h1.2.2 (fun h => by omega)⟩
  have back : ∀ b, ((N < b ∧ b ≠ b3 ∧ b ∉ own lv) ∧ b ∉ own v') → b < (setH K1 ⟨b3, 5, none⟩ v').size → (N < b ∧ b ≠ b3 ∧ b ∉ own v') := fun b h _ => ⟨h.1.1, h.1.2.1, h.2⟩
  have a1 := ((x.nr.mono sub2).frame kp).mono back
  have a2 := FL.mono back (FL.frame kp (FL.mono sub2 x.fl))
  have a3 := TR.mono back (TR.frame kp (TR.mono sub2 ht))
  exact ⟨box1.wr (by simp) _, ⟨box1.set 5 v', x.gt, g1.frame f3 (fun b hb => by have := ow' b hb; simpa using this.2), ow', a1, FL.snoc a3 a2⟩, fun b hb => (ow' b hb).1⟩
end
section
variable {H H2 H3 G : Heap} {p b3 : Nat} {tv : Value} {L : List Tok} {wv nv kv lv : Value} {ds cp : List Value} {t : TT} {s : PS} {r : TT × PS}
/-- The answer is another function's. -/
theorem XN.pass (x : XN G H2 p tv L H.size b3 wv nv kv lv ds t s) (hG : G = H.push (.cells #[iv 0, noS, noS, noS, iv 0, noS] 72)) (q : PP H2 p tv L r.2 H3) (ht : TR H3 (fun b => H2.size ≤ b) cp r.1.1 r.1.2) :
    ∃ H5, storeA Tryz.prog H3 72 ⟨H.size, 0, none⟩ (.agg cp.toArray) = some H5 ∧ cellsH (cellH H5) ⟨H.size, 0, none⟩ 0 6 = some cp ∧ ExpQ H p tv L r (.agg cp.toArray) H5 := by
  obtain ⟨a1, l1, c1, a2, l2, c2, a3, l3, c3, a4, l4, c4, ecp⟩ := ht.form
  have f0 : Fr [] H G := by rw [hG]; exact Fr.push
  have b0 : Blk G H.size 72 z6 := by rw [hG]; exact Blk.new rfl
  have hl := x.low
  have x1 := x.step q
  have res := x1.fr.blk b0 (Nat.le_refl _) (by omega)
  have fr : FrN H.size p H H3 := (FrN.of f0 (by simp)).trans x1.fr
  have hcl : cp.length = 6 := by rw [ecp]; rfl
  have hgt := x.tm.gt
  have hlt := x.tm.box.lt
  obtain ⟨H5, e1, e2, e3⟩ := store_blk (P := Tryz.prog) (ty := 72) (new := cp) res (by rw [hcl]; rfl) (by rw [hcl]; exact T.size72) (by rw [ecp]; exact one_all rfl)
  refine ⟨H5, e1, by rw [← hcl]; exact e2.cells0, ⟨Fr.more (fr.fr (by omega)) e3 (by simp), q.2.over e3 (by simpa using hl)⟩, _, rfl, ?_⟩
  exact (TR.frame (Keeps.of_fr e3 (by intro b hb; simp; omega)) ht).mono (by intro b hb _; show H.size ≤ b; omega)
end
set_option maxHeartbeats 4000000 in
theorem pItem_spec {L : List Tok} {n : Nat} (hW : TW L) : FnE L 42 (itemM L n) := by
  intro H p tv s r h hm
  unfold itemM at hm
  obtain ⟨G, hG⟩ : ∃ G, G = H.push (.cells #[iv 0, noS, noS, noS, iv 0, noS] 72) := ⟨_, rfl⟩
  have f0 : Fr [] H G := by rw [hG]; exact Fr.push
  have h0 := h.grow f0
  refine callF_of Tryz.func42 rfl Tryz.ntmps42 Tryz.results42 (by decide) rfl ?_
  simp (disch := omega) only [go_sem, ↓cw_block, dsB_of]
  rw [← hG]
  refine call_to (pBegin_spec h0) ?_
  intro v H1 hv
  refine Hush.out ?_
  obtain ⟨f1, rfl⟩ := hv
  obtain ⟨G1, hG1⟩ : ∃ G, G = H1.push (.cells #[iv 5, noS, noS, noS, iv (tkM L s).pos, noS] 72) := ⟨_, rfl⟩
  have x := XN.new2 (n := beginM L 5 s) h hG f1 hG1 ⟨rfl, rfl, rfl⟩
  have hlow := h.lt
  refine ⟨?_⟩
  simp (disch := omega) only [go_sem, ↓cw_block, dsB_of, nd0, beginM]
  rw [← hG1]
  refine call_to (pSees_spec x.pm) ?_
  intro v HS hv
  refine Hush.out ?_
  obtain ⟨fs, rfl⟩ := hv
  have x := x.grow fs
  cases q1 : seesM L [118, 97, 114] s
  rotate_left
  · simp only [q1, if_true] at hm
    simp only [Option.some.injEq] at hm
    subst hm
    refine ⟨?_⟩
    simp (disch := omega) only [go_sem, ↓cw_block, dsB_of]
    refine call_to (pVariable_spec hW x.pm) ?_
    intro v HV hv
    refine Hush.out ?_
    obtain ⟨q4, cp, rfl, t4⟩ := hv
    obtain ⟨H6, e1, e2, e3⟩ := x.pass hG q4 t4
    obtain ⟨a1, l1, c1', a2, l2, c2', a3, l3, c3, a4, l4, c4, ecp⟩ := t4.form
    subst ecp
    refine ⟨?_⟩
    simp (disch := omega) only [go_sem, ↓cw_block, dsB_of, e1, e2]
    exact fin e3
  simp only [q1, Bool.false_eq_true, if_false] at hm
  refine ⟨?_⟩
  simp (disch := omega) only [go_sem, ↓cw_block, dsB_of]
  refine call_to (pSees_spec x.pm) ?_
  intro v HS hv
  refine Hush.out ?_
  obtain ⟨fs, rfl⟩ := hv
  have x := x.grow fs
  cases q2 : seesM L [112, 114, 111, 99] s
  rotate_left
  · simp only [q2, if_true] at hm
    refine ⟨?_⟩
    simp (disch := omega) only [go_sem, ↓cw_block, dsB_of]
    refine call_to (pProcess_spec hW x.pm hm) ?_
    intro v HV hv
    refine Hush.out ?_
    obtain ⟨q4, cp, rfl, t4⟩ := hv
    obtain ⟨H6, e1, e2, e3⟩ := x.pass hG q4 t4
    obtain ⟨a1, l1, c1', a2, l2, c2', a3, l3, c3, a4, l4, c4, ecp⟩ := t4.form
    subst ecp
    refine ⟨?_⟩
    simp (disch := omega) only [go_sem, ↓cw_block, dsB_of, e1, e2]
    exact fin e3
  simp only [q2, Bool.false_eq_true, if_false] at hm
  refine ⟨?_⟩
  simp (disch := omega) only [go_sem, ↓cw_block, dsB_of]
  refine call_to (pTake_spec hW x.pm) ?_
  intro v HT hv
  refine Hush.out ?_
  obtain ⟨qq, rfl⟩ := hv
  cases q3 : seesM L [99, 104, 97, 110] s
  rotate_left
  · have ht : takeM L [99, 104, 97, 110] s = (true, upM s) := by simp [takeM, q3]
    rw [ht] at qq
    simp only [q3, if_true] at hm
    have x := x.step qq
    simp only [Option.some.injEq] at hm
    subst hm
    obtain ⟨w0, x⟩ := x.kind 1
    refine ⟨?_⟩
    simp (disch := omega) only [go_sem, ↓cw_block, dsB_of, ht, w0]
    have g := GX.start 9 x
    refine draw1 (lk [(0, false), (1, false), (2, false), (3, true)] (.act 4 (.act 5 (.actd 6 (lk [(7, true), (8, true)] (.actd 9 .fin))) .non) .non)) T.mixed (hlist H1.size 0 _) (heldOK_blk g.box) ?_
    simp (disch := omega) only [go_sem, ↓cw_block, dsB_of, id_eq]
    refine call_to (pName_spec hW g.pm) ?_
    intro v HN hv
    refine Hush.out ?_
    obtain ⟨qq, rfl⟩ := hv
    have g := g.step qq
    refine ⟨?_⟩
    refine held_by (heldOK_blk g.box) ?_
    simp (disch := omega) only [go_sem, ↓cw_block, dsB_of, id_eq]
    refine held_by (heldOK_blk (g.grow Fr.push).box) ?_
    simp (disch := omega) only [go_sem, ↓cw_block, dsB_of, id_eq]
    refine app_lit1 T.el66 rfl g.vec rfl (by simp) ?_
    intro v' HZ g1 g2 g3 g4
    refine Hush.out ?_
    obtain ⟨a1, c1, hv'⟩ := g4
    have hv' : v' = .slice a1 1 c1 := hv'
    subst hv'
    have g := g.app g1 g2 g3
    refine ⟨?_⟩
    first | refine held_by (heldOK_blk g.box) ?_ | skip
    refine Hush.out ?_
    obtain ⟨w5, g⟩ := g.set 1 (.slice a1 1 c1) (by simp)
    have g : GX _ _ p tv L _ H1.size _ [iv 1, .slice a1 1 c1, noS, noS, iv (tkM L s).pos, noS] _ _ _ := g
    refine ⟨?_⟩
    simp (disch := omega) only [go_sem, ↓cw_block, dsB_of, id_eq, w5]
    have x := g.words (k := 1) (us := [_]) x rfl rfl
    generalize a1 = aw, c1 = cw at x
    refine call_to (pMust_spec hW x.pm) ?_
    intro v HM hv
    refine Hush.out ?_
    have x := x.step hv
    refine ⟨?_⟩
    simp (disch := omega) only [go_sem, ↓cw_block, dsB_of]
    refine Hush.out ?_
    have g := GX.start 3 x
    refine ⟨?_⟩
    refine draw1 (lk [(0, false), (1, false), (2, false), (3, true)] (.act 4 (.act 5 (.actd 6 (lk [(7, true), (8, true)] (.actd 9 .fin))) .non) .non)) T.mixed (hlist H1.size 0 _) (heldOK_blk g.box) ?_
    simp (disch := omega) only [go_sem, ↓cw_block, dsB_of, id_eq]
    refine call_to (pNum_spec hW g.pm) ?_
    intro v HN hv
    refine Hush.out ?_
    obtain ⟨qq, rfl⟩ := hv
    have g := g.step qq
    refine ⟨?_⟩
    refine held_by (heldOK_blk g.box) ?_
    simp (disch := omega) only [go_sem, ↓cw_block, dsB_of, id_eq]
    refine held_by (heldOK_blk (g.grow Fr.push).box) ?_
    simp (disch := omega) only [go_sem, ↓cw_block, dsB_of, id_eq]
    refine app_lit1 T.el67 rfl g.vec rfl (by simp) ?_
    intro v' HZ g1 g2 g3 g4
    refine Hush.out ?_
    obtain ⟨a1, c1, hv'⟩ := g4
    have hv' : v' = .slice a1 1 c1 := hv'
    subst hv'
    have g := g.app g1 g2 g3
    refine ⟨?_⟩
    first | refine held_by (heldOK_blk g.box) ?_ | skip
    refine Hush.out ?_
    obtain ⟨w5, g⟩ := g.set 2 (.slice a1 1 c1) (by simp)
    have g : GX _ _ p tv L _ H1.size _ [iv 1, .slice aw 1 cw, .slice a1 1 c1, noS, iv (tkM L s).pos, noS] _ _ _ := g
    refine ⟨?_⟩
    simp (disch := omega) only [go_sem, ↓cw_block, dsB_of, id_eq, w5]
    refine call_to (pMust_spec hW g.pm) ?_
    intro v HM hv
    refine Hush.out ?_
    have g := g.step hv
    refine ⟨?_⟩
    simp (disch := omega) only [go_sem, ↓cw_block, dsB_of]
    refine call_to (pMust_spec hW g.pm) ?_
    intro v HM hv
    refine Hush.out ?_
    have g := g.step hv
    refine ⟨?_⟩
    simp (disch := omega) only [go_sem, ↓cw_block, dsB_of]
    refine draw1 (lk [(0, false), (1, false), (2, false), (3, true)] (.act 4 (.act 5 (.actd 6 (lk [(7, true), (8, true)] (.actd 9 .fin))) .non) .non)) T.mixed (hlist H1.size 0 _) (heldOK_blk g.box) ?_
    simp (disch := omega) only [go_sem, ↓cw_block, dsB_of, id_eq]
    refine call_to (pNum_spec hW g.pm) ?_
    intro v HN hv
    refine Hush.out ?_
    obtain ⟨qq, rfl⟩ := hv
    have g := g.step qq
    refine ⟨?_⟩
    refine held_by (heldOK_blk g.box) ?_
    simp (disch := omega) only [go_sem, ↓cw_block, dsB_of, id_eq]
    refine held_by (heldOK_blk (g.grow Fr.push).box) ?_
    simp (disch := omega) only [go_sem, ↓cw_block, dsB_of, id_eq]
    refine app_lit1 T.el67 rfl g.vec rfl (by simp) ?_
    intro v' HZ g1 g2 g3 g4
    refine Hush.out ?_
    obtain ⟨a2, c2, hv'⟩ := g4
    have hv' : v' = .slice a2 2 c2 := hv'
    subst hv'
    have g := g.app g1 g2 g3
    refine ⟨?_⟩
    first | refine held_by (heldOK_blk g.box) ?_ | skip
    refine Hush.out ?_
    obtain ⟨w5, g⟩ := g.set 2 (.slice a2 2 c2) (by simp)
    have g : GX _ _ p tv L _ H1.size _ [iv 1, .slice aw 1 cw, .slice a2 2 c2, noS, iv (tkM L s).pos, noS] _ _ _ := g
    refine ⟨?_⟩
    simp (disch := omega) only [go_sem, ↓cw_block, dsB_of, id_eq, w5]
    refine draw1 (lk [(0, false), (1, false), (2, false), (3, true)] (.act 4 (.act 5 (.actd 6 (lk [(7, true), (8, true)] (.actd 9 .fin))) .non) .non)) T.mixed (hlist H1.size 0 _) (heldOK_blk g.box) ?_
    simp (disch := omega) only [go_sem, ↓cw_block, dsB_of, id_eq]
    refine call_to (pFlag_spec hW g.pm) ?_
    intro v HN hv
    refine Hush.out ?_
    obtain ⟨qq, rfl⟩ := hv
    have g := g.step qq
    refine ⟨?_⟩
    refine held_by (heldOK_blk g.box) ?_
    simp (disch := omega) only [go_sem, ↓cw_block, dsB_of, id_eq]
    refine held_by (heldOK_blk (g.grow Fr.push).box) ?_
    simp (disch := omega) only [go_sem, ↓cw_block, dsB_of, id_eq]
    refine app_lit1 T.el67 rfl g.vec rfl (by simp) ?_
    intro v' HZ g1 g2 g3 g4
    refine Hush.out ?_
    obtain ⟨a3, c3, hv'⟩ := g4
    have hv' : v' = .slice a3 3 c3 := hv'
    subst hv'
    have g := g.app g1 g2 g3
    refine ⟨?_⟩
    first | refine held_by (heldOK_blk g.box) ?_ | skip
    refine Hush.out ?_
    obtain ⟨w5, g⟩ := g.set 2 (.slice a3 3 c3) (by simp)
    have g : GX _ _ p tv L _ H1.size _ [iv 1, .slice aw 1 cw, .slice a3 3 c3, noS, iv (tkM L s).pos, noS] _ _ _ := g
    refine ⟨?_⟩
    simp (disch := omega) only [go_sem, ↓cw_block, dsB_of, id_eq, w5]
    refine draw1 (lk [(0, false), (1, false), (2, false), (3, true)] (.act 4 (.act 5 (.actd 6 (lk [(7, true), (8, true)] (.actd 9 .fin))) .non) .non)) T.mixed (hlist H1.size 0 _) (heldOK_blk g.box) ?_
    simp (disch := omega) only [go_sem, ↓cw_block, dsB_of, id_eq]
    refine call_to (pFlag_spec hW g.pm) ?_
    intro v HN hv
    refine Hush.out ?_
    obtain ⟨qq, rfl⟩ := hv
    have g := g.step qq
    refine ⟨?_⟩
    refine held_by (heldOK_blk g.box) ?_
    simp (disch := omega) only [go_sem, ↓cw_block, dsB_of, id_eq]
    refine held_by (heldOK_blk (g.grow Fr.push).box) ?_
    simp (disch := omega) only [go_sem, ↓cw_block, dsB_of, id_eq]
    refine app_lit1 T.el67 rfl g.vec rfl (by simp) ?_
    intro v' HZ g1 g2 g3 g4
    refine Hush.out ?_
    obtain ⟨a4, c4, hv'⟩ := g4
    have hv' : v' = .slice a4 4 c4 := hv'
    subst hv'
    have g := g.app g1 g2 g3
    refine ⟨?_⟩
    first | refine held_by (heldOK_blk g.box) ?_ | skip
    refine Hush.out ?_
    obtain ⟨w5, g⟩ := g.set 2 (.slice a4 4 c4) (by simp)
    have g : GX _ _ p tv L _ H1.size _ [iv 1, .slice aw 1 cw, .slice a4 4 c4, noS, iv (tkM L s).pos, noS] _ _ _ := g
    refine ⟨?_⟩
    simp (disch := omega) only [go_sem, ↓cw_block, dsB_of, id_eq, w5]
    have x := g.nums (k := 1) (us := [_, _, _, _]) x rfl rfl
    refine call_to (pMust_spec hW x.pm) ?_
    intro v HM hv
    refine Hush.out ?_
    have x := x.step hv
    refine ⟨?_⟩
    simp (disch := omega) only [go_sem, ↓cw_block, dsB_of]
    refine Hush.out ?_
    obtain ⟨ld, H6, e1, e2, e3⟩ := x.fin2 hG
    refine ⟨?_⟩
    simp (disch := omega) only [go_sem, ↓cw_block, dsB_of, id_eq, ld, e1, e2]
    exact fin e3
  have ht : takeM L [99, 104, 97, 110] s = (false, s) := by simp [takeM, q3]
  rw [ht] at qq
  simp only [q3, Bool.false_eq_true, if_false] at hm
  have x := x.step qq
  refine ⟨?_⟩
  simp (disch := omega) only [go_sem, ↓cw_block, dsB_of, ht]
  refine call_to (pTake_spec hW x.pm) ?_
  intro v HT hv
  refine Hush.out ?_
  obtain ⟨qq, rfl⟩ := hv
  cases q4 : seesM L [115, 97, 102, 101] s
  rotate_left
  · have ht : takeM L [115, 97, 102, 101] s = (true, upM s) := by simp [takeM, q4]
    rw [ht] at qq
    simp only [q4, if_true] at hm
    have x := x.step qq
    obtain ⟨q2, hq2, hm⟩ := Option.bind_eq_some_iff.1 hm
    simp only [Option.some.injEq] at hm
    subst hm
    obtain ⟨w0, x⟩ := x.kind 4
    refine ⟨?_⟩
    simp (disch := omega) only [go_sem, ↓cw_block, dsB_of, ht, w0]
    obtain ⟨wv, nv, kv, lv, ds, x⟩ : ∃ wv nv kv lv ds, XN G _ p tv L H.size H1.size wv nv kv lv ds ((({ beginM L 5 s with kind := 4 }, Fo.nil)) : TT) _ := ⟨_, _, _, _, _, x⟩
    obtain ⟨al, cl, elv, hdl⟩ := x.tm.len
    obtain ⟨f1', f2', f3', f4', f5', f6', f7', f8', f9', ew, en, ek⟩ := x.tm.forms
    have hfew : ((({ beginM L 5 s with kind := 4 }, Fo.nil))).2.len < 1000000 := by simp [addT, kindT, Fo.len_snoc, Fo.len]
    subst ew en ek elv
    refine draw1 (lk [(0, false), (1, false), (2, true)] (.act 3 (.act 4 (.actd 5 (lk [(6, true)] (.actd 7 .fin))) .non) .non)) T.mixed (hlist H1.size 0 _) (heldOK_blk x.tm.box) ?_
    simp (disch := omega) only [go_sem, ↓cw_block, dsB_of, id_eq]
    refine call_to ((specE hW n).expr x.pm hq2) ?_
    intro v H4 hv
    refine Hush.out ?_
    obtain ⟨q4, cp, rfl, t4⟩ := hv
    have x4 := x.step q4
    have t4' := t4.mono (S' := fun b => H.size < b ∧ b ≠ H1.size ∧ b ∉ own (Value.slice al ((({ beginM L 5 s with kind := 4 }, Fo.nil))).2.len cl)) (by intro b hb _; have := x.tm.box.lt; have := x.tm.gt; exact ⟨by omega, by omega, fun e => by have := x.tm.vec.lt b e; omega⟩)
    obtain ⟨a1, l1, c1', a2, l2, c2', a3, l3, c3, a4, l4, c4, ecp⟩ := t4.form
    subst ecp
    refine ⟨?_⟩
    refine held_by (heldOK_blk x4.tm.box) ?_
    simp (disch := omega) only [go_sem, ↓cw_block, dsB_of, id_eq]
    refine held_by (heldOK_blk (x4.grow Fr.push).tm.box) ?_
    simp (disch := omega) only [go_sem, ↓cw_block, dsB_of, id_eq]
    refine app_lit (n := 1) (new := [iv q2.1.1.kind, .slice a1 l1 c1', .slice a2 l2 c2', .slice a3 l3 c3, iv q2.1.1.pos, .slice a4 l4 c4]) T.el70 rfl x4.tm.vec (one_all rfl) rfl (by intro a' l c e; simp only [Value.slice.injEq] at e; obtain ⟨_, rfl, _⟩ := e; first | omega | simp [addT, kindT, Fo.len_snoc, Fo.len]) ?_
    intro v' HZ g1 g2 g3 g4
    refine Hush.out ?_
    obtain ⟨w5, tm5, ow5⟩ := TM.app0 x4.tm t4' g1 g2 g3
    obtain ⟨a6, c6, hv'⟩ := g4 _ _ _ rfl
    subst hv'
    have x := x4.over (t' := addT ((({ beginM L 5 s with kind := 4 }, Fo.nil))) q2.1) (g2.cat (Fr.set (a := ⟨H1.size, 5, none⟩) (F := [H1.size]) (by simp))) (by intro y hy; simp only [List.mem_append, List.mem_singleton] at hy; rcases hy with hy | hy; exact (x4.tm.ow y hy).1; rw [hy]; exact x4.tm.gt) tm5
    refine ⟨?_⟩
    first | refine held_by (heldOK_blk (g2.blk x4.tm.box (fun e => (x4.tm.ow _ e).2 rfl))) ?_ | skip
    simp (disch := omega) only [go_sem, ↓cw_block, dsB_of, id_eq, w5]
    refine call_to (pMust_spec hW x.pm) ?_
    intro v HM hv
    refine Hush.out ?_
    have x := x.step hv
    refine ⟨?_⟩
    simp (disch := omega) only [go_sem, ↓cw_block, dsB_of]
    refine Hush.out ?_
    obtain ⟨ld, H6, e1, e2, e3⟩ := x.fin2 hG
    refine ⟨?_⟩
    simp (disch := omega) only [go_sem, ↓cw_block, dsB_of, id_eq, ld, e1, e2]
    exact fin e3
  have ht : takeM L [115, 97, 102, 101] s = (false, s) := by simp [takeM, q4]
  rw [ht] at qq
  simp only [q4, Bool.false_eq_true, if_false] at hm
  have x := x.step qq
  simp only [Option.some.injEq] at hm
  subst hm
  refine ⟨?_⟩
  simp (disch := omega) only [go_sem, ↓cw_block, dsB_of, ht]
  refine call_to (pMust_spec hW x.pm) ?_
  intro v HM hv
  refine Hush.out ?_
  have x := x.step hv
  refine ⟨?_⟩
  simp (disch := omega) only [go_sem, ↓cw_block, dsB_of]
  refine call_to (pMust_spec hW x.pm) ?_
  intro v HM hv
  refine Hush.out ?_
  have x := x.step hv
  refine ⟨?_⟩
  simp (disch := omega) only [go_sem, ↓cw_block, dsB_of]
  refine Hush.out ?_
  obtain ⟨ld, H6, e1, e2, e3⟩ := x.fin2 hG
  refine ⟨?_⟩
  simp (disch := omega) only [go_sem, ↓cw_block, dsB_of, id_eq, ld, e1, e2]
  exact fin e3
end Go.Proofs.YtpkfgoemhcgpdaaGreatDoor

namespace Go.Proofs.YtpkfgoemhcgpdaaGreatDoor
open Go.HL
set_option maxRecDepth 10000
set_option linter.unusedSimpArgs false
set_option linter.unusedVariables false

def progL (L : List Tok) (n : Nat) : Nat → TT → PS → Option (TT × PS)
  | 0, _, _ => none
  | k + 1, t, s => if okM s && decide (¬ (tkM L s).kind = 3) then (if few t then (itemM L n s).bind fun r => progL L n k (addT t r.1) r.2 else none) else some (t, s)
def progM (L : List Tok) (n : Nat) (s : PS) : Option (TT × PS) := progL L n n (beginM L 0 s, .nil) s
set_option maxHeartbeats 4000000 in
theorem pProgram_spec {L : List Tok} {n : Nat} (hW : TW L) : FnE L 24 (progM L n) := by
  intro H p tv s r h hm
  unfold progM at hm
  obtain ⟨G, hG⟩ : ∃ G, G = H.push (.cells #[iv 0, noS, noS, noS, iv 0, noS] 72) := ⟨_, rfl⟩
  have f0 : Fr [] H G := by rw [hG]; exact Fr.push
  have h0 := h.grow f0
  refine callF_of Tryz.func24 rfl Tryz.ntmps24 Tryz.results24 (by decide) rfl ?_
  simp (disch := omega) only [go_sem, ↓cw_block, dsB_of]
  rw [← hG]
  refine call_to (pBegin_spec h0) ?_
  intro v H1 hv
  refine Hush.out ?_
  obtain ⟨f1, rfl⟩ := hv
  obtain ⟨G1, hG1⟩ : ∃ G, G = H1.push (.cells #[iv 0, noS, noS, noS, iv (tkM L s).pos, noS] 72) := ⟨_, rfl⟩
  have x := XN.new2 (n := beginM L 0 s) h hG f1 hG1 ⟨rfl, rfl, rfl⟩
  have hlow := h.lt
  refine ⟨?_⟩
  simp (disch := omega) only [go_sem, ↓cw_block, dsB_of, nd0, beginM]
  rw [← hG1]
  obtain ⟨wv, nv, kv, lv, ds, x⟩ : ∃ wv nv kv lv ds, XN G _ p tv L H.size H1.size wv nv kv lv ds ((beginM L 0 s, Fo.nil) : TT) s := ⟨_, _, _, _, _, x⟩
  refine loop_by (fun k ρ H2 => ∃ t s1 wv nv kv lv ds, progL L n k t s1 = some r ∧ XN G H2 p tv L H.size H1.size wv nv kv lv ds t s1 ∧ (ρ.get 0 = hp p ∧ ρ.get 2 = hp H.size ∧ ρ.get 3 = hp H1.size ∧ ρ.ds = [])) (k := n) ?_ ?_
  · exact ⟨_, _, _, _, _, _, _, hm, x, by simp (disch := omega) only [go_sem, ↓cw_block, dsB_of]⟩
  · clear x hm
    rintro k ρ H2 ⟨t, s1, wv, nv, kv, lv, ds, hk, x, r0, r2, r3, rd⟩
    cases k with
    | zero => simp [progL] at hk
    | succ k =>
    unfold progL at hk
    simp (disch := omega) only [go_sem, ↓cw_block, dsB_of, r0, r2, r3, rd]
    refine call_to (pOk_spec x.pm) ?_
    rintro _ _ ⟨rfl, rfl⟩
    refine Hush.out ?_
    cases qo : okM s1
    · simp only [qo, Bool.false_and, Bool.false_eq_true, if_false, Option.some.injEq] at hk
      subst hk
      refine ⟨?_⟩
      simp (disch := omega) only [go_sem, ↓cw_block, dsB_of, r0, r2, r3, rd]
      refine Hush.out ?_
      obtain ⟨ld, H6, e1, e2, e3⟩ := x.fin2 hG
      refine ⟨?_⟩
      simp (disch := omega) only [go_sem, ↓cw_block, dsB_of, r0, r2, r3, rd, ld, e1, e2]
      exact fin e3
    · refine ⟨?_⟩
      simp (disch := omega) only [go_sem, ↓cw_block, dsB_of, r0, r2, r3, rd]
      refine call_to (pNow_spec x.pm) ?_
      intro v H3 hv
      refine Hush.out ?_
      obtain ⟨fs, rfl⟩ := hv
      have x := x.grow fs
      by_cases qk : (tkM L s1).kind = 3
      · simp only [qo, qk, not_true, decide_false, Bool.and_false, Bool.false_eq_true, if_false, Option.some.injEq] at hk
        subst hk
        refine ⟨?_⟩
        simp (disch := omega) only [go_sem, ↓cw_block, dsB_of, r0, r2, r3, rd, tokC, qk]
        refine Hush.out ?_
        obtain ⟨ld, H6, e1, e2, e3⟩ := x.fin2 hG
        refine ⟨?_⟩
        simp (disch := omega) only [go_sem, ↓cw_block, dsB_of, r0, r2, r3, rd, ld, e1, e2]
        exact fin e3
      · simp only [qo, qk, not_false_eq_true, decide_true, Bool.and_true, if_true] at hk
        cases qf : few t
        · rw [qf] at hk; simp at hk
        rw [qf] at hk
        simp only [if_true] at hk
        obtain ⟨q2, hq2, hk⟩ := Option.bind_eq_some_iff.1 hk
        refine ⟨?_⟩
        simp (disch := omega) only [go_sem, ↓cw_block, dsB_of, r0, r2, r3, rd, tokC]
        obtain ⟨wv, nv, kv, lv, ds, x⟩ : ∃ wv nv kv lv ds, XN G _ p tv L H.size H1.size wv nv kv lv ds (t : TT) _ := ⟨_, _, _, _, _, x⟩
        obtain ⟨al, cl, elv, hdl⟩ := x.tm.len
        obtain ⟨f1', f2', f3', f4', f5', f6', f7', f8', f9', ew, en, ek⟩ := x.tm.forms
        have hfew : t.2.len < 1000000 := by simpa [few] using qf
        subst ew en ek elv
        refine draw1 (lk [(0, false), (1, false), (2, true)] (.act 3 (.act 4 (.actd 5 (lk [(6, true)] (.actd 7 .fin))) .non) .non)) T.mixed (hlist H1.size 0 _) (heldOK_blk x.tm.box) ?_
        simp (disch := omega) only [go_sem, ↓cw_block, dsB_of, r0, r2, r3, rd]
        refine call_to (pItem_spec hW x.pm hq2) ?_
        intro v H4 hv
        refine Hush.out ?_
        obtain ⟨q4, cp, rfl, t4⟩ := hv
        have x4 := x.step q4
        have t4' := t4.mono (S' := fun b => H.size < b ∧ b ≠ H1.size ∧ b ∉ own (Value.slice al (t).2.len cl)) (by intro b hb _; have := x.tm.box.lt; have := x.tm.gt; exact ⟨by omega, by omega, fun e => by have := x.tm.vec.lt b e; omega⟩)
        obtain ⟨a1, l1, c1', a2, l2, c2', a3, l3, c3, a4, l4, c4, ecp⟩ := t4.form
        subst ecp
        refine ⟨?_⟩
        refine held_by (heldOK_blk x4.tm.box) ?_
        simp (disch := omega) only [go_sem, ↓cw_block, dsB_of, r0, r2, r3, rd]
        refine held_by (heldOK_blk (x4.grow Fr.push).tm.box) ?_
        simp (disch := omega) only [go_sem, ↓cw_block, dsB_of, r0, r2, r3, rd]
        refine app_lit (n := 1) (new := [iv q2.1.1.kind, .slice a1 l1 c1', .slice a2 l2 c2', .slice a3 l3 c3, iv q2.1.1.pos, .slice a4 l4 c4]) T.el70 rfl x4.tm.vec (one_all rfl) rfl (by intro a' l c e; simp only [Value.slice.injEq] at e; obtain ⟨_, rfl, _⟩ := e; first | omega | simp [addT, kindT, Fo.len_snoc, Fo.len]) ?_
        intro v' HZ g1 g2 g3 g4
        refine Hush.out ?_
        obtain ⟨w5, tm5, ow5⟩ := TM.app0 x4.tm t4' g1 g2 g3
        obtain ⟨a6, c6, hv'⟩ := g4 _ _ _ rfl
        subst hv'
        have x := x4.over (t' := addT (t) q2.1) (g2.cat (Fr.set (a := ⟨H1.size, 5, none⟩) (F := [H1.size]) (by simp))) (by intro y hy; simp only [List.mem_append, List.mem_singleton] at hy; rcases hy with hy | hy; exact (x4.tm.ow y hy).1; rw [hy]; exact x4.tm.gt) tm5
        refine ⟨?_⟩
        first | refine held_by (heldOK_blk (g2.blk x4.tm.box (fun e => (x4.tm.ow _ e).2 rfl))) ?_ | skip
        simp (disch := omega) only [go_sem, ↓cw_block, dsB_of, r0, r2, r3, rd, w5]
        exact fin ⟨k, by omega, _, _, _, _, _, _, _, hk, x, by simp (disch := omega) only [go_sem, ↓cw_block, dsB_of, r0, r2, r3, rd]⟩
end Go.Proofs.YtpkfgoemhcgpdaaGreatDoor

