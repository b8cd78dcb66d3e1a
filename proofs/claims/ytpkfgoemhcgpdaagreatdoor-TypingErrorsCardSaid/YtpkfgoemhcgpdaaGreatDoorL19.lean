/- Numbers: what is wrong at a node itself (the program's one). -/
import Derived.Test.YtpkfgoemhcgpdaaGreatDoorL18
import Derived.Test.YtpkfgoemhcgpdaaGreatDoorL16
import Derived.Test.YtpkfgoemhcgpdaaGreatDoorL09
namespace Go.Proofs.YtpkfgoemhcgpdaaGreatDoor
open Go.HL
set_option maxRecDepth 10000
set_option linter.unusedSimpArgs false
set_option linter.unusedVariables false

end Go.Proofs.YtpkfgoemhcgpdaaGreatDoor
namespace Go.HL
/-- What a draw may hold: the cells at some places. -/
def hldL (H : Heap) : List Addr → List (Addr × Value)
  | [] => []
  | a :: r => match cellH H a with
    | some v => (a, v) :: hldL H r
    | none => hldL H r
theorem hld_ok {H : Heap} : ∀ {L : List Addr}, heldOK (hldL H L) H
  | [], a, v, h => by simp [hldL, lookA] at h
  | b :: r, a, v, h => by
    unfold hldL at h
    split at h
    · rename_i w hw
      unfold lookA at h
      split at h
      · rename_i e
        simp only at e h
        subst e
        rw [hw]; exact h
      · exact hld_ok a v h
    · exact hld_ok a v h
theorem hld_at {H : Heap} {a : Addr} {v : Value} (hc : cellH H a = some v) : ∀ {L : List Addr}, a ∈ L → lookA (hldL H L) a = some v
  | [], h => by simp at h
  | b :: r, h => by
    unfold hldL
    by_cases e : b = a
    · subst e
      rw [hc]
      simp [lookA]
    · have hr : a ∈ r := by
        rw [List.mem_cons] at h
        exact h.resolve_left (fun x => e x.symm)
      split
      · unfold lookA
        rw [if_neg (by simpa using e)]
        exact hld_at hc hr
      · exact hld_at hc hr
theorem hld_fr {hl : List (Addr × Value)} {F : List Nat} {H H' : Heap} (h : heldOK hl H) (f : Fr F H H') (hd : ∀ a v, lookA hl a = some v → a.block ∉ F) : heldOK hl H' :=
  fun a v e => f.cell' (h a v e) (hd a v e)
end Go.HL
namespace Go.Proofs.YtpkfgoemhcgpdaaGreatDoor
open Go.HL
set_option maxRecDepth 10000
set_option linter.unusedSimpArgs false
set_option linter.unusedVariables false
def cntC (tv : Value) (s : TS) : List Value := [tv, iv s.c, iv s.p, iv s.v]
/-- No count overflows. -/
def TSok (m : Int) (s : TS) : Prop := (0 ≤ s.c ∧ s.c ≤ m) ∧ (0 ≤ s.p ∧ s.p ≤ m) ∧ (0 ≤ s.v ∧ s.v ≤ m)
def numsOk (n : Nd) : Prop := n.nums.length = (bnds n.kind).length ∧ ∀ u ∈ n.nums, -999999 ≤ u ∧ u ≤ 999999
section
variable {H : Heap} {S : Nat → Prop} {a : AN} {tv : Value} {cb : Nat} {s : TS}
def OneQ (H : Heap) (cb : Nat) (tv : Value) (R : TS × Int) (r : Value) (H' : Heap) : Prop := Fr [cb] H H' ∧ Blk H' cb 77 (cntC tv R.1) ∧ r = iv R.2
set_option maxHeartbeats 4000000 in
theorem tyOne_spec (hb : Blk H cb 77 (cntC tv s)) (hs : TSok 1000000000000 s) (ha : AR H S a) (hS : ∀ b, S b → b ≠ cb) (hn : numsOk a.n) {cp : Int} (hcp : 0 ≤ cp ∧ cp ≤ 999999) {am : Bool} :
    CallF Tryz.prog 47 [hp cb, anV a, iv cp, .bool am] H (fun r H' => OneQ H cb tv (oneT s a.n cp am) r H') NoP := by
  obtain ⟨⟨kind, words, nums, kids, pos⟩, x1, c1, x2, c2, x3, c3, rfl⟩ := ha.open
  obtain ⟨hn1, hn2⟩ := hn
  obtain ⟨⟨sc0, sc1⟩, ⟨sp0, sp1⟩, sv0, sv1⟩ := hs
  simp only at hn1 hn2
  obtain ⟨G, hG⟩ : ∃ G, G = H.push (.cells #[iv kind, .slice x1 words.length c1, .slice x2 nums.length c2, .slice x3 kids.length c3, iv pos] 69) := ⟨_, rfl⟩
  have f0 : Fr [] H G := by rw [hG]; exact Fr.push
  have zG : G.size = H.size + 1 := by rw [hG]; simp
  have hbn : Blk G H.size 69 [iv kind, .slice x1 words.length c1, .slice x2 nums.length c2, .slice x3 kids.length c3, iv pos] := by rw [hG]; exact Blk.new rfl
  have k0 := hbn.cell 0
  have k2 := hbn.cell 2
  simp only [List.getElem?_cons_succ, List.getElem?_cons_zero] at k0 k2
  have hcl := hb.lt
  have hbG := f0.blk hb (by simp)
  have hu := ha.u.frame (Keeps.of_fr f0 (by simp))
  simp only at hu
  refine callF_of Tryz.func47 rfl Tryz.ntmps47 Tryz.results47 (by decide) rfl ?_
  by_cases e1 : kind = 1
  · subst e1
    have hl : nums.length = 4 := by rw [hn1]; rfl
    have g0 := getD_some (l := nums) (d := (0 : Int)) (i := 0) (by omega)
    have m0 := hn2 _ (List.mem_of_getElem? g0)
    have g1 := getD_some (l := nums) (d := (0 : Int)) (i := 1) (by omega)
    have w1 := hbG.wr (i := 1) (by simp [cntC]) (iv (s.c + 1))
    obtain ⟨G1, hG1⟩ : ∃ G1, G1 = setH G ⟨cb, 1, none⟩ (iv (s.c + 1)) := ⟨_, rfl⟩
    have f1 : Fr [cb] G G1 := by rw [hG1]; exact Fr.set (by simp)
    have b1 : Blk G1 cb 77 (cntC tv ⟨s.c + 1, s.p, s.v⟩) := by rw [hG1]; exact hbG.set 1 _
    have kc := hbG.cell 1
    have kc1 := b1.cell 1
    have kn := (f1.blk hbn (by simp; omega)).cell 2
    simp only [cntC, List.getElem?_cons_succ, List.getElem?_cons_zero] at kc kc1 kn
    have hu1 := hu.frame (Keeps.of_fr f1 (fun b hb => by have := hS b hb; simpa using this))
    obtain ⟨b, o, cc, q1, -, q2⟩ := hu1.at1 g0
    simp only [Value.slice.injEq, true_and] at q1
    obtain ⟨rfl, rfl⟩ := q1
    obtain ⟨b', o', cc', p1, -, p2⟩ := hu1.at1 g1
    simp only [Value.slice.injEq, Option.some.injEq, Addr.mk.injEq, and_true, true_and] at p1
    obtain ⟨⟨rfl, rfl⟩, rfl⟩ := p1
    rw [Nat.add_zero] at q2
    generalize hu0 : nums.getD 0 0 = u0 at *
    generalize hu1' : nums.getD 1 0 = u1 at *
    have hR : oneT s ⟨1, words, nums, kids, pos⟩ cp am = (⟨s.c + 1, s.p, s.v⟩, if s.c + 1 ≤ 3 ∧ (1 ≤ u0 ∧ u0 ≤ 3) ∧ (1 ≤ u1 ∧ u1 ≤ 8) then 0 else 22) := by
      unfold oneT n0 n1; simp only; rw [hu0, hu1']; rfl
    rw [hR]
    have hfr : Fr [cb] H G1 := f0.nil.trans f1
    by_cases d1 : s.c + 1 ≤ 3
    rotate_left
    · simp (disch := omega) only [go_sem, ↓cw_block, dsB_of, anV]
      rw [← hG]
      try (simp (disch := omega) only [go_sem, ↓cw_block, dsB_of, k0, kc, w1])
      rw [← hG1]
      try (simp (disch := omega) only [go_sem, ↓cw_block, dsB_of, kc1, kn, q2, p2])
      exact fin ⟨hfr, b1, by rw [if_neg (fun e => d1 e.1)]⟩
    simp (disch := omega) only [go_sem, ↓cw_block, dsB_of, anV]
    rw [← hG]
    try (simp (disch := omega) only [go_sem, ↓cw_block, dsB_of, k0, kc, w1])
    rw [← hG1]
    try (simp (disch := omega) only [go_sem, ↓cw_block, dsB_of, kc1, kn, q2, p2])
    refine call_to tyWithin_spec ?_
    rintro _ _ ⟨rfl, rfl⟩
    by_cases d2 : 1 ≤ u0 ∧ u0 ≤ 3
    rotate_left
    · rw [decide_eq_false d2]
      simp (disch := omega) only [go_sem, ↓cw_block, dsB_of, kc1, kn, q2, p2]
      exact fin ⟨hfr, b1, by rw [if_neg (fun e => d2 e.2.1)]⟩
    rw [decide_eq_true d2]
    simp (disch := omega) only [go_sem, ↓cw_block, dsB_of, kc1, kn, q2, p2]
    refine call_to tyWithin_spec ?_
    rintro _ _ ⟨rfl, rfl⟩
    by_cases d3 : 1 ≤ u1 ∧ u1 ≤ 8
    rotate_left
    · rw [decide_eq_false d3]
      simp (disch := omega) only [go_sem, ↓cw_block, dsB_of]
      exact fin ⟨hfr, b1, by rw [if_neg (fun e => d3 e.2.2)]⟩
    rw [decide_eq_true d3]
    simp (disch := omega) only [go_sem, ↓cw_block, dsB_of]
    exact fin ⟨hfr, b1, by rw [if_pos ⟨d1, d2, d3⟩]⟩
  by_cases e2 : kind = 2
  · subst e2
    have hl : nums.length = 2 := by rw [hn1]; rfl
    have g0 := getD_some (l := nums) (d := (0 : Int)) (i := 0) (by omega)
    have m0 := hn2 _ (List.mem_of_getElem? g0)
    have g1 := getD_some (l := nums) (d := (0 : Int)) (i := 1) (by omega)
    have w1 := hbG.wr (i := 3) (by simp [cntC]) (iv (s.v + cp))
    obtain ⟨G1, hG1⟩ : ∃ G1, G1 = setH G ⟨cb, 3, none⟩ (iv (s.v + cp)) := ⟨_, rfl⟩
    have f1 : Fr [cb] G G1 := by rw [hG1]; exact Fr.set (by simp)
    have b1 : Blk G1 cb 77 (cntC tv ⟨s.c, s.p, s.v + cp⟩) := by rw [hG1]; exact hbG.set 3 _
    have kc := hbG.cell 3
    have kc1 := b1.cell 3
    have kn := (f1.blk hbn (by simp; omega)).cell 2
    simp only [cntC, List.getElem?_cons_succ, List.getElem?_cons_zero] at kc kc1 kn
    have hu1 := hu.frame (Keeps.of_fr f1 (fun b hb => by have := hS b hb; simpa using this))
    obtain ⟨b, o, cc, q1, -, q2⟩ := hu1.at1 g0
    simp only [Value.slice.injEq, true_and] at q1
    obtain ⟨rfl, rfl⟩ := q1
    obtain ⟨b', o', cc', p1, -, p2⟩ := hu1.at1 g1
    simp only [Value.slice.injEq, Option.some.injEq, Addr.mk.injEq, and_true, true_and] at p1
    obtain ⟨⟨rfl, rfl⟩, rfl⟩ := p1
    rw [Nat.add_zero] at q2
    generalize hu0 : nums.getD 0 0 = u0 at *
    generalize hu1' : nums.getD 1 0 = u1 at *
    have hR : oneT s ⟨2, words, nums, kids, pos⟩ cp am = (⟨s.c, s.p, s.v + cp⟩, if s.v + cp ≤ 8 ∧ (1 ≤ u0 ∧ u0 ≤ 8) ∧ trimI u1 u0 = u1 then 0 else 22) := by
      unfold oneT n0 n1; simp only; rw [hu0, hu1']; rfl
    rw [hR]
    have hfr : Fr [cb] H G1 := f0.nil.trans f1
    obtain ⟨hl', hhl⟩ : ∃ hl', hl' = hldL G1 [⟨H.size, 2, none⟩, ⟨b, o, none⟩, ⟨b, o + 1, none⟩] := ⟨_, rfl⟩
    have hok : heldOK hl' G1 := by rw [hhl]; exact hld_ok
    have l2 : lookA hl' ⟨H.size, 2, none⟩ = some (.slice (some ⟨b, o, none⟩) nums.length c2) := by rw [hhl]; exact hld_at kn (by simp)
    have l0 : lookA hl' ⟨b, o, none⟩ = some (iv u0) := by rw [hhl]; exact hld_at q2 (by simp)
    have l1 : lookA hl' ⟨b, o + 1, none⟩ = some (iv u1) := by rw [hhl]; exact hld_at p2 (by simp)
    by_cases d1 : s.v + cp ≤ 8
    rotate_left
    · simp (disch := omega) only [go_sem, ↓cw_block, dsB_of, anV]
      rw [← hG]
      try (simp (disch := omega) only [go_sem, ↓cw_block, dsB_of, k0, kc, w1])
      rw [← hG1]
      refine draw0 (lk [(0, true), (1, true), (2, true), (3, true), (4, true), (5, true), (6, true), (7, true), (8, true), (9, true)] (.act 10 (lk [(11, true), (12, true), (13, true), (14, true), (15, true), (16, true), (17, true), (18, true), (19, true), (20, true), (22, false), (23, false), (24, false), (25, false)] (.act 21 (lk [(26, true), (27, true), (28, true)] .fin) .non)) .non)) T.mixed ?_
      try (simp (disch := omega) only [go_sem, ↓cw_block, dsB_of, kc1, kn, q2, p2])
      exact fin ⟨hfr, b1, by rw [if_neg (fun e => d1 e.1)]⟩
    simp (disch := omega) only [go_sem, ↓cw_block, dsB_of, anV]
    rw [← hG]
    try (simp (disch := omega) only [go_sem, ↓cw_block, dsB_of, k0, kc, w1])
    rw [← hG1]
    refine draw1 (lk [(0, true), (1, true), (2, true), (3, true), (4, true), (5, true), (6, true), (7, true), (8, true), (9, true)] (.act 10 (lk [(11, true), (12, true), (13, true), (14, true), (15, true), (16, true), (17, true), (18, true), (19, true), (20, true), (22, false), (23, false), (24, false), (25, false)] (.act 21 (lk [(26, true), (27, true), (28, true)] .fin) .non)) .non)) T.mixed hl' hok ?_
    try (simp (disch := omega) only [go_sem, ↓cw_block, dsB_of, kc1, kn, q2, p2, l2, l0, l1])
    try refine held_by hok ?_
    try (simp (disch := omega) only [go_sem, ↓cw_block, dsB_of, kc1, kn, q2, p2, l2, l0, l1])
    refine call_to tyWithin_spec ?_
    rintro _ _ ⟨rfl, rfl⟩
    by_cases d2 : 1 ≤ u0 ∧ u0 ≤ 8
    rotate_left
    · rw [decide_eq_false d2]
      try refine held_by hok ?_
      simp (disch := omega) only [go_sem, ↓cw_block, dsB_of, kc1, kn, q2, p2, l2, l0, l1]
      refine held_by hok ?_
      simp (disch := omega) only [go_sem, ↓cw_block, dsB_of, kc1, kn, q2, p2, l2, l0, l1]
      exact fin ⟨hfr, b1, by rw [if_neg (fun e => d2 e.2.1)]⟩
    rw [decide_eq_true d2]
    try refine held_by hok ?_
    try (simp (disch := omega) only [go_sem, ↓cw_block, dsB_of, kc1, kn, q2, p2, l2, l0, l1])
    try refine held_by hok ?_
    try (simp (disch := omega) only [go_sem, ↓cw_block, dsB_of, kc1, kn, q2, p2, l2, l0, l1])
    refine call_to (bTrim_spec d2.1 d2.2) ?_
    rintro _ _ ⟨rfl, rfl⟩
    try refine held_by hok ?_
    by_cases d3 : trimI u1 u0 = u1
    rotate_left
    · have d3' : decide (trimI u1 u0 = u1) = false := decide_eq_false d3
      simp (disch := omega) only [go_sem, ↓cw_block, dsB_of, kc1, kn, q2, p2, l2, l0, l1, d3']
      exact fin ⟨hfr, b1, by rw [if_neg (fun e => d3 e.2.2)]⟩
    have d3' : decide (trimI u1 u0 = u1) = true := decide_eq_true d3
    simp (disch := omega) only [go_sem, ↓cw_block, dsB_of, kc1, kn, q2, p2, l2, l0, l1, d3']
    exact fin ⟨hfr, b1, by rw [if_pos ⟨d1, d2, d3⟩]⟩
  by_cases e3 : kind = 3
  · subst e3
    have hl : nums.length = 1 := by rw [hn1]; rfl
    have g0 := getD_some (l := nums) (d := (0 : Int)) (i := 0) (by omega)
    have m0 := hn2 _ (List.mem_of_getElem? g0)
    obtain ⟨ub, uo, uc, ue, -, uq⟩ := hu.at1 g0
    simp only [Value.slice.injEq, true_and] at ue
    obtain ⟨rfl, rfl⟩ := ue
    rw [Nat.add_zero] at uq
    have hcl' : True := trivial
    have w1 := hbG.wr (i := 2) (by simp [cntC]) (iv (s.p + nums.getD 0 0))
    obtain ⟨G1, hG1⟩ : ∃ G1, G1 = setH G ⟨cb, 2, none⟩ (iv (s.p + nums.getD 0 0)) := ⟨_, rfl⟩
    have f1 : Fr [cb] G G1 := by rw [hG1]; exact Fr.set (by simp)
    have b1 : Blk G1 cb 77 (cntC tv ⟨s.c, s.p + nums.getD 0 0, s.v⟩) := by rw [hG1]; exact hbG.set 2 _
    have kc := hbG.cell 2
    have kc1 := b1.cell 2
    have kn := (f1.blk hbn (by simp; omega)).cell 2
    simp only [cntC, List.getElem?_cons_succ, List.getElem?_cons_zero] at kc kc1 kn
    have hu1 := hu.frame (Keeps.of_fr f1 (fun b hb => by have := hS b hb; simpa using this))
    obtain ⟨b', o', cc', p1, -, q2⟩ := hu1.at1 g0
    simp only [Value.slice.injEq, Option.some.injEq, Addr.mk.injEq, and_true, true_and] at p1
    obtain ⟨⟨rfl, rfl⟩, rfl⟩ := p1
    rw [Nat.add_zero] at q2
    generalize hu0 : nums.getD 0 0 = u0 at *
    have hR : oneT s ⟨3, words, nums, kids, pos⟩ cp am = (⟨s.c, s.p + u0, s.v⟩, if s.p + u0 ≤ 4 ∧ 1 ≤ u0 ∧ u0 ≤ 4 then 0 else 22) := by
      unfold oneT n0; simp only; rw [hu0]; rfl
    rw [hR]
    have hfr : Fr [cb] H G1 := f0.nil.trans f1
    simp (disch := omega) only [go_sem, ↓cw_block, dsB_of, anV]
    rw [← hG]
    try (simp (disch := omega) only [go_sem, ↓cw_block, dsB_of, k0])
    refine draw0 (lk [(0, true), (1, true), (2, true), (3, true), (4, true), (5, true), (6, true), (7, true), (8, true), (9, true), (10, true)] (.act 11 .fin .non)) T.mixed ?_
    by_cases d1 : s.p + u0 ≤ 4
    rotate_left
    · simp (disch := omega) only [go_sem, ↓cw_block, dsB_of, kc, k2, uq, w1]
      rw [← hG1]
      try (simp (disch := omega) only [go_sem, ↓cw_block, dsB_of, kc1, kn, q2])
      exact fin ⟨hfr, b1, by rw [if_neg (fun e => d1 e.1)]⟩
    by_cases d2 : 1 ≤ u0
    rotate_left
    · simp (disch := omega) only [go_sem, ↓cw_block, dsB_of, kc, k2, uq, w1]
      rw [← hG1]
      try (simp (disch := omega) only [go_sem, ↓cw_block, dsB_of, kc1, kn, q2])
      exact fin ⟨hfr, b1, by rw [if_neg (fun e => d2 e.2.1)]⟩
    by_cases d3 : u0 ≤ 4
    rotate_left
    · simp (disch := omega) only [go_sem, ↓cw_block, dsB_of, kc, k2, uq, w1]
      rw [← hG1]
      try (simp (disch := omega) only [go_sem, ↓cw_block, dsB_of, kc1, kn, q2])
      exact fin ⟨hfr, b1, by rw [if_neg (fun e => d3 e.2.2)]⟩
    simp (disch := omega) only [go_sem, ↓cw_block, dsB_of, kc, k2, uq, w1]
    rw [← hG1]
    try (simp (disch := omega) only [go_sem, ↓cw_block, dsB_of, kc1, kn, q2])
    exact fin ⟨hfr, b1, by rw [if_pos ⟨d1, d2, d3⟩]⟩
  by_cases e17 : kind = 17
  · subst e17
    have hl : nums.length = 1 := by rw [hn1]; rfl
    have g0 := getD_some (l := nums) (d := (0 : Int)) (i := 0) (by omega)
    have m0 := hn2 _ (List.mem_of_getElem? g0)
    obtain ⟨b, o, cc, q1, -, q2⟩ := hu.at1 g0
    simp only [Value.slice.injEq, true_and] at q1
    obtain ⟨rfl, rfl⟩ := q1
    rw [Nat.add_zero] at q2
    generalize hu0 : nums.getD 0 0 = u0 at *
    have hR : oneT s ⟨17, words, nums, kids, pos⟩ cp am = (s, if 0 ≤ u0 ∧ u0 ≤ 127 then 0 else 22) := by
      unfold oneT n0; simp only; rw [hu0]; rfl
    rw [hR]
    by_cases d2 : 0 ≤ u0
    rotate_left
    · simp (disch := omega) only [go_sem, ↓cw_block, dsB_of, anV]
      rw [← hG]
      try (simp (disch := omega) only [go_sem, ↓cw_block, dsB_of, k0, k2, q2])
      exact fin ⟨f0.nil, hbG, by rw [if_neg (fun e => d2 e.1)]⟩
    by_cases d3 : u0 ≤ 127
    rotate_left
    · simp (disch := omega) only [go_sem, ↓cw_block, dsB_of, anV]
      rw [← hG]
      try (simp (disch := omega) only [go_sem, ↓cw_block, dsB_of, k0, k2, q2])
      exact fin ⟨f0.nil, hbG, by rw [if_neg (fun e => d3 e.2)]⟩
    simp (disch := omega) only [go_sem, ↓cw_block, dsB_of, anV]
    rw [← hG]
    try (simp (disch := omega) only [go_sem, ↓cw_block, dsB_of, k0, k2, q2])
    exact fin ⟨f0.nil, hbG, by rw [if_pos ⟨d2, d3⟩]⟩
  by_cases e13 : kind = 13
  · subst e13
    have hR : oneT s ⟨13, words, nums, kids, pos⟩ cp am = (s, if am then 21 else 0) := by
      rfl
    rw [hR]
    cases am
    · simp (disch := omega) only [go_sem, ↓cw_block, dsB_of, anV]
      rw [← hG]
      try (simp (disch := omega) only [go_sem, ↓cw_block, dsB_of, k0])
      exact fin ⟨f0.nil, hbG, rfl⟩
    · simp (disch := omega) only [go_sem, ↓cw_block, dsB_of, anV]
      rw [← hG]
      try (simp (disch := omega) only [go_sem, ↓cw_block, dsB_of, k0])
      exact fin ⟨f0.nil, hbG, rfl⟩
  have hR : oneT s ⟨kind, words, nums, kids, pos⟩ cp am = (s, 0) := by
    unfold oneT; simp only; rw [if_neg e1, if_neg e2, if_neg e3, if_neg e17, if_neg e13]
  rw [hR]
  simp (disch := omega) only [go_sem, ↓cw_block, dsB_of, anV]
  rw [← hG]
  try (simp (disch := omega) only [go_sem, ↓cw_block, dsB_of, k0])
  exact fin ⟨f0.nil, hbG, rfl⟩
end
end Go.Proofs.YtpkfgoemhcgpdaaGreatDoor

namespace Go.Proofs.YtpkfgoemhcgpdaaGreatDoor
open Go.HL
set_option maxRecDepth 10000
set_option linter.unusedSimpArgs false
set_option linter.unusedVariables false

theorem numsOk_of {l : List Nd} (h : prRightM l = true) {i : Nat} (hi : i < l.length) : numsOk (nodeAt l i) := by
  have hn := (tre_of h).node i hi
  unfold nodeP at hn
  simp only [Bool.and_eq_true] at hn
  have h2 := hn.2.1
  unfold withinM at h2
  rw [Bool.and_eq_true, allR_iff, decide_eq_true_eq] at h2
  obtain ⟨a, b⟩ := h2
  refine ⟨a, fun u hu => ?_⟩
  obtain ⟨j, hj⟩ := List.getElem?_of_mem hu
  have hjl := (List.getElem?_eq_some_iff.1 hj).1
  have hb := b j (by omega)
  simp only [Bool.and_eq_true, decide_eq_true_eq] at hb
  have e : (nodeAt l i).nums.getD j 0 = u := by rw [List.getD_eq_getElem?_getD, hj]; rfl
  rw [e] at hb
  have hbn : ∀ k, ∀ p ∈ bnds k, -999999 ≤ p.1 ∧ p.2 ≤ 999999 := by
    intro k p hp
    unfold bnds at hp
    repeat' split at hp
    all_goals simp at hp
    all_goals first | (rcases hp with rfl | rfl | rfl | rfl <;> decide) | (rcases hp with rfl | rfl <;> decide) | (subst hp; decide)
  have hm := hbn _ _ (List.mem_of_getElem? (getD_some (d := ((0 : Int), (0 : Int))) (l := bnds (nodeAt l i).kind) (i := j) (by omega)))
  omega
theorem oneT_ok {m : Int} {s : TS} {n : Nd} {cp : Int} {am : Bool} (h : TSok m s) (hc : 0 ≤ cp ∧ cp ≤ 999999) (hn : n.kind = 3 → 0 ≤ n0 n ∧ n0 n ≤ 999999) : TSok (m + 1000000) (oneT s n cp am).1 := by
  unfold TSok at *
  unfold oneT
  split
  · simp only; omega
  · split
    · simp only; omega
    · split
      · rename_i e; have := hn e; simp only; omega
      · split
        · simp only; omega
        · split
          · simp only; omega
          · simp only; omega
theorem kidsT_ok {l : List Nd} {ih : Nat → Nat × Bool} {f : Nat → Int → Bool → TS → TS × Option (Int × Nat)} {cp : Int} {am : Bool}
    (h : ∀ i e s m, i < l.length → ih i = (e, true) → TSok m s → i < e ∧ e ≤ l.length ∧ TSok (m + 1000000 * ((e : Int) - i)) (f i cp am s).1) :
    ∀ (ks : List Int) (i e : Nat) (s : TS) (m : Int), i ≤ l.length → walkK l ih ks i = (e, true) → TSok m s → i ≤ e ∧ TSok (m + 1000000 * ((e : Int) - i)) (kidsT f ks cp am s).1
  | [], i, e, s, m, hi, hw, hs => by
    simp [walkK] at hw
    subst hw
    unfold TSok at *
    simp only [kidsT]; omega
  | k :: ks, i, e, s, m, hi, hw, hs => by
    unfold walkK at hw
    split at hw
    · rename_i hcd
      split at hw
      · rename_i hok
        obtain ⟨a1, a2, a3⟩ := h i (ih i).1 s m hcd.2 (by rw [← hok]) hs
        have hki : k.toNat = i := by rw [hcd.1]; simp
        obtain ⟨b1, b2⟩ := kidsT_ok h ks (ih i).1 e _ _ a2 hw a3
        refine ⟨by omega, ?_⟩
        unfold kidsT
        rw [hki]
        cases (f i cp am s).2 with
        | none =>
          simp only
          have e1 : m + 1000000 * (((ih i).1 : Int) - i) + 1000000 * ((e : Int) - (ih i).1) = m + 1000000 * ((e : Int) - i) := by omega
          rw [← e1]; exact b2
        | some x =>
          simp only
          unfold TSok at *
          omega
      · simp at hw
    · simp at hw
theorem nodeT_ok {l : List Nd} (hr : prRightM l = true) : ∀ (d i e : Nat) (cp : Int) (am : Bool) (s : TS) (m : Int), i < l.length → walkM l d i = (e, true) → (0 ≤ cp ∧ cp ≤ 999999) → TSok m s → TSok (m + 1000000 * ((e : Int) - i)) (nodeT l d i cp am s).1
  | 0, i, e, cp, am, s, m, hi, hw, _, _ => by simp [walkM] at hw
  | d + 1, i, e, cp, am, s, m, hi, hw, hc, hs => by
    unfold walkM at hw
    have hcp : 0 ≤ (if (nodeAt l i).kind = 3 then n0 (nodeAt l i) else cp) ∧ (if (nodeAt l i).kind = 3 then n0 (nodeAt l i) else cp) ≤ 999999 := by
      split
      · rename_i hk; exact n0_rng hr hi (.inr (.inr (.inl hk)))
      · exact hc
    have h1 := oneT_ok (am := am) hs hc (fun hk => n0_rng hr hi (.inr (.inr (.inl hk))))
    unfold nodeT
    split
    · obtain ⟨b1, b2⟩ := kidsT_ok (l := l) (ih := walkM l d) (f := nodeT l d) (cp := if (nodeAt l i).kind = 3 then n0 (nodeAt l i) else cp) (am := if (nodeAt l i).kind = 13 then true else am) (fun i' e' s' m' hi' hw' hs' => by
        have := walkM_ok d i' e' hi' hw'
        exact ⟨this.1, this.2.1, nodeT_ok hr d i' e' _ _ s' m' hi' hw' hcp hs'⟩) (l.getD i nd0').kids (i + 1) e _ _ (by omega) hw h1
      have e1 : m + 1000000 + 1000000 * ((e : Int) - ((i + 1 : Nat) : Int)) = m + 1000000 * ((e : Int) - i) := by push_cast; omega
      rw [← e1]; exact b2
    · have b1 := (kidsT_ok (l := l) (ih := walkM l d) (f := nodeT l d) (cp := if (nodeAt l i).kind = 3 then n0 (nodeAt l i) else cp) (am := if (nodeAt l i).kind = 13 then true else am) (fun i' e' s' m' hi' hw' hs' => by
        have := walkM_ok d i' e' hi' hw'
        exact ⟨this.1, this.2.1, nodeT_ok hr d i' e' _ _ s' m' hi' hw' hcp hs'⟩) (l.getD i nd0').kids (i + 1) e _ _ (by omega) hw h1).1
      unfold TSok at *
      simp only
      omega
theorem kidsT_err {f : Nat → Int → Bool → TS → TS × Option (Int × Nat)} (h : ∀ i cp am s x, (f i cp am s).2 = some x → x.1 ≠ 0) : ∀ (ks : List Int) (cp : Int) (am : Bool) (s : TS) x, (kidsT f ks cp am s).2 = some x → x.1 ≠ 0
  | [], cp, am, s, x, hx => by simp [kidsT] at hx
  | k :: ks, cp, am, s, x, hx => by
    unfold kidsT at hx
    cases hq : (f k.toNat cp am s).2 with
    | none => rw [hq] at hx; exact kidsT_err h ks cp am _ x hx
    | some y =>
      rw [hq] at hx
      simp only [Option.some.injEq] at hx
      subst hx
      exact h _ _ _ _ _ hq
theorem nodeT_err {l : List Nd} : ∀ (d i : Nat) (cp : Int) (am : Bool) (s : TS) x, (nodeT l d i cp am s).2 = some x → x.1 ≠ 0
  | 0, i, cp, am, s, x, h => by simp [nodeT] at h
  | d + 1, i, cp, am, s, x, h => by
    unfold nodeT at h
    split at h
    · exact kidsT_err (fun i cp am s x h => nodeT_err d i cp am s x h) _ _ _ _ _ h
    · rename_i hne
      simp only [Option.some.injEq] at h
      subst h
      exact hne
section
variable {H X : Heap} {S : Nat → Prop} {v : Value} {l : List Nd} {cb : Nat}
theorem flt_res2 {F : List Nat} (f : Fr F (H.push (.cells #[iv 0, iv 0] 25)) X) (hF : ∀ b ∈ F, b < H.size) (e p : Int) : ∃ X', storeA Tryz.prog X 25 ⟨H.size, 0, none⟩ (.agg #[iv e, iv p]) = some X' ∧ cellsH (cellH X') ⟨H.size, 0, none⟩ 0 2 = some [iv e, iv p] ∧ Fr F H X' ∧ Fr [H.size] X X' := by
  have hb : Blk X H.size 25 [iv 0, iv 0] := f.blk (Blk.new rfl) (fun h => by have := hF _ h; omega)
  obtain ⟨X', e1, e2, e3⟩ := store_blk (P := Tryz.prog) (ty := 25) (new := [iv e, iv p]) hb rfl T.size25 (one_all rfl)
  have f0 : Fr F H X := ((Fr.push (F := []) (o := .cells #[iv 0, iv 0] 25)).nil).trans f
  exact ⟨X', e1, e2.cells0, Fr.more f0 e3 (by simp), e3⟩
def NodeQ (H : Heap) (cb : Nat) (v : Value) (l : List Nd) (R : TS × Option (Int × Nat)) (r : Value) (H' : Heap) : Prop := Fr [cb] H H' ∧ Blk H' cb 77 (cntC v R.1) ∧ r = fltV (fltE l R.2)
set_option maxHeartbeats 4000000 in
theorem tyNode_spec (hz : Sz l) (hr : prRightM l = true) (hS : ∀ b, S b → b ≠ cb) : ∀ (d : Nat) {H : Heap} {i e : Nat} {cp : Int} {am : Bool} {s : TS} {m : Int}, NL H S v l → Blk H cb 77 (cntC v s) → i < l.length → walkM l d i = (e, true) → (0 ≤ cp ∧ cp ≤ 999999) → TSok m s → m + 1000000 * ((e : Int) - i) ≤ 1000000000 →
    CallF Tryz.prog 28 [hp cb, iv i, iv cp, .bool am] H (fun r H' => NodeQ H cb v l (nodeT l d i cp am s) r H') NoP := by
  intro d
  have hzl := hz.len
  induction d with
  | zero =>
    intro H i e cp am s m h hb hi hw
    simp [walkM] at hw
  | succ d IH =>
    intro H i e cp am s m h hb hi hw hc hs hm
    obtain ⟨o1, o2, o3⟩ := walkM_ok (d + 1) i e hi hw
    have hgi := getD_some (d := nd0') hi
    obtain ⟨tb, to, tc, a, q1, q2, ar, ld, -⟩ := h.row hgi
    have hna : a.n = nodeAt l i := q2
    have hnum : numsOk a.n := by rw [hna]; exact numsOk_of hr hi
    have hcb := hb.lt
    have hw' := hw
    unfold walkM at hw'
    have hn3 : (nodeAt l i).kind = 3 → 0 ≤ n0 (nodeAt l i) ∧ n0 (nodeAt l i) ≤ 999999 := fun hk => n0_rng hr hi (.inr (.inr (.inl hk)))
    subst q1
    have cT := hb.cell 0
    simp only [cntC, List.getElem?_cons_zero] at cT
    obtain ⟨A0, hA0⟩ : ∃ A, A = H.push (.cells #[iv 0, iv 0] 25) := ⟨_, rfl⟩
    have g0 : Fr [] H A0 := by rw [hA0]; exact Fr.push
    have z0 : A0.size = H.size + 1 := by rw [hA0]; simp
    have cT0 := g0.cell' cT (by simp)
    have ld0 := ((h.grow g0).row hgi)
    obtain ⟨tb', to', tc', a', q1', q2', ar0, ld0, -⟩ := ld0
    simp only [Value.slice.injEq, Option.some.injEq, Addr.mk.injEq, and_true, true_and] at q1'
    obtain ⟨⟨rfl, rfl⟩, rfl⟩ := q1'
    have hna' : a'.n = nodeAt l i := q2'
    have hnd : l.getD i nd0' = nodeAt l i := rfl
    rw [hnd] at ld0
    obtain ⟨nn, x1, c1, x2, c2, x3, c3, rfl⟩ := ar0.open
    simp only at hna' ld0
    subst hna'
    obtain ⟨A1, hA1⟩ : ∃ A, A = A0.push (.cells #[iv (nodeAt l i).kind, .slice x1 (nodeAt l i).words.length c1, .slice x2 (nodeAt l i).nums.length c2, .slice x3 (nodeAt l i).kids.length c3, iv (nodeAt l i).pos] 69) := ⟨_, rfl⟩
    have g1 : Fr [] A0 A1 := by rw [hA1]; exact Fr.push
    have z1 : A1.size = A0.size + 1 := by rw [hA1]; simp
    have bn : Blk A1 A0.size 69 [iv (nodeAt l i).kind, .slice x1 (nodeAt l i).words.length c1, .slice x2 (nodeAt l i).nums.length c2, .slice x3 (nodeAt l i).kids.length c3, iv (nodeAt l i).pos] := by rw [hA1]; exact Blk.new rfl
    have ldn := bn.cells0
    simp only [List.length_cons, List.length_nil] at ldn
    have g01 := g0.trans g1
    have ar1 := (ar0.frame (Keeps.of_fr g1 (by simp)))
    have bC1 := g01.blk hb (by simp)
    have hone := tyOne_spec (am := am) (cp := cp) bC1 (by unfold TSok at *; omega) ar1 hS (numsOk_of hr hi) hc
    refine callF_of Tryz.func28 rfl Tryz.ntmps28 Tryz.results28 (by decide) rfl ?_
    simp (disch := omega) only [go_sem, ↓cw_block, dsB_of]
    rw [← hA0]
    simp (disch := omega) only [go_sem, ↓cw_block, dsB_of, cT0, ld0]
    rw [← hA1]
    try (simp (disch := omega) only [go_sem, ↓cw_block, dsB_of, ldn])
    refine call_to hone ?_
    intro r1 H1 hv
    refine Hush.out ?_
    obtain ⟨f2, b2, rfl⟩ := hv
    obtain ⟨R1, hR1⟩ : ∃ R1, R1 = oneT s (nodeAt l i) cp am := ⟨_, rfl⟩
    rw [← hR1] at b2 ⊢
    have hsok : TSok (m + 1000000) R1.1 := by rw [hR1]; exact oneT_ok hs hc hn3
    have z2 := f2.size
    have bn2 : Blk H1 A0.size 69 _ := f2.blk bn (by simp; omega)
    have f02 : Fr [cb] A0 H1 := g1.nil.trans f2
    have fH2 : Fr [cb] H H1 := g0.nil.trans f02
    by_cases he : R1.2 = 0
    rotate_left
    · have hnode : nodeT l (d + 1) i cp am s = (R1.1, some (R1.2, i)) := by
        unfold nodeT; rw [← hR1, if_neg he]
      have c4 := bn2.cell 4
      simp only [List.getElem?_cons_succ, List.getElem?_cons_zero] at c4
      obtain ⟨X', e1, e2, e3, e4⟩ := flt_res2 (H := H) (X := H1) (F := [cb]) (by rw [← hA0]; exact f02) (by simp; omega) R1.2 (nodeAt l i).pos
      rw [hnode]
      refine ⟨?_⟩
      simp (disch := omega) only [go_sem, ↓cw_block, dsB_of, c4, e1, e2]
      exact fin ⟨e3, e4.blk b2 (by simp; omega), rfl⟩
    have hnode : nodeT l (d + 1) i cp am s = kidsT (nodeT l d) (nodeAt l i).kids (if (nodeAt l i).kind = 3 then n0 (nodeAt l i) else cp) (if (nodeAt l i).kind = 13 then true else am) R1.1 := by
      unfold nodeT; rw [← hR1, if_pos he]
    obtain ⟨R, hR⟩ : ∃ R, R = nodeT l (d + 1) i cp am s := ⟨_, rfl⟩
    rw [← hR]
    rw [hnode] at hR
    have c0 := bn2.cell 0
    have c2' := bn2.cell 2
    have c3' := bn2.cell 3
    simp only [List.getElem?_cons_succ, List.getElem?_cons_zero] at c0 c2' c3'
    obtain ⟨cp', hcp'⟩ : ∃ cp', cp' = (if (nodeAt l i).kind = 3 then n0 (nodeAt l i) else cp) := ⟨_, rfl⟩
    obtain ⟨am', ham'⟩ : ∃ am', am' = (if (nodeAt l i).kind = 13 then true else am) := ⟨_, rfl⟩
    have hcp : 0 ≤ cp' ∧ cp' ≤ 999999 := by
      rw [hcp']
      split
      · rename_i hk; exact hn3 hk
      · exact hc
    rw [← hcp', ← ham'] at hR
    have hu2 := ar1.u.frame (Keeps.of_fr f2 (fun b hb => by have := hS b hb; simpa using this))
    have hk0 := ar0.k
    simp only at hu2 hk0
    have hnl : (nodeAt l i).nums.length = (bnds (nodeAt l i).kind).length := (numsOk_of hr hi).1
    refine ⟨?_⟩
    simp (disch := omega) only [go_sem, dsB_of, c0, he]
    refine cut_at (fun ρ H2 => H1 = H2 ∧ (ρ.get 0 = hp cb ∧ ρ.get 2 = iv cp' ∧ ρ.get 3 = .bool am' ∧ ρ.get 8 = hp H.size ∧ ρ.get 9 = hp A0.size ∧ ρ.ds = [])) ?_ ?_
    · by_cases k3 : (nodeAt l i).kind = 3
      · have g0' := getD_some (l := (nodeAt l i).nums) (d := (0 : Int)) (i := 0) (by rw [hnl, k3]; decide)
        obtain ⟨ub, uo, uc, ue, -, uq⟩ := hu2.at1 g0'
        simp only [Value.slice.injEq, true_and] at ue
        obtain ⟨rfl, rfl⟩ := ue
        rw [Nat.add_zero] at uq
        have e1 : (nodeAt l i).nums.getD 0 0 = cp' := by rw [hcp', if_pos k3]; rfl
        rw [e1] at uq
        have e2 : am' = am := by rw [ham', if_neg (by omega)]
        have hl0 : 0 < (nodeAt l i).nums.length := by rw [hnl, k3]; decide
        subst e2
        simp (disch := omega) only [go_sem, ↓cw_block, dsB_of, c0, c2', uq, k3]
        exact fin ⟨rfl, by simp (disch := omega) only [go_sem, ↓cw_block, dsB_of]⟩
      · have e1 : cp' = cp := by rw [hcp', if_neg k3]
        by_cases k13 : (nodeAt l i).kind = 13
        · have e2 : am' = true := by rw [ham', if_pos k13]
          subst e1 e2
          simp (disch := omega) only [go_sem, ↓cw_block, dsB_of, c0, k13]
          exact fin ⟨rfl, by simp (disch := omega) only [go_sem, ↓cw_block, dsB_of]⟩
        · have e2 : am' = am := by rw [ham', if_neg k13]
          subst e1 e2
          simp (disch := omega) only [go_sem, ↓cw_block, dsB_of, c0]
          exact fin ⟨rfl, by simp (disch := omega) only [go_sem, ↓cw_block, dsB_of]⟩
    rintro ρ _ ⟨rfl, r0, r2, r3, r8, r9, rd⟩
    generalize hks : (nodeAt l i).kids = ks at *
    have hks' : (l.getD i nd0').kids = ks := hks
    rw [hks'] at hw'
    have hkl := hz.k i _ hgi
    rw [hks'] at hkl
    simp (disch := omega) only [go_sem, ↓cw_block, dsB_of, r0, r2, r3, r8, r9, rd, c3']
    have bn2' := bn2
    clear hone c0 c2'
    refine loop_by (fun k ρ H2 => ∃ (j next : Nat) (st : TS), k = ks.length - j ∧ j ≤ ks.length ∧ next ≤ l.length ∧ i < next ∧ next ≤ e ∧ walkK l (walkM l d) (ks.drop j) next = (e, true) ∧ R = kidsT (nodeT l d) (ks.drop j) cp' am' st ∧ TSok (m + 1000000 * ((next : Int) - i)) st ∧ Fr [cb] A0 H2 ∧ Fr [cb] H1 H2 ∧ Blk H2 cb 77 (cntC (.slice (some ⟨tb, to, none⟩) l.length tc) st) ∧
        (ρ.get 0 = hp cb ∧ ρ.get 2 = iv cp' ∧ ρ.get 3 = .bool am' ∧ ρ.get 8 = hp H.size ∧ ρ.get 9 = hp A0.size ∧ ρ.get 43 = .slice x3 ks.length c3 ∧ ρ.get 44 = iv ks.length ∧ ρ.get 45 = iv j ∧ ρ.ds = [])) (k := ks.length) ?_ ?_
    · refine ⟨0, i + 1, R1.1, rfl, by omega, by omega, by omega, by omega, hw', hR, ?_, f02, Fr.refl _ _, b2, by simp (disch := omega) only [go_sem, ↓cw_block, dsB_of, r0, r2, r3, r8, r9, rd]⟩
      unfold TSok at *; push_cast; omega
    · clear r0 r2 r3 r8 r9 rd hR hw'
      rintro k ρ H2 ⟨j, next, st, rfl, hj, hnl', hin, hne, hwk, hR, hst, fA2, f12, bC, r0, r2, r3, r8, r9, r43, r44, r45, rd⟩
      have hxj : (j : Int) + 1 = ((j + 1 : Nat) : Int) := by omega
      have zA := fA2.size
      have fHH2 : Fr [cb] H H2 := g0.nil.trans fA2
      by_cases hjn : j < ks.length
      rotate_left
      · obtain rfl : j = ks.length := by omega
        rw [List.drop_length] at hR
        simp only [kidsT] at hR
        obtain ⟨X', e1, e2, e3, e4⟩ := flt_res2 (H := H) (X := H2) (F := [cb]) (by rw [← hA0]; exact fA2) (by simp; omega) 0 0
        simp (disch := omega) only [go_sem, ↓cw_block, dsB_of, r0, r2, r3, r8, r9, r43, r44, r45, rd, e1, e2]
        refine fin ⟨e3, ?_, by rw [hR]; rfl⟩
        rw [hR]
        exact e4.blk bC (by simp; omega)
      have hgj := getD_some (d := (0 : Int)) hjn
      have hd' : ks.drop j = ks.getD j 0 :: ks.drop (j + 1) := by
        rw [List.drop_eq_getElem_cons hjn]; congr 1; simp [hjn]
      have hk2 := hk0.frame (Keeps.of_fr fA2 (fun b hb => by have := hS b hb; simpa using this))
      obtain ⟨kb, ko, kc, p1, -, p2⟩ := hk2.at1 hgj
      simp only [Value.slice.injEq, true_and] at p1
      obtain ⟨rfl, rfl⟩ := p1
      rw [hd'] at hwk hR
      generalize hy : ks.getD j 0 = y at *
      unfold walkK at hwk
      split at hwk
      rotate_left
      · simp at hwk
      rename_i hcd
      split at hwk
      rotate_left
      · simp at hwk
      rename_i hok
      obtain ⟨w1, w2, w3⟩ := walkM_ok d next (walkM l d next).1 hcd.2 (by rw [← hok])
      have w4 := (walkK_ok (l := l) (ih := walkM l d) (Q := fun _ => True) (fun i e h1 h2 => by have := walkM_ok d i e h1 h2; exact ⟨this.1, this.2.1, fun _ _ _ => trivial⟩) (ks.drop (j + 1)) _ e w2 hwk).1
      have hyn : y = (next : Int) := hcd.1
      subst hyn
      have nl2 := h.frame (Keeps.of_fr fHH2 (fun b hb => by have := hS b hb; simpa using this))
      have hcall := IH (am := am') (cp := cp') (m := m + 1000000 * ((next : Int) - i)) nl2 bC hcd.2 (by rw [← hok]) hcp hst (by omega)
      unfold kidsT at hR
      simp only [Int.toNat_natCast] at hR
      have herr := nodeT_err (l := l) d next cp' am' st
      have hok5 := nodeT_ok hr d next (walkM l d next).1 cp' am' st _ hcd.2 (by rw [← hok]) hcp hst
      obtain ⟨R2, hR2⟩ : ∃ R2, R2 = nodeT l d next cp' am' st := ⟨_, rfl⟩
      rw [← hR2] at hcall hR herr hok5
      simp (disch := omega) only [go_sem, ↓cw_block, dsB_of, r0, r2, r3, r8, r9, r43, r44, r45, rd, p2]
      refine call_to hcall ?_
      intro r5 H5 hv
      refine Hush.out ?_
      obtain ⟨f5, b5, rfl⟩ := hv
      obtain ⟨st', R2o⟩ := R2
      simp only at b5 hR herr hok5
      cases R2o with
      | none =>
        simp only at hR
        obtain ⟨A6, hA6⟩ : ∃ A, A = H5.push (.cells #[iv 0, iv 0] 25) := ⟨_, rfl⟩
        have g6 : Fr [] H5 A6 := by rw [hA6]; exact Fr.push
        have b6 : Blk A6 H5.size 25 [iv 0, iv 0] := by rw [hA6]; exact Blk.new rfl
        have ld6 := b6.cells0
        simp only [List.length_cons, List.length_nil] at ld6
        have f56 := f5.trans g6.nil
        refine ⟨?_⟩
        simp (disch := omega) only [go_sem, ↓cw_block, dsB_of, r0, r2, r3, r8, r9, r43, r44, r45, rd, fltV, fltE]
        rw [← hA6]
        try (simp (disch := omega) only [go_sem, ↓cw_block, dsB_of, r0, r2, r3, r8, r9, r43, r44, r45, rd, ld6])
        refine fin ⟨ks.length - (j + 1), by omega, j + 1, (walkM l d next).1, st', rfl, by omega, w2, by omega, w4, hwk, hR, ?_, fA2.trans f56, f12.trans f56, g6.blk b5 (by simp), by simp (disch := omega) only [go_sem, ↓cw_block, dsB_of, r0, r2, r3, r8, r9, r43, r44, r45, rd, hxj]⟩
        have e1 : m + 1000000 * ((next : Int) - i) + 1000000 * (((walkM l d next).1 : Int) - next) = m + 1000000 * (((walkM l d next).1 : Int) - i) := by omega
        rw [← e1]; exact hok5
      | some x =>
        simp only at hR
        have hx := herr x rfl
        obtain ⟨xe, xi⟩ := x
        simp only at hx
        obtain ⟨A6, hA6⟩ : ∃ A, A = H5.push (.cells #[iv xe, iv (nodeAt l xi).pos] 25) := ⟨_, rfl⟩
        have g6 : Fr [] H5 A6 := by rw [hA6]; exact Fr.push
        have b6 : Blk A6 H5.size 25 [iv xe, iv (nodeAt l xi).pos] := by rw [hA6]; exact Blk.new rfl
        have ld6 := b6.cells0
        simp only [List.length_cons, List.length_nil] at ld6
        have f56 := f5.trans g6.nil
        obtain ⟨X', e1, e2, e3, e4⟩ := flt_res2 (H := H) (X := A6) (F := [cb]) (by rw [← hA0]; exact fA2.trans f56) (by simp; omega) xe (nodeAt l xi).pos
        refine ⟨?_⟩
        simp (disch := omega) only [go_sem, ↓cw_block, dsB_of, r0, r2, r3, r8, r9, r43, r44, r45, rd, fltV, fltE]
        rw [← hA6]
        try (simp (disch := omega) only [go_sem, ↓cw_block, dsB_of, r0, r2, r3, r8, r9, r43, r44, r45, rd, ld6, e1, e2])
        refine fin ⟨e3, ?_, by rw [hR]; rfl⟩
        rw [hR]
        exact e4.blk (g6.blk b5 (by simp)) (by simp; omega)
end
end Go.Proofs.YtpkfgoemhcgpdaaGreatDoor

namespace Go.Proofs.YtpkfgoemhcgpdaaGreatDoor
open Go.HL
set_option maxRecDepth 10000
set_option linter.unusedSimpArgs false
set_option linter.unusedVariables false

theorem scopeM_err (l : List Nd) : scopeM l = ⟨0, 0⟩ ∨ (scopeM l).err ≠ 0 := by
  unfold scopeM
  split
  · cases (runL (stopC l) l 0 (nodeAt l 0).kids sg0).map Prod.fst with
    | none => exact .inl rfl
    | some i => exact .inr (by simp [fltOf])
  · exact .inr (by simp)
theorem scopeM_right {l : List Nd} (h : scopeM l = ⟨0, 0⟩) : prRightM l = true := by
  cases hr : prRightM l
  · unfold scopeM at h
    rw [if_neg (by simp [hr])] at h
    simp at h
  · rfl
section
variable {H : Heap} {S : Nat → Prop} {v : Value} {l : List Nd}
theorem tyCheck_spec (h : NL H S v l) (hz : Sz l) : CallF Tryz.prog 12 [v] H (fun r H' => Fr [] H H' ∧ r = fltV (typM l)) NoP := by
  replace h : NL H (fun b => b < H.size) v l := h.mono (fun b _ hb => hb)
  obtain ⟨A0, hA0⟩ : ∃ A, A = H.push (.cells #[iv 0, iv 0] 25) := ⟨_, rfl⟩
  have g0 : Fr [] H A0 := by rw [hA0]; exact Fr.push
  have z0 : A0.size = H.size + 1 := by rw [hA0]; simp
  unfold typM
  refine callF_of Tryz.func12 rfl Tryz.ntmps12 Tryz.results12 (by decide) rfl ?_
  simp (disch := omega) only [go_sem, ↓cw_block, dsB_of]
  rw [← hA0]
  refine call_to (scCheck_spec (h.grow g0) hz) ?_
  intro r1 H1 hv
  refine Hush.out ?_
  obtain ⟨f1, rfl⟩ := hv
  obtain ⟨A1, hA1⟩ : ∃ A, A = H1.push (.cells #[iv (scopeM l).err, iv (scopeM l).pos] 25) := ⟨_, rfl⟩
  have g1 : Fr [] H1 A1 := by rw [hA1]; exact Fr.push
  have z1 : A1.size = H1.size + 1 := by rw [hA1]; simp
  have b1 : Blk A1 H1.size 25 [iv (scopeM l).err, iv (scopeM l).pos] := by rw [hA1]; exact Blk.new rfl
  have ld1 := b1.cells0
  simp only [List.length_cons, List.length_nil] at ld1
  have f01 := f1.trans g1
  have zf := f1.size
  rcases scopeM_err l with he | he
  rotate_left
  · rw [if_neg (fun e => by rw [e] at he; exact he rfl)]
    obtain ⟨X', e1, e2, e3, e4⟩ := flt_res (H := H) (X := A1) (by rw [← hA0]; exact f01) (scopeM l).err (scopeM l).pos
    refine ⟨?_⟩
    simp (disch := omega) only [go_sem, ↓cw_block, dsB_of, fltV]
    rw [← hA1]
    try (simp (disch := omega) only [go_sem, ↓cw_block, dsB_of, ld1, e1, e2])
    exact fin ⟨e3, rfl⟩
  have hr := scopeM_right he
  obtain ⟨hw, hl0⟩ := walk20 hr
  have hl8 := (right_facts hr).2.1
  rw [if_pos he]
  rw [he] at hA1 ld1
  obtain ⟨A2, hA2⟩ : ∃ A, A = A1.push (.cells #[v, iv 0, iv 0, iv 0] 77) := ⟨_, rfl⟩
  have g2 : Fr [] A1 A2 := by rw [hA2]; exact Fr.push
  have b2 : Blk A2 A1.size 77 (cntC v ⟨0, 0, 0⟩) := by rw [hA2]; exact Blk.new rfl
  have f02 := f01.trans g2
  obtain ⟨av, cv, rfl⟩ := h.len
  have hnode := tyNode_spec (cb := A1.size) (am := false) (cp := 1) (s := ⟨0, 0, 0⟩) (m := 0) hz hr (fun b hb => by omega) 20 (h.grow (g0.trans f02)) b2 hl0 hw (by omega) (by unfold TSok; simp) (by omega)
  rw [he]
  refine ⟨?_⟩
  simp (disch := omega) only [go_sem, ↓cw_block, dsB_of, fltV]
  rw [← hA1]
  try (simp (disch := omega) only [go_sem, ↓cw_block, dsB_of, ld1])
  rw [← hA2]
  refine call_to hnode ?_
  intro r3 H3 hv
  refine Hush.out ?_
  obtain ⟨f3, b3, rfl⟩ := hv
  obtain ⟨F, hF⟩ : ∃ F, F = fltE l (nodeT l 20 0 1 false ⟨0, 0, 0⟩).2 := ⟨_, rfl⟩
  rw [← hF]
  have f03 : Fr [] A0 H3 := Fr.more f02 f3 (by simp; omega)
  obtain ⟨X', e1, e2, e3, e4⟩ := flt_res (H := H) (X := H3) (by rw [← hA0]; exact f03) F.err F.pos
  refine ⟨?_⟩
  simp (disch := omega) only [go_sem, ↓cw_block, dsB_of, fltV, e1, e2]
  exact fin ⟨e3, rfl⟩
end
end Go.Proofs.YtpkfgoemhcgpdaaGreatDoor

namespace Go.Proofs.YtpkfgoemhcgpdaaGreatDoor
open Go.HL
set_option maxRecDepth 10000
set_option linter.unusedSimpArgs false
set_option linter.unusedVariables false

def szN (n : Nd) : Bool := decide (n.words.length ≤ 1000) && (decide (n.nums.length ≤ 1000) && (decide (n.kids.length ≤ 1000) && n.words.all fun w => decide (w.length ≤ 1000)))
def szB (l : List Nd) : Bool := decide (l.length ≤ 1000) && l.all szN
theorem sz_of {l : List Nd} (h : szB l = true) : Sz l := by
  unfold szB at h
  simp only [Bool.and_eq_true, decide_eq_true_eq, List.all_eq_true] at h
  have key : ∀ (i : Nat) n, l[i]? = some n → szN n = true := fun i n hi => h.2 n (List.mem_of_getElem? hi)
  have key' : ∀ (i : Nat) n, l[i]? = some n → n.words.length ≤ 1000 ∧ n.nums.length ≤ 1000 ∧ n.kids.length ≤ 1000 ∧ ∀ w ∈ n.words, w.length ≤ 1000 := by
    intro i n hi
    have := key i n hi
    unfold szN at this
    simpa only [Bool.and_eq_true, decide_eq_true_eq, List.all_eq_true] using this
  exact ⟨by omega, fun i n hi => by have := key' i n hi; omega, fun i n hi => by have := key' i n hi; omega, fun i n hi => by have := key' i n hi; omega, fun i n hi w hw => by have := (key' i n hi).2.2.2 w hw; omega⟩
/-- A text read: its fault, and what is wrong with its numbers. -/
def tpM (n : Nat) (s : Str) : Option (Flt × Flt × Bool) := (parseM n s).map fun r => (r.2, typM r.1, szB r.1)
theorem tp_open {n : Nat} {s : Str} {f g : Flt} (h : tpM n s = some (f, g, true)) : ∃ l, parseM n s = some (l, f) ∧ typM l = g ∧ Sz l := by
  unfold tpM at h
  rw [Option.map_eq_some_iff] at h
  obtain ⟨⟨l, f'⟩, h1, h2⟩ := h
  simp only [Prod.mk.injEq] at h2
  obtain ⟨rfl, h3, h4⟩ := h2
  exact ⟨l, h1, h3, sz_of h4⟩
theorem taw1 : tpM 60 [118, 97, 114, 32, 120, 32, 111, 102, 32, 57, 59] = some (⟨0, 0⟩, ⟨22, 0⟩, true) := by decide +kernel
theorem bin_iface_nil {P : Program} {H : Heap} {t : TypeId} {xo : Operand} {c : Value} {ms : Array (String × TypeId)} (hu : P.underlying t = some (.interface ms)) : binV P (full H) .eql t xo (.const c) .nilIface .nilIface = some (.bool true) := by
  show qrun P (do eqGuard .eql t xo (.const c) .nilIface .nilIface; binOp .eql t .nilIface .nilIface) H = _
  have g : qrun P (eqGuard .eql t xo (.const c) .nilIface .nilIface) H = some () := by
    unfold eqGuard
    cases xo <;> rfl
  rw [qrun_bind', g, Option.bind_some]
  show qrun P (do pure (Value.bool (← Op.equal t .nilIface .nilIface))) H = _
  have e : qrun P (Op.equal t .nilIface .nilIface) H = some true := by
    unfold Op.equal Op.maxDepth Op.equalIn
    rw [qrun_bind', qrun_underlying hu, Option.bind_some]
    rfl
  rw [qrun_bind', e]
  rfl
section
variable {H : Heap}
theorem tyLocate_spec {s : Str} {p : Int} : CallF Tryz.prog 5 [sv s, .agg #[iv 0, iv p]] H (fun r H' => Fr [] H H' ∧ r = .nilIface) NoP := by
  obtain ⟨A, hA⟩ : ∃ A, A = H.push (.cells #[iv 0, iv p] 25) := ⟨_, rfl⟩
  have f0 : Fr [] H A := by rw [hA]; exact Fr.push
  have bA : Blk A H.size 25 [iv 0, iv p] := by rw [hA]; exact Blk.new rfl
  have k0 := bA.cell 0
  simp only [List.getElem?_cons_zero] at k0
  refine callF_of Tryz.func5 rfl Tryz.ntmps5 Tryz.results5 (by decide) rfl ?_
  simp (disch := omega) only [go_sem, ↓cw_block, dsB_of]
  rw [← hA]
  try (simp (disch := omega) only [go_sem, ↓cw_block, dsB_of, k0])
  exact fin ⟨f0, rfl⟩
theorem w12awake_spec : CallF Tryz.prog 4 [] H (fun r H' => r = .bool true ∧ Fr [] H H') NoP := by
  obtain ⟨l1, p1, s1, z1⟩ := tp_open taw1
  refine callF_of Tryz.func4 rfl Tryz.ntmps4 Tryz.results4 (by decide) rfl ?_
  simp (disch := omega) only [go_sem, ↓cw_block, dsB_of]
  refine call_to (parse_spec p1) ?_
  intro r1 H1 hv
  refine Hush.out ?_
  obtain ⟨v1, rfl, f1, nl1⟩ := hv
  refine ⟨?_⟩
  simp (disch := omega) only [go_sem, ↓cw_block, dsB_of, fltV]
  refine call_to (tyCheck_spec (nl1.grow Fr.push) z1) ?_
  intro r3 H3 hv
  refine Hush.out ?_
  obtain ⟨f3, rfl⟩ := hv
  rw [s1]
  refine ⟨?_⟩
  simp (disch := omega) only [go_sem, ↓cw_block, dsB_of, fltV]
  refine call_to (tyLocate_spec (s := [])) ?_
  intro r4 H4 hv
  refine Hush.out ?_
  obtain ⟨f4, rfl⟩ := hv
  refine ⟨?_⟩
  have hbi := @bin_iface_nil Tryz.prog H4 27 (.tmp 15) .nilIface _ Tryz.underlying27
  simp (disch := omega) only [go_sem, ↓cw_block, dsB_of, hbi]
  exact fin ⟨rfl, ((((f1.trans Fr.push).trans f3).trans Fr.push).trans f4)⟩
end
end Go.Proofs.YtpkfgoemhcgpdaaGreatDoor

namespace Go.Proofs.YtpkfgoemhcgpdaaGreatDoor
open Go.HL
set_option maxRecDepth 10000
set_option linter.unusedSimpArgs false
set_option linter.unusedVariables false
def preE : Str := [119, 101, 105, 114, 103, 97, 116, 101, 58, 32, 101, 114, 114, 111, 114, 32]
theorem dig_len {n : Int} (h : -999999 ≤ n ∧ n ≤ 999999) : (digI n).length ≤ 8 := by
  unfold digI
  split
  · have := nDig_len (m := (-n).toNat) (by omega)
    simp only [List.length_cons]
    rw [this]; unfold nDig; (repeat' split) <;> omega
  · have := nDig_len (m := n.toNat) (by omega)
    rw [this]; unfold nDig; (repeat' split) <;> omega
section
variable {H : Heap}
theorem ifN {x : Value} : ifaceV Tryz.prog 23 x = some (.iface 23 x) := by unfold ifaceV; rw [Tryz.underlying23]
theorem ifL {x : Value} : ifaceV Tryz.prog 29 x = some (.iface 29 x) := by unfold ifaceV; rw [Tryz.underlying29]
theorem ifV {x : Value} : ifaceV Tryz.prog 31 x = some (.iface 31 x) := by unfold ifaceV; rw [Tryz.underlying31]
theorem errno_spec (g : GT H) {e : Int} (he : 0 ≤ e ∧ e ≤ 999999) : CallF Tryz.prog 133 [iv e] H (fun r H' => Fr [] H H' ∧ r = sv (preE ++ digI e)) NoP := by
  have hd := dig_len (n := e) (by omega)
  have hp : ([119, 101, 105, 114, 103, 97, 116, 101, 58, 32, 101, 114, 114, 111, 114, 32] : Str).length = 16 := rfl
  refine callF_of Tryz.func133 rfl Tryz.ntmps133 Tryz.results133 (by decide) rfl ?_
  simp (disch := omega) only [go_sem, ↓cw_block, dsB_of]
  refine call_to (scItoa_spec g (by omega)) ?_
  rintro _ H1 ⟨f1, rfl⟩
  simp (disch := omega) only [go_sem, ↓cw_block, dsB_of, hp]
  exact fin ⟨f1, rfl⟩
theorem locate_spec {s : Str} {e a : Int} (hs : s.length ≤ 1000000) (ha : -9223372036854775808 ≤ a ∧ a ≤ 9223372036854775807) (he : ¬ e = 0) : CallF Tryz.prog 5 [sv s, .agg #[iv e, iv a]] H
    (fun r H' => Fr [] H H' ∧ ∃ q, H.size ≤ q ∧ r = .iface 29 (hp q) ∧ Blk H' q 37 [iv (refP (s.take (reach s a))).1, iv (refP (s.take (reach s a))).2, .iface 23 (iv e)]) NoP := by
  obtain ⟨A, hA⟩ : ∃ A, A = H.push (.cells #[iv e, iv a] 25) := ⟨_, rfl⟩
  have bA : Blk A H.size 25 [iv e, iv a] := by rw [hA]; exact Blk.new rfl
  have fA : Fr [] H A := by rw [hA]; exact Fr.push
  have k0 : cellH A ⟨H.size, 0, none⟩ = some (iv e) := bA.cell 0
  have k1 : cellH A ⟨H.size, 1, none⟩ = some (iv a) := bA.cell 1
  refine callF_of Tryz.func5 rfl Tryz.ntmps5 Tryz.results5 (by decide) rfl ?_
  simp (disch := omega) only [go_sem, ↓cw_block, dsB_of, newPtr]
  rw [← hA]
  refine call_to (place_spec hs ha) ?_
  rintro _ _ ⟨rfl, rfl⟩
  simp (disch := omega) only [go_sem, ↓cw_block, dsB_of, newPtr, k0, k1, ifN, ifL]
  refine fin ⟨fA.trans Fr.push, A.size, ?_, rfl, Blk.new rfl⟩
  rw [hA]; simp
theorem error_spec (g : GT H) {e : Nat} {l c m : Int} (b : Blk H e 37 [iv l, iv c, .iface 23 (iv m)]) (hl : -999999 ≤ l ∧ l ≤ 999999) (hc : -999999 ≤ c ∧ c ≤ 999999) (hm : 0 ≤ m ∧ m ≤ 999999) :
    CallF Tryz.prog 8 [hp e] H (fun r H' => Fr [] H H' ∧ r = sv (digI l ++ [58] ++ digI c ++ [58, 32] ++ (preE ++ digI m))) NoP := by
  have hdl := dig_len hl
  have hdc := dig_len hc
  have hdm := dig_len (n := m) (by omega)
  have b0 : cellH H ⟨e, 0, none⟩ = some (iv l) := b.cell 0
  have b1 : cellH H ⟨e, 1, none⟩ = some (iv c) := b.cell 1
  have b2 : cellH H ⟨e, 2, none⟩ = some (.iface 23 (iv m)) := b.cell 2
  obtain ⟨hl', hhl⟩ : ∃ hl', hl' = [((⟨e, 1, none⟩ : Addr), iv c)] := ⟨_, rfl⟩
  have lb : lookA hl' ⟨e, 1, none⟩ = some (iv c) := by rw [hhl]; simp [lookA]
  have hok : ∀ H', cellH H' ⟨e, 1, none⟩ = some (iv c) → heldOK hl' H' := by
    intro H' h x v hx
    rw [hhl] at hx
    simp only [lookA] at hx
    split at hx
    · rename_i q; rw [← q, h, ← hx]
    · cases hx
  have hp1 : ([58] : Str).length = 1 := rfl
  have hp2 : ([58, 32] : Str).length = 2 := rfl
  have hp3 : preE.length = 16 := rfl
  refine callF_of Tryz.func8 rfl Tryz.ntmps8 Tryz.results8 (by decide) rfl ?_
  simp (disch := omega) only [go_sem, ↓cw_block, dsB_of]
  refine draw1 (lk [(0, true), (1, true), (2, true), (3, true), (6, false), (7, false), (8, false), (9, false)] (.act 4 (lk [(5, false)] (.act 10 (lk [(11, true), (12, true), (13, true)] .fin) .non)) .non)) T.mixed hl' (hok _ b1) ?_
  simp (disch := omega) only [go_sem, ↓cw_block, dsB_of, b0, lb]
  refine call_to (scItoa_spec g hl) ?_
  rintro _ H1 ⟨f1, rfl⟩
  refine held_by (hok _ (f1.cell' b1 (by simp))) ?_
  simp (disch := omega) only [go_sem, ↓cw_block, dsB_of, lb, hp1]
  refine call_to (scItoa_spec (g.grow f1) hc) ?_
  rintro _ H2 ⟨f2, rfl⟩
  refine held_by (hok _ (f2.cell' (f1.cell' b1 (by simp)) (by simp))) ?_
  have b2' := f2.cell' (f1.cell' b2 (by simp)) (by simp)
  have nN := @nNilN
  simp (disch := omega) only [go_sem, ↓cw_block, dsB_of, lb, hp1, hp2, List.length_append, b2', nNilN]
  refine inv_to mErr (errno_spec ((g.grow f1).grow f2) hm) ?_
  rintro _ H3 ⟨f3, rfl⟩
  simp (disch := omega) only [go_sem, ↓cw_block, dsB_of, hp1, hp2, hp3, List.length_append]
  exact fin ⟨(f1.trans f2).trans f3, by simp [List.append_assoc]⟩
theorem error0_spec (g : GT H) {e : Nat} {l c : Int} (b : Blk H e 37 [iv l, iv c, .nilIface]) (hl : -999999 ≤ l ∧ l ≤ 999999) (hc : -999999 ≤ c ∧ c ≤ 999999) :
    CallF Tryz.prog 8 [hp e] H (fun r H' => Fr [] H H' ∧ r = sv (digI l ++ [58] ++ digI c ++ [58, 32])) NoP := by
  have hdl := dig_len hl
  have hdc := dig_len hc
  have b0 : cellH H ⟨e, 0, none⟩ = some (iv l) := b.cell 0
  have b1 : cellH H ⟨e, 1, none⟩ = some (iv c) := b.cell 1
  have b2 : cellH H ⟨e, 2, none⟩ = some .nilIface := b.cell 2
  obtain ⟨hl', hhl⟩ : ∃ hl', hl' = [((⟨e, 1, none⟩ : Addr), iv c)] := ⟨_, rfl⟩
  have lb : lookA hl' ⟨e, 1, none⟩ = some (iv c) := by rw [hhl]; simp [lookA]
  have hok : ∀ H', cellH H' ⟨e, 1, none⟩ = some (iv c) → heldOK hl' H' := by
    intro H' h x v hx
    rw [hhl] at hx
    simp only [lookA] at hx
    split at hx
    · rename_i q; rw [← q, h, ← hx]
    · cases hx
  have hp1 : ([58] : Str).length = 1 := rfl
  have hp2 : ([58, 32] : Str).length = 2 := rfl
  have hp3 : preE.length = 16 := rfl
  refine callF_of Tryz.func8 rfl Tryz.ntmps8 Tryz.results8 (by decide) rfl ?_
  simp (disch := omega) only [go_sem, ↓cw_block, dsB_of]
  refine draw1 (lk [(0, true), (1, true), (2, true), (3, true), (6, false), (7, false), (8, false), (9, false)] (.act 4 (lk [(5, false)] (.act 10 (lk [(11, true), (12, true), (13, true)] .fin) .non)) .non)) T.mixed hl' (hok _ b1) ?_
  simp (disch := omega) only [go_sem, ↓cw_block, dsB_of, b0, lb]
  refine call_to (scItoa_spec g hl) ?_
  rintro _ H1 ⟨f1, rfl⟩
  refine held_by (hok _ (f1.cell' b1 (by simp))) ?_
  simp (disch := omega) only [go_sem, ↓cw_block, dsB_of, lb, hp1]
  refine call_to (scItoa_spec (g.grow f1) hc) ?_
  rintro _ H2 ⟨f2, rfl⟩
  refine held_by (hok _ (f2.cell' (f1.cell' b1 (by simp)) (by simp))) ?_
  have b2' := f2.cell' (f1.cell' b2 (by simp)) (by simp)
  have nN := @nNil0
  simp (disch := omega) only [go_sem, ↓cw_block, dsB_of, lb, hp1, hp2, List.length_append, b2', nNil0]
  exact fin ⟨f1.trans f2, by simp [List.append_assoc]⟩
theorem text_spec {s : Str} {e a : Int} (hs : s.length ≤ 500) (ha : -9223372036854775808 ≤ a ∧ a ≤ 9223372036854775807) (he : 0 ≤ e ∧ e ≤ 999999) : CallF Tryz.prog 9 [sv s, .agg #[iv e, iv a]] H
    (fun r H' => Fr [] H H' ∧ r = sv (digI (refP (s.take (reach s a))).1 ++ [58] ++ digI (refP (s.take (reach s a))).2 ++ [58, 32] ++ (preE ++ digI e))) NoP := by
  obtain ⟨A, hA⟩ : ∃ A, A = H.push (.cells #[iv e, iv a] 25) := ⟨_, rfl⟩
  have bA : Blk A H.size 25 [iv e, iv a] := by rw [hA]; exact Blk.new rfl
  have fA : Fr [] H A := by rw [hA]; exact Fr.push
  have k0 : cellH A ⟨H.size, 0, none⟩ = some (iv e) := bA.cell 0
  have k1 : cellH A ⟨H.size, 1, none⟩ = some (iv a) := bA.cell 1
  have hle := refP_le (s.take (reach s a))
  have hr := reach_le (s := s) (a := a)
  have hlen : (s.take (reach s a)).length = reach s a := by simp [hr]
  obtain ⟨hl', hhl⟩ : ∃ hl', hl' = [((⟨H.size, 0, none⟩ : Addr), iv e)] := ⟨_, rfl⟩
  have lb : lookA hl' ⟨H.size, 0, none⟩ = some (iv e) := by rw [hhl]; simp [lookA]
  have hok : ∀ H', cellH H' ⟨H.size, 0, none⟩ = some (iv e) → heldOK hl' H' := by
    intro H' h x v hx
    rw [hhl] at hx
    simp only [lookA] at hx
    split at hx
    · rename_i q; rw [← q, h, ← hx]
    · cases hx
  have hp1 : ([58] : Str).length = 1 := rfl
  have hp2 : ([58, 32, 119, 101, 105, 114, 103, 97, 116, 101, 58, 32, 101, 114, 114, 111, 114, 32] : Str).length = 18 := rfl
  have hd1 := dig_len (n := ((refP (s.take (reach s a))).1 : Nat)) (by omega)
  have hd2 := dig_len (n := ((refP (s.take (reach s a))).2 : Nat)) (by omega)
  have hd3 := dig_len (n := e) (by omega)
  refine callF_of Tryz.func9 rfl Tryz.ntmps9 Tryz.results9 (by decide) rfl ?_
  simp (disch := omega) only [go_sem, ↓cw_block, dsB_of, newPtr, k1]
  rw [← hA]
  refine call_to (rPlace_spec (by omega) ha) ?_
  rintro _ _ ⟨rfl, rfl⟩
  simp (disch := omega) only [go_sem, ↓cw_block, dsB_of, newPtr]
  refine draw1 (lk [(0, true), (3, false), (7, false), (8, false)] (.act 1 (lk [(2, false)] (.act 4 (lk [(5, false), (6, false)] (.act 9 (lk [(10, true), (11, true)] .fin) .non)) .non)) .non)) T.mixed hl' (hok _ k0) ?_
  simp (disch := omega) only [go_sem, ↓cw_block, dsB_of, newPtr, lb]
  refine call_to (r1Digits_spec (by omega)) ?_
  rintro _ H1 ⟨rfl, f1⟩
  refine held_by (hok _ (f1.cell' k0 (by simp))) ?_
  simp (disch := omega) only [go_sem, ↓cw_block, dsB_of, lb, hp1, newPtr]
  refine call_to (r1Digits_spec (by omega)) ?_
  rintro _ H2 ⟨rfl, f2⟩
  refine held_by (hok _ (f2.cell' (f1.cell' k0 (by simp)) (by simp))) ?_
  simp (disch := omega) only [go_sem, ↓cw_block, dsB_of, lb, hp1, hp2, newPtr, List.length_append]
  refine call_to (r1Digits_spec (by omega)) ?_
  rintro _ H3 ⟨rfl, f3⟩
  try (refine held_by (hok _ (f3.cell' (f2.cell' (f1.cell' k0 (by simp)) (by simp)) (by simp))) ?_)
  simp (disch := omega) only [go_sem, ↓cw_block, dsB_of, lb, hp1, hp2, newPtr, List.length_append]
  exact fin ⟨((fA.trans f1).trans f2).trans f3, by simp [List.append_assoc, preE]⟩
end
end Go.Proofs.YtpkfgoemhcgpdaaGreatDoor

namespace Go.Proofs.YtpkfgoemhcgpdaaGreatDoor
open Go.HL
set_option maxRecDepth 10000
set_option linter.unusedSimpArgs false
set_option linter.unusedVariables false
section
variable {H : Heap}
set_option maxHeartbeats 2000000 in
theorem typingErrors_spec {s : Str} {c a : Int} (hc : 0 ≤ c ∧ c ≤ 255) (ha : -9223372036854775808 ≤ a ∧ a ≤ 9223372036854775807) (g : GT H) (ge : GE H) :
    CallF Tryz.prog 3 [sv s, .int .u8 c, iv a] H (fun r H' => r = .bool true ∧ Fr [] H H') NoP := by
  refine callF_of Tryz.func3 rfl Tryz.ntmps3 Tryz.results3 (by decide) rfl ?_
  simp (disch := omega) only [go_sem, ↓cw_block, dsB_of]
  refine call_to w12awake_spec ?_
  rintro _ H1 ⟨rfl, f1⟩
  by_cases hs : 500 < s.length
  · simp (disch := omega) only [go_sem, ↓cw_block, dsB_of, hs]
    refine call_to w12awake_spec ?_
    rintro _ H2 ⟨rfl, f2⟩
    simp (disch := omega) only [go_sem, ↓cw_block, dsB_of]
    exact fin ⟨rfl, f1.trans f2⟩
  have g1 := g.grow f1
  have hcv : IntKind.i64.wrap c = c := wrap64 (by omega)
  have hm : c.tmod 30 = c % 30 := by rw [Int.tmod_eq_emod_of_nonneg (by omega)]
  have hw : IntKind.i64.wrap (1 + c % 30) = 1 + c % 30 := wrap64 (by omega)
  obtain ⟨m, hmd⟩ : ∃ m, m = 1 + c % 30 := ⟨_, rfl⟩
  have m1 : 1 ≤ m ∧ m ≤ 30 := by omega
  obtain ⟨A, hA⟩ : ∃ A, A = H1.push (.cells #[iv m, iv a] 25) := ⟨_, rfl⟩
  have bA : Blk A H1.size 25 [iv m, iv a] := by rw [hA]; exact Blk.new rfl
  have fA : Fr [] H1 A := by rw [hA]; exact Fr.push
  have gA := g1.grow fA
  simp (disch := omega) only [go_sem, ↓cw_block, dsB_of, hs, hcv, hm, hw, newPtr]
  rw [← hmd, ← hA]
  refine call_to (locate_spec (by omega) ha (by omega)) ?_
  rintro _ H2 ⟨f2, q, hq, rfl, bq⟩
  have hle := refP_le (s.take (reach s a))
  have hr := reach_le (s := s) (a := a)
  have hlen : (s.take (reach s a)).length = reach s a := by simp [hr]
  have b2 := f2.blk bA (by simp)
  have g2 := gA.grow f2
  have e2 : GE H2 := by unfold GE at ge ⊢; exact f2.cell' (fA.cell' (f1.cell' ge (by simp)) (by simp)) (by simp)
  obtain ⟨B, hB⟩ : ∃ B, B = H2.push (.cells #[.pointer none] 29) := ⟨_, rfl⟩
  have bB : Blk B H2.size 29 [.pointer none] := by rw [hB]; exact Blk.new rfl
  have fB : Fr [] H2 B := by rw [hB]; exact Fr.push
  have eB : GE B := by unfold GE at e2 ⊢; exact fB.cell' e2 (by simp)
  have z2 : 0 < H2.size := by have := cell_lt e2; simpa using this
  have q2 := bq.lt
  have h12 : H1.size < H2.size := b2.lt
  simp (disch := omega) only [go_sem, ↓cw_block, dsB_of, eNilL, newPtr, ifV]
  rw [← hB]
  refine call_to (as_spec eB bB (by omega)) ?_
  rintro _ C ⟨rfl, f3, b3⟩
  have bqC : Blk C q 37 _ := f3.blk (fB.blk bq (by simp)) (by simp; omega)
  have bC : Blk C H1.size 25 [iv m, iv a] := f3.blk (fB.blk b2 (by simp)) (by simp; omega)
  have gC : GT C := ⟨fun i hi => f3.cell' (fB.cell' (g2.pw i hi) (by simp)) (by have := cell_lt (g2.pw i hi); simp at this ⊢; omega)⟩
  have k0 : cellH C ⟨H1.size, 0, none⟩ = some (iv m) := bC.cell 0
  have k1 : cellH C ⟨H1.size, 1, none⟩ = some (iv a) := bC.cell 1
  have kt : cellH C ⟨H2.size, 0, none⟩ = some (hp q) := b3.cell 0
  have ke : cellH C ⟨q, 2, none⟩ = some (.iface 23 (iv m)) := bqC.cell 2
  simp (disch := omega) only [go_sem, ↓cw_block, dsB_of, newPtr, k0, ifN]
  refine call_to (is_loc ke) ?_
  rintro _ _ ⟨rfl, rfl⟩
  simp (disch := omega) only [go_sem, ↓cw_block, dsB_of, newPtr, k0, ifN]
  refine call_to (is_loc (n := 0) ke) ?_
  rintro _ _ ⟨rfl, rfl⟩
  have m0 : ¬ m = 0 := by omega
  simp (disch := omega) only [go_sem, ↓cw_block, dsB_of, newPtr, k0, ifN, kt, m0]
  obtain ⟨hl, hhl⟩ : ∃ hl, hl = [((⟨H1.size, 0, none⟩ : Addr), iv m), ((⟨H1.size, 1, none⟩ : Addr), iv a)] := ⟨_, rfl⟩
  have l0 : lookA hl ⟨H1.size, 0, none⟩ = some (iv m) := by rw [hhl]; simp [lookA]
  have l1 : lookA hl ⟨H1.size, 1, none⟩ = some (iv a) := by rw [hhl]; simp [lookA]
  have hok : ∀ H', cellH H' ⟨H1.size, 0, none⟩ = some (iv m) → cellH H' ⟨H1.size, 1, none⟩ = some (iv a) → heldOK hl H' := by
    intro H' h h' x v hx
    rw [hhl] at hx
    simp only [lookA] at hx
    split at hx
    · rename_i q; rw [← q, h, ← hx]
    · split at hx
      · rename_i q; rw [← q, h', ← hx]
      · cases hx
  have lr : cellsH (lookA hl) ⟨H1.size, 0, none⟩ 0 2 = some [iv m, iv a] := by
    refine cellsH_at [iv m, iv a] _ 0 ?_
    intro j hj
    match j, hj with
    | 0, _ => exact l0
    | 1, _ => exact l1
  refine draw1 (lk [(0, true), (2, false), (3, false)] (.act 1 (.acth 4 (lk [(5, true), (6, true), (7, true), (9, false), (10, false), (11, false)] (.act 8 (.actd 12 (lk [(13, true), (14, true), (15, true)] (.actd 16 (.actd 17 (lk [(18, true), (19, true), (20, true)] .fin))))) .non))) .non)) T.mixed hl (hok _ k0 k1) ?_
  simp (disch := omega) only [go_sem, ↓cw_block, dsB_of, newPtr, kt, lr, l0, ifN]
  refine call_to (error_spec gC bqC (by omega) (by omega) (by omega)) ?_
  rintro _ D ⟨f4, rfl⟩
  refine held_by (hok _ (f4.cell' k0 (by simp)) (f4.cell' k1 (by simp))) ?_
  simp (disch := omega) only [go_sem, ↓cw_block, dsB_of, newPtr, kt, lr, l0, ifN]
  refine call_to (text_spec (by omega) ha (by omega)) ?_
  rintro _ E ⟨f5, rfl⟩
  have kE0 := f5.cell' (f4.cell' k0 (by simp)) (by simp)
  have kE1 := f5.cell' (f4.cell' k1 (by simp)) (by simp)
  have ktE := f5.cell' (f4.cell' kt (by simp)) (by simp)
  have keE := f5.cell' (f4.cell' ke (by simp)) (by simp)
  refine rehold_by hl (hok _ kE0 kE1) ?_
  simp (disch := omega) only [go_sem, ↓cw_block, dsB_of, newPtr, ktE, lr, l0, ifN]
  refine call_to (unwrap_spec keE) ?_
  rintro _ _ ⟨rfl, rfl⟩
  try (refine held_by (hok _ kE0 kE1) ?_)
  simp (disch := omega) only [go_sem, ↓cw_block, dsB_of, newPtr, ktE, lr, l0, ifN]
  refine call_to is_num ?_
  rintro _ _ ⟨rfl, rfl⟩
  simp (disch := omega) only [go_sem, ↓cw_block, dsB_of, newPtr, ktE, lr, l0, ifN]
  refine call_to (error0_spec (l := 2) (c := 3) (((gC.grow f4).grow f5).grow Fr.push) (Blk.new rfl) (by omega) (by omega)) ?_
  rintro _ G ⟨f6, rfl⟩
  have hd : digI 2 ++ [58] ++ digI 3 ++ [58, 32] = [50, 58, 51, 58, 32] := by decide
  rw [hd]
  simp (disch := omega) only [go_sem, ↓cw_block, dsB_of, newPtr, ktE, lr, l0, ifN]
  have hsz : H.size ≤ H2.size := ((f1.trans fA).trans f2).size
  have t : Fr [H2.size] H G := (((((f1.trans fA).trans f2).trans fB).mono (by simp)).trans f3).trans ((((f4.trans f5).trans Fr.push).trans f6).mono (by simp))
  exact fin ⟨by simp, t.mono (fun b hb h => by simp at h; omega)⟩
end
end Go.Proofs.YtpkfgoemhcgpdaaGreatDoor

