/- Names: what is in sight. -/
import Derived.Test.YtpkfgoemhcgpdaaGreatDoorL16
namespace Go.Proofs.YtpkfgoemhcgpdaaGreatDoor
open Go.HL
set_option maxRecDepth 10000
set_option linter.unusedSimpArgs false
set_option linter.unusedVariables false

structure Sg where
  C : List Str
  V : List Str
  P : List Str
  O : List Str
  ins : Bool
structure SM (H : Heap) (M sb : Nat) (c v p o : Value) (g : Sg) : Prop where
  box : Blk H sb 121 [c, v, p, o, .bool g.ins]
  low : M ≤ sb
  vc : Vec H 9 1 c (g.C.map sv)
  oc : ∀ b ∈ own c, M ≤ b ∧ b ≠ sb
  vv : Vec H 9 1 v (g.V.map sv)
  ov : ∀ b ∈ own v, M ≤ b ∧ b ≠ sb
  vp : Vec H 9 1 p (g.P.map sv)
  op : ∀ b ∈ own p, M ≤ b ∧ b ≠ sb
  vo : Vec H 9 1 o (g.O.map sv)
  oo : ∀ b ∈ own o, M ≤ b ∧ b ≠ sb
  dcv : ∀ b ∈ own c, b ∉ own v
  dcp : ∀ b ∈ own c, b ∉ own p
  dco : ∀ b ∈ own c, b ∉ own o
  dvp : ∀ b ∈ own v, b ∉ own p
  dvo : ∀ b ∈ own v, b ∉ own o
  dpo : ∀ b ∈ own p, b ∉ own o
def wrongM (g : Sg) (n : Nd) : Bool :=
  if n.kind = 1 ∨ n.kind = 2 ∨ n.kind = 3 then (inL g.C (w0 n) || (inL g.V (w0 n) || inL g.O (w0 n))) || inL g.P (w0 n)
  else if n.kind = 6 ∨ n.kind = 18 then !(inL g.V (w0 n) || inL g.O (w0 n))
  else if n.kind = 7 ∨ n.kind = 19 then !inL g.C (w0 n)
  else if n.kind = 8 then (!inL g.C (w0 n) || !(inL g.V (w1 n) || inL g.O (w1 n)))
  else false
def declM (g : Sg) (n : Nd) : Sg :=
  if n.kind = 1 then { g with C := g.C ++ [w0 n] } else if n.kind = 3 then { g with P := g.P ++ [w0 n], ins := true }
  else if n.kind = 2 then (if g.ins then { g with O := g.O ++ [w0 n] } else { g with V := g.V ++ [w0 n] }) else g
def Sg.small (g : Sg) (m : Nat) : Prop := g.C.length ≤ m ∧ g.V.length ≤ m ∧ g.P.length ≤ m ∧ g.O.length ≤ m
theorem decl_small {g : Sg} {n : Nd} {m : Nat} (h : g.small m) : (declM g n).small (m + 1) := by
  unfold Sg.small declM at *
  split
  · simp; omega
  · split
    · simp; omega
    · split
      · split <;> (simp; omega)
      · omega
section
variable {H H' : Heap} {S : Nat → Prop} {M sb : Nat} {c v p o x' : Value} {g : Sg} {s : Str} {a : AN}
theorem SM.grow (x : SM H M sb c v p o g) (q : Fr [] H H') : SM H' M sb c v p o g :=
  ⟨q.blk x.box (by simp), x.low, x.vc.frame q (by simp), x.oc, x.vv.frame q (by simp), x.ov, x.vp.frame q (by simp), x.op, x.vo.frame q (by simp), x.oo, x.dcv, x.dcp, x.dco, x.dvp, x.dvo, x.dpo⟩
theorem SM.forms (x : SM H M sb c v p o g) : ∃ a1 k1 a2 k2 a3 k3 a4 k4, c = .slice a1 g.C.length k1 ∧ v = .slice a2 g.V.length k2 ∧ p = .slice a3 g.P.length k3 ∧ o = .slice a4 g.O.length k4 := by
  have f : ∀ {y : Value} {xs : List Str}, Vec H 9 1 y (xs.map sv) → ∃ a k, y = .slice a xs.length k := by
    intro y xs h
    obtain ⟨a, l, k, e, hl⟩ := h.len
    simp at hl
    exact ⟨a, k, by rw [e, hl]⟩
  obtain ⟨a1, k1, e1⟩ := f x.vc
  obtain ⟨a2, k2, e2⟩ := f x.vv
  obtain ⟨a3, k3, e3⟩ := f x.vp
  obtain ⟨a4, k4, e4⟩ := f x.vo
  exact ⟨a1, k1, a2, k2, a3, k3, a4, k4, e1, e2, e3, e4⟩
theorem SM.appC (x : SM H M sb c v p o g) (hM : M ≤ H.size) (g1 : Vec H' 9 1 x' (g.C.map sv ++ [sv s])) (g2 : Fr (own c) H H') (g3 : ∀ b ∈ own x', b ∈ own c ∨ H.size ≤ b) :
    wr H' ⟨sb, 0, none⟩ x' = some (setH H' ⟨sb, 0, none⟩ x') ∧ SM (setH H' ⟨sb, 0, none⟩ x') M sb x' v p o { g with C := g.C ++ [s] } ∧ Blk H' sb 121 [c, v, p, o, .bool g.ins] ∧ ∀ b ∈ own c, M ≤ b := by
  have hsb := x.box.lt
  have b1 := g2.blk x.box (fun e => (x.oc _ e).2 rfl)
  have f3 : Fr [sb] H' (setH H' ⟨sb, 0, none⟩ x') := Fr.set (by simp)
  have ox : ∀ b ∈ own x', M ≤ b ∧ b ≠ sb := fun b hb => (g3 b hb).elim (x.oc b) (fun h => ⟨by omega, by omega⟩)
  refine ⟨b1.wr (by simp) _, ⟨b1.set 0 x', x.low, by rw [List.map_append]; exact g1.frame f3 (fun b hb => by simpa using (ox b hb).2), ox, (x.vv.frame g2 (fun b hb e => x.dcv b e hb)).frame f3 (fun b hb => by simpa using (x.ov b hb).2), x.ov, (x.vp.frame g2 (fun b hb e => x.dcp b e hb)).frame f3 (fun b hb => by simpa using (x.op b hb).2), x.op, (x.vo.frame g2 (fun b hb e => x.dco b e hb)).frame f3 (fun b hb => by simpa using (x.oo b hb).2), x.oo, (fun b hb e => (g3 b hb).elim (fun h => x.dcv b h e) (fun h => by have := x.vv.lt b e; omega)), (fun b hb e => (g3 b hb).elim (fun h => x.dcp b h e) (fun h => by have := x.vp.lt b e; omega)), (fun b hb e => (g3 b hb).elim (fun h => x.dco b h e) (fun h => by have := x.vo.lt b e; omega)), x.dvp, x.dvo, x.dpo⟩, b1, fun b hb => (x.oc b hb).1⟩
theorem SM.appV (x : SM H M sb c v p o g) (hM : M ≤ H.size) (g1 : Vec H' 9 1 x' (g.V.map sv ++ [sv s])) (g2 : Fr (own v) H H') (g3 : ∀ b ∈ own x', b ∈ own v ∨ H.size ≤ b) :
    wr H' ⟨sb, 1, none⟩ x' = some (setH H' ⟨sb, 1, none⟩ x') ∧ SM (setH H' ⟨sb, 1, none⟩ x') M sb c x' p o { g with V := g.V ++ [s] } ∧ Blk H' sb 121 [c, v, p, o, .bool g.ins] ∧ ∀ b ∈ own v, M ≤ b := by
  have hsb := x.box.lt
  have b1 := g2.blk x.box (fun e => (x.ov _ e).2 rfl)
  have f3 : Fr [sb] H' (setH H' ⟨sb, 1, none⟩ x') := Fr.set (by simp)
  have ox : ∀ b ∈ own x', M ≤ b ∧ b ≠ sb := fun b hb => (g3 b hb).elim (x.ov b) (fun h => ⟨by omega, by omega⟩)
  refine ⟨b1.wr (by simp) _, ⟨b1.set 1 x', x.low, (x.vc.frame g2 (fun b hb e => x.dcv b hb e)).frame f3 (fun b hb => by simpa using (x.oc b hb).2), x.oc, by rw [List.map_append]; exact g1.frame f3 (fun b hb => by simpa using (ox b hb).2), ox, (x.vp.frame g2 (fun b hb e => x.dvp b e hb)).frame f3 (fun b hb => by simpa using (x.op b hb).2), x.op, (x.vo.frame g2 (fun b hb e => x.dvo b e hb)).frame f3 (fun b hb => by simpa using (x.oo b hb).2), x.oo, (fun b hb e => (g3 b e).elim (fun h => x.dcv b hb h) (fun h => by have := x.vc.lt b hb; omega)), x.dcp, x.dco, (fun b hb e => (g3 b hb).elim (fun h => x.dvp b h e) (fun h => by have := x.vp.lt b e; omega)), (fun b hb e => (g3 b hb).elim (fun h => x.dvo b h e) (fun h => by have := x.vo.lt b e; omega)), x.dpo⟩, b1, fun b hb => (x.ov b hb).1⟩
theorem SM.appP (x : SM H M sb c v p o g) (hM : M ≤ H.size) (g1 : Vec H' 9 1 x' (g.P.map sv ++ [sv s])) (g2 : Fr (own p) H H') (g3 : ∀ b ∈ own x', b ∈ own p ∨ H.size ≤ b) :
    wr H' ⟨sb, 2, none⟩ x' = some (setH H' ⟨sb, 2, none⟩ x') ∧ SM (setH H' ⟨sb, 2, none⟩ x') M sb c v x' o { g with P := g.P ++ [s] } ∧ Blk H' sb 121 [c, v, p, o, .bool g.ins] ∧ ∀ b ∈ own p, M ≤ b := by
  have hsb := x.box.lt
  have b1 := g2.blk x.box (fun e => (x.op _ e).2 rfl)
  have f3 : Fr [sb] H' (setH H' ⟨sb, 2, none⟩ x') := Fr.set (by simp)
  have ox : ∀ b ∈ own x', M ≤ b ∧ b ≠ sb := fun b hb => (g3 b hb).elim (x.op b) (fun h => ⟨by omega, by omega⟩)
  refine ⟨b1.wr (by simp) _, ⟨b1.set 2 x', x.low, (x.vc.frame g2 (fun b hb e => x.dcp b hb e)).frame f3 (fun b hb => by simpa using (x.oc b hb).2), x.oc, (x.vv.frame g2 (fun b hb e => x.dvp b hb e)).frame f3 (fun b hb => by simpa using (x.ov b hb).2), x.ov, by rw [List.map_append]; exact g1.frame f3 (fun b hb => by simpa using (ox b hb).2), ox, (x.vo.frame g2 (fun b hb e => x.dpo b e hb)).frame f3 (fun b hb => by simpa using (x.oo b hb).2), x.oo, x.dcv, (fun b hb e => (g3 b e).elim (fun h => x.dcp b hb h) (fun h => by have := x.vc.lt b hb; omega)), x.dco, (fun b hb e => (g3 b e).elim (fun h => x.dvp b hb h) (fun h => by have := x.vv.lt b hb; omega)), x.dvo, (fun b hb e => (g3 b hb).elim (fun h => x.dpo b h e) (fun h => by have := x.vo.lt b e; omega))⟩, b1, fun b hb => (x.op b hb).1⟩
theorem SM.appO (x : SM H M sb c v p o g) (hM : M ≤ H.size) (g1 : Vec H' 9 1 x' (g.O.map sv ++ [sv s])) (g2 : Fr (own o) H H') (g3 : ∀ b ∈ own x', b ∈ own o ∨ H.size ≤ b) :
    wr H' ⟨sb, 3, none⟩ x' = some (setH H' ⟨sb, 3, none⟩ x') ∧ SM (setH H' ⟨sb, 3, none⟩ x') M sb c v p x' { g with O := g.O ++ [s] } ∧ Blk H' sb 121 [c, v, p, o, .bool g.ins] ∧ ∀ b ∈ own o, M ≤ b := by
  have hsb := x.box.lt
  have b1 := g2.blk x.box (fun e => (x.oo _ e).2 rfl)
  have f3 : Fr [sb] H' (setH H' ⟨sb, 3, none⟩ x') := Fr.set (by simp)
  have ox : ∀ b ∈ own x', M ≤ b ∧ b ≠ sb := fun b hb => (g3 b hb).elim (x.oo b) (fun h => ⟨by omega, by omega⟩)
  refine ⟨b1.wr (by simp) _, ⟨b1.set 3 x', x.low, (x.vc.frame g2 (fun b hb e => x.dco b hb e)).frame f3 (fun b hb => by simpa using (x.oc b hb).2), x.oc, (x.vv.frame g2 (fun b hb e => x.dvo b hb e)).frame f3 (fun b hb => by simpa using (x.ov b hb).2), x.ov, (x.vp.frame g2 (fun b hb e => x.dpo b hb e)).frame f3 (fun b hb => by simpa using (x.op b hb).2), x.op, by rw [List.map_append]; exact g1.frame f3 (fun b hb => by simpa using (ox b hb).2), ox, x.dcv, x.dcp, (fun b hb e => (g3 b e).elim (fun h => x.dco b hb h) (fun h => by have := x.vc.lt b hb; omega)), x.dvp, (fun b hb e => (g3 b e).elim (fun h => x.dvo b hb h) (fun h => by have := x.vv.lt b hb; omega)), (fun b hb e => (g3 b e).elim (fun h => x.dpo b hb h) (fun h => by have := x.vp.lt b hb; omega))⟩, b1, fun b hb => (x.oo b hb).1⟩
/-- An item begins. -/
theorem SM.reset (x : SM H M sb c v p o g) : wr H ⟨sb, 3, none⟩ (.slice none 0 0) = some (setH H ⟨sb, 3, none⟩ (.slice none 0 0)) ∧ wr (setH H ⟨sb, 3, none⟩ (.slice none 0 0)) ⟨sb, 4, none⟩ (.bool false) = some (setH (setH H ⟨sb, 3, none⟩ (.slice none 0 0)) ⟨sb, 4, none⟩ (.bool false)) ∧
    SM (setH (setH H ⟨sb, 3, none⟩ (.slice none 0 0)) ⟨sb, 4, none⟩ (.bool false)) M sb c v p (.slice none 0 0) { g with O := [], ins := false } := by
  have b1 := x.box.set 3 (.slice none 0 0)
  have b2 := b1.set 4 (.bool false)
  have f : Fr [sb] H (setH (setH H ⟨sb, 3, none⟩ (.slice none 0 0)) ⟨sb, 4, none⟩ (.bool false)) := (Fr.set (by simp)).trans (Fr.set (by simp))
  exact ⟨x.box.wr (by simp) _, b1.wr (by simp) _, ⟨b2, x.low, x.vc.frame f (fun b hb => by simpa using (x.oc b hb).2), x.oc, x.vv.frame f (fun b hb => by simpa using (x.ov b hb).2), x.ov, x.vp.frame f (fun b hb => by simpa using (x.op b hb).2), x.op, Vec.nil, by simp [own], x.dcv, x.dcp, by simp [own], x.dvp, by simp [own], by simp [own]⟩⟩
/-- A process is declared. -/
theorem SM.inside (x : SM H M sb c v p o g) : wr H ⟨sb, 4, none⟩ (.bool true) = some (setH H ⟨sb, 4, none⟩ (.bool true)) ∧ SM (setH H ⟨sb, 4, none⟩ (.bool true)) M sb c v p o { g with ins := true } := by
  have b1 := x.box.set 4 (.bool true)
  have f : Fr [sb] H (setH H ⟨sb, 4, none⟩ (.bool true)) := Fr.set (by simp)
  exact ⟨x.box.wr (by simp) _, ⟨b1, x.low, x.vc.frame f (fun b hb => by simpa using (x.oc b hb).2), x.oc, x.vv.frame f (fun b hb => by simpa using (x.ov b hb).2), x.ov, x.vp.frame f (fun b hb => by simpa using (x.op b hb).2), x.op, x.vo.frame f (fun b hb => by simpa using (x.oo b hb).2), x.oo, x.dcv, x.dcp, x.dco, x.dvp, x.dvo, x.dpo⟩⟩
theorem sgChannel_spec (x : SM H M sb c v p o g) (hs : g.small 1000000) : CallF Tryz.prog 63 [hp sb, sv s] H (fun r H' => H = H' ∧ r = .bool (inL g.C s)) NoP := by
  have k0 := x.box.cell 0
  simp only [List.getElem?_cons_succ, List.getElem?_cons_zero] at k0
  unfold Sg.small at hs
  obtain ⟨a1, k1, a2, k2, a3, k3, a4, k4, e1, e2, e3, e4⟩ := x.forms
  subst e1 e2 e3 e4
  refine callF_of Tryz.func63 rfl Tryz.ntmps63 Tryz.results63 (by decide) rfl ?_
  simp (disch := omega) only [go_sem, ↓cw_block, dsB_of, k0]
  refine call_to (sContains_spec (Rd.of_vec (S := fun _ => True) x.vc (fun _ _ => trivial)) (by omega)) ?_
  rintro _ _ ⟨rfl, rfl⟩
  simp (disch := omega) only [go_sem, ↓cw_block, dsB_of]
  exact fin ⟨rfl, rfl⟩
theorem sgVariable_spec (x : SM H M sb c v p o g) (hs : g.small 1000000) : CallF Tryz.prog 64 [hp sb, sv s] H (fun r H' => H = H' ∧ r = .bool (inL g.V s || inL g.O s)) NoP := by
  have k1' := x.box.cell 1
  have k3' := x.box.cell 3
  simp only [List.getElem?_cons_succ, List.getElem?_cons_zero] at k1' k3'
  unfold Sg.small at hs
  obtain ⟨a1, k1, a2, k2, a3, k3, a4, k4, e1, e2, e3, e4⟩ := x.forms
  subst e1 e2 e3 e4
  refine callF_of Tryz.func64 rfl Tryz.ntmps64 Tryz.results64 (by decide) rfl ?_
  simp (disch := omega) only [go_sem, ↓cw_block, dsB_of, k1']
  refine call_to (sContains_spec (Rd.of_vec (S := fun _ => True) x.vv (fun _ _ => trivial)) (by omega)) ?_
  rintro _ _ ⟨rfl, rfl⟩
  cases q : inL g.V s
  · simp (disch := omega) only [go_sem, ↓cw_block, dsB_of, k3']
    refine call_to (sContains_spec (Rd.of_vec (S := fun _ => True) x.vo (fun _ _ => trivial)) (by omega)) ?_
    rintro _ _ ⟨rfl, rfl⟩
    simp (disch := omega) only [go_sem, ↓cw_block, dsB_of]
    exact fin ⟨rfl, by simp⟩
  · simp (disch := omega) only [go_sem, ↓cw_block, dsB_of]
    exact fin ⟨rfl, by simp⟩
set_option maxHeartbeats 2000000 in
theorem sgWrong_spec (x : SM H M sb c v p o g) (hs : g.small 1000000) (ha : AR H S a) (hwn : a.n.words.length = wcount a.n.kind) : CallF Tryz.prog 45 [hp sb, anV a] H (fun r H' => Fr [] H H' ∧ r = .bool (wrongM g a.n)) NoP := by
  obtain ⟨⟨kind, words, nums, kids, pos⟩, x1, c1, x2, c2, x3, c3, rfl⟩ := ha.open
  simp only at hwn
  obtain ⟨G, hG⟩ : ∃ G, G = H.push (.cells #[iv kind, .slice x1 words.length c1, .slice x2 nums.length c2, .slice x3 kids.length c3, iv pos] 69) := ⟨_, rfl⟩
  have f0 : Fr [] H G := by rw [hG]; exact Fr.push
  have zG : G.size = H.size + 1 := by rw [hG]; simp
  have hb : Blk G H.size 69 [iv kind, .slice x1 words.length c1, .slice x2 nums.length c2, .slice x3 kids.length c3, iv pos] := by rw [hG]; exact Blk.new rfl
  have k0 := hb.cell 0
  have k1 := hb.cell 1
  simp only [List.getElem?_cons_succ, List.getElem?_cons_zero] at k0 k1
  have xG := x.grow f0
  have hw3 := ha.w.frame (Keeps.of_fr f0 (by simp))
  simp only at hw3
  refine callF_of Tryz.func45 rfl Tryz.ntmps45 Tryz.results45 (by decide) rfl ?_
  by_cases e1 : kind = 1
  · subst e1
    have hwl : words.length = 1 := by rw [hwn]; rfl
    obtain ⟨wb0, wo0, wc0, ew0, -, ec0⟩ := hw3.at1 (getD_some (d := ([] : Str)) (i := 0) (by rw [hwn]; decide))
    simp only [Value.slice.injEq, true_and] at ew0
    obtain ⟨rfl, rfl⟩ := ew0
    rw [Nat.add_zero] at ec0
    generalize hs0 : words.getD 0 [] = s0 at *
    simp (disch := omega) only [go_sem, ↓cw_block, dsB_of, anV]
    rw [← hG]
    try (simp (disch := omega) only [go_sem, ↓cw_block, dsB_of, k0, k1, ec0])
    refine call_to (sgChannel_spec (s := s0) xG hs) ?_
    rintro _ _ ⟨rfl, rfl⟩
    cases qC : inL g.C s0
    rotate_left
    · simp (disch := omega) only [go_sem, ↓cw_block, dsB_of]
      exact fin ⟨f0, by simp [wrongM, w0, w1, -List.getD_eq_getElem?_getD, hs0, qC]⟩
    simp (disch := omega) only [go_sem, ↓cw_block, dsB_of]
    refine call_to (sgVariable_spec (s := s0) xG hs) ?_
    rintro _ _ ⟨rfl, rfl⟩
    cases qV : (inL g.V s0 || inL g.O s0)
    rotate_left
    · simp (disch := omega) only [go_sem, ↓cw_block, dsB_of]
      exact fin ⟨f0, by simp [wrongM, w0, w1, -List.getD_eq_getElem?_getD, hs0, qC, qV]⟩
    have kp := xG.box.cell 2
    simp only [List.getElem?_cons_succ, List.getElem?_cons_zero] at kp
    obtain ⟨a1, k1', a2, k2', a3, k3', a4, k4', e1', e2', e3', e4'⟩ := xG.forms
    rw [e3'] at kp
    simp (disch := omega) only [go_sem, ↓cw_block, dsB_of, kp]
    refine call_to (sContains_spec (Rd.of_vec (S := fun _ => True) (e3' ▸ xG.vp) (fun _ _ => trivial)) (by have := hs; unfold Sg.small at this; omega)) ?_
    rintro _ _ ⟨rfl, rfl⟩
    simp (disch := omega) only [go_sem, ↓cw_block, dsB_of]
    exact fin ⟨f0, by simp [wrongM, w0, w1, -List.getD_eq_getElem?_getD, hs0, qC, qV]⟩
  by_cases e2 : kind = 2
  · subst e2
    have hwl : words.length = 1 := by rw [hwn]; rfl
    obtain ⟨wb0, wo0, wc0, ew0, -, ec0⟩ := hw3.at1 (getD_some (d := ([] : Str)) (i := 0) (by rw [hwn]; decide))
    simp only [Value.slice.injEq, true_and] at ew0
    obtain ⟨rfl, rfl⟩ := ew0
    rw [Nat.add_zero] at ec0
    generalize hs0 : words.getD 0 [] = s0 at *
    simp (disch := omega) only [go_sem, ↓cw_block, dsB_of, anV]
    rw [← hG]
    try (simp (disch := omega) only [go_sem, ↓cw_block, dsB_of, k0, k1, ec0])
    refine call_to (sgChannel_spec (s := s0) xG hs) ?_
    rintro _ _ ⟨rfl, rfl⟩
    cases qC : inL g.C s0
    rotate_left
    · simp (disch := omega) only [go_sem, ↓cw_block, dsB_of]
      exact fin ⟨f0, by simp [wrongM, w0, w1, -List.getD_eq_getElem?_getD, hs0, qC]⟩
    simp (disch := omega) only [go_sem, ↓cw_block, dsB_of]
    refine call_to (sgVariable_spec (s := s0) xG hs) ?_
    rintro _ _ ⟨rfl, rfl⟩
    cases qV : (inL g.V s0 || inL g.O s0)
    rotate_left
    · simp (disch := omega) only [go_sem, ↓cw_block, dsB_of]
      exact fin ⟨f0, by simp [wrongM, w0, w1, -List.getD_eq_getElem?_getD, hs0, qC, qV]⟩
    have kp := xG.box.cell 2
    simp only [List.getElem?_cons_succ, List.getElem?_cons_zero] at kp
    obtain ⟨a1, k1', a2, k2', a3, k3', a4, k4', e1', e2', e3', e4'⟩ := xG.forms
    rw [e3'] at kp
    simp (disch := omega) only [go_sem, ↓cw_block, dsB_of, kp]
    refine call_to (sContains_spec (Rd.of_vec (S := fun _ => True) (e3' ▸ xG.vp) (fun _ _ => trivial)) (by have := hs; unfold Sg.small at this; omega)) ?_
    rintro _ _ ⟨rfl, rfl⟩
    simp (disch := omega) only [go_sem, ↓cw_block, dsB_of]
    exact fin ⟨f0, by simp [wrongM, w0, w1, -List.getD_eq_getElem?_getD, hs0, qC, qV]⟩
  by_cases e3 : kind = 3
  · subst e3
    have hwl : words.length = 1 := by rw [hwn]; rfl
    obtain ⟨wb0, wo0, wc0, ew0, -, ec0⟩ := hw3.at1 (getD_some (d := ([] : Str)) (i := 0) (by rw [hwn]; decide))
    simp only [Value.slice.injEq, true_and] at ew0
    obtain ⟨rfl, rfl⟩ := ew0
    rw [Nat.add_zero] at ec0
    generalize hs0 : words.getD 0 [] = s0 at *
    simp (disch := omega) only [go_sem, ↓cw_block, dsB_of, anV]
    rw [← hG]
    try (simp (disch := omega) only [go_sem, ↓cw_block, dsB_of, k0, k1, ec0])
    refine call_to (sgChannel_spec (s := s0) xG hs) ?_
    rintro _ _ ⟨rfl, rfl⟩
    cases qC : inL g.C s0
    rotate_left
    · simp (disch := omega) only [go_sem, ↓cw_block, dsB_of]
      exact fin ⟨f0, by simp [wrongM, w0, w1, -List.getD_eq_getElem?_getD, hs0, qC]⟩
    simp (disch := omega) only [go_sem, ↓cw_block, dsB_of]
    refine call_to (sgVariable_spec (s := s0) xG hs) ?_
    rintro _ _ ⟨rfl, rfl⟩
    cases qV : (inL g.V s0 || inL g.O s0)
    rotate_left
    · simp (disch := omega) only [go_sem, ↓cw_block, dsB_of]
      exact fin ⟨f0, by simp [wrongM, w0, w1, -List.getD_eq_getElem?_getD, hs0, qC, qV]⟩
    have kp := xG.box.cell 2
    simp only [List.getElem?_cons_succ, List.getElem?_cons_zero] at kp
    obtain ⟨a1, k1', a2, k2', a3, k3', a4, k4', e1', e2', e3', e4'⟩ := xG.forms
    rw [e3'] at kp
    simp (disch := omega) only [go_sem, ↓cw_block, dsB_of, kp]
    refine call_to (sContains_spec (Rd.of_vec (S := fun _ => True) (e3' ▸ xG.vp) (fun _ _ => trivial)) (by have := hs; unfold Sg.small at this; omega)) ?_
    rintro _ _ ⟨rfl, rfl⟩
    simp (disch := omega) only [go_sem, ↓cw_block, dsB_of]
    exact fin ⟨f0, by simp [wrongM, w0, w1, -List.getD_eq_getElem?_getD, hs0, qC, qV]⟩
  by_cases e6 : kind = 6
  · subst e6
    have hwl : words.length = 1 := by rw [hwn]; rfl
    obtain ⟨wb0, wo0, wc0, ew0, -, ec0⟩ := hw3.at1 (getD_some (d := ([] : Str)) (i := 0) (by rw [hwn]; decide))
    simp only [Value.slice.injEq, true_and] at ew0
    obtain ⟨rfl, rfl⟩ := ew0
    rw [Nat.add_zero] at ec0
    generalize hs0 : words.getD 0 [] = s0 at *
    simp (disch := omega) only [go_sem, ↓cw_block, dsB_of, anV]
    rw [← hG]
    try (simp (disch := omega) only [go_sem, ↓cw_block, dsB_of, k0, k1, ec0])
    refine call_to (sgVariable_spec (s := s0) xG hs) ?_
    rintro _ _ ⟨rfl, rfl⟩
    simp (disch := omega) only [go_sem, ↓cw_block, dsB_of]
    exact fin ⟨f0, by simp [wrongM, w0, w1, -List.getD_eq_getElem?_getD, hs0]⟩
  by_cases e18 : kind = 18
  · subst e18
    have hwl : words.length = 1 := by rw [hwn]; rfl
    obtain ⟨wb0, wo0, wc0, ew0, -, ec0⟩ := hw3.at1 (getD_some (d := ([] : Str)) (i := 0) (by rw [hwn]; decide))
    simp only [Value.slice.injEq, true_and] at ew0
    obtain ⟨rfl, rfl⟩ := ew0
    rw [Nat.add_zero] at ec0
    generalize hs0 : words.getD 0 [] = s0 at *
    simp (disch := omega) only [go_sem, ↓cw_block, dsB_of, anV]
    rw [← hG]
    try (simp (disch := omega) only [go_sem, ↓cw_block, dsB_of, k0, k1, ec0])
    refine call_to (sgVariable_spec (s := s0) xG hs) ?_
    rintro _ _ ⟨rfl, rfl⟩
    simp (disch := omega) only [go_sem, ↓cw_block, dsB_of]
    exact fin ⟨f0, by simp [wrongM, w0, w1, -List.getD_eq_getElem?_getD, hs0]⟩
  by_cases e7 : kind = 7
  · subst e7
    have hwl : words.length = 1 := by rw [hwn]; rfl
    obtain ⟨wb0, wo0, wc0, ew0, -, ec0⟩ := hw3.at1 (getD_some (d := ([] : Str)) (i := 0) (by rw [hwn]; decide))
    simp only [Value.slice.injEq, true_and] at ew0
    obtain ⟨rfl, rfl⟩ := ew0
    rw [Nat.add_zero] at ec0
    generalize hs0 : words.getD 0 [] = s0 at *
    simp (disch := omega) only [go_sem, ↓cw_block, dsB_of, anV]
    rw [← hG]
    try (simp (disch := omega) only [go_sem, ↓cw_block, dsB_of, k0, k1, ec0])
    refine call_to (sgChannel_spec (s := s0) xG hs) ?_
    rintro _ _ ⟨rfl, rfl⟩
    simp (disch := omega) only [go_sem, ↓cw_block, dsB_of]
    exact fin ⟨f0, by simp [wrongM, w0, w1, -List.getD_eq_getElem?_getD, hs0]⟩
  by_cases e19 : kind = 19
  · subst e19
    have hwl : words.length = 1 := by rw [hwn]; rfl
    obtain ⟨wb0, wo0, wc0, ew0, -, ec0⟩ := hw3.at1 (getD_some (d := ([] : Str)) (i := 0) (by rw [hwn]; decide))
    simp only [Value.slice.injEq, true_and] at ew0
    obtain ⟨rfl, rfl⟩ := ew0
    rw [Nat.add_zero] at ec0
    generalize hs0 : words.getD 0 [] = s0 at *
    simp (disch := omega) only [go_sem, ↓cw_block, dsB_of, anV]
    rw [← hG]
    try (simp (disch := omega) only [go_sem, ↓cw_block, dsB_of, k0, k1, ec0])
    refine call_to (sgChannel_spec (s := s0) xG hs) ?_
    rintro _ _ ⟨rfl, rfl⟩
    simp (disch := omega) only [go_sem, ↓cw_block, dsB_of]
    exact fin ⟨f0, by simp [wrongM, w0, w1, -List.getD_eq_getElem?_getD, hs0]⟩
  by_cases e8 : kind = 8
  · subst e8
    have hwl : words.length = 2 := by rw [hwn]; rfl
    obtain ⟨wb0, wo0, wc0, ew0, -, ec0⟩ := hw3.at1 (getD_some (d := ([] : Str)) (i := 0) (by rw [hwn]; decide))
    simp only [Value.slice.injEq, true_and] at ew0
    obtain ⟨rfl, rfl⟩ := ew0
    rw [Nat.add_zero] at ec0
    obtain ⟨wb1, wo1, wc1, ew1, -, ec1⟩ := hw3.at1 (getD_some (d := ([] : Str)) (i := 1) (by rw [hwn]; decide))
    simp only [Value.slice.injEq, Option.some.injEq, Addr.mk.injEq, and_true, true_and] at ew1
    obtain ⟨⟨rfl, rfl⟩, rfl⟩ := ew1
    generalize hs0 : words.getD 0 [] = s0 at *
    generalize hs1 : words.getD 1 [] = s1 at *
    simp (disch := omega) only [go_sem, ↓cw_block, dsB_of, anV]
    rw [← hG]
    try (simp (disch := omega) only [go_sem, ↓cw_block, dsB_of, k0, k1, ec0])
    refine call_to (sgChannel_spec (s := s0) xG hs) ?_
    rintro _ _ ⟨rfl, rfl⟩
    cases qC : inL g.C s0
    · simp (disch := omega) only [go_sem, ↓cw_block, dsB_of]
      exact fin ⟨f0, by simp [wrongM, w0, w1, -List.getD_eq_getElem?_getD, hs0, qC, hs1]⟩
    simp (disch := omega) only [go_sem, ↓cw_block, dsB_of, k1, ec1]
    refine call_to (sgVariable_spec (s := s1) xG hs) ?_
    rintro _ _ ⟨rfl, rfl⟩
    simp (disch := omega) only [go_sem, ↓cw_block, dsB_of]
    exact fin ⟨f0, by simp [wrongM, w0, w1, -List.getD_eq_getElem?_getD, hs0, qC, hs1]⟩
  simp (disch := omega) only [go_sem, ↓cw_block, dsB_of, anV]
  refine fin ⟨Fr.push, ?_⟩
  unfold wrongM
  rw [if_neg (by simp only; omega), if_neg (by simp only; omega), if_neg (by simp only; omega), if_neg (by simp only; omega)]
/-- What declare leaves. -/
def DecQ (H : Heap) (M sb : Nat) (g : Sg) (H' : Heap) : Prop := ∃ c v p o, SM H' M sb c v p o g ∧ ∃ F, Fr F H H' ∧ ∀ b ∈ F, M ≤ b
set_option maxHeartbeats 2000000 in
theorem sgDeclare_spec (x : SM H M sb c v p o g) (hM : M ≤ H.size) (hs : g.small 1000000) (ha : AR H S a) (hwn : a.n.words.length = wcount a.n.kind) : CallF Tryz.prog 66 [hp sb, anV a] H (fun r H' => DecQ H M sb (declM g a.n) H') NoP := by
  obtain ⟨⟨kind, words, nums, kids, pos⟩, x1, c1, x2, c2, x3, c3, rfl⟩ := ha.open
  simp only at hwn
  obtain ⟨G, hG⟩ : ∃ G, G = H.push (.cells #[iv kind, .slice x1 words.length c1, .slice x2 nums.length c2, .slice x3 kids.length c3, iv pos] 69) := ⟨_, rfl⟩
  have f0 : Fr [] H G := by rw [hG]; exact Fr.push
  have zG : G.size = H.size + 1 := by rw [hG]; simp
  have hb : Blk G H.size 69 [iv kind, .slice x1 words.length c1, .slice x2 nums.length c2, .slice x3 kids.length c3, iv pos] := by rw [hG]; exact Blk.new rfl
  have k0 := hb.cell 0
  have k1 := hb.cell 1
  simp only [List.getElem?_cons_succ, List.getElem?_cons_zero] at k0 k1
  have xG := x.grow f0
  have hw3 := ha.w.frame (Keeps.of_fr f0 (by simp))
  simp only at hw3
  refine callF_of Tryz.func66 rfl Tryz.ntmps66 Tryz.results66 (by decide) rfl ?_
  by_cases e1 : kind = 1
  · subst e1
    have hwl : words.length = 1 := by rw [hwn]; rfl
    obtain ⟨wb0, wo0, wc0, ew0, -, ec0⟩ := hw3.at1 (getD_some (d := ([] : Str)) (i := 0) (by rw [hwn]; decide))
    simp only [Value.slice.injEq, true_and] at ew0
    obtain ⟨rfl, rfl⟩ := ew0
    rw [Nat.add_zero] at ec0
    generalize hs0 : words.getD 0 [] = s0 at *
    simp (disch := omega) only [go_sem, ↓cw_block, dsB_of, anV]
    rw [← hG]
    try (simp (disch := omega) only [go_sem, ↓cw_block, dsB_of, k0, k1, ec0])
    obtain ⟨a1, k1', a2, k2', a3, k3', a4, k4', e1', e2', e3', e4'⟩ := xG.forms
    subst e1' e2' e3' e4'
    refine draw1 (lk [(0, false), (1, false), (2, false), (3, false), (4, false), (5, true), (6, true), (7, true), (8, true)] (.act 9 (.act 10 (lk [(11, true), (12, true)] (.actd 13 .fin)) .non) .non)) T.mixed (hlist sb 0 _) (heldOK_blk xG.box) ?_
    simp (disch := omega) only [go_sem, ↓cw_block, dsB_of, k1, ec0]
    refine held_by (heldOK_blk (xG.grow Fr.push).box) ?_
    simp (disch := omega) only [go_sem, ↓cw_block, dsB_of, k1, ec0]
    refine app_lit1 T.el66 rfl xG.vc rfl (by simp; unfold Sg.small at hs; omega) ?_
    intro v' HZ g1 g2 g3 g4
    refine Hush.out ?_
    obtain ⟨aa, cc, hv'⟩ := g4
    obtain ⟨w5, x5, bx, o5⟩ := xG.appC (by omega) g1 g2 g3
    subst hv'
    refine ⟨?_⟩
    first | refine held_by (heldOK_blk bx) ?_ | skip
    simp (disch := omega) only [go_sem, ↓cw_block, dsB_of, w5]
    exact fin ⟨_, _, _, _, by simpa [declM, w0, -List.getD_eq_getElem?_getD, hs0] using x5, _, (f0.cat g2).cat (Fr.set (a := ⟨sb, 0, none⟩) (F := [sb]) (by simp)), by intro b hb; simp only [List.nil_append, List.mem_append, List.mem_singleton] at hb; rcases hb with hb | rfl; exact o5 b hb; exact xG.low⟩
  by_cases e3 : kind = 3
  · subst e3
    have hwl : words.length = 1 := by rw [hwn]; rfl
    obtain ⟨wb0, wo0, wc0, ew0, -, ec0⟩ := hw3.at1 (getD_some (d := ([] : Str)) (i := 0) (by rw [hwn]; decide))
    simp only [Value.slice.injEq, true_and] at ew0
    obtain ⟨rfl, rfl⟩ := ew0
    rw [Nat.add_zero] at ec0
    generalize hs0 : words.getD 0 [] = s0 at *
    simp (disch := omega) only [go_sem, ↓cw_block, dsB_of, anV]
    rw [← hG]
    try (simp (disch := omega) only [go_sem, ↓cw_block, dsB_of, k0, k1, ec0])
    obtain ⟨a1, k1', a2, k2', a3, k3', a4, k4', e1', e2', e3', e4'⟩ := xG.forms
    subst e1' e2' e3' e4'
    refine draw1 (lk [(0, false), (1, false), (2, false), (3, false), (4, false), (5, true), (6, true), (7, true), (8, true)] (.act 9 (.act 10 (lk [(11, true), (12, true)] (.actd 13 .fin)) .non) .non)) T.mixed (hlist sb 0 _) (heldOK_blk xG.box) ?_
    simp (disch := omega) only [go_sem, ↓cw_block, dsB_of, k1, ec0]
    refine held_by (heldOK_blk (xG.grow Fr.push).box) ?_
    simp (disch := omega) only [go_sem, ↓cw_block, dsB_of, k1, ec0]
    refine app_lit1 T.el66 rfl xG.vp rfl (by simp; unfold Sg.small at hs; omega) ?_
    intro v' HZ g1 g2 g3 g4
    refine Hush.out ?_
    obtain ⟨aa, cc, hv'⟩ := g4
    obtain ⟨w5, x5, bx, o5⟩ := xG.appP (by omega) g1 g2 g3
    subst hv'
    refine ⟨?_⟩
    first | refine held_by (heldOK_blk bx) ?_ | skip
    obtain ⟨w6, x6⟩ := x5.inside
    simp (disch := omega) only [go_sem, ↓cw_block, dsB_of, w5, w6]
    exact fin ⟨_, _, _, _, by simpa [declM, w0, -List.getD_eq_getElem?_getD, hs0] using x6, _, ((f0.cat g2).cat (Fr.set (a := ⟨sb, 2, none⟩) (F := [sb]) (by simp))).cat (Fr.set (a := ⟨sb, 4, none⟩) (F := [sb]) (by simp)), by intro b hb; simp only [List.nil_append, List.mem_append, List.mem_singleton] at hb; rcases hb with (hb | rfl) | rfl; exact o5 b hb; exact xG.low; exact xG.low⟩
  by_cases e2 : kind = 2
  · subst e2
    have hwl : words.length = 1 := by rw [hwn]; rfl
    obtain ⟨wb0, wo0, wc0, ew0, -, ec0⟩ := hw3.at1 (getD_some (d := ([] : Str)) (i := 0) (by rw [hwn]; decide))
    simp only [Value.slice.injEq, true_and] at ew0
    obtain ⟨rfl, rfl⟩ := ew0
    rw [Nat.add_zero] at ec0
    generalize hs0 : words.getD 0 [] = s0 at *
    have ki := xG.box.cell 4
    simp only [List.getElem?_cons_succ, List.getElem?_cons_zero] at ki
    cases hi : g.ins
    · rw [hi] at ki
      simp (disch := omega) only [go_sem, ↓cw_block, dsB_of, anV]
      rw [← hG]
      try (simp (disch := omega) only [go_sem, ↓cw_block, dsB_of, k0, k1, ec0, ki])
      obtain ⟨a1, k1', a2, k2', a3, k3', a4, k4', e1', e2', e3', e4'⟩ := xG.forms
      subst e1' e2' e3' e4'
      refine draw1 (lk [(0, false), (1, false), (2, false), (3, false), (4, false), (5, true), (6, true), (7, true), (8, true)] (.act 9 (.act 10 (lk [(11, true), (12, true)] (.actd 13 .fin)) .non) .non)) T.mixed (hlist sb 0 _) (heldOK_blk xG.box) ?_
      simp (disch := omega) only [go_sem, ↓cw_block, dsB_of, k1, ec0]
      refine held_by (heldOK_blk (xG.grow Fr.push).box) ?_
      simp (disch := omega) only [go_sem, ↓cw_block, dsB_of, k1, ec0]
      refine app_lit1 T.el66 rfl xG.vv rfl (by simp; unfold Sg.small at hs; omega) ?_
      intro v' HZ g1 g2 g3 g4
      refine Hush.out ?_
      obtain ⟨aa, cc, hv'⟩ := g4
      obtain ⟨w5, x5, bx, o5⟩ := xG.appV (by omega) g1 g2 g3
      subst hv'
      refine ⟨?_⟩
      first | refine held_by (heldOK_blk bx) ?_ | skip
      simp (disch := omega) only [go_sem, ↓cw_block, dsB_of, w5]
      exact fin ⟨_, _, _, _, by simpa [declM, w0, -List.getD_eq_getElem?_getD, hs0, hi] using x5, _, (f0.cat g2).cat (Fr.set (a := ⟨sb, 1, none⟩) (F := [sb]) (by simp)), by intro b hb; simp only [List.nil_append, List.mem_append, List.mem_singleton] at hb; rcases hb with hb | rfl; exact o5 b hb; exact xG.low⟩
    · rw [hi] at ki
      simp (disch := omega) only [go_sem, ↓cw_block, dsB_of, anV]
      rw [← hG]
      try (simp (disch := omega) only [go_sem, ↓cw_block, dsB_of, k0, k1, ec0, ki])
      obtain ⟨a1, k1', a2, k2', a3, k3', a4, k4', e1', e2', e3', e4'⟩ := xG.forms
      subst e1' e2' e3' e4'
      refine draw1 (lk [(0, false), (1, false), (2, false), (3, false), (4, false), (5, true), (6, true), (7, true), (8, true)] (.act 9 (.act 10 (lk [(11, true), (12, true)] (.actd 13 .fin)) .non) .non)) T.mixed (hlist sb 0 _) (heldOK_blk xG.box) ?_
      simp (disch := omega) only [go_sem, ↓cw_block, dsB_of, k1, ec0]
      refine held_by (heldOK_blk (xG.grow Fr.push).box) ?_
      simp (disch := omega) only [go_sem, ↓cw_block, dsB_of, k1, ec0]
      refine app_lit1 T.el66 rfl xG.vo rfl (by simp; unfold Sg.small at hs; omega) ?_
      intro v' HZ g1 g2 g3 g4
      refine Hush.out ?_
      obtain ⟨aa, cc, hv'⟩ := g4
      obtain ⟨w5, x5, bx, o5⟩ := xG.appO (by omega) g1 g2 g3
      subst hv'
      refine ⟨?_⟩
      first | refine held_by (heldOK_blk bx) ?_ | skip
      simp (disch := omega) only [go_sem, ↓cw_block, dsB_of, w5]
      exact fin ⟨_, _, _, _, by simpa [declM, w0, -List.getD_eq_getElem?_getD, hs0, hi] using x5, _, (f0.cat g2).cat (Fr.set (a := ⟨sb, 3, none⟩) (F := [sb]) (by simp)), by intro b hb; simp only [List.nil_append, List.mem_append, List.mem_singleton] at hb; rcases hb with hb | rfl; exact o5 b hb; exact xG.low⟩
  simp (disch := omega) only [go_sem, ↓cw_block, dsB_of, anV]
  rw [← hG]
  refine fin ⟨c, v, p, o, ?_, [], f0, by simp⟩
  unfold declM
  rw [if_neg (by simp only; omega), if_neg (by simp only; omega), if_neg (by simp only; omega)]
  exact xG
end
end Go.Proofs.YtpkfgoemhcgpdaaGreatDoor

namespace Go.Proofs.YtpkfgoemhcgpdaaGreatDoor
open Go.HL
set_option maxRecDepth 10000
set_option linter.unusedSimpArgs false
set_option linter.unusedVariables false

def hitM (ks : List Int) (i : Nat) : Bool := match ks with
  | k :: _ => decide (k = i)
  | [] => false
def resetM (g : Sg) : Sg := { g with O := [], ins := false }
def runL (stop : Nat → Sg → Bool) : List Nd → Nat → List Int → Sg → Option (Nat × Sg)
  | [], _, _, _ => none
  | n :: r, i, ks, g =>
    if stop i (if hitM ks i then resetM g else g) then some (i, if hitM ks i then resetM g else g)
    else runL stop r (i + 1) (if hitM ks i then ks.tail else ks) (declM (if hitM ks i then resetM g else g) n)
def sg0 : Sg := ⟨[], [], [], [], false⟩
theorem reset_small {g : Sg} {m : Nat} (h : g.small m) : (resetM g).small m := by unfold Sg.small resetM at *; simp; omega
theorem small_mono {g : Sg} {m k : Nat} (h : g.small m) (hk : m ≤ k) : g.small k := by unfold Sg.small at *; omega
def RunQ (Post : Nat → Sg → Heap → Prop) (H H' : Heap) : Option (Nat × Sg) → Prop
  | none => Fr [] H H'
  | some x => Post x.1 x.2 H'
section
variable {H : Heap} {S : Nat → Prop} {tv : Value} {l : List Nd}
set_option maxHeartbeats 4000000 in
theorem scRun_spec (h : NL H S tv l) (hW : WOk l) (h8 : l.length ≤ 1000000) (h0 : 0 < l.length) {gf : Nat} {caps : List Value} {stop : Nat → Sg → Bool} {Post : Nat → Sg → Heap → Prop}
    (hv : ∀ {i g H' M sb c v p o}, i < l.length → Fr [] H H' → SM H' M sb c v p o g → H.size ≤ M → g.small 1000000 → CallF Tryz.prog gf (iv i :: hp sb :: caps) H' (fun r H'' => r = .bool (!stop i g) ∧ (stop i g = false → Fr [] H' H'') ∧ (stop i g = true → Post i g H'')) NoP) :
    CallF Tryz.prog 46 [.agg #[tv, .func (.func gf) #[] caps.toArray]] H (fun r H' => RunQ Post H H' (runL stop l 0 (nodeAt l 0).kids sg0)) NoP := by
  replace h : NL H (fun b => b < H.size) tv l := h.mono (fun b _ hb => hb)
  have hg0 := getD_some (d := nd0') h0
  obtain ⟨b, o, cap, a, q1, q2, ar, -, -, -, -, k3, -⟩ := h.row hg0
  obtain ⟨nn, x1, c1, x2, c2, x3, c3, rfl⟩ := ar.open
  simp only at q2
  rw [Nat.zero_mul, Nat.add_zero] at k3
  simp only at k3
  have hnd : nodeAt l 0 = nn := by unfold nodeAt; rw [q2]
  rw [hnd]
  have hkk := ar.k
  have hkc := ar.kc _ _ _ rfl
  simp only at hkk
  subst q1
  obtain ⟨A0, hA0⟩ : ∃ A, A = H.push (.cells #[.slice (some ⟨b, o, none⟩) l.length cap, .func (.func gf) #[] caps.toArray] 109) := ⟨_, rfl⟩
  obtain ⟨A1, hA1⟩ : ∃ A, A = A0.push (.cells #[.slice none 0 0, .slice none 0 0, .slice none 0 0, .slice none 0 0, .bool false] 121) := ⟨_, rfl⟩
  have z0 : A0.size = H.size + 1 := by rw [hA0]; simp
  have z1 : A1.size = A0.size + 1 := by rw [hA1]; simp
  have g0 : Fr [] H A0 := by rw [hA0]; exact Fr.push
  have g1 : Fr [] A0 A1 := by rw [hA1]; exact Fr.push
  have bw : Blk A1 H.size 109 [.slice (some ⟨b, o, none⟩) l.length cap, .func (.func gf) #[] caps.toArray] := g1.blk (by rw [hA0]; exact Blk.new rfl) (by simp)
  have bs : Blk A1 A0.size 121 [.slice none 0 0, .slice none 0 0, .slice none 0 0, .slice none 0 0, .bool false] := by rw [hA1]; exact Blk.new rfl
  have sm0 : SM A1 A0.size A0.size (.slice none 0 0) (.slice none 0 0) (.slice none 0 0) (.slice none 0 0) sg0 :=
    ⟨bs, Nat.le_refl _, Vec.nil, by simp [own], Vec.nil, by simp [own], Vec.nil, by simp [own], Vec.nil, by simp [own], by simp [own], by simp [own], by simp [own], by simp [own], by simp [own], by simp [own]⟩
  have w0' := bw.cell 0
  have k3' := (g0.trans g1).cell' k3 (by simp)
  simp only [List.getElem?_cons_succ, List.getElem?_cons_zero] at w0'
  generalize hR : runL stop l 0 nn.kids sg0 = R
  refine callF_of Tryz.func46 rfl Tryz.ntmps46 Tryz.results46 (by decide) rfl ?_
  simp (disch := omega) only [go_sem, ↓cw_block, dsB_of]
  rw [← hA0, ← hA1]
  simp (disch := omega) only [go_sem, ↓cw_block, dsB_of, w0', k3']
  refine loop_by (fun k ρ H2 => ∃ (i : Nat) (ks : List Int) (g : Sg) (aw : Option Addr) (cw : Nat) (c v p ov : Value), k = l.length - i ∧ i ≤ l.length ∧ runL stop (l.drop i) i ks g = R ∧ ks.length ≤ cw ∧ Rd H (fun b => b < H.size) 1 (.slice aw ks.length cw) (ks.map iv) ∧ Fr [] H H2 ∧
      Blk H2 H.size 109 [.slice (some ⟨b, o, none⟩) l.length cap, .func (.func gf) #[] caps.toArray] ∧ SM H2 A0.size A0.size c v p ov g ∧ g.small i ∧ A0.size ≤ H2.size ∧
      (ρ.get 1 = hp H.size ∧ ρ.get 2 = hp A0.size ∧ ρ.get 3 = .slice aw ks.length cw ∧ ρ.get 14 = .slice (some ⟨b, o, none⟩) l.length cap ∧ ρ.get 15 = iv l.length ∧ ρ.get 16 = iv i ∧ ρ.ds = [])) (k := l.length) ?_ ?_
  · exact ⟨0, nn.kids, sg0, x3, c3, _, _, _, _, rfl, by omega, hR, hkc, hkk, g0.trans g1, bw, sm0, by simp [Sg.small, sg0], by omega, by simp (disch := omega) only [go_sem, ↓cw_block, dsB_of]⟩
  · clear sm0 bs bw hR
    rintro k ρ H2 ⟨i, ks, g, aw, cw, c, v, p, ov, rfl, hi, hrun, hcw, hrd, fr2, bw, sm, hsm, hsz, r1, r2, r3, r14, r15, r16, rd⟩
    have hxi : (i : Int) + 1 = ((i + 1 : Nat) : Int) := by omega
    by_cases hin : i < l.length
    rotate_left
    · rw [List.drop_eq_nil_of_le (by omega)] at hrun
      have hrun' : none = R := hrun
      simp (disch := omega) only [go_sem, ↓cw_block, dsB_of, r1, r2, r3, r14, r15, r16, rd]
      refine fin ?_
      rw [← hrun']
      exact fr2
    have hgi := getD_some (d := nd0') hin
    have hd : l.drop i = l.getD i nd0' :: l.drop (i + 1) := by
      rw [List.drop_eq_getElem_cons hin]; congr 1; simp [hin]
    rw [hd] at hrun
    obtain ⟨b', o', cap', a', q1, q2', ar', ld, -⟩ := (h.grow fr2).row hgi
    simp only [Value.slice.injEq, Option.some.injEq, Addr.mk.injEq, and_true, true_and] at q1
    obtain ⟨⟨rfl, rfl⟩, rfl⟩ := q1
    have hwn := hW i _ hgi
    rw [← q2'] at ld hwn hrun
    obtain ⟨G, hG⟩ : ∃ G, G = H2.push (.cells #[iv a'.n.kind, a'.wv, a'.nv, a'.kv, iv a'.n.pos] 69) := ⟨_, rfl⟩
    have f3 : Fr [] H2 G := by rw [hG]; exact Fr.push
    have zG : G.size = H2.size + 1 := by rw [hG]; simp
    have bn : Blk G H2.size 69 [iv a'.n.kind, a'.wv, a'.nv, a'.kv, iv a'.n.pos] := by rw [hG]; exact Blk.new rfl
    have smG := sm.grow f3
    have bwG := f3.blk bw (by simp)
    obtain ⟨nn', y1, d1, y2, d2, y3, d3, rfl⟩ := ar'.open
    simp only at ld hwn hrun bn hG
    have hrun' : (if stop i (if hitM ks i then resetM g else g) then some (i, if hitM ks i then resetM g else g)
      else runL stop (l.drop (i + 1)) (i + 1) (if hitM ks i then ks.tail else ks) (declM (if hitM ks i then resetM g else g) nn')) = R := hrun
    clear hrun
    cases hh : hitM ks i
    · rw [hh] at hrun'
      simp only [Bool.false_eq_true, if_false] at hrun'
      have go1 : ∀ {x : Prop}, True := trivial
      have hsm' := hsm
      obtain ⟨g', hg'⟩ : ∃ g', g' = g := ⟨_, rfl⟩
      rw [← hg'] at hrun' hsm' smG
      have frX := fr2.trans f3
      have smX := smG
      have bwX := bwG
      have bnX := bn
      have frK : Fr [] H2 G := f3
      cases ks with
      | nil =>
        simp only [List.length_nil] at r3
        have wc1 := bwX.cell 1
        simp only [List.getElem?_cons_succ, List.getElem?_cons_zero] at wc1
        simp (disch := omega) only [go_sem, ↓cw_block, dsB_of, r1, r2, r3, r14, r15, r16, rd, ld]
        rw [← hG]
        simp (disch := omega) only [go_sem, ↓cw_block, dsB_of, r1, r2, r3, r14, r15, r16, rd, wc1]
        refine call_to (hv hin frX smX (by omega) (small_mono hsm' (by omega))) ?_
        intro v5 H5 hvv
        refine Hush.out ?_
        obtain ⟨rfl, hv1, hv2⟩ := hvv
        cases hst : stop i g'
        rotate_left
        · rw [hst] at hrun'
          simp only [if_true] at hrun'
          refine ⟨?_⟩
          simp (disch := omega) only [go_sem, ↓cw_block, dsB_of, r1, r2, r3, r14, r15, r16, rd]
          refine fin ?_
          rw [← hrun']
          exact hv2 hst
        rw [hst] at hrun'
        simp only [Bool.false_eq_true, if_false] at hrun'
        have f5 := hv1 hst
        have smY := smX.grow f5
        have ldn := (f5.blk bnX (by simp)).cells0
        simp only [List.length_cons, List.length_nil] at ldn
        have z5 := f5.size
        refine ⟨?_⟩
        simp (disch := omega) only [go_sem, ↓cw_block, dsB_of, r1, r2, r3, r14, r15, r16, rd, ldn]
        refine call_to (sgDeclare_spec (a := ⟨nn', .slice y1 nn'.words.length d1, .slice y2 nn'.nums.length d2, .slice y3 nn'.kids.length d3⟩) smY (by omega) (small_mono hsm' (by omega)) (ar'.frame (Keeps.of_fr (frK.trans f5) (by simp))) hwn) ?_
        intro v6 H6 hvv
        refine Hush.out ?_
        obtain ⟨c6, v6', p6, o6, sm6, F, f6, hF⟩ := hvv
        have fr6 : Fr [] H H6 := Fr.more (frX.trans f5) f6 (fun b hb => .inr (by have := hF b hb; omega))
        have bw6 := f6.blk (f5.blk bwX (by simp)) (fun e => by have := hF _ e; omega)
        have z6 := f6.size
        refine ⟨?_⟩
        simp (disch := omega) only [go_sem, ↓cw_block, dsB_of, r1, r2, r3, r14, r15, r16, rd]
        exact fin ⟨l.length - (i + 1), by omega, i + 1, [], _, aw, cw, c6, v6', p6, o6, rfl, by omega, hrun', hcw, hrd, fr6, bw6, sm6, decl_small hsm', by omega, by (simp (disch := omega) only [go_sem, ↓cw_block, dsB_of, r1, r2, r3, r14, r15, r16, rd, hxi]) <;> simp⟩
      | cons k0 ks =>
        have hne : ¬ k0 = (i : Int) := by simpa [hitM] using hh
        obtain ⟨bk, ok, ck, e1, -, e2⟩ := (hrd.frame (Keeps.of_fr (fr2.trans f3) (by simp))).at1 (i := 0) (x := k0) rfl
        simp only [Value.slice.injEq, true_and] at e1
        obtain ⟨rfl, rfl⟩ := e1
        rw [Nat.add_zero] at e2
        simp only [List.length_cons] at r3
        have wc1 := bwX.cell 1
        simp only [List.getElem?_cons_succ, List.getElem?_cons_zero] at wc1
        simp (disch := omega) only [go_sem, ↓cw_block, dsB_of, r1, r2, r3, r14, r15, r16, rd, ld]
        rw [← hG]
        simp (disch := omega) only [go_sem, ↓cw_block, dsB_of, r1, r2, r3, r14, r15, r16, rd, wc1, e2]
        refine call_to (hv hin frX smX (by omega) (small_mono hsm' (by omega))) ?_
        intro v5 H5 hvv
        refine Hush.out ?_
        obtain ⟨rfl, hv1, hv2⟩ := hvv
        cases hst : stop i g'
        rotate_left
        · rw [hst] at hrun'
          simp only [if_true] at hrun'
          refine ⟨?_⟩
          simp (disch := omega) only [go_sem, ↓cw_block, dsB_of, r1, r2, r3, r14, r15, r16, rd]
          refine fin ?_
          rw [← hrun']
          exact hv2 hst
        rw [hst] at hrun'
        simp only [Bool.false_eq_true, if_false] at hrun'
        have f5 := hv1 hst
        have smY := smX.grow f5
        have ldn := (f5.blk bnX (by simp)).cells0
        simp only [List.length_cons, List.length_nil] at ldn
        have z5 := f5.size
        refine ⟨?_⟩
        simp (disch := omega) only [go_sem, ↓cw_block, dsB_of, r1, r2, r3, r14, r15, r16, rd, ldn]
        refine call_to (sgDeclare_spec (a := ⟨nn', .slice y1 nn'.words.length d1, .slice y2 nn'.nums.length d2, .slice y3 nn'.kids.length d3⟩) smY (by omega) (small_mono hsm' (by omega)) (ar'.frame (Keeps.of_fr (frK.trans f5) (by simp))) hwn) ?_
        intro v6 H6 hvv
        refine Hush.out ?_
        obtain ⟨c6, v6', p6, o6, sm6, F, f6, hF⟩ := hvv
        have fr6 : Fr [] H H6 := Fr.more (frX.trans f5) f6 (fun b hb => .inr (by have := hF b hb; omega))
        have bw6 := f6.blk (f5.blk bwX (by simp)) (fun e => by have := hF _ e; omega)
        have z6 := f6.size
        refine ⟨?_⟩
        simp (disch := omega) only [go_sem, ↓cw_block, dsB_of, r1, r2, r3, r14, r15, r16, rd]
        exact fin ⟨l.length - (i + 1), by omega, i + 1, k0 :: ks, _, _, _, c6, v6', p6, o6, rfl, by omega, hrun', hcw, hrd, fr6, bw6, sm6, decl_small hsm', by omega, by (simp (disch := omega) only [go_sem, ↓cw_block, dsB_of, r1, r2, r3, r14, r15, r16, rd, hxi]) <;> simp⟩
    · rw [hh] at hrun'
      simp only [if_true] at hrun'
      cases ks with
      | nil => simp [hitM] at hh
      | cons k0 ks =>
        have hne : k0 = (i : Int) := by simpa [hitM] using hh
        obtain ⟨bk, ok, ck, e1, -, e2⟩ := (hrd.frame (Keeps.of_fr (fr2.trans f3) (by simp))).at1 (i := 0) (x := k0) rfl
        simp only [Value.slice.injEq, true_and] at e1
        obtain ⟨rfl, rfl⟩ := e1
        rw [Nat.add_zero] at e2
        simp only [List.length_cons] at r3 hcw hrd
        have htl := Rd.tail1 (x := iv k0) (xs := ks.map iv) hrd hcw
        obtain ⟨u1, u2, smX⟩ := smG.reset
        have hsm' := reset_small hsm
        obtain ⟨g', hg'⟩ : ∃ g', g' = resetM g := ⟨_, rfl⟩
        have smX : SM _ A0.size A0.size c v p (.slice none 0 0) (resetM g) := smX
        rw [← hg'] at hrun' hsm' smX
        generalize hHX : setH (setH G ⟨A0.size, 3, none⟩ (.slice none 0 0)) ⟨A0.size, 4, none⟩ (.bool false) = HX at u2 smX
        have fX : Fr [A0.size] G HX := by rw [← hHX]; exact (Fr.set (by simp)).trans (Fr.set (by simp))
        have frX : Fr [] H HX := Fr.more (fr2.trans f3) fX (by simp; omega)
        have zX := fX.size
        have bwX := fX.blk bwG (by simp; omega)
        have hsz2 := smG.box.lt
        have hA2 : A0.size < H2.size := sm.box.lt
        have bnX := fX.blk bn (by simp; omega)
        have frK : Fr [A0.size] H2 HX := f3.nil.trans fX
        have arX := (ar'.frame (Keeps.of_fr frK (by intro b hb; simp; omega)))
        subst hne
        have wc1 := bwX.cell 1
        simp only [List.getElem?_cons_succ, List.getElem?_cons_zero] at wc1
        simp (disch := omega) only [go_sem, ↓cw_block, dsB_of, r1, r2, r3, r14, r15, r16, rd, ld]
        rw [← hG]
        simp (disch := omega) only [go_sem, ↓cw_block, dsB_of, r1, r2, r3, r14, r15, r16, rd, e2, u1, u2, wc1]
        refine call_to (hv hin frX smX (by omega) (small_mono hsm' (by omega))) ?_
        intro v5 H5 hvv
        refine Hush.out ?_
        obtain ⟨rfl, hv1, hv2⟩ := hvv
        cases hst : stop i g'
        rotate_left
        · rw [hst] at hrun'
          simp only [if_true] at hrun'
          refine ⟨?_⟩
          simp (disch := omega) only [go_sem, ↓cw_block, dsB_of, r1, r2, r3, r14, r15, r16, rd]
          refine fin ?_
          rw [← hrun']
          exact hv2 hst
        rw [hst] at hrun'
        simp only [Bool.false_eq_true, if_false] at hrun'
        have f5 := hv1 hst
        have smY := smX.grow f5
        have ldn := (f5.blk bnX (by simp)).cells0
        simp only [List.length_cons, List.length_nil] at ldn
        have z5 := f5.size
        refine ⟨?_⟩
        simp (disch := omega) only [go_sem, ↓cw_block, dsB_of, r1, r2, r3, r14, r15, r16, rd, ldn]
        refine call_to (sgDeclare_spec (a := ⟨nn', .slice y1 nn'.words.length d1, .slice y2 nn'.nums.length d2, .slice y3 nn'.kids.length d3⟩) smY (by omega) (small_mono hsm' (by omega)) (arX.frame (Keeps.of_fr f5 (by simp))) hwn) ?_
        intro v6 H6 hvv
        refine Hush.out ?_
        obtain ⟨c6, v6', p6, o6, sm6, F, f6, hF⟩ := hvv
        have fr6 : Fr [] H H6 := Fr.more (frX.trans f5) f6 (fun b hb => .inr (by have := hF b hb; omega))
        have bw6 := f6.blk (f5.blk bwX (by simp)) (fun e => by have := hF _ e; omega)
        have z6 := f6.size
        refine ⟨?_⟩
        simp (disch := omega) only [go_sem, ↓cw_block, dsB_of, r1, r2, r3, r14, r15, r16, rd]
        exact fin ⟨l.length - (i + 1), by omega, i + 1, ks, _, _, _, c6, v6', p6, o6, rfl, by omega, hrun', by omega, htl, fr6, bw6, sm6, decl_small hsm', by omega, by (simp (disch := omega) only [go_sem, ↓cw_block, dsB_of, r1, r2, r3, r14, r15, r16, rd, hxi]) <;> simp⟩
end
end Go.Proofs.YtpkfgoemhcgpdaaGreatDoor

namespace Go.Proofs.YtpkfgoemhcgpdaaGreatDoor
open Go.HL
set_option maxRecDepth 10000
set_option linter.unusedSimpArgs false
set_option linter.unusedVariables false

theorem right_facts {l : List Nd} (h : prRightM l = true) : 0 < l.length ∧ l.length ≤ 800 ∧ WOk l ∧ treeM l 20 0 = (l.length, true) := by
  unfold prRightM at h
  simp only [Bool.and_eq_true, decide_eq_true_eq] at h
  obtain ⟨h1, h2, h3, h4, h5⟩ := h
  have ht : treeM l 20 0 = (l.length, true) := by rw [← h4, ← h5]
  obtain ⟨_, hn⟩ := (tree_iff 20 0 l.length h1).1 ht
  refine ⟨h1, h2, ?_, ht⟩
  intro i n hi
  have hil := (List.getElem?_eq_some_iff.1 hi).1
  have hx := hn i (by omega) hil
  have e : l.getD i nd0' = n := by rw [List.getD_eq_getElem?_getD, hi]; rfl
  rw [e] at hx
  unfold nodeP wordsM at hx
  simp only [Bool.and_eq_true, decide_eq_true_eq] at hx
  exact hx.1.2
def stopC (l : List Nd) (i : Nat) (g : Sg) : Bool := wrongM g (nodeAt l i)
def scopeM (l : List Nd) : Flt := if prRightM l then fltOf l ((runL (stopC l) l 0 (nodeAt l 0).kids sg0).map Prod.fst) else ⟨2, 0⟩
section
variable {H : Heap} {S : Nat → Prop} {tv : Value} {l : List Nd}
theorem scCheck1_spec {M sb b1 b3 : Nat} {c v p o : Value} {g : Sg} {i : Nat} (h : NL H S tv l) (hW : WOk l) (hi : i < l.length) (x : SM H M sb c v p o g) (hs : g.small 1000000) (hb1 : Blk H b1 39 [tv]) (hb3 : Blk H b3 25 [iv 0, iv 0]) :
    CallF Tryz.prog 44 [iv i, hp sb, hp b1, hp b3] H (fun r H' => r = .bool (!stopC l i g) ∧ (stopC l i g = false → Fr [] H H') ∧ (stopC l i g = true → Fr [b3] H H' ∧ Blk H' b3 25 [iv 20, iv (nodeAt l i).pos])) NoP := by
  have hgi := getD_some (d := nd0') hi
  obtain ⟨b, o', cap, a, q1, q2, ar, ld, -⟩ := h.row hgi
  subst q1
  have hwn := hW i _ hgi
  rw [← q2] at ld hwn
  have kb := hb1.cell 0
  simp only [List.getElem?_cons_zero] at kb
  unfold stopC
  have hna : nodeAt l i = a.n := by rw [q2]; rfl
  refine callF_of Tryz.func44 rfl Tryz.ntmps44 Tryz.results44 (by decide) rfl ?_
  simp (disch := omega) only [go_sem, ↓cw_block, dsB_of, kb, ld]
  refine call_to (sgWrong_spec x hs ar hwn) ?_
  intro v5 H5 hv
  refine Hush.out ?_
  obtain ⟨f5, rfl⟩ := hv
  rw [hna]
  cases hq : wrongM g a.n
  · refine ⟨?_⟩
    simp (disch := omega) only [go_sem, ↓cw_block, dsB_of]
    exact fin ⟨rfl, fun _ => f5, by simp⟩
  obtain ⟨b', o'', cap', a', p1, p2, -, -, -, -, -, -, k4⟩ := (h.grow f5).row hgi
  simp only [Value.slice.injEq, Option.some.injEq, Addr.mk.injEq, and_true, true_and] at p1
  obtain ⟨⟨rfl, rfl⟩, rfl⟩ := p1
  rw [← q2] at k4
  have kb5 := (f5.blk hb1 (by simp)).cell 0
  simp only [List.getElem?_cons_zero] at kb5
  obtain ⟨X', e1, e2, e3⟩ := store_blk (P := Tryz.prog) (ty := 25) (new := [iv 20, iv a.n.pos]) (f5.blk hb3 (by simp)) rfl T.size25 (one_all rfl)
  refine ⟨?_⟩
  simp (disch := omega) only [go_sem, ↓cw_block, dsB_of, kb5, k4, e1]
  exact fin ⟨rfl, by simp, fun _ => ⟨f5.nil.trans e3, e2⟩⟩
set_option maxHeartbeats 1000000 in
theorem scCheck_spec (h : NL H S tv l) (hz : Sz l) : CallF Tryz.prog 27 [tv] H (fun r H' => Fr [] H H' ∧ r = fltV (scopeM l)) NoP := by
  obtain ⟨av, cv, rfl⟩ := h.len
  obtain ⟨A0, hA0⟩ : ∃ A, A = H.push (.cells #[.slice av l.length cv] 39) := ⟨_, rfl⟩
  obtain ⟨A1, hA1⟩ : ∃ A, A = A0.push (.cells #[iv 0, iv 0] 25) := ⟨_, rfl⟩
  have z0 : A0.size = H.size + 1 := by rw [hA0]; simp
  have z1 : A1.size = A0.size + 1 := by rw [hA1]; simp
  have g0 : Fr [] H A0 := by rw [hA0]; exact Fr.push
  have g1 : Fr [] A0 A1 := by rw [hA1]; exact Fr.push
  have b1 : Blk A1 H.size 39 [.slice av l.length cv] := g1.blk (by rw [hA0]; exact Blk.new rfl) (by simp)
  have b2 : Blk A1 A0.size 25 [iv 0, iv 0] := by rw [hA1]; exact Blk.new rfl
  have k1 := b1.cell 0
  simp only [List.getElem?_cons_zero] at k1
  unfold scopeM
  refine callF_of Tryz.func27 rfl Tryz.ntmps27 Tryz.results27 (by decide) rfl ?_
  simp (disch := omega) only [go_sem, ↓cw_block, dsB_of]
  rw [← hA0, ← hA1]
  simp (disch := omega) only [go_sem, ↓cw_block, dsB_of, k1]
  refine call_to (pgRight_spec (h.grow (g0.trans g1)) hz) ?_
  intro v5 H5 hv
  refine Hush.out ?_
  obtain ⟨f5, rfl⟩ := hv
  cases hr : prRightM l
  · obtain ⟨X', e1, e2, e3, _⟩ := flt_res (X := H5) (H := A0) (by rw [← hA1]; exact f5) 2 0
    refine ⟨?_⟩
    simp (disch := omega) only [go_sem, ↓cw_block, dsB_of, e1, e2]
    exact fin ⟨g0.trans e3, rfl⟩
  obtain ⟨hl0, hl8, hW, -⟩ := right_facts hr
  obtain ⟨A2, hA2⟩ : ∃ A, A = H5.push (.cells #[iv 0, iv 0] 25) := ⟨_, rfl⟩
  have g2 : Fr [] H5 A2 := by rw [hA2]; exact Fr.push
  have z2 : A2.size = H5.size + 1 := by rw [hA2]; simp
  have b3 : Blk A2 H5.size 25 [iv 0, iv 0] := by rw [hA2]; exact Blk.new rfl
  have k2 := (g2.blk (f5.blk b1 (by simp)) (by simp)).cell 0
  simp only [List.getElem?_cons_zero] at k2
  obtain ⟨A2p, hA2p⟩ : ∃ A, A = A2.push (.cells #[.slice none 0 0, .nilFunc] 109) := ⟨_, rfl⟩
  have g2p : Fr [] A2 A2p := by rw [hA2p]; exact Fr.push
  have b4z : Blk A2p A2.size 109 [.slice none 0 0, .nilFunc] := by rw [hA2p]; exact Blk.new rfl
  obtain ⟨A3, e4, b4, f4⟩ := store_blk (P := Tryz.prog) (ty := 109) (new := [.slice av l.length cv, .func (.func 44) #[] #[hp H.size, hp H5.size]]) b4z rfl T.size109 (one_all rfl)
  have g3 : Fr [] A2 A3 := Fr.more g2p f4 (by simp)
  have ld4 := b4.cells0
  simp only [List.length_cons, List.length_nil] at ld4
  have fall : Fr [] A1 A3 := (f5.trans g2).trans g3
  have hz5 := f5.size
  have nl3 := h.grow ((g0.trans g1).trans fall)
  have b1' := fall.blk b1 (by simp)
  have b3' := g3.blk b3 (by simp)
  have hrun := scRun_spec (caps := [hp H.size, hp H5.size]) (gf := 44) (stop := stopC l) (Post := fun i g H' => Fr [H5.size] A3 H' ∧ Blk H' H5.size 25 [iv 20, iv (nodeAt l i).pos]) nl3 hW (by omega) hl0
    (by
      intro i g H' M sb c v p o hi hfr sm _ hs
      refine (scCheck1_spec (nl3.grow hfr) hW hi sm hs (hfr.blk b1' (by simp)) (hfr.blk b3' (by simp))).mono ?_ (fun _ _ x => x)
      rintro r H'' ⟨e1, e2, e3⟩
      refine ⟨e1, e2, fun hq => ⟨?_, (e3 hq).2⟩⟩
      exact hfr.nil.trans (e3 hq).1)
  refine ⟨?_⟩
  simp (disch := omega) only [go_sem, ↓cw_block, dsB_of]
  rw [← hA2]
  simp (disch := omega) only [go_sem, ↓cw_block, dsB_of, k2]
  rw [← hA2p]
  simp (disch := omega) only [go_sem, ↓cw_block, dsB_of, e4, ld4]
  refine call_to hrun ?_
  intro v6 H6 hv
  refine Hush.out ?_
  generalize runL (stopC l) l 0 (nodeAt l 0).kids sg0 = R at *
  obtain ⟨fl, hfl, hb6, hf6⟩ : ∃ fl : Flt, fl = fltOf l (R.map Prod.fst) ∧ Blk H6 H5.size 25 [iv fl.err, iv fl.pos] ∧ Fr [H5.size] A3 H6 := by
    cases R with
    | none => exact ⟨⟨0, 0⟩, rfl, Fr.blk hv b3' (by simp), Fr.nil hv⟩
    | some x => exact ⟨⟨20, (nodeAt l x.1).pos⟩, rfl, hv.2, hv.1⟩
  have ld6 := hb6.cells0
  simp only [List.length_cons, List.length_nil] at ld6
  have hfA : Fr [] A1 H6 := Fr.more fall hf6 (by simp; omega)
  obtain ⟨X', e1, e2, e3, _⟩ := flt_res (X := H6) (H := A0) (by rw [← hA1]; exact hfA) fl.err fl.pos
  refine ⟨?_⟩
  simp (disch := omega) only [go_sem, ↓cw_block, dsB_of, ld6, e1, e2]
  refine fin ⟨g0.trans e3, ?_⟩
  simp only [if_true]
  rw [← hfl]
  rfl
end
end Go.Proofs.YtpkfgoemhcgpdaaGreatDoor

namespace Go.Proofs.YtpkfgoemhcgpdaaGreatDoor
open Go.HL
set_option maxRecDepth 10000
set_option linter.unusedSimpArgs false
set_option linter.unusedVariables false

/-- In a walked list every node but the first stands below one ahead of it. -/
theorem walkK_par {l : List Nd} {ih : Nat → Nat × Bool} (h : ∀ i e, i < l.length → ih i = (e, true) → i < e ∧ e ≤ l.length ∧ ∀ j, i < j → j < e → ∃ p, i ≤ p ∧ p < j ∧ (j : Int) ∈ (nodeAt l p).kids) :
    ∀ (ks : List Int) (i e : Nat), i ≤ l.length → walkK l ih ks i = (e, true) → ∀ j, i ≤ j → j < e → (j : Int) ∈ ks ∨ ∃ p, i ≤ p ∧ p < j ∧ (j : Int) ∈ (nodeAt l p).kids
  | [], i, e, hi, hw => by
    simp [walkK] at hw
    intro j h1 h2; omega
  | k :: ks, i, e, hi, hw => by
    intro j h1 h2
    unfold walkK at hw
    split at hw
    · rename_i hc
      split at hw
      · rename_i hok
        obtain ⟨a1, a2, a3⟩ := h i (ih i).1 hc.2 (by rw [← hok])
        by_cases hj : j = i
        · subst hj; exact .inl (by rw [hc.1]; simp)
        · by_cases hj2 : j < (ih i).1
          · obtain ⟨p, p1, p2, p3⟩ := a3 j (by omega) hj2
            exact .inr ⟨p, p1, p2, p3⟩
          · rcases walkK_par h ks (ih i).1 e a2 hw j (by omega) h2 with h' | ⟨p, p1, p2, p3⟩
            · exact .inl (by simp [h'])
            · exact .inr ⟨p, by omega, p2, p3⟩
      · simp at hw
    · simp at hw
theorem walkM_par {l : List Nd} : ∀ (d i e : Nat), i < l.length → walkM l d i = (e, true) → ∀ j, i < j → j < e → ∃ p, i ≤ p ∧ p < j ∧ (j : Int) ∈ (nodeAt l p).kids
  | 0, i, e, hi, hw => by simp [walkM] at hw
  | d + 1, i, e, hi, hw => by
    intro j h1 h2
    unfold walkM at hw
    rcases walkK_par (l := l) (ih := walkM l d) (fun i' e' hi' hw' => by
      have := walkM_ok d i' e' hi' hw'
      exact ⟨this.1, this.2.1, walkM_par d i' e' hi' hw'⟩) (l.getD i nd0').kids (i + 1) e (by omega) hw j (by omega) h2 with h' | ⟨p, p1, p2, p3⟩
    · exact ⟨i, by omega, h1, h'⟩
    · exact ⟨p, by omega, p2, p3⟩
/-- The kids of a node that was walked over rise. -/
theorem walkK_inc {l : List Nd} {ih : Nat → Nat × Bool} (h : ∀ i e, i < l.length → ih i = (e, true) → i < e ∧ e ≤ l.length) : ∀ (ks : List Int) (i e : Nat), i ≤ l.length → walkK l ih ks i = (e, true) → ks.Pairwise (· < ·) ∧ ∀ k ∈ ks, (i : Int) ≤ k
  | [], i, e, hi, hw => ⟨.nil, by simp⟩
  | k :: ks, i, e, hi, hw => by
    unfold walkK at hw
    split at hw
    · rename_i hc
      split at hw
      · rename_i hok
        have h1 := h i (ih i).1 hc.2 (by rw [← hok])
        obtain ⟨a, b⟩ := walkK_inc h ks (ih i).1 e h1.2 hw
        refine ⟨List.pairwise_cons.2 ⟨fun k' hk' => by have := b k' hk'; omega, a⟩, fun k' hk' => ?_⟩
        rw [List.mem_cons] at hk'
        rcases hk' with rfl | hk'
        · omega
        · have := b k' hk'; omega
      · simp at hw
    · simp at hw
/-- What is known of a tree. -/
structure Tre (l : List Nd) : Prop where
  pos : 0 < l.length
  kind0 : (nodeAt l 0).kind = 0
  inc : (nodeAt l 0).kids.Pairwise (· < ·)
  kpos : ∀ k ∈ (nodeAt l 0).kids, 1 ≤ k ∧ k < l.length
  par : ∀ j, 0 < j → j < l.length → ∃ p, p < j ∧ (j : Int) ∈ (nodeAt l p).kids
  node : ∀ j, j < l.length → nodeP l (nodeAt l j) = true
theorem tre_of {l : List Nd} (h : prRightM l = true) : Tre l := by
  have h' := h
  unfold prRightM at h'
  simp only [Bool.and_eq_true, decide_eq_true_eq] at h'
  obtain ⟨h1, h2, h3, h4, h5⟩ := h'
  have ht : treeM l 20 0 = (l.length, true) := by rw [← h4, ← h5]
  obtain ⟨hw, hn⟩ := (tree_iff 20 0 l.length h1).1 ht
  have hw' := hw
  unfold walkM at hw'
  have inc := walkK_inc (l := l) (ih := walkM l 19) (fun i e h1 h2 => by have := walkM_ok 19 i e h1 h2; exact ⟨this.1, this.2.1⟩) _ 1 l.length (by omega) hw'
  obtain ⟨_, _, ok⟩ := walkM_ok 20 0 l.length h1 hw
  exact ⟨h1, h3, inc.1, fun k hk => ⟨inc.2 k hk, (ok 0 (by omega) h1 k hk).2⟩, fun j a b => by
    obtain ⟨p, _, p2, p3⟩ := walkM_par 20 0 l.length h1 hw j a b
    exact ⟨p, p2, p3⟩, fun j hj => hn j (by omega) hj⟩
theorem mem_tw {α : Type} {p : α → Bool} {x : α} : ∀ {l : List α}, x ∈ l.takeWhile p → p x = true
  | [], h => by simp at h
  | a :: l, h => by
    by_cases ha : p a = true
    · rw [List.takeWhile_cons_of_pos ha, List.mem_cons] at h
      rcases h with rfl | h
      · exact ha
      · exact mem_tw h
    · rw [List.takeWhile_cons_of_neg ha] at h; simp at h
/-- Which kinds may stand below which. -/
theorem kid_kind {l : List Nd} (h : Tre l) {p : Nat} {k : Int} (hp : p < l.length) (hk : k ∈ (nodeAt l p).kids) :
    (inB (knd l k) 1 5 = true → (nodeAt l p).kind = 0 ∨ ((nodeAt l p).kind = 3 ∧ knd l k = 2)) ∧ knd l k ≠ 0 := by
  have hn := h.node p hp
  generalize hpn : nodeAt l p = n at *
  unfold nodeP at hn
  simp only [Bool.and_eq_true] at hn
  have hks := hn.2.2
  obtain ⟨i, hi⟩ := List.getElem?_of_mem hk
  have hil := (List.getElem?_eq_some_iff.1 hi).1
  have hget : (n.kids.map (knd l)).getD i 0 = knd l k := by simp [List.getD_eq_getElem?_getD, hi]
  have hlen : (n.kids.map (knd l)).length = n.kids.length := List.length_map ..
  have hmem : knd l k ∈ n.kids.map (knd l) := List.mem_map.2 ⟨k, hk, rfl⟩
  generalize n.kids.map (knd l) = ks at *
  generalize knd l k = x at *
  have all : ∀ {s : Int}, pAllM ks s = true → sortM x = s := by
    intro s hs
    unfold pAllM at hs
    rw [allR_iff] at hs
    have := hs i (by omega)
    rw [hget] at this
    simpa using this
  have are : ∀ {ss : List Int}, areM ks ss = true → ∃ s ∈ ss, sortM x = s := by
    intro ss hs
    unfold areM at hs
    rw [Bool.and_eq_true, allR_iff, decide_eq_true_eq] at hs
    have h1 := hs.2 i (by omega)
    rw [hget] at h1
    simp only [decide_eq_true_eq] at h1
    exact ⟨ss.getD i 0, List.mem_of_getElem? (getD_some (by omega)), h1⟩
  have s1 := sort1 x
  have s2 := sort2 x
  have s3 := sort3 x
  have s4 := sort4 x
  have e0 : sortM 0 = 0 := rfl
  have concl : ∀ s : Int, sortM x = s → s ≠ 1 → s ≠ 0 → (inB x 1 5 = true → n.kind = 0 ∨ (n.kind = 3 ∧ x = 2)) ∧ x ≠ 0 := by
    intro s hs h1 h0
    refine ⟨fun hb => ?_, fun e => by rw [e, e0] at hs; exact h0 hs.symm⟩
    rw [← s1, decide_eq_true_eq] at hb
    exact absurd (hs.symm.trans hb) h1
  unfold kidsM at hks
  split at hks
  · rename_i hk0
    have := all hks
    exact ⟨fun _ => .inl hk0, fun e => by rw [e, e0] at this; omega⟩
  · split at hks
    · rename_i hk3
      by_cases h2 : x = 2
      · exact ⟨fun _ => .inr ⟨hk3, h2⟩, by omega⟩
      · have hin : x ∈ ks.dropWhile fun x => decide (x = 2) := by
          have hsplit : ks = (ks.takeWhile fun x => decide (x = 2)) ++ (ks.dropWhile fun x => decide (x = 2)) := (List.takeWhile_append_dropWhile).symm
          rw [hsplit, List.mem_append] at hmem
          rcases hmem with hm | hm
          · have := mem_tw hm
            simp at this
            exact absurd this h2
          · exact hm
        obtain ⟨i', hi'⟩ := List.getElem?_of_mem hin
        have hil' := (List.getElem?_eq_some_iff.1 hi').1
        unfold pAllM at hks
        rw [allR_iff] at hks
        have := hks i' hil'
        rw [List.getD_eq_getElem?_getD, hi'] at this
        simp at this
        exact concl 2 this (by omega) (by omega)
    · split at hks
      · exact concl 2 (all hks) (by omega) (by omega)
      · split at hks
        · rw [Bool.and_eq_true] at hks
          exact concl 4 (all hks.2) (by omega) (by omega)
        · split at hks
          · rw [Bool.or_eq_true] at hks
            rcases hks with hks | hks
            · obtain ⟨s, hs, e⟩ := are hks
              simp at hs
              exact concl s e (by omega) (by omega)
            · obtain ⟨s, hs, e⟩ := are hks
              simp at hs
              exact concl s e (by omega) (by omega)
          · split at hks
            · obtain ⟨s, hs, e⟩ := are hks
              simp at hs
              exact concl s e (by omega) (by omega)
            · split at hks
              · obtain ⟨s, hs, e⟩ := are hks
                simp at hs
                exact concl s e (by omega) (by omega)
              · split at hks
                · obtain ⟨s, hs, e⟩ := are hks
                  simp at hs
                  exact concl s e (by omega) (by omega)
                · split at hks
                  · obtain ⟨s, hs, e⟩ := are hks
                    simp at hs
                    exact concl s e (by omega) (by omega)
                  · split at hks
                    · rw [decide_eq_true_eq, List.length_eq_zero_iff] at hks; rw [hks] at hmem; simp at hmem
                    · simp at hks
end Go.Proofs.YtpkfgoemhcgpdaaGreatDoor

