/- The solver: its clauses, and a proof of no line. -/
import Derived.Test.YthghkhpclemmlaaGreatL19
import Derived.Test.YthghkhpclemmlaaGreatL05
namespace Go.Proofs.YthghkhpclemmlaaGreat
open Go.HL HM Go.Sat
set_option maxRecDepth 10000
set_option linter.unusedSimpArgs false
set_option linter.unusedVariables false

section
variable {H : Heap} {ow : Nat → Nat} {p n : Nat} {k : Bk} {f : Cf}
theorem vec_rn {e : Nat} {v : Value} {xs : List Int} (h : Vec H e 1 v (xs.map iv)) : ∃ a c, v = .slice a xs.length c ∧ xs.length ≤ c ∧ Rn H a xs := by
  rcases h.ex with ⟨rfl, e2⟩ | ⟨b, len, cap, pre, rest, rfl, hb, h2, h3, h4⟩
  · rw [List.map_eq_nil_iff] at e2
    subst e2
    exact ⟨none, 0, rfl, by simp, fun i x hx => by simp at hx⟩
  · have : len = xs.length := by simpa using h2.symm
    subst this
    exact ⟨_, cap, rfl, h4, fun i x hx => ⟨b, pre.length, rfl, blk_int hb hx⟩⟩
set_option maxHeartbeats 1000000 in
theorem sClausesW_spec (h : RM H ow p n k f) (hl : f.gl.length ≤ 100000) (hr : ∀ g ∈ f.gl, g.length ≤ 1000000) : CallF Tryz.prog 9 [hp p] H (fun v H' => Fr [] H H' ∧ ∃ rvs, WR H.size H' v rvs f.gl) NoP := by
  have hng := h.ng
  obtain ⟨a, c, ef⟩ := h.given.form
  have c1 : cellH H ⟨p, 1, none⟩ = some (.slice a f.gs.length c) := by rw [← ef]; exact h.c 1
  obtain ⟨G, hG⟩ : ∃ G, H.push (.cells (List.replicate f.gs.length (.slice none 0 0)).toArray 30) = G := ⟨_, rfl⟩
  have f0 : Fr [] H G := by rw [← hG]; exact Fr.push
  have vG : Vec G 30 1 (.slice (some ⟨H.size, 0, none⟩) 0 f.gs.length) [] := ⟨.inr ⟨H.size, 0, f.gs.length, [], List.replicate f.gs.length (.slice none 0 0), rfl, by rw [← hG]; exact Blk.new rfl, rfl, by simp, by omega⟩⟩
  have c1G : cellH G ⟨p, 1, none⟩ = some (.slice a f.gs.length c) := by rw [← ef]; exact (h.out f0 (by simp)).c 1
  refine callF_of Tryz.func9 rfl Tryz.ntmps9 Tryz.results9 (by decide) rfl ?_
  simp (disch := omega) only [go_sem, ↓cw_block, dsB_of, c1]
  rw [hG]
  simp (disch := omega) only [go_sem, ↓cw_block, dsB_of, c1G]
  refine loop_by (fun j ρ H1 => ∃ (i : Nat) (wv : Value) (l : List Value), j = f.gs.length - i ∧ i ≤ f.gs.length ∧ (ρ.get 3 = wv ∧ ρ.get 15 = .slice a f.gs.length c ∧ ρ.get 16 = iv f.gs.length ∧ ρ.get 17 = iv i ∧ ρ.ds = []) ∧ Fr [] H H1 ∧ WR H.size H1 wv l (f.gl.take i)) (k := f.gs.length) ?_ ?_
  · exact ⟨0, _, [], rfl, by omega, by simp (disch := omega) only [go_sem, ↓cw_block, dsB_of], f0, WR.nil vG (by simp [own])⟩
  · rintro _ ρ H1 ⟨i, wv, l, rfl, hi, ⟨r3, r15, r16, r17, rd⟩, f1, w1⟩
    by_cases hie : i = f.gs.length
    · subst hie
      rw [hng, List.take_length] at w1
      obtain ⟨wa, wc, ew, -⟩ := w1.rc
      simp (disch := omega) only [go_sem, ↓cw_block, dsB_of, r3, r15, r16, r17, rd, dsB_of]
      exact fin ⟨f1, l, w1⟩
    · obtain ⟨v, hv⟩ : ∃ v, f.gs[i]? = some v := ⟨_, List.getElem?_eq_getElem (by omega)⟩
      obtain ⟨z, hz⟩ : ∃ z, f.gl[i]? = some z := ⟨_, List.getElem?_eq_getElem (by omega)⟩
      have m1 := h.out f1 (by simp)
      obtain ⟨b, o, cap, e, kv⟩ := vec_cell m1.given.vec hv
      rw [ef] at e
      simp only [Value.slice.injEq] at e
      obtain ⟨rfl, -, rfl⟩ := e
      have hzv := (m1.gcl i v z hv hz).vec
      obtain ⟨va, vl, vc, ev, -⟩ := hzv.len
      have hi1 : (i : Int) + 1 = ((i + 1 : Nat) : Int) := by omega
      have htk : f.gl.take (i + 1) = f.gl.take i ++ [z] := by rw [List.take_add_one, hz]; rfl
      rw [ev] at kv
      simp (disch := omega) only [go_sem, ↓cw_block, dsB_of, r3, r15, r16, r17, rd, kv]
      rw [← ev]
      refine call_to (cloneI_spec hzv (fun u hu => by obtain ⟨b, -, rfl⟩ := List.mem_map.1 hu; rfl) (by rw [List.length_map]; exact hr z (List.mem_of_getElem? hz))) ?_
      rintro r H2 ⟨f2, v2, o2⟩
      obtain ⟨ra, rc, er, hrc, hrn⟩ := vec_rn v2
      have w2 := w1.frame f2
      have hnb : z ≠ [] → ∀ b o, ra = some ⟨b, o, none⟩ → b ∉ own wv := fun _ b o e hb => by
        subst e
        have h1 := o2 b (by rw [er]; simp [own])
        have := w1.vec.lt b hb
        omega
      subst er
      simp (disch := omega) only [go_sem, ↓cw_block, dsB_of, r3, b22z]
      refine app_lit1 T.el33 rfl w2.vec rfl (by rw [w2.len, List.length_take]; omega) ?_
      intro v' H4 g1 g2 g3 g4
      simp (disch := omega) only [go_sem, ↓cw_block, dsB_of, r3, r15, r16, r17, rd]
      have f12 := f1.trans f2
      refine fin ⟨f.gs.length - (i + 1), by omega, i + 1, v', _, rfl, by omega, by simp (disch := omega) only [go_sem, ↓cw_block, dsB_of, r3, r15, r16, r17, rd, hi1], ⟨Nat.le_trans f12.size g2.size, fun q hq _ => ?_⟩, by rw [htk]; exact w2.add f12.size g1 g2 g3 rfl hrc hrn hnb⟩
      rw [g2.same q (by have := f12.size; omega) (fun e => by have := w1.own q e; omega), f12.same q hq (by simp)]
theorem sProof0_spec (h : RM H ow p n k f) (hls : f.ls = []) : CallF Tryz.prog 13 [hp p] H (fun v H' => Fr [] H H' ∧ ∃ a c, v = .slice a 0 c) NoP := by
  have hv := h.lines.vec
  rw [hls] at hv
  obtain ⟨la, ll, lc, el, hll⟩ := hv.len
  have hl0 : ll = 0 := by simp at hll; omega
  subst hl0
  have c3 : cellH H ⟨p, 3, none⟩ = some (.slice la 0 lc) := by rw [← el]; exact h.c 3
  obtain ⟨G, hG⟩ : ∃ G, H.push (.cells #[] 42) = G := ⟨_, rfl⟩
  have f0 : Fr [] H G := by rw [← hG]; exact Fr.push
  have c3G : cellH G ⟨p, 3, none⟩ = some (.slice la 0 lc) := by rw [← el]; exact (h.out f0 (by simp)).c 3
  have hmk : mkCells #[.bool false, .slice none 0 0] 0 = #[] := by apply Array.ext'; simp [mkCells]
  refine callF_of Tryz.func13 rfl Tryz.ntmps13 Tryz.results13 (by decide) rfl ?_
  simp (disch := omega) only [go_sem, ↓cw_block, dsB_of, c3]
  rw [hmk, hG]
  simp (disch := omega) only [go_sem, ↓cw_block, dsB_of, c3G]
  refine loop_by (fun j ρ H1 => (ρ.get 3 = .slice (some ⟨H.size, 0, none⟩) 0 0 ∧ ρ.get 15 = .slice la 0 lc ∧ ρ.get 16 = iv 0 ∧ ρ.get 17 = iv 0 ∧ ρ.ds = []) ∧ Fr [] H H1) (k := 1) ?_ ?_
  · exact ⟨by simp (disch := omega) only [go_sem, ↓cw_block, dsB_of]; try rfl, f0⟩
  · rintro _ ρ H1 ⟨⟨r3, r15, r16, r17, rd⟩, f1⟩
    simp (disch := omega) only [go_sem, ↓cw_block, dsB_of, r3, r15, r16, r17, rd, dsB_of]
    exact fin ⟨f1, _, _, rfl⟩
end
end Go.Proofs.YthghkhpclemmlaaGreat

namespace Go.Proofs.YthghkhpclemmlaaGreat
open Go.HL HM Go.Sat
set_option maxRecDepth 10000
set_option linter.unusedSimpArgs false
set_option linter.unusedVariables false

theorem neg_ltN {ys : List Int} (h : ys.Pairwise ltN) (hi : ¬ ∃ x ∈ ys, -x ∈ ys) : (ys.map (- ·)).Pairwise ltN := by
  refine List.Pairwise.map _ (fun a b hab => ?_) (List.Pairwise.and_mem.1 h)
  obtain ⟨ha, hb, hlt⟩ := hab
  unfold ltN at hlt ⊢
  rcases hlt with h1 | ⟨h1, h2⟩
  · exact .inl (by omega)
  · have : b = -a := by omega
    subst this
    exact absurd ⟨a, ha, hb⟩ hi
theorem ltN_nodup {ys : List Int} (h : ys.Pairwise ltN) : ys.Nodup := h.imp fun hab e => by subst e; unfold ltN at hab; omega
section
variable {H : Heap} {ow : Nat → Nat} {p n : Nat} {k : Bk} {f : Cf}
set_option maxHeartbeats 4000000 in
theorem lProved_spec (h : RM H ow p n k f) (hn : n ≤ 500) (hgl : f.gl.length ≤ 10000) (hcs : ∀ r ∈ f.gl, r.length ≤ 1000 ∧ ∀ x ∈ r, litB x = true ∧ x.natAbs ≤ n) {ca : Option Addr} {ys : List Int} {cc : Nat} (hy : Rn H ca ys) (hs : ys.Pairwise ltN) (hyz : ∀ x ∈ ys, litB x = true ∧ x.natAbs ≤ n)
    (hls : (∃ x ∈ ys, -x ∈ ys) ∧ f.ls = [] ∨ (¬ ∃ x ∈ ys, -x ∈ ys) ∧ ∃ w, f.ls = [.bool false, w] ∧ Vec H 3 1 w ((ys.map (- ·)).map iv)) (hno : ∀ so', (∀ z ∈ ys, z ∈ so') → ¬ Shut f.gl so') :
    CallF Tryz.prog 11 [hp p, .slice ca ys.length cc] H (fun v H' => Fr [] H H' ∧ v = .bool true) NoP := by
  have hyl : ys.length ≤ 1000 := by
    have := ltN_len (n := n) (z := ys) ⟨fun x hx => ⟨litB_ne (hyz x hx).1, (hyz x hx).2⟩, hs⟩
    omega
  have hlb : ∀ x ∈ ys, litB x = true := fun x hx => (hyz x hx).1
  have hgn : (ys.map (- ·)).Nodup := List.Pairwise.map _ (fun a b hab e => hab (by omega)) (ltN_nodup hs)
  have hgz : ∀ x ∈ ys.map (- ·), litB x = true ∧ x.natAbs ≤ n := fun x hx => by
    obtain ⟨y, hy, rfl⟩ := List.mem_map.1 hx
    have := hyz y hy
    have h2 := litB_le this.1
    have h3 := litB_ne this.1
    refine ⟨?_, by omega⟩
    unfold litB
    simp only [decide_eq_true_eq]
    omega
  have hgno : ∀ so', (∀ z ∈ ys.map (- ·), -z ∈ so') → ¬ Shut f.gl so' := fun so' hz => hno so' fun z hzm => by
    have := hz (-z) (List.mem_map.2 ⟨z, hzm, rfl⟩)
    rwa [Int.neg_neg] at this
  have hproof : CallF Tryz.prog 13 [hp p] H (fun v H' => Fr [] H H' ∧ ∃ pa pl pc, v = .slice pa pl pc ∧ (pl = 0 ∧ (∃ x ∈ ys, -x ∈ ys) ∨ pl = 1 ∧ (¬ ∃ x ∈ ys, -x ∈ ys) ∧ L1 H' pa (ys.map (- ·)))) NoP := by
    rcases hls with ⟨hi, hl⟩ | ⟨hi, w, hl, hw⟩
    · exact (sProof0_spec h hl).to fun v H' ⟨f1, a, c, e⟩ => ⟨f1, a, 0, c, e, .inl ⟨rfl, hi⟩⟩
    · refine (sProof1_spec h hl hw (by simp; omega)).to ?_
      rintro v H' ⟨f1, b, o, c, w', e, k0, k1, v1⟩
      obtain ⟨za, zc, ez, hzc, hzr⟩ := vec_rn v1
      exact ⟨f1, _, 1, c, e, .inr ⟨rfl, hi, ⟨b, o, za, zc, rfl, k0, by rw [k1, ez], hzc, hzr⟩⟩⟩
  refine callF_of Tryz.func11 rfl Tryz.ntmps11 Tryz.results11 (by decide) rfl ?_
  simp (disch := omega) only [go_sem, ↓cw_block, dsB_of]
  refine call_to hproof ?_
  rintro v H1 ⟨f1, pa, pl, pc, rfl, hpl⟩
  simp (disch := omega) only [go_sem, ↓cw_block, dsB_of]
  refine call_to (lNeg_spec (hy.frame f1 (by simp)) hlb (by omega)) ?_
  rintro v H2 ⟨f2, v2, o2⟩
  obtain ⟨ga, gc, e, hgc, hgr⟩ := vec_rn v2
  subst e
  simp (disch := omega) only [go_sem, ↓cw_block, dsB_of]
  refine call_to (sClausesW_spec (h.out (f1.trans f2) (by simp)) (by omega) (fun g hg => by have := (hcs g hg).1; omega)) ?_
  rintro v H3 ⟨f3, rvs, w3⟩
  obtain ⟨va, vc, e, rc3⟩ := w3.rc
  subst e
  have f13 := f2.trans f3
  have hgl' : (ys.map (- ·)).length ≤ 1000 := by rw [List.length_map]; exact hyl
  simp (disch := omega) only [go_sem, ↓cw_block, dsB_of]
  refine call_to (rCheck_spec (N := H3.size) (n := n) (c := vc) (pl := pl) (pa := pa) (pc := pc) (gc := gc) (by omega) hgl hcs (Nat.le_refl _) rc3 (hgr.frame f3 (by simp)) hgl' hgz hgn ?_ hgno) ?_
  · rcases hpl with ⟨h1, -⟩ | ⟨h1, -, l1⟩
    · exact .inl h1
    · exact .inr ⟨h1, ys.map (- ·), l1.frame f13, hgn, hgl', fun x => Iff.rfl⟩
  rintro v H4 ⟨f4, rfl⟩
  have f14 := f13.trans f4
  have hgall : (ys.map (- ·)).all litB = true := List.all_eq_true.2 fun x hx => (hgz x hx).1
  simp (disch := omega) only [go_sem, ↓cw_block, dsB_of]
  refine call_to (rNorm_spec ((hgr.frame f3 (by simp)).frame f4 (by simp)) hgall (by omega)) ?_
  rintro v H5 ⟨f5, w5, zs, idle, rfl, v5, o5, s5, m5, i5⟩
  obtain ⟨za, zc, e, hzc, hzr⟩ := vec_rn v5
  subst e
  have hid : idle = true ↔ ∃ x ∈ ys, -x ∈ ys := by
    rw [i5]
    constructor
    · rintro ⟨x, h1, h2⟩
      rw [m5] at h1 h2
      obtain ⟨y, hy1, rfl⟩ := List.mem_map.1 h1
      obtain ⟨u, hu1, hu2⟩ := List.mem_map.1 h2
      exact ⟨y, hy1, by have : u = -y := by omega
                        rw [← this]; exact hu1⟩
    · rintro ⟨x, h1, h2⟩
      exact ⟨-x, (m5 _).2 (List.mem_map.2 ⟨x, h1, rfl⟩), (m5 _).2 (List.mem_map.2 ⟨-x, h2, rfl⟩)⟩
  have fall := (f1.trans f14).trans f5
  rcases hpl with ⟨rfl, hi⟩ | ⟨rfl, hi, l1⟩
  · have : idle = true := hid.2 hi
    subst this
    simp (disch := omega) only [go_sem, ↓cw_block, dsB_of, dsB_of]
    exact fin ⟨fall, rfl⟩
  · have : idle = false := by
      cases idle with
      | false => rfl
      | true => exact absurd (hid.1 rfl) hi
    subst this
    obtain ⟨pb, po, pza, pzc, rfl, k0, k1, pk, pr⟩ := (l1.frame (f14.trans f5)).ex
    have k0a : cellH H5 ⟨pb, po + 0, none⟩ = some (.bool false) := k0
    have k0b : cellH H5 ⟨pb, po + (((1 : Nat) : Int) - 1).toNat * 2, none⟩ = some (.bool false) := k0
    have k1b : cellH H5 ⟨pb, po + (((1 : Nat) : Int) - 1).toNat * 2 + 1, none⟩ = some (.slice pza (ys.map (- ·)).length pzc) := k1
    have hzs : zs = ys.map (- ·) := strict_eq s5 (neg_ltN hs hi) m5
    simp (disch := omega) only [go_sem, ↓cw_block, dsB_of, k0, k0a, k1, k0b, k1b]
    refine call_to (rInts_spec pr hzr (by omega) (by rw [hzs]; omega)) ?_
    rintro v H6 ⟨rfl, e⟩
    subst H6
    simp (disch := omega) only [go_sem, ↓cw_block, dsB_of, dsB_of]
    exact fin ⟨fall, by rw [hzs]; simp⟩
end
end Go.Proofs.YthghkhpclemmlaaGreat

namespace Go.Proofs.YthghkhpclemmlaaGreat
open Go.HL HM Go.Sat
set_option maxRecDepth 10000
set_option linter.unusedSimpArgs false
set_option linter.unusedVariables false

/-- Is a variable of a chain true, if the first one is so? -/
def chv (ts : List Bool) (b : Bool) : Nat → Bool
  | 0 => b
  | i + 1 => xor (chv ts b i) (ts.getD i false)
/-- A variable of a number as a literal. -/
def chN (i : Nat) (v : Bool) : Int := if v then (i : Int) + 1 else -((i : Int) + 1)
def chL (ts : List Bool) (b : Bool) (i : Nat) : Int := chN i (chv ts b i)
/-- The clauses of one turn. -/
def chC (t : Bool) (i : Nat) : List (List Int) := [[-((i : Int) + 1), chN (i + 1) (!t)], [(i : Int) + 1, chN (i + 1) t]]
def chS (ts : List Bool) (k : Nat) : List (List Int) := (List.range k).flatMap fun i => chC (ts.getD i false) i
theorem chN_neg {i : Nat} {v : Bool} : -chN i v = chN i (!v) := by unfold chN; cases v <;> simp
theorem chN_abs {i : Nat} {v : Bool} : (chN i v).natAbs = i + 1 := by unfold chN; cases v <;> simp <;> omega
theorem chN_ne {i : Nat} {v : Bool} : chN i v ≠ 0 := by unfold chN; cases v <;> simp <;> omega
theorem chv_not {ts : List Bool} {b : Bool} : ∀ i, chv ts (!b) i = !chv ts b i
  | 0 => rfl
  | i + 1 => by
    show xor (chv ts (!b) i) _ = !(xor (chv ts b i) _)
    rw [chv_not i]
    cases chv ts b i <;> cases ts.getD i false <;> rfl
theorem chL_not {ts : List Bool} {b : Bool} {i : Nat} : chL ts (!b) i = -chL ts b i := by
  unfold chL; rw [chv_not, chN_neg]
theorem chS_add {ts : List Bool} {k : Nat} : chS ts (k + 1) = chS ts k ++ chC (ts.getD k false) k := by
  unfold chS
  rw [List.range_succ, List.flatMap_append]
  simp
theorem chS_len {ts : List Bool} : ∀ k, (chS ts k).length = 2 * k
  | 0 => rfl
  | k + 1 => by rw [chS_add, List.length_append, chS_len k]; simp [chC]; omega
/-- What makes the next one so. -/
theorem ch_in {ts : List Bool} {b : Bool} {i k : Nat} (h : i < k) : [-chL ts b i, chL ts b (i + 1)] ∈ chS ts k := by
  refine List.mem_flatMap.2 ⟨i, List.mem_range.2 h, ?_⟩
  unfold chL chC
  show [-chN i (chv ts b i), chN (i + 1) (xor (chv ts b i) (ts.getD i false))] ∈ _
  cases chv ts b i with
  | true => rw [Bool.true_xor]; simp [chN]
  | false => rw [Bool.false_xor]; simp [chN]
theorem ch_mem {ts : List Bool} {k : Nat} {c : List Int} (h : c ∈ chS ts k) : ∃ i b, i < k ∧ c = [-chL ts b i, chL ts b (i + 1)] := by
  obtain ⟨i, hi, hc⟩ := List.mem_flatMap.1 h
  have hi := List.mem_range.1 hi
  have key : ∀ b0 : Bool, ∃ b, chv ts b i = b0 := fun b0 => by
    by_cases e : chv ts b0 i = b0
    · exact ⟨b0, e⟩
    · exact ⟨!b0, by rw [chv_not]; revert e; cases chv ts b0 i <;> cases b0 <;> simp⟩
  simp only [chC, List.mem_cons, List.not_mem_nil, or_false] at hc
  rcases hc with rfl | rfl
  · obtain ⟨b, hb⟩ := key true
    refine ⟨i, b, hi, ?_⟩
    unfold chL
    show _ = [-chN i (chv ts b i), chN (i + 1) (xor (chv ts b i) (ts.getD i false))]
    rw [hb, Bool.true_xor]; simp [chN]
  · obtain ⟨b, hb⟩ := key false
    refine ⟨i, b, hi, ?_⟩
    unfold chL
    show _ = [-chN i (chv ts b i), chN (i + 1) (xor (chv ts b i) (ts.getD i false))]
    rw [hb, Bool.false_xor]; simp [chN]
/-- The chain's model. -/
def chM (ts : List Bool) (b : Bool) (x : Nat) : Bool := if x % 2 = 0 then chv ts b (x / 2 - 1) else !chv ts b (x / 2 - 1)
theorem chM_mdl {ts : List Bool} {b : Bool} : Mdl (chM ts b) := ⟨fun x => by
  unfold chM
  rw [neg_var]
  have h1 : (neg x) % 2 = 1 - x % 2 := by unfold neg; split <;> omega
  rw [h1]
  have : x % 2 = 0 ∨ x % 2 = 1 := by omega
  rcases this with e | e <;> rw [e] <;> simp⟩
theorem codeN_chN {i : Nat} {v : Bool} : codeN (chN i v) = if v then 2 * (i + 1) else 2 * (i + 1) + 1 := by
  unfold codeN chN
  cases v with
  | true => simp only [↓reduceIte]; rw [if_neg (by omega)]; omega
  | false => simp only [Bool.false_eq_true, ↓reduceIte]; rw [if_pos (by omega)]; omega
theorem chM_lit {ts : List Bool} {b v : Bool} {i : Nat} : chM ts b (codeN (chN i v)) = (chv ts b i == v) := by
  rw [codeN_chN]
  unfold chM
  cases v with
  | true =>
    simp only [↓reduceIte]
    rw [if_pos (by omega), show 2 * (i + 1) / 2 - 1 = i by omega]
    cases chv ts b i <;> rfl
  | false =>
    simp only [Bool.false_eq_true, ↓reduceIte]
    rw [if_neg (by omega), show (2 * (i + 1) + 1) / 2 - 1 = i by omega]
    cases chv ts b i <;> rfl
theorem chM_own {ts : List Bool} {b : Bool} {i : Nat} : chM ts b (codeN (chL ts b i)) = true := by
  unfold chL; rw [chM_lit]; simp
theorem chM_other {ts : List Bool} {b : Bool} {i : Nat} : chM ts b (codeN (-chL ts b i)) = false := by
  unfold chL; rw [chN_neg, chM_lit]; cases chv ts b i <;> rfl
theorem chM_sats {ts : List Bool} {b : Bool} {k : Nat} : Sats (chM ts b) (chS ts k) := fun c hc => by
  obtain ⟨i, b', hi, rfl⟩ := ch_mem hc
  by_cases e : b' = b
  · subst e; exact ⟨chL ts b' (i + 1), by simp, chM_own⟩
  · have : b' = !b := by revert e; cases b <;> cases b' <;> simp
    subst this
    exact ⟨-chL ts (!b) i, by simp, by rw [chL_not, Int.neg_neg]; exact chM_own⟩
/-- From the first to all, in a model. -/
theorem ch_all {ts : List Bool} {b : Bool} {k : Nat} {m : Nat → Bool} (hm : Mdl m) (hs : Sats m (chS ts k)) (h0 : m (codeN (chL ts b 0)) = true) : ∀ i, i ≤ k → m (codeN (chL ts b i)) = true
  | 0, _ => h0
  | i + 1, h => by
    have hi := ch_all hm hs h0 i (by omega)
    obtain ⟨x, hx, hmx⟩ := hs _ (ch_in (b := b) (i := i) (by omega : i < k))
    simp only [List.mem_cons, List.not_mem_nil, or_false] at hx
    rcases hx with rfl | rfl
    · rw [← codeN_neg (show chL ts b i ≠ 0 from chN_ne), hm.neg, hi] at hmx; cases hmx
    · exact hmx
/-- From the first to all, in a closed set. -/
theorem ch_shut {ts : List Bool} {b : Bool} {k : Nat} {css : List (List Int)} {so : List Int} (hs : Shut css so) (hc : ∀ c ∈ chS ts k, ∃ r ∈ css, ∀ x, x ∈ r ↔ x ∈ c) (h0 : chL ts b 0 ∈ so) : ∀ i, i ≤ k → chL ts b i ∈ so
  | 0, _ => h0
  | i + 1, h => by
    have hi := ch_shut hs hc h0 i (by omega)
    obtain ⟨r, hr, he⟩ := hc _ (ch_in (b := b) (i := i) (by omega : i < k))
    have hn : -chL ts b i ∉ so := hs.no _ hi
    have hmem : ∀ x ∈ r, x = -chL ts b i ∨ x = chL ts b (i + 1) := fun x hx => by
      have := (he x).1 hx
      simpa using this
    have hno : ∀ x, x = -chL ts b i → ¬ Opn so x := fun x e ho => ho.2 (by rw [e, Int.neg_neg]; exact hi)
    rcases hs.cl r hr with ⟨l, hl, hls⟩ | ⟨l1, g1, l2, g2, hne, o1, o2⟩
    · rcases hmem l hl with e | e
      · rw [e] at hls; exact absurd hls hn
      · rw [← e]; exact hls
    · rcases hmem l1 g1 with e | e
      · exact absurd o1 (hno _ e)
      · rcases hmem l2 g2 with e2 | e2
        · exact absurd o2 (hno _ e2)
        · exact absurd (e.trans e2.symm) hne
theorem nodup_le : ∀ {l1 l2 : List Nat}, l1.Nodup → (∀ x ∈ l1, x ∈ l2) → l1.length ≤ l2.length
  | [], _, _, _ => by simp
  | x :: l1, l2, hn, hs => by
    have hx := hs x (by simp)
    have hn' := List.nodup_cons.1 hn
    have h := nodup_le (l1 := l1) (l2 := l2.erase x) hn'.2 (fun y hy => (List.mem_erase_of_ne (fun (e : y = x) => hn'.1 (by rw [← e]; exact hy))).2 (hs y (by simp [hy])))
    rw [List.length_erase_of_mem hx] at h
    have := List.length_pos_of_mem hx
    simp only [List.length_cons]; omega
theorem codeN_chL {ts : List Bool} {b : Bool} {i : Nat} : codeN (chL ts b i) / 2 = i + 1 := by rw [codeN_var]; exact chN_abs
/-- The chain is full as soon as its first one is so. -/
theorem ch_full {ts : List Bool} {b : Bool} {k : Nat} {gl : List (List Int)} {s : St} {C : List Nat} {w : Nat → List Nat} {head : Nat} (h : SI (k + 1) s C w (gcode gl) head) (hh : head = s.tr.length) (hn : NFs (chS ts k) gl) (h0 : codeN (chL ts b 0) ∈ s.tr) : s.tr.length = k + 1 := by
  have key : ∀ i, i ≤ k → codeN (chL ts b i) ∈ s.tr := by
    intro i
    induction i with
    | zero => intro _; exact h0
    | succ i ih =>
      intro hi
      have := ih (by omega)
      refine nfs_force h hh hn (ch_in (b := b) (i := i) (by omega : i < k)) ?_ ?_ ?_
      · intro y hy
        simp only [List.mem_cons, List.not_mem_nil, or_false] at hy
        rcases hy with rfl | rfl
        · have := @chN_ne i (chv ts b i); unfold chL; omega
        · exact chN_ne
      · rintro ⟨y, hy, hny⟩
        simp only [List.mem_cons, List.not_mem_nil, or_false] at hy hny
        have a1 : (chL ts b i).natAbs = i + 1 := chN_abs
        have a2 : (chL ts b (i + 1)).natAbs = i + 2 := chN_abs
        rcases hy with rfl | rfl <;> rcases hny with e | e <;> omega
      · intro y hy
        simp only [List.mem_cons, List.not_mem_nil, or_false] at hy
        rcases hy with rfl | rfl
        · exact .inr (by rw [Int.neg_neg]; exact this)
        · exact .inl rfl
  have hle := h.inv.ok.len
  have : k + 1 ≤ s.tr.length := by
    have := nodup_le (l1 := (List.range (k + 1)).map fun i => codeN (chL ts b i)) (l2 := s.tr) ?_ ?_
    · simpa using this
    · refine List.Pairwise.map _ (fun a c hac e => hac ?_) List.nodup_range
      have := congrArg (· / 2) e
      simp only [codeN_chL] at this
      omega
    · intro x hx
      obtain ⟨i, hi, rfl⟩ := List.mem_map.1 hx
      exact key i (by have := List.mem_range.1 hi; omega)
  omega
end Go.Proofs.YthghkhpclemmlaaGreat

namespace Go.Proofs.YthghkhpclemmlaaGreat
open Go.HL HM Go.Sat
set_option maxRecDepth 10000
set_option linter.unusedSimpArgs false
set_option linter.unusedVariables false

theorem litI_codeN {x : Int} (h : x ≠ 0) : litI (codeN x) = x := by unfold litI codeN; split <;> split <;> omega
theorem chN_lit {i : Nat} {v : Bool} (h : i < 100000) : litB (chN i v) = true := by
  have := @chN_ne i v
  have := @chN_abs i v
  unfold litB
  simp only [decide_eq_true_eq]
  omega
theorem bd_e {c : Prop} [Decidable c] (h : c) : decide c = true := decide_eq_true h
section
variable {H : Heap}
/-- What the core of a chain shows. -/
theorem ch_core {len : Nat} {ts : List Bool} {e0 e1 : Bool} {gl : List (List Int)} {cs : List Nat} {ys : List Int} {idle : Bool} (hn : NFs (chS ts len) gl) (hne : chv ts e0 len ≠ e1)
    (hq : ∀ y ∈ cs, ∃ x ∈ [chN 0 e0, chN len e1], y = codeN x) (hu : ∀ m, Mdl m → AllB m (gcode gl) → ¬ ∀ y ∈ cs, m y = true) (hnf : NF (cs.map litI) ys idle) :
    (∀ y ∈ ys, y = chN 0 e0 ∨ y = chN len e1) ∧ chN 0 e0 ∈ ys ∧ chN len e1 ∈ ys := by
  have he1 : e1 = !chv ts e0 len := by revert hne; cases e1 <;> cases chv ts e0 len <;> simp
  have hmem : ∀ y ∈ cs, y = codeN (chN 0 e0) ∨ y = codeN (chN len e1) := fun y hy => by
    obtain ⟨x, hx, rfl⟩ := hq y hy
    simp only [List.mem_cons, List.not_mem_nil, or_false] at hx
    rcases hx with rfl | rfl
    · exact .inl rfl
    · exact .inr rfl
  have h1 : codeN (chN 0 e0) ∈ cs := Classical.byContradiction fun hno => by
    refine hu (chM ts (!e0)) chM_mdl (hn.sat.2 chM_sats) fun y hy => ?_
    rcases hmem y hy with e | e
    · exact absurd (e ▸ hy) hno
    · rw [e, chM_lit, chv_not, he1]; simp
  have h2 : codeN (chN len e1) ∈ cs := Classical.byContradiction fun hno => by
    refine hu (chM ts e0) chM_mdl (hn.sat.2 chM_sats) fun y hy => ?_
    rcases hmem y hy with e | e
    · rw [e]
      have := @chM_own ts e0 0
      exact this
    · exact absurd (e ▸ hy) hno
  refine ⟨fun y hy => ?_, (hnf.mem _).2 (List.mem_map.2 ⟨_, h1, litI_codeN chN_ne⟩), (hnf.mem _).2 (List.mem_map.2 ⟨_, h2, litI_codeN chN_ne⟩)⟩
  obtain ⟨z, hz, rfl⟩ := List.mem_map.1 ((hnf.mem y).1 hy)
  rcases hmem z hz with rfl | rfl
  · exact .inl (litI_codeN chN_ne)
  · exact .inr (litI_codeN chN_ne)
set_option maxHeartbeats 8000000 in
theorem satParity_spec {a : Option Addr} {ts : List Bool} {c : Nat} {e0 e1 : Bool} (hx : Rb H a ts) (hbig : ts.length ≤ 9223372036854775807) :
    CallF Tryz.prog 3 [.slice a ts.length c, .agg #[.bool e0, .bool e1]] H (fun v H' => v = .bool true ∧ Fr [] H H') NoP := by
  obtain ⟨H0, hH0⟩ : ∃ H0, H.push (.cells #[.bool e0, .bool e1] 23) = H0 := ⟨_, rfl⟩
  have f0 : Fr [] H H0 := by rw [← hH0]; exact Fr.push
  have b0 : Blk H0 H.size 23 [.bool e0, .bool e1] := by rw [← hH0]; exact Blk.new rfl
  have k0 : cellH H0 ⟨H.size, 0, none⟩ = some (.bool e0) := by rw [b0.cell]; rfl
  have k1 : cellH H0 ⟨H.size, 1, none⟩ = some (.bool e1) := by rw [b0.cell]; rfl
  have hz0 : H.size < H0.size := b0.lt
  have again : ∀ H1, Fr [] H H1 → CallF Tryz.prog 4 [] H1 (fun v H' => v = .bool true ∧ Fr [] H H') NoP := fun H1 f1 => lAwake_spec.to fun v H' ⟨h1, h2⟩ => ⟨h1, f1.trans h2⟩
  refine callF_of Tryz.func3 rfl Tryz.ntmps3 Tryz.results3 (by decide) rfl ?_
  simp (disch := omega) only [go_sem, ↓cw_block, dsB_of]
  rw [hH0]
  refine call_to lAwake_spec ?_
  rintro v H1 ⟨rfl, f1⟩
  by_cases hl9 : 9 < ts.length
  · simp (disch := omega) only [go_sem, ↓cw_block, dsB_of]
    refine call_to (again H1 (f0.trans f1)) ?_
    rintro v H2 ⟨rfl, f2⟩
    simp (disch := omega) only [go_sem, ↓cw_block, dsB_of, dsB_of]
    exact fin ⟨rfl, f2⟩
  · have hn1 : (ts.length : Int) + 1 = ((ts.length + 1 : Nat) : Int) := by omega
    simp (disch := omega) only [go_sem, ↓cw_block, dsB_of, hn1]
    refine call_to (sNew_spec (n := ts.length + 1) (by omega)) ?_
    rintro v H2 ⟨f2, ow2, p, k, g2, rfl, o2, s2, gl2, ro2, bd2, dd2, ls2⟩
    have f02 := f1.trans f2
    have o2' : ∀ b, b < H0.size → ow2 b = 0 := fun b hb => o2 b (Nat.lt_of_lt_of_le hb f1.size)
    have k0' : cellH H2 ⟨H.size, 0, none⟩ = some (.bool e0) := f02.cell' k0 (by simp)
    have k0a : cellH H2 ⟨H.size, 0 + 0, none⟩ = some (.bool e0) := k0'
    simp (disch := omega) only [go_sem, dsB_of, k0', k0a]
    refine cut_at (fun ρ H3 => ∃ ow g, (ρ.get 3 = .pointer (some ⟨H.size, 0, none⟩) ∧ ρ.get 5 = iv (ts.length + 1 : Nat) ∧ ρ.get 6 = hp p ∧ ρ.get 8 = .bool (chv ts e0 ts.length) ∧ ρ.ds = []) ∧ SV H3 ow p (ts.length + 1) k g ∧ Fr [] H0 H3 ∧ (∀ b, b < H0.size → ow b = 0) ∧ NFs (chS ts ts.length) g.gl ∧ g.rounds = 0 ∧ Bd g 0 ∧ g.ls = []) ?_ ?_
    · simp (disch := omega) only [go_sem, ↓cw_block, dsB_of]
      refine loop_by (fun j ρ H3 => ∃ (i : Nat) (ow : Nat → Nat) (g : Cf), j = ts.length - i ∧ i ≤ ts.length ∧ (ρ.get 0 = .slice a ts.length c ∧ ρ.get 3 = .pointer (some ⟨H.size, 0, none⟩) ∧ ρ.get 5 = iv (ts.length + 1 : Nat) ∧ ρ.get 6 = hp p ∧ ρ.get 8 = .bool (chv ts e0 i) ∧ ρ.get 9 = iv i ∧ ρ.ds = []) ∧ SV H3 ow p (ts.length + 1) k g ∧ Fr [] H0 H3 ∧ (∀ b, b < H0.size → ow b = 0) ∧ NFs (chS ts i) g.gl ∧ g.rounds = 0 ∧ Bd g 0 ∧ g.ls = []) (k := ts.length) ?_ ?_
      · exact ⟨0, ow2, g2, rfl, by omega, by simp (disch := omega) only [go_sem, ↓cw_block, dsB_of]; try rfl, s2, f02, o2', by rw [gl2]; exact NFs.nil, ro2, bd2, ls2⟩
      · rintro _ ρ H3 ⟨i, ow3, g3, rfl, hi, ⟨r0, r3, r5, r6, r8, r9, rd⟩, s3, f3, o3, n3, ro3, bd3, ls3⟩
        by_cases hie : i = ts.length
        · subst hie
          simp (disch := omega) only [go_sem, ↓cw_block, dsB_of, r0, r3, r5, r6, r8, r9, rd]
          exact fin ⟨ow3, g3, by simp (disch := omega) only [go_sem, ↓cw_block, dsB_of, r3, r5, r6, r8, rd], s3, f3, o3, n3, ro3, bd3, ls3⟩
        · obtain ⟨t, hti⟩ : ∃ t, ts[i]? = some t := ⟨_, List.getElem?_eq_getElem (by omega)⟩
          have htg : ts.getD i false = t := by rw [List.getD_eq_getElem?_getD, hti]; rfl
          obtain ⟨tb, tq, e, kt0⟩ := hx i t hti
          subst e
          have kt : cellH H3 ⟨tb, tq + i, none⟩ = some (.bool t) := f3.cell' (f0.cell' kt0 (by simp)) (by simp)
          have hi1 : (i : Int) + 1 = ((i + 1 : Nat) : Int) := by omega
          have ng3 : g3.gl.length = 2 * i := by rw [n3.len, chS_len]
          have hcv : chv ts e0 (i + 1) = xor (chv ts e0 i) t := by rw [← htg]; rfl
          have adds : ∀ (u v : Bool) (x y x2 y2 : Int), x = chN i u → y = chN (i + 1) v → x2 = chN i (!u) → y2 = chN (i + 1) (!v) → chC t i = [[x, y], [x2, y2]] →
              CallF Tryz.prog 6 [hp p, .slice (some ⟨H3.size, 0, none⟩) 2 2] (H3.push (.cells #[iv x, iv y] 3)) (fun v H4 => ∃ ow4 g4, v = iv 0 ∧ SV H4 ow4 p (ts.length + 1) k g4 ∧ Fr [] H0 H4 ∧ (∀ b, b < H0.size → ow4 b = 0) ∧
                CallF Tryz.prog 6 [hp p, .slice (some ⟨H4.size, 0, none⟩) 2 2] (H4.push (.cells #[iv x2, iv y2] 3)) (fun v H5 => ∃ ow5 g5, v = iv 0 ∧ SV H5 ow5 p (ts.length + 1) k g5 ∧ Fr [] H0 H5 ∧ (∀ b, b < H0.size → ow5 b = 0) ∧ NFs (chS ts (i + 1)) g5.gl ∧ g5.rounds = 0 ∧ Bd g5 0 ∧ g5.ls = []) NoP) NoP := by
            intro u v x y x2 y2 ex ey ex2 ey2 hch
            have good : ∀ u v : Bool, [chN i u, chN (i + 1) v].all litB = true ∧ grt [chN i u, chN (i + 1) v] ≤ ts.length + 1 := fun u v => by
              refine ⟨?_, grt_le.2 fun z hz _ => ?_⟩
              · rw [List.all_eq_true]
                intro z hz
                simp only [List.mem_cons, List.not_mem_nil, or_false] at hz
                rcases hz with rfl | rfl <;> exact chN_lit (by omega)
              · simp only [List.mem_cons, List.not_mem_nil, or_false] at hz
                rcases hz with rfl | rfl <;> rw [chN_abs] <;> omega
            have f4 : Fr [] H3 (H3.push (.cells #[iv x, iv y] 3)) := Fr.push
            refine (sAdd_spec (s3.out f4) (Rn.new (xs := [x, y])) (by simp) (by omega)).to ?_
            rintro v1 H4 (⟨hbad, -⟩ | ⟨-, -, rfl, ow4, g4, y4, i4, s4, e4, nf4, gl4, ld4, dd4, ro4, ls4, bd4⟩)
            · exact absurd (by rw [ex, ey]; exact good _ _) hbad
            obtain ⟨fr4, o4⟩ := frOf (f3.trans f4) o3 e4
            refine ⟨ow4, g4, rfl, s4, fr4, o4, ?_⟩
            have f5 : Fr [] H4 (H4.push (.cells #[iv x2, iv y2] 3)) := Fr.push
            refine (sAdd_spec (s4.out f5) (Rn.new (xs := [x2, y2])) (by simp) (by rw [gl4]; simp; omega)).to ?_
            rintro v1 H5 (⟨hbad, -⟩ | ⟨-, -, rfl, ow5, g5, y5, i5, s5, e5, nf5, gl5, ld5, dd5, ro5, ls5, bd5⟩)
            · exact absurd (by rw [ex2, ey2]; exact good _ _) hbad
            obtain ⟨fr5, o5⟩ := frOf (fr4.trans f5) o4 e5
            refine ⟨ow5, g5, rfl, s5, fr5, o5, ?_, by rw [ro5, ro4, ro3], bd5 _ (bd4 _ bd3), by rw [ls5, ls4, ls3]⟩
            rw [chS_add, htg, hch, gl5, gl4]
            have := (n3.add nf4).add nf5
            simpa using this
          cases t with
          | true =>
            have hA := adds false false (-((i : Int) + 1)) (-((i : Int) + 2)) ((i : Int) + 1) ((i : Int) + 2) (by simp [chN]) (by simp [chN]; omega) (by simp [chN]) (by simp [chN]; omega) (by simp [chC, chN]; omega)
            rw [Bool.xor_true] at hcv
            simp (disch := omega) only [go_sem, ↓cw_block, dsB_of, r0, r3, r5, r6, r8, r9, rd, kt, b26_2]
            refine call_to hA ?_
            rintro v H4 ⟨ow4, g4, rfl, s4, f4, o4, hB⟩
            simp (disch := omega) only [go_sem, ↓cw_block, dsB_of, r0, r3, r5, r6, r8, r9, rd, b26_2]
            refine call_to hB ?_
            rintro v H5 ⟨ow5, g5, rfl, s5, f5, o5, n5, ro5, bd5, ls5⟩
            simp (disch := omega) only [go_sem, ↓cw_block, dsB_of, r0, r3, r5, r6, r8, r9, rd]
            exact fin ⟨ts.length - (i + 1), by omega, i + 1, ow5, g5, rfl, by omega, by simp (disch := omega) only [go_sem, ↓cw_block, dsB_of, r0, r3, r5, r6, r8, r9, rd, hi1, hcv], s5, f5, o5, n5, ro5, bd5, ls5⟩
          | false =>
            have hA := adds false true (-((i : Int) + 1)) ((i : Int) + 2) ((i : Int) + 1) (-((i : Int) + 2)) (by simp [chN]) (by simp [chN]; omega) (by simp [chN]) (by simp [chN]; omega) (by simp [chC, chN]; omega)
            rw [Bool.xor_false] at hcv
            simp (disch := omega) only [go_sem, ↓cw_block, dsB_of, r0, r3, r5, r6, r8, r9, rd, kt, b26_2]
            refine call_to hA ?_
            rintro v H4 ⟨ow4, g4, rfl, s4, f4, o4, hB⟩
            simp (disch := omega) only [go_sem, ↓cw_block, dsB_of, r0, r3, r5, r6, r8, r9, rd, b26_2]
            refine call_to hB ?_
            rintro v H5 ⟨ow5, g5, rfl, s5, f5, o5, n5, ro5, bd5, ls5⟩
            simp (disch := omega) only [go_sem, ↓cw_block, dsB_of, r0, r3, r5, r6, r8, r9, rd]
            exact fin ⟨ts.length - (i + 1), by omega, i + 1, ow5, g5, rfl, by omega, by simp (disch := omega) only [go_sem, ↓cw_block, dsB_of, r0, r3, r5, r6, r8, r9, rd, hi1, hcv], s5, f5, o5, n5, ro5, bd5, ls5⟩
    · rintro ρ H3 ⟨ow3, g3, ⟨r3, r5, r6, r8, rd⟩, s3, f3, o3, n3, ro3, bd3, ls3⟩
      have k0b : cellH H3 ⟨H.size, 0, none⟩ = some (.bool e0) := f3.cell' k0 (by simp)
      have k0c : cellH H3 ⟨H.size, 0 + 0, none⟩ = some (.bool e0) := k0b
      have k1b : cellH H3 ⟨H.size, 1, none⟩ = some (.bool e1) := f3.cell' k1 (by simp)
      have k1c : cellH H3 ⟨H.size, 0 + 1, none⟩ = some (.bool e1) := k1b
      simp (disch := omega) only [go_sem, ↓cw_block, dsB_of, r3, r5, r6, r8, rd, k0b, k0c, k1b, k1c]
      refine cond_at (fun ρ H4 => (ρ.get 3 = .pointer (some ⟨H.size, 0, none⟩) ∧ ρ.get 5 = iv (ts.length + 1 : Nat) ∧ ρ.get 6 = hp p ∧ ρ.get 8 = .bool (chv ts e0 ts.length) ∧ ρ.get 12 = iv (chN 0 e0) ∧ ρ.get 13 = iv (-((ts.length : Int) + 1)) ∧ ρ.ds = []) ∧ H4 = H3) ?_ ?_
      · cases e0
        · simp (disch := omega) only [go_sem, ↓cw_block, dsB_of, r3, r5, r6, r8, rd]
          exact ⟨by simp (disch := omega) only [go_sem, ↓cw_block, dsB_of, r3, r5, r6, r8, rd]; simp [chN], rfl⟩
        · simp (disch := omega) only [go_sem, ↓cw_block, dsB_of, r3, r5, r6, r8, rd]
          exact ⟨by simp (disch := omega) only [go_sem, ↓cw_block, dsB_of, r3, r5, r6, r8, rd]; simp [chN], rfl⟩
      · clear r3 r5 r6 r8 rd
        rintro ρ H4 ⟨⟨r3, r5, r6, r8, r12, r13, rd⟩, e⟩
        subst H4
        simp (disch := omega) only [go_sem, ↓cw_block, dsB_of, r3, r5, r6, r8, r12, r13, rd, k0b, k0c, k1b, k1c]
        refine cond_at (fun ρ H4 => (ρ.get 3 = .pointer (some ⟨H.size, 0, none⟩) ∧ ρ.get 6 = hp p ∧ ρ.get 8 = .bool (chv ts e0 ts.length) ∧ ρ.get 12 = iv (chN 0 e0) ∧ ρ.get 13 = iv (chN ts.length e1) ∧ ρ.ds = []) ∧ H4 = H3) ?_ ?_
        · cases e1
          · simp (disch := omega) only [go_sem, ↓cw_block, dsB_of, r3, r5, r6, r8, r12, r13, rd]
            exact ⟨by simp (disch := omega) only [go_sem, ↓cw_block, dsB_of, r3, r5, r6, r8, r12, r13, rd]; simp [chN], rfl⟩
          · simp (disch := omega) only [go_sem, ↓cw_block, dsB_of, r3, r5, r6, r8, r12, r13, rd]
            exact ⟨by simp (disch := omega) only [go_sem, ↓cw_block, dsB_of, r3, r5, r6, r8, r12, r13, rd]; simp [chN], rfl⟩
        · clear r3 r5 r6 r8 r12 r13 rd
          rintro ρ H4 ⟨⟨r3, r6, r8, r12, r13, rd⟩, e⟩
          subst H4
          obtain ⟨H5, hH5⟩ : ∃ H5, H3.push (.cells #[iv (chN 0 e0), iv (chN ts.length e1)] 3) = H5 := ⟨_, rfl⟩
          have f5 : Fr [] H3 H5 := by rw [← hH5]; exact Fr.push
          have x5 : Rn H5 (some ⟨H3.size, 0, none⟩) [chN 0 e0, chN ts.length e1] := by rw [← hH5]; exact Rn.new (xs := [chN 0 e0, chN ts.length e1])
          have z5 : H5.size = H3.size + 1 := by rw [← hH5]; simp
          have s5 := s3.out f5
          have how5 : ∀ b o, (some ⟨H3.size, 0, none⟩ : Option Addr) = some ⟨b, o, none⟩ → b < H5.size ∧ ow3 b = 0 := by
            intro b o h
            simp only [Option.some.injEq, Addr.mk.injEq, and_true] at h
            obtain ⟨rfl, -⟩ := h
            exact ⟨by omega, s3.sd.sb.m.free (Nat.le_refl _)⟩
          have hQ : QHs (ts.length + 1) (gcode g3.gl) [chN 0 e0, chN ts.length e1] (chM ts e0) := fun ds hds hdl hd0 => by
            have hne : ds ≠ [] := fun e => by
              have := (hds (chN 0 e0)).2 (by simp)
              rw [e] at this; simp at this
            obtain ⟨d, hd⟩ : ∃ d, ds[0]? = some d := ⟨_, List.getElem?_eq_getElem (List.length_pos_iff.2 hne)⟩
            have hdx : d = chN 0 e0 := by
              have := hd0 d hd
              simp at this
              exact this.symm
            subst hdx
            refine ⟨chM_mdl, n3.sat.2 chM_sats, fun z hz => ?_, fun s C w head hs hh hor => ?_⟩
            · rw [List.getElem?_map, hd] at hz
              simp only [Option.map_some, Option.some.injEq] at hz
              rw [← hz]
              exact @chM_own ts e0 0
            · rcases hor with e | ⟨z, hz, hzt⟩
              · exact absurd (List.map_eq_nil_iff.1 e) hne
              · rw [List.getElem?_map, hd] at hz
                simp only [Option.map_some, Option.some.injEq] at hz
                exact ch_full (b := e0) hs hh n3 (by rw [← hz] at hzt; exact hzt)
          have hquiet : Quiet (ts.length + 1) (gcode g3.gl) [chN 0 e0, chN ts.length e1] := .inl ⟨_, hQ⟩
          have ng3 : g3.gl.length = 2 * ts.length := by rw [n3.len, chS_len]
          have hall : [chN 0 e0, chN ts.length e1].all (okA (ts.length + 1)) = true := by
            rw [List.all_eq_true]
            intro z hz
            unfold okA
            simp only [List.mem_cons, List.not_mem_nil, or_false] at hz
            rw [decide_eq_true_eq]
            rcases hz with rfl | rfl
            · have := @chN_ne 0 e0
              have := @chN_abs 0 e0
              omega
            · have := @chN_ne ts.length e1
              have := @chN_abs ts.length e1
              omega
          simp (disch := omega) only [go_sem, ↓cw_block, dsB_of, r3, r6, r8, r12, r13, rd, b26_2]
          try rw [hH5]
          refine call_to (sSolve_spec s5 (.inr ⟨_, hQ⟩) (by omega) (u := 0) bd3 (by omega) (by omega) (b := -1) (by omega) (a := some ⟨H3.size, 0, none⟩) (xs := [chN 0 e0, chN ts.length e1]) (c := 2) x5 how5 (by simp)) ?_
          rintro va H6 ⟨ow6, g6, s6, e6, gv6, gs6, gl6, bd6, rd6, dm6, lo6, ans⟩
          obtain ⟨fr6, o6⟩ := frOf (f3.trans f5) o3 e6
          have k1d : cellH H6 ⟨H.size, 1, none⟩ = some (.bool e1) := fr6.cell' k1 (by simp)
          have k1e : cellH H6 ⟨H.size, 0 + 1, none⟩ = some (.bool e1) := k1d
          have n6 : NFs (chS ts ts.length) g6.gl := by rw [gl6]; exact n3
          have hrows : ∀ r ∈ g6.gl, r.length ≤ 1000 ∧ ∀ x ∈ r, litB x = true ∧ x.natAbs ≤ ts.length + 1 := fun r hr => by
            have hc := s6.cn r hr
            have := ltN_len hc
            refine ⟨by omega, fun x hxr => ?_⟩
            have := hc.lit x hxr
            refine ⟨?_, this.2⟩
            unfold litB
            simp only [decide_eq_true_eq]
            omega
          have ng6 : g6.gl.length ≤ 10000 := by rw [gl6]; omega
          have f06 := f0.trans fr6
          by_cases hlast : chv ts e0 ts.length = e1
          · cases ans with
            | bad hb => rw [hall] at hb; cases hb
            | unsat cs ys idle hb hcs hi hu hqc hn hv ho hl =>
              exfalso
              refine hu (chM ts e0) chM_mdl (n3.sat.2 chM_sats) fun y hy => ?_
              obtain ⟨x, hxm, rfl⟩ := hqc hquiet y hy
              simp only [List.mem_cons, List.not_mem_nil, or_false] at hxm
              rcases hxm with rfl | rfl
              · exact @chM_own ts e0 0
              · rw [← hlast]; exact chM_own
            | sat md m hb hd hm hG ha hl hv ho hc hq =>
              have hs6 : Sats m g6.gl := fun r hr => by
                obtain ⟨y, hy, hmy⟩ := hG (r.map codeN) (by rw [← gl6]; exact List.mem_reverse.2 (List.mem_map.2 ⟨r, hr, rfl⟩))
                obtain ⟨x, hxr, rfl⟩ := List.mem_map.1 hy
                exact ⟨x, hxr, hmy⟩
              have hml : md.length = ts.length + 1 := by rw [hl]; simp
              rw [hlast] at r8
              have hcmp : (e1 == e1) = true := beq_self_eq_true e1
              simp (disch := omega) only [go_sem, ↓cw_block, dsB_of, r3, r6, r8, rd, k1d, k1e, hcmp]
              refine call_to (sClausesW_spec s6.sd.sb.m (by omega) (fun g hg => by have := (hrows g hg).1; omega)) ?_
              rintro v H7 ⟨f7, rvs, w7⟩
              obtain ⟨ca, cc, e, rc7⟩ := w7.rc
              subst e
              simp (disch := omega) only [go_sem, ↓cw_block, dsB_of, r3, r6, r8, rd]
              refine call_to (sModel_spec (s6.out f7).sd.sb.m (hv.frame f7 (by simp)) (by omega)) ?_
              rintro v H8 ⟨f8, v8, o8⟩
              obtain ⟨ma, mlen, mc, e, hmll⟩ := v8.len
              subst e
              have hml2 : mlen = md.length := by simpa using hmll.symm
              subst hml2
              have hrb : Rb H8 ma md := fun j b hj => by
                obtain ⟨bb, bo, cap, e, hcc⟩ := vec_cell v8 (i := j) (u := .bool b) (by rw [List.getElem?_map, hj]; rfl)
                simp only [Value.slice.injEq] at e
                exact ⟨bb, bo, e.1, hcc⟩
              simp (disch := omega) only [go_sem, ↓cw_block, dsB_of, r3, r6, r8, rd]
              refine call_to (rAll_spec (m := m) ((rc7.same (H' := H8) fun b hb => f8.same b hb (by simp)).rl) hrb hm (by rw [hml]; exact hl) (fun r hr => ⟨by have := (hrows r hr).1; omega, fun x hxr => ⟨((hrows r hr).2 x hxr).1, by rw [hml]; exact ((hrows r hr).2 x hxr).2⟩⟩) (by omega) (by omega) hs6) ?_
              rintro v H9 ⟨rfl, e⟩
              subst H9
              simp (disch := omega) only [go_sem, ↓cw_block, dsB_of, dsB_of]
              exact fin ⟨rfl, f06.trans (f7.trans f8)⟩
          · have hy1 : chN ts.length e1 = -chL ts e0 ts.length := by
              unfold chL
              rw [chN_neg]
              congr 1
              revert hlast; cases e1 <;> cases chv ts e0 ts.length <;> simp
            cases ans with
            | bad hb => rw [hall] at hb; cases hb
            | sat md m hb hd hm hG ha hl hv ho hc hq =>
              exfalso
              have h1 := ch_all (b := e0) hm (n3.sat.1 hG) (ha (chN 0 e0) (List.mem_cons_self ..)) ts.length (Nat.le_refl _)
              have h2 := ha (chN ts.length e1) (by simp)
              rw [hy1, ← codeN_neg (show chL ts e0 ts.length ≠ 0 from chN_ne), hm.neg] at h2
              rw [h1] at h2
              cases h2
            | unsat cs ys idle hb hcs hi hu hqc hn hv ho hl =>
              obtain ⟨hy2, hy3, hy4⟩ := ch_core n3 hlast (hqc hquiet) hu hn
              obtain ⟨L0, hL0, hor⟩ := hl
              have hL := hL0 hquiet
              rw [ls3] at hL
              subst hL
              have hyz : ∀ x ∈ ys, litB x = true ∧ x.natAbs ≤ ts.length + 1 := fun x hxy => by
                rcases hy2 x hxy with rfl | rfl
                · exact ⟨chN_lit (by omega), by rw [chN_abs]; omega⟩
                · exact ⟨chN_lit (by omega), by rw [chN_abs]; omega⟩
              have hls : (∃ x ∈ ys, -x ∈ ys) ∧ g6.ls = [] ∨ (¬ ∃ x ∈ ys, -x ∈ ys) ∧ ∃ w, g6.ls = [.bool false, w] ∧ Vec H6 3 1 w ((ys.map (- ·)).map iv) := by
                rcases hor with ⟨hid, h⟩ | ⟨hid, w, h, hw, -⟩
                · exact .inl ⟨hn.idle.1 hid, h⟩
                · exact .inr ⟨fun h2 => (by have := hn.idle.2 h2; rw [hid] at this; cases this), w, h, hw⟩
              have hno : ∀ so', (∀ z ∈ ys, z ∈ so') → ¬ Shut g6.gl so' := fun so' hz hsh => by
                have := ch_shut (ts := ts) (b := e0) (k := ts.length) hsh (fun c hc => by
                  obtain ⟨i, hi⟩ := List.getElem?_of_mem hc
                  obtain ⟨r, hr⟩ : ∃ r, g6.gl[i]? = some r := ⟨_, List.getElem?_eq_getElem (by rw [n6.len]; exact (List.getElem?_eq_some_iff.1 hi).1)⟩
                  obtain ⟨idl, hnf⟩ := n6.nf i c r hi hr
                  exact ⟨r, List.mem_of_getElem? hr, hnf.mem⟩) (hz _ hy3) ts.length (Nat.le_refl _)
                exact hsh.no _ this (by rw [← hy1]; exact hz _ hy4)
              have hcmp : (chv ts e0 ts.length == e1) = false := beq_eq_false_iff_ne.2 hlast
              have hlen : ys.length ≤ 1000000 := by
                have := ltN_len (n := ts.length + 1) (z := ys) ⟨fun x hx => ⟨litB_ne (hyz x hx).1, (hyz x hx).2⟩, hn.str⟩
                omega
              simp (disch := omega) only [go_sem, ↓cw_block, dsB_of, r3, r6, r8, rd, k1d, k1e, hcmp, hlast]
              refine call_to (sCore_spec s6.sd.sb.m hv hlen) ?_
              rintro v H7 ⟨f7, v7, o7⟩
              obtain ⟨ya, yc, e, -, hyr⟩ := vec_rn v7
              subst e
              have hls7 : (∃ x ∈ ys, -x ∈ ys) ∧ g6.ls = [] ∨ (¬ ∃ x ∈ ys, -x ∈ ys) ∧ ∃ w, g6.ls = [.bool false, w] ∧ Vec H7 3 1 w ((ys.map (- ·)).map iv) := hls.imp id fun ⟨h1, w, h2, h3⟩ => ⟨h1, w, h2, h3.frame f7 (by simp)⟩
              simp (disch := omega) only [go_sem, ↓cw_block, dsB_of, r3, r6, r8, rd]
              refine call_to (lProved_spec (n := ts.length + 1) (s6.out f7).sd.sb.m (by omega) ng6 hrows hyr hn.str hyz hls7 hno) ?_
              rintro v H8 ⟨f8, rfl⟩
              simp (disch := omega) only [go_sem, ↓cw_block, dsB_of, dsB_of]
              exact fin ⟨rfl, f06.trans (f7.trans f8)⟩
end
end Go.Proofs.YthghkhpclemmlaaGreat

namespace Go.HL
open Go.ChangeShapes Go.WideShapes Go.ChangeAt Go.RowKit
section
variable {H : Type} {enc : TypeId × Value → H} {P : Program} {W : World}
theorem TR.array {t e : TypeId} {n : Nat} {cs : List Value} (ht : P.underlying t = some (.array n e)) (h : TR enc P W t cs) :
    cs.length = P.cellsOf t ∧ ∀ i, i < n → TR enc P W e ((cs.drop (i * P.cellsOf e)).take (P.cellsOf e)) := by
  obtain ⟨fuel, x, h⟩ := h
  cases fuel with
  | zero => simp [DataW.trod] at h
  | succ fuel =>
    unfold DataW.trod at h
    rw [ht] at h
    split at h <;> first | (simp at *; done) | skip
    rename_i n' e' hfs
    simp only [Option.some.injEq, TypeDesc.array.injEq] at hfs
    obtain ⟨rfl, rfl⟩ := hfs
    split at h
    · rename_i h1
      simp only [Option.map_eq_some_iff] at h
      obtain ⟨y, hy, _⟩ := h
      refine ⟨h1, fun i hi => ?_⟩
      obtain ⟨z, hz, _⟩ := (omapM_some hy).2 i i (by simp [hi])
      exact ⟨fuel, z, hz⟩
    · simp at h
end
end Go.HL
namespace Go.Proofs.YthghkhpclemmlaaGreat
open Go.ChangeShapes Go.WideShapes Go.ChangeAt Go.RowKit Go.HL
set_option linter.unusedSimpArgs false
set_option linter.unusedVariables false
set_option maxRecDepth 100000
section
variable {H : Type} {enc : TypeId × Value → H} {W : World}
theorem arg_two {r : Reach} {b0 : Nat} {v : Value} {d : DataW H} {ps : List MemPlace}
    (hval : Value.okWide Tryz.prog W r b0 23 v) (hd : DataW.Trod enc Tryz.prog W 0 (fun _ => true) true 23 v d ps) : ∃ n0 n1, v = .agg #[.bool n0, .bool n1] := by
  have hu := Tryz.underlying23
  have ht := Go.HL.TR.of hd
  unfold Value.okWide at hval
  rw [hu] at hval
  obtain ⟨cs, rfl, hsz, -⟩ := hval
  have s0 : Tryz.prog.cellsOf 4 = 1 := by kernel_rfl
  have s4 : Tryz.prog.cellsOf 23 = 2 := by kernel_rfl
  obtain ⟨h1, h2⟩ := Go.HL.TR.array hu ht
  rw [s4] at h1
  obtain ⟨l⟩ := cs
  have hl : (Value.agg ⟨l⟩).cells.toList = l := rfl
  rw [hl] at h1 h2
  match l, h1 with
  | [x0, x1], _ =>
    have t0 := h2 0 (by omega)
    have t1 := h2 1 (by omega)
    simp only [s0, Nat.zero_mul, Nat.one_mul, Nat.mul_one, List.drop_zero, List.drop_succ_cons, List.take_succ_cons, List.take_zero] at t0 t1
    obtain ⟨n0, e0⟩ := Go.HL.TR.bool Tryz.underlying4 t0
    obtain ⟨n1, e1⟩ := Go.HL.TR.bool Tryz.underlying4 t1
    simp only [List.cons.injEq, and_true] at e0 e1
    subst e0 e1
    exact ⟨n0, n1, rfl⟩
theorem arg_rb {r : Reach} {b0 : Nat} {v : Value} {d : DataW H} {ps : List MemPlace}
    (hval : Value.okWide Tryz.prog W r b0 22 v) (hd : DataW.Trod enc Tryz.prog W 0 (fun _ => true) true 22 v d ps) : ∃ a xs cap, v = .slice a xs.length cap ∧ Rb W.heap a xs ∧ xs.length ≤ maxLen := by
  obtain ⟨a0, len0, cap0, rfl⟩ := okWide_slice Tryz.underlying22 hval
  obtain ⟨a, len, cap, e, hl, hr⟩ := (Go.HL.TR.of hd).slice (z := 1) Tryz.underlying22 (by kernel_rfl) (by omega)
  simp [Value.cells] at e
  obtain ⟨rfl, rfl, rfl⟩ := e
  have key : ∀ i, i < len0 → ∃ x : Bool, ∃ b o, a0 = some ⟨b, o, none⟩ ∧ cellH W.heap ⟨b, o + i, none⟩ = some (.bool x) := by
    intro i hi
    obtain ⟨b, o, rfl, hrow⟩ := hr (by omega)
    obtain ⟨es, hes, hc, ht⟩ := hrow i hi
    match es, hes with
    | [x0], _ =>
      obtain ⟨x, e0⟩ := Go.HL.TR.bool Tryz.underlying4 ht
      simp only [List.cons.injEq, and_true] at e0
      subst e0
      have c0 := hc 0 (by omega)
      simp at c0
      exact ⟨x, b, o, rfl, c0⟩
  obtain ⟨xs, g1, g2⟩ := list_of key
  subst g1
  exact ⟨a0, xs, cap0, rfl, fun j b hj => g2 j b hj, hl⟩
end
end Go.Proofs.YthghkhpclemmlaaGreat

