/- The solver: assumptions that cannot all be true. -/
import Derived.Test.YtofooamimiijlaaGreatL16
namespace Go.Sat
set_option linter.unusedVariables false
/-- On the way to what implies a literal that is false. -/
structure Fin (n : Nat) (s : St) (x i : Nat) (seen : Nat → Bool) (ds : List Nat) : Prop where
  at' : ∀ v, seen v = true → ∃ j z : Nat, j < i ∧ s.tr[j]? = some z ∧ z / 2 = v ∧ 1 ≤ lev s.st j
  so : ∀ m, Holds s m → (∀ y ∈ x :: ds, m y = true) → ∃ j z : Nat, j < i ∧ s.tr[j]? = some z ∧ 1 ≤ lev s.st j ∧ seen (z / 2) = true ∧ m z = false
  dec : ∀ y ∈ ds, s.rea (y / 2) = none ∧ ∃ j : Nat, s.tr[j]? = some y ∧ 1 ≤ lev s.st j
  len : ds.length + i ≤ s.tr.length
theorem Fin.start {n : Nat} {s : St} {x j : Nat} (hj : s.tr[j]? = some (neg x)) (hl : 1 ≤ lev s.st j) : Fin n s x s.tr.length (up1 (fun _ => false) (x / 2) true) [] := by
  have hjl := (List.getElem?_eq_some_iff.1 hj).1
  refine ⟨fun v hs => ?_, fun m hm hy => ?_, fun y hy => by simp at hy, by simp⟩
  · unfold up1 at hs
    split at hs
    · rename_i e
      exact ⟨j, neg x, hjl, hj, by rw [neg_var, e], hl⟩
    · cases hs
  · refine ⟨j, neg x, hjl, hj, hl, by rw [neg_var]; simp [up1], ?_⟩
    rw [hm.mdl.neg, hy x (by simp)]; rfl
theorem Fin.skip {n : Nat} {s : St} {x i z : Nat} {seen : Nat → Bool} {ds : List Nat} (h : Fin n s x (i + 1) seen ds) (hz : s.tr[i]? = some z) (hs : seen (z / 2) = false) : Fin n s x i seen ds := by
  refine ⟨fun v hv => ?_, fun m hm hy => ?_, h.dec, by have := h.len; omega⟩
  · obtain ⟨j, y, h1, h2, h3, h4⟩ := h.at' v hv
    by_cases e : j = i
    · subst e; rw [hz] at h2; have := Option.some.inj h2; subst this; rw [h3, hv] at hs; cases hs
    · exact ⟨j, y, by omega, h2, h3, h4⟩
  · obtain ⟨j, y, h1, h2, h3, h4, h5⟩ := h.so m hm hy
    by_cases e : j = i
    · subst e; rw [hz] at h2; have := Option.some.inj h2; subst this; rw [h4] at hs; cases hs
    · exact ⟨j, y, by omega, h2, h3, h4, h5⟩
theorem Fin.dec' {n : Nat} {s : St} {x i z : Nat} {seen : Nat → Bool} {ds : List Nat} (hv : Inv n s) (h : Fin n s x (i + 1) seen ds) (hz : s.tr[i]? = some z) (hs : seen (z / 2) = true) (hr : s.rea (z / 2) = none) : Fin n s x i (up1 seen (z / 2) false) (ds ++ [z]) := by
  have hlv : 1 ≤ lev s.st i := by
    obtain ⟨j, y, h1, h2, h3, h4⟩ := h.at' _ hs
    have := hv.ok.idx h2 hz h3
    subst this; exact h4
  refine ⟨fun v hv' => ?_, fun m hm hy => ?_, fun y hy => ?_, by have := h.len; simp; omega⟩
  · unfold up1 at hv'
    split at hv'
    · cases hv'
    · rename_i hne
      obtain ⟨j, y, h1, h2, h3, h4⟩ := h.at' v hv'
      by_cases e : j = i
      · subst e; rw [hz] at h2; have := Option.some.inj h2; subst this; exact absurd h3.symm hne
      · exact ⟨j, y, by omega, h2, h3, h4⟩
  · have hsub : ∀ y ∈ x :: ds, y ∈ x :: (ds ++ [z]) := by
      intro y hy'
      rcases List.mem_cons.1 hy' with rfl | h'
      · simp
      · simp [h']
    obtain ⟨j, y, h1, h2, h3, h4, h5⟩ := h.so m hm (fun y hy' => hy y (hsub y hy'))
    by_cases e : j = i
    · subst e; rw [hz] at h2; have := Option.some.inj h2; subst this
      rw [hy z (by simp)] at h5; cases h5
    · refine ⟨j, y, by omega, h2, h3, ?_, h5⟩
      unfold up1
      rw [if_neg (fun e2 => e (hv.ok.idx h2 hz e2))]
      exact h4
  · rcases List.mem_append.1 hy with hy | hy
    · exact h.dec y hy
    · have := List.mem_singleton.1 hy
      subst this
      exact ⟨hr, i, hz, hlv⟩
/-- Marks of the rest of a reason. -/
def mkS (s : St) (seen : Nat → Bool) (l : List Nat) : Nat → Bool := l.foldl (fun f y => up1 f (y / 2) (f (y / 2) || decide (0 < s.lv (y / 2)))) seen
theorem mkS_app {s : St} {seen : Nat → Bool} {l : List Nat} {y : Nat} : mkS s seen (l ++ [y]) = up1 (mkS s seen l) (y / 2) (mkS s seen l (y / 2) || decide (0 < s.lv (y / 2))) := by simp [mkS]
theorem mkS_iff {s : St} : ∀ (l : List Nat) (seen : Nat → Bool) (v : Nat), mkS s seen l v = true ↔ seen v = true ∨ ∃ y ∈ l, y / 2 = v ∧ 0 < s.lv v
  | [], seen, v => by simp [mkS]
  | y :: l, seen, v => by
    show mkS s (up1 seen (y / 2) (seen (y / 2) || decide (0 < s.lv (y / 2)))) l v = true ↔ _
    rw [mkS_iff l]
    unfold up1
    by_cases e : v = y / 2
    · subst e
      simp only [if_true, Bool.or_eq_true, decide_eq_true_eq, List.mem_cons]
      constructor
      · rintro ((h | h) | ⟨z, h1, h2, h3⟩)
        · exact .inl h
        · exact .inr ⟨y, .inl rfl, rfl, h⟩
        · exact .inr ⟨z, .inr h1, h2, h3⟩
      · rintro (h | ⟨z, h1 | h1, h2, h3⟩)
        · exact .inl (.inl h)
        · exact .inl (.inr h3)
        · exact .inr ⟨z, h1, h2, h3⟩
    · rw [if_neg e]
      simp only [List.mem_cons]
      constructor
      · rintro (h | ⟨z, h1, h2, h3⟩)
        · exact .inl h
        · exact .inr ⟨z, .inr h1, h2, h3⟩
      · rintro (h | ⟨z, h1 | h1, h2, h3⟩)
        · exact .inl h
        · exact absurd (by rw [← h2, h1]) e
        · exact .inr ⟨z, h1, h2, h3⟩
theorem Fin.why {n : Nat} {s : St} {x i z c : Nat} {seen : Nat → Bool} {ds r : List Nat} (hv : Inv n s) (h : Fin n s x (i + 1) seen ds) (hz : s.tr[i]? = some z) (hs : seen (z / 2) = true) (hr : s.rea (z / 2) = some c) (hl : s.lits c = z :: r) (hf : ∀ y ∈ r, Fls s.tr i y) :
    Fin n s x i (mkS s (up1 seen (z / 2) false) r) ds := by
  refine ⟨fun v hv' => ?_, fun m hm hy => ?_, h.dec, by have := h.len; omega⟩
  · rw [mkS_iff] at hv'
    rcases hv' with hv' | ⟨y, hy, h1, h2⟩
    · unfold up1 at hv'
      split at hv'
      · cases hv'
      · rename_i hne
        obtain ⟨j, y, h1, h2, h3, h4⟩ := h.at' v hv'
        by_cases e : j = i
        · subst e; rw [hz] at h2; have := Option.some.inj h2; subst this; exact absurd h3.symm hne
        · exact ⟨j, y, by omega, h2, h3, h4⟩
    · obtain ⟨j, hj, hj2⟩ := hf y hy
      have : s.lv (y / 2) = lev s.st j := lv_of hv hj2
      subst h1
      exact ⟨j, neg y, hj, hj2, neg_var y, by omega⟩
  · obtain ⟨j, y, h1, h2, h3, h4, h5⟩ := h.so m hm hy
    by_cases e : j = i
    · subst e
      rw [hz] at h2
      have := Option.some.inj h2
      subst this
      obtain ⟨w, hw, hmw⟩ := hm.why j z c hz hr
      rw [hl] at hw
      rcases List.mem_cons.1 hw with rfl | hw
      · rw [hmw] at h5; cases h5
      · obtain ⟨q, hq, hq2⟩ := hf w hw
        have hmn : m (neg w) = false := by rw [hm.mdl.neg, hmw]; rfl
        have hlq : 1 ≤ lev s.st q := by
          by_cases h0 : lev s.st q = 0
          · have := hm.zero q _ hq2 h0
            rw [hmn] at this; cases this
          · omega
        refine ⟨q, neg w, hq, hq2, hlq, ?_, hmn⟩
        rw [mkS_iff]
        exact .inr ⟨w, hw, (neg_var w).symm, by rw [neg_var, lv_of hv hq2]; omega⟩
    · refine ⟨j, y, by omega, h2, h3, ?_, h5⟩
      rw [mkS_iff]
      left
      unfold up1
      rw [if_neg (fun e2 => e (hv.ok.idx h2 hz e2))]
      exact h4
theorem Fin.done {n : Nat} {s : St} {x i : Nat} {seen : Nat → Bool} {ds : List Nat} (h : Fin n s x i seen ds) (h0 : ∀ j, j < i → lev s.st j = 0) : (∀ v, seen v = false) ∧ ∀ m, Holds s m → ¬ ∀ y ∈ x :: ds, m y = true := by
  refine ⟨fun v => ?_, fun m hm hy => ?_⟩
  · cases hv : seen v
    · rfl
    · obtain ⟨j, z, h1, _, _, h4⟩ := h.at' v hv
      have := h0 j h1; omega
  · obtain ⟨j, z, h1, _, h3, _⟩ := h.so m hm hy
    have := h0 j h1; omega
end Go.Sat
namespace Go.Proofs.YtofooamimiijlaaGreat
open Go.HL HM Go.Sat
set_option maxRecDepth 10000
set_option linter.unusedSimpArgs false
set_option linter.unusedVariables false

section
variable {H : Heap} {ow : Nat → Nat} {p n : Nat} {k : Bk} {f : Cf} {G : List (List Nat)}
set_option maxHeartbeats 2000000 in
/-- Assumptions that cannot all be true, with one that is false. -/
theorem sFinal_spec (h : RM H ow p n k f) (hr : Rl n f) (hi : Inv n f.s) (hw : WI n f.s f.C f.w) (hn : n ≤ 1000) {x : Nat} (hx : isC n x) (hxt : neg x ∈ f.tr) (hsn : ∀ v, v ≤ n → bt f.seen v = false) :
    CallF Tryz.prog 81 [hp p, iv x] H (fun v H' => ∃ sn ds, RM H' ow p n k (f.uSeen sn) ∧ (∀ v, v ≤ n → bt sn v = false) ∧ Ex H ow H' ow ∧ Vec H' 3 1 v (((x :: ds).map litI).map iv) ∧ (∀ b ∈ own v, H.size ≤ b) ∧
      (∀ y ∈ ds, f.rea (y / 2) = none ∧ ∃ j : Nat, f.tr[j]? = some y ∧ 1 ≤ lev f.st j) ∧ ds.length ≤ n ∧ ∀ m, Holds f.s m → ¬ ∀ y ∈ x :: ds, m y = true) NoP := by
  obtain ⟨x1, x2, x3, x4⟩ := isC_lt hx
  have htn : f.tr.length ≤ n := hi.ok.len
  obtain ⟨j0, hj0⟩ := List.getElem?_of_mem hxt
  have hh := half x
  obtain ⟨G1, hG1⟩ : ∃ G1, H.push (.cells #[iv (litI x)] 3) = G1 := ⟨_, rfl⟩
  have f1 : Fr [] H G1 := by rw [← hG1]; exact Fr.push
  have m1 := h.out f1 (by simp)
  have v1 : Vec G1 3 1 (.slice (some ⟨H.size, 0, none⟩) 1 1) (([x].map litI).map iv) := ⟨.inr ⟨H.size, 1, 1, [], [], rfl, by rw [← hG1]; exact Blk.new rfl, rfl, rfl, Nat.le_refl _⟩⟩
  have c10 : cellH G1 ⟨p, 10, none⟩ = some (sl k.bl (n + 1)) := m1.c 10
  have clv := m1.clvl hr hj0
  rw [neg_var] at clv
  have e01 : Ex H ow G1 ow := Ex.of (Sm.of (R := fun _ => False) f1 (by simp)) (by simp)
  refine callF_of Tryz.func81 rfl Tryz.ntmps81 Tryz.results81 (by decide) rfl ?_
  simp (disch := omega) only [go_sem, ↓cw_block, dsB_of]
  refine call_to (sLiteral_spec (x := x) (by omega)) ?_
  rintro v H1 ⟨rfl, rfl⟩
  by_cases h0 : lev f.st j0 = 0
  · rw [h0] at clv
    have clv' : cellH G1 ⟨k.bl, x / 2, none⟩ = some (iv 0) := clv
    simp (disch := omega) only [go_sem, ↓cw_block, dsB_of]
    rw [hG1]
    simp (disch := omega) only [go_sem, ↓cw_block, dsB_of, c10, hh, clv', dsB_of]
    refine fin ⟨f.seen, [], m1, hsn, e01, v1, by simp [own], by simp, by simp, fun m hm hy => ?_⟩
    have h1 := hm.zero j0 _ hj0 h0
    rw [hm.mdl.neg, hy x (by simp)] at h1
    cases h1
  · obtain ⟨H2, w2, m2, e2⟩ := m1.putSeen (x := x / 2) x3 true
    have c12 : cellH G1 ⟨p, 12, none⟩ = some (sl k.bs (n + 1)) := m1.c 12
    obtain ⟨ta, tc, et⟩ := h.trail.form
    rw [nv_len] at et
    have c14 : cellH H2 ⟨p, 14, none⟩ = some (.slice ta f.tr.length tc) := by rw [← et]; exact m2.c 14
    have htl : ((f.tr.length : Nat) : Int) - 1 = (f.tr.length : Int) - 1 := rfl
    simp (disch := omega) only [go_sem, ↓cw_block, dsB_of]
    rw [hG1]
    simp (disch := omega) only [go_sem, ↓cw_block, dsB_of, c10, c12, hh, clv, w2, c14]
    have hstn : 0 < f.st.length := by
      have := lev_le (st := f.st) (i := j0); omega
    obtain ⟨s0, hs0⟩ : ∃ s0, f.st[0]? = some s0 := ⟨_, List.getElem?_eq_getElem hstn⟩
    have hlev : ∀ j, 1 ≤ lev f.st j ↔ s0 ≤ j := by
      intro j
      have h1 := lev_ge hi.sorted (i := j) (k := 0) hstn
      have h2 : f.s.st[0]'hstn = s0 := by
        have : f.st[0]? = some (f.st[0]'hstn) := List.getElem?_eq_getElem hstn
        rw [this] at hs0; exact Option.some.inj hs0
      rw [h2] at h1
      exact h1
    have hs0l : s0 ≤ f.tr.length := hi.bound s0 (List.mem_of_getElem? hs0)
    refine loop_by (fun j ρ H3 => ∃ (i : Nat) (sn : List Bool) (seen : Nat → Bool) (ds : List Nat) (rv : Value), j = i - s0 ∧ s0 ≤ i ∧ i ≤ f.tr.length ∧ (ρ.get 0 = hp p ∧ ρ.get 5 = rv ∧ ρ.get 6 = iv ((i : Int) - 1) ∧ ρ.ds = []) ∧
      RM H3 ow p n k (f.uSeen sn) ∧ (∀ v, v ≤ n → bt sn v = seen v) ∧ Fin n f.s x i seen ds ∧ Ex H1 ow H3 ow ∧ Vec H3 3 1 rv (((x :: ds).map litI).map iv) ∧ ∀ b ∈ own rv, H1.size ≤ b) (k := f.tr.length - s0) ?_ ?_
    · refine ⟨f.tr.length, f.seen.set (x / 2) true, up1 (fun _ => false) (x / 2) true, [], _, rfl, hs0l, Nat.le_refl _, by simp (disch := omega) only [go_sem, ↓cw_block, dsB_of], m2, fun v hv => ?_, Fin.start hj0 (by show 1 ≤ lev f.st j0; omega), e01.trans e2, e2.vec v1 (by simp only [own, List.mem_singleton]; rintro b rfl; exact h.free (Nat.le_refl _)), by simp [own]⟩
      unfold Go.Sat.up1
      by_cases e : v = x / 2
      · subst e; rw [if_pos rfl, bt_set_eq (by rw [h.ns]; exact x3)]
      · rw [if_neg e, bt_set_ne (Ne.symm e)]; exact hsn v hv
    · rintro _ ρ H3 ⟨i, sn, seen, ds, rv, rfl, hsi, hil, ⟨r0, r5, r6, rd⟩, m3, hsn3, hF, e3, v3, o3⟩
      obtain ⟨sb, so, sc, es, -, ks⟩ := m3.starts.cell (nv_get hs0)
      rw [nv_len, Nat.add_zero] at *
      have c15 : cellH H3 ⟨p, 15, none⟩ = some (.slice (some ⟨sb, so, none⟩) f.st.length sc) := by
        have := m3.c 15
        rw [this]; exact congrArg some es
      have hlenF := hF.len
      have hlenF' : ds.length + i ≤ f.tr.length := hlenF
      by_cases hie : i = s0
      · subst hie
        simp (disch := omega) only [go_sem, ↓cw_block, dsB_of, r0, r5, r6, rd, c15, ks, dsB_of]
        obtain ⟨hd1, hd2⟩ := hF.done (fun j hj => by
          have := hlev j
          show lev f.st j = 0
          omega)
        exact fin ⟨sn, ds, m3, fun v hv => by rw [hsn3 v hv, hd1 v], e3, v3, o3, hF.dec, by omega, hd2⟩
      · obtain ⟨z, hz⟩ : ∃ z, f.tr[i - 1]? = some z := ⟨_, List.getElem?_eq_getElem (by omega)⟩
        have hzc : isC n z := hi.ok.code z (List.mem_of_getElem? hz)
        obtain ⟨z1, z2, z3, z4⟩ := isC_lt hzc
        have hhz := half z
        have hi1 : (i : Int) - 1 = ((i - 1 : Nat) : Int) := by omega
        have hi2 : ((i - 1 : Nat) : Int) - 1 = (((i - 1 : Nat) : Nat) : Int) - 1 := rfl
        obtain ⟨i', hi'⟩ : ∃ i', i = i' + 1 := ⟨i - 1, by omega⟩
        subst hi'
        rw [Nat.add_sub_cancel] at hz hi1
        obtain ⟨tb, to, tc', et', -, kz⟩ := m3.trail.cell (nv_get hz)
        have et2 : f.trail = .slice (some ⟨tb, to, none⟩) f.tr.length tc' := by have := et'; rw [nv_len] at this; exact this
        have c14' : cellH H3 ⟨p, 14, none⟩ = some (.slice (some ⟨tb, to, none⟩) f.tr.length tc') := by rw [← et2]; exact m3.c 14
        have c12' : cellH H3 ⟨p, 12, none⟩ = some (sl k.bs (n + 1)) := m3.c 12
        have csn := m3.cseen z3
        rw [hsn3 _ (by omega)] at csn
        rw [hi1] at r6
        cases hsz : seen (z / 2)
        · rw [hsz] at csn
          simp (disch := omega) only [go_sem, ↓cw_block, dsB_of, r0, r5, r6, rd, c15, ks, c14', kz, c12', hhz, csn]
          exact fin ⟨i' - s0, by omega, i', sn, seen, ds, rv, rfl, by omega, by omega, by simp (disch := omega) only [go_sem, ↓cw_block, dsB_of, r0, r5, r6, rd], m3, hsn3, hF.skip hz hsz, e3, v3, o3⟩
        · rw [hsz] at csn
          have c11 : cellH H3 ⟨p, 11, none⟩ = some (sl k.br (n + 1)) := m3.c 11
          obtain ⟨H4, w4, m4, e4⟩ := m3.putSeen (x := z / 2) z3 false
          have d11 : cellH H4 ⟨p, 11, none⟩ = some (sl k.br (n + 1)) := m4.c 11
          have cr := m4.crea z3
          have hsn4 : ∀ v, v ≤ n → bt (sn.set (z / 2) false) v = up1 seen (z / 2) false v := by
            intro v hv
            have hsl : sn.length = n + 1 := m3.ns
            unfold Go.Sat.up1
            by_cases e : v = z / 2
            · subst e; rw [if_pos rfl, bt_set_eq (by rw [hsl]; exact z3)]
            · rw [if_neg e, bt_set_ne (Ne.symm e)]; exact hsn3 v hv
          have v4 : Vec H4 3 1 rv (((x :: ds).map litI).map iv) := e4.vec v3 (fun b hb => h.free (o3 b hb))
          cases hre : f.rea (z / 2) with
          | none =>
            have cr' : cellH H4 ⟨k.br, z / 2, none⟩ = some (.pointer none) := by rw [cr]; show some (pn (f.rea (z / 2))) = _; rw [hre]; rfl
            simp (disch := omega) only [go_sem, ↓cw_block, dsB_of, r0, r5, r6, rd, c15, ks, c14', kz, c12', hhz, csn, w4, d11, cr']
            refine call_to (sLiteral_spec (x := z) (by omega)) ?_
            rintro v H5 ⟨rfl, rfl⟩
            simp (disch := omega) only [go_sem, ↓cw_block, dsB_of, r0, r5, r6, rd]
            refine app_lit1 T.el26 rfl v4 rfl (by simp; omega) ?_
            intro v' H6 g1 g2 g3 g4
            simp (disch := omega) only [go_sem, ↓cw_block, dsB_of, r0, r5, r6, rd]
            have e6 := (e3.trans e4).fresh g2 o3
            refine fin ⟨i' - s0, by omega, i', sn.set (z / 2) false, _, ds ++ [z], v', rfl, by omega, by omega, by simp (disch := omega) only [go_sem, ↓cw_block, dsB_of, r0, r5, r6, rd], m4.out g2 (fun b hb => h.free (o3 b hb)), hsn4, hF.dec' hi hz hsz hre, e6, ?_, fun b hb => ?_⟩
            · have : ((x :: (ds ++ [z])).map litI).map iv = ((x :: ds).map litI).map iv ++ [iv (litI z)] := by simp
              rw [this]; exact g1
            · rcases g3 b hb with h1 | h1
              · exact o3 b h1
              · have := (e3.trans e4).sm.size; omega
          | some c =>
            have cr' : cellH H4 ⟨k.br, z / 2, none⟩ = some (pv c) := by rw [cr]; show some (pn (f.rea (z / 2))) = _; rw [hre]; rfl
            have hcC : c ∈ f.C := hw.rs i' z c hz hre
            obtain ⟨t, hlt, hft⟩ := hi.why i' z c hz hre
            have hlt' : f.lits c = z :: t := hlt
            have hcl := hw.cl c hcC
            have hl2 : 2 ≤ (f.lits c).length := hcl.1
            obtain ⟨lb, lo, lc, el, hlc, d0⟩ := m4.litf (c := c) hcC hl2
            have d0' : cellH H4 ⟨c, 0, none⟩ = some (.slice (some ⟨lb, lo, none⟩) (f.lits c).length lc) := d0
            have hlc' : (f.lits c).length ≤ lc := hlc
            have htl : (f.lits c).length - 1 = t.length := by rw [hlt']; rfl
            have hlen : (f.lits c).length ≤ n := codes_len hcl.2.1 hcl.2.2
            have hne2 : ¬ lc = 1 := by omega
            simp (disch := omega) only [go_sem, ↓cw_block, dsB_of, r0, r5, r6, rd, c15, ks, c14', kz, c12', hhz, csn, w4, d11, cr', d0', hne2, if_false, htl]
            refine loop_by (fun j ρ H5 => ∃ (q : Nat) (sn5 : List Bool), j = t.length - q ∧ q ≤ t.length ∧ (ρ.get 0 = hp p ∧ ρ.get 5 = rv ∧ ρ.get 6 = iv (i' : Int) ∧ ρ.get 97 = .slice (some ⟨lb, lo + 1, none⟩) t.length (lc - 1) ∧ ρ.get 98 = iv t.length ∧ ρ.get 99 = iv q ∧ ρ.ds = []) ∧
              RM H5 ow p n k (f.uSeen sn5) ∧ (∀ v, v ≤ n → bt sn5 v = mkS f.s (up1 seen (z / 2) false) (t.take q) v) ∧ Ex H1 ow H5 ow ∧ Vec H5 3 1 rv (((x :: ds).map litI).map iv)) (k := t.length) ?_ ?_
            · exact ⟨0, sn.set (z / 2) false, rfl, by omega, by simp (disch := omega) only [go_sem, ↓cw_block, dsB_of, r0, r5, r6, rd], m4, hsn4, e3.trans e4, v4⟩
            · clear r0 r5 r6 rd c15 ks c14' kz c12' csn w4 d11 cr' d0' d0 cr
              rintro _ ρ H5 ⟨q, sn5, rfl, hqt, ⟨r0, r5, r6, r97, r98, r99, rd⟩, m5, hsn5, e5, v5⟩
              by_cases hqe : q = t.length
              · subst hqe
                rw [List.take_length] at hsn5
                simp (disch := omega) only [go_sem, ↓cw_block, dsB_of, r0, r5, r6, r97, r98, r99, rd]
                exact fin ⟨i' - s0, by omega, i', sn5, _, ds, rv, rfl, by omega, by omega, by simp (disch := omega) only [go_sem, ↓cw_block, dsB_of, r0, r5, r6, rd], m5, hsn5, hF.why hi hz hsz hre hlt hft, e5, v5, o3⟩
              · obtain ⟨y, hy⟩ : ∃ y, t[q]? = some y := ⟨_, List.getElem?_eq_getElem (by omega)⟩
                have hym := List.mem_of_getElem? hy
                have hyc : isC n y := hcl.2.1 y (by rw [hlt]; simp [hym])
                obtain ⟨y1, y2, y3, y4⟩ := isC_lt hyc
                obtain ⟨jy, hjy, hjy2⟩ := hft y hym
                have hlvy : f.s.lv (y / 2) = lev f.st jy := lv_of hi hjy2
                have hhy := half y
                have ky := m5.litc (c := c) hcC el (i := q + 1) (x := y) (by show (f.lits c)[q + 1]? = _; rw [hlt']; exact hy)
                rw [show lo + (q + 1) = lo + 1 + q by omega] at ky
                have c12' : cellH H5 ⟨p, 12, none⟩ = some (sl k.bs (n + 1)) := m5.c 12
                have c10' : cellH H5 ⟨p, 10, none⟩ = some (sl k.bl (n + 1)) := m5.c 10
                have clvy := m5.clvl ⟨hr.vals, hr.lv⟩ hjy2
                rw [neg_var] at clvy
                have csy := m5.cseen y3
                have csy' : cellH H5 ⟨k.bs, y / 2, none⟩ = some (.bool (mkS f.s (up1 seen (z / 2) false) (t.take q) (y / 2))) := by rw [← hsn5 _ (by omega)]; exact csy
                have hq1 : (q : Int) + 1 = ((q + 1 : Nat) : Int) := by omega
                have htk : t.take (q + 1) = t.take q ++ [y] := by rw [List.take_add_one, hy]; rfl
                obtain ⟨H6, w6, m6, e6⟩ := m5.putSeen (x := y / 2) y3 (mkS f.s (up1 seen (z / 2) false) (t.take q) (y / 2) || decide (0 < f.s.lv (y / 2)))
                have hsn6 : ∀ v, v ≤ n → bt (sn5.set (y / 2) (mkS f.s (up1 seen (z / 2) false) (t.take q) (y / 2) || decide (0 < f.s.lv (y / 2)))) v = mkS f.s (up1 seen (z / 2) false) (t.take (q + 1)) v := by
                  intro v hv
                  have hsl : sn5.length = n + 1 := m5.ns
                  rw [htk, mkS_app]
                  unfold Go.Sat.up1
                  by_cases e : v = y / 2
                  · subst e; rw [if_pos rfl, bt_set_eq (by rw [hsl]; exact y3)]
                  · rw [if_neg e, bt_set_ne (Ne.symm e)]; exact hsn5 v hv
                have nxt : ∀ ρ' : En, (ρ'.get 0 = hp p ∧ ρ'.get 5 = rv ∧ ρ'.get 6 = iv (i' : Int) ∧ ρ'.get 97 = .slice (some ⟨lb, lo + 1, none⟩) t.length (lc - 1) ∧ ρ'.get 98 = iv t.length ∧ ρ'.get 99 = iv ((q + 1 : Nat) : Int) ∧ ρ'.ds = []) → ∃ (q' : Nat) (sn5 : List Bool), t.length - (q + 1) = t.length - q' ∧ q' ≤ t.length ∧ (ρ'.get 0 = hp p ∧ ρ'.get 5 = rv ∧ ρ'.get 6 = iv (i' : Int) ∧ ρ'.get 97 = .slice (some ⟨lb, lo + 1, none⟩) t.length (lc - 1) ∧ ρ'.get 98 = iv t.length ∧ ρ'.get 99 = iv q' ∧ ρ'.ds = []) ∧
                    RM H6 ow p n k (f.uSeen sn5) ∧ (∀ v, v ≤ n → bt sn5 v = mkS f.s (up1 seen (z / 2) false) (t.take q') v) ∧ Ex H1 ow H6 ow ∧ Vec H6 3 1 rv (((x :: ds).map litI).map iv) :=
                  fun ρ' hρ => ⟨q + 1, _, rfl, by omega, hρ, m6, hsn6, e5.trans e6, e6.vec v5 (fun b hb => h.free (o3 b hb))⟩
                cases hm : mkS f.s (up1 seen (z / 2) false) (t.take q) (y / 2)
                · rw [hm] at csy' w6
                  rw [hlvy] at w6
                  have hd : decide (0 < lev f.st jy) = decide ((0 : Int) < ((lev f.st jy : Nat) : Int)) := decide_eq_decide.2 (by omega)
                  have hd' : (false || decide (0 < lev f.s.st jy)) = decide ((0 : Int) < ((lev f.st jy : Nat) : Int)) := hd
                  have w6' : wr H5 ⟨k.bs, y / 2, none⟩ (.bool (decide ((0 : Int) < ((lev f.st jy : Nat) : Int)))) = some H6 := by rw [← hd]; exact w6
                  simp (disch := omega) only [go_sem, ↓cw_block, dsB_of, r0, r5, r6, r97, r98, r99, rd, ky]
                  refine draw0 (lk [(0, true), (1, true), (2, true), (3, true), (4, true), (5, true), (6, true), (7, true), (8, true), (9, true), (10, true), (11, true), (12, true), (13, true), (14, true), (15, true), (16, true), (17, true), (18, true), (19, true), (20, true), (21, true), (22, true), (23, true), (24, true), (25, true), (26, true), (27, true), (28, true)] (.act 29 .fin .non)) T.mixed ?_
                  simp (disch := omega) only [go_sem, ↓cw_block, dsB_of, r0, r5, r6, r97, r98, r99, rd, ky, c12', c10', hhy, csy', clvy, w6']
                  exact fin ⟨t.length - (q + 1), by omega, nxt _ (by simp (disch := omega) only [go_sem, ↓cw_block, dsB_of, r0, r5, r6, r97, r98, r99, rd, hq1])⟩
                · rw [hm] at csy' w6
                  simp only [Bool.true_or] at w6
                  simp (disch := omega) only [go_sem, ↓cw_block, dsB_of, r0, r5, r6, r97, r98, r99, rd, ky]
                  refine draw0 (lk [(0, true), (1, true), (2, true), (3, true), (4, true), (5, true), (6, true), (7, true), (8, true), (9, true), (10, true), (11, true), (12, true), (13, true), (14, true), (15, true), (16, true), (17, true), (18, true), (19, true), (20, true), (21, true), (22, true), (23, true), (24, true), (25, true), (26, true), (27, true), (28, true)] (.act 29 .fin .non)) T.mixed ?_
                  simp (disch := omega) only [go_sem, ↓cw_block, dsB_of, r0, r5, r6, r97, r98, r99, rd, ky, c12', c10', hhy, csy', clvy, w6]
                  exact fin ⟨t.length - (q + 1), by omega, nxt _ (by simp (disch := omega) only [go_sem, ↓cw_block, dsB_of, r0, r5, r6, r97, r98, r99, rd, hq1])⟩
end
end Go.Proofs.YtofooamimiijlaaGreat

namespace Go.Proofs.YtofooamimiijlaaGreat
open Go.HL HM Go.Sat
set_option maxRecDepth 10000
set_option linter.unusedSimpArgs false
set_option linter.unusedVariables false

section
variable {H : Heap} {ow : Nat → Nat} {p n : Nat} {k : Bk} {f : Cf} {G : List (List Nat)}
/-- A model, as far as it has been kept. -/
def mdl (n : Nat) (s : St) (i : Nat) : List Bool := (List.range n).map fun j => decide (j < i) && decide (0 < s.val (2 * j + 2))
theorem mdl_set {s : St} {i : Nat} : (mdl n s i).set i (decide (0 < s.val (2 * i + 2))) = mdl n s (i + 1) := by
  apply List.ext_getElem (by simp [mdl])
  intro j h1 h2
  rw [List.getElem_set]
  simp only [mdl, List.getElem_map, List.getElem_range]
  by_cases e : i = j
  · subst e; simp
  · rw [if_neg e]
    have : decide (j < i) = decide (j < i + 1) := decide_eq_decide.2 (by omega)
    rw [this]
theorem sKeep_spec (h : RM H ow p n k f) (hr : Rl n f) (hi : Inv n f.s) (hn : n ≤ 1000) :
    CallF Tryz.prog 84 [hp p] H (fun v H' => v = .tuple #[] ∧ ∃ w, RM H' ow p n k (f.uModel w) ∧ Ex H ow H' ow ∧ Vec H' 4 1 w ((mdl n f.s n).map Value.bool) ∧ ∀ b ∈ own w, H.size ≤ b) NoP := by
  obtain ⟨G1, hG1⟩ : ∃ G1, H.push (.cells (List.replicate n (.bool false)).toArray 4) = G1 := ⟨_, rfl⟩
  have f1 : Fr [] H G1 := by rw [← hG1]; exact Fr.push
  have hb1 : Blk G1 H.size 4 ((mdl n f.s 0).map Value.bool) := by
    rw [← hG1]
    have : (mdl n f.s 0).map Value.bool = List.replicate n (.bool false) := by
      apply List.ext_getElem (by simp [mdl])
      intro j h1 h2
      simp [mdl]
    rw [this]; exact Blk.new rfl
  have m1 := h.out f1 (by simp)
  obtain ⟨H2, w2, m2, e2⟩ := m1.putModel (.slice (some ⟨H.size, 0, none⟩) n n)
  have e01 : Ex H ow G1 ow := Ex.of (Sm.of (R := fun _ => False) f1 (by simp)) (by simp)
  have c0 : cellH H ⟨p, 0, none⟩ = some (iv n) := h.c 0
  have d0 : cellH H2 ⟨p, 0, none⟩ = some (iv n) := m2.c 0
  have hfr : ow H.size = 0 := h.free (Nat.le_refl _)
  have hb2 := e2.blk hb1 hfr
  refine callF_of Tryz.func84 rfl Tryz.ntmps84 Tryz.results84 (by decide) rfl ?_
  simp (disch := omega) only [go_sem, ↓cw_block, dsB_of, c0, hG1, w2, d0]
  refine loop_by (fun j ρ H3 => ∃ i : Nat, j = n - i ∧ i ≤ n ∧ (ρ.get 0 = hp p ∧ ρ.get 14 = iv n ∧ ρ.get 15 = iv i ∧ ρ.ds = []) ∧ RM H3 ow p n k (f.uModel (.slice (some ⟨H.size, 0, none⟩) n n)) ∧ Ex H ow H3 ow ∧ Blk H3 H.size 4 ((mdl n f.s i).map Value.bool)) (k := n) ?_ ?_
  · exact ⟨0, rfl, by omega, by simp (disch := omega) only [go_sem, ↓cw_block, dsB_of], m2, e01.trans e2, hb2⟩
  · rintro _ ρ H3 ⟨i, rfl, hin, ⟨r0, r14, r15, rd⟩, m3, e3, b3⟩
    by_cases hie : i = n
    · subst hie
      simp (disch := omega) only [go_sem, ↓cw_block, dsB_of, r0, r14, r15, rd, dsB_of]
      refine fin ⟨rfl, _, m3, e3, ⟨.inr ⟨H.size, i, i, [], [], rfl, by simpa using b3, by simp [mdl], by simp, Nat.le_refl _⟩⟩, by simp [own]⟩
    · have c5 : cellH H3 ⟨p, 5, none⟩ = some (.slice (some ⟨H.size, 0, none⟩) n n) := m3.c 5
      have c9 : cellH H3 ⟨p, 9, none⟩ = some (sl k.bv (2 * n + 2)) := m3.c 9
      have cv := m3.cval ⟨hr.vals, hr.lv⟩ (x := 2 * i + 2) (by omega)
      have hi2 : 2 * (i : Int) + 2 = ((2 * i + 2 : Nat) : Int) := by omega
      have hi1 : (i : Int) + 1 = ((i + 1 : Nat) : Int) := by omega
      have w4 := b3.wr (i := i) (by simp [mdl]; omega) (.bool (decide (0 < f.s.val (2 * i + 2))))
      have b4 := b3.set i (.bool (decide (0 < f.s.val (2 * i + 2))))
      rw [← List.map_set, mdl_set] at b4
      generalize hH4 : setH H3 ⟨H.size, i, none⟩ (.bool (decide (0 < f.s.val (2 * i + 2)))) = H4 at w4 b4
      have f4 : Fr [H.size] H3 H4 := by rw [← hH4]; exact Fr.set (by simp)
      have cv' : cellH H3 ⟨k.bv, 2 * i + 2, none⟩ = some (.int .i8 (f.s.val (2 * i + 2))) := cv
      simp (disch := omega) only [go_sem, ↓cw_block, dsB_of, r0, r14, r15, rd]
      refine draw0 (lk [(0, true), (1, true), (2, true), (3, true), (4, true), (5, true), (6, true), (7, true), (8, true), (9, true), (10, true), (11, true), (12, true), (13, true), (14, true), (15, true), (16, true)] (.act 17 .fin .non)) T.mixed ?_
      simp (disch := omega) only [go_sem, ↓cw_block, dsB_of, r0, r14, r15, rd, c5, c9, hi2, cv', w4]
      exact fin ⟨n - (i + 1), by omega, i + 1, rfl, by omega, by simp (disch := omega) only [go_sem, ↓cw_block, dsB_of, r0, r14, r15, rd, hi1], m3.out f4 (by simpa using hfr), e3.fresh f4 (by simp), b4⟩
/-- Levels and assumptions. -/
structure LA (xs st tr : List Nat) : Prop where
  len : st.length ≤ xs.length + tr.length
  lb : ∀ (q : Nat) (s : Nat), st[q]? = some s → q ≤ xs.length + s
  asu : ∀ (i x : Nat), i < st.length → xs[i]? = some x → ∃ j : Nat, tr[j]? = some x ∧ lev st j ≤ i + 1
theorem LA.zero {xs tr : List Nat} : LA xs [] tr := ⟨by simp, fun q s h => by simp at h, fun i x h => by simp at h⟩
theorem LA.push {xs st tr : List Nat} (h : LA xs st tr) {y : Nat} : LA xs st (tr ++ [y]) :=
  ⟨by have := h.len; simp; omega, h.lb, fun i x h1 h2 => by
    obtain ⟨j, h3, h4⟩ := h.asu i x h1 h2
    exact ⟨j, push_old h3, h4⟩⟩
theorem LA.pre {xs st tr tr' : List Nat} (h : LA xs st tr) (hp : tr <+: tr') : LA xs st tr' := by
  obtain ⟨t, rfl⟩ := hp
  refine ⟨by have := h.len; simp; omega, h.lb, fun i x h1 h2 => ?_⟩
  obtain ⟨j, h3, h4⟩ := h.asu i x h1 h2
  exact ⟨j, by rw [List.getElem?_append_left (List.getElem?_eq_some_iff.1 h3).1]; exact h3, h4⟩
theorem LA.cut {xs : List Nat} {s : St} (hv : Inv n s) (h : LA xs s.st s.tr) {q : Nat} (hq : q < s.st.length) : LA xs (s.st.take q) (s.tr.take s.st[q]) := by
  have hb : s.st[q] ≤ s.tr.length := hv.bound _ (List.getElem_mem hq)
  refine ⟨?_, fun j z hj => ?_, fun i x h1 h2 => ?_⟩
  · have := h.lb q s.st[q] (List.getElem?_eq_getElem hq)
    simp only [List.length_take]; omega
  · rw [List.getElem?_take] at hj
    split at hj
    · exact h.lb j z hj
    · cases hj
  · simp only [List.length_take] at h1
    obtain ⟨j, h3, h4⟩ := h.asu i x (by omega) h2
    have hl := lev_ge hv.sorted (i := j) hq
    have hj : j < s.st[q] := by omega
    exact ⟨j, by rw [List.getElem?_take, if_pos hj]; exact h3, by rw [lev_take hv.sorted hq hj]; exact h4⟩
theorem LA.open' {xs st tr : List Nat} (h : LA xs st tr) (hlev : ∀ j, j < tr.length → lev (st ++ [tr.length]) j = lev st j)
    (ha : ∀ x, xs[st.length]? = some x → ∃ j : Nat, tr[j]? = some x ∧ lev (st ++ [tr.length]) j ≤ st.length + 1) (hl : st.length + 1 ≤ xs.length + tr.length) : LA xs (st ++ [tr.length]) tr := by
  refine ⟨by simpa using hl, fun q s hq => ?_, fun i x h2 h3 => ?_⟩
  · rcases Nat.lt_trichotomy q st.length with h4 | h4 | h4
    · rw [List.getElem?_append_left h4] at hq; exact h.lb q s hq
    · subst h4; simp at hq; subst hq; exact h.len
    · rw [List.getElem?_eq_none (by simp; omega)] at hq; cases hq
  · simp only [List.length_append, List.length_singleton] at h2
    by_cases h4 : i < st.length
    · obtain ⟨j, h5, h6⟩ := h.asu i x h4 h3
      exact ⟨j, h5, by rw [hlev j (List.getElem?_eq_some_iff.1 h5).1]; exact h6⟩
    · have : i = st.length := by omega
      subst this; exact ha x h3
theorem SOK.opened (h : SOK H ow p n k f G) (hh : f.head = f.tr.length) {H' : Heap} {ow' : Nat → Nat} {v : Value} (m' : RM H' ow' p n k (f.uStarts v (f.st ++ [f.tr.length]))) : SOK H' ow' p n k (f.uStarts v (f.st ++ [f.tr.length])) G := by
  refine ⟨m', ⟨h.r.vals, fun i x hx => ?_⟩, h.si.open' hh, h.hin, h.sn, h.stp, h.n⟩
  have hx' : f.tr[i]? = some x := hx
  have e : lev (f.st ++ [f.tr.length]) i = lev f.st i := lev_open (s := f.s) (List.getElem?_eq_some_iff.1 hx').1
  show f.lvls[x / 2]? = some (lev (f.st ++ [f.tr.length]) i)
  rw [e]; exact h.r.lv i x hx'
/-- The answer of a step that decides. -/
def DecA (H : Heap) (ow : Nat → Nat) (p n : Nat) (k : Bk) (f : Cf) (G : List (List Nat)) (xs : List Nat) (v : Value) (H' : Heap) : Prop :=
  ∃ ow' f', SOK H' ow' p n k f' G ∧ Ex H ow H' ow' ∧ Gw f f' 0 ∧ f.s.N n ≤ f'.s.N n ∧ f.tr <+: f'.tr ∧ f'.ls = f.ls ∧ LA xs f'.st f'.tr ∧ f.st <+: f'.st
theorem gw_st {f : Cf} {v : Value} {l : List Nat} : Gw f (f.uStarts v l) 0 := ⟨rfl, Nat.le_refl _, Nat.le_refl _, Nat.le_refl _⟩
theorem gw_ord {f : Cf} {m : Nat} {os pl ac : List Int} : Gw f (f.uOrder m os pl ac) 0 := ⟨rfl, Nat.le_refl _, Nat.le_refl _, Nat.le_refl _⟩
theorem gw_push {f : Cf} {x : Nat} {w : Option Nat} {vs : List Int} {lv : List Nat} {la : List Bool} {v : Value} : Gw f (f.push x w vs lv la v) 0 := ⟨rfl, Nat.le_refl _, Nat.le_refl _, Nat.le_refl _⟩
set_option maxHeartbeats 4000000 in
theorem sDecide_spec (h : SOK H ow p n k f G) (hh : f.head = f.tr.length) {xs : List Nat} {lv : Value} (hv : Vec H 3 1 lv (nv xs)) (hlv : ∀ b ∈ own lv, ow b = 0) (hxs : ∀ x ∈ xs, isC n x) (hxl : xs.length ≤ 1000) (hla : LA xs f.st f.tr) :
    CallF Tryz.prog 65 [hp p, lv] H (fun v H' =>
      (v = .tuple #[iv 0, .slice none 0 0] ∧ ∃ ow' f', SOK H' ow' p n k f' G ∧ Ex H ow H' ow' ∧ Gw f f' 0 ∧ f.s.N n ≤ f'.s.N n ∧ f'.ls = f.ls ∧ LA xs f'.st f'.tr ∧ (∃ y, f'.tr = f.tr ++ [y] ∧ y ∉ f.tr ∧ neg y ∉ f.tr ∧ f'.head = f.tr.length ∧ (∀ q ∈ f'.st, q ∈ f.st ∨ q = f.tr.length) ∧ (f'.st.length ≤ xs.length → xs[f'.st.length - 1]? = some y))) ∨
      (v = .tuple #[iv 1, .slice none 0 0] ∧ ∃ ow' f' w, RM H' ow' p n k (f'.uModel w) ∧ SOK H' ow' p n k (f'.uModel w) G ∧ Ex H ow H' ow' ∧ Gw f f' 0 ∧ f'.ls = f.ls ∧ f'.tr = f.tr ∧ f'.head = f'.tr.length ∧ LA xs f'.st f'.tr ∧ xs.length ≤ f'.st.length ∧ (∀ x, isC n x → x ∈ f.tr ∨ neg x ∈ f.tr) ∧ Vec H' 4 1 w ((mdl n f.s n).map Value.bool) ∧ (∀ b ∈ own w, H.size ≤ b ∧ ow' b = 0)) ∨
      (∃ core, v = .tuple #[iv 2, core] ∧ ∃ ow' f' x ds, SOK H' ow' p n k f' G ∧ Ex H ow H' ow' ∧ Gw f f' 0 ∧ f'.ls = f.ls ∧ f'.tr = f.tr ∧ f'.head = f'.tr.length ∧ LA xs f'.st f'.tr ∧ x ∈ xs ∧ neg x ∈ f.tr ∧ Vec H' 3 1 core (((x :: ds).map litI).map iv) ∧ (∀ b ∈ own core, H.size ≤ b ∧ ow' b = 0) ∧ ds.length ≤ n ∧ f'.st.length < xs.length ∧
        (∀ y ∈ ds, f'.rea (y / 2) = none ∧ ∃ j : Nat, f'.tr[j]? = some y ∧ 1 ≤ lev f'.st j) ∧ f'.rea = f.rea ∧ (∀ q ∈ f'.st, q ∈ f.st ∨ q = f.tr.length) ∧ ∀ m, Holds f'.s m → ¬ ∀ y ∈ x :: ds, m y = true)) NoP := by
  obtain ⟨la, lc, el⟩ : ∃ la lc, lv = .slice la xs.length lc := by
    obtain ⟨a, len, c', e, e2⟩ := hv.len
    rw [nv_len, Nat.mul_one] at e2; subst e2
    exact ⟨a, c', e⟩
  subst el
  refine callF_of Tryz.func65 rfl Tryz.ntmps65 Tryz.results65 (by decide) rfl ?_
  simp (disch := omega) only [go_sem, dsB_of]
  refine cut_at (fun ρ H1 => ∃ ow1 f1, (ρ.get 0 = hp p ∧ ρ.ds = []) ∧ SOK H1 ow1 p n k f1 G ∧ f1.head = f1.tr.length ∧ LA xs f1.st f1.tr ∧ f1.tr = f.tr ∧ f1.lrn = f.lrn ∧ f1.ls = f.ls ∧ f1.C = f.C ∧ f1.key5 = f.key5 ∧ f.s.N n ≤ f1.s.N n ∧ Ex H ow H1 ow1 ∧ xs.length ≤ f1.st.length ∧ f1.rea = f.rea ∧ (∀ q ∈ f1.st, q ∈ f.st ∨ q = f.tr.length)) ?_ ?_
  · simp (disch := omega) only [go_sem, ↓cw_block, dsB_of]
    refine loop_by (fun j ρ H1 => ∃ ow1 f1, j = xs.length - f1.st.length ∧ (ρ.get 0 = hp p ∧ ρ.get 1 = .slice la xs.length lc ∧ ρ.ds = []) ∧ SOK H1 ow1 p n k f1 G ∧ f1.head = f1.tr.length ∧ LA xs f1.st f1.tr ∧ f1.tr = f.tr ∧ f1.lrn = f.lrn ∧ f1.ls = f.ls ∧ f1.C = f.C ∧ f1.key5 = f.key5 ∧ f.s.N n ≤ f1.s.N n ∧ Ex H ow H1 ow1 ∧ f1.rea = f.rea ∧ (∀ q ∈ f1.st, q ∈ f.st ∨ q = f.tr.length)) (k := xs.length - f.st.length) ?_ ?_
    · exact ⟨ow, f, rfl, by simp (disch := omega) only [go_sem, ↓cw_block, dsB_of], h, hh, hla, rfl, rfl, rfl, rfl, rfl, Nat.le_refl _, Ex.refl, rfl, fun q hq => .inl hq⟩
    · rintro _ ρ H1 ⟨ow1, f1, rfl, ⟨r0, r1, rd⟩, s1, hh1, la1, e1, e2, e3, e4, e5, e6, ex1, e7, e8⟩
      have e9 : ∀ q ∈ f1.st ++ [f1.tr.length], q ∈ f.st ∨ q = f.tr.length := fun q hq => by
        rcases List.mem_append.1 hq with h | h
        · exact e8 q h
        · exact .inr (by rw [List.mem_singleton.1 h, e1])
      have v1 := ex1.vec hv hlv
      obtain ⟨sa, sc, es⟩ := s1.m.starts.form
      rw [nv_len] at es
      have c15 : cellH H1 ⟨p, 15, none⟩ = some (.slice sa f1.st.length sc) := by rw [← es]; exact s1.m.c 15
      have gw1 : Gw f f1 0 := ⟨e5, by rw [e3]; exact Nat.le_refl _, by rw [e2]; exact Nat.le_refl _, by rw [e4]; exact Nat.le_refl _⟩
      by_cases hlt : f1.st.length < xs.length
      · obtain ⟨x, hx⟩ : ∃ x, xs[f1.st.length]? = some x := ⟨_, List.getElem?_eq_getElem hlt⟩
        have hxm := List.mem_of_getElem? hx
        have hxc := hxs x hxm
        obtain ⟨x1, x2, x3, x4⟩ := isC_lt hxc
        obtain ⟨b, o, cap, e, kx⟩ := vec_cell v1 (nv_get hx)
        simp only [Value.slice.injEq] at e
        obtain ⟨rfl, -, rfl⟩ := e
        have c9 : cellH H1 ⟨p, 9, none⟩ = some (sl k.bv (2 * n + 2)) := s1.m.c 9
        have cv := s1.m.cval s1.r x1
        by_cases hneg : f1.s.val x < 0
        · simp (disch := omega) only [go_sem, ↓cw_block, dsB_of, r0, r1, rd, c15, kx, c9, cv]
          have hnx := (val_neg s1.si.inv).1 hneg
          refine call_to (sFinal_spec s1.m s1.r s1.si.inv s1.si.wi s1.n hxc hnx s1.sn) ?_
          rintro v H2 ⟨sn, ds, m2, hsn2, e22, v2, o2, hd, hdl, hso⟩
          simp (disch := omega) only [go_sem, ↓cw_block, dsB_of, r0, r1, rd, dsB_of]
          refine fin (.inr (.inr ⟨v, rfl, ow1, f1.uSeen sn, x, ds, ⟨m2, ⟨s1.r.vals, s1.r.lv⟩, s1.si, s1.hin, hsn2, s1.stp, s1.n⟩, ex1.trans e22, ⟨gw1.key, gw1.ls, gw1.lrn, gw1.C⟩, e3, e1, hh1, la1, hxm, by rw [← e1]; exact hnx, v2, fun b hb => ⟨by have := o2 b hb; have := ex1.sm.size; omega, s1.m.free (o2 b hb)⟩, hdl, hlt, hd, e7, e8, hso⟩))
        · have hnx : neg x ∉ f1.tr := fun e => hneg ((val_neg s1.si.inv).2 e)
          have htn : f1.tr.length ≤ n := s1.si.inv.ok.len
          have hst1 : f1.st.length ≤ 1000 := by omega
          have hn1 := s1.n
          simp (disch := omega) only [go_sem, ↓cw_block, dsB_of, r0, r1, rd, c15, kx, c9, cv]
          refine call_to (sOpen_spec s1.m (by omega) (by omega)) ?_
          rintro v H2 ⟨rfl, ow2, sv, m2, e22⟩
          have s2 := s1.opened hh1 m2
          have c9' : cellH H2 ⟨p, 9, none⟩ = some (sl k.bv (2 * n + 2)) := m2.c 9
          have cv' : cellH H2 ⟨k.bv, x, none⟩ = some (.int .i8 (f1.s.val x)) := m2.cval s2.r x1
          have hlev : ∀ j, j < f1.tr.length → lev (f1.st ++ [f1.tr.length]) j = lev f1.st j := fun j hj => lev_open (s := f1.s) hj
          have hlend : lev (f1.st ++ [f1.tr.length]) f1.tr.length = f1.st.length + 1 := by
            have := lev_end s2.si.inv
            have h2 : lev (f1.st ++ [f1.tr.length]) f1.tr.length = (f1.st ++ [f1.tr.length]).length := this
            rw [h2]; simp
          by_cases hz : f1.s.val x = 0
          · have hxt := (val_zero.1 hz).1
            rw [hz] at cv'
            simp (disch := omega) only [go_sem, ↓cw_block, dsB_of, r0, r1, rd, c9', cv']
            have hdec := s1.si.decide hh1 hxc hxt hnx
            refine call_to (sSet_spec m2 s2.r s2.si.inv s1.n hxc hxt hnx (by show (f1.st ++ [f1.tr.length]).length ≤ _; simp; omega) none) ?_
            rintro v H3 ⟨rfl, ow3, vs3, lv3, la3, v3, m3, r3, e33⟩
            simp (disch := omega) only [go_sem, ↓cw_block, dsB_of, r0, r1, rd, dsB_of]
            refine fin (.inl ⟨rfl, ow3, _, ⟨m3, r3, hdec, ?_, s1.sn, s1.stp, s1.n⟩, ex1.trans (e22.trans e33), ⟨gw1.key, gw1.ls, gw1.lrn, gw1.C⟩, ?_, e3, ?_, x, ?_, by rw [← e1]; exact hxt, by rw [← e1]; exact hnx, (show f1.head = _ by rw [hh1, e1]), e9, ?_⟩)
            · exact s1.hin.pre (f' := ((f1.uStarts sv (f1.st ++ [f1.tr.length])).push x none vs3 lv3 la3 v3)) (List.prefix_append _ _) (fun v => Iff.rfl)
            · exact Nat.le_trans e6 (Nat.le_trans (N_open (n := n) (s := f1.s)) (N_push (s := f1.s.open') (x := x) (w := none)))
            · show LA xs (f1.st ++ [f1.tr.length]) (f1.tr ++ [x])
              have hla := la1.len
              refine ⟨by simp; omega, fun q s hq => ?_, fun i z h2 h3 => ?_⟩
              · rcases Nat.lt_trichotomy q f1.st.length with h4 | h4 | h4
                · rw [List.getElem?_append_left h4] at hq; exact la1.lb q s hq
                · subst h4; simp at hq; subst hq; exact hla
                · rw [List.getElem?_eq_none (by simp; omega)] at hq; cases hq
              · simp only [List.length_append, List.length_singleton] at h2
                by_cases h4 : i < f1.st.length
                · obtain ⟨j, h5, h6⟩ := la1.asu i z h4 h3
                  exact ⟨j, push_old h5, by rw [hlev j (List.getElem?_eq_some_iff.1 h5).1]; exact h6⟩
                · have : i = f1.st.length := by omega
                  subst this
                  rw [hx] at h3
                  have := Option.some.inj h3
                  subst this
                  exact ⟨f1.tr.length, by simp, by rw [hlend]; exact Nat.le_refl _⟩
            · show f1.tr ++ [x] = f.tr ++ [x]
              rw [e1]
            · intro _
              show xs[(f1.st ++ [f1.tr.length]).length - 1]? = some x
              simp only [List.length_append, List.length_singleton, Nat.add_sub_cancel]
              exact hx
          · have hxt : x ∈ f1.tr := by
              have : 0 < f1.s.val x := by
                have h1 : f1.s.val x = 1 ∨ f1.s.val x = -1 ∨ f1.s.val x = 0 := by
                  unfold St.val
                  split
                  · exact .inl rfl
                  · split
                    · exact .inr (.inl rfl)
                    · exact .inr (.inr rfl)
                omega
              exact val_pos.1 this
            simp (disch := omega) only [go_sem, ↓cw_block, dsB_of, r0, r1, rd, c9', cv']
            obtain ⟨jx, hjx⟩ := List.getElem?_of_mem hxt
            have la2 : LA xs (f1.st ++ [f1.tr.length]) f1.tr := by
              refine la1.open' hlev (fun z hz2 => ?_) (by omega)
              rw [hx] at hz2
              have := Option.some.inj hz2
              subst this
              refine ⟨jx, hjx, ?_⟩
              rw [hlev jx (List.getElem?_eq_some_iff.1 hjx).1]
              have := lev_le (st := f1.st) (i := jx)
              omega
            refine fin ⟨xs.length - (f1.st.length + 1), by omega, ow2, f1.uStarts sv (f1.st ++ [f1.tr.length]), by show _ = xs.length - (f1.st ++ [f1.tr.length]).length; simp, by simp (disch := omega) only [go_sem, ↓cw_block, dsB_of, r0, r1, rd], s2, hh1, la2, e1, e2, e3, e4, e5, Nat.le_trans e6 (N_open (n := n) (s := f1.s)), ex1.trans e22, e7, e9⟩
      · simp (disch := omega) only [go_sem, ↓cw_block, dsB_of, r0, r1, rd, c15]
        exact fin ⟨ow1, f1, by simp (disch := omega) only [go_sem, ↓cw_block, dsB_of, r0, rd], s1, hh1, la1, e1, e2, e3, e4, e5, e6, ex1, by omega, e7, e8⟩
  · rintro ρ H1 ⟨ow1, f1, ⟨r0, rd⟩, s1, hh1, la1, e1, e2, e3, e4, e5, e6, ex1, hxs1, e7, e8⟩
    simp (disch := omega) only [go_sem, ↓cw_block, dsB_of, r0, rd]
    refine loop_by (fun j ρ H2 => ∃ ow2 f2, j = f2.m ∧ (ρ.get 0 = hp p ∧ ρ.ds = []) ∧ SOK H2 ow2 p n k f2 G ∧ f2.head = f2.tr.length ∧ LA xs f2.st f2.tr ∧ f2.tr = f.tr ∧ f2.lrn = f.lrn ∧ f2.ls = f.ls ∧ f2.C = f.C ∧ f2.key5 = f.key5 ∧ f.s.N n ≤ f2.s.N n ∧ Ex H ow H2 ow2 ∧ xs.length ≤ f2.st.length ∧ (∀ q ∈ f2.st, q ∈ f.st ∨ q = f.tr.length)) (k := f1.m) ?_ ?_
    · exact ⟨ow1, f1, rfl, by simp (disch := omega) only [go_sem, ↓cw_block, dsB_of, r0, rd], s1, hh1, la1, e1, e2, e3, e4, e5, e6, ex1, hxs1, e8⟩
    · clear r0 rd s1 hh1 la1 e1 e2 e3 e4 e5 e6 ex1 hxs1 e7 e8 f1 ow1
      rintro _ ρ H2 ⟨ow2, f2, rfl, ⟨r0, rd⟩, s2, hh2, la2, e1, e2, e3, e4, e5, e6, ex2, hxs2, e8⟩
      have e9 : ∀ q ∈ f2.st ++ [f2.tr.length], q ∈ f.st ∨ q = f.tr.length := fun q hq => by
        rcases List.mem_append.1 hq with h | h
        · exact e8 q h
        · exact .inr (by rw [List.mem_singleton.1 h, e1])
      have gw2 : Gw f f2 0 := ⟨e5, by rw [e3]; exact Nat.le_refl _, by rw [e2]; exact Nat.le_refl _, by rw [e4]; exact Nat.le_refl _⟩
      have c7 : cellH H2 ⟨p, 7, none⟩ = some (pv k.ho) := s2.m.c 7
      have hg := s2.m.order.hg
      have hn := s2.n
      by_cases hm0 : f2.m = 0
      · rw [hm0] at hg
        have hall : ∀ x, isC n x → x ∈ f2.tr ∨ neg x ∈ f2.tr := by
          intro x hx
          obtain ⟨x1, x2, x3, x4⟩ := isC_lt hx
          by_cases hno : ∀ z ∈ f2.tr, z / 2 ≠ x / 2
          · exfalso
            have h1 := s2.hin (x / 2) x4 (by omega) hno
            rcases hg.ok.pos (x / 2) x4 (by omega) with h2 | ⟨h2, h3, _⟩
            · exact h1 h2
            · omega
          · simp only [ne_eq, Classical.not_forall, Decidable.not_not] at hno
            obtain ⟨z, hz, e⟩ := hno
            rcases var_eq e with rfl | rfl
            · exact .inl hz
            · right; exact hz
        simp (disch := omega) only [go_sem, ↓cw_block, dsB_of, r0, rd, c7]
        refine call_to (next_none hg) ?_
        rintro v H3 ⟨rfl, rfl⟩
        simp (disch := omega) only [go_sem, ↓cw_block, dsB_of, r0, rd]
        refine call_to (sKeep_spec s2.m s2.r s2.si.inv s2.n) ?_
        rintro v H3 ⟨rfl, w, m3, e33, v3, o3⟩
        simp (disch := omega) only [go_sem, ↓cw_block, dsB_of, r0, rd, dsB_of]
        have hval : f2.s.val = f.s.val := by
          funext x
          unfold St.val
          have : f2.s.tr = f.s.tr := e1
          rw [this]
        have hmdl : mdl n f2.s n = mdl n f.s n := by unfold mdl; rw [hval]
        rw [hmdl] at v3
        exact fin (.inr (.inl ⟨rfl, ow2, f2, w, m3, ⟨m3, ⟨s2.r.vals, s2.r.lv⟩, s2.si, s2.hin, s2.sn, s2.stp, s2.n⟩, ex2.trans e33, gw2, e3, e1, hh2, la2, hxs2, by rw [← e1]; exact hall, v3, fun b hb => ⟨by have := o3 b hb; have := ex2.sm.size; omega, s2.m.free (o3 b hb)⟩⟩))
      · have hrng := hg.ok.rng 0 (by omega)
        obtain ⟨v, hv0⟩ : ∃ v : Nat, (nt f2.os 0) = v := ⟨(nt f2.os 0).toNat, by omega⟩
        have hv1 : 1 ≤ v ∧ v ≤ n := by omega
        simp (disch := omega) only [go_sem, ↓cw_block, dsB_of, r0, rd, c7]
        refine call_to (next_some hg (by omega)) ?_
        rintro r H3 ⟨rfl, f3, os3, pl3, hg3, hp3⟩
        rw [hv0] at hp3 ⊢
        have hf3 : Fr [k.ho, k.hb, k.hp, k.ha] H2 H3 := f3.mono (fun b _ hb => by simp only [List.mem_cons, List.not_mem_nil, or_false] at hb ⊢; rcases hb with h1 | h1 | h1 <;> simp [h1])
        have m3 := s2.m.setOrder hg3 hf3
        have e33 : Ex H2 ow2 H3 ow2 := Ex.of (R := fun r => 11 ≤ r ∧ r ≤ 14) (Sm.of hf3 (by
          intro b hb
          have q1 := s2.m.order.o1; have q2 := s2.m.order.o2; have q3 := s2.m.order.o3; have q4 := s2.m.order.o4
          simp only [List.mem_cons, List.not_mem_nil, or_false] at hb
          rcases hb with rfl | rfl | rfl | rfl <;> omega)) (by omega)
        have r3 : Rl n (f2.uOrder (f2.m - 1) os3 pl3 f2.ac) := ⟨s2.r.vals, s2.r.lv⟩
        have c9 : cellH H3 ⟨p, 9, none⟩ = some (sl k.bv (2 * n + 2)) := m3.c 9
        have cv : cellH H3 ⟨k.bv, 2 * v, none⟩ = some (.int .i8 (f2.s.val (2 * v))) := m3.cval r3 (x := 2 * v) (by omega)
        have h2v : 2 * (v : Int) = ((2 * v : Nat) : Int) := by omega
        have hvc : isC n (2 * v) := by unfold isC; omega
        have hp3' : ∀ u, (nt pl3 u = -1 ↔ nt f2.pl u = -1 ∨ u = v) := by
          intro u
          have := hp3 u
          rwa [Int.toNat_natCast] at this
        by_cases hz : f2.s.val (2 * v) = 0
        · obtain ⟨hz1, hz2⟩ := val_zero.1 hz
          rw [hz] at cv
          simp (disch := omega) only [go_sem, ↓cw_block, dsB_of, r0, rd, c9, h2v, cv]
          have htn : f2.tr.length ≤ n := s2.si.inv.ok.len
          have hla := la2.len
          refine call_to (sOpen_spec m3 (by show f2.tr.length ≤ _; omega) (by show f2.st.length ≤ _; omega)) ?_
          rintro r H4 ⟨rfl, ow4, sv, m4, e44⟩
          have si4 := s2.si.open' hh2
          have r4 : Rl n ((f2.uOrder (f2.m - 1) os3 pl3 f2.ac).uStarts sv (f2.st ++ [f2.tr.length])) := by
            refine ⟨s2.r.vals, fun i x hx => ?_⟩
            have hx' : f2.tr[i]? = some x := hx
            have e : lev (f2.st ++ [f2.tr.length]) i = lev f2.st i := lev_open (s := f2.s) (List.getElem?_eq_some_iff.1 hx').1
            show f2.lvls[x / 2]? = some (lev (f2.st ++ [f2.tr.length]) i)
            rw [e]; exact s2.r.lv i x hx'
          have c13 : cellH H4 ⟨p, 13, none⟩ = some (sl k.ba (n + 1)) := m4.c 13
          have cl := m4.clast (v := v) (by omega)
          have hlev : ∀ j, j < f2.tr.length → lev (f2.st ++ [f2.tr.length]) j = lev f2.st j := fun j hj => lev_open (s := f2.s) hj
          -- both polarities
          have both : ∀ y, isC n y → y / 2 = v → y ∉ f2.tr → neg y ∉ f2.tr → CallF Tryz.prog 71 [sp p, iv y, pn none] H4 (fun r H' => r = .tuple #[] ∧ ∃ ow' f', SOK H' ow' p n k f' G ∧ Ex H ow H' ow' ∧ Gw f f' 0 ∧ f.s.N n ≤ f'.s.N n ∧ f'.ls = f.ls ∧ LA xs f'.st f'.tr ∧ (∃ y, f'.tr = f.tr ++ [y] ∧ y ∉ f.tr ∧ neg y ∉ f.tr ∧ f'.head = f.tr.length ∧ (∀ q ∈ f'.st, q ∈ f.st ∨ q = f.tr.length) ∧ (f'.st.length ≤ xs.length → xs[f'.st.length - 1]? = some y))) NoP := by
            intro y hyc hyv hy1 hy2
            have hdec := s2.si.decide hh2 hyc hy1 hy2
            refine (sSet_spec m4 r4 si4.inv hn hyc hy1 hy2 (by show (f2.st ++ [f2.tr.length]).length ≤ _; simp; omega) none).to ?_
            rintro r H5 ⟨rfl, ow5, vs5, lv5, la5, v5, m5, r5, e55⟩
            refine ⟨rfl, ow5, _, ⟨m5, r5, hdec, ?_, s2.sn, s2.stp, s2.n⟩, ex2.trans (e33.trans (e44.trans e55)), ⟨gw2.key, gw2.ls, gw2.lrn, gw2.C⟩, ?_, e3, ?_, y, ?_, by rw [← e1]; exact hy1, by rw [← e1]; exact hy2, (show f2.head = _ by rw [hh2, e1]), e9, ?_⟩
            · intro u hu1 hu2 hu3 hu4
              have hu3' : ∀ x ∈ f2.tr ++ [y], x / 2 ≠ u := hu3
              rcases (hp3' u).1 hu4 with h5 | h5
              · exact s2.hin u hu1 hu2 (fun x hx => hu3' x (by simp [hx])) h5
              · exact hu3' y (by simp) (by rw [hyv, h5])
            · exact Nat.le_trans e6 (Nat.le_trans (N_open (n := n) (s := f2.s)) (N_push (s := f2.s.open') (x := y) (w := none)))
            · show LA xs (f2.st ++ [f2.tr.length]) (f2.tr ++ [y])
              refine ⟨by simp; omega, fun q s hq => ?_, fun i z h2 h3 => ?_⟩
              · rcases Nat.lt_trichotomy q f2.st.length with h4 | h4 | h4
                · rw [List.getElem?_append_left h4] at hq; exact la2.lb q s hq
                · subst h4; simp at hq; subst hq; exact hla
                · rw [List.getElem?_eq_none (by simp; omega)] at hq; cases hq
              · have hix := (List.getElem?_eq_some_iff.1 h3).1
                obtain ⟨j, h5, h6⟩ := la2.asu i z (by omega) h3
                exact ⟨j, push_old h5, by rw [hlev j (List.getElem?_eq_some_iff.1 h5).1]; exact h6⟩
            · show f2.tr ++ [y] = f.tr ++ [y]
              rw [e1]
            · intro h5
              have h6 : (f2.st ++ [f2.tr.length]).length ≤ xs.length := h5
              simp at h6; omega
          have hn2 : neg (2 * v) = 2 * v + 1 := by unfold neg; rw [if_pos (by omega)]
          have hn3 : neg (2 * v + 1) = 2 * v := by unfold neg; rw [if_neg (by omega)]; omega
          have h2v1 : ((2 * v : Nat) : Int) + 1 = ((2 * v + 1 : Nat) : Int) := by omega
          cases hl : bt f2.last v
          · have cl' : cellH H4 ⟨k.ba, v, none⟩ = some (.bool false) := by rw [← hl]; exact cl
            simp (disch := omega) only [go_sem, ↓cw_block, dsB_of, r0, rd, c13, cl', h2v, h2v1]
            refine call_to (both (2 * v + 1) (by unfold isC; omega) (by omega) (by rw [← hn2]; exact hz2) (by rw [hn3]; exact hz1)) ?_
            rintro r H5 ⟨rfl, hres⟩
            simp (disch := omega) only [go_sem, ↓cw_block, dsB_of, r0, rd, dsB_of]
            exact fin (.inl ⟨rfl, hres⟩)
          · have cl' : cellH H4 ⟨k.ba, v, none⟩ = some (.bool true) := by rw [← hl]; exact cl
            simp (disch := omega) only [go_sem, ↓cw_block, dsB_of, r0, rd, c13, cl', h2v, h2v1]
            refine call_to (both (2 * v) hvc (by omega) hz1 hz2) ?_
            rintro r H5 ⟨rfl, hres⟩
            simp (disch := omega) only [go_sem, ↓cw_block, dsB_of, r0, rd, dsB_of]
            exact fin (.inl ⟨rfl, hres⟩)
        · simp (disch := omega) only [go_sem, ↓cw_block, dsB_of, r0, rd, c9, h2v, cv]
          refine fin ⟨f2.m - 1, by omega, ow2, f2.uOrder (f2.m - 1) os3 pl3 f2.ac, rfl, by simp (disch := omega) only [go_sem, ↓cw_block, dsB_of, r0, rd], ⟨m3, r3, s2.si, ?_, s2.sn, s2.stp, s2.n⟩, hh2, la2, e1, e2, e3, e4, e5, e6, ex2.trans e33, hxs2, e8⟩
          intro u hu1 hu2 hu3 hu4
          rcases (hp3' u).1 hu4 with h5 | h5
          · exact s2.hin u hu1 hu2 hu3 h5
          · subst h5
            apply hz
            rw [val_zero]
            refine ⟨fun e => hu3 _ e (by omega), fun e => hu3 _ e (by rw [neg_var]; omega)⟩
end
end Go.Proofs.YtofooamimiijlaaGreat

namespace Go.Proofs.YtofooamimiijlaaGreat
open Go.HL HM Go.Sat
set_option maxRecDepth 10000
set_option linter.unusedSimpArgs false
set_option linter.unusedVariables false

section
variable {H : Heap} {ow : Nat → Nat} {p n : Nat} {k : Bk} {f : Cf} {G : List (List Nat)}
def lenR (r : Nat) : Nat := if r = 2 then 200 else 100
theorem sLength_spec {r : Nat} (hr : r ≤ 2) : CallF Tryz.prog 62 [iv r] H (fun v H' => v = iv (lenR r) ∧ H' = H) NoP := by
  have h012 : r = 0 ∨ r = 1 ∨ r = 2 := by omega
  rcases h012 with rfl | rfl | rfl
  · refine callF_of Tryz.func62 rfl Tryz.ntmps62 Tryz.results62 (by decide) rfl ?_
    simp (disch := omega) only [go_sem, ↓cw_block, dsB_of]
    refine loop_by (fun j ρ H1 => (ρ.get 0 = iv 0 ∧ ρ.get 3 = iv 1 ∧ ρ.get 4 = iv 0 ∧ ρ.ds = []) ∧ H1 = H) (k := 0) ?_ ?_
    · exact ⟨by simp (disch := omega) only [go_sem, ↓cw_block, dsB_of], rfl⟩
    · rintro _ ρ H1 ⟨⟨r0, r3, r4, rd⟩, rfl⟩
      simp (disch := omega) only [go_sem, ↓cw_block, dsB_of, r0, r3, r4, rd]
      refine loop_by (fun j ρ H2 => (ρ.get 0 = iv 0 ∧ ρ.get 3 = iv 1 ∧ ρ.get 4 = iv 0 ∧ ρ.ds = []) ∧ H2 = H1) (k := 0) ?_ ?_
      · exact ⟨by simp (disch := omega) only [go_sem, ↓cw_block, dsB_of, r0, r3, r4, rd], rfl⟩
      · rintro _ ρ H2 ⟨⟨r0, r3, r4, rd⟩, rfl⟩
        simp (disch := omega) only [go_sem, ↓cw_block, dsB_of, r0, r3, r4, rd, dsB_of]
        exact fin ⟨rfl, rfl⟩
  · refine callF_of Tryz.func62 rfl Tryz.ntmps62 Tryz.results62 (by decide) rfl ?_
    simp (disch := omega) only [go_sem, ↓cw_block, dsB_of]
    refine loop_by (fun j ρ H1 => ((j = 1 ∧ ρ.get 0 = iv 1 ∧ ρ.get 3 = iv 1 ∧ ρ.get 4 = iv 0 ∧ ρ.ds = []) ∨ (j = 0 ∧ ρ.get 0 = iv 1 ∧ ρ.get 3 = iv 3 ∧ ρ.get 4 = iv 1 ∧ ρ.ds = [])) ∧ H1 = H) (k := 1) ?_ ?_
    · exact ⟨.inl ⟨rfl, by simp (disch := omega) only [go_sem, ↓cw_block, dsB_of]; rfl⟩, rfl⟩
    · rintro _ ρ H1 ⟨⟨rfl, r0, r3, r4, rd⟩ | ⟨rfl, r0, r3, r4, rd⟩, rfl⟩
      · simp (disch := omega) only [go_sem, ↓cw_block, dsB_of, r0, r3, r4, rd]
        exact fin ⟨0, by omega, .inr ⟨rfl, by simp (disch := omega) only [go_sem, ↓cw_block, dsB_of, r0, r3, r4, rd]⟩, rfl⟩
      · simp (disch := omega) only [go_sem, ↓cw_block, dsB_of, r0, r3, r4, rd]
        refine loop_by (fun j ρ H2 => ((j = 1 ∧ ρ.get 0 = iv 1 ∧ ρ.get 3 = iv 3 ∧ ρ.get 4 = iv 1 ∧ ρ.ds = []) ∨ (j = 0 ∧ ρ.get 0 = iv 0 ∧ ρ.get 3 = iv 1 ∧ ρ.get 4 = iv 0 ∧ ρ.ds = [])) ∧ H2 = H1) (k := 1) ?_ ?_
        · exact ⟨.inl ⟨rfl, by simp (disch := omega) only [go_sem, ↓cw_block, dsB_of, r0, r3, r4, rd]⟩, rfl⟩
        · rintro _ ρ H2 ⟨⟨rfl, r0, r3, r4, rd⟩ | ⟨rfl, r0, r3, r4, rd⟩, rfl⟩
          · simp (disch := omega) only [go_sem, ↓cw_block, dsB_of, r0, r3, r4, rd]
            exact fin ⟨0, by omega, .inr ⟨rfl, by simp (disch := omega) only [go_sem, ↓cw_block, dsB_of, r0, r3, r4, rd]⟩, rfl⟩
          · simp (disch := omega) only [go_sem, ↓cw_block, dsB_of, r0, r3, r4, rd, dsB_of]
            exact fin ⟨rfl, rfl⟩
  · refine callF_of Tryz.func62 rfl Tryz.ntmps62 Tryz.results62 (by decide) rfl ?_
    simp (disch := omega) only [go_sem, ↓cw_block, dsB_of]
    refine loop_by (fun j ρ H1 => ((j = 1 ∧ ρ.get 0 = iv 2 ∧ ρ.get 3 = iv 1 ∧ ρ.get 4 = iv 0 ∧ ρ.ds = []) ∨ (j = 0 ∧ ρ.get 0 = iv 2 ∧ ρ.get 3 = iv 3 ∧ ρ.get 4 = iv 1 ∧ ρ.ds = [])) ∧ H1 = H) (k := 1) ?_ ?_
    · exact ⟨.inl ⟨rfl, by simp (disch := omega) only [go_sem, ↓cw_block, dsB_of]; rfl⟩, rfl⟩
    · rintro _ ρ H1 ⟨⟨rfl, r0, r3, r4, rd⟩ | ⟨rfl, r0, r3, r4, rd⟩, rfl⟩
      · simp (disch := omega) only [go_sem, ↓cw_block, dsB_of, r0, r3, r4, rd]
        exact fin ⟨0, by omega, .inr ⟨rfl, by simp (disch := omega) only [go_sem, ↓cw_block, dsB_of, r0, r3, r4, rd]⟩, rfl⟩
      · simp (disch := omega) only [go_sem, ↓cw_block, dsB_of, r0, r3, r4, rd]
        refine loop_by (fun j ρ H2 => (ρ.get 0 = iv 2 ∧ ρ.get 3 = iv 3 ∧ ρ.get 4 = iv 1 ∧ ρ.ds = []) ∧ H2 = H1) (k := 0) ?_ ?_
        · exact ⟨by simp (disch := omega) only [go_sem, ↓cw_block, dsB_of, r0, r3, r4, rd], rfl⟩
        · rintro _ ρ H2 ⟨⟨r0, r3, r4, rd⟩, rfl⟩
          simp (disch := omega) only [go_sem, ↓cw_block, dsB_of, r0, r3, r4, rd, dsB_of]
          exact fin ⟨rfl, rfl⟩
end
end Go.Proofs.YtofooamimiijlaaGreat

namespace Go.Proofs.YtofooamimiijlaaGreat
open Go.HL HM Go.Sat
set_option maxRecDepth 10000
set_option linter.unusedSimpArgs false
set_option linter.unusedVariables false

section
variable {H : Heap} {ow : Nat → Nat} {p n : Nat} {k : Bk} {f : Cf} {G : List (List Nat)}
/-- The solver, be its clauses what they may. -/
structure SB (H : Heap) (ow : Nat → Nat) (p n : Nat) (k : Bk) (f : Cf) : Prop where
  m : RM H ow p n k f
  r : Rl n f
  inv : Inv n f.s
  wi : WI n f.s f.C f.w
  le : f.head ≤ f.tr.length
  hin : HIn n f
  sn : ∀ v, v ≤ n → bt f.seen v = false
  stp : 1024 ≤ f.step ∧ f.step ≤ 1099511627776
  n : n ≤ 1000
theorem SOK.sb (h : SOK H ow p n k f G) : SB H ow p n k f := ⟨h.m, h.r, h.si.inv, h.si.wi, h.si.le, h.hin, h.sn, h.stp, h.n⟩
theorem SB.sok (h : SB H ow p n k f) (hs : SI n f.s f.C f.w G f.head) : SOK H ow p n k f G := ⟨h.m, h.r, hs, h.hin, h.sn, h.stp, h.n⟩
theorem HIn.of_s {f f' : Cf} (h : HIn n f) (ht : f'.tr = f.tr) (hp : f'.pl = f.pl) : HIn n f' := by
  unfold HIn; rw [ht, hp]; exact h
/-- What is kept by going back to the beginning. -/
structure Bk0 (n : Nat) (f f' : Cf) : Prop where
  st : f'.st = []
  key : f'.key = f.key
  pre : f'.tr <+: f.tr
  zero : ∀ i x : Nat, f.tr[i]? = some x → lev f.st i = 0 → f'.tr[i]? = some x
  si : ∀ G, SI n f.s f.C f.w G f.head → SI n f'.s f'.C f'.w G f'.head
  same : f.st = [] → f' = f
  hd : f.head = f.tr.length → f'.head = f'.tr.length
theorem back0_c (h : SB H ow p n k f) : Go.Dfr.CallC Tryz.prog 61 [sp p, iv 0] H (fun v H' => v = .tuple #[] ∧ ∃ f', SB H' ow p n k f' ∧ Ex H ow H' ow ∧ Bk0 n f f') := by
  by_cases h0 : f.st = []
  · have hc := sBack_noc h.m (L := 0) (by rw [h0]; simp)
    refine hc.mono ?_
    rintro v H' ⟨rfl, rfl⟩
    exact ⟨rfl, f, h, Ex.refl, h0, rfl, List.prefix_refl _, fun i x hi _ => hi, fun G hs => hs, fun _ => rfl, id⟩
  · have hL : 0 < f.st.length := List.length_pos_iff.2 h0
    refine (sBack_c h.m h.r h.inv h.n (L := 0) hL).mono ?_
    rintro v H' ⟨rfl, f', m', r', e', hs, hh, hk, hpl⟩
    have hk' := hk
    simp only [Cf.keyB, Prod.mk.injEq] at hk'
    obtain ⟨k1, k2, k3, k4, k5, k6⟩ := hk'
    have hC : f'.C = f.C := congrArg (·.1) k1
    have hsn : f'.seen = f.seen := by
      have := congrArg (fun z => z.2.2.2.2.2.2.2.2.1) k1
      exact this
    have hstp : f'.step = f.step := by
      have := congrArg (fun z => z.2.2.2.2.2.2.2.2.2.2.2.2) k1
      exact this
    have htr : f'.tr = f.tr.take f.st[0] := congrArg St.tr hs
    have hst : f'.st = [] := by
      have : f'.st = f.st.take 0 := congrArg St.st hs
      simpa using this
    have hb : f.st[0] ≤ f.tr.length := h.inv.bound _ (List.getElem_mem hL)
    refine ⟨rfl, f', ⟨m', r', by rw [hs]; exact h.inv.cut hL, by rw [hs, hC, k2]; exact h.wi.cut, by rw [hh, htr]; simp; omega, h.hin.cut htr hpl, by rw [hsn]; exact h.sn, by rw [hstp]; exact h.stp, h.n⟩, e', hst, k1, by rw [htr]; exact List.take_prefix _ _, ?_, ?_, fun e => absurd e h0, fun _ => by rw [hh, htr]; simp; omega⟩
    · intro i x hi hl0
      have hlt : i < f.st[0] := by
        have := lev_ge h.inv.sorted (i := i) hL
        have h2 : (0 < lev f.st i ↔ f.st[0] ≤ i) := this
        omega
      rw [htr, List.getElem?_take, if_pos hlt]; exact hi
    · intro G hsi
      rw [hs, hC, k2, hh]
      exact hsi.cut hL
end
end Go.Proofs.YtofooamimiijlaaGreat

