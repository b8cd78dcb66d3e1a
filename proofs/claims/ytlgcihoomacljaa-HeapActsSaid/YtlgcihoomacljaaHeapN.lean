/- The law on whatever is done with a heap: that it returns true. -/
import Derived.Test.YtlgcihoomacljaaHeapR
import Derived.Test.YtlgcihoomacljaaArg
namespace Go.Proofs.Ytlgcihoomacljaa
open Go.HL HM
set_option maxRecDepth 10000
set_option linter.unusedSimpArgs false

theorem heldOK_two {H : Heap} {a b : Addr} {v u : Value} (h : cellH H a = some v) (h2 : cellH H b = some u) : heldOK [(a, v), (b, u)] H := by
  intro a' v' e
  unfold lookA at e
  split at e
  · rename_i ea
    cases e
    exact ea ▸ h
  · exact heldOK_one h2 a' v' e

/-- The heap of the program, and the document's. -/
structure Cp (n m : Nat) (pl ac : List Int) (bs : List Bool) (az : List Int) : Prop where
  lb : bs.length = n
  la : az.length = n
  act : ∀ j, j < n → nt az j = nt ac (j + 1)
  inn : ∀ j, j < n → (bt bs j = true ↔ nt pl (j + 1) ≠ -1)
  cnt : bs.count true = m
theorem count_put : ∀ (bs : List Bool) (j : Nat), j < bs.length → bt bs j = false → (bs.set j true).count true = bs.count true + 1 := by
  intro bs
  induction bs with
  | nil => intro j h; simp at h
  | cons b bs ih =>
    intro j h hb
    cases j with
    | zero => simp [bt] at hb; subst hb; simp
    | succ j =>
      have := ih j (by simpa using h) (by simpa [bt] using hb)
      cases b <;> simp [this]
theorem count_take : ∀ (bs : List Bool) (j : Nat), j < bs.length → bt bs j = true → (bs.set j false).count true + 1 = bs.count true := by
  intro bs
  induction bs with
  | nil => intro j h; simp at h
  | cons b bs ih =>
    intro j h hb
    cases j with
    | zero => simp [bt] at hb; subst hb; simp
    | succ j =>
      have := ih j (by simpa using h) (by simpa [bt] using hb)
      cases b <;> simp [this]
theorem Cp.put {n m : Nat} {pl pl' ac : List Int} {bs : List Bool} {az : List Int} (h : Cp n m pl ac bs az) {j : Nat} (hj : j < n) (hb : bt bs j = false) (hp : ∀ u, (nt pl' u = -1 ↔ nt pl u = -1 ∧ u ≠ j + 1)) :
    Cp n (m + 1) pl' ac (bs.set j true) az := by
  refine ⟨by simp [h.lb], h.la, h.act, fun i hi => ?_, by rw [count_put _ _ (by rw [h.lb]; exact hj) hb, h.cnt]⟩
  rw [Ne, hp (i + 1)]
  by_cases e : i = j
  · subst e; rw [bt_set_eq (by rw [h.lb]; exact hj)]; simp
  · rw [bt_set_ne (by omega), h.inn i hi]
    constructor
    · rintro h1 ⟨h2, _⟩; exact h1 h2
    · intro h1 h2; exact h1 ⟨h2, by omega⟩
theorem Cp.take {n m : Nat} {pl pl' ac : List Int} {bs : List Bool} {az : List Int} (h : Cp n m pl ac bs az) {j : Nat} (hj : j < n) (hb : bt bs j = true) (hp : ∀ u, (nt pl' u = -1 ↔ nt pl u = -1 ∨ u = j + 1)) :
    Cp n (m - 1) pl' ac (bs.set j false) az := by
  refine ⟨by simp [h.lb], h.la, h.act, fun i hi => ?_, by have := count_take _ _ (by rw [h.lb]; exact hj) hb; have := h.cnt; omega⟩
  rw [Ne, hp (i + 1)]
  by_cases e : i = j
  · subst e; rw [bt_set_eq (by rw [h.lb]; exact hj)]; simp
  · rw [bt_set_ne (by omega), h.inn i hi]
    constructor
    · rintro h1 (h2 | h2)
      · exact h1 h2
      · omega
    · intro h1 h2; exact h1 (.inl h2)

structure St (H0 H1 : Heap) (p bo bp ba n q : Nat) (wi wa : Value) (m : Nat) (os pl ac : List Int) (bs : List Bool) (az : List Int) : Prop where
  hg : HG H1 p bo bp ba n m os pl ac
  rh : RH H1 q wi wa bs az
  fr : Fr [] H0 H1
  dis : p ∉ RH.blocks q wi wa ∧ bo ∉ RH.blocks q wi wa ∧ bp ∉ RH.blocks q wi wa ∧ ba ∉ RH.blocks q wi wa
  fre : H0.size ≤ p ∧ H0.size ≤ bo ∧ H0.size ≤ bp ∧ H0.size ≤ ba
  fre2 : ∀ b ∈ RH.blocks q wi wa, H0.size ≤ b
  cp : Cp n m pl ac bs az
def SS (H0 H1 : Heap) (p bo bp ba n q : Nat) (wi wa : Value) : Prop := ∃ m os pl ac bs az, St H0 H1 p bo bp ba n q wi wa m os pl ac bs az
section
variable {H0 H1 : Heap} {p bo bp ba n q : Nat} {wi wa : Value} {m : Nat} {os pl ac : List Int} {bs : List Bool} {az : List Int}
theorem St.apart (h : St H0 H1 p bo bp ba n q wi wa m os pl ac bs az) : ∀ b ∈ RH.blocks q wi wa, b ≠ p ∧ b ≠ bo ∧ b ≠ bp ∧ b ≠ ba := by
  intro b hb
  obtain ⟨h1, h2, h3, h4⟩ := h.dis
  exact ⟨fun e => h1 (e ▸ hb), fun e => h2 (e ▸ hb), fun e => h3 (e ▸ hb), fun e => h4 (e ▸ hb)⟩
/-- The heap of the program does something; the document's lies apart. -/
theorem St.rhF (h : St H0 H1 p bo bp ba n q wi wa m os pl ac bs az) {H2 : Heap} {F : List Nat} (hf : Fr F H1 H2) (hF : ∀ b ∈ F, b = p ∨ b = bo ∨ b = bp ∨ b = ba) : RH H2 q wi wa bs az ∧ Fr [] H0 H2 := by
  refine ⟨h.rh.frame hf fun b hb e => ?_, fr_new h.fr hf fun b hb => ?_⟩
  · have := h.apart b hb; have := hF b e; omega
  · have := hF b hb; have := h.fre; omega
theorem HG.rF {H2 H3 : Heap} (h : HG H2 p bo bp ba n m os pl ac) (hd : p ∉ RH.blocks q wi wa ∧ bo ∉ RH.blocks q wi wa ∧ bp ∉ RH.blocks q wi wa ∧ ba ∉ RH.blocks q wi wa) (hf : Fr (RH.blocks q wi wa) H2 H3) : HG H3 p bo bp ba n m os pl ac :=
  h.frame hf hd.1 hd.2.1 hd.2.2.1 hd.2.2.2

/-- What a slice of acts is, as an argument. -/
def ArgActs (H : Heap) (v : Value) (rows : List (Int × Int × Int)) : Prop := ∃ a c, v = .slice a rows.length c ∧ ∀ (i : Nat) x, rows[i]? = some x → (∃ b o, a = some ⟨b, o, none⟩ ∧ cellH H ⟨b, o + i * 3, none⟩ = some (iv x.1) ∧ cellH H ⟨b, o + i * 3 + 1, none⟩ = some (iv x.2.1) ∧ cellH H ⟨b, o + i * 3 + 2, none⟩ = some (iv x.2.2)) ∧
  -9223372036854775808 ≤ x.1 ∧ x.1 ≤ 9223372036854775807 ∧ -9223372036854775808 ≤ x.2.1 ∧ x.2.1 ≤ 9223372036854775807 ∧ -9223372036854775808 ≤ x.2.2 ∧ x.2.2 ≤ 9223372036854775807
end

section
variable {H : Heap}
set_option maxHeartbeats 2000000 in
theorem acts_spec {v1 : Value} {rows : List (Int × Int × Int)} {nn : Int} (hn : -9223372036854775808 ≤ nn ∧ nn ≤ 9223372036854775807) (hv : ArgActs H v1 rows) :
    CallF Try.prog 7 [iv nn, v1] H (fun r H' => r = .bool true ∧ Fr [] H H') NoP := by
  obtain ⟨a, c, rfl, hat⟩ := hv
  refine callF_of Try.func7 rfl Try.ntmps7 Try.results7 (by decide) rfl ?_
  by_cases hz : 80 < rows.length ∨ (60 < nn ∧ nn ≤ 100000)
  · simp (disch := omega) only [go_sem, ↓cw_block]
    refine call_to awake_spec ?_
    rintro _ H1 ⟨rfl, f1⟩
    by_cases h0 : 80 < rows.length
    · simp (disch := omega) only [go_sem, ↓cw_block]
      refine call_to awake_spec ?_
      rintro _ H2 ⟨rfl, f2⟩
      simp (disch := omega) only [go_sem, ↓cw_block]
      exact fin ⟨rfl, f1.trans f2⟩
    · simp (disch := omega) only [go_sem, ↓cw_block]
      refine call_to awake_spec ?_
      rintro _ H2 ⟨rfl, f2⟩
      simp (disch := omega) only [go_sem, ↓cw_block]
      exact fin ⟨rfl, f1.trans f2⟩
  · simp (disch := omega) only [go_sem, ↓cw_block]
    refine call_to awake_spec ?_
    rintro _ H1 ⟨rfl, f1⟩
    by_cases hnn : 0 ≤ nn ∧ nn ≤ 60
    · obtain ⟨n, rfl⟩ : ∃ n : Nat, nn = (n : Int) := ⟨nn.toNat, by omega⟩
      simp (disch := omega) only [go_sem, ↓cw_block]
      refine call_to (new_yes (n := n) (by omega)) ?_
      rintro _ H2 ⟨f2, p, bo, bp, ba, os, pl, rfl, hsz, h2, hin⟩
      have hs1 := f1.size
      simp (disch := omega) only [go_sem, ↓cw_block]
      refine call_to (rnew_spec (n := n) (by omega)) ?_
      rintro _ H3 ⟨f3, q, wi, wa, rfl, hB, h3⟩
      have l1 := h2.ha.self.lt
      have l2 := h2.ha.io.lt
      have l3 := h2.ha.ip.lt
      have l4 := h2.ha.ia.lt
      have st3 : SS H H3 p bo bp ba n q wi wa := by
        refine ⟨n, os, pl, _, _, _, h2.frame f3 (by simp) (by simp) (by simp) (by simp), h3, (f1.trans f2).trans f3, ?_, by omega, fun b hb => ?_, by simp, by simp, fun j hj => ?_, fun j hj => ?_, by simp⟩
        · exact ⟨fun e => by have := hB _ e; omega, fun e => by have := hB _ e; omega, fun e => by have := hB _ e; omega, fun e => by have := hB _ e; omega⟩
        · have := hB b hb; have := f2.size; omega
        · rw [nt_rep0, nt_rep0]
        · simp [bt, hj, hin (j + 1) (by omega) (by omega)]
      simp (disch := omega) only [go_sem, ↓cw_block]
      refine loop_by (fun k ρ H4 => ∃ (i : Nat), k = rows.length - i ∧ i ≤ rows.length ∧ (ρ.get 0 = iv n ∧ ρ.get 1 = .slice a rows.length c ∧ ρ.get 5 = hp p ∧ ρ.get 7 = hp q ∧ ρ.get 8 = iv i ∧ ρ.ds = []) ∧ SS H H4 p bo bp ba n q wi wa) (k := rows.length) ?_ ?_
      · exact ⟨0, rfl, by omega, by simp (disch := omega) only [go_sem, ↓cw_block], st3⟩
      · rintro k ρ H4 ⟨i, rfl, hi, ⟨r0, r1, r5, r7, r8, rd⟩, m, os, pl, ac, bs, az, st⟩
        have hi1 : (i : Int) + 1 = ((i + 1 : Nat) : Int) := by omega
        by_cases hir : i < rows.length
        · obtain ⟨⟨b, o, rfl, k0, k1, k2⟩, hb⟩ := hat i _ (List.getElem?_eq_getElem hir)
          generalize rows[i] = x at k0 k1 k2 hb
          obtain ⟨xk, xv, xb⟩ := x
          simp only at k0 k1 k2 hb
          have m0 := st.fr.cell' k0 (by simp)
          have m1 := st.fr.cell' k1 (by simp)
          have m2 := st.fr.cell' k2 (by simp)
          have hst := store_new (P := Try.prog) (H := H4) (t := 41) (z := [iv 0, iv 0, iv 0]) (vs := [iv xk, iv xv, iv xb]) T.size41 rfl (by simp [oneC])
          obtain ⟨H5, hH5⟩ : ∃ H5, H5 = H4.push (.cells [iv xk, iv xv, iv xb].toArray 41) := ⟨_, rfl⟩
          rw [← hH5] at hst
          have B5 : Blk H5 H4.size 41 [iv xk, iv xv, iv xb] := by rw [hH5]; exact Blk.new rfl
          have f5 : Fr [] H4 H5 := by rw [hH5]; exact Fr.push
          have e0 := B5.cell 0
          have e1 := B5.cell 1
          have e2 := B5.cell 2
          simp only [List.getElem?_cons_zero, List.getElem?_cons_succ] at e0 e1 e2
          have g1 := st.hg.ha.self.lt
          have g2 := st.hg.ha.io.lt
          have g3 := st.hg.ha.ip.lt
          have g4 := st.hg.ha.ia.lt
          have g5 : ∀ b ∈ RH.blocks q wi wa, b < H4.size := by
            intro b hb
            simp only [RH.blocks, List.mem_cons, List.mem_append] at hb
            rcases hb with rfl | hb | hb
            · exact st.rh.self.lt
            · exact st.rh.vi.lt b hb
            · exact st.rh.va.lt b hb
          have st5 : St H H5 p bo bp ba n q wi wa m os pl ac bs az := ⟨st.hg.frame f5 (by simp) (by simp) (by simp) (by simp), st.rh.frame f5 (by simp), st.fr.trans f5, st.dis, st.fre, st.fre2, st.cp⟩
          have lb := st.cp.lb
          have la := st.cp.la
          simp (disch := omega) only [go_sem, r0, r1, r5, r7, r8, rd]
          rw [cw_block]
          simp (disch := omega) only [go_sem, r0, r1, r5, r7, r8, rd, m0, m1, m2, newPtr, hst, e0, cellsH]
          refine cut_at (fun ρ H6 => (ρ.get 0 = iv n ∧ ρ.get 1 = .slice (some ⟨b, o, none⟩) rows.length c ∧ ρ.get 5 = hp p ∧ ρ.get 7 = hp q ∧ ρ.get 8 = iv i ∧ ρ.get 10 = .bool true ∧ ρ.ds = []) ∧ SS H H6 p bo bp ba n q wi wa) ?_ ?_
          · by_cases hk0 : xk = 0
            · subst hk0
              simp (disch := omega) only [go_sem, ↓cw_block, r0, r1, r5, r7, r8, rd]
              refine draw1 (lk [(0, true), (1, true), (2, true), (4, false), (5, false), (6, false)] (.act 3 (.act 7 (lk [(8, true), (9, true)] .fin) .non) .non)) T.mixed [(⟨H4.size, 1, none⟩, iv xv)] (heldOK_one e1) ?_
              simp (disch := omega) only [go_sem, ↓cw_block, r0, r1, r5, r7, r8, rd, newPtr, e1]
              by_cases hp1 : 1 ≤ xv ∧ xv ≤ n ∧ nt pl xv.toNat = -1
              · obtain ⟨j, rfl⟩ : ∃ j : Nat, xv = ((j + 1 : Nat) : Int) := ⟨(xv - 1).toNat, by omega⟩
                rw [Int.toNat_natCast] at hp1
                refine call_to (put_yes st5.hg (v := j + 1) (by omega) (by omega) hp1.2.2) ?_
                rintro _ H6 ⟨rfl, f6, os6, pl6, h6, s6⟩
                obtain ⟨rh6, fr6⟩ := st5.rhF f6 (by simp <;> omega)
                refine held_by (heldOK_one (f6.cell' e1 (by simp; omega))) ?_
                have hbj : bt bs j = false := by
                  cases hbb : bt bs j with
                  | false => rfl
                  | true => exact absurd hp1.2.2 ((st.cp.inn j (by omega)).1 hbb)
                simp (disch := omega) only [go_sem, ↓cw_block, r0, r1, r5, r7, r8, rd]
                refine call_to (by have := rput_yes rh6 (v := j) (by omega) hbj; rw [show ((j : Int) + 1) = ((j + 1 : Nat) : Int) by omega] at this; exact this) ?_
                rintro _ H7 ⟨rfl, rh7, f7⟩
                refine held_by (heldOK_one ((f7.cell' (f6.cell' e1 (by simp; omega)) (fun e => by have := g5 _ e; simp at this)))) ?_
                simp (disch := omega) only [go_sem, ↓cw_block, r0, r1, r5, r7, r8, rd]
                exact fin ⟨by simp (disch := omega) only [go_sem, ↓cw_block, r0, r1, r5, r7, r8, rd], m + 1, os6, pl6, ac, _, az, h6.rF st.dis f7, rh7, fr_new fr6 f7 st.fre2, st.dis, st.fre, st.fre2, st.cp.put (by omega) hbj s6⟩
              · refine call_to (put_no st5.hg hp1) ?_
                rintro _ _ ⟨rfl, rfl⟩
                refine held_by (heldOK_one e1) ?_
                simp (disch := omega) only [go_sem, ↓cw_block, r0, r1, r5, r7, r8, rd]
                refine call_to (rput_no st5.rh ?_) ?_
                · rintro ⟨h1, h2, h3⟩
                  refine hp1 ⟨h1, by omega, ?_⟩
                  have := st.cp.inn (xv - 1).toNat (by omega)
                  rw [h3] at this
                  have e : (xv - 1).toNat + 1 = xv.toNat := by omega
                  rw [e] at this
                  simpa using this
                rintro _ _ ⟨rfl, rfl⟩
                refine held_by (heldOK_one e1) ?_
                simp (disch := omega) only [go_sem, ↓cw_block, r0, r1, r5, r7, r8, rd]
                exact fin ⟨by simp (disch := omega) only [go_sem, ↓cw_block, r0, r1, r5, r7, r8, rd], m, os, pl, ac, bs, az, st5⟩
            · by_cases hk1 : xk = 1
              · subst hk1
                simp (disch := omega) only [go_sem, ↓cw_block, r0, r1, r5, r7, r8, rd]
                by_cases hm0 : 0 < m
                · have t5 := st5.hg.top hm0
                  refine call_to (next_some st5.hg hm0) ?_
                  rintro _ H6 ⟨rfl, f6, os6, pl6, h6, s6⟩
                  obtain ⟨rh6, fr6⟩ := st5.rhF f6 (by simp <;> omega)
                  obtain ⟨x, hx⟩ : ∃ x : Nat, nt os 0 = ((x + 1 : Nat) : Int) := ⟨(nt os 0 - 1).toNat, by omega⟩
                  rw [hx] at t5 s6 ⊢
                  rw [Int.toNat_natCast] at t5 s6
                  have hbx : bt bs x = true := (st.cp.inn x (by omega)).2 t5.2.2.1
                  simp (disch := omega) only [go_sem, ↓cw_block, r0, r1, r5, r7, r8, rd]
                  refine call_to (rnext_spec rh6) ?_
                  rintro _ H7 (⟨rfl, rfl, hno⟩ | ⟨b7, hb7, rfl, rh7, f7⟩)
                  · rw [hno x (by omega)] at hbx; simp at hbx
                  · have ex : b7 = x := by
                      have q1 := hb7.2.2 x (by omega) hbx
                      have q2 := t5.2.2.2 (b7 + 1) (by omega) (by have := hb7.1; omega) ((st.cp.inn b7 (by have := hb7.1; omega)).1 hb7.2.1)
                      unfold bf at q2
                      rw [Int.toNat_natCast, Int.toNat_natCast] at q2
                      rw [st.cp.act x (by omega), st.cp.act b7 (by have := hb7.1; omega)] at q1
                      omega
                    subst ex
                    rw [show ((b7 : Int) + 1) = ((b7 + 1 : Nat) : Int) by omega]
                    simp (disch := omega) only [go_sem, ↓cw_block, r0, r1, r5, r7, r8, rd]
                    exact fin ⟨by simp (disch := omega) only [go_sem, ↓cw_block, r0, r1, r5, r7, r8, rd], m - 1, os6, pl6, ac, _, az, h6.rF st.dis f7, rh7, fr_new fr6 f7 st.fre2, st.dis, st.fre, st.fre2, st.cp.take (by omega) hbx s6⟩
                · have : m = 0 := by omega
                  subst this
                  have nn := st5.hg.none
                  refine call_to (next_none st5.hg) ?_
                  rintro _ _ ⟨rfl, rfl⟩
                  simp (disch := omega) only [go_sem, ↓cw_block, r0, r1, r5, r7, r8, rd]
                  refine call_to (rnext_spec st5.rh) ?_
                  rintro _ H7 (⟨rfl, rfl, hno⟩ | ⟨b7, hb7, rfl, rh7, f7⟩)
                  · simp (disch := omega) only [go_sem, ↓cw_block, r0, r1, r5, r7, r8, rd]
                    exact fin ⟨by simp (disch := omega) only [go_sem, ↓cw_block, r0, r1, r5, r7, r8, rd], 0, os, pl, ac, bs, az, st5⟩
                  · have := hb7.1
                    exact absurd (nn (b7 + 1) (by omega) (by omega)) ((st.cp.inn b7 (by omega)).1 hb7.2.1)
              · by_cases hk2 : xk = 2
                · subst hk2
                  simp (disch := omega) only [go_sem, ↓cw_block, r0, r1, r5, r7, r8, rd]
                  refine draw1 (lk [(0, true), (1, true), (2, true), (3, true), (4, true), (6, false), (7, false), (8, false), (9, false), (10, false)] (.act 5 (.act 11 (lk [(12, true), (13, true)] .fin) .non) .non)) T.mixed [(⟨H4.size, 1, none⟩, iv xv), (⟨H4.size, 2, none⟩, iv xb)] (heldOK_two e1 e2) ?_
                  simp (disch := omega) only [go_sem, ↓cw_block, r0, r1, r5, r7, r8, rd, newPtr, e1, e2]
                  by_cases hp1 : 1 ≤ xv ∧ xv ≤ n ∧ 0 ≤ xb
                  · obtain ⟨j, rfl⟩ : ∃ j : Nat, xv = ((j + 1 : Nat) : Int) := ⟨(xv - 1).toNat, by omega⟩
                    have haj := st.cp.act j (by omega)
                    have hra := st.hg.act (j + 1) (by omega)
                    refine call_to (bump_yes st5.hg (v := j + 1) (by omega) (by omega) (by omega) (by omega)) ?_
                    rintro _ H6 ⟨rfl, f6, os6, pl6, h6, s6⟩
                    obtain ⟨rh6, fr6⟩ := st5.rhF f6 (by simp <;> omega)
                    refine held_by (heldOK_two (f6.cell' e1 (by simp; omega)) (f6.cell' e2 (by simp; omega))) ?_
                    simp (disch := omega) only [go_sem, ↓cw_block, r0, r1, r5, r7, r8, rd]
                    refine call_to (by have := rbump_yes rh6 (v := j) (d := xb) (by omega) (by omega) (by omega) (by omega); rw [show ((j : Int) + 1) = ((j + 1 : Nat) : Int) by omega] at this; exact this) ?_
                    rintro _ H7 ⟨rfl, rh7, f7⟩
                    refine held_by (heldOK_two (f7.cell' (f6.cell' e1 (by simp; omega)) (fun e => by have := g5 _ e; simp at this)) (f7.cell' (f6.cell' e2 (by simp; omega)) (fun e => by have := g5 _ e; simp at this))) ?_
                    simp (disch := omega) only [go_sem, ↓cw_block, r0, r1, r5, r7, r8, rd]
                    refine fin ⟨by simp (disch := omega) only [go_sem, ↓cw_block, r0, r1, r5, r7, r8, rd], m, os6, pl6, _, bs, _, h6.rF st.dis f7, rh7, fr_new fr6 f7 st.fre2, st.dis, st.fre, st.fre2, lb, by simp [la], fun u hu => ?_, fun u hu => ?_, st.cp.cnt⟩
                    · by_cases e : u = j
                      · subst e
                        rw [nt_set_eq (by omega), nt_set_eq (by rw [st.hg.ha.la]; omega), haj]
                      · rw [nt_set_ne (by omega), nt_set_ne (by omega), st.cp.act u hu]
                    · rw [Ne, s6]; exact st.cp.inn u hu
                  · refine call_to (bump_no st5.hg hp1) ?_
                    rintro _ _ ⟨rfl, rfl⟩
                    refine held_by (heldOK_two e1 e2) ?_
                    simp (disch := omega) only [go_sem, ↓cw_block, r0, r1, r5, r7, r8, rd]
                    refine call_to (rbump_no st5.rh (by omega)) ?_
                    rintro _ _ ⟨rfl, rfl⟩
                    refine held_by (heldOK_two e1 e2) ?_
                    simp (disch := omega) only [go_sem, ↓cw_block, r0, r1, r5, r7, r8, rd]
                    exact fin ⟨by simp (disch := omega) only [go_sem, ↓cw_block, r0, r1, r5, r7, r8, rd], m, os, pl, ac, bs, az, st5⟩
                · by_cases hk3 : xk = 3
                  · subst hk3
                    simp (disch := omega) only [go_sem, ↓cw_block, r0, r1, r5, r7, r8, rd]
                    refine call_to (halve_spec st5.hg) ?_
                    rintro _ H6 ⟨rfl, f6, os6, pl6, h6, s6⟩
                    obtain ⟨rh6, fr6⟩ := st5.rhF f6 (by simp <;> omega)
                    simp (disch := omega) only [go_sem, ↓cw_block, r0, r1, r5, r7, r8, rd]
                    refine call_to (rhalve_spec rh6 (fun j hj => by rw [st.cp.act j (by omega)]; exact st.hg.act (j + 1) (by omega))) ?_
                    rintro _ H7 ⟨rfl, f7, az7, rh7, s7⟩
                    simp (disch := omega) only [go_sem, ↓cw_block, r0, r1, r5, r7, r8, rd]
                    have l7 := rh7.len
                    refine fin ⟨by simp (disch := omega) only [go_sem, ↓cw_block, r0, r1, r5, r7, r8, rd], m, os6, pl6, _, bs, az7, h6.rF st.dis f7, rh7, fr_new fr6 f7 st.fre2, st.dis, st.fre, st.fre2, lb, by omega, fun u hu => ?_, fun u hu => ?_, st.cp.cnt⟩
                    · rw [s7 u, nt_map2, st.cp.act u hu]
                    · rw [Ne, s6]; exact st.cp.inn u hu
                  · simp (disch := omega) only [go_sem, ↓cw_block, r0, r1, r5, r7, r8, rd]
                    exact fin ⟨by simp (disch := omega) only [go_sem, ↓cw_block, r0, r1, r5, r7, r8, rd], m, os, pl, ac, bs, az, st5⟩
          · clear st st5 e0 e1 e2 B5 f5 hst hH5 r0 r1 r5 r7 r8 rd m0 m1 m2 g1 g2 g3 g4 g5 lb la
            rintro ρ6 H6 ⟨⟨r0, r1, r5, r7, r8, r10, rd⟩, m, os, pl, ac, bs, az, st⟩
            have lb := st.cp.lb
            have la := st.cp.la
            simp (disch := omega) only [go_sem, ↓cw_block, r0, r1, r5, r7, r8, r10, rd]
            refine call_to (len_spec st.hg.ha) ?_
            rintro _ _ ⟨rfl, rfl⟩
            simp (disch := omega) only [go_sem, ↓cw_block, r0, r1, r5, r7, r8, r10, rd]
            refine call_to (rlen_spec st.rh) ?_
            rintro _ _ ⟨rfl, rfl⟩
            rw [st.cp.cnt]
            simp (disch := omega) only [go_sem, ↓cw_block, r0, r1, r5, r7, r8, r10, rd]
            refine loop_by (fun k ρ H7 => ∃ (v : Nat), k = n + 2 - v ∧ v ≤ n + 2 ∧ H6 = H7 ∧ (ρ.get 0 = iv n ∧ ρ.get 1 = .slice (some ⟨b, o, none⟩) rows.length c ∧ ρ.get 5 = hp p ∧ ρ.get 7 = hp q ∧ ρ.get 8 = iv i ∧ ρ.get 15 = iv v ∧ ρ.ds = [])) (k := n + 2) ?_ ?_
            · exact ⟨0, rfl, by omega, rfl, by simp (disch := omega) only [go_sem, ↓cw_block, r0, r1, r5, r7, r8, r10, rd]⟩
            · rintro k ρ7 _ ⟨v, rfl, hv, rfl, ⟨x0, x1, x5, x7, x8, x15, xd⟩⟩
              have hv1 : (v : Int) + 1 = ((v + 1 : Nat) : Int) := by omega
              by_cases hvn : v ≤ n + 1
              · by_cases hin : 1 ≤ v ∧ v ≤ n
                · obtain ⟨j, rfl⟩ : ∃ j : Nat, v = j + 1 := ⟨v - 1, by omega⟩
                  have c0 := st.rh.c0
                  obtain ⟨b2, o2, c2, ew, hc2⟩ := st.rh.vi.at (i := j) (by omega)
                  rw [ew] at c0
                  have ej : max (((j + 1 : Nat) : Int)) 1 - 1 = (j : Int) := by omega
                  simp (disch := omega) only [go_sem, ↓cw_block, x0, x1, x5, x7, x8, x15, xd]
                  refine call_to (has_spec st.hg) ?_
                  rintro _ _ ⟨rfl, rfl⟩
                  have eh : decide (1 ≤ ((j + 1 : Nat) : Int) ∧ ((j + 1 : Nat) : Int) ≤ (n : Int) ∧ nt pl (((j + 1 : Nat) : Int)).toNat ≠ -1) = bt bs j := by
                    rw [Int.toNat_natCast]
                    have := st.cp.inn j (by omega)
                    cases hb : bt bs j with
                    | true => rw [hb] at this; simp only [true_iff] at this; simp [this]; omega
                    | false => rw [hb] at this; simp only [Bool.false_eq_true, false_iff, ne_eq, Classical.not_not] at this; simp [this]
                  rw [eh]
                  simp (disch := omega) only [go_sem, ↓cw_block, x0, x1, x5, x7, x8, x15, xd, c0, ej, hc2, BEq.rfl, Bool.not_true]
                  refine call_to (activity_spec st.hg.ha) ?_
                  rintro _ _ ⟨rfl, rfl⟩
                  simp (disch := omega) only [go_sem, ↓cw_block, x0, x1, x5, x7, x8, x15, xd]
                  refine call_to (ract_spec st.rh (by omega)) ?_
                  rintro _ _ ⟨rfl, rfl⟩
                  have e3 : (((j + 1 : Nat) : Int) - 1).toNat = j := by omega
                  rw [if_pos (by omega), if_pos (by omega), Int.toNat_natCast, e3, st.cp.act j (by omega)]
                  simp (disch := omega) only [go_sem, ↓cw_block, x0, x1, x5, x7, x8, x15, xd]
                  exact fin ⟨n + 2 - (j + 1 + 1), by omega, j + 1 + 1, rfl, by omega, rfl, by simp (disch := omega) only [go_sem, ↓cw_block, x0, x1, x5, x7, x8, x15, xd, hv1]⟩
                · by_cases hv0 : v = 0
                  · subst hv0
                    simp (disch := omega) only [go_sem, ↓cw_block, x0, x1, x5, x7, x8, x15, xd]
                    refine call_to (has_spec st.hg) ?_
                    rintro _ _ ⟨rfl, rfl⟩
                    have eh : decide (1 ≤ (0 : Int) ∧ (0 : Int) ≤ (n : Int) ∧ nt pl (0 : Int).toNat ≠ -1) = false := by simp
                    rw [eh]
                    simp (disch := omega) only [go_sem, ↓cw_block, x0, x1, x5, x7, x8, x15, xd, BEq.rfl, Bool.not_true]
                    refine call_to (activity_spec st.hg.ha) ?_
                    rintro _ _ ⟨rfl, rfl⟩
                    simp (disch := omega) only [go_sem, ↓cw_block, x0, x1, x5, x7, x8, x15, xd]
                    refine call_to (ract_spec st.rh (by omega)) ?_
                    rintro _ _ ⟨rfl, rfl⟩
                    rw [if_neg (by omega), if_neg (by omega)]
                    simp (disch := omega) only [go_sem, ↓cw_block, x0, x1, x5, x7, x8, x15, xd]
                    exact fin ⟨n + 2 - (0 + 1), by omega, 0 + 1, rfl, by omega, rfl, by simp (disch := omega) only [go_sem, ↓cw_block, x0, x1, x5, x7, x8, x15, xd, hv1]; rfl⟩
                  · have hvn2 : v = n + 1 := by omega
                    subst hvn2
                    simp (disch := omega) only [go_sem, ↓cw_block, x0, x1, x5, x7, x8, x15, xd]
                    refine call_to (has_spec st.hg) ?_
                    rintro _ _ ⟨rfl, rfl⟩
                    have eh : decide (1 ≤ ((n + 1 : Nat) : Int) ∧ ((n + 1 : Nat) : Int) ≤ (n : Int) ∧ nt pl (((n + 1 : Nat) : Int)).toNat ≠ -1) = false := by simp; omega
                    rw [eh]
                    simp (disch := omega) only [go_sem, ↓cw_block, x0, x1, x5, x7, x8, x15, xd, BEq.rfl, Bool.not_true]
                    refine call_to (activity_spec st.hg.ha) ?_
                    rintro _ _ ⟨rfl, rfl⟩
                    simp (disch := omega) only [go_sem, ↓cw_block, x0, x1, x5, x7, x8, x15, xd]
                    refine call_to (ract_spec st.rh (by omega)) ?_
                    rintro _ _ ⟨rfl, rfl⟩
                    rw [if_neg (by omega), if_neg (by omega)]
                    simp (disch := omega) only [go_sem, ↓cw_block, x0, x1, x5, x7, x8, x15, xd]
                    exact fin ⟨n + 2 - (n + 1 + 1), by omega, n + 1 + 1, rfl, by omega, rfl, by simp (disch := omega) only [go_sem, ↓cw_block, x0, x1, x5, x7, x8, x15, xd, hv1]⟩
              · simp (disch := omega) only [go_sem, ↓cw_block, x0, x1, x5, x7, x8, x15, xd]
                exact fin ⟨rows.length - (i + 1), by omega, i + 1, rfl, by omega, by simp (disch := omega) only [go_sem, ↓cw_block, x0, x1, x5, x7, x8, x15, xd, hi1], m, os, pl, ac, bs, az, st⟩
        · simp (disch := omega) only [go_sem, ↓cw_block, r0, r1, r5, r7, r8, rd, dsB_of]
          exact fin ⟨rfl, st.fr⟩
    · by_cases hneg : nn < 0
      · simp (disch := omega) only [go_sem, ↓cw_block]
        refine call_to (new_no (n := nn) (by omega)) ?_
        rintro _ _ ⟨rfl, rfl⟩
        simp (disch := omega) only [go_sem, ↓cw_block]
        exact fin ⟨rfl, f1⟩
      · simp (disch := omega) only [go_sem, ↓cw_block]
        refine call_to (new_no (n := nn) (by omega)) ?_
        rintro _ _ ⟨rfl, rfl⟩
        simp (disch := omega) only [go_sem, ↓cw_block]
        exact fin ⟨rfl, f1⟩
end
end Go.Proofs.Ytlgcihoomacljaa
