/- The heap's small functions: what each does to memory. -/
import Derived.Test.YtlgcihoomacljaaT
import Derived.Test.YtlgcihoomacljaaHeapM
namespace Go.Proofs.Ytlgcihoomacljaa
open Go.HL HM
set_option maxRecDepth 10000
set_option linter.unusedSimpArgs false

abbrev hp (p : Nat) : Value := .pointer (some ⟨p, 0, none⟩)
abbrev iv (n : Int) : Value := .int .i64 n
theorem known_spec {H : Heap} {p bp n c : Nat} {v : Int} (hc : cellH H ⟨p, 1, none⟩ = some (.slice (some ⟨bp, 0, none⟩) n c)) :
    CallF Try.prog 24 [hp p, iv v] H (fun r H' => H = H' ∧ r = .bool (decide (1 ≤ v ∧ v < n))) NoP := by
  refine callF_of Try.func24 rfl Try.ntmps24 Try.results24 (by decide) rfl ?_
  by_cases h : 1 ≤ v
  · simp (disch := omega) only [go_sem, ↓cw_block, hc]
    exact fin ⟨rfl, by simp [h]⟩
  · simp (disch := omega) only [go_sem, ↓cw_block, hc]
    exact fin ⟨rfl, by simp [h]⟩

theorem before_spec {H : Heap} {p ba c : Nat} {ac : List Int} {v w : Int} (hc : cellH H ⟨p, 2, none⟩ = some (.slice (some ⟨ba, 0, none⟩) ac.length c)) (ha : IB H ba 2 ac)
    (hv : 0 ≤ v ∧ v < ac.length) (hw : 0 ≤ w ∧ w < ac.length) :
    CallF Try.prog 29 [hp p, iv v, iv w] H
      (fun r H' => H = H' ∧ r = .bool (decide (nt ac w.toNat < nt ac v.toNat ∨ nt ac v.toNat = nt ac w.toNat ∧ v < w))) NoP := by
  have c1 := ha.cell (i := v.toNat) (by omega)
  have c2 := ha.cell (i := w.toNat) (by omega)
  refine callF_of Try.func29 rfl Try.ntmps29 Try.results29 (by decide) rfl ?_
  simp (disch := omega) only [go_sem, ↓cw_block]
  refine draw0 (lk [(0, true), (1, true), (2, true), (3, true), (4, true), (5, true), (6, true), (7, true), (8, true), (9, true), (10, true), (11, true), (12, true), (13, true), (14, true)] .fin) T.mixed ?_
  simp (disch := omega) only [go_sem, ↓cw_block, hc, c1, c2]
  refine cond_dec (fun h => ?_) (fun h => ?_)
  · simp (disch := omega) only [go_sem, ↓cw_block]
    refine draw0 (lk [(0, true), (1, true), (2, true), (3, true), (4, true), (5, true), (6, true), (7, true), (8, true), (9, true), (10, true), (11, true), (12, true), (13, true), (14, true), (15, true)] .fin) T.mixed ?_
    simp (disch := omega) only [go_sem, ↓cw_block, hc, c1, c2]
    exact fin ⟨rfl, by simp [h]⟩
  · simp (disch := omega) only [go_sem, ↓cw_block]
    exact fin ⟨rfl, by simp at h; simp [h]⟩

/-- A heap in memory: the struct at p, its three lists at bo, bp, ba. -/
structure HA (H : Heap) (p bo bp ba n m : Nat) (os pl ac : List Int) : Prop where
  self : Blk H p 48 [.slice (some ⟨bo, 0, none⟩) m n, .slice (some ⟨bp, 0, none⟩) (n + 1) (n + 1), .slice (some ⟨ba, 0, none⟩) (n + 1) (n + 1)]
  io : IB H bo 3 os
  ip : IB H bp 3 pl
  ia : IB H ba 2 ac
  lo : os.length = n
  lp : pl.length = n + 1
  la : ac.length = n + 1
  ne : p ≠ bo ∧ p ≠ bp ∧ p ≠ ba ∧ bo ≠ bp ∧ bo ≠ ba ∧ bp ≠ ba
  big : n ≤ 100000
section
variable {H : Heap} {p bo bp ba n m : Nat} {os pl ac : List Int}
theorem HA.c0 (h : HA H p bo bp ba n m os pl ac) : cellH H ⟨p, 0, none⟩ = some (.slice (some ⟨bo, 0, none⟩) m n) := h.self.cell 0
theorem HA.c1 (h : HA H p bo bp ba n m os pl ac) : cellH H ⟨p, 1, none⟩ = some (.slice (some ⟨bp, 0, none⟩) (n + 1) (n + 1)) := h.self.cell 1
theorem HA.c2 (h : HA H p bo bp ba n m os pl ac) : cellH H ⟨p, 2, none⟩ = some (.slice (some ⟨ba, 0, none⟩) (n + 1) (n + 1)) := h.self.cell 2
theorem HA.frame {H' : Heap} {F : List Nat} (h : HA H p bo bp ba n m os pl ac) (hf : Fr F H H') (h1 : p ∉ F) (h2 : bo ∉ F) (h3 : bp ∉ F) (h4 : ba ∉ F) : HA H' p bo bp ba n m os pl ac :=
  ⟨hf.blk h.self h1, hf.blk h.io h2, hf.blk h.ip h3, hf.blk h.ia h4, h.lo, h.lp, h.la, h.ne, h.big⟩

theorem set_spec (h : HA H p bo bp ba n m os pl ac) {i v : Int} (hi : 0 ≤ i ∧ i < m) (hm : m ≤ n) (hv : 0 ≤ v ∧ v ≤ n) :
    CallF Try.prog 26 [hp p, iv i, iv v] H
      (fun r H' => r = .tuple #[] ∧ HA H' p bo bp ba n m (os.set i.toNat v) (pl.set v.toNat i) ac ∧ Fr [bo, bp] H H') NoP := by
  have hn := h.ne
  have hlo := h.lo
  have hlp := h.lp
  have c0 := h.c0
  have w1 := h.io.wr (i := i.toNat) (by omega)
  have g1 := h.io.set i.toNat v
  have c1 := (h.self.set_other (a := ⟨bo, i.toNat, none⟩) (v := iv v) hn.1).cell 1
  have p1 := h.ip.set_other (a := ⟨bo, i.toNat, none⟩) (v := iv v) hn.2.2.2.1.symm
  have w2 := p1.wr (i := v.toNat) (by omega)
  refine callF_of Try.func26 rfl Try.ntmps26 Try.results26 (by decide) rfl ?_
  simp (disch := omega) only [go_sem, ↓cw_block, c0, w1, c1, w2]
  refine fin ⟨rfl, ⟨?_, ?_, ?_, ?_, by simp [hlo], by simp [hlp], h.la, hn, h.big⟩, (Fr.set (by simp)).trans (Fr.set (by simp))⟩
  · exact (h.self.set_other hn.1).set_other hn.2.1
  · exact g1.set_other hn.2.2.2.1
  · exact p1.set _ _
  · exact (h.ia.set_other hn.2.2.2.2.1.symm).set_other hn.2.2.2.2.2.symm

theorem up_spec (h : HA H p bo bp ba n m os pl ac) {i : Nat} (hok : Ok n m (nt os) (up1 (nt pl) (nt os i).toNat i)) (hi : i < m) (hu : UpInv (nt ac) m (nt os) i) :
    CallF Try.prog 25 [hp p, iv i] H
      (fun r H' => r = .tuple #[] ∧ Fr [bo, bp] H H' ∧ ∃ os' pl', HA H' p bo bp ba n m os' pl' ac ∧ Ok n m (nt os') (nt pl') ∧ OrdAll (nt ac) m (nt os') ∧ ∀ v, (nt pl' v = -1 ↔ up1 (nt pl) (nt os i).toNat i v = -1)) NoP := by
  have hlo := h.lo
  have hlp := h.lp
  have hla := h.la
  have hmn := hok.le
  have hbig := h.big
  have hri := hok.rng i hi
  have c0 := h.c0
  have ci := h.io.cell (i := i) (by omega)
  refine callF_of Try.func25 rfl Try.ntmps25 Try.results25 (by decide) rfl ?_
  simp (disch := omega) only [go_sem, ↓cw_block, c0, ci, Int.toNat_natCast]
  refine loop_by (fun k ρ H1 => ∃ (j : Nat) (os1 pl1 : List Int), k = j ∧ j < m ∧ (ρ.get 0 = hp p ∧ ρ.get 1 = iv j ∧ ρ.get 4 = iv (nt os i) ∧ ρ.ds = []) ∧ HA H1 p bo bp ba n m os1 pl1 ac ∧ Fr [bo, bp] H H1 ∧
    Ok n m (up1 (nt os1) j (nt os i)) (up1 (nt pl1) (nt os i).toNat j) ∧ UpInv (nt ac) m (up1 (nt os1) j (nt os i)) j ∧ ∀ v, (up1 (nt pl1) (nt os i).toNat j v = -1 ↔ up1 (nt pl) (nt os i).toNat i v = -1)) (k := i) ?_ ?_
  · have e1 : up1 (nt os) i (nt os i) = nt os := by funext j; unfold up1; split <;> simp_all
    refine ⟨i, os, pl, rfl, hi, by simp (disch := omega) only [go_sem, ↓cw_block, Int.toNat_natCast], h, Fr.refl _ _, ?_, ?_, ?_⟩
    · rw [e1]; exact hok
    · rw [e1]; exact hu
    · exact fun _ => Iff.rfl
  · rintro k ρ H1 ⟨j, os1, pl1, rfl, hj, ⟨r0, r1, r4, rd⟩, h1, hf, hok1, hu1, hc1⟩
    have hlo1 := h1.lo
    have hlp1 := h1.lp
    have hn := h1.ne
    have c2' : cellH H1 ⟨p, 2, none⟩ = some (.slice (some ⟨ba, 0, none⟩) ac.length (n + 1)) := by rw [hla]; exact h1.c2
    have d0 := h1.c0
    have last : ∀ (ρ' : En), ρ'.get 0 = hp p → ρ'.get 1 = iv k → ρ'.get 4 = iv (nt os i) → ρ'.ds = [] → (k = 0 ∨ ¬ bf (nt ac) (nt os i) (nt os1 (par k))) →
        HA H1 p bo bp ba n m os1 pl1 ac → CallF Try.prog 26 [hp p, iv k, iv (nt os i)] H1 (fun r H' => r = .tuple #[] ∧ Fr [bo, bp] H H' ∧ ∃ os' pl', HA H' p bo bp ba n m os' pl' ac ∧ Ok n m (nt os') (nt pl') ∧ OrdAll (nt ac) m (nt os') ∧ ∀ v, (nt pl' v = -1 ↔ up1 (nt pl) (nt os i).toNat i v = -1)) NoP := by
      intro ρ' _ _ _ _ he _
      refine (set_spec h1 (by omega) hmn (by omega)).to ?_
      rintro v H' ⟨rfl, h2, hf2⟩
      simp only [Int.toNat_natCast] at h2
      refine ⟨rfl, hf.trans hf2, _, _, h2, ?_, ?_, ?_⟩
      · rw [nt_set (by omega), nt_set (by omega)]; exact hok1
      · rw [nt_set (by omega)]
        refine hu1.done ?_
        rcases he with he | he
        · exact .inl he
        · by_cases hk0 : k = 0
          · exact .inl hk0
          · right
            unfold up1
            have : ¬ par k = k := by unfold par; omega
            rw [if_pos rfl, if_neg this]
            exact he
      · rw [nt_set (by omega)]; exact hc1
    simp (disch := omega) only [go_sem, ↓cw_block, r0, r1, r4, rd]
    refine cond_dec (fun hk0 => ?_) (fun hk0 => ?_)
    · have hq : ((k : Int) - 1) / 2 = ((par k : Nat) : Int) := by unfold par; omega
      have hqk : par k < k := by unfold par; omega
      have dp := h1.io.cell (i := par k) (by omega)
      have rp := hok1.rng (par k) (by omega)
      have e1 : up1 (nt os1) k (nt os i) (par k) = nt os1 (par k) := if_neg (by omega)
      rw [e1] at rp
      simp (disch := omega) only [go_sem, ↓cw_block, r0, r1, r4, rd, hq, d0, dp]
      refine call_to (before_spec c2' h1.ia (by omega) (by omega)) ?_
      rintro _ _ ⟨rfl, rfl⟩
      simp (disch := omega) only [go_sem, ↓cw_block, r0, r1, r4, rd]
      refine cond_dec (fun hb => ?_) (fun hb => ?_)
      · simp (disch := omega) only [go_sem, ↓cw_block, r0, r1, r4, rd]
        refine call_to (last ρ r0 r1 r4 rd (.inr ?_) h1) ?_
        · exact hb
        · rintro v H' hx
          simp (disch := omega) only [go_sem, ↓cw_block, rd, dsB_of]
          exact fin ⟨rfl, hx.2⟩
      · have hb' : bf (nt ac) (nt os i) (nt os1 (par k)) := by unfold bf; exact Classical.not_not.1 hb
        simp (disch := omega) only [go_sem, ↓cw_block, r0, r1, r4, rd, d0, dp]
        refine call_to (set_spec h1 (by omega) hmn (by omega)) ?_
        rintro v H' ⟨rfl, h2, hf2⟩
        simp (disch := omega) only [go_sem, ↓cw_block, r0, r1, r4, rd]
        have hst := hu1.step (by omega) hj (by rw [e1]; unfold up1; rw [if_pos rfl]; exact hb')
        have hsw := hok1.swap hj (p := par k) (by omega) (by omega)
        rw [e1] at hsw
        have ek : up1 (nt os1) k (nt os i) k = nt os i := if_pos rfl
        rw [ek] at hsw
        have eO : up1 (nt (os1.set k (nt os1 (par k)))) (par k) (nt os i) = swp (up1 (nt os1) k (nt os i)) k (par k) := by
          rw [nt_set (by omega)]
          funext x
          unfold swp up1
          by_cases x1 : x = par k
          · simp [x1]
          · by_cases x2 : x = k
            · subst x2
              have : ¬ par x = x := by omega
              simp [x1, this]
            · simp [x1, x2]
        have eL : up1 (nt (pl1.set (nt os1 (par k)).toNat k)) (nt os i).toNat (par k) = up1 (up1 (up1 (nt pl1) (nt os i).toNat k) (nt os1 (par k)).toNat k) (nt os i).toNat (par k) := by
          rw [nt_set (by omega)]
          funext x
          unfold up1
          by_cases x1 : x = (nt os i).toNat
          · simp [x1]
          · simp [x1]
        refine fin ⟨par k, hqk, par k, _, _, rfl, by omega, by simp (disch := omega) only [go_sem, ↓cw_block, r0, r1, r4, rd], h2, hf.trans hf2, ?_, ?_, ?_⟩
        · rw [Int.toNat_natCast, eO, eL]; exact hsw
        · rw [Int.toNat_natCast, eO]; exact hst
        · intro v
          rw [eL]
          have := hc1 v
          rw [← this]
          have rk := hok1.rng k hj
          rw [ek] at rk
          have rpp := rp.2.2
          unfold up1 at rpp this ⊢
          by_cases x1 : v = (nt os i).toNat
          · simp [x1]
          · simp only [x1, if_false]
            by_cases x2 : v = (nt os1 (par k)).toNat
            · subst x2
              simp only [if_true]
              rw [if_neg x1] at rpp
              omega
            · simp only [x2, if_false]
    · have hk0' : k = 0 := by omega
      simp (disch := omega) only [go_sem, ↓cw_block, r0, r1, r4, rd]
      refine call_to (last ρ r0 r1 r4 rd (.inl hk0') h1) ?_
      rintro v H' hx
      simp (disch := omega) only [go_sem, ↓cw_block, rd, dsB_of]
      exact fin ⟨rfl, hx.2⟩

theorem down_spec (h : HA H p bo bp ba n m os pl ac) (hok : Ok n m (nt os) (nt pl)) {i : Nat} (hi : i < m) (hd : ∀ j, 0 < j → j < m → i < par j → ¬ bf (nt ac) (nt os j) (nt os (par j))) :
    CallF Try.prog 27 [hp p, iv i] H
      (fun r H' => r = .tuple #[] ∧ Fr [bo, bp] H H' ∧ ∃ os' pl', HA H' p bo bp ba n m os' pl' ac ∧ Ok n m (nt os') (nt pl') ∧ (∀ j, 0 < j → j < m → i ≤ par j → ¬ bf (nt ac) (nt os' j) (nt os' (par j))) ∧ ∀ v, (nt pl' v = -1 ↔ nt pl v = -1)) NoP := by
  have hlo := h.lo
  have hlp := h.lp
  have hla := h.la
  have hmn := hok.le
  have hbig := h.big
  have hri := hok.rng i hi
  have c0 := h.c0
  have ci := h.io.cell (i := i) (by omega)
  refine callF_of Try.func27 rfl Try.ntmps27 Try.results27 (by decide) rfl ?_
  simp (disch := omega) only [go_sem, ↓cw_block, c0, ci]
  refine loop_by (fun k ρ H1 => ∃ (j : Nat) (os1 pl1 : List Int), k = m - j ∧ j < m ∧ i ≤ j ∧ (ρ.get 0 = hp p ∧ ρ.get 1 = iv j ∧ ρ.get 4 = iv (nt os i) ∧ ρ.ds = []) ∧ HA H1 p bo bp ba n m os1 pl1 ac ∧ Fr [bo, bp] H H1 ∧
    Ok n m (up1 (nt os1) j (nt os i)) (up1 (nt pl1) (nt os i).toNat j) ∧ DnInv (nt ac) m (up1 (nt os1) j (nt os i)) i j ∧ ∀ v, (up1 (nt pl1) (nt os i).toNat j v = -1 ↔ nt pl v = -1)) (k := m - i) ?_ ?_
  · have e1 : up1 (nt os) i (nt os i) = nt os := by funext j; unfold up1; split <;> simp_all
    have e2 : up1 (nt pl) (nt os i).toNat i = nt pl := by funext j; unfold up1; split <;> simp_all
    refine ⟨i, os, pl, rfl, hi, Nat.le_refl _, by simp (disch := omega) only [go_sem, ↓cw_block], h, Fr.refl _ _, ?_, ?_, ?_⟩
    · rw [e1, e2]; exact hok
    · rw [e1]; exact ⟨fun j a b c d => hd j a b (by omega), fun e => absurd rfl e⟩
    · rw [e2]; exact fun _ => Iff.rfl
  · rintro _ ρ H1 ⟨k, os1, pl1, rfl, hj, hik, ⟨r0, r1, r4, rd⟩, h1, hf, hok1, hu1, hc1⟩
    have hlo1 := h1.lo
    have hlp1 := h1.lp
    have hn := h1.ne
    have c2' : cellH H1 ⟨p, 2, none⟩ = some (.slice (some ⟨ba, 0, none⟩) ac.length (n + 1)) := by rw [hla]; exact h1.c2
    have d0 := h1.c0
    have last : (∀ c, 0 < c → c < m → par c = k → ¬ bf (nt ac) (nt os1 c) (nt os i)) → CallF Try.prog 26 [hp p, iv k, iv (nt os i)] H1 (fun r H' => r = .tuple #[] ∧ Fr [bo, bp] H H' ∧
        ∃ os' pl', HA H' p bo bp ba n m os' pl' ac ∧ Ok n m (nt os') (nt pl') ∧ (∀ j, 0 < j → j < m → i ≤ par j → ¬ bf (nt ac) (nt os' j) (nt os' (par j))) ∧ ∀ v, (nt pl' v = -1 ↔ nt pl v = -1)) NoP := by
      intro he
      refine (set_spec h1 (by omega) hmn (by omega)).to ?_
      rintro v H' ⟨rfl, h2, hf2⟩
      simp only [Int.toNat_natCast] at h2
      refine ⟨rfl, hf.trans hf2, _, _, h2, ?_, ?_, ?_⟩
      · rw [nt_set (by omega), nt_set (by omega)]; exact hok1
      · rw [nt_set (by omega)]
        refine hu1.done ?_
        intro c hc hcm hpc
        unfold up1
        have : ¬ c = k := by unfold par at hpc; omega
        rw [if_pos rfl, if_neg this]
        exact he c hc hcm hpc
      · rw [nt_set (by omega)]; exact hc1
    have step : ∀ c : Nat, c < m → 0 < c → par c = k → (∀ c', 0 < c' → c' < m → par c' = k → ¬ bf (nt ac) (nt os1 c') (nt os1 c)) → bf (nt ac) (nt os1 c) (nt os i) →
        CallF Try.prog 26 [hp p, iv k, iv (nt os1 c)] H1 (fun r H' => r = .tuple #[] ∧ Fr [bo, bp] H H' ∧
          ∃ os' pl', HA H' p bo bp ba n m os' pl' ac ∧ Ok n m (up1 (nt os') c (nt os i)) (up1 (nt pl') (nt os i).toNat c) ∧ DnInv (nt ac) m (up1 (nt os') c (nt os i)) i c ∧ ∀ v, (up1 (nt pl') (nt os i).toNat c v = -1 ↔ nt pl v = -1)) NoP := by
      intro c hcm hc0 hpc hbest hb
      have hkc : k < c := by unfold par at hpc; omega
      have e1 : up1 (nt os1) k (nt os i) c = nt os1 c := if_neg (by omega)
      have ek : up1 (nt os1) k (nt os i) k = nt os i := if_pos rfl
      have rp := hok1.rng c hcm
      rw [e1] at rp
      refine (set_spec h1 (by omega) hmn (by omega)).to ?_
      rintro v H' ⟨rfl, h2, hf2⟩
      simp only [Int.toNat_natCast] at h2
      have hst := hu1.step (c := c) hik hj hcm hc0 hpc (by
        intro c' h0' hm' hp'
        have : up1 (nt os1) k (nt os i) c' = nt os1 c' := if_neg (by unfold par at hp'; omega)
        rw [this, e1]; exact hbest c' h0' hm' hp') (by rw [e1, ek]; exact hb)
      have hsw := hok1.swap hj (p := c) hcm (by omega)
      rw [e1, ek] at hsw
      have eO : up1 (nt (os1.set k (nt os1 c))) c (nt os i) = swp (up1 (nt os1) k (nt os i)) k c := by
        rw [nt_set (by omega)]
        funext x
        unfold swp up1
        by_cases x1 : x = c
        · simp [x1]
        · by_cases x2 : x = k
          · subst x2
            have : ¬ c = x := by omega
            simp [x1, this]
          · simp [x1, x2]
      have eL : up1 (nt (pl1.set (nt os1 c).toNat k)) (nt os i).toNat c = up1 (up1 (up1 (nt pl1) (nt os i).toNat k) (nt os1 c).toNat k) (nt os i).toNat c := by
        rw [nt_set (by omega)]
        funext x
        unfold up1
        by_cases x1 : x = (nt os i).toNat
        · simp [x1]
        · simp [x1]
      refine ⟨rfl, hf.trans hf2, _, _, h2, ?_, ?_, ?_⟩
      · rw [eO, eL]; exact hsw
      · rw [eO]; exact hst
      · intro v
        rw [eL]
        have := hc1 v
        rw [← this]
        have rk := hok1.rng k hj
        rw [ek] at rk
        have rpp := rp.2.2
        unfold up1 at rpp this ⊢
        by_cases x1 : v = (nt os i).toNat
        · simp [x1]
        · simp only [x1, if_false]
          by_cases x2 : v = (nt os1 c).toNat
          · subst x2
            simp only [if_true]
            rw [if_neg x1] at rpp
            omega
          · simp only [x2, if_false]
    simp (disch := omega) only [go_sem, ↓cw_block, r0, r1, r4, rd, d0]
    refine cond_dec (fun hk0 => ?_) (fun hk0 => ?_)
    · simp (disch := omega) only [go_sem, ↓cw_block, r0, r1, r4, rd]
      refine call_to (last ?_) ?_
      · intro c hc hcm hpc; unfold par at hpc; omega
      · rintro v H' hx
        simp (disch := omega) only [go_sem, ↓cw_block, rd, dsB_of]
        exact fin ⟨rfl, hx.2⟩
    · obtain ⟨c, hce⟩ : ∃ c : Nat, c = 2 * k + 1 := ⟨_, rfl⟩
      have hk1 : 2 * (k : Int) + 1 = (c : Int) := by omega
      have hk2 : (c : Int) + 1 = ((c + 1 : Nat) : Int) := by omega
      have rc := hok1.rng c (by omega)
      have e1 : up1 (nt os1) k (nt os i) c = nt os1 c := if_neg (by omega)
      rw [e1] at rc
      have dc := h1.io.cell (i := c) (by omega)
      by_cases hc2 : c + 1 < m
      · have rd2 := hok1.rng (c + 1) hc2
        have e2 : up1 (nt os1) k (nt os i) (c + 1) = nt os1 (c + 1) := if_neg (by omega)
        rw [e2] at rd2
        have dd := h1.io.cell (i := c + 1) (by omega)
        simp (disch := omega) only [go_sem, ↓cw_block, r0, r1, r4, rd, hk1, hk2]
        refine draw0 (lk [(0, true), (1, true), (2, true), (3, true), (4, true), (5, true), (6, true), (7, true), (8, true), (9, true), (10, true), (11, true), (12, true), (13, true), (14, true), (15, true), (16, true), (17, true), (18, true), (19, true), (20, true), (21, true), (22, true), (23, true), (24, true)] (.act 25 (lk [(26, true)] .fin) .non)) T.mixed ?_
        simp (disch := omega) only [go_sem, ↓cw_block, r0, r1, r4, rd, hk1, hk2, d0, dc, dd]
        refine call_to (before_spec c2' h1.ia (by omega) (by omega)) ?_
        rintro _ _ ⟨rfl, rfl⟩
        simp (disch := omega) only [go_sem, ↓cw_block, r0, r1, r4, rd]
        refine cond_dec (fun hb => ?_) (fun hb => ?_)
        · have best : ∀ c', 0 < c' → c' < m → par c' = k → ¬ bf (nt ac) (nt os1 c') (nt os1 (c + 1)) := by
            intro c' h0' hm' hp'
            have : c' = c ∨ c' = c + 1 := by unfold par at hp'; omega
            rcases this with rfl | rfl
            · exact bf_asym hb
            · exact bf_irr
          simp (disch := omega) only [go_sem, ↓cw_block, r0, r1, r4, rd, hk1, hk2, d0, dc, dd]
          refine call_to (before_spec c2' h1.ia (by omega) (by omega)) ?_
          rintro _ _ ⟨rfl, rfl⟩
          simp (disch := omega) only [go_sem, ↓cw_block, r0, r1, r4, rd]
          refine cond_dec (fun hb2 => ?_) (fun hb2 => ?_)
          · simp (disch := omega) only [go_sem, ↓cw_block, r0, r1, r4, rd]
            refine call_to (last ?_) ?_
            · intro c' h0' hm' hp'
              refine bf_trans (best c' h0' hm' hp') ?_
              unfold bf; exact hb2
            · rintro v H' hx
              simp (disch := omega) only [go_sem, ↓cw_block, rd, dsB_of]
              exact fin ⟨rfl, hx.2⟩
          · simp (disch := omega) only [go_sem, ↓cw_block, r0, r1, r4, rd, d0, hk1, hk2, dc, dd]
            refine call_to (step (c + 1) (by omega) (by omega) (by unfold par; omega) (best) (by unfold bf; exact Classical.not_not.1 hb2)) ?_
            rintro v H' ⟨rfl, hf2, os2, pl2, h2, hok2, hd2, hc2⟩
            simp (disch := omega) only [go_sem, ↓cw_block, r0, r1, r4, rd]
            exact fin ⟨m - (c + 1), by omega, c + 1, os2, pl2, rfl, by omega, by omega, by simp (disch := omega) only [go_sem, ↓cw_block, r0, r1, r4, rd, hk1, hk2], h2, hf2, hok2, hd2, hc2⟩
        · have best : ∀ c', 0 < c' → c' < m → par c' = k → ¬ bf (nt ac) (nt os1 c') (nt os1 c) := by
            intro c' h0' hm' hp'
            have : c' = c ∨ c' = c + 1 := by unfold par at hp'; omega
            rcases this with rfl | rfl
            · exact bf_irr
            · exact hb
          simp (disch := omega) only [go_sem, ↓cw_block, r0, r1, r4, rd, hk1, hk2, d0, dc, dd]
          refine call_to (before_spec c2' h1.ia (by omega) (by omega)) ?_
          rintro _ _ ⟨rfl, rfl⟩
          simp (disch := omega) only [go_sem, ↓cw_block, r0, r1, r4, rd]
          refine cond_dec (fun hb2 => ?_) (fun hb2 => ?_)
          · simp (disch := omega) only [go_sem, ↓cw_block, r0, r1, r4, rd]
            refine call_to (last ?_) ?_
            · intro c' h0' hm' hp'
              refine bf_trans (best c' h0' hm' hp') ?_
              unfold bf; exact hb2
            · rintro v H' hx
              simp (disch := omega) only [go_sem, ↓cw_block, rd, dsB_of]
              exact fin ⟨rfl, hx.2⟩
          · simp (disch := omega) only [go_sem, ↓cw_block, r0, r1, r4, rd, d0, hk1, hk2, dc, dd]
            refine call_to (step (c) (by omega) (by omega) (by unfold par; omega) (best) (by unfold bf; exact Classical.not_not.1 hb2)) ?_
            rintro v H' ⟨rfl, hf2, os2, pl2, h2, hok2, hd2, hc2⟩
            simp (disch := omega) only [go_sem, ↓cw_block, r0, r1, r4, rd]
            exact fin ⟨m - (c), by omega, c, os2, pl2, rfl, by omega, by omega, by simp (disch := omega) only [go_sem, ↓cw_block, r0, r1, r4, rd, hk1, hk2], h2, hf2, hok2, hd2, hc2⟩
      · have best : ∀ c', 0 < c' → c' < m → par c' = k → ¬ bf (nt ac) (nt os1 c') (nt os1 c) := by
          intro c' h0' hm' hp'
          have : c' = c := by unfold par at hp'; omega
          subst this
          exact bf_irr
        simp (disch := omega) only [go_sem, ↓cw_block, r0, r1, r4, rd, hk1, hk2]
        refine draw0 (lk [(0, true), (1, true), (2, true), (3, true), (4, true), (5, true), (6, true), (7, true), (8, true), (9, true), (10, true), (11, true), (12, true), (13, true), (14, true), (15, true), (16, true), (17, true), (18, true), (19, true), (20, true), (21, true), (22, true), (23, true), (24, true)] (.act 25 (lk [(26, true)] .fin) .non)) T.mixed ?_
        simp (disch := omega) only [go_sem, ↓cw_block, r0, r1, r4, rd, hk1, hk2, d0, dc]
        refine call_to (before_spec c2' h1.ia (by omega) (by omega)) ?_
        rintro _ _ ⟨rfl, rfl⟩
        simp (disch := omega) only [go_sem, ↓cw_block, r0, r1, r4, rd]
        refine cond_dec (fun hb2 => ?_) (fun hb2 => ?_)
        · simp (disch := omega) only [go_sem, ↓cw_block, r0, r1, r4, rd]
          refine call_to (last ?_) ?_
          · intro c' h0' hm' hp'
            refine bf_trans (best c' h0' hm' hp') ?_
            unfold bf; exact hb2
          · rintro v H' hx
            simp (disch := omega) only [go_sem, ↓cw_block, rd, dsB_of]
            exact fin ⟨rfl, hx.2⟩
        · simp (disch := omega) only [go_sem, ↓cw_block, r0, r1, r4, rd, d0, hk1, hk2, dc, dc]
          refine call_to (step (c) (by omega) (by omega) (by unfold par; omega) (best) (by unfold bf; exact Classical.not_not.1 hb2)) ?_
          rintro v H' ⟨rfl, hf2, os2, pl2, h2, hok2, hd2, hc2⟩
          simp (disch := omega) only [go_sem, ↓cw_block, r0, r1, r4, rd]
          exact fin ⟨m - (c), by omega, c, os2, pl2, rfl, by omega, by omega, by simp (disch := omega) only [go_sem, ↓cw_block, r0, r1, r4, rd, hk1, hk2], h2, hf2, hok2, hd2, hc2⟩
end
end Go.Proofs.Ytlgcihoomacljaa
