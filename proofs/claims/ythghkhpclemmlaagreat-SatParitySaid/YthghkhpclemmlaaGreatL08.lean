/- The heap's methods: what each does to a heap in memory. -/
import Derived.Test.YthghkhpclemmlaaGreatL07
namespace Go.Proofs.YthghkhpclemmlaaGreat
open Go.HL HM
set_option maxRecDepth 10000
set_option linter.unusedSimpArgs false

/-- A heap in memory that is in order. -/
structure HG (H : Heap) (p bo bp ba n m : Nat) (os pl ac : List Int) : Prop where
  ha : HA H p bo bp ba n m os pl ac
  ok : Ok n m (nt os) (nt pl)
  ord : OrdAll (nt ac) m (nt os)
  act : ∀ v, v ≤ n → 0 ≤ nt ac v ∧ nt ac v ≤ 1152921504606846976
theorem HG.frame {H H' : Heap} {F : List Nat} {p bo bp ba n m : Nat} {os pl ac : List Int} (h : HG H p bo bp ba n m os pl ac) (hf : Fr F H H') (h1 : p ∉ F) (h2 : bo ∉ F) (h3 : bp ∉ F) (h4 : ba ∉ F) : HG H' p bo bp ba n m os pl ac :=
  ⟨h.ha.frame hf h1 h2 h3 h4, h.ok, h.ord, h.act⟩
section
variable {H : Heap} {p bo bp ba n m : Nat} {os pl ac : List Int}

theorem HG.place (h : HG H p bo bp ba n m os pl ac) {v : Nat} (hv : v ≤ n) : -1 ≤ nt pl v ∧ nt pl v < m ∧ (nt pl v ≠ -1 → 0 ≤ nt pl v) := by
  by_cases h0 : v = 0
  · subst h0; rw [h.ok.zero]; omega
  · rcases h.ok.pos v (by omega) hv with h1 | h1
    · rw [h1]; omega
    · omega

theorem next_none (h : HG H p bo bp ba n 0 os pl ac) :
    CallF Tryz.prog 69 [hp p] H (fun r H' => H = H' ∧ r = .tuple #[iv 0, .bool false]) NoP := by
  have c0 := h.ha.c0
  refine callF_of Tryz.func69 rfl Tryz.ntmps69 Tryz.results69 (by decide) rfl ?_
  simp (disch := omega) only [go_sem, ↓cw_block, dsB_of, c0]
  exact fin ⟨rfl, rfl⟩

theorem next_some (h : HG H p bo bp ba n m os pl ac) (hm : 0 < m) :
    CallF Tryz.prog 69 [hp p] H (fun r H' => r = .tuple #[iv (nt os 0), .bool true] ∧ Fr [p, bo, bp] H H' ∧
      ∃ os' pl', HG H' p bo bp ba n (m - 1) os' pl' ac ∧ ∀ v, (nt pl' v = -1 ↔ nt pl v = -1 ∨ v = (nt os 0).toNat)) NoP := by
  have c0 := h.ha.c0
  have hlo := h.ha.lo
  have hlp := h.ha.lp
  have hmn := h.ok.le
  have hbig := h.ha.big
  have hn := h.ha.ne
  have d0 := h.ha.io.cell (i := 0) (by omega)
  have dl := h.ha.io.cell (i := m - 1) (by omega)
  have hml : (m : Int) - 1 = ((m - 1 : Nat) : Int) := by omega
  have r0 := h.ok.rng 0 hm
  have rl := h.ok.rng (m - 1) (by omega)
  have w0 := h.ha.self.wr (i := 0) (by simp)
  have b1 := h.ha.self.set 0 (.slice (some ⟨bo, 0, none⟩) (m - 1) n)
  have c1 : cellH (setH H ⟨p, 0, none⟩ (.slice (some ⟨bo, 0, none⟩) (m - 1) n)) ⟨p, 1, none⟩ = some (.slice (some ⟨bp, 0, none⟩) (n + 1) (n + 1)) := b1.cell 1
  have p1 := h.ha.ip.set_other (a := ⟨p, 0, none⟩) (v := .slice (some ⟨bo, 0, none⟩) (m - 1) n) hn.2.1.symm
  have w1 := p1.wr (i := (nt os 0).toNat) (by omega)
  have p2 := p1.set (nt os 0).toNat (-1)
  have ha2 : HA (setH (setH H ⟨p, 0, none⟩ (.slice (some ⟨bo, 0, none⟩) (m - 1) n)) ⟨bp, (nt os 0).toNat, none⟩ (.int .i64 (-1))) p bo bp ba n (m - 1) os (pl.set (nt os 0).toNat (-1)) ac :=
    ⟨b1.set_other hn.2.1, (h.ha.io.set_other hn.1.symm).set_other hn.2.2.2.1, p2, (h.ha.ia.set_other hn.2.2.1.symm).set_other hn.2.2.2.2.2.symm, hlo, by simp [hlp], h.ha.la, hn, hbig⟩
  have f2 : Fr [p, bo, bp] H (setH (setH H ⟨p, 0, none⟩ (.slice (some ⟨bo, 0, none⟩) (m - 1) n)) ⟨bp, (nt os 0).toNat, none⟩ (.int .i64 (-1))) := (Fr.set (by simp)).trans (Fr.set (by simp))
  refine callF_of Tryz.func69 rfl Tryz.ntmps69 Tryz.results69 (by decide) rfl ?_
  simp (disch := omega) only [go_sem, ↓cw_block, dsB_of, c0, d0, hml, dl, w0, c1, w1]

  by_cases h1 : 1 < m
  · simp (disch := omega) only [go_sem, ↓cw_block, dsB_of, c0, d0, hml, dl, w0, c1, w1]
    refine call_to (set_spec ha2 (i := 0) (v := nt os (m - 1)) (by omega) (by omega) (by omega)) ?_
    rintro v H3 ⟨rfl, ha3, f3⟩
    simp (disch := omega) only [go_sem, ↓cw_block, dsB_of]
    have hpop := h.ok.pop h1
    have eO : nt (os.set (0 : Int).toNat (nt os (m - 1))) = up1 (nt os) 0 (nt os (m - 1)) := nt_set (by simp; omega)
    have eL : nt ((pl.set (nt os 0).toNat (-1)).set (nt os (m - 1)).toNat 0) = up1 (up1 (nt pl) (nt os 0).toNat (-1)) (nt os (m - 1)).toNat 0 := by
      rw [nt_set (by simp; omega), nt_set (by omega)]
    refine call_to (down_spec (i := 0) ha3 (by rw [eO, eL]; exact hpop) (by omega) ?_) ?_
    · intro j hj hjm hpj
      rw [eO]
      have hpj' : par j < j := by unfold par; omega
      unfold up1
      rw [if_neg (by omega), if_neg (by omega)]
      exact h.ord j hj (by omega)
    · rintro v H4 ⟨rfl, f4, os', pl', ha4, ok4, ord4, same4⟩
      simp (disch := omega) only [go_sem, ↓cw_block, dsB_of]
      refine fin ⟨rfl, f2.trans ((f3.trans f4).mono (by intro b _ hb; simp only [List.mem_cons, List.not_mem_nil, or_false] at hb ⊢; omega)), os', pl', ⟨ha4, ok4, fun j hj hjm => ord4 j hj hjm (by omega), h.act⟩, ?_⟩
      intro v
      rw [same4 v, eL]
      unfold up1
      by_cases e1 : v = (nt os (m - 1)).toNat
      · subst e1
        have : ((nt os (m - 1)).toNat) ≠ (nt os 0).toNat := by
          intro e
          have : ((0 : Nat) : Int) = ((m - 1 : Nat) : Int) := by rw [← r0.2.2, ← rl.2.2, e]
          omega
        simp [this]; omega
      · rw [if_neg e1]
        by_cases e2 : v = (nt os 0).toNat
        · simp [e2]
        · simp [e2]
  · have hm1 : m = 1 := by omega
    subst hm1
    simp (disch := omega) only [go_sem, ↓cw_block, dsB_of, c0, d0, hml, dl, w0, c1, w1]
    refine fin ⟨rfl, f2, os, _, ⟨ha2, ?_, fun j hj hjm => by omega, h.act⟩, ?_⟩
    · rw [nt_set (by omega)]; exact h.ok.pop1
    · intro v
      rw [nt_set (by omega)]
      unfold up1
      by_cases e2 : v = (nt os 0).toNat
      · simp [e2]
      · simp [e2]

theorem put_no (h : HG H p bo bp ba n m os pl ac) {v : Int} (hv : ¬ (1 ≤ v ∧ v ≤ n ∧ nt pl v.toNat = -1)) :
    CallF Tryz.prog 60 [hp p, iv v] H (fun r H' => H = H' ∧ r = .bool false) NoP := by
  have c1 := h.ha.c1
  have hlp := h.ha.lp
  refine callF_of Tryz.func60 rfl Tryz.ntmps60 Tryz.results60 (by decide) rfl ?_
  simp (disch := omega) only [go_sem, ↓cw_block, dsB_of]
  refine call_to (known_spec c1) ?_
  rintro _ _ ⟨rfl, rfl⟩
  by_cases hk : 1 ≤ v ∧ v < (n + 1 : Nat)
  · have cv := h.ha.ip.cell (i := v.toNat) (by omega)
    have hpl := h.place (v := v.toNat) (by omega)
    simp (disch := omega) only [go_sem, ↓cw_block, dsB_of, c1, cv]
    exact fin ⟨rfl, rfl⟩
  · simp (disch := omega) only [go_sem, ↓cw_block, dsB_of, c1]
    exact fin ⟨rfl, rfl⟩

theorem put_yes (h : HG H p bo bp ba n m os pl ac) {v : Nat} (hv1 : 1 ≤ v) (hv2 : v ≤ n) (hv3 : nt pl v = -1) :
    CallF Tryz.prog 60 [hp p, iv v] H (fun r H' => r = .bool true ∧ Fr [p, bo, bp] H H' ∧
      ∃ os' pl', HG H' p bo bp ba n (m + 1) os' pl' ac ∧ ∀ u, (nt pl' u = -1 ↔ nt pl u = -1 ∧ u ≠ v)) NoP := by
  have c0 := h.ha.c0
  have c1 := h.ha.c1
  have hlo := h.ha.lo
  have hlp := h.ha.lp
  have hmn := h.ok.room hv1 hv2 hv3
  have hbig := h.ha.big
  have hn := h.ha.ne
  have cv := h.ha.ip.cell (i := v) (by omega)
  refine callF_of Tryz.func60 rfl Tryz.ntmps60 Tryz.results60 (by decide) rfl ?_
  simp (disch := omega) only [go_sem, ↓cw_block, dsB_of]
  refine call_to (known_spec c1) ?_
  rintro _ _ ⟨rfl, rfl⟩
  have bs := fun (v : Value) (hv : v.cells = #[v]) => bs_one (P := Tryz.prog) (H := H) (a := v) T.elem30 T.size3 T.zero3 hv
  have bs1 := bs (iv v) rfl
  simp (disch := omega) only [go_sem, ↓cw_block, dsB_of, c0, c1, cv, hv3, bs1]
  -- the list of the call's own, and the heap behind it
  obtain ⟨H1, hH1⟩ : ∃ H1, H1 = H.push (.cells #[iv v] 3) := ⟨_, rfl⟩
  have f1 : Fr [p, bo, bp] H H1 := by rw [hH1]; exact Fr.push
  have g1 : Fr [] H H1 := by rw [hH1]; exact Fr.push
  have h1 : HG H1 p bo bp ba n m os pl ac := h.frame g1 (by simp) (by simp) (by simp) (by simp)
  have x1 : cellH H1 ⟨H.size, 0, none⟩ = some (iv v) := by rw [hH1]; exact (Blk.new (vs := [iv v]) rfl).cell 0
  have nb : H.size ≠ bo := by have := h.ha.io.lt; omega
  rw [← hH1]
  clear hH1
  have w1 := h1.ha.io.wr (i := m) (by omega) (iv v)
  refine app_fit1 T.el30 hmn x1 rfl (by rw [Nat.zero_add]; exact w1) ?_
  have b2 := h1.ha.self.set_other (a := ⟨bo, m, none⟩) (v := iv v) hn.1
  have w2 := b2.wr (i := 0) (by simp)
  have ha3 : HA (setH (setH H1 ⟨bo, m, none⟩ (iv v)) ⟨p, 0, none⟩ (.slice (some ⟨bo, 0, none⟩) (m + 1) n)) p bo bp ba n (m + 1) (os.set m v) pl ac :=
    ⟨b2.set 0 _, (h1.ha.io.set m v).set_other hn.1.symm, (h1.ha.ip.set_other hn.2.2.2.1.symm).set_other hn.2.1.symm, (h1.ha.ia.set_other hn.2.2.2.2.1.symm).set_other hn.2.2.1.symm, by simp [hlo], hlp, h.ha.la, hn, hbig⟩
  have f3 : Fr [p, bo, bp] H (setH (setH H1 ⟨bo, m, none⟩ (iv v)) ⟨p, 0, none⟩ (.slice (some ⟨bo, 0, none⟩) (m + 1) n)) := (f1.set' (by simp)).set' (by simp)
  generalize hH3 : setH (setH H1 ⟨bo, m, none⟩ (iv v)) ⟨p, 0, none⟩ (.slice (some ⟨bo, 0, none⟩) (m + 1) n) = H3 at ha3 f3
  have d0 := ha3.c0
  have hml : ((m + 1 : Nat) : Int) - 1 = (m : Int) := by omega
  simp (disch := omega) only [go_sem, ↓cw_block, dsB_of, w2, hH3, d0, hml]
  have hadd := h.ok.add hv1 hv2 hv3
  have eO : nt (os.set m v) = up1 (nt os) m v := nt_set (by omega)
  have em : nt (os.set m v) m = v := nt_set_eq (by omega)
  refine call_to (up_spec (i := m) ha3 (by rw [em, eO, Int.toNat_natCast]; exact hadd) (by omega) (by rw [eO]; exact UpInv.last h.ord)) ?_
  rintro r H4 ⟨rfl, f4, os', pl', ha4, ok4, ord4, same4⟩
  simp (disch := omega) only [go_sem, ↓cw_block, dsB_of]
  refine fin ⟨rfl, f3.trans (f4.mono (by intro b _ hb; simp only [List.mem_cons, List.not_mem_nil, or_false] at hb ⊢; omega)), os', pl', ⟨ha4, ok4, ord4, h.act⟩, ?_⟩
  intro u
  rw [same4 u, em]
  unfold up1
  rw [Int.toNat_natCast]
  by_cases e : u = v
  · simp [e]
  · simp [e]

theorem bump_no (h : HG H p bo bp ba n m os pl ac) {v d : Int} (hv : ¬ (1 ≤ v ∧ v ≤ n ∧ 0 ≤ d)) :
    CallF Tryz.prog 86 [hp p, iv v, iv d] H (fun r H' => H = H' ∧ r = .bool false) NoP := by
  have c1 := h.ha.c1
  refine callF_of Tryz.func86 rfl Tryz.ntmps86 Tryz.results86 (by decide) rfl ?_
  by_cases hd : d < 0
  · simp (disch := omega) only [go_sem, ↓cw_block, dsB_of]
    exact fin ⟨rfl, rfl⟩
  · simp (disch := omega) only [go_sem, ↓cw_block, dsB_of]
    refine call_to (known_spec c1) ?_
    rintro _ _ ⟨rfl, rfl⟩
    simp (disch := omega) only [go_sem, ↓cw_block, dsB_of]
    exact fin ⟨rfl, rfl⟩

theorem bump_yes (h : HG H p bo bp ba n m os pl ac) {v : Nat} {d : Int} (hv1 : 1 ≤ v) (hv2 : v ≤ n) (hd : 0 ≤ d) (hd2 : d ≤ 9223372036854775807) :
    CallF Tryz.prog 86 [hp p, iv v, iv d] H (fun r H' => r = .bool true ∧ Fr [bo, bp, ba] H H' ∧
      ∃ os' pl', HG H' p bo bp ba n m os' pl' (ac.set v (min (nt ac v + d) 1152921504606846976)) ∧ ∀ u, (nt pl' u = -1 ↔ nt pl u = -1)) NoP := by
  have c1 := h.ha.c1
  have c2 := h.ha.c2
  have hlp := h.ha.lp
  have hla := h.ha.la
  have hn := h.ha.ne
  have hav := h.act v hv2
  have hpv := h.place hv2
  have cv := h.ha.ia.cell (i := v) (by omega)
  have pv := h.ha.ip.cell (i := v) (by omega)
  have wv := h.ha.ia.wr (i := v) (by omega)
  -- the rest, when the activity is laid
  have fin2 : ∀ x : Int, x = min (nt ac v + d) 1152921504606846976 → (0 ≤ x ∧ x ≤ 1152921504606846976 ∧ nt ac v ≤ x) ∧ HA (setH H ⟨ba, v, none⟩ (iv x)) p bo bp ba n m os pl (ac.set v x) ∧ Fr [bo, bp, ba] H (setH H ⟨ba, v, none⟩ (iv x)) ∧
      (∀ u, u ≤ n → 0 ≤ nt (ac.set v x) u ∧ nt (ac.set v x) u ≤ 1152921504606846976) ∧
      (nt pl v = -1 → OrdAll (nt (ac.set v x)) m (nt os)) ∧ (∀ i : Nat, nt pl v = i → i < m → UpInv (nt (ac.set v x)) m (nt os) i) := by
    intro x hx
    have hx' : 0 ≤ x ∧ x ≤ 1152921504606846976 ∧ nt ac v ≤ x := by omega
    have eA : nt (ac.set v x) = up1 (nt ac) v x := nt_set (by omega)
    refine ⟨hx', ⟨h.ha.self.set_other hn.2.2.1, h.ha.io.set_other hn.2.2.2.2.1, h.ha.ip.set_other hn.2.2.2.2.2, h.ha.ia.set v x, h.ha.lo, hlp, by simp [hla], hn, h.ha.big⟩, Fr.set (by simp), ?_, ?_, ?_⟩
    · intro u hu
      rw [eA]; unfold up1
      split
      · omega
      · exact h.act u hu
    · intro hp1
      refine OrdAll.bump_out h.ok h.ord hp1 ?_
      intro u hu; rw [eA]; exact if_neg hu
    · intro i hi him
      have hoi : (nt os i).toNat = v := by
        rcases h.ok.pos v hv1 hv2 with h3 | ⟨_, _, h5⟩
        · omega
        · rw [hi, Int.toNat_natCast] at h5; omega
      refine UpInv.bump h.ok h.ord him ?_ ?_
      · intro u hu; rw [eA]; exact if_neg (by rw [← hoi]; exact hu)
      · rw [hoi, eA]; unfold up1; rw [if_pos rfl]; exact hx'.2.2
  refine callF_of Tryz.func86 rfl Tryz.ntmps86 Tryz.results86 (by decide) rfl ?_
  simp (disch := omega) only [go_sem, ↓cw_block, dsB_of]
  refine call_to (known_spec c1) ?_
  rintro _ _ ⟨rfl, rfl⟩
  simp (disch := omega) only [go_sem, ↓cw_block, dsB_of, c2, cv]
  refine cond_dec (fun hb => ?_) (fun hb => ?_)
  · obtain ⟨hx, ha1, f1, act1, out1, in1⟩ := fin2 (1152921504606846976) (by omega)
    have d1 := ha1.c1
    have pv1 := ha1.ip.cell (i := v) (by omega)
    have emin : min (nt ac v + d) 1152921504606846976 = 1152921504606846976 := by omega
    rw [emin]
    by_cases hp1 : nt pl v = -1
    · simp (disch := omega) only [go_sem, ↓cw_block, dsB_of, c2, cv, wv, d1, pv1]
      exact fin ⟨rfl, f1, os, pl, ⟨ha1, h.ok, out1 hp1, act1⟩, fun _ => Iff.rfl⟩
    · obtain ⟨i, hi⟩ : ∃ i : Nat, nt pl v = i := ⟨(nt pl v).toNat, by omega⟩
      rw [hi] at pv1
      simp (disch := omega) only [go_sem, ↓cw_block, dsB_of, c2, cv, wv, d1, pv1]
      have him : i < m := by omega
      have hoi : (nt os i).toNat = v := by
        rcases h.ok.pos v hv1 hv2 with h3 | ⟨_, _, h5⟩
        · omega
        · rw [hi, Int.toNat_natCast] at h5; omega
      have eL : up1 (nt pl) (nt os i).toNat i = nt pl := by rw [hoi]; funext j; unfold up1; split <;> simp_all
      refine call_to (up_spec (i := i) ha1 (by rw [eL]; exact h.ok) him (in1 i hi him)) ?_
      rintro r H4 ⟨rfl, f4, os', pl', ha4, ok4, ord4, same4⟩
      simp (disch := omega) only [go_sem, ↓cw_block, dsB_of]
      refine fin ⟨rfl, f1.trans (f4.mono (by intro b _ hb; simp only [List.mem_cons, List.not_mem_nil, or_false] at hb ⊢; omega)), os', pl', ⟨ha4, ok4, ord4, act1⟩, ?_⟩
      intro u
      rw [same4 u, eL]
  · obtain ⟨hx, ha1, f1, act1, out1, in1⟩ := fin2 (nt ac v + d) (by omega)
    have d1 := ha1.c1
    have pv1 := ha1.ip.cell (i := v) (by omega)
    have emin : min (nt ac v + d) 1152921504606846976 = nt ac v + d := by omega
    rw [emin]
    by_cases hp1 : nt pl v = -1
    · simp (disch := omega) only [go_sem, ↓cw_block, dsB_of, c2, cv, wv, d1, pv1]
      exact fin ⟨rfl, f1, os, pl, ⟨ha1, h.ok, out1 hp1, act1⟩, fun _ => Iff.rfl⟩
    · obtain ⟨i, hi⟩ : ∃ i : Nat, nt pl v = i := ⟨(nt pl v).toNat, by omega⟩
      rw [hi] at pv1
      simp (disch := omega) only [go_sem, ↓cw_block, dsB_of, c2, cv, wv, d1, pv1]
      have him : i < m := by omega
      have hoi : (nt os i).toNat = v := by
        rcases h.ok.pos v hv1 hv2 with h3 | ⟨_, _, h5⟩
        · omega
        · rw [hi, Int.toNat_natCast] at h5; omega
      have eL : up1 (nt pl) (nt os i).toNat i = nt pl := by rw [hoi]; funext j; unfold up1; split <;> simp_all
      refine call_to (up_spec (i := i) ha1 (by rw [eL]; exact h.ok) him (in1 i hi him)) ?_
      rintro r H4 ⟨rfl, f4, os', pl', ha4, ok4, ord4, same4⟩
      simp (disch := omega) only [go_sem, ↓cw_block, dsB_of]
      refine fin ⟨rfl, f1.trans (f4.mono (by intro b _ hb; simp only [List.mem_cons, List.not_mem_nil, or_false] at hb ⊢; omega)), os', pl', ⟨ha4, ok4, ord4, act1⟩, ?_⟩
      intro u
      rw [same4 u, eL]

theorem halve_spec (h : HG H p bo bp ba n m os pl ac) :
    CallF Tryz.prog 89 [hp p] H (fun r H' => r = .tuple #[] ∧ Fr [bo, bp, ba] H H' ∧
      ∃ os' pl', HG H' p bo bp ba n m os' pl' (ac.map (· / 2)) ∧ ∀ u, (nt pl' u = -1 ↔ nt pl u = -1)) NoP := by
  have c0 := h.ha.c0
  have c2 := h.ha.c2
  have hla := h.ha.la
  have hbig := h.ha.big
  have hn := h.ha.ne
  refine callF_of Tryz.func89 rfl Tryz.ntmps89 Tryz.results89 (by decide) rfl ?_
  simp (disch := omega) only [go_sem, ↓cw_block, dsB_of, c2]
  refine loop_by (fun k ρ H1 => ∃ (j : Nat) (ac1 : List Int), k = n + 1 - j ∧ j ≤ n + 1 ∧ (ρ.get 0 = hp p ∧ ρ.get 8 = iv (n + 1 : Nat) ∧ ρ.get 9 = iv j ∧ ρ.ds = []) ∧ HA H1 p bo bp ba n m os pl ac1 ∧ Fr [bo, bp, ba] H H1 ∧
    ∀ u, nt ac1 u = if u < j then nt ac u / 2 else nt ac u) (k := n + 1) ?_ ?_
  · exact ⟨0, ac, rfl, by omega, by simp (disch := omega) only [go_sem, ↓cw_block, dsB_of, Int.natCast_zero], h.ha, Fr.refl _ _, fun u => by simp⟩
  rintro k ρ H1 ⟨j, ac1, rfl, hj, ⟨r0, r8, r9, rd⟩, h1, f1, hac⟩
  have d2 := h1.c2
  have hla1 := h1.la
  by_cases hjn : j < n + 1
  · have cj := h1.ia.cell (i := j) (by omega)
    have wj := h1.ia.wr (i := j) (by omega)
    have haj := h.act j (by omega)
    have ej : nt ac1 j = nt ac j := by rw [hac, if_neg (by omega)]
    rw [ej] at cj
    simp (disch := omega) only [go_sem, ↓cw_block, dsB_of, r0, r8, r9, rd, d2, cj, wj]
    refine fin ⟨n + 1 - (j + 1), by omega, j + 1, ac1.set j (nt ac j / 2), rfl, by omega, by simp (disch := omega) only [go_sem, ↓cw_block, dsB_of, r0, r8, r9, rd, Int.natCast_add, Int.natCast_one], ?_, f1.set' (by simp), ?_⟩
    · exact ⟨h1.self.set_other hn.2.2.1, h1.io.set_other hn.2.2.2.2.1, h1.ip.set_other hn.2.2.2.2.2, h1.ia.set j _, h1.lo, h1.lp, by simp [hla1], hn, hbig⟩
    · intro u
      rw [nt_set (by omega)]
      unfold up1
      by_cases e : u = j
      · subst e; simp
      · rw [if_neg e, hac u]
        by_cases hu : u < j
        · rw [if_pos hu, if_pos (by omega)]
        · rw [if_neg hu, if_neg (by omega)]
  · have hall : ac1 = ac.map (· / 2) := by
      apply List.ext_getElem (by simp [hla1, hla])
      intro u hu1 hu2
      have e1 := nt_lt hu1
      have e2 : u < ac.length := by simpa using hu2
      have e3 := nt_lt e2
      rw [List.getElem?_eq_getElem hu1] at e1
      rw [List.getElem?_eq_getElem e2] at e3
      simp only [Option.some.injEq] at e1 e3
      rw [List.getElem_map, e1, e3, hac u, if_pos (by omega)]
    subst hall
    have d0 := h1.c0
    have hmn := h.ok.le
    have act1 : ∀ u, u ≤ n → 0 ≤ nt (ac.map (· / 2)) u ∧ nt (ac.map (· / 2)) u ≤ 1152921504606846976 := by
      intro u hu
      have := h.act u hu
      rw [hac u]
      split <;> omega
    simp (disch := omega) only [go_sem, ↓cw_block, dsB_of, r0, r8, r9, rd, d0]
    refine loop_by (fun k ρ H2 => ∃ (q : Int) (os2 pl2 : List Int), k = (q + 1).toNat ∧ -1 ≤ q ∧ q < m ∧ (ρ.get 0 = hp p ∧ ρ.get 3 = iv q ∧ ρ.ds = []) ∧ HA H2 p bo bp ba n m os2 pl2 (ac.map (· / 2)) ∧ Fr [bo, bp, ba] H H2 ∧
      Ok n m (nt os2) (nt pl2) ∧ (∀ j, 0 < j → j < m → q < par j → ¬ bf (nt (ac.map (· / 2))) (nt os2 j) (nt os2 (par j))) ∧ ∀ u, (nt pl2 u = -1 ↔ nt pl u = -1)) (k := ((m : Int) / 2 - 1 + 1).toNat) ?_ ?_
    · refine ⟨(m : Int) / 2 - 1, os, pl, rfl, by omega, by omega, by simp (disch := omega) only [go_sem, ↓cw_block, dsB_of, r0, r8, r9, rd], h1, f1, h.ok, ?_, fun _ => Iff.rfl⟩
      intro j hj hjm hpj
      unfold par at hpj; omega
    · rintro k ρ2 H2 ⟨q, os2, pl2, rfl, hq1, hq2, ⟨s0, s3, sd⟩, h2, f2, ok2, ord2, same2⟩
      by_cases hq0 : 0 ≤ q
      · obtain ⟨i, rfl⟩ : ∃ i : Nat, q = i := ⟨q.toNat, by omega⟩
        simp (disch := omega) only [go_sem, ↓cw_block, dsB_of, s0, s3, sd]
        refine call_to (down_spec (i := i) h2 ok2 (by omega) (fun j hj hjm hpj => ord2 j hj hjm (by omega))) ?_
        rintro r H3 ⟨rfl, f3, os3, pl3, h3, ok3, ord3, same3⟩
        simp (disch := omega) only [go_sem, ↓cw_block, dsB_of, s0, s3, sd]
        exact fin ⟨i, by omega, (i : Int) - 1, os3, pl3, by omega, by omega, by omega, by simp (disch := omega) only [go_sem, ↓cw_block, dsB_of, s0, s3, sd], h3, f2.trans (f3.mono (by intro b _ hb; simp only [List.mem_cons, List.not_mem_nil, or_false] at hb ⊢; omega)), ok3, fun j hj hjm hpj => ord3 j hj hjm (by omega), fun u => (same3 u).trans (same2 u)⟩
      · simp (disch := omega) only [go_sem, ↓cw_block, dsB_of, s0, s3, sd, dsB_of]
        exact fin ⟨rfl, f2, os2, pl2, ⟨h2, ok2, fun j hj hjm => ord2 j hj hjm (by omega), act1⟩, same2⟩

theorem blk_p1 {H : Heap} {vs : List Value} {t : TypeId} {x y : Obj} : Blk (((H.push (.cells vs.toArray t)).push x).push y) H.size t vs := ((Blk.new rfl).push _).push _
theorem blk_p2 {H : Heap} {vs : List Value} {t : TypeId} {x y : Obj} : Blk (((H.push x).push (.cells vs.toArray t)).push y) (H.size + 1) t vs := by
  have := (Blk.new (H := H.push x) (t := t) (vs := vs) rfl).push y
  rwa [Array.size_push] at this
theorem blk_p3 {H : Heap} {vs : List Value} {t : TypeId} {x y : Obj} : Blk (((H.push x).push y).push (.cells vs.toArray t)) (H.size + 1 + 1) t vs := by
  have := Blk.new (H := (H.push x).push y) (t := t) (vs := vs) rfl
  rwa [Array.size_push, Array.size_push] at this
theorem newHA {n : Nat} {H3 : Heap} {bo bp ba : Nat} (hn : n ≤ 100000) (h1 : Blk H3 bo 3 (List.replicate n (iv 0))) (h2 : Blk H3 bp 3 (List.replicate (n + 1) (iv 0))) (h3 : Blk H3 ba 2 (List.replicate (n + 1) (iv 0)))
    (hne : bo ≠ bp ∧ bo ≠ ba ∧ bp ≠ ba) : HA (H3.push (.cells #[.slice (some ⟨bo, 0, none⟩) n n, .slice (some ⟨bp, 0, none⟩) (n + 1) (n + 1), .slice (some ⟨ba, 0, none⟩) (n + 1) (n + 1)] 69)) H3.size bo bp ba n n (List.replicate n 0) (List.replicate (n + 1) 0) (List.replicate (n + 1) 0) := by
  have l1 := h1.lt
  have l2 := h2.lt
  have l3 := h3.lt
  refine ⟨Blk.new rfl, ?_, ?_, ?_, by simp, by simp, by simp, ⟨by omega, by omega, by omega, hne.1, hne.2.1, hne.2.2⟩, hn⟩
  · unfold IB; rw [List.map_replicate]; exact h1.push _
  · unfold IB; rw [List.map_replicate]; exact h2.push _
  · unfold IB; rw [List.map_replicate]; exact h3.push _
theorem new_no {n : Int} (hn : ¬ (0 ≤ n ∧ n ≤ 100000)) : CallF Tryz.prog 14 [iv n] H (fun r H' => H = H' ∧ r = .tuple #[.pointer none, iv 2]) NoP := by
  refine callF_of Tryz.func14 rfl Tryz.ntmps14 Tryz.results14 (by decide) rfl ?_
  by_cases h0 : n < 0
  · simp (disch := omega) only [go_sem, ↓cw_block, dsB_of]
    exact fin ⟨rfl, rfl⟩
  · simp (disch := omega) only [go_sem, ↓cw_block, dsB_of]
    exact fin ⟨rfl, rfl⟩

theorem new_yes {n : Nat} (hn : n ≤ 100000) : CallF Tryz.prog 14 [iv n] H (fun r H' => Fr [] H H' ∧ ∃ p bo bp ba os pl, r = .tuple #[hp p, iv 0] ∧ (H.size ≤ p ∧ H.size ≤ bo ∧ H.size ≤ bp ∧ H.size ≤ ba) ∧
    HG H' p bo bp ba n n os pl (List.replicate (n + 1) 0) ∧ (∀ v, 1 ≤ v → v ≤ n → nt pl v ≠ -1)) NoP := by
  have bl := fun (x y z : Option Addr) (a b c d e f : Nat) => build_of (P := Tryz.prog) (t := 69) (parts := [(0, .slice x a b), (1, .slice y c d), (2, .slice z e f)]) (v := .agg #[.slice x a b, .slice y c d, .slice z e f])
    (by simp [buildL, T.places69, T.zero69, fillL, setR, chk, Value.cells])
  have en : ((n : Int) + 1).toNat = n + 1 := by omega
  refine callF_of Tryz.func14 rfl Tryz.ntmps14 Tryz.results14 (by decide) rfl ?_
  simp (disch := omega) only [go_sem, ↓cw_block, dsB_of]
  refine cut_by (fun ρ H1 => ∃ p bo bp ba, (ρ.get 0 = iv n ∧ ρ.get 4 = hp p ∧ ρ.ds = []) ∧ (H.size ≤ p ∧ H.size ≤ bo ∧ H.size ≤ bp ∧ H.size ≤ ba) ∧ Fr [] H H1 ∧
    HA H1 p bo bp ba n n (List.replicate n 0) (List.replicate (n + 1) 0) (List.replicate (n + 1) 0)) ?_ ?_
  · refine draw0 (lk [(0, false), (2, false), (3, false), (5, false), (6, false)] (.act 1 (.act 4 (.act 7 (lk [(8, true)] (.actd 9 (lk [(10, true)] .fin))) .non) (.act 7 (.act 4 (lk [(8, true)] (.actd 9 (lk [(10, true)] .fin))) .non) .non)) (.act 4 (.act 1 (.act 7 (lk [(8, true)] (.actd 9 (lk [(10, true)] .fin))) .non) (.act 7 (.act 1 (lk [(8, true)] (.actd 9 (lk [(10, true)] .fin))) .non) .non)) (.act 7 (.act 1 (.act 4 (lk [(8, true)] (.actd 9 (lk [(10, true)] .fin))) .non) (.act 4 (.act 1 (lk [(8, true)] (.actd 9 (lk [(10, true)] .fin))) .non) .non)) .non)))) T.mixed ?_
    repeat' (first | simp (disch := omega) only [go_sem, ↓cw_block, dsB_of, bl, en] | refine both_of ?_ ?_)
    · refine fin ⟨H.size + 1 + 1 + 1, H.size, H.size + 1, H.size + 1 + 1, by simp (disch := omega) only [go_sem, ↓cw_block, dsB_of, newPtr, Array.size_push], by omega, by repeat (first | exact Fr.refl _ _ | refine Fr.push' ?_), ?_⟩
      have hh := newHA (H3 := ((H.push (.cells (List.replicate n (Value.int .i64 0)).toArray 3)).push (.cells (List.replicate (n + 1) (Value.int .i64 0)).toArray 3)).push (.cells (List.replicate (n + 1) (Value.int .i64 0)).toArray 2)) (bo := H.size) (bp := H.size + 1) (ba := H.size + 1 + 1) hn ?_ ?_ ?_ (by omega)
      · simp only [Array.size_push] at hh ⊢; exact hh
      all_goals first | exact blk_p1 | exact blk_p2 | exact blk_p3
    · refine fin ⟨H.size + 1 + 1 + 1, H.size, H.size + 1 + 1, H.size + 1, by simp (disch := omega) only [go_sem, ↓cw_block, dsB_of, newPtr, Array.size_push], by omega, by repeat (first | exact Fr.refl _ _ | refine Fr.push' ?_), ?_⟩
      have hh := newHA (H3 := ((H.push (.cells (List.replicate n (Value.int .i64 0)).toArray 3)).push (.cells (List.replicate (n + 1) (Value.int .i64 0)).toArray 2)).push (.cells (List.replicate (n + 1) (Value.int .i64 0)).toArray 3)) (bo := H.size) (bp := H.size + 1 + 1) (ba := H.size + 1) hn ?_ ?_ ?_ (by omega)
      · simp only [Array.size_push] at hh ⊢; exact hh
      all_goals first | exact blk_p1 | exact blk_p2 | exact blk_p3
    · refine fin ⟨H.size + 1 + 1 + 1, H.size + 1, H.size, H.size + 1 + 1, by simp (disch := omega) only [go_sem, ↓cw_block, dsB_of, newPtr, Array.size_push], by omega, by repeat (first | exact Fr.refl _ _ | refine Fr.push' ?_), ?_⟩
      have hh := newHA (H3 := ((H.push (.cells (List.replicate (n + 1) (Value.int .i64 0)).toArray 3)).push (.cells (List.replicate n (Value.int .i64 0)).toArray 3)).push (.cells (List.replicate (n + 1) (Value.int .i64 0)).toArray 2)) (bo := H.size + 1) (bp := H.size) (ba := H.size + 1 + 1) hn ?_ ?_ ?_ (by omega)
      · simp only [Array.size_push] at hh ⊢; exact hh
      all_goals first | exact blk_p1 | exact blk_p2 | exact blk_p3
    · refine fin ⟨H.size + 1 + 1 + 1, H.size + 1 + 1, H.size, H.size + 1, by simp (disch := omega) only [go_sem, ↓cw_block, dsB_of, newPtr, Array.size_push], by omega, by repeat (first | exact Fr.refl _ _ | refine Fr.push' ?_), ?_⟩
      have hh := newHA (H3 := ((H.push (.cells (List.replicate (n + 1) (Value.int .i64 0)).toArray 3)).push (.cells (List.replicate (n + 1) (Value.int .i64 0)).toArray 2)).push (.cells (List.replicate n (Value.int .i64 0)).toArray 3)) (bo := H.size + 1 + 1) (bp := H.size) (ba := H.size + 1) hn ?_ ?_ ?_ (by omega)
      · simp only [Array.size_push] at hh ⊢; exact hh
      all_goals first | exact blk_p1 | exact blk_p2 | exact blk_p3
    · refine fin ⟨H.size + 1 + 1 + 1, H.size + 1, H.size + 1 + 1, H.size, by simp (disch := omega) only [go_sem, ↓cw_block, dsB_of, newPtr, Array.size_push], by omega, by repeat (first | exact Fr.refl _ _ | refine Fr.push' ?_), ?_⟩
      have hh := newHA (H3 := ((H.push (.cells (List.replicate (n + 1) (Value.int .i64 0)).toArray 2)).push (.cells (List.replicate n (Value.int .i64 0)).toArray 3)).push (.cells (List.replicate (n + 1) (Value.int .i64 0)).toArray 3)) (bo := H.size + 1) (bp := H.size + 1 + 1) (ba := H.size) hn ?_ ?_ ?_ (by omega)
      · simp only [Array.size_push] at hh ⊢; exact hh
      all_goals first | exact blk_p1 | exact blk_p2 | exact blk_p3
    · refine fin ⟨H.size + 1 + 1 + 1, H.size + 1 + 1, H.size + 1, H.size, by simp (disch := omega) only [go_sem, ↓cw_block, dsB_of, newPtr, Array.size_push], by omega, by repeat (first | exact Fr.refl _ _ | refine Fr.push' ?_), ?_⟩
      have hh := newHA (H3 := ((H.push (.cells (List.replicate (n + 1) (Value.int .i64 0)).toArray 2)).push (.cells (List.replicate (n + 1) (Value.int .i64 0)).toArray 3)).push (.cells (List.replicate n (Value.int .i64 0)).toArray 3)) (bo := H.size + 1 + 1) (bp := H.size + 1) (ba := H.size) hn ?_ ?_ ?_ (by omega)
      · simp only [Array.size_push] at hh ⊢; exact hh
      all_goals first | exact blk_p1 | exact blk_p2 | exact blk_p3
  · rintro ρ H1 ⟨p, bo, bp, ba, ⟨r0, r4, rd⟩, hsz, f1, h1⟩
    have hne := h1.ne
    have d1 := h1.c1
    have w0 := h1.ip.wr (i := 0) (by simp)
    simp (disch := omega) only [go_sem, ↓cw_block, dsB_of, r0, r4, rd, d1, w0]
    refine loop_by (fun k ρ H2 => ∃ (j : Nat) (os pl : List Int), k = n - j ∧ j ≤ n ∧ (ρ.get 4 = hp p ∧ ρ.get 27 = iv n ∧ ρ.get 28 = iv j ∧ ρ.ds = []) ∧ HA H2 p bo bp ba n n os pl (List.replicate (n + 1) 0) ∧ Fr [] H H2 ∧
      (∀ u, u < j → nt os u = u + 1) ∧ nt pl 0 = -1 ∧ (∀ u, 1 ≤ u → u ≤ j → nt pl u = u - 1)) (k := n) ?_ ?_
    · refine ⟨0, _, (List.replicate (n + 1) 0).set 0 (-1), rfl, by omega, by simp (disch := omega) only [go_sem, ↓cw_block, dsB_of, r0, r4, rd], ⟨h1.self.set_other hne.2.1, h1.io.set_other hne.2.2.2.1, h1.ip.set 0 (-1), h1.ia.set_other hne.2.2.2.2.2.symm, h1.lo, by simp, h1.la, hne, hn⟩, f1.set' (.inr (by simp; omega)), ?_, ?_, ?_⟩
      · intro u hu; omega
      · exact nt_set_eq (by simp)
      · intro u hu1 hu2; omega
    · rintro k ρ2 H2 ⟨j, os, pl, rfl, hj, ⟨s4, s27, s28, sd⟩, h2, f2, ho, hp0, hpl⟩
      have hlo := h2.lo
      have hlp := h2.lp
      by_cases hjn : j < n
      · have e0 := h2.c0
        have wj := h2.io.wr (i := j) (by omega)
        have h3 : HA (setH H2 ⟨bo, j, none⟩ (iv ((j : Int) + 1))) p bo bp ba n n (os.set j ((j : Int) + 1)) pl (List.replicate (n + 1) 0) :=
          ⟨h2.self.set_other hne.1, h2.io.set j _, h2.ip.set_other hne.2.2.2.1.symm, h2.ia.set_other hne.2.2.2.2.1.symm, by simp [hlo], hlp, h2.la, hne, hn⟩
        have e1 := h3.c1
        have ej : ((j : Int) + 1).toNat = j + 1 := by omega
        have wj' := h3.ip.wr (i := j + 1) (by omega)
        simp (disch := omega) only [go_sem, ↓cw_block, dsB_of, s4, s27, s28, sd, e0, wj, e1, ej, wj']
        refine fin ⟨n - (j + 1), by omega, j + 1, os.set j ((j : Int) + 1), pl.set (j + 1) j, rfl, by omega, by simp (disch := omega) only [go_sem, ↓cw_block, dsB_of, s4, s27, s28, sd, Int.natCast_add, Int.natCast_one],
          ⟨h3.self.set_other hne.2.1, h3.io.set_other hne.2.2.2.1, h3.ip.set _ _, h3.ia.set_other hne.2.2.2.2.2.symm, h3.lo, by simp [hlp], h3.la, hne, hn⟩, (f2.set' (.inr (by simp; omega))).set' (.inr (by simp; omega)), ?_, ?_, ?_⟩
        · intro u hu
          rw [nt_set (by omega)]; unfold up1
          split
          · rename_i e; rw [e]
          · exact ho u (by omega)
        · rw [nt_set_ne (by omega)]; exact hp0
        · intro u hu1 hu2
          rw [nt_set (by omega)]; unfold up1
          split
          · rename_i e; rw [e]; omega
          · exact hpl u hu1 (by omega)
      · simp (disch := omega) only [go_sem, ↓cw_block, dsB_of, s4, s27, s28, sd, dsB_of]
        have hjn' : j = n := by omega
        subst hjn'
        have z : ∀ v, nt (List.replicate (j + 1) 0) v = 0 := by
          intro v; unfold nt; rw [List.getD_eq_getElem?_getD, List.getElem?_replicate]; split <;> rfl
        refine fin ⟨f2, p, bo, bp, ba, os, pl, rfl, hsz, ⟨h2, ⟨Nat.le_refl _, ?_, ?_, hp0⟩, ?_, ?_⟩, ?_⟩
        · intro i hi
          rw [ho i hi]
          have e : ((i : Int) + 1).toNat = i + 1 := by omega
          rw [e, hpl (i + 1) (by omega) (by omega)]
          omega
        · intro v hv1 hv2
          right
          rw [hpl v hv1 hv2]
          have e : ((v : Int) - 1).toNat = v - 1 := by omega
          rw [e, ho (v - 1) (by omega)]
          omega
        · intro u hu hum
          unfold bf
          rw [z, z, ho u hum, ho (par u) (by unfold par; omega)]
          unfold par; omega
        · intro v _; rw [z]; omega
        · intro v hv1 hv2; rw [hpl v hv1 hv2]; omega
end
end Go.Proofs.YthghkhpclemmlaaGreat

