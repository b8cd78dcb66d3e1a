/- A maker's need, and Lit. -/
import Derived.Test.YtofooamimiijlaaGreatL08
namespace Go.Proofs.YtofooamimiijlaaGreat
open Go.HL
set_option maxRecDepth 10000
set_option linter.unusedSimpArgs false

theorem vec_cap {H : Heap} {e z : Nat} {a : Option Addr} {l c : Nat} {vs : List Value} (h : Vec H e z (.slice a l c) vs) : l ≤ c := by
  rcases h.ex with ⟨e1, _⟩ | ⟨b, len, cap, pre, rest, e1, _, _, _, hle⟩
  · simp only [Value.slice.injEq] at e1; omega
  · simp only [Value.slice.injEq] at e1
    obtain ⟨_, rfl, rfl⟩ := e1
    exact hle
theorem litM_rng {L : List Nat} {e : Nat} : -(L.length : Int) ≤ litM L e ∧ litM L e ≤ L.length := by
  have := varOf_rng (L := L) (n := e / 2)
  unfold litM
  split <;> omega
theorem Mk.grow {H : Heap} {m r : Nat} {cv cv' : Value} {C C' : List Nat} (h : ∀ b ∈ own cv', b ∈ own cv ∨ H.size ≤ b) (h' : ∀ b ∈ C', b ∈ C ∨ H.size ≤ b) : Grow (mB m r cv C) (mB m r cv' C') H := by
  intro b hb
  simp only [mB, List.mem_cons, List.mem_append] at hb ⊢
  rcases hb with hb | hb | hb | hb
  · exact .inl (.inl hb)
  · exact .inl (.inr (.inl hb))
  · exact (h b hb).imp (fun h => .inr (.inr (.inl h))) id
  · exact (h' b hb).imp (fun h => .inr (.inr (.inr h))) id

section
variable {H : Heap} {m g : Nat} {s : MS} {B Bg : List Nat} {ns : List Pr} {ins : List Nat}
set_option maxHeartbeats 1000000 in
theorem need_spec (hg : Gr H g Bg ns ins) (hm : Mk H m g B s) (hdis : ∀ b ∈ Bg, b ∉ B) (hLn : s.1.Nodup) (hLr : ∀ x ∈ s.1, x < ns.length) (hcs : s.2.length ≤ 100000000) {n : Nat} (hn : n < ns.length) :
    CallF Tryz.prog 30 [hp m, iv n] H (fun v H' => v = .tuple #[] ∧ Fr B H H' ∧ ∃ B', Mk H' m g B' (needM ns n s) ∧ Grow B B' H) NoP := by
  have hd : Dn ns := hg.w.2.2.1
  have hN := hg.w.2.1
  have hmlt := hm.lt
  have hglt := hg.lt
  refine callF_of Tryz.func30 rfl Tryz.ntmps30 Tryz.results30 (by decide) rfl ?_
  simp (disch := omega) only [go_sem, ↓cw_block, dsB_of]
  refine loop_by (fun k ρ H1 => ∃ (st : List Nat) (s1 : MS) (B1 : List Nat) (w : Value), k = meas ns.length st s1.1 ∧ (ρ.get 0 = hp m ∧ ρ.get 4 = w ∧ ρ.ds = []) ∧ Mk H1 m g B1 s1 ∧ Fr B H H1 ∧ Grow B B1 H ∧ IV H1 3 w (st.reverse.map Int.ofNat) ∧
    (∀ b ∈ own w, H.size ≤ b ∧ b ∉ B1) ∧ finM ns st s1 = needM ns n s ∧ Stk ns.length st ∧ (∀ x ∈ st, x < ns.length) ∧ ((∀ x ∈ st, x ∉ s1.1) ∨ ∃ x, st = [x]) ∧ s1.1.Nodup ∧ (∀ x ∈ s1.1, x < ns.length) ∧ s1.2.length ≤ s.2.length + 3 * s1.1.length) (k := meas ns.length [n] s.1) ?_ ?_
  · have hb : Blk (H.push (.cells #[iv n] 3)) H.size 3 [iv n] := Blk.new rfl
    refine ⟨[n], s, B, _, rfl, by simp (disch := omega) only [go_sem, ↓cw_block, dsB_of], hm.frame (F := []) Fr.push (by simp), Fr.push, Grow.refl, ⟨.inr ⟨H.size, 1, 1, [], [], rfl, by simpa using hb, rfl, rfl, by omega⟩⟩, ?_, rfl, hn, by simpa using hn, .inr ⟨n, rfl⟩, hLn, hLr, by omega⟩
    intro b hb'
    simp [own] at hb'
    subst hb'
    exact ⟨Nat.le_refl _, fun e => by have := hmlt _ e; omega⟩
  · rintro k ρ H1 ⟨st, s1, B1, w, rfl, ⟨q0, q4, qd⟩, hm1, f1, g1, hw, how, hfin, hstk, hst, hun, hn1, hr1, hc1⟩
    have hg1 := hg.frame f1 (fun b hb e => hdis b hb e)
    have hL1 := nodup_len _ _ hn1 hr1
    cases st with
    | nil =>
      obtain ⟨wa, wc, rfl⟩ := hw.form
      simp (disch := omega) only [go_sem, ↓cw_block, dsB_of, q0, q4, qd, List.length_nil, List.reverse_nil, List.map_nil, dsB_of]
      exact fin ⟨rfl, f1, B1, by rw [← hfin]; exact hm1, g1⟩
    | cons t rest =>
      obtain ⟨xs0, hxs0⟩ : ∃ xs0 : List Int, xs0 = rest.reverse.map Int.ofNat := ⟨_, rfl⟩
      have exs : (t :: rest).reverse.map Int.ofNat = xs0 ++ [(t : Int)] := by rw [hxs0]; simp
      rw [exs] at hw
      obtain ⟨b, o, cap, rfl, hct⟩ := hw.at (i := xs0.length) (by simp)
      rw [nt_append_right] at hct
      have hlen : (xs0 ++ [(t : Int)]).length = xs0.length + 1 := by simp
      rw [hlen] at hw how q4
      have hcap := vec_cap hw
      have hw0 : IV H1 3 (.slice (some ⟨b, o, none⟩) xs0.length cap) xs0 := by
        unfold IV at hw ⊢
        rw [List.map_append] at hw
        have := Vec.pop1 hw
        rwa [List.length_map] at this
      have hlr : xs0.length = rest.length := by rw [hxs0]; simp
      have hslen := hstk.len
      simp only [List.length_cons] at hslen
      have ec : ((xs0.length + 1 : Nat) : Int) - 1 = (xs0.length : Int) := by omega
      have htn : t < ns.length := hst t (by simp)
      have hbw := how b (by simp [own])
      obtain ⟨r, cv, C, hm1, rfl⟩ := hm1
      have c0 := hm1.c0
      have c1 := hm1.c1
      have hbm : b ∉ mB m r cv C := hbw.2
      by_cases htm : t ∈ s1.1
      · -- named already
        obtain ⟨x, hx⟩ : ∃ x, t :: rest = [x] := by
          rcases hun with h | h
          · exact absurd htm (h t (by simp))
          · exact h
        simp only [List.cons.injEq] at hx
        obtain ⟨rfl, rfl⟩ := hx
        have lt1 := hm1.look t
        have hv := varOf_pos htm
        simp (disch := omega) only [go_sem, ↓cw_block, dsB_of, q0, q4, qd, ec, hct, c1, lt1]
        refine fin ⟨meas ns.length [] s1.1, by unfold meas; simp; omega, [], s1, _, .slice (some ⟨b, o, none⟩) xs0.length cap, rfl, by simp (disch := omega) only [go_sem, ↓cw_block, dsB_of, q0, q4, qd], ⟨r, cv, C, hm1, rfl⟩, f1, g1, by rw [← hxs0]; exact hw0, by simpa [own] using hbw, ?_, trivial, by simp, .inl (by simp), hn1, hr1, hc1⟩
        rw [← hfin]
        simp only [finM]
        rw [needM_named htm]
      · have lt1 := hm1.look t
        rw [varOf_none htm] at lt1
        have hun' : ∀ x ∈ rest, x ∉ s1.1 := by
          rcases hun with h | ⟨x, hx⟩
          · exact fun x hx => h x (by simp [hx])
          · simp only [List.cons.injEq] at hx
            rw [hx.2]; simp
        have hgt := hstk.gt
        obtain ⟨p, hp⟩ : ∃ p, ns[t]? = some p := ⟨ns[t], by simp [htn]⟩
        have hpd : ns.getD t (0, 0) = p := by rw [List.getD_eq_getElem?_getD, hp]; rfl
        simp (disch := omega) only [go_sem, ↓cw_block, dsB_of, q0, q4, qd, ec, hct, c0, c1, lt1]
        refine call_to (node_spec hg1 hp) ?_
        rintro _ _ ⟨rfl, rfl⟩
        by_cases hz : p = (0, 0)
        · -- an input, or false
          rw [if_pos hz]
          simp (disch := omega) only [go_sem, ↓cw_block, dsB_of, q0, q4, qd, ec, hct, c0, c1]
          refine call_to (name_spec hm1 (by omega) htm) ?_
          rintro _ H2 ⟨rfl, hm2, f2⟩
          simp (disch := omega) only [go_sem, ↓cw_block, dsB_of, q0, q4, qd]
          have hrb : b ∉ [r] := by intro e; simp at e; subst e; exact hbm (by simp [mB])
          refine fin ⟨meas ns.length rest (s1.1 ++ [t]), meas_pop hstk htn htm, rest, (s1.1 ++ [t], s1.2), mB m r cv C, .slice (some ⟨b, o, none⟩) xs0.length cap, rfl, by simp (disch := omega) only [go_sem, ↓cw_block, dsB_of, q0, q4, qd], ⟨r, cv, C, hm2, rfl⟩, Fr.grow f1 (f2.mono (fun x _ hx => by simp at hx; simp [mB, hx])) g1, g1, ?_, by simpa [own] using hbw, ?_, hstk.tail, fun x hx => hst x (by simp [hx]), .inl ?_, ?_, ?_, by simp; omega⟩
          · rw [← hxs0]; exact hw0.frame f2 (by simpa [own] using hrb)
          · rw [← hfin]
            simp only [finM]
            rw [needM_leaf htm (by rw [hpd, hz])]
            simp [giveM]
          · intro x hx e
            simp only [List.mem_append, List.mem_singleton] at e
            rcases e with e | e
            · exact hun' x hx e
            · have := hgt x hx; omega
          · rw [List.nodup_append]
            exact ⟨hn1, by simp, by intro a ha b hb e; simp at hb; subst hb; subst e; exact htm ha⟩
          · intro x hx
            simp only [List.mem_append, List.mem_singleton] at hx
            rcases hx with hx | hx
            · exact hr1 x hx
            · omega
        · rw [if_neg hz]
          have hk := hd.kid t (by rw [hpd]; exact hz)
          rw [hpd] at hk
          have ea : (p.1 : Int) / 2 = ((p.1 / 2 : Nat) : Int) := by omega
          have eb : (p.2 : Int) / 2 = ((p.2 / 2 : Nat) : Int) := by omega
          have l2 := hm1.look (p.1 / 2)
          have l3 := hm1.look (p.2 / 2)
          have push : ∀ (q : Nat) (k : Value → Heap → Prop), q < t → q ∉ s1.1 → finM ns (q :: t :: rest) s1 = needM ns n s →
              (∀ w' H2, Fr B H H2 → Mk H2 m g (mB m r cv C) s1 → IV H2 3 w' ((q :: t :: rest).reverse.map Int.ofNat) → (∀ b ∈ own w', H.size ≤ b ∧ b ∉ mB m r cv C) → k w' H2) →
              @appB Tryz.prog 26 26 (.slice (some ⟨b, o, none⟩) (xs0.length + 1) cap) (.slice (some ⟨H1.size, 0, none⟩) 1 1) ⟨H1.push (.cells #[iv q] 3)⟩ ⟨k⟩ := by
            intro q k hq hqs hf hk
            refine app_lit1 T.el26 rfl hw rfl (by simp; omega) ?_
            rintro w' H2 k1 k2 k3 _
            refine hk w' H2 ?_ ⟨r, cv, C, hm1.frame k2 (fun x hx e => ?_), rfl⟩ ?_ ?_
            · refine ⟨Nat.le_trans f1.size k2.size, fun x hx hF => ?_⟩
              rw [k2.same x (Nat.lt_of_lt_of_le hx f1.size) (fun e => by simp [own] at e; omega)]
              exact f1.same x hx hF
            · simp [own] at e; subst e; exact hbm hx
            · have : (q :: t :: rest).reverse.map Int.ofNat = (xs0 ++ [(t : Int)]) ++ [(q : Int)] := by rw [hxs0]; simp
              unfold IV
              rw [this, List.map_append]
              exact k1
            · intro x hx
              rcases k3 x hx with e | e
              · simp [own] at e; subst e; exact hbw
              · exact ⟨Nat.le_trans f1.size e, fun e' => by have := hm1.lt x e'; omega⟩
          by_cases ha : p.1 / 2 ∈ s1.1
          · have va := varOf_pos ha
            by_cases hb : p.2 / 2 ∈ s1.1
            · have vb := varOf_pos hb
              simp (disch := omega) only [go_sem, ↓cw_block, dsB_of, q0, q4, qd, ec, hct, c0, c1, ea, eb, l2, l3]
              refine call_to (name_spec hm1 (by omega) htm) ?_
              rintro _ H2 ⟨rfl, hm2, f2⟩
              have hm2' : Mk H2 m g (mB m r cv C) (s1.1 ++ [t], s1.2) := ⟨r, cv, C, hm2, rfl⟩
              have hlen2 : (s1.1 ++ [t]).length = s1.1.length + 1 := by simp
              simp (disch := omega) only [go_sem, ↓cw_block, dsB_of, q0, q4, qd]
              refine call_to (lit_spec hm2' (by simp; omega) (by omega)) ?_
              rintro _ _ ⟨rfl, rfl⟩
              simp (disch := omega) only [go_sem, ↓cw_block, dsB_of, q0, q4, qd]
              refine call_to (lit_spec hm2' (by simp; omega) (by omega)) ?_
              rintro _ _ ⟨rfl, rfl⟩
              have lx := litM_rng (L := s1.1 ++ [t]) (e := p.1)
              have ly := litM_rng (L := s1.1 ++ [t]) (e := p.2)
              rw [hlen2] at lx ly
              have d2 := hm2.c2
              obtain ⟨ca, cc, rfl⟩ := hm2.vc.form
              simp (disch := omega) only [go_sem, ↓cw_block, dsB_of, q0, q4, qd, d2]
              refine clauses3 (x := [-((s1.1.length + 1 : Nat) : Int), litM (s1.1 ++ [t]) p.1]) (y := [-((s1.1.length + 1 : Nat) : Int), litM (s1.1 ++ [t]) p.2]) (z := [((s1.1.length + 1 : Nat) : Int), - litM (s1.1 ++ [t]) p.1, - litM (s1.1 ++ [t]) p.2]) T.el39 rfl rfl hm2.vc (fun b hb => (hm2.s3 b hb).1) (by omega) (by simp only; omega) ?_
              rintro v3 H3 k1 k2 k3 k4 ⟨a3, c3, rfl⟩
              have hms := hm2.self.lt
              have hrs := hm2.mp.lt
              have b3 := k2.blk hm2.self hm2.s1
              have w3 := b3.wr (i := 2) (by simp) (.slice a3 (s1.2.length + 3) c3)
              have b4 := b3.set 2 (.slice a3 (s1.2.length + 3) c3)
              have F4 : Fr [m] H3 (setH H3 ⟨m, 2, none⟩ (.slice a3 (s1.2.length + 3) c3)) := Fr.set (by simp)
              have n1 : m ∉ own (Value.slice a3 (s1.2.length + 3) c3) := fun e => (k3 m e).elim hm2.s1 (fun e => by omega)
              have n2 : r ∉ own (Value.slice a3 (s1.2.length + 3) c3) := fun e => (k3 r e).elim hm2.s2.1 (fun e => by omega)
              have n3 : ∀ x ∈ C ++ [H2.size, H2.size + 1, H2.size + 2], x ∉ own (Value.slice a3 (s1.2.length + 3) c3) ∧ x ≠ m ∧ x ≠ r := by
                intro x hx
                simp only [List.mem_append, List.mem_cons, List.not_mem_nil, or_false] at hx
                rcases hx with hx | hx
                · have q := hm2.s3 x hx
                  have q' := hm2.cl x hx
                  exact ⟨fun e => (k3 x e).elim q.1 (fun e => by omega), q.2⟩
                · refine ⟨fun e => (k3 x e).elim (fun e' => ?_) (fun e => by omega), by omega, by omega⟩
                  obtain ⟨cvs, av, _⟩ := hm2.vc
                  have := av.lt x e'
                  omega
              have hbo : b ∉ own (Value.slice ca s1.2.length cc) := fun e => hbm (by simp only [mB, List.mem_cons, List.mem_append]; exact .inr (.inr (.inl e)))
              have hbb : b < H2.size := Nat.lt_of_lt_of_le (hw.lt b (by simp [own])) f2.size
              have hrb : b ∉ [r] := by intro e; simp at e; subst e; exact hbm (by simp [mB])
              have hmb : b ∉ [m] := by intro e; simp at e; subst e; exact hbm (by simp [mB])
              simp (disch := omega) only [go_sem, ↓cw_block, dsB_of, q0, q4, qd, w3]
              refine fin ⟨meas ns.length rest (s1.1 ++ [t]), meas_pop hstk htn htm, rest, giveM p t s1, mB m r (.slice a3 (s1.2.length + 3) c3) (C ++ [H2.size, H2.size + 1, H2.size + 2]), .slice (some ⟨b, o, none⟩) xs0.length cap, rfl, by simp (disch := omega) only [go_sem, ↓cw_block, dsB_of, q0, q4, qd], ⟨r, _, _, ⟨b4, ?_, ?_, n1, ⟨n2, hm2.s2.2⟩, n3, ?_⟩, rfl⟩, ?_, ?_, ?_, ?_, ?_, hstk.tail, fun x hx => hst x (by simp [hx]), .inl ?_, ?_, ?_, ?_⟩
              · exact (hm2.mp.frame k2 hm2.s2.1).frame F4 (by simp; exact hm2.s2.2)
              · have e5 : (giveM p t s1).2 = s1.2 ++ [[-((s1.1.length + 1 : Nat) : Int), litM (s1.1 ++ [t]) p.1], [-((s1.1.length + 1 : Nat) : Int), litM (s1.1 ++ [t]) p.2], [((s1.1.length + 1 : Nat) : Int), - litM (s1.1 ++ [t]) p.1, - litM (s1.1 ++ [t]) p.2]] := by
                  simp [giveM, hz]
                rw [e5]
                exact k1.frame F4 (by intro x hx e; simp at e; subst e; exact n1 hx) (by intro x hx e; simp at e; exact (n3 x hx).2.1 e)
              · intro x hx
                rw [size_setH]
                simp only [List.mem_append, List.mem_cons, List.not_mem_nil, or_false] at hx
                rcases hx with hx | hx
                · have := hm2.cl x hx; omega
                · omega
              · refine Fr.grow f1 (Fr.trans (F := mB m r (.slice ca s1.2.length cc) C) (f2.mono (fun x _ hx => by simp at hx; simp [mB, hx])) (Fr.trans (k2.mono (fun x _ hx => by simp only [mB, List.mem_cons, List.mem_append]; exact .inr (.inr (.inl hx)))) (F4.mono (fun x _ hx => by simp at hx; simp [mB, hx])))) g1
              · refine g1.trans (H' := H1) (Mk.grow (fun x hx => (k3 x hx).imp id (fun h => by have := f2.size; omega)) (fun x hx => ?_)) f1.size
                simp only [List.mem_append, List.mem_cons, List.not_mem_nil, or_false] at hx
                exact hx.imp id (fun h => by have := f2.size; omega)
              · rw [← hxs0]
                exact ((hw0.frame f2 (by simpa [own] using hrb)).frame k2 (by intro x hx e; simp [own] at hx; subst hx; exact hbo e)).frame F4 (by simpa [own] using hmb)
              · intro x hx
                simp [own] at hx
                subst hx
                refine ⟨hbw.1, fun e => ?_⟩
                simp only [mB, List.mem_cons, List.mem_append] at e
                rcases e with e | e | e | e | e
                · exact hmb (by simp [e])
                · exact hrb (by simp [e])
                · rcases k3 x e with e | e
                  · exact hbo e
                  · omega
                · exact hbm (by simp [mB, e])
                · simp only [List.not_mem_nil, or_false] at e; omega
              · rw [← hfin]
                simp only [finM]
                rw [needM_and hd htm (by rw [hpd]; exact hz), hpd, needM_named ha, needM_named hb]
              · intro x hx e
                simp only [giveM, List.mem_append, List.mem_singleton] at e
                rcases e with e | e
                · exact hun' x hx e
                · have := hgt x hx; omega
              · simp only [giveM]
                rw [List.nodup_append]
                exact ⟨hn1, by simp, by intro a ha b hb e; simp at hb; subst hb; subst e; exact htm ha⟩
              · intro x hx
                simp only [giveM, List.mem_append, List.mem_singleton] at hx
                rcases hx with hx | hx
                · exact hr1 x hx
                · omega
              · simp [giveM, hz]; omega
            · rw [varOf_none hb] at l3
              simp (disch := omega) only [go_sem, ↓cw_block, dsB_of, q0, q4, qd, ec, hct, c0, c1, ea, eb, l2, l3]
              have hf2 : finM ns (p.2 / 2 :: t :: rest) s1 = needM ns n s := by
                rw [← hfin]
                simp only [finM]
                have := needM_kid2 hd htm (by rw [hpd]; exact hz) (by rw [hpd]; exact ha)
                rw [hpd] at this
                rw [this]
              refine push (p.2 / 2) _ hk.2 hb hf2 ?_
              intro w' H2 f2 hm2 hw2 ho2
              simp (disch := omega) only [go_sem, ↓cw_block, dsB_of, q0, q4, qd]
              have hs2 : Stk ns.length (p.2 / 2 :: t :: rest) := ⟨hk.2, hstk⟩
              exact fin ⟨_, meas_push hs2, p.2 / 2 :: t :: rest, s1, _, w', rfl, by simp (disch := omega) only [go_sem, ↓cw_block, dsB_of, q0, q4, qd], hm2, f2, g1, hw2, ho2, hf2, hs2, by intro x hx; rcases List.mem_cons.1 hx with rfl | hx; exact Nat.lt_trans hk.2 htn; exact hst x hx, .inl (by intro x hx; rcases List.mem_cons.1 hx with rfl | hx; exact hb; rcases List.mem_cons.1 hx with rfl | hx; exact htm; exact hun' x hx), hn1, hr1, hc1⟩
          · rw [varOf_none ha] at l2
            simp (disch := omega) only [go_sem, ↓cw_block, dsB_of, q0, q4, qd, ec, hct, c0, c1, ea, eb, l2, l3]
            have hf2 : finM ns (p.1 / 2 :: t :: rest) s1 = needM ns n s := by
              rw [← hfin]
              simp only [finM]
              have := needM_kid1 hd htm (by rw [hpd]; exact hz)
              rw [hpd] at this
              rw [this]
            refine push (p.1 / 2) _ hk.1 ha hf2 ?_
            intro w' H2 f2 hm2 hw2 ho2
            simp (disch := omega) only [go_sem, ↓cw_block, dsB_of, q0, q4, qd]
            have hs2 : Stk ns.length (p.1 / 2 :: t :: rest) := ⟨hk.1, hstk⟩
            exact fin ⟨_, meas_push hs2, p.1 / 2 :: t :: rest, s1, _, w', rfl, by simp (disch := omega) only [go_sem, ↓cw_block, dsB_of, q0, q4, qd], hm2, f2, g1, hw2, ho2, hf2, hs2, by intro x hx; rcases List.mem_cons.1 hx with rfl | hx; exact Nat.lt_trans hk.1 htn; exact hst x hx, .inl (by intro x hx; rcases List.mem_cons.1 hx with rfl | hx; exact ha; rcases List.mem_cons.1 hx with rfl | hx; exact htm; exact hun' x hx), hn1, hr1, hc1⟩
end
end Go.Proofs.YtofooamimiijlaaGreat

namespace Go.Proofs.YtofooamimiijlaaGreat
open Go.HL
set_option maxRecDepth 10000
set_option linter.unusedSimpArgs false

/-- A graph and its maker. -/
structure GMk (H : Heap) (g m : Nat) (Bg B : List Nat) (ns : List Pr) (ins : List Nat) (s : MS) : Prop where
  gr : Gr H g Bg ns ins
  mkr : Mk H m g B s
  dis : ∀ b ∈ Bg, b ∉ B
  nd : s.1.Nodup
  rg : ∀ x ∈ s.1, x < ns.length
  cs : s.2.length ≤ 1 + 3 * s.1.length
section
variable {H : Heap} {g m : Nat} {Bg B : List Nat} {ns : List Pr} {ins : List Nat} {s : MS}
theorem GMk.dn (h : GMk H g m Bg B ns ins s) : Dn ns := h.gr.w.2.2.1
theorem GMk.big (h : GMk H g m Bg B ns ins s) : ns.length ≤ 200000 := h.gr.w.2.1
theorem GMk.len (h : GMk H g m Bg B ns ins s) : s.1.length ≤ ns.length := nodup_len _ _ h.nd h.rg
theorem GMk.frame {H' : Heap} {F : List Nat} (h : GMk H g m Bg B ns ins s) (hf : Fr F H H') (h1 : ∀ b ∈ Bg, b ∉ F) (h2 : ∀ b ∈ B, b ∉ F) : GMk H' g m Bg B ns ins s :=
  ⟨h.gr.frame hf h1, h.mkr.frame hf h2, h.dis, h.nd, h.rg, h.cs⟩
theorem Lit_spec (h : GMk H g m Bg B ns ins s) {e : Int} (he : e ≤ 9223372036854775807) :
    CallF Tryz.prog 13 [hp m, iv e] H (fun r H' => r = iv (litM (needM ns (ownM ns e / 2) s).1 (ownM ns e)) ∧ Fr B H H' ∧ ∃ B', GMk H' g m Bg B' ns ins (needM ns (ownM ns e / 2) s) ∧ Grow B B' H) NoP := by
  have hpos := h.gr.w.1
  have hbig := h.big
  have hlen := h.len
  have hcs := h.cs
  have ho := ownM_lt hpos e
  obtain ⟨r, cv, C, hm, hB⟩ := h.mkr
  have c0 := hm.c0
  have e2 : ((ownM ns e : Nat) : Int) / 2 = ((ownM ns e / 2 : Nat) : Int) := by omega
  have fin' : ∀ H', (Fr B H H' ∧ ∃ B', Mk H' m g B' (needM ns (ownM ns e / 2) s) ∧ Grow B B' H) → ∃ B', GMk H' g m Bg B' ns ins (needM ns (ownM ns e / 2) s) ∧ Grow B B' H := by
    rintro H' ⟨f, B', hk, hg⟩
    obtain ⟨t, t1, t2, t3, t4, k, t5, t6⟩ := needM_list h.dn (ownM ns e / 2) s
    have hlt := h.gr.lt
    refine ⟨B', ⟨h.gr.frame f (fun b hb e => h.dis b hb e), hk, fun b hb e => (hg b e).elim (h.dis b hb) (fun e => by have := hlt b hb; omega), t4 h.nd, fun x hx => ?_, ?_⟩, hg⟩
    · exact (needM_mem h.dn hx).elim (h.rg x) (fun e => by omega)
    · rw [t6, t1, List.length_append]; omega
  refine callF_of Tryz.func13 rfl Tryz.ntmps13 Tryz.results13 (by decide) rfl ?_
  by_cases hv : 0 ≤ e ∧ e < 2 * ns.length
  · have eo : e = ((ownM ns e : Nat) : Int) := by unfold ownM; rw [if_pos hv]; omega
    generalize hq : ownM ns e = q at *
    subst eo
    have : ¬ ((ns.length : Int) ≤ (q : Int) / 2) := by omega
    simp (disch := omega) only [go_sem, ↓cw_block, dsB_of, c0]
    refine call_to (nodes_spec h.gr) ?_
    rintro _ _ ⟨rfl, rfl⟩
    simp (disch := omega) only [go_sem, ↓cw_block, dsB_of, e2]
    refine call_to (need_spec h.gr h.mkr h.dis h.nd h.rg (by omega) (by omega)) ?_
    rintro _ H2 ⟨rfl, f2, hx⟩
    obtain ⟨B2, hk2, g2⟩ := hx
    obtain ⟨B3, hk3, g3⟩ := fin' H2 ⟨f2, B2, hk2, g2⟩
    have hl3 := hk3.len
    simp (disch := omega) only [go_sem, ↓cw_block, dsB_of]
    refine call_to (lit_spec hk2 (by omega) (by omega)) ?_
    rintro _ _ ⟨rfl, rfl⟩
    simp (disch := omega) only [go_sem, ↓cw_block, dsB_of]
    exact fin ⟨rfl, f2, B3, hk3, g3⟩
  · have eo : ownM ns e = 0 := by unfold ownM; rw [if_neg hv]
    rw [eo] at fin' ⊢
    simp only [Nat.zero_div] at fin' ⊢
    have last : CallF Tryz.prog 30 [hp m, iv 0] H (fun v H' => v = .tuple #[] ∧ Fr B H H' ∧ ∃ B', Mk H' m g B' (needM ns 0 s) ∧ Grow B B' H) NoP := need_spec h.gr h.mkr h.dis h.nd h.rg (by omega) hpos
    by_cases hneg : e < 0
    · simp (disch := omega) only [go_sem, ↓cw_block, dsB_of, c0]
      refine call_to last ?_
      rintro _ H2 ⟨rfl, f2, B2, hk2, g2⟩
      obtain ⟨B3, hk3, g3⟩ := fin' H2 ⟨f2, B2, hk2, g2⟩
      have hl3 := hk3.len
      simp (disch := omega) only [go_sem, ↓cw_block, dsB_of]
      refine call_to (lit_spec (e := 0) hk2 (by omega) (by omega)) ?_
      rintro _ _ ⟨rfl, rfl⟩
      simp (disch := omega) only [go_sem, ↓cw_block, dsB_of]
      exact fin ⟨rfl, f2, B3, hk3, g3⟩
    · have h2 : (ns.length : Int) ≤ e / 2 := by omega
      simp (disch := omega) only [go_sem, ↓cw_block, dsB_of, c0]
      refine call_to (nodes_spec h.gr) ?_
      rintro _ _ ⟨rfl, rfl⟩
      simp (disch := omega) only [go_sem, ↓cw_block, dsB_of, c0]
      refine call_to last ?_
      rintro _ H2 ⟨rfl, f2, B2, hk2, g2⟩
      obtain ⟨B3, hk3, g3⟩ := fin' H2 ⟨f2, B2, hk2, g2⟩
      have hl3 := hk3.len
      simp (disch := omega) only [go_sem, ↓cw_block, dsB_of]
      refine call_to (lit_spec (e := 0) hk2 (by omega) (by omega)) ?_
      rintro _ _ ⟨rfl, rfl⟩
      simp (disch := omega) only [go_sem, ↓cw_block, dsB_of]
      exact fin ⟨rfl, f2, B3, hk3, g3⟩

theorem cnew_nil : CallF Tryz.prog 12 [.pointer none] H (fun r H' => H = H' ∧ r = .pointer none) NoP := by
  refine callF_of Tryz.func12 rfl Tryz.ntmps12 Tryz.results12 (by decide) rfl ?_
  simp (disch := omega) only [go_sem, ↓cw_block, dsB_of]
  exact fin ⟨rfl, rfl⟩
theorem cnew_spec : CallF Tryz.prog 12 [hp g] H (fun r H' => Fr [] H H' ∧ ∃ m B, r = hp m ∧ Mk H' m g B ([0], [[-1]]) ∧ ∀ b ∈ B, H.size ≤ b) NoP := by
  refine callF_of Tryz.func12 rfl Tryz.ntmps12 Tryz.results12 (by decide) rfl ?_
  simp (disch := omega) only [go_sem, ↓cw_block, dsB_of]
  refine put_ints (kvs := []) Tryz.underlying56 Tryz.underlying3 MapR.new (by simp [mget]) ?_
  intro H1 m1 f1
  have hs1 : H.size + 1 ≤ H1.size := by have := f1.size; simpa using this
  have F1 : Fr [] H H1 := fr_new' Fr.push f1 (by simp)
  simp (disch := omega) only [go_sem, ↓cw_block, dsB_of]
  refine fin ?_
  have e1 : (H1.push (.cells #[iv (-1)] 3)).size = H1.size + 1 := by simp
  have e2 : ((H1.push (.cells #[iv (-1)] 3)).push (.cells #[.slice (some ⟨H1.size, 0, none⟩) 1 1] 26)).size = H1.size + 2 := by simp
  have k1 : Blk (H1.push (.cells #[iv (-1)] 3)) H1.size 3 [iv (-1)] := Blk.new rfl
  have k2 : Blk ((H1.push (.cells #[iv (-1)] 3)).push (.cells #[.slice (some ⟨H1.size, 0, none⟩) 1 1] 26)) (H1.size + 1) 26 [.slice (some ⟨H1.size, 0, none⟩) 1 1] := by
    rw [← e1]; exact Blk.new rfl
  refine ⟨((F1.push').push').push', H1.size + 2, mB (H1.size + 2) H.size (.slice (some ⟨H1.size + 1, 0, none⟩) 1 1) [H1.size], ?_, ⟨H.size, _, _, ⟨?_, ?_, ⟨[.slice (some ⟨H1.size, 0, none⟩) 1 1], ⟨.inr ⟨H1.size + 1, 1, 1, [], [], rfl, ?_, rfl, rfl, by omega⟩⟩, rfl, ?_⟩, ?_, ?_, ?_, ?_⟩, rfl⟩, ?_⟩
  · show _ = _; rw [e2]
  · have := Blk.new (H := (H1.push (.cells #[iv (-1)] 3)).push (.cells #[.slice (some ⟨H1.size, 0, none⟩) 1 1] 26)) (t := 58) (vs := [hp g, .map (some H.size), .slice (some ⟨(H1.push (.cells #[iv (-1)] 3)).size, 0, none⟩) 1 1]) rfl
    rw [e2] at this
    show Blk _ (H1.size + 2) _ [hp g, .map (some H.size), .slice (some ⟨H1.size + 1, 0, none⟩) 1 1]
    rw [← e1]
    exact this
  · exact m1.frame (F := []) ((Fr.push.push').push') (by simp)
  · exact k2.push _
  · intro i c hc
    have := (List.getElem?_eq_some_iff.1 hc).1
    have hi : i = 0 := by simp at this; omega
    subst hi
    simp at hc; subst hc
    exact ⟨H1.size, by simp, rfl, (k1.push _).push _⟩
  · simp [own]
  · simp [own]; omega
  · simp [own]; omega
  · simp; omega
  · intro b hb
    simp [mB, own] at hb
    omega
end
end Go.Proofs.YtofooamimiijlaaGreat

namespace Go.Proofs.YtofooamimiijlaaGreat
open Go.HL
set_option maxRecDepth 10000
set_option linter.unusedSimpArgs false

/-- A slice of numbers that is read. -/
def IR (H : Heap) (v : Value) (xs : List Int) : Prop := ∃ a c, v = .slice a xs.length c ∧ ∀ i, i < xs.length → ∃ b o, a = some ⟨b, o, none⟩ ∧ cellH H ⟨b, o + i, none⟩ = some (iv (nt xs i))
theorem IR.of_blk {H : Heap} {b : Nat} {xs : List Int} (h : Blk H b 3 (xs.map (Value.int .i64))) {c : Nat} : IR H (.slice (some ⟨b, 0, none⟩) xs.length c) xs := by
  refine ⟨_, _, rfl, fun i hi => ⟨b, 0, rfl, ?_⟩⟩
  rw [Nat.zero_add, h.cell, List.getElem?_map, nt_lt hi]; rfl
theorem IR.of_IV {H : Heap} {e : Nat} {v : Value} {xs : List Int} (h : IV H e v xs) : IR H v xs := by
  obtain ⟨a, c, rfl⟩ := h.form
  refine ⟨a, c, rfl, fun i hi => ?_⟩
  obtain ⟨b, o, cap, e1, hc⟩ := h.at hi
  simp only [Value.slice.injEq] at e1
  exact ⟨b, o, e1.1, hc⟩
theorem nt_ext {xs ys : List Int} (hl : xs.length = ys.length) (h : ∀ j, j < xs.length → nt xs j = nt ys j) : xs = ys := by
  apply List.ext_getElem?
  intro i
  rcases Nat.lt_or_ge i xs.length with hi | hi
  · rw [nt_lt hi, nt_lt (by omega), h i hi]
  · rw [List.getElem?_eq_none hi, List.getElem?_eq_none (by omega)]
section
variable {H : Heap}
theorem ints_spec {v w : Value} {xs ys : List Int} (h1 : IR H v xs) (h2 : IR H w ys) (hl : xs.length ≤ 1000000) : CallF Tryz.prog 24 [v, w] H (fun r H' => H = H' ∧ r = .bool (decide (xs = ys))) NoP := by
  obtain ⟨a, c, rfl, ha⟩ := h1
  obtain ⟨a', c', rfl, ha'⟩ := h2
  refine callF_of Tryz.func24 rfl Tryz.ntmps24 Tryz.results24 (by decide) rfl ?_
  by_cases hlen : xs.length = ys.length
  · simp (disch := omega) only [go_sem, ↓cw_block, dsB_of]
    refine loop_by (fun k ρ H1 => ∃ (i : Nat), k = xs.length - i ∧ i ≤ xs.length ∧ H = H1 ∧ (ρ.get 0 = .slice a xs.length c ∧ ρ.get 1 = .slice a' ys.length c' ∧ ρ.get 5 = iv i ∧ ρ.ds = []) ∧ ∀ j, j < i → nt xs j = nt ys j) (k := xs.length) ?_ ?_
    · exact ⟨0, rfl, by omega, rfl, by simp (disch := omega) only [go_sem, ↓cw_block, dsB_of], by omega⟩
    · rintro k ρ _ ⟨i, rfl, hi, rfl, ⟨r0, r1, r5, rd⟩, heq⟩
      have hi1 : (i : Int) + 1 = ((i + 1 : Nat) : Int) := by omega
      by_cases hin : i < xs.length
      · obtain ⟨b, o, rfl, hc⟩ := ha i hin
        obtain ⟨b', o', rfl, hc'⟩ := ha' i (by omega)
        simp (disch := omega) only [go_sem, ↓cw_block, dsB_of, r0, r1, r5, rd]
        refine draw0 (lk [(0, true), (1, true), (2, true), (3, true), (4, true), (5, true), (6, true), (7, true), (8, true)] .fin) T.mixed ?_
        by_cases hne : nt xs i = nt ys i
        · simp (disch := omega) only [go_sem, ↓cw_block, dsB_of, r0, r1, r5, rd, hc, hc', hne]
          refine fin ⟨xs.length - (i + 1), by omega, i + 1, rfl, by omega, rfl, by simp (disch := omega) only [go_sem, ↓cw_block, dsB_of, r0, r1, r5, rd, hi1], fun j hj => ?_⟩
          rcases Nat.lt_or_ge j i with h | h
          · exact heq j h
          · have : j = i := by omega
            subst this; exact hne
        · simp (disch := omega) only [go_sem, ↓cw_block, dsB_of, r0, r1, r5, rd, hc, hc', hne, dsB_of]
          exact fin ⟨rfl, by rw [decide_eq_false (fun e => hne (by rw [e]))]⟩
      · have : i = xs.length := by omega
        subst this
        have e : xs = ys := nt_ext hlen heq
        simp (disch := omega) only [go_sem, ↓cw_block, dsB_of, r0, r1, r5, rd, dsB_of]
        exact fin ⟨rfl, by rw [decide_eq_true e]⟩
  · simp (disch := omega) only [go_sem, ↓cw_block, dsB_of]
    exact fin ⟨rfl, by rw [decide_eq_false (fun e => hlen (by rw [e]))]⟩

theorem awake_spec : CallF Tryz.prog 4 [] H (fun r H' => r = .bool true ∧ Fr [] H H') NoP := by
  refine callF_of Tryz.func4 rfl Tryz.ntmps4 Tryz.results4 (by decide) rfl ?_
  simp (disch := omega) only [go_sem, ↓cw_block, dsB_of]
  refine call_to gnew_spec ?_
  rintro _ H1 ⟨f1, g, B1, rfl, h1, b1⟩
  simp (disch := omega) only [go_sem, ↓cw_block, dsB_of]
  refine call_to cnew_spec ?_
  rintro _ H2 ⟨f2, m, M2, rfl, k2, m2⟩
  simp (disch := omega) only [go_sem, ↓cw_block, dsB_of]
  refine call_to cnew_nil ?_
  rintro _ _ ⟨rfl, rfl⟩
  have h2 := h1.frame f2 (by simp)
  simp (disch := omega) only [go_sem, ↓cw_block, dsB_of]
  refine call_to (input_spec h2 (by simp)) ?_
  rintro _ H3 ⟨rfl, B3, h3, f3, g3⟩
  simp (disch := omega) only [go_sem, ↓cw_block, dsB_of]
  refine call_to (input_spec h3 (by simp)) ?_
  rintro _ H4 ⟨rfl, B4, h4, f4, g4⟩
  simp (disch := omega) only [go_sem, ↓cw_block, dsB_of]
  refine call_to (and_spec h4 (by simp) (by simp) (by simp)) ?_
  rintro _ H5 ⟨e, ns5, rfl, hR, B5, h5, f5, g5⟩
  have e6 : e = 6 ∧ ns5 = [(0, 0), (0, 0), (0, 0), (2, 4)] := by
    simp only [List.cons_append, List.nil_append, List.length_cons, List.length_nil] at hR
    have o1 : ownM [(0, 0), (0, 0), (0, 0)] (((2 * (0 + 1) : Nat) : Int)) = 2 := by decide
    have o2 : ownM [(0, 0), (0, 0), (0, 0)] (((2 * (0 + 1 + 1) : Nat) : Int)) = 4 := by decide
    rw [o1, o2] at hR
    rcases hR with ⟨_, ⟨h, _⟩ | ⟨h, _⟩ | ⟨n, h0, hn, _⟩⟩ | ⟨rfl, rfl, _⟩
    · simp [nx] at h
    · simp at h
    · exfalso
      match n, hn with
      | 0, hn => simp at hn
      | 1, hn => simp at hn
      | 2, hn => simp at hn
      | n + 3, hn => simp at hn
    · exact ⟨rfl, rfl⟩
  obtain ⟨rfl, rfl⟩ := e6
  have hs1 := f1.size
  have hs2 := f2.size
  have gg : Grow B1 B5 H2 := (g3.trans g4 f3.size).trans g5 (Nat.le_trans f3.size f4.size)
  have F25 : Fr B1 H2 H5 := Fr.grow (Fr.grow f3 f4 g3) f5 (g3.trans g4 f3.size)
  have hlt1 := h1.lt
  have hlt2 := k2.lt
  have d15 : ∀ b ∈ B5, b ∉ M2 := by
    intro b hb e
    rcases gg b hb with h | h
    · have := hlt1 b h; have := m2 b e; omega
    · have := hlt2 b e; omega
  have k5 := k2.frame F25 (fun b hb e => by have := hlt1 b e; have := m2 b hb; omega)
  have hM : GMk H5 g m B5 M2 [(0, 0), (0, 0), (0, 0), (2, 4)] ([] ++ [[(0, 0)].length] ++ [([(0, 0)] ++ [(0, 0)]).length]) ([0], [[-1]]) := ⟨h5, k5, d15, by simp, by simp, by simp⟩
  simp (disch := omega) only [go_sem, ↓cw_block, dsB_of]
  refine call_to (Lit_spec hM (by simp)) ?_
  rintro _ H6 ⟨rfl, f6, B6, hM6, g6⟩
  have on : ownM [(0, 0), (0, 0), (0, 0), (2, 4)] ((6 : Nat) : Int) = 6 := by decide
  have nm : needM [(0, 0), (0, 0), (0, 0), (2, 4)] 3 ([0], [[-1]]) = ([0, 1, 2, 3], [[-1], [-4, 2], [-4, 3], [4, -2, -3]]) := by decide
  rw [on] at hM6 ⊢
  simp only [Nat.reduceDiv] at hM6 ⊢
  rw [nm] at hM6 ⊢
  have lm : litM [0, 1, 2, 3] 6 = 4 := by decide
  simp only [lm]
  simp (disch := omega) only [go_sem, ↓cw_block, dsB_of]
  refine call_to (take_spec hM6.mkr) ?_
  rintro cv H7 ⟨C, cv7, c7, f7, B7, k7, b7, n7⟩
  obtain ⟨a7, cc7, rfl⟩ := cv7.form
  simp (disch := omega) only [go_sem, ↓cw_block, dsB_of]
  refine call_to (vars_spec k7) ?_
  rintro _ _ ⟨rfl, rfl⟩
  obtain ⟨cvs, v1, v2, v3⟩ := cv7
  obtain ⟨bb, q1, q2, q3⟩ := v3 3 [4, -2, -3] rfl
  have hcvs : cvs ≠ [] := by intro e; rw [e] at v2; simp at v2
  obtain ⟨b8, o8, l8, p8, e8, _, hc8⟩ := v1.cell hcvs
  simp only [Value.slice.injEq] at e8
  obtain ⟨rfl, rfl, rfl⟩ := e8
  have hc3 := hc8 3 (by rw [v2]; simp)
  rw [q2] at hc3
  simp only [List.length_cons, List.length_nil] at hc3
  obtain ⟨H8, hH8⟩ : ∃ H8, H8 = H7.push (.cells #[iv 4, iv (-2), iv (-3)] 3) := ⟨_, rfl⟩
  have F8 : Fr [] H7 H8 := by rw [hH8]; exact Fr.push
  have x8 : Blk H8 H7.size 3 ([4, -2, -3].map (Value.int .i64)) := by rw [hH8]; exact Blk.new rfl
  have y8 := F8.blk q3 (by simp)
  have k8 := k7.frame F8 (by simp)
  simp (disch := omega) only [go_sem, ↓cw_block, dsB_of, hc3, List.length_cons, List.length_nil]
  rw [← hH8]
  refine call_to (ints_spec (IR.of_blk (c := 3) y8) (IR.of_blk (c := 3) x8) (by simp)) ?_
  rintro _ _ ⟨rfl, rfl⟩
  simp (disch := omega) only [go_sem, ↓cw_block, dsB_of, decide_true]
  refine call_to (take_spec k8) ?_
  rintro cv9 H9 ⟨C9, cv9', c9, f9, B9, k9, b9, n9⟩
  obtain ⟨a9, cc9, rfl⟩ := cv9'.form
  simp (disch := omega) only [go_sem, ↓cw_block, dsB_of, List.length_nil]
  refine fin ⟨rfl, ?_⟩
  have F2 : Fr [] H H2 := f1.trans f2
  have F5 : Fr [] H H5 := fr_new' F2 F25 b1
  have mM : ∀ b ∈ M2, H.size ≤ b := fun b hb => by have := m2 b hb; omega
  have F6 : Fr [] H H6 := fr_new' F5 f6 mM
  have m6 : ∀ b ∈ B6, H.size ≤ b := fun b hb => (g6 b hb).elim (mM b) (fun h => by have := F5.size; omega)
  have F7 : Fr [] H H7 := fr_new' F6 f7 m6
  exact fr_new' (F7.trans F8) f9 (fun b hb => m6 b (b7 b hb))
end
end Go.Proofs.YtofooamimiijlaaGreat

namespace Go.Proofs.YtofooamimiijlaaGreat
open Go.HL
set_option maxRecDepth 10000
set_option linter.unusedSimpArgs false
set_option linter.unusedVariables false

def eV (f : Nat → Bool) (e : Nat) : Bool := f (e / 2) != decide (e % 2 = 1)
theorem take1 {α : Type} {l : List α} {i : Nat} (h : i < l.length) : l.take (i + 1) = l.take i ++ [l[i]] := by rw [List.take_add_one, List.getElem?_eq_getElem h]; rfl
def inV (ins : List Nat) (model : List Bool) (n : Nat) : Bool := decide (n ∈ ins) && bt model (ins.idxOf n)
def nvF (ns : List Pr) (ins : List Nat) (model : List Bool) : Nat → Nat → Bool
  | 0, _ => false
  | f + 1, n => if ns.getD n (0, 0) = (0, 0) then inV ins model n else eV (nvF ns ins model f) (ns.getD n (0, 0)).1 && eV (nvF ns ins model f) (ns.getD n (0, 0)).2
def nvG (ns : List Pr) (ins : List Nat) (model : List Bool) (n : Nat) : Bool := nvF ns ins model (n + 1) n
theorem nvF_fuel {ns : List Pr} {ins : List Nat} {model : List Bool} (h : Dn ns) : ∀ (f f' n : Nat), n < f → n < f' → nvF ns ins model f n = nvF ns ins model f' n := by
  intro f
  induction f with
  | zero => intro f' n h1; omega
  | succ f ih =>
    intro f' n h1 h2
    cases f' with
    | zero => omega
    | succ f' =>
      simp only [nvF]
      split
      · rfl
      · rename_i hne
        have hk := h.kid n hne
        unfold eV
        rw [ih f' _ (by omega) (by omega), ih f' _ (by omega) (by omega)]
theorem nv_leaf {ns : List Pr} {ins : List Nat} {model : List Bool} {n : Nat} (hp : ns.getD n (0, 0) = (0, 0)) : nvG ns ins model n = inV ins model n := by
  unfold nvG nvF; rw [if_pos hp]
theorem nv_and {ns : List Pr} {ins : List Nat} {model : List Bool} (h : Dn ns) {n : Nat} (hp : ns.getD n (0, 0) ≠ (0, 0)) :
    nvG ns ins model n = (eV (nvG ns ins model) (ns.getD n (0, 0)).1 && eV (nvG ns ins model) (ns.getD n (0, 0)).2) := by
  have hk := h.kid n hp
  have e : nvG ns ins model n = (eV (nvF ns ins model n) (ns.getD n (0, 0)).1 && eV (nvF ns ins model n) (ns.getD n (0, 0)).2) := by
    unfold nvG; rw [nvF, if_neg hp]
  rw [e]
  unfold eV nvG
  rw [nvF_fuel h n ((ns.getD n (0, 0)).1 / 2 + 1) _ (by omega) (by omega), nvF_fuel h n ((ns.getD n (0, 0)).2 / 2 + 1) _ (by omega) (by omega)]
def BRm (H : Heap) (v : Value) (xs : List Bool) : Prop := ∃ a c, v = .slice a xs.length c ∧ ∀ i, i < xs.length → ∃ b o, a = some ⟨b, o, none⟩ ∧ cellH H ⟨b, o + i, none⟩ = some (.bool (bt xs i))
theorem BRm.of_BV {H : Heap} {e : Nat} {v : Value} {xs : List Bool} (h : BV H e v xs) : BRm H v xs := by
  obtain ⟨a, c, rfl⟩ := h.form
  refine ⟨a, c, rfl, fun i hi => ?_⟩
  obtain ⟨b, o, cap, e1, hc⟩ := h.at hi
  simp only [Value.slice.injEq] at e1
  exact ⟨b, o, e1.1, hc⟩
theorem litM_nx {L : List Nat} {e : Nat} : litM L (nx e) = - litM L e := by
  have h1 : nx e / 2 = e / 2 := by unfold nx; split <;> omega
  unfold litM
  rw [h1]
  by_cases h : e % 2 = 1
  · have : ¬ nx e % 2 = 1 := by unfold nx; split <;> omega
    rw [if_pos h, if_neg this]; omega
  · have : nx e % 2 = 1 := by unfold nx; split <;> omega
    rw [if_neg h, if_pos this]
theorem litM_append {L t : List Nat} {e : Nat} (h : e / 2 ∈ L) : litM (L ++ t) e = litM L e := by
  unfold litM; rw [varOf_append h]
theorem ownM_of {ns : List Pr} {e : Nat} (h : e < 2 * ns.length) : ownM ns (e : Int) = e := by
  unfold ownM; rw [if_pos (by omega)]; simp
theorem litM_in {L : List Nat} {e : Nat} (h : e / 2 ∈ L) : litM L e ≠ 0 ∧ -(L.length : Int) ≤ litM L e ∧ litM L e ≤ L.length := by
  have := varOf_pos h
  unfold litM
  split <;> omega
def cl1 (L : List Nat) (p : Pr) (n : Nat) : List Int := [-varOf L n, litM L p.1]
def cl2 (L : List Nat) (p : Pr) (n : Nat) : List Int := [-varOf L n, litM L p.2]
def cl3 (L : List Nat) (p : Pr) (n : Nat) : List Int := [varOf L n, -litM L p.1, -litM L p.2]
structure OkM (ns : List Pr) (s : MS) : Prop where
  z : 0 ∈ s.1
  v0 : varOf s.1 0 = 1
  nd : s.1.Nodup
  one : [-1] ∈ s.2
  kid : ∀ n ∈ s.1, ns.getD n (0, 0) ≠ (0, 0) → (ns.getD n (0, 0)).1 / 2 ∈ s.1 ∧ (ns.getD n (0, 0)).2 / 2 ∈ s.1
  tri : ∀ n ∈ s.1, ns.getD n (0, 0) ≠ (0, 0) → cl1 s.1 (ns.getD n (0, 0)) n ∈ s.2 ∧ cl2 s.1 (ns.getD n (0, 0)) n ∈ s.2 ∧ cl3 s.1 (ns.getD n (0, 0)) n ∈ s.2
  only : ∀ c ∈ s.2, c = [-1] ∨ ∃ n ∈ s.1, ns.getD n (0, 0) ≠ (0, 0) ∧ (c = cl1 s.1 (ns.getD n (0, 0)) n ∨ c = cl2 s.1 (ns.getD n (0, 0)) n ∨ c = cl3 s.1 (ns.getD n (0, 0)) n)
theorem OkM.start {ns : List Pr} (h0 : ns.getD 0 (0, 0) = (0, 0)) : OkM ns ([0], [[-1]]) := by
  refine ⟨by simp, by simp [varOf], by simp, by simp, ?_, ?_, ?_⟩
  · intro n hn hp; simp at hn; subst hn; exact absurd h0 hp
  · intro n hn hp; simp at hn; subst hn; exact absurd h0 hp
  · intro c hc; simp at hc; exact .inl hc
theorem cl_app {L t : List Nat} {p : Pr} {n : Nat} (h : n ∈ L) (h1 : p.1 / 2 ∈ L) (h2 : p.2 / 2 ∈ L) : cl1 (L ++ t) p n = cl1 L p n ∧ cl2 (L ++ t) p n = cl2 L p n ∧ cl3 (L ++ t) p n = cl3 L p n := by
  unfold cl1 cl2 cl3
  rw [varOf_append h, litM_append h1, litM_append h2]
  exact ⟨rfl, rfl, rfl⟩
theorem OkM.give {ns : List Pr} {s : MS} {n : Nat} (h : OkM ns s) (hn : n ∉ s.1) (hk : ns.getD n (0, 0) ≠ (0, 0) → (ns.getD n (0, 0)).1 / 2 ∈ s.1 ∧ (ns.getD n (0, 0)).2 / 2 ∈ s.1) : OkM ns (giveM (ns.getD n (0, 0)) n s) := by
  have e1 : (giveM (ns.getD n (0, 0)) n s).1 = s.1 ++ [n] := rfl
  have e2 : (giveM (ns.getD n (0, 0)) n s).2 = if ns.getD n (0, 0) = (0, 0) then s.2 else s.2 ++ [cl1 (s.1 ++ [n]) (ns.getD n (0, 0)) n, cl2 (s.1 ++ [n]) (ns.getD n (0, 0)) n, cl3 (s.1 ++ [n]) (ns.getD n (0, 0)) n] := by
    simp only [giveM, cl1, cl2, cl3, varOf_last hn, List.length_append, List.length_singleton, Int.natCast_add, Int.natCast_one]
  have sub : ∀ c ∈ s.2, c ∈ (giveM (ns.getD n (0, 0)) n s).2 := by
    intro c hc; rw [e2]; split
    · exact hc
    · simp [hc]
  refine ⟨by rw [e1]; simp [h.z], by rw [e1, varOf_append h.z, h.v0], ?_, sub _ h.one, ?_, ?_, ?_⟩
  · rw [e1, List.nodup_append]
    exact ⟨h.nd, by simp, by intro a ha b hb e; simp at hb; subst hb; subst e; exact hn ha⟩
  · intro m hm hp
    rw [e1, List.mem_append, List.mem_singleton] at hm
    rw [e1]
    rcases hm with hm | rfl
    · have := h.kid m hm hp; exact ⟨List.mem_append_left _ this.1, List.mem_append_left _ this.2⟩
    · have := hk hp; exact ⟨List.mem_append_left _ this.1, List.mem_append_left _ this.2⟩
  · intro m hm hp
    rw [e1, List.mem_append, List.mem_singleton] at hm
    rw [e1]
    rcases hm with hm | rfl
    · have k := h.kid m hm hp
      obtain ⟨c1, c2, c3⟩ := cl_app (t := [n]) hm k.1 k.2
      have := h.tri m hm hp
      rw [c1, c2, c3]
      exact ⟨sub _ this.1, sub _ this.2.1, sub _ this.2.2⟩
    · rw [e2, if_neg hp]
      simp
  · intro c hc
    rw [e1]
    have old : c ∈ s.2 → c = [-1] ∨ ∃ m ∈ s.1 ++ [n], ns.getD m (0, 0) ≠ (0, 0) ∧ (c = cl1 (s.1 ++ [n]) (ns.getD m (0, 0)) m ∨ c = cl2 (s.1 ++ [n]) (ns.getD m (0, 0)) m ∨ c = cl3 (s.1 ++ [n]) (ns.getD m (0, 0)) m) := by
      intro hc
      rcases h.only c hc with h' | ⟨m, hm, hp, h'⟩
      · exact .inl h'
      · have k := h.kid m hm hp
        obtain ⟨c1, c2, c3⟩ := cl_app (t := [n]) hm k.1 k.2
        exact .inr ⟨m, by simp [hm], hp, by rw [c1, c2, c3]; exact h'⟩
    rw [e2] at hc
    split at hc
    · exact old hc
    · rename_i hp
      rw [List.mem_append] at hc
      rcases hc with hc | hc
      · exact old hc
      · exact .inr ⟨n, by simp, hp, by simpa using hc⟩
theorem OkM.need {ns : List Pr} (hd : Dn ns) : ∀ (n : Nat) (s : MS), OkM ns s → OkM ns (needM ns n s) := by
  intro n
  induction n using Nat.strongRecOn with
  | _ n ih =>
    intro s h
    by_cases hn : n ∈ s.1
    · rw [needM_named hn]; exact h
    · by_cases hp : ns.getD n (0, 0) = (0, 0)
      · rw [needM_leaf hn hp]
        have := h.give hn (fun e => absurd hp e)
        rwa [hp] at this
      · have hk := hd.kid n hp
        rw [needM_and hd hn hp]
        refine (ih _ hk.2 _ (ih _ hk.1 _ h)).give ?_ (fun _ => ⟨needM_keep hd (needM_self hd), needM_self hd⟩)
        intro e
        rcases needM_mem hd e with e | e
        · rcases needM_mem hd e with e | e
          · exact hn e
          · omega
        · omega
section
variable {H : Heap} {g m : Nat} {Bg B : List Nat} {ns : List Pr} {ins : List Nat} {s : MS}
def inO (L : List Nat) (model : List Bool) (n : Nat) : Bool := decide (n ∈ L) && bt model (L.idxOf n)
theorem cinputs_spec (h : GMk H g m Bg B ns ins s) {mv : Value} {model : List Bool} (hm : BRm H mv model) (hml : model.length ≤ 1000000) :
    CallF Tryz.prog 20 [hp m, mv] H (fun r H' => Fr [] H H' ∧ BV H' 4 r (ins.map (inO s.1 model)) ∧ ∀ b ∈ own r, H.size ≤ b) NoP := by
  obtain ⟨r, cv, C, hmm, hB⟩ := h.mkr
  have c0 := hmm.c0
  obtain ⟨ma, mc, rfl, hma⟩ := hm
  have hlen := h.len
  have hbig := h.big
  have hil := h.gr.w.2.2.2.2.2
  refine callF_of Tryz.func20 rfl Tryz.ntmps20 Tryz.results20 (by decide) rfl ?_
  simp (disch := omega) only [go_sem, ↓cw_block, dsB_of, c0]
  refine call_to (ginputs_spec h.gr) ?_
  rintro w H1 ⟨f1, hw, ho⟩
  obtain ⟨wa, wc, ew⟩ := hw.form
  rw [List.length_map] at ew
  subst ew
  obtain ⟨H2, hH2⟩ : ∃ H2, H2 = H1.push (.cells (List.replicate ins.length (.bool false)).toArray 4) := ⟨_, rfl⟩
  have f2 : Fr [] H1 H2 := by rw [hH2]; exact Fr.push
  have y : Blk H2 H1.size 4 (List.replicate ins.length (.bool false)) := by rw [hH2]; exact Blk.new rfl
  have s1 := f1.size
  have hw2 := hw.frame f2 (by simp)
  have how : ∀ b ∈ own (Value.slice wa ins.length wc), b < H1.size := hw.lt
  simp (disch := omega) only [go_sem, ↓cw_block, dsB_of]
  rw [← hH2]
  refine loop_by (fun k ρ K => ∃ (i : Nat) (v : Value), k = ins.length - i ∧ i ≤ ins.length ∧ (ρ.get 0 = hp m ∧ ρ.get 1 = .slice ma model.length mc ∧ ρ.get 6 = v ∧ ρ.get 18 = .slice wa ins.length wc ∧ ρ.get 19 = iv ins.length ∧ ρ.get 20 = iv i ∧ ρ.ds = []) ∧ Fr [] H K ∧ Fr [] H1 K ∧
    BV K 4 v ((ins.map (inO s.1 model)).take i) ∧ ∀ b ∈ own v, H1.size ≤ b) (k := ins.length) ?_ ?_
  · exact ⟨0, _, rfl, by omega, by simp (disch := omega) only [go_sem, ↓cw_block, dsB_of], f1.trans f2, f2, ⟨.inr ⟨H1.size, 0, ins.length, [], List.replicate ins.length (.bool false), rfl, by simpa using y, by simp, by simp, by omega⟩⟩, by simp [own]⟩
  · rintro k ρ K ⟨i, v, rfl, hi, ⟨r0, r1, r6, r18, r19, r20, rd⟩, fK, fK1, hv, hvo⟩
    have hi1 : (i : Int) + 1 = ((i + 1 : Nat) : Int) := by omega
    by_cases hin : i < ins.length
    · obtain ⟨b3, o3, c3, e3, hc3⟩ := hw.at (i := i) (by simpa using hin)
      have en : nt (ins.map fun n => ((2 * n : Nat) : Int)) i = ((2 * ins[i] : Nat) : Int) := by unfold nt; simp [hin]
      rw [en] at hc3
      simp only [Value.slice.injEq] at e3
      obtain ⟨rfl, _, rfl⟩ := e3
      have hc4 := fK1.cell' hc3 (by simp)
      have hmK := hmm.frame fK (by simp)
      have c1 := hmK.c1
      have lq := hmK.look ins[i]
      have hn := h.gr.w.2.2.2.1 ins[i] (List.getElem_mem hin)
      have hlt := (List.getElem?_eq_some_iff.1 hn.2).1
      have e5 : ((2 * ins[i] : Nat) : Int) / 2 = ((ins[i] : Nat) : Int) := by omega
      have step : ∀ (x : Bool), x = inO s.1 model ins[i] → ∀ (k : Value → Heap → Prop), (∀ v' K', Fr [] H K' → Fr [] H1 K' → BV K' 4 v' ((ins.map (inO s.1 model)).take (i + 1)) → (∀ b ∈ own v', H1.size ≤ b) → k v' K') →
          @appB Tryz.prog 44 44 v (.slice (some ⟨K.size, 0, none⟩) 1 1) ⟨K.push (.cells #[.bool x] 4)⟩ ⟨k⟩ := by
        intro x hx k hk
        refine app_lit1 T.el44 rfl hv rfl (by simp; omega) ?_
        rintro v' K' k1 k2 k3 _
        refine hk v' K' (fr_new' fK k2 (fun b hb => by have := hvo b hb; omega)) (fr_new' fK1 k2 hvo) ?_ (fun b hb => (k3 b hb).elim (hvo b) (fun h => by have := fK1.size; omega))
        have : (ins.map (inO s.1 model)).take (i + 1) = (ins.map (inO s.1 model)).take i ++ [x] := by
          rw [take1 (by simpa using hin), hx]; simp
        unfold BV
        rw [this, List.map_append]
        exact k1
      by_cases hL : ins[i] ∈ s.1
      · have hv1 := varOf_pos hL
        have hvv : varOf s.1 ins[i] = (s.1.idxOf ins[i] : Int) + 1 := if_pos hL
        rw [hvv] at lq hv1
        by_cases hmod : s.1.idxOf ins[i] < model.length
        · obtain ⟨b6, o6, rfl, hc6⟩ := hma _ hmod
          have hc7 := fK.cell' hc6 (by simp)
          have e7 : (s.1.idxOf ins[i] : Int) + 1 - 1 = (s.1.idxOf ins[i] : Int) := by omega
          simp (disch := omega) only [go_sem, ↓cw_block, dsB_of, r0, r1, r6, r18, r19, r20, rd, hc4, c1, e5, lq, e7, hc7]
          refine step _ (by simp [inO, hL]) _ ?_
          intro v' K' q1 q2 q3 q4
          simp (disch := omega) only [go_sem, ↓cw_block, dsB_of, r0, r1, r6, r18, r19, r20, rd]
          exact fin ⟨ins.length - (i + 1), by omega, i + 1, v', rfl, by omega, by simp (disch := omega) only [go_sem, ↓cw_block, dsB_of, r0, r1, r6, r18, r19, r20, rd, hi1], q1, q2, q3, q4⟩
        · have hb0 : bt model (s.1.idxOf ins[i]) = false := by unfold bt; rw [List.getD_eq_getElem?_getD, List.getElem?_eq_none (by omega)]; rfl
          simp (disch := omega) only [go_sem, ↓cw_block, dsB_of, r0, r1, r6, r18, r19, r20, rd, hc4, c1, e5, lq]
          refine step _ (by simp [inO, hb0]) _ ?_
          intro v' K' q1 q2 q3 q4
          simp (disch := omega) only [go_sem, ↓cw_block, dsB_of, r0, r1, r6, r18, r19, r20, rd]
          exact fin ⟨ins.length - (i + 1), by omega, i + 1, v', rfl, by omega, by simp (disch := omega) only [go_sem, ↓cw_block, dsB_of, r0, r1, r6, r18, r19, r20, rd, hi1], q1, q2, q3, q4⟩
      · rw [varOf_none hL] at lq
        simp (disch := omega) only [go_sem, ↓cw_block, dsB_of, r0, r1, r6, r18, r19, r20, rd, hc4, c1, e5, lq]
        refine step _ (by simp [inO, hL]) _ ?_
        intro v' K' q1 q2 q3 q4
        simp (disch := omega) only [go_sem, ↓cw_block, dsB_of, r0, r1, r6, r18, r19, r20, rd]
        exact fin ⟨ins.length - (i + 1), by omega, i + 1, v', rfl, by omega, by simp (disch := omega) only [go_sem, ↓cw_block, dsB_of, r0, r1, r6, r18, r19, r20, rd, hi1], q1, q2, q3, q4⟩
    · have : i = ins.length := by omega
      subst this
      rw [List.take_of_length_le (by simp)] at hv
      simp (disch := omega) only [go_sem, ↓cw_block, dsB_of, r0, r1, r6, r18, r19, r20, rd, dsB_of]
      exact fin ⟨fK, hv, fun b hb => by have := hvo b hb; omega⟩
end
end Go.Proofs.YtofooamimiijlaaGreat

namespace Go.Proofs.YtofooamimiijlaaGreat
open Go.HL
set_option maxRecDepth 10000
set_option linter.unusedSimpArgs false
set_option linter.unusedVariables false

theorem nx_nx (n : Nat) : nx (nx n) = n := by
  unfold nx
  by_cases h : n % 2 = 0
  · rw [if_pos h, if_neg (by omega)]; omega
  · rw [if_neg h, if_pos (by omega)]; omega
theorem nx_div (n : Nat) : nx n / 2 = n / 2 := by unfold nx; split <;> omega
theorem nx_inj {a b : Nat} (h : nx a = nx b) : a = b := by rw [← nx_nx a, h, nx_nx]
theorem nx_even (n : Nat) : nx (2 * n) = 2 * n + 1 := by unfold nx; rw [if_pos (by omega)]
theorem nx_odd (n : Nat) : nx (2 * n + 1) = 2 * n := by unfold nx; rw [if_neg (by omega)]; omega
theorem nx0 : nx 0 = 1 := rfl
theorem nx1 : nx 1 = 0 := rfl
theorem nx_two {n : Nat} (h : 2 ≤ n) : 2 ≤ nx n := by unfold nx; split <;> omega
/-- An edge that is the and of two others. -/
inductive AndE (ns : List Pr) (a b : Nat) : Nat → Prop
  | zl (h : a = 0) : AndE ns a b 0
  | zr (h : b = 0) : AndE ns a b 0
  | zn (h : a = nx b) : AndE ns a b 0
  | ol (h : a = 1) : AndE ns a b b
  | or (h : b = 1) : AndE ns a b a
  | sm (h : a = b) : AndE ns a b a
  | nd (n : Nat) (hn : 0 < n) (h2 : 2 ≤ a ∧ 2 ≤ b ∧ a ≠ b) (h : ns[n]? = some (a, b) ∨ ns[n]? = some (b, a)) : AndE ns a b (2 * n)
/-- Ands that are put behind. -/
def PreA (ns ns' : List Pr) (k : Nat) : Prop := ∃ t, ns' = ns ++ t ∧ t.length ≤ k ∧ ∀ p ∈ t, 2 ≤ p.1 ∧ p.1 < p.2 ∧ p.1 ≠ nx p.2
theorem PreA.refl {ns : List Pr} {k : Nat} : PreA ns ns k := ⟨[], by simp, by simp, by simp⟩
theorem PreA.trans {ns ns' ns'' : List Pr} {j k m : Nat} (h : PreA ns ns' j) (h' : PreA ns' ns'' k) (hm : j + k ≤ m) : PreA ns ns'' m := by
  obtain ⟨t, rfl, ht, hp⟩ := h
  obtain ⟨u, rfl, hu, hq⟩ := h'
  exact ⟨t ++ u, by simp, by simp; omega, fun p hm => (List.mem_append.1 hm).elim (hp p) (hq p)⟩
theorem PreA.len {ns ns' : List Pr} {k : Nat} (h : PreA ns ns' k) : ns.length ≤ ns'.length ∧ ns'.length ≤ ns.length + k := by
  obtain ⟨t, rfl, ht, -⟩ := h
  simp; omega
theorem PreA.get {ns ns' : List Pr} {k : Nat} (h : PreA ns ns' k) {n : Nat} {p : Pr} (hn : ns[n]? = some p) : ns'[n]? = some p := by
  obtain ⟨t, rfl, ht, -⟩ := h
  rw [List.getElem?_append_left (List.getElem?_eq_some_iff.1 hn).1]; exact hn
theorem AndE.mono {ns ns' : List Pr} {k a b e : Nat} (h : AndE ns a b e) (hp : PreA ns ns' k) : AndE ns' a b e := by
  cases h with
  | zl h => exact .zl h
  | zr h => exact .zr h
  | zn h => exact .zn h
  | ol h => exact .ol h
  | or h => exact .or h
  | sm h => exact .sm h
  | nd n hn h2 h => exact .nd n hn h2 (h.imp hp.get hp.get)
theorem AndE.of {ns ns' : List Pr} {a b e : Nat} (h : AndR ns ns' (min a b) (max a b) e) (hpos : 0 < ns.length) : AndE ns' a b e ∧ PreA ns ns' 1 := by
  have hmm : (min a b, max a b) = (a, b) ∨ (min a b, max a b) = (b, a) := by
    rcases Nat.le_total a b with h | h
    · exact .inl (by rw [Nat.min_eq_left h, Nat.max_eq_right h])
    · exact .inr (by rw [Nat.min_eq_right h, Nat.max_eq_left h])
  have h12 : (min a b = a ∧ max a b = b) ∨ (min a b = b ∧ max a b = a) := by omega
  rcases h with ⟨rfl, ⟨h, rfl⟩ | ⟨h, rfl⟩ | ⟨n, ⟨h0, h1, h2⟩, hn, rfl⟩⟩ | ⟨rfl, rfl, h1, h2, h3⟩
  · refine ⟨?_, PreA.refl⟩
    rcases h with h | h
    · rcases Nat.le_total a b with h' | h'
      · exact .zl (by omega)
      · exact .zr (by omega)
    · rcases h12 with ⟨e1, e2⟩ | ⟨e1, e2⟩
      · exact .zn (by rw [← e1, h, e2])
      · exact .zn (by rw [← nx_nx a, ← e2, ← h, e1])
  · refine ⟨?_, PreA.refl⟩
    rcases h12 with ⟨e1, e2⟩ | ⟨e1, e2⟩
    · rw [e2]
      rcases h with h | h
      · exact .ol (by omega)
      · have : b = a := by omega
        rw [this]; exact .sm rfl
    · rw [e2]
      rcases h with h | h
      · exact .or (by omega)
      · exact .sm (by omega)
  · refine ⟨.nd n h0 (by omega) ?_, PreA.refl⟩
    rcases hmm with e | e <;> rw [e] at hn
    · exact .inl hn
    · exact .inr hn
  · refine ⟨.nd ns.length hpos (by omega) ?_, ⟨[(min a b, max a b)], rfl, by simp, fun p hp => ?_⟩⟩
    · have : (ns ++ [(min a b, max a b)])[ns.length]? = some (min a b, max a b) := by simp
      rcases hmm with e | e
      · exact .inl (by rw [this, e])
      · exact .inr (by rw [this, e])
    · rw [List.mem_singleton.1 hp]; exact ⟨h1, h2, h3⟩
def OrE (ns : List Pr) (a b e : Nat) : Prop := ∃ t, AndE ns (nx a) (nx b) t ∧ e = nx t
def XorE (ns : List Pr) (a b e : Nat) : Prop := ∃ u w, AndE ns a (nx b) u ∧ AndE ns (nx a) b w ∧ OrE ns u w e
theorem OrE.mono {ns ns' : List Pr} {k a b e : Nat} (h : OrE ns a b e) (hp : PreA ns ns' k) : OrE ns' a b e := by
  obtain ⟨t, h1, h2⟩ := h
  exact ⟨t, h1.mono hp, h2⟩
theorem XorE.mono {ns ns' : List Pr} {k a b e : Nat} (h : XorE ns a b e) (hp : PreA ns ns' k) : XorE ns' a b e := by
  obtain ⟨u, w, h1, h2, h3⟩ := h
  exact ⟨u, w, h1.mono hp, h2.mono hp, h3.mono hp⟩
section
variable {ns : List Pr} {a b e : Nat}
theorem and_one (h : AndE ns a 1 e) : e = a := by
  cases h with
  | zl h => exact h.symm
  | zr h => cases h
  | zn h => rw [h]; rfl
  | ol h => exact h.symm
  | or h => rfl
  | sm h => rfl
  | nd n hn h2 h => omega
theorem one_and (h : AndE ns 1 b e) : e = b := by
  cases h with
  | zl h => cases h
  | zr h => exact h.symm
  | zn h => have := congrArg nx h; rw [nx_nx] at this; exact this
  | ol h => rfl
  | or h => exact h.symm
  | sm h => exact h
  | nd n hn h2 h => omega
theorem and_zero (h : AndE ns a 0 e) : e = 0 := by
  cases h with
  | zl h => rfl
  | zr h => rfl
  | zn h => rfl
  | ol h => rfl
  | or h => cases h
  | sm h => exact h
  | nd n hn h2 h => omega
theorem zero_and (h : AndE ns 0 b e) : e = 0 := by
  cases h with
  | zl h => rfl
  | zr h => rfl
  | zn h => rfl
  | ol h => cases h
  | or h => rfl
  | sm h => rfl
  | nd n hn h2 h => omega
theorem or_zero (h : OrE ns a 0 e) : e = a := by
  obtain ⟨t, h1, rfl⟩ := h
  rw [nx0] at h1
  rw [and_one h1, nx_nx]
theorem zero_or (h : OrE ns 0 b e) : e = b := by
  obtain ⟨t, h1, rfl⟩ := h
  rw [nx0] at h1
  rw [one_and h1, nx_nx]
theorem xor_zero (h : XorE ns a 0 e) : e = a := by
  obtain ⟨u, w, h1, h2, h3⟩ := h
  rw [nx0] at h1
  rw [and_one h1, and_zero h2] at h3
  exact or_zero h3
theorem xor_one' (h : XorE ns a 1 e) : e = nx a := by
  obtain ⟨u, w, h1, h2, h3⟩ := h
  rw [nx1] at h1
  rw [and_zero h1, and_one h2] at h3
  exact zero_or h3
theorem and_node (h : AndE ns a b e) (ha : 2 ≤ a) (hb : 2 ≤ b) (hne : a / 2 ≠ b / 2) : ∃ n, 0 < n ∧ a ≠ b ∧ (ns[n]? = some (a, b) ∨ ns[n]? = some (b, a)) ∧ e = 2 * n := by
  cases h with
  | zl h => omega
  | zr h => omega
  | zn h => exact absurd (by rw [h, nx_div]) hne
  | ol h => omega
  | or h => omega
  | sm h => exact absurd (by rw [h]) hne
  | nd n hn h2 h => exact ⟨n, hn, h2.2.2, h, rfl⟩
end
/-- What is known of edges, and what follows. -/
structure UPC (ns : List Pr) (L : List Nat) (K : Nat → Prop) : Prop where
  c : ∀ e, K e → ¬ K (nx e)
  one : K 1
  nm : ∀ e, K e → e / 2 ∈ L
  dn : ∀ n ∈ L, ∀ p, ns[n]? = some p → p ≠ (0, 0) → p.1 / 2 ∈ L ∧ p.2 / 2 ∈ L
  a1 : ∀ n ∈ L, ∀ p, ns[n]? = some p → p ≠ (0, 0) → K p.1 → K p.2 → K (2 * n)
  a2 : ∀ n ∈ L, ∀ p, ns[n]? = some p → p ≠ (0, 0) → K (nx p.1) ∨ K (nx p.2) → K (2 * n + 1)
  a3 : ∀ n ∈ L, ∀ p, ns[n]? = some p → p ≠ (0, 0) → K (2 * n) → K p.1 ∧ K p.2
  a4 : ∀ n ∈ L, ∀ p, ns[n]? = some p → p ≠ (0, 0) → K (2 * n + 1) → (K p.1 → K (nx p.2)) ∧ (K p.2 → K (nx p.1))
section
variable {ns : List Pr} {L : List Nat} {K : Nat → Prop} {a b e : Nat}
theorem UPC.no0 (U : UPC ns L K) (h : K 0) : False := U.c 1 U.one h
theorem pr_ne {a b : Nat} (h : 2 ≤ a) : (a, b) ≠ ((0, 0) : Pr) := fun e => by simp only [Prod.mk.injEq] at e; omega
theorem UPC.and_t (U : UPC ns L K) (h : AndE ns a b e) (hk : K e) : K a ∧ K b := by
  cases h with
  | zl h => exact (U.no0 hk).elim
  | zr h => exact (U.no0 hk).elim
  | zn h => exact (U.no0 hk).elim
  | ol h => rw [h]; exact ⟨U.one, hk⟩
  | or h => rw [h]; exact ⟨hk, U.one⟩
  | sm h => exact ⟨hk, h ▸ hk⟩
  | nd n hn h2 h =>
    have hL : n ∈ L := by have := U.nm _ hk; rwa [show 2 * n / 2 = n by omega] at this
    rcases h with h | h
    · exact U.a3 n hL _ h (pr_ne h2.1) hk
    · exact (U.a3 n hL _ h (pr_ne h2.2.1) hk).symm
theorem UPC.and_f (U : UPC ns L K) (h : AndE ns a b e) (hk : K (nx e)) : (K a → K (nx b)) ∧ (K b → K (nx a)) := by
  cases h with
  | zl h => rw [h]; exact ⟨fun h => (U.no0 h).elim, fun _ => U.one⟩
  | zr h => rw [h]; exact ⟨fun _ => U.one, fun h => (U.no0 h).elim⟩
  | zn h => rw [h]; exact ⟨fun h => h, fun h => by rw [nx_nx]; exact h⟩
  | ol h => rw [h]; exact ⟨fun _ => hk, fun h => (U.c _ h hk).elim⟩
  | or h => rw [h]; exact ⟨fun h => (U.c _ h hk).elim, fun _ => hk⟩
  | sm h => rw [← h]; exact ⟨fun h => (U.c _ h hk).elim, fun h => (U.c _ h hk).elim⟩
  | nd n hn h2 h =>
    rw [nx_even] at hk
    have hL : n ∈ L := by have := U.nm _ hk; rwa [show (2 * n + 1) / 2 = n by omega] at this
    rcases h with h | h
    · exact U.a4 n hL _ h (pr_ne h2.1) hk
    · exact (U.a4 n hL _ h (pr_ne h2.2.1) hk).symm
theorem UPC.and_n (U : UPC ns L K) (h : AndE ns a b e) (he : e / 2 ∈ L) (hk : K (nx a) ∨ K (nx b)) : K (nx e) := by
  cases h with
  | zl h => exact U.one
  | zr h => exact U.one
  | zn h => exact U.one
  | ol h =>
    rcases hk with hk | hk
    · rw [h] at hk; exact (U.no0 hk).elim
    · exact hk
  | or h =>
    rcases hk with hk | hk
    · exact hk
    · rw [h] at hk; exact (U.no0 hk).elim
  | sm h => rcases hk with hk | hk <;> first | exact hk | (rw [h]; exact hk)
  | nd n hn h2 h =>
    rw [show 2 * n / 2 = n by omega] at he
    rw [nx_even]
    rcases h with h | h
    · exact U.a2 n he _ h (pr_ne h2.1) hk
    · exact U.a2 n he _ h (pr_ne h2.2.1) hk.symm
theorem UPC.and_p (U : UPC ns L K) (h : AndE ns a b e) (he : e / 2 ∈ L) (ha : K a) (hb : K b) : K e := by
  cases h with
  | zl h => rw [h] at ha; exact ha
  | zr h => rw [h] at hb; exact hb
  | zn h => rw [h] at ha; exact (U.c _ hb ha).elim
  | ol h => exact hb
  | or h => exact ha
  | sm h => exact ha
  | nd n hn h2 h =>
    rw [show 2 * n / 2 = n by omega] at he
    rcases h with h | h
    · exact U.a1 n he _ h (pr_ne h2.1) ha hb
    · exact U.a1 n he _ h (pr_ne h2.2.1) hb ha
/-- What a node is the and of is named as it is. -/
theorem UPC.kids (U : UPC ns L K) {n : Nat} (hn : n ∈ L) (h2 : 2 ≤ a ∧ 2 ≤ b) (h : ns[n]? = some (a, b) ∨ ns[n]? = some (b, a)) : a / 2 ∈ L ∧ b / 2 ∈ L := by
  rcases h with h | h
  · exact U.dn n hn _ h (pr_ne h2.1)
  · exact (U.dn n hn _ h (pr_ne h2.2)).symm
/-- An edge is known to be so or not. -/
def kv (K : Nat → Prop) (e : Nat) (v : Bool) : Prop := K (if v then e else nx e)
theorem kv_nx {v : Bool} : kv K (nx e) v ↔ kv K e (!v) := by unfold kv; cases v <;> simp [nx_nx]
theorem UPC.kv_nm (U : UPC ns L K) {v : Bool} (h : kv K e v) : e / 2 ∈ L := by
  have := U.nm _ h
  cases v with
  | true => exact this
  | false => rwa [if_neg (by simp), nx_div] at this
/-- Both parts of an exclusive or are named with it. -/
theorem UPC.xor_nm (U : UPC ns L K) {p q r : Nat} (hp : 2 ≤ p) (hq : 2 ≤ q) (hne : p / 2 ≠ q / 2) (h : XorE ns p q r) (hr : r / 2 ∈ L) :
    ∃ u w t, AndE ns p (nx q) u ∧ AndE ns (nx p) q w ∧ AndE ns (nx u) (nx w) t ∧ r = nx t ∧ u / 2 ∈ L ∧ w / 2 ∈ L ∧ p / 2 ∈ L ∧ q / 2 ∈ L := by
  obtain ⟨u, w, h1, h2, t, h3, rfl⟩ := h
  rw [nx_div] at hr
  obtain ⟨n1, hn1, -, d1, e1⟩ := and_node h1 hp (nx_two hq) (by rw [nx_div]; exact hne)
  obtain ⟨n2, hn2, -, d2, e2⟩ := and_node h2 (nx_two hp) hq (by rw [nx_div]; exact hne)
  have hu : nx u = 2 * n1 + 1 := by rw [e1, nx_even]
  have hw : nx w = 2 * n2 + 1 := by rw [e2, nx_even]
  have key : u / 2 ∈ L ∧ w / 2 ∈ L := by
    have h3' := h3
    cases h3 with
    | zl h => omega
    | zr h => omega
    | zn h => rw [nx_nx] at h; omega
    | ol h => omega
    | or h => omega
    | sm h =>
      rw [nx_div] at hr
      have := nx_inj h
      exact ⟨hr, this ▸ hr⟩
    | nd n hn h2 h =>
      rw [show 2 * n / 2 = n by omega] at hr
      have := U.kids hr ⟨h2.1, h2.2.1⟩ h
      rwa [nx_div, nx_div] at this
  have hk := U.kids (a := p) (b := nx q) (n := n1) (by have := key.1; rwa [e1, show 2 * n1 / 2 = n1 by omega] at this) ⟨hp, nx_two hq⟩ d1
  rw [nx_div] at hk
  exact ⟨u, w, t, h1, h2, h3, rfl, key.1, key.2, hk.1, hk.2⟩
theorem UPC.xor_back (U : UPC ns L K) {p q r : Nat} (hp : 2 ≤ p) (hq : 2 ≤ q) (hne : p / 2 ≠ q / 2) (h : XorE ns p q r) {v s : Bool} (hr : kv K r v) (hs : kv K q s) : kv K p (xor v s) := by
  obtain ⟨u, w, t, h1, h2, h3, rfl, hu, hw, -, -⟩ := U.xor_nm hp hq hne h (U.kv_nm hr)
  rw [kv_nx] at hr
  cases s with
  | true =>
    have hs : K q := hs
    have hnu : K (nx u) := U.and_n h1 hu (.inr (by rw [nx_nx]; exact hs))
    cases v with
    | true =>
      have hr : K (nx t) := hr
      have := (U.and_f h3 hr).1 hnu
      rw [nx_nx] at this
      exact (U.and_t h2 this).1
    | false =>
      have hr : K t := hr
      have := (U.and_t h3 hr).2
      have := (U.and_f h2 this).2 hs
      rw [nx_nx] at this
      exact this
  | false =>
    have hs : K (nx q) := hs
    have hnw : K (nx w) := U.and_n h2 hw (.inr hs)
    cases v with
    | true =>
      have hr : K (nx t) := hr
      have := (U.and_f h3 hr).2 hnw
      rw [nx_nx] at this
      exact (U.and_t h1 this).1
    | false =>
      have hr : K t := hr
      have := (U.and_t h3 hr).1
      exact (U.and_f h1 this).2 hs
/-- An and whose parts are known is known, if it is named. -/
theorem UPC.and_v (U : UPC ns L K) (h : AndE ns a b e) (he : e / 2 ∈ L) {v w : Bool} (ha : kv K a v) (hb : kv K b w) : kv K e (v && w) := by
  cases v with
  | true =>
    cases w with
    | true => exact U.and_p h he ha hb
    | false => exact U.and_n h he (.inr hb)
  | false => exact U.and_n h he (.inl ha)
theorem UPC.kv_one (U : UPC ns L K) {v w : Bool} (h1 : kv K e v) (h2 : kv K e w) : v = w := by
  cases v <;> cases w
  · rfl
  · exact (U.c _ h2 h1).elim
  · exact (U.c _ h1 h2).elim
  · rfl
end

/-! ### Values -/
section
variable {ns : List Pr} {f : Nat → Bool} {a b e : Nat}
/-- A value for each node. -/
structure Val (ns : List Pr) (f : Nat → Bool) : Prop where
  z : f 0 = false
  nd : ∀ (n : Nat) (p : Pr), ns[n]? = some p → p ≠ (0, 0) → f n = (eV f p.1 && eV f p.2)
theorem eV_nx : eV f (nx e) = !eV f e := by
  unfold eV
  rw [nx_div]
  have : (nx e) % 2 = 1 - e % 2 := by unfold nx; split <;> omega
  rw [this]
  have h : e % 2 = 0 ∨ e % 2 = 1 := by omega
  rcases h with h | h <;> rw [h] <;> cases f (e / 2) <;> rfl
theorem Val.e0 (V : Val ns f) : eV f 0 = false := by unfold eV; rw [show 0 / 2 = 0 from rfl, V.z]; rfl
theorem Val.e1 (V : Val ns f) : eV f 1 = true := by unfold eV; rw [show 1 / 2 = 0 from rfl, V.z]; rfl
theorem Val.and (V : Val ns f) (h : AndE ns a b e) : eV f e = (eV f a && eV f b) := by
  cases h with
  | zl h => rw [h, V.e0]; rfl
  | zr h => rw [h, V.e0]; simp
  | zn h => rw [h, eV_nx, V.e0]; cases eV f b <;> rfl
  | ol h => rw [h, V.e1]; rfl
  | or h => rw [h, V.e1]; simp
  | sm h => rw [h]; simp
  | nd n hn h2 h =>
    have : eV f (2 * n) = f n := by unfold eV; rw [show 2 * n / 2 = n by omega, show 2 * n % 2 = 0 by omega]; simp
    rw [this]
    rcases h with h | h
    · exact V.nd n _ h (pr_ne h2.1)
    · rw [V.nd n _ h (pr_ne h2.2.1), Bool.and_comm]
theorem Val.or (V : Val ns f) (h : OrE ns a b e) : eV f e = (eV f a || eV f b) := by
  obtain ⟨t, h1, rfl⟩ := h
  rw [eV_nx, V.and h1, eV_nx, eV_nx]
  cases eV f a <;> cases eV f b <;> rfl
theorem Val.xor (V : Val ns f) (h : XorE ns a b e) : eV f e = Bool.xor (eV f a) (eV f b) := by
  obtain ⟨u, w, h1, h2, h3⟩ := h
  rw [V.or h3, V.and h1, V.and h2, eV_nx, eV_nx]
  cases eV f a <;> cases eV f b <;> rfl
end
end Go.Proofs.YtofooamimiijlaaGreat

