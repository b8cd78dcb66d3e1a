/- A maker's need, and Lit. -/
import Derived.Test.YtplcehlonfhooaaCnfN
namespace Go.Proofs.Ytplcehlonfhooaa
open Go.HL
set_option maxRecDepth 10000
set_option linter.unusedSimpArgs false

theorem vec_cap {H : Heap} {e z : Nat} {a : Option Addr} {l c : Nat} {vs : List Value} (h : Vec H e z (.slice a l c) vs) : l ≤ c := by
  rcases h.ex with ⟨e1, _⟩ | ⟨b, len, cap, pre, rest, e1, _, _, _, hle⟩
  · simp only [Value.slice.injEq] at e1; omega
  · simp only [Value.slice.injEq] at e1
    obtain ⟨_, rfl, rfl⟩ := e1
    exact hle
theorem litM_rng {L : List Nat} {e : Nat} : -(L.length : Int) ≤ litM L e ∧ litM L e ≤ L.length := by
  have := varOf_rng (L := L) (n := e / 2)
  unfold litM
  split <;> omega
theorem Mk.grow {H : Heap} {m r : Nat} {cv cv' : Value} {C C' : List Nat} (h : ∀ b ∈ own cv', b ∈ own cv ∨ H.size ≤ b) (h' : ∀ b ∈ C', b ∈ C ∨ H.size ≤ b) : Grow (mB m r cv C) (mB m r cv' C') H := by
  intro b hb
  simp only [mB, List.mem_cons, List.mem_append] at hb ⊢
  rcases hb with hb | hb | hb | hb
  · exact .inl (.inl hb)
  · exact .inl (.inr (.inl hb))
  · exact (h b hb).imp (fun h => .inr (.inr (.inl h))) id
  · exact (h' b hb).imp (fun h => .inr (.inr (.inr h))) id

section
variable {H : Heap} {m g : Nat} {s : MS} {B Bg : List Nat} {ns : List Pr} {ins : List Nat}
set_option maxHeartbeats 1000000 in
theorem need_spec (hg : Gr H g Bg ns ins) (hm : Mk H m g B s) (hdis : ∀ b ∈ Bg, b ∉ B) (hLn : s.1.Nodup) (hLr : ∀ x ∈ s.1, x < ns.length) (hcs : s.2.length ≤ 100000000) {n : Nat} (hn : n < ns.length) :
    CallF Try.prog 31 [hp m, iv n] H (fun v H' => v = .tuple #[] ∧ Fr B H H' ∧ ∃ B', Mk H' m g B' (needM ns n s) ∧ Grow B B' H) NoP := by
  have hd : Dn ns := hg.w.2.2.1
  have hN := hg.w.2.1
  have hmlt := hm.lt
  have hglt := hg.lt
  refine callF_of Try.func31 rfl Try.ntmps31 Try.results31 (by decide) rfl ?_
  simp (disch := omega) only [go_sem, ↓cw_block]
  refine loop_by (fun k ρ H1 => ∃ (st : List Nat) (s1 : MS) (B1 : List Nat) (w : Value), k = meas ns.length st s1.1 ∧ (ρ.get 0 = hp m ∧ ρ.get 4 = w ∧ ρ.ds = []) ∧ Mk H1 m g B1 s1 ∧ Fr B H H1 ∧ Grow B B1 H ∧ IV H1 3 w (st.reverse.map Int.ofNat) ∧
    (∀ b ∈ own w, H.size ≤ b ∧ b ∉ B1) ∧ finM ns st s1 = needM ns n s ∧ Stk ns.length st ∧ (∀ x ∈ st, x < ns.length) ∧ ((∀ x ∈ st, x ∉ s1.1) ∨ ∃ x, st = [x]) ∧ s1.1.Nodup ∧ (∀ x ∈ s1.1, x < ns.length) ∧ s1.2.length ≤ s.2.length + 3 * s1.1.length) (k := meas ns.length [n] s.1) ?_ ?_
  · have hb : Blk (H.push (.cells #[iv n] 3)) H.size 3 [iv n] := Blk.new rfl
    refine ⟨[n], s, B, _, rfl, by simp (disch := omega) only [go_sem, ↓cw_block], hm.frame (F := []) Fr.push (by simp), Fr.push, Grow.refl, ⟨.inr ⟨H.size, 1, 1, [], [], rfl, by simpa using hb, rfl, rfl, by omega⟩⟩, ?_, rfl, hn, by simpa using hn, .inr ⟨n, rfl⟩, hLn, hLr, by omega⟩
    intro b hb'
    simp [own] at hb'
    subst hb'
    exact ⟨Nat.le_refl _, fun e => by have := hmlt _ e; omega⟩
  · rintro k ρ H1 ⟨st, s1, B1, w, rfl, ⟨q0, q4, qd⟩, hm1, f1, g1, hw, how, hfin, hstk, hst, hun, hn1, hr1, hc1⟩
    have hg1 := hg.frame f1 (fun b hb e => hdis b hb e)
    have hL1 := nodup_len _ _ hn1 hr1
    cases st with
    | nil =>
      obtain ⟨wa, wc, rfl⟩ := hw.form
      simp (disch := omega) only [go_sem, ↓cw_block, q0, q4, qd, List.length_nil, List.reverse_nil, List.map_nil, dsB_of]
      exact fin ⟨rfl, f1, B1, by rw [← hfin]; exact hm1, g1⟩
    | cons t rest =>
      obtain ⟨xs0, hxs0⟩ : ∃ xs0 : List Int, xs0 = rest.reverse.map Int.ofNat := ⟨_, rfl⟩
      have exs : (t :: rest).reverse.map Int.ofNat = xs0 ++ [(t : Int)] := by rw [hxs0]; simp
      rw [exs] at hw
      obtain ⟨b, o, cap, rfl, hct⟩ := hw.at (i := xs0.length) (by simp)
      rw [nt_append_right] at hct
      have hlen : (xs0 ++ [(t : Int)]).length = xs0.length + 1 := by simp
      rw [hlen] at hw how q4
      have hcap := vec_cap hw
      have hw0 : IV H1 3 (.slice (some ⟨b, o, none⟩) xs0.length cap) xs0 := by
        unfold IV at hw ⊢
        rw [List.map_append] at hw
        have := Vec.pop1 hw
        rwa [List.length_map] at this
      have hlr : xs0.length = rest.length := by rw [hxs0]; simp
      have hslen := hstk.len
      simp only [List.length_cons] at hslen
      have ec : ((xs0.length + 1 : Nat) : Int) - 1 = (xs0.length : Int) := by omega
      have htn : t < ns.length := hst t (by simp)
      have hbw := how b (by simp [own])
      obtain ⟨r, cv, C, hm1, rfl⟩ := hm1
      have c0 := hm1.c0
      have c1 := hm1.c1
      have hbm : b ∉ mB m r cv C := hbw.2
      by_cases htm : t ∈ s1.1
      · -- named already
        obtain ⟨x, hx⟩ : ∃ x, t :: rest = [x] := by
          rcases hun with h | h
          · exact absurd htm (h t (by simp))
          · exact h
        simp only [List.cons.injEq] at hx
        obtain ⟨rfl, rfl⟩ := hx
        have lt1 := hm1.look t
        have hv := varOf_pos htm
        simp (disch := omega) only [go_sem, ↓cw_block, q0, q4, qd, ec, hct, c1, lt1]
        refine fin ⟨meas ns.length [] s1.1, by unfold meas; simp; omega, [], s1, _, .slice (some ⟨b, o, none⟩) xs0.length cap, rfl, by simp (disch := omega) only [go_sem, ↓cw_block, q0, q4, qd], ⟨r, cv, C, hm1, rfl⟩, f1, g1, by rw [← hxs0]; exact hw0, by simpa [own] using hbw, ?_, trivial, by simp, .inl (by simp), hn1, hr1, hc1⟩
        rw [← hfin]
        simp only [finM]
        rw [needM_named htm]
      · have lt1 := hm1.look t
        rw [varOf_none htm] at lt1
        have hun' : ∀ x ∈ rest, x ∉ s1.1 := by
          rcases hun with h | ⟨x, hx⟩
          · exact fun x hx => h x (by simp [hx])
          · simp only [List.cons.injEq] at hx
            rw [hx.2]; simp
        have hgt := hstk.gt
        obtain ⟨p, hp⟩ : ∃ p, ns[t]? = some p := ⟨ns[t], by simp [htn]⟩
        have hpd : ns.getD t (0, 0) = p := by rw [List.getD_eq_getElem?_getD, hp]; rfl
        simp (disch := omega) only [go_sem, ↓cw_block, q0, q4, qd, ec, hct, c0, c1, lt1]
        refine call_to (node_spec hg1 hp) ?_
        rintro _ _ ⟨rfl, rfl⟩
        by_cases hz : p = (0, 0)
        · -- an input, or false
          rw [if_pos hz]
          simp (disch := omega) only [go_sem, ↓cw_block, q0, q4, qd, ec, hct, c0, c1]
          refine call_to (name_spec hm1 (by omega) htm) ?_
          rintro _ H2 ⟨rfl, hm2, f2⟩
          simp (disch := omega) only [go_sem, ↓cw_block, q0, q4, qd]
          have hrb : b ∉ [r] := by intro e; simp at e; subst e; exact hbm (by simp [mB])
          refine fin ⟨meas ns.length rest (s1.1 ++ [t]), meas_pop hstk htn htm, rest, (s1.1 ++ [t], s1.2), mB m r cv C, .slice (some ⟨b, o, none⟩) xs0.length cap, rfl, by simp (disch := omega) only [go_sem, ↓cw_block, q0, q4, qd], ⟨r, cv, C, hm2, rfl⟩, Fr.grow f1 (f2.mono (fun x _ hx => by simp at hx; simp [mB, hx])) g1, g1, ?_, by simpa [own] using hbw, ?_, hstk.tail, fun x hx => hst x (by simp [hx]), .inl ?_, ?_, ?_, by simp; omega⟩
          · rw [← hxs0]; exact hw0.frame f2 (by simpa [own] using hrb)
          · rw [← hfin]
            simp only [finM]
            rw [needM_leaf htm (by rw [hpd, hz])]
            simp [giveM]
          · intro x hx e
            simp only [List.mem_append, List.mem_singleton] at e
            rcases e with e | e
            · exact hun' x hx e
            · have := hgt x hx; omega
          · rw [List.nodup_append]
            exact ⟨hn1, by simp, by intro a ha b hb e; simp at hb; subst hb; subst e; exact htm ha⟩
          · intro x hx
            simp only [List.mem_append, List.mem_singleton] at hx
            rcases hx with hx | hx
            · exact hr1 x hx
            · omega
        · rw [if_neg hz]
          have hk := hd.kid t (by rw [hpd]; exact hz)
          rw [hpd] at hk
          have ea : (p.1 : Int) / 2 = ((p.1 / 2 : Nat) : Int) := by omega
          have eb : (p.2 : Int) / 2 = ((p.2 / 2 : Nat) : Int) := by omega
          have l2 := hm1.look (p.1 / 2)
          have l3 := hm1.look (p.2 / 2)
          have push : ∀ (q : Nat) (k : Value → Heap → Prop), q < t → q ∉ s1.1 → finM ns (q :: t :: rest) s1 = needM ns n s →
              (∀ w' H2, Fr B H H2 → Mk H2 m g (mB m r cv C) s1 → IV H2 3 w' ((q :: t :: rest).reverse.map Int.ofNat) → (∀ b ∈ own w', H.size ≤ b ∧ b ∉ mB m r cv C) → k w' H2) →
              @appB Try.prog 26 26 (.slice (some ⟨b, o, none⟩) (xs0.length + 1) cap) (.slice (some ⟨H1.size, 0, none⟩) 1 1) ⟨H1.push (.cells #[iv q] 3)⟩ ⟨k⟩ := by
            intro q k hq hqs hf hk
            refine app_lit1 T.el26 rfl hw rfl (by simp; omega) ?_
            rintro w' H2 k1 k2 k3 _
            refine hk w' H2 ?_ ⟨r, cv, C, hm1.frame k2 (fun x hx e => ?_), rfl⟩ ?_ ?_
            · refine ⟨Nat.le_trans f1.size k2.size, fun x hx hF => ?_⟩
              rw [k2.same x (Nat.lt_of_lt_of_le hx f1.size) (fun e => by simp [own] at e; omega)]
              exact f1.same x hx hF
            · simp [own] at e; subst e; exact hbm hx
            · have : (q :: t :: rest).reverse.map Int.ofNat = (xs0 ++ [(t : Int)]) ++ [(q : Int)] := by rw [hxs0]; simp
              unfold IV
              rw [this, List.map_append]
              exact k1
            · intro x hx
              rcases k3 x hx with e | e
              · simp [own] at e; subst e; exact hbw
              · exact ⟨Nat.le_trans f1.size e, fun e' => by have := hm1.lt x e'; omega⟩
          by_cases ha : p.1 / 2 ∈ s1.1
          · have va := varOf_pos ha
            by_cases hb : p.2 / 2 ∈ s1.1
            · have vb := varOf_pos hb
              simp (disch := omega) only [go_sem, ↓cw_block, q0, q4, qd, ec, hct, c0, c1, ea, eb, l2, l3]
              refine call_to (name_spec hm1 (by omega) htm) ?_
              rintro _ H2 ⟨rfl, hm2, f2⟩
              have hm2' : Mk H2 m g (mB m r cv C) (s1.1 ++ [t], s1.2) := ⟨r, cv, C, hm2, rfl⟩
              have hlen2 : (s1.1 ++ [t]).length = s1.1.length + 1 := by simp
              simp (disch := omega) only [go_sem, ↓cw_block, q0, q4, qd]
              refine call_to (lit_spec hm2' (by simp; omega) (by omega)) ?_
              rintro _ _ ⟨rfl, rfl⟩
              simp (disch := omega) only [go_sem, ↓cw_block, q0, q4, qd]
              refine call_to (lit_spec hm2' (by simp; omega) (by omega)) ?_
              rintro _ _ ⟨rfl, rfl⟩
              have lx := litM_rng (L := s1.1 ++ [t]) (e := p.1)
              have ly := litM_rng (L := s1.1 ++ [t]) (e := p.2)
              rw [hlen2] at lx ly
              have d2 := hm2.c2
              obtain ⟨ca, cc, rfl⟩ := hm2.vc.form
              simp (disch := omega) only [go_sem, ↓cw_block, q0, q4, qd, d2]
              refine clauses3 (x := [-((s1.1.length + 1 : Nat) : Int), litM (s1.1 ++ [t]) p.1]) (y := [-((s1.1.length + 1 : Nat) : Int), litM (s1.1 ++ [t]) p.2]) (z := [((s1.1.length + 1 : Nat) : Int), - litM (s1.1 ++ [t]) p.1, - litM (s1.1 ++ [t]) p.2]) T.el32 rfl rfl hm2.vc (fun b hb => (hm2.s3 b hb).1) (by omega) (by simp only; omega) ?_
              rintro v3 H3 k1 k2 k3 k4 ⟨a3, c3, rfl⟩
              have hms := hm2.self.lt
              have hrs := hm2.mp.lt
              have b3 := k2.blk hm2.self hm2.s1
              have w3 := b3.wr (i := 2) (by simp) (.slice a3 (s1.2.length + 3) c3)
              have b4 := b3.set 2 (.slice a3 (s1.2.length + 3) c3)
              have F4 : Fr [m] H3 (setH H3 ⟨m, 2, none⟩ (.slice a3 (s1.2.length + 3) c3)) := Fr.set (by simp)
              have n1 : m ∉ own (Value.slice a3 (s1.2.length + 3) c3) := fun e => (k3 m e).elim hm2.s1 (fun e => by omega)
              have n2 : r ∉ own (Value.slice a3 (s1.2.length + 3) c3) := fun e => (k3 r e).elim hm2.s2.1 (fun e => by omega)
              have n3 : ∀ x ∈ C ++ [H2.size, H2.size + 1, H2.size + 2], x ∉ own (Value.slice a3 (s1.2.length + 3) c3) ∧ x ≠ m ∧ x ≠ r := by
                intro x hx
                simp only [List.mem_append, List.mem_cons, List.not_mem_nil, or_false] at hx
                rcases hx with hx | hx
                · have q := hm2.s3 x hx
                  have q' := hm2.cl x hx
                  exact ⟨fun e => (k3 x e).elim q.1 (fun e => by omega), q.2⟩
                · refine ⟨fun e => (k3 x e).elim (fun e' => ?_) (fun e => by omega), by omega, by omega⟩
                  obtain ⟨cvs, av, _⟩ := hm2.vc
                  have := av.lt x e'
                  omega
              have hbo : b ∉ own (Value.slice ca s1.2.length cc) := fun e => hbm (by simp only [mB, List.mem_cons, List.mem_append]; exact .inr (.inr (.inl e)))
              have hbb : b < H2.size := Nat.lt_of_lt_of_le (hw.lt b (by simp [own])) f2.size
              have hrb : b ∉ [r] := by intro e; simp at e; subst e; exact hbm (by simp [mB])
              have hmb : b ∉ [m] := by intro e; simp at e; subst e; exact hbm (by simp [mB])
              simp (disch := omega) only [go_sem, ↓cw_block, q0, q4, qd, w3]
              refine fin ⟨meas ns.length rest (s1.1 ++ [t]), meas_pop hstk htn htm, rest, giveM p t s1, mB m r (.slice a3 (s1.2.length + 3) c3) (C ++ [H2.size, H2.size + 1, H2.size + 2]), .slice (some ⟨b, o, none⟩) xs0.length cap, rfl, by simp (disch := omega) only [go_sem, ↓cw_block, q0, q4, qd], ⟨r, _, _, ⟨b4, ?_, ?_, n1, ⟨n2, hm2.s2.2⟩, n3, ?_⟩, rfl⟩, ?_, ?_, ?_, ?_, ?_, hstk.tail, fun x hx => hst x (by simp [hx]), .inl ?_, ?_, ?_, ?_⟩
              · exact (hm2.mp.frame k2 hm2.s2.1).frame F4 (by simp; exact hm2.s2.2)
              · have e5 : (giveM p t s1).2 = s1.2 ++ [[-((s1.1.length + 1 : Nat) : Int), litM (s1.1 ++ [t]) p.1], [-((s1.1.length + 1 : Nat) : Int), litM (s1.1 ++ [t]) p.2], [((s1.1.length + 1 : Nat) : Int), - litM (s1.1 ++ [t]) p.1, - litM (s1.1 ++ [t]) p.2]] := by
                  simp [giveM, hz]
                rw [e5]
                exact k1.frame F4 (by intro x hx e; simp at e; subst e; exact n1 hx) (by intro x hx e; simp at e; exact (n3 x hx).2.1 e)
              · intro x hx
                rw [size_setH]
                simp only [List.mem_append, List.mem_cons, List.not_mem_nil, or_false] at hx
                rcases hx with hx | hx
                · have := hm2.cl x hx; omega
                · omega
              · refine Fr.grow f1 (Fr.trans (F := mB m r (.slice ca s1.2.length cc) C) (f2.mono (fun x _ hx => by simp at hx; simp [mB, hx])) (Fr.trans (k2.mono (fun x _ hx => by simp only [mB, List.mem_cons, List.mem_append]; exact .inr (.inr (.inl hx)))) (F4.mono (fun x _ hx => by simp at hx; simp [mB, hx])))) g1
              · refine g1.trans (H' := H1) (Mk.grow (fun x hx => (k3 x hx).imp id (fun h => by have := f2.size; omega)) (fun x hx => ?_)) f1.size
                simp only [List.mem_append, List.mem_cons, List.not_mem_nil, or_false] at hx
                exact hx.imp id (fun h => by have := f2.size; omega)
              · rw [← hxs0]
                exact ((hw0.frame f2 (by simpa [own] using hrb)).frame k2 (by intro x hx e; simp [own] at hx; subst hx; exact hbo e)).frame F4 (by simpa [own] using hmb)
              · intro x hx
                simp [own] at hx
                subst hx
                refine ⟨hbw.1, fun e => ?_⟩
                simp only [mB, List.mem_cons, List.mem_append] at e
                rcases e with e | e | e | e | e
                · exact hmb (by simp [e])
                · exact hrb (by simp [e])
                · rcases k3 x e with e | e
                  · exact hbo e
                  · omega
                · exact hbm (by simp [mB, e])
                · simp only [List.not_mem_nil, or_false] at e; omega
              · rw [← hfin]
                simp only [finM]
                rw [needM_and hd htm (by rw [hpd]; exact hz), hpd, needM_named ha, needM_named hb]
              · intro x hx e
                simp only [giveM, List.mem_append, List.mem_singleton] at e
                rcases e with e | e
                · exact hun' x hx e
                · have := hgt x hx; omega
              · simp only [giveM]
                rw [List.nodup_append]
                exact ⟨hn1, by simp, by intro a ha b hb e; simp at hb; subst hb; subst e; exact htm ha⟩
              · intro x hx
                simp only [giveM, List.mem_append, List.mem_singleton] at hx
                rcases hx with hx | hx
                · exact hr1 x hx
                · omega
              · simp [giveM, hz]; omega
            · rw [varOf_none hb] at l3
              simp (disch := omega) only [go_sem, ↓cw_block, q0, q4, qd, ec, hct, c0, c1, ea, eb, l2, l3]
              have hf2 : finM ns (p.2 / 2 :: t :: rest) s1 = needM ns n s := by
                rw [← hfin]
                simp only [finM]
                have := needM_kid2 hd htm (by rw [hpd]; exact hz) (by rw [hpd]; exact ha)
                rw [hpd] at this
                rw [this]
              refine push (p.2 / 2) _ hk.2 hb hf2 ?_
              intro w' H2 f2 hm2 hw2 ho2
              simp (disch := omega) only [go_sem, ↓cw_block, q0, q4, qd]
              have hs2 : Stk ns.length (p.2 / 2 :: t :: rest) := ⟨hk.2, hstk⟩
              exact fin ⟨_, meas_push hs2, p.2 / 2 :: t :: rest, s1, _, w', rfl, by simp (disch := omega) only [go_sem, ↓cw_block, q0, q4, qd], hm2, f2, g1, hw2, ho2, hf2, hs2, by intro x hx; rcases List.mem_cons.1 hx with rfl | hx; exact Nat.lt_trans hk.2 htn; exact hst x hx, .inl (by intro x hx; rcases List.mem_cons.1 hx with rfl | hx; exact hb; rcases List.mem_cons.1 hx with rfl | hx; exact htm; exact hun' x hx), hn1, hr1, hc1⟩
          · rw [varOf_none ha] at l2
            simp (disch := omega) only [go_sem, ↓cw_block, q0, q4, qd, ec, hct, c0, c1, ea, eb, l2, l3]
            have hf2 : finM ns (p.1 / 2 :: t :: rest) s1 = needM ns n s := by
              rw [← hfin]
              simp only [finM]
              have := needM_kid1 hd htm (by rw [hpd]; exact hz)
              rw [hpd] at this
              rw [this]
            refine push (p.1 / 2) _ hk.1 ha hf2 ?_
            intro w' H2 f2 hm2 hw2 ho2
            simp (disch := omega) only [go_sem, ↓cw_block, q0, q4, qd]
            have hs2 : Stk ns.length (p.1 / 2 :: t :: rest) := ⟨hk.1, hstk⟩
            exact fin ⟨_, meas_push hs2, p.1 / 2 :: t :: rest, s1, _, w', rfl, by simp (disch := omega) only [go_sem, ↓cw_block, q0, q4, qd], hm2, f2, g1, hw2, ho2, hf2, hs2, by intro x hx; rcases List.mem_cons.1 hx with rfl | hx; exact Nat.lt_trans hk.1 htn; exact hst x hx, .inl (by intro x hx; rcases List.mem_cons.1 hx with rfl | hx; exact ha; rcases List.mem_cons.1 hx with rfl | hx; exact htm; exact hun' x hx), hn1, hr1, hc1⟩
end
end Go.Proofs.Ytplcehlonfhooaa
