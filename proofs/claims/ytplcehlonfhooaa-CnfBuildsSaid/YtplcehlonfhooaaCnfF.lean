/- The document's Lit; the inputs by a model; clauses put behind clauses. -/
import Derived.Test.YtplcehlonfhooaaCnfZ
namespace Go.Proofs.Ytplcehlonfhooaa
open Go.HL
set_option maxRecDepth 10000
set_option linter.unusedSimpArgs false

/-- The document's graph and maker. -/
structure QRt (H : Heap) (q t : Nat) (lv : Value) (B : List Nat) (ns : List Pr) (s : MS) : Prop where
  rg : RG H t lv (ns.drop 1)
  qk : Qk H q t B s
  dis : ∀ b ∈ rB t lv, b ∉ B
  nd : s.1.Nodup
  rn : ∀ x ∈ s.1, x < ns.length
  cs : s.2.length ≤ 1 + 3 * s.1.length
theorem RG.lt {H : Heap} {t : Nat} {lv : Value} {qs : List Pr} (h : RG H t lv qs) : ∀ b ∈ rB t lv, b < H.size := by
  intro b hb
  simp only [rB, List.mem_cons] at hb
  rcases hb with rfl | hb
  · exact h.self.lt
  · exact h.vl.lt b hb
theorem QRt.frame {H H' : Heap} {F : List Nat} {q t : Nat} {lv : Value} {B : List Nat} {ns : List Pr} {s : MS} (h : QRt H q t lv B ns s) (hf : Fr F H H') (h1 : ∀ b ∈ rB t lv, b ∉ F) (h2 : ∀ b ∈ B, b ∉ F) : QRt H' q t lv B ns s :=
  ⟨h.rg.frame hf h1, h.qk.frame hf h2, h.dis, h.nd, h.rn, h.cs⟩
theorem Qk.lt {H : Heap} {q t : Nat} {B : List Nat} {s : MS} (h : Qk H q t B s) : ∀ b ∈ B, b < H.size := by
  obtain ⟨lw, cv, C, h1, rfl⟩ := h
  exact h1.lt
section
variable {H : Heap} {q t : Nat} {lv : Value} {B : List Nat} {ns : List Pr} {s : MS}
theorem qLit_spec (h : QRt H q t lv B ns s) (hd : Dn ns) (hN : ns.length ≤ 200000) {e : Nat} (he : e < 2 * ns.length) :
    CallF Try.prog 17 [hp q, iv e] H (fun r H' => r = iv (litM (needM ns (e / 2) s).1 e) ∧ Fr B H H' ∧ ∃ B', QRt H' q t lv B' ns (needM ns (e / 2) s) ∧ Grow B B' H) NoP := by
  obtain ⟨lw, cv, C, hq, hB⟩ := h.qk
  have c0 : cellH H ⟨q, 0, none⟩ = some (hp t) := hq.self.cell 0
  have t0 : cellH H ⟨t, 0, none⟩ = some lv := h.rg.self.cell 0
  obtain ⟨la, lc, el⟩ := h.rg.vl.form rgc_len (by omega)
  have hlen : (ns.drop 1).length = ns.length - 1 := by simp
  rw [hlen] at el
  rw [el] at t0
  have e2 : (e : Int) / 2 = ((e / 2 : Nat) : Int) := by omega
  obtain ⟨u, t1, t2, t3, t4, k, t5, t6⟩ := needM_list hd (e / 2) s
  have rn' : ∀ x ∈ (needM ns (e / 2) s).1, x < ns.length := fun x hx => (needM_mem hd hx).elim (h.rn x) (fun e => by omega)
  have hl := nodup_len _ _ (t4 h.nd) rn'
  refine callF_of Try.func17 rfl Try.ntmps17 Try.results17 (by decide) rfl ?_
  simp (disch := omega) only [go_sem, ↓cw_block, c0, t0, e2]
  refine call_to (qneed_spec hd hN (e / 2) (by omega) H s B h.rg h.qk h.dis h.nd h.rn h.cs) ?_
  rintro _ H2 ⟨rfl, f2, B2, q2, g2⟩
  have hk2 := q2
  obtain ⟨lw2, cv2, C2, hq2, rfl⟩ := q2
  simp (disch := omega) only [go_sem, ↓cw_block]
  refine call_to (qlit_spec hq2 (by omega) (by omega)) ?_
  rintro _ _ ⟨rfl, rfl⟩
  simp (disch := omega) only [go_sem, ↓cw_block]
  have hlt := h.rg.lt
  have hcs := h.cs
  refine fin ⟨rfl, f2, _, ⟨h.rg.frame f2 h.dis, hk2, fun b hb e => (g2 b e).elim (h.dis b hb) (fun e => by have := hlt b hb; omega), t4 h.nd, rn', ?_⟩, g2⟩
  rw [t6, t1, List.length_append]; omega
end
section
variable {H : Heap} {g m : Nat} {Bg B : List Nat} {ns : List Pr} {ins : List Nat} {s : MS}
def inO (L : List Nat) (model : List Bool) (n : Nat) : Bool := decide (n ∈ L) && bt model (L.idxOf n)
theorem cinputs_spec (h : GMk H g m Bg B ns ins s) {mv : Value} {model : List Bool} (hm : BR H mv model) (hml : model.length ≤ 1000000) :
    CallF Try.prog 21 [hp m, mv] H (fun r H' => Fr [] H H' ∧ BV H' 4 r (ins.map (inO s.1 model)) ∧ ∀ b ∈ own r, H.size ≤ b) NoP := by
  obtain ⟨r, cv, C, hmm, hB⟩ := h.mkr
  have c0 := hmm.c0
  obtain ⟨ma, mc, rfl, hma⟩ := hm
  have hlen := h.len
  have hbig := h.big
  have hil := h.gr.w.2.2.2.2.2
  refine callF_of Try.func21 rfl Try.ntmps21 Try.results21 (by decide) rfl ?_
  simp (disch := omega) only [go_sem, ↓cw_block, c0]
  refine call_to (ginputs_spec h.gr) ?_
  rintro w H1 ⟨f1, hw, ho⟩
  obtain ⟨wa, wc, ew⟩ := hw.form
  rw [List.length_map] at ew
  subst ew
  obtain ⟨H2, hH2⟩ : ∃ H2, H2 = H1.push (.cells (List.replicate ins.length (.bool false)).toArray 4) := ⟨_, rfl⟩
  have f2 : Fr [] H1 H2 := by rw [hH2]; exact Fr.push
  have y : Blk H2 H1.size 4 (List.replicate ins.length (.bool false)) := by rw [hH2]; exact Blk.new rfl
  have s1 := f1.size
  have hw2 := hw.frame f2 (by simp)
  have how : ∀ b ∈ own (Value.slice wa ins.length wc), b < H1.size := hw.lt
  simp (disch := omega) only [go_sem, ↓cw_block]
  rw [← hH2]
  refine loop_by (fun k ρ K => ∃ (i : Nat) (v : Value), k = ins.length - i ∧ i ≤ ins.length ∧ (ρ.get 0 = hp m ∧ ρ.get 1 = .slice ma model.length mc ∧ ρ.get 6 = v ∧ ρ.get 18 = .slice wa ins.length wc ∧ ρ.get 19 = iv ins.length ∧ ρ.get 20 = iv i ∧ ρ.ds = []) ∧ Fr [] H K ∧ Fr [] H1 K ∧
    BV K 4 v ((ins.map (inO s.1 model)).take i) ∧ ∀ b ∈ own v, H1.size ≤ b) (k := ins.length) ?_ ?_
  · exact ⟨0, _, rfl, by omega, by simp (disch := omega) only [go_sem, ↓cw_block], f1.trans f2, f2, ⟨.inr ⟨H1.size, 0, ins.length, [], List.replicate ins.length (.bool false), rfl, by simpa using y, by simp, by simp, by omega⟩⟩, by simp [own]⟩
  · rintro k ρ K ⟨i, v, rfl, hi, ⟨r0, r1, r6, r18, r19, r20, rd⟩, fK, fK1, hv, hvo⟩
    have hi1 : (i : Int) + 1 = ((i + 1 : Nat) : Int) := by omega
    by_cases hin : i < ins.length
    · obtain ⟨b3, o3, c3, e3, hc3⟩ := hw.at (i := i) (by simpa using hin)
      have en : nt (ins.map fun n => ((2 * n : Nat) : Int)) i = ((2 * ins[i] : Nat) : Int) := by unfold nt; simp [hin]
      rw [en] at hc3
      simp only [Value.slice.injEq] at e3
      obtain ⟨rfl, _, rfl⟩ := e3
      have hc4 := fK1.cell' hc3 (by simp)
      have hmK := hmm.frame fK (by simp)
      have c1 := hmK.c1
      have lq := hmK.look ins[i]
      have hn := h.gr.w.2.2.2.1 ins[i] (List.getElem_mem hin)
      have hlt := (List.getElem?_eq_some_iff.1 hn.2).1
      have e5 : ((2 * ins[i] : Nat) : Int) / 2 = ((ins[i] : Nat) : Int) := by omega
      have step : ∀ (x : Bool), x = inO s.1 model ins[i] → ∀ (k : Value → Heap → Prop), (∀ v' K', Fr [] H K' → Fr [] H1 K' → BV K' 4 v' ((ins.map (inO s.1 model)).take (i + 1)) → (∀ b ∈ own v', H1.size ≤ b) → k v' K') →
          @appB Try.prog 41 41 v (.slice (some ⟨K.size, 0, none⟩) 1 1) ⟨K.push (.cells #[.bool x] 4)⟩ ⟨k⟩ := by
        intro x hx k hk
        refine app_lit1 T.el41 rfl hv rfl (by simp; omega) ?_
        rintro v' K' k1 k2 k3 _
        refine hk v' K' (fr_new' fK k2 (fun b hb => by have := hvo b hb; omega)) (fr_new' fK1 k2 hvo) ?_ (fun b hb => (k3 b hb).elim (hvo b) (fun h => by have := fK1.size; omega))
        have : (ins.map (inO s.1 model)).take (i + 1) = (ins.map (inO s.1 model)).take i ++ [x] := by
          rw [take1 (by simpa using hin), hx]; simp
        unfold BV
        rw [this, List.map_append]
        exact k1
      by_cases hL : ins[i] ∈ s.1
      · have hv1 := varOf_pos hL
        have hvv : varOf s.1 ins[i] = (s.1.idxOf ins[i] : Int) + 1 := if_pos hL
        rw [hvv] at lq hv1
        by_cases hmod : s.1.idxOf ins[i] < model.length
        · obtain ⟨b6, o6, rfl, hc6⟩ := hma _ hmod
          have hc7 := fK.cell' hc6 (by simp)
          have e7 : (s.1.idxOf ins[i] : Int) + 1 - 1 = (s.1.idxOf ins[i] : Int) := by omega
          simp (disch := omega) only [go_sem, ↓cw_block, r0, r1, r6, r18, r19, r20, rd, hc4, c1, e5, lq, e7, hc7]
          refine step _ (by simp [inO, hL]) _ ?_
          intro v' K' q1 q2 q3 q4
          simp (disch := omega) only [go_sem, ↓cw_block, r0, r1, r6, r18, r19, r20, rd]
          exact fin ⟨ins.length - (i + 1), by omega, i + 1, v', rfl, by omega, by simp (disch := omega) only [go_sem, ↓cw_block, r0, r1, r6, r18, r19, r20, rd, hi1], q1, q2, q3, q4⟩
        · have hb0 : bt model (s.1.idxOf ins[i]) = false := by unfold bt; rw [List.getD_eq_getElem?_getD, List.getElem?_eq_none (by omega)]; rfl
          simp (disch := omega) only [go_sem, ↓cw_block, r0, r1, r6, r18, r19, r20, rd, hc4, c1, e5, lq]
          refine step _ (by simp [inO, hb0]) _ ?_
          intro v' K' q1 q2 q3 q4
          simp (disch := omega) only [go_sem, ↓cw_block, r0, r1, r6, r18, r19, r20, rd]
          exact fin ⟨ins.length - (i + 1), by omega, i + 1, v', rfl, by omega, by simp (disch := omega) only [go_sem, ↓cw_block, r0, r1, r6, r18, r19, r20, rd, hi1], q1, q2, q3, q4⟩
      · rw [varOf_none hL] at lq
        simp (disch := omega) only [go_sem, ↓cw_block, r0, r1, r6, r18, r19, r20, rd, hc4, c1, e5, lq]
        refine step _ (by simp [inO, hL]) _ ?_
        intro v' K' q1 q2 q3 q4
        simp (disch := omega) only [go_sem, ↓cw_block, r0, r1, r6, r18, r19, r20, rd]
        exact fin ⟨ins.length - (i + 1), by omega, i + 1, v', rfl, by omega, by simp (disch := omega) only [go_sem, ↓cw_block, r0, r1, r6, r18, r19, r20, rd, hi1], q1, q2, q3, q4⟩
    · have : i = ins.length := by omega
      subst this
      rw [List.take_of_length_le (by simp)] at hv
      simp (disch := omega) only [go_sem, ↓cw_block, r0, r1, r6, r18, r19, r20, rd, dsB_of]
      exact fin ⟨fK, hv, fun b hb => by have := hvo b hb; omega⟩
/-- Clauses are put behind clauses. -/
theorem capp {P : Program} {t bytes : Nat} {zero cv dv : Value} {cs ds : List (List Int)} {C D : List Nat} {k : Value → Heap → Prop} (hT : ElT P t 26 1 bytes zero) (hz : zero.cells.size = 1) (hb : bytes ≤ 64) (hv : CVec H cv cs C) (hw : CVec H dv ds D)
    (hlen : cs.length + ds.length ≤ 1000000000) (h1 : ∀ b ∈ C, b ∉ own cv) (h2 : ∀ b ∈ D, b ∉ own cv)
    (hk : ∀ v' H', CVec H' v' (cs ++ ds) (C ++ D) → Fr (own cv) H H' → (∀ b ∈ own v', b ∈ own cv ∨ H.size ≤ b) → (∃ a c, v' = .slice a (cs.length + ds.length) c) → k v' H') : @appB P t t cv dv ⟨H⟩ ⟨k⟩ := by
  obtain ⟨a, c, ev⟩ := hv.form
  obtain ⟨a', c', ew⟩ := hw.form
  obtain ⟨cvs, v1, v2, v3⟩ := hv
  obtain ⟨dvs, w1, w2, w3⟩ := hw
  have hone : ∀ u ∈ dvs, oneC u = true := by
    intro u hu
    obtain ⟨j, hj⟩ := List.getElem?_of_mem hu
    have hjl := (List.getElem?_eq_some_iff.1 hj).1
    have hjd : j < ds.length := by omega
    obtain ⟨b, _, q2, _⟩ := w3 j ds[j] (by simp [hjd])
    rw [q2] at hj
    simp only [Option.some.injEq] at hj
    rw [← hj]; rfl
  refine app_vec (n := ds.length) (new := dvs) hT hz v1 (by rw [ew]; rfl) ?_ hT.under (by simp) hone (by rw [w2, Nat.mul_one]) ?_ ?_
  · rcases w1.ex with ⟨e1, e2⟩ | ⟨b, len, cap, pre, rest, e1, hb', h2', h3', h4'⟩
    · subst e2
      have : ds.length = 0 := w2.symm
      rw [e1, this]; rfl
    · rw [e1] at ew
      simp only [Value.slice.injEq] at ew
      obtain ⟨_, rfl, _⟩ := ew
      rw [e1]
      show cellsH (cellH H) ⟨b, pre.length, none⟩ 0 (ds.length * 1) = some dvs
      rw [Nat.mul_one, ← w2]
      refine cellsH_at dvs pre.length 0 ?_
      intro j hj
      rw [hb'.cell, Nat.add_zero, List.append_assoc, List.getElem?_append_right (by omega), Nat.add_sub_cancel_left, List.getElem?_append_left hj, List.getElem?_eq_getElem hj]
  · intro a2 l2 c2 e2
    rw [ev] at e2
    simp only [Value.slice.injEq] at e2
    obtain ⟨_, rfl, _⟩ := e2
    have h5 : (2 * (cs.length + ds.length) + 200) * (bytes + 1) ≤ (2 * (cs.length + ds.length) + 200) * 65 := Nat.mul_le_mul_left _ (by omega)
    omega
  · intro v' H' g1 g2 g3 g4
    obtain ⟨a2, c2, e2⟩ := g4 _ _ _ ev
    refine hk v' H' ⟨_, g1, by simp [v2, w2], fun i x hx => ?_⟩ g2 g3 ⟨a2, c2, e2⟩
    rcases Nat.lt_or_ge i cs.length with hi | hi
    · rw [List.getElem?_append_left hi] at hx
      obtain ⟨bb, q1, q2, q3⟩ := v3 i x hx
      exact ⟨bb, by simp [q1], by rw [List.getElem?_append_left (by omega)]; exact q2, g2.blk q3 (h1 bb q1)⟩
    · rw [List.getElem?_append_right hi] at hx
      obtain ⟨bb, q1, q2, q3⟩ := w3 _ x hx
      exact ⟨bb, by simp [q1], by rw [List.getElem?_append_right (by omega), v2]; exact q2, g2.blk q3 (h2 bb q1)⟩
end
end Go.Proofs.Ytplcehlonfhooaa
