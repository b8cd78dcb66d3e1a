/- Graphs: the other functions. -/
import Derived.Test.YtplcehlonfhooaaCnfH
namespace Go.Proofs.Ytplcehlonfhooaa
open Go.HL
set_option maxRecDepth 10000
set_option linter.unusedSimpArgs false

/-- At most k nodes more. -/
def Pre (ns ns' : List Pr) (k : Nat) : Prop := ∃ t, ns' = ns ++ t ∧ t.length ≤ k
theorem Pre.refl {ns : List Pr} {k : Nat} : Pre ns ns k := ⟨[], by simp, by simp⟩
theorem Pre.trans {ns ns' ns'' : List Pr} {j k m : Nat} (h : Pre ns ns' j) (h' : Pre ns' ns'' k) (hm : j + k ≤ m) : Pre ns ns'' m := by
  obtain ⟨t, rfl, ht⟩ := h
  obtain ⟨u, rfl, hu⟩ := h'
  exact ⟨t ++ u, by simp, by simp; omega⟩
theorem Pre.len {ns ns' : List Pr} {k : Nat} (h : Pre ns ns' k) : ns.length ≤ ns'.length ∧ ns'.length ≤ ns.length + k := by
  obtain ⟨t, rfl, ht⟩ := h
  simp; omega
theorem GP.trans {H H1 H2 : Heap} {g : Nat} {B : List Nat} {ns ns' : List Pr} {ins ins' : List Nat} (h : ∃ B1, Gr H1 g B1 ns ins ∧ Fr B H H1 ∧ Grow B B1 H) (h' : ∀ B1, Gr H1 g B1 ns ins → GP H1 H2 g B1 ns' ins') : GP H H2 g B ns' ins' := by
  obtain ⟨B1, h1, f1, g1⟩ := h
  obtain ⟨B2, h2, f2, g2⟩ := h' B1 h1
  exact ⟨B2, h2, Fr.grow f1 f2 g1, g1.trans g2 f1.size⟩
theorem nx_lt {e n : Nat} (h : e < 2 * n) : nx e < 2 * n := by unfold nx; split <;> omega
theorem fr_new' {F : List Nat} {H Ha Hb : Heap} (g1 : Fr [] H Ha) (g2 : Fr F Ha Hb) (hF : ∀ b ∈ F, H.size ≤ b) : Fr [] H Hb := by
  refine ⟨Nat.le_trans g1.size g2.size, fun b hb _ => ?_⟩
  rw [g2.same b (Nat.lt_of_lt_of_le hb g1.size) (fun h => by have := hF b h; omega)]
  exact g1.same b hb (by simp)
section
variable {H : Heap} {g : Nat} {ns : List Pr} {ins : List Nat} {B : List Nat}
theorem Gr.w (h : Gr H g B ns ins) : 0 < ns.length ∧ ns.length ≤ 200000 ∧ (∀ (i : Nat) p, ns[i]? = some p → p = (0, 0) ∨ (p ≠ (0, 0) ∧ p.1 < 2 * i ∧ p.2 < 2 * i)) ∧ (∀ n ∈ ins, 0 < n ∧ ns[n]? = some (0, 0)) ∧ ins.Nodup ∧ ins.length ≤ ns.length := by
  obtain ⟨mr, nv, nw, kn, h, hw, rfl⟩ := h
  exact ⟨hw.pos, hw.big, hw.nd, hw.inp, hw.nod, hw.il⟩
/-- What an operation on a graph answers. -/
def GO (H : Heap) (g : Nat) (B : List Nat) (ns : List Pr) (ins : List Nat) (k : Nat) (r : Value) (H' : Heap) : Prop := ∃ (e : Nat) (ns' : List Pr), r = iv e ∧ e < 2 * ns'.length ∧ Pre ns ns' k ∧ GP H H' g B ns' ins
theorem and_spec' (h : Gr H g B ns ins) (hl : ns.length < 200000) {a b : Int} (ha : a ≤ 9223372036854775807) (hb : b ≤ 9223372036854775807) :
    CallF Try.prog 13 [hp g, iv a, iv b] H (GO H g B ns ins 1) NoP := by
  refine (and_spec h hl ha hb).to ?_
  rintro _ H' ⟨e, ns', rfl, hR, hg⟩
  have oa := ownM_lt h.w.1 a
  have ob := ownM_lt h.w.1 b
  obtain ⟨he, hp⟩ := hR.lt (by omega) h.w.1
  refine ⟨e, ns', rfl, he, ?_, hg⟩
  rcases hp with rfl | ⟨p, rfl⟩
  · exact Pre.refl
  · exact ⟨[p], rfl, by simp⟩
theorem or_spec (h : Gr H g B ns ins) (hl : ns.length < 200000) {a b : Int} (ha : a ≤ 9223372036854775807) (hb : b ≤ 9223372036854775807) :
    CallF Try.prog 29 [hp g, iv a, iv b] H (GO H g B ns ins 1) NoP := by
  have oa := ownM_lt h.w.1 a
  have ob := ownM_lt h.w.1 b
  have na := nx_lt oa
  have nb := nx_lt ob
  refine callF_of Try.func29 rfl Try.ntmps29 Try.results29 (by decide) rfl ?_
  simp (disch := omega) only [go_sem, ↓cw_block]
  refine call_to (own_spec h ha) ?_
  rintro _ _ ⟨rfl, rfl⟩
  simp (disch := omega) only [go_sem, ↓cw_block]
  refine call_to (not_spec (by omega)) ?_
  rintro _ _ ⟨rfl, rfl⟩
  simp (disch := omega) only [go_sem, ↓cw_block]
  refine call_to (own_spec h hb) ?_
  rintro _ _ ⟨rfl, rfl⟩
  simp (disch := omega) only [go_sem, ↓cw_block]
  refine call_to (not_spec (by omega)) ?_
  rintro _ _ ⟨rfl, rfl⟩
  simp (disch := omega) only [go_sem, ↓cw_block]
  refine call_to (and_spec' h hl (by omega) (by omega)) ?_
  rintro _ H1 ⟨e, ns1, rfl, he, hpre, hg⟩
  have := hpre.len
  simp (disch := omega) only [go_sem, ↓cw_block]
  refine call_to (not_spec (by omega)) ?_
  rintro _ _ ⟨rfl, rfl⟩
  simp (disch := omega) only [go_sem, ↓cw_block]
  exact fin ⟨nx e, ns1, rfl, nx_lt he, hpre, hg⟩
theorem xor_spec (h : Gr H g B ns ins) (hl : ns.length + 3 ≤ 200000) {a b : Int} (ha : a ≤ 9223372036854775807) (hb : b ≤ 9223372036854775807) :
    CallF Try.prog 28 [hp g, iv a, iv b] H (GO H g B ns ins 3) NoP := by
  have oa := ownM_lt h.w.1 a
  have ob := ownM_lt h.w.1 b
  have na := nx_lt oa
  have nb := nx_lt ob
  refine callF_of Try.func28 rfl Try.ntmps28 Try.results28 (by decide) rfl ?_
  simp (disch := omega) only [go_sem, ↓cw_block]
  refine call_to (own_spec h ha) ?_
  rintro _ _ ⟨rfl, rfl⟩
  simp (disch := omega) only [go_sem, ↓cw_block]
  refine call_to (own_spec h hb) ?_
  rintro _ _ ⟨rfl, rfl⟩
  simp (disch := omega) only [go_sem, ↓cw_block]
  refine call_to (not_spec (by omega)) ?_
  rintro _ _ ⟨rfl, rfl⟩
  simp (disch := omega) only [go_sem, ↓cw_block]
  refine call_to (and_spec' h (by omega) (by omega) (by omega)) ?_
  rintro _ H1 ⟨e1, ns1, rfl, he1, hp1, B1, h1, f1, g1⟩
  have l1 := hp1.len
  simp (disch := omega) only [go_sem, ↓cw_block]
  refine call_to (not_spec (by omega)) ?_
  rintro _ _ ⟨rfl, rfl⟩
  simp (disch := omega) only [go_sem, ↓cw_block]
  refine call_to (and_spec' h1 (by omega) (by omega) (by omega)) ?_
  rintro _ H2 ⟨e2, ns2, rfl, he2, hp2, B2, h2, f2, g2⟩
  have l2 := hp2.len
  simp (disch := omega) only [go_sem, ↓cw_block]
  refine call_to (or_spec h2 (by omega) (by omega) (by omega)) ?_
  rintro _ H3 ⟨e3, ns3, rfl, he3, hp3, hg3⟩
  simp (disch := omega) only [go_sem, ↓cw_block]
  exact fin ⟨e3, ns3, rfl, he3, (hp1.trans hp2 (Nat.le_refl _)).trans hp3 (by omega), GP.trans ⟨B2, h2, Fr.grow f1 f2 g1, g1.trans g2 f1.size⟩ (fun B' hB => by
    obtain ⟨B3, h3, f3, g3⟩ := hg3
    obtain ⟨mr, nv, nw, kn, q1, q2, rfl⟩ := h2
    obtain ⟨mr', nv', nw', kn', q1', q2', rfl⟩ := hB
    have e := q1.self.inj q1'.self
    simp only [List.cons.injEq, Value.map.injEq, Option.some.injEq, and_true] at e
    obtain ⟨rfl, rfl, rfl⟩ := e
    exact ⟨B3, h3, f3, g3⟩)⟩

theorem gnew_spec : CallF Try.prog 25 [] H (fun r H' => Fr [] H H' ∧ ∃ g B, r = hp g ∧ Gr H' g B [(0, 0)] [] ∧ ∀ b ∈ B, H.size ≤ b) NoP := by
  have em : mkCells #[iv 0, iv 0] 2 = [iv 0, iv 0].toArray := by apply Array.ext'; simp [mkCells, List.range_succ]
  refine callF_of Try.func25 rfl Try.ntmps25 Try.results25 (by decide) rfl ?_
  simp (disch := omega) only [go_sem, ↓cw_block, em, Array.size_push]
  refine fin ?_
  have hb : Blk (H.push (.cells [iv 0, iv 0].toArray 63)) H.size 63 [iv 0, iv 0] := Blk.new rfl
  have hm := MapR.new (H := H.push (.cells [iv 0, iv 0].toArray 63))
  have e1 : (H.push (.cells [iv 0, iv 0].toArray 63)).size = H.size + 1 := by simp
  have e2 : ((H.push (.cells [iv 0, iv 0].toArray 63)).push (.map #[] 0)).size = H.size + 2 := by simp
  refine ⟨(Fr.push.push').push', H.size + 2, gB (H.size + 2) (H.size + 1) (.slice (some ⟨H.size, 0, none⟩) 1 1) (.slice none 0 0), ?_, ⟨H.size + 1, _, _, [], ⟨?_, ⟨.inr ⟨H.size, 1, 1, [], [], rfl, ?_, rfl, rfl, by omega⟩⟩, Vec.nil, ?_, ?_, ?_, ?_, ?_⟩, ?_, rfl⟩, ?_⟩
  · unfold newPtr; rw [e2]
  · have := Blk.new (H := (H.push (.cells [iv 0, iv 0].toArray 63)).push (.map #[] 0)) (t := 68) (vs := [.slice (some ⟨H.size, 0, none⟩) 1 1, .slice none 0 0, .map (some (H.push (.cells [iv 0, iv 0].toArray 63)).size)]) rfl
    rw [e2, e1] at this
    exact this
  · exact (hb.push _).push _
  · have := hm.frame (F := []) (Fr.push (o := .cells [.slice (some ⟨H.size, 0, none⟩) 1 1, .slice none 0 0, .map (some (H.push (.cells [iv 0, iv 0].toArray 63)).size)].toArray 68)) (by simp)
    rw [e1] at this
    exact this
  · simp [own]
  · simp [own]
  · simp [own]
  · simp [own]
  · refine ⟨by simp, by simp, fun i p hp => ?_, by simp, by simp, by simp, by simp⟩
    have := (List.getElem?_eq_some_iff.1 hp).1
    have hi : i = 0 := by simp at this; omega
    subst hi
    simp at hp
    exact .inl hp.symm
  · intro b hb
    simp [gB, own] at hb
    omega

theorem ginputs_spec (h : Gr H g B ns ins) : CallF Try.prog 23 [hp g] H (fun r H' => Fr [] H H' ∧ IV H' 3 r (ins.map fun n => ((2 * n : Nat) : Int)) ∧ ∀ b ∈ own r, H.size ≤ b) NoP := by
  obtain ⟨mr, nv, nw, kn, h, hw, rfl⟩ := h
  have hil := hw.il
  have hbig := hw.big
  obtain ⟨aw, cw, ew⟩ := h.vi.form
  rw [List.length_map] at ew
  subst ew
  obtain ⟨H1, hH1⟩ : ∃ H1, H1 = H.push (.cells (List.replicate ins.length (iv 0)).toArray 3) := ⟨_, rfl⟩
  have f1 : Fr [] H H1 := by rw [hH1]; exact Fr.push
  have b1 : Blk H1 H.size 3 (List.replicate ins.length (iv 0)) := by rw [hH1]; exact Blk.new rfl
  have c1 := h.c1
  have h1 := h.frame f1 (by simp)
  have d1 := h1.c1
  have hrng : ∀ j, j < ins.length → 0 ≤ nt (ins.map Int.ofNat) j ∧ nt (ins.map Int.ofNat) j < 200000 ∧ 2 * nt (ins.map Int.ofNat) j = nt (ins.map fun n => ((2 * n : Nat) : Int)) j := by
    intro j hj
    have hm := hw.inp ins[j] (List.getElem_mem hj)
    have := (List.getElem?_eq_some_iff.1 hm.2).1
    have e1 : nt (ins.map Int.ofNat) j = (ins[j] : Int) := by unfold nt; simp [hj]
    have e2 : nt (ins.map fun n => ((2 * n : Nat) : Int)) j = ((2 * ins[j] : Nat) : Int) := by unfold nt; simp [hj]
    rw [e1, e2]
    omega
  refine callF_of Try.func23 rfl Try.ntmps23 Try.results23 (by decide) rfl ?_
  simp (disch := omega) only [go_sem, ↓cw_block, c1]
  rw [← hH1]
  simp (disch := omega) only [go_sem, ↓cw_block, d1]
  refine loop_by (fun k ρ H2 => ∃ (i : Nat) (w : Value), k = ins.length - i ∧ i ≤ ins.length ∧ (ρ.get 3 = w ∧ ρ.get 15 = .slice aw ins.length cw ∧ ρ.get 16 = iv ins.length ∧ ρ.get 17 = iv i ∧ ρ.ds = []) ∧ Fr [] H H2 ∧
    IV H2 3 w ((ins.map fun n => ((2 * n : Nat) : Int)).take i) ∧ ∀ b ∈ own w, H.size ≤ b) (k := ins.length) ?_ ?_
  · refine ⟨0, _, rfl, by omega, by simp (disch := omega) only [go_sem, ↓cw_block], f1, ⟨.inr ⟨H.size, 0, ins.length, [], List.replicate ins.length (iv 0), rfl, by simpa using b1, by simp, by simp, by omega⟩⟩, by simp [own]⟩
  · rintro k ρ H2 ⟨i, w, rfl, hi, ⟨r3, r15, r16, r17, rd⟩, f2, hv, ho⟩
    by_cases hin : i < ins.length
    · have hi1 : (i : Int) + 1 = ((i + 1 : Nat) : Int) := by omega
      obtain ⟨bb, oo, cc, ee, hc⟩ := h.vi.at (i := i) (by simpa using hin)
      simp only [Value.slice.injEq] at ee
      obtain ⟨rfl, _, rfl⟩ := ee
      have hc2 := f2.cell' hc (by simp)
      have hr := hrng i hin
      simp (disch := omega) only [go_sem, ↓cw_block, r3, r15, r16, r17, rd, hc2]
      refine app_lit1 T.el26 rfl hv rfl (by simp; omega) ?_
      rintro w3 H3 k1 k2 k3 ⟨a3, c3, e3⟩
      simp (disch := omega) only [go_sem, ↓cw_block, r3, r15, r16, r17, rd]
      refine fin ⟨ins.length - (i + 1), by omega, i + 1, w3, rfl, by omega, by simp (disch := omega) only [go_sem, ↓cw_block, r3, r15, r16, r17, rd, hi1], fr_new' f2 k2 ho, ?_, fun b hb => (k3 b hb).elim (ho b) (fun h => by have := f2.size; omega)⟩
      have : (ins.map fun n => ((2 * n : Nat) : Int)).take (i + 1) = (ins.map fun n => ((2 * n : Nat) : Int)).take i ++ [2 * nt (ins.map Int.ofNat) i] := by
        rw [List.take_add_one, hr.2.2, nt_lt (by simpa using hin)]; rfl
      unfold IV
      rw [this, List.map_append]
      exact k1
    · have : i = ins.length := by omega
      subst this
      rw [List.take_of_length_le (by simp)] at hv
      simp (disch := omega) only [go_sem, ↓cw_block, r3, r15, r16, r17, rd, dsB_of]
      exact fin ⟨f2, hv, ho⟩
end
end Go.Proofs.Ytplcehlonfhooaa
