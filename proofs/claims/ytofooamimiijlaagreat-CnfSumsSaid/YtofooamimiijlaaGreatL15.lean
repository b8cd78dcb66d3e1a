/- The solver: what a conflict teaches. -/
import Derived.Test.YtofooamimiijlaaGreatL14
import Derived.Shelf.SlSortCmp.NoneTotal
import Derived.Shelf.SlicesG.Cmp
import Derived.Ground.SlsfProg
import Derived.Ground.SlgcProg
import Derived.Test.YtofooamimiijlaaGreatProg
import Derived.Test.YtofooamimiijlaaGreatRows
import Derived.Test.YtofooamimiijlaaGreatL05
import Derived.WalkKit
import Derived.ProofKit
import Derived.OpenShut
namespace Go.Proofs.YtofooamimiijlaaGreat
open Go.HL HM Go.Sat
set_option maxRecDepth 10000
set_option linter.unusedSimpArgs false
set_option linter.unusedVariables false

section
variable {H : Heap} {ow : Nat → Nat} {p n : Nat} {k : Bk} {f : Cf} {G : List (List Nat)}
/-- The boxes of an analysis are made. -/
theorem AM.make (h : RM H ow p n k f) (hsn : ∀ v, v ≤ n → bt f.seen v = false) : ∃ G1 G2 G3 G4 G5 G6 G7 G8 : Heap,
    H.push (.cells #[sp p] 107) = G1 ∧ G1.push (.cells #[iv 0] 3) = G2 ∧ G2.push (.cells #[iv 0] 3) = G3 ∧ wr G3 ⟨G1.size, 0, none⟩ (iv f.st.length) = some G4 ∧ wr G4 ⟨G2.size, 0, none⟩ (iv 0) = some G5 ∧
    G5.push (.cells #[iv 0] 3) = G6 ∧ G6.push (.cells #[.slice none 0 0] 26) = G7 ∧ wr G7 ⟨G6.size, 0, none⟩ (.slice (some ⟨G5.size, 0, none⟩) 1 1) = some G8 ∧
    AM H ow G8 p n k f f H.size G1.size G2.size G6.size (.slice (some ⟨G5.size, 0, none⟩) 1 1) 0 An.zero ∧
    (RM G1 ow p n k f ∧ RM G8 ow p n k f ∧ cellH G1 ⟨H.size, 0, none⟩ = some (sp p)) := by
  obtain ⟨G1, h1⟩ : ∃ G, H.push (.cells #[sp p] 107) = G := ⟨_, rfl⟩
  obtain ⟨G2, h2⟩ : ∃ G, G1.push (.cells #[iv 0] 3) = G := ⟨_, rfl⟩
  obtain ⟨G3, h3⟩ : ∃ G, G2.push (.cells #[iv 0] 3) = G := ⟨_, rfl⟩
  have z1 : G1.size = H.size + 1 := by rw [← h1]; simp
  have z2 : G2.size = H.size + 2 := by rw [← h2]; simp [z1]
  have z3 : G3.size = H.size + 3 := by rw [← h3]; simp [z2]
  have b1 : Blk G3 H.size 107 [sp p] := by rw [← h3, ← h2, ← h1]; exact ((Blk.new rfl).push _).push _
  have b2 : Blk G3 G1.size 3 [iv 0] := by rw [← h3, ← h2]; exact (Blk.new rfl).push _
  have b3 : Blk G3 G2.size 3 [iv 0] := by rw [← h3]; exact Blk.new rfl
  have w4 := b2.wr (i := 0) (by simp) (iv f.st.length)
  obtain ⟨G4, h4⟩ : ∃ G, setH G3 ⟨G1.size, 0, none⟩ (iv f.st.length) = G := ⟨_, rfl⟩
  rw [h4] at w4
  have z4 : G4.size = H.size + 3 := by rw [← h4, size_setH]; exact z3
  have c1 : Blk G4 H.size 107 [sp p] := by rw [← h4]; exact b1.set_other (by simp; omega)
  have c2 : Blk G4 G1.size 3 [iv f.st.length] := by rw [← h4]; exact b2.set 0 _
  have c3 : Blk G4 G2.size 3 [iv 0] := by rw [← h4]; exact b3.set_other (by simp; omega)
  have w5 := c3.wr (i := 0) (by simp) (iv 0)
  obtain ⟨G5, h5⟩ : ∃ G, setH G4 ⟨G2.size, 0, none⟩ (iv 0) = G := ⟨_, rfl⟩
  rw [h5] at w5
  have z5 : G5.size = H.size + 3 := by rw [← h5, size_setH]; exact z4
  have d1 : Blk G5 H.size 107 [sp p] := by rw [← h5]; exact c1.set_other (by simp; omega)
  have d2 : Blk G5 G1.size 3 [iv f.st.length] := by rw [← h5]; exact c2.set_other (by simp; omega)
  have d3 : Blk G5 G2.size 3 [iv 0] := by rw [← h5]; exact c3.set 0 _
  obtain ⟨G6, h6⟩ : ∃ G, G5.push (.cells #[iv 0] 3) = G := ⟨_, rfl⟩
  obtain ⟨G7, h7⟩ : ∃ G, G6.push (.cells #[.slice none 0 0] 26) = G := ⟨_, rfl⟩
  have z6 : G6.size = H.size + 4 := by rw [← h6]; simp [z5]
  have z7 : G7.size = H.size + 5 := by rw [← h7]; simp [z6]
  have e4 : Blk G7 G5.size 3 [iv 0] := by rw [← h7, ← h6]; exact (Blk.new rfl).push _
  have e5 : Blk G7 G6.size 26 [.slice none 0 0] := by rw [← h7]; exact Blk.new rfl
  have w8 := e5.wr (i := 0) (by simp) (.slice (some ⟨G5.size, 0, none⟩) 1 1)
  obtain ⟨G8, h8⟩ : ∃ G, setH G7 ⟨G6.size, 0, none⟩ (.slice (some ⟨G5.size, 0, none⟩) 1 1) = G := ⟨_, rfl⟩
  rw [h8] at w8
  have p7 : ∀ {b t : Nat} {vs : List Value}, Blk G5 b t vs → Blk G7 b t vs := by intro b t vs hb; rw [← h7, ← h6]; exact (hb.push _).push _
  have s8 : ∀ {b t : Nat} {vs : List Value}, Blk G7 b t vs → b ≠ G6.size → Blk G8 b t vs := by intro b t vs hb hn; rw [← h8]; exact hb.set_other hn
  have F5 : Fr [] H G5 := ⟨by omega, fun b hb _ => by rw [← h5, setH_other (by simp; omega), ← h4, setH_other (by simp; omega), ← h3, ← h2, ← h1]; simp [Array.getElem?_push]; rw [if_neg (by omega), if_neg (by omega), if_neg (by omega)]⟩
  have F8 : Fr [] H G8 := ⟨by rw [← h8, size_setH]; omega, fun b hb _ => by
    rw [← h8, setH_other (by simp; omega), ← h7, ← h6]
    simp [Array.getElem?_push]
    rw [if_neg (by omega), if_neg (by omega)]
    exact F5.same b hb (by simp)⟩
  have m1 : RM G1 ow p n k f := h.out (F := []) (by rw [← h1]; exact Fr.push) (by simp)
  have m8 : RM G8 ow p n k f := h.out F8 (by simp)
  refine ⟨G1, G2, G3, G4, G5, G6, G7, G8, h1, h2, h3, w4, w5, h6, h7, w8, ?_, m1, m8, ?_⟩
  · refine ⟨m8, ⟨Sm.of F8 (by simp), Ow.refl⟩, fun b hb => h.free hb, ⟨f.seen, f.m, f.os, f.pl, f.ac, rfl, fun v => Iff.rfl⟩, fun v hv => hsn v hv, s8 (p7 d1) (by omega), s8 (p7 d2) (by omega), s8 (p7 d3) (by omega), ?_, ⟨.inr ⟨G5.size, 1, 1, [], [], rfl, s8 e4 (by omega), rfl, rfl, Nat.le_refl _⟩⟩, Nat.le_refl _, by omega, by omega, by omega, ?_, by omega⟩
    · rw [← h8]; exact e5.set 0 _
    · intro b hb
      simp only [own, List.mem_singleton] at hb
      subst hb
      omega
  · have : Blk G1 H.size 107 [sp p] := by rw [← h1]; exact Blk.new rfl
    exact this.cell 0
end
end Go.Proofs.YtofooamimiijlaaGreat

namespace Go.Proofs.YtofooamimiijlaaGreat
open Go.HL HM Go.Sat
set_option maxRecDepth 10000
set_option linter.unusedSimpArgs false
set_option linter.unusedVariables false

section
variable {H : Heap} {ow : Nat → Nat} {p n : Nat} {k : Bk} {f : Cf} {G : List (List Nat)}
theorem mark1_opn {s : St} {here : Nat} {a : An} {y : Nat} : a.opn ≤ (mark1 s here a y).opn := by
  unfold mark1
  split
  · exact Nat.le_refl _
  · split <;> simp
theorem markL_opn {s : St} {here : Nat} : ∀ (l : List Nat) (a : An), a.opn ≤ (markL s here a l).opn
  | [], a => Nat.le_refl _
  | y :: l, a => Nat.le_trans (mark1_opn (y := y)) (markL_opn l _)
theorem ani_opn {n : Nat} {s : St} {here at' : Nat} {a : An} (h : AnI n s here at' a) : a.opn ≤ at' := by
  rw [h.opn]
  unfold cnt
  have := List.countP_le_length (p := hit s here a) (l := List.range at')
  simpa using this
theorem ani_r {n : Nat} {s : St} {here at' : Nat} {a : An} (hv : Inv n s) (h : AnI n s here at' a) : a.r.length ≤ n :=
  codes_len (fun y hy => by
    obtain ⟨_, i, hi, _⟩ := h.low y hy
    rw [← neg_neg y]
    exact isC_neg (hv.ok.code _ (List.mem_of_getElem? hi))) h.nod
theorem vec_cell {e i : Nat} {v u : Value} {vs : List Value} (h : Vec H e 1 v vs) (hi : vs[i]? = some u) : ∃ b o cap, v = .slice (some ⟨b, o, none⟩) vs.length cap ∧ cellH H ⟨b, o + i, none⟩ = some u := by
  have hl := (List.getElem?_eq_some_iff.1 hi).1
  obtain ⟨b, o, len, cap, rfl, hlen, hc⟩ := h.cell (by intro e; subst e; simp at hi)
  rw [Nat.mul_one] at hlen; subst hlen
  exact ⟨b, o, cap, rfl, by rw [hc i hl, hi]⟩
/-- What an analysis answers. -/
structure Ana (n : Nat) (f : Cf) (G : List (List Nat)) (l : List Nat) (to : Nat) : Prop where
  ex : ∃ x0 t, l = neg x0 :: t ∧ Lrn n f.s x0 t to ∧ (t = [] ∧ to = 0 ∨ 1 ≤ to ∧ ∃ y t', t = y :: t' ∧ ∃ j : Nat, f.tr[j]? = some (neg y) ∧ lev f.st j = to)
  code : (∀ z ∈ l, isC n z) ∧ (l.map (· / 2)).Nodup
  so : ∀ m, Mdl m → AllB m G → ∃ z ∈ l, m z = true
set_option maxHeartbeats 4000000 in
theorem sAnalyze_spec (h : RM H ow p n k f) (hr : Rl n f) {c x : Nat} {K D : List Nat} (hV : VI n f.s f.C f.w G f.head x K (c :: D)) (hall : ∀ y ∈ f.lits c, neg y ∈ f.tr) (hn : n ≤ 1000) (h0 : 1 ≤ f.st.length) (hst : f.st.length ≤ 1000000)
    (hsn : ∀ v, v ≤ n → bt f.seen v = false) (hstep : 0 ≤ f.step ∧ f.step ≤ 4611686018427387904) :
    CallF Tryz.prog 75 [sp p, pv c] H (fun v H' => ∃ sn m os pl ac l lv to, v = .tuple #[lv, iv (to : Nat)] ∧ RM H' ow p n k ((f.uSeen sn).uOrder m os pl ac) ∧ (∀ v, (nt pl v = -1 ↔ nt f.pl v = -1)) ∧ (∀ v, v ≤ n → bt sn v = false) ∧ Ex H ow H' ow ∧
      Vec H' 3 1 lv (nv l) ∧ (∀ b ∈ own lv, H.size ≤ b) ∧ Ana n f G l to) NoP := by
  have hi : Inv n f.s := hV.inv
  have hcC : c ∈ f.C := hV.mem.1
  have hcl := hV.wi.cl c hcC
  have hl2 : 2 ≤ (f.lits c).length := hcl.1
  have hlen : (f.lits c).length ≤ n := codes_len hcl.2.1 hcl.2.2
  have htn : f.tr.length ≤ n := hi.ok.len
  have hlast : ∀ i, i < f.tr.length → lev f.st i ≤ f.st.length := fun i _ => lev_le
  obtain ⟨G1, G2, G3, G4, G5, G6, G7, G8, g1, g2, g3, g4, g5, g6, g7, g8, am, m1, m8, c0⟩ := AM.make h hsn
  obtain ⟨sa, sc, es⟩ := h.starts.form
  rw [nv_len] at es
  have c15 : cellH G1 ⟨p, 15, none⟩ = some (.slice sa f.st.length sc) := by rw [← es]; exact m1.c 15
  obtain ⟨ta, tc, et⟩ := h.trail.form
  rw [nv_len] at et
  have c14 : cellH G8 ⟨p, 14, none⟩ = some (.slice ta f.tr.length tc) := by rw [← et]; exact m8.c 14
  have c08 : cellH G8 ⟨H.size, 0, none⟩ = some (sp p) := am.bs.cell 0
  obtain ⟨lb, lo, lc, el, hlc, d0⟩ := m8.litf hcC hl2
  refine callF_of Tryz.func75 rfl Tryz.ntmps75 Tryz.results75 (by decide) rfl ?_
  simp (disch := omega) only [go_sem, ↓cw_block, dsB_of, g1, g2, g3, g4, g5, g6, g7, g8, c0, c15, c08, c14, d0]
  have hcell : ∀ H1 f', RM H1 ow p n k f' → f'.lits = f.lits → f'.lb = f.lb → f'.C = f.C → ∀ (i y : Nat), (f.lits c)[i]? = some y → cellH H1 ⟨lb, lo + i, none⟩ = some (iv (y : Int)) := by
    intro H1 f' hm e1 e2 e3 i y hy
    exact hm.litc (c := c) (by rw [e3]; exact hcC) (by rw [e2]; exact el) (by rw [e1]; exact hy)
  have hlits : ∀ y ∈ f.lits c, isC n y ∧ neg y ∈ f.tr := fun y hy => ⟨hcl.2.1 y hy, hall y hy⟩
  refine call_to (sMark_spec am hr hi hn hstep (l := f.lits c) (lb := lb) (lo := lo) (cap := lc) hcell hlits (by omega) (by show 0 + _ ≤ _; omega) (by show 0 + _ ≤ _; omega)) ?_
  rintro v H1 ⟨rfl, f1, rv, am1⟩
  -- what is open
  have hfls : ∀ y ∈ f.lits c, Fls f.tr f.tr.length y := by
    intro y hy
    obtain ⟨j, hj⟩ := List.getElem?_of_mem (hall y hy)
    exact ⟨j, (List.getElem?_eq_some_iff.1 hj).1, hj⟩
  have hA0 : AnI n f.s f.st.length f.tr.length (markL f.s f.st.length An.zero (f.lits c)) := markL_ok hi hlast _ _ AnI.zero hfls
  have hxm : x ∈ f.lits c := by
    obtain ⟨-, a, b, r, hl, hab⟩ := hV.mem
    have hl' : f.lits c = a :: b :: r := hl
    rw [hl']
    rcases hab with rfl | rfl <;> simp
  have htop : lev f.st (f.head - 1) = f.st.length := by
    unfold lev
    rw [List.countP_eq_length]
    intro q hq
    simpa using hV.st q hq
  have hO0 : 0 < (markL f.s f.st.length An.zero (f.lits c)).opn := open_pos hi h0 hfls hlast hxm hV.at' htop
  have hR0 : ∀ m, Mdl m → AllB m G → Res f.s f.st.length f.tr.length (markL f.s f.st.length An.zero (f.lits c)) m := by
    intro m hm hG
    exact res_start hi (hV.gi.holds hV.wi hm hG) hfls hlast ((hV.gi.snd m hm hG).1 c hcC)
  generalize markL f.s f.st.length An.zero (f.lits c) = A0 at am1 hA0 hO0 hR0
  clear am c0 c15 c14 c08 d0 m1 m8
  simp (disch := omega) only [go_sem, dsB_of]
  refine cut_at (fun ρ H2 => ∃ (i x0 : Nat) (a : An) (f1 : Cf) (rv : Value), (ρ.get 2 = hp H.size ∧ ρ.get 8 = hp G6.size ∧ ρ.ds = []) ∧ AM H ow H2 p n k f f1 H.size G1.size G2.size G6.size rv (neg x0) { a with opn := a.opn - 1 } ∧
    f.tr[i]? = some x0 ∧ lev f.st i = f.st.length ∧ a.seen (x0 / 2) = true ∧ AnI n f.s f.st.length i (a.pop (x0 / 2)) ∧ a.opn - 1 = 0 ∧ ∀ m, Mdl m → AllB m G → ∃ y ∈ neg x0 :: a.r, m y = true) ?_ ?_
  · simp (disch := omega) only [go_sem, ↓cw_block, dsB_of]
    refine loop_by (fun at' ρ H2 => ∃ (a : An) (f1 : Cf) (rv : Value), (ρ.get 2 = hp H.size ∧ ρ.get 7 = hp G2.size ∧ ρ.get 8 = hp G6.size ∧ ρ.get 9 = iv at' ∧ ρ.get 10 = .func (.func 98) #[] #[hp H.size, hp G1.size, hp G2.size, hp G6.size] ∧ ρ.ds = []) ∧
      AM H ow H2 p n k f f1 H.size G1.size G2.size G6.size rv 0 a ∧ AnI n f.s f.st.length at' a ∧ 0 < a.opn ∧ ∀ m, Mdl m → AllB m G → Res f.s f.st.length at' a m) (k := f.tr.length) ?_ ?_
    · exact ⟨A0, f1, rv, by simp (disch := omega) only [go_sem, ↓cw_block, dsB_of, g1, g2, g3, g4, g5, g6, g7, g8], am1, hA0, hO0, hR0⟩
    · clear am1 hA0 hO0 hR0 A0 f1 rv g4 g5 g8
      rintro at' ρ H2 ⟨a, f1, rv, ⟨s2, s7, s8, s9, s10, sd⟩, am, hA, hO, hR⟩
      obtain ⟨i, x0, hia, hx0, hsx, hlx, hbet, hA2⟩ := next_hit hi hA hO (fun i _ => lev_le)
      have hle := hA.le
      have hle' : at' ≤ f.tr.length := hle
      have ha1 : (at' : Int) - 1 = ((at' - 1 : Nat) : Int) := by omega
      simp (disch := omega) only [go_sem, ↓cw_block, dsB_of, s2, s7, s8, s9, s10, sd, ha1]
      refine loop_by (fun j ρ H3 => ∃ q : Nat, j = q - i ∧ i ≤ q ∧ q < at' ∧ H3 = H2 ∧ (ρ.get 2 = hp H.size ∧ ρ.get 7 = hp G2.size ∧ ρ.get 8 = hp G6.size ∧ ρ.get 9 = iv q ∧ ρ.get 10 = .func (.func 98) #[] #[hp H.size, hp G1.size, hp G2.size, hp G6.size] ∧ ρ.ds = [])) (k := at' - 1 - i) ?_ ?_
      · exact ⟨at' - 1, rfl, by omega, by omega, rfl, by simp (disch := omega) only [go_sem, ↓cw_block, dsB_of, s2, s7, s8, s10, sd]⟩
      · clear s2 s7 s8 s9 s10 sd
        rintro _ ρ H3 ⟨q, rfl, hiq, hqa, rfl, ⟨s2, s7, s8, s9, s10, sd⟩⟩
        obtain ⟨sn, m, os, pl, ac, rfl, hpl⟩ := am.fe
        obtain ⟨y, hy⟩ : ∃ y, f.tr[q]? = some y := ⟨_, List.getElem?_eq_getElem (by omega)⟩
        have hyc : isC n y := hi.ok.code y (List.mem_of_getElem? hy)
        obtain ⟨y1, y2, y3, y4⟩ := isC_lt hyc
        have hh := half y
        have c0 : cellH H3 ⟨H.size, 0, none⟩ = some (sp p) := am.bs.cell 0
        have c12 : cellH H3 ⟨p, 12, none⟩ = some (sl k.bs (n + 1)) := am.m.c 12
        obtain ⟨tb, to, tc', et', -, ky⟩ := am.m.trail.cell (nv_get hy)
        rw [nv_len] at et'
        have et2 : f.trail = .slice (some ⟨tb, to, none⟩) f.tr.length tc' := et'
        have c14 : cellH H3 ⟨p, 14, none⟩ = some (.slice (some ⟨tb, to, none⟩) f.tr.length tc') := by rw [← et2]; exact am.m.c 14
        have csn := am.m.cseen y3
        rw [am.seen _ (by omega)] at csn
        by_cases hqi : q = i
        · subst hqi
          have hyx : y = x0 := by
            have : f.tr[q]? = some x0 := hx0
            rw [hy] at this; exact Option.some.inj this
          subst hyx
          rw [hsx] at csn
          simp (disch := omega) only [go_sem, ↓cw_block, dsB_of, s2, s7, s8, s9, s10, sd]
          refine draw0 (lk [(0, true), (1, true), (2, true), (3, true), (4, true), (5, true), (6, true), (7, true), (8, true), (9, true), (10, true), (11, true), (12, true), (13, true), (14, true)] .fin) T.mixed ?_
          have co : cellH H3 ⟨G2.size, 0, none⟩ = some (iv a.opn) := am.bo.cell 0
          obtain ⟨H4, w4, am4⟩ := am.opn (a.opn - 1)
          have co4 : cellH H4 ⟨G2.size, 0, none⟩ = some (iv ((a.opn - 1 : Nat) : Int)) := am4.bo.cell 0
          have ho1 : (a.opn : Int) - 1 = ((a.opn - 1 : Nat) : Int) := by omega
          have hop := ani_opn hA
          simp (disch := omega) only [go_sem, ↓cw_block, dsB_of, s2, s7, s8, s9, s10, sd, c0, c12, c14, ky, hh, csn, co, ho1, w4, co4]
          refine cond_dec (fun hb => ?_) (fun hb => ?_)
          · have hz : a.opn - 1 = 0 := by omega
            have cr : cellH H4 ⟨G6.size, 0, none⟩ = some rv := am4.br.cell 0
            obtain ⟨b, o, cap, hrv, hwr, hvec, -⟩ := Vec.put1 am4.vr (i := 0) (by simp [nv]) (iv (neg y))
            have ex := fun V t xo yo => bin_xor1 (V := V) (t := t) (xo := xo) (yo := yo) (n := y) (by omega)
            subst hrv
            have am5 := am4.inr (r0' := neg y) (r' := a.r) (by simpa [nv] using hvec) (by exact Fr.set (by simp [own]))
            rw [Nat.add_zero] at hwr
            have hnl : (nv (0 :: a.r)).length = a.r.length + 1 := by simp [nv]
            simp (disch := omega) only [go_sem, ↓cw_block, dsB_of, s2, s7, s8, s9, s10, sd, cr, ex, hwr]
            exact fin ⟨q, y, a, _, _, by simp (disch := omega) only [go_sem, ↓cw_block, dsB_of, s2, s7, s8, s9, s10, sd], am5, hy, hlx, hsx, hA2, hz, fun m hm hG => res_end hi hm hx0 hbet hA2 hz (hR m hm hG)⟩
          · have hop1 : 0 < (a.pop (y / 2)).opn := by show 0 < a.opn - 1; omega
            obtain ⟨c', r', hrea, hlits', hfl⟩ := has_why hi h0 hx0 hlx hA2 hop1
            have hrea' : f.rea (y / 2) = some c' := hrea
            have hl' : f.lits c' = y :: r' := hlits'
            have hcC' : c' ∈ f.C := hV.wi.rs q y c' hy hrea
            have hcl' := hV.wi.cl c' hcC'
            have hl2' : 2 ≤ (f.lits c').length := hcl'.1
            have hlen' : (f.lits c').length ≤ n := codes_len hcl'.2.1 hcl'.2.2
            have htl : (f.lits c').length - 1 = r'.length := by rw [hl']; rfl
            have q0 : cellH H4 ⟨H.size, 0, none⟩ = some (sp p) := am4.bs.cell 0
            have q11 : cellH H4 ⟨p, 11, none⟩ = some (sl k.br (n + 1)) := am4.m.c 11
            have qr : cellH H4 ⟨k.br, y / 2, none⟩ = some (pv c') := by
              rw [am4.m.crea y3]
              show some (pn (f.rea (y / 2))) = _
              rw [hrea']; rfl
            obtain ⟨lb', lo', lc', el', hlc', d0'⟩ := am4.m.litf (c := c') hcC' hl2'
            have d0'' : cellH H4 ⟨c', 0, none⟩ = some (.slice (some ⟨lb', lo', none⟩) (f.lits c').length lc') := d0'
            have hlc2 : (f.lits c').length ≤ lc' := hlc'
            have hne : ¬ lc' = 1 := by omega
            have cb : ∀ {l : List Value} {H' : Heap} {R : Value → Heap → Prop} {E : List PanicEntry → Heap → Prop}, @callB Tryz.prog (.func (.func 98) #[] #[hp H.size, hp G1.size, hp G2.size, hp G6.size]) l ⟨H'⟩ ⟨R⟩ ⟨E⟩ = @CallB Tryz.prog 98 (l ++ [hp H.size, hp G1.size, hp G2.size, hp G6.size]) ⟨H'⟩ ⟨R⟩ ⟨E⟩ := (rfl)
            simp (disch := omega) only [go_sem, ↓cw_block, dsB_of, s2, s7, s8, s9, s10, sd, q0, q11, hh, qr, d0'', hne, if_false, htl, cb]
            have hcell' : ∀ H1 f', RM H1 ow p n k f' → f'.lits = f.lits → f'.lb = f.lb → f'.C = f.C → ∀ (i z : Nat), r'[i]? = some z → cellH H1 ⟨lb', lo' + 1 + i, none⟩ = some (iv (z : Int)) := by
              intro H1 f' hm e1 e2 e3 i z hz
              rw [show lo' + 1 + i = lo' + (i + 1) by omega]
              exact hm.litc (c := c') (by rw [e3]; exact hcC') (by rw [e2]; exact el') (by rw [e1, hl']; exact hz)
            have hla' : ∀ z ∈ r', isC n z ∧ neg z ∈ f.tr := by
              intro z hz
              obtain ⟨j, hj, hj2⟩ := hfl z hz
              exact ⟨hcl'.2.1 z (by rw [hlits']; simp [hz]), List.mem_of_getElem? hj2⟩
            have hrl := ani_r hi hA
            refine call_to (sMark_spec am4 hr hi hn hstep (l := r') (lb := lb') (lo := lo' + 1) (cap := lc' - 1) hcell' hla' (by omega) (by show a.opn - 1 + _ ≤ _; omega) (by show a.r.length + _ ≤ _; omega)) ?_
            rintro v H5 ⟨rfl, f5, rv5, am5⟩
            obtain ⟨sn5, m5, os5, pl5, ac5, rfl, hpl5⟩ := am5.fe
            have u0 : cellH H5 ⟨H.size, 0, none⟩ = some (sp p) := am5.bs.cell 0
            have u12 : cellH H5 ⟨p, 12, none⟩ = some (sl k.bs (n + 1)) := am5.m.c 12
            obtain ⟨H6, w6, m6, e6⟩ := am5.m.putSeen (x := y / 2) y3 false
            have hne2 : ∀ z ∈ r', z / 2 ≠ y / 2 := by
              intro z hz e
              obtain ⟨j, hj, hj2⟩ := hfl z hz
              have := hi.ok.idx hj2 hx0 (by rw [neg_var]; exact e)
              omega
            have am6 : AM H ow H6 p n k f ((f.uSeen (sn5.set (y / 2) false)).uOrder m5 os5 pl5 ac5) H.size G1.size G2.size G6.size rv5 0 (markL f.s f.st.length (a.pop (y / 2)) r') := by
              have hmu := markL_un (s := f.s) (here := f.st.length) (v := y / 2) r' { a with opn := a.opn - 1 } hne2
              have e : markL f.s f.st.length (a.pop (y / 2)) r' = { (markL f.s f.st.length { a with opn := a.opn - 1 } r') with seen := up1 (markL f.s f.st.length { a with opn := a.opn - 1 } r').seen (y / 2) false } := hmu
              rw [e]
              refine am5.step m6 e6 ⟨_, m5, os5, pl5, ac5, rfl, hpl5⟩ fun v hv => ?_
              have hsl : sn5.length = n + 1 := am5.m.ns
              show bt (sn5.set (y / 2) false) v = _
              unfold Go.Sat.up1
              by_cases e : v = y / 2
              · subst e; rw [if_pos rfl, bt_set_eq (by rw [hsl]; exact y3)]
              · rw [if_neg e, bt_set_ne (Ne.symm e)]; exact am5.seen v hv
            simp (disch := omega) only [go_sem, ↓cw_block, dsB_of, s2, s7, s8, s9, s10, sd, u0, u12, hh, w6]
            have hAn := markL_ok hi (here := f.st.length) (at' := q) (fun i _ => lev_le) r' _ hA2 hfl
            have hOn : 0 < (markL f.s f.st.length (a.pop (y / 2)) r').opn := Nat.lt_of_lt_of_le hop1 (markL_opn r' _)
            exact fin ⟨q, hqa, _, _, rv5, by simp (disch := omega) only [go_sem, ↓cw_block, dsB_of, s2, s7, s8, s9, s10, sd], am6, hAn, hOn, fun m hm hG => res_step hi (hV.gi.holds hV.wi hm hG) (fun i _ => lev_le) hqa hx0 hbet hA2 hrea hlits' hfl (hR m hm hG)⟩
        · have hsf : a.seen (y / 2) = false := hbet q y (by omega) hqa hy
          rw [hsf] at csn
          have hq1 : (q : Int) - 1 = ((q - 1 : Nat) : Int) := by omega
          simp (disch := omega) only [go_sem, ↓cw_block, dsB_of, s2, s7, s8, s9, s10, sd]
          refine draw0 (lk [(0, true), (1, true), (2, true), (3, true), (4, true), (5, true), (6, true), (7, true), (8, true), (9, true), (10, true), (11, true), (12, true), (13, true), (14, true)] .fin) T.mixed ?_
          simp (disch := omega) only [go_sem, ↓cw_block, dsB_of, s2, s7, s8, s9, s10, sd, c0, c12, c14, ky, hh, csn, hq1]
          exact fin ⟨q - 1 - i, by omega, q - 1, rfl, by omega, by omega, rfl, by simp (disch := omega) only [go_sem, ↓cw_block, dsB_of, s2, s7, s8, s9, s10, sd]⟩
  · clear am1 hA0 hO0 hR0
    rintro ρ H2 ⟨i, x0, a, f1, rv, ⟨s2, s8, sd⟩, am, hx0, hlx, hsx, hA2, hz, hso⟩
    have hla := ani_r hi hA2
    have hla' : a.r.length ≤ n := hla
    have cr : cellH H2 ⟨G6.size, 0, none⟩ = some rv := am.br.cell 0
    simp (disch := omega) only [go_sem, ↓cw_block, dsB_of, s2, s8, sd, cr]
    have hone : ∀ u ∈ nv (neg x0 :: a.r), oneC u = true := by
      intro u hu
      obtain ⟨y, _, rfl⟩ := List.mem_map.1 hu
      rfl
    refine call_to (cloneI_spec am.vr hone (by rw [nv_len]; show a.r.length + 1 ≤ _; omega)) ?_
    rintro mv H3 ⟨f3, vm, om⟩
    have am3 := am.out f3
    have cr3 : cellH H3 ⟨G6.size, 0, none⟩ = some rv := am3.br.cell 0
    have c03 : cellH H3 ⟨H.size, 0, none⟩ = some (sp p) := am3.bs.cell 0
    refine Hush.out ?_
    obtain ⟨sn, m, os, pl, ac, rfl, hpl⟩ := am3.fe
    have hvr := am3.vr
    have hsn3 : ∀ v, v ≤ n → bt sn v = a.seen v := am3.seen
    rcases hvr.ex with ⟨_, e⟩ | ⟨b, len, cap, pre, rest, rfl, hb, hl2', hl3', hl4'⟩
    · simp [nv] at e
    have hlen' : len = a.r.length + 1 := by rw [Nat.mul_one, nv_len] at hl2'; exact hl2'.symm
    subst hlen'
    have hbl := am.lv b (by simp [own])
    have hbH : b < H2.size := am.vr.lt b (by simp [own])
    have hob : ow b = 0 := am.z b hbl.1
    refine ⟨?_⟩
    simp (disch := omega) only [go_sem, ↓cw_block, dsB_of, s2, s8, sd, cr3, c03]
    refine call_to (sShorten_spec am3.m ⟨hr.vals, hr.lv⟩ hi (w := upd f.w x (f.w x)) (by
      have : upd f.w x (f.w x) = f.w := by funext q; by_cases e : q = x; · subst e; rw [upd_same]
                                           · rw [upd_ne e]
      rw [this]; exact hV.wi) hn (r0 := neg x0) (r := a.r) hb hl4' hob (by rw [hl3', Nat.mul_one]) (fun y hy => by
        obtain ⟨_, j, hj, _⟩ := hA2.low y hy
        exact ⟨by rw [← neg_neg y]; exact isC_neg (hi.ok.code _ (List.mem_of_getElem? hj)), List.mem_of_getElem? hj⟩) (by omega)) ?_
    rintro v H4 ⟨m4, f4, r', rfl, v4, hsub, himp⟩
    refine Hush.out ?_
    have v4' : Vec H4 3 1 (.slice (some ⟨b, pre.length, none⟩) (r'.length + 1) cap) (nv (neg x0 :: r')) := v4
    obtain ⟨H5, w5, am5⟩ := am3.app' (r0' := neg x0) (r' := r') v4' (by exact f4) (by intro q hq; left; simpa [own] using hq)
    have hr'l : r'.length ≤ a.r.length := hsub.length_le
    have omv : ∀ q ∈ own mv, H2.size ≤ q := om
    have vm5 : Vec H5 3 1 mv (nv (neg x0 :: a.r)) := by
      have h4 := vm.frame f4 (fun q hq => by simp only [List.mem_singleton]; have := om q hq; omega)
      have hG6 : G6.size < H2.size := am.br.lt
      unfold HL.wr at w5
      split at w5
      · have e5 := Option.some.inj w5
        subst e5
        exact h4.frame (Fr.set (F := [G6.size]) (by simp)) (fun q hq => by simp only [List.mem_singleton]; have := om q hq; omega)
      · cases w5
    refine ⟨?_⟩
    obtain ⟨ma, mc, emv⟩ : ∃ ma mc, mv = .slice ma (a.r.length + 1) mc := by
      obtain ⟨b', o', cap', e, _⟩ := vec_cell vm5 (i := 0) rfl
      exact ⟨some ⟨b', o', none⟩, cap', by rw [e]; simp [nv]⟩
    subst emv
    simp (disch := omega) only [go_sem, ↓cw_block, dsB_of, s2, s8, sd, w5]
    refine loop_by (fun j ρ H6 => ∃ (q : Nat) (f6 : Cf), j = a.r.length + 1 - q ∧ q ≤ a.r.length + 1 ∧ (ρ.get 2 = hp H.size ∧ ρ.get 8 = hp G6.size ∧ ρ.get 95 = .slice ma (a.r.length + 1) mc ∧ ρ.get 96 = iv ((a.r.length + 1 : Nat) : Int) ∧ ρ.get 97 = iv q ∧ ρ.ds = []) ∧
      AM H ow H6 p n k f f6 H.size G1.size G2.size G6.size (.slice (some ⟨b, pre.length, none⟩) (r'.length + 1) cap) (neg x0) ⟨fun v => if v ∈ ((neg x0 :: a.r).take q).map (· / 2) then false else a.seen v, a.opn - 1, r'⟩ ∧ Vec H6 3 1 (.slice ma (a.r.length + 1) mc) (nv (neg x0 :: a.r))) (k := a.r.length + 1) ?_ ?_
    · refine ⟨0, (f.uSeen sn).uOrder m os pl ac, rfl, by omega, by simp (disch := omega) only [go_sem, ↓cw_block, dsB_of, s2, s8, sd], ?_, vm5⟩
      simpa using am5
    · clear s2 s8 sd am5 vm5
      rintro _ ρ H6 ⟨q, f6, rfl, hqa, ⟨s2, s8, s95, s96, s97, sd⟩, am6, vm6⟩
      have hll : (neg x0 :: a.r).length = a.r.length + 1 := rfl
      have hcodes := lrn_codes hi hx0 hlx hA2
      have hcodes1 : ((neg x0 :: a.r).map (· / 2)).Nodup := hcodes.1
      have hcodes2 : ∀ y ∈ neg x0 :: a.r, isC n y := hcodes.2
      by_cases hqe : q = a.r.length + 1
      · subst hqe
        have hsv : (fun v => if v ∈ ((neg x0 :: a.r).take (a.r.length + 1)).map (· / 2) then false else a.seen v) = fun _ => false := by
          funext v
          rw [List.take_of_length_le (by simp)]
          split
          · rfl
          · rename_i hv
            cases hb : a.seen v
            · rfl
            · exact absurd ((seen_end hi hx0 hlx hsx hA2 hz v).1 hb) hv
        rw [hsv] at am6
        simp (disch := omega) only [go_sem, ↓cw_block, dsB_of, s2, s8, s95, s96, s97, sd]
        have hkey : ∀ y ∈ r', ∃ j : Nat, f.tr[j]? = some (neg y) ∧ 1 ≤ lev f.st j ∧ f.s.lv (y / 2) = lev f.st j ∧ isC n y := by
          intro y hy
          obtain ⟨_, j, hj, h1, h2⟩ := hA2.low y (hsub.subset hy)
          exact ⟨j, hj, h1, lv_of hi hj, by rw [← neg_neg y]; exact isC_neg (hi.ok.code _ (List.mem_of_getElem? hj))⟩
        refine loop_by (fun j ρ H7 => ∃ (q to r0 : Nat) (rr : List Nat), j = r'.length + 1 - q ∧ 1 ≤ q ∧ (ρ.get 2 = hp H.size ∧ ρ.get 8 = hp G6.size ∧ ρ.get 15 = iv to ∧ ρ.get 16 = iv q ∧ ρ.ds = []) ∧
          AM H ow H7 p n k f f6 H.size G1.size G2.size G6.size (.slice (some ⟨b, pre.length, none⟩) (r'.length + 1) cap) r0 ⟨fun _ => false, a.opn - 1, rr⟩ ∧ Top f.s.lv (neg x0 :: r') (r0 :: rr) to q ∧ q ≤ (r0 :: rr).length) (k := r'.length) ?_ ?_
        · exact ⟨1, 0, neg x0, r', rfl, Nat.le_refl _, by simp (disch := omega) only [go_sem, ↓cw_block, dsB_of, s2, s8, sd]; rfl, am6, Top.zero, by simp⟩
        · clear s2 s8 s95 s96 s97 sd am6 vm6
          rintro _ ρ H7 ⟨q, to, r0, rr, rfl, h1q, ⟨s2, s8, s15, s16, sd⟩, am7, ht, hql⟩
          have hlen7 : (r0 :: rr).length = r'.length + 1 := ht.perm.length_eq
          have cr7 : cellH H7 ⟨G6.size, 0, none⟩ = some (.slice (some ⟨b, pre.length, none⟩) (r'.length + 1) cap) := am7.br.cell 0
          by_cases hqe : q = r'.length + 1
          · subst hqe
            simp (disch := omega) only [go_sem, ↓cw_block, dsB_of, s2, s8, s15, s16, sd, cr7, dsB_of]
            obtain ⟨sn7, m7, os7, pl7, ac7, rfl, hpl7⟩ := am7.fe
            obtain ⟨t, hlt, hperm, hlrn, hcase⟩ := Top.lrn hi h0 hx0 hlx hA2 (fun y hy => hsub.subset hy) (by rw [hlen7]; exact ht)
            refine fin ⟨sn7, m7, os7, pl7, ac7, r0 :: rr, _, to, rfl, am7.m, hpl7, fun v hv => by rw [am7.seen v hv], am7.e, am7.vr, fun q hq => (am7.lv q hq).1, ⟨x0, t, hlt, hlrn, hcase⟩, ?_, ?_⟩
            · refine ⟨fun z hz => ?_, ?_⟩
              · have := ht.perm.mem_iff.1 hz
                exact hcodes2 z ((List.Sublist.cons_cons (neg x0) hsub).subset this)
              · exact (ht.perm.map _).nodup_iff.2 (hcodes1.sublist ((List.Sublist.cons_cons (neg x0) hsub).map _))
            · intro mm hm hG
              obtain ⟨z, hz1, hz2⟩ := short_ok hi (hV.gi.holds hV.wi hm hG) hx0 hlx hA2 (seen_end hi hx0 hlx hsx hA2 hz) (r := r') (by
                intro z hzr
                rcases himp z hzr with h1 | ⟨c', h1, h2⟩
                · exact .inl h1
                · refine .inr ⟨c', h1, fun y hy => (h2 y hy).imp (fun h3 => ?_) id⟩
                  obtain ⟨_, j, hj, _⟩ := hA2.low z hzr
                  have hcC2 := hV.wi.rs j (neg z) c' hj (by rw [neg_var]; exact h1)
                  have hyc := (hV.wi.cl c' hcC2).2.1 y (List.mem_of_mem_tail hy)
                  rw [← hsn3 _ (by have := (isC_lt hyc).2.2.1; omega)]
                  exact h3) (hso mm hm hG)
              exact ⟨z, ht.perm.mem_iff.2 hz1, hz2⟩
          · obtain ⟨y, hy⟩ : ∃ y, (r0 :: rr)[q]? = some y := ⟨_, List.getElem?_eq_getElem (by omega)⟩
            have hyd : (r0 :: rr).getD q 0 = y := by simp [List.getD, hy]
            have hyr : y ∈ r' := by
              have h2 : rr[q - 1]? = some y := by
                obtain ⟨q', rfl⟩ : ∃ q', q = q' + 1 := ⟨q - 1, by omega⟩
                exact hy
              exact ht.tail.mem_iff.1 (List.mem_of_getElem? h2)
            obtain ⟨j, hj, hj1, hjl, hyc⟩ := hkey y hyr
            obtain ⟨y1, y2, y3, y4⟩ := isC_lt hyc
            have hh := half y
            obtain ⟨b', o', cap', e, ky⟩ := vec_cell am7.vr (nv_get hy)
            simp only [Value.slice.injEq, Option.some.injEq, Addr.mk.injEq, and_true] at e
            obtain ⟨⟨rfl, rfl⟩, -, rfl⟩ := e
            have c0 : cellH H7 ⟨H.size, 0, none⟩ = some (sp p) := am7.bs.cell 0
            obtain ⟨sn7, m7, os7, pl7, ac7, hf7, hpl7⟩ := am7.fe
            have c10 : cellH H7 ⟨p, 10, none⟩ = some (sl k.bl (n + 1)) := by have := am7.m.c 10; exact this
            have clv : cellH H7 ⟨k.bl, y / 2, none⟩ = some (iv (lev f.st j : Nat)) := by
              have h1 := am7.m.clvl (f := f6) (by rw [hf7]; exact ⟨hr.vals, hr.lv⟩) (i := j) (x := neg y) (by rw [hf7]; exact hj)
              rw [neg_var] at h1
              rw [h1, hf7]
            have hq1 : (q : Int) + 1 = ((q + 1 : Nat) : Int) := by omega
            simp (disch := omega) only [go_sem, ↓cw_block, dsB_of, s2, s8, s15, s16, sd, cr7]
            refine draw0 (lk [(0, true), (1, true), (2, true), (3, true), (4, true), (5, true), (6, true), (7, true), (8, true), (9, true), (10, true), (11, true), (12, true)] .fin) T.mixed ?_
            simp (disch := omega) only [go_sem, ↓cw_block, dsB_of, s2, s8, s15, s16, sd, cr7, c0, c10, ky, hh, clv]
            refine cond_dec (fun hb => ?_) (fun hb => ?_)
            · have hlt : to < f.s.lv ((r0 :: rr).getD q 0 / 2) := by rw [hyd, hjl]; omega
              obtain ⟨z, hzz⟩ : ∃ z, (r0 :: rr)[1]? = some z := ⟨_, List.getElem?_eq_getElem (by omega)⟩
              have hzd : (r0 :: rr).getD 1 0 = z := by simp [List.getD, hzz]
              obtain ⟨b'', o'', cap'', e, kz⟩ := vec_cell am7.vr (nv_get hzz)
              simp only [Value.slice.injEq, Option.some.injEq, Addr.mk.injEq, and_true] at e
              obtain ⟨⟨rfl, rfl⟩, -, rfl⟩ := e
              obtain ⟨b1, o1, cap1, e1, w8, v8, -⟩ := Vec.put1 am7.vr (i := 1) (by rw [nv_len]; show 1 < (r0 :: rr).length; omega) (iv y)
              simp only [Value.slice.injEq, Option.some.injEq, Addr.mk.injEq, and_true] at e1
              obtain ⟨⟨rfl, rfl⟩, -, rfl⟩ := e1
              generalize hH8 : setH H7 ⟨b, pre.length + 1, none⟩ (iv y) = H8 at w8 v8
              have f8 : Fr [b] H7 H8 := by rw [← hH8]; exact Fr.set (by simp)
              obtain ⟨b1, o1, cap1, e1, w9, v9, -⟩ := Vec.put1 v8 (i := q) (by rw [List.length_set, nv_len]; show q < (r0 :: rr).length; omega) (iv z)
              simp only [Value.slice.injEq, Option.some.injEq, Addr.mk.injEq, and_true] at e1
              obtain ⟨⟨rfl, rfl⟩, -, rfl⟩ := e1
              generalize hH9 : setH H8 ⟨b, pre.length + q, none⟩ (iv z) = H9 at w9 v9
              have f9 : Fr [b] H8 H9 := by rw [← hH9]; exact Fr.set (by simp)
              have hsl : (sw (r0 :: rr) 1 q).length = (r0 :: rr).length := sw_len
              obtain ⟨r0', rr', hsw⟩ : ∃ r0' rr', sw (r0 :: rr) 1 q = r0' :: rr' := by
                cases h : sw (r0 :: rr) 1 q with
                | nil => rw [h] at hsl; simp at hsl
                | cons u t => exact ⟨u, t, rfl⟩
              have hnv : nv (r0' :: rr') = ((nv (r0 :: rr)).set 1 (iv y)).set q (iv z) := by
                rw [← hsw]
                unfold sw
                rw [hyd, hzd]
                simp only [nv, List.map_set]
              have am9 := am7.inr (r0' := r0') (r' := rr') (by rw [hnv]; exact v9) (by exact f8.trans f9)
              have cr8 : cellH H8 ⟨G6.size, 0, none⟩ = some (.slice (some ⟨b, pre.length, none⟩) (r'.length + 1) cap) := f8.cell' cr7 (by simp only [List.mem_singleton]; intro e; exact (am7.lv b (by simp [own])).2.2.2.2 e.symm)
              simp (disch := omega) only [go_sem, ↓cw_block, dsB_of, s2, s8, s15, s16, sd]
              refine draw0 (lk [(0, true), (1, true), (2, true), (3, true), (4, true), (5, true), (6, true), (7, true), (8, true), (9, true), (10, true), (11, true)] .fin) T.mixed ?_
              simp (disch := omega) only [go_sem, ↓cw_block, dsB_of, s2, s8, s15, s16, sd, cr7, c0, c10, ky, hh, clv]
              refine draw1 (lk [(0, true), (1, false), (2, false), (3, true), (4, true), (5, true), (6, true), (7, true), (8, true), (9, true), (10, true)] (.act 11 (lk [(12, true)] (.actd 13 .fin)) .non)) T.mixed [(⟨G6.size, 0, none⟩, .slice (some ⟨b, pre.length, none⟩) (r'.length + 1) cap)] (heldOK_one cr7) ?_
              simp (disch := omega) only [go_sem, ↓cw_block, dsB_of, s2, s8, s15, s16, sd, cr7, ky, kz, w8]
              refine held_by (heldOK_one cr8) ?_
              simp (disch := omega) only [go_sem, ↓cw_block, dsB_of, s2, s8, s15, s16, sd, w9]
              refine fin ⟨r'.length + 1 - (q + 1), by omega, q + 1, lev f.st j, r0', rr', rfl, by omega, by simp (disch := omega) only [go_sem, ↓cw_block, dsB_of, s2, s8, s15, s16, sd, hq1], am9, ?_, by rw [← hsw, hsl]; omega⟩
              have := ht.yes h1q (by omega) hlt
              rw [hyd, hjl, hsw] at this
              exact this
            · simp (disch := omega) only [go_sem, ↓cw_block, dsB_of, s2, s8, s15, s16, sd]
              refine fin ⟨r'.length + 1 - (q + 1), by omega, q + 1, to, r0, rr, rfl, by omega, by simp (disch := omega) only [go_sem, ↓cw_block, dsB_of, s2, s8, s15, s16, sd, hq1], am7, ?_, by omega⟩
              refine ht.no h1q (by omega) (fun y hy => ?_) (by rw [hyd, hjl]; omega) ht.tail
              obtain ⟨j', _, h2, h3, _⟩ := hkey y hy
              rw [h3]; exact h2
      · obtain ⟨y, hy⟩ : ∃ y, (neg x0 :: a.r)[q]? = some y := ⟨_, List.getElem?_eq_getElem (by rw [hll]; omega)⟩
        have hym := List.mem_of_getElem? hy
        obtain ⟨y1, y2, y3, y4⟩ := isC_lt (hcodes2 y hym)
        have hh := half y
        obtain ⟨mb, mo, mc', e, ky⟩ := vec_cell vm6 (nv_get hy)
        simp only [Value.slice.injEq] at e
        obtain ⟨rfl, -, rfl⟩ := e
        have c0 : cellH H6 ⟨H.size, 0, none⟩ = some (sp p) := am6.bs.cell 0
        have c12 : cellH H6 ⟨p, 12, none⟩ = some (sl k.bs (n + 1)) := am6.m.c 12
        obtain ⟨sn6, m6, os6, pl6, ac6, rfl, hpl6⟩ := am6.fe
        obtain ⟨H7, w7, m7, e7⟩ := am6.m.putSeen (x := y / 2) y3 false
        have hq1 : (q : Int) + 1 = ((q + 1 : Nat) : Int) := by omega
        have htk : (neg x0 :: a.r).take (q + 1) = (neg x0 :: a.r).take q ++ [y] := by rw [List.take_add_one, hy]; rfl
        have am7 := am6.step (sv := fun v => if v ∈ ((neg x0 :: a.r).take (q + 1)).map (· / 2) then false else a.seen v) m7 e7 ⟨_, m6, os6, pl6, ac6, rfl, hpl6⟩ (fun v hv => by
          have hsl : sn6.length = n + 1 := am6.m.ns
          have hold := am6.seen v hv
          show bt (sn6.set (y / 2) false) v = if v ∈ ((neg x0 :: a.r).take (q + 1)).map (· / 2) then false else a.seen v
          have hold' : bt sn6 v = if v ∈ ((neg x0 :: a.r).take q).map (· / 2) then false else a.seen v := hold
          rw [htk]
          by_cases e : v = y / 2
          · subst e; rw [bt_set_eq (by rw [hsl]; exact y3), if_pos (by simp)]
          · rw [bt_set_ne (Ne.symm e), hold']
            have : v ∈ ((neg x0 :: a.r).take q ++ [y]).map (· / 2) ↔ v ∈ ((neg x0 :: a.r).take q).map (· / 2) := by
              rw [List.map_append, List.mem_append]; simp [e]
            simp only [this])
        simp (disch := omega) only [go_sem, ↓cw_block, dsB_of, s2, s8, s95, s96, s97, sd, ky, c0, c12, hh, w7]
        refine fin ⟨a.r.length + 1 - (q + 1), by omega, q + 1, _, rfl, by omega, by simp (disch := omega) only [go_sem, ↓cw_block, dsB_of, s2, s8, s95, s96, s97, sd, hq1], am7, ?_⟩
        exact e7.vec vm6 (fun b hb => am6.z b (by have h1 := omv b hb; have h2 := am.e.sm.size; omega))
end
end Go.Proofs.YtofooamimiijlaaGreat

namespace Go.Proofs
open Go.Shelf
def Tryz.sortL_ren : Go.Shelf.Ren := ⟨fun | 6 => 54 | 15 => 69 | 14 => 68 | 28 => 93 | 29 => 94 | 20 => 85 | 21 => 86 | 22 => 87 | 23 => 88 | 24 => 89 | 25 => 90 | 26 => 91 | 27 => 92 | 46 => 107 | 47 => 108 | 48 => 109 | 49 => 110 | 50 => 111 | 57 => 116 | n => n, fun | 22 => 26 | 24 => 3 | 25 => 23 | 3 => 3 | 39 => 102 | 0 => 0 | 53 => 126 | 55 => 128 | 4 => 4 | 46 => 120 | 45 => 119 | 50 => 83 | 5 => 5 | 9 => 9 | 66 => 133 | 70 => 137 | 76 => 142 | 77 => 143 | n => n, fun | n => n⟩
theorem Tryz.sortL : Go.Proofs.SlLaysF.n6 Tryz.prog Tryz.sortL_ren := {
  mixed := by kernel_rfl
  f6 := ⟨Tryz.f54.name, by decide, Tryz.func54.trans (congrArg some (by kernel_rfl))⟩
  f14 := ⟨Tryz.f68.name, by decide, Tryz.func68.trans (congrArg some (by kernel_rfl))⟩
  f15 := Tryz.func69.trans (congrArg some (by kernel_rfl))
  f20 := ⟨Tryz.f85.name, by decide, Tryz.func85.trans (congrArg some (by kernel_rfl))⟩
  f21 := ⟨Tryz.f86.name, by decide, Tryz.func86.trans (congrArg some (by kernel_rfl))⟩
  f22 := ⟨Tryz.f87.name, by decide, Tryz.func87.trans (congrArg some (by kernel_rfl))⟩
  f23 := ⟨Tryz.f88.name, by decide, Tryz.func88.trans (congrArg some (by kernel_rfl))⟩
  f24 := ⟨Tryz.f89.name, by decide, Tryz.func89.trans (congrArg some (by kernel_rfl))⟩
  f25 := ⟨Tryz.f90.name, by decide, Tryz.func90.trans (congrArg some (by kernel_rfl))⟩
  f26 := ⟨Tryz.f91.name, by decide, Tryz.func91.trans (congrArg some (by kernel_rfl))⟩
  f27 := ⟨Tryz.f92.name, by decide, Tryz.func92.trans (congrArg some (by kernel_rfl))⟩
  f28 := Tryz.func93.trans (congrArg some (by kernel_rfl))
  f29 := Tryz.func94.trans (congrArg some (by kernel_rfl))
  f46 := ⟨Tryz.f107.name, by decide, Tryz.func107.trans (congrArg some (by kernel_rfl))⟩
  f47 := Tryz.func108.trans (congrArg some (by kernel_rfl))
  f48 := Tryz.func109.trans (congrArg some (by kernel_rfl))
  f49 := ⟨Tryz.f110.name, by decide, Tryz.func110.trans (congrArg some (by kernel_rfl))⟩
  f50 := ⟨Tryz.f111.name, by decide, Tryz.func111.trans (congrArg some (by kernel_rfl))⟩
  f57 := ⟨Tryz.f116.name, by decide, Tryz.func116.trans (congrArg some (by kernel_rfl))⟩
  t0 := Tryz.underlying0
  a0 := Tryz.isAgg0
  z0 := Tryz.sizeOf0
  v0 := Tryz.zeroValue0
  t3 := Tryz.underlying3
  a3 := Tryz.isAgg3
  z3 := Tryz.sizeOf3
  v3 := Tryz.zeroValue3
  t4 := Tryz.underlying4
  a4 := Tryz.isAgg4
  z4 := Tryz.sizeOf4
  v4 := Tryz.zeroValue4
  t5 := Tryz.underlying5
  a5 := Tryz.isAgg5
  z5 := Tryz.sizeOf5
  v5 := Tryz.zeroValue5
  t9 := Tryz.underlying9
  a9 := Tryz.isAgg9
  z9 := Tryz.sizeOf9
  v9 := Tryz.zeroValue9
  t22 := Tryz.underlying26
  a22 := Tryz.isAgg26
  z22 := Tryz.sizeOf26
  v22 := Tryz.zeroValue26
  a24 := Tryz.isAgg3
  z24 := Tryz.sizeOf3
  t25 := Tryz.underlying23
  a25 := Tryz.isAgg23
  z25 := Tryz.sizeOf23
  v25 := Tryz.zeroValue23
  t39 := Tryz.underlying102
  a39 := Tryz.isAgg102
  z39 := Tryz.sizeOf102
  v39 := Tryz.zeroValue102
  t45 := Tryz.underlying119
  a45 := Tryz.isAgg119
  z45 := Tryz.sizeOf119
  v45 := Tryz.zeroValue119
  t46 := Tryz.underlying120
  a46 := Tryz.isAgg120
  z46 := Tryz.sizeOf120
  v46 := Tryz.zeroValue120
  t50 := Tryz.underlying83
  a50 := Tryz.isAgg83
  z50 := Tryz.sizeOf83
  v50 := Tryz.zeroValue83
  t53 := Tryz.underlying126
  a53 := Tryz.isAgg126
  z53 := Tryz.sizeOf126
  v53 := Tryz.zeroValue126
  t55 := Tryz.underlying128
  a55 := Tryz.isAgg128
  z55 := Tryz.sizeOf128
  v55 := Tryz.zeroValue128
  t66 := Tryz.underlying133
  a66 := Tryz.isAgg133
  z66 := Tryz.sizeOf133
  v66 := Tryz.zeroValue133
  t70 := Tryz.underlying137
  a70 := Tryz.isAgg137
  z70 := Tryz.sizeOf137
  v70 := Tryz.zeroValue137
  t76 := Tryz.underlying142
  a76 := Tryz.isAgg142
  z76 := Tryz.sizeOf142
  v76 := Tryz.zeroValue142
  t77 := Tryz.underlying143
  a77 := Tryz.isAgg143
  z77 := Tryz.sizeOf143
  v77 := Tryz.zeroValue143 }
def Tryz.cmpL_ren : Go.Shelf.Ren := ⟨fun | 5 => 56 | 7 => 70 | n => n, fun | 22 => 3 | 3 => 3 | 4 => 4 | n => n, fun | n => n⟩
theorem Tryz.cmpL : Go.Proofs.SlLaysC2.n5 Tryz.prog Tryz.cmpL_ren := {
  mixed := by kernel_rfl
  f5 := ⟨Tryz.f56.name, by decide, Tryz.func56.trans (congrArg some (by kernel_rfl))⟩
  f7 := ⟨Tryz.f70.name, by decide, Tryz.func70.trans (congrArg some (by kernel_rfl))⟩
  t3 := Tryz.underlying3
  a3 := Tryz.isAgg3
  z3 := Tryz.sizeOf3
  v3 := Tryz.zeroValue3
  t4 := Tryz.underlying4
  a4 := Tryz.isAgg4
  z4 := Tryz.sizeOf4
  v4 := Tryz.zeroValue4
  t22 := Tryz.underlying3
  a22 := Tryz.isAgg3
  z22 := Tryz.sizeOf3
  v22 := Tryz.zeroValue3 }
end Go.Proofs

namespace Go.Sat
set_option linter.unusedVariables false
/-- The order of a clause's literals: by variable, the positive one first. -/
def ltN (a b : Int) : Prop := a.natAbs < b.natAbs ∨ a.natAbs = b.natAbs ∧ b < a
def leN (a b : Int) : Prop := ltN a b ∨ a = b
theorem leN_ne {a b : Int} (h : leN a b) (hn : b ≠ a) : ltN a b := h.resolve_right (fun e => hn e.symm)
theorem ltN_trans {a b c : Int} (h : ltN a b) (h' : ltN b c) : ltN a c := by unfold ltN at *; omega
theorem ltN_irr {a : Int} : ¬ ltN a a := by unfold ltN; omega
theorem ltN_asym {a b : Int} (h : ltN a b) : ¬ ltN b a := by unfold ltN at *; omega
/-- A literal and its negation lie side by side. -/
theorem side {l : List Int} (hs : l.Pairwise ltN) {x : Int} (h1 : x ∈ l) (h2 : -x ∈ l) (h0 : x ≠ 0) : ∃ i : Nat, ∃ y, l[i]? = some y ∧ l[i + 1]? = some (-y) := by
  have key : ∀ (x : Int), 0 < x → x ∈ l → -x ∈ l → ∃ i : Nat, ∃ y, l[i]? = some y ∧ l[i + 1]? = some (-y) := by
    intro x hx h1 h2
    obtain ⟨i, hi⟩ := List.getElem?_of_mem h1
    obtain ⟨j, hj⟩ := List.getElem?_of_mem h2
    obtain ⟨hil, ei⟩ := List.getElem?_eq_some_iff.1 hi
    obtain ⟨hjl, ej⟩ := List.getElem?_eq_some_iff.1 hj
    have hp := List.pairwise_iff_getElem.1 hs
    have hij : i < j := by
      rcases Nat.lt_trichotomy i j with h | h | h
      · exact h
      · subst h; rw [ei] at ej; omega
      · have := hp j i hjl hil h
        rw [ei, ej] at this
        unfold ltN at this; omega
    refine ⟨i, x, hi, ?_⟩
    by_cases e : j = i + 1
    · subst e; exact hj
    · exfalso
      have a1 := hp i (i + 1) hil (by omega) (by omega)
      have a2 := hp (i + 1) j (by omega) hjl (by omega)
      rw [ei] at a1
      rw [ej] at a2
      unfold ltN at a1 a2
      omega
  rcases Int.lt_or_gt_of_ne h0 with h | h
  · exact key (-x) (by omega) h2 (by rw [Int.neg_neg]; exact h1)
  · exact key x h h1 h2
theorem strict_nodup {l : List Int} (hs : l.Pairwise ltN) : l.Nodup := hs.imp fun h e => by subst e; exact ltN_irr h
/-- Two lists in strict order with the same members are one. -/
theorem strict_eq : ∀ {l m : List Int}, l.Pairwise ltN → m.Pairwise ltN → (∀ x, x ∈ l ↔ x ∈ m) → l = m
  | [], [], _, _, _ => rfl
  | [], b :: m, _, _, h => by have := (h b).2 (by simp); simp at this
  | a :: l, [], _, _, h => by have := (h a).1 (by simp); simp at this
  | a :: l, b :: m, hl, hm, h => by
    have hl' := List.pairwise_cons.1 hl
    have hm' := List.pairwise_cons.1 hm
    have e : a = b := by
      have h1 := (h a).1 (by simp)
      have h2 := (h b).2 (by simp)
      rcases List.mem_cons.1 h1 with e | h1
      · exact e
      · rcases List.mem_cons.1 h2 with e | h2
        · exact e.symm
        · exact absurd (hm'.1 a h1) (ltN_asym (hl'.1 b h2))
    subst e
    have : l = m := strict_eq hl'.2 hm'.2 fun x => by
      constructor
      · intro hx
        have := (h x).1 (by simp [hx])
        rcases List.mem_cons.1 this with e | h1
        · subst e; exact absurd (hl'.1 x hx) ltN_irr
        · exact h1
      · intro hx
        have := (h x).2 (by simp [hx])
        rcases List.mem_cons.1 this with e | h1
        · subst e; exact absurd (hm'.1 x hx) ltN_irr
        · exact h1
    rw [this]
/-- What has been kept of the first q of a sorted list. -/
structure Cpt (xs zs : List Int) (q : Nat) : Prop where
  le : zs.length ≤ q
  str : zs.Pairwise ltN
  mem : ∀ x, x ∈ zs ↔ x ∈ xs.take q
  last : zs.getLast? = xs[q - 1]?
theorem Cpt.same {xs zs : List Int} {q : Nat} {x : Int} (h : Cpt xs zs q) (h1 : 1 ≤ q) (hx : xs[q]? = some x) (hp : xs[q - 1]? = some x) : Cpt xs zs (q + 1) := by
  have ht : xs.take (q + 1) = xs.take q ++ [x] := by rw [List.take_add_one, hx]; rfl
  refine ⟨by have := h.le; omega, h.str, fun y => ?_, by rw [Nat.add_sub_cancel, hx, h.last, hp]⟩
  rw [ht, h.mem]
  simp only [List.mem_append, List.mem_singleton]
  constructor
  · exact .inl
  · rintro (h2 | rfl)
    · exact h2
    · have hl := (List.getElem?_eq_some_iff.1 hp).1
      have : (xs.take q)[q - 1]? = some y := by rw [List.getElem?_take, if_pos (by omega)]; exact hp
      exact List.mem_of_getElem? this
theorem Cpt.more {xs zs : List Int} {q : Nat} {x y : Int} (h : Cpt xs zs q) (h1 : 1 ≤ q) (hs : xs.Pairwise leN) (hx : xs[q]? = some x) (hp : xs[q - 1]? = some y) (hne : x ≠ y) : Cpt xs (zs ++ [x]) (q + 1) := by
  have ht : xs.take (q + 1) = xs.take q ++ [x] := by rw [List.take_add_one, hx]; rfl
  refine ⟨by have := h.le; simp; omega, ?_, fun z => ?_, by simp [hx]⟩
  · refine List.pairwise_append.2 ⟨h.str, by simp, fun a ha b hb => ?_⟩
    rw [List.mem_singleton] at hb
    subst hb
    have hyx : ltN y b := by
      obtain ⟨hl1, e1⟩ := List.getElem?_eq_some_iff.1 hx
      obtain ⟨hl2, e2⟩ := List.getElem?_eq_some_iff.1 hp
      have := List.pairwise_iff_getElem.1 hs (q - 1) q hl2 hl1 (by omega)
      rw [e1, e2] at this
      exact leN_ne this hne
    -- a stands at or ahead of the last one
    have hlast := h.last
    rw [hp] at hlast
    obtain ⟨zi, hz⟩ : ∃ zi, zs = zi ++ [y] := by
      rw [List.getLast?_eq_some_iff] at hlast
      exact hlast
    rw [hz] at ha
    rcases List.mem_append.1 ha with ha | ha
    · have hst := h.str
      rw [hz] at hst
      exact ltN_trans ((List.pairwise_append.1 hst).2.2 a ha y (by simp)) hyx
    · rw [List.mem_singleton] at ha; subst ha; exact hyx
  · rw [ht]; simp only [List.mem_append, h.mem]
theorem Cpt.one {xs : List Int} {x : Int} (hx : xs[0]? = some x) : Cpt xs [x] 1 := by
  have ht : xs.take 1 = [x] := by rw [List.take_add_one, hx]; simp
  refine ⟨Nat.le_refl _, by simp, fun y => by rw [ht], by simp [hx]⟩
theorem Cpt.all {xs zs : List Int} (h : Cpt xs zs xs.length) : zs.Pairwise ltN ∧ ∀ x, x ∈ zs ↔ x ∈ xs := ⟨h.str, fun x => by rw [h.mem, List.take_length]⟩
end Go.Sat

namespace Go.Proofs.YtofooamimiijlaaGreat
open Go.HL HM Go.Sat
set_option maxRecDepth 10000
set_option linter.unusedSimpArgs false
set_option linter.unusedVariables false

section
variable {H : Heap}
theorem blk_int {b t : Nat} {pre rest : List Value} {M : List Int} (hb : Blk H b t (pre ++ M.map iv ++ rest)) {j : Nat} {x : Int} (hx : M[j]? = some x) : cellH H ⟨b, pre.length + j, none⟩ = some (iv x) := by
  have hl := (List.getElem?_eq_some_iff.1 hx).1
  rw [hb.cell, List.append_assoc, List.getElem?_append_right (by omega), List.getElem?_append_left (by simp; omega), show pre.length + j - pre.length = j by omega, List.getElem?_map, hx]
  rfl
set_option maxHeartbeats 1000000 in
theorem compact_spec {b cap : Nat} {pre rest : List Value} {xs : List Int} (hb : Blk H b 3 (pre ++ xs.map iv ++ rest)) (hcap : xs.length ≤ cap) (hre : rest.length = cap - xs.length) (hs : xs.Pairwise leN) (hlen : xs.length ≤ 1000000) :
    CallF Tryz.prog 57 [.slice (some ⟨b, pre.length, none⟩) xs.length cap] H (fun v H' => Fr [b] H H' ∧ ∃ zs : List Int, v = .slice (some ⟨b, pre.length, none⟩) zs.length cap ∧ Vec H' 3 1 v (zs.map iv) ∧ zs.Pairwise ltN ∧ (∀ x, x ∈ zs ↔ x ∈ xs) ∧ zs.length ≤ xs.length) NoP := by
  have fini : ∀ (H' : Heap) (zs : List Int) (M : List Value), Blk H' b 3 (pre ++ zs.map iv ++ M) → M.length = cap - zs.length → zs.length ≤ cap → Vec H' 3 1 (.slice (some ⟨b, pre.length, none⟩) zs.length cap) (zs.map iv) :=
    fun H' zs M h1 h2 h3 => ⟨.inr ⟨b, zs.length, cap, pre, M, rfl, h1, by simp, by simpa using h2, h3⟩⟩
  refine callF_of Tryz.func57 rfl Tryz.ntmps57 Tryz.results57 (by decide) rfl ?_
  by_cases h2 : xs.length < 2
  · simp (disch := omega) only [go_sem, ↓cw_block, dsB_of]
    refine fin ⟨Fr.refl _ _, xs, rfl, fini H xs rest hb hre hcap, ?_, fun x => Iff.rfl, Nat.le_refl _⟩
    match xs, h2 with
    | [], _ => exact List.Pairwise.nil
    | [x], _ => simp
    | _ :: _ :: _, h => simp at h; omega
  · simp (disch := omega) only [go_sem, ↓cw_block, dsB_of]
    refine loop_by (fun j ρ H1 => ∃ i : Nat, j = xs.length - i ∧ 1 ≤ i ∧ i ≤ xs.length ∧ (ρ.get 0 = .slice (some ⟨b, pre.length, none⟩) xs.length cap ∧ ρ.get 3 = iv i ∧ ρ.ds = []) ∧ H1 = H ∧ Cpt xs (xs.take i) i) (k := xs.length - 1) ?_ ?_
    · obtain ⟨x, hx⟩ : ∃ x, xs[0]? = some x := ⟨_, List.getElem?_eq_getElem (by omega)⟩
      have ht : xs.take 1 = [x] := by rw [List.take_add_one, hx]; simp
      exact ⟨1, rfl, Nat.le_refl _, by omega, by simp (disch := omega) only [go_sem, ↓cw_block, dsB_of]; rfl, rfl, by rw [ht]; exact Cpt.one hx⟩
    · rintro _ ρ H1 ⟨i, rfl, h1i, hil, ⟨r0, r3, rd⟩, rfl, hc⟩
      by_cases hie : i = xs.length
      · subst hie
        rw [List.take_length] at hc
        simp (disch := omega) only [go_sem, ↓cw_block, dsB_of, r0, r3, rd, dsB_of]
        exact fin ⟨Fr.refl _ _, xs, rfl, fini _ xs rest hb hre hcap, hc.all.1, fun x => Iff.rfl, Nat.le_refl _⟩
      · obtain ⟨x, hx⟩ : ∃ x, xs[i]? = some x := ⟨_, List.getElem?_eq_getElem (by omega)⟩
        obtain ⟨y, hy⟩ : ∃ y, xs[i - 1]? = some y := ⟨_, List.getElem?_eq_getElem (by omega)⟩
        have kx := blk_int hb hx
        have ky := blk_int hb hy
        have hi1 : (i : Int) - 1 = ((i - 1 : Nat) : Int) := by omega
        have hi2 : (i : Int) + 1 = ((i + 1 : Nat) : Int) := by omega
        have ht : xs.take (i + 1) = xs.take i ++ [x] := by rw [List.take_add_one, hx]; rfl
        simp (disch := omega) only [go_sem, ↓cw_block, dsB_of, r0, r3, rd]
        refine draw0 (lk [(0, true), (1, true), (2, true), (3, true), (4, true), (5, true), (6, true), (7, true), (8, true), (9, true)] .fin) T.mixed ?_
        simp (disch := omega) only [go_sem, ↓cw_block, dsB_of, r0, r3, rd, kx, ky, hi1]
        refine cond_dec (fun hb2 => ?_) (fun hb2 => ?_)
        · subst hb2
          have hne : ¬ cap = i := by omega
          have hll : ((xs.length - i : Nat) : Int) = (xs.length : Int) - i := by omega
          simp (disch := omega) only [go_sem, ↓cw_block, dsB_of, r0, r3, rd, hne, if_false]
          refine loop_by (fun j ρ H2 => ∃ (q : Nat) (zs M : List Int), j = xs.length - q ∧ i + 1 ≤ q ∧ q ≤ xs.length ∧ (ρ.get 0 = .slice (some ⟨b, pre.length, none⟩) xs.length cap ∧ ρ.get 3 = iv zs.length ∧ ρ.get 4 = .slice (some ⟨b, pre.length + i, none⟩) (xs.length - i) (cap - i) ∧ ρ.get 5 = iv ((q - i : Nat) : Int) ∧ ρ.ds = []) ∧
            Fr [b] H1 H2 ∧ Blk H2 b 3 (pre ++ M.map iv ++ rest) ∧ M.length = xs.length ∧ zs.length < q ∧ M.take zs.length = zs ∧ (∀ j : Nat, q - 1 ≤ j → M[j]? = xs[j]?) ∧ Cpt xs zs q) (k := xs.length - i - 1) ?_ ?_
          · refine ⟨i + 1, xs.take i, xs, by omega, by omega, by omega, ?_, Fr.refl _ _, hb, rfl, by simp; omega, by simp, fun j _ => rfl, hc.same h1i hx hy⟩
            have e1 : (xs.take i).length = i := by simp; omega
            have e2 : i + 1 - i = 1 := by omega
            rw [e1, e2]
            simp (disch := omega) only [go_sem, ↓cw_block, dsB_of, r0, r3, rd]
            rfl
          · clear r0 r3 rd kx ky hx hy hc ht hi1 hi2
            rintro _ ρ H2 ⟨q, zs, M, rfl, hiq, hql, ⟨r0, r3, r4, r5, rd⟩, f2, b2, hM, hzq, hzM, hor, hc⟩
            by_cases hqe : q = xs.length
            · subst hqe
              have hz : zs.length < xs.length := hzq
              have hMs : M.map iv = zs.map iv ++ (M.drop zs.length).map iv := by rw [← List.map_append]; congr 1; conv => rhs; lhs; rw [← hzM]
                                                                                 exact (List.take_append_drop _ _).symm
              have b2' := b2
              rw [hMs, ← List.append_assoc] at b2'
              obtain ⟨H3, w3, b3, f3⟩ := wrs_blk (List.replicate (xs.length - zs.length) (iv 0)) (pre ++ zs.map iv) _ _ H2 b2' (by simp [hM])
              rw [List.length_append, List.length_map] at w3
              have hne2 : ¬ cap = zs.length := by omega
              simp (disch := omega) only [go_sem, ↓cw_block, dsB_of, r0, r3, r4, r5, rd, hne2, if_false]
              refine clr_slice T.el26.under T.el26.zero rfl rfl w3 ?_
              simp (disch := omega) only [go_sem, ↓cw_block, dsB_of, r0, r3, r4, r5, rd, dsB_of]
              refine fin ⟨f2.trans f3, zs, rfl, fini H3 zs (List.replicate (xs.length - zs.length) (iv 0) ++ rest) (by rw [← List.append_assoc]; exact b3) (by simp; omega) (by omega), hc.all.1, hc.all.2, by omega⟩
            · obtain ⟨x, hx⟩ : ∃ x, xs[q]? = some x := ⟨_, List.getElem?_eq_getElem (by omega)⟩
              obtain ⟨y, hy⟩ : ∃ y, xs[q - 1]? = some y := ⟨_, List.getElem?_eq_getElem (by omega)⟩
              have kx := blk_int b2 (by rw [hor q (by omega)]; exact hx)
              have ky := blk_int b2 (by rw [hor (q - 1) (by omega)]; exact hy)
              have e1 : pre.length + i + (q - i) = pre.length + q := by omega
              have e2 : ((q - i : Nat) : Int) - 1 = ((q - 1 - i : Nat) : Int) := by omega
              have e3 : pre.length + i + (q - 1 - i) = pre.length + (q - 1) := by omega
              have e4 : ((q - i : Nat) : Int) + 1 = ((q + 1 - i : Nat) : Int) := by omega
              simp (disch := omega) only [go_sem, ↓cw_block, dsB_of, r0, r3, r4, r5, rd]
              refine draw0 (lk [(0, true), (1, true), (2, true), (3, true), (4, true), (5, true), (6, true), (7, true), (8, true), (9, true)] .fin) T.mixed ?_
              simp (disch := omega) only [go_sem, ↓cw_block, dsB_of, r0, r3, r4, r5, rd, e1, e2, e3, kx, ky]
              refine cond_dec (fun hb3 => ?_) (fun hb3 => ?_)
              · have w3 := Blk.wr b2 (i := pre.length + zs.length) (by simp; omega) (iv x)
                have b3 := Blk.set b2 (pre.length + zs.length) (iv x)
                generalize hH3 : setH H2 ⟨b, pre.length + zs.length, none⟩ (iv x) = H3 at w3 b3
                have f3 : Fr [b] H2 H3 := by rw [← hH3]; exact Fr.set (by simp)
                have hz1 : (zs.length : Int) + 1 = ((zs ++ [x]).length : Int) := by simp
                simp (disch := omega) only [go_sem, ↓cw_block, dsB_of, r0, r3, r4, r5, rd, e1, kx, w3, hz1]
                refine fin ⟨xs.length - (q + 1), by omega, q + 1, zs ++ [x], M.set zs.length x, rfl, by omega, by omega, by simp (disch := omega) only [go_sem, ↓cw_block, dsB_of, r0, r3, r4, r5, rd, e4, hz1], f2.trans f3, ?_, by simp [hM], by simp; omega, ?_, fun j hj => ?_, hc.more (by omega) hs hx hy (by simpa using hb3)⟩
                · have : pre ++ (M.set zs.length x).map iv ++ rest = (pre ++ M.map iv ++ rest).set (pre.length + zs.length) (iv x) := by
                    rw [List.map_set, List.append_assoc, List.append_assoc, List.set_append_right _ _ (by omega), Nat.add_sub_cancel_left, List.set_append_left _ _ (by simp; omega)]
                  rw [this]; exact b3
                · rw [List.length_append, List.length_singleton, List.take_add_one, List.take_set_of_le (Nat.le_refl _), hzM, List.getElem?_set_self (by omega)]
                  rfl
                · rw [List.getElem?_set_ne (by omega)]; exact hor j (by omega)
              · have hxy : x = y := by simpa using hb3
                subst hxy
                simp (disch := omega) only [go_sem, ↓cw_block, dsB_of, r0, r3, r4, r5, rd]
                exact fin ⟨xs.length - (q + 1), by omega, q + 1, zs, M, rfl, by omega, by omega, by simp (disch := omega) only [go_sem, ↓cw_block, dsB_of, r0, r3, r4, r5, rd, e4], f2, b2, hM, by omega, hzM, fun j hj => hor j (by omega), hc.same (by omega) hx hy⟩
        · have hxy : x ≠ y := by simpa using hb2
          simp (disch := omega) only [go_sem, ↓cw_block, dsB_of, r0, r3, rd]
          exact fin ⟨xs.length - (i + 1), by omega, i + 1, rfl, by omega, by omega, by simp (disch := omega) only [go_sem, ↓cw_block, dsB_of, r0, r3, rd, hi2], rfl, by rw [ht]; exact hc.more h1i hs hx hy hxy⟩
end
end Go.Proofs.YtofooamimiijlaaGreat

namespace Go.HL
open Go.ChangeShapes Go.WideShapes Go.ChangeAt Go.RowKit

theorem hcalls_of_callF {P : Program} {f : FuncId} {fn : Func} {args : List Value} {H : Heap} {R : Value → Heap → Prop} {E : List PanicEntry → Heap → Prop} (hf : P.funcs[f]? = some fn) (hb : fn.body.isNone = false)
    (hm : (fn.name == "runtime.NumGoroutine") = false) (h : CallF P f args H R E) : HCalls P f args.toArray H R E := by
  unfold CallF callFunc at h
  rw [hwp_bind'] at h
  have h' : hwp P (match P.funcs[f]? with
    | none => stuck "call: no such function"
    | some fn =>
      if fn.name == "runtime.NumGoroutine" then pure .numGoroutine
      else if fn.body.isNone then do
        mark (.extern f)
        if let some e := Extern.findNext fn then return ← e args.toArray
        match Extern.find fn with
        | some e => pure (.value (← e args.toArray))
        | none =>
          if fn.name.endsWith ".init" && !fn.name.startsWith "(" && !fn.name.startsWith "gosem." then pure (.value (.tuple #[]))
          else unsupported (.extern fn.name)
      else pure (.enter f args.toArray)) H (fun nx H' => match nx with
    | .value v => R v H'
    | .enter f xs => HCalls P f xs H' R E
    | _ => False) (fun v H' => E [{ v, recovered := false }] H') := h
  rw [hf] at h'
  simp only [hm, hb, Bool.false_eq_true, if_false] at h'
  exact h'

section
variable {H : Type} {enc : TypeId × Value → H} {P : Program}
theorem trodAll_stays (hl : laidOutB P = true) {W W' : World} {sp : Nat → Bool} : ∀ (ts : List TypeId) (vs : List Value) (ds : List (DataW H)) (ps : List MemPlace), (∀ t ∈ ts, P.readableRec t = true ∧ t < P.types.size) →
    DataW.TrodAll enc P W 0 (fun _ => true) true ts vs ds ps → (∀ p ∈ ps, W.sameAt W' p) → (∀ p ∈ ps, sp p.block = true) → DataW.TrodAll enc P W' 0 sp true ts vs ds ps := by
  intro ts
  induction ts with
  | nil => intro vs ds ps _ h _ _; cases vs <;> cases ds <;> first | exact h | exact h.elim
  | cons t ts ih =>
    intro vs ds ps hr h hs hsp
    cases vs with
    | nil => exact h.elim
    | cons v vs =>
      cases ds with
      | nil => exact h.elim
      | cons d ds =>
        obtain ⟨p, q, h1, h2, rfl⟩ := h
        exact ⟨p, q, WideElems.Trod_stays hl (hr t (by simp)).1 (hr t (by simp)).2 h1 (fun x hx => hs x (by simp [hx])) (fun x hx => hsp x (by simp [hx])),
          ih vs ds q (fun u hu => hr u (by simp [hu])) h2 (fun x hx => hs x (by simp [hx])) (fun x hx => hsp x (by simp [hx])), rfl⟩

theorem law_post {f : Func} {s : ChangeSpec} {W W' : World} {args : Array Value} {ds gs : List (DataW H)} {before : List MemPlace} {tb : TypeId} (hl : laidOutB P = true) (hr : ∀ t ∈ f.params.toList, P.readableRec t = true ∧ t < P.types.size)
    (hres : f.resultTypes = #[tb]) (htb : P.underlying tb = some .bool) (hsv : s.vars = []) (hsr : (s.fn H (ds ++ gs)).results = [.lit (.bool true)]) (hsa : (s.fn H (ds ++ gs)).args = ds) (hsg : (s.fn H (ds ++ gs)).vars = [])
    (hW : DataW.Whole enc P f.params.toList s.vars false W args.toList ds gs before) (hb : Below W.heap.size W W') : s.post enc P f false true false false W args (.bool true) W' := by
  have hW' := hW
  obtain ⟨p, q, hA, hV, rfl, hfz, hnd⟩ := hW
  have hlt : ∀ x ∈ p, x.block < W.heap.size := fun x hx => hW'.lt x (by simp [hx])
  refine ⟨ds, gs, p ++ q, [], p, [], hW', ?_, ?_, ?_, hb.frame _, fun h => by cases h⟩
  · rw [hres, hsr]
    exact trodAll_cons_mk (shut_bool htb true) trodAll_mk0
  · rw [hsa]
    exact trodAll_stays hl _ _ _ _ hr hA (fun x hx => hb.same (hlt x hx)) (fun x hx => by simpa using hlt x hx)
  · rw [hsv, hsg]; rfl

theorem calls_of_hcalls {f : FuncId} {args : Array Value} {W : World} {R : World → Prop} (h : HCalls P f args W.heap (fun r H' => r = .bool true ∧ Fr [] W.heap H') NoP)
    (hR : ∀ W', Below W.heap.size W W' → R W') : Calls P f args W fun e W' => ∃ v, e = .returned v ∧ v = .bool true ∧ R W' := by
  refine (h W rfl).mono ?_
  rintro e W' ⟨hr, hx⟩
  cases e with
  | returned v =>
    obtain ⟨rfl, hf⟩ := hx
    exact ⟨_, rfl, rfl, hR W' ⟨hr.os, hr.tape, hr.output, hf.size, fun k hk => hf.same k hk (by simp)⟩⟩
  | panicked c => exact hx.elim
  | outgrown => exact hx.elim

/-- An argument that is a slice of integers of 64 bits: its numbers. -/
structure ArgInts (Hp : Heap) (k : IntKind) (v : Value) (zs : List Int) : Prop where
  ex : ∃ b o c, (v = .slice none 0 0 ∧ zs = []) ∨ (∃ a, v = .slice (some a) zs.length c ∧ (zs ≠ [] → a = ⟨b, o, none⟩) ∧ ∀ i, i < zs.length → cellH Hp ⟨b, o + i, none⟩ = some (.int k (nt zs i)))
  rng : ∀ n ∈ zs, (Lit.int k n).wf = true
theorem arg_ints {W : World} {r : Reach} {b0 : Nat} {t e : TypeId} {k : IntKind} {v : Value} {d : DataW H} {ps : List MemPlace} (ht : P.underlying t = some (.slice e)) (he : P.underlying e = some (.int k)) (hc : P.cellsOf e = 1)
    (hval : Value.okWide P W r b0 t v) (hd : DataW.Trod enc P W 0 (fun _ => true) true t v d ps) : ∃ zs, ArgInts W.heap k v zs := by
  obtain ⟨a0, len, cap, rfl⟩ := okWide_slice ht hval
  obtain ⟨fuel, hf⟩ := hd
  rcases open_ints ht he hc hf with ⟨hcs, _⟩ | ⟨a, len', cap', zs, hcs, _, hl, hm, hz, _, hcell, hwz⟩
  · simp [Value.cells] at hcs
    obtain ⟨rfl, rfl, rfl⟩ := hcs
    exact ⟨[], ⟨⟨0, 0, 0, .inl ⟨rfl, rfl⟩⟩, by simp⟩⟩
  · simp [Value.cells] at hcs
    obtain ⟨rfl, rfl, rfl⟩ := hcs
    simp only [if_true] at hz
    have hlen : (zs.take len).length = len := by simp; omega
    refine ⟨zs.take len, ⟨⟨a.block, a.off, cap, .inr ⟨a, by rw [hlen], ?_, ?_⟩⟩, fun n hn => hwz n (List.mem_of_mem_take hn)⟩⟩
    · intro hne
      have h0 : 0 < len := by
        rcases Nat.eq_zero_or_pos len with h | h
        · subst h; simp at hne
        · exact h
      have := hcell 0 (by omega)
      cases a with
      | mk b o s =>
        cases s with
        | none => rfl
        | some x =>
          exfalso
          simp [Addr.add, World.cell?] at this
          split at this <;> simp at this
    · intro i hi
      have hne : zs.take len ≠ [] := by intro e; rw [e] at hi; simp at hi
      rw [hlen] at hi
      have hc1 := hcell i (by omega)
      have h0 := hcell 0 (by omega)
      have ha : a = ⟨a.block, a.off, none⟩ := by
        cases a with
        | mk b o s =>
          cases s with
          | none => rfl
          | some x =>
            exfalso
            simp [Addr.add, World.cell?] at h0
            split at h0 <;> simp at h0
      rw [ha, addr_add] at hc1
      have e1 : cellH W.heap ⟨a.block, a.off + i, none⟩ = W.cell? ⟨a.block, a.off + i, none⟩ := rfl
      rw [e1, hc1]
      unfold nt
      rw [List.getD_eq_getElem?_getD, List.getD_eq_getElem?_getD, List.getElem?_take_of_lt hi]
end
theorem ArgInts.form {H : Heap} {k : IntKind} {v : Value} {zs : List Int} (h : ArgInts H k v zs) : ∃ a c, v = .slice a zs.length c := by
  obtain ⟨b, o, c, ⟨rfl, rfl⟩ | ⟨a, rfl, _⟩⟩ := h.ex
  · exact ⟨_, _, rfl⟩
  · exact ⟨_, _, rfl⟩
theorem ArgInts.some {H : Heap} {k : IntKind} {v : Value} {zs : List Int} (h : ArgInts H k v zs) (hne : 0 < zs.length) : ∃ b o c, v = .slice (some ⟨b, o, none⟩) zs.length c ∧ ∀ i, i < zs.length → cellH H ⟨b, o + i, none⟩ = some (.int k (nt zs i)) := by
  obtain ⟨b, o, c, ⟨rfl, rfl⟩ | ⟨a, rfl, ha, hc⟩⟩ := h.ex
  · simp at hne
  · have := ha (by intro e; rw [e] at hne; simp at hne)
    subst this
    exact ⟨b, o, c, rfl, hc⟩
theorem ArgInts.bnd {H : Heap} {v : Value} {zs : List Int} (h : ArgInts H .i64 v zs) {i : Nat} (hi : i < zs.length) : -9223372036854775808 ≤ nt zs i ∧ nt zs i ≤ 9223372036854775807 := by
  have hm : nt zs i ∈ zs := by
    have := nt_lt hi
    exact List.mem_of_getElem? this
  have := h.rng _ hm
  simpa [Lit.wf, IntKind.min, IntKind.max, IntKind.signed, IntKind.bits] using this

theorem argCells {H : Heap} {k : IntKind} {v : Value} {zs : List Int} (h : ArgInts H k v zs) : ∃ a c, v = .slice a zs.length c ∧ ∀ i, i < zs.length → ∃ b o, a = some ⟨b, o, none⟩ ∧ cellH H ⟨b, o + i, none⟩ = some (.int k (nt zs i)) := by
  by_cases hz : 0 < zs.length
  · obtain ⟨b, o, c, rfl, hc⟩ := h.some hz
    exact ⟨_, _, rfl, fun i hi => ⟨b, o, rfl, hc i hi⟩⟩
  · obtain ⟨a, c, rfl⟩ := h.form
    exact ⟨a, c, rfl, fun i hi => by omega⟩
end Go.HL

