/- The reference's normal form: the walk. -/
import Derived.Test.YthghkhpclemmlaaGreatL18
namespace Go.Proofs.YthghkhpclemmlaaGreat
open Go.HL HM Go.Sat
set_option maxRecDepth 10000
set_option linter.unusedSimpArgs false
set_option linter.unusedVariables false

section
variable {H : Heap}
set_option maxHeartbeats 4000000 in
theorem rNorm_spec {a : Option Addr} {xs : List Int} {c : Nat} (hx : Rn H a xs) (hall : xs.all litB = true) (hlen : xs.length ≤ 100000) : CallF Tryz.prog 28 [.slice a xs.length c] H (fun v H' => Fr [] H H' ∧ ∃ (w : Value) (zs : List Int) (idle : Bool), v = .tuple #[w, .bool idle] ∧ Vec H' 3 1 w (zs.map iv) ∧ (∀ b ∈ own w, H.size ≤ b) ∧ zs.Pairwise ltN ∧ (∀ x, x ∈ zs ↔ x ∈ xs) ∧ (idle = true ↔ ∃ x ∈ zs, -x ∈ zs)) NoP := by
  have hb := List.all_eq_true.1 hall
  refine callF_of Tryz.func28 rfl Tryz.ntmps28 Tryz.results28 (by decide) rfl ?_
  simp (disch := omega) only [go_sem, ↓cw_block, dsB_of]
  refine call_to (rRight_spec hx (by omega)) ?_
  rintro v H1 ⟨rfl, e⟩
  subst H1
  rw [hall]
  simp (disch := omega) only [go_sem, ↓cw_block, dsB_of]
  refine loop_by (fun j ρ H1 => ∃ (last : Nat) (wv : Value) (zs : List Int) (idle : Bool), j = 100001 - last ∧ last ≤ 100000 ∧ (ρ.get 0 = .slice a xs.length c ∧ ρ.get 4 = wv ∧ ρ.get 5 = .bool idle ∧ ρ.get 6 = iv last ∧ ρ.ds = []) ∧ Fr [] H H1 ∧ Vec H1 3 1 wv (zs.map iv) ∧ (∀ b ∈ own wv, H.size ≤ b) ∧ NR xs last zs idle) (k := 100001) ?_ ?_
  · exact ⟨0, .slice none 0 0, [], false, rfl, by omega, by simp (disch := omega) only [go_sem, ↓cw_block, dsB_of], Fr.refl _ _, Vec.nil, by simp [own], NR.zero fun x hx => litB_ne (hb x hx)⟩
  · rintro _ ρ H1 ⟨last, wv, zs, idle, rfl, hl, ⟨r0, r4, r5, r6, rd⟩, f1, v1, o1, nr⟩
    have hx1 := hx.frame f1 (by simp)
    simp only [↓cw_block]
    simp (disch := omega) only [go_sem, dsB_of, r0, r4, r5, r6, rd]
    refine cut_at (fun ρ H2 => ∃ v : Nat, (ρ.get 0 = .slice a xs.length c ∧ ρ.get 4 = wv ∧ ρ.get 5 = .bool idle ∧ ρ.get 6 = iv last ∧ ρ.get 7 = iv v ∧ ρ.ds = []) ∧ H2 = H1 ∧ LV xs last v) ?_ ?_
    · simp (disch := omega) only [go_sem, ↓cw_block, dsB_of, r0, r4, r5, r6, rd]
      refine loop_by (fun j ρ H2 => ∃ (i v : Nat), j = xs.length - i ∧ i ≤ xs.length ∧ (ρ.get 0 = .slice a xs.length c ∧ ρ.get 4 = wv ∧ ρ.get 5 = .bool idle ∧ ρ.get 6 = iv last ∧ ρ.get 7 = iv v ∧ ρ.get 8 = iv i ∧ ρ.ds = []) ∧ H2 = H1 ∧ LV (xs.take i) last v ∧ v ≤ 100000) (k := xs.length) ?_ ?_
      · exact ⟨0, 0, rfl, by omega, by simp (disch := omega) only [go_sem, ↓cw_block, dsB_of, r0, r4, r5, r6, rd], rfl, LV.nil, by omega⟩
      · rintro _ ρ H2 ⟨i, v, rfl, hi, ⟨r0, r4, r5, r6, r7, r8, rd⟩, e, lv, hv⟩
        subst H2
        by_cases hie : i = xs.length
        · subst hie
          rw [List.take_length] at lv
          simp (disch := omega) only [go_sem, ↓cw_block, dsB_of, r0, r4, r5, r6, r7, r8, rd]
          exact fin ⟨v, by simp (disch := omega) only [go_sem, ↓cw_block, dsB_of, r0, r4, r5, r6, r7, rd], rfl, lv⟩
        · obtain ⟨x, hxi⟩ : ∃ x, xs[i]? = some x := ⟨_, List.getElem?_eq_getElem (by omega)⟩
          obtain ⟨b', o', e, kx⟩ := hx1 i x hxi
          subst e
          have hxb := litB_le (hb x (List.mem_of_getElem? hxi))
          have hi1 : (i : Int) + 1 = ((i + 1 : Nat) : Int) := by omega
          have htk : xs.take (i + 1) = xs.take i ++ [x] := by rw [List.take_add_one, hxi]; rfl
          simp (disch := omega) only [go_sem, ↓cw_block, dsB_of, r0, r4, r5, r6, r7, r8, rd, kx]
          refine call_to (rAbs_spec hxb) ?_
          rintro u H3 ⟨rfl, e⟩
          subst H3
          by_cases h1 : last < x.natAbs
          · by_cases h2 : v = 0
            · subst h2
              have r7' : ρ.get 7 = iv 0 := r7
              simp (disch := omega) only [go_sem, ↓cw_block, dsB_of, r0, r4, r5, r6, r7', r8, rd]
              exact fin ⟨xs.length - (i + 1), by omega, i + 1, x.natAbs, rfl, by omega, by simp (disch := omega) only [go_sem, ↓cw_block, dsB_of, r0, r4, r5, r6, r8, rd, hi1], rfl, by rw [htk]; exact lv.new h1 (.inl rfl), by omega⟩
            · by_cases h3 : x.natAbs < v
              · simp (disch := omega) only [go_sem, ↓cw_block, dsB_of, r0, r4, r5, r6, r7, r8, rd]
                exact fin ⟨xs.length - (i + 1), by omega, i + 1, x.natAbs, rfl, by omega, by simp (disch := omega) only [go_sem, ↓cw_block, dsB_of, r0, r4, r5, r6, r8, rd, hi1], rfl, by rw [htk]; exact lv.new h1 (.inr h3), by omega⟩
              · simp (disch := omega) only [go_sem, ↓cw_block, dsB_of, r0, r4, r5, r6, r7, r8, rd]
                exact fin ⟨xs.length - (i + 1), by omega, i + 1, v, rfl, by omega, by simp (disch := omega) only [go_sem, ↓cw_block, dsB_of, r0, r4, r5, r6, r7, r8, rd, hi1], rfl, by rw [htk]; exact lv.keep h2 (by omega), hv⟩
          · simp (disch := omega) only [go_sem, ↓cw_block, dsB_of, r0, r4, r5, r6, r7, r8, rd]
            exact fin ⟨xs.length - (i + 1), by omega, i + 1, v, rfl, by omega, by simp (disch := omega) only [go_sem, ↓cw_block, dsB_of, r0, r4, r5, r6, r7, r8, rd, hi1], rfl, by rw [htk]; exact lv.low (by omega), hv⟩
    · rintro ρ H2 ⟨v, ⟨r0, r4, r5, r6, r7, rd⟩, e, lv⟩
      subst H2
      by_cases hv0 : v = 0
      · subst hv0
        have r7' : ρ.get 7 = iv 0 := r7
        simp (disch := omega) only [go_sem, ↓cw_block, dsB_of, r0, r4, r5, r6, r7', rd, dsB_of]
        have hle : ∀ x ∈ xs, x.natAbs ≤ last := by
          rcases lv with ⟨_, h⟩ | ⟨h, _⟩
          · exact h
          · omega
        exact fin ⟨f1, wv, zs, idle, rfl, v1, o1, nr.str, fun x => by rw [nr.mem]; exact ⟨fun h => h.1, fun h => ⟨h, hle x h⟩⟩, nr.idle⟩
      · have hvl := lv.resolve_left fun e => hv0 e.1
        have hstep := nr.step lv hv0
        simp (disch := omega) only [go_sem, ↓cw_block, dsB_of, r0, r4, r5, r6, r7, rd]
        refine call_to (rIn_spec hx1 (by omega)) ?_
        rintro u H3 ⟨rfl, e⟩
        subst H3
        simp (disch := omega) only [go_sem, ↓cw_block, dsB_of, r0, r4, r5, r6, r7, rd]
        have hzl := nr.len
        have hvb : v ≤ 100000 := by
          obtain ⟨_, ⟨y, hy, hyv⟩, _⟩ := hvl
          have := litB_le (hb y hy); omega
        refine cond_at (fun ρ H3 => ∃ w3 : Value, (ρ.get 0 = .slice a xs.length c ∧ ρ.get 4 = w3 ∧ ρ.get 5 = .bool idle ∧ ρ.get 7 = iv v ∧ ρ.ds = []) ∧ Fr [] H H3 ∧ Vec H3 3 1 w3 ((zs ++ (if (v : Int) ∈ xs then [(v : Int)] else [])).map iv) ∧ ∀ b ∈ own w3, H.size ≤ b) ?_ ?_
        · by_cases p1 : (v : Int) ∈ xs
          · rw [decide_eq_true p1]
            simp (disch := omega) only [go_sem, ↓cw_block, dsB_of, r0, r4, r5, r6, r7, rd, b26z]
            refine app_lit1 T.el30 rfl v1 rfl (by simp; omega) ?_
            intro v' H4 g1 g2 g3 g4
            simp (disch := omega) only [go_sem, ↓cw_block, dsB_of, r0, r4, r5, r6, r7, rd]
            refine fin ⟨v', by simp (disch := omega) only [go_sem, ↓cw_block, dsB_of, r0, r4, r5, r6, r7, rd], ⟨Nat.le_trans f1.size g2.size, fun q hq _ => ?_⟩, by rw [if_pos p1]; simpa using g1, fun q hq => ?_⟩
            · rw [g2.same q (by have := f1.size; omega) (fun e => by have := o1 q e; omega), f1.same q hq (by simp)]
            · rcases g3 q hq with h | h
              · exact o1 q h
              · have := f1.size; omega
          · rw [decide_eq_false p1]
            simp (disch := omega) only [go_sem, ↓cw_block, dsB_of, r0, r4, r5, r6, r7, rd]
            exact ⟨wv, by simp (disch := omega) only [go_sem, ↓cw_block, dsB_of, r0, r4, r5, r6, r7, rd], f1, by rw [if_neg p1]; simpa using v1, o1⟩
        · clear r0 r4 r5 r6 r7 rd
          rintro ρ H3 ⟨w3, ⟨r0, r4, r5, r7, rd⟩, f3, v3, o3⟩
          have hx3 := hx.frame f3 (by simp)
          simp (disch := omega) only [go_sem, ↓cw_block, dsB_of, r0, r4, r5, r7, rd]
          refine call_to (rIn_spec hx3 (by omega)) ?_
          rintro u H4 ⟨rfl, e⟩
          subst H4
          simp (disch := omega) only [go_sem, ↓cw_block, dsB_of, r0, r4, r5, r7, rd]
          have hz1 : (zs ++ (if (v : Int) ∈ xs then [(v : Int)] else [])).length ≤ zs.length + 1 := by split <;> simp
          refine cond_at (fun ρ H4 => ∃ w4 : Value, (ρ.get 0 = .slice a xs.length c ∧ ρ.get 4 = w4 ∧ ρ.get 5 = .bool idle ∧ ρ.get 7 = iv v ∧ ρ.ds = []) ∧ Fr [] H H4 ∧ Vec H4 3 1 w4 ((zs ++ (if (v : Int) ∈ xs then [(v : Int)] else []) ++ (if -(v : Int) ∈ xs then [-(v : Int)] else [])).map iv) ∧ ∀ b ∈ own w4, H.size ≤ b) ?_ ?_
          · by_cases p2 : -(v : Int) ∈ xs
            · rw [decide_eq_true p2]
              simp (disch := omega) only [go_sem, ↓cw_block, dsB_of, r0, r4, r5, r7, rd, b26z]
              refine app_lit1 T.el30 rfl v3 rfl (by rw [List.length_map]; omega) ?_
              intro v' H4 g1 g2 g3 g4
              simp (disch := omega) only [go_sem, ↓cw_block, dsB_of, r0, r4, r5, r7, rd]
              refine fin ⟨v', by simp (disch := omega) only [go_sem, ↓cw_block, dsB_of, r0, r4, r5, r7, rd], ⟨Nat.le_trans f3.size g2.size, fun q hq _ => ?_⟩, by rw [if_pos p2, List.map_append]; exact g1, fun q hq => ?_⟩
              · rw [g2.same q (by have := f3.size; omega) (fun e => by have := o3 q e; omega), f3.same q hq (by simp)]
              · rcases g3 q hq with h | h
                · exact o3 q h
                · have := f3.size; omega
            · rw [decide_eq_false p2]
              simp (disch := omega) only [go_sem, ↓cw_block, dsB_of, r0, r4, r5, r7, rd]
              exact ⟨w3, by simp (disch := omega) only [go_sem, ↓cw_block, dsB_of, r0, r4, r5, r7, rd], f3, by rw [if_neg p2, List.append_nil]; exact v3, o3⟩
          · clear r0 r4 r5 r7 rd
            rintro ρ H4 ⟨w4, ⟨r0, r4, r5, r7, rd⟩, f4, v4, o4⟩
            have hx4 := hx.frame f4 (by simp)
            have hlv : last < v := hvl.1
            cases idle with
            | true =>
              simp (disch := omega) only [go_sem, ↓cw_block, dsB_of, r0, r4, r5, r7, rd]
              exact fin ⟨100001 - v, by omega, v, w4, _, true, rfl, hvb, by simp (disch := omega) only [go_sem, ↓cw_block, dsB_of, r0, r4, r5, r7, rd], f4, v4, o4, by simpa using hstep⟩
            | false =>
              simp (disch := omega) only [go_sem, ↓cw_block, dsB_of, r0, r4, r5, r7, rd]
              refine call_to (rIn_spec hx4 (by omega)) ?_
              rintro u H5 ⟨rfl, e⟩
              subst H5
              by_cases p1 : (v : Int) ∈ xs
              · rw [decide_eq_true p1]
                simp (disch := omega) only [go_sem, ↓cw_block, dsB_of, r0, r4, r5, r7, rd]
                refine call_to (rIn_spec hx4 (by omega)) ?_
                rintro u H5 ⟨rfl, e⟩
                subst H5
                simp (disch := omega) only [go_sem, ↓cw_block, dsB_of, r0, r4, r5, r7, rd]
                exact fin ⟨100001 - v, by omega, v, w4, _, decide (-(v : Int) ∈ xs), rfl, hvb, by simp (disch := omega) only [go_sem, ↓cw_block, dsB_of, r0, r4, r5, r7, rd], f4, v4, o4, by simpa [p1] using hstep⟩
              · rw [decide_eq_false p1]
                simp (disch := omega) only [go_sem, ↓cw_block, dsB_of, r0, r4, r5, r7, rd]
                exact fin ⟨100001 - v, by omega, v, w4, _, false, rfl, hvb, by simp (disch := omega) only [go_sem, ↓cw_block, dsB_of, r0, r4, r5, r7, rd], f4, v4, o4, by simpa [p1] using hstep⟩
end
end Go.Proofs.YthghkhpclemmlaaGreat

namespace Go.Proofs.YthghkhpclemmlaaGreat
open Go.HL HM Go.Sat
set_option maxRecDepth 10000
set_option linter.unusedSimpArgs false
set_option linter.unusedVariables false

section
variable {H : Heap}
theorem rSame_spec {a a' : Option Addr} {xs ys : List Int} {c c' : Nat} (hx : Rn H a xs) (hy : Rn H a' ys) (h1 : xs.all litB = true) (h2 : ys.all litB = true) (hlen : xs.length ≤ 100000) (hlen2 : ys.length ≤ 100000) :
    CallF Tryz.prog 51 [.slice a xs.length c, .slice a' ys.length c'] H (fun v H' => Fr [] H H' ∧ ∃ r : Bool, v = .bool r ∧ ((∀ x, x ∈ xs ↔ x ∈ ys) → r = true)) NoP := by
  have nl : ∀ (z xs : List Int), z.Pairwise ltN → (∀ x, x ∈ z ↔ x ∈ xs) → xs.all litB = true → z.length ≤ 1000000 := fun z xs hs hm hb => by
    have := ltN_len (n := 100000) (z := z) ⟨fun x hx => by
      have hl := List.all_eq_true.1 hb x ((hm x).1 hx)
      have := litB_le hl
      exact ⟨litB_ne hl, by omega⟩, hs⟩
    omega
  refine callF_of Tryz.func51 rfl Tryz.ntmps51 Tryz.results51 (by decide) rfl ?_
  simp (disch := omega) only [go_sem, ↓cw_block, dsB_of]
  refine call_to (rNorm_spec hx h1 hlen) ?_
  rintro v H1 ⟨f1, w1, z1, i1, rfl, v1, o1, s1, m1, -⟩
  simp (disch := omega) only [go_sem, ↓cw_block, dsB_of]
  refine call_to (rNorm_spec (hy.frame f1 (by simp)) h2 hlen2) ?_
  rintro v H2 ⟨f2, w2, z2, i2, rfl, v2, o2, s2, m2, -⟩
  obtain ⟨a1, c1, rfl, r1⟩ := (IL.of_vec (v1.frame f2 (by simp))).ex
  obtain ⟨a2, c2, rfl, r2⟩ := (IL.of_vec v2).ex
  simp (disch := omega) only [go_sem, ↓cw_block, dsB_of]
  refine call_to (rInts_spec r1 r2 ?_ ?_) ?_
  · exact nl z1 xs s1 m1 h1
  · exact nl z2 ys s2 m2 h2
  · rintro v H3 ⟨rfl, e⟩
    subst H3
    simp (disch := omega) only [go_sem, ↓cw_block, dsB_of, dsB_of]
    refine fin ⟨f1.trans f2, _, rfl, fun he => ?_⟩
    have : z1 = z2 := strict_eq s1 s2 fun x => by rw [m1, m2, he]
    simp [this]
end
end Go.Proofs.YthghkhpclemmlaaGreat

namespace Go.Proofs.YthghkhpclemmlaaGreat
open Go.HL HM Go.Sat
set_option maxRecDepth 10000
set_option linter.unusedSimpArgs false
set_option linter.unusedVariables false

section
variable {H : Heap} {N : Nat}
/-- Truths that can be read. -/
def Rb (H : Heap) (a : Option Addr) (md : List Bool) : Prop := ∀ (j : Nat) (b : Bool), md[j]? = some b → ∃ bb o, a = some ⟨bb, o, none⟩ ∧ cellH H ⟨bb, o + j, none⟩ = some (.bool b)
theorem lit_truth {m : Nat → Bool} (hm : Mdl m) {x : Int} (hx : x ≠ 0) : m (codeN x) = (m (2 * x.natAbs) == decide (0 < x)) := by
  by_cases h : x < 0
  · have e : codeN x = neg (2 * x.natAbs) := by unfold codeN neg; rw [if_pos h, if_pos (by omega)]; omega
    rw [e, hm.neg]
    have : decide (0 < x) = false := by rw [decide_eq_false_iff_not]; omega
    rw [this]; cases m (2 * x.natAbs) <;> rfl
  · have e : codeN x = 2 * x.natAbs := by unfold codeN; rw [if_neg h]; omega
    rw [e]
    have : decide (0 < x) = true := by rw [decide_eq_true_eq]; omega
    rw [this]; cases m (2 * x.natAbs) <;> rfl
theorem rHolds_spec {a ma : Option Addr} {xs : List Int} {c mc : Nat} {md : List Bool} {m : Nat → Bool} (hx : Rn H a xs) (hb : Rb H ma md) (hm : Mdl m) (hmd : md = (List.range md.length).map fun j => m (2 * j + 2)) (hl : ∀ x ∈ xs, litB x = true ∧ x.natAbs ≤ md.length) (hlen : xs.length ≤ 100000) (hml : md.length ≤ 100000) :
    CallF Tryz.prog 23 [.slice a xs.length c, .slice ma md.length mc] H (fun v H' => v = .bool (xs.any fun x => m (codeN x)) ∧ H' = H) NoP := by
  refine callF_of Tryz.func23 rfl Tryz.ntmps23 Tryz.results23 (by decide) rfl ?_
  simp (disch := omega) only [go_sem, ↓cw_block, dsB_of]
  refine loop_by (fun j ρ H1 => ∃ i : Nat, j = xs.length - i ∧ i ≤ xs.length ∧ (ρ.get 0 = .slice a xs.length c ∧ ρ.get 1 = .slice ma md.length mc ∧ ρ.get 5 = iv i ∧ ρ.ds = []) ∧ H1 = H ∧ ((xs.take i).any fun x => m (codeN x)) = false) (k := xs.length) ?_ ?_
  · exact ⟨0, rfl, by omega, by simp (disch := omega) only [go_sem, ↓cw_block, dsB_of], rfl, by simp⟩
  · rintro _ ρ H1 ⟨i, rfl, hi, ⟨r0, r1, r5, rd⟩, e, hno⟩
    subst H1
    by_cases hie : i = xs.length
    · subst hie
      rw [List.take_length] at hno
      simp (disch := omega) only [go_sem, ↓cw_block, dsB_of, r0, r1, r5, rd, dsB_of]
      exact fin ⟨by rw [hno], rfl⟩
    · obtain ⟨x, hxi⟩ : ∃ x, xs[i]? = some x := ⟨_, List.getElem?_eq_getElem (by omega)⟩
      obtain ⟨b', o', e, kx⟩ := hx i x hxi
      subst e
      obtain ⟨hxb, hxn⟩ := hl x (List.mem_of_getElem? hxi)
      have hx0 := litB_ne hxb
      have hxr := litB_le hxb
      have hj : x.natAbs - 1 < md.length := by omega
      have hmj : md[x.natAbs - 1]? = some (m (2 * x.natAbs)) := by
        rw [hmd]
        simp only [List.getElem?_map, List.getElem?_range hj, Option.map_some]
        rw [show 2 * (x.natAbs - 1) + 2 = 2 * x.natAbs by omega]
      obtain ⟨bb, bo, e, kb⟩ := hb _ _ hmj
      subst e
      have hj1 : (x.natAbs : Int) - 1 = ((x.natAbs - 1 : Nat) : Int) := by omega
      have hi1 : (i : Int) + 1 = ((i + 1 : Nat) : Int) := by omega
      have htk : xs.take (i + 1) = xs.take i ++ [x] := by rw [List.take_add_one, hxi]; rfl
      have hlt := lit_truth hm hx0
      simp (disch := omega) only [go_sem, ↓cw_block, dsB_of, r0, r1, r5, rd, kx]
      refine call_to rLiteral_spec ?_
      rintro v H2 ⟨rfl, e⟩
      subst H2
      rw [hxb]
      simp (disch := omega) only [go_sem, ↓cw_block, dsB_of, r0, r1, r5, rd, kx]
      refine call_to (rAbs_spec hxr) ?_
      rintro v H2 ⟨rfl, e⟩
      subst H2
      simp (disch := omega) only [go_sem, ↓cw_block, dsB_of, r0, r1, r5, rd, kx, hj1, kb]
      rw [← hlt]
      cases hv : m (codeN x) with
      | true =>
        simp (disch := omega) only [go_sem, ↓cw_block, dsB_of, r5, rd, dsB_of]
        refine fin ⟨?_, rfl⟩
        have : (xs.any fun x => m (codeN x)) = true := List.any_eq_true.2 ⟨x, List.mem_of_getElem? hxi, hv⟩
        rw [this]
      | false =>
        simp (disch := omega) only [go_sem, ↓cw_block, dsB_of, r5, rd]
        exact fin ⟨xs.length - (i + 1), by omega, i + 1, rfl, by omega, by simp (disch := omega) only [go_sem, ↓cw_block, dsB_of, r0, r1, r5, rd, hi1], rfl, by rw [htk, List.any_append, hno]; simp [hv]⟩
theorem rAll_spec {a ma : Option Addr} {css : List (List Int)} {c mc : Nat} {md : List Bool} {m : Nat → Bool} (hx : RL N H a css) (hb : Rb H ma md) (hm : Mdl m) (hmd : md = (List.range md.length).map fun j => m (2 * j + 2)) (hl : ∀ r ∈ css, r.length ≤ 100000 ∧ ∀ x ∈ r, litB x = true ∧ x.natAbs ≤ md.length) (hlen : css.length ≤ 100000) (hml : md.length ≤ 100000) (hs : Sats m css) :
    CallF Tryz.prog 8 [.slice a css.length c, .slice ma md.length mc] H (fun v H' => v = .bool true ∧ H' = H) NoP := by
  refine callF_of Tryz.func8 rfl Tryz.ntmps8 Tryz.results8 (by decide) rfl ?_
  simp (disch := omega) only [go_sem, ↓cw_block, dsB_of]
  refine loop_by (fun j ρ H1 => ∃ i : Nat, j = css.length - i ∧ i ≤ css.length ∧ (ρ.get 0 = .slice a css.length c ∧ ρ.get 1 = .slice ma md.length mc ∧ ρ.get 5 = iv i ∧ ρ.ds = []) ∧ H1 = H) (k := css.length) ?_ ?_
  · exact ⟨0, rfl, by omega, by simp (disch := omega) only [go_sem, ↓cw_block, dsB_of], rfl⟩
  · rintro _ ρ H1 ⟨i, rfl, hi, ⟨r0, r1, r5, rd⟩, e⟩
    subst H1
    by_cases hie : i = css.length
    · subst hie
      simp (disch := omega) only [go_sem, ↓cw_block, dsB_of, r0, r1, r5, rd, dsB_of]
      exact fin ⟨rfl, rfl⟩
    · obtain ⟨x, hxi⟩ : ∃ x, css[i]? = some x := ⟨_, List.getElem?_eq_getElem (by omega)⟩
      obtain ⟨b', o', ra, rc, e, -, kx, hr, -⟩ := hx.ex i x hxi
      subst e
      have hxm := List.mem_of_getElem? hxi
      have hi1 : (i : Int) + 1 = ((i + 1 : Nat) : Int) := by omega
      simp (disch := omega) only [go_sem, ↓cw_block, dsB_of, r0, r1, r5, rd, kx]
      refine call_to (rHolds_spec hr hb hm hmd (hl x hxm).2 (hl x hxm).1 hml) ?_
      rintro v H2 ⟨rfl, e⟩
      subst H2
      have : (x.any fun y => m (codeN y)) = true := by
        obtain ⟨y, hy, hmy⟩ := hs x hxm
        exact List.any_eq_true.2 ⟨y, hy, hmy⟩
      rw [this]
      simp (disch := omega) only [go_sem, ↓cw_block, dsB_of, r0, r1, r5, rd]
      exact fin ⟨css.length - (i + 1), by omega, i + 1, rfl, by omega, by simp (disch := omega) only [go_sem, ↓cw_block, dsB_of, r0, r1, r5, rd, hi1], rfl⟩
end
end Go.Proofs.YthghkhpclemmlaaGreat

namespace Go.Proofs.YthghkhpclemmlaaGreat
open Go.HL HM Go.Sat
set_option maxRecDepth 10000
set_option linter.unusedSimpArgs false
set_option linter.unusedVariables false

/-- A literal that is open. -/
def Opn (so : List Int) (x : Int) : Prop := x ∉ so ∧ -x ∉ so
/-- How many open literals a clause has had so far, and the last one. -/
def OI (so cs : List Int) (o : Nat) (last : Int) : Prop :=
  (o = 0 ∧ ∀ l ∈ cs, ¬ Opn so l) ∨ (o = 1 ∧ last ∈ cs ∧ Opn so last ∧ ∀ l ∈ cs, Opn so l → l = last) ∨ (2 ≤ o ∧ ∃ l1 ∈ cs, ∃ l2 ∈ cs, l1 ≠ l2 ∧ Opn so l1 ∧ Opn so l2)
theorem OI.nil {so : List Int} {last : Int} : OI so [] 0 last := .inl ⟨rfl, by simp⟩
theorem OI.skip {so cs : List Int} {o : Nat} {last x : Int} (h : OI so cs o last) (hx : ¬ Opn so x ∨ x ∈ cs) : OI so (cs ++ [x]) o last := by
  rcases h with ⟨h1, h2⟩ | ⟨h1, h2, h3, h4⟩ | ⟨h1, l1, g1, l2, g2, g3⟩
  · refine .inl ⟨h1, fun l hl => ?_⟩
    rcases List.mem_append.1 hl with hl | hl
    · exact h2 l hl
    · rw [List.mem_singleton.1 hl]
      exact hx.elim id (h2 x)
  · refine .inr (.inl ⟨h1, by simp [h2], h3, fun l hl ho => ?_⟩)
    rcases List.mem_append.1 hl with hl | hl
    · exact h4 l hl ho
    · have e := List.mem_singleton.1 hl
      subst e
      exact hx.elim (fun e => absurd ho e) (fun e => h4 l e ho)
  · exact .inr (.inr ⟨h1, l1, by simp [g1], l2, by simp [g2], g3⟩)
theorem OI.more {so cs : List Int} {o : Nat} {last x : Int} (h : OI so cs o last) (hx : Opn so x) (hn : x ∉ cs) : OI so (cs ++ [x]) (o + 1) x := by
  rcases h with ⟨h1, h2⟩ | ⟨h1, h2, h3, h4⟩ | ⟨h1, l1, g1, l2, g2, g3⟩
  · subst h1
    refine .inr (.inl ⟨rfl, by simp, hx, fun l hl ho => ?_⟩)
    rcases List.mem_append.1 hl with hl | hl
    · exact absurd ho (h2 l hl)
    · exact List.mem_singleton.1 hl
  · exact .inr (.inr ⟨by omega, last, by simp [h2], x, by simp, fun e => hn (e ▸ h2), h3, hx⟩)
  · exact .inr (.inr ⟨by omega, l1, by simp [g1], l2, by simp [g2], g3⟩)
/-- Nothing follows any more, and there is no clash. -/
structure Shut (css : List (List Int)) (so : List Int) : Prop where
  no : ∀ z ∈ so, -z ∉ so
  cl : ∀ c ∈ css, (∃ l ∈ c, l ∈ so) ∨ ∃ l1 ∈ c, ∃ l2 ∈ c, l1 ≠ l2 ∧ Opn so l1 ∧ Opn so l2
/-- What is so: each once, without a clash. -/
theorem so_len {n : Nat} {so : List Int} (hn : so.Nodup) (hc : ∀ z ∈ so, -z ∉ so) (hl : ∀ z ∈ so, z ≠ 0 ∧ z.natAbs ≤ n) : so.length ≤ n := by
  have h1 : ((so.map codeN).map (· / 2)).Nodup := by
    rw [List.map_map]
    refine List.Pairwise.map _ (fun a b hab => ?_) (List.Pairwise.and_mem.1 hn)
    obtain ⟨ha, hb, hne⟩ := hab
    show codeN a / 2 ≠ codeN b / 2
    rw [codeN_var, codeN_var]
    intro e
    have : b = -a := by omega
    subst this
    exact hc a ha hb
  have := codes_len (l := so.map codeN) (n := n) (fun y hy => by
    obtain ⟨z, hz, rfl⟩ := List.mem_map.1 hy
    exact codeN_isC (hl z hz).1 (hl z hz).2) h1
  simpa using this
/-- A matrix that can be read, each row no longer than its room. -/
structure RC (N : Nat) (H : Heap) (a : Option Addr) (css : List (List Int)) : Prop where
  ex : ∀ (i : Nat) (c : List Int), css[i]? = some c → ∃ b o ra rc, a = some ⟨b, o, none⟩ ∧ b < N ∧ cellH H ⟨b, o + i, none⟩ = some (.slice ra c.length rc) ∧ Rn H ra c ∧ (c ≠ [] → ∀ b' o', ra = some ⟨b', o', none⟩ → b' < N) ∧ c.length ≤ rc
theorem RC.rl {N : Nat} {H : Heap} {a : Option Addr} {css : List (List Int)} (h : RC N H a css) : RL N H a css := ⟨fun i c hi => by
  obtain ⟨b, o, ra, rc, g1, g2, g3, g4, g5, g6⟩ := h.ex i c hi
  exact ⟨b, o, ra, rc, g1, g2, g3, g4, g5⟩⟩
theorem RC.same {H H' : Heap} {N : Nat} {a : Option Addr} {css : List (List Int)} (h : RC N H a css) (hs : ∀ b, b < N → H'[b]? = H[b]?) : RC N H' a css := ⟨fun i c hi => by
  obtain ⟨b, o, ra, rc, e, hb, hc, hr, hn, hl⟩ := h.ex i c hi
  exact ⟨b, o, ra, rc, e, hb, cell_same (hs b hb) hc, hr.same hn hs, hn, hl⟩⟩
end Go.Proofs.YthghkhpclemmlaaGreat

namespace Go.Proofs.YthghkhpclemmlaaGreat
open Go.HL HM Go.Sat
set_option maxRecDepth 10000
set_option linter.unusedSimpArgs false
set_option linter.unusedVariables false

section
set_option maxHeartbeats 8000000 in
theorem rConflict_spec {N n : Nat} {a : Option Addr} {css : List (List Int)} {c : Nat} (hn : n ≤ 1000) (hlen : css.length ≤ 100000) (hcs : ∀ r ∈ css, r.length ≤ 1000 ∧ ∀ x ∈ r, x ≠ 0 ∧ x.natAbs ≤ n) :
    ∀ (k : Nat) (H : Heap) (so : List Int) (a' : Option Addr) (c' : Nat), N ≤ H.size → RC N H a css → Rn H a' so → so.length ≤ 2000 → n ≤ so.length + k → (∀ z ∈ so, z ≠ 0 ∧ z.natAbs ≤ n) → so.Nodup →
      CallF Tryz.prog 71 [.slice a css.length c, .slice a' so.length c'] H (fun v H' => Fr [] H H' ∧ ∃ r : Bool, v = .bool r ∧ (r = false → ∃ so', (∀ z ∈ so, z ∈ so') ∧ Shut css so')) NoP := by
  intro k
  induction k using Nat.strongRecOn with
  | ind k ih =>
    intro H so a' c' hN hx hs hsl hk hz hnd
    refine callF_of Tryz.func71 rfl Tryz.ntmps71 Tryz.results71 (by decide) rfl ?_
    simp (disch := omega) only [go_sem, dsB_of]
    refine cut_at (fun ρ H1 => (ρ.get 0 = .slice a css.length c ∧ ρ.get 1 = .slice a' so.length c' ∧ ρ.ds = []) ∧ H1 = H ∧ ∀ z ∈ so, -z ∉ so) ?_ ?_
    · simp (disch := omega) only [go_sem, ↓cw_block, dsB_of]
      refine loop_by (fun j ρ H1 => ∃ i : Nat, j = so.length - i ∧ i ≤ so.length ∧ (ρ.get 0 = .slice a css.length c ∧ ρ.get 1 = .slice a' so.length c' ∧ ρ.get 5 = iv i ∧ ρ.ds = []) ∧ H1 = H ∧ ∀ z ∈ so.take i, -z ∉ so) (k := so.length) ?_ ?_
      · exact ⟨0, rfl, by omega, by simp (disch := omega) only [go_sem, ↓cw_block, dsB_of], rfl, by simp⟩
      · rintro _ ρ H1 ⟨i, rfl, hi, ⟨r0, r1, r5, rd⟩, e, hno⟩
        subst H1
        by_cases hie : i = so.length
        · subst hie
          rw [List.take_length] at hno
          simp (disch := omega) only [go_sem, ↓cw_block, dsB_of, r0, r1, r5, rd]
          exact fin ⟨by simp (disch := omega) only [go_sem, ↓cw_block, dsB_of, r0, r1, rd], rfl, hno⟩
        · obtain ⟨x, hxi⟩ : ∃ x, so[i]? = some x := ⟨_, List.getElem?_eq_getElem (by omega)⟩
          obtain ⟨b', o', e, kx⟩ := hs i x hxi
          subst e
          have hxz := hz x (List.mem_of_getElem? hxi)
          have hi1 : (i : Int) + 1 = ((i + 1 : Nat) : Int) := by omega
          have htk : so.take (i + 1) = so.take i ++ [x] := by rw [List.take_add_one, hxi]; rfl
          simp (disch := omega) only [go_sem, ↓cw_block, dsB_of, r0, r1, r5, rd, kx]
          refine call_to (rIn_spec hs (by omega)) ?_
          rintro v H2 ⟨rfl, e⟩
          subst H2
          by_cases hm : -x ∈ so
          · rw [decide_eq_true hm]
            simp (disch := omega) only [go_sem, ↓cw_block, dsB_of, r0, r1, r5, rd, dsB_of]
            exact fin ⟨Fr.refl _ _, true, rfl, fun e => nomatch e⟩
          · rw [decide_eq_false hm]
            simp (disch := omega) only [go_sem, ↓cw_block, dsB_of, r0, r1, r5, rd]
            refine fin ⟨so.length - (i + 1), by omega, i + 1, rfl, by omega, by simp (disch := omega) only [go_sem, ↓cw_block, dsB_of, r0, r1, r5, rd, hi1], rfl, fun z hzm => ?_⟩
            rw [htk] at hzm
            rcases List.mem_append.1 hzm with h | h
            · exact hno z h
            · rw [List.mem_singleton.1 h]; exact hm
    · rintro ρ H1 ⟨⟨r0, r1, rd⟩, e, hcl⟩
      subst H1
      have hsn := so_len hnd hcl hz
      simp (disch := omega) only [go_sem, ↓cw_block, dsB_of, r0, r1, rd]
      refine loop_by (fun j ρ H1 => ∃ i : Nat, j = css.length - i ∧ i ≤ css.length ∧ (ρ.get 0 = .slice a css.length c ∧ ρ.get 1 = .slice a' so.length c' ∧ ρ.get 6 = iv i ∧ ρ.ds = []) ∧ H1 = H ∧ ∀ r ∈ css.take i, (∃ l ∈ r, l ∈ so) ∨ ∃ l1 ∈ r, ∃ l2 ∈ r, l1 ≠ l2 ∧ Opn so l1 ∧ Opn so l2) (k := css.length) ?_ ?_
      · exact ⟨0, rfl, by omega, by simp (disch := omega) only [go_sem, ↓cw_block, dsB_of, r0, r1, rd], rfl, by simp⟩
      · clear r0 r1 rd
        rintro _ ρ H1 ⟨i, rfl, hi, ⟨r0, r1, r6, rd⟩, e, hsh⟩
        subst H1
        by_cases hie : i = css.length
        · subst hie
          rw [List.take_length] at hsh
          simp (disch := omega) only [go_sem, ↓cw_block, dsB_of, r0, r1, r6, rd, dsB_of]
          exact fin ⟨Fr.refl _ _, false, rfl, fun _ => ⟨so, fun z h => h, hcl, hsh⟩⟩
        · obtain ⟨r, hri⟩ : ∃ r, css[i]? = some r := ⟨_, List.getElem?_eq_getElem (by omega)⟩
          obtain ⟨b', o', ra, rc, e, -, kr, hr, -, hrcap⟩ := hx.ex i r hri
          subst e
          obtain ⟨hrl, hrz⟩ := hcs r (List.mem_of_getElem? hri)
          have hi1 : (i : Int) + 1 = ((i + 1 : Nat) : Int) := by omega
          have htk : css.take (i + 1) = css.take i ++ [r] := by rw [List.take_add_one, hri]; rfl
          simp (disch := omega) only [go_sem, dsB_of, r0, r1, r6, rd]
          simp only [↓cw_block]
          simp (disch := omega) only [go_sem, dsB_of, r0, r1, r6, rd]
          refine cut_at (fun ρ H2 => ∃ (o : Nat) (last : Int) (holds : Bool), (ρ.get 0 = .slice (some ⟨b', o', none⟩) css.length c ∧ ρ.get 1 = .slice a' so.length c' ∧ ρ.get 6 = iv i ∧ ρ.get 7 = iv o ∧ ρ.get 8 = iv last ∧ ρ.get 9 = .bool holds ∧ ρ.ds = []) ∧ H2 = H ∧ OI so r o last ∧ (holds = true ↔ ∃ l ∈ r, l ∈ so)) ?_ ?_
          · simp (disch := omega) only [go_sem, ↓cw_block, dsB_of, r0, r1, r6, rd]
            refine loop_by (fun j ρ H2 => ∃ (q o : Nat) (last : Int) (holds : Bool), j = r.length - q ∧ q ≤ r.length ∧ (ρ.get 0 = .slice (some ⟨b', o', none⟩) css.length c ∧ ρ.get 1 = .slice a' so.length c' ∧ ρ.get 6 = iv i ∧ ρ.get 7 = iv o ∧ ρ.get 8 = iv last ∧ ρ.get 9 = .bool holds ∧ ρ.get 10 = iv q ∧ ρ.ds = []) ∧ H2 = H ∧ OI so (r.take q) o last ∧ (holds = true ↔ ∃ l ∈ r.take q, l ∈ so) ∧ o ≤ q) (k := r.length) ?_ ?_
            · exact ⟨0, 0, 0, false, rfl, by omega, by simp (disch := omega) only [go_sem, ↓cw_block, dsB_of, r0, r1, r6, rd], rfl, OI.nil, by simp, by omega⟩
            · clear r0 r1 r6 rd
              rintro _ ρ H2 ⟨q, o, last, holds, rfl, hq, ⟨r0, r1, r6, r7, r8, r9, r10, rd⟩, e, oi, hh, hoq⟩
              subst H2
              by_cases hqe : q = r.length
              · subst hqe
                rw [List.take_length] at oi hh
                simp (disch := omega) only [go_sem, ↓cw_block, dsB_of, r0, r1, r6, r7, r8, r9, r10, rd, kr]
                exact fin ⟨o, last, holds, by simp (disch := omega) only [go_sem, ↓cw_block, dsB_of, r0, r1, r6, r7, r8, r9, rd], rfl, oi, hh⟩
              · obtain ⟨x, hxi⟩ : ∃ x, r[q]? = some x := ⟨_, List.getElem?_eq_getElem (by omega)⟩
                obtain ⟨xb, xo, e, kx⟩ := hr q x hxi
                subst e
                have hq1 : (q : Int) + 1 = ((q + 1 : Nat) : Int) := by omega
                have hxz := hrz x (List.mem_of_getElem? hxi)
                have htq : r.take (q + 1) = r.take q ++ [x] := by rw [List.take_add_one, hxi]; rfl
                simp (disch := omega) only [go_sem, ↓cw_block, dsB_of, r0, r1, r6, r7, r8, r9, r10, rd, kr, kx]
                refine call_to (rIn_spec hs (by omega)) ?_
                rintro v H2 ⟨rfl, e⟩
                subst H2
                by_cases p1 : x ∈ so
                · rw [decide_eq_true p1]
                  simp (disch := omega) only [go_sem, ↓cw_block, dsB_of, r0, r1, r6, r7, r8, r9, r10, rd]
                  exact fin ⟨r.length - (q + 1), by omega, q + 1, o, last, true, rfl, by omega, by simp (disch := omega) only [go_sem, ↓cw_block, dsB_of, r0, r1, r6, r7, r8, r9, r10, rd, hq1], rfl, by rw [htq]; exact oi.skip (.inl fun h => h.1 p1), by rw [htq]; simp [p1], by omega⟩
                · rw [decide_eq_false p1]
                  have hh2 : holds = true ↔ ∃ l ∈ r.take (q + 1), l ∈ so := by rw [htq, hh]; simp [p1]
                  simp (disch := omega) only [go_sem, ↓cw_block, dsB_of, r0, r1, r6, r7, r8, r9, r10, rd]
                  refine call_to (rIn_spec hs (by omega)) ?_
                  rintro v H2 ⟨rfl, e⟩
                  subst H2
                  by_cases p2 : -x ∈ so
                  · rw [decide_eq_true p2]
                    simp (disch := omega) only [go_sem, ↓cw_block, dsB_of, r0, r1, r6, r7, r8, r9, r10, rd, kr]
                    exact fin ⟨r.length - (q + 1), by omega, q + 1, o, last, holds, rfl, by omega, by simp (disch := omega) only [go_sem, ↓cw_block, dsB_of, r0, r1, r6, r7, r8, r9, r10, rd, hq1], rfl, by rw [htq]; exact oi.skip (.inl fun h => h.2 p2), hh2, by omega⟩
                  · rw [decide_eq_false p2]
                    simp (disch := omega) only [go_sem, ↓cw_block, dsB_of, r0, r1, r6, r7, r8, r9, r10, rd, kr]
                    have hql : (r.take q).length = q := by simp; omega
                    have hrt : Rn H (some ⟨xb, xo, none⟩) (r.take q) := fun w y hy => by
                      rw [List.getElem?_take] at hy
                      split at hy
                      · exact hr w y hy
                      · cases hy
                    have hin := rIn_spec (x := x) (c := rc) hrt (by omega)
                    rw [hql] at hin
                    refine call_to hin ?_
                    rintro v H2 ⟨rfl, e⟩
                    subst H2
                    have ho1 : (o : Int) + 1 = ((o + 1 : Nat) : Int) := by omega
                    by_cases p3 : x ∈ r.take q
                    · rw [decide_eq_true p3]
                      simp (disch := omega) only [go_sem, ↓cw_block, dsB_of, r0, r1, r6, r7, r8, r9, r10, rd, kr]
                      exact fin ⟨r.length - (q + 1), by omega, q + 1, o, last, holds, rfl, by omega, by simp (disch := omega) only [go_sem, ↓cw_block, dsB_of, r0, r1, r6, r7, r8, r9, r10, rd, hq1], rfl, by rw [htq]; exact oi.skip (.inr p3), hh2, by omega⟩
                    · rw [decide_eq_false p3]
                      simp (disch := omega) only [go_sem, ↓cw_block, dsB_of, r0, r1, r6, r7, r8, r9, r10, rd, kr]
                      exact fin ⟨r.length - (q + 1), by omega, q + 1, o + 1, x, holds, rfl, by omega, by simp (disch := omega) only [go_sem, ↓cw_block, dsB_of, r0, r1, r6, r7, r8, r9, r10, rd, hq1, ho1], rfl, by rw [htq]; exact oi.more ⟨p1, p2⟩ p3, hh2, by omega⟩
          · clear r0 r1 r6 rd
            rintro ρ H2 ⟨o, last, holds, ⟨r0, r1, r6, r7, r8, r9, rd⟩, e, oi, hh⟩
            subst H2
            have next : ((∃ l ∈ r, l ∈ so) ∨ ∃ l1 ∈ r, ∃ l2 ∈ r, l1 ≠ l2 ∧ Opn so l1 ∧ Opn so l2) → ∀ r' ∈ css.take (i + 1), (∃ l ∈ r', l ∈ so) ∨ ∃ l1 ∈ r', ∃ l2 ∈ r', l1 ≠ l2 ∧ Opn so l1 ∧ Opn so l2 := fun h r' hr' => by
              rw [htk] at hr'
              rcases List.mem_append.1 hr' with h1 | h1
              · exact hsh r' h1
              · rw [List.mem_singleton.1 h1]; exact h
            cases holds with
            | true =>
              simp (disch := omega) only [go_sem, ↓cw_block, dsB_of, r0, r1, r6, r7, r8, r9, rd]
              exact fin ⟨css.length - (i + 1), by omega, i + 1, rfl, by omega, by simp (disch := omega) only [go_sem, ↓cw_block, dsB_of, r0, r1, r6, rd, hi1], rfl, next (.inl (hh.1 rfl))⟩
            | false =>
              rcases oi with ⟨h1, h2⟩ | ⟨h1, h2, h3, h4⟩ | ⟨h1, h2⟩
              · subst h1
                have r7' : ρ.get 7 = iv 0 := r7
                simp (disch := omega) only [go_sem, ↓cw_block, dsB_of, r0, r1, r6, r7', r8, r9, rd, dsB_of]
                exact fin ⟨Fr.refl _ _, true, rfl, fun e => nomatch e⟩
              · subst h1
                have r7' : ρ.get 7 = iv 1 := r7
                simp (disch := omega) only [go_sem, ↓cw_block, dsB_of, r0, r1, r6, r7', r8, r9, rd]
                have f1 : Fr [] H (H.push (.cells #[] 3)) := Fr.push
                have v1 : Vec (H.push (.cells #[] 3)) 3 1 (.slice (some ⟨H.size, 0, none⟩) 0 0) [] := ⟨.inr ⟨H.size, 0, 0, [], [], rfl, Blk.new rfl, rfl, by simp, by omega⟩⟩
                refine app_vec (n := so.length) (new := so.map iv) T.el30 rfl v1 rfl (hs.frame f1 (by simp)).src Tryz.underlying30 (by simp) (fun u hu => by obtain ⟨y, -, rfl⟩ := List.mem_map.1 hu; rfl) (by simp) (by intro a l c e; simp only [Value.slice.injEq] at e; omega) ?_
                intro v' H4 g1 (g2 : Fr (own (.slice (some ⟨H.size, 0, none⟩) 0 0)) (H.push (.cells #[] 3)) H4) (g3 : ∀ b ∈ own v', b ∈ own (.slice (some ⟨H.size, 0, none⟩) 0 0) ∨ (H.push (.cells #[] 3)).size ≤ b) g4
                rw [List.nil_append] at g1
                have f4 : Fr [] H H4 := ⟨Nat.le_trans f1.size g2.size, fun q hq _ => by rw [g2.same q (by have := f1.size; omega) (by simp [own]; omega), f1.same q hq (by simp)]⟩
                have o4 : ∀ b ∈ own v', H.size ≤ b := fun b hb => by
                  rcases g3 b hb with h | h
                  · simp only [own, List.mem_singleton] at h; omega
                  · have := f1.size; omega
                simp (disch := omega) only [go_sem, ↓cw_block, dsB_of, r0, r1, r6, r7', r8, r9, rd, b26z]
                refine app_lit1 T.el30 rfl g1 rfl (by simp; omega) ?_
                intro v2 H5 q1 q2 q3 q4
                have f5 : Fr [] H H5 := ⟨Nat.le_trans f4.size q2.size, fun q hq _ => by rw [q2.same q (by have := f4.size; omega) (fun e => by have := o4 q e; omega), f4.same q hq (by simp)]⟩
                have q1' : Vec H5 3 1 v2 ((so ++ [last]).map iv) := by rw [List.map_append]; exact q1
                obtain ⟨a2, c2, rfl, hs2⟩ := (IL.of_vec q1').ex
                have hz' : ∀ z ∈ so ++ [last], z ≠ 0 ∧ z.natAbs ≤ n := fun z hzm => (List.mem_append.1 hzm).elim (hz z) fun e => by rw [List.mem_singleton.1 e]; exact hrz last h2
                have hnd' : (so ++ [last]).Nodup := by
                  rw [List.nodup_append]
                  exact ⟨hnd, by simp, fun x hx y hy e => by rw [List.mem_singleton.1 hy] at e; exact h3.1 (e ▸ hx)⟩
                have hcl' : ∀ z ∈ so ++ [last], -z ∉ so ++ [last] := fun z hzm hm => by
                  rcases List.mem_append.1 hzm with h1 | h1
                  · rcases List.mem_append.1 hm with h5 | h5
                    · exact hcl z h1 h5
                    · have e := List.mem_singleton.1 h5
                      exact h3.2 (by rw [← e, Int.neg_neg]; exact h1)
                  · have e1 := List.mem_singleton.1 h1
                    rcases List.mem_append.1 hm with h5 | h5
                    · exact h3.2 (by rw [← e1]; exact h5)
                    · have e2 := List.mem_singleton.1 h5
                      have := (hrz last h2).1
                      omega
                have hsl' := so_len hnd' hcl' hz'
                simp only [List.length_append, List.length_singleton] at hsl'
                have hrec := ih (k - 1) (by omega) H5 (so ++ [last]) a2 c2 (by have := f5.size; omega) (hx.same fun b hb => f5.same b (by omega) (by simp)) hs2 (by simp; omega) (by simp; omega) hz' hnd'
                simp (disch := omega) only [go_sem, ↓cw_block, dsB_of]
                refine call_to hrec ?_
                rintro v H6 ⟨f6, r', rfl, hres⟩
                simp (disch := omega) only [go_sem, ↓cw_block, dsB_of, dsB_of]
                exact fin ⟨f5.trans f6, r', rfl, fun e => let ⟨so', g5, g6⟩ := hres e; ⟨so', fun z hzm => g5 z (by simp [hzm]), g6⟩⟩
              · have h1' : (1 : Int) < (o : Int) := by omega
                simp (disch := omega) only [go_sem, ↓cw_block, dsB_of, r0, r1, r6, r7, r8, r9, rd]
                exact fin ⟨css.length - (i + 1), by omega, i + 1, rfl, by omega, by simp (disch := omega) only [go_sem, ↓cw_block, dsB_of, r0, r1, r6, rd, hi1], rfl, next (.inr h2)⟩
end
end Go.Proofs.YthghkhpclemmlaaGreat

namespace Go.Proofs.YthghkhpclemmlaaGreat
open Go.HL HM Go.Sat
set_option maxRecDepth 10000
set_option linter.unusedSimpArgs false
set_option linter.unusedVariables false

section
variable {H : Heap}
set_option maxHeartbeats 4000000 in
theorem rFollows_spec {N n : Nat} {a : Option Addr} {css : List (List Int)} {c : Nat} (hn : n ≤ 1000) (hlen : css.length ≤ 100000) (hcs : ∀ r ∈ css, r.length ≤ 1000 ∧ ∀ x ∈ r, litB x = true ∧ x.natAbs ≤ n) {xs : List Int} {a' : Option Addr} {c' : Nat} (hN : N ≤ H.size) (hx : RC N H a css) (hr : Rn H a' xs) (hxl : xs.length ≤ 1000) (hxs : ∀ x ∈ xs, litB x = true ∧ x.natAbs ≤ n) (hnd : xs.Nodup) :
    CallF Tryz.prog 50 [.slice a css.length c, .slice a' xs.length c'] H (fun v H' => Fr [] H H' ∧ ∃ r : Bool, v = .bool r ∧ (r = false → ∃ so', (∀ z ∈ xs, -z ∈ so') ∧ Shut css so')) NoP := by
  refine callF_of Tryz.func50 rfl Tryz.ntmps50 Tryz.results50 (by decide) rfl ?_
  simp (disch := omega) only [go_sem, dsB_of]
  refine cut_at (fun ρ H1 => (ρ.get 0 = .slice a css.length c ∧ ρ.get 1 = .slice a' xs.length c' ∧ ρ.ds = []) ∧ H1 = H) ?_ ?_
  · simp (disch := omega) only [go_sem, ↓cw_block, dsB_of]
    refine loop_by (fun j ρ H1 => ∃ i : Nat, j = css.length - i ∧ i ≤ css.length ∧ (ρ.get 0 = .slice a css.length c ∧ ρ.get 1 = .slice a' xs.length c' ∧ ρ.get 5 = iv i ∧ ρ.ds = []) ∧ H1 = H) (k := css.length) ?_ ?_
    · exact ⟨0, rfl, by omega, by simp (disch := omega) only [go_sem, ↓cw_block, dsB_of], rfl⟩
    · rintro _ ρ H1 ⟨i, rfl, hi, ⟨r0, r1, r5, rd⟩, e⟩
      subst H1
      by_cases hie : i = css.length
      · subst hie
        simp (disch := omega) only [go_sem, ↓cw_block, dsB_of, r0, r1, r5, rd]
        exact fin ⟨by simp (disch := omega) only [go_sem, ↓cw_block, dsB_of, r0, r1, rd], rfl⟩
      · obtain ⟨r, hri⟩ : ∃ r, css[i]? = some r := ⟨_, List.getElem?_eq_getElem (by omega)⟩
        obtain ⟨b', o', ra, rc, e, -, kr, hrr, -, -⟩ := hx.ex i r hri
        subst e
        obtain ⟨hrl, hrz⟩ := hcs r (List.mem_of_getElem? hri)
        have hi1 : (i : Int) + 1 = ((i + 1 : Nat) : Int) := by omega
        simp (disch := omega) only [go_sem, ↓cw_block, dsB_of, r0, r1, r5, rd, kr]
        refine call_to (rRight_spec hrr (by omega)) ?_
        rintro v H2 ⟨rfl, e⟩
        subst H2
        have : r.all litB = true := List.all_eq_true.2 fun x hx => (hrz x hx).1
        rw [this]
        simp (disch := omega) only [go_sem, ↓cw_block, dsB_of, r0, r1, r5, rd]
        exact fin ⟨css.length - (i + 1), by omega, i + 1, rfl, by omega, by simp (disch := omega) only [go_sem, ↓cw_block, dsB_of, r0, r1, r5, rd, hi1], rfl⟩
  · rintro ρ H1 ⟨⟨r0, r1, rd⟩, e⟩
    subst H1
    simp (disch := omega) only [go_sem, dsB_of, r0, r1, rd]
    refine cut_at (fun ρ H1 => ∃ wv, (ρ.get 0 = .slice a css.length c ∧ ρ.get 1 = .slice a' xs.length c' ∧ ρ.get 6 = wv ∧ ρ.ds = []) ∧ Fr [] H H1 ∧ Vec H1 3 1 wv ((xs.map (- ·)).map iv)) ?_ ?_
    · simp (disch := omega) only [go_sem, ↓cw_block, dsB_of, r0, r1, rd]
      refine loop_by (fun j ρ H1 => ∃ (i : Nat) (wv : Value), j = xs.length - i ∧ i ≤ xs.length ∧ (ρ.get 0 = .slice a css.length c ∧ ρ.get 1 = .slice a' xs.length c' ∧ ρ.get 6 = wv ∧ ρ.get 7 = iv i ∧ ρ.ds = []) ∧ Fr [] H H1 ∧ Vec H1 3 1 wv (((xs.take i).map (- ·)).map iv) ∧ ∀ b ∈ own wv, H.size ≤ b) (k := xs.length) ?_ ?_
      · exact ⟨0, .slice none 0 0, rfl, by omega, by simp (disch := omega) only [go_sem, ↓cw_block, dsB_of, r0, r1, rd], Fr.refl _ _, by simpa using (Vec.nil : Vec H 3 1 (.slice none 0 0) []), by simp [own]⟩
      · clear r0 r1 rd
        rintro _ ρ H1 ⟨i, wv, rfl, hi, ⟨r0, r1, r6, r7, rd⟩, f1, v1, o1⟩
        by_cases hie : i = xs.length
        · subst hie
          rw [List.take_length] at v1
          simp (disch := omega) only [go_sem, ↓cw_block, dsB_of, r0, r1, r6, r7, rd]
          exact fin ⟨wv, by simp (disch := omega) only [go_sem, ↓cw_block, dsB_of, r0, r1, r6, rd], f1, v1⟩
        · obtain ⟨y, hyi⟩ : ∃ y, xs[i]? = some y := ⟨_, List.getElem?_eq_getElem (by omega)⟩
          obtain ⟨b', o', e, ky⟩ := (hr.frame f1 (by simp)) i y hyi
          subst e
          have hyb := litB_le (hxs y (List.mem_of_getElem? hyi)).1
          have hi1 : (i : Int) + 1 = ((i + 1 : Nat) : Int) := by omega
          simp (disch := omega) only [go_sem, ↓cw_block, dsB_of, r0, r1, r6, r7, rd, ky, b26z]
          refine app_lit1 T.el30 rfl v1 rfl (by simp; omega) ?_
          intro v' H4 g1 g2 g3 g4
          simp (disch := omega) only [go_sem, ↓cw_block, dsB_of, r0, r1, r6, r7, rd]
          refine fin ⟨xs.length - (i + 1), by omega, i + 1, v', rfl, by omega, by simp (disch := omega) only [go_sem, ↓cw_block, dsB_of, r0, r1, r6, r7, rd, hi1], ⟨Nat.le_trans f1.size g2.size, fun q hq _ => ?_⟩, ?_, fun q hq => ?_⟩
          · rw [g2.same q (by have := f1.size; omega) (fun e => by have := o1 q e; omega), f1.same q hq (by simp)]
          · have : ((xs.take (i + 1)).map (- ·)).map iv = ((xs.take i).map (- ·)).map iv ++ [iv (-y)] := by
              rw [List.take_add_one, hyi]; simp
            rw [this]; exact g1
          · rcases g3 q hq with h | h
            · exact o1 q h
            · have := f1.size; omega
    · clear r0 r1 rd
      rintro ρ H1 ⟨wv, ⟨r0, r1, r6, rd⟩, f1, v1⟩
      obtain ⟨aw, cw, e, hsw⟩ := (IL.of_vec v1).ex
      subst e
      have hall : xs.all litB = true := List.all_eq_true.2 fun x hx => (hxs x hx).1
      simp (disch := omega) only [go_sem, ↓cw_block, dsB_of, r0, r1, r6, rd]
      refine call_to (rRight_spec (hr.frame f1 (by simp)) (by omega)) ?_
      rintro v H2 ⟨rfl, e⟩
      subst H2
      rw [hall]
      simp (disch := omega) only [go_sem, ↓cw_block, dsB_of, r0, r1, r6, rd]
      have hc := rConflict_spec (N := N) (n := n) (a := a) (css := css) (c := c) hn hlen (fun r hr => ⟨(hcs r hr).1, fun x hx => ⟨litB_ne ((hcs r hr).2 x hx).1, ((hcs r hr).2 x hx).2⟩⟩) n H1 (xs.map (- ·)) aw cw (by have := f1.size; omega) (hx.same fun b hb => f1.same b (by omega) (by simp)) hsw (by simp; omega) (by omega)
        (fun z hz => by
          obtain ⟨y, hy, rfl⟩ := List.mem_map.1 hz
          have := hxs y hy
          have := litB_ne this.1
          omega)
        (List.Pairwise.map _ (fun p q hpq e => hpq (by omega)) hnd)
      refine call_to hc ?_
      rintro v H3 ⟨f3, r, rfl, hres⟩
      simp (disch := omega) only [go_sem, ↓cw_block, dsB_of, dsB_of]
      exact fin ⟨f1.trans f3, r, rfl, fun e => let ⟨so', g1, g2⟩ := hres e; ⟨so', fun z hz => g1 _ (List.mem_map.2 ⟨z, hz, rfl⟩), g2⟩⟩
end
end Go.Proofs.YthghkhpclemmlaaGreat

namespace Go.Proofs.YthghkhpclemmlaaGreat
open Go.HL HM Go.Sat
set_option maxRecDepth 10000
set_option linter.unusedSimpArgs false
set_option linter.unusedVariables false

section
variable {H : Heap}
theorem rn_fr {H' : Heap} {F : List Nat} {ra : Option Addr} {r : List Int} (h : Rn H ra r) (hf : Fr F H H') (hd : r ≠ [] → ∀ b o, ra = some ⟨b, o, none⟩ → b ∉ F) : Rn H' ra r := fun i x hi => by
  obtain ⟨b, o, e, hc⟩ := h i x hi
  exact ⟨b, o, e, hf.cell' hc (hd (fun e0 => by rw [e0] at hi; simp at hi) b o e)⟩
/-- Rows that can be read, in a list of one's own. -/
structure WR (M : Nat) (H : Heap) (v : Value) (rvs : List Value) (css : List (List Int)) : Prop where
  vec : Vec H 30 1 v rvs
  len : rvs.length = css.length
  own : ∀ b ∈ own v, M ≤ b
  row : ∀ (j : Nat) (rv : Value) (r : List Int), rvs[j]? = some rv → css[j]? = some r → ∃ ra rc, rv = .slice ra r.length rc ∧ r.length ≤ rc ∧ Rn H ra r ∧ (r ≠ [] → ∀ b o, ra = some ⟨b, o, none⟩ → b < H.size ∧ b ∉ Go.HL.own v)
theorem WR.nil {M : Nat} {v : Value} (hv : Vec H 30 1 v []) (ho : ∀ b ∈ Go.HL.own v, M ≤ b) : WR M H v [] [] := ⟨hv, rfl, ho, fun j rv r h => by simp at h⟩
theorem WR.frame {M : Nat} {H' : Heap} {v : Value} {rvs : List Value} {css : List (List Int)} (h : WR M H v rvs css) (hf : Fr [] H H') : WR M H' v rvs css := ⟨h.vec.frame hf (by simp), h.len, h.own, fun j rv r hj hr => by
  obtain ⟨ra, rc, g1, g2, g3, g4⟩ := h.row j rv r hj hr
  exact ⟨ra, rc, g1, g2, g3.frame hf (by simp), fun e b o e2 => ⟨by have := (g4 e b o e2).1; have := hf.size; omega, (g4 e b o e2).2⟩⟩⟩
theorem WR.add {M : Nat} {H' : Heap} {v v' rv : Value} {rvs : List Value} {css : List (List Int)} {r : List Int} {ra : Option Addr} {rc : Nat} (h : WR M H v rvs css) (hM : M ≤ H.size) (g1 : Vec H' 30 1 v' (rvs ++ [rv])) (g2 : Fr (Go.HL.own v) H H') (g3 : ∀ b ∈ Go.HL.own v', b ∈ Go.HL.own v ∨ H.size ≤ b)
    (hrv : rv = .slice ra r.length rc) (hc : r.length ≤ rc) (hr : Rn H ra r) (hb : r ≠ [] → ∀ b o, ra = some ⟨b, o, none⟩ → b ∉ Go.HL.own v) : WR M H' v' (rvs ++ [rv]) (css ++ [r]) := by
  have lt : ∀ (x : List Int) (xa : Option Addr), Rn H xa x → x ≠ [] → ∀ b o, xa = some ⟨b, o, none⟩ → b < H.size := fun x xa hx hne b o e => by
    cases x with
    | nil => exact absurd rfl hne
    | cons y t =>
      obtain ⟨b', o', e', hc'⟩ := hx 0 y rfl
      rw [e] at e'
      simp only [Option.some.injEq, Addr.mk.injEq, and_true] at e'
      rw [e'.1]; exact cell_lt hc'
  have mv : ∀ (x : List Int) (xa : Option Addr), Rn H xa x → (x ≠ [] → ∀ b o, xa = some ⟨b, o, none⟩ → b ∉ Go.HL.own v) → Rn H' xa x ∧ (x ≠ [] → ∀ b o, xa = some ⟨b, o, none⟩ → b < H'.size ∧ b ∉ Go.HL.own v') := fun x xa hx hd => by
    refine ⟨rn_fr hx g2 hd, fun hne b o e => ?_⟩
    have h1 := lt x xa hx hne b o e
    refine ⟨by have := g2.size; omega, fun h2 => ?_⟩
    rcases g3 b h2 with h3 | h3
    · exact hd hne b o e h3
    · omega
  refine ⟨g1, by simp [h.len], fun b hb => (g3 b hb).elim (h.own b) (fun e => by omega), fun j w x hj hx => ?_⟩
  rcases Nat.lt_trichotomy j rvs.length with hlt | he | hgt
  · rw [List.getElem?_append_left hlt] at hj
    rw [List.getElem?_append_left (by rw [← h.len]; exact hlt)] at hx
    obtain ⟨xa, xc, q1, q2, q3, q4⟩ := h.row j w x hj hx
    obtain ⟨q5, q6⟩ := mv x xa q3 fun e b o e2 => (q4 e b o e2).2
    exact ⟨xa, xc, q1, q2, q5, q6⟩
  · subst he
    rw [List.getElem?_append_right (Nat.le_refl _), Nat.sub_self] at hj
    rw [h.len, List.getElem?_append_right (Nat.le_refl _), Nat.sub_self] at hx
    have e1 := Option.some.inj hj
    have e2 := Option.some.inj hx
    subst e1; subst e2
    obtain ⟨q5, q6⟩ := mv r ra hr hb
    exact ⟨ra, rc, hrv, hc, q5, q6⟩
  · rw [List.getElem?_eq_none (by simp; omega)] at hj
    cases hj
theorem WR.rc {M : Nat} {v : Value} {rvs : List Value} {css : List (List Int)} (h : WR M H v rvs css) : ∃ a c, v = .slice a css.length c ∧ RC H.size H a css := by
  obtain ⟨a, len, c, e, hl⟩ := h.vec.len
  rw [Nat.mul_one, h.len] at hl
  subst hl
  refine ⟨a, c, e, ⟨fun i r hi => ?_⟩⟩
  have hil := (List.getElem?_eq_some_iff.1 hi).1
  obtain ⟨rv, hrv⟩ : ∃ rv, rvs[i]? = some rv := ⟨_, List.getElem?_eq_getElem (by rw [h.len]; exact hil)⟩
  obtain ⟨b, o, cap, e2, hc⟩ := vec_cell h.vec hrv
  rw [e] at e2
  simp only [Value.slice.injEq] at e2
  obtain ⟨ra, rc, g1, g2, g3, g4⟩ := h.row i rv r hrv hi
  exact ⟨b, o, ra, rc, e2.1, cell_lt hc, by rw [← g1]; exact hc, g3, fun hne b' o' e3 => (g4 hne b' o' e3).1, g2⟩
/-- The rows as what append copies. -/
theorem RC.src {N : Nat} {a : Option Addr} {css : List (List Int)} {c : Nat} (h : RC N H a css) : ∃ rvs, srcCells H 1 css.length (.slice a css.length c) = some rvs ∧ rvs.length = css.length ∧ ∀ (j : Nat) (rv : Value) (r : List Int), rvs[j]? = some rv → css[j]? = some r → ∃ ra rc, rv = .slice ra r.length rc ∧ r.length ≤ rc ∧ Rn H ra r ∧ (r ≠ [] → ∀ b o, ra = some ⟨b, o, none⟩ → b < N) := by
  cases css with
  | nil => exact ⟨[], by cases a <;> rfl, rfl, fun j rv r h => by simp at h⟩
  | cons r0 rest =>
    obtain ⟨b, o, ra, rc, ea, -⟩ := h.ex 0 r0 rfl
    subst ea
    have key : ∀ (j : Nat) (r : List Int), (r0 :: rest)[j]? = some r → ∃ ra rc, cellH H ⟨b, o + j, none⟩ = some (.slice ra r.length rc) ∧ Rn H ra r ∧ (r ≠ [] → ∀ b o, ra = some ⟨b, o, none⟩ → b < N) ∧ r.length ≤ rc := fun j r hj => by
      obtain ⟨b2, o2, ra, rc, e, -, h1, h2, h3, h4⟩ := h.ex j r hj
      simp only [Option.some.injEq, Addr.mk.injEq, and_true] at e
      obtain ⟨rfl, rfl⟩ := e
      exact ⟨ra, rc, h1, h2, h3, h4⟩
    obtain ⟨rvs, hrvs⟩ : ∃ rvs, rvs = (List.range (r0 :: rest).length).map fun j => (cellH H ⟨b, o + j, none⟩).getD (iv 0) := ⟨_, rfl⟩
    have hlen : rvs.length = (r0 :: rest).length := by rw [hrvs]; simp
    refine ⟨rvs, ?_, hlen, ?_⟩
    · show cellsH (cellH H) ⟨b, o, none⟩ 0 ((r0 :: rest).length * 1) = some rvs
      rw [Nat.mul_one, ← hlen]
      refine cellsH_at _ _ 0 fun j hj => ?_
      have hj' : j < (r0 :: rest).length := by rw [← hlen]; exact hj
      obtain ⟨ra, rc, h1, -⟩ := key j _ (List.getElem?_eq_getElem hj')
      rw [Nat.add_zero, h1]
      refine congrArg some ?_
      subst hrvs
      rw [List.getElem_map, List.getElem_range, h1]
      rfl
    · intro j rv r hj hr
      obtain ⟨ra, rc, h1, h2, h3, h4⟩ := key j r hr
      have hjl := (List.getElem?_eq_some_iff.1 hr).1
      rw [hrvs, List.getElem?_map, List.getElem?_range hjl] at hj
      simp only [Option.map_some, Option.some.injEq, h1, Option.getD_some] at hj
      exact ⟨ra, rc, hj.symm, h4, h2, h3⟩
/-- One line of a proof, that is read. -/
structure L1 (H : Heap) (pa : Option Addr) (zs : List Int) : Prop where
  ex : ∃ b o za zc, pa = some ⟨b, o, none⟩ ∧ cellH H ⟨b, o, none⟩ = some (.bool false) ∧ cellH H ⟨b, o + 1, none⟩ = some (.slice za zs.length zc) ∧ zs.length ≤ zc ∧ Rn H za zs
theorem L1.frame {H' : Heap} {pa : Option Addr} {zs : List Int} (h : L1 H pa zs) (hf : Fr [] H H') : L1 H' pa zs := by
  obtain ⟨b, o, za, zc, g1, g2, g3, g4, g5⟩ := h.ex
  exact ⟨b, o, za, zc, g1, hf.cell' g2 (by simp), hf.cell' g3 (by simp), g4, g5.frame hf (by simp)⟩
end
end Go.Proofs.YthghkhpclemmlaaGreat

namespace Go.Proofs.YthghkhpclemmlaaGreat
open Go.HL HM Go.Sat
set_option maxRecDepth 10000
set_option linter.unusedSimpArgs false
set_option linter.unusedVariables false

section
variable {H : Heap}
theorem b22z {Hx : Heap} {a' : Option Addr} {l' c' : Nat} : buildSliceV Tryz.prog Hx 33 1 [(0, .slice a' l' c')] = some (.slice (some ⟨Hx.size, 0, none⟩) 1 1, Hx.push (.cells #[.slice a' l' c'] 30)) := bs_one T.elem33 T.size30 T.zero30 rfl
set_option maxHeartbeats 8000000 in
theorem rCheck_spec {N n : Nat} {a ga pa : Option Addr} {css : List (List Int)} {goal : List Int} {c gc pc pl : Nat} (hn : n ≤ 1000) (hlen : css.length ≤ 10000) (hcs : ∀ r ∈ css, r.length ≤ 1000 ∧ ∀ x ∈ r, litB x = true ∧ x.natAbs ≤ n) (hN : N ≤ H.size) (hx : RC N H a css) (hg : Rn H ga goal) (hgl : goal.length ≤ 1000) (hgz : ∀ x ∈ goal, litB x = true ∧ x.natAbs ≤ n) (hgn : goal.Nodup)
    (hp : pl = 0 ∨ pl = 1 ∧ ∃ zs, L1 H pa zs ∧ zs.Nodup ∧ zs.length ≤ 1000 ∧ ∀ x, x ∈ zs ↔ x ∈ goal) (hno : ∀ so', (∀ z ∈ goal, -z ∈ so') → ¬ Shut css so') :
    CallF Tryz.prog 27 [.slice a css.length c, .slice pa pl pc, .slice ga goal.length gc] H (fun v H' => Fr [] H H' ∧ v = iv 0) NoP := by
  obtain ⟨rvs, src, hrl, hrow⟩ := hx.src (c := c)
  have hgall : goal.all litB = true := List.all_eq_true.2 fun x hx => (hgz x hx).1
  have f0 : Fr [] H (H.push (.cells #[] 30)) := Fr.push
  have v0 : Vec (H.push (.cells #[] 30)) 30 1 (.slice (some ⟨H.size, 0, none⟩) 0 0) [] := ⟨.inr ⟨H.size, 0, 0, [], [], rfl, Blk.new rfl, rfl, by simp, by omega⟩⟩
  obtain ⟨rvs', src', hrl', hrow'⟩ := (hx.same (H' := H.push (.cells #[] 30)) fun b hb => f0.same b (by omega) (by simp)).src (c := c)
  refine callF_of Tryz.func27 rfl Tryz.ntmps27 Tryz.results27 (by decide) rfl ?_
  simp (disch := omega) only [go_sem, ↓cw_block, dsB_of]
  refine app_vec (n := css.length) (new := rvs') T.el33 rfl v0 rfl src' T.el33.under (by simp) (fun u hu => ?_) (by simp [hrl']) (by intro a' l c e; simp only [Value.slice.injEq] at e; obtain ⟨_, rfl, _⟩ := e; omega) ?_
  · obtain ⟨j, hj⟩ := List.getElem?_of_mem hu
    obtain ⟨r, hr⟩ : ∃ r, css[j]? = some r := ⟨_, List.getElem?_eq_getElem (by rw [← hrl']; exact (List.getElem?_eq_some_iff.1 hj).1)⟩
    obtain ⟨ra, rc, rfl, -⟩ := hrow' j u r hj hr
    rfl
  intro v1 H1 g1 (g2 : Fr (Go.HL.own (.slice (some ⟨H.size, 0, none⟩) 0 0)) (H.push (.cells #[] 30)) H1) (g3 : ∀ b ∈ Go.HL.own v1, b ∈ Go.HL.own (.slice (some ⟨H.size, 0, none⟩) 0 0) ∨ (H.push (.cells #[] 30)).size ≤ b) g4
  rw [List.nil_append] at g1
  have f1 : Fr [] H H1 := ⟨Nat.le_trans f0.size g2.size, fun q hq _ => by rw [g2.same q (by have := f0.size; omega) (by simp [Go.HL.own]; omega), f0.same q hq (by simp)]⟩
  have o1 : ∀ b ∈ Go.HL.own v1, H.size ≤ b := fun b hb => by
    rcases g3 b hb with h | h
    · simp only [Go.HL.own, List.mem_singleton] at h; omega
    · have := f0.size; omega
  have w1 : WR H.size H1 v1 rvs' css := ⟨g1, hrl', o1, fun j rv r hj hr => by
    obtain ⟨ra, rc, h1, h2, h3, h4⟩ := hrow' j rv r hj hr
    refine ⟨ra, rc, h1, h2, rn_fr h3 g2 (fun hne b o e hb => ?_), fun hne b o e => ⟨by have := h4 hne b o e; have := f1.size; omega, fun hb => ?_⟩⟩
    · have := h4 hne b o e
      simp only [Go.HL.own, List.mem_singleton] at hb; omega
    · have := h4 hne b o e
      have := o1 b hb; omega⟩
  clear g2 g3 g4
  have x1 := hx.same (H' := H1) fun b hb => f1.same b (by omega) (by simp)
  simp (disch := omega) only [go_sem, dsB_of]
  refine cut_at (fun ρ H2 => (ρ.get 0 = .slice a css.length c ∧ ρ.get 1 = .slice pa pl pc ∧ ρ.get 2 = .slice ga goal.length gc ∧ ρ.get 7 = v1 ∧ ρ.ds = []) ∧ H2 = H1) ?_ ?_
  · simp (disch := omega) only [go_sem, ↓cw_block, dsB_of]
    refine loop_by (fun j ρ H2 => ∃ i : Nat, j = css.length - i ∧ i ≤ css.length ∧ (ρ.get 0 = .slice a css.length c ∧ ρ.get 1 = .slice pa pl pc ∧ ρ.get 2 = .slice ga goal.length gc ∧ ρ.get 7 = v1 ∧ ρ.get 8 = iv i ∧ ρ.ds = []) ∧ H2 = H1) (k := css.length) ?_ ?_
    · exact ⟨0, rfl, by omega, by simp (disch := omega) only [go_sem, ↓cw_block, dsB_of], rfl⟩
    · rintro _ ρ H2 ⟨i, rfl, hi, ⟨r0, r1, r2, r7, r8, rd⟩, e⟩
      subst H2
      by_cases hie : i = css.length
      · subst hie
        simp (disch := omega) only [go_sem, ↓cw_block, dsB_of, r0, r1, r2, r7, r8, rd]
        exact fin ⟨by simp (disch := omega) only [go_sem, ↓cw_block, dsB_of, r0, r1, r2, r7, rd], rfl⟩
      · obtain ⟨r, hri⟩ : ∃ r, css[i]? = some r := ⟨_, List.getElem?_eq_getElem (by omega)⟩
        obtain ⟨b', o', ra, rc, e, -, kr, hrr, -, -⟩ := x1.ex i r hri
        subst e
        obtain ⟨hrl2, hrz⟩ := hcs r (List.mem_of_getElem? hri)
        have hi1 : (i : Int) + 1 = ((i + 1 : Nat) : Int) := by omega
        simp (disch := omega) only [go_sem, ↓cw_block, dsB_of, r0, r1, r2, r7, r8, rd, kr]
        refine call_to (rRight_spec hrr (by omega)) ?_
        rintro v H2 ⟨rfl, e⟩
        subst H2
        have : r.all litB = true := List.all_eq_true.2 fun x hx => (hrz x hx).1
        rw [this]
        simp (disch := omega) only [go_sem, ↓cw_block, dsB_of, r0, r1, r2, r7, r8, rd]
        exact fin ⟨css.length - (i + 1), by omega, i + 1, rfl, by omega, by simp (disch := omega) only [go_sem, ↓cw_block, dsB_of, r0, r1, r2, r7, r8, rd, hi1], rfl⟩
  · rintro ρ H2 ⟨⟨r0, r1, r2, r7, rd⟩, e⟩
    subst H2
    have hg1 := hg.frame f1 (by simp)
    simp (disch := omega) only [go_sem, ↓cw_block, dsB_of, r0, r1, r2, r7, rd]
    refine call_to (rRight_spec hg1 (by omega)) ?_
    rintro v H2 ⟨rfl, e⟩
    subst H2
    rw [hgall]
    simp (disch := omega) only [go_sem, dsB_of, r0, r1, r2, r7, rd]
    refine cut_at (fun ρ H2 => ∃ v2 rvs2 css2, (ρ.get 1 = .slice pa pl pc ∧ ρ.get 2 = .slice ga goal.length gc ∧ ρ.get 7 = v2 ∧ ρ.ds = []) ∧ Fr [] H H2 ∧ WR H.size H2 v2 rvs2 css2 ∧ (css2 = css ∨ ∃ zs, css2 = css ++ [zs] ∧ ∀ x, x ∈ zs ↔ x ∈ goal) ∧ css2.length ≤ 10001 ∧ ∀ r ∈ css2, r.length ≤ 1000 ∧ ∀ x ∈ r, litB x = true ∧ x.natAbs ≤ n) ?_ ?_
    · simp (disch := omega) only [go_sem, ↓cw_block, dsB_of, r0, r1, r2, r7, rd]
      refine loop_by (fun j ρ H2 => ∃ (i : Nat) (v2 : Value) (rvs2 : List Value) (css2 : List (List Int)), j = pl - i ∧ (ρ.get 1 = .slice pa pl pc ∧ ρ.get 2 = .slice ga goal.length gc ∧ ρ.get 7 = v2 ∧ ρ.get 9 = iv i ∧ ρ.ds = []) ∧ Fr [] H H2 ∧ WR H.size H2 v2 rvs2 css2 ∧ (i = 0 ∧ css2 = css ∨ i = 1 ∧ pl = 1 ∧ ∃ zs, css2 = css ++ [zs] ∧ zs.length ≤ 1000 ∧ ∀ x, x ∈ zs ↔ x ∈ goal)) (k := pl) ?_ ?_
      · exact ⟨0, _, _, _, rfl, by (simp (disch := omega) only [go_sem, ↓cw_block, dsB_of, r0, r1, r2, r7, rd]), f1, w1, .inl ⟨rfl, rfl⟩⟩
      · clear r0 r1 r2 r7 rd
        rintro _ ρ H2 ⟨i, v2, rvs2, css2, rfl, ⟨r1, r2, r7, r9, rd⟩, f2, w2, hor⟩
        rcases hor with ⟨rfl, rfl⟩ | ⟨rfl, rfl, zs, rfl, hzl, hzg⟩
        · have r9' : ρ.get 9 = iv 0 := r9
          rcases hp with rfl | ⟨rfl, zs, l1, hzn, hzl, hzg⟩
          · simp (disch := omega) only [go_sem, ↓cw_block, dsB_of, r1, r2, r7, r9', rd]
            exact fin ⟨v2, rvs2, css2, by simp (disch := omega) only [go_sem, ↓cw_block, dsB_of, r1, r2, r7, rd], f2, w2, .inl rfl, by omega, hcs⟩
          · obtain ⟨pb, po, za, zc, rfl, k0, k1, hzc, hzr⟩ := (l1.frame f2).ex
            have k0a : cellH H2 ⟨pb, po + 0, none⟩ = some (.bool false) := k0
            have hzb : ∀ x ∈ zs, litB x = true ∧ x.natAbs ≤ n := fun x hx => hgz x ((hzg x).1 hx)
            have hzall : zs.all litB = true := List.all_eq_true.2 fun x hx => (hzb x hx).1
            obtain ⟨va, vc, e, rc2⟩ := w2.rc
            subst e
            simp (disch := omega) only [go_sem, ↓cw_block, dsB_of, r1, r2, r7, r9', rd, k0, k0a, k1]
            refine call_to (rRight_spec hzr (by omega)) ?_
            rintro v H3 ⟨rfl, e⟩
            subst H3
            rw [hzall]
            simp (disch := omega) only [go_sem, ↓cw_block, dsB_of, r1, r2, r7, r9', rd, k0, k0a, k1]
            refine call_to (rFollows_spec (N := H2.size) (n := n) hn (by omega) hcs (Nat.le_refl _) rc2 hzr hzl hzb hzn) ?_
            rintro v H3 ⟨f3, r, rfl, hr⟩
            cases r with
            | false =>
              obtain ⟨so', h1, h2⟩ := hr rfl
              exact absurd h2 (hno so' fun z hz => h1 z ((hzg z).2 hz))
            | true =>
              have w3 := w2.frame f3
              have f13 := f2.trans f3
              simp (disch := omega) only [go_sem, ↓cw_block, dsB_of, r1, r2, r7, r9', rd, b22z]
              refine app_lit1 T.el33 rfl w3.vec rfl (by rw [w3.len]; omega) ?_
              intro v4 H4 q1 q2 q3 q4
              simp (disch := omega) only [go_sem, ↓cw_block, dsB_of, r1, r2, r7, r9', rd]
              refine fin ⟨0, by omega, 1, v4, rvs2 ++ [.slice za zs.length zc], css2 ++ [zs], by omega, by (simp (disch := omega) only [go_sem, ↓cw_block, dsB_of, r1, r2, r7, r9', rd]; try rfl), ⟨Nat.le_trans f13.size q2.size, fun q hq _ => ?_⟩, ?_, .inr ⟨rfl, rfl, zs, rfl, hzl, hzg⟩⟩
              · rw [q2.same q (by have := f13.size; omega) (fun e => by have := w3.own q e; omega), f13.same q hq (by simp)]
              · refine w3.add f13.size q1 q2 q3 rfl hzc (hzr.frame f3 (by simp)) fun hne b o e hb => ?_
                subst e
                have hzr0 : Rn H (some ⟨b, o, none⟩) zs := by
                  obtain ⟨pb1, po1, za1, zc1, e1, p0, p1, -, p3⟩ := l1.ex
                  simp only [Option.some.injEq, Addr.mk.injEq, and_true] at e1
                  obtain ⟨rfl, rfl⟩ := e1
                  have p1' := f2.cell' p1 (by simp)
                  rw [k1] at p1'
                  simp only [Option.some.injEq, Value.slice.injEq] at p1'
                  rw [← p1'.1] at p3; exact p3
                cases zs with
                | nil => exact hne rfl
                | cons y t =>
                  obtain ⟨b', o', e', hc'⟩ := hzr0 0 y rfl
                  simp only [Option.some.injEq, Addr.mk.injEq, and_true] at e'
                  have hlt : b' < H.size := cell_lt hc'
                  have h5 := w3.own b hb
                  have h6 := e'.1
                  omega
        · have r9' : ρ.get 9 = iv 1 := r9
          simp (disch := omega) only [go_sem, ↓cw_block, dsB_of, r1, r2, r7, r9', rd]
          refine fin ⟨v2, rvs2, css ++ [zs], by simp (disch := omega) only [go_sem, ↓cw_block, dsB_of, r1, r2, r7, rd], f2, w2, .inr ⟨zs, rfl, hzg⟩, by simp; omega, fun r hr => ?_⟩
          rcases List.mem_append.1 hr with h | h
          · exact hcs r h
          · rw [List.mem_singleton.1 h]
            exact ⟨hzl, fun x hx => hgz x ((hzg x).1 hx)⟩
    · clear r0 r1 r2 r7 rd
      rintro ρ H2 ⟨v2, rvs2, css2, ⟨r1, r2, r7, rd⟩, f2, w2, hor, hl2, hcs2⟩
      obtain ⟨va, vc, e, -⟩ := w2.rc
      subst e
      simp (disch := omega) only [go_sem, dsB_of, r1, r2, r7, rd]
      refine cut_at (fun ρ H3 => ∃ (f3 : Fr [] H2 H3), (ρ.get 2 = .slice ga goal.length gc ∧ ρ.get 7 = .slice va css2.length vc ∧ ρ.ds = []) ∧ ∀ r ∈ css2, ¬ ∀ x, x ∈ r ↔ x ∈ goal) ?_ ?_
      · simp (disch := omega) only [go_sem, ↓cw_block, dsB_of, r1, r2, r7, rd]
        refine loop_by (fun j ρ H3 => ∃ (i : Nat), j = css2.length - i ∧ i ≤ css2.length ∧ (ρ.get 2 = .slice ga goal.length gc ∧ ρ.get 7 = .slice va css2.length vc ∧ ρ.get 14 = iv i ∧ ρ.ds = []) ∧ Fr [] H2 H3 ∧ ∀ r ∈ css2.take i, ¬ ∀ x, x ∈ r ↔ x ∈ goal) (k := css2.length) ?_ ?_
        · exact ⟨0, rfl, by omega, by simp (disch := omega) only [go_sem, ↓cw_block, dsB_of, r1, r2, r7, rd], Fr.refl _ _, by simp⟩
        · clear r1 r2 r7 rd
          rintro _ ρ H3 ⟨i, rfl, hi, ⟨r2, r7, r14, rd⟩, f3, hall⟩
          by_cases hie : i = css2.length
          · subst hie
            rw [List.take_length] at hall
            simp (disch := omega) only [go_sem, ↓cw_block, dsB_of, r2, r7, r14, rd]
            exact fin ⟨f3, by simp (disch := omega) only [go_sem, ↓cw_block, dsB_of, r2, r7, rd], hall⟩
          · obtain ⟨r, hri⟩ : ∃ r, css2[i]? = some r := ⟨_, List.getElem?_eq_getElem (by omega)⟩
            obtain ⟨va', vc', e, rc3⟩ := (w2.frame f3).rc
            simp only [Value.slice.injEq] at e
            obtain ⟨rfl, -, rfl⟩ := e
            obtain ⟨b', o', ra, rc, e, -, kr, hrr, -, -⟩ := rc3.ex i r hri
            subst e
            obtain ⟨hrl2, hrz⟩ := hcs2 r (List.mem_of_getElem? hri)
            have hi1 : (i : Int) + 1 = ((i + 1 : Nat) : Int) := by omega
            have htk : css2.take (i + 1) = css2.take i ++ [r] := by rw [List.take_add_one, hri]; rfl
            have hrall : r.all litB = true := List.all_eq_true.2 fun x hx => (hrz x hx).1
            simp (disch := omega) only [go_sem, ↓cw_block, dsB_of, r2, r7, r14, rd, kr]
            refine call_to (rSame_spec hrr ((hg.frame f2 (by simp)).frame f3 (by simp)) hrall hgall (by omega) (by omega)) ?_
            rintro v H4 ⟨f4, s, rfl, hs⟩
            cases s with
            | true =>
              simp (disch := omega) only [go_sem, ↓cw_block, dsB_of, r2, r7, r14, rd, dsB_of]
              exact fin ⟨(f2.trans f3).trans f4, rfl⟩
            | false =>
              simp (disch := omega) only [go_sem, ↓cw_block, dsB_of, r2, r7, r14, rd]
              refine fin ⟨css2.length - (i + 1), by omega, i + 1, rfl, by omega, by simp (disch := omega) only [go_sem, ↓cw_block, dsB_of, r2, r7, r14, rd, hi1], f3.trans f4, fun r' hr' => ?_⟩
              rw [htk] at hr'
              rcases List.mem_append.1 hr' with h | h
              · exact hall r' h
              · rw [List.mem_singleton.1 h]; exact fun e => nomatch hs e
      · clear r1 r2 r7 rd
        rintro ρ H3 ⟨f3, ⟨r2, r7, rd⟩, hall⟩
        rcases hor with rfl | ⟨zs, rfl, hzg⟩
        · obtain ⟨va', vc', e, rc3⟩ := (w2.frame f3).rc
          simp only [Value.slice.injEq] at e
          obtain ⟨rfl, -, rfl⟩ := e
          simp (disch := omega) only [go_sem, ↓cw_block, dsB_of, r2, r7, rd]
          refine call_to (rFollows_spec (N := H3.size) (n := n) hn (by omega) hcs (Nat.le_refl _) rc3 ((hg.frame f2 (by simp)).frame f3 (by simp)) hgl hgz hgn) ?_
          rintro v H4 ⟨f4, r, rfl, hr⟩
          cases r with
          | false =>
            obtain ⟨so', h1, h2⟩ := hr rfl
            exact absurd h2 (hno so' h1)
          | true =>
            simp (disch := omega) only [go_sem, ↓cw_block, dsB_of, dsB_of]
            exact fin ⟨(f2.trans f3).trans f4, rfl⟩
        · exact absurd hzg (hall zs (by simp))
end
end Go.Proofs.YthghkhpclemmlaaGreat

