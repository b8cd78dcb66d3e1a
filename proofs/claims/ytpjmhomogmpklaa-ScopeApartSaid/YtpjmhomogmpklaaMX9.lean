/- Texts of this proof, put together: ScpA, ScpB, ScpC, ScpD, ScpE, ScpF, W11A. The conditions of each theorem stand in it. -/
import Derived.Test.YtpjmhomogmpklaaMX8
import Derived.Test.YtpjmhomogmpklaaMX6
/- Names: the document's In and Item; the library's Index and Contains; what is in sight, in memory. -/
namespace Go.Proofs.Ytpjmhomogmpklaa
open Go.HL
set_option maxRecDepth 10000
set_option linter.unusedSimpArgs false
set_option linter.unusedVariables false

def inL (l : List Str) (s : Str) : Bool := l.any (· == s)
theorem inL_true {l : List Str} {s : Str} {i : Nat} (h : l[i]? = some s) : inL l s = true := by
  unfold inL; rw [List.any_eq_true]; exact ⟨s, List.mem_of_getElem? h, by simp⟩
theorem inL_false {l : List Str} {s : Str} (h : ∀ j, j < l.length → ¬ l.getD j [] = s) : inL l s = false := by
  unfold inL; rw [List.any_eq_false]
  intro x hx
  obtain ⟨i, hi⟩ := List.getElem?_of_mem hx
  have hil := (List.getElem?_eq_some_iff.1 hi).1
  have := h i hil
  rw [List.getD_eq_getElem?_getD, hi] at this
  simpa using this
section
variable {H : Heap} {S : Nat → Prop} {v : Value} {ws : List Str} {s : Str}
theorem r11In_spec (h : Rd H S 1 v (ws.map sv)) (hl : ws.length ≤ 9223372036854775807) : CallF Try.prog 42 [v, sv s] H (fun r H' => H = H' ∧ r = .bool (inL ws s)) NoP := by
  obtain ⟨av, cv, rfl⟩ := h.len1
  refine callF_of Try.func42 rfl Try.ntmps42 Try.results42 (by decide) rfl ?_
  simp (disch := omega) only [go_sem, ↓cw_block, dsB_of]
  refine loop_by (fun k ρ H2 => ∃ i : Nat, k = ws.length - i ∧ i ≤ ws.length ∧ (∀ j, j < i → ¬ ws.getD j [] = s) ∧ H = H2 ∧ (ρ.get 0 = .slice av ws.length cv ∧ ρ.get 1 = sv s ∧ ρ.get 5 = iv i ∧ ρ.ds = [])) (k := ws.length) ?_ ?_
  · exact ⟨0, rfl, by omega, by omega, rfl, by simp (disch := omega) only [go_sem, ↓cw_block, dsB_of]⟩
  · rintro k ρ _ ⟨i, rfl, hi, hall, rfl, r0, r1, r5, rd⟩
    have hxi : (i : Int) + 1 = ((i + 1 : Nat) : Int) := by omega
    by_cases hin : i < ws.length
    · have hg := getD_some (d := ([] : Str)) hin
      obtain ⟨b, o, cap, q1, -, q2⟩ := h.at1 hg
      simp only [Value.slice.injEq, true_and] at q1
      obtain ⟨rfl, rfl⟩ := q1
      by_cases hs : ws.getD i [] = s
      · have hd : decide (ws.getD i [] = s) = true := by simpa using hs
        simp (disch := omega) only [go_sem, ↓cw_block, dsB_of, r0, r1, r5, rd, q2, hd]
        exact fin ⟨rfl, by rw [inL_true (i := i) (by rw [hg, hs])]⟩
      · have hd : decide (ws.getD i [] = s) = false := by simpa using hs
        simp (disch := omega) only [go_sem, ↓cw_block, dsB_of, r0, r1, r5, rd, q2, hd]
        refine fin ⟨ws.length - (i + 1), by omega, i + 1, rfl, by omega, ?_, rfl, by simp (disch := omega) only [go_sem, ↓cw_block, dsB_of, r0, r1, r5, rd, hxi]⟩
        intro j hj
        by_cases e : j = i
        · subst e; exact hs
        · exact hall j (by omega)
    · obtain rfl : i = ws.length := by omega
      simp (disch := omega) only [go_sem, ↓cw_block, dsB_of, r0, r1, r5, rd]
      exact fin ⟨rfl, by rw [inL_false hall]⟩
theorem sIndex_spec (h : Rd H S 1 v (ws.map sv)) (hl : ws.length ≤ 9223372036854775807) : CallF Try.prog 77 [v, sv s] H (fun r H' => H = H' ∧ ∃ n : Int, r = iv n ∧ (0 ≤ n ↔ inL ws s = true) ∧ (∀ i : Nat, n = i → i < ws.length ∧ ws[i]? = some s ∧ ∀ j, j < i → ¬ ws.getD j [] = s)) NoP := by
  obtain ⟨av, cv, rfl⟩ := h.len1
  refine callF_of Try.func77 rfl Try.ntmps77 Try.results77 (by decide) rfl ?_
  simp (disch := omega) only [go_sem, ↓cw_block, dsB_of]
  refine loop_by (fun k ρ H2 => ∃ i : Nat, k = ws.length - i ∧ i ≤ ws.length ∧ (∀ j, j < i → ¬ ws.getD j [] = s) ∧ H = H2 ∧ (ρ.get 0 = .slice av ws.length cv ∧ ρ.get 1 = sv s ∧ ρ.get 7 = iv ws.length ∧ ρ.get 8 = iv i ∧ ρ.ds = [])) (k := ws.length) ?_ ?_
  · exact ⟨0, rfl, by omega, by omega, rfl, by simp (disch := omega) only [go_sem, ↓cw_block, dsB_of]⟩
  · rintro k ρ _ ⟨i, rfl, hi, hall, rfl, r0, r1, r7, r8, rd⟩
    have hxi : (i : Int) + 1 = ((i + 1 : Nat) : Int) := by omega
    by_cases hin : i < ws.length
    · have hg := getD_some (d := ([] : Str)) hin
      obtain ⟨b, o, cap, q1, -, q2⟩ := h.at1 hg
      simp only [Value.slice.injEq, true_and] at q1
      obtain ⟨rfl, rfl⟩ := q1
      by_cases hs : s = ws.getD i []
      · have hd : decide (s = ws.getD i []) = true := by simpa using hs
        simp (disch := omega) only [go_sem, ↓cw_block, dsB_of, r0, r1, r7, r8, rd, q2, hd]
        refine fin ⟨rfl, i, rfl, ⟨fun _ => inL_true (i := i) (by rw [hg, hs]), fun _ => by omega⟩, ?_⟩
        intro i' e
        have : i' = i := by omega
        subst this
        exact ⟨hin, by rw [hg, ← hs], hall⟩
      · have hd : decide (s = ws.getD i []) = false := by simpa using hs
        simp (disch := omega) only [go_sem, ↓cw_block, dsB_of, r0, r1, r7, r8, rd, q2, hd]
        refine fin ⟨ws.length - (i + 1), by omega, i + 1, rfl, by omega, ?_, rfl, by simp (disch := omega) only [go_sem, ↓cw_block, dsB_of, r0, r1, r7, r8, rd, hxi]⟩
        intro j hj
        by_cases e : j = i
        · subst e; exact fun h => hs h.symm
        · exact hall j (by omega)
    · obtain rfl : i = ws.length := by omega
      simp (disch := omega) only [go_sem, ↓cw_block, dsB_of, r0, r1, r7, r8, rd]
      refine fin ⟨rfl, -1, rfl, ?_, fun i e => by omega⟩
      rw [inL_false hall]
      simp
theorem sContains_spec (h : Rd H S 1 v (ws.map sv)) (hl : ws.length ≤ 9223372036854775807) : CallF Try.prog 52 [v, sv s] H (fun r H' => H = H' ∧ r = .bool (inL ws s)) NoP := by
  refine callF_of Try.func52 rfl Try.ntmps52 Try.results52 (by decide) rfl ?_
  simp (disch := omega) only [go_sem, ↓cw_block, dsB_of]
  refine call_to (sIndex_spec h hl) ?_
  rintro _ _ ⟨rfl, n, rfl, hn, -⟩
  simp (disch := omega) only [go_sem, ↓cw_block, dsB_of]
  refine fin ⟨rfl, ?_⟩
  rw [Bool.eq_iff_iff.2 (show decide (0 ≤ n) = true ↔ inL ws s = true by simpa using hn)]
end
/-- The item of a list in which a node stands. -/
def itemL (ks : List Int) (i : Int) : Int := ks.foldl (fun out k => if k ≤ i then k else out) 0
def itemM' (l : List Nd) (i : Int) : Int := itemL (l.getD 0 nd0').kids i
theorem itemL_step {ks : List Int} {j : Nat} {k i : Int} (h : ks[j]? = some k) : itemL (ks.take (j + 1)) i = if k ≤ i then k else itemL (ks.take j) i := by
  unfold itemL; rw [List.take_add_one, h]; simp
section
variable {H : Heap} {S : Nat → Prop} {v : Value} {l : List Nd}
theorem r11Item_spec (h : NL H S v l) (hz : Sz l) (h0 : 0 < l.length) {i : Int} : CallF Try.prog 41 [v, iv i] H (fun r H' => H = H' ∧ r = iv (itemM' l i)) NoP := by
  have hg0 := getD_some (d := nd0') h0
  obtain ⟨b, o, cap, a, q1, q2, ar, -, -, -, -, k3, -⟩ := h.row hg0
  obtain ⟨nn, x1, c1, x2, c2, x3, c3, rfl⟩ := ar.open
  simp only at q2
  have hkl := hz.k 0 _ hg0
  rw [← q2] at hkl
  have hit : itemM' l i = itemL nn.kids i := by unfold itemM'; rw [← q2]
  rw [hit]
  subst q1
  rw [Nat.zero_mul, Nat.add_zero] at k3
  simp only at k3
  have hkk := ar.k
  simp only at hkk
  clear ar
  generalize nn.kids = ks at *
  refine callF_of Try.func41 rfl Try.ntmps41 Try.results41 (by decide) rfl ?_
  simp (disch := omega) only [go_sem, ↓cw_block, dsB_of]
  refine loop_by (fun k ρ H2 => ∃ j : Nat, k = ks.length - j ∧ j ≤ ks.length ∧ H = H2 ∧ (ρ.get 0 = .slice (some ⟨b, o, none⟩) l.length cap ∧ ρ.get 1 = iv i ∧ ρ.get 5 = iv (itemL (ks.take j) i) ∧ ρ.get 6 = iv j ∧ ρ.ds = [])) (k := ks.length) ?_ ?_
  · exact ⟨0, rfl, by omega, rfl, by (simp (disch := omega) only [go_sem, ↓cw_block, dsB_of]) <;> simp [itemL]⟩
  · rintro k ρ _ ⟨j, rfl, hj, rfl, r0, r1, r5, r6, rd⟩
    have hxj : (j : Int) + 1 = ((j + 1 : Nat) : Int) := by omega
    by_cases hjn : j < ks.length
    · have hgj := getD_some (d := (0 : Int)) hjn
      obtain ⟨b', o', cap', p1, -, p2⟩ := hkk.at1 hgj
      simp only [Value.slice.injEq, true_and] at p1
      obtain ⟨rfl, rfl⟩ := p1
      have hst := itemL_step (i := i) hgj
      generalize ks.getD j 0 = y at *
      by_cases hy : y ≤ i
      · rw [if_pos hy] at hst
        simp (disch := omega) only [go_sem, ↓cw_block, dsB_of, r0, r1, r5, r6, rd, k3, p2]
        exact fin ⟨ks.length - (j + 1), by omega, j + 1, rfl, by omega, rfl, by rw [hst]; simp (disch := omega) only [go_sem, ↓cw_block, dsB_of, r0, r1, r5, r6, rd, hxj]⟩
      · rw [if_neg hy] at hst
        simp (disch := omega) only [go_sem, ↓cw_block, dsB_of, r0, r1, r5, r6, rd, k3, p2]
        exact fin ⟨ks.length - (j + 1), by omega, j + 1, rfl, by omega, rfl, by rw [hst]; simp (disch := omega) only [go_sem, ↓cw_block, dsB_of, r0, r1, r5, r6, rd, hxj]⟩
    · obtain rfl : j = ks.length := by omega
      rw [List.take_length] at r5
      simp (disch := omega) only [go_sem, ↓cw_block, dsB_of, r0, r1, r5, r6, rd, k3]
      exact fin ⟨rfl, rfl⟩
end
end Go.Proofs.Ytpjmhomogmpklaa

/- Names: the document's Names, bad, Check. -/
namespace Go.Proofs.Ytpjmhomogmpklaa
open Go.HL
set_option maxRecDepth 10000
set_option linter.unusedSimpArgs false
set_option linter.unusedVariables false

def w0 (n : Nd) : Str := n.words.getD 0 []
def w1 (n : Nd) : Str := n.words.getD 1 []
def nodeAt (l : List Nd) (i : Nat) : Nd := l.getD i nd0'
def namesU (l : List Nd) (it kind : Int) : Nat → List Str
  | 0 => []
  | i + 1 => if (nodeAt l i).kind = kind ∧ (itemM' l i = i ∨ itemM' l i = it) then (if inL (namesU l it kind i) (w0 (nodeAt l i)) then namesU l it kind i else namesU l it kind i ++ [w0 (nodeAt l i)]) else namesU l it kind i
def namesM (l : List Nd) (i : Nat) (kind : Int) : List Str := namesU l (itemM' l i) kind i
theorem namesU_len {l : List Nd} {it kind : Int} : ∀ i, (namesU l it kind i).length ≤ i
  | 0 => by simp [namesU]
  | i + 1 => by
    have := namesU_len (l := l) (it := it) (kind := kind) i
    unfold namesU
    split
    · split
      · omega
      · simp; omega
    · omega
/-- Words are there where they are asked for. -/
def WOk (l : List Nd) : Prop := ∀ (i : Nat) n, l[i]? = some n → n.words.length = wcount n.kind
def bad11 (l : List Nd) (i : Nat) : Bool :=
  let n := nodeAt l i
  let C := namesM l i 1
  let V := namesM l i 2
  let P := namesM l i 3
  if n.kind = 1 ∨ n.kind = 2 ∨ n.kind = 3 then inL C (w0 n) || (inL V (w0 n) || inL P (w0 n))
  else if n.kind = 6 ∨ n.kind = 18 then !inL V (w0 n)
  else if n.kind = 7 ∨ n.kind = 19 then !inL C (w0 n)
  else if n.kind = 8 then (!inL C (w0 n) || !inL V (w1 n))
  else false
/-- The first number of some from one on of which something holds. -/
def firstT (g : Nat → Bool) : Nat → Nat → Option Nat
  | 0, _ => none
  | m + 1, i => if g i then some i else firstT g m (i + 1)
def fltOf (l : List Nd) : Option Nat → Flt
  | none => ⟨0, 0⟩
  | some i => ⟨20, (nodeAt l i).pos⟩
def check11 (l : List Nd) : Flt := fltOf l (firstT (bad11 l) l.length 0)
section
variable {H : Heap} {S : Nat → Prop} {v : Value} {l : List Nd}
set_option maxHeartbeats 1000000 in
theorem r11Names_spec (h : NL H S v l) (hz : Sz l) (hW : WOk l) (h8 : l.length ≤ 1000000) {i : Nat} (hi : i < l.length) {kind : Int} (hk : kind = 1 ∨ kind = 2 ∨ kind = 3) :
    CallF Try.prog 21 [v, iv i, iv kind] H (fun r H' => Fr [] H H' ∧ Rd H' (fun b => H.size ≤ b) 1 r ((namesM l i kind).map sv)) NoP := by
  have h0 : 0 < l.length := by omega
  obtain ⟨av, cv, rfl⟩ := h.len
  unfold namesM
  refine callF_of Try.func21 rfl Try.ntmps21 Try.results21 (by decide) rfl ?_
  simp (disch := omega) only [go_sem, ↓cw_block, dsB_of]
  refine call_to (r11Item_spec h hz h0) ?_
  rintro _ _ ⟨rfl, rfl⟩
  simp (disch := omega) only [go_sem, ↓cw_block, dsB_of]
  generalize itemM' l i = it at *
  refine loop_by (fun k ρ H2 => ∃ (j : Nat) (ov : Value), k = i - j ∧ j ≤ i ∧ Fr [] H H2 ∧ Vec H2 9 1 ov ((namesU l it kind j).map sv) ∧ (∀ b ∈ own ov, H.size ≤ b) ∧ (ρ.get 0 = .slice av l.length cv ∧ ρ.get 1 = iv i ∧ ρ.get 2 = iv kind ∧ ρ.get 7 = ov ∧ ρ.get 8 = iv it ∧ ρ.get 9 = iv j ∧ ρ.ds = [])) (k := i) ?_ ?_
  · exact ⟨0, _, rfl, by omega, Fr.refl _ _, Vec.nil, by simp [own], by simp (disch := omega) only [go_sem, ↓cw_block, dsB_of]⟩
  · rintro k ρ H2 ⟨j, ov, rfl, hj, fr2, vec, hown, r0, r1, r2, r7, r8, r9, rd⟩
    have hxj : (j : Int) + 1 = ((j + 1 : Nat) : Int) := by omega
    by_cases hji : j < i
    · have hgj := getD_some (l := l) (d := nd0') (i := j) (by omega)
      have nl2 := h.grow fr2
      obtain ⟨b, o, cap, a, q1, q2, ar, -, k0, k1, -⟩ := nl2.row hgj
      simp only [Value.slice.injEq, true_and] at q1
      obtain ⟨rfl, rfl⟩ := q1
      have hwn := hW j _ hgj
      have hnu : namesU l it kind (j + 1) = if (l.getD j nd0').kind = kind ∧ (itemM' l j = j ∨ itemM' l j = it) then (if inL (namesU l it kind j) (w0 (l.getD j nd0')) then namesU l it kind j else namesU l it kind j ++ [w0 (l.getD j nd0')]) else namesU l it kind j := rfl
      have hnl := namesU_len (l := l) (it := it) (kind := kind) j
      generalize hn : l.getD j nd0' = n at *
      by_cases hkind : n.kind = kind
      rotate_left
      · rw [if_neg (fun e => hkind e.1)] at hnu
        simp (disch := omega) only [go_sem, ↓cw_block, dsB_of, r0, r1, r2, r7, r8, r9, rd, k0]
        exact fin ⟨i - (j + 1), by omega, j + 1, ov, rfl, by omega, fr2, by rw [hnu]; exact vec, hown, by simp (disch := omega) only [go_sem, ↓cw_block, dsB_of, r0, r1, r2, r7, r8, r9, rd, hxj]⟩
      have hwl : 0 < n.words.length := by
        rw [hwn, hkind]
        rcases hk with rfl | rfl | rfl <;> decide
      have hg0 := getD_some (d := ([] : Str)) hwl
      have hw := ar.w
      rw [q2] at hw
      obtain ⟨wb, wo, wc, ew, -, ec⟩ := hw.at1 hg0
      rw [Nat.add_zero] at ec
      rw [ew] at k1
      have hitem := r11Item_spec (i := (j : Int)) nl2 hz h0
      have tail : ∀ {ρ' : En}, ((itemM' l j = j ∨ itemM' l j = it)) → True := fun _ => trivial
      simp (disch := omega) only [go_sem, ↓cw_block, dsB_of, r0, r1, r2, r7, r8, r9, rd, k0, hkind]
      refine call_to hitem ?_
      rintro _ _ ⟨rfl, rfl⟩
      by_cases hA : itemM' l j = j ∨ itemM' l j = it
      rotate_left
      · rw [if_neg (fun e => hA e.2)] at hnu
        have hA1 : ¬ itemM' l j = j := fun e => hA (.inl e)
        have hA2 : ¬ itemM' l j = it := fun e => hA (.inr e)
        simp (disch := omega) only [go_sem, ↓cw_block, dsB_of, r0, r1, r2, r7, r8, r9, rd]
        refine call_to hitem ?_
        rintro _ _ ⟨rfl, rfl⟩
        simp (disch := omega) only [go_sem, ↓cw_block, dsB_of, r0, r1, r2, r7, r8, r9, rd]
        exact fin ⟨i - (j + 1), by omega, j + 1, ov, rfl, by omega, fr2, by rw [hnu]; exact vec, hown, by simp (disch := omega) only [go_sem, ↓cw_block, dsB_of, r0, r1, r2, r7, r8, r9, rd, hxj]⟩
      rw [if_pos ⟨hkind, hA⟩] at hnu
      have hIn := r11In_spec (H := H2) (s := w0 n) (Rd.of_vec vec hown) (by omega)
      obtain ⟨ak, lk, ck, ekv, hlk⟩ := vec.len
      simp only [List.length_map, Nat.mul_one] at hlk
      subst hlk
      subst ekv
      have hww : n.words.getD 0 [] = w0 n := rfl
      rw [hww] at ec
      have main : ∀ {x : Prop}, True := trivial
      by_cases hA1 : itemM' l j = j
      · simp (disch := omega) only [go_sem, ↓cw_block, dsB_of, r0, r1, r2, r7, r8, r9, rd, k1, ec]
        refine call_to hIn ?_
        rintro _ _ ⟨rfl, rfl⟩
        cases hq : inL (namesU l it kind j) (w0 n)
        · rw [hq] at hnu
          simp only [Bool.false_eq_true, if_false] at hnu
          simp (disch := omega) only [go_sem, ↓cw_block, dsB_of, r0, r1, r2, r7, r8, r9, rd, k1, ec]
          refine app_lit1 T.el33 rfl vec rfl (by simp; omega) ?_
          intro v' H6 g1 g2 g3 g4
          refine Hush.out ?_
          have fr6 : Fr [] H H6 := Fr.more fr2 g2 (fun b hb => .inr (hown b hb))
          have hz2 := fr2.size
          refine ⟨?_⟩
          simp (disch := omega) only [go_sem, ↓cw_block, dsB_of, r0, r1, r2, r7, r8, r9, rd]
          exact fin ⟨i - (j + 1), by omega, j + 1, v', rfl, by omega, fr6, by rw [hnu, List.map_append]; exact g1, fun b hb => (g3 b hb).elim (hown b) (fun h => by omega), by simp (disch := omega) only [go_sem, ↓cw_block, dsB_of, r0, r1, r2, r7, r8, r9, rd, hxj]⟩
        · rw [hq] at hnu
          simp only [if_true] at hnu
          simp (disch := omega) only [go_sem, ↓cw_block, dsB_of, r0, r1, r2, r7, r8, r9, rd]
          exact fin ⟨i - (j + 1), by omega, j + 1, _, rfl, by omega, fr2, by rw [hnu]; exact vec, hown, by simp (disch := omega) only [go_sem, ↓cw_block, dsB_of, r0, r1, r2, r7, r8, r9, rd, hxj]⟩
      · have hA2 : itemM' l j = it := hA.resolve_left hA1
        simp (disch := omega) only [go_sem, ↓cw_block, dsB_of, r0, r1, r2, r7, r8, r9, rd]
        refine call_to hitem ?_
        rintro _ _ ⟨rfl, rfl⟩
        simp (disch := omega) only [go_sem, ↓cw_block, dsB_of, r0, r1, r2, r7, r8, r9, rd, k1, ec, hA2]
        refine call_to hIn ?_
        rintro _ _ ⟨rfl, rfl⟩
        cases hq : inL (namesU l it kind j) (w0 n)
        · rw [hq] at hnu
          simp only [Bool.false_eq_true, if_false] at hnu
          simp (disch := omega) only [go_sem, ↓cw_block, dsB_of, r0, r1, r2, r7, r8, r9, rd, k1, ec]
          refine app_lit1 T.el33 rfl vec rfl (by simp; omega) ?_
          intro v' H6 g1 g2 g3 g4
          refine Hush.out ?_
          have fr6 : Fr [] H H6 := Fr.more fr2 g2 (fun b hb => .inr (hown b hb))
          have hz2 := fr2.size
          refine ⟨?_⟩
          simp (disch := omega) only [go_sem, ↓cw_block, dsB_of, r0, r1, r2, r7, r8, r9, rd]
          exact fin ⟨i - (j + 1), by omega, j + 1, v', rfl, by omega, fr6, by rw [hnu, List.map_append]; exact g1, fun b hb => (g3 b hb).elim (hown b) (fun h => by omega), by simp (disch := omega) only [go_sem, ↓cw_block, dsB_of, r0, r1, r2, r7, r8, r9, rd, hxj]⟩
        · rw [hq] at hnu
          simp only [if_true] at hnu
          simp (disch := omega) only [go_sem, ↓cw_block, dsB_of, r0, r1, r2, r7, r8, r9, rd]
          exact fin ⟨i - (j + 1), by omega, j + 1, _, rfl, by omega, fr2, by rw [hnu]; exact vec, hown, by simp (disch := omega) only [go_sem, ↓cw_block, dsB_of, r0, r1, r2, r7, r8, r9, rd, hxj]⟩
    · obtain rfl : j = i := by omega
      simp (disch := omega) only [go_sem, ↓cw_block, dsB_of, r0, r1, r2, r7, r8, r9, rd]
      exact fin ⟨fr2, Rd.of_vec vec hown⟩
end
end Go.Proofs.Ytpjmhomogmpklaa

/- Names: the document's bad, Check. -/
namespace Go.Proofs.Ytpjmhomogmpklaa
open Go.HL
set_option maxRecDepth 10000
set_option linter.unusedSimpArgs false
set_option linter.unusedVariables false

section
variable {H : Heap} {S : Nat → Prop} {v : Value} {l : List Nd}
set_option maxHeartbeats 2000000 in
theorem r11bad_spec (h : NL H S v l) (hz : Sz l) (hW : WOk l) (h8 : l.length ≤ 1000000) {i : Nat} (hi : i < l.length) :
    CallF Try.prog 34 [v, iv i] H (fun r H' => Fr [] H H' ∧ r = .bool (bad11 l i)) NoP := by
  have hgi := getD_some (d := nd0') hi
  obtain ⟨b, o, cap, a, q1, q2, ar, ld, -⟩ := h.row hgi
  obtain ⟨nn, x1, c1, x2, c2, x3, c3, rfl⟩ := ar.open
  simp only at q2 ld
  have hwn := hW i _ hgi
  have hat : nodeAt l i = nn := by unfold nodeAt; rw [q2]
  rw [← q2] at ld hwn
  subst q1
  obtain ⟨kind, words, nums, kids, pos⟩ := nn
  simp only at ld hwn
  obtain ⟨G, hG⟩ : ∃ G, G = H.push (.cells #[iv kind, .slice x1 words.length c1, .slice x2 nums.length c2, .slice x3 kids.length c3, iv pos] 60) := ⟨_, rfl⟩
  have f0 : Fr [] H G := by rw [hG]; exact Fr.push
  have zG : G.size = H.size + 1 := by rw [hG]; simp
  have hb : Blk G H.size 60 [iv kind, .slice x1 words.length c1, .slice x2 nums.length c2, .slice x3 kids.length c3, iv pos] := by rw [hG]; exact Blk.new rfl
  unfold bad11
  rw [hat]
  refine callF_of Try.func34 rfl Try.ntmps34 Try.results34 (by decide) rfl ?_
  simp (disch := omega) only [go_sem, ↓cw_block, dsB_of, ld]
  rw [← hG]
  refine call_to (r11Names_spec (kind := 1) (h.grow f0) hz hW h8 hi (by omega)) ?_
  intro C H1 hv
  refine Hush.out ?_
  obtain ⟨f1, rC⟩ := hv
  refine ⟨?_⟩
  simp (disch := omega) only [go_sem, ↓cw_block, dsB_of]
  refine call_to (r11Names_spec (kind := 2) ((h.grow f0).grow f1) hz hW h8 hi (by omega)) ?_
  intro V H2 hv
  refine Hush.out ?_
  obtain ⟨f2, rV⟩ := hv
  refine ⟨?_⟩
  simp (disch := omega) only [go_sem, ↓cw_block, dsB_of]
  refine call_to (r11Names_spec (kind := 3) (((h.grow f0).grow f1).grow f2) hz hW h8 hi (by omega)) ?_
  intro P H3 hv
  refine Hush.out ?_
  obtain ⟨f3, rP⟩ := hv
  have rC3 := rC.frame (Keeps.of_fr (f2.trans f3) (by simp))
  have rV3 := rV.frame (Keeps.of_fr f3 (by simp))
  have hlC : (namesM l i 1).length ≤ 1000000 := by have := namesU_len (l := l) (it := itemM' l i) (kind := 1) i; unfold namesM; omega
  have hlV : (namesM l i 2).length ≤ 1000000 := by have := namesU_len (l := l) (it := itemM' l i) (kind := 2) i; unfold namesM; omega
  have hlP : (namesM l i 3).length ≤ 1000000 := by have := namesU_len (l := l) (it := itemM' l i) (kind := 3) i; unfold namesM; omega
  have hC : ∀ s, CallF Try.prog 42 [C, sv s] H3 (fun r H' => H3 = H' ∧ r = .bool (inL (namesM l i 1) s)) NoP := fun s => r11In_spec rC3 (by omega)
  have hV : ∀ s, CallF Try.prog 42 [V, sv s] H3 (fun r H' => H3 = H' ∧ r = .bool (inL (namesM l i 2) s)) NoP := fun s => r11In_spec rV3 (by omega)
  have hP : ∀ s, CallF Try.prog 42 [P, sv s] H3 (fun r H' => H3 = H' ∧ r = .bool (inL (namesM l i 3) s)) NoP := fun s => r11In_spec rP (by omega)
  have fall : Fr [] H H3 := ((f0.trans f1).trans f2).trans f3
  generalize namesM l i 1 = CL at *
  generalize namesM l i 2 = VL at *
  generalize namesM l i 3 = PL at *
  have hb3 := ((f1.trans f2).trans f3).blk hb (by simp)
  have k0 := hb3.cell 0
  have k1 := hb3.cell 1
  simp only [List.getElem?_cons_succ, List.getElem?_cons_zero] at k0 k1
  have hw3 := ar.w.frame (Keeps.of_fr fall (by simp))
  simp only at hw3
  by_cases e1 : kind = 1
  · subst e1
    have hwl : words.length = 1 := by rw [hwn]; rfl
    obtain ⟨wb0, wo0, wc0, ew0, -, ec0⟩ := hw3.at1 (getD_some (d := ([] : Str)) (i := 0) (by rw [hwn]; decide))
    simp only [Value.slice.injEq, true_and] at ew0
    obtain ⟨rfl, rfl⟩ := ew0
    rw [Nat.add_zero] at ec0
    generalize hs0 : words.getD 0 [] = s0 at *
    refine ⟨?_⟩
    simp (disch := omega) only [go_sem, ↓cw_block, dsB_of, k0, k1, ec0]
    refine call_to (hC s0) ?_
    rintro _ _ ⟨rfl, rfl⟩
    cases qC : inL CL s0
    rotate_left
    · simp (disch := omega) only [go_sem, ↓cw_block, dsB_of]
      exact fin ⟨fall, by simp [w0, w1, -List.getD_eq_getElem?_getD, hs0, qC]⟩
    simp (disch := omega) only [go_sem, ↓cw_block, dsB_of]
    refine call_to (hV s0) ?_
    rintro _ _ ⟨rfl, rfl⟩
    cases qV : inL VL s0
    rotate_left
    · simp (disch := omega) only [go_sem, ↓cw_block, dsB_of]
      exact fin ⟨fall, by simp [w0, w1, -List.getD_eq_getElem?_getD, hs0, qC, qV]⟩
    simp (disch := omega) only [go_sem, ↓cw_block, dsB_of]
    refine call_to (hP s0) ?_
    rintro _ _ ⟨rfl, rfl⟩
    simp (disch := omega) only [go_sem, ↓cw_block, dsB_of]
    exact fin ⟨fall, by simp [w0, w1, -List.getD_eq_getElem?_getD, hs0, qC, qV]⟩
  by_cases e2 : kind = 2
  · subst e2
    have hwl : words.length = 1 := by rw [hwn]; rfl
    obtain ⟨wb0, wo0, wc0, ew0, -, ec0⟩ := hw3.at1 (getD_some (d := ([] : Str)) (i := 0) (by rw [hwn]; decide))
    simp only [Value.slice.injEq, true_and] at ew0
    obtain ⟨rfl, rfl⟩ := ew0
    rw [Nat.add_zero] at ec0
    generalize hs0 : words.getD 0 [] = s0 at *
    refine ⟨?_⟩
    simp (disch := omega) only [go_sem, ↓cw_block, dsB_of, k0, k1, ec0]
    refine call_to (hC s0) ?_
    rintro _ _ ⟨rfl, rfl⟩
    cases qC : inL CL s0
    rotate_left
    · simp (disch := omega) only [go_sem, ↓cw_block, dsB_of]
      exact fin ⟨fall, by simp [w0, w1, -List.getD_eq_getElem?_getD, hs0, qC]⟩
    simp (disch := omega) only [go_sem, ↓cw_block, dsB_of]
    refine call_to (hV s0) ?_
    rintro _ _ ⟨rfl, rfl⟩
    cases qV : inL VL s0
    rotate_left
    · simp (disch := omega) only [go_sem, ↓cw_block, dsB_of]
      exact fin ⟨fall, by simp [w0, w1, -List.getD_eq_getElem?_getD, hs0, qC, qV]⟩
    simp (disch := omega) only [go_sem, ↓cw_block, dsB_of]
    refine call_to (hP s0) ?_
    rintro _ _ ⟨rfl, rfl⟩
    simp (disch := omega) only [go_sem, ↓cw_block, dsB_of]
    exact fin ⟨fall, by simp [w0, w1, -List.getD_eq_getElem?_getD, hs0, qC, qV]⟩
  by_cases e3 : kind = 3
  · subst e3
    have hwl : words.length = 1 := by rw [hwn]; rfl
    obtain ⟨wb0, wo0, wc0, ew0, -, ec0⟩ := hw3.at1 (getD_some (d := ([] : Str)) (i := 0) (by rw [hwn]; decide))
    simp only [Value.slice.injEq, true_and] at ew0
    obtain ⟨rfl, rfl⟩ := ew0
    rw [Nat.add_zero] at ec0
    generalize hs0 : words.getD 0 [] = s0 at *
    refine ⟨?_⟩
    simp (disch := omega) only [go_sem, ↓cw_block, dsB_of, k0, k1, ec0]
    refine call_to (hC s0) ?_
    rintro _ _ ⟨rfl, rfl⟩
    cases qC : inL CL s0
    rotate_left
    · simp (disch := omega) only [go_sem, ↓cw_block, dsB_of]
      exact fin ⟨fall, by simp [w0, w1, -List.getD_eq_getElem?_getD, hs0, qC]⟩
    simp (disch := omega) only [go_sem, ↓cw_block, dsB_of]
    refine call_to (hV s0) ?_
    rintro _ _ ⟨rfl, rfl⟩
    cases qV : inL VL s0
    rotate_left
    · simp (disch := omega) only [go_sem, ↓cw_block, dsB_of]
      exact fin ⟨fall, by simp [w0, w1, -List.getD_eq_getElem?_getD, hs0, qC, qV]⟩
    simp (disch := omega) only [go_sem, ↓cw_block, dsB_of]
    refine call_to (hP s0) ?_
    rintro _ _ ⟨rfl, rfl⟩
    simp (disch := omega) only [go_sem, ↓cw_block, dsB_of]
    exact fin ⟨fall, by simp [w0, w1, -List.getD_eq_getElem?_getD, hs0, qC, qV]⟩
  by_cases e6 : kind = 6
  · subst e6
    have hwl : words.length = 1 := by rw [hwn]; rfl
    obtain ⟨wb0, wo0, wc0, ew0, -, ec0⟩ := hw3.at1 (getD_some (d := ([] : Str)) (i := 0) (by rw [hwn]; decide))
    simp only [Value.slice.injEq, true_and] at ew0
    obtain ⟨rfl, rfl⟩ := ew0
    rw [Nat.add_zero] at ec0
    generalize hs0 : words.getD 0 [] = s0 at *
    refine ⟨?_⟩
    simp (disch := omega) only [go_sem, ↓cw_block, dsB_of, k0, k1, ec0]
    refine call_to (hV s0) ?_
    rintro _ _ ⟨rfl, rfl⟩
    simp (disch := omega) only [go_sem, ↓cw_block, dsB_of]
    exact fin ⟨fall, by simp [w0, w1, -List.getD_eq_getElem?_getD, hs0]⟩
  by_cases e18 : kind = 18
  · subst e18
    have hwl : words.length = 1 := by rw [hwn]; rfl
    obtain ⟨wb0, wo0, wc0, ew0, -, ec0⟩ := hw3.at1 (getD_some (d := ([] : Str)) (i := 0) (by rw [hwn]; decide))
    simp only [Value.slice.injEq, true_and] at ew0
    obtain ⟨rfl, rfl⟩ := ew0
    rw [Nat.add_zero] at ec0
    generalize hs0 : words.getD 0 [] = s0 at *
    refine ⟨?_⟩
    simp (disch := omega) only [go_sem, ↓cw_block, dsB_of, k0, k1, ec0]
    refine call_to (hV s0) ?_
    rintro _ _ ⟨rfl, rfl⟩
    simp (disch := omega) only [go_sem, ↓cw_block, dsB_of]
    exact fin ⟨fall, by simp [w0, w1, -List.getD_eq_getElem?_getD, hs0]⟩
  by_cases e7 : kind = 7
  · subst e7
    have hwl : words.length = 1 := by rw [hwn]; rfl
    obtain ⟨wb0, wo0, wc0, ew0, -, ec0⟩ := hw3.at1 (getD_some (d := ([] : Str)) (i := 0) (by rw [hwn]; decide))
    simp only [Value.slice.injEq, true_and] at ew0
    obtain ⟨rfl, rfl⟩ := ew0
    rw [Nat.add_zero] at ec0
    generalize hs0 : words.getD 0 [] = s0 at *
    refine ⟨?_⟩
    simp (disch := omega) only [go_sem, ↓cw_block, dsB_of, k0, k1, ec0]
    refine call_to (hC s0) ?_
    rintro _ _ ⟨rfl, rfl⟩
    simp (disch := omega) only [go_sem, ↓cw_block, dsB_of]
    exact fin ⟨fall, by simp [w0, w1, -List.getD_eq_getElem?_getD, hs0]⟩
  by_cases e19 : kind = 19
  · subst e19
    have hwl : words.length = 1 := by rw [hwn]; rfl
    obtain ⟨wb0, wo0, wc0, ew0, -, ec0⟩ := hw3.at1 (getD_some (d := ([] : Str)) (i := 0) (by rw [hwn]; decide))
    simp only [Value.slice.injEq, true_and] at ew0
    obtain ⟨rfl, rfl⟩ := ew0
    rw [Nat.add_zero] at ec0
    generalize hs0 : words.getD 0 [] = s0 at *
    refine ⟨?_⟩
    simp (disch := omega) only [go_sem, ↓cw_block, dsB_of, k0, k1, ec0]
    refine call_to (hC s0) ?_
    rintro _ _ ⟨rfl, rfl⟩
    simp (disch := omega) only [go_sem, ↓cw_block, dsB_of]
    exact fin ⟨fall, by simp [w0, w1, -List.getD_eq_getElem?_getD, hs0]⟩
  by_cases e8 : kind = 8
  · subst e8
    have hwl : words.length = 2 := by rw [hwn]; rfl
    obtain ⟨wb0, wo0, wc0, ew0, -, ec0⟩ := hw3.at1 (getD_some (d := ([] : Str)) (i := 0) (by rw [hwn]; decide))
    simp only [Value.slice.injEq, true_and] at ew0
    obtain ⟨rfl, rfl⟩ := ew0
    rw [Nat.add_zero] at ec0
    obtain ⟨wb1, wo1, wc1, ew1, -, ec1⟩ := hw3.at1 (getD_some (d := ([] : Str)) (i := 1) (by rw [hwn]; decide))
    simp only [Value.slice.injEq, Option.some.injEq, Addr.mk.injEq, and_true, true_and] at ew1
    obtain ⟨⟨rfl, rfl⟩, rfl⟩ := ew1
    generalize hs0 : words.getD 0 [] = s0 at *
    generalize hs1 : words.getD 1 [] = s1 at *
    refine ⟨?_⟩
    simp (disch := omega) only [go_sem, ↓cw_block, dsB_of, k0, k1, ec0]
    refine call_to (hC s0) ?_
    rintro _ _ ⟨rfl, rfl⟩
    cases qC : inL CL s0
    · simp (disch := omega) only [go_sem, ↓cw_block, dsB_of]
      exact fin ⟨fall, by simp [w0, w1, -List.getD_eq_getElem?_getD, hs0, hs1, qC]⟩
    simp (disch := omega) only [go_sem, ↓cw_block, dsB_of, k1, ec1]
    refine call_to (hV s1) ?_
    rintro _ _ ⟨rfl, rfl⟩
    simp (disch := omega) only [go_sem, ↓cw_block, dsB_of]
    exact fin ⟨fall, by simp [w0, w1, -List.getD_eq_getElem?_getD, hs0, hs1, qC]⟩
  refine ⟨?_⟩
  simp (disch := omega) only [go_sem, ↓cw_block, dsB_of, k0]
  refine fin ⟨fall, ?_⟩
  rw [if_neg (by simp only; omega), if_neg (by simp only; omega), if_neg (by simp only; omega), if_neg (by simp only; omega)]
theorem r11Check_spec (h : NL H S v l) (hz : Sz l) (hW : WOk l) (h8 : l.length ≤ 1000000) :
    CallF Try.prog 17 [v] H (fun r H' => Fr [] H H' ∧ r = fltV (check11 l)) NoP := by
  obtain ⟨av, cv, rfl⟩ := h.len
  obtain ⟨G, hG⟩ : ∃ G, G = H.push (.cells #[iv 0, iv 0] 27) := ⟨_, rfl⟩
  have f0 : Fr [] H G := by rw [hG]; exact Fr.push
  unfold check11
  refine callF_of Try.func17 rfl Try.ntmps17 Try.results17 (by decide) rfl ?_
  simp (disch := omega) only [go_sem, ↓cw_block, dsB_of]
  rw [← hG]
  refine loop_by (fun k ρ H2 => ∃ i : Nat, k = l.length - i ∧ i ≤ l.length ∧ firstT (bad11 l) (l.length - i) i = firstT (bad11 l) l.length 0 ∧ Fr [] G H2 ∧ (ρ.get 0 = .slice av l.length cv ∧ ρ.get 2 = hp H.size ∧ ρ.get 3 = iv i ∧ ρ.ds = [])) (k := l.length) ?_ ?_
  · exact ⟨0, rfl, by omega, rfl, Fr.refl _ _, by simp (disch := omega) only [go_sem, ↓cw_block, dsB_of]⟩
  · rintro k ρ H2 ⟨i, rfl, hi, hf, fr2, r0, r2, r3, rd⟩
    have hxi : (i : Int) + 1 = ((i + 1 : Nat) : Int) := by omega
    by_cases hin : i < l.length
    · have nl2 := h.grow (f0.trans fr2)
      have hm : l.length - i = (l.length - (i + 1)) + 1 := by omega
      rw [hm] at hf
      have hf' : (if bad11 l i then some i else firstT (bad11 l) (l.length - (i + 1)) (i + 1)) = firstT (bad11 l) l.length 0 := hf
      simp (disch := omega) only [go_sem, ↓cw_block, dsB_of, r0, r2, r3, rd]
      refine call_to (r11bad_spec nl2 hz hW h8 hin) ?_
      intro v5 H5 hv
      refine Hush.out ?_
      obtain ⟨fr5, rfl⟩ := hv
      cases hbad : bad11 l i
      · rw [hbad] at hf'
        simp only [Bool.false_eq_true, if_false] at hf'
        refine ⟨?_⟩
        simp (disch := omega) only [go_sem, ↓cw_block, dsB_of, r0, r2, r3, rd]
        exact fin ⟨l.length - (i + 1), by omega, i + 1, rfl, by omega, hf', fr2.trans fr5, by simp (disch := omega) only [go_sem, ↓cw_block, dsB_of, r0, r2, r3, rd, hxi]⟩
      · rw [hbad] at hf'
        simp only [if_true] at hf'
        obtain ⟨b, o, cap, a, q1, q2, ar, -, -, -, -, -, k4⟩ := (nl2.grow fr5).row (getD_some (d := nd0') hin)
        simp only [Value.slice.injEq, true_and] at q1
        obtain ⟨rfl, rfl⟩ := q1
        obtain ⟨X', e1, e2, e3, _⟩ := flt_res (X := H5) (H := H) (by rw [← hG]; exact fr2.trans fr5) 20 (l.getD i nd0').pos
        refine ⟨?_⟩
        simp (disch := omega) only [go_sem, ↓cw_block, dsB_of, r0, r2, r3, rd, k4, e1, e2]
        exact fin ⟨e3, by rw [← hf']; rfl⟩
    · have hm : l.length - i = 0 := by omega
      rw [hm] at hf
      have hf' : none = firstT (bad11 l) l.length 0 := hf
      obtain ⟨X', e1, e2, e3, _⟩ := flt_res (X := H2) (H := H) (by rw [← hG]; exact fr2) 0 0
      simp (disch := omega) only [go_sem, ↓cw_block, dsB_of, r0, r2, r3, rd, e1, e2]
      exact fin ⟨e3, by rw [← hf']; rfl⟩
end
end Go.Proofs.Ytpjmhomogmpklaa

/- Names: what is in sight. -/
namespace Go.Proofs.Ytpjmhomogmpklaa
open Go.HL
set_option maxRecDepth 10000
set_option linter.unusedSimpArgs false
set_option linter.unusedVariables false

structure Sg where
  C : List Str
  V : List Str
  P : List Str
  O : List Str
  ins : Bool
structure SM (H : Heap) (M sb : Nat) (c v p o : Value) (g : Sg) : Prop where
  box : Blk H sb 83 [c, v, p, o, .bool g.ins]
  low : M ≤ sb
  vc : Vec H 9 1 c (g.C.map sv)
  oc : ∀ b ∈ own c, M ≤ b ∧ b ≠ sb
  vv : Vec H 9 1 v (g.V.map sv)
  ov : ∀ b ∈ own v, M ≤ b ∧ b ≠ sb
  vp : Vec H 9 1 p (g.P.map sv)
  op : ∀ b ∈ own p, M ≤ b ∧ b ≠ sb
  vo : Vec H 9 1 o (g.O.map sv)
  oo : ∀ b ∈ own o, M ≤ b ∧ b ≠ sb
  dcv : ∀ b ∈ own c, b ∉ own v
  dcp : ∀ b ∈ own c, b ∉ own p
  dco : ∀ b ∈ own c, b ∉ own o
  dvp : ∀ b ∈ own v, b ∉ own p
  dvo : ∀ b ∈ own v, b ∉ own o
  dpo : ∀ b ∈ own p, b ∉ own o
def wrongM (g : Sg) (n : Nd) : Bool :=
  if n.kind = 1 ∨ n.kind = 2 ∨ n.kind = 3 then (inL g.C (w0 n) || (inL g.V (w0 n) || inL g.O (w0 n))) || inL g.P (w0 n)
  else if n.kind = 6 ∨ n.kind = 18 then !(inL g.V (w0 n) || inL g.O (w0 n))
  else if n.kind = 7 ∨ n.kind = 19 then !inL g.C (w0 n)
  else if n.kind = 8 then (!inL g.C (w0 n) || !(inL g.V (w1 n) || inL g.O (w1 n)))
  else false
def declM (g : Sg) (n : Nd) : Sg :=
  if n.kind = 1 then { g with C := g.C ++ [w0 n] } else if n.kind = 3 then { g with P := g.P ++ [w0 n], ins := true }
  else if n.kind = 2 then (if g.ins then { g with O := g.O ++ [w0 n] } else { g with V := g.V ++ [w0 n] }) else g
def Sg.small (g : Sg) (m : Nat) : Prop := g.C.length ≤ m ∧ g.V.length ≤ m ∧ g.P.length ≤ m ∧ g.O.length ≤ m
theorem decl_small {g : Sg} {n : Nd} {m : Nat} (h : g.small m) : (declM g n).small (m + 1) := by
  unfold Sg.small declM at *
  split
  · simp; omega
  · split
    · simp; omega
    · split
      · split <;> (simp; omega)
      · omega
section
variable {H H' : Heap} {S : Nat → Prop} {M sb : Nat} {c v p o x' : Value} {g : Sg} {s : Str} {a : AN}
theorem SM.grow (x : SM H M sb c v p o g) (q : Fr [] H H') : SM H' M sb c v p o g :=
  ⟨q.blk x.box (by simp), x.low, x.vc.frame q (by simp), x.oc, x.vv.frame q (by simp), x.ov, x.vp.frame q (by simp), x.op, x.vo.frame q (by simp), x.oo, x.dcv, x.dcp, x.dco, x.dvp, x.dvo, x.dpo⟩
theorem SM.forms (x : SM H M sb c v p o g) : ∃ a1 k1 a2 k2 a3 k3 a4 k4, c = .slice a1 g.C.length k1 ∧ v = .slice a2 g.V.length k2 ∧ p = .slice a3 g.P.length k3 ∧ o = .slice a4 g.O.length k4 := by
  have f : ∀ {y : Value} {xs : List Str}, Vec H 9 1 y (xs.map sv) → ∃ a k, y = .slice a xs.length k := by
    intro y xs h
    obtain ⟨a, l, k, e, hl⟩ := h.len
    simp at hl
    exact ⟨a, k, by rw [e, hl]⟩
  obtain ⟨a1, k1, e1⟩ := f x.vc
  obtain ⟨a2, k2, e2⟩ := f x.vv
  obtain ⟨a3, k3, e3⟩ := f x.vp
  obtain ⟨a4, k4, e4⟩ := f x.vo
  exact ⟨a1, k1, a2, k2, a3, k3, a4, k4, e1, e2, e3, e4⟩
theorem SM.appC (x : SM H M sb c v p o g) (hM : M ≤ H.size) (g1 : Vec H' 9 1 x' (g.C.map sv ++ [sv s])) (g2 : Fr (own c) H H') (g3 : ∀ b ∈ own x', b ∈ own c ∨ H.size ≤ b) :
    wr H' ⟨sb, 0, none⟩ x' = some (setH H' ⟨sb, 0, none⟩ x') ∧ SM (setH H' ⟨sb, 0, none⟩ x') M sb x' v p o { g with C := g.C ++ [s] } ∧ Blk H' sb 83 [c, v, p, o, .bool g.ins] ∧ ∀ b ∈ own c, M ≤ b := by
  have hsb := x.box.lt
  have b1 := g2.blk x.box (fun e => (x.oc _ e).2 rfl)
  have f3 : Fr [sb] H' (setH H' ⟨sb, 0, none⟩ x') := Fr.set (by simp)
  have ox : ∀ b ∈ own x', M ≤ b ∧ b ≠ sb := fun b hb => (g3 b hb).elim (x.oc b) (fun h => ⟨by omega, by omega⟩)
  refine ⟨b1.wr (by simp) _, ⟨b1.set 0 x', x.low, by rw [List.map_append]; exact g1.frame f3 (fun b hb => by simpa using (ox b hb).2), ox, (x.vv.frame g2 (fun b hb e => x.dcv b e hb)).frame f3 (fun b hb => by simpa using (x.ov b hb).2), x.ov, (x.vp.frame g2 (fun b hb e => x.dcp b e hb)).frame f3 (fun b hb => by simpa using (x.op b hb).2), x.op, (x.vo.frame g2 (fun b hb e => x.dco b e hb)).frame f3 (fun b hb => by simpa using (x.oo b hb).2), x.oo, (fun b hb e => (g3 b hb).elim (fun h => x.dcv b h e) (fun h => by have := x.vv.lt b e; omega)), (fun b hb e => (g3 b hb).elim (fun h => x.dcp b h e) (fun h => by have := x.vp.lt b e; omega)), (fun b hb e => (g3 b hb).elim (fun h => x.dco b h e) (fun h => by have := x.vo.lt b e; omega)), x.dvp, x.dvo, x.dpo⟩, b1, fun b hb => (x.oc b hb).1⟩
theorem SM.appV (x : SM H M sb c v p o g) (hM : M ≤ H.size) (g1 : Vec H' 9 1 x' (g.V.map sv ++ [sv s])) (g2 : Fr (own v) H H') (g3 : ∀ b ∈ own x', b ∈ own v ∨ H.size ≤ b) :
    wr H' ⟨sb, 1, none⟩ x' = some (setH H' ⟨sb, 1, none⟩ x') ∧ SM (setH H' ⟨sb, 1, none⟩ x') M sb c x' p o { g with V := g.V ++ [s] } ∧ Blk H' sb 83 [c, v, p, o, .bool g.ins] ∧ ∀ b ∈ own v, M ≤ b := by
  have hsb := x.box.lt
  have b1 := g2.blk x.box (fun e => (x.ov _ e).2 rfl)
  have f3 : Fr [sb] H' (setH H' ⟨sb, 1, none⟩ x') := Fr.set (by simp)
  have ox : ∀ b ∈ own x', M ≤ b ∧ b ≠ sb := fun b hb => (g3 b hb).elim (x.ov b) (fun h => ⟨by omega, by omega⟩)
  refine ⟨b1.wr (by simp) _, ⟨b1.set 1 x', x.low, (x.vc.frame g2 (fun b hb e => x.dcv b hb e)).frame f3 (fun b hb => by simpa using (x.oc b hb).2), x.oc, by rw [List.map_append]; exact g1.frame f3 (fun b hb => by simpa using (ox b hb).2), ox, (x.vp.frame g2 (fun b hb e => x.dvp b e hb)).frame f3 (fun b hb => by simpa using (x.op b hb).2), x.op, (x.vo.frame g2 (fun b hb e => x.dvo b e hb)).frame f3 (fun b hb => by simpa using (x.oo b hb).2), x.oo, (fun b hb e => (g3 b e).elim (fun h => x.dcv b hb h) (fun h => by have := x.vc.lt b hb; omega)), x.dcp, x.dco, (fun b hb e => (g3 b hb).elim (fun h => x.dvp b h e) (fun h => by have := x.vp.lt b e; omega)), (fun b hb e => (g3 b hb).elim (fun h => x.dvo b h e) (fun h => by have := x.vo.lt b e; omega)), x.dpo⟩, b1, fun b hb => (x.ov b hb).1⟩
theorem SM.appP (x : SM H M sb c v p o g) (hM : M ≤ H.size) (g1 : Vec H' 9 1 x' (g.P.map sv ++ [sv s])) (g2 : Fr (own p) H H') (g3 : ∀ b ∈ own x', b ∈ own p ∨ H.size ≤ b) :
    wr H' ⟨sb, 2, none⟩ x' = some (setH H' ⟨sb, 2, none⟩ x') ∧ SM (setH H' ⟨sb, 2, none⟩ x') M sb c v x' o { g with P := g.P ++ [s] } ∧ Blk H' sb 83 [c, v, p, o, .bool g.ins] ∧ ∀ b ∈ own p, M ≤ b := by
  have hsb := x.box.lt
  have b1 := g2.blk x.box (fun e => (x.op _ e).2 rfl)
  have f3 : Fr [sb] H' (setH H' ⟨sb, 2, none⟩ x') := Fr.set (by simp)
  have ox : ∀ b ∈ own x', M ≤ b ∧ b ≠ sb := fun b hb => (g3 b hb).elim (x.op b) (fun h => ⟨by omega, by omega⟩)
  refine ⟨b1.wr (by simp) _, ⟨b1.set 2 x', x.low, (x.vc.frame g2 (fun b hb e => x.dcp b hb e)).frame f3 (fun b hb => by simpa using (x.oc b hb).2), x.oc, (x.vv.frame g2 (fun b hb e => x.dvp b hb e)).frame f3 (fun b hb => by simpa using (x.ov b hb).2), x.ov, by rw [List.map_append]; exact g1.frame f3 (fun b hb => by simpa using (ox b hb).2), ox, (x.vo.frame g2 (fun b hb e => x.dpo b e hb)).frame f3 (fun b hb => by simpa using (x.oo b hb).2), x.oo, x.dcv, (fun b hb e => (g3 b e).elim (fun h => x.dcp b hb h) (fun h => by have := x.vc.lt b hb; omega)), x.dco, (fun b hb e => (g3 b e).elim (fun h => x.dvp b hb h) (fun h => by have := x.vv.lt b hb; omega)), x.dvo, (fun b hb e => (g3 b hb).elim (fun h => x.dpo b h e) (fun h => by have := x.vo.lt b e; omega))⟩, b1, fun b hb => (x.op b hb).1⟩
theorem SM.appO (x : SM H M sb c v p o g) (hM : M ≤ H.size) (g1 : Vec H' 9 1 x' (g.O.map sv ++ [sv s])) (g2 : Fr (own o) H H') (g3 : ∀ b ∈ own x', b ∈ own o ∨ H.size ≤ b) :
    wr H' ⟨sb, 3, none⟩ x' = some (setH H' ⟨sb, 3, none⟩ x') ∧ SM (setH H' ⟨sb, 3, none⟩ x') M sb c v p x' { g with O := g.O ++ [s] } ∧ Blk H' sb 83 [c, v, p, o, .bool g.ins] ∧ ∀ b ∈ own o, M ≤ b := by
  have hsb := x.box.lt
  have b1 := g2.blk x.box (fun e => (x.oo _ e).2 rfl)
  have f3 : Fr [sb] H' (setH H' ⟨sb, 3, none⟩ x') := Fr.set (by simp)
  have ox : ∀ b ∈ own x', M ≤ b ∧ b ≠ sb := fun b hb => (g3 b hb).elim (x.oo b) (fun h => ⟨by omega, by omega⟩)
  refine ⟨b1.wr (by simp) _, ⟨b1.set 3 x', x.low, (x.vc.frame g2 (fun b hb e => x.dco b hb e)).frame f3 (fun b hb => by simpa using (x.oc b hb).2), x.oc, (x.vv.frame g2 (fun b hb e => x.dvo b hb e)).frame f3 (fun b hb => by simpa using (x.ov b hb).2), x.ov, (x.vp.frame g2 (fun b hb e => x.dpo b hb e)).frame f3 (fun b hb => by simpa using (x.op b hb).2), x.op, by rw [List.map_append]; exact g1.frame f3 (fun b hb => by simpa using (ox b hb).2), ox, x.dcv, x.dcp, (fun b hb e => (g3 b e).elim (fun h => x.dco b hb h) (fun h => by have := x.vc.lt b hb; omega)), x.dvp, (fun b hb e => (g3 b e).elim (fun h => x.dvo b hb h) (fun h => by have := x.vv.lt b hb; omega)), (fun b hb e => (g3 b e).elim (fun h => x.dpo b hb h) (fun h => by have := x.vp.lt b hb; omega))⟩, b1, fun b hb => (x.oo b hb).1⟩
/-- An item begins. -/
theorem SM.reset (x : SM H M sb c v p o g) : wr H ⟨sb, 3, none⟩ (.slice none 0 0) = some (setH H ⟨sb, 3, none⟩ (.slice none 0 0)) ∧ wr (setH H ⟨sb, 3, none⟩ (.slice none 0 0)) ⟨sb, 4, none⟩ (.bool false) = some (setH (setH H ⟨sb, 3, none⟩ (.slice none 0 0)) ⟨sb, 4, none⟩ (.bool false)) ∧
    SM (setH (setH H ⟨sb, 3, none⟩ (.slice none 0 0)) ⟨sb, 4, none⟩ (.bool false)) M sb c v p (.slice none 0 0) { g with O := [], ins := false } := by
  have b1 := x.box.set 3 (.slice none 0 0)
  have b2 := b1.set 4 (.bool false)
  have f : Fr [sb] H (setH (setH H ⟨sb, 3, none⟩ (.slice none 0 0)) ⟨sb, 4, none⟩ (.bool false)) := (Fr.set (by simp)).trans (Fr.set (by simp))
  exact ⟨x.box.wr (by simp) _, b1.wr (by simp) _, ⟨b2, x.low, x.vc.frame f (fun b hb => by simpa using (x.oc b hb).2), x.oc, x.vv.frame f (fun b hb => by simpa using (x.ov b hb).2), x.ov, x.vp.frame f (fun b hb => by simpa using (x.op b hb).2), x.op, Vec.nil, by simp [own], x.dcv, x.dcp, by simp [own], x.dvp, by simp [own], by simp [own]⟩⟩
/-- A process is declared. -/
theorem SM.inside (x : SM H M sb c v p o g) : wr H ⟨sb, 4, none⟩ (.bool true) = some (setH H ⟨sb, 4, none⟩ (.bool true)) ∧ SM (setH H ⟨sb, 4, none⟩ (.bool true)) M sb c v p o { g with ins := true } := by
  have b1 := x.box.set 4 (.bool true)
  have f : Fr [sb] H (setH H ⟨sb, 4, none⟩ (.bool true)) := Fr.set (by simp)
  exact ⟨x.box.wr (by simp) _, ⟨b1, x.low, x.vc.frame f (fun b hb => by simpa using (x.oc b hb).2), x.oc, x.vv.frame f (fun b hb => by simpa using (x.ov b hb).2), x.ov, x.vp.frame f (fun b hb => by simpa using (x.op b hb).2), x.op, x.vo.frame f (fun b hb => by simpa using (x.oo b hb).2), x.oo, x.dcv, x.dcp, x.dco, x.dvp, x.dvo, x.dpo⟩⟩
theorem sgChannel_spec (x : SM H M sb c v p o g) (hs : g.small 1000000) : CallF Try.prog 50 [hp sb, sv s] H (fun r H' => H = H' ∧ r = .bool (inL g.C s)) NoP := by
  have k0 := x.box.cell 0
  simp only [List.getElem?_cons_succ, List.getElem?_cons_zero] at k0
  unfold Sg.small at hs
  obtain ⟨a1, k1, a2, k2, a3, k3, a4, k4, e1, e2, e3, e4⟩ := x.forms
  subst e1 e2 e3 e4
  refine callF_of Try.func50 rfl Try.ntmps50 Try.results50 (by decide) rfl ?_
  simp (disch := omega) only [go_sem, ↓cw_block, dsB_of, k0]
  refine call_to (sContains_spec (Rd.of_vec (S := fun _ => True) x.vc (fun _ _ => trivial)) (by omega)) ?_
  rintro _ _ ⟨rfl, rfl⟩
  simp (disch := omega) only [go_sem, ↓cw_block, dsB_of]
  exact fin ⟨rfl, rfl⟩
theorem sgVariable_spec (x : SM H M sb c v p o g) (hs : g.small 1000000) : CallF Try.prog 51 [hp sb, sv s] H (fun r H' => H = H' ∧ r = .bool (inL g.V s || inL g.O s)) NoP := by
  have k1' := x.box.cell 1
  have k3' := x.box.cell 3
  simp only [List.getElem?_cons_succ, List.getElem?_cons_zero] at k1' k3'
  unfold Sg.small at hs
  obtain ⟨a1, k1, a2, k2, a3, k3, a4, k4, e1, e2, e3, e4⟩ := x.forms
  subst e1 e2 e3 e4
  refine callF_of Try.func51 rfl Try.ntmps51 Try.results51 (by decide) rfl ?_
  simp (disch := omega) only [go_sem, ↓cw_block, dsB_of, k1']
  refine call_to (sContains_spec (Rd.of_vec (S := fun _ => True) x.vv (fun _ _ => trivial)) (by omega)) ?_
  rintro _ _ ⟨rfl, rfl⟩
  cases q : inL g.V s
  · simp (disch := omega) only [go_sem, ↓cw_block, dsB_of, k3']
    refine call_to (sContains_spec (Rd.of_vec (S := fun _ => True) x.vo (fun _ _ => trivial)) (by omega)) ?_
    rintro _ _ ⟨rfl, rfl⟩
    simp (disch := omega) only [go_sem, ↓cw_block, dsB_of]
    exact fin ⟨rfl, by simp⟩
  · simp (disch := omega) only [go_sem, ↓cw_block, dsB_of]
    exact fin ⟨rfl, by simp⟩
set_option maxHeartbeats 2000000 in
theorem sgWrong_spec (x : SM H M sb c v p o g) (hs : g.small 1000000) (ha : AR H S a) (hwn : a.n.words.length = wcount a.n.kind) : CallF Try.prog 30 [hp sb, anV a] H (fun r H' => Fr [] H H' ∧ r = .bool (wrongM g a.n)) NoP := by
  obtain ⟨⟨kind, words, nums, kids, pos⟩, x1, c1, x2, c2, x3, c3, rfl⟩ := ha.open
  simp only at hwn
  obtain ⟨G, hG⟩ : ∃ G, G = H.push (.cells #[iv kind, .slice x1 words.length c1, .slice x2 nums.length c2, .slice x3 kids.length c3, iv pos] 60) := ⟨_, rfl⟩
  have f0 : Fr [] H G := by rw [hG]; exact Fr.push
  have zG : G.size = H.size + 1 := by rw [hG]; simp
  have hb : Blk G H.size 60 [iv kind, .slice x1 words.length c1, .slice x2 nums.length c2, .slice x3 kids.length c3, iv pos] := by rw [hG]; exact Blk.new rfl
  have k0 := hb.cell 0
  have k1 := hb.cell 1
  simp only [List.getElem?_cons_succ, List.getElem?_cons_zero] at k0 k1
  have xG := x.grow f0
  have hw3 := ha.w.frame (Keeps.of_fr f0 (by simp))
  simp only at hw3
  refine callF_of Try.func30 rfl Try.ntmps30 Try.results30 (by decide) rfl ?_
  by_cases e1 : kind = 1
  · subst e1
    have hwl : words.length = 1 := by rw [hwn]; rfl
    obtain ⟨wb0, wo0, wc0, ew0, -, ec0⟩ := hw3.at1 (getD_some (d := ([] : Str)) (i := 0) (by rw [hwn]; decide))
    simp only [Value.slice.injEq, true_and] at ew0
    obtain ⟨rfl, rfl⟩ := ew0
    rw [Nat.add_zero] at ec0
    generalize hs0 : words.getD 0 [] = s0 at *
    simp (disch := omega) only [go_sem, ↓cw_block, dsB_of, anV]
    rw [← hG]
    try (simp (disch := omega) only [go_sem, ↓cw_block, dsB_of, k0, k1, ec0])
    refine call_to (sgChannel_spec (s := s0) xG hs) ?_
    rintro _ _ ⟨rfl, rfl⟩
    cases qC : inL g.C s0
    rotate_left
    · simp (disch := omega) only [go_sem, ↓cw_block, dsB_of]
      exact fin ⟨f0, by simp [wrongM, w0, w1, -List.getD_eq_getElem?_getD, hs0, qC]⟩
    simp (disch := omega) only [go_sem, ↓cw_block, dsB_of]
    refine call_to (sgVariable_spec (s := s0) xG hs) ?_
    rintro _ _ ⟨rfl, rfl⟩
    cases qV : (inL g.V s0 || inL g.O s0)
    rotate_left
    · simp (disch := omega) only [go_sem, ↓cw_block, dsB_of]
      exact fin ⟨f0, by simp [wrongM, w0, w1, -List.getD_eq_getElem?_getD, hs0, qC, qV]⟩
    have kp := xG.box.cell 2
    simp only [List.getElem?_cons_succ, List.getElem?_cons_zero] at kp
    obtain ⟨a1, k1', a2, k2', a3, k3', a4, k4', e1', e2', e3', e4'⟩ := xG.forms
    rw [e3'] at kp
    simp (disch := omega) only [go_sem, ↓cw_block, dsB_of, kp]
    refine call_to (sContains_spec (Rd.of_vec (S := fun _ => True) (e3' ▸ xG.vp) (fun _ _ => trivial)) (by have := hs; unfold Sg.small at this; omega)) ?_
    rintro _ _ ⟨rfl, rfl⟩
    simp (disch := omega) only [go_sem, ↓cw_block, dsB_of]
    exact fin ⟨f0, by simp [wrongM, w0, w1, -List.getD_eq_getElem?_getD, hs0, qC, qV]⟩
  by_cases e2 : kind = 2
  · subst e2
    have hwl : words.length = 1 := by rw [hwn]; rfl
    obtain ⟨wb0, wo0, wc0, ew0, -, ec0⟩ := hw3.at1 (getD_some (d := ([] : Str)) (i := 0) (by rw [hwn]; decide))
    simp only [Value.slice.injEq, true_and] at ew0
    obtain ⟨rfl, rfl⟩ := ew0
    rw [Nat.add_zero] at ec0
    generalize hs0 : words.getD 0 [] = s0 at *
    simp (disch := omega) only [go_sem, ↓cw_block, dsB_of, anV]
    rw [← hG]
    try (simp (disch := omega) only [go_sem, ↓cw_block, dsB_of, k0, k1, ec0])
    refine call_to (sgChannel_spec (s := s0) xG hs) ?_
    rintro _ _ ⟨rfl, rfl⟩
    cases qC : inL g.C s0
    rotate_left
    · simp (disch := omega) only [go_sem, ↓cw_block, dsB_of]
      exact fin ⟨f0, by simp [wrongM, w0, w1, -List.getD_eq_getElem?_getD, hs0, qC]⟩
    simp (disch := omega) only [go_sem, ↓cw_block, dsB_of]
    refine call_to (sgVariable_spec (s := s0) xG hs) ?_
    rintro _ _ ⟨rfl, rfl⟩
    cases qV : (inL g.V s0 || inL g.O s0)
    rotate_left
    · simp (disch := omega) only [go_sem, ↓cw_block, dsB_of]
      exact fin ⟨f0, by simp [wrongM, w0, w1, -List.getD_eq_getElem?_getD, hs0, qC, qV]⟩
    have kp := xG.box.cell 2
    simp only [List.getElem?_cons_succ, List.getElem?_cons_zero] at kp
    obtain ⟨a1, k1', a2, k2', a3, k3', a4, k4', e1', e2', e3', e4'⟩ := xG.forms
    rw [e3'] at kp
    simp (disch := omega) only [go_sem, ↓cw_block, dsB_of, kp]
    refine call_to (sContains_spec (Rd.of_vec (S := fun _ => True) (e3' ▸ xG.vp) (fun _ _ => trivial)) (by have := hs; unfold Sg.small at this; omega)) ?_
    rintro _ _ ⟨rfl, rfl⟩
    simp (disch := omega) only [go_sem, ↓cw_block, dsB_of]
    exact fin ⟨f0, by simp [wrongM, w0, w1, -List.getD_eq_getElem?_getD, hs0, qC, qV]⟩
  by_cases e3 : kind = 3
  · subst e3
    have hwl : words.length = 1 := by rw [hwn]; rfl
    obtain ⟨wb0, wo0, wc0, ew0, -, ec0⟩ := hw3.at1 (getD_some (d := ([] : Str)) (i := 0) (by rw [hwn]; decide))
    simp only [Value.slice.injEq, true_and] at ew0
    obtain ⟨rfl, rfl⟩ := ew0
    rw [Nat.add_zero] at ec0
    generalize hs0 : words.getD 0 [] = s0 at *
    simp (disch := omega) only [go_sem, ↓cw_block, dsB_of, anV]
    rw [← hG]
    try (simp (disch := omega) only [go_sem, ↓cw_block, dsB_of, k0, k1, ec0])
    refine call_to (sgChannel_spec (s := s0) xG hs) ?_
    rintro _ _ ⟨rfl, rfl⟩
    cases qC : inL g.C s0
    rotate_left
    · simp (disch := omega) only [go_sem, ↓cw_block, dsB_of]
      exact fin ⟨f0, by simp [wrongM, w0, w1, -List.getD_eq_getElem?_getD, hs0, qC]⟩
    simp (disch := omega) only [go_sem, ↓cw_block, dsB_of]
    refine call_to (sgVariable_spec (s := s0) xG hs) ?_
    rintro _ _ ⟨rfl, rfl⟩
    cases qV : (inL g.V s0 || inL g.O s0)
    rotate_left
    · simp (disch := omega) only [go_sem, ↓cw_block, dsB_of]
      exact fin ⟨f0, by simp [wrongM, w0, w1, -List.getD_eq_getElem?_getD, hs0, qC, qV]⟩
    have kp := xG.box.cell 2
    simp only [List.getElem?_cons_succ, List.getElem?_cons_zero] at kp
    obtain ⟨a1, k1', a2, k2', a3, k3', a4, k4', e1', e2', e3', e4'⟩ := xG.forms
    rw [e3'] at kp
    simp (disch := omega) only [go_sem, ↓cw_block, dsB_of, kp]
    refine call_to (sContains_spec (Rd.of_vec (S := fun _ => True) (e3' ▸ xG.vp) (fun _ _ => trivial)) (by have := hs; unfold Sg.small at this; omega)) ?_
    rintro _ _ ⟨rfl, rfl⟩
    simp (disch := omega) only [go_sem, ↓cw_block, dsB_of]
    exact fin ⟨f0, by simp [wrongM, w0, w1, -List.getD_eq_getElem?_getD, hs0, qC, qV]⟩
  by_cases e6 : kind = 6
  · subst e6
    have hwl : words.length = 1 := by rw [hwn]; rfl
    obtain ⟨wb0, wo0, wc0, ew0, -, ec0⟩ := hw3.at1 (getD_some (d := ([] : Str)) (i := 0) (by rw [hwn]; decide))
    simp only [Value.slice.injEq, true_and] at ew0
    obtain ⟨rfl, rfl⟩ := ew0
    rw [Nat.add_zero] at ec0
    generalize hs0 : words.getD 0 [] = s0 at *
    simp (disch := omega) only [go_sem, ↓cw_block, dsB_of, anV]
    rw [← hG]
    try (simp (disch := omega) only [go_sem, ↓cw_block, dsB_of, k0, k1, ec0])
    refine call_to (sgVariable_spec (s := s0) xG hs) ?_
    rintro _ _ ⟨rfl, rfl⟩
    simp (disch := omega) only [go_sem, ↓cw_block, dsB_of]
    exact fin ⟨f0, by simp [wrongM, w0, w1, -List.getD_eq_getElem?_getD, hs0]⟩
  by_cases e18 : kind = 18
  · subst e18
    have hwl : words.length = 1 := by rw [hwn]; rfl
    obtain ⟨wb0, wo0, wc0, ew0, -, ec0⟩ := hw3.at1 (getD_some (d := ([] : Str)) (i := 0) (by rw [hwn]; decide))
    simp only [Value.slice.injEq, true_and] at ew0
    obtain ⟨rfl, rfl⟩ := ew0
    rw [Nat.add_zero] at ec0
    generalize hs0 : words.getD 0 [] = s0 at *
    simp (disch := omega) only [go_sem, ↓cw_block, dsB_of, anV]
    rw [← hG]
    try (simp (disch := omega) only [go_sem, ↓cw_block, dsB_of, k0, k1, ec0])
    refine call_to (sgVariable_spec (s := s0) xG hs) ?_
    rintro _ _ ⟨rfl, rfl⟩
    simp (disch := omega) only [go_sem, ↓cw_block, dsB_of]
    exact fin ⟨f0, by simp [wrongM, w0, w1, -List.getD_eq_getElem?_getD, hs0]⟩
  by_cases e7 : kind = 7
  · subst e7
    have hwl : words.length = 1 := by rw [hwn]; rfl
    obtain ⟨wb0, wo0, wc0, ew0, -, ec0⟩ := hw3.at1 (getD_some (d := ([] : Str)) (i := 0) (by rw [hwn]; decide))
    simp only [Value.slice.injEq, true_and] at ew0
    obtain ⟨rfl, rfl⟩ := ew0
    rw [Nat.add_zero] at ec0
    generalize hs0 : words.getD 0 [] = s0 at *
    simp (disch := omega) only [go_sem, ↓cw_block, dsB_of, anV]
    rw [← hG]
    try (simp (disch := omega) only [go_sem, ↓cw_block, dsB_of, k0, k1, ec0])
    refine call_to (sgChannel_spec (s := s0) xG hs) ?_
    rintro _ _ ⟨rfl, rfl⟩
    simp (disch := omega) only [go_sem, ↓cw_block, dsB_of]
    exact fin ⟨f0, by simp [wrongM, w0, w1, -List.getD_eq_getElem?_getD, hs0]⟩
  by_cases e19 : kind = 19
  · subst e19
    have hwl : words.length = 1 := by rw [hwn]; rfl
    obtain ⟨wb0, wo0, wc0, ew0, -, ec0⟩ := hw3.at1 (getD_some (d := ([] : Str)) (i := 0) (by rw [hwn]; decide))
    simp only [Value.slice.injEq, true_and] at ew0
    obtain ⟨rfl, rfl⟩ := ew0
    rw [Nat.add_zero] at ec0
    generalize hs0 : words.getD 0 [] = s0 at *
    simp (disch := omega) only [go_sem, ↓cw_block, dsB_of, anV]
    rw [← hG]
    try (simp (disch := omega) only [go_sem, ↓cw_block, dsB_of, k0, k1, ec0])
    refine call_to (sgChannel_spec (s := s0) xG hs) ?_
    rintro _ _ ⟨rfl, rfl⟩
    simp (disch := omega) only [go_sem, ↓cw_block, dsB_of]
    exact fin ⟨f0, by simp [wrongM, w0, w1, -List.getD_eq_getElem?_getD, hs0]⟩
  by_cases e8 : kind = 8
  · subst e8
    have hwl : words.length = 2 := by rw [hwn]; rfl
    obtain ⟨wb0, wo0, wc0, ew0, -, ec0⟩ := hw3.at1 (getD_some (d := ([] : Str)) (i := 0) (by rw [hwn]; decide))
    simp only [Value.slice.injEq, true_and] at ew0
    obtain ⟨rfl, rfl⟩ := ew0
    rw [Nat.add_zero] at ec0
    obtain ⟨wb1, wo1, wc1, ew1, -, ec1⟩ := hw3.at1 (getD_some (d := ([] : Str)) (i := 1) (by rw [hwn]; decide))
    simp only [Value.slice.injEq, Option.some.injEq, Addr.mk.injEq, and_true, true_and] at ew1
    obtain ⟨⟨rfl, rfl⟩, rfl⟩ := ew1
    generalize hs0 : words.getD 0 [] = s0 at *
    generalize hs1 : words.getD 1 [] = s1 at *
    simp (disch := omega) only [go_sem, ↓cw_block, dsB_of, anV]
    rw [← hG]
    try (simp (disch := omega) only [go_sem, ↓cw_block, dsB_of, k0, k1, ec0])
    refine call_to (sgChannel_spec (s := s0) xG hs) ?_
    rintro _ _ ⟨rfl, rfl⟩
    cases qC : inL g.C s0
    · simp (disch := omega) only [go_sem, ↓cw_block, dsB_of]
      exact fin ⟨f0, by simp [wrongM, w0, w1, -List.getD_eq_getElem?_getD, hs0, qC, hs1]⟩
    simp (disch := omega) only [go_sem, ↓cw_block, dsB_of, k1, ec1]
    refine call_to (sgVariable_spec (s := s1) xG hs) ?_
    rintro _ _ ⟨rfl, rfl⟩
    simp (disch := omega) only [go_sem, ↓cw_block, dsB_of]
    exact fin ⟨f0, by simp [wrongM, w0, w1, -List.getD_eq_getElem?_getD, hs0, qC, hs1]⟩
  simp (disch := omega) only [go_sem, ↓cw_block, dsB_of, anV]
  refine fin ⟨Fr.push, ?_⟩
  unfold wrongM
  rw [if_neg (by simp only; omega), if_neg (by simp only; omega), if_neg (by simp only; omega), if_neg (by simp only; omega)]
/-- What declare leaves. -/
def DecQ (H : Heap) (M sb : Nat) (g : Sg) (H' : Heap) : Prop := ∃ c v p o, SM H' M sb c v p o g ∧ ∃ F, Fr F H H' ∧ ∀ b ∈ F, M ≤ b
set_option maxHeartbeats 2000000 in
theorem sgDeclare_spec (x : SM H M sb c v p o g) (hM : M ≤ H.size) (hs : g.small 1000000) (ha : AR H S a) (hwn : a.n.words.length = wcount a.n.kind) : CallF Try.prog 53 [hp sb, anV a] H (fun r H' => DecQ H M sb (declM g a.n) H') NoP := by
  obtain ⟨⟨kind, words, nums, kids, pos⟩, x1, c1, x2, c2, x3, c3, rfl⟩ := ha.open
  simp only at hwn
  obtain ⟨G, hG⟩ : ∃ G, G = H.push (.cells #[iv kind, .slice x1 words.length c1, .slice x2 nums.length c2, .slice x3 kids.length c3, iv pos] 60) := ⟨_, rfl⟩
  have f0 : Fr [] H G := by rw [hG]; exact Fr.push
  have zG : G.size = H.size + 1 := by rw [hG]; simp
  have hb : Blk G H.size 60 [iv kind, .slice x1 words.length c1, .slice x2 nums.length c2, .slice x3 kids.length c3, iv pos] := by rw [hG]; exact Blk.new rfl
  have k0 := hb.cell 0
  have k1 := hb.cell 1
  simp only [List.getElem?_cons_succ, List.getElem?_cons_zero] at k0 k1
  have xG := x.grow f0
  have hw3 := ha.w.frame (Keeps.of_fr f0 (by simp))
  simp only at hw3
  refine callF_of Try.func53 rfl Try.ntmps53 Try.results53 (by decide) rfl ?_
  by_cases e1 : kind = 1
  · subst e1
    have hwl : words.length = 1 := by rw [hwn]; rfl
    obtain ⟨wb0, wo0, wc0, ew0, -, ec0⟩ := hw3.at1 (getD_some (d := ([] : Str)) (i := 0) (by rw [hwn]; decide))
    simp only [Value.slice.injEq, true_and] at ew0
    obtain ⟨rfl, rfl⟩ := ew0
    rw [Nat.add_zero] at ec0
    generalize hs0 : words.getD 0 [] = s0 at *
    simp (disch := omega) only [go_sem, ↓cw_block, dsB_of, anV]
    rw [← hG]
    try (simp (disch := omega) only [go_sem, ↓cw_block, dsB_of, k0, k1, ec0])
    obtain ⟨a1, k1', a2, k2', a3, k3', a4, k4', e1', e2', e3', e4'⟩ := xG.forms
    subst e1' e2' e3' e4'
    refine draw1 (lk [(0, false), (1, false), (2, false), (3, false), (4, false), (5, true), (6, true), (7, true), (8, true)] (.act 9 (.act 10 (lk [(11, true), (12, true)] (.actd 13 .fin)) .non) .non)) T.mixed (hlist sb 0 _) (heldOK_blk xG.box) ?_
    simp (disch := omega) only [go_sem, ↓cw_block, dsB_of, k1, ec0]
    refine held_by (heldOK_blk (xG.grow Fr.push).box) ?_
    simp (disch := omega) only [go_sem, ↓cw_block, dsB_of, k1, ec0]
    refine app_lit1 T.el33 rfl xG.vc rfl (by simp; unfold Sg.small at hs; omega) ?_
    intro v' HZ g1 g2 g3 g4
    refine Hush.out ?_
    obtain ⟨aa, cc, hv'⟩ := g4
    obtain ⟨w5, x5, bx, o5⟩ := xG.appC (by omega) g1 g2 g3
    subst hv'
    refine ⟨?_⟩
    first | refine held_by (heldOK_blk bx) ?_ | skip
    simp (disch := omega) only [go_sem, ↓cw_block, dsB_of, w5]
    exact fin ⟨_, _, _, _, by simpa [declM, w0, -List.getD_eq_getElem?_getD, hs0] using x5, _, (f0.cat g2).cat (Fr.set (a := ⟨sb, 0, none⟩) (F := [sb]) (by simp)), by intro b hb; simp only [List.nil_append, List.mem_append, List.mem_singleton] at hb; rcases hb with hb | rfl; exact o5 b hb; exact xG.low⟩
  by_cases e3 : kind = 3
  · subst e3
    have hwl : words.length = 1 := by rw [hwn]; rfl
    obtain ⟨wb0, wo0, wc0, ew0, -, ec0⟩ := hw3.at1 (getD_some (d := ([] : Str)) (i := 0) (by rw [hwn]; decide))
    simp only [Value.slice.injEq, true_and] at ew0
    obtain ⟨rfl, rfl⟩ := ew0
    rw [Nat.add_zero] at ec0
    generalize hs0 : words.getD 0 [] = s0 at *
    simp (disch := omega) only [go_sem, ↓cw_block, dsB_of, anV]
    rw [← hG]
    try (simp (disch := omega) only [go_sem, ↓cw_block, dsB_of, k0, k1, ec0])
    obtain ⟨a1, k1', a2, k2', a3, k3', a4, k4', e1', e2', e3', e4'⟩ := xG.forms
    subst e1' e2' e3' e4'
    refine draw1 (lk [(0, false), (1, false), (2, false), (3, false), (4, false), (5, true), (6, true), (7, true), (8, true)] (.act 9 (.act 10 (lk [(11, true), (12, true)] (.actd 13 .fin)) .non) .non)) T.mixed (hlist sb 0 _) (heldOK_blk xG.box) ?_
    simp (disch := omega) only [go_sem, ↓cw_block, dsB_of, k1, ec0]
    refine held_by (heldOK_blk (xG.grow Fr.push).box) ?_
    simp (disch := omega) only [go_sem, ↓cw_block, dsB_of, k1, ec0]
    refine app_lit1 T.el33 rfl xG.vp rfl (by simp; unfold Sg.small at hs; omega) ?_
    intro v' HZ g1 g2 g3 g4
    refine Hush.out ?_
    obtain ⟨aa, cc, hv'⟩ := g4
    obtain ⟨w5, x5, bx, o5⟩ := xG.appP (by omega) g1 g2 g3
    subst hv'
    refine ⟨?_⟩
    first | refine held_by (heldOK_blk bx) ?_ | skip
    obtain ⟨w6, x6⟩ := x5.inside
    simp (disch := omega) only [go_sem, ↓cw_block, dsB_of, w5, w6]
    exact fin ⟨_, _, _, _, by simpa [declM, w0, -List.getD_eq_getElem?_getD, hs0] using x6, _, ((f0.cat g2).cat (Fr.set (a := ⟨sb, 2, none⟩) (F := [sb]) (by simp))).cat (Fr.set (a := ⟨sb, 4, none⟩) (F := [sb]) (by simp)), by intro b hb; simp only [List.nil_append, List.mem_append, List.mem_singleton] at hb; rcases hb with (hb | rfl) | rfl; exact o5 b hb; exact xG.low; exact xG.low⟩
  by_cases e2 : kind = 2
  · subst e2
    have hwl : words.length = 1 := by rw [hwn]; rfl
    obtain ⟨wb0, wo0, wc0, ew0, -, ec0⟩ := hw3.at1 (getD_some (d := ([] : Str)) (i := 0) (by rw [hwn]; decide))
    simp only [Value.slice.injEq, true_and] at ew0
    obtain ⟨rfl, rfl⟩ := ew0
    rw [Nat.add_zero] at ec0
    generalize hs0 : words.getD 0 [] = s0 at *
    have ki := xG.box.cell 4
    simp only [List.getElem?_cons_succ, List.getElem?_cons_zero] at ki
    cases hi : g.ins
    · rw [hi] at ki
      simp (disch := omega) only [go_sem, ↓cw_block, dsB_of, anV]
      rw [← hG]
      try (simp (disch := omega) only [go_sem, ↓cw_block, dsB_of, k0, k1, ec0, ki])
      obtain ⟨a1, k1', a2, k2', a3, k3', a4, k4', e1', e2', e3', e4'⟩ := xG.forms
      subst e1' e2' e3' e4'
      refine draw1 (lk [(0, false), (1, false), (2, false), (3, false), (4, false), (5, true), (6, true), (7, true), (8, true)] (.act 9 (.act 10 (lk [(11, true), (12, true)] (.actd 13 .fin)) .non) .non)) T.mixed (hlist sb 0 _) (heldOK_blk xG.box) ?_
      simp (disch := omega) only [go_sem, ↓cw_block, dsB_of, k1, ec0]
      refine held_by (heldOK_blk (xG.grow Fr.push).box) ?_
      simp (disch := omega) only [go_sem, ↓cw_block, dsB_of, k1, ec0]
      refine app_lit1 T.el33 rfl xG.vv rfl (by simp; unfold Sg.small at hs; omega) ?_
      intro v' HZ g1 g2 g3 g4
      refine Hush.out ?_
      obtain ⟨aa, cc, hv'⟩ := g4
      obtain ⟨w5, x5, bx, o5⟩ := xG.appV (by omega) g1 g2 g3
      subst hv'
      refine ⟨?_⟩
      first | refine held_by (heldOK_blk bx) ?_ | skip
      simp (disch := omega) only [go_sem, ↓cw_block, dsB_of, w5]
      exact fin ⟨_, _, _, _, by simpa [declM, w0, -List.getD_eq_getElem?_getD, hs0, hi] using x5, _, (f0.cat g2).cat (Fr.set (a := ⟨sb, 1, none⟩) (F := [sb]) (by simp)), by intro b hb; simp only [List.nil_append, List.mem_append, List.mem_singleton] at hb; rcases hb with hb | rfl; exact o5 b hb; exact xG.low⟩
    · rw [hi] at ki
      simp (disch := omega) only [go_sem, ↓cw_block, dsB_of, anV]
      rw [← hG]
      try (simp (disch := omega) only [go_sem, ↓cw_block, dsB_of, k0, k1, ec0, ki])
      obtain ⟨a1, k1', a2, k2', a3, k3', a4, k4', e1', e2', e3', e4'⟩ := xG.forms
      subst e1' e2' e3' e4'
      refine draw1 (lk [(0, false), (1, false), (2, false), (3, false), (4, false), (5, true), (6, true), (7, true), (8, true)] (.act 9 (.act 10 (lk [(11, true), (12, true)] (.actd 13 .fin)) .non) .non)) T.mixed (hlist sb 0 _) (heldOK_blk xG.box) ?_
      simp (disch := omega) only [go_sem, ↓cw_block, dsB_of, k1, ec0]
      refine held_by (heldOK_blk (xG.grow Fr.push).box) ?_
      simp (disch := omega) only [go_sem, ↓cw_block, dsB_of, k1, ec0]
      refine app_lit1 T.el33 rfl xG.vo rfl (by simp; unfold Sg.small at hs; omega) ?_
      intro v' HZ g1 g2 g3 g4
      refine Hush.out ?_
      obtain ⟨aa, cc, hv'⟩ := g4
      obtain ⟨w5, x5, bx, o5⟩ := xG.appO (by omega) g1 g2 g3
      subst hv'
      refine ⟨?_⟩
      first | refine held_by (heldOK_blk bx) ?_ | skip
      simp (disch := omega) only [go_sem, ↓cw_block, dsB_of, w5]
      exact fin ⟨_, _, _, _, by simpa [declM, w0, -List.getD_eq_getElem?_getD, hs0, hi] using x5, _, (f0.cat g2).cat (Fr.set (a := ⟨sb, 3, none⟩) (F := [sb]) (by simp)), by intro b hb; simp only [List.nil_append, List.mem_append, List.mem_singleton] at hb; rcases hb with hb | rfl; exact o5 b hb; exact xG.low⟩
  simp (disch := omega) only [go_sem, ↓cw_block, dsB_of, anV]
  rw [← hG]
  refine fin ⟨c, v, p, o, ?_, [], f0, by simp⟩
  unfold declM
  rw [if_neg (by simp only; omega), if_neg (by simp only; omega), if_neg (by simp only; omega)]
  exact xG
end
end Go.Proofs.Ytpjmhomogmpklaa

/- Names: the walk over a tree. -/
namespace Go.Proofs.Ytpjmhomogmpklaa
open Go.HL
set_option maxRecDepth 10000
set_option linter.unusedSimpArgs false
set_option linter.unusedVariables false

def hitM (ks : List Int) (i : Nat) : Bool := match ks with
  | k :: _ => decide (k = i)
  | [] => false
def resetM (g : Sg) : Sg := { g with O := [], ins := false }
def runL (stop : Nat → Sg → Bool) : List Nd → Nat → List Int → Sg → Option (Nat × Sg)
  | [], _, _, _ => none
  | n :: r, i, ks, g =>
    if stop i (if hitM ks i then resetM g else g) then some (i, if hitM ks i then resetM g else g)
    else runL stop r (i + 1) (if hitM ks i then ks.tail else ks) (declM (if hitM ks i then resetM g else g) n)
def sg0 : Sg := ⟨[], [], [], [], false⟩
theorem reset_small {g : Sg} {m : Nat} (h : g.small m) : (resetM g).small m := by unfold Sg.small resetM at *; simp; omega
theorem small_mono {g : Sg} {m k : Nat} (h : g.small m) (hk : m ≤ k) : g.small k := by unfold Sg.small at *; omega
def RunQ (Post : Nat → Sg → Heap → Prop) (H H' : Heap) : Option (Nat × Sg) → Prop
  | none => Fr [] H H'
  | some x => Post x.1 x.2 H'
section
variable {H : Heap} {S : Nat → Prop} {tv : Value} {l : List Nd}
set_option maxHeartbeats 4000000 in
theorem scRun_spec (h : NL H S tv l) (hW : WOk l) (h8 : l.length ≤ 1000000) (h0 : 0 < l.length) {gf : Nat} {caps : List Value} {stop : Nat → Sg → Bool} {Post : Nat → Sg → Heap → Prop}
    (hv : ∀ {i g H' M sb c v p o}, i < l.length → Fr [] H H' → SM H' M sb c v p o g → H.size ≤ M → g.small 1000000 → CallF Try.prog gf (iv i :: hp sb :: caps) H' (fun r H'' => r = .bool (!stop i g) ∧ (stop i g = false → Fr [] H' H'') ∧ (stop i g = true → Post i g H'')) NoP) :
    CallF Try.prog 31 [.agg #[tv, .func (.func gf) #[] caps.toArray]] H (fun r H' => RunQ Post H H' (runL stop l 0 (nodeAt l 0).kids sg0)) NoP := by
  replace h : NL H (fun b => b < H.size) tv l := h.mono (fun b _ hb => hb)
  have hg0 := getD_some (d := nd0') h0
  obtain ⟨b, o, cap, a, q1, q2, ar, -, -, -, -, k3, -⟩ := h.row hg0
  obtain ⟨nn, x1, c1, x2, c2, x3, c3, rfl⟩ := ar.open
  simp only at q2
  rw [Nat.zero_mul, Nat.add_zero] at k3
  simp only at k3
  have hnd : nodeAt l 0 = nn := by unfold nodeAt; rw [q2]
  rw [hnd]
  have hkk := ar.k
  have hkc := ar.kc _ _ _ rfl
  simp only at hkk
  subst q1
  obtain ⟨A0, hA0⟩ : ∃ A, A = H.push (.cells #[.slice (some ⟨b, o, none⟩) l.length cap, .func (.func gf) #[] caps.toArray] 65) := ⟨_, rfl⟩
  obtain ⟨A1, hA1⟩ : ∃ A, A = A0.push (.cells #[.slice none 0 0, .slice none 0 0, .slice none 0 0, .slice none 0 0, .bool false] 83) := ⟨_, rfl⟩
  have z0 : A0.size = H.size + 1 := by rw [hA0]; simp
  have z1 : A1.size = A0.size + 1 := by rw [hA1]; simp
  have g0 : Fr [] H A0 := by rw [hA0]; exact Fr.push
  have g1 : Fr [] A0 A1 := by rw [hA1]; exact Fr.push
  have bw : Blk A1 H.size 65 [.slice (some ⟨b, o, none⟩) l.length cap, .func (.func gf) #[] caps.toArray] := g1.blk (by rw [hA0]; exact Blk.new rfl) (by simp)
  have bs : Blk A1 A0.size 83 [.slice none 0 0, .slice none 0 0, .slice none 0 0, .slice none 0 0, .bool false] := by rw [hA1]; exact Blk.new rfl
  have sm0 : SM A1 A0.size A0.size (.slice none 0 0) (.slice none 0 0) (.slice none 0 0) (.slice none 0 0) sg0 :=
    ⟨bs, Nat.le_refl _, Vec.nil, by simp [own], Vec.nil, by simp [own], Vec.nil, by simp [own], Vec.nil, by simp [own], by simp [own], by simp [own], by simp [own], by simp [own], by simp [own], by simp [own]⟩
  have w0' := bw.cell 0
  have k3' := (g0.trans g1).cell' k3 (by simp)
  simp only [List.getElem?_cons_succ, List.getElem?_cons_zero] at w0'
  generalize hR : runL stop l 0 nn.kids sg0 = R
  refine callF_of Try.func31 rfl Try.ntmps31 Try.results31 (by decide) rfl ?_
  simp (disch := omega) only [go_sem, ↓cw_block, dsB_of]
  rw [← hA0, ← hA1]
  simp (disch := omega) only [go_sem, ↓cw_block, dsB_of, w0', k3']
  refine loop_by (fun k ρ H2 => ∃ (i : Nat) (ks : List Int) (g : Sg) (aw : Option Addr) (cw : Nat) (c v p ov : Value), k = l.length - i ∧ i ≤ l.length ∧ runL stop (l.drop i) i ks g = R ∧ ks.length ≤ cw ∧ Rd H (fun b => b < H.size) 1 (.slice aw ks.length cw) (ks.map iv) ∧ Fr [] H H2 ∧
      Blk H2 H.size 65 [.slice (some ⟨b, o, none⟩) l.length cap, .func (.func gf) #[] caps.toArray] ∧ SM H2 A0.size A0.size c v p ov g ∧ g.small i ∧ A0.size ≤ H2.size ∧
      (ρ.get 1 = hp H.size ∧ ρ.get 2 = hp A0.size ∧ ρ.get 3 = .slice aw ks.length cw ∧ ρ.get 14 = .slice (some ⟨b, o, none⟩) l.length cap ∧ ρ.get 15 = iv l.length ∧ ρ.get 16 = iv i ∧ ρ.ds = [])) (k := l.length) ?_ ?_
  · exact ⟨0, nn.kids, sg0, x3, c3, _, _, _, _, rfl, by omega, hR, hkc, hkk, g0.trans g1, bw, sm0, by simp [Sg.small, sg0], by omega, by simp (disch := omega) only [go_sem, ↓cw_block, dsB_of]⟩
  · clear sm0 bs bw hR
    rintro k ρ H2 ⟨i, ks, g, aw, cw, c, v, p, ov, rfl, hi, hrun, hcw, hrd, fr2, bw, sm, hsm, hsz, r1, r2, r3, r14, r15, r16, rd⟩
    have hxi : (i : Int) + 1 = ((i + 1 : Nat) : Int) := by omega
    by_cases hin : i < l.length
    rotate_left
    · rw [List.drop_eq_nil_of_le (by omega)] at hrun
      have hrun' : none = R := hrun
      simp (disch := omega) only [go_sem, ↓cw_block, dsB_of, r1, r2, r3, r14, r15, r16, rd]
      refine fin ?_
      rw [← hrun']
      exact fr2
    have hgi := getD_some (d := nd0') hin
    have hd : l.drop i = l.getD i nd0' :: l.drop (i + 1) := by
      rw [List.drop_eq_getElem_cons hin]; congr 1; simp [hin]
    rw [hd] at hrun
    obtain ⟨b', o', cap', a', q1, q2', ar', ld, -⟩ := (h.grow fr2).row hgi
    simp only [Value.slice.injEq, Option.some.injEq, Addr.mk.injEq, and_true, true_and] at q1
    obtain ⟨⟨rfl, rfl⟩, rfl⟩ := q1
    have hwn := hW i _ hgi
    rw [← q2'] at ld hwn hrun
    obtain ⟨G, hG⟩ : ∃ G, G = H2.push (.cells #[iv a'.n.kind, a'.wv, a'.nv, a'.kv, iv a'.n.pos] 60) := ⟨_, rfl⟩
    have f3 : Fr [] H2 G := by rw [hG]; exact Fr.push
    have zG : G.size = H2.size + 1 := by rw [hG]; simp
    have bn : Blk G H2.size 60 [iv a'.n.kind, a'.wv, a'.nv, a'.kv, iv a'.n.pos] := by rw [hG]; exact Blk.new rfl
    have smG := sm.grow f3
    have bwG := f3.blk bw (by simp)
    obtain ⟨nn', y1, d1, y2, d2, y3, d3, rfl⟩ := ar'.open
    simp only at ld hwn hrun bn hG
    have hrun' : (if stop i (if hitM ks i then resetM g else g) then some (i, if hitM ks i then resetM g else g)
      else runL stop (l.drop (i + 1)) (i + 1) (if hitM ks i then ks.tail else ks) (declM (if hitM ks i then resetM g else g) nn')) = R := hrun
    clear hrun
    cases hh : hitM ks i
    · rw [hh] at hrun'
      simp only [Bool.false_eq_true, if_false] at hrun'
      have go1 : ∀ {x : Prop}, True := trivial
      have hsm' := hsm
      obtain ⟨g', hg'⟩ : ∃ g', g' = g := ⟨_, rfl⟩
      rw [← hg'] at hrun' hsm' smG
      have frX := fr2.trans f3
      have smX := smG
      have bwX := bwG
      have bnX := bn
      have frK : Fr [] H2 G := f3
      cases ks with
      | nil =>
        simp only [List.length_nil] at r3
        have wc1 := bwX.cell 1
        simp only [List.getElem?_cons_succ, List.getElem?_cons_zero] at wc1
        simp (disch := omega) only [go_sem, ↓cw_block, dsB_of, r1, r2, r3, r14, r15, r16, rd, ld]
        rw [← hG]
        simp (disch := omega) only [go_sem, ↓cw_block, dsB_of, r1, r2, r3, r14, r15, r16, rd, wc1]
        refine call_to (hv hin frX smX (by omega) (small_mono hsm' (by omega))) ?_
        intro v5 H5 hvv
        refine Hush.out ?_
        obtain ⟨rfl, hv1, hv2⟩ := hvv
        cases hst : stop i g'
        rotate_left
        · rw [hst] at hrun'
          simp only [if_true] at hrun'
          refine ⟨?_⟩
          simp (disch := omega) only [go_sem, ↓cw_block, dsB_of, r1, r2, r3, r14, r15, r16, rd]
          refine fin ?_
          rw [← hrun']
          exact hv2 hst
        rw [hst] at hrun'
        simp only [Bool.false_eq_true, if_false] at hrun'
        have f5 := hv1 hst
        have smY := smX.grow f5
        have ldn := (f5.blk bnX (by simp)).cells0
        simp only [List.length_cons, List.length_nil] at ldn
        have z5 := f5.size
        refine ⟨?_⟩
        simp (disch := omega) only [go_sem, ↓cw_block, dsB_of, r1, r2, r3, r14, r15, r16, rd, ldn]
        refine call_to (sgDeclare_spec (a := ⟨nn', .slice y1 nn'.words.length d1, .slice y2 nn'.nums.length d2, .slice y3 nn'.kids.length d3⟩) smY (by omega) (small_mono hsm' (by omega)) (ar'.frame (Keeps.of_fr (frK.trans f5) (by simp))) hwn) ?_
        intro v6 H6 hvv
        refine Hush.out ?_
        obtain ⟨c6, v6', p6, o6, sm6, F, f6, hF⟩ := hvv
        have fr6 : Fr [] H H6 := Fr.more (frX.trans f5) f6 (fun b hb => .inr (by have := hF b hb; omega))
        have bw6 := f6.blk (f5.blk bwX (by simp)) (fun e => by have := hF _ e; omega)
        have z6 := f6.size
        refine ⟨?_⟩
        simp (disch := omega) only [go_sem, ↓cw_block, dsB_of, r1, r2, r3, r14, r15, r16, rd]
        exact fin ⟨l.length - (i + 1), by omega, i + 1, [], _, aw, cw, c6, v6', p6, o6, rfl, by omega, hrun', hcw, hrd, fr6, bw6, sm6, decl_small hsm', by omega, by (simp (disch := omega) only [go_sem, ↓cw_block, dsB_of, r1, r2, r3, r14, r15, r16, rd, hxi]) <;> simp⟩
      | cons k0 ks =>
        have hne : ¬ k0 = (i : Int) := by simpa [hitM] using hh
        obtain ⟨bk, ok, ck, e1, -, e2⟩ := (hrd.frame (Keeps.of_fr (fr2.trans f3) (by simp))).at1 (i := 0) (x := k0) rfl
        simp only [Value.slice.injEq, true_and] at e1
        obtain ⟨rfl, rfl⟩ := e1
        rw [Nat.add_zero] at e2
        simp only [List.length_cons] at r3
        have wc1 := bwX.cell 1
        simp only [List.getElem?_cons_succ, List.getElem?_cons_zero] at wc1
        simp (disch := omega) only [go_sem, ↓cw_block, dsB_of, r1, r2, r3, r14, r15, r16, rd, ld]
        rw [← hG]
        simp (disch := omega) only [go_sem, ↓cw_block, dsB_of, r1, r2, r3, r14, r15, r16, rd, wc1, e2]
        refine call_to (hv hin frX smX (by omega) (small_mono hsm' (by omega))) ?_
        intro v5 H5 hvv
        refine Hush.out ?_
        obtain ⟨rfl, hv1, hv2⟩ := hvv
        cases hst : stop i g'
        rotate_left
        · rw [hst] at hrun'
          simp only [if_true] at hrun'
          refine ⟨?_⟩
          simp (disch := omega) only [go_sem, ↓cw_block, dsB_of, r1, r2, r3, r14, r15, r16, rd]
          refine fin ?_
          rw [← hrun']
          exact hv2 hst
        rw [hst] at hrun'
        simp only [Bool.false_eq_true, if_false] at hrun'
        have f5 := hv1 hst
        have smY := smX.grow f5
        have ldn := (f5.blk bnX (by simp)).cells0
        simp only [List.length_cons, List.length_nil] at ldn
        have z5 := f5.size
        refine ⟨?_⟩
        simp (disch := omega) only [go_sem, ↓cw_block, dsB_of, r1, r2, r3, r14, r15, r16, rd, ldn]
        refine call_to (sgDeclare_spec (a := ⟨nn', .slice y1 nn'.words.length d1, .slice y2 nn'.nums.length d2, .slice y3 nn'.kids.length d3⟩) smY (by omega) (small_mono hsm' (by omega)) (ar'.frame (Keeps.of_fr (frK.trans f5) (by simp))) hwn) ?_
        intro v6 H6 hvv
        refine Hush.out ?_
        obtain ⟨c6, v6', p6, o6, sm6, F, f6, hF⟩ := hvv
        have fr6 : Fr [] H H6 := Fr.more (frX.trans f5) f6 (fun b hb => .inr (by have := hF b hb; omega))
        have bw6 := f6.blk (f5.blk bwX (by simp)) (fun e => by have := hF _ e; omega)
        have z6 := f6.size
        refine ⟨?_⟩
        simp (disch := omega) only [go_sem, ↓cw_block, dsB_of, r1, r2, r3, r14, r15, r16, rd]
        exact fin ⟨l.length - (i + 1), by omega, i + 1, k0 :: ks, _, _, _, c6, v6', p6, o6, rfl, by omega, hrun', hcw, hrd, fr6, bw6, sm6, decl_small hsm', by omega, by (simp (disch := omega) only [go_sem, ↓cw_block, dsB_of, r1, r2, r3, r14, r15, r16, rd, hxi]) <;> simp⟩
    · rw [hh] at hrun'
      simp only [if_true] at hrun'
      cases ks with
      | nil => simp [hitM] at hh
      | cons k0 ks =>
        have hne : k0 = (i : Int) := by simpa [hitM] using hh
        obtain ⟨bk, ok, ck, e1, -, e2⟩ := (hrd.frame (Keeps.of_fr (fr2.trans f3) (by simp))).at1 (i := 0) (x := k0) rfl
        simp only [Value.slice.injEq, true_and] at e1
        obtain ⟨rfl, rfl⟩ := e1
        rw [Nat.add_zero] at e2
        simp only [List.length_cons] at r3 hcw hrd
        have htl := Rd.tail1 (x := iv k0) (xs := ks.map iv) hrd hcw
        obtain ⟨u1, u2, smX⟩ := smG.reset
        have hsm' := reset_small hsm
        obtain ⟨g', hg'⟩ : ∃ g', g' = resetM g := ⟨_, rfl⟩
        have smX : SM _ A0.size A0.size c v p (.slice none 0 0) (resetM g) := smX
        rw [← hg'] at hrun' hsm' smX
        generalize hHX : setH (setH G ⟨A0.size, 3, none⟩ (.slice none 0 0)) ⟨A0.size, 4, none⟩ (.bool false) = HX at u2 smX
        have fX : Fr [A0.size] G HX := by rw [← hHX]; exact (Fr.set (by simp)).trans (Fr.set (by simp))
        have frX : Fr [] H HX := Fr.more (fr2.trans f3) fX (by simp; omega)
        have zX := fX.size
        have bwX := fX.blk bwG (by simp; omega)
        have hsz2 := smG.box.lt
        have hA2 : A0.size < H2.size := sm.box.lt
        have bnX := fX.blk bn (by simp; omega)
        have frK : Fr [A0.size] H2 HX := f3.nil.trans fX
        have arX := (ar'.frame (Keeps.of_fr frK (by intro b hb; simp; omega)))
        subst hne
        have wc1 := bwX.cell 1
        simp only [List.getElem?_cons_succ, List.getElem?_cons_zero] at wc1
        simp (disch := omega) only [go_sem, ↓cw_block, dsB_of, r1, r2, r3, r14, r15, r16, rd, ld]
        rw [← hG]
        simp (disch := omega) only [go_sem, ↓cw_block, dsB_of, r1, r2, r3, r14, r15, r16, rd, e2, u1, u2, wc1]
        refine call_to (hv hin frX smX (by omega) (small_mono hsm' (by omega))) ?_
        intro v5 H5 hvv
        refine Hush.out ?_
        obtain ⟨rfl, hv1, hv2⟩ := hvv
        cases hst : stop i g'
        rotate_left
        · rw [hst] at hrun'
          simp only [if_true] at hrun'
          refine ⟨?_⟩
          simp (disch := omega) only [go_sem, ↓cw_block, dsB_of, r1, r2, r3, r14, r15, r16, rd]
          refine fin ?_
          rw [← hrun']
          exact hv2 hst
        rw [hst] at hrun'
        simp only [Bool.false_eq_true, if_false] at hrun'
        have f5 := hv1 hst
        have smY := smX.grow f5
        have ldn := (f5.blk bnX (by simp)).cells0
        simp only [List.length_cons, List.length_nil] at ldn
        have z5 := f5.size
        refine ⟨?_⟩
        simp (disch := omega) only [go_sem, ↓cw_block, dsB_of, r1, r2, r3, r14, r15, r16, rd, ldn]
        refine call_to (sgDeclare_spec (a := ⟨nn', .slice y1 nn'.words.length d1, .slice y2 nn'.nums.length d2, .slice y3 nn'.kids.length d3⟩) smY (by omega) (small_mono hsm' (by omega)) (arX.frame (Keeps.of_fr f5 (by simp))) hwn) ?_
        intro v6 H6 hvv
        refine Hush.out ?_
        obtain ⟨c6, v6', p6, o6, sm6, F, f6, hF⟩ := hvv
        have fr6 : Fr [] H H6 := Fr.more (frX.trans f5) f6 (fun b hb => .inr (by have := hF b hb; omega))
        have bw6 := f6.blk (f5.blk bwX (by simp)) (fun e => by have := hF _ e; omega)
        have z6 := f6.size
        refine ⟨?_⟩
        simp (disch := omega) only [go_sem, ↓cw_block, dsB_of, r1, r2, r3, r14, r15, r16, rd]
        exact fin ⟨l.length - (i + 1), by omega, i + 1, ks, _, _, _, c6, v6', p6, o6, rfl, by omega, hrun', by omega, htl, fr6, bw6, sm6, decl_small hsm', by omega, by (simp (disch := omega) only [go_sem, ↓cw_block, dsB_of, r1, r2, r3, r14, r15, r16, rd, hxi]) <;> simp⟩
end
end Go.Proofs.Ytpjmhomogmpklaa

/- Names: the program's Check. -/
namespace Go.Proofs.Ytpjmhomogmpklaa
open Go.HL
set_option maxRecDepth 10000
set_option linter.unusedSimpArgs false
set_option linter.unusedVariables false

theorem right_facts {l : List Nd} (h : prRightM l = true) : 0 < l.length ∧ l.length ≤ 800 ∧ WOk l ∧ treeM l 20 0 = (l.length, true) := by
  unfold prRightM at h
  simp only [Bool.and_eq_true, decide_eq_true_eq] at h
  obtain ⟨h1, h2, h3, h4, h5⟩ := h
  have ht : treeM l 20 0 = (l.length, true) := by rw [← h4, ← h5]
  obtain ⟨_, hn⟩ := (tree_iff 20 0 l.length h1).1 ht
  refine ⟨h1, h2, ?_, ht⟩
  intro i n hi
  have hil := (List.getElem?_eq_some_iff.1 hi).1
  have hx := hn i (by omega) hil
  have e : l.getD i nd0' = n := by rw [List.getD_eq_getElem?_getD, hi]; rfl
  rw [e] at hx
  unfold nodeP wordsM at hx
  simp only [Bool.and_eq_true, decide_eq_true_eq] at hx
  exact hx.1.2
def stopC (l : List Nd) (i : Nat) (g : Sg) : Bool := wrongM g (nodeAt l i)
def scopeM (l : List Nd) : Flt := if prRightM l then fltOf l ((runL (stopC l) l 0 (nodeAt l 0).kids sg0).map Prod.fst) else ⟨2, 0⟩
section
variable {H : Heap} {S : Nat → Prop} {tv : Value} {l : List Nd}
theorem scCheck1_spec {M sb b1 b3 : Nat} {c v p o : Value} {g : Sg} {i : Nat} (h : NL H S tv l) (hW : WOk l) (hi : i < l.length) (x : SM H M sb c v p o g) (hs : g.small 1000000) (hb1 : Blk H b1 22 [tv]) (hb3 : Blk H b3 27 [iv 0, iv 0]) :
    CallF Try.prog 29 [iv i, hp sb, hp b1, hp b3] H (fun r H' => r = .bool (!stopC l i g) ∧ (stopC l i g = false → Fr [] H H') ∧ (stopC l i g = true → Fr [b3] H H' ∧ Blk H' b3 27 [iv 20, iv (nodeAt l i).pos])) NoP := by
  have hgi := getD_some (d := nd0') hi
  obtain ⟨b, o', cap, a, q1, q2, ar, ld, -⟩ := h.row hgi
  subst q1
  have hwn := hW i _ hgi
  rw [← q2] at ld hwn
  have kb := hb1.cell 0
  simp only [List.getElem?_cons_zero] at kb
  unfold stopC
  have hna : nodeAt l i = a.n := by rw [q2]; rfl
  refine callF_of Try.func29 rfl Try.ntmps29 Try.results29 (by decide) rfl ?_
  simp (disch := omega) only [go_sem, ↓cw_block, dsB_of, kb, ld]
  refine call_to (sgWrong_spec x hs ar hwn) ?_
  intro v5 H5 hv
  refine Hush.out ?_
  obtain ⟨f5, rfl⟩ := hv
  rw [hna]
  cases hq : wrongM g a.n
  · refine ⟨?_⟩
    simp (disch := omega) only [go_sem, ↓cw_block, dsB_of]
    exact fin ⟨rfl, fun _ => f5, by simp⟩
  obtain ⟨b', o'', cap', a', p1, p2, -, -, -, -, -, -, k4⟩ := (h.grow f5).row hgi
  simp only [Value.slice.injEq, Option.some.injEq, Addr.mk.injEq, and_true, true_and] at p1
  obtain ⟨⟨rfl, rfl⟩, rfl⟩ := p1
  rw [← q2] at k4
  have kb5 := (f5.blk hb1 (by simp)).cell 0
  simp only [List.getElem?_cons_zero] at kb5
  obtain ⟨X', e1, e2, e3⟩ := store_blk (P := Try.prog) (ty := 27) (new := [iv 20, iv a.n.pos]) (f5.blk hb3 (by simp)) rfl T.size27 (one_all rfl)
  refine ⟨?_⟩
  simp (disch := omega) only [go_sem, ↓cw_block, dsB_of, kb5, k4, e1]
  exact fin ⟨rfl, by simp, fun _ => ⟨f5.nil.trans e3, e2⟩⟩
set_option maxHeartbeats 1000000 in
theorem scCheck_spec (h : NL H S tv l) (hz : Sz l) : CallF Try.prog 15 [tv] H (fun r H' => Fr [] H H' ∧ r = fltV (scopeM l)) NoP := by
  obtain ⟨av, cv, rfl⟩ := h.len
  obtain ⟨A0, hA0⟩ : ∃ A, A = H.push (.cells #[.slice av l.length cv] 22) := ⟨_, rfl⟩
  obtain ⟨A1, hA1⟩ : ∃ A, A = A0.push (.cells #[iv 0, iv 0] 27) := ⟨_, rfl⟩
  have z0 : A0.size = H.size + 1 := by rw [hA0]; simp
  have z1 : A1.size = A0.size + 1 := by rw [hA1]; simp
  have g0 : Fr [] H A0 := by rw [hA0]; exact Fr.push
  have g1 : Fr [] A0 A1 := by rw [hA1]; exact Fr.push
  have b1 : Blk A1 H.size 22 [.slice av l.length cv] := g1.blk (by rw [hA0]; exact Blk.new rfl) (by simp)
  have b2 : Blk A1 A0.size 27 [iv 0, iv 0] := by rw [hA1]; exact Blk.new rfl
  have k1 := b1.cell 0
  simp only [List.getElem?_cons_zero] at k1
  unfold scopeM
  refine callF_of Try.func15 rfl Try.ntmps15 Try.results15 (by decide) rfl ?_
  simp (disch := omega) only [go_sem, ↓cw_block, dsB_of]
  rw [← hA0, ← hA1]
  simp (disch := omega) only [go_sem, ↓cw_block, dsB_of, k1]
  refine call_to (pgRight_spec (h.grow (g0.trans g1)) hz) ?_
  intro v5 H5 hv
  refine Hush.out ?_
  obtain ⟨f5, rfl⟩ := hv
  cases hr : prRightM l
  · obtain ⟨X', e1, e2, e3, _⟩ := flt_res (X := H5) (H := A0) (by rw [← hA1]; exact f5) 2 0
    refine ⟨?_⟩
    simp (disch := omega) only [go_sem, ↓cw_block, dsB_of, e1, e2]
    exact fin ⟨g0.trans e3, rfl⟩
  obtain ⟨hl0, hl8, hW, -⟩ := right_facts hr
  obtain ⟨A2, hA2⟩ : ∃ A, A = H5.push (.cells #[iv 0, iv 0] 27) := ⟨_, rfl⟩
  have g2 : Fr [] H5 A2 := by rw [hA2]; exact Fr.push
  have z2 : A2.size = H5.size + 1 := by rw [hA2]; simp
  have b3 : Blk A2 H5.size 27 [iv 0, iv 0] := by rw [hA2]; exact Blk.new rfl
  have k2 := (g2.blk (f5.blk b1 (by simp)) (by simp)).cell 0
  simp only [List.getElem?_cons_zero] at k2
  obtain ⟨A2p, hA2p⟩ : ∃ A, A = A2.push (.cells #[.slice none 0 0, .nilFunc] 65) := ⟨_, rfl⟩
  have g2p : Fr [] A2 A2p := by rw [hA2p]; exact Fr.push
  have b4z : Blk A2p A2.size 65 [.slice none 0 0, .nilFunc] := by rw [hA2p]; exact Blk.new rfl
  obtain ⟨A3, e4, b4, f4⟩ := store_blk (P := Try.prog) (ty := 65) (new := [.slice av l.length cv, .func (.func 29) #[] #[hp H.size, hp H5.size]]) b4z rfl T.size65 (one_all rfl)
  have g3 : Fr [] A2 A3 := Fr.more g2p f4 (by simp)
  have ld4 := b4.cells0
  simp only [List.length_cons, List.length_nil] at ld4
  have fall : Fr [] A1 A3 := (f5.trans g2).trans g3
  have hz5 := f5.size
  have nl3 := h.grow ((g0.trans g1).trans fall)
  have b1' := fall.blk b1 (by simp)
  have b3' := g3.blk b3 (by simp)
  have hrun := scRun_spec (caps := [hp H.size, hp H5.size]) (gf := 29) (stop := stopC l) (Post := fun i g H' => Fr [H5.size] A3 H' ∧ Blk H' H5.size 27 [iv 20, iv (nodeAt l i).pos]) nl3 hW (by omega) hl0
    (by
      intro i g H' M sb c v p o hi hfr sm _ hs
      refine (scCheck1_spec (nl3.grow hfr) hW hi sm hs (hfr.blk b1' (by simp)) (hfr.blk b3' (by simp))).mono ?_ (fun _ _ x => x)
      rintro r H'' ⟨e1, e2, e3⟩
      refine ⟨e1, e2, fun hq => ⟨?_, (e3 hq).2⟩⟩
      exact hfr.nil.trans (e3 hq).1)
  refine ⟨?_⟩
  simp (disch := omega) only [go_sem, ↓cw_block, dsB_of]
  rw [← hA2]
  simp (disch := omega) only [go_sem, ↓cw_block, dsB_of, k2]
  rw [← hA2p]
  simp (disch := omega) only [go_sem, ↓cw_block, dsB_of, e4, ld4]
  refine call_to hrun ?_
  intro v6 H6 hv
  refine Hush.out ?_
  generalize runL (stopC l) l 0 (nodeAt l 0).kids sg0 = R at *
  obtain ⟨fl, hfl, hb6, hf6⟩ : ∃ fl : Flt, fl = fltOf l (R.map Prod.fst) ∧ Blk H6 H5.size 27 [iv fl.err, iv fl.pos] ∧ Fr [H5.size] A3 H6 := by
    cases R with
    | none => exact ⟨⟨0, 0⟩, rfl, Fr.blk hv b3' (by simp), Fr.nil hv⟩
    | some x => exact ⟨⟨20, (nodeAt l x.1).pos⟩, rfl, hv.2, hv.1⟩
  have ld6 := hb6.cells0
  simp only [List.length_cons, List.length_nil] at ld6
  have hfA : Fr [] A1 H6 := Fr.more fall hf6 (by simp; omega)
  obtain ⟨X', e1, e2, e3, _⟩ := flt_res (X := H6) (H := A0) (by rw [← hA1]; exact hfA) fl.err fl.pos
  refine ⟨?_⟩
  simp (disch := omega) only [go_sem, ↓cw_block, dsB_of, ld6, e1, e2]
  refine fin ⟨g0.trans e3, ?_⟩
  simp only [if_true]
  rw [← hfl]
  rfl
end
end Go.Proofs.Ytpjmhomogmpklaa

/- The laws on names: what is read and checked, worked out. -/
namespace Go.Proofs.Ytpjmhomogmpklaa
open Go.HL
set_option maxRecDepth 10000
set_option linter.unusedSimpArgs false
set_option linter.unusedVariables false

def szN (n : Nd) : Bool := decide (n.words.length ≤ 1000) && (decide (n.nums.length ≤ 1000) && (decide (n.kids.length ≤ 1000) && n.words.all fun w => decide (w.length ≤ 1000)))
def szB (l : List Nd) : Bool := decide (l.length ≤ 1000) && l.all szN
theorem sz_of {l : List Nd} (h : szB l = true) : Sz l := by
  unfold szB at h
  simp only [Bool.and_eq_true, decide_eq_true_eq, List.all_eq_true] at h
  have key : ∀ (i : Nat) n, l[i]? = some n → szN n = true := fun i n hi => h.2 n (List.mem_of_getElem? hi)
  have key' : ∀ (i : Nat) n, l[i]? = some n → n.words.length ≤ 1000 ∧ n.nums.length ≤ 1000 ∧ n.kids.length ≤ 1000 ∧ ∀ w ∈ n.words, w.length ≤ 1000 := by
    intro i n hi
    have := key i n hi
    unfold szN at this
    simpa only [Bool.and_eq_true, decide_eq_true_eq, List.all_eq_true] using this
  exact ⟨by omega, fun i n hi => by have := key' i n hi; omega, fun i n hi => by have := key' i n hi; omega, fun i n hi => by have := key' i n hi; omega, fun i n hi w hw => by have := (key' i n hi).2.2.2 w hw; omega⟩
/-- A text read: its fault, and what is wrong with its names. -/
def psM (n : Nat) (s : Str) : Option (Flt × Flt × Bool) := (parseM n s).map fun r => (r.2, scopeM r.1, szB r.1)
theorem ps_open {n : Nat} {s : Str} {f g : Flt} (h : psM n s = some (f, g, true)) : ∃ l, parseM n s = some (l, f) ∧ scopeM l = g ∧ Sz l := by
  unfold psM at h
  rw [Option.map_eq_some_iff] at h
  obtain ⟨⟨l, f'⟩, h1, h2⟩ := h
  simp only [Prod.mk.injEq] at h2
  obtain ⟨rfl, h3, h4⟩ := h2
  exact ⟨l, h1, h3, sz_of h4⟩
theorem aw1 : psM 40 [115, 97, 102, 101, 32, 120, 59] = some (⟨0, 0⟩, ⟨20, 5⟩, true) := by decide +kernel
theorem aw2 : psM 60 [118, 97, 114, 32, 120, 32, 111, 102, 32, 49, 59, 32, 115, 97, 102, 101, 32, 120, 59] = some (⟨0, 0⟩, ⟨0, 0⟩, true) := by decide +kernel
section
variable {H : Heap}
theorem w11awake_spec : CallF Try.prog 13 [] H (fun r H' => r = .bool true ∧ Fr [] H H') NoP := by
  obtain ⟨l1, p1, s1, z1⟩ := ps_open aw1
  obtain ⟨l2, p2, s2, z2⟩ := ps_open aw2
  refine callF_of Try.func13 rfl Try.ntmps13 Try.results13 (by decide) rfl ?_
  simp (disch := omega) only [go_sem, ↓cw_block, dsB_of]
  refine call_to (parse_spec p1) ?_
  intro r1 H1 hv
  refine Hush.out ?_
  obtain ⟨v1, rfl, f1, nl1⟩ := hv
  refine ⟨?_⟩
  simp (disch := omega) only [go_sem, ↓cw_block, dsB_of, fltV]
  refine call_to (parse_spec p2) ?_
  intro r2 H2 hv
  refine Hush.out ?_
  obtain ⟨v2, rfl, f2, nl2⟩ := hv
  have nl1' := nl1.grow ((Fr.push (F := [])).trans f2)
  refine ⟨?_⟩
  simp (disch := omega) only [go_sem, ↓cw_block, dsB_of, fltV]
  refine call_to (scCheck_spec (nl1'.grow Fr.push) z1) ?_
  intro r3 H3 hv
  refine Hush.out ?_
  obtain ⟨f3, rfl⟩ := hv
  rw [s1]
  refine ⟨?_⟩
  simp (disch := omega) only [go_sem, ↓cw_block, dsB_of, fltV]
  refine call_to (scCheck_spec (nl2.grow ((Fr.push (F := [])).trans f3)) z2) ?_
  intro r4 H4 hv
  refine Hush.out ?_
  obtain ⟨f4, rfl⟩ := hv
  rw [s2]
  refine ⟨?_⟩
  simp (disch := omega) only [go_sem, ↓cw_block, dsB_of, fltV]
  exact fin ⟨rfl, (((((f1.trans Fr.push).trans f2).trans Fr.push).trans f3).trans f4)⟩
end
end Go.Proofs.Ytpjmhomogmpklaa
