/- The solver: assumptions; what refutes them; solving. -/
import Derived.Test.YthghkhpclemmlaaL16
import Derived.Test.YthghkhpclemmlaaL08
namespace Go.Proofs.Ythghkhpclemmlaa
open Go.HL HM Go.Sat
set_option maxRecDepth 10000
set_option linter.unusedSimpArgs false
set_option linter.unusedVariables false

section
variable {H : Heap} {ow : Nat → Nat} {p n : Nat} {k : Bk} {f : Cf} {G : List (List Nat)}
/-- The map of how often each has come. -/
def cnt (l : List Int) (q : Int) : Option Int := if l.count q = 0 then none else some ((l.count q : Nat) : Int)
theorem cnt_add {l : List Int} {x : Int} {kvs : List (Int × Int)} (h : ∀ q, mget kvs q = cnt l q) : ∀ q, mget (mset kvs x ((l.count x : Nat) + 1 : Int)) q = cnt (l ++ [x]) q := by
  intro q
  rw [mget_mset, h q]
  unfold cnt
  rw [List.count_append]
  by_cases e : q = x
  · subst e
    rw [if_pos rfl, List.count_singleton_self, if_neg (by omega)]
    rfl
  · rw [if_neg e, List.count_singleton]
    have : (x == q) = false := by simpa using Ne.symm e
    rw [this]; simp
def okA (n : Nat) (x : Int) : Bool := decide (x ≠ 0 ∧ -(n : Int) ≤ x ∧ x ≤ n)
set_option maxHeartbeats 4000000 in
theorem sAssume_spec (h : RM H ow p n k f) (hn : n ≤ 1000) {a : Option Addr} {xs : List Int} {c : Nat} (hx : Rn H a xs) (hlen : xs.length ≤ 1000) :
    CallF Try.prog 20 [hp p, .slice a xs.length c] H (fun v H' => Fr [] H H' ∧ ((xs.all (okA n) = false ∧ v = .tuple #[.slice none 0 0, .bool false]) ∨ (xs.all (okA n) = true ∧ ∃ (w : Value) (ds : List Int), v = .tuple #[w, .bool true] ∧ Vec H' 3 1 w (nv (ds.map codeN)) ∧ (∀ b ∈ own w, H.size ≤ b) ∧ (∀ x, x ∈ ds ↔ x ∈ xs) ∧ ds.length ≤ xs.length))) NoP := by
  obtain ⟨G, hG⟩ : ∃ G, H.push (.map #[] 0) = G := ⟨_, rfl⟩
  have f0 : Fr [] H G := by rw [← hG]; exact Fr.push
  have hm0 : MapR G H.size (([] : List (Int × Int)).map ivp) := by rw [← hG]; exact MapR.new
  refine callF_of Try.func20 rfl Try.ntmps20 Try.results20 (by decide) rfl ?_
  simp (disch := omega) only [go_sem, ↓cw_block, dsB_of]
  rw [hG]
  refine loop_by (fun j ρ H1 => ∃ (i : Nat) (kvs : List (Int × Int)) (wv : Value) (ds : List Int), j = xs.length - i ∧ i ≤ xs.length ∧ (ρ.get 0 = hp p ∧ ρ.get 6 = .map (some H.size) ∧ ρ.get 7 = wv ∧ ρ.get 11 = .slice a xs.length c ∧ ρ.get 12 = iv xs.length ∧ ρ.get 13 = iv i ∧ ρ.ds = []) ∧
    Fr [] H H1 ∧ MapR H1 H.size (kvs.map ivp) ∧ (∀ q, mget kvs q = cnt (xs.take i) q) ∧ (xs.take i).all (okA n) = true ∧ kvs.length ≤ i ∧ Vec H1 3 1 wv (nv (ds.map codeN)) ∧ (∀ b ∈ own wv, H.size < b) ∧ (∀ x, x ∈ ds ↔ x ∈ xs.take i) ∧ ds.length ≤ i) (k := xs.length) ?_ ?_
  · exact ⟨0, [], .slice none 0 0, [], rfl, by omega, by simp (disch := omega) only [go_sem, ↓cw_block, dsB_of], f0, hm0, fun q => by simp [mget, cnt], by simp, Nat.le_refl _, Vec.nil, by simp [own], by simp, by simp⟩
  · rintro _ ρ H1 ⟨i, kvs, wv, ds, rfl, hil, ⟨r0, r6, r7, r11, r12, r13, rd⟩, f1, m1, hkv, hall, hkl, v1, o1, hds, hdl⟩
    by_cases hie : i = xs.length
    · subst hie
      rw [List.take_length] at hall hds
      simp (disch := omega) only [go_sem, ↓cw_block, dsB_of, r0, r6, r7, r11, r12, r13, rd, dsB_of]
      exact fin ⟨f1, .inr ⟨hall, wv, ds, rfl, v1, fun b hb => Nat.le_of_lt (o1 b hb), hds, hdl⟩⟩
    · obtain ⟨x, hxi⟩ : ∃ x, xs[i]? = some x := ⟨_, List.getElem?_eq_getElem (by omega)⟩
      obtain ⟨b, o, e, kx⟩ := (hx.frame f1 (by simp)) i x hxi
      subst e
      have hm := h.out f1 (by simp)
      have c0 : cellH H1 ⟨p, 0, none⟩ = some (iv n) := hm.c 0
      have hi1 : (i : Int) + 1 = ((i + 1 : Nat) : Int) := by omega
      have htk : xs.take (i + 1) = xs.take i ++ [x] := by rw [List.take_add_one, hxi]; rfl
      by_cases hok : okA n x = true
      · have hok' := hok
        unfold okA at hok'
        rw [decide_eq_true_eq] at hok'
        obtain ⟨x0, x1, x2⟩ := hok'
        have hcl : (xs.take i).count x ≤ i := Nat.le_trans List.count_le_length (by simp; omega)
        have hval : ((mget kvs x).map (Value.int .i64)).getD (iv 0) = iv (((xs.take i).count x : Nat) : Int) := by
          rw [hkv x]; unfold cnt
          split
          · rename_i e; rw [e]; rfl
          · rfl
        have hlk : qrun Try.prog (Instr.lookup 66 (.map (some H.size)) (iv x) false) H1 = some (iv (((xs.take i).count x : Nat) : Int)) := by
          rw [look_ints Try.underlying66 Try.underlying3 T.zero3 m1 x false, ← hval]; rfl
        simp (disch := omega) only [go_sem, ↓cw_block, dsB_of, r0, r6, r7, r11, r12, r13, rd, kx, c0, hlk]
        refine set_ints Try.underlying66 Try.underlying3 m1 ?_
        intro H2 m2 f2
        have hkv2 := cnt_add (x := x) hkv
        rw [← htk] at hkv2
        have hct : (xs.take (i + 1)).count x = (xs.take i).count x + 1 := by rw [htk, List.count_append, List.count_singleton_self]
        have hc2 : cnt (xs.take (i + 1)) x = some ((((xs.take i).count x : Nat) : Int) + 1) := by
          unfold cnt
          rw [hct, if_neg (Nat.succ_ne_zero _)]
          rfl
        have hlk2 : qrun Try.prog (Instr.lookup 66 (.map (some H.size)) (iv x) false) H2 = some (iv (((xs.take i).count x : Nat) + 1 : Int)) := by
          rw [look_ints Try.underlying66 Try.underlying3 T.zero3 m2 x false, hkv2 x, hc2]
          rfl
        have f12 : Fr [H.size] H1 H2 := f2
        have f02 : Fr [] H H2 := ⟨Nat.le_trans f1.size f2.size, fun q hq _ => by rw [f2.same q (by have := f1.size; omega) (by simp only [List.mem_singleton]; omega), f1.same q hq (by simp)]⟩
        have v2 := v1.frame f2 (fun b hb => by have := o1 b hb; simp only [List.mem_singleton]; omega)
        have hall2 : (xs.take (i + 1)).all (okA n) = true := by rw [htk, List.all_append, hall]; simp [hok]
        by_cases hc0 : (xs.take i).count x = 0
        · have hnm : x ∉ xs.take i := List.count_eq_zero.1 hc0
          rw [hc0] at hlk2
          rw [Int.natCast_zero, Int.zero_add] at hlk2
          simp (disch := omega) only [go_sem, ↓cw_block, dsB_of, r0, r6, r7, r11, r12, r13, rd, hlk2]
          refine call_to (sCode_spec (l := x) (by omega)) ?_
          rintro v H3 ⟨rfl, rfl⟩
          simp (disch := omega) only [go_sem, ↓cw_block, dsB_of, r0, r6, r7, r11, r12, r13, rd]
          refine app_lit1 T.el26 rfl v2 rfl (by rw [nv_len, List.length_map]; omega) ?_
          intro v' H4 g1 g2 g3 g4
          simp (disch := omega) only [go_sem, ↓cw_block, dsB_of, r0, r6, r7, r11, r12, r13, rd]
          refine fin ⟨xs.length - (i + 1), by omega, i + 1, _, v', ds ++ [x], rfl, by omega, by simp (disch := omega) only [go_sem, ↓cw_block, dsB_of, r0, r6, r7, r11, r12, r13, rd, hi1], ⟨Nat.le_trans f02.size g2.size, fun q hq _ => ?_⟩, m2.frame g2 (fun e => ?_), hkv2, hall2, by have := mset_len x ((((xs.take i).count x : Nat) : Int) + 1) kvs; omega, by simpa [nv] using g1, fun q hq => ?_, fun y => by rw [htk, List.mem_append, List.mem_append, hds y], by simp; omega⟩
          · rw [g2.same q (by have := f02.size; omega) (fun e => by have := o1 q e; omega), f02.same q hq (by simp)]
          · have := o1 _ e; omega
          · rcases g3 q hq with h | h
            · exact o1 q h
            · have := m2.lt; omega
        · have hne : (((xs.take i).count x : Nat) : Int) + 1 ≠ 1 := by omega
          simp (disch := omega) only [go_sem, ↓cw_block, dsB_of, r0, r6, r7, r11, r12, r13, rd, hlk2]
          have hmx : x ∈ xs.take i := List.count_pos_iff.1 (by omega)
          refine fin ⟨xs.length - (i + 1), by omega, i + 1, _, wv, ds, rfl, by omega, by simp (disch := omega) only [go_sem, ↓cw_block, dsB_of, r0, r6, r7, r11, r12, r13, rd, hi1], f02, m2, hkv2, hall2, by have := mset_len x ((((xs.take i).count x : Nat) : Int) + 1) kvs; omega, v2, o1, fun y => ?_, by omega⟩
          rw [htk, List.mem_append, hds y, List.mem_singleton]
          exact ⟨.inl, fun h => h.elim id (fun e => e ▸ hmx)⟩
      · have hbad : x = 0 ∨ x < -(n : Int) ∨ (n : Int) < x := by
          unfold okA at hok
          rw [decide_eq_true_eq] at hok
          omega
        have hf : xs.all (okA n) = false := by
          rw [List.all_eq_false]
          exact ⟨x, List.mem_of_getElem? hxi, hok⟩
        have hz : x = 0 ∨ x ≠ 0 := by omega
        rcases hz with hz | hz
        · subst hz
          simp (disch := omega) only [go_sem, ↓cw_block, dsB_of, r0, r6, r7, r11, r12, r13, rd, kx, c0, dsB_of]
          exact fin ⟨f1, .inl ⟨hf, rfl⟩⟩
        · by_cases hlt : x < -(n : Int)
          · simp (disch := omega) only [go_sem, ↓cw_block, dsB_of, r0, r6, r7, r11, r12, r13, rd, kx, c0, dsB_of]
            exact fin ⟨f1, .inl ⟨hf, rfl⟩⟩
          · simp (disch := omega) only [go_sem, ↓cw_block, dsB_of, r0, r6, r7, r11, r12, r13, rd, kx, c0, dsB_of]
            exact fin ⟨f1, .inl ⟨hf, rfl⟩⟩
end
end Go.Proofs.Ythghkhpclemmlaa

namespace Go.Proofs.Ythghkhpclemmlaa
open Go.HL HM Go.Sat
set_option maxRecDepth 10000
set_option linter.unusedSimpArgs false
set_option linter.unusedVariables false

section
variable {H : Heap} {ow : Nat → Nat} {p n : Nat} {k : Bk} {f : Cf} {G : List (List Nat)}
set_option maxHeartbeats 4000000 in
theorem sRefuted_spec (h : RM H ow p n k f) {cv : Value} {zs : List Int} (hv : Vec H 3 1 cv (zs.map iv)) (hlb : ∀ x ∈ zs, litB x = true) (hlen : zs.length ≤ 100000) {q : Nat} (hq : f.ls.length = 2 * q) (hls : q ≤ 1000000) :
    CallF Try.prog 24 [hp p, cv] H (fun v H' => v = .tuple #[] ∧ ∃ ow' cw ys idle, NF zs ys idle ∧ Vec H' 3 1 cw (ys.map iv) ∧ (∀ b ∈ own cw, H.size ≤ b ∧ ow' b = 0) ∧ Ex H ow H' ow' ∧
      ((idle = true ∧ RM H' ow' p n k (f.uCore cw)) ∨ (idle = false ∧ ∃ lv w, RM H' ow' p n k ((f.uCore cw).uLines lv (f.ls ++ [.bool false, w])) ∧ Vec H' 3 1 w ((ys.map (- ·)).map iv) ∧ ∀ b ∈ own w, H.size ≤ b ∧ ow' b = 0))) NoP := by
  obtain ⟨a, c, el⟩ : ∃ a c, cv = .slice a zs.length c := by
    obtain ⟨a, len, c, rfl, e⟩ := hv.len
    rw [List.length_map, Nat.mul_one] at e; subst e
    exact ⟨a, c, rfl⟩
  subst el
  obtain ⟨a1, c1, e1, hrn⟩ := (IL.of_vec hv).ex
  simp only [Value.slice.injEq] at e1
  obtain ⟨rfl, -, rfl⟩ := e1
  refine callF_of Try.func24 rfl Try.ntmps24 Try.results24 (by decide) rfl ?_
  simp (disch := omega) only [go_sem, ↓cw_block, dsB_of]
  refine call_to (cNorm_spec hrn hlb (by omega)) ?_
  rintro v H1 ⟨f1, cw, ys, idle, rfl, v1, o1, hnf⟩
  obtain ⟨b, d, eb⟩ : ∃ a c, cw = .slice a ys.length c := by
    obtain ⟨a, len, c, rfl, e⟩ := v1.len
    rw [List.length_map, Nat.mul_one] at e; subst e
    exact ⟨a, c, rfl⟩
  subst eb
  have m1 := h.out f1 (by simp)
  have e01 : Ex H ow H1 ow := Ex.of (Sm.of (R := fun _ => False) f1 (by simp)) (by simp)
  obtain ⟨H2, w2, (m2 : RM _ _ _ _ _ _), e2⟩ := m1.putCore (.slice b ys.length d)
  have hf1 : ∀ q ∈ own (Value.slice b ys.length d), ow q = 0 := fun b hb => h.free (o1 b hb)
  have v2 := e2.vec v1 hf1
  have e02 := e01.trans e2
  cases idle with
  | true =>
    simp (disch := omega) only [go_sem, ↓cw_block, dsB_of, w2, dsB_of]
    exact fin ⟨rfl, ow, _, ys, true, hnf, v2, fun b hb => ⟨o1 b hb, hf1 b hb⟩, e02, .inl ⟨rfl, m2⟩⟩
  | false =>
    have hyl := hnf.le
    obtain ⟨G1, hG⟩ : ∃ G1, H2.push (.cells (List.replicate ys.length (iv 0)).toArray 3) = G1 := ⟨_, rfl⟩
    have f2 : Fr [] H2 G1 := by rw [← hG]; exact Fr.push
    have vG : Vec G1 3 1 (.slice (some ⟨H2.size, 0, none⟩) 0 ys.length) [] := ⟨.inr ⟨H2.size, 0, ys.length, [], List.replicate ys.length (iv 0), rfl, by rw [← hG]; exact Blk.new rfl, rfl, by simp, by omega⟩⟩
    simp (disch := omega) only [go_sem, ↓cw_block, dsB_of, w2, hG]
    refine loop_by (fun j ρ H3 => ∃ (i : Nat) (wv : Value), j = ys.length - i ∧ i ≤ ys.length ∧ (ρ.get 0 = hp p ∧ ρ.get 6 = wv ∧ ρ.get 22 = .slice b ys.length d ∧ ρ.get 23 = iv ys.length ∧ ρ.get 24 = iv i ∧ ρ.ds = []) ∧
      Fr [] H2 H3 ∧ Vec H3 3 1 wv (((ys.take i).map (- ·)).map iv) ∧ ∀ b ∈ own wv, H2.size ≤ b) (k := ys.length) ?_ ?_
    · exact ⟨0, _, rfl, by omega, by simp (disch := omega) only [go_sem, ↓cw_block, dsB_of]; rfl, f2, by simpa using vG, by simp [own]⟩
    · rintro _ ρ H3 ⟨i, wv, rfl, hil, ⟨r0, r6, r22, r23, r24, rd⟩, f3, v3, o3⟩
      have m3 := m2.out f3 (by simp)
      have e23 : Ex H2 ow H3 ow := Ex.of (Sm.of (R := fun _ => False) f3 (by simp)) (by simp)
      by_cases hie : i = ys.length
      · subst hie
        rw [List.take_length] at v3
        obtain ⟨wa, wc, ew⟩ : ∃ a c, wv = .slice a ys.length c := by
          obtain ⟨a, len, c, rfl, e⟩ := v3.len
          rw [List.length_map, List.length_map, Nat.mul_one] at e; subst e
          exact ⟨a, c, rfl⟩
        subst ew
        have hf3 : ∀ b ∈ own (Value.slice wa ys.length wc), ow b = 0 := fun b hb => m2.free (o3 b hb)
        simp (disch := omega) only [go_sem, ↓cw_block, dsB_of, r0, r6, r22, r23, r24, rd]
        refine call_to (sAddL_spec m3 (q := q) hq hls) ?_
        rintro v H4 ⟨rfl, ow4, lv, m4, e4⟩
        simp (disch := omega) only [go_sem, ↓cw_block, dsB_of, dsB_of, rd]
        refine fin ⟨rfl, ow4, _, ys, false, hnf, (e23.trans e4).vec v2 hf1, fun q hq => ⟨o1 q hq, ?_⟩, (e02.trans e23).trans e4, .inr ⟨rfl, lv, _, m4, e4.vec v3 hf3, fun q hq => ⟨by have := o3 q hq; have := e02.sm.size; omega, ?_⟩⟩⟩
        · rw [e4.ow q ((v2.frame f3 (by simp)).lt q hq)]; exact hf1 q hq
        · rw [e4.ow q (v3.lt q hq)]; exact hf3 q hq
      · obtain ⟨x, hx⟩ : ∃ x, ys[i]? = some x := ⟨_, List.getElem?_eq_getElem (by omega)⟩
        have hxb := hlb x ((hnf.mem x).1 (List.mem_of_getElem? hx))
        unfold litB at hxb
        rw [decide_eq_true_eq] at hxb
        obtain ⟨b', o', cap', e', kx⟩ := vec_cell (v2.frame f3 (by simp)) (i := i) (u := iv x) (by simp [hx])
        simp only [Value.slice.injEq] at e'
        obtain ⟨rfl, -, rfl⟩ := e'
        have hi1 : (i : Int) + 1 = ((i + 1 : Nat) : Int) := by omega
        simp (disch := omega) only [go_sem, ↓cw_block, dsB_of, r0, r6, r22, r23, r24, rd, kx]
        refine app_lit1 T.el26 rfl v3 rfl (by simp; omega) ?_
        intro v' H4 g1 g2 g3 g4
        simp (disch := omega) only [go_sem, ↓cw_block, dsB_of, r0, r6, r22, r23, r24, rd]
        refine fin ⟨ys.length - (i + 1), by omega, i + 1, v', rfl, by omega, by simp (disch := omega) only [go_sem, ↓cw_block, dsB_of, r0, r6, r22, r23, r24, rd, hi1], ⟨Nat.le_trans f3.size g2.size, fun q hq _ => ?_⟩, ?_, fun q hq => ?_⟩
        · rw [g2.same q (by have := f3.size; omega) (fun e => by have := o3 q e; omega), f3.same q hq (by simp)]
        · have : ((ys.take (i + 1)).map (- ·)).map iv = ((ys.take i).map (- ·)).map iv ++ [iv (-x)] := by
            rw [List.take_add_one, hx]; simp
          rw [this]; exact g1
        · rcases g3 q hq with h | h
          · exact o3 q h
          · have := f3.size; omega
end
end Go.Proofs.Ythghkhpclemmlaa

namespace Go.Proofs.Ythghkhpclemmlaa
open Go.HL HM Go.Sat
set_option maxRecDepth 10000
set_option linter.unusedSimpArgs false
set_option linter.unusedVariables false

section
variable {H : Heap} {ow : Nat → Nat} {p n : Nat} {k : Bk} {f : Cf} {G : List (List Nat)}
theorem sOver_spec {A B : Nat} {x : Int} {b : Int} (hb : b < 0) (hA : Blk H A 3 [iv b]) : CallF Try.prog 22 [iv x, .pointer (some ⟨A, 0, none⟩), .pointer (some ⟨B, 0, none⟩)] H (fun v H' => v = .bool false ∧ H' = H) NoP := by
  have hc : cellH H ⟨A, 0, none⟩ = some (iv b) := by rw [hA.cell]; rfl
  refine callF_of Try.func22 rfl Try.ntmps22 Try.results22 (by decide) rfl ?_
  simp (disch := omega) only [go_sem, ↓cw_block, dsB_of, hc]
  exact fin ⟨rfl, rfl⟩
theorem Ex.rn {H' : Heap} {ow' : Nat → Nat} (h : Ex H ow H' ow') {a : Option Addr} {xs : List Int} (hx : Rn H a xs) (ho : ∀ b o, a = some ⟨b, o, none⟩ → b < H.size ∧ ow b = 0) : Rn H' a xs := fun i x hi => by
  obtain ⟨b, o, e, hc⟩ := hx i x hi
  refine ⟨b, o, e, ?_⟩
  obtain ⟨h1, h2⟩ := ho b o e
  have := h.fr h1 h2
  unfold cellH at hc ⊢
  rw [this]; exact hc
/-- How much has been used. -/
structure Bd (f : Cf) (u : Nat) : Prop where
  conf : f.conf ≤ u
  lrn : f.lrn.length ≤ u
  ls : ∃ q, f.ls.length = 2 * q ∧ q ≤ u
  C : f.C.length ≤ f.loaded + u
  room : f.room = 4000
/-- A solver between two calls. -/
structure SV (H : Heap) (ow : Nat → Nat) (p n : Nat) (k : Bk) (f : Cf) : Prop where
  sd : SD H ow p n k f (gcode (f.gl.take f.loaded))
  cn : ∀ z ∈ f.gl, CN n z
  ld : f.loaded ≤ f.gl.length
/-- There is no conflict. -/
def Quiet (n : Nat) (G : List (List Nat)) (xs : List Int) : Prop :=
  (∃ m, ∀ ds : List Int, (∀ x, x ∈ ds ↔ x ∈ xs) → ds.length ≤ xs.length → QH n G (ds.map codeN) m) ∨ ∀ (s : St) (C : List Nat) (w : Nat → List Nat) (head : Nat), SI n s C w G head → head = s.tr.length → False
/-- What solving answers. -/
inductive SolA (n : Nat) (G : List (List Nat)) (xs : List Int) (H : Heap) (ow : Nat → Nat) (f f' : Cf) : Value → Prop
  | bad (hb : xs.all (okA n) = false) (hls : f'.ls = f.ls) : SolA n G xs H ow f f' (iv 0)
  | sat (md : List Bool) (m : Nat → Bool) (hb : xs.all (okA n) = true) (hd : f'.dead = false) (hm : Mdl m) (hG : AllB m G) (ha : ∀ x ∈ xs, m (codeN x) = true) (hl : md = (List.range n).map fun j => m (2 * j + 2))
      (hv : Vec H 4 1 f'.model (md.map Value.bool)) (ho : ∀ b ∈ own f'.model, ow b = 0) (hc : f'.core = .slice none 0 0) (hq : Quiet n G xs → f'.ls = f.ls) : SolA n G xs H ow f f' (iv 1)
  | unsat (cs : List Nat) (ys : List Int) (idle : Bool) (hb : xs.all (okA n) = true) (hcs : cs = [] ∧ f'.dead = true ∨ cs ≠ [] ∧ f'.dead = false ∧ ∃ x ∈ xs, codeN x ∈ cs) (hi : ∀ y ∈ cs, isC n y) (hu : ∀ m, Mdl m → AllB m G → ¬ ∀ y ∈ cs, m y = true) (hn : NF (cs.map litI) ys idle)
      (hv : Vec H 3 1 f'.core (ys.map iv)) (ho : ∀ b ∈ own f'.core, ow b = 0)
      (hl : ∃ L0, (Quiet n G xs → L0 = f.ls) ∧ (idle = true ∧ f'.ls = L0 ∨ idle = false ∧ ∃ w, f'.ls = L0 ++ [.bool false, w] ∧ Vec H 3 1 w ((ys.map (- ·)).map iv) ∧ ∀ b ∈ own w, ow b = 0)) : SolA n G xs H ow f f' (iv 2)
set_option maxHeartbeats 4000000 in
theorem sSolve_spec (h : SV H ow p n k f) (hn7 : 2 ^ n ≤ 128) (hr2 : f.rounds ≤ 2) {u : Nat} (hbd : Bd f u) (hu : u ≤ 3000) (hgl : f.gl.length ≤ 30000) {b : Int} (hb : b < 0)
    {a : Option Addr} {xs : List Int} {c : Nat} (hx : Rn H a xs) (hxo : ∀ b o, a = some ⟨b, o, none⟩ → b < H.size ∧ ow b = 0) (hlen : xs.length ≤ 1000) :
    CallF Try.prog 9 [hp p, iv b, .slice a xs.length c] H (fun v H' => ∃ ow' f', SV H' ow' p n k f' ∧ Ex H ow H' ow' ∧ f'.given = f.given ∧ f'.gs = f.gs ∧ f'.gl = f.gl ∧ Bd f' (u + 400) ∧ (2 ^ n ≤ 64 → f'.rounds = f.rounds) ∧ (f.dead = true → f'.dead = true) ∧ (v ≠ iv 0 → f'.loaded = f.gl.length) ∧ SolA n (gcode f.gl) xs H' ow' f f' v) NoP := by
  have hn := h.sd.sb.n
  obtain ⟨G1, hG1⟩ : ∃ G1, H.push (.cells #[iv b] 3) = G1 := ⟨_, rfl⟩
  have f1 : Fr [] H G1 := by rw [← hG1]; exact Fr.push
  have b1 : Blk G1 H.size 3 [iv b] := by rw [← hG1]; exact Blk.new rfl
  have m1 := h.sd.sb.m.out f1 (by simp)
  have e01 : Ex H ow G1 ow := Ex.of (Sm.of (R := fun _ => False) f1 (by simp)) (by simp)
  have hA0 : ow H.size = 0 := h.sd.sb.m.free (Nat.le_refl _)
  obtain ⟨H2, w2, (m2 : RM _ _ _ _ _ _), e2⟩ := m1.putModel (.slice none 0 0)
  obtain ⟨H3, w3, (m3 : RM _ _ _ _ _ _), e3⟩ := m2.putCore (.slice none 0 0)
  have e03 := e01.trans (e2.trans e3)
  have x3 : Rn H3 a xs := e03.rn hx hxo
  refine callF_of Try.func9 rfl Try.ntmps9 Try.results9 (by decide) rfl ?_
  simp (disch := omega) only [go_sem, ↓cw_block, dsB_of]
  rw [hG1]
  simp (disch := omega) only [go_sem, ↓cw_block, dsB_of, w2, w3]
  refine call_to (sAssume_spec m3 hn x3 hlen) ?_
  rintro v H4 ⟨f4, hv⟩
  have m4 := m3.out f4 (by simp)
  have e04 : Ex H ow H4 ow := e03.trans (Ex.of (Sm.of (R := fun _ => False) f4 (by simp)) (by simp))
  have sb4 : SB H4 ow p n k ((f.uModel (.slice none 0 0)).uCore (.slice none 0 0)) := ⟨m4, ⟨h.sd.sb.r.vals, h.sd.sb.r.lv⟩, h.sd.sb.inv, h.sd.sb.wi, h.sd.sb.le, h.sd.sb.hin, h.sd.sb.sn, h.sd.sb.stp, h.sd.sb.n⟩
  have sd4 : SD H4 ow p n k ((f.uModel (.slice none 0 0)).uCore (.slice none 0 0)) (gcode (f.gl.take f.loaded)) := ⟨sb4, h.sd.st, h.sd.ok, h.sd.no⟩
  obtain ⟨q0, hq0, hqu⟩ := hbd.ls
  have hbc := hbd.C
  have hbf := hbd.conf
  have hbl := hbd.lrn
  have hbr := hbd.room
  have hld := h.ld
  rcases hv with ⟨hbad, rfl⟩ | ⟨hall, w, ds, rfl, v4, o4, hds, hdl⟩
  · simp (disch := omega) only [go_sem, ↓cw_block, dsB_of, dsB_of]
    exact fin ⟨ow, _, ⟨sd4, h.cn, h.ld⟩, e04, rfl, rfl, rfl, ⟨by show f.conf ≤ _; omega, by show f.lrn.length ≤ _; omega, ⟨q0, hq0, by omega⟩, by show f.C.length ≤ f.loaded + _; omega, hbr⟩, fun _ => rfl, id, fun e => absurd rfl e, .bad hbad rfl⟩
  · simp (disch := omega) only [go_sem, ↓cw_block, dsB_of]
    refine call_to (sLoad_spec sd4 h.cn h.ld (by show f.C.length + f.gl.length ≤ _; omega)) ?_
    rintro v H5 ⟨rfl, ow5, f5, sd5, e5, k5, ld5, C5, dd5, hh5⟩
    have k5' := k5
    simp only [Cf.key7, Prod.mk.injEq] at k5'
    obtain ⟨x1, x2, x3', x4, x5, ⟨x6, x7, x8⟩, x9, x10, x11⟩ := k5'
    have C5' : f5.C.length ≤ f.C.length + (f.gl.length - f.loaded) := C5
    have e05 := e04.trans e5
    have ld5' : f5.loaded = f.gl.length := ld5
    have c4 : cellH H5 ⟨p, 4, none⟩ = some (iv f5.conf) := sd5.sb.m.c 4
    obtain ⟨H6, hH6⟩ : ∃ H6, H5.push (.cells #[iv 0] 3) = H6 := ⟨_, rfl⟩
    have f6 : Fr [] H5 H6 := by rw [← hH6]; exact Fr.push
    have b6 : Blk H6 H5.size 3 [iv 0] := by rw [← hH6]; exact Blk.new rfl
    have w6 := b6.wr (i := 0) (by simp) (iv f5.conf)
    generalize hH7 : setH H6 ⟨H5.size, 0, none⟩ (iv f5.conf) = H7 at w6
    have f7 : Fr [H5.size] H6 H7 := by rw [← hH7]; exact Fr.set (by simp)
    have z5 : ow5 H5.size = 0 := sd5.sb.m.free (Nat.le_refl _)
    have m7 := (sd5.sb.m.out f6 (by simp)).out f7 (by simpa using z5)
    have e57 : Ex H5 ow5 H7 ow5 := (Ex.of (Sm.of (R := fun _ => False) f6 (by simp)) (by simp) : Ex H5 ow5 H6 ow5).fresh f7 (by simp)
    have e07 := e05.trans e57
    have sb7 : SB H7 ow5 p n k f5 := ⟨m7, sd5.sb.r, sd5.sb.inv, sd5.sb.wi, sd5.sb.le, sd5.sb.hin, sd5.sb.sn, sd5.sb.stp, sd5.sb.n⟩
    have e47 : Ex H4 ow H7 ow5 := e5.trans e57
    have ho4 : ∀ b ∈ own w, ow b = 0 := fun b hb => m3.free (o4 b hb)
    have v7 := e47.vec v4 ho4
    have ho7 : ∀ b ∈ own w, ow5 b = 0 := fun b hb => by rw [e47.ow b (v4.lt b hb)]; exact ho4 b hb
    have hall' := List.all_eq_true.1 hall
    have hcd : ∀ x ∈ xs, x ≠ 0 ∧ x.natAbs ≤ n := fun x hx => by
      have := hall' x hx
      unfold okA at this
      rw [decide_eq_true_eq] at this
      omega
    have hxc : ∀ y ∈ ds.map codeN, isC n y := fun y hy => by
      obtain ⟨x, hx, rfl⟩ := List.mem_map.1 hy
      have := hcd x ((hds x).1 hx)
      exact codeN_isC this.1 this.2
    simp (disch := omega) only [go_sem, ↓cw_block, dsB_of, c4]
    rw [hH6]
    simp (disch := omega) only [go_sem, ↓cw_block, dsB_of, w6]
    refine call_to (sRun_spec (f := f5) (G := gcode f.gl) sb7 sd5.st sd5.ok sd5.no (xs := ds.map codeN) v7 ho7 hxc (by rw [List.length_map]; omega) (g := 22) (caps := [.pointer (some ⟨H.size, 0, none⟩), .pointer (some ⟨H5.size, 0, none⟩)]) ?_ hn7 (by rw [x5]; exact hr2) (q := q0) (by rw [x3']; exact hq0) (by omega) (by rw [x2, x4]; show ((f.lrn.length : Nat) : Int) + 400 ≤ f.room; omega) (by rw [x4]; show f.room ≤ _; omega) (by omega) (by rw [x1]; show f.conf ≤ _; omega)) ?_
    · intro H1 ow1 x ex
      have e17 : Ex G1 ow H7 ow5 := ((e2.trans e3).trans (Ex.of (Sm.of (R := fun _ => False) f4 (by simp)) (by simp))).trans e47
      have b7 := e17.blk b1 hA0
      have hA5 : ow5 H.size = 0 := by rw [e17.ow H.size b1.lt]; exact hA0
      exact sOver_spec hb (ex.blk b7 hA5)
    · rintro v H8 ⟨ow8, f8, d, r, sb8, st8, ok8, e8, nm8, d8, r8, q8, dd8, qt8, qd8, ans⟩
      have e08 := e07.trans e8
      have ld8 : f8.loaded = f.gl.length := nm8.loaded.trans ld5'
      have gl8 : f8.gl = f.gl := nm8.giv.2.2.trans x8
      have gs8 : f8.gs = f.gs := nm8.giv.2.1.trans x7
      have gi8 : f8.given = f.given := nm8.giv.1.trans x6
      have no8 : f8.dead = true → ∀ m, Mdl m → ¬ AllB m (gcode f.gl) := fun hd => by
        cases ans with
        | dead h1 h2 => exact h2
        | sat _ _ h1 => rw [hd] at h1; cases h1
        | unsat _ _ _ h1 => rw [hd] at h1; cases h1
      have bd8 : Bd f8 (u + 399) := ⟨by rw [nm8.conf, x1]; show f.conf + d ≤ _; omega, by have := nm8.lrn; rw [x2] at this; have h2 : f8.lrn.length ≤ f.lrn.length + d := this; omega, ⟨q0 + d, by rw [nm8.ls, x3']; show f.ls.length + 2 * d = _; omega, by omega⟩, by have := nm8.C; rw [ld8]; omega, by rw [nm8.room, x4]; exact hbr⟩
      have rd8 : 2 ^ n ≤ 64 → f8.rounds = f.rounds := fun h64 => by rw [nm8.rounds, (q8 h64).1, x5]; rfl
      have dm8 : f.dead = true → f8.dead = true := fun e => dd8 (dd5 e)
      have hq8 : Quiet n (gcode f.gl) xs → f8.ls = f.ls := by
        rintro (⟨m, hm⟩ | hno)
        · by_cases hd : f5.dead = true
          · have := (hm ds hds hdl)
            exact absurd this.all (sd5.no hd m this.mdl)
          · exact ((qt8 (by simpa using hd) m (hm ds hds hdl)).2).trans x3'
        · by_cases hd : f5.dead = true
          · exact (qd8 hd).2.trans x3'
          · have hd' : f5.dead = false := by simpa using hd
            exact (hno _ _ _ _ (sd5.ok hd') (hh5 hd')).elim
      have sd8 : SD H8 ow8 p n k f8 (gcode f.gl) := ⟨sb8, st8, fun e => (ok8 e).1, no8⟩
      have fin8 : ∀ {Hx : Heap} {owx : Nat → Nat} {fx : Cf} {vx : Value}, SD Hx owx p n k fx (gcode f.gl) → Ex H ow Hx owx → fx.key7 = f8.key7 ∨ True → fx.given = f8.given → fx.gs = f8.gs → fx.gl = f8.gl → fx.loaded = f8.loaded → fx.rounds = f8.rounds → fx.dead = f8.dead → Bd fx (u + 400) → SolA n (gcode f.gl) xs Hx owx f fx vx →
          ∃ ow' f', SV Hx ow' p n k f' ∧ Ex H ow Hx ow' ∧ f'.given = f.given ∧ f'.gs = f.gs ∧ f'.gl = f.gl ∧ Bd f' (u + 400) ∧ (2 ^ n ≤ 64 → f'.rounds = f.rounds) ∧ (f.dead = true → f'.dead = true) ∧ (vx ≠ iv 0 → f'.loaded = f.gl.length) ∧ SolA n (gcode f.gl) xs Hx ow' f f' vx := by
        intro Hx owx fx vx h1 h2 _ h3 h4 h5 h6 h7 h8 h9 h10
        refine ⟨owx, fx, ⟨?_, ?_, ?_⟩, h2, h3.trans gi8, h4.trans gs8, h5.trans gl8, h9, fun e => h7.trans (rd8 e), fun e => h8.trans (dm8 e), fun _ => h6.trans ld8, h10⟩
        · rw [h5, gl8, gcode_len (by rw [h6, ld8]; exact Nat.le_refl _)]; exact h1
        · rw [h5, gl8]; exact h.cn
        · rw [h6, ld8, h5, gl8]; exact Nat.le_refl _
      have bd8' : Bd f8 (u + 400) := ⟨by have := bd8.conf; omega, by have := bd8.lrn; omega, by obtain ⟨q, h1, h2⟩ := bd8.ls; exact ⟨q, h1, by omega⟩, by have := bd8.C; omega, bd8.room⟩
      -- a refutation
      have refu : ∀ (cs : List Nat) (cv : Value), Vec H8 3 1 cv ((cs.map litI).map iv) → (∀ y ∈ cs, isC n y) → cs.length ≤ n + 1 → (cs = [] ∧ f8.dead = true ∨ cs ≠ [] ∧ f8.dead = false ∧ ∃ x ∈ xs, codeN x ∈ cs) → (∀ m, Mdl m → AllB m (gcode f.gl) → ¬ ∀ y ∈ cs, m y = true) →
          CallF Try.prog 24 [hp p, cv] H8 (fun v H' => v = .tuple #[] ∧ ∃ ow' f', SV H' ow' p n k f' ∧ Ex H ow H' ow' ∧ f'.given = f.given ∧ f'.gs = f.gs ∧ f'.gl = f.gl ∧ Bd f' (u + 400) ∧ (2 ^ n ≤ 64 → f'.rounds = f.rounds) ∧ (f.dead = true → f'.dead = true) ∧ (iv 2 ≠ iv 0 → f'.loaded = f.gl.length) ∧ SolA n (gcode f.gl) xs H' ow' f f' (iv 2)) NoP := by
        intro cs cv hcv hcc hcl hcs hu
        obtain ⟨q, hq, hqu'⟩ := bd8.ls
        refine (sRefuted_spec sb8.m hcv (fun x hx => by
          obtain ⟨y, hy, rfl⟩ := List.mem_map.1 hx
          exact litI_ok (hcc y hy) hn) (by rw [List.length_map]; omega) hq (by omega)).to ?_
        rintro v H9 ⟨rfl, ow9, cw, ys, idle, hnf, v9, o9, e9, hor⟩
        refine ⟨rfl, ?_⟩
        rcases hor with ⟨rfl, m9⟩ | ⟨rfl, lv, w, m9, w9, ow9'⟩
        · refine fin8 (fx := f8.uCore cw) ⟨⟨m9, ⟨sb8.r.vals, sb8.r.lv⟩, sb8.inv, sb8.wi, sb8.le, sb8.hin, sb8.sn, sb8.stp, sb8.n⟩, st8, sd8.ok, sd8.no⟩ (e08.trans e9) (.inr trivial) rfl rfl rfl rfl rfl rfl ⟨bd8'.conf, bd8'.lrn, bd8'.ls, bd8'.C, bd8'.room⟩ ?_
          exact .unsat cs ys true hall hcs hcc hu hnf v9 (fun b hb => (o9 b hb).2) ⟨f8.ls, hq8, .inl ⟨rfl, rfl⟩⟩
        · refine fin8 (fx := (f8.uCore cw).uLines lv (f8.ls ++ [.bool false, w])) ⟨⟨m9, ⟨sb8.r.vals, sb8.r.lv⟩, sb8.inv, sb8.wi, sb8.le, sb8.hin, sb8.sn, sb8.stp, sb8.n⟩, st8, sd8.ok, sd8.no⟩ (e08.trans e9) (.inr trivial) rfl rfl rfl rfl rfl rfl ⟨bd8'.conf, bd8'.lrn, ⟨q + 1, by show (f8.ls ++ [_, w]).length = _; simp; omega, by omega⟩, bd8'.C, bd8'.room⟩ ?_
          exact .unsat cs ys false hall hcs hcc hu hnf v9 (fun b hb => (o9 b hb).2) ⟨f8.ls, hq8, .inr ⟨rfl, w, rfl, w9, fun b hb => (ow9' b hb).2⟩⟩
      cases ans with
      | dead h1 h2 =>
        simp (disch := omega) only [go_sem, ↓cw_block, dsB_of]
        refine call_to (refu [] (.slice none 0 0) Vec.nil (by simp) (by simp) (.inl ⟨rfl, h1⟩) (fun m hm hG _ => h2 m hm hG)) ?_
        rintro v H9 ⟨rfl, hres⟩
        simp (disch := omega) only [go_sem, ↓cw_block, dsB_of, dsB_of]
        exact fin hres
      | sat md m h1 h2 h3 h4 h5 h6 h7 =>
        simp (disch := omega) only [go_sem, ↓cw_block, dsB_of, dsB_of]
        refine fin (fin8 sd8 e08 (.inr trivial) rfl rfl rfl rfl rfl rfl bd8' (.sat md m hall h1 h2 h3 (fun x hx => h4 _ (List.mem_map.2 ⟨x, (hds x).2 hx, rfl⟩)) h5 h6 h7 (nm8.cor.trans x10) hq8))
      | unsat core x dd h1 h2 h3 h4 h5 h6 h7 =>
        simp (disch := omega) only [go_sem, ↓cw_block, dsB_of]
        refine call_to (refu (x :: dd) core h4 h3 (by simp; omega) (.inr ⟨by simp, h1, ?_⟩) h7) ?_
        · obtain ⟨z, hz, rfl⟩ := List.mem_map.1 h2
          exact ⟨z, (hds z).1 hz, by simp⟩
        rintro v H9 ⟨rfl, hres⟩
        simp (disch := omega) only [go_sem, ↓cw_block, dsB_of, dsB_of]
        exact fin hres
end
end Go.Proofs.Ythghkhpclemmlaa

namespace Go.Proofs.Ythghkhpclemmlaa
open Go.HL HM Go.Sat
set_option maxRecDepth 10000
set_option linter.unusedSimpArgs false
set_option linter.unusedVariables false

section
variable {H : Heap} {ow : Nat → Nat} {p n : Nat} {k : Bk} {f : Cf} {G : List (List Nat)}
theorem nst {S T : Nat} {L : List Value} (hb : Blk H S T L) {i : Nat} (hi : i < L.length) (v : Value) : ∃ H', wr H ⟨S, i, none⟩ v = some H' ∧ Blk H' S T (L.set i v) ∧ H'.size = H.size ∧ Fr [S] H H' :=
  ⟨_, hb.wr hi v, hb.set i v, size_setH, Fr.set (by simp)⟩
theorem npu {S T : Nat} {L : List Value} (hb : Blk H S T L) {i : Nat} (hi : i < L.length) (v : Value) (vs : List Value) (t : Nat) :
    ∃ H', wr (H.push (.cells vs.toArray t)) ⟨S, i, none⟩ v = some H' ∧ Blk H' S T (L.set i v) ∧ H'.size = H.size + 1 ∧ Fr [S] H H' ∧ Blk H' H.size t vs := by
  have h1 := hb.push (.cells vs.toArray t)
  have fp : Fr [] H (H.push (.cells vs.toArray t)) := Fr.push
  have fs : Fr [S] (H.push (.cells vs.toArray t)) (setH (H.push (.cells vs.toArray t)) ⟨S, i, none⟩ v) := Fr.set (by simp)
  refine ⟨_, h1.wr hi v, h1.set i v, by rw [size_setH]; simp, ?_, ?_⟩
  · exact ⟨Nat.le_trans fp.size fs.size, fun b hb hne => by rw [fs.same b (Nat.lt_of_lt_of_le hb fp.size) hne, fp.same b hb (by simp)]⟩
  · have h2 : Blk (H.push (.cells vs.toArray t)) H.size t vs := Blk.new rfl
    exact h2.set_other (show H.size ≠ S from Nat.ne_of_gt hb.lt)
def newCf (n : Nat) (os pl : List Int) : Cf := { given := .slice none 0 0, lines := .slice none 0 0, model := .slice none 0 0, core := .slice none 0 0, trail := .slice none 0 0, starts := .slice none 0 0, learned := .slice none 0 0, gs := [], gl := [], ls := [], loaded := 0, conf := 0, head := 0, step := 1024, room := 4000, rounds := 0, dead := false, lrn := [], vals := List.replicate (2 * n + 2) 0, lvls := List.replicate (n + 1) 0, seen := List.replicate (n + 1) false, last := List.replicate (n + 1) false, rea := fun _ => none, tr := [], st := [], m := n, os := os, pl := pl, ac := List.replicate (n + 1) 0, ws := fun _ => .slice none 0 0, w := fun _ => [], C := [], lits := fun _ => [], lb := fun _ => .slice none 0 0, l2 := fun _ => 0 }
def newSt : St := ⟨[], [], fun _ => none, fun _ => []⟩
theorem si_new : SI n newSt [] (fun _ => []) [] 0 :=
  ⟨⟨⟨by simp [newSt], by simp [newSt]⟩, by simp [newSt], by simp [newSt], fun i x c h => by simp [newSt] at h, fun i x h => by simp [newSt] at h⟩, ⟨by simp, by simp, by simp, by simp, fun i x c h => by simp [newSt] at h⟩, fun c hc => by simp at hc, ⟨fun m _ _ => ⟨by simp, fun i x h => by simp [newSt] at h⟩, by simp⟩, by simp [newSt], by simp [newSt]⟩
theorem bt_rep {m v : Nat} : bt (List.replicate m false) v = false := by
  unfold bt
  by_cases h : v < m
  · simp [h]
  · simp [h]
theorem vals_new : newSt.vals n = List.replicate (2 * n + 2) 0 := by
  apply List.ext_getElem (by simp [St.vals])
  intro i h1 h2
  simp [St.vals, St.val, newSt]
theorem rea_new : (List.range (n + 1)).map (fun _ => pn none) = List.replicate (n + 1) (Value.pointer none) := by
  apply List.ext_getElem (by simp)
  intro i h1 h2
  simp [pn]
theorem ws_new : (List.range (2 * n + 2)).map (fun _ => Value.slice none 0 0) = List.replicate (2 * n + 2) (Value.slice none 0 0) := by
  apply List.ext_getElem (by simp)
  intro i h1 h2
  simp
set_option maxHeartbeats 4000000 in
theorem sNew_spec (hn : n ≤ 1000) :
    CallF Try.prog 15 [iv n] H (fun v H' => Fr [] H H' ∧ ∃ ow p k f, v = .tuple #[hp p, iv 0] ∧ (∀ b, b < H.size → ow b = 0) ∧ SV H' ow p n k f ∧ f.gl = [] ∧ f.rounds = 0 ∧ Bd f 0 ∧ f.dead = false ∧ f.ls = []) NoP := by
  refine callF_of Try.func15 rfl Try.ntmps15 Try.results15 (by decide) rfl ?_
  simp (disch := omega) only [go_sem, ↓cw_block, dsB_of]
  refine call_to (new_yes (n := n) (by omega)) ?_
  rintro v H1 ⟨f1, ho, hb, hp', ha, os, pl, rfl, hsz, hg, hpl⟩
  have e2 : (2 * (n : Int) + 2).toNat = 2 * n + 2 := by omega
  have e1 : ((n : Int) + 1).toNat = n + 1 := by omega
  obtain ⟨H2, hH2⟩ : ∃ H2, H1.push (.cells #[iv n, .slice none 0 0, iv 0, .slice none 0 0, iv 0, .slice none 0 0, .slice none 0 0, .pointer none, .slice none 0 0, .slice none 0 0, .slice none 0 0, .slice none 0 0, .slice none 0 0, .slice none 0 0, .slice none 0 0, .slice none 0 0, iv 0, iv 0, .slice none 0 0, iv 0, iv 0, .bool false] 55) = H2 := ⟨_, rfl⟩
  have f2 : Fr [] H1 H2 := by rw [← hH2]; exact Fr.push
  have b2 : Blk H2 H1.size 55 [iv n, .slice none 0 0, iv 0, .slice none 0 0, iv 0, .slice none 0 0, .slice none 0 0, .pointer none, .slice none 0 0, .slice none 0 0, .slice none 0 0, .slice none 0 0, .slice none 0 0, .slice none 0 0, .slice none 0 0, .slice none 0 0, iv 0, iv 0, .slice none 0 0, iv 0, iv 0, .bool false] := by rw [← hH2]; exact Blk.new rfl
  have z2 : H2.size = H1.size + 1 := by rw [← hH2]; simp
  obtain ⟨H3, w3, b3, z3, f3⟩ := nst b2 (i := 7) (by simp) (pv ho)
  simp only [List.set_cons_succ, List.set_cons_zero] at b3
  obtain ⟨H4, w4, b4, z4, f4, k4⟩ := npu b3 (i := 9) (by simp) (.slice (some ⟨H3.size, 0, none⟩) (2 * n + 2) (2 * n + 2)) (List.replicate (2 * n + 2) (.int .i8 0)) 78
  simp only [List.set_cons_succ, List.set_cons_zero] at b4
  obtain ⟨H5, w5, b5, z5, f5, k5⟩ := npu b4 (i := 8) (by simp) (.slice (some ⟨H4.size, 0, none⟩) (2 * n + 2) (2 * n + 2)) (List.replicate (2 * n + 2) (.slice none 0 0)) 51
  simp only [List.set_cons_succ, List.set_cons_zero] at b5
  obtain ⟨H6, w6, b6, z6, f6, k6⟩ := npu b5 (i := 10) (by simp) (.slice (some ⟨H5.size, 0, none⟩) (n + 1) (n + 1)) (List.replicate (n + 1) (iv 0)) 3
  simp only [List.set_cons_succ, List.set_cons_zero] at b6
  obtain ⟨H7, w7, b7, z7, f7, k7⟩ := npu b6 (i := 11) (by simp) (.slice (some ⟨H6.size, 0, none⟩) (n + 1) (n + 1)) (List.replicate (n + 1) (.pointer none)) 67
  simp only [List.set_cons_succ, List.set_cons_zero] at b7
  obtain ⟨H8, w8, b8, z8, f8, k8⟩ := npu b7 (i := 12) (by simp) (.slice (some ⟨H7.size, 0, none⟩) (n + 1) (n + 1)) (List.replicate (n + 1) (.bool false)) 4
  simp only [List.set_cons_succ, List.set_cons_zero] at b8
  obtain ⟨H9, w9, b9, z9, f9, k9⟩ := npu b8 (i := 13) (by simp) (.slice (some ⟨H8.size, 0, none⟩) (n + 1) (n + 1)) (List.replicate (n + 1) (.bool false)) 4
  simp only [List.set_cons_succ, List.set_cons_zero] at b9
  obtain ⟨H10, w10, b10, z10, f10⟩ := nst b9 (i := 17) (by simp) (iv 1024)
  simp only [List.set_cons_succ, List.set_cons_zero] at b10
  obtain ⟨H11, w11, b11, z11, f11⟩ := nst b10 (i := 19) (by simp) (iv 4000)
  simp only [List.set_cons_succ, List.set_cons_zero] at b11
  simp (disch := omega) only [go_sem, ↓cw_block, dsB_of]
  rw [hH2]
  simp (disch := omega) only [go_sem, ↓cw_block, dsB_of, w3, w4, w5, w6, w7, w8, w9, w10, w11, e1, e2, dsB_of]
  obtain ⟨s, hs⟩ : ∃ s, s = H1.size := ⟨_, rfl⟩
  rw [← hs] at b11 f3 f4 f5 f6 f7 f8 f9 f10 f11
  have l1 : ho < s := by rw [hs]; exact hg.ha.self.lt
  have l2 : hb < s := by rw [hs]; exact hg.ha.io.lt
  have l3 : hp' < s := by rw [hs]; exact hg.ha.ip.lt
  have l4 : ha < s := by rw [hs]; exact hg.ha.ia.lt
  have hne := hg.ha.ne
  have hsz0 := f1.size
  have g10 := f10.trans f11
  have g9 := f9.trans g10
  have g8 := f8.trans g9
  have g7 := f7.trans g8
  have g6 := f6.trans g7
  have g5 := f5.trans g6
  have g4 := f4.trans g5
  have g3 := f3.trans g4
  have q4 := g5.blk k4 (by simp; omega)
  have q5 := g6.blk k5 (by simp; omega)
  have q6 := g7.blk k6 (by simp; omega)
  have q7 := g8.blk k7 (by simp; omega)
  have q8 := g9.blk k8 (by simp; omega)
  have q9 := g10.blk k9 (by simp; omega)
  have hg11 := (hg.frame f2 (by simp) (by simp) (by simp) (by simp)).frame g3 (by simp; omega) (by simp; omega) (by simp; omega) (by simp; omega)
  have s3 : H3.size = s + 1 := by omega
  have s4 : H4.size = s + 2 := by omega
  have s5 : H5.size = s + 3 := by omega
  have s6 : H6.size = s + 4 := by omega
  have s7 : H7.size = s + 5 := by omega
  have s8 : H8.size = s + 6 := by omega
  have s11 : H11.size = s + 7 := by omega
  rw [s3] at b11 q4
  rw [s4] at b11 q5
  rw [s5] at b11 q6
  rw [s6] at b11 q7
  rw [s7] at b11 q8
  rw [s8] at b11 q9
  obtain ⟨ow, how⟩ : ∃ ow : Nat → Nat, ∀ b, ow b = if b = s then 1 else if b = s + 1 then 2 else if b = s + 2 then 7 else if b = s + 3 then 3 else if b = s + 4 then 4 else if b = s + 5 then 5 else if b = s + 6 then 6 else if b = ho then 11 else if b = hb then 12 else if b = hp' then 13 else if b = ha then 14 else 0 := ⟨_, fun _ => rfl⟩
  have f011 : Fr [] H H11 := ⟨by omega, fun b hb _ => by rw [g3.same b (by omega) (by simp; omega), f2.same b (by omega) (by simp), f1.same b hb (by simp)]⟩
  obtain ⟨nl, hnl⟩ : ∃ nl : Value, nl = .slice none 0 0 := ⟨_, rfl⟩
  obtain ⟨f, hf⟩ : ∃ f : Cf, f = newCf n os pl := ⟨_, rfl⟩
  have ow0 : ow s = 1 := by rw [how, if_pos rfl]
  have ow1 : ow (s + 1) = 2 := by rw [how, if_neg (by omega), if_pos rfl]
  have ow2 : ow (s + 2) = 7 := by rw [how, if_neg (by omega), if_neg (by omega), if_pos rfl]
  have ow3 : ow (s + 3) = 3 := by rw [how, if_neg (by omega), if_neg (by omega), if_neg (by omega), if_pos rfl]
  have ow4 : ow (s + 4) = 4 := by rw [how, if_neg (by omega), if_neg (by omega), if_neg (by omega), if_neg (by omega), if_pos rfl]
  have ow5 : ow (s + 5) = 5 := by rw [how, if_neg (by omega), if_neg (by omega), if_neg (by omega), if_neg (by omega), if_neg (by omega), if_pos rfl]
  have ow6 : ow (s + 6) = 6 := by rw [how, if_neg (by omega), if_neg (by omega), if_neg (by omega), if_neg (by omega), if_neg (by omega), if_neg (by omega), if_pos rfl]
  have ow7 : ow ho = 11 := by rw [how, if_neg (by omega), if_neg (by omega), if_neg (by omega), if_neg (by omega), if_neg (by omega), if_neg (by omega), if_neg (by omega), if_pos rfl]
  have ow8 : ow hb = 12 := by rw [how, if_neg (by omega), if_neg (by omega), if_neg (by omega), if_neg (by omega), if_neg (by omega), if_neg (by omega), if_neg (by omega), if_neg (by omega), if_pos rfl]
  have ow9 : ow hp' = 13 := by rw [how, if_neg (by omega), if_neg (by omega), if_neg (by omega), if_neg (by omega), if_neg (by omega), if_neg (by omega), if_neg (by omega), if_neg (by omega), if_neg (by omega), if_pos rfl]
  have ow10 : ow ha = 14 := by rw [how, if_neg (by omega), if_neg (by omega), if_neg (by omega), if_neg (by omega), if_neg (by omega), if_neg (by omega), if_neg (by omega), if_neg (by omega), if_neg (by omega), if_neg (by omega), if_pos rfl]
  have hmem : RM H11 ow s n ⟨s + 1, s + 3, s + 4, s + 5, s + 6, s + 2, ho, hb, hp', ha⟩ (newCf n os pl) := by
    have hvr : ∀ r e z, VR H11 ow r e z (.slice none 0 0) [] := fun r e z => ⟨Vec.nil, by simp [own]⟩
    refine ⟨⟨b11, ?_⟩, ⟨?_, ?_⟩, ⟨?_, ?_⟩, ⟨?_, ?_⟩, ⟨?_, ?_⟩, ⟨?_, ?_⟩, ⟨?_, ?_⟩, fun x hx => hvr _ _ _, hvr _ _ _, hvr _ _ _, hvr _ _ _, ⟨hg11, ?_, ?_, ?_, ?_⟩, hvr _ _ _, hvr _ _ _, fun i v g h1 => ?_, fun c hc => ?_, fun b hb => ?_, ?_, ?_, ?_, ?_, rfl⟩
    · exact ow0
    · show Blk H11 (s + 1) _ ((List.replicate (2 * n + 2) (0 : Int)).map (Value.int .i8))
      rw [List.map_replicate]; exact q4
    · exact ow1
    · show Blk H11 (s + 3) _ (nv (List.replicate (n + 1) 0))
      unfold nv; rw [List.map_replicate]; exact q6
    · exact ow3
    · show Blk H11 (s + 4) _ ((List.range (n + 1)).map (fun _ => pn none))
      rw [rea_new]; exact q7
    · exact ow4
    · show Blk H11 (s + 5) _ ((List.replicate (n + 1) false).map Value.bool)
      rw [List.map_replicate]; exact q8
    · exact ow5
    · show Blk H11 (s + 6) _ ((List.replicate (n + 1) false).map Value.bool)
      rw [List.map_replicate]; exact q9
    · exact ow6
    · show Blk H11 (s + 2) _ ((List.range (2 * n + 2)).map (fun _ => Value.slice none 0 0))
      rw [ws_new]; exact q5
    · exact ow2
    · exact ow7
    · exact ow8
    · exact ow9
    · exact ow10
    · cases h1
    · cases hc
    · rw [s11]
      rcases Nat.lt_or_ge b (s + 7) with hlt | hge
      · exact hlt
      · exact absurd (by rw [how, if_neg (by omega), if_neg (by omega), if_neg (by omega), if_neg (by omega), if_neg (by omega), if_neg (by omega), if_neg (by omega), if_neg (by omega), if_neg (by omega), if_neg (by omega), if_neg (by omega)]) hb
    · exact List.length_replicate
    · exact List.length_replicate
    · exact List.length_replicate
    · exact List.length_replicate
  rw [← hf] at hmem
  have hsi : SI n f.s f.C f.w [] f.head := by rw [hf]; exact si_new
  have hSB : SB H11 ow s n ⟨s + 1, s + 3, s + 4, s + 5, s + 6, s + 2, ho, hb, hp', ha⟩ f := by
    refine ⟨hmem, ?_, hsi.inv, hsi.wi, hsi.le, ?_, ?_, ?_, hn⟩
    · rw [hf]
      refine ⟨(vals_new (n := n)).symm, fun i x h => ?_⟩
      cases h
    · rw [hf]
      intro v h1 h2 _
      exact hpl v h1 h2
    · rw [hf]
      intro v hv
      exact bt_rep
    · rw [hf]; exact ⟨by show (1024 : Int) ≤ 1024; omega, by show (1024 : Int) ≤ _; omega⟩
  have hd : f.dead = false := by rw [hf]; rfl
  have hgl : f.gl = [] := by rw [hf]; rfl
  have hlo : f.loaded = 0 := by rw [hf]; rfl
  have hgc : gcode (f.gl.take f.loaded) = [] := by rw [hgl, hlo]; rfl
  refine fin ⟨f011, ow, s, _, f, by rw [hs], fun b hb => ?_, ⟨⟨hSB, by rw [hf]; rfl, fun _ => by rw [hgc]; exact hsi, fun e => by rw [hd] at e; cases e⟩, by rw [hgl]; simp, by rw [hlo]; omega⟩, hgl, by rw [hf]; rfl, ⟨by rw [hf]; exact Nat.le_refl 0, by rw [hf]; exact Nat.le_refl 0, ⟨0, by rw [hf]; rfl, Nat.le_refl 0⟩, by rw [hf]; exact Nat.le_refl 0, by rw [hf]; rfl⟩, hd, by rw [hf]; rfl⟩
  rw [how, if_neg (by omega), if_neg (by omega), if_neg (by omega), if_neg (by omega), if_neg (by omega), if_neg (by omega), if_neg (by omega), if_neg (by omega), if_neg (by omega), if_neg (by omega), if_neg (by omega)]
end
end Go.Proofs.Ythghkhpclemmlaa

namespace Go.Proofs.Ythghkhpclemmlaa
open Go.HL HM Go.Sat
set_option maxRecDepth 10000
set_option linter.unusedSimpArgs false
set_option linter.unusedVariables false

section
variable {H : Heap} {ow : Nat → Nat} {p n : Nat} {k : Bk} {f : Cf} {G : List (List Nat)}
theorem cVar_spec {x : Int} (hx : -100000 ≤ x ∧ x ≤ 100000) : CallF Try.prog 43 [iv x] H (fun v H' => v = iv (x.natAbs : Nat) ∧ H' = H) NoP := by
  refine callF_of Try.func43 rfl Try.ntmps43 Try.results43 (by decide) rfl ?_
  by_cases h : x < 0
  · simp (disch := omega) only [go_sem, ↓cw_block, dsB_of]
    exact fin ⟨by rw [show ((x.natAbs : Nat) : Int) = -x by omega], rfl⟩
  · simp (disch := omega) only [go_sem, ↓cw_block, dsB_of]
    exact fin ⟨by rw [show ((x.natAbs : Nat) : Int) = x by omega], rfl⟩
/-- The greatest variable of a clause. -/
def grt (l : List Int) : Nat := l.foldl (fun m x => if litB x then max m x.natAbs else m) 0
theorem grt_add {l : List Int} {x : Int} : grt (l ++ [x]) = if litB x then max (grt l) x.natAbs else grt l := by
  unfold grt; rw [List.foldl_append]; rfl
theorem litB_le {x : Int} (h : litB x = true) : -100000 ≤ x ∧ x ≤ 100000 := by
  unfold litB at h; rw [decide_eq_true_eq] at h; omega
theorem litB_ne {x : Int} (h : litB x = true) : x ≠ 0 := by
  unfold litB at h; rw [decide_eq_true_eq] at h; omega
theorem grt_le : ∀ {l : List Int} {m : Nat}, grt l ≤ m ↔ ∀ x ∈ l, litB x = true → x.natAbs ≤ m := by
  intro l m
  have key : ∀ (l : List Int) (a : Nat), l.foldl (fun m x => if litB x then max m x.natAbs else m) a ≤ m ↔ a ≤ m ∧ ∀ x ∈ l, litB x = true → x.natAbs ≤ m := by
    intro l
    induction l with
    | nil => intro a; simp
    | cons x l ih =>
      intro a
      rw [List.foldl_cons, ih]
      by_cases h : litB x = true
      · rw [if_pos h]
        simp only [List.mem_cons, forall_eq_or_imp]
        constructor
        · rintro ⟨h1, h2⟩; exact ⟨by omega, fun _ => by omega, h2⟩
        · rintro ⟨h1, h2, h3⟩; have := h2 h; exact ⟨by omega, h3⟩
      · rw [if_neg h]
        simp only [List.mem_cons, forall_eq_or_imp]
        exact ⟨fun ⟨h1, h2⟩ => ⟨h1, fun e => absurd e h, h2⟩, fun ⟨h1, _, h2⟩ => ⟨h1, h2⟩⟩
  unfold grt
  rw [key]
  simp
theorem grt_big {l : List Int} : grt l ≤ 100000 := grt_le.2 fun x _ h => by have := litB_le h; omega
theorem cGreatest_spec {b o c : Nat} {ra : Option Addr} {xs : List Int} {rc : Nat} (hb : cellH H ⟨b, o, none⟩ = some (.slice ra xs.length rc)) (hx : Rn H ra xs) (hlen : xs.length ≤ 1000000) :
    CallF Try.prog 26 [.slice (some ⟨b, o, none⟩) 1 c] H (fun v H' => v = iv (grt xs : Nat) ∧ H' = H) NoP := by
  refine callF_of Try.func26 rfl Try.ntmps26 Try.results26 (by decide) rfl ?_
  simp (disch := omega) only [go_sem, ↓cw_block, dsB_of]
  refine loop_by (fun j ρ H1 => ∃ i : Nat, j = 1 - i ∧ i ≤ 1 ∧ (ρ.get 8 = .slice (some ⟨b, o, none⟩) 1 c ∧ ρ.get 9 = iv 1 ∧ ρ.get 10 = iv i ∧ ρ.get 3 = iv ((if i = 0 then 0 else grt xs : Nat) : Int) ∧ ρ.ds = []) ∧ H1 = H) (k := 1) ?_ ?_
  · exact ⟨0, rfl, by omega, by simp (disch := omega) only [go_sem, ↓cw_block, dsB_of]; rfl, rfl⟩
  · rintro _ ρ H1 ⟨i, rfl, hi, ⟨r8, r9, r10, r3, rd⟩, e⟩
    subst H1
    by_cases h1 : i = 1
    · subst h1
      simp (disch := omega) only [go_sem, ↓cw_block, dsB_of, r8, r9, r10, r3, rd, dsB_of]
      exact fin ⟨rfl, rfl⟩
    · have h0 : i = 0 := by omega
      subst h0
      rw [if_pos rfl] at r3
      have r10' : ρ.get 10 = iv 0 := r10
      have r3' : ρ.get 3 = iv 0 := r3
      have hb' : cellH H ⟨b, o + 0, none⟩ = some (.slice ra xs.length rc) := hb
      simp (disch := omega) only [go_sem, dsB_of, r8, r9, r10', r3', hb, hb']
      refine cut_at (fun ρ H1 => (ρ.get 8 = .slice (some ⟨b, o, none⟩) 1 c ∧ ρ.get 9 = iv 1 ∧ ρ.get 10 = iv 0 ∧ ρ.get 3 = iv (grt xs : Nat) ∧ ρ.ds = []) ∧ H1 = H) ?_ ?_
      · simp (disch := omega) only [go_sem, ↓cw_block, dsB_of, r8, r9, r10', r3', hb, hb']
        refine loop_by (fun j ρ H1 => ∃ i : Nat, j = xs.length - i ∧ i ≤ xs.length ∧ (ρ.get 8 = .slice (some ⟨b, o, none⟩) 1 c ∧ ρ.get 9 = iv 1 ∧ ρ.get 10 = iv 0 ∧ ρ.get 14 = .slice ra xs.length rc ∧ ρ.get 15 = iv xs.length ∧ ρ.get 16 = iv i ∧ ρ.get 3 = iv (grt (xs.take i) : Nat) ∧ ρ.ds = []) ∧ H1 = H) (k := xs.length) ?_ ?_
        · exact ⟨0, rfl, by omega, by simp (disch := omega) only [go_sem, ↓cw_block, dsB_of, r8, r9, r10', r3', rd]; rfl, rfl⟩
        · rintro _ ρ H1 ⟨i, rfl, hi, ⟨r8, r9, r10, r14, r15, r16, r3, rd⟩, e⟩
          subst H1
          by_cases hie : i = xs.length
          · subst hie
            rw [List.take_length] at r3
            simp (disch := omega) only [go_sem, ↓cw_block, dsB_of, r8, r9, r10, r14, r15, r16, r3, rd]
            exact fin ⟨by simp (disch := omega) only [go_sem, ↓cw_block, dsB_of, r8, r9, r10, r14, r15, r16, r3, rd], rfl⟩
          · obtain ⟨x, hxi⟩ : ∃ x, xs[i]? = some x := ⟨_, List.getElem?_eq_getElem (by omega)⟩
            obtain ⟨b', o', e, kx⟩ := hx i x hxi
            subst e
            have hi1 : (i : Int) + 1 = ((i + 1 : Nat) : Int) := by omega
            have htk : xs.take (i + 1) = xs.take i ++ [x] := by rw [List.take_add_one, hxi]; rfl
            have hgt := grt_add (l := xs.take i) (x := x)
            rw [← htk] at hgt
            simp (disch := omega) only [go_sem, ↓cw_block, dsB_of, r8, r9, r10, r14, r15, r16, r3, rd, kx]
            refine call_to cLit_spec ?_
            rintro v H2 ⟨rfl, e⟩
            subst H2
            cases hl : litB x with
            | true =>
              rw [hl, if_pos rfl] at hgt
              simp (disch := omega) only [go_sem, ↓cw_block, dsB_of, r3]
              refine call_to (cVar_spec (litB_le hl)) ?_
              rintro v H2 ⟨rfl, e⟩
              subst H2
              have hmx : max ((grt (xs.take i) : Nat) : Int) ((x.natAbs : Nat) : Int) = ((grt (xs.take (i + 1)) : Nat) : Int) := by rw [hgt]; omega
              simp (disch := omega) only [go_sem, ↓cw_block, dsB_of, r3, hmx, r16]
              exact fin ⟨xs.length - (i + 1), by omega, i + 1, rfl, by omega, by simp (disch := omega) only [go_sem, ↓cw_block, dsB_of, r8, r9, r10, r14, r15, r16, r3, rd, hi1], rfl⟩
            | false =>
              rw [hl, if_neg (by simp)] at hgt
              rw [← hgt] at r3
              simp (disch := omega) only [go_sem, ↓cw_block, dsB_of, r3, r16]
              exact fin ⟨xs.length - (i + 1), by omega, i + 1, rfl, by omega, by simp (disch := omega) only [go_sem, ↓cw_block, dsB_of, r8, r9, r10, r14, r15, r16, r3, rd, hi1], rfl⟩
      · rintro ρ H1 ⟨⟨r8, r9, r10, r3, rd⟩, e⟩
        subst H1
        simp (disch := omega) only [go_sem, ↓cw_block, dsB_of, r8, r9, r10, r3, rd]
        exact fin ⟨0, by omega, 1, rfl, by omega, by simp (disch := omega) only [go_sem, ↓cw_block, dsB_of, r8, r9, r10, r3, rd]; rfl, rfl⟩
theorem NF.cn {xs ys : List Int} {idle : Bool} (h : NF xs ys idle) (hl : xs.all litB = true) (hg : grt xs ≤ n) : CN n ys := by
  rw [List.all_eq_true] at hl
  refine ⟨fun x hx => ?_, h.str⟩
  have hm := (h.mem x).1 hx
  exact ⟨litB_ne (hl x hm), grt_le.1 hg x hm (hl x hm)⟩
set_option maxHeartbeats 4000000 in
theorem sAdd_spec (h : SV H ow p n k f) {a : Option Addr} {xs : List Int} {c : Nat} (hx : Rn H a xs) (hlen : xs.length ≤ 1000) (hgl : f.gl.length ≤ 30000) :
    CallF Try.prog 13 [hp p, .slice a xs.length c] H (fun v H' => (¬ (xs.all litB = true ∧ grt xs ≤ n) ∧ v = iv 2 ∧ Fr [] H H') ∨ (xs.all litB = true ∧ grt xs ≤ n ∧ v = iv 0 ∧ ∃ ow' f' ys idle, SV H' ow' p n k f' ∧ Ex H ow H' ow' ∧ NF xs ys idle ∧ f'.gl = f.gl ++ [ys] ∧ f'.loaded = f.loaded ∧ f'.dead = f.dead ∧ f'.rounds = f.rounds ∧ f'.ls = f.ls ∧ ∀ u, Bd f u → Bd f' u)) NoP := by
  have hm := h.sd.sb.m
  have hn := h.sd.sb.n
  have c0 : cellH H ⟨p, 0, none⟩ = some (iv n) := hm.c 0
  have b1 : ∀ (Hx : Heap) (a' : Option Addr) (l' c' : Nat), buildSliceV Try.prog Hx 22 1 [(0, .slice a' l' c')] = some (.slice (some ⟨Hx.size, 0, none⟩) 1 1, Hx.push (.cells #[.slice a' l' c'] 26)) := fun Hx a' l' c' => bs_one T.elem22 T.size26 T.zero26 rfl
  obtain ⟨hl, hhl⟩ : ∃ hl : List (Addr × Value), hl = [(⟨p, 0, none⟩, iv n)] := ⟨_, rfl⟩
  have hok : heldOK hl H := by rw [hhl]; exact heldOK_one c0
  have l0 : lookA hl ⟨p, 0, none⟩ = some (iv n) := by rw [hhl]; exact lookA_eq
  obtain ⟨ga, gc, eg⟩ := hm.given.form
  have hng := hm.ng
  have c1 : cellH H ⟨p, 1, none⟩ = some (.slice ga f.gs.length gc) := by rw [← eg]; exact hm.c 1
  refine callF_of Try.func13 rfl Try.ntmps13 Try.results13 (by decide) rfl ?_
  simp (disch := omega) only [go_sem, ↓cw_block, dsB_of]
  refine draw1 (lk [(0, true)] (.act 1 (lk [(2, true), (3, true), (4, true), (7, false), (8, false), (9, false), (10, false)] (.act 5 (.act 6 (lk [(11, true), (12, true)] .fin) .non) .non)) .non)) T.mixed hl hok ?_
  simp (disch := omega) only [go_sem, ↓cw_block, dsB_of, l0]
  refine call_to (cRight_spec hx (by omega)) ?_
  rintro v H1 ⟨rfl, e⟩
  subst H1
  refine held_by hok ?_
  cases hall : xs.all litB with
  | false =>
    simp (disch := omega) only [go_sem, ↓cw_block, dsB_of, l0]
    refine held_by hok ?_
    simp (disch := omega) only [go_sem, ↓cw_block, dsB_of, l0]
    refine held_by hok ?_
    simp (disch := omega) only [go_sem, ↓cw_block, dsB_of, l0, dsB_of]
    exact fin (.inl ⟨by simp, rfl, Fr.refl _ _⟩)
  | true =>
    obtain ⟨H1, hH1⟩ : ∃ H1, H.push (.cells #[.slice a xs.length c] 26) = H1 := ⟨_, rfl⟩
    have f1 : Fr [] H H1 := by rw [← hH1]; exact Fr.push
    have k1 : cellH H1 ⟨H.size, 0, none⟩ = some (.slice a xs.length c) := by
      have : Blk H1 H.size 26 [.slice a xs.length c] := by rw [← hH1]; exact Blk.new rfl
      rw [this.cell]; rfl
    have m1 := hm.out f1 (by simp)
    have x1 := hx.frame f1 (by simp)
    have hok1 : heldOK hl H1 := by rw [hhl]; exact heldOK_one (m1.c 0)
    simp (disch := omega) only [go_sem, ↓cw_block, dsB_of, l0, b1]
    rw [hH1]
    refine held_by hok1 ?_
    simp (disch := omega) only [go_sem, ↓cw_block, dsB_of, l0]
    refine call_to (cGreatest_spec (c := 1) k1 x1 (by omega)) ?_
    rintro v H2 ⟨rfl, e⟩
    subst H2
    refine held_by hok1 ?_
    by_cases hg : grt xs ≤ n
    · have c1' : cellH H1 ⟨p, 1, none⟩ = some (.slice ga f.gs.length gc) := by rw [← eg]; exact m1.c 1
      simp (disch := omega) only [go_sem, ↓cw_block, dsB_of, l0, c1']
      refine call_to (cNorm_spec x1 (List.all_eq_true.1 hall) (by omega)) ?_
      rintro v H2 ⟨f2, w, ys, idle, rfl, v2, o2, hnf⟩
      have m2 := m1.out f2 (by simp)
      have e02 : Ex H ow H2 ow := (Ex.of (Sm.of (R := fun _ => False) f1 (by simp)) (by simp) : Ex H ow H1 ow).trans (Ex.of (Sm.of (R := fun _ => False) f2 (by simp)) (by simp))
      have c1'' : cellH H2 ⟨p, 1, none⟩ = some (.slice ga f.gs.length gc) := by rw [← eg]; exact m2.c 1
      obtain ⟨wa, wc, ew⟩ : ∃ a c, w = .slice a ys.length c := by
        obtain ⟨a, len, c, rfl, e⟩ := v2.len
        rw [List.length_map, Nat.mul_one] at e; subst e
        exact ⟨a, c, rfl⟩
      subst ew
      obtain ⟨ow3, how3⟩ : ∃ ow3 : Nat → Nat, ∀ b, ow3 b = if b ∈ own (Value.slice wa ys.length wc) then 17 else ow b := ⟨_, fun _ => rfl⟩
      have hz : ∀ b ∈ own (Value.slice wa ys.length wc), ow b = 0 := fun b hb => m1.free (o2 b hb)
      have m3 := m2.adopt (ow' := ow3) (fun b hb => by
        rw [how3, if_neg (fun e => hb (hz b e))]) (fun b hb => by
        rw [how3] at hb
        split at hb
        · exact v2.lt b ‹_›
        · exact m2.lo b hb)
      have e03 : Ex H ow H2 ow3 := e02.reow (fun b hb => by
        have hb' : b ∉ own (Value.slice wa ys.length wc) := fun e => by have h2 : H1.size ≤ b := o2 b e; have := f1.size; omega
        rw [how3, if_neg hb'])
      have v3 : VR H2 ow3 17 3 1 (.slice wa ys.length wc) (ys.map iv) := ⟨v2, fun b hb => by rw [how3, if_pos hb]⟩
      simp (disch := omega) only [go_sem, ↓cw_block, dsB_of, c1'', b1]
      refine app_lit1 T.el22 rfl (by rw [← eg]; exact m3.given.vec) rfl (by omega) ?_
      intro v' H4 g1 g2 g3 g4
      obtain ⟨a', c', rfl⟩ := g4
      rw [← eg] at g2 g3
      have hgg : ∀ (i : Nat) (v : Value) (q : List Int), (f.gs ++ [.slice wa ys.length wc])[i]? = some v → (f.gl ++ [ys])[i]? = some q → VR H2 ow3 17 3 1 v (q.map iv) := by
        intro i v q h1 h2
        rcases Nat.lt_trichotomy i f.gs.length with hlt | he | hgt
        · rw [List.getElem?_append_left hlt] at h1
          rw [List.getElem?_append_left (by omega)] at h2
          exact m3.gcl i v q h1 h2
        · subst he
          rw [List.getElem?_append_right (Nat.le_refl _), Nat.sub_self] at h1
          rw [hng, List.getElem?_append_right (Nat.le_refl _), Nat.sub_self] at h2
          have e1 := Option.some.inj h1
          have e2 := Option.some.inj h2
          subst e1; subst e2
          exact v3
        · rw [List.getElem?_eq_none (by simp; omega)] at h1; cases h1
      obtain ⟨m4, e4, b4⟩ := m3.appGiven (l := f.gs ++ [.slice wa ys.length wc]) (gg := f.gl ++ [ys]) hgg (by simp [hng]) g1 g2 g3
      have w4 := b4.wr (i := 1) (by simp [scells]) (.slice a' (f.gs.length + 1) c')
      obtain ⟨H5, w5, (m5 : RM _ _ _ _ _ _), e5⟩ := m4.putModel (.slice none 0 0)
      obtain ⟨H6, w6, (m6 : RM _ _ _ _ _ _), e6⟩ := m5.putCore (.slice none 0 0)
      simp (disch := omega) only [go_sem, ↓cw_block, dsB_of, w4, w5, w6, dsB_of]
      refine fin (.inr ⟨rfl, hg, rfl, _, _, ys, idle, ⟨⟨⟨m6, ⟨h.sd.sb.r.vals, h.sd.sb.r.lv⟩, h.sd.sb.inv, h.sd.sb.wi, h.sd.sb.le, h.sd.sb.hin, h.sd.sb.sn, h.sd.sb.stp, h.sd.sb.n⟩, h.sd.st, fun hd => ?_, fun hd => ?_⟩, ?_, ?_⟩, ((e03.trans e4).trans e5).trans e6, hnf, rfl, rfl, rfl, rfl, rfl, fun u hb => ⟨hb.conf, hb.lrn, hb.ls, hb.C, hb.room⟩⟩)
      · show SI n f.s f.C f.w (gcode ((f.gl ++ [ys]).take f.loaded)) f.head
        rw [List.take_append_of_le_length h.ld]; exact h.sd.ok hd
      · show ∀ m, Mdl m → ¬ AllB m (gcode ((f.gl ++ [ys]).take f.loaded))
        rw [List.take_append_of_le_length h.ld]; exact h.sd.no hd
      · intro z hz
        rcases List.mem_append.1 (show z ∈ f.gl ++ [ys] from hz) with hz | hz
        · exact h.cn z hz
        · have := List.mem_singleton.1 hz; subst this
          exact hnf.cn hall hg
      · show f.loaded ≤ (f.gl ++ [ys]).length
        have := h.ld
        simp; omega
    · simp (disch := omega) only [go_sem, ↓cw_block, dsB_of, l0, dsB_of]
      exact fin (.inl ⟨fun e => hg e.2, rfl, f1⟩)
end
end Go.Proofs.Ythghkhpclemmlaa

namespace Go.Proofs.Ythghkhpclemmlaa
open Go.HL HM Go.Sat
set_option maxRecDepth 10000
set_option linter.unusedSimpArgs false
set_option linter.unusedVariables false

section
variable {H : Heap}
theorem rLiteral_spec {x : Int} : CallF Try.prog 11 [iv x] H (fun v H' => v = .bool (litB x) ∧ H' = H) NoP := by
  unfold litB
  refine callF_of Try.func11 rfl Try.ntmps11 Try.results11 (by decide) rfl ?_
  by_cases h0 : x = 0
  · subst h0
    simp (disch := omega) only [go_sem, ↓cw_block, dsB_of]
    exact fin ⟨by simp, rfl⟩
  · by_cases h1 : -100000 ≤ x
    · by_cases h2 : x ≤ 100000
      · simp (disch := omega) only [go_sem, ↓cw_block, dsB_of]
        exact fin ⟨by simp [h0, h1, h2], rfl⟩
      · simp (disch := omega) only [go_sem, ↓cw_block, dsB_of]
        exact fin ⟨by simp [h0, h1, h2], rfl⟩
    · simp (disch := omega) only [go_sem, ↓cw_block, dsB_of]
      exact fin ⟨by simp [h0, h1], rfl⟩
theorem rAbs_spec {x : Int} (hx : -100000 ≤ x ∧ x ≤ 100000) : CallF Try.prog 12 [iv x] H (fun v H' => v = iv (x.natAbs : Nat) ∧ H' = H) NoP := by
  refine callF_of Try.func12 rfl Try.ntmps12 Try.results12 (by decide) rfl ?_
  by_cases h : x < 0
  · simp (disch := omega) only [go_sem, ↓cw_block, dsB_of]
    exact fin ⟨by rw [show ((x.natAbs : Nat) : Int) = -x by omega], rfl⟩
  · simp (disch := omega) only [go_sem, ↓cw_block, dsB_of]
    exact fin ⟨by rw [show ((x.natAbs : Nat) : Int) = x by omega], rfl⟩
theorem rRight_spec {a : Option Addr} {xs : List Int} {c : Nat} (hx : Rn H a xs) (hlen : xs.length ≤ 1000000) : CallF Try.prog 10 [.slice a xs.length c] H (fun v H' => v = .bool (xs.all litB) ∧ H' = H) NoP := by
  refine callF_of Try.func10 rfl Try.ntmps10 Try.results10 (by decide) rfl ?_
  simp (disch := omega) only [go_sem, ↓cw_block, dsB_of]
  refine loop_by (fun j ρ H1 => ∃ i : Nat, j = xs.length - i ∧ i ≤ xs.length ∧ (ρ.get 0 = .slice a xs.length c ∧ ρ.get 3 = iv i ∧ ρ.ds = []) ∧ H1 = H ∧ (xs.take i).all litB = true) (k := xs.length) ?_ ?_
  · exact ⟨0, rfl, by omega, by simp (disch := omega) only [go_sem, ↓cw_block, dsB_of], rfl, by simp⟩
  · rintro _ ρ H1 ⟨i, rfl, hi, ⟨r0, r3, rd⟩, e, hall⟩
    subst H1
    by_cases hie : i = xs.length
    · subst hie
      rw [List.take_length] at hall
      simp (disch := omega) only [go_sem, ↓cw_block, dsB_of, r0, r3, rd, dsB_of]
      exact fin ⟨by rw [hall], rfl⟩
    · obtain ⟨x, hxi⟩ : ∃ x, xs[i]? = some x := ⟨_, List.getElem?_eq_getElem (by omega)⟩
      obtain ⟨b', o', e, kx⟩ := hx i x hxi
      subst e
      have hi1 : (i : Int) + 1 = ((i + 1 : Nat) : Int) := by omega
      have htk : xs.take (i + 1) = xs.take i ++ [x] := by rw [List.take_add_one, hxi]; rfl
      simp (disch := omega) only [go_sem, ↓cw_block, dsB_of, r0, r3, rd, kx]
      refine call_to rLiteral_spec ?_
      rintro v H2 ⟨rfl, e⟩
      subst H2
      cases hl : litB x with
      | true =>
        simp (disch := omega) only [go_sem, ↓cw_block, dsB_of, r3]
        exact fin ⟨xs.length - (i + 1), by omega, i + 1, rfl, by omega, by simp (disch := omega) only [go_sem, ↓cw_block, dsB_of, r0, r3, rd, hi1], rfl, by rw [htk, List.all_append, hall]; simp [hl]⟩
      | false =>
        simp (disch := omega) only [go_sem, ↓cw_block, dsB_of, r3, rd, dsB_of]
        refine fin ⟨?_, rfl⟩
        have : xs.all litB = false := by
          rw [List.all_eq_false]
          exact ⟨x, List.mem_of_getElem? hxi, by simp [hl]⟩
        rw [this]
/-- A matrix of numbers that can be read, below some block. -/
structure RL (N : Nat) (H : Heap) (a : Option Addr) (css : List (List Int)) : Prop where
  ex : ∀ (i : Nat) (c : List Int), css[i]? = some c → ∃ b o ra rc, a = some ⟨b, o, none⟩ ∧ b < N ∧ cellH H ⟨b, o + i, none⟩ = some (.slice ra c.length rc) ∧ Rn H ra c ∧ (c ≠ [] → ∀ b' o', ra = some ⟨b', o', none⟩ → b' < N)
theorem cell_same {H' : Heap} {b o : Nat} {v : Value} (hs : H'[b]? = H[b]?) (h : cellH H ⟨b, o, none⟩ = some v) : cellH H' ⟨b, o, none⟩ = some v := by
  unfold cellH at h ⊢
  rw [hs]; exact h
theorem Rn.same {H' : Heap} {N : Nat} {a : Option Addr} {xs : List Int} (h : Rn H a xs) (hN : xs ≠ [] → ∀ b o, a = some ⟨b, o, none⟩ → b < N) (hs : ∀ b, b < N → H'[b]? = H[b]?) : Rn H' a xs := fun i x hi => by
  obtain ⟨b, o, e, hc⟩ := h i x hi
  exact ⟨b, o, e, cell_same (hs b (hN (fun e0 => by rw [e0] at hi; simp at hi) b o e)) hc⟩
theorem RL.same {H' : Heap} {N : Nat} {a : Option Addr} {css : List (List Int)} (h : RL N H a css) (hs : ∀ b, b < N → H'[b]? = H[b]?) : RL N H' a css := ⟨fun i c hi => by
  obtain ⟨b, o, ra, rc, e, hb, hc, hr, hn⟩ := h.ex i c hi
  exact ⟨b, o, ra, rc, e, hb, cell_same (hs b hb) hc, hr.same hn hs, hn⟩⟩
theorem rGreatest_spec {b o c : Nat} {ra : Option Addr} {xs : List Int} {rc : Nat} (hb : cellH H ⟨b, o, none⟩ = some (.slice ra xs.length rc)) (hx : Rn H ra xs) (hlen : xs.length ≤ 1000000) :
    CallF Try.prog 19 [.slice (some ⟨b, o, none⟩) 1 c] H (fun v H' => v = iv (grt xs : Nat) ∧ H' = H) NoP := by
  have hb' : cellH H ⟨b, o + 0, none⟩ = some (.slice ra xs.length rc) := hb
  refine callF_of Try.func19 rfl Try.ntmps19 Try.results19 (by decide) rfl ?_
  simp (disch := omega) only [go_sem, ↓cw_block, dsB_of]
  refine loop_by (fun j ρ H1 => ∃ i : Nat, j = 1 - i ∧ i ≤ 1 ∧ (ρ.get 0 = .slice (some ⟨b, o, none⟩) 1 c ∧ ρ.get 4 = iv i ∧ ρ.get 3 = iv ((if i = 0 then 0 else grt xs : Nat) : Int) ∧ ρ.ds = []) ∧ H1 = H) (k := 1) ?_ ?_
  · exact ⟨0, rfl, by omega, by simp (disch := omega) only [go_sem, ↓cw_block, dsB_of], rfl⟩
  · rintro _ ρ H1 ⟨i, rfl, hi, ⟨r0, r4, r3, rd⟩, e⟩
    subst H1
    by_cases h1 : i = 1
    · subst h1
      have r4' : ρ.get 4 = iv 1 := r4
      simp (disch := omega) only [go_sem, ↓cw_block, dsB_of, r0, r4', r3, rd, dsB_of]
      exact fin ⟨rfl, rfl⟩
    · have h0 : i = 0 := by omega
      subst h0
      rw [if_pos rfl] at r3
      have r4' : ρ.get 4 = iv 0 := r4
      have r3' : ρ.get 3 = iv 0 := r3
      simp (disch := omega) only [go_sem, dsB_of, r0, r4', r3', hb, hb']
      refine cut_at (fun ρ H1 => (ρ.get 0 = .slice (some ⟨b, o, none⟩) 1 c ∧ ρ.get 4 = iv 0 ∧ ρ.get 3 = iv (grt xs : Nat) ∧ ρ.ds = []) ∧ H1 = H) ?_ ?_
      · simp (disch := omega) only [go_sem, ↓cw_block, dsB_of, r0, r4', r3', hb, hb']
        refine loop_by (fun j ρ H1 => ∃ i : Nat, j = xs.length - i ∧ i ≤ xs.length ∧ (ρ.get 0 = .slice (some ⟨b, o, none⟩) 1 c ∧ ρ.get 4 = iv 0 ∧ ρ.get 5 = iv i ∧ ρ.get 3 = iv (grt (xs.take i) : Nat) ∧ ρ.ds = []) ∧ H1 = H) (k := xs.length) ?_ ?_
        · exact ⟨0, rfl, by omega, by simp (disch := omega) only [go_sem, ↓cw_block, dsB_of, r0, r4', r3', rd]; rfl, rfl⟩
        · rintro _ ρ H1 ⟨i, rfl, hi, ⟨r0, r4, r5, r3, rd⟩, e⟩
          subst H1
          by_cases hie : i = xs.length
          · subst hie
            rw [List.take_length] at r3
            simp (disch := omega) only [go_sem, ↓cw_block, dsB_of, r0, r4, r5, r3, rd, hb, hb']
            exact fin ⟨by simp (disch := omega) only [go_sem, ↓cw_block, dsB_of, r0, r4, r5, r3, rd], rfl⟩
          · obtain ⟨x, hxi⟩ : ∃ x, xs[i]? = some x := ⟨_, List.getElem?_eq_getElem (by omega)⟩
            obtain ⟨b', o', e, kx⟩ := hx i x hxi
            subst e
            have hi1 : (i : Int) + 1 = ((i + 1 : Nat) : Int) := by omega
            have htk : xs.take (i + 1) = xs.take i ++ [x] := by rw [List.take_add_one, hxi]; rfl
            have hgt := grt_add (l := xs.take i) (x := x)
            rw [← htk] at hgt
            simp (disch := omega) only [go_sem, ↓cw_block, dsB_of, r0, r4, r5, r3, rd, hb, hb', kx]
            refine call_to rLiteral_spec ?_
            rintro v H2 ⟨rfl, e⟩
            subst H2
            cases hl : litB x with
            | true =>
              rw [hl, if_pos rfl] at hgt
              simp (disch := omega) only [go_sem, ↓cw_block, dsB_of, r0, r4, r5, r3, rd, hb, hb', kx]
              refine call_to (rAbs_spec (litB_le hl)) ?_
              rintro v H2 ⟨rfl, e⟩
              subst H2
              by_cases hgx : grt (xs.take i) < x.natAbs
              · simp (disch := omega) only [go_sem, ↓cw_block, dsB_of, r0, r4, r5, r3, rd, hb, hb', kx]
                refine call_to (rAbs_spec (litB_le hl)) ?_
                rintro v H2 ⟨rfl, e⟩
                subst H2
                have hmx : ((x.natAbs : Nat) : Int) = ((grt (xs.take (i + 1)) : Nat) : Int) := by rw [hgt]; omega
                simp (disch := omega) only [go_sem, ↓cw_block, dsB_of, r0, r4, r5, r3, rd]
                exact fin ⟨xs.length - (i + 1), by omega, i + 1, rfl, by omega, by simp (disch := omega) only [go_sem, ↓cw_block, dsB_of, r0, r4, r5, r3, rd, hi1, hmx], rfl⟩
              · have hmx : ((grt (xs.take i) : Nat) : Int) = ((grt (xs.take (i + 1)) : Nat) : Int) := by rw [hgt]; omega
                rw [hmx] at r3
                have hgx' : ¬ ((grt (xs.take (i + 1)) : Nat) : Int) < ((x.natAbs : Nat) : Int) := by omega
                simp (disch := omega) only [go_sem, ↓cw_block, dsB_of, r0, r4, r5, r3, rd, hb, hb', kx]
                exact fin ⟨xs.length - (i + 1), by omega, i + 1, rfl, by omega, by simp (disch := omega) only [go_sem, ↓cw_block, dsB_of, r0, r4, r5, r3, rd, hi1], rfl⟩
            | false =>
              rw [hl, if_neg (by simp)] at hgt
              rw [← hgt] at r3
              simp (disch := omega) only [go_sem, ↓cw_block, dsB_of, r0, r4, r5, r3, rd]
              exact fin ⟨xs.length - (i + 1), by omega, i + 1, rfl, by omega, by simp (disch := omega) only [go_sem, ↓cw_block, dsB_of, r0, r4, r5, r3, rd, hi1], rfl⟩
      · rintro ρ H1 ⟨⟨r0, r4, r3, rd⟩, e⟩
        subst H1
        simp (disch := omega) only [go_sem, ↓cw_block, dsB_of, r0, r4, r3, rd]
        exact fin ⟨0, by omega, 1, rfl, by omega, by simp (disch := omega) only [go_sem, ↓cw_block, dsB_of, r0, r4, r3, rd]; rfl, rfl⟩
end
end Go.Proofs.Ythghkhpclemmlaa

